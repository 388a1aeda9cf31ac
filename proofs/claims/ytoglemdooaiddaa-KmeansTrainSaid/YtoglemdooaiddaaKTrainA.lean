/- The contract of kmeans.Train, whatever is asked. -/
import Derived.Test.YtoglemdooaiddaaKTrainW
import Derived.Test.YtoglemdooaiddaaKCost
namespace Go.Proofs.Ytoglemdooaiddaa
open Go.RowKit
set_option linter.unusedVariables false

theorem train_bad (A : Option Addr) (l : List (List Int)) (cl : Nat) (k r s : Int) (w : World) (hm : Mat w A l) (h : trainE l k r ≠ 0) :
    Calls Try.prog 10 #[.slice A l.length cl, .int .i64 k, .int .i64 r, .int .u64 s] w (TrainBad w (trainE l k r)) := by
  by_cases h1 : k < 1 ∨ 64 < k ∨ r < 0 ∨ 20 < r
  · rw [trainE, if_pos h1]; exact train_arg A _ cl k r s w h1
  by_cases h2 : 512 < l.length
  · rw [trainE, if_neg h1, if_pos h2]; exact train_long A _ cl k r s w (by omega) (by omega) (by omega) (by omega) h2
  by_cases h3 : (l.length : Int) < k
  · rw [trainE, if_neg h1, if_neg h2, if_pos h3]; exact train_few A _ cl k r s w (by omega) (by omega) (by omega) (by omega) (by omega) h3
  rw [trainE, if_neg h1, if_neg h2, if_neg h3] at h ⊢
  exact train_vec A l cl k r s w hm (by omega) (by omega) (by omega) (by omega) (by omega) (by omega) h
theorem train_good (A : Option Addr) (l : List (List Int)) (cl : Nat) (k r s : Int) (w : World) (hm : Mat w A l) (h : trainE l k r = 0) :
    Calls Try.prog 10 #[.slice A l.length cl, .int .i64 k, .int .i64 r, .int .u64 s] w (TrainGood w (trainN l k.toNat r.toNat s)) := by
  obtain ⟨h1, h2, h3, h4, h5, h6, h7⟩ := trainE_ok h
  have e := train_ok A l cl k.toNat r.toNat s w hm (by omega) (by omega) (by omega) h5 (by omega) h7
  rw [show ((k.toNat : Nat) : Int) = k by omega, show ((r.toNat : Nat) : Int) = r by omega] at e
  exact e

/-! ### Lists of rows that are written out -/
theorem row_new (w : World) (x : Int) : Row (w.alloc (.cells #[.int .i64 x] 3)) (some ⟨w.heap.size, 0, none⟩) [x] := Row.of_blk (l := [x]) (Blk.new w 3 #[.int .i64 x])
theorem mat2 (w : World) (a b : Int) : Mat (((w.alloc (.cells #[.int .i64 a] 3)).alloc (.cells #[.int .i64 b] 3)).alloc (.cells #[.slice (some ⟨w.heap.size, 0, none⟩) 1 1, .slice (some ⟨w.heap.size + 1, 0, none⟩) 1 1] 30)) (some ⟨w.heap.size + 2, 0, none⟩) [[a], [b]] := by
  have r1 := ((row_new w a).below (below_alloc1 _ (.cells #[.int .i64 b] 3))).below (below_alloc1 _ (.cells #[.slice (some ⟨w.heap.size, 0, none⟩) 1 1, .slice (some ⟨w.heap.size + 1, 0, none⟩) 1 1] 30))
  have r2 := (row_new (w.alloc (.cells #[.int .i64 a] 3)) b).below (below_alloc1 _ (.cells #[.slice (some ⟨w.heap.size, 0, none⟩) 1 1, .slice (some ⟨w.heap.size + 1, 0, none⟩) 1 1] 30))
  have b3 := Blk.new ((w.alloc (.cells #[.int .i64 a] 3)).alloc (.cells #[.int .i64 b] 3)) 30 #[.slice (some ⟨w.heap.size, 0, none⟩) 1 1, .slice (some ⟨w.heap.size + 1, 0, none⟩) 1 1]
  rw [show (w.alloc (.cells #[.int .i64 a] 3)).heap.size = w.heap.size + 1 by simp] at r2
  rw [show ((w.alloc (.cells #[.int .i64 a] 3)).alloc (.cells #[.int .i64 b] 3)).heap.size = w.heap.size + 2 by simp] at b3
  intro i hi
  match i, hi with
  | 0, _ => exact ⟨_, 0, _, 1, rfl, b3.cell 0, r1⟩
  | 1, _ => exact ⟨_, 0, _, 1, rfl, b3.cell 1, r2⟩
theorem mat3 (w : World) (a b c : Int) : Mat ((((w.alloc (.cells #[.int .i64 a] 3)).alloc (.cells #[.int .i64 b] 3)).alloc (.cells #[.int .i64 c] 3)).alloc (.cells #[.slice (some ⟨w.heap.size, 0, none⟩) 1 1, .slice (some ⟨w.heap.size + 1, 0, none⟩) 1 1, .slice (some ⟨w.heap.size + 2, 0, none⟩) 1 1] 30)) (some ⟨w.heap.size + 3, 0, none⟩) [[a], [b], [c]] := by
  have r1 := (((row_new w a).below (below_alloc1 _ (.cells #[.int .i64 b] 3))).below (below_alloc1 _ (.cells #[.int .i64 c] 3))).below (below_alloc1 _ (.cells #[.slice (some ⟨w.heap.size, 0, none⟩) 1 1, .slice (some ⟨w.heap.size + 1, 0, none⟩) 1 1, .slice (some ⟨w.heap.size + 2, 0, none⟩) 1 1] 30))
  have r2 := ((row_new (w.alloc (.cells #[.int .i64 a] 3)) b).below (below_alloc1 _ (.cells #[.int .i64 c] 3))).below (below_alloc1 _ (.cells #[.slice (some ⟨w.heap.size, 0, none⟩) 1 1, .slice (some ⟨w.heap.size + 1, 0, none⟩) 1 1, .slice (some ⟨w.heap.size + 2, 0, none⟩) 1 1] 30))
  have r3 := (row_new ((w.alloc (.cells #[.int .i64 a] 3)).alloc (.cells #[.int .i64 b] 3)) c).below (below_alloc1 _ (.cells #[.slice (some ⟨w.heap.size, 0, none⟩) 1 1, .slice (some ⟨w.heap.size + 1, 0, none⟩) 1 1, .slice (some ⟨w.heap.size + 2, 0, none⟩) 1 1] 30))
  have b3 := Blk.new (((w.alloc (.cells #[.int .i64 a] 3)).alloc (.cells #[.int .i64 b] 3)).alloc (.cells #[.int .i64 c] 3)) 30 #[.slice (some ⟨w.heap.size, 0, none⟩) 1 1, .slice (some ⟨w.heap.size + 1, 0, none⟩) 1 1, .slice (some ⟨w.heap.size + 2, 0, none⟩) 1 1]
  rw [show (w.alloc (.cells #[.int .i64 a] 3)).heap.size = w.heap.size + 1 by simp] at r2
  rw [show ((w.alloc (.cells #[.int .i64 a] 3)).alloc (.cells #[.int .i64 b] 3)).heap.size = w.heap.size + 2 by simp] at r3
  rw [show (((w.alloc (.cells #[.int .i64 a] 3)).alloc (.cells #[.int .i64 b] 3)).alloc (.cells #[.int .i64 c] 3)).heap.size = w.heap.size + 3 by simp] at b3
  intro i hi
  match i, hi with
  | 0, _ => exact ⟨_, 0, _, 1, rfl, b3.cell 0, r1⟩
  | 1, _ => exact ⟨_, 0, _, 1, rfl, b3.cell 1, r2⟩
  | 2, _ => exact ⟨_, 0, _, 1, rfl, b3.cell 2, r3⟩

theorem ex_train : trainN [[-3], [0]] 1 1 5 = [[-2]] := by kernel_rfl
theorem ex_trainE : trainE [[-3], [0]] 1 1 = 0 := by kernel_rfl
theorem ex_trainF : trainE [] 1 1 = 60 := by kernel_rfl
theorem ex_nearE : nearE [[0], [10]] [6] = 0 := by kernel_rfl
theorem ex_nearAt : nearAt [[0], [10]] [6] = 1 := by kernel_rfl
theorem ex_nearD : nearD [[0], [10]] [6] = 16 := by kernel_rfl
theorem ex_costE : costE [[0], [10]] [[1], [11], [4]] = 0 := by kernel_rfl
theorem ex_costN : costN [[0], [10]] [[1], [11], [4]] = 18 := by kernel_rfl
end Go.Proofs.Ytoglemdooaiddaa
