/- The contract of theodolitelaw06.awake: true. -/
import Derived.Test.YtoglemdooaiddaaKTrainA
import Derived.Test.YtoglemdooaiddaaKeep
namespace Go.Proofs.Ytoglemdooaiddaa
open Go.RowKit
set_option linter.unusedVariables false

theorem near_ex (A V : Option Addr) (w : World) (hm : Mat w A [[0], [10]]) (hV : Row w V [6]) :
    Calls Try.prog 15 #[.slice A 2 2, .slice V 1 1] w fun e w' => e = .returned (.tuple #[.int .i64 1, .agg #[.int .u64 0, .int .u64 16], .int .i64 0]) ∧ Below w.heap.size w w' := by
  have h := Near_any A [[0], [10]] 2 V [6] 1 w hm hV
  rw [ex_nearAt, ex_nearD, ex_nearE] at h
  exact h
theorem cost_ex (A V : Option Addr) (w : World) (hm : Mat w A [[0], [10]]) (hV : Mat w V [[1], [11], [4]]) :
    Calls Try.prog 17 #[.slice A 2 2, .slice V 3 3] w fun e w' => e = .returned (.tuple #[.agg #[.int .u64 0, .int .u64 18], .int .i64 0]) ∧ Below w.heap.size w w' := by
  have h := Cost_any A [[0], [10]] 2 V [[1], [11], [4]] 3 w hm hV
  rw [ex_costN, ex_costE] at h
  exact h

set_option maxRecDepth 100000 in
set_option maxHeartbeats 4000000 in
theorem awake_any (w : World) : Calls Try.prog 14 #[] w fun e w' => e = .returned (.bool true) ∧ Below w.heap.size w w' := by
  have M1 := mat2 w (-3) 0
  have B1 : Below w.heap.size w (((w.alloc (.cells #[.int .i64 (-3)] 3)).alloc (.cells #[.int .i64 0] 3)).alloc (.cells #[.slice (some ⟨w.heap.size, 0, none⟩) 1 1, .slice (some ⟨w.heap.size + 1, 0, none⟩) 1 1] 30)) := (((below_alloc1 _ _).alloc (by simp) _).alloc (by simp; omega) _)
  go_enter Try.func14, Try.ntmps14
  go_wp2_with fail
  generalize (((w.alloc (.cells #[.int .i64 (-3)] 3)).alloc (.cells #[.int .i64 0] 3)).alloc (.cells #[.slice (some ⟨w.heap.size, 0, none⟩) 1 1, .slice (some ⟨w.heap.size + 1, 0, none⟩) 1 1] 30)) = w1 at *
  refine (train_good (some ⟨w.heap.size + 2, 0, none⟩) [[-3], [0]] 2 1 1 5 w1 M1 ex_trainE).mono ?_
  rw [show trainN [[-3], [0]] (1 : Int).toNat (1 : Int).toNat 5 = [[-2]] from ex_train]
  rintro e w2 ⟨gc, G, K, rfl, hg, hb⟩
  replace B1 := below_chain B1 hb B1.size
  clear M1 hb
  go_wp2_with fail
  refine (train_bad none [] 0 1 1 5 w2 Mat.nil_ (by rw [ex_trainF]; decide)).mono ?_
  rw [ex_trainF]
  rintro e w3 ⟨rfl, hb⟩
  replace B1 := below_chain B1 hb B1.size
  replace hg := hg.below hb
  clear hb
  have M3 := (mat2 w3 0 10).below (below_alloc1 _ (.cells #[.int .i64 6] 3))
  have R3 := row_new (((w3.alloc (.cells #[.int .i64 0] 3)).alloc (.cells #[.int .i64 10] 3)).alloc (.cells #[.slice (some ⟨w3.heap.size, 0, none⟩) 1 1, .slice (some ⟨w3.heap.size + 1, 0, none⟩) 1 1] 30)) 6
  rw [show (((w3.alloc (.cells #[.int .i64 0] 3)).alloc (.cells #[.int .i64 10] 3)).alloc (.cells #[.slice (some ⟨w3.heap.size, 0, none⟩) 1 1, .slice (some ⟨w3.heap.size + 1, 0, none⟩) 1 1] 30)).heap.size = w3.heap.size + 3 by simp] at R3
  have B3 : Below w3.heap.size w3 ((((w3.alloc (.cells #[.int .i64 0] 3)).alloc (.cells #[.int .i64 10] 3)).alloc (.cells #[.slice (some ⟨w3.heap.size, 0, none⟩) 1 1, .slice (some ⟨w3.heap.size + 1, 0, none⟩) 1 1] 30)).alloc (.cells #[.int .i64 6] 3)) := ((((below_alloc1 _ _).alloc (by simp) _).alloc (by simp; omega) _).alloc (by simp; omega) _)
  go_wp2_with fail
  generalize ((((w3.alloc (.cells #[.int .i64 0] 3)).alloc (.cells #[.int .i64 10] 3)).alloc (.cells #[.slice (some ⟨w3.heap.size, 0, none⟩) 1 1, .slice (some ⟨w3.heap.size + 1, 0, none⟩) 1 1] 30)).alloc (.cells #[.int .i64 6] 3)) = w4 at *
  refine (near_ex (some ⟨w3.heap.size + 2, 0, none⟩) (some ⟨w3.heap.size + 3, 0, none⟩) w4 M3 R3).mono ?_
  rintro e w5 ⟨rfl, hb⟩
  replace B3 := below_chain B3 hb B3.size
  replace B1 := below_chain B1 B3 B1.size
  replace hg := hg.below B3
  clear M3 R3 hb B3
  have b5 := Blk.new w5 34 #[.int .u64 0, .int .u64 16]
  have hg5 := hg.below (below_alloc1 w5 (.cells #[.int .u64 0, .int .u64 16] 34))
  have B5 := below_chain B1 (below_alloc1 w5 (.cells #[.int .u64 0, .int .u64 16] 34)) B1.size
  go_upto_region 4 with fail
  generalize w5.alloc (.cells #[.int .u64 0, .int .u64 16] 34) = w6 at *
  have M6 := mat2 w6 0 10
  have z6 : (((w6.alloc (.cells #[.int .i64 0] 3)).alloc (.cells #[.int .i64 10] 3)).alloc (.cells #[.slice (some ⟨w6.heap.size, 0, none⟩) 1 1, .slice (some ⟨w6.heap.size + 1, 0, none⟩) 1 1] 30)).heap.size = w6.heap.size + 3 := by simp
  have B6 : Below w6.heap.size w6 (((w6.alloc (.cells #[.int .i64 0] 3)).alloc (.cells #[.int .i64 10] 3)).alloc (.cells #[.slice (some ⟨w6.heap.size, 0, none⟩) 1 1, .slice (some ⟨w6.heap.size + 1, 0, none⟩) 1 1] 30)) := (((below_alloc1 _ _).alloc (by simp) _).alloc (by simp; omega) _)
  go_wp2_with fail
  generalize (((w6.alloc (.cells #[.int .i64 0] 3)).alloc (.cells #[.int .i64 10] 3)).alloc (.cells #[.slice (some ⟨w6.heap.size, 0, none⟩) 1 1, .slice (some ⟨w6.heap.size + 1, 0, none⟩) 1 1] 30)) = w7 at *
  have M8 := mat3 w7 1 11 4
  have B8 : Below w7.heap.size w7 ((((w7.alloc (.cells #[.int .i64 1] 3)).alloc (.cells #[.int .i64 11] 3)).alloc (.cells #[.int .i64 4] 3)).alloc (.cells #[.slice (some ⟨w7.heap.size, 0, none⟩) 1 1, .slice (some ⟨w7.heap.size + 1, 0, none⟩) 1 1, .slice (some ⟨w7.heap.size + 2, 0, none⟩) 1 1] 30)) := (((below_alloc1 _ _).alloc (by simp) _).alloc (by simp; omega) _).alloc (by simp; omega) _
  rw [z6] at M8 B8
  have B7 : Below w6.heap.size w6 _ := below_chain B6 (by rw [z6]; exact B8) B6.size
  have M7 := M6.below (by rw [z6]; exact B8)
  refine (cost_ex (some ⟨w6.heap.size + 2, 0, none⟩) (some ⟨w6.heap.size + 3 + 3, 0, none⟩) _ M7 M8).mono ?_
  rintro e w9 ⟨rfl, hb⟩
  have B9 : Below w6.heap.size w6 w9 := below_chain B7 hb B7.size
  clear M6 M7 M8 B6 B7 B8 hb z6 hg B1
  replace hg5 := hg5.below B9
  replace b5 := b5.below B9 b5.lt
  replace B5 := below_chain B5 B9 B5.size
  have b10 := Blk.new w9 34 #[.int .u64 0, .int .u64 18]
  have hg10 := hg5.below (below_alloc1 w9 (.cells #[.int .u64 0, .int .u64 18] 34))
  have b11 := b5.alloc (.cells #[.int .u64 0, .int .u64 18] 34)
  have B10 := below_chain B5 (below_alloc1 w9 (.cells #[.int .u64 0, .int .u64 18] 34)) B5.size
  have l9 := b5.lt
  clear b5 hg5 B5 B9
  go_upto_region 5 with fail
  generalize hw9 : w9.heap.size = z9 at *
  generalize w9.alloc (.cells #[.int .u64 0, .int .u64 18] 34) = w10 at *
  have c0 : w10.cell? ⟨gc, 0, none⟩ = some (.slice (some ⟨G 0, 0, none⟩) 1 (K 0)) := hg10.top 0 (by simp)
  have rG : Row w10 (some ⟨G 0, 0, none⟩) [-2] := fun x hx => ⟨G 0, 0, rfl, by rw [Nat.zero_add]; exact hg10.row 0 (by simp) x hx⟩
  have R2 := row_new w10 (-2)
  have b12 := b11.alloc (.cells #[.int .i64 (-2)] 3)
  have b13 := b10.alloc (.cells #[.int .i64 (-2)] 3)
  have c1 : (w10.alloc (.cells #[.int .i64 (-2)] 3)).cell? ⟨w5.heap.size, 0, none⟩ = some (.int .u64 0) := b12.cell 0
  have c2 : (w10.alloc (.cells #[.int .i64 (-2)] 3)).cell? ⟨w5.heap.size, 1, none⟩ = some (.int .u64 16) := b12.cell 1
  have c3 : (w10.alloc (.cells #[.int .i64 (-2)] 3)).cell? ⟨z9, 0, none⟩ = some (.int .u64 0) := b13.cell 0
  have c4 : (w10.alloc (.cells #[.int .i64 (-2)] 3)).cell? ⟨z9, 1, none⟩ = some (.int .u64 18) := b13.cell 1
  have B11 := below_chain B10 (below_alloc1 w10 (.cells #[.int .i64 (-2)] 3)) B10.size
  have rG11 := rG.below (below_alloc1 w10 (.cells #[.int .i64 (-2)] 3))
  go_wp2_with fail
  generalize w10.alloc (.cells #[.int .i64 (-2)] 3) = w11 at *
  have rG2 : Row w11 (some ⟨G 0, 0, none⟩) [-2] := rG11
  refine (ints_any (some ⟨G 0, 0, none⟩) (some ⟨w10.heap.size, 0, none⟩) [-2] [-2] (K 0) 1 w11 rG2 R2 (by simp)).mono ?_
  rw [decide_eq_true (rfl : ([-2] : List Int) = [-2])]
  rintro e w12 ⟨rfl, ⟨q, rfl⟩⟩
  go_wp2_with fail
  go_ret
  exact ⟨rfl, below_chain B11 ((Drawn.refl w11).more q |>.below _) B11.size⟩
end Go.Proofs.Ytoglemdooaiddaa
