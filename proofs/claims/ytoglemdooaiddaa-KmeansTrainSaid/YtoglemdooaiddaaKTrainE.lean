/- The contract of kmeans.Train where the question is refused. -/
import Derived.Test.YtoglemdooaiddaaKRoundW
namespace Go.Proofs.Ytoglemdooaiddaa
open Go.RowKit
set_option linter.unusedVariables false

def TrainBad (w : World) (f : Int) (e : Ending) (w' : World) : Prop := e = .returned (.tuple #[.slice none 0 0, .int .i64 f]) ∧ Below w.heap.size w w'
/-- The boxes of l and k. -/
def Box2 (w : World) (A : Option Addr) (n cl : Nat) (k : Int) (w' : World) : Prop := Below w.heap.size w w' ∧ Blk w' w.heap.size 22 #[.slice A n cl] ∧ Blk w' (w.heap.size + 1) 3 #[.int .i64 k]
theorem Box2.start (w : World) (A : Option Addr) (n cl : Nat) (k : Int) : Box2 w A n cl k ((w.alloc (.cells #[.slice A n cl] 22)).alloc (.cells #[.int .i64 k] 3)) := by
  have b1 := (Blk.new w 22 #[.slice A n cl]).alloc (.cells #[.int .i64 k] 3)
  have b2 := Blk.new (w.alloc (.cells #[.slice A n cl] 22)) 3 #[.int .i64 k]
  rw [show (w.alloc (.cells #[.slice A n cl] 22)).heap.size = w.heap.size + 1 by simp] at b2
  exact ⟨(below_alloc1 _ _).alloc (by simp) _, b1, b2⟩
theorem Box2.cells {w w' : World} {A : Option Addr} {n cl : Nat} {k : Int} (h : Box2 w A n cl k w') : w'.cell? ⟨w.heap.size, 0, none⟩ = some (.slice A n cl) ∧ w'.cell? ⟨w.heap.size + 1, 0, none⟩ = some (.int .i64 k) := ⟨h.2.1.cell 0, h.2.2.cell 0⟩

theorem train_arg (A : Option Addr) (n cl : Nat) (k r s : Int) (w : World) (h : k < 1 ∨ 64 < k ∨ r < 0 ∨ 20 < r) :
    Calls Try.prog 10 #[.slice A n cl, .int .i64 k, .int .i64 r, .int .u64 s] w (TrainBad w 1) := by
  have B := Box2.start w A n cl k
  by_cases h1 : k < 1
  · clear h
    go_enter Try.func10, Try.ntmps10
    go_wp2_with fail
    go_ret2
    exact ⟨rfl, B.1⟩
  have g1 : 1 ≤ k := by omega
  by_cases h2 : 64 < k
  · clear h h1
    go_enter Try.func10, Try.ntmps10
    go_wp2_with fail
    go_ret2
    exact ⟨rfl, B.1⟩
  have g2 : k ≤ 64 := by omega
  by_cases h3 : r < 0
  · clear h h1 h2
    go_enter Try.func10, Try.ntmps10
    go_wp2_with fail
    go_ret2
    exact ⟨rfl, B.1⟩
  have g3 : 0 ≤ r := by omega
  have h4 : 20 < r := by omega
  clear h h1 h2 h3
  go_enter Try.func10, Try.ntmps10
  go_wp2_with fail
  go_ret2
  exact ⟨rfl, B.1⟩

theorem train_long (A : Option Addr) (n cl : Nat) (k r s : Int) (w : World) (h1 : 1 ≤ k) (h2 : k ≤ 64) (h3 : 0 ≤ r) (h4 : r ≤ 20) (h5 : 512 < n) :
    Calls Try.prog 10 #[.slice A n cl, .int .i64 k, .int .i64 r, .int .u64 s] w (TrainBad w 2) := by
  have B := Box2.start w A n cl k
  have h5' : (512 : Int) < (n : Int) := by omega
  clear h5
  go_enter Try.func10, Try.ntmps10
  go_wp2_with fail
  go_ret2
  exact ⟨rfl, B.1⟩

theorem train_few (A : Option Addr) (n cl : Nat) (k r s : Int) (w : World) (h1 : 1 ≤ k) (h2 : k ≤ 64) (h3 : 0 ≤ r) (h4 : r ≤ 20) (h5 : n ≤ 512) (h6 : (n : Int) < k) :
    Calls Try.prog 10 #[.slice A n cl, .int .i64 k, .int .i64 r, .int .u64 s] w (TrainBad w 60) := by
  have B := Box2.start w A n cl k
  have h5' : (n : Int) ≤ 512 := by omega
  clear h5
  go_enter Try.func10, Try.ntmps10
  go_wp2_with fail
  go_ret2
  exact ⟨rfl, B.1⟩

/-- The boxes of l, k and the dimension. -/
def Box3 (w : World) (A : Option Addr) (n cl : Nat) (k d : Int) (w' : World) : Prop := Below w.heap.size w w' ∧ Blk w' w.heap.size 22 #[.slice A n cl] ∧ Blk w' (w.heap.size + 1) 3 #[.int .i64 k] ∧ Blk w' (w.heap.size + 2) 3 #[.int .i64 d]
theorem Box3.start {w w2 : World} {A : Option Addr} {n cl : Nat} {k : Int} (h : Box2 w A n cl k w2) (hs : w2.heap.size = w.heap.size + 2) (d : Int) : Box3 w A n cl k d (w2.alloc (.cells #[.int .i64 d] 3)) := by
  have b3 := Blk.new w2 3 #[.int .i64 d]
  rw [hs] at b3
  exact ⟨below_chain h.1 (below_alloc1 _ _) h.1.size, h.2.1.alloc _, h.2.2.alloc _, b3⟩
theorem Box3.cells {w w' : World} {A : Option Addr} {n cl : Nat} {k d : Int} (h : Box3 w A n cl k d w') : w'.cell? ⟨w.heap.size, 0, none⟩ = some (.slice A n cl) ∧ w'.cell? ⟨w.heap.size + 1, 0, none⟩ = some (.int .i64 k) ∧ w'.cell? ⟨w.heap.size + 2, 0, none⟩ = some (.int .i64 d) := ⟨h.2.1.cell 0, h.2.2.1.cell 0, h.2.2.2.cell 0⟩

theorem train_vec (A : Option Addr) (l : List (List Int)) (cl : Nat) (k r s : Int) (w : World) (hm : Mat w A l) (h1 : 1 ≤ k) (h2 : k ≤ 64) (h3 : 0 ≤ r) (h4 : r ≤ 20) (h5 : l.length ≤ 512) (h6 : k ≤ (l.length : Int)) (h7 : allE l (mrow l 0).length ≠ 0) :
    Calls Try.prog 10 #[.slice A l.length cl, .int .i64 k, .int .i64 r, .int .u64 s] w (TrainBad w (allE l (mrow l 0).length)) := by
  have B := Box2.start w A l.length cl k
  have hz : ((w.alloc (.cells #[.slice A l.length cl] 22)).alloc (.cells #[.int .i64 k] 3)).heap.size = w.heap.size + 2 := by simp
  have B3 := Box3.start B hz (mrow l 0).length
  obtain ⟨g, o, R, rc, hA, hc, hR⟩ := hm 0 (by omega)
  rw [Nat.add_zero] at hc
  have p1 : (0 : Int) < (l.length : Int) := by omega
  have h5' : (l.length : Int) ≤ 512 := by omega
  have hE := Lib.hid (all_any A l cl (mrow l 0).length h5 _ (hm.below B3.1))
  have hne : (allE l (mrow l 0).length != 0) = true := by simpa using h7
  have d1 := below_cell B.1 hc
  generalize allE l (mrow l 0).length = E at *
  subst hA
  clear h5 h7
  go_enter Try.func10, Try.ntmps10
  go_upto_region 7 with fail
  generalize ((w.alloc (.cells #[.slice (some ⟨g, o, none⟩) l.length cl] 22)).alloc (.cells #[.int .i64 k] 3)) = w2 at *
  obtain ⟨c1, c2⟩ := B.cells
  have c3 := B3.cells.1
  have c4 := B3.cells.2.2
  go_wp2_with fail
  with_reducible refine hE.out.mono ?_
  rintro e w3 ⟨rfl, rfl⟩
  go_wp2_with fail
  go_ret2
  exact ⟨rfl, B3.1⟩
end Go.Proofs.Ytoglemdooaiddaa
