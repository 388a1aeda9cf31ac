/- The contract of pq.Train where the training is refused. -/
import Derived.Test.YtiamppbgpoffmaaPqBook
namespace Go.Proofs.Ytiamppbgpoffmaa
open Go.RowKit
set_option linter.unusedVariables false

def PqBad (w : World) (f : Int) (e : Ending) (w' : World) : Prop := e = .returned (.tuple #[.pointer none, .int .i64 f]) ∧ Below w.heap.size w w'
/-- The boxes of l, parts, codes, rounds and seed. -/
structure PqBox (w : World) (A : Option Addr) (n cl : Nat) (p k r s : Int) (w' : World) : Prop where
  below : Below w.heap.size w w'
  b0 : Blk w' w.heap.size 22 #[.slice A n cl]
  b1 : Blk w' (w.heap.size + 1) 3 #[.int .i64 p]
  b2 : Blk w' (w.heap.size + 2) 3 #[.int .i64 k]
  b3 : Blk w' (w.heap.size + 3) 3 #[.int .i64 r]
  b4 : Blk w' (w.heap.size + 4) 23 #[.int .u64 s]
theorem PqBox.start (w : World) (A : Option Addr) (n cl : Nat) (p k r s : Int) :
    PqBox w A n cl p k r s (((((w.alloc (.cells #[.slice A n cl] 22)).alloc (.cells #[.int .i64 p] 3)).alloc (.cells #[.int .i64 k] 3)).alloc (.cells #[.int .i64 r] 3)).alloc (.cells #[.int .u64 s] 23)) := by
  have b0 := Blk.new w 22 #[.slice A n cl]
  generalize h1 : w.alloc (.cells #[.slice A n cl] 22) = w1 at *
  have s1 : w1.heap.size = w.heap.size + 1 := by rw [← h1]; simp
  have b1 := Blk.new w1 3 #[.int .i64 p]
  rw [s1] at b1
  generalize h2 : w1.alloc (.cells #[.int .i64 p] 3) = w2 at *
  have s2 : w2.heap.size = w.heap.size + 2 := by rw [← h2]; simp [s1]
  have b2 := Blk.new w2 3 #[.int .i64 k]
  rw [s2] at b2
  generalize h3 : w2.alloc (.cells #[.int .i64 k] 3) = w3 at *
  have s3 : w3.heap.size = w.heap.size + 3 := by rw [← h3]; simp [s2]
  have b3 := Blk.new w3 3 #[.int .i64 r]
  rw [s3] at b3
  generalize h4 : w3.alloc (.cells #[.int .i64 r] 3) = w4 at *
  have s4 : w4.heap.size = w.heap.size + 4 := by rw [← h4]; simp [s3]
  have b4 := Blk.new w4 23 #[.int .u64 s]
  rw [s4] at b4
  have e1 : Below w.heap.size w w1 := by rw [← h1]; exact below_alloc1 _ _
  have e2 : Below w.heap.size w w2 := by rw [← h2]; exact e1.alloc (by omega) _
  have e3 : Below w.heap.size w w3 := by rw [← h3]; exact e2.alloc (by omega) _
  have e4 : Below w.heap.size w w4 := by rw [← h4]; exact e3.alloc (by omega) _
  have t1 : Blk w2 w.heap.size 22 #[.slice A n cl] := by rw [← h2]; exact b0.alloc _
  have t2 : Blk w3 w.heap.size 22 #[.slice A n cl] := by rw [← h3]; exact t1.alloc _
  have t3 : Blk w4 w.heap.size 22 #[.slice A n cl] := by rw [← h4]; exact t2.alloc _
  have u2 : Blk w3 (w.heap.size + 1) 3 #[.int .i64 p] := by rw [← h3]; exact b1.alloc _
  have u3 : Blk w4 (w.heap.size + 1) 3 #[.int .i64 p] := by rw [← h4]; exact u2.alloc _
  have v3 : Blk w4 (w.heap.size + 2) 3 #[.int .i64 k] := by rw [← h4]; exact b2.alloc _
  exact ⟨e4.alloc (by omega) _, t3.alloc _, u3.alloc _, v3.alloc _, b3.alloc _, b4⟩
theorem PqBox.cells {w w' : World} {A : Option Addr} {n cl : Nat} {p k r s : Int} (h : PqBox w A n cl p k r s w') :
    w'.cell? ⟨w.heap.size, 0, none⟩ = some (.slice A n cl) ∧ w'.cell? ⟨w.heap.size + 1, 0, none⟩ = some (.int .i64 p) ∧ w'.cell? ⟨w.heap.size + 2, 0, none⟩ = some (.int .i64 k) ∧ w'.cell? ⟨w.heap.size + 3, 0, none⟩ = some (.int .i64 r) ∧ w'.cell? ⟨w.heap.size + 4, 0, none⟩ = some (.int .u64 s) := ⟨h.b0.cell 0, h.b1.cell 0, h.b2.cell 0, h.b3.cell 0, h.b4.cell 0⟩

theorem pq_dim (A : Option Addr) (n cl : Nat) (dim parts k r s : Int) (w : World) (h : dim < 1 ∨ 64 < dim) :
    Calls Try.prog 28 #[.slice A n cl, .int .i64 dim, .int .i64 parts, .int .i64 k, .int .i64 r, .int .u64 s] w (PqBad w 30) := by
  have B := PqBox.start w A n cl parts k r s
  by_cases h1 : dim < 1
  · clear h
    go_enter Try.func28, Try.ntmps28
    go_wp2_with fail
    go_ret2
    exact ⟨rfl, B.below⟩
  have g1 : 1 ≤ dim := by omega
  have h2 : 64 < dim := by omega
  clear h h1
  go_enter Try.func28, Try.ntmps28
  go_wp2_with fail
  go_ret2
  exact ⟨rfl, B.below⟩

theorem pq_arg (A : Option Addr) (n cl : Nat) (dim parts k r s : Int) (w : World) (g1 : 1 ≤ dim) (g2 : dim ≤ 64) (h : parts < 1 ∨ 8 < parts ∨ k < 1 ∨ 16 < k ∨ r < 0 ∨ 20 < r) :
    Calls Try.prog 28 #[.slice A n cl, .int .i64 dim, .int .i64 parts, .int .i64 k, .int .i64 r, .int .u64 s] w (PqBad w 1) := by
  have B := PqBox.start w A n cl parts k r s
  by_cases h1 : parts < 1
  · clear h
    go_enter Try.func28, Try.ntmps28
    go_wp2_with fail
    go_ret2
    exact ⟨rfl, B.below⟩
  have f1 : 1 ≤ parts := by omega
  by_cases h2 : 8 < parts
  · clear h h1
    go_enter Try.func28, Try.ntmps28
    go_wp2_with fail
    go_ret2
    exact ⟨rfl, B.below⟩
  have f2 : parts ≤ 8 := by omega
  by_cases h3 : k < 1
  · clear h h1 h2
    go_enter Try.func28, Try.ntmps28
    go_wp2_with fail
    go_ret2
    exact ⟨rfl, B.below⟩
  have f3 : 1 ≤ k := by omega
  by_cases h4 : 16 < k
  · clear h h1 h2 h3
    go_enter Try.func28, Try.ntmps28
    go_wp2_with fail
    go_ret2
    exact ⟨rfl, B.below⟩
  have f4 : k ≤ 16 := by omega
  by_cases h5 : r < 0
  · clear h h1 h2 h3 h4
    go_enter Try.func28, Try.ntmps28
    go_wp2_with fail
    go_ret2
    exact ⟨rfl, B.below⟩
  have f5 : 0 ≤ r := by omega
  have h6 : 20 < r := by omega
  clear h h1 h2 h3 h4 h5
  go_enter Try.func28, Try.ntmps28
  go_wp2_with fail
  go_ret2
  exact ⟨rfl, B.below⟩

theorem pq_parts (A : Option Addr) (n cl : Nat) (dim parts k r s : Int) (w : World) (g1 : 1 ≤ dim) (g2 : dim ≤ 64) (f1 : 1 ≤ parts) (f2 : parts ≤ 8) (f3 : 1 ≤ k) (f4 : k ≤ 16) (f5 : 0 ≤ r) (f6 : r ≤ 20) (h : dim % parts ≠ 0) :
    Calls Try.prog 28 #[.slice A n cl, .int .i64 dim, .int .i64 parts, .int .i64 k, .int .i64 r, .int .u64 s] w (PqBad w 100) := by
  have B := PqBox.start w A n cl parts k r s
  have hz : (parts == 0) = false := by simp; omega
  have ht : dim.tmod parts = dim % parts := Int.tmod_eq_emod_of_nonneg (by omega)
  go_enter Try.func28, Try.ntmps28
  go_wp2_with fail
  go_ret2
  exact ⟨rfl, B.below⟩

theorem pq_long (A : Option Addr) (n cl : Nat) (dim parts k r s : Int) (w : World) (g1 : 1 ≤ dim) (g2 : dim ≤ 64) (f1 : 1 ≤ parts) (f2 : parts ≤ 8) (f3 : 1 ≤ k) (f4 : k ≤ 16) (f5 : 0 ≤ r) (f6 : r ≤ 20) (h0 : dim % parts = 0) (h : 512 < n) :
    Calls Try.prog 28 #[.slice A n cl, .int .i64 dim, .int .i64 parts, .int .i64 k, .int .i64 r, .int .u64 s] w (PqBad w 2) := by
  have B := PqBox.start w A n cl parts k r s
  have hz : (parts == 0) = false := by simp; omega
  have ht : dim.tmod parts = dim % parts := Int.tmod_eq_emod_of_nonneg (by omega)
  have h' : (512 : Int) < (n : Int) := by omega
  clear h
  go_enter Try.func28, Try.ntmps28
  go_wp2_with fail
  go_ret2
  exact ⟨rfl, B.below⟩

theorem pq_few (A : Option Addr) (n cl : Nat) (dim parts k r s : Int) (w : World) (g1 : 1 ≤ dim) (g2 : dim ≤ 64) (f1 : 1 ≤ parts) (f2 : parts ≤ 8) (f3 : 1 ≤ k) (f4 : k ≤ 16) (f5 : 0 ≤ r) (f6 : r ≤ 20) (h0 : dim % parts = 0) (h : n ≤ 512) (h2 : (n : Int) < k) :
    Calls Try.prog 28 #[.slice A n cl, .int .i64 dim, .int .i64 parts, .int .i64 k, .int .i64 r, .int .u64 s] w (PqBad w 60) := by
  have B := PqBox.start w A n cl parts k r s
  have hz : (parts == 0) = false := by simp; omega
  have ht : dim.tmod parts = dim % parts := Int.tmod_eq_emod_of_nonneg (by omega)
  have h' : (n : Int) ≤ 512 := by omega
  clear h
  go_enter Try.func28, Try.ntmps28
  go_wp2_with fail
  go_ret2
  exact ⟨rfl, B.below⟩

theorem pq_vec (A : Option Addr) (l : List (List Int)) (cl : Nat) (dim parts k r s : Int) (w : World) (hm : Mat w A l) (g1 : 1 ≤ dim) (g2 : dim ≤ 64) (f1 : 1 ≤ parts) (f2 : parts ≤ 8) (f3 : 1 ≤ k) (f4 : k ≤ 16) (f5 : 0 ≤ r) (f6 : r ≤ 20) (h0 : dim % parts = 0) (h1 : l.length ≤ 512) (h2 : k ≤ (l.length : Int)) (h3 : allE l dim ≠ 0) :
    Calls Try.prog 28 #[.slice A l.length cl, .int .i64 dim, .int .i64 parts, .int .i64 k, .int .i64 r, .int .u64 s] w (PqBad w (allE l dim)) := by
  have B := PqBox.start w A l.length cl parts k r s
  have hz : (parts == 0) = false := by simp; omega
  have ht : dim.tmod parts = dim % parts := Int.tmod_eq_emod_of_nonneg (by omega)
  have h' : (l.length : Int) ≤ 512 := by omega
  go_enter Try.func28, Try.ntmps28
  go_upto_region 1 with fail
  generalize (((((w.alloc (.cells #[.slice A l.length cl] 22)).alloc (.cells #[.int .i64 parts] 3)).alloc (.cells #[.int .i64 k] 3)).alloc (.cells #[.int .i64 r] 3)).alloc (.cells #[.int .u64 s] 23)) = w5 at *
  have hm5 := hm.below B.below
  obtain ⟨c0, c1, c2, c3, c4⟩ := B.cells
  replace hm5 := Lib.hid hm5
  clear hm
  go_wp2_with fail
  go_loopw [66] (fun i wr => wr = w5 ∧ ∃ j : Nat, j ≤ l.length ∧ i = .int .i64 (j : Int) ∧ AllOk l dim j) (fun i _ => l.length - (intOf i).toNat)
  case atStart => exact ⟨rfl, 0, Nat.zero_le _, rfl, fun j hj => absurd hj (by omega)⟩
  case round =>
    obtain ⟨rfl, j, hj, rfl, hC⟩ := hrel
    by_cases hlt : j < l.length
    · obtain ⟨g, o, R, rc, rfl, hc1, hR⟩ := hm5.out j hlt
      have p0 : (0 : Int) ≤ (j : Int) := by omega
      have p1 : (j : Int) < (l.length : Int) := by omega
      have hV := Lib.hid (vec_any R (mrow l j) rc dim wr hR)
      by_cases hz2 : vecE (mrow l j) dim = 0
      · have hC' := Lib.hid (hC.succ hz2)
        clear hC
        go_wp2_with fail
        refine hV.out.mono ?_
        rintro e w1 ⟨rfl, rfl⟩
        rw [hz2]
        go_wp2_with fail
        exact ⟨⟨trivial, j + 1, by omega, by go_num, hC'.out⟩, by simp [intOf]; omega⟩
      · have hE := Lib.hid (allE_first l dim j hlt hC hz2)
        have hne : (vecE (mrow l j) dim != 0) = true := by simpa using hz2
        clear hC hz2 h3
        generalize vecE (mrow l j) dim = E at *
        go_wp2_with fail
        refine hV.out.mono ?_
        rintro e w1 ⟨rfl, rfl⟩
        go_wp2_with fail
        go_ret2
        exact ⟨by rw [hE.out]; rfl, B.below⟩
    · obtain rfl : j = l.length := by omega
      exact absurd (allE_none l dim hC) h3

theorem pq_bad (A : Option Addr) (l : List (List Int)) (cl : Nat) (dim parts k r s : Int) (w : World) (hm : Mat w A l) (h : pqE l dim parts k r ≠ 0) :
    Calls Try.prog 28 #[.slice A l.length cl, .int .i64 dim, .int .i64 parts, .int .i64 k, .int .i64 r, .int .u64 s] w (PqBad w (pqE l dim parts k r)) := by
  by_cases h1 : dim < 1 ∨ 64 < dim
  · rw [pqE, if_pos h1]; exact pq_dim A _ cl dim parts k r s w h1
  by_cases h2 : parts < 1 ∨ 8 < parts ∨ k < 1 ∨ 16 < k ∨ r < 0 ∨ 20 < r
  · rw [pqE, if_neg h1, if_pos h2]; exact pq_arg A _ cl dim parts k r s w (by omega) (by omega) h2
  by_cases h3 : dim % parts ≠ 0
  · rw [pqE, if_neg h1, if_neg h2, if_pos h3]; exact pq_parts A _ cl dim parts k r s w (by omega) (by omega) (by omega) (by omega) (by omega) (by omega) (by omega) (by omega) h3
  have h3' : dim % parts = 0 := Decidable.not_not.1 h3
  by_cases h4 : 512 < l.length
  · rw [pqE, if_neg h1, if_neg h2, if_neg h3, if_pos h4]; exact pq_long A _ cl dim parts k r s w (by omega) (by omega) (by omega) (by omega) (by omega) (by omega) (by omega) (by omega) h3' h4
  by_cases h5 : (l.length : Int) < k
  · rw [pqE, if_neg h1, if_neg h2, if_neg h3, if_neg h4, if_pos h5]; exact pq_few A _ cl dim parts k r s w (by omega) (by omega) (by omega) (by omega) (by omega) (by omega) (by omega) (by omega) h3' (by omega) h5
  rw [pqE, if_neg h1, if_neg h2, if_neg h3, if_neg h4, if_neg h5] at h ⊢
  exact pq_vec A l cl dim parts k r s w hm (by omega) (by omega) (by omega) (by omega) (by omega) (by omega) (by omega) (by omega) h3' (by omega) (by omega) h
end Go.Proofs.Ytiamppbgpoffmaa
