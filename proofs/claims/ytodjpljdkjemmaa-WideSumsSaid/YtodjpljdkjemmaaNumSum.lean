/- The contracts of the document's Plus and Small. -/
import Derived.Test.YtodjpljdkjemmaaNumPlus
import Derived.Test.YtodjpljdkjemmaaWideSqrt
namespace Go.Proofs.Ytodjpljdkjemmaa
open Go.RowKit
set_option linter.unusedVariables false

theorem numV_def (D : List Nat) (o : Bool) : numV D o = .agg (numC D o) := rfl
theorem dig_none : Dig [0, 0, 0, 0, 0, 0, 0, 0] := ⟨rfl, fun i => by simp only [nthN, List.getD_eq_getElem?_getD]; match i with | 0 => simp | 1 => simp | 2 => simp | 3 => simp | 4 => simp | 5 => simp | 6 => simp | 7 => simp | i + 8 => simp⟩
theorem val_none : val [0, 0, 0, 0, 0, 0, 0, 0] = 0 := by simp [val]
set_option maxRecDepth 100000 in
set_option maxHeartbeats 4000000 in
theorem small_any (v : Nat) (hv : Sml v) (w : World) : Calls Try.prog 31 #[.int .i64 (v : Int)] w (PlusPost w [] false v) := by
  go_enter Try.func31, Try.ntmps31
  go_wp2_with fail
  have b0 := (Blk.new w 43 (numC [] false)).alloc (.cells (numC [] false) 43)
  have B0 := ((Below.refl w.heap.size w).alloc (Nat.le_refl _) (.cells (numC [] false) 43)).alloc (by simp) (.cells (numC [] false) 43)
  refine (plus_any [0, 0, 0, 0, 0, 0, 0, 0] false 0 v dig_none (by omega) hv _).mono ?_
  rintro e w1 ⟨D', rfl, hd, hval, hb⟩
  have b1 := b0.below hb b0.lt
  have B1 := below_chain B0 hb B0.size
  have hT : val [0, 0, 0, 0, 0, 0, 0, 0] + v * 65536 ^ 0 = v := by simp [val]
  rw [hT] at hval ⊢
  clear hb b0 B0 hT hv
  obtain ⟨p, hp⟩ : ∃ p : Bool, p = (false || decide (340282366920938463463374607431768211456 ≤ v)) := ⟨_, rfl⟩
  rw [← hp]
  replace hp := Lib.hid hp
  replace hval := Lib.hid hval
  obtain ⟨r0, r1, r2, r3, r4, r5, r6, r7, r8⟩ := num_cells b1
  obtain ⟨z0, z1, z2, z3, z4, z5, z6, z7, z8⟩ := num_free b1
  unfold numV
  go_wp2
  rw [nine_fold w1 w.heap.size D' p]
  have b9 := nine_blk D' p b1
  have B9 := nine_below D' p B1 (Nat.le_refl _)
  generalize nine w1 w.heap.size D' p = w9 at *
  obtain ⟨y0, y1, y2, y3, y4, y5, y6, y7, y8⟩ := num_cells b9
  refine bodyPost_ret (v := numV D' p) (by simp [results, Try.results31, go_sem, y0, y1, y2, y3, y4, y5, y6, y7, y8, numV]) rfl ?_
  exact ⟨D', by rw [hp.out], hd, hval.out, B9⟩

/-- The first k digits' part. -/
theorem val_take : ∀ (D : List Nat) (k : Nat), k < D.length → val (D.take (k + 1)) = val (D.take k) + nthN D k * 65536 ^ k
  | [], k, h => by simp at h
  | d :: D, 0, h => by simp [val, nthN]
  | d :: D, k + 1, h => by
    have ih := val_take D k (by simpa using h)
    have e : nthN (d :: D) (k + 1) = nthN D k := by simp [nthN]
    rw [List.take_succ_cons, List.take_succ_cons, val, val, ih, e, Nat.pow_succ]
    have a1 : nthN D k * (65536 ^ k * 65536) = 65536 * (nthN D k * 65536 ^ k) := by rw [← Nat.mul_assoc, Nat.mul_comm]
    rw [a1]
    omega
end Go.Proofs.Ytodjpljdkjemmaa
