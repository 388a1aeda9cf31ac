/- The contracts of the document's Plus and Small. -/
import Derived.Test.YtoglemdooaiddaaNumPlusk
namespace Go.Proofs.Ytoglemdooaiddaa
open Go.RowKit
set_option linter.unusedVariables false

theorem numV_def (D : List Nat) (o : Bool) : numV D o = .agg (numC D o) := rfl
theorem dig_none : Dig [0, 0, 0, 0, 0, 0, 0, 0] := ⟨rfl, fun i => by simp only [nthN, List.getD_eq_getElem?_getD]; match i with | 0 => simp | 1 => simp | 2 => simp | 3 => simp | 4 => simp | 5 => simp | 6 => simp | 7 => simp | i + 8 => simp⟩
theorem val_none : val [0, 0, 0, 0, 0, 0, 0, 0] = 0 := by simp [val]
/-- The first k digits' part. -/
theorem val_take : ∀ (D : List Nat) (k : Nat), k < D.length → val (D.take (k + 1)) = val (D.take k) + nthN D k * 65536 ^ k
  | [], k, h => by simp at h
  | d :: D, 0, h => by simp [val, nthN]
  | d :: D, k + 1, h => by
    have ih := val_take D k (by simpa using h)
    have e : nthN (d :: D) (k + 1) = nthN D k := by simp [nthN]
    rw [List.take_succ_cons, List.take_succ_cons, val, val, ih, e, Nat.pow_succ]
    have a1 : nthN D k * (65536 ^ k * 65536) = 65536 * (nthN D k * 65536 ^ k) := by rw [← Nat.mul_assoc, Nat.mul_comm]
    rw [a1]
    omega
end Go.Proofs.Ytoglemdooaiddaa
