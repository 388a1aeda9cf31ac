/- Arguments opened: a Wide, a number of 64 bits. -/
import Derived.Deep.Slices
import Derived.Deep.Fields
import Derived.ChangeSame
import Derived.ChangeArms
import Derived.Test.YtodjpljdkjemmaaParse
namespace Go.Proofs.Ytodjpljdkjemmaa
open Go.ChangeShapes Go.WideShapes Go.Deep Go.RowKit
theorem nat_of_u64 {n : Int} (h : (Lit.int .u64 n).wf = true) : ∃ x : Nat, n = (x : Int) ∧ Sm x := by
  simp only [Lit.wf, Bool.and_eq_true, decide_eq_true_eq] at h
  obtain ⟨h1, h2⟩ := h
  have e1 : IntKind.u64.min = 0 := by rfl
  have e2 : IntKind.u64.max = 18446744073709551615 := by rfl
  rw [e1] at h1
  rw [e2] at h2
  exact ⟨n.toNat, by omega, by unfold Sm; omega⟩
end Go.Proofs.Ytodjpljdkjemmaa
