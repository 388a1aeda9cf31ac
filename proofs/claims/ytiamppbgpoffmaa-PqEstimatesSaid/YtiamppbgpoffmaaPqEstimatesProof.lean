/- Proved: an estimate is the sum of the numbers at a code's places, or is refused: any table and code. -/
import Derived.Test.YtiamppbgpoffmaaRows
import Derived.WalkKit
import Derived.ProofKit
import Derived.OpenShut
import Derived.Test.YtiamppbgpoffmaaQOpen
import Derived.Test.YtiamppbgpoffmaaQOpenW
import Derived.Test.YtiamppbgpoffmaaPqEstimatesLaw
namespace Go.Proofs.Ytiamppbgpoffmaa.pqEstimates
open Go.ChangeShapes Go.WideShapes Go.ChangeAt Go.RowKit
set_option linter.unusedVariables false

theorem own : ownKnob Try.prog.godebug = none := by kernel_rfl
theorem laidOut : laidOutB Try.prog = true := by kernel_rfl
theorem readable : ∀ t ∈ Try.f4.params.toList, Try.prog.readableRec t = true ∧ t < Try.prog.types.size := by
  intro t ht
  rw [Try.params4] at ht
  simp only [List.mem_cons, List.not_mem_nil, or_false] at ht
  rcases ht with rfl | rfl
  · exact ⟨by kernel_rfl, of_decide_eq_true (by kernel_rfl)⟩
  · exact ⟨by kernel_rfl, of_decide_eq_true (by kernel_rfl)⟩

set_option maxRecDepth 100000 in
theorem contract (H : Type) (enc : TypeId × Value → H) (W : World) (base : Nat) (args : Array Value) (ds gs : List (DataW H)) (before : List MemPlace)
    (hval : ∀ (j : Nat) t v, Try.f4.params[j]? = some t → args[j]? = some v → Value.okWide Try.prog W .any base t v)
    (hW : DataW.Whole enc Try.prog Try.f4.params.toList Rows.pqEstimatesSpec.vars false W args.toList ds gs before) :
    Calls Try.prog 4 args W fun e W' => ∃ v, e = .returned v ∧ Rows.pqEstimatesSpec.post enc Try.prog Try.f4 false true false false W args v W' := by
  have hW' := hW
  obtain ⟨p, q, hA0, hV, rfl, hfz, hnd⟩ := hW
  have hA : DataW.TrodAll enc Try.prog W 0 (fun _ => true) true Try.f4.params.toList args.toList ds p := hA0
  have hA1 := hA
  rw [Try.params4] at hA hval
  obtain ⟨v0, vs0, d0, ds0, p0, q0, hargs, rfl, rfl, h0, r0⟩ := trodAll_cons hA
  obtain ⟨v1, vs1, d1, ds1, p1, q1, rfl, rfl, rfl, h1, r1⟩ := trodAll_cons r0
  obtain ⟨rfl, rfl, rfl⟩ := trodAll_nil r1
  obtain rfl : args = #[v0, v1] := by cases args; simp_all
  obtain ⟨rfl, rfl⟩ := trodVars_none hV
  obtain ⟨A0, l0, cap0, rfl, htab0, hwd0⟩ : ∃ (A : Option Addr) (l : List (List Nat)) (cap : Nat), v0 = .slice A l.length cap ∧ WTab W A l ∧ TabW l := by
    obtain ⟨aA, len, cap, rfl⟩ := okWide_slice Try.underlying37 (hval 0 37 v0 rfl rfl)
    obtain ⟨fuel, hf⟩ := h0
    exact open_wtab Try.underlying37 (by kernel_rfl) Try.underlying69 Try.underlying44 (by kernel_rfl) (by kernel_rfl) rfl rfl rfl Try.underlying23 Try.underlying23 hf
  obtain ⟨A1, l1, cap1, rfl, hlc1, hrow1⟩ : ∃ (A : Option Addr) (l : List Int) (cap : Nat), v1 = .slice A l.length cap ∧ l.length ≤ cap ∧ Row W A l := by
    obtain ⟨aA, len, cap, rfl⟩ := okWide_slice Try.underlying26 (hval 1 26 v1 rfl rfl)
    obtain ⟨fuel, hf⟩ := h1
    obtain ⟨A, l, c, hv, h1, _, h3, _⟩ := open_ints Try.underlying26 Try.underlying3 (by kernel_rfl) hf
    exact ⟨A, l, c, hv, h1, h3⟩
  refine (pqEstimates_any A0 l0 cap0 A1 l1 cap1 W htab0 hrow1 hwd0).mono fun e W' ⟨he, hg⟩ => ?_
  subst he
  exact ⟨_, rfl, law_post (tb := 4) hW' hA1 rfl laidOut readable Try.underlying4 rfl rfl rfl (fun _ => rfl) hg (ok_one (by kernel_rfl) rfl (okWide_bool_mk Try.underlying4 _))⟩

set_option maxRecDepth 100000 in
theorem lifted (os : Os) (started : os.Started) (H : Type) (enc : TypeId × Value → H) :
    ReturnsInHanded {} Try.checked os 4 .any (Rows.pqEstimatesSpec.pre6 enc Try.prog Try.f4 Rows.pqEstimatesRow.domain false) (Rows.pqEstimatesSpec.post enc Try.prog Try.f4 false true false false) := by
  refine returnsInHanded_of_change (C := Try.checked) own started (by kernel_rfl) Try.func4
    (ChangeSpec.witness6 (enc := enc) (C := Try.checked) false ⟨#[], #[(.slice none 0 0), (.slice none 0 0)], []⟩ 8 (by kernel_rfl) (by kernel_rfl) (by kernel_rfl) (by kernel_rfl)) ?_
  intro W base args ds gs before hval hW _ _
  exact contract H enc W base args ds gs before hval hW

theorem proved : Rows.PqEstimatesSaid :=
  OpenClaim.holds_of_wide 4 Try.f4 rfl rfl rfl rfl rfl rfl rfl ⟨rfl, rfl, rfl, rfl, rfl⟩ rfl rfl rfl rfl rfl (by kernel_rfl) Try.func4 (by kernel_rfl)
    (of_decide_eq_true (by kernel_rfl)) (by unfold Func.isWrapper; first | (rw [if_pos (by decide +kernel)]; kernel_rfl) | (rw [if_neg (by decide +kernel)]; exact ⟨rfl, rfl⟩))
    (fun os started H enc _ => lifted os started H enc)
#print axioms proved
end Go.Proofs.Ytiamppbgpoffmaa.pqEstimates
