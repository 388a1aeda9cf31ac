/- Proved: sums and differences are the numbers that they are, or are refused: any two. -/
import Derived.Test.YtodjpljdkjemmaaRows
import Derived.WalkKit
import Derived.ProofKit
import Derived.OpenShut
import Derived.Test.YtodjpljdkjemmaaRow
import Derived.Test.YtodjpljdkjemmaaOpen
import Derived.Test.YtodjpljdkjemmaaOpen01
import Derived.Test.YtodjpljdkjemmaaWideSumsLaw
namespace Go.Proofs.Ytodjpljdkjemmaa.wideSums
open Go.ChangeShapes Go.WideShapes Go.ChangeAt Go.RowKit
set_option linter.unusedVariables false

theorem own : ownKnob Try.prog.godebug = none := by kernel_rfl
theorem laidOut : laidOutB Try.prog = true := by kernel_rfl
theorem readable : ∀ t ∈ Try.f3.params.toList, Try.prog.readableRec t = true ∧ t < Try.prog.types.size := by
  intro t ht
  rw [Try.params3] at ht
  simp only [List.mem_cons, List.not_mem_nil, or_false] at ht
  rcases ht with rfl | rfl
  · exact ⟨by kernel_rfl, of_decide_eq_true (by kernel_rfl)⟩
  · exact ⟨by kernel_rfl, of_decide_eq_true (by kernel_rfl)⟩

theorem contract (H : Type) (enc : TypeId × Value → H) (W : World) (base : Nat) (args : Array Value) (ds gs : List (DataW H)) (before : List MemPlace)
    (hval : ∀ (j : Nat) t v, Try.f3.params[j]? = some t → args[j]? = some v → Value.okWide Try.prog W .any base t v)
    (hW : DataW.Whole enc Try.prog Try.f3.params.toList Rows.wideSumsSpec.vars false W args.toList ds gs before) :
    Calls Try.prog 3 args W fun e W' => ∃ v, e = .returned v ∧ Rows.wideSumsSpec.post enc Try.prog Try.f3 false true false false W args v W' := by
  have hW' := hW
  obtain ⟨p, q, hA0, hV, rfl, hfz, hnd⟩ := hW
  have hA : DataW.TrodAll enc Try.prog W 0 (fun _ => true) true Try.f3.params.toList args.toList ds p := hA0
  have hA1 := hA
  rw [Try.params3] at hA hval
  obtain ⟨v0, vs0, d0, ds0, p0, q0, hargs, rfl, rfl, h0, r0⟩ := trodAll_cons hA
  obtain ⟨v1, vs1, d1, ds1, p1, q1, rfl, rfl, rfl, h1, r1⟩ := trodAll_cons r0
  obtain ⟨rfl, rfl, rfl⟩ := trodAll_nil r1
  obtain rfl : args = #[v0, v1] := by cases args; simp_all
  obtain ⟨rfl, rfl⟩ := trodVars_none hV
  obtain ⟨x0, y0, sx0, sy0, rfl⟩ : ∃ x y : Nat, Sm x ∧ Sm y ∧ v0 = .agg #[.int .u64 (x : Int), .int .u64 (y : Int)] := by
    obtain ⟨cs, rfl, hsz⟩ := okWide_struct Try.underlying24 (hval 0 24 v0 rfl rfl)
    obtain ⟨fuel, hf⟩ := h0
    obtain ⟨hl, hx⟩ := open_struct Try.underlying24 (by kernel_rfl) (by kernel_rfl) hf
    obtain ⟨z0, y0, n0, c0, t0⟩ := hx 0 _ rfl
    obtain ⟨z1, y1, n1, c1, t1⟩ := hx 1 _ rfl
    obtain ⟨a, e0, _, w0⟩ := DataW.trod_int Try.underlying22 t0
    obtain ⟨b, e1, _, w1⟩ := DataW.trod_int Try.underlying22 t1
    simp only [List.cons.injEq, and_true] at e0 e1
    subst e0 e1
    obtain ⟨x, rfl, sx⟩ := nat_of_u64 w0
    obtain ⟨y, rfl, sy⟩ := nat_of_u64 w1
    refine ⟨x, y, sx, sy, ?_⟩
    obtain ⟨cl⟩ := cs
    simp [Value.cells] at hl c0 c1
    match cl, hl, c0, c1 with
    | [p0, p1], _, e0, e1 =>
      simp at e0 e1
      subst e0 e1
      rfl
  obtain ⟨x1, y1, sx1, sy1, rfl⟩ : ∃ x y : Nat, Sm x ∧ Sm y ∧ v1 = .agg #[.int .u64 (x : Int), .int .u64 (y : Int)] := by
    obtain ⟨cs, rfl, hsz⟩ := okWide_struct Try.underlying24 (hval 1 24 v1 rfl rfl)
    obtain ⟨fuel, hf⟩ := h1
    obtain ⟨hl, hx⟩ := open_struct Try.underlying24 (by kernel_rfl) (by kernel_rfl) hf
    obtain ⟨z0, y0, n0, c0, t0⟩ := hx 0 _ rfl
    obtain ⟨z1, y1, n1, c1, t1⟩ := hx 1 _ rfl
    obtain ⟨a, e0, _, w0⟩ := DataW.trod_int Try.underlying22 t0
    obtain ⟨b, e1, _, w1⟩ := DataW.trod_int Try.underlying22 t1
    simp only [List.cons.injEq, and_true] at e0 e1
    subst e0 e1
    obtain ⟨x, rfl, sx⟩ := nat_of_u64 w0
    obtain ⟨y, rfl, sy⟩ := nat_of_u64 w1
    refine ⟨x, y, sx, sy, ?_⟩
    obtain ⟨cl⟩ := cs
    simp [Value.cells] at hl c0 c1
    match cl, hl, c0, c1 with
    | [p0, p1], _, e0, e1 =>
      simp at e0 e1
      subst e0 e1
      rfl
  refine (wideSums_any x0 y0 x1 y1 sx0 sy0 sx1 sy1 W).mono fun e W' ⟨he, hg⟩ => ?_
  subst he
  exact ⟨_, rfl, law_post (tb := 4) hW' hA1 rfl laidOut readable Try.underlying4 rfl rfl rfl (fun _ => rfl) hg (ok_one (by kernel_rfl) rfl (okWide_bool_mk Try.underlying4 _))⟩

set_option maxRecDepth 100000 in
theorem lifted (os : Os) (started : os.Started) (H : Type) (enc : TypeId × Value → H) :
    ReturnsInHanded {} Try.checked os 3 .any (Rows.wideSumsSpec.pre6 enc Try.prog Try.f3 Rows.wideSumsRow.domain false) (Rows.wideSumsSpec.post enc Try.prog Try.f3 false true false false) := by
  refine returnsInHanded_of_change (C := Try.checked) own started (by kernel_rfl) Try.func3
    (ChangeSpec.witness6 (enc := enc) (C := Try.checked) false ⟨#[], #[(.agg #[.int .u64 0, .int .u64 0]), (.agg #[.int .u64 0, .int .u64 0])], []⟩ 8 (by kernel_rfl) (by kernel_rfl) (by kernel_rfl) (by kernel_rfl)) ?_
  intro W base args ds gs before hval hW _ _
  exact contract H enc W base args ds gs before hval hW

theorem proved : Rows.WideSumsSaid :=
  OpenClaim.holds_of_wide 3 Try.f3 rfl rfl rfl rfl rfl rfl rfl ⟨rfl, rfl, rfl, rfl, rfl⟩ rfl rfl rfl rfl rfl (by kernel_rfl) Try.func3 (by kernel_rfl)
    (of_decide_eq_true (by kernel_rfl)) (by unfold Func.isWrapper; first | (rw [if_pos (by decide +kernel)]; kernel_rfl) | (rw [if_neg (by decide +kernel)]; exact ⟨rfl, rfl⟩))
    (fun os started H enc _ => lifted os started H enc)
#print axioms proved
end Go.Proofs.Ytodjpljdkjemmaa.wideSums
