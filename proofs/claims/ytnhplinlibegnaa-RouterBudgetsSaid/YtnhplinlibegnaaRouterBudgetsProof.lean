/- Proved: how many rows a question may look at is just the document's number; a question may be just if the document says so: any spec, rows, question, dimension. -/
import Derived.Test.YtnhplinlibegnaaRows
import Derived.WalkKit
import Derived.ProofKit
import Derived.OpenShut
import Derived.Test.YtnhplinlibegnaaRow
import Derived.Test.YtnhplinlibegnaaOpen
import Derived.Test.YtnhplinlibegnaaRouterBudgetsLaw
namespace Go.Proofs.Ytnhplinlibegnaa.routerBudgets
open Go.ChangeShapes Go.WideShapes Go.ChangeAt Go.RowKit
set_option linter.unusedVariables false

theorem own : ownKnob Try.prog.godebug = none := by kernel_rfl
theorem laidOut : laidOutB Try.prog = true := by kernel_rfl
theorem readable : ∀ t ∈ Try.f5.params.toList, Try.prog.readableRec t = true ∧ t < Try.prog.types.size := by
  intro t ht
  rw [Try.params5] at ht
  simp only [List.mem_cons, List.not_mem_nil, or_false] at ht
  rcases ht with rfl | rfl | rfl | rfl
  · exact ⟨by kernel_rfl, of_decide_eq_true (by kernel_rfl)⟩
  · exact ⟨by kernel_rfl, of_decide_eq_true (by kernel_rfl)⟩
  · exact ⟨by kernel_rfl, of_decide_eq_true (by kernel_rfl)⟩
  · exact ⟨by kernel_rfl, of_decide_eq_true (by kernel_rfl)⟩

theorem contract (H : Type) (enc : TypeId × Value → H) (W : World) (base : Nat) (args : Array Value) (ds gs : List (DataW H)) (before : List MemPlace)
    (hval : ∀ (j : Nat) t v, Try.f5.params[j]? = some t → args[j]? = some v → Value.okWide Try.prog W .any base t v)
    (hW : DataW.Whole enc Try.prog Try.f5.params.toList Rows.routerBudgetsSpec.vars false W args.toList ds gs before) :
    Calls Try.prog 5 args W fun e W' => ∃ v, e = .returned v ∧ Rows.routerBudgetsSpec.post enc Try.prog Try.f5 false true false false W args v W' := by
  have hW' := hW
  obtain ⟨p, q, hA0, hV, rfl, hfz, hnd⟩ := hW
  have hA : DataW.TrodAll enc Try.prog W 0 (fun _ => true) true Try.f5.params.toList args.toList ds p := hA0
  have hA1 := hA
  rw [Try.params5] at hA hval
  obtain ⟨v0, vs0, d0, ds0, p0, q0, hargs, rfl, rfl, h0, r0⟩ := trodAll_cons hA
  obtain ⟨v1, vs1, d1, ds1, p1, q1, rfl, rfl, rfl, h1, r1⟩ := trodAll_cons r0
  obtain ⟨v2, vs2, d2, ds2, p2, q2, rfl, rfl, rfl, h2, r2⟩ := trodAll_cons r1
  obtain ⟨v3, vs3, d3, ds3, p3, q3, rfl, rfl, rfl, h3, r3⟩ := trodAll_cons r2
  obtain ⟨rfl, rfl, rfl⟩ := trodAll_nil r3
  obtain rfl : args = #[v0, v1, v2, v3] := by cases args; simp_all
  obtain ⟨rfl, rfl⟩ := trodVars_none hV
  obtain ⟨k0, a0, b0, c0, rfl⟩ : ∃ k a b c : Int, v0 = .agg #[.int .i64 k, .int .i64 a, .int .i64 b, .int .i64 c] := by
    obtain ⟨cs, rfl, hsz⟩ := okWide_struct Try.underlying24 (hval 0 24 v0 rfl rfl)
    obtain ⟨fuel, hf⟩ := h0
    obtain ⟨hl, hx⟩ := open_struct Try.underlying24 (by kernel_rfl) (by kernel_rfl) hf
    obtain ⟨z0, y0, n0, c0, t0⟩ := hx 0 _ rfl
    obtain ⟨z1, y1, n1, c1, t1⟩ := hx 1 _ rfl
    obtain ⟨z2, y2, n2, c2, t2⟩ := hx 2 _ rfl
    obtain ⟨z3, y3, n3, c3, t3⟩ := hx 3 _ rfl
    obtain ⟨k, e0, _⟩ := DataW.trod_int Try.underlying22 t0
    obtain ⟨a, e1, _⟩ := DataW.trod_int Try.underlying3 t1
    obtain ⟨b, e2, _⟩ := DataW.trod_int Try.underlying3 t2
    obtain ⟨c, e3, _⟩ := DataW.trod_int Try.underlying3 t3
    simp only [List.cons.injEq, and_true] at e0 e1 e2 e3
    subst e0 e1 e2 e3
    refine ⟨k, a, b, c, ?_⟩
    obtain ⟨cl⟩ := cs
    simp [Value.cells] at hl c0 c1 c2 c3
    match cl, hl, c0, c1, c2, c3 with
    | [p0, p1, p2, p3], _, e0, e1, e2, e3 =>
      simp at e0 e1 e2 e3
      subst e0 e1 e2 e3
      rfl
  obtain ⟨a1, rfl, e1, f1, w1⟩ := open_int Try.underlying3 (hval 1 3 v1 rfl rfl) h1
  obtain ⟨aA, al, acap, aK, am, aB, rfl, hrow⟩ : ∃ (A : Option Addr) (l : List Int) (cap : Nat) (K m B : Int), v2 = .agg #[.slice A l.length cap, .int .i64 K, .int .i64 m, .int .i64 B] ∧ Row W A l := by
    obtain ⟨cs, rfl, hsz⟩ := okWide_struct Try.underlying36 (hval 2 36 v2 rfl rfl)
    obtain ⟨fuel, hf⟩ := h2
    obtain ⟨hl, hx⟩ := open_struct Try.underlying36 (by kernel_rfl) (by kernel_rfl) hf
    obtain ⟨z0, y0, n0, c0, t0⟩ := hx 0 _ rfl
    obtain ⟨z1, y1, n1, c1, t1⟩ := hx 1 _ rfl
    obtain ⟨z2, y2, n2, c2, t2⟩ := hx 2 _ rfl
    obtain ⟨z3, y3, n3, c3, t3⟩ := hx 3 _ rfl
    obtain ⟨A, l, cap, rfl, _, _, hr, _⟩ := open_ints Try.underlying34 Try.underlying3 (by kernel_rfl) t0
    obtain ⟨a, e1, _⟩ := DataW.trod_int Try.underlying3 t1
    obtain ⟨b, e2, _⟩ := DataW.trod_int Try.underlying31 t2
    obtain ⟨c, e3, _⟩ := DataW.trod_int Try.underlying3 t3
    simp only [List.cons.injEq, and_true] at e1 e2 e3
    subst e1 e2 e3
    refine ⟨A, l, cap, a, b, c, ?_, hr⟩
    obtain ⟨cl⟩ := cs
    simp [Value.cells] at hl c0 c1 c2 c3
    match cl, hl, c0, c1, c2, c3 with
    | [p0, p1, p2, p3], _, e0, e1, e2, e3 =>
      simp at e0 e1 e2 e3
      subst e0 e1 e2 e3
      rfl
  obtain ⟨a3, rfl, e3, f3, w3⟩ := open_int Try.underlying3 (hval 3 3 v3 rfl rfl) h3
  refine (routerBudgets_any k0 a0 b0 c0 a1 aA al acap aK am aB a3 W hrow).mono fun e W' ⟨he, hg⟩ => ?_
  subst he
  exact ⟨_, rfl, law_post (tb := 4) hW' hA1 rfl laidOut readable Try.underlying4 rfl rfl rfl (fun _ => rfl) hg (ok_one (by kernel_rfl) rfl (okWide_bool_mk Try.underlying4 _))⟩

set_option maxRecDepth 100000 in
theorem lifted (os : Os) (started : os.Started) (H : Type) (enc : TypeId × Value → H) :
    ReturnsInHanded {} Try.checked os 5 .any (Rows.routerBudgetsSpec.pre6 enc Try.prog Try.f5 Rows.routerBudgetsRow.domain false) (Rows.routerBudgetsSpec.post enc Try.prog Try.f5 false true false false) := by
  refine returnsInHanded_of_change (C := Try.checked) own started (by kernel_rfl) Try.func5
    (ChangeSpec.witness6 (enc := enc) (C := Try.checked) false ⟨#[], #[(.agg #[.int .i64 0, .int .i64 0, .int .i64 0, .int .i64 0]), .int .i64 0, (.agg #[.slice none 0 0, .int .i64 0, .int .i64 0, .int .i64 0]), .int .i64 0], []⟩ 8 (by kernel_rfl) (by kernel_rfl) (by kernel_rfl) (by kernel_rfl)) ?_
  intro W base args ds gs before hval hW _ _
  exact contract H enc W base args ds gs before hval hW

theorem proved : Rows.RouterBudgetsSaid :=
  OpenClaim.holds_of_wide 5 Try.f5 rfl rfl rfl rfl rfl rfl rfl ⟨rfl, rfl, rfl, rfl, rfl⟩ rfl rfl rfl rfl rfl (by kernel_rfl) Try.func5 (by kernel_rfl)
    (of_decide_eq_true (by kernel_rfl)) (by unfold Func.isWrapper; first | (rw [if_pos (by decide +kernel)]; kernel_rfl) | (rw [if_neg (by decide +kernel)]; exact ⟨rfl, rfl⟩))
    (fun os started H enc _ => lifted os started H enc)
#print axioms proved
end Go.Proofs.Ytnhplinlibegnaa.routerBudgets
