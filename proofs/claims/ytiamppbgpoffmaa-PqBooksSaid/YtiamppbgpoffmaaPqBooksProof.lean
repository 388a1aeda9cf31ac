/- Proved: books are just those that the document makes of the vectors' parts, twice, whatever is written into them, or the training is refused: any vectors and way of training. -/
import Derived.Test.YtiamppbgpoffmaaRows
import Derived.WalkKit
import Derived.ProofKit
import Derived.OpenShut
import Derived.Test.YtiamppbgpoffmaaQOpen
import Derived.Test.YtiamppbgpoffmaaPqBooksLaw
namespace Go.Proofs.Ytiamppbgpoffmaa.pqBooks
open Go.ChangeShapes Go.WideShapes Go.ChangeAt Go.RowKit
set_option linter.unusedVariables false

theorem own : ownKnob Try.prog.godebug = none := by kernel_rfl
theorem laidOut : laidOutB Try.prog = true := by kernel_rfl
theorem readable : ∀ t ∈ Try.f7.params.toList, Try.prog.readableRec t = true ∧ t < Try.prog.types.size := by
  intro t ht
  rw [Try.params7] at ht
  simp only [List.mem_cons, List.not_mem_nil, or_false] at ht
  rcases ht with rfl | rfl
  · exact ⟨by kernel_rfl, of_decide_eq_true (by kernel_rfl)⟩
  · exact ⟨by kernel_rfl, of_decide_eq_true (by kernel_rfl)⟩

set_option maxRecDepth 100000 in
theorem contract (H : Type) (enc : TypeId × Value → H) (W : World) (base : Nat) (args : Array Value) (ds gs : List (DataW H)) (before : List MemPlace)
    (hval : ∀ (j : Nat) t v, Try.f7.params[j]? = some t → args[j]? = some v → Value.okWide Try.prog W .any base t v)
    (hW : DataW.Whole enc Try.prog Try.f7.params.toList Rows.pqBooksSpec.vars false W args.toList ds gs before) :
    Calls Try.prog 7 args W fun e W' => ∃ v, e = .returned v ∧ Rows.pqBooksSpec.post enc Try.prog Try.f7 false true false false W args v W' := by
  have hW' := hW
  obtain ⟨p, q, hA0, hV, rfl, hfz, hnd⟩ := hW
  have hA : DataW.TrodAll enc Try.prog W 0 (fun _ => true) true Try.f7.params.toList args.toList ds p := hA0
  have hA1 := hA
  rw [Try.params7] at hA hval
  obtain ⟨v0, vs0, d0, ds0, p0, q0, hargs, rfl, rfl, h0, r0⟩ := trodAll_cons hA
  obtain ⟨v1, vs1, d1, ds1, p1, q1, rfl, rfl, rfl, h1, r1⟩ := trodAll_cons r0
  obtain ⟨rfl, rfl, rfl⟩ := trodAll_nil r1
  obtain rfl : args = #[v0, v1] := by cases args; simp_all
  obtain ⟨rfl, rfl⟩ := trodVars_none hV
  obtain ⟨A0, l0, cap0, rfl, hlc0, hmat0⟩ : ∃ (A : Option Addr) (l : List (List Int)) (cap : Nat), v0 = .slice A l.length cap ∧ l.length ≤ cap ∧ MatC W A l := by
    obtain ⟨aA, len, cap, rfl⟩ := okWide_slice Try.underlying22 (hval 0 22 v0 rfl rfl)
    obtain ⟨fuel, hf⟩ := h0
    obtain ⟨A, l, c, hv, h1, h2, _⟩ := open_matc Try.underlying22 Try.underlying26 Try.underlying3 (by kernel_rfl) (by kernel_rfl) hf
    exact ⟨A, l, c, hv, h1, h2⟩
  obtain ⟨hd1, hp1, hk1, hr1, hs1, rfl⟩ : ∃ a b c d e : Int, v1 = .agg #[.int .i64 a, .int .i64 b, .int .i64 c, .int .i64 d, .int .u64 e] := by
    obtain ⟨cs, rfl, hsz⟩ := okWide_struct Try.underlying25 (hval 1 25 v1 rfl rfl)
    obtain ⟨fuel, hf⟩ := h1
    obtain ⟨hl, hx⟩ := open_struct Try.underlying25 (by kernel_rfl) (by kernel_rfl) hf
    obtain ⟨z0, y0, n0, c0, t0⟩ := hx 0 _ rfl
    obtain ⟨z1, y1, n1, c1, t1⟩ := hx 1 _ rfl
    obtain ⟨z2, y2, n2, c2, t2⟩ := hx 2 _ rfl
    obtain ⟨z3, y3, n3, c3, t3⟩ := hx 3 _ rfl
    obtain ⟨z4, y4, n4, c4, t4⟩ := hx 4 _ rfl
    obtain ⟨a, e0, _⟩ := DataW.trod_int Try.underlying3 t0
    obtain ⟨b, e1, _⟩ := DataW.trod_int Try.underlying3 t1
    obtain ⟨c, e2, _⟩ := DataW.trod_int Try.underlying3 t2
    obtain ⟨d, e3, _⟩ := DataW.trod_int Try.underlying3 t3
    obtain ⟨e, e4, _⟩ := DataW.trod_int Try.underlying23 t4
    simp only [List.cons.injEq, and_true] at e0 e1 e2 e3 e4
    subst e0 e1 e2 e3 e4
    refine ⟨a, b, c, d, e, ?_⟩
    obtain ⟨cl⟩ := cs
    simp [Value.cells] at hl c0 c1 c2 c3 c4
    match cl, hl, c0, c1, c2, c3, c4 with
    | [p0, p1, p2, p3, p4], _, e0, e1, e2, e3, e4 =>
      simp at e0 e1 e2 e3 e4
      subst e0 e1 e2 e3 e4
      rfl
  refine (pqBooks_any A0 l0 cap0 hd1 hp1 hk1 hr1 hs1 W hmat0).mono fun e W' ⟨he, hg⟩ => ?_
  subst he
  exact ⟨_, rfl, law_post (tb := 4) hW' hA1 rfl laidOut readable Try.underlying4 rfl rfl rfl (fun _ => rfl) hg (ok_one (by kernel_rfl) rfl (okWide_bool_mk Try.underlying4 _))⟩

set_option maxRecDepth 100000 in
theorem lifted (os : Os) (started : os.Started) (H : Type) (enc : TypeId × Value → H) :
    ReturnsInHanded {} Try.checked os 7 .any (Rows.pqBooksSpec.pre6 enc Try.prog Try.f7 Rows.pqBooksRow.domain false) (Rows.pqBooksSpec.post enc Try.prog Try.f7 false true false false) := by
  refine returnsInHanded_of_change (C := Try.checked) own started (by kernel_rfl) Try.func7
    (ChangeSpec.witness6 (enc := enc) (C := Try.checked) false ⟨#[], #[(.slice none 0 0), (.agg #[.int .i64 0, .int .i64 0, .int .i64 0, .int .i64 0, .int .u64 0])], []⟩ 8 (by kernel_rfl) (by kernel_rfl) (by kernel_rfl) (by kernel_rfl)) ?_
  intro W base args ds gs before hval hW _ _
  exact contract H enc W base args ds gs before hval hW

theorem proved : Rows.PqBooksSaid :=
  OpenClaim.holds_of_wide 7 Try.f7 rfl rfl rfl rfl rfl rfl rfl ⟨rfl, rfl, rfl, rfl, rfl⟩ rfl rfl rfl rfl rfl (by kernel_rfl) Try.func7 (by kernel_rfl)
    (of_decide_eq_true (by kernel_rfl)) (by unfold Func.isWrapper; first | (rw [if_pos (by decide +kernel)]; kernel_rfl) | (rw [if_neg (by decide +kernel)]; exact ⟨rfl, rfl⟩))
    (fun os started H enc _ => lifted os started H enc)
#print axioms proved
end Go.Proofs.Ytiamppbgpoffmaa.pqBooks
