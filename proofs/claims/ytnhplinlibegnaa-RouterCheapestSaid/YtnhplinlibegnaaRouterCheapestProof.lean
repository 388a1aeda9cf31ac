/- Proved: in haste the chosen way is no dearer than any other one, and a further one at the end is chosen only if it is cheaper than all; more rows never cost less: any specs, rows, dimension, a further spec. -/
import Derived.Test.YtnhplinlibegnaaRows
import Derived.WalkKit
import Derived.ProofKit
import Derived.OpenShut
import Derived.Test.YtnhplinlibegnaaRow
import Derived.Test.YtnhplinlibegnaaOpen
import Derived.Test.YtnhplinlibegnaaRouterCheapestLaw
namespace Go.Proofs.Ytnhplinlibegnaa.routerCheapest
open Go.ChangeShapes Go.WideShapes Go.ChangeAt Go.RowKit
set_option linter.unusedVariables false

theorem own : ownKnob Try.prog.godebug = none := by kernel_rfl
theorem laidOut : laidOutB Try.prog = true := by kernel_rfl
theorem readable : ∀ t ∈ Try.f6.params.toList, Try.prog.readableRec t = true ∧ t < Try.prog.types.size := by
  intro t ht
  rw [Try.params6] at ht
  simp only [List.mem_cons, List.not_mem_nil, or_false] at ht
  rcases ht with rfl | rfl | rfl | rfl
  · exact ⟨by kernel_rfl, of_decide_eq_true (by kernel_rfl)⟩
  · exact ⟨by kernel_rfl, of_decide_eq_true (by kernel_rfl)⟩
  · exact ⟨by kernel_rfl, of_decide_eq_true (by kernel_rfl)⟩
  · exact ⟨by kernel_rfl, of_decide_eq_true (by kernel_rfl)⟩

theorem contract (H : Type) (enc : TypeId × Value → H) (W : World) (base : Nat) (args : Array Value) (ds gs : List (DataW H)) (before : List MemPlace)
    (hval : ∀ (j : Nat) t v, Try.f6.params[j]? = some t → args[j]? = some v → Value.okWide Try.prog W .any base t v)
    (hW : DataW.Whole enc Try.prog Try.f6.params.toList Rows.routerCheapestSpec.vars false W args.toList ds gs before) :
    Calls Try.prog 6 args W fun e W' => ∃ v, e = .returned v ∧ Rows.routerCheapestSpec.post enc Try.prog Try.f6 false true false false W args v W' := by
  have hW' := hW
  obtain ⟨p, q, hA0, hV, rfl, hfz, hnd⟩ := hW
  have hA : DataW.TrodAll enc Try.prog W 0 (fun _ => true) true Try.f6.params.toList args.toList ds p := hA0
  have hA1 := hA
  rw [Try.params6] at hA hval
  obtain ⟨v0, vs0, d0, ds0, p0, q0, hargs, rfl, rfl, h0, r0⟩ := trodAll_cons hA
  obtain ⟨v1, vs1, d1, ds1, p1, q1, rfl, rfl, rfl, h1, r1⟩ := trodAll_cons r0
  obtain ⟨v2, vs2, d2, ds2, p2, q2, rfl, rfl, rfl, h2, r2⟩ := trodAll_cons r1
  obtain ⟨v3, vs3, d3, ds3, p3, q3, rfl, rfl, rfl, h3, r3⟩ := trodAll_cons r2
  obtain ⟨rfl, rfl, rfl⟩ := trodAll_nil r3
  obtain rfl : args = #[v0, v1, v2, v3] := by cases args; simp_all
  obtain ⟨rfl, rfl⟩ := trodVars_none hV
  obtain ⟨A0, l0, cap0, rfl, hspecs0⟩ : ∃ (A : Option Addr) (l : List Sp) (cap : Nat), v0 = .slice A l.length cap ∧ Specs W A l := by
    obtain ⟨aA, len, cap, rfl⟩ := okWide_slice Try.underlying30 (hval 0 30 v0 rfl rfl)
    obtain ⟨fuel, hf⟩ := h0
    rcases open_fields Try.underlying30 Try.underlying24 (by kernel_rfl) (by kernel_rfl) hf with hcs | ⟨a, len', cap', m, hcs, hlc, hcm, hlm, hi⟩
    · simp [Value.cells] at hcs
      obtain ⟨rfl, rfl, rfl⟩ := hcs
      exact ⟨none, [], 0, rfl, fun j hj => by simp at hj⟩
    · simp [Value.cells] at hcs
      obtain ⟨rfl, rfl, rfl⟩ := hcs
      have hcell : ∀ j, j < len → ∃ b off, a = ⟨b, off, none⟩ ∧ ∃ z0 z1 z2 z3 : Int, W.cell? ⟨b, off + j * 4, none⟩ = some (.int .i64 z0) ∧ W.cell? ⟨b, off + j * 4 + 1, none⟩ = some (.int .i64 z1) ∧ W.cell? ⟨b, off + j * 4 + 2, none⟩ = some (.int .i64 z2) ∧ W.cell? ⟨b, off + j * 4 + 3, none⟩ = some (.int .i64 z3) := fun j hj => by
        obtain ⟨z, y0, n0, c0, _⟩ := hi 0 (by omega) 0 _ rfl
        rw [Nat.zero_mul, Nat.add_zero] at c0
        have ha : a.add 0 = a := rfl
        rw [ha] at c0
        obtain ⟨b, off, rfl⟩ := plain_addr c0
        obtain ⟨k0, x0, m0, d0, t0⟩ := hi j (by omega) 0 _ rfl
        obtain ⟨k1, x1, m1, d1, t1⟩ := hi j (by omega) 1 _ rfl
        obtain ⟨k2, x2, m2, d2, t2⟩ := hi j (by omega) 2 _ rfl
        obtain ⟨k3, x3, m3, d3, t3⟩ := hi j (by omega) 3 _ rfl
        obtain ⟨z0, e0, _⟩ := DataW.trod_int Try.underlying22 t0
        obtain ⟨z1, e1, _⟩ := DataW.trod_int Try.underlying3 t1
        obtain ⟨z2, e2, _⟩ := DataW.trod_int Try.underlying3 t2
        obtain ⟨z3, e3, _⟩ := DataW.trod_int Try.underlying3 t3
        simp only [List.cons.injEq, and_true] at e0 e1 e2 e3
        subst e0 e1 e2 e3
        rw [add_plain] at d0 d1 d2 d3
        exact ⟨b, off, rfl, z0, z1, z2, z3, d0, by rw [Nat.add_assoc]; exact d1, by rw [Nat.add_assoc]; exact d2, by rw [Nat.add_assoc]; exact d3⟩
      obtain ⟨F, hF⟩ : ∃ F : Nat → Sp, ∀ j, j < len → ∃ b off, a = ⟨b, off, none⟩ ∧ W.cell? ⟨b, off + j * 4, none⟩ = some (.int .i64 (F j).k) ∧ W.cell? ⟨b, off + j * 4 + 1, none⟩ = some (.int .i64 (F j).a) ∧ W.cell? ⟨b, off + j * 4 + 2, none⟩ = some (.int .i64 (F j).b) ∧ W.cell? ⟨b, off + j * 4 + 3, none⟩ = some (.int .i64 (F j).c) := by
        have : ∀ j, ∃ s : Sp, j < len → ∃ b off, a = ⟨b, off, none⟩ ∧ W.cell? ⟨b, off + j * 4, none⟩ = some (.int .i64 s.k) ∧ W.cell? ⟨b, off + j * 4 + 1, none⟩ = some (.int .i64 s.a) ∧ W.cell? ⟨b, off + j * 4 + 2, none⟩ = some (.int .i64 s.b) ∧ W.cell? ⟨b, off + j * 4 + 3, none⟩ = some (.int .i64 s.c) := fun j => by
          by_cases hj : j < len
          · obtain ⟨b, off, ha, z0, z1, z2, z3, d0, d1, d2, d3⟩ := hcell j hj
            exact ⟨⟨z0, z1, z2, z3⟩, fun _ => ⟨b, off, ha, d0, d1, d2, d3⟩⟩
          · exact ⟨⟨0, 0, 0, 0⟩, fun h => absurd h hj⟩
        exact ⟨fun j => (this j).choose, fun j => (this j).choose_spec⟩
      refine ⟨some a, (List.range len).map F, cap, by simp, fun j hj => ?_⟩
      have hj' : j < len := by simpa using hj
      obtain ⟨b, off, ha, d0, d1, d2, d3⟩ := hF j hj'
      have e : nthS ((List.range len).map F) j = F j := by simp [nthS, hj']
      rw [e, ha]
      exact ⟨b, off, rfl, d0, d1, d2, d3⟩
  obtain ⟨k1, a1, b1, c1, rfl⟩ : ∃ k a b c : Int, v1 = .agg #[.int .i64 k, .int .i64 a, .int .i64 b, .int .i64 c] := by
    obtain ⟨cs, rfl, hsz⟩ := okWide_struct Try.underlying24 (hval 1 24 v1 rfl rfl)
    obtain ⟨fuel, hf⟩ := h1
    obtain ⟨hl, hx⟩ := open_struct Try.underlying24 (by kernel_rfl) (by kernel_rfl) hf
    obtain ⟨z0, y0, n0, c0, t0⟩ := hx 0 _ rfl
    obtain ⟨z1, y1, n1, c1, t1⟩ := hx 1 _ rfl
    obtain ⟨z2, y2, n2, c2, t2⟩ := hx 2 _ rfl
    obtain ⟨z3, y3, n3, c3, t3⟩ := hx 3 _ rfl
    obtain ⟨k, e0, _⟩ := DataW.trod_int Try.underlying22 t0
    obtain ⟨a, e1, _⟩ := DataW.trod_int Try.underlying3 t1
    obtain ⟨b, e2, _⟩ := DataW.trod_int Try.underlying3 t2
    obtain ⟨c, e3, _⟩ := DataW.trod_int Try.underlying3 t3
    simp only [List.cons.injEq, and_true] at e0 e1 e2 e3
    subst e0 e1 e2 e3
    refine ⟨k, a, b, c, ?_⟩
    obtain ⟨cl⟩ := cs
    simp [Value.cells] at hl c0 c1 c2 c3
    match cl, hl, c0, c1, c2, c3 with
    | [p0, p1, p2, p3], _, e0, e1, e2, e3 =>
      simp at e0 e1 e2 e3
      subst e0 e1 e2 e3
      rfl
  obtain ⟨a2, rfl, e2, f2, w2⟩ := open_int Try.underlying3 (hval 2 3 v2 rfl rfl) h2
  obtain ⟨a3, rfl, e3, f3, w3⟩ := open_int Try.underlying3 (hval 3 3 v3 rfl rfl) h3
  refine (routerCheapest_any A0 l0 cap0 ⟨k1, a1, b1, c1⟩ a2 a3 W hspecs0).mono fun e W' ⟨he, hg⟩ => ?_
  subst he
  exact ⟨_, rfl, law_post (tb := 4) hW' hA1 rfl laidOut readable Try.underlying4 rfl rfl rfl (fun _ => rfl) hg (ok_one (by kernel_rfl) rfl (okWide_bool_mk Try.underlying4 _))⟩

set_option maxRecDepth 100000 in
theorem lifted (os : Os) (started : os.Started) (H : Type) (enc : TypeId × Value → H) :
    ReturnsInHanded {} Try.checked os 6 .any (Rows.routerCheapestSpec.pre6 enc Try.prog Try.f6 Rows.routerCheapestRow.domain false) (Rows.routerCheapestSpec.post enc Try.prog Try.f6 false true false false) := by
  refine returnsInHanded_of_change (C := Try.checked) own started (by kernel_rfl) Try.func6
    (ChangeSpec.witness6 (enc := enc) (C := Try.checked) false ⟨#[], #[.slice none 0 0, (.agg #[.int .i64 0, .int .i64 0, .int .i64 0, .int .i64 0]), .int .i64 0, .int .i64 0], []⟩ 8 (by kernel_rfl) (by kernel_rfl) (by kernel_rfl) (by kernel_rfl)) ?_
  intro W base args ds gs before hval hW _ _
  exact contract H enc W base args ds gs before hval hW

theorem proved : Rows.RouterCheapestSaid :=
  OpenClaim.holds_of_wide 6 Try.f6 rfl rfl rfl rfl rfl rfl rfl ⟨rfl, rfl, rfl, rfl, rfl⟩ rfl rfl rfl rfl rfl (by kernel_rfl) Try.func6 (by kernel_rfl)
    (of_decide_eq_true (by kernel_rfl)) (by unfold Func.isWrapper; first | (rw [if_pos (by decide +kernel)]; kernel_rfl) | (rw [if_neg (by decide +kernel)]; exact ⟨rfl, rfl⟩))
    (fun os started H enc _ => lifted os started H enc)
#print axioms proved
end Go.Proofs.Ytnhplinlibegnaa.routerCheapest
