/- Arguments opened: a slice of slices of Wides. -/
import Derived.Test.YtiamppbgpoffmaaQOpen
import Derived.Test.YtiamppbgpoffmaaPqEst
namespace Go.Proofs.Ytiamppbgpoffmaa
open Go.ChangeShapes Go.WideShapes Go.Deep Go.RowKit
set_option linter.unusedVariables false

theorem num_of_u64 {n : Int} (h : (Lit.int .u64 n).wf = true) : ∃ x : Nat, n = (x : Int) ∧ x < 18446744073709551616 := by
  simp only [Lit.wf, Bool.and_eq_true, decide_eq_true_eq] at h
  have h1 : (0 : Int) ≤ n := h.1
  have h2 : n ≤ 18446744073709551615 := h.2
  exact ⟨n.toNat, by omega, by omega⟩
theorem wide_of {h l : Nat} (s1 : h < 18446744073709551616) (s2 : l < 18446744073709551616) : Wd (h * 18446744073709551616 + l) ∧ hiN (h * 18446744073709551616 + l) = h ∧ loN (h * 18446744073709551616 + l) = l := by
  unfold Wd hiN loN
  omega
section
variable {H : Type} {enc : TypeId × Value → H} {P : Program} {w : World} {base : Nat} {spare : Nat → Bool} {held : Bool}
theorem open_wrow {t e : TypeId} {fs : Array Field} {f0 f1 : Field} {fuel : Nat} {v : Value} {x : DataW H × List MemPlace} (ht : P.underlying t = some (.slice e)) (he : P.underlying e = some (.struct fs))
    (hone : oneCellFields P fs = true) (hC : P.cellsOf e = fs.size) (hsz : fs.size = 2) (h0 : fs[0]? = some f0) (h1 : fs[1]? = some f1) (u0 : P.underlying f0.type = some (.int .u64)) (u1 : P.underlying f1.type = some (.int .u64))
    (h : DataW.trod enc P w base spare held fuel t [v] = some x) : ∃ (A : Option Addr) (l : List Nat) (c : Nat), v = .slice A l.length c ∧ WRow w A l ∧ ∀ j, j < l.length → Wd (nthw l j) := by
  rcases open_fields ht he hone hC h with hcs | ⟨a, len, cap, m, hcs, hlc, hcm, hlm, hi⟩
  · simp only [List.cons.injEq, and_true] at hcs
    exact ⟨none, [], 0, hcs, fun j hj => by simp at hj, fun j hj => by simp at hj⟩
  · simp only [List.cons.injEq, and_true] at hcs
    have hcell : ∀ j, ∃ D : Nat, j < len → Wd D ∧ ∃ b off, a = ⟨b, off, none⟩ ∧ w.cell? ⟨b, off + j * 2, none⟩ = some (.int .u64 (hiN D : Int)) ∧ w.cell? ⟨b, off + j * 2 + 1, none⟩ = some (.int .u64 (loN D : Int)) := fun j => by
      by_cases hj : j < len
      · obtain ⟨z, y0, n0, c0, _⟩ := hi 0 (by omega) 0 _ h0
        rw [Nat.zero_mul, Nat.add_zero] at c0
        have ha : a.add 0 = a := rfl
        rw [ha] at c0
        obtain ⟨b, off, rfl⟩ := plain_addr c0
        obtain ⟨k0, x0, m0, d0, t0⟩ := hi j (by omega) 0 _ h0
        obtain ⟨k1, x1, m1, d1, t1⟩ := hi j (by omega) 1 _ h1
        obtain ⟨z0, e0, _, w0⟩ := DataW.trod_int u0 t0
        obtain ⟨z1, e1, _, w1⟩ := DataW.trod_int u1 t1
        simp only [List.cons.injEq, and_true] at e0 e1
        subst e0 e1
        obtain ⟨n0, rfl, s0⟩ := num_of_u64 w0
        obtain ⟨n1, rfl, s1⟩ := num_of_u64 w1
        obtain ⟨g1, g2, g3⟩ := wide_of s0 s1
        rw [hsz, add_plain] at d0 d1
        refine ⟨n0 * 18446744073709551616 + n1, fun _ => ⟨g1, b, off, rfl, ?_, ?_⟩⟩
        · rw [g2]; exact d0
        · rw [g3, Nat.add_assoc]; exact d1
      · exact ⟨0, fun h => absurd h hj⟩
    obtain ⟨F, hF⟩ : ∃ F : Nat → Nat, ∀ j, j < len → Wd (F j) ∧ ∃ b off, a = ⟨b, off, none⟩ ∧ w.cell? ⟨b, off + j * 2, none⟩ = some (.int .u64 (hiN (F j) : Int)) ∧ w.cell? ⟨b, off + j * 2 + 1, none⟩ = some (.int .u64 (loN (F j) : Int)) := ⟨fun j => (hcell j).choose, fun j => (hcell j).choose_spec⟩
    clear hcell
    refine ⟨some a, (List.range len).map F, cap, by simp [hcs], fun j hj => ?_, fun j hj => ?_⟩
    · have hj' : j < len := by simpa using hj
      obtain ⟨_, b, off, ha, d0, d1⟩ := hF j hj'
      have e : nthw ((List.range len).map F) j = F j := by simp [nthw, hj']
      rw [e, ha]
      exact ⟨b, off, rfl, d0, d1⟩
    · have hj' : j < len := by simpa using hj
      have e : nthw ((List.range len).map F) j = F j := by simp [nthw, hj']
      rw [e]
      exact (hF j hj').1
theorem open_wtab {t q e : TypeId} {fs : Array Field} {f0 f1 : Field} {fuel : Nat} {v : Value} {x : DataW H × List MemPlace} (hT : P.underlying t = some (.slice q)) (hq : P.cellsOf q = 1) (ht : P.underlying q = some (.slice e)) (he : P.underlying e = some (.struct fs))
    (hone : oneCellFields P fs = true) (hC : P.cellsOf e = fs.size) (hsz : fs.size = 2) (h0 : fs[0]? = some f0) (h1 : fs[1]? = some f1) (u0 : P.underlying f0.type = some (.int .u64)) (u1 : P.underlying f1.type = some (.int .u64))
    (h : DataW.trod enc P w base spare held fuel t [v] = some x) : ∃ (A : Option Addr) (t : List (List Nat)) (c : Nat), v = .slice A t.length c ∧ WTab w A t ∧ TabW t := by
  rcases open_slice1 hT hq h with h2 | ⟨a, len, cap, m, n, V, D, Pl, hcs, hb, hl, hm, hmm, hx, hi⟩
  · have := h2.1
    simp only [List.cons.injEq, and_true] at this
    exact ⟨none, [], 0, this, fun j hj => by simp at hj, fun i x hi => by simp at hi⟩
  · simp only [List.cons.injEq, and_true] at hcs
    have hlm : len ≤ m := by rw [hmm]; split <;> omega
    have hrow : ∀ i, ∃ l : List Nat, i < len → ∃ b off A c, a = ⟨b, off, none⟩ ∧ w.cell? ⟨b, off + i, none⟩ = some (.slice A l.length c) ∧ WRow w A l ∧ ∀ j, j < l.length → Wd (nthw l j) := fun i => by
      by_cases hj : i < len
      · obtain ⟨c0, _⟩ := hi 0 (by omega)
        have ha : a.add 0 = a := rfl
        rw [ha] at c0
        obtain ⟨b, off, rfl⟩ := plain_addr c0
        obtain ⟨d0, t0⟩ := hi i (by omega)
        obtain ⟨A, l, c, hv, hr, hw⟩ := open_wrow ht he hone hC hsz h0 h1 u0 u1 t0
        rw [add_plain, hv] at d0
        exact ⟨l, fun _ => ⟨b, off, A, c, rfl, d0, hr, hw⟩⟩
      · exact ⟨[], fun h => absurd h hj⟩
    obtain ⟨F, hF⟩ : ∃ F : Nat → List Nat, ∀ i, i < len → ∃ b off A c, a = ⟨b, off, none⟩ ∧ w.cell? ⟨b, off + i, none⟩ = some (.slice A (F i).length c) ∧ WRow w A (F i) ∧ ∀ j, j < (F i).length → Wd (nthw (F i) j) := ⟨fun j => (hrow j).choose, fun j => (hrow j).choose_spec⟩
    clear hrow
    have ew : ∀ j, j < len → wrow ((List.range len).map F) j = F j := fun j hj => by simp [wrow, hj]
    refine ⟨some a, (List.range len).map F, cap, by simp [hcs], fun i hi2 => ?_, fun i x hi2 hx2 => ?_⟩
    · have hj' : i < len := by simpa using hi2
      obtain ⟨b, off, A, c, ha, d0, d1, _⟩ := hF i hj'
      rw [ew i hj', ha]
      exact ⟨b, off, A, c, rfl, d0, d1⟩
    · have hj' : i < len := by simpa using hi2
      obtain ⟨b, off, A, c, ha, d0, d1, d2⟩ := hF i hj'
      rw [ew i hj'] at hx2 ⊢
      exact d2 x hx2
end
end Go.Proofs.Ytiamppbgpoffmaa
