/- Arguments opened: rows, bools, whole numbers. -/
import Derived.Deep.Slices
import Derived.Deep.Fields
import Derived.ChangeSame
import Derived.ChangeArms
import Derived.Deep.LoopGhost
import Derived.Test.YtejbfglaalmafaaGreatDoorLWalk
namespace Go.Proofs.YtejbfglaalmafaaGreatDoor
open Go.ChangeShapes Go.WideShapes Go.Deep Go.RowKit
section
variable {H : Type} {enc : TypeId × Value → H} {P : Program} {w : World} {base : Nat} {spare : Nat → Bool} {held : Bool}
theorem open_fields {t e : TypeId} {fs : Array Field} {fuel : Nat} {cs : List Value} {x : DataW H × List MemPlace} (ht : P.underlying t = some (.slice e)) (he : P.underlying e = some (.struct fs))
    (hone : oneCellFields P fs = true) (hC : P.cellsOf e = fs.size) (h : DataW.trod enc P w base spare held fuel t cs = some x) :
    cs = [.slice none 0 0] ∨
    ∃ (a : Addr) (len cap m : Nat), cs = [.slice (some a) len cap] ∧ len ≤ cap ∧ cap ≤ maxLen ∧ len ≤ m ∧
      ∀ i, i < m → ∀ (j : Nat) (f : Field), fs[j]? = some f → ∃ (v : Value) (y : DataW H × List MemPlace) (n : Nat), w.cell? (a.add (i * fs.size + j)) = some v ∧ DataW.trod enc P w base spare held n f.type [v] = some y := by
  rcases open_slice ht h with h0 | ⟨a, len, cap, m, n, D, Pl, hcs, hb, hl, hm, hmm, hx, hi⟩
  · exact .inl h0.1
  · refine .inr ⟨a, len, cap, m, hcs, hl, hm, by rw [hmm]; split <;> omega, fun i him j f hj => ?_⟩
    obtain ⟨cs', hc, ht'⟩ := hi i him
    rw [hC] at hc
    obtain ⟨ys, n', hn', hy, hlen, hyl, hf⟩ := DataW.trod_struct he ht'
    obtain ⟨_, hcl, hat⟩ := World.cells?_some hc
    obtain ⟨ho, hk⟩ := hone_of hone j f hj
    have hjl : j < fs.size := (Array.getElem?_eq_some_iff.1 hj).1
    have hcell := hat j hjl
    have hv : cs'[j]? = some (cs'[j]'(by omega)) := List.getElem?_eq_getElem (by omega)
    have h1 := hf j f hj
    rw [ho, hk] at h1
    have hone' : (cs'.drop j).take 1 = [cs'[j]'(by omega)] := by
      rw [List.drop_eq_getElem_cons (by omega)]
      rfl
    rw [hone'] at h1
    have hys : ys[j]? = some (ys[j]'(by omega)) := List.getElem?_eq_getElem (by omega)
    refine ⟨_, _, _, ?_, h1.trans hys⟩
    rw [← Go.Deep.add_add, hcell, hv]
/-- An address at which a cell is there is a plain one. -/
theorem plain_addr {a : Addr} {v : Value} (h : w.cell? a = some v) : ∃ b off, a = ⟨b, off, none⟩ := by
  obtain ⟨b, off, sp⟩ := a
  cases sp with
  | none => exact ⟨b, off, rfl⟩
  | some s =>
    exfalso
    unfold World.cell? at h
    revert h
    split <;> simp
theorem add_plain (b off n : Nat) : (⟨b, off, none⟩ : Addr).add n = ⟨b, off + n, none⟩ := by
  unfold Addr.add
  split <;> simp_all
/-- A struct of one-cell fields, opened. -/
theorem open_struct {t : TypeId} {fs : Array Field} {fuel : Nat} {cs : List Value} {x : DataW H × List MemPlace} (ht : P.underlying t = some (.struct fs)) (hone : oneCellFields P fs = true) (hC : P.cellsOf t = fs.size)
    (h : DataW.trod enc P w base spare held fuel t cs = some x) :
    cs.length = fs.size ∧ ∀ (j : Nat) (f : Field), fs[j]? = some f → ∃ (v : Value) (y : DataW H × List MemPlace) (n : Nat), cs[j]? = some v ∧ DataW.trod enc P w base spare held n f.type [v] = some y := by
  obtain ⟨ys, n', hn', hy, hlen, hyl, hf⟩ := DataW.trod_struct ht h
  rw [hC] at hlen
  refine ⟨hlen, fun j f hj => ?_⟩
  obtain ⟨ho, hk⟩ := hone_of hone j f hj
  have hjl : j < fs.size := (Array.getElem?_eq_some_iff.1 hj).1
  have hv : cs[j]? = some (cs[j]'(by omega)) := List.getElem?_eq_getElem (by omega)
  have h1 := hf j f hj
  rw [ho, hk] at h1
  have hone' : (cs.drop j).take 1 = [cs[j]'(by omega)] := by
    rw [List.drop_eq_getElem_cons (by omega)]
    rfl
  rw [hone'] at h1
  have hys : ys[j]? = some (ys[j]'(by omega)) := List.getElem?_eq_getElem (by omega)
  exact ⟨_, _, _, hv, h1.trans hys⟩
/-- A slice of whole numbers, opened. -/
theorem open_ints {t e : TypeId} {fuel : Nat} {v : Value} {x : DataW H × List MemPlace} (ht : P.underlying t = some (.slice e)) (he : P.underlying e = some (.int .i64)) (hC : P.cellsOf e = 1)
    (h : DataW.trod enc P w base spare held fuel t [v] = some x) : ∃ (A : Option Addr) (l : List Int) (c : Nat), v = .slice A l.length c ∧ l.length ≤ c ∧ c ≤ maxLen ∧ Row w A l ∧ ∀ j, j < l.length → (Lit.int .i64 (nth l j)).wf = true := by
  rcases open_slice ht h with h0 | ⟨a, len, cap, m, n, D, Pl, hcs, hb, hl, hm, hmm, hx, hi⟩
  · have := h0.1
    simp only [List.cons.injEq, and_true] at this
    exact ⟨none, [], 0, this, by simp, by simp [maxLen], Row.nil_, fun j hj => by simp at hj⟩
  · simp only [List.cons.injEq, and_true] at hcs
    have hcell : ∀ i, i < len → ∃ z, w.cell? (a.add i) = some (.int .i64 z) ∧ (Lit.int .i64 z).wf = true := fun i hi' => by
      obtain ⟨cs', hc, ht'⟩ := hi i (by rw [hmm]; split <;> omega)
      rw [hC, Nat.mul_one] at hc
      obtain ⟨_, hcl, hat⟩ := World.cells?_some hc
      have h0 := hat 0 (by omega)
      obtain ⟨z, hz, _, hw⟩ := DataW.trod_int he ht'
      subst hz
      refine ⟨z, ?_, hw⟩
      have hadd : (a.add i).add 0 = a.add i := rfl
      rw [hadd] at h0
      simpa using h0
    refine ⟨some a, (List.range len).map fun i => intOf ((w.cell? (a.add i)).getD undef), cap, by simp [hcs], by simpa using hl, hm, fun j hj => ?_, fun j hj => ?_⟩
    · have hj' : j < len := by simpa using hj
      obtain ⟨z, hz, _⟩ := hcell j hj'
      obtain ⟨b, off, rfl⟩ : ∃ b off, a = ⟨b, off, none⟩ := by
        obtain ⟨z0, hz0, _⟩ := hcell 0 (by omega)
        have h0 : a.add 0 = a := rfl
        rw [h0] at hz0
        exact plain_addr hz0
      refine ⟨b, off, rfl, ?_⟩
      rw [add_plain] at hz
      rw [hz]
      simp [nth, hj', add_plain, hz, intOf]
    · have hj' : j < len := by simpa using hj
      obtain ⟨z, hz, hw⟩ := hcell j hj'
      simpa [nth, hj', hz, intOf] using hw
theorem open_bools {t e : TypeId} {fuel : Nat} {v : Value} {x : DataW H × List MemPlace} (ht : P.underlying t = some (.slice e)) (he : P.underlying e = some .bool) (hC : P.cellsOf e = 1)
    (h : DataW.trod enc P w base spare held fuel t [v] = some x) : ∃ (A : Option Addr) (n c : Nat) (gs : Nat → Bool), v = .slice A n c ∧ GoneAt w A n gs := by
  rcases open_slice ht h with h0 | ⟨a, len, cap, m, n, D, Pl, hcs, hb, hl, hm, hmm, hx, hi⟩
  · have := h0.1
    simp only [List.cons.injEq, and_true] at this
    exact ⟨none, 0, 0, fun _ => false, this, fun j hj => by omega⟩
  · simp only [List.cons.injEq, and_true] at hcs
    have hcell : ∀ i, i < len → ∃ z, w.cell? (a.add i) = some (.bool z) := fun i hi' => by
      obtain ⟨cs', hc, ht'⟩ := hi i (by rw [hmm]; split <;> omega)
      rw [hC, Nat.mul_one] at hc
      obtain ⟨_, hcl, hat⟩ := World.cells?_some hc
      have h0 := hat 0 (by omega)
      obtain ⟨z, hz, _⟩ := DataW.trod_bool he ht'
      subst hz
      refine ⟨z, ?_⟩
      have hadd : (a.add i).add 0 = a.add i := rfl
      rw [hadd] at h0
      simpa using h0
    have hch : ∀ i, ∃ z, i < len → w.cell? (a.add i) = some (.bool z) := fun i => by
      by_cases hi' : i < len
      · obtain ⟨z, hz⟩ := hcell i hi'
        exact ⟨z, fun _ => hz⟩
      · exact ⟨false, fun h => absurd h hi'⟩
    obtain ⟨gs, hgs⟩ := Classical.skolem.1 hch
    refine ⟨some a, len, cap, gs, hcs, fun j hj => ?_⟩
    have hz := hgs j hj
    obtain ⟨b, off, rfl⟩ : ∃ b off, a = ⟨b, off, none⟩ := by
      have h0 : a.add 0 = a := rfl
      have hz0 := hgs 0 (by omega)
      rw [h0] at hz0
      exact plain_addr hz0
    rw [add_plain] at hz
    exact ⟨b, off, rfl, hz⟩
theorem open_rows {t e q : TypeId} {fs : Array Field} {f0 f1 : Field} {fuel : Nat} {v : Value} {x : DataW H × List MemPlace} (ht : P.underlying t = some (.slice e)) (he : P.underlying e = some (.struct fs)) (hone : oneCellFields P fs = true) (hC : P.cellsOf e = fs.size) (hn : fs.size = 2)
    (h0 : fs[0]? = some f0) (h1 : fs[1]? = some f1) (ht0 : P.underlying f0.type = some (.int .i64)) (ht1 : P.underlying f1.type = some (.slice q)) (hq : P.underlying q = some (.int .i64)) (cq : P.cellsOf q = 1)
    (h : DataW.trod enc P w base spare held fuel t [v] = some x) : ∃ (A : Option Addr) (n c : Nat) (ids : Nat → Int) (VA : Nat → Option Addr) (vs : Nat → List Int) (vc : Nat → Nat), v = .slice A n c ∧ RowsAt w A n ids VA vs vc := by
  rcases open_fields ht he hone hC h with hcs | ⟨a, len, cap, m, hcs, hlc, hm, hlm, hat⟩
  · simp only [List.cons.injEq, and_true] at hcs
    exact ⟨none, 0, 0, fun _ => 0, fun _ => none, fun _ => [], fun _ => 0, hcs, fun j hj => by omega⟩
  · simp only [List.cons.injEq, and_true] at hcs
    have hrow : ∀ i, i < len → ∃ p : Int × Option Addr × List Int × Nat, w.cell? (a.add (i * 2)) = some (.int .i64 p.1) ∧ w.cell? (a.add (i * 2 + 1)) = some (.slice p.2.1 p.2.2.1.length p.2.2.2) ∧ Row w p.2.1 p.2.2.1 := fun i hi => by
      obtain ⟨v0, y0, n0, c0, t0⟩ := hat i (by omega) 0 f0 h0
      obtain ⟨v1, y1, n1, c1, t1⟩ := hat i (by omega) 1 f1 h1
      rw [hn] at c0 c1
      obtain ⟨z, hz, _, _⟩ := DataW.trod_int ht0 t0
      simp only [List.cons.injEq, and_true] at hz
      subst hz
      obtain ⟨A1, l1, cc, hv1, _, _, hr, _⟩ := open_ints ht1 hq cq t1
      subst hv1
      exact ⟨(z, A1, l1, cc), c0, c1, hr⟩
    have hch : ∀ i, ∃ p : Int × Option Addr × List Int × Nat, i < len → w.cell? (a.add (i * 2)) = some (.int .i64 p.1) ∧ w.cell? (a.add (i * 2 + 1)) = some (.slice p.2.1 p.2.2.1.length p.2.2.2) ∧ Row w p.2.1 p.2.2.1 := fun i => by
      by_cases hi' : i < len
      · obtain ⟨p, hp⟩ := hrow i hi'
        exact ⟨p, fun _ => hp⟩
      · exact ⟨(0, none, [], 0), fun h => absurd h hi'⟩
    obtain ⟨F, hF⟩ := Classical.skolem.1 hch
    refine ⟨some a, len, cap, fun i => (F i).1, fun i => (F i).2.1, fun i => (F i).2.2.1, fun i => (F i).2.2.2, hcs, fun j hj => ?_⟩
    obtain ⟨k0, k1, k2⟩ := hF j hj
    obtain ⟨b, off, rfl⟩ : ∃ b off, a = ⟨b, off, none⟩ := by
      have hz0 := (hF 0 (by omega)).1
      have h0 : a.add (0 * 2) = a := rfl
      rw [h0] at hz0
      exact plain_addr hz0
    rw [add_plain] at k0 k1
    exact ⟨b, off, rfl, k0, by rw [Nat.add_assoc]; exact k1, k2⟩
end
end Go.Proofs.YtejbfglaalmafaaGreatDoor
