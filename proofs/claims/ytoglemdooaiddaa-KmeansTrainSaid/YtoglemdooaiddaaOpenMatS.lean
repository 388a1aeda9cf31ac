/- Arguments opened: a slice of slices of whole numbers, and how long its rows may be. -/
import Derived.Deep.Matrix
import Derived.SizedLaws
import Derived.Test.YtoglemdooaiddaaOpen
import Derived.Test.YtoglemdooaiddaaKMem
namespace Go.Proofs.Ytoglemdooaiddaa
open Go.ChangeShapes Go.WideShapes Go.Deep Go.RowKit
section
variable {H : Type} {enc : TypeId × Value → H} {P : Program} {w : World} {base : Nat} {held : Bool}
theorem weights_all {e : TypeId} {d : DataW H} {n : Nat} : ∀ {ds : List (DataW H)}, d ∈ ds → n ∈ DataW.weights P e d → n ∈ DataW.weightsAll P e ds
  | d0 :: ds, hd, hn => by
    rw [DataW.weightsAll, List.mem_append]
    rcases List.mem_cons.1 hd with rfl | h
    · exact .inl hn
    · exact .inr (weights_all h hn)
theorem open_mat_sized {t e q : TypeId} {fuel : Nat} {v : Value} {x : DataW H × List MemPlace} (ht : P.underlying t = some (.slice e)) (he : P.underlying e = some (.slice q)) (hq : P.underlying q = some (.int .i64))
    (ce : P.cellsOf e = 1) (cq : P.cellsOf q = 1) (h : DataW.trod enc P w base (fun _ => true) held fuel t [v] = some x) :
    ∃ (A : Option Addr) (l : List (List Int)) (c : Nat), v = .slice A l.length c ∧ l.length ≤ c ∧ Mat w A l ∧ ∀ i, i < l.length → (mrow l i).length = 0 ∨ ∃ n, n ∈ DataW.weights P t x.1 ∧ (mrow l i).length * P.bytesOf q ≤ n := by
  rcases open_int_rows ht he hq ce cq h with ⟨hcs, _⟩ | ⟨a, len, cap, A, L, C, Z, hcs, _, hlc, _, hxd, hrow⟩
  · simp only [List.cons.injEq, and_true] at hcs
    exact ⟨none, [], 0, hcs, by simp, Mat.nil_, fun i hi => by simp at hi⟩
  · simp only [List.cons.injEq, and_true] at hcs
    have er : ∀ i, i < len → mrow ((List.range len).map fun r => (Z r).take (L r)) i = (Z i).take (L i) := fun i hi => mrow_map _ _ hi
    refine ⟨some a, (List.range len).map fun r => (Z r).take (L r), cap, by simp [hcs], by simpa using hlc, fun i hi => ?_, fun i hi => ?_⟩
    · have hi' : i < len := by simpa using hi
      obtain ⟨h1, h2, _, h4, _, h6, h7⟩ := hrow i (by omega)
      obtain ⟨b, off, rfl⟩ : ∃ b off, a = ⟨b, off, none⟩ := by
        obtain ⟨h0, _⟩ := hrow 0 (by omega)
        have e0 : a.add 0 = a := rfl
        rw [e0] at h0
        exact plain_addr h0
      rw [add_plain] at h1
      have el : ((Z i).take (L i)).length = L i := by rw [List.length_take, h4]; omega
      refine ⟨b, off, A i, C i, rfl, by rw [er i hi', el]; exact h1, fun j hj => ?_⟩
      rw [er i hi'] at hj ⊢
      rw [el] at hj
      cases hA : A i with
      | none => have := h6 hA; omega
      | some a' =>
        obtain ⟨_, hc⟩ := h7 a' hA
        have hc0 := hc 0 (by omega)
        have e0 : a'.add 0 = a' := rfl
        rw [e0] at hc0
        obtain ⟨b', off', rfl⟩ := plain_addr hc0
        have hcj := hc j (by omega)
        rw [add_plain] at hcj
        refine ⟨b', off', rfl, ?_⟩
        rw [hcj]
        simp [nth, hj]
    · have hi' : i < len := by simpa using hi
      obtain ⟨_, h2, _, h4, _, h6, _⟩ := hrow i (by omega)
      rw [er i hi']
      cases hA : A i with
      | none =>
        refine .inl ?_
        have := h6 hA
        rw [List.length_take]
        omega
      | some a' =>
        refine .inr ⟨((lits IntKind.i64 ((Z i).take (L i)) : List (DataW H)).length + (lits IntKind.i64 ((Z i).drop (L i)) : List (DataW H)).length) * P.bytesOf q, ?_, ?_⟩
        · rw [hxd]
          simp only [DataW.weights, ht]
          refine List.mem_cons_of_mem _ (List.mem_append_left _ (weights_all (d := intRow IntKind.i64 (A i) (L i) (Z i)) (List.mem_map.2 ⟨i, List.mem_range.2 hi', rfl⟩) ?_))
          rw [hA]
          simp only [intRow, DataW.weights, he]
          exact List.mem_cons_self
        · refine Nat.mul_le_mul_right _ ?_
          simp [lits]
end
end Go.Proofs.Ytoglemdooaiddaa
