/- Arguments opened: a slice of slices of whole numbers. -/
import Derived.Deep.Matrix
import Derived.Test.YtoglemdooaiddaaOpen
import Derived.Test.YtoglemdooaiddaaKMem
namespace Go.Proofs.Ytoglemdooaiddaa
open Go.ChangeShapes Go.WideShapes Go.Deep Go.RowKit
section
variable {H : Type} {enc : TypeId × Value → H} {P : Program} {w : World} {base : Nat} {held : Bool}
theorem open_mat {t e q : TypeId} {fuel : Nat} {v : Value} {x : DataW H × List MemPlace} (ht : P.underlying t = some (.slice e)) (he : P.underlying e = some (.slice q)) (hq : P.underlying q = some (.int .i64))
    (ce : P.cellsOf e = 1) (cq : P.cellsOf q = 1) (h : DataW.trod enc P w base (fun _ => true) held fuel t [v] = some x) :
    ∃ (A : Option Addr) (l : List (List Int)) (c : Nat), v = .slice A l.length c ∧ l.length ≤ c ∧ Mat w A l ∧ (A = none → c = 0) := by
  rcases open_int_rows ht he hq ce cq h with ⟨hcs, _⟩ | ⟨a, len, cap, A, L, C, Z, hcs, _, hlc, _, _, hrow⟩
  · simp only [List.cons.injEq, and_true] at hcs
    exact ⟨none, [], 0, hcs, by simp, Mat.nil_, fun _ => rfl⟩
  · simp only [List.cons.injEq, and_true] at hcs
    refine ⟨some a, (List.range len).map fun r => (Z r).take (L r), cap, by simp [hcs], by simpa using hlc, fun i hi => ?_, fun h => by cases h⟩
    have hi' : i < len := by simpa using hi
    obtain ⟨h1, h2, _, h4, _, h6, h7⟩ := hrow i (by omega)
    obtain ⟨b, off, rfl⟩ : ∃ b off, a = ⟨b, off, none⟩ := by
      obtain ⟨h0, _⟩ := hrow 0 (by omega)
      have e0 : a.add 0 = a := rfl
      rw [e0] at h0
      exact plain_addr h0
    rw [add_plain] at h1
    have er : mrow ((List.range len).map fun r => (Z r).take (L r)) i = (Z i).take (L i) := mrow_map _ _ hi'
    have el : ((Z i).take (L i)).length = L i := by rw [List.length_take, h4]; omega
    refine ⟨b, off, A i, C i, rfl, by rw [er, el]; exact h1, fun j hj => ?_⟩
    rw [er] at hj ⊢
    rw [el] at hj
    cases hA : A i with
    | none => have := h6 hA; omega
    | some a' =>
      obtain ⟨_, hc⟩ := h7 a' hA
      have hc0 := hc 0 (by omega)
      have e0 : a'.add 0 = a' := rfl
      rw [e0] at hc0
      obtain ⟨b', off', rfl⟩ := plain_addr hc0
      have hcj := hc j (by omega)
      rw [add_plain] at hcj
      refine ⟨b', off', rfl, ?_⟩
      rw [hcj]
      simp [nth, hj]
end
end Go.Proofs.Ytoglemdooaiddaa
