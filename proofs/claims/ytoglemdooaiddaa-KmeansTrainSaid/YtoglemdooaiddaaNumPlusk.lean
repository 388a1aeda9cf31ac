/- The contract of the document's plus. -/
import Derived.Test.YtoglemdooaiddaaNumk
namespace Go.Proofs.Ytoglemdooaiddaa
open Go.RowKit
set_option linter.unusedVariables false

/-- Not too great (a word, so that the walk does not look at the bound). -/
def Sml (v : Nat) : Prop := v ≤ 4294967296
theorem Sml.quot {v d s : Nat} (h : Sml v) (hd : d < 65536) (hs : s = v + d) : Sml (s / 65536) := by unfold Sml at *; omega
theorem Sml.wrap {v d s : Nat} (h : Sml v) (hd : d < 65536) (hs : s = v + d) : wrap64 ((v : Int) + (d : Int)) = (s : Int) := by unfold Sml at h; simp only [wrap64]; omega
theorem Sml.tdiv {v d s y : Nat} (h : Sml v) (hd : d < 65536) (hs : s = v + d) (hy : y = s / 65536) : wrap64 ((s : Int).tdiv 65536) = (y : Int) := by
  unfold Sml at h
  rw [Int.tdiv_eq_ediv_of_nonneg (by omega)]
  simp only [wrap64]; omega
theorem tmod_nat (s x : Nat) (hx : x = s % 65536) : (s : Int).tmod 65536 = (x : Int) := by rw [Int.tmod_eq_emod_of_nonneg (by omega)]; omega
theorem Sml.div2 {v d s y : Nat} (h : Sml v) (hd : d < 65536) (hs : s = v + d) (hy : y = s / 65536) : wrap64 ((s : Int) / 65536) = (y : Int) := by
  unfold Sml at h
  simp only [wrap64]; omega
theorem mod_nat (s x : Nat) (hx : x = s % 65536) : (s : Int) % 65536 = (x : Int) := by omega
def PlusPost (w : World) (D : List Nat) (o : Bool) (T : Nat) (e : Ending) (w' : World) : Prop :=
  ∃ D', e = .returned (numV D' (o || decide (340282366920938463463374607431768211456 ≤ T))) ∧ Dig D' ∧ val D' = T % 340282366920938463463374607431768211456 ∧ Below w.heap.size w w'
/-- Where the carry stands. -/
def Carry (D' : List Nat) (v' i T : Nat) : Prop := Dig D' ∧ val D' + v' * 65536 ^ i = T
theorem Carry.step {D : List Nat} {v i T s : Nat} (h : Carry D v i T) (hi : i < 8) (hs : s = v + nthN D i) : Carry (D.set i (s % 65536)) (s / 65536) (i + 1) T := by
  obtain ⟨h1, h2⟩ := h
  refine ⟨h1.set_ i _ hi (Nat.mod_lt _ (by omega)), ?_⟩
  have a := val_set D i (s % 65536) (by rw [h1.1]; exact hi)
  have b : s / 65536 * 65536 ^ (i + 1) = (s / 65536 * 65536) * 65536 ^ i := by rw [Nat.pow_succ, Nat.mul_comm (65536 ^ i) 65536, Nat.mul_assoc]
  have c : s % 65536 * 65536 ^ i + s / 65536 * 65536 * 65536 ^ i = (v + nthN D i) * 65536 ^ i := by rw [← Nat.add_mul, ← hs]; congr 1; omega
  rw [Nat.add_mul] at c
  rw [b]
  omega
theorem Carry.done {D : List Nat} {i T : Nat} (h : Carry D 0 i T) : val D = T % 340282366920938463463374607431768211456 ∧ T < 340282366920938463463374607431768211456 := by
  obtain ⟨h1, h2⟩ := h
  have := h1.lt
  rw [Nat.zero_mul, Nat.add_zero] at h2
  omega
theorem Carry.over {D : List Nat} {v i T : Nat} (h : Carry D v i T) (hv : 0 < v) (hi : 8 ≤ i) : val D = T % 340282366920938463463374607431768211456 ∧ 340282366920938463463374607431768211456 ≤ T := by
  obtain ⟨h1, h2⟩ := h
  have hl := h1.lt
  obtain ⟨j, rfl⟩ : ∃ j, i = 8 + j := ⟨i - 8, by omega⟩
  have e : v * 65536 ^ (8 + j) = 340282366920938463463374607431768211456 * (v * 65536 ^ j) := by
    rw [Nat.pow_add, show 65536 ^ 8 = 340282366920938463463374607431768211456 from rfl, ← Nat.mul_assoc, Nat.mul_comm v, Nat.mul_assoc]
  have hp : 0 < v * 65536 ^ j := Nat.mul_pos hv (Nat.pow_pos (by omega))
  rw [e] at h2
  generalize v * 65536 ^ j = z at *
  omega

end Go.Proofs.Ytoglemdooaiddaa
