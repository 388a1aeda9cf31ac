/- What is printed is parsed as itself. -/
import Derived.Test.YtodjpljdkjemmaaParse
namespace Go.Proofs.Ytodjpljdkjemmaa
open Go.RowKit
set_option linter.unusedVariables false

/-- The number of a list of digits. -/
def valL (l : List Nat) : Nat := l.foldl (fun a c => 10 * a + (c - 48)) 0
theorem valL_snoc (l : List Nat) (c : Nat) : valL (l ++ [c]) = 10 * valL l + (c - 48) := by simp [valL]
theorem dig_val : ∀ (f n : Nat), n < 10 ^ f → valL (dig f n) = n
  | 0, n, h => by
    have : n = 0 := by simpa using h
    subst this
    rfl
  | f + 1, n, h => by
    rw [dig]
    split
    · rename_i h0
      subst h0
      rfl
    · rw [valL_snoc, dig_val f (n / 10) (by rw [Nat.pow_succ] at h; omega)]
      omega
theorem dig_digits : ∀ (f n x : Nat), x ∈ dig f n → 48 ≤ x ∧ x ≤ 57
  | 0, n, x, h => by simp [dig] at h
  | f + 1, n, x, h => by
    rw [dig] at h
    split at h
    · simp at h
    · rw [List.mem_append] at h
      rcases h with h | h
      · exact dig_digits f _ x h
      · simp at h; omega
theorem dec_digits (n x : Nat) (h : x ∈ dec n) : 48 ≤ x ∧ x ≤ 57 := by
  rw [dec, List.mem_append] at h
  rcases h with h | h
  · exact dig_digits _ _ x h
  · simp at h; omega
theorem dig_head : ∀ (f n : Nat), n < 10 ^ f → n ≠ 0 → ∃ h t, dig f n = h :: t ∧ h ≠ 48
  | 0, n, h, h0 => by
    have : n = 0 := by simpa using h
    exact absurd this h0
  | f + 1, n, h, h0 => by
    rw [dig, if_neg h0]
    by_cases h1 : n / 10 = 0
    · rw [h1, dig_zero]
      exact ⟨_, _, rfl, by omega⟩
    · obtain ⟨a, t, e, ha⟩ := dig_head f (n / 10) (by rw [Nat.pow_succ] at h; omega) h1
      rw [e]
      exact ⟨a, _, rfl, ha⟩
theorem dig_len : ∀ (f n k : Nat), n < 10 ^ k → (dig f n).length ≤ k
  | 0, n, k, h => by simp [dig]
  | f + 1, n, k, h => by
    rw [dig]
    split
    · simp
    · cases k with
      | zero => simp at h; omega
      | succ k =>
        have := dig_len f (n / 10) k (by rw [Nat.pow_succ] at h; omega)
        simp; omega
theorem text_size (l : List Nat) : (text l).size = l.length := by
  show ((l.map fun x => UInt8.ofNat x).toArray).size = _
  simp
theorem text_ch (l : List Nat) (hl : ∀ x ∈ l, x < 256) (j : Nat) (hj : j < l.length) : ch (text l) j = l[j] := by
  have := hl l[j] (List.getElem_mem hj)
  unfold ch
  show ((l.map fun x => UInt8.ofNat x).toArray.toList.getD j 0).toNat = _
  simp [List.getD_eq_getElem?_getD, hj]
  omega
theorem text_pre (l : List Nat) (hl : ∀ x ∈ l, x < 256) : ∀ k, k ≤ l.length → pre (text l) k = valL (l.take k)
  | 0, _ => by simp [pre, valL]
  | k + 1, h => by
    rw [pre, text_pre l hl k (by omega), text_ch l hl k (by omega), List.take_succ_eq_append_getElem (by omega), valL_snoc]
theorem dec_form (n : Nat) (h : n < 340282366920938463463374607431768211456) : form (text (dec n)) := by
  have hl : ∀ x ∈ dec n, x < 256 := fun x hx => by have := dec_digits n x hx; omega
  have hlen : (dec n).length = (dig 39 (n / 10)).length + 1 := by simp [dec]
  have hd := dig_len 39 (n / 10) 38 (by omega)
  refine ⟨by rw [text_size]; omega, by rw [text_size]; omega, fun h1 => ?_, fun j hj => ?_⟩
  · rw [text_size] at h1
    have hn : n / 10 ≠ 0 := fun e => by
      rw [e, dig_zero] at hlen
      simp at hlen
      omega
    obtain ⟨a, t, e, ha⟩ := dig_head 39 (n / 10) (by omega) hn
    have e2 : dec n = a :: (t ++ [48 + n % 10]) := by rw [dec, e]; rfl
    rw [text_ch _ hl 0 (by omega)]
    simp only [e2, List.getElem_cons_zero]
    exact ha
  · rw [text_size] at hj
    unfold dg
    rw [text_ch _ hl j hj]
    exact dec_digits n _ (List.getElem_mem hj)
theorem dec_pre (n : Nat) (h : n < 340282366920938463463374607431768211456) : pre (text (dec n)) (text (dec n)).size = n := by
  have hl : ∀ x ∈ dec n, x < 256 := fun x hx => by have := dec_digits n x hx; omega
  rw [text_pre _ hl _ (by rw [text_size]; exact Nat.le_refl _), text_size, List.take_length, dec, valL_snoc, dig_val 39 (n / 10) (by omega)]
  omega
/-- What is printed is parsed as itself. -/
theorem dec_par (n : Nat) (h : n < 340282366920938463463374607431768211456) : parN (text (dec n)) = n ∧ parE (text (dec n)) = 0 := by
  have := par_good (dec_form n h) (by rw [dec_pre n h]; exact h)
  rw [dec_pre n h] at this
  exact this
end Go.Proofs.Ytodjpljdkjemmaa
