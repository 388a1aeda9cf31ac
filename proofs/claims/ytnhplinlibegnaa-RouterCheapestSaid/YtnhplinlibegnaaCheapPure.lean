/- In haste: the cheapest, in plain numbers. -/
import Derived.Test.YtnhplinlibegnaaSpecs
import Derived.Maps.AppendAt
import Derived.OwnWalk
namespace Go.Proofs.Ytnhplinlibegnaa
open Go.RowKit
set_option linter.unusedVariables false

theorem bitLenAux_mono : ∀ (f x y : Nat), x ≤ y → Lib.bitLenAux f x ≤ Lib.bitLenAux f y
  | 0, x, y, h => by simp [Lib.bitLenAux]
  | f + 1, x, y, h => by
    simp only [Lib.bitLenAux]
    by_cases hx : x = 0
    · simp [hx]
    · rw [if_neg hx, if_neg (by omega)]
      have := bitLenAux_mono f (x / 2) (y / 2) (by omega)
      omega
theorem fewC_mono {r d n : Int} (hr : 0 ≤ r) (hd : 0 ≤ d) (hn : 0 ≤ n) : fewC r d n ≤ fewC (r + 1) d n := by
  unfold fewC
  have hb : Lib.bitLen r.toNat ≤ Lib.bitLen (r + 1).toNat := bitLenAux_mono 64 _ _ (by omega)
  have h1 : n * (Lib.bitLen r.toNat : Int) ≤ n * (Lib.bitLen (r + 1).toNat : Int) := Int.mul_le_mul_of_nonneg_left (by omega) hn
  exact Int.mul_le_mul_of_nonneg_left (by omega) hd
theorem upC_mono {a a' b : Int} (hb : 0 < b) (h : a ≤ a') : upC a b ≤ upC a' b := Int.ediv_le_ediv hb (by omega)

theorem costE_more {k a b c r d : Int} (h : costE k a b c r d = 0) (hr : r < 512) : costE k a b c (r + 1) d = 0 := by
  obtain ⟨h1, h2, h3⟩ := costE_zero h
  rw [costE, if_pos h1, if_neg (by omega)]
theorem costV_more {k a b c r d : Int} (h : costE k a b c r d = 0) (hr : r < 512) : costV k a b c r d ≤ costV k a b c (r + 1) d := by
  have h' := costE_more h hr
  rw [costV, costV, if_pos h, if_pos h']
  obtain ⟨h1, h2, h3⟩ := costE_zero h
  have hd : 0 ≤ d := by omega
  unfold costC
  rcases checkE_zero h1 with rfl | ⟨rfl | rfl | rfl, ha⟩ | ⟨rfl, ha, hbb, hcc⟩ | ⟨rfl, ha⟩
  · simp; exact Int.mul_le_mul_of_nonneg_left (by omega) hd
  · simp; exact fewC_mono h2.1 hd (by omega)
  · simp; exact fewC_mono h2.1 hd (by omega)
  · simp; exact Int.mul_le_mul_of_nonneg_left (by have := upC_mono (b := a) (by omega) (show 2 * r ≤ 2 * (r + 1) by omega); omega) hd
  · simp; exact Int.mul_le_mul_of_nonneg_left (upC_mono (by omega) (by omega)) (by omega)
  · simp; exact fewC_mono h2.1 hd (by omega)

/-- The scan's answer is a place, the numbers before it are greater, all are not less. -/
theorem scan_is (f : Nat → Int) : ∀ n, 0 < n → (scan f n).1 < n ∧ (scan f n).2 = f (scan f n).1 ∧ (∀ j, j < n → (scan f n).2 ≤ f j) ∧ ∀ j, j < (scan f n).1 → (scan f n).2 < f j
  | 0, h => by omega
  | n + 1, _ => by
    rw [scan]
    by_cases h0 : n = 0
    · subst h0
      simp only [true_or, if_true]
      exact ⟨by omega, trivial, fun j hj => by rw [show j = 0 by omega]; exact Int.le_refl _, fun j hj => by omega⟩
    · obtain ⟨h1, h2, h3, h4⟩ := scan_is f n (by omega)
      by_cases h : f n < (scan f n).2
      · rw [if_pos (.inr h)]
        refine ⟨Nat.lt_succ_self _, rfl, fun j hj => ?_, fun j hj => ?_⟩
        · by_cases e : j = n
          · rw [e]; exact Int.le_refl _
          · have := h3 j (by omega); show f n ≤ f j; omega
        · have := h3 j hj; show f n < f j; omega
      · rw [if_neg (by omega)]
        refine ⟨by omega, h2, fun j hj => ?_, h4⟩
        by_cases e : j = n
        · rw [e]; omega
        · exact h3 j (by omega)
theorem scan_congr {f g : Nat → Int} : ∀ n, (∀ j, j < n → f j = g j) → scan f n = scan g n
  | 0, _ => rfl
  | n + 1, h => by rw [scan, scan, scan_congr n (fun j hj => h j (by omega)), h n (by omega)]
theorem errTo_congr {f g : Nat → Int} : ∀ n, (∀ j, j < n → f j = g j) → errTo f n = errTo g n
  | 0, _ => rfl
  | n + 1, h => by rw [errTo, errTo, errTo_congr n (fun j hj => h j (by omega)), h n (by omega)]

theorem nthS_left (l : List Sp) (s : Sp) (j : Nat) (h : j < l.length) : nthS (l ++ [s]) j = nthS l j := by simp [nthS, List.getElem?_append_left h]
theorem nthS_last (l : List Sp) (s : Sp) : nthS (l ++ [s]) l.length = s := by simp [nthS]
theorem price_two (s : Sp) (r d : Int) : s.price 2 r d = s.costV r d := by
  unfold Sp.price priceOf
  rw [if_neg (by omega)]

/-- What the first choice says. -/
theorem chosen {l : List Sp} {r d : Int} (h : chooseE l r d 1 2 = 0) :
    0 < l.length ∧ l.length ≤ 16 ∧ (∀ j, j < l.length → (nthS l j).costE r d = 0) ∧ ∃ at_ : Nat, chooseV l r d 1 2 = at_ ∧ at_ < l.length ∧ (scanS l 2 r d l.length) = (at_, (nthS l at_).costV r d) ∧
      (∀ j, j < l.length → (nthS l at_).costV r d ≤ (nthS l j).costV r d) ∧ ∀ j, j < at_ → (nthS l at_).costV r d < (nthS l j).costV r d := by
  have hv : chooseV l r d 1 2 = (scanS l 2 r d l.length).1 := by rw [chooseV, if_pos h]
  unfold chooseE at h
  by_cases h0 : l.length = 0
  · rw [if_pos h0] at h; omega
  rw [if_neg h0] at h
  by_cases h1 : 16 < l.length
  · rw [if_pos h1] at h; omega
  rw [if_neg h1, if_neg (by omega), if_pos (.inr rfl)] at h
  have he := errTo_zero.1 h
  obtain ⟨s1, s2, s3, s4⟩ := scan_is (fun j => (nthS l j).price 2 r d) l.length (by omega)
  refine ⟨by omega, by omega, he, (scanS l 2 r d l.length).1, hv, s1, ?_, fun j hj => ?_, fun j hj => ?_⟩
  · have := s2
    simp only [price_two] at this
    exact Prod.ext rfl this
  · have a := s2; have b := s3 j hj
    simp only [price_two] at a b
    rw [a] at b
    exact b
  · have a := s2; have b := s4 j hj
    simp only [price_two] at a b
    rw [a] at b
    exact b
/-- What the second choice says. -/
theorem chosen_more {l : List Sp} {s : Sp} {r d : Int} {at_ : Nat} (hl : 0 < l.length) (hs : scanS l 2 r d l.length = (at_, (nthS l at_).costV r d)) (h : chooseE (l ++ [s]) r d 1 2 = 0) :
    s.costE r d = 0 ∧ ((chooseV (l ++ [s]) r d 1 2 = l.length ∧ s.costV r d < (nthS l at_).costV r d) ∨ (chooseV (l ++ [s]) r d 1 2 = at_ ∧ (nthS l at_).costV r d ≤ s.costV r d)) := by
  obtain ⟨_, _, he, at2, hv, _, hsc, _, _⟩ := chosen h
  have hlen : (l ++ [s]).length = l.length + 1 := by simp
  refine ⟨?_, ?_⟩
  · have := he l.length (by omega)
    rwa [nthS_last] at this
  · have e : scanS (l ++ [s]) 2 r d (l.length + 1) = if l.length = 0 ∨ s.costV r d < (scanS l 2 r d l.length).2 then (l.length, s.costV r d) else scanS l 2 r d l.length := by
      have c : scan (fun j => (nthS (l ++ [s]) j).price 2 r d) l.length = scanS l 2 r d l.length := scan_congr _ fun j hj => by rw [nthS_left l s j hj]
      show scan _ (l.length + 1) = _
      rw [scan, c, nthS_last, price_two]
    rw [hlen, e, hs] at hsc
    rw [hv]
    by_cases hlt : s.costV r d < (nthS l at_).costV r d
    · rw [if_pos (.inr hlt)] at hsc
      exact .inl ⟨by rw [← (Prod.mk.inj hsc).1], hlt⟩
    · rw [if_neg (fun hh => by rcases hh with hh | hh <;> omega)] at hsc
      exact .inr ⟨by rw [← (Prod.mk.inj hsc).1], by omega⟩

theorem own_specs {w : World} {base n : Nat} {e : TypeId} {v : Value} {l : List Sp} (h : w.ownsRow base e 4 v n (cellsS l)) (hn : 0 < n) : ∃ g cap, v = .slice (some ⟨g, 0, none⟩) n cap ∧ base ≤ g ∧ Specs w (some ⟨g, 0, none⟩) l := by
  rcases h.2 with ⟨_, h0⟩ | ⟨g, cap, cur, rfl, hb, hg, _, _, _, ht⟩
  · omega
  · refine ⟨g, cap, rfl, hb, ?_⟩
    have : cur = (cellsS l ++ cur.toList.drop (n * 4)).toArray := by rw [← ht, List.take_append_drop]
    rw [this] at hg
    exact Specs.of_blk hg
end Go.Proofs.Ytnhplinlibegnaa
