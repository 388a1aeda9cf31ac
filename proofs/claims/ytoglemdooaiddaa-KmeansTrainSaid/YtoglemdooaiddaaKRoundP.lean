/- A round, step by step: the sums, the counts, the new centres. No program in sight. -/
import Derived.Test.YtoglemdooaiddaaKAll
namespace Go.Proofs.Ytoglemdooaiddaa
open Go.RowKit

/-- The sums behind j vectors, and n coordinates of the next one. -/
def sumsP (cs l : List (List Int)) (d j n : Nat) : List (List Int) := (List.range cs.length).map fun c => (List.range d).map fun x => if x < n then sumTo cs l c x (j + 1) else sumTo cs l c x j
def manyL (cs l : List (List Int)) (j : Nat) : List Int := (List.range cs.length).map fun c => (manyTo cs l c j : Int)
theorem sumsP_length (cs l : List (List Int)) (d j n : Nat) : (sumsP cs l d j n).length = cs.length := by simp [sumsP]
theorem manyL_length (cs l : List (List Int)) (j : Nat) : (manyL cs l j).length = cs.length := by simp [manyL]
theorem mrow_sumsP {cs l : List (List Int)} {d j n c : Nat} (h : c < cs.length) : mrow (sumsP cs l d j n) c = (List.range d).map fun x => if x < n then sumTo cs l c x (j + 1) else sumTo cs l c x j := mrow_map _ _ h
theorem mrow_sumsP_length {cs l : List (List Int)} {d j n c : Nat} (h : c < cs.length) : (mrow (sumsP cs l d j n) c).length = d := by rw [mrow_sumsP h]; simp
theorem nth_sumsP {cs l : List (List Int)} {d j n c x : Nat} (h : c < cs.length) (hx : x < d) : nth (mrow (sumsP cs l d j n) c) x = if x < n then sumTo cs l c x (j + 1) else sumTo cs l c x j := by
  rw [mrow_sumsP h, nth_map _ _ hx]
theorem nth_sums {cs l : List (List Int)} {d j c x : Nat} (h : c < cs.length) (hx : x < d) : nth (mrow (sumsP cs l d j 0) c) x = sumTo cs l c x j := by
  rw [nth_sumsP h hx, if_neg (by omega)]
theorem nth_manyL {cs l : List (List Int)} {j c : Nat} (h : c < cs.length) : nth (manyL cs l j) c = (manyTo cs l c j : Int) := nth_map _ _ h
theorem sumsP_full (cs l : List (List Int)) (d j : Nat) : sumsP cs l d j d = sumsP cs l d (j + 1) 0 := by
  refine mrow_ext (by rw [sumsP_length, sumsP_length]) fun c hc => ?_
  rw [sumsP_length] at hc
  refine nth_ext (by rw [mrow_sumsP_length hc, mrow_sumsP_length hc]) fun x hx => ?_
  rw [mrow_sumsP_length hc] at hx
  rw [nth_sumsP hc hx, nth_sumsP hc hx, if_pos hx, if_neg (by omega)]
theorem sumsP_step {cs l : List (List Int)} {d j n : Nat} (hat : (nearN cs (mrow l j)).1 < cs.length) (hn : n < d) :
    put2 (sumsP cs l d j n) (nearN cs (mrow l j)).1 n (sumTo cs l (nearN cs (mrow l j)).1 n j + nth (mrow l j) n) = sumsP cs l d j (n + 1) := by
  refine mrow_ext (by rw [put2_length, sumsP_length, sumsP_length]) fun c hc => ?_
  rw [put2_length, sumsP_length] at hc
  have hl : (mrow (sumsP cs l d j n) (nearN cs (mrow l j)).1).length = d := mrow_sumsP_length hat
  refine nth_ext (by rw [mrow_put2_length _ _ _ _ _ (by rw [sumsP_length]; exact hat), mrow_sumsP_length hc, mrow_sumsP_length hc]) fun x hx => ?_
  rw [mrow_put2_length _ _ _ _ _ (by rw [sumsP_length]; exact hat), mrow_sumsP_length hc] at hx
  rw [mrow_put2 _ _ _ _ _ (by rw [sumsP_length]; exact hat), nth_sumsP hc hx]
  by_cases hca : c = (nearN cs (mrow l j)).1
  · rw [if_pos hca, nth_set _ _ _ _ (by rw [hl]; exact hn)]
    by_cases hxn : x = n
    · subst hxn
      rw [if_pos rfl, if_pos (by omega), hca, sumTo, if_pos rfl]
    · rw [if_neg hxn, ← hca, nth_sumsP hc hx]
      by_cases h1 : x < n
      · rw [if_pos h1, if_pos (by omega)]
      · rw [if_neg h1, if_neg (by omega)]
  · rw [if_neg hca, nth_sumsP hc hx]
    have e : sumTo cs l c x (j + 1) = sumTo cs l c x j := by rw [sumTo, if_neg (fun h => hca h.symm), Int.add_zero]
    rw [e]
    simp
theorem sumsP_start (cs l : List (List Int)) (d : Nat) : sumsP cs l d 0 0 = List.replicate cs.length (List.replicate d 0) := by
  refine mrow_ext (by simp [sumsP_length]) fun c hc => ?_
  rw [sumsP_length] at hc
  have e : mrow (List.replicate cs.length (List.replicate d (0 : Int))) c = List.replicate d 0 := by simp [mrow, hc]
  rw [e]
  refine nth_ext (by rw [mrow_sumsP_length hc]; simp) fun x hx => ?_
  rw [mrow_sumsP_length hc] at hx
  rw [nth_sums hc hx]
  simp [nth, hx, sumTo]
theorem manyL_start (cs l : List (List Int)) : manyL cs l 0 = List.replicate cs.length 0 := by
  refine nth_ext (by simp [manyL_length]) fun c hc => ?_
  rw [manyL_length] at hc
  rw [nth_manyL hc]
  simp [nth, hc, manyTo]
theorem manyL_step {cs l : List (List Int)} {j : Nat} (hat : (nearN cs (mrow l j)).1 < cs.length) :
    (manyL cs l j).set (nearN cs (mrow l j)).1 ((manyTo cs l (nearN cs (mrow l j)).1 j : Int) + 1) = manyL cs l (j + 1) := by
  refine nth_ext (by simp [manyL_length]) fun c hc => ?_
  rw [List.length_set, manyL_length] at hc
  rw [nth_set _ _ _ _ (by rw [manyL_length]; exact hat), nth_manyL hc, nth_manyL hc, manyTo]
  by_cases h : c = (nearN cs (mrow l j)).1
  · rw [if_pos h, if_pos h.symm, ← h, Int.natCast_add, Int.natCast_one]
  · rw [if_neg h, if_neg (fun e => h e.symm)]; simp

/-- The centres, while the new ones are written: those before i, and n coordinates of centre i, are new. -/
def nextP (cs l : List (List Int)) (d i n : Nat) : List (List Int) := (List.range cs.length).map fun c => (List.range d).map fun x => if c < i ∨ c = i ∧ x < n then nth (nextRow cs l d c) x else nth (mrow cs c) x
theorem nextP_length (cs l : List (List Int)) (d i n : Nat) : (nextP cs l d i n).length = cs.length := by simp [nextP]
theorem mrow_nextP_length {cs l : List (List Int)} {d i n c : Nat} (h : c < cs.length) : (mrow (nextP cs l d i n) c).length = d := by rw [nextP, mrow_map _ _ h]; simp
theorem nth_nextP {cs l : List (List Int)} {d i n c x : Nat} (h : c < cs.length) (hx : x < d) : nth (mrow (nextP cs l d i n) c) x = if c < i ∨ c = i ∧ x < n then nth (nextRow cs l d c) x else nth (mrow cs c) x := by
  rw [nextP, mrow_map _ _ h, nth_map _ _ hx]
theorem nextP_start {cs l : List (List Int)} {d : Nat} (h : CoordAll cs d) : nextP cs l d 0 0 = cs := by
  refine mrow_ext (nextP_length _ _ _ _ _) fun c hc => ?_
  rw [nextP_length] at hc
  refine nth_ext (by rw [mrow_nextP_length hc, (h c hc).1]) fun x hx => ?_
  rw [mrow_nextP_length hc] at hx
  rw [nth_nextP hc hx, if_neg (by omega)]
theorem nextRow_length {cs l : List (List Int)} {d c : Nat} (h : CoordAll cs d) (hc : c < cs.length) : (nextRow cs l d c).length = d := by
  rw [nextRow]
  split
  · exact (h c hc).1
  · exact meanRow_length _ _ _ _
theorem nextP_full {cs l : List (List Int)} {d : Nat} (h : CoordAll cs d) : nextP cs l d cs.length 0 = nextN cs l d := by
  refine mrow_ext (by rw [nextP_length, nextN_length]) fun c hc => ?_
  rw [nextP_length] at hc
  rw [mrow_nextN _ _ _ _ hc]
  refine nth_ext (by rw [mrow_nextP_length hc, nextRow_length h hc]) fun x hx => ?_
  rw [mrow_nextP_length hc] at hx
  rw [nth_nextP hc hx, if_pos (.inl hc)]
theorem nextP_row (cs l : List (List Int)) (d i : Nat) : nextP cs l d i d = nextP cs l d (i + 1) 0 := by
  refine mrow_ext (by rw [nextP_length, nextP_length]) fun c hc => ?_
  rw [nextP_length] at hc
  refine nth_ext (by rw [mrow_nextP_length hc, mrow_nextP_length hc]) fun x hx => ?_
  rw [mrow_nextP_length hc] at hx
  rw [nth_nextP hc hx, nth_nextP hc hx]
  by_cases h1 : c < i + 1
  · rw [if_pos (by omega), if_pos (.inl h1)]
  · rw [if_neg (by omega), if_neg (by omega)]
theorem nextP_none {cs l : List (List Int)} {d i n : Nat} (hm : manyTo cs l i l.length = 0) : nextP cs l d i n = nextP cs l d i (n + 1) := by
  refine mrow_ext (by rw [nextP_length, nextP_length]) fun c hc => ?_
  rw [nextP_length] at hc
  refine nth_ext (by rw [mrow_nextP_length hc, mrow_nextP_length hc]) fun x hx => ?_
  rw [mrow_nextP_length hc] at hx
  rw [nth_nextP hc hx, nth_nextP hc hx]
  by_cases h1 : c = i ∧ x = n
  · obtain ⟨rfl, rfl⟩ := h1
    rw [if_neg (by omega), if_pos (.inr ⟨rfl, by omega⟩), nextRow, if_pos hm]
  · by_cases h2 : c < i ∨ c = i ∧ x < n
    · rw [if_pos h2, if_pos (by omega)]
    · rw [if_neg h2, if_neg (by omega)]
theorem nextP_step {cs l : List (List Int)} {d i n : Nat} (hi : i < cs.length) (hn : n < d) (hm : manyTo cs l i l.length ≠ 0) :
    put2 (nextP cs l d i n) i n (sumTo cs l i n l.length / (manyTo cs l i l.length : Int)) = nextP cs l d i (n + 1) := by
  refine mrow_ext (by rw [put2_length, nextP_length, nextP_length]) fun c hc => ?_
  rw [put2_length, nextP_length] at hc
  refine nth_ext (by rw [mrow_put2_length _ _ _ _ _ (by rw [nextP_length]; exact hi), mrow_nextP_length hc, mrow_nextP_length hc]) fun x hx => ?_
  rw [mrow_put2_length _ _ _ _ _ (by rw [nextP_length]; exact hi), mrow_nextP_length hc] at hx
  rw [mrow_put2 _ _ _ _ _ (by rw [nextP_length]; exact hi), nth_nextP hc hx]
  by_cases hci : c = i
  · subst hci
    rw [if_pos rfl, nth_set _ _ _ _ (by rw [mrow_nextP_length hc]; exact hn)]
    by_cases hxn : x = n
    · subst hxn
      rw [if_pos rfl, if_pos (.inr ⟨rfl, by omega⟩), nextRow, if_neg hm, meanRow, nth_map _ _ hn]
    · rw [if_neg hxn, nth_nextP hc hx]
      by_cases h2 : c < c ∨ c = c ∧ x < n
      · rw [if_pos h2, if_pos (by omega)]
      · rw [if_neg h2, if_neg (by omega)]
  · rw [if_neg hci, nth_nextP hc hx]
    by_cases h2 : c < i
    · rw [if_pos (.inl h2), if_pos (.inl h2)]
    · rw [if_neg (by omega), if_neg (by omega)]
theorem sum_ok {cs l : List (List Int)} {d c x i : Nat} (h : CoordAll l d) (hx : x < d) (hi : i ≤ l.length) (hl : l.length ≤ 512) : SumOk (sumTo cs l c x i) := by
  obtain ⟨h1, h2⟩ := sumTo_bound (cs := cs) (c := c) (x := x) (lo := -2147483647) (hi := 2147483647) i (fun j hj => (h j (by omega)).2 x hx)
  have h3 := manyTo_le cs l c i
  unfold SumOk
  omega
end Go.Proofs.Ytoglemdooaiddaa
