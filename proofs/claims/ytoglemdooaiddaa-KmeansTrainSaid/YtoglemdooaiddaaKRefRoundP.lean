/- The document's down; the document's rows in memory; a round's steps. -/
import Derived.Test.YtoglemdooaiddaaKRefNear
import Derived.Test.YtoglemdooaiddaaKRoundP
import Derived.Test.YtoglemdooaiddaaKClone
namespace Go.Proofs.Ytoglemdooaiddaa
open Go.RowKit
set_option linter.unusedVariables false

theorem flat_mul {a b : Int} (ha : SumOk a) (hb : 0 < b) (h : 0 ≤ a ∨ b ∣ a) : SumOk (a / b * b) ∧ a / b * b ≤ a := by
  have h1 := Int.ediv_mul_le a (show b ≠ 0 by omega)
  obtain ⟨h3, h4⟩ := ha
  rcases h with h0 | h0
  · have h5 : 0 ≤ a / b := Int.ediv_nonneg h0 (by omega)
    have h6 : 0 ≤ a / b * b := Int.mul_nonneg h5 (by omega)
    exact ⟨⟨by omega, by omega⟩, h1⟩
  · rw [Int.ediv_mul_cancel h0]
    exact ⟨⟨h3, h4⟩, Int.le_refl _⟩
theorem up_mul {a b : Int} (ha : SumOk a) (hb : 0 < b) (h : ¬ (0 ≤ a ∨ b ∣ a)) : SumOk ((a / b + 1) * b) ∧ a < (a / b + 1) * b := by
  have h2 := Int.lt_ediv_add_one_mul_self a hb
  obtain ⟨h3, h4⟩ := ha
  have h5 : a / b < 0 := Int.ediv_lt_of_lt_mul hb (by omega)
  have h6 : (a / b + 1) * b ≤ 0 * b := Int.mul_le_mul_of_nonneg_right (by omega) (by omega)
  rw [Int.zero_mul] at h6
  exact ⟨⟨by omega, by omega⟩, h2⟩
theorem rdown_any (a b : Int) (ha : SumOk a) (hb : 0 < b) (w : World) :
    Calls Try.prog 52 #[.int .i64 a, .int .i64 b] w fun e w' => e = .returned (.int .i64 (a / b)) ∧ w = w' := by
  have hq := quo_ok ha hb
  have hne : (b == 0) = false := by simp; omega
  by_cases h : 0 ≤ a ∨ b ∣ a
  · obtain ⟨m1, m2⟩ := flat_mul ha hb h
    have e1 := tdiv_flat h
    have e2 := wrap_of hq
    have e3 := wrap_of m1
    generalize a / b = q at *
    have m2' : decide (a < q * b) = false := decide_eq_false (by omega)
    clear h ha hq m1 m2
    go_enter Try.func52, Try.ntmps52
    go_wp2_with fail
    go_ret
    exact ⟨by rw [e2]; rfl, rfl⟩
  · obtain ⟨m1, m2⟩ := up_mul ha hb h
    have e1 := tdiv_up hb h
    have e2 := wrap_of1 hq
    have e4 := wrap_of hq
    have e3 := wrap_of m1
    generalize hp : (a / b + 1) * b = p at *
    obtain ⟨q1, hq1⟩ : ∃ q1, a / b + 1 = q1 := ⟨_, rfl⟩
    rw [hq1] at e1 e2 hp
    have e5 : wrap64 (q1 - 1) = a / b := by rw [← hq1, Int.add_sub_cancel]; exact e4
    generalize a / b = q at *
    clear h ha hq m1 hq1 e4
    go_enter Try.func52, Try.ntmps52
    go_wp2_with fail
    go_ret
    exact ⟨by rw [e5]; rfl, rfl⟩

/-! ### Rows in blocks that a word P speaks of -/
def RowP (P : Nat → Prop) (w : World) (A : Option Addr) (l : List Int) : Prop := ∀ j, j < l.length → ∃ g off, A = some ⟨g, off, none⟩ ∧ P g ∧ w.cell? ⟨g, off + j, none⟩ = some (.int .i64 (nth l j))
def MatP (P : Nat → Prop) (w : World) (A : Option Addr) (m : List (List Int)) : Prop :=
  ∀ i, i < m.length → ∃ g off R c, A = some ⟨g, off, none⟩ ∧ P g ∧ w.cell? ⟨g, off + i, none⟩ = some (.slice R (mrow m i).length c) ∧ RowP P w R (mrow m i)
section
variable {P : Nat → Prop} {w w' : World} {A : Option Addr} {l : List Int} {m : List (List Int)}
theorem RowP.row (h : RowP P w A l) : Row w A l := fun j hj => by
  obtain ⟨g, off, h1, _, h3⟩ := h j hj
  exact ⟨g, off, h1, h3⟩
theorem RowP.keep (h : RowP P w A l) (hk : ∀ b, P b → b < w.heap.size → w'.heap[b]? = w.heap[b]?) : RowP P w' A l := fun j hj => by
  obtain ⟨g, off, h1, h2, h3⟩ := h j hj
  exact ⟨g, off, h1, h2, (World.cell?_of_block (hk g h2 (World.block_lt_of_cell? w _ h3))).trans h3⟩
theorem RowP.below (h : RowP P w A l) (hb : Below w.heap.size w w') : RowP P w' A l := h.keep fun b _ hlt => hb.block b hlt
theorem MatP.mat (h : MatP P w A m) : Mat w A m := fun i hi => by
  obtain ⟨g, off, R, c, h1, _, h3, h4⟩ := h i hi
  exact ⟨g, off, R, c, h1, h3, h4.row⟩
theorem MatP.keep (h : MatP P w A m) (hk : ∀ b, P b → b < w.heap.size → w'.heap[b]? = w.heap[b]?) : MatP P w' A m := fun i hi => by
  obtain ⟨g, off, R, c, h1, h2, h3, h4⟩ := h i hi
  exact ⟨g, off, R, c, h1, h2, (World.cell?_of_block (hk g h2 (World.block_lt_of_cell? w _ h3))).trans h3, h4.keep hk⟩
theorem MatP.below (h : MatP P w A m) (hb : Below w.heap.size w w') : MatP P w' A m := h.keep fun b _ hlt => hb.block b hlt
theorem Row.rowP (h : Row w A l) (hP : ∀ b, b < w.heap.size → P b) : RowP P w A l := fun j hj => by
  obtain ⟨g, off, h1, h3⟩ := h j hj
  exact ⟨g, off, h1, hP g (World.block_lt_of_cell? w _ h3), h3⟩
theorem Mat.matP (h : Mat w A m) (hP : ∀ b, b < w.heap.size → P b) : MatP P w A m := fun i hi => by
  obtain ⟨g, off, R, c, h1, h3, h4⟩ := h i hi
  exact ⟨g, off, R, c, h1, hP g (World.block_lt_of_cell? w _ h3), h3, h4.rowP hP⟩
end
/-- A slice of the call's own whose elements are rows that are not in its own block. -/
def OutS (P : Nat → Prop) (B : Nat) (wr : World) (out : Value) (k : Nat) (m : List (List Int)) : Prop :=
  ∃ xs, wr.ownsRow B 30 1 out k xs ∧ ∀ i, i < k → ∃ g off c, xs[i]? = some (.slice (some ⟨g, off, none⟩) (mrow m i).length c) ∧ P g ∧ g < wr.heap.size ∧ out.ownBlock ≠ some g ∧ RowP P wr (some ⟨g, off, none⟩) (mrow m i)
theorem OutS.start (P : Nat → Prop) (B : Nat) (w : World) (m : List (List Int)) : OutS P B w (.slice none 0 0) 0 m := ⟨[], World.ownsRow_nil _ _ _ _, fun i hi => by omega⟩
theorem OutS.below {P : Nat → Prop} {B : Nat} {wr w2 : World} {out : Value} {k : Nat} {m : List (List Int)} (h : OutS P B wr out k m) (hb : Below wr.heap.size wr w2) : OutS P B w2 out k m := by
  obtain ⟨xs, h1, h2⟩ := h
  refine ⟨xs, h1.kept (grown_of_below hb none) (by simp; exact Classical.em _), fun i hi => ?_⟩
  obtain ⟨g, off, c, e1, e5, e2, e3, e4⟩ := h2 i hi
  exact ⟨g, off, c, e1, e5, Nat.lt_of_lt_of_le e2 hb.size, e3, e4.below hb⟩
theorem OutS.mat {P : Nat → Prop} {B : Nat} {wr : World} {out : Value} {m : List (List Int)} (h : OutS P B wr out m.length m) (h0 : 0 < m.length) (hP : ∀ b, B ≤ b → P b) : ∃ g c, out = .slice (some ⟨g, 0, none⟩) m.length c ∧ MatP P wr (some ⟨g, 0, none⟩) m := by
  obtain ⟨xs, h1, h2⟩ := h
  obtain ⟨g, cap, rfl, hg, _⟩ := own_shape h1 h0
  refine ⟨g, cap, rfl, fun i hi => ?_⟩
  obtain ⟨g3, off, c, e1, e5, e2, e3, e4⟩ := h2 i hi
  have hx : i < xs.length := (List.getElem?_eq_some_iff.1 e1).1
  exact ⟨g, 0, _, c, rfl, hP g hg, by rw [Nat.zero_add, h1.cellAt i (by omega)]; exact e1, e4⟩
theorem OutS.lt {P : Nat → Prop} {B : Nat} {wr : World} {out : Value} {k : Nat} {m : List (List Int)} (h : OutS P B wr out k m) : ∀ q, out.ownBlock = some q → B ≤ q ∧ q < wr.heap.size := by
  obtain ⟨xs, h1, _⟩ := h
  exact fun q hq => own_lt' h1 q hq
theorem RowP.grown {P : Nat → Prop} {w w' : World} {g off : Nat} {l : List Int} {row : Option Nat} (h : RowP P w (some ⟨g, off, none⟩) l) (hg : w.grownBy w' row) (hr : row ≠ some g) : RowP P w' (some ⟨g, off, none⟩) l := fun j hj => by
  obtain ⟨b, o, hA, hp, hc⟩ := h j hj
  simp only [Option.some.injEq, Addr.mk.injEq, and_true] at hA
  obtain ⟨rfl, rfl⟩ := hA
  exact ⟨g, off, rfl, hp, (World.cell?_of_block (hg.block g (World.block_lt_of_cell? w _ hc) (fun e => hr e.symm))).trans hc⟩
/-- One more row. -/
theorem OutS.snoc {P : Nat → Prop} {B : Nat} {wr w2 : World} {out v1 : Value} {k : Nat} {m : List (List Int)} {xs : List Value} {g off c : Nat}
    (HO : wr.ownsRow B 30 1 out k xs) (hX : ∀ i, i < k → ∃ g off c, xs[i]? = some (.slice (some ⟨g, off, none⟩) (mrow m i).length c) ∧ P g ∧ g < wr.heap.size ∧ out.ownBlock ≠ some g ∧ RowP P wr (some ⟨g, off, none⟩) (mrow m i))
    (HO1 : w2.ownsRow B 30 1 v1 (k + 1) (xs ++ [.slice (some ⟨g, off, none⟩) (mrow m k).length c])) (hg : wr.grownBy w2 out.ownBlock) (hat : v1.ownBlock = out.ownBlock ∨ v1.ownBlock = some (wr.heap.size + 1))
    (hp : P g) (hlt : g < wr.heap.size) (hne : out.ownBlock ≠ some g) (hr : RowP P wr (some ⟨g, off, none⟩) (mrow m k)) : OutS P B w2 v1 (k + 1) m := by
  refine ⟨_, HO1, fun i hi => ?_⟩
  have hxl : xs.length = k := by have := HO.1; simpa using this
  by_cases e : i = k
  · subst e
    refine ⟨g, off, c, by simp [← hxl], hp, Nat.lt_of_lt_of_le hlt hg.size, ?_, hr.grown hg hne⟩
    rcases hat with e1 | e1
    · rw [e1]; exact hne
    · rw [e1]; simp; omega
  · obtain ⟨g5, o5, c5, e1, e5, e2, e3, e4⟩ := hX i (by omega)
    refine ⟨g5, o5, c5, by rw [List.getElem?_append_left (by omega)]; exact e1, e5, Nat.lt_of_lt_of_le e2 hg.size, ?_, e4.grown hg e3⟩
    rcases hat with e6 | e6
    · rw [e6]; exact e3
    · rw [e6]; simp; omega

/-! ### The document's round, step by step -/
def whereL (cs l : List (List Int)) (j : Nat) : List Int := (List.range j).map fun i => ((nearN cs (mrow l i)).1 : Int)
theorem whereL_succ (cs l : List (List Int)) (j : Nat) : whereL cs l j ++ [((nearN cs (mrow l j)).1 : Int)] = whereL cs l (j + 1) := by simp [whereL, List.range_succ]
theorem nth_whereL {cs l : List (List Int)} {j i : Nat} (h : i < j) : nth (whereL cs l j) i = ((nearN cs (mrow l i)).1 : Int) := nth_map _ _ h
theorem whereL_length (cs l : List (List Int)) (j : Nat) : (whereL cs l j).length = j := by simp [whereL]
/-- The sums of centre c behind i vectors, and n coordinates of the next one. -/
def rowP (cs l : List (List Int)) (c d i n : Nat) : List Int := (List.range d).map fun x => if x < n then sumTo cs l c x (i + 1) else sumTo cs l c x i
theorem rowP_length (cs l : List (List Int)) (c d i n : Nat) : (rowP cs l c d i n).length = d := by simp [rowP]
theorem nth_rowP {cs l : List (List Int)} {c d i n x : Nat} (hx : x < d) : nth (rowP cs l c d i n) x = if x < n then sumTo cs l c x (i + 1) else sumTo cs l c x i := nth_map _ _ hx
theorem rowP_start (cs l : List (List Int)) (c d : Nat) : List.replicate d 0 = rowP cs l c d 0 0 := by
  refine nth_ext (by simp [rowP_length]) fun x hx => ?_
  have hx' : x < d := by simpa using hx
  rw [nth_rowP hx', if_neg (by omega)]
  simp [nth, hx', sumTo]
theorem rowP_skip {cs l : List (List Int)} {c d i : Nat} (h : (nearN cs (mrow l i)).1 ≠ c) : rowP cs l c d i 0 = rowP cs l c d (i + 1) 0 := by
  refine nth_ext (by rw [rowP_length, rowP_length]) fun x hx => ?_
  rw [rowP_length] at hx
  rw [nth_rowP hx, nth_rowP hx, if_neg (by omega), if_neg (by omega), sumTo, if_neg h, Int.add_zero]
theorem rowP_full (cs l : List (List Int)) (c d i : Nat) : rowP cs l c d i d = rowP cs l c d (i + 1) 0 := by
  refine nth_ext (by rw [rowP_length, rowP_length]) fun x hx => ?_
  rw [rowP_length] at hx
  rw [nth_rowP hx, nth_rowP hx, if_pos hx, if_neg (by omega)]
theorem rowP_step {cs l : List (List Int)} {c d i n : Nat} (h : (nearN cs (mrow l i)).1 = c) (hn : n < d) : (rowP cs l c d i n).set n (sumTo cs l c n i + nth (mrow l i) n) = rowP cs l c d i (n + 1) := by
  refine nth_ext (by rw [List.length_set, rowP_length, rowP_length]) fun x hx => ?_
  rw [List.length_set, rowP_length] at hx
  rw [nth_set _ _ _ _ (by rw [rowP_length]; exact hn), nth_rowP hx, nth_rowP hx]
  by_cases e : x = n
  · subst e
    rw [if_pos rfl, if_pos (by omega), sumTo, if_pos h]
  · rw [if_neg e]
    by_cases h1 : x < n
    · rw [if_pos h1, if_pos (by omega)]
    · rw [if_neg h1, if_neg (by omega)]
theorem many_step {cs l : List (List Int)} {c i : Nat} (h : (nearN cs (mrow l i)).1 = c) : manyTo cs l c (i + 1) = manyTo cs l c i + 1 := by rw [manyTo, if_pos h]
theorem many_skip {cs l : List (List Int)} {c i : Nat} (h : (nearN cs (mrow l i)).1 ≠ c) : manyTo cs l c (i + 1) = manyTo cs l c i := by rw [manyTo, if_neg h, Nat.add_zero]
/-- The sums, n of them divided. -/
def divP (cs l : List (List Int)) (c d n : Nat) : List Int := (List.range d).map fun x => if x < n then sumTo cs l c x l.length / (manyTo cs l c l.length : Int) else sumTo cs l c x l.length
theorem divP_length (cs l : List (List Int)) (c d n : Nat) : (divP cs l c d n).length = d := by simp [divP]
theorem nth_divP {cs l : List (List Int)} {c d n x : Nat} (hx : x < d) : nth (divP cs l c d n) x = if x < n then sumTo cs l c x l.length / (manyTo cs l c l.length : Int) else sumTo cs l c x l.length := nth_map _ _ hx
theorem divP_start (cs l : List (List Int)) (c d : Nat) : rowP cs l c d l.length 0 = divP cs l c d 0 := by
  refine nth_ext (by rw [rowP_length, divP_length]) fun x hx => ?_
  rw [rowP_length] at hx
  rw [nth_rowP hx, nth_divP hx, if_neg (by omega), if_neg (by omega)]
theorem divP_full (cs l : List (List Int)) (c d : Nat) : divP cs l c d d = meanRow cs l d c := by
  refine nth_ext (by rw [divP_length, meanRow_length]) fun x hx => ?_
  rw [divP_length] at hx
  rw [nth_divP hx, if_pos hx, meanRow, nth_map _ _ hx]
theorem divP_step {cs l : List (List Int)} {c d n : Nat} (hn : n < d) : (divP cs l c d n).set n (sumTo cs l c n l.length / (manyTo cs l c l.length : Int)) = divP cs l c d (n + 1) := by
  refine nth_ext (by rw [List.length_set, divP_length, divP_length]) fun x hx => ?_
  rw [List.length_set, divP_length] at hx
  rw [nth_set _ _ _ _ (by rw [divP_length]; exact hn), nth_divP hx, nth_divP hx]
  by_cases e : x = n
  · subst e
    rw [if_pos rfl, if_pos (by omega)]
  · rw [if_neg e]
    by_cases h1 : x < n
    · rw [if_pos h1, if_pos (by omega)]
    · rw [if_neg h1, if_neg (by omega)]
end Go.Proofs.Ytoglemdooaiddaa
