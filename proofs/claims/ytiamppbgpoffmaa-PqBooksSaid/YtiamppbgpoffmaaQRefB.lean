/- The document's down; the document's rows in memory; a round's steps. The contract of theodoliteref06.round: the centres behind a round. The contracts of the document's source. The contract of theodoliteref06.Train. The contracts of theodoliteref03.Ints and of theodoliteref06.Same where both are the same. -/
import Derived.Test.YtiamppbgpoffmaaQRefA
import Derived.Test.YtiamppbgpoffmaaQTrain
import Derived.Test.YtiamppbgpoffmaaQRand
import Derived.Test.YtiamppbgpoffmaaQBase
import Derived.WalkKit
import Derived.Deep.LoopGhost
import Derived.Test.YtiamppbgpoffmaaQDist
import Derived.Deep.RegionHeld3
namespace Go.Proofs.Ytiamppbgpoffmaa
open Go.RowKit
set_option linter.unusedVariables false

theorem flat_mul {a b : Int} (ha : SumOk a) (hb : 0 < b) (h : 0 ≤ a ∨ b ∣ a) : SumOk (a / b * b) ∧ a / b * b ≤ a := by
  have h1 := Int.ediv_mul_le a (show b ≠ 0 by omega)
  obtain ⟨h3, h4⟩ := ha
  rcases h with h0 | h0
  · have h5 : 0 ≤ a / b := Int.ediv_nonneg h0 (by omega)
    have h6 : 0 ≤ a / b * b := Int.mul_nonneg h5 (by omega)
    exact ⟨⟨by omega, by omega⟩, h1⟩
  · rw [Int.ediv_mul_cancel h0]
    exact ⟨⟨h3, h4⟩, Int.le_refl _⟩
theorem up_mul {a b : Int} (ha : SumOk a) (hb : 0 < b) (h : ¬ (0 ≤ a ∨ b ∣ a)) : SumOk ((a / b + 1) * b) ∧ a < (a / b + 1) * b := by
  have h2 := Int.lt_ediv_add_one_mul_self a hb
  obtain ⟨h3, h4⟩ := ha
  have h5 : a / b < 0 := Int.ediv_lt_of_lt_mul hb (by omega)
  have h6 : (a / b + 1) * b ≤ 0 * b := Int.mul_le_mul_of_nonneg_right (by omega) (by omega)
  rw [Int.zero_mul] at h6
  exact ⟨⟨by omega, by omega⟩, h2⟩
theorem rdown_any (a b : Int) (ha : SumOk a) (hb : 0 < b) (w : World) :
    Calls Try.prog 65 #[.int .i64 a, .int .i64 b] w fun e w' => e = .returned (.int .i64 (a / b)) ∧ w = w' := by
  have hq := quo_ok ha hb
  have hne : (b == 0) = false := by simp; omega
  by_cases h : 0 ≤ a ∨ b ∣ a
  · obtain ⟨m1, m2⟩ := flat_mul ha hb h
    have e1 := tdiv_flat h
    have e2 := wrap_of hq
    have e3 := wrap_of m1
    generalize a / b = q at *
    have m2' : decide (a < q * b) = false := decide_eq_false (by omega)
    clear h ha hq m1 m2
    go_enter Try.func65, Try.ntmps65
    go_wp2_with fail
    go_ret
    exact ⟨by rw [e2]; rfl, rfl⟩
  · obtain ⟨m1, m2⟩ := up_mul ha hb h
    have e1 := tdiv_up hb h
    have e2 := wrap_of1 hq
    have e4 := wrap_of hq
    have e3 := wrap_of m1
    generalize hp : (a / b + 1) * b = p at *
    obtain ⟨q1, hq1⟩ : ∃ q1, a / b + 1 = q1 := ⟨_, rfl⟩
    rw [hq1] at e1 e2 hp
    have e5 : wrap64 (q1 - 1) = a / b := by rw [← hq1, Int.add_sub_cancel]; exact e4
    generalize a / b = q at *
    clear h ha hq m1 hq1 e4
    go_enter Try.func65, Try.ntmps65
    go_wp2_with fail
    go_ret
    exact ⟨by rw [e5]; rfl, rfl⟩

/-! ### Rows in blocks that a word P speaks of -/
def RowP (P : Nat → Prop) (w : World) (A : Option Addr) (l : List Int) : Prop := ∀ j, j < l.length → ∃ g off, A = some ⟨g, off, none⟩ ∧ P g ∧ w.cell? ⟨g, off + j, none⟩ = some (.int .i64 (nth l j))
def MatP (P : Nat → Prop) (w : World) (A : Option Addr) (m : List (List Int)) : Prop :=
  ∀ i, i < m.length → ∃ g off R c, A = some ⟨g, off, none⟩ ∧ P g ∧ w.cell? ⟨g, off + i, none⟩ = some (.slice R (mrow m i).length c) ∧ RowP P w R (mrow m i)
section
variable {P : Nat → Prop} {w w' : World} {A : Option Addr} {l : List Int} {m : List (List Int)}
theorem RowP.row (h : RowP P w A l) : Row w A l := fun j hj => by
  obtain ⟨g, off, h1, _, h3⟩ := h j hj
  exact ⟨g, off, h1, h3⟩
theorem RowP.keep (h : RowP P w A l) (hk : ∀ b, P b → b < w.heap.size → w'.heap[b]? = w.heap[b]?) : RowP P w' A l := fun j hj => by
  obtain ⟨g, off, h1, h2, h3⟩ := h j hj
  exact ⟨g, off, h1, h2, (World.cell?_of_block (hk g h2 (World.block_lt_of_cell? w _ h3))).trans h3⟩
theorem RowP.below (h : RowP P w A l) (hb : Below w.heap.size w w') : RowP P w' A l := h.keep fun b _ hlt => hb.block b hlt
theorem MatP.mat (h : MatP P w A m) : Mat w A m := fun i hi => by
  obtain ⟨g, off, R, c, h1, _, h3, h4⟩ := h i hi
  exact ⟨g, off, R, c, h1, h3, h4.row⟩
theorem MatP.keep (h : MatP P w A m) (hk : ∀ b, P b → b < w.heap.size → w'.heap[b]? = w.heap[b]?) : MatP P w' A m := fun i hi => by
  obtain ⟨g, off, R, c, h1, h2, h3, h4⟩ := h i hi
  exact ⟨g, off, R, c, h1, h2, (World.cell?_of_block (hk g h2 (World.block_lt_of_cell? w _ h3))).trans h3, h4.keep hk⟩
theorem MatP.below (h : MatP P w A m) (hb : Below w.heap.size w w') : MatP P w' A m := h.keep fun b _ hlt => hb.block b hlt
theorem Row.rowP (h : Row w A l) (hP : ∀ b, b < w.heap.size → P b) : RowP P w A l := fun j hj => by
  obtain ⟨g, off, h1, h3⟩ := h j hj
  exact ⟨g, off, h1, hP g (World.block_lt_of_cell? w _ h3), h3⟩
theorem Mat.matP (h : Mat w A m) (hP : ∀ b, b < w.heap.size → P b) : MatP P w A m := fun i hi => by
  obtain ⟨g, off, R, c, h1, h3, h4⟩ := h i hi
  exact ⟨g, off, R, c, h1, hP g (World.block_lt_of_cell? w _ h3), h3, h4.rowP hP⟩
end
/-- A slice of the call's own whose elements are rows that are not in its own block. -/
def OutS (P : Nat → Prop) (B : Nat) (wr : World) (out : Value) (k : Nat) (m : List (List Int)) : Prop :=
  ∃ xs, wr.ownsRow B 26 1 out k xs ∧ ∀ i, i < k → ∃ g off c, xs[i]? = some (.slice (some ⟨g, off, none⟩) (mrow m i).length c) ∧ P g ∧ g < wr.heap.size ∧ out.ownBlock ≠ some g ∧ RowP P wr (some ⟨g, off, none⟩) (mrow m i)
theorem OutS.start (P : Nat → Prop) (B : Nat) (w : World) (m : List (List Int)) : OutS P B w (.slice none 0 0) 0 m := ⟨[], World.ownsRow_nil _ _ _ _, fun i hi => by omega⟩
theorem OutS.below {P : Nat → Prop} {B : Nat} {wr w2 : World} {out : Value} {k : Nat} {m : List (List Int)} (h : OutS P B wr out k m) (hb : Below wr.heap.size wr w2) : OutS P B w2 out k m := by
  obtain ⟨xs, h1, h2⟩ := h
  refine ⟨xs, h1.kept (grown_of_below hb none) (by simp; exact Classical.em _), fun i hi => ?_⟩
  obtain ⟨g, off, c, e1, e5, e2, e3, e4⟩ := h2 i hi
  exact ⟨g, off, c, e1, e5, Nat.lt_of_lt_of_le e2 hb.size, e3, e4.below hb⟩
theorem OutS.mat {P : Nat → Prop} {B : Nat} {wr : World} {out : Value} {m : List (List Int)} (h : OutS P B wr out m.length m) (h0 : 0 < m.length) (hP : ∀ b, B ≤ b → P b) : ∃ g c, out = .slice (some ⟨g, 0, none⟩) m.length c ∧ MatP P wr (some ⟨g, 0, none⟩) m := by
  obtain ⟨xs, h1, h2⟩ := h
  obtain ⟨g, cap, rfl, hg, _⟩ := own_shape h1 h0
  refine ⟨g, cap, rfl, fun i hi => ?_⟩
  obtain ⟨g3, off, c, e1, e5, e2, e3, e4⟩ := h2 i hi
  have hx : i < xs.length := (List.getElem?_eq_some_iff.1 e1).1
  exact ⟨g, 0, _, c, rfl, hP g hg, by rw [Nat.zero_add, h1.cellAt i (by omega)]; exact e1, e4⟩
theorem OutS.lt {P : Nat → Prop} {B : Nat} {wr : World} {out : Value} {k : Nat} {m : List (List Int)} (h : OutS P B wr out k m) : ∀ q, out.ownBlock = some q → B ≤ q ∧ q < wr.heap.size := by
  obtain ⟨xs, h1, _⟩ := h
  exact fun q hq => own_lt' h1 q hq
theorem RowP.grown {P : Nat → Prop} {w w' : World} {g off : Nat} {l : List Int} {row : Option Nat} (h : RowP P w (some ⟨g, off, none⟩) l) (hg : w.grownBy w' row) (hr : row ≠ some g) : RowP P w' (some ⟨g, off, none⟩) l := fun j hj => by
  obtain ⟨b, o, hA, hp, hc⟩ := h j hj
  simp only [Option.some.injEq, Addr.mk.injEq, and_true] at hA
  obtain ⟨rfl, rfl⟩ := hA
  exact ⟨g, off, rfl, hp, (World.cell?_of_block (hg.block g (World.block_lt_of_cell? w _ hc) (fun e => hr e.symm))).trans hc⟩
/-- One more row. -/
theorem OutS.snoc {P : Nat → Prop} {B : Nat} {wr w2 : World} {out v1 : Value} {k : Nat} {m : List (List Int)} {xs : List Value} {g off c : Nat}
    (HO : wr.ownsRow B 26 1 out k xs) (hX : ∀ i, i < k → ∃ g off c, xs[i]? = some (.slice (some ⟨g, off, none⟩) (mrow m i).length c) ∧ P g ∧ g < wr.heap.size ∧ out.ownBlock ≠ some g ∧ RowP P wr (some ⟨g, off, none⟩) (mrow m i))
    (HO1 : w2.ownsRow B 26 1 v1 (k + 1) (xs ++ [.slice (some ⟨g, off, none⟩) (mrow m k).length c])) (hg : wr.grownBy w2 out.ownBlock) (hat : v1.ownBlock = out.ownBlock ∨ v1.ownBlock = some (wr.heap.size + 1))
    (hp : P g) (hlt : g < wr.heap.size) (hne : out.ownBlock ≠ some g) (hr : RowP P wr (some ⟨g, off, none⟩) (mrow m k)) : OutS P B w2 v1 (k + 1) m := by
  refine ⟨_, HO1, fun i hi => ?_⟩
  have hxl : xs.length = k := by have := HO.1; simpa using this
  by_cases e : i = k
  · subst e
    refine ⟨g, off, c, by simp [← hxl], hp, Nat.lt_of_lt_of_le hlt hg.size, ?_, hr.grown hg hne⟩
    rcases hat with e1 | e1
    · rw [e1]; exact hne
    · rw [e1]; simp; omega
  · obtain ⟨g5, o5, c5, e1, e5, e2, e3, e4⟩ := hX i (by omega)
    refine ⟨g5, o5, c5, by rw [List.getElem?_append_left (by omega)]; exact e1, e5, Nat.lt_of_lt_of_le e2 hg.size, ?_, e4.grown hg e3⟩
    rcases hat with e6 | e6
    · rw [e6]; exact e3
    · rw [e6]; simp; omega

/-! ### The document's round, step by step -/
def whereL (cs l : List (List Int)) (j : Nat) : List Int := (List.range j).map fun i => ((nearN cs (mrow l i)).1 : Int)
theorem whereL_succ (cs l : List (List Int)) (j : Nat) : whereL cs l j ++ [((nearN cs (mrow l j)).1 : Int)] = whereL cs l (j + 1) := by simp [whereL, List.range_succ]
theorem nth_whereL {cs l : List (List Int)} {j i : Nat} (h : i < j) : nth (whereL cs l j) i = ((nearN cs (mrow l i)).1 : Int) := nth_map _ _ h
theorem whereL_length (cs l : List (List Int)) (j : Nat) : (whereL cs l j).length = j := by simp [whereL]
/-- The sums of centre c behind i vectors, and n coordinates of the next one. -/
def rowP (cs l : List (List Int)) (c d i n : Nat) : List Int := (List.range d).map fun x => if x < n then sumTo cs l c x (i + 1) else sumTo cs l c x i
theorem rowP_length (cs l : List (List Int)) (c d i n : Nat) : (rowP cs l c d i n).length = d := by simp [rowP]
theorem nth_rowP {cs l : List (List Int)} {c d i n x : Nat} (hx : x < d) : nth (rowP cs l c d i n) x = if x < n then sumTo cs l c x (i + 1) else sumTo cs l c x i := nth_map _ _ hx
theorem rowP_start (cs l : List (List Int)) (c d : Nat) : List.replicate d 0 = rowP cs l c d 0 0 := by
  refine nth_ext (by simp [rowP_length]) fun x hx => ?_
  have hx' : x < d := by simpa using hx
  rw [nth_rowP hx', if_neg (by omega)]
  simp [nth, hx', sumTo]
theorem rowP_skip {cs l : List (List Int)} {c d i : Nat} (h : (nearN cs (mrow l i)).1 ≠ c) : rowP cs l c d i 0 = rowP cs l c d (i + 1) 0 := by
  refine nth_ext (by rw [rowP_length, rowP_length]) fun x hx => ?_
  rw [rowP_length] at hx
  rw [nth_rowP hx, nth_rowP hx, if_neg (by omega), if_neg (by omega), sumTo, if_neg h, Int.add_zero]
theorem rowP_full (cs l : List (List Int)) (c d i : Nat) : rowP cs l c d i d = rowP cs l c d (i + 1) 0 := by
  refine nth_ext (by rw [rowP_length, rowP_length]) fun x hx => ?_
  rw [rowP_length] at hx
  rw [nth_rowP hx, nth_rowP hx, if_pos hx, if_neg (by omega)]
theorem rowP_step {cs l : List (List Int)} {c d i n : Nat} (h : (nearN cs (mrow l i)).1 = c) (hn : n < d) : (rowP cs l c d i n).set n (sumTo cs l c n i + nth (mrow l i) n) = rowP cs l c d i (n + 1) := by
  refine nth_ext (by rw [List.length_set, rowP_length, rowP_length]) fun x hx => ?_
  rw [List.length_set, rowP_length] at hx
  rw [nth_set _ _ _ _ (by rw [rowP_length]; exact hn), nth_rowP hx, nth_rowP hx]
  by_cases e : x = n
  · subst e
    rw [if_pos rfl, if_pos (by omega), sumTo, if_pos h]
  · rw [if_neg e]
    by_cases h1 : x < n
    · rw [if_pos h1, if_pos (by omega)]
    · rw [if_neg h1, if_neg (by omega)]
theorem many_step {cs l : List (List Int)} {c i : Nat} (h : (nearN cs (mrow l i)).1 = c) : manyTo cs l c (i + 1) = manyTo cs l c i + 1 := by rw [manyTo, if_pos h]
theorem many_skip {cs l : List (List Int)} {c i : Nat} (h : (nearN cs (mrow l i)).1 ≠ c) : manyTo cs l c (i + 1) = manyTo cs l c i := by rw [manyTo, if_neg h, Nat.add_zero]
/-- The sums, n of them divided. -/
def divP (cs l : List (List Int)) (c d n : Nat) : List Int := (List.range d).map fun x => if x < n then sumTo cs l c x l.length / (manyTo cs l c l.length : Int) else sumTo cs l c x l.length
theorem divP_length (cs l : List (List Int)) (c d n : Nat) : (divP cs l c d n).length = d := by simp [divP]
theorem nth_divP {cs l : List (List Int)} {c d n x : Nat} (hx : x < d) : nth (divP cs l c d n) x = if x < n then sumTo cs l c x l.length / (manyTo cs l c l.length : Int) else sumTo cs l c x l.length := nth_map _ _ hx
theorem divP_start (cs l : List (List Int)) (c d : Nat) : rowP cs l c d l.length 0 = divP cs l c d 0 := by
  refine nth_ext (by rw [rowP_length, divP_length]) fun x hx => ?_
  rw [rowP_length] at hx
  rw [nth_rowP hx, nth_divP hx, if_neg (by omega), if_neg (by omega)]
theorem divP_full (cs l : List (List Int)) (c d : Nat) : divP cs l c d d = meanRow cs l d c := by
  refine nth_ext (by rw [divP_length, meanRow_length]) fun x hx => ?_
  rw [divP_length] at hx
  rw [nth_divP hx, if_pos hx, meanRow, nth_map _ _ hx]
theorem divP_step {cs l : List (List Int)} {c d n : Nat} (hn : n < d) : (divP cs l c d n).set n (sumTo cs l c n l.length / (manyTo cs l c l.length : Int)) = divP cs l c d (n + 1) := by
  refine nth_ext (by rw [List.length_set, divP_length, divP_length]) fun x hx => ?_
  rw [List.length_set, divP_length] at hx
  rw [nth_set _ _ _ _ (by rw [divP_length]; exact hn), nth_divP hx, nth_divP hx]
  by_cases e : x = n
  · subst e
    rw [if_pos rfl, if_pos (by omega)]
  · rw [if_neg e]
    by_cases h1 : x < n
    · rw [if_pos h1, if_pos (by omega)]
    · rw [if_neg h1, if_neg (by omega)]
end Go.Proofs.Ytiamppbgpoffmaa

namespace Go.Proofs.Ytiamppbgpoffmaa
open Go.RowKit
set_option linter.unusedVariables false

/-- What stands behind the document's round, or its training. -/
def MatPost (P : Nat → Prop) (w : World) (m : List (List Int)) (e : Ending) (w' : World) : Prop := ∃ g c, e = .returned (.slice (some ⟨g, 0, none⟩) m.length c) ∧ MatP P w' (some ⟨g, 0, none⟩) m ∧ Below w.heap.size w w'
/-- The sums' block. -/
def SumS (w0 wr : World) (L : List Int) : Prop := Below w0.heap.size w0 wr ∧ Blk wr w0.heap.size 3 (ints L)
theorem SumS.start (w0 : World) (L : List Int) : SumS w0 (w0.alloc (.cells (ints L) 3)) L := ⟨below_alloc1 _ _, Blk.new _ _ _⟩
theorem SumS.put {w0 wr : World} {L : List Int} (h : SumS w0 wr L) (i : Nat) (x : Int) : SumS w0 (wr.setCell ⟨w0.heap.size, i, none⟩ (.int .i64 x)) (L.set i x) := ⟨h.1.setCell (p := ⟨w0.heap.size, i, none⟩) (Nat.le_refl _) _, h.2.setInt i x⟩
theorem SumS.drew {w0 wr : World} {L : List Int} (h : SumS w0 wr L) : SumS w0 wr.drew L := ⟨h.1.drew, h.2⟩

set_option maxRecDepth 100000 in
set_option maxHeartbeats 8000000 in
theorem rround_any (P : Nat → Prop) (A : Option Addr) (cs : List (List Int)) (c : Nat) (L : Option Addr) (l : List (List Int)) (cl d : Nat) (w : World) (hm : MatP P w A cs) (hl : Mat w L l) (hP : ∀ b, w.heap.size ≤ b → P b)
    (h64 : cs.length ≤ 64) (hk1 : 1 ≤ cs.length) (hd1 : 1 ≤ d) (hd64 : d ≤ 64) (hl1 : 1 ≤ l.length) (hl2 : l.length ≤ 512) (hcl : CoordAll l d) (hcc : CoordAll cs d) :
    Calls Try.prog 48 #[.slice A cs.length c, .slice L l.length cl] w (MatPost P w (nextN cs l d)) := by
  replace hcl := Lib.hid hcl
  replace hcc := Lib.hid hcc
  replace hP := Lib.hid hP
  have m3 := make_ints d (by omega)
  go_enter Try.func48, Try.ntmps48
  go_wp2_with fail
  go_loopw [5, 6] (fun o i wr => ∃ j : Nat, j ≤ l.length ∧ i = .int .i64 (j : Int) ∧ wr.ownsRow w.heap.size 3 1 o j (vals (whereL cs l j)) ∧ Below w.heap.size w wr) (fun _ i _ => l.length - (intOf i).toNat)
  case atStart => exact ⟨0, Nat.zero_le _, rfl, World.ownsRow_nil _ _ _ _, Below.refl _ _⟩
  case round =>
    obtain ⟨j, hj, rfl, HO, HB⟩ := hrel
    by_cases hlt : j < l.length
    · obtain ⟨g, o, R, rc, rfl, hc1, hR⟩ := hl j hlt
      have q0 : (0 : Int) ≤ (j : Int) := by omega
      have q1 : (j : Int) < (l.length : Int) := by omega
      have e2 : (mrow l j).length = d := (hcl.out j hlt).1
      have hN := Lib.hid (rnear_any A cs c R (mrow l j) rc (by rw [e2]; exact hcc.out.ok hd1 hd64) (by rw [e2]; exact hcl.out.ok hd1 hd64 j hlt) hk1 h64 wr (hm.mat.below HB) (hR.below HB))
      have hsW := whereL_succ cs l j
      replace hsW := Lib.hid hsW
      generalize nearN cs (mrow l j) = N at *
      obtain ⟨a, D⟩ := N
      have c1 := below_cell HB hc1
      clear e2 m3
      go_wp2_with fail
      with_reducible refine hN.out.mono ?_
      rintro e w3 ⟨rfl, hb⟩
      have HO3 := (HO.kept (grown_of_below hb none) (by simp; exact Classical.em _)).alloc (.cells #[.int .u64 (hiN D : Int), .int .u64 (loN D : Int)] 44)
      have HB3 := below_chain HB hb HB.size
      have HB4 := below_chain HB3 (below_alloc1 w3 (.cells #[.int .u64 (hiN D : Int), .int .u64 (loN D : Int)] 44)) HB3.size
      have hz := HB4.size
      clear c1 hN hb HO
      go_upto_region 6 with fail
      generalize w3.alloc (.cells #[.int .u64 (hiN D : Int), .int .u64 (loN D : Int)] 44) = w4 at *
      go_wp2_with (at_builtin; refine append_one w.heap.size rfl (.tmp 32) (.tmp 34) _ 3 (.int .i64 0) 8 rfl Try.underlying26 int_info' rfl (by omega) u5 j _ (.int .i64 (a : Int)) rfl rfl rfl HO3 hz (by omega) ?_; intro v1 w1 HO1 hg1 hat1)
      rw [vals_snoc, hsW.out] at HO1
      have HB1 := below_of_grown HB4 hg1 (fun q hq => (own_lt' HO3 q hq).1)
      exact ⟨⟨j + 1, by omega, by go_num, HO1, HB1⟩, by simp [intOf]; omega⟩
    · obtain rfl : j = l.length := by omega
      obtain ⟨gw, cw, rfl, hgw1, hgw2⟩ := own_shape HO (by omega)
      have hW : Row wr (some ⟨gw, 0, none⟩) (whereL cs l l.length) := fun x hx => ⟨gw, 0, rfl, by rw [Nat.zero_add]; exact own_int HO x (by rwa [whereL_length] at hx)⟩
      go_wp2_with fail
      obtain ⟨x0, hx0⟩ : ∃ x, x = wr := ⟨_, rfl⟩
      subst hx0
      have hw1 : Hid (∀ i, i < l.length → x0.cell? ⟨gw, i, none⟩ = some (.int .i64 ((nearN cs (mrow l i)).1 : Int))) := Lib.hid (fun i hi => by rw [own_int HO i hi, nth_whereL hi])
      clear HO hW
      go_loopw [9, 10] (fun o i wr => ∃ c' : Nat, c' ≤ cs.length ∧ i = .int .i64 (c' : Int) ∧ OutS P x0.heap.size wr o c' (nextN cs l d) ∧ Below x0.heap.size x0 wr) (fun _ i _ => cs.length - (intOf i).toNat)
      case atStart => exact ⟨0, Nat.zero_le _, rfl, OutS.start _ _ _ _, Below.refl _ _⟩
      case round =>
        obtain ⟨c', hc', rfl, hOut, B3⟩ := hrel
        have B4 := below_chain HB B3 HB.size
        by_cases hlt2 : c' < cs.length
        · obtain ⟨x1, hx1⟩ : ∃ x, x = wr := ⟨_, rfl⟩
          subst hx1
          obtain ⟨g, o, R, rc, hA, hp, hc1, hR⟩ := hm c' hlt2
          have hrl := (hcc.out c' hlt2).1
          obtain ⟨gr, or_, hRr, hpr, hcr⟩ := hR 0 (by omega)
          subst hRr hA
          have hgr : gr < w.heap.size := World.block_lt_of_cell? w _ hcr
          have q0 : (0 : Int) ≤ (c' : Int) := by omega
          have q1 : (c' : Int) < (cs.length : Int) := by omega
          have hlen : (mrow (nextN cs l d) c').length = d := by rw [mrow_nextN _ _ _ _ hlt2, nextRow_length hcc.out hlt2]
          rw [hrl] at hc1
          replace hlen := Lib.hid hlen
          replace hrl := Lib.hid hrl
          have c1 := below_cell B4 hc1
          have S0 := SumS.start x1 (List.replicate d 0)
          rw [rowP_start cs l c' d] at S0
          have hrp := rowP_start cs l c' d
          go_wp2_with fail
          clear c1 hrp
          generalize x1.alloc (.cells (ints (rowP cs l c' d 0 0)) 3) = x2 at *
          go_loopw [11, 13] (fun mm i wr => ∃ i' : Nat, i' ≤ l.length ∧ i = .int .i64 (i' : Int) ∧ mm = .int .i64 (manyTo cs l c' i' : Int) ∧ SumS x1 wr (rowP cs l c' d i' 0)) (fun _ i _ => l.length - (intOf i).toNat)
          case atStart => exact ⟨0, Nat.zero_le _, rfl, rfl, S0⟩
          case round =>
            clear S0
            obtain ⟨i, hi, rfl, rfl, hS⟩ := hrel
            by_cases hlt3 : i < l.length
            · have r0 : (0 : Int) ≤ (i : Int) := by omega
              have r1 : (i : Int) < (l.length : Int) := by omega
              have cw1 := below_cell hS.1 (below_cell B3 (hw1.out i hlt3))
              by_cases hn : (nearN cs (mrow l i)).1 = c'
              · obtain ⟨gl, ol, Rl, rl, hL, hcl1, hRl⟩ := hl i hlt3
                subst hL
                have hll := (hcl.out i hlt3).1
                have hmn := many_step (cs := cs) (l := l) hn
                have hq := manyTo_le cs l c' i
                have hst := Lib.hid (fun n (hd : n < d) => rowP_step (cs := cs) (l := l) (d := d) hn hd)
                rw [hn] at cw1
                rw [hll] at hcl1
                replace hll := Lib.hid hll
                have qq : (manyTo cs l c' i : Int) ≤ 512 := by omega
                replace hmn : Hid ((manyTo cs l c' i : Int) + 1 = (manyTo cs l c' (i + 1) : Int)) := Lib.hid (by rw [hmn, Int.natCast_add]; rfl)
                generalize manyTo cs l c' i = q at *
                clear hn
                go_wp2_with fail
                clear cw1
                go_loopw [14] (fun z wr => ∃ n : Nat, n ≤ d ∧ z = .int .i64 (n : Int) ∧ SumS x1 wr (rowP cs l c' d i n)) (fun z _ => d - (intOf z).toNat)
                case atStart => exact ⟨0, Nat.zero_le _, rfl, hS⟩
                case round =>
                  clear hS
                  obtain ⟨n, hn, rfl, hS⟩ := hrel
                  by_cases hlt4 : n < d
                  · have s0 : (0 : Int) ≤ (n : Int) := by omega
                    have s1 : (n : Int) < (d : Int) := by omega
                    obtain ⟨g7, o7, hA7, hc7⟩ := hRl n (by rw [hll.out]; exact hlt4)
                    subst hA7
                    have B7 := below_chain B4 hS.1 B4.size
                    have t1 := below_cell B7 hcl1
                    have t2 := below_cell B7 hc7
                    have t3 := hS.2.nth n (by rw [rowP_length]; exact hlt4)
                    rw [nth_rowP hlt4, if_neg (Nat.lt_irrefl _)] at t3
                    have t4 := hS.2.frozen n
                    have hw : Hid (wrap64 (sumTo cs l c' n i + nth (mrow l i) n) = sumTo cs l c' n i + nth (mrow l i) n) := Lib.hid (wrap_of (by
                      have h1 := sum_ok (cs := cs) (c := c') hcl.out hlt4 (i := i) (by omega) hl2
                      have h3 := (hcl.out i hlt3).2 n hlt4
                      have h4 := sumTo_bound (cs := cs) (c := c') (x := n) (lo := -2147483647) (hi := 2147483647) i (fun j hj => (hcl.out j (by omega)).2 n hlt4)
                      have h5 := manyTo_le cs l c' i
                      unfold SumOk
                      omega))
                    have hS2 := hS.drew.put n (sumTo cs l c' n i + nth (mrow l i) n)
                    rw [hst.out n hlt4] at hS2
                    generalize sumTo cs l c' n i = s at *
                    generalize nth (mrow l i) n = v at *
                    have hw2 := hw.out
                    clear hw hc7
                    go_wp2_with fail
                    go_region
                    go_wp2_with fail
                    exact ⟨⟨n + 1, by omega, by go_num, hS2⟩, by simp [intOf]; omega⟩
                  · obtain rfl : n = d := by omega
                    rw [rowP_full] at hS
                    go_wp2_with fail
                    exact ⟨⟨i + 1, by omega, by go_num, by rw [hmn.out], hS⟩, by simp [intOf]; omega⟩
              · have hne : (((nearN cs (mrow l i)).1 : Int) != (c' : Int)) = true := by simp; omega
                have hS2 := hS
                rw [rowP_skip hn] at hS2
                have hmn := many_skip (cs := cs) (l := l) hn
                generalize (nearN cs (mrow l i)).1 = a at *
                clear hn
                go_wp2_with fail
                exact ⟨⟨i + 1, by omega, by go_num, by rw [hmn], hS2⟩, by simp [intOf]; omega⟩
            · obtain rfl : i = l.length := by omega
              have c1 := below_cell (below_chain B4 hS.1 B4.size) hc1
              have hx1 : x1.heap.size < wr.heap.size := hS.2.lt
              by_cases hmz : manyTo cs l c' l.length = 0
              · have hnr : mrow (nextN cs l d) c' = mrow cs c' := by rw [mrow_nextN _ _ _ _ hlt2, nextRow, if_pos hmz]
                rw [hmz]
                have B5 := below_chain B3 hS.1 B3.size
                have hw5 : w.heap.size ≤ x0.heap.size := HB.size
                have hrow : RowP P wr (some ⟨gr, or_, none⟩) (mrow (nextN cs l d) c') := by rw [hnr]; exact hR.below (below_chain B4 hS.1 B4.size)
                replace hOut := hOut.below hS.1
                clear hmz
                have hout := hOut.lt
                obtain ⟨xs, HO5, hX⟩ := hOut
                have hz5 := B5.size
                go_wp2_with (at_builtin; refine append_one x0.heap.size rfl (.tmp 105) (.tmp 107) _ 26 (.slice none 0 0) 24 rfl Try.underlying22 row_info rfl (by omega) u9 c' _ (.slice (some ⟨gr, or_, none⟩) d rc) rfl rfl rfl HO5 hz5 (by omega) ?_; intro v1 x6 HO6 hg6 hat6)
                rw [← hlen.out] at HO6
                have hOut6 := OutS.snoc (P := P) HO5 hX HO6 hg6 hat6 hpr (by omega) (fun e => by have := hout gr e; omega) hrow
                have B6 := below_of_grown B5 hg6 (fun q hq => (hout q hq).1)
                exact ⟨⟨c' + 1, by omega, by go_num, hOut6, B6⟩, by simp [intOf]; omega⟩
              · have hnr : mrow (nextN cs l d) c' = meanRow cs l d c' := by rw [mrow_nextN _ _ _ _ hlt2, nextRow, if_neg hmz]
                have m0 : Hid ((0 : Int) < (manyTo cs l c' l.length : Int)) := Lib.hid (by omega)
                have m1 : 0 < manyTo cs l c' l.length := by omega
                rw [divP_start] at hS
                clear hmz
                go_wp2_with fail
                go_loopw [16] (fun z wr => ∃ n : Nat, n ≤ d ∧ z = .int .i64 (n : Int) ∧ SumS x1 wr (divP cs l c' d n)) (fun z _ => d - (intOf z).toNat)
                case atStart => exact ⟨0, Nat.zero_le _, rfl, hS⟩
                case round =>
                  clear hS c1
                  obtain ⟨n, hn, rfl, hS⟩ := hrel
                  by_cases hlt4 : n < d
                  · have s0 : (0 : Int) ≤ (n : Int) := by omega
                    have s1 : (n : Int) < (d : Int) := by omega
                    have t3 := hS.2.nth n (by rw [divP_length]; exact hlt4)
                    rw [nth_divP hlt4, if_neg (Nat.lt_irrefl _)] at t3
                    have t4 := hS.2.frozen n
                    have hD := Lib.hid (rdown_any (sumTo cs l c' n l.length) (manyTo cs l c' l.length : Int) (sum_ok hcl.out hlt4 (Nat.le_refl _) hl2) m0.out)
                    have hS2 := hS.put n (sumTo cs l c' n l.length / (manyTo cs l c' l.length : Int))
                    rw [divP_step hlt4] at hS2
                    go_wp2_with fail
                    with_reducible refine (hD.out _).mono ?_
                    rintro e x7 ⟨rfl, rfl⟩
                    clear hD
                    go_wp2_with fail
                    exact ⟨⟨n + 1, by omega, by go_num, hS2⟩, by simp [intOf]; omega⟩
                  · obtain rfl : n = d := by omega
                    rw [divP_full] at hS
                    have B5 := below_chain B3 hS.1 B3.size
                    have hx2 : x1.heap.size < wr.heap.size := hS.2.lt
                    have hz1 : w.heap.size ≤ x1.heap.size := B4.size
                    have hrow : RowP P wr (some ⟨x1.heap.size, 0, none⟩) (mrow (nextN cs l n) c') := by
                      rw [hnr]
                      exact fun x hx => ⟨x1.heap.size, 0, rfl, hP.out _ hz1, by rw [Nat.zero_add]; exact hS.2.nth x hx⟩
                    have hot := hOut.lt
                    replace hOut := hOut.below hS.1
                    have hout := hOut.lt
                    obtain ⟨xs, HO5, hX⟩ := hOut
                    have hz5 := B5.size
                    go_wp2_with (at_builtin; refine append_one x0.heap.size rfl (.tmp 105) (.tmp 107) _ 26 (.slice none 0 0) 24 rfl Try.underlying22 row_info rfl (by omega) u9 c' _ (.slice (some ⟨x1.heap.size, 0, none⟩) n n) rfl rfl rfl HO5 hz5 (by omega) ?_; intro v1 x6 HO6 hg6 hat6)
                    rw [← hlen.out] at HO6
                    have hOut6 := OutS.snoc (P := P) HO5 hX HO6 hg6 hat6 (hP.out _ hz1) hx2 (fun e => by have := hot _ e; omega) hrow
                    have B6 := below_of_grown B5 hg6 (fun q hq => (hout q hq).1)
                    exact ⟨⟨c' + 1, by omega, by go_num, hOut6, B6⟩, by simp [intOf]; omega⟩
        · obtain rfl : c' = cs.length := by omega
          have hnl : (nextN cs l d).length = cs.length := nextN_length _ _ _
          rw [← hnl] at hOut
          obtain ⟨g9, c9, rfl, hM9⟩ := hOut.mat (by omega) (fun b hb => hP.out b (by have := HB.size; omega))
          rw [hnl]
          replace hnl := Lib.hid hnl
          go_wp2_with fail
          go_ret
          exact ⟨g9, c9, by rw [hnl.out]; rfl, hM9, B4⟩
end Go.Proofs.Ytiamppbgpoffmaa

namespace Go.Proofs.Ytiamppbgpoffmaa
open Go.RowKit

abbrev refT : TypeId := 82

theorem refNext_src (b : Nat) (n : Int) (w : World) (hb : Blk w b refT #[.int .u64 n]) : Calls Try.prog 71 #[.pointer (some ⟨b, 0, none⟩)] w fun e w' => e = .returned (.int .u64 (draw n)) ∧ Blk w' b refT #[.int .u64 (adv n)] ∧ w.grownBy w' (some b) := by
  have hc := hb.cell 0
  have hf := hb.frozen 0
  simp only [List.getElem?_toArray, List.getElem?_cons_zero] at hc
  go_enter Try.func71, Try.ntmps71
  go_wp2
  go_ret
  exact ⟨rfl, hb.set_ 0 _, grown_set w ⟨b, 0, none⟩ _⟩

theorem refNext_some (b : Nat) (n : Int) (w : World) (hb : Blk w b refT #[.int .u64 n]) : Calls Try.prog 71 #[.pointer (some ⟨b, 0, none⟩)] w fun e w' => ∃ D, Hid (draw n = D) ∧ 0 ≤ D ∧ D ≤ 18446744073709551615 ∧ e = .returned (.int .u64 D) ∧ Blk w' b refT #[.int .u64 (adv n)] ∧ w.grownBy w' (some b) :=
  (refNext_src b n w hb).mono fun _ _ ⟨he, h1, h2⟩ => ⟨_, Lib.hid rfl, (draw_range n).1, (draw_range n).2, he, h1, h2⟩

theorem refBelow_bad (a : Addr) (n : Int) (w : World) (h : n < 1 ∨ 1000000000 < n) : Calls Try.prog 64 #[.pointer (some a), .int .i64 n] w fun e w' => e = .returned (.tuple #[.int .i64 0, .int .i64 1]) ∧ w = w' := by
  by_cases h1 : n < 1
  · go_enter Try.func64, Try.ntmps64
    go_wp2
    go_ret2
    exact ⟨rfl, rfl⟩
  · have h2 : 1000000000 < n := by omega
    go_enter Try.func64, Try.ntmps64
    go_wp2
    go_ret2
    exact ⟨rfl, rfl⟩
theorem refBelow_src (b : Nat) (n m : Int) (w : World) (hb : Blk w b refT #[.int .u64 n]) (h1 : 1 ≤ m) (h2 : m ≤ 1000000000) : Calls Try.prog 64 #[.pointer (some ⟨b, 0, none⟩), .int .i64 m] w fun e w' =>
    e = .returned (.tuple #[.int .i64 (draw n % m), .int .i64 0]) ∧ Blk w' b refT #[.int .u64 (adv n)] ∧ w.grownBy w' (some b) := by
  go_enter Try.func64, Try.ntmps64
  go_wp2_with fail
  refine (refNext_some _ _ _ hb).mono ?_
  rintro e w1 ⟨D, hD, hD1, hD2, rfl, b1, f1⟩
  have g1 : 0 ≤ D % m := Int.emod_nonneg _ (by omega)
  have g2 : D % m < m := Int.emod_lt_of_pos _ (by omega)
  go_wp2
  go_ret2
  exact ⟨by rw [hD.out]; rfl, b1, f1⟩

theorem refPerm_bad (a : Addr) (n : Int) (w : World) (h : n < 0 ∨ 65536 < n) : Calls Try.prog 47 #[.pointer (some a), .int .i64 n] w fun e w' => e = .returned (.tuple #[.slice none 0 0, .int .i64 1]) ∧ w = w' := by
  by_cases h1 : n < 0
  · go_enter Try.func47, Try.ntmps47
    go_wp2
    go_ret2
    exact ⟨rfl, rfl⟩
  · have h2 : 65536 < n := by omega
    go_enter Try.func47, Try.ntmps47
    go_wp2
    go_ret2
    exact ⟨rfl, rfl⟩

theorem int_info : (Try.prog.info? 3).map (fun i => (i.zero, i.size, i.bytes)) = some (some (.int .i64 0), 1, 8) := by kernel_rfl

/-- What lies behind the document's Perm: some slice that reads as the list; the state; of what was there the source alone has turned. -/
def RefPermPost (w : World) (b : Nat) (s : Int) (n : Nat) (e : Ending) (w' : World) : Prop := ∃ A c,
      e = .returned (.tuple #[.slice A n c, .int .i64 0]) ∧ Row w' A (permOf s n).1 ∧ Blk w' b refT #[.int .u64 (permOf s n).2] ∧ w.grownBy w' (some b)

set_option maxRecDepth 100000 in
set_option maxHeartbeats 2000000 in
theorem refPerm_src (b : Nat) (s : Int) (n : Nat) (w : World) (hb : Blk w b refT #[.int .u64 s]) (hn : n ≤ 65536) :
    Calls Try.prog 47 #[.pointer (some ⟨b, 0, none⟩), .int .i64 n] w (RefPermPost w b s n) := by
  have n0 : (0 : Int) ≤ (n : Int) := by omega
  have n1 : (n : Int) ≤ 65536 := by omega
  go_enter Try.func47, Try.ntmps47
  go_wp2
  go_loopw [6, 7] (fun v i wr => ∃ k : Nat, k ≤ n ∧ i = .int .i64 k ∧ wr.ownsRow w.heap.size 3 1 v k (vals (iota k)) ∧ Below w.heap.size w wr) (fun _ i _ => n - (intOf i).toNat)
  case atStart => exact ⟨0, Nat.zero_le _, rfl, World.ownsRow_nil _ _ _ _, Below.refl _ _⟩
  case round =>
    obtain ⟨k, hk, rfl, HO, HB⟩ := hrel
    by_cases hlt : k < n
    · go_wp2_with (at_builtin; refine append_one w.heap.size rfl (.tmp 23) (.tmp 25) _ 3 (.int .i64 0) 8 rfl Try.underlying26 int_info rfl (by omega) u6 k _ (.int .i64 k) rfl rfl rfl HO HB.size (by omega) ?_; intro v1 w1 HO1 hg1 hat1)
      rw [vals_snoc, iota_snoc] at HO1
      have HB1 := below_of_grown HB hg1 (fun k hk => (own_lt' HO k hk).1)
      exact ⟨⟨k + 1, by omega, by go_num, HO1, HB1⟩, by simp [intOf]; omega⟩
    · obtain rfl : k = n := by omega
      have b1 := hb.below HB hb.lt
      have f1 : Hid (w.grownBy wr (some b)) := Lib.hid ⟨HB.os, HB.tape, HB.output, HB.size, fun i hi _ => HB.block i hi⟩
      rcases Nat.eq_zero_or_pos k with h0 | h0
      · subst h0
        have hP : permOf s 0 = ([], s) := rfl
        have hP' := Lib.hid hP
        clear hP
        obtain ⟨A, c, rfl, hR⟩ := own_row (l := iota 0) HO
        go_wp2
        go_loop [8] (fun i => i = .int .i64 (-1)) (fun _ => 0)
        case atStart => rfl
        case round =>
          subst hrel
          go_wp2
          go_ret2
          refine ⟨A, c, rfl, ?_, ?_, f1.out⟩
          · rw [hP'.out]; exact Row.nil_
          · rw [hP'.out]; exact b1
      · obtain ⟨g, cap, rfl, hg0, hg1⟩ := own_shape HO h0
        have hlb := hb.lt
        go_wp2
        go_loopw [8] (fun i wr => ∃ (j : Int) (s' : Int) (l : List Int), 0 ≤ j ∧ j < k ∧ i = .int .i64 j ∧ l.length = k ∧ wr.ownsRow w.heap.size 3 1 (.slice (some ⟨g, 0, none⟩) k cap) k (vals l) ∧ Blk wr b refT #[.int .u64 s'] ∧ w.grownBy wr (some b) ∧ Hid (permLoop j.toNat s' l = permLoop (k - 1) s (iota k))) (fun i _ => (intOf i).toNat)
        case atStart => exact ⟨(k : Int) - 1, s, iota k, by omega, by omega, rfl, iota_length k, HO, b1, f1.out, Lib.hid (by congr 1; omega)⟩
        case round =>
          clear HO HB b1 f1
          obtain ⟨j, s', l, hj0, hj1, rfl, hlen, HO, b2, f2, hH⟩ := hrel
          by_cases hlt : 1 ≤ j
          · obtain ⟨t, ht⟩ : ∃ t, draw s' % (j + 1) = t := ⟨_, rfl⟩
            have t0 : 0 ≤ t := by rw [← ht]; exact Int.emod_nonneg _ (by omega)
            have t1 : t < j + 1 := by rw [← ht]; exact Int.emod_lt_of_pos _ (by omega)
            have ht' := Lib.hid ht
            clear ht
            have hlen' := Lib.hid hlen
            clear hlen
            go_wp2_with fail
            refine (refBelow_src _ _ _ _ b2 (by omega) (by omega)).mono ?_
            rintro e w3 ⟨rfl, b3, f3⟩
            rw [ht'.out]
            have HO3 := HO.kept f3 (by simp [Value.ownBlock]; omega)
            have f4 : w.grownBy w3 (some b) := World.grownBy.trans f2 f3
            have c1 := own_int HO3 j.toNat (by omega)
            have c2 := own_int HO3 t.toNat (by omega)
            have z1 := HO3.frozenAt j.toNat
            have z2 := HO3.frozenAt t.toNat
            have HO4 := own_set HO3 j.toNat (nth l t.toNat)
            have c3 := own_int HO4 t.toNat (by omega)
            have HO5 := own_set HO4 t.toNat (nth l j.toNat)
            clear HO HO3 HO4 f2 f3 b2
            go_wp2
            have hH' : Hid (permLoop (j - 1).toNat (adv s') (swapL l j.toNat t.toNat) = permLoop (k - 1) s (iota k)) := by
              rw [← ht'.out, ← permLoop_step j hlt]; exact hH
            exact ⟨⟨j - 1, adv s', swapL l j.toNat t.toNat, by omega, by omega, rfl, by rw [swapL_length]; exact hlen'.out, HO5, (b3.far (by simp; omega) _).far (by simp; omega) _, grown_new_set (grown_new_set f4 (by simp; omega) _) (by simp; omega) _, hH'⟩, by simp [intOf]; omega⟩
          · have hj : j.toNat = 0 := by omega
            have h := hH.out
            rw [hj, permLoop] at h
            have hR : Row wr (some ⟨g, 0, none⟩) l := fun i hi => ⟨g, 0, rfl, by rw [Nat.zero_add]; exact own_int HO i (by omega)⟩
            have h' := Lib.hid h
            clear h hH
            go_wp2
            go_ret2
            refine ⟨some ⟨g, 0, none⟩, cap, rfl, ?_, ?_, f2⟩
            · have : permOf s k = (l, s') := by rw [permOf]; exact h'.out.symm
              rw [this]
              exact hR
            · have : permOf s k = (l, s') := by rw [permOf]; exact h'.out.symm
              rw [this]
              exact b2
end Go.Proofs.Ytiamppbgpoffmaa

namespace Go.Proofs.Ytiamppbgpoffmaa
open Go.RowKit
set_option linter.unusedVariables false

theorem trainE_any (A : Option Addr) (l : List (List Int)) (cl : Nat) (k r : Int) (w : World) (hm : Mat w A l) :
    Calls Try.prog 46 #[.slice A l.length cl, .int .i64 k, .int .i64 r] w fun e w' => e = .returned (.int .i64 (trainE l k r)) ∧ w = w' := by
  by_cases h : k < 1 ∨ 64 < k ∨ r < 0 ∨ 20 < r
  · rw [trainE, if_pos h]
    by_cases h1 : k < 1
    · clear h
      go_enter Try.func46, Try.ntmps46
      go_wp2_with fail
      go_ret
      exact ⟨rfl, rfl⟩
    have g1 : 1 ≤ k := by omega
    by_cases h2 : 64 < k
    · clear h h1
      go_enter Try.func46, Try.ntmps46
      go_wp2_with fail
      go_ret
      exact ⟨rfl, rfl⟩
    have g2 : k ≤ 64 := by omega
    by_cases h3 : r < 0
    · clear h h1 h2
      go_enter Try.func46, Try.ntmps46
      go_wp2_with fail
      go_ret
      exact ⟨rfl, rfl⟩
    have g3 : 0 ≤ r := by omega
    have h4 : 20 < r := by omega
    clear h h1 h2 h3
    go_enter Try.func46, Try.ntmps46
    go_wp2_with fail
    go_ret
    exact ⟨rfl, rfl⟩
  have g1 : 1 ≤ k := by omega
  have g2 : k ≤ 64 := by omega
  have g3 : 0 ≤ r := by omega
  have g4 : r ≤ 20 := by omega
  by_cases h2 : 512 < l.length
  · rw [trainE, if_neg h, if_pos h2]
    have h5 : (512 : Int) < (l.length : Int) := by omega
    clear h h2
    go_enter Try.func46, Try.ntmps46
    go_wp2_with fail
    go_ret
    exact ⟨rfl, rfl⟩
  have h5 : (l.length : Int) ≤ 512 := by omega
  by_cases h3 : (l.length : Int) < k
  · rw [trainE, if_neg h, if_neg h2, if_pos h3]
    clear h h2
    go_enter Try.func46, Try.ntmps46
    go_wp2_with fail
    go_ret
    exact ⟨rfl, rfl⟩
  rw [trainE, if_neg h, if_neg h2, if_neg h3]
  obtain ⟨g, o, R, rc, rfl, hc, hR⟩ := hm 0 (by omega)
  rw [Nat.add_zero] at hc
  have p1 : (0 : Int) < (l.length : Int) := by omega
  have h6 : k ≤ (l.length : Int) := by omega
  have hA := Lib.hid (rall_any (some ⟨g, o, none⟩) l cl (mrow l 0).length (by omega) w hm)
  clear h h2 h3
  go_enter Try.func46, Try.ntmps46
  go_wp2_with fail
  refine hA.out.mono ?_
  rintro e w1 ⟨rfl, rfl⟩
  go_wp2_with fail
  go_ret
  exact ⟨rfl, rfl⟩

theorem rtrain_bad (A : Option Addr) (l : List (List Int)) (cl : Nat) (k r s : Int) (w : World) (hm : Mat w A l) (h : trainE l k r ≠ 0) :
    Calls Try.prog 30 #[.slice A l.length cl, .int .i64 k, .int .i64 r, .int .u64 s] w fun e w' => e = .returned (.tuple #[.slice none 0 0, .int .i64 (trainE l k r)]) ∧ w = w' := by
  have hE := Lib.hid (trainE_any A l cl k r w hm)
  have hne : (trainE l k r != 0) = true := by simpa using h
  generalize trainE l k r = E at *
  clear h
  go_enter Try.func30, Try.ntmps30
  go_wp2_with fail
  refine hE.out.mono ?_
  rintro e w1 ⟨rfl, rfl⟩
  go_wp2_with fail
  go_ret2
  exact ⟨rfl, rfl⟩

/-- What stands behind the document's training. -/
def RTrainGood (P : Nat → Prop) (w : World) (m : List (List Int)) (e : Ending) (w' : World) : Prop := ∃ g c, e = .returned (.tuple #[.slice (some ⟨g, 0, none⟩) m.length c, .int .i64 0]) ∧ MatP P w' (some ⟨g, 0, none⟩) m ∧ Below w.heap.size w w'
set_option maxRecDepth 100000 in
set_option maxHeartbeats 8000000 in
theorem rtrain_ok (P : Nat → Prop) (A : Option Addr) (l : List (List Int)) (cl : Nat) (k r : Nat) (s : Int) (w : World) (hm : MatP P w A l) (hP : ∀ b, w.heap.size ≤ b → P b) (h : trainE l k r = 0) :
    Calls Try.prog 30 #[.slice A l.length cl, .int .i64 (k : Int), .int .i64 (r : Int), .int .u64 s] w (RTrainGood P w (trainN l k r s)) := by
  have hE := Lib.hid (trainE_any A l cl k r w hm.mat)
  rw [h] at hE
  obtain ⟨t1, t2, t3, t4, t5, t6, t7⟩ := trainE_ok h
  have hd := train_dim h
  have hcl := Lib.hid t7.coords
  replace hP := Lib.hid hP
  clear h
  unfold trainN
  generalize (mrow l 0).length = d at *
  have k1 : (k : Int) ≤ 64 := by omega
  have r1 : (r : Int) ≤ 20 := by omega
  have l1 : (l.length : Int) ≤ 512 := by omega
  have hS := Lib.hid (fun q => Within.coords (Within.rounds (r := q) hcl.out.within (Within.start hcl.out.within s (k := k) (by omega))))
  have hpl : Hid (∀ i, i < l.length → 0 ≤ nth (permOf s l.length).1 i ∧ (nth (permOf s l.length).1 i).toNat < l.length) := Lib.hid (fun i hi => perm_place hi)
  have hlen : (permOf s l.length).1.length = l.length := permOf_length _ _
  go_enter Try.func30, Try.ntmps30
  go_wp2_with fail
  refine hE.out.mono ?_
  rintro e w1 ⟨rfl, rfl⟩
  have b0 : Blk (w.alloc (.cells #[.int .u64 s] refT)) w.heap.size refT #[.int .u64 s] := Blk.new _ _ _
  have B0 := below_alloc1 w (.cells #[.int .u64 s] refT)
  go_wp2_with fail
  refine (refPerm_src w.heap.size s l.length _ b0 (by omega)).mono ?_
  rintro e x0 ⟨Ap, cp, rfl, hps, _, hgp⟩
  have HB := B0.grown hgp B0.size (fun q hq => by cases hq; exact Nat.le_refl _)
  clear b0 B0 hgp hE
  generalize (permOf s l.length).1 = ps at *
  obtain ⟨st, hst⟩ : ∃ st, st = startN l ps k := ⟨_, rfl⟩
  have hstl : st.length = k := by rw [hst, startN_length]
  rw [← hst] at hS ⊢
  go_wp2_with fail
  go_loopw [14, 15] (fun o i wr => ∃ j : Nat, j ≤ k ∧ i = .int .i64 (j : Int) ∧ OutS P x0.heap.size wr o j st ∧ Below x0.heap.size x0 wr) (fun _ i _ => k - (intOf i).toNat)
  case atStart => exact ⟨0, Nat.zero_le _, rfl, OutS.start _ _ _ _, Below.refl _ _⟩
  case round =>
    obtain ⟨j, hj, rfl, hOut, B3⟩ := hrel
    have B4 := below_chain HB B3 HB.size
    by_cases hlt : j < k
    · obtain ⟨y1, y2⟩ := hpl.out j (by omega)
      obtain ⟨p, hp⟩ : ∃ p : Nat, nth ps j = (p : Int) := ⟨(nth ps j).toNat, by omega⟩
      rw [hp] at y1 y2
      rw [Int.toNat_natCast] at y2
      obtain ⟨gp, op, hAp, hcp⟩ := hps j (by omega)
      rw [hp] at hcp
      obtain ⟨g, o, R, rc, hA, hpg, hc1, hR⟩ := hm p y2
      have hrl := (hcl.out p y2).1
      obtain ⟨gr, or_, hRr, hpr, hcr⟩ := hR 0 (by omega)
      subst hRr hA hAp
      have hgr : gr < w.heap.size := World.block_lt_of_cell? w _ hcr
      have a0 : (0 : Int) ≤ (j : Int) := by omega
      have a1 : (j : Int) < (k : Int) := by omega
      have a2 : (j : Int) < (l.length : Int) := by omega
      have a3 : (p : Int) < (l.length : Int) := by omega
      have hsj : mrow st j = mrow l p := by rw [hst, startN, mrow_map _ _ hlt, hp, Int.toNat_natCast]
      have hlen : (mrow st j).length = d := by rw [hsj]; exact hrl
      rw [hrl] at hc1
      replace hlen := Lib.hid hlen
      replace hrl := Lib.hid hrl
      have c1 := below_cell B4 hc1
      have c2 := below_cell B3 hcp
      have hrow : RowP P wr (some ⟨gr, or_, none⟩) (mrow st j) := by rw [hsj]; exact hR.below B4
      have hw5 : w.heap.size ≤ x0.heap.size := HB.size
      have hwx := B3.size
      have hout := hOut.lt
      obtain ⟨xs, HO5, hX⟩ := hOut
      go_wp2_with (at_builtin; refine append_one x0.heap.size rfl (.tmp 39) (.tmp 47) _ 26 (.slice none 0 0) 24 rfl Try.underlying22 row_info rfl (by omega) u14 j _ (.slice (some ⟨gr, or_, none⟩) d rc) rfl rfl rfl HO5 hwx (by omega) ?_; intro v1 x6 HO6 hg6 hat6)
      rw [← hlen.out] at HO6
      have hOut6 := OutS.snoc (P := P) HO5 hX HO6 hg6 hat6 hpr (by omega) (fun e => by have := hout gr e; omega) hrow
      have B6 := below_of_grown B3 hg6 (fun q hq => (hout q hq).1)
      exact ⟨⟨j + 1, by omega, by go_num, hOut6, B6⟩, by simp [intOf]; omega⟩
    · obtain rfl : j = k := by omega
      rw [← hstl] at hOut
      obtain ⟨g9, c9, rfl, hM9⟩ := hOut.mat (by omega) (fun b hb => hP.out b (by have := HB.size; omega))
      rw [hstl]
      replace hstl := Lib.hid hstl
      replace hst := Lib.hid hst
      go_wp2_with fail
      go_loopw [14, 16] (fun o i wr => ∃ (q g c : Nat), q ≤ r ∧ i = .int .i64 (q : Int) ∧ o = .slice (some ⟨g, 0, none⟩) j c ∧ MatP P wr (some ⟨g, 0, none⟩) (roundsN l d q st) ∧ Below w.heap.size w wr) (fun _ i _ => r - (intOf i).toNat)
      case atStart => exact ⟨0, g9, c9, Nat.zero_le _, rfl, rfl, hM9, B4⟩
      case round =>
        clear hM9 B4 B3
        obtain ⟨q, g, c, hq, rfl, rfl, hM, B4⟩ := hrel
        have hml : (roundsN l d q st).length = j := by rw [roundsN_length]; exact hstl.out
        by_cases hlt2 : q < r
        · have a0 : (0 : Int) ≤ (q : Int) := by omega
          have a1 : (q : Int) < (r : Int) := by omega
          have hC := rround_any P (some ⟨g, 0, none⟩) (roundsN l d q st) c A l cl d wr hM (hm.mat.below B4) (fun b hb => hP.out b (by have := B4.size; omega)) (by omega) (by omega) hd.1 hd.2 (by omega) t5 hcl.out (hS.out q)
          rw [hml] at hC
          replace hC := Lib.hid hC
          have hnl : (nextN (roundsN l d q st) l d).length = j := by rw [nextN_length]; exact hml
          clear hml
          go_wp2_with fail
          with_reducible refine hC.out.mono ?_
          rintro e x7 ⟨g7, c7, rfl, hM7, hb7⟩
          rw [hnl]
          clear hnl hC
          have B7 := below_chain B4 hb7 B4.size
          go_wp2_with fail
          exact ⟨⟨q + 1, g7, c7, by omega, by go_num, rfl, hM7, B7⟩, by simp [intOf]; omega⟩
        · obtain rfl : q = r := by omega
          replace hml := Lib.hid hml
          go_wp2_with fail
          go_ret2
          exact ⟨g, c, by rw [← hst.out, hml.out]; rfl, by rw [← hst.out]; exact hM, B4⟩
end Go.Proofs.Ytiamppbgpoffmaa

namespace Go.Proofs.Ytiamppbgpoffmaa
open Go.RowKit
set_option linter.unusedVariables false

set_option maxHeartbeats 1000000 in
theorem rints_any (A B : Option Addr) (a b : List Int) (c d : Nat) (w : World) (ha : Row w A a) (hb : Row w B b) (hla : a.length ≤ 9223372036854775807) :
    Calls Try.prog 43 #[.slice A a.length c, .slice B b.length d] w fun e w' => e = .returned (.bool (decide (a = b))) ∧ Drawn w w' := by
  by_cases hl : a.length = b.length
  · have hne : ((a.length : Int) != (b.length : Int)) = false := by simp [hl]
    have hl' := Lib.hid hl
    clear hl
    go_enter Try.func43, Try.ntmps43
    go_wp2
    clear hne
    go_loopw [5] (fun i wr => ∃ k : Nat, k ≤ a.length ∧ i = .int .i64 k ∧ SameTo k a b ∧ Drawn w wr) (fun i _ => a.length - (intOf i).toNat)
    case atStart => exact ⟨0, Nat.zero_le _, rfl, fun j hj => absurd hj (by omega), Drawn.refl _⟩
    case round =>
      obtain ⟨k, hk, rfl, hS, hD⟩ := hrel
      by_cases hlt : k < a.length
      · have hltb : k < b.length := by have := hl'.out; omega
        obtain ⟨q, rfl⟩ := hD
        obtain ⟨g1, o1, rfl, hc1⟩ := ha k hlt
        obtain ⟨g2, o2, rfl, hc2⟩ := hb k hltb
        have p0 : (0 : Int) ≤ (k : Int) := by omega
        have p1 : (k : Int) < (a.length : Int) := by omega
        have p2 : (k : Int) < (b.length : Int) := by omega
        by_cases he : nth a k = nth b k
        · have hne : (nth a k != nth b k) = false := by simpa using he
          have hS' := hS.succ he
          clear he
          go_wp2
          go_quiet (fail)
          go_wp2
          exact ⟨⟨k + 1, by omega, by go_num, hS', q + nq, rfl⟩, by simp [intOf]; omega⟩
        · have hne : (nth a k != nth b k) = true := by simpa using he
          have hno : a ≠ b := fun e => he (by rw [e])
          clear he
          go_wp2
          go_quiet (fail)
          go_wp2
          go_ret
          exact ⟨by rw [decide_eq_false hno]; rfl, q + nq, (World.drewN_drewN ..)⟩
      · obtain rfl : k = a.length := by omega
        go_wp2
        go_ret
        exact ⟨by rw [decide_eq_true (SameTo.all hl'.out hS)]; rfl, hD⟩
  · have hne : ((a.length : Int) != (b.length : Int)) = true := by simp; omega
    go_enter Try.func43, Try.ntmps43
    go_wp2
    go_ret
    exact ⟨by rw [decide_eq_false (fun e => hl (by rw [e]))]; rfl, Drawn.refl _⟩



set_option maxHeartbeats 4000000 in
theorem same_eq (A B : Option Addr) (m : List (List Int)) (c d : Nat) (w : World) (ha : Mat w A m) (hb : Mat w B m) (h64 : m.length ≤ 64) (hr : ∀ i, i < m.length → (mrow m i).length ≤ 64) :
    Calls Try.prog 27 #[.slice A m.length c, .slice B m.length d] w fun e w' => e = .returned (.bool true) ∧ Drawn w w' := by
  have hne : ((m.length : Int) != (m.length : Int)) = false := by simp
  replace hr := Lib.hid hr
  go_enter Try.func27, Try.ntmps27
  go_wp2_with fail
  clear hne
  go_loopw [5] (fun i wr => ∃ k : Nat, k ≤ m.length ∧ i = .int .i64 (k : Int) ∧ Drawn w wr) (fun i _ => m.length - (intOf i).toNat)
  case atStart => exact ⟨0, Nat.zero_le _, rfl, Drawn.refl _⟩
  case round =>
    obtain ⟨k, hk, rfl, hD⟩ := hrel
    by_cases hlt : k < m.length
    · obtain ⟨g1, o1, R1, c1, rfl, hc1, hR1⟩ := ha k hlt
      obtain ⟨g2, o2, R2, c2, rfl, hc2, hR2⟩ := hb k hlt
      have p0 : (0 : Int) ≤ (k : Int) := by omega
      have p1 : (k : Int) < (m.length : Int) := by omega
      have hI := rints_any R1 R2 (mrow m k) (mrow m k) c1 c2
      rw [decide_eq_true rfl] at hI
      replace hD := hD.one
      have S0 : (World.drew wr).cell? ⟨g1, o1 + k, none⟩ = some (.slice R1 (mrow m k).length c1) ∧ (World.drew wr).cell? ⟨g2, o2 + k, none⟩ = some (.slice R2 (mrow m k).length c2) := ⟨below_cell (hD.below _) hc1, below_cell (hD.below _) hc2⟩
      have hI1 := Lib.hid (hI (World.drew wr) (hR1.below (hD.below _)) (hR2.below (hD.below _)) (by have := hr.out k hlt; omega))
      clear hI
      go_wp2_with fail
      go_region_held3 (fun w' => w'.cell? ⟨g1, o1 + k, none⟩ = some (.slice R1 (mrow m k).length c1) ∧ w'.cell? ⟨g2, o2 + k, none⟩ = some (.slice R2 (mrow m k).length c2))
        (first | exact S0 | exact S1)
        (first | (go_at_call 43; (with_reducible refine hI1.out.mono ?_); rintro e x1 ⟨rfl, hE⟩; have S1 := And.intro (below_cell (hE.below _) S0.1) (below_cell (hE.below _) S0.2)))
      all_goals
        obtain ⟨q1, h1⟩ := hD
        obtain ⟨q2, h2⟩ := hE
        have hF : Drawn w x1 := ⟨q1 + q2, by rw [h2, h1]; exact World.drewN_drewN ..⟩
        clear S0 S1 hI1 h1 h2
        go_wp2_with fail
        exact ⟨⟨k + 1, by omega, by go_num, hF⟩, by simp [intOf]; omega⟩
    · obtain rfl : k = m.length := by omega
      go_wp2_with fail
      go_ret
      exact ⟨rfl, hD⟩
theorem same_nil (w : World) : Calls Try.prog 27 #[.slice none 0 0, .slice none 0 0] w fun e w' => e = .returned (.bool true) ∧ Drawn w w' := same_eq none none [] 0 0 w Mat.nil_ Mat.nil_ (by simp) (fun i hi => by simp at hi)
end Go.Proofs.Ytiamppbgpoffmaa
