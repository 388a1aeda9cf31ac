/- The contract of slices.Clone at whole numbers. A round, step by step: the sums, the counts, the new centres. No program in sight. The contract of the closure that makes a round (kmeans.Train$1): the centres become the next ones, in place. The contract of the closure that makes a round (kmeans.Train$1): the walk. The contract of kmeans.Train where the question is refused. The contract of kmeans.Train: the centres in new memory. The contract of kmeans.Train: the walk. The contract of kmeans.Train, whatever is asked. -/
import Derived.Test.YtiamppbgpoffmaaQBase
import Derived.Deep.LoopGhost
import Derived.Lib.SliceRun
import Derived.Test.YtiamppbgpoffmaaQDist
import Derived.Deep.CutBlock
import Derived.Test.YtiamppbgpoffmaaQRand
namespace Go.Proofs.Ytiamppbgpoffmaa
open Go.RowKit
set_option linter.unusedVariables false

theorem int_info' : (Try.prog.info? 3).map (fun i => (i.zero, i.size, i.bytes)) = some (some (.int .i64 0), 1, 8) := by kernel_rfl
/-- A row of the call's own: at block g, from its front on. -/
structure OwnRow (B : Nat) (g : Nat) (l : List Int) (w' : World) : Prop where
  lo : B ≤ g
  lt : g < w'.heap.size
  cell : ∀ x, x < l.length → w'.cell? ⟨g, x, none⟩ = some (.int .i64 (nth l x))
  free : ∀ x, w'.frozen? ⟨g, x, none⟩ = false
def ClonePost (w : World) (l : List Int) (e : Ending) (w' : World) : Prop := ∃ g cap, e = .returned (.slice (some ⟨g, 0, none⟩) l.length cap) ∧ OwnRow w.heap.size g l w' ∧ Below w.heap.size w w'
set_option maxHeartbeats 2000000 in
set_option maxRecDepth 100000 in
theorem clone_any (b off : Nat) (l : List Int) (c : Nat) (w : World) (h : Row w (some ⟨b, off, none⟩) l) (h0 : 1 ≤ l.length) (h64 : l.length ≤ 65536) :
    Calls Try.prog 42 #[.slice (some ⟨b, off, none⟩) l.length c] w (ClonePost w l) := by
  obtain ⟨i0, hi, hzz⟩ := Option.map_eq_some_iff.1 int_info'
  simp only [Prod.mk.injEq] at hzz
  obtain ⟨hz0, hz1, hz2⟩ := hzz
  have hcell : ∀ j, j < l.length → w.cell? ⟨b, off + j, none⟩ = some (.int .i64 (nth l j)) := fun j hj => by
    obtain ⟨g, o, hA, hc⟩ := h j hj
    simp only [Option.some.injEq, Addr.mk.injEq, and_true] at hA
    obtain ⟨rfl, rfl⟩ := hA
    exact hc
  replace hcell := Lib.hid hcell
  have q22 : ∀ (w : World) (a : Option Addr) (n c n' c' : Nat), (binOp .eql 26 (.slice a n c) (.slice none n' c')).run Try.prog w = .ok (.bool a.isNone) w := fun w a n c n' c' => Lib.run_eql_slice_nil w _ _ a n c n' c' Try.underlying26
  clear h
  go_enter Try.func42, Try.ntmps42
  go_wp2_with (at_builtin; refine wpList_append_own _ rfl _ _ 26 rfl w.heap.size 3 i0 (.int .i64 0) 1 8 Try.underlying26 hi hz0 hz1 hz2 rfl (by decide) _ _ _ rfl (World.ownsRow_made w #[] 0 (Nat.le_refl _) (Nat.zero_le _) rfl) ⟨b, off, none⟩ l.length c (vals l) rfl ?qc1 ?qc2 ?qc3 ?qc4 ?qc5 ?qc6 ?_)
  case qc1 => simp [vals]
  case qc2 =>
    intro j u hj
    have hjn : j < l.length := by
      have := (List.getElem?_eq_some_iff.1 hj).1
      simpa [vals] using this
    rw [Addr.add_lit]
    refine Lib.cell?_alloc_some _ ?_
    rw [hcell.out j hjn, ← vals_at l j hjn]
    exact hj
  case qc3 => intro u hu; obtain ⟨x, _, rfl⟩ := List.mem_map.1 hu; rfl
  case qc4 => unfold maxLen; omega
  case qc5 => omega
  case qc6 => simp
  intro v' w1 hown hgrow hnil
  go_wp2
  go_ret
  have hown' : w1.ownsRow w.heap.size 3 1 v' l.length (vals l) := by simpa using hown
  obtain ⟨g, cap, rfl, g1, g2⟩ := own_shape hown' (by omega)
  refine ⟨g, cap, rfl, ⟨g1, g2, fun x hx => own_int hown' x hx, fun x => hown'.frozenAt x⟩, ?_⟩
  exact ((Below.refl _ w).alloc (Nat.le_refl _) _).grown hgrow (by simp) (by intro k hk; simp [Value.ownBlock] at hk; omega)
end Go.Proofs.Ytiamppbgpoffmaa

namespace Go.Proofs.Ytiamppbgpoffmaa
open Go.RowKit

/-- The sums behind j vectors, and n coordinates of the next one. -/
def sumsP (cs l : List (List Int)) (d j n : Nat) : List (List Int) := (List.range cs.length).map fun c => (List.range d).map fun x => if x < n then sumTo cs l c x (j + 1) else sumTo cs l c x j
def manyL (cs l : List (List Int)) (j : Nat) : List Int := (List.range cs.length).map fun c => (manyTo cs l c j : Int)
theorem sumsP_length (cs l : List (List Int)) (d j n : Nat) : (sumsP cs l d j n).length = cs.length := by simp [sumsP]
theorem manyL_length (cs l : List (List Int)) (j : Nat) : (manyL cs l j).length = cs.length := by simp [manyL]
theorem mrow_sumsP {cs l : List (List Int)} {d j n c : Nat} (h : c < cs.length) : mrow (sumsP cs l d j n) c = (List.range d).map fun x => if x < n then sumTo cs l c x (j + 1) else sumTo cs l c x j := mrow_map _ _ h
theorem mrow_sumsP_length {cs l : List (List Int)} {d j n c : Nat} (h : c < cs.length) : (mrow (sumsP cs l d j n) c).length = d := by rw [mrow_sumsP h]; simp
theorem nth_sumsP {cs l : List (List Int)} {d j n c x : Nat} (h : c < cs.length) (hx : x < d) : nth (mrow (sumsP cs l d j n) c) x = if x < n then sumTo cs l c x (j + 1) else sumTo cs l c x j := by
  rw [mrow_sumsP h, nth_map _ _ hx]
theorem nth_sums {cs l : List (List Int)} {d j c x : Nat} (h : c < cs.length) (hx : x < d) : nth (mrow (sumsP cs l d j 0) c) x = sumTo cs l c x j := by
  rw [nth_sumsP h hx, if_neg (by omega)]
theorem nth_manyL {cs l : List (List Int)} {j c : Nat} (h : c < cs.length) : nth (manyL cs l j) c = (manyTo cs l c j : Int) := nth_map _ _ h
theorem sumsP_full (cs l : List (List Int)) (d j : Nat) : sumsP cs l d j d = sumsP cs l d (j + 1) 0 := by
  refine mrow_ext (by rw [sumsP_length, sumsP_length]) fun c hc => ?_
  rw [sumsP_length] at hc
  refine nth_ext (by rw [mrow_sumsP_length hc, mrow_sumsP_length hc]) fun x hx => ?_
  rw [mrow_sumsP_length hc] at hx
  rw [nth_sumsP hc hx, nth_sumsP hc hx, if_pos hx, if_neg (by omega)]
theorem sumsP_step {cs l : List (List Int)} {d j n : Nat} (hat : (nearN cs (mrow l j)).1 < cs.length) (hn : n < d) :
    put2 (sumsP cs l d j n) (nearN cs (mrow l j)).1 n (sumTo cs l (nearN cs (mrow l j)).1 n j + nth (mrow l j) n) = sumsP cs l d j (n + 1) := by
  refine mrow_ext (by rw [put2_length, sumsP_length, sumsP_length]) fun c hc => ?_
  rw [put2_length, sumsP_length] at hc
  have hl : (mrow (sumsP cs l d j n) (nearN cs (mrow l j)).1).length = d := mrow_sumsP_length hat
  refine nth_ext (by rw [mrow_put2_length _ _ _ _ _ (by rw [sumsP_length]; exact hat), mrow_sumsP_length hc, mrow_sumsP_length hc]) fun x hx => ?_
  rw [mrow_put2_length _ _ _ _ _ (by rw [sumsP_length]; exact hat), mrow_sumsP_length hc] at hx
  rw [mrow_put2 _ _ _ _ _ (by rw [sumsP_length]; exact hat), nth_sumsP hc hx]
  by_cases hca : c = (nearN cs (mrow l j)).1
  · rw [if_pos hca, nth_set _ _ _ _ (by rw [hl]; exact hn)]
    by_cases hxn : x = n
    · subst hxn
      rw [if_pos rfl, if_pos (by omega), hca, sumTo, if_pos rfl]
    · rw [if_neg hxn, ← hca, nth_sumsP hc hx]
      by_cases h1 : x < n
      · rw [if_pos h1, if_pos (by omega)]
      · rw [if_neg h1, if_neg (by omega)]
  · rw [if_neg hca, nth_sumsP hc hx]
    have e : sumTo cs l c x (j + 1) = sumTo cs l c x j := by rw [sumTo, if_neg (fun h => hca h.symm), Int.add_zero]
    rw [e]
    simp
theorem sumsP_start (cs l : List (List Int)) (d : Nat) : sumsP cs l d 0 0 = List.replicate cs.length (List.replicate d 0) := by
  refine mrow_ext (by simp [sumsP_length]) fun c hc => ?_
  rw [sumsP_length] at hc
  have e : mrow (List.replicate cs.length (List.replicate d (0 : Int))) c = List.replicate d 0 := by simp [mrow, hc]
  rw [e]
  refine nth_ext (by rw [mrow_sumsP_length hc]; simp) fun x hx => ?_
  rw [mrow_sumsP_length hc] at hx
  rw [nth_sums hc hx]
  simp [nth, hx, sumTo]
theorem manyL_start (cs l : List (List Int)) : manyL cs l 0 = List.replicate cs.length 0 := by
  refine nth_ext (by simp [manyL_length]) fun c hc => ?_
  rw [manyL_length] at hc
  rw [nth_manyL hc]
  simp [nth, hc, manyTo]
theorem manyL_step {cs l : List (List Int)} {j : Nat} (hat : (nearN cs (mrow l j)).1 < cs.length) :
    (manyL cs l j).set (nearN cs (mrow l j)).1 ((manyTo cs l (nearN cs (mrow l j)).1 j : Int) + 1) = manyL cs l (j + 1) := by
  refine nth_ext (by simp [manyL_length]) fun c hc => ?_
  rw [List.length_set, manyL_length] at hc
  rw [nth_set _ _ _ _ (by rw [manyL_length]; exact hat), nth_manyL hc, nth_manyL hc, manyTo]
  by_cases h : c = (nearN cs (mrow l j)).1
  · rw [if_pos h, if_pos h.symm, ← h, Int.natCast_add, Int.natCast_one]
  · rw [if_neg h, if_neg (fun e => h e.symm)]; simp

/-- The centres, while the new ones are written: those before i, and n coordinates of centre i, are new. -/
def nextP (cs l : List (List Int)) (d i n : Nat) : List (List Int) := (List.range cs.length).map fun c => (List.range d).map fun x => if c < i ∨ c = i ∧ x < n then nth (nextRow cs l d c) x else nth (mrow cs c) x
theorem nextP_length (cs l : List (List Int)) (d i n : Nat) : (nextP cs l d i n).length = cs.length := by simp [nextP]
theorem mrow_nextP_length {cs l : List (List Int)} {d i n c : Nat} (h : c < cs.length) : (mrow (nextP cs l d i n) c).length = d := by rw [nextP, mrow_map _ _ h]; simp
theorem nth_nextP {cs l : List (List Int)} {d i n c x : Nat} (h : c < cs.length) (hx : x < d) : nth (mrow (nextP cs l d i n) c) x = if c < i ∨ c = i ∧ x < n then nth (nextRow cs l d c) x else nth (mrow cs c) x := by
  rw [nextP, mrow_map _ _ h, nth_map _ _ hx]
theorem nextP_start {cs l : List (List Int)} {d : Nat} (h : CoordAll cs d) : nextP cs l d 0 0 = cs := by
  refine mrow_ext (nextP_length _ _ _ _ _) fun c hc => ?_
  rw [nextP_length] at hc
  refine nth_ext (by rw [mrow_nextP_length hc, (h c hc).1]) fun x hx => ?_
  rw [mrow_nextP_length hc] at hx
  rw [nth_nextP hc hx, if_neg (by omega)]
theorem nextRow_length {cs l : List (List Int)} {d c : Nat} (h : CoordAll cs d) (hc : c < cs.length) : (nextRow cs l d c).length = d := by
  rw [nextRow]
  split
  · exact (h c hc).1
  · exact meanRow_length _ _ _ _
theorem nextP_full {cs l : List (List Int)} {d : Nat} (h : CoordAll cs d) : nextP cs l d cs.length 0 = nextN cs l d := by
  refine mrow_ext (by rw [nextP_length, nextN_length]) fun c hc => ?_
  rw [nextP_length] at hc
  rw [mrow_nextN _ _ _ _ hc]
  refine nth_ext (by rw [mrow_nextP_length hc, nextRow_length h hc]) fun x hx => ?_
  rw [mrow_nextP_length hc] at hx
  rw [nth_nextP hc hx, if_pos (.inl hc)]
theorem nextP_row (cs l : List (List Int)) (d i : Nat) : nextP cs l d i d = nextP cs l d (i + 1) 0 := by
  refine mrow_ext (by rw [nextP_length, nextP_length]) fun c hc => ?_
  rw [nextP_length] at hc
  refine nth_ext (by rw [mrow_nextP_length hc, mrow_nextP_length hc]) fun x hx => ?_
  rw [mrow_nextP_length hc] at hx
  rw [nth_nextP hc hx, nth_nextP hc hx]
  by_cases h1 : c < i + 1
  · rw [if_pos (by omega), if_pos (.inl h1)]
  · rw [if_neg (by omega), if_neg (by omega)]
theorem nextP_none {cs l : List (List Int)} {d i n : Nat} (hm : manyTo cs l i l.length = 0) : nextP cs l d i n = nextP cs l d i (n + 1) := by
  refine mrow_ext (by rw [nextP_length, nextP_length]) fun c hc => ?_
  rw [nextP_length] at hc
  refine nth_ext (by rw [mrow_nextP_length hc, mrow_nextP_length hc]) fun x hx => ?_
  rw [mrow_nextP_length hc] at hx
  rw [nth_nextP hc hx, nth_nextP hc hx]
  by_cases h1 : c = i ∧ x = n
  · obtain ⟨rfl, rfl⟩ := h1
    rw [if_neg (by omega), if_pos (.inr ⟨rfl, by omega⟩), nextRow, if_pos hm]
  · by_cases h2 : c < i ∨ c = i ∧ x < n
    · rw [if_pos h2, if_pos (by omega)]
    · rw [if_neg h2, if_neg (by omega)]
theorem nextP_step {cs l : List (List Int)} {d i n : Nat} (hi : i < cs.length) (hn : n < d) (hm : manyTo cs l i l.length ≠ 0) :
    put2 (nextP cs l d i n) i n (sumTo cs l i n l.length / (manyTo cs l i l.length : Int)) = nextP cs l d i (n + 1) := by
  refine mrow_ext (by rw [put2_length, nextP_length, nextP_length]) fun c hc => ?_
  rw [put2_length, nextP_length] at hc
  refine nth_ext (by rw [mrow_put2_length _ _ _ _ _ (by rw [nextP_length]; exact hi), mrow_nextP_length hc, mrow_nextP_length hc]) fun x hx => ?_
  rw [mrow_put2_length _ _ _ _ _ (by rw [nextP_length]; exact hi), mrow_nextP_length hc] at hx
  rw [mrow_put2 _ _ _ _ _ (by rw [nextP_length]; exact hi), nth_nextP hc hx]
  by_cases hci : c = i
  · subst hci
    rw [if_pos rfl, nth_set _ _ _ _ (by rw [mrow_nextP_length hc]; exact hn)]
    by_cases hxn : x = n
    · subst hxn
      rw [if_pos rfl, if_pos (.inr ⟨rfl, by omega⟩), nextRow, if_neg hm, meanRow, nth_map _ _ hn]
    · rw [if_neg hxn, nth_nextP hc hx]
      by_cases h2 : c < c ∨ c = c ∧ x < n
      · rw [if_pos h2, if_pos (by omega)]
      · rw [if_neg h2, if_neg (by omega)]
  · rw [if_neg hci, nth_nextP hc hx]
    by_cases h2 : c < i
    · rw [if_pos (.inl h2), if_pos (.inl h2)]
    · rw [if_neg (by omega), if_neg (by omega)]
theorem sum_ok {cs l : List (List Int)} {d c x i : Nat} (h : CoordAll l d) (hx : x < d) (hi : i ≤ l.length) (hl : l.length ≤ 512) : SumOk (sumTo cs l c x i) := by
  obtain ⟨h1, h2⟩ := sumTo_bound (cs := cs) (c := c) (x := x) (lo := -2147483647) (hi := 2147483647) i (fun j hj => (h j (by omega)).2 x hx)
  have h3 := manyTo_le cs l c i
  unfold SumOk
  omega
end Go.Proofs.Ytiamppbgpoffmaa

namespace Go.Proofs.Ytiamppbgpoffmaa
open Go.RowKit
set_option linter.unusedVariables false

def rows0 (n : Nat) : Array Value := madeCells #[.slice none 0 0] n
theorem rows0_at (n i : Nat) (h : i < n) : (rows0 n)[i]? = some (.slice none 0 0) := by
  unfold rows0
  rw [← Array.getElem?_toList, toList_madeCells_one]
  simp [h]
theorem run_make_rows {P : Program} (t e : TypeId) (ht : P.underlying t = some (.slice e)) (hi : (P.info? e).map (fun i => (i.zero, i.size, i.bytes)) = some (some (.slice none 0 0), 1, 24)) (n : Nat) (hn : n ≤ 1000000000000) (w : World) :
    (Instr.makeSlice t (.int .i64 (n : Int)) (.int .i64 (n : Int))).run P w = .ok (.slice (some ⟨w.heap.size, 0, none⟩) n n) (w.alloc (.cells (rows0 n) e)) := by
  obtain ⟨i0, h0, hz⟩ := Option.map_eq_some_iff.1 hi
  simp only [Prod.mk.injEq] at hz
  obtain ⟨hz0, hz1, hz2⟩ := hz
  have h := run_make (P := P) w t e i0 _ ht h0 hz0 .i64 .i64 (n : Int) (n : Int) (by omega) (Int.le_refl _) (by rw [hz2]; omega) (by omega)
  rw [h, hz1, Nat.mul_one, Int.toNat_natCast]
  rfl

/-- What a round's first loops make: the sums' rows, the counts. -/
structure RoundS (w wr : World) (k : Nat) (G K : Nat → Nat) (M : List (List Int)) (N : List Int) : Prop where
  below : Below w.heap.size w wr
  grid : Grid wr w.heap.size w.heap.size G K M
  many : Blk wr (w.heap.size + 1) 3 (ints N)
  sep : ∀ i, i < M.length → w.heap.size + 1 < G i
  rest : ∀ j, M.length ≤ j → j < k → wr.cell? ⟨w.heap.size, j, none⟩ = some (.slice none 0 0)
section
variable {w wr w2 : World} {k : Nat} {G K : Nat → Nat} {M : List (List Int)} {N : List Int}
theorem RoundS.more (h : RoundS w wr k G K M N) (hb : Below wr.heap.size wr w2) : RoundS w w2 k G K M N :=
  { below := below_chain h.below hb h.below.size, grid := h.grid.below hb, many := h.many.below hb h.many.lt, sep := h.sep, rest := fun j h1 h2 => below_cell hb (h.rest j h1 h2) }
theorem RoundS.drew (h : RoundS w wr k G K M N) : RoundS w wr.drew k G K M N := h.more (Below.refl _ _).drew
theorem RoundS.start (w : World) (k : Nat) (G K : Nat → Nat) : RoundS w ((w.alloc (.cells (rows0 k) 26)).alloc (.cells (ints (List.replicate k 0)) 3)) k G K [] (List.replicate k 0) := by
  have b1 := (Blk.new w 26 (rows0 k)).alloc (.cells (ints (List.replicate k 0)) 3)
  have b2 := Blk.new (w.alloc (.cells (rows0 k) 26)) 3 (ints (List.replicate k 0))
  rw [show (w.alloc (.cells (rows0 k) 26)).heap.size = w.heap.size + 1 by simp] at b2
  exact { below := (below_alloc1 _ _).alloc (by simp) _, grid := Grid.empty (Nat.le_refl _) b1.lt b1.frozen, many := b2, sep := fun i hi => by simp at hi, rest := fun j _ hj => by rw [b1.cell j, rows0_at k j hj] }
theorem RoundS.row (h : RoundS w wr k G K M N) (d : Nat) (hk : M.length < k) :
    RoundS w ((wr.alloc (.cells (ints (List.replicate d 0)) 3)).setCell ⟨w.heap.size, M.length, none⟩ (.slice (some ⟨wr.heap.size, 0, none⟩) d d)) k
      (fun i => if i < M.length then G i else wr.heap.size) (fun i => if i < M.length then K i else d) (M ++ [List.replicate d 0]) N := by
  have h1 := h.more (below_alloc1 wr (.cells (ints (List.replicate d 0)) 3))
  have b1 := Blk.new wr 3 (ints (List.replicate d 0))
  have hz := h.many.lt
  have hne : wr.heap.size ≠ w.heap.size := by omega
  have hsz : ((wr.alloc (.cells (ints (List.replicate d 0)) 3)).setCell ⟨w.heap.size, M.length, none⟩ (.slice (some ⟨wr.heap.size, 0, none⟩) d d)).heap.size = wr.heap.size + 1 := by simp [World.setCell]
  have b2 := b1.far (p := ⟨w.heap.size, M.length, none⟩) hne (.slice (some ⟨wr.heap.size, 0, none⟩) d d)
  refine { below := h1.below.setCell (Nat.le_refl _) _, grid := ?_, many := h1.many.far (by simp) _, sep := ?_, rest := ?_ }
  · refine (h1.grid.beyond (Nat.le_refl _) _).snoc ?_ ⟨by omega, by rw [hsz]; omega, hne⟩ ?_ ?_ ?_
    · rw [World.cell?_setCell_same' _ _ _ (by rw [h1.rest M.length (Nat.le_refl _) hk]; rfl)]
      simp
    · intro i hi
      have := (h.grid.new i hi).2.1
      omega
    · intro x hx
      rw [b2.nth x hx]
    · exact fun x => b2.frozen x
  · intro i hi
    split
    · rename_i hlt; exact h.sep i hlt
    · omega
  · intro j h2 h3
    simp only [List.length_append, List.length_cons, List.length_nil] at h2
    rw [World.cell?_setCell_other _ _ _ _ (fun e => by injection e; omega)]
    exact h1.rest j (by omega) h3
theorem RoundS.count (h : RoundS w wr k G K M N) (i : Nat) (x : Int) : RoundS w (wr.setCell ⟨w.heap.size + 1, i, none⟩ (.int .i64 x)) k G K M (N.set i x) :=
  { below := h.below.setCell (p := ⟨w.heap.size + 1, i, none⟩) (by simp) _, grid := h.grid.far (by simp) (fun j hj => by have := h.sep j hj; simp; omega) _, many := h.many.setInt i x, sep := h.sep,
    rest := fun j h1 h2 => by rw [World.cell?_setCell_other _ _ _ _ (fun e => by injection e; omega)]; exact h.rest j h1 h2 }
theorem RoundS.put (h : RoundS w wr k G K M N) {i x : Nat} (hi : i < M.length) (hx : x < (mrow M i).length) (v : Int) : RoundS w (wr.setCell ⟨G i, x, none⟩ (.int .i64 v)) k G K (put2 M i x v) N :=
  { below := h.below.setCell (p := ⟨G i, x, none⟩) (h.grid.new i hi).1 _, grid := h.grid.store hi hx v, many := h.many.far (by have := h.sep i hi; simp; omega) _, sep := fun j hj => h.sep j (by rwa [put2_length] at hj),
    rest := fun j h1 h2 => by rw [put2_length] at h1; rw [World.cell?_setCell_other _ _ _ _ (fun e => (h.grid.new i hi).2.2 (by injection e))]; exact h.rest j h1 h2 }
end
/-- Of the old blocks only the centres' rows have turned. -/
def Off (w w' : World) (n : Nat) (G : Nat → Nat) : Prop := ∀ b, b < w.heap.size → (∀ i, i < n → b ≠ G i) → w'.heap[b]? = w.heap[b]?
theorem Off.of_below {w w' : World} {n : Nat} {G : Nat → Nat} (h : Below w.heap.size w w') : Off w w' n G := fun b hb _ => h.block b hb
theorem Off.cell {w w' : World} {n : Nat} {G : Nat → Nat} (h : Off w w' n G) {a : Addr} {v : Value} (hv : w.cell? a = some v) (hg : ∀ i, i < n → a.block ≠ G i) : w'.cell? a = some v :=
  (World.cell?_of_block (h a.block (World.block_lt_of_cell? w a hv) hg)).trans hv
theorem Off.set_ {w w' : World} {n : Nat} {G : Nat → Nat} (h : Off w w' n G) {i x : Nat} (hi : i < n) (v : Value) : Off w (w'.setCell ⟨G i, x, none⟩ v) n G := fun b hb hg =>
  (Below.heap_setCell w' _ v b (hg i hi)).trans (h b hb hg)
theorem Off.drew {w w' : World} {n : Nat} {G : Nat → Nat} (h : Off w w' n G) : Off w w'.drew n G := h
structure RoundT (w wr : World) (B gc : Nat) (G K G2 K2 : Nat → Nat) (cs M : List (List Int)) (N : List Int) : Prop where
  below : Below B w wr
  off : Off w wr cs.length G
  grid : Grid wr B gc G K cs
  sums : Grid wr w.heap.size w.heap.size G2 K2 M
  many : Blk wr (w.heap.size + 1) 3 (ints N)
  old : ∀ i, i < cs.length → G i < w.heap.size
theorem RoundT.put {w wr : World} {B gc : Nat} {G K G2 K2 : Nat → Nat} {cs M : List (List Int)} {N : List Int} (h : RoundT w wr B gc G K G2 K2 cs M N) {i x : Nat} (hi : i < cs.length) (hx : x < (mrow cs i).length) (v : Int) :
    RoundT w (wr.setCell ⟨G i, x, none⟩ (.int .i64 v)) B gc G K G2 K2 (put2 cs i x v) M N := by
  have ho := h.old i hi
  exact { below := h.below.setCell (p := ⟨G i, x, none⟩) (h.grid.new i hi).1 _, off := by rw [put2_length]; exact h.off.set_ hi _, grid := h.grid.store hi hx v
          sums := h.sums.far (by simp; omega) (fun j hj => by have := (h.sums.new j hj).1; simp; omega) _, many := h.many.far (by simp; omega) _, old := fun j hj => h.old j (by rwa [put2_length] at hj) }
theorem RoundT.drew {w wr : World} {B gc : Nat} {G K G2 K2 : Nat → Nat} {cs M : List (List Int)} {N : List Int} (h : RoundT w wr B gc G K G2 K2 cs M N) : RoundT w wr.drew B gc G K G2 K2 cs M N :=
  { below := h.below.drew, off := h.off, grid := h.grid.below (Below.refl _ _).drew, sums := h.sums.below (Below.refl _ _).drew, many := h.many, old := h.old }
end Go.Proofs.Ytiamppbgpoffmaa

namespace Go.Proofs.Ytiamppbgpoffmaa
open Go.RowKit
set_option linter.unusedVariables false

theorem row_info : (Try.prog.info? 26).map (fun i => (i.zero, i.size, i.bytes)) = some (some (.slice none 0 0), 1, 24) := by kernel_rfl
theorem int_info2 : (Try.prog.info? 3).map (fun i => (i.zero, i.size, i.bytes)) = some (some (.int .i64 0), 1, 8) := by kernel_rfl
theorem make_rows (n : Nat) (hn : n ≤ 512) (w : World) : (Instr.makeSlice 22 (.int .i64 (n : Int)) (.int .i64 (n : Int))).run Try.prog w = .ok (.slice (some ⟨w.heap.size, 0, none⟩) n n) (w.alloc (.cells (rows0 n) 26)) :=
  run_make_rows 22 26 Try.underlying22 row_info n (by omega) w
theorem make_ints (n : Nat) (hn : n ≤ 512) (w : World) : (Instr.makeSlice 26 (.int .i64 (n : Int)) (.int .i64 (n : Int))).run Try.prog w = .ok (.slice (some ⟨w.heap.size, 0, none⟩) n n) (w.alloc (.cells (ints (List.replicate n 0)) 3)) :=
  run_make_ints 26 3 Try.underlying26 int_info2 n (by omega) w

/-- What the last region reads. -/
def RegS (bc gc i n : Nat) (w : World) (gi g2 ki k2 k kc d : Nat) (s q : Int) (w' : World) : Prop := w'.cell? ⟨bc, 0, none⟩ = some (.slice (some ⟨gc, 0, none⟩) k kc) ∧ w'.cell? ⟨gc, i, none⟩ = some (.slice (some ⟨gi, 0, none⟩) d ki) ∧
  w'.cell? ⟨w.heap.size, i, none⟩ = some (.slice (some ⟨g2, 0, none⟩) d k2) ∧ w'.cell? ⟨g2, n, none⟩ = some (.int .i64 s) ∧ w'.cell? ⟨w.heap.size + 1, i, none⟩ = some (.int .i64 q)
theorem RegS.set_ {bc gc i n : Nat} {w : World} {gi g2 ki k2 k kc d : Nat} {s q : Int} {w' : World} (h : RegS bc gc i n w gi g2 ki k2 k kc d s q w') (x : Int) (h1 : bc ≠ gi) (h2 : gc ≠ gi) (h3 : gi < w.heap.size) (h4 : gi ≠ g2) :
    RegS bc gc i n w gi g2 ki k2 k kc d s q (w'.setCell ⟨gi, n, none⟩ (.int .i64 x)) := by
  obtain ⟨a1, a2, a3, a4, a5⟩ := h
  exact ⟨by rw [World.cell?_setCell_other _ _ _ _ (fun e => h1 (by injection e with e1; exact e1.symm))]; exact a1,
    by rw [World.cell?_setCell_other _ _ _ _ (fun e => h2 (by injection e with e1; exact e1.symm))]; exact a2,
    by rw [World.cell?_setCell_other _ _ _ _ (fun e => by injection e; omega)]; exact a3,
    by rw [World.cell?_setCell_other _ _ _ _ (fun e => h4 (by injection e))]; exact a4,
    by rw [World.cell?_setCell_other _ _ _ _ (fun e => by injection e; omega)]; exact a5⟩

/-- What stands behind a round. -/
def RoundPost (w : World) (B gc : Nat) (G K : Nat → Nat) (cs l : List (List Int)) (d : Nat) (e : Ending) (w' : World) : Prop :=
  (∃ v, e = .returned v) ∧ Below B w w' ∧ Off w w' cs.length G ∧ Grid w' B gc G K (nextN cs l d)

set_option maxRecDepth 100000 in
set_option maxHeartbeats 8000000 in
theorem round_any (bk bd bl bc gc B d : Nat) (G K : Nat → Nat) (cs l : List (List Int)) (A : Option Addr) (cl kc : Nat) (w : World)
    (h64 : cs.length ≤ 64) (hk1 : 1 ≤ cs.length) (hd1 : 1 ≤ d) (hd64 : d ≤ 64) (hl : l.length ≤ 512) (hcl : CoordAll l d) (hcc : CoordAll cs d)
    (ck : w.cell? ⟨bk, 0, none⟩ = some (.int .i64 (cs.length : Int))) (cd : w.cell? ⟨bd, 0, none⟩ = some (.int .i64 (d : Int))) (cll : w.cell? ⟨bl, 0, none⟩ = some (.slice A l.length cl)) (cc : w.cell? ⟨bc, 0, none⟩ = some (.slice (some ⟨gc, 0, none⟩) cs.length kc))
    (hg : Grid w B gc G K cs) (hm : Mat w A l) (hsep : ∀ i, i < cs.length → bk ≠ G i ∧ bd ≠ G i ∧ bc ≠ G i) :
    Calls Try.prog 61 #[.pointer (some ⟨bk, 0, none⟩), .pointer (some ⟨bd, 0, none⟩), .pointer (some ⟨bl, 0, none⟩), .pointer (some ⟨bc, 0, none⟩)] w (RoundPost w B gc G K cs l d) := by
  have R0 := RoundS.start w cs.length G K
  have m1 := make_rows cs.length (by omega)
  have m2 := make_ints cs.length (by omega)
  have m3 := make_ints d (by omega)
  have p0 : (cs.length : Int) ≤ 64 := by omega
  have p1 : (d : Int) ≤ 64 := by omega
  replace hcl := Lib.hid hcl
  replace hcc := Lib.hid hcc
  replace hsep := Lib.hid hsep
  have ck1 := below_cell (below_alloc1 w (.cells (rows0 cs.length) 26)) ck
  have ck2 := below_cell R0.below ck
  go_enter Try.func61, Try.ntmps61
  go_wp2_with fail
  clear ck1 ck2 m1 m2
  generalize ((w.alloc (Obj.cells (rows0 cs.length) 26)).alloc (Obj.cells (ints (List.replicate cs.length 0)) 3)) = w0 at *
  go_loopw [19] (fun i wr => ∃ (j : Nat) (G2 K2 : Nat → Nat), j ≤ cs.length ∧ i = .int .i64 (j : Int) ∧ RoundS w wr cs.length G2 K2 (List.replicate j (List.replicate d 0)) (List.replicate cs.length 0)) (fun i _ => cs.length - (intOf i).toNat)
  case atStart => exact ⟨0, G, K, Nat.zero_le _, rfl, R0⟩
  case round =>
    clear R0
    obtain ⟨j, G2, K2, hj, rfl, hR⟩ := hrel
    by_cases hlt : j < cs.length
    · have q0 : (0 : Int) ≤ (j : Int) := by omega
      have q1 : (j : Int) < (cs.length : Int) := by omega
      have c1 := below_cell hR.below cd
      have c2 := hR.rest j (by simp) hlt
      have f2 := hR.grid.free j
      have l2 := hR.grid.lt
      have n2 : ¬ w.heap.size = wr.heap.size := by omega
      have hR2 := hR.row d (by simpa using hlt)
      rw [List.length_replicate, ← List.replicate_succ', keepAlloc_set l2] at hR2
      clear ck cd cll cc
      go_wp2_with fail
      exact ⟨⟨j + 1, _, _, by omega, by go_num, hR2⟩, by simp [intOf]; omega⟩
    · obtain rfl : j = cs.length := by omega
      rw [← sumsP_start cs l d, ← manyL_start cs l] at hR
      have c1 := below_cell hR.below cll
      clear m3
      go_wp2_with fail
      clear c1
      go_loopw [30] (fun i wr => ∃ (j : Nat), j ≤ l.length ∧ i = .int .i64 (j : Int) ∧ RoundS w wr cs.length G2 K2 (sumsP cs l d j 0) (manyL cs l j)) (fun i _ => l.length - (intOf i).toNat)
      case atStart => exact ⟨0, Nat.zero_le _, rfl, hR⟩
      case round =>
        clear hR
        obtain ⟨j, hj, rfl, hR⟩ := hrel
        by_cases hlt2 : j < l.length
        · obtain ⟨g2, o2, R2, rc2, hA, hc2, hRw⟩ := hm j hlt2
          have q0 : (0 : Int) ≤ (j : Int) := by omega
          have q1 : (j : Int) < (l.length : Int) := by omega
          have e2 : (mrow l j).length = d := (hcl.out j hlt2).1
          have hN := Lib.hid (near_any (some ⟨gc, 0, none⟩) cs kc R2 (mrow l j) rc2 (by rw [e2]; exact hcc.out.ok hd1 hd64) (by rw [e2]; exact hcl.out.ok hd1 hd64 j hlt2) h64 wr (hg.below hR.below).mat (hRw.below hR.below))
          have hat : (nearN cs (mrow l j)).1 < cs.length := nearN_lt cs _ (by omega)
          have hsN := Lib.hid (manyL_step (l := l) hat)
          have hsS := Lib.hid (fun n (hn : n < d) => sumsP_step (l := l) (d := d) hat hn)
          have hq := manyTo_le cs l (nearN cs (mrow l j)).1 j
          have hnm := nth_manyL (l := l) (j := j) hat
          obtain ⟨D, hD⟩ : ∃ D, (nearN cs (mrow l j)).2 = D := ⟨_, rfl⟩
          rw [hD] at hN
          generalize (nearN cs (mrow l j)).1 = a at *
          generalize manyTo cs l a j = q at *
          clear hD
          have c1 := below_cell hR.below cc
          have c2 := below_cell hR.below hc2
          rw [e2] at c2 hN
          subst hA
          go_wp2_with fail
          with_reducible refine hN.out.mono ?_
          rintro e w3 ⟨rfl, hb⟩
          clear c1 c2 hN
          have S3 := hR.more hb
          have c3 := S3.many.nth a (by rw [manyL_length]; exact hat)
          have f3 := S3.many.frozen a
          rw [hnm] at c3
          have l3 := S3.many.lt
          have n3 : ¬ w.heap.size + 1 = w3.heap.size := by omega
          have a0 : (0 : Int) ≤ (a : Int) := by omega
          have a1 : (a : Int) < (cs.length : Int) := by omega
          have qq : (q : Int) ≤ 512 := by omega
          go_upto_region 12 with fail
          have S4 := (S3.more (below_alloc1 w3 (.cells #[.int .u64 (hiN D : Int), .int .u64 (loN D : Int)] 44))).count a ((q : Int) + 1)
          rw [hsN.out, keepAlloc_set l3] at S4
          generalize ((w3.setCell ⟨w.heap.size + 1, a, none⟩ (.int .i64 ((q : Int) + 1))).alloc (Obj.cells #[.int .u64 (hiN D : Int), .int .u64 (loN D : Int)] 44)) = w4 at *
          have c4 := below_cell S4.below cd
          clear c3 f3 n3 l3 S3 hb hR hsN hq hnm qq
          go_wp2_with fail
          clear c4
          go_loopw [47] (fun i wx => ∃ (n : Nat), n ≤ d ∧ i = .int .i64 (n : Int) ∧ RoundS w wx cs.length G2 K2 (sumsP cs l d j n) (manyL cs l (j + 1))) (fun i _ => d - (intOf i).toNat)
          case atStart => exact ⟨0, Nat.zero_le _, rfl, S4⟩
          case round =>
            clear S4
            obtain ⟨n, hn, rfl, hX⟩ := hrel
            by_cases hlt3 : n < d
            · have r0 : (0 : Int) ≤ (n : Int) := by omega
              have r1 : (n : Int) < (d : Int) := by omega
              obtain ⟨g3, o3, hA3, hc3⟩ := hRw n (by omega)
              have hla : a < (sumsP cs l d j n).length := by rw [sumsP_length]; exact hat
              have hla2 : (mrow (sumsP cs l d j n) a).length = d := mrow_sumsP_length hat
              have t1 := hX.grid.top a hla
              rw [hla2] at t1
              have t2 := hX.grid.row a hla n (by omega)
              rw [nth_sumsP hat hlt3, if_neg (Nat.lt_irrefl _)] at t2
              have t3 := hX.grid.rowFree a hla n
              have t4 := below_cell hX.below hc3
              have hw : Hid (wrap64 (sumTo cs l a n j + nth (mrow l j) n) = sumTo cs l a n j + nth (mrow l j) n) := Lib.hid (wrap_of (by
                have h1 := sum_ok (cs := cs) (c := a) hcl.out hlt3 (i := j) (by omega) hl
                have h2 := sum_ok (cs := cs) (c := a) hcl.out hlt3 (i := j + 1) (by omega) hl
                have h3 := (hcl.out j hlt2).2 n hlt3
                have h4 := sumTo_bound (cs := cs) (c := a) (x := n) (lo := -2147483647) (hi := 2147483647) j (fun i hi => (hcl.out i (by omega)).2 n hlt3)
                have h5 := manyTo_le cs l a j
                unfold SumOk
                omega))
              have hX2 := hX.drew.put hla (by omega : n < (mrow (sumsP cs l d j n) a).length) (sumTo cs l a n j + nth (mrow l j) n)
              rw [hsS.out n hlt3] at hX2
              subst hA3
              generalize sumTo cs l a n j = s at *
              generalize nth (mrow l j) n = v at *
              have hw2 := hw.out
              clear hla hla2 hw
              go_wp2_with fail
              go_region
              go_wp2_with fail
              exact ⟨⟨n + 1, by omega, by go_num, hX2⟩, by simp [intOf]; omega⟩
            · obtain rfl : n = d := by omega
              rw [sumsP_full] at hX
              go_wp2_with fail
              exact ⟨⟨j + 1, by omega, by go_num, hX⟩, by simp [intOf]; omega⟩
        · obtain rfl : j = l.length := by omega
          have T0 : RoundT w wr B gc G K G2 K2 (nextP cs l d 0 0) (sumsP cs l d l.length 0) (manyL cs l l.length) := by
            rw [nextP_start hcc.out]
            exact { below := ⟨hR.below.os, hR.below.tape, hR.below.output, hR.below.size, fun b hb => hR.below.block b (Nat.lt_of_lt_of_le hb (Nat.le_trans hg.lo (Nat.le_of_lt hg.lt)))⟩
                    off := Off.of_below hR.below, grid := hg.below hR.below, sums := hR.grid, many := hR.many, old := fun i hi => (hg.new i hi).2.1 }
          have c1 := below_cell hR.below ck
          go_wp2_with fail
          clear c1 hR
          go_loopw [66] (fun i wr => ∃ (i' : Nat), i' ≤ cs.length ∧ i = .int .i64 (i' : Int) ∧ RoundT w wr B gc G K G2 K2 (nextP cs l d i' 0) (sumsP cs l d l.length 0) (manyL cs l l.length)) (fun i _ => cs.length - (intOf i).toNat)
          case atStart => exact ⟨0, Nat.zero_le _, rfl, T0⟩
          case round =>
            clear T0
            obtain ⟨i, hi, rfl, hT⟩ := hrel
            by_cases hlt3 : i < cs.length
            · have r0 : (0 : Int) ≤ (i : Int) := by omega
              have r1 : (i : Int) < (cs.length : Int) := by omega
              have c1 := hT.off.cell cd (fun x hx => (hsep.out x (by rwa [nextP_length] at hx)).2.1)
              go_wp2_with fail
              clear c1
              go_loopw [70] (fun z wx => ∃ (n : Nat), n ≤ d ∧ z = .int .i64 (n : Int) ∧ RoundT w wx B gc G K G2 K2 (nextP cs l d i n) (sumsP cs l d l.length 0) (manyL cs l l.length)) (fun z _ => d - (intOf z).toNat)
              case atStart => exact ⟨0, Nat.zero_le _, rfl, hT⟩
              case round =>
                clear hT
                obtain ⟨n, hn, rfl, hT⟩ := hrel
                by_cases hlt4 : n < d
                · have r2 : (0 : Int) ≤ (n : Int) := by omega
                  have r3 : (n : Int) < (d : Int) := by omega
                  have c1 := hT.many.nth i (by rw [manyL_length]; exact hlt3)
                  rw [nth_manyL hlt3] at c1
                  by_cases hm0 : manyTo cs l i l.length = 0
                  · have hT2 := hT
                    rw [nextP_none hm0] at hT2
                    rw [hm0] at c1
                    go_wp2_with fail
                    exact ⟨⟨n + 1, by omega, by go_num, hT2⟩, by simp [intOf]; omega⟩
                  · have q1 : (0 : Int) < (manyTo cs l i l.length : Int) := by omega
                    have hla : i < (sumsP cs l d l.length 0).length := by rw [sumsP_length]; exact hlt3
                    have hla2 : (mrow (sumsP cs l d l.length 0) i).length = d := mrow_sumsP_length hlt3
                    have hlb : i < (nextP cs l d i n).length := by rw [nextP_length]; exact hlt3
                    have hlb2 : (mrow (nextP cs l d i n) i).length = d := mrow_nextP_length hlt3
                    have c2 := hT.off.cell cc (fun x hx => (hsep.out x (by rwa [nextP_length] at hx)).2.2)
                    have t1 := hT.grid.top i hlb
                    rw [hlb2] at t1
                    have t2 := hT.grid.row i hlb n (by omega)
                    have t3 := hT.grid.rowFree i hlb n
                    have t4 := hT.sums.top i hla
                    rw [hla2] at t4
                    have t5 := hT.sums.row i hla n (by omega)
                    rw [nth_sums hlt3 hlt4] at t5
                    have hD := Lib.hid (down_any (sumTo cs l i n l.length) (manyTo cs l i l.length : Int) (sum_ok hcl.out hlt4 (Nat.le_refl _) hl) q1)
                    have hT2 := hT.drew.put hlb (by omega : n < (mrow (nextP cs l d i n) i).length) (sumTo cs l i n l.length / (manyTo cs l i l.length : Int))
                    rw [nextP_step hlt3 hlt4 hm0] at hT2
                    have S0 : RegS bc gc i n w (G i) (G2 i) (K i) (K2 i) cs.length kc d (sumTo cs l i n l.length) (manyTo cs l i l.length : Int) wr.drew := ⟨c2, t1, t4, t5, c1⟩
                    have S1 := S0.set_ (gi := G i) (n := n) (sumTo cs l i n l.length / (manyTo cs l i l.length : Int)) (fun e => (hsep.out i hlt3).2.2 e) (fun e => (hT.grid.new i hlb).2.2 e.symm) (by have := hT.old i hlb; omega) (by have := hT.old i hlb; have := (hT.sums.new i hla).1; omega)
                    clear hla hla2 hlb hlb2
                    go_wp2_with fail
                    go_region_held3 (fun w' => w'.cell? ⟨bc, 0, none⟩ = some (.slice (some ⟨gc, 0, none⟩) cs.length kc) ∧ w'.cell? ⟨gc, i, none⟩ = some (.slice (some ⟨G i, 0, none⟩) d (K i)) ∧ w'.cell? ⟨w.heap.size, i, none⟩ = some (.slice (some ⟨G2 i, 0, none⟩) d (K2 i)) ∧ w'.cell? ⟨G2 i, n, none⟩ = some (.int .i64 (sumTo cs l i n l.length)) ∧ w'.cell? ⟨w.heap.size + 1, i, none⟩ = some (.int .i64 (manyTo cs l i l.length : Int)))
                      (first | exact S0 | exact S1) (first | (go_at_call 62; (with_reducible refine (hD.out _).mono ?_); rintro e w2 ⟨rfl, rfl⟩))
                    go_wp2_with fail
                    exact ⟨⟨n + 1, by omega, by go_num, hT2⟩, by simp [intOf]; omega⟩
                · obtain rfl : n = d := by omega
                  rw [nextP_row] at hT
                  go_wp2_with fail
                  exact ⟨⟨i + 1, by omega, by go_num, hT⟩, by simp [intOf]; omega⟩
            · obtain rfl : i = cs.length := by omega
              rw [nextP_full hcc.out] at hT
              go_wp2_with fail
              go_end0
              exact ⟨⟨_, rfl⟩, hT.below, by have h := hT.off; rwa [nextN_length] at h, hT.grid⟩
end Go.Proofs.Ytiamppbgpoffmaa

namespace Go.Proofs.Ytiamppbgpoffmaa
open Go.RowKit
set_option linter.unusedVariables false

def TrainBad (w : World) (f : Int) (e : Ending) (w' : World) : Prop := e = .returned (.tuple #[.slice none 0 0, .int .i64 f]) ∧ Below w.heap.size w w'
/-- The boxes of l and k. -/
def Box2 (w : World) (A : Option Addr) (n cl : Nat) (k : Int) (w' : World) : Prop := Below w.heap.size w w' ∧ Blk w' w.heap.size 22 #[.slice A n cl] ∧ Blk w' (w.heap.size + 1) 3 #[.int .i64 k]
theorem Box2.start (w : World) (A : Option Addr) (n cl : Nat) (k : Int) : Box2 w A n cl k ((w.alloc (.cells #[.slice A n cl] 22)).alloc (.cells #[.int .i64 k] 3)) := by
  have b1 := (Blk.new w 22 #[.slice A n cl]).alloc (.cells #[.int .i64 k] 3)
  have b2 := Blk.new (w.alloc (.cells #[.slice A n cl] 22)) 3 #[.int .i64 k]
  rw [show (w.alloc (.cells #[.slice A n cl] 22)).heap.size = w.heap.size + 1 by simp] at b2
  exact ⟨(below_alloc1 _ _).alloc (by simp) _, b1, b2⟩
theorem Box2.cells {w w' : World} {A : Option Addr} {n cl : Nat} {k : Int} (h : Box2 w A n cl k w') : w'.cell? ⟨w.heap.size, 0, none⟩ = some (.slice A n cl) ∧ w'.cell? ⟨w.heap.size + 1, 0, none⟩ = some (.int .i64 k) := ⟨h.2.1.cell 0, h.2.2.cell 0⟩

theorem train_arg (A : Option Addr) (n cl : Nat) (k r s : Int) (w : World) (h : k < 1 ∨ 64 < k ∨ r < 0 ∨ 20 < r) :
    Calls Try.prog 45 #[.slice A n cl, .int .i64 k, .int .i64 r, .int .u64 s] w (TrainBad w 1) := by
  have B := Box2.start w A n cl k
  by_cases h1 : k < 1
  · clear h
    go_enter Try.func45, Try.ntmps45
    go_wp2_with fail
    go_ret2
    exact ⟨rfl, B.1⟩
  have g1 : 1 ≤ k := by omega
  by_cases h2 : 64 < k
  · clear h h1
    go_enter Try.func45, Try.ntmps45
    go_wp2_with fail
    go_ret2
    exact ⟨rfl, B.1⟩
  have g2 : k ≤ 64 := by omega
  by_cases h3 : r < 0
  · clear h h1 h2
    go_enter Try.func45, Try.ntmps45
    go_wp2_with fail
    go_ret2
    exact ⟨rfl, B.1⟩
  have g3 : 0 ≤ r := by omega
  have h4 : 20 < r := by omega
  clear h h1 h2 h3
  go_enter Try.func45, Try.ntmps45
  go_wp2_with fail
  go_ret2
  exact ⟨rfl, B.1⟩

theorem train_long (A : Option Addr) (n cl : Nat) (k r s : Int) (w : World) (h1 : 1 ≤ k) (h2 : k ≤ 64) (h3 : 0 ≤ r) (h4 : r ≤ 20) (h5 : 512 < n) :
    Calls Try.prog 45 #[.slice A n cl, .int .i64 k, .int .i64 r, .int .u64 s] w (TrainBad w 2) := by
  have B := Box2.start w A n cl k
  have h5' : (512 : Int) < (n : Int) := by omega
  clear h5
  go_enter Try.func45, Try.ntmps45
  go_wp2_with fail
  go_ret2
  exact ⟨rfl, B.1⟩

theorem train_few (A : Option Addr) (n cl : Nat) (k r s : Int) (w : World) (h1 : 1 ≤ k) (h2 : k ≤ 64) (h3 : 0 ≤ r) (h4 : r ≤ 20) (h5 : n ≤ 512) (h6 : (n : Int) < k) :
    Calls Try.prog 45 #[.slice A n cl, .int .i64 k, .int .i64 r, .int .u64 s] w (TrainBad w 60) := by
  have B := Box2.start w A n cl k
  have h5' : (n : Int) ≤ 512 := by omega
  clear h5
  go_enter Try.func45, Try.ntmps45
  go_wp2_with fail
  go_ret2
  exact ⟨rfl, B.1⟩

/-- The boxes of l, k and the dimension. -/
def Box3 (w : World) (A : Option Addr) (n cl : Nat) (k d : Int) (w' : World) : Prop := Below w.heap.size w w' ∧ Blk w' w.heap.size 22 #[.slice A n cl] ∧ Blk w' (w.heap.size + 1) 3 #[.int .i64 k] ∧ Blk w' (w.heap.size + 2) 3 #[.int .i64 d]
theorem Box3.start {w w2 : World} {A : Option Addr} {n cl : Nat} {k : Int} (h : Box2 w A n cl k w2) (hs : w2.heap.size = w.heap.size + 2) (d : Int) : Box3 w A n cl k d (w2.alloc (.cells #[.int .i64 d] 3)) := by
  have b3 := Blk.new w2 3 #[.int .i64 d]
  rw [hs] at b3
  exact ⟨below_chain h.1 (below_alloc1 _ _) h.1.size, h.2.1.alloc _, h.2.2.alloc _, b3⟩
theorem Box3.cells {w w' : World} {A : Option Addr} {n cl : Nat} {k d : Int} (h : Box3 w A n cl k d w') : w'.cell? ⟨w.heap.size, 0, none⟩ = some (.slice A n cl) ∧ w'.cell? ⟨w.heap.size + 1, 0, none⟩ = some (.int .i64 k) ∧ w'.cell? ⟨w.heap.size + 2, 0, none⟩ = some (.int .i64 d) := ⟨h.2.1.cell 0, h.2.2.1.cell 0, h.2.2.2.cell 0⟩

theorem train_vec (A : Option Addr) (l : List (List Int)) (cl : Nat) (k r s : Int) (w : World) (hm : Mat w A l) (h1 : 1 ≤ k) (h2 : k ≤ 64) (h3 : 0 ≤ r) (h4 : r ≤ 20) (h5 : l.length ≤ 512) (h6 : k ≤ (l.length : Int)) (h7 : allE l (mrow l 0).length ≠ 0) :
    Calls Try.prog 45 #[.slice A l.length cl, .int .i64 k, .int .i64 r, .int .u64 s] w (TrainBad w (allE l (mrow l 0).length)) := by
  have B := Box2.start w A l.length cl k
  have hz : ((w.alloc (.cells #[.slice A l.length cl] 22)).alloc (.cells #[.int .i64 k] 3)).heap.size = w.heap.size + 2 := by simp
  have B3 := Box3.start B hz (mrow l 0).length
  obtain ⟨g, o, R, rc, hA, hc, hR⟩ := hm 0 (by omega)
  rw [Nat.add_zero] at hc
  have p1 : (0 : Int) < (l.length : Int) := by omega
  have h5' : (l.length : Int) ≤ 512 := by omega
  have hE := Lib.hid (all_any A l cl (mrow l 0).length h5 _ (hm.below B3.1))
  have hne : (allE l (mrow l 0).length != 0) = true := by simpa using h7
  have d1 := below_cell B.1 hc
  generalize allE l (mrow l 0).length = E at *
  subst hA
  clear h5 h7
  go_enter Try.func45, Try.ntmps45
  go_upto_region 7 with fail
  generalize ((w.alloc (.cells #[.slice (some ⟨g, o, none⟩) l.length cl] 22)).alloc (.cells #[.int .i64 k] 3)) = w2 at *
  obtain ⟨c1, c2⟩ := B.cells
  have c3 := B3.cells.1
  have c4 := B3.cells.2.2
  go_wp2_with fail
  with_reducible refine hE.out.mono ?_
  rintro e w3 ⟨rfl, rfl⟩
  go_wp2_with fail
  go_ret2
  exact ⟨rfl, B3.1⟩
end Go.Proofs.Ytiamppbgpoffmaa

namespace Go.Proofs.Ytiamppbgpoffmaa
open Go.RowKit
set_option linter.unusedVariables false

theorem Box3.grown {w wr w2 : World} {A : Option Addr} {n cl : Nat} {k d : Int} {row : Option Nat} (h : Box3 w A n cl k d wr) (hg : wr.grownBy w2 row) (hr : ∀ b, row = some b → w.heap.size + 3 ≤ b) : Box3 w A n cl k d w2 :=
  ⟨h.1.grown hg h.1.size (fun b hb => by have := hr b hb; omega), h.2.1.grown hg (fun e => by have := hr _ e.symm; omega), h.2.2.1.grown hg (fun e => by have := hr _ e.symm; omega), h.2.2.2.grown hg (fun e => by have := hr _ e.symm; omega)⟩
theorem Box3.more {w wr w2 : World} {A : Option Addr} {n cl : Nat} {k d : Int} (h : Box3 w A n cl k d wr) (hb : Below wr.heap.size wr w2) : Box3 w A n cl k d w2 :=
  ⟨below_chain h.1 hb h.1.size, h.2.1.below hb h.2.1.lt, h.2.2.1.below hb h.2.2.1.lt, h.2.2.2.below hb h.2.2.2.lt⟩
theorem Box3.far {w wr : World} {A : Option Addr} {n cl : Nat} {k d : Int} (h : Box3 w A n cl k d wr) {a : Addr} (ha : w.heap.size + 2 < a.block) (v : Value) : Box3 w A n cl k d (wr.setCell a v) :=
  ⟨h.1.setCell (p := a) (by omega) v, h.2.1.far (by omega) v, h.2.2.1.far (by omega) v, h.2.2.2.far (by omega) v⟩
theorem Box3.lt {w wr : World} {A : Option Addr} {n cl : Nat} {k d : Int} (h : Box3 w A n cl k d wr) : w.heap.size + 2 < wr.heap.size := h.2.2.2.lt

/-- What stands in Train while the first centres are made. -/
structure TrS (w wr : World) (A : Option Addr) (n cl : Nat) (k d : Int) (gp bc gc kk : Nat) (ps : List Int) (G K : Nat → Nat) (M : List (List Int)) : Prop where
  box : Box3 w A n cl k d wr
  places : Blk wr gp 3 (ints ps)
  var : Blk wr bc 22 #[.slice (some ⟨gc, 0, none⟩) kk kk]
  grid : Grid wr w.heap.size gc G K M
  rest : ∀ j, M.length ≤ j → j < kk → wr.cell? ⟨gc, j, none⟩ = some (.slice none 0 0)
  o1 : w.heap.size + 2 < gc
  o2 : gc < bc
  o3 : gp < gc
  sep : ∀ i, i < M.length → bc < G i
section
variable {w wr w2 : World} {A : Option Addr} {n cl : Nat} {k d : Int} {gp bc gc kk : Nat} {ps : List Int} {G K : Nat → Nat} {M : List (List Int)}
theorem TrS.more (h : TrS w wr A n cl k d gp bc gc kk ps G K M) (hb : Below wr.heap.size wr w2) : TrS w w2 A n cl k d gp bc gc kk ps G K M :=
  { box := h.box.more hb, places := h.places.below hb h.places.lt, var := h.var.below hb h.var.lt, grid := h.grid.below hb, rest := fun j h1 h2 => below_cell hb (h.rest j h1 h2), o1 := h.o1, o2 := h.o2, o3 := h.o3, sep := h.sep }
theorem TrS.start (h : Box3 w A n cl k d wr) (hp : Blk wr gp 3 (ints ps)) (G K : Nat → Nat) :
    TrS w ((wr.alloc (.cells (rows0 kk) 26)).alloc (.cells #[.slice (some ⟨wr.heap.size, 0, none⟩) kk kk] 22)) A n cl k d gp (wr.heap.size + 1) wr.heap.size kk ps G K [] := by
  have b1 := (Blk.new wr 26 (rows0 kk)).alloc (.cells #[.slice (some ⟨wr.heap.size, 0, none⟩) kk kk] 22)
  have b2 := Blk.new (wr.alloc (.cells (rows0 kk) 26)) 22 #[.slice (some ⟨wr.heap.size, 0, none⟩) kk kk]
  rw [show (wr.alloc (.cells (rows0 kk) 26)).heap.size = wr.heap.size + 1 by simp] at b2
  exact { box := h.more ((below_alloc1 _ _).alloc (by simp) _), places := (hp.alloc _).alloc _, var := b2, grid := Grid.empty (by have := h.lt; omega) b1.lt b1.frozen, rest := fun j _ hj => by rw [b1.cell j, rows0_at kk j hj]
          o1 := h.lt, o2 := by omega, o3 := hp.lt, sep := fun i hi => by simp at hi }
theorem TrS.row (h : TrS w wr A n cl k d gp bc gc kk ps G K M) (hb : Below wr.heap.size wr w2) {g cap : Nat} {r : List Int} (ho : OwnRow wr.heap.size g r w2) (hk : M.length < kk) :
    TrS w (w2.setCell ⟨gc, M.length, none⟩ (.slice (some ⟨g, 0, none⟩) r.length cap)) A n cl k d gp bc gc kk ps (fun i => if i < M.length then G i else g) (fun i => if i < M.length then K i else cap) (M ++ [r]) := by
  have h1 := h.more hb
  have hvl := h.var.lt
  have hgl := h.grid.lt
  have hlo := ho.lo
  have hne : g ≠ gc := by omega
  have o1 := h.o1
  have o2 := h.o2
  have o3 := h.o3
  refine { box := h1.box.far (by simpa using h.o1) _, places := h1.places.far (by simp; omega) _, var := h1.var.far (by simp; omega) _, grid := ?_, rest := ?_, o1 := h.o1, o2 := h.o2, o3 := h.o3, sep := ?_ }
  · refine (h1.grid.beyond (Nat.le_refl _) _).snoc ?_ ⟨by omega, by simpa [World.setCell] using ho.lt, hne⟩ ?_ ?_ ?_
    · exact World.cell?_setCell_same' _ _ _ (by rw [h1.rest M.length (Nat.le_refl _) hk]; rfl)
    · intro i hi
      have := (h.grid.new i hi).2.1
      omega
    · intro x hx
      rw [World.cell?_setCell_other _ _ _ _ (fun e => hne (by injection e with e1; exact e1.symm))]
      exact ho.cell x hx
    · intro x
      rw [World.frozen?_setCell]
      exact ho.free x
  · intro j h2 h3
    simp only [List.length_append, List.length_cons, List.length_nil] at h2
    rw [World.cell?_setCell_other _ _ _ _ (fun e => by injection e; omega)]
    exact h1.rest j (by omega) h3
  · intro i hi
    split
    · rename_i hlt; exact h.sep i hlt
    · omega
end
theorem startN_succ (l : List (List Int)) (ps : List Int) (i : Nat) : startN l ps (i + 1) = startN l ps i ++ [mrow l (nth ps i).toNat] := by simp [startN, List.range_succ]
/-- What the region reads that makes a centre. -/
def RegC (bc gc kk b0 : Nat) (A : Option Addr) (n cl gp i p g o : Nat) (R : Option Addr) (rl rc : Nat) (w' : World) : Prop :=
  w'.cell? ⟨bc, 0, none⟩ = some (.slice (some ⟨gc, 0, none⟩) kk kk) ∧ w'.cell? ⟨b0, 0, none⟩ = some (.slice A n cl) ∧ w'.cell? ⟨gp, i, none⟩ = some (.int .i64 (p : Int)) ∧ w'.cell? ⟨g, o + p, none⟩ = some (.slice R rl rc)
theorem RegC.more {bc gc kk b0 : Nat} {A : Option Addr} {n cl gp i p g o : Nat} {R : Option Addr} {rl rc : Nat} {w1 w2 : World} (h : RegC bc gc kk b0 A n cl gp i p g o R rl rc w1) (hb : Below w1.heap.size w1 w2) : RegC bc gc kk b0 A n cl gp i p g o R rl rc w2 :=
  ⟨below_cell hb h.1, below_cell hb h.2.1, below_cell hb h.2.2.1, below_cell hb h.2.2.2⟩
theorem RegC.set_ {bc gc kk b0 : Nat} {A : Option Addr} {n cl gp i p g o : Nat} {R : Option Addr} {rl rc : Nat} {w1 : World} (h : RegC bc gc kk b0 A n cl gp i p g o R rl rc w1) (j : Nat) (v : Value) (h1 : bc ≠ gc) (h2 : b0 ≠ gc) (h3 : gp ≠ gc) (h4 : g ≠ gc) :
    RegC bc gc kk b0 A n cl gp i p g o R rl rc (w1.setCell ⟨gc, j, none⟩ v) := by
  obtain ⟨a1, a2, a3, a4⟩ := h
  exact ⟨by rw [World.cell?_setCell_other _ _ _ _ (fun e => h1 (by injection e with e1; exact e1.symm))]; exact a1,
    by rw [World.cell?_setCell_other _ _ _ _ (fun e => h2 (by injection e with e1; exact e1.symm))]; exact a2,
    by rw [World.cell?_setCell_other _ _ _ _ (fun e => h3 (by injection e with e1; exact e1.symm))]; exact a3,
    by rw [World.cell?_setCell_other _ _ _ _ (fun e => h4 (by injection e with e1; exact e1.symm))]; exact a4⟩

/-- What stands behind Train. -/
def TrainGood (w : World) (m : List (List Int)) (e : Ending) (w' : World) : Prop := ∃ gc G K, e = .returned (.tuple #[.slice (some ⟨gc, 0, none⟩) m.length m.length, .int .i64 0]) ∧ Grid w' w.heap.size gc G K m ∧ Below w.heap.size w w'
end Go.Proofs.Ytiamppbgpoffmaa

namespace Go.Proofs.Ytiamppbgpoffmaa
open Go.RowKit
set_option linter.unusedVariables false

/-- What stands between the rounds. -/
structure TrR (w wr : World) (A : Option Addr) (n cl : Nat) (k d : Int) (bc gc kk : Nat) (G K : Nat → Nat) (M : List (List Int)) : Prop where
  box : Box3 w A n cl k d wr
  var : Blk wr bc 22 #[.slice (some ⟨gc, 0, none⟩) kk kk]
  grid : Grid wr w.heap.size gc G K M
  o1 : w.heap.size + 2 < bc
  sep : ∀ i, i < kk → bc < G i
theorem TrR.round {w wr w2 : World} {A : Option Addr} {n cl : Nat} {k d : Int} {bc gc kk : Nat} {G K : Nat → Nat} {M l : List (List Int)} {dd : Nat} (h : TrR w wr A n cl k d bc gc kk G K M) (hl : M.length = kk)
    (hb : Below w.heap.size wr w2) (ho : Off wr w2 M.length G) (hg : Grid w2 w.heap.size gc G K (nextN M l dd)) : TrR w w2 A n cl k d bc gc kk G K (nextN M l dd) := by
  have hs := h.sep
  have h1 := h.o1
  have z := h.box.lt
  rw [hl] at ho
  have e : ∀ b, b ≤ bc → b < wr.heap.size → w2.heap[b]? = wr.heap[b]? := fun b h2 h3 => ho b h3 (fun i hi => by have := hs i hi; omega)
  exact { box := ⟨h.box.1.trans hb, (e _ (by omega) (by omega)).trans h.box.2.1, (e _ (by omega) (by omega)).trans h.box.2.2.1, (e _ (by omega) (by omega)).trans h.box.2.2.2⟩
          var := (e _ (Nat.le_refl _) h.var.lt).trans h.var, grid := hg, o1 := h.o1, sep := h.sep }

set_option maxRecDepth 100000 in
set_option maxHeartbeats 8000000 in
theorem train_ok (A : Option Addr) (l : List (List Int)) (cl : Nat) (k r : Nat) (s : Int) (w : World) (hm : Mat w A l) (h1 : 1 ≤ k) (h2 : k ≤ 64) (h4 : r ≤ 20) (h5 : l.length ≤ 512) (h6 : k ≤ l.length) (h7 : AllOk l (mrow l 0).length l.length) :
    Calls Try.prog 45 #[.slice A l.length cl, .int .i64 (k : Int), .int .i64 (r : Int), .int .u64 s] w (TrainGood w (trainN l k r s)) := by
  have B := Box2.start w A l.length cl (k : Int)
  have hz : ((w.alloc (.cells #[.slice A l.length cl] 22)).alloc (.cells #[.int .i64 (k : Int)] 3)).heap.size = w.heap.size + 2 := by simp
  have B3 := Box3.start B hz (mrow l 0).length
  obtain ⟨g, o, R, rc, hA, hc, hR⟩ := hm 0 (by omega)
  rw [Nat.add_zero] at hc
  have p1 : (0 : Int) < (l.length : Int) := by omega
  have h5' : (l.length : Int) ≤ 512 := by omega
  have k1 : (1 : Int) ≤ (k : Int) := by omega
  have k2 : (k : Int) ≤ 64 := by omega
  have k3 : (k : Int) ≤ (l.length : Int) := by omega
  have r1 : (0 : Int) ≤ (r : Int) := by omega
  have r2 : (r : Int) ≤ 20 := by omega
  have hE := Lib.hid (all_any A l cl (mrow l 0).length h5 _ (hm.below B3.1))
  rw [allE_none _ _ h7] at hE
  have d1 := below_cell B.1 hc
  have hcl := Lib.hid h7.coords
  have hd := vecE_ok (h7 0 (by omega))
  have hd1 : 1 ≤ (mrow l 0).length := by omega
  have hd2 : (mrow l 0).length ≤ 64 := by omega
  unfold trainN
  generalize (mrow l 0).length = d at *
  clear hd h7 hR
  subst hA
  have m1 := make_rows k (by omega)
  go_enter Try.func45, Try.ntmps45
  go_upto_region 7 with fail
  generalize ((w.alloc (.cells #[.slice (some ⟨g, o, none⟩) l.length cl] 22)).alloc (.cells #[.int .i64 (k : Int)] 3)) = w2 at *
  obtain ⟨c1, c2⟩ := B.cells
  have c3 := B3.cells.1
  have c4 := B3.cells.2.2
  go_wp2_with fail
  with_reducible refine hE.out.mono ?_
  rintro e w3 ⟨rfl, rfl⟩
  generalize w2.alloc (Obj.cells #[.int .i64 (d : Int)] 3) = w3 at *
  go_wp2_with fail
  clear c1 c2 c3 c4 d1
  have B4 : Box3 w (some ⟨g, o, none⟩) l.length cl k d w3.drew := B3.more (Below.refl _ _).drew
  have S0 := B4.cells.1
  have z3 := B4.lt
  go_region_held3 (fun w' => w'.cell? ⟨w.heap.size, 0, none⟩ = some (.slice (some ⟨g, o, none⟩) l.length cl)) (first | exact S0 | exact S1 | exact S2)
    (first
    | (go_at_call 59; (with_reducible refine (new_src s _).mono ?_); rintro e x1 ⟨b, rfl, hsb, hbl, hgb⟩; have X1 := B4.grown hgb (fun _ hh => by cases hh); have S1 := X1.cells.1)
    | (go_at_call 60; (with_reducible refine (perm_src b s l.length _ hsb (by omega)).mono ?_); rintro e x2 ⟨gp, rfl, hp, hsb2, hgl, hgp⟩; have X2 := X1.grown hgp (fun b' hh => by cases hh; omega); have S2 := X2.cells.1))
  all_goals
    have hpl : Hid (∀ i, i < l.length → 0 ≤ nth (permOf s l.length).1 i ∧ (nth (permOf s l.length).1 i).toNat < l.length) := Lib.hid (fun i hi => perm_place hi)
    have hlen : (permOf s l.length).1.length = l.length := permOf_length _ _
    have hS := Lib.hid (Within.coords (Within.start hcl.out.within s h6))
    have hsl : (startN l (permOf s l.length).1 k).length = k := startN_length _ _ _
    generalize (permOf s l.length).1 = ps at *
    have c1 := X2.cells.2.1
    have hgw : g < w.heap.size := World.block_lt_of_cell? w _ hc
    have T0 := TrS.start (kk := k) X2 hp (fun _ => 0) (fun _ => 0)
    clear B B3 B4 S0 z3 hsb hbl hgb X1 S1 hsb2 hgl hgp S2 hE hz hc
    go_wp2_with fail
    clear c1 m1
    generalize hgc : x2.heap.size = gc at *
    obtain ⟨bc, hbc⟩ : ∃ bc, gc + 1 = bc := ⟨_, rfl⟩
    rw [hbc] at T0 ⊢
    generalize ((x2.alloc (Obj.cells (rows0 k) 26)).alloc (Obj.cells #[.slice (some ⟨gc, 0, none⟩) k k] 22)) = w4 at *
    go_loopw [63] (fun i wr => ∃ (j : Nat) (G K : Nat → Nat), j ≤ k ∧ i = .int .i64 (j : Int) ∧ TrS w wr (some ⟨g, o, none⟩) l.length cl k d gp bc gc k ps G K (startN l ps j)) (fun i _ => k - (intOf i).toNat)
    case atStart => exact ⟨0, _, _, Nat.zero_le _, rfl, T0⟩
    case round =>
      clear T0 X2 hp
      obtain ⟨j, G, K, hj, rfl, hT⟩ := hrel
      by_cases hlt : j < k
      · obtain ⟨q1, q2⟩ := hpl.out j (by omega)
        have hrow := startN_succ l ps j
        obtain ⟨p, hp⟩ : ∃ p : Nat, nth ps j = (p : Int) := ⟨(nth ps j).toNat, by omega⟩
        rw [hp] at q1 q2
        simp only [hp, Int.toNat_natCast] at q2 hrow
        obtain ⟨g2, o2, R2, rc2, hA2, hc2, hR2⟩ := hm p q2
        simp only [Option.some.injEq, Addr.mk.injEq, and_true] at hA2
        obtain ⟨rfl, rfl⟩ := hA2
        have hrl : (mrow l p).length = d := (hcl.out p q2).1
        obtain ⟨g3, o3, hA3, hc3⟩ := hR2 0 (by omega)
        subst hA3
        have a0 : (0 : Int) ≤ (j : Int) := by omega
        have a1 : (j : Int) < (k : Int) := by omega
        have a2 : (j : Int) < (l.length : Int) := by omega
        have a3 : (p : Int) < (l.length : Int) := by omega
        replace hT := hT.more (Below.refl _ wr).drew
        have hC := Lib.hid (clone_any g3 o3 (mrow l p) rc2 wr.drew (hR2.below hT.box.1) (by omega) (by omega))
        have hml : (startN l ps j).length = j := startN_length _ _ _
        have e1 := hT.places.nth j (by omega)
        rw [hp] at e1
        have S0 : RegC bc gc k w.heap.size (some ⟨g, o, none⟩) l.length cl gp j p g o (some ⟨g3, o3, none⟩) d rc2 wr.drew := ⟨hT.var.cell 0, hT.box.cells.1, e1, by rw [← hrl]; exact below_cell hT.box.1 hc2⟩
        have y1 := hT.rest j (by omega) hlt
        have y2 := hT.grid.free j
        have v1 := hT.o1
        have v2 := hT.o2
        have v3 := hT.o3
        rw [hrl] at hC
        clear e1 hc2 hR2 hc3 hrow
        go_wp2_with fail
        go_region_held3 (fun w' => w'.cell? ⟨bc, 0, none⟩ = some (.slice (some ⟨gc, 0, none⟩) k k) ∧ w'.cell? ⟨w.heap.size, 0, none⟩ = some (.slice (some ⟨g, o, none⟩) l.length cl) ∧ w'.cell? ⟨gp, j, none⟩ = some (.int .i64 (p : Int)) ∧ w'.cell? ⟨g, o + p, none⟩ = some (.slice (some ⟨g3, o3, none⟩) d rc2))
          (first | exact S0 | exact S1 | exact S1.set_ _ _ (by omega) (by omega) (by omega) (by omega))
          (first
          | (go_at_call 42; (with_reducible refine hC.out.mono ?_); rintro e x3 ⟨g4, cap, rfl, hown, hb⟩; have S1 := S0.more hb; have y3 := below_cell hb y1; have y4 := (below_frozen hb hT.grid.lt).trans y2))
        have hT2 := hT.row hb (cap := cap) hown (by omega)
        rw [hml, hrl] at hT2
        have hT3 : TrS w _ (some ⟨g, o, none⟩) l.length cl k d gp bc gc k ps _ _ (startN l ps (j + 1)) := (by rw [startN_succ, hp, Int.toNat_natCast]; exact hT2)
        clear hT2 S0 S1 y1 y2 y3 y4 hb hown
        generalize (x3.setCell ⟨gc, j, none⟩ (Value.slice (some ⟨g4, 0, none⟩) d cap)) = x4 at *
        go_wp2_with fail
        exact ⟨⟨j + 1, _, _, by omega, by go_num, hT3⟩, by simp [intOf]; omega⟩
      · obtain rfl : j = k := by omega
        have hmf : ∀ (fn : Fn) (first cap : Array Value) (w : World), (Instr.makeFunc fn first cap).run Try.prog w = .ok (.func fn first cap) w := fun _ _ _ _ => rfl
        go_wp2_with fail
        have T1 : TrR w wr (some ⟨g, o, none⟩) l.length cl j d bc gc j G K (roundsN l d 0 (startN l ps j)) := { box := hT.box, var := hT.var, grid := hT.grid, o1 := by have := hT.o1; have := hT.o2; omega, sep := fun i hi => hT.sep i (by omega) }
        have hw := Lib.hid (fun q => Within.coords (Within.rounds (r := q) hcl.out.within hS.out.within))
        clear hT hmf
        go_loopw [80] (fun i wr => ∃ (q : Nat), q ≤ r ∧ i = .int .i64 (q : Int) ∧ TrR w wr (some ⟨g, o, none⟩) l.length cl j d bc gc j G K (roundsN l d q (startN l ps j))) (fun i _ => r - (intOf i).toNat)
        case atStart => exact ⟨0, Nat.zero_le _, rfl, T1⟩
        case round =>
          clear T1
          obtain ⟨q, hq, rfl, hT⟩ := hrel
          by_cases hlt2 : q < r
          · have a0 : (0 : Int) ≤ (q : Int) := by omega
            have a1 : (q : Int) < (r : Int) := by omega
            have hml : (roundsN l d q (startN l ps j)).length = j := by rw [roundsN_length]; exact hsl
            have hC := round_any (w.heap.size + 1) (w.heap.size + 2) w.heap.size bc gc w.heap.size d G K (roundsN l d q (startN l ps j)) l (some ⟨g, o, none⟩) cl j wr
              (by omega) (by omega) hd1 hd2 h5 hcl.out (hw.out q) (by rw [hml]; exact hT.box.cells.2.1) hT.box.cells.2.2 hT.box.cells.1 (by rw [hml]; exact hT.var.cell 0) hT.grid (hm.below hT.box.1)
              (fun i hi => by rw [hml] at hi; have := hT.sep i hi; have := hT.o1; omega)
            replace hC := Lib.hid hC
            go_wp2_with fail
            with_reducible refine hC.out.mono ?_
            rintro e x5 ⟨⟨v, rfl⟩, hb, ho, hg⟩
            have hT2 : TrR w x5 (some ⟨g, o, none⟩) l.length cl j d bc gc j G K (roundsN l d (q + 1) (startN l ps j)) := hT.round hml hb ho hg
            clear hT hC hb ho hg
            go_wp2_with fail
            exact ⟨⟨q + 1, by omega, by go_num, hT2⟩, by simp [intOf]; omega⟩
          · obtain rfl : q = r := by omega
            have c1 := hT.var.cell 0
            simp only [List.getElem?_toArray, List.getElem?_cons_zero] at c1
            go_wp2_with fail
            go_ret2
            refine ⟨gc, G, K, by rw [roundsN_length, hsl]; rfl, hT.grid, hT.box.1⟩
end Go.Proofs.Ytiamppbgpoffmaa

namespace Go.Proofs.Ytiamppbgpoffmaa
open Go.RowKit
set_option linter.unusedVariables false

theorem train_bad (A : Option Addr) (l : List (List Int)) (cl : Nat) (k r s : Int) (w : World) (hm : Mat w A l) (h : trainE l k r ≠ 0) :
    Calls Try.prog 45 #[.slice A l.length cl, .int .i64 k, .int .i64 r, .int .u64 s] w (TrainBad w (trainE l k r)) := by
  by_cases h1 : k < 1 ∨ 64 < k ∨ r < 0 ∨ 20 < r
  · rw [trainE, if_pos h1]; exact train_arg A _ cl k r s w h1
  by_cases h2 : 512 < l.length
  · rw [trainE, if_neg h1, if_pos h2]; exact train_long A _ cl k r s w (by omega) (by omega) (by omega) (by omega) h2
  by_cases h3 : (l.length : Int) < k
  · rw [trainE, if_neg h1, if_neg h2, if_pos h3]; exact train_few A _ cl k r s w (by omega) (by omega) (by omega) (by omega) (by omega) h3
  rw [trainE, if_neg h1, if_neg h2, if_neg h3] at h ⊢
  exact train_vec A l cl k r s w hm (by omega) (by omega) (by omega) (by omega) (by omega) (by omega) h
theorem train_good (A : Option Addr) (l : List (List Int)) (cl : Nat) (k r s : Int) (w : World) (hm : Mat w A l) (h : trainE l k r = 0) :
    Calls Try.prog 45 #[.slice A l.length cl, .int .i64 k, .int .i64 r, .int .u64 s] w (TrainGood w (trainN l k.toNat r.toNat s)) := by
  obtain ⟨h1, h2, h3, h4, h5, h6, h7⟩ := trainE_ok h
  have e := train_ok A l cl k.toNat r.toNat s w hm (by omega) (by omega) (by omega) h5 (by omega) h7
  rw [show ((k.toNat : Nat) : Int) = k by omega, show ((r.toNat : Nat) : Int) = r by omega] at e
  exact e

/-! ### Lists of rows that are written out -/
theorem row_new (w : World) (x : Int) : Row (w.alloc (.cells #[.int .i64 x] 3)) (some ⟨w.heap.size, 0, none⟩) [x] := Row.of_blk (l := [x]) (Blk.new w 3 #[.int .i64 x])
theorem mat2 (w : World) (a b : Int) : Mat (((w.alloc (.cells #[.int .i64 a] 3)).alloc (.cells #[.int .i64 b] 3)).alloc (.cells #[.slice (some ⟨w.heap.size, 0, none⟩) 1 1, .slice (some ⟨w.heap.size + 1, 0, none⟩) 1 1] 26)) (some ⟨w.heap.size + 2, 0, none⟩) [[a], [b]] := by
  have r1 := ((row_new w a).below (below_alloc1 _ (.cells #[.int .i64 b] 3))).below (below_alloc1 _ (.cells #[.slice (some ⟨w.heap.size, 0, none⟩) 1 1, .slice (some ⟨w.heap.size + 1, 0, none⟩) 1 1] 26))
  have r2 := (row_new (w.alloc (.cells #[.int .i64 a] 3)) b).below (below_alloc1 _ (.cells #[.slice (some ⟨w.heap.size, 0, none⟩) 1 1, .slice (some ⟨w.heap.size + 1, 0, none⟩) 1 1] 26))
  have b3 := Blk.new ((w.alloc (.cells #[.int .i64 a] 3)).alloc (.cells #[.int .i64 b] 3)) 26 #[.slice (some ⟨w.heap.size, 0, none⟩) 1 1, .slice (some ⟨w.heap.size + 1, 0, none⟩) 1 1]
  rw [show (w.alloc (.cells #[.int .i64 a] 3)).heap.size = w.heap.size + 1 by simp] at r2
  rw [show ((w.alloc (.cells #[.int .i64 a] 3)).alloc (.cells #[.int .i64 b] 3)).heap.size = w.heap.size + 2 by simp] at b3
  intro i hi
  match i, hi with
  | 0, _ => exact ⟨_, 0, _, 1, rfl, b3.cell 0, r1⟩
  | 1, _ => exact ⟨_, 0, _, 1, rfl, b3.cell 1, r2⟩
theorem mat3 (w : World) (a b c : Int) : Mat ((((w.alloc (.cells #[.int .i64 a] 3)).alloc (.cells #[.int .i64 b] 3)).alloc (.cells #[.int .i64 c] 3)).alloc (.cells #[.slice (some ⟨w.heap.size, 0, none⟩) 1 1, .slice (some ⟨w.heap.size + 1, 0, none⟩) 1 1, .slice (some ⟨w.heap.size + 2, 0, none⟩) 1 1] 26)) (some ⟨w.heap.size + 3, 0, none⟩) [[a], [b], [c]] := by
  have r1 := (((row_new w a).below (below_alloc1 _ (.cells #[.int .i64 b] 3))).below (below_alloc1 _ (.cells #[.int .i64 c] 3))).below (below_alloc1 _ (.cells #[.slice (some ⟨w.heap.size, 0, none⟩) 1 1, .slice (some ⟨w.heap.size + 1, 0, none⟩) 1 1, .slice (some ⟨w.heap.size + 2, 0, none⟩) 1 1] 26))
  have r2 := ((row_new (w.alloc (.cells #[.int .i64 a] 3)) b).below (below_alloc1 _ (.cells #[.int .i64 c] 3))).below (below_alloc1 _ (.cells #[.slice (some ⟨w.heap.size, 0, none⟩) 1 1, .slice (some ⟨w.heap.size + 1, 0, none⟩) 1 1, .slice (some ⟨w.heap.size + 2, 0, none⟩) 1 1] 26))
  have r3 := (row_new ((w.alloc (.cells #[.int .i64 a] 3)).alloc (.cells #[.int .i64 b] 3)) c).below (below_alloc1 _ (.cells #[.slice (some ⟨w.heap.size, 0, none⟩) 1 1, .slice (some ⟨w.heap.size + 1, 0, none⟩) 1 1, .slice (some ⟨w.heap.size + 2, 0, none⟩) 1 1] 26))
  have b3 := Blk.new (((w.alloc (.cells #[.int .i64 a] 3)).alloc (.cells #[.int .i64 b] 3)).alloc (.cells #[.int .i64 c] 3)) 26 #[.slice (some ⟨w.heap.size, 0, none⟩) 1 1, .slice (some ⟨w.heap.size + 1, 0, none⟩) 1 1, .slice (some ⟨w.heap.size + 2, 0, none⟩) 1 1]
  rw [show (w.alloc (.cells #[.int .i64 a] 3)).heap.size = w.heap.size + 1 by simp] at r2
  rw [show ((w.alloc (.cells #[.int .i64 a] 3)).alloc (.cells #[.int .i64 b] 3)).heap.size = w.heap.size + 2 by simp] at r3
  rw [show (((w.alloc (.cells #[.int .i64 a] 3)).alloc (.cells #[.int .i64 b] 3)).alloc (.cells #[.int .i64 c] 3)).heap.size = w.heap.size + 3 by simp] at b3
  intro i hi
  match i, hi with
  | 0, _ => exact ⟨_, 0, _, 1, rfl, b3.cell 0, r1⟩
  | 1, _ => exact ⟨_, 0, _, 1, rfl, b3.cell 1, r2⟩
  | 2, _ => exact ⟨_, 0, _, 1, rfl, b3.cell 2, r3⟩

theorem ex_train : trainN [[-3], [0]] 1 1 5 = [[-2]] := by kernel_rfl
theorem ex_trainE : trainE [[-3], [0]] 1 1 = 0 := by kernel_rfl
theorem ex_trainF : trainE [] 1 1 = 60 := by kernel_rfl
theorem ex_nearE : nearE [[0], [10]] [6] = 0 := by kernel_rfl
theorem ex_nearAt : nearAt [[0], [10]] [6] = 1 := by kernel_rfl
theorem ex_nearD : nearD [[0], [10]] [6] = 16 := by kernel_rfl
theorem ex_costE : costE [[0], [10]] [[1], [11], [4]] = 0 := by kernel_rfl
theorem ex_costN : costN [[0], [10]] [[1], [11], [4]] = 18 := by kernel_rfl
end Go.Proofs.Ytiamppbgpoffmaa
