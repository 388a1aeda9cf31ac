/- The contract of the closure that makes a round (kmeans.Train$1): the centres become the next ones, in place. -/
import Derived.Test.YtoglemdooaiddaaKRoundP
import Derived.Deep.CutBlock
namespace Go.Proofs.Ytoglemdooaiddaa
open Go.RowKit
set_option linter.unusedVariables false

def rows0 (n : Nat) : Array Value := madeCells #[.slice none 0 0] n
theorem rows0_at (n i : Nat) (h : i < n) : (rows0 n)[i]? = some (.slice none 0 0) := by
  unfold rows0
  rw [← Array.getElem?_toList, toList_madeCells_one]
  simp [h]
theorem run_make_rows {P : Program} (t e : TypeId) (ht : P.underlying t = some (.slice e)) (hi : (P.info? e).map (fun i => (i.zero, i.size, i.bytes)) = some (some (.slice none 0 0), 1, 24)) (n : Nat) (hn : n ≤ 1000000000000) (w : World) :
    (Instr.makeSlice t (.int .i64 (n : Int)) (.int .i64 (n : Int))).run P w = .ok (.slice (some ⟨w.heap.size, 0, none⟩) n n) (w.alloc (.cells (rows0 n) e)) := by
  obtain ⟨i0, h0, hz⟩ := Option.map_eq_some_iff.1 hi
  simp only [Prod.mk.injEq] at hz
  obtain ⟨hz0, hz1, hz2⟩ := hz
  have h := run_make (P := P) w t e i0 _ ht h0 hz0 .i64 .i64 (n : Int) (n : Int) (by omega) (Int.le_refl _) (by rw [hz2]; omega) (by omega)
  rw [h, hz1, Nat.mul_one, Int.toNat_natCast]
  rfl

/-- What a round's first loops make: the sums' rows, the counts. -/
structure RoundS (w wr : World) (k : Nat) (G K : Nat → Nat) (M : List (List Int)) (N : List Int) : Prop where
  below : Below w.heap.size w wr
  grid : Grid wr w.heap.size w.heap.size G K M
  many : Blk wr (w.heap.size + 1) 3 (ints N)
  sep : ∀ i, i < M.length → w.heap.size + 1 < G i
  rest : ∀ j, M.length ≤ j → j < k → wr.cell? ⟨w.heap.size, j, none⟩ = some (.slice none 0 0)
section
variable {w wr w2 : World} {k : Nat} {G K : Nat → Nat} {M : List (List Int)} {N : List Int}
theorem RoundS.more (h : RoundS w wr k G K M N) (hb : Below wr.heap.size wr w2) : RoundS w w2 k G K M N :=
  { below := below_chain h.below hb h.below.size, grid := h.grid.below hb, many := h.many.below hb h.many.lt, sep := h.sep, rest := fun j h1 h2 => below_cell hb (h.rest j h1 h2) }
theorem RoundS.drew (h : RoundS w wr k G K M N) : RoundS w wr.drew k G K M N := h.more (Below.refl _ _).drew
theorem RoundS.start (w : World) (k : Nat) (G K : Nat → Nat) : RoundS w ((w.alloc (.cells (rows0 k) 30)).alloc (.cells (ints (List.replicate k 0)) 3)) k G K [] (List.replicate k 0) := by
  have b1 := (Blk.new w 30 (rows0 k)).alloc (.cells (ints (List.replicate k 0)) 3)
  have b2 := Blk.new (w.alloc (.cells (rows0 k) 30)) 3 (ints (List.replicate k 0))
  rw [show (w.alloc (.cells (rows0 k) 30)).heap.size = w.heap.size + 1 by simp] at b2
  exact { below := (below_alloc1 _ _).alloc (by simp) _, grid := Grid.empty (Nat.le_refl _) b1.lt b1.frozen, many := b2, sep := fun i hi => by simp at hi, rest := fun j _ hj => by rw [b1.cell j, rows0_at k j hj] }
theorem RoundS.row (h : RoundS w wr k G K M N) (d : Nat) (hk : M.length < k) :
    RoundS w ((wr.alloc (.cells (ints (List.replicate d 0)) 3)).setCell ⟨w.heap.size, M.length, none⟩ (.slice (some ⟨wr.heap.size, 0, none⟩) d d)) k
      (fun i => if i < M.length then G i else wr.heap.size) (fun i => if i < M.length then K i else d) (M ++ [List.replicate d 0]) N := by
  have h1 := h.more (below_alloc1 wr (.cells (ints (List.replicate d 0)) 3))
  have b1 := Blk.new wr 3 (ints (List.replicate d 0))
  have hz := h.many.lt
  have hne : wr.heap.size ≠ w.heap.size := by omega
  have hsz : ((wr.alloc (.cells (ints (List.replicate d 0)) 3)).setCell ⟨w.heap.size, M.length, none⟩ (.slice (some ⟨wr.heap.size, 0, none⟩) d d)).heap.size = wr.heap.size + 1 := by simp [World.setCell]
  have b2 := b1.far (p := ⟨w.heap.size, M.length, none⟩) hne (.slice (some ⟨wr.heap.size, 0, none⟩) d d)
  refine { below := h1.below.setCell (Nat.le_refl _) _, grid := ?_, many := h1.many.far (by simp) _, sep := ?_, rest := ?_ }
  · refine (h1.grid.beyond (Nat.le_refl _) _).snoc ?_ ⟨by omega, by rw [hsz]; omega, hne⟩ ?_ ?_ ?_
    · rw [World.cell?_setCell_same' _ _ _ (by rw [h1.rest M.length (Nat.le_refl _) hk]; rfl)]
      simp
    · intro i hi
      have := (h.grid.new i hi).2.1
      omega
    · intro x hx
      rw [b2.nth x hx]
    · exact fun x => b2.frozen x
  · intro i hi
    split
    · rename_i hlt; exact h.sep i hlt
    · omega
  · intro j h2 h3
    simp only [List.length_append, List.length_cons, List.length_nil] at h2
    rw [World.cell?_setCell_other _ _ _ _ (fun e => by injection e; omega)]
    exact h1.rest j (by omega) h3
theorem RoundS.count (h : RoundS w wr k G K M N) (i : Nat) (x : Int) : RoundS w (wr.setCell ⟨w.heap.size + 1, i, none⟩ (.int .i64 x)) k G K M (N.set i x) :=
  { below := h.below.setCell (p := ⟨w.heap.size + 1, i, none⟩) (by simp) _, grid := h.grid.far (by simp) (fun j hj => by have := h.sep j hj; simp; omega) _, many := h.many.setInt i x, sep := h.sep,
    rest := fun j h1 h2 => by rw [World.cell?_setCell_other _ _ _ _ (fun e => by injection e; omega)]; exact h.rest j h1 h2 }
theorem RoundS.put (h : RoundS w wr k G K M N) {i x : Nat} (hi : i < M.length) (hx : x < (mrow M i).length) (v : Int) : RoundS w (wr.setCell ⟨G i, x, none⟩ (.int .i64 v)) k G K (put2 M i x v) N :=
  { below := h.below.setCell (p := ⟨G i, x, none⟩) (h.grid.new i hi).1 _, grid := h.grid.store hi hx v, many := h.many.far (by have := h.sep i hi; simp; omega) _, sep := fun j hj => h.sep j (by rwa [put2_length] at hj),
    rest := fun j h1 h2 => by rw [put2_length] at h1; rw [World.cell?_setCell_other _ _ _ _ (fun e => (h.grid.new i hi).2.2 (by injection e))]; exact h.rest j h1 h2 }
end
/-- Of the old blocks only the centres' rows have turned. -/
def Off (w w' : World) (n : Nat) (G : Nat → Nat) : Prop := ∀ b, b < w.heap.size → (∀ i, i < n → b ≠ G i) → w'.heap[b]? = w.heap[b]?
theorem Off.of_below {w w' : World} {n : Nat} {G : Nat → Nat} (h : Below w.heap.size w w') : Off w w' n G := fun b hb _ => h.block b hb
theorem Off.cell {w w' : World} {n : Nat} {G : Nat → Nat} (h : Off w w' n G) {a : Addr} {v : Value} (hv : w.cell? a = some v) (hg : ∀ i, i < n → a.block ≠ G i) : w'.cell? a = some v :=
  (World.cell?_of_block (h a.block (World.block_lt_of_cell? w a hv) hg)).trans hv
theorem Off.set_ {w w' : World} {n : Nat} {G : Nat → Nat} (h : Off w w' n G) {i x : Nat} (hi : i < n) (v : Value) : Off w (w'.setCell ⟨G i, x, none⟩ v) n G := fun b hb hg =>
  (Below.heap_setCell w' _ v b (hg i hi)).trans (h b hb hg)
theorem Off.drew {w w' : World} {n : Nat} {G : Nat → Nat} (h : Off w w' n G) : Off w w'.drew n G := h
structure RoundT (w wr : World) (B gc : Nat) (G K G2 K2 : Nat → Nat) (cs M : List (List Int)) (N : List Int) : Prop where
  below : Below B w wr
  off : Off w wr cs.length G
  grid : Grid wr B gc G K cs
  sums : Grid wr w.heap.size w.heap.size G2 K2 M
  many : Blk wr (w.heap.size + 1) 3 (ints N)
  old : ∀ i, i < cs.length → G i < w.heap.size
theorem RoundT.put {w wr : World} {B gc : Nat} {G K G2 K2 : Nat → Nat} {cs M : List (List Int)} {N : List Int} (h : RoundT w wr B gc G K G2 K2 cs M N) {i x : Nat} (hi : i < cs.length) (hx : x < (mrow cs i).length) (v : Int) :
    RoundT w (wr.setCell ⟨G i, x, none⟩ (.int .i64 v)) B gc G K G2 K2 (put2 cs i x v) M N := by
  have ho := h.old i hi
  exact { below := h.below.setCell (p := ⟨G i, x, none⟩) (h.grid.new i hi).1 _, off := by rw [put2_length]; exact h.off.set_ hi _, grid := h.grid.store hi hx v
          sums := h.sums.far (by simp; omega) (fun j hj => by have := (h.sums.new j hj).1; simp; omega) _, many := h.many.far (by simp; omega) _, old := fun j hj => h.old j (by rwa [put2_length] at hj) }
theorem RoundT.drew {w wr : World} {B gc : Nat} {G K G2 K2 : Nat → Nat} {cs M : List (List Int)} {N : List Int} (h : RoundT w wr B gc G K G2 K2 cs M N) : RoundT w wr.drew B gc G K G2 K2 cs M N :=
  { below := h.below.drew, off := h.off, grid := h.grid.below (Below.refl _ _).drew, sums := h.sums.below (Below.refl _ _).drew, many := h.many, old := h.old }
end Go.Proofs.Ytoglemdooaiddaa
