/- The contracts of theodolitelaw06's lend and back. -/
import Derived.Test.YtoglemdooaiddaaKRoundW
import Derived.Test.YtoglemdooaiddaaKBig
import Derived.Test.YtoglemdooaiddaaKeep
import Derived.Deep.RegionHeld3
namespace Go.Proofs.Ytoglemdooaiddaa
open Go.RowKit
set_option linter.unusedVariables false

/-- What stands while vectors are lent: k rows. -/
structure LendS (w wr : World) (l : List (List Int)) (k : Nat) (G : Nat → Nat) : Prop where
  below : Below w.heap.size w wr
  lt : w.heap.size < wr.heap.size
  top : ∀ i, i < k → wr.cell? ⟨w.heap.size, i, none⟩ = some (.slice (some ⟨G i, 0, none⟩) (mrow l i).length ((mrow l i).length + 1))
  rest : ∀ i, k ≤ i → i ≤ l.length → wr.cell? ⟨w.heap.size, i, none⟩ = some (.slice none 0 0)
  free : ∀ i, wr.frozen? ⟨w.heap.size, i, none⟩ = false
  rows : ∀ i, i < k → Blk wr (G i) 3 (ints (mrow l i ++ [-77]))
  new : ∀ i, i < k → w.heap.size < G i
  inj : ∀ i j, i < k → j < k → G i = G j → i = j
theorem LendS.start (w : World) (l : List (List Int)) (G : Nat → Nat) : LendS w (w.alloc (.cells (rows0 (l.length + 1)) 30)) l 0 G := by
  have b := Blk.new w 30 (rows0 (l.length + 1))
  exact { below := below_alloc1 _ _, lt := b.lt, top := fun i hi => by omega, rest := fun i _ h => by rw [b.cell i, rows0_at _ _ (by omega)], free := b.frozen, rows := fun i hi => by omega, new := fun i hi => by omega, inj := fun i j hi => by omega }
theorem LendS.more {w wr w2 : World} {l : List (List Int)} {k : Nat} {G : Nat → Nat} (h : LendS w wr l k G) (hb : Below wr.heap.size wr w2) : LendS w w2 l k G :=
  { below := below_chain h.below hb h.below.size, lt := Nat.lt_of_lt_of_le h.lt hb.size, top := fun i hi => below_cell hb (h.top i hi), rest := fun i h1 h2 => below_cell hb (h.rest i h1 h2), free := fun i => (below_frozen hb h.lt).trans (h.free i)
    rows := fun i hi => (h.rows i hi).below hb (h.rows i hi).lt, new := h.new, inj := h.inj }
theorem LendS.row {w wr w2 : World} {l : List (List Int)} {k : Nat} {G : Nat → Nat} (h : LendS w wr l k G) (hb : Below wr.heap.size wr w2) (hk : k < l.length) (hr : Blk w2 wr.heap.size 3 (ints (mrow l k ++ [-77]))) :
    LendS w (w2.setCell ⟨w.heap.size, k, none⟩ (.slice (some ⟨wr.heap.size, 0, none⟩) (mrow l k).length ((mrow l k).length + 1))) l (k + 1) (fun i => if i < k then G i else wr.heap.size) := by
  have h2 := h.more hb
  have hlt := h.lt
  refine { below := h2.below.setCell (p := ⟨w.heap.size, k, none⟩) (Nat.le_refl _) _, lt := by simpa [World.setCell] using h2.lt, top := fun i hi => ?_, rest := fun i h3 h4 => ?_, free := fun i => by rw [World.frozen?_setCell]; exact h2.free i, rows := fun i hi => ?_, new := fun i hi => ?_, inj := fun i j hi hj he => ?_ }
  · by_cases e : i = k
    · subst e
      rw [if_neg (Nat.lt_irrefl _)]
      exact World.cell?_setCell_same' _ _ _ (by rw [h2.rest i (Nat.le_refl _) (by omega)]; rfl)
    · rw [if_pos (by omega), World.cell?_setCell_other _ _ _ _ (fun e2 => e (by injection e2 with _ e3; exact e3.symm))]
      exact h2.top i (by omega)
  · rw [World.cell?_setCell_other _ _ _ _ (fun e2 => by injection e2; omega)]
    exact h2.rest i (by omega) h4
  · by_cases e : i = k
    · subst e
      rw [if_neg (Nat.lt_irrefl _)]
      exact hr.far (by simp; omega) _
    · rw [if_pos (by omega)]
      have := h.new i (by omega)
      exact (h2.rows i (by omega)).far (by simp; omega) _
  · split
    · rename_i h3; exact h.new i h3
    · exact hlt
  · by_cases e1 : i < k <;> by_cases e2 : j < k
    · rw [if_pos e1, if_pos e2] at he; exact h.inj i j e1 e2 he
    · rw [if_pos e1, if_neg e2] at he; have := (h.rows i e1).lt; omega
    · rw [if_neg e1, if_pos e2] at he; have := (h.rows j e2).lt; omega
    · omega
/-- Vectors that are lent: the mark in block gm. -/
structure Lent (w wr : World) (l : List (List Int)) (G : Nat → Nat) (gm : Nat) : Prop where
  below : Below w.heap.size w wr
  top : ∀ i, i < l.length → wr.cell? ⟨w.heap.size, i, none⟩ = some (.slice (some ⟨G i, 0, none⟩) (mrow l i).length ((mrow l i).length + 1))
  mark : wr.cell? ⟨w.heap.size, l.length, none⟩ = some (.slice (some ⟨gm, 0, none⟩) 1 1)
  markRow : Blk wr gm 3 (ints [-77])
  rows : ∀ i, i < l.length → Blk wr (G i) 3 (ints (mrow l i ++ [-77]))
  new : ∀ i, i < l.length → w.heap.size < G i
  inj : ∀ i j, i < l.length → j < l.length → G i = G j → i = j
  far : ∀ i, i < l.length → G i ≠ gm
theorem Lent.more {w wr w2 : World} {l : List (List Int)} {G : Nat → Nat} {gm : Nat} (h : Lent w wr l G gm) (hb : Below wr.heap.size wr w2) : Lent w w2 l G gm :=
  { below := below_chain h.below hb h.below.size, top := fun i hi => below_cell hb (h.top i hi), mark := below_cell hb h.mark, markRow := h.markRow.below hb h.markRow.lt
    rows := fun i hi => (h.rows i hi).below hb (h.rows i hi).lt, new := h.new, inj := h.inj, far := h.far }
theorem Lent.mat {w wr : World} {l : List (List Int)} {G : Nat → Nat} {gm : Nat} (h : Lent w wr l G gm) : Mat wr (some ⟨w.heap.size, 0, none⟩) l := fun i hi =>
  ⟨w.heap.size, 0, _, _, rfl, by rw [Nat.zero_add]; exact h.top i hi, row_part (h.rows i hi)⟩
def LendPost (w : World) (l : List (List Int)) (e : Ending) (w' : World) : Prop := ∃ G gm, e = .returned (.slice (some ⟨w.heap.size, 0, none⟩) l.length (l.length + 1)) ∧ Lent w w' l G gm
theorem LendS.done {w wr : World} {l : List (List Int)} {G : Nat → Nat} (h : LendS w wr l l.length G) :
    Lent w ((wr.setCell ⟨w.heap.size, l.length, none⟩ (.slice (some ⟨wr.heap.size, 0, none⟩) 1 1)).alloc (.cells #[.int .i64 (-77)] 3)) l G wr.heap.size := by
  have hsz : (wr.setCell ⟨w.heap.size, l.length, none⟩ (.slice (some ⟨wr.heap.size, 0, none⟩) 1 1)).heap.size = wr.heap.size := by simp [World.setCell]
  have hlt := h.lt
  have b := Blk.new (wr.setCell ⟨w.heap.size, l.length, none⟩ (.slice (some ⟨wr.heap.size, 0, none⟩) 1 1)) 3 #[.int .i64 (-77)]
  rw [hsz] at b
  have hb := below_alloc1 (wr.setCell ⟨w.heap.size, l.length, none⟩ (.slice (some ⟨wr.heap.size, 0, none⟩) 1 1)) (.cells #[.int .i64 (-77)] 3)
  exact { below := below_chain (h.below.setCell (p := ⟨w.heap.size, l.length, none⟩) (Nat.le_refl _) _) hb (by rw [hsz]; exact h.below.size)
          top := fun i hi => below_cell hb (by rw [World.cell?_setCell_other _ _ _ _ (fun e2 => by injection e2; omega)]; exact h.top i hi)
          mark := below_cell hb (World.cell?_setCell_same' _ _ _ (by rw [h.rest l.length (Nat.le_refl _) (Nat.le_refl _)]; rfl))
          markRow := b
          rows := fun i hi => by have := h.new i hi; exact ((h.rows i hi).far (by simp; omega) _).alloc _
          new := h.new, inj := h.inj, far := fun i hi e => by have := (h.rows i hi).lt; omega }

set_option maxRecDepth 100000 in
set_option maxHeartbeats 4000000 in
theorem lends_any (L : Option Addr) (l : List (List Int)) (cl : Nat) (w : World) (hl : Mat w L l) (hs : Short l) :
    Calls Try.prog 9 #[.slice L l.length cl] w (LendPost w l) := by
  have S0 := LendS.start w l (fun _ => 0)
  have hm := run_make_rows (P := Try.prog) 22 30 Try.underlying22 row_info (l.length + 1) (by have := hs.1; omega) w
  rw [Int.natCast_add, show ((1 : Nat) : Int) = 1 from rfl] at hm
  have hw1 : wrap64 ((l.length : Int) + 1) = (l.length : Int) + 1 := by have := hs.1; simp only [wrap64]; omega
  have hp1 : (0 : Int) ≤ (l.length : Int) := by omega
  replace hs := Lib.hid hs
  go_enter Try.func9, Try.ntmps9
  go_upto_region 2 with fail
  clear hm hw1
  generalize w.alloc (.cells (rows0 (l.length + 1)) 30) = w0 at *
  go_wp2_with fail
  go_loopw [4] (fun i wr => ∃ (k : Nat) (G : Nat → Nat), k ≤ l.length ∧ i = .int .i64 (k : Int) ∧ LendS w wr l k G) (fun i _ => l.length - (intOf i).toNat)
  case atStart => exact ⟨0, _, Nat.zero_le _, rfl, S0⟩
  case round =>
    clear S0
    obtain ⟨k, G, hk, rfl, hS⟩ := hrel
    by_cases hlt : k < l.length
    · obtain ⟨g, o, R, rc, rfl, hc1, hR⟩ := hl k hlt
      have p0 : (0 : Int) ≤ (k : Int) := by omega
      have p1 : (k : Int) < (l.length : Int) := by omega
      have p2 : (k : Int) < (l.length : Int) + 1 := by omega
      have hwk : wrap64 ((k : Int) + 1) = ((k + 1 : Nat) : Int) := by have := hs.out.1; simp only [wrap64]; omega
      obtain ⟨k2, hk2⟩ : ∃ k2, k + 1 = k2 := ⟨_, rfl⟩
      rw [hk2] at hwk
      have c1 := below_cell hS.below hc1
      have hL := Lib.hid (lend_any R (mrow l k) rc wr (hR.below hS.below) (hs.out.2 k hlt))
      go_wp2_with fail
      with_reducible refine hL.out.mono ?_
      rintro e w3 ⟨rfl, hb3, hB3⟩
      have S3 := hS.row hB3 hlt hb3
      rw [hk2] at S3
      have h2 := hS.more hB3
      have c2 := h2.rest k (Nat.le_refl _) hk
      have c3 := h2.free k
      clear c1 hL hb3 hB3 h2 hS
      go_wp2_with fail
      rw [hwk]
      exact ⟨⟨k2, _, by omega, rfl, S3⟩, by simp [intOf]; omega⟩
    · obtain rfl : k = l.length := by omega
      have c2 := hS.rest l.length (Nat.le_refl _) (Nat.le_refl _)
      have c3 := hS.free l.length
      have S3 := hS.done
      have l3 := hS.lt
      have n3 : ¬ w.heap.size = wr.heap.size := by omega
      have p2 : (l.length : Int) < (l.length : Int) + 1 := by omega
      have p3 : (l.length : Int) ≤ (l.length : Int) + 1 := by omega
      clear hS
      go_wp2_with fail
      go_ret
      exact ⟨G, _, rfl, S3⟩

/-- What stands in back: the rows from j on are as they were lent. -/
structure BackI (w0 w wr : World) (l : List (List Int)) (G : Nat → Nat) (j : Nat) : Prop where
  below : Below w0.heap.size w wr
  off : Off w wr l.length G
  rows : ∀ i, j ≤ i → i < l.length → Blk wr (G i) 3 (ints (mrow l i ++ [-77]))
theorem BackI.step {w0 w wr w2 : World} {l : List (List Int)} {G : Nat → Nat} {j : Nat} (h : BackI w0 w wr l G j) (hj : j < l.length) (hg : wr.grownBy w2 (some (G j))) (hG : w0.heap.size < G j) (h0 : w0.heap.size ≤ w.heap.size) (hwr : w.heap.size ≤ wr.heap.size) (hinj : ∀ a b, a < l.length → b < l.length → G a = G b → a = b) : BackI w0 w w2 l G (j + 1) :=
  { below := h.below.grown hg (by omega) (fun k hk => by cases hk; omega)
    off := fun b hb hn => (hg.block b (by omega) (fun e => hn j hj (by injection e))).trans (h.off b hb hn)
    rows := fun i h1 h2 => (h.rows i (by omega) h2).grown hg (fun e => by
      have := hinj i j h2 hj (by injection e)
      omega) }
theorem BackI.drew {w0 w wr : World} {l : List (List Int)} {G : Nat → Nat} {j : Nat} (h : BackI w0 w wr l G j) : BackI w0 w wr.drew l G j := { below := h.below.drew, off := h.off, rows := h.rows }
def BackPost2 (w0 w : World) (l : List (List Int)) (G : Nat → Nat) (e : Ending) (w' : World) : Prop := e = .returned (.bool true) ∧ Below w0.heap.size w w' ∧ Off w w' l.length G

set_option maxRecDepth 100000 in
set_option maxHeartbeats 4000000 in
theorem backs_any (w0 : World) (L : Option Addr) (l : List (List Int)) (cl : Nat) (G : Nat → Nat) (gm : Nat) (w : World) (hx : Lent w0 w l G gm) (hl0 : Mat w0 L l) (hs : Short l) :
    Calls Try.prog 11 #[.slice (some ⟨w0.heap.size, 0, none⟩) l.length (l.length + 1), .slice L l.length cl] w (BackPost2 w0 w l G) := by
  have hl : Mat w L l := hl0.below hx.below
  have h0 := hx.below.size
  have I0 : BackI w0 w w l G 0 := { below := ⟨rfl, rfl, rfl, Nat.le_refl _, fun _ _ => rfl⟩, off := fun b _ _ => rfl, rows := fun i _ h => hx.rows i h }
  have hw1 : wrap64 ((l.length : Int) + 1) = (l.length : Int) + 1 := by have := hs.1; simp only [wrap64]; omega
  have hp1 : (0 : Int) ≤ (l.length : Int) := by omega
  have hp2 : (0 : Int) ≤ (l.length : Int) + 1 := by omega
  have hp3 : (l.length : Int) < (l.length : Int) + 1 := by omega
  have c1 := hx.mark
  have c2 : w.cell? ⟨gm, 0, none⟩ = some (.int .i64 (-77)) := hx.markRow.cell 0
  replace hs := Lib.hid hs
  go_enter Try.func11, Try.ntmps11
  go_wp2_with fail
  clear hw1 hp2 hp3 c1 c2
  go_loopw [6, 7] (fun o i wr => ∃ j : Nat, j ≤ l.length ∧ i = .int .i64 (j : Int) ∧ o = .bool true ∧ BackI w0 w wr l G j ∧ w.heap.size ≤ wr.heap.size) (fun _ i _ => l.length - (intOf i).toNat)
  case atStart => exact ⟨0, Nat.zero_le _, rfl, rfl, I0, Nat.le_refl _⟩
  case round =>
    clear I0
    obtain ⟨j, hj, rfl, rfl, hI, hsz⟩ := hrel
    by_cases hlt : j < l.length
    · obtain ⟨g, o, R, rc, hA, hc1, hR⟩ := hl0 j hlt
      subst hA
      have p0 : (0 : Int) ≤ (j : Int) := by omega
      have p1 : (j : Int) < (l.length : Int) := by omega
      have hwj : wrap64 ((j : Int) + 1) = ((j + 1 : Nat) : Int) := by have := hs.out.1; simp only [wrap64]; omega
      obtain ⟨j2, hj2⟩ : ∃ j2, j + 1 = j2 := ⟨_, rfl⟩
      rw [hj2] at hwj
      have hg0 : g < w0.heap.size := World.block_lt_of_cell? w0 _ hc1
      have hnG : ∀ i, i < l.length → w0.heap.size ≠ G i := fun i hi => by have := hx.new i hi; omega
      have hnL : ∀ i, i < l.length → g ≠ G i := fun i hi => by have := hx.new i hi; omega
      have d1 := hI.off.cell (hx.top j hlt) hnG
      have d2 := hI.off.cell (below_cell hx.below hc1) hnL
      have hRr : Row wr.drew R (mrow l j) := fun x hxl => by
        obtain ⟨b, off, e1, e2⟩ := hR x hxl
        have hb0 : b < w0.heap.size := World.block_lt_of_cell? w0 _ e2
        exact ⟨b, off, e1, hI.off.cell (below_cell hx.below e2) (fun i hi => by have := hx.new i hi; simp; omega)⟩
      have hbb : Blk wr.drew (G j) 3 (ints (mrow l j ++ [-77])) := hI.rows j (Nat.le_refl _) hlt
      have hBk := Lib.hid (back_any (G j) R (mrow l j) rc wr.drew hbb hRr (hs.out.2 j hlt))
      have S0 : wr.drew.cell? ⟨w0.heap.size, j, none⟩ = some (.slice (some ⟨G j, 0, none⟩) (mrow l j).length ((mrow l j).length + 1)) ∧ wr.drew.cell? ⟨g, o + j, none⟩ = some (.slice R (mrow l j).length rc) := ⟨d1, d2⟩
      have hGj := hnG j hlt
      have hGl := hnL j hlt
      clear hRr hbb d1 d2 hnG hnL
      go_wp2_with fail
      go_region_held3 (fun w' => w'.cell? ⟨w0.heap.size, j, none⟩ = some (.slice (some ⟨G j, 0, none⟩) (mrow l j).length ((mrow l j).length + 1)) ∧ w'.cell? ⟨g, o + j, none⟩ = some (.slice R (mrow l j).length rc))
        (first | exact S0 | exact S1)
        (first | (go_at_call 31; (with_reducible refine hBk.out.mono ?_); rintro e x1 ⟨rfl, hgr⟩; have S1 := And.intro ((World.cell?_of_block (hgr.block _ (World.block_lt_of_cell? _ _ S0.1) (fun e => hGj (by injection e)))).trans S0.1) ((World.cell?_of_block (hgr.block _ (World.block_lt_of_cell? _ _ S0.2) (fun e => hGl (by injection e)))).trans S0.2)))
      all_goals
        have hI2 := hI.drew.step hlt hgr (hx.new j hlt) h0 hsz hx.inj
        have hsz2 := Nat.le_trans hsz hgr.size
        rw [hj2] at hI2
        clear S0 S1 hBk hgr hI
        go_wp2_with fail
        rw [hwj]
        exact ⟨⟨j2, by omega, rfl, rfl, hI2, hsz2⟩, by simp [intOf]; omega⟩
    · obtain rfl : j = l.length := by omega
      go_wp2_with fail
      go_ret
      exact ⟨rfl, hI.below, hI.off⟩
end Go.Proofs.Ytoglemdooaiddaa
