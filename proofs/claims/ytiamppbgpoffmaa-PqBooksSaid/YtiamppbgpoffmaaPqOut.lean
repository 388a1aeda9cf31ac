/- A coder that is being made: books in a slice of the call's own. -/
import Derived.Deep.AppendLies
import Derived.Deep.RegionLaw
import Derived.Test.YtiamppbgpoffmaaPqTrainE
namespace Go.Proofs.Ytiamppbgpoffmaa
open Go.RowKit
set_option linter.unusedVariables false

def booksN (l : List (List Int)) (n p codes rounds : Nat) (s : Int) : List (List (List Int)) := (List.range p).map fun i => bookN l n codes rounds s i
theorem booksN_length (l : List (List Int)) (n p codes rounds : Nat) (s : Int) : (booksN l n p codes rounds s).length = p := by simp [booksN]
theorem brow_booksN {l : List (List Int)} {n p codes rounds : Nat} {s : Int} {i : Nat} (h : i < p) : brow (booksN l n p codes rounds s) i = bookN l n codes rounds s i := by simp [brow, booksN, h]

theorem RowP.mono {P Q : Nat → Prop} {w : World} {A : Option Addr} {l : List Int} (h : RowP P w A l) (hq : ∀ b, P b → b < w.heap.size → Q b) : RowP Q w A l := fun j hj => by
  obtain ⟨g, off, h1, h2, h3⟩ := h j hj
  exact ⟨g, off, h1, hq g h2 (World.block_lt_of_cell? w _ h3), h3⟩
theorem MatP.mono {P Q : Nat → Prop} {w : World} {A : Option Addr} {m : List (List Int)} (h : MatP P w A m) (hq : ∀ b, P b → b < w.heap.size → Q b) : MatP Q w A m := fun i hi => by
  obtain ⟨g, off, R, c, h1, h2, h3, h4⟩ := h i hi
  exact ⟨g, off, R, c, h1, hq g h2 (World.block_lt_of_cell? w _ h3), h3, h4.mono hq⟩
theorem Grid.matP {w : World} {B gc : Nat} {G K : Nat → Nat} {m : List (List Int)} (h : Grid w B gc G K m) : MatP (fun b => B ≤ b) w (some ⟨gc, 0, none⟩) m := fun i hi =>
  ⟨gc, 0, _, K i, rfl, h.lo, by rw [Nat.zero_add]; exact h.top i hi, fun x hx => ⟨G i, 0, rfl, (h.new i hi).1, by rw [Nat.zero_add]; exact h.row i hi x hx⟩⟩

/-- A slice of the call's own whose elements are books; none of a book's blocks is its own one, or gp. -/
def OutB (B gp : Nat) (wr : World) (out : Value) (k : Nat) (bs : List (List (List Int))) : Prop :=
  ∃ xs, wr.ownsRow B 22 1 out k xs ∧ ∀ i, i < k → ∃ g c, xs[i]? = some (.slice (some ⟨g, 0, none⟩) (brow bs i).length c) ∧ MatP (fun b => b ≠ gp ∧ out.ownBlock ≠ some b) wr (some ⟨g, 0, none⟩) (brow bs i)
theorem OutB.start (B gp : Nat) (w : World) (bs : List (List (List Int))) : OutB B gp w (.slice none 0 0) 0 bs := ⟨[], World.ownsRow_nil _ _ _ _, fun i hi => by omega⟩
theorem OutB.below {B gp : Nat} {wr w2 : World} {out : Value} {k : Nat} {bs : List (List (List Int))} (h : OutB B gp wr out k bs) (hb : Below wr.heap.size wr w2) : OutB B gp w2 out k bs := by
  obtain ⟨xs, h1, h2⟩ := h
  refine ⟨xs, h1.kept (grown_of_below hb none) (by simp; exact Classical.em _), fun i hi => ?_⟩
  obtain ⟨g, c, e1, e2⟩ := h2 i hi
  exact ⟨g, c, e1, e2.below hb⟩
theorem OutB.set_ {B gp : Nat} {wr : World} {out : Value} {k : Nat} {bs : List (List (List Int))} (h : OutB B gp wr out k bs) (hgp : gp < B) (i : Nat) (v : Value) : OutB B gp (wr.setCell ⟨gp, i, none⟩ v) out k bs := by
  obtain ⟨xs, h1, h2⟩ := h
  refine ⟨xs, h1.kept (grown_set wr ⟨gp, i, none⟩ v) ?_, fun j hj => ?_⟩
  · cases hb : out.ownBlock with
    | none => exact .inl rfl
    | some q =>
      right
      have := (own_lt' h1 q hb).1
      intro e
      injection e with e
      simp only at e
      omega
  · obtain ⟨g, c, e1, e2⟩ := h2 j hj
    exact ⟨g, c, e1, e2.keep fun b hb _ => Below.heap_setCell _ _ _ _ hb.1⟩
theorem OutB.lt {B gp : Nat} {wr : World} {out : Value} {k : Nat} {bs : List (List (List Int))} (h : OutB B gp wr out k bs) : ∀ q, out.ownBlock = some q → B ≤ q ∧ q < wr.heap.size := by
  obtain ⟨xs, h1, _⟩ := h
  exact fun q hq => own_lt' h1 q hq
/-- One more book. -/
theorem OutB.snoc {B gp : Nat} {wr w2 : World} {out v1 : Value} {k : Nat} {bs : List (List (List Int))} {xs : List Value} {g q c z : Nat}
    (hX : ∀ i, i < k → ∃ g c, xs[i]? = some (.slice (some ⟨g, 0, none⟩) (brow bs i).length c) ∧ MatP (fun b => b ≠ gp ∧ out.ownBlock ≠ some b) wr (some ⟨g, 0, none⟩) (brow bs i)) (hxl : xs.length = k)
    (HO1 : w2.ownsRow B 22 1 v1 (k + 1) (xs ++ [.slice (some ⟨g, 0, none⟩) (brow bs k).length c])) (hg : wr.grownBy w2 out.ownBlock) (hv : v1.ownBlock = some q) (hat : out.ownBlock = some q ∨ q = wr.heap.size + 1)
    (hr : MatP (fun b => z ≤ b) wr (some ⟨g, 0, none⟩) (brow bs k)) (hz : gp < z) (hout : ∀ b, out.ownBlock = some b → b < z) : OutB B gp w2 v1 (k + 1) bs := by
  have hgr : ∀ {m : List (List Int)} {g : Nat}, MatP (fun b => b ≠ gp ∧ out.ownBlock ≠ some b) wr (some ⟨g, 0, none⟩) m → MatP (fun b => b ≠ gp ∧ v1.ownBlock ≠ some b) w2 (some ⟨g, 0, none⟩) m := fun {m g} h => by
    have h2 : MatP (fun b => b ≠ gp ∧ v1.ownBlock ≠ some b ∧ out.ownBlock ≠ some b) wr (some ⟨g, 0, none⟩) m := h.mono fun b hb hlt => ⟨hb.1, by
      rw [hv]
      rcases hat with e | e
      · rw [← e]; exact hb.2
      · intro h5; injection h5 with h5; omega, hb.2⟩
    have h3 := h2.keep (w' := w2) fun b hb hlt => hg.block b hlt (fun e => hb.2.2 e.symm)
    exact h3.mono fun b hb _ => ⟨hb.1, hb.2.1⟩
  refine ⟨_, HO1, fun i hi => ?_⟩
  by_cases e : i = k
  · subst e
    exact ⟨g, c, by simp [← hxl], hgr (hr.mono fun b hb _ => ⟨by omega, fun h5 => by have := hout b h5; omega⟩)⟩
  · obtain ⟨g5, c5, e1, e4⟩ := hX i (by omega)
    exact ⟨g5, c5, by rw [List.getElem?_append_left (by omega)]; exact e1, hgr e4⟩
/-- The books are made. -/
theorem OutB.coder {B gp : Nat} {wr : World} {out : Value} {dim : Nat} {bs : List (List (List Int))} (h : OutB B gp wr out bs.length bs) (h0 : 0 < bs.length) (hb : Blk wr gp 64 #[.int .i64 (dim : Int), out]) : CoderAt wr gp dim bs := by
  obtain ⟨xs, h1, h2⟩ := h
  obtain ⟨g, cap, rfl, hg, _⟩ := own_shape h1 h0
  refine ⟨_, cap, hb.cell 0, hb.cell 1, fun i hi => ?_⟩
  obtain ⟨g3, c, e1, e4⟩ := h2 i hi
  have hx : i < xs.length := (List.getElem?_eq_some_iff.1 e1).1
  exact ⟨g, 0, _, c, rfl, by rw [Nat.zero_add, h1.cellAt i (by omega)]; exact e1, e4.mat⟩

/-- 'append(v, y)', y one cell, as one step of a region that draws its order. -/
theorem step_append_one {P : Program} {ops : Array Oper} {o : Oper} {a : Act} {K : Act → World → Prop} {Q : Exit → Act → World → Prop} {E : Prop} {W : World} (base : Nat) (hgd : o.guard = none) (s x : Operand) (t e : TypeId) (z : Value) (bytes : Nat)
    (ho : o.op = .call { callee := .builtin .append, args := #[s, x], argTypes := #[t, t] })
    (ht : P.underlying t = some (.slice e)) (hinfo : (P.info? e).map (fun i => (i.zero, i.size, i.bytes)) = some (some z, 1, bytes)) (hz : z.cells.size = 1) (hb0 : 0 < bytes)
    (v : Value) (n : Nat) (xs : List Value) (y : Value) (hs : a.eval s = v) (hx : a.eval x = .slice (some ⟨W.heap.size, 0, none⟩) 1 1) (h1 : y.oneCell' = true)
    (HO : W.ownsRow base e 1 v n xs) (hbase : base ≤ W.heap.size) (hl : (n + 1) * bytes ≤ 140737488355328)
    (h : ∀ g cap w1, w1.ownsRow base e 1 (.slice (some ⟨g, 0, none⟩) (n + 1) cap) (n + 1) (xs ++ [y]) → W.grownBy w1 v.ownBlock → (v.ownBlock = some g ∨ g = W.heap.size + 1) → K (a.put o.dst (.slice (some ⟨g, 0, none⟩) (n + 1) cap)) w1) :
    if Region.wanted o (yielded ops a.tmps) = true then Oper.wp P o a (W.alloc (.cells #[y] e)) K Q else E := by
  obtain ⟨i0, hi, hzz⟩ := Option.map_eq_some_iff.1 hinfo
  simp only [Prod.mk.injEq] at hzz
  obtain ⟨hz0, hz1, hz2⟩ := hzz
  have hlen : n + 1 ≤ 140737488355328 := Nat.le_trans (Nat.le_mul_of_pos_right _ hb0) hl
  refine step_append_lies (W.alloc (.cells #[y] e)) hgd s x t ho base e i0 z 1 bytes ht hi hz0 hz1 hz2 hz (by omega) v n xs hs (HO.alloc _) ⟨W.heap.size, 0, none⟩ 1 1 [y] hx rfl
    (cell_one_new _ _ _) (by simpa using h1) (by omega) (by simp only [maxLen]; omega) hl (by simp; omega) (W.heap.size + 1) (by simp) ?_
  intro g cap w1 hown hg hat _
  refine h g cap w1 hown ?_ hat
  exact ⟨hg.os, hg.tape, hg.output, Nat.le_trans (by simp) hg.size, fun k hk hne => (hg.block k (by simp; omega) hne).trans (Below.heap_alloc W _ k hk)⟩
end Go.Proofs.Ytiamppbgpoffmaa
