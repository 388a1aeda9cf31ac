/- Words on memory: a block that is known whole; numbers in a row. -/
import Derived.WalkKit
import Derived.KernelRfl
import Derived.Lib.Hide
import Derived.Deep.Draws
namespace Go.Proofs.Ytoglemdooaiddaa
open Go.RowKit

/-- A row of whole numbers as cells. -/
def ints (l : List Int) : Array Value := (l.map fun x => Value.int .i64 x).toArray
theorem ints_size (l : List Int) : (ints l).size = l.length := by simp [ints]
theorem ints_at (l : List Int) (i : Nat) (h : i < l.length) : (ints l)[i]? = some (.int .i64 (l.getD i 0)) := by
  simp [ints, h]
theorem ints_set (l : List Int) (i : Nat) (x : Int) : (ints l).setIfInBounds i (.int .i64 x) = ints (l.set i x) := by
  simp [ints, List.map_set]
theorem ints_made (n : Nat) : madeCells #[.int .i64 0] n = ints (List.replicate n 0) := by
  apply Array.ext'
  rw [toList_madeCells_one]
  simp [ints]

/-- Block g holds just the cells cs, none of them frozen. -/
def Blk (w : World) (g : Nat) (t : TypeId) (cs : Array Value) : Prop := w.heap[g]? = some (.cells cs t (0, 0))
section
variable {w w' : World} {g : Nat} {t : TypeId} {cs : Array Value}
theorem Blk.lt (h : Blk w g t cs) : g < w.heap.size := (Array.getElem?_eq_some_iff.1 h).1
theorem Blk.cell (h : Blk w g t cs) (i : Nat) : w.cell? ⟨g, i, none⟩ = cs[i]? := cell_of_row w g i cs t (0, 0) h
theorem Blk.frozen (h : Blk w g t cs) (i : Nat) : w.frozen? ⟨g, i, none⟩ = false := by
  unfold Blk at h
  simp [World.frozen?, h]
theorem Blk.int (l : List Int) (h : Blk w g t (ints l)) (i : Nat) (hi : i < l.length) : w.cell? ⟨g, i, none⟩ = some (.int .i64 (l.getD i 0)) := (h.cell i).trans (ints_at l i hi)
theorem Blk.new (w : World) (t : TypeId) (cs : Array Value) : Blk (w.alloc (.cells cs t)) w.heap.size t cs := heap_alloc_new w _
theorem Blk.drew (h : Blk w g t cs) : Blk w.drew g t cs := h
theorem Blk.alloc (h : Blk w g t cs) (o : Obj) : Blk (w.alloc o) g t cs := (Below.heap_alloc w o g h.lt).trans h
theorem Blk.set_ (h : Blk w g t cs) (i : Nat) (u : Value) : Blk (w.setCell ⟨g, i, none⟩ u) g t (cs.setIfInBounds i u) := by
  unfold Blk at h ⊢
  simp [World.setCell, Array.getElem?_modify, h]
theorem Blk.setInt {l : List Int} (h : Blk w g t (ints l)) (i : Nat) (x : Int) : Blk (w.setCell ⟨g, i, none⟩ (.int .i64 x)) g t (ints (l.set i x)) := by
  rw [← ints_set]; exact h.set_ i _
theorem Blk.far (h : Blk w g t cs) {p : Addr} (hp : g ≠ p.block) (u : Value) : Blk (w.setCell p u) g t cs := (Below.heap_setCell w p u g hp).trans h
theorem Blk.below {B : Nat} (h : Blk w g t cs) (hb : Below B w w') (hg : g < B) : Blk w' g t cs := (hb.block g hg).trans h
end

theorem run_make_ints {P : Program} (t e : TypeId) (ht : P.underlying t = some (.slice e)) (hi : (P.info? e).map (fun i => (i.zero, i.size, i.bytes)) = some (some (.int .i64 0), 1, 8)) (n : Nat) (hn : n ≤ 1000000000000) (w : World) :
    (Instr.makeSlice t (.int .i64 (n : Int)) (.int .i64 (n : Int))).run P w = .ok (.slice (some ⟨w.heap.size, 0, none⟩) n n) (w.alloc (.cells (ints (List.replicate n 0)) e)) := by
  obtain ⟨i0, h0, hz⟩ := Option.map_eq_some_iff.1 hi
  simp only [Prod.mk.injEq] at hz
  obtain ⟨hz0, hz1, hz2⟩ := hz
  have h := run_make (P := P) w t e i0 _ ht h0 hz0 .i64 .i64 (n : Int) (n : Int) (by omega) (Int.le_refl _) (by rw [hz2]; omega) (by omega)
  rw [h, hz1, Nat.mul_one, Int.toNat_natCast]
  show Result.ok _ (w.alloc (.cells (madeCells #[.int .i64 0] n) e)) = _
  rw [ints_made]

theorem keepAlloc_set {w : World} {g : Nat} {o : Obj} {i : Nat} {u : Value} (h : g < w.heap.size) : (w.alloc o).setCell ⟨g, i, none⟩ u = (w.setCell ⟨g, i, none⟩ u).alloc o := by
  unfold World.alloc World.setCell
  congr 1
  apply Array.ext
  · simp
  · intro j h1 h2
    by_cases hj : j < w.heap.size
    · simp [Array.getElem_modify, Array.getElem_push, hj]
    · have : j ≠ g := by omega
      simp [Array.getElem_modify, Array.getElem_push, hj, Ne.symm this]
theorem newBlk_set {w : World} {cs : Array Value} {t : TypeId} {i : Nat} {u : Value} : (w.alloc (.cells cs t)).setCell ⟨w.heap.size, i, none⟩ u = w.alloc (.cells (cs.setIfInBounds i u) t) := by
  unfold World.alloc World.setCell
  congr 1
  apply Array.ext
  · simp
  · intro j h1 h2
    by_cases hj : j < w.heap.size
    · have : j ≠ w.heap.size := by omega
      simp [Array.getElem_modify, Array.getElem_push, hj, Ne.symm this]
    · have : j = w.heap.size := by simp at h1; omega
      subst this
      simp [Array.getElem_modify, Array.getElem_push]

theorem below_setCell_again {w W : World} {a : Addr} {u v : Value} {B : Nat} (h : Below B (w.setCell a u) W) : Below B (w.setCell a v) (W.setCell a v) := by
  refine ⟨h.os, h.tape, h.output, by simpa [World.setCell] using h.size, fun k hk => ?_⟩
  have h1 := h.block k hk
  by_cases e : k = a.block
  · subst e
    simp only [World.setCell, Array.getElem?_modify] at h1 ⊢
    simp only [if_true] at h1 ⊢
    rw [h1]
    cases w.heap[a.block]? with
    | none => rfl
    | some x =>
      simp only [Option.map_some]
      congr 1
      cases x <;> simp
      by_cases hs : a.spot.isSome = true <;> simp [hs]
  · rw [Below.heap_setCell _ _ _ _ e, h1, Below.heap_setCell _ _ _ _ e, Below.heap_setCell _ _ _ _ e]

/-- To store what is there turns nothing. -/
theorem setCell_id {w : World} {b o : Nat} {v : Value} (h : w.cell? ⟨b, o, none⟩ = some v) : w.setCell ⟨b, o, none⟩ v = w := by
  obtain ⟨heap, tape, drawn, os, output⟩ := w
  unfold World.setCell
  congr 1
  apply Array.ext
  · simp
  · intro j h1 h2
    simp only [Array.getElem_modify]
    split
    · rename_i e
      subst e
      unfold World.cell? at h
      simp only [Array.getElem?_eq_getElem h2] at h
      revert h
      generalize heap[b] = x
      cases x with
      | cells c t f =>
        simp
        intro hc
        obtain ⟨hlt, hcv⟩ := Array.getElem?_eq_some_iff.1 hc
        apply Array.ext
        · simp
        · intro i hi1 hi2
          rw [Array.getElem_setIfInBounds]
          split
          · rename_i e; subst e; exact hcv.symm
          · rfl
      | _ => simp
    · rfl

/-- The number at a place; a word that the walk's simp does not look into. -/
def nth (l : List Int) (i : Nat) : Int := l.getD i 0
theorem Blk.nth {w : World} {g : Nat} {t : TypeId} {l : List Int} (h : Blk w g t (ints l)) (i : Nat) (hi : i < l.length) : w.cell? ⟨g, i, none⟩ = some (.int .i64 (nth l i)) := h.int l i hi
/-- A slice (nil, empty or other) that reads as a list of whole numbers. -/
def Row (w : World) (A : Option Addr) (l : List Int) : Prop := ∀ j, j < l.length → ∃ g off, A = some ⟨g, off, none⟩ ∧ w.cell? ⟨g, off + j, none⟩ = some (.int .i64 (nth l j))
theorem Row.drewN {w : World} {A : Option Addr} {l : List Int} (h : Row w A l) (n : Nat) : Row (w.drewN n) A l := h
theorem Row.of_blk {w : World} {g : Nat} {t : TypeId} {l : List Int} (h : Blk w g t (ints l)) : Row w (some ⟨g, 0, none⟩) l := fun j hj => ⟨g, 0, rfl, by rw [Nat.zero_add]; exact h.nth j hj⟩
theorem Row.nil_ {w : World} {A : Option Addr} : Row w A [] := fun j hj => by simp at hj
/-- A cell that is there reads the same behind new memory. -/
theorem Row.keep {w w' : World} {A : Option Addr} {l : List Int} (h : Row w A l) (hk : ∀ a v, w.cell? a = some v → w'.cell? a = some v) : Row w' A l := fun j hj => by
  obtain ⟨g, off, hA, hc⟩ := h j hj
  exact ⟨g, off, hA, hk _ _ hc⟩
theorem below_cell {w w' : World} (h : Below w.heap.size w w') {a : Addr} {v : Value} (hc : w.cell? a = some v) : w'.cell? a = some v := (h.cell (World.block_lt_of_cell? w a hc)).trans hc
theorem Row.below {w w' : World} {A : Option Addr} {l : List Int} (h : Row w A l) (hb : Below w.heap.size w w') : Row w' A l := h.keep fun _ _ hc => below_cell hb hc
/-- The world is the old one, some orders having been drawn. -/
def Drawn (w w' : World) : Prop := ∃ n, w' = w.drewN n
theorem Drawn.refl (w : World) : Drawn w w := ⟨0, rfl⟩
theorem Drawn.more {w w' : World} (h : Drawn w w') (n : Nat) : Drawn w (w'.drewN n) := by
  obtain ⟨m, rfl⟩ := h
  exact ⟨m + n, World.drewN_drewN ..⟩
theorem Drawn.one {w w' : World} (h : Drawn w w') : Drawn w w'.drew := h.more 1
theorem Drawn.below {w w' : World} (h : Drawn w w') (B : Nat) : Below B w w' := by
  obtain ⟨n, rfl⟩ := h
  exact ⟨rfl, rfl, rfl, Nat.le_refl _, fun _ _ => rfl⟩

theorem Blk.grown {w w' : World} {g : Nat} {t : TypeId} {cs : Array Value} {row : Option Nat} (h : Blk w g t cs) (hb : w.grownBy w' row) (hg : some g ≠ row) : Blk w' g t cs := (hb.block g h.lt hg).trans h
theorem grown_set (w : World) (a : Addr) (u : Value) : w.grownBy (w.setCell a u) (some a.block) := ⟨rfl, rfl, rfl, by simp [World.setCell], fun i _ hne => Below.heap_setCell w a u i (fun e => hne (by rw [e]))⟩
theorem grown_alloc (w : World) (o : Obj) : w.grownBy (w.alloc o) none := ⟨rfl, rfl, rfl, by simp, fun i hi _ => Below.heap_alloc w o i hi⟩
theorem below_of_grown {w0 w w' : World} {row : Option Nat} (h : Below w0.heap.size w0 w) (hg : w.grownBy w' row) (hr : ∀ k, row = some k → w0.heap.size ≤ k) : Below w0.heap.size w0 w' := h.grown hg h.size hr

/-! ### A row of bools -/
def bools (l : List Bool) : Array Value := (l.map fun x => Value.bool x).toArray
theorem bools_at (l : List Bool) (i : Nat) (b : Bool) (h : l[i]? = some b) : (bools l)[i]? = some (.bool b) := by
  simp [bools, h]
theorem bools_set (l : List Bool) (i : Nat) (x : Bool) : (bools l).setIfInBounds i (.bool x) = bools (l.set i x) := by
  simp [bools, List.map_set]
theorem run_make_bools {P : Program} (t e : TypeId) (ht : P.underlying t = some (.slice e)) (hi : (P.info? e).map (fun i => (i.zero, i.size, i.bytes)) = some (some (.bool false), 1, 1)) (n : Nat) (hn : n ≤ 1000000000000) (w : World) :
    (Instr.makeSlice t (.int .i64 (n : Int)) (.int .i64 (n : Int))).run P w = .ok (.slice (some ⟨w.heap.size, 0, none⟩) n n) (w.alloc (.cells (bools (List.replicate n false)) e)) := by
  obtain ⟨i0, h0, hz⟩ := Option.map_eq_some_iff.1 hi
  simp only [Prod.mk.injEq] at hz
  obtain ⟨hz0, hz1, hz2⟩ := hz
  have h := run_make (P := P) w t e i0 _ ht h0 hz0 .i64 .i64 (n : Int) (n : Int) (by omega) (Int.le_refl _) (by rw [hz2]; omega) (by omega)
  rw [h, hz1, Nat.mul_one, Int.toNat_natCast]
  show Result.ok _ (w.alloc (.cells (madeCells #[.bool false] n) e)) = _
  congr 3
  apply Array.ext'
  rw [toList_madeCells_one]
  simp [bools]

theorem Blk.drawn {w w' : World} {g : Nat} {t : TypeId} {cs : Array Value} (h : Blk w g t cs) (hd : Drawn w w') : Blk w' g t cs := by
  obtain ⟨n, rfl⟩ := hd
  exact h
theorem Blk.bool {w : World} {g : Nat} {t : TypeId} {l : List Bool} (h : Blk w g t (bools l)) {i : Nat} {b : Bool} (hb : l[i]? = some b) : w.cell? ⟨g, i, none⟩ = some (.bool b) := (h.cell i).trans (bools_at l i b hb)
theorem Blk.setBool {w : World} {g : Nat} {t : TypeId} {l : List Bool} (h : Blk w g t (bools l)) (i : Nat) (x : Bool) : Blk (w.setCell ⟨g, i, none⟩ (.bool x)) g t (bools (l.set i x)) := by
  rw [← bools_set]; exact h.set_ i _

/-- A store into a block that is new since w. -/
theorem grown_new_set {w w' : World} {row : Option Nat} (h : w.grownBy w' row) {a : Addr} (ha : w.heap.size ≤ a.block) (u : Value) : w.grownBy (w'.setCell a u) row :=
  ⟨h.os, h.tape, h.output, by simpa [World.setCell] using h.size, fun i hi hne => (Below.heap_setCell w' a u i (by omega)).trans (h.block i hi hne)⟩
theorem grown_new_alloc {w w' : World} {row : Option Nat} (h : w.grownBy w' row) (o : Obj) : w.grownBy (w'.alloc o) row :=
  ⟨h.os, h.tape, h.output, Nat.le_trans h.size (by simp), fun i hi hne => (Below.heap_alloc w' o i (Nat.lt_of_lt_of_le hi h.size)).trans (h.block i hi hne)⟩
theorem grown_drawn {w w' w'' : World} {row : Option Nat} (h : w.grownBy w' row) (hd : Drawn w' w'') : w.grownBy w'' row := by
  obtain ⟨n, rfl⟩ := hd
  exact ⟨h.os, h.tape, h.output, h.size, h.block⟩
theorem grown_refl (w : World) (row : Option Nat) : w.grownBy w row := ⟨rfl, rfl, rfl, Nat.le_refl _, fun _ _ _ => rfl⟩
theorem grown_of_below {w w' : World} (h : Below w.heap.size w w') (row : Option Nat) : w.grownBy w' row := ⟨h.os, h.tape, h.output, h.size, fun i hi _ => h.block i hi⟩

end Go.Proofs.Ytoglemdooaiddaa
