/- A slice of slices that reads as a list of rows; rows in blocks of the call's own. -/
import Derived.Test.YtoglemdooaiddaaMem
import Derived.Test.YtoglemdooaiddaaKPure
namespace Go.Proofs.Ytoglemdooaiddaa
open Go.RowKit

/-- A slice (nil or not) of slices that reads as a list of rows. -/
def Mat (w : World) (A : Option Addr) (m : List (List Int)) : Prop :=
  ∀ i, i < m.length → ∃ g off R c, A = some ⟨g, off, none⟩ ∧ w.cell? ⟨g, off + i, none⟩ = some (.slice R (mrow m i).length c) ∧ Row w R (mrow m i)
theorem Mat.keep {w w' : World} {A : Option Addr} {m : List (List Int)} (h : Mat w A m) (hk : ∀ a v, w.cell? a = some v → w'.cell? a = some v) : Mat w' A m := fun i hi => by
  obtain ⟨g, off, R, c, h1, h2, h3⟩ := h i hi
  exact ⟨g, off, R, c, h1, hk _ _ h2, h3.keep hk⟩
theorem Mat.below {w w' : World} {A : Option Addr} {m : List (List Int)} (h : Mat w A m) (hb : Below w.heap.size w w') : Mat w' A m := h.keep fun _ _ hc => below_cell hb hc
theorem Mat.nil_ {w : World} {A : Option Addr} : Mat w A [] := fun i hi => by simp at hi

/-- Rows in blocks of their own, at places from B on: all of it may be written. -/
structure Grid (w : World) (B gc : Nat) (G K : Nat → Nat) (m : List (List Int)) : Prop where
  lo : B ≤ gc
  lt : gc < w.heap.size
  top : ∀ i, i < m.length → w.cell? ⟨gc, i, none⟩ = some (.slice (some ⟨G i, 0, none⟩) (mrow m i).length (K i))
  free : ∀ i, w.frozen? ⟨gc, i, none⟩ = false
  new : ∀ i, i < m.length → B ≤ G i ∧ G i < w.heap.size ∧ G i ≠ gc
  inj : ∀ i j, i < m.length → j < m.length → G i = G j → i = j
  row : ∀ i, i < m.length → ∀ x, x < (mrow m i).length → w.cell? ⟨G i, x, none⟩ = some (.int .i64 (nth (mrow m i) x))
  rowFree : ∀ i, i < m.length → ∀ x, w.frozen? ⟨G i, x, none⟩ = false

theorem below_frozen {w w' : World} (h : Below w.heap.size w w') {a : Addr} (ha : a.block < w.heap.size) : w'.frozen? a = w.frozen? a := h.frozen ha
theorem Grid.below {w w' : World} {B gc : Nat} {G K : Nat → Nat} {m : List (List Int)} (h : Grid w B gc G K m) (hb : Below w.heap.size w w') : Grid w' B gc G K m :=
  { lo := h.lo, lt := Nat.lt_of_lt_of_le h.lt hb.size, top := fun i hi => below_cell hb (h.top i hi), free := fun i => (below_frozen hb h.lt).trans (h.free i)
    new := fun i hi => ⟨(h.new i hi).1, Nat.lt_of_lt_of_le (h.new i hi).2.1 hb.size, (h.new i hi).2.2⟩, inj := h.inj
    row := fun i hi x hx => below_cell hb (h.row i hi x hx), rowFree := fun i hi x => (below_frozen hb (h.new i hi).2.1).trans (h.rowFree i hi x) }
theorem Grid.mat {w : World} {B gc : Nat} {G K : Nat → Nat} {m : List (List Int)} (h : Grid w B gc G K m) : Mat w (some ⟨gc, 0, none⟩) m := fun i hi =>
  ⟨gc, 0, _, K i, rfl, by rw [Nat.zero_add]; exact h.top i hi, fun x hx => ⟨G i, 0, rfl, by rw [Nat.zero_add]; exact h.row i hi x hx⟩⟩
/-- A number is stored: row i's place x. -/
def put2 (m : List (List Int)) (i x : Nat) (v : Int) : List (List Int) := m.set i ((mrow m i).set x v)
theorem put2_length (m : List (List Int)) (i x : Nat) (v : Int) : (put2 m i x v).length = m.length := by simp [put2]
theorem mrow_put2 (m : List (List Int)) (i x : Nat) (v : Int) (j : Nat) (hi : i < m.length) : mrow (put2 m i x v) j = if j = i then (mrow m i).set x v else mrow m j := by
  unfold put2 mrow
  by_cases h : j = i
  · subst h; simp [hi]
  · rw [if_neg h, List.getD_eq_getElem?_getD, List.getElem?_set_ne (Ne.symm h), ← List.getD_eq_getElem?_getD]
theorem nth_set (l : List Int) (x : Nat) (v : Int) (y : Nat) (hx : x < l.length) : nth (l.set x v) y = if y = x then v else nth l y := by
  unfold nth
  by_cases h : y = x
  · subst h; simp [hx]
  · rw [if_neg h, List.getD_eq_getElem?_getD, List.getElem?_set_ne (Ne.symm h), ← List.getD_eq_getElem?_getD]
theorem mrow_put2_length (m : List (List Int)) (i x : Nat) (v : Int) (j : Nat) (hi : i < m.length) : (mrow (put2 m i x v) j).length = (mrow m j).length := by
  rw [mrow_put2 m i x v j hi]
  split
  · rename_i h; subst h; simp
  · rfl

theorem Grid.store {w : World} {B gc : Nat} {G K : Nat → Nat} {m : List (List Int)} (h : Grid w B gc G K m) {i x : Nat} (hi : i < m.length) (hx : x < (mrow m i).length) (v : Int) :
    Grid (w.setCell ⟨G i, x, none⟩ (.int .i64 v)) B gc G K (put2 m i x v) := by
  have hne : G i ≠ gc := (h.new i hi).2.2
  have hsz : (w.setCell ⟨G i, x, none⟩ (.int .i64 v)).heap.size = w.heap.size := by simp [World.setCell]
  refine { lo := h.lo, lt := by rw [hsz]; exact h.lt, top := ?_, free := fun j => by rw [World.frozen?_setCell]; exact h.free j, new := ?_, inj := ?_, row := ?_, rowFree := ?_ }
  · intro j hj
    rw [put2_length] at hj
    rw [mrow_put2_length _ _ _ _ _ hi, World.cell?_setCell_other _ _ _ _ (fun e => hne (by injection e))]
    exact h.top j hj
  · intro j hj
    rw [put2_length] at hj
    rw [hsz]
    exact h.new j hj
  · intro a b ha hb hab
    rw [put2_length] at ha hb
    exact h.inj a b ha hb hab
  · intro j hj y hy
    rw [put2_length] at hj
    rw [mrow_put2_length _ _ _ _ _ hi] at hy
    rw [mrow_put2 _ _ _ _ _ hi]
    by_cases hji : j = i
    · subst hji
      rw [if_pos rfl, nth_set _ _ _ _ hx]
      by_cases hyx : y = x
      · subst hyx
        rw [if_pos rfl]
        exact World.cell?_setCell_same' _ _ _ (by rw [h.row j hj y hy]; rfl)
      · rw [if_neg hyx, World.cell?_setCell_other _ _ _ _ (fun e => hyx (by injection e with _ e2; exact e2.symm))]
        exact h.row j hj y hy
    · rw [if_neg hji, World.cell?_setCell_other _ _ _ _ (fun e => hji (h.inj j i hj hi (by injection e with e1; exact e1.symm)))]
      exact h.row j hj y hy
  · intro j hj y
    rw [put2_length] at hj
    rw [World.frozen?_setCell]
    exact h.rowFree j hj y
/-- A store elsewhere. -/
theorem Grid.far {w : World} {B gc : Nat} {G K : Nat → Nat} {m : List (List Int)} (h : Grid w B gc G K m) {a : Addr} (ha : a.block ≠ gc) (ha2 : ∀ i, i < m.length → a.block ≠ G i) (v : Value) : Grid (w.setCell a v) B gc G K m := by
  have hsz : (w.setCell a v).heap.size = w.heap.size := by simp [World.setCell]
  exact { lo := h.lo, lt := by rw [hsz]; exact h.lt, top := fun i hi => by
            rw [World.cell?_setCell_other _ _ _ _ (fun e => ha (by rw [e]))]; exact h.top i hi
          free := fun j => by rw [World.frozen?_setCell]; exact h.free j
          new := fun i hi => by rw [hsz]; exact h.new i hi
          inj := h.inj
          row := fun i hi x hx => by rw [World.cell?_setCell_other _ _ _ _ (fun e => ha2 i hi (by rw [e]))]; exact h.row i hi x hx
          rowFree := fun i hi x => by rw [World.frozen?_setCell]; exact h.rowFree i hi x }
/-- One more row. -/
theorem Grid.snoc {w : World} {B gc : Nat} {G K : Nat → Nat} {m : List (List Int)} (h : Grid w B gc G K m) {g c : Nat} {r : List Int}
    (htop : w.cell? ⟨gc, m.length, none⟩ = some (.slice (some ⟨g, 0, none⟩) r.length c)) (hnew : B ≤ g ∧ g < w.heap.size ∧ g ≠ gc) (hinj : ∀ i, i < m.length → G i ≠ g)
    (hrow : ∀ x, x < r.length → w.cell? ⟨g, x, none⟩ = some (.int .i64 (nth r x))) (hfree : ∀ x, w.frozen? ⟨g, x, none⟩ = false) :
    Grid w B gc (fun i => if i < m.length then G i else g) (fun i => if i < m.length then K i else c) (m ++ [r]) := by
  have hr : ∀ i, i < m.length → mrow (m ++ [r]) i = mrow m i := fun i hi => by simp [mrow, List.getElem?_append_left hi]
  have hl : mrow (m ++ [r]) m.length = r := by simp [mrow]
  have hc : ∀ i, i < (m ++ [r]).length → i < m.length ∨ i = m.length := fun i hi => by simp at hi; omega
  refine { lo := h.lo, lt := h.lt, top := ?_, free := h.free, new := ?_, inj := ?_, row := ?_, rowFree := ?_ }
  · intro i hi
    rcases hc i hi with h1 | rfl
    · rw [hr i h1, if_pos h1, if_pos h1]; exact h.top i h1
    · rw [hl, if_neg (Nat.lt_irrefl _), if_neg (Nat.lt_irrefl _)]; exact htop
  · intro i hi
    rcases hc i hi with h1 | rfl
    · rw [if_pos h1]; exact h.new i h1
    · rw [if_neg (Nat.lt_irrefl _)]; exact hnew
  · intro i j hi hj he
    rcases hc i hi with h1 | rfl <;> rcases hc j hj with h2 | rfl
    · rw [if_pos h1, if_pos h2] at he; exact h.inj i j h1 h2 he
    · rw [if_pos h1, if_neg (Nat.lt_irrefl _)] at he; exact absurd he (hinj i h1)
    · rw [if_pos h2, if_neg (Nat.lt_irrefl _)] at he; exact absurd he.symm (hinj j h2)
    · rfl
  · intro i hi x hx
    rcases hc i hi with h1 | rfl
    · rw [hr i h1] at hx ⊢; rw [if_pos h1]; exact h.row i h1 x hx
    · rw [hl] at hx ⊢; rw [if_neg (Nat.lt_irrefl _)]; exact hrow x hx
  · intro i hi x
    rcases hc i hi with h1 | rfl
    · rw [if_pos h1]; exact h.rowFree i h1 x
    · rw [if_neg (Nat.lt_irrefl _)]; exact hfree x
theorem Grid.empty {w : World} {B gc : Nat} {G K : Nat → Nat} (h : B ≤ gc) (hl : gc < w.heap.size) (hf : ∀ i, w.frozen? ⟨gc, i, none⟩ = false) : Grid w B gc G K [] :=
  { lo := h, lt := hl, top := fun i hi => by simp at hi, free := hf, new := fun i hi => by simp at hi, inj := fun i j hi => by simp at hi, row := fun i hi => by simp at hi, rowFree := fun i hi => by simp at hi }
/-- A store into the outer slice, at a place behind the rows that stand. -/
theorem Grid.beyond {w : World} {B gc : Nat} {G K : Nat → Nat} {m : List (List Int)} (h : Grid w B gc G K m) {i : Nat} (hi : m.length ≤ i) (v : Value) : Grid (w.setCell ⟨gc, i, none⟩ v) B gc G K m := by
  have hsz : (w.setCell ⟨gc, i, none⟩ v).heap.size = w.heap.size := by simp [World.setCell]
  exact { lo := h.lo, lt := by rw [hsz]; exact h.lt, top := fun j hj => by
            rw [World.cell?_setCell_other _ _ _ _ (fun e => by injection e; omega)]; exact h.top j hj
          free := fun j => by rw [World.frozen?_setCell]; exact h.free j
          new := fun j hj => by rw [hsz]; exact h.new j hj
          inj := h.inj
          row := fun j hj x hx => by rw [World.cell?_setCell_other _ _ _ _ (fun e => (h.new j hj).2.2 (by injection e with e1; exact e1.symm))]; exact h.row j hj x hx
          rowFree := fun j hj x => by rw [World.frozen?_setCell]; exact h.rowFree j hj x }
end Go.Proofs.Ytoglemdooaiddaa
