/- The contract of kmeans.Train: the centres in new memory. -/
import Derived.Test.YtoglemdooaiddaaKTrainE
import Derived.Test.YtoglemdooaiddaaKClone
import Derived.Test.YtoglemdooaiddaaRandPermk
namespace Go.Proofs.Ytoglemdooaiddaa
open Go.RowKit
set_option linter.unusedVariables false

theorem Box3.grown {w wr w2 : World} {A : Option Addr} {n cl : Nat} {k d : Int} {row : Option Nat} (h : Box3 w A n cl k d wr) (hg : wr.grownBy w2 row) (hr : ∀ b, row = some b → w.heap.size + 3 ≤ b) : Box3 w A n cl k d w2 :=
  ⟨h.1.grown hg h.1.size (fun b hb => by have := hr b hb; omega), h.2.1.grown hg (fun e => by have := hr _ e.symm; omega), h.2.2.1.grown hg (fun e => by have := hr _ e.symm; omega), h.2.2.2.grown hg (fun e => by have := hr _ e.symm; omega)⟩
theorem Box3.more {w wr w2 : World} {A : Option Addr} {n cl : Nat} {k d : Int} (h : Box3 w A n cl k d wr) (hb : Below wr.heap.size wr w2) : Box3 w A n cl k d w2 :=
  ⟨below_chain h.1 hb h.1.size, h.2.1.below hb h.2.1.lt, h.2.2.1.below hb h.2.2.1.lt, h.2.2.2.below hb h.2.2.2.lt⟩
theorem Box3.far {w wr : World} {A : Option Addr} {n cl : Nat} {k d : Int} (h : Box3 w A n cl k d wr) {a : Addr} (ha : w.heap.size + 2 < a.block) (v : Value) : Box3 w A n cl k d (wr.setCell a v) :=
  ⟨h.1.setCell (p := a) (by omega) v, h.2.1.far (by omega) v, h.2.2.1.far (by omega) v, h.2.2.2.far (by omega) v⟩
theorem Box3.lt {w wr : World} {A : Option Addr} {n cl : Nat} {k d : Int} (h : Box3 w A n cl k d wr) : w.heap.size + 2 < wr.heap.size := h.2.2.2.lt

/-- What stands in Train while the first centres are made. -/
structure TrS (w wr : World) (A : Option Addr) (n cl : Nat) (k d : Int) (gp bc gc kk : Nat) (ps : List Int) (G K : Nat → Nat) (M : List (List Int)) : Prop where
  box : Box3 w A n cl k d wr
  places : Blk wr gp 3 (ints ps)
  var : Blk wr bc 22 #[.slice (some ⟨gc, 0, none⟩) kk kk]
  grid : Grid wr w.heap.size gc G K M
  rest : ∀ j, M.length ≤ j → j < kk → wr.cell? ⟨gc, j, none⟩ = some (.slice none 0 0)
  o1 : w.heap.size + 2 < gc
  o2 : gc < bc
  o3 : gp < gc
  sep : ∀ i, i < M.length → bc < G i
section
variable {w wr w2 : World} {A : Option Addr} {n cl : Nat} {k d : Int} {gp bc gc kk : Nat} {ps : List Int} {G K : Nat → Nat} {M : List (List Int)}
theorem TrS.more (h : TrS w wr A n cl k d gp bc gc kk ps G K M) (hb : Below wr.heap.size wr w2) : TrS w w2 A n cl k d gp bc gc kk ps G K M :=
  { box := h.box.more hb, places := h.places.below hb h.places.lt, var := h.var.below hb h.var.lt, grid := h.grid.below hb, rest := fun j h1 h2 => below_cell hb (h.rest j h1 h2), o1 := h.o1, o2 := h.o2, o3 := h.o3, sep := h.sep }
theorem TrS.start (h : Box3 w A n cl k d wr) (hp : Blk wr gp 3 (ints ps)) (G K : Nat → Nat) :
    TrS w ((wr.alloc (.cells (rows0 kk) 30)).alloc (.cells #[.slice (some ⟨wr.heap.size, 0, none⟩) kk kk] 22)) A n cl k d gp (wr.heap.size + 1) wr.heap.size kk ps G K [] := by
  have b1 := (Blk.new wr 30 (rows0 kk)).alloc (.cells #[.slice (some ⟨wr.heap.size, 0, none⟩) kk kk] 22)
  have b2 := Blk.new (wr.alloc (.cells (rows0 kk) 30)) 22 #[.slice (some ⟨wr.heap.size, 0, none⟩) kk kk]
  rw [show (wr.alloc (.cells (rows0 kk) 30)).heap.size = wr.heap.size + 1 by simp] at b2
  exact { box := h.more ((below_alloc1 _ _).alloc (by simp) _), places := (hp.alloc _).alloc _, var := b2, grid := Grid.empty (by have := h.lt; omega) b1.lt b1.frozen, rest := fun j _ hj => by rw [b1.cell j, rows0_at kk j hj]
          o1 := h.lt, o2 := by omega, o3 := hp.lt, sep := fun i hi => by simp at hi }
theorem TrS.row (h : TrS w wr A n cl k d gp bc gc kk ps G K M) (hb : Below wr.heap.size wr w2) {g cap : Nat} {r : List Int} (ho : OwnRow wr.heap.size g r w2) (hk : M.length < kk) :
    TrS w (w2.setCell ⟨gc, M.length, none⟩ (.slice (some ⟨g, 0, none⟩) r.length cap)) A n cl k d gp bc gc kk ps (fun i => if i < M.length then G i else g) (fun i => if i < M.length then K i else cap) (M ++ [r]) := by
  have h1 := h.more hb
  have hvl := h.var.lt
  have hgl := h.grid.lt
  have hlo := ho.lo
  have hne : g ≠ gc := by omega
  have o1 := h.o1
  have o2 := h.o2
  have o3 := h.o3
  refine { box := h1.box.far (by simpa using h.o1) _, places := h1.places.far (by simp; omega) _, var := h1.var.far (by simp; omega) _, grid := ?_, rest := ?_, o1 := h.o1, o2 := h.o2, o3 := h.o3, sep := ?_ }
  · refine (h1.grid.beyond (Nat.le_refl _) _).snoc ?_ ⟨by omega, by simpa [World.setCell] using ho.lt, hne⟩ ?_ ?_ ?_
    · exact World.cell?_setCell_same' _ _ _ (by rw [h1.rest M.length (Nat.le_refl _) hk]; rfl)
    · intro i hi
      have := (h.grid.new i hi).2.1
      omega
    · intro x hx
      rw [World.cell?_setCell_other _ _ _ _ (fun e => hne (by injection e with e1; exact e1.symm))]
      exact ho.cell x hx
    · intro x
      rw [World.frozen?_setCell]
      exact ho.free x
  · intro j h2 h3
    simp only [List.length_append, List.length_cons, List.length_nil] at h2
    rw [World.cell?_setCell_other _ _ _ _ (fun e => by injection e; omega)]
    exact h1.rest j (by omega) h3
  · intro i hi
    split
    · rename_i hlt; exact h.sep i hlt
    · omega
end
theorem startN_succ (l : List (List Int)) (ps : List Int) (i : Nat) : startN l ps (i + 1) = startN l ps i ++ [mrow l (nth ps i).toNat] := by simp [startN, List.range_succ]
/-- What the region reads that makes a centre. -/
def RegC (bc gc kk b0 : Nat) (A : Option Addr) (n cl gp i p g o : Nat) (R : Option Addr) (rl rc : Nat) (w' : World) : Prop :=
  w'.cell? ⟨bc, 0, none⟩ = some (.slice (some ⟨gc, 0, none⟩) kk kk) ∧ w'.cell? ⟨b0, 0, none⟩ = some (.slice A n cl) ∧ w'.cell? ⟨gp, i, none⟩ = some (.int .i64 (p : Int)) ∧ w'.cell? ⟨g, o + p, none⟩ = some (.slice R rl rc)
theorem RegC.more {bc gc kk b0 : Nat} {A : Option Addr} {n cl gp i p g o : Nat} {R : Option Addr} {rl rc : Nat} {w1 w2 : World} (h : RegC bc gc kk b0 A n cl gp i p g o R rl rc w1) (hb : Below w1.heap.size w1 w2) : RegC bc gc kk b0 A n cl gp i p g o R rl rc w2 :=
  ⟨below_cell hb h.1, below_cell hb h.2.1, below_cell hb h.2.2.1, below_cell hb h.2.2.2⟩
theorem RegC.set_ {bc gc kk b0 : Nat} {A : Option Addr} {n cl gp i p g o : Nat} {R : Option Addr} {rl rc : Nat} {w1 : World} (h : RegC bc gc kk b0 A n cl gp i p g o R rl rc w1) (j : Nat) (v : Value) (h1 : bc ≠ gc) (h2 : b0 ≠ gc) (h3 : gp ≠ gc) (h4 : g ≠ gc) :
    RegC bc gc kk b0 A n cl gp i p g o R rl rc (w1.setCell ⟨gc, j, none⟩ v) := by
  obtain ⟨a1, a2, a3, a4⟩ := h
  exact ⟨by rw [World.cell?_setCell_other _ _ _ _ (fun e => h1 (by injection e with e1; exact e1.symm))]; exact a1,
    by rw [World.cell?_setCell_other _ _ _ _ (fun e => h2 (by injection e with e1; exact e1.symm))]; exact a2,
    by rw [World.cell?_setCell_other _ _ _ _ (fun e => h3 (by injection e with e1; exact e1.symm))]; exact a3,
    by rw [World.cell?_setCell_other _ _ _ _ (fun e => h4 (by injection e with e1; exact e1.symm))]; exact a4⟩

/-- What stands behind Train. -/
def TrainGood (w : World) (m : List (List Int)) (e : Ending) (w' : World) : Prop := ∃ gc G K, e = .returned (.tuple #[.slice (some ⟨gc, 0, none⟩) m.length m.length, .int .i64 0]) ∧ Grid w' w.heap.size gc G K m ∧ Below w.heap.size w w'
end Go.Proofs.Ytoglemdooaiddaa
