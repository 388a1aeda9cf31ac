/- The document's numbers: eight digits to the base of 65536, the lowest first. -/
import Derived.Test.YtoglemdooaiddaaKHalves
namespace Go.Proofs.Ytoglemdooaiddaa
open Go.RowKit
set_option linter.unusedVariables false

def nthN (D : List Nat) (i : Nat) : Nat := D.getD i 0
/-- What digits say. -/
def val : List Nat → Nat
  | [] => 0
  | d :: D => d + 65536 * val D
/-- Eight digits. -/
def Dig (D : List Nat) : Prop := D.length = 8 ∧ ∀ i, nthN D i < 65536
def numC (D : List Nat) (o : Bool) : Array Value := #[.int .i64 (nthN D 0 : Int), .int .i64 (nthN D 1 : Int), .int .i64 (nthN D 2 : Int), .int .i64 (nthN D 3 : Int), .int .i64 (nthN D 4 : Int), .int .i64 (nthN D 5 : Int), .int .i64 (nthN D 6 : Int), .int .i64 (nthN D 7 : Int), .bool o]
def numV (D : List Nat) (o : Bool) : Value := .agg #[.int .i64 (nthN D 0 : Int), .int .i64 (nthN D 1 : Int), .int .i64 (nthN D 2 : Int), .int .i64 (nthN D 3 : Int), .int .i64 (nthN D 4 : Int), .int .i64 (nthN D 5 : Int), .int .i64 (nthN D 6 : Int), .int .i64 (nthN D 7 : Int), .bool o]
theorem nthN_set (D : List Nat) (i j x : Nat) (hi : i < D.length) : nthN (D.set i x) j = if i = j then x else nthN D j := by
  unfold nthN
  simp only [List.getD_eq_getElem?_getD, List.getElem?_set]
  split
  · simp
  · rfl
theorem Dig.set_ {D : List Nat} (h : Dig D) (i x : Nat) (hi : i < 8) (hx : x < 65536) : Dig (D.set i x) := by
  refine ⟨by rw [List.length_set]; exact h.1, fun j => ?_⟩
  rw [nthN_set D i j x (by rw [h.1]; exact hi)]
  split
  · exact hx
  · exact h.2 j
theorem numC_set (D : List Nat) (o : Bool) (i x : Nat) (hD : D.length = 8) (hi : i < 8) : (numC D o).setIfInBounds i (.int .i64 (x : Int)) = numC (D.set i x) o := by
  unfold numC
  simp only [nthN_set D i _ x (by omega)]
  match i, hi with
  | 0, _ => simp
  | 1, _ => simp
  | 2, _ => simp
  | 3, _ => simp
  | 4, _ => simp
  | 5, _ => simp
  | 6, _ => simp
  | 7, _ => simp
theorem numC_over (D : List Nat) (o p : Bool) : (numC D o).setIfInBounds 8 (.bool p) = numC D p := by simp [numC]
theorem numC_at (D : List Nat) (o : Bool) (i : Nat) (hi : i < 8) : (numC D o)[i]? = some (.int .i64 (nthN D i : Int)) := by
  match i, hi with
  | 0, _ => rfl
  | 1, _ => rfl
  | 2, _ => rfl
  | 3, _ => rfl
  | 4, _ => rfl
  | 5, _ => rfl
  | 6, _ => rfl
  | 7, _ => rfl
theorem val_set : ∀ (D : List Nat) (i x : Nat), i < D.length → val (D.set i x) + nthN D i * 65536 ^ i = val D + x * 65536 ^ i
  | [], i, x, h => by simp at h
  | d :: D, 0, x, h => by simp [val, nthN]; omega
  | d :: D, i + 1, x, h => by
    have ih := val_set D i x (by simpa using h)
    have e : nthN (d :: D) (i + 1) = nthN D i := by simp [nthN]
    rw [e, List.set_cons_succ, val, val, Nat.pow_succ]
    have a1 : nthN D i * (65536 ^ i * 65536) = 65536 * (nthN D i * 65536 ^ i) := by rw [← Nat.mul_assoc, Nat.mul_comm]
    have a2 : x * (65536 ^ i * 65536) = 65536 * (x * 65536 ^ i) := by rw [← Nat.mul_assoc, Nat.mul_comm]
    rw [a1, a2]
    omega
theorem val_lt : ∀ (D : List Nat), (∀ i, nthN D i < 65536) → val D < 65536 ^ D.length
  | [], _ => by simp [val]
  | d :: D, h => by
    have h0 : d < 65536 := by simpa [nthN] using h 0
    have ih := val_lt D (fun i => by have := h (i + 1); simpa [nthN] using this)
    rw [val, List.length_cons, Nat.pow_succ]
    omega
theorem Dig.lt {D : List Nat} (h : Dig D) : val D < 340282366920938463463374607431768211456 := by
  have := val_lt D h.2
  rw [h.1] at this
  exact this
/-- The nine cells of a number in memory. -/
theorem num_cells {w : World} {g : Nat} {t : TypeId} {D : List Nat} {o : Bool} (h : Blk w g t (numC D o)) :
    w.cell? ⟨g, 0, none⟩ = some (.int .i64 (nthN D 0 : Int)) ∧ w.cell? ⟨g, 1, none⟩ = some (.int .i64 (nthN D 1 : Int)) ∧ w.cell? ⟨g, 2, none⟩ = some (.int .i64 (nthN D 2 : Int)) ∧ w.cell? ⟨g, 3, none⟩ = some (.int .i64 (nthN D 3 : Int)) ∧
    w.cell? ⟨g, 4, none⟩ = some (.int .i64 (nthN D 4 : Int)) ∧ w.cell? ⟨g, 5, none⟩ = some (.int .i64 (nthN D 5 : Int)) ∧ w.cell? ⟨g, 6, none⟩ = some (.int .i64 (nthN D 6 : Int)) ∧ w.cell? ⟨g, 7, none⟩ = some (.int .i64 (nthN D 7 : Int)) ∧ w.cell? ⟨g, 8, none⟩ = some (.bool o) :=
  ⟨h.cell 0, h.cell 1, h.cell 2, h.cell 3, h.cell 4, h.cell 5, h.cell 6, h.cell 7, h.cell 8⟩
theorem num_free {w : World} {g : Nat} {t : TypeId} {D : List Nat} {o : Bool} (h : Blk w g t (numC D o)) :
    w.frozen? ⟨g, 0, none⟩ = false ∧ w.frozen? ⟨g, 1, none⟩ = false ∧ w.frozen? ⟨g, 2, none⟩ = false ∧ w.frozen? ⟨g, 3, none⟩ = false ∧ w.frozen? ⟨g, 4, none⟩ = false ∧ w.frozen? ⟨g, 5, none⟩ = false ∧ w.frozen? ⟨g, 6, none⟩ = false ∧ w.frozen? ⟨g, 7, none⟩ = false ∧ w.frozen? ⟨g, 8, none⟩ = false :=
  ⟨h.frozen 0, h.frozen 1, h.frozen 2, h.frozen 3, h.frozen 4, h.frozen 5, h.frozen 6, h.frozen 7, h.frozen 8⟩
/-- A whole number is stored. -/
def nine (w : World) (g : Nat) (D : List Nat) (o : Bool) : World := (((((((((w.setCell ⟨g, 0, none⟩ (.int .i64 (nthN D 0 : Int))).setCell ⟨g, 1, none⟩ (.int .i64 (nthN D 1 : Int))).setCell ⟨g, 2, none⟩ (.int .i64 (nthN D 2 : Int))).setCell ⟨g, 3, none⟩ (.int .i64 (nthN D 3 : Int))).setCell ⟨g, 4, none⟩ (.int .i64 (nthN D 4 : Int))).setCell ⟨g, 5, none⟩ (.int .i64 (nthN D 5 : Int))).setCell ⟨g, 6, none⟩ (.int .i64 (nthN D 6 : Int))).setCell ⟨g, 7, none⟩ (.int .i64 (nthN D 7 : Int))).setCell ⟨g, 8, none⟩ (.bool o))
theorem nine_blk {w : World} {g : Nat} {t : TypeId} {E : List Nat} {p : Bool} (D : List Nat) (o : Bool) (h : Blk w g t (numC E p)) : Blk (nine w g D o) g t (numC D o) := by
  have := ((((((((h.set_ 0 (.int .i64 (nthN D 0 : Int))).set_ 1 (.int .i64 (nthN D 1 : Int))).set_ 2 (.int .i64 (nthN D 2 : Int))).set_ 3 (.int .i64 (nthN D 3 : Int))).set_ 4 (.int .i64 (nthN D 4 : Int))).set_ 5 (.int .i64 (nthN D 5 : Int))).set_ 6 (.int .i64 (nthN D 6 : Int))).set_ 7 (.int .i64 (nthN D 7 : Int))).set_ 8 (.bool o)
  simpa [numC, nine] using this
theorem nine_below {B : Nat} {a w : World} {g : Nat} (D : List Nat) (o : Bool) (h : Below B a w) (hg : B ≤ g) : Below B a (nine w g D o) :=
  ((((((((h.setCell hg _).setCell hg _).setCell hg _).setCell hg _).setCell hg _).setCell hg _).setCell hg _).setCell hg _).setCell hg _
theorem nine_far {w : World} {g k : Nat} {t : TypeId} {cs : Array Value} (D : List Nat) (o : Bool) (h : Blk w k t cs) (hk : k ≠ g) : Blk (nine w g D o) k t cs :=
  ((((((((h.far hk _).far hk _).far hk _).far hk _).far hk _).far hk _).far hk _).far hk _).far hk _
theorem nine_fold (w : World) (g : Nat) (D : List Nat) (o : Bool) : (((((((((w.setCell ⟨g, 0, none⟩ (.int .i64 (nthN D 0 : Int))).setCell ⟨g, 1, none⟩ (.int .i64 (nthN D 1 : Int))).setCell ⟨g, 2, none⟩ (.int .i64 (nthN D 2 : Int))).setCell ⟨g, 3, none⟩ (.int .i64 (nthN D 3 : Int))).setCell ⟨g, 4, none⟩ (.int .i64 (nthN D 4 : Int))).setCell ⟨g, 5, none⟩ (.int .i64 (nthN D 5 : Int))).setCell ⟨g, 6, none⟩ (.int .i64 (nthN D 6 : Int))).setCell ⟨g, 7, none⟩ (.int .i64 (nthN D 7 : Int))).setCell ⟨g, 8, none⟩ (.bool o)) = nine w g D o := rfl
end Go.Proofs.Ytoglemdooaiddaa
