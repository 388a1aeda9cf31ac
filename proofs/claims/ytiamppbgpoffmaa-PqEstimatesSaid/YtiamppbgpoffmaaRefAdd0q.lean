/- The contract of the document's Add. -/
import Derived.Test.YtiamppbgpoffmaaRefMulq
import Derived.Deep.CutRange
namespace Go.Proofs.Ytiamppbgpoffmaa
open Go.RowKit
set_option linter.unusedVariables false

def HalfPost (w : World) (h l : Nat) (f : Int) (e : Ending) (w' : World) : Prop := e = .returned (.tuple #[.agg #[.int .u64 (h : Int), .int .u64 (l : Int)], .int .i64 f]) ∧ Below w.heap.size w w'
theorem alloc_num (w : World) (D : List Nat) (o : Bool) : Blk (w.alloc (.cells (numC D o) 75)) w.heap.size 75 (numC D o) := Blk.new w _ _
theorem num_new {v x : World} (h : Below (v.alloc (.cells (numC [] false) 75)).heap.size (v.alloc (.cells (numC [] false) 75)) x) : Blk x v.heap.size 75 (numC [] false) := (alloc_num v [] false).below h (alloc_num v [] false).lt
theorem nine_fold' {x : World} {g : Nat} {t : TypeId} {E : List Nat} {p : Bool} (_ : Blk x g t (numC E p)) (D : List Nat) (o : Bool) : (((((((((x.setCell ⟨g, 0, none⟩ (.int .i64 (nthN D 0 : Int))).setCell ⟨g, 1, none⟩ (.int .i64 (nthN D 1 : Int))).setCell ⟨g, 2, none⟩ (.int .i64 (nthN D 2 : Int))).setCell ⟨g, 3, none⟩ (.int .i64 (nthN D 3 : Int))).setCell ⟨g, 4, none⟩ (.int .i64 (nthN D 4 : Int))).setCell ⟨g, 5, none⟩ (.int .i64 (nthN D 5 : Int))).setCell ⟨g, 6, none⟩ (.int .i64 (nthN D 6 : Int))).setCell ⟨g, 7, none⟩ (.int .i64 (nthN D 7 : Int))).setCell ⟨g, 8, none⟩ (.bool o)) = nine x g D o := rfl
theorem num_lit {v x : World} (h : Below (v.alloc (Obj.cells #[.int .i64 0, .int .i64 0, .int .i64 0, .int .i64 0, .int .i64 0, .int .i64 0, .int .i64 0, .int .i64 0, .bool false] 75)).heap.size (v.alloc (Obj.cells #[.int .i64 0, .int .i64 0, .int .i64 0, .int .i64 0, .int .i64 0, .int .i64 0, .int .i64 0, .int .i64 0, .bool false] 75)) x) : Blk x v.heap.size 75 (numC [] false) := num_new h
/-- Behind the boxes: the two numbers, the result. -/
def Two3 (w wr : World) (ah al bh bl : Nat) : Prop := Two w wr ah al bh bl ∧ Blk wr (w.heap.size + 1 + 1) 44 #[.int .u64 0, .int .u64 0]
theorem Two3.more {w wr w1 : World} {ah al bh bl : Nat} (h : Two3 w wr ah al bh bl) (hb : Below wr.heap.size wr w1) : Two3 w w1 ah al bh bl := ⟨h.1.more hb, h.2.below hb h.2.lt⟩
theorem Two3.nine {w wr : World} {ah al bh bl g : Nat} (h : Two3 w wr ah al bh bl) (hg : w.heap.size + 1 + 1 < g) (D : List Nat) (o : Bool) : Two3 w (nine wr g D o) ah al bh bl :=
  ⟨⟨nine_below D o h.1.1 (by omega), nine_far D o h.1.2.1 (by omega), nine_far D o h.1.2.2 (by omega)⟩, nine_far D o h.2 (by omega)⟩
theorem Two3.start (w : World) (ah al bh bl : Nat) : Two3 w (((w.alloc (.cells #[.int .u64 (ah : Int), .int .u64 (al : Int)] 44)).alloc (.cells #[.int .u64 (bh : Int), .int .u64 (bl : Int)] 44)).alloc (.cells #[.int .u64 0, .int .u64 0] 44)) ah al bh bl := by
  refine ⟨(Two.start w ah al bh bl).more (below_alloc1 _ _), ?_⟩
  have e1 : ((w.alloc (.cells #[.int .u64 (ah : Int), .int .u64 (al : Int)] 44)).alloc (.cells #[.int .u64 (bh : Int), .int .u64 (bl : Int)] 44)).heap.size = w.heap.size + 1 + 1 := by simp
  have := Blk.new ((w.alloc (.cells #[.int .u64 (ah : Int), .int .u64 (al : Int)] 44)).alloc (.cells #[.int .u64 (bh : Int), .int .u64 (bl : Int)] 44)) 44 #[.int .u64 0, .int .u64 0]
  rwa [e1] at this

theorem five_held {w w1 w2 : World} {g1 g2 : Nat} {u v u2 v2 : Value} (h : Below w.heap.size w w1 ∧ w1.cell? ⟨g1, 0, none⟩ = some u ∧ w1.cell? ⟨g1, 1, none⟩ = some v ∧ w1.cell? ⟨g2, 0, none⟩ = some u2 ∧ w1.cell? ⟨g2, 1, none⟩ = some v2) (hb : Below w1.heap.size w1 w2) :
    Below w.heap.size w w2 ∧ w2.cell? ⟨g1, 0, none⟩ = some u ∧ w2.cell? ⟨g1, 1, none⟩ = some v ∧ w2.cell? ⟨g2, 0, none⟩ = some u2 ∧ w2.cell? ⟨g2, 1, none⟩ = some v2 :=
  ⟨below_chain h.1 hb h.1.size, below_cell hb h.2.1, below_cell hb h.2.2.1, below_cell hb h.2.2.2.1, below_cell hb h.2.2.2.2⟩
theorem five_of {w wr : World} {ah al bh bl : Nat} (h : Two3 w wr ah al bh bl) : Below w.heap.size w wr ∧ wr.cell? ⟨w.heap.size, 0, none⟩ = some (.int .u64 (ah : Int)) ∧ wr.cell? ⟨w.heap.size, 1, none⟩ = some (.int .u64 (al : Int)) ∧ wr.cell? ⟨w.heap.size + 1, 0, none⟩ = some (.int .u64 (bh : Int)) ∧ wr.cell? ⟨w.heap.size + 1, 1, none⟩ = some (.int .u64 (bl : Int)) :=
  ⟨h.1.1, h.1.cells⟩
end Go.Proofs.Ytiamppbgpoffmaa
