/- The contracts of codec.may and codec.PutChange. -/
import Derived.Test.YtejbfglaalmafaaGreatDoorLRecs
namespace Go.Proofs.YtejbfglaalmafaaGreatDoor
open Go.RowKit
set_option linter.unusedVariables false

/-- The error of a put, of a deletion. -/
def putE (id : Int) (v : List Int) : Int := if id < 1 ∨ 1000000000 < id then 50 else vecE v v.length
def delE (id : Int) : Int := if id < 1 ∨ 1000000000 < id then 50 else 0
def chC (k id : Int) (V : Value) : Array Value := #[.int .i64 k, .int .i64 id, V]
set_option maxRecDepth 100000 in
theorem may_put (id : Int) (V : Option Addr) (v : List Int) (cv : Nat) (w : World) (hV : Row w V v) :
    Calls Tryz.prog 24 #[.agg #[.int .i64 1, .int .i64 id, .slice V v.length cv]] w fun e w' => e = .returned (.int .i64 (putE id v)) ∧ Below w.heap.size w w' := by
  have hb1 := below_alloc1 w (.cells #[.int .i64 1, .int .i64 id, .slice V v.length cv] 39)
  have hbk := Blk.new w 39 #[.int .i64 1, .int .i64 id, .slice V v.length cv]
  have c0 := hbk.cell 0
  have c1 := hbk.cell 1
  have c2 := hbk.cell 2
  simp only [List.getElem?_toArray, List.getElem?_cons_zero, List.getElem?_cons_succ] at c0 c1 c2
  have hC := Lib.hid (vec_any V v cv v.length _ (hV.below hb1))
  by_cases h : id < 1 ∨ 1000000000 < id
  · have hE : putE id v = 50 := by rw [putE, if_pos h]
    rw [hE]
    obtain ⟨x, hx⟩ : ∃ x, decide (id < 1) = x := ⟨_, rfl⟩
    obtain ⟨y, hy⟩ : ∃ y, decide ((1000000000 : Int) < id) = y := ⟨_, rfl⟩
    have hxy : (x || y) = true := by rw [← hx, ← hy]; simpa using h
    clear h hE hC
    go_enter Tryz.func24, Tryz.ntmps24
    rcases x with _ | _
    · obtain rfl : y = true := by simpa using hxy
      go_wp2_with fail
      go_ret
      exact ⟨rfl, hb1⟩
    · go_wp2_with fail
      go_ret
      exact ⟨rfl, hb1⟩
  · have hE : putE id v = vecE v v.length := by rw [putE, if_neg h]
    rw [hE]
    have hx : decide (id < 1) = false := decide_eq_false (by omega)
    have hy : decide ((1000000000 : Int) < id) = false := decide_eq_false (by omega)
    clear h hE
    generalize vecE v v.length = E at *
    go_enter Tryz.func24, Tryz.ntmps24
    go_wp2_with fail
    refine hC.out.mono ?_
    rintro e w1 ⟨rfl, rfl⟩
    go_wp2_with fail
    go_ret
    exact ⟨rfl, hb1⟩
set_option maxRecDepth 100000 in
theorem may_del (id : Int) (w : World) :
    Calls Tryz.prog 24 #[.agg #[.int .i64 2, .int .i64 id, .slice none 0 0]] w fun e w' => e = .returned (.int .i64 (delE id)) ∧ Below w.heap.size w w' := by
  have hb1 := below_alloc1 w (.cells #[.int .i64 2, .int .i64 id, .slice none 0 0] 39)
  have hbk := Blk.new w 39 #[.int .i64 2, .int .i64 id, .slice none 0 0]
  have c0 := hbk.cell 0
  have c1 := hbk.cell 1
  have c2 := hbk.cell 2
  simp only [List.getElem?_toArray, List.getElem?_cons_zero, List.getElem?_cons_succ] at c0 c1 c2
  by_cases h : id < 1 ∨ 1000000000 < id
  · have hE : delE id = 50 := by rw [delE, if_pos h]
    rw [hE]
    obtain ⟨x, hx⟩ : ∃ x, decide (id < 1) = x := ⟨_, rfl⟩
    obtain ⟨y, hy⟩ : ∃ y, decide ((1000000000 : Int) < id) = y := ⟨_, rfl⟩
    have hxy : (x || y) = true := by rw [← hx, ← hy]; simpa using h
    clear h hE
    go_enter Tryz.func24, Tryz.ntmps24
    rcases x with _ | _
    · obtain rfl : y = true := by simpa using hxy
      go_wp2_with fail
      go_ret
      exact ⟨rfl, hb1⟩
    · go_wp2_with fail
      go_ret
      exact ⟨rfl, hb1⟩
  · have hE : delE id = 0 := by rw [delE, if_neg h]
    rw [hE]
    have hx : decide (id < 1) = false := decide_eq_false (by omega)
    have hy : decide ((1000000000 : Int) < id) = false := decide_eq_false (by omega)
    clear h hE
    go_enter Tryz.func24, Tryz.ntmps24
    go_wp2_with fail
    go_ret
    exact ⟨rfl, hb1⟩
/-- A change as bytes. -/
def coordsB (v : List Int) : List UInt8 := v.flatMap fun x => leB 4 x
theorem coordsB_length : ∀ v : List Int, (coordsB v).length = 4 * v.length
  | [] => rfl
  | x :: v => by
    have h := coordsB_length v
    unfold coordsB at h ⊢
    rw [List.flatMap_cons, List.length_append, h, leB_length, List.length_cons]
    omega
theorem coordsB_take (v : List Int) (j : Nat) (h : j < v.length) : coordsB (v.take j) ++ leB 4 (nth v j) = coordsB (v.take (j + 1)) := by
  rw [List.take_add_one, coordsB, coordsB, List.flatMap_append]
  simp [nth, h]
def putB (id : Int) (v : List Int) : List UInt8 := leB 1 1 ++ leB 4 id ++ leB 1 (v.length : Int) ++ coordsB v
def delB (id : Int) : List UInt8 := leB 1 2 ++ leB 4 id
theorem putB_length (id : Int) (v : List Int) : (putB id v).length = 6 + 4 * v.length := by
  simp [putB, leB_length, coordsB_length]
  omega
theorem delB_length (id : Int) : (delB id).length = 5 := by simp [delB, leB_length]
def TextPost (w : World) (d : List UInt8) (f : Int) (e : Ending) (w' : World) : Prop := e = .returned (.tuple #[strV d, .int .i64 f]) ∧ Below w.heap.size w w'
theorem three_held {w1 w2 : World} {a1 a2 a3 : Addr} {v1 v2 v3 : Value} (h : w1.cell? a1 = some v1 ∧ w1.cell? a2 = some v2 ∧ w1.cell? a3 = some v3) (hb : Below w1.heap.size w1 w2) :
    w2.cell? a1 = some v1 ∧ w2.cell? a2 = some v2 ∧ w2.cell? a3 = some v3 := ⟨below_cell hb h.1, below_cell hb h.2.1, below_cell hb h.2.2⟩
set_option maxRecDepth 100000 in
theorem put_bad (id : Int) (V : Option Addr) (v : List Int) (cv : Nat) (w : World) (hV : Row w V v) (hE : putE id v ≠ 0) :
    Calls Tryz.prog 7 #[.agg #[.int .i64 1, .int .i64 id, .slice V v.length cv]] w (TextPost w [] (putE id v)) := by
  have hb1 := below_alloc1 w (.cells #[.int .i64 1, .int .i64 id, .slice V v.length cv] 39)
  have hbk := Blk.new w 39 #[.int .i64 1, .int .i64 id, .slice V v.length cv]
  have c0 := hbk.cell 0
  have c1 := hbk.cell 1
  have c2 := hbk.cell 2
  simp only [List.getElem?_toArray, List.getElem?_cons_zero, List.getElem?_cons_succ] at c0 c1 c2
  have hM := Lib.hid (fun x (hx : Below w.heap.size w x) => may_put id V v cv x (hV.below hx))
  have hne : (putE id v != 0) = true := by simpa using hE
  generalize putE id v = E at *
  clear hE
  go_enter Tryz.func7, Tryz.ntmps7
  go_wp2_with fail
  refine (hM.out _ hb1).mono ?_
  rintro e w1 ⟨rfl, hb⟩
  go_wp2_with fail
  go_ret2
  exact ⟨rfl, below_chain hb1 hb hb1.size⟩
set_option maxRecDepth 100000 in
theorem del_bad (id : Int) (w : World) (hE : delE id ≠ 0) :
    Calls Tryz.prog 7 #[.agg #[.int .i64 2, .int .i64 id, .slice none 0 0]] w (TextPost w [] (delE id)) := by
  have hb1 := below_alloc1 w (.cells #[.int .i64 2, .int .i64 id, .slice none 0 0] 39)
  have hbk := Blk.new w 39 #[.int .i64 2, .int .i64 id, .slice none 0 0]
  have c0 := hbk.cell 0
  have c1 := hbk.cell 1
  have c2 := hbk.cell 2
  simp only [List.getElem?_toArray, List.getElem?_cons_zero, List.getElem?_cons_succ] at c0 c1 c2
  have hM := Lib.hid (fun x => may_del id x)
  have hne : (delE id != 0) = true := by simpa using hE
  generalize delE id = E at *
  clear hE
  go_enter Tryz.func7, Tryz.ntmps7
  go_wp2_with fail
  refine (hM.out _).mono ?_
  rintro e w1 ⟨rfl, hb⟩
  go_wp2_with fail
  go_ret2
  exact ⟨rfl, below_chain hb1 hb hb1.size⟩
end Go.Proofs.YtejbfglaalmafaaGreatDoor
