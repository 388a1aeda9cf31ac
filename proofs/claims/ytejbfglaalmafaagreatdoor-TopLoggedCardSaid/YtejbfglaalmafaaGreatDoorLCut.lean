/- The contracts of codec's reading: cut, number. -/
import Derived.Test.YtejbfglaalmafaaGreatDoorLChg
import Derived.Lib.BufferWrite
namespace Go.Proofs.YtejbfglaalmafaaGreatDoor
open Go.RowKit
set_option linter.unusedVariables false

theorem grown2 {a w w' : World} {row : Option Nat} (h : a.grownBy w row) (k : w.grownBy w' row) : a.grownBy w' row :=
  ⟨k.os.trans h.os, k.tape.trans h.tape, k.output.trans h.output, Nat.le_trans h.size k.size, fun i hi hr => (k.block i (Nat.lt_of_lt_of_le hi h.size) hr).trans (h.block i hi hr)⟩
theorem read_info : (Tryz.prog.info? 5).map (·.size) = some 1 := by kernel_rfl
/-- 'copy(dst, s)', of a string that is as long as dst or longer, all of dst's block. -/
theorem run_copy_front (w : World) (ty : TypeId) (g : Nat) (d rest : List UInt8) (cur : Array Value) (t : TypeId) (hg : w.heap[g]? = some (.cells cur t (0, 0))) (hfit : cur.size = d.length) (h0 : 0 < d.length) :
    (Builtin.copy_ #[69, 9] ty #[.slice (some ⟨g, 0, none⟩) d.length d.length, strV (d ++ rest)]).run Tryz.prog w = .ok (goInt d.length) (w.setRow g (bytesV d).toArray) := by
  have hlen : (Lib.byteCells d).length = d.length := Lib.byteCells_length _
  have hst := run_storeCells_at Tryz.prog g 0 t (Lib.byteCells d) 0 cur w hg (by rw [hlen]; omega) (Lib.byteCells_one _)
  have hsz : (ByteArray.mk (d ++ rest).toArray).size = d.length + rest.length := by simp [ByteArray.size]
  have hmin : Nat.min (ByteArray.mk (d ++ rest).toArray).size d.length = d.length := Nat.min_eq_right (by rw [hsz]; omega)
  have htk : List.take d.length (List.map (fun b : UInt8 => Value.int IntKind.u8 (b.toNat : Int)) (ByteArray.mk (d ++ rest).toArray).data.toList) = Lib.byteCells d := by
    simp [Lib.byteCells]
  have hbv : Lib.byteCells d = bytesV d := rfl
  rw [hlen] at hst
  simp only [Nat.add_zero, Nat.zero_add] at hst
  rw [show cur.toList.drop d.length = [] from List.drop_of_length_le (by simp; omega)] at hst
  cases hq : Tryz.prog.info? 5 with
  | none => exact absurd read_info (by rw [hq]; simp)
  | some i =>
    have hi : i.size = 1 := by have h := read_info; rw [hq] at h; simpa using h
    simp only [strV]
    simp [Builtin.copy_, run_underlying Tryz.underlying69, Builtin.lenOf, Builtin.firstCells, sizeOf, typeInfo, hq, hmin]
    rw [show (List.map (fun b : UInt8 => Value.int IntKind.u8 (b.toNat : Int)) d) = Lib.byteCells d from rfl, hst, ← hbv]
    simp [Result.andThen]
theorem run_slice_front (w : World) (d rest : List UInt8) : (Instr.slice 9 (strV (d ++ rest)) (some (.int .i64 (d.length : Int))) none none).run Tryz.prog w = .ok (strV rest) w := by
  have hsz : (ByteArray.mk (d ++ rest).toArray).size = d.length + rest.length := by simp [ByteArray.size]
  rw [strV, run_slice_string_l w _ _ Tryz.underlying9 .i64 (d.length : Int) (by omega) (by rw [hsz]; omega), hsz]
  simp only [strV, Int.toNat_natCast]
  have e : (ByteArray.mk (d ++ rest).toArray).extract d.length (d.length + rest.length) = ByteArray.mk rest.toArray := by
    apply ByteArray.ext
    simp
  rw [e]
theorem run_make_bytes (n : Nat) (hn : n ≤ 1000000) (w : World) :
    ∃ cur w1, (Instr.makeSlice 69 (.int .i64 (n : Int)) (.int .i64 (n : Int))).run Tryz.prog w = .ok (.slice (some ⟨w.heap.size, 0, none⟩) n n) w1 ∧ Blk w1 w.heap.size 5 cur ∧ cur.size = n ∧ w.grownBy w1 none := by
  obtain ⟨i0, h0, hz⟩ := Option.map_eq_some_iff.1 byte_info
  simp only [Prod.mk.injEq] at hz
  obtain ⟨hz0, hz1, hz2⟩ := hz
  have h := run_make (P := Tryz.prog) w 69 5 i0 _ Tryz.underlying69 h0 hz0 .i64 .i64 (n : Int) (n : Int) (by omega) (Int.le_refl _) (by rw [hz2]; omega) (by omega)
  rw [hz1, Nat.mul_one, Int.toNat_natCast] at h
  exact ⟨_, _, h, Blk.new _ _ _, by simp [madeCells, Value.cells], grown_alloc _ _⟩
/-- A reading: the text that is left, and nothing bad so far. -/
def readV (l : List UInt8) : Array Value := #[strV l, .bool false]
def CutPost (w : World) (R : Nat) (d rest : List UInt8) (e : Ending) (w' : World) : Prop := e = .returned (.slice (some ⟨w.heap.size, 0, none⟩) d.length d.length) ∧ Blk w' w.heap.size 5 (bytesV d).toArray ∧ Blk w' R 97 (readV rest) ∧ w.grownBy w' (some R)
set_option maxRecDepth 100000 in
theorem cut_ok (R : Nat) (d rest : List UInt8) (h0 : 0 < d.length) (hd : d.length ≤ 64) (hr : rest.length ≤ 1000000) (w : World) (hR : Blk w R 97 (readV (d ++ rest))) :
    Calls Tryz.prog 60 #[.pointer (some ⟨R, 0, none⟩), .int .i64 (d.length : Int)] w (CutPost w R d rest) := by
  obtain ⟨cur, w1, hmk, hN, hcs, hg1⟩ := run_make_bytes d.length (by omega) w
  have hlt := hR.lt
  have hR1 := hR.grown hg1 (by simp)
  have c0 := hR1.cell 0
  have c1 := hR1.cell 1
  have f0 := hR1.frozen 0
  have f1 := hR1.frozen 1
  have hw1 := hg1.size
  have hg2 : w.grownBy w1 (some R) := ⟨hg1.os, hg1.tape, hg1.output, hg1.size, fun i hi _ => hg1.block i hi (by simp)⟩
  have hlong : (ByteArray.mk (d ++ rest).toArray).size = d.length + rest.length := by simp [ByteArray.size]
  have hle : decide ((d.length : Int) + (rest.length : Int) < (d.length : Int)) = false := decide_eq_false (by omega)
  have hR2 := hR1.set_ 1 (.bool false)
  have hN2 := hN.far (p := ⟨R, 1, none⟩) (by simp; omega) (.bool false)
  have hg3 := grown2 hg2 (grown_set w1 ⟨R, 1, none⟩ (.bool false))
  have hcp := run_copy_front (w1.setCell ⟨R, 1, none⟩ (.bool false)) 3 w.heap.size d rest cur 5 hN2 hcs h0
  obtain ⟨w3, hw3⟩ : ∃ w3, w3 = (w1.setCell ⟨R, 1, none⟩ (.bool false)).setRow w.heap.size (bytesV d).toArray := ⟨_, rfl⟩
  have hN3 : Blk w3 w.heap.size 5 (bytesV d).toArray := by rw [hw3]; exact setRow_heap _ _ _ _ _ _ hN2
  have hgr : (w1.setCell ⟨R, 1, none⟩ (.bool false)).grownBy w3 (some w.heap.size) := by rw [hw3]; exact ⟨rfl, rfl, rfl, by simp [World.setRow], fun i _ hne => setRow_other _ _ i _ (fun e => hne (by rw [e]))⟩
  have hR3 := hR2.grown hgr (by simp; omega)
  have hg4 : w.grownBy w3 (some R) := ⟨hgr.os.trans hg3.os, hgr.tape.trans hg3.tape, hgr.output.trans hg3.output, Nat.le_trans hg3.size hgr.size, fun i hi hne => (hgr.block i (Nat.lt_of_lt_of_le hi hg3.size) (by simp; omega)).trans (hg3.block i hi hne)⟩
  rw [← hw3] at hcp
  have hsl := run_slice_front w3 d rest
  have d0 := hR3.cell 0
  have e0 := hR3.frozen 0
  have hRe : ((readV (d ++ rest)).setIfInBounds 1 (.bool false)).setIfInBounds 0 (strV rest) = readV rest := by simp [readV]
  have hR4 := hR3.set_ 0 (strV rest)
  rw [hRe] at hR4
  have hN4 := hN3.far (p := ⟨R, 0, none⟩) (by simp; omega) (strV rest)
  have hg5 := grown2 hg4 (grown_set w3 ⟨R, 0, none⟩ (strV rest))
  simp [readV] at d0
  simp only [readV, List.getElem?_toArray, List.getElem?_cons_zero, List.getElem?_cons_succ] at c0 c1
  have hfin : CutPost w R d rest (.returned (.slice (some ⟨w.heap.size, 0, none⟩) d.length d.length)) (w3.setCell ⟨R, 0, none⟩ (strV rest)) := ⟨rfl, hN4, hR4, hg5⟩
  clear hg5 hN4 hR4 hRe hg4 hR3 hgr hN3 hw3 hR2 hN2 hg3 hg2 hg1 hN hR1 hR hw1 hcs
  replace hfin := Lib.hid hfin
  replace hd := Lib.hid hd
  replace hr := Lib.hid hr
  simp only [strV] at c0 d0 hcp hsl
  go_enter Tryz.func60, Tryz.ntmps60
  go_wp2_with fail
  go_ret
  exact hfin.out
end Go.Proofs.YtejbfglaalmafaaGreatDoor
