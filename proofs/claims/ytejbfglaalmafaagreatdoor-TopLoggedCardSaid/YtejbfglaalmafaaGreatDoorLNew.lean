/- The contract of disk.New. -/
import Derived.Test.YtejbfglaalmafaaGreatDoorLSync
namespace Go.Proofs.YtejbfglaalmafaaGreatDoor
open Go.RowKit
set_option linter.unusedVariables false

def NewPost (w : World) (room : Int) (e : Ending) (w' : World) : Prop :=
  ∃ dk nm sm : Nat, e = .returned (.tuple #[.pointer (some ⟨dk, 0, none⟩), .int .i64 0]) ∧ Disk w' dk room nm sm (.slice none 0 0) 0 ∧ NMap w' nm 0 (.map []) ∧ NMap w' sm 0 (.map []) ∧ w.heap.size ≤ nm ∧ nm < sm ∧ sm < dk ∧ Below w.heap.size w w'
set_option maxRecDepth 100000 in
theorem new_ok (room : Int) (h1 : 1 ≤ room) (h2 : room ≤ 4194304) (w : World) :
    Calls Tryz.prog 5 #[.int .i64 room] w (NewPost w room) := by
  have p1 : decide (room < 1) = false := decide_eq_false (by omega)
  have p2 : decide ((4194304 : Int) < room) = false := decide_eq_false (by omega)
  have hmm := @run_makeMap Tryz.prog
  have hfin : NewPost w room (.returned (.tuple #[.pointer (some ⟨w.heap.size + 1 + 1, 0, none⟩), .int .i64 0])) (((w.alloc (.map #[] 0)).alloc (.map #[] 0)).alloc (.cells (diskV room w.heap.size (w.heap.size + 1) (.slice none 0 0) 0) 57)) := by
    have e1 : (w.alloc (.map #[] 0)).heap.size = w.heap.size + 1 := by simp
    have e2 : ((w.alloc (.map #[] 0)).alloc (.map #[] 0)).heap.size = w.heap.size + 1 + 1 := by simp
    have hm1 := ((World.ownsMap_made w Tryz.prog 9 ptrElem).alloc (.map #[] 0)).alloc (.cells (diskV room w.heap.size (w.heap.size + 1) (.slice none 0 0) 0) 57)
    have hm2 := (World.ownsMap_made (w.alloc (.map #[] 0)) Tryz.prog 9 ptrElem).alloc (.cells (diskV room w.heap.size (w.heap.size + 1) (.slice none 0 0) 0) 57)
    have hb := Blk.new ((w.alloc (.map #[] 0)).alloc (.map #[] 0)) 57 (diskV room w.heap.size (w.heap.size + 1) (.slice none 0 0) 0)
    rw [e1] at hm2
    rw [e2] at hb
    exact ⟨_, w.heap.size, w.heap.size + 1, rfl, hb, hm1, hm2, Nat.le_refl _, by omega, by omega, (((below_alloc1 w _).alloc (by simp) _).alloc (by simp; omega) _)⟩
  unfold diskV at hfin
  replace hfin := Lib.hid hfin
  clear h1 h2
  go_enter Tryz.func5, Tryz.ntmps5
  go_wp2_with fail
  go_ret2
  exact hfin.out
end Go.Proofs.YtejbfglaalmafaaGreatDoor
