/- The contract of (*Disk).Sync. -/
import Derived.Test.YtejbfglaalmafaaGreatDoorLAppend
namespace Go.Proofs.YtejbfglaalmafaaGreatDoor
open Go.RowKit
set_option linter.unusedVariables false

def SyncPost (w : World) (dk : Nat) (room : Int) (nm sm : Nat) (ch : Value) (g : Nat) (v : Value) (m : Nat) (st : Int) (e : Ending) (w' : World) : Prop :=
  e = .returned (.int .i64 0) ∧ Disk w' dk room nm sm ch st ∧ Blk w' g 94 (fileV v (m : Int)) ∧ Fr (fun i => i = g ∨ i = dk) w w'
set_option maxRecDepth 100000 in
theorem sync_ok (dk : Nat) (room : Int) (nm sm : Nat) (ch : Value) (st : Int) (n g : Nat) (D : DataW Unit) (l : List UInt8) (A : Option Addr) (m c : Nat) (s : Int) (hl : l.length ≤ 1000000) (w : World) (hd : Disk w dk room nm sm ch st) (hm : NMap w nm n D) (hat : D.atKey (keyL l) .nil = .lit (.int .i64 (g : Int)))
    (hg : Blk w g 94 (fileV (.slice A m c) s)) (hgd : g ≠ dk) :
    Calls Tryz.prog 28 #[.pointer (some ⟨dk, 0, none⟩), strV l] w (SyncPost w dk room nm sm ch g (.slice A m c) m (wrap64 (st + 1))) := by
  have h1 := Lib.hid (find_ok dk room nm sm ch st n g D l hl w hd hm hat)
  have g0 : w.cell? ⟨g, 0, none⟩ = some (.slice A m c) := hg.cell 0
  have g1 : w.cell? ⟨g, 1, none⟩ = some (.int .i64 s) := hg.cell 1
  have f1 := hg.frozen 1
  obtain ⟨S, hS⟩ : ∃ S, strV l = .string S := ⟨_, rfl⟩
  rw [hS] at h1 ⊢
  have hg1 := grown_set w ⟨g, 1, none⟩ (.int .i64 (m : Int))
  have F1 : Blk (w.setCell ⟨g, 1, none⟩ (.int .i64 (m : Int))) g 94 (fileV (.slice A m c) (m : Int)) := Blk.set_ hg 1 _
  have D1 : Disk (w.setCell ⟨g, 1, none⟩ (.int .i64 (m : Int))) dk room nm sm ch st := Blk.grown hd hg1 (by simp; omega)
  have fr1 : Fr (fun i => i = g ∨ i = dk) w (w.setCell ⟨g, 1, none⟩ (.int .i64 (m : Int))) := (Fr.refl _ w).step hg1 (fun k e => by injection e with e; exact .inl (.inl e.symm))
  have hdn := Lib.hid (done_ok dk room nm sm _ st _ D1)
  clear hS hat hl hd hm hg D1 hg1
  go_enter Tryz.func28, Tryz.ntmps28
  go_wp2_with fail
  refine h1.out.mono ?_
  rintro e w0 ⟨rfl, rfl⟩
  go_wp2_with fail
  refine hdn.out.mono ?_
  rintro e w8 ⟨rfl, hd8, hg8⟩
  have F8 := F1.grown hg8 (by simp; omega)
  have fr8 := fr1.step hg8 (fun k e => by injection e with e; exact .inl (.inr e.symm))
  go_wp2_with fail
  go_ret
  exact ⟨rfl, hd8, F8, fr8⟩
end Go.Proofs.YtejbfglaalmafaaGreatDoor
