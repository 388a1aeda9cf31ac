/- The contract of keeps: a store keeps a row. -/
import Derived.Test.YtejbfglaalmafaaGreatDoorLSOne
namespace Go.Proofs.YtejbfglaalmafaaGreatDoor
open Go.RowKit
set_option linter.unusedVariables false

theorem AnyT.to_below {w w' : World} (h : AnyT w.heap.size w w') : Below w.heap.size w w' := ⟨h.os, h.tape, h.output, h.size, h.low⟩
theorem AnyT.refl (b : Nat) (w : World) : AnyT b w w := Ty.refl
theorem new_ds {w : World} {dk nm sm b : Nat} (hd : Disk w dk 4194304 nm sm (.slice none 0 0) 0) (hm : NMap w nm 0 (.map [])) (hs : NMap w sm 0 (.map [])) (h1 : b ≤ nm) (h2 : nm < sm) (h3 : sm < dk) : DS w b nm dk 0 (fun _ => 0) (fun _ => []) (fun _ => true) true 0 :=
  ⟨sm, .slice none 0 0, 0, 0, 0, .map [], 0, {
    hd := hd
    hm := hm
    hs := hs
    hc := ⟨[], World.ownsRow_nil _ _ _ _⟩
    hn := Nat.le_refl _
    hk := Nat.le_refl _
    bd := by omega
    bn := h1
    ne := by omega
    hz := fun e => by cases e
    hf := fun i hi => by omega
    hi := fun i j hi => by omega }⟩
theorem row_five {w : World} : Row (w.alloc (.cells #[.int .i64 5] 3)) (some ⟨w.heap.size, 0, none⟩) [5] := Row.of_blk (Blk.new w 3 (ints [5]))
def KeepsP (w : World) (e : Ending) (w' : World) : Prop := e = .returned (.bool true) ∧ Below w.heap.size w w'
set_option maxRecDepth 100000 in
set_option maxHeartbeats 4000000 in
theorem keeps_ok (w : World) (hB : Tab w w.heap.size) : Calls Tryz.prog 13 #[] w (KeepsP w) := by
  have hNew := Lib.hid (new_ok 4194304 (by omega) (by omega) w)
  obtain ⟨b, hb⟩ : ∃ b, w.heap.size = b := ⟨_, rfl⟩
  go_enter Tryz.func13, Tryz.ntmps13
  go_wp2_with fail
  refine hNew.out.mono ?_
  rintro e w1 ⟨dk, nm, sm, rfl, hd1, hm1, hs1, hn1, hn2, hn3, hb1⟩
  have hD1 := new_ds (b := b) hd1 hm1 hs1 (by omega) hn2 hn3
  have hA1 : AnyT b w w1 := (AnyT.refl b w).below (by omega) hb1
  have hbw : b ≤ w.heap.size := by omega
  have hBb : Tab w b := by rw [hb] at hB; exact hB
  have hOp := Lib.hid (sopen_new hD1 (by omega) (hBb.ty hA1))
  clear hNew hd1 hm1 hs1 hn1 hn2 hn3 hb1 hD1
  go_wp2_with fail
  refine hOp.out.mono ?_
  rintro e w2 ⟨st, lg, rm, G2, Q2, rfl, hW2, hst2, hbst, hbrm, hrm2, hrn, hT2⟩
  have hA2 : AnyT b w w2 := hA1.trans hT2
  have hba := below_alloc1 w2 (.cells #[.int .i64 5] 3)
  have hW3 := hW2.below hba
  have hst3 := hst2.below hba hst2.lt
  have hrm3 : RMap (w2.alloc (.cells #[.int .i64 5] 3)) rm 0 (.map []) := World.ownsMap.alloc hrm2 _
  have hv3 := row_five (w := w2)
  have hA3 := hA2.below hbw hba
  have hPu := Lib.hid (sput_ok (c := 1) hW3 (by omega) (hBb.ty hA3) hst3 hbst hbrm hrm3 hrn hv3)
  clear hOp hW2 hst2 hrm2 hT2 hA1 hA2 hba hW3 hst3 hrm3 hv3
  go_wp2_with fail
  refine hPu.out.mono ?_
  rintro e w4 ⟨G4, Q4, F4, A4, c4, rfl, hW4, hst4, hT4⟩
  have hA4 : AnyT b w w4 := hA3.trans hT4.any
  have hSy := Lib.hid (ssync_ok hW4 hst4 hbst)
  clear hPu hA3 hT4 hst4 hW4
  go_wp2_with fail
  refine hSy.out.mono ?_
  rintro e w5 ⟨rfl, hW5, hT5⟩
  have hA5 : AnyT b w w5 := hA4.trans hT5
  have hCr := Lib.hid (crash_ok hW5.2 (by omega) (by omega) (by omega) (fun i hi => by rw [seg_ds1 i hi]; omega) none 0 [] (by simp) Row.nil_ (fun g o e _ => by cases e))
  clear hSy hA4 hT5 hW5
  go_wp2_with fail
  refine hCr.out.mono ?_
  rintro e w6 ⟨nm6, G6, rfl, hn6, hD6, hT6⟩
  have hA6 : AnyT b w w6 := hA5.trans hT6.any
  have hO2 := Lib.hid (sopen_one hD6)
  clear hCr hA5 hT6 hn6 hD6
  go_wp2_with fail
  refine hO2.out.mono ?_
  rintro e w7 ⟨st7, dk7, lg7, rm7, n7, g7, D7, hT7, rfl, hst7, hrm7, hat7, hv7⟩
  have hA7 : AnyT b w w7 := hA6.trans hT7
  have hGe := Lib.hid (sget_ok hst7 hrm7 hat7 hv7)
  clear hO2 hA6 hT7 hst7 hrm7 hv7
  go_wp2_with fail
  refine hGe.out.mono ?_
  rintro e w8 ⟨g8, c8, rfl, hv8, hb8⟩
  have hA8 : AnyT b w w8 := hA7.below hbw hb8
  have hba := below_alloc1 w8 (.cells #[.int .i64 5] 3)
  have hA9 := hA8.below hbw hba
  have hIn := Lib.hid (ints_ok (some ⟨g8, 0, none⟩) (some ⟨w8.heap.size, 0, none⟩) [5] c8 1 (by simp) _ (hv8.below hba) (row_five (w := w8)))
  clear hGe hA7 hb8 hA8 hba hv8
  go_wp2_with fail
  refine hIn.out.mono ?_
  rintro e w10 ⟨rfl, hb10⟩
  have hA10 : AnyT b w w10 := hA9.below hbw hb10
  clear hIn hA9 hb10
  go_wp2_with fail
  go_ret
  rw [← hb] at hA10
  exact ⟨rfl, hA10.to_below⟩
end Go.Proofs.YtejbfglaalmafaaGreatDoor
