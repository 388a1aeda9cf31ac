/- The contracts of (*Log).settle: on an empty disk, behind whole segments. -/
import Derived.Test.YtejbfglaalmafaaGreatDoorLWApp
namespace Go.Proofs.YtejbfglaalmafaaGreatDoor
open Go.RowKit
set_option linter.unusedVariables false

theorem DS.dirty {w : World} {b nm dk k : Nat} {G : Nat → Nat} {S : Nat → List UInt8} {F F' : Nat → Bool} {Z : Bool} {N : Nat} (h : DS w b nm dk k G S F Z N) (hF : ∀ i, i < k → F' i = false → F i = false) : DS w b nm dk k G S F' true N := by
  obtain ⟨sm, ch, st, n, ns, D2, kk, h⟩ := h
  exact ⟨sm, ch, st, n, ns, D2, kk, { h with
    hz := fun e => by cases e
    hf := fun i hi => by
      obtain ⟨h1, s, h2, h3⟩ := h.hf i hi
      exact ⟨h1, s, h2, fun e => h3 (hF i hi e)⟩ }⟩
def SettledP (w : World) (b nm dk lg k : Nat) (G Q : Nat → Nat) (ds : Nat → List (List UInt8)) (N : Nat) (e : Ending) (w' : World) : Prop := e = .returned (.int .i64 0) ∧ WS w' b nm dk lg k G Q ds (fun _ => false) false N ∧ Ty b wsT (fun _ => False) w w'
set_option maxRecDepth 100000 in
set_option maxHeartbeats 4000000 in
theorem settle_ok {w : World} {b nm dk lg k : Nat} {G Q : Nat → Nat} {ds : Nat → List (List UInt8)} {F F2 : Nat → Bool} {Z Zl : Bool} {N : Nat} {v : Value} {sy : Int} (hL : LGx w b dk lg k Q ds F Zl v sy) (hD : DS w b nm dk k G (segS ds) F2 Z N) (hF : ∀ i, i < k → F i = false → F2 i = false) (hk6 : k ≤ 6) (hN : fiN ds k ≤ 1000000) (vl : Value) :
    Calls Tryz.prog 23 #[.pointer (some ⟨lg, 0, none⟩), .slice none 0 0, vl, .bool true] w (SettledP w b nm dk lg k G Q ds N) := by
  have x3 : w.cell? ⟨lg, 3, none⟩ = some (.bool Zl) := hL.hl.cell 3
  have xf := hL.hl.frozen 3
  obtain ⟨hL5, hT5⟩ := hL.log (Z' := true) (sy' := sy) (grown_set w ⟨lg, 3, none⟩ (.bool true)) (hL.hl.set_ 3 _)
  have hD5 := (hD.dirty hF).ty hT5 rfl rfl rfl rfl
  have hW5 : WS (w.setCell ⟨lg, 3, none⟩ (.bool true)) b nm dk lg k G Q ds F true N := ⟨⟨v, sy, hL5⟩, hD5⟩
  have hSy := Lib.hid (wsync_ok hW5 hk6 hN)
  have hT6 : Ty b wsT (fun _ => False) w (w.setCell ⟨lg, 3, none⟩ (.bool true)) := hT5.wal
  clear hL hD hF hk6 hN hL5 hT5 hD5 hW5
  go_enter Tryz.func23, Tryz.ntmps23
  go_upto_region 2 with fail
  generalize w.setCell ⟨lg, 3, none⟩ (.bool true) = w1 at *
  go_wp2_with fail
  go_loopw [27] (fun u wr => u = .int .i64 0 ∧ wr = w1) (fun _ _ => 0)
  case atStart => exact ⟨rfl, rfl⟩
  case round =>
    obtain ⟨rfl, rfl⟩ := hrel
    go_wp2_with fail
    refine hSy.out.mono ?_
    rintro e w2 ⟨rfl, hW2, hT2⟩
    have hfin : SettledP w b nm dk lg k G Q ds N (.returned (.int .i64 0)) w2 := ⟨rfl, hW2, hT6.trans hT2⟩
    replace hfin := Lib.hid hfin
    clear hW2 hT2
    go_wp2_with fail
    go_ret
    exact hfin.out
def SettledNewP (w : World) (b nm dk lg : Nat) (ds : Nat → List (List UInt8)) (N : Nat) (e : Ending) (w' : World) : Prop := ∃ G' Q', e = .returned (.int .i64 0) ∧ WS w' b nm dk lg 1 G' Q' (upd ds 0 []) (fun _ => false) false (N + 1) ∧ Ty b wsT (fun i => i = nm) w w'
set_option maxRecDepth 100000 in
set_option maxHeartbeats 4000000 in
theorem settle_new {w : World} {b nm dk lg : Nat} {G Q : Nat → Nat} {ds : Nat → List (List UInt8)} {F F2 : Nat → Bool} {Z Zl : Bool} {N : Nat} {v : Value} {sy : Int} (hL : LGx w b dk lg 0 Q ds F Zl v sy) (hD : DS w b nm dk 0 G (segS ds) F2 Z N) (hN : N ≤ 100000) (hB : Tab w b) :
    Calls Tryz.prog 23 #[.pointer (some ⟨lg, 0, none⟩), .slice none 0 0, .slice none 0 0, .bool false] w (SettledNewP w b nm dk lg ds N) := by
  have x3 : w.cell? ⟨lg, 3, none⟩ = some (.bool Zl) := hL.hl.cell 3
  have xf := hL.hl.frozen 3
  obtain ⟨hL5, hT5⟩ := hL.log (Z' := true) (sy' := sy) (grown_set w ⟨lg, 3, none⟩ (.bool true)) (hL.hl.set_ 3 _)
  have hD5 := (hD.dirty (F' := F) (fun i hi => by omega)).ty hT5 rfl rfl rfl rfl
  have hW5 : WS (w.setCell ⟨lg, 3, none⟩ (.bool true)) b nm dk lg 0 G Q ds F true N := ⟨⟨v, sy, hL5⟩, hD5⟩
  have hSy := Lib.hid (wsync_ok hW5 (by omega) (by simp only [fiN]; omega))
  have hT6 : Ty b wsT (fun i => i = nm) w (w.setCell ⟨lg, 3, none⟩ (.bool true)) := hT5.wal.mono (fun _ e => e) (fun _ e => e.elim)
  clear hL hD hL5 hT5 hD5 hW5
  replace hN := Lib.hid hN
  go_enter Tryz.func23, Tryz.ntmps23
  go_upto_region 2 with fail
  generalize w.setCell ⟨lg, 3, none⟩ (.bool true) = w1 at *
  go_wp2_with fail
  go_loopw [27] (fun u wr => u = .int .i64 0 ∧ wr = w1) (fun _ _ => 0)
  case atStart => exact ⟨rfl, rfl⟩
  case round =>
    obtain ⟨rfl, rfl⟩ := hrel
    go_wp2_with fail
    refine hSy.out.mono ?_
    rintro e w2 ⟨rfl, hW2, hT2⟩
    have hT3 := hT6.trans (hT2.mono (fun _ e => e) (fun _ e => e.elim))
    obtain ⟨⟨v2, sy2, hL2⟩, hD2⟩ := hW2
    have hLa := Lib.hid (last_ok hL2 (by simp only [fiN]; omega) (by omega))
    obtain ⟨A, cap, rfl, -, -⟩ := hL2.shape
    clear hSy hT2 hT6
    go_wp2_with fail
    refine hLa.out.mono ?_
    rintro e w3 ⟨rfl, hb3⟩
    have hL3 := hL2.below hb3
    have hD3 := hD2.below hb3
    have hT4 := hT3.trans (Ty.of_below hb3 hD2.size)
    have c1 : w3.cell? ⟨lg, 1, none⟩ = some (.slice A 0 cap) := hL3.hl.cell 1
    have hBg := Lib.hid (begin_ok ⟨⟨_, _, hL3⟩, hD3⟩ (by omega) (by have := hN.out; omega) (by simp only [fiN]; omega) (fun j hj => by omega) (hB.ty hT4))
    have hf0 : fiN ds 0 = 1 := rfl
    rw [hf0] at hBg
    simp only [hf0]
    clear hL2 hD2 hLa hL3 hD3 hT3 hb3 hf0
    go_wp2_with fail
    refine hBg.out.mono ?_
    rintro e w4 ⟨g4, q4, rfl, hW4, hT5⟩
    have hT6 := hT4.trans hT5
    have hSy := Lib.hid (wsync_ok hW4 (by omega) (by simp only [fiN, upd_at]; simp))
    clear hBg hT4 hT5 c1 hW4
    go_wp2_with fail
    go_loopw [96] (fun u wr => u = .int .i64 0 ∧ wr = w4) (fun _ _ => 0)
    case atStart => exact ⟨rfl, rfl⟩
    case round =>
      obtain ⟨rfl, rfl⟩ := hrel
      go_wp2_with fail
      refine hSy.out.mono ?_
      rintro e w5 ⟨rfl, hW5, hT5⟩
      have hfin : SettledNewP w b nm dk lg ds N (.returned (.int .i64 0)) w5 := ⟨_, _, rfl, hW5, hT6.trans (hT5.mono (fun _ e => e) (fun _ e => e.elim))⟩
      replace hfin := Lib.hid hfin
      clear hW5 hT5
      go_wp2_with fail
      go_ret
      exact hfin.out
end Go.Proofs.YtejbfglaalmafaaGreatDoor
