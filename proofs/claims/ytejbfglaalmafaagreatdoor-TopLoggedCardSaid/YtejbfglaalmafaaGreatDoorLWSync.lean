/- The contract of (*Log).Sync. -/
import Derived.Test.YtejbfglaalmafaaGreatDoorLLay
namespace Go.Proofs.YtejbfglaalmafaaGreatDoor
open Go.RowKit
set_option linter.unusedVariables false

section
variable {w w' : World} {b nm dk lg k : Nat} {G Q : Nat → Nat} {ds : Nat → List (List UInt8)} {F : Nat → Bool} {Z : Bool} {N : Nat} {v : Value} {sy : Int}
/-- The log's own cells are changed. -/
theorem LGx.log (h : LGx w b dk lg k Q ds F Z v sy) {Z' : Bool} {sy' : Int} (hg : w.grownBy w' (some lg)) (hb : Blk w' lg 60 (logV dk v sy' Z' k)) : LGx w' b dk lg k Q ds F Z' v sy' ∧ Ty b walT (fun _ => False) w w' := by
  have hT : Ty b walT (fun _ => False) w w' := Ty.of_grown hg h.lt (Owned.blk h.hl h.bl rfl)
  have hne : ∀ j t cs, Blk w j t cs → t ≠ 60 → some j ≠ some lg := fun j t cs hj ht e => by
    injection e with e
    rw [e] at hj
    exact ht (blk_ty hj h.hl)
  exact ⟨{
    hl := hb
    hv := own_same h.hv (fun j cs hj => hg.block j hj.lt (hne _ _ _ hj (by decide)))
    hs := fun j hj => ⟨(h.hs j hj).1, (h.hs j hj).2.grown hg (hne _ _ _ (h.hs j hj).2 (by decide))⟩
    hi := h.hi
    bl := h.bl }, hT⟩
theorem LGx.shape (h : LGx w b dk lg k Q ds F Z v sy) : ∃ A cap, v = .slice A k cap ∧ k ≤ cap ∧ ∀ j, j < k → ∃ gv, A = some ⟨gv, 0, none⟩ ∧ w.cell? ⟨gv, j, none⟩ = some (.pointer (some ⟨Q j, 0, none⟩)) := by
  have ho := h.hv
  obtain ⟨_, (⟨rfl, e2⟩ | ⟨gv, cap, cur, rfl, _, _, hc, _⟩)⟩ := h.hv
  · exact ⟨none, 0, by rw [e2], by omega, fun j hj => by omega⟩
  · refine ⟨_, _, rfl, hc, fun j hj => ⟨gv, rfl, ?_⟩⟩
    rw [ho.cellAt j (by omega)]
    simp [ptrs, hj]
end
/-- The flags when the first j segments are safe. -/
def flagTo (F : Nat → Bool) (j : Nat) : Nat → Bool := fun i => if i < j then false else F i
theorem flag_here (F : Nat → Bool) (j : Nat) : flagTo F j j = F j := by simp [flagTo]
theorem flag_skip (F : Nat → Bool) (j : Nat) (h : F j = false) : flagTo F (j + 1) = flagTo F j := by
  funext i
  unfold flagTo
  by_cases e : i = j
  · subst e
    simp [h]
  · by_cases e2 : i < j
    · rw [if_pos e2, if_pos (by omega)]
    · rw [if_neg e2, if_neg (by omega)]
theorem flag_set (F : Nat → Bool) (j : Nat) : upd (flagTo F j) j false = flagTo F (j + 1) := by
  funext i
  show (if i = j then false else if i < j then false else F i) = (if i < j + 1 then false else F i)
  by_cases e : i = j
  · subst e
    simp
  · by_cases e2 : i < j
    · rw [if_neg e, if_pos e2, if_pos (by omega)]
    · rw [if_neg e, if_neg e2, if_neg (by omega)]
theorem LGx.flags {w : World} {b dk lg k : Nat} {Q : Nat → Nat} {ds : Nat → List (List UInt8)} {F F' : Nat → Bool} {Z : Bool} {v : Value} {sy : Int} (h : LGx w b dk lg k Q ds F Z v sy) (hF : ∀ i, i < k → F i = F' i) : LGx w b dk lg k Q ds F' Z v sy :=
  { h with hs := fun i hi => by rw [← hF i hi]; exact h.hs i hi }
def WSyncP (w : World) (b nm dk lg k : Nat) (G Q : Nat → Nat) (ds : Nat → List (List UInt8)) (N : Nat) (e : Ending) (w' : World) : Prop := e = .returned (.int .i64 0) ∧ WS w' b nm dk lg k G Q ds (fun _ => false) false N ∧ Ty b wsT (fun _ => False) w w'
set_option maxRecDepth 100000 in
set_option maxHeartbeats 4000000 in
theorem wsync_ok {w : World} {b nm dk lg k : Nat} {G Q : Nat → Nat} {ds : Nat → List (List UInt8)} {F : Nat → Bool} {Z : Bool} {N : Nat} (h : WS w b nm dk lg k G Q ds F Z N) (hk6 : k ≤ 6) (hN : fiN ds k ≤ 1000000) :
    Calls Tryz.prog 9 #[.pointer (some ⟨lg, 0, none⟩)] w (WSyncP w b nm dk lg k G Q ds N) := by
  obtain ⟨⟨v, sy, hL⟩, hD⟩ := h
  obtain ⟨A, cap, rfl, hc, -⟩ := hL.shape
  have c1 : w.cell? ⟨lg, 1, none⟩ = some (.slice A k cap) := hL.hl.cell 1
  replace hN := Lib.hid hN
  have hk7 := hk6
  replace hk6 := Lib.hid hk6
  replace hc := Lib.hid hc
  go_enter Tryz.func9, Tryz.ntmps9
  go_wp2_with fail
  go_loopw [14] (fun u wr => ∃ j : Nat, u = .int .i64 (j : Int) ∧ j ≤ k ∧ LGx wr b dk lg k Q ds (flagTo F j) Z (.slice A k cap) sy ∧ DS wr b nm dk k G (segS ds) (flagTo F j) Z N ∧ Ty b wsT (fun _ => False) w wr) (fun u _ => k - (intOf u).toNat)
  case atStart => exact ⟨0, rfl, Nat.zero_le _, hL.flags (fun i _ => by simp [flagTo]), hD.congr (fun i _ => rfl) (fun i _ e => by simpa [flagTo] using e), Ty.refl⟩
  case round =>
    obtain ⟨j, rfl, hj, hLj, hDj, hTj⟩ := hrel
    by_cases hjk : j < k
    · obtain ⟨A2, cap2, e2, -, hcell⟩ := hLj.shape
      simp only [Value.slice.injEq] at e2
      obtain ⟨rfl, -, rfl⟩ := e2
      obtain ⟨gv, rfl, cj⟩ := hcell j hjk
      obtain ⟨hbq, hbj⟩ := hLj.hs j hjk
      have d4 : wr.cell? ⟨Q j, 4, none⟩ = some (.bool (F j)) := by rw [← flag_here F j]; exact hbj.cell 4
      cases hFj : F j with
      | false =>
        rw [hFj] at d4
        have hfl := flag_skip F j hFj
        clear hFj hcell c1 hL hD
        go_wp2_with fail
        exact ⟨⟨j + 1, rfl, hjk, by rw [hfl]; exact hLj, by rw [hfl]; exact hDj, hTj⟩, meas64 hjk⟩
      | true =>
        rw [hFj] at d4
        obtain ⟨T, hTs⟩ : ∃ T, strV (segN j) = .string T := ⟨_, rfl⟩
        have hS := Lib.hid (dsync hDj.drew hk6.out j hjk)
        rw [hTs] at hS
        have d0 : wr.cell? ⟨Q j, 0, none⟩ = some (.string T) := by rw [← hTs]; exact hbj.cell 0
        have l0 : wr.cell? ⟨lg, 0, none⟩ = some (.pointer (some ⟨dk, 0, none⟩)) := hLj.hl.cell 0
        have S0 : wr.drew.cell? ⟨lg, 0, none⟩ = some (.pointer (some ⟨dk, 0, none⟩)) ∧ wr.drew.cell? ⟨Q j, 0, none⟩ = some (.string T) := ⟨l0, d0⟩
        clear hFj hcell c1 hL hD
        go_upto_region 7 with fail
        go_region_held3 (fun w' => w'.cell? ⟨lg, 0, none⟩ = some (.pointer (some ⟨dk, 0, none⟩)) ∧ w'.cell? ⟨Q j, 0, none⟩ = some (.string T))
          (first | (with_reducible exact S0) | (with_reducible exact S1))
          ((go_at_call 28; (with_reducible refine hS.out.mono ?_); rintro e x1 ⟨rfl, hD3, hT3⟩; have hL3 : LGx x1 b dk lg k Q ds (flagTo F j) Z (.slice (some ⟨gv, 0, none⟩) k cap) sy := LGx.ty (w := wr.drew) (hLj.below ((Below.refl _ wr).drew)) hT3 rfl rfl rfl; have S1 := And.intro (show x1.cell? ⟨lg, 0, none⟩ = some (.pointer (some ⟨dk, 0, none⟩)) from hL3.hl.cell 0) (show x1.cell? ⟨Q j, 0, none⟩ = some (.string T) by rw [← hTs]; exact (hL3.hs j hjk).2.cell 0)))
        have hb3 := (hL3.hs j hjk).2
        have e4 : x1.cell? ⟨Q j, 4, none⟩ = some (.bool (flagTo F j j)) := hb3.cell 4
        have g4 := hb3.frozen 4
        have hb4 : Blk (x1.setCell ⟨Q j, 4, none⟩ (.bool false)) (Q j) 79 (segV (segN j) (fiN ds j) (fiN ds (j + 1)) (segS ds j).length false) := hb3.set_ 4 _
        obtain ⟨hL5, hT5⟩ := hL3.seg hjk (ds' := ds) (grown_set x1 _ _) hb4 (fun i hi _ => ⟨rfl, rfl, rfl⟩)
        rw [flag_set] at hL5 hD3
        have hD5 := hD3.ty hT5 rfl rfl rfl rfl
        have hT6 := (hTj.drew.trans hT3.disk).trans hT5.wal
        clear S0 S1 hS d4 d0 l0 cj hb3 hb4 hD3 hL3 hT3 hLj hDj hbj
        go_wp2_with fail
        exact ⟨⟨j + 1, rfl, hjk, hL5, hD5, hT6⟩, meas64 hjk⟩
    · have hjk2 : j = k := Nat.le_antisymm hj (Nat.not_lt.1 hjk)
      subst hjk2
      have hL1 := hLj.flags (F' := fun _ => false) (fun i hi => by simp [flagTo, hi])
      have hD1 := hDj.congr (F' := fun _ => false) (S' := segS ds) (fun i _ => rfl) (fun i hi _ => by simp [flagTo, hi])
      clear hLj hDj hL hD c1
      have z3 : wr.cell? ⟨lg, 3, none⟩ = some (.bool Z) := hL1.hl.cell 3
      have z0 : wr.cell? ⟨lg, 0, none⟩ = some (.pointer (some ⟨dk, 0, none⟩)) := hL1.hl.cell 0
      have zf := hL1.hl.frozen 3
      cases Z with
      | false =>
        have hLa := Lib.hid (last_ok hL1 hN.out hk6.out)
        go_wp2_with fail
        refine hLa.out.mono ?_
        rintro e x1 ⟨rfl, hb1⟩
        have hL2 := hL1.below hb1
        have y2 : x1.cell? ⟨lg, 2, none⟩ = some (.int .i64 sy) := hL2.hl.cell 2
        have yf := hL2.hl.frozen 2
        obtain ⟨hL3, hT3⟩ := hL2.log (Z' := false) (sy' := ((fiN ds j - 1 : Nat) : Int)) (grown_set x1 ⟨lg, 2, none⟩ (.int .i64 ((fiN ds j - 1 : Nat) : Int))) (hL2.hl.set_ 2 _)
        have hfin : WSyncP w b nm dk lg j G Q ds N (.returned (.int .i64 0)) _ := ⟨rfl, ⟨⟨_, _, hL3⟩, (hD1.below hb1).ty hT3 rfl rfl rfl rfl⟩, (hTj.trans (Ty.of_below hb1 hD1.size)).trans hT3.wal⟩
        replace hfin := Lib.hid hfin
        clear hL3 hL2 hLa hL1 hT3
        generalize fiN ds j - 1 = q at *
        go_wp2_with fail
        go_ret
        exact hfin.out
      | true =>
        have hSd := Lib.hid (dsyncdir hD1)
        go_wp2_with fail
        refine hSd.out.mono ?_
        rintro e x0 ⟨rfl, hD2, hT2⟩
        have hL2 := hL1.ty hT2 rfl rfl rfl
        have x3 : x0.cell? ⟨lg, 3, none⟩ = some (.bool true) := hL2.hl.cell 3
        have xf := hL2.hl.frozen 3
        obtain ⟨hL3, hT3⟩ := hL2.log (Z' := false) (sy' := sy) (grown_set x0 ⟨lg, 3, none⟩ (.bool false)) (hL2.hl.set_ 3 _)
        have hD3 := hD2.ty hT3 rfl rfl rfl rfl
        have hT4 := (hTj.trans hT2.disk).trans hT3.wal
        have hLa := Lib.hid (last_ok hL3 hN.out hk6.out)
        clear hL2 hT3 hT2 hSd hL1 hD1 hD2
        go_wp2_with fail
        refine hLa.out.mono ?_
        rintro e x1 ⟨rfl, hb1⟩
        have hL4 := hL3.below hb1
        have y2 : x1.cell? ⟨lg, 2, none⟩ = some (.int .i64 sy) := hL4.hl.cell 2
        have yf := hL4.hl.frozen 2
        obtain ⟨hL5, hT5⟩ := hL4.log (Z' := false) (sy' := ((fiN ds j - 1 : Nat) : Int)) (grown_set x1 ⟨lg, 2, none⟩ (.int .i64 ((fiN ds j - 1 : Nat) : Int))) (hL4.hl.set_ 2 _)
        have hfin : WSyncP w b nm dk lg j G Q ds N (.returned (.int .i64 0)) _ := ⟨rfl, ⟨⟨_, _, hL5⟩, (hD3.below hb1).ty hT5 rfl rfl rfl rfl⟩, (hT4.trans (Ty.of_below hb1 hD3.size)).trans hT5.wal⟩
        replace hfin := Lib.hid hfin
        clear hL5 hL4 hLa hL3 hT5
        generalize fiN ds j - 1 = q at *
        go_wp2_with fail
        go_ret
        exact hfin.out
end Go.Proofs.YtejbfglaalmafaaGreatDoor
