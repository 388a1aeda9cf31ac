/- The contract of (*Log).Append. -/
import Derived.Test.YtejbfglaalmafaaGreatDoorLBegin
namespace Go.Proofs.YtejbfglaalmafaaGreatDoor
open Go.RowKit
set_option linter.unusedVariables false

theorem upd_twice (ds : Nat → List (List UInt8)) (k : Nat) (d : List UInt8) : upd (upd ds k []) k (upd ds k [] k ++ [d]) = upd ds k [d] := by
  funext i
  unfold upd
  split
  · simp
  · rfl
/-- What a record more makes of the log. -/
def Grown (k m : Nat) (ds : Nat → List (List UInt8)) (d : List UInt8) (k' : Nat) (ds' : Nat → List (List UInt8)) : Prop :=
  ((segS ds m).length ≤ 16384 ∧ k' = k ∧ ds' = upd ds m (ds m ++ [d])) ∨ (16384 < (segS ds m).length ∧ k' = k + 1 ∧ ds' = upd ds k [d])
def WAppP (w : World) (b nm dk lg k m : Nat) (ds : Nat → List (List UInt8)) (Z : Bool) (N : Nat) (d : List UInt8) (e : Ending) (w' : World) : Prop := ∃ k' G' Q' ds' F' Z', e = .returned (.tuple #[.int .i64 (fiN ds k : Int), .int .i64 0]) ∧ Grown k m ds d k' ds' ∧ (k' = k → Z' = Z) ∧ WS w' b nm dk lg k' G' Q' ds' F' Z' (N + 1) ∧ Ty b wsT (fun i => i = nm) w w'
theorem WS.mono {w : World} {b nm dk lg k : Nat} {G Q : Nat → Nat} {ds : Nat → List (List UInt8)} {F : Nat → Bool} {Z : Bool} {N N' : Nat} (h : WS w b nm dk lg k G Q ds F Z N) (hN : N ≤ N') : WS w b nm dk lg k G Q ds F Z N' := ⟨h.1, h.2.mono hN⟩
theorem back64 {n : Nat} (h1 : 1 ≤ n) (h : n ≤ 1000000) : wrap64 (((n - 1 : Nat) : Int) + 1) = (n : Int) := by
  have e : ((n - 1 : Nat) : Int) + 1 = (n : Int) := by omega
  rw [e]
  simp only [wrap64]
  omega
set_option maxRecDepth 100000 in
set_option maxHeartbeats 4000000 in
theorem wappend_ok {w : World} {b nm dk lg k m : Nat} {G Q : Nat → Nat} {ds : Nat → List (List UInt8)} {F : Nat → Bool} {Z : Bool} {N : Nat} (h : WS w b nm dk lg k G Q ds F Z N) (hk : k = m + 1) (hk6 : k < 6) (hN : N ≤ 1000000) (hf : fiN ds k < 1000000) (hS : ∀ j, j < k → (segS ds j).length ≤ 100000) (hB : Tab w b) (s : ByteArray) (d : List UInt8) (hs : s.data.toList = d) (hd : d.length ≤ 65536) :
    Calls Tryz.prog 8 #[.pointer (some ⟨lg, 0, none⟩), .string s] w (WAppP w b nm dk lg k m ds Z N d) := by
  have hsz : s.size = d.length := by rw [← hs, Array.length_toList]; rfl
  have hlen : decide ((65536 : Int) < (s.size : Int)) = false := decide_eq_false (by omega)
  obtain ⟨v, sy, hL⟩ := h.1
  have hLa := Lib.hid (last_ok hL (Nat.le_of_lt hf) (Nat.le_of_lt hk6))
  have hbk := Lib.hid (back64 (fiN_pos ds k) (Nat.le_of_lt hf))
  obtain ⟨p1, p2⟩ := pred64 hk (by omega)
  obtain ⟨n1, n2, n3, n4, n5⟩ := ne_zero hk
  clear n2 n3 hsz n5
  have hk7 := hk6
  replace hk7 := Lib.hid hk7
  replace hN := Lib.hid hN
  replace hS := Lib.hid hS
  replace hk := Lib.hid hk
  replace hd := Lib.hid hd
  replace hf := Lib.hid hf
  clear hk6
  go_enter Tryz.func8, Tryz.ntmps8
  go_wp2_with fail
  refine hLa.out.mono ?_
  rintro e w1 ⟨rfl, hb1⟩
  have hW1 := h.below hb1
  have hq := hbk.out
  have hba := below_alloc1 w1 (.cells #[.int .i64 (fiN ds k : Int), .string s] 49)
  have hrb := Blk.new w1 49 #[.int .i64 (fiN ds k : Int), .string s]
  have hW2 := hW1.below hba
  have hT2 : Ty b wsT (fun i => i = nm) w (w1.alloc (.cells #[.int .i64 (fiN ds k : Int), .string s] 49)) := (Ty.of_below hb1 h.size).trans (Ty.of_below hba hW1.size)
  clear hL h hLa hb1 hW1 hba
  generalize fiN ds k - 1 = f1 at *
  go_upto_region 6 with fail
  obtain ⟨rb, hrbq⟩ : ∃ rb, w1.heap.size = rb := ⟨_, rfl⟩
  rw [hrbq] at hrb
  simp only [hrbq]
  generalize w1.alloc (.cells #[.int .i64 (fiN ds k : Int), .string s] 49) = w2 at *
  clear hrbq
  obtain ⟨⟨v2, sy2, hL2⟩, hD2⟩ := hW2
  obtain ⟨gv, cap, rfl, hc, c0, c1, c2, c3, c4, c5⟩ := hL2.last hk.out
  have hc' : (k : Int) ≤ (cap : Int) := Int.ofNat_le.2 hc
  clear hc c0 c3 c4 hbk hlen
  have hW3 : WS w2.drew b nm dk lg k G Q ds F Z N := ⟨⟨_, _, hL2.below ((Below.refl _ w2).drew)⟩, hD2.drew⟩
  have hT3 := hT2.drew
  have hrb3 : Blk w2.drew rb 49 #[.int .i64 (fiN ds k : Int), .string s] := hrb
  clear hL2 hD2 hT2 hrb
  by_cases hg : 16384 < (segS ds m).length
  · have hgb : decide ((16384 : Int) < ((segS ds m).length : Int)) = true := decide_eq_true (by clear hc' p1 p2 n1 n4 hq; omega)
    have hG := Lib.hid hg
    clear hg
    go_region
    generalize w2.drew = w3 at *
    have hBg := Lib.hid (begin_ok hW3 hk7.out hN.out (Nat.le_of_lt hf.out) hS.out (hB.ty hT3))
    have r0 := hrb3.cell 0
    have r1 := hrb3.cell 1
    clear c1 c2 c5 hgb p1 p2 n1 n4 hc'
    go_wp2_with fail
    refine hBg.out.mono ?_
    rintro e w4 ⟨g4, q4, rfl, hW4, hT4⟩
    have hrb4 := hT4.blk hrb3 rfl
    have hT5 := hT3.trans hT4
    have hfe : fiN (upd ds k []) (k + 1) = fiN ds k := by rw [fiN, fiN_upd ds k [] k (Nat.le_refl _), upd_at]; rfl
    have hLy := Lib.hid (lay_ok hW4 rfl hk7.out (by rw [hfe]; exact hf.out) (fun j hj => by
      by_cases e : j = k
      · rw [e, segS, fiN_upd ds k [] k (Nat.le_refl _), upd_at, segB, recsB, List.append_nil, headB_length]; omega
      · rw [segS_upd ds k [] j (by omega)]; exact hS.out j (by omega)) s d hs hd.out)
    rw [hfe] at hLy
    have t0 := hrb4.cell 0
    have t1 := hrb4.cell 1
    clear hBg r0 r1 hW3 hT3 hT4 hrb3 hW4
    go_wp2_with fail
    refine hLy.out.mono ?_
    rintro e w6 ⟨rfl, hW6, hT6⟩
    rw [upd_twice] at hW6
    have hrb6 := hT6.blk hrb4 rfl
    have u0 := hrb6.cell 0
    have hfin : WAppP w b nm dk lg k m ds Z N d (.returned (.tuple #[.int .i64 (fiN ds k : Int), .int .i64 0])) w6 := ⟨_, _, _, _, _, _, rfl, .inr ⟨hG.out, rfl, rfl⟩, fun e => by omega, hW6, hT5.trans (hT6.mono (fun _ e => e) (fun _ e => e.elim))⟩
    replace hfin := Lib.hid hfin
    clear hLy t0 t1 hW6 hT6 hrb6 hrb4 hT5
    go_wp2_with fail
    go_ret2
    exact hfin.out
  · have hgb : decide ((16384 : Int) < ((segS ds m).length : Int)) = false := decide_eq_false (by clear hc' p1 p2 n1 n4 hq; omega)
    have hG := Lib.hid (Nat.not_lt.1 hg)
    clear hg
    go_region
    generalize w2.drew = w3 at *
    have hLy := Lib.hid (lay_ok hW3 hk.out (Nat.le_of_lt hk7.out) hf.out hS.out s d hs hd.out)
    have r0 := hrb3.cell 0
    have r1 := hrb3.cell 1
    clear c1 c2 c5 hgb p1 p2 n1 n4 hc'
    go_wp2_with fail
    refine hLy.out.mono ?_
    rintro e w6 ⟨rfl, hW6, hT6⟩
    have hrb6 := hT6.blk hrb3 rfl
    have u0 := hrb6.cell 0
    have hfin : WAppP w b nm dk lg k m ds Z N d (.returned (.tuple #[.int .i64 (fiN ds k : Int), .int .i64 0])) w6 := ⟨_, _, _, _, _, _, rfl, .inl ⟨hG.out, rfl, rfl⟩, fun _ => rfl, hW6.mono (Nat.le_succ N), hT3.trans (hT6.mono (fun _ e => e) (fun _ e => e.elim))⟩
    replace hfin := Lib.hid hfin
    clear hLy r0 r1 hW6 hT6 hrb6 hrb3 hT3 hW3
    go_wp2_with fail
    go_ret2
    exact hfin.out
end Go.Proofs.YtejbfglaalmafaaGreatDoor
