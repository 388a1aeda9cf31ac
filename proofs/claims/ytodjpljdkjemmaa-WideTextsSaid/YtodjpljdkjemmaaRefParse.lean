/- The contract of the document's Parse. -/
import Derived.Test.YtodjpljdkjemmaaRefMul
import Derived.Deep.CutRange
import Derived.Deep.CutBlock
import Derived.Test.YtodjpljdkjemmaaDecimal
import Derived.Test.YtodjpljdkjemmaaRefPrint
import Derived.Test.YtodjpljdkjemmaaNumAdd
import Derived.Test.YtodjpljdkjemmaaNumTimes
import Derived.Test.YtodjpljdkjemmaaWideOrderLaw
namespace Go.Proofs.Ytodjpljdkjemmaa
open Go.RowKit
set_option linter.unusedVariables false

/-- Where the document's Parse stands: k digits are read. -/
def RP (s : ByteArray) (k : Nat) (D : List Nat) (o : Bool) : Prop := Dig D ∧ val D = pre s k % 340282366920938463463374607431768211456 ∧ o = decide (340282366920938463463374607431768211456 ≤ pre s k)
theorem rp_start (s : ByteArray) : RP s 0 [0, 0, 0, 0, 0, 0, 0, 0] false := ⟨dig_none, by rw [val_none]; rfl, by rw [decide_eq_false (by show ¬ _ ≤ (0 : Nat); omega)]⟩
theorem RP.step {s : ByteArray} {k d : Nat} {D D2 D3 : List Nat} {o o2 o3 : Bool} (h : RP s k D o) (hd : d = ch s k - 48) (hd10 : d < 10) (h2 : val D2 = val D * 10 % 340282366920938463463374607431768211456)
    (ho2 : o2 = (o || decide (340282366920938463463374607431768211456 ≤ val D * 10))) (g3 : Dig D3) (h3 : val D3 = (val D2 + d) % 340282366920938463463374607431768211456)
    (ho3 : o3 = (o2 || decide (340282366920938463463374607431768211456 ≤ val D2 + d))) : RP s (k + 1) D3 o3 := by
  obtain ⟨h0, hv, ho⟩ := h
  have hl := h0.lt
  have e : pre s (k + 1) = 10 * pre s k + d := by rw [pre, hd]
  refine ⟨g3, ?_, ?_⟩
  · rw [h3, h2, hv, e]; omega
  · rw [ho3, ho2, ho, e, Bool.eq_iff_iff]
    simp only [Bool.or_eq_true, decide_eq_true_eq]
    omega
theorem dig_small {s : ByteArray} {k : Nat} (h : dg s k) : ch s k - 48 < 10 := by have := h.1; have := h.2; omega
def SmallPost (w : World) (v : Nat) (e : Ending) (w' : World) : Prop := ∃ D', e = .returned (numV D' false) ∧ Dig D' ∧ val D' = v ∧ Below w.heap.size w w'
theorem small_h (v : Nat) (hv : v < 11) (w : World) : Calls Try.prog 31 #[.int .i64 (v : Int)] w (SmallPost w v) := by
  refine (small_any v (by unfold Sml; omega) w).mono ?_
  rintro e w' ⟨D', rfl, hd, hval, hb⟩
  refine ⟨D', ?_, hd, by rw [hval]; omega, hb⟩
  rw [decide_eq_false (by omega)]
  rfl
theorem wrap_sign {c d : Nat} (h1 : 48 ≤ c) (h2 : c ≤ 57) (hd : d = c - 48) : IntKind.i64.wrap (IntKind.u8.wrap ((c : Int) - 48)) = (d : Int) := by
  have e : IntKind.u8.wrap ((c : Int) - 48) = (d : Int) := by rw [IntKind.wrap_u8]; omega
  rw [e, IntKind.wrap_i64]
  omega
theorem small_ten (w : World) : Calls Try.prog 31 #[.int .i64 10] w (SmallPost w 10) := small_h 10 (by omega) w
/-- Parse's memory: the result, the number, as it stands. -/
def ParseAt (w wr : World) (D : List Nat) (o : Bool) : Prop := Below w.heap.size w wr ∧ Blk wr w.heap.size 24 #[.int .u64 0, .int .u64 0] ∧ Blk wr (w.heap.size + 1) 43 (numC D o)
theorem parseAt_start (w : World) : ParseAt w ((w.alloc (.cells #[.int .u64 0, .int .u64 0] 24)).alloc (.cells (numC [] false) 43)) [0, 0, 0, 0, 0, 0, 0, 0] false := by
  have e1 : (w.alloc (.cells #[.int .u64 0, .int .u64 0] 24)).heap.size = w.heap.size + 1 := by simp
  refine ⟨((Below.refl _ _).alloc (Nat.le_refl _) _).alloc (by simp) _, (Blk.new _ _ _).alloc _, ?_⟩
  have := Blk.new (w.alloc (.cells #[.int .u64 0, .int .u64 0] 24)) 43 (numC [] false)
  rwa [e1] at this
theorem ParseAt.more {w wr w1 : World} {D : List Nat} {o : Bool} (h : ParseAt w wr D o) (hb : Below wr.heap.size wr w1) : ParseAt w w1 D o := ⟨below_chain h.1 hb h.1.size, h.2.1.below hb h.2.1.lt, h.2.2.below hb h.2.2.lt⟩
theorem ParseAt.drew {w wr : World} {D : List Nat} {o : Bool} (h : ParseAt w wr D o) : ParseAt w wr.drew D o := ⟨h.1.drew, h.2.1, h.2.2⟩
theorem ParseAt.nine {w wr : World} {D : List Nat} {o : Bool} (h : ParseAt w wr D o) (E : List Nat) (p : Bool) : ParseAt w (nine wr (w.heap.size + 1) E p) E p :=
  ⟨nine_below E p h.1 (by omega), nine_far E p h.2.1 (by omega), nine_blk E p h.2.2⟩
set_option maxRecDepth 100000 in
set_option maxHeartbeats 8000000 in
theorem rparse_run (s : ByteArray) (h : s.size ≤ 39) (h1 : 1 ≤ s.size) (h0 : 1 < s.size → ch s 0 ≠ 48) (w : World) : Calls Try.prog 19 #[.string s] w (NumPost w (parN s) (parE s)) := by
  have t1 : (s.size : Int) ≤ 39 := by omega
  have t5 : (1 : Int) ≤ (s.size : Int) := by omega
  have hall : (∀ j, j < s.size → dg s j) → form s := fun x => ⟨h1, h, h0, x⟩
  have hnot : (∃ j, j < s.size ∧ ¬ dg s j) → ¬ form s := fun ⟨j, hj, hd⟩ x => hd (x.2.2.2 j hj)
  replace hall := Lib.hid hall
  replace hnot := Lib.hid hnot
  have t2 : (s.size : Int) ≤ 1 ∨ (1 < (s.size : Int) ∧ ∀ hs : 0 < s.size, (((s[0]'hs).toNat : Int) == 48) = false) := by
    by_cases x : 1 < s.size
    · exact .inr ⟨by omega, fun hs => by rw [ch_at]; have := h0 x; simp; omega⟩
    · exact .inl (by omega)
  clear h0
  have hA0 := parseAt_start w
  go_enter Try.func19, Try.ntmps19
  go_upto_region 1 with fail
  go_cut [23] from 6 to 23 (fun v wx => v = .bool false ∧ wx = w.alloc (.cells #[.int .u64 0, .int .u64 0] 24))
  case first =>
    rcases t2 with t2 | ⟨t2, t3⟩
    all_goals
      go_wp2_with fail
      go_meet
      exact ⟨by rw [decide_eq_false (by omega), decide_eq_false (by omega)]; rfl, rfl⟩
  case rest =>
    obtain ⟨rfl, rfl⟩ := hcut
    clear t2
    go_wp2
    go_loopw [5] (fun iv wr => ∃ (k : Nat) (D : List Nat) (o : Bool), k ≤ s.size ∧ iv = .int .i64 (k : Int) ∧ (∀ j, j < k → dg s j) ∧ RP s k D o ∧ ParseAt w wr D o) (fun iv _ => s.size - (intOf iv).toNat)
    case atStart => exact ⟨0, [0, 0, 0, 0, 0, 0, 0, 0], false, by omega, rfl, fun j hj => by omega, rp_start s, hA0⟩
    case round =>
      obtain ⟨k, D, o, hk, rfl, hd, hR, hA⟩ := hrel
      by_cases hlt : k < s.size
      · have cl : (k : Int) < (s.size : Int) := by omega
        have ck0 : (0 : Int) ≤ (k : Int) := by omega
        by_cases hdk : dg s k
        · obtain ⟨d, hdd⟩ : ∃ d : Nat, d = ch s k - 48 := ⟨_, rfl⟩
          have hd10 : d < 10 := by rw [hdd]; exact dig_small hdk
          have d1 : (48 : Int) ≤ ((s[k]'hlt).toNat : Int) := by rw [ch_at]; have := hdk.1; omega
          have d2 : ((s[k]'hlt).toNat : Int) ≤ 57 := by rw [ch_at]; have := hdk.2; omega
          have hw : (((s[k]'hlt).toNat : Int) - 48) % 256 = (d : Int) := by rw [ch_at]; have := hdk.1; have := hdk.2; omega
          have hw2 : IntKind.i64.wrap (IntKind.u8.wrap (((s[k]'hlt).toNat : Int) - 48)) = (d : Int) := by rw [ch_at]; exact wrap_sign hdk.1 hdk.2 hdd
          replace hw2 := Lib.hid hw2
          replace hd := Lib.hid hd
          have hdk2 := Lib.hid hdk
          clear hdk
          have A0 := hA.drew
          obtain ⟨c0, c1, c2, c3, c4, c5, c6, c7, c8⟩ := num_cells A0.2.2
          go_upto_block 1 with fail
          go_cut [] from 25 to 51 (fun wx => ∃ (D3 : List Nat) (o3 : Bool), RP s (k + 1) D3 o3 ∧ ParseAt w wx D3 o3)
          case first =>
           go_wp2_with fail
           go_region_with (first
            | (go_at_call 31; (with_reducible refine (small_ten _).mono ?_); rintro e x1 ⟨T, rfl, hT, hvT, y1⟩; have A1 := A0.more y1; clear c0 c1 c2 c3 c4 c5 c6 c7 c8; obtain ⟨b0, b1, b2, b3, b4, b5, b6, b7, b8⟩ := num_cells A1.2.2; replace hvT := Lib.hid hvT)
            | (go_at_call 30; refine (times_any D T o false hR.1 hT _).mono ?_; rintro e x2 ⟨D2, rfl, hd2, hv2, y2⟩; have A2 := A1.more y2; clear b0 b1 b2 b3 b4 b5 b6 b7 b8; rw [hvT.out] at hv2 ⊢; replace hv2 := Lib.hid hv2; obtain ⟨o2, ho2⟩ : ∃ o2 : Bool, o2 = (o || false || decide (340282366920938463463374607431768211456 ≤ val D * 10)) := ⟨_, rfl⟩; rw [← ho2]; replace ho2 := Lib.hid ho2)
            | (go_at_call 31; (try rw [hw2.out]); (with_reducible refine (small_h d (by omega) _).mono ?_); rintro e x3 ⟨E, rfl, hE, hvE, y3⟩; have A3 := A2.more y3; replace hvE := Lib.hid hvE)
            | (go_at_call 24; refine (add_num D2 E o2 false hd2 hE _).mono ?_; rintro e x4 ⟨D3, rfl, hd3, hv3, y4⟩; have A4 := A3.more y4; rw [hvE.out] at hv3 ⊢; replace hv3 := Lib.hid hv3; obtain ⟨o3, ho3⟩ : ∃ o3 : Bool, o3 = (o2 || false || decide (340282366920938463463374607431768211456 ≤ val D2 + d)) := ⟨_, rfl⟩; rw [← ho3]; replace ho3 := Lib.hid ho3; unfold numV; obtain ⟨m0, m1, m2, m3, m4, m5, m6, m7, m8⟩ := num_cells A4.2.2; obtain ⟨z0, z1, z2, z3, z4, z5, z6, z7, z8⟩ := num_free A4.2.2))
           all_goals
            have hR2 : RP s (k + 1) D3 o3 := hR.step (D2 := D2) (o2 := o2) hdd hd10 hv2.out (by rw [ho2.out, Bool.or_false]) hd3 hv3.out (by rw [ho3.out, Bool.or_false])
            rw [nine_fold x4 (w.heap.size + 1) D3 o3]
            have A5 := A4.nine D3 o3
            generalize nine x4 (w.heap.size + 1) D3 o3 = w9 at *
            clear hw d1 d2 hR hdd hd10 hv3 ho3 hv2 ho2 A4
            replace hR2 := Lib.hid hR2
            go_wp2_with fail
            go_meet
            exact ⟨D3, o3, hR2.out, A5⟩
          case rest =>
            obtain ⟨D3, o3, hR2, A5⟩ := hcut
            clear hw d1 d2 c0 c1 c2 c3 c4 c5 c6 c7 c8 hR hdd hd10
            replace hR2 := Lib.hid hR2
            go_wp2
            refine ⟨⟨k + 1, D3, o3, by omega, by go_num, fun j hj => ?_, hR2.out, A5⟩, by simp [intOf]; omega⟩
            by_cases e : j = k
            · exact e ▸ hdk2.out
            · exact hd.out j (by omega)
        · have hp := par_bad (hnot.out ⟨k, hlt, hdk⟩)
          have cA : wr.cell? ⟨w.heap.size, 0, none⟩ = some (.int .u64 0) := hA.2.1.cell 0
          have cB : wr.cell? ⟨w.heap.size, 1, none⟩ = some (.int .u64 0) := hA.2.1.cell 1
          have fA := hA.2.1.frozen 0
          have fB := hA.2.1.frozen 1
          replace hp := Lib.hid hp
          replace hd := Lib.hid hd
          replace hR := Lib.hid hR
          have d1 : ((s[k]'hlt).toNat : Int) < 48 ∨ ((48 : Int) ≤ ((s[k]'hlt).toNat : Int) ∧ (57 : Int) < ((s[k]'hlt).toNat : Int)) := by rw [ch_at]; unfold dg at hdk; omega
          clear hdk
          rcases d1 with d1 | ⟨d1, d2⟩
          all_goals
            go_wp2
            have B9 := (hA.1.setCell (p := ⟨w.heap.size, 0, none⟩) (by simp) (.int .u64 0)).setCell (p := ⟨w.heap.size, 1, none⟩) (by simp) (.int .u64 0)
            have b9 := pair_set (u := .int .u64 0) (v := .int .u64 0) hA.2.1
            generalize ((wr.setCell ⟨w.heap.size, 0, none⟩ _).setCell ⟨w.heap.size, 1, none⟩ _) = w9 at *
            have y0 : w9.cell? ⟨w.heap.size, 0, none⟩ = some (.int .u64 0) := b9.cell 0
            have y1 : w9.cell? ⟨w.heap.size, 1, none⟩ = some (.int .u64 0) := b9.cell 1
            refine bodyPost_ret (v := .tuple #[.agg #[.int .u64 0, .int .u64 0], .int .i64 11]) (by simp [results, Try.results19, go_sem, y0, y1]) rfl ?_
            exact ⟨by rw [hp.out.1, hp.out.2, num_zero], B9⟩
      · obtain rfl : k = s.size := by omega
        have hf := hall.out hd
        obtain ⟨hB, bw, bn⟩ := hA
        obtain ⟨g1, g2, g3⟩ := hR
        have cA : wr.cell? ⟨w.heap.size, 0, none⟩ = some (.int .u64 0) := bw.cell 0
        have cB : wr.cell? ⟨w.heap.size, 1, none⟩ = some (.int .u64 0) := bw.cell 1
        have fA := bw.frozen 0
        have fB := bw.frozen 1
        obtain ⟨c0, c1, c2, c3, c4, c5, c6, c7, c8⟩ := num_cells bn
        by_cases ho : 340282366920938463463374607431768211456 ≤ pre s s.size
        · have hp := par_over hf (Nat.le_refl _) ho
          rw [decide_eq_true ho] at g3
          subst g3
          replace hp := Lib.hid hp
          clear ho g2 hd hf hlt
          go_wp2
          have B9 := (hB.setCell (p := ⟨w.heap.size, 0, none⟩) (by simp) (.int .u64 0)).setCell (p := ⟨w.heap.size, 1, none⟩) (by simp) (.int .u64 0)
          have b9 := pair_set (u := .int .u64 0) (v := .int .u64 0) bw
          generalize ((wr.setCell ⟨w.heap.size, 0, none⟩ _).setCell ⟨w.heap.size, 1, none⟩ _) = w9 at *
          have y0 : w9.cell? ⟨w.heap.size, 0, none⟩ = some (.int .u64 0) := b9.cell 0
          have y1 : w9.cell? ⟨w.heap.size, 1, none⟩ = some (.int .u64 0) := b9.cell 1
          refine bodyPost_ret (v := .tuple #[.agg #[.int .u64 0, .int .u64 0], .int .i64 10]) (by simp [results, Try.results19, go_sem, y0, y1]) rfl ?_
          exact ⟨by rw [hp.out.1, hp.out.2, num_zero], B9⟩
        · have hlt2 : pre s s.size < 340282366920938463463374607431768211456 := by omega
          have hp := par_good hf hlt2
          rw [decide_eq_false ho] at g3
          subst g3
          rw [Nat.mod_eq_of_lt hlt2] at g2
          obtain ⟨ph, pl, p1, p2, hpp⟩ := wh_of _ hlt2
          rw [← hpp] at g2
          have he : (.tuple #[num (parN s), .int .i64 (parE s)] : Value) = .tuple #[.agg #[.int .u64 (ph : Int), .int .u64 (pl : Int)], .int .i64 0] := by rw [hp.1, hp.2, ← hpp, num_wh ph pl p2]
          replace he := Lib.hid he
          replace g2 := Lib.hid g2
          clear ho hd hf hlt hp hpp hlt2
          go_wp2_with fail
          clear c0 c1 c2 c3 c4 c5 c6 c7 c8 cA cB fA fB
          refine (nwide_h D false ph pl g1 p1 p2 g2.out _).mono ?_
          rintro e w4 ⟨rfl, y4⟩
          have b4 := two_keep bw y4
          have B4 := below_chain hB y4 hB.size
          have z0 : w4.cell? ⟨w.heap.size, 0, none⟩ = some (.int .u64 0) := b4.cell 0
          have z1 : w4.cell? ⟨w.heap.size, 1, none⟩ = some (.int .u64 0) := b4.cell 1
          have f0 := b4.frozen 0
          have f1 := b4.frozen 1
          go_wp2
          have B9 := (B4.setCell (p := ⟨w.heap.size, 0, none⟩) (by simp) (.int .u64 (ph : Int))).setCell (p := ⟨w.heap.size, 1, none⟩) (by simp) (.int .u64 (pl : Int))
          have b9 := pair_set (u := .int .u64 (ph : Int)) (v := .int .u64 (pl : Int)) b4
          generalize ((w4.setCell ⟨w.heap.size, 0, none⟩ _).setCell ⟨w.heap.size, 1, none⟩ _) = w9 at *
          have k0 : w9.cell? ⟨w.heap.size, 0, none⟩ = some (.int .u64 (ph : Int)) := b9.cell 0
          have k1 : w9.cell? ⟨w.heap.size, 1, none⟩ = some (.int .u64 (pl : Int)) := b9.cell 1
          refine bodyPost_ret (v := .tuple #[.agg #[.int .u64 (ph : Int), .int .u64 (pl : Int)], .int .i64 0]) (by simp [results, Try.results19, go_sem, k0, k1]) rfl ?_
          exact ⟨by rw [he.out], B9⟩
end Go.Proofs.Ytodjpljdkjemmaa
