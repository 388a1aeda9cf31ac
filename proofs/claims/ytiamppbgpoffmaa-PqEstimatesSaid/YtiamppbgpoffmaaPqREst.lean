/- The contract of the document's Estimate. -/
import Derived.Test.YtiamppbgpoffmaaPqEst
import Derived.Test.YtiamppbgpoffmaaRefAddq
import Derived.Test.YtiamppbgpoffmaaRefAdd2q
namespace Go.Proofs.Ytiamppbgpoffmaa
open Go.RowKit
set_option linter.unusedVariables false

theorem rsum_wd (a b : Nat) (ha : Wd a) (hb : Wd b) (w : World) : Calls Try.prog 39 #[.agg #[.int .u64 (hiN a : Int), .int .u64 (loN a : Int)], .agg #[.int .u64 (hiN b : Int), .int .u64 (loN b : Int)]] w
    (fun e w' => (Wd (a + b) → EstPost w (a + b) 0 e w') ∧ (¬ Wd (a + b) → EstPost w 0 10 e w')) := by
  by_cases h : Wd (a + b)
  · refine (radd_in (hiN a) (loN a) (hiN b) (loN b) (sm_hi a ha) (sm_lo a) (sm_hi b hb) (sm_lo b) (hiN (a + b)) (loN (a + b)) (sm_hi _ h) (sm_lo _) (by rw [wh_hl, wh_hl, wh_hl]) w).mono ?_
    rintro e w' hp
    exact ⟨fun _ => hp, fun h2 => absurd h h2⟩
  · refine (radd_up (hiN a) (loN a) (hiN b) (loN b) (sm_hi a ha) (sm_lo a) (sm_hi b hb) (sm_lo b) (by rw [wh_hl, wh_hl]; unfold Wd at h; omega) w).mono ?_
    rintro e w' hp
    exact ⟨fun h2 => absurd h2 h, fun _ => ⟨by rw [hiN_zero.1, hiN_zero.2]; exact hp.1, hp.2⟩⟩
/-- What stands while the code is looked through. -/
def ResSt (w wr : World) : Prop := Below w.heap.size w wr ∧ Blk wr w.heap.size 44 #[.int .u64 0, .int .u64 0]
theorem ResSt.more {w wr w2 : World} (h : ResSt w wr) (hb : Below wr.heap.size wr w2) : ResSt w w2 := ⟨below_chain h.1 hb h.1.size, h.2.below hb h.2.lt⟩
theorem six_held {w1 w2 : World} {a1 a2 a3 a4 a5 a6 : Addr} {v1 v2 v3 v4 v5 v6 : Value} (h : w1.cell? a1 = some v1 ∧ w1.cell? a2 = some v2 ∧ w1.cell? a3 = some v3 ∧ w1.cell? a4 = some v4 ∧ w1.cell? a5 = some v5 ∧ w1.cell? a6 = some v6) (hb : Below w1.heap.size w1 w2) :
    w2.cell? a1 = some v1 ∧ w2.cell? a2 = some v2 ∧ w2.cell? a3 = some v3 ∧ w2.cell? a4 = some v4 ∧ w2.cell? a5 = some v5 ∧ w2.cell? a6 = some v6 :=
  ⟨below_cell hb h.1, below_cell hb h.2.1, below_cell hb h.2.2.1, below_cell hb h.2.2.2.1, below_cell hb h.2.2.2.2.1, below_cell hb h.2.2.2.2.2⟩
theorem rest_len (A V : Option Addr) (n m c cv : Nat) (w : World) (h : n ≠ m) : Calls Try.prog 22 #[.slice A n c, .slice V m cv] w (EstPost w 0 101) := by
  have hne : ((n : Int) != (m : Int)) = true := by simp; omega
  have hb := Blk.new w 44 #[.int .u64 0, .int .u64 0]
  obtain ⟨m0, m1, m2, m3⟩ := hb.zero2
  obtain ⟨z0, z1⟩ := hiN_zero
  clear h
  go_enter Try.func22, Try.ntmps22
  go_wp2_with fail
  refine bodyPost_ret (v := .tuple #[.agg #[.int .u64 0, .int .u64 0], .int .i64 101]) (by simp [results, Try.results22, go_sem, m0, m1]) rfl ?_
  exact ⟨by rw [z0, z1], below_alloc1 _ _⟩

set_option maxRecDepth 100000 in
set_option maxHeartbeats 4000000 in
theorem rest_go (A V : Option Addr) (t : List (List Nat)) (code : List Int) (m c cv : Nat) (w : World) (hA : WTab w A t) (hV : Row w V code) (hl : t.length = m) (hl2 : code.length = m) (hm : m ≤ 32768) (ht : TabW t) :
    Calls Try.prog 22 #[.slice A m c, .slice V m cv] w (EstPost w (estV t code) (estE t code)) := by
  have hb := Blk.new w 44 #[.int .u64 0, .int .u64 0]
  have hB0 := below_alloc1 w (.cells #[.int .u64 0, .int .u64 0] 44)
  obtain ⟨z0, z1⟩ := hiN_zero
  have hne : ((m : Int) != (m : Int)) = false := by simp
  have hm' : m ≤ 9223372036854775807 := by omega
  clear hm
  replace hl := Lib.hid hl
  replace hl2 := Lib.hid hl2
  replace ht := Lib.hid ht
  go_enter Try.func22, Try.ntmps22
  go_upto_region 1 with fail
  generalize w.alloc (.cells #[.int .u64 0, .int .u64 0] 44) = w0 at *
  go_wp2_with fail
  clear hne
  go_loopw [6] (fun i wr => ResSt w wr ∧ ∃ j : Nat, j ≤ m ∧ i = .int .i64 (j : Int) ∧ EstIn t code j) (fun i _ => m - (intOf i).toNat)
  case atStart => exact ⟨⟨hB0, hb⟩, 0, Nat.zero_le _, rfl, fun j hj => absurd hj (by omega)⟩
  case round =>
    clear hb hB0
    obtain ⟨hR0, j, hj, rfl, hI⟩ := hrel
    have hA0 := hA.below hR0.1
    have hV0 := hV.below hR0.1
    by_cases hlt : j < m
    · have q0 : (0 : Int) ≤ (j : Int) := by omega
      have q1 : (j : Int) < (m : Int) := by omega
      obtain ⟨gv, ov, rfl, d0⟩ := hV0 j (by rw [hl2.out]; exact hlt)
      obtain ⟨g, o, R, rc, rfl, d1, hR⟩ := hA0 j (by rw [hl.out]; exact hlt)
      by_cases hq : 0 ≤ nth code j ∧ nth code j < (wrow t j).length
      · have hI2 := hI.succ hq.1 hq.2
        replace hI2 := Lib.hid hI2
        obtain ⟨r1, r2⟩ := hq
        generalize nth code j = q at *
        clear hI
        go_wp2_with fail
        go_quiet (fail)
        go_wp2_with fail
        exact ⟨⟨hR0.more ((Drawn.refl wr).more nq |>.below _), j + 1, by omega, by go_num, hI2.out⟩, by simp [intOf]; omega⟩
      · obtain ⟨x1, x2⟩ := estE_out (t := t) (code := code) (fun h => hq (by have := h.2 j (by rw [hl2.out]; exact hlt); exact this))
        replace x1 := Lib.hid x1
        replace x2 := Lib.hid x2
        by_cases h1 : 0 ≤ nth code j
        · have h2 : ((wrow t j).length : Int) ≤ nth code j := by omega
          generalize nth code j = q at *
          clear hq hI
          go_wp2_with fail
          go_quiet (fail)
          obtain ⟨m0, m1, m2, m3⟩ := (hR0.more ((Drawn.refl wr).more nq |>.below _)).2.zero2
          have hB1 := below_put2 (hR0.more ((Drawn.refl wr).more nq |>.below _)).1 (Nat.le_refl _) (.int .u64 0) (.int .u64 0)
          obtain ⟨p0, p1⟩ := put2_cells (u := .int .u64 0) (v := .int .u64 0) m0 m1
          go_wp2_with fail
          refine bodyPost_ret (v := .tuple #[.agg #[.int .u64 0, .int .u64 0], .int .i64 101]) (by simp [results, Try.results22, go_sem, p0, p1]) rfl ?_
          exact ⟨by rw [x1.out, x2.out, z0, z1], hB1⟩
        · have h2 : nth code j < 0 := by omega
          generalize nth code j = q at *
          clear hq h1 hI
          go_wp2_with fail
          go_quiet (fail)
          obtain ⟨m0, m1, m2, m3⟩ := (hR0.more ((Drawn.refl wr).more nq |>.below _)).2.zero2
          have hB1 := below_put2 (hR0.more ((Drawn.refl wr).more nq |>.below _)).1 (Nat.le_refl _) (.int .u64 0) (.int .u64 0)
          obtain ⟨p0, p1⟩ := put2_cells (u := .int .u64 0) (v := .int .u64 0) m0 m1
          go_wp2_with fail
          refine bodyPost_ret (v := .tuple #[.agg #[.int .u64 0, .int .u64 0], .int .i64 101]) (by simp [results, Try.results22, go_sem, p0, p1]) rfl ?_
          exact ⟨by rw [x1.out, x2.out, z0, z1], hB1⟩
    · obtain rfl : j = m := by omega
      obtain ⟨hB0, hb⟩ := hR0
      go_upto_region 9 with fail
      have T0 : EstSt w (wr.alloc (.cells #[.int .u64 0, .int .u64 0] 44)) wr.heap.size (estS t code 0) := ⟨below_chain hB0 (below_alloc1 _ _) hB0.size, hb.alloc _, by have := Blk.new wr 44 #[.int .u64 0, .int .u64 0]; rw [estS, z0, z1]; exact this, hb.lt⟩
      clear hb hA0 hV0 hB0
      generalize hS : wr.heap.size = S at *
      generalize wr.alloc (.cells #[.int .u64 0, .int .u64 0] 44) = w1 at *
      replace hI := Lib.hid hI
      go_wp2_with fail
      go_loopw [8] (fun i wr => ∃ x : Nat, x ≤ j ∧ i = .int .i64 (x : Int) ∧ EstSt w wr S (estS t code x) ∧ Wd (estS t code x)) (fun i _ => j - (intOf i).toNat)
      case atStart => exact ⟨0, Nat.zero_le _, rfl, T0, by unfold Wd; rw [estS]; omega⟩
      case round =>
        clear T0
        obtain ⟨x, hx, rfl, hT, hD⟩ := hrel
        by_cases hlt2 : x < j
        · have q0 : (0 : Int) ≤ (x : Int) := by omega
          have q1 : (x : Int) < (j : Int) := by omega
          obtain ⟨gv, ov, rfl, d0⟩ := hV x (by rw [hl2.out]; exact hlt2)
          obtain ⟨g, o, R, rc, rfl, d1, hR⟩ := hA x (by rw [hl.out]; exact hlt2)
          obtain ⟨r1, r2⟩ := hI.out x hlt2
          obtain ⟨a, ha⟩ : ∃ a : Nat, nth code x = (a : Int) := ⟨(nth code x).toNat, by omega⟩
          rw [ha] at d0 r2
          have hak : a < (wrow t x).length := by omega
          obtain ⟨g2, o2, rfl, d2, d3⟩ := hR a hak
          have hE := ht.out x a (by rw [hl.out]; exact hlt2) hak
          have hS1 : estS t code (x + 1) = estS t code x + nthw (wrow t x) a := by rw [estS, ha, Int.toNat_natCast]
          have hle := estS_le t code (show x + 1 ≤ j by omega)
          have hS' := rsum_wd _ _ hD hE
          rw [← hS1] at hS'
          have hHB := hT.1
          obtain ⟨c0, c1, c2, c3⟩ := hT.cells
          have e0 := below_cell hHB d0
          have e1 := below_cell hT.1 d1
          have e2 := below_cell hT.1 d2
          have e3 := below_cell hT.1 d3
          generalize nthw (wrow t x) a = E at *
          generalize hD1 : estS t code x = D at *
          have a0 : (0 : Int) ≤ (a : Int) := by omega
          have S00 : wr.cell? ⟨S, 0, none⟩ = some (.int .u64 (hiN D : Int)) ∧ wr.cell? ⟨S, 1, none⟩ = some (.int .u64 (loN D : Int)) ∧ wr.cell? ⟨gv, ov + x, none⟩ = some (.int .i64 (a : Int)) ∧ wr.cell? ⟨g, o + x, none⟩ = some (.slice (some ⟨g2, o2, none⟩) (wrow t x).length rc) ∧ wr.cell? ⟨g2, o2 + a * 2, none⟩ = some (.int .u64 (hiN E : Int)) ∧ wr.cell? ⟨g2, o2 + a * 2 + 1, none⟩ = some (.int .u64 (loN E : Int)) := ⟨c0, c1, e0, e1, e2, e3⟩
          clear ha hR d0 d1 d2 d3 hHB r1 hak hS1
          replace hD := Lib.hid hD
          replace hE := Lib.hid hE
          replace hle := Lib.hid hle
          have hAdd : ∃ (N : Nat) (f : Int), (∀ y, Calls Try.prog 39 #[.agg #[.int .u64 (hiN D : Int), .int .u64 (loN D : Int)], .agg #[.int .u64 (hiN E : Int), .int .u64 (loN E : Int)]] y (EstPost y N f)) ∧ ((Wd (estS t code (x + 1)) ∧ N = estS t code (x + 1) ∧ f = 0) ∨ (¬ Wd (estS t code (x + 1)) ∧ N = 0 ∧ f = 10)) := by
            by_cases hW : Wd (estS t code (x + 1))
            · exact ⟨_, 0, fun y => (hS' y).mono (fun e y' hh => hh.1 hW), .inl ⟨hW, rfl, rfl⟩⟩
            · exact ⟨0, 10, fun y => (hS' y).mono (fun e y' hh => hh.2 hW), .inr ⟨hW, rfl, rfl⟩⟩
          obtain ⟨N, f, hAdd, hNf⟩ := hAdd
          replace hAdd := Lib.hid hAdd
          replace hNf := Lib.hid hNf
          clear hS'
          go_upto_region 12 with fail
          go_cut [9, 10] from 47 to 66 (fun p e wx => ∃ g : Nat, p = .pointer (some ⟨g, 0, none⟩) ∧ e = .int .i64 f ∧ Below wr.heap.size wr wx ∧ wx.cell? ⟨g, 0, none⟩ = some (.int .u64 (hiN N : Int)) ∧ wx.cell? ⟨g, 1, none⟩ = some (.int .u64 (loN N : Int)))
          case first =>
            have NA : Blk (wr.alloc (.cells #[.int .u64 0, .int .u64 0] 44)).drew wr.heap.size 44 #[.int .u64 0, .int .u64 0] := Blk.new wr 44 #[.int .u64 0, .int .u64 0]
            have BA := (below_alloc1 wr (.cells #[.int .u64 0, .int .u64 0] 44)).drew
            have B0 := (Below.refl wr.heap.size wr).drew
            have SA := six_held S00 BA
            have S0 := six_held S00 B0
            go_region_held3 (fun w' => w'.cell? ⟨S, 0, none⟩ = some (.int .u64 (hiN D : Int)) ∧ w'.cell? ⟨S, 1, none⟩ = some (.int .u64 (loN D : Int)) ∧ w'.cell? ⟨gv, ov + x, none⟩ = some (.int .i64 (a : Int)) ∧ w'.cell? ⟨g, o + x, none⟩ = some (.slice (some ⟨g2, o2, none⟩) (wrow t x).length rc) ∧ w'.cell? ⟨g2, o2 + a * 2, none⟩ = some (.int .u64 (hiN E : Int)) ∧ w'.cell? ⟨g2, o2 + a * 2 + 1, none⟩ = some (.int .u64 (loN E : Int)))
              (first | (with_reducible exact S0) | (with_reducible exact SA) | (with_reducible exact six_held S00 X1) | (with_reducible exact six_held S00 (below_chain X1 (below_alloc1 _ _) X1.size)) | (with_reducible exact six_held S00 (below_put2 X1 (Nat.le_refl _) _ _)) | (with_reducible exact six_held S00 (below_put2 (below_chain X1 (below_alloc1 _ _) X1.size) X1.size _ _)))
              (first
              | (go_at_call 39; (with_reducible refine (hAdd.out _).mono ?_); rintro e x1 ⟨rfl, hb⟩; (first | (have X1 := below_chain B0 hb B0.size) | (have X1 := below_chain BA hb BA.size; have NB := NA.below hb NA.lt; obtain ⟨n0, n1, n2, n3⟩ := NB.zero2))))
            · have A1 := Blk.new x1 44 #[.int .u64 (hiN N : Int), .int .u64 (loN N : Int)]
              have A2 := below_chain X1 (below_alloc1 x1 (.cells #[.int .u64 (hiN N : Int), .int .u64 (loN N : Int)] 44)) X1.size
              go_wp2_with fail
              go_meet
              exact ⟨_, rfl, rfl, A2, A1.cell 0, A1.cell 1⟩
            · have A1 := put2_cells (u := .int .u64 (hiN N : Int)) (v := .int .u64 (loN N : Int)) n0 n1
              have A2 := below_put2 X1 (Nat.le_refl _) (.int .u64 (hiN N : Int)) (.int .u64 (loN N : Int))
              go_wp2_with fail
              go_meet
              exact ⟨_, rfl, rfl, A2, A1.1, A1.2⟩
          case rest =>
            obtain ⟨g9, rfl, rfl, HB, k0, k1⟩ := hcut
            have hT2 := hT.more HB
            clear hT c0 c1 c2 c3 e0 e1 e2 e3 S00 HB hAdd
            obtain ⟨c0, c1, c2, c3⟩ := hT2.cells
            rcases hNf.out with ⟨hW, rfl, rfl⟩ | ⟨hW, rfl, rfl⟩
            · have hT3 := hT2.put (E := estS t code (x + 1))
              replace hW := Lib.hid hW
              have hm2 : j - (x + 1) < j - x := by omega
              go_wp2_with fail
              clear hT2 k0 k1 c0 c1 c2 c3
              go_roundw
              case rel => exact ⟨x + 1, hlt2, by go_num, hT3, hW.out⟩
              all_goals (simpa [intOf] using hm2)
            · obtain ⟨x3, x4⟩ := estE_over (t := t) (code := code) (by rw [hl.out, hl2.out]) (by rw [hl2.out]; exact hI.out) (fun h => hW (by rw [hl2.out] at h; unfold Wd at h ⊢; have := hle.out; omega))
              replace hW := Lib.hid hW
              replace x3 := Lib.hid x3
              replace x4 := Lib.hid x4
              obtain ⟨m0, m1, m2, m3⟩ := hT2.res
              have hB1 := below_put2 hT2.1 (Nat.le_refl _) (.int .u64 0) (.int .u64 0)
              obtain ⟨p0, p1⟩ := put2_cells (u := .int .u64 0) (v := .int .u64 0) m0 m1
              go_wp2_with fail
              refine bodyPost_ret (v := .tuple #[.agg #[.int .u64 0, .int .u64 0], .int .i64 10]) (by simp [results, Try.results22, go_sem, p0, p1]) rfl ?_
              exact ⟨by rw [x3.out, x4.out, z0, z1], hB1⟩
        · obtain rfl : x = j := by omega
          obtain ⟨x3, x4⟩ := estE_fits (t := t) (code := code) (by rw [hl.out, hl2.out]) (by rw [hl2.out]; exact hI.out) (by rw [hl2.out]; exact hD)
          rw [hl2.out] at x4
          obtain ⟨c0, c1, c2, c3⟩ := hT.cells
          obtain ⟨m0, m1, m2, m3⟩ := hT.res
          generalize estS t code x = D at *
          have hB1 := below_put2 hT.1 (Nat.le_refl _) (.int .u64 (hiN D : Int)) (.int .u64 (loN D : Int))
          obtain ⟨p0, p1⟩ := put2_cells (u := .int .u64 (hiN D : Int)) (v := .int .u64 (loN D : Int)) m0 m1
          clear hD hT
          replace x3 := Lib.hid x3
          replace x4 := Lib.hid x4
          go_wp2_with fail
          refine bodyPost_ret (v := .tuple #[.agg #[.int .u64 (hiN D : Int), .int .u64 (loN D : Int)], .int .i64 0]) (by simp [results, Try.results22, go_sem, p0, p1]) rfl ?_
          exact ⟨by rw [x3.out, x4.out], hB1⟩
theorem rest_any (A V : Option Addr) (t : List (List Nat)) (code : List Int) (c cv : Nat) (w : World) (hA : WTab w A t) (hV : Row w V code) (hm : code.length ≤ 32768) (ht : TabW t) :
    Calls Try.prog 22 #[.slice A t.length c, .slice V code.length cv] w (EstPost w (estV t code) (estE t code)) := by
  by_cases h : t.length = code.length
  · rw [h]
    exact rest_go A V t code code.length c cv w hA hV h rfl hm ht
  · obtain ⟨x1, x2⟩ := estE_out (t := t) (code := code) (fun hh => h hh.1)
    rw [x1, x2]
    exact rest_len A V _ _ c cv w h
end Go.Proofs.Ytiamppbgpoffmaa
