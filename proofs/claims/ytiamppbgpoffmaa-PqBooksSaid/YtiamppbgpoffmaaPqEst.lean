/- The contract of pq.Estimate. -/
import Derived.Test.YtiamppbgpoffmaaPqTab
import Derived.Deep.RegionWith
namespace Go.Proofs.Ytiamppbgpoffmaa
open Go.RowKit
set_option linter.unusedVariables false

instance (n : Nat) : Decidable (Wd n) := by unfold Wd; infer_instance
/-- The first j numbers of a code are within a table's rows. -/
def EstIn (t : List (List Nat)) (code : List Int) (j : Nat) : Prop := ∀ i, i < j → 0 ≤ nth code i ∧ nth code i < (wrow t i).length
instance (t : List (List Nat)) (code : List Int) (j : Nat) : Decidable (EstIn t code j) := by unfold EstIn; infer_instance
theorem EstIn.succ {t : List (List Nat)} {code : List Int} {j : Nat} (h : EstIn t code j) (h1 : 0 ≤ nth code j) (h2 : nth code j < (wrow t j).length) : EstIn t code (j + 1) := fun i hi => by
  by_cases e : i = j
  · subst e; exact ⟨h1, h2⟩
  · exact h i (by omega)
/-- The sum of the first j numbers at a code's places. -/
def estS (t : List (List Nat)) (code : List Int) : Nat → Nat
  | 0 => 0
  | j + 1 => estS t code j + nthw (wrow t j) (nth code j).toNat
theorem estS_le (t : List (List Nat)) (code : List Int) {i j : Nat} (h : i ≤ j) : estS t code i ≤ estS t code j := by
  induction j with
  | zero => rw [Nat.le_zero.1 h]; exact Nat.le_refl _
  | succ j ih =>
    by_cases e : i = j + 1
    · rw [e]; exact Nat.le_refl _
    · exact Nat.le_trans (ih (by omega)) (by rw [estS]; omega)
def estE (t : List (List Nat)) (code : List Int) : Int := if t.length = code.length ∧ EstIn t code code.length then (if Wd (estS t code code.length) then 0 else 10) else 101
def estV (t : List (List Nat)) (code : List Int) : Nat := if estE t code = 0 then estS t code code.length else 0
theorem estE_fits {t : List (List Nat)} {code : List Int} (h1 : t.length = code.length) (h2 : EstIn t code code.length) (h3 : Wd (estS t code code.length)) : estE t code = 0 ∧ estV t code = estS t code code.length := by
  have e : estE t code = 0 := by rw [estE, if_pos ⟨h1, h2⟩, if_pos h3]
  exact ⟨e, by rw [estV, if_pos e]⟩
theorem estE_over {t : List (List Nat)} {code : List Int} (h1 : t.length = code.length) (h2 : EstIn t code code.length) (h3 : ¬ Wd (estS t code code.length)) : estE t code = 10 ∧ estV t code = 0 := by
  have e : estE t code = 10 := by rw [estE, if_pos ⟨h1, h2⟩, if_neg h3]
  exact ⟨e, by rw [estV, e, if_neg (by omega)]⟩
theorem estE_out {t : List (List Nat)} {code : List Int} (h : ¬ (t.length = code.length ∧ EstIn t code code.length)) : estE t code = 101 ∧ estV t code = 0 := by
  have e : estE t code = 101 := by rw [estE, if_neg h]
  exact ⟨e, by rw [estV, e, if_neg (by omega)]⟩
/-- All numbers of a table are below 2^128. -/
def TabW (t : List (List Nat)) : Prop := ∀ i x, i < t.length → x < (wrow t i).length → Wd (nthw (wrow t i) x)
def EstPost (w : World) (n : Nat) (f : Int) (e : Ending) (w' : World) : Prop := e = .returned (.tuple #[.agg #[.int .u64 (hiN n : Int), .int .u64 (loN n : Int)], .int .i64 f]) ∧ Below w.heap.size w w'
theorem hiN_zero : (hiN 0 : Int) = 0 ∧ (loN 0 : Int) = 0 := ⟨by kernel_rfl, by kernel_rfl⟩
theorem sum_wd (a b : Nat) (ha : Wd a) (hb : Wd b) (w : World) : Calls Try.prog 38 #[.agg #[.int .u64 (hiN a : Int), .int .u64 (loN a : Int)], .agg #[.int .u64 (hiN b : Int), .int .u64 (loN b : Int)]] w
    (fun e w' => (Wd (a + b) → EstPost w (a + b) 0 e w') ∧ (¬ Wd (a + b) → EstPost w 0 10 e w')) := by
  refine (add_any a b ha hb w).mono ?_
  rintro e w' ⟨rfl, h⟩
  constructor
  · intro h1
    unfold Wd at h1
    refine ⟨?_, h⟩
    rw [sumN, sumE, if_pos h1, if_pos h1]
    rfl
  · intro h1
    unfold Wd at h1
    refine ⟨?_, h⟩
    rw [sumN, sumE, if_neg h1, if_neg h1]
    rfl

/-- What stands while the numbers are added. -/
def EstSt (w wr : World) (S D : Nat) : Prop := Below w.heap.size w wr ∧ Blk wr w.heap.size 44 #[.int .u64 0, .int .u64 0] ∧ Blk wr S 44 #[.int .u64 (hiN D : Int), .int .u64 (loN D : Int)] ∧ w.heap.size < S
theorem EstSt.cells {w wr : World} {S D : Nat} (h : EstSt w wr S D) : wr.cell? ⟨S, 0, none⟩ = some (.int .u64 (hiN D : Int)) ∧ wr.cell? ⟨S, 1, none⟩ = some (.int .u64 (loN D : Int)) ∧ wr.frozen? ⟨S, 0, none⟩ = false ∧ wr.frozen? ⟨S, 1, none⟩ = false := ⟨h.2.2.1.cell 0, h.2.2.1.cell 1, h.2.2.1.frozen 0, h.2.2.1.frozen 1⟩
theorem EstSt.res {w wr : World} {S D : Nat} (h : EstSt w wr S D) : wr.cell? ⟨w.heap.size, 0, none⟩ = some (.int .u64 0) ∧ wr.cell? ⟨w.heap.size, 1, none⟩ = some (.int .u64 0) ∧ wr.frozen? ⟨w.heap.size, 0, none⟩ = false ∧ wr.frozen? ⟨w.heap.size, 1, none⟩ = false := ⟨h.2.1.cell 0, h.2.1.cell 1, h.2.1.frozen 0, h.2.1.frozen 1⟩
theorem EstSt.more {w wr w2 : World} {S D : Nat} (h : EstSt w wr S D) (hb : Below wr.heap.size wr w2) : EstSt w w2 S D := ⟨below_chain h.1 hb h.1.size, h.2.1.below hb h.2.1.lt, h.2.2.1.below hb h.2.2.1.lt, h.2.2.2⟩
theorem EstSt.put {w wr : World} {S D E : Nat} (h : EstSt w wr S D) : EstSt w ((wr.setCell ⟨S, 0, none⟩ (.int .u64 (hiN E : Int))).setCell ⟨S, 1, none⟩ (.int .u64 (loN E : Int))) S E := by
  have hl := h.2.2.2
  refine ⟨(h.1.setCell (p := ⟨S, 0, none⟩) (by simp only; omega) _).setCell (p := ⟨S, 1, none⟩) (by simp only; omega) _, (h.2.1.far (by simp only; omega) _).far (by simp only; omega) _, (h.2.2.1.set_ 0 _).set_ 1 _, hl⟩
theorem Blk.zero2 {w : World} {g : Nat} (h : Blk w g 44 #[.int .u64 0, .int .u64 0]) : w.cell? ⟨g, 0, none⟩ = some (.int .u64 0) ∧ w.cell? ⟨g, 1, none⟩ = some (.int .u64 0) ∧ w.frozen? ⟨g, 0, none⟩ = false ∧ w.frozen? ⟨g, 1, none⟩ = false := ⟨h.cell 0, h.cell 1, h.frozen 0, h.frozen 1⟩
theorem below_put2 {w wr : World} {g : Nat} (h : Below w.heap.size w wr) (hg : w.heap.size ≤ g) (u v : Value) : Below w.heap.size w ((wr.setCell ⟨g, 0, none⟩ u).setCell ⟨g, 1, none⟩ v) := (h.setCell (p := ⟨g, 0, none⟩) hg _).setCell (p := ⟨g, 1, none⟩) hg _
theorem put2_cells {w : World} {g : Nat} {u v a b : Value} (h0 : w.cell? ⟨g, 0, none⟩ = some a) (h1 : w.cell? ⟨g, 1, none⟩ = some b) : ((w.setCell ⟨g, 0, none⟩ u).setCell ⟨g, 1, none⟩ v).cell? ⟨g, 0, none⟩ = some u ∧ ((w.setCell ⟨g, 0, none⟩ u).setCell ⟨g, 1, none⟩ v).cell? ⟨g, 1, none⟩ = some v := by
  constructor
  · rw [World.cell?_setCell_other _ _ _ _ (fun e => by injection e; omega)]
    exact World.cell?_setCell_same' _ _ _ (by rw [h0]; rfl)
  · refine World.cell?_setCell_same' _ _ _ ?_
    rw [World.cell?_setCell_other _ _ _ _ (fun e => by injection e; omega), h1]
    rfl

theorem est_len (A V : Option Addr) (n m c cv : Nat) (w : World) (h : n ≠ m) : Calls Try.prog 21 #[.slice A n c, .slice V m cv] w (EstPost w 0 101) := by
  have hne : ((n : Int) != (m : Int)) = true := by simp; omega
  have hb := Blk.new w 44 #[.int .u64 0, .int .u64 0]
  obtain ⟨m0, m1, m2, m3⟩ := hb.zero2
  obtain ⟨z0, z1⟩ := hiN_zero
  clear h
  go_enter Try.func21, Try.ntmps21
  go_wp2_with fail
  refine bodyPost_ret (v := .tuple #[.agg #[.int .u64 0, .int .u64 0], .int .i64 101]) (by simp [results, Try.results21, go_sem, m0, m1]) rfl ?_
  exact ⟨by rw [z0, z1], below_alloc1 _ _⟩

set_option maxRecDepth 100000 in
set_option maxHeartbeats 4000000 in
theorem est_go (A V : Option Addr) (t : List (List Nat)) (code : List Int) (m c cv : Nat) (w : World) (hA : WTab w A t) (hV : Row w V code) (hl : t.length = m) (hl2 : code.length = m) (hm : m ≤ 32768) (ht : TabW t) :
    Calls Try.prog 21 #[.slice A m c, .slice V m cv] w (EstPost w (estV t code) (estE t code)) := by
  have hb := Blk.new w 44 #[.int .u64 0, .int .u64 0]
  have hB0 := below_alloc1 w (.cells #[.int .u64 0, .int .u64 0] 44)
  obtain ⟨z0, z1⟩ := hiN_zero
  have hne : ((m : Int) != (m : Int)) = false := by simp
  have hm' : m ≤ 9223372036854775807 := by omega
  clear hm
  replace hl := Lib.hid hl
  replace hl2 := Lib.hid hl2
  replace ht := Lib.hid ht
  go_enter Try.func21, Try.ntmps21
  go_upto_region 1 with fail
  generalize w.alloc (.cells #[.int .u64 0, .int .u64 0] 44) = w0 at *
  go_wp2_with fail
  clear hne
  have hA0 := hA.below hB0
  have hV0 := hV.below hB0
  go_loopw [20] (fun i wr => wr = w0 ∧ ∃ j : Nat, j ≤ m ∧ i = .int .i64 (j : Int) ∧ EstIn t code j) (fun i _ => m - (intOf i).toNat)
  case atStart => exact ⟨rfl, 0, Nat.zero_le _, rfl, fun j hj => absurd hj (by omega)⟩
  case round =>
    obtain ⟨rfl, j, hj, rfl, hI⟩ := hrel
    by_cases hlt : j < m
    · have q0 : (0 : Int) ≤ (j : Int) := by omega
      have q1 : (j : Int) < (m : Int) := by omega
      obtain ⟨gv, ov, rfl, d0⟩ := hV0 j (by rw [hl2.out]; exact hlt)
      obtain ⟨g, o, R, rc, rfl, d1, hR⟩ := hA0 j (by rw [hl.out]; exact hlt)
      by_cases hq : 0 ≤ nth code j ∧ nth code j < (wrow t j).length
      · have hI2 := hI.succ hq.1 hq.2
        replace hI2 := Lib.hid hI2
        obtain ⟨r1, r2⟩ := hq
        generalize nth code j = q at *
        clear hI
        go_wp2_with fail
        exact ⟨⟨trivial, j + 1, by omega, by go_num, hI2.out⟩, by simp [intOf]; omega⟩
      · obtain ⟨x1, x2⟩ := estE_out (t := t) (code := code) (fun h => hq (by have := h.2 j (by rw [hl2.out]; exact hlt); exact this))
        obtain ⟨m0, m1, m2, m3⟩ := hb.zero2
        have hB1 := below_put2 hB0 (Nat.le_refl _) (.int .u64 0) (.int .u64 0)
        obtain ⟨p0, p1⟩ := put2_cells (u := .int .u64 0) (v := .int .u64 0) m0 m1
        replace x1 := Lib.hid x1
        replace x2 := Lib.hid x2
        by_cases h1 : 0 ≤ nth code j
        · have h2 : ((wrow t j).length : Int) ≤ nth code j := by omega
          generalize nth code j = q at *
          clear hq hI
          go_wp2_with fail
          refine bodyPost_ret (v := .tuple #[.agg #[.int .u64 0, .int .u64 0], .int .i64 101]) (by simp [results, Try.results21, go_sem, p0, p1]) rfl ?_
          exact ⟨by rw [x1.out, x2.out, z0, z1], hB1⟩
        · have h2 : nth code j < 0 := by omega
          generalize nth code j = q at *
          clear hq h1 hI
          go_wp2_with fail
          refine bodyPost_ret (v := .tuple #[.agg #[.int .u64 0, .int .u64 0], .int .i64 101]) (by simp [results, Try.results21, go_sem, p0, p1]) rfl ?_
          exact ⟨by rw [x1.out, x2.out, z0, z1], hB1⟩
    · obtain rfl : j = m := by omega
      go_upto_region 10 with fail
      have T0 : EstSt w (wr.alloc (.cells #[.int .u64 0, .int .u64 0] 44)) wr.heap.size (estS t code 0) := ⟨below_chain hB0 (below_alloc1 _ _) hB0.size, hb.alloc _, by have := Blk.new wr 44 #[.int .u64 0, .int .u64 0]; rw [estS, z0, z1]; exact this, hb.lt⟩
      clear hb hA0 hV0 hB0
      generalize hS : wr.heap.size = S at *
      generalize wr.alloc (.cells #[.int .u64 0, .int .u64 0] 44) = w1 at *
      replace hI := Lib.hid hI
      go_wp2_with fail
      go_loopw [40] (fun i wr => ∃ x : Nat, x ≤ j ∧ i = .int .i64 (x : Int) ∧ EstSt w wr S (estS t code x) ∧ Wd (estS t code x)) (fun i _ => j - (intOf i).toNat)
      case atStart => exact ⟨0, Nat.zero_le _, rfl, T0, by unfold Wd; rw [estS]; omega⟩
      case round =>
        clear T0
        obtain ⟨x, hx, rfl, hT, hD⟩ := hrel
        by_cases hlt2 : x < j
        · have q0 : (0 : Int) ≤ (x : Int) := by omega
          have q1 : (x : Int) < (j : Int) := by omega
          obtain ⟨gv, ov, rfl, d0⟩ := hV x (by rw [hl2.out]; exact hlt2)
          obtain ⟨g, o, R, rc, rfl, d1, hR⟩ := hA x (by rw [hl.out]; exact hlt2)
          obtain ⟨r1, r2⟩ := hI.out x hlt2
          obtain ⟨a, ha⟩ : ∃ a : Nat, nth code x = (a : Int) := ⟨(nth code x).toNat, by omega⟩
          rw [ha] at d0 r2
          have hak : a < (wrow t x).length := by omega
          obtain ⟨g2, o2, rfl, d2, d3⟩ := hR a hak
          have hE := ht.out x a (by rw [hl.out]; exact hlt2) hak
          have hS1 : estS t code (x + 1) = estS t code x + nthw (wrow t x) a := by rw [estS, ha, Int.toNat_natCast]
          have hle := estS_le t code (show x + 1 ≤ j by omega)
          have hS' := sum_wd _ _ hD hE
          rw [← hS1] at hS'
          have hHB := hT.1
          replace hT := hT.more (Below.refl _ _).drew
          obtain ⟨c0, c1, c2, c3⟩ := hT.cells
          have e0 := below_cell hHB d0
          have e1 := below_cell hT.1 d1
          have e2 := below_cell hT.1 d2
          have e3 := below_cell hT.1 d3
          generalize nthw (wrow t x) a = E at *
          generalize hD1 : estS t code x = D at *
          have a0 : (0 : Int) ≤ (a : Int) := by omega
          clear ha hR d0 d1 d2 d3 hHB r1 hak hS1
          replace hD := Lib.hid hD
          replace hE := Lib.hid hE
          replace hle := Lib.hid hle
          by_cases hW : Wd (estS t code (x + 1))
          · have hAdd := Lib.hid (fun y => (hS' y).mono (fun e y' hh => hh.1 hW))
            clear hS'
            replace hW := Lib.hid hW
            go_wp2_with fail
            go_region_with (first
              | (go_at_call 38; (with_reducible refine (hAdd.out _).mono ?_); rintro e x1 ⟨rfl, hb⟩; have X1 := hT.more hb; obtain ⟨y0, y1, y2, y3⟩ := X1.cells))
            all_goals
              have hT2 := X1.put (E := estS t code (x + 1))
              clear hT X1 hb c0 c1 c2 c3 y0 y1 y2 y3 e0 e1 e2 e3 hAdd
              generalize (x1.setCell _ _).setCell _ _ = x2 at *
              go_wp2_with fail
              exact ⟨⟨x + 1, by omega, by go_num, hT2, hW.out⟩, by simp [intOf]; omega⟩
          · have hAdd := Lib.hid (fun y => (hS' y).mono (fun e y' hh => hh.2 hW))
            clear hS'
            obtain ⟨x3, x4⟩ := estE_over (t := t) (code := code) (by rw [hl.out, hl2.out]) (by rw [hl2.out]; exact hI.out) (fun h => hW (by rw [hl2.out] at h; unfold Wd at h ⊢; have := hle.out; omega))
            replace hW := Lib.hid hW
            replace x3 := Lib.hid x3
            replace x4 := Lib.hid x4
            go_wp2_with fail
            go_region_with (first
              | (go_at_call 38; (with_reducible refine (hAdd.out _).mono ?_); rintro e x1 ⟨rfl, hb⟩; have X1 := hT.more hb; obtain ⟨y0, y1, y2, y3⟩ := X1.cells))
            all_goals
              have hT2 := X1.put (E := 0)
              rw [z0, z1] at hT2
              clear hT X1 hb c0 c1 c2 c3 y0 y1 y2 y3 e0 e1 e2 e3 hAdd
              generalize (x1.setCell _ _).setCell _ _ = x2 at *
              obtain ⟨m0, m1, m2, m3⟩ := hT2.res
              have hB1 := below_put2 hT2.1 (Nat.le_refl _) (.int .u64 0) (.int .u64 0)
              obtain ⟨p0, p1⟩ := put2_cells (u := .int .u64 0) (v := .int .u64 0) m0 m1
              go_wp2_with fail
              refine bodyPost_ret (v := .tuple #[.agg #[.int .u64 0, .int .u64 0], .int .i64 10]) (by simp [results, Try.results21, go_sem, p0, p1]) rfl ?_
              exact ⟨by rw [x3.out, x4.out, z0, z1], hB1⟩
        · obtain rfl : x = j := by omega
          obtain ⟨x3, x4⟩ := estE_fits (t := t) (code := code) (by rw [hl.out, hl2.out]) (by rw [hl2.out]; exact hI.out) (by rw [hl2.out]; exact hD)
          rw [hl2.out] at x4
          obtain ⟨c0, c1, c2, c3⟩ := hT.cells
          obtain ⟨m0, m1, m2, m3⟩ := hT.res
          generalize estS t code x = D at *
          have hB1 := below_put2 hT.1 (Nat.le_refl _) (.int .u64 (hiN D : Int)) (.int .u64 (loN D : Int))
          obtain ⟨p0, p1⟩ := put2_cells (u := .int .u64 (hiN D : Int)) (v := .int .u64 (loN D : Int)) m0 m1
          clear hD hT
          replace x3 := Lib.hid x3
          replace x4 := Lib.hid x4
          go_wp2_with fail
          refine bodyPost_ret (v := .tuple #[.agg #[.int .u64 (hiN D : Int), .int .u64 (loN D : Int)], .int .i64 0]) (by simp [results, Try.results21, go_sem, p0, p1]) rfl ?_
          exact ⟨by rw [x3.out, x4.out], hB1⟩
theorem est_any (A V : Option Addr) (t : List (List Nat)) (code : List Int) (c cv : Nat) (w : World) (hA : WTab w A t) (hV : Row w V code) (hm : code.length ≤ 32768) (ht : TabW t) :
    Calls Try.prog 21 #[.slice A t.length c, .slice V code.length cv] w (EstPost w (estV t code) (estE t code)) := by
  by_cases h : t.length = code.length
  · rw [h]
    exact est_go A V t code code.length c cv w hA hV h rfl hm ht
  · obtain ⟨x1, x2⟩ := estE_out (t := t) (code := code) (fun hh => h hh.1)
    rw [x1, x2]
    exact est_len A V _ _ c cv w h
end Go.Proofs.Ytiamppbgpoffmaa
