/- WideOrder: the walk. -/
import Derived.Test.YtodjpljdkjemmaaAwake01
namespace Go.Proofs.Ytodjpljdkjemmaa
open Go.RowKit
set_option linter.unusedVariables false

/-- The number of two halves. -/
def wh (h l : Nat) : Nat := h * 18446744073709551616 + l
theorem wh_lt {h l : Nat} (s1 : Sm h) (s2 : Sm l) : wh h l < 340282366920938463463374607431768211456 := by unfold wh Sm at *; omega
theorem num_wh (h l : Nat) (s2 : Sm l) : num (wh h l) = .agg #[.int .u64 (h : Int), .int .u64 (l : Int)] := num_wv h l s2
theorem wh_inj {h l h' l' : Nat} (s : Sm l) (s' : Sm l') (e : wh h l = wh h' l') : h = h' ∧ l = l' := by unfold wh Sm at *; omega
theorem wh_lex {h l h' l' : Nat} (s : Sm l) (s' : Sm l') : wh h l < wh h' l' ↔ h < h' ∨ h = h' ∧ l < l' := by unfold wh Sm at *; omega
theorem cmp_h (ah al bh bl : Nat) (s2 : Sm al) (s4 : Sm bl) (c : Int) (hc : c = cmpN (wh ah al) (wh bh bl)) (w : World) :
    Calls Try.prog 16 #[.agg #[.int .u64 (ah : Int), .int .u64 (al : Int)], .agg #[.int .u64 (bh : Int), .int .u64 (bl : Int)]] w (CmpPost w c) := by
  rw [hc, ← num_wh ah al s2, ← num_wh bh bl s4]
  exact cmp_any _ _ w
theorem sub_low (ah al bh bl : Nat) (s1 : Sm ah) (s2 : Sm al) (s3 : Sm bh) (s4 : Sm bl) (hc : wh ah al < wh bh bl) (w : World) :
    Calls Try.prog 11 #[.agg #[.int .u64 (ah : Int), .int .u64 (al : Int)], .agg #[.int .u64 (bh : Int), .int .u64 (bl : Int)]] w (HalfPost w 0 0 10) := by
  rw [← num_wh ah al s2, ← num_wh bh bl s4]
  refine (sub_any _ _ (wh_lt s1 s2) (wh_lt s3 s4) w).mono ?_
  rintro e w' ⟨rfl, hb⟩
  unfold difN difE
  rw [if_neg (by omega), if_neg (by omega), num_zero]
  exact ⟨rfl, hb⟩
theorem sub_ok (ah al bh bl dh dl : Nat) (s1 : Sm ah) (s2 : Sm al) (s3 : Sm bh) (s4 : Sm bl) (s6 : Sm dl) (hc : wh bh bl + wh dh dl = wh ah al) (w : World) :
    Calls Try.prog 11 #[.agg #[.int .u64 (ah : Int), .int .u64 (al : Int)], .agg #[.int .u64 (bh : Int), .int .u64 (bl : Int)]] w (HalfPost w dh dl 0) := by
  rw [← num_wh ah al s2, ← num_wh bh bl s4]
  refine (sub_any _ _ (wh_lt s1 s2) (wh_lt s3 s4) w).mono ?_
  rintro e w' ⟨rfl, hb⟩
  unfold difN difE
  rw [if_pos (by omega), if_pos (by omega), show wh ah al - wh bh bl = wh dh dl by omega, num_wh dh dl s6]
  exact ⟨rfl, hb⟩
theorem wh_of (n : Nat) (h : n < 340282366920938463463374607431768211456) : ∃ h l, Sm h ∧ Sm l ∧ wh h l = n :=
  ⟨n / 18446744073709551616, n % 18446744073709551616, by unfold Sm; omega, by unfold Sm; omega, by unfold wh; omega⟩
def RootPost (w : World) (a : Nat) (e : Ending) (w' : World) : Prop := ∃ r : Nat, e = .returned (.int .u64 (r : Int)) ∧ Hid (r < 18446744073709551616 ∧ r * r ≤ a ∧ a < (r + 1) * (r + 1)) ∧ Below w.heap.size w w'
theorem sqrt_h (ah al : Nat) (s1 : Sm ah) (s2 : Sm al) (w : World) : Calls Try.prog 17 #[.agg #[.int .u64 (ah : Int), .int .u64 (al : Int)]] w (RootPost w (wh ah al)) := by
  rw [← num_wh ah al s2]
  refine (sqrt_any _ (wh_lt s1 s2) w).mono ?_
  rintro e w' ⟨r, rfl, h1, h2, h3, hb⟩
  exact ⟨r, rfl, Lib.hid ⟨h1, h2, h3⟩, hb⟩
theorem root_le {a b r q : Nat} (h : b ≤ a) (hr : Hid (r < 18446744073709551616 ∧ r * r ≤ a ∧ a < (r + 1) * (r + 1))) (hq : Hid (q < 18446744073709551616 ∧ q * q ≤ b ∧ b < (q + 1) * (q + 1))) : (q : Int) ≤ (r : Int) := by
  obtain ⟨_, h1, h2⟩ := hr.out
  obtain ⟨_, h3, h4⟩ := hq.out
  rcases Nat.lt_or_ge r q with hlt | hge
  · have := Nat.mul_le_mul (show r + 1 ≤ q by omega) (show r + 1 ≤ q by omega)
    omega
  · omega
/-- The two arguments, boxed. -/
def Two (w wr : World) (ah al bh bl : Nat) : Prop := Below w.heap.size w wr ∧ Blk wr w.heap.size 24 #[.int .u64 (ah : Int), .int .u64 (al : Int)] ∧ Blk wr (w.heap.size + 1) 24 #[.int .u64 (bh : Int), .int .u64 (bl : Int)]
theorem Two.more {w wr w1 : World} {ah al bh bl : Nat} (h : Two w wr ah al bh bl) (hb : Below wr.heap.size wr w1) : Two w w1 ah al bh bl := ⟨below_chain h.1 hb h.1.size, h.2.1.below hb h.2.1.lt, h.2.2.below hb h.2.2.lt⟩
theorem Two.drew {w wr : World} {ah al bh bl : Nat} (h : Two w wr ah al bh bl) : Two w wr.drew ah al bh bl := ⟨h.1.drew, h.2.1, h.2.2⟩
theorem Two.start (w : World) (ah al bh bl : Nat) : Two w ((w.alloc (.cells #[.int .u64 (ah : Int), .int .u64 (al : Int)] 24)).alloc (.cells #[.int .u64 (bh : Int), .int .u64 (bl : Int)] 24)) ah al bh bl := by
  have e1 : (w.alloc (.cells #[.int .u64 (ah : Int), .int .u64 (al : Int)] 24)).heap.size = w.heap.size + 1 := by simp
  refine ⟨((Below.refl _ _).alloc (Nat.le_refl _) _).alloc (by simp) _, (Blk.new w _ _).alloc _, ?_⟩
  have := Blk.new (w.alloc (.cells #[.int .u64 (ah : Int), .int .u64 (al : Int)] 24)) 24 #[.int .u64 (bh : Int), .int .u64 (bl : Int)]
  rwa [e1] at this
theorem Two.cells {w wr : World} {ah al bh bl : Nat} (h : Two w wr ah al bh bl) : wr.cell? ⟨w.heap.size, 0, none⟩ = some (.int .u64 (ah : Int)) ∧ wr.cell? ⟨w.heap.size, 1, none⟩ = some (.int .u64 (al : Int)) ∧
    wr.cell? ⟨w.heap.size + 1, 0, none⟩ = some (.int .u64 (bh : Int)) ∧ wr.cell? ⟨w.heap.size + 1, 1, none⟩ = some (.int .u64 (bl : Int)) := ⟨h.2.1.cell 0, h.2.1.cell 1, h.2.2.cell 0, h.2.2.cell 1⟩
theorem Two.lt {w wr : World} {ah al bh bl : Nat} (h : Two w wr ah al bh bl) : w.heap.size < wr.heap.size ∧ w.heap.size + 1 < wr.heap.size := ⟨h.2.1.lt, h.2.2.lt⟩

set_option maxRecDepth 100000 in
set_option maxHeartbeats 4000000 in
theorem order_same (ah al : Nat) (s1 : Sm ah) (s2 : Sm al) (w : World) :
    Calls Try.prog 8 #[.agg #[.int .u64 (ah : Int), .int .u64 (al : Int)], .agg #[.int .u64 (ah : Int), .int .u64 (al : Int)]] w fun e w' => e = .returned (.bool true) ∧ Below w.heap.size w w' := by
  have T0 := Two.start w ah al ah al
  go_enter Try.func8, Try.ntmps8
  go_wp2_with fail
  refine (cmp_h ah al ah al s2 s2 0 (by unfold cmpN; rw [if_pos rfl]) _).mono ?_
  rintro e w1 ⟨rfl, b1⟩
  have T1 := T0.more b1
  clear T0 b1
  obtain ⟨c0, c1, c2, c3⟩ := T1.cells
  go_wp2_with fail
  refine (sub_ok ah al ah al 0 0 s1 s2 s1 s2 sm_zero (by unfold wh; omega) _).mono ?_
  rintro e w2 ⟨rfl, b2⟩
  have T2 := T1.more b2
  clear T1 b2 c0 c1 c2 c3
  obtain ⟨c0, c1, c2, c3⟩ := T2.cells
  obtain ⟨l0, l1⟩ := T2.lt
  go_wp2_with fail
  have T3 := T2.more (below_alloc1 w2 (Obj.cells #[.int .u64 0, .int .u64 0] 24))
  generalize w2.alloc (Obj.cells #[.int .u64 0, .int .u64 0] 24) = w3 at *
  generalize w2.heap.size = g2
  clear T2 c0 c1 c2 c3 l0 l1 w2
  refine (cmp_h ah al ah al s2 s2 0 (by unfold cmpN; rw [if_pos rfl]) _).mono ?_
  rintro e w4 ⟨rfl, b4⟩
  have T4 := T3.more b4
  clear T3 b4 w3
  obtain ⟨c0, c1, c2, c3⟩ := T4.cells
  go_wp2_with fail
  go_region_with (first
    | (go_at_call 13; refine (awake_any _).mono ?_; rintro e x1 ⟨rfl, y1⟩; have U1 := T4.drew.more y1; obtain ⟨d0, d1, d2, d3⟩ := U1.cells))
  all_goals
    go_wp2
    refine bodyPost_ret (v := .bool true) (by simp [results, Try.results8, go_sem]) rfl ?_
    exact ⟨rfl, U1.1⟩
set_option maxRecDepth 100000 in
set_option maxHeartbeats 4000000 in
theorem order_low1 (ah al bh bl : Nat) (s1 : Sm ah) (s2 : Sm al) (s3 : Sm bh) (s4 : Sm bl) (h : wh ah al < wh bh bl) (f1 : ((ah : Int) == (bh : Int)) = false) (w : World) :
    Calls Try.prog 8 #[.agg #[.int .u64 (ah : Int), .int .u64 (al : Int)], .agg #[.int .u64 (bh : Int), .int .u64 (bl : Int)]] w fun e w' => e = .returned (.bool true) ∧ Below w.heap.size w w' := by
  have T0 := Two.start w ah al bh bl
  replace h := Lib.hid h
  go_enter Try.func8, Try.ntmps8
  go_wp2_with fail
  refine (cmp_h ah al bh bl s2 s4 (-1) (by have h := h.out; unfold cmpN; rw [if_neg (by omega), if_pos (by omega)]) _).mono ?_
  rintro e w1 ⟨rfl, b1⟩
  have T1 := T0.more b1
  clear T0 b1
  obtain ⟨c0, c1, c2, c3⟩ := T1.cells
  go_wp2_with fail
  refine (sub_low ah al bh bl s1 s2 s3 s4 h.out _).mono ?_
  rintro e w2 ⟨rfl, b2⟩
  have T2 := T1.more b2
  clear T1 b2 c0 c1 c2 c3
  obtain ⟨c0, c1, c2, c3⟩ := T2.cells
  obtain ⟨l0, l1⟩ := T2.lt
  go_wp2_with fail
  have T3 := T2.more (below_alloc1 w2 (Obj.cells #[.int .u64 0, .int .u64 0] 24))
  generalize w2.alloc (Obj.cells #[.int .u64 0, .int .u64 0] 24) = w3 at *
  generalize w2.heap.size = g2
  clear T2 c0 c1 c2 c3 l0 l1 w2
  refine (cmp_h bh bl ah al s4 s2 1 (by have h := h.out; unfold cmpN; rw [if_neg (by omega), if_neg (by omega)]) _).mono ?_
  rintro e w4 ⟨rfl, b4⟩
  have T4 := T3.more b4
  clear T3 b4 w3
  obtain ⟨c0, c1, c2, c3⟩ := T4.cells
  go_wp2_with fail
  go_region_with (first
    | (go_at_call 13; refine (awake_any _).mono ?_; rintro e x1 ⟨rfl, y1⟩; have U1 := T4.drew.more y1; obtain ⟨d0, d1, d2, d3⟩ := U1.cells))
  all_goals
    go_wp2
    refine bodyPost_ret (v := .bool true) (by simp [results, Try.results8, go_sem]) rfl ?_
    exact ⟨rfl, U1.1⟩
set_option maxRecDepth 100000 in
set_option maxHeartbeats 4000000 in
theorem order_low2 (ah al bl : Nat) (s1 : Sm ah) (s2 : Sm al) (s3 : Sm ah) (s4 : Sm bl) (h : wh ah al < wh ah bl) (f1 : ((al : Int) == (bl : Int)) = false) (w : World) :
    Calls Try.prog 8 #[.agg #[.int .u64 (ah : Int), .int .u64 (al : Int)], .agg #[.int .u64 (ah : Int), .int .u64 (bl : Int)]] w fun e w' => e = .returned (.bool true) ∧ Below w.heap.size w w' := by
  have T0 := Two.start w ah al ah bl
  replace h := Lib.hid h
  go_enter Try.func8, Try.ntmps8
  go_wp2_with fail
  refine (cmp_h ah al ah bl s2 s4 (-1) (by have h := h.out; unfold cmpN; rw [if_neg (by omega), if_pos (by omega)]) _).mono ?_
  rintro e w1 ⟨rfl, b1⟩
  have T1 := T0.more b1
  clear T0 b1
  obtain ⟨c0, c1, c2, c3⟩ := T1.cells
  go_wp2_with fail
  refine (sub_low ah al ah bl s1 s2 s3 s4 h.out _).mono ?_
  rintro e w2 ⟨rfl, b2⟩
  have T2 := T1.more b2
  clear T1 b2 c0 c1 c2 c3
  obtain ⟨c0, c1, c2, c3⟩ := T2.cells
  obtain ⟨l0, l1⟩ := T2.lt
  go_wp2_with fail
  have T3 := T2.more (below_alloc1 w2 (Obj.cells #[.int .u64 0, .int .u64 0] 24))
  generalize w2.alloc (Obj.cells #[.int .u64 0, .int .u64 0] 24) = w3 at *
  generalize w2.heap.size = g2
  clear T2 c0 c1 c2 c3 l0 l1 w2
  refine (cmp_h ah bl ah al s4 s2 1 (by have h := h.out; unfold cmpN; rw [if_neg (by omega), if_neg (by omega)]) _).mono ?_
  rintro e w4 ⟨rfl, b4⟩
  have T4 := T3.more b4
  clear T3 b4 w3
  obtain ⟨c0, c1, c2, c3⟩ := T4.cells
  go_wp2_with fail
  go_region_with (first
    | (go_at_call 13; refine (awake_any _).mono ?_; rintro e x1 ⟨rfl, y1⟩; have U1 := T4.drew.more y1; obtain ⟨d0, d1, d2, d3⟩ := U1.cells))
  all_goals
    go_wp2
    refine bodyPost_ret (v := .bool true) (by simp [results, Try.results8, go_sem]) rfl ?_
    exact ⟨rfl, U1.1⟩
end Go.Proofs.Ytodjpljdkjemmaa
