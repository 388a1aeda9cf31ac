/- WideProducts: the walk. -/
import Derived.Test.YtodjpljdkjemmaaWideLawsA
import Derived.Test.YtodjpljdkjemmaaRefMul
namespace Go.Proofs.Ytodjpljdkjemmaa
open Go.RowKit
set_option linter.unusedVariables false

theorem less_h (ah al bh bl : Nat) (s1 : Sm ah) (s2 : Sm al) (s3 : Sm bh) (s4 : Sm bl) (b : Bool) (h : decide (wh ah al < wh bh bl) = b) (w : World) :
    Calls Try.prog 12 #[.agg #[.int .u64 (ah : Int), .int .u64 (al : Int)], .agg #[.int .u64 (bh : Int), .int .u64 (bl : Int)]] w fun e w' => e = .returned (.bool b) ∧ Below w.heap.size w w' := by
  rw [← h]
  exact less_any ah al bh bl s1 s2 s3 s4 w
set_option maxRecDepth 100000 in
set_option maxHeartbeats 4000000 in
theorem prod_lt (x y ah al bh bl : Nat) (sx : Sm x) (sy : Sm y) (s1 : Sm ah) (s2 : Sm al) (s3 : Sm bh) (s4 : Sm bl) (h : wh ah al < wh bh bl) (w : World) :
    Calls Try.prog 4 #[.int .u64 (x : Int), .int .u64 (y : Int), .agg #[.int .u64 (ah : Int), .int .u64 (al : Int)], .agg #[.int .u64 (bh : Int), .int .u64 (bl : Int)]] w fun e w' => e = .returned (.bool true) ∧ Below w.heap.size w w' := by
  obtain ⟨ph, pl, p1, p2, hp⟩ := wh_of (x * y) (sq_lt sx sy)
  replace hp := Lib.hid hp.symm
  have h1 : decide (wh ah al < wh bh bl) = true := decide_eq_true (by omega)
  have h2 : decide (wh bh bl < wh ah al) = false := decide_eq_false (by omega)
  have hc : (-1 : Int) = cmpN (wh ah al) (wh bh bl) := by unfold cmpN; rw [if_neg (by omega), if_pos (by omega)]
  replace h1 := Lib.hid h1
  replace h2 := Lib.hid h2
  replace hc := Lib.hid hc
  clear h
  have T := Two.start w ah al bh bl
  go_enter Try.func4, Try.ntmps4
  go_wp2_with fail
  refine (less_h ah al bh bl s1 s2 s3 s4 _ h1.out _).mono ?_
  rintro e v1 ⟨rfl, b1⟩
  replace T := T.more b1
  clear b1
  obtain ⟨k0, k1, k2, k3⟩ := T.cells
  go_wp2_with fail
  clear k0 k1 k2 k3
  refine (less_h bh bl ah al s3 s4 s1 s2 _ h2.out _).mono ?_
  rintro e v2 ⟨rfl, b2⟩
  replace T := T.more b2
  clear b2
  clear v1
  obtain ⟨k0, k1, k2, k3⟩ := T.cells
  go_wp2_with fail
  clear k0 k1 k2 k3
  refine (awake_any _).mono ?_
  rintro e v3 ⟨rfl, b3⟩
  replace T := T.more b3
  clear b3
  clear v2
  obtain ⟨k0, k1, k2, k3⟩ := T.cells
  go_wp2_with fail
  clear k0 k1 k2 k3
  refine (mul_h x y ph pl sx sy p2 hp.out _).mono ?_
  rintro e v4 ⟨rfl, b4⟩
  replace T := T.more b4
  clear b4
  clear v3
  obtain ⟨k0, k1, k2, k3⟩ := T.cells
  go_wp2_with fail
  clear k0 k1 k2 k3
  refine (rmul_h x y ph pl sx sy p1 p2 hp.out _).mono ?_
  rintro e v5 ⟨rfl, b5⟩
  replace T := T.more b5
  clear b5
  clear v4
  obtain ⟨k0, k1, k2, k3⟩ := T.cells
  go_wp2_with fail
  clear k0 k1 k2 k3
  refine (cmp_h ah al bh bl s2 s4 (-1) hc.out _).mono ?_
  rintro e v6 ⟨rfl, b6⟩
  replace T := T.more b6
  clear b6
  clear v5
  obtain ⟨k0, k1, k2, k3⟩ := T.cells
  go_wp2
  go_ret
  exact ⟨rfl, T.1⟩
set_option maxRecDepth 100000 in
set_option maxHeartbeats 4000000 in
theorem prod_gt (x y ah al bh bl : Nat) (sx : Sm x) (sy : Sm y) (s1 : Sm ah) (s2 : Sm al) (s3 : Sm bh) (s4 : Sm bl) (h : wh bh bl < wh ah al) (w : World) :
    Calls Try.prog 4 #[.int .u64 (x : Int), .int .u64 (y : Int), .agg #[.int .u64 (ah : Int), .int .u64 (al : Int)], .agg #[.int .u64 (bh : Int), .int .u64 (bl : Int)]] w fun e w' => e = .returned (.bool true) ∧ Below w.heap.size w w' := by
  obtain ⟨ph, pl, p1, p2, hp⟩ := wh_of (x * y) (sq_lt sx sy)
  replace hp := Lib.hid hp.symm
  have h1 : decide (wh ah al < wh bh bl) = false := decide_eq_false (by omega)
  have h2 : decide (wh bh bl < wh ah al) = true := decide_eq_true (by omega)
  have hc : (1 : Int) = cmpN (wh ah al) (wh bh bl) := by unfold cmpN; rw [if_neg (by omega), if_neg (by omega)]
  replace h1 := Lib.hid h1
  replace h2 := Lib.hid h2
  replace hc := Lib.hid hc
  clear h
  have T := Two.start w ah al bh bl
  go_enter Try.func4, Try.ntmps4
  go_wp2_with fail
  refine (less_h ah al bh bl s1 s2 s3 s4 _ h1.out _).mono ?_
  rintro e v1 ⟨rfl, b1⟩
  replace T := T.more b1
  clear b1
  obtain ⟨k0, k1, k2, k3⟩ := T.cells
  go_wp2_with fail
  clear k0 k1 k2 k3
  refine (less_h bh bl ah al s3 s4 s1 s2 _ h2.out _).mono ?_
  rintro e v2 ⟨rfl, b2⟩
  replace T := T.more b2
  clear b2
  clear v1
  obtain ⟨k0, k1, k2, k3⟩ := T.cells
  go_wp2_with fail
  clear k0 k1 k2 k3
  refine (awake_any _).mono ?_
  rintro e v3 ⟨rfl, b3⟩
  replace T := T.more b3
  clear b3
  clear v2
  obtain ⟨k0, k1, k2, k3⟩ := T.cells
  go_wp2_with fail
  clear k0 k1 k2 k3
  refine (mul_h x y ph pl sx sy p2 hp.out _).mono ?_
  rintro e v4 ⟨rfl, b4⟩
  replace T := T.more b4
  clear b4
  clear v3
  obtain ⟨k0, k1, k2, k3⟩ := T.cells
  go_wp2_with fail
  clear k0 k1 k2 k3
  refine (rmul_h x y ph pl sx sy p1 p2 hp.out _).mono ?_
  rintro e v5 ⟨rfl, b5⟩
  replace T := T.more b5
  clear b5
  clear v4
  obtain ⟨k0, k1, k2, k3⟩ := T.cells
  go_wp2_with fail
  clear k0 k1 k2 k3
  refine (cmp_h ah al bh bl s2 s4 (1) hc.out _).mono ?_
  rintro e v6 ⟨rfl, b6⟩
  replace T := T.more b6
  clear b6
  clear v5
  obtain ⟨k0, k1, k2, k3⟩ := T.cells
  go_wp2
  go_ret
  exact ⟨rfl, T.1⟩
set_option maxRecDepth 100000 in
set_option maxHeartbeats 4000000 in
theorem prod_eq (x y ah al bh bl : Nat) (sx : Sm x) (sy : Sm y) (s1 : Sm ah) (s2 : Sm al) (s3 : Sm bh) (s4 : Sm bl) (h : wh ah al = wh bh bl) (w : World) :
    Calls Try.prog 4 #[.int .u64 (x : Int), .int .u64 (y : Int), .agg #[.int .u64 (ah : Int), .int .u64 (al : Int)], .agg #[.int .u64 (bh : Int), .int .u64 (bl : Int)]] w fun e w' => e = .returned (.bool true) ∧ Below w.heap.size w w' := by
  obtain ⟨ph, pl, p1, p2, hp⟩ := wh_of (x * y) (sq_lt sx sy)
  replace hp := Lib.hid hp.symm
  have h1 : decide (wh ah al < wh bh bl) = false := decide_eq_false (by omega)
  have h2 : decide (wh bh bl < wh ah al) = false := decide_eq_false (by omega)
  have hc : (0 : Int) = cmpN (wh ah al) (wh bh bl) := by unfold cmpN; rw [if_pos h]
  replace h1 := Lib.hid h1
  replace h2 := Lib.hid h2
  replace hc := Lib.hid hc
  clear h
  have T := Two.start w ah al bh bl
  go_enter Try.func4, Try.ntmps4
  go_wp2_with fail
  refine (less_h ah al bh bl s1 s2 s3 s4 _ h1.out _).mono ?_
  rintro e v1 ⟨rfl, b1⟩
  replace T := T.more b1
  clear b1
  obtain ⟨k0, k1, k2, k3⟩ := T.cells
  go_wp2_with fail
  clear k0 k1 k2 k3
  refine (less_h bh bl ah al s3 s4 s1 s2 _ h2.out _).mono ?_
  rintro e v2 ⟨rfl, b2⟩
  replace T := T.more b2
  clear b2
  clear v1
  obtain ⟨k0, k1, k2, k3⟩ := T.cells
  go_wp2_with fail
  clear k0 k1 k2 k3
  refine (awake_any _).mono ?_
  rintro e v3 ⟨rfl, b3⟩
  replace T := T.more b3
  clear b3
  clear v2
  obtain ⟨k0, k1, k2, k3⟩ := T.cells
  go_wp2_with fail
  clear k0 k1 k2 k3
  refine (mul_h x y ph pl sx sy p2 hp.out _).mono ?_
  rintro e v4 ⟨rfl, b4⟩
  replace T := T.more b4
  clear b4
  clear v3
  obtain ⟨k0, k1, k2, k3⟩ := T.cells
  go_wp2_with fail
  clear k0 k1 k2 k3
  refine (rmul_h x y ph pl sx sy p1 p2 hp.out _).mono ?_
  rintro e v5 ⟨rfl, b5⟩
  replace T := T.more b5
  clear b5
  clear v4
  obtain ⟨k0, k1, k2, k3⟩ := T.cells
  go_wp2_with fail
  clear k0 k1 k2 k3
  refine (cmp_h ah al bh bl s2 s4 (0) hc.out _).mono ?_
  rintro e v6 ⟨rfl, b6⟩
  replace T := T.more b6
  clear b6
  clear v5
  obtain ⟨k0, k1, k2, k3⟩ := T.cells
  go_wp2
  go_ret
  exact ⟨rfl, T.1⟩
/-- WideProducts answers true, whatever the numbers. -/
theorem wideProducts_any (x y ah al bh bl : Nat) (sx : Sm x) (sy : Sm y) (s1 : Sm ah) (s2 : Sm al) (s3 : Sm bh) (s4 : Sm bl) (w : World) :
    Calls Try.prog 4 #[.int .u64 (x : Int), .int .u64 (y : Int), .agg #[.int .u64 (ah : Int), .int .u64 (al : Int)], .agg #[.int .u64 (bh : Int), .int .u64 (bl : Int)]] w fun e w' => e = .returned (.bool true) ∧ Below w.heap.size w w' := by
  rcases Nat.lt_trichotomy (wh ah al) (wh bh bl) with h | h | h
  · exact prod_lt x y ah al bh bl sx sy s1 s2 s3 s4 h w
  · exact prod_eq x y ah al bh bl sx sy s1 s2 s3 s4 h w
  · exact prod_gt x y ah al bh bl sx sy s1 s2 s3 s4 h w
end Go.Proofs.Ytodjpljdkjemmaa
