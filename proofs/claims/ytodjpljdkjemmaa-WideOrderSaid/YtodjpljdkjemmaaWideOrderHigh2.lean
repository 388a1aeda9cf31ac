/- WideOrder: the walk where the first number is the greater one. -/
import Derived.Test.YtodjpljdkjemmaaWideOrderLaw
namespace Go.Proofs.Ytodjpljdkjemmaa
open Go.RowKit
set_option linter.unusedVariables false

set_option maxRecDepth 100000 in
set_option maxHeartbeats 4000000 in
theorem order_high2 (ah al bl : Nat) (s1 : Sm ah) (s2 : Sm al) (s3 : Sm ah) (s4 : Sm bl) (h : wh ah bl < wh ah al) (f1 : ((al : Int) == (bl : Int)) = false) (w : World) :
    Calls Try.prog 8 #[.agg #[.int .u64 (ah : Int), .int .u64 (al : Int)], .agg #[.int .u64 (ah : Int), .int .u64 (bl : Int)]] w fun e w' => e = .returned (.bool true) ∧ Below w.heap.size w w' := by
  have T0 := Two.start w ah al ah bl
  obtain ⟨dh, dl, s5, s6, hd⟩ := wh_of (wh ah al - wh ah bl) (by have := wh_lt s1 s2; omega)
  have hd2 : wh ah bl + wh dh dl = wh ah al := by omega
  clear hd
  replace h := Lib.hid h
  replace hd2 := Lib.hid hd2
  go_enter Try.func8, Try.ntmps8
  go_wp2_with fail
  refine (cmp_h ah al ah bl s2 s4 1 (by have h := h.out; unfold cmpN; rw [if_neg (by omega), if_neg (by omega)]) _).mono ?_
  rintro e w1 ⟨rfl, b1⟩
  have T1 := T0.more b1
  clear T0 b1
  obtain ⟨c0, c1, c2, c3⟩ := T1.cells
  go_wp2_with fail
  refine (sub_ok ah al ah bl dh dl s1 s2 s3 s4 s6 hd2.out _).mono ?_
  rintro e w2 ⟨rfl, b2⟩
  have T2 := T1.more b2
  clear T1 b2 c0 c1 c2 c3
  obtain ⟨c0, c1, c2, c3⟩ := T2.cells
  obtain ⟨l0, l1⟩ := T2.lt
  go_wp2_with fail
  have T3 := T2.more (below_alloc1 w2 (Obj.cells #[.int .u64 (dh : Int), .int .u64 (dl : Int)] 24))
  generalize w2.alloc (Obj.cells #[.int .u64 (dh : Int), .int .u64 (dl : Int)] 24) = w3 at *
  generalize w2.heap.size = g2
  clear T2 c0 c1 c2 c3 l0 l1 w2
  refine (cmp_h ah bl ah al s4 s2 (-1) (by have h := h.out; unfold cmpN; rw [if_neg (by omega), if_pos (by omega)]) _).mono ?_
  rintro e w4 ⟨rfl, b4⟩
  have T4 := T3.more b4
  clear T3 b4 w3
  obtain ⟨c0, c1, c2, c3⟩ := T4.cells
  go_wp2_with fail
  go_region_with (first
    | (go_at_call 13; refine (awake_any _).mono ?_; rintro e x1 ⟨rfl, y1⟩; have U1 := T4.drew.more y1; obtain ⟨d0, d1, d2, d3⟩ := U1.cells)
    | (go_at_call 17; (with_reducible refine (sqrt_h ah al s1 s2 _).mono ?_); rintro e x2 ⟨r1, rfl, z1, y2⟩; have U2 := U1.more y2; obtain ⟨e0, e1, e2, e3⟩ := U2.cells)
    | (go_at_call 17; (with_reducible refine (sqrt_h ah bl s3 s4 _).mono ?_); rintro e x3 ⟨r2, rfl, z2, y3⟩; have U3 := U2.more y3; have hle := root_le (Nat.le_of_lt h.out) z1 z2))
  all_goals
    go_wp2
    refine bodyPost_ret (v := .bool true) (by simp [results, Try.results8, go_sem]) rfl ?_
    exact ⟨rfl, U3.1⟩
end Go.Proofs.Ytodjpljdkjemmaa
