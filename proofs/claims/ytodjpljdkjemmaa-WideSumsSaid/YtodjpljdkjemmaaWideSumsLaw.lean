/- WideSums: the walk. -/
import Derived.Test.YtodjpljdkjemmaaRefAdd
import Derived.Test.YtodjpljdkjemmaaRefAdd2
import Derived.Test.YtodjpljdkjemmaaWideProductsLaw
namespace Go.Proofs.Ytodjpljdkjemmaa
open Go.RowKit
set_option linter.unusedVariables false

set_option maxRecDepth 100000 in
set_option maxHeartbeats 4000000 in
theorem sums_fits_low (ah al bh bl : Nat) (s1 : Sm ah) (s2 : Sm al) (s3 : Sm bh) (s4 : Sm bl) (sh sl : Nat) (s5 : Sm sh) (s6 : Sm sl) (h0 : wh ah al + wh bh bl = wh sh sl) (h1 : wh ah al < wh bh bl) (w : World) :
    Calls Try.prog 3 #[.agg #[.int .u64 (ah : Int), .int .u64 (al : Int)], .agg #[.int .u64 (bh : Int), .int .u64 (bl : Int)]] w fun e w' => e = .returned (.bool true) ∧ Below w.heap.size w w' := by
  have h2 : decide (wh ah al < wh bh bl) = true := decide_eq_true h1
  have h4 : ah * 18446744073709551616 + al + (bh * 18446744073709551616 + bl) = sh * 18446744073709551616 + sl := h0
  replace h4 := Lib.hid h4
  replace h0 := Lib.hid h0
  replace h1 := Lib.hid h1
  replace h2 := Lib.hid h2
  have T := Two.start w ah al bh bl
  go_enter Try.func3, Try.ntmps3
  go_wp2_with fail
  refine (add_in ah al bh bl sh sl s1 s2 s3 s4 s5 s6 h4.out _).mono ?_
  rintro e v1 ⟨rfl, b1⟩
  replace T := T.more b1
  clear b1
  obtain ⟨k0, k1, k2, k3⟩ := T.cells
  obtain ⟨l0, l1⟩ := T.lt
  go_wp2_with fail
  clear k0 k1 k2 k3 l0 l1
  replace T := T.more (below_alloc1 v1 (Obj.cells #[.int .u64 (sh : Int), .int .u64 (sl : Int)] 24))
  have Bs := Blk.new v1 24 #[.int .u64 (sh : Int), .int .u64 (sl : Int)]
  generalize v1.alloc (Obj.cells #[.int .u64 (sh : Int), .int .u64 (sl : Int)] 24) = v2 at *
  generalize v1.heap.size = gs at *
  clear v1
  refine (radd_in ah al bh bl s1 s2 s3 s4 sh sl s5 s6 h0.out _).mono ?_
  rintro e v3 ⟨rfl, b3⟩
  replace T := T.more b3
  replace Bs := two_keep Bs b3
  clear b3
  clear v2
  obtain ⟨k0, k1, k2, k3⟩ := T.cells
  obtain ⟨l0, l1⟩ := T.lt
  have es0 : v3.cell? ⟨gs, 0, none⟩ = some (.int .u64 (sh : Int)) := Bs.cell 0
  have es1 : v3.cell? ⟨gs, 1, none⟩ = some (.int .u64 (sl : Int)) := Bs.cell 1
  have ls := Bs.lt
  have is : ¬ gs = v3.heap.size := by omega
  go_wp2_with fail
  clear k0 k1 k2 k3 l0 l1 is es0 es1 ls
  replace T := T.more (below_alloc1 v3 (Obj.cells #[.int .u64 (sh : Int), .int .u64 (sl : Int)] 24))
  replace Bs := two_keep Bs (below_alloc1 v3 (Obj.cells #[.int .u64 (sh : Int), .int .u64 (sl : Int)] 24))
  generalize v3.alloc (Obj.cells #[.int .u64 (sh : Int), .int .u64 (sl : Int)] 24) = v4 at *
  generalize v3.heap.size = gw at *
  clear v3
  clear Bs
  refine (sub_low ah al bh bl s1 s2 s3 s4 h1.out _).mono ?_
  rintro e v5 ⟨rfl, b5⟩
  replace T := T.more b5
  clear b5
  clear v4
  obtain ⟨k0, k1, k2, k3⟩ := T.cells
  obtain ⟨l0, l1⟩ := T.lt
  go_wp2_with fail
  clear k0 k1 k2 k3 l0 l1
  replace T := T.more (below_alloc1 v5 (Obj.cells #[.int .u64 0, .int .u64 0] 24))
  have Bd := Blk.new v5 24 #[.int .u64 0, .int .u64 0]
  generalize v5.alloc (Obj.cells #[.int .u64 0, .int .u64 0] 24) = v6 at *
  generalize v5.heap.size = gd at *
  clear v5
  refine (less_h ah al bh bl s1 s2 s3 s4 _ h2.out _).mono ?_
  rintro e v7 ⟨rfl, b7⟩
  replace T := T.more b7
  replace Bd := two_keep Bd b7
  clear b7
  clear v6
  obtain ⟨k0, k1, k2, k3⟩ := T.cells
  obtain ⟨l0, l1⟩ := T.lt
  have ed0 : v7.cell? ⟨gd, 0, none⟩ = some (.int .u64 0) := Bd.cell 0
  have ed1 : v7.cell? ⟨gd, 1, none⟩ = some (.int .u64 0) := Bd.cell 1
  have ld := Bd.lt
  have id : ¬ gd = v7.heap.size := by omega
  go_wp2_with fail
  clear k0 k1 k2 k3 l0 l1 id ed0 ed1 ld
  refine (awake_any _).mono ?_
  rintro e v8 ⟨rfl, b8⟩
  replace T := T.more b8
  replace Bd := two_keep Bd b8
  clear b8
  clear v7
  obtain ⟨k0, k1, k2, k3⟩ := T.cells
  obtain ⟨l0, l1⟩ := T.lt
  have ed0 : v8.cell? ⟨gd, 0, none⟩ = some (.int .u64 0) := Bd.cell 0
  have ed1 : v8.cell? ⟨gd, 1, none⟩ = some (.int .u64 0) := Bd.cell 1
  have ld := Bd.lt
  have id : ¬ gd = v8.heap.size := by omega
  go_wp2
  go_ret
  exact ⟨rfl, T.1⟩
set_option maxRecDepth 100000 in
set_option maxHeartbeats 4000000 in
theorem sums_fits_high (ah al bh bl : Nat) (s1 : Sm ah) (s2 : Sm al) (s3 : Sm bh) (s4 : Sm bl) (sh sl : Nat) (s5 : Sm sh) (s6 : Sm sl) (h0 : wh ah al + wh bh bl = wh sh sl) (dh dl : Nat) (s7 : Sm dh) (s8 : Sm dl) (h1 : wh bh bl + wh dh dl = wh ah al) (w : World) :
    Calls Try.prog 3 #[.agg #[.int .u64 (ah : Int), .int .u64 (al : Int)], .agg #[.int .u64 (bh : Int), .int .u64 (bl : Int)]] w fun e w' => e = .returned (.bool true) ∧ Below w.heap.size w w' := by
  have h2 : decide (wh ah al < wh bh bl) = false := decide_eq_false (by omega)
  have h3 : wh dh dl + wh bh bl = wh ah al := by omega
  replace h3 := Lib.hid h3
  have h4 : ah * 18446744073709551616 + al + (bh * 18446744073709551616 + bl) = sh * 18446744073709551616 + sl := h0
  replace h4 := Lib.hid h4
  replace h0 := Lib.hid h0
  replace h1 := Lib.hid h1
  replace h2 := Lib.hid h2
  have T := Two.start w ah al bh bl
  go_enter Try.func3, Try.ntmps3
  go_wp2_with fail
  refine (add_in ah al bh bl sh sl s1 s2 s3 s4 s5 s6 h4.out _).mono ?_
  rintro e v1 ⟨rfl, b1⟩
  replace T := T.more b1
  clear b1
  obtain ⟨k0, k1, k2, k3⟩ := T.cells
  obtain ⟨l0, l1⟩ := T.lt
  go_wp2_with fail
  clear k0 k1 k2 k3 l0 l1
  replace T := T.more (below_alloc1 v1 (Obj.cells #[.int .u64 (sh : Int), .int .u64 (sl : Int)] 24))
  have Bs := Blk.new v1 24 #[.int .u64 (sh : Int), .int .u64 (sl : Int)]
  generalize v1.alloc (Obj.cells #[.int .u64 (sh : Int), .int .u64 (sl : Int)] 24) = v2 at *
  generalize v1.heap.size = gs at *
  clear v1
  refine (radd_in ah al bh bl s1 s2 s3 s4 sh sl s5 s6 h0.out _).mono ?_
  rintro e v3 ⟨rfl, b3⟩
  replace T := T.more b3
  replace Bs := two_keep Bs b3
  clear b3
  clear v2
  obtain ⟨k0, k1, k2, k3⟩ := T.cells
  obtain ⟨l0, l1⟩ := T.lt
  have es0 : v3.cell? ⟨gs, 0, none⟩ = some (.int .u64 (sh : Int)) := Bs.cell 0
  have es1 : v3.cell? ⟨gs, 1, none⟩ = some (.int .u64 (sl : Int)) := Bs.cell 1
  have ls := Bs.lt
  have is : ¬ gs = v3.heap.size := by omega
  go_wp2_with fail
  clear k0 k1 k2 k3 l0 l1 is es0 es1 ls
  replace T := T.more (below_alloc1 v3 (Obj.cells #[.int .u64 (sh : Int), .int .u64 (sl : Int)] 24))
  replace Bs := two_keep Bs (below_alloc1 v3 (Obj.cells #[.int .u64 (sh : Int), .int .u64 (sl : Int)] 24))
  generalize v3.alloc (Obj.cells #[.int .u64 (sh : Int), .int .u64 (sl : Int)] 24) = v4 at *
  generalize v3.heap.size = gw at *
  clear v3
  clear Bs
  refine (sub_ok ah al bh bl dh dl s1 s2 s3 s4 s8 h1.out _).mono ?_
  rintro e v5 ⟨rfl, b5⟩
  replace T := T.more b5
  clear b5
  clear v4
  obtain ⟨k0, k1, k2, k3⟩ := T.cells
  obtain ⟨l0, l1⟩ := T.lt
  go_wp2_with fail
  clear k0 k1 k2 k3 l0 l1
  replace T := T.more (below_alloc1 v5 (Obj.cells #[.int .u64 (dh : Int), .int .u64 (dl : Int)] 24))
  have Bd := Blk.new v5 24 #[.int .u64 (dh : Int), .int .u64 (dl : Int)]
  generalize v5.alloc (Obj.cells #[.int .u64 (dh : Int), .int .u64 (dl : Int)] 24) = v6 at *
  generalize v5.heap.size = gd at *
  clear v5
  refine (less_h ah al bh bl s1 s2 s3 s4 _ h2.out _).mono ?_
  rintro e v7 ⟨rfl, b7⟩
  replace T := T.more b7
  replace Bd := two_keep Bd b7
  clear b7
  clear v6
  obtain ⟨k0, k1, k2, k3⟩ := T.cells
  obtain ⟨l0, l1⟩ := T.lt
  have ed0 : v7.cell? ⟨gd, 0, none⟩ = some (.int .u64 (dh : Int)) := Bd.cell 0
  have ed1 : v7.cell? ⟨gd, 1, none⟩ = some (.int .u64 (dl : Int)) := Bd.cell 1
  have ld := Bd.lt
  have id : ¬ gd = v7.heap.size := by omega
  go_wp2_with fail
  clear k0 k1 k2 k3 l0 l1 id ed0 ed1 ld
  refine (radd_in dh dl bh bl s7 s8 s3 s4 ah al s1 s2 h3.out _).mono ?_
  rintro e v8 ⟨rfl, b8⟩
  replace T := T.more b8
  replace Bd := two_keep Bd b8
  clear b8
  clear v7
  obtain ⟨k0, k1, k2, k3⟩ := T.cells
  obtain ⟨l0, l1⟩ := T.lt
  have ed0 : v8.cell? ⟨gd, 0, none⟩ = some (.int .u64 (dh : Int)) := Bd.cell 0
  have ed1 : v8.cell? ⟨gd, 1, none⟩ = some (.int .u64 (dl : Int)) := Bd.cell 1
  have ld := Bd.lt
  have id : ¬ gd = v8.heap.size := by omega
  go_wp2_with fail
  clear k0 k1 k2 k3 l0 l1 id ed0 ed1 ld
  clear Bd
  replace T := T.more (below_alloc1 v8 (Obj.cells #[.int .u64 (ah : Int), .int .u64 (al : Int)] 24))
  have Bk := Blk.new v8 24 #[.int .u64 (ah : Int), .int .u64 (al : Int)]
  generalize v8.alloc (Obj.cells #[.int .u64 (ah : Int), .int .u64 (al : Int)] 24) = v9 at *
  generalize v8.heap.size = gk at *
  clear v8
  refine (awake_any _).mono ?_
  rintro e v10 ⟨rfl, b10⟩
  replace T := T.more b10
  replace Bk := two_keep Bk b10
  clear b10
  clear v9
  obtain ⟨k0, k1, k2, k3⟩ := T.cells
  obtain ⟨l0, l1⟩ := T.lt
  have ek0 : v10.cell? ⟨gk, 0, none⟩ = some (.int .u64 (ah : Int)) := Bk.cell 0
  have ek1 : v10.cell? ⟨gk, 1, none⟩ = some (.int .u64 (al : Int)) := Bk.cell 1
  have lk := Bk.lt
  have ik : ¬ gk = v10.heap.size := by omega
  go_wp2
  go_ret
  exact ⟨rfl, T.1⟩
set_option maxRecDepth 100000 in
set_option maxHeartbeats 4000000 in
theorem sums_over_low (ah al bh bl : Nat) (s1 : Sm ah) (s2 : Sm al) (s3 : Sm bh) (s4 : Sm bl) (h0 : 340282366920938463463374607431768211456 ≤ wh ah al + wh bh bl) (h1 : wh ah al < wh bh bl) (w : World) :
    Calls Try.prog 3 #[.agg #[.int .u64 (ah : Int), .int .u64 (al : Int)], .agg #[.int .u64 (bh : Int), .int .u64 (bl : Int)]] w fun e w' => e = .returned (.bool true) ∧ Below w.heap.size w w' := by
  have h2 : decide (wh ah al < wh bh bl) = true := decide_eq_true h1
  have h4 : 340282366920938463463374607431768211456 ≤ ah * 18446744073709551616 + al + (bh * 18446744073709551616 + bl) := h0
  replace h4 := Lib.hid h4
  replace h0 := Lib.hid h0
  replace h1 := Lib.hid h1
  replace h2 := Lib.hid h2
  have T := Two.start w ah al bh bl
  go_enter Try.func3, Try.ntmps3
  go_wp2_with fail
  refine (add_up ah al bh bl s1 s2 s3 s4 h4.out _).mono ?_
  rintro e v1 ⟨rfl, b1⟩
  replace T := T.more b1
  clear b1
  obtain ⟨k0, k1, k2, k3⟩ := T.cells
  obtain ⟨l0, l1⟩ := T.lt
  go_wp2_with fail
  clear k0 k1 k2 k3 l0 l1
  replace T := T.more (below_alloc1 v1 (Obj.cells #[.int .u64 0, .int .u64 0] 24))
  have Bs := Blk.new v1 24 #[.int .u64 0, .int .u64 0]
  generalize v1.alloc (Obj.cells #[.int .u64 0, .int .u64 0] 24) = v2 at *
  generalize v1.heap.size = gs at *
  clear v1
  refine (radd_up ah al bh bl s1 s2 s3 s4 h0.out _).mono ?_
  rintro e v3 ⟨rfl, b3⟩
  replace T := T.more b3
  replace Bs := two_keep Bs b3
  clear b3
  clear v2
  obtain ⟨k0, k1, k2, k3⟩ := T.cells
  obtain ⟨l0, l1⟩ := T.lt
  have es0 : v3.cell? ⟨gs, 0, none⟩ = some (.int .u64 0) := Bs.cell 0
  have es1 : v3.cell? ⟨gs, 1, none⟩ = some (.int .u64 0) := Bs.cell 1
  have ls := Bs.lt
  have is : ¬ gs = v3.heap.size := by omega
  go_wp2_with fail
  clear k0 k1 k2 k3 l0 l1 is es0 es1 ls
  replace T := T.more (below_alloc1 v3 (Obj.cells #[.int .u64 0, .int .u64 0] 24))
  replace Bs := two_keep Bs (below_alloc1 v3 (Obj.cells #[.int .u64 0, .int .u64 0] 24))
  generalize v3.alloc (Obj.cells #[.int .u64 0, .int .u64 0] 24) = v4 at *
  generalize v3.heap.size = gw at *
  clear v3
  clear Bs
  refine (sub_low ah al bh bl s1 s2 s3 s4 h1.out _).mono ?_
  rintro e v5 ⟨rfl, b5⟩
  replace T := T.more b5
  clear b5
  clear v4
  obtain ⟨k0, k1, k2, k3⟩ := T.cells
  obtain ⟨l0, l1⟩ := T.lt
  go_wp2_with fail
  clear k0 k1 k2 k3 l0 l1
  replace T := T.more (below_alloc1 v5 (Obj.cells #[.int .u64 0, .int .u64 0] 24))
  have Bd := Blk.new v5 24 #[.int .u64 0, .int .u64 0]
  generalize v5.alloc (Obj.cells #[.int .u64 0, .int .u64 0] 24) = v6 at *
  generalize v5.heap.size = gd at *
  clear v5
  refine (less_h ah al bh bl s1 s2 s3 s4 _ h2.out _).mono ?_
  rintro e v7 ⟨rfl, b7⟩
  replace T := T.more b7
  replace Bd := two_keep Bd b7
  clear b7
  clear v6
  obtain ⟨k0, k1, k2, k3⟩ := T.cells
  obtain ⟨l0, l1⟩ := T.lt
  have ed0 : v7.cell? ⟨gd, 0, none⟩ = some (.int .u64 0) := Bd.cell 0
  have ed1 : v7.cell? ⟨gd, 1, none⟩ = some (.int .u64 0) := Bd.cell 1
  have ld := Bd.lt
  have id : ¬ gd = v7.heap.size := by omega
  go_wp2_with fail
  clear k0 k1 k2 k3 l0 l1 id ed0 ed1 ld
  refine (awake_any _).mono ?_
  rintro e v8 ⟨rfl, b8⟩
  replace T := T.more b8
  replace Bd := two_keep Bd b8
  clear b8
  clear v7
  obtain ⟨k0, k1, k2, k3⟩ := T.cells
  obtain ⟨l0, l1⟩ := T.lt
  have ed0 : v8.cell? ⟨gd, 0, none⟩ = some (.int .u64 0) := Bd.cell 0
  have ed1 : v8.cell? ⟨gd, 1, none⟩ = some (.int .u64 0) := Bd.cell 1
  have ld := Bd.lt
  have id : ¬ gd = v8.heap.size := by omega
  go_wp2
  go_ret
  exact ⟨rfl, T.1⟩
set_option maxRecDepth 100000 in
set_option maxHeartbeats 4000000 in
theorem sums_over_high (ah al bh bl : Nat) (s1 : Sm ah) (s2 : Sm al) (s3 : Sm bh) (s4 : Sm bl) (h0 : 340282366920938463463374607431768211456 ≤ wh ah al + wh bh bl) (dh dl : Nat) (s7 : Sm dh) (s8 : Sm dl) (h1 : wh bh bl + wh dh dl = wh ah al) (w : World) :
    Calls Try.prog 3 #[.agg #[.int .u64 (ah : Int), .int .u64 (al : Int)], .agg #[.int .u64 (bh : Int), .int .u64 (bl : Int)]] w fun e w' => e = .returned (.bool true) ∧ Below w.heap.size w w' := by
  have h2 : decide (wh ah al < wh bh bl) = false := decide_eq_false (by omega)
  have h3 : wh dh dl + wh bh bl = wh ah al := by omega
  replace h3 := Lib.hid h3
  have h4 : 340282366920938463463374607431768211456 ≤ ah * 18446744073709551616 + al + (bh * 18446744073709551616 + bl) := h0
  replace h4 := Lib.hid h4
  replace h0 := Lib.hid h0
  replace h1 := Lib.hid h1
  replace h2 := Lib.hid h2
  have T := Two.start w ah al bh bl
  go_enter Try.func3, Try.ntmps3
  go_wp2_with fail
  refine (add_up ah al bh bl s1 s2 s3 s4 h4.out _).mono ?_
  rintro e v1 ⟨rfl, b1⟩
  replace T := T.more b1
  clear b1
  obtain ⟨k0, k1, k2, k3⟩ := T.cells
  obtain ⟨l0, l1⟩ := T.lt
  go_wp2_with fail
  clear k0 k1 k2 k3 l0 l1
  replace T := T.more (below_alloc1 v1 (Obj.cells #[.int .u64 0, .int .u64 0] 24))
  have Bs := Blk.new v1 24 #[.int .u64 0, .int .u64 0]
  generalize v1.alloc (Obj.cells #[.int .u64 0, .int .u64 0] 24) = v2 at *
  generalize v1.heap.size = gs at *
  clear v1
  refine (radd_up ah al bh bl s1 s2 s3 s4 h0.out _).mono ?_
  rintro e v3 ⟨rfl, b3⟩
  replace T := T.more b3
  replace Bs := two_keep Bs b3
  clear b3
  clear v2
  obtain ⟨k0, k1, k2, k3⟩ := T.cells
  obtain ⟨l0, l1⟩ := T.lt
  have es0 : v3.cell? ⟨gs, 0, none⟩ = some (.int .u64 0) := Bs.cell 0
  have es1 : v3.cell? ⟨gs, 1, none⟩ = some (.int .u64 0) := Bs.cell 1
  have ls := Bs.lt
  have is : ¬ gs = v3.heap.size := by omega
  go_wp2_with fail
  clear k0 k1 k2 k3 l0 l1 is es0 es1 ls
  replace T := T.more (below_alloc1 v3 (Obj.cells #[.int .u64 0, .int .u64 0] 24))
  replace Bs := two_keep Bs (below_alloc1 v3 (Obj.cells #[.int .u64 0, .int .u64 0] 24))
  generalize v3.alloc (Obj.cells #[.int .u64 0, .int .u64 0] 24) = v4 at *
  generalize v3.heap.size = gw at *
  clear v3
  clear Bs
  refine (sub_ok ah al bh bl dh dl s1 s2 s3 s4 s8 h1.out _).mono ?_
  rintro e v5 ⟨rfl, b5⟩
  replace T := T.more b5
  clear b5
  clear v4
  obtain ⟨k0, k1, k2, k3⟩ := T.cells
  obtain ⟨l0, l1⟩ := T.lt
  go_wp2_with fail
  clear k0 k1 k2 k3 l0 l1
  replace T := T.more (below_alloc1 v5 (Obj.cells #[.int .u64 (dh : Int), .int .u64 (dl : Int)] 24))
  have Bd := Blk.new v5 24 #[.int .u64 (dh : Int), .int .u64 (dl : Int)]
  generalize v5.alloc (Obj.cells #[.int .u64 (dh : Int), .int .u64 (dl : Int)] 24) = v6 at *
  generalize v5.heap.size = gd at *
  clear v5
  refine (less_h ah al bh bl s1 s2 s3 s4 _ h2.out _).mono ?_
  rintro e v7 ⟨rfl, b7⟩
  replace T := T.more b7
  replace Bd := two_keep Bd b7
  clear b7
  clear v6
  obtain ⟨k0, k1, k2, k3⟩ := T.cells
  obtain ⟨l0, l1⟩ := T.lt
  have ed0 : v7.cell? ⟨gd, 0, none⟩ = some (.int .u64 (dh : Int)) := Bd.cell 0
  have ed1 : v7.cell? ⟨gd, 1, none⟩ = some (.int .u64 (dl : Int)) := Bd.cell 1
  have ld := Bd.lt
  have id : ¬ gd = v7.heap.size := by omega
  go_wp2_with fail
  clear k0 k1 k2 k3 l0 l1 id ed0 ed1 ld
  refine (radd_in dh dl bh bl s7 s8 s3 s4 ah al s1 s2 h3.out _).mono ?_
  rintro e v8 ⟨rfl, b8⟩
  replace T := T.more b8
  replace Bd := two_keep Bd b8
  clear b8
  clear v7
  obtain ⟨k0, k1, k2, k3⟩ := T.cells
  obtain ⟨l0, l1⟩ := T.lt
  have ed0 : v8.cell? ⟨gd, 0, none⟩ = some (.int .u64 (dh : Int)) := Bd.cell 0
  have ed1 : v8.cell? ⟨gd, 1, none⟩ = some (.int .u64 (dl : Int)) := Bd.cell 1
  have ld := Bd.lt
  have id : ¬ gd = v8.heap.size := by omega
  go_wp2_with fail
  clear k0 k1 k2 k3 l0 l1 id ed0 ed1 ld
  clear Bd
  replace T := T.more (below_alloc1 v8 (Obj.cells #[.int .u64 (ah : Int), .int .u64 (al : Int)] 24))
  have Bk := Blk.new v8 24 #[.int .u64 (ah : Int), .int .u64 (al : Int)]
  generalize v8.alloc (Obj.cells #[.int .u64 (ah : Int), .int .u64 (al : Int)] 24) = v9 at *
  generalize v8.heap.size = gk at *
  clear v8
  refine (awake_any _).mono ?_
  rintro e v10 ⟨rfl, b10⟩
  replace T := T.more b10
  replace Bk := two_keep Bk b10
  clear b10
  clear v9
  obtain ⟨k0, k1, k2, k3⟩ := T.cells
  obtain ⟨l0, l1⟩ := T.lt
  have ek0 : v10.cell? ⟨gk, 0, none⟩ = some (.int .u64 (ah : Int)) := Bk.cell 0
  have ek1 : v10.cell? ⟨gk, 1, none⟩ = some (.int .u64 (al : Int)) := Bk.cell 1
  have lk := Bk.lt
  have ik : ¬ gk = v10.heap.size := by omega
  go_wp2
  go_ret
  exact ⟨rfl, T.1⟩
/-- WideSums answers true, whatever the two numbers. -/
theorem wideSums_any (ah al bh bl : Nat) (s1 : Sm ah) (s2 : Sm al) (s3 : Sm bh) (s4 : Sm bl) (w : World) :
    Calls Try.prog 3 #[.agg #[.int .u64 (ah : Int), .int .u64 (al : Int)], .agg #[.int .u64 (bh : Int), .int .u64 (bl : Int)]] w fun e w' => e = .returned (.bool true) ∧ Below w.heap.size w w' := by
  by_cases h0 : wh ah al + wh bh bl < 340282366920938463463374607431768211456
  · obtain ⟨sh, sl, s5, s6, hs⟩ := wh_of _ h0
    by_cases h1 : wh ah al < wh bh bl
    · exact sums_fits_low ah al bh bl s1 s2 s3 s4 sh sl s5 s6 hs.symm h1 w
    · obtain ⟨dh, dl, s7, s8, hd⟩ := wh_of (wh ah al - wh bh bl) (by have := wh_lt s1 s2; omega)
      exact sums_fits_high ah al bh bl s1 s2 s3 s4 sh sl s5 s6 hs.symm dh dl s7 s8 (by omega) w
  · by_cases h1 : wh ah al < wh bh bl
    · exact sums_over_low ah al bh bl s1 s2 s3 s4 (by omega) h1 w
    · obtain ⟨dh, dl, s7, s8, hd⟩ := wh_of (wh ah al - wh bh bl) (by have := wh_lt s1 s2; omega)
      exact sums_over_high ah al bh bl s1 s2 s3 s4 (by omega) dh dl s7 s8 (by omega) w
end Go.Proofs.Ytodjpljdkjemmaa
