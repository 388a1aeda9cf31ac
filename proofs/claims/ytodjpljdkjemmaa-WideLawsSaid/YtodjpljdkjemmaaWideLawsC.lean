/- WideLaws: the walk, further cases. -/
import Derived.Test.YtodjpljdkjemmaaWideLawsA
namespace Go.Proofs.Ytodjpljdkjemmaa
open Go.RowKit
set_option linter.unusedVariables false

set_option maxRecDepth 100000 in
set_option maxHeartbeats 4000000 in
theorem laws_over_big (ah al bh bl x y z : Nat) (s1 : Sm ah) (s2 : Sm al) (s3 : Sm bh) (s4 : Sm bl) (sx : Sm x) (sy : Sm y) (sz : Sm z) (h0 : 340282366920938463463374607431768211456 ≤ wh ah al + wh bh bl) (h1 : IntKind.u64.wrap (18446744073709551615 - (z : Int)) < (y : Int)) (w : World) :
    Calls Try.prog 7 #[.agg #[.int .u64 (ah : Int), .int .u64 (al : Int)], .agg #[.int .u64 (bh : Int), .int .u64 (bl : Int)], .int .u64 (x : Int), .int .u64 (y : Int), .int .u64 (z : Int)] w fun e w' => e = .returned (.bool true) ∧ Below w.heap.size w w' := by
  obtain ⟨t, ht⟩ : ∃ t : ByteArray, t = text (dec (wh ah al)) := ⟨_, rfl⟩
  obtain ⟨qh, ql, q1, q2, hq⟩ := wh_of (x * x) (sq_lt sx sx)
  replace hq := Lib.hid hq.symm
  replace ht := Lib.hid ht
  replace h0 := Lib.hid h0
  have T0 := Two.start w ah al bh bl
  go_enter Try.func7, Try.ntmps7
  go_wp2_with fail
  have T := T0
  clear T0
  refine (add_up ah al bh bl s1 s2 s3 s4 h0.out _).mono ?_
  rintro e v1 ⟨rfl, b1⟩
  replace T := T.more b1
  clear b1
  obtain ⟨k0, k1, k2, k3⟩ := T.cells
  obtain ⟨l0, l1⟩ := T.lt
  go_wp2_with fail
  clear k0 k1 k2 k3 l0 l1
  replace T := T.more (below_alloc1 v1 (Obj.cells #[.int .u64 0, .int .u64 0] 24))
  generalize v1.alloc (Obj.cells #[.int .u64 0, .int .u64 0] 24) = v2 at *
  generalize v1.heap.size = gs at *
  clear v1
  refine (print_h ah al s1 s2 t ht.out _).mono ?_
  rintro e v3 ⟨rfl, b3⟩
  replace T := T.more b3
  clear b3
  clear v2
  obtain ⟨k0, k1, k2, k3⟩ := T.cells
  obtain ⟨l0, l1⟩ := T.lt
  go_wp2_with fail
  clear k0 k1 k2 k3 l0 l1
  refine (parse_dec ah al s1 s2 t ht.out _).mono ?_
  rintro e v4 ⟨rfl, b4⟩
  replace T := T.more b4
  clear b4
  clear v3
  obtain ⟨k0, k1, k2, k3⟩ := T.cells
  obtain ⟨l0, l1⟩ := T.lt
  go_wp2_with fail
  clear k0 k1 k2 k3 l0 l1
  replace T := T.more (below_alloc1 v4 (Obj.cells #[.int .u64 (ah : Int), .int .u64 (al : Int)] 24))
  generalize v4.alloc (Obj.cells #[.int .u64 (ah : Int), .int .u64 (al : Int)] 24) = v5 at *
  generalize v4.heap.size = gt at *
  clear v4
  refine (mul_h x x qh ql sx sx q2 hq.out _).mono ?_
  rintro e v6 ⟨rfl, b6⟩
  replace T := T.more b6
  clear b6
  clear v5
  obtain ⟨k0, k1, k2, k3⟩ := T.cells
  obtain ⟨l0, l1⟩ := T.lt
  go_wp2_with fail
  clear k0 k1 k2 k3 l0 l1
  skip
  refine (sqrt_sq x qh ql q1 q2 hq.out _).mono ?_
  rintro e v7 ⟨rfl, b7⟩
  replace T := T.more b7
  clear b7
  clear v6
  obtain ⟨k0, k1, k2, k3⟩ := T.cells
  obtain ⟨l0, l1⟩ := T.lt
  go_wp2_with fail
  clear k0 k1 k2 k3 l0 l1
  refine (awake_any _).mono ?_
  rintro e v8 ⟨rfl, b8⟩
  replace T := T.more b8
  clear b8
  clear v7
  obtain ⟨k0, k1, k2, k3⟩ := T.cells
  obtain ⟨l0, l1⟩ := T.lt
  go_wp2
  go_ret
  exact ⟨rfl, T.1⟩
end Go.Proofs.Ytodjpljdkjemmaa
