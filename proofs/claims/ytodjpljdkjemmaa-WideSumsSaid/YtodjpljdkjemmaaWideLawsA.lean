/- WideLaws: the walk. -/
import Derived.Test.YtodjpljdkjemmaaWideOrderLaw
import Derived.Test.YtodjpljdkjemmaaDecimal
namespace Go.Proofs.Ytodjpljdkjemmaa
open Go.RowKit
set_option linter.unusedVariables false

theorem print_h (ah al : Nat) (s1 : Sm ah) (s2 : Sm al) (t : ByteArray) (ht : t = text (dec (wh ah al))) (w : World) : Calls Try.prog 20 #[.agg #[.int .u64 (ah : Int), .int .u64 (al : Int)]] w fun e w' => e = .returned (.string t) ∧ Below w.heap.size w w' := by
  rw [ht, ← num_wh ah al s2]
  exact print_any _ (wh_lt s1 s2) w
theorem parse_dec (ah al : Nat) (s1 : Sm ah) (s2 : Sm al) (t : ByteArray) (ht : t = text (dec (wh ah al))) (w : World) : Calls Try.prog 18 #[.string t] w (HalfPost w ah al 0) := by
  refine (parse_any _ w).mono ?_
  rintro e w' ⟨rfl, hb⟩
  have hp := dec_par _ (wh_lt s1 s2)
  rw [ht, hp.1, hp.2, num_wh ah al s2]
  exact ⟨rfl, hb⟩
theorem mul_h (x y ph pl : Nat) (s1 : Sm x) (s2 : Sm y) (s3 : Sm pl) (h : x * y = wh ph pl) (w : World) : Calls Try.prog 14 #[.int .u64 (x : Int), .int .u64 (y : Int)] w fun e w' => e = .returned (.agg #[.int .u64 (ph : Int), .int .u64 (pl : Int)]) ∧ Below w.heap.size w w' := by
  refine (mul_any x y s1 s2 w).mono ?_
  rintro e w' ⟨rfl, hb⟩
  rw [h, num_wh ph pl s3]
  exact ⟨rfl, hb⟩
theorem root_of (x r : Nat) (h1 : r * r ≤ x * x) (h2 : x * x < (r + 1) * (r + 1)) : r = x := by
  rcases Nat.lt_or_ge r x with h | h
  · have := Nat.mul_le_mul (show r + 1 ≤ x by omega) (show r + 1 ≤ x by omega)
    omega
  · rcases Nat.lt_or_ge x r with h' | h'
    · have a1 := Nat.mul_le_mul (show x + 1 ≤ r by omega) (show x + 1 ≤ r by omega)
      have a2 : (x + 1) * (x + 1) = x * x + (2 * x + 1) := by simp only [Nat.mul_add, Nat.add_mul, Nat.mul_one, Nat.one_mul]; omega
      omega
    · omega
theorem sqrt_sq (x ph pl : Nat) (s1 : Sm ph) (s2 : Sm pl) (h : x * x = wh ph pl) (w : World) : Calls Try.prog 17 #[.agg #[.int .u64 (ph : Int), .int .u64 (pl : Int)]] w fun e w' => e = .returned (.int .u64 (x : Int)) ∧ Below w.heap.size w w' := by
  refine (sqrt_h ph pl s1 s2 w).mono ?_
  rintro e w' ⟨r, rfl, hr, hb⟩
  obtain ⟨_, h1, h2⟩ := hr.out
  rw [root_of x r (by rw [h]; exact h1) (by rw [h]; exact h2)]
  exact ⟨rfl, hb⟩
theorem sq_lt {x y : Nat} (s1 : Sm x) (s2 : Sm y) : x * y < 340282366920938463463374607431768211456 := by
  unfold Sm at *
  have := Nat.mul_le_mul (show x ≤ 18446744073709551615 by omega) (show y ≤ 18446744073709551615 by omega)
  omega
theorem two_held {w w1 w2 : World} {g : Nat} {u v : Value} (h : Below w.heap.size w w1 ∧ w1.cell? ⟨g, 0, none⟩ = some u ∧ w1.cell? ⟨g, 1, none⟩ = some v) (hb : Below w1.heap.size w1 w2) :
    Below w.heap.size w w2 ∧ w2.cell? ⟨g, 0, none⟩ = some u ∧ w2.cell? ⟨g, 1, none⟩ = some v := ⟨below_chain h.1 hb h.1.size, below_cell hb h.2.1, below_cell hb h.2.2⟩
theorem cmp_up (a b : Nat) (h : b ≤ a) : 0 ≤ cmpN a b := by
  unfold cmpN
  split
  · omega
  · rw [if_neg (by omega)]; omega
theorem top_less {y z : Nat} (s : Sm z) : IntKind.u64.wrap (18446744073709551615 - (z : Int)) = ((18446744073709551615 - z : Nat) : Int) := by unfold Sm at s; rw [IntKind.wrap_u64]; omega

set_option maxRecDepth 100000 in
set_option maxHeartbeats 4000000 in
theorem laws_fits_big (ah al bh bl x y z : Nat) (s1 : Sm ah) (s2 : Sm al) (s3 : Sm bh) (s4 : Sm bl) (sx : Sm x) (sy : Sm y) (sz : Sm z) (h0 : wh ah al + wh bh bl < 340282366920938463463374607431768211456) (h1 : IntKind.u64.wrap (18446744073709551615 - (z : Int)) < (y : Int)) (w : World) :
    Calls Try.prog 7 #[.agg #[.int .u64 (ah : Int), .int .u64 (al : Int)], .agg #[.int .u64 (bh : Int), .int .u64 (bl : Int)], .int .u64 (x : Int), .int .u64 (y : Int), .int .u64 (z : Int)] w fun e w' => e = .returned (.bool true) ∧ Below w.heap.size w w' := by
  obtain ⟨t, ht⟩ : ∃ t : ByteArray, t = text (dec (wh ah al)) := ⟨_, rfl⟩
  obtain ⟨qh, ql, q1, q2, hq⟩ := wh_of (x * x) (sq_lt sx sx)
  replace hq := Lib.hid hq.symm
  replace ht := Lib.hid ht
  obtain ⟨sh, sl, s5, s6, hs⟩ := wh_of (wh ah al + wh bh bl) h0
  obtain ⟨c, hc, c0⟩ : ∃ c : Int, c = cmpN (wh sh sl) (wh ah al) ∧ 0 ≤ c := ⟨_, rfl, cmp_up _ _ (by omega)⟩
  replace hs := Lib.hid hs.symm
  replace hc := Lib.hid hc
  clear h0
  have T0 := Two.start w ah al bh bl
  go_enter Try.func7, Try.ntmps7
  go_wp2_with fail
  have T := T0
  clear T0
  refine (add_in ah al bh bl sh sl s1 s2 s3 s4 s5 s6 hs.out _).mono ?_
  rintro e v1 ⟨rfl, b1⟩
  replace T := T.more b1
  clear b1
  obtain ⟨k0, k1, k2, k3⟩ := T.cells
  obtain ⟨l0, l1⟩ := T.lt
  go_wp2_with fail
  clear k0 k1 k2 k3 l0 l1
  replace T := T.more (below_alloc1 v1 (Obj.cells #[.int .u64 (sh : Int), .int .u64 (sl : Int)] 24))
  have Bs := Blk.new v1 24 #[.int .u64 (sh : Int), .int .u64 (sl : Int)]
  generalize v1.alloc (Obj.cells #[.int .u64 (sh : Int), .int .u64 (sl : Int)] 24) = v2 at *
  generalize v1.heap.size = gs at *
  clear v1
  refine (sub_ok sh sl bh bl ah al s5 s6 s3 s4 s2 (by have := hs.out; omega) _).mono ?_
  rintro e v3 ⟨rfl, b3⟩
  replace T := T.more b3
  replace Bs := two_keep Bs b3
  clear b3
  clear v2
  obtain ⟨k0, k1, k2, k3⟩ := T.cells
  obtain ⟨l0, l1⟩ := T.lt
  have es0 : v3.cell? ⟨gs, 0, none⟩ = some (.int .u64 (sh : Int)) := Bs.cell 0
  have es1 : v3.cell? ⟨gs, 1, none⟩ = some (.int .u64 (sl : Int)) := Bs.cell 1
  have ls := Bs.lt
  have is : ¬ gs = v3.heap.size := by omega
  go_wp2_with fail
  clear k0 k1 k2 k3 l0 l1 is es0 es1 ls
  replace T := T.more (below_alloc1 v3 (Obj.cells #[.int .u64 (ah : Int), .int .u64 (al : Int)] 24))
  replace Bs := two_keep Bs (below_alloc1 v3 (Obj.cells #[.int .u64 (ah : Int), .int .u64 (al : Int)] 24))
  generalize v3.alloc (Obj.cells #[.int .u64 (ah : Int), .int .u64 (al : Int)] 24) = v4 at *
  generalize v3.heap.size = gd at *
  clear v3
  refine (cmp_h sh sl ah al s6 s2 c hc.out _).mono ?_
  rintro e v5 ⟨rfl, b5⟩
  replace T := T.more b5
  replace Bs := two_keep Bs b5
  clear b5
  clear v4
  obtain ⟨k0, k1, k2, k3⟩ := T.cells
  obtain ⟨l0, l1⟩ := T.lt
  have es0 : v5.cell? ⟨gs, 0, none⟩ = some (.int .u64 (sh : Int)) := Bs.cell 0
  have es1 : v5.cell? ⟨gs, 1, none⟩ = some (.int .u64 (sl : Int)) := Bs.cell 1
  have ls := Bs.lt
  have is : ¬ gs = v5.heap.size := by omega
  go_wp2_with fail
  clear k0 k1 k2 k3 l0 l1 is es0 es1 ls
  clear Bs
  refine (print_h ah al s1 s2 t ht.out _).mono ?_
  rintro e v6 ⟨rfl, b6⟩
  replace T := T.more b6
  clear b6
  clear v5
  obtain ⟨k0, k1, k2, k3⟩ := T.cells
  obtain ⟨l0, l1⟩ := T.lt
  go_wp2_with fail
  clear k0 k1 k2 k3 l0 l1
  refine (parse_dec ah al s1 s2 t ht.out _).mono ?_
  rintro e v7 ⟨rfl, b7⟩
  replace T := T.more b7
  clear b7
  clear v6
  obtain ⟨k0, k1, k2, k3⟩ := T.cells
  obtain ⟨l0, l1⟩ := T.lt
  go_wp2_with fail
  clear k0 k1 k2 k3 l0 l1
  replace T := T.more (below_alloc1 v7 (Obj.cells #[.int .u64 (ah : Int), .int .u64 (al : Int)] 24))
  generalize v7.alloc (Obj.cells #[.int .u64 (ah : Int), .int .u64 (al : Int)] 24) = v8 at *
  generalize v7.heap.size = gt at *
  clear v7
  refine (mul_h x x qh ql sx sx q2 hq.out _).mono ?_
  rintro e v9 ⟨rfl, b9⟩
  replace T := T.more b9
  clear b9
  clear v8
  obtain ⟨k0, k1, k2, k3⟩ := T.cells
  obtain ⟨l0, l1⟩ := T.lt
  go_wp2_with fail
  clear k0 k1 k2 k3 l0 l1
  skip
  refine (sqrt_sq x qh ql q1 q2 hq.out _).mono ?_
  rintro e v10 ⟨rfl, b10⟩
  replace T := T.more b10
  clear b10
  clear v9
  obtain ⟨k0, k1, k2, k3⟩ := T.cells
  obtain ⟨l0, l1⟩ := T.lt
  go_wp2_with fail
  clear k0 k1 k2 k3 l0 l1
  refine (awake_any _).mono ?_
  rintro e v11 ⟨rfl, b11⟩
  replace T := T.more b11
  clear b11
  clear v10
  obtain ⟨k0, k1, k2, k3⟩ := T.cells
  obtain ⟨l0, l1⟩ := T.lt
  go_wp2
  go_ret
  exact ⟨rfl, T.1⟩
end Go.Proofs.Ytodjpljdkjemmaa
