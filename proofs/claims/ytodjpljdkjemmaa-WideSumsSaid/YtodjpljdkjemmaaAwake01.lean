/- The contract of law 1's awake: true. -/
import Derived.Test.YtodjpljdkjemmaaParse
import Derived.Handy
import Derived.Deep.RegionHeld3
namespace Go.Proofs.Ytodjpljdkjemmaa
open Go.RowKit
set_option linter.unusedVariables false

theorem lo_any (n : Nat) (w : World) : Calls Try.prog 28 #[.int .u64 (n : Int)] w fun e w' => e = .returned (.agg #[.int .u64 0, .int .u64 (n : Int)]) ∧ Below w.heap.size w w' := by
  go_enter Try.func28, Try.ntmps28
  go_wp2
  go_returns
  exact ⟨rfl, (Below.refl _ _).alloc (Nat.le_refl _) _⟩
theorem a_one (w : World) : Calls Try.prog 9 #[.agg #[.int .u64 0, .int .u64 18446744073709551615], .agg #[.int .u64 0, .int .u64 1]] w (HalfPost w 1 0 0) :=
  add_in 0 18446744073709551615 0 1 1 0 (by unfold Sm; omega) (by unfold Sm; omega) (by unfold Sm; omega) (by unfold Sm; omega) (by unfold Sm; omega) (by unfold Sm; omega) (by omega) w
theorem a_two (w : World) : Calls Try.prog 9 #[.agg #[.int .u64 18446744073709551615, .int .u64 18446744073709551615], .agg #[.int .u64 0, .int .u64 1]] w (HalfPost w 0 0 10) :=
  add_up 18446744073709551615 18446744073709551615 0 1 (by unfold Sm; omega) (by unfold Sm; omega) (by unfold Sm; omega) (by unfold Sm; omega) (by omega) w
theorem a_three (w : World) : Calls Try.prog 11 #[.agg #[.int .u64 0, .int .u64 3], .agg #[.int .u64 0, .int .u64 4]] w (HalfPost w 0 0 10) := sub_any 3 4 (by omega) (by omega) w
def t64 : ByteArray := ⟨#[49, 56, 52, 52, 54, 55, 52, 52, 48, 55, 51, 55, 48, 57, 53, 53, 49, 54, 49, 54]⟩
theorem p64N : parN t64 = 18446744073709551616 := by decide +kernel
theorem p64E : parE t64 = 0 := by decide +kernel
theorem p7N : parN ⟨#[48, 48, 55]⟩ = 0 := by decide +kernel
theorem p7E : parE ⟨#[48, 48, 55]⟩ = 11 := by decide +kernel
theorem num64 : num 18446744073709551616 = .agg #[.int .u64 1, .int .u64 0] := rfl
theorem a_four (w : World) : Calls Try.prog 18 #[.string ⟨#[49, 56, 52, 52, 54, 55, 52, 52, 48, 55, 51, 55, 48, 57, 53, 53, 49, 54, 49, 54]⟩] w (HalfPost w 1 0 0) := by
  refine (parse_any t64 w).mono ?_
  rintro e w' ⟨rfl, hb⟩
  rw [p64N, p64E, num64]
  exact ⟨rfl, hb⟩
theorem a_five (w : World) : Calls Try.prog 18 #[.string ⟨#[48, 48, 55]⟩] w (HalfPost w 0 0 11) := by
  refine (parse_any _ w).mono ?_
  rintro e w' ⟨rfl, hb⟩
  rw [p7N, p7E, num_zero]
  exact ⟨rfl, hb⟩
theorem a_mul (w : World) : Calls Try.prog 14 #[.int .u64 18446744073709551615, .int .u64 18446744073709551615] w fun e w' => e = .returned (.agg #[.int .u64 18446744073709551614, .int .u64 1]) ∧ Below w.heap.size w w' :=
  mul_any 18446744073709551615 18446744073709551615 (by omega) (by omega) w
theorem a_cmp (w : World) : Calls Try.prog 16 #[.agg #[.int .u64 1, .int .u64 0], .agg #[.int .u64 0, .int .u64 9]] w (CmpPost w 1) := cmp_any 18446744073709551616 9 w
theorem a_sqrt (w : World) : Calls Try.prog 17 #[.agg #[.int .u64 0, .int .u64 15]] w fun e w' => e = .returned (.int .u64 3) ∧ Below w.heap.size w w' := by
  refine (sqrt_any 15 (by omega) w).mono ?_
  rintro e w' ⟨r, rfl, h1, h2, h3, hb⟩
  obtain rfl : r = 3 := by
    rcases Nat.lt_or_ge r 3 with h | h
    · have : (r + 1) * (r + 1) ≤ 3 * 3 := Nat.mul_le_mul (by omega) (by omega)
      omega
    · rcases Nat.lt_or_ge 3 r with h' | h'
      · have : 4 * 4 ≤ r * r := Nat.mul_le_mul (by omega) (by omega)
        omega
      · omega
  exact ⟨rfl, hb⟩
theorem a_print (w : World) : Calls Try.prog 20 #[.agg #[.int .u64 1, .int .u64 0]] w fun e w' => e = .returned (.string ⟨#[49, 56, 52, 52, 54, 55, 52, 52, 48, 55, 51, 55, 48, 57, 53, 53, 49, 54, 49, 54]⟩) ∧ Below w.heap.size w w' := by
  refine (print_any 18446744073709551616 (by omega) w).mono ?_
  rintro e w' ⟨rfl, hb⟩
  exact ⟨rfl, hb⟩
/-- The carried world: it holds the first sum. -/
def Aw (w wr : World) (g : Nat) : Prop := Below w.heap.size w wr ∧ Blk wr g 24 #[.int .u64 1, .int .u64 0]
theorem Aw.more {w wr w1 : World} {g : Nat} (h : Aw w wr g) (hb : Below wr.heap.size wr w1) : Aw w w1 g := ⟨below_chain h.1 hb h.1.size, h.2.below hb h.2.lt⟩
theorem Aw.drew {w wr : World} {g : Nat} (h : Aw w wr g) : Aw w wr.drew g := ⟨h.1.drew, h.2⟩
/-- Two halves stay. -/
theorem two_keep {w w' : World} {g : Nat} {u v : Value} (h : Blk w g 24 #[u, v]) (hb : Below w.heap.size w w') : Blk w' g 24 #[u, v] := h.below hb h.lt
set_option maxRecDepth 100000 in
set_option maxHeartbeats 4000000 in
theorem awake_any (w : World) : Calls Try.prog 13 #[] w fun e w' => e = .returned (.bool true) ∧ Below w.heap.size w w' := by
  go_enter Try.func13, Try.ntmps13
  go_wp2_with fail
  refine (lo_any 18446744073709551615 _).mono ?_
  rintro e w1 ⟨rfl, b1⟩
  go_wp2_with fail
  refine (lo_any 1 _).mono ?_
  rintro e w2 ⟨rfl, b2⟩
  have B2 := below_chain b1 b2 b1.size
  clear b1 b2
  go_wp2_with fail
  refine (a_one _).mono ?_
  rintro e w3 ⟨rfl, b3⟩
  have B3 := below_chain B2 b3 B2.size
  clear B2 b3
  go_wp2_with fail
  have Q0 : Aw w _ w3.heap.size := ⟨B3.alloc B3.size (Obj.cells #[.int .u64 1, .int .u64 0] 24), Blk.new w3 24 #[.int .u64 1, .int .u64 0]⟩
  clear B3
  generalize w3.alloc (Obj.cells #[.int .u64 1, .int .u64 0] 24) = v0 at *
  generalize w3.heap.size = g at *
  clear w1 w2 w3
  refine (lo_any 1 _).mono ?_
  rintro e v1 ⟨rfl, b1⟩
  have Q1 := Q0.more b1
  clear Q0 b1
  clear v0
  go_wp2_with fail
  refine (a_two _).mono ?_
  rintro e v2 ⟨rfl, b2⟩
  have Q2 := Q1.more b2
  clear Q1 b2
  clear v1
  go_wp2_with fail
  have Q3 := Q2.more (below_alloc1 v2 (Obj.cells #[.int .u64 0, .int .u64 0] 24))
  generalize v2.alloc (Obj.cells #[.int .u64 0, .int .u64 0] 24) = v3 at *
  generalize v2.heap.size = g3
  clear Q2 v2
  refine (lo_any 3 _).mono ?_
  rintro e v4 ⟨rfl, b4⟩
  have Q4 := Q3.more b4
  clear Q3 b4
  clear v3
  go_wp2_with fail
  refine (lo_any 4 _).mono ?_
  rintro e v5 ⟨rfl, b5⟩
  have Q5 := Q4.more b5
  clear Q4 b5
  clear v4
  go_wp2_with fail
  refine (a_three _).mono ?_
  rintro e v6 ⟨rfl, b6⟩
  have Q6 := Q5.more b6
  clear Q5 b6
  clear v5
  go_wp2_with fail
  have Q7 := Q6.more (below_alloc1 v6 (Obj.cells #[.int .u64 0, .int .u64 0] 24))
  generalize v6.alloc (Obj.cells #[.int .u64 0, .int .u64 0] 24) = v7 at *
  generalize v6.heap.size = g7
  clear Q6 v6
  refine (a_four _).mono ?_
  rintro e v8 ⟨rfl, b8⟩
  have Q8 := Q7.more b8
  clear Q7 b8
  clear v7
  go_wp2_with fail
  have Q9 : Aw w _ g ∧ Blk _ v8.heap.size 24 #[.int .u64 1, .int .u64 0] := ⟨Q8.more (below_alloc1 v8 (Obj.cells #[.int .u64 1, .int .u64 0] 24)), Blk.new v8 24 #[.int .u64 1, .int .u64 0]⟩
  generalize v8.alloc (Obj.cells #[.int .u64 1, .int .u64 0] 24) = v9 at *
  generalize v8.heap.size = g2 at *
  clear Q8
  clear v8
  refine (a_five _).mono ?_
  rintro e v10 ⟨rfl, b10⟩
  obtain ⟨Q9, R9⟩ := Q9
  have R10 := two_keep R9 b10
  have Q10 := Q9.more b10
  clear Q9 b10 R9
  clear v9
  have c0 : v10.cell? ⟨g, 0, none⟩ = some (.int .u64 1) := Q10.2.cell 0
  have c1 : v10.cell? ⟨g, 1, none⟩ = some (.int .u64 0) := Q10.2.cell 1
  have d0 : v10.cell? ⟨g2, 0, none⟩ = some (.int .u64 1) := R10.cell 0
  have d1 : v10.cell? ⟨g2, 1, none⟩ = some (.int .u64 0) := R10.cell 1
  have l1 : g < v10.heap.size := Q10.2.lt
  have l2 : g2 < v10.heap.size := R10.lt
  have n1 : ¬ g = v10.heap.size := by omega
  have n2 : ¬ g2 = v10.heap.size := by omega
  go_wp2_with fail
  have Q11 := Q10.more (below_alloc1 v10 (Obj.cells #[.int .u64 0, .int .u64 0] 24))
  generalize v10.alloc (Obj.cells #[.int .u64 0, .int .u64 0] 24) = v11 at *
  generalize v10.heap.size = g11
  clear Q10 R10 c0 c1 d0 d1 l1 l2 n1 n2 v10
  have P0 := Q11.drew
  clear Q11
  have c0 : v11.cell? ⟨g, 0, none⟩ = some (.int .u64 1) := P0.2.cell 0
  have c1 : v11.cell? ⟨g, 1, none⟩ = some (.int .u64 0) := P0.2.cell 1
  go_region_with (first
    | (go_at_call 14; refine (a_mul _).mono ?_; rintro e x1 ⟨rfl, y1⟩; have P1 := P0.more y1; have p0 : x1.cell? ⟨g, 0, none⟩ = some (.int .u64 1) := P1.2.cell 0; have p1 : x1.cell? ⟨g, 1, none⟩ = some (.int .u64 0) := P1.2.cell 1)
    | (go_at_call 16; refine (a_cmp _).mono ?_; rintro e x3 ⟨rfl, y3⟩; have P3 := P2.more y3)
    | (go_at_call 17; refine (a_sqrt _).mono ?_; rintro e x5 ⟨rfl, y5⟩; have P5 := P4.more y5; have r0 : x5.cell? ⟨g, 0, none⟩ = some (.int .u64 1) := P5.2.cell 0; have r1 : x5.cell? ⟨g, 1, none⟩ = some (.int .u64 0) := P5.2.cell 1)
    | (go_at_call 20; refine (a_print _).mono ?_; rintro e x6 ⟨rfl, y6⟩; have P6 := P5.more y6)
    | (go_at_call 28; refine (lo_any 9 _).mono ?_; rintro e x2 ⟨rfl, y2⟩; have P2 := P1.more y2; have q0 : x2.cell? ⟨g, 0, none⟩ = some (.int .u64 1) := P2.2.cell 0; have q1 : x2.cell? ⟨g, 1, none⟩ = some (.int .u64 0) := P2.2.cell 1)
    | (go_at_call 28; refine (lo_any 15 _).mono ?_; rintro e x4 ⟨rfl, y4⟩; have P4 := P3.more y4))
  all_goals
    go_wp2
    refine bodyPost_ret (v := .bool true) (by simp [results, Try.results13, go_sem]) rfl ?_
    exact ⟨rfl, P6.1⟩
end Go.Proofs.Ytodjpljdkjemmaa
