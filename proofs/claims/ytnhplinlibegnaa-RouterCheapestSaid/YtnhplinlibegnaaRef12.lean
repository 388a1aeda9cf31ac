/- The contract of the document's check of a spec (theodoliteref12.Check): the same error as factory.Check's. -/
import Derived.Test.YtnhplinlibegnaaFactory
import Derived.BigQuiet
namespace Go.Proofs.Ytnhplinlibegnaa
open Go.RowKit

def withinB (n m : Int) : Bool := decide (1 ≤ n) && decide (n ≤ m)
theorem within_any (n m : Int) (w : World) : Calls Try.prog 36 #[.int .i64 n, .int .i64 m] w fun e w' => e = .returned (.bool (withinB n m)) ∧ w = w' := by
  by_cases h1 : 1 ≤ n
  · have hv : withinB n m = decide (n ≤ m) := by simp [withinB, h1]
    rw [hv]
    go_enter Try.func36, Try.ntmps36
    go_wp2
    go_ret
    exact ⟨rfl, rfl⟩
  · have hv : withinB n m = false := by simp [withinB, h1]
    rw [hv]
    have h2 : n < 1 := by omega
    go_enter Try.func36, Try.ntmps36
    go_wp2
    go_ret
    exact ⟨rfl, rfl⟩

set_option maxRecDepth 100000 in
set_option maxHeartbeats 4000000 in
theorem refCheck_1 (a b c : Int) (w : World) : Calls Try.prog 25 #[.agg #[.int .i64 1, .int .i64 a, .int .i64 b, .int .i64 c]] w (ErrPost w (inLim 0 0 0 a b c)) := by
  go_enter Try.func25, Try.ntmps25
  go_wp2_with (go_at_call 36; refine (within_any _ _ _).mono ?_; rintro e w' ⟨rfl, rfl⟩)
  all_goals
    go_ret
    refine ⟨?_, (Below.refl _ _).alloc (Nat.le_refl _) _⟩
    unfold inLim
    simp at *
    first | (rw [if_pos (by omega)]; done) | (rw [if_neg (by omega)]; done) | omega

set_option maxRecDepth 100000 in
set_option maxHeartbeats 4000000 in
theorem refCheck_2 (a b c : Int) (w : World) : Calls Try.prog 25 #[.agg #[.int .i64 2, .int .i64 a, .int .i64 b, .int .i64 c]] w (ErrPost w (inLim 64 0 0 a b c)) := by
  go_enter Try.func25, Try.ntmps25
  go_wp2_with (go_at_call 36; refine (within_any _ _ _).mono ?_; rintro e w' ⟨rfl, rfl⟩)
  all_goals
    go_ret
    refine ⟨?_, (Below.refl _ _).alloc (Nat.le_refl _) _⟩
    unfold inLim
    simp [withinB] at *
    first | (rw [if_pos (by omega)]; done) | (rw [if_neg (by omega)]; done) | omega

set_option maxRecDepth 100000 in
set_option maxHeartbeats 4000000 in
theorem refCheck_3 (a b c : Int) (w : World) : Calls Try.prog 25 #[.agg #[.int .i64 3, .int .i64 a, .int .i64 b, .int .i64 c]] w (ErrPost w (inLim 64 0 0 a b c)) := by
  go_enter Try.func25, Try.ntmps25
  go_wp2_with (go_at_call 36; refine (within_any _ _ _).mono ?_; rintro e w' ⟨rfl, rfl⟩)
  all_goals
    go_ret
    refine ⟨?_, (Below.refl _ _).alloc (Nat.le_refl _) _⟩
    unfold inLim
    simp [withinB] at *
    first | (rw [if_pos (by omega)]; done) | (rw [if_neg (by omega)]; done) | omega

set_option maxRecDepth 100000 in
set_option maxHeartbeats 4000000 in
theorem refCheck_4 (a b c : Int) (w : World) : Calls Try.prog 25 #[.agg #[.int .i64 4, .int .i64 a, .int .i64 b, .int .i64 c]] w (ErrPost w (inLim 64 0 0 a b c)) := by
  go_enter Try.func25, Try.ntmps25
  go_wp2_with (go_at_call 36; refine (within_any _ _ _).mono ?_; rintro e w' ⟨rfl, rfl⟩)
  all_goals
    go_ret
    refine ⟨?_, (Below.refl _ _).alloc (Nat.le_refl _) _⟩
    unfold inLim
    simp [withinB] at *
    first | (rw [if_pos (by omega)]; done) | (rw [if_neg (by omega)]; done) | omega

set_option maxRecDepth 100000 in
set_option maxHeartbeats 4000000 in
theorem refCheck_5 (a b c : Int) (w : World) : Calls Try.prog 25 #[.agg #[.int .i64 5, .int .i64 a, .int .i64 b, .int .i64 c]] w (ErrPost w (inLim 64 8 16 a b c)) := by
  go_enter Try.func25, Try.ntmps25
  go_wp2_with (go_at_call 36; refine (within_any _ _ _).mono ?_; rintro e w' ⟨rfl, rfl⟩)
  all_goals
    go_ret
    refine ⟨?_, (Below.refl _ _).alloc (Nat.le_refl _) _⟩
    unfold inLim
    simp [withinB] at *
    first | (rw [if_pos (by omega)]; done) | (rw [if_neg (by omega)]; done) | omega

set_option maxRecDepth 100000 in
set_option maxHeartbeats 4000000 in
theorem refCheck_6 (a b c : Int) (w : World) : Calls Try.prog 25 #[.agg #[.int .i64 6, .int .i64 a, .int .i64 b, .int .i64 c]] w (ErrPost w (inLim 16 0 0 a b c)) := by
  go_enter Try.func25, Try.ntmps25
  go_wp2_with (go_at_call 36; refine (within_any _ _ _).mono ?_; rintro e w' ⟨rfl, rfl⟩)
  all_goals
    go_ret
    refine ⟨?_, (Below.refl _ _).alloc (Nat.le_refl _) _⟩
    unfold inLim
    simp [withinB] at *
    first | (rw [if_pos (by omega)]; done) | (rw [if_neg (by omega)]; done) | omega


set_option maxRecDepth 100000 in
set_option maxHeartbeats 2000000 in
theorem refCheck_x (k a b c : Int) (w : World) (h : k ≠ 1 ∧ k ≠ 2 ∧ k ≠ 3 ∧ k ≠ 4 ∧ k ≠ 5 ∧ k ≠ 6) : Calls Try.prog 25 #[.agg #[.int .i64 k, .int .i64 a, .int .i64 b, .int .i64 c]] w (ErrPost w 120) := by
  have e1 : (k == 1) = false := by simp [h.1]
  have e2 : (k == 2) = false := by simp [h.2.1]
  have e3 : (k == 3) = false := by simp [h.2.2.1]
  have e4 : (k == 4) = false := by simp [h.2.2.2.1]
  have e5 : (k == 5) = false := by simp [h.2.2.2.2.1]
  have e6 : (k == 6) = false := by simp [h.2.2.2.2.2]
  clear h
  go_enter Try.func25, Try.ntmps25
  go_wp2
  all_goals
    go_ret
    exact ⟨rfl, (Below.refl _ _).alloc (Nat.le_refl _) _⟩

theorem refCheck_any (k a b c : Int) (w : World) : Calls Try.prog 25 #[.agg #[.int .i64 k, .int .i64 a, .int .i64 b, .int .i64 c]] w (ErrPost w (checkE k a b c)) := by
  by_cases h1 : k = 1
  · subst h1; exact refCheck_1 a b c w
  by_cases h2 : k = 2
  · subst h2; exact refCheck_2 a b c w
  by_cases h3 : k = 3
  · subst h3; exact refCheck_3 a b c w
  by_cases h4 : k = 4
  · subst h4; exact refCheck_4 a b c w
  by_cases h5 : k = 5
  · subst h5; exact refCheck_5 a b c w
  by_cases h6 : k = 6
  · subst h6; exact refCheck_6 a b c w
  have : checkE k a b c = 120 := by simp [checkE, h1, h2, h3, h4, h5, h6]
  rw [this]
  exact refCheck_x k a b c w ⟨h1, h2, h3, h4, h5, h6⟩
end Go.Proofs.Ytnhplinlibegnaa
