/- The contract of factory.Check, and of the document's own. -/
import Derived.Test.YtnhplinlibegnaaProg
import Derived.Test.YtnhplinlibegnaaMem
import Derived.WalkKit
import Derived.LoopN
namespace Go.Proofs.Ytnhplinlibegnaa
open Go.RowKit

def ErrPost (w : World) (v : Int) (e : Ending) (w' : World) : Prop := e = .returned (.int .i64 v) ∧ Below w.heap.size w w'

/-- Within the limits of a kind: 0, or 121. -/
def inLim (m0 m1 m2 a b c : Int) : Int := if (min 1 m0 ≤ a ∧ a ≤ m0) ∧ (min 1 m1 ≤ b ∧ b ≤ m1) ∧ (min 1 m2 ≤ c ∧ c ≤ m2) then 0 else 121
/-- The document's error of a spec. -/
def checkE (k a b c : Int) : Int :=
  if k = 1 then inLim 0 0 0 a b c else if k = 2 ∨ k = 3 ∨ k = 4 then inLim 64 0 0 a b c else if k = 5 then inLim 64 8 16 a b c else if k = 6 then inLim 16 0 0 a b c else 120

set_option maxRecDepth 100000 in
set_option maxHeartbeats 4000000 in
theorem fcheck_1 (a b c : Int) (w : World) : Calls Try.prog 18 #[.agg #[.int .i64 1, .int .i64 a, .int .i64 b, .int .i64 c]] w (ErrPost w (inLim 0 0 0 a b c)) := by
  have i0 : ∀ w : World, (Instr.index 53 (.agg #[.int .i64 a, .int .i64 b, .int .i64 c]) (.int .i64 0)).run Try.prog w = .ok (.int .i64 a) w := fun _ => by kernel_rfl
  have i1 : ∀ w : World, (Instr.index 53 (.agg #[.int .i64 a, .int .i64 b, .int .i64 c]) (.int .i64 1)).run Try.prog w = .ok (.int .i64 b) w := fun _ => by kernel_rfl
  have i2 : ∀ w : World, (Instr.index 53 (.agg #[.int .i64 a, .int .i64 b, .int .i64 c]) (.int .i64 2)).run Try.prog w = .ok (.int .i64 c) w := fun _ => by kernel_rfl
  go_enter Try.func18, Try.ntmps18
  go_wp2
  refine wp_loop_rounds 4 ?_
  rw [rounds_succ]
  go_wp2
  all_goals (try rw [rounds_succ])
  go_wp2
  all_goals (try rw [rounds_succ])
  go_wp2
  all_goals (try rw [rounds_succ])
  go_wp2
  all_goals
    go_ret
    refine ⟨?_, ?_⟩
    · unfold inLim
      first | (rw [if_pos (by omega)]; rfl) | (rw [if_neg (by omega)]; rfl)
    · repeat (first | exact Below.refl _ _ | refine Below.setCell ?_ (by simp) _ | refine Below.alloc ?_ (by simp) _)

set_option maxRecDepth 100000 in
set_option maxHeartbeats 4000000 in
theorem fcheck_2 (a b c : Int) (w : World) : Calls Try.prog 18 #[.agg #[.int .i64 2, .int .i64 a, .int .i64 b, .int .i64 c]] w (ErrPost w (inLim 64 0 0 a b c)) := by
  have i0 : ∀ w : World, (Instr.index 53 (.agg #[.int .i64 a, .int .i64 b, .int .i64 c]) (.int .i64 0)).run Try.prog w = .ok (.int .i64 a) w := fun _ => by kernel_rfl
  have i1 : ∀ w : World, (Instr.index 53 (.agg #[.int .i64 a, .int .i64 b, .int .i64 c]) (.int .i64 1)).run Try.prog w = .ok (.int .i64 b) w := fun _ => by kernel_rfl
  have i2 : ∀ w : World, (Instr.index 53 (.agg #[.int .i64 a, .int .i64 b, .int .i64 c]) (.int .i64 2)).run Try.prog w = .ok (.int .i64 c) w := fun _ => by kernel_rfl
  go_enter Try.func18, Try.ntmps18
  go_wp2
  refine wp_loop_rounds 4 ?_
  rw [rounds_succ]
  go_wp2
  all_goals (try rw [rounds_succ])
  go_wp2
  all_goals (try rw [rounds_succ])
  go_wp2
  all_goals (try rw [rounds_succ])
  go_wp2
  all_goals
    go_ret
    refine ⟨?_, ?_⟩
    · unfold inLim
      first | (rw [if_pos (by omega)]; rfl) | (rw [if_neg (by omega)]; rfl)
    · repeat (first | exact Below.refl _ _ | refine Below.setCell ?_ (by simp) _ | refine Below.alloc ?_ (by simp) _)

set_option maxRecDepth 100000 in
set_option maxHeartbeats 4000000 in
theorem fcheck_3 (a b c : Int) (w : World) : Calls Try.prog 18 #[.agg #[.int .i64 3, .int .i64 a, .int .i64 b, .int .i64 c]] w (ErrPost w (inLim 64 0 0 a b c)) := by
  have i0 : ∀ w : World, (Instr.index 53 (.agg #[.int .i64 a, .int .i64 b, .int .i64 c]) (.int .i64 0)).run Try.prog w = .ok (.int .i64 a) w := fun _ => by kernel_rfl
  have i1 : ∀ w : World, (Instr.index 53 (.agg #[.int .i64 a, .int .i64 b, .int .i64 c]) (.int .i64 1)).run Try.prog w = .ok (.int .i64 b) w := fun _ => by kernel_rfl
  have i2 : ∀ w : World, (Instr.index 53 (.agg #[.int .i64 a, .int .i64 b, .int .i64 c]) (.int .i64 2)).run Try.prog w = .ok (.int .i64 c) w := fun _ => by kernel_rfl
  go_enter Try.func18, Try.ntmps18
  go_wp2
  refine wp_loop_rounds 4 ?_
  rw [rounds_succ]
  go_wp2
  all_goals (try rw [rounds_succ])
  go_wp2
  all_goals (try rw [rounds_succ])
  go_wp2
  all_goals (try rw [rounds_succ])
  go_wp2
  all_goals
    go_ret
    refine ⟨?_, ?_⟩
    · unfold inLim
      first | (rw [if_pos (by omega)]; rfl) | (rw [if_neg (by omega)]; rfl)
    · repeat (first | exact Below.refl _ _ | refine Below.setCell ?_ (by simp) _ | refine Below.alloc ?_ (by simp) _)

set_option maxRecDepth 100000 in
set_option maxHeartbeats 4000000 in
theorem fcheck_4 (a b c : Int) (w : World) : Calls Try.prog 18 #[.agg #[.int .i64 4, .int .i64 a, .int .i64 b, .int .i64 c]] w (ErrPost w (inLim 64 0 0 a b c)) := by
  have i0 : ∀ w : World, (Instr.index 53 (.agg #[.int .i64 a, .int .i64 b, .int .i64 c]) (.int .i64 0)).run Try.prog w = .ok (.int .i64 a) w := fun _ => by kernel_rfl
  have i1 : ∀ w : World, (Instr.index 53 (.agg #[.int .i64 a, .int .i64 b, .int .i64 c]) (.int .i64 1)).run Try.prog w = .ok (.int .i64 b) w := fun _ => by kernel_rfl
  have i2 : ∀ w : World, (Instr.index 53 (.agg #[.int .i64 a, .int .i64 b, .int .i64 c]) (.int .i64 2)).run Try.prog w = .ok (.int .i64 c) w := fun _ => by kernel_rfl
  go_enter Try.func18, Try.ntmps18
  go_wp2
  refine wp_loop_rounds 4 ?_
  rw [rounds_succ]
  go_wp2
  all_goals (try rw [rounds_succ])
  go_wp2
  all_goals (try rw [rounds_succ])
  go_wp2
  all_goals (try rw [rounds_succ])
  go_wp2
  all_goals
    go_ret
    refine ⟨?_, ?_⟩
    · unfold inLim
      first | (rw [if_pos (by omega)]; rfl) | (rw [if_neg (by omega)]; rfl)
    · repeat (first | exact Below.refl _ _ | refine Below.setCell ?_ (by simp) _ | refine Below.alloc ?_ (by simp) _)

set_option maxRecDepth 100000 in
set_option maxHeartbeats 4000000 in
theorem fcheck_5 (a b c : Int) (w : World) : Calls Try.prog 18 #[.agg #[.int .i64 5, .int .i64 a, .int .i64 b, .int .i64 c]] w (ErrPost w (inLim 64 8 16 a b c)) := by
  have i0 : ∀ w : World, (Instr.index 53 (.agg #[.int .i64 a, .int .i64 b, .int .i64 c]) (.int .i64 0)).run Try.prog w = .ok (.int .i64 a) w := fun _ => by kernel_rfl
  have i1 : ∀ w : World, (Instr.index 53 (.agg #[.int .i64 a, .int .i64 b, .int .i64 c]) (.int .i64 1)).run Try.prog w = .ok (.int .i64 b) w := fun _ => by kernel_rfl
  have i2 : ∀ w : World, (Instr.index 53 (.agg #[.int .i64 a, .int .i64 b, .int .i64 c]) (.int .i64 2)).run Try.prog w = .ok (.int .i64 c) w := fun _ => by kernel_rfl
  go_enter Try.func18, Try.ntmps18
  go_wp2
  refine wp_loop_rounds 4 ?_
  rw [rounds_succ]
  go_wp2
  all_goals (try rw [rounds_succ])
  go_wp2
  all_goals (try rw [rounds_succ])
  go_wp2
  all_goals (try rw [rounds_succ])
  go_wp2
  all_goals
    go_ret
    refine ⟨?_, ?_⟩
    · unfold inLim
      first | (rw [if_pos (by omega)]; rfl) | (rw [if_neg (by omega)]; rfl)
    · repeat (first | exact Below.refl _ _ | refine Below.setCell ?_ (by simp) _ | refine Below.alloc ?_ (by simp) _)

set_option maxRecDepth 100000 in
set_option maxHeartbeats 4000000 in
theorem fcheck_6 (a b c : Int) (w : World) : Calls Try.prog 18 #[.agg #[.int .i64 6, .int .i64 a, .int .i64 b, .int .i64 c]] w (ErrPost w (inLim 16 0 0 a b c)) := by
  have i0 : ∀ w : World, (Instr.index 53 (.agg #[.int .i64 a, .int .i64 b, .int .i64 c]) (.int .i64 0)).run Try.prog w = .ok (.int .i64 a) w := fun _ => by kernel_rfl
  have i1 : ∀ w : World, (Instr.index 53 (.agg #[.int .i64 a, .int .i64 b, .int .i64 c]) (.int .i64 1)).run Try.prog w = .ok (.int .i64 b) w := fun _ => by kernel_rfl
  have i2 : ∀ w : World, (Instr.index 53 (.agg #[.int .i64 a, .int .i64 b, .int .i64 c]) (.int .i64 2)).run Try.prog w = .ok (.int .i64 c) w := fun _ => by kernel_rfl
  go_enter Try.func18, Try.ntmps18
  go_wp2
  refine wp_loop_rounds 4 ?_
  rw [rounds_succ]
  go_wp2
  all_goals (try rw [rounds_succ])
  go_wp2
  all_goals (try rw [rounds_succ])
  go_wp2
  all_goals (try rw [rounds_succ])
  go_wp2
  all_goals
    go_ret
    refine ⟨?_, ?_⟩
    · unfold inLim
      first | (rw [if_pos (by omega)]; rfl) | (rw [if_neg (by omega)]; rfl)
    · repeat (first | exact Below.refl _ _ | refine Below.setCell ?_ (by simp) _ | refine Below.alloc ?_ (by simp) _)


set_option maxRecDepth 100000 in
set_option maxHeartbeats 2000000 in
theorem fcheck_x (k a b c : Int) (w : World) (h : k ≠ 1 ∧ k ≠ 2 ∧ k ≠ 3 ∧ k ≠ 4 ∧ k ≠ 5 ∧ k ≠ 6) : Calls Try.prog 18 #[.agg #[.int .i64 k, .int .i64 a, .int .i64 b, .int .i64 c]] w (ErrPost w 120) := by
  have e1 : (k == 1) = false := by simp [h.1]
  have e2 : (k == 2) = false := by simp [h.2.1]
  have e3 : (k == 3) = false := by simp [h.2.2.1]
  have e4 : (k == 4) = false := by simp [h.2.2.2.1]
  have e5 : (k == 5) = false := by simp [h.2.2.2.2.1]
  have e6 : (k == 6) = false := by simp [h.2.2.2.2.2]
  clear h
  go_enter Try.func18, Try.ntmps18
  go_wp2
  go_ret
  refine ⟨rfl, ?_⟩
  repeat (first | exact Below.refl _ _ | refine Below.setCell ?_ (by simp) _ | refine Below.alloc ?_ (by simp) _)

theorem fcheck_any (k a b c : Int) (w : World) : Calls Try.prog 18 #[.agg #[.int .i64 k, .int .i64 a, .int .i64 b, .int .i64 c]] w (ErrPost w (checkE k a b c)) := by
  by_cases h1 : k = 1
  · subst h1; exact fcheck_1 a b c w
  by_cases h2 : k = 2
  · subst h2; exact fcheck_2 a b c w
  by_cases h3 : k = 3
  · subst h3; exact fcheck_3 a b c w
  by_cases h4 : k = 4
  · subst h4; exact fcheck_4 a b c w
  by_cases h5 : k = 5
  · subst h5; exact fcheck_5 a b c w
  by_cases h6 : k = 6
  · subst h6; exact fcheck_6 a b c w
  have : checkE k a b c = 120 := by simp [checkE, h1, h2, h3, h4, h5, h6]
  rw [this]
  exact fcheck_x k a b c w ⟨h1, h2, h3, h4, h5, h6⟩
end Go.Proofs.Ytnhplinlibegnaa
