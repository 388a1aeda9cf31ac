/- RouterCosts: the walk. -/
import Derived.Test.YtnhplinlibegnaaAwake15
namespace Go.Proofs.Ytnhplinlibegnaa
open Go.RowKit

set_option maxRecDepth 100000 in
set_option maxHeartbeats 1000000 in
theorem routerCosts_any (k a b c r d : Int) (w : World) :
    Calls Try.prog 3 #[.agg #[.int .i64 k, .int .i64 a, .int .i64 b, .int .i64 c], .int .i64 r, .int .i64 d] w fun e w' => e = .returned (.bool true) ∧ Below w.heap.size w w' := by
  go_enter Try.func3, Try.ntmps3
  go_wp2_with fail
  refine (cost_any k a b c r d _).mono ?_
  rintro e w1 ⟨rfl, b1⟩
  obtain ⟨c0, c1, c2, c3⟩ := box_cells b1
  have B1 := below_chain ((Below.refl _ w).alloc (Nat.le_refl _) _) b1 (by simp)
  clear b1
  go_wp2_with fail
  refine (rcost_any k a b c r d _).mono ?_
  rintro e w2 ⟨rfl, b2⟩
  have B2 := below_chain B1 b2 B1.size
  clear B1 b2
  go_wp2_with fail
  refine (awake_any _).mono ?_
  rintro e w3 ⟨rfl, b3⟩
  have B3 := below_chain B2 b3 B2.size
  go_wp2
  go_ret
  exact ⟨rfl, B3⟩
end Go.Proofs.Ytnhplinlibegnaa
