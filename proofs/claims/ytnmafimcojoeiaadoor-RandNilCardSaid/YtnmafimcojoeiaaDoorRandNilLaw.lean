/- The walk of the statement RandNil: true at every number. -/
import Derived.Test.YtnmafimcojoeiaaDoorRandPerm
import Derived.Test.YtnmafimcojoeiaaDoorRandLevel
import Derived.Test.YtnmafimcojoeiaaDoorRandAwake
namespace Go.Proofs.YtnmafimcojoeiaaDoor
open Go.RowKit

set_option maxRecDepth 100000 in
set_option maxHeartbeats 1000000 in
theorem randNil_any (n : Int) (w : World) : Calls Tryd.prog 5 #[.int .i64 n] w fun e w' => e = .returned (.bool true) ∧ Below w.heap.size w w' := by
  go_enter Tryd.func5, Tryd.ntmps5
  go_wp2_with fail
  refine (below_nil _ _).mono ?_
  rintro e w1 ⟨rfl, rfl⟩
  go_wp2_with fail
  refine (level_nil _ _).mono ?_
  rintro e w2 ⟨rfl, rfl⟩
  go_wp2_with fail
  refine (perm_nil _ _).mono ?_
  rintro e w3 ⟨rfl, rfl⟩
  go_wp2_with fail
  refine (awake_any _).mono ?_
  rintro e w4 ⟨rfl, B4⟩
  go_wp2_with fail
  refine (next_nil _).mono ?_
  rintro e w5 ⟨rfl, rfl⟩
  go_wp2_with fail
  refine (clone_nil _).mono ?_
  rintro e w6 ⟨rfl, rfl⟩
  go_wp2
  go_ret
  exact ⟨rfl, B4⟩
end Go.Proofs.YtnmafimcojoeiaaDoor
