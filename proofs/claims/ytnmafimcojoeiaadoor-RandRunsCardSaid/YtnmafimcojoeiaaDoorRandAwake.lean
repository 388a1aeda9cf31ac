/- The contract of the statements' awake: true, in whatever memory. -/
import Derived.Test.YtnmafimcojoeiaaDoorRandA
import Derived.Test.YtnmafimcojoeiaaDoorMem
import Derived.WalkKit
import Derived.KernelRfl
namespace Go.Proofs.YtnmafimcojoeiaaDoor
open Go.RowKit

theorem draw_0 : draw 0 = 16294208416658607535 := by kernel_rfl
theorem draw_1 : draw (adv 0) = 7960286522194355700 := by kernel_rfl

set_option maxRecDepth 100000 in
set_option maxHeartbeats 1000000 in
theorem awake_any (w : World) : Calls Tryd.prog 8 #[] w fun e w' => e = .returned (.bool true) ∧ Below w.heap.size w w' := by
  go_enter Tryd.func8, Tryd.ntmps8
  go_wp2_with fail
  refine (new_src _ _).mono ?_
  rintro e w1 ⟨s, rfl, b1, l1, f1⟩
  have B1 := below_of_grown (Below.refl _ w) f1 (by simp)
  go_wp2_with fail
  refine (clone_src _ _ _ b1).mono ?_
  rintro e w2 ⟨t, rfl, c2, l2, f2⟩
  have hne : s ≠ t := by have := b1.lt; omega
  have b2 := b1.grown f2 (by simp)
  have B2 := below_of_grown B1 f2 (by simp)
  have z2 := B1.size
  clear b1 f1 f2 B1
  go_wp2_with fail
  refine (next_src _ _ _ b2).mono ?_
  rintro e w3 ⟨rfl, b3, f3⟩
  rw [draw_0]
  have c3 := c2.grown f3 (by simp; omega)
  have B3 := below_of_grown B2 f3 (by simp; omega)
  clear b2 c2 f3 B2
  go_wp2_with fail
  refine (next_src _ _ _ b3).mono ?_
  rintro e w4 ⟨rfl, b4, f4⟩
  rw [draw_1]
  have c4 := c3.grown f4 (by simp; omega)
  have B4 := below_of_grown B3 f4 (by simp; omega)
  clear b3 c3 f4 B3
  go_wp2_with fail
  refine (below_src _ _ _ _ c4 (by omega) (by omega)).mono ?_
  rintro e w5 ⟨rfl, c5, f5⟩
  rw [draw_0, show (16294208416658607535 : Int) % 10 = 5 by decide]
  have B5 := below_of_grown B4 f5 (by simp; omega)
  clear b4 c4 f5 B4
  go_wp2_with fail
  refine (below_bad _ _ _ (by omega)).mono ?_
  rintro e w6 ⟨rfl, rfl⟩
  go_wp2_with fail
  refine (below_src _ _ _ _ c5 (by omega) (by omega)).mono ?_
  rintro e w7 ⟨rfl, c7, f7⟩
  rw [draw_1, show (7960286522194355700 : Int) % 7 = 1 by decide]
  have B7 := below_of_grown B5 f7 (by simp; omega)
  clear c5 c7 f7 B5
  go_wp2
  go_ret
  exact ⟨rfl, B7⟩
end Go.Proofs.YtnmafimcojoeiaaDoor
