/- The contract of law 15's awake: true. -/
import Derived.Test.YtnhplinlibegnaaBudget
import Derived.Handy
namespace Go.Proofs.Ytnhplinlibegnaa
open Go.RowKit

theorem kd_any (w : World) : Calls Try.prog 28 #[] w fun e w' => e = .returned (.agg #[.int .i64 2, .int .i64 2, .int .i64 0, .int .i64 0]) ∧ Below w.heap.size w w' := by
  go_enter Try.func28, Try.ntmps28
  go_wp2
  go_returns
  exact ⟨rfl, (Below.refl _ _).alloc (Nat.le_refl _) _⟩

theorem c1V : costV 2 2 0 0 100 4 = 112 := by kernel_rfl
theorem c1E : costE 2 2 0 0 100 4 = 0 := by kernel_rfl
theorem c2V : costV 5 8 2 4 100 4 = 138 := by kernel_rfl
theorem c2E : costE 5 8 2 4 100 4 = 0 := by kernel_rfl
def l2 : List Sp := [⟨1, 0, 0, 0⟩, ⟨2, 2, 0, 0⟩]
theorem c3V : chooseV l2 100 4 3 2 = 1 := by kernel_rfl
theorem c3E : chooseE l2 100 4 3 2 = 0 := by kernel_rfl
theorem c4V : budgetV 2 2 0 0 100 [1] 1 2 7 = 7 := by decide +kernel
theorem c4E : budgetE 2 2 0 0 100 [1] 1 2 7 = 0 := by decide +kernel
theorem c5E : queryE [1] 1 1 3 0 = 210 := by decide +kernel

theorem specs_l2 (w : World) (t : TypeId) : Specs (w.alloc (.cells #[.int .i64 1, .int .i64 0, .int .i64 0, .int .i64 0, .int .i64 2, .int .i64 2, .int .i64 0, .int .i64 0] t)) (some ⟨w.heap.size, 0, none⟩) l2 := fun j hj => by
  have h := Blk.new w t #[.int .i64 1, .int .i64 0, .int .i64 0, .int .i64 0, .int .i64 2, .int .i64 2, .int .i64 0, .int .i64 0]
  refine ⟨_, 0, rfl, ?_⟩
  match j, hj with
  | 0, _ => exact ⟨h.cell 0, h.cell 1, h.cell 2, h.cell 3⟩
  | 1, _ => exact ⟨h.cell 4, h.cell 5, h.cell 6, h.cell 7⟩

set_option maxRecDepth 100000 in
set_option maxHeartbeats 1000000 in
theorem awake_any (w : World) : Calls Try.prog 9 #[] w fun e w' => e = .returned (.bool true) ∧ Below w.heap.size w w' := by
  go_enter Try.func9, Try.ntmps9
  go_wp2_with fail
  refine (kd_any _).mono ?_
  rintro e w1 ⟨rfl, b1⟩
  go_wp2_with fail
  refine (cost_any 2 2 0 0 100 4 _).mono ?_
  rintro e w2 ⟨rfl, b2⟩
  rw [c1V, c1E]
  have B2 := below_chain b1 b2 b1.size
  clear b1 b2
  go_wp2_with fail
  refine (cost_any 5 8 2 4 100 4 _).mono ?_
  rintro e w3 ⟨rfl, b3⟩
  rw [c2V, c2E]
  have B3 := below_chain B2 b3 B2.size
  clear B2 b3
  go_wp2_with fail
  refine (kd_any _).mono ?_
  rintro e w4 ⟨rfl, b4⟩
  have B4 := below_chain B3 b4 B3.size
  clear B3 b4
  go_wp2_with fail
  refine (choose_any _ l2 2 100 4 3 2 _ (specs_l2 _ _)).mono ?_
  rintro e w5 ⟨rfl, b5⟩
  rw [c3V, c3E]
  have B5 := below_chain (B4.alloc B4.size _) b5 (by have := B4.size; simp; omega)
  clear B4 b5
  go_wp2_with fail
  refine (kd_any _).mono ?_
  rintro e w6 ⟨rfl, b6⟩
  have B6 := below_chain B5 b6 B5.size
  clear B5 b6
  go_wp2_with fail
  refine (budget_any 2 2 0 0 100 _ [1] 1 1 2 7 _ (Row.of_blk (t := 3) (Blk.new _ _ _))).mono ?_
  rintro e w7 ⟨rfl, b7⟩
  rw [c4V, c4E]
  have B7 := below_chain (B6.alloc B6.size _) b7 (by have := B6.size; simp; omega)
  clear B6 b7
  go_wp2_with fail
  refine (query_any _ [1] 1 1 1 3 0 _ (Row.of_blk (t := 3) (Blk.new _ _ _))).mono ?_
  rintro e w8 ⟨rfl, b8⟩
  rw [c5E]
  have B8 := below_chain (B7.alloc B7.size _) b8 (by have := B7.size; simp; omega)
  clear B7 b8
  go_wp2
  go_ret
  exact ⟨rfl, B8⟩
end Go.Proofs.Ytnhplinlibegnaa
