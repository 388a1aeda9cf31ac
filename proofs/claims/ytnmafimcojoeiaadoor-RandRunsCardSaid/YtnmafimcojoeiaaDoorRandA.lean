/- The contracts of package rand's small functions: New, Clone, may, Next, Below. -/
import Derived.Test.YtnmafimcojoeiaaDoorProg
import Derived.Test.YtnmafimcojoeiaaDoorRandPure
import Derived.Test.YtnmafimcojoeiaaDoorMem
import Derived.WalkKit
import Derived.KernelRfl
import Derived.Lib.Hide
namespace Go.Proofs.YtnmafimcojoeiaaDoor
open Go.RowKit

theorem new_any (n : Int) (w : World) : Calls Tryd.prog 6 #[.int .u64 n] w fun e w' => e = .returned (.pointer (some ⟨w.heap.size, 0, none⟩)) ∧ w.alloc (.cells #[.int .u64 n] 46) = w' := by
  go_enter Tryd.func6, Tryd.ntmps6
  go_wp2
  go_ret
  exact ⟨rfl, rfl⟩

theorem next_any (b o : Nat) (n : Int) (w : World) (hc : w.cell? ⟨b, o, none⟩ = some (.int .u64 n)) (hf : w.frozen? ⟨b, o, none⟩ = false) :
   Calls Tryd.prog 9 #[.pointer (some ⟨b, o, none⟩)] w fun e w' => e = .returned (.int .u64 (draw n)) ∧ w.setCell ⟨b, o, none⟩ (.int .u64 (adv n)) = w' := by
  go_enter Tryd.func9, Tryd.ntmps9
  go_wp2
  go_ret
  exact ⟨rfl, rfl⟩

theorem next_nil (w : World) :
   Calls Tryd.prog 9 #[.pointer none] w fun e w' => e = .returned (.int .u64 0) ∧ w = w' := by
  go_enter Tryd.func9, Tryd.ntmps9
  go_wp2
  go_ret
  exact ⟨rfl, rfl⟩

theorem clone_any (b o : Nat) (n : Int) (w : World) (hc : w.cell? ⟨b, o, none⟩ = some (.int .u64 n)) :
   Calls Tryd.prog 12 #[.pointer (some ⟨b, o, none⟩)] w fun e w' => e = .returned (.pointer (some ⟨w.heap.size, 0, none⟩)) ∧ w.alloc (.cells #[.int .u64 n] 46) = w' := by
  go_enter Tryd.func12, Tryd.ntmps12
  go_wp2
  go_ret
  exact ⟨rfl, rfl⟩

theorem clone_nil (w : World) :
   Calls Tryd.prog 12 #[.pointer none] w fun e w' => e = .returned (.pointer none) ∧ w = w' := by
  go_enter Tryd.func12, Tryd.ntmps12
  go_wp2
  go_ret
  exact ⟨rfl, rfl⟩

theorem may_nil (n f t : Int) (w : World) : Calls Tryd.prog 15 #[.pointer none, .int .i64 n, .int .i64 f, .int .i64 t] w fun e w' => e = .returned (.int .i64 3) ∧ w = w' := by
  go_enter Tryd.func15, Tryd.ntmps15
  go_wp2
  go_ret
  exact ⟨rfl, rfl⟩
theorem may_ok (a : Addr) (n f t : Int) (w : World) (h1 : f ≤ n) (h2 : n ≤ t) : Calls Tryd.prog 15 #[.pointer (some a), .int .i64 n, .int .i64 f, .int .i64 t] w fun e w' => e = .returned (.int .i64 0) ∧ w = w' := by
  go_enter Tryd.func15, Tryd.ntmps15
  go_wp2
  go_ret
  exact ⟨rfl, rfl⟩
theorem may_bad (a : Addr) (n f t : Int) (w : World) (h : n < f ∨ t < n) : Calls Tryd.prog 15 #[.pointer (some a), .int .i64 n, .int .i64 f, .int .i64 t] w fun e w' => e = .returned (.int .i64 1) ∧ w = w' := by
  rcases h with h | h
  · go_enter Tryd.func15, Tryd.ntmps15
    go_wp2
    go_ret
    exact ⟨rfl, rfl⟩
  · by_cases h' : n < f
    · go_enter Tryd.func15, Tryd.ntmps15
      go_wp2
      go_ret
      exact ⟨rfl, rfl⟩
    · go_enter Tryd.func15, Tryd.ntmps15
      go_wp2
      go_ret
      exact ⟨rfl, rfl⟩

theorem below_nil (n : Int) (w : World) : Calls Tryd.prog 7 #[.pointer none, .int .i64 n] w fun e w' => e = .returned (.tuple #[.int .i64 0, .int .i64 3]) ∧ w = w' := by
  go_enter Tryd.func7, Tryd.ntmps7
  go_wp2_with (go_at_call 15; refine (may_nil _ _ _ _).mono ?_; rintro e w' ⟨rfl, rfl⟩)
  go_ret2
  exact ⟨rfl, rfl⟩
theorem below_bad (a : Addr) (n : Int) (w : World) (h : n < 1 ∨ 1000000000 < n) : Calls Tryd.prog 7 #[.pointer (some a), .int .i64 n] w fun e w' => e = .returned (.tuple #[.int .i64 0, .int .i64 1]) ∧ w = w' := by
  go_enter Tryd.func7, Tryd.ntmps7
  go_wp2_with (go_at_call 15; refine (may_bad _ _ _ _ _ h).mono ?_; rintro e w' ⟨rfl, rfl⟩)
  go_ret2
  exact ⟨rfl, rfl⟩
/-- A draw, its number held behind a letter. -/
theorem next_some (b o : Nat) (s : Int) (w : World) (hc : w.cell? ⟨b, o, none⟩ = some (.int .u64 s)) (hf : w.frozen? ⟨b, o, none⟩ = false) :
   Calls Tryd.prog 9 #[.pointer (some ⟨b, o, none⟩)] w fun e w' => ∃ D, Hid (draw s = D) ∧ 0 ≤ D ∧ D ≤ 18446744073709551615 ∧ e = .returned (.int .u64 D) ∧ w.setCell ⟨b, o, none⟩ (.int .u64 (adv s)) = w' :=
  (next_any b o s w hc hf).mono fun _ _ ⟨he, hw⟩ => ⟨_, Lib.hid rfl, (draw_range s).1, (draw_range s).2, he, hw⟩
theorem below_ok (b o : Nat) (s n : Int) (w : World) (hc : w.cell? ⟨b, o, none⟩ = some (.int .u64 s)) (hf : w.frozen? ⟨b, o, none⟩ = false) (h1 : 1 ≤ n) (h2 : n ≤ 1000000000) :
    Calls Tryd.prog 7 #[.pointer (some ⟨b, o, none⟩), .int .i64 n] w fun e w' => e = .returned (.tuple #[.int .i64 (draw s % n), .int .i64 0]) ∧ w.setCell ⟨b, o, none⟩ (.int .u64 (adv s)) = w' := by
  go_enter Tryd.func7, Tryd.ntmps7
  go_wp2_with (first | (go_at_call 15; refine (may_ok _ _ _ _ _ h1 h2).mono ?_; rintro e w' ⟨rfl, rfl⟩) | (go_at_call 9; refine (next_some _ _ _ _ hc hf).mono ?_; rintro e w' ⟨D, hD, hD1, hD2, rfl, rfl⟩; have g1 : 0 ≤ D % n := Int.emod_nonneg _ (by omega); have g2 : D % n < n := Int.emod_lt_of_pos _ (by omega)))
  go_ret2
  exact ⟨by rw [hD.out]; rfl, rfl⟩

/-! ### The same, of a source in a block of its own -/
theorem new_src (n : Int) (w : World) : Calls Tryd.prog 6 #[.int .u64 n] w fun e w' => ∃ g, e = .returned (.pointer (some ⟨g, 0, none⟩)) ∧ Blk w' g 46 #[.int .u64 n] ∧ w.heap.size ≤ g ∧ w.grownBy w' none :=
  (new_any n w).mono fun _ _ ⟨he, hw⟩ => ⟨_, he, by rw [← hw]; exact Blk.new w _ _, Nat.le_refl _, by rw [← hw]; exact grown_alloc w _⟩
theorem clone_src (b : Nat) (n : Int) (w : World) (hb : Blk w b 46 #[.int .u64 n]) : Calls Tryd.prog 12 #[.pointer (some ⟨b, 0, none⟩)] w fun e w' => ∃ g, e = .returned (.pointer (some ⟨g, 0, none⟩)) ∧ Blk w' g 46 #[.int .u64 n] ∧ w.heap.size ≤ g ∧ w.grownBy w' none :=
  (clone_any b 0 n w (hb.cell 0)).mono fun _ _ ⟨he, hw⟩ => ⟨_, he, by rw [← hw]; exact Blk.new w _ _, Nat.le_refl _, by rw [← hw]; exact grown_alloc w _⟩
theorem next_src (b : Nat) (n : Int) (w : World) (hb : Blk w b 46 #[.int .u64 n]) : Calls Tryd.prog 9 #[.pointer (some ⟨b, 0, none⟩)] w fun e w' => e = .returned (.int .u64 (draw n)) ∧ Blk w' b 46 #[.int .u64 (adv n)] ∧ w.grownBy w' (some b) :=
  (next_any b 0 n w (hb.cell 0) (hb.frozen 0)).mono fun _ _ ⟨he, hw⟩ => ⟨he, by rw [← hw]; exact hb.set_ 0 _, by rw [← hw]; exact grown_set w ⟨b, 0, none⟩ _⟩
theorem below_src (b : Nat) (n m : Int) (w : World) (hb : Blk w b 46 #[.int .u64 n]) (h1 : 1 ≤ m) (h2 : m ≤ 1000000000) : Calls Tryd.prog 7 #[.pointer (some ⟨b, 0, none⟩), .int .i64 m] w fun e w' =>
    e = .returned (.tuple #[.int .i64 (draw n % m), .int .i64 0]) ∧ Blk w' b 46 #[.int .u64 (adv n)] ∧ w.grownBy w' (some b) :=
  (below_ok b 0 n m w (hb.cell 0) (hb.frozen 0) h1 h2).mono fun _ _ ⟨he, hw⟩ => ⟨he, by rw [← hw]; exact hb.set_ 0 _, by rw [← hw]; exact grown_set w ⟨b, 0, none⟩ _⟩

theorem changes_any (p : Option Addr) (n : Int) (w : World) : Calls Tryd.prog 22 #[.pointer p, .int .i64 n] w fun e w' =>
    e = .returned (.func (.func 23) #[] #[.pointer (some ⟨w.heap.size + 1, 0, none⟩), .pointer (some ⟨w.heap.size, 0, none⟩)]) ∧ (w.alloc (.cells #[.pointer p] 23)).alloc (.cells #[.int .i64 n] 3) = w' := by
  go_enter Tryd.func22, Tryd.ntmps22
  go_wp2
  go_ret
  exact ⟨rfl, rfl⟩

end Go.Proofs.YtnmafimcojoeiaaDoor
