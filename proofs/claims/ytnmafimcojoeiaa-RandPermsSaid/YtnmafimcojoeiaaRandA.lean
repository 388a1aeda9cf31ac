/- The contracts of package rand's small functions: New, Clone, may, Next, Below. -/
import Derived.Test.YtnmafimcojoeiaaProg
import Derived.Test.YtnmafimcojoeiaaRandPure
import Derived.Test.YtnmafimcojoeiaaMem
import Derived.WalkKit
import Derived.KernelRfl
import Derived.Lib.Hide
namespace Go.Proofs.Ytnmafimcojoeiaa
open Go.RowKit

theorem new_any (n : Int) (w : World) : Calls Try.prog 4 #[.int .u64 n] w fun e w' => e = .returned (.pointer (some ⟨w.heap.size, 0, none⟩)) ∧ w.alloc (.cells #[.int .u64 n] 36) = w' := by
  go_enter Try.func4, Try.ntmps4
  go_wp2
  go_ret
  exact ⟨rfl, rfl⟩

theorem next_any (b o : Nat) (n : Int) (w : World) (hc : w.cell? ⟨b, o, none⟩ = some (.int .u64 n)) (hf : w.frozen? ⟨b, o, none⟩ = false) :
   Calls Try.prog 8 #[.pointer (some ⟨b, o, none⟩)] w fun e w' => e = .returned (.int .u64 (draw n)) ∧ w.setCell ⟨b, o, none⟩ (.int .u64 (adv n)) = w' := by
  go_enter Try.func8, Try.ntmps8
  go_wp2
  go_ret
  exact ⟨rfl, rfl⟩

theorem next_nil (w : World) :
   Calls Try.prog 8 #[.pointer none] w fun e w' => e = .returned (.int .u64 0) ∧ w = w' := by
  go_enter Try.func8, Try.ntmps8
  go_wp2
  go_ret
  exact ⟨rfl, rfl⟩

theorem clone_any (b o : Nat) (n : Int) (w : World) (hc : w.cell? ⟨b, o, none⟩ = some (.int .u64 n)) :
   Calls Try.prog 5 #[.pointer (some ⟨b, o, none⟩)] w fun e w' => e = .returned (.pointer (some ⟨w.heap.size, 0, none⟩)) ∧ w.alloc (.cells #[.int .u64 n] 36) = w' := by
  go_enter Try.func5, Try.ntmps5
  go_wp2
  go_ret
  exact ⟨rfl, rfl⟩

/-- Which error 'may' tells. -/
def mayE (p : Option Addr) (n f t : Int) : Int := if p = none then 3 else if n < f ∨ t < n then 1 else 0

theorem may_nil (n f t : Int) (w : World) : Calls Try.prog 10 #[.pointer none, .int .i64 n, .int .i64 f, .int .i64 t] w fun e w' => e = .returned (.int .i64 3) ∧ w = w' := by
  go_enter Try.func10, Try.ntmps10
  go_wp2
  go_ret
  exact ⟨rfl, rfl⟩
theorem may_ok (a : Addr) (n f t : Int) (w : World) (h1 : f ≤ n) (h2 : n ≤ t) : Calls Try.prog 10 #[.pointer (some a), .int .i64 n, .int .i64 f, .int .i64 t] w fun e w' => e = .returned (.int .i64 0) ∧ w = w' := by
  go_enter Try.func10, Try.ntmps10
  go_wp2
  go_ret
  exact ⟨rfl, rfl⟩
theorem may_bad (a : Addr) (n f t : Int) (w : World) (h : n < f ∨ t < n) : Calls Try.prog 10 #[.pointer (some a), .int .i64 n, .int .i64 f, .int .i64 t] w fun e w' => e = .returned (.int .i64 1) ∧ w = w' := by
  rcases h with h | h
  · go_enter Try.func10, Try.ntmps10
    go_wp2
    go_ret
    exact ⟨rfl, rfl⟩
  · by_cases h' : n < f
    · go_enter Try.func10, Try.ntmps10
      go_wp2
      go_ret
      exact ⟨rfl, rfl⟩
    · go_enter Try.func10, Try.ntmps10
      go_wp2
      go_ret
      exact ⟨rfl, rfl⟩

theorem below_nil (n : Int) (w : World) : Calls Try.prog 12 #[.pointer none, .int .i64 n] w fun e w' => e = .returned (.tuple #[.int .i64 0, .int .i64 3]) ∧ w = w' := by
  go_enter Try.func12, Try.ntmps12
  go_wp2_with (go_at_call 10; refine (may_nil _ _ _ _).mono ?_; rintro e w' ⟨rfl, rfl⟩)
  go_ret2
  exact ⟨rfl, rfl⟩
theorem below_bad (a : Addr) (n : Int) (w : World) (h : n < 1 ∨ 1000000000 < n) : Calls Try.prog 12 #[.pointer (some a), .int .i64 n] w fun e w' => e = .returned (.tuple #[.int .i64 0, .int .i64 1]) ∧ w = w' := by
  go_enter Try.func12, Try.ntmps12
  go_wp2_with (go_at_call 10; refine (may_bad _ _ _ _ _ h).mono ?_; rintro e w' ⟨rfl, rfl⟩)
  go_ret2
  exact ⟨rfl, rfl⟩
/-- A draw, its number held behind a letter. -/
theorem next_some (b o : Nat) (s : Int) (w : World) (hc : w.cell? ⟨b, o, none⟩ = some (.int .u64 s)) (hf : w.frozen? ⟨b, o, none⟩ = false) :
   Calls Try.prog 8 #[.pointer (some ⟨b, o, none⟩)] w fun e w' => ∃ D, Hid (draw s = D) ∧ 0 ≤ D ∧ D ≤ 18446744073709551615 ∧ e = .returned (.int .u64 D) ∧ w.setCell ⟨b, o, none⟩ (.int .u64 (adv s)) = w' :=
  (next_any b o s w hc hf).mono fun _ _ ⟨he, hw⟩ => ⟨_, Lib.hid rfl, (draw_range s).1, (draw_range s).2, he, hw⟩
theorem below_ok (b o : Nat) (s n : Int) (w : World) (hc : w.cell? ⟨b, o, none⟩ = some (.int .u64 s)) (hf : w.frozen? ⟨b, o, none⟩ = false) (h1 : 1 ≤ n) (h2 : n ≤ 1000000000) :
    Calls Try.prog 12 #[.pointer (some ⟨b, o, none⟩), .int .i64 n] w fun e w' => e = .returned (.tuple #[.int .i64 (draw s % n), .int .i64 0]) ∧ w.setCell ⟨b, o, none⟩ (.int .u64 (adv s)) = w' := by
  go_enter Try.func12, Try.ntmps12
  go_wp2_with (first | (go_at_call 10; refine (may_ok _ _ _ _ _ h1 h2).mono ?_; rintro e w' ⟨rfl, rfl⟩) | (go_at_call 8; refine (next_some _ _ _ _ hc hf).mono ?_; rintro e w' ⟨D, hD, hD1, hD2, rfl, rfl⟩; have g1 : 0 ≤ D % n := Int.emod_nonneg _ (by omega); have g2 : D % n < n := Int.emod_lt_of_pos _ (by omega)))
  go_ret2
  exact ⟨by rw [hD.out]; rfl, rfl⟩

/-! ### The same, of a source in a block of its own -/
theorem new_src (n : Int) (w : World) : Calls Try.prog 4 #[.int .u64 n] w fun e w' => ∃ g, e = .returned (.pointer (some ⟨g, 0, none⟩)) ∧ Blk w' g 36 #[.int .u64 n] ∧ w.heap.size ≤ g ∧ w.grownBy w' none :=
  (new_any n w).mono fun _ _ ⟨he, hw⟩ => ⟨_, he, by rw [← hw]; exact Blk.new w _ _, Nat.le_refl _, by rw [← hw]; exact grown_alloc w _⟩
theorem clone_src (b : Nat) (n : Int) (w : World) (hb : Blk w b 36 #[.int .u64 n]) : Calls Try.prog 5 #[.pointer (some ⟨b, 0, none⟩)] w fun e w' => ∃ g, e = .returned (.pointer (some ⟨g, 0, none⟩)) ∧ Blk w' g 36 #[.int .u64 n] ∧ w.heap.size ≤ g ∧ w.grownBy w' none :=
  (clone_any b 0 n w (hb.cell 0)).mono fun _ _ ⟨he, hw⟩ => ⟨_, he, by rw [← hw]; exact Blk.new w _ _, Nat.le_refl _, by rw [← hw]; exact grown_alloc w _⟩
theorem next_src (b : Nat) (n : Int) (w : World) (hb : Blk w b 36 #[.int .u64 n]) : Calls Try.prog 8 #[.pointer (some ⟨b, 0, none⟩)] w fun e w' => e = .returned (.int .u64 (draw n)) ∧ Blk w' b 36 #[.int .u64 (adv n)] ∧ w.grownBy w' (some b) :=
  (next_any b 0 n w (hb.cell 0) (hb.frozen 0)).mono fun _ _ ⟨he, hw⟩ => ⟨he, by rw [← hw]; exact hb.set_ 0 _, by rw [← hw]; exact grown_set w ⟨b, 0, none⟩ _⟩
theorem below_src (b : Nat) (n m : Int) (w : World) (hb : Blk w b 36 #[.int .u64 n]) (h1 : 1 ≤ m) (h2 : m ≤ 1000000000) : Calls Try.prog 12 #[.pointer (some ⟨b, 0, none⟩), .int .i64 m] w fun e w' =>
    e = .returned (.tuple #[.int .i64 (draw n % m), .int .i64 0]) ∧ Blk w' b 36 #[.int .u64 (adv n)] ∧ w.grownBy w' (some b) :=
  (below_ok b 0 n m w (hb.cell 0) (hb.frozen 0) h1 h2).mono fun _ _ ⟨he, hw⟩ => ⟨he, by rw [← hw]; exact hb.set_ 0 _, by rw [← hw]; exact grown_set w ⟨b, 0, none⟩ _⟩

theorem changes_any (p : Option Addr) (n : Int) (w : World) : Calls Try.prog 11 #[.pointer p, .int .i64 n] w fun e w' =>
    e = .returned (.func (.func 13) #[] #[.pointer (some ⟨w.heap.size + 1, 0, none⟩), .pointer (some ⟨w.heap.size, 0, none⟩)]) ∧ (w.alloc (.cells #[.pointer p] 23)).alloc (.cells #[.int .i64 n] 3) = w' := by
  go_enter Try.func11, Try.ntmps11
  go_wp2
  go_ret
  exact ⟨rfl, rfl⟩

end Go.Proofs.Ytnmafimcojoeiaa
