
/- The contracts of package rand's small functions: New, Clone, may, Next, Below. -/
import Derived.Test.YtoglemdooaiddaaProg
import Derived.Test.YtoglemdooaiddaaRandPure
import Derived.Test.YtoglemdooaiddaaMem
import Derived.WalkKit
import Derived.KernelRfl
import Derived.Lib.Hide
namespace Go.Proofs.Ytoglemdooaiddaa
open Go.RowKit

theorem new_any (n : Int) (w : World) : Calls Try.prog 25 #[.int .u64 n] w fun e w' => e = .returned (.pointer (some ⟨w.heap.size, 0, none⟩)) ∧ w.alloc (.cells #[.int .u64 n] 70) = w' := by
  go_enter Try.func25, Try.ntmps25
  go_wp2
  go_ret
  exact ⟨rfl, rfl⟩

theorem next_any (b o : Nat) (n : Int) (w : World) (hc : w.cell? ⟨b, o, none⟩ = some (.int .u64 n)) (hf : w.frozen? ⟨b, o, none⟩ = false) :
   Calls Try.prog 57 #[.pointer (some ⟨b, o, none⟩)] w fun e w' => e = .returned (.int .u64 (draw n)) ∧ w.setCell ⟨b, o, none⟩ (.int .u64 (adv n)) = w' := by
  go_enter Try.func57, Try.ntmps57
  go_wp2
  go_ret
  exact ⟨rfl, rfl⟩

theorem next_nil (w : World) :
   Calls Try.prog 57 #[.pointer none] w fun e w' => e = .returned (.int .u64 0) ∧ w = w' := by
  go_enter Try.func57, Try.ntmps57
  go_wp2
  go_ret
  exact ⟨rfl, rfl⟩

theorem may_nil (n f t : Int) (w : World) : Calls Try.prog 47 #[.pointer none, .int .i64 n, .int .i64 f, .int .i64 t] w fun e w' => e = .returned (.int .i64 3) ∧ w = w' := by
  go_enter Try.func47, Try.ntmps47
  go_wp2
  go_ret
  exact ⟨rfl, rfl⟩
theorem may_ok (a : Addr) (n f t : Int) (w : World) (h1 : f ≤ n) (h2 : n ≤ t) : Calls Try.prog 47 #[.pointer (some a), .int .i64 n, .int .i64 f, .int .i64 t] w fun e w' => e = .returned (.int .i64 0) ∧ w = w' := by
  go_enter Try.func47, Try.ntmps47
  go_wp2
  go_ret
  exact ⟨rfl, rfl⟩
theorem may_bad (a : Addr) (n f t : Int) (w : World) (h : n < f ∨ t < n) : Calls Try.prog 47 #[.pointer (some a), .int .i64 n, .int .i64 f, .int .i64 t] w fun e w' => e = .returned (.int .i64 1) ∧ w = w' := by
  rcases h with h | h
  · go_enter Try.func47, Try.ntmps47
    go_wp2
    go_ret
    exact ⟨rfl, rfl⟩
  · by_cases h' : n < f
    · go_enter Try.func47, Try.ntmps47
      go_wp2
      go_ret
      exact ⟨rfl, rfl⟩
    · go_enter Try.func47, Try.ntmps47
      go_wp2
      go_ret
      exact ⟨rfl, rfl⟩

/-- A draw, its number held behind a letter. -/
theorem next_some (b o : Nat) (s : Int) (w : World) (hc : w.cell? ⟨b, o, none⟩ = some (.int .u64 s)) (hf : w.frozen? ⟨b, o, none⟩ = false) :
   Calls Try.prog 57 #[.pointer (some ⟨b, o, none⟩)] w fun e w' => ∃ D, Hid (draw s = D) ∧ 0 ≤ D ∧ D ≤ 18446744073709551615 ∧ e = .returned (.int .u64 D) ∧ w.setCell ⟨b, o, none⟩ (.int .u64 (adv s)) = w' :=
  (next_any b o s w hc hf).mono fun _ _ ⟨he, hw⟩ => ⟨_, Lib.hid rfl, (draw_range s).1, (draw_range s).2, he, hw⟩
/-! ### The same, of a source in a block of its own -/
theorem new_src (n : Int) (w : World) : Calls Try.prog 25 #[.int .u64 n] w fun e w' => ∃ g, e = .returned (.pointer (some ⟨g, 0, none⟩)) ∧ Blk w' g 70 #[.int .u64 n] ∧ w.heap.size ≤ g ∧ w.grownBy w' none :=
  (new_any n w).mono fun _ _ ⟨he, hw⟩ => ⟨_, he, by rw [← hw]; exact Blk.new w _ _, Nat.le_refl _, by rw [← hw]; exact grown_alloc w _⟩
theorem next_src (b : Nat) (n : Int) (w : World) (hb : Blk w b 70 #[.int .u64 n]) : Calls Try.prog 57 #[.pointer (some ⟨b, 0, none⟩)] w fun e w' => e = .returned (.int .u64 (draw n)) ∧ Blk w' b 70 #[.int .u64 (adv n)] ∧ w.grownBy w' (some b) :=
  (next_any b 0 n w (hb.cell 0) (hb.frozen 0)).mono fun _ _ ⟨he, hw⟩ => ⟨he, by rw [← hw]; exact hb.set_ 0 _, by rw [← hw]; exact grown_set w ⟨b, 0, none⟩ _⟩
theorem changes_any (p : Option Addr) (n : Int) (w : World) : Calls Try.prog 48 #[.pointer p, .int .i64 n] w fun e w' =>
    e = .returned (.func (.func 56) #[] #[.pointer (some ⟨w.heap.size + 1, 0, none⟩), .pointer (some ⟨w.heap.size, 0, none⟩)]) ∧ (w.alloc (.cells #[.pointer p] 48)).alloc (.cells #[.int .i64 n] 3) = w' := by
  go_enter Try.func48, Try.ntmps48
  go_wp2
  go_ret
  exact ⟨rfl, rfl⟩

end Go.Proofs.Ytoglemdooaiddaa
