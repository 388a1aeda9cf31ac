/- The contracts of math/bits.TrailingZeros64 (its table where its initialiser lays it) and of package rand's Level. -/
import Derived.Test.YtnmafimcojoeiaaDoorRandA
import Derived.Shelf.Spec.TrailingZeros
import Derived.Lib.TrailingZeros
import Derived.WalkKit
namespace Go.Proofs.YtnmafimcojoeiaaDoor
open Go.RowKit

set_option maxHeartbeats 1000000 in
theorem tz_core (x k idx : Nat) (w : World) (hx0 : ((x : Int) == 0) = false)
    (key : IntKind.u64.wrap (bits BinOp.and IntKind.u64 (x : Int) (IntKind.u64.wrap (-(x : Int))) * 285870213051353865) / 288230376151711744 = (idx : Int))
    (hi : idx < 64) (hk : k < 64) (hcell : w.cell? ⟨0, idx, none⟩ = some (.int .u8 k)) :
    Calls Tryd.prog 16 #[.int .u64 x] w fun e w' => e = .returned (.int .i64 k) ∧ w = w' := by
  go_enter Tryd.func16, Tryd.ntmps16
  go_wp2_with (simp only [key])
  go_ret
  exact ⟨rfl, rfl⟩
theorem tz_zero (w : World) : Calls Tryd.prog 16 #[.int .u64 0] w fun e w' => e = .returned (.int .i64 64) ∧ w = w' := by
  go_enter Tryd.func16, Tryd.ntmps16
  go_wp2
  go_ret
  exact ⟨rfl, rfl⟩

/-- The table lies where its initialiser lays it. -/
def Tab (w : World) : Prop := TabAt 0 Lib.deBruijn64tab w
theorem Tab.keep {w w' : World} (h : Tab w) (hk : ∀ a v, w.cell? a = some v → w'.cell? a = some v) : Tab w' := fun j hj => hk _ _ (h j hj)
theorem Tab.lt {w : World} (h : Tab w) : 0 < w.heap.size := World.block_lt_of_cell? w _ (h 0 (by decide))
theorem Tab.below {w w' : World} (h : Tab w) (hb : Below w.heap.size w w') : Tab w' := h.keep fun _ _ hc => below_cell hb hc
theorem Tab.grown {w w' : World} {row : Option Nat} (h : Tab w) (hb : w.grownBy w' row) (hr : some 0 ≠ row) : Tab w' := fun j hj => hb.cell (h j hj) hr

theorem tz_any (x : Nat) (hx : x < 18446744073709551616) (w : World) (hT : Tab w) :
    Calls Tryd.prog 16 #[.int .u64 x] w fun e w' => e = .returned (.int .i64 (Lib.ctz 64 x)) ∧ w = w' := by
  by_cases hx0 : x = 0
  · subst hx0
    exact tz_zero w
  · obtain ⟨hlow, hk⟩ := Lib.lowest_bit 64 x hx0 hx
    obtain ⟨hi, htab⟩ := Lib.deBruijn64_at _ hk
    have hcell := hT _ hi
    rw [htab] at hcell
    exact tz_core x _ _ w (by simp; omega) (tz64_key x _ hx hx0 hlow) hi hk hcell

theorem level_nil (n : Int) (w : World) : Calls Tryd.prog 10 #[.pointer none, .int .i64 n] w fun e w' => e = .returned (.tuple #[.int .i64 0, .int .i64 3]) ∧ w = w' := by
  go_enter Tryd.func10, Tryd.ntmps10
  go_wp2_with (go_at_call 15; refine (may_nil _ _ _ _).mono ?_; rintro e w' ⟨rfl, rfl⟩)
  go_ret2
  exact ⟨rfl, rfl⟩
theorem level_bad (a : Addr) (n : Int) (w : World) (h : n < 0 ∨ 30 < n) : Calls Tryd.prog 10 #[.pointer (some a), .int .i64 n] w fun e w' => e = .returned (.tuple #[.int .i64 0, .int .i64 1]) ∧ w = w' := by
  go_enter Tryd.func10, Tryd.ntmps10
  go_wp2_with (go_at_call 15; refine (may_bad _ _ _ _ _ h).mono ?_; rintro e w' ⟨rfl, rfl⟩)
  go_ret2
  exact ⟨rfl, rfl⟩

theorem ctzFrom_le : ∀ f x, Lib.ctzFrom f x ≤ f
  | 0, _ => Nat.le_refl _
  | f + 1, x => by
    unfold Lib.ctzFrom
    have := ctzFrom_le f (x / 2)
    split <;> omega
theorem ctz_from (x : Nat) : Lib.ctz 64 x = Lib.ctzFrom 64 x := by
  unfold Lib.ctz
  split
  · rename_i h
    subst h
    decide
  · rfl
theorem ctz_le (x : Nat) : Lib.ctz 64 x ≤ 64 := by rw [ctz_from]; exact ctzFrom_le _ _
/-- The level that a state tells: half of the noughts at the draw's lower end, but most at most. -/
def levelOf (s most : Int) : Int := min ((Lib.ctz 64 (draw s).toNat : Int) / 2) most

theorem level_src (b : Nat) (s n : Int) (w : World) (hb : Blk w b 46 #[.int .u64 s]) (hT : Tab w) (hne : b ≠ 0) (h1 : 0 ≤ n) (h2 : n ≤ 30) :
    Calls Tryd.prog 10 #[.pointer (some ⟨b, 0, none⟩), .int .i64 n] w fun e w' => e = .returned (.tuple #[.int .i64 (levelOf s n), .int .i64 0]) ∧ Blk w' b 46 #[.int .u64 (adv s)] ∧ w.grownBy w' (some b) := by
  have hd := draw_range s
  obtain ⟨x, hx⟩ := Int.eq_ofNat_of_zero_le hd.1
  have hx2 : x < 18446744073709551616 := by omega
  have hle := ctz_le x
  go_enter Tryd.func10, Tryd.ntmps10
  go_wp2_with fail
  refine (may_ok _ _ _ _ _ h1 h2).mono ?_
  rintro e w' ⟨rfl, rfl⟩
  go_wp2_with fail
  refine (next_src _ _ _ hb).mono ?_
  rintro e w1 ⟨rfl, b1, f1⟩
  rw [hx]
  have T1 := hT.grown f1 (by simp; omega)
  go_wp2_with fail
  refine (tz_any _ hx2 _ T1).mono ?_
  rintro e w2 ⟨rfl, rfl⟩
  have hx' := Lib.hid hx
  clear hx
  have hv : (draw s).toNat = x := by rw [hx'.out]; rfl
  have hv' := Lib.hid hv
  clear hv
  clear hd
  go_wp2
  all_goals
    go_ret2
    refine ⟨?_, b1, f1⟩
    unfold levelOf
    rw [hv'.out]
  · rw [Int.min_eq_right (by omega)]
    rfl
  · rw [Int.min_eq_left (by omega)]
    rfl

theorem levelOf_range (s n : Int) (h : 0 ≤ n) : 0 ≤ levelOf s n ∧ levelOf s n ≤ n ∧ levelOf s n ≤ 32 := by
  have := ctz_le (draw s).toNat
  unfold levelOf
  omega
end Go.Proofs.YtnmafimcojoeiaaDoor
