
/- The contracts of wide.Mul and wide.Cmp. -/
import Derived.Test.YtoglemdooaiddaaWideAddk
import Derived.Deep.QuietTactic
import Derived.BigQuiet
namespace Go.Proofs.Ytoglemdooaiddaa
open Go.RowKit
set_option linter.unusedVariables false

theorem mul_any (x y : Nat) (hx : x < 18446744073709551616) (hy : y < 18446744073709551616) (w : World) :
    Calls Try.prog 61 #[.int .u64 (x : Int), .int .u64 (y : Int)] w fun e w' => e = .returned (num (x * y)) ∧ Below w.heap.size w w' := by
  unfold num wv
  go_enter Try.func61, Try.ntmps61
  go_wp2_with (go_at_call 62; refine (Try.bits_Mul64 x y hx hy _).mono ?_; rintro e w' ⟨rfl, rfl⟩)
  go_returns
  exact ⟨rfl, (Below.refl _ _).alloc (Nat.le_refl _) _⟩

def cmpN (a b : Nat) : Int := if a = b then 0 else if a < b then -1 else 1
def CmpPost (w : World) (r : Int) (e : Ending) (w' : World) : Prop := e = .returned (.int .i64 r) ∧ Below w.heap.size w w'

set_option maxRecDepth 100000 in
theorem cmp_same (h l : Nat) (w : World) : Calls Try.prog 50 #[wv h l, wv h l] w (CmpPost w 0) := by
  unfold wv
  go_enter Try.func50, Try.ntmps50
  go_wp2
  go_ret
  exact ⟨rfl, (((Below.refl _ _).alloc (Nat.le_refl _) _).alloc (by simp) _)⟩
set_option maxRecDepth 100000 in
theorem cmp_hi (ah al bh bl : Nat) (h : ah < bh) (w : World) : Calls Try.prog 50 #[wv ah al, wv bh bl] w (CmpPost w (-1)) := by
  have f1 : ((ah : Int) == (bh : Int)) = false := by simp; omega
  have f2 : (ah : Int) < (bh : Int) := by omega
  unfold wv
  go_enter Try.func50, Try.ntmps50
  go_wp2
  go_ret
  exact ⟨rfl, (((Below.refl _ _).alloc (Nat.le_refl _) _).alloc (by simp) _)⟩
set_option maxRecDepth 100000 in
theorem cmp_hi2 (ah al bh bl : Nat) (h : bh < ah) (w : World) : Calls Try.prog 50 #[wv ah al, wv bh bl] w (CmpPost w 1) := by
  have f1 : ((ah : Int) == (bh : Int)) = false := by simp; omega
  have f2 : (bh : Int) ≤ (ah : Int) := by omega
  unfold wv
  go_enter Try.func50, Try.ntmps50
  go_wp2
  go_ret
  exact ⟨rfl, (((Below.refl _ _).alloc (Nat.le_refl _) _).alloc (by simp) _)⟩
set_option maxRecDepth 100000 in
theorem cmp_lo (h al bl : Nat) (hl : al < bl) (w : World) : Calls Try.prog 50 #[wv h al, wv h bl] w (CmpPost w (-1)) := by
  have f1 : ((al : Int) == (bl : Int)) = false := by simp; omega
  have f2 : (al : Int) < (bl : Int) := by omega
  unfold wv
  go_enter Try.func50, Try.ntmps50
  go_wp2
  go_ret
  exact ⟨rfl, (((Below.refl _ _).alloc (Nat.le_refl _) _).alloc (by simp) _)⟩
set_option maxRecDepth 100000 in
theorem cmp_lo2 (h al bl : Nat) (hl : bl < al) (w : World) : Calls Try.prog 50 #[wv h al, wv h bl] w (CmpPost w 1) := by
  have f1 : ((al : Int) == (bl : Int)) = false := by simp; omega
  have f2 : (bl : Int) ≤ (al : Int) := by omega
  unfold wv
  go_enter Try.func50, Try.ntmps50
  go_wp2
  go_ret
  exact ⟨rfl, (((Below.refl _ _).alloc (Nat.le_refl _) _).alloc (by simp) _)⟩
theorem cmp_any (a b : Nat) (w : World) : Calls Try.prog 50 #[num a, num b] w (CmpPost w (cmpN a b)) := by
  by_cases h : a = b
  · subst h
    rw [cmpN, if_pos rfl]
    exact cmp_same _ _ w
  · rw [cmpN, if_neg h]
    unfold num
    by_cases h1 : a / 18446744073709551616 < b / 18446744073709551616
    · rw [if_pos (by omega)]; exact cmp_hi _ _ _ _ h1 w
    · by_cases h2 : b / 18446744073709551616 < a / 18446744073709551616
      · rw [if_neg (by omega)]; exact cmp_hi2 _ _ _ _ h2 w
      · have e : a / 18446744073709551616 = b / 18446744073709551616 := by omega
        rw [e]
        by_cases h3 : a < b
        · rw [if_pos h3]; exact cmp_lo _ _ _ (by omega) w
        · rw [if_neg h3]; exact cmp_lo2 _ _ _ (by omega) w
end Go.Proofs.Ytoglemdooaiddaa
