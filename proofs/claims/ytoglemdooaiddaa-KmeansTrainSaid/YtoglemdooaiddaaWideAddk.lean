
/- The contracts of wide.Add and wide.Sub. -/
import Derived.Test.YtoglemdooaiddaaMem
import Derived.Test.YtoglemdooaiddaaBits64k
import Derived.WalkKit
import Derived.Handy
import Derived.Shelf.Spec.BitsCarry
namespace Go.Proofs.Ytoglemdooaiddaa
open Go.RowKit
set_option linter.unusedVariables false

theorem add64_run (x y c : Nat) (hc : c ≤ 1) (w : World) :
    (callFunc 54 #[.int .u64 x, .int .u64 y, .int .u64 c]).run Try.prog w =
      .ok (.value (.tuple #[.int .u64 (((x + y + c) % 18446744073709551616 : Nat) : Int), .int .u64 (((x + y + c) / 18446744073709551616 : Nat) : Int)])) w := by
  rw [run_callFunc_extern Try.func54 (by kernel_rfl) (by kernel_rfl) (by kernel_rfl) (e := add64Entry) (by kernel_rfl), run_add64 x y c (by omega) (by omega) (by omega) (by omega)]
  simp only [Result.andThen]
  congr 5 <;> omega
/-- A Wide, of its halves. -/
def wv (h l : Nat) : Value := .agg #[.int .u64 (h : Int), .int .u64 (l : Int)]
def WidePost (w : World) (h l : Nat) (f : Int) (e : Ending) (w' : World) : Prop := e = .returned (.tuple #[wv h l, .int .i64 f]) ∧ Below w.heap.size w w'

set_option maxRecDepth 100000 in
theorem add_over (ah al bh bl : Nat) (h1 : ah < 18446744073709551616) (h2 : al < 18446744073709551616) (h3 : bh < 18446744073709551616) (h4 : bl < 18446744073709551616) (h : 18446744073709551616 ≤ ah + bh + (al + bl) / 18446744073709551616) (w : World) :
    Calls Try.prog 41 #[wv ah al, wv bh bl] w (WidePost w 0 0 10) := by
  have hc : (al + bl) / 18446744073709551616 ≤ 1 := by omega
  have e0 := add64_run al bl 0 (by omega)
  rw [Nat.add_zero] at e0
  generalize (al + bl) / 18446744073709551616 = c at *
  generalize (al + bl) % 18446744073709551616 = lo at *
  have e1 := add64_run ah bh c hc
  have hz : (ah + bh + c) / 18446744073709551616 = 1 := by omega
  rw [hz] at e1
  generalize (ah + bh + c) % 18446744073709551616 = hi at *
  simp only [Int.natCast_zero, Int.natCast_one] at e0 e1
  clear h1 h2 h3 h4 hc hz h
  unfold wv
  go_enter Try.func41, Try.ntmps41
  go_wp2
  go_returns
  exact ⟨rfl, (((Below.refl _ _).alloc (Nat.le_refl _) _).alloc (by simp) _).alloc (by simp; omega) _⟩

set_option maxRecDepth 100000 in
theorem add_fits (ah al bh bl : Nat) (h1 : ah < 18446744073709551616) (h2 : al < 18446744073709551616) (h3 : bh < 18446744073709551616) (h4 : bl < 18446744073709551616) (h : ah + bh + (al + bl) / 18446744073709551616 < 18446744073709551616) (w : World) :
    Calls Try.prog 41 #[wv ah al, wv bh bl] w (WidePost w (ah + bh + (al + bl) / 18446744073709551616) ((al + bl) % 18446744073709551616) 0) := by
  have hc : (al + bl) / 18446744073709551616 ≤ 1 := by omega
  have e0 := add64_run al bl 0 (by omega)
  rw [Nat.add_zero] at e0
  generalize (al + bl) / 18446744073709551616 = c at *
  generalize (al + bl) % 18446744073709551616 = lo at *
  have e1 := add64_run ah bh c hc
  have hz : (ah + bh + c) / 18446744073709551616 = 0 := by omega
  have hm : (ah + bh + c) % 18446744073709551616 = ah + bh + c := by omega
  rw [hz, hm] at e1
  generalize ah + bh + c = hi at *
  simp only [Int.natCast_zero] at e0 e1
  clear h1 h2 h3 h4 hc hz hm h
  unfold wv
  go_enter Try.func41, Try.ntmps41
  go_wp2
  go_returns
  exact ⟨rfl, (((Below.refl _ _).alloc (Nat.le_refl _) _).alloc (by simp) _).alloc (by simp; omega) _⟩

/-- A number as a Wide. -/
def num (n : Nat) : Value := wv (n / 18446744073709551616) (n % 18446744073709551616)
def sumN (a b : Nat) : Nat := if a + b < 340282366920938463463374607431768211456 then a + b else 0
def sumE (a b : Nat) : Int := if a + b < 340282366920938463463374607431768211456 then 0 else 10
def difN (a b : Nat) : Nat := if b ≤ a then a - b else 0
def difE (a b : Nat) : Int := if b ≤ a then 0 else 10
def NumPost (w : World) (n : Nat) (f : Int) (e : Ending) (w' : World) : Prop := e = .returned (.tuple #[num n, .int .i64 f]) ∧ Below w.heap.size w w'

theorem add_any (a b : Nat) (ha : a < 340282366920938463463374607431768211456) (hb : b < 340282366920938463463374607431768211456) (w : World) :
    Calls Try.prog 41 #[num a, num b] w (NumPost w (sumN a b) (sumE a b)) := by
  unfold num
  by_cases h : a + b < 340282366920938463463374607431768211456
  · rw [sumN, sumE, if_pos h, if_pos h]
    refine (add_fits _ _ _ _ (by omega) (by omega) (by omega) (by omega) (by omega) w).mono ?_
    rintro e w' ⟨rfl, hB⟩
    refine ⟨?_, hB⟩
    have e1 : a / 18446744073709551616 + b / 18446744073709551616 + (a % 18446744073709551616 + b % 18446744073709551616) / 18446744073709551616 = (a + b) / 18446744073709551616 := by omega
    have e2 : (a % 18446744073709551616 + b % 18446744073709551616) % 18446744073709551616 = (a + b) % 18446744073709551616 := by omega
    rw [e1, e2]
    rfl
  · rw [sumN, sumE, if_neg h, if_neg h]
    refine (add_over _ _ _ _ (by omega) (by omega) (by omega) (by omega) (by omega) w).mono ?_
    rintro e w' ⟨rfl, hB⟩
    exact ⟨rfl, hB⟩

end Go.Proofs.Ytoglemdooaiddaa
