/- Plain functions: what a source's state becomes, and the number that it tells. No program in sight. -/
import Derived.WalkKit
import Derived.KernelRfl
namespace Go.Proofs.Ytoglemdooaiddaa

/-- The state behind a draw. -/
def adv (n : Int) : Int := IntKind.u64.wrap (n + 11400714819323198485)
def mix1 (s : Int) : Int := IntKind.u64.wrap (bits .xor .u64 s (s / 1073741824) * 13787848793156543929)
def mix2 (s : Int) : Int := IntKind.u64.wrap (bits .xor .u64 s (s / 134217728) * 10723151780598845931)
/-- The number that a state tells. -/
def mix (s : Int) : Int := bits .xor .u64 (mix2 (mix1 s)) (mix2 (mix1 s) / 2147483648)
/-- The number drawn from a state. -/
def draw (n : Int) : Int := mix (adv n)

theorem wrap_u64_range (n : Int) : 0 ≤ IntKind.u64.wrap n ∧ IntKind.u64.wrap n ≤ 18446744073709551615 := by
  rw [IntKind.wrap_u64]; omega
theorem adv_range (n : Int) : 0 ≤ adv n ∧ adv n ≤ 18446744073709551615 := wrap_u64_range _
theorem bits_u64_range (op : BinOp) (a b : Int) : 0 ≤ bits op .u64 a b ∧ bits op .u64 a b ≤ 18446744073709551615 := by
  unfold bits
  split <;> exact wrap_u64_range _
theorem draw_range (n : Int) : 0 ≤ draw n ∧ draw n ≤ 18446744073709551615 := by unfold draw mix; exact bits_u64_range _ _ _

/-- The numbers at two places change places. -/
def swapL (l : List Int) (i k : Nat) : List Int := (l.set i (l.getD k 0)).set k (l.getD i 0)
theorem swapL_length (l : List Int) (i k : Nat) : (swapL l i k).length = l.length := by simp [swapL]
/-- The exchanges from place i down to place 1; the state behind them. -/
def permLoop : Nat → Int → List Int → List Int × Int
  | 0, s, l => (l, s)
  | i + 1, s, l => permLoop i (adv s) (swapL l (i + 1) (draw s % ((i : Int) + 2)).toNat)
theorem permLoop_step (j : Int) (h : 1 ≤ j) (s : Int) (l : List Int) : permLoop j.toNat s l = permLoop (j - 1).toNat (adv s) (swapL l j.toNat (draw s % (j + 1)).toNat) := by
  obtain ⟨m, rfl⟩ : ∃ m : Nat, j = (m : Int) + 1 := ⟨(j - 1).toNat, by omega⟩
  rw [show ((m : Int) + 1).toNat = m + 1 by omega, show ((m : Int) + 1 - 1).toNat = m by omega, permLoop]
  rw [show ((m : Int) + 1 + 1) = (m : Int) + 2 by omega]
def iota (n : Nat) : List Int := (List.range n).map fun (i : Nat) => (i : Int)
theorem iota_length (n : Nat) : (iota n).length = n := by simp [iota]
/-- The permutation of n that a state tells, and the state behind it. -/
def permOf (s : Int) (n : Nat) : List Int × Int := permLoop (n - 1) s (iota n)
theorem permLoop_length (i : Nat) : ∀ (s : Int) (l : List Int), (permLoop i s l).1.length = l.length := by
  induction i with
  | zero => intro s l; rfl
  | succ i ih => intro s l; rw [permLoop, ih, swapL_length]
theorem permOf_length (s : Int) (n : Nat) : (permOf s n).1.length = n := by rw [permOf, permLoop_length, iota_length]
/-- The first k numbers stand, noughts behind them. -/
def iotaTo (k n : Nat) : List Int := (List.range n).map fun (j : Nat) => if j < k then (j : Int) else 0
theorem iotaTo_length (k n : Nat) : (iotaTo k n).length = n := by simp [iotaTo]
theorem iotaTo_zero (n : Nat) : iotaTo 0 n = List.replicate n 0 := by
  apply List.ext_getElem?
  intro i
  simp [iotaTo]
  by_cases h : i < n <;> simp [h]
theorem iotaTo_full (n : Nat) : iotaTo n n = iota n := by
  unfold iotaTo iota
  apply List.map_congr_left
  intro j hj
  simp at hj
  simp [hj]
theorem iotaTo_succ (k n : Nat) : (iotaTo k n).set k (k : Int) = iotaTo (k + 1) n := by
  apply List.ext_getElem?
  intro i
  simp only [iotaTo, List.getElem?_set, List.length_map, List.length_range]
  by_cases h : k = i
  · subst h
    by_cases hk : k < n <;> simp [hk]
  · by_cases hi : i < n
    · simp [h, hi]
      have : (i < k) ↔ (i < k + 1) := by omega
      simp [this]
    · simp [h, hi]

end Go.Proofs.Ytoglemdooaiddaa
