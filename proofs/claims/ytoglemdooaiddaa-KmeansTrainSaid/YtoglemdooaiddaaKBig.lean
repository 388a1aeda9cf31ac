/- The contract of theodolitelaw06.big: what is not big is short. -/
import Derived.Test.YtoglemdooaiddaaKAwake
namespace Go.Proofs.Ytoglemdooaiddaa
open Go.RowKit
set_option linter.unusedVariables false

def totTo (l : List (List Int)) : Nat → Nat
  | 0 => l.length
  | k + 1 => totTo l k + (mrow l k).length
theorem totTo_le (l : List (List Int)) (k : Nat) : l.length ≤ totTo l k ∧ ∀ i, i < k → (mrow l i).length ≤ totTo l k := by
  induction k with
  | zero => exact ⟨Nat.le_refl _, fun i hi => by omega⟩
  | succ k ih =>
    rw [totTo]
    refine ⟨by omega, fun i hi => ?_⟩
    by_cases h : i = k
    · subst h; omega
    · have := ih.2 i (by omega); omega
/-- Rows that a machine can hold. -/
def RowsFit (l : List (List Int)) : Prop := ∀ i, i < l.length → (mrow l i).length ≤ 140737488355328
/-- Lists that are looked at. -/
def Short (l : List (List Int)) : Prop := l.length ≤ 65536 ∧ ∀ i, i < l.length → (mrow l i).length ≤ 65536
theorem wrap_tot (n m : Nat) (hn : (n : Int) ≤ 65536) (hm : m ≤ 140737488355328) : wrap64 ((n : Int) + (m : Int)) = ((n + m : Nat) : Int) := by
  simp only [wrap64]
  omega
def BigPost (w : World) (l : List (List Int)) (e : Ending) (w' : World) : Prop := ∃ b : Bool, e = .returned (.bool b) ∧ w = w' ∧ (b = false → l.length ≤ 65536 ∧ (RowsFit l → Short l))
/-- What holds at big's loop's head. -/
def BigI (l : List (List Int)) (k : Nat) (t : Int) : Prop := (k = 0 → t = (l.length : Int)) ∧ (0 < k → l.length ≤ 65536) ∧ (RowsFit l → t = (totTo l k : Int))
theorem BigI.start (l : List (List Int)) : BigI l 0 (l.length : Int) := ⟨fun _ => rfl, fun h => by omega, fun _ => rfl⟩
theorem BigI.step {l : List (List Int)} {k : Nat} {t : Int} (h : BigI l k t) (hk : k < l.length) (ht : t ≤ 65536) : BigI l (k + 1) (wrap64 (t + ((mrow l k).length : Int))) := by
  refine ⟨fun h0 => by omega, fun _ => ?_, fun hf => ?_⟩
  · by_cases h0 : k = 0
    · have := h.1 h0; omega
    · exact h.2.1 (by omega)
  · have e := h.2.2 hf
    subst e
    rw [wrap_tot _ _ ht (hf k hk), totTo]
theorem BigI.next {l : List (List Int)} {k : Nat} {t : Int} (h : BigI l k t) (hk : k < l.length) (ht : t ≤ 65536) : wrap64 ((k : Int) + 1) = ((k + 1 : Nat) : Int) := by
  have : l.length ≤ 65536 := by
    by_cases h0 : k = 0
    · have := h.1 h0; omega
    · exact h.2.1 (by omega)
  simp only [wrap64]
  omega
theorem BigI.done {l : List (List Int)} {k : Nat} {t : Int} (h : BigI l k t) (hk : k = l.length) (ht : t ≤ 65536) : l.length ≤ 65536 ∧ (RowsFit l → Short l) := by
  refine ⟨?_, fun hf => ?_⟩
  · by_cases h0 : k = 0
    · omega
    · exact h.2.1 (by omega)
  · have e := h.2.2 hf
    have := totTo_le l k
    refine ⟨by omega, fun i hi => ?_⟩
    have := this.2 i (by omega)
    omega
set_option maxRecDepth 200000 in
set_option maxHeartbeats 4000000 in
theorem big_any (A : Option Addr) (l : List (List Int)) (c : Nat) (w : World) (hm : Mat w A l) :
    Calls Try.prog 8 #[.slice A l.length c] w (BigPost w l) := by
  go_enter Try.func8, Try.ntmps8
  go_wp2_with fail
  go_loopw [3, 4] (fun n i wr => wr = w ∧ ∃ (k : Nat) (t : Int), k ≤ l.length ∧ i = .int .i64 (k : Int) ∧ n = .int .i64 t ∧ Hid (BigI l k t)) (fun _ i _ => l.length - (intOf i).toNat)
  case atStart => exact ⟨rfl, 0, l.length, Nat.zero_le _, rfl, rfl, Lib.hid (BigI.start l)⟩
  case round =>
    obtain ⟨rfl, k, t, hk, rfl, rfl, ht⟩ := hrel
    by_cases hlt : k < l.length
    · have p0 : (0 : Int) ≤ (k : Int) := by omega
      have p1 : (k : Int) < (l.length : Int) := by omega
      by_cases hs : t ≤ 65536
      · have hs1 : decide (t ≤ 65536) = true := decide_eq_true hs
        obtain ⟨g, o, R, rc, rfl, hc1, hR⟩ := hm k hlt
        have ht2 := Lib.hid (ht.out.step hlt hs)
        obtain ⟨k2, hk2⟩ : ∃ k2, k + 1 = k2 := ⟨_, rfl⟩
        have hwk := ht.out.next hlt hs
        rw [hk2] at hwk ht2
        generalize (mrow l k).length = m at *
        obtain ⟨t2, hw⟩ : ∃ t2, wrap64 (t + (m : Int)) = t2 := ⟨_, rfl⟩
        rw [hw] at ht2
        clear hs
        go_wp2_with fail
        rw [hwk, hw]
        clear hwk hw
        exact ⟨⟨trivial, k2, t2, by omega, rfl, rfl, ht2⟩, by simp [intOf]; omega⟩
      · have hs2 : 65536 < t := by omega
        clear hs
        go_wp2_with fail
        go_ret
        exact ⟨true, rfl, rfl, fun h => by cases h⟩
    · obtain rfl : k = l.length := by omega
      by_cases hs : t ≤ 65536
      · have hD := Lib.hid (ht.out.done rfl hs)
        have hs1 : decide (65536 < t) = false := decide_eq_false (by omega)
        clear hs
        go_wp2_with fail
        go_ret
        exact ⟨false, rfl, rfl, fun _ => hD.out⟩
      · have hs2 : 65536 < t := by omega
        clear hs
        go_wp2_with fail
        go_ret
        exact ⟨true, rfl, rfl, fun h => by cases h⟩
end Go.Proofs.Ytoglemdooaiddaa
