/- The contracts of vec.Check and of theodoliteref03.Check: one error. -/
import Derived.Test.YtoglemdooaiddaaProg
import Derived.Test.YtoglemdooaiddaaMem
import Derived.WalkKit
import Derived.Deep.LoopGhost
namespace Go.Proofs.Ytoglemdooaiddaa
open Go.RowKit

def CoordTo (l : List Int) (n : Nat) : Prop := ∀ j, j < n → -2147483647 ≤ nth l j ∧ nth l j ≤ 2147483647
theorem CoordTo.succ {l : List Int} {n : Nat} (h : CoordTo l n) (h0 : -2147483647 ≤ nth l n) (h1 : nth l n ≤ 2147483647) : CoordTo l (n + 1) := fun j hj => by
  by_cases e : j = n
  · subst e; exact ⟨h0, h1⟩
  · exact h j (by omega)
instance (l : List Int) (n : Nat) : Decidable (CoordTo l n) := by unfold CoordTo; infer_instance
/-- The error of a vector in a dimension. -/
def vecE (l : List Int) (d : Int) : Int := if d < 1 ∨ 64 < d ∨ (l.length : Int) ≠ d then 30 else if CoordTo l l.length then 0 else 31

def dimB (n : Int) : Bool := decide (1 ≤ n) && decide (n ≤ 64)
theorem dim_any (n : Int) (w : World) : Calls Try.prog 53 #[.int .i64 n] w fun e w' => e = .returned (.bool (dimB n)) ∧ w = w' := by
  by_cases h1 : 1 ≤ n
  · have hv : dimB n = decide (n ≤ 64) := by simp [dimB, h1]
    rw [hv]
    go_enter Try.func53, Try.ntmps53
    go_wp2
    go_ret
    exact ⟨rfl, rfl⟩
  · have hv : dimB n = false := by simp [dimB, h1]
    rw [hv]
    have h2 : n < 1 := by omega
    go_enter Try.func53, Try.ntmps53
    go_wp2
    go_ret
    exact ⟨rfl, rfl⟩

set_option maxHeartbeats 1000000 in
theorem vec_go (A : Option Addr) (l : List Int) (c : Nat) (hd : 1 ≤ l.length) (hd2 : l.length ≤ 64) (w : World) (h : Row w A l) :
    Calls Try.prog 37 #[.slice A l.length c, .int .i64 (l.length : Int)] w fun e w' => e = .returned (.int .i64 (vecE l l.length)) ∧ w = w' := by
  have p1 : (1 : Int) ≤ (l.length : Int) := by omega
  have p2 : (l.length : Int) ≤ 64 := by omega
  have hB : dimB (l.length : Int) = true := by simp [dimB]; omega
  have hv : vecE l l.length = if CoordTo l l.length then 0 else 31 := by rw [vecE, if_neg (by omega)]
  replace hv := Lib.hid hv
  go_enter Try.func37, Try.ntmps37
  go_wp2_with (go_at_call 53; refine (dim_any _ _).mono ?_; rintro e w' ⟨rfl, rfl⟩; rw [hB])
  go_loopw [18] (fun i wr => wr = w ∧ ∃ k : Nat, k ≤ l.length ∧ i = .int .i64 (k : Int) ∧ CoordTo l k) (fun i _ => l.length - (intOf i).toNat)
  case atStart => exact ⟨rfl, 0, Nat.zero_le _, rfl, fun j hj => absurd hj (by omega)⟩
  case round =>
    obtain ⟨rfl, k, hk, rfl, hC⟩ := hrel
    by_cases hlt : k < l.length
    · obtain ⟨g, o, rfl, hc⟩ := h k hlt
      have q0 : (0 : Int) ≤ (k : Int) := by omega
      have q1 : (k : Int) < (l.length : Int) := by omega
      by_cases b1 : nth l k < -2147483647
      · have hn : ¬ CoordTo l l.length := fun hh => by have := hh k hlt; omega
        rw [if_neg hn] at hv
        clear hn
        go_wp2
        go_ret
        exact ⟨by rw [hv.out]; rfl, rfl⟩
      have b2 : -2147483647 ≤ nth l k := by omega
      clear b1
      by_cases b3 : 2147483647 < nth l k
      · have hn : ¬ CoordTo l l.length := fun hh => by have := hh k hlt; omega
        rw [if_neg hn] at hv
        clear hn
        go_wp2
        go_ret
        exact ⟨by rw [hv.out]; rfl, rfl⟩
      have b4 : nth l k ≤ 2147483647 := by omega
      have hC' := Lib.hid (hC.succ b2 b4)
      clear b3
      go_wp2
      exact ⟨⟨trivial, k + 1, by omega, by go_num, hC'.out⟩, by simp [intOf]; omega⟩
    · have hk' : k = l.length := by omega
      subst hk'
      rw [if_pos hC] at hv
      clear hC
      go_wp2
      go_ret
      exact ⟨by rw [hv.out]; rfl, rfl⟩

theorem vec_bad (A : Option Addr) (l : List Int) (c : Nat) (d : Int) (hd : dimB d = false ∨ (l.length : Int) ≠ d) (w : World) :
    Calls Try.prog 37 #[.slice A l.length c, .int .i64 d] w fun e w' => e = .returned (.int .i64 30) ∧ w = w' := by
  by_cases hB : dimB d = false
  · clear hd
    go_enter Try.func37, Try.ntmps37
    go_wp2_with (go_at_call 53; refine (dim_any _ _).mono ?_; rintro e w' ⟨rfl, rfl⟩; rw [hB])
    go_ret
    exact ⟨rfl, rfl⟩
  · have hB' : dimB d = true := by simpa using hB
    have hne : ((l.length : Int) != d) = true := by rcases hd with h | h; exact absurd h hB; simpa using h
    clear hd hB
    go_enter Try.func37, Try.ntmps37
    go_wp2_with (go_at_call 53; refine (dim_any _ _).mono ?_; rintro e w' ⟨rfl, rfl⟩; rw [hB'])
    go_ret
    exact ⟨rfl, rfl⟩

theorem vec_any (A : Option Addr) (l : List Int) (c : Nat) (d : Int) (w : World) (h : Row w A l) :
    Calls Try.prog 37 #[.slice A l.length c, .int .i64 d] w fun e w' => e = .returned (.int .i64 (vecE l d)) ∧ w = w' := by
  by_cases hd : d < 1 ∨ 64 < d ∨ (l.length : Int) ≠ d
  · have hv : vecE l d = 30 := by rw [vecE, if_pos hd]
    rw [hv]
    refine vec_bad A l c d ?_ w
    by_cases hne : (l.length : Int) ≠ d
    · exact .inr hne
    · exact .inl (by simp [dimB]; omega)
  · obtain rfl : d = (l.length : Int) := by omega
    exact vec_go A l c (by omega) (by omega) w h

set_option maxHeartbeats 1000000 in
theorem rvec_go (A : Option Addr) (l : List Int) (c : Nat) (hd : 1 ≤ l.length) (hd2 : l.length ≤ 64) (w : World) (h : Row w A l) :
    Calls Try.prog 39 #[.slice A l.length c, .int .i64 (l.length : Int)] w fun e w' => e = .returned (.int .i64 (vecE l l.length)) ∧ w = w' := by
  have p1 : (1 : Int) ≤ (l.length : Int) := by omega
  have p2 : (l.length : Int) ≤ 64 := by omega
  have hv : vecE l l.length = if CoordTo l l.length then 0 else 31 := by rw [vecE, if_neg (by omega)]
  replace hv := Lib.hid hv
  go_enter Try.func39, Try.ntmps39
  go_wp2
  go_loopw [5] (fun i wr => wr = w ∧ ∃ k : Nat, k ≤ l.length ∧ i = .int .i64 (k : Int) ∧ CoordTo l k) (fun i _ => l.length - (intOf i).toNat)
  case atStart => exact ⟨rfl, 0, Nat.zero_le _, rfl, fun j hj => absurd hj (by omega)⟩
  case round =>
    obtain ⟨rfl, k, hk, rfl, hC⟩ := hrel
    by_cases hlt : k < l.length
    · obtain ⟨g, o, rfl, hc⟩ := h k hlt
      have q0 : (0 : Int) ≤ (k : Int) := by omega
      have q1 : (k : Int) < (l.length : Int) := by omega
      by_cases b1 : nth l k < -2147483647
      · have hn : ¬ CoordTo l l.length := fun hh => by have := hh k hlt; omega
        rw [if_neg hn] at hv
        clear hn
        go_wp2
        go_ret
        exact ⟨by rw [hv.out]; rfl, rfl⟩
      have b2 : -2147483647 ≤ nth l k := by omega
      clear b1
      by_cases b3 : 2147483647 < nth l k
      · have hn : ¬ CoordTo l l.length := fun hh => by have := hh k hlt; omega
        rw [if_neg hn] at hv
        clear hn
        go_wp2
        go_ret
        exact ⟨by rw [hv.out]; rfl, rfl⟩
      have b4 : nth l k ≤ 2147483647 := by omega
      have hC' := Lib.hid (hC.succ b2 b4)
      clear b3
      go_wp2
      exact ⟨⟨trivial, k + 1, by omega, by go_num, hC'.out⟩, by simp [intOf]; omega⟩
    · have hk' : k = l.length := by omega
      subst hk'
      rw [if_pos hC] at hv
      clear hC
      go_wp2
      go_ret
      exact ⟨by rw [hv.out]; rfl, rfl⟩

theorem rvec_bad (A : Option Addr) (l : List Int) (c : Nat) (d : Int) (hd : d < 1 ∨ 64 < d ∨ (l.length : Int) ≠ d) (w : World) :
    Calls Try.prog 39 #[.slice A l.length c, .int .i64 d] w fun e w' => e = .returned (.int .i64 30) ∧ w = w' := by
  by_cases h1 : d < 1
  · clear hd
    go_enter Try.func39, Try.ntmps39
    go_wp2
    go_ret
    exact ⟨rfl, rfl⟩
  have g1 : 1 ≤ d := by omega
  by_cases h2 : 64 < d
  · clear hd h1
    go_enter Try.func39, Try.ntmps39
    go_wp2
    go_ret
    exact ⟨rfl, rfl⟩
  have g2 : d ≤ 64 := by omega
  have hne : ((l.length : Int) != d) = true := by simp; omega
  clear hd h1 h2
  go_enter Try.func39, Try.ntmps39
  go_wp2
  go_ret
  exact ⟨rfl, rfl⟩
theorem rvec_any (A : Option Addr) (l : List Int) (c : Nat) (d : Int) (w : World) (h : Row w A l) :
    Calls Try.prog 39 #[.slice A l.length c, .int .i64 d] w fun e w' => e = .returned (.int .i64 (vecE l d)) ∧ w = w' := by
  by_cases hd : d < 1 ∨ 64 < d ∨ (l.length : Int) ≠ d
  · have hv : vecE l d = 30 := by rw [vecE, if_pos hd]
    rw [hv]
    exact rvec_bad A l c d hd w
  · obtain rfl : d = (l.length : Int) := by omega
    exact rvec_go A l c (by omega) (by omega) w h
end Go.Proofs.Ytoglemdooaiddaa
