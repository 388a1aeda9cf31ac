/- The contracts of kmeans.all, kmeans.may and kmeans.down. -/
import Derived.Test.YtoglemdooaiddaaKNear
namespace Go.Proofs.Ytoglemdooaiddaa
open Go.RowKit
set_option linter.unusedVariables false

set_option maxHeartbeats 1000000 in
theorem all_any (A : Option Addr) (m : List (List Int)) (c : Nat) (d : Int) (hb : m.length ≤ 512) (w : World) (h : Mat w A m) :
    Calls Try.prog 24 #[.slice A m.length c, .int .i64 d] w fun e w' => e = .returned (.int .i64 (allE m d)) ∧ w = w' := by
  go_enter Try.func24, Try.ntmps24
  go_wp2_with fail
  go_loopw [10] (fun i wr => wr = w ∧ ∃ k : Nat, k ≤ m.length ∧ i = .int .i64 (k : Int) ∧ AllOk m d k) (fun i _ => m.length - (intOf i).toNat)
  case atStart => exact ⟨rfl, 0, Nat.zero_le _, rfl, fun j hj => absurd hj (by omega)⟩
  case round =>
    obtain ⟨rfl, k, hk, rfl, hC⟩ := hrel
    by_cases hlt : k < m.length
    · obtain ⟨g, o, R, rc, rfl, hc1, hR⟩ := h k hlt
      have p0 : (0 : Int) ≤ (k : Int) := by omega
      have p1 : (k : Int) < (m.length : Int) := by omega
      have hV := Lib.hid (vec_any R (mrow m k) rc d wr hR)
      by_cases hz : vecE (mrow m k) d = 0
      · have hC' := Lib.hid (hC.succ hz)
        go_wp2_with fail
        refine hV.out.mono ?_
        rintro e w1 ⟨rfl, rfl⟩
        rw [hz]
        go_wp2_with fail
        exact ⟨⟨trivial, k + 1, by omega, by go_num, hC'.out⟩, by simp [intOf]; omega⟩
      · have hE := Lib.hid (allE_first m d k hlt hC hz)
        have hne : (vecE (mrow m k) d != 0) = true := by simpa using hz
        generalize vecE (mrow m k) d = E at *
        clear hC hz
        go_wp2_with fail
        refine hV.out.mono ?_
        rintro e w1 ⟨rfl, rfl⟩
        go_wp2_with fail
        go_ret
        exact ⟨by rw [hE.out]; rfl, rfl⟩
    · obtain rfl : k = m.length := by omega
      have hE := Lib.hid (allE_none m d hC)
      clear hC
      go_wp2_with fail
      go_ret
      exact ⟨by rw [hE.out]; rfl, rfl⟩

theorem may_any (A : Option Addr) (m : List (List Int)) (c : Nat) (w : World) (h : Mat w A m) :
    Calls Try.prog 36 #[.slice A m.length c] w fun e w' => e = .returned (.int .i64 (mayE m)) ∧ w = w' := by
  by_cases h0 : m.length = 0
  · have e0 : ((m.length : Int) == 0) = true := by simp [h0]
    have hv : mayE m = 1 := by rw [mayE, if_pos (.inl h0)]
    rw [hv]
    clear hv h0
    go_enter Try.func36, Try.ntmps36
    go_wp2_with fail
    go_ret
    exact ⟨rfl, rfl⟩
  have e0 : ((m.length : Int) == 0) = false := by simpa using h0
  by_cases h1 : 64 < m.length
  · have e1 : (64 : Int) < (m.length : Int) := by omega
    have hv : mayE m = 1 := by rw [mayE, if_pos (.inr h1)]
    rw [hv]
    clear hv h0 h1
    go_enter Try.func36, Try.ntmps36
    go_wp2_with fail
    go_ret
    exact ⟨rfl, rfl⟩
  · have e1 : (m.length : Int) ≤ 64 := by omega
    have hv : mayE m = allE m (mrow m 0).length := by rw [mayE, if_neg (by omega)]
    rw [hv]
    obtain ⟨g, o, R, rc, rfl, hc1, hR⟩ := h 0 (by omega)
    rw [Nat.add_zero] at hc1
    have p1 : (0 : Int) < (m.length : Int) := by omega
    have hA := Lib.hid (all_any (some ⟨g, o, none⟩) m c (mrow m 0).length (by omega) w h)
    clear hv h0 h1
    go_enter Try.func36, Try.ntmps36
    go_wp2_with fail
    refine hA.out.mono ?_
    rintro e w1 ⟨rfl, rfl⟩
    go_wp2_with fail
    go_ret
    exact ⟨rfl, rfl⟩

/-- A sum of coordinates and a count: what they are within. -/
def SumOk (a : Int) : Prop := -1099511627264 ≤ a ∧ a ≤ 1099511627264
theorem quo_ok {a b : Int} (ha : SumOk a) (hb : 0 < b) : SumOk (a / b) := by
  obtain ⟨h1, h2⟩ := ha
  have h3 : a / b ≤ 1099511627264 := Int.ediv_le_of_le_mul hb (by omega)
  have h4 : -1099511627264 ≤ a / b := (Int.le_ediv_iff_mul_le hb).2 (by omega)
  exact ⟨h4, h3⟩
theorem wrap_of {a : Int} (h : SumOk a) : wrap64 a = a := by
  obtain ⟨h1, h2⟩ := h
  simp only [wrap64]
  omega
theorem wrap_of1 {a : Int} (h : SumOk a) : wrap64 (a + 1) = a + 1 := by
  obtain ⟨h1, h2⟩ := h
  simp only [wrap64]
  omega
theorem tdiv_flat {a b : Int} (h : 0 ≤ a ∨ b ∣ a) : a.tdiv b = a / b := by rw [Int.tdiv_eq_ediv, if_pos h, Int.add_zero]
theorem tmod_flat {a b : Int} (h : 0 ≤ a ∨ b ∣ a) : a.tmod b = a % b := by rw [Int.tmod_eq_emod, if_pos h]; simp
theorem tdiv_up {a b : Int} (hb : 0 < b) (h : ¬ (0 ≤ a ∨ b ∣ a)) : a.tdiv b = a / b + 1 := by rw [Int.tdiv_eq_ediv, if_neg h, Int.sign_eq_one_of_pos hb]
theorem tmod_neg {a b : Int} (hb : 0 < b) (h : ¬ (0 ≤ a ∨ b ∣ a)) : a.tmod b < 0 := by
  rw [Int.tmod_eq_emod, if_neg h]
  have := Int.emod_lt_of_pos a hb
  omega
theorem down_any (a b : Int) (ha : SumOk a) (hb : 0 < b) (w : World) :
    Calls Try.prog 30 #[.int .i64 a, .int .i64 b] w fun e w' => e = .returned (.int .i64 (a / b)) ∧ w = w' := by
  have hq := quo_ok ha hb
  have hne : (b == 0) = false := by simp; omega
  by_cases h : 0 ≤ a ∨ b ∣ a
  · have e1 := Lib.hid (tdiv_flat h)
    have e2 := Lib.hid (wrap_of hq)
    have e3 : 0 ≤ a.tmod b := by rw [tmod_flat h]; exact Int.emod_nonneg _ (by omega)
    clear h ha hq
    go_enter Try.func30, Try.ntmps30
    go_wp2_with fail
    go_ret
    exact ⟨by rw [e1.out, e2.out]; rfl, rfl⟩
  · have e1 := Lib.hid (tdiv_up hb h)
    have e2 := Lib.hid (wrap_of1 hq)
    have e4 := Lib.hid (wrap_of hq)
    have e3 : a.tmod b < 0 := tmod_neg hb h
    clear h ha hq
    go_enter Try.func30, Try.ntmps30
    go_wp2_with fail
    go_ret
    exact ⟨by rw [e1.out, e2.out, Int.add_sub_cancel, e4.out]; rfl, rfl⟩
end Go.Proofs.Ytoglemdooaiddaa
