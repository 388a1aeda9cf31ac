/- The contracts of theodoliteref03.Ints and of theodoliteref06.Same where both are the same. -/
import Derived.Test.YtoglemdooaiddaaKRefRoundP
import Derived.Test.YtoglemdooaiddaaKeep
import Derived.Deep.RegionHeld3
namespace Go.Proofs.Ytoglemdooaiddaa
open Go.RowKit
set_option linter.unusedVariables false

set_option maxHeartbeats 1000000 in
theorem rints_any (A B : Option Addr) (a b : List Int) (c d : Nat) (w : World) (ha : Row w A a) (hb : Row w B b) (hla : a.length ≤ 9223372036854775807) :
    Calls Try.prog 35 #[.slice A a.length c, .slice B b.length d] w fun e w' => e = .returned (.bool (decide (a = b))) ∧ Drawn w w' := by
  by_cases hl : a.length = b.length
  · have hne : ((a.length : Int) != (b.length : Int)) = false := by simp [hl]
    have hl' := Lib.hid hl
    clear hl
    go_enter Try.func35, Try.ntmps35
    go_wp2
    clear hne
    go_loopw [5] (fun i wr => ∃ k : Nat, k ≤ a.length ∧ i = .int .i64 k ∧ SameTo k a b ∧ Drawn w wr) (fun i _ => a.length - (intOf i).toNat)
    case atStart => exact ⟨0, Nat.zero_le _, rfl, fun j hj => absurd hj (by omega), Drawn.refl _⟩
    case round =>
      obtain ⟨k, hk, rfl, hS, hD⟩ := hrel
      by_cases hlt : k < a.length
      · have hltb : k < b.length := by have := hl'.out; omega
        obtain ⟨q, rfl⟩ := hD
        obtain ⟨g1, o1, rfl, hc1⟩ := ha k hlt
        obtain ⟨g2, o2, rfl, hc2⟩ := hb k hltb
        have p0 : (0 : Int) ≤ (k : Int) := by omega
        have p1 : (k : Int) < (a.length : Int) := by omega
        have p2 : (k : Int) < (b.length : Int) := by omega
        by_cases he : nth a k = nth b k
        · have hne : (nth a k != nth b k) = false := by simpa using he
          have hS' := hS.succ he
          clear he
          go_wp2
          go_quiet (fail)
          go_wp2
          exact ⟨⟨k + 1, by omega, by go_num, hS', q + nq, rfl⟩, by simp [intOf]; omega⟩
        · have hne : (nth a k != nth b k) = true := by simpa using he
          have hno : a ≠ b := fun e => he (by rw [e])
          clear he
          go_wp2
          go_quiet (fail)
          go_wp2
          go_ret
          exact ⟨by rw [decide_eq_false hno]; rfl, q + nq, (World.drewN_drewN ..)⟩
      · obtain rfl : k = a.length := by omega
        go_wp2
        go_ret
        exact ⟨by rw [decide_eq_true (SameTo.all hl'.out hS)]; rfl, hD⟩
  · have hne : ((a.length : Int) != (b.length : Int)) = true := by simp; omega
    go_enter Try.func35, Try.ntmps35
    go_wp2
    go_ret
    exact ⟨by rw [decide_eq_false (fun e => hl (by rw [e]))]; rfl, Drawn.refl _⟩



set_option maxHeartbeats 4000000 in
theorem same_eq (A B : Option Addr) (m : List (List Int)) (c d : Nat) (w : World) (ha : Mat w A m) (hb : Mat w B m) (h64 : m.length ≤ 64) (hr : ∀ i, i < m.length → (mrow m i).length ≤ 64) :
    Calls Try.prog 13 #[.slice A m.length c, .slice B m.length d] w fun e w' => e = .returned (.bool true) ∧ Drawn w w' := by
  have hne : ((m.length : Int) != (m.length : Int)) = false := by simp
  replace hr := Lib.hid hr
  go_enter Try.func13, Try.ntmps13
  go_wp2_with fail
  clear hne
  go_loopw [5] (fun i wr => ∃ k : Nat, k ≤ m.length ∧ i = .int .i64 (k : Int) ∧ Drawn w wr) (fun i _ => m.length - (intOf i).toNat)
  case atStart => exact ⟨0, Nat.zero_le _, rfl, Drawn.refl _⟩
  case round =>
    obtain ⟨k, hk, rfl, hD⟩ := hrel
    by_cases hlt : k < m.length
    · obtain ⟨g1, o1, R1, c1, rfl, hc1, hR1⟩ := ha k hlt
      obtain ⟨g2, o2, R2, c2, rfl, hc2, hR2⟩ := hb k hlt
      have p0 : (0 : Int) ≤ (k : Int) := by omega
      have p1 : (k : Int) < (m.length : Int) := by omega
      have hI := rints_any R1 R2 (mrow m k) (mrow m k) c1 c2
      rw [decide_eq_true rfl] at hI
      replace hD := hD.one
      have S0 : (World.drew wr).cell? ⟨g1, o1 + k, none⟩ = some (.slice R1 (mrow m k).length c1) ∧ (World.drew wr).cell? ⟨g2, o2 + k, none⟩ = some (.slice R2 (mrow m k).length c2) := ⟨below_cell (hD.below _) hc1, below_cell (hD.below _) hc2⟩
      have hI1 := Lib.hid (hI (World.drew wr) (hR1.below (hD.below _)) (hR2.below (hD.below _)) (by have := hr.out k hlt; omega))
      clear hI
      go_wp2_with fail
      go_region_held3 (fun w' => w'.cell? ⟨g1, o1 + k, none⟩ = some (.slice R1 (mrow m k).length c1) ∧ w'.cell? ⟨g2, o2 + k, none⟩ = some (.slice R2 (mrow m k).length c2))
        (first | exact S0 | exact S1)
        (first | (go_at_call 35; (with_reducible refine hI1.out.mono ?_); rintro e x1 ⟨rfl, hE⟩; have S1 := And.intro (below_cell (hE.below _) S0.1) (below_cell (hE.below _) S0.2)))
      all_goals
        obtain ⟨q1, h1⟩ := hD
        obtain ⟨q2, h2⟩ := hE
        have hF : Drawn w x1 := ⟨q1 + q2, by rw [h2, h1]; exact World.drewN_drewN ..⟩
        clear S0 S1 hI1 h1 h2
        go_wp2_with fail
        exact ⟨⟨k + 1, by omega, by go_num, hF⟩, by simp [intOf]; omega⟩
    · obtain rfl : k = m.length := by omega
      go_wp2_with fail
      go_ret
      exact ⟨rfl, hD⟩
theorem same_nil (w : World) : Calls Try.prog 13 #[.slice none 0 0, .slice none 0 0] w fun e w' => e = .returned (.bool true) ∧ Drawn w w' := same_eq none none [] 0 0 w Mat.nil_ Mat.nil_ (by simp) (fun i hi => by simp at hi)
end Go.Proofs.Ytoglemdooaiddaa
