/- The contract of the document's Same of two tables that are the same. -/
import Derived.Test.YtiamppbgpoffmaaPqRTab
namespace Go.Proofs.Ytiamppbgpoffmaa
open Go.RowKit
set_option linter.unusedVariables false

theorem Drawn.also {w w1 w2 : World} (h : Drawn w w1) (q : Nat) (h2 : w2 = w1.drewN q) : Drawn w w2 := by
  obtain ⟨p, rfl⟩ := h
  exact ⟨p + q, by rw [h2]; exact World.drewN_drewN ..⟩
set_option maxRecDepth 100000 in
set_option maxHeartbeats 4000000 in
theorem rsame_eq (A B : Option Addr) (t : List (List Nat)) (c d : Nat) (w : World) (hA : WTab w A t) (hB : WTab w B t) (h64 : t.length ≤ 64) (hr : ∀ i, i < t.length → (wrow t i).length ≤ 64) :
    Calls Try.prog 20 #[.slice A t.length c, .slice B t.length d] w fun e w' => e = .returned (.bool true) ∧ Drawn w w' := by
  have hne : ((t.length : Int) != (t.length : Int)) = false := by simp
  replace hr := Lib.hid hr
  go_enter Try.func20, Try.ntmps20
  go_wp2_with fail
  clear hne
  go_loopw [5] (fun i wr => ∃ k : Nat, k ≤ t.length ∧ i = .int .i64 (k : Int) ∧ Drawn w wr) (fun i _ => t.length - (intOf i).toNat)
  case atStart => exact ⟨0, Nat.zero_le _, rfl, Drawn.refl _⟩
  case round =>
    obtain ⟨k, hk, rfl, hD⟩ := hrel
    by_cases hlt : k < t.length
    · obtain ⟨g1, o1, R1, c1, rfl, hc1, hR1⟩ := hA k hlt
      obtain ⟨g2, o2, R2, c2, rfl, hc2, hR2⟩ := hB k hlt
      have p0 : (0 : Int) ≤ (k : Int) := by omega
      have p1 : (k : Int) < (t.length : Int) := by omega
      have hrk := hr.out k hlt
      have hm2 : t.length - (k + 1) < t.length - k := by omega
      generalize hL : wrow t k = L at *
      have d1 := below_cell (hD.below w.heap.size) hc1
      have d2 := below_cell (hD.below w.heap.size) hc2
      have hne : ((L.length : Int) != (L.length : Int)) = false := by simp
      clear hL
      go_wp2_with fail
      go_quiet (fail)
      go_wp2_with fail
      clear hne
      have hD2 := hD.also nq rfl
      generalize wr.drewN nq = x0 at *
      clear d1 d2
      go_loopw [6] (fun i wr => ∃ j : Nat, j ≤ L.length ∧ i = .int .i64 (j : Int) ∧ Drawn w wr) (fun i _ => L.length - (intOf i).toNat)
      case atStart => exact ⟨0, Nat.zero_le _, rfl, hD2⟩
      case round =>
        clear hD2 hD
        obtain ⟨j, hj, rfl, hD⟩ := hrel
        have d1 := below_cell (hD.below w.heap.size) hc1
        have d2 := below_cell (hD.below w.heap.size) hc2
        by_cases hlt2 : j < L.length
        · obtain ⟨b1, q1, rfl, e1, e2⟩ := hR1 j hlt2
          obtain ⟨b2, q2, rfl, e3, e4⟩ := hR2 j hlt2
          have r0 : (0 : Int) ≤ (j : Int) := by omega
          have r1 : (j : Int) < (L.length : Int) := by omega
          have e1 := below_cell (hD.below w.heap.size) e1
          have e2 := below_cell (hD.below w.heap.size) e2
          have e3 := below_cell (hD.below w.heap.size) e3
          have e4 := below_cell (hD.below w.heap.size) e4
          generalize nthw L j = N at *
          go_wp2_with fail
          go_quiet (fail)
          go_wp2_with fail
          exact ⟨⟨j + 1, by omega, by go_num, hD.also nq rfl⟩, by simp [intOf]; omega⟩
        · obtain rfl : j = L.length := by omega
          go_wp2_with fail
          exact ⟨⟨k + 1, by omega, by go_num, hD⟩, by simp [intOf]; omega⟩
    · obtain rfl : k = t.length := by omega
      go_wp2_with fail
      go_ret
      exact ⟨rfl, hD⟩
end Go.Proofs.Ytiamppbgpoffmaa
