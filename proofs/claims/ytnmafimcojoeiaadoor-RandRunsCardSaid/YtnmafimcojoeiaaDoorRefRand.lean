/- The contract of theodoliteref04.Same. -/
import Derived.Test.YtnmafimcojoeiaaDoorProg
import Derived.Test.YtnmafimcojoeiaaDoorMem
import Derived.WalkKit
import Derived.Deep.LoopGhost
import Derived.Deep.QuietTactic
import Derived.BigQuiet
namespace Go.Proofs.YtnmafimcojoeiaaDoor
open Go.RowKit

/-- The first k numbers of two lists are the same. -/
def SameTo (k : Nat) (a b : List Int) : Prop := ∀ j, j < k → nth a j = nth b j
theorem SameTo.succ {k : Nat} {a b : List Int} (h : SameTo k a b) (e : nth a k = nth b k) : SameTo (k + 1) a b := fun j hj => by
  by_cases hk : j = k
  · subst hk; exact e
  · exact h j (by omega)
theorem SameTo.all {a b : List Int} (hl : a.length = b.length) (h : SameTo a.length a b) : a = b := by
  apply List.ext_getElem hl
  intro i h1 h2
  have := h i h1
  simpa [nth, h1, h2] using this

set_option maxHeartbeats 1000000 in
theorem same_any (A B : Option Addr) (a b : List Int) (c d : Nat) (w : World) (ha : Row w A a) (hb : Row w B b) (hla : a.length ≤ 9223372036854775807) :
    Calls Tryd.prog 20 #[.slice A a.length c, .slice B b.length d] w fun e w' => e = .returned (.bool (decide (a = b))) ∧ Drawn w w' := by
  by_cases hl : a.length = b.length
  · have hne : ((a.length : Int) != (b.length : Int)) = false := by simp [hl]
    have hl' := Lib.hid hl
    clear hl
    go_enter Tryd.func20, Tryd.ntmps20
    go_wp2
    clear hne
    go_loopw [5] (fun i wr => ∃ k : Nat, k ≤ a.length ∧ i = .int .i64 k ∧ SameTo k a b ∧ Drawn w wr) (fun i _ => a.length - (intOf i).toNat)
    case atStart => exact ⟨0, Nat.zero_le _, rfl, fun j hj => absurd hj (by omega), Drawn.refl _⟩
    case round =>
      obtain ⟨k, hk, rfl, hS, hD⟩ := hrel
      by_cases hlt : k < a.length
      · have hltb : k < b.length := by have := hl'.out; omega
        obtain ⟨q, rfl⟩ := hD
        obtain ⟨g1, o1, rfl, hc1⟩ := ha k hlt
        obtain ⟨g2, o2, rfl, hc2⟩ := hb k hltb
        have p0 : (0 : Int) ≤ (k : Int) := by omega
        have p1 : (k : Int) < (a.length : Int) := by omega
        have p2 : (k : Int) < (b.length : Int) := by omega
        by_cases he : nth a k = nth b k
        · have hne : (nth a k != nth b k) = false := by simpa using he
          have hS' := hS.succ he
          clear he
          go_wp2
          go_quiet (fail)
          go_wp2
          exact ⟨⟨k + 1, by omega, by go_num, hS', q + nq, rfl⟩, by simp [intOf]; omega⟩
        · have hne : (nth a k != nth b k) = true := by simpa using he
          have hno : a ≠ b := fun e => he (by rw [e])
          clear he
          go_wp2
          go_quiet (fail)
          go_wp2
          go_ret
          exact ⟨by rw [decide_eq_false hno]; rfl, q + nq, (World.drewN_drewN ..)⟩
      · obtain rfl : k = a.length := by omega
        go_wp2
        go_ret
        exact ⟨by rw [decide_eq_true (SameTo.all hl'.out hS)]; rfl, hD⟩
  · have hne : ((a.length : Int) != (b.length : Int)) = true := by simp; omega
    go_enter Tryd.func20, Tryd.ntmps20
    go_wp2
    go_ret
    exact ⟨by rw [decide_eq_false (fun e => hl (by rw [e]))]; rfl, Drawn.refl _⟩

end Go.Proofs.YtnmafimcojoeiaaDoor
