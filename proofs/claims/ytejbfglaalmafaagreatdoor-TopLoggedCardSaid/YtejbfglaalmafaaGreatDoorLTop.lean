/- Small functions of the statement: ints, light; of the store: must. -/
import Derived.Test.YtejbfglaalmafaaGreatDoorLOpenB
namespace Go.Proofs.YtejbfglaalmafaaGreatDoor
open Go.RowKit
set_option linter.unusedVariables false

set_option maxRecDepth 100000 in
set_option maxHeartbeats 4000000 in
theorem ints_ok (A B : Option Addr) (l : List Int) (ca cb : Nat) (hl : l.length ≤ 1000) (w : World) (hA : Row w A l) (hB : Row w B l) :
    Calls Tryz.prog 12 #[.slice A l.length ca, .slice B l.length cb] w fun e w' => e = .returned (.bool true) ∧ Below w.heap.size w w' := by
  have hl2 := hl
  replace hl2 := Lib.hid hl2
  go_enter Tryz.func12, Tryz.ntmps12
  go_wp2_with fail
  go_loopw [5] (fun u wr => ∃ j : Nat, u = .int .i64 (j : Int) ∧ j ≤ l.length ∧ Below w.heap.size w wr) (fun u _ => l.length - (intOf u).toNat)
  case atStart => exact ⟨0, rfl, Nat.zero_le _, Below.refl _ _⟩
  case round =>
    obtain ⟨j, rfl, hj, hb⟩ := hrel
    by_cases hjk : j < l.length
    · obtain ⟨g1, o1, rfl, c1⟩ := (hA.below hb) j hjk
      obtain ⟨g2, o2, rfl, c2⟩ := (hB.below hb) j hjk
      clear hA hB
      go_wp2_with fail
      go_region
      go_wp2_with fail
      exact ⟨⟨j + 1, rfl, hjk, hb.drew⟩, meas64 hjk⟩
    · go_wp2_with fail
      go_ret
      exact ⟨rfl, hb⟩
/-- How long the rows' vectors are. -/
def Lens (w : World) (A : Option Addr) (n : Nat) : Prop := ∀ j, j < n → ∃ g off B m c, A = some ⟨g, off, none⟩ ∧ w.cell? ⟨g, off + j * 2 + 1, none⟩ = some (.slice B m c)
def BoolP (w : World) (e : Ending) (w' : World) : Prop := ∃ x : Bool, e = .returned (.bool x) ∧ w = w'
set_option maxRecDepth 100000 in
set_option maxHeartbeats 4000000 in
theorem light_any (A : Option Addr) (n c : Nat) (w : World) (h : Lens w A n) :
    Calls Tryz.prog 4 #[.slice A n c, .slice none 0 0] w (BoolP w) := by
  by_cases hn : n ≤ 600
  · have hn1 : decide ((600 : Int) < (n : Int)) = false := decide_eq_false (by omega)
    have hn2 := Lib.hid hn
    clear hn
    go_enter Tryz.func4, Tryz.ntmps4
    go_wp2_with fail
    have hn3 : n ≤ 600 := hn2.out
    go_loopw [5, 6] (fun x u wr => ∃ (y : Int) (j : Nat), x = .int .i64 y ∧ u = .int .i64 (j : Int) ∧ j ≤ n ∧ wr = w) (fun _ u _ => n - (intOf u).toNat)
    case atStart => exact ⟨0, 0, rfl, rfl, Nat.zero_le _, rfl⟩
    case round =>
      obtain ⟨y, j, rfl, rfl, hj, rfl⟩ := hrel
      by_cases hjk : j < n
      · by_cases hy : y ≤ 16384
        · obtain ⟨g, off, B, m, c2, rfl, hc⟩ := h j hjk
          clear h
          go_wp2_with fail
          exact ⟨⟨_, j + 1, rfl, rfl, hjk, trivial⟩, meas64 hjk⟩
        · clear h
          go_wp2_with fail
          go_ret
          exact ⟨_, rfl, rfl⟩
      · clear h
        go_wp2_with fail
        go_ret
        exact ⟨_, rfl, rfl⟩
  · have hn1 : decide ((600 : Int) < (n : Int)) = true := decide_eq_true (by omega)
    clear hn h
    go_enter Tryz.func4, Tryz.ntmps4
    go_wp2_with fail
    go_ret
    exact ⟨false, rfl, rfl⟩
set_option maxRecDepth 100000 in
theorem must_ok (w : World) : Calls Tryz.prog 65 #[.int .i64 0] w fun e w' => e = .returned (.tuple #[]) ∧ w = w' := by
  go_enter Tryz.func65, Tryz.ntmps65
  go_wp2_with fail
  refine bodyPost_end (results_none rfl _ _ _) rfl ?_
  exact ⟨rfl, rfl⟩
end Go.Proofs.YtejbfglaalmafaaGreatDoor
