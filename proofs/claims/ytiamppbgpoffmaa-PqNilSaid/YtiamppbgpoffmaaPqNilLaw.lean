/- The walk of PqNil: true of any vector. -/
import Derived.Test.YtiamppbgpoffmaaPqAwake
namespace Go.Proofs.Ytiamppbgpoffmaa
open Go.RowKit
set_option linter.unusedVariables false

theorem books_nil (w : World) : Calls Try.prog 26 #[.pointer none] w fun e w' => e = .returned (.slice none 0 0) ∧ w = w' := by
  go_enter Try.func26, Try.ntmps26
  go_wp2_with fail
  go_ret
  exact ⟨rfl, rfl⟩
set_option maxRecDepth 100000 in
set_option maxHeartbeats 4000000 in
theorem pqNil_any (A : Option Addr) (n c : Nat) (w : World) : Calls Try.prog 8 #[.slice A n c] w (LawTrue w) := by
  by_cases h : (n : Int) ≤ 32768
  · go_enter Try.func8, Try.ntmps8
    go_wp2_with fail
    clear h
    refine (enc_nil A n c w).mono ?_
    rintro e w1 ⟨rfl, B1⟩
    go_wp2_with fail
    refine (dec_nil A n c w1).mono ?_
    rintro e w2 ⟨rfl, hb⟩
    replace B1 := below_chain B1 hb B1.size
    clear hb
    go_wp2_with fail
    refine (tab_nil A n c w2).mono ?_
    rintro e w3 ⟨rfl, hb⟩
    replace B1 := below_chain B1 hb B1.size
    clear hb
    go_wp2_with fail
    refine (awake_any w3).mono ?_
    rintro e w4 ⟨rfl, hb⟩
    replace B1 := below_chain B1 hb B1.size
    clear hb
    go_wp2_with fail
    refine (books_nil w4).mono ?_
    rintro e w5 ⟨rfl, rfl⟩
    go_wp2_with fail
    go_ret
    exact ⟨rfl, B1⟩
  · have h' : (32768 : Int) < (n : Int) := by omega
    clear h
    go_enter Try.func8, Try.ntmps8
    go_wp2_with fail
    go_ret
    exact ⟨rfl, Below.refl _ _⟩
end Go.Proofs.Ytiamppbgpoffmaa
