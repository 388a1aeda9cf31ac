/- The contract of the document's Parse, whatever the text. -/
import Derived.Test.YtodjpljdkjemmaaRefParse
namespace Go.Proofs.Ytodjpljdkjemmaa
open Go.RowKit
set_option linter.unusedVariables false

set_option maxRecDepth 100000 in
set_option maxHeartbeats 4000000 in
theorem rparse_empty (s : ByteArray) (h : s.size = 0) (w : World) : Calls Try.prog 19 #[.string s] w (NumPost w (parN s) (parE s)) := by
  have hp := par_bad (s := s) (fun x => by have := x.1; omega)
  have t0 : (s.size : Int) < 1 := by omega
  rw [hp.1, hp.2]
  unfold NumPost
  rw [num_zero]
  go_enter Try.func19, Try.ntmps19
  go_wp2
  go_returns
  exact ⟨rfl, (Below.refl _ _).alloc (Nat.le_refl _) _⟩
set_option maxRecDepth 100000 in
set_option maxHeartbeats 4000000 in
theorem rparse_long (s : ByteArray) (h : 39 < s.size) (w : World) : Calls Try.prog 19 #[.string s] w (NumPost w (parN s) (parE s)) := by
  have hp := par_bad (s := s) (fun x => by have := x.2.1; omega)
  have t0 : (1 : Int) ≤ (s.size : Int) := by omega
  have t1 : (39 : Int) < (s.size : Int) := by omega
  rw [hp.1, hp.2]
  unfold NumPost
  rw [num_zero]
  go_enter Try.func19, Try.ntmps19
  go_wp2
  go_returns
  exact ⟨rfl, (Below.refl _ _).alloc (Nat.le_refl _) _⟩
set_option maxRecDepth 100000 in
set_option maxHeartbeats 4000000 in
theorem rparse_zero (s : ByteArray) (h : s.size ≤ 39) (h1 : 1 < s.size) (h0 : ch s 0 = 48) (w : World) : Calls Try.prog 19 #[.string s] w (NumPost w (parN s) (parE s)) := by
  have hp := par_bad (s := s) (fun x => x.2.2.1 h1 h0)
  have t0 : (1 : Int) ≤ (s.size : Int) := by omega
  have t1 : (s.size : Int) ≤ 39 := by omega
  have t2 : (1 : Int) < (s.size : Int) := by omega
  have t3 : (((s[0]'(by omega)).toNat : Int) == 48) = true := by rw [ch_at, h0]; rfl
  rw [hp.1, hp.2]
  unfold NumPost
  rw [num_zero]
  go_enter Try.func19, Try.ntmps19
  go_wp2
  go_returns
  exact ⟨rfl, (Below.refl _ _).alloc (Nat.le_refl _) _⟩
theorem rparse_any (s : ByteArray) (w : World) : Calls Try.prog 19 #[.string s] w (NumPost w (parN s) (parE s)) := by
  by_cases h1 : s.size = 0
  · exact rparse_empty s h1 w
  · by_cases h2 : 39 < s.size
    · exact rparse_long s h2 w
    · by_cases h3 : 1 < s.size ∧ ch s 0 = 48
      · exact rparse_zero s (by omega) h3.1 h3.2 w
      · exact rparse_run s (by omega) (by omega) (fun a b => h3 ⟨a, b⟩) w
end Go.Proofs.Ytodjpljdkjemmaa
