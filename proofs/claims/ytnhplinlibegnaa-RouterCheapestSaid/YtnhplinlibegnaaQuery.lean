/- The contracts of router.Check and theodoliteref15.Check: one error of a question. -/
import Derived.Test.YtnhplinlibegnaaChoose
import Derived.Test.YtnhplinlibegnaaVecCheck
namespace Go.Proofs.Ytnhplinlibegnaa
open Go.RowKit
set_option linter.unusedVariables false

/-- The error of a question. -/
def queryE (l : List Int) (d K m B : Int) : Int :=
  if vecE l d = 0 then (if K < 1 ∨ 64 < K then 1 else if goodB m = true then (if B < 0 ∨ 1000000 < B ∨ (m = 1 ∧ B ≠ 0) then 1 else 0) else 210) else vecE l d

set_option maxRecDepth 100000 in
theorem q_0 (A : Option Addr) (l : List Int) (c : Nat) (d K m B : Int) (w : World) (h : Row w A l) (f0 : (vecE l d != 0) = true) :
    Calls Try.prog 14 #[.agg #[.slice A l.length c, .int .i64 K, .int .i64 m, .int .i64 B], .int .i64 d] w (ErrPost w (vecE l d)) := by
  go_enter Try.func14, Try.ntmps14
  go_wp2_with first | (go_at_call 31; refine (vec_any A l c d _ (h.below ((Below.refl _ _).alloc (Nat.le_refl _) _))).mono ?_; rintro e w' ⟨rfl, rfl⟩) | (go_at_call 29; refine (good_any m _).mono ?_; rintro e w' ⟨rfl, rfl⟩)
  go_ret
  exact ⟨rfl, (Below.refl _ _).alloc (Nat.le_refl _) _⟩

set_option maxRecDepth 100000 in
theorem rq_0 (A : Option Addr) (l : List Int) (c : Nat) (d K m B : Int) (w : World) (h : Row w A l) (f0 : (vecE l d != 0) = true) :
    Calls Try.prog 17 #[.agg #[.slice A l.length c, .int .i64 K, .int .i64 m, .int .i64 B], .int .i64 d] w (ErrPost w (vecE l d)) := by
  go_enter Try.func17, Try.ntmps17
  go_wp2_with first | (go_at_call 33; refine (rvec_any A l c d _ (h.below ((Below.refl _ _).alloc (Nat.le_refl _) _))).mono ?_; rintro e w' ⟨rfl, rfl⟩) | (go_at_call 30; refine (mode_any m _).mono ?_; rintro e w' ⟨rfl, rfl⟩)
  go_ret
  exact ⟨rfl, (Below.refl _ _).alloc (Nat.le_refl _) _⟩

set_option maxRecDepth 100000 in
theorem q_1 (A : Option Addr) (l : List Int) (c : Nat) (d K m B : Int) (w : World) (h : Row w A l) (f0 : vecE l d = 0) (f1 : K < 1) :
    Calls Try.prog 14 #[.agg #[.slice A l.length c, .int .i64 K, .int .i64 m, .int .i64 B], .int .i64 d] w (ErrPost w (1)) := by
  go_enter Try.func14, Try.ntmps14
  go_wp2_with first | (go_at_call 31; refine (vec_any A l c d _ (h.below ((Below.refl _ _).alloc (Nat.le_refl _) _))).mono ?_; rintro e w' ⟨rfl, rfl⟩; rw [f0]) | (go_at_call 29; refine (good_any m _).mono ?_; rintro e w' ⟨rfl, rfl⟩)
  go_ret
  exact ⟨rfl, (Below.refl _ _).alloc (Nat.le_refl _) _⟩

set_option maxRecDepth 100000 in
theorem rq_1 (A : Option Addr) (l : List Int) (c : Nat) (d K m B : Int) (w : World) (h : Row w A l) (f0 : vecE l d = 0) (f1 : K < 1) :
    Calls Try.prog 17 #[.agg #[.slice A l.length c, .int .i64 K, .int .i64 m, .int .i64 B], .int .i64 d] w (ErrPost w (1)) := by
  go_enter Try.func17, Try.ntmps17
  go_wp2_with first | (go_at_call 33; refine (rvec_any A l c d _ (h.below ((Below.refl _ _).alloc (Nat.le_refl _) _))).mono ?_; rintro e w' ⟨rfl, rfl⟩; rw [f0]) | (go_at_call 30; refine (mode_any m _).mono ?_; rintro e w' ⟨rfl, rfl⟩)
  go_ret
  exact ⟨rfl, (Below.refl _ _).alloc (Nat.le_refl _) _⟩

set_option maxRecDepth 100000 in
theorem q_2 (A : Option Addr) (l : List Int) (c : Nat) (d K m B : Int) (w : World) (h : Row w A l) (f0 : vecE l d = 0) (f1 : 1 ≤ K) (f2 : 64 < K) :
    Calls Try.prog 14 #[.agg #[.slice A l.length c, .int .i64 K, .int .i64 m, .int .i64 B], .int .i64 d] w (ErrPost w (1)) := by
  go_enter Try.func14, Try.ntmps14
  go_wp2_with first | (go_at_call 31; refine (vec_any A l c d _ (h.below ((Below.refl _ _).alloc (Nat.le_refl _) _))).mono ?_; rintro e w' ⟨rfl, rfl⟩; rw [f0]) | (go_at_call 29; refine (good_any m _).mono ?_; rintro e w' ⟨rfl, rfl⟩)
  go_ret
  exact ⟨rfl, (Below.refl _ _).alloc (Nat.le_refl _) _⟩

set_option maxRecDepth 100000 in
theorem rq_2 (A : Option Addr) (l : List Int) (c : Nat) (d K m B : Int) (w : World) (h : Row w A l) (f0 : vecE l d = 0) (f1 : 1 ≤ K) (f2 : 64 < K) :
    Calls Try.prog 17 #[.agg #[.slice A l.length c, .int .i64 K, .int .i64 m, .int .i64 B], .int .i64 d] w (ErrPost w (1)) := by
  go_enter Try.func17, Try.ntmps17
  go_wp2_with first | (go_at_call 33; refine (rvec_any A l c d _ (h.below ((Below.refl _ _).alloc (Nat.le_refl _) _))).mono ?_; rintro e w' ⟨rfl, rfl⟩; rw [f0]) | (go_at_call 30; refine (mode_any m _).mono ?_; rintro e w' ⟨rfl, rfl⟩)
  go_ret
  exact ⟨rfl, (Below.refl _ _).alloc (Nat.le_refl _) _⟩

set_option maxRecDepth 100000 in
theorem q_3 (A : Option Addr) (l : List Int) (c : Nat) (d K m B : Int) (w : World) (h : Row w A l) (f0 : vecE l d = 0) (f1 : 1 ≤ K) (f2 : K ≤ 64) (f3 : goodB m = false) :
    Calls Try.prog 14 #[.agg #[.slice A l.length c, .int .i64 K, .int .i64 m, .int .i64 B], .int .i64 d] w (ErrPost w (210)) := by
  go_enter Try.func14, Try.ntmps14
  go_wp2_with first | (go_at_call 31; refine (vec_any A l c d _ (h.below ((Below.refl _ _).alloc (Nat.le_refl _) _))).mono ?_; rintro e w' ⟨rfl, rfl⟩; rw [f0]) | (go_at_call 29; refine (good_any m _).mono ?_; rintro e w' ⟨rfl, rfl⟩; rw [f3])
  go_ret
  exact ⟨rfl, (Below.refl _ _).alloc (Nat.le_refl _) _⟩

set_option maxRecDepth 100000 in
theorem rq_3 (A : Option Addr) (l : List Int) (c : Nat) (d K m B : Int) (w : World) (h : Row w A l) (f0 : vecE l d = 0) (f1 : 1 ≤ K) (f2 : K ≤ 64) (f3 : goodB m = false) :
    Calls Try.prog 17 #[.agg #[.slice A l.length c, .int .i64 K, .int .i64 m, .int .i64 B], .int .i64 d] w (ErrPost w (210)) := by
  go_enter Try.func17, Try.ntmps17
  go_wp2_with first | (go_at_call 33; refine (rvec_any A l c d _ (h.below ((Below.refl _ _).alloc (Nat.le_refl _) _))).mono ?_; rintro e w' ⟨rfl, rfl⟩; rw [f0]) | (go_at_call 30; refine (mode_any m _).mono ?_; rintro e w' ⟨rfl, rfl⟩; rw [f3])
  go_ret
  exact ⟨rfl, (Below.refl _ _).alloc (Nat.le_refl _) _⟩

set_option maxRecDepth 100000 in
theorem q_4 (A : Option Addr) (l : List Int) (c : Nat) (d K m B : Int) (w : World) (h : Row w A l) (f0 : vecE l d = 0) (f1 : 1 ≤ K) (f2 : K ≤ 64) (f3 : goodB m = true) (f4 : B < 0) (f5 : (m == 1) = true) (f6 : (B != 0) = true) :
    Calls Try.prog 14 #[.agg #[.slice A l.length c, .int .i64 K, .int .i64 m, .int .i64 B], .int .i64 d] w (ErrPost w (1)) := by
  go_enter Try.func14, Try.ntmps14
  go_wp2_with first | (go_at_call 31; refine (vec_any A l c d _ (h.below ((Below.refl _ _).alloc (Nat.le_refl _) _))).mono ?_; rintro e w' ⟨rfl, rfl⟩; rw [f0]) | (go_at_call 29; refine (good_any m _).mono ?_; rintro e w' ⟨rfl, rfl⟩; rw [f3])
  go_ret
  exact ⟨rfl, (Below.refl _ _).alloc (Nat.le_refl _) _⟩

set_option maxRecDepth 100000 in
theorem rq_4 (A : Option Addr) (l : List Int) (c : Nat) (d K m B : Int) (w : World) (h : Row w A l) (f0 : vecE l d = 0) (f1 : 1 ≤ K) (f2 : K ≤ 64) (f3 : goodB m = true) (f4 : B < 0) (f5 : (m == 1) = true) (f6 : (B != 0) = true) :
    Calls Try.prog 17 #[.agg #[.slice A l.length c, .int .i64 K, .int .i64 m, .int .i64 B], .int .i64 d] w (ErrPost w (1)) := by
  go_enter Try.func17, Try.ntmps17
  go_wp2_with first | (go_at_call 33; refine (rvec_any A l c d _ (h.below ((Below.refl _ _).alloc (Nat.le_refl _) _))).mono ?_; rintro e w' ⟨rfl, rfl⟩; rw [f0]) | (go_at_call 30; refine (mode_any m _).mono ?_; rintro e w' ⟨rfl, rfl⟩; rw [f3])
  go_ret
  exact ⟨rfl, (Below.refl _ _).alloc (Nat.le_refl _) _⟩

set_option maxRecDepth 100000 in
theorem q_5 (A : Option Addr) (l : List Int) (c : Nat) (d K m B : Int) (w : World) (h : Row w A l) (f0 : vecE l d = 0) (f1 : 1 ≤ K) (f2 : K ≤ 64) (f3 : goodB m = true) (f4 : B < 0) (f5 : (m == 1) = false) :
    Calls Try.prog 14 #[.agg #[.slice A l.length c, .int .i64 K, .int .i64 m, .int .i64 B], .int .i64 d] w (ErrPost w (1)) := by
  go_enter Try.func14, Try.ntmps14
  go_wp2_with first | (go_at_call 31; refine (vec_any A l c d _ (h.below ((Below.refl _ _).alloc (Nat.le_refl _) _))).mono ?_; rintro e w' ⟨rfl, rfl⟩; rw [f0]) | (go_at_call 29; refine (good_any m _).mono ?_; rintro e w' ⟨rfl, rfl⟩; rw [f3])
  go_ret
  exact ⟨rfl, (Below.refl _ _).alloc (Nat.le_refl _) _⟩

set_option maxRecDepth 100000 in
theorem rq_5 (A : Option Addr) (l : List Int) (c : Nat) (d K m B : Int) (w : World) (h : Row w A l) (f0 : vecE l d = 0) (f1 : 1 ≤ K) (f2 : K ≤ 64) (f3 : goodB m = true) (f4 : B < 0) (f5 : (m == 1) = false) :
    Calls Try.prog 17 #[.agg #[.slice A l.length c, .int .i64 K, .int .i64 m, .int .i64 B], .int .i64 d] w (ErrPost w (1)) := by
  go_enter Try.func17, Try.ntmps17
  go_wp2_with first | (go_at_call 33; refine (rvec_any A l c d _ (h.below ((Below.refl _ _).alloc (Nat.le_refl _) _))).mono ?_; rintro e w' ⟨rfl, rfl⟩; rw [f0]) | (go_at_call 30; refine (mode_any m _).mono ?_; rintro e w' ⟨rfl, rfl⟩; rw [f3])
  go_ret
  exact ⟨rfl, (Below.refl _ _).alloc (Nat.le_refl _) _⟩

set_option maxRecDepth 100000 in
theorem q_6 (A : Option Addr) (l : List Int) (c : Nat) (d K m B : Int) (w : World) (h : Row w A l) (f0 : vecE l d = 0) (f1 : 1 ≤ K) (f2 : K ≤ 64) (f3 : goodB m = true) (f4 : 0 ≤ B) (f4b : 1000000 < B) (f5 : (m == 1) = true) (f6 : (B != 0) = true) :
    Calls Try.prog 14 #[.agg #[.slice A l.length c, .int .i64 K, .int .i64 m, .int .i64 B], .int .i64 d] w (ErrPost w (1)) := by
  go_enter Try.func14, Try.ntmps14
  go_wp2_with first | (go_at_call 31; refine (vec_any A l c d _ (h.below ((Below.refl _ _).alloc (Nat.le_refl _) _))).mono ?_; rintro e w' ⟨rfl, rfl⟩; rw [f0]) | (go_at_call 29; refine (good_any m _).mono ?_; rintro e w' ⟨rfl, rfl⟩; rw [f3])
  go_ret
  exact ⟨rfl, (Below.refl _ _).alloc (Nat.le_refl _) _⟩

set_option maxRecDepth 100000 in
theorem rq_6 (A : Option Addr) (l : List Int) (c : Nat) (d K m B : Int) (w : World) (h : Row w A l) (f0 : vecE l d = 0) (f1 : 1 ≤ K) (f2 : K ≤ 64) (f3 : goodB m = true) (f4 : 0 ≤ B) (f4b : 1000000 < B) (f5 : (m == 1) = true) (f6 : (B != 0) = true) :
    Calls Try.prog 17 #[.agg #[.slice A l.length c, .int .i64 K, .int .i64 m, .int .i64 B], .int .i64 d] w (ErrPost w (1)) := by
  go_enter Try.func17, Try.ntmps17
  go_wp2_with first | (go_at_call 33; refine (rvec_any A l c d _ (h.below ((Below.refl _ _).alloc (Nat.le_refl _) _))).mono ?_; rintro e w' ⟨rfl, rfl⟩; rw [f0]) | (go_at_call 30; refine (mode_any m _).mono ?_; rintro e w' ⟨rfl, rfl⟩; rw [f3])
  go_ret
  exact ⟨rfl, (Below.refl _ _).alloc (Nat.le_refl _) _⟩

set_option maxRecDepth 100000 in
theorem q_7 (A : Option Addr) (l : List Int) (c : Nat) (d K m B : Int) (w : World) (h : Row w A l) (f0 : vecE l d = 0) (f1 : 1 ≤ K) (f2 : K ≤ 64) (f3 : goodB m = true) (f4 : 0 ≤ B) (f4b : 1000000 < B) (f5 : (m == 1) = false) :
    Calls Try.prog 14 #[.agg #[.slice A l.length c, .int .i64 K, .int .i64 m, .int .i64 B], .int .i64 d] w (ErrPost w (1)) := by
  go_enter Try.func14, Try.ntmps14
  go_wp2_with first | (go_at_call 31; refine (vec_any A l c d _ (h.below ((Below.refl _ _).alloc (Nat.le_refl _) _))).mono ?_; rintro e w' ⟨rfl, rfl⟩; rw [f0]) | (go_at_call 29; refine (good_any m _).mono ?_; rintro e w' ⟨rfl, rfl⟩; rw [f3])
  go_ret
  exact ⟨rfl, (Below.refl _ _).alloc (Nat.le_refl _) _⟩

set_option maxRecDepth 100000 in
theorem rq_7 (A : Option Addr) (l : List Int) (c : Nat) (d K m B : Int) (w : World) (h : Row w A l) (f0 : vecE l d = 0) (f1 : 1 ≤ K) (f2 : K ≤ 64) (f3 : goodB m = true) (f4 : 0 ≤ B) (f4b : 1000000 < B) (f5 : (m == 1) = false) :
    Calls Try.prog 17 #[.agg #[.slice A l.length c, .int .i64 K, .int .i64 m, .int .i64 B], .int .i64 d] w (ErrPost w (1)) := by
  go_enter Try.func17, Try.ntmps17
  go_wp2_with first | (go_at_call 33; refine (rvec_any A l c d _ (h.below ((Below.refl _ _).alloc (Nat.le_refl _) _))).mono ?_; rintro e w' ⟨rfl, rfl⟩; rw [f0]) | (go_at_call 30; refine (mode_any m _).mono ?_; rintro e w' ⟨rfl, rfl⟩; rw [f3])
  go_ret
  exact ⟨rfl, (Below.refl _ _).alloc (Nat.le_refl _) _⟩

set_option maxRecDepth 100000 in
theorem q_8 (A : Option Addr) (l : List Int) (c : Nat) (d K m B : Int) (w : World) (h : Row w A l) (f0 : vecE l d = 0) (f1 : 1 ≤ K) (f2 : K ≤ 64) (f3 : goodB m = true) (f4 : 0 ≤ B) (f4b : B ≤ 1000000) (f5 : (m == 1) = true) (f6 : (B != 0) = true) :
    Calls Try.prog 14 #[.agg #[.slice A l.length c, .int .i64 K, .int .i64 m, .int .i64 B], .int .i64 d] w (ErrPost w (1)) := by
  go_enter Try.func14, Try.ntmps14
  go_wp2_with first | (go_at_call 31; refine (vec_any A l c d _ (h.below ((Below.refl _ _).alloc (Nat.le_refl _) _))).mono ?_; rintro e w' ⟨rfl, rfl⟩; rw [f0]) | (go_at_call 29; refine (good_any m _).mono ?_; rintro e w' ⟨rfl, rfl⟩; rw [f3])
  go_ret
  exact ⟨rfl, (Below.refl _ _).alloc (Nat.le_refl _) _⟩

set_option maxRecDepth 100000 in
theorem rq_8 (A : Option Addr) (l : List Int) (c : Nat) (d K m B : Int) (w : World) (h : Row w A l) (f0 : vecE l d = 0) (f1 : 1 ≤ K) (f2 : K ≤ 64) (f3 : goodB m = true) (f4 : 0 ≤ B) (f4b : B ≤ 1000000) (f5 : (m == 1) = true) (f6 : (B != 0) = true) :
    Calls Try.prog 17 #[.agg #[.slice A l.length c, .int .i64 K, .int .i64 m, .int .i64 B], .int .i64 d] w (ErrPost w (1)) := by
  go_enter Try.func17, Try.ntmps17
  go_wp2_with first | (go_at_call 33; refine (rvec_any A l c d _ (h.below ((Below.refl _ _).alloc (Nat.le_refl _) _))).mono ?_; rintro e w' ⟨rfl, rfl⟩; rw [f0]) | (go_at_call 30; refine (mode_any m _).mono ?_; rintro e w' ⟨rfl, rfl⟩; rw [f3])
  go_ret
  exact ⟨rfl, (Below.refl _ _).alloc (Nat.le_refl _) _⟩

set_option maxRecDepth 100000 in
theorem q_9 (A : Option Addr) (l : List Int) (c : Nat) (d K m B : Int) (w : World) (h : Row w A l) (f0 : vecE l d = 0) (f1 : 1 ≤ K) (f2 : K ≤ 64) (f3 : goodB m = true) (f4 : 0 ≤ B) (f4b : B ≤ 1000000) (f5 : (m == 1) = true) (f6 : (B != 0) = false) :
    Calls Try.prog 14 #[.agg #[.slice A l.length c, .int .i64 K, .int .i64 m, .int .i64 B], .int .i64 d] w (ErrPost w (0)) := by
  go_enter Try.func14, Try.ntmps14
  go_wp2_with first | (go_at_call 31; refine (vec_any A l c d _ (h.below ((Below.refl _ _).alloc (Nat.le_refl _) _))).mono ?_; rintro e w' ⟨rfl, rfl⟩; rw [f0]) | (go_at_call 29; refine (good_any m _).mono ?_; rintro e w' ⟨rfl, rfl⟩; rw [f3])
  go_ret
  exact ⟨rfl, (Below.refl _ _).alloc (Nat.le_refl _) _⟩

set_option maxRecDepth 100000 in
theorem rq_9 (A : Option Addr) (l : List Int) (c : Nat) (d K m B : Int) (w : World) (h : Row w A l) (f0 : vecE l d = 0) (f1 : 1 ≤ K) (f2 : K ≤ 64) (f3 : goodB m = true) (f4 : 0 ≤ B) (f4b : B ≤ 1000000) (f5 : (m == 1) = true) (f6 : (B != 0) = false) :
    Calls Try.prog 17 #[.agg #[.slice A l.length c, .int .i64 K, .int .i64 m, .int .i64 B], .int .i64 d] w (ErrPost w (0)) := by
  go_enter Try.func17, Try.ntmps17
  go_wp2_with first | (go_at_call 33; refine (rvec_any A l c d _ (h.below ((Below.refl _ _).alloc (Nat.le_refl _) _))).mono ?_; rintro e w' ⟨rfl, rfl⟩; rw [f0]) | (go_at_call 30; refine (mode_any m _).mono ?_; rintro e w' ⟨rfl, rfl⟩; rw [f3])
  go_ret
  exact ⟨rfl, (Below.refl _ _).alloc (Nat.le_refl _) _⟩

set_option maxRecDepth 100000 in
theorem q_10 (A : Option Addr) (l : List Int) (c : Nat) (d K m B : Int) (w : World) (h : Row w A l) (f0 : vecE l d = 0) (f1 : 1 ≤ K) (f2 : K ≤ 64) (f3 : goodB m = true) (f4 : 0 ≤ B) (f4b : B ≤ 1000000) (f5 : (m == 1) = false) :
    Calls Try.prog 14 #[.agg #[.slice A l.length c, .int .i64 K, .int .i64 m, .int .i64 B], .int .i64 d] w (ErrPost w (0)) := by
  go_enter Try.func14, Try.ntmps14
  go_wp2_with first | (go_at_call 31; refine (vec_any A l c d _ (h.below ((Below.refl _ _).alloc (Nat.le_refl _) _))).mono ?_; rintro e w' ⟨rfl, rfl⟩; rw [f0]) | (go_at_call 29; refine (good_any m _).mono ?_; rintro e w' ⟨rfl, rfl⟩; rw [f3])
  go_ret
  exact ⟨rfl, (Below.refl _ _).alloc (Nat.le_refl _) _⟩

set_option maxRecDepth 100000 in
theorem rq_10 (A : Option Addr) (l : List Int) (c : Nat) (d K m B : Int) (w : World) (h : Row w A l) (f0 : vecE l d = 0) (f1 : 1 ≤ K) (f2 : K ≤ 64) (f3 : goodB m = true) (f4 : 0 ≤ B) (f4b : B ≤ 1000000) (f5 : (m == 1) = false) :
    Calls Try.prog 17 #[.agg #[.slice A l.length c, .int .i64 K, .int .i64 m, .int .i64 B], .int .i64 d] w (ErrPost w (0)) := by
  go_enter Try.func17, Try.ntmps17
  go_wp2_with first | (go_at_call 33; refine (rvec_any A l c d _ (h.below ((Below.refl _ _).alloc (Nat.le_refl _) _))).mono ?_; rintro e w' ⟨rfl, rfl⟩; rw [f0]) | (go_at_call 30; refine (mode_any m _).mono ?_; rintro e w' ⟨rfl, rfl⟩; rw [f3])
  go_ret
  exact ⟨rfl, (Below.refl _ _).alloc (Nat.le_refl _) _⟩

theorem queryE_cases (l : List Int) (d K m B : Int) (P : Int → Prop)

    (h0 : ((vecE l d != 0) = true) → P (vecE l d))
    (h1 : (vecE l d = 0) → (K < 1) → P (1))
    (h2 : (vecE l d = 0) → (1 ≤ K) → (64 < K) → P (1))
    (h3 : (vecE l d = 0) → (1 ≤ K) → (K ≤ 64) → (goodB m = false) → P (210))
    (h4 : (vecE l d = 0) → (1 ≤ K) → (K ≤ 64) → (goodB m = true) → (B < 0) → ((m == 1) = true) → ((B != 0) = true) → P (1))
    (h5 : (vecE l d = 0) → (1 ≤ K) → (K ≤ 64) → (goodB m = true) → (B < 0) → ((m == 1) = false) → P (1))
    (h6 : (vecE l d = 0) → (1 ≤ K) → (K ≤ 64) → (goodB m = true) → (0 ≤ B) → (1000000 < B) → ((m == 1) = true) → ((B != 0) = true) → P (1))
    (h7 : (vecE l d = 0) → (1 ≤ K) → (K ≤ 64) → (goodB m = true) → (0 ≤ B) → (1000000 < B) → ((m == 1) = false) → P (1))
    (h8 : (vecE l d = 0) → (1 ≤ K) → (K ≤ 64) → (goodB m = true) → (0 ≤ B) → (B ≤ 1000000) → ((m == 1) = true) → ((B != 0) = true) → P (1))
    (h9 : (vecE l d = 0) → (1 ≤ K) → (K ≤ 64) → (goodB m = true) → (0 ≤ B) → (B ≤ 1000000) → ((m == 1) = true) → ((B != 0) = false) → P (0))
    (h10 : (vecE l d = 0) → (1 ≤ K) → (K ≤ 64) → (goodB m = true) → (0 ≤ B) → (B ≤ 1000000) → ((m == 1) = false) → P (0))
    : P (queryE l d K m B) := by
  unfold queryE
  by_cases a0 : vecE l d = 0
  · rw [if_pos a0]
    by_cases a1 : K < 1
    · rw [if_pos (.inl a1)]; exact h1 a0 a1
    by_cases a2 : 64 < K
    · rw [if_pos (.inr a2)]; exact h2 a0 (by omega) a2
    rw [if_neg (by omega)]
    by_cases a3 : goodB m = true
    · rw [if_pos a3]
      by_cases a5 : m = 1
      · by_cases a6 : B = 0
        · rw [if_neg (by omega)]
          exact h9 a0 (by omega) (by omega) a3 (by omega) (by omega) (by simp [a5]) (by simp [a6])
        · rw [if_pos (by omega)]
          by_cases a4 : B < 0
          · exact h4 a0 (by omega) (by omega) a3 a4 (by simp [a5]) (by simp [a6])
          by_cases a7 : 1000000 < B
          · exact h6 a0 (by omega) (by omega) a3 (by omega) a7 (by simp [a5]) (by simp [a6])
          exact h8 a0 (by omega) (by omega) a3 (by omega) (by omega) (by simp [a5]) (by simp [a6])
      · by_cases a4 : B < 0
        · rw [if_pos (by omega)]; exact h5 a0 (by omega) (by omega) a3 a4 (by simp [a5])
        by_cases a7 : 1000000 < B
        · rw [if_pos (by omega)]; exact h7 a0 (by omega) (by omega) a3 (by omega) a7 (by simp [a5])
        rw [if_neg (by omega)]
        exact h10 a0 (by omega) (by omega) a3 (by omega) (by omega) (by simp [a5])
    · rw [if_neg a3]
      exact h3 a0 (by omega) (by omega) (by simpa using a3)
  · rw [if_neg a0]
    exact h0 (by simpa using a0)

theorem query_any (A : Option Addr) (l : List Int) (c : Nat) (d K m B : Int) (w : World) (h : Row w A l) :
    Calls Try.prog 14 #[.agg #[.slice A l.length c, .int .i64 K, .int .i64 m, .int .i64 B], .int .i64 d] w (ErrPost w (queryE l d K m B)) :=
  queryE_cases l d K m B (fun E => Calls Try.prog 14 #[.agg #[.slice A l.length c, .int .i64 K, .int .i64 m, .int .i64 B], .int .i64 d] w (ErrPost w E)) (q_0 A l c d K m B w h) (q_1 A l c d K m B w h) (q_2 A l c d K m B w h) (q_3 A l c d K m B w h) (q_4 A l c d K m B w h) (q_5 A l c d K m B w h) (q_6 A l c d K m B w h) (q_7 A l c d K m B w h) (q_8 A l c d K m B w h) (q_9 A l c d K m B w h) (q_10 A l c d K m B w h)

theorem rquery_any (A : Option Addr) (l : List Int) (c : Nat) (d K m B : Int) (w : World) (h : Row w A l) :
    Calls Try.prog 17 #[.agg #[.slice A l.length c, .int .i64 K, .int .i64 m, .int .i64 B], .int .i64 d] w (ErrPost w (queryE l d K m B)) :=
  queryE_cases l d K m B (fun E => Calls Try.prog 17 #[.agg #[.slice A l.length c, .int .i64 K, .int .i64 m, .int .i64 B], .int .i64 d] w (ErrPost w E)) (rq_0 A l c d K m B w h) (rq_1 A l c d K m B w h) (rq_2 A l c d K m B w h) (rq_3 A l c d K m B w h) (rq_4 A l c d K m B w h) (rq_5 A l c d K m B w h) (rq_6 A l c d K m B w h) (rq_7 A l c d K m B w h) (rq_8 A l c d K m B w h) (rq_9 A l c d K m B w h) (rq_10 A l c d K m B w h)

end Go.Proofs.Ytnhplinlibegnaa
