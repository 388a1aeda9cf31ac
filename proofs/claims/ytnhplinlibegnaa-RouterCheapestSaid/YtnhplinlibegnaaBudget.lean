/- The contracts of router.Budget and theodoliteref15.Budget: one pair of numbers. -/
import Derived.Test.YtnhplinlibegnaaQuery
namespace Go.Proofs.Ytnhplinlibegnaa
open Go.RowKit
set_option linter.unusedVariables false

def budgetE (k a b c r : Int) (l : List Int) (K m B : Int) : Int := if checkE k a b c = 0 then (if r < 0 ∨ 512 < r then 1 else queryE l l.length K m B) else checkE k a b c
def budgetV (k a b c r : Int) (l : List Int) (K m B : Int) : Int := if budgetE k a b c r l K m B = 0 then (if m = 1 then r else min r B) else 0

theorem box2_cells {w w' : World} {o : Obj} {t : TypeId} {k a b c : Value} (hb : Below ((w.alloc o).alloc (.cells #[k, a, b, c] t)).heap.size ((w.alloc o).alloc (.cells #[k, a, b, c] t)) w') :
    w'.cell? ⟨w.heap.size + 1, 0, none⟩ = some k ∧ w'.cell? ⟨w.heap.size + 1, 1, none⟩ = some a ∧ w'.cell? ⟨w.heap.size + 1, 2, none⟩ = some b ∧ w'.cell? ⟨w.heap.size + 1, 3, none⟩ = some c := by
  have h := (Blk.new (w.alloc o) t #[k, a, b, c]).below hb (by simp)
  have e : (w.alloc o).heap.size = w.heap.size + 1 := by simp
  rw [e] at h
  exact ⟨h.cell 0, h.cell 1, h.cell 2, h.cell 3⟩
theorem below2 {w w' : World} {o o2 : Obj} (hb : Below ((w.alloc o).alloc o2).heap.size ((w.alloc o).alloc o2) w') : Below w.heap.size w w' :=
  below_chain (((Below.refl _ _).alloc (Nat.le_refl _) _).alloc (by simp) _) hb (by simp; omega)

set_option maxRecDepth 100000 in
theorem b_0 (k a b c r : Int) (A : Option Addr) (l : List Int) (cap : Nat) (K m B : Int) (w : World) (h : Row w A l) (f0 : (checkE k a b c != 0) = true) :
    Calls Try.prog 13 #[.agg #[.int .i64 k, .int .i64 a, .int .i64 b, .int .i64 c], .int .i64 r, .agg #[.slice A l.length cap, .int .i64 K, .int .i64 m, .int .i64 B]] w (PairPost w (0) (checkE k a b c)) := by
  go_enter Try.func13, Try.ntmps13
  go_wp2_with first | (go_at_call 18; refine (fcheck_any k a b c _).mono ?_; rintro e w' ⟨rfl, hb⟩; obtain ⟨b0, b1, b2, b3⟩ := box2_cells hb) | (go_at_call 14; refine (query_any A l cap l.length K m B _ (h.below (below2 hb))).mono ?_; rintro e w'' ⟨rfl, hb2⟩; obtain ⟨d0, d1, d2, d3⟩ : _ ∧ _ ∧ _ ∧ _ := ⟨below_cell hb2 b0, below_cell hb2 b1, below_cell hb2 b2, below_cell hb2 b3⟩)
  go_ret2
  exact ⟨rfl, below2 hb⟩

set_option maxRecDepth 100000 in
theorem rb_0 (k a b c r : Int) (A : Option Addr) (l : List Int) (cap : Nat) (K m B : Int) (w : World) (h : Row w A l) (f0 : (checkE k a b c != 0) = true) :
    Calls Try.prog 16 #[.agg #[.int .i64 k, .int .i64 a, .int .i64 b, .int .i64 c], .int .i64 r, .agg #[.slice A l.length cap, .int .i64 K, .int .i64 m, .int .i64 B]] w (PairPost w (0) (checkE k a b c)) := by
  go_enter Try.func16, Try.ntmps16
  go_wp2_with first | (go_at_call 25; refine (refCheck_any k a b c _).mono ?_; rintro e w' ⟨rfl, hb⟩; obtain ⟨b0, b1, b2, b3⟩ := box2_cells hb) | (go_at_call 17; refine (rquery_any A l cap l.length K m B _ (h.below (below2 hb))).mono ?_; rintro e w'' ⟨rfl, hb2⟩; obtain ⟨d0, d1, d2, d3⟩ : _ ∧ _ ∧ _ ∧ _ := ⟨below_cell hb2 b0, below_cell hb2 b1, below_cell hb2 b2, below_cell hb2 b3⟩)
  go_ret2
  exact ⟨rfl, below2 hb⟩

set_option maxRecDepth 100000 in
theorem b_1 (k a b c r : Int) (A : Option Addr) (l : List Int) (cap : Nat) (K m B : Int) (w : World) (h : Row w A l) (f0 : checkE k a b c = 0) (f1 : r < 0) :
    Calls Try.prog 13 #[.agg #[.int .i64 k, .int .i64 a, .int .i64 b, .int .i64 c], .int .i64 r, .agg #[.slice A l.length cap, .int .i64 K, .int .i64 m, .int .i64 B]] w (PairPost w (0) (1)) := by
  go_enter Try.func13, Try.ntmps13
  go_wp2_with first | (go_at_call 18; refine (fcheck_any k a b c _).mono ?_; rintro e w' ⟨rfl, hb⟩; rw [f0]; obtain ⟨b0, b1, b2, b3⟩ := box2_cells hb) | (go_at_call 14; refine (query_any A l cap l.length K m B _ (h.below (below2 hb))).mono ?_; rintro e w'' ⟨rfl, hb2⟩; obtain ⟨d0, d1, d2, d3⟩ : _ ∧ _ ∧ _ ∧ _ := ⟨below_cell hb2 b0, below_cell hb2 b1, below_cell hb2 b2, below_cell hb2 b3⟩)
  go_ret2
  exact ⟨rfl, below2 hb⟩

set_option maxRecDepth 100000 in
theorem rb_1 (k a b c r : Int) (A : Option Addr) (l : List Int) (cap : Nat) (K m B : Int) (w : World) (h : Row w A l) (f0 : checkE k a b c = 0) (f1 : r < 0) :
    Calls Try.prog 16 #[.agg #[.int .i64 k, .int .i64 a, .int .i64 b, .int .i64 c], .int .i64 r, .agg #[.slice A l.length cap, .int .i64 K, .int .i64 m, .int .i64 B]] w (PairPost w (0) (1)) := by
  go_enter Try.func16, Try.ntmps16
  go_wp2_with first | (go_at_call 25; refine (refCheck_any k a b c _).mono ?_; rintro e w' ⟨rfl, hb⟩; rw [f0]; obtain ⟨b0, b1, b2, b3⟩ := box2_cells hb) | (go_at_call 17; refine (rquery_any A l cap l.length K m B _ (h.below (below2 hb))).mono ?_; rintro e w'' ⟨rfl, hb2⟩; obtain ⟨d0, d1, d2, d3⟩ : _ ∧ _ ∧ _ ∧ _ := ⟨below_cell hb2 b0, below_cell hb2 b1, below_cell hb2 b2, below_cell hb2 b3⟩)
  go_ret2
  exact ⟨rfl, below2 hb⟩

set_option maxRecDepth 100000 in
theorem b_2 (k a b c r : Int) (A : Option Addr) (l : List Int) (cap : Nat) (K m B : Int) (w : World) (h : Row w A l) (f0 : checkE k a b c = 0) (f1 : 0 ≤ r) (f2 : 512 < r) :
    Calls Try.prog 13 #[.agg #[.int .i64 k, .int .i64 a, .int .i64 b, .int .i64 c], .int .i64 r, .agg #[.slice A l.length cap, .int .i64 K, .int .i64 m, .int .i64 B]] w (PairPost w (0) (1)) := by
  go_enter Try.func13, Try.ntmps13
  go_wp2_with first | (go_at_call 18; refine (fcheck_any k a b c _).mono ?_; rintro e w' ⟨rfl, hb⟩; rw [f0]; obtain ⟨b0, b1, b2, b3⟩ := box2_cells hb) | (go_at_call 14; refine (query_any A l cap l.length K m B _ (h.below (below2 hb))).mono ?_; rintro e w'' ⟨rfl, hb2⟩; obtain ⟨d0, d1, d2, d3⟩ : _ ∧ _ ∧ _ ∧ _ := ⟨below_cell hb2 b0, below_cell hb2 b1, below_cell hb2 b2, below_cell hb2 b3⟩)
  go_ret2
  exact ⟨rfl, below2 hb⟩

set_option maxRecDepth 100000 in
theorem rb_2 (k a b c r : Int) (A : Option Addr) (l : List Int) (cap : Nat) (K m B : Int) (w : World) (h : Row w A l) (f0 : checkE k a b c = 0) (f1 : 0 ≤ r) (f2 : 512 < r) :
    Calls Try.prog 16 #[.agg #[.int .i64 k, .int .i64 a, .int .i64 b, .int .i64 c], .int .i64 r, .agg #[.slice A l.length cap, .int .i64 K, .int .i64 m, .int .i64 B]] w (PairPost w (0) (1)) := by
  go_enter Try.func16, Try.ntmps16
  go_wp2_with first | (go_at_call 25; refine (refCheck_any k a b c _).mono ?_; rintro e w' ⟨rfl, hb⟩; rw [f0]; obtain ⟨b0, b1, b2, b3⟩ := box2_cells hb) | (go_at_call 17; refine (rquery_any A l cap l.length K m B _ (h.below (below2 hb))).mono ?_; rintro e w'' ⟨rfl, hb2⟩; obtain ⟨d0, d1, d2, d3⟩ : _ ∧ _ ∧ _ ∧ _ := ⟨below_cell hb2 b0, below_cell hb2 b1, below_cell hb2 b2, below_cell hb2 b3⟩)
  go_ret2
  exact ⟨rfl, below2 hb⟩

set_option maxRecDepth 100000 in
theorem b_3 (k a b c r : Int) (A : Option Addr) (l : List Int) (cap : Nat) (K m B : Int) (w : World) (h : Row w A l) (f0 : checkE k a b c = 0) (f1 : 0 ≤ r) (f2 : r ≤ 512) (f3 : (queryE l l.length K m B != 0) = true) :
    Calls Try.prog 13 #[.agg #[.int .i64 k, .int .i64 a, .int .i64 b, .int .i64 c], .int .i64 r, .agg #[.slice A l.length cap, .int .i64 K, .int .i64 m, .int .i64 B]] w (PairPost w (0) (queryE l l.length K m B)) := by
  go_enter Try.func13, Try.ntmps13
  go_wp2_with first | (go_at_call 18; refine (fcheck_any k a b c _).mono ?_; rintro e w' ⟨rfl, hb⟩; rw [f0]; obtain ⟨b0, b1, b2, b3⟩ := box2_cells hb) | (go_at_call 14; refine (query_any A l cap l.length K m B _ (h.below (below2 hb))).mono ?_; rintro e w'' ⟨rfl, hb2⟩; obtain ⟨d0, d1, d2, d3⟩ : _ ∧ _ ∧ _ ∧ _ := ⟨below_cell hb2 b0, below_cell hb2 b1, below_cell hb2 b2, below_cell hb2 b3⟩)
  go_ret2
  exact ⟨rfl, below_chain (below2 hb) hb2 (below2 hb).size⟩

set_option maxRecDepth 100000 in
theorem rb_3 (k a b c r : Int) (A : Option Addr) (l : List Int) (cap : Nat) (K m B : Int) (w : World) (h : Row w A l) (f0 : checkE k a b c = 0) (f1 : 0 ≤ r) (f2 : r ≤ 512) (f3 : (queryE l l.length K m B != 0) = true) :
    Calls Try.prog 16 #[.agg #[.int .i64 k, .int .i64 a, .int .i64 b, .int .i64 c], .int .i64 r, .agg #[.slice A l.length cap, .int .i64 K, .int .i64 m, .int .i64 B]] w (PairPost w (0) (queryE l l.length K m B)) := by
  go_enter Try.func16, Try.ntmps16
  go_wp2_with first | (go_at_call 25; refine (refCheck_any k a b c _).mono ?_; rintro e w' ⟨rfl, hb⟩; rw [f0]; obtain ⟨b0, b1, b2, b3⟩ := box2_cells hb) | (go_at_call 17; refine (rquery_any A l cap l.length K m B _ (h.below (below2 hb))).mono ?_; rintro e w'' ⟨rfl, hb2⟩; obtain ⟨d0, d1, d2, d3⟩ : _ ∧ _ ∧ _ ∧ _ := ⟨below_cell hb2 b0, below_cell hb2 b1, below_cell hb2 b2, below_cell hb2 b3⟩)
  go_ret2
  exact ⟨rfl, below_chain (below2 hb) hb2 (below2 hb).size⟩

set_option maxRecDepth 100000 in
theorem b_4 (k a b c r : Int) (A : Option Addr) (l : List Int) (cap : Nat) (K m B : Int) (w : World) (h : Row w A l) (f0 : checkE k a b c = 0) (f1 : 0 ≤ r) (f2 : r ≤ 512) (f3 : queryE l l.length K m B = 0) (f4 : (m == 1) = true) :
    Calls Try.prog 13 #[.agg #[.int .i64 k, .int .i64 a, .int .i64 b, .int .i64 c], .int .i64 r, .agg #[.slice A l.length cap, .int .i64 K, .int .i64 m, .int .i64 B]] w (PairPost w (r) (0)) := by
  go_enter Try.func13, Try.ntmps13
  go_wp2_with first | (go_at_call 18; refine (fcheck_any k a b c _).mono ?_; rintro e w' ⟨rfl, hb⟩; rw [f0]; obtain ⟨b0, b1, b2, b3⟩ := box2_cells hb) | (go_at_call 14; refine (query_any A l cap l.length K m B _ (h.below (below2 hb))).mono ?_; rintro e w'' ⟨rfl, hb2⟩; rw [f3]; obtain ⟨d0, d1, d2, d3⟩ : _ ∧ _ ∧ _ ∧ _ := ⟨below_cell hb2 b0, below_cell hb2 b1, below_cell hb2 b2, below_cell hb2 b3⟩)
  go_ret2
  exact ⟨rfl, below_chain (below2 hb) hb2 (below2 hb).size⟩

set_option maxRecDepth 100000 in
theorem rb_4 (k a b c r : Int) (A : Option Addr) (l : List Int) (cap : Nat) (K m B : Int) (w : World) (h : Row w A l) (f0 : checkE k a b c = 0) (f1 : 0 ≤ r) (f2 : r ≤ 512) (f3 : queryE l l.length K m B = 0) (f4 : (m == 1) = true) :
    Calls Try.prog 16 #[.agg #[.int .i64 k, .int .i64 a, .int .i64 b, .int .i64 c], .int .i64 r, .agg #[.slice A l.length cap, .int .i64 K, .int .i64 m, .int .i64 B]] w (PairPost w (r) (0)) := by
  go_enter Try.func16, Try.ntmps16
  go_wp2_with first | (go_at_call 25; refine (refCheck_any k a b c _).mono ?_; rintro e w' ⟨rfl, hb⟩; rw [f0]; obtain ⟨b0, b1, b2, b3⟩ := box2_cells hb) | (go_at_call 17; refine (rquery_any A l cap l.length K m B _ (h.below (below2 hb))).mono ?_; rintro e w'' ⟨rfl, hb2⟩; rw [f3]; obtain ⟨d0, d1, d2, d3⟩ : _ ∧ _ ∧ _ ∧ _ := ⟨below_cell hb2 b0, below_cell hb2 b1, below_cell hb2 b2, below_cell hb2 b3⟩)
  go_ret2
  exact ⟨rfl, below_chain (below2 hb) hb2 (below2 hb).size⟩

set_option maxRecDepth 100000 in
theorem b_5 (k a b c r : Int) (A : Option Addr) (l : List Int) (cap : Nat) (K m B : Int) (w : World) (h : Row w A l) (f0 : checkE k a b c = 0) (f1 : 0 ≤ r) (f2 : r ≤ 512) (f3 : queryE l l.length K m B = 0) (f4 : (m == 1) = false) :
    Calls Try.prog 13 #[.agg #[.int .i64 k, .int .i64 a, .int .i64 b, .int .i64 c], .int .i64 r, .agg #[.slice A l.length cap, .int .i64 K, .int .i64 m, .int .i64 B]] w (PairPost w (min r B) (0)) := by
  go_enter Try.func13, Try.ntmps13
  go_wp2_with first | (go_at_call 18; refine (fcheck_any k a b c _).mono ?_; rintro e w' ⟨rfl, hb⟩; rw [f0]; obtain ⟨b0, b1, b2, b3⟩ := box2_cells hb) | (go_at_call 14; refine (query_any A l cap l.length K m B _ (h.below (below2 hb))).mono ?_; rintro e w'' ⟨rfl, hb2⟩; rw [f3]; obtain ⟨d0, d1, d2, d3⟩ : _ ∧ _ ∧ _ ∧ _ := ⟨below_cell hb2 b0, below_cell hb2 b1, below_cell hb2 b2, below_cell hb2 b3⟩)
  go_ret2
  exact ⟨rfl, below_chain (below2 hb) hb2 (below2 hb).size⟩

set_option maxRecDepth 100000 in
theorem rb_5 (k a b c r : Int) (A : Option Addr) (l : List Int) (cap : Nat) (K m B : Int) (w : World) (h : Row w A l) (f0 : checkE k a b c = 0) (f1 : 0 ≤ r) (f2 : r ≤ 512) (f3 : queryE l l.length K m B = 0) (f4 : (m == 1) = false) :
    Calls Try.prog 16 #[.agg #[.int .i64 k, .int .i64 a, .int .i64 b, .int .i64 c], .int .i64 r, .agg #[.slice A l.length cap, .int .i64 K, .int .i64 m, .int .i64 B]] w (PairPost w (min r B) (0)) := by
  go_enter Try.func16, Try.ntmps16
  go_wp2_with first | (go_at_call 25; refine (refCheck_any k a b c _).mono ?_; rintro e w' ⟨rfl, hb⟩; rw [f0]; obtain ⟨b0, b1, b2, b3⟩ := box2_cells hb) | (go_at_call 17; refine (rquery_any A l cap l.length K m B _ (h.below (below2 hb))).mono ?_; rintro e w'' ⟨rfl, hb2⟩; rw [f3]; obtain ⟨d0, d1, d2, d3⟩ : _ ∧ _ ∧ _ ∧ _ := ⟨below_cell hb2 b0, below_cell hb2 b1, below_cell hb2 b2, below_cell hb2 b3⟩)
  go_ret2
  exact ⟨rfl, below_chain (below2 hb) hb2 (below2 hb).size⟩

theorem budget_cases (k a b c r : Int) (l : List Int) (K m B : Int) (P : Int → Int → Prop)

    (h0 : ((checkE k a b c != 0) = true) → P (0) (checkE k a b c))
    (h1 : (checkE k a b c = 0) → (r < 0) → P (0) (1))
    (h2 : (checkE k a b c = 0) → (0 ≤ r) → (512 < r) → P (0) (1))
    (h3 : (checkE k a b c = 0) → (0 ≤ r) → (r ≤ 512) → ((queryE l l.length K m B != 0) = true) → P (0) (queryE l l.length K m B))
    (h4 : (checkE k a b c = 0) → (0 ≤ r) → (r ≤ 512) → (queryE l l.length K m B = 0) → ((m == 1) = true) → P (r) (0))
    (h5 : (checkE k a b c = 0) → (0 ≤ r) → (r ≤ 512) → (queryE l l.length K m B = 0) → ((m == 1) = false) → P (min r B) (0))
    : P (budgetV k a b c r l K m B) (budgetE k a b c r l K m B) := by
  by_cases a0 : checkE k a b c = 0
  · by_cases a1 : r < 0 ∨ 512 < r
    · have e : budgetE k a b c r l K m B = 1 := by rw [budgetE, if_pos a0, if_pos a1]
      have v : budgetV k a b c r l K m B = 0 := by rw [budgetV, e]; rfl
      rw [e, v]
      by_cases a2 : r < 0
      · exact h1 a0 a2
      · exact h2 a0 (by omega) (by omega)
    · have e : budgetE k a b c r l K m B = queryE l l.length K m B := by rw [budgetE, if_pos a0, if_neg a1]
      by_cases a3 : queryE l l.length K m B = 0
      · rw [a3] at e
        by_cases a4 : m = 1
        · have v : budgetV k a b c r l K m B = r := by rw [budgetV, if_pos e, if_pos a4]
          rw [e, v]
          exact h4 a0 (by omega) (by omega) a3 (by simp [a4])
        · have v : budgetV k a b c r l K m B = min r B := by rw [budgetV, if_pos e, if_neg a4]
          rw [e, v]
          exact h5 a0 (by omega) (by omega) a3 (by simp [a4])
      · have v : budgetV k a b c r l K m B = 0 := by rw [budgetV, e, if_neg a3]
        rw [e, v]
        exact h3 a0 (by omega) (by omega) (by simpa using a3)
  · have e : budgetE k a b c r l K m B = checkE k a b c := by rw [budgetE, if_neg a0]
    have v : budgetV k a b c r l K m B = 0 := by rw [budgetV, e, if_neg a0]
    rw [e, v]
    exact h0 (by simpa using a0)

theorem budget_any (k a b c r : Int) (A : Option Addr) (l : List Int) (cap : Nat) (K m B : Int) (w : World) (h : Row w A l) :
    Calls Try.prog 13 #[.agg #[.int .i64 k, .int .i64 a, .int .i64 b, .int .i64 c], .int .i64 r, .agg #[.slice A l.length cap, .int .i64 K, .int .i64 m, .int .i64 B]] w (PairPost w (budgetV k a b c r l K m B) (budgetE k a b c r l K m B)) :=
  budget_cases k a b c r l K m B (fun V E => Calls Try.prog 13 #[.agg #[.int .i64 k, .int .i64 a, .int .i64 b, .int .i64 c], .int .i64 r, .agg #[.slice A l.length cap, .int .i64 K, .int .i64 m, .int .i64 B]] w (PairPost w V E)) (b_0 k a b c r A l cap K m B w h) (b_1 k a b c r A l cap K m B w h) (b_2 k a b c r A l cap K m B w h) (b_3 k a b c r A l cap K m B w h) (b_4 k a b c r A l cap K m B w h) (b_5 k a b c r A l cap K m B w h)

theorem rbudget_any (k a b c r : Int) (A : Option Addr) (l : List Int) (cap : Nat) (K m B : Int) (w : World) (h : Row w A l) :
    Calls Try.prog 16 #[.agg #[.int .i64 k, .int .i64 a, .int .i64 b, .int .i64 c], .int .i64 r, .agg #[.slice A l.length cap, .int .i64 K, .int .i64 m, .int .i64 B]] w (PairPost w (budgetV k a b c r l K m B) (budgetE k a b c r l K m B)) :=
  budget_cases k a b c r l K m B (fun V E => Calls Try.prog 16 #[.agg #[.int .i64 k, .int .i64 a, .int .i64 b, .int .i64 c], .int .i64 r, .agg #[.slice A l.length cap, .int .i64 K, .int .i64 m, .int .i64 B]] w (PairPost w V E)) (rb_0 k a b c r A l cap K m B w h) (rb_1 k a b c r A l cap K m B w h) (rb_2 k a b c r A l cap K m B w h) (rb_3 k a b c r A l cap K m B w h) (rb_4 k a b c r A l cap K m B w h) (rb_5 k a b c r A l cap K m B w h)

end Go.Proofs.Ytnhplinlibegnaa
