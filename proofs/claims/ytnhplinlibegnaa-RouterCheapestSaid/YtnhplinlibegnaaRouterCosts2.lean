/- The contracts of router.Cost and of theodoliteref15.Cost: one pure pair of numbers. -/
import Derived.Test.YtnhplinlibegnaaRouterCost
namespace Go.Proofs.Ytnhplinlibegnaa
open Go.RowKit

def costC (k a b c r d : Int) : Int :=
  if k = 2 then fewC r d (2 * a) else if k = 3 then fewC r d (3 * a) else if k = 4 then d * (a + upC (2 * r) a) else if k = 5 then d * (a + c + 16) + b * upC r a else if k = 6 then fewC r d (4 * a) else d * r
def costE (k a b c r d : Int) : Int := if checkE k a b c = 0 then (if r < 0 ∨ 512 < r ∨ d < 1 ∨ 64 < d then 1 else 0) else checkE k a b c
def costV (k a b c r d : Int) : Int := if costE k a b c r d = 0 then costC k a b c r d else 0
def PairPost (w : World) (v f : Int) (e : Ending) (w' : World) : Prop := e = .returned (.tuple #[.int .i64 v, .int .i64 f]) ∧ Below w.heap.size w w'

theorem inLim_zero {m0 m1 m2 a b c : Int} (h : inLim m0 m1 m2 a b c = 0) : (min 1 m0 ≤ a ∧ a ≤ m0) ∧ (min 1 m1 ≤ b ∧ b ≤ m1) ∧ (min 1 m2 ≤ c ∧ c ≤ m2) := by
  unfold inLim at h
  split at h
  · assumption
  · simp at h

set_option maxRecDepth 100000 in
theorem cost_bad (k a b c r d : Int) (h : checkE k a b c ≠ 0) (w : World) : Calls Try.prog 7 #[.agg #[.int .i64 k, .int .i64 a, .int .i64 b, .int .i64 c], .int .i64 r, .int .i64 d] w (PairPost w (costV k a b c r d) (costE k a b c r d)) := by
  have he : costE k a b c r d = checkE k a b c := by simp [costE, h]
  have hv : costV k a b c r d = 0 := by simp [costV, he, h]
  rw [he, hv]
  generalize hE : checkE k a b c = E at *
  have hne : (E != 0) = true := by simpa using h
  clear h he hv
  go_enter Try.func7, Try.ntmps7
  go_wp2_with (go_at_call 18; refine (fcheck_any k a b c _).mono ?_; rintro e w' ⟨rfl, hb⟩; rw [hE])
  go_ret2
  exact ⟨rfl, below_chain (((Below.refl _ _).alloc (Nat.le_refl _) _)) hb (by simp)⟩

theorem cost_range (k a b c r d : Int) (h : checkE k a b c = 0) (hr : r < 0 ∨ 512 < r ∨ d < 1 ∨ 64 < d) (w : World) : Calls Try.prog 7 #[.agg #[.int .i64 k, .int .i64 a, .int .i64 b, .int .i64 c], .int .i64 r, .int .i64 d] w (PairPost w (costV k a b c r d) (costE k a b c r d)) := by
  have he : costE k a b c r d = 1 := by simp [costE, h, hr]
  have hv : costV k a b c r d = 0 := by simp [costV, he]
  rw [he, hv]
  clear he hv
  by_cases h1 : r < 0
  · clear hr
    go_enter Try.func7, Try.ntmps7
    go_wp2_with (go_at_call 18; refine (fcheck_any k a b c _).mono ?_; rintro e w' ⟨rfl, hb⟩; rw [h])
    go_ret2
    exact ⟨rfl, below_chain (((Below.refl _ _).alloc (Nat.le_refl _) _)) hb (by simp)⟩
  have g1 : 0 ≤ r := by omega
  by_cases h2 : 512 < r
  · clear hr h1
    go_enter Try.func7, Try.ntmps7
    go_wp2_with (go_at_call 18; refine (fcheck_any k a b c _).mono ?_; rintro e w' ⟨rfl, hb⟩; rw [h])
    go_ret2
    exact ⟨rfl, below_chain (((Below.refl _ _).alloc (Nat.le_refl _) _)) hb (by simp)⟩
  have g2 : r ≤ 512 := by omega
  by_cases h3 : d < 1
  · clear hr h1 h2
    go_enter Try.func7, Try.ntmps7
    go_wp2_with (go_at_call 18; refine (fcheck_any k a b c _).mono ?_; rintro e w' ⟨rfl, hb⟩; rw [h])
    go_ret2
    exact ⟨rfl, below_chain (((Below.refl _ _).alloc (Nat.le_refl _) _)) hb (by simp)⟩
  have g3 : 1 ≤ d := by omega
  have h4 : 64 < d := by omega
  clear hr h1 h2 h3
  go_enter Try.func7, Try.ntmps7
  go_wp2_with (go_at_call 18; refine (fcheck_any k a b c _).mono ?_; rintro e w' ⟨rfl, hb⟩; rw [h])
  go_ret2
  exact ⟨rfl, below_chain (((Below.refl _ _).alloc (Nat.le_refl _) _)) hb (by simp)⟩

theorem box_cells {w w' : World} {t : TypeId} {k a b c : Value} (hb : Below (w.alloc (.cells #[k, a, b, c] t)).heap.size (w.alloc (.cells #[k, a, b, c] t)) w') :
    w'.cell? ⟨w.heap.size, 0, none⟩ = some k ∧ w'.cell? ⟨w.heap.size, 1, none⟩ = some a ∧ w'.cell? ⟨w.heap.size, 2, none⟩ = some b ∧ w'.cell? ⟨w.heap.size, 3, none⟩ = some c := by
  have h := (Blk.new w t #[k, a, b, c]).below hb (by simp)
  exact ⟨h.cell 0, h.cell 1, h.cell 2, h.cell 3⟩

set_option maxRecDepth 100000 in
theorem cost_1 (a b c r d : Int) (h : checkE 1 a b c = 0) (hr : 0 ≤ r ∧ r ≤ 512) (hd : 1 ≤ d ∧ d ≤ 64) (w : World) : Calls Try.prog 7 #[.agg #[.int .i64 1, .int .i64 a, .int .i64 b, .int .i64 c], .int .i64 r, .int .i64 d] w (PairPost w (d * r) 0) := by
  go_enter Try.func7, Try.ntmps7
  go_wp2_with first | (go_at_call 18; refine (fcheck_any 1 a b c _).mono ?_; rintro e w' ⟨rfl, hb⟩; rw [h]; obtain ⟨c0, c1, c2, c3⟩ := box_cells hb) | (go_at_call 19; refine (house_flat 1 a b c r d hr hd _).mono ?_; rintro e w'' ⟨rfl, hb2⟩)
  go_ret2
  exact ⟨rfl, below_chain (below_chain (((Below.refl _ _).alloc (Nat.le_refl _) _)) hb (by simp)) hb2 (by have := hb.size; simp at this; omega)⟩

set_option maxRecDepth 100000 in
theorem cost_2 (a b c r d : Int) (h : checkE 2 a b c = 0) (hr : 0 ≤ r ∧ r ≤ 512) (hd : 1 ≤ d ∧ d ≤ 64) (ha : 1 ≤ a ∧ a ≤ 64) (w : World) : Calls Try.prog 7 #[.agg #[.int .i64 2, .int .i64 a, .int .i64 b, .int .i64 c], .int .i64 r, .int .i64 d] w (PairPost w (fewC r d (2 * a)) 0) := by
  go_enter Try.func7, Try.ntmps7
  go_wp2_with first | (go_at_call 18; refine (fcheck_any 2 a b c _).mono ?_; rintro e w' ⟨rfl, hb⟩; rw [h]; obtain ⟨c0, c1, c2, c3⟩ := box_cells hb) | (go_at_call 20; refine (house_kd 2 a b c r d hr hd ha _).mono ?_; rintro e w'' ⟨rfl, hb2⟩)
  go_ret2
  exact ⟨rfl, below_chain (below_chain (((Below.refl _ _).alloc (Nat.le_refl _) _)) hb (by simp)) hb2 (by have := hb.size; simp at this; omega)⟩

set_option maxRecDepth 100000 in
theorem cost_3 (a b c r d : Int) (h : checkE 3 a b c = 0) (hr : 0 ≤ r ∧ r ≤ 512) (hd : 1 ≤ d ∧ d ≤ 64) (ha : 1 ≤ a ∧ a ≤ 64) (w : World) : Calls Try.prog 7 #[.agg #[.int .i64 3, .int .i64 a, .int .i64 b, .int .i64 c], .int .i64 r, .int .i64 d] w (PairPost w (fewC r d (3 * a)) 0) := by
  go_enter Try.func7, Try.ntmps7
  go_wp2_with first | (go_at_call 18; refine (fcheck_any 3 a b c _).mono ?_; rintro e w' ⟨rfl, hb⟩; rw [h]; obtain ⟨c0, c1, c2, c3⟩ := box_cells hb) | (go_at_call 21; refine (house_vp 3 a b c r d hr hd ha _).mono ?_; rintro e w'' ⟨rfl, hb2⟩)
  go_ret2
  exact ⟨rfl, below_chain (below_chain (((Below.refl _ _).alloc (Nat.le_refl _) _)) hb (by simp)) hb2 (by have := hb.size; simp at this; omega)⟩

set_option maxRecDepth 100000 in
theorem cost_4 (a b c r d : Int) (h : checkE 4 a b c = 0) (hr : 0 ≤ r ∧ r ≤ 512) (hd : 1 ≤ d ∧ d ≤ 64) (ha : 1 ≤ a ∧ a ≤ 64) (w : World) : Calls Try.prog 7 #[.agg #[.int .i64 4, .int .i64 a, .int .i64 b, .int .i64 c], .int .i64 r, .int .i64 d] w (PairPost w (d * (a + upC (2 * r) a)) 0) := by
  go_enter Try.func7, Try.ntmps7
  go_wp2_with first | (go_at_call 18; refine (fcheck_any 4 a b c _).mono ?_; rintro e w' ⟨rfl, hb⟩; rw [h]; obtain ⟨c0, c1, c2, c3⟩ := box_cells hb) | (go_at_call 22; refine (house_ivf 4 a b c r d hr hd ha _).mono ?_; rintro e w'' ⟨rfl, hb2⟩)
  go_ret2
  exact ⟨rfl, below_chain (below_chain (((Below.refl _ _).alloc (Nat.le_refl _) _)) hb (by simp)) hb2 (by have := hb.size; simp at this; omega)⟩

set_option maxRecDepth 100000 in
theorem cost_5 (a b c r d : Int) (h : checkE 5 a b c = 0) (hr : 0 ≤ r ∧ r ≤ 512) (hd : 1 ≤ d ∧ d ≤ 64) (ha : 1 ≤ a ∧ a ≤ 64) (hbb : 1 ≤ b ∧ b ≤ 8) (hcc : 1 ≤ c ∧ c ≤ 16) (w : World) : Calls Try.prog 7 #[.agg #[.int .i64 5, .int .i64 a, .int .i64 b, .int .i64 c], .int .i64 r, .int .i64 d] w (PairPost w (d * (a + c + 16) + b * upC r a) 0) := by
  go_enter Try.func7, Try.ntmps7
  go_wp2_with first | (go_at_call 18; refine (fcheck_any 5 a b c _).mono ?_; rintro e w' ⟨rfl, hb⟩; rw [h]; obtain ⟨c0, c1, c2, c3⟩ := box_cells hb) | (go_at_call 23; refine (house_pq 5 a b c r d hr hd ha hbb hcc _).mono ?_; rintro e w'' ⟨rfl, hb2⟩)
  go_ret2
  exact ⟨rfl, below_chain (below_chain (((Below.refl _ _).alloc (Nat.le_refl _) _)) hb (by simp)) hb2 (by have := hb.size; simp at this; omega)⟩

set_option maxRecDepth 100000 in
theorem cost_6 (a b c r d : Int) (h : checkE 6 a b c = 0) (hr : 0 ≤ r ∧ r ≤ 512) (hd : 1 ≤ d ∧ d ≤ 64) (ha : 1 ≤ a ∧ a ≤ 64) (w : World) : Calls Try.prog 7 #[.agg #[.int .i64 6, .int .i64 a, .int .i64 b, .int .i64 c], .int .i64 r, .int .i64 d] w (PairPost w (fewC r d (4 * a)) 0) := by
  go_enter Try.func7, Try.ntmps7
  go_wp2_with first | (go_at_call 18; refine (fcheck_any 6 a b c _).mono ?_; rintro e w' ⟨rfl, hb⟩; rw [h]; obtain ⟨c0, c1, c2, c3⟩ := box_cells hb) | (go_at_call 24; refine (house_hnsw 6 a b c r d hr hd ha _).mono ?_; rintro e w'' ⟨rfl, hb2⟩)
  go_ret2
  exact ⟨rfl, below_chain (below_chain (((Below.refl _ _).alloc (Nat.le_refl _) _)) hb (by simp)) hb2 (by have := hb.size; simp at this; omega)⟩

theorem checkE_zero {k a b c : Int} (h : checkE k a b c = 0) : k = 1 ∨ ((k = 2 ∨ k = 3 ∨ k = 4) ∧ 1 ≤ a ∧ a ≤ 64) ∨ (k = 5 ∧ (1 ≤ a ∧ a ≤ 64) ∧ (1 ≤ b ∧ b ≤ 8) ∧ (1 ≤ c ∧ c ≤ 16)) ∨ (k = 6 ∧ 1 ≤ a ∧ a ≤ 16) := by
  unfold checkE at h
  split at h
  · exact .inl ‹_›
  · split at h
    · have := inLim_zero h
      exact .inr (.inl ⟨‹_›, by omega, by omega⟩)
    · split at h
      · have := inLim_zero h
        exact .inr (.inr (.inl ⟨‹_›, by omega, by omega, by omega⟩))
      · split at h
        · have := inLim_zero h
          exact .inr (.inr (.inr ⟨‹_›, by omega, by omega⟩))
        · simp at h

theorem cost_any (k a b c r d : Int) (w : World) : Calls Try.prog 7 #[.agg #[.int .i64 k, .int .i64 a, .int .i64 b, .int .i64 c], .int .i64 r, .int .i64 d] w (PairPost w (costV k a b c r d) (costE k a b c r d)) := by
  by_cases h : checkE k a b c = 0
  · by_cases hr : r < 0 ∨ 512 < r ∨ d < 1 ∨ 64 < d
    · exact cost_range k a b c r d h hr w
    · have he : costE k a b c r d = 0 := by simp [costE, h, hr]
      have hr' : 0 ≤ r ∧ r ≤ 512 := by omega
      have hd' : 1 ≤ d ∧ d ≤ 64 := by omega
      have hv : costV k a b c r d = costC k a b c r d := by simp [costV, he]
      rw [he, hv]
      rcases checkE_zero h with rfl | ⟨rfl | rfl | rfl, ha⟩ | ⟨rfl, ha, hbb, hcc⟩ | ⟨rfl, ha⟩
      · exact cost_1 a b c r d h hr' hd' w
      · exact cost_2 a b c r d h hr' hd' ha w
      · exact cost_3 a b c r d h hr' hd' ha w
      · exact cost_4 a b c r d h hr' hd' ha w
      · exact cost_5 a b c r d h hr' hd' ha hbb hcc w
      · exact cost_6 a b c r d h hr' hd' ⟨ha.1, by omega⟩ w
  · exact cost_bad k a b c r d h w
end Go.Proofs.Ytnhplinlibegnaa
