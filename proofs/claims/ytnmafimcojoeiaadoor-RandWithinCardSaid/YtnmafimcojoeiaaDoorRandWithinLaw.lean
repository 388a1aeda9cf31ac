/- The walk of the statement RandWithin: true at every seed and number, where the library's table lies as laid. -/
import Derived.Test.YtnmafimcojoeiaaDoorRandLevel
import Derived.Test.YtnmafimcojoeiaaDoorRandAwake
import Derived.BigQuiet
namespace Go.Proofs.YtnmafimcojoeiaaDoor
open Go.RowKit

set_option maxRecDepth 100000 in
set_option maxHeartbeats 1000000 in
theorem randWithin_bad (seed n : Int) (w : World) (h : n < 1 ∨ 1000000000 < n) : Calls Tryd.prog 3 #[.int .u64 seed, .int .i64 n] w fun e w' => e = .returned (.bool true) ∧ Below w.heap.size w w' := by
  go_enter Tryd.func3, Tryd.ntmps3
  go_wp2_with fail
  refine (new_src _ _).mono ?_
  rintro e w1 ⟨s, rfl, b1, l1, f1⟩
  have B1 := below_of_grown (Below.refl _ w) f1 (by simp)
  go_wp2_with fail
  refine (new_src _ _).mono ?_
  rintro e w2 ⟨t, rfl, c2, l2, f2⟩
  have hne : s ≠ t := by have := b1.lt; omega
  have b2 := b1.grown f2 (by simp)
  have B2 := below_of_grown B1 f2 (by simp)
  have z2 := B1.size
  clear b1 f1 f2 B1
  go_wp2_with fail
  refine (below_bad _ _ _ h).mono ?_
  rintro e w3 ⟨rfl, rfl⟩
  go_wp2_with fail
  refine (awake_any _).mono ?_
  rintro e w5 ⟨rfl, B5⟩
  have b5 := b2.below B5 b2.lt
  have c5 := c2.below B5 c2.lt
  have D5 : Below w.heap.size w w5 := B2.trans (B5.mono B2.size)
  clear b2 c2 B2 B5
  rcases h with h | h
  · have h' : n ≤ 1000000000 := by omega
    go_wp2_with fail
    refine (next_src _ _ _ b5).mono ?_
    rintro e w6 ⟨rfl, b6, f6⟩
    have c6 := c5.grown f6 (by simp; omega)
    have D6 := below_of_grown D5 f6 (by simp; omega)
    clear b5 c5 f6 D5
    go_wp2_with fail
    refine (next_src _ _ _ c6).mono ?_
    rintro e w7 ⟨rfl, c7, f7⟩
    have D7 := below_of_grown D6 f7 (by simp; omega)
    clear b6 c6 c7 f7 D6
    go_wp2
    go_ret
    exact ⟨rfl, D7⟩
  · have h' : 1 ≤ n := by omega
    go_wp2_with fail
    refine (next_src _ _ _ b5).mono ?_
    rintro e w6 ⟨rfl, b6, f6⟩
    have c6 := c5.grown f6 (by simp; omega)
    have D6 := below_of_grown D5 f6 (by simp; omega)
    clear b5 c5 f6 D5
    go_wp2_with fail
    refine (next_src _ _ _ c6).mono ?_
    rintro e w7 ⟨rfl, c7, f7⟩
    have D7 := below_of_grown D6 f7 (by simp; omega)
    clear b6 c6 c7 f7 D6
    go_wp2
    go_ret
    exact ⟨rfl, D7⟩

set_option maxRecDepth 100000 in
set_option maxHeartbeats 2000000 in
theorem randWithin_low (seed n : Int) (w : World) (hT : Tab w) (h1 : 1 ≤ n) (h2 : n ≤ 30) : Calls Tryd.prog 3 #[.int .u64 seed, .int .i64 n] w fun e w' => e = .returned (.bool true) ∧ Below w.heap.size w w' := by
  have hd := draw_range seed
  obtain ⟨D, hD⟩ : ∃ D, draw seed = D := ⟨_, rfl⟩
  rw [hD] at hd
  have m0 : 0 ≤ D % n := Int.emod_nonneg _ (by omega)
  have m1 : D % n < n := Int.emod_lt_of_pos _ (by omega)
  have d0 := hd.1
  have d1 := hd.2
  clear hd
  have hD' := Lib.hid hD
  clear hD
  have h4 : 1 ≤ n := by omega
  have h5 : n ≤ 1000000000 := by omega
  go_enter Tryd.func3, Tryd.ntmps3
  go_wp2_with fail
  refine (new_src _ _).mono ?_
  rintro e w1 ⟨s, rfl, b1, l1, f1⟩
  have B1 := below_of_grown (Below.refl _ w) f1 (by simp)
  have T1 := hT.grown f1 (by simp)
  go_wp2_with fail
  refine (new_src _ _).mono ?_
  rintro e w2 ⟨t, rfl, c2, l2, f2⟩
  have hne : s ≠ t := by have := b1.lt; omega
  have b2 := b1.grown f2 (by simp)
  have B2 := below_of_grown B1 f2 (by simp)
  have T2 := T1.grown f2 (by simp)
  have s0 : s ≠ 0 := by have := hT.lt; omega
  have z2 := B1.size
  clear b1 f1 f2 B1 T1
  go_wp2_with fail
  refine (below_src _ _ _ _ b2 h4 h5).mono ?_
  rintro e w3 ⟨rfl, b3, f3⟩
  rw [hD'.out]
  have c3 := c2.grown f3 (by simp; omega)
  have B3 := below_of_grown B2 f3 (by simp; omega)
  have T3 := T2.grown f3 (by simp; omega)
  clear b2 c2 f3 B2 T2
  have hl := levelOf_range (adv seed) n (by omega)
  obtain ⟨V, hV⟩ : ∃ V, levelOf (adv seed) n = V := ⟨_, rfl⟩
  rw [hV] at hl
  obtain ⟨e0, e1, _⟩ := hl
  have e2 : V ≤ 30 := by omega
  have hV' := Lib.hid hV
  clear hV
  go_wp2_with fail
  refine (level_src _ _ _ _ b3 T3 s0 (by omega) h2).mono ?_
  rintro e w4 ⟨rfl, b4, f4⟩
  rw [hV'.out]
  have c4 := c3.grown f4 (by simp; omega)
  have B4 := below_of_grown B3 f4 (by simp; omega)
  clear b3 c3 f4 B3 T3
  go_wp2_with fail
  refine (next_src _ _ _ c4).mono ?_
  rintro e w5 ⟨rfl, c5, f5⟩
  rw [hD'.out]
  have b5 := b4.grown f5 (by simp; omega)
  have B5 := below_of_grown B4 f5 (by simp; omega)
  clear b4 c4 f5 B4
  go_wp2_with fail
  refine (next_src _ _ _ c5).mono ?_
  rintro e w6 ⟨rfl, c6, f6⟩
  have b6 := b5.grown f6 (by simp; omega)
  have B6 := below_of_grown B5 f6 (by simp; omega)
  clear b5 c5 f6 B5
  go_wp2_with fail
  refine (awake_any _).mono ?_
  rintro e w7 ⟨rfl, B7⟩
  have b7 := b6.below B7 b6.lt
  have c7 := c6.below B7 c6.lt
  have D7 : Below w.heap.size w w7 := B6.trans (B7.mono B6.size)
  clear b6 c6 B6 B7
  go_wp2_with fail
  refine (next_src _ _ _ b7).mono ?_
  rintro e w8 ⟨rfl, b8, f8⟩
  have c8 := c7.grown f8 (by simp; omega)
  have D8 := below_of_grown D7 f8 (by simp; omega)
  clear b7 c7 f8 D7
  go_wp2_with fail
  refine (next_src _ _ _ c8).mono ?_
  rintro e w9 ⟨rfl, c9, f9⟩
  have D9 := below_of_grown D8 f9 (by simp; omega)
  clear b8 c8 c9 f9 D8
  go_wp2
  go_ret
  exact ⟨rfl, D9⟩

set_option maxRecDepth 100000 in
set_option maxHeartbeats 2000000 in
theorem randWithin_high (seed n : Int) (w : World) (hT : Tab w) (h1 : 30 < n) (h2 : n ≤ 1000000000) : Calls Tryd.prog 3 #[.int .u64 seed, .int .i64 n] w fun e w' => e = .returned (.bool true) ∧ Below w.heap.size w w' := by
  have hd := draw_range seed
  obtain ⟨D, hD⟩ : ∃ D, draw seed = D := ⟨_, rfl⟩
  rw [hD] at hd
  have m0 : 0 ≤ D % n := Int.emod_nonneg _ (by omega)
  have m1 : D % n < n := Int.emod_lt_of_pos _ (by omega)
  have d0 := hd.1
  have d1 := hd.2
  clear hd
  have hD' := Lib.hid hD
  clear hD
  have h4 : 1 ≤ n := by omega
  have h5 : n ≤ 1000000000 := by omega
  go_enter Tryd.func3, Tryd.ntmps3
  go_wp2_with fail
  refine (new_src _ _).mono ?_
  rintro e w1 ⟨s, rfl, b1, l1, f1⟩
  have B1 := below_of_grown (Below.refl _ w) f1 (by simp)
  have T1 := hT.grown f1 (by simp)
  go_wp2_with fail
  refine (new_src _ _).mono ?_
  rintro e w2 ⟨t, rfl, c2, l2, f2⟩
  have hne : s ≠ t := by have := b1.lt; omega
  have b2 := b1.grown f2 (by simp)
  have B2 := below_of_grown B1 f2 (by simp)
  have T2 := T1.grown f2 (by simp)
  have s0 : s ≠ 0 := by have := hT.lt; omega
  have z2 := B1.size
  clear b1 f1 f2 B1 T1
  go_wp2_with fail
  refine (below_src _ _ _ _ b2 h4 h5).mono ?_
  rintro e w3 ⟨rfl, b3, f3⟩
  rw [hD'.out]
  have c3 := c2.grown f3 (by simp; omega)
  have B3 := below_of_grown B2 f3 (by simp; omega)
  have T3 := T2.grown f3 (by simp; omega)
  clear b2 c2 f3 B2 T2
  go_wp2_with fail
  refine (level_bad _ _ _ (by omega)).mono ?_
  rintro e w4 ⟨rfl, rfl⟩
  go_wp2_with fail
  refine (next_src _ _ _ c3).mono ?_
  rintro e w6 ⟨rfl, c6, f6⟩
  rw [hD'.out]
  have b6 := b3.grown f6 (by simp; omega)
  have B6 := below_of_grown B3 f6 (by simp; omega)
  clear b3 c3 f6 B3 T3
  go_wp2_with fail
  refine (awake_any _).mono ?_
  rintro e w7 ⟨rfl, B7⟩
  have b7 := b6.below B7 b6.lt
  have c7 := c6.below B7 c6.lt
  have D7 : Below w.heap.size w w7 := B6.trans (B7.mono B6.size)
  clear b6 c6 B6 B7
  go_wp2_with fail
  refine (next_src _ _ _ b7).mono ?_
  rintro e w8 ⟨rfl, b8, f8⟩
  have c8 := c7.grown f8 (by simp; omega)
  have D8 := below_of_grown D7 f8 (by simp; omega)
  clear b7 c7 f8 D7
  go_wp2_with fail
  refine (next_src _ _ _ c8).mono ?_
  rintro e w9 ⟨rfl, c9, f9⟩
  have D9 := below_of_grown D8 f9 (by simp; omega)
  clear b8 c8 c9 f9 D8
  go_wp2
  go_ret
  exact ⟨rfl, D9⟩

theorem randWithin_any (seed n : Int) (w : World) (hT : Tab w) : Calls Tryd.prog 3 #[.int .u64 seed, .int .i64 n] w fun e w' => e = .returned (.bool true) ∧ Below w.heap.size w w' := by
  by_cases h : n < 1 ∨ 1000000000 < n
  · exact randWithin_bad seed n w h
  · by_cases h' : n ≤ 30
    · exact randWithin_low seed n w hT (by omega) h'
    · exact randWithin_high seed n w hT (by omega) (by omega)
end Go.Proofs.YtnmafimcojoeiaaDoor
