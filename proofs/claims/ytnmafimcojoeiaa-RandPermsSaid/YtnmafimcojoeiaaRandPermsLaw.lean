/- The walk of the statement RandPerms: true at every seed and number. -/
import Derived.Test.YtnmafimcojoeiaaRandPerm
import Derived.Test.YtnmafimcojoeiaaRandPlain
import Derived.Test.YtnmafimcojoeiaaRandAwake
import Derived.Test.YtnmafimcojoeiaaRefRand
import Derived.Laws.Shifts
import Derived.BigQuiet
namespace Go.Proofs.Ytnmafimcojoeiaa
open Go.RowKit

set_option maxRecDepth 100000 in
set_option maxHeartbeats 1000000 in
theorem randPerms_bad (seed n : Int) (w : World) (h : n < 0 ∨ 65536 < n) : Calls Try.prog 3 #[.int .u64 seed, .int .i64 n] w fun e w' => e = .returned (.bool true) ∧ Below w.heap.size w w' := by
  go_enter Try.func3, Try.ntmps3
  go_wp2_with fail
  refine (new_src _ _).mono ?_
  rintro e w1 ⟨s, rfl, b1, l1, f1⟩
  have B1 := below_of_grown (Below.refl _ w) f1 (by simp)
  go_wp2_with fail
  refine (clone_src _ _ _ b1).mono ?_
  rintro e w2 ⟨t, rfl, c2, l2, f2⟩
  have hne : s ≠ t := by have := b1.lt; omega
  have b2 := b1.grown f2 (by simp)
  have B2 := below_of_grown B1 f2 (by simp)
  have z2 := B1.size
  clear b1 f1 f2 B1
  go_wp2_with fail
  refine (perm_bad _ _ _ h).mono ?_
  rintro e w3 ⟨rfl, rfl⟩
  go_wp2_with fail
  refine (perm_bad _ _ _ h).mono ?_
  rintro e w4 ⟨rfl, rfl⟩
  rcases h with h | h
  · go_wp2_with fail
    refine (awake_any _).mono ?_
    rintro e w5 ⟨rfl, B5⟩
    have b5 := b2.below B5 b2.lt
    have c5 := c2.below B5 c2.lt
    have D5 : Below w.heap.size w w5 := B2.trans (B5.mono B2.size)
    clear b2 c2 B2 B5
    go_wp2_with fail
    refine (next_src _ _ _ b5).mono ?_
    rintro e w6 ⟨rfl, b6, f6⟩
    have c6 := c5.grown f6 (by simp; omega)
    have D6 := below_of_grown D5 f6 (by simp; omega)
    clear b5 c5 f6 D5
    go_wp2_with fail
    refine (next_src _ _ _ c6).mono ?_
    rintro e w7 ⟨rfl, c7, f7⟩
    have D7 := below_of_grown D6 f7 (by simp; omega)
    clear b6 c6 c7 f7 D6
    go_wp2
    go_ret
    exact ⟨rfl, D7⟩
  · have h' : ¬ n < 0 := by omega
    go_wp2_with fail
    refine (awake_any _).mono ?_
    rintro e w5 ⟨rfl, B5⟩
    have b5 := b2.below B5 b2.lt
    have c5 := c2.below B5 c2.lt
    have D5 : Below w.heap.size w w5 := B2.trans (B5.mono B2.size)
    clear b2 c2 B2 B5
    go_wp2_with fail
    refine (next_src _ _ _ b5).mono ?_
    rintro e w6 ⟨rfl, b6, f6⟩
    have c6 := c5.grown f6 (by simp; omega)
    have D6 := below_of_grown D5 f6 (by simp; omega)
    clear b5 c5 f6 D5
    go_wp2_with fail
    refine (next_src _ _ _ c6).mono ?_
    rintro e w7 ⟨rfl, c7, f7⟩
    have D7 := below_of_grown D6 f7 (by simp; omega)
    clear b6 c6 c7 f7 D6
    go_wp2
    go_ret
    exact ⟨rfl, D7⟩

set_option maxRecDepth 100000 in
set_option maxHeartbeats 2000000 in
theorem randPerms_ok (seed : Int) (n : Nat) (w : World) (h : n ≤ 65536) : Calls Try.prog 3 #[.int .u64 seed, .int .i64 n] w fun e w' => e = .returned (.bool true) ∧ Below w.heap.size w w' := by
  have hmk := run_make_bools (P := Try.prog) 33 4 Try.underlying33 (by kernel_rfl) n (by omega)
  have hP := permOf_isPerm seed n
  have n0 : (0 : Int) ≤ (n : Int) := by omega
  have n1 : (n : Int) ≤ 65536 := by omega
  go_enter Try.func3, Try.ntmps3
  go_wp2_with fail
  refine (new_src _ _).mono ?_
  rintro e w1 ⟨s, rfl, b1, l1, f1⟩
  have B1 := below_of_grown (Below.refl _ w) f1 (by simp)
  go_wp2_with fail
  refine (clone_src _ _ _ b1).mono ?_
  rintro e w2 ⟨t, rfl, c2, l2, f2⟩
  have hne : s ≠ t := by have := b1.lt; omega
  have b2 := b1.grown f2 (by simp)
  have B2 := below_of_grown B1 f2 (by simp)
  have z2 := B1.size
  clear b1 f1 f2 B1
  go_wp2_with fail
  refine (perm_src _ _ _ _ b2 h).mono ?_
  rintro e w3 ⟨g, rfl, r3, b3, l3, f3⟩
  have c3 := c2.grown f3 (by simp; omega)
  have B3 := below_of_grown B2 f3 (by simp; omega)
  have g3 := B2.size
  have t3 := c2.lt
  have s3 := b2.lt
  clear b2 c2 f3 B2
  go_wp2_with fail
  refine (perm_src _ _ _ _ c3 h).mono ?_
  rintro e w4 ⟨m, rfl, q4, c4, l4, f4⟩
  have b4 := b3.grown f4 (by simp; omega)
  have r4 := r3.grown f4 (by simp; omega)
  have B4 := below_of_grown B3 f4 (by simp; omega)
  have m4 := B3.size
  have g4 := r3.lt
  clear b3 c3 r3 f4 B3
  generalize hL : (permOf seed n).1 = L at *
  generalize hS : (permOf seed n).2 = S at *
  clear hL hS
  have hlen := hP.len
  have hsame := same_any (some ⟨g, 0, none⟩) (some ⟨m, 0, none⟩) L L n n w4 (.of_blk r4) (.of_blk q4) (by omega)
  rw [hlen, decide_eq_true rfl] at hsame
  have hlen' := Lib.hid hlen
  clear hlen
  go_wp2_with fail
  refine hsame.mono ?_
  rintro e w5 ⟨rfl, hD⟩
  have b5 := b4.drawn hD
  have c5 := c4.drawn hD
  have r5 := r4.drawn hD
  have B5 := B4.trans (hD.below w.heap.size)
  have z5 : w4.heap.size ≤ w5.heap.size := (hD.below 0).size
  have s5 := b5.lt
  have t5 := c5.lt
  have g5 := r5.lt
  have u5 := B5.size
  clear hD hsame b4 c4 r4 q4 B4
  go_wp2_with fail
  obtain ⟨u, hu⟩ : ∃ u, w5.heap.size = u := ⟨_, rfl⟩
  rw [hu] at s5 t5 g5 u5 z5 ⊢
  go_loopw [12] (fun i wr => ∃ k : Nat, k ≤ n ∧ i = .int .i64 k ∧ Blk wr u 4 (bools (seenTo L k n)) ∧ Blk wr g 3 (ints L) ∧ Blk wr s 36 #[.int .u64 S] ∧ Blk wr t 36 #[.int .u64 S] ∧ Below w.heap.size w wr) (fun i _ => n - (intOf i).toNat)
  case atStart =>
    exact ⟨0, Nat.zero_le _, rfl, by rw [← hu, seenTo_zero]; exact Blk.new w5 _ _, r5.alloc _, b5.alloc _, c5.alloc _, B5.alloc (by omega) _⟩
  case round =>
    clear hmk b5 c5 r5 B5 hu
    obtain ⟨k, hk, rfl, v6, r6, b6, c6, B6⟩ := hrel
    by_cases hlt : k < n
    · have p0 : (0 : Int) ≤ (k : Int) := by omega
      have p1 : (k : Int) < (n : Int) := by omega
      have hx0 := hP.lo k hlt
      have hx1 := hP.hi k hlt
      have hl1 := r6.nth k (by have := hlen'.out; omega)
      have hl2 := v6.bool (seenTo_new hP hlt)
      have hl3 := v6.frozen (nth L k).toNat
      have v7 := v6.setBool (nth L k).toNat true
      rw [seenTo_succ hP hlt] at v7
      have hx2 : decide (nth L k < 0) = false := by simp; omega
      go_wp2
      exact ⟨⟨k + 1, by omega, by go_num, v7, r6.far (by simp; omega) _, b6.far (by simp; omega) _, c6.far (by simp; omega) _, B6.setCell (by simp; omega) _⟩, by simp [intOf]; omega⟩
    · obtain rfl : k = n := by omega
      clear v6 r6
      go_wp2_with fail
      refine (awake_any _).mono ?_
      rintro e w7 ⟨rfl, B7⟩
      have b7 := b6.below B7 b6.lt
      have c7 := c6.below B7 c6.lt
      have D7 : Below w.heap.size w w7 := B6.trans (B7.mono B6.size)
      clear b6 c6 B6 B7
      go_wp2_with fail
      refine (next_src _ _ _ b7).mono ?_
      rintro e w8 ⟨rfl, b8, f8⟩
      have c8 := c7.grown f8 (by simp; omega)
      have D8 := below_of_grown D7 f8 (by simp; omega)
      clear b7 c7 f8 D7
      go_wp2_with fail
      refine (next_src _ _ _ c8).mono ?_
      rintro e w9 ⟨rfl, c9, f9⟩
      have D9 := below_of_grown D8 f9 (by simp; omega)
      clear b8 c8 c9 f9 D8
      go_wp2
      go_ret
      exact ⟨rfl, D9⟩

theorem randPerms_any (seed n : Int) (w : World) : Calls Try.prog 3 #[.int .u64 seed, .int .i64 n] w fun e w' => e = .returned (.bool true) ∧ Below w.heap.size w w' := by
  by_cases h : n < 0 ∨ 65536 < n
  · exact randPerms_bad seed n w h
  · obtain ⟨m, rfl⟩ := Int.eq_ofNat_of_zero_le (show 0 ≤ n by omega)
    exact randPerms_ok seed m w (by omega)
end Go.Proofs.Ytnmafimcojoeiaa
