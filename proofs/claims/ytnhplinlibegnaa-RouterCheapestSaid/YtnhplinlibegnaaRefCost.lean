/- The contract of theodoliteref15.Cost: the same pair of numbers as router.Cost's. -/
import Derived.Test.YtnhplinlibegnaaRouterCosts2
import Derived.Deep.LoopGhost
namespace Go.Proofs.Ytnhplinlibegnaa
open Go.RowKit

theorem rup_any (a b : Int) (ha : 0 ≤ a ∧ a ≤ 1024) (hb : 1 ≤ b ∧ b ≤ 64) (w : World) : Calls Try.prog 27 #[.int .i64 a, .int .i64 b] w fun e w' => e = .returned (.int .i64 (upC a b)) ∧ w = w' := by
  unfold upC
  go_enter Try.func27, Try.ntmps27
  go_wp2
  go_ret
  exact ⟨rfl, rfl⟩

theorem digits_any (n : Nat) (hn : n ≤ 512) (w : World) : Calls Try.prog 26 #[.int .i64 (n : Int)] w fun e w' => e = .returned (.int .i64 (Lib.bitLen n : Int)) ∧ w = w' := by
  have hB : Lib.bitLen n ≤ 10 := Lib.bitLen_le _ 10 (by omega) (by omega)
  go_enter Try.func26, Try.ntmps26
  go_wp2
  go_loopw [0, 3] (fun x g wr => wr = w ∧ ∃ m q : Nat, m ≤ 512 ∧ x = .int .i64 (m : Int) ∧ g = .int .i64 (q : Int) ∧ q + Lib.bitLen m = Lib.bitLen n) (fun x _ _ => (intOf x).toNat)
  case atStart => exact ⟨rfl, n, 0, hn, rfl, rfl, by omega⟩
  case round =>
    obtain ⟨rfl, m, q, hm, rfl, rfl, hq⟩ := hrel
    by_cases h0 : m = 0
    · subst h0
      have hz : q = Lib.bitLen n := by simpa [Lib.bitLen, Lib.bitLenAux] using hq
      subst hz
      go_wp2
      go_ret
      exact ⟨rfl, rfl⟩
    · have hh := Lib.bitLen_half m h0 (by omega)
      have p0 : (0 : Int) < (m : Int) := by omega
      have hq1 : (q : Int) ≤ 10 := by omega
      go_wp2
      exact ⟨⟨trivial, m / 2, q + 1, by omega, by go_num, by go_num, by omega⟩, by simp [intOf]; omega⟩
set_option maxRecDepth 100000 in
theorem rcost_bad (k a b c r d : Int) (h : checkE k a b c ≠ 0) (w : World) : Calls Try.prog 8 #[.agg #[.int .i64 k, .int .i64 a, .int .i64 b, .int .i64 c], .int .i64 r, .int .i64 d] w (PairPost w (costV k a b c r d) (costE k a b c r d)) := by
  have he : costE k a b c r d = checkE k a b c := by simp [costE, h]
  have hv : costV k a b c r d = 0 := by simp [costV, he, h]
  rw [he, hv]
  generalize hE : checkE k a b c = E at *
  have hne : (E != 0) = true := by simpa using h
  clear h he hv
  go_enter Try.func8, Try.ntmps8
  go_wp2_with (go_at_call 25; refine (refCheck_any k a b c _).mono ?_; rintro e w' ⟨rfl, hb⟩; rw [hE])
  go_ret2
  exact ⟨rfl, below_chain (((Below.refl _ _).alloc (Nat.le_refl _) _)) hb (by simp)⟩

theorem rcost_range (k a b c r d : Int) (h : checkE k a b c = 0) (hr : r < 0 ∨ 512 < r ∨ d < 1 ∨ 64 < d) (w : World) : Calls Try.prog 8 #[.agg #[.int .i64 k, .int .i64 a, .int .i64 b, .int .i64 c], .int .i64 r, .int .i64 d] w (PairPost w (costV k a b c r d) (costE k a b c r d)) := by
  have he : costE k a b c r d = 1 := by simp [costE, h, hr]
  have hv : costV k a b c r d = 0 := by simp [costV, he]
  rw [he, hv]
  clear he hv
  by_cases h1 : r < 0
  · clear hr
    go_enter Try.func8, Try.ntmps8
    go_wp2_with (go_at_call 25; refine (refCheck_any k a b c _).mono ?_; rintro e w' ⟨rfl, hb⟩; rw [h])
    go_ret2
    exact ⟨rfl, below_chain (((Below.refl _ _).alloc (Nat.le_refl _) _)) hb (by simp)⟩
  have g1 : 0 ≤ r := by omega
  by_cases h2 : 512 < r
  · clear hr h1
    go_enter Try.func8, Try.ntmps8
    go_wp2_with (go_at_call 25; refine (refCheck_any k a b c _).mono ?_; rintro e w' ⟨rfl, hb⟩; rw [h])
    go_ret2
    exact ⟨rfl, below_chain (((Below.refl _ _).alloc (Nat.le_refl _) _)) hb (by simp)⟩
  have g2 : r ≤ 512 := by omega
  by_cases h3 : d < 1
  · clear hr h1 h2
    go_enter Try.func8, Try.ntmps8
    go_wp2_with (go_at_call 25; refine (refCheck_any k a b c _).mono ?_; rintro e w' ⟨rfl, hb⟩; rw [h])
    go_ret2
    exact ⟨rfl, below_chain (((Below.refl _ _).alloc (Nat.le_refl _) _)) hb (by simp)⟩
  have g3 : 1 ≤ d := by omega
  have h4 : 64 < d := by omega
  clear hr h1 h2 h3
  go_enter Try.func8, Try.ntmps8
  go_wp2_with (go_at_call 25; refine (refCheck_any k a b c _).mono ?_; rintro e w' ⟨rfl, hb⟩; rw [h])
  go_ret2
  exact ⟨rfl, below_chain (((Below.refl _ _).alloc (Nat.le_refl _) _)) hb (by simp)⟩


set_option maxRecDepth 100000 in
theorem rcost_1 (a b c : Int) (n : Nat) (d : Int) (h : checkE 1 a b c = 0) (hn : n ≤ 512) (hd : 1 ≤ d ∧ d ≤ 64) (w : World) : Calls Try.prog 8 #[.agg #[.int .i64 1, .int .i64 a, .int .i64 b, .int .i64 c], .int .i64 (n : Int), .int .i64 d] w (PairPost w (d * (n : Int)) 0) := by
  have hq := mul_in (A := 64) (B := 512) (show 0 ≤ d ∧ d ≤ 64 by omega) (show 0 ≤ (n : Int) ∧ (n : Int) ≤ 512 by omega)
  go_enter Try.func8, Try.ntmps8
  go_wp2_with first | (go_at_call 25; refine (refCheck_any 1 a b c _).mono ?_; rintro e w' ⟨rfl, hb⟩; rw [h]; obtain ⟨c0, c1, c2, c3⟩ := box_cells hb) | (go_at_call 26; refine (digits_any n hn _).mono ?_; rintro e w'' ⟨rfl, rfl⟩; skip)
  go_ret2
  exact ⟨rfl, below_chain (((Below.refl _ _).alloc (Nat.le_refl _) _)) hb (by simp)⟩

set_option maxRecDepth 100000 in
theorem rcost_2 (a b c : Int) (n : Nat) (d : Int) (h : checkE 2 a b c = 0) (hn : n ≤ 512) (hd : 1 ≤ d ∧ d ≤ 64) (ha : 1 ≤ a ∧ a ≤ 64) (w : World) : Calls Try.prog 8 #[.agg #[.int .i64 2, .int .i64 a, .int .i64 b, .int .i64 c], .int .i64 (n : Int), .int .i64 d] w (PairPost w (fewC (n : Int) d (2 * a)) 0) := by
  have hB : Lib.bitLen n ≤ 10 := Lib.bitLen_le _ 10 (by omega) (by omega)
  unfold fewC
  rw [Int.toNat_natCast]
  generalize hG : Lib.bitLen n = g at *
  have hp := mul_in (A := 256) (B := 10) (show 0 ≤ 2 * a ∧ 2 * a ≤ 256 by omega) (show 0 ≤ (g : Int) ∧ (g : Int) ≤ 10 by omega)
  have hq := mul_in (A := 64) (B := 512) (show 0 ≤ d ∧ d ≤ 64 by omega) (show 0 ≤ min (n : Int) (2 * a * (g : Int)) ∧ min (n : Int) (2 * a * (g : Int)) ≤ 512 by omega)
  go_enter Try.func8, Try.ntmps8
  go_wp2_with first | (go_at_call 25; refine (refCheck_any 2 a b c _).mono ?_; rintro e w' ⟨rfl, hb⟩; rw [h]; obtain ⟨c0, c1, c2, c3⟩ := box_cells hb) | (go_at_call 26; refine (digits_any n hn _).mono ?_; rintro e w'' ⟨rfl, rfl⟩; rw [hG])
  go_ret2
  exact ⟨rfl, below_chain (((Below.refl _ _).alloc (Nat.le_refl _) _)) hb (by simp)⟩

set_option maxRecDepth 100000 in
theorem rcost_3 (a b c : Int) (n : Nat) (d : Int) (h : checkE 3 a b c = 0) (hn : n ≤ 512) (hd : 1 ≤ d ∧ d ≤ 64) (ha : 1 ≤ a ∧ a ≤ 64) (w : World) : Calls Try.prog 8 #[.agg #[.int .i64 3, .int .i64 a, .int .i64 b, .int .i64 c], .int .i64 (n : Int), .int .i64 d] w (PairPost w (fewC (n : Int) d (3 * a)) 0) := by
  have hB : Lib.bitLen n ≤ 10 := Lib.bitLen_le _ 10 (by omega) (by omega)
  unfold fewC
  rw [Int.toNat_natCast]
  generalize hG : Lib.bitLen n = g at *
  have hp := mul_in (A := 256) (B := 10) (show 0 ≤ 3 * a ∧ 3 * a ≤ 256 by omega) (show 0 ≤ (g : Int) ∧ (g : Int) ≤ 10 by omega)
  have hq := mul_in (A := 64) (B := 512) (show 0 ≤ d ∧ d ≤ 64 by omega) (show 0 ≤ min (n : Int) (3 * a * (g : Int)) ∧ min (n : Int) (3 * a * (g : Int)) ≤ 512 by omega)
  go_enter Try.func8, Try.ntmps8
  go_wp2_with first | (go_at_call 25; refine (refCheck_any 3 a b c _).mono ?_; rintro e w' ⟨rfl, hb⟩; rw [h]; obtain ⟨c0, c1, c2, c3⟩ := box_cells hb) | (go_at_call 26; refine (digits_any n hn _).mono ?_; rintro e w'' ⟨rfl, rfl⟩; rw [hG])
  go_ret2
  exact ⟨rfl, below_chain (((Below.refl _ _).alloc (Nat.le_refl _) _)) hb (by simp)⟩

set_option maxRecDepth 100000 in
theorem rcost_4 (a b c : Int) (n : Nat) (d : Int) (h : checkE 4 a b c = 0) (hn : n ≤ 512) (hd : 1 ≤ d ∧ d ≤ 64) (ha : 1 ≤ a ∧ a ≤ 64) (w : World) : Calls Try.prog 8 #[.agg #[.int .i64 4, .int .i64 a, .int .i64 b, .int .i64 c], .int .i64 (n : Int), .int .i64 d] w (PairPost w (d * (a + upC (2 * (n : Int)) a)) 0) := by
  have hu := upC_in (show 0 ≤ 2 * (n : Int) ∧ 2 * (n : Int) ≤ 1024 by omega) ha
  have hq := mul_in (A := 64) (B := 4096) (show 0 ≤ d ∧ d ≤ 64 by omega) (show 0 ≤ a + upC (2 * (n : Int)) a ∧ a + upC (2 * (n : Int)) a ≤ 4096 by omega)
  go_enter Try.func8, Try.ntmps8
  go_wp2_with first | (go_at_call 25; refine (refCheck_any 4 a b c _).mono ?_; rintro e w' ⟨rfl, hb⟩; rw [h]; obtain ⟨c0, c1, c2, c3⟩ := box_cells hb) | (go_at_call 26; refine (digits_any n hn _).mono ?_; rintro e w'' ⟨rfl, rfl⟩; skip)
  go_quiet ((go_at_call 27; exact Calls.quiet_of_same ((rup_any _ a (by omega) ha _).mono (fun _ _ h => ⟨h.1, h.2.symm⟩))))
  go_wp2
  go_ret2
  exact ⟨rfl, below_drewN (below_chain (((Below.refl _ _).alloc (Nat.le_refl _) _)) hb (by simp)) _⟩

set_option maxRecDepth 100000 in
theorem rcost_5 (a b c : Int) (n : Nat) (d : Int) (h : checkE 5 a b c = 0) (hn : n ≤ 512) (hd : 1 ≤ d ∧ d ≤ 64) (ha : 1 ≤ a ∧ a ≤ 64) (hbb : 1 ≤ b ∧ b ≤ 8) (hcc : 1 ≤ c ∧ c ≤ 16) (w : World) : Calls Try.prog 8 #[.agg #[.int .i64 5, .int .i64 a, .int .i64 b, .int .i64 c], .int .i64 (n : Int), .int .i64 d] w (PairPost w (d * (a + c + 16) + b * upC (n : Int) a) 0) := by
  have hu := upC_in (show 0 ≤ (n : Int) ∧ (n : Int) ≤ 1024 by omega) ha
  have hq := mul_in (A := 64) (B := 4096) (show 0 ≤ d ∧ d ≤ 64 by omega) (show 0 ≤ a + c + 16 ∧ a + c + 16 ≤ 4096 by omega)
  have hq2 := mul_in (A := 8) (B := 2048) (show 0 ≤ b ∧ b ≤ 8 by omega) hu
  go_enter Try.func8, Try.ntmps8
  go_wp2_with first | (go_at_call 25; refine (refCheck_any 5 a b c _).mono ?_; rintro e w' ⟨rfl, hb⟩; rw [h]; obtain ⟨c0, c1, c2, c3⟩ := box_cells hb) | (go_at_call 26; refine (digits_any n hn _).mono ?_; rintro e w'' ⟨rfl, rfl⟩; skip)
  go_quiet ((go_at_call 27; exact Calls.quiet_of_same ((rup_any _ a (by omega) ha _).mono (fun _ _ h => ⟨h.1, h.2.symm⟩))))
  go_wp2
  go_ret2
  exact ⟨rfl, below_drewN (below_chain (((Below.refl _ _).alloc (Nat.le_refl _) _)) hb (by simp)) _⟩

set_option maxRecDepth 100000 in
theorem rcost_6 (a b c : Int) (n : Nat) (d : Int) (h : checkE 6 a b c = 0) (hn : n ≤ 512) (hd : 1 ≤ d ∧ d ≤ 64) (ha : 1 ≤ a ∧ a ≤ 64) (w : World) : Calls Try.prog 8 #[.agg #[.int .i64 6, .int .i64 a, .int .i64 b, .int .i64 c], .int .i64 (n : Int), .int .i64 d] w (PairPost w (fewC (n : Int) d (4 * a)) 0) := by
  have hB : Lib.bitLen n ≤ 10 := Lib.bitLen_le _ 10 (by omega) (by omega)
  unfold fewC
  rw [Int.toNat_natCast]
  generalize hG : Lib.bitLen n = g at *
  have hp := mul_in (A := 256) (B := 10) (show 0 ≤ 4 * a ∧ 4 * a ≤ 256 by omega) (show 0 ≤ (g : Int) ∧ (g : Int) ≤ 10 by omega)
  have hq := mul_in (A := 64) (B := 512) (show 0 ≤ d ∧ d ≤ 64 by omega) (show 0 ≤ min (n : Int) (4 * a * (g : Int)) ∧ min (n : Int) (4 * a * (g : Int)) ≤ 512 by omega)
  go_enter Try.func8, Try.ntmps8
  go_wp2_with first | (go_at_call 25; refine (refCheck_any 6 a b c _).mono ?_; rintro e w' ⟨rfl, hb⟩; rw [h]; obtain ⟨c0, c1, c2, c3⟩ := box_cells hb) | (go_at_call 26; refine (digits_any n hn _).mono ?_; rintro e w'' ⟨rfl, rfl⟩; rw [hG])
  go_ret2
  exact ⟨rfl, below_chain (((Below.refl _ _).alloc (Nat.le_refl _) _)) hb (by simp)⟩

theorem rcost_any (k a b c r d : Int) (w : World) : Calls Try.prog 8 #[.agg #[.int .i64 k, .int .i64 a, .int .i64 b, .int .i64 c], .int .i64 r, .int .i64 d] w (PairPost w (costV k a b c r d) (costE k a b c r d)) := by
  by_cases h : checkE k a b c = 0
  · by_cases hr : r < 0 ∨ 512 < r ∨ d < 1 ∨ 64 < d
    · exact rcost_range k a b c r d h hr w
    · have he : costE k a b c r d = 0 := by simp [costE, h, hr]
      have hr' : 0 ≤ r ∧ r ≤ 512 := by omega
      have hd' : 1 ≤ d ∧ d ≤ 64 := by omega
      have hv : costV k a b c r d = costC k a b c r d := by simp [costV, he]
      rw [he, hv]
      obtain ⟨n, rfl⟩ := Int.eq_ofNat_of_zero_le hr'.1
      have hn : n ≤ 512 := by omega
      rcases checkE_zero h with rfl | ⟨rfl | rfl | rfl, ha⟩ | ⟨rfl, ha, hbb, hcc⟩ | ⟨rfl, ha⟩
      · exact rcost_1 a b c n d h hn hd' w
      · exact rcost_2 a b c n d h hn hd' ha w
      · exact rcost_3 a b c n d h hn hd' ha w
      · exact rcost_4 a b c n d h hn hd' ha w
      · exact rcost_5 a b c n d h hn hd' ha hbb hcc w
      · exact rcost_6 a b c n d h hn hd' ⟨ha.1, by omega⟩ w
  · exact rcost_bad k a b c r d h w
end Go.Proofs.Ytnhplinlibegnaa
