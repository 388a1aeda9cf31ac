/- The contract of math/bits.Div64 by ten. -/
import Derived.Test.YtodjpljdkjemmaaWideMul
import Derived.Laws.Bits64b
import Derived.BigQuiet
import Derived.LoopN
namespace Go.Proofs.Ytodjpljdkjemmaa
open Go.RowKit
set_option linter.unusedVariables false

set_option maxRecDepth 100000 in
theorem div_zero (lo : Nat) (hl : lo < 18446744073709551616) (w : World) : Calls Try.prog 32 #[.int .u64 0, .int .u64 (lo : Int), .int .u64 10] w fun e w' => e = .returned (.tuple #[.int .u64 ((lo / 10 : Nat) : Int), .int .u64 ((lo % 10 : Nat) : Int)]) ∧ Drawn w w' := by
  go_enter Try.func32, Try.ntmps32
  go_wp2
  go_quiet (fail)
  go_wp2
  go_ret2
  exact ⟨by simp, ⟨nq, rfl⟩⟩

theorem lz10 : (64 - (Lib.bitLen (10 : Int).toNat : Int)) = 60 := by kernel_rfl
theorem and_low : bits .and .u64 11529215046068469760 4294967295 = 0 := by kernel_rfl
theorem or_disj (hi lo : Nat) (h1 : hi < 10) (hl : lo < 18446744073709551616) : bits .or .u64 ((hi : Int) * 1152921504606846976) ((lo : Int) / 16) = ((hi * 1152921504606846976 + lo / 16 : Nat) : Int) := by
  have e1 : (hi : Int) * 1152921504606846976 = ((hi * 1152921504606846976 : Nat) : Int) := by simp
  have e2 : (lo : Int) / 16 = ((lo / 16 : Nat) : Int) := by simp
  rw [e1, e2, bits_or_u64_nat _ _ (by omega) (by omega)]
  have h : lo / 16 < 2 ^ 60 := by simp; omega
  have := Nat.shiftLeft_add_eq_or_of_lt h hi
  rw [Nat.shiftLeft_eq] at this
  rw [← this]
theorem and_mult (m : Nat) (h : m < 16) : bits .and .u64 ((m * 1152921504606846976 : Nat) : Int) 4294967295 = 0 := by
  have : ∀ m : Fin 16, bits .and .u64 ((m.val * 1152921504606846976 : Nat) : Int) 4294967295 = 0 := by decide +kernel
  exact this ⟨m, h⟩

theorem f_shl (lo v : Nat) (hv : v = lo % 16 * 1152921504606846976) : IntKind.u64.wrap ((lo : Int) * 1152921504606846976) = (v : Int) := by rw [IntKind.wrap_u64]; omega
theorem f_low (lo v : Nat) (hv : v = lo % 16 * 1152921504606846976) : bits .and .u64 (v : Int) 4294967295 = 0 := by rw [hv]; exact and_mult _ (Nat.mod_lt _ (by omega))
theorem f_x (lo v x : Nat) (hv : v = lo % 16 * 1152921504606846976) (hx : x = lo % 16 * 268435456) : (v : Int) / 4294967296 = (x : Int) := by omega
theorem f_q (u q : Nat) (hu : u < 18446744073709551616) (hq : q = u / 2684354560) : IntKind.u64.wrap ((u : Int).tdiv 2684354560) = (q : Int) := by rw [IntKind.wrap_u64, Int.tdiv_eq_ediv_of_nonneg (by omega)]; omega
theorem f_m (u q p : Nat) (hu : u < 18446744073709551616) (hq : q = u / 2684354560) (hp : p = q * 2684354560) : IntKind.u64.wrap ((q : Int) * 2684354560) = (p : Int) := by rw [IntKind.wrap_u64]; omega
theorem f_r (u q p r : Nat) (hu : u < 18446744073709551616) (hq : q = u / 2684354560) (hp : p = q * 2684354560) (hr : r = u % 2684354560) : IntKind.u64.wrap ((u : Int) - (p : Int)) = (r : Int) := by rw [IntKind.wrap_u64]; omega
theorem f_small (u q : Nat) (hu : u < 11529215046068469760) (hq : q = u / 2684354560) : decide ((4294967296 : Int) ≤ (q : Int)) = false := decide_eq_false (by omega)

theorem f_y (u q r x y : Nat) (hu : u < 11529215046068469760) (hq : q = u / 2684354560) (hr : r = u % 2684354560) (hx : x < 4294967296) (hy : y = r * 4294967296 + x) :
    IntKind.u64.wrap (IntKind.u64.wrap (IntKind.u64.wrap ((u : Int) * 4294967296) + (x : Int)) - IntKind.u64.wrap ((q : Int) * 11529215046068469760)) = (y : Int) := by
  simp only [IntKind.wrap_u64]; omega
theorem f_end (hi lo u x q r y q' r' : Nat) (h1 : hi < 10) (hl : lo < 18446744073709551616) (hu : u = hi * 1152921504606846976 + lo / 16) (hx : x = lo % 16 * 268435456) (hq : q = u / 2684354560) (hr : r = u % 2684354560)
    (hy : y = r * 4294967296 + x) (hq' : q' = y / 2684354560) (hr' : r' = y % 2684354560) : q * 4294967296 + q' = (hi * 18446744073709551616 + lo) / 10 ∧ r' = 268435456 * ((hi * 18446744073709551616 + lo) % 10) := by
  have e1 : u = 2684354560 * q + r := by omega
  have e2 : hi * 18446744073709551616 + lo = 16 * u + lo % 16 := by omega
  have e3 : y = 268435456 * (16 * r + lo % 16) := by omega
  generalize lo % 16 = m at *
  have e4 : q' = (16 * r + m) / 10 := by omega
  have e5 : r' = 268435456 * ((16 * r + m) % 10) := by omega
  rw [e2]
  clear hu hx hq hr hy hq' hr' e2 e3
  omega
theorem f_quo (q q' n : Nat) (hq : q < 4294967296) (hq' : q' < 4294967296) (h : q * 4294967296 + q' = n) : IntKind.u64.wrap (IntKind.u64.wrap ((q : Int) * 4294967296) + (q' : Int)) = (n : Int) := by
  simp only [IntKind.wrap_u64]; omega
theorem f_rem (y q' r' d : Nat) (hy : y < 11529215046068469760) (hq' : q' = y / 2684354560) (hr' : r' = y % 2684354560) (hd : r' = 268435456 * d) :
    IntKind.u64.wrap (IntKind.u64.wrap (IntKind.u64.wrap ((y : Int) * 4294967296)) - IntKind.u64.wrap ((q' : Int) * 11529215046068469760)) / 1152921504606846976 = (d : Int) := by
  simp only [IntKind.wrap_u64]; omega
theorem f_lt (u q : Nat) (hu : u < 11529215046068469760) (hq : q = u / 2684354560) : q < 4294967296 := by omega
set_option maxRecDepth 100000 in
theorem div_hi (hi lo : Nat) (h0 : 0 < hi) (h1 : hi < 10) (hl : lo < 18446744073709551616) (w : World) : Calls Try.prog 32 #[.int .u64 (hi : Int), .int .u64 (lo : Int), .int .u64 10] w fun e w' => e = .returned (.tuple #[.int .u64 (((hi * 18446744073709551616 + lo) / 10 : Nat) : Int), .int .u64 (((hi * 18446744073709551616 + lo) % 10 : Nat) : Int)]) ∧ Drawn w w' := by
  obtain ⟨u, hu⟩ : ∃ u : Nat, u = hi * 1152921504606846976 + lo / 16 := ⟨_, rfl⟩
  obtain ⟨v, hv⟩ : ∃ v : Nat, v = lo % 16 * 1152921504606846976 := ⟨_, rfl⟩
  obtain ⟨x, hx⟩ : ∃ x : Nat, x = lo % 16 * 268435456 := ⟨_, rfl⟩
  obtain ⟨q, hq⟩ : ∃ q : Nat, q = u / 2684354560 := ⟨_, rfl⟩
  obtain ⟨p, hp⟩ : ∃ p : Nat, p = q * 2684354560 := ⟨_, rfl⟩
  obtain ⟨r, hr⟩ : ∃ r : Nat, r = u % 2684354560 := ⟨_, rfl⟩
  have hu1 : u < 11529215046068469760 := by omega
  have hu2 : u < 18446744073709551616 := by omega
  have hs := f_small u q hu1 hq
  obtain ⟨y, hy⟩ : ∃ y : Nat, y = r * 4294967296 + x := ⟨_, rfl⟩
  obtain ⟨q', hq'⟩ : ∃ q' : Nat, q' = y / 2684354560 := ⟨_, rfl⟩
  obtain ⟨p', hp'⟩ : ∃ p' : Nat, p' = q' * 2684354560 := ⟨_, rfl⟩
  obtain ⟨r', hr'⟩ : ∃ r' : Nat, r' = y % 2684354560 := ⟨_, rfl⟩
  have hx1 : x < 4294967296 := by omega
  have hy1 : y < 11529215046068469760 := by omega
  have hy2 : y < 18446744073709551616 := by omega
  have hs' := f_small y q' hy1 hq'
  replace hy := Lib.hid hy
  replace hx1 := Lib.hid hx1
  replace hy1 := Lib.hid hy1
  replace hy2 := Lib.hid hy2
  replace hq' := Lib.hid hq'
  replace hp' := Lib.hid hp'
  replace hr' := Lib.hid hr'
  replace hu := Lib.hid hu
  replace hv := Lib.hid hv
  replace hx := Lib.hid hx
  replace hq := Lib.hid hq
  replace hp := Lib.hid hp
  replace hr := Lib.hid hr
  replace hl := Lib.hid hl
  replace hu1 := Lib.hid hu1
  replace hu2 := Lib.hid hu2
  have p0 : ((hi : Int) == 0) = false := by simp; omega
  have p1 : (hi : Int) < 10 := by omega
  have p2 : (0 : Int) < hi := by omega
  go_enter Try.func32, Try.ntmps32
  go_wp2_with (go_at_call 35; refine (Try.bits_LeadingZeros64 10 _ (by omega) (by omega)).mono ?_; rintro e w' ⟨rfl, rfl⟩; rw [lz10])
  simp only [and_low, or_disj hi lo h1 hl.out, ← hu.out, f_shl lo v hv.out, f_low lo v hv.out, f_x lo v x hv.out hx.out, f_q u q hu2.out hq.out, f_m u q p hu2.out hq.out hp.out, f_r u q p r hu2.out hq.out hp.out hr.out]
  refine wp_loop_rounds 1 ?_
  rw [rounds_succ]
  go_wp2
  simp only [f_y u q r x y hu1.out hq.out hr.out hx1.out hy.out, f_q y q' hy2.out hq'.out, f_m y q' p' hy2.out hq'.out hp'.out, f_r y q' p' r' hy2.out hq'.out hp'.out hr'.out]
  refine wp_loop_rounds 1 ?_
  rw [rounds_succ]
  go_wp2
  obtain ⟨E1, E2⟩ := f_end hi lo u x q r y q' r' h1 hl.out hu.out hx.out hq.out hr.out hy.out hq'.out hr'.out
  rw [f_quo q q' _ (f_lt u q hu1.out hq.out) (f_lt y q' hy1.out hq'.out) E1, f_rem y q' r' _ hy1.out hq'.out hr'.out E2]
  go_ret2
  exact ⟨rfl, Drawn.refl _⟩

theorem div_any (n : Nat) (lo hi : Nat) (h1 : hi < 10) (hl : lo < 18446744073709551616) (hn : n = hi * 18446744073709551616 + lo) (w : World) :
    Calls Try.prog 32 #[.int .u64 (hi : Int), .int .u64 (lo : Int), .int .u64 10] w fun e w' => e = .returned (.tuple #[.int .u64 ((n / 10 : Nat) : Int), .int .u64 ((n % 10 : Nat) : Int)]) ∧ Drawn w w' := by
  subst hn
  by_cases h0 : 0 < hi
  · exact div_hi hi lo h0 h1 hl w
  · obtain rfl : hi = 0 := by omega
    rw [Nat.zero_mul, Nat.zero_add]
    exact div_zero lo hl w
end Go.Proofs.Ytodjpljdkjemmaa
