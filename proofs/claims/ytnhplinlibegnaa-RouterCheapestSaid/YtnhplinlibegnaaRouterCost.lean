/- The contract of router.Cost, and of the document's own: one pure number. -/
import Derived.Test.YtnhplinlibegnaaRef12
import Derived.Test.YtnhplinlibegnaaBitsLen
import Derived.Deep.QuietTactic
import Derived.BigQuiet
namespace Go.Proofs.Ytnhplinlibegnaa
open Go.RowKit

theorem bl_le (r : Int) (h : r ≤ 512) : Lib.bitLen r.toNat ≤ 10 := by
  have h1 : r.toNat < 2 ^ 10 := by omega
  exact Lib.bitLen_le _ 10 (by omega) h1

/-- A quotient, rounded up. -/
def upC (a b : Int) : Int := (a + b - 1) / b
theorem up_any (a b : Int) (ha : 0 ≤ a ∧ a ≤ 1024) (hb : 1 ≤ b ∧ b ≤ 64) (w : World) : Calls Try.prog 35 #[.int .i64 a, .int .i64 b] w fun e w' => e = .returned (.int .i64 (upC a b)) ∧ w = w' := by
  unfold upC
  go_enter Try.func35, Try.ntmps35
  go_wp2
  go_ret
  exact ⟨rfl, rfl⟩

theorem below_drewN {B : Nat} {a w : World} (h : Below B a w) (n : Nat) : Below B a (w.drewN n) := ⟨h.os, h.tape, h.output, h.size, h.block⟩
theorem below_chain {B : Nat} {a w w' : World} (h : Below B a w) (hb : Below w.heap.size w w') (hB : B ≤ w.heap.size) : Below B a w' := h.trans (hb.mono hB)
theorem mul_in {a b A B : Int} (ha : 0 ≤ a ∧ a ≤ A) (hb : 0 ≤ b ∧ b ≤ B) : 0 ≤ a * b ∧ a * b ≤ A * B :=
  ⟨Int.mul_nonneg ha.1 hb.1, Int.mul_le_mul ha.2 hb.2 hb.1 (by omega)⟩

def fewC (r d n : Int) : Int := d * min r (n * (Lib.bitLen r.toNat : Int))
theorem upC_in {a b : Int} (ha : 0 ≤ a ∧ a ≤ 1024) (hb : 1 ≤ b ∧ b ≤ 64) : 0 ≤ upC a b ∧ upC a b ≤ 2048 := by
  unfold upC
  refine ⟨Int.ediv_nonneg (by omega) (by omega), ?_⟩
  have := Int.ediv_le_self b (show 0 ≤ a + b - 1 by omega)
  omega

set_option maxRecDepth 100000 in
theorem few_any (r d n : Int) (hr : 0 ≤ r ∧ r ≤ 512) (hd : 1 ≤ d ∧ d ≤ 64) (hn : 0 ≤ n ∧ n ≤ 256) (w : World) : Calls Try.prog 34 #[.agg #[.int .i64 r, .int .i64 d], .int .i64 n] w (ErrPost w (fewC r d n)) := by
  have hg := bl_le r hr.2
  unfold fewC
  generalize hG : Lib.bitLen r.toNat = g at *
  have hp := mul_in (A := 256) (B := 10) hn (show 0 ≤ (g : Int) ∧ (g : Int) ≤ 10 by omega)
  have hq := mul_in (A := 64) (B := 512) (show 0 ≤ d ∧ d ≤ 64 by omega) (show 0 ≤ min r (n * (g : Int)) ∧ min r (n * (g : Int)) ≤ 512 by omega)
  go_enter Try.func34, Try.ntmps34
  go_wp2_with fail
  go_quiet ((go_at_call 38; exact Calls.quiet_of_same (Try.bits_Len _ _ (by omega) (by omega))))
  go_wp2
  go_ret
  exact ⟨rfl, below_drewN ((Below.refl _ _).alloc (Nat.le_refl _) _) _⟩

set_option maxRecDepth 100000 in
theorem house_kd (k a b c r d : Int) (hr : 0 ≤ r ∧ r ≤ 512) (hd : 1 ≤ d ∧ d ≤ 64) (ha : 1 ≤ a ∧ a ≤ 64) (w : World) :
    Calls Try.prog 20 #[.agg #[.int .i64 r, .int .i64 d], .agg #[.int .i64 k, .int .i64 a, .int .i64 b, .int .i64 c]] w (ErrPost w (fewC r d (2 * a))) := by
  go_enter Try.func20, Try.ntmps20
  go_wp2_with (go_at_call 34; refine (few_any r d (2 * a) hr hd (by omega) _).mono ?_; rintro e w' ⟨rfl, hb⟩)
  go_ret
  exact ⟨rfl, below_chain (((Below.refl _ _).alloc (Nat.le_refl _) _).alloc (by simp) _) hb (by simp; omega)⟩

set_option maxRecDepth 100000 in
theorem house_vp (k a b c r d : Int) (hr : 0 ≤ r ∧ r ≤ 512) (hd : 1 ≤ d ∧ d ≤ 64) (ha : 1 ≤ a ∧ a ≤ 64) (w : World) :
    Calls Try.prog 21 #[.agg #[.int .i64 r, .int .i64 d], .agg #[.int .i64 k, .int .i64 a, .int .i64 b, .int .i64 c]] w (ErrPost w (fewC r d (3 * a))) := by
  go_enter Try.func21, Try.ntmps21
  go_wp2_with (go_at_call 34; refine (few_any r d (3 * a) hr hd (by omega) _).mono ?_; rintro e w' ⟨rfl, hb⟩)
  go_ret
  exact ⟨rfl, below_chain (((Below.refl _ _).alloc (Nat.le_refl _) _).alloc (by simp) _) hb (by simp; omega)⟩

set_option maxRecDepth 100000 in
theorem house_hnsw (k a b c r d : Int) (hr : 0 ≤ r ∧ r ≤ 512) (hd : 1 ≤ d ∧ d ≤ 64) (ha : 1 ≤ a ∧ a ≤ 64) (w : World) :
    Calls Try.prog 24 #[.agg #[.int .i64 r, .int .i64 d], .agg #[.int .i64 k, .int .i64 a, .int .i64 b, .int .i64 c]] w (ErrPost w (fewC r d (4 * a))) := by
  go_enter Try.func24, Try.ntmps24
  go_wp2_with (go_at_call 34; refine (few_any r d (4 * a) hr hd (by omega) _).mono ?_; rintro e w' ⟨rfl, hb⟩)
  go_ret
  exact ⟨rfl, below_chain (((Below.refl _ _).alloc (Nat.le_refl _) _).alloc (by simp) _) hb (by simp; omega)⟩

set_option maxRecDepth 100000 in
theorem house_flat (k a b c r d : Int) (hr : 0 ≤ r ∧ r ≤ 512) (hd : 1 ≤ d ∧ d ≤ 64) (w : World) :
    Calls Try.prog 19 #[.agg #[.int .i64 r, .int .i64 d], .agg #[.int .i64 k, .int .i64 a, .int .i64 b, .int .i64 c]] w (ErrPost w (d * r)) := by
  have hq := mul_in (A := 64) (B := 512) (show 0 ≤ d ∧ d ≤ 64 by omega) hr
  go_enter Try.func19, Try.ntmps19
  go_wp2
  go_ret
  exact ⟨rfl, (((Below.refl _ _).alloc (Nat.le_refl _) _).alloc (by simp) _)⟩

set_option maxRecDepth 100000 in
theorem house_ivf (k a b c r d : Int) (hr : 0 ≤ r ∧ r ≤ 512) (hd : 1 ≤ d ∧ d ≤ 64) (ha : 1 ≤ a ∧ a ≤ 64) (w : World) :
    Calls Try.prog 22 #[.agg #[.int .i64 r, .int .i64 d], .agg #[.int .i64 k, .int .i64 a, .int .i64 b, .int .i64 c]] w (ErrPost w (d * (a + upC (2 * r) a))) := by
  have hu := upC_in (show 0 ≤ 2 * r ∧ 2 * r ≤ 1024 by omega) ha
  have hq := mul_in (A := 64) (B := 4096) (show 0 ≤ d ∧ d ≤ 64 by omega) (show 0 ≤ a + upC (2 * r) a ∧ a + upC (2 * r) a ≤ 4096 by omega)
  go_enter Try.func22, Try.ntmps22
  go_wp2_with fail
  go_quiet ((go_at_call 35; exact Calls.quiet_of_same ((up_any (2 * r) a (by omega) ha _).mono (fun _ _ h => ⟨h.1, h.2.symm⟩))))
  go_wp2
  go_ret
  exact ⟨rfl, below_drewN (((Below.refl _ _).alloc (Nat.le_refl _) _).alloc (by simp) _) _⟩

set_option maxRecDepth 100000 in
theorem house_pq (k a b c r d : Int) (hr : 0 ≤ r ∧ r ≤ 512) (hd : 1 ≤ d ∧ d ≤ 64) (ha : 1 ≤ a ∧ a ≤ 64) (hb : 1 ≤ b ∧ b ≤ 8) (hc : 1 ≤ c ∧ c ≤ 16) (w : World) :
    Calls Try.prog 23 #[.agg #[.int .i64 r, .int .i64 d], .agg #[.int .i64 k, .int .i64 a, .int .i64 b, .int .i64 c]] w (ErrPost w (d * (a + c + 16) + b * upC r a)) := by
  have hu := upC_in (show 0 ≤ r ∧ r ≤ 1024 by omega) ha
  have hq := mul_in (A := 64) (B := 4096) (show 0 ≤ d ∧ d ≤ 64 by omega) (show 0 ≤ a + c + 16 ∧ a + c + 16 ≤ 4096 by omega)
  have hq2 := mul_in (A := 8) (B := 2048) (show 0 ≤ b ∧ b ≤ 8 by omega) hu
  go_enter Try.func23, Try.ntmps23
  go_wp2_with fail
  go_quiet ((go_at_call 35; exact Calls.quiet_of_same ((up_any r a (by omega) ha _).mono (fun _ _ h => ⟨h.1, h.2.symm⟩))))
  go_wp2
  go_ret
  exact ⟨rfl, below_drewN (((Below.refl _ _).alloc (Nat.le_refl _) _).alloc (by simp) _) _⟩
end Go.Proofs.Ytnhplinlibegnaa
