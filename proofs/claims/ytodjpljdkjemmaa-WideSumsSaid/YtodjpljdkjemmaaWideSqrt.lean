/- The contract of wide.Sqrt. -/
import Derived.Test.YtodjpljdkjemmaaWideMul
import Derived.Deep.RegionHeld3
import Derived.Deep.LoopGhost
import Derived.Laws.Bits64b
import Derived.WalkMore
namespace Go.Proofs.Ytodjpljdkjemmaa
open Go.RowKit
set_option linter.unusedVariables false

theorem below_chain {B : Nat} {a w w' : World} (h : Below B a w) (hb : Below w.heap.size w w') (hB : B ≤ w.heap.size) : Below B a w' := h.trans (hb.mono hB)

theorem held_step {g : Nat} {w0 w w' : World} {x y : Value} (h : Below g w0 w ∧ g < w.heap.size ∧ w.cell? ⟨g, 0, none⟩ = some x ∧ w.cell? ⟨g, 1, none⟩ = some y) (hb : Below w.heap.size w w') :
    Below g w0 w' ∧ g < w'.heap.size ∧ w'.cell? ⟨g, 0, none⟩ = some x ∧ w'.cell? ⟨g, 1, none⟩ = some y :=
  ⟨below_chain h.1 hb (Nat.le_of_lt h.2.1), Nat.lt_of_lt_of_le h.2.1 hb.size, below_cell hb h.2.2.1, below_cell hb h.2.2.2⟩
def SqrtPost (w : World) (a : Nat) (e : Ending) (w' : World) : Prop := ∃ r : Nat, e = .returned (.int .u64 (r : Int)) ∧ r < 18446744073709551616 ∧ r * r ≤ a ∧ a < (r + 1) * (r + 1) ∧ Below w.heap.size w w'

theorem or_sum (c i : Nat) (h : c * 2 ^ (i + 1) + 2 ^ i < 18446744073709551616) : bits .or .u64 ((c * 2 ^ (i + 1) : Nat) : Int) ((2 ^ i : Nat) : Int) = ((c * 2 ^ (i + 1) + 2 ^ i : Nat) : Int) := by
  have e : 0 < 2 ^ i := Nat.pow_pos (by omega)
  generalize hX : c * 2 ^ (i + 1) = X at *
  generalize hY : 2 ^ i = Y at *
  rw [bits_or_u64_nat _ _ (by omega) (by omega)]
  subst hX hY
  have h1 : 2 ^ i < 2 ^ (i + 1) := Nat.pow_lt_pow_right (by omega) (by omega)
  have := Nat.shiftLeft_add_eq_or_of_lt h1 c
  rw [Nat.shiftLeft_eq] at this
  rw [← this]

/-- What holds at the loop's head: R is right above T's place. -/
def Sq (a R T i c : Nat) : Prop := T = 2 ^ i ∧ R = c * 2 ^ (i + 1) ∧ R + 2 * T ≤ 18446744073709551616 ∧ R * R ≤ a ∧ a < (R + 2 * T) * (R + 2 * T)
theorem Sq.low {a R T i c : Nat} (h : Sq a R T i c) (h1 : T ≠ 1) (hlt : a < (R + T) * (R + T)) : ∃ j d, Sq a R (T / 2) j d := by
  obtain ⟨rfl, rfl, hb, h2, h3⟩ := h
  obtain ⟨j, rfl⟩ : ∃ j, i = j + 1 := ⟨i - 1, by cases i with | zero => simp at h1 | succ n => rfl⟩
  have e : 2 ^ (j + 1) / 2 = 2 ^ j := by rw [Nat.pow_succ]; omega
  have e2 : 2 * 2 ^ j = 2 ^ (j + 1) := by rw [Nat.pow_succ]; omega
  have e3 : c * 2 ^ (j + 1 + 1) = (2 * c) * 2 ^ (j + 1) := by rw [Nat.pow_succ 2 (j + 1), Nat.mul_comm (2 ^ (j + 1)) 2, ← Nat.mul_assoc, Nat.mul_comm c 2]
  rw [e]
  refine ⟨j, 2 * c, rfl, e3, ?_, h2, ?_⟩
  · rw [e2]; omega
  · rw [e2]; exact hlt
theorem Sq.high {a R T i c : Nat} (h : Sq a R T i c) (h1 : T ≠ 1) (hle : (R + T) * (R + T) ≤ a) : ∃ j d, Sq a (R + T) (T / 2) j d := by
  obtain ⟨rfl, rfl, hb, h2, h3⟩ := h
  obtain ⟨j, rfl⟩ : ∃ j, i = j + 1 := ⟨i - 1, by cases i with | zero => simp at h1 | succ n => rfl⟩
  have e : 2 ^ (j + 1) / 2 = 2 ^ j := by rw [Nat.pow_succ]; omega
  have e2 : 2 * 2 ^ j = 2 ^ (j + 1) := by rw [Nat.pow_succ]; omega
  have e3 : c * 2 ^ (j + 1 + 1) + 2 ^ (j + 1) = (2 * c + 1) * 2 ^ (j + 1) := by rw [Nat.pow_succ 2 (j + 1), Nat.add_mul, Nat.one_mul, Nat.mul_comm (2 ^ (j + 1)) 2, ← Nat.mul_assoc, Nat.mul_comm c 2]
  have e4 : c * 2 ^ (j + 1 + 1) + 2 ^ (j + 1) + 2 * 2 ^ j = c * 2 ^ (j + 1 + 1) + 2 * 2 ^ (j + 1) := by omega
  rw [e]
  refine ⟨j, 2 * c + 1, rfl, e3, ?_, hle, ?_⟩
  · rw [e4]; exact hb
  · rw [e4]; exact h3
def HasWide (w' : World) (g h l : Nat) : Prop := w'.cell? ⟨g, 0, none⟩ = some (.int .u64 (h : Int)) ∧ w'.cell? ⟨g, 1, none⟩ = some (.int .u64 (l : Int))
theorem cmp_hl (n a ah al : Nat) (h : num a = wv ah al) (w : World) : Calls Try.prog 16 #[num n, wv ah al] w (CmpPost w (cmpN n a)) := h ▸ cmp_any n a w

set_option maxRecDepth 100000 in
set_option maxHeartbeats 2000000 in
theorem sqrt_any (a : Nat) (ha : a < 340282366920938463463374607431768211456) (w : World) : Calls Try.prog 17 #[num a] w (SqrtPost w a) := by
  have hn : num a = wv (a / 18446744073709551616) (a % 18446744073709551616) := rfl
  generalize a / 18446744073709551616 = ah at hn
  generalize a % 18446744073709551616 = al at hn
  rw [hn]
  replace hn := Lib.hid hn
  unfold wv
  go_enter Try.func17, Try.ntmps17
  go_wp2
  go_step3
  go_wp2
  go_step3
  go_wp2
  go_loopw [3, 4] (fun rv tv wr => ∃ R T i c : Nat, rv = .int .u64 (R : Int) ∧ tv = .int .u64 (T : Int) ∧ Sq a R T i c ∧ Below w.heap.size w wr ∧ w.heap.size < wr.heap.size ∧ HasWide wr w.heap.size ah al) (fun _ tv _ => (intOf tv).toNat)
  case atStart =>
    refine ⟨0, 9223372036854775808, 63, 0, rfl, rfl, ⟨rfl, rfl, by omega, by omega, by omega⟩, (Below.refl _ _).alloc (Nat.le_refl _) _, by simp, ?_⟩
    have h := Blk.new w 24 #[.int .u64 (ah : Int), .int .u64 (al : Int)]
    exact ⟨h.cell 0, h.cell 1⟩
  case round =>
    obtain ⟨R, T, i, c, rfl, rfl, hS, hB, hz, hW⟩ := hrel
    have hor : bits .or .u64 (R : Int) (T : Int) = ((R + T : Nat) : Int) := by
      obtain ⟨rfl, rfl, h1, _, _⟩ := hS
      have : 0 < 2 ^ i := Nat.pow_pos (by omega)
      exact or_sum c i (by omega)
    have hlt : R + T < 18446744073709551616 := by
      obtain ⟨rfl, _, h1, _, _⟩ := hS
      have : 0 < 2 ^ i := Nat.pow_pos (by omega)
      omega
    go_wp2_with fail
    go_region_held3 (fun w' => Below w.heap.size w w' ∧ w.heap.size < w'.heap.size ∧ w'.cell? ⟨w.heap.size, 0, none⟩ = some (.int .u64 (ah : Int)) ∧ w'.cell? ⟨w.heap.size, 1, none⟩ = some (.int .u64 (al : Int))) (first | exact held_step (by assumption) hb | exact ⟨hB.drew, hz, hW.1, hW.2⟩) (first | (go_at_call 14; refine (mul_any _ _ hlt hlt _).mono ?_; rintro e w' ⟨rfl, hb⟩; unfold num wv) | (go_at_call 16; refine (cmp_hl ((R + T) * (R + T)) a ah al hn.out _).mono ?_; rintro e w' ⟨rfl, hb⟩))
    rename_i hH
    obtain ⟨H1, H2, H3, H4⟩ := hH
    clear hb hB hz hW hor
    by_cases hle : (R + T) * (R + T) ≤ a
    · have hq : cmpN ((R + T) * (R + T)) a ≤ 0 := by unfold cmpN; split <;> (try split) <;> omega
      generalize cmpN ((R + T) * (R + T)) a = q at *
      by_cases h1 : T = 1
      · have e1 : ((T : Int) == 1) = true := by simp [h1]
        have hF : Hid ((R + T) * (R + T) ≤ a ∧ a < (R + T + 1) * (R + T + 1)) := by
          subst h1
          exact ⟨hle, hS.2.2.2.2⟩
        clear h1 hS hle
        go_wp2
        rw [Exit.noGoto_ret]
        go_ret
        exact ⟨R + T, rfl, hlt, hF.1, hF.2, H1⟩
      · have e1 : ((T : Int) == 1) = false := by simp; omega
        obtain ⟨j, d, hS'⟩ := hS.high h1 hle
        have hT : 0 < T := by rw [hS.1]; exact Nat.pow_pos (by omega)
        replace hle := Lib.hid hle
        replace h1 := Lib.hid h1
        go_wp2
        exact ⟨⟨R + T, T / 2, j, d, rfl, rfl, hS', H1, H2, H3, H4⟩, by simp [intOf]; omega⟩
    · have hq : 0 < cmpN ((R + T) * (R + T)) a := by unfold cmpN; split <;> (try split) <;> omega
      generalize cmpN ((R + T) * (R + T)) a = q at *
      by_cases h1 : T = 1
      · have e1 : ((T : Int) == 1) = true := by simp [h1]
        have hF : Hid (R * R ≤ a ∧ a < (R + 1) * (R + 1) ∧ R < 18446744073709551616) := by
          subst h1
          exact ⟨hS.2.2.2.1, by omega, by omega⟩
        clear h1 hS hle
        go_wp2
        rw [Exit.noGoto_ret]
        go_ret
        exact ⟨R, rfl, hF.2.2, hF.1, hF.2.1, H1⟩
      · have e1 : ((T : Int) == 1) = false := by simp; omega
        obtain ⟨j, d, hS'⟩ := hS.low h1 (by omega)
        have hT : 0 < T := by rw [hS.1]; exact Nat.pow_pos (by omega)
        replace hle := Lib.hid hle
        replace h1 := Lib.hid h1
        go_wp2
        exact ⟨⟨R, T / 2, j, d, rfl, rfl, hS', H1, H2, H3, H4⟩, by simp [intOf]; omega⟩
end Go.Proofs.Ytodjpljdkjemmaa
