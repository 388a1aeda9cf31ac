/- The contract of wide.Print. -/
import Derived.Test.YtodjpljdkjemmaaWideDiv
import Derived.Deep.LoopGhost
import Derived.BigQuiet
namespace Go.Proofs.Ytodjpljdkjemmaa
open Go.RowKit
set_option linter.unusedVariables false

/-- The digits of a number above 0, as signs. -/
def dig : Nat → Nat → List Nat
  | 0, _ => []
  | f + 1, n => if n = 0 then [] else dig f (n / 10) ++ [48 + n % 10]
/-- A number's text. -/
def dec (n : Nat) : List Nat := dig 39 (n / 10) ++ [48 + n % 10]
def u8s (l : List Nat) : Array Value := (l.map fun x : Nat => Value.int .u8 (x : Int)).toArray
theorem u8s_set (l : List Nat) (i x : Nat) : (u8s l).setIfInBounds i (.int .u8 (x : Int)) = u8s (l.set i x) := by simp [u8s, List.map_set]
def text (l : List Nat) : ByteArray := ⟨(l.map fun x => UInt8.ofNat x).toArray⟩

theorem below_drewN {B : Nat} {a w : World} (h : Below B a w) (n : Nat) : Below B a (w.drewN n) := ⟨h.os, h.tape, h.output, h.size, h.block⟩
theorem pair_set {w : World} {g : Nat} {t : TypeId} {x y u v : Value} (h : Blk w g t #[x, y]) : Blk ((w.setCell ⟨g, 0, none⟩ u).setCell ⟨g, 1, none⟩ v) g t #[u, v] := by
  have := (h.set_ 0 u).set_ 1 v
  simpa using this
theorem u8s_put (b r : Nat) (L : List Nat) : (u8s (List.replicate (b + 1) 0 ++ L)).setIfInBounds b (.int .u8 (48 + (r : Int))) = u8s (List.replicate b 0 ++ (48 + r) :: L) := by
  rw [show (48 + (r : Int)) = ((48 + r : Nat) : Int) from by omega, u8s_set]
  congr 1
  simp [List.replicate_succ']
theorem dig_lt : ∀ (f n x : Nat), x ∈ dig f n → x < 58
  | 0, n, x, h => by simp [dig] at h
  | f + 1, n, x, h => by
    rw [dig] at h
    split at h
    · simp at h
    · rw [List.mem_append] at h
      rcases h with h | h
      · exact dig_lt f _ x h
      · simp at h; omega
theorem dec_lt (n x : Nat) (h : x ∈ dec n) : x < 58 := by
  rw [dec, List.mem_append] at h
  rcases h with h | h
  · exact dig_lt _ _ x h
  · simp at h; omega
theorem slice_digits (S a len : Nat) (h : a + len = 39) (h0 : 0 < len) (w : World) :
    (Instr.sliceAt 53 (.pointer (some ⟨S, 0, none⟩)) (some (.int .i64 (a : Int))) none none).run Try.prog w = .ok (.slice (some ⟨S, a, none⟩) len len) w := by
  have hal : Try.prog.arrayLen 53 = 39 := by kernel_rfl
  have hel : Try.prog.elem 53 = 5 := by kernel_rfl
  have hsz : ∀ w, (sizeOf 5).run Try.prog w = .ok 1 w := fun w => by kernel_rfl
  rw [run_sliceAt_array_l w 53 ⟨S, 0, none⟩ Try.underlying53 .i64 (a : Int) (by omega) (by rw [hal]; omega), hel, hsz, hal]
  simp only [Result.andThen, slicedAt, Int.toNat_natCast, Nat.mul_one]
  rw [if_neg (by omega), show 39 - a = len by omega]
  congr 3
  unfold Addr.add
  split <;> simp_all
theorem text_of (w : World) (S a : Nat) (t : TypeId) (L : List Nat) (hL : ∀ x ∈ L, x < 58) (hb : Blk w S t (u8s (List.replicate a 0 ++ L))) :
    (convert 51 9 (.slice (some ⟨S, a, none⟩) L.length L.length)).run Try.prog w = .ok (.string (text L)) w := by
  have := run_convert_bytes_back (P := Try.prog) w 51 9 5 ⟨S, a, none⟩ L.length (L.map fun x => UInt8.ofNat x) Try.underlying51 Try.underlying5 Try.underlying9 (fun j hj => by
    have hj' : j < L.length := by simpa using hj
    have hadd : (⟨S, a, none⟩ : Addr).add j = ⟨S, a + j, none⟩ := by unfold Addr.add; split <;> simp_all
    rw [hadd, hb.cell]
    have hx := hL L[j] (List.getElem_mem hj')
    have e : (UInt8.ofNat L[j]).toNat = L[j] := by rw [UInt8.toNat_ofNat']; omega
    simp [u8s, hj', e])
  rw [List.length_map] at this
  exact this
theorem dig_zero : ∀ f, dig f 0 = []
  | 0 => rfl
  | f + 1 => by simp [dig]
/-- What holds at the loop's head: k digits are written, m is left. -/
def Pr (n m k : Nat) (L : List Nat) : Prop := L.length = k ∧ k ≤ 39 ∧ m * 10 ^ k ≤ n ∧ ((k = 0 ∧ m = n) ∨ (0 < k ∧ dec n = dig (40 - k) m ++ L))
theorem Pr.step {n m k : Nat} {L : List Nat} (h : Pr n m k L) (hk : k < 39) (hm : k = 0 ∨ m ≠ 0) : Pr n (m / 10) (k + 1) ((48 + m % 10) :: L) := by
  obtain ⟨h1, h2, h3, h4⟩ := h
  refine ⟨by simp [h1], by omega, ?_, .inr ⟨by omega, ?_⟩⟩
  · have : m / 10 * 10 ^ (k + 1) = (m / 10 * 10) * 10 ^ k := by rw [Nat.pow_succ, Nat.mul_comm (10 ^ k) 10, Nat.mul_assoc]
    rw [this]
    exact Nat.le_trans (Nat.mul_le_mul_right _ (by omega)) h3
  · rcases h4 with ⟨rfl, rfl⟩ | ⟨h5, h6⟩
    · have : L = [] := List.eq_nil_of_length_eq_zero h1
      rw [this]
      rfl
    · rw [h6, show 40 - k = (40 - (k + 1)) + 1 by omega, dig, if_neg (by omega)]
      simp

set_option maxRecDepth 100000 in
set_option maxHeartbeats 4000000 in
theorem print_any (n : Nat) (hn : n < 340282366920938463463374607431768211456) (w : World) : Calls Try.prog 20 #[num n] w fun e w' => e = .returned (.string (text (dec n))) ∧ Below w.heap.size w w' := by
  obtain ⟨h, hh⟩ : ∃ h : Nat, h = n / 18446744073709551616 := ⟨_, rfl⟩
  obtain ⟨lo, hlo⟩ : ∃ lo : Nat, lo = n % 18446744073709551616 := ⟨_, rfl⟩
  have e0 : num n = .agg #[.int .u64 (h : Int), .int .u64 (lo : Int)] := by rw [hh, hlo]; rfl
  rw [e0]
  clear e0
  replace hh := Lib.hid hh
  replace hlo := Lib.hid hlo
  replace hn := Lib.hid hn
  go_enter Try.func20, Try.ntmps20
  go_wp2
  go_loopw [4] (fun at_ wr => ∃ (a k m h lo : Nat) (L : List Nat), at_ = .int .i64 (a : Int) ∧ a + k = 39 ∧ Pr n m k L ∧ m = h * 18446744073709551616 + lo ∧ lo < 18446744073709551616 ∧ Below w.heap.size w wr ∧
      Blk wr w.heap.size 24 #[.int .u64 (h : Int), .int .u64 (lo : Int)] ∧ Blk wr (w.heap.size + 1) 53 (u8s (List.replicate a 0 ++ L))) (fun at_ _ => (intOf at_).toNat)
  case atStart =>
    refine ⟨39, 0, n, h, lo, [], rfl, rfl, ⟨rfl, by omega, by simp, .inl ⟨rfl, rfl⟩⟩, by have := hh.out; have := hlo.out; omega, by have := hlo.out; omega, ((Below.refl _ _).alloc (Nat.le_refl _) _).alloc (by simp) _, (Blk.new _ _ _).alloc _, ?_⟩
    have hb := Blk.new (w.alloc (.cells #[.int .u64 (h : Int), .int .u64 (lo : Int)] 24)) 53 (u8s (List.replicate 39 0))
    have e : (w.alloc (.cells #[.int .u64 (h : Int), .int .u64 (lo : Int)] 24)).heap.size = w.heap.size + 1 := by simp
    rw [e] at hb
    exact hb
  case round =>
    obtain ⟨a, k, m, h', lo', L, rfl, hak, hP, hm, hl, hB, ba, bd⟩ := hrel
    have hk : k ≤ 39 := hP.2.1
    have ca : wr.cell? ⟨w.heap.size, 0, none⟩ = some (.int .u64 (h' : Int)) := ba.cell 0
    have cb : wr.cell? ⟨w.heap.size, 1, none⟩ = some (.int .u64 (lo' : Int)) := ba.cell 1
    have fa := ba.frozen 0
    have fb := ba.frozen 1
    by_cases hgo : k = 0 ∨ m ≠ 0
    · have hk' : k < 39 := by
        have := hP.2.2.1
        have := hn.out
        rcases hgo with h0 | h0
        · omega
        · rcases Nat.lt_or_ge k 39 with hlt | hge
          · exact hlt
          · obtain rfl : k = 39 := by omega
            have : 1 * 10 ^ 39 ≤ m * 10 ^ 39 := Nat.mul_le_mul_right _ (by omega)
            omega
      have hstep := hP.step hk' hgo
      obtain ⟨b, rfl⟩ : ∃ b, a = b + 1 := ⟨a - 1, by omega⟩
      have hb : b < 39 := by omega
      have cd : wr.cell? ⟨w.heap.size + 1, b, none⟩ = some (.int .u8 0) := by
        rw [bd.cell]
        simp [u8s, List.getElem?_append]
      have fd := bd.frozen b
      obtain ⟨N, hN⟩ : ∃ N : Nat, N = h' % 10 * 18446744073709551616 + lo' := ⟨_, rfl⟩
      obtain ⟨q, hq⟩ : ∃ q : Nat, q = N / 10 := ⟨_, rfl⟩
      obtain ⟨r, hr⟩ : ∃ r : Nat, r = N % 10 := ⟨_, rfl⟩
      have hr10 : (r : Int) < 10 := by omega
      have hb39 : (b : Int) < 39 := by omega
      have hm10 : m / 10 = h' / 10 * 18446744073709551616 + q := by omega
      have hmr : m % 10 = r := by omega
      have hq64 : q < 18446744073709551616 := by omega
      rw [hm10, hmr] at hstep
      have htest : (((b : Int) + 1 == 39) = true) ∨ (((b : Int) + 1 == 39) = false ∧ ((h' : Int) == 0) = false) ∨ (((b : Int) + 1 == 39) = false ∧ ((h' : Int) == 0) = true ∧ ((lo' : Int) == 0) = false) := by
        by_cases k0 : k = 0
        · exact .inl (by simp; omega)
        · by_cases h0 : h' = 0
          · exact .inr (.inr ⟨by simp; omega, by simp [h0], by simp; omega⟩)
          · exact .inr (.inl ⟨by simp; omega, by simp [h0]⟩)
      have hh64 : h' < 18446744073709551616 := by
        have h1 : m ≤ n := Nat.le_trans (Nat.le_mul_of_pos_right m (Nat.pow_pos (by omega))) hP.2.2.1
        have := hn.out
        omega
      obtain ⟨g, hg⟩ : ∃ g : Nat, g = h' / 10 := ⟨_, rfl⟩
      have hw : IntKind.u64.wrap ((h' : Int) / 10) = (g : Int) := by rw [IntKind.wrap_u64]; omega
      have hmod : (h' : Int) % 10 = ((h' % 10 : Nat) : Int) := by omega
      rw [← hg] at hstep hm10
      clear hh64
      replace hg := Lib.hid hg
      replace hw := Lib.hid hw
      replace hmod := Lib.hid hmod
      replace hN := Lib.hid hN
      replace hq := Lib.hid hq
      replace hr := Lib.hid hr
      replace hm10 := Lib.hid hm10
      replace hmr := Lib.hid hmr
      replace hq64 := Lib.hid hq64
      replace hm := Lib.hid hm
      replace hl := Lib.hid hl
      replace hP := Lib.hid hP
      replace hstep := Lib.hid hstep
      clear hgo hk
      rcases htest with t1 | ⟨t1, t2⟩ | ⟨t1, t2, t3⟩
      all_goals
        go_wp2_with fail
        go_quiet (fail)
        go_wp2_with fail
        rw [hw.out, hmod.out]
        refine (div_any N lo' (h' % 10) (by omega) hl.out hN.out _).mono ?_
        rintro e w2 ⟨rfl, ⟨nd, rfl⟩⟩
        rw [← hq.out, ← hr.out]
        go_wp2
        exact ⟨⟨b, k + 1, g * 18446744073709551616 + q, g, q, (48 + r) :: L, rfl, by omega, hstep.out, rfl, hq64.out, (((below_drewN hB _).setCell (by simp) _).setCell (by simp) _).setCell (by simp) _,
          (pair_set (ba.drawn ⟨_, rfl⟩)).far (by simp) _, u8s_put b r L ▸ (((bd.drawn ⟨_, rfl⟩).far (by simp) _).far (by simp) _).set_ b _⟩, by simp [intOf]⟩
    · have hk0 : k ≠ 0 := by omega
      have hm0 : m = 0 := by omega
      have hL : dec n = L := by
        rcases hP.2.2.2 with h0 | h0
        · omega
        · rw [h0.2, hm0, dig_zero]; rfl
      have hh0 : h' = 0 := by omega
      have hl0 : lo' = 0 := by omega
      subst hh0 hl0
      have t1 : ((a : Int) == 39) = false := by simp; omega
      have t2 : (a : Int) < 39 := by omega
      have hlen : a + L.length = 39 := by rw [hP.1]; exact hak
      have hs := slice_digits (w.heap.size + 1) a L.length hlen (by omega)
      have ht := text_of wr (w.heap.size + 1) a _ L (fun x hx => dec_lt n x (hL ▸ hx)) bd
      replace hL := Lib.hid hL
      clear hgo hP hm hl hlen
      go_wp2
      go_ret
      exact ⟨by rw [hL.out]; rfl, hB⟩
end Go.Proofs.Ytodjpljdkjemmaa
