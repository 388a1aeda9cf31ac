/- The contract of the document's tenth: a number divided by ten, and the rest. -/
import Derived.Test.YtodjpljdkjemmaaNumWide
namespace Go.Proofs.Ytodjpljdkjemmaa
open Go.RowKit
set_option linter.unusedVariables false

def TenthPost (w : World) (D : List Nat) (o : Bool) (e : Ending) (w' : World) : Prop :=
  ∃ (D' : List Nat) (r : Nat), e = .returned (.tuple #[numV D' o, .int .i64 (r : Int)]) ∧ Dig D' ∧ val D' = val D / 10 ∧ r = val D % 10 ∧ Below w.heap.size w w'
/-- The digits from k on are divided, r is the rest. -/
def Tenth (n k r : Nat) (D : List Nat) : Prop := Dig D ∧ r < 10 ∧ ∃ q, val D = q + val (D.take k) ∧ 10 * q + r * 65536 ^ k + val (D.take k) = n
theorem tenth_start (D : List Nat) (hD : Dig D) : Tenth (val D) 8 0 D := by
  refine ⟨hD, by omega, 0, ?_, ?_⟩
  · rw [List.take_of_length_le (Nat.le_of_eq hD.1)]; omega
  · rw [List.take_of_length_le (Nat.le_of_eq hD.1)]; omega
theorem Tenth.step {n i r : Nat} {D : List Nat} (h : Tenth n (i + 1) r D) (hi : i < 8) : Tenth n i ((r * 65536 + nthN D i) % 10) (D.set i ((r * 65536 + nthN D i) / 10)) := by
  obtain ⟨hd, hr, q, h1, h2⟩ := h
  have hdi := hd.2 i
  rw [val_take D i (by rw [hd.1]; exact hi)] at h1 h2
  have v1 := val_set D i ((r * 65536 + nthN D i) / 10) (by rw [hd.1]; exact hi)
  refine ⟨hd.set_ i _ hi (by omega), Nat.mod_lt _ (by omega), q + (r * 65536 + nthN D i) / 10 * 65536 ^ i, ?_, ?_⟩
  · rw [List.take_set_of_le (Nat.le_refl i)]
    omega
  · rw [List.take_set_of_le (Nat.le_refl i)]
    have e : (r * 65536 + nthN D i) = 10 * ((r * 65536 + nthN D i) / 10) + (r * 65536 + nthN D i) % 10 := by omega
    have e2 : (r * 65536 + nthN D i) * 65536 ^ i = 10 * ((r * 65536 + nthN D i) / 10 * 65536 ^ i) + (r * 65536 + nthN D i) % 10 * 65536 ^ i := by
      rw [← Nat.mul_assoc, ← Nat.add_mul, ← e]
    rw [Nat.add_mul] at e2
    rw [Nat.pow_succ, show r * (65536 ^ i * 65536) = r * 65536 * 65536 ^ i by rw [Nat.mul_assoc, Nat.mul_comm 65536]] at h2
    generalize (r * 65536 + nthN D i) / 10 * 65536 ^ i = x at *
    generalize (r * 65536 + nthN D i) % 10 * 65536 ^ i = y at *
    generalize r * 65536 * 65536 ^ i = z at *
    generalize nthN D i * 65536 ^ i = u at *
    generalize val (D.take i) = t at *
    omega
theorem Tenth.done {n r : Nat} {D : List Nat} (h : Tenth n 0 r D) : Dig D ∧ val D = n / 10 ∧ r = n % 10 := by
  obtain ⟨hd, hr, q, h1, h2⟩ := h
  rw [List.take_zero, val] at h1 h2
  rw [Nat.pow_zero] at h2
  exact ⟨hd, by omega, by omega⟩
theorem tenth_wrap {r d t : Nat} (hr : r < 10) (hd : d < 65536) (ht : t = r * 65536 + d) : wrap64 ((r : Int) * 65536 + (d : Int)) = (t : Int) ∧ wrap64 (wrap64 ((r : Int) * 65536) + (d : Int)) = (t : Int) := by
  simp only [wrap64]; omega
theorem tenth_quo {t q r : Nat} (h : t < 1000000) (hq : q = t / 10) (hr : r = t % 10) : wrap64 ((t : Int) / 10) = (q : Int) ∧ (t : Int) / 10 = (q : Int) ∧ (t : Int) % 10 = (r : Int) ∧ wrap64 (q : Int) = (q : Int) := by
  refine ⟨?_, by omega, by omega, ?_⟩ <;> simp only [wrap64] <;> omega
def TenthAt (w wr : World) (D : List Nat) (o : Bool) : Prop := Below w.heap.size w wr ∧ Blk wr w.heap.size 43 (numC D o) ∧ Blk wr (w.heap.size + 1) 43 (numC [] false)
theorem tenthAt_start (w : World) (D : List Nat) (o : Bool) : TenthAt w ((w.alloc (.cells (numC D o) 43)).alloc (.cells (numC [] false) 43)) D o := cmpAt_start w D [] o false
set_option maxRecDepth 100000 in
set_option maxHeartbeats 4000000 in
theorem tenth_any (D : List Nat) (o : Bool) (hD : Dig D) (w : World) : Calls Try.prog 33 #[numV D o] w (TenthPost w D o) := by
  have hT0 := Lib.hid (tenth_start D hD)
  unfold numV
  go_enter Try.func33, Try.ntmps33
  go_wp2
  go_loopw [4, 5] (fun rv iv wr => ∃ (k r : Nat) (D' : List Nat), k ≤ 8 ∧ rv = .int .i64 (r : Int) ∧ iv = .int .i64 ((k : Int) - 1) ∧ Tenth (val D) k r D' ∧ TenthAt w wr D' o) (fun _ iv _ => (intOf iv + 1).toNat)
  case atStart => exact ⟨8, 0, D, by omega, rfl, rfl, hT0.out, tenthAt_start w D o⟩
  case round =>
    obtain ⟨k, r, D', hk, rfl, rfl, hT, hB, bn, br⟩ := hrel
    cases k with
    | succ i =>
      have i0 : (0 : Int) ≤ ((i + 1 : Nat) : Int) - 1 := by omega
      have e0 : ((i + 1 : Nat) : Int) - 1 = (i : Int) := by omega
      rw [e0]
      have i1 : (0 : Int) ≤ (i : Int) := by omega
      have i8 : (i : Int) < 8 := by omega
      have hi : i < 8 := by omega
      have hstep := hT.step hi
      have hr := hT.2.1
      have hl := hT.1.1
      have hd := hT.1.2 i
      obtain ⟨d, hdd⟩ : ∃ d : Nat, d = nthN D' i := ⟨_, rfl⟩
      rw [← hdd] at hstep hd
      obtain ⟨t, ht⟩ : ∃ t : Nat, t = r * 65536 + d := ⟨_, rfl⟩
      rw [← ht] at hstep
      obtain ⟨q, hq⟩ : ∃ q : Nat, q = t / 10 := ⟨_, rfl⟩
      obtain ⟨r', hr'⟩ : ∃ r' : Nat, r' = t % 10 := ⟨_, rfl⟩
      rw [← hq, ← hr'] at hstep
      have cd : wr.cell? ⟨w.heap.size, i, none⟩ = some (.int .i64 (d : Int)) := by rw [hdd]; exact (bn.cell i).trans (numC_at D' _ i hi)
      have fd := bn.frozen i
      have r0 : (0 : Int) ≤ (r : Int) := by omega
      have r10 : (r : Int) < 10 := by omega
      have d0 : (0 : Int) ≤ (d : Int) := by omega
      have t0 : (0 : Int) ≤ (t : Int) := by omega
      have t6 : t < 1000000 := by omega
      have i8' : i ≤ 8 := by omega
      replace hstep := Lib.hid hstep
      replace hl := Lib.hid hl
      obtain ⟨w3, w4, w5, w6⟩ := tenth_quo t6 hq hr'
      obtain ⟨w1, w2⟩ := tenth_wrap hr hd ht
      replace w2 := Lib.hid w2
      replace w3 := Lib.hid w3
      replace w4 := Lib.hid w4
      replace w5 := Lib.hid w5
      replace w6 := Lib.hid w6
      clear hT hd ht hdd hq hr' hr t6
      go_wp2
      clear w1 w2 cd fd
      try rw [w3.out]
      try rw [w4.out]
      try rw [w5.out]
      clear w3 w4 w5 w6
      refine ⟨⟨i, r', D'.set i q, i8', rfl, by go_num, hstep.out, hB.setCell (Nat.le_refl _) _, ?_, br.far (by simp) _⟩, by simp [intOf]⟩
      have b2 := bn.set_ i (.int .i64 (q : Int))
      rwa [numC_set D' o i q hl.out hi] at b2
    | zero =>
      obtain ⟨hd, hv, hr⟩ := hT.done
      clear hT
      rw [show (((0 : Nat) : Int) - 1) = -1 by omega]
      replace hv := Lib.hid hv
      replace hr := Lib.hid hr
      obtain ⟨c0, c1, c2, c3, c4, c5, c6, c7, c8⟩ := num_cells bn
      obtain ⟨r0, r1, r2, r3, r4, r5, r6, r7, r8⟩ := num_cells br
      obtain ⟨z0, z1, z2, z3, z4, z5, z6, z7, z8⟩ := num_free br
      go_wp2
      rw [nine_fold wr (w.heap.size + 1) D' o]
      have b9 := nine_blk D' o br
      have B9 := nine_below D' o hB (g := w.heap.size + 1) (by omega)
      generalize nine wr (w.heap.size + 1) D' o = w9 at *
      obtain ⟨y0, y1, y2, y3, y4, y5, y6, y7, y8⟩ := num_cells b9
      refine bodyPost_ret (v := .tuple #[numV D' o, .int .i64 (r : Int)]) (by simp [results, Try.results33, go_sem, y0, y1, y2, y3, y4, y5, y6, y7, y8, numV]) rfl ?_
      exact ⟨D', r, rfl, hd, hv.out, hr.out, B9⟩
end Go.Proofs.Ytodjpljdkjemmaa
