/- The contract of the document's Num.Wide. -/
import Derived.Test.YtiamppbgpoffmaaNumAddq
namespace Go.Proofs.Ytiamppbgpoffmaa
open Go.RowKit
set_option linter.unusedVariables false

/-- The low and the high half of eight digits. -/
theorem val_halves (D : List Nat) (hD : D.length = 8) : val D = val (D.take 4) + 18446744073709551616 * val (D.drop 4) := by
  match D, hD with
  | [a, b, c, d, e, f, g, h], _ => simp only [val, List.take, List.drop]; omega
theorem half_lt (D : List Nat) (h : ∀ i, nthN D i < 65536) (hl : D.length = 4) : val D < 18446744073709551616 := by
  have := val_lt D h
  rw [hl] at this
  exact this
theorem take_nth (D : List Nat) (n i : Nat) (hi : i < n) : nthN (D.take n) i = nthN D i := by
  unfold nthN
  simp only [List.getD_eq_getElem?_getD, List.getElem?_take, if_pos hi]
theorem drop_nth (D : List Nat) (n i : Nat) : nthN (D.drop n) i = nthN D (n + i) := by
  unfold nthN
  simp only [List.getD_eq_getElem?_getD, List.getElem?_drop]
theorem dig_low {D : List Nat} (h : Dig D) : (∀ i, nthN (D.take 4) i < 65536) ∧ (D.take 4).length = 4 ∧ (∀ i, nthN (D.drop 4) i < 65536) ∧ (D.drop 4).length = 4 := by
  refine ⟨fun i => ?_, by rw [List.length_take, h.1]; rfl, fun i => by rw [drop_nth]; exact h.2 _, by rw [List.length_drop, h.1]⟩
  by_cases hi : i < 4
  · rw [take_nth D 4 i hi]; exact h.2 i
  · have : nthN (D.take 4) i = 0 := by
      unfold nthN
      rw [List.getD_eq_getElem?_getD, List.getElem?_eq_none (by rw [List.length_take, h.1]; simp; omega)]
      rfl
    rw [this]; omega
/-- What stands when the digits from k on are taken. -/
def Built (F : List Nat) (k x : Nat) : Prop := x * 65536 ^ k + val (F.take k) = val F
theorem Built.step {F : List Nat} {k x : Nat} (h : Built F (k + 1) x) (hk : k < F.length) : Built F k (65536 * x + nthN F k) := by
  unfold Built at *
  rw [val_take F k hk, Nat.pow_succ] at h
  rw [Nat.add_mul, ← h, show x * (65536 ^ k * 65536) = 65536 * x * 65536 ^ k by rw [← Nat.mul_assoc, Nat.mul_comm 65536 x, Nat.mul_assoc, Nat.mul_assoc, Nat.mul_comm (65536 ^ k)]]
  omega
theorem Built.small {F : List Nat} {k x : Nat} (h : Built F k x) (hF : val F < 18446744073709551616) : Sm x := by
  have : 0 < 65536 ^ k := Nat.pow_pos (by omega)
  have := Nat.le_mul_of_pos_right x this
  unfold Built at h
  unfold Sm
  omega
theorem Built.first (F : List Nat) (hl : F.length = 4) : Built F 4 0 := by
  unfold Built
  rw [List.take_of_length_le (by omega)]
  omega
theorem Built.last {F : List Nat} {x : Nat} (h : Built F 0 x) : x = val F := by
  unfold Built at h
  simpa [val] using h
theorem wrap_build {a x d y : Nat} (h : y = 65536 * x + d) (hd : d < 65536) (s : Sm y) : IntKind.u64.wrap (IntKind.u64.wrap (65536 * (x : Int)) + IntKind.u64.wrap (d : Int)) = (y : Int) := by
  unfold Sm at s
  rw [IntKind.wrap_u64, IntKind.wrap_u64, IntKind.wrap_u64]
  omega
def WideAt (w wr : World) (D : List Nat) (o : Bool) (h l : Nat) : Prop := Below w.heap.size w wr ∧ Blk wr w.heap.size 75 (numC D o) ∧ Blk wr (w.heap.size + 1) 44 #[.int .u64 0, .int .u64 0] ∧ Blk wr (w.heap.size + 1 + 1) 44 #[.int .u64 (h : Int), .int .u64 (l : Int)]
theorem wideAt_start (w : World) (D : List Nat) (o : Bool) : WideAt w (((w.alloc (.cells (numC D o) 75)).alloc (.cells #[.int .u64 0, .int .u64 0] 44)).alloc (.cells #[.int .u64 0, .int .u64 0] 44)) D o 0 0 := by
  have e1 : (w.alloc (.cells (numC D o) 75)).heap.size = w.heap.size + 1 := by simp
  have e2 : ((w.alloc (.cells (numC D o) 75)).alloc (.cells #[.int .u64 0, .int .u64 0] 44)).heap.size = w.heap.size + 1 + 1 := by simp
  refine ⟨(((Below.refl _ _).alloc (Nat.le_refl _) _).alloc (by simp) _).alloc (by simp; omega) _, ((Blk.new _ _ _).alloc _).alloc _, ?_, ?_⟩
  · have := (Blk.new (w.alloc (.cells (numC D o) 75)) 44 #[.int .u64 0, .int .u64 0]).alloc (.cells #[.int .u64 0, .int .u64 0] 44)
    rwa [e1] at this
  · have := Blk.new ((w.alloc (.cells (numC D o) 75)).alloc (.cells #[.int .u64 0, .int .u64 0] 44)) 44 #[.int .u64 0, .int .u64 0]
    rwa [e2] at this
set_option maxRecDepth 100000 in
set_option maxHeartbeats 4000000 in
theorem nwide_any (D : List Nat) (o : Bool) (hD : Dig D) (w : World) : Calls Try.prog 57 #[numV D o] w fun e w' => e = .returned (.agg #[.int .u64 (val (D.drop 4) : Int), .int .u64 (val (D.take 4) : Int)]) ∧ Below w.heap.size w w' := by
  obtain ⟨g1, g2, g3, g4⟩ := dig_low hD
  have v1 := half_lt _ g1 g2
  have v2 := half_lt _ g3 g4
  replace v1 := Lib.hid v1
  replace v2 := Lib.hid v2
  replace g1 := Lib.hid g1
  replace g3 := Lib.hid g3
  unfold numV
  go_enter Try.func57, Try.ntmps57
  go_wp2
  go_loopw [4] (fun iv wr => ∃ (k h l : Nat), k ≤ 4 ∧ iv = .int .i64 ((k : Int) - 1) ∧ Built (D.drop 4) k h ∧ Built (D.take 4) k l ∧ WideAt w wr D o h l) (fun iv _ => (intOf iv + 1).toNat)
  case atStart => exact ⟨4, 0, 0, by omega, rfl, Built.first _ g4, Built.first _ g2, wideAt_start w D o⟩
  case round =>
    obtain ⟨k, h, l, hk, rfl, hh, hl, hB, bn, br, bw⟩ := hrel
    cases k with
    | succ i =>
      have i0 : (0 : Int) ≤ ((i + 1 : Nat) : Int) - 1 := by omega
      have e0 : ((i + 1 : Nat) : Int) - 1 = (i : Int) := by omega
      rw [e0]
      have i1 : (0 : Int) ≤ (i : Int) := by omega
      have i4 : (i : Int) < 4 := by omega
      have h' := hh.step (by rw [g4]; omega)
      have l' := hl.step (by rw [g2]; omega)
      rw [drop_nth] at h'
      rw [take_nth D 4 i (by omega)] at l'
      obtain ⟨y, hy⟩ : ∃ y : Nat, y = 65536 * h + nthN D (4 + i) := ⟨_, rfl⟩
      obtain ⟨x, hx⟩ : ∃ x : Nat, x = 65536 * l + nthN D i := ⟨_, rfl⟩
      rw [← hy] at h'
      rw [← hx] at l'
      have n1 : ¬ w.heap.size + 1 + 1 = w.heap.size := by omega
      have n2 : ¬ w.heap.size = w.heap.size + 1 + 1 := by omega
      have ca : wr.cell? ⟨w.heap.size, i, none⟩ = some (.int .i64 (nthN D i : Int)) := (bn.cell i).trans (numC_at D _ i (by omega))
      have cb : wr.cell? ⟨w.heap.size, 4 + i, none⟩ = some (.int .i64 (nthN D (4 + i) : Int)) := (bn.cell (4 + i)).trans (numC_at D _ (4 + i) (by omega))
      have ch : wr.cell? ⟨w.heap.size + 1 + 1, 0, none⟩ = some (.int .u64 (h : Int)) := bw.cell 0
      have cl : wr.cell? ⟨w.heap.size + 1 + 1, 1, none⟩ = some (.int .u64 (l : Int)) := bw.cell 1
      have fh := bw.frozen 0
      have fl := bw.frozen 1
      have w1 := wrap_build (a := 0) hx (hD.2 i) (l'.small v1.out)
      have w2 := wrap_build (a := 0) hy (hD.2 (4 + i)) (h'.small v2.out)
      clear hh hl hx hy
      replace h' := Lib.hid h'
      replace l' := Lib.hid l'
      go_wp2_with fail
      go_region
      go_wp2_with fail
      have k1 : (0 : Int) ≤ 4 + (i : Int) := by omega
      have k2 : 4 + (i : Int) < 8 := by omega
      have hA2 : WideAt w (wr.setCell ⟨w.heap.size + 1 + 1, 1, none⟩ (.int .u64 (x : Int))).drew D o h x :=
        ⟨(hB.setCell (by simp; omega) _).drew, bn.far n2 _, br.far (by simp) _, bw.set_ 1 _⟩
      generalize (wr.setCell ⟨w.heap.size + 1 + 1, 1, none⟩ (.int .u64 (x : Int))).drew = w5 at *
      clear ca cb ch cl fh fl w1 hB bn br bw
      obtain ⟨hB, bn, br, bw⟩ := hA2
      have ca : w5.cell? ⟨w.heap.size, 4 + i, none⟩ = some (.int .i64 (nthN D (4 + i) : Int)) := (bn.cell (4 + i)).trans (numC_at D _ (4 + i) (by omega))
      have ch : w5.cell? ⟨w.heap.size + 1 + 1, 0, none⟩ = some (.int .u64 (h : Int)) := bw.cell 0
      have cl : w5.cell? ⟨w.heap.size + 1 + 1, 1, none⟩ = some (.int .u64 (x : Int)) := bw.cell 1
      have fh := bw.frozen 0
      go_region
      clear w2 ca ch cl fh
      go_wp2
      exact ⟨⟨i, y, x, by omega, by go_num, h'.out, l'.out, (hB.setCell (p := ⟨w.heap.size + 1 + 1, 0, none⟩) (by simp; omega) _).drew, bn.far n2 _, br.far (by simp) _, bw.set_ 0 _⟩, by simp [intOf]⟩
    | zero =>
      have e1 := hh.last
      have e2 := hl.last
      subst e1 e2
      clear hh hl
      rw [show (((0 : Nat) : Int) - 1) = -1 by omega]
      have c0 : wr.cell? ⟨w.heap.size + 1 + 1, 0, none⟩ = some (.int .u64 (val (D.drop 4) : Int)) := bw.cell 0
      have c1 : wr.cell? ⟨w.heap.size + 1 + 1, 1, none⟩ = some (.int .u64 (val (D.take 4) : Int)) := bw.cell 1
      have z0 : wr.cell? ⟨w.heap.size + 1, 0, none⟩ = some (.int .u64 0) := br.cell 0
      have z1 : wr.cell? ⟨w.heap.size + 1, 1, none⟩ = some (.int .u64 0) := br.cell 1
      have y0 := br.frozen 0
      have y1 := br.frozen 1
      obtain ⟨p, hp⟩ : ∃ p : Nat, p = val (D.drop 4) := ⟨_, rfl⟩
      obtain ⟨q, hq⟩ : ∃ q : Nat, q = val (D.take 4) := ⟨_, rfl⟩
      rw [← hp] at c0
      rw [← hq] at c1
      replace hp := Lib.hid hp
      replace hq := Lib.hid hq
      go_wp2
      have B9 := (hB.setCell (p := ⟨w.heap.size + 1, 0, none⟩) (by simp) (.int .u64 (p : Int))).setCell (p := ⟨w.heap.size + 1, 1, none⟩) (by simp) (.int .u64 (q : Int))
      have b9 := pair_set (u := .int .u64 (p : Int)) (v := .int .u64 (q : Int)) br
      generalize ((wr.setCell ⟨w.heap.size + 1, 0, none⟩ _).setCell ⟨w.heap.size + 1, 1, none⟩ _) = w9 at *
      have k0 : w9.cell? ⟨w.heap.size + 1, 0, none⟩ = some (.int .u64 (p : Int)) := b9.cell 0
      have k1 : w9.cell? ⟨w.heap.size + 1, 1, none⟩ = some (.int .u64 (q : Int)) := b9.cell 1
      refine bodyPost_ret (v := .agg #[.int .u64 (p : Int), .int .u64 (q : Int)]) (by simp [results, Try.results57, go_sem, k0, k1]) rfl ?_
      exact ⟨by rw [hp.out, hq.out], B9⟩
end Go.Proofs.Ytiamppbgpoffmaa
