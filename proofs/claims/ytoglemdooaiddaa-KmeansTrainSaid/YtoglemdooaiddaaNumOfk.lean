/- The contract of the document's Of: a Wide's digits. -/
import Derived.Test.YtoglemdooaiddaaNumSumk
namespace Go.Proofs.Ytoglemdooaiddaa
open Go.RowKit
set_option linter.unusedVariables false

def OfPost (w : World) (n : Nat) (e : Ending) (w' : World) : Prop := ∃ D, e = .returned (numV D false) ∧ Dig D ∧ val D = n ∧ Below w.heap.size w w'
/-- k digits of each half are taken; h and l are left. -/
def Taken (n k h l : Nat) (D : List Nat) : Prop := Dig D ∧ (∀ j, k ≤ j → j < 4 → nthN D j = 0 ∧ nthN D (4 + j) = 0) ∧ val D + l * 65536 ^ k + h * 65536 ^ (4 + k) = n ∧ l < 65536 ^ (4 - k) ∧ h < 65536 ^ (4 - k)
theorem taken_start (h l : Nat) (s1 : Sm h) (s2 : Sm l) : Taken (wh h l) 0 h l [0, 0, 0, 0, 0, 0, 0, 0] := by
  refine ⟨dig_none, fun j h1 h2 => ?_, ?_, ?_, ?_⟩
  · match j, h2 with
    | 0, _ => exact ⟨rfl, rfl⟩
    | 1, _ => exact ⟨rfl, rfl⟩
    | 2, _ => exact ⟨rfl, rfl⟩
    | 3, _ => exact ⟨rfl, rfl⟩
  · rw [val_none]; unfold wh; omega
  · unfold Sm at s2; omega
  · unfold Sm at s1; omega
theorem Taken.step {n k h l : Nat} {D : List Nat} (hT : Taken n k h l D) (hk : k < 4) : Taken n (k + 1) (h / 65536) (l / 65536) ((D.set k (l % 65536)).set (4 + k) (h % 65536)) := by
  obtain ⟨hd, hz, hv, hl, hh⟩ := hT
  have d1 := hd.set_ k (l % 65536) (by omega) (Nat.mod_lt _ (by omega))
  have z := hz k (Nat.le_refl _) hk
  have v1 := val_set D k (l % 65536) (by rw [hd.1]; omega)
  have v2 := val_set (D.set k (l % 65536)) (4 + k) (h % 65536) (by rw [d1.1]; omega)
  rw [nthN_set D k (4 + k) _ (by rw [hd.1]; omega), if_neg (by omega), z.2] at v2
  rw [z.1] at v1
  refine ⟨d1.set_ (4 + k) (h % 65536) (by omega) (Nat.mod_lt _ (by omega)), fun j h1 h2 => ?_, ?_, ?_, ?_⟩
  · have := hz j (by omega) h2
    rw [nthN_set _ _ _ _ (by rw [d1.1]; omega), nthN_set _ _ _ _ (by rw [hd.1]; omega), nthN_set _ _ _ _ (by rw [d1.1]; omega), nthN_set _ _ _ _ (by rw [hd.1]; omega)]
    rw [if_neg (by omega), if_neg (by omega), if_neg (by omega), if_neg (by omega)]
    exact this
  · have a1 : l * 65536 ^ k = l / 65536 * 65536 ^ (k + 1) + l % 65536 * 65536 ^ k := by
      rw [Nat.pow_succ, Nat.mul_comm (65536 ^ k) 65536, ← Nat.mul_assoc, ← Nat.add_mul]
      congr 1; omega
    have a2 : h * 65536 ^ (4 + k) = h / 65536 * 65536 ^ (4 + (k + 1)) + h % 65536 * 65536 ^ (4 + k) := by
      rw [show 4 + (k + 1) = 4 + k + 1 by omega, Nat.pow_succ, Nat.mul_comm (65536 ^ (4 + k)) 65536, ← Nat.mul_assoc, ← Nat.add_mul]
      congr 1; omega
    generalize l * 65536 ^ k = b1 at *
    generalize h * 65536 ^ (4 + k) = b2 at *
    generalize l / 65536 * 65536 ^ (k + 1) = b3 at *
    generalize h / 65536 * 65536 ^ (4 + (k + 1)) = b4 at *
    generalize l % 65536 * 65536 ^ k = b5 at *
    generalize h % 65536 * 65536 ^ (4 + k) = b6 at *
    omega
  · rw [show 4 - k = (4 - (k + 1)) + 1 by omega, Nat.pow_succ] at hl
    generalize 65536 ^ (4 - (k + 1)) = b at *
    omega
  · rw [show 4 - k = (4 - (k + 1)) + 1 by omega, Nat.pow_succ] at hh
    generalize 65536 ^ (4 - (k + 1)) = b at *
    omega
theorem Taken.done {n h l : Nat} {D : List Nat} (hT : Taken n 4 h l D) : Dig D ∧ val D = n := by
  obtain ⟨hd, _, hv, hl, hh⟩ := hT
  have h0 : h = 0 := by simpa using hh
  have l0 : l = 0 := by simpa using hl
  subst h0 l0
  exact ⟨hd, by simpa using hv⟩
/-- Of's memory: the box, the result, the number that is built. -/
def OfAt (w wr : World) (D : List Nat) (h l : Nat) : Prop := Below w.heap.size w wr ∧ Blk wr w.heap.size 34 #[.int .u64 (h : Int), .int .u64 (l : Int)] ∧ Blk wr (w.heap.size + 1) 67 (numC [] false) ∧ Blk wr (w.heap.size + 1 + 1) 67 (numC D false)
theorem ofAt_start (w : World) (h l : Nat) : OfAt w (((w.alloc (.cells #[.int .u64 (h : Int), .int .u64 (l : Int)] 34)).alloc (.cells (numC [] false) 67)).alloc (.cells (numC [] false) 67)) [0, 0, 0, 0, 0, 0, 0, 0] h l := by
  have e1 : (w.alloc (.cells #[.int .u64 (h : Int), .int .u64 (l : Int)] 34)).heap.size = w.heap.size + 1 := by simp
  have e2 : ((w.alloc (.cells #[.int .u64 (h : Int), .int .u64 (l : Int)] 34)).alloc (.cells (numC [] false) 67)).heap.size = w.heap.size + 1 + 1 := by simp
  refine ⟨(((Below.refl _ _).alloc (Nat.le_refl _) _).alloc (by simp) _).alloc (by simp; omega) _, ((Blk.new _ _ _).alloc _).alloc _, ?_, ?_⟩
  · have := (Blk.new (w.alloc (.cells #[.int .u64 (h : Int), .int .u64 (l : Int)] 34)) 67 (numC [] false)).alloc (.cells (numC [] false) 67)
    rwa [e1] at this
  · have := Blk.new ((w.alloc (.cells #[.int .u64 (h : Int), .int .u64 (l : Int)] 34)).alloc (.cells (numC [] false) 67)) 67 (numC [] false)
    rwa [e2] at this
theorem wrap_quo {a q : Nat} (s : Sm a) (h : q = a / 65536) : IntKind.u64.wrap ((a : Int) / 65536) = (q : Int) := by unfold Sm at s; rw [IntKind.wrap_u64]; omega
theorem wrap_dig {x : Nat} (h : x < 65536) : wrap64 (x : Int) = (x : Int) := by unfold wrap64; omega
theorem sm_of_le {a b : Nat} (h : a ≤ b) (s : Sm b) : Sm a := by unfold Sm at *; omega
set_option maxRecDepth 100000 in
set_option maxHeartbeats 4000000 in
theorem of_any (h l : Nat) (s1 : Sm h) (s2 : Sm l) (w : World) : Calls Try.prog 46 #[.agg #[.int .u64 (h : Int), .int .u64 (l : Int)]] w (OfPost w (wh h l)) := by
  have hT0 := Lib.hid (taken_start h l s1 s2)
  go_enter Try.func46, Try.ntmps46
  go_wp2
  go_loopw [4] (fun iv wr => ∃ (k h' l' : Nat) (D : List Nat), k ≤ 4 ∧ iv = .int .i64 (k : Int) ∧ Sm h' ∧ Sm l' ∧ Taken (wh h l) k h' l' D ∧ OfAt w wr D h' l') (fun iv _ => 4 - (intOf iv).toNat)
  case atStart => exact ⟨0, h, l, [0, 0, 0, 0, 0, 0, 0, 0], by omega, rfl, s1, s2, hT0.out, ofAt_start w h l⟩
  case round =>
    obtain ⟨k, h', l', D, hk, rfl, t1, t2, hT, hB, ba, br, bd⟩ := hrel
    by_cases hlt : k < 4
    · have hstep := hT.step hlt
      obtain ⟨x, hx⟩ : ∃ x : Nat, x = l' % 65536 := ⟨_, rfl⟩
      obtain ⟨y, hy⟩ : ∃ y : Nat, y = h' % 65536 := ⟨_, rfl⟩
      obtain ⟨q, hq⟩ : ∃ q : Nat, q = l' / 65536 := ⟨_, rfl⟩
      obtain ⟨p, hp⟩ : ∃ p : Nat, p = h' / 65536 := ⟨_, rfl⟩
      have k0 : (0 : Int) ≤ (k : Int) := by omega
      have k4 : (k : Int) < 4 := by omega
      have m1 : (l' : Int) % 65536 = (x : Int) := by omega
      have m2 : (h' : Int) % 65536 = (y : Int) := by omega
      have x1 : x < 65536 := by omega
      have y1 : y < 65536 := by omega
      have t3 : Sm q := sm_of_le (by omega) t2
      have t4 : Sm p := sm_of_le (by omega) t1
      rw [← hx, ← hy, ← hq, ← hp] at hstep
      have hdl : D.length = 8 := hT.1.1
      replace hstep := Lib.hid hstep
      clear hT
      have n1 : ¬ w.heap.size + 1 + 1 = w.heap.size := by omega
      have n2 : ¬ w.heap.size = w.heap.size + 1 + 1 := by omega
      have w1 := wrap_dig x1
      have w2 := wrap_dig y1
      have w3 := wrap_quo t2 hq
      have w4 := wrap_quo t1 hp
      clear x1 y1 hx hy hq hp
      have ca : wr.cell? ⟨w.heap.size, 0, none⟩ = some (.int .u64 (h' : Int)) := ba.cell 0
      have cb : wr.cell? ⟨w.heap.size, 1, none⟩ = some (.int .u64 (l' : Int)) := ba.cell 1
      have fa := ba.frozen 0
      have fb := ba.frozen 1
      have cd : wr.cell? ⟨w.heap.size + 1 + 1, k, none⟩ = some (.int .i64 (nthN D k : Int)) := (bd.cell k).trans (numC_at D _ k (by omega))
      have ce : wr.cell? ⟨w.heap.size + 1 + 1, 4 + k, none⟩ = some (.int .i64 (nthN D (4 + k) : Int)) := (bd.cell (4 + k)).trans (numC_at D _ (4 + k) (by omega))
      have fd := bd.frozen k
      have fe := bd.frozen (4 + k)
      go_wp2
      clear w1 w2 w3 w4 m1 m2 ca cb fa fb cd ce fd fe t1 t2
      refine ⟨⟨k + 1, p, q, (D.set k x).set (4 + k) y, by omega, by go_num, t4, t3, hstep.out, ?_⟩, by simp [intOf]; omega⟩
      clear hstep t3 t4
      have e1 := (((bd.set_ k (.int .i64 (x : Int))).far (p := ⟨w.heap.size, 1, none⟩) n1 (.int .u64 (q : Int))).set_ (4 + k) (.int .i64 (y : Int))).far (p := ⟨w.heap.size, 0, none⟩) n1 (.int .u64 (p : Int))
      rw [numC_set D false k x hdl (by omega), numC_set _ false (4 + k) y (by rw [List.length_set]; exact hdl) (by omega)] at e1
      have e2 := (((ba.far (p := ⟨w.heap.size + 1 + 1, k, none⟩) n2 (.int .i64 (x : Int))).set_ 1 (.int .u64 (q : Int))).far (p := ⟨w.heap.size + 1 + 1, 4 + k, none⟩) n2 (.int .i64 (y : Int))).set_ 0 (.int .u64 (p : Int))
      exact ⟨(((hB.setCell (by simp; omega) _).setCell (by simp) _).setCell (by simp; omega) _).setCell (by simp) _, by simpa using e2, (((br.far (by simp) _).far (by simp) _).far (by simp) _).far (by simp) _, e1⟩
    · obtain rfl : k = 4 := by omega
      obtain ⟨hd, hv⟩ := hT.done
      clear hT hlt t1 t2 ba
      obtain ⟨c0, c1, c2, c3, c4, c5, c6, c7, c8⟩ := num_cells bd
      obtain ⟨r0, r1, r2, r3, r4, r5, r6, r7, r8⟩ := num_cells br
      obtain ⟨z0, z1, z2, z3, z4, z5, z6, z7, z8⟩ := num_free br
      replace hv := Lib.hid hv
      go_wp2
      rw [nine_fold wr (w.heap.size + 1) D false]
      have b9 := nine_blk D false br
      have B9 := nine_below D false hB (g := w.heap.size + 1) (by omega)
      generalize nine wr (w.heap.size + 1) D false = w9 at *
      obtain ⟨y0, y1, y2, y3, y4, y5, y6, y7, y8⟩ := num_cells b9
      refine bodyPost_ret (v := numV D false) (by simp [results, Try.results46, go_sem, y0, y1, y2, y3, y4, y5, y6, y7, y8, numV]) rfl ?_
      exact ⟨D, rfl, hd, hv.out, B9⟩
end Go.Proofs.Ytoglemdooaiddaa
