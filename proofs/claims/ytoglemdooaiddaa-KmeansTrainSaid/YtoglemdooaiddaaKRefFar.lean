/- The contracts of theodoliteref03's Square, Sum, Far and theodoliteref01's Less, by numbers. -/
import Derived.Test.YtoglemdooaiddaaKDist2
import Derived.Test.YtoglemdooaiddaaNumLessk
import Derived.Deep.CutRange
namespace Go.Proofs.Ytoglemdooaiddaa
open Go.RowKit
set_option linter.unusedVariables false

/-! ### Square -/
set_option maxRecDepth 100000 in
theorem rsq_d (n : Int) (d q : Nat) (hd : n.natAbs = d) (hn : wrap64 (-n) = -n) (h1 : IntKind.u64.wrap (d : Int) = (d : Int)) (h2 : IntKind.u64.wrap ((d : Int) * (d : Int)) = (q : Int)) (w : World) :
    Calls Try.prog 55 #[.int .i64 n] w fun e w' => e = .returned (.agg #[.int .u64 0, .int .u64 (q : Int)]) ∧ Below w.heap.size w w' := by
  have b0 := Blk.new w 34 #[.int .u64 0, .int .u64 0]
  have B0 := below_alloc1 w (.cells #[.int .u64 0, .int .u64 0] 34)
  have fin : ∀ w1, Below w.heap.size w w1 → Blk w1 w.heap.size 34 #[.int .u64 0, .int .u64 0] → Below w.heap.size w ((w1.setCell ⟨w.heap.size, 0, none⟩ (.int .u64 0)).setCell ⟨w.heap.size, 1, none⟩ (.int .u64 (q : Int))) ∧
      Blk ((w1.setCell ⟨w.heap.size, 0, none⟩ (.int .u64 0)).setCell ⟨w.heap.size, 1, none⟩ (.int .u64 (q : Int))) w.heap.size 34 #[.int .u64 0, .int .u64 (q : Int)] := fun w1 hB hb =>
    ⟨(hB.setCell (p := ⟨w.heap.size, 0, none⟩) (Nat.le_refl _) _).setCell (p := ⟨w.heap.size, 1, none⟩) (Nat.le_refl _) _, pair_set hb⟩
  replace fin := Lib.hid fin
  by_cases h : n < 0
  · have e1 : -n = (d : Int) := by omega
    rw [e1] at hn
    have hn2 : wrap64 (-n) = (d : Int) := by rw [e1]; exact hn
    replace h1 := Lib.hid h1
    replace h2 := Lib.hid h2
    replace hn := Lib.hid hn2
    clear hd hn2 e1
    go_enter Try.func55, Try.ntmps55
    go_upto_region 3 with fail
    rw [hn.out]
    generalize w.alloc (.cells #[.int .u64 0, .int .u64 0] 34) = w0 at *
    have c0 : w0.cell? ⟨w.heap.size, 0, none⟩ = some (.int .u64 0) := b0.cell 0
    have c1 : w0.cell? ⟨w.heap.size, 1, none⟩ = some (.int .u64 0) := b0.cell 1
    have f0 := b0.frozen 0
    have f1 := b0.frozen 1
    have k1 := h1.out
    have k2 := h2.out
    go_wp2_with fail
    obtain ⟨B9, b9⟩ := fin.out w0 B0 b0
    generalize ((w0.setCell ⟨w.heap.size, 0, none⟩ (.int .u64 0)).setCell ⟨w.heap.size, 1, none⟩ (.int .u64 (q : Int))) = w9 at *
    have m0 : w9.cell? ⟨w.heap.size, 0, none⟩ = some (.int .u64 0) := b9.cell 0
    have m1 : w9.cell? ⟨w.heap.size, 1, none⟩ = some (.int .u64 (q : Int)) := b9.cell 1
    refine bodyPost_ret (v := .agg #[.int .u64 0, .int .u64 (q : Int)]) (by simp [results, Try.results55, go_sem, m0, m1]) rfl ?_
    exact ⟨rfl, B9⟩
  · obtain rfl : n = (d : Int) := by omega
    have h0 : (0 : Int) ≤ (d : Int) := by omega
    replace h1 := Lib.hid h1
    replace h2 := Lib.hid h2
    clear hd hn h
    go_enter Try.func55, Try.ntmps55
    go_upto_region 3 with fail
    generalize w.alloc (.cells #[.int .u64 0, .int .u64 0] 34) = w0 at *
    have c0 : w0.cell? ⟨w.heap.size, 0, none⟩ = some (.int .u64 0) := b0.cell 0
    have c1 : w0.cell? ⟨w.heap.size, 1, none⟩ = some (.int .u64 0) := b0.cell 1
    have f0 := b0.frozen 0
    have f1 := b0.frozen 1
    have k1 := h1.out
    have k2 := h2.out
    go_wp2_with fail
    obtain ⟨B9, b9⟩ := fin.out w0 B0 b0
    generalize ((w0.setCell ⟨w.heap.size, 0, none⟩ (.int .u64 0)).setCell ⟨w.heap.size, 1, none⟩ (.int .u64 (q : Int))) = w9 at *
    have m0 : w9.cell? ⟨w.heap.size, 0, none⟩ = some (.int .u64 0) := b9.cell 0
    have m1 : w9.cell? ⟨w.heap.size, 1, none⟩ = some (.int .u64 (q : Int)) := b9.cell 1
    refine bodyPost_ret (v := .agg #[.int .u64 0, .int .u64 (q : Int)]) (by simp [results, Try.results55, go_sem, m0, m1]) rfl ?_
    exact ⟨rfl, B9⟩
/-- A difference of coordinates. -/
def DifOk (n : Int) : Prop := -4294967294 ≤ n ∧ n ≤ 4294967294
theorem rsq_any (n : Int) (h : DifOk n) (w : World) : Calls Try.prog 55 #[.int .i64 n] w fun e w' => e = .returned (.agg #[.int .u64 (hiN (sqN n) : Int), .int .u64 (loN (sqN n) : Int)]) ∧ Below w.heap.size w w' := by
  obtain ⟨h1, h2⟩ := h
  have hd : n.natAbs ≤ 4294967294 := by omega
  have hs : sqN n ≤ 18446744056529682436 := by
    unfold sqN
    calc _ ≤ 4294967294 * 4294967294 := Nat.mul_le_mul hd hd
      _ = _ := by decide
  have e1 : hiN (sqN n) = 0 := by unfold hiN; omega
  have e2 : loN (sqN n) = sqN n := by unfold loN; omega
  rw [e1, e2]
  refine rsq_d n n.natAbs (sqN n) rfl ?_ ?_ ?_ w
  · simp only [wrap64]; omega
  · rw [IntKind.wrap_u64]; omega
  · rw [← Int.natCast_mul]
    show IntKind.u64.wrap ((sqN n : Nat) : Int) = _
    rw [IntKind.wrap_u64]; omega

/-! ### Sum -/
/-- Sum's memory: the boxes, the result, the number that is built. -/
def SumAt (w w' : World) (ah al bh bl p l : Nat) : Prop := Below w.heap.size w w' ∧ Blk w' w.heap.size 34 #[.int .u64 (ah : Int), .int .u64 (al : Int)] ∧ Blk w' (w.heap.size + 1) 34 #[.int .u64 (bh : Int), .int .u64 (bl : Int)] ∧
  Blk w' (w.heap.size + 1 + 1) 34 #[.int .u64 0, .int .u64 0] ∧ Blk w' (w.heap.size + 1 + 1 + 1) 34 #[.int .u64 (p : Int), .int .u64 (l : Int)]
theorem SumAt.start (w : World) (ah al bh bl p l : Nat) : SumAt w ((((w.alloc (.cells #[.int .u64 (ah : Int), .int .u64 (al : Int)] 34)).alloc (.cells #[.int .u64 (bh : Int), .int .u64 (bl : Int)] 34)).alloc (.cells #[.int .u64 0, .int .u64 0] 34)).alloc (.cells #[.int .u64 (p : Int), .int .u64 (l : Int)] 34)) ah al bh bl p l := by
  have T := Two.start w ah al bh bl
  have z : ((w.alloc (.cells #[.int .u64 (ah : Int), .int .u64 (al : Int)] 34)).alloc (.cells #[.int .u64 (bh : Int), .int .u64 (bl : Int)] 34)).heap.size = w.heap.size + 1 + 1 := by simp
  generalize (w.alloc (.cells #[.int .u64 (ah : Int), .int .u64 (al : Int)] 34)).alloc (.cells #[.int .u64 (bh : Int), .int .u64 (bl : Int)] 34) = w2 at *
  have b3 := (Blk.new w2 34 #[.int .u64 0, .int .u64 0]).alloc (.cells #[.int .u64 (p : Int), .int .u64 (l : Int)] 34)
  have b4 := Blk.new (w2.alloc (.cells #[.int .u64 0, .int .u64 0] 34)) 34 #[.int .u64 (p : Int), .int .u64 (l : Int)]
  rw [show (w2.alloc (.cells #[.int .u64 0, .int .u64 0] 34)).heap.size = w2.heap.size + 1 by simp, z] at b4
  rw [z] at b3
  have T3 := (T.more (below_alloc1 _ (.cells #[.int .u64 0, .int .u64 0] 34))).more (below_alloc1 _ (.cells #[.int .u64 (p : Int), .int .u64 (l : Int)] 34))
  exact ⟨T3.1, T3.2.1, T3.2.2, b3, b4⟩
set_option maxRecDepth 100000 in
set_option maxHeartbeats 2000000 in
theorem rsum_flat (ah al bh bl p l : Nat) (hp : IntKind.u64.wrap ((ah : Int) + (bh : Int)) = (p : Int)) (hl : IntKind.u64.wrap ((al : Int) + (bl : Int)) = (l : Int)) (hc : al ≤ l) (w : World) :
    Calls Try.prog 43 #[.agg #[.int .u64 (ah : Int), .int .u64 (al : Int)], .agg #[.int .u64 (bh : Int), .int .u64 (bl : Int)]] w fun e w' => e = .returned (.agg #[.int .u64 (p : Int), .int .u64 (l : Int)]) ∧ Below w.heap.size w w' := by
  have S := SumAt.start w ah al bh bl p l
  have hc' : ¬ ((l : Int) < (al : Int)) := by omega
  clear hc
  go_enter Try.func43, Try.ntmps43
  go_upto_region 2 with fail
  generalize ((((w.alloc (.cells #[.int .u64 (ah : Int), .int .u64 (al : Int)] 34)).alloc (.cells #[.int .u64 (bh : Int), .int .u64 (bl : Int)] 34)).alloc (.cells #[.int .u64 0, .int .u64 0] 34)).alloc (.cells #[.int .u64 (p : Int), .int .u64 (l : Int)] 34)) = w4 at *
  have a1 : w4.cell? ⟨w.heap.size, 1, none⟩ = some (.int .u64 (al : Int)) := S.2.1.cell 1
  have q0 : w4.cell? ⟨w.heap.size + 1 + 1 + 1, 0, none⟩ = some (.int .u64 (p : Int)) := S.2.2.2.2.cell 0
  have q1 : w4.cell? ⟨w.heap.size + 1 + 1 + 1, 1, none⟩ = some (.int .u64 (l : Int)) := S.2.2.2.2.cell 1
  have z0 : w4.cell? ⟨w.heap.size + 1 + 1, 0, none⟩ = some (.int .u64 0) := S.2.2.2.1.cell 0
  have z1 : w4.cell? ⟨w.heap.size + 1 + 1, 1, none⟩ = some (.int .u64 0) := S.2.2.2.1.cell 1
  have f0 := S.2.2.2.1.frozen 0
  have f1 := S.2.2.2.1.frozen 1
  clear hp hl
  go_wp2_with fail
  have B9 := (S.1.setCell (p := ⟨w.heap.size + 1 + 1, 0, none⟩) (by simp; omega) (.int .u64 (p : Int))).setCell (p := ⟨w.heap.size + 1 + 1, 1, none⟩) (by simp; omega) (.int .u64 (l : Int))
  have b9 := pair_set (u := .int .u64 (p : Int)) (v := .int .u64 (l : Int)) S.2.2.2.1
  generalize ((w4.setCell ⟨w.heap.size + 1 + 1, 0, none⟩ _).setCell ⟨w.heap.size + 1 + 1, 1, none⟩ _) = w9 at *
  have m0 : w9.cell? ⟨w.heap.size + 1 + 1, 0, none⟩ = some (.int .u64 (p : Int)) := b9.cell 0
  have m1 : w9.cell? ⟨w.heap.size + 1 + 1, 1, none⟩ = some (.int .u64 (l : Int)) := b9.cell 1
  refine bodyPost_ret (v := .agg #[.int .u64 (p : Int), .int .u64 (l : Int)]) (by simp [results, Try.results43, go_sem, m0, m1]) rfl ?_
  exact ⟨rfl, B9⟩
set_option maxRecDepth 100000 in
set_option maxHeartbeats 2000000 in
theorem rsum_carry (ah al bh bl p l h : Nat) (hp : IntKind.u64.wrap ((ah : Int) + (bh : Int)) = (p : Int)) (hl : IntKind.u64.wrap ((al : Int) + (bl : Int)) = (l : Int)) (hh : IntKind.u64.wrap ((p : Int) + 1) = (h : Int)) (hc : l < al) (w : World) :
    Calls Try.prog 43 #[.agg #[.int .u64 (ah : Int), .int .u64 (al : Int)], .agg #[.int .u64 (bh : Int), .int .u64 (bl : Int)]] w fun e w' => e = .returned (.agg #[.int .u64 (h : Int), .int .u64 (l : Int)]) ∧ Below w.heap.size w w' := by
  have S := SumAt.start w ah al bh bl p l
  have hc' : (l : Int) < (al : Int) := by omega
  clear hc
  replace hh := Lib.hid hh
  go_enter Try.func43, Try.ntmps43
  go_upto_region 2 with fail
  generalize ((((w.alloc (.cells #[.int .u64 (ah : Int), .int .u64 (al : Int)] 34)).alloc (.cells #[.int .u64 (bh : Int), .int .u64 (bl : Int)] 34)).alloc (.cells #[.int .u64 0, .int .u64 0] 34)).alloc (.cells #[.int .u64 (p : Int), .int .u64 (l : Int)] 34)) = w4 at *
  have a1 : w4.cell? ⟨w.heap.size, 1, none⟩ = some (.int .u64 (al : Int)) := S.2.1.cell 1
  have q0 : w4.cell? ⟨w.heap.size + 1 + 1 + 1, 0, none⟩ = some (.int .u64 (p : Int)) := S.2.2.2.2.cell 0
  have q1 : w4.cell? ⟨w.heap.size + 1 + 1 + 1, 1, none⟩ = some (.int .u64 (l : Int)) := S.2.2.2.2.cell 1
  have z0 : w4.cell? ⟨w.heap.size + 1 + 1, 0, none⟩ = some (.int .u64 0) := S.2.2.2.1.cell 0
  have z1 : w4.cell? ⟨w.heap.size + 1 + 1, 1, none⟩ = some (.int .u64 0) := S.2.2.2.1.cell 1
  have f0 := S.2.2.2.1.frozen 0
  have f1 := S.2.2.2.1.frozen 1
  have f2 := S.2.2.2.2.frozen 0
  clear hp hl
  have hh2 := hh.out
  go_upto_region 4 with fail
  replace S : SumAt w (w4.setCell ⟨w.heap.size + 1 + 1 + 1, 0, none⟩ (.int .u64 (h : Int))) ah al bh bl h l :=
    ⟨S.1.setCell (p := ⟨w.heap.size + 1 + 1 + 1, 0, none⟩) (by simp; omega) _, S.2.1.far (by simp; omega) _, S.2.2.1.far (by simp) _, S.2.2.2.1.far (by simp) _, S.2.2.2.2.set_ 0 _⟩
  clear a1 q0 q1 z0 z1 f0 f1 f2 hh2 hh
  generalize w4.setCell ⟨w.heap.size + 1 + 1 + 1, 0, none⟩ (.int .u64 (h : Int)) = w5 at *
  have a1 : w5.cell? ⟨w.heap.size, 1, none⟩ = some (.int .u64 (al : Int)) := S.2.1.cell 1
  have q0 : w5.cell? ⟨w.heap.size + 1 + 1 + 1, 0, none⟩ = some (.int .u64 (h : Int)) := S.2.2.2.2.cell 0
  have q1 : w5.cell? ⟨w.heap.size + 1 + 1 + 1, 1, none⟩ = some (.int .u64 (l : Int)) := S.2.2.2.2.cell 1
  have z0 : w5.cell? ⟨w.heap.size + 1 + 1, 0, none⟩ = some (.int .u64 0) := S.2.2.2.1.cell 0
  have z1 : w5.cell? ⟨w.heap.size + 1 + 1, 1, none⟩ = some (.int .u64 0) := S.2.2.2.1.cell 1
  have f0 := S.2.2.2.1.frozen 0
  have f1 := S.2.2.2.1.frozen 1
  go_wp2_with fail
  have B9 := (S.1.setCell (p := ⟨w.heap.size + 1 + 1, 0, none⟩) (by simp; omega) (.int .u64 (h : Int))).setCell (p := ⟨w.heap.size + 1 + 1, 1, none⟩) (by simp; omega) (.int .u64 (l : Int))
  have b9 := pair_set (u := .int .u64 (h : Int)) (v := .int .u64 (l : Int)) S.2.2.2.1
  generalize ((w5.setCell ⟨w.heap.size + 1 + 1, 0, none⟩ _).setCell ⟨w.heap.size + 1 + 1, 1, none⟩ _) = w9 at *
  have m0 : w9.cell? ⟨w.heap.size + 1 + 1, 0, none⟩ = some (.int .u64 (h : Int)) := b9.cell 0
  have m1 : w9.cell? ⟨w.heap.size + 1 + 1, 1, none⟩ = some (.int .u64 (l : Int)) := b9.cell 1
  refine bodyPost_ret (v := .agg #[.int .u64 (h : Int), .int .u64 (l : Int)]) (by simp [results, Try.results43, go_sem, m0, m1]) rfl ?_
  exact ⟨rfl, B9⟩
theorem rsum_any (a b : Nat) (h : Wd (a + b)) (w : World) :
    Calls Try.prog 43 #[.agg #[.int .u64 (hiN a : Int), .int .u64 (loN a : Int)], .agg #[.int .u64 (hiN b : Int), .int .u64 (loN b : Int)]] w fun e w' => e = .returned (.agg #[.int .u64 (hiN (a + b) : Int), .int .u64 (loN (a + b) : Int)]) ∧ Below w.heap.size w w' := by
  unfold Wd at h
  by_cases hc : loN a + loN b < 18446744073709551616
  · have e1 : hiN (a + b) = hiN a + hiN b := by unfold hiN loN at *; omega
    have e2 : loN (a + b) = loN a + loN b := by unfold loN at *; omega
    rw [e1, e2]
    refine rsum_flat _ _ _ _ _ _ ?_ ?_ (by omega) w
    · rw [IntKind.wrap_u64]; unfold hiN; omega
    · rw [IntKind.wrap_u64]; omega
  · have e1 : hiN (a + b) = hiN a + hiN b + 1 := by unfold hiN loN at *; omega
    have e2 : loN (a + b) = loN a + loN b - 18446744073709551616 := by unfold loN at *; omega
    have e3 : loN a < 18446744073709551616 ∧ loN b < 18446744073709551616 := by unfold loN; omega
    rw [e1, e2]
    refine rsum_carry _ _ _ _ (hiN a + hiN b) _ _ ?_ ?_ ?_ (by omega) w
    · rw [IntKind.wrap_u64]; unfold hiN; omega
    · rw [IntKind.wrap_u64]; omega
    · rw [IntKind.wrap_u64]; unfold hiN at *; omega

/-! ### Less -/
theorem less_c (a b : Nat) (ha : Wd a) (hb : Wd b) (w : World) : Calls Try.prog 20 #[.agg #[.int .u64 (hiN a : Int), .int .u64 (loN a : Int)], .agg #[.int .u64 (hiN b : Int), .int .u64 (loN b : Int)]] w fun e w' => e = .returned (.bool (decide (a < b))) ∧ Below w.heap.size w w' := by
  have h := less_any (hiN a) (loN a) (hiN b) (loN b) (sm_hi a ha) (sm_lo a) (sm_hi b hb) (sm_lo b) w
  rw [wh_hl, wh_hl] at h
  exact h

/-! ### Far -/
theorem dif_ok {a b : Int} (ha : -2147483647 ≤ a ∧ a ≤ 2147483647) (hb : -2147483647 ≤ b ∧ b ≤ 2147483647) : DifOk (a - b) ∧ wrap64 (a - b) = a - b := by
  refine ⟨by unfold DifOk; omega, ?_⟩
  simp only [wrap64]
  omega
theorem dif_wrap {n : Int} (h : DifOk n) : IntKind.i64.wrap n = n := by
  obtain ⟨h1, h2⟩ := h
  rw [IntKind.wrap_i64]
  omega
set_option maxRecDepth 100000 in
set_option maxHeartbeats 4000000 in
theorem rfar_any (A B : Option Addr) (a b : List Int) (c d : Nat) (hl : b.length = a.length) (hca : CoordTo a a.length) (hcb : CoordTo b b.length) (h64 : a.length ≤ 64) (w : World) (hA : Row w A a) (hB : Row w B b) :
    Calls Try.prog 44 #[.slice A a.length c, .slice B b.length d] w fun e w' => e = .returned (.agg #[.int .u64 (hiN (farN a b) : Int), .int .u64 (loN (farN a b) : Int)]) ∧ Below w.heap.size w w' := by
  have S0 := FarS.start w
  rw [hl] at hcb
  replace hca := Lib.hid hca
  replace hcb := Lib.hid hcb
  rw [hl]
  go_enter Try.func44, Try.ntmps44
  go_wp2_with fail
  generalize (w.alloc (.cells #[.int .u64 0, .int .u64 0] 34)).alloc (.cells #[.int .u64 0, .int .u64 0] 34) = w0 at *
  go_loopw [6] (fun i wr => ∃ k : Nat, k ≤ a.length ∧ i = .int .i64 (k : Int) ∧ FarS w (farTo a b k) wr) (fun i _ => a.length - (intOf i).toNat)
  case atStart => exact ⟨0, Nat.zero_le _, rfl, S0⟩
  case round =>
    obtain ⟨k, hk, rfl, hS⟩ := hrel
    clear S0
    by_cases hlt : k < a.length
    · obtain ⟨g1, o1, rfl, hc1⟩ := hA k hlt
      obtain ⟨g2, o2, rfl, hc2⟩ := hB k (by omega)
      have p0 : (0 : Int) ≤ (k : Int) := by omega
      have p1 : (k : Int) < (a.length : Int) := by omega
      have d1 : (World.drew wr).cell? ⟨g1, o1 + k, none⟩ = some (.int .i64 (nth a k)) := below_cell hS.1 hc1
      have d2 : (World.drew wr).cell? ⟨g2, o2 + k, none⟩ = some (.int .i64 (nth b k)) := below_cell hS.1 hc2
      replace hS := hS.drew
      obtain ⟨c1, c2, f1, f2⟩ := hS.sum
      have hW : Hid (Wd (farTo a b k + sqN (nth a k - nth b k))) := Lib.hid (farTo_wd (k := k + 1) (by omega) (fun j hj => hca.out j (by omega)) (fun j hj => hcb.out j (by omega)))
      obtain ⟨u1, u2⟩ := dif_ok (hca.out k hlt) (hcb.out k hlt)
      have hP := Lib.hid (rsq_any (nth a k - nth b k) u1)
      have hQ := Lib.hid (rsum_any (farTo a b k) (sqN (nth a k - nth b k)) hW.out)
      replace u1 := Lib.hid u1
      have u3 : IntKind.i64.wrap (nth a k - nth b k) = nth a k - nth b k := dif_wrap u1.out
      go_wp2_with fail
      go_region_with
        (first
        | (go_at_call 55; (with_reducible refine (hP.out _).mono ?_); rintro e w1 ⟨rfl, hb1⟩; have S1 := hS.more hb1; obtain ⟨c5, c6, f5, f6⟩ := S1.sum)
        | (go_at_call 43; (with_reducible refine (hQ.out _).mono ?_); rintro e w2 ⟨rfl, hb2⟩; have S2 := S1.more hb2; obtain ⟨c3, c4, f3, f4⟩ := S2.sum))
      all_goals
        have S3 := S2.put (farTo a b k + sqN (nth a k - nth b k))
        generalize ((w2.setCell ⟨w.heap.size + 1, 0, none⟩ _).setCell ⟨w.heap.size + 1, 1, none⟩ _) = w3 at *
        clear c1 c2 c3 c4 f1 f2 f3 f4 d1 d2 u2 u3
        go_wp2_with fail
        exact ⟨⟨k + 1, by omega, by go_num, S3⟩, by simp [intOf]; omega⟩
    · obtain rfl : k = a.length := by omega
      obtain ⟨c1, c2, f1, f2⟩ := hS.sum
      have z0 := hS.2.1.cell 0
      have z1 := hS.2.1.cell 1
      simp only [List.getElem?_toArray, List.getElem?_cons_zero, List.getElem?_cons_succ] at z0 z1
      have z2 := hS.2.1.frozen 0
      have z3 := hS.2.1.frozen 1
      go_wp2_with fail
      have B9 := (hS.1.setCell (p := ⟨w.heap.size, 0, none⟩) (by simp) (.int .u64 (hiN (farTo a b a.length) : Int))).setCell (p := ⟨w.heap.size, 1, none⟩) (by simp) (.int .u64 (loN (farTo a b a.length) : Int))
      have b9 := pair_set (u := .int .u64 (hiN (farTo a b a.length) : Int)) (v := .int .u64 (loN (farTo a b a.length) : Int)) hS.2.1
      generalize ((wr.setCell ⟨w.heap.size, 0, none⟩ _).setCell ⟨w.heap.size, 1, none⟩ _) = w9 at *
      have m0 : w9.cell? ⟨w.heap.size, 0, none⟩ = some (.int .u64 (hiN (farTo a b a.length) : Int)) := b9.cell 0
      have m1 : w9.cell? ⟨w.heap.size, 1, none⟩ = some (.int .u64 (loN (farTo a b a.length) : Int)) := b9.cell 1
      refine bodyPost_ret (v := .agg #[.int .u64 (hiN (farTo a b a.length) : Int), .int .u64 (loN (farTo a b a.length) : Int)]) (by simp [results, Try.results44, go_sem, m0, m1]) rfl ?_
      exact ⟨rfl, B9⟩
end Go.Proofs.Ytoglemdooaiddaa
