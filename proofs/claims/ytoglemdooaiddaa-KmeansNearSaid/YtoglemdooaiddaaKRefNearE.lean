/- The contracts of theodoliteref06.Near and Cost. -/
import Derived.Test.YtoglemdooaiddaaKRefNear
namespace Go.Proofs.Ytoglemdooaiddaa
open Go.RowKit
set_option linter.unusedVariables false

set_option maxRecDepth 100000 in
set_option maxHeartbeats 2000000 in
theorem rNear_may (A : Option Addr) (m : List (List Int)) (c : Nat) (V : Option Addr) (v : List Int) (d : Nat) (w : World) (hm : Mat w A m) (hV : Row w V v) (h : mayE m ≠ 0) :
    Calls Try.prog 16 #[.slice A m.length c, .slice V v.length d] w (NearPost w 0 0 (mayE m)) := by
  have hM := Lib.hid (rmay_any A m c _ (hm.below (below_alloc1 w (.cells #[.int .u64 0, .int .u64 0] 34))))
  have hne : (mayE m != 0) = true := by simpa using h
  have hne2 : (mayE m == 0) = false := by simpa using h
  generalize mayE m = E at *
  clear h
  have S0 := NearS.start w
  go_enter Try.func16, Try.ntmps16
  go_wp2_with fail
  generalize w.alloc (.cells #[.int .u64 0, .int .u64 0] 34) = w0 at *
  obtain ⟨c1, c2, f1, f2⟩ := S0.cells
  refine hM.out.mono ?_
  rintro e w1 ⟨rfl, rfl⟩
  go_wp2_with fail
  have S1 : NearS w 0 ((w0.setCell ⟨w.heap.size, 0, none⟩ (.int .u64 0)).setCell ⟨w.heap.size, 1, none⟩ (.int .u64 0)) := S0.put 0
  generalize ((w0.setCell ⟨w.heap.size, 0, none⟩ (.int .u64 0)).setCell ⟨w.heap.size, 1, none⟩ (.int .u64 0)) = w9 at *
  have m0 : w9.cell? ⟨w.heap.size, 0, none⟩ = some (.int .u64 0) := S1.cells.1
  have m1 : w9.cell? ⟨w.heap.size, 1, none⟩ = some (.int .u64 0) := S1.cells.2.1
  refine bodyPost_ret (v := .tuple #[.int .i64 0, .agg #[.int .u64 0, .int .u64 0], .int .i64 E]) (by simp [results, Try.results16, go_sem, m0, m1]) rfl ?_
  exact ⟨rfl, S1.1⟩

set_option maxRecDepth 100000 in
set_option maxHeartbeats 2000000 in
theorem rNear_vec (A : Option Addr) (m : List (List Int)) (c : Nat) (V : Option Addr) (v : List Int) (d : Nat) (w : World) (hm : Mat w A m) (hV : Row w V v) (h0 : mayE m = 0) (h : vecE v (mrow m 0).length ≠ 0) :
    Calls Try.prog 16 #[.slice A m.length c, .slice V v.length d] w (NearPost w 0 0 (vecE v (mrow m 0).length)) := by
  have S0 := NearS.start w
  have hM := Lib.hid (rmay_any A m c _ (hm.below (below_alloc1 w (.cells #[.int .u64 0, .int .u64 0] 34))))
  have hE := Lib.hid (rvec_any V v d (mrow m 0).length _ (hV.below (below_alloc1 w (.cells #[.int .u64 0, .int .u64 0] 34))))
  have hne : (vecE v (mrow m 0).length != 0) = true := by simpa using h
  obtain ⟨g, o, R, rc, rfl, hc1, hR⟩ := hm 0 (mayE_ok h0).1
  rw [Nat.add_zero] at hc1
  have p1 : (0 : Int) < (m.length : Int) := by have := (mayE_ok h0).1; omega
  have d1 := below_cell (below_alloc1 w (.cells #[.int .u64 0, .int .u64 0] 34)) hc1
  generalize vecE v (mrow m 0).length = E at *
  clear h hm hc1
  go_enter Try.func16, Try.ntmps16
  go_wp2_with fail
  generalize w.alloc (.cells #[.int .u64 0, .int .u64 0] 34) = w0 at *
  obtain ⟨c1, c2, f1, f2⟩ := S0.cells
  refine hM.out.mono ?_
  rintro e w1 ⟨rfl, rfl⟩
  rw [h0]
  go_wp2_with fail
  refine hE.out.mono ?_
  rintro e w1 ⟨rfl, rfl⟩
  go_wp2_with fail
  have S1 : NearS w 0 ((w0.setCell ⟨w.heap.size, 0, none⟩ (.int .u64 0)).setCell ⟨w.heap.size, 1, none⟩ (.int .u64 0)) := S0.put 0
  generalize ((w0.setCell ⟨w.heap.size, 0, none⟩ (.int .u64 0)).setCell ⟨w.heap.size, 1, none⟩ (.int .u64 0)) = w9 at *
  have m0 : w9.cell? ⟨w.heap.size, 0, none⟩ = some (.int .u64 0) := S1.cells.1
  have m1 : w9.cell? ⟨w.heap.size, 1, none⟩ = some (.int .u64 0) := S1.cells.2.1
  refine bodyPost_ret (v := .tuple #[.int .i64 0, .agg #[.int .u64 0, .int .u64 0], .int .i64 E]) (by simp [results, Try.results16, go_sem, m0, m1]) rfl ?_
  exact ⟨rfl, S1.1⟩

set_option maxRecDepth 100000 in
set_option maxHeartbeats 2000000 in
theorem rNear_ok (A : Option Addr) (m : List (List Int)) (c : Nat) (V : Option Addr) (v : List Int) (d : Nat) (w : World) (hm : Mat w A m) (hV : Row w V v) (h : nearE m v = 0) :
    Calls Try.prog 16 #[.slice A m.length c, .slice V v.length d] w (NearPost w (nearN m v).1 (nearN m v).2 0) := by
  obtain ⟨h0, hv0, hl, hok, hvv, hl1, hl2⟩ := nearE_ok h
  have S0 := NearS.start w
  have hM := Lib.hid (rmay_any A m c _ (hm.below (below_alloc1 w (.cells #[.int .u64 0, .int .u64 0] 34))))
  have hE := Lib.hid (rvec_any V v d (mrow m 0).length _ (hV.below (below_alloc1 w (.cells #[.int .u64 0, .int .u64 0] 34))))
  have hN := Lib.hid (rnear_any A m c V v d hok hvv hl1 hl2 _ (hm.below (below_alloc1 w (.cells #[.int .u64 0, .int .u64 0] 34))) (hV.below (below_alloc1 w (.cells #[.int .u64 0, .int .u64 0] 34))))
  obtain ⟨g, o, R, rc, rfl, hc1, hR⟩ := hm 0 hl1
  rw [Nat.add_zero] at hc1
  have p1 : (0 : Int) < (m.length : Int) := by omega
  have d1 := below_cell (below_alloc1 w (.cells #[.int .u64 0, .int .u64 0] 34)) hc1
  clear h hm hc1 hok hvv hl1 hl2 hl
  generalize nearN m v = N at *
  obtain ⟨at_, D⟩ := N
  go_enter Try.func16, Try.ntmps16
  go_wp2_with fail
  generalize w.alloc (.cells #[.int .u64 0, .int .u64 0] 34) = w0 at *
  refine hM.out.mono ?_
  rintro e w1 ⟨rfl, rfl⟩
  rw [h0]
  go_wp2_with fail
  refine hE.out.mono ?_
  rintro e w1 ⟨rfl, rfl⟩
  rw [hv0]
  go_wp2_with fail
  refine hN.out.mono ?_
  rintro e w1 ⟨rfl, hb⟩
  clear d1
  have S1 := S0.more hb
  have S2 := S1.more (below_alloc1 w1 (.cells #[.int .u64 (hiN D : Int), .int .u64 (loN D : Int)] 34))
  have b2 := Blk.new w1 34 #[.int .u64 (hiN D : Int), .int .u64 (loN D : Int)]
  have hne : ¬ w.heap.size = w1.heap.size := by have := S1.2.lt; omega
  have hlt1 := S1.2.lt
  go_wp2_with fail
  generalize w1.alloc (.cells #[.int .u64 (hiN D : Int), .int .u64 (loN D : Int)] 34) = w2 at *
  obtain ⟨c1, c2, f1, f2⟩ := S2.cells
  have z0 : w2.cell? ⟨w1.heap.size, 0, none⟩ = some (.int .u64 (hiN D : Int)) := b2.cell 0
  have z1 : w2.cell? ⟨w1.heap.size, 1, none⟩ = some (.int .u64 (loN D : Int)) := b2.cell 1
  go_region
  all_goals
    have S3 := (S2.put D).drew
    generalize World.drew ((World.setCell _ ⟨w.heap.size, 0, none⟩ _).setCell ⟨w.heap.size, 1, none⟩ _) = w9 at *
    have m0 := S3.cells.1
    have m1 := S3.cells.2.1
    clear c1 c2 f1 f2
    go_wp2_with fail
    refine bodyPost_ret (v := .tuple #[.int .i64 (at_ : Int), .agg #[.int .u64 (hiN D : Int), .int .u64 (loN D : Int)], .int .i64 0]) (by simp [results, Try.results16, go_sem, m0, m1]) rfl ?_
    exact ⟨rfl, S3.1⟩

theorem rNear_any (A : Option Addr) (m : List (List Int)) (c : Nat) (V : Option Addr) (v : List Int) (d : Nat) (w : World) (hm : Mat w A m) (hV : Row w V v) :
    Calls Try.prog 16 #[.slice A m.length c, .slice V v.length d] w (NearPost w (nearAt m v) (nearD m v) (nearE m v)) := by
  by_cases h : nearE m v = 0
  · rw [nearAt, nearD, if_pos h, if_pos h, h]
    exact rNear_ok A m c V v d w hm hV h
  · rw [nearAt, nearD, if_neg h, if_neg h]
    by_cases h0 : mayE m = 0
    · have e : nearE m v = vecE v (mrow m 0).length := by rw [nearE, if_pos h0]
      rw [e] at h ⊢
      exact rNear_vec A m c V v d w hm hV h0 h
    · have e : nearE m v = mayE m := by rw [nearE, if_neg h0]
      rw [e]
      exact rNear_may A m c V v d w hm hV h0
set_option maxRecDepth 100000 in
set_option maxHeartbeats 2000000 in
theorem rCost_may (A : Option Addr) (m : List (List Int)) (c : Nat) (V : Option Addr) (l : List (List Int)) (d : Nat) (w : World) (hm : Mat w A m) (h : mayE m ≠ 0) :
    Calls Try.prog 18 #[.slice A m.length c, .slice V l.length d] w (CostPost w 0 (mayE m)) := by
  have hM := Lib.hid (rmay_any A m c _ (hm.below (below_alloc1 w (.cells #[.int .u64 0, .int .u64 0] 34))))
  have hne : (mayE m != 0) = true := by simpa using h
  have hne2 : (mayE m == 0) = false := by simpa using h
  generalize mayE m = E at *
  clear h
  have S0 := NearS.start w
  go_enter Try.func18, Try.ntmps18
  go_wp2_with fail
  generalize w.alloc (.cells #[.int .u64 0, .int .u64 0] 34) = w0 at *
  obtain ⟨c1, c2, f1, f2⟩ := S0.cells
  refine hM.out.mono ?_
  rintro e w1 ⟨rfl, rfl⟩
  go_wp2_with fail
  have S1 : NearS w 0 ((w0.setCell ⟨w.heap.size, 0, none⟩ (.int .u64 0)).setCell ⟨w.heap.size, 1, none⟩ (.int .u64 0)) := S0.put 0
  generalize ((w0.setCell ⟨w.heap.size, 0, none⟩ (.int .u64 0)).setCell ⟨w.heap.size, 1, none⟩ (.int .u64 0)) = w9 at *
  have m0 : w9.cell? ⟨w.heap.size, 0, none⟩ = some (.int .u64 0) := S1.cells.1
  have m1 : w9.cell? ⟨w.heap.size, 1, none⟩ = some (.int .u64 0) := S1.cells.2.1
  refine bodyPost_ret (v := .tuple #[.agg #[.int .u64 0, .int .u64 0], .int .i64 E]) (by simp [results, Try.results18, go_sem, m0, m1]) rfl ?_
  exact ⟨rfl, S1.1⟩

set_option maxRecDepth 100000 in
set_option maxHeartbeats 2000000 in
theorem rCost_long (A : Option Addr) (m : List (List Int)) (c : Nat) (V : Option Addr) (l : List (List Int)) (d : Nat) (w : World) (hm : Mat w A m) (h : mayE m = 0) (hl : 512 < l.length) :
    Calls Try.prog 18 #[.slice A m.length c, .slice V l.length d] w (CostPost w 0 2) := by
  have hM := Lib.hid (rmay_any A m c _ (hm.below (below_alloc1 w (.cells #[.int .u64 0, .int .u64 0] 34))))
  have hl' : (512 : Int) < (l.length : Int) := by omega
  have S0 := NearS.start w
  clear hl
  go_enter Try.func18, Try.ntmps18
  go_wp2_with fail
  generalize w.alloc (.cells #[.int .u64 0, .int .u64 0] 34) = w0 at *
  obtain ⟨c1, c2, f1, f2⟩ := S0.cells
  refine hM.out.mono ?_
  rintro e w1 ⟨rfl, rfl⟩
  rw [h]
  go_wp2_with fail
  have S1 : NearS w 0 ((w0.setCell ⟨w.heap.size, 0, none⟩ (.int .u64 0)).setCell ⟨w.heap.size, 1, none⟩ (.int .u64 0)) := S0.put 0
  generalize ((w0.setCell ⟨w.heap.size, 0, none⟩ (.int .u64 0)).setCell ⟨w.heap.size, 1, none⟩ (.int .u64 0)) = w9 at *
  have m0 : w9.cell? ⟨w.heap.size, 0, none⟩ = some (.int .u64 0) := S1.cells.1
  have m1 : w9.cell? ⟨w.heap.size, 1, none⟩ = some (.int .u64 0) := S1.cells.2.1
  refine bodyPost_ret (v := .tuple #[.agg #[.int .u64 0, .int .u64 0], .int .i64 2]) (by simp [results, Try.results18, go_sem, m0, m1]) rfl ?_
  exact ⟨rfl, S1.1⟩

set_option maxRecDepth 100000 in
set_option maxHeartbeats 2000000 in
theorem rCost_all (A : Option Addr) (m : List (List Int)) (c : Nat) (V : Option Addr) (l : List (List Int)) (d : Nat) (w : World) (hm : Mat w A m) (hV : Mat w V l) (h0 : mayE m = 0) (hl : l.length ≤ 512) (h : allE l (mrow m 0).length ≠ 0) :
    Calls Try.prog 18 #[.slice A m.length c, .slice V l.length d] w (CostPost w 0 (allE l (mrow m 0).length)) := by
  have hM := Lib.hid (rmay_any A m c _ (hm.below (below_alloc1 w (.cells #[.int .u64 0, .int .u64 0] 34))))
  have hE := Lib.hid (rall_any V l d (mrow m 0).length hl _ (hV.below (below_alloc1 w (.cells #[.int .u64 0, .int .u64 0] 34))))
  have hne : (allE l (mrow m 0).length != 0) = true := by simpa using h
  have hl' : (l.length : Int) ≤ 512 := by omega
  have S0 := NearS.start w
  obtain ⟨g, o, R, rc, rfl, hc1, hR⟩ := hm 0 (mayE_ok h0).1
  rw [Nat.add_zero] at hc1
  have p1 : (0 : Int) < (m.length : Int) := by have := (mayE_ok h0).1; omega
  have d1 := below_cell (below_alloc1 w (.cells #[.int .u64 0, .int .u64 0] 34)) hc1
  generalize allE l (mrow m 0).length = E at *
  clear h hm hc1 hl
  go_enter Try.func18, Try.ntmps18
  go_wp2_with fail
  generalize w.alloc (.cells #[.int .u64 0, .int .u64 0] 34) = w0 at *
  obtain ⟨c1, c2, f1, f2⟩ := S0.cells
  refine hM.out.mono ?_
  rintro e w1 ⟨rfl, rfl⟩
  rw [h0]
  go_wp2_with fail
  refine hE.out.mono ?_
  rintro e w1 ⟨rfl, rfl⟩
  go_wp2_with fail
  have S1 : NearS w 0 ((w0.setCell ⟨w.heap.size, 0, none⟩ (.int .u64 0)).setCell ⟨w.heap.size, 1, none⟩ (.int .u64 0)) := S0.put 0
  generalize ((w0.setCell ⟨w.heap.size, 0, none⟩ (.int .u64 0)).setCell ⟨w.heap.size, 1, none⟩ (.int .u64 0)) = w9 at *
  have m0 : w9.cell? ⟨w.heap.size, 0, none⟩ = some (.int .u64 0) := S1.cells.1
  have m1 : w9.cell? ⟨w.heap.size, 1, none⟩ = some (.int .u64 0) := S1.cells.2.1
  refine bodyPost_ret (v := .tuple #[.agg #[.int .u64 0, .int .u64 0], .int .i64 E]) (by simp [results, Try.results18, go_sem, m0, m1]) rfl ?_
  exact ⟨rfl, S1.1⟩

set_option maxRecDepth 100000 in
set_option maxHeartbeats 4000000 in
theorem rCost_ok (A : Option Addr) (m : List (List Int)) (c : Nat) (V : Option Addr) (l : List (List Int)) (d : Nat) (w : World) (hm : Mat w A m) (hV : Mat w V l) (h : costE m l = 0) :
    Calls Try.prog 18 #[.slice A m.length c, .slice V l.length d] w (CostPost w (costTo m l l.length) 0) := by
  obtain ⟨h0, hl, hol, hom, hm1, hm2⟩ := costE_ok h
  have hM := Lib.hid (rmay_any A m c _ (hm.below (below_alloc1 w (.cells #[.int .u64 0, .int .u64 0] 34))))
  have hE := Lib.hid (rall_any V l d (mrow m 0).length hl _ (hV.below (below_alloc1 w (.cells #[.int .u64 0, .int .u64 0] 34))))
  have hz : allE l (mrow m 0).length = 0 := allE_none _ _ hol
  have hl' : (l.length : Int) ≤ 512 := by omega
  have S0 := NearS.start w
  have F0 := FarS.start w
  obtain ⟨g, o, R, rc, hA, hc1, hR⟩ := hm 0 hm1
  rw [Nat.add_zero] at hc1
  have p1 : (0 : Int) < (m.length : Int) := by omega
  have d1 := below_cell (below_alloc1 w (.cells #[.int .u64 0, .int .u64 0] 34)) hc1
  subst hA
  have z9 : (w.alloc (.cells #[.int .u64 0, .int .u64 0] 34)).heap.size = w.heap.size + 1 := by simp
  replace hol := Lib.hid hol
  replace hom := Lib.hid hom
  clear h
  go_enter Try.func18, Try.ntmps18
  go_wp2_with fail
  generalize w.alloc (.cells #[.int .u64 0, .int .u64 0] 34) = w0 at *
  refine hM.out.mono ?_
  rintro e w1 ⟨rfl, rfl⟩
  rw [h0]
  go_wp2_with fail
  refine hE.out.mono ?_
  rintro e w1 ⟨rfl, rfl⟩
  rw [hz]
  go_wp2_with fail
  generalize w0.alloc (.cells #[.int .u64 0, .int .u64 0] 34) = w2 at *
  go_loopw [8] (fun i wr => ∃ k : Nat, k ≤ l.length ∧ i = .int .i64 (k : Int) ∧ FarS w (costTo m l k) wr) (fun i _ => l.length - (intOf i).toNat)
  case atStart => exact ⟨0, Nat.zero_le _, rfl, F0⟩
  case round =>
    obtain ⟨k, hk, rfl, hS⟩ := hrel
    clear S0 F0 hM hE d1
    by_cases hlt : k < l.length
    · obtain ⟨g2, o2, R2, rc2, rfl, hc2, hR2⟩ := hV k hlt
      have p0 : (0 : Int) ≤ (k : Int) := by omega
      have p2 : (k : Int) < (l.length : Int) := by omega
      have d2 := below_cell hS.1 hc2
      have e2 : (mrow l k).length = (mrow m 0).length := by have := (vecE_ok (hol.out k hlt)).2.2.1; omega
      have hN := Lib.hid (rnear_any (some ⟨g, o, none⟩) m c R2 (mrow l k) rc2 (by rw [e2]; exact hom.out) (by rw [e2]; exact hol.out k hlt) hm1 hm2 wr (hm.below hS.1) (hR2.below hS.1))
      have hW : Hid (Wd (costTo m l k + (nearN m (mrow l k)).2)) := Lib.hid (by
        have := costTo_le hom.out (k + 1) (fun i hi => hol.out i (by omega))
        rw [costTo] at this
        unfold Wd
        omega)
      have hT : Hid (costTo m l (k + 1) = costTo m l k + (nearN m (mrow l k)).2) := Lib.hid (by rw [costTo])
      clear hc2 hR2 e2
      generalize nearN m (mrow l k) = N at *
      generalize costTo m l k = C at *
      obtain ⟨at_, D⟩ := N
      go_wp2_with fail
      with_reducible refine hN.out.mono ?_
      rintro e w3 ⟨rfl, hb⟩
      clear d2 hN
      have S1 := hS.more hb
      have S2 := S1.more (below_alloc1 w3 (.cells #[.int .u64 (hiN D : Int), .int .u64 (loN D : Int)] 34))
      have b2 := Blk.new w3 34 #[.int .u64 (hiN D : Int), .int .u64 (loN D : Int)]
      have hlt1 := S1.2.2.lt
      have hne : ¬ w.heap.size + 1 = w3.heap.size := by omega
      obtain ⟨c1, c2, f1, f2⟩ := S1.sum
      go_wp2_with fail
      generalize w3.alloc (.cells #[.int .u64 (hiN D : Int), .int .u64 (loN D : Int)] 34) = w4 at *
      refine (rsum_any C D hW.out _).mono ?_
      rintro e w5 ⟨rfl, hb5⟩
      clear c1 c2 f1 f2 b2
      have S3 := S2.more hb5
      obtain ⟨c1, c2, f1, f2⟩ := S3.sum
      go_wp2_with fail
      exact ⟨⟨k + 1, by omega, by go_num, by rw [hT.out]; exact S3.put (C + D)⟩, by simp [intOf]; omega⟩
    · obtain rfl : k = l.length := by omega
      obtain ⟨c1, c2, f1, f2⟩ := hS.sum
      have z0 : wr.cell? ⟨w.heap.size, 0, none⟩ = some (.int .u64 0) := hS.2.1.cell 0
      have z1 : wr.cell? ⟨w.heap.size, 1, none⟩ = some (.int .u64 0) := hS.2.1.cell 1
      have z2 := hS.2.1.frozen 0
      have z3 := hS.2.1.frozen 1
      generalize costTo m l l.length = C at *
      go_wp2_with fail
      have B9 := (hS.1.setCell (p := ⟨w.heap.size, 0, none⟩) (by simp) (.int .u64 (hiN C : Int))).setCell (p := ⟨w.heap.size, 1, none⟩) (by simp) (.int .u64 (loN C : Int))
      have b9 := pair_set (u := .int .u64 (hiN C : Int)) (v := .int .u64 (loN C : Int)) hS.2.1
      generalize ((wr.setCell ⟨w.heap.size, 0, none⟩ _).setCell ⟨w.heap.size, 1, none⟩ _) = w9 at *
      have m0 : w9.cell? ⟨w.heap.size, 0, none⟩ = some (.int .u64 (hiN C : Int)) := b9.cell 0
      have m1 : w9.cell? ⟨w.heap.size, 1, none⟩ = some (.int .u64 (loN C : Int)) := b9.cell 1
      refine bodyPost_ret (v := .tuple #[.agg #[.int .u64 (hiN C : Int), .int .u64 (loN C : Int)], .int .i64 0]) (by simp [results, Try.results18, go_sem, m0, m1]) rfl ?_
      exact ⟨rfl, B9⟩

theorem rCost_any (A : Option Addr) (m : List (List Int)) (c : Nat) (V : Option Addr) (l : List (List Int)) (d : Nat) (w : World) (hm : Mat w A m) (hV : Mat w V l) :
    Calls Try.prog 18 #[.slice A m.length c, .slice V l.length d] w (CostPost w (costN m l) (costE m l)) := by
  by_cases h : costE m l = 0
  · rw [costN, if_pos h, h]
    exact rCost_ok A m c V l d w hm hV h
  · rw [costN, if_neg h]
    by_cases h0 : mayE m = 0
    · by_cases h1 : 512 < l.length
      · have e : costE m l = 2 := by rw [costE, if_pos h0, if_pos h1]
        rw [e]
        exact rCost_long A m c V l d w hm h0 h1
      · have e : costE m l = allE l (mrow m 0).length := by rw [costE, if_pos h0, if_neg h1]
        rw [e] at h ⊢
        exact rCost_all A m c V l d w hm hV h0 (by omega) h
    · have e : costE m l = mayE m := by rw [costE, if_neg h0]
      rw [e]
      exact rCost_may A m c V l d w hm h0
end Go.Proofs.Ytoglemdooaiddaa
