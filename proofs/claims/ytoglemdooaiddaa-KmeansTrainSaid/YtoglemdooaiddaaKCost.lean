/- The contract of kmeans.Cost. -/
import Derived.Test.YtoglemdooaiddaaKNearE
namespace Go.Proofs.Ytoglemdooaiddaa
open Go.RowKit
set_option linter.unusedVariables false

def costE (cs l : List (List Int)) : Int := if mayE cs = 0 then (if 512 < l.length then 2 else allE l (mrow cs 0).length) else mayE cs
def costTo (cs l : List (List Int)) : Nat → Nat
  | 0 => 0
  | n + 1 => costTo cs l n + (nearN cs (mrow l n)).2
def costN (cs l : List (List Int)) : Nat := if costE cs l = 0 then costTo cs l l.length else 0
theorem costE_ok {cs l : List (List Int)} (h : costE cs l = 0) : mayE cs = 0 ∧ l.length ≤ 512 ∧ AllOk l (mrow cs 0).length l.length ∧ AllOk cs (mrow cs 0).length cs.length ∧ 1 ≤ cs.length ∧ cs.length ≤ 64 := by
  unfold costE at h
  split at h
  · rename_i hm
    obtain ⟨h1, h2, h3⟩ := mayE_ok hm
    split at h
    · omega
    · exact ⟨hm, by omega, allE_ok _ _ h, h3, h1, h2⟩
  · rename_i hm; exact absurd h hm

theorem nearTo_le {cs : List (List Int)} {v : List Int} {D : Nat} (n : Nat) (h : ∀ i, i < n → farN (mrow cs i) v ≤ D) : (nearTo cs v n).2 ≤ D := by
  induction n with
  | zero => simp [nearTo]
  | succ n ih =>
    rw [nearTo]
    split
    · exact h n (by omega)
    · exact ih (fun i hi => h i (by omega))
theorem far_ok {a b : List Int} {d : Nat} (ha : vecE a d = 0) (hb : vecE b d = 0) : farN a b ≤ 64 * 18446744056529682436 := by
  obtain ⟨_, h2, h3, h4⟩ := vecE_ok ha
  obtain ⟨_, _, h5, h6⟩ := vecE_ok hb
  have e1 : a.length = d := by omega
  have e2 : b.length = d := by omega
  rw [e1] at h4
  rw [e2] at h6
  have := farTo_le d h4 h6
  unfold farN
  rw [e1]
  exact Nat.le_trans this (Nat.mul_le_mul_right _ (by omega))
theorem near_le {cs : List (List Int)} {v : List Int} {d : Nat} (hc : AllOk cs d cs.length) (hv : vecE v d = 0) : (nearN cs v).2 ≤ 64 * 18446744056529682436 :=
  nearTo_le _ fun i hi => far_ok (hc i hi) hv
theorem costTo_le {cs l : List (List Int)} {d : Nat} (hc : AllOk cs d cs.length) (n : Nat) (hl : AllOk l d n) : costTo cs l n ≤ n * (64 * 18446744056529682436) := by
  induction n with
  | zero => simp [costTo]
  | succ n ih =>
    rw [costTo]
    have h1 := ih (fun i hi => hl i (by omega))
    have h2 := near_le hc (hl n (by omega))
    omega

def CostPost (w : World) (D : Nat) (f : Int) (e : Ending) (w' : World) : Prop := e = .returned (.tuple #[.agg #[.int .u64 (hiN D : Int), .int .u64 (loN D : Int)], .int .i64 f]) ∧ Below w.heap.size w w'

set_option maxRecDepth 100000 in
set_option maxHeartbeats 2000000 in
theorem Cost_may (A : Option Addr) (m : List (List Int)) (c : Nat) (V : Option Addr) (l : List (List Int)) (d : Nat) (w : World) (hm : Mat w A m) (h : mayE m ≠ 0) :
    Calls Try.prog 17 #[.slice A m.length c, .slice V l.length d] w (CostPost w 0 (mayE m)) := by
  have hM := Lib.hid (may_any A m c _ (hm.below (below_alloc1 w (.cells #[.int .u64 0, .int .u64 0] 34))))
  have hne : (mayE m != 0) = true := by simpa using h
  generalize mayE m = E at *
  clear h
  have S0 := NearS.start w
  go_enter Try.func17, Try.ntmps17
  go_wp2_with fail
  generalize w.alloc (.cells #[.int .u64 0, .int .u64 0] 34) = w0 at *
  obtain ⟨c1, c2, f1, f2⟩ := S0.cells
  refine hM.out.mono ?_
  rintro e w1 ⟨rfl, rfl⟩
  go_wp2_with fail
  have S1 : NearS w 0 ((w0.setCell ⟨w.heap.size, 0, none⟩ (.int .u64 0)).setCell ⟨w.heap.size, 1, none⟩ (.int .u64 0)) := S0.put 0
  generalize ((w0.setCell ⟨w.heap.size, 0, none⟩ (.int .u64 0)).setCell ⟨w.heap.size, 1, none⟩ (.int .u64 0)) = w9 at *
  have m0 : w9.cell? ⟨w.heap.size, 0, none⟩ = some (.int .u64 0) := S1.cells.1
  have m1 : w9.cell? ⟨w.heap.size, 1, none⟩ = some (.int .u64 0) := S1.cells.2.1
  refine bodyPost_ret (v := .tuple #[.agg #[.int .u64 0, .int .u64 0], .int .i64 E]) (by simp [results, Try.results17, go_sem, m0, m1]) rfl ?_
  exact ⟨rfl, S1.1⟩

set_option maxRecDepth 100000 in
set_option maxHeartbeats 2000000 in
theorem Cost_long (A : Option Addr) (m : List (List Int)) (c : Nat) (V : Option Addr) (l : List (List Int)) (d : Nat) (w : World) (hm : Mat w A m) (h : mayE m = 0) (hl : 512 < l.length) :
    Calls Try.prog 17 #[.slice A m.length c, .slice V l.length d] w (CostPost w 0 2) := by
  have hM := Lib.hid (may_any A m c _ (hm.below (below_alloc1 w (.cells #[.int .u64 0, .int .u64 0] 34))))
  have hl' : (512 : Int) < (l.length : Int) := by omega
  have S0 := NearS.start w
  clear hl
  go_enter Try.func17, Try.ntmps17
  go_wp2_with fail
  generalize w.alloc (.cells #[.int .u64 0, .int .u64 0] 34) = w0 at *
  obtain ⟨c1, c2, f1, f2⟩ := S0.cells
  refine hM.out.mono ?_
  rintro e w1 ⟨rfl, rfl⟩
  rw [h]
  go_wp2_with fail
  have S1 : NearS w 0 ((w0.setCell ⟨w.heap.size, 0, none⟩ (.int .u64 0)).setCell ⟨w.heap.size, 1, none⟩ (.int .u64 0)) := S0.put 0
  generalize ((w0.setCell ⟨w.heap.size, 0, none⟩ (.int .u64 0)).setCell ⟨w.heap.size, 1, none⟩ (.int .u64 0)) = w9 at *
  have m0 : w9.cell? ⟨w.heap.size, 0, none⟩ = some (.int .u64 0) := S1.cells.1
  have m1 : w9.cell? ⟨w.heap.size, 1, none⟩ = some (.int .u64 0) := S1.cells.2.1
  refine bodyPost_ret (v := .tuple #[.agg #[.int .u64 0, .int .u64 0], .int .i64 2]) (by simp [results, Try.results17, go_sem, m0, m1]) rfl ?_
  exact ⟨rfl, S1.1⟩

set_option maxRecDepth 100000 in
set_option maxHeartbeats 2000000 in
theorem Cost_all (A : Option Addr) (m : List (List Int)) (c : Nat) (V : Option Addr) (l : List (List Int)) (d : Nat) (w : World) (hm : Mat w A m) (hV : Mat w V l) (h0 : mayE m = 0) (hl : l.length ≤ 512) (h : allE l (mrow m 0).length ≠ 0) :
    Calls Try.prog 17 #[.slice A m.length c, .slice V l.length d] w (CostPost w 0 (allE l (mrow m 0).length)) := by
  have hM := Lib.hid (may_any A m c _ (hm.below (below_alloc1 w (.cells #[.int .u64 0, .int .u64 0] 34))))
  have hE := Lib.hid (all_any V l d (mrow m 0).length hl _ (hV.below (below_alloc1 w (.cells #[.int .u64 0, .int .u64 0] 34))))
  have hne : (allE l (mrow m 0).length != 0) = true := by simpa using h
  have hl' : (l.length : Int) ≤ 512 := by omega
  have S0 := NearS.start w
  obtain ⟨g, o, R, rc, rfl, hc1, hR⟩ := hm 0 (mayE_ok h0).1
  rw [Nat.add_zero] at hc1
  have p1 : (0 : Int) < (m.length : Int) := by have := (mayE_ok h0).1; omega
  have d1 := below_cell (below_alloc1 w (.cells #[.int .u64 0, .int .u64 0] 34)) hc1
  generalize allE l (mrow m 0).length = E at *
  clear h hm hc1 hl
  go_enter Try.func17, Try.ntmps17
  go_wp2_with fail
  generalize w.alloc (.cells #[.int .u64 0, .int .u64 0] 34) = w0 at *
  obtain ⟨c1, c2, f1, f2⟩ := S0.cells
  refine hM.out.mono ?_
  rintro e w1 ⟨rfl, rfl⟩
  rw [h0]
  go_wp2_with fail
  refine hE.out.mono ?_
  rintro e w1 ⟨rfl, rfl⟩
  go_wp2_with fail
  have S1 : NearS w 0 ((w0.setCell ⟨w.heap.size, 0, none⟩ (.int .u64 0)).setCell ⟨w.heap.size, 1, none⟩ (.int .u64 0)) := S0.put 0
  generalize ((w0.setCell ⟨w.heap.size, 0, none⟩ (.int .u64 0)).setCell ⟨w.heap.size, 1, none⟩ (.int .u64 0)) = w9 at *
  have m0 : w9.cell? ⟨w.heap.size, 0, none⟩ = some (.int .u64 0) := S1.cells.1
  have m1 : w9.cell? ⟨w.heap.size, 1, none⟩ = some (.int .u64 0) := S1.cells.2.1
  refine bodyPost_ret (v := .tuple #[.agg #[.int .u64 0, .int .u64 0], .int .i64 E]) (by simp [results, Try.results17, go_sem, m0, m1]) rfl ?_
  exact ⟨rfl, S1.1⟩

set_option maxRecDepth 100000 in
set_option maxHeartbeats 4000000 in
theorem Cost_ok (A : Option Addr) (m : List (List Int)) (c : Nat) (V : Option Addr) (l : List (List Int)) (d : Nat) (w : World) (hm : Mat w A m) (hV : Mat w V l) (h : costE m l = 0) :
    Calls Try.prog 17 #[.slice A m.length c, .slice V l.length d] w (CostPost w (costTo m l l.length) 0) := by
  obtain ⟨h0, hl, hol, hom, hm1, hm2⟩ := costE_ok h
  have hM := Lib.hid (may_any A m c _ (hm.below (below_alloc1 w (.cells #[.int .u64 0, .int .u64 0] 34))))
  have hE := Lib.hid (all_any V l d (mrow m 0).length hl _ (hV.below (below_alloc1 w (.cells #[.int .u64 0, .int .u64 0] 34))))
  have hz : allE l (mrow m 0).length = 0 := allE_none _ _ hol
  have hl' : (l.length : Int) ≤ 512 := by omega
  have S0 := NearS.start w
  have F0 := FarS.start w
  obtain ⟨g, o, R, rc, hA, hc1, hR⟩ := hm 0 hm1
  rw [Nat.add_zero] at hc1
  have p1 : (0 : Int) < (m.length : Int) := by omega
  have d1 := below_cell (below_alloc1 w (.cells #[.int .u64 0, .int .u64 0] 34)) hc1
  subst hA
  have z9 : (w.alloc (.cells #[.int .u64 0, .int .u64 0] 34)).heap.size = w.heap.size + 1 := by simp
  replace hol := Lib.hid hol
  replace hom := Lib.hid hom
  clear h
  go_enter Try.func17, Try.ntmps17
  go_wp2_with fail
  generalize w.alloc (.cells #[.int .u64 0, .int .u64 0] 34) = w0 at *
  refine hM.out.mono ?_
  rintro e w1 ⟨rfl, rfl⟩
  rw [h0]
  go_wp2_with fail
  refine hE.out.mono ?_
  rintro e w1 ⟨rfl, rfl⟩
  rw [hz]
  go_wp2_with fail
  generalize w0.alloc (.cells #[.int .u64 0, .int .u64 0] 34) = w2 at *
  go_loopw [35] (fun i wr => ∃ k : Nat, k ≤ l.length ∧ i = .int .i64 (k : Int) ∧ FarS w (costTo m l k) wr) (fun i _ => l.length - (intOf i).toNat)
  case atStart => exact ⟨0, Nat.zero_le _, rfl, F0⟩
  case round =>
    obtain ⟨k, hk, rfl, hS⟩ := hrel
    clear S0 F0 hM hE d1
    by_cases hlt : k < l.length
    · obtain ⟨g2, o2, R2, rc2, rfl, hc2, hR2⟩ := hV k hlt
      have p0 : (0 : Int) ≤ (k : Int) := by omega
      have p2 : (k : Int) < (l.length : Int) := by omega
      have d2 := below_cell hS.1 hc2
      have e2 : (mrow l k).length = (mrow m 0).length := by have := (vecE_ok (hol.out k hlt)).2.2.1; omega
      have hN := Lib.hid (near_any (some ⟨g, o, none⟩) m c R2 (mrow l k) rc2 (by rw [e2]; exact hom.out) (by rw [e2]; exact hol.out k hlt) hm2 wr (hm.below hS.1) (hR2.below hS.1))
      have hW : Hid (Wd (costTo m l k + (nearN m (mrow l k)).2)) := Lib.hid (by
        have := costTo_le hom.out (k + 1) (fun i hi => hol.out i (by omega))
        rw [costTo] at this
        unfold Wd
        omega)
      have hT : Hid (costTo m l (k + 1) = costTo m l k + (nearN m (mrow l k)).2) := Lib.hid (by rw [costTo])
      clear hc2 hR2 e2
      generalize nearN m (mrow l k) = N at *
      generalize costTo m l k = C at *
      obtain ⟨at_, D⟩ := N
      go_wp2_with fail
      with_reducible refine hN.out.mono ?_
      rintro e w3 ⟨rfl, hb⟩
      clear d2 hN
      have S1 := hS.more hb
      have S2 := S1.more (below_alloc1 w3 (.cells #[.int .u64 (hiN D : Int), .int .u64 (loN D : Int)] 34))
      have b2 := Blk.new w3 34 #[.int .u64 (hiN D : Int), .int .u64 (loN D : Int)]
      have hlt1 := S1.2.2.lt
      have hne : ¬ w.heap.size + 1 = w3.heap.size := by omega
      obtain ⟨c1, c2, f1, f2⟩ := S1.sum
      go_wp2_with fail
      generalize w3.alloc (.cells #[.int .u64 (hiN D : Int), .int .u64 (loN D : Int)] 34) = w4 at *
      refine (add_c C D hW.out _).mono ?_
      rintro e w5 ⟨rfl, hb5⟩
      clear c1 c2 f1 f2 b2
      have S3 := S2.more hb5
      obtain ⟨c1, c2, f1, f2⟩ := S3.sum
      go_wp2_with fail
      exact ⟨⟨k + 1, by omega, by go_num, by rw [hT.out]; exact S3.put (C + D)⟩, by simp [intOf]; omega⟩
    · obtain rfl : k = l.length := by omega
      obtain ⟨c1, c2, f1, f2⟩ := hS.sum
      have z0 : wr.cell? ⟨w.heap.size, 0, none⟩ = some (.int .u64 0) := hS.2.1.cell 0
      have z1 : wr.cell? ⟨w.heap.size, 1, none⟩ = some (.int .u64 0) := hS.2.1.cell 1
      have z2 := hS.2.1.frozen 0
      have z3 := hS.2.1.frozen 1
      generalize costTo m l l.length = C at *
      go_wp2_with fail
      have B9 := (hS.1.setCell (p := ⟨w.heap.size, 0, none⟩) (by simp) (.int .u64 (hiN C : Int))).setCell (p := ⟨w.heap.size, 1, none⟩) (by simp) (.int .u64 (loN C : Int))
      have b9 := pair_set (u := .int .u64 (hiN C : Int)) (v := .int .u64 (loN C : Int)) hS.2.1
      generalize ((wr.setCell ⟨w.heap.size, 0, none⟩ _).setCell ⟨w.heap.size, 1, none⟩ _) = w9 at *
      have m0 : w9.cell? ⟨w.heap.size, 0, none⟩ = some (.int .u64 (hiN C : Int)) := b9.cell 0
      have m1 : w9.cell? ⟨w.heap.size, 1, none⟩ = some (.int .u64 (loN C : Int)) := b9.cell 1
      refine bodyPost_ret (v := .tuple #[.agg #[.int .u64 (hiN C : Int), .int .u64 (loN C : Int)], .int .i64 0]) (by simp [results, Try.results17, go_sem, m0, m1]) rfl ?_
      exact ⟨rfl, B9⟩

theorem Cost_any (A : Option Addr) (m : List (List Int)) (c : Nat) (V : Option Addr) (l : List (List Int)) (d : Nat) (w : World) (hm : Mat w A m) (hV : Mat w V l) :
    Calls Try.prog 17 #[.slice A m.length c, .slice V l.length d] w (CostPost w (costN m l) (costE m l)) := by
  by_cases h : costE m l = 0
  · rw [costN, if_pos h, h]
    exact Cost_ok A m c V l d w hm hV h
  · rw [costN, if_neg h]
    by_cases h0 : mayE m = 0
    · by_cases h1 : 512 < l.length
      · have e : costE m l = 2 := by rw [costE, if_pos h0, if_pos h1]
        rw [e]
        exact Cost_long A m c V l d w hm h0 h1
      · have e : costE m l = allE l (mrow m 0).length := by rw [costE, if_pos h0, if_neg h1]
        rw [e] at h ⊢
        exact Cost_all A m c V l d w hm hV h0 (by omega) h
    · have e : costE m l = mayE m := by rw [costE, if_neg h0]
      rw [e]
      exact Cost_may A m c V l d w hm h0
end Go.Proofs.Ytoglemdooaiddaa
