/- The contracts of kmeans.Near and kmeans.Cost. -/
import Derived.Test.YtoglemdooaiddaaKAll
namespace Go.Proofs.Ytoglemdooaiddaa
open Go.RowKit
set_option linter.unusedVariables false

/-- The error of a question for the nearest centre. -/
def nearE (cs : List (List Int)) (v : List Int) : Int := if mayE cs = 0 then vecE v (mrow cs 0).length else mayE cs
def nearAt (cs : List (List Int)) (v : List Int) : Nat := if nearE cs v = 0 then (nearN cs v).1 else 0
def nearD (cs : List (List Int)) (v : List Int) : Nat := if nearE cs v = 0 then (nearN cs v).2 else 0
theorem nearE_ok {cs : List (List Int)} {v : List Int} (h : nearE cs v = 0) : mayE cs = 0 ∧ vecE v (mrow cs 0).length = 0 ∧ v.length = (mrow cs 0).length ∧ AllOk cs v.length cs.length ∧ vecE v v.length = 0 ∧ 1 ≤ cs.length ∧ cs.length ≤ 64 := by
  unfold nearE at h
  split at h
  · rename_i hm
    obtain ⟨h1, h2, h3⟩ := mayE_ok hm
    have hl : v.length = (mrow cs 0).length := by have := (vecE_ok h).2.2.1; omega
    exact ⟨hm, h, hl, by rw [hl]; exact h3, by rw [hl]; exact h, h1, h2⟩
  · rename_i hm; exact absurd h hm

def NearPost (w : World) (at_ D : Nat) (f : Int) (e : Ending) (w' : World) : Prop := e = .returned (.tuple #[.int .i64 (at_ : Int), .agg #[.int .u64 (hiN D : Int), .int .u64 (loN D : Int)], .int .i64 f]) ∧ Below w.heap.size w w'

set_option maxRecDepth 100000 in
set_option maxHeartbeats 2000000 in
theorem Near_may (A : Option Addr) (m : List (List Int)) (c : Nat) (V : Option Addr) (v : List Int) (d : Nat) (w : World) (hm : Mat w A m) (hV : Row w V v) (h : mayE m ≠ 0) :
    Calls Try.prog 15 #[.slice A m.length c, .slice V v.length d] w (NearPost w 0 0 (mayE m)) := by
  have hM := Lib.hid (may_any A m c _ (hm.below (below_alloc1 w (.cells #[.int .u64 0, .int .u64 0] 34))))
  have hne : (mayE m != 0) = true := by simpa using h
  generalize mayE m = E at *
  clear h
  have S0 := NearS.start w
  go_enter Try.func15, Try.ntmps15
  go_wp2_with fail
  generalize w.alloc (.cells #[.int .u64 0, .int .u64 0] 34) = w0 at *
  obtain ⟨c1, c2, f1, f2⟩ := S0.cells
  refine hM.out.mono ?_
  rintro e w1 ⟨rfl, rfl⟩
  go_wp2_with fail
  have S1 : NearS w 0 ((w0.setCell ⟨w.heap.size, 0, none⟩ (.int .u64 0)).setCell ⟨w.heap.size, 1, none⟩ (.int .u64 0)) := S0.put 0
  generalize ((w0.setCell ⟨w.heap.size, 0, none⟩ (.int .u64 0)).setCell ⟨w.heap.size, 1, none⟩ (.int .u64 0)) = w9 at *
  have m0 : w9.cell? ⟨w.heap.size, 0, none⟩ = some (.int .u64 0) := S1.cells.1
  have m1 : w9.cell? ⟨w.heap.size, 1, none⟩ = some (.int .u64 0) := S1.cells.2.1
  refine bodyPost_ret (v := .tuple #[.int .i64 0, .agg #[.int .u64 0, .int .u64 0], .int .i64 E]) (by simp [results, Try.results15, go_sem, m0, m1]) rfl ?_
  exact ⟨rfl, S1.1⟩

set_option maxRecDepth 100000 in
set_option maxHeartbeats 2000000 in
theorem Near_vec (A : Option Addr) (m : List (List Int)) (c : Nat) (V : Option Addr) (v : List Int) (d : Nat) (w : World) (hm : Mat w A m) (hV : Row w V v) (h0 : mayE m = 0) (h : vecE v (mrow m 0).length ≠ 0) :
    Calls Try.prog 15 #[.slice A m.length c, .slice V v.length d] w (NearPost w 0 0 (vecE v (mrow m 0).length)) := by
  have S0 := NearS.start w
  have hM := Lib.hid (may_any A m c _ (hm.below (below_alloc1 w (.cells #[.int .u64 0, .int .u64 0] 34))))
  have hE := Lib.hid (vec_any V v d (mrow m 0).length _ (hV.below (below_alloc1 w (.cells #[.int .u64 0, .int .u64 0] 34))))
  have hne : (vecE v (mrow m 0).length != 0) = true := by simpa using h
  obtain ⟨g, o, R, rc, rfl, hc1, hR⟩ := hm 0 (mayE_ok h0).1
  rw [Nat.add_zero] at hc1
  have p1 : (0 : Int) < (m.length : Int) := by have := (mayE_ok h0).1; omega
  have d1 := below_cell (below_alloc1 w (.cells #[.int .u64 0, .int .u64 0] 34)) hc1
  generalize vecE v (mrow m 0).length = E at *
  clear h hm hc1
  go_enter Try.func15, Try.ntmps15
  go_wp2_with fail
  generalize w.alloc (.cells #[.int .u64 0, .int .u64 0] 34) = w0 at *
  obtain ⟨c1, c2, f1, f2⟩ := S0.cells
  refine hM.out.mono ?_
  rintro e w1 ⟨rfl, rfl⟩
  rw [h0]
  go_wp2_with fail
  refine hE.out.mono ?_
  rintro e w1 ⟨rfl, rfl⟩
  go_wp2_with fail
  have S1 : NearS w 0 ((w0.setCell ⟨w.heap.size, 0, none⟩ (.int .u64 0)).setCell ⟨w.heap.size, 1, none⟩ (.int .u64 0)) := S0.put 0
  generalize ((w0.setCell ⟨w.heap.size, 0, none⟩ (.int .u64 0)).setCell ⟨w.heap.size, 1, none⟩ (.int .u64 0)) = w9 at *
  have m0 : w9.cell? ⟨w.heap.size, 0, none⟩ = some (.int .u64 0) := S1.cells.1
  have m1 : w9.cell? ⟨w.heap.size, 1, none⟩ = some (.int .u64 0) := S1.cells.2.1
  refine bodyPost_ret (v := .tuple #[.int .i64 0, .agg #[.int .u64 0, .int .u64 0], .int .i64 E]) (by simp [results, Try.results15, go_sem, m0, m1]) rfl ?_
  exact ⟨rfl, S1.1⟩

set_option maxRecDepth 100000 in
set_option maxHeartbeats 2000000 in
theorem Near_ok (A : Option Addr) (m : List (List Int)) (c : Nat) (V : Option Addr) (v : List Int) (d : Nat) (w : World) (hm : Mat w A m) (hV : Row w V v) (h : nearE m v = 0) :
    Calls Try.prog 15 #[.slice A m.length c, .slice V v.length d] w (NearPost w (nearN m v).1 (nearN m v).2 0) := by
  obtain ⟨h0, hv0, hl, hok, hvv, hl1, hl2⟩ := nearE_ok h
  have S0 := NearS.start w
  have hM := Lib.hid (may_any A m c _ (hm.below (below_alloc1 w (.cells #[.int .u64 0, .int .u64 0] 34))))
  have hE := Lib.hid (vec_any V v d (mrow m 0).length _ (hV.below (below_alloc1 w (.cells #[.int .u64 0, .int .u64 0] 34))))
  have hN := Lib.hid (near_any A m c V v d hok hvv hl2 _ (hm.below (below_alloc1 w (.cells #[.int .u64 0, .int .u64 0] 34))) (hV.below (below_alloc1 w (.cells #[.int .u64 0, .int .u64 0] 34))))
  obtain ⟨g, o, R, rc, rfl, hc1, hR⟩ := hm 0 hl1
  rw [Nat.add_zero] at hc1
  have p1 : (0 : Int) < (m.length : Int) := by omega
  have d1 := below_cell (below_alloc1 w (.cells #[.int .u64 0, .int .u64 0] 34)) hc1
  clear h hm hc1 hok hvv hl1 hl2 hl
  generalize nearN m v = N at *
  obtain ⟨at_, D⟩ := N
  go_enter Try.func15, Try.ntmps15
  go_wp2_with fail
  generalize w.alloc (.cells #[.int .u64 0, .int .u64 0] 34) = w0 at *
  refine hM.out.mono ?_
  rintro e w1 ⟨rfl, rfl⟩
  rw [h0]
  go_wp2_with fail
  refine hE.out.mono ?_
  rintro e w1 ⟨rfl, rfl⟩
  rw [hv0]
  go_wp2_with fail
  refine hN.out.mono ?_
  rintro e w1 ⟨rfl, hb⟩
  clear d1
  have S1 := S0.more hb
  have S2 := S1.more (below_alloc1 w1 (.cells #[.int .u64 (hiN D : Int), .int .u64 (loN D : Int)] 34))
  have b2 := Blk.new w1 34 #[.int .u64 (hiN D : Int), .int .u64 (loN D : Int)]
  have hne : ¬ w.heap.size = w1.heap.size := by have := S1.2.lt; omega
  have hlt1 := S1.2.lt
  go_wp2_with fail
  generalize w1.alloc (.cells #[.int .u64 (hiN D : Int), .int .u64 (loN D : Int)] 34) = w2 at *
  obtain ⟨c1, c2, f1, f2⟩ := S2.cells
  have z0 : w2.cell? ⟨w1.heap.size, 0, none⟩ = some (.int .u64 (hiN D : Int)) := b2.cell 0
  have z1 : w2.cell? ⟨w1.heap.size, 1, none⟩ = some (.int .u64 (loN D : Int)) := b2.cell 1
  go_region
  all_goals
    have S3 := (S2.put D).drew
    generalize World.drew ((World.setCell _ ⟨w.heap.size, 0, none⟩ _).setCell ⟨w.heap.size, 1, none⟩ _) = w9 at *
    have m0 := S3.cells.1
    have m1 := S3.cells.2.1
    clear c1 c2 f1 f2
    go_wp2_with fail
    refine bodyPost_ret (v := .tuple #[.int .i64 (at_ : Int), .agg #[.int .u64 (hiN D : Int), .int .u64 (loN D : Int)], .int .i64 0]) (by simp [results, Try.results15, go_sem, m0, m1]) rfl ?_
    exact ⟨rfl, S3.1⟩

theorem Near_any (A : Option Addr) (m : List (List Int)) (c : Nat) (V : Option Addr) (v : List Int) (d : Nat) (w : World) (hm : Mat w A m) (hV : Row w V v) :
    Calls Try.prog 15 #[.slice A m.length c, .slice V v.length d] w (NearPost w (nearAt m v) (nearD m v) (nearE m v)) := by
  by_cases h : nearE m v = 0
  · rw [nearAt, nearD, if_pos h, if_pos h, h]
    exact Near_ok A m c V v d w hm hV h
  · rw [nearAt, nearD, if_neg h, if_neg h]
    by_cases h0 : mayE m = 0
    · have e : nearE m v = vecE v (mrow m 0).length := by rw [nearE, if_pos h0]
      rw [e] at h ⊢
      exact Near_vec A m c V v d w hm hV h0 h
    · have e : nearE m v = mayE m := by rw [nearE, if_neg h0]
      rw [e]
      exact Near_may A m c V v d w hm hV h0
end Go.Proofs.Ytoglemdooaiddaa
