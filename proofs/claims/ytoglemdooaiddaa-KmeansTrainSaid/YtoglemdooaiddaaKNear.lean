/- The contract of kmeans.near: the nearest centre, and how far it is. -/
import Derived.Test.YtoglemdooaiddaaKDist2
namespace Go.Proofs.Ytoglemdooaiddaa
open Go.RowKit
set_option linter.unusedVariables false

theorem cmp_lt (a b : Nat) (w : World) (h : a < b) : Calls Try.prog 50 #[.agg #[.int .u64 (hiN a : Int), .int .u64 (loN a : Int)], .agg #[.int .u64 (hiN b : Int), .int .u64 (loN b : Int)]] w fun e w' => ∃ q : Int, q < 0 ∧ e = .returned (.int .i64 q) ∧ Below w.heap.size w w' :=
  (cmp_any a b w).mono fun e w' hh => ⟨cmpN a b, by unfold cmpN; split <;> (try split) <;> omega, hh.1, hh.2⟩
theorem cmp_ge (a b : Nat) (w : World) (h : ¬ a < b) : Calls Try.prog 50 #[.agg #[.int .u64 (hiN a : Int), .int .u64 (loN a : Int)], .agg #[.int .u64 (hiN b : Int), .int .u64 (loN b : Int)]] w fun e w' => ∃ q : Int, 0 ≤ q ∧ e = .returned (.int .i64 q) ∧ Below w.heap.size w w' :=
  (cmp_any a b w).mono fun e w' hh => ⟨cmpN a b, by unfold cmpN; split <;> (try split) <;> omega, hh.1, hh.2⟩

/-- What stands at near's loop's head: the least distance in its block. -/
def NearS (w : World) (N : Nat) (w' : World) : Prop := Below w.heap.size w w' ∧ Blk w' w.heap.size 34 (wc N)
theorem NearS.more {w w1 w2 : World} {N : Nat} (h : NearS w N w1) (hb : Below w1.heap.size w1 w2) : NearS w N w2 := ⟨below_chain h.1 hb h.1.size, h.2.below hb h.2.lt⟩
theorem NearS.put {w w1 : World} {N : Nat} (h : NearS w N w1) (M : Nat) : NearS w M ((w1.setCell ⟨w.heap.size, 0, none⟩ (.int .u64 (hiN M : Int))).setCell ⟨w.heap.size, 1, none⟩ (.int .u64 (loN M : Int))) :=
  ⟨(h.1.setCell (p := ⟨w.heap.size, 0, none⟩) (by simp) _).setCell (p := ⟨w.heap.size, 1, none⟩) (by simp) _, pair_set h.2⟩
theorem NearS.drew {w w1 : World} {N : Nat} (h : NearS w N w1) : NearS w N w1.drew := ⟨h.1.drew, h.2⟩
theorem NearS.cells {w w' : World} {N : Nat} (h : NearS w N w') : w'.cell? ⟨w.heap.size, 0, none⟩ = some (.int .u64 (hiN N : Int)) ∧ w'.cell? ⟨w.heap.size, 1, none⟩ = some (.int .u64 (loN N : Int)) ∧ w'.frozen? ⟨w.heap.size, 0, none⟩ = false ∧ w'.frozen? ⟨w.heap.size, 1, none⟩ = false :=
  ⟨h.2.cell 0, h.2.cell 1, h.2.frozen 0, h.2.frozen 1⟩
theorem NearS.start (w : World) : NearS w 0 (w.alloc (.cells #[.int .u64 0, .int .u64 0] 34)) := ⟨below_alloc1 _ _, Blk.new w _ _⟩

theorem nearTo_take (cs : List (List Int)) (v : List Int) (k : Nat) (h : k = 0 ∨ farN (mrow cs k) v < (nearTo cs v k).2) : nearTo cs v (k + 1) = (k, farN (mrow cs k) v) := by rw [nearTo, if_pos h]
theorem nearTo_keep (cs : List (List Int)) (v : List Int) (k : Nat) (h0 : k ≠ 0) (h : ¬ farN (mrow cs k) v < (nearTo cs v k).2) : nearTo cs v (k + 1) = nearTo cs v k := by
  rw [nearTo, if_neg (fun hh => hh.elim h0 h)]

set_option maxRecDepth 100000 in
set_option maxHeartbeats 4000000 in
theorem near_any (A : Option Addr) (m : List (List Int)) (c : Nat) (V : Option Addr) (v : List Int) (d : Nat) (hok : AllOk m v.length m.length) (hv : vecE v v.length = 0) (h64 : m.length ≤ 64) (w : World) (hm : Mat w A m) (hV : Row w V v) :
    Calls Try.prog 29 #[.slice A m.length c, .slice V v.length d] w fun e w' => e = .returned (.tuple #[.int .i64 ((nearN m v).1 : Int), .agg #[.int .u64 (hiN (nearN m v).2 : Int), .int .u64 (loN (nearN m v).2 : Int)]]) ∧ Below w.heap.size w w' := by
  have S0 := NearS.start w
  replace hok := Lib.hid hok
  go_enter Try.func29, Try.ntmps29
  go_wp2_with fail
  generalize w.alloc (.cells #[.int .u64 0, .int .u64 0] 34) = w0 at *
  go_loopw [4, 12] (fun t i wr => ∃ k : Nat, k ≤ m.length ∧ i = .int .i64 (k : Int) ∧ t = .int .i64 ((nearTo m v k).1 : Int) ∧ NearS w (nearTo m v k).2 wr) (fun _ i _ => m.length - (intOf i).toNat)
  case atStart => exact ⟨0, Nat.zero_le _, rfl, rfl, S0⟩
  case round =>
    obtain ⟨k, hk, rfl, rfl, hS⟩ := hrel
    clear S0
    by_cases hlt : k < m.length
    · obtain ⟨g, o, R, rc, rfl, hc1, hR⟩ := hm k hlt
      have p0 : (0 : Int) ≤ (k : Int) := by omega
      have p1 : (k : Int) < (m.length : Int) := by omega
      have d1 := below_cell hS.1 hc1
      have hR1 := hR.below hS.1
      have hV1 := hV.below hS.1
      have hD := Lib.hid (dist_ok R V (mrow m k) v rc d (by rw [Int.ofNat_inj.1 (vecE_ok (hok.out k hlt)).2.2.1]; exact hok.out k hlt) (by rw [Int.ofNat_inj.1 (vecE_ok (hok.out k hlt)).2.2.1]; exact hv))
      go_wp2_with fail
      refine (hD.out wr hR1 hV1).mono ?_
      rintro e w1 ⟨rfl, hb1⟩
      have S1 := hS.more hb1
      clear hS hb1 hR1 hV1 d1 hD
      generalize hF : farN (mrow m k) v = F
      generalize hN : nearTo m v k = N at *
      have hF' := Lib.hid hF
      have hN' := Lib.hid hN
      clear hF hN
      have S2 := S1.more (below_alloc1 w1 (.cells #[.int .u64 (hiN F : Int), .int .u64 (loN F : Int)] 34))
      have b2 := Blk.new w1 34 #[.int .u64 (hiN F : Int), .int .u64 (loN F : Int)]
      have hne : ¬ w.heap.size = w1.heap.size := by have := S1.2.lt; omega
      have hlt1 := S1.2.lt
      obtain ⟨c1, c2, f1, f2⟩ := S1.cells
      by_cases h0 : k = 0
      · have e0 : ((k : Int) == 0) = true := by simp [h0]
        have hT := Lib.hid (nearTo_take m v k (.inl h0))
        rw [hF'.out] at hT
        clear h0
        go_wp2_with fail
        generalize w1.alloc (.cells #[.int .u64 (hiN F : Int), .int .u64 (loN F : Int)] 34) = w2 at *
        clear c1 c2 f1 f2
        obtain ⟨c1, c2, f1, f2⟩ := S2.cells
        have z0 : w2.cell? ⟨w1.heap.size, 0, none⟩ = some (.int .u64 (hiN F : Int)) := b2.cell 0
        have z1 : w2.cell? ⟨w1.heap.size, 1, none⟩ = some (.int .u64 (loN F : Int)) := b2.cell 1
        go_region
        all_goals
          have S3 := (S2.put F).drew
          generalize World.drew ((World.setCell _ ⟨w.heap.size, 0, none⟩ _).setCell ⟨w.heap.size, 1, none⟩ _) = w3 at *
          clear c1 c2 f1 f2 b2 z0 z1
          go_wp2_with fail
          exact ⟨⟨k + 1, by omega, by go_num, by rw [hT.out], by rw [hT.out]; exact S3⟩, by simp [intOf]; omega⟩
      · have e0 : ((k : Int) == 0) = false := by simp; omega
        by_cases hlt2 : F < N.2
        · have hT := Lib.hid (nearTo_take m v k (.inr (by rw [hF'.out, hN'.out]; exact hlt2)))
          rw [hF'.out] at hT
          have hC := Lib.hid (fun x => cmp_lt F N.2 x hlt2)
          clear h0 hlt2
          go_wp2_with fail
          generalize w1.alloc (.cells #[.int .u64 (hiN F : Int), .int .u64 (loN F : Int)] 34) = w2 at *
          clear c1 c2 f1 f2
          refine (hC.out _).mono ?_
          rintro e w5 ⟨q, hq, rfl, hb5⟩
          replace S2 := S2.more hb5
          replace b2 := b2.below hb5 b2.lt
          go_wp2_with fail
          obtain ⟨c1, c2, f1, f2⟩ := S2.cells
          have z0 : w5.cell? ⟨w1.heap.size, 0, none⟩ = some (.int .u64 (hiN F : Int)) := b2.cell 0
          have z1 : w5.cell? ⟨w1.heap.size, 1, none⟩ = some (.int .u64 (loN F : Int)) := b2.cell 1
          go_region
          all_goals
            have S3 := (S2.put F).drew
            generalize World.drew ((World.setCell _ ⟨w.heap.size, 0, none⟩ _).setCell ⟨w.heap.size, 1, none⟩ _) = w3 at *
            clear c1 c2 f1 f2 b2 z0 z1
            go_wp2_with fail
            exact ⟨⟨k + 1, by omega, by go_num, by rw [hT.out], by rw [hT.out]; exact S3⟩, by simp [intOf]; omega⟩
        · have hT := Lib.hid (nearTo_keep m v k h0 (by rw [hF'.out, hN'.out]; exact hlt2))
          rw [hN'.out] at hT
          have hC := Lib.hid (fun x => cmp_ge F N.2 x hlt2)
          clear h0 hlt2
          go_wp2_with fail
          generalize w1.alloc (.cells #[.int .u64 (hiN F : Int), .int .u64 (loN F : Int)] 34) = w2 at *
          clear c1 c2 f1 f2
          refine (hC.out _).mono ?_
          rintro e w5 ⟨q, hq, rfl, hb5⟩
          replace S2 := S2.more hb5
          clear b2
          go_wp2_with fail
          exact ⟨⟨k + 1, by omega, by go_num, by rw [hT.out], by rw [hT.out]; exact S2⟩, by simp [intOf]; omega⟩
    · obtain rfl : k = m.length := by omega
      change _ at hm
      go_wp2_with fail
      obtain ⟨c1, c2, f1, f2⟩ := hS.cells
      rw [show nearTo m v m.length = nearN m v from rfl] at *
      go_region
      all_goals
        have S4 := (hS.put (nearN m v).2).drew
        generalize World.drew ((World.setCell _ ⟨w.heap.size, 0, none⟩ _).setCell ⟨w.heap.size, 1, none⟩ _) = w9 at *
        have m0 := S4.cells.1
        have m1 := S4.cells.2.1
        clear c1 c2 f1 f2
        go_wp2_with fail
        refine bodyPost_ret (v := .tuple #[.int .i64 ((nearN m v).1 : Int), .agg #[.int .u64 (hiN (nearN m v).2 : Int), .int .u64 (loN (nearN m v).2 : Int)]]) (by simp [results, Try.results29, go_sem, m0, m1]) rfl ?_
        exact ⟨rfl, S4.1⟩
end Go.Proofs.Ytoglemdooaiddaa
