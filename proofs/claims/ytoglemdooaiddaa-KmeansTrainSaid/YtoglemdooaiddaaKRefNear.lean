/- The contracts of theodoliteref06's vectors, centresErr, Nearest and down. -/
import Derived.Test.YtoglemdooaiddaaKRefFar
import Derived.Test.YtoglemdooaiddaaKPure2
namespace Go.Proofs.Ytoglemdooaiddaa
open Go.RowKit
set_option linter.unusedVariables false

set_option maxHeartbeats 1000000 in
theorem rall_any (A : Option Addr) (m : List (List Int)) (c : Nat) (d : Int) (hb : m.length ≤ 512) (w : World) (h : Mat w A m) :
    Calls Try.prog 42 #[.slice A m.length c, .int .i64 d] w fun e w' => e = .returned (.int .i64 (allE m d)) ∧ w = w' := by
  go_enter Try.func42, Try.ntmps42
  go_wp2_with fail
  go_loopw [5] (fun i wr => wr = w ∧ ∃ k : Nat, k ≤ m.length ∧ i = .int .i64 (k : Int) ∧ AllOk m d k) (fun i _ => m.length - (intOf i).toNat)
  case atStart => exact ⟨rfl, 0, Nat.zero_le _, rfl, fun j hj => absurd hj (by omega)⟩
  case round =>
    obtain ⟨rfl, k, hk, rfl, hC⟩ := hrel
    by_cases hlt : k < m.length
    · obtain ⟨g, o, R, rc, rfl, hc1, hR⟩ := h k hlt
      have p0 : (0 : Int) ≤ (k : Int) := by omega
      have p1 : (k : Int) < (m.length : Int) := by omega
      have hV := Lib.hid (rvec_any R (mrow m k) rc d wr hR)
      by_cases hz : vecE (mrow m k) d = 0
      · have hC' := Lib.hid (hC.succ hz)
        go_wp2_with fail
        refine hV.out.mono ?_
        rintro e w1 ⟨rfl, rfl⟩
        rw [hz]
        go_wp2_with fail
        exact ⟨⟨trivial, k + 1, by omega, by go_num, hC'.out⟩, by simp [intOf]; omega⟩
      · have hE := Lib.hid (allE_first m d k hlt hC hz)
        have hne : (vecE (mrow m k) d != 0) = true := by simpa using hz
        generalize vecE (mrow m k) d = E at *
        clear hC hz
        go_wp2_with fail
        refine hV.out.mono ?_
        rintro e w1 ⟨rfl, rfl⟩
        go_wp2_with fail
        go_ret
        exact ⟨by rw [hE.out]; rfl, rfl⟩
    · obtain rfl : k = m.length := by omega
      have hE := Lib.hid (allE_none m d hC)
      clear hC
      go_wp2_with fail
      go_ret
      exact ⟨by rw [hE.out]; rfl, rfl⟩

theorem rmay_any (A : Option Addr) (m : List (List Int)) (c : Nat) (w : World) (h : Mat w A m) :
    Calls Try.prog 38 #[.slice A m.length c] w fun e w' => e = .returned (.int .i64 (mayE m)) ∧ w = w' := by
  by_cases h0 : m.length = 0
  · have e0 : ((m.length : Int) < 1) := by omega
    have hv : mayE m = 1 := by rw [mayE, if_pos (.inl h0)]
    rw [hv]
    clear hv h0
    go_enter Try.func38, Try.ntmps38
    go_wp2_with fail
    go_ret
    exact ⟨rfl, rfl⟩
  have e0 : 1 ≤ (m.length : Int) := by omega
  by_cases h1 : 64 < m.length
  · have e1 : (64 : Int) < (m.length : Int) := by omega
    have hv : mayE m = 1 := by rw [mayE, if_pos (.inr h1)]
    rw [hv]
    clear hv h0 h1
    go_enter Try.func38, Try.ntmps38
    go_wp2_with fail
    go_ret
    exact ⟨rfl, rfl⟩
  · have e1 : (m.length : Int) ≤ 64 := by omega
    have hv : mayE m = allE m (mrow m 0).length := by rw [mayE, if_neg (by omega)]
    rw [hv]
    obtain ⟨g, o, R, rc, rfl, hc1, hR⟩ := h 0 (by omega)
    rw [Nat.add_zero] at hc1
    have p1 : (0 : Int) < (m.length : Int) := by omega
    have hA := Lib.hid (rall_any (some ⟨g, o, none⟩) m c (mrow m 0).length (by omega) w h)
    clear hv h0 h1
    go_enter Try.func38, Try.ntmps38
    go_wp2_with fail
    refine hA.out.mono ?_
    rintro e w1 ⟨rfl, rfl⟩
    go_wp2_with fail
    go_ret
    exact ⟨rfl, rfl⟩

/-- What stands at Nearest's loop's head: the result's block, the least distance in block g. -/
def NearR (w : World) (g N : Nat) (w' : World) : Prop := Below w.heap.size w w' ∧ Blk w' w.heap.size 34 #[.int .u64 0, .int .u64 0] ∧ Blk w' g 34 (wc N) ∧ w.heap.size < g
theorem NearR.more {w w1 w2 : World} {g N : Nat} (h : NearR w g N w1) (hb : Below w1.heap.size w1 w2) : NearR w g N w2 := ⟨below_chain h.1 hb h.1.size, h.2.1.below hb h.2.1.lt, h.2.2.1.below hb h.2.2.1.lt, h.2.2.2⟩
theorem NearR.put {w w1 : World} {g N : Nat} (h : NearR w g N w1) (M : Nat) : NearR w g M ((w1.setCell ⟨g, 0, none⟩ (.int .u64 (hiN M : Int))).setCell ⟨g, 1, none⟩ (.int .u64 (loN M : Int))) := by
  have hg := h.2.2.2
  exact ⟨(h.1.setCell (p := ⟨g, 0, none⟩) (by simp; omega) _).setCell (p := ⟨g, 1, none⟩) (by simp; omega) _, (h.2.1.far (by simp; omega) _).far (by simp; omega) _, pair_set h.2.2.1, hg⟩
theorem NearR.cells {w w' : World} {g N : Nat} (h : NearR w g N w') : w'.cell? ⟨g, 0, none⟩ = some (.int .u64 (hiN N : Int)) ∧ w'.cell? ⟨g, 1, none⟩ = some (.int .u64 (loN N : Int)) ∧ w'.frozen? ⟨g, 0, none⟩ = false ∧ w'.frozen? ⟨g, 1, none⟩ = false :=
  ⟨h.2.2.1.cell 0, h.2.2.1.cell 1, h.2.2.1.frozen 0, h.2.2.1.frozen 1⟩

set_option maxRecDepth 100000 in
set_option maxHeartbeats 4000000 in
theorem rnear_any (A : Option Addr) (m : List (List Int)) (c : Nat) (V : Option Addr) (v : List Int) (d : Nat) (hok : AllOk m v.length m.length) (hv : vecE v v.length = 0) (h1 : 1 ≤ m.length) (h64 : m.length ≤ 64) (w : World) (hm : Mat w A m) (hV : Row w V v) :
    Calls Try.prog 40 #[.slice A m.length c, .slice V v.length d] w fun e w' => e = .returned (.tuple #[.int .i64 ((nearN m v).1 : Int), .agg #[.int .u64 (hiN (nearN m v).2 : Int), .int .u64 (loN (nearN m v).2 : Int)]]) ∧ Below w.heap.size w w' := by
  have S0 := NearS.start w
  have hfar : Hid (∀ k, k < m.length → ∀ (R : Option Addr) (rc : Nat) (x : World), Row x R (mrow m k) → Row x V v → Calls Try.prog 44 #[.slice R (mrow m k).length rc, .slice V v.length d] x fun e w' => e = .returned (.agg #[.int .u64 (hiN (farN (mrow m k) v) : Int), .int .u64 (loN (farN (mrow m k) v) : Int)]) ∧ Below x.heap.size x w') :=
    Lib.hid (fun k hk R rc x h1 h2 => by
      obtain ⟨_, _, e3, e4⟩ := vecE_ok (hok k hk)
      obtain ⟨_, e6, _, e8⟩ := vecE_ok hv
      have e3' : (mrow m k).length = v.length := by omega
      exact rfar_any R V (mrow m k) v rc d e3'.symm e4 e8 (by omega) x h1 h2)
  have hwd : Hid (∀ k, k < m.length → Wd (farN (mrow m k) v)) := Lib.hid (fun k hk => by
    have := far_ok (hok k hk) hv
    unfold Wd
    omega)
  obtain ⟨g, o, R, rc, rfl, hc1, hR⟩ := hm 0 (by omega)
  rw [Nat.add_zero] at hc1
  have hF0 := Lib.hid (hfar.out 0 (by omega) R rc _ (hR.below S0.1) (hV.below S0.1))
  have d1 := below_cell S0.1 hc1
  have p1 : (0 : Int) < (m.length : Int) := by omega
  clear hok hc1 hR
  go_enter Try.func40, Try.ntmps40
  go_wp2_with fail
  generalize w.alloc (.cells #[.int .u64 0, .int .u64 0] 34) = w0 at *
  refine hF0.out.mono ?_
  rintro e w1 ⟨rfl, hb⟩
  clear d1 hF0
  have S1 := S0.more hb
  generalize hF : farN (mrow m 0) v = F0 at *
  have N0 : NearR w w1.heap.size F0 (w1.alloc (.cells #[.int .u64 (hiN F0 : Int), .int .u64 (loN F0 : Int)] 34)) :=
    ⟨below_chain S1.1 (below_alloc1 _ _) S1.1.size, S1.2.alloc _, Blk.new _ _ _, S1.2.lt⟩
  have hT0 : Hid (nearTo m v 1 = (0, F0)) := Lib.hid (by rw [nearTo_take m v 0 (.inl rfl), hF])
  clear hb S0 S1 hF
  go_wp2_with fail
  generalize hg1 : w1.heap.size = g1 at *
  generalize w1.alloc (.cells #[.int .u64 (hiN F0 : Int), .int .u64 (loN F0 : Int)] 34) = w2 at *
  go_loopw [6, 8] (fun t i wr => ∃ k : Nat, 1 ≤ k ∧ k ≤ m.length ∧ i = .int .i64 (k : Int) ∧ t = .int .i64 ((nearTo m v k).1 : Int) ∧ NearR w g1 (nearTo m v k).2 wr) (fun _ i _ => m.length - (intOf i).toNat)
  case atStart => exact ⟨1, Nat.le_refl _, h1, rfl, by rw [hT0.out]; rfl, by rw [hT0.out]; exact N0⟩
  case round =>
    obtain ⟨k, hk1, hk, rfl, rfl, hS⟩ := hrel
    clear N0 hT0
    by_cases hlt : k < m.length
    · obtain ⟨g2, o2, R2, rc2, hA2, hc2, hR2⟩ := hm k hlt
      simp only [Option.some.injEq, Addr.mk.injEq, and_true] at hA2
      obtain ⟨rfl, rfl⟩ := hA2
      have q0 : (0 : Int) ≤ (k : Int) := by omega
      have q1 : (k : Int) < (m.length : Int) := by omega
      have d2 := below_cell hS.1 hc2
      have hD := Lib.hid (hfar.out k hlt R2 rc2 wr (hR2.below hS.1) (hV.below hS.1))
      have hNW : Hid (Wd (nearTo m v k).2) := Lib.hid (by
        have h2 := hwd.out 0 (by omega)
        have h3 := nearTo_min m v k 0 (by omega)
        unfold Wd at *
        omega)
      go_wp2_with fail
      refine hD.out.mono ?_
      rintro e w3 ⟨rfl, hb1⟩
      have S1 := hS.more hb1
      have hFW := Lib.hid (hwd.out k hlt)
      clear hS hb1 d2 hD hc2 hR2
      generalize hF : farN (mrow m k) v = F at *
      generalize hN : nearTo m v k = N at *
      have hF' := Lib.hid hF
      have hN' := Lib.hid hN
      clear hF hN
      have S2 := S1.more (below_alloc1 w3 (.cells #[.int .u64 (hiN F : Int), .int .u64 (loN F : Int)] 34))
      have b2 := Blk.new w3 34 #[.int .u64 (hiN F : Int), .int .u64 (loN F : Int)]
      have hlt1 := S1.2.2.1.lt
      have hne : ¬ g1 = w3.heap.size := by omega
      obtain ⟨c1, c2, f1, f2⟩ := S1.cells
      go_wp2_with fail
      generalize w3.alloc (.cells #[.int .u64 (hiN F : Int), .int .u64 (loN F : Int)] 34) = w4 at *
      clear c1 c2 f1 f2
      refine (less_c F N.2 hFW.out hNW.out _).mono ?_
      rintro e w5 ⟨rfl, hb5⟩
      replace S2 := S2.more hb5
      replace b2 := b2.below hb5 b2.lt
      by_cases hlt2 : F < N.2
      · have hT := Lib.hid (nearTo_take m v k (.inr (by rw [hF'.out, hN'.out]; exact hlt2)))
        rw [hF'.out] at hT
        rw [decide_eq_true hlt2]
        clear hlt2
        obtain ⟨c1, c2, f1, f2⟩ := S2.cells
        have z0 : w5.cell? ⟨w3.heap.size, 0, none⟩ = some (.int .u64 (hiN F : Int)) := b2.cell 0
        have z1 : w5.cell? ⟨w3.heap.size, 1, none⟩ = some (.int .u64 (loN F : Int)) := b2.cell 1
        have S3 := S2.put F
        go_wp2_with fail
        exact ⟨⟨k + 1, by omega, by omega, by go_num, by rw [hT.out], by rw [hT.out]; exact S3⟩, by simp [intOf]; omega⟩
      · have hT := Lib.hid (nearTo_keep m v k (by omega) (by rw [hF'.out, hN'.out]; exact hlt2))
        rw [hN'.out] at hT
        rw [decide_eq_false hlt2]
        clear hlt2 b2
        go_wp2_with fail
        exact ⟨⟨k + 1, by omega, by omega, by go_num, by rw [hT.out], by rw [hT.out]; exact S2⟩, by simp [intOf]; omega⟩
    · obtain rfl : k = m.length := by omega
      rw [show nearTo m v m.length = nearN m v from rfl] at *
      obtain ⟨c1, c2, f1, f2⟩ := hS.cells
      have z0 : wr.cell? ⟨w.heap.size, 0, none⟩ = some (.int .u64 0) := hS.2.1.cell 0
      have z1 : wr.cell? ⟨w.heap.size, 1, none⟩ = some (.int .u64 0) := hS.2.1.cell 1
      have z2 := hS.2.1.frozen 0
      have z3 := hS.2.1.frozen 1
      generalize hNN : nearN m v = N at *
      obtain ⟨at_, D⟩ := N
      replace hNN := Lib.hid hNN
      go_wp2_with fail
      go_region
      all_goals
        have B9 := (hS.1.setCell (p := ⟨w.heap.size, 0, none⟩) (by simp) (.int .u64 (hiN D : Int))).setCell (p := ⟨w.heap.size, 1, none⟩) (by simp) (.int .u64 (loN D : Int)) |>.drew
        have b9 := (pair_set (u := .int .u64 (hiN D : Int)) (v := .int .u64 (loN D : Int)) hS.2.1).drew
        generalize World.drew ((World.setCell _ ⟨w.heap.size, 0, none⟩ _).setCell ⟨w.heap.size, 1, none⟩ _) = w9 at *
        have m0 : w9.cell? ⟨w.heap.size, 0, none⟩ = some (.int .u64 (hiN D : Int)) := b9.cell 0
        have m1 : w9.cell? ⟨w.heap.size, 1, none⟩ = some (.int .u64 (loN D : Int)) := b9.cell 1
        clear c1 c2 f1 f2 z0 z1 z2 z3
        go_wp2_with fail
        refine bodyPost_ret (v := .tuple #[.int .i64 (at_ : Int), .agg #[.int .u64 (hiN D : Int), .int .u64 (loN D : Int)]]) (by simp [results, Try.results40, go_sem, m0, m1]) rfl ?_
        exact ⟨by rw [hNN.out], B9⟩
end Go.Proofs.Ytoglemdooaiddaa
