/- The contract of the document's Table. -/
import Derived.Test.YtiamppbgpoffmaaPqRDec
namespace Go.Proofs.Ytiamppbgpoffmaa
open Go.RowKit
set_option linter.unusedVariables false

section
variable {P : Program} {ops : Array Oper} {o : Oper} {a : Act} {K : Act → World → Prop} {Q : Exit → Act → World → Prop} {E : Prop}
/-- 'append(v, x)', x a Wide, as one step of a region that draws its order. -/
theorem step_append_wide {W : World} (base : Nat) (hgd : o.guard = none) (s x : Operand) (t e : TypeId)
    (ho : o.op = .call { callee := .builtin .append, args := #[s, x], argTypes := #[t, t] })
    (ht : P.underlying t = some (.slice e)) (hinfo : (P.info? e).map (fun i => (i.zero, i.size, i.bytes)) = some (some (.agg #[.int .u64 0, .int .u64 0]), 2, 16))
    (v : Value) (n : Nat) (xs : List Nat) (D : Nat) (hs : a.eval s = v) (hx : a.eval x = .slice (some ⟨W.heap.size, 0, none⟩) 1 1)
    (HO : W.ownsRow base e 2 v n (wides xs)) (hbase : base ≤ W.heap.size) (hl : (n + 1) * 16 ≤ 140737488355328)
    (h : ∀ g1 cap w1, w1.ownsRow base e 2 (.slice (some ⟨g1, 0, none⟩) (n + 1) cap) (n + 1) (wides (xs ++ [D])) → W.grownBy w1 v.ownBlock → K (a.put o.dst (.slice (some ⟨g1, 0, none⟩) (n + 1) cap)) w1) :
    if Region.wanted o (yielded ops a.tmps) = true then Oper.wp P o a (W.alloc (.cells #[.int .u64 (hiN D : Int), .int .u64 (loN D : Int)] e)) K Q else E := by
  obtain ⟨i0, hi, hzz⟩ := Option.map_eq_some_iff.1 hinfo
  simp only [Prod.mk.injEq] at hzz
  obtain ⟨hz0, hz1, hz2⟩ := hzz
  have hB := Blk.new W e #[.int .u64 (hiN D : Int), .int .u64 (loN D : Int)]
  refine step_append_lies (W.alloc (.cells #[.int .u64 (hiN D : Int), .int .u64 (loN D : Int)] e)) hgd s x t ho base e i0 (.agg #[.int .u64 0, .int .u64 0]) 2 16 ht hi hz0 hz1 hz2 rfl (by omega) v n (wides xs) hs (HO.alloc _) ⟨W.heap.size, 0, none⟩ 1 1 (wcells D) hx rfl
    (fun j u hu => ?_) (fun u hu => ?_) (by omega) (by simp only [maxLen]; omega) hl (by simp; omega) _ rfl ?_
  · have hadd : (⟨W.heap.size, 0, none⟩ : Addr).add j = ⟨W.heap.size, j, none⟩ := by unfold Addr.add; split <;> simp_all
    rw [hadd, hB.cell j]
    simpa [wcells] using hu
  · simp [wcells] at hu
    rcases hu with rfl | rfl <;> rfl
  · intro g1 cap w1 hown hg _ hat
    rw [wides_snoc] at hown
    refine h g1 cap w1 hown ?_
    exact ⟨hg.os, hg.tape, hg.output, Nat.le_trans (by simp) hg.size, fun k hk hne => (hg.block k (by simp; omega) hne).trans (Below.heap_alloc W _ k hk)⟩
end
theorem rtab_bad (gp d : Nat) (V : Option Addr) (v : List Int) (cv : Nat) (w : World) (hc : w.cell? ⟨gp, 0, none⟩ = some (.int .i64 (d : Int))) (hV : Row w V v) (hE : vecE v d ≠ 0) :
    Calls Try.prog 18 #[.pointer (some ⟨gp, 0, none⟩), .slice V v.length cv] w (CodeBad w (vecE v d)) := by
  have hC := Lib.hid (rvec_any V v cv d w hV)
  have hne : (vecE v d != 0) = true := by simpa using hE
  generalize vecE v d = E at *
  clear hE
  go_enter Try.func18, Try.ntmps18
  go_wp2_with fail
  refine hC.out.mono ?_
  rintro e w1 ⟨rfl, rfl⟩
  go_wp2_with fail
  go_ret2
  exact ⟨rfl, Below.refl _ _⟩
set_option maxRecDepth 100000 in
set_option maxHeartbeats 8000000 in
theorem rtab_ok (gp d p n k : Nat) (bs : List (List (List Int))) (V : Option Addr) (v : List Int) (cv : Nat) (w : World) (hB : Cod bs d p n k) (hc : RCoderAt w gp d p bs) (hV : Row w V v) (hcv : v.length ≤ cv) (hE : vecE v d = 0) :
    Calls Try.prog 18 #[.pointer (some ⟨gp, 0, none⟩), .slice V v.length cv] w (TabPost w (tabN bs n v p k)) := by
  obtain ⟨A, c, c0, cp, c1, hbk⟩ := hc
  have hC := Lib.hid (rvec_any V v cv d w hV)
  rw [hE] at hC
  have hvl : v.length = d := by have := (vecE_ok hE).2.2.1; omega
  have hp1 := hB.parts.p1
  have hp8 := hB.p8
  have hd1 := hB.n64
  have hd64 := hB.d64
  have hk1 := hB.k1
  have hk16 := hB.k16
  obtain ⟨gv, ov, rfl, hcv0⟩ := hV 0 (by omega)
  clear hcv0
  rw [hB.len] at c1
  replace hB := Lib.hid hB
  replace hE := Lib.hid hE
  replace hvl := Lib.hid hvl
  go_enter Try.func18, Try.ntmps18
  go_wp2_with fail
  refine hC.out.mono ?_
  rintro e w1 ⟨rfl, rfl⟩
  go_wp2_with fail
  clear hC c0
  go_loopw [7, 8] (fun o i wr => ∃ j : Nat, j ≤ p ∧ i = .int .i64 (j : Int) ∧ OutW w.heap.size wr o j (tabN bs n v p k) ∧ Below w.heap.size w wr) (fun _ i _ => p - (intOf i).toNat)
  case atStart => exact ⟨0, Nat.zero_le _, rfl, OutW.start _ _ _, Below.refl _ _⟩
  case round =>
    obtain ⟨j, hj, rfl, hOut, HB⟩ := hrel
    have d3 := below_cell HB cp
    by_cases hlt : j < p
    · have q0 : (0 : Int) ≤ (j : Int) := by omega
      have q1 : (j : Int) < (p : Int) := by omega
      obtain ⟨g, o, R, rc, hA, hc1, hR⟩ := hbk j (by rw [hB.out.len]; exact hlt)
      subst hA
      have hbl := hB.out.rows j hlt
      rw [hbl] at hc1
      obtain ⟨x0, hx0⟩ : ∃ x, x = wr := ⟨_, rfl⟩
      subst hx0
      go_wp2_with fail
      clear d3
      go_loopw [9, 10] (fun o i wr => ∃ x : Nat, x ≤ k ∧ i = .int .i64 (x : Int) ∧ wr.ownsRow x0.heap.size 44 2 o x (wides (tabR bs n v j x)) ∧ Below x0.heap.size x0 wr) (fun _ i _ => k - (intOf i).toNat)
      case atStart => exact ⟨0, Nat.zero_le _, rfl, World.ownsRow_nil _ _ _ _, Below.refl _ _⟩
      case round =>
        obtain ⟨x, hx, rfl, HI, HB2⟩ := hrel
        have HB3 := below_chain HB HB2 HB.size
        have d1 := below_cell HB3 hc1
        have d2 := below_cell HB3 c1
        by_cases hlt2 : x < k
        · have r0 : (0 : Int) ≤ (x : Int) := by omega
          have r1 : (x : Int) < (k : Int) := by omega
          obtain ⟨g2, o2, R2, rc2, hA2, hc2, hR2⟩ := hR x (by rw [hbl]; exact hlt2)
          subst hA2
          have hP := Lib.hid (rpart_any gv ov v cv p n j (by rw [hvl.out]; exact hB.out.parts) hlt (by rw [hvl.out]; exact hB.out.d64) hcv)
          have hpo := part_ok hB.out.parts hlt hB.out.d64 hE.out
          have hrk := (hB.out.coords j hlt x (by rw [hbl]; exact hlt2))
          have hF := Lib.hid (fun y (hy : Below w.heap.size w y) => show Calls Try.prog 37 #[.slice (some ⟨gv, ov + j * n, none⟩) n (cv - j * n), .slice R2 (mrow (brow bs j) x).length rc2] y _ from by
            have hpr := row_part_at (hV.below hy) (by rw [hvl.out]; exact hB.out.parts.fits hlt)
            have h := rfar_any (some ⟨gv, ov + j * n, none⟩) R2 (partN v n j) (mrow (brow bs j) x) (cv - j * n) rc2 (by rw [hpo.1, hrk.1]) (by rw [hpo.1]; have := (vecE_ok hpo.2).2.2.2; rw [hpo.1] at this; exact this) (by rw [hrk.1]; exact hrk.2) (by rw [hpo.1]; omega) y hpr (hR2.below hy)
            rw [hpo.1] at h
            exact h)
          have hsT := tabR_succ bs n v j x
          replace hsT := Lib.hid hsT
          generalize farN (partN v n j) (mrow (brow bs j) x) = D at *
          have S00 : w.cell? ⟨gp, 1, none⟩ = some (.int .i64 (p : Int)) ∧ w.cell? ⟨gp, 2, none⟩ = some (.slice (some ⟨g, o, none⟩) p c) ∧ w.cell? ⟨g, o + j, none⟩ = some (.slice (some ⟨g2, o2, none⟩) k rc) ∧ w.cell? ⟨g2, o2 + x, none⟩ = some (.slice R2 (mrow (brow bs j) x).length rc2) := ⟨cp, c1, hc1, hc2⟩
          replace hpo := Lib.hid hpo
          replace hrk := Lib.hid hrk
          have hx16 : (x + 1) * 16 ≤ 140737488355328 := by omega
          replace hx16 := Lib.hid hx16
          go_wp2_with fail
          clear d1 d2
          have BD := (Below.refl wr.heap.size wr).drew
          have BW := below_chain HB3 BD HB3.size
          have S0 := five_held' S00 BW
          go_region_held3 (fun w' => w'.cell? ⟨gp, 1, none⟩ = some (.int .i64 (p : Int)) ∧ w'.cell? ⟨gp, 2, none⟩ = some (.slice (some ⟨g, o, none⟩) p c) ∧ w'.cell? ⟨g, o + j, none⟩ = some (.slice (some ⟨g2, o2, none⟩) k rc) ∧ w'.cell? ⟨g2, o2 + x, none⟩ = some (.slice R2 (mrow (brow bs j) x).length rc2))
            (first | (with_reducible exact S0) | (with_reducible exact five_held' S00 XW) | (with_reducible exact five_held' S00 (below_chain XW (below_alloc1 _ _) XW.size)) | (with_reducible exact five_held' S00 HBW))
            (first
            | (go_at_call 29; (with_reducible refine (hP.out _).mono ?_); rintro e y1 ⟨rfl, rfl⟩)
            | (go_at_call 37; (with_reducible refine (hF.out _ BW).mono ?_); rintro e x3 ⟨rfl, hb⟩; have X3 := below_chain BD hb BD.size; have XW := below_chain HB3 X3 HB3.size; have HI3 := HI.kept (grown_of_below X3 none) (by simp; exact Classical.em _); have hz := (below_chain HB2 X3 HB2.size).size)
            | (refine step_append_wide x0.heap.size rfl (.tmp 40) (.tmp 59) _ 44 rfl Try.underlying69 wide_info u9 x (tabR bs n v j x) D rfl rfl HI3 hz hx16.out ?_; intro g6 c6 w1 HO1 hg1; have HB1 := below_of_grown (below_chain HB2 X3 HB2.size) hg1 (fun q hq => (own_lt' HI3 q hq).1); have HBW := below_chain HB HB1 HB.size))
          rw [hsT.out] at HO1
          go_wp2_with fail
          exact ⟨⟨x + 1, by omega, by go_num, HO1, HB1⟩, by simp [intOf]; omega⟩
        · obtain rfl : x = k := by omega
          obtain ⟨gi, ci, rfl, hgi1, hgi2⟩ := own_shape HI (by omega)
          have hW := own_wide HI
          have hlt3 := hOut.lt
          obtain ⟨xs, HO5, hX⟩ := hOut.below HB2
          have hwx := HB3.size
          have ht := wrow_tabN (bs := bs) (n := n) (q := v) (p := p) (k := x) hlt
          have hlen : (wrow (tabN bs n v p x) j).length = x := by rw [ht, tabR_length]
          rw [← ht] at hW
          replace hlen := Lib.hid hlen
          clear ht HI
          go_wp2_with (at_builtin; refine append_one w.heap.size rfl (.tmp 61) (.tmp 63) _ 69 (.slice none 0 0) 24 rfl Try.underlying37 wrow_info rfl (by omega) u7 j _ (.slice (some ⟨gi, 0, none⟩) x ci) rfl rfl rfl HO5 hwx (by omega) ?_; intro v1 x6 HO6 hg6 hat6)
          have hOut6 := OutW.snoc (t := tabN bs n v p x) HO5 hX (by rw [hlen.out]; exact HO6) hg6 hat6 hgi2 (fun e => by have := (hlt3 gi e).2; omega) hW
          have B6 := below_of_grown HB3 hg6 (fun q hq => (hlt3 q hq).1)
          exact ⟨⟨j + 1, by omega, by go_num, hOut6, B6⟩, by simp [intOf]; omega⟩
    · obtain rfl : j = p := by omega
      have hl := tabN_length bs n v j k
      have hOut2 := hOut
      rw [← hl] at hOut2
      obtain ⟨gw, cw, hw, hW⟩ := OutW.tab (t := tabN bs n v j k) (by rw [hl] at hOut2 ⊢; exact hOut) (by rw [hl]; omega)
      subst hw
      clear hOut hOut2
      replace hl := Lib.hid hl
      go_wp2_with fail
      go_ret2
      exact ⟨gw, cw, rfl, hW, HB⟩
end Go.Proofs.Ytiamppbgpoffmaa
