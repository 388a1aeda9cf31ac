/- The contract of the document's Decode. -/
import Derived.Test.YtiamppbgpoffmaaPqREnc
import Derived.Test.YtiamppbgpoffmaaPqPlain
namespace Go.Proofs.Ytiamppbgpoffmaa
open Go.RowKit
set_option linter.unusedVariables false

section
variable {P : Program} {ops : Array Oper} {o : Oper} {a : Act} {K : Act → World → Prop} {Q : Exit → Act → World → Prop} {E : Prop}
/-- 'append(v, r...)', r a row of whole numbers, as one step of a region that draws its order. -/
theorem step_append_row {W : World} (base : Nat) (hgd : o.guard = none) (s x : Operand) (t e : TypeId)
    (ho : o.op = .call { callee := .builtin .append, args := #[s, x], argTypes := #[t, t] })
    (ht : P.underlying t = some (.slice e)) (hinfo : (P.info? e).map (fun i => (i.zero, i.size, i.bytes)) = some (some (.int .i64 0), 1, 8))
    (v : Value) (n : Nat) (xs ys : List Int) (g off c : Nat) (hs : a.eval s = v) (hx : a.eval x = .slice (some ⟨g, off, none⟩) ys.length c) (h0 : 0 < ys.length)
    (HO : W.ownsRow base e 1 v n (vals xs)) (hR : Row W (some ⟨g, off, none⟩) ys) (hbase : base ≤ W.heap.size) (hl : (n + ys.length) * 8 ≤ 140737488355328)
    (h : ∀ g1 cap w1, w1.ownsRow base e 1 (.slice (some ⟨g1, 0, none⟩) (n + ys.length) cap) (n + ys.length) (vals (xs ++ ys)) → W.grownBy w1 v.ownBlock → K (a.put o.dst (.slice (some ⟨g1, 0, none⟩) (n + ys.length) cap)) w1) :
    if Region.wanted o (yielded ops a.tmps) = true then Oper.wp P o a W K Q else E := by
  obtain ⟨i0, hi, hzz⟩ := Option.map_eq_some_iff.1 hinfo
  simp only [Prod.mk.injEq] at hzz
  obtain ⟨hz0, hz1, hz2⟩ := hzz
  refine step_append_lies W hgd s x t ho base e i0 (.int .i64 0) 1 8 ht hi hz0 hz1 hz2 rfl (by omega) v n (vals xs) hs HO ⟨g, off, none⟩ ys.length c (vals ys) hx (by rw [vals_length]; omega)
    (fun j u hu => ?_) (fun u hu => ?_) h0 (by simp only [maxLen]; omega) hl hbase W.heap.size rfl ?_
  · have hj : j < ys.length := by
      have := (List.getElem?_eq_some_iff.1 hu).1
      rwa [vals_length] at this
    rw [vals_at ys j hj] at hu
    obtain ⟨g2, o2, hA, hc⟩ := hR j hj
    simp only [Option.some.injEq, Addr.mk.injEq, and_true] at hA
    obtain ⟨rfl, rfl⟩ := hA
    rw [← hu, ← hc]
    have hadd : (⟨g, off, none⟩ : Addr).add j = ⟨g, off + j, none⟩ := by unfold Addr.add; split <;> simp_all
    rw [hadd]
  · obtain ⟨y, _, rfl⟩ := List.mem_map.1 hu
    rfl
  · intro g1 cap w1 hown hg _ hat
    refine h g1 cap w1 ?_ hg
    rw [show vals (xs ++ ys) = vals xs ++ vals ys by simp [vals]]
    exact hown
end
theorem five_held' {w1 w2 : World} {a1 a2 a3 a4 : Addr} {v1 v2 v3 v4 : Value} (h : w1.cell? a1 = some v1 ∧ w1.cell? a2 = some v2 ∧ w1.cell? a3 = some v3 ∧ w1.cell? a4 = some v4) (hb : Below w1.heap.size w1 w2) :
    w2.cell? a1 = some v1 ∧ w2.cell? a2 = some v2 ∧ w2.cell? a3 = some v3 ∧ w2.cell? a4 = some v4 := ⟨below_cell hb h.1, below_cell hb h.2.1, below_cell hb h.2.2.1, below_cell hb h.2.2.2⟩

theorem rdec_len (gp d p : Nat) (bs : List (List (List Int))) (V : Option Addr) (m : Nat) (cv : Nat) (w : World) (hc : RCoderAt w gp d p bs) (hl : m ≠ p) :
    Calls Try.prog 16 #[.pointer (some ⟨gp, 0, none⟩), .slice V m cv] w (CodeBad w 101) := by
  obtain ⟨A, c, c0, cp, c1, hbk⟩ := hc
  have hne : ((m : Int) != (p : Int)) = true := by simp; omega
  clear hl hbk
  go_enter Try.func16, Try.ntmps16
  go_wp2_with fail
  go_ret2
  exact ⟨rfl, Below.refl _ _⟩
set_option maxRecDepth 100000 in
set_option maxHeartbeats 4000000 in
theorem rdec_go (gp d p n k : Nat) (bs : List (List (List Int))) (V : Option Addr) (code : List Int) (cv : Nat) (w : World) (hB : Cod bs d p n k) (hc : RCoderAt w gp d p bs) (hV : Row w V code) (hl : code.length = p) :
    Calls Try.prog 16 #[.pointer (some ⟨gp, 0, none⟩), .slice V p cv] w (DecPost w bs code p) := by
  obtain ⟨A, c, c0, cp, c1, hbk⟩ := hc
  have hp1 := hB.parts.p1
  have hp8 := hB.p8
  have hd1 := hB.n64
  have hd64 := hB.d64
  rw [hB.len] at c1
  have hne : ((p : Int) != (p : Int)) = false := by simp
  replace hB := Lib.hid hB
  replace hl := Lib.hid hl
  go_enter Try.func16, Try.ntmps16
  go_wp2_with fail
  clear hne c0 cp
  go_loopw [6, 7] (fun o i wr => ∃ j : Nat, j ≤ p ∧ i = .int .i64 (j : Int) ∧ InTo bs code j ∧ wr.ownsRow w.heap.size 3 1 o (decN bs code j).length (vals (decN bs code j)) ∧ Below w.heap.size w wr) (fun _ i _ => p - (intOf i).toNat)
  case atStart => exact ⟨0, Nat.zero_le _, rfl, fun i hi => absurd hi (by omega), World.ownsRow_nil _ _ _ _, Below.refl _ _⟩
  case round =>
    obtain ⟨j, hj, rfl, hI, HO, HB⟩ := hrel
    by_cases hlt : j < p
    · have q0 : (0 : Int) ≤ (j : Int) := by omega
      have q1 : (j : Int) < (p : Int) := by omega
      obtain ⟨gv, ov, rfl, hcv0⟩ := hV j (by rw [hl.out]; exact hlt)
      obtain ⟨g, o, R, rc, hA, hc1, hR⟩ := hbk j (by rw [hB.out.len]; exact hlt)
      subst hA
      have d0 := below_cell HB hcv0
      have d1 := below_cell HB hc1
      have d2 := below_cell HB c1
      rw [hB.out.rows j hlt] at d1
      have hk := hB.out.rows j hlt
      by_cases hq : 0 ≤ nth code j ∧ nth code j < k
      · have hI2 := hI.succ hq.1 (by rw [hk]; exact hq.2)
        have hL1 := decN_length hB.out hj hI
        have hL2 := decN_length hB.out hlt hI2
        obtain ⟨a, ha⟩ : ∃ a : Nat, nth code j = (a : Int) := ⟨(nth code j).toNat, by omega⟩
        have hak : a < k := by omega
        obtain ⟨g2, o2, R2, rc2, hA2, hc2, hR2⟩ := hR a (by rw [hk]; exact hak)
        subst hA2
        have hrl := (hB.out.coords j hlt a (by rw [hk]; exact hak)).1
        obtain ⟨g3, o3, hA3, _⟩ := hR2 0 (by omega)
        subst hA3
        have d3 := below_cell HB hc2
        have hS : decN bs code (j + 1) = decN bs code j ++ mrow (brow bs j) a := by rw [decN, ha, Int.toNat_natCast]
        have hfit := hB.out.parts.fits hlt
        have hL3 : (decN bs code j).length + (mrow (brow bs j) a).length ≤ 64 := by rw [hS, List.length_append] at hL2; rw [hL2]; exact Nat.le_trans hfit hd64
        have hR3 := hR2.below HB
        have hlen : (decN bs code (j + 1)).length = (decN bs code j).length + (mrow (brow bs j) a).length := by rw [hS, List.length_append]
        have hmx : ((decN bs code j).length + (mrow (brow bs j) a).length) * 8 ≤ 140737488355328 := by omega
        have h0 : 0 < (mrow (brow bs j) a).length := by omega
        rw [ha] at d0 hq
        obtain ⟨r1, r2⟩ := hq
        replace hS := Lib.hid hS
        replace hlen := Lib.hid hlen
        replace hmx := Lib.hid hmx
        replace hk := Lib.hid hk
        replace h0 := Lib.hid h0
        have hz := HB.size
        rw [hk.out] at hc1
        have S00 : w.cell? ⟨gp, 2, none⟩ = some (.slice (some ⟨g, o, none⟩) p c) ∧ w.cell? ⟨g, o + j, none⟩ = some (.slice (some ⟨g2, o2, none⟩) k rc) ∧ w.cell? ⟨gv, ov + j, none⟩ = some (.int .i64 (a : Int)) ∧ w.cell? ⟨g2, o2 + a, none⟩ = some (.slice (some ⟨g3, o3, none⟩) (mrow (brow bs j) a).length rc2) := ⟨c1, hc1, by rw [← ha]; exact hcv0, hc2⟩
        clear hcv0 hc1 hR hc2 hR2 hL1 hL2 hL3 ha hfit hI
        clear hrl
        go_wp2_with fail
        go_quiet (fail)
        go_wp2_with fail
        have BQ := (Drawn.refl wr).more nq |>.below wr.heap.size
        obtain ⟨wq, hwq⟩ : ∃ x, x = wr.drewN nq := ⟨_, rfl⟩
        rw [← hwq] at BQ ⊢
        clear hwq
        have d0 := below_cell BQ d0
        have d1 := below_cell BQ d1
        have d2 := below_cell BQ d2
        have d3 := below_cell BQ d3
        have HB5 := below_chain HB (below_chain BQ (Below.refl wq.heap.size wq).drew BQ.size) HB.size
        have hz5 := HB5.size
        have HO5 := (HO.kept (grown_of_below (below_chain BQ (Below.refl wq.heap.size wq).drew BQ.size) none) (by simp; exact Classical.em _))
        have hR5 := hR3.below (below_chain BQ (Below.refl wq.heap.size wq).drew BQ.size)
        have S0 : wq.drew.cell? ⟨gp, 2, none⟩ = some (.slice (some ⟨g, o, none⟩) p c) ∧ wq.drew.cell? ⟨g, o + j, none⟩ = some (.slice (some ⟨g2, o2, none⟩) k rc) ∧ wq.drew.cell? ⟨gv, ov + j, none⟩ = some (.int .i64 (a : Int)) ∧ wq.drew.cell? ⟨g2, o2 + a, none⟩ = some (.slice (some ⟨g3, o3, none⟩) (mrow (brow bs j) a).length rc2) := ⟨d2, d1, d0, d3⟩
        go_region_held3 (fun w' => w'.cell? ⟨gp, 2, none⟩ = some (.slice (some ⟨g, o, none⟩) p c) ∧ w'.cell? ⟨g, o + j, none⟩ = some (.slice (some ⟨g2, o2, none⟩) k rc) ∧ w'.cell? ⟨gv, ov + j, none⟩ = some (.int .i64 (a : Int)) ∧ w'.cell? ⟨g2, o2 + a, none⟩ = some (.slice (some ⟨g3, o3, none⟩) (mrow (brow bs j) a).length rc2))
          (first | (with_reducible exact S0) | (with_reducible exact five_held' S00 HB1))
          (first
          | (refine step_append_row w.heap.size rfl (.tmp 41) (.tmp 54) _ 3 rfl Try.underlying26 int_info' u6 _ (decN bs code j) (mrow (brow bs j) a) g3 o3 rc2 rfl rfl h0.out HO5 hR5 hz5 hmx.out ?_; intro g6 c6 w1 HO1 hg1; have HB1 := below_of_grown HB5 hg1 (fun q hq => (own_lt' HO5 q hq).1)))
        generalize Value.slice (some ⟨g6, 0, none⟩) _ c6 = v1 at *
        rw [← hS.out, ← hlen.out] at HO1
        go_wp2_with fail
        exact ⟨⟨j + 1, by omega, by go_num, hI2, HO1, HB1⟩, by simp [intOf]; omega⟩
      · have hno : ¬ InTo bs code p := fun h => hq (by have := h j hlt; rwa [hk] at this)
        replace hno := Lib.hid hno
        clear hk
        by_cases h1 : 0 ≤ nth code j
        · have h2 : (k : Int) ≤ nth code j := by omega
          generalize nth code j = q at *
          clear hq
          go_wp2_with fail
          go_quiet (fail)
          go_wp2_with fail
          go_ret2
          exact ⟨fun h => absurd h hno.out, fun _ => ⟨rfl, below_chain HB ((Drawn.refl wr).more nq |>.below _) HB.size⟩⟩
        · have h2 : nth code j < 0 := by omega
          generalize nth code j = q at *
          clear hq h1
          go_wp2_with fail
          go_quiet (fail)
          go_wp2_with fail
          go_ret2
          exact ⟨fun h => absurd h hno.out, fun _ => ⟨rfl, below_chain HB ((Drawn.refl wr).more nq |>.below _) HB.size⟩⟩
    · obtain rfl : j = p := by omega
      have hL := decN_length hB.out (Nat.le_refl _) hI
      have h0 : 0 < (decN bs code j).length := by rw [hL]; exact Nat.mul_pos hp1 hd1.1
      obtain ⟨gw, cw, rfl, hgw1, hgw2⟩ := own_shape HO h0
      have hW : Row wr (some ⟨gw, 0, none⟩) (decN bs code j) := fun x hx => ⟨gw, 0, rfl, by rw [Nat.zero_add]; exact own_int HO x hx⟩
      clear hL
      go_wp2_with fail
      go_ret2
      exact ⟨fun _ => ⟨gw, cw, rfl, own_cap HO, hW, HB⟩, fun h => absurd hI h⟩
theorem rdec_any (gp d p n k : Nat) (bs : List (List (List Int))) (V : Option Addr) (code : List Int) (cv : Nat) (w : World) (hB : Cod bs d p n k) (hc : RCoderAt w gp d p bs) (hV : Row w V code) (hE : decE bs code ≠ 0) :
    Calls Try.prog 16 #[.pointer (some ⟨gp, 0, none⟩), .slice V code.length cv] w (CodeBad w (decE bs code)) := by
  unfold decE at hE ⊢
  split at hE
  · exact absurd rfl hE
  · rename_i h
    rw [if_neg h]
    by_cases hl : code.length = p
    · rw [hl]
      refine (rdec_go gp d p n k bs V code cv w hB hc hV hl).mono ?_
      intro e w' hh
      exact hh.2 (fun hi => h ⟨by rw [hl, hB.len], by rw [hl]; exact hi⟩)
    · exact rdec_len gp d p bs V _ cv w hc hl
theorem rdec_ok (gp d p n k : Nat) (bs : List (List (List Int))) (V : Option Addr) (code : List Int) (cv : Nat) (w : World) (hB : Cod bs d p n k) (hc : RCoderAt w gp d p bs) (hV : Row w V code) (hE : decE bs code = 0) :
    Calls Try.prog 16 #[.pointer (some ⟨gp, 0, none⟩), .slice V code.length cv] w (CodePost w (decN bs code p)) := by
  obtain ⟨hl, hi⟩ := decE_in hB hE
  rw [hl]
  exact (rdec_go gp d p n k bs V code cv w hB hc hV hl).mono fun e w' hh => hh.1 hi
end Go.Proofs.Ytiamppbgpoffmaa
