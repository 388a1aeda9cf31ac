/- The contract of the document's Encode. -/
import Derived.Test.YtiamppbgpoffmaaPqRTrain
import Derived.Test.YtiamppbgpoffmaaPqEst
import Derived.Deep.CutRange
import Derived.Deep.RegionHeld3
namespace Go.Proofs.Ytiamppbgpoffmaa
open Go.RowKit
set_option linter.unusedVariables false

theorem renc_bad (gp d : Nat) (V : Option Addr) (v : List Int) (cv : Nat) (w : World) (hc : w.cell? ⟨gp, 0, none⟩ = some (.int .i64 (d : Int))) (hV : Row w V v) (hE : vecE v d ≠ 0) :
    Calls Try.prog 14 #[.pointer (some ⟨gp, 0, none⟩), .slice V v.length cv] w (CodeBad w (vecE v d)) := by
  have hC := Lib.hid (rvec_any V v cv d w hV)
  have hne : (vecE v d != 0) = true := by simpa using hE
  generalize vecE v d = E at *
  clear hE
  go_enter Try.func14, Try.ntmps14
  go_wp2_with fail
  refine hC.out.mono ?_
  rintro e w1 ⟨rfl, rfl⟩
  go_wp2_with fail
  go_ret2
  exact ⟨rfl, Below.refl _ _⟩
theorem three_held {w1 w2 : World} {a1 a2 a3 : Addr} {v1 v2 v3 : Value} (h : w1.cell? a1 = some v1 ∧ w1.cell? a2 = some v2 ∧ w1.cell? a3 = some v3) (hb : Below w1.heap.size w1 w2) :
    w2.cell? a1 = some v1 ∧ w2.cell? a2 = some v2 ∧ w2.cell? a3 = some v3 := ⟨below_cell hb h.1, below_cell hb h.2.1, below_cell hb h.2.2⟩
set_option maxRecDepth 100000 in
set_option maxHeartbeats 4000000 in
theorem renc_ok (gp d p n k : Nat) (bs : List (List (List Int))) (V : Option Addr) (v : List Int) (cv : Nat) (w : World) (hB : Cod bs d p n k) (hc : RCoderAt w gp d p bs) (hV : Row w V v) (hcv : v.length ≤ cv) (hE : vecE v d = 0) :
    Calls Try.prog 14 #[.pointer (some ⟨gp, 0, none⟩), .slice V v.length cv] w (CodePost w (encN bs n v p)) := by
  obtain ⟨A, c, c0, cp, c1, hbk⟩ := hc
  have hC := Lib.hid (rvec_any V v cv d w hV)
  rw [hE] at hC
  have hvl : v.length = d := by have := (vecE_ok hE).2.2.1; omega
  have hp1 := hB.parts.p1
  have hp8 := hB.p8
  have hd1 := hB.n64
  have hk1 := hB.k1
  have hk16 := hB.k16
  obtain ⟨gv, ov, rfl, hcv0⟩ := hV 0 (by omega)
  clear hcv0
  rw [hB.len] at c1
  replace hB := Lib.hid hB
  replace hE := Lib.hid hE
  replace hvl := Lib.hid hvl
  go_enter Try.func14, Try.ntmps14
  go_wp2_with fail
  refine hC.out.mono ?_
  rintro e w1 ⟨rfl, rfl⟩
  go_wp2_with fail
  clear hC c0
  go_loopw [7, 8] (fun o i wr => ∃ j : Nat, j ≤ p ∧ i = .int .i64 (j : Int) ∧ wr.ownsRow w.heap.size 3 1 o j (vals (encN bs n v j)) ∧ Below w.heap.size w wr) (fun _ i _ => p - (intOf i).toNat)
  case atStart => exact ⟨0, Nat.zero_le _, rfl, World.ownsRow_nil _ _ _ _, Below.refl _ _⟩
  case round =>
    obtain ⟨j, hj, rfl, HO, HB⟩ := hrel
    have d3 := below_cell HB cp
    by_cases hlt : j < p
    · have q0 : (0 : Int) ≤ (j : Int) := by omega
      have q1 : (j : Int) < (p : Int) := by omega
      obtain ⟨g, o, R, rc, hA, hc1, hR⟩ := hbk j (by rw [hB.out.len]; exact hlt)
      subst hA
      have hP := Lib.hid (rpart_any gv ov v cv p n j (by rw [hvl.out]; exact hB.out.parts) hlt (by rw [hvl.out]; exact hB.out.d64) hcv)
      have hpo := part_ok hB.out.parts hlt hB.out.d64 hE.out
      have hbl := hB.out.rows j hlt
      have hN := Lib.hid (fun x (hx : Below wr.heap.size wr x) => show Calls Try.prog 35 #[.slice R (brow bs j).length rc, .slice (some ⟨gv, ov + j * n, none⟩) n (cv - j * n)] x _ from by
        have hpr := row_part_at ((hV.below HB).below hx) (by rw [hvl.out]; exact hB.out.parts.fits hlt)
        have h := rnear_any R (brow bs j) rc (some ⟨gv, ov + j * n, none⟩) (partN v n j) (cv - j * n) (by rw [hpo.1, hbl]; exact hB.out.ok hlt) (by rw [hpo.1]; exact hpo.2) (by omega) (by omega) x ((hR.below HB).below hx) hpr
        rw [hpo.1] at h
        exact h)
      have hsW := encN_succ bs n v j
      replace hsW := Lib.hid hsW
      generalize nearN (brow bs j) (partN v n j) = N at *
      obtain ⟨a, D⟩ := N
      have d1 := below_cell HB hc1
      have d2 := below_cell HB c1
      have S00 : wr.cell? ⟨gp, 1, none⟩ = some (.int .i64 (p : Int)) ∧ wr.cell? ⟨gp, 2, none⟩ = some (.slice (some ⟨g, o, none⟩) p c) ∧ wr.cell? ⟨g, o + j, none⟩ = some (.slice R (brow bs j).length rc) := ⟨d3, d2, d1⟩
      replace hpo := Lib.hid hpo
      replace hbl := Lib.hid hbl
      clear hc1
      go_upto_region 8 with fail
      go_cut [9] from 28 to 49 (fun v wx => v = .int .i64 (a : Int) ∧ Below wr.heap.size wr wx)
      case first =>
        have NA : Blk (wr.alloc (.cells #[.int .u64 0, .int .u64 0] 44)).drew wr.heap.size 44 #[.int .u64 0, .int .u64 0] := Blk.new wr 44 #[.int .u64 0, .int .u64 0]
        have BA := (below_alloc1 wr (.cells #[.int .u64 0, .int .u64 0] 44)).drew
        have B0 := (Below.refl wr.heap.size wr).drew
        have SA := three_held S00 BA
        have S0 := three_held S00 B0
        go_region_held3 (fun w' => w'.cell? ⟨gp, 1, none⟩ = some (.int .i64 (p : Int)) ∧ w'.cell? ⟨gp, 2, none⟩ = some (.slice (some ⟨g, o, none⟩) p c) ∧ w'.cell? ⟨g, o + j, none⟩ = some (.slice R (brow bs j).length rc))
          (first | (with_reducible exact S0) | (with_reducible exact SA) | (with_reducible exact three_held S00 X1) | (with_reducible exact three_held S00 (below_chain X1 (below_alloc1 _ _) X1.size)) | (with_reducible exact three_held S00 (below_put2 X1 (Nat.le_refl _) _ _)) | (with_reducible exact three_held S00 (below_put2 (below_chain X1 (below_alloc1 _ _) X1.size) X1.size _ _)))
          (first
          | (go_at_call 29; (with_reducible refine (hP.out _).mono ?_); rintro e x1 ⟨rfl, rfl⟩)
          | (go_at_call 35; (first | (with_reducible refine (hN.out _ B0).mono ?_) | (with_reducible refine (hN.out _ BA).mono ?_)); rintro e x1 ⟨rfl, hb⟩; (first | (have X1 := below_chain B0 hb B0.size) | (have X1 := below_chain BA hb BA.size; have NB := NA.below hb NA.lt; obtain ⟨n0, n1, n2, n3⟩ := NB.zero2))))
        all_goals
          go_wp2_with fail
          go_meet
          first
            | exact ⟨rfl, below_chain X1 (below_alloc1 _ _) X1.size⟩
            | exact ⟨rfl, below_put2 X1 (Nat.le_refl _) _ _⟩
      case rest =>
        obtain ⟨rfl, hb⟩ := hcut
        have HO3 := HO.kept (grown_of_below hb none) (by simp; exact Classical.em _)
        have HB4 := below_chain HB hb HB.size
        have hz := HB4.size
        have hm2 : p - (j + 1) < p - j := by omega
        clear d1 d2 d3 hN hb HO S00
        go_wp2_with (at_builtin; refine append_one w.heap.size rfl (.tmp 46) (.tmp 48) _ 3 (.int .i64 0) 8 rfl Try.underlying26 int_info' rfl (by omega) u7 j _ (.int .i64 (a : Int)) rfl rfl rfl HO3 hz (by omega) ?_; intro v1 w1 HO1 hg1 hat1)
        rw [vals_snoc, hsW.out] at HO1
        have HB1 := below_of_grown HB4 hg1 (fun q hq => (own_lt' HO3 q hq).1)
        go_roundw
        case rel => exact ⟨j + 1, hlt, by go_num, HO1, HB1⟩
        all_goals (simpa [intOf] using hm2)
    · obtain rfl : j = p := by omega
      obtain ⟨gw, cw, rfl, hgw1, hgw2⟩ := own_shape HO (by omega)
      have hW : Row wr (some ⟨gw, 0, none⟩) (encN bs n v j) := fun x hx => ⟨gw, 0, rfl, by rw [Nat.zero_add]; exact own_int HO x (by rwa [encN_length] at hx)⟩
      go_wp2_with fail
      go_ret2
      exact ⟨gw, cw, by rw [encN_length]; rfl, by rw [encN_length]; exact own_cap HO, hW, HB⟩
end Go.Proofs.Ytiamppbgpoffmaa
