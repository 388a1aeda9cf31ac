/- The contract of the document's Add where the sum is within. -/
import Derived.Test.YtiamppbgpoffmaaRefAdd0q
import Derived.Deep.RegionHeld3
namespace Go.Proofs.Ytiamppbgpoffmaa
open Go.RowKit
set_option linter.unusedVariables false

set_option maxRecDepth 100000 in
set_option maxHeartbeats 16000000 in
theorem radd_in (ah al bh bl : Nat) (s1 : Sm ah) (s2 : Sm al) (s3 : Sm bh) (s4 : Sm bl) (sh sl : Nat) (s5 : Sm sh) (s6 : Sm sl) (h : wh ah al + wh bh bl = wh sh sl) (w : World) :
    Calls Try.prog 39 #[.agg #[.int .u64 (ah : Int), .int .u64 (al : Int)], .agg #[.int .u64 (bh : Int), .int .u64 (bl : Int)]] w (HalfPost w sh sl 0) := by
  have T0 := Two3.start w ah al bh bl
  have hx := wh_lt s5 s6
  replace hx := Lib.hid hx
  replace h := Lib.hid h
  go_enter Try.func39, Try.ntmps39
  go_upto_region 1 with fail
  generalize (((w.alloc (.cells #[.int .u64 (ah : Int), .int .u64 (al : Int)] 44)).alloc (.cells #[.int .u64 (bh : Int), .int .u64 (bl : Int)] 44)).alloc (.cells #[.int .u64 0, .int .u64 0] 44)) = w0 at *
  go_cut [6] from 7 to 11 (fun n6 wx => ∃ (g : Nat) (F : List Nat), n6 = .pointer (some ⟨g, 0, none⟩) ∧ Dig F ∧ val F = (wh ah al + wh bh bl) % 340282366920938463463374607431768211456 ∧ Two3 w wx ah al bh bl ∧ w.heap.size + 1 + 1 < g ∧ Blk wx g 75 (numC F false))
  case first =>
    obtain ⟨p0, p1, p2, p3⟩ := T0.1.cells
    obtain ⟨q0, q1⟩ := T0.1.lt
    have TA : Two3 w ((w0.alloc (Obj.cells #[.int .i64 0, .int .i64 0, .int .i64 0, .int .i64 0, .int .i64 0, .int .i64 0, .int .i64 0, .int .i64 0, .bool false] 75)).drew) ah al bh bl := (by have h1 := T0.more (below_alloc1 w0 (Obj.cells #[.int .i64 0, .int .i64 0, .int .i64 0, .int .i64 0, .int .i64 0, .int .i64 0, .int .i64 0, .int .i64 0, .bool false] 75)); exact ⟨h1.1.drew, h1.2⟩)
    have NA : Blk ((w0.alloc (Obj.cells #[.int .i64 0, .int .i64 0, .int .i64 0, .int .i64 0, .int .i64 0, .int .i64 0, .int .i64 0, .int .i64 0, .bool false] 75)).drew) w0.heap.size 75 (numC [] false) := Blk.new w0 75 (numC [] false)
    have hg0 : w.heap.size + 1 + 1 < w0.heap.size := T0.2.lt
    replace T0 : Two3 w (World.drew _) ah al bh bl := ⟨T0.1.drew, T0.2⟩
    obtain ⟨c0, c1, c2, c3⟩ := T0.1.cells
    obtain ⟨l0, l1⟩ := T0.1.lt
    have S0 := five_of T0
    have SA := five_of TA
    go_region_held3 (fun w' => Below w.heap.size w w' ∧ w'.cell? ⟨w.heap.size, 0, none⟩ = some (.int .u64 (ah : Int)) ∧ w'.cell? ⟨w.heap.size, 1, none⟩ = some (.int .u64 (al : Int)) ∧ w'.cell? ⟨w.heap.size + 1, 0, none⟩ = some (.int .u64 (bh : Int)) ∧ w'.cell? ⟨w.heap.size + 1, 1, none⟩ = some (.int .u64 (bl : Int)))
      (first | (rw [nine_fold' N F false]; with_reducible exact five_of (T3.nine hg F false)) | (with_reducible exact five_of T3) | (with_reducible exact five_of (T3.more (below_alloc1 _ _))) | (with_reducible exact five_of T2) | (with_reducible exact five_of (T2.more (below_alloc1 _ _))) | (with_reducible exact five_of T1) | (with_reducible exact five_of (T1.more (below_alloc1 _ _))) | (with_reducible exact S0) | (with_reducible exact SA))
      (first
      | (go_at_call 41; (with_reducible refine (of_any ah al s1 s2 _).mono ?_); rintro e x1 ⟨D, rfl, hd, hv, hb⟩; have y1 := hb; (first | (have T1 : Two3 w x1 ah al bh bl := (by with_reducible exact T0.more y1)) | (have T1 := TA.more y1; have N := NA.below y1 NA.lt; have hg := hg0)); clear TA NA hg0; obtain ⟨d0, d1, d2, d3⟩ := T1.1.cells; obtain ⟨l2, l3⟩ := T1.1.lt; replace hv := Lib.hid hv)
      | (go_at_call 41; (with_reducible refine (of_any bh bl s3 s4 _).mono ?_); rintro e x2 ⟨E, rfl, he, hv2, hb⟩; have y2 := hb; (first | (have T2 : Two3 w x2 ah al bh bl := (by with_reducible exact T1.more y2); have hN := N.below y2 N.lt; clear N; have N := hN; clear hN) | (have T2 : Two3 w x2 ah al bh bl := (by with_reducible exact T1.more y2)) | (have T2 : Two3 w x2 ah al bh bl := (by with_reducible exact (T1.more (below_alloc1 x1 (Obj.cells #[.int .i64 0, .int .i64 0, .int .i64 0, .int .i64 0, .int .i64 0, .int .i64 0, .int .i64 0, .int .i64 0, .bool false] 75))).more y2); have N := (by with_reducible exact num_lit y2); have hg := T1.2.lt)); replace hv2 := Lib.hid hv2; clear c0 c1 c2 c3 d0 d1 d2 d3 l0 l1 l2 l3 p0 p1 p2 p3 q0 q1)
      | (go_at_call 56; (with_reducible refine (add_num D E false false hd he _).mono ?_); rintro e x3 ⟨F, rfl, hf, hv3, hb⟩; have y3 := hb; (first | (have T3 : Two3 w x3 ah al bh bl := (by with_reducible exact T2.more y3); have hN := N.below y3 N.lt; clear N; have N := hN; clear hN; obtain ⟨m0, m1, m2, m3, m4, m5, m6, m7, m8⟩ := num_cells N; obtain ⟨z0, z1, z2, z3, z4, z5, z6, z7, z8⟩ := num_free N) | (have T3 : Two3 w x3 ah al bh bl := (by with_reducible exact T2.more y3)) | (have T3 : Two3 w x3 ah al bh bl := (by with_reducible exact (T2.more (below_alloc1 x2 (Obj.cells #[.int .i64 0, .int .i64 0, .int .i64 0, .int .i64 0, .int .i64 0, .int .i64 0, .int .i64 0, .int .i64 0, .bool false] 75))).more y3); have N := (by with_reducible exact num_lit y3); have hg := T2.2.lt; obtain ⟨m0, m1, m2, m3, m4, m5, m6, m7, m8⟩ := num_cells N; obtain ⟨z0, z1, z2, z3, z4, z5, z6, z7, z8⟩ := num_free N)); rw [hv.out, hv2.out] at hv3 ⊢; replace hv3 := Lib.hid hv3; have ho : (false || false || decide (340282366920938463463374607431768211456 ≤ wh ah al + wh bh bl)) = false := (by rw [decide_eq_false (by rw [h.out]; exact Nat.not_le_of_lt hx.out)]; rfl); rw [ho]; unfold numV))
    all_goals
      go_wp2_with fail
      go_meet
      first
        | (rw [nine_fold' N F false]; exact ⟨_, F, rfl, hf, hv3.out, T3.nine hg F false, hg, nine_blk F false N⟩)
        | exact ⟨x3.heap.size, F, rfl, hf, hv3.out, T3.more (below_alloc1 _ _), T3.2.lt, alloc_num x3 F false⟩
  case rest =>
    obtain ⟨g, F, rfl, hf, hv, T, hg, b⟩ := hcut
    replace hv := Lib.hid hv
    obtain ⟨c0, c1, c2, c3, c4, c5, c6, c7, c8⟩ := num_cells b
    go_wp2_with fail
    have hv2 : val F = wh sh sl := by rw [hv.out, h.out]; exact Nat.mod_eq_of_lt hx.out
    clear hv c0 c1 c2 c3 c4 c5 c6 c7 c8
    refine (nwide_h F false sh sl hf s5 s6 hv2 _).mono ?_
    rintro e v1 ⟨rfl, b1⟩
    replace T := T.more b1
    clear b1 b hv2
    have z0 : v1.cell? ⟨w.heap.size + 1 + 1, 0, none⟩ = some (.int .u64 0) := T.2.cell 0
    have z1 : v1.cell? ⟨w.heap.size + 1 + 1, 1, none⟩ = some (.int .u64 0) := T.2.cell 1
    have f0 := T.2.frozen 0
    have f1 := T.2.frozen 1
    go_wp2
    have B9 := (T.1.1.setCell (p := ⟨w.heap.size + 1 + 1, 0, none⟩) (by simp; omega) (.int .u64 (sh : Int))).setCell (p := ⟨w.heap.size + 1 + 1, 1, none⟩) (by simp; omega) (.int .u64 (sl : Int))
    have b9 := pair_set (u := .int .u64 (sh : Int)) (v := .int .u64 (sl : Int)) T.2
    generalize ((v1.setCell ⟨w.heap.size + 1 + 1, 0, none⟩ _).setCell ⟨w.heap.size + 1 + 1, 1, none⟩ _) = w9 at *
    have k0 : w9.cell? ⟨w.heap.size + 1 + 1, 0, none⟩ = some (.int .u64 (sh : Int)) := b9.cell 0
    have k1 : w9.cell? ⟨w.heap.size + 1 + 1, 1, none⟩ = some (.int .u64 (sl : Int)) := b9.cell 1
    refine bodyPost_ret (v := .tuple #[.agg #[.int .u64 (sh : Int), .int .u64 (sl : Int)], .int .i64 0]) (by simp [results, Try.results39, go_sem, k0, k1]) rfl ?_
    exact ⟨rfl, B9⟩
end Go.Proofs.Ytiamppbgpoffmaa
