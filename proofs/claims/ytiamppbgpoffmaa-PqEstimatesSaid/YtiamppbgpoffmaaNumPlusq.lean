/- The contract of the document's plus. -/
import Derived.Test.YtiamppbgpoffmaaQRefA
namespace Go.Proofs.Ytiamppbgpoffmaa
open Go.RowKit
set_option linter.unusedVariables false

set_option maxRecDepth 100000 in
set_option maxHeartbeats 4000000 in
theorem nplus_any (D : List Nat) (o : Bool) (i v : Nat) (hD : Dig D) (hi : i ≤ 20) (hv : Sml v) (w : World) :
    Calls Try.prog 68 #[numV D o, .int .i64 (i : Int), .int .i64 (v : Int)] w (PlusPost w D o (val D + v * 65536 ^ i)) := by
  obtain ⟨T, hT⟩ : ∃ T : Nat, T = val D + v * 65536 ^ i := ⟨_, rfl⟩
  rw [← hT]
  have hC : Carry D v i T := ⟨hD, hT.symm⟩
  replace hT := Lib.hid hT
  replace hC := Lib.hid hC
  unfold numV
  go_enter Try.func68, Try.ntmps68
  go_wp2
  go_loopw [7, 2] (fun iv vv wr => ∃ (j v' : Nat) (D' : List Nat), iv = .int .i64 (j : Int) ∧ vv = .int .i64 (v' : Int) ∧ j ≤ 20 ∧ Sml v' ∧ Carry D' v' j T ∧ Below w.heap.size w wr ∧ Blk wr w.heap.size 75 (numC D' o) ∧
      Blk wr (w.heap.size + 1) 75 (numC [] false)) (fun iv _ _ => 20 - (intOf iv).toNat)
  case atStart =>
    have hb := Blk.new (w.alloc (.cells (numC D o) 75)) 75 (numC [] false)
    have e : (w.alloc (.cells (numC D o) 75)).heap.size = w.heap.size + 1 := by simp
    rw [e] at hb
    exact ⟨i, v, D, rfl, rfl, hi, hv, hC.out, ((Below.refl _ _).alloc (Nat.le_refl _) _).alloc (by simp) _, (Blk.new _ _ _).alloc _, hb⟩
  case round =>
    obtain ⟨j, v', D', rfl, rfl, hj, hv', hC', hB, bn, br⟩ := hrel
    clear hC
    by_cases h0 : v' = 0
    · subst h0
      obtain ⟨c0, c1, c2, c3, c4, c5, c6, c7, c8⟩ := num_cells bn
      obtain ⟨h1, h2⟩ := hC'.done
      have hd := hC'.1
      obtain ⟨r0, r1, r2, r3, r4, r5, r6, r7, r8⟩ := num_cells br
      obtain ⟨z0, z1, z2, z3, z4, z5, z6, z7, z8⟩ := num_free br
      replace h1 := Lib.hid h1
      replace h2 := Lib.hid h2
      replace hd := Lib.hid hd
      clear hC' hD
      go_wp2
      rw [nine_fold wr (w.heap.size + 1) D' o]
      have b9 := nine_blk D' o br
      have B9 := nine_below D' o hB (Nat.le_succ _)
      generalize nine wr (w.heap.size + 1) D' o = w9 at *
      obtain ⟨y0, y1, y2, y3, y4, y5, y6, y7, y8⟩ := num_cells b9
      refine bodyPost_ret (v := numV D' o) (by simp [results, Try.results68, go_sem, y0, y1, y2, y3, y4, y5, y6, y7, y8, numV]) rfl ?_
      refine ⟨D', ?_, hd.out, h1.out, B9⟩
      rw [decide_eq_false (by have := h2.out; omega), Bool.or_false]
    · have v0 : (0 : Int) < (v' : Int) := by omega
      by_cases hj8 : j < 8
      · have j0 : (0 : Int) ≤ (j : Int) := by omega
        have j8 : (j : Int) < 8 := by omega
        have cj : wr.cell? ⟨w.heap.size, j, none⟩ = some (.int .i64 (nthN D' j : Int)) := (bn.cell j).trans (numC_at D' o j hj8)
        have fj := bn.frozen j
        have hd := hC'.1.2 j
        have hst := hC'.step hj8 rfl
        have hl := hC'.1.1
        obtain ⟨d, hdd⟩ : ∃ d, d = nthN D' j := ⟨_, rfl⟩
        rw [← hdd] at cj hd hst
        have d0 : (0 : Int) ≤ (d : Int) := by omega
        obtain ⟨s, hs⟩ : ∃ s : Nat, s = v' + d := ⟨_, rfl⟩
        rw [← hs] at hst
        have hw := hv'.wrap hd hs
        have hs4 := hv'.quot hd hs
        obtain ⟨x, hx⟩ : ∃ x : Nat, x = s % 65536 := ⟨_, rfl⟩
        obtain ⟨y, hy⟩ : ∃ y : Nat, y = s / 65536 := ⟨_, rfl⟩
        have hty := hv'.tdiv hd hs hy
        have htx := tmod_nat s x hx
        have hty2 := hv'.div2 hd hs hy
        have htx2 := mod_nat s x hx
        replace hty := Lib.hid hty
        replace htx := Lib.hid htx
        rw [← hx, ← hy] at hst
        rw [← hy] at hs4
        replace hx := Lib.hid hx
        replace hy := Lib.hid hy
        replace hdd := Lib.hid hdd
        replace hs := Lib.hid hs
        replace hst := Lib.hid hst
        replace hl := Lib.hid hl
        clear hC' hD hd h0
        go_wp2
        exact ⟨⟨j + 1, y, D'.set j x, rfl, by first | rfl | rw [hty2], by omega, hs4, hst.out, hB.setCell (Nat.le_refl _) _, numC_set D' o j x hl.out hj8 ▸ bn.set_ j _, br.far (by simp) _⟩, by simp [intOf]; omega⟩
      · have j8 : (8 : Int) ≤ (j : Int) := by omega
        obtain ⟨c0, c1, c2, c3, c4, c5, c6, c7, c8⟩ := num_cells bn
        have f8 := bn.frozen 8
        obtain ⟨r0, r1, r2, r3, r4, r5, r6, r7, r8⟩ := num_cells br
        obtain ⟨z0, z1, z2, z3, z4, z5, z6, z7, z8⟩ := num_free br
        obtain ⟨h1, h2⟩ := hC'.over (by omega) (by omega)
        have hd := hC'.1
        have b1 : Blk (wr.setCell ⟨w.heap.size, 8, none⟩ (.bool true)) w.heap.size 75 (numC D' true) := numC_over D' o true ▸ bn.set_ 8 _
        have b2 := br.far (p := ⟨w.heap.size, 8, none⟩) (by simp) (.bool true)
        have B1 := hB.setCell (p := ⟨w.heap.size, 8, none⟩) (Nat.le_refl _) (.bool true)
        replace h1 := Lib.hid h1
        replace h2 := Lib.hid h2
        replace hd := Lib.hid hd
        clear hC' hD h0 hj8
        go_wp2
        rw [nine_fold (wr.setCell ⟨w.heap.size, 8, none⟩ (.bool true)) (w.heap.size + 1) D' true]
        have b9 := nine_blk D' true b2
        have B9 := nine_below D' true B1 (Nat.le_succ _)
        generalize nine (wr.setCell ⟨w.heap.size, 8, none⟩ (.bool true)) (w.heap.size + 1) D' true = w9 at *
        obtain ⟨y0, y1, y2, y3, y4, y5, y6, y7, y8⟩ := num_cells b9
        refine bodyPost_ret (v := numV D' true) (by simp [results, Try.results68, go_sem, y0, y1, y2, y3, y4, y5, y6, y7, y8, numV]) rfl ?_
        refine ⟨D', ?_, hd.out, h1.out, B9⟩
        rw [decide_eq_true h2.out, Bool.or_true]
end Go.Proofs.Ytiamppbgpoffmaa
