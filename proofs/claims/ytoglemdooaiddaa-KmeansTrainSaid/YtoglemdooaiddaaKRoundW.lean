/- The contract of the closure that makes a round (kmeans.Train$1): the walk. -/
import Derived.Test.YtoglemdooaiddaaKRound
namespace Go.Proofs.Ytoglemdooaiddaa
open Go.RowKit
set_option linter.unusedVariables false

theorem row_info : (Try.prog.info? 30).map (fun i => (i.zero, i.size, i.bytes)) = some (some (.slice none 0 0), 1, 24) := by kernel_rfl
theorem int_info2 : (Try.prog.info? 3).map (fun i => (i.zero, i.size, i.bytes)) = some (some (.int .i64 0), 1, 8) := by kernel_rfl
theorem make_rows (n : Nat) (hn : n ≤ 512) (w : World) : (Instr.makeSlice 22 (.int .i64 (n : Int)) (.int .i64 (n : Int))).run Try.prog w = .ok (.slice (some ⟨w.heap.size, 0, none⟩) n n) (w.alloc (.cells (rows0 n) 30)) :=
  run_make_rows 22 30 Try.underlying22 row_info n (by omega) w
theorem make_ints (n : Nat) (hn : n ≤ 512) (w : World) : (Instr.makeSlice 30 (.int .i64 (n : Int)) (.int .i64 (n : Int))).run Try.prog w = .ok (.slice (some ⟨w.heap.size, 0, none⟩) n n) (w.alloc (.cells (ints (List.replicate n 0)) 3)) :=
  run_make_ints 30 3 Try.underlying30 int_info2 n (by omega) w

/-- What the last region reads. -/
def RegS (bc gc i n : Nat) (w : World) (gi g2 ki k2 k kc d : Nat) (s q : Int) (w' : World) : Prop := w'.cell? ⟨bc, 0, none⟩ = some (.slice (some ⟨gc, 0, none⟩) k kc) ∧ w'.cell? ⟨gc, i, none⟩ = some (.slice (some ⟨gi, 0, none⟩) d ki) ∧
  w'.cell? ⟨w.heap.size, i, none⟩ = some (.slice (some ⟨g2, 0, none⟩) d k2) ∧ w'.cell? ⟨g2, n, none⟩ = some (.int .i64 s) ∧ w'.cell? ⟨w.heap.size + 1, i, none⟩ = some (.int .i64 q)
theorem RegS.set_ {bc gc i n : Nat} {w : World} {gi g2 ki k2 k kc d : Nat} {s q : Int} {w' : World} (h : RegS bc gc i n w gi g2 ki k2 k kc d s q w') (x : Int) (h1 : bc ≠ gi) (h2 : gc ≠ gi) (h3 : gi < w.heap.size) (h4 : gi ≠ g2) :
    RegS bc gc i n w gi g2 ki k2 k kc d s q (w'.setCell ⟨gi, n, none⟩ (.int .i64 x)) := by
  obtain ⟨a1, a2, a3, a4, a5⟩ := h
  exact ⟨by rw [World.cell?_setCell_other _ _ _ _ (fun e => h1 (by injection e with e1; exact e1.symm))]; exact a1,
    by rw [World.cell?_setCell_other _ _ _ _ (fun e => h2 (by injection e with e1; exact e1.symm))]; exact a2,
    by rw [World.cell?_setCell_other _ _ _ _ (fun e => by injection e; omega)]; exact a3,
    by rw [World.cell?_setCell_other _ _ _ _ (fun e => h4 (by injection e))]; exact a4,
    by rw [World.cell?_setCell_other _ _ _ _ (fun e => by injection e; omega)]; exact a5⟩

/-- What stands behind a round. -/
def RoundPost (w : World) (B gc : Nat) (G K : Nat → Nat) (cs l : List (List Int)) (d : Nat) (e : Ending) (w' : World) : Prop :=
  (∃ v, e = .returned v) ∧ Below B w w' ∧ Off w w' cs.length G ∧ Grid w' B gc G K (nextN cs l d)

set_option maxRecDepth 100000 in
set_option maxHeartbeats 8000000 in
theorem round_any (bk bd bl bc gc B d : Nat) (G K : Nat → Nat) (cs l : List (List Int)) (A : Option Addr) (cl kc : Nat) (w : World)
    (h64 : cs.length ≤ 64) (hk1 : 1 ≤ cs.length) (hd1 : 1 ≤ d) (hd64 : d ≤ 64) (hl : l.length ≤ 512) (hcl : CoordAll l d) (hcc : CoordAll cs d)
    (ck : w.cell? ⟨bk, 0, none⟩ = some (.int .i64 (cs.length : Int))) (cd : w.cell? ⟨bd, 0, none⟩ = some (.int .i64 (d : Int))) (cll : w.cell? ⟨bl, 0, none⟩ = some (.slice A l.length cl)) (cc : w.cell? ⟨bc, 0, none⟩ = some (.slice (some ⟨gc, 0, none⟩) cs.length kc))
    (hg : Grid w B gc G K cs) (hm : Mat w A l) (hsep : ∀ i, i < cs.length → bk ≠ G i ∧ bd ≠ G i ∧ bc ≠ G i) :
    Calls Try.prog 28 #[.pointer (some ⟨bk, 0, none⟩), .pointer (some ⟨bd, 0, none⟩), .pointer (some ⟨bl, 0, none⟩), .pointer (some ⟨bc, 0, none⟩)] w (RoundPost w B gc G K cs l d) := by
  have R0 := RoundS.start w cs.length G K
  have m1 := make_rows cs.length (by omega)
  have m2 := make_ints cs.length (by omega)
  have m3 := make_ints d (by omega)
  have p0 : (cs.length : Int) ≤ 64 := by omega
  have p1 : (d : Int) ≤ 64 := by omega
  replace hcl := Lib.hid hcl
  replace hcc := Lib.hid hcc
  replace hsep := Lib.hid hsep
  have ck1 := below_cell (below_alloc1 w (.cells (rows0 cs.length) 30)) ck
  have ck2 := below_cell R0.below ck
  go_enter Try.func28, Try.ntmps28
  go_wp2_with fail
  clear ck1 ck2 m1 m2
  generalize ((w.alloc (Obj.cells (rows0 cs.length) 30)).alloc (Obj.cells (ints (List.replicate cs.length 0)) 3)) = w0 at *
  go_loopw [19] (fun i wr => ∃ (j : Nat) (G2 K2 : Nat → Nat), j ≤ cs.length ∧ i = .int .i64 (j : Int) ∧ RoundS w wr cs.length G2 K2 (List.replicate j (List.replicate d 0)) (List.replicate cs.length 0)) (fun i _ => cs.length - (intOf i).toNat)
  case atStart => exact ⟨0, G, K, Nat.zero_le _, rfl, R0⟩
  case round =>
    clear R0
    obtain ⟨j, G2, K2, hj, rfl, hR⟩ := hrel
    by_cases hlt : j < cs.length
    · have q0 : (0 : Int) ≤ (j : Int) := by omega
      have q1 : (j : Int) < (cs.length : Int) := by omega
      have c1 := below_cell hR.below cd
      have c2 := hR.rest j (by simp) hlt
      have f2 := hR.grid.free j
      have l2 := hR.grid.lt
      have n2 : ¬ w.heap.size = wr.heap.size := by omega
      have hR2 := hR.row d (by simpa using hlt)
      rw [List.length_replicate, ← List.replicate_succ', keepAlloc_set l2] at hR2
      clear ck cd cll cc
      go_wp2_with fail
      exact ⟨⟨j + 1, _, _, by omega, by go_num, hR2⟩, by simp [intOf]; omega⟩
    · obtain rfl : j = cs.length := by omega
      rw [← sumsP_start cs l d, ← manyL_start cs l] at hR
      have c1 := below_cell hR.below cll
      clear m3
      go_wp2_with fail
      clear c1
      go_loopw [30] (fun i wr => ∃ (j : Nat), j ≤ l.length ∧ i = .int .i64 (j : Int) ∧ RoundS w wr cs.length G2 K2 (sumsP cs l d j 0) (manyL cs l j)) (fun i _ => l.length - (intOf i).toNat)
      case atStart => exact ⟨0, Nat.zero_le _, rfl, hR⟩
      case round =>
        clear hR
        obtain ⟨j, hj, rfl, hR⟩ := hrel
        by_cases hlt2 : j < l.length
        · obtain ⟨g2, o2, R2, rc2, hA, hc2, hRw⟩ := hm j hlt2
          have q0 : (0 : Int) ≤ (j : Int) := by omega
          have q1 : (j : Int) < (l.length : Int) := by omega
          have e2 : (mrow l j).length = d := (hcl.out j hlt2).1
          have hN := Lib.hid (near_any (some ⟨gc, 0, none⟩) cs kc R2 (mrow l j) rc2 (by rw [e2]; exact hcc.out.ok hd1 hd64) (by rw [e2]; exact hcl.out.ok hd1 hd64 j hlt2) h64 wr (hg.below hR.below).mat (hRw.below hR.below))
          have hat : (nearN cs (mrow l j)).1 < cs.length := nearN_lt cs _ (by omega)
          have hsN := Lib.hid (manyL_step (l := l) hat)
          have hsS := Lib.hid (fun n (hn : n < d) => sumsP_step (l := l) (d := d) hat hn)
          have hq := manyTo_le cs l (nearN cs (mrow l j)).1 j
          have hnm := nth_manyL (l := l) (j := j) hat
          obtain ⟨D, hD⟩ : ∃ D, (nearN cs (mrow l j)).2 = D := ⟨_, rfl⟩
          rw [hD] at hN
          generalize (nearN cs (mrow l j)).1 = a at *
          generalize manyTo cs l a j = q at *
          clear hD
          have c1 := below_cell hR.below cc
          have c2 := below_cell hR.below hc2
          rw [e2] at c2 hN
          subst hA
          go_wp2_with fail
          with_reducible refine hN.out.mono ?_
          rintro e w3 ⟨rfl, hb⟩
          clear c1 c2 hN
          have S3 := hR.more hb
          have c3 := S3.many.nth a (by rw [manyL_length]; exact hat)
          have f3 := S3.many.frozen a
          rw [hnm] at c3
          have l3 := S3.many.lt
          have n3 : ¬ w.heap.size + 1 = w3.heap.size := by omega
          have a0 : (0 : Int) ≤ (a : Int) := by omega
          have a1 : (a : Int) < (cs.length : Int) := by omega
          have qq : (q : Int) ≤ 512 := by omega
          go_upto_region 12 with fail
          have S4 := (S3.more (below_alloc1 w3 (.cells #[.int .u64 (hiN D : Int), .int .u64 (loN D : Int)] 34))).count a ((q : Int) + 1)
          rw [hsN.out, keepAlloc_set l3] at S4
          generalize ((w3.setCell ⟨w.heap.size + 1, a, none⟩ (.int .i64 ((q : Int) + 1))).alloc (Obj.cells #[.int .u64 (hiN D : Int), .int .u64 (loN D : Int)] 34)) = w4 at *
          have c4 := below_cell S4.below cd
          clear c3 f3 n3 l3 S3 hb hR hsN hq hnm qq
          go_wp2_with fail
          clear c4
          go_loopw [47] (fun i wx => ∃ (n : Nat), n ≤ d ∧ i = .int .i64 (n : Int) ∧ RoundS w wx cs.length G2 K2 (sumsP cs l d j n) (manyL cs l (j + 1))) (fun i _ => d - (intOf i).toNat)
          case atStart => exact ⟨0, Nat.zero_le _, rfl, S4⟩
          case round =>
            clear S4
            obtain ⟨n, hn, rfl, hX⟩ := hrel
            by_cases hlt3 : n < d
            · have r0 : (0 : Int) ≤ (n : Int) := by omega
              have r1 : (n : Int) < (d : Int) := by omega
              obtain ⟨g3, o3, hA3, hc3⟩ := hRw n (by omega)
              have hla : a < (sumsP cs l d j n).length := by rw [sumsP_length]; exact hat
              have hla2 : (mrow (sumsP cs l d j n) a).length = d := mrow_sumsP_length hat
              have t1 := hX.grid.top a hla
              rw [hla2] at t1
              have t2 := hX.grid.row a hla n (by omega)
              rw [nth_sumsP hat hlt3, if_neg (Nat.lt_irrefl _)] at t2
              have t3 := hX.grid.rowFree a hla n
              have t4 := below_cell hX.below hc3
              have hw : Hid (wrap64 (sumTo cs l a n j + nth (mrow l j) n) = sumTo cs l a n j + nth (mrow l j) n) := Lib.hid (wrap_of (by
                have h1 := sum_ok (cs := cs) (c := a) hcl.out hlt3 (i := j) (by omega) hl
                have h2 := sum_ok (cs := cs) (c := a) hcl.out hlt3 (i := j + 1) (by omega) hl
                have h3 := (hcl.out j hlt2).2 n hlt3
                have h4 := sumTo_bound (cs := cs) (c := a) (x := n) (lo := -2147483647) (hi := 2147483647) j (fun i hi => (hcl.out i (by omega)).2 n hlt3)
                have h5 := manyTo_le cs l a j
                unfold SumOk
                omega))
              have hX2 := hX.drew.put hla (by omega : n < (mrow (sumsP cs l d j n) a).length) (sumTo cs l a n j + nth (mrow l j) n)
              rw [hsS.out n hlt3] at hX2
              subst hA3
              generalize sumTo cs l a n j = s at *
              generalize nth (mrow l j) n = v at *
              have hw2 := hw.out
              clear hla hla2 hw
              go_wp2_with fail
              go_region
              go_wp2_with fail
              exact ⟨⟨n + 1, by omega, by go_num, hX2⟩, by simp [intOf]; omega⟩
            · obtain rfl : n = d := by omega
              rw [sumsP_full] at hX
              go_wp2_with fail
              exact ⟨⟨j + 1, by omega, by go_num, hX⟩, by simp [intOf]; omega⟩
        · obtain rfl : j = l.length := by omega
          have T0 : RoundT w wr B gc G K G2 K2 (nextP cs l d 0 0) (sumsP cs l d l.length 0) (manyL cs l l.length) := by
            rw [nextP_start hcc.out]
            exact { below := ⟨hR.below.os, hR.below.tape, hR.below.output, hR.below.size, fun b hb => hR.below.block b (Nat.lt_of_lt_of_le hb (Nat.le_trans hg.lo (Nat.le_of_lt hg.lt)))⟩
                    off := Off.of_below hR.below, grid := hg.below hR.below, sums := hR.grid, many := hR.many, old := fun i hi => (hg.new i hi).2.1 }
          have c1 := below_cell hR.below ck
          go_wp2_with fail
          clear c1 hR
          go_loopw [66] (fun i wr => ∃ (i' : Nat), i' ≤ cs.length ∧ i = .int .i64 (i' : Int) ∧ RoundT w wr B gc G K G2 K2 (nextP cs l d i' 0) (sumsP cs l d l.length 0) (manyL cs l l.length)) (fun i _ => cs.length - (intOf i).toNat)
          case atStart => exact ⟨0, Nat.zero_le _, rfl, T0⟩
          case round =>
            clear T0
            obtain ⟨i, hi, rfl, hT⟩ := hrel
            by_cases hlt3 : i < cs.length
            · have r0 : (0 : Int) ≤ (i : Int) := by omega
              have r1 : (i : Int) < (cs.length : Int) := by omega
              have c1 := hT.off.cell cd (fun x hx => (hsep.out x (by rwa [nextP_length] at hx)).2.1)
              go_wp2_with fail
              clear c1
              go_loopw [70] (fun z wx => ∃ (n : Nat), n ≤ d ∧ z = .int .i64 (n : Int) ∧ RoundT w wx B gc G K G2 K2 (nextP cs l d i n) (sumsP cs l d l.length 0) (manyL cs l l.length)) (fun z _ => d - (intOf z).toNat)
              case atStart => exact ⟨0, Nat.zero_le _, rfl, hT⟩
              case round =>
                clear hT
                obtain ⟨n, hn, rfl, hT⟩ := hrel
                by_cases hlt4 : n < d
                · have r2 : (0 : Int) ≤ (n : Int) := by omega
                  have r3 : (n : Int) < (d : Int) := by omega
                  have c1 := hT.many.nth i (by rw [manyL_length]; exact hlt3)
                  rw [nth_manyL hlt3] at c1
                  by_cases hm0 : manyTo cs l i l.length = 0
                  · have hT2 := hT
                    rw [nextP_none hm0] at hT2
                    rw [hm0] at c1
                    go_wp2_with fail
                    exact ⟨⟨n + 1, by omega, by go_num, hT2⟩, by simp [intOf]; omega⟩
                  · have q1 : (0 : Int) < (manyTo cs l i l.length : Int) := by omega
                    have hla : i < (sumsP cs l d l.length 0).length := by rw [sumsP_length]; exact hlt3
                    have hla2 : (mrow (sumsP cs l d l.length 0) i).length = d := mrow_sumsP_length hlt3
                    have hlb : i < (nextP cs l d i n).length := by rw [nextP_length]; exact hlt3
                    have hlb2 : (mrow (nextP cs l d i n) i).length = d := mrow_nextP_length hlt3
                    have c2 := hT.off.cell cc (fun x hx => (hsep.out x (by rwa [nextP_length] at hx)).2.2)
                    have t1 := hT.grid.top i hlb
                    rw [hlb2] at t1
                    have t2 := hT.grid.row i hlb n (by omega)
                    have t3 := hT.grid.rowFree i hlb n
                    have t4 := hT.sums.top i hla
                    rw [hla2] at t4
                    have t5 := hT.sums.row i hla n (by omega)
                    rw [nth_sums hlt3 hlt4] at t5
                    have hD := Lib.hid (down_any (sumTo cs l i n l.length) (manyTo cs l i l.length : Int) (sum_ok hcl.out hlt4 (Nat.le_refl _) hl) q1)
                    have hT2 := hT.drew.put hlb (by omega : n < (mrow (nextP cs l d i n) i).length) (sumTo cs l i n l.length / (manyTo cs l i l.length : Int))
                    rw [nextP_step hlt3 hlt4 hm0] at hT2
                    have S0 : RegS bc gc i n w (G i) (G2 i) (K i) (K2 i) cs.length kc d (sumTo cs l i n l.length) (manyTo cs l i l.length : Int) wr.drew := ⟨c2, t1, t4, t5, c1⟩
                    have S1 := S0.set_ (gi := G i) (n := n) (sumTo cs l i n l.length / (manyTo cs l i l.length : Int)) (fun e => (hsep.out i hlt3).2.2 e) (fun e => (hT.grid.new i hlb).2.2 e.symm) (by have := hT.old i hlb; omega) (by have := hT.old i hlb; have := (hT.sums.new i hla).1; omega)
                    clear hla hla2 hlb hlb2
                    go_wp2_with fail
                    go_region_held3 (fun w' => w'.cell? ⟨bc, 0, none⟩ = some (.slice (some ⟨gc, 0, none⟩) cs.length kc) ∧ w'.cell? ⟨gc, i, none⟩ = some (.slice (some ⟨G i, 0, none⟩) d (K i)) ∧ w'.cell? ⟨w.heap.size, i, none⟩ = some (.slice (some ⟨G2 i, 0, none⟩) d (K2 i)) ∧ w'.cell? ⟨G2 i, n, none⟩ = some (.int .i64 (sumTo cs l i n l.length)) ∧ w'.cell? ⟨w.heap.size + 1, i, none⟩ = some (.int .i64 (manyTo cs l i l.length : Int)))
                      (first | exact S0 | exact S1) (first | (go_at_call 30; (with_reducible refine (hD.out _).mono ?_); rintro e w2 ⟨rfl, rfl⟩))
                    go_wp2_with fail
                    exact ⟨⟨n + 1, by omega, by go_num, hT2⟩, by simp [intOf]; omega⟩
                · obtain rfl : n = d := by omega
                  rw [nextP_row] at hT
                  go_wp2_with fail
                  exact ⟨⟨i + 1, by omega, by go_num, hT⟩, by simp [intOf]; omega⟩
            · obtain rfl : i = cs.length := by omega
              rw [nextP_full hcc.out] at hT
              go_wp2_with fail
              go_end0
              exact ⟨⟨_, rfl⟩, hT.below, by have h := hT.off; rwa [nextN_length] at h, hT.grid⟩
end Go.Proofs.Ytoglemdooaiddaa
