/- The contract of theodoliteref06.round: the centres behind a round. -/
import Derived.Test.YtoglemdooaiddaaKRefRoundP
import Derived.Test.YtoglemdooaiddaaKRoundW
namespace Go.Proofs.Ytoglemdooaiddaa
open Go.RowKit
set_option linter.unusedVariables false

/-- What stands behind the document's round, or its training. -/
def MatPost (P : Nat → Prop) (w : World) (m : List (List Int)) (e : Ending) (w' : World) : Prop := ∃ g c, e = .returned (.slice (some ⟨g, 0, none⟩) m.length c) ∧ MatP P w' (some ⟨g, 0, none⟩) m ∧ Below w.heap.size w w'
/-- The sums' block. -/
def SumS (w0 wr : World) (L : List Int) : Prop := Below w0.heap.size w0 wr ∧ Blk wr w0.heap.size 3 (ints L)
theorem SumS.start (w0 : World) (L : List Int) : SumS w0 (w0.alloc (.cells (ints L) 3)) L := ⟨below_alloc1 _ _, Blk.new _ _ _⟩
theorem SumS.put {w0 wr : World} {L : List Int} (h : SumS w0 wr L) (i : Nat) (x : Int) : SumS w0 (wr.setCell ⟨w0.heap.size, i, none⟩ (.int .i64 x)) (L.set i x) := ⟨h.1.setCell (p := ⟨w0.heap.size, i, none⟩) (Nat.le_refl _) _, h.2.setInt i x⟩
theorem SumS.drew {w0 wr : World} {L : List Int} (h : SumS w0 wr L) : SumS w0 wr.drew L := ⟨h.1.drew, h.2⟩

set_option maxRecDepth 100000 in
set_option maxHeartbeats 8000000 in
theorem rround_any (P : Nat → Prop) (A : Option Addr) (cs : List (List Int)) (c : Nat) (L : Option Addr) (l : List (List Int)) (cl d : Nat) (w : World) (hm : MatP P w A cs) (hl : Mat w L l) (hP : ∀ b, w.heap.size ≤ b → P b)
    (h64 : cs.length ≤ 64) (hk1 : 1 ≤ cs.length) (hd1 : 1 ≤ d) (hd64 : d ≤ 64) (hl1 : 1 ≤ l.length) (hl2 : l.length ≤ 512) (hcl : CoordAll l d) (hcc : CoordAll cs d) :
    Calls Try.prog 34 #[.slice A cs.length c, .slice L l.length cl] w (MatPost P w (nextN cs l d)) := by
  replace hcl := Lib.hid hcl
  replace hcc := Lib.hid hcc
  replace hP := Lib.hid hP
  have m3 := make_ints d (by omega)
  go_enter Try.func34, Try.ntmps34
  go_wp2_with fail
  go_loopw [5, 6] (fun o i wr => ∃ j : Nat, j ≤ l.length ∧ i = .int .i64 (j : Int) ∧ wr.ownsRow w.heap.size 3 1 o j (vals (whereL cs l j)) ∧ Below w.heap.size w wr) (fun _ i _ => l.length - (intOf i).toNat)
  case atStart => exact ⟨0, Nat.zero_le _, rfl, World.ownsRow_nil _ _ _ _, Below.refl _ _⟩
  case round =>
    obtain ⟨j, hj, rfl, HO, HB⟩ := hrel
    by_cases hlt : j < l.length
    · obtain ⟨g, o, R, rc, rfl, hc1, hR⟩ := hl j hlt
      have q0 : (0 : Int) ≤ (j : Int) := by omega
      have q1 : (j : Int) < (l.length : Int) := by omega
      have e2 : (mrow l j).length = d := (hcl.out j hlt).1
      have hN := Lib.hid (rnear_any A cs c R (mrow l j) rc (by rw [e2]; exact hcc.out.ok hd1 hd64) (by rw [e2]; exact hcl.out.ok hd1 hd64 j hlt) hk1 h64 wr (hm.mat.below HB) (hR.below HB))
      have hsW := whereL_succ cs l j
      replace hsW := Lib.hid hsW
      generalize nearN cs (mrow l j) = N at *
      obtain ⟨a, D⟩ := N
      have c1 := below_cell HB hc1
      clear e2 m3
      go_wp2_with fail
      with_reducible refine hN.out.mono ?_
      rintro e w3 ⟨rfl, hb⟩
      have HO3 := (HO.kept (grown_of_below hb none) (by simp; exact Classical.em _)).alloc (.cells #[.int .u64 (hiN D : Int), .int .u64 (loN D : Int)] 34)
      have HB3 := below_chain HB hb HB.size
      have HB4 := below_chain HB3 (below_alloc1 w3 (.cells #[.int .u64 (hiN D : Int), .int .u64 (loN D : Int)] 34)) HB3.size
      have hz := HB4.size
      clear c1 hN hb HO
      go_upto_region 6 with fail
      generalize w3.alloc (.cells #[.int .u64 (hiN D : Int), .int .u64 (loN D : Int)] 34) = w4 at *
      go_wp2_with (at_builtin; refine append_one w.heap.size rfl (.tmp 32) (.tmp 34) _ 3 (.int .i64 0) 8 rfl Try.underlying30 int_info' rfl (by omega) u5 j _ (.int .i64 (a : Int)) rfl rfl rfl HO3 hz (by omega) ?_; intro v1 w1 HO1 hg1 hat1)
      rw [vals_snoc, hsW.out] at HO1
      have HB1 := below_of_grown HB4 hg1 (fun q hq => (own_lt' HO3 q hq).1)
      exact ⟨⟨j + 1, by omega, by go_num, HO1, HB1⟩, by simp [intOf]; omega⟩
    · obtain rfl : j = l.length := by omega
      obtain ⟨gw, cw, rfl, hgw1, hgw2⟩ := own_shape HO (by omega)
      have hW : Row wr (some ⟨gw, 0, none⟩) (whereL cs l l.length) := fun x hx => ⟨gw, 0, rfl, by rw [Nat.zero_add]; exact own_int HO x (by rwa [whereL_length] at hx)⟩
      go_wp2_with fail
      obtain ⟨x0, hx0⟩ : ∃ x, x = wr := ⟨_, rfl⟩
      subst hx0
      have hw1 : Hid (∀ i, i < l.length → x0.cell? ⟨gw, i, none⟩ = some (.int .i64 ((nearN cs (mrow l i)).1 : Int))) := Lib.hid (fun i hi => by rw [own_int HO i hi, nth_whereL hi])
      clear HO hW
      go_loopw [9, 10] (fun o i wr => ∃ c' : Nat, c' ≤ cs.length ∧ i = .int .i64 (c' : Int) ∧ OutS P x0.heap.size wr o c' (nextN cs l d) ∧ Below x0.heap.size x0 wr) (fun _ i _ => cs.length - (intOf i).toNat)
      case atStart => exact ⟨0, Nat.zero_le _, rfl, OutS.start _ _ _ _, Below.refl _ _⟩
      case round =>
        obtain ⟨c', hc', rfl, hOut, B3⟩ := hrel
        have B4 := below_chain HB B3 HB.size
        by_cases hlt2 : c' < cs.length
        · obtain ⟨x1, hx1⟩ : ∃ x, x = wr := ⟨_, rfl⟩
          subst hx1
          obtain ⟨g, o, R, rc, hA, hp, hc1, hR⟩ := hm c' hlt2
          have hrl := (hcc.out c' hlt2).1
          obtain ⟨gr, or_, hRr, hpr, hcr⟩ := hR 0 (by omega)
          subst hRr hA
          have hgr : gr < w.heap.size := World.block_lt_of_cell? w _ hcr
          have q0 : (0 : Int) ≤ (c' : Int) := by omega
          have q1 : (c' : Int) < (cs.length : Int) := by omega
          have hlen : (mrow (nextN cs l d) c').length = d := by rw [mrow_nextN _ _ _ _ hlt2, nextRow_length hcc.out hlt2]
          rw [hrl] at hc1
          replace hlen := Lib.hid hlen
          replace hrl := Lib.hid hrl
          have c1 := below_cell B4 hc1
          have S0 := SumS.start x1 (List.replicate d 0)
          rw [rowP_start cs l c' d] at S0
          have hrp := rowP_start cs l c' d
          go_wp2_with fail
          clear c1 hrp
          generalize x1.alloc (.cells (ints (rowP cs l c' d 0 0)) 3) = x2 at *
          go_loopw [11, 13] (fun mm i wr => ∃ i' : Nat, i' ≤ l.length ∧ i = .int .i64 (i' : Int) ∧ mm = .int .i64 (manyTo cs l c' i' : Int) ∧ SumS x1 wr (rowP cs l c' d i' 0)) (fun _ i _ => l.length - (intOf i).toNat)
          case atStart => exact ⟨0, Nat.zero_le _, rfl, rfl, S0⟩
          case round =>
            clear S0
            obtain ⟨i, hi, rfl, rfl, hS⟩ := hrel
            by_cases hlt3 : i < l.length
            · have r0 : (0 : Int) ≤ (i : Int) := by omega
              have r1 : (i : Int) < (l.length : Int) := by omega
              have cw1 := below_cell hS.1 (below_cell B3 (hw1.out i hlt3))
              by_cases hn : (nearN cs (mrow l i)).1 = c'
              · obtain ⟨gl, ol, Rl, rl, hL, hcl1, hRl⟩ := hl i hlt3
                subst hL
                have hll := (hcl.out i hlt3).1
                have hmn := many_step (cs := cs) (l := l) hn
                have hq := manyTo_le cs l c' i
                have hst := Lib.hid (fun n (hd : n < d) => rowP_step (cs := cs) (l := l) (d := d) hn hd)
                rw [hn] at cw1
                rw [hll] at hcl1
                replace hll := Lib.hid hll
                have qq : (manyTo cs l c' i : Int) ≤ 512 := by omega
                replace hmn : Hid ((manyTo cs l c' i : Int) + 1 = (manyTo cs l c' (i + 1) : Int)) := Lib.hid (by rw [hmn, Int.natCast_add]; rfl)
                generalize manyTo cs l c' i = q at *
                clear hn
                go_wp2_with fail
                clear cw1
                go_loopw [14] (fun z wr => ∃ n : Nat, n ≤ d ∧ z = .int .i64 (n : Int) ∧ SumS x1 wr (rowP cs l c' d i n)) (fun z _ => d - (intOf z).toNat)
                case atStart => exact ⟨0, Nat.zero_le _, rfl, hS⟩
                case round =>
                  clear hS
                  obtain ⟨n, hn, rfl, hS⟩ := hrel
                  by_cases hlt4 : n < d
                  · have s0 : (0 : Int) ≤ (n : Int) := by omega
                    have s1 : (n : Int) < (d : Int) := by omega
                    obtain ⟨g7, o7, hA7, hc7⟩ := hRl n (by rw [hll.out]; exact hlt4)
                    subst hA7
                    have B7 := below_chain B4 hS.1 B4.size
                    have t1 := below_cell B7 hcl1
                    have t2 := below_cell B7 hc7
                    have t3 := hS.2.nth n (by rw [rowP_length]; exact hlt4)
                    rw [nth_rowP hlt4, if_neg (Nat.lt_irrefl _)] at t3
                    have t4 := hS.2.frozen n
                    have hw : Hid (wrap64 (sumTo cs l c' n i + nth (mrow l i) n) = sumTo cs l c' n i + nth (mrow l i) n) := Lib.hid (wrap_of (by
                      have h1 := sum_ok (cs := cs) (c := c') hcl.out hlt4 (i := i) (by omega) hl2
                      have h3 := (hcl.out i hlt3).2 n hlt4
                      have h4 := sumTo_bound (cs := cs) (c := c') (x := n) (lo := -2147483647) (hi := 2147483647) i (fun j hj => (hcl.out j (by omega)).2 n hlt4)
                      have h5 := manyTo_le cs l c' i
                      unfold SumOk
                      omega))
                    have hS2 := hS.drew.put n (sumTo cs l c' n i + nth (mrow l i) n)
                    rw [hst.out n hlt4] at hS2
                    generalize sumTo cs l c' n i = s at *
                    generalize nth (mrow l i) n = v at *
                    have hw2 := hw.out
                    clear hw hc7
                    go_wp2_with fail
                    go_region
                    go_wp2_with fail
                    exact ⟨⟨n + 1, by omega, by go_num, hS2⟩, by simp [intOf]; omega⟩
                  · obtain rfl : n = d := by omega
                    rw [rowP_full] at hS
                    go_wp2_with fail
                    exact ⟨⟨i + 1, by omega, by go_num, by rw [hmn.out], hS⟩, by simp [intOf]; omega⟩
              · have hne : (((nearN cs (mrow l i)).1 : Int) != (c' : Int)) = true := by simp; omega
                have hS2 := hS
                rw [rowP_skip hn] at hS2
                have hmn := many_skip (cs := cs) (l := l) hn
                generalize (nearN cs (mrow l i)).1 = a at *
                clear hn
                go_wp2_with fail
                exact ⟨⟨i + 1, by omega, by go_num, by rw [hmn], hS2⟩, by simp [intOf]; omega⟩
            · obtain rfl : i = l.length := by omega
              have c1 := below_cell (below_chain B4 hS.1 B4.size) hc1
              have hx1 : x1.heap.size < wr.heap.size := hS.2.lt
              by_cases hmz : manyTo cs l c' l.length = 0
              · have hnr : mrow (nextN cs l d) c' = mrow cs c' := by rw [mrow_nextN _ _ _ _ hlt2, nextRow, if_pos hmz]
                rw [hmz]
                have B5 := below_chain B3 hS.1 B3.size
                have hw5 : w.heap.size ≤ x0.heap.size := HB.size
                have hrow : RowP P wr (some ⟨gr, or_, none⟩) (mrow (nextN cs l d) c') := by rw [hnr]; exact hR.below (below_chain B4 hS.1 B4.size)
                replace hOut := hOut.below hS.1
                clear hmz
                have hout := hOut.lt
                obtain ⟨xs, HO5, hX⟩ := hOut
                have hz5 := B5.size
                go_wp2_with (at_builtin; refine append_one x0.heap.size rfl (.tmp 105) (.tmp 107) _ 30 (.slice none 0 0) 24 rfl Try.underlying22 row_info rfl (by omega) u9 c' _ (.slice (some ⟨gr, or_, none⟩) d rc) rfl rfl rfl HO5 hz5 (by omega) ?_; intro v1 x6 HO6 hg6 hat6)
                rw [← hlen.out] at HO6
                have hOut6 := OutS.snoc (P := P) HO5 hX HO6 hg6 hat6 hpr (by omega) (fun e => by have := hout gr e; omega) hrow
                have B6 := below_of_grown B5 hg6 (fun q hq => (hout q hq).1)
                exact ⟨⟨c' + 1, by omega, by go_num, hOut6, B6⟩, by simp [intOf]; omega⟩
              · have hnr : mrow (nextN cs l d) c' = meanRow cs l d c' := by rw [mrow_nextN _ _ _ _ hlt2, nextRow, if_neg hmz]
                have m0 : Hid ((0 : Int) < (manyTo cs l c' l.length : Int)) := Lib.hid (by omega)
                have m1 : 0 < manyTo cs l c' l.length := by omega
                rw [divP_start] at hS
                clear hmz
                go_wp2_with fail
                go_loopw [16] (fun z wr => ∃ n : Nat, n ≤ d ∧ z = .int .i64 (n : Int) ∧ SumS x1 wr (divP cs l c' d n)) (fun z _ => d - (intOf z).toNat)
                case atStart => exact ⟨0, Nat.zero_le _, rfl, hS⟩
                case round =>
                  clear hS c1
                  obtain ⟨n, hn, rfl, hS⟩ := hrel
                  by_cases hlt4 : n < d
                  · have s0 : (0 : Int) ≤ (n : Int) := by omega
                    have s1 : (n : Int) < (d : Int) := by omega
                    have t3 := hS.2.nth n (by rw [divP_length]; exact hlt4)
                    rw [nth_divP hlt4, if_neg (Nat.lt_irrefl _)] at t3
                    have t4 := hS.2.frozen n
                    have hD := Lib.hid (rdown_any (sumTo cs l c' n l.length) (manyTo cs l c' l.length : Int) (sum_ok hcl.out hlt4 (Nat.le_refl _) hl2) m0.out)
                    have hS2 := hS.put n (sumTo cs l c' n l.length / (manyTo cs l c' l.length : Int))
                    rw [divP_step hlt4] at hS2
                    go_wp2_with fail
                    with_reducible refine (hD.out _).mono ?_
                    rintro e x7 ⟨rfl, rfl⟩
                    clear hD
                    go_wp2_with fail
                    exact ⟨⟨n + 1, by omega, by go_num, hS2⟩, by simp [intOf]; omega⟩
                  · obtain rfl : n = d := by omega
                    rw [divP_full] at hS
                    have B5 := below_chain B3 hS.1 B3.size
                    have hx2 : x1.heap.size < wr.heap.size := hS.2.lt
                    have hz1 : w.heap.size ≤ x1.heap.size := B4.size
                    have hrow : RowP P wr (some ⟨x1.heap.size, 0, none⟩) (mrow (nextN cs l n) c') := by
                      rw [hnr]
                      exact fun x hx => ⟨x1.heap.size, 0, rfl, hP.out _ hz1, by rw [Nat.zero_add]; exact hS.2.nth x hx⟩
                    have hot := hOut.lt
                    replace hOut := hOut.below hS.1
                    have hout := hOut.lt
                    obtain ⟨xs, HO5, hX⟩ := hOut
                    have hz5 := B5.size
                    go_wp2_with (at_builtin; refine append_one x0.heap.size rfl (.tmp 105) (.tmp 107) _ 30 (.slice none 0 0) 24 rfl Try.underlying22 row_info rfl (by omega) u9 c' _ (.slice (some ⟨x1.heap.size, 0, none⟩) n n) rfl rfl rfl HO5 hz5 (by omega) ?_; intro v1 x6 HO6 hg6 hat6)
                    rw [← hlen.out] at HO6
                    have hOut6 := OutS.snoc (P := P) HO5 hX HO6 hg6 hat6 (hP.out _ hz1) hx2 (fun e => by have := hot _ e; omega) hrow
                    have B6 := below_of_grown B5 hg6 (fun q hq => (hout q hq).1)
                    exact ⟨⟨c' + 1, by omega, by go_num, hOut6, B6⟩, by simp [intOf]; omega⟩
        · obtain rfl : c' = cs.length := by omega
          have hnl : (nextN cs l d).length = cs.length := nextN_length _ _ _
          rw [← hnl] at hOut
          obtain ⟨g9, c9, rfl, hM9⟩ := hOut.mat (by omega) (fun b hb => hP.out b (by have := HB.size; omega))
          rw [hnl]
          replace hnl := Lib.hid hnl
          go_wp2_with fail
          go_ret
          exact ⟨g9, c9, by rw [hnl.out]; rfl, hM9, B4⟩
end Go.Proofs.Ytoglemdooaiddaa
