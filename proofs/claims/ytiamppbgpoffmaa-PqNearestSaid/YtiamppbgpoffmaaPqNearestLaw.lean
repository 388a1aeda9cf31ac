/- The walk of PqNearest: true of any training, vector, code. -/
import Derived.Test.YtiamppbgpoffmaaPqBig
namespace Go.Proofs.Ytiamppbgpoffmaa
open Go.RowKit
set_option linter.unusedVariables false

set_option maxRecDepth 100000 in
set_option maxHeartbeats 4000000 in
theorem pqNearest_bad (A : Option Addr) (l : List (List Int)) (cl : Nat) (dim parts k r s : Int) (V : Option Addr) (v : List Int) (cv : Nat) (K : Option Addr) (code : List Int) (ck : Nat) (w : World) (hm : MatC w A l) (h : pqE l dim parts k r ≠ 0) :
    Calls Try.prog 6 #[.slice A l.length cl, .agg #[.int .i64 dim, .int .i64 parts, .int .i64 k, .int .i64 r, .int .u64 s], .slice V v.length cv, .slice K code.length ck] w (LawTrue w) := by
  have hb1 := below_alloc1 w (.cells #[.int .i64 dim, .int .i64 parts, .int .i64 k, .int .i64 r, .int .u64 s] 25)
  have hbk := Blk.new w 25 #[.int .i64 dim, .int .i64 parts, .int .i64 k, .int .i64 r, .int .u64 s]
  have hT := Lib.hid (fun x (hx : Mat x A l) => ltrain_bad A l cl dim parts k r s x hx h)
  have hne : (pqE l dim parts k r != 0) = true := by simpa using h
  generalize pqE l dim parts k r = E at *
  clear h
  obtain ⟨x, hx⟩ : ∃ x, decide ((32768 : Int) < (v.length : Int)) = x := ⟨_, rfl⟩
  obtain ⟨y, hy⟩ : ∃ y, decide ((32768 : Int) < (code.length : Int)) = y := ⟨_, rfl⟩
  go_enter Try.func6, Try.ntmps6
  go_upto_region 1 with fail
  generalize w.alloc (.cells #[.int .i64 dim, .int .i64 parts, .int .i64 k, .int .i64 r, .int .u64 s] 25) = w0 at *
  have hB := big_any A l cl w0 (hm.mat.below hb1)
  replace hm := Lib.hid (hm.below hb1)
  have e0 : w0.cell? ⟨w.heap.size, 0, none⟩ = some (.int .i64 dim) := hbk.cell 0
  have e1 : w0.cell? ⟨w.heap.size, 1, none⟩ = some (.int .i64 parts) := hbk.cell 1
  have e2 : w0.cell? ⟨w.heap.size, 2, none⟩ = some (.int .i64 k) := hbk.cell 2
  have e3 : w0.cell? ⟨w.heap.size, 3, none⟩ = some (.int .i64 r) := hbk.cell 3
  have e4 : w0.cell? ⟨w.heap.size, 4, none⟩ = some (.int .u64 s) := hbk.cell 4
  go_wp2_with fail
  refine hB.mono ?_
  rintro e w1 ⟨b, rfl, rfl, hbg⟩
  clear hB
  rcases b with _ | _
  rotate_left
  · go_wp2_with fail
    go_ret
    exact ⟨rfl, hb1⟩
  rcases x with _ | _
  rotate_left
  · go_wp2_with fail
    go_ret
    exact ⟨rfl, hb1⟩
  rcases y with _ | _
  rotate_left
  · go_wp2_with fail
    go_ret
    exact ⟨rfl, hb1⟩
  replace hbg := hbg rfl
  go_wp2_with fail
  refine (hT.out _ hm.out.mat).mono ?_
  rintro e w2 ⟨rfl, hb⟩
  replace hb1 := below_chain hb1 hb hb1.size
  clear hb
  go_wp2_with fail
  refine (awake_any w2).mono ?_
  rintro e w3 ⟨rfl, hb⟩
  replace hb1 := below_chain hb1 hb hb1.size
  clear hb
  go_wp2_with fail
  go_ret
  exact ⟨rfl, hb1⟩

set_option maxRecDepth 100000 in
set_option maxHeartbeats 8000000 in
theorem pqNearest_ok (A : Option Addr) (l : List (List Int)) (cl : Nat) (dim parts k r s : Int) (V : Option Addr) (v : List Int) (cv : Nat) (K : Option Addr) (code : List Int) (ck : Nat) (w : World) (hm : MatC w A l) (hV : Row w V v) (hcv : v.length ≤ cv) (hK : Row w K code) (h : pqE l dim parts k r = 0) :
    Calls Try.prog 6 #[.slice A l.length cl, .agg #[.int .i64 dim, .int .i64 parts, .int .i64 k, .int .i64 r, .int .u64 s], .slice V v.length cv, .slice K code.length ck] w (LawTrue w) := by
  have hb1 := below_alloc1 w (.cells #[.int .i64 dim, .int .i64 parts, .int .i64 k, .int .i64 r, .int .u64 s] 25)
  have hbk := Blk.new w 25 #[.int .i64 dim, .int .i64 parts, .int .i64 k, .int .i64 r, .int .u64 s]
  have hT := Lib.hid (fun x (hx : MatC x A l) => ltrain_good A l cl dim parts k r s x hx h)
  have hcod := cod_good s h
  have hex := train_exact s h
  have hall : AllOk l dim.toNat l.length := by have := pqE_ok h; rw [show ((dim.toNat : Nat) : Int) = dim by omega]; exact this.2.2.2.2.2.2.2.2.2.2.2
  generalize booksN l (dim.toNat / parts.toNat) parts.toNat k.toNat r.toNat s = bs at *
  generalize dim.toNat / parts.toNat = n at *
  generalize hdd : dim.toNat = d at *
  generalize hpp : parts.toNat = p at *
  generalize hkk : k.toNat = kk at *
  clear h
  obtain ⟨x, hx⟩ : ∃ x, decide ((32768 : Int) < (v.length : Int)) = x := ⟨_, rfl⟩
  obtain ⟨y, hy⟩ : ∃ y, decide ((32768 : Int) < (code.length : Int)) = y := ⟨_, rfl⟩
  go_enter Try.func6, Try.ntmps6
  go_upto_region 1 with fail
  generalize w.alloc (.cells #[.int .i64 dim, .int .i64 parts, .int .i64 k, .int .i64 r, .int .u64 s] 25) = w0 at *
  have hB := big_any A l cl w0 (hm.mat.below hb1)
  replace hm := Lib.hid (hm.below hb1)
  replace hV := hV.below hb1
  replace hK := hK.below hb1
  have e0 : w0.cell? ⟨w.heap.size, 0, none⟩ = some (.int .i64 dim) := hbk.cell 0
  have e1 : w0.cell? ⟨w.heap.size, 1, none⟩ = some (.int .i64 parts) := hbk.cell 1
  have e2 : w0.cell? ⟨w.heap.size, 2, none⟩ = some (.int .i64 k) := hbk.cell 2
  have e3 : w0.cell? ⟨w.heap.size, 3, none⟩ = some (.int .i64 r) := hbk.cell 3
  have e4 : w0.cell? ⟨w.heap.size, 4, none⟩ = some (.int .u64 s) := hbk.cell 4
  go_wp2_with fail
  refine hB.mono ?_
  rintro e w1 ⟨b, rfl, rfl, hbg⟩
  clear hB
  rcases b with _ | _
  rotate_left
  · go_wp2_with fail
    go_ret
    exact ⟨rfl, hb1⟩
  rcases x with _ | _
  rotate_left
  · go_wp2_with fail
    go_ret
    exact ⟨rfl, hb1⟩
  rcases y with _ | _
  rotate_left
  · go_wp2_with fail
    go_ret
    exact ⟨rfl, hb1⟩
  replace hbg := hbg rfl
  go_wp2_with fail
  refine (hT.out _ hm.out).mono ?_
  rintro e w2 ⟨gp, rfl, hC, hgp, hb⟩
  replace hb1 := below_chain hb1 hb hb1.size
  replace hV := hV.below hb
  replace hK := hK.below hb
  replace hcod := Lib.hid hcod
  replace hex := Lib.hid hex
  have hB2 := Lib.hid hb1
  have e2' : w2.cell? ⟨w.heap.size, 2, none⟩ = some (.int .i64 k) := below_cell hb e2
  have e3' : w2.cell? ⟨w.heap.size, 3, none⟩ = some (.int .i64 r) := below_cell hb e3
  replace hm := Lib.hid (hm.out.below hb)
  clear hb hbk e0 e1 e2 e3 e4 hT
  obtain ⟨x1, hx1⟩ : ∃ x, (r == (0 : Int)) = x := ⟨_, rfl⟩
  obtain ⟨x2, hx2⟩ : ∃ x, (k == (l.length : Int)) = x := ⟨_, rfl⟩
  have hlen := Lib.hid (show l.length ≤ 32768 from hbg)
  replace hall := Lib.hid hall
  go_wp2_with fail
  go_loopw [11] (fun i wr => ∃ j : Nat, j ≤ l.length ∧ i = .int .i64 (j : Int) ∧ Below w2.heap.size w2 wr) (fun i _ => l.length - (intOf i).toNat)
  case atStart => exact ⟨0, Nat.zero_le _, rfl, Below.refl _ _⟩
  case round =>
    obtain ⟨j, hj, rfl, hR⟩ := hrel
    have f2 := below_cell hR e2'
    have f3 := below_cell hR e3'
    have hC2 := hC.below hR
    have hV2 := hV.below hR
    have hK2 := hK.below hR
    obtain ⟨tt, htt⟩ : ∃ tt, (decide ((j : Int) < (l.length : Int)) && x1 && x2) = tt := ⟨_, rfl⟩
    go_upto_region 7 with fail
    go_cut [66] from 51 to 98 (fun v wx => v = .bool tt ∧ wx = wr)
    case first =>
      by_cases hlt : j < l.length
      · have q1 : (j : Int) < (l.length : Int) := by omega
        rcases x1 with _ | _
        · go_wp2_with fail
          go_meet
          exact ⟨by rw [← htt]; simp, rfl⟩
        · rcases x2 with _ | _
          · go_wp2_with fail
            go_meet
            exact ⟨by rw [← htt]; simp, rfl⟩
          · go_wp2_with fail
            go_meet
            exact ⟨by rw [← htt]; simp; omega, rfl⟩
      · obtain rfl : j = l.length := by omega
        go_wp2_with fail
        go_meet
        exact ⟨by rw [← htt]; simp, rfl⟩
    case rest =>
      obtain ⟨rfl, hwc⟩ := hcut
      replace hwc := hwc.symm
      subst hwc
      rcases tt with _ | _
      rotate_left
      · simp only [Bool.and_eq_true, decide_eq_true_eq] at htt
        obtain ⟨⟨hlt', rfl⟩, rfl⟩ := htt
        have hlt : j < l.length := by omega
        have q0 : (0 : Int) ≤ (j : Int) := by omega
        have q1 : (j : Int) < (l.length : Int) := by omega
        obtain ⟨g, o, R, rc, rfl, hc1, hrc, hRow⟩ := hm.out j hlt
        have d1 := below_cell hR hc1
        have hr2 := hRow.below hR
        have hxx := Lib.hid (hex.out (by simpa using hx1) (by simpa using hx2) j hlt)
        have hEn := enc_ok gp d p n kk bs R (mrow l j) rc wr hcod.out hC2 hr2 hrc (hall.out j hlt)
        have hlu := encN_length bs n (mrow l j) p
        have hdu := Lib.hid (enc_decE hcod.out (mrow l j))
        generalize encN bs n (mrow l j) p = u at *
        replace hEn := Lib.hid hEn
        replace hlu := Lib.hid hlu
        have hrl : (mrow l j).length ≤ 64 := by have := (vecE_ok (hall.out j hlt)).2.2.1; have := hcod.out.d64; omega
        replace hrl := Lib.hid hrl
        clear hRow hc1 hrc hdd hpp hkk hbg
        go_wp2_with fail
        refine hEn.out.mono ?_
        rintro e w3 ⟨gu, cu, rfl, _, hU, hb⟩
        have hR3 := below_chain hR hb hR.size
        have d3 := below_cell hb d1
        have hr3 := hr2.below hb
        clear hEn
        go_wp2_with fail
        have hDe := dec_ok gp d p n kk bs (some ⟨gu, 0, none⟩) u cu w3 hcod.out (hC.below hR3) hU hdu.out
        rw [hxx.out] at hDe
        refine hDe.mono ?_
        rintro e w4 ⟨ga, ca, rfl, _, hA2, hb4⟩
        have hR4 := below_chain hR3 hb4 hR3.size
        have d4 := below_cell hb4 d3
        have hr4 := hr3.below hb4
        clear hDe hU d3 hr3 hb d1 hr2 hC2 hV2 hK2 f2 f3
        go_wp2_with fail
        refine (ints_any (some ⟨ga, 0, none⟩) R (mrow l j) (mrow l j) ca rc w4 hA2 hr4 (by have := hrl.out; omega)).mono ?_
        rw [decide_eq_true (rfl : mrow l j = mrow l j)]
        rintro e w5 ⟨rfl, ⟨q, rfl⟩⟩
        have hR5 := below_chain hR4 ((Drawn.refl w4).more q |>.below _) hR4.size
        go_wp2_with fail
        have hlen2 := hlen.out
        clear hm hex hall hxx
        have hw : wrap64 ((j : Int) + 1) = ((j + 1 : Nat) : Int) := by clear hrl hlu; simp only [wrap64]; omega
        rw [hw]
        clear hw
        have hm2 : l.length - (j + 1) < l.length - j := by omega
        go_roundw
        case rel => exact ⟨j + 1, hlt, rfl, hR5⟩
        all_goals (simpa [intOf] using hm2)
      · obtain ⟨A', c', c0, c1, hbooks⟩ := hC2
        have hC2 : CoderAt wr gp d bs := ⟨A', c', c0, c1, hbooks⟩
        clear c1 hbooks
        clear hm hex hall f2 f3 e2' e3' hx1 hx2 htt hlen
        have hb1' := below_chain hB2.out hR hB2.out.size
        clear hB2 hb1 hR
        have hb1 := hb1'
        clear hb1'
        clear hV hK hC
        by_cases hQ : vecE v d = 0
        · have hEn := enc_ok gp d p n kk bs V v cv wr hcod.out hC2 hV2 hcv hQ
          have hin := enc_in hcod.out v
          have hlu := encN_length bs n v p
          have hdu := Lib.hid (enc_decE hcod.out v)
          have hnear := Lib.hid (fun (hi : InTo bs code p) => enc_near (v := v) hcod.out hi)
          have hz := dec_vec hcod.out hin
          have hwz := Lib.hid (dec_wd hcod.out hin hQ)
          generalize hu : encN bs n v p = u at *
          generalize hzz : decN bs u p = z at *
          replace hEn := Lib.hid hEn
          replace hu := Lib.hid hu
          replace hlu := Lib.hid hlu
          replace hz := Lib.hid hz
          replace hin := Lib.hid hin
          replace hQ := Lib.hid hQ
          replace hzz := Lib.hid hzz
          go_wp2_with fail
          refine hEn.out.mono ?_
          rintro e w3 ⟨gu, cu, rfl, _, hU, hb⟩
          replace hb1 := below_chain hb1 hb hb1.size
          replace hV2 := hV2.below hb
          replace hK2 := hK2.below hb
          replace hC2 := hC2.below hb
          clear hb hEn c0
          go_wp2_with fail
          have hDe := dec_ok gp d p n kk bs (some ⟨gu, 0, none⟩) u cu w3 hcod.out hC2 hU hdu.out
          rw [hzz.out] at hDe
          refine hDe.mono ?_
          rintro e w4 ⟨gz, cz, rfl, _, hZ, hb⟩
          replace hb1 := below_chain hb1 hb hb1.size
          replace hV2 := hV2.below hb
          replace hK2 := hK2.below hb
          replace hC2 := hC2.below hb
          clear hb hDe hU
          go_wp2_with fail
          by_cases hE : decE bs code = 0
          · have hin2 := (decE_in hcod.out hE).2
            have hy := dec_vec hcod.out hin2
            have hwy := Lib.hid (dec_wd hcod.out hin2 hQ.out)
            have hle := hnear.out hin2
            have hD := dec_ok gp d p n kk bs K code ck w4 hcod.out hC2 hK2 hE
            clear hnear
            generalize hyy : decN bs code p = y at *
            replace hy := Lib.hid hy
            replace hyy := Lib.hid hyy
            replace hE := Lib.hid hE
            replace hin2 := Lib.hid hin2
            refine hD.mono ?_
            rintro e w5 ⟨gy, cy, rfl, _, hY, hb⟩
            replace hb1 := below_chain hb1 hb hb1.size
            replace hV2 := hV2.below hb
            replace hZ := hZ.below hb
            clear hb hD hC2 hK2
            have hD1 := Lib.hid (fun x (h1 : Row x (some ⟨gz, 0, none⟩) z) (h2 : Row x V v) => rdist_ok (some ⟨gz, 0, none⟩) V z v cz cv (by rw [hz.out.1]; exact hz.out.2) (by rw [hz.out.1]; exact hQ.out) x h1 h2)
            have hD2 := Lib.hid (fun x (h1 : Row x (some ⟨gy, 0, none⟩) y) (h2 : Row x V v) => rdist_ok (some ⟨gy, 0, none⟩) V y v cy cv (by rw [hy.out.1]; exact hy.out.2) (by rw [hy.out.1]; exact hQ.out) x h1 h2)
            generalize farN z v = F at *
            generalize farN y v = G at *
            have hLs := Lib.hid (fun x => less_c G F hwy.out hwz.out x)
            have hfl : decide (G < F) = false := decide_eq_false (by omega)
            rw [hfl] at hLs
            clear hfl hle hwy hwz
            go_wp2_with fail
            refine (hD1.out w5 hZ hV2).mono ?_
            rintro e w6 ⟨rfl, hb⟩
            replace hb1 := below_chain hb1 hb hb1.size
            replace hV2 := hV2.below hb
            replace hY := hY.below hb
            clear hb hD1 hZ
            have b6 := Blk.new w6 44 #[.int .u64 (hiN F : Int), .int .u64 (loN F : Int)]
            have B6 := below_alloc1 w6 (.cells #[.int .u64 (hiN F : Int), .int .u64 (loN F : Int)] 44)
            go_upto_region 19 with fail
            generalize hg6 : w6.heap.size = g6 at *
            generalize w6.alloc (.cells #[.int .u64 (hiN F : Int), .int .u64 (loN F : Int)] 44) = w7 at *
            replace hb1 := below_chain hb1 (by rw [hg6]; exact B6) hb1.size
            replace hV2 := hV2.below (by rw [hg6]; exact B6)
            replace hY := hY.below (by rw [hg6]; exact B6)
            clear B6 hg6
            go_wp2_with fail
            refine (hD2.out w7 hY hV2).mono ?_
            rintro e w8 ⟨rfl, hb⟩
            replace hb1 := below_chain hb1 hb hb1.size
            replace b6 := b6.below hb b6.lt
            clear hb hD2 hY hV2
            have b8 := Blk.new w8 44 #[.int .u64 (hiN G : Int), .int .u64 (loN G : Int)]
            have B8 := below_alloc1 w8 (.cells #[.int .u64 (hiN G : Int), .int .u64 (loN G : Int)] 44)
            replace b6 := b6.alloc (.cells #[.int .u64 (hiN G : Int), .int .u64 (loN G : Int)] 44)
            go_upto_region 20 with fail
            generalize hg8 : w8.heap.size = g8 at *
            generalize w8.alloc (.cells #[.int .u64 (hiN G : Int), .int .u64 (loN G : Int)] 44) = w9 at *
            replace hb1 := below_chain hb1 (by rw [hg8]; exact B8) hb1.size
            clear B8 hg8
            go_wp2_with fail
            refine (awake_any w9).mono ?_
            rintro e w10 ⟨rfl, hb⟩
            replace hb1 := below_chain hb1 hb hb1.size
            replace b6 := b6.below hb b6.lt
            replace b8 := b8.below hb b8.lt
            clear hb
            have m0 : w10.cell? ⟨g6, 0, none⟩ = some (.int .u64 (hiN F : Int)) := b6.cell 0
            have m1 : w10.cell? ⟨g6, 1, none⟩ = some (.int .u64 (loN F : Int)) := b6.cell 1
            have m2 : w10.cell? ⟨g8, 0, none⟩ = some (.int .u64 (hiN G : Int)) := b8.cell 0
            have m3 : w10.cell? ⟨g8, 1, none⟩ = some (.int .u64 (loN G : Int)) := b8.cell 1
            go_wp2_with fail
            refine (hLs.out w10).mono ?_
            rintro e w11 ⟨rfl, hb⟩
            replace hb1 := below_chain hb1 hb hb1.size
            clear hb m0 m1 m2 m3
            go_wp2_with fail
            go_ret
            exact ⟨rfl, hb1⟩
          · have hne : (decE bs code != 0) = true := by simpa using hE
            have hD := dec_any gp d p n kk bs K code ck w4 hcod.out hC2 hK2 hE
            generalize decE bs code = E at *
            clear hE hnear
            refine hD.mono ?_
            rintro e w5 ⟨rfl, hb⟩
            replace hb1 := below_chain hb1 hb hb1.size
            clear hb hD
            go_wp2_with fail
            refine (awake_any w5).mono ?_
            rintro e w6 ⟨rfl, hb⟩
            replace hb1 := below_chain hb1 hb hb1.size
            clear hb
            go_wp2_with fail
            go_ret
            exact ⟨rfl, hb1⟩
        · have hne : (vecE v d != 0) = true := by simpa using hQ
          have hEn := Lib.hid (enc_bad gp d V v cv wr c0 hV2 hQ)
          generalize vecE v d = E at *
          clear hQ c0
          go_wp2_with fail
          refine hEn.out.mono ?_
          rintro e w3 ⟨rfl, hb⟩
          replace hb1 := below_chain hb1 hb hb1.size
          replace hK2 := hK2.below hb
          replace hC2 := hC2.below hb
          clear hb hEn
          go_wp2_with fail
          refine (dec_some gp d p n kk bs none [] 0 w3 hcod.out hC2 Row.nil_).mono ?_
          rintro e w4 ⟨u2, f2, rfl, hb⟩
          replace hb1 := below_chain hb1 hb hb1.size
          replace hK2 := hK2.below hb
          replace hC2 := hC2.below hb
          clear hb
          go_wp2_with fail
          refine (dec_some gp d p n kk bs K code ck w4 hcod.out hC2 hK2).mono ?_
          rintro e w5 ⟨u3, f3, rfl, hb⟩
          replace hb1 := below_chain hb1 hb hb1.size
          clear hb
          go_wp2_with fail
          refine (awake_any w5).mono ?_
          rintro e w6 ⟨rfl, hb⟩
          replace hb1 := below_chain hb1 hb hb1.size
          clear hb
          go_wp2_with fail
          go_ret
          exact ⟨rfl, hb1⟩

theorem pqNearest_any (A : Option Addr) (l : List (List Int)) (cl : Nat) (dim parts k r s : Int) (V : Option Addr) (v : List Int) (cv : Nat) (K : Option Addr) (code : List Int) (ck : Nat) (w : World) (hm : MatC w A l) (hV : Row w V v) (hcv : v.length ≤ cv) (hK : Row w K code) :
    Calls Try.prog 6 #[.slice A l.length cl, .agg #[.int .i64 dim, .int .i64 parts, .int .i64 k, .int .i64 r, .int .u64 s], .slice V v.length cv, .slice K code.length ck] w (LawTrue w) := by
  by_cases h : pqE l dim parts k r = 0
  · exact pqNearest_ok A l cl dim parts k r s V v cv K code ck w hm hV hcv hK h
  · exact pqNearest_bad A l cl dim parts k r s V v cv K code ck w hm h
end Go.Proofs.Ytiamppbgpoffmaa
