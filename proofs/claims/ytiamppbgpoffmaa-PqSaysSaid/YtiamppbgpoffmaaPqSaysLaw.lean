/- The walk of PqSays: true of any training, question, code. -/
import Derived.Test.YtiamppbgpoffmaaPqBig
namespace Go.Proofs.Ytiamppbgpoffmaa
open Go.RowKit
set_option linter.unusedVariables false

set_option maxRecDepth 100000 in
set_option maxHeartbeats 4000000 in
theorem pqSays_bad (A : Option Addr) (l : List (List Int)) (cl : Nat) (dim parts k r s : Int) (V : Option Addr) (v : List Int) (cv : Nat) (K : Option Addr) (code : List Int) (ck : Nat) (w : World) (hm : MatC w A l) (h : pqE l dim parts k r ≠ 0) :
    Calls Try.prog 5 #[.slice A l.length cl, .agg #[.int .i64 dim, .int .i64 parts, .int .i64 k, .int .i64 r, .int .u64 s], .slice V v.length cv, .slice K code.length ck] w (LawTrue w) := by
  have hb1 := below_alloc1 w (.cells #[.int .i64 dim, .int .i64 parts, .int .i64 k, .int .i64 r, .int .u64 s] 25)
  have hbk := Blk.new w 25 #[.int .i64 dim, .int .i64 parts, .int .i64 k, .int .i64 r, .int .u64 s]
  have hT := Lib.hid (fun x (hx : Mat x A l) => ltrain_bad A l cl dim parts k r s x hx h)
  have hne : (pqE l dim parts k r != 0) = true := by simpa using h
  generalize pqE l dim parts k r = E at *
  clear h
  obtain ⟨x, hx⟩ : ∃ x, decide ((32768 : Int) < (v.length : Int)) = x := ⟨_, rfl⟩
  obtain ⟨y, hy⟩ : ∃ y, decide ((32768 : Int) < (code.length : Int)) = y := ⟨_, rfl⟩
  go_enter Try.func5, Try.ntmps5
  go_upto_region 1 with fail
  generalize w.alloc (.cells #[.int .i64 dim, .int .i64 parts, .int .i64 k, .int .i64 r, .int .u64 s] 25) = w0 at *
  have hB := big_any A l cl w0 (hm.mat.below hb1)
  replace hm := Lib.hid (hm.below hb1)
  have e0 : w0.cell? ⟨w.heap.size, 0, none⟩ = some (.int .i64 dim) := hbk.cell 0
  have e1 : w0.cell? ⟨w.heap.size, 1, none⟩ = some (.int .i64 parts) := hbk.cell 1
  have e2 : w0.cell? ⟨w.heap.size, 2, none⟩ = some (.int .i64 k) := hbk.cell 2
  have e3 : w0.cell? ⟨w.heap.size, 3, none⟩ = some (.int .i64 r) := hbk.cell 3
  have e4 : w0.cell? ⟨w.heap.size, 4, none⟩ = some (.int .u64 s) := hbk.cell 4
  go_wp2_with fail
  refine hB.mono ?_
  rintro e w1 ⟨b, rfl, rfl, hbg⟩
  clear hB
  rcases b with _ | _
  rotate_left
  · go_wp2_with fail
    go_ret
    exact ⟨rfl, hb1⟩
  rcases x with _ | _
  rotate_left
  · go_wp2_with fail
    go_ret
    exact ⟨rfl, hb1⟩
  rcases y with _ | _
  rotate_left
  · go_wp2_with fail
    go_ret
    exact ⟨rfl, hb1⟩
  replace hbg := hbg rfl
  go_wp2_with fail
  refine (hT.out _ hm.out.mat).mono ?_
  rintro e w2 ⟨rfl, hb⟩
  replace hb1 := below_chain hb1 hb hb1.size
  clear hb
  go_wp2_with fail
  refine (awake_any w2).mono ?_
  rintro e w3 ⟨rfl, hb⟩
  replace hb1 := below_chain hb1 hb hb1.size
  clear hb
  go_wp2_with fail
  go_ret
  exact ⟨rfl, hb1⟩

set_option maxRecDepth 100000 in
set_option maxHeartbeats 8000000 in
theorem pqSays_ok (A : Option Addr) (l : List (List Int)) (cl : Nat) (dim parts k r s : Int) (V : Option Addr) (v : List Int) (cv : Nat) (K : Option Addr) (code : List Int) (ck : Nat) (w : World) (hm : MatC w A l) (hV : Row w V v) (hcv : v.length ≤ cv) (hK : Row w K code) (h : pqE l dim parts k r = 0) :
    Calls Try.prog 5 #[.slice A l.length cl, .agg #[.int .i64 dim, .int .i64 parts, .int .i64 k, .int .i64 r, .int .u64 s], .slice V v.length cv, .slice K code.length ck] w (LawTrue w) := by
  have hb1 := below_alloc1 w (.cells #[.int .i64 dim, .int .i64 parts, .int .i64 k, .int .i64 r, .int .u64 s] 25)
  have hbk := Blk.new w 25 #[.int .i64 dim, .int .i64 parts, .int .i64 k, .int .i64 r, .int .u64 s]
  have hT := Lib.hid (fun x (hx : MatC x A l) => ltrain_good A l cl dim parts k r s x hx h)
  have hcod := cod_good s h
  generalize booksN l (dim.toNat / parts.toNat) parts.toNat k.toNat r.toNat s = bs at *
  generalize dim.toNat / parts.toNat = n at *
  generalize hdd : dim.toNat = d at *
  generalize hpp : parts.toNat = p at *
  generalize hkk : k.toNat = kk at *
  clear h
  obtain ⟨x, hx⟩ : ∃ x, decide ((32768 : Int) < (v.length : Int)) = x := ⟨_, rfl⟩
  obtain ⟨y, hy⟩ : ∃ y, decide ((32768 : Int) < (code.length : Int)) = y := ⟨_, rfl⟩
  go_enter Try.func5, Try.ntmps5
  go_upto_region 1 with fail
  generalize w.alloc (.cells #[.int .i64 dim, .int .i64 parts, .int .i64 k, .int .i64 r, .int .u64 s] 25) = w0 at *
  have hB := big_any A l cl w0 (hm.mat.below hb1)
  replace hm := Lib.hid (hm.below hb1)
  replace hV := hV.below hb1
  replace hK := hK.below hb1
  have e0 : w0.cell? ⟨w.heap.size, 0, none⟩ = some (.int .i64 dim) := hbk.cell 0
  have e1 : w0.cell? ⟨w.heap.size, 1, none⟩ = some (.int .i64 parts) := hbk.cell 1
  have e2 : w0.cell? ⟨w.heap.size, 2, none⟩ = some (.int .i64 k) := hbk.cell 2
  have e3 : w0.cell? ⟨w.heap.size, 3, none⟩ = some (.int .i64 r) := hbk.cell 3
  have e4 : w0.cell? ⟨w.heap.size, 4, none⟩ = some (.int .u64 s) := hbk.cell 4
  go_wp2_with fail
  refine hB.mono ?_
  rintro e w1 ⟨b, rfl, rfl, hbg⟩
  clear hB
  rcases b with _ | _
  rotate_left
  · go_wp2_with fail
    go_ret
    exact ⟨rfl, hb1⟩
  rcases x with _ | _
  rotate_left
  · go_wp2_with fail
    go_ret
    exact ⟨rfl, hb1⟩
  rcases y with _ | _
  rotate_left
  · go_wp2_with fail
    go_ret
    exact ⟨rfl, hb1⟩
  replace hbg := hbg rfl
  go_wp2_with fail
  refine (hT.out _ hm.out).mono ?_
  rintro e w2 ⟨gp, rfl, hC, hgp, hb⟩
  replace hb1 := below_chain hb1 hb hb1.size
  replace hV := hV.below hb
  replace hK := hK.below hb
  clear hb hbk e0 e1 e2 e3 e4 hT
  replace hcod := Lib.hid hcod
  by_cases hE : decE bs code = 0
  · have hin := (decE_in hcod.out hE).2
    have hdl := dec_vec hcod.out hin
    have hD := dec_ok gp d p n kk bs K code ck w2 hcod.out hC hK hE
    by_cases hQ : vecE v d = 0
    · have hes := est_says hcod.out hE hQ
      have hag := dec_again hcod.out hin
      have hdu := enc_decE hcod.out (decN bs code p)
      have hlu := encN_length bs n (decN bs code p) p
      have hlc := (decE_in hcod.out hE).1
      have hpr := hcod.out.p8
      have htl := tabN_length bs n v p kk
      have hwd := tabN_wd hcod.out hQ
      have hvd : v.length = d := by have := (vecE_ok hQ).2.2.1; omega
      have hn64 := hcod.out.n64
      have hd64 := hcod.out.d64
      generalize hu : encN bs n (decN bs code p) p = u at *
      generalize hdc : decN bs code p = z at *
      obtain ⟨hz1, hz2⟩ := hdl
      have hlc2 : code.length ≤ 32768 := by omega
      replace hlc := Lib.hid hlc
      replace hlu := Lib.hid hlu
      replace htl := Lib.hid htl
      replace hvd := Lib.hid hvd
      replace hz1 := Lib.hid hz1
      replace hz2 := Lib.hid hz2
      replace hn64 := Lib.hid hn64
      replace hd64 := Lib.hid hd64
      replace hpr := Lib.hid hpr
      replace hin := Lib.hid hin
      replace hlc2 := Lib.hid hlc2
      replace hQ := Lib.hid hQ
      replace hE := Lib.hid hE
      replace hu := Lib.hid hu
      replace hD := Lib.hid hD
      replace hes := Lib.hid hes
      replace hwd := Lib.hid hwd
      replace hag := Lib.hid hag
      replace hdu := Lib.hid hdu
      go_wp2_with fail
      refine hD.out.mono ?_
      rintro e w3 ⟨gz, cz, rfl, hzc, hZ, hb⟩
      replace hb1 := below_chain hb1 hb hb1.size
      replace hV := hV.below hb
      replace hK := hK.below hb
      replace hC := hC.below hb
      clear hb hD
      go_wp2_with fail
      refine (tab_ok gp d p n kk bs V v cv w3 hcod.out hC hV hcv hQ.out).mono ?_
      rintro e w4 ⟨gt, ct, rfl, hTb, hb⟩
      replace hb1 := below_chain hb1 hb hb1.size
      replace hV := hV.below hb
      replace hK := hK.below hb
      replace hC := hC.below hb
      replace hZ := hZ.below hb
      clear hb
      go_wp2_with fail
      have hEs := est_any (some ⟨gt, 0, none⟩) K (tabN bs n v p kk) code ct ck w4 hTb hK hlc2.out hwd.out
      rw [hes.out.1, hes.out.2] at hEs
      generalize tabN bs n v p kk = tb at *
      refine hEs.mono ?_
      rintro e w5 ⟨rfl, hb⟩
      replace hb1 := below_chain hb1 hb hb1.size
      replace hV := hV.below hb
      replace hC := hC.below hb
      replace hZ := hZ.below hb
      clear hb hEs hTb hK
      generalize hF : farN z v = F at *
      replace hF := Lib.hid hF
      have b5 := Blk.new w5 44 #[.int .u64 (hiN F : Int), .int .u64 (loN F : Int)]
      have B5 := below_alloc1 w5 (.cells #[.int .u64 (hiN F : Int), .int .u64 (loN F : Int)] 44)
      go_upto_region 11 with fail
      generalize hg5 : w5.heap.size = g5 at *
      generalize w5.alloc (.cells #[.int .u64 (hiN F : Int), .int .u64 (loN F : Int)] 44) = w6 at *
      replace hb1 := below_chain hb1 (by rw [hg5]; exact B5) hb1.size
      replace hV := hV.below (by rw [hg5]; exact B5)
      replace hC := hC.below (by rw [hg5]; exact B5)
      replace hZ := hZ.below (by rw [hg5]; exact B5)
      clear B5 hg5
      have hDi := rdist_ok (some ⟨gz, 0, none⟩) V z v cz cv (by rw [hz1.out]; exact hz2.out) (by rw [hz1.out]; exact hQ.out) w6 hZ hV
      rw [hF.out] at hDi
      go_wp2_with fail
      refine hDi.mono ?_
      rintro e w7 ⟨rfl, hb⟩
      replace hb1 := below_chain hb1 hb hb1.size
      replace hC := hC.below hb
      replace hZ := hZ.below hb
      replace b5 := b5.below hb b5.lt
      clear hb hDi hV
      have b7 := Blk.new w7 44 #[.int .u64 (hiN F : Int), .int .u64 (loN F : Int)]
      have B7 := below_alloc1 w7 (.cells #[.int .u64 (hiN F : Int), .int .u64 (loN F : Int)] 44)
      replace b5 := b5.alloc (.cells #[.int .u64 (hiN F : Int), .int .u64 (loN F : Int)] 44)
      go_upto_region 12 with fail
      generalize hg7 : w7.heap.size = g7 at *
      generalize w7.alloc (.cells #[.int .u64 (hiN F : Int), .int .u64 (loN F : Int)] 44) = w8 at *
      replace hb1 := below_chain hb1 (by rw [hg7]; exact B7) hb1.size
      replace hC := hC.below (by rw [hg7]; exact B7)
      replace hZ := hZ.below (by rw [hg7]; exact B7)
      clear B7 hg7
      go_wp2_with fail
      have hEn := enc_ok gp d p n kk bs (some ⟨gz, 0, none⟩) z cz w8 hcod.out hC hZ hzc hz2.out
      rw [hu.out] at hEn
      refine hEn.mono ?_
      rintro e w9 ⟨gu, cu, rfl, _, hU, hb⟩
      replace hb1 := below_chain hb1 hb hb1.size
      replace hC := hC.below hb
      replace hZ := hZ.below hb
      replace b5 := b5.below hb b5.lt
      replace b7 := b7.below hb b7.lt
      clear hb hEn
      go_wp2_with fail
      have hDe := dec_ok gp d p n kk bs (some ⟨gu, 0, none⟩) u cu w9 hcod.out hC hU hdu.out
      rw [hag.out] at hDe
      refine hDe.mono ?_
      rintro e w10 ⟨ga, ca, rfl, _, hA2, hb⟩
      replace hb1 := below_chain hb1 hb hb1.size
      replace hZ := hZ.below hb
      replace b5 := b5.below hb b5.lt
      replace b7 := b7.below hb b7.lt
      clear hb hDe hU hC
      go_wp2_with fail
      refine (awake_any w10).mono ?_
      rintro e w11 ⟨rfl, hb⟩
      replace hb1 := below_chain hb1 hb hb1.size
      replace hZ := hZ.below hb
      replace hA2 := hA2.below hb
      replace b5 := b5.below hb b5.lt
      replace b7 := b7.below hb b7.lt
      clear hb
      have m0 : w11.cell? ⟨g5, 0, none⟩ = some (.int .u64 (hiN F : Int)) := b5.cell 0
      have m1 : w11.cell? ⟨g5, 1, none⟩ = some (.int .u64 (loN F : Int)) := b5.cell 1
      have m2 : w11.cell? ⟨g7, 0, none⟩ = some (.int .u64 (hiN F : Int)) := b7.cell 0
      have m3 : w11.cell? ⟨g7, 1, none⟩ = some (.int .u64 (loN F : Int)) := b7.cell 1
      go_wp2_with fail
      refine (ints_any (some ⟨ga, 0, none⟩) (some ⟨gz, 0, none⟩) z z ca cz w11 hA2 hZ (by rw [hz1.out]; have := hd64.out; omega)).mono ?_
      rw [decide_eq_true (rfl : z = z)]
      rintro e w12 ⟨rfl, ⟨q, rfl⟩⟩
      go_wp2_with fail
      go_ret
      exact ⟨rfl, below_chain hb1 ((Drawn.refl w11).more q |>.below _) hb1.size⟩
    · have hne : (vecE v d != 0) = true := by simpa using hQ
      obtain ⟨A', c', c0, c1, hbooks⟩ := hC
      have hTb := Lib.hid (fun (x : World) (hx : Below w2.heap.size w2 x) => tab_bad gp d V v cv x (below_cell hx c0) (hV.below hx) hQ)
      generalize vecE v d = E at *
      clear hQ
      generalize decN bs code p = z at *
      go_wp2_with fail
      refine hD.mono ?_
      rintro e w3 ⟨gz, cz, rfl, _, hZ, hb⟩
      have hTb3 := hTb.out w3 hb
      replace hb1 := below_chain hb1 hb hb1.size
      clear hb hD hTb
      go_wp2_with fail
      refine hTb3.mono ?_
      rintro e w4 ⟨rfl, hb⟩
      replace hb1 := below_chain hb1 hb hb1.size
      clear hb
      go_wp2_with fail
      refine (awake_any w4).mono ?_
      rintro e w5 ⟨rfl, hb⟩
      replace hb1 := below_chain hb1 hb hb1.size
      clear hb
      go_wp2_with fail
      go_ret
      exact ⟨rfl, hb1⟩
  · have hne : (decE bs code != 0) = true := by simpa using hE
    have hD := dec_any gp d p n kk bs K code ck w2 hcod.out hC hK hE
    have hTa := Lib.hid (fun (x : World) (hx : Below w2.heap.size w2 x) => tab_some gp d p n kk bs V v cv x hcod.out (hC.below hx) (hV.below hx) hcv)
    generalize decE bs code = E at *
    clear hE
    go_wp2_with fail
    refine hD.mono ?_
    rintro e w3 ⟨rfl, hb⟩
    have hTb3 := hTa.out w3 hb
    replace hb1 := below_chain hb1 hb hb1.size
    clear hb hD hTa
    go_wp2_with fail
    refine hTb3.mono ?_
    rintro e w4 ⟨u, f, rfl, hb⟩
    replace hb1 := below_chain hb1 hb hb1.size
    clear hb
    go_wp2_with fail
    refine (awake_any w4).mono ?_
    rintro e w5 ⟨rfl, hb⟩
    replace hb1 := below_chain hb1 hb hb1.size
    clear hb
    go_wp2_with fail
    go_ret
    exact ⟨rfl, hb1⟩

theorem pqSays_any (A : Option Addr) (l : List (List Int)) (cl : Nat) (dim parts k r s : Int) (V : Option Addr) (v : List Int) (cv : Nat) (K : Option Addr) (code : List Int) (ck : Nat) (w : World) (hm : MatC w A l) (hV : Row w V v) (hcv : v.length ≤ cv) (hK : Row w K code) :
    Calls Try.prog 5 #[.slice A l.length cl, .agg #[.int .i64 dim, .int .i64 parts, .int .i64 k, .int .i64 r, .int .u64 s], .slice V v.length cv, .slice K code.length ck] w (LawTrue w) := by
  by_cases h : pqE l dim parts k r = 0
  · exact pqSays_ok A l cl dim parts k r s V v cv K code ck w hm hV hcv hK h
  · exact pqSays_bad A l cl dim parts k r s V v cv K code ck w hm h
end Go.Proofs.Ytiamppbgpoffmaa
