/- The walk of PqBooks: true of any vectors and way of training. -/
import Derived.Test.YtiamppbgpoffmaaPqShow
import Derived.Test.YtiamppbgpoffmaaPqCodesLaw
namespace Go.Proofs.Ytiamppbgpoffmaa
open Go.RowKit
set_option linter.unusedVariables false

theorem BookB.mat {w : World} {col : Nat → Nat} {B i : Nat} {v : Value} {m : List (List Int)} {s : Prop} (h : BookB w col B i v m s) (hs : s) : ∃ g c, v = .slice (some ⟨g, 0, none⟩) m.length c ∧ Mat w (some ⟨g, 0, none⟩) m := by
  obtain ⟨g, c, h1, h2, h3, h4, h5⟩ := h
  refine ⟨g, c, h1, fun x hx => ?_⟩
  obtain ⟨r, rc, e1, e2, e3, e4, e5⟩ := h5 x hx
  exact ⟨g, 0, _, rc, rfl, by rw [Nat.zero_add]; exact e1, fun y hy => ⟨r, 0, rfl, by rw [Nat.zero_add]; exact e5.2.2 hs y hy⟩⟩
set_option maxRecDepth 100000 in
set_option maxHeartbeats 4000000 in
theorem pqBooks_bad (A : Option Addr) (l : List (List Int)) (cl : Nat) (dim parts k r s : Int) (w : World) (hm : MatC w A l) (h : pqE l dim parts k r ≠ 0) :
    Calls Try.prog 7 #[.slice A l.length cl, .agg #[.int .i64 dim, .int .i64 parts, .int .i64 k, .int .i64 r, .int .u64 s]] w (LawTrue w) := by
  have hb1 := below_alloc1 w (.cells #[.int .i64 dim, .int .i64 parts, .int .i64 k, .int .i64 r, .int .u64 s] 25)
  have hbk := Blk.new w 25 #[.int .i64 dim, .int .i64 parts, .int .i64 k, .int .i64 r, .int .u64 s]
  have hT := Lib.hid (fun x (hx : Mat x A l) => ltrain_bad A l cl dim parts k r s x hx h)
  have hE := Lib.hid (fun x (hx : Mat x A l) => rpq_any A l cl dim parts k r x hx)
  have hne : (pqE l dim parts k r != 0) = true := by simpa using h
  generalize pqE l dim parts k r = E at *
  clear h
  go_enter Try.func7, Try.ntmps7
  go_upto_region 1 with fail
  generalize w.alloc (.cells #[.int .i64 dim, .int .i64 parts, .int .i64 k, .int .i64 r, .int .u64 s] 25) = w0 at *
  have hB := big_any A l cl w0 (hm.mat.below hb1)
  replace hm := Lib.hid (hm.below hb1)
  have e0 : w0.cell? ⟨w.heap.size, 0, none⟩ = some (.int .i64 dim) := hbk.cell 0
  have e1 : w0.cell? ⟨w.heap.size, 1, none⟩ = some (.int .i64 parts) := hbk.cell 1
  have e2 : w0.cell? ⟨w.heap.size, 2, none⟩ = some (.int .i64 k) := hbk.cell 2
  have e3 : w0.cell? ⟨w.heap.size, 3, none⟩ = some (.int .i64 r) := hbk.cell 3
  have e4 : w0.cell? ⟨w.heap.size, 4, none⟩ = some (.int .u64 s) := hbk.cell 4
  go_wp2_with fail
  refine hB.mono ?_
  rintro e w1 ⟨b, rfl, rfl, hbg⟩
  clear hB
  rcases b with _ | _
  rotate_left
  · go_wp2_with fail
    go_ret
    exact ⟨rfl, hb1⟩
  replace hbg := hbg rfl
  go_wp2_with fail
  refine (hT.out _ hm.out.mat).mono ?_
  rintro e w2 ⟨rfl, hb⟩
  have f0 : w2.cell? ⟨w.heap.size, 0, none⟩ = some (.int .i64 dim) := below_cell hb e0
  have f1 : w2.cell? ⟨w.heap.size, 1, none⟩ = some (.int .i64 parts) := below_cell hb e1
  have f2 : w2.cell? ⟨w.heap.size, 2, none⟩ = some (.int .i64 k) := below_cell hb e2
  have f3 : w2.cell? ⟨w.heap.size, 3, none⟩ = some (.int .i64 r) := below_cell hb e3
  have f4 : w2.cell? ⟨w.heap.size, 4, none⟩ = some (.int .u64 s) := below_cell hb e4
  replace hb1 := below_chain hb1 hb hb1.size
  replace hm := Lib.hid (hm.out.below hb)
  clear hb e0 e1 e2 e3 e4 hT
  go_wp2_with fail
  refine (hE.out _ hm.out.mat).mono ?_
  rintro e w3 ⟨rfl, rfl⟩
  clear f0 f1 f2 f3 f4
  go_wp2_with fail
  refine (awake_any w2).mono ?_
  rintro e w3 ⟨rfl, hb⟩
  replace hb1 := below_chain hb1 hb hb1.size
  clear hb
  go_wp2_with fail
  go_ret
  exact ⟨rfl, hb1⟩

set_option maxRecDepth 100000 in
set_option maxHeartbeats 8000000 in
theorem pqBooks_ok (A : Option Addr) (l : List (List Int)) (cl : Nat) (dim parts k r s : Int) (w : World) (hm : MatC w A l) (h : pqE l dim parts k r = 0) :
    Calls Try.prog 7 #[.slice A l.length cl, .agg #[.int .i64 dim, .int .i64 parts, .int .i64 k, .int .i64 r, .int .u64 s]] w (LawTrue w) := by
  have hb1 := below_alloc1 w (.cells #[.int .i64 dim, .int .i64 parts, .int .i64 k, .int .i64 r, .int .u64 s] 25)
  have hbk := Blk.new w 25 #[.int .i64 dim, .int .i64 parts, .int .i64 k, .int .i64 r, .int .u64 s]
  have hT := Lib.hid (fun x (hx : MatC x A l) => ltrain_good A l cl dim parts k r s x hx h)
  have hE := Lib.hid (fun x (hx : Mat x A l) => rpq_any A l cl dim parts k r x hx)
  have hcod := cod_good s h
  have hRT := Lib.hid (fun x (hx : MatC x A l) => rtrain10 A l cl dim parts k r s x hx h)
  rw [h] at hE
  generalize booksN l (dim.toNat / parts.toNat) parts.toNat k.toNat r.toNat s = bs at *
  generalize dim.toNat / parts.toNat = n at *
  generalize hdd : dim.toNat = d at *
  generalize hpp : parts.toNat = p at *
  generalize hkk : k.toNat = kk at *
  clear h hdd hpp hkk
  go_enter Try.func7, Try.ntmps7
  go_upto_region 1 with fail
  generalize w.alloc (.cells #[.int .i64 dim, .int .i64 parts, .int .i64 k, .int .i64 r, .int .u64 s] 25) = w0 at *
  have hB := big_any A l cl w0 (hm.mat.below hb1)
  replace hm := Lib.hid (hm.below hb1)
  have e0 : w0.cell? ⟨w.heap.size, 0, none⟩ = some (.int .i64 dim) := hbk.cell 0
  have e1 : w0.cell? ⟨w.heap.size, 1, none⟩ = some (.int .i64 parts) := hbk.cell 1
  have e2 : w0.cell? ⟨w.heap.size, 2, none⟩ = some (.int .i64 k) := hbk.cell 2
  have e3 : w0.cell? ⟨w.heap.size, 3, none⟩ = some (.int .i64 r) := hbk.cell 3
  have e4 : w0.cell? ⟨w.heap.size, 4, none⟩ = some (.int .u64 s) := hbk.cell 4
  go_wp2_with fail
  refine hB.mono ?_
  rintro e w1 ⟨b, rfl, rfl, hbg⟩
  clear hB
  rcases b with _ | _
  rotate_left
  · go_wp2_with fail
    go_ret
    exact ⟨rfl, hb1⟩
  replace hbg := hbg rfl
  go_wp2_with fail
  refine (hT.out _ hm.out).mono ?_
  rintro e w2 ⟨gp, rfl, hC, hgp, hb⟩
  have f0 : w2.cell? ⟨w.heap.size, 0, none⟩ = some (.int .i64 dim) := below_cell hb e0
  have f1 : w2.cell? ⟨w.heap.size, 1, none⟩ = some (.int .i64 parts) := below_cell hb e1
  have f2 : w2.cell? ⟨w.heap.size, 2, none⟩ = some (.int .i64 k) := below_cell hb e2
  have f3 : w2.cell? ⟨w.heap.size, 3, none⟩ = some (.int .i64 r) := below_cell hb e3
  have f4 : w2.cell? ⟨w.heap.size, 4, none⟩ = some (.int .u64 s) := below_cell hb e4
  replace hb1 := below_chain hb1 hb hb1.size
  replace hm := Lib.hid (hm.out.below hb)
  replace hcod := Lib.hid hcod
  clear hb e0 e1 e2 e3 e4 hT hbg
  go_wp2_with fail
  refine (hE.out _ hm.out.mat).mono ?_
  rintro e w3 ⟨rfl, rfl⟩
  go_wp2_with fail
  refine (hRT.out _ hm.out).mono ?_
  rintro e w3 ⟨gm, rfl, hM, hb⟩
  replace hb1 := below_chain hb1 hb hb1.size
  replace hC := hC.below hb
  clear hb f0 f1 f2 f3 f4 hE hRT hm
  have hlen := Lib.hid hcod.out.len
  have hp8 := Lib.hid hcod.out.p8
  have hne : ((bs.length : Int) != (bs.length : Int)) = false := by simp
  obtain ⟨AM, cM, _, _, hM2, hMB⟩ := hM
  go_wp2_with fail
  go_loopw [9] (fun i wr => ∃ j : Nat, j ≤ 2 ∧ i = .int .i64 (j : Int) ∧ Below w3.heap.size w3 wr) (fun i _ => 2 - (intOf i).toNat)
  case atStart => exact ⟨0, Nat.zero_le _, rfl, Below.refl _ _⟩
  case round =>
    obtain ⟨a, ha, rfl, hR⟩ := hrel
    by_cases hlt : a < 2
    · have q1 : (a : Int) < 2 := by omega
      have hSh := Lib.hid (show_ok gp d p n kk bs wr hcod.out (hC.below hR))
      have hBz := hR.size
      go_wp2_with fail
      refine hSh.out.mono ?_
      rintro e w4 ⟨gt, ct, col, rfl, hS, hb⟩
      have hR4 := below_chain hR hb hR.size
      have d2 := below_cell hR4 hM2
      obtain ⟨B, hBB⟩ : ∃ B, B = wr.heap.size := ⟨_, rfl⟩
      rw [← hBB] at hS hBz
      replace hBB := Lib.hid hBB
      clear hSh hb
      go_wp2_with fail
      clear d2
      go_loopw [11] (fun i x => ∃ j : Nat, j ≤ bs.length ∧ i = .int .i64 (j : Int) ∧ Shown x col B gt bs j ∧ Below w3.heap.size w3 x) (fun i _ => bs.length - (intOf i).toNat)
      case atStart => exact ⟨0, Nat.zero_le _, rfl, hS, hR4⟩
      case round =>
        clear hS hR4
        obtain ⟨j, hj, rfl, hS, hR4⟩ := hrel
        by_cases hlt2 : j < bs.length
        · have r0 : (0 : Int) ≤ (j : Int) := by omega
          have r1 : (j : Int) < (bs.length : Int) := by omega
          have hjp : j < p := by have := hlen.out; omega
          have hbl := hcod.out.rows j hjp
          have hco := Lib.hid (hcod.out.coords j hjp)
          have hn := hcod.out.n64
          have hd := hcod.out.d64
          have hk16 := hcod.out.k16
          have hj64 : j + 1 ≤ 8 := by have := hp8.out; omega
          obtain ⟨v, hv, hbk⟩ := hS.2.2 j hlt2
          obtain ⟨g, c, rfl, hma⟩ := hbk.mat (Nat.le_refl j)
          clear hbk
          obtain ⟨gA, oA, B2, c2, rfl, hc2, hMB2⟩ := hMB j hlt2
          have d2 := below_cell hR4 hM2
          have d3 := below_cell hR4 hc2
          have hSa := Lib.hid (same_eq (some ⟨g, 0, none⟩) B2 (brow bs j) c c2 wr.drew (hma.below (Below.refl _ _).drew) ((hMB2.below hR4).below (Below.refl _ _).drew) (by omega) (fun i hi => by rw [(hco.out i hi).1]; omega))
          have S0 : wr.drew.cell? ⟨gt, j, none⟩ = some (.slice (some ⟨g, 0, none⟩) (brow bs j).length c) ∧ wr.drew.cell? ⟨gm, 2, none⟩ = some (.slice (some ⟨gA, oA, none⟩) bs.length cM) ∧ wr.drew.cell? ⟨gA, oA + j, none⟩ = some (.slice B2 (brow bs j).length c2) := ⟨hv, d2, d3⟩
          replace hbl := Lib.hid hbl
          replace hn := Lib.hid hn
          replace hk16 := Lib.hid hk16
          replace hd := Lib.hid hd
          go_wp2_with fail
          clear d2 d3
          go_region_held3 (fun w' => w'.cell? ⟨gt, j, none⟩ = some (.slice (some ⟨g, 0, none⟩) (brow bs j).length c) ∧ w'.cell? ⟨gm, 2, none⟩ = some (.slice (some ⟨gA, oA, none⟩) bs.length cM) ∧ w'.cell? ⟨gA, oA + j, none⟩ = some (.slice B2 (brow bs j).length c2))
            (first | (with_reducible exact S0) | (with_reducible exact S1))
            (first
            | (go_at_call 27; (with_reducible refine hSa.out.mono ?_); rintro e x1 ⟨rfl, hE⟩; have S1 := three_held S0 (hE.below _)))
          all_goals
            have hb5 := below_chain (Below.refl wr.heap.size wr).drew (hE.below wr.drew.heap.size) (Nat.le_refl _)
            have hS5 := (hS.below hb5).next
            have hR5 := below_chain hR4 hb5 hR4.size
            have hv5 := below_cell hb5 hv
            clear S0 S1 hSa hE hS hR4 hb5 hv hma hMB2 hc2
            go_wp2_with fail
            clear hv5
            go_loopw [12] (fun i y => ∃ x : Nat, x ≤ (brow bs j).length ∧ i = .int .i64 (x : Int) ∧ Shown y col B gt bs (j + 1) ∧ Below w3.heap.size w3 y) (fun i _ => (brow bs j).length - (intOf i).toNat)
            case atStart => exact ⟨0, Nat.zero_le _, rfl, hS5, hR5⟩
            case round =>
              clear hS5 hR5
              obtain ⟨x, hx, rfl, hS, hR6⟩ := hrel
              obtain ⟨v, hv, g, c, rfl, hg1, hg2, hg3, hrows⟩ := hS.2.2 j hlt2
              have hk2 : (brow bs j).length ≤ 16 := by rw [hbl.out]; exact hk16.out
              by_cases hlt3 : x < (brow bs j).length
              · obtain ⟨rr, rc, e1, e2, e3, e4, f1, ⟨u, f2⟩, _⟩ := hrows x hlt3
                have s0 : (0 : Int) ≤ (x : Int) := by omega
                have s1 : (x : Int) < ((brow bs j).length : Int) := by omega
                have s2 : (0 : Int) < ((mrow (brow bs j) x).length : Int) := by rw [(hco.out x hlt3).1]; have := hn.out; omega
                have hS7 := hS.put (Nat.lt_succ_self j) e2 (.int .i64 99)
                have hR7 := hR6.setCell (p := ⟨rr, 0, none⟩) (by simp only; omega) (.int .i64 99)
                clear hrows hS
                go_wp2_with fail
                exact ⟨⟨x + 1, by omega, by go_num, hS7, hR7⟩, by simp [intOf]; omega⟩
              · obtain rfl : x = (brow bs j).length := by omega
                clear hrows
                go_wp2_with fail
                exact ⟨⟨j + 1, by omega, by go_num, hS, hR6⟩, by simp [intOf]; omega⟩
        · obtain rfl : j = bs.length := by omega
          go_wp2_with fail
          exact ⟨⟨a + 1, by omega, by go_num, hR4⟩, by simp [intOf]; omega⟩
    · obtain rfl : a = 2 := by omega
      replace hb1 := below_chain hb1 hR hb1.size
      go_wp2_with fail
      refine (awake_any wr).mono ?_
      rintro e w5 ⟨rfl, hb⟩
      replace hb1 := below_chain hb1 hb hb1.size
      clear hb
      go_wp2_with fail
      go_ret
      exact ⟨rfl, hb1⟩
theorem pqBooks_any (A : Option Addr) (l : List (List Int)) (cl : Nat) (dim parts k r s : Int) (w : World) (hm : MatC w A l) :
    Calls Try.prog 7 #[.slice A l.length cl, .agg #[.int .i64 dim, .int .i64 parts, .int .i64 k, .int .i64 r, .int .u64 s]] w (LawTrue w) := by
  by_cases h : pqE l dim parts k r = 0
  · exact pqBooks_ok A l cl dim parts k r s w hm h
  · exact pqBooks_bad A l cl dim parts k r s w hm h
end Go.Proofs.Ytiamppbgpoffmaa
