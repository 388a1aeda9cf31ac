/- The walk of PqCodes: true of any training, vector, code. -/
import Derived.Test.YtiamppbgpoffmaaPqBig
import Derived.Test.YtiamppbgpoffmaaPqRSame
namespace Go.Proofs.Ytiamppbgpoffmaa
open Go.RowKit
set_option linter.unusedVariables false

theorem rtrain10 (A : Option Addr) (l : List (List Int)) (cl : Nat) (dim parts k r s : Int) (w : World) (hm : MatC w A l) (h : pqE l dim parts k r = 0) :
    Calls Try.prog 12 #[.slice A l.length cl, .int .i64 dim, .int .i64 parts, .int .i64 k, .int .i64 r, .int .u64 s] w (RPqGood w dim.toNat parts.toNat (booksN l (dim.toNat / parts.toNat) parts.toNat k.toNat r.toNat s)) := by
  obtain ⟨h1, h2, h3, h4, h5, h6, h7, h8, h9, h10, h11, h12⟩ := pqE_ok h
  have hp := Parts.of h1 h3 h9
  have e1 : dim = ((dim.toNat : Nat) : Int) := by omega
  have e2 : parts = ((parts.toNat : Nat) : Int) := by omega
  have e3 : k = ((k.toNat : Nat) : Int) := by omega
  have e4 : r = ((r.toNat : Nat) : Int) := by omega
  have h := rpq_ok A l cl dim.toNat parts.toNat (dim.toNat / parts.toNat) k.toNat r.toNat s w hm hp (by omega) (by omega) (by omega) (by omega) (by omega) h10 (by omega) (by rw [← e1]; exact h12)
  rw [← e1, ← e2, ← e3, ← e4] at h
  exact h
def ListPost (w : World) (L : List Int) (E : Int) (e : Ending) (w' : World) : Prop := ∃ A c, e = .returned (.tuple #[.slice A L.length c, .int .i64 E]) ∧ Row w' A L ∧ Below w.heap.size w w'
def WtPost (w : World) (T : List (List Nat)) (E : Int) (e : Ending) (w' : World) : Prop := ∃ A c, e = .returned (.tuple #[.slice A T.length c, .int .i64 E]) ∧ WTab w' A T ∧ Below w.heap.size w w'
theorem CodePost.list {w : World} {L : List Int} {e : Ending} {w' : World} (h : CodePost w L e w') : ListPost w L 0 e w' := by
  obtain ⟨g, c, h1, _, h2, h3⟩ := h
  exact ⟨_, c, h1, h2, h3⟩
theorem CodeBad.list {w : World} {E : Int} {e : Ending} {w' : World} (h : CodeBad w E e w') : ListPost w [] E e w' := ⟨none, 0, h.1, Row.nil_, h.2⟩
theorem TabPost.wide {w : World} {T : List (List Nat)} {e : Ending} {w' : World} (h : TabPost w T e w') : WtPost w T 0 e w' := by
  obtain ⟨g, c, h1, h2, h3⟩ := h
  exact ⟨_, c, h1, h2, h3⟩
theorem CodeBad.wide {w : World} {E : Int} {e : Ending} {w' : World} (h : CodeBad w E e w') : WtPost w [] E e w' := ⟨none, 0, h.1, fun i hi => by simp at hi, h.2⟩
def encL (bs : List (List (List Int))) (n d p : Nat) (v : List Int) : List Int := if vecE v d = 0 then encN bs n v p else []
def decL (bs : List (List (List Int))) (p : Nat) (code : List Int) : List Int := if decE bs code = 0 then decN bs code p else []
def tabL (bs : List (List (List Int))) (n d p k : Nat) (v : List Int) : List (List Nat) := if vecE v d = 0 then tabN bs n v p k else []
section
variable {bs : List (List (List Int))} {d p n k : Nat}
theorem encL_length (hB : Cod bs d p n k) (v : List Int) : (encL bs n d p v).length ≤ 64 := by
  rw [encL]
  split
  · rw [encN_length]; have := hB.p8; omega
  · simp
theorem decL_length (hB : Cod bs d p n k) (code : List Int) : (decL bs p code).length ≤ 64 := by
  rw [decL]
  split
  · rename_i h
    rw [(dec_vec hB (decE_in hB h).2).1]; exact hB.d64
  · simp
theorem tabL_length (hB : Cod bs d p n k) (v : List Int) : (tabL bs n d p k v).length ≤ 64 ∧ ∀ i, i < (tabL bs n d p k v).length → (wrow (tabL bs n d p k v) i).length ≤ 64 := by
  rw [tabL]
  split
  · rw [tabN_length]
    refine ⟨by have := hB.p8; omega, fun i hi => ?_⟩
    rw [wrow_tabN hi, tabR_length]; have := hB.k16; omega
  · exact ⟨by simp, fun i hi => by simp at hi⟩
variable (gp : Nat) (V : Option Addr) (v code : List Int) (cv : Nat) (w : World)
theorem enc_all (hB : Cod bs d p n k) (hc : CoderAt w gp d bs) (hV : Row w V v) (hcv : v.length ≤ cv) :
    Calls Try.prog 13 #[.pointer (some ⟨gp, 0, none⟩), .slice V v.length cv] w (ListPost w (encL bs n d p v) (vecE v d)) := by
  rw [encL]
  split
  · rename_i h
    rw [h]
    exact (enc_ok gp d p n k bs V v cv w hB hc hV hcv h).mono fun e w' hh => hh.list
  · rename_i h
    obtain ⟨A, c, c0, _⟩ := hc
    exact (enc_bad gp d V v cv w c0 hV h).mono fun e w' hh => hh.list
theorem renc_all (hB : Cod bs d p n k) (hc : RCoderAt w gp d p bs) (hV : Row w V v) (hcv : v.length ≤ cv) :
    Calls Try.prog 14 #[.pointer (some ⟨gp, 0, none⟩), .slice V v.length cv] w (ListPost w (encL bs n d p v) (vecE v d)) := by
  rw [encL]
  split
  · rename_i h
    rw [h]
    exact (renc_ok gp d p n k bs V v cv w hB hc hV hcv h).mono fun e w' hh => hh.list
  · rename_i h
    obtain ⟨A, c, c0, _⟩ := hc
    exact (renc_bad gp d V v cv w c0 hV h).mono fun e w' hh => hh.list
theorem dec_all (hB : Cod bs d p n k) (hc : CoderAt w gp d bs) (hV : Row w V code) :
    Calls Try.prog 15 #[.pointer (some ⟨gp, 0, none⟩), .slice V code.length cv] w (ListPost w (decL bs p code) (decE bs code)) := by
  rw [decL]
  split
  · rename_i h
    rw [h]
    exact (dec_ok gp d p n k bs V code cv w hB hc hV h).mono fun e w' hh => hh.list
  · rename_i h
    exact (dec_any gp d p n k bs V code cv w hB hc hV h).mono fun e w' hh => hh.list
theorem rdec_all (hB : Cod bs d p n k) (hc : RCoderAt w gp d p bs) (hV : Row w V code) :
    Calls Try.prog 16 #[.pointer (some ⟨gp, 0, none⟩), .slice V code.length cv] w (ListPost w (decL bs p code) (decE bs code)) := by
  rw [decL]
  split
  · rename_i h
    rw [h]
    exact (rdec_ok gp d p n k bs V code cv w hB hc hV h).mono fun e w' hh => hh.list
  · rename_i h
    exact (rdec_any gp d p n k bs V code cv w hB hc hV h).mono fun e w' hh => hh.list
theorem tab_all (hB : Cod bs d p n k) (hc : CoderAt w gp d bs) (hV : Row w V v) (hcv : v.length ≤ cv) :
    Calls Try.prog 17 #[.pointer (some ⟨gp, 0, none⟩), .slice V v.length cv] w (WtPost w (tabL bs n d p k v) (vecE v d)) := by
  rw [tabL]
  split
  · rename_i h
    rw [h]
    exact (tab_ok gp d p n k bs V v cv w hB hc hV hcv h).mono fun e w' hh => hh.wide
  · rename_i h
    obtain ⟨A, c, c0, _⟩ := hc
    exact (tab_bad gp d V v cv w c0 hV h).mono fun e w' hh => hh.wide
theorem rtab_all (hB : Cod bs d p n k) (hc : RCoderAt w gp d p bs) (hV : Row w V v) (hcv : v.length ≤ cv) :
    Calls Try.prog 18 #[.pointer (some ⟨gp, 0, none⟩), .slice V v.length cv] w (WtPost w (tabL bs n d p k v) (vecE v d)) := by
  rw [tabL]
  split
  · rename_i h
    rw [h]
    exact (rtab_ok gp d p n k bs V v cv w hB hc hV hcv h).mono fun e w' hh => hh.wide
  · rename_i h
    obtain ⟨A, c, c0, _⟩ := hc
    exact (rtab_bad gp d V v cv w c0 hV h).mono fun e w' hh => hh.wide
end
set_option maxRecDepth 100000 in
set_option maxHeartbeats 4000000 in
theorem pqCodes_bad (A : Option Addr) (l : List (List Int)) (cl : Nat) (dim parts k r s : Int) (V : Option Addr) (v : List Int) (cv : Nat) (K : Option Addr) (code : List Int) (ck : Nat) (w : World) (hm : MatC w A l) (h : pqE l dim parts k r ≠ 0) :
    Calls Try.prog 3 #[.slice A l.length cl, .agg #[.int .i64 dim, .int .i64 parts, .int .i64 k, .int .i64 r, .int .u64 s], .slice V v.length cv, .slice K code.length ck] w (LawTrue w) := by
  have hb1 := below_alloc1 w (.cells #[.int .i64 dim, .int .i64 parts, .int .i64 k, .int .i64 r, .int .u64 s] 25)
  have hbk := Blk.new w 25 #[.int .i64 dim, .int .i64 parts, .int .i64 k, .int .i64 r, .int .u64 s]
  have hT := Lib.hid (fun x (hx : Mat x A l) => ltrain_bad A l cl dim parts k r s x hx h)
  have hne : (pqE l dim parts k r != 0) = true := by simpa using h
  generalize pqE l dim parts k r = E at *
  clear h
  obtain ⟨x, hx⟩ : ∃ x, decide ((32768 : Int) < (v.length : Int)) = x := ⟨_, rfl⟩
  obtain ⟨y, hy⟩ : ∃ y, decide ((32768 : Int) < (code.length : Int)) = y := ⟨_, rfl⟩
  go_enter Try.func3, Try.ntmps3
  go_upto_region 1 with fail
  generalize w.alloc (.cells #[.int .i64 dim, .int .i64 parts, .int .i64 k, .int .i64 r, .int .u64 s] 25) = w0 at *
  have hB := big_any A l cl w0 (hm.mat.below hb1)
  replace hm := Lib.hid (hm.below hb1)
  have e0 : w0.cell? ⟨w.heap.size, 0, none⟩ = some (.int .i64 dim) := hbk.cell 0
  have e1 : w0.cell? ⟨w.heap.size, 1, none⟩ = some (.int .i64 parts) := hbk.cell 1
  have e2 : w0.cell? ⟨w.heap.size, 2, none⟩ = some (.int .i64 k) := hbk.cell 2
  have e3 : w0.cell? ⟨w.heap.size, 3, none⟩ = some (.int .i64 r) := hbk.cell 3
  have e4 : w0.cell? ⟨w.heap.size, 4, none⟩ = some (.int .u64 s) := hbk.cell 4
  go_wp2_with fail
  refine hB.mono ?_
  rintro e w1 ⟨b, rfl, rfl, hbg⟩
  clear hB
  rcases b with _ | _
  rotate_left
  · go_wp2_with fail
    go_ret
    exact ⟨rfl, hb1⟩
  rcases x with _ | _
  rotate_left
  · go_wp2_with fail
    go_ret
    exact ⟨rfl, hb1⟩
  rcases y with _ | _
  rotate_left
  · go_wp2_with fail
    go_ret
    exact ⟨rfl, hb1⟩
  replace hbg := hbg rfl
  go_wp2_with fail
  refine (hT.out _ hm.out.mat).mono ?_
  rintro e w2 ⟨rfl, hb⟩
  replace hb1 := below_chain hb1 hb hb1.size
  clear hb
  go_wp2_with fail
  refine (awake_any w2).mono ?_
  rintro e w3 ⟨rfl, hb⟩
  replace hb1 := below_chain hb1 hb hb1.size
  clear hb
  go_wp2_with fail
  go_ret
  exact ⟨rfl, hb1⟩

set_option maxRecDepth 100000 in
set_option maxHeartbeats 8000000 in
theorem pqCodes_ok (A : Option Addr) (l : List (List Int)) (cl : Nat) (dim parts k r s : Int) (V : Option Addr) (v : List Int) (cv : Nat) (K : Option Addr) (code : List Int) (ck : Nat) (w : World) (hm : MatC w A l) (hV : Row w V v) (hcv : v.length ≤ cv) (hK : Row w K code) (h : pqE l dim parts k r = 0) :
    Calls Try.prog 3 #[.slice A l.length cl, .agg #[.int .i64 dim, .int .i64 parts, .int .i64 k, .int .i64 r, .int .u64 s], .slice V v.length cv, .slice K code.length ck] w (LawTrue w) := by
  have hb1 := below_alloc1 w (.cells #[.int .i64 dim, .int .i64 parts, .int .i64 k, .int .i64 r, .int .u64 s] 25)
  have hbk := Blk.new w 25 #[.int .i64 dim, .int .i64 parts, .int .i64 k, .int .i64 r, .int .u64 s]
  have hT := Lib.hid (fun x (hx : MatC x A l) => ltrain_good A l cl dim parts k r s x hx h)
  have hcod := cod_good s h
  have hRT := Lib.hid (fun x (hx : MatC x A l) => rtrain10 A l cl dim parts k r s x hx h)
  generalize booksN l (dim.toNat / parts.toNat) parts.toNat k.toNat r.toNat s = bs at *
  generalize dim.toNat / parts.toNat = n at *
  generalize hdd : dim.toNat = d at *
  generalize hpp : parts.toNat = p at *
  generalize hkk : k.toNat = kk at *
  clear h
  obtain ⟨x, hx⟩ : ∃ x, decide ((32768 : Int) < (v.length : Int)) = x := ⟨_, rfl⟩
  obtain ⟨y, hy⟩ : ∃ y, decide ((32768 : Int) < (code.length : Int)) = y := ⟨_, rfl⟩
  go_enter Try.func3, Try.ntmps3
  go_upto_region 1 with fail
  generalize w.alloc (.cells #[.int .i64 dim, .int .i64 parts, .int .i64 k, .int .i64 r, .int .u64 s] 25) = w0 at *
  have hB := big_any A l cl w0 (hm.mat.below hb1)
  replace hm := Lib.hid (hm.below hb1)
  replace hV := hV.below hb1
  replace hK := hK.below hb1
  have e0 : w0.cell? ⟨w.heap.size, 0, none⟩ = some (.int .i64 dim) := hbk.cell 0
  have e1 : w0.cell? ⟨w.heap.size, 1, none⟩ = some (.int .i64 parts) := hbk.cell 1
  have e2 : w0.cell? ⟨w.heap.size, 2, none⟩ = some (.int .i64 k) := hbk.cell 2
  have e3 : w0.cell? ⟨w.heap.size, 3, none⟩ = some (.int .i64 r) := hbk.cell 3
  have e4 : w0.cell? ⟨w.heap.size, 4, none⟩ = some (.int .u64 s) := hbk.cell 4
  go_wp2_with fail
  refine hB.mono ?_
  rintro e w1 ⟨b, rfl, rfl, hbg⟩
  clear hB
  rcases b with _ | _
  rotate_left
  · go_wp2_with fail
    go_ret
    exact ⟨rfl, hb1⟩
  rcases x with _ | _
  rotate_left
  · go_wp2_with fail
    go_ret
    exact ⟨rfl, hb1⟩
  rcases y with _ | _
  rotate_left
  · go_wp2_with fail
    go_ret
    exact ⟨rfl, hb1⟩
  replace hbg := hbg rfl
  go_wp2_with fail
  refine (hT.out _ hm.out).mono ?_
  rintro e w2 ⟨gp, rfl, hC, hgp, hb⟩
  replace hb1 := below_chain hb1 hb hb1.size
  replace hV := hV.below hb
  replace hK := hK.below hb
  have f0 : w2.cell? ⟨w.heap.size, 0, none⟩ = some (.int .i64 dim) := below_cell hb e0
  have f1 : w2.cell? ⟨w.heap.size, 1, none⟩ = some (.int .i64 parts) := below_cell hb e1
  have f2 : w2.cell? ⟨w.heap.size, 2, none⟩ = some (.int .i64 k) := below_cell hb e2
  have f3 : w2.cell? ⟨w.heap.size, 3, none⟩ = some (.int .i64 r) := below_cell hb e3
  have f4 : w2.cell? ⟨w.heap.size, 4, none⟩ = some (.int .u64 s) := below_cell hb e4
  replace hm := Lib.hid (hm.out.below hb)
  clear hb hbk e0 e1 e2 e3 e4 hT
  have hEn := Lib.hid (fun y g (h1 : CoderAt y g d bs) (h2 : Row y V v) => enc_all g V v cv y hcod h1 h2 hcv)
  have hRn := Lib.hid (fun y g (h1 : RCoderAt y g d p bs) (h2 : Row y V v) => renc_all g V v cv y hcod h1 h2 hcv)
  have hDe := Lib.hid (fun y g (h1 : CoderAt y g d bs) (h2 : Row y K code) => dec_all g K code ck y hcod h1 h2)
  have hRe := Lib.hid (fun y g (h1 : RCoderAt y g d p bs) (h2 : Row y K code) => rdec_all g K code ck y hcod h1 h2)
  have hTa := Lib.hid (fun y g (h1 : CoderAt y g d bs) (h2 : Row y V v) => tab_all g V v cv y hcod h1 h2 hcv)
  have hRa := Lib.hid (fun y g (h1 : RCoderAt y g d p bs) (h2 : Row y V v) => rtab_all g V v cv y hcod h1 h2 hcv)
  have l1 := encL_length hcod v
  have l2 := decL_length hcod code
  have l3 := tabL_length hcod v
  clear hcod
  generalize encL bs n d p v = L1 at *
  generalize decL bs p code = L2 at *
  generalize tabL bs n d p kk v = T at *
  generalize vecE v d = E1 at *
  generalize decE bs code = E2 at *
  replace l1 := Lib.hid l1
  replace l2 := Lib.hid l2
  replace l3 := Lib.hid l3
  clear hdd hpp hkk hbg
  go_wp2_with fail
  refine (hRT.out _ hm.out).mono ?_
  rintro e w3 ⟨gm, rfl, hM, hb⟩
  replace hb1 := below_chain hb1 hb hb1.size
  replace hV := hV.below hb
  replace hK := hK.below hb
  replace hC := hC.below hb
  clear hb hRT hm f0 f1 f2 f3 f4
  go_wp2_with fail
  refine (hEn.out w3 gp hC hV).mono ?_
  rintro e w4 ⟨A1, c1, rfl, hR1, hb⟩
  replace hb1 := below_chain hb1 hb hb1.size
  replace hV := hV.below hb
  replace hK := hK.below hb
  replace hC := hC.below hb
  replace hM := hM.below hb
  clear hb
  go_wp2_with fail
  refine (hRn.out w4 gm hM hV).mono ?_
  rintro e w5 ⟨A2, c2, rfl, hR2, hb⟩
  replace hb1 := below_chain hb1 hb hb1.size
  replace hV := hV.below hb
  replace hK := hK.below hb
  replace hC := hC.below hb
  replace hM := hM.below hb
  replace hR1 := hR1.below hb
  clear hb
  go_wp2_with fail
  refine (hDe.out w5 gp hC hK).mono ?_
  rintro e w6 ⟨A3, c3, rfl, hR3, hb⟩
  replace hb1 := below_chain hb1 hb hb1.size
  replace hV := hV.below hb
  replace hK := hK.below hb
  replace hC := hC.below hb
  replace hM := hM.below hb
  replace hR1 := hR1.below hb
  replace hR2 := hR2.below hb
  clear hb
  go_wp2_with fail
  refine (hRe.out w6 gm hM hK).mono ?_
  rintro e w7 ⟨A4, c4, rfl, hR4, hb⟩
  replace hb1 := below_chain hb1 hb hb1.size
  replace hV := hV.below hb
  replace hC := hC.below hb
  replace hM := hM.below hb
  replace hR1 := hR1.below hb
  replace hR2 := hR2.below hb
  replace hR3 := hR3.below hb
  clear hb
  go_wp2_with fail
  refine (hTa.out w7 gp hC hV).mono ?_
  rintro e w8 ⟨A5, c5, rfl, hR5, hb⟩
  replace hb1 := below_chain hb1 hb hb1.size
  replace hV := hV.below hb
  replace hM := hM.below hb
  replace hR1 := hR1.below hb
  replace hR2 := hR2.below hb
  replace hR3 := hR3.below hb
  replace hR4 := hR4.below hb
  clear hb
  go_wp2_with fail
  refine (hRa.out w8 gm hM hV).mono ?_
  rintro e w9 ⟨A6, c6, rfl, hR6, hb⟩
  replace hb1 := below_chain hb1 hb hb1.size
  replace hR1 := hR1.below hb
  replace hR2 := hR2.below hb
  replace hR3 := hR3.below hb
  replace hR4 := hR4.below hb
  replace hR5 := hR5.below hb
  clear hb hEn hRn hDe hRe hTa hRa hV hK hC hM
  go_wp2_with fail
  refine (awake_any w9).mono ?_
  rintro e w10 ⟨rfl, hb⟩
  replace hb1 := below_chain hb1 hb hb1.size
  replace hR1 := hR1.below hb
  replace hR2 := hR2.below hb
  replace hR3 := hR3.below hb
  replace hR4 := hR4.below hb
  replace hR5 := hR5.below hb
  replace hR6 := hR6.below hb
  clear hb
  go_wp2_with fail
  refine (ints_any A1 A2 L1 L1 c1 c2 w10 hR1 hR2 (by have := l1.out; omega)).mono ?_
  rw [decide_eq_true (rfl : L1 = L1)]
  rintro e w11 ⟨rfl, hD⟩
  have hb := hD.below w10.heap.size
  replace hb1 := below_chain hb1 hb hb1.size
  replace hR3 := hR3.below hb
  replace hR4 := hR4.below hb
  replace hR5 := hR5.below hb
  replace hR6 := hR6.below hb
  clear hb hD hR1 hR2
  go_wp2_with fail
  refine (ints_any A3 A4 L2 L2 c3 c4 w11 hR3 hR4 (by have := l2.out; omega)).mono ?_
  rw [decide_eq_true (rfl : L2 = L2)]
  rintro e w12 ⟨rfl, hD⟩
  have hb := hD.below w11.heap.size
  replace hb1 := below_chain hb1 hb hb1.size
  replace hR5 := hR5.below hb
  replace hR6 := hR6.below hb
  clear hb hD hR3 hR4
  go_wp2_with fail
  refine (rsame_eq A5 A6 T c5 c6 w12 hR5 hR6 l3.out.1 l3.out.2).mono ?_
  rintro e w13 ⟨rfl, hD⟩
  have hb := hD.below w12.heap.size
  replace hb1 := below_chain hb1 hb hb1.size
  clear hb hD hR5 hR6
  go_wp2_with fail
  go_ret
  exact ⟨rfl, hb1⟩

theorem pqCodes_any (A : Option Addr) (l : List (List Int)) (cl : Nat) (dim parts k r s : Int) (V : Option Addr) (v : List Int) (cv : Nat) (K : Option Addr) (code : List Int) (ck : Nat) (w : World) (hm : MatC w A l) (hV : Row w V v) (hcv : v.length ≤ cv) (hK : Row w K code) :
    Calls Try.prog 3 #[.slice A l.length cl, .agg #[.int .i64 dim, .int .i64 parts, .int .i64 k, .int .i64 r, .int .u64 s], .slice V v.length cv, .slice K code.length ck] w (LawTrue w) := by
  by_cases h : pqE l dim parts k r = 0
  · exact pqCodes_ok A l cl dim parts k r s V v cv K code ck w hm hV hcv hK h
  · exact pqCodes_bad A l cl dim parts k r s V v cv K code ck w hm h
end Go.Proofs.Ytiamppbgpoffmaa
