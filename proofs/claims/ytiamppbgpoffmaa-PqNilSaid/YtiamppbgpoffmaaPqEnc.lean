/- The contract of the coder's Encode. -/
import Derived.Test.YtiamppbgpoffmaaPqTrain
namespace Go.Proofs.Ytiamppbgpoffmaa
open Go.RowKit
set_option linter.unusedVariables false

/-- Books as a training leaves them. -/
structure Cod (bs : List (List (List Int))) (d p n k : Nat) : Prop where
  len : bs.length = p
  parts : Parts d p n
  d64 : d ≤ 64
  p8 : p ≤ 8
  k1 : 1 ≤ k
  k16 : k ≤ 16
  rows : ∀ i, i < p → (brow bs i).length = k
  coords : ∀ i, i < p → CoordAll (brow bs i) n
theorem Cod.n64 {bs : List (List (List Int))} {d p n k : Nat} (h : Cod bs d p n k) : 1 ≤ n ∧ n ≤ d ∧ 1 ≤ d := by
  have h1 := h.parts.n1
  have h2 := h.parts.fits (i := 0) h.parts.p1
  rw [Nat.zero_add, Nat.one_mul] at h2
  omega
theorem Cod.ok {bs : List (List (List Int))} {d p n k : Nat} (h : Cod bs d p n k) {i : Nat} (hi : i < p) : AllOk (brow bs i) n k := by
  have := (h.coords i hi).ok h.n64.1 (by have := h.n64; have := h.d64; omega)
  rwa [h.rows i hi] at this
theorem Cod.may {bs : List (List (List Int))} {d p n k : Nat} (h : Cod bs d p n k) {i : Nat} (hi : i < p) : mayE (brow bs i) = 0 ∧ (mrow (brow bs i) 0).length = n := by
  have h1 := h.rows i hi
  have h2 := h.k1
  have h3 := h.k16
  have e0 : (mrow (brow bs i) 0).length = n := (h.coords i hi 0 (by omega)).1
  refine ⟨?_, e0⟩
  have h4 := h.ok hi
  rw [mayE, h1, e0, if_neg (by omega)]
  exact allE_none _ _ (by rw [h1]; exact h4)
/-- The first j numbers of a code. -/
def encN (bs : List (List (List Int))) (n : Nat) (v : List Int) (j : Nat) : List Int := (List.range j).map fun i => ((nearN (brow bs i) (partN v n i)).1 : Int)
theorem encN_length (bs : List (List (List Int))) (n : Nat) (v : List Int) (j : Nat) : (encN bs n v j).length = j := by simp [encN]
theorem encN_succ (bs : List (List (List Int))) (n : Nat) (v : List Int) (j : Nat) : encN bs n v j ++ [((nearN (brow bs j) (partN v n j)).1 : Int)] = encN bs n v (j + 1) := by simp [encN, List.range_succ]
theorem nth_encN {bs : List (List (List Int))} {n : Nat} {v : List Int} {j i : Nat} (h : i < j) : nth (encN bs n v j) i = ((nearN (brow bs i) (partN v n i)).1 : Int) := nth_map _ _ h
theorem own_cap {w : World} {base n g cap : Nat} {e : TypeId} {xs : List Value} {size : Nat} (h : w.ownsRow base e size (.slice (some ⟨g, 0, none⟩) n cap) n xs) : n ≤ cap := by
  rcases h.2 with ⟨h', _⟩ | ⟨g', cap', cur, h', _, _, hn, _⟩
  · simp at h'
  · simp only [Value.slice.injEq] at h'
    omega
def CodePost (w : World) (l : List Int) (e : Ending) (w' : World) : Prop := ∃ g c, e = .returned (.tuple #[.slice (some ⟨g, 0, none⟩) l.length c, .int .i64 0]) ∧ l.length ≤ c ∧ Row w' (some ⟨g, 0, none⟩) l ∧ Below w.heap.size w w'
def CodeBad (w : World) (f : Int) (e : Ending) (w' : World) : Prop := e = .returned (.tuple #[.slice none 0 0, .int .i64 f]) ∧ Below w.heap.size w w'

theorem enc_nil (V : Option Addr) (n cv : Nat) (w : World) : Calls Try.prog 13 #[.pointer none, .slice V n cv] w (CodeBad w 3) := by
  go_enter Try.func13, Try.ntmps13
  go_wp2_with fail
  go_ret2
  exact ⟨rfl, Below.refl _ _⟩
theorem enc_bad (gp d : Nat) (V : Option Addr) (v : List Int) (cv : Nat) (w : World) (hc : w.cell? ⟨gp, 0, none⟩ = some (.int .i64 (d : Int))) (hV : Row w V v) (hE : vecE v d ≠ 0) :
    Calls Try.prog 13 #[.pointer (some ⟨gp, 0, none⟩), .slice V v.length cv] w (CodeBad w (vecE v d)) := by
  have hC := Lib.hid (vec_any V v cv d w hV)
  have hne : (vecE v d != 0) = true := by simpa using hE
  generalize vecE v d = E at *
  clear hE
  go_enter Try.func13, Try.ntmps13
  go_wp2_with fail
  refine hC.out.mono ?_
  rintro e w1 ⟨rfl, rfl⟩
  go_wp2_with fail
  go_ret2
  exact ⟨rfl, Below.refl _ _⟩
set_option maxRecDepth 100000 in
set_option maxHeartbeats 4000000 in
theorem enc_ok (gp d p n k : Nat) (bs : List (List (List Int))) (V : Option Addr) (v : List Int) (cv : Nat) (w : World) (hB : Cod bs d p n k) (hc : CoderAt w gp d bs) (hV : Row w V v) (hcv : v.length ≤ cv) (hE : vecE v d = 0) :
    Calls Try.prog 13 #[.pointer (some ⟨gp, 0, none⟩), .slice V v.length cv] w (CodePost w (encN bs n v p)) := by
  obtain ⟨A, c, c0, c1, hbk⟩ := hc
  have hC := Lib.hid (vec_any V v cv d w hV)
  rw [hE] at hC
  have hvl : v.length = d := by have := (vecE_ok hE).2.2.1; omega
  have hp1 := hB.parts.p1
  have hp8 := hB.p8
  have hd1 := hB.n64
  obtain ⟨gv, ov, rfl, hcv0⟩ := hV 0 (by omega)
  clear hcv0
  rw [hB.len] at c1
  replace hB := Lib.hid hB
  replace hE := Lib.hid hE
  replace hvl := Lib.hid hvl
  go_enter Try.func13, Try.ntmps13
  go_wp2_with fail
  refine hC.out.mono ?_
  rintro e w1 ⟨rfl, rfl⟩
  go_wp2_with fail
  clear hC
  go_loopw [7, 29] (fun o i wr => ∃ j : Nat, j ≤ p ∧ i = .int .i64 (j : Int) ∧ wr.ownsRow w.heap.size 3 1 o j (vals (encN bs n v j)) ∧ Below w.heap.size w wr) (fun _ i _ => p - (intOf i).toNat)
  case atStart => exact ⟨0, Nat.zero_le _, rfl, World.ownsRow_nil _ _ _ _, Below.refl _ _⟩
  case round =>
    obtain ⟨j, hj, rfl, HO, HB⟩ := hrel
    by_cases hlt : j < p
    · have q0 : (0 : Int) ≤ (j : Int) := by omega
      have q1 : (j : Int) < (p : Int) := by omega
      obtain ⟨g, o, R, rc, hA, hc1, hR⟩ := hbk j (by rw [hB.out.len]; exact hlt)
      subst hA
      have hP := Lib.hid (part_any gv ov v cv p n j (by rw [hvl.out]; exact hB.out.parts) hlt (by rw [hvl.out]; exact hB.out.d64) hcv)
      have hpo := part_ok hB.out.parts hlt hB.out.d64 hE.out
      have hpr := row_part_at (hV.below HB) (by rw [hvl.out]; exact hB.out.parts.fits hlt)
      have hN := Near_any R (brow bs j) rc (some ⟨gv, ov + j * n, none⟩) (partN v n j) n wr (hR.below HB) hpr
      have hne : nearE (brow bs j) (partN v n j) = 0 := by rw [nearE, if_pos (hB.out.may hlt).1, (hB.out.may hlt).2]; exact hpo.2
      rw [nearAt, nearD, if_pos hne, if_pos hne, hne, hpo.1] at hN
      replace hN := Lib.hid hN
      have hsW := encN_succ bs n v j
      replace hsW := Lib.hid hsW
      generalize nearN (brow bs j) (partN v n j) = N at *
      obtain ⟨a, D⟩ := N
      have d1 := below_cell HB hc1
      have d2 := below_cell HB c1
      clear hpo hpr hne hc1 hR
      go_wp2_with fail
      refine (hP.out _).mono ?_
      rintro e w2 ⟨rfl, rfl⟩
      go_wp2_with fail
      refine hN.out.mono ?_
      rintro e w3 ⟨rfl, hb⟩
      have HO3 := (HO.kept (grown_of_below hb none) (by simp; exact Classical.em _)).alloc (.cells #[.int .u64 (hiN D : Int), .int .u64 (loN D : Int)] 44)
      have HB3 := below_chain HB hb HB.size
      have HB4 := below_chain HB3 (below_alloc1 w3 (.cells #[.int .u64 (hiN D : Int), .int .u64 (loN D : Int)] 44)) HB3.size
      have hz := HB4.size
      clear d1 d2 hN hb HO
      go_upto_region 11 with fail
      generalize w3.alloc (.cells #[.int .u64 (hiN D : Int), .int .u64 (loN D : Int)] 44) = w4 at *
      go_wp2_with (at_builtin; refine append_one w.heap.size rfl (.tmp 48) (.tmp 50) _ 3 (.int .i64 0) 8 rfl Try.underlying26 int_info' rfl (by omega) u7 j _ (.int .i64 (a : Int)) rfl rfl rfl HO3 hz (by omega) ?_; intro v1 w1 HO1 hg1 hat1)
      rw [vals_snoc, hsW.out] at HO1
      have HB1 := below_of_grown HB4 hg1 (fun q hq => (own_lt' HO3 q hq).1)
      exact ⟨⟨j + 1, by omega, by go_num, HO1, HB1⟩, by simp [intOf]; omega⟩
    · obtain rfl : j = p := by omega
      obtain ⟨gw, cw, rfl, hgw1, hgw2⟩ := own_shape HO (by omega)
      have hW : Row wr (some ⟨gw, 0, none⟩) (encN bs n v j) := fun x hx => ⟨gw, 0, rfl, by rw [Nat.zero_add]; exact own_int HO x (by rwa [encN_length] at hx)⟩
      go_wp2_with fail
      go_ret2
      exact ⟨gw, cw, by rw [encN_length]; rfl, by rw [encN_length]; exact own_cap HO, hW, HB⟩
end Go.Proofs.Ytiamppbgpoffmaa
