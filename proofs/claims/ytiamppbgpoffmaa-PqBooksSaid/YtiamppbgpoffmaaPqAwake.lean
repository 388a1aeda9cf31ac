/- The contract of theodolitelaw10.awake: true. -/
import Derived.Test.YtiamppbgpoffmaaPqEst
namespace Go.Proofs.Ytiamppbgpoffmaa
open Go.RowKit
set_option linter.unusedVariables false

theorem pq_good (A : Option Addr) (l : List (List Int)) (cl : Nat) (dim parts k r s : Int) (w : World) (hm : MatC w A l) (h : pqE l dim parts k r = 0) :
    Calls Try.prog 28 #[.slice A l.length cl, .int .i64 dim, .int .i64 parts, .int .i64 k, .int .i64 r, .int .u64 s] w (PqGood w dim.toNat (booksN l (dim.toNat / parts.toNat) parts.toNat k.toNat r.toNat s)) := by
  obtain ⟨h1, h2, h3, h4, h5, h6, h7, h8, h9, h10, h11, h12⟩ := pqE_ok h
  have hp := Parts.of h1 h3 h9
  have e := pq_ok A l cl dim.toNat parts.toNat (dim.toNat / parts.toNat) k r s w hm hp (by omega) (by omega) h5 h6 h7 h8 h10 h11 (by rw [show ((dim.toNat : Nat) : Int) = dim by omega]; exact h12)
  rw [show ((dim.toNat : Nat) : Int) = dim by omega, show ((parts.toNat : Nat) : Int) = parts by omega] at e
  exact e
theorem cod_good {l : List (List Int)} {dim parts k r : Int} (s : Int) (h : pqE l dim parts k r = 0) : Cod (booksN l (dim.toNat / parts.toNat) parts.toNat k.toNat r.toNat s) dim.toNat parts.toNat (dim.toNat / parts.toNat) k.toNat := by
  obtain ⟨h1, h2, h3, h4, h5, h6, h7, h8, h9, h10, h11, h12⟩ := pqE_ok h
  have hp := Parts.of h1 h3 h9
  have h12' : AllOk l dim.toNat l.length := by rw [show ((dim.toNat : Nat) : Int) = dim by omega]; exact h12
  exact ⟨booksN_length _ _ _ _ _ _, hp, by omega, by omega, by omega, by omega, fun i hi => by rw [brow_booksN hi, bookN_length], fun i hi => by
    rw [brow_booksN hi]
    exact book_ok s hp hi (by omega) h12' h5 (by omega) h7 h8 h10 h11⟩
theorem tabN_wd {bs : List (List (List Int))} {d p n k : Nat} (h : Cod bs d p n k) {v : List Int} (hE : vecE v d = 0) : TabW (tabN bs n v p k) := fun i x hi hx => by
  rw [tabN_length] at hi
  rw [wrow_tabN hi] at hx ⊢
  rw [tabR_length] at hx
  rw [nthw_tabR hx]
  have hp := part_ok h.parts hi h.d64 hE
  obtain ⟨a1, a2, a3, a4⟩ := vecE_ok (h.ok hi x hx)
  obtain ⟨_, _, _, b4⟩ := vecE_ok hp.2
  rw [hp.1] at b4
  have hr := (h.coords i hi x (by rw [h.rows i hi]; exact hx))
  rw [farN, hp.1]
  exact farTo_wd (by have := h.n64; have := h.d64; omega) b4 hr.2

def exB : List (List (List Int)) := booksN [[0, 0], [10, 10]] 1 2 2 20 3
theorem ex_pq : pqE [[0, 0], [10, 10]] 2 2 2 20 = 0 := by kernel_rfl
theorem ex_pqF : pqE [[0, 0], [10, 10]] 2 3 2 20 = 100 := by kernel_rfl
theorem ex_vec : vecE [1, 9] ((2 : Nat) : Int) = 0 := by kernel_rfl
theorem ex_decE : decE exB (encN exB 1 [1, 9] 2) = 0 := by kernel_rfl
theorem ex_dec : decN exB (encN exB 1 [1, 9] 2) 2 = [0, 10] := by kernel_rfl
theorem ex_estE : estE (tabN exB 1 [1, 9] 2 2) (encN exB 1 [1, 9] 2) = 0 := by kernel_rfl
theorem ex_est : estV (tabN exB 1 [1, 9] 2 2) (encN exB 1 [1, 9] 2) = 2 := by kernel_rfl
theorem ex_two : (hiN 2 : Int) = 0 ∧ (loN 2 : Int) = 2 := ⟨by kernel_rfl, by kernel_rfl⟩
theorem ex_cod : Cod exB 2 2 1 2 := by
  have h := cod_good (l := [[0, 0], [10, 10]]) (dim := 2) (parts := 2) (k := 2) (r := 20) 3 ex_pq
  rw [show (2 : Int).toNat = 2 from rfl, show (20 : Int).toNat = 20 from rfl, show 2 / 2 = 1 from rfl] at h
  unfold exB
  exact h
theorem ex_good (A : Option Addr) (w : World) (hm : MatC w A [[0, 0], [10, 10]]) :
    Calls Try.prog 28 #[.slice A 2 2, .int .i64 2, .int .i64 2, .int .i64 2, .int .i64 20, .int .u64 3] w (PqGood w 2 exB) := by
  have h := pq_good A [[0, 0], [10, 10]] 2 2 2 2 20 3 w hm ex_pq
  rw [show (2 : Int).toNat = 2 from rfl, show (20 : Int).toNat = 20 from rfl, show 2 / 2 = 1 from rfl] at h
  unfold exB
  exact h
theorem ex_bad (A : Option Addr) (w : World) (hm : Mat w A [[0, 0], [10, 10]]) :
    Calls Try.prog 28 #[.slice A 2 2, .int .i64 2, .int .i64 3, .int .i64 2, .int .i64 20, .int .u64 3] w (PqBad w 100) := by
  have h := pq_bad A [[0, 0], [10, 10]] 2 2 3 2 20 3 w hm (by rw [ex_pqF]; decide)
  rw [ex_pqF] at h
  exact h
def exK : List Int := encN exB 1 [1, 9] 2
def exT : List (List Nat) := tabN exB 1 [1, 9] 2 2
theorem ex_enc (gp : Nat) (V : Option Addr) (w : World) (hC : CoderAt w gp 2 exB) (hV : Row w V [1, 9]) :
    Calls Try.prog 13 #[.pointer (some ⟨gp, 0, none⟩), .slice V 2 2] w fun e w' => ∃ g c, e = .returned (.tuple #[.slice (some ⟨g, 0, none⟩) 2 c, .int .i64 0]) ∧ Row w' (some ⟨g, 0, none⟩) exK ∧ Below w.heap.size w w' := by
  refine (enc_ok gp 2 2 1 2 exB V [1, 9] 2 w ex_cod hC hV (Nat.le_refl 2) ex_vec).mono ?_
  rintro e w' ⟨g, c, h1, _, h2, h3⟩
  rw [encN_length] at h1
  exact ⟨g, c, h1, h2, h3⟩
theorem ex_Dec (gp : Nat) (V : Option Addr) (c : Nat) (w : World) (hC : CoderAt w gp 2 exB) (hV : Row w V exK) :
    Calls Try.prog 15 #[.pointer (some ⟨gp, 0, none⟩), .slice V 2 c] w fun e w' => ∃ g c, e = .returned (.tuple #[.slice (some ⟨g, 0, none⟩) 2 c, .int .i64 0]) ∧ Row w' (some ⟨g, 0, none⟩) [0, 10] ∧ Below w.heap.size w w' := by
  have h := dec_ok gp 2 2 1 2 exB V (encN exB 1 [1, 9] 2) c w ex_cod hC hV ex_decE
  rw [encN_length, ex_dec] at h
  refine h.mono ?_
  rintro e w' ⟨g, c, h1, _, h2, h3⟩
  exact ⟨g, c, h1, h2, h3⟩
theorem ex_tab (gp : Nat) (V : Option Addr) (w : World) (hC : CoderAt w gp 2 exB) (hV : Row w V [1, 9]) :
    Calls Try.prog 17 #[.pointer (some ⟨gp, 0, none⟩), .slice V 2 2] w fun e w' => ∃ g c, e = .returned (.tuple #[.slice (some ⟨g, 0, none⟩) 2 c, .int .i64 0]) ∧ WTab w' (some ⟨g, 0, none⟩) exT ∧ Below w.heap.size w w' := by
  refine (tab_ok gp 2 2 1 2 exB V [1, 9] 2 w ex_cod hC hV (Nat.le_refl 2) ex_vec).mono ?_
  rintro e w' ⟨g, c, h1, h2, h3⟩
  rw [tabN_length] at h1
  exact ⟨g, c, h1, h2, h3⟩
theorem ex_Est (A V : Option Addr) (c cv : Nat) (w : World) (hA : WTab w A exT) (hV : Row w V exK) :
    Calls Try.prog 21 #[.slice A 2 c, .slice V 2 cv] w fun e w' => e = .returned (.tuple #[.agg #[.int .u64 0, .int .u64 2], .int .i64 0]) ∧ Below w.heap.size w w' := by
  have h := est_any A V (tabN exB 1 [1, 9] 2 2) (encN exB 1 [1, 9] 2) c cv w hA hV (by rw [encN_length]; omega) (tabN_wd ex_cod ex_vec)
  rw [tabN_length, encN_length, ex_est, ex_estE] at h
  obtain ⟨z0, z1⟩ := ex_two
  unfold EstPost at h
  rw [z0, z1] at h
  exact h
theorem row2_new (w : World) (x y : Int) : Row (w.alloc (.cells #[.int .i64 x, .int .i64 y] 3)) (some ⟨w.heap.size, 0, none⟩) [x, y] := Row.of_blk (l := [x, y]) (Blk.new w 3 #[.int .i64 x, .int .i64 y])
/-- Two rows of two that are written out. -/
theorem mat22 (w : World) (a b c d : Int) :
    MatC (((w.alloc (.cells #[.int .i64 a, .int .i64 b] 3)).alloc (.cells #[.int .i64 c, .int .i64 d] 3)).alloc (.cells #[.slice (some ⟨w.heap.size, 0, none⟩) 2 2, .slice (some ⟨w.heap.size + 1, 0, none⟩) 2 2] 26)) (some ⟨w.heap.size + 2, 0, none⟩) [[a, b], [c, d]]
    ∧ Below w.heap.size w (((w.alloc (.cells #[.int .i64 a, .int .i64 b] 3)).alloc (.cells #[.int .i64 c, .int .i64 d] 3)).alloc (.cells #[.slice (some ⟨w.heap.size, 0, none⟩) 2 2, .slice (some ⟨w.heap.size + 1, 0, none⟩) 2 2] 26)) := by
  refine ⟨?_, ((below_alloc1 _ _).alloc (by simp) _).alloc (by simp; omega) _⟩
  have r1 := ((row2_new w a b).below (below_alloc1 _ (.cells #[.int .i64 c, .int .i64 d] 3))).below (below_alloc1 _ (.cells #[.slice (some ⟨w.heap.size, 0, none⟩) 2 2, .slice (some ⟨w.heap.size + 1, 0, none⟩) 2 2] 26))
  have r2 := (row2_new (w.alloc (.cells #[.int .i64 a, .int .i64 b] 3)) c d).below (below_alloc1 _ (.cells #[.slice (some ⟨w.heap.size, 0, none⟩) 2 2, .slice (some ⟨w.heap.size + 1, 0, none⟩) 2 2] 26))
  have b3 := Blk.new ((w.alloc (.cells #[.int .i64 a, .int .i64 b] 3)).alloc (.cells #[.int .i64 c, .int .i64 d] 3)) 26 #[.slice (some ⟨w.heap.size, 0, none⟩) 2 2, .slice (some ⟨w.heap.size + 1, 0, none⟩) 2 2]
  rw [show (w.alloc (.cells #[.int .i64 a, .int .i64 b] 3)).heap.size = w.heap.size + 1 by simp] at r2
  rw [show ((w.alloc (.cells #[.int .i64 a, .int .i64 b] 3)).alloc (.cells #[.int .i64 c, .int .i64 d] 3)).heap.size = w.heap.size + 2 by simp] at b3
  intro i hi
  match i, hi with
  | 0, _ => exact ⟨_, 0, _, 2, rfl, b3.cell 0, Nat.le_refl 2, r1⟩
  | 1, _ => exact ⟨_, 0, _, 2, rfl, b3.cell 1, Nat.le_refl 2, r2⟩

set_option maxRecDepth 100000 in
set_option maxHeartbeats 4000000 in
theorem awake_any (w : World) : Calls Try.prog 11 #[] w fun e w' => e = .returned (.bool true) ∧ Below w.heap.size w w' := by
  obtain ⟨M1, B1⟩ := mat22 w 0 0 10 10
  go_enter Try.func11, Try.ntmps11
  go_wp2_with fail
  generalize (((w.alloc (.cells #[.int .i64 0, .int .i64 0] 3)).alloc (.cells #[.int .i64 10, .int .i64 10] 3)).alloc (.cells #[.slice (some ⟨w.heap.size, 0, none⟩) 2 2, .slice (some ⟨w.heap.size + 1, 0, none⟩) 2 2] 26)) = w1 at *
  refine (ex_good (some ⟨w.heap.size + 2, 0, none⟩) w1 M1).mono ?_
  rintro e w2 ⟨gp, rfl, hC, _, hb⟩
  replace B1 := below_chain B1 hb B1.size
  clear M1 hb
  obtain ⟨M2, B2⟩ := mat22 w2 0 0 10 10
  replace M2 := M2.mat
  go_wp2_with fail
  generalize (((w2.alloc (.cells #[.int .i64 0, .int .i64 0] 3)).alloc (.cells #[.int .i64 10, .int .i64 10] 3)).alloc (.cells #[.slice (some ⟨w2.heap.size, 0, none⟩) 2 2, .slice (some ⟨w2.heap.size + 1, 0, none⟩) 2 2] 26)) = w3 at *
  refine (ex_bad (some ⟨w2.heap.size + 2, 0, none⟩) w3 M2).mono ?_
  rintro e w4 ⟨rfl, hb⟩
  replace B2 := below_chain B2 hb B2.size
  replace B1 := below_chain B1 B2 B1.size
  replace hC := hC.below B2
  clear M2 hb B2
  have R5 := row2_new w4 1 9
  have B5 := below_alloc1 w4 (.cells #[.int .i64 1, .int .i64 9] 3)
  go_wp2_with fail
  generalize w4.alloc (.cells #[.int .i64 1, .int .i64 9] 3) = w5 at *
  refine (ex_enc gp (some ⟨w4.heap.size, 0, none⟩) w5 (hC.below B5) R5).mono ?_
  rintro e w6 ⟨gk, ck, rfl, hK, hb⟩
  have B6 := below_chain B5 hb B5.size
  replace B1 := below_chain B1 B6 B1.size
  replace hC := hC.below B6
  clear B5 hb B6 R5
  go_wp2_with fail
  refine (ex_Dec gp (some ⟨gk, 0, none⟩) ck w6 hC hK).mono ?_
  rintro e w7 ⟨gv, cv, rfl, hV, hb⟩
  replace B1 := below_chain B1 hb B1.size
  replace hC := hC.below hb
  replace hK := hK.below hb
  clear hb
  have R5 := row2_new w7 1 9
  have B5 := below_alloc1 w7 (.cells #[.int .i64 1, .int .i64 9] 3)
  go_wp2_with fail
  generalize w7.alloc (.cells #[.int .i64 1, .int .i64 9] 3) = w8 at *
  refine (ex_tab gp (some ⟨w7.heap.size, 0, none⟩) w8 (hC.below B5) R5).mono ?_
  rintro e w9 ⟨gt, ct, rfl, hT, hb⟩
  have B6 := below_chain B5 hb B5.size
  replace B1 := below_chain B1 B6 B1.size
  replace hK := hK.below B6
  replace hV := hV.below B6
  clear B5 hb B6 R5 hC
  go_wp2_with fail
  refine (ex_Est (some ⟨gt, 0, none⟩) (some ⟨gk, 0, none⟩) ct ck w9 hT hK).mono ?_
  rintro e w10 ⟨rfl, hb⟩
  replace B1 := below_chain B1 hb B1.size
  replace hV := hV.below hb
  clear hT hK hb
  have b10 := Blk.new w10 44 #[.int .u64 0, .int .u64 2]
  have B10 := below_alloc1 w10 (.cells #[.int .u64 0, .int .u64 2] 44)
  go_upto_region 9 with fail
  replace B1 := below_chain B1 B10 B1.size
  replace hV := hV.below B10
  clear B10
  generalize hz : w10.heap.size = z at *
  generalize w10.alloc (.cells #[.int .u64 0, .int .u64 2] 44) = w11 at *
  have c0 : w11.cell? ⟨z, 0, none⟩ = some (.int .u64 0) := b10.cell 0
  have c1 : w11.cell? ⟨z, 1, none⟩ = some (.int .u64 2) := b10.cell 1
  have R2 := row2_new w11 0 10
  have b12 := b10.alloc (.cells #[.int .i64 0, .int .i64 10] 3)
  have c2 : (w11.alloc (.cells #[.int .i64 0, .int .i64 10] 3)).cell? ⟨z, 0, none⟩ = some (.int .u64 0) := b12.cell 0
  have c3 : (w11.alloc (.cells #[.int .i64 0, .int .i64 10] 3)).cell? ⟨z, 1, none⟩ = some (.int .u64 2) := b12.cell 1
  have B11 := below_chain B1 (below_alloc1 w11 (.cells #[.int .i64 0, .int .i64 10] 3)) B1.size
  have rV := hV.below (below_alloc1 w11 (.cells #[.int .i64 0, .int .i64 10] 3))
  go_wp2_with fail
  generalize w11.alloc (.cells #[.int .i64 0, .int .i64 10] 3) = w12 at *
  refine (ints_any (some ⟨gv, 0, none⟩) (some ⟨w11.heap.size, 0, none⟩) [0, 10] [0, 10] cv 2 w12 rV R2 (by simp)).mono ?_
  rw [decide_eq_true (rfl : ([0, 10] : List Int) = [0, 10])]
  rintro e w13 ⟨rfl, ⟨q, rfl⟩⟩
  go_wp2_with fail
  go_ret
  exact ⟨rfl, below_chain B11 ((Drawn.refl w12).more q |>.below _) B11.size⟩
/-- What a law leaves: true, and what was there stays. -/
def LawTrue (w : World) (e : Ending) (w' : World) : Prop := e = .returned (.bool true) ∧ Below w.heap.size w w'
end Go.Proofs.Ytiamppbgpoffmaa
