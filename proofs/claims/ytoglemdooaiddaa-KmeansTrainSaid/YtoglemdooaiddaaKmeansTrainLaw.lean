/- KmeansTrain: the walk. -/
import Derived.Test.YtoglemdooaiddaaKRefTrain
import Derived.Test.YtoglemdooaiddaaKSame
import Derived.Test.YtoglemdooaiddaaKLend
namespace Go.Proofs.Ytoglemdooaiddaa
open Go.RowKit
set_option linter.unusedVariables false

theorem Grid.off {w w' : World} {B gc : Nat} {G K : Nat → Nat} {m : List (List Int)} {n : Nat} {GL : Nat → Nat} (h : Grid w B gc G K m) (ho : Off w w' n GL) (hn : ∀ j, j < n → GL j < B) (hs : w.heap.size ≤ w'.heap.size) : Grid w' B gc G K m := by
  have e1 : w'.heap[gc]? = w.heap[gc]? := ho gc h.lt (fun j hj e => by have := hn j hj; have := h.lo; omega)
  have e2 : ∀ i, i < m.length → w'.heap[G i]? = w.heap[G i]? := fun i hi => ho (G i) (h.new i hi).2.1 (fun j hj e => by have := hn j hj; have := (h.new i hi).1; omega)
  exact { lo := h.lo, lt := Nat.lt_of_lt_of_le h.lt hs, top := fun i hi => (World.cell?_of_block e1).trans (h.top i hi), free := fun i => (World.frozen?_of_block e1).trans (h.free i)
          new := fun i hi => ⟨(h.new i hi).1, Nat.lt_of_lt_of_le (h.new i hi).2.1 hs, (h.new i hi).2.2⟩, inj := h.inj
          row := fun i hi x hx => (World.cell?_of_block (e2 i hi)).trans (h.row i hi x hx), rowFree := fun i hi x => (World.frozen?_of_block (e2 i hi)).trans (h.rowFree i hi x) }

/-- What stands while the centres that came out are written over. -/
structure WriteS (P : Nat → Prop) (w wr : World) (B gc gt d : Nat) (G K : Nat → Nat) (m mm : List (List Int)) : Prop where
  grid : Grid wr B gc G K mm
  len : mm.length = m.length
  rows : ∀ i, i < m.length → (mrow mm i).length = d
  want : MatP P wr (some ⟨gt, 0, none⟩) m
  below : Below w.heap.size w wr
  base : w.heap.size ≤ B
  away : ∀ b, P b → ∀ i, i < m.length → b ≠ G i
theorem WriteS.store {P : Nat → Prop} {w wr : World} {B gc gt d : Nat} {G K : Nat → Nat} {m mm : List (List Int)} (h : WriteS P w wr B gc gt d G K m mm) {i x : Nat} (hi : i < m.length) (hx : x < d) (v : Int) :
    WriteS P w (wr.setCell ⟨G i, x, none⟩ (.int .i64 v)) B gc gt d G K m (put2 mm i x v) := by
  have hi2 : i < mm.length := by rw [h.len]; exact hi
  have hl := h.base
  have hG := (h.grid.new i hi2).1
  exact { grid := h.grid.store hi2 (by rw [h.rows i hi]; exact hx) v, len := by rw [put2_length]; exact h.len, rows := fun j hj => by rw [mrow_put2_length _ _ _ _ _ hi2]; exact h.rows j hj
          want := h.want.keep (fun b hb _ => Below.heap_setCell wr _ _ b (h.away b hb i hi)), below := h.below.setCell (p := ⟨G i, x, none⟩) (by simp; omega) _, base := h.base, away := h.away }

set_option maxRecDepth 100000 in
set_option maxHeartbeats 4000000 in
theorem trainL_bad (L : Option Addr) (l : List (List Int)) (cl : Nat) (k r s : Int) (w : World) (hl : Mat w L l) (hf : RowsFit l) (h : trainE l k r ≠ 0) :
    Calls Try.prog 3 #[.slice L l.length cl, .int .i64 k, .int .i64 r, .int .u64 s] w fun e w' => e = .returned (.bool true) ∧ Below w.heap.size w w' := by
  have hB := Lib.hid (big_any L l cl w hl)
  have hne : (trainE l k r != trainE l k r) = false := by simp
  have T1 := Lib.hid (fun (X : Option Addr) c x (hx : Mat x X l) => train_bad X l c k r s x hx h)
  have T2 := Lib.hid (fun x (hx : Mat x L l) => rtrain_bad L l cl k r s x hx h)
  have hne0 : (trainE l k r == 0) = false := by simpa using h
  generalize trainE l k r = E at *
  clear h
  go_enter Try.func3, Try.ntmps3
  go_wp2_with fail
  with_reducible refine hB.out.mono ?_
  rintro e w1 ⟨b, rfl, rfl, hb⟩
  clear hB
  cases b
  · have hs := (hb rfl).2 hf
    clear hb
    have hL := Lib.hid (lends_any L l cl w hl hs)
    have hBk := Lib.hid (fun G gm x (hx : Lent w x l G gm) => backs_any w L l cl G gm x hx hl hs)
    clear hs hf
    go_wp2_with fail
    with_reducible refine hL.out.mono ?_
    rintro e w1 ⟨G, gm, rfl, hx⟩
    clear hL
    go_wp2_with fail
    refine (T1.out _ _ w1 hx.mat).mono ?_
    rintro e w2 ⟨rfl, B2⟩
    replace hx := hx.more B2
    go_wp2_with fail
    refine (hBk.out G gm w2 hx).mono ?_
    rintro e w3 ⟨rfl, B3, O3⟩
    have B4 : Below w.heap.size w w3 := hx.below.trans B3
    clear hx hBk O3 B3 B2
    go_wp2_with fail
    refine (T2.out w3 (hl.below B4)).mono ?_
    rintro e w4 ⟨rfl, rfl⟩
    go_wp2_with fail
    refine (same_nil w3).mono ?_
    rintro e w5 ⟨rfl, D5⟩
    have B5 := below_chain B4 (D5.below _) B4.size
    clear D5
    go_wp2_with fail
    go_loop [15] (fun i => i = .int .i64 0) (fun _ => 0)
    case atStart => rfl
    case round =>
      subst hrel
      go_wp2_with fail
      refine (T1.out _ _ w5 (hl.below B5)).mono ?_
      rintro e w6 ⟨rfl, B6⟩
      have B7 := below_chain B5 B6 B5.size
      go_wp2_with fail
      refine (awake_any w6).mono ?_
      rintro e w7 ⟨rfl, B8⟩
      have B9 := below_chain B7 B8 B7.size
      go_wp2_with fail
      refine (same_nil w7).mono ?_
      rintro e w8 ⟨rfl, D8⟩
      have B10 := below_chain B9 (D8.below _) B9.size
      go_wp2_with fail
      go_ret
      exact ⟨rfl, B10⟩
  · go_wp2_with fail
    go_ret
    exact ⟨rfl, Below.refl _ _⟩

set_option maxRecDepth 100000 in
set_option maxHeartbeats 8000000 in
theorem trainL_ok (L : Option Addr) (l : List (List Int)) (cl : Nat) (k r s : Int) (w : World) (hl : Mat w L l) (hf : RowsFit l) (h : trainE l k r = 0) :
    Calls Try.prog 3 #[.slice L l.length cl, .int .i64 k, .int .i64 r, .int .u64 s] w fun e w' => e = .returned (.bool true) ∧ Below w.heap.size w w' := by
  have hB := Lib.hid (big_any L l cl w hl)
  have T1 := Lib.hid (fun (X : Option Addr) c x (hx : Mat x X l) => train_good X l c k r s x hx h)
  have T2 : Hid (∀ (P : Nat → Prop) x, MatP P x L l → (∀ b, x.heap.size ≤ b → P b) → Calls Try.prog 12 #[.slice L l.length cl, .int .i64 k, .int .i64 r, .int .u64 s] x (RTrainGood P x (trainN l k.toNat r.toNat s))) := Lib.hid (fun P x hx hP => by
    obtain ⟨h1, h2, h3, h4, _, _, _⟩ := trainE_ok h
    have e1 : ((k.toNat : Nat) : Int) = k := by omega
    have e2 : ((r.toNat : Nat) : Int) = r := by omega
    have e := rtrain_ok P L l cl k.toNat r.toNat s x hx hP (by rw [e1, e2]; exact h)
    rw [e1, e2] at e
    exact e)
  have hd := train_dim h
  have hrows := Lib.hid (train_rows s h)
  have hml : (trainN l k.toNat r.toNat s).length ≤ 64 := by
    obtain ⟨h1, h2, _⟩ := trainE_ok h
    rw [trainN_length]; omega
  generalize trainN l k.toNat r.toNat s = m at *
  generalize (mrow l 0).length = d at *
  clear h
  go_enter Try.func3, Try.ntmps3
  go_wp2_with fail
  with_reducible refine hB.out.mono ?_
  rintro e w1 ⟨b, rfl, rfl, hb⟩
  clear hB
  cases b
  · have hs := (hb rfl).2 hf
    clear hb
    have hL := Lib.hid (lends_any L l cl w hl hs)
    have hBk := Lib.hid (fun G gm x (hx : Lent w x l G gm) => backs_any w L l cl G gm x hx hl hs)
    clear hs hf
    go_wp2_with fail
    with_reducible refine hL.out.mono ?_
    rintro e w1 ⟨GL, gm, rfl, hx⟩
    clear hL
    go_wp2_with fail
    refine (T1.out _ _ w1 hx.mat).mono ?_
    rintro e w2 ⟨gc, G, K, rfl, hG, B2⟩
    have hGL : ∀ j, j < l.length → GL j < w1.heap.size := fun j hj => (hx.rows j hj).lt
    have hw1 := hx.below.size
    replace hx := hx.more B2
    go_wp2_with fail
    refine (hBk.out GL gm w2 hx).mono ?_
    rintro e w3 ⟨rfl, B3, O3⟩
    have B4 : Below w.heap.size w w3 := hx.below.trans B3
    have hG3 := hG.off O3 hGL B3.size
    obtain ⟨P, hP⟩ : ∃ P : Nat → Prop, P = fun b => b ≠ gc ∧ ∀ i, i < m.length → b ≠ G i := ⟨_, rfl⟩
    have hP1 : ∀ b, b < w.heap.size → P b := fun b hb => by
      rw [hP]
      exact ⟨by have := hG.lo; omega, fun i hi => by have := (hG.new i hi).1; omega⟩
    have hP2 : ∀ b, w3.heap.size ≤ b → P b := fun b hb => by
      rw [hP]
      have := B3.size
      exact ⟨by have := hG.lt; omega, fun i hi => by have := (hG.new i hi).2.1; omega⟩
    have hlP : MatP P w3 L l := (hl.matP hP1).below B4
    have hC := Lib.hid (T2.out P w3 hlP hP2)
    clear hx hBk O3 B3 B2 hG hGL hlP hP2 T2 hP1
    go_wp2_with fail
    with_reducible refine hC.out.mono ?_
    rintro e w4 ⟨gt, ct, rfl, hM, B5⟩
    have hG4 := hG3.below B5
    have B6 := below_chain B4 B5 B4.size
    have hSm := Lib.hid (fun (X : Option Addr) c x (h1 : Mat x X m) (h2 : Mat x (some ⟨gt, 0, none⟩) m) => same_eq X (some ⟨gt, 0, none⟩) m c ct x h1 h2 hml (fun i hi => by have := (hrows.out i hi).1; omega))
    clear hC hG3 B5 B4
    go_wp2_with fail
    refine (hSm.out _ _ w4 hG4.mat hM.mat).mono ?_
    rintro e w5 ⟨rfl, D5⟩
    have hG5 := hG4.below (D5.below _)
    have hM5 := hM.below (D5.below _)
    have B7 := below_chain B6 (D5.below _) B6.size
    clear D5 hG4 hM B6
    go_wp2_with fail
    have W0 : WriteS P w w5 w1.heap.size gc gt d G K m m := { grid := hG5, len := rfl, rows := fun i hi => (hrows.out i hi).1, want := hM5, below := B7, base := hw1, away := fun b hb => by rw [hP] at hb; exact hb.2 }
    clear hG5 hM5 B7 hP
    go_loopw [15] (fun i wr => ∃ (i' : Nat) (mm : List (List Int)), i' ≤ m.length ∧ i = .int .i64 (i' : Int) ∧ WriteS P w wr w1.heap.size gc gt d G K m mm) (fun i _ => m.length - (intOf i).toNat)
    case atStart => exact ⟨0, m, Nat.zero_le _, rfl, W0⟩
    case round =>
      clear W0
      obtain ⟨i, mm, hi, rfl, hW⟩ := hrel
      by_cases hlt : i < m.length
      · have p0 : (0 : Int) ≤ (i : Int) := by omega
        have p1 : (i : Int) < (m.length : Int) := by omega
        go_wp2_with fail
        go_loopw [16] (fun n wr => ∃ (n' : Nat) (mm : List (List Int)), n' ≤ d ∧ n = .int .i64 (n' : Int) ∧ WriteS P w wr w1.heap.size gc gt d G K m mm) (fun n _ => d - (intOf n).toNat)
        case atStart => exact ⟨0, mm, Nat.zero_le _, rfl, hW⟩
        case round =>
          clear hW
          obtain ⟨n, mm, hn, rfl, hW⟩ := hrel
          have hi2 : i < mm.length := by rw [hW.len]; exact hlt
          have hrl := hW.rows i hlt
          have c1 := hW.grid.top i hi2
          rw [hrl] at c1
          by_cases hlt2 : n < d
          · have q0 : (0 : Int) ≤ (n : Int) := by omega
            have q1 : (n : Int) < (d : Int) := by omega
            have c2 := hW.grid.row i hi2 n (by omega)
            have c3 := hW.grid.rowFree i hi2 n
            have hW2 := hW.store hlt hlt2 99
            clear hi2 hrl
            go_wp2_with fail
            exact ⟨⟨n + 1, _, by omega, by go_num, hW2⟩, by simp [intOf]; omega⟩
          · obtain rfl : n = d := by omega
            clear hi2 hrl
            go_wp2_with fail
            exact ⟨⟨i + 1, mm, by omega, by go_num, hW⟩, by simp [intOf]; omega⟩
      · obtain rfl : i = m.length := by omega
        have B8 := hW.below
        have hM8 := hW.want
        clear hW
        go_wp2_with fail
        refine (T1.out _ _ _ (hl.below B8)).mono ?_
        rintro e w6 ⟨gc2, G2, K2, rfl, hG6, B9⟩
        have hM9 := hM8.below B9
        have B10 := below_chain B8 B9 B8.size
        clear T1 hM8 B8 B9
        go_wp2_with fail
        refine (awake_any w6).mono ?_
        rintro e w7 ⟨rfl, B11⟩
        have hG7 := hG6.below B11
        have hM7 := hM9.below B11
        have B12 := below_chain B10 B11 B10.size
        clear hG6 hM9 B10 B11
        go_wp2_with fail
        refine (hSm.out _ _ w7 hG7.mat hM7.mat).mono ?_
        rintro e w8 ⟨rfl, D8⟩
        have B13 := below_chain B12 (D8.below _) B12.size
        go_wp2_with fail
        go_ret
        exact ⟨rfl, B13⟩
  · go_wp2_with fail
    go_ret
    exact ⟨rfl, Below.refl _ _⟩

theorem kmeansTrain_any (L : Option Addr) (l : List (List Int)) (cl : Nat) (k r s : Int) (w : World) (hl : Mat w L l) (hf : RowsFit l) :
    Calls Try.prog 3 #[.slice L l.length cl, .int .i64 k, .int .i64 r, .int .u64 s] w fun e w' => e = .returned (.bool true) ∧ Below w.heap.size w w' := by
  by_cases h : trainE l k r = 0
  · exact trainL_ok L l cl k r s w hl hf h
  · exact trainL_bad L l cl k r s w hl hf h
end Go.Proofs.Ytoglemdooaiddaa
