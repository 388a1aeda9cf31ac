/- KmeansMoves: the walk. -/
import Derived.Test.YtoglemdooaiddaaKBig
import Derived.Test.YtoglemdooaiddaaKShift
namespace Go.Proofs.Ytoglemdooaiddaa
open Go.RowKit
set_option linter.unusedVariables false

theorem Row.grown {w w' : World} {g : Nat} {l : List Int} {row : Option Nat} (h : Row w (some ⟨g, 0, none⟩) l) (hg : w.grownBy w' row) (hr : row ≠ some g) : Row w' (some ⟨g, 0, none⟩) l := fun j hj => by
  obtain ⟨b, off, hA, hc⟩ := h j hj
  simp only [Option.some.injEq, Addr.mk.injEq, and_true] at hA
  obtain ⟨rfl, rfl⟩ := hA
  refine ⟨g, 0, rfl, (World.cell?_of_block (hg.block g (World.block_lt_of_cell? w _ hc) (fun e => hr e.symm))).trans hc⟩
/-- The moved vectors that stand already. -/
def MovedS (B : Nat) (wr : World) (out : Value) (k : Nat) (m : List (List Int)) : Prop :=
  ∃ xs, wr.ownsRow B 30 1 out k xs ∧ ∀ i, i < k → ∃ g c, xs[i]? = some (.slice (some ⟨g, 0, none⟩) (mrow m i).length c) ∧ g < wr.heap.size ∧ out.ownBlock ≠ some g ∧ Row wr (some ⟨g, 0, none⟩) (mrow m i)
theorem MovedS.start (B : Nat) (w : World) (m : List (List Int)) : MovedS B w (.slice none 0 0) 0 m := ⟨[], World.ownsRow_nil _ _ _ _, fun i hi => by omega⟩
theorem MovedS.below {B : Nat} {wr w2 : World} {out : Value} {k : Nat} {m : List (List Int)} (h : MovedS B wr out k m) (hb : Below wr.heap.size wr w2) : MovedS B w2 out k m := by
  obtain ⟨xs, h1, h2⟩ := h
  refine ⟨xs, h1.kept (grown_of_below hb none) (by simp; exact Classical.em _), fun i hi => ?_⟩
  obtain ⟨g, c, e1, e2, e3, e4⟩ := h2 i hi
  exact ⟨g, c, e1, Nat.lt_of_lt_of_le e2 hb.size, e3, e4.below hb⟩
theorem MovedS.mat {B : Nat} {wr : World} {out : Value} {m : List (List Int)} (h : MovedS B wr out m.length m) (h0 : 0 < m.length) : ∃ g c, out = .slice (some ⟨g, 0, none⟩) m.length c ∧ Mat wr (some ⟨g, 0, none⟩) m := by
  obtain ⟨xs, h1, h2⟩ := h
  obtain ⟨g, cap, rfl, _, _⟩ := own_shape h1 h0
  refine ⟨g, cap, rfl, fun i hi => ?_⟩
  obtain ⟨g3, c, e1, e2, e3, e4⟩ := h2 i hi
  have hx : i < xs.length := (List.getElem?_eq_some_iff.1 e1).1
  exact ⟨g, 0, _, c, rfl, by rw [Nat.zero_add, h1.cellAt i (by omega)]; exact e1, e4⟩

set_option maxRecDepth 100000 in
set_option maxHeartbeats 2000000 in
theorem moves_bad (A : Option Addr) (l : List (List Int)) (cl : Nat) (k r s : Int) (V : Option Addr) (by_ : List Int) (cb : Nat) (w : World) (hm : Mat w A l) (h : trainE l k r ≠ 0) :
    Calls Try.prog 7 #[.slice A l.length cl, .int .i64 k, .int .i64 r, .int .u64 s, .slice V by_.length cb] w fun e w' => e = .returned (.bool true) ∧ Below w.heap.size w w' := by
  have hB := Lib.hid (big_any A l cl w hm)
  have hT := Lib.hid (train_bad A l cl k r s w hm h)
  have hne : (trainE l k r != 0) = true := by simpa using h
  generalize trainE l k r = E at *
  clear h
  go_enter Try.func7, Try.ntmps7
  go_wp2_with fail
  with_reducible refine hB.out.mono ?_
  rintro e w1 ⟨b, rfl, rfl, hb⟩
  clear hB hb
  cases b
  · by_cases hl : 65536 < by_.length
    · have hl' : decide (65536 < (by_.length : Int)) = true := decide_eq_true (by omega)
      clear hl
      go_wp2_with fail
      go_ret
      exact ⟨rfl, Below.refl _ _⟩
    · have hl' : decide (65536 < (by_.length : Int)) = false := decide_eq_false (by omega)
      clear hl
      go_wp2_with fail
      with_reducible refine hT.out.mono ?_
      rintro e w2 ⟨rfl, B2⟩
      go_wp2_with fail
      refine (awake_any w2).mono ?_
      rintro e w3 ⟨rfl, B3⟩
      have B4 := below_chain B2 B3 B2.size
      go_wp2_with fail
      go_ret
      exact ⟨rfl, B4⟩
  · go_wp2_with fail
    go_ret
    exact ⟨rfl, Below.refl _ _⟩

set_option maxRecDepth 100000 in
set_option maxHeartbeats 8000000 in
theorem moves_ok (A : Option Addr) (l : List (List Int)) (cl : Nat) (k r s : Int) (V : Option Addr) (by_ : List Int) (cb : Nat) (w : World) (hm : Mat w A l) (hV : Row w V by_) (h : trainE l k r = 0) :
    Calls Try.prog 7 #[.slice A l.length cl, .int .i64 k, .int .i64 r, .int .u64 s, .slice V by_.length cb] w fun e w' => e = .returned (.bool true) ∧ Below w.heap.size w w' := by
  have hB := Lib.hid (big_any A l cl w hm)
  have hT := Lib.hid (train_good A l cl k r s w hm h)
  obtain ⟨t1, t2, t3, t4, t5, t6, t7⟩ := trainE_ok h
  have hl1 : (l.length : Int) ≤ 512 := by omega
  have l0 : 0 < l.length := by omega
  have hlen := trainN_length l k.toNat r.toNat s
  have hrows := Lib.hid (train_rows s h)
  have hd := train_dim h
  have hl7 := Lib.hid t7.coords
  have hE2 := Lib.hid (moved_trainE (by_ := by_) h)
  have hT2 := Lib.hid (moved_train (by_ := by_) s h)
  have hml := movedN_length by_ l
  generalize trainN l k.toNat r.toNat s = m at *
  generalize hdd : (mrow l 0).length = d at *
  have hm64 : m.length ≤ 64 := by omega
  replace hlen := Lib.hid hlen
  replace hml := Lib.hid hml
  clear t7 h hdd
  go_enter Try.func7, Try.ntmps7
  go_wp2_with fail
  with_reducible refine hB.out.mono ?_
  rintro e w1 ⟨b, rfl, rfl, hb⟩
  clear hB hb
  cases b
  · by_cases hl : 65536 < by_.length
    · have hl' : decide (65536 < (by_.length : Int)) = true := decide_eq_true (by omega)
      clear hl
      go_wp2_with fail
      go_ret
      exact ⟨rfl, Below.refl _ _⟩
    · have hl' : decide (65536 < (by_.length : Int)) = false := decide_eq_false (by omega)
      clear hl
      go_wp2_with fail
      with_reducible refine hT.out.mono ?_
      rintro e w2 ⟨gc, G, K, rfl, hG, B2⟩
      clear hT hl'
      go_wp2_with fail
      go_loopw [13, 14] (fun o i wr => ∃ (j : Nat), j ≤ l.length ∧ i = .int .i64 (j : Int) ∧ MovedS w2.heap.size wr o j (movedN by_ l) ∧ Below w2.heap.size w2 wr) (fun _ i _ => l.length - (intOf i).toNat)
      case atStart => exact ⟨0, Nat.zero_le _, rfl, MovedS.start _ _ _, Below.refl _ _⟩
      case round =>
        obtain ⟨j, hj, rfl, hS, B3⟩ := hrel
        have B4 := below_chain B2 B3 B2.size
        by_cases hlt : j < l.length
        · obtain ⟨g, o, R, rc, rfl, hc1, hR⟩ := hm j hlt
          have p0 : (0 : Int) ≤ (j : Int) := by omega
          have p1 : (j : Int) < (l.length : Int) := by omega
          have hrl := (hl7.out j hlt).1
          have c1 := below_cell B4 hc1
          have hSh := Lib.hid (shifted_any R (mrow l j) rc V by_ cb wr (hR.below B4) (hV.below B4) (by omega) (by omega) (by rw [hrl]; exact (hl7.out j hlt).2))
          clear hrl
          go_wp2_with fail
          with_reducible refine hSh.out.mono ?_
          rintro e w4 ⟨g4, c4, rfl, g1, g2, hR4, hb⟩
          have hownR : ∀ q, u13.ownBlock = some q → q < wr.heap.size := by
            obtain ⟨xs0, HO0, _⟩ := hS
            exact fun q hq => (own_lt' HO0 q hq).2
          replace hS := hS.below hb
          replace B3 := below_chain B3 hb B3.size
          have hz4 := hb.size
          rw [← mrow_movedN hlt] at hR4
          have hle : (mrow l j).length = (mrow (movedN by_ l) j).length := by rw [mrow_movedN hlt, shiftN_length]
          rw [hle]
          clear c1 hSh hb
          obtain ⟨xs, HO, hX⟩ := hS
          have hz3 := B3.size
          go_wp2_with (at_builtin; refine append_one w2.heap.size rfl (.tmp 49) (.tmp 51) _ 30 (.slice none 0 0) 24 rfl Try.underlying22 row_info rfl (by omega) u13 j _ (.slice (some ⟨g4, 0, none⟩) (mrow (movedN by_ l) j).length c4) rfl rfl rfl HO hz3 (by omega) ?_; intro v1 w5 HO1 hg1 hat1)
          have hown := fun q hq => own_lt' HO q hq
          have hS1 : MovedS w2.heap.size w5 v1 (j + 1) (movedN by_ l) := by
            refine ⟨_, HO1, fun i hi => ?_⟩
            have hxl : xs.length = j := by have := HO.1; simpa using this
            by_cases e : i = j
            · subst e
              have hne : u13.ownBlock ≠ some g4 := fun hh => by have := hownR g4 hh; omega
              refine ⟨g4, c4, by simp [← hxl], Nat.lt_of_lt_of_le g2 hg1.size, ?_, hR4.grown hg1 hne⟩
              rcases hat1 with e1 | e1
              · rw [e1]; exact hne
              · rw [e1]; simp; omega
            · obtain ⟨g5, c5, e1, e2, e3, e4⟩ := hX i (by omega)
              refine ⟨g5, c5, by rw [List.getElem?_append_left (by omega)]; exact e1, Nat.lt_of_lt_of_le e2 hg1.size, ?_, e4.grown hg1 e3⟩
              rcases hat1 with e6 | e6
              · rw [e6]; exact e3
              · rw [e6]; simp; omega
          have B5 := below_of_grown B3 hg1 (fun q hq => (hown q hq).1)
          exact ⟨⟨j + 1, by omega, by go_num, hS1, B5⟩, by simp [intOf]; omega⟩
        · obtain rfl : j = l.length := by omega
          rw [← hml.out] at hS
          obtain ⟨gm, cm, rfl, hMat⟩ := hS.mat (by rw [hml.out]; exact l0)
          clear hS
          rw [hml.out]
          rcases hE2.out with e0 | e0
          · have hC := train_good (some ⟨gm, 0, none⟩) (movedN by_ l) cm k r s wr hMat e0
            rw [hml.out, hT2.out] at hC
            replace hC := Lib.hid hC
            clear e0 hMat
            go_wp2_with fail
            with_reducible refine hC.out.mono ?_
            rintro e w6 ⟨gd, G2, K2, rfl, hG2, hb⟩
            have B6 := below_chain B4 hb B4.size
            have hG6 := hG.below (below_chain B3 hb B3.size)
            have hml2 : (movedN by_ m).length = m.length := movedN_length _ _
            rw [hml2]
            clear hC hG B3 B4 hb hm
            go_wp2_with fail
            go_loopw [18] (fun i wr => ∃ (j : Nat), j ≤ m.length ∧ i = .int .i64 (j : Int) ∧ Grid wr w.heap.size gc G K m ∧ (∃ B', Grid wr B' gd G2 K2 (movedN by_ m)) ∧ Below w.heap.size w wr) (fun i _ => m.length - (intOf i).toNat)
            case atStart => exact ⟨0, Nat.zero_le _, rfl, hG6, ⟨_, hG2⟩, B6⟩
            case round =>
              clear hG6 hG2 B6
              obtain ⟨i, hi, rfl, hG, ⟨B', hG2⟩, B6⟩ := hrel
              by_cases hlt2 : i < m.length
              · have p0 : (0 : Int) ≤ (i : Int) := by omega
                have p1 : (i : Int) < (m.length : Int) := by omega
                replace hG := hG.below (Below.refl _ wr).drew
                replace hG2 := hG2.below (Below.refl _ wr).drew
                replace B6 := B6.drew
                have hrl := (hrows.out i hlt2).1
                have hrd : (mrow (movedN by_ m) i).length = d := by rw [mrow_movedN hlt2, shiftN_length]; exact hrl
                have c1 := hG.top i hlt2
                have c2 := hG2.top i (by rw [hml2]; exact hlt2)
                have r1 : Row wr.drew (some ⟨G i, 0, none⟩) (mrow m i) := fun x hx => ⟨G i, 0, rfl, by rw [Nat.zero_add]; exact hG.row i hlt2 x hx⟩
                have r2 : Row wr.drew (some ⟨G2 i, 0, none⟩) (mrow (movedN by_ m) i) := fun x hx => ⟨G2 i, 0, rfl, by rw [Nat.zero_add]; exact hG2.row i (by rw [hml2]; exact hlt2) x hx⟩
                have hSh := shifted_any (some ⟨G i, 0, none⟩) (mrow m i) (K i) V by_ cb wr.drew r1 (hV.below B6) (by omega) (by omega) (by rw [hrl]; exact (hrows.out i hlt2).2)
                rw [hrl] at c1 hSh
                rw [hrd] at c2
                replace hSh := Lib.hid hSh
                have S0 : wr.drew.cell? ⟨gc, i, none⟩ = some (.slice (some ⟨G i, 0, none⟩) d (K i)) ∧ wr.drew.cell? ⟨gd, i, none⟩ = some (.slice (some ⟨G2 i, 0, none⟩) d (K2 i)) := ⟨c1, c2⟩
                clear c1 c2 hml2
                go_wp2_with fail
                go_region_held3 (fun w' => w'.cell? ⟨gc, i, none⟩ = some (.slice (some ⟨G i, 0, none⟩) d (K i)) ∧ w'.cell? ⟨gd, i, none⟩ = some (.slice (some ⟨G2 i, 0, none⟩) d (K2 i)))
                  (first | exact S0 | exact S1 | exact S2)
                  (first
                  | (go_at_call 21; (with_reducible refine hSh.out.mono ?_); rintro e x1 ⟨g7, c7, rfl, _, _, r3, hb⟩; have S1 := And.intro (below_cell hb S0.1) (below_cell hb S0.2); have hI := ints_any (some ⟨G2 i, 0, none⟩) (some ⟨g7, 0, none⟩) (mrow (movedN by_ m) i) (shiftN by_ (mrow m i)) (K2 i) c7 x1 (r2.below hb) r3 (by omega); rw [mrow_movedN hlt2, decide_eq_true rfl, shiftN_length, hrl] at hI; replace hI := Lib.hid hI)
                  | (go_at_call 22; (with_reducible refine hI.out.mono ?_); rintro e x2 ⟨rfl, hD⟩; have S2 := And.intro (below_cell (hD.below _) S1.1) (below_cell (hD.below _) S1.2)))
                all_goals
                  have HB := hb
                  replace hG := (hG.below hb).below (hD.below _)
                  replace hG2 := (hG2.below hb).below (hD.below _)
                  replace B6 := below_chain (below_chain B6 hb B6.size) (hD.below _) (below_chain B6 hb B6.size).size
                  clear S0 S1 S2 HB hb hI hSh r1 r2 r3 hD
                  go_wp2_with fail
                  exact ⟨⟨i + 1, by omega, by go_num, hG, ⟨_, hG2⟩, B6⟩, by simp [intOf]; omega⟩
              · obtain rfl : i = m.length := by omega
                go_wp2_with fail
                refine (awake_any wr).mono ?_
                rintro e w7 ⟨rfl, hb7⟩
                have B7 := below_chain B6 hb7 B6.size
                go_wp2_with fail
                go_ret
                exact ⟨rfl, B7⟩
          · have hC := train_bad (some ⟨gm, 0, none⟩) (movedN by_ l) cm k r s wr hMat (by rw [e0]; decide)
            rw [hml.out, e0] at hC
            replace hC := Lib.hid hC
            clear e0 hMat
            go_wp2_with fail
            with_reducible refine hC.out.mono ?_
            rintro e w6 ⟨rfl, hb⟩
            have B6 := below_chain B4 hb B4.size
            clear hC
            go_wp2_with fail
            refine (awake_any w6).mono ?_
            rintro e w7 ⟨rfl, hb7⟩
            have B7 := below_chain B6 hb7 B6.size
            go_wp2_with fail
            go_ret
            exact ⟨rfl, B7⟩
  · go_wp2_with fail
    go_ret
    exact ⟨rfl, Below.refl _ _⟩

theorem kmeansMoves_any (A : Option Addr) (l : List (List Int)) (cl : Nat) (k r s : Int) (V : Option Addr) (by_ : List Int) (cb : Nat) (w : World) (hm : Mat w A l) (hV : Row w V by_) :
    Calls Try.prog 7 #[.slice A l.length cl, .int .i64 k, .int .i64 r, .int .u64 s, .slice V by_.length cb] w fun e w' => e = .returned (.bool true) ∧ Below w.heap.size w w' := by
  by_cases h : trainE l k r = 0
  · exact moves_ok A l cl k r s V by_ cb w hm hV h
  · exact moves_bad A l cl k r s V by_ cb w hm h
end Go.Proofs.Ytoglemdooaiddaa
