/- KmeansFair: the walk. -/
import Derived.Test.YtoglemdooaiddaaKBig
import Derived.Test.YtoglemdooaiddaaKRefDist
import Derived.Deep.CutRange
namespace Go.Proofs.Ytoglemdooaiddaa
open Go.RowKit
set_option linter.unusedVariables false

theorem wide_ne {a b : Nat} (h : a ≠ b) : ((hiN a : Int) == (hiN b : Int)) = false ∨ (((hiN a : Int) == (hiN b : Int)) = true ∧ hiN a = hiN b ∧ ((loN a : Int) == (loN b : Int)) = false) := by
  by_cases e : hiN a = hiN b
  · refine .inr ⟨by simp [e], e, ?_⟩
    have : loN a ≠ loN b := fun e2 => h (by unfold hiN loN at *; omega)
    simp; omega
  · exact .inl (by simp; omega)
/-- What stands in the inner loop: the least distance in block g. -/
def FairB (w : World) (g D : Nat) (w' : World) : Prop := Below w.heap.size w w' ∧ Blk w' g 34 (wc D) ∧ w.heap.size ≤ g
theorem FairB.more {w w1 w2 : World} {g D : Nat} (h : FairB w g D w1) (hb : Below w1.heap.size w1 w2) : FairB w g D w2 := ⟨below_chain h.1 hb h.1.size, h.2.1.below hb h.2.1.lt, h.2.2⟩
theorem FairB.far {w w1 : World} {g D : Nat} (h : FairB w g D w1) {a : Addr} (h1 : w.heap.size ≤ a.block) (h2 : g < a.block) (v : Value) : FairB w g D (w1.setCell a v) := ⟨h.1.setCell (p := a) h1 v, h.2.1.far (by omega) v, h.2.2⟩
theorem FairB.cells {w w' : World} {g D : Nat} (h : FairB w g D w') : w'.cell? ⟨g, 0, none⟩ = some (.int .u64 (hiN D : Int)) ∧ w'.cell? ⟨g, 1, none⟩ = some (.int .u64 (loN D : Int)) := ⟨h.2.1.cell 0, h.2.1.cell 1⟩

theorem fair_facts {m : List (List Int)} {v : List Int} (h : AllOk m v.length m.length) (hv : vecE v v.length = 0) {k : Nat} (hk : k < m.length) :
    ¬ farN (mrow m k) v < (nearN m v).2 ∧ (k < (nearN m v).1 → farN (mrow m k) v ≠ (nearN m v).2) ∧ (k = (nearN m v).1 → farN (mrow m k) v = (nearN m v).2) ∧ Wd (farN (mrow m k) v) ∧ Wd (nearN m v).2 := by
  have h1 := nearTo_min m v m.length k hk
  have h2 := nearTo_first m v m.length k
  have h3 := nearTo_at m v m.length (by omega)
  have h4 := far_ok (h k hk) hv
  unfold nearN at *
  refine ⟨by omega, fun hh => ?_, fun hh => ?_, ?_, ?_⟩
  · have := h2 hh; omega
  · rw [hh]; exact h3
  · unfold Wd; omega
  · unfold Wd; omega
theorem row_len {m : List (List Int)} {v : List Int} (h : AllOk m v.length m.length) {k : Nat} (hk : k < m.length) : (mrow m k).length = v.length := by
  have := (vecE_ok (h k hk)).2.2.1
  omega
/-- What the drawn region reads. -/
def FairR (w' : World) (g1 o1 k g2 o2 i : Nat) (x y : Value) : Prop := w'.cell? ⟨g1, o1 + k, none⟩ = some x ∧ w'.cell? ⟨g2, o2 + i, none⟩ = some y
theorem FairR.more {w1 w2 : World} {g1 o1 k g2 o2 i : Nat} {x y : Value} (h : FairR w1 g1 o1 k g2 o2 i x y) (hb : Below w1.heap.size w1 w2) : FairR w2 g1 o1 k g2 o2 i x y := ⟨below_cell hb h.1, below_cell hb h.2⟩

theorem FairR.set_ {w1 : World} {g1 o1 k g2 o2 i : Nat} {x y : Value} (h : FairR w1 g1 o1 k g2 o2 i x y) {g3 : Nat} (j : Nat) (v : Value) (hg : g1 ≠ g3 ∧ g2 ≠ g3) : FairR (w1.setCell ⟨g3, j, none⟩ v) g1 o1 k g2 o2 i x y :=
  ⟨by rw [World.cell?_setCell_other _ _ _ _ (fun e => hg.1 (by injection e with e1; exact e1.symm))]; exact h.1, by rw [World.cell?_setCell_other _ _ _ _ (fun e => hg.2 (by injection e with e1; exact e1.symm))]; exact h.2⟩

/-- The slices of a matrix, as values. -/
theorem mat_news {w : World} {g off : Nat} {m : List (List Int)} (hm : Mat w (some ⟨g, off, none⟩) m) : ∃ news : List Value, news.length = m.length ∧ (∀ j u, news[j]? = some u → w.cell? ((⟨g, off, none⟩ : Addr).add j) = some u) ∧
    (∀ i, i < m.length → ∃ R c, news[i]? = some (.slice R (mrow m i).length c) ∧ Row w R (mrow m i)) ∧ (∀ u ∈ news, u.oneCell' = true) := by
  have hc : ∀ i, i < m.length → ∃ R c, w.cell? ⟨g, off + i, none⟩ = some (.slice R (mrow m i).length c) ∧ Row w R (mrow m i) := fun i hi => by
    obtain ⟨g2, o2, R, c, hA, h1, h2⟩ := hm i hi
    simp only [Option.some.injEq, Addr.mk.injEq, and_true] at hA
    obtain ⟨rfl, rfl⟩ := hA
    exact ⟨R, c, h1, h2⟩
  refine ⟨(List.range m.length).map fun i => (w.cell? ⟨g, off + i, none⟩).getD undef, by simp, fun j u hj => ?_, fun i hi => ?_, fun u hu => ?_⟩
  · have hjl : j < m.length := by
      have := (List.getElem?_eq_some_iff.1 hj).1
      simpa using this
    obtain ⟨R, c, h1, _⟩ := hc j hjl
    rw [Addr.add_lit, h1]
    simp [hjl, h1] at hj
    rw [hj]
  · obtain ⟨R, c, h1, h2⟩ := hc i hi
    exact ⟨R, c, by simp [hi, h1], h2⟩
  · obtain ⟨i, hi, rfl⟩ := List.mem_map.1 hu
    obtain ⟨R, c, h1, _⟩ := hc i (List.mem_range.1 hi)
    rw [h1]
    rfl
/-- A slice of the call's own whose elements are slices of old rows. -/
def AllS (w wr : World) (out : Value) (m : List (List Int)) : Prop :=
  ∃ xs, wr.ownsRow w.heap.size 30 1 out m.length xs ∧ ∀ i, i < m.length → ∃ R c, xs[i]? = some (.slice R (mrow m i).length c) ∧ Row w R (mrow m i)
theorem AllS.below {w wr w2 : World} {out : Value} {m : List (List Int)} (h : AllS w wr out m) (hb : Below wr.heap.size wr w2) : AllS w w2 out m := by
  obtain ⟨xs, h1, h2⟩ := h
  exact ⟨xs, h1.kept (grown_of_below hb none) (by simp; exact Classical.em _), h2⟩
theorem AllS.mat {w wr : World} {out : Value} {m : List (List Int)} (h : AllS w wr out m) (hb : Below w.heap.size w wr) (h0 : 0 < m.length) : ∃ g c, out = .slice (some ⟨g, 0, none⟩) m.length c ∧ Mat wr (some ⟨g, 0, none⟩) m := by
  obtain ⟨xs, h1, h2⟩ := h
  obtain ⟨g, cap, rfl, _, _⟩ := own_shape h1 h0
  refine ⟨g, cap, rfl, fun i hi => ?_⟩
  obtain ⟨R, c, e1, e2⟩ := h2 i hi
  exact ⟨g, 0, R, c, rfl, by rw [Nat.zero_add, h1.cellAt i (by omega)]; exact e1, e2.below hb⟩

set_option maxRecDepth 100000 in
set_option maxHeartbeats 8000000 in
theorem kmeansFair_any (A : Option Addr) (m : List (List Int)) (c : Nat) (V : Option Addr) (u : List Int) (cv : Nat) (L : Option Addr) (l : List (List Int)) (cl : Nat) (w : World) (hm : Mat w A m) (hV : Row w V u) (hL : Mat w L l) (hn : A = none → c = 0) :
    Calls Try.prog 6 #[.slice A m.length c, .slice V u.length cv, .slice L l.length cl] w fun e w' => e = .returned (.bool true) ∧ Below w.heap.size w w' := by
  have hB1 := Lib.hid (big_any A m c w hm)
  have hB2 := Lib.hid (big_any L l cl w hL)
  go_enter Try.func6, Try.ntmps6
  go_wp2_with fail
  with_reducible refine hB1.out.mono ?_
  rintro e w1 ⟨b, rfl, rfl, hb⟩
  clear hB1
  cases b
  · have hm16 := Lib.hid (hb rfl).1
    clear hb
    go_wp2_with fail
    with_reducible refine hB2.out.mono ?_
    rintro e w1 ⟨b, rfl, rfl, hb⟩
    clear hB2
    cases b
    · have hl16 := Lib.hid (hb rfl).1
      clear hb
      by_cases hl : 65536 < u.length
      · have hl' : decide (65536 < (u.length : Int)) = true := decide_eq_true (by omega)
        clear hl
        go_wp2_with fail
        go_ret
        exact ⟨rfl, Below.refl _ _⟩
      · have hl' : decide (65536 < (u.length : Int)) = false := decide_eq_false (by omega)
        clear hl
        go_wp2_with fail
        clear hl'
        go_loopw [7] (fun i wr => ∃ i' : Nat, i' ≤ l.length ∧ i = .int .i64 (i' : Int) ∧ Below w.heap.size w wr) (fun i _ => l.length - (intOf i).toNat)
        case atStart => exact ⟨0, Nat.zero_le _, rfl, Below.refl _ _⟩
        case round =>
          obtain ⟨i, hi, rfl, B1⟩ := hrel
          by_cases hlt : i < l.length
          · obtain ⟨g, o, R, rc, rfl, hc1, hR⟩ := hL i hlt
            have p0 : (0 : Int) ≤ (i : Int) := by omega
            have p1 : (i : Int) < (l.length : Int) := by omega
            have hwi : wrap64 ((i : Int) + 1) = ((i + 1 : Nat) : Int) := by have := hl16.out; simp only [wrap64]; omega
            obtain ⟨i2, hi2⟩ : ∃ i2, i + 1 = i2 := ⟨_, rfl⟩
            rw [hi2] at hwi
            have c1 := below_cell B1 hc1
            have hN := Lib.hid (Near_any A m c R (mrow l i) rc wr (hm.below B1) (hR.below B1))
            by_cases hE : nearE m (mrow l i) = 0
            · have hz := nearE_ok hE
              rw [nearAt, nearD, if_pos hE, if_pos hE, hE] at hN
              obtain ⟨z1, z2, z3, hok, hvv, z4, hm64⟩ := hz
              clear z1 z2 z3 z4
              have hK := Lib.hid (fun k (hk : k < m.length) => fair_facts hok hvv hk)
              have hD := Lib.hid (fun k (hk : k < m.length) R2 rc2 x (h1 : Row x R2 (mrow m k)) (h2 : Row x R (mrow l i)) => rdist_ok R2 R (mrow m k) (mrow l i) rc2 rc (by rw [row_len hok hk]; exact hok k hk) (by rw [row_len hok hk]; exact hvv) x h1 h2)
              clear hok hvv hE
              generalize nearN m (mrow l i) = N at *
              obtain ⟨at_, D⟩ := N
              go_wp2_with fail
              with_reducible refine hN.out.mono ?_
              rintro e w3 ⟨rfl, hb⟩
              have B3 := below_chain B1 hb B1.size
              have F0 : FairB w w3.heap.size D (w3.alloc (.cells #[.int .u64 (hiN D : Int), .int .u64 (loN D : Int)] 34)) := ⟨below_chain B3 (below_alloc1 _ _) B3.size, Blk.new _ _ _, B3.size⟩
              clear c1 hN hb B3
              go_wp2_with fail
              generalize w3.heap.size = g9 at *
              generalize (w3.alloc (.cells #[.int .u64 (hiN D : Int), .int .u64 (loN D : Int)] 34)) = w4 at *
              go_loopw [11] (fun q wr => ∃ k : Nat, k ≤ m.length ∧ q = .int .i64 (k : Int) ∧ FairB w g9 D wr) (fun q _ => m.length - (intOf q).toNat)
              case atStart => exact ⟨0, Nat.zero_le _, rfl, F0⟩
              case round =>
                obtain ⟨k, hk, rfl, hS⟩ := hrel
                clear F0
                by_cases hlt2 : k < m.length
                · obtain ⟨g2, o2, R2, rc2, rfl, hc2, hR2⟩ := hm k hlt2
                  have q0 : (0 : Int) ≤ (k : Int) := by omega
                  have q1 : (k : Int) < (m.length : Int) := by omega
                  have hDk := Lib.hid (fun x (hb : Below w.heap.size w x) => hD.out k hlt2 R2 rc2 x (hR2.below hb) (hR.below hb))
                  obtain ⟨k1, k2, k3, k4, k5⟩ := hK.out k hlt2
                  have hg9 : g9 < wr.heap.size := hS.2.1.lt
                  have hw9 : w.heap.size ≤ wr.heap.size := hS.1.size
                  have hS2 : g2 ≠ wr.heap.size ∧ g ≠ wr.heap.size := by
                    have h1 := World.block_lt_of_cell? w _ hc1
                    have h2 := World.block_lt_of_cell? w _ hc2
                    have h3 := hS.1.size
                    exact ⟨by simp at h2; omega, by simp at h1; omega⟩
                  replace hS := hS.more (Below.refl _ wr).drew
                  have S0 : FairR wr.drew g2 o2 k g o i (.slice R2 (mrow m k).length rc2) (.slice R (mrow l i).length rc) := ⟨below_cell hS.1 hc2, below_cell hS.1 hc1⟩
                  generalize farN (mrow m k) (mrow l i) = F at *
                  have hLs := Lib.hid (fun x => less_c F D k4 k5 x)
                  rw [decide_eq_false k1] at hLs
                  clear k1 k4 k5
                  replace k2 := Lib.hid k2
                  replace k3 := Lib.hid k3
                  have BA : Below wr.drew.heap.size wr.drew (World.drew (wr.alloc (.cells #[.int .u64 0, .int .u64 0] 34))) := (by
                    have h := (below_alloc1 wr (.cells #[.int .u64 0, .int .u64 0] 34)).drew
                    exact ⟨h.os, h.tape, h.output, h.size, h.block⟩)
                  have hSa := hS.more BA
                  have S0a := S0.more BA
                  have B5 : Below w.heap.size w wr.drew := hS.1
                  have B6 : Below w.heap.size w (World.drew (wr.alloc (.cells #[.int .u64 0, .int .u64 0] 34))) := hSa.1
                  have b0 : Blk (World.drew (wr.alloc (.cells #[.int .u64 0, .int .u64 0] 34))) wr.heap.size 34 #[.int .u64 0, .int .u64 0] := Blk.new wr _ _
                  go_wp2_with fail
                  go_region_held3 (fun w' => w'.cell? ⟨g2, o2 + k, none⟩ = some (.slice R2 (mrow m k).length rc2) ∧ w'.cell? ⟨g, o + i, none⟩ = some (.slice R (mrow l i).length rc))
                    (first | exact S0 | exact S0a | exact S1 | exact S1.more (below_alloc1 _ _) | exact (S1.set_ _ _ hS2).set_ _ _ hS2 | exact S1.set_ _ _ hS2)
                    (first
                    | (go_at_call 19; (with_reducible refine (hDk.out _ B5).mono ?_); rintro e x1 ⟨rfl, hb⟩; have S1 := S0.more hb; have T1 := hS.more hb)
                    | (go_at_call 19; (with_reducible refine (hDk.out _ B6).mono ?_); rintro e x1 ⟨rfl, hb⟩; have S1 := S0a.more hb; have T1 := hSa.more hb; have b1 := b0.below hb b0.lt; have c1 := b1.cell 0; have c2 := b1.cell 1; have f1 := b1.frozen 0; have f2 := b1.frozen 1; simp only [List.getElem?_toArray, List.getElem?_cons_zero, List.getElem?_cons_succ] at c1 c2))
                  all_goals
                    first
                      | (have b5 := pair_set (u := .int .u64 (hiN F : Int)) (v := .int .u64 (loN F : Int)) b1
                         have T2 := (T1.far (a := ⟨wr.heap.size, 0, none⟩) hw9 hg9 (.int .u64 (hiN F : Int))).far (a := ⟨wr.heap.size, 1, none⟩) hw9 hg9 (.int .u64 (loN F : Int))
                         generalize ((x1.setCell ⟨wr.heap.size, 0, none⟩ _).setCell ⟨wr.heap.size, 1, none⟩ _) = w5 at *
                         clear c1 c2 f1 f2 b1)
                      | (have b5 := Blk.new x1 34 #[.int .u64 (hiN F : Int), .int .u64 (loN F : Int)]
                         have T2 := T1.more (below_alloc1 x1 (.cells #[.int .u64 (hiN F : Int), .int .u64 (loN F : Int)] 34))
                         generalize x1.alloc (.cells #[.int .u64 (hiN F : Int), .int .u64 (loN F : Int)] 34) = w5 at *)
                    clear S0 S0a S1 T1 hS hSa B5 B6 b0 BA hDk
                    have c1 := b5.cell 0
                    have c2 := b5.cell 1
                    simp only [List.getElem?_toArray, List.getElem?_cons_zero, List.getElem?_cons_succ] at c1 c2
                    obtain ⟨c3, c4⟩ := T2.cells
                    go_wp2_with fail
                    with_reducible refine (hLs.out _).mono ?_
                    rintro e w6 ⟨rfl, hb6⟩
                    have T3 := T2.more hb6
                    have b6 := b5.below hb6 b5.lt
                    clear c1 c2 c3 c4
                    have c1 := b6.cell 0
                    have c2 := b6.cell 1
                    simp only [List.getElem?_toArray, List.getElem?_cons_zero, List.getElem?_cons_succ] at c1 c2
                    obtain ⟨c3, c4⟩ := T3.cells
                    clear hLs hb6 b5 b6 T2
                    rcases Nat.lt_trichotomy k at_ with h | h | h
                    · have n1 : (k : Int) < (at_ : Int) := by omega
                      have n2 : ((k : Int) == (at_ : Int)) = false := by simp; omega
                      rcases wide_ne (k2.out h) with f1 | ⟨f1, f2, f3⟩
                      · clear h
                        go_wp2_with fail
                        exact ⟨⟨k + 1, by omega, by go_num, T3⟩, by simp [intOf]; omega⟩
                      · clear h f2
                        go_wp2_with fail
                        exact ⟨⟨k + 1, by omega, by go_num, T3⟩, by simp [intOf]; omega⟩
                    · have e := k3.out h
                      subst e
                      subst h
                      go_wp2_with fail
                      exact ⟨⟨k + 1, by omega, by go_num, T3⟩, by simp [intOf]; omega⟩
                    · have n1 : (at_ : Int) ≤ (k : Int) := by omega
                      have n2 : ((k : Int) == (at_ : Int)) = false := by simp; omega
                      clear h
                      go_wp2_with fail
                      exact ⟨⟨k + 1, by omega, by go_num, T3⟩, by simp [intOf]; omega⟩
                · obtain rfl : k = m.length := by omega
                  have B9 := hS.1
                  go_wp2_with fail
                  rw [hwi]
                  exact ⟨⟨i2, by omega, rfl, B9⟩, by simp [intOf]; omega⟩
            · have hne : (nearE m (mrow l i) != 0) = true := by simpa using hE
              generalize nearE m (mrow l i) = E at *
              generalize nearAt m (mrow l i) = at_ at *
              generalize nearD m (mrow l i) = D at *
              clear hE
              go_wp2_with fail
              with_reducible refine hN.out.mono ?_
              rintro e w3 ⟨rfl, hb⟩
              have B3 := below_chain (below_chain B1 hb B1.size) (below_alloc1 w3 (.cells #[.int .u64 (hiN D : Int), .int .u64 (loN D : Int)] 34)) (below_chain B1 hb B1.size).size
              clear c1 hN
              go_wp2_with fail
              rw [hwi]
              exact ⟨⟨i2, by omega, rfl, B3⟩, by simp [intOf]; omega⟩
          · obtain rfl : i = l.length := by omega
            have hC1 := Lib.hid (Cost_any A m c L l cl wr (hm.below B1) (hL.below B1))
            obtain ⟨m2, hm2⟩ : ∃ m2, m2 = m ++ [u] := ⟨_, rfl⟩
            have hlen2 : m2.length = m.length + 1 := by rw [hm2]; simp
            have hmono : costE m l = 0 → costE m2 l = 0 → ¬ costN m l < costN m2 l := fun h1 h2 => by
              rw [hm2] at h2 ⊢
              exact costN_snoc h1 h2
            have hW1 := costN_wd m l
            have hW2 := costN_wd m2 l
            replace hmono := Lib.hid hmono
            replace hW1 := Lib.hid hW1
            replace hW2 := Lib.hid hW2
            replace hlen2 := Lib.hid hlen2
            have hC2 := Lib.hid (fun ga ca x (h1 : Mat x (some ⟨ga, 0, none⟩) m2) (h2 : Below w.heap.size w x) => Cost_any (some ⟨ga, 0, none⟩) m2 ca L l cl x h1 (hL.below h2))
            go_wp2_with fail
            with_reducible refine hC1.out.mono ?_
            rintro e x1 ⟨rfl, hb⟩
            replace B1 := below_chain B1 hb B1.size
            generalize costN m l = C1 at *
            generalize costE m l = E1 at *
            generalize costN m2 l = C2 at *
            generalize costE m2 l = E2 at *
            have b1 := Blk.new x1 34 #[.int .u64 (hiN C1 : Int), .int .u64 (loN C1 : Int)]
            replace B1 := below_chain B1 (below_alloc1 x1 (.cells #[.int .u64 (hiN C1 : Int), .int .u64 (loN C1 : Int)] 34)) B1.size
            clear hC1 hb
            go_upto_region 16 with fail
            generalize x1.heap.size = g14 at *
            generalize x1.alloc (.cells #[.int .u64 (hiN C1 : Int), .int .u64 (loN C1 : Int)] 34) = x2 at *
            have l14 := b1.lt
            obtain ⟨i0, hi0, hzz⟩ := Option.map_eq_some_iff.1 row_info
            simp only [Prod.mk.injEq] at hzz
            obtain ⟨hz0, hz1, hz2⟩ := hzz
            go_cut [16] from 16 to 16 (fun s wx => Below w.heap.size w wx ∧ AllS w wx s m ∧ Blk wx g14 34 #[.int .u64 (hiN C1 : Int), .int .u64 (loN C1 : Int)] ∧ s.ownBlock ≠ some g14)
            case first =>
              cases A with
              | none =>
                have hm0 : m = [] := by
                  cases m with
                  | nil => rfl
                  | cons a t => obtain ⟨g, o, _, _, h, _⟩ := hm 0 (by simp); cases h
                have hc0 := hn rfl
                subst hm0 hc0
                go_wp2_with (at_builtin; refine wpList_append_own_none rfl (.tmp 99) (.tmp 100) 22 rfl w.heap.size 30 i0 1 Try.underlying22 hi0 (.slice none 0 0) 0 [] rfl (World.ownsRow_nil _ _ _ _) rfl ?_)
                go_meet
                exact ⟨B1, ⟨[], World.ownsRow_nil _ _ _ _, fun i hi => by simp at hi⟩, b1, by simp [Value.ownBlock]⟩
              | some ad =>
                obtain ⟨news, nw1, nw2, nw3, nw4⟩ : ∃ news : List Value, news.length = m.length ∧ (∀ j u, news[j]? = some u → x2.cell? (ad.add j) = some u) ∧
                    (∀ i, i < m.length → ∃ R c, news[i]? = some (.slice R (mrow m i).length c) ∧ Row w R (mrow m i)) ∧ (∀ u ∈ news, u.oneCell' = true) := by
                  by_cases h0 : m.length = 0
                  · exact ⟨[], by simp [h0], fun j u h => by simp at h, fun i hi => by omega, fun u h => by simp at h⟩
                  · obtain ⟨g, o, _, _, h, _⟩ := hm 0 (by omega)
                    simp only [Option.some.injEq] at h
                    subst h
                    obtain ⟨news, n1, n2, n3, n4⟩ := mat_news hm
                    exact ⟨news, n1, fun j u h => below_cell B1 (n2 j u h), n3, n4⟩
                have hml := hm16.out
                go_wp2_with (at_builtin; refine wpList_append_own_at _ rfl (.tmp 99) (.tmp 100) 22 rfl w.heap.size 30 i0 (.slice none 0 0) 1 24 Try.underlying22 hi0 hz0 hz1 hz2 rfl (by omega) (.slice none 0 0) 0 [] rfl (World.ownsRow_nil _ _ _ _) ad m.length c news rfl (by omega) nw2 nw4 (by unfold maxLen; omega) (by omega) B1.size ?_; intro v1 w1 hown hg _ hat)
                go_meet
                have hBw := below_of_grown B1 hg (fun k hk => by simp [Value.ownBlock] at hk)
                rw [Nat.zero_add, List.nil_append] at hown
                refine ⟨hBw, ⟨news, hown, nw3⟩, b1.grown hg (by simp [Value.ownBlock]), ?_⟩
                rcases hat with h | h
                · rw [h]; simp [Value.ownBlock]
                · rw [h]; simp; omega
            case rest =>
              obtain ⟨B2, hAll, b2, ho⟩ := hcut
              clear B1 b1 l14
              generalize hwc : wc = x3 at *
              clear hwc
              obtain ⟨xs, HO, hX⟩ := hAll
              have hml := hm16.out
              have hz3 := B2.size
              go_wp2_with (at_builtin; refine append_one w.heap.size rfl (.tmp 102) (.tmp 104) _ 30 (.slice none 0 0) 24 rfl Try.underlying22 row_info rfl (by omega) u16 m.length _ (.slice V u.length cv) rfl rfl rfl HO hz3 (by omega) ?_; intro v1 x4 HO1 hg1 hat1)
              have hown := fun q hq => own_lt' HO q hq
              have B4 := below_of_grown B2 hg1 (fun q hq => (hown q hq).1)
              have b4 := b2.grown hg1 (fun e => ho e.symm)
              have hAll2 : AllS w x4 v1 m2 := by
                rw [hm2]
                refine ⟨_, by rw [List.length_append]; exact HO1, fun i hi => ?_⟩
                have hxl : xs.length = m.length := by have := HO.1; simpa using this
                rw [List.length_append] at hi
                simp only [List.length_cons, List.length_nil] at hi
                by_cases e : i = m.length
                · subst e
                  have er : mrow (m ++ [u]) m.length = u := by simp [mrow]
                  exact ⟨V, cv, by rw [er, ← hxl]; simp, by rw [er]; exact hV⟩
                · obtain ⟨R5, c5, e1, e2⟩ := hX i (by omega)
                  have er : mrow (m ++ [u]) i = mrow m i := by simp [mrow, List.getElem?_append_left (show i < m.length by omega)]
                  exact ⟨R5, c5, by rw [er, List.getElem?_append_left (by omega)]; exact e1, by rw [er]; exact e2⟩
              obtain ⟨ga, ca, rfl, hMat⟩ := hAll2.mat B4 (by rw [hlen2.out]; omega)
              have hC3 := Lib.hid (hC2.out ga ca x4 hMat B4)
              clear hAll2 hMat HO1 hg1 hat1 hown HO hX B2 b2 ho hC2 hz3
              go_wp2_with fail
              with_reducible refine hC3.out.mono ?_
              rintro e x5 ⟨rfl, hb⟩
              clear hC3
              have B5 := below_chain B4 hb B4.size
              have b5 := b4.below hb b4.lt
              have l5 := b5.lt
              have b6 := b5.alloc (.cells #[.int .u64 (hiN C2 : Int), .int .u64 (loN C2 : Int)] 34)
              have d6 := Blk.new x5 34 #[.int .u64 (hiN C2 : Int), .int .u64 (loN C2 : Int)]
              have B6 := below_chain B5 (below_alloc1 x5 (.cells #[.int .u64 (hiN C2 : Int), .int .u64 (loN C2 : Int)] 34)) B5.size
              clear hb B4 b4 B5 b5
              go_upto_region 19 with fail
              generalize x5.heap.size = g17 at *
              generalize x5.alloc (.cells #[.int .u64 (hiN C2 : Int), .int .u64 (loN C2 : Int)] 34) = x6 at *
              go_wp2_with fail
              refine (awake_any x6).mono ?_
              rintro e x7 ⟨rfl, hb⟩
              have b7 := b6.below hb b6.lt
              have d7 := d6.below hb d6.lt
              have B7 := below_chain B6 hb B6.size
              have c1 := b7.cell 0
              have c2 := b7.cell 1
              have c3 := d7.cell 0
              have c4 := d7.cell 1
              simp only [List.getElem?_toArray, List.getElem?_cons_zero, List.getElem?_cons_succ] at c1 c2 c3 c4
              clear hb b6 d6 b7 d7 B6
              by_cases hE1 : E1 = 0
              · by_cases hE2 : E2 = 0
                · have hL7 := less_c C1 C2 hW1.out hW2.out x7
                  rw [decide_eq_false (hmono.out hE1 hE2)] at hL7
                  replace hL7 := Lib.hid hL7
                  subst hE1 hE2
                  clear hmono
                  go_wp2_with fail
                  with_reducible refine hL7.out.mono ?_
                  rintro e x8 ⟨rfl, hb⟩
                  have B9 := below_chain B7 hb B7.size
                  clear hL7
                  go_wp2_with fail
                  go_ret
                  exact ⟨rfl, B9⟩
                · have hne : (E2 != 0) = true := by simpa using hE2
                  subst hE1
                  have B9 := B7
                  clear hmono hE2
                  go_wp2_with fail
                  go_ret
                  exact ⟨rfl, B9⟩
              · have hne : (E1 != 0) = true := by simpa using hE1
                have B9 := B7
                clear hmono hE1
                go_wp2_with fail
                go_ret
                exact ⟨rfl, B9⟩
    · go_wp2_with fail
      go_ret
      exact ⟨rfl, Below.refl _ _⟩
  · go_wp2_with fail
    go_ret
    exact ⟨rfl, Below.refl _ _⟩
end Go.Proofs.Ytoglemdooaiddaa
