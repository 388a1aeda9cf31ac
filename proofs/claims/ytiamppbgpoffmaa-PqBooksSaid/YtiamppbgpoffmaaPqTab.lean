/- The contract of the coder's Table: rows of Wides in new memory. -/
import Derived.Test.YtiamppbgpoffmaaPqDec
namespace Go.Proofs.Ytiamppbgpoffmaa
open Go.RowKit
set_option linter.unusedVariables false

def nthw (l : List Nat) (i : Nat) : Nat := l.getD i 0
def wrow (t : List (List Nat)) (i : Nat) : List Nat := t.getD i []
/-- A Wide's cells. -/
def wcells (D : Nat) : List Value := [.int .u64 (hiN D : Int), .int .u64 (loN D : Int)]
/-- The cells of a list of Wides. -/
def wides : List Nat → List Value
  | [] => []
  | D :: l => wcells D ++ wides l
theorem wides_length : ∀ l : List Nat, (wides l).length = l.length * 2
  | [] => rfl
  | D :: l => by rw [wides, List.length_append, wides_length l, List.length_cons]; simp [wcells]; omega
theorem wides_at : ∀ (l : List Nat) (q i : Nat), q < l.length → i < 2 → (wides l)[q * 2 + i]? = (wcells (nthw l q))[i]?
  | [], q, i, h, _ => by simp at h
  | D :: l, 0, i, _, hi => by
    rw [wides, Nat.zero_mul, Nat.zero_add, List.getElem?_append_left (by simpa [wcells] using hi)]
    rfl
  | D :: l, q + 1, i, h, hi => by
    have h4 : (wcells D).length = 2 := rfl
    rw [wides, List.getElem?_append_right (by rw [h4]; omega), h4, show (q + 1) * 2 + i - 2 = q * 2 + i by omega, wides_at l q i (by simpa using h) hi]
    simp [nthw]
theorem wides_snoc : ∀ (l : List Nat) (D : Nat), wides l ++ wcells D = wides (l ++ [D])
  | [], D => by simp [wides]
  | E :: l, D => by rw [List.cons_append, wides, wides, List.append_assoc, wides_snoc l D]
/-- A slice (nil or not) of Wides that reads as a list of numbers. -/
def WRow (w : World) (A : Option Addr) (l : List Nat) : Prop := ∀ j, j < l.length → ∃ g off, A = some ⟨g, off, none⟩ ∧ w.cell? ⟨g, off + j * 2, none⟩ = some (.int .u64 (hiN (nthw l j) : Int)) ∧ w.cell? ⟨g, off + j * 2 + 1, none⟩ = some (.int .u64 (loN (nthw l j) : Int))
theorem WRow.keep {w w' : World} {A : Option Addr} {l : List Nat} (h : WRow w A l) (hk : ∀ a v, w.cell? a = some v → w'.cell? a = some v) : WRow w' A l := fun j hj => by
  obtain ⟨g, off, h1, h2, h3⟩ := h j hj
  exact ⟨g, off, h1, hk _ _ h2, hk _ _ h3⟩
theorem WRow.below {w w' : World} {A : Option Addr} {l : List Nat} (h : WRow w A l) (hb : Below w.heap.size w w') : WRow w' A l := h.keep fun _ _ hc => below_cell hb hc
theorem WRow.grown {w w' : World} {g off : Nat} {l : List Nat} {row : Option Nat} (h : WRow w (some ⟨g, off, none⟩) l) (hg : w.grownBy w' row) (hr : row ≠ some g) : WRow w' (some ⟨g, off, none⟩) l := fun j hj => by
  obtain ⟨b, o, hA, h1, h2⟩ := h j hj
  simp only [Option.some.injEq, Addr.mk.injEq, and_true] at hA
  obtain ⟨rfl, rfl⟩ := hA
  exact ⟨g, off, rfl, (World.cell?_of_block (hg.block g (World.block_lt_of_cell? w _ h1) (fun e => hr e.symm))).trans h1, (World.cell?_of_block (hg.block g (World.block_lt_of_cell? w _ h1) (fun e => hr e.symm))).trans h2⟩
/-- A slice of slices of Wides. -/
def WTab (w : World) (A : Option Addr) (t : List (List Nat)) : Prop := ∀ i, i < t.length → ∃ g off R c, A = some ⟨g, off, none⟩ ∧ w.cell? ⟨g, off + i, none⟩ = some (.slice R (wrow t i).length c) ∧ WRow w R (wrow t i)
theorem WTab.keep {w w' : World} {A : Option Addr} {t : List (List Nat)} (h : WTab w A t) (hk : ∀ a v, w.cell? a = some v → w'.cell? a = some v) : WTab w' A t := fun i hi => by
  obtain ⟨g, off, R, c, h1, h2, h3⟩ := h i hi
  exact ⟨g, off, R, c, h1, hk _ _ h2, h3.keep hk⟩
theorem WTab.below {w w' : World} {A : Option Addr} {t : List (List Nat)} (h : WTab w A t) (hb : Below w.heap.size w w') : WTab w' A t := h.keep fun _ _ hc => below_cell hb hc

theorem wide_info : (Try.prog.info? 44).map (fun i => (i.zero, i.size, i.bytes)) = some (some (.agg #[.int .u64 0, .int .u64 0]), 2, 16) := by kernel_rfl
theorem wrow_info : (Try.prog.info? 69).map (fun i => (i.zero, i.size, i.bytes)) = some (some (.slice none 0 0), 1, 24) := by kernel_rfl
section
variable {P : Program} {ops : Array Oper} {rest : List Oper} {o : Oper} {a : Act} {Q : Exit → Act → World → Prop}
/-- 'append(v, x)', x a Wide; the goal's world holds x's own box already. -/
theorem append_wide {W : World} (base : Nat) (hgd : o.guard = none) (s x : Operand) (t e : TypeId)
    (ho : o.op = .call { callee := .builtin .append, args := #[s, x], argTypes := #[t, t] })
    (ht : P.underlying t = some (.slice e)) (hinfo : (P.info? e).map (fun i => (i.zero, i.size, i.bytes)) = some (some (.agg #[.int .u64 0, .int .u64 0]), 2, 16))
    (v : Value) (n : Nat) (xs : List Nat) (D : Nat) (hs : a.eval s = v) (hx : a.eval x = .slice (some ⟨W.heap.size, 0, none⟩) 1 1)
    (HO : W.ownsRow base e 2 v n (wides xs)) (hbase : base ≤ W.heap.size) (hl : (n + 1) * 16 ≤ 140737488355328)
    (h : ∀ v1 w1, w1.ownsRow base e 2 v1 (n + 1) (wides (xs ++ [D])) → W.grownBy w1 v.ownBlock → (v1.ownBlock = v.ownBlock ∨ v1.ownBlock = some (W.heap.size + 1)) → wpList P ops Q rest (a.put o.dst v1) w1) :
    wpList P ops Q (o :: rest) a (W.alloc (.cells #[.int .u64 (hiN D : Int), .int .u64 (loN D : Int)] e)) := by
  obtain ⟨i0, hi, hzz⟩ := Option.map_eq_some_iff.1 hinfo
  simp only [Prod.mk.injEq] at hzz
  obtain ⟨hz0, hz1, hz2⟩ := hzz
  have hB := Blk.new W e #[.int .u64 (hiN D : Int), .int .u64 (loN D : Int)]
  refine wpList_append_own_at (W.alloc (.cells #[.int .u64 (hiN D : Int), .int .u64 (loN D : Int)] e)) hgd s x t ho base e i0 (.agg #[.int .u64 0, .int .u64 0]) 2 16 ht hi hz0 hz1 hz2 rfl (by omega) v n (wides xs) hs (HO.alloc _) ⟨W.heap.size, 0, none⟩ 1 1 (wcells D) hx rfl
    (fun j u hu => ?_) (fun u hu => ?_) (by simp only [maxLen]; omega) hl (by simp; omega) ?_
  · have hadd : (⟨W.heap.size, 0, none⟩ : Addr).add j = ⟨W.heap.size, j, none⟩ := by unfold Addr.add; split <;> simp_all
    rw [hadd, hB.cell j]
    simpa [wcells] using hu
  · simp [wcells] at hu
    rcases hu with rfl | rfl <;> rfl
  · intro v1 w1 hown hg _ hat
    rw [wides_snoc] at hown
    refine h v1 w1 hown ?_ (by simpa using hat)
    exact ⟨hg.os, hg.tape, hg.output, Nat.le_trans (by simp) hg.size, fun k hk hne => (hg.block k (by simp; omega) hne).trans (Below.heap_alloc W _ k hk)⟩
end
theorem own_wide {w : World} {base n g cap : Nat} {e : TypeId} {l : List Nat} (h : w.ownsRow base e 2 (.slice (some ⟨g, 0, none⟩) n cap) n (wides l)) : WRow w (some ⟨g, 0, none⟩) l := fun j hj => by
  have hl : l.length = n := by have := h.1; rw [wides_length] at this; omega
  refine ⟨g, 0, rfl, ?_, ?_⟩
  · have := wides_at l j 0 hj (by omega)
    rw [Nat.zero_add, h.cellAt (j * 2) (by omega)]
    exact this
  · have := wides_at l j 1 hj (by omega)
    rw [Nat.zero_add, h.cellAt (j * 2 + 1) (by omega)]
    exact this
/-- A slice of the call's own whose elements are rows of Wides that are not in its own block. -/
def OutW (B : Nat) (wr : World) (out : Value) (k : Nat) (t : List (List Nat)) : Prop :=
  ∃ xs, wr.ownsRow B 69 1 out k xs ∧ ∀ i, i < k → ∃ g c, xs[i]? = some (.slice (some ⟨g, 0, none⟩) (wrow t i).length c) ∧ g < wr.heap.size ∧ out.ownBlock ≠ some g ∧ WRow wr (some ⟨g, 0, none⟩) (wrow t i)
theorem OutW.start (B : Nat) (w : World) (t : List (List Nat)) : OutW B w (.slice none 0 0) 0 t := ⟨[], World.ownsRow_nil _ _ _ _, fun i hi => by omega⟩
theorem OutW.below {B : Nat} {wr w2 : World} {out : Value} {k : Nat} {t : List (List Nat)} (h : OutW B wr out k t) (hb : Below wr.heap.size wr w2) : OutW B w2 out k t := by
  obtain ⟨xs, h1, h2⟩ := h
  refine ⟨xs, h1.kept (grown_of_below hb none) (by simp; exact Classical.em _), fun i hi => ?_⟩
  obtain ⟨g, c, e1, e2, e3, e4⟩ := h2 i hi
  exact ⟨g, c, e1, Nat.lt_of_lt_of_le e2 hb.size, e3, e4.below hb⟩
theorem OutW.tab {B : Nat} {wr : World} {out : Value} {t : List (List Nat)} (h : OutW B wr out t.length t) (h0 : 0 < t.length) : ∃ g c, out = .slice (some ⟨g, 0, none⟩) t.length c ∧ WTab wr (some ⟨g, 0, none⟩) t := by
  obtain ⟨xs, h1, h2⟩ := h
  obtain ⟨g, cap, rfl, hg, _⟩ := own_shape h1 h0
  refine ⟨g, cap, rfl, fun i hi => ?_⟩
  obtain ⟨g3, c, e1, e2, e3, e4⟩ := h2 i hi
  have hx : i < xs.length := (List.getElem?_eq_some_iff.1 e1).1
  exact ⟨g, 0, _, c, rfl, by rw [Nat.zero_add, h1.cellAt i (by omega)]; exact e1, e4⟩
theorem OutW.lt {B : Nat} {wr : World} {out : Value} {k : Nat} {t : List (List Nat)} (h : OutW B wr out k t) : ∀ q, out.ownBlock = some q → B ≤ q ∧ q < wr.heap.size := by
  obtain ⟨xs, h1, _⟩ := h
  exact fun q hq => own_lt' h1 q hq
theorem OutW.snoc {B : Nat} {wr w2 : World} {out v1 : Value} {k : Nat} {t : List (List Nat)} {xs : List Value} {g c : Nat}
    (HO : wr.ownsRow B 69 1 out k xs) (hX : ∀ i, i < k → ∃ g c, xs[i]? = some (.slice (some ⟨g, 0, none⟩) (wrow t i).length c) ∧ g < wr.heap.size ∧ out.ownBlock ≠ some g ∧ WRow wr (some ⟨g, 0, none⟩) (wrow t i))
    (HO1 : w2.ownsRow B 69 1 v1 (k + 1) (xs ++ [.slice (some ⟨g, 0, none⟩) (wrow t k).length c])) (hg : wr.grownBy w2 out.ownBlock) (hat : v1.ownBlock = out.ownBlock ∨ v1.ownBlock = some (wr.heap.size + 1))
    (hlt : g < wr.heap.size) (hne : out.ownBlock ≠ some g) (hr : WRow wr (some ⟨g, 0, none⟩) (wrow t k)) : OutW B w2 v1 (k + 1) t := by
  refine ⟨_, HO1, fun i hi => ?_⟩
  have hxl : xs.length = k := by have := HO.1; simpa using this
  by_cases e : i = k
  · subst e
    refine ⟨g, c, by simp [← hxl], Nat.lt_of_lt_of_le hlt hg.size, ?_, hr.grown hg hne⟩
    rcases hat with e1 | e1
    · rw [e1]; exact hne
    · rw [e1]; simp; omega
  · obtain ⟨g5, c5, e1, e2, e3, e4⟩ := hX i (by omega)
    refine ⟨g5, c5, by rw [List.getElem?_append_left (by omega)]; exact e1, Nat.lt_of_lt_of_le e2 hg.size, ?_, e4.grown hg e3⟩
    rcases hat with e6 | e6
    · rw [e6]; exact e3
    · rw [e6]; simp; omega

/-- The first x distances of part j. -/
def tabR (bs : List (List (List Int))) (n : Nat) (q : List Int) (j x : Nat) : List Nat := (List.range x).map fun y => farN (partN q n j) (mrow (brow bs j) y)
def tabN (bs : List (List (List Int))) (n : Nat) (q : List Int) (p k : Nat) : List (List Nat) := (List.range p).map fun j => tabR bs n q j k
theorem tabR_length (bs : List (List (List Int))) (n : Nat) (q : List Int) (j x : Nat) : (tabR bs n q j x).length = x := by simp [tabR]
theorem tabR_succ (bs : List (List (List Int))) (n : Nat) (q : List Int) (j x : Nat) : tabR bs n q j x ++ [farN (partN q n j) (mrow (brow bs j) x)] = tabR bs n q j (x + 1) := by simp [tabR, List.range_succ]
theorem nthw_tabR {bs : List (List (List Int))} {n : Nat} {q : List Int} {j x y : Nat} (h : y < x) : nthw (tabR bs n q j x) y = farN (partN q n j) (mrow (brow bs j) y) := by simp [nthw, tabR, h]
theorem tabN_length (bs : List (List (List Int))) (n : Nat) (q : List Int) (p k : Nat) : (tabN bs n q p k).length = p := by simp [tabN]
theorem wrow_tabN {bs : List (List (List Int))} {n : Nat} {q : List Int} {p k j : Nat} (h : j < p) : wrow (tabN bs n q p k) j = tabR bs n q j k := by simp [wrow, tabN, h]
def TabPost (w : World) (t : List (List Nat)) (e : Ending) (w' : World) : Prop := ∃ g c, e = .returned (.tuple #[.slice (some ⟨g, 0, none⟩) t.length c, .int .i64 0]) ∧ WTab w' (some ⟨g, 0, none⟩) t ∧ Below w.heap.size w w'

theorem tab_nil (V : Option Addr) (n cv : Nat) (w : World) : Calls Try.prog 17 #[.pointer none, .slice V n cv] w (CodeBad w 3) := by
  go_enter Try.func17, Try.ntmps17
  go_wp2_with fail
  go_ret2
  exact ⟨rfl, Below.refl _ _⟩
theorem tab_bad (gp d : Nat) (V : Option Addr) (v : List Int) (cv : Nat) (w : World) (hc : w.cell? ⟨gp, 0, none⟩ = some (.int .i64 (d : Int))) (hV : Row w V v) (hE : vecE v d ≠ 0) :
    Calls Try.prog 17 #[.pointer (some ⟨gp, 0, none⟩), .slice V v.length cv] w (CodeBad w (vecE v d)) := by
  have hC := Lib.hid (vec_any V v cv d w hV)
  have hne : (vecE v d != 0) = true := by simpa using hE
  generalize vecE v d = E at *
  clear hE
  go_enter Try.func17, Try.ntmps17
  go_wp2_with fail
  refine hC.out.mono ?_
  rintro e w1 ⟨rfl, rfl⟩
  go_wp2_with fail
  go_ret2
  exact ⟨rfl, Below.refl _ _⟩
set_option maxRecDepth 100000 in
set_option maxHeartbeats 4000000 in
theorem tab_ok (gp d p n k : Nat) (bs : List (List (List Int))) (V : Option Addr) (v : List Int) (cv : Nat) (w : World) (hB : Cod bs d p n k) (hc : CoderAt w gp d bs) (hV : Row w V v) (hcv : v.length ≤ cv) (hE : vecE v d = 0) :
    Calls Try.prog 17 #[.pointer (some ⟨gp, 0, none⟩), .slice V v.length cv] w (TabPost w (tabN bs n v p k)) := by
  obtain ⟨A, c, c0, c1, hbk⟩ := hc
  have hC := Lib.hid (vec_any V v cv d w hV)
  rw [hE] at hC
  have hvl : v.length = d := by have := (vecE_ok hE).2.2.1; omega
  have hp1 := hB.parts.p1
  have hp8 := hB.p8
  have hd1 := hB.n64
  have hk1 := hB.k1
  have hk16 := hB.k16
  obtain ⟨gv, ov, rfl, hcv0⟩ := hV 0 (by omega)
  clear hcv0
  rw [hB.len] at c1
  replace hB := Lib.hid hB
  replace hE := Lib.hid hE
  replace hvl := Lib.hid hvl
  go_enter Try.func17, Try.ntmps17
  go_wp2_with fail
  refine hC.out.mono ?_
  rintro e w1 ⟨rfl, rfl⟩
  go_wp2_with fail
  clear hC
  go_loopw [7, 31] (fun o i wr => ∃ j : Nat, j ≤ p ∧ i = .int .i64 (j : Int) ∧ OutW w.heap.size wr o j (tabN bs n v p k) ∧ Below w.heap.size w wr) (fun _ i _ => p - (intOf i).toNat)
  case atStart => exact ⟨0, Nat.zero_le _, rfl, OutW.start _ _ _, Below.refl _ _⟩
  case round =>
    obtain ⟨j, hj, rfl, hOut, HB⟩ := hrel
    by_cases hlt : j < p
    · have q0 : (0 : Int) ≤ (j : Int) := by omega
      have q1 : (j : Int) < (p : Int) := by omega
      obtain ⟨g, o, R, rc, hA, hc1, hR⟩ := hbk j (by rw [hB.out.len]; exact hlt)
      subst hA
      have hbl := hB.out.rows j hlt
      have d1 := below_cell HB hc1
      rw [hbl] at d1
      have d2 := below_cell HB c1
      obtain ⟨x0, hx0⟩ : ∃ x, x = wr := ⟨_, rfl⟩
      subst hx0
      go_wp2_with fail
      clear d1
      go_loopw [10, 38] (fun o i wr => ∃ x : Nat, x ≤ k ∧ i = .int .i64 (x : Int) ∧ wr.ownsRow x0.heap.size 44 2 o x (wides (tabR bs n v j x)) ∧ Below x0.heap.size x0 wr) (fun _ i _ => k - (intOf i).toNat)
      case atStart => exact ⟨0, Nat.zero_le _, rfl, World.ownsRow_nil _ _ _ _, Below.refl _ _⟩
      case round =>
        obtain ⟨x, hx, rfl, HI, HB2⟩ := hrel
        have HB3 := below_chain HB HB2 HB.size
        by_cases hlt2 : x < k
        · have r0 : (0 : Int) ≤ (x : Int) := by omega
          have r1 : (x : Int) < (k : Int) := by omega
          obtain ⟨g2, o2, R2, rc2, hA2, hc2, hR2⟩ := hR x (by rw [hbl]; exact hlt2)
          subst hA2
          have hP := Lib.hid (part_any gv ov v cv p n j (by rw [hvl.out]; exact hB.out.parts) hlt (by rw [hvl.out]; exact hB.out.d64) hcv)
          have hpo := part_ok hB.out.parts hlt hB.out.d64 hE.out
          have hpr := row_part_at (hV.below HB3) (by rw [hvl.out]; exact hB.out.parts.fits hlt)
          have hD := dist_ok (some ⟨gv, ov + j * n, none⟩) R2 (partN v n j) (mrow (brow bs j) x) n rc2 (by rw [hpo.1]; exact hpo.2) (by rw [hpo.1]; exact hB.out.ok hlt x hlt2) wr hpr (hR2.below HB3)
          rw [hpo.1] at hD
          replace hD := Lib.hid hD
          have hsT := tabR_succ bs n v j x
          replace hsT := Lib.hid hsT
          generalize farN (partN v n j) (mrow (brow bs j) x) = D at *
          have d3 := below_cell HB3 hc2
          have d4 := below_cell HB3 c1
          clear hpo hpr hc2 hR2 d2
          go_wp2_with fail
          refine (hP.out _).mono ?_
          rintro e w2 ⟨rfl, rfl⟩
          go_wp2_with fail
          refine hD.out.mono ?_
          rintro e w3 ⟨rfl, hb⟩
          have HI3 := (HI.kept (grown_of_below hb none) (by simp; exact Classical.em _)).alloc (.cells #[.int .u64 (hiN D : Int), .int .u64 (loN D : Int)] 44)
          have HB4 := below_chain HB2 hb HB2.size
          have HB5 := below_chain HB4 (below_alloc1 w3 (.cells #[.int .u64 (hiN D : Int), .int .u64 (loN D : Int)] 44)) HB4.size
          have hz := HB5.size
          have m0 := (Blk.new w3 44 #[.int .u64 (hiN D : Int), .int .u64 (loN D : Int)]).cell 0
          have m1 := (Blk.new w3 44 #[.int .u64 (hiN D : Int), .int .u64 (loN D : Int)]).cell 1
          simp only [List.getElem?_toArray, List.getElem?_cons_zero, List.getElem?_cons_succ] at m0 m1
          clear d3 d4 hD hb HI
          go_upto_region 15 with fail
          generalize hgb : w3.heap.size = gb at *
          generalize w3.alloc (.cells #[.int .u64 (hiN D : Int), .int .u64 (loN D : Int)] 44) = w4 at *
          go_wp2_with (at_builtin; refine append_wide x0.heap.size rfl (.tmp 55) (.tmp 57) _ 44 rfl Try.underlying69 wide_info u10 x (tabR bs n v j x) D rfl rfl HI3 hz (by omega) ?_; intro v1 w1 HO1 hg1 hat1)
          rw [hsT.out] at HO1
          have HB1 := below_of_grown HB5 hg1 (fun q hq => (own_lt' HI3 q hq).1)
          exact ⟨⟨x + 1, by omega, by go_num, HO1, HB1⟩, by simp [intOf]; omega⟩
        · obtain rfl : x = k := by omega
          obtain ⟨gi, ci, rfl, hgi1, hgi2⟩ := own_shape HI (by omega)
          have hW := own_wide HI
          have hlt3 := hOut.lt
          obtain ⟨xs, HO5, hX⟩ := hOut.below HB2
          have hwx := HB3.size
          have ht := wrow_tabN (bs := bs) (n := n) (q := v) (p := p) (k := x) hlt
          have hlen : (wrow (tabN bs n v p x) j).length = x := by rw [ht, tabR_length]
          rw [← ht] at hW
          replace hlen := Lib.hid hlen
          clear ht HI
          go_wp2_with (at_builtin; refine append_one w.heap.size rfl (.tmp 60) (.tmp 62) _ 69 (.slice none 0 0) 24 rfl Try.underlying37 wrow_info rfl (by omega) u7 j _ (.slice (some ⟨gi, 0, none⟩) x ci) rfl rfl rfl HO5 hwx (by omega) ?_; intro v1 x6 HO6 hg6 hat6)
          have hOut6 := OutW.snoc (t := tabN bs n v p x) HO5 hX (by rw [hlen.out]; exact HO6) hg6 hat6 hgi2 (fun e => by have := (hlt3 gi e).2; omega) hW
          have B6 := below_of_grown HB3 hg6 (fun q hq => (hlt3 q hq).1)
          exact ⟨⟨j + 1, by omega, by go_num, hOut6, B6⟩, by simp [intOf]; omega⟩
    · obtain rfl : j = p := by omega
      have hl := tabN_length bs n v j k
      have hOut2 := hOut
      rw [← hl] at hOut2
      obtain ⟨gw, cw, hw, hW⟩ := OutW.tab (t := tabN bs n v j k) (by rw [hl] at hOut2 ⊢; exact hOut) (by rw [hl]; omega)
      subst hw
      clear hOut hOut2
      replace hl := Lib.hid hl
      go_wp2_with fail
      go_ret2
      exact ⟨gw, cw, rfl, hW, HB⟩
end Go.Proofs.Ytiamppbgpoffmaa
