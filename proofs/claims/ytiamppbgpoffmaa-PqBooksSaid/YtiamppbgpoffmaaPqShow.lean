/- The contract of the coder's Books: books in memory of their own. Blocks have colours: the list 0, its books 1, the rows of book i i + 2. -/
import Derived.Test.YtiamppbgpoffmaaPqBig
namespace Go.Proofs.Ytiamppbgpoffmaa
open Go.RowKit
set_option linter.unusedVariables false

/-- A row of block r that may be written: its cells, if they are still as they were. -/
def RowB (w : World) (r : Nat) (l : List Int) (still : Prop) : Prop := w.frozen? ⟨r, 0, none⟩ = false ∧ (∃ v, w.cell? ⟨r, 0, none⟩ = some v) ∧ (still → ∀ y, y < l.length → w.cell? ⟨r, y, none⟩ = some (.int .i64 (nth l y)))
/-- A book whose rows have colour i + 2. -/
def BookB (w : World) (col : Nat → Nat) (B i : Nat) (v : Value) (m : List (List Int)) (still : Prop) : Prop :=
  ∃ g c, v = .slice (some ⟨g, 0, none⟩) m.length c ∧ col g = 1 ∧ B ≤ g ∧ g < w.heap.size ∧
    ∀ x, x < m.length → ∃ r rc, w.cell? ⟨g, x, none⟩ = some (.slice (some ⟨r, 0, none⟩) (mrow m x).length rc) ∧ col r = i + 2 ∧ B ≤ r ∧ r < w.heap.size ∧ RowB w r (mrow m x) still
/-- All books from j on are as they were; all rows are there. -/
def Shown (w : World) (col : Nat → Nat) (B gt : Nat) (bs : List (List (List Int))) (j : Nat) : Prop :=
  col gt = 0 ∧ B ≤ gt ∧ ∀ i, i < bs.length → ∃ v, w.cell? ⟨gt, i, none⟩ = some v ∧ BookB w col B i v (brow bs i) (j ≤ i)
theorem RowB.keep {w w' : World} {r : Nat} {l : List Int} {s s' : Prop} (h : RowB w r l s) (hl : r < w.heap.size) (hs : s' → s) (hk : ∀ b, b < w.heap.size → b = r → w'.heap[b]? = w.heap[b]?) : RowB w' r l s' := by
  obtain ⟨h1, ⟨v, h2⟩, h3⟩ := h
  have hb := hk r hl rfl
  exact ⟨by rw [← h1]; simp only [World.frozen?, hb], ⟨v, (World.cell?_of_block hb).trans h2⟩, fun hss y hy => (World.cell?_of_block hb).trans (h3 (hs hss) y hy)⟩
theorem BookB.keep {w w' : World} {col col' : Nat → Nat} {B i : Nat} {v : Value} {m : List (List Int)} {s s' : Prop} (h : BookB w col B i v m s) (hs : s' → s) (hsz : w.heap.size ≤ w'.heap.size)
    (hc : ∀ b, b < w.heap.size → col' b = col b) (hk : ∀ b, b < w.heap.size → col b = 1 ∨ col b = i + 2 → w'.heap[b]? = w.heap[b]?) : BookB w' col' B i v m s' := by
  obtain ⟨g, c, h1, h2, h3, h4, h5⟩ := h
  refine ⟨g, c, h1, by rw [hc g h4]; exact h2, h3, Nat.lt_of_lt_of_le h4 hsz, fun x hx => ?_⟩
  obtain ⟨r, rc, e1, e2, e3, e4, e5⟩ := h5 x hx
  exact ⟨r, rc, (World.cell?_of_block (hk g h4 (.inl h2))).trans e1, by rw [hc r e4]; exact e2, e3, Nat.lt_of_lt_of_le e4 hsz, e5.keep e4 hs (fun b hb e => hk b hb (.inr (by rw [e]; exact e2)))⟩
theorem Shown.below {w w' : World} {col : Nat → Nat} {B gt : Nat} {bs : List (List (List Int))} {j : Nat} (h : Shown w col B gt bs j) (hb : Below w.heap.size w w') : Shown w' col B gt bs j := by
  refine ⟨h.1, h.2.1, fun i hi => ?_⟩
  obtain ⟨v, h1, h2⟩ := h.2.2 i hi
  exact ⟨v, below_cell hb h1, h2.keep (fun h => h) hb.size (fun _ _ => rfl) (fun b hlt _ => hb.block b hlt)⟩
theorem Shown.next {w : World} {col : Nat → Nat} {B gt : Nat} {bs : List (List (List Int))} {j : Nat} (h : Shown w col B gt bs j) : Shown w col B gt bs (j + 1) := by
  refine ⟨h.1, h.2.1, fun i hi => ?_⟩
  obtain ⟨v, h1, h2⟩ := h.2.2 i hi
  exact ⟨v, h1, h2.keep (fun h => by omega) (Nat.le_refl _) (fun _ _ => rfl) (fun b hlt _ => rfl)⟩
/-- A row of a book that need not be as it was is written. -/
theorem Shown.put {w : World} {col : Nat → Nat} {B gt i : Nat} {bs : List (List (List Int))} {j : Nat} (h : Shown w col B gt bs j) (hi : i < j) {r : Nat} (hr : col r = i + 2) (u : Value) : Shown (w.setCell ⟨r, 0, none⟩ u) col B gt bs j := by
  have hg := grown_set w ⟨r, 0, none⟩ u
  have hk : ∀ b, b < w.heap.size → col b ≠ i + 2 → (w.setCell ⟨r, 0, none⟩ u).heap[b]? = w.heap[b]? := fun b hb hc => hg.block b hb (fun e => by injection e with e; simp only at e; subst e; exact hc hr)
  refine ⟨h.1, h.2.1, fun a ha => ?_⟩
  obtain ⟨v, h1, g, c, h2, h3, h4, h5, h6⟩ := h.2.2 a ha
  have hgt : gt < w.heap.size := World.block_lt_of_cell? w _ h1
  refine ⟨v, (World.cell?_of_block (hk gt hgt (by rw [h.1]; omega))).trans h1, g, c, h2, h3, h4, by simpa [World.setCell] using h5, fun x hx => ?_⟩
  obtain ⟨r2, rc, e1, e2, e3, e4, e5⟩ := h6 x hx
  refine ⟨r2, rc, (World.cell?_of_block (hk g h5 (by rw [h3]; omega))).trans e1, e2, e3, by simpa [World.setCell] using e4, ?_⟩
  by_cases hai : a = i
  · subst hai
    obtain ⟨f1, ⟨v2, f2⟩, f3⟩ := e5
    refine ⟨by rw [World.frozen?_setCell]; exact f1, ?_, fun hs => by omega⟩
    by_cases hrr : r2 = r
    · subst hrr
      exact ⟨u, World.cell?_setCell_same' _ _ _ (by rw [f2]; rfl)⟩
    · exact ⟨v2, (World.cell?_setCell_other _ _ _ _ (fun e => hrr (by injection e with e; exact e.symm))).trans f2⟩
  · exact e5.keep e4 (fun h => h) (fun b hb e => hk b hb (by rw [e, e2]; omega))

def OutC (B : Nat) (col : Nat → Nat) (wr : World) (out : Value) (k : Nat) (bs : List (List (List Int))) : Prop :=
  (∃ xs, wr.ownsRow B 22 1 out k xs ∧ ∀ i, i < k → ∃ v, xs[i]? = some v ∧ BookB wr col B i v (brow bs i) True) ∧ ∀ q, out.ownBlock = some q → col q = 0
theorem OutC.start (B : Nat) (w : World) (bs : List (List (List Int))) : OutC B (fun _ => 0) w (.slice none 0 0) 0 bs := ⟨⟨[], World.ownsRow_nil _ _ _ _, fun i hi => by omega⟩, fun q h => by simp [Value.ownBlock] at h⟩
theorem OutC.lt {B : Nat} {col : Nat → Nat} {wr : World} {out : Value} {k : Nat} {bs : List (List (List Int))} (h : OutC B col wr out k bs) : ∀ q, out.ownBlock = some q → B ≤ q ∧ q < wr.heap.size := by
  obtain ⟨⟨xs, h1, _⟩, _⟩ := h
  exact fun q hq => own_lt' h1 q hq
/-- The rows of a book, while it is made. -/
def RowsB (wr : World) (Z : Nat) (xs : List Value) (k : Nat) (m : List (List Int)) : Prop :=
  ∀ x, x < k → ∃ r rc, xs[x]? = some (.slice (some ⟨r, 0, none⟩) (mrow m x).length rc) ∧ Z ≤ r ∧ r < wr.heap.size ∧ RowB wr r (mrow m x) True
def OutR (Z : Nat) (wr : World) (out : Value) (k : Nat) (m : List (List Int)) : Prop :=
  ∃ xs, wr.ownsRow Z 26 1 out k xs ∧ ∀ x, x < k → ∃ r rc, xs[x]? = some (.slice (some ⟨r, 0, none⟩) (mrow m x).length rc) ∧ Z ≤ r ∧ r < wr.heap.size ∧ out.ownBlock ≠ some r ∧ RowB wr r (mrow m x) True
theorem OutR.start (Z : Nat) (w : World) (m : List (List Int)) : OutR Z w (.slice none 0 0) 0 m := ⟨[], World.ownsRow_nil _ _ _ _, fun i hi => by omega⟩
theorem OutR.below {Z : Nat} {wr w2 : World} {out : Value} {k : Nat} {m : List (List Int)} (h : OutR Z wr out k m) (hb : Below wr.heap.size wr w2) : OutR Z w2 out k m := by
  obtain ⟨xs, h1, h2⟩ := h
  refine ⟨xs, h1.kept (grown_of_below hb none) (by simp; exact Classical.em _), fun i hi => ?_⟩
  obtain ⟨r, rc, e1, e2, e3, e4, e5⟩ := h2 i hi
  exact ⟨r, rc, e1, e2, Nat.lt_of_lt_of_le e3 hb.size, e4, e5.keep e3 (fun h => h) (fun b hlt _ => hb.block b hlt)⟩
theorem OutR.lt {Z : Nat} {wr : World} {out : Value} {k : Nat} {m : List (List Int)} (h : OutR Z wr out k m) : ∀ q, out.ownBlock = some q → Z ≤ q ∧ q < wr.heap.size := by
  obtain ⟨xs, h1, _⟩ := h
  exact fun q hq => own_lt' h1 q hq
theorem OutR.snoc {Z : Nat} {wr w2 : World} {out v1 : Value} {k : Nat} {m : List (List Int)} {xs : List Value} {r rc : Nat}
    (hX : ∀ x, x < k → ∃ r rc, xs[x]? = some (.slice (some ⟨r, 0, none⟩) (mrow m x).length rc) ∧ Z ≤ r ∧ r < wr.heap.size ∧ out.ownBlock ≠ some r ∧ RowB wr r (mrow m x) True) (hxl : xs.length = k)
    (HO1 : w2.ownsRow Z 26 1 v1 (k + 1) (xs ++ [.slice (some ⟨r, 0, none⟩) (mrow m k).length rc])) (hg : wr.grownBy w2 out.ownBlock) (hat : v1.ownBlock = out.ownBlock ∨ v1.ownBlock = some (wr.heap.size + 1))
    (hz : Z ≤ r) (hlt : r < wr.heap.size) (hne : out.ownBlock ≠ some r) (hr : RowB wr r (mrow m k) True) : OutR Z w2 v1 (k + 1) m := by
  have hkey : ∀ {r : Nat} {l : List Int}, r < wr.heap.size → out.ownBlock ≠ some r → RowB wr r l True → r < w2.heap.size ∧ v1.ownBlock ≠ some r ∧ RowB w2 r l True := fun {r l} h1 h2 h3 => by
    refine ⟨Nat.lt_of_lt_of_le h1 hg.size, ?_, h3.keep h1 (fun h => h) (fun b hb e => hg.block b hb (fun e2 => h2 (by rw [e] at e2; exact e2.symm)))⟩
    rcases hat with e | e
    · rw [e]; exact h2
    · rw [e]; intro e2; injection e2 with e2; omega
  refine ⟨_, HO1, fun x hx => ?_⟩
  by_cases e : x = k
  · subst e
    obtain ⟨k1, k2, k3⟩ := hkey hlt hne hr
    exact ⟨r, rc, by simp [← hxl], hz, k1, k2, k3⟩
  · obtain ⟨r5, c5, e1, e2, e3, e4, e5⟩ := hX x (by omega)
    obtain ⟨k1, k2, k3⟩ := hkey e3 e4 e5
    exact ⟨r5, c5, by rw [List.getElem?_append_left (by omega)]; exact e1, e2, k1, k2, k3⟩
/-- The colours behind a further book. -/
def colN (col : Nat → Nat) (Z gi Y k : Nat) (b : Nat) : Nat := if b < Z then col b else if b = gi then 1 else if b < Y then k + 2 else 0
/-- One more book. -/
theorem OutC.snoc {B : Nat} {col : Nat → Nat} {x0 wr w2 : World} {out v1 : Value} {k : Nat} {bs : List (List (List Int))} {xs : List Value} {gi ci : Nat}
    (hX : ∀ i, i < k → ∃ v, xs[i]? = some v ∧ BookB x0 col B i v (brow bs i) True) (hxl : xs.length = k) (h0 : ∀ q, out.ownBlock = some q → col q = 0 ∧ q < x0.heap.size) (hB : B ≤ x0.heap.size) (hb : Below x0.heap.size x0 wr)
    (hR : OutR x0.heap.size wr (.slice (some ⟨gi, 0, none⟩) (brow bs k).length ci) (brow bs k).length (brow bs k)) (hgi : x0.heap.size ≤ gi ∧ gi < wr.heap.size)
    (HO1 : w2.ownsRow B 22 1 v1 (k + 1) (xs ++ [.slice (some ⟨gi, 0, none⟩) (brow bs k).length ci])) (hg : wr.grownBy w2 out.ownBlock) (hat : v1.ownBlock = out.ownBlock ∨ v1.ownBlock = some (wr.heap.size + 1)) :
    OutC B (colN col x0.heap.size gi wr.heap.size k) w2 v1 (k + 1) bs := by
  have hcol : ∀ b, b < x0.heap.size → colN col x0.heap.size gi wr.heap.size k b = col b := fun b h => by rw [colN, if_pos h]
  refine ⟨⟨_, HO1, fun i hi => ?_⟩, fun q hq => ?_⟩
  · by_cases e : i = k
    · subst e
      refine ⟨_, by simp [← hxl], gi, ci, rfl, by rw [colN, if_neg (by omega), if_pos rfl], by omega, Nat.lt_of_lt_of_le hgi.2 hg.size, fun x hx => ?_⟩
      obtain ⟨ys, HY, hY⟩ := hR
      obtain ⟨r, rc, e1, e2, e3, e4, e5⟩ := hY x hx
      have hne : r ≠ gi := fun e => e4 (by rw [e]; rfl)
      have hk : ∀ b, x0.heap.size ≤ b → b < wr.heap.size → w2.heap[b]? = wr.heap[b]? := fun b h1 h2 => hg.block b h2 (fun e => by have := (h0 b e.symm).2; omega)
      refine ⟨r, rc, (World.cell?_of_block (hk gi hgi.1 hgi.2)).trans ((HY.cellAt x (by omega)).trans e1), by rw [colN, if_neg (by omega), if_neg hne, if_pos e3], by omega, Nat.lt_of_lt_of_le e3 hg.size, e5.keep e3 (fun h => h) (fun b hb e => hk b (by omega) hb)⟩
    · obtain ⟨v, e1, e2⟩ := hX i (by omega)
      exact ⟨v, by rw [List.getElem?_append_left (by omega)]; exact e1, e2.keep (fun h => h) (Nat.le_trans hb.size hg.size) hcol (fun b hlt hc => by
        rw [hg.block b (Nat.lt_of_lt_of_le hlt hb.size) (fun e => by have := (h0 b e.symm).1; omega)]
        exact hb.block b hlt)⟩
  · rcases hat with e | e
    · rw [e] at hq
      have := h0 q hq
      rw [hcol q this.2]; exact this.1
    · rw [e] at hq
      injection hq with hq
      have := hb.size
      rw [colN, if_neg (by omega), if_neg (by omega), if_neg (by omega)]
theorem OutC.shown {B : Nat} {col : Nat → Nat} {wr : World} {out : Value} {bs : List (List (List Int))} (h : OutC B col wr out bs.length bs) (h0 : 0 < bs.length) : ∃ g c, out = .slice (some ⟨g, 0, none⟩) bs.length c ∧ Shown wr col B g bs 0 := by
  obtain ⟨⟨xs, h1, h2⟩, h3⟩ := h
  obtain ⟨g, cap, rfl, hg, _⟩ := own_shape h1 h0
  refine ⟨g, cap, rfl, h3 g rfl, hg, fun i hi => ?_⟩
  obtain ⟨v, e1, e2⟩ := h2 i hi
  have hx : i < xs.length := (List.getElem?_eq_some_iff.1 e1).1
  exact ⟨v, (h1.cellAt i (by omega)).trans e1, e2.keep (fun _ => trivial) (Nat.le_refl _) (fun _ _ => rfl) (fun _ _ _ => rfl)⟩
theorem OwnRow.rowB {B g : Nat} {l : List Int} {w : World} (h : OwnRow B g l w) (h0 : 0 < l.length) : RowB w g l True := ⟨h.free 0, ⟨_, h.cell 0 h0⟩, fun _ y hy => h.cell y hy⟩
def ShowPost (w : World) (bs : List (List (List Int))) (e : Ending) (w' : World) : Prop := ∃ gt ct col, e = .returned (.slice (some ⟨gt, 0, none⟩) bs.length ct) ∧ Shown w' col w.heap.size gt bs 0 ∧ Below w.heap.size w w'
set_option maxRecDepth 100000 in
set_option maxHeartbeats 4000000 in
theorem show_ok (gp d p n k : Nat) (bs : List (List (List Int))) (w : World) (hB : Cod bs d p n k) (hc : CoderAt w gp d bs) :
    Calls Try.prog 26 #[.pointer (some ⟨gp, 0, none⟩)] w (ShowPost w bs) := by
  obtain ⟨A, c, c0, c1, hbk⟩ := hc
  have hp1 := hB.parts.p1
  have hp8 := hB.p8
  have hn := hB.n64
  have hd64 := hB.d64
  have hk1 := hB.k1
  have hk16 := hB.k16
  have hl := hB.len
  rw [hl] at c1
  replace hB := Lib.hid hB
  replace hl := Lib.hid hl
  go_enter Try.func26, Try.ntmps26
  go_wp2_with fail
  go_loopw [3, 16] (fun o i wr => ∃ (j : Nat) (col : Nat → Nat), j ≤ p ∧ i = .int .i64 (j : Int) ∧ OutC w.heap.size col wr o j bs ∧ Below w.heap.size w wr) (fun _ i _ => p - (intOf i).toNat)
  case atStart => exact ⟨0, _, Nat.zero_le _, rfl, OutC.start _ _ _, Below.refl _ _⟩
  case round =>
    obtain ⟨j, col, hj, rfl, hOut, HB⟩ := hrel
    by_cases hlt : j < p
    · have q0 : (0 : Int) ≤ (j : Int) := by omega
      have q1 : (j : Int) < (p : Int) := by omega
      obtain ⟨g, o, R, rc, hA, hc1, hR⟩ := hbk j (by rw [hl.out]; exact hlt)
      subst hA
      have hbl := hB.out.rows j hlt
      have hco := Lib.hid (hB.out.coords j hlt)
      rw [hbl] at hc1
      have d1 := below_cell HB hc1
      obtain ⟨x0, hx0⟩ : ∃ x, x = wr := ⟨_, rfl⟩
      subst hx0
      replace hbl := Lib.hid hbl
      go_wp2_with fail
      clear d1
      go_loopw [6, 22] (fun o i wr => ∃ x : Nat, x ≤ k ∧ i = .int .i64 (x : Int) ∧ OutR x0.heap.size wr o x (brow bs j) ∧ Below x0.heap.size x0 wr) (fun _ i _ => k - (intOf i).toNat)
      case atStart => exact ⟨0, Nat.zero_le _, rfl, OutR.start _ _ _, Below.refl _ _⟩
      case round =>
        obtain ⟨x, hx, rfl, hI, HB2⟩ := hrel
        have HB3 := below_chain HB HB2 HB.size
        by_cases hlt2 : x < k
        · have r0 : (0 : Int) ≤ (x : Int) := by omega
          have r1 : (x : Int) < (k : Int) := by omega
          obtain ⟨g2, o2, R2, rc2, hA2, hc2, hR2⟩ := hR x (by rw [hbl.out]; exact hlt2)
          subst hA2
          have hrl := (hco.out x (by rw [hbl.out]; exact hlt2)).1
          obtain ⟨g3, o3, hA3, _⟩ := hR2 0 (by omega)
          subst hA3
          have d2 := below_cell HB3 hc2
          have hC := Lib.hid (clone_any g3 o3 (mrow (brow bs j) x) rc2 wr (hR2.below HB3) (by omega) (by omega))
          have h0 : 0 < (mrow (brow bs j) x).length := by omega
          replace hrl := Lib.hid hrl
          replace h0 := Lib.hid h0
          go_wp2_with fail
          refine hC.out.mono ?_
          rintro e x3 ⟨gr, cr, rfl, hOR, hb⟩
          have hI3 := hI.below hb
          have hB3 := below_chain HB2 hb HB2.size
          have hz := hB3.size
          have hIl := hI.lt
          have hbs := hb.size
          have hrB := hOR.rowB h0.out
          have hlo := hOR.lo
          have hb2s := HB2.size
          have hgl := hOR.lt
          obtain ⟨xs, HO5, hX⟩ := hI3
          have hxl : xs.length = x := by have := HO5.1; simpa using this
          clear hC hb d2 hI
          go_wp2_with (at_builtin; refine append_one x0.heap.size rfl (.tmp 26) (.tmp 29) _ 26 (.slice none 0 0) 24 rfl Try.underlying22 row_info rfl (by omega) u6 x _ (.slice (some ⟨gr, 0, none⟩) (mrow (brow bs j) x).length cr) rfl rfl rfl HO5 hz (by omega) ?_; intro v1 x6 HO6 hg6 hat6)
          have hO6 := OutR.snoc hX hxl HO6 hg6 hat6 (by omega) hgl (fun e => by have := (hIl gr e).2; omega) hrB
          have B6 := below_of_grown hB3 hg6 (fun q hq => (hIl q hq).1)
          exact ⟨⟨x + 1, by omega, by go_num, hO6, B6⟩, by simp [intOf]; omega⟩
        · obtain rfl : x = k := by omega
          obtain ⟨gi, ci, rfl, hgi1, hgi2⟩ : ∃ gi ci, u6 = .slice (some ⟨gi, 0, none⟩) x ci ∧ x0.heap.size ≤ gi ∧ gi < wr.heap.size := by
            obtain ⟨xs, HO, _⟩ := hI
            exact own_shape HO (by omega)
          have hlt3 := hOut.lt
          have hcz := hOut.2
          obtain ⟨⟨xs, HO4, hX⟩, _⟩ := hOut
          have HO5 := HO4.kept (grown_of_below HB2 none) (by simp; exact Classical.em _)
          have hxl : xs.length = j := by have := HO5.1; simpa using this
          have hwx := HB3.size
          have hws := HB.size
          go_wp2_with (at_builtin; refine append_one w.heap.size rfl (.tmp 32) (.tmp 34) _ 22 (.slice none 0 0) 24 rfl Try.underlying51 mat_info rfl (by omega) u3 j _ (.slice (some ⟨gi, 0, none⟩) x ci) rfl rfl rfl HO5 hwx (by omega) ?_; intro v1 x6 HO6 hg6 hat6)
          have hO6 := OutC.snoc (ci := ci) hX hxl (fun q hq => ⟨hcz q hq, (hlt3 q hq).2⟩) hws HB2 (by rw [hbl.out]; exact hI) ⟨hgi1, hgi2⟩ (by rw [hbl.out]; exact HO6) hg6 hat6
          have B6 := below_of_grown HB3 hg6 (fun q hq => (hlt3 q hq).1)
          exact ⟨⟨j + 1, _, by omega, by go_num, hO6, B6⟩, by simp [intOf]; omega⟩
    · obtain rfl : j = p := by omega
      have hOut2 := hOut
      rw [← hl.out] at hOut2
      obtain ⟨gt, ct, ho, hS⟩ := hOut2.shown (by rw [hl.out]; omega)
      rw [hl.out] at ho
      subst ho
      clear hOut hOut2
      go_wp2_with fail
      go_ret
      exact ⟨gt, ct, col, by rw [hl.out]; rfl, hS, HB⟩
end Go.Proofs.Ytiamppbgpoffmaa
