/- The contract of the document's Train. -/
import Derived.Test.YtiamppbgpoffmaaPqRTrainE
namespace Go.Proofs.Ytiamppbgpoffmaa
open Go.RowKit
set_option linter.unusedVariables false

/-- The document's coder: its dimension, its parts, its books. -/
def RCoderAt (w : World) (gp d p : Nat) (bs : List (List (List Int))) : Prop := ∃ A c, w.cell? ⟨gp, 0, none⟩ = some (.int .i64 (d : Int)) ∧ w.cell? ⟨gp, 1, none⟩ = some (.int .i64 (p : Int)) ∧ w.cell? ⟨gp, 2, none⟩ = some (.slice A bs.length c) ∧ Books w A bs
theorem RCoderAt.below {w w' : World} {gp d p : Nat} {bs : List (List (List Int))} (h : RCoderAt w gp d p bs) (hb : Below w.heap.size w w') : RCoderAt w' gp d p bs := by
  obtain ⟨A, c, h1, h2, h3, h4⟩ := h
  exact ⟨A, c, below_cell hb h1, below_cell hb h2, below_cell hb h3, h4.below hb⟩
theorem OutB.snoc2 {B gp : Nat} {wr w2 : World} {out v1 : Value} {k : Nat} {bs : List (List (List Int))} {xs : List Value} {g q c : Nat}
    (hX : ∀ i, i < k → ∃ g c, xs[i]? = some (.slice (some ⟨g, 0, none⟩) (brow bs i).length c) ∧ MatP (fun b => b ≠ gp ∧ out.ownBlock ≠ some b) wr (some ⟨g, 0, none⟩) (brow bs i)) (hxl : xs.length = k)
    (HO1 : w2.ownsRow B 22 1 v1 (k + 1) (xs ++ [.slice (some ⟨g, 0, none⟩) (brow bs k).length c])) (hg : wr.grownBy w2 out.ownBlock) (hv : v1.ownBlock = some q) (hat : out.ownBlock = some q ∨ q = wr.heap.size + 1)
    (hr : MatP (fun b => b ≠ gp ∧ out.ownBlock ≠ some b) wr (some ⟨g, 0, none⟩) (brow bs k)) : OutB B gp w2 v1 (k + 1) bs := by
  have hgr : ∀ {m : List (List Int)} {g : Nat}, MatP (fun b => b ≠ gp ∧ out.ownBlock ≠ some b) wr (some ⟨g, 0, none⟩) m → MatP (fun b => b ≠ gp ∧ v1.ownBlock ≠ some b) w2 (some ⟨g, 0, none⟩) m := fun {m g} h => by
    have h2 : MatP (fun b => b ≠ gp ∧ v1.ownBlock ≠ some b ∧ out.ownBlock ≠ some b) wr (some ⟨g, 0, none⟩) m := h.mono fun b hb hlt => ⟨hb.1, by
      rw [hv]
      rcases hat with e | e
      · rw [← e]; exact hb.2
      · intro h5; injection h5 with h5; omega, hb.2⟩
    have h3 := h2.keep (w' := w2) fun b hb hlt => hg.block b hlt (fun e => hb.2.2 e.symm)
    exact h3.mono fun b hb _ => ⟨hb.1, hb.2.1⟩
  refine ⟨_, HO1, fun i hi => ?_⟩
  by_cases e : i = k
  · subst e
    exact ⟨g, c, by simp [← hxl], hgr hr⟩
  · obtain ⟨g5, c5, e1, e4⟩ := hX i (by omega)
    exact ⟨g5, c5, by rw [List.getElem?_append_left (by omega)]; exact e1, hgr e4⟩
theorem OutB.rcoder {B gp : Nat} {wr : World} {out : Value} {d p : Nat} {bs : List (List (List Int))} (h : OutB B gp wr out bs.length bs) (h0 : 0 < bs.length) (hb : Blk wr gp 54 #[.int .i64 (d : Int), .int .i64 (p : Int), out]) : RCoderAt wr gp d p bs := by
  obtain ⟨xs, h1, h2⟩ := h
  obtain ⟨g, cap, rfl, hg, _⟩ := own_shape h1 h0
  refine ⟨_, cap, hb.cell 0, hb.cell 1, hb.cell 2, fun i hi => ?_⟩
  obtain ⟨g3, c, e1, e4⟩ := h2 i hi
  have hx : i < xs.length := (List.getElem?_eq_some_iff.1 e1).1
  exact ⟨g, 0, _, c, rfl, by rw [Nat.zero_add, h1.cellAt i (by omega)]; exact e1, e4.mat⟩
/-- What stands while the document's books are made. -/
structure RS (w : World) (gp d p : Nat) (bs : List (List (List Int))) (out : Value) (j : Nat) (wr : World) : Prop where
  below : Below w.heap.size w wr
  blk : Blk wr gp 54 #[.int .i64 (d : Int), .int .i64 (p : Int), out]
  outb : OutB (gp + 1) gp wr out j bs
  lo : w.heap.size ≤ gp
section
variable {w wr w2 : World} {gp d p : Nat} {bs : List (List (List Int))} {out : Value} {j : Nat}
theorem RS.start (w : World) (d p : Nat) (bs : List (List (List Int))) : RS w w.heap.size d p bs (.slice none 0 0) 0 (w.alloc (.cells #[.int .i64 (d : Int), .int .i64 (p : Int), .slice none 0 0] 54)) :=
  ⟨below_alloc1 _ _, Blk.new _ _ _, OutB.start _ _ _ _, Nat.le_refl _⟩
theorem RS.more (h : RS w gp d p bs out j wr) (hb : Below wr.heap.size wr w2) : RS w gp d p bs out j w2 :=
  ⟨below_chain h.below hb h.below.size, h.blk.below hb h.blk.lt, h.outb.below hb, h.lo⟩
theorem RS.grown (h : RS w gp d p bs out j wr) (hg : wr.grownBy w2 out.ownBlock) : w2.cell? ⟨gp, 2, none⟩ = some out ∧ w2.frozen? ⟨gp, 2, none⟩ = false := by
  have h1 := h.blk.grown hg (fun e => by have := (h.outb.lt gp e.symm).1; omega)
  exact ⟨h1.cell 2, h1.frozen 2⟩
theorem RS.step {x6 : World} {g6 cap6 gc c : Nat} {xs : List Value} (h : RS w gp d p bs out j wr)
    (hM : MatP (fun b => b ≠ gp ∧ out.ownBlock ≠ some b) wr (some ⟨gc, 0, none⟩) (brow bs j)) (hxl : xs.length = j)
    (hX : ∀ i, i < j → ∃ g c, xs[i]? = some (.slice (some ⟨g, 0, none⟩) (brow bs i).length c) ∧ MatP (fun b => b ≠ gp ∧ out.ownBlock ≠ some b) wr (some ⟨g, 0, none⟩) (brow bs i))
    (HO : x6.ownsRow (gp + 1) 22 1 (.slice (some ⟨g6, 0, none⟩) (j + 1) cap6) (j + 1) (xs ++ [.slice (some ⟨gc, 0, none⟩) (brow bs j).length c])) (hg : wr.grownBy x6 out.ownBlock) (hat : out.ownBlock = some g6 ∨ g6 = wr.heap.size + 1) :
    RS w gp d p bs (.slice (some ⟨g6, 0, none⟩) (j + 1) cap6) (j + 1) (x6.setCell ⟨gp, 2, none⟩ (.slice (some ⟨g6, 0, none⟩) (j + 1) cap6)) := by
  have hlo := h.lo
  have hlt := h.outb.lt
  have hb := h.blk.grown hg (fun e => by have := (hlt gp e.symm).1; omega)
  have hB := h.below.grown hg h.below.size (fun b e => by have := (hlt b e).1; omega)
  exact ⟨hB.setCell (by simp only; omega) _, hb.set_ 2 _, (OutB.snoc2 hX hxl HO hg rfl hat hM).set_ (Nat.lt_succ_self _) _ _, h.lo⟩
end

def RPqGood (w : World) (d p : Nat) (bs : List (List (List Int))) (e : Ending) (w' : World) : Prop := ∃ gp, e = .returned (.pointer (some ⟨gp, 0, none⟩)) ∧ RCoderAt w' gp d p bs ∧ Below w.heap.size w w'
set_option maxRecDepth 100000 in
set_option maxHeartbeats 4000000 in
theorem rpq_ok (A : Option Addr) (l : List (List Int)) (cl d p n k r : Nat) (s : Int) (w : World) (hm : MatC w A l) (hp : Parts d p n) (g2 : d ≤ 64) (f2 : p ≤ 8) (f3 : 1 ≤ k) (f4 : k ≤ 16) (f6 : r ≤ 20) (h1 : l.length ≤ 512) (h2 : k ≤ l.length) (hok : AllOk l d l.length) :
    Calls Try.prog 12 #[.slice A l.length cl, .int .i64 (d : Int), .int .i64 (p : Int), .int .i64 (k : Int), .int .i64 (r : Int), .int .u64 s] w (RPqGood w d p (booksN l n p k r s)) := by
  have hl0 : 0 < l.length := by omega
  have l1 : (l.length : Int) ≤ 512 := by omega
  have hbl := booksN_length l n p k r s
  have hcut := Lib.hid (fun i (hi : i < p) => cut_ok (l := l) (codes := (k : Int)) (rounds := (r : Int)) hp hi g2 hok (by omega) (by omega) (by omega) (by omega) h1 (by omega))
  have hbr := Lib.hid (fun i (hi : i < p) => brow_booksN (l := l) (n := n) (codes := k) (rounds := r) (s := s) hi)
  have T0 := RS.start w d p (booksN l n p k r s)
  have hp1 := hp.p1
  replace hok := Lib.hid hok
  generalize booksN l n p k r s = bs at *
  go_enter Try.func12, Try.ntmps12
  go_upto_region 2 with fail
  generalize w.alloc (Obj.cells #[.int .i64 (d : Int), .int .i64 (p : Int), .slice none 0 0] 54) = w6 at *
  have hgp : w.heap.size < w6.heap.size := T0.blk.lt
  obtain ⟨gp, hgpe⟩ : ∃ gp, gp = w.heap.size := ⟨_, rfl⟩
  rw [← hgpe] at T0 ⊢
  replace hgpe := Lib.hid hgpe
  go_wp2_with fail
  go_loopw [14] (fun i x => ∃ (j : Nat) (out : Value), j ≤ p ∧ i = .int .i64 (j : Int) ∧ RS w gp d p bs out j x) (fun i _ => p - (intOf i).toNat)
  case atStart => exact ⟨0, _, Nat.zero_le _, rfl, T0⟩
  case round =>
    clear T0 hgp
    obtain ⟨j, out, hj, rfl, hT⟩ := hrel
    by_cases hlt2 : j < p
    · have q0 : (0 : Int) ≤ (j : Int) := by omega
      have q1 : (j : Int) < (p : Int) := by omega
      obtain ⟨hE, hE2⟩ := hcut.out j hlt2
      have hbj := hbr.out j hlt2
      have hcl := cutN_length l n j
      obtain ⟨x0, hx0⟩ : ∃ x, x = wr := ⟨_, rfl⟩
      subst hx0
      have hTr := Lib.hid (fun A' c' x (hx : MatP (fun b => b < w.heap.size ∨ x0.heap.size ≤ b) x A' (cutN l n j)) (hz : x0.heap.size ≤ x.heap.size) => rtrain_ok (fun b => b < w.heap.size ∨ x0.heap.size ≤ b) A' (cutN l n j) c' k r (IntKind.u64.wrap (s + (j : Int))) x hx (fun b hb => .inr (Nat.le_trans hz hb)) hE)
      have hu : IntKind.u64.wrap (j : Int) = (j : Int) := by rw [IntKind.wrap_u64]; omega
      replace hcl := Lib.hid hcl
      replace hbj := Lib.hid hbj
      replace hu := Lib.hid hu
      clear hE hE2
      go_wp2_with fail
      go_loopw [15, 16] (fun o q wr => ∃ i : Nat, i ≤ l.length ∧ q = .int .i64 (i : Int) ∧ OutS (fun b => b < w.heap.size ∨ x0.heap.size ≤ b) x0.heap.size wr o i (cutN l n j) ∧ Below x0.heap.size x0 wr) (fun _ q _ => l.length - (intOf q).toNat)
      case atStart => exact ⟨0, Nat.zero_le _, rfl, OutS.start _ _ _ _, Below.refl _ _⟩
      case round =>
        obtain ⟨i, hi, rfl, hOut, B3⟩ := hrel
        by_cases hlt : i < l.length
        · obtain ⟨g, o, R, rc, hA, hc1, hrc, hR⟩ := hm i hlt
          have hv := hok.out i hlt
          have hrl : (mrow l i).length = d := by have := (vecE_ok hv).2.2.1; omega
          have hpn := hp.n1
          have hd1 : 0 < d := by rw [hp.eq]; exact Nat.mul_pos (by have := hp.p1; omega) (by omega)
          obtain ⟨gr, or_, hRr, hcr⟩ := hR 0 (by omega)
          subst hRr hA
          have hgr : gr < w.heap.size := World.block_lt_of_cell? w _ hcr
          have q2 : (0 : Int) ≤ (i : Int) := by omega
          have q3 : (i : Int) < (l.length : Int) := by omega
          have hfit : (j + 1) * n ≤ (mrow l i).length := by rw [hrl]; exact hp.fits hlt2
          have hsj : mrow (cutN l n j) i = partN (mrow l i) n j := mrow_cutN hlt
          have hlen : (mrow (cutN l n j) i).length = n := by rw [hsj]; exact partN_length hfit
          have hP := Lib.hid (rpart_any gr or_ (mrow l i) rc p n j (by rw [hrl]; exact hp) hlt2 (by omega) hrc)
          have hBw := below_chain hT.below B3 hT.below.size
          have hrow : ∀ x, Below w.heap.size w x → RowP (fun b => b < w.heap.size ∨ x0.heap.size ≤ b) x (some ⟨gr, or_ + j * n, none⟩) (mrow (cutN l n j) i) := fun x hb => by
            rw [hsj]
            exact fun y hy => by
              obtain ⟨b, of, e1, e2⟩ := (row_part_at (hR.below hb) hfit) y hy
              simp only [Option.some.injEq, Addr.mk.injEq, and_true] at e1
              obtain ⟨rfl, rfl⟩ := e1
              exact ⟨gr, _, rfl, .inl hgr, e2⟩
          have c1 := below_cell hBw hc1
          replace hlen := Lib.hid hlen
          replace hrow := Lib.hid hrow
          have hout := hOut.lt
          have hwx := B3.size
          have hws := hT.below.size
          obtain ⟨xs, HO5, hX⟩ := hOut
          clear hrl hsj hfit hv
          go_wp2_with fail
          with_reducible refine (hP.out _).mono ?_
          rintro e x1 ⟨rfl, rfl⟩
          go_wp2_with (at_builtin; refine append_one x0.heap.size rfl (.tmp 34) (.tmp 42) _ 26 (.slice none 0 0) 24 rfl Try.underlying22 row_info rfl (by omega) u15 i _ (.slice (some ⟨gr, or_ + j * n, none⟩) n (rc - j * n)) rfl rfl rfl HO5 hwx (by omega) ?_; intro v1 x6 HO6 hg6 hat6)
          rw [← hlen.out] at HO6
          have hOut6 := OutS.snoc (P := fun b => b < w.heap.size ∨ x0.heap.size ≤ b) (c := rc - j * n) HO5 hX (by rw [hlen.out] at HO6 ⊢; exact HO6) hg6 hat6 (.inl hgr) (by omega) (fun e => by have := hout gr e; omega) (hrow.out _ hBw)
          have B6 := below_of_grown B3 hg6 (fun q hq => (hout q hq).1)
          exact ⟨⟨i + 1, by omega, by go_num, hOut6, B6⟩, by simp [intOf]; omega⟩
        · obtain rfl : i = l.length := by omega
          rw [← hcl.out] at hOut
          obtain ⟨g9, c9, rfl, hM9⟩ := hOut.mat (by rw [hcl.out]; exact hl0) (fun b hb => .inr hb)
          rw [hcl.out]
          have hC := hTr.out (some ⟨g9, 0, none⟩) c9 wr hM9 B3.size
          rw [hcl.out] at hC
          replace hC := Lib.hid hC
          have hT2 := hT.more B3
          have hu2 := hu.out
          have hlo := hT.lo
          have hol := hT.outb.lt
          have hws := hT.below.size
          have hgl := hT.blk.lt
          clear hTr
          go_wp2_with fail
          refine hC.out.mono ?_
          rintro e x7 ⟨gc, cc, rfl, hG, hb⟩
          have hT7 := hT2.more hb
          have hbn : bookN l n k r s j = trainN (cutN l n j) k r (IntKind.u64.wrap (s + (j : Int))) := rfl
          rw [← hbn, ← hbj.out] at hG ⊢
          have hG2 := hG.mono (Q := fun b => b ≠ gp ∧ out.ownBlock ≠ some b) (fun b hb hlt => ⟨by omega, fun e => by have := hol b e; omega⟩)
          obtain ⟨xs, HO, hX⟩ := hT7.outb
          have c2 := hT7.blk.cell 2
          have hwx : gp + 1 ≤ x7.heap.size := hT7.blk.lt
          clear hC hb hG hT2
          go_wp2_with (at_builtin; refine append_one (gp + 1) rfl (.tmp 59) (.tmp 61) _ 22 (.slice none 0 0) 24 rfl Try.underlying51 mat_info rfl (by omega) out j _ (.slice (some ⟨gc, 0, none⟩) (brow bs j).length cc) rfl rfl rfl HO hwx (by omega) ?_; intro v1 x8 HO8 hg8 hat8; obtain ⟨g6, c6, rfl, _, _⟩ := own_shape HO8 (by omega); obtain ⟨k6, f6'⟩ := hT7.grown hg8)
          have hT8 := RS.step hT7 hG2 (by have := HO.1; simpa using this) hX HO8 hg8 (by
            rcases hat8 with e | e
            · left; rw [← e]; rfl
            · right; simpa [Value.ownBlock] using e)
          exact ⟨⟨j + 1, _, by omega, by go_num, hT8⟩, by simp [intOf]; omega⟩
    · obtain rfl : j = p := by omega
      go_wp2_with fail
      go_ret
      have hb := hT.blk
      have ho := hT.outb
      rw [← hbl] at ho
      exact ⟨gp, rfl, ho.rcoder (by omega) hb, hT.below⟩
end Go.Proofs.Ytiamppbgpoffmaa
