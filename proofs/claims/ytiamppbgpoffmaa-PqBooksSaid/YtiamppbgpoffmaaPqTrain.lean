/- The contract of pq.Train where the training may be. -/
import Derived.Test.YtiamppbgpoffmaaPqOut
namespace Go.Proofs.Ytiamppbgpoffmaa
open Go.RowKit
set_option linter.unusedVariables false

def PqGood (w : World) (dim : Nat) (bs : List (List (List Int))) (e : Ending) (w' : World) : Prop := ∃ gp, e = .returned (.tuple #[.pointer (some ⟨gp, 0, none⟩), .int .i64 0]) ∧ CoderAt w' gp dim bs ∧ w.heap.size ≤ gp ∧ Below w.heap.size w w'

theorem mat_info : (Try.prog.info? 22).map (fun i => (i.zero, i.size, i.bytes)) = some (some (.slice none 0 0), 1, 24) := by kernel_rfl
section
variable {w wr w2 : World} {A : Option Addr} {n cl : Nat} {p k r s : Int}
theorem PqBox.more (h : PqBox w A n cl p k r s wr) (hb : Below wr.heap.size wr w2) : PqBox w A n cl p k r s w2 :=
  ⟨below_chain h.below hb h.below.size, h.b0.below hb h.b0.lt, h.b1.below hb h.b1.lt, h.b2.below hb h.b2.lt, h.b3.below hb h.b3.lt, h.b4.below hb h.b4.lt⟩
theorem PqBox.grown {row : Option Nat} (h : PqBox w A n cl p k r s wr) (hg : wr.grownBy w2 row) (hr : ∀ b, row = some b → w.heap.size + 5 ≤ b) : PqBox w A n cl p k r s w2 :=
  ⟨h.below.grown hg h.below.size (fun b hb => by have := hr b hb; omega), h.b0.grown hg (fun e => by have := hr _ e.symm; omega), h.b1.grown hg (fun e => by have := hr _ e.symm; omega), h.b2.grown hg (fun e => by have := hr _ e.symm; omega), h.b3.grown hg (fun e => by have := hr _ e.symm; omega), h.b4.grown hg (fun e => by have := hr _ e.symm; omega)⟩
/-- What stands while the books are made. -/
structure PqS (w : World) (A : Option Addr) (n cl : Nat) (p k r s : Int) (gp d : Nat) (bs : List (List (List Int))) (out : Value) (j : Nat) (wr : World) : Prop where
  box : PqBox w A n cl p k r s wr
  blk : Blk wr gp 64 #[.int .i64 (d : Int), out]
  outb : OutB (gp + 1) gp wr out j bs
  lo : w.heap.size + 5 ≤ gp
variable {gp d : Nat} {bs : List (List (List Int))} {out : Value} {j : Nat}
theorem PqS.start (h : PqBox w A n cl p k r s wr) (d : Nat) (bs : List (List (List Int))) : PqS w A n cl p k r s wr.heap.size d bs (.slice none 0 0) 0 (wr.alloc (.cells #[.int .i64 (d : Int), .slice none 0 0] 64)) :=
  ⟨h.more (below_alloc1 _ _), Blk.new _ _ _, OutB.start _ _ _ _, h.b4.lt⟩
theorem PqS.more (h : PqS w A n cl p k r s gp d bs out j wr) (hb : Below wr.heap.size wr w2) : PqS w A n cl p k r s gp d bs out j w2 :=
  ⟨h.box.more hb, h.blk.below hb h.blk.lt, h.outb.below hb, h.lo⟩
theorem PqS.cell (h : PqS w A n cl p k r s gp d bs out j wr) : wr.cell? ⟨gp, 1, none⟩ = some out := h.blk.cell 1
theorem PqS.ne (h : PqS w A n cl p k r s gp d bs out j wr) : gp < wr.heap.size ∧ ¬ gp = wr.heap.size := ⟨h.blk.lt, by have := h.blk.lt; omega⟩
theorem PqS.grown (h : PqS w A n cl p k r s gp d bs out j wr) (hg : wr.grownBy w2 out.ownBlock) : w2.cell? ⟨gp, 1, none⟩ = some out ∧ w2.frozen? ⟨gp, 1, none⟩ = false := by
  have h1 := h.blk.grown hg (fun e => by have := (h.outb.lt gp e.symm).1; omega)
  exact ⟨h1.cell 1, h1.frozen 1⟩
theorem PqS.step {x6 : World} {g6 cap6 gc c z : Nat} {xs : List Value} (h : PqS w A n cl p k r s gp d bs out j wr) (hz : gp < z) (hzo : ∀ b, out.ownBlock = some b → b < z)
    (hM : MatP (fun b => z ≤ b) wr (some ⟨gc, 0, none⟩) (brow bs j)) (hxl : xs.length = j)
    (hX : ∀ i, i < j → ∃ g c, xs[i]? = some (.slice (some ⟨g, 0, none⟩) (brow bs i).length c) ∧ MatP (fun b => b ≠ gp ∧ out.ownBlock ≠ some b) wr (some ⟨g, 0, none⟩) (brow bs i))
    (HO : x6.ownsRow (gp + 1) 22 1 (.slice (some ⟨g6, 0, none⟩) (j + 1) cap6) (j + 1) (xs ++ [.slice (some ⟨gc, 0, none⟩) (brow bs j).length c])) (hg : wr.grownBy x6 out.ownBlock) (hat : out.ownBlock = some g6 ∨ g6 = wr.heap.size + 1) :
    PqS w A n cl p k r s gp d bs (.slice (some ⟨g6, 0, none⟩) (j + 1) cap6) (j + 1) (x6.setCell ⟨gp, 1, none⟩ (.slice (some ⟨g6, 0, none⟩) (j + 1) cap6)) := by
  have hlo := h.lo
  have hlt := h.outb.lt
  have hb := h.blk.grown hg (fun e => by have := (hlt gp e.symm).1; omega)
  have hB := h.box.grown hg (fun b e => by have := (hlt b e).1; omega)
  refine ⟨?_, ?_, ?_, h.lo⟩
  · exact ⟨hB.below.setCell (by simp only; omega) _, hB.b0.far (by simp only; omega) _, hB.b1.far (by simp only; omega) _, hB.b2.far (by simp only; omega) _, hB.b3.far (by simp only; omega) _, hB.b4.far (by simp only; omega) _⟩
  · exact hb.set_ 1 _
  · exact (OutB.snoc hX hxl HO hg rfl hat hM hz hzo).set_ (Nat.lt_succ_self _) _ _
end

set_option maxRecDepth 100000 in
set_option maxHeartbeats 8000000 in
theorem pq_ok (A : Option Addr) (l : List (List Int)) (cl d p n : Nat) (k r s : Int) (w : World) (hm : MatC w A l) (hp : Parts d p n) (g2 : d ≤ 64) (f2 : p ≤ 8) (f3 : 1 ≤ k) (f4 : k ≤ 16) (f5 : 0 ≤ r) (f6 : r ≤ 20) (h1 : l.length ≤ 512) (h2 : k ≤ (l.length : Int)) (hok : AllOk l d l.length) :
    Calls Try.prog 28 #[.slice A l.length cl, .int .i64 (d : Int), .int .i64 (p : Int), .int .i64 k, .int .i64 r, .int .u64 s] w (PqGood w d (booksN l n p k.toNat r.toNat s)) := by
  have B := PqBox.start w A l.length cl (p : Int) k r s
  have hp1 := hp.p1
  have f1 : (1 : Int) ≤ (p : Int) := by omega
  have g1 : (1 : Int) ≤ (d : Int) := by have := hp.eq; have := hp.n1; have : 1 * 1 ≤ p * n := Nat.mul_le_mul hp.p1 hp.n1; omega
  have g2' : (d : Int) ≤ 64 := by omega
  have f2' : (p : Int) ≤ 8 := by omega
  have h0 : (d : Int) % (p : Int) = 0 := by rw [← Int.natCast_emod, hp.eq, Nat.mul_mod_right]; rfl
  have hz : ((p : Int) == 0) = false := by simp; omega
  have ht : (d : Int).tmod (p : Int) = (d : Int) % (p : Int) := Int.tmod_eq_emod_of_nonneg (by omega)
  have h' : (l.length : Int) ≤ 512 := by omega
  have hbk := Lib.hid (fun (x : World) (hx : PqBox w A l.length cl (p : Int) k r s x) (hmx : MatC x A l) (i : Nat) (hi : i < p) => book_any w.heap.size (w.heap.size + 1) (w.heap.size + 1 + 1) (w.heap.size + 1 + 1 + 1) (w.heap.size + 1 + 1 + 1 + 1) A l cl d p n i k r s x hp hi g2 f2 hok f3 (by omega) f5 f6 h1 h2 hx.cells.1 hx.cells.2.1 hx.cells.2.2.1 hx.cells.2.2.2.1 hx.cells.2.2.2.2 hmx)
  replace hok := Lib.hid hok
  go_enter Try.func28, Try.ntmps28
  go_upto_region 1 with fail
  generalize (((((w.alloc (.cells #[.slice A l.length cl] 22)).alloc (.cells #[.int .i64 (p : Int)] 3)).alloc (.cells #[.int .i64 k] 3)).alloc (.cells #[.int .i64 r] 3)).alloc (.cells #[.int .u64 s] 23)) = w5 at *
  have hm5 := hm.below B.below
  obtain ⟨c0, c1, c2, c3, c4⟩ := B.cells
  have hw5 : w.heap.size + 4 < w5.heap.size := B.b4.lt
  replace hm5 := Lib.hid hm5
  replace hm := Lib.hid hm
  go_wp2_with fail
  go_loopw [66] (fun i wr => wr = w5 ∧ ∃ j : Nat, j ≤ l.length ∧ i = .int .i64 (j : Int)) (fun i _ => l.length - (intOf i).toNat)
  case atStart => exact ⟨rfl, 0, Nat.zero_le _, rfl⟩
  case round =>
    obtain ⟨rfl, j, hj, rfl⟩ := hrel
    by_cases hlt : j < l.length
    · obtain ⟨g, o, R, rc, rfl, hc1, hR⟩ := hm5.out.mat j hlt
      have q0 : (0 : Int) ≤ (j : Int) := by omega
      have q1 : (j : Int) < (l.length : Int) := by omega
      have hV := Lib.hid (vec_any R (mrow l j) rc d wr hR)
      rw [hok.out j hlt] at hV
      go_wp2_with fail
      refine hV.out.mono ?_
      rintro e w1 ⟨rfl, rfl⟩
      go_wp2_with fail
      exact ⟨⟨trivial, j + 1, by omega, by go_num⟩, by simp [intOf]; omega⟩
    · obtain rfl : j = l.length := by omega
      have hmf : ∀ (fn : Fn) (first cap : Array Value) (w : World), (Instr.makeFunc fn first cap).run Try.prog w = .ok (.func fn first cap) w := fun _ _ _ _ => rfl
      go_upto_region 20 with fail
      clear hmf
      have T0 := PqS.start B d (booksN l n p k.toNat r.toNat s)
      have hbl := booksN_length l n p k.toNat r.toNat s
      have hbk2 := Lib.hid (fun (x : World) (hx : PqBox w A l.length cl (p : Int) k r s x) (hmx : MatC x A l) (i : Nat) (hi : i < p) => (show Calls Try.prog 44 _ x (BookPost x (brow (booksN l n p k.toNat r.toNat s) i)) from by rw [brow_booksN hi]; exact hbk.out x hx hmx i hi))
      clear hbk hm5 c0 c1 c2 c3 c4 B
      generalize booksN l n p k.toNat r.toNat s = bs at *
      generalize hgp : wr.heap.size = gp at *
      generalize wr.alloc (Obj.cells #[.int .i64 (d : Int), .slice none 0 0] 64) = w6 at *
      obtain ⟨_, c1, _⟩ := T0.box.cells
      go_wp2_with fail
      clear c1
      go_loopw [19, 82] (fun _ i x => ∃ (j : Nat) (out : Value), j ≤ p ∧ i = .int .i64 (j : Int) ∧ PqS w A l.length cl (p : Int) k r s gp d bs out j x) (fun _ i _ => p - (intOf i).toNat)
      case atStart => exact ⟨0, _, Nat.zero_le _, rfl, T0⟩
      case round =>
        clear T0
        obtain ⟨j, out, hj, rfl, hT⟩ := hrel
        by_cases hlt2 : j < p
        · have q0 : (0 : Int) ≤ (j : Int) := by omega
          have q1 : (j : Int) < (p : Int) := by omega
          replace hT := hT.more (Below.refl _ _).drew
          have hmx := hm.out.below hT.box.below
          have hcb := Lib.hid (hbk2.out wr.drew hT.box hmx j hlt2)
          have c1 := hT.cell
          have n1 := hT.ne.1
          have n2 := hT.ne.2
          have hj8 : j ≤ 8 := by omega
          go_wp2_with fail
          go_region_law (first
            | (go_simp; go_at_call 44; (with_reducible refine hcb.out.mono ?_); rintro e x1 ⟨gc, G, K, rfl, hG, hb⟩; have X1 := hT.more hb; obtain ⟨xs, HO, hX⟩ := X1.outb; have c2 := X1.cell; have n3 := X1.ne.1; have n4 := X1.ne.2)
            | (refine step_append_one (gp + 1) rfl (.tmp 89) (.tmp 93) 51 22 (.slice none 0 0) 24 rfl Try.underlying51 mat_info rfl (by omega) out j xs (.slice (some ⟨gc, 0, none⟩) (brow bs j).length (brow bs j).length) rfl rfl rfl HO (by omega) (by omega) ?_; intro g6 cap6 x6 HO6 hg6 hat6; obtain ⟨c6, f6'⟩ := X1.grown hg6))
          all_goals
            have hT2 := X1.step (z := wr.drew.heap.size) n1 (fun b e => (hT.outb.lt b e).2) hG.matP (by have := HO.1; simpa using this) hX HO6 hg6 hat6
            clear hT X1 hG hb HO hX HO6 hg6 hat6 c1 c2 c6 f6' hcb hmx
            generalize x6.setCell _ _ = x7 at *
            go_wp2_with fail
            exact ⟨⟨j + 1, _, by omega, by go_num, hT2⟩, by simp [intOf]; omega⟩
        · obtain rfl : j = p := by omega
          go_wp2_with fail
          go_ret2
          have hb := hT.blk
          have ho := hT.outb
          rw [← hbl] at ho
          exact ⟨gp, rfl, ho.coder (by omega) hb, by have := hT.lo; omega, hT.box.below⟩
end Go.Proofs.Ytiamppbgpoffmaa
