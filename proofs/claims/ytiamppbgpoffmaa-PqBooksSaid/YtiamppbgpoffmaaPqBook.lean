/- The contract of the closure that makes a book (pq.Train$1). -/
import Derived.Test.YtiamppbgpoffmaaPqPart
import Derived.Test.YtiamppbgpoffmaaQRefB
namespace Go.Proofs.Ytiamppbgpoffmaa
open Go.RowKit
set_option linter.unusedVariables false

theorem Grid.base {w : World} {B C gc : Nat} {G K : Nat → Nat} {m : List (List Int)} (h : Grid w C gc G K m) (hB : B ≤ C) : Grid w B gc G K m :=
  { lo := Nat.le_trans hB h.lo, lt := h.lt, top := h.top, free := h.free, new := fun i hi => ⟨Nat.le_trans hB (h.new i hi).1, (h.new i hi).2⟩, inj := h.inj, row := h.row, rowFree := h.rowFree }
def BookPost (w : World) (m : List (List Int)) (e : Ending) (w' : World) : Prop := ∃ gc G K, e = .returned (.slice (some ⟨gc, 0, none⟩) m.length m.length) ∧ Grid w' w.heap.size gc G K m ∧ Below w.heap.size w w'
set_option maxRecDepth 100000 in
set_option maxHeartbeats 4000000 in
theorem book_any (bl bp bc br bs : Nat) (A : Option Addr) (l : List (List Int)) (cl d p n i : Nat) (codes rounds s : Int) (w : World) (hp : Parts d p n) (hi : i < p) (hd : d ≤ 64) (hp8 : p ≤ 8)
    (hok : AllOk l d l.length) (h1 : 1 ≤ codes) (h2 : codes ≤ 64) (h3 : 0 ≤ rounds) (h4 : rounds ≤ 20) (h5 : l.length ≤ 512) (h6 : codes ≤ (l.length : Int))
    (cl1 : w.cell? ⟨bl, 0, none⟩ = some (.slice A l.length cl)) (cp : w.cell? ⟨bp, 0, none⟩ = some (.int .i64 (p : Int))) (cc : w.cell? ⟨bc, 0, none⟩ = some (.int .i64 codes)) (cr : w.cell? ⟨br, 0, none⟩ = some (.int .i64 rounds)) (cs : w.cell? ⟨bs, 0, none⟩ = some (.int .u64 s)) (hm : MatC w A l) :
    Calls Try.prog 44 #[.int .i64 (i : Int), .pointer (some ⟨bl, 0, none⟩), .pointer (some ⟨bp, 0, none⟩), .pointer (some ⟨bc, 0, none⟩), .pointer (some ⟨br, 0, none⟩), .pointer (some ⟨bs, 0, none⟩)] w (BookPost w (bookN l n codes.toNat rounds.toNat s i)) := by
  obtain ⟨hE, hE2⟩ := cut_ok (i := i) hp hi hd hok h1 h2 h3 h4 h5 h6
  have hT := Lib.hid (fun A' c' x (hx : Mat x A' (cutN l n i)) => train_good A' (cutN l n i) c' codes rounds (IntKind.u64.wrap (s + (i : Int))) x hx hE)
  have hcl := cutN_length l n i
  have l1 : (l.length : Int) ≤ 512 := by omega
  have i8 : (i : Int) ≤ 8 := by omega
  have i0 : (0 : Int) ≤ (i : Int) := by omega
  have hu : IntKind.u64.wrap (i : Int) = (i : Int) := by rw [IntKind.wrap_u64]; omega
  have hl0 : 0 < l.length := by omega
  replace hok := Lib.hid hok
  replace hcl := Lib.hid hcl
  replace hu := Lib.hid hu
  clear hE hE2
  go_enter Try.func44, Try.ntmps44
  go_wp2_with fail
  go_loopw [8, 15] (fun o q wr => ∃ j : Nat, j ≤ l.length ∧ q = .int .i64 (j : Int) ∧ OutS (fun _ => True) w.heap.size wr o j (cutN l n i) ∧ Below w.heap.size w wr) (fun _ q _ => l.length - (intOf q).toNat)
  case atStart => exact ⟨0, Nat.zero_le _, rfl, OutS.start _ _ _ _, Below.refl _ _⟩
  case round =>
    obtain ⟨j, hj, rfl, hOut, B3⟩ := hrel
    by_cases hlt : j < l.length
    · obtain ⟨g, o, R, rc, hA, hc1, hrc, hR⟩ := hm j hlt
      have hv := hok.out j hlt
      have hrl : (mrow l j).length = d := by have := (vecE_ok hv).2.2.1; omega
      have hpn := hp.n1
      have hd1 : 0 < d := by rw [hp.eq]; exact Nat.mul_pos (by have := hp.p1; omega) (by omega)
      obtain ⟨gr, or_, hRr, hcr⟩ := hR 0 (by omega)
      subst hRr hA
      have hgr : gr < w.heap.size := World.block_lt_of_cell? w _ hcr
      have q0 : (0 : Int) ≤ (j : Int) := by omega
      have q1 : (j : Int) < (l.length : Int) := by omega
      have hfit : (i + 1) * n ≤ (mrow l j).length := by rw [hrl]; exact hp.fits hi
      have hsj : mrow (cutN l n i) j = partN (mrow l j) n i := mrow_cutN hlt
      have hlen : (mrow (cutN l n i) j).length = n := by rw [hsj]; exact partN_length hfit
      have hP := Lib.hid (part_any gr or_ (mrow l j) rc p n i (by rw [hrl]; exact hp) hi (by omega) hrc)
      have hrow : ∀ x, Below w.heap.size w x → RowP (fun _ => True) x (some ⟨gr, or_ + i * n, none⟩) (mrow (cutN l n i) j) := fun x hb => by
        rw [hsj]
        exact fun y hy => by
          obtain ⟨b, of, e1, e2⟩ := (row_part_at (hR.below hb) hfit) y hy
          exact ⟨b, of, e1, trivial, e2⟩
      have c1 := below_cell B3 hc1
      have c2 := below_cell B3 cp
      replace hlen := Lib.hid hlen
      replace hrow := Lib.hid hrow
      have hout := hOut.lt
      have hwx := B3.size
      obtain ⟨xs, HO5, hX⟩ := hOut
      clear hrl hsj hfit hv
      go_wp2_with fail
      with_reducible refine (hP.out _).mono ?_
      rintro e x1 ⟨rfl, rfl⟩
      go_wp2_with (at_builtin; refine append_one w.heap.size rfl (.tmp 19) (.tmp 24) _ 26 (.slice none 0 0) 24 rfl Try.underlying22 row_info rfl (by omega) u8 j _ (.slice (some ⟨gr, or_ + i * n, none⟩) n n) rfl rfl rfl HO5 hwx (by omega) ?_; intro v1 x6 HO6 hg6 hat6)
      rw [← hlen.out] at HO6
      have hOut6 := OutS.snoc (P := fun _ => True) (c := n) HO5 hX (by rw [hlen.out] at HO6 ⊢; exact HO6) hg6 hat6 trivial (by omega) (fun e => by have := hout gr e; omega) (hrow.out _ B3)
      have B6 := below_of_grown B3 hg6 (fun q hq => (hout q hq).1)
      exact ⟨⟨j + 1, by omega, by go_num, hOut6, B6⟩, by simp [intOf]; omega⟩
    · obtain rfl : j = l.length := by omega
      rw [← hcl.out] at hOut
      obtain ⟨g9, c9, rfl, hM9⟩ := hOut.mat (by rw [hcl.out]; exact hl0) (fun b hb => trivial)
      rw [hcl.out]
      have hC := hT.out (some ⟨g9, 0, none⟩) c9 wr hM9.mat
      rw [hcl.out] at hC
      replace hC := Lib.hid hC
      have c3 := below_cell B3 cc
      have c4 := below_cell B3 cr
      have c5 := below_cell B3 cs
      have hu2 := hu.out
      go_wp2_with fail
      refine hC.out.mono ?_
      rintro e x7 ⟨gc, G, K, rfl, hG, hb⟩
      go_wp2_with fail
      go_ret
      exact ⟨gc, G, K, rfl, hG.base B3.size, below_chain B3 hb B3.size⟩
end Go.Proofs.Ytiamppbgpoffmaa
