/- The contracts of codec's reading: coords$1, coords. -/
import Derived.Test.YtejbfglaalmafaaGreatDoorLNum
namespace Go.Proofs.YtejbfglaalmafaaGreatDoor
open Go.RowKit
set_option linter.unusedVariables false

def I32 (x : Int) : Prop := -2147483648 ≤ x ∧ x < 2147483648
theorem numN_four (x : Int) : (numN (leB 4 x) 4 : Int) = x % 4294967296 := by
  have g0 := nb_leB (n := 4) (x := x) (i := 0) (by omega); have g1 := nb_leB (n := 4) (x := x) (i := 1) (by omega)
  have g2 := nb_leB (n := 4) (x := x) (i := 2) (by omega); have g3 := nb_leB (n := 4) (x := x) (i := 3) (by omega)
  simp only [pw_0, pw_1, pw_2, pw_3] at g0 g1 g2 g3
  generalize leB 4 x = l at *
  simp only [numN, np_0, np_1, np_2, np_3]
  omega
theorem wrap_four (x : Int) (h : I32 x) : IntKind.i32.wrap (numN (leB 4 x) 4 : Int) = x := by
  rw [numN_four]
  obtain ⟨h1, h2⟩ := h
  simp [IntKind.wrap, IntKind.bits, IntKind.signed]
  split <;> omega
theorem wrap_i32_64 {x : Int} (h : I32 x) : wrap64 x = x := by
  obtain ⟨h1, h2⟩ := h
  simp only [wrap64]
  omega
def OnePost (w : World) (R : Nat) (x : Int) (rest : List UInt8) (e : Ending) (w' : World) : Prop := e = .returned (.int .i64 x) ∧ Blk w' R 97 (readV rest) ∧ w.grownBy w' (some R)
set_option maxRecDepth 100000 in
theorem one_ok (bb R : Nat) (x : Int) (rest : List UInt8) (hx : I32 x) (hr : rest.length ≤ 1000000) (w : World) (hb : Blk w bb 95 #[.pointer (some ⟨R, 0, none⟩)]) (hR : Blk w R 97 (readV (leB 4 x ++ rest))) :
    Calls Tryz.prog 61 #[.pointer (some ⟨bb, 0, none⟩)] w (OnePost w R x rest) := by
  have hl := leB_length 4 x
  have hC := number_ok R (leB 4 x) rest (by omega) (by omega) hr w hR
  rw [hl] at hC
  unfold NumPost at hC
  rw [hl] at hC
  replace hC := Lib.hid hC
  have hw := wrap_four x hx
  have hw2 := wrap_i32_64 hx
  have c0 := hb.cell 0
  simp only [List.getElem?_toArray, List.getElem?_cons_zero] at c0
  clear hx hl hr hR hb
  generalize numN (leB 4 x) 4 = X at *
  go_enter Tryz.func61, Tryz.ntmps61
  go_wp2_with fail
  refine hC.out.mono ?_
  rintro e w1 ⟨rfl, hR1, hg⟩
  go_wp2_with fail
  go_ret
  refine ⟨?_, hR1, hg⟩
  show Ending.returned (.int .i64 (wrap64 x)) = _
  rw [hw2]
theorem grown_mix {a w w' : World} {row row2 : Option Nat} (h : a.grownBy w row) (k : w.grownBy w' row2) (hn : ∀ b, row2 = some b → a.heap.size ≤ b) : a.grownBy w' row :=
  ⟨k.os.trans h.os, k.tape.trans h.tape, k.output.trans h.output, Nat.le_trans h.size k.size, fun i hi hr => (k.block i (Nat.lt_of_lt_of_le hi h.size) (fun e => by have := hn i e.symm; omega)).trans (h.block i hi hr)⟩
theorem int_info : (Tryz.prog.info? 3).map (fun i => (i.zero, i.size, i.bytes)) = some (some (.int .i64 0), 1, 8) := by kernel_rfl
def I32s (v : List Int) : Prop := ∀ x ∈ v, I32 x
theorem coordsB_drop (v : List Int) (j : Nat) (h : j < v.length) : coordsB (v.drop j) = leB 4 (nth v j) ++ coordsB (v.drop (j + 1)) := by
  rw [List.drop_eq_getElem_cons h, coordsB, List.flatMap_cons]
  simp [nth, h, coordsB]
theorem vals_take (v : List Int) (j : Nat) (h : j < v.length) : vals (v.take j) ++ [.int .i64 (nth v j)] = vals (v.take (j + 1)) := by
  rw [vals_snoc, List.take_add_one]
  simp [nth, h]
def CoordsPost (w : World) (R : Nat) (v : List Int) (rest : List UInt8) (e : Ending) (w' : World) : Prop :=
  ∃ s B, e = .returned s ∧ w.heap.size ≤ B ∧ w'.ownsRow B 3 1 s v.length (vals v) ∧ Blk w' R 97 (readV rest) ∧ w.grownBy w' (some R)
set_option maxRecDepth 100000 in
set_option maxHeartbeats 4000000 in
theorem coords_ok (R : Nat) (v : List Int) (rest : List UInt8) (hv : I32s v) (hn : v.length ≤ 64) (hr : rest.length ≤ 1000) (w : World) (hR : Blk w R 97 (readV (coordsB v ++ rest))) :
    Calls Tryz.prog 36 #[.pointer (some ⟨R, 0, none⟩), .int .i64 (v.length : Int)] w (CoordsPost w R v rest) := by
  have hlt := hR.lt
  have hb0 := Blk.new w 95 #[.pointer (some ⟨R, 0, none⟩)]
  have hR0 := hR.alloc (.cells #[.pointer (some ⟨R, 0, none⟩)] 95)
  have hg0 := grown_new_alloc (grown_refl w (some R)) (.cells #[.pointer (some ⟨R, 0, none⟩)] 95)
  have hB0 := hb0.lt
  have hcl := coordsB_length
  have hC := Lib.hid (fun (j : Nat) (hj : j < v.length) (x : World) hbx (hRx : Blk x R 97 (readV (coordsB (v.drop j) ++ rest))) => one_ok w.heap.size R (nth v j) (coordsB (v.drop (j + 1)) ++ rest) (hv _ (by rw [nth, List.getD_eq_getElem?_getD, List.getElem?_eq_getElem hj]; exact List.getElem_mem hj)) (by rw [List.length_append, hcl, List.length_drop]; omega) x hbx (by rw [← List.append_assoc, ← coordsB_drop v j hj]; exact hRx))
  clear hR hcl
  go_enter Tryz.func36, Tryz.ntmps36
  go_upto_region 1 with fail
  generalize w.alloc (.cells #[.pointer (some ⟨R, 0, none⟩)] 95) = w0 at *
  go_wp2_with fail
  go_loopw [6, 9] (fun b i wr => ∃ j : Nat, j ≤ v.length ∧ i = .int .i64 (j : Int) ∧ wr.ownsRow w0.heap.size 3 1 b j (vals (v.take j)) ∧ Blk wr w.heap.size 95 #[.pointer (some ⟨R, 0, none⟩)] ∧ Blk wr R 97 (readV (coordsB (v.drop j) ++ rest)) ∧ w.grownBy wr (some R) ∧ w0.heap.size ≤ wr.heap.size) (fun _ i _ => v.length - (intOf i).toNat)
  case atStart => exact ⟨0, Nat.zero_le _, rfl, by simpa [vals] using World.ownsRow_nil _ _ _ _, hb0, by simpa using hR0, hg0, Nat.le_refl _⟩
  case round =>
    obtain ⟨j, hj, rfl, HO, hbr, hRr, hgr, hsz⟩ := hrel
    by_cases hlt2 : j < v.length
    · have hc := Lib.hid (hC.out j hlt2 wr hbr hRr)
      have hvt := vals_take v j hlt2
      have hown := Lib.hid (fun k hk => own_lt' HO k hk)
      have hnR : ∀ b, u6.ownBlock = some b → w0.heap.size ≤ b := fun b hb => (hown.out b hb).1
      replace hnR := Lib.hid hnR
      clear hC
      go_wp2_with fail
      refine hc.out.mono ?_
      rintro e w1 ⟨rfl, hR1, hg⟩
      have HO1 := HO.kept hg (Or.inr (fun e => by have := hnR.out R e; omega))
      have hb1 := hbr.grown hg (by simp; omega)
      have hgr1 := grown2 hgr hg
      have hz := Nat.le_trans hsz hg.size
      have hj8 : (j + 1) * 8 ≤ 140737488355328 := by omega
      replace hj8 := Lib.hid hj8
      clear hc hRr hgr hbr HO hsz
      go_wp2_with (at_builtin; refine append_one w0.heap.size rfl (.tmp 11) (.tmp 14) _ 3 (.int .i64 0) 8 rfl Tryz.underlying24 int_info rfl (by omega) u6 j _ (.int .i64 (nth v j)) rfl rfl rfl HO1 hz hj8.out ?_; intro v2 w2 HO2 hg2 hat2)
      rw [hvt] at HO2
      have hk : ∀ b, u6.ownBlock = some b → w.heap.size < b := fun b hb => Nat.lt_of_lt_of_le hB0 (hnR.out b hb)
      exact ⟨⟨j + 1, hlt2, rfl, HO2, hb1.grown hg2 (fun e => by have := hk _ e.symm; omega), hR1.grown hg2 (fun e => by have := hk _ e.symm; omega), grown_mix hgr1 hg2 (fun b hb => Nat.le_of_lt (hk b hb)), Nat.le_trans hz hg2.size⟩, meas64 hlt2⟩
    · have hjv : j = v.length := Nat.le_antisymm hj (Nat.not_lt.1 hlt2)
      rw [hjv, List.take_length] at HO
      have hRf : Blk wr R 97 (readV rest) := by
        have h := hRr
        rw [hjv, List.drop_length] at h
        exact h
      clear hC hRr
      go_wp2_with fail
      go_ret
      exact ⟨_, _, rfl, Nat.le_of_lt hB0, HO, hRf, hgr⟩
end Go.Proofs.YtejbfglaalmafaaGreatDoor
