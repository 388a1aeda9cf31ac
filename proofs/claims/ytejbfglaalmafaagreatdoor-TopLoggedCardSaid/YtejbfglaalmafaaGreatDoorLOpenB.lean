/- The contract of wal.Open on a disk that holds whole segments. -/
import Derived.Test.YtejbfglaalmafaaGreatDoorLOpenA
namespace Go.Proofs.YtejbfglaalmafaaGreatDoor
open Go.RowKit
set_option linter.unusedVariables false

set_option maxRecDepth 100000 in
set_option maxHeartbeats 4000000 in
theorem last_raw {w : World} {lg gv cap k m q f : Nat} (hk : k = m + 1) (hk6 : k ≤ 6) (hf : f ≤ 1000000) (hf1 : 1 ≤ f) (hc : k ≤ cap) (c1 : w.cell? ⟨lg, 1, none⟩ = some (.slice (some ⟨gv, 0, none⟩) k cap)) (c2 : w.cell? ⟨gv, m, none⟩ = some (.pointer (some ⟨q, 0, none⟩))) (c4 : w.cell? ⟨q, 2, none⟩ = some (.int .i64 (f : Int))) :
    Calls Tryz.prog 21 #[.pointer (some ⟨lg, 0, none⟩)] w fun e w' => e = .returned (.int .i64 ((f - 1 : Nat) : Int)) ∧ Below w.heap.size w w' := by
  obtain ⟨r, hr⟩ : ∃ r, f = r + 1 := ⟨f - 1, by omega⟩
  obtain ⟨p1, p2⟩ := pred64 hk (by omega)
  obtain ⟨p3, p4⟩ := pred64 hr hf
  obtain ⟨n1, n2, n3, n4, n5⟩ := ne_zero hk
  have hend : f - 1 = r := by clear p1 p2 p3 p4 n2 n3; omega
  rw [hend]
  have hc' : (k : Int) ≤ (cap : Int) := Int.ofNat_le.2 hc
  clear hk6 hk hr hend hf1 hf hc
  go_enter Tryz.func21, Tryz.ntmps21
  go_wp2_with fail
  go_region
  go_wp2_with fail
  go_ret
  exact ⟨rfl, (Below.refl _ _).drew⟩
def OpenedP (w : World) (b nm dk k : Nat) (G : Nat → Nat) (ds : Nat → List (List UInt8)) (N : Nat) (e : Ending) (w' : World) : Prop := ∃ lg Q v, e = .returned (.tuple #[.pointer (some ⟨lg, 0, none⟩), v, .int .i64 0]) ∧ WS w' b nm dk lg k G Q ds (fun _ => false) false N ∧ w'.ownsRow w.heap.size 49 2 v (flatN ds k).length (recV 1 (flatN ds k)) ∧ Ty b wsT (fun _ => False) w w'
theorem own_slice {w : World} {B : Nat} {e : TypeId} {size n : Nat} {v : Value} {xs : List Value} (h : w.ownsRow B e size v n xs) : ∃ A c, v = .slice A n c := by
  obtain ⟨_, (⟨rfl, h2⟩ | ⟨g, cap, cur, rfl, _⟩)⟩ := h
  · exact ⟨_, _, by rw [h2]⟩
  · exact ⟨_, _, rfl⟩
/-- A log whose greatest number of a file is f. -/
structure LGf (w : World) (b dk lg k f : Nat) (Q : Nat → Nat) (ds : Nat → List (List UInt8)) (F : Nat → Bool) (Z : Bool) (v : Value) (sy : Int) : Prop where
  hl : Blk w lg 60 (logV dk v sy Z f)
  hv : w.ownsRow b 77 1 v k (ptrs Q k)
  hs : ∀ i, i < k → b ≤ Q i ∧ Blk w (Q i) 79 (segV (segN i) (fiN ds i) (fiN ds (i + 1)) (segS ds i).length (F i))
  hi : ∀ i j, i < k → j < k → Q i = Q j → i = j
  bl : b ≤ lg
section
variable {w w' : World} {b nm dk lg k f : Nat} {Q : Nat → Nat} {ds : Nat → List (List UInt8)} {F : Nat → Bool} {Z : Bool} {v : Value} {sy : Int}
theorem LGx.file (h : LGx w b dk lg k Q ds F Z v sy) {x : Value} {f : Nat} (hx : Blk (w.setCell ⟨lg, 4, none⟩ x) lg 60 (logV dk v sy Z f)) : LGf (w.setCell ⟨lg, 4, none⟩ x) b dk lg k f Q ds F Z v sy ∧ Ty b walT (fun _ => False) w (w.setCell ⟨lg, 4, none⟩ x) := by
  have hg := grown_set w ⟨lg, 4, none⟩ x
  have hT : Ty b walT (fun _ => False) w (w.setCell ⟨lg, 4, none⟩ x) := Ty.of_grown hg h.lt (Owned.blk h.hl h.bl rfl)
  have hne : ∀ j t cs, Blk w j t cs → t ≠ 60 → some j ≠ some lg := fun j t cs hj ht e => by
    injection e with e
    rw [e] at hj
    exact ht (blk_ty hj h.hl)
  exact ⟨{
    hl := hx
    hv := own_same h.hv (fun j cs hj => hg.block j hj.lt (hne _ _ _ hj (by decide)))
    hs := fun j hj => ⟨(h.hs j hj).1, (h.hs j hj).2.grown hg (hne _ _ _ (h.hs j hj).2 (by decide))⟩
    hi := h.hi
    bl := h.bl }, hT⟩
theorem LGf.ty (h : LGf w b dk lg k f Q ds F Z v sy) {T : TypeId → Bool} {M : Nat → Prop} {c : Nat} (hT : Ty c T M w w') (h1 : T 60 = false) (h2 : T 79 = false) (h3 : T 77 = false) : LGf w' b dk lg k f Q ds F Z v sy where
  hl := hT.blk h.hl h1
  hv := hT.own h.hv h3
  hs := fun i hi => ⟨(h.hs i hi).1, hT.blk (h.hs i hi).2 h2⟩
  hi := h.hi
  bl := h.bl
theorem LGf.lt (h : LGf w b dk lg k f Q ds F Z v sy) : b ≤ w.heap.size := by
  have h1 := h.hl.lt
  have h2 := h.bl
  omega
theorem LGf.below (h : LGf w b dk lg k f Q ds F Z v sy) (hb : Below w.heap.size w w') : LGf w' b dk lg k f Q ds F Z v sy := h.ty (T := fun _ => false) (M := fun _ => False) (Ty.of_below hb h.lt) rfl rfl rfl
end
theorem Ty.step {b : Nat} {T : TypeId → Bool} {M : Nat → Prop} {w x x' : World} {r : Option Nat} (h : Ty b T M w x) (hb : b ≤ w.heap.size) (hg : x.grownBy x' r) (hr : ∀ k, r = some k → w.heap.size ≤ k) : Ty b T M w x' where
  os := hg.os.trans h.os
  tape := hg.tape.trans h.tape
  output := hg.output.trans h.output
  size := Nat.le_trans h.size hg.size
  low := fun i hi => (hg.block i (Nat.lt_of_lt_of_le (Nat.lt_of_lt_of_le hi hb) h.size) (fun e => by have := hr i e.symm; omega)).trans (h.low i hi)
  row := fun i t cs hk ht => (hg.block i (Nat.lt_of_lt_of_le hk.lt h.size) (fun e => by have := hr i e.symm; have := hk.lt; omega)).trans (h.row i t cs hk ht)
  map := fun i es c hk hm => (hg.block i (Nat.lt_of_lt_of_le (Array.getElem?_eq_some_iff.1 hk).1 h.size) (fun e => by have := hr i e.symm; have := (Array.getElem?_eq_some_iff.1 hk).1; omega)).trans (h.map i es c hk hm)
theorem Ty.of_own2 {b B : Nat} {T : TypeId → Bool} {M : Nat → Prop} {w w' : World} {e : TypeId} {size n : Nat} {v : Value} {xs : List Value} (hg : w.grownBy w' v.ownBlock) (ho : w.ownsRow B e size v n xs) (hT : T e = true) (hb : b ≤ w.heap.size) (hB : b ≤ B) : Ty b T M w w' :=
  Ty.of_fr (own := fun i => v.ownBlock = some i) ((Fr.refl _ w).step hg (fun k e => .inl e)) hb (fun i hi => by
    obtain ⟨h1, cs, h2⟩ := own_ty ho hi
    exact Owned.blk h2 (Nat.le_trans hB h1) hT)
theorem max_next (j : Nat) : max (j : Int) ((j : Int) + 1) = (j : Int) + 1 := by omega
set_option maxRecDepth 100000 in
set_option maxHeartbeats 4000000 in
theorem open_ok {w : World} {b nm dk k : Nat} {G : Nat → Nat} {ds : Nat → List (List UInt8)} {F : Nat → Bool} {Z : Bool} {N : Nat} (h : DS w b nm dk k G (segS ds) F Z N) (h1 : 1 ≤ k) (hk6 : k ≤ 6) (hS : ∀ j, j < k → (segS ds j).length ≤ 100000) (hf : fiN ds k ≤ 100000) (hds : ∀ j, j < k → Datas (ds j)) :
    Calls Tryz.prog 6 #[.pointer (some ⟨dk, 0, none⟩)] w (OpenedP w b nm dk k G ds N) := by
  have hDn := Lib.hid (ddown h)
  have hbw := h.size
  have hba := below_alloc1 w (.cells (logV dk (.slice none 0 0) 0 false 0) 60)
  have hlg := Blk.new w 60 (logV dk (.slice none 0 0) 0 false 0)
  have hD1 := h.below hba
  have hL1 : LGx (w.alloc (.cells (logV dk (.slice none 0 0) 0 false 0) 60)) b dk w.heap.size 0 (fun _ => 0) ds (fun _ => true) false (.slice none 0 0) 0 := { hl := hlg, hv := World.ownsRow_nil _ _ _ _, hs := fun i hi => by omega, hi := fun i j hi => by omega, bl := hbw }
  have hT1 : Ty b wsT (fun _ => False) w (w.alloc (.cells (logV dk (.slice none 0 0) 0 false 0) 60)) := Ty.of_below hba hbw
  have hlv : logV dk (.slice none 0 0) 0 false 0 = #[.pointer (some ⟨dk, 0, none⟩), .slice none 0 0, .int .i64 0, .bool false, .int .i64 0] := rfl
  rw [hlv] at hL1 hD1 hT1
  clear hlv hlg hba
  replace hS := Lib.hid hS
  replace hf := Lib.hid hf
  replace hds := Lib.hid hds
  go_enter Tryz.func6, Tryz.ntmps6
  go_wp2_with fail
  refine hDn.out.mono ?_
  rintro e w0 ⟨rfl, rfl⟩
  go_upto_region 6 with fail
  obtain ⟨lg, hlg⟩ : ∃ lg, w.heap.size = lg := ⟨_, rfl⟩
  rw [hlg] at hL1
  simp only [hlg]
  generalize w.alloc (.cells #[.pointer (some ⟨dk, 0, none⟩), .slice none 0 0, .int .i64 0, .bool false, .int .i64 0] 60) = w1 at *
  have hba := below_alloc1 w1 (.cells #[.slice none 0 0] 61)
  have hsb := Blk.new w1 61 #[.slice none 0 0]
  have hL2 := hL1.below hba
  have hD2 := hD1.below hba
  have hT2 := hT1.trans (Ty.of_below hba hD1.size)
  clear hba hL1 hD1 hT1 hDn h hlg
  go_upto_region 8 with fail
  obtain ⟨sb, hsbq⟩ : ∃ sb, w1.heap.size = sb := ⟨_, rfl⟩
  rw [hsbq] at hsb
  simp only [hsbq]
  generalize w1.alloc (.cells #[.slice none 0 0] 61) = w2 at *
  clear hsbq
  have hNm := Lib.hid (dnames hD2 hk6)
  go_wp2_with fail
  refine hNm.out.mono ?_
  rintro e w3 ⟨v, B, rfl, hB, hO, -, hb3⟩
  obtain ⟨gn, capn, rfl, hgn, hgnu⟩ := own_shape hO (by omega)
  have hL3 := hL2.below hb3
  have hD3 := hD2.below hb3
  have hT3 := hT2.trans (Ty.of_below hb3 hD2.size)
  have hs3 := hsb.below hb3 hsb.lt
  clear hNm hL2 hD2 hb3 hsb hT2 hB hgn hgnu
  go_wp2_with fail
  go_loopw [6, 7, 10, 33] (fun a l wl u wr => ∃ (j : Nat) (Q : Nat → Nat) (vl : Value), wl = .bool (decide (0 < j)) ∧ u = .int .i64 (j : Int) ∧ j ≤ k ∧ LGx wr b dk lg j Q ds (fun _ => true) false vl 0 ∧ DS wr b nm dk k G (segS ds) F Z N ∧ wr.ownsRow w.heap.size 49 2 a (flatN ds j).length (recV 1 (flatN ds j)) ∧ wr.ownsRow B 9 1 (.slice (some ⟨gn, 0, none⟩) k capn) k ((List.range k).map fun i => strV (segN i)) ∧ Blk wr sb 61 #[.slice none 0 0] ∧ Ty b wsT (fun _ => False) w wr) (fun _ _ _ u _ => k - (intOf u).toNat)
  case atStart => exact ⟨0, _, _, rfl, rfl, Nat.zero_le _, hL3, hD3, World.ownsRow_nil _ _ _ _, hO, hs3, hT3⟩
  case round =>
    obtain ⟨j, Q, vl, rfl, rfl, hj, hL, hD, hA, hO2, hs, hT⟩ := hrel
    by_cases hjk : j < k
    · have hc0 : wr.cell? ⟨gn, j, none⟩ = some (strV (segN j)) := by
        rw [hO2.cellAt j (by omega)]
        simp [hjk]
      have hj6 : j < 6 := by omega
      have hRd := Lib.hid (fun (x : World) (hx : DS x b nm dk k G (segS ds) F Z N) => dread hx hk6 j hjk (by rw [segS, segB, List.length_append, headB_length]; omega) (by have := hS.out j hjk; omega))
      have hsl := seg_tail j
      have hNu := Lib.hid (num_seg j hj6)
      obtain ⟨T, hTs⟩ : ∃ T, strV (segN j) = .string T := ⟨_, rfl⟩
      have hPr := Lib.hid (prefix_seg j T hTs wr)
      rw [hTs] at hc0 hRd hsl
      generalize ByteArray.mk [48, 48, 48, 48, 48, UInt8.ofNat (49 + j)].toArray = U at *
      have hmx := max_next j
      clear hL3 hD3 hT3 hs3 hO
      go_wp2_with fail
      refine hPr.out.mono ?_
      rintro e x0 ⟨rfl, rfl⟩
      go_wp2_with fail
      refine (hNu.out _).mono ?_
      rintro e x1 ⟨rfl, hb1⟩
      have hL1 := hL.below hb1
      have hD1 := hD.below hb1
      have hA1 : x1.ownsRow w.heap.size 49 2 _ (flatN ds j).length (recV 1 (flatN ds j)) := hA.kept (grown_of_below hb1 none) (Classical.em _)
      have hO1 : x1.ownsRow B 9 1 (.slice (some ⟨gn, 0, none⟩) k capn) k ((List.range k).map fun i => strV (segN i)) := hO2.kept (grown_of_below hb1 none) (Classical.em _)
      have hs1 := hs.below hb1 hs.lt
      have hT1 := hT.trans (Ty.of_below hb1 hD.size)
      have k4 : x1.cell? ⟨lg, 4, none⟩ = some (.int .i64 (j : Int)) := hL1.hl.cell 4
      have kf4 := hL1.hl.frozen 4
      obtain ⟨hL2, hT2⟩ := hL1.file (x := .int .i64 ((j : Int) + 1)) (f := j + 1) (hL1.hl.set_ 4 _)
      have hD2 := hD1.ty hT2 rfl rfl rfl rfl
      have hA2 := hT2.own hA1 rfl
      have hO3 := hT2.own hO1 rfl
      have hs2 := hT2.blk hs1 rfl
      have hT3 := hT1.trans hT2.wal
      clear hL hD hA hO2 hs hT hb1 hL1 hD1 hA1 hO1 hs1 hT1 hT2 hNu hPr hc0
      go_upto_region 17 with fail
      generalize x1.setCell ⟨lg, 4, none⟩ (.int .i64 ((j : Int) + 1)) = x2 at *
      have hRd2 := Lib.hid (hRd.out x2 hD2)
      clear hRd hsl k4 kf4 hmx
      go_wp2_with fail
      refine hRd2.out.mono ?_
      rintro e x3 ⟨v1, rfl, ho3, hb3⟩
      have hl0 : 0 < (segS ds j).length := by rw [segS, segB, List.length_append, headB_length]; omega
      obtain ⟨g1, cap1, rfl, -, -⟩ := own_shape ho3 hl0
      have hcap1 : (segS ds j).length ≤ cap1 := by
        obtain ⟨_, (⟨e, _⟩ | ⟨_, _, _, e, _, _, e3, _⟩)⟩ := ho3
        · cases e
        · simp only [Value.slice.injEq] at e
          omega
      have hbr3 := own_brow ho3
      have hfj : fiN ds j ≤ fiN ds k := by
        rw [fiN_flat, fiN_flat]
        have : ∀ a c, a ≤ c → (flatN ds a).length ≤ (flatN ds c).length := fun a c h => by
          induction h with
          | refl => exact Nat.le_refl _
          | step _ ih => rw [flatN, List.length_append]; omega
        have := this j k (Nat.le_of_lt hjk)
        omega
      have hfj1 : fiN ds (j + 1) ≤ fiN ds k := by
        rw [fiN_flat, fiN_flat]
        have : ∀ a c, a ≤ c → (flatN ds a).length ≤ (flatN ds c).length := fun a c h => by
          induction h with
          | refl => exact Nat.le_refl _
          | step _ ih => rw [flatN, List.length_append]; omega
        have := this (j + 1) k hjk
        omega
      have hBs := Lib.hid (begins_seg (some ⟨g1, 0, none⟩) cap1 (fiN ds j) (ds j) hcap1 (by have := hS.out j hjk; rw [segS] at this; omega) (by have := hf.out; omega) x3 hbr3)
      have hL3 := hL2.below hb3
      have hD3 := hD2.below hb3
      have hA3 : x3.ownsRow w.heap.size 49 2 _ (flatN ds j).length (recV 1 (flatN ds j)) := hA2.kept (grown_of_below hb3 none) (Classical.em _)
      have hO4 : x3.ownsRow B 9 1 (.slice (some ⟨gn, 0, none⟩) k capn) k ((List.range k).map fun i => strV (segN i)) := hO3.kept (grown_of_below hb3 none) (Classical.em _)
      have hs3 := hs2.below hb3 hs2.lt
      have hT4 := hT3.trans (Ty.of_below hb3 hD2.size)
      clear hL2 hD2 hA2 hO3 hs2 hT3 ho3 hb3 hRd2
      have hsg : segB (fiN ds j) (ds j) = segS ds j := rfl
      rw [hsg] at hBs
      replace hcap1 := Lib.hid hcap1
      replace hl0 := Lib.hid hl0
      replace hfj := Lib.hid hfj
      replace hfj1 := Lib.hid hfj1
      go_wp2_with fail
      refine hBs.out.mono ?_
      rintro e x4 ⟨rfl, hdr⟩
      have hb4 := hdr.below x3.heap.size
      have hL4 := hL3.below hb4
      have hD4 := hD3.below hb4
      have hA4 : x4.ownsRow w.heap.size 49 2 _ (flatN ds j).length (recV 1 (flatN ds j)) := hA3.kept (grown_of_below hb4 none) (Classical.em _)
      have hO5 : x4.ownsRow B 9 1 (.slice (some ⟨gn, 0, none⟩) k capn) k ((List.range k).map fun i => strV (segN i)) := hO4.kept (grown_of_below hb4 none) (Classical.em _)
      have hs4 := hs3.below hb4 hs3.lt
      have hT5 := hT4.trans (Ty.of_below hb4 hD3.size)
      have hbr4 := hbr3.below hb4
      clear hL3 hD3 hA3 hO4 hs3 hT4 hb4 hbr3 hdr hBs
      obtain ⟨A, cap, rfl⟩ := own_slice hL4.hv
      have m1 : x4.cell? ⟨lg, 1, none⟩ = some (.slice A j cap) := hL4.hl.cell 1
      rcases Nat.eq_zero_or_pos j with hj0 | hj0
      have hz1 : decide ((0 : Int) < (j : Int)) = false := decide_eq_false (by omega)
      have hz2 : ¬ 0 < j := by omega
      clear hj0
      go_upto_region 23 with fail
      clear m1 hz1 hz2
      generalize x4 = x5 at *
      rotate_left 1
      have hz1 : decide ((0 : Int) < (j : Int)) = true := decide_eq_true (by omega)
      obtain ⟨m, hm⟩ : ∃ m, j = m + 1 := ⟨j - 1, by omega⟩
      have hvv := hL4.hv
      obtain ⟨gv, hA0, hjc⟩ : ∃ gv, A = some ⟨gv, 0, none⟩ ∧ j ≤ cap := by
        obtain ⟨_, (⟨e, e2⟩ | ⟨gv, cap2, cur, e, _, _, hc, _⟩)⟩ := hvv
        · omega
        · simp only [Value.slice.injEq] at e
          exact ⟨gv, e.1, by omega⟩
      subst hA0
      have m2 : x4.cell? ⟨gv, m, none⟩ = some (.pointer (some ⟨Q m, 0, none⟩)) := by
        rw [hvv.cellAt m (by omega)]
        simp [ptrs, hm]
      have m3 : x4.cell? ⟨Q m, 2, none⟩ = some (.int .i64 (fiN ds j : Int)) := by rw [hm]; exact (hL4.hs m (by omega)).2.cell 2
      have hLa := Lib.hid (last_raw hm (by omega) (by have := hf.out; have := hfj.out; omega) (fiN_pos ds j) hjc m1 m2 m3)
      have hbk := back64 (fiN_pos ds j) (by have := hf.out; have := hfj.out; clear hz1; omega)
      generalize fiN ds j - 1 = f1 at *
      clear hvv m2 m3 hjc hm
      go_wp2_with fail
      refine hLa.out.mono ?_
      rintro e x5 ⟨rfl, hb5⟩
      go_upto_region 23 with fail
      replace hA4 : x5.ownsRow w.heap.size 49 2 _ (flatN ds j).length (recV 1 (flatN ds j)) := hA4.kept (grown_of_below hb5 none) (Classical.em _)
      replace hO5 : x5.ownsRow B 9 1 (.slice (some ⟨gn, 0, none⟩) k capn) k ((List.range k).map fun i => strV (segN i)) := hO5.kept (grown_of_below hb5 none) (Classical.em _)
      replace hs4 := hs4.below hb5 hs4.lt
      replace hT5 := hT5.trans (Ty.of_below hb5 hD4.size)
      replace hbr4 := hbr4.below hb5
      replace hL4 := hL4.below hb5
      replace hD4 := hD4.below hb5
      clear hb5 m1 hz1 hbk hLa hj0
      all_goals (
        have hRc := Lib.hid (records_any (some ⟨g1, 0, none⟩) cap1 (fiN ds j) (ds j) (hds.out j hjk) (by have := hS.out j hjk; rw [segS] at this; omega) (by have h1 := hfj1.out; have h2 := hf.out; rw [fiN] at h1; omega) hcap1.out x5 hbr4)
        rw [hsg] at hRc
        go_wp2_with fail
        refine hRc.out.mono ?_
        rintro e x6 ⟨v2, rfl, ho6, hb6⟩
        have hA6 : x6.ownsRow w.heap.size 49 2 _ (flatN ds j).length (recV 1 (flatN ds j)) := hA4.kept (grown_of_below hb6 none) (Classical.em _)
        have hO6 : x6.ownsRow B 9 1 (.slice (some ⟨gn, 0, none⟩) k capn) k ((List.range k).map fun i => strV (segN i)) := hO5.kept (grown_of_below hb6 none) (Classical.em _)
        have hs6 := hs4.below hb6 hs4.lt
        have hT6 := hT5.trans (Ty.of_below hb6 hD4.size)
        have hL6 := hL4.below hb6
        have hD6 := hD4.below hb6
        have hbase : w.heap.size ≤ x6.heap.size := hT6.size
        have hnum : ((flatN ds j).length + (ds j).length) * 24 ≤ 140737488355328 := by
          have h1 := hfj1.out; have h2 := hf.out
          rw [fiN, fiN_flat] at h1
          omega
        obtain ⟨A2, c2, rfl⟩ := own_slice ho6
        replace hnum := Lib.hid hnum
        replace hbase := Lib.hid hbase
        clear hA4 hO5 hs4 hT5 hbr4 hL4 hD4 hb6 hRc
        go_upto_region 25 with (at_builtin; refine append_row w.heap.size x5.heap.size rfl (.tmp 97) (.tmp 98) _ 49 (.agg #[.int .i64 0, .string ByteArray.empty]) 2 24 rfl Tryz.underlying31 rec_info rfl (by omega) (by omega) u6 (.slice A2 (ds j).length c2) _ _ _ _ rfl rfl hA6 ho6 (recV_one _ _) hbase.out hnum.out ?_; intro va x7 hA7 hg7 hat7)
        rw [show recV 1 (flatN ds j) ++ recV (fiN ds j) (ds j) = recV 1 (flatN ds (j + 1)) by rw [flatN, recV_append, fiN_flat], show (flatN ds j).length + (ds j).length = (flatN ds (j + 1)).length by rw [flatN, List.length_append]] at hA7
        have hTo : Ty b (fun t => t == 49) (fun _ => False) x6 x7 := Ty.of_own2 hg7 hA6 rfl hD6.size hbw
        have hL7 := hL6.ty hTo rfl rfl rfl
        have hD7 := hD6.ty hTo rfl rfl rfl rfl
        have hO7 := hTo.own hO6 rfl
        have hs7 := hTo.blk hs6 rfl
        have hT7 := hT6.step hbw hg7 (fun k e => (own_lt' hA6 k e).1)
        have m1 : x7.cell? ⟨lg, 1, none⟩ = some (.slice _ j cap) := hL7.hl.cell 1
        obtain ⟨q1, q2⟩ := add64 (show fiN ds j + (ds j).length = fiN ds (j + 1) from rfl) (by have := hfj1.out; have := hf.out; omega)
        clear hTo hL6 hD6 hO6 hs6 hT6 hA6 ho6 hg7 hat7
        obtain ⟨q, hq⟩ : ∃ q, x7.heap.size = q := ⟨_, rfl⟩
        have hcs : Blk (x7.alloc (.cells #[.string T, .int .i64 (fiN ds j : Int), .int .i64 (fiN ds (j + 1) : Int), .int .i64 ((segS ds j).length : Int), .bool true] 79)) x7.heap.size 79 #[.string T, .int .i64 (fiN ds j : Int), .int .i64 (fiN ds (j + 1) : Int), .int .i64 ((segS ds j).length : Int), .bool true] := Blk.new x7 _ _
        have hba8 := below_alloc1 x7 (.cells #[.string T, .int .i64 (fiN ds j : Int), .int .i64 (fiN ds (j + 1) : Int), .int .i64 ((segS ds j).length : Int), .bool true] 79)
        have hL8 := hL7.below hba8
        have hD8 := hD7.below hba8
        have hA8 := hA7.alloc (.cells #[.string T, .int .i64 (fiN ds j : Int), .int .i64 (fiN ds (j + 1) : Int), .int .i64 ((segS ds j).length : Int), .bool true] 79)
        have hO8 := hO7.alloc (.cells #[.string T, .int .i64 (fiN ds j : Int), .int .i64 (fiN ds (j + 1) : Int), .int .i64 ((segS ds j).length : Int), .bool true] 79)
        have hs8 := hs7.alloc (.cells #[.string T, .int .i64 (fiN ds j : Int), .int .i64 (fiN ds (j + 1) : Int), .int .i64 ((segS ds j).length : Int), .bool true] 79)
        have hT8 := hT7.trans (Ty.of_below hba8 hD7.size)
        have hqs : ∀ i, i < j → Q i < x7.heap.size := fun i hi => (hL7.hs i hi).2.lt
        have hj8 : (j + 1) * 8 ≤ 140737488355328 := by clear q1 q2; omega
        have hv8 := hL8.hv
        have hbx := hD8.size
        have hqb : b ≤ x7.heap.size := hD7.size
        have hl8 := hL8.hl
        have hs0 := hL8.hs
        have hi0 := hL8.hi
        have hbl := hL8.bl
        have hvl : ∀ i t cs, Blk (x7.alloc (.cells #[.string T, .int .i64 (fiN ds j : Int), .int .i64 (fiN ds (j + 1) : Int), .int .i64 ((segS ds j).length : Int), .bool true] 79)) i t cs → t ≠ 77 → some i ≠ (Value.slice _ j cap).ownBlock := fun i t cs hb ht e => by
          obtain ⟨_, ds2, h2⟩ := own_ty hv8 e.symm
          exact ht (blk_ty hb h2)
        have hsz8 : (x7.alloc (.cells #[.string T, .int .i64 (fiN ds j : Int), .int .i64 (fiN ds (j + 1) : Int), .int .i64 ((segS ds j).length : Int), .bool true] 79)).heap.size = x7.heap.size + 1 := by simp
        replace hqs := Lib.hid hqs
        replace hj8 := Lib.hid hj8
        replace hvl := Lib.hid hvl
        clear hba8 hL7 hD7 hO7 hs7 hT7 hA7 hL8 hq
        go_wp2_with (at_builtin; refine append_one b rfl (.tmp 104) (.tmp 115) _ 77 (.pointer none) 8 rfl Tryz.underlying58 sptr_info rfl (by omega) (.slice _ j cap) j _ (.pointer (some ⟨x7.heap.size, 0, none⟩)) rfl (by rw [hsz8]; rfl) rfl hv8 hbx hj8.out ?_; intro v9 x9 HO9 hg9 hat9; obtain ⟨g9, cap9, rfl, hg9l, hg9u⟩ := own_shape HO9 (by omega); have hb9 := hl8.grown hg9 (hvl.out _ _ _ hl8 (by decide)); have u1 : x9.cell? ⟨lg, 1, none⟩ = some (.slice _ j cap) := hb9.cell 1; have uf1 := hb9.frozen 1)
        have hT9 : Ty b walT (fun _ => False) _ x9 := Ty.of_own hg9 hv8 rfl hbx
        have hg10 := grown_set x9 ⟨lg, 1, none⟩ (.slice (some ⟨g9, 0, none⟩) (j + 1) cap9)
        have hT10 : Ty b walT (fun _ => False) x9 (x9.setCell ⟨lg, 1, none⟩ (.slice (some ⟨g9, 0, none⟩) (j + 1) cap9)) := Ty.of_grown hg10 (Nat.le_trans hbx hg9.size) (Owned.blk hb9 hbl rfl)
        have hT11 := hT9.trans hT10
        have hnl : ∀ i t cs, Blk x9 i t cs → t ≠ 60 → some i ≠ some lg := fun i t cs hb ht e => by
          injection e with e
          rw [e] at hb
          exact ht (blk_ty hb hb9)
        have hL11 : LGx (x9.setCell ⟨lg, 1, none⟩ (.slice (some ⟨g9, 0, none⟩) (j + 1) cap9)) b dk lg (j + 1) (upd Q j x7.heap.size) ds (fun _ => true) false (.slice (some ⟨g9, 0, none⟩) (j + 1) cap9) 0 := {
          hl := hb9.set_ 1 _
          hv := by
            rw [ptrs_snoc] at HO9
            exact own_same HO9 (fun i cs hi => hg10.block i hi.lt (hnl _ _ _ hi (by decide)))
          hs := fun i hi => by
            by_cases e : i = j
            · rw [e, upd_at]
              have h1 := hcs.grown hg9 (hvl.out _ _ _ hcs (by decide))
              have h2 := h1.grown hg10 (hnl _ _ _ h1 (by decide))
              rw [segV, hTs]
              exact ⟨hqb, h2⟩
            · rw [upd_ne _ _ e]
              have hs1 := hs0 i (by omega)
              have h1 := hs1.2.grown hg9 (hvl.out _ _ _ hs1.2 (by decide))
              exact ⟨hs1.1, h1.grown hg10 (hnl _ _ _ h1 (by decide))⟩
          hi := fun i c hi hc e => by
            by_cases e1 : i = j <;> by_cases e2 : c = j
            · rw [e1, e2]
            · rw [e1, upd_at, upd_ne _ _ e2] at e
              have := hqs.out c (by clear q1 q2; omega)
              clear q1 q2
              omega
            · rw [e2, upd_at, upd_ne _ _ e1] at e
              have := hqs.out i (by clear q1 q2; omega)
              clear q1 q2
              omega
            · rw [upd_ne _ _ e1, upd_ne _ _ e2] at e
              exact hi0 i c (by clear q1 q2; omega) (by clear q1 q2; omega) e
          bl := hbl }
        have hD11 := hD8.ty hT11 rfl rfl rfl rfl
        have hA11 := hT11.own hA8 rfl
        have hO11 := hT11.own hO8 rfl
        have hs11 := hT11.blk hs8 rfl
        have hT12 := hT8.trans hT11.wal
        exact ⟨⟨j + 1, _, _, rfl, rfl, hjk, hL11, hD11, hA11, hO11, hs11, hT12⟩, meas64 hjk⟩)
    · have hjk2 : j = k := Nat.le_antisymm hj (Nat.not_lt.1 hjk)
      subst hjk2
      have hpos : decide (0 < j) = true := decide_eq_true h1
      have s0 : wr.cell? ⟨sb, 0, none⟩ = some (.slice none 0 0) := hs.cell 0
      have hSt := Lib.hid (fun vl => settle_ok hL hD (fun i _ e => by cases e) hk6 (by have := hf.out; omega) vl)
      simp only [hpos]
      clear hs hL hD hO2 hL3 hD3 hT3 hs3 hO
      go_wp2_with fail
      refine (hSt.out _).mono ?_
      rintro e x1 ⟨rfl, hW1, hT1⟩
      obtain ⟨⟨v1, sy1, hL1⟩, hD1⟩ := hW1
      have hA1 := hT1.own hA rfl
      have hT2 := hT.trans hT1
      have hLa := Lib.hid (last_ok hL1 (by have := hf.out; omega) hk6)
      clear hSt hT1 s0 hA hT
      go_wp2_with fail
      refine hLa.out.mono ?_
      rintro e x2 ⟨rfl, hb2⟩
      have hL2 := hL1.below hb2
      have y2 : x2.cell? ⟨lg, 2, none⟩ = some (.int .i64 sy1) := hL2.hl.cell 2
      have yf := hL2.hl.frozen 2
      obtain ⟨hL3, hT3⟩ := hL2.log (Z' := false) (sy' := ((fiN ds j - 1 : Nat) : Int)) (grown_set x2 ⟨lg, 2, none⟩ (.int .i64 ((fiN ds j - 1 : Nat) : Int))) (hL2.hl.set_ 2 _)
      have hA2 : x2.ownsRow w.heap.size 49 2 _ (flatN ds j).length (recV 1 (flatN ds j)) := hA1.kept (grown_of_below hb2 none) (Classical.em _)
      have hA3 := hT3.own hA2 rfl
      have hfin : OpenedP w b nm dk j G ds N (.returned (.tuple #[.pointer (some ⟨lg, 0, none⟩), u6, .int .i64 0])) (x2.setCell ⟨lg, 2, none⟩ (.int .i64 ((fiN ds j - 1 : Nat) : Int))) := ⟨_, _, _, rfl, ⟨⟨_, _, hL3⟩, (hD1.below hb2).ty hT3 rfl rfl rfl rfl⟩, hA3, (hT2.trans (Ty.of_below hb2 hD1.size)).trans hT3.wal⟩
      replace hfin := Lib.hid hfin
      clear hLa hL1 hD1 hb2 hL2 hL3 hT3 hA2 hA3 hA1 hT2
      generalize fiN ds j - 1 = f1 at *
      go_wp2_with fail
      refine bodyPost_ret (v := .tuple #[.pointer (some ⟨lg, 0, none⟩), u6, .int .i64 0]) (by simp [results, Tryz.results6, go_sem]) rfl ?_
      exact hfin.out
end Go.Proofs.YtejbfglaalmafaaGreatDoor
