/- The contract of (*Disk).Append, of bytes that fit. -/
import Derived.Test.YtejbfglaalmafaaGreatDoorLUsed
import Derived.Deep.RegionLawGrows
namespace Go.Proofs.YtejbfglaalmafaaGreatDoor
open Go.RowKit
set_option linter.unusedVariables false

theorem room64 {room : Int} {v T y : Nat} (hv : v ≤ T) (hr : (T : Int) + (y : Int) ≤ room) (hm : room ≤ 4194304) : IntKind.i64.wrap (room - (v : Int)) = room - (v : Int) ∧ decide (room - (v : Int) < (y : Int)) = false := by
  refine ⟨?_, decide_eq_false (by omega)⟩
  have p : (2 : Int) ^ 62 = 4611686018427387904 := by decide
  exact wraps_i64' _ (by omega) (by rw [p]; omega)
theorem brow_cells {w : World} {b : Addr} {xs : List UInt8} (h : BRow w (some b) xs) (j : Nat) (u : Value) (hu : (bytesV xs)[j]? = some u) : w.cell? (b.add j) = some u := by
  have hj : j < xs.length := by have := (List.getElem?_eq_some_iff.1 hu).1; rwa [bytesV_length] at this
  obtain ⟨g, o, e, c⟩ := h j hj
  simp only [Option.some.injEq] at e
  subst e
  have hadd : (⟨g, o, none⟩ : Addr).add j = ⟨g, o + j, none⟩ := by unfold Addr.add; split <;> simp_all
  rw [hadd, c, ← hu, bytesV_at xs j hj]
theorem bytes_one (xs : List UInt8) : ∀ u ∈ bytesV xs, u.oneCell' = true := by
  intro u hu
  simp only [bytesV, List.mem_map] at hu
  obtain ⟨b, _, rfl⟩ := hu
  rfl
def AppendPost (w : World) (dk : Nat) (room : Int) (nm sm : Nat) (ch : Value) (g : Nat) (zs : List UInt8) (s st : Int) (e : Ending) (w' : World) : Prop :=
  ∃ v B, e = .returned (.int .i64 0) ∧ Disk w' dk room nm sm ch st ∧ Blk w' g 94 (fileV v s) ∧ w.heap.size ≤ B ∧ w'.ownsRow B 5 1 v zs.length (bytesV zs) ∧ Fr (fun i => i = g ∨ i = dk) w w'
theorem room_held {w1 w2 : World} {a : Addr} {v : Value} (h : w1.cell? a = some v) (hb : Below w1.heap.size w1 w2) : w2.cell? a = some v := below_cell hb h
set_option maxRecDepth 100000 in
set_option maxHeartbeats 4000000 in
theorem append_ok (dk : Nat) (room : Int) (nm sm : Nat) (ch : Value) (st : Int) (n L g : Nat) (D : DataW Unit) (l : List UInt8) (A A2 : Option Addr) (c cy : Nat) (s : Int) (xs ys : List UInt8) (hl : l.length ≤ 1000000) (w : World) (hd : Disk w dk room nm sm ch st) (hm : NMap w nm n D) (hat : D.atKey (keyL l) .nil = .lit (.int .i64 (g : Int))) (hF : Files w D L) (hT : Maps.size D * L ≤ 1000000000) (hr : ((Maps.size D * L : Nat) : Int) + (ys.length : Int) ≤ room) (hrm : room ≤ 4194304)
    (hg : Blk w g 94 (fileV (.slice A xs.length c) s)) (hA : BRow w A xs) (hAn : A = none → xs.length = 0) (hc : xs.length ≤ c) (hy : BRow w A2 ys) (hy0 : 0 < ys.length) (hgd : g ≠ dk) (hxl : xs.length ≤ 4194304) :
    Calls Tryz.prog 55 #[.pointer (some ⟨dk, 0, none⟩), strV l, .slice A2 ys.length cy] w (AppendPost w dk room nm sm ch g (xs ++ ys) s (wrap64 (st + 1))) := by
  have h1 := Lib.hid (find_ok dk room nm sm ch st n g D l hl w hd hm hat)
  have h2 := Lib.hid (fun (x : World) (hx : Drawn w x) => used_ok dk room nm sm ch st n L D x (hx.elim fun q e => by rw [e]; exact hd) (hx.elim fun q e => by rw [e]; exact hm) (hx.elim fun q e => by rw [e]; exact hF) hT)
  have c0 := hd.c0
  have g0 : w.cell? ⟨g, 0, none⟩ = some (.slice A xs.length c) := hg.cell 0
  obtain ⟨S, hS⟩ : ∃ S, strV l = .string S := ⟨_, rfl⟩
  rw [hS] at h1 ⊢
  replace hT := Lib.hid hT
  replace hr := Lib.hid hr
  replace hrm := Lib.hid hrm
  replace hF := Lib.hid hF
  replace hxl := Lib.hid hxl
  clear hS hat hl
  go_enter Tryz.func55, Tryz.ntmps55
  go_wp2_with fail
  refine h1.out.mono ?_
  rintro e w0 ⟨rfl, rfl⟩
  go_upto_region 4 with fail
  have hdr : Drawn w w.drew := ⟨1, rfl⟩
  have S0 : w.drew.cell? ⟨dk, 0, none⟩ = some (.int .i64 room) := c0
  go_region_held3 (fun w' => w'.cell? ⟨dk, 0, none⟩ = some (.int .i64 room))
    (first | (with_reducible exact S0) | (with_reducible exact S1))
    ((go_at_call 87; (with_reducible refine (h2.out _ hdr).mono ?_); rintro e x1 ⟨v, rfl, hvT, hb1⟩; have S1 := room_held S0 hb1; obtain ⟨r1, r2⟩ := room64 hvT hr.out hrm.out))
  have hyl : ys.length ≤ 4194304 := by have := hr.out; have := hrm.out; omega
  have b1 : xs.length + ys.length ≤ maxLen := by have := hxl.out; simp only [maxLen]; omega
  have b2 : (xs.length + ys.length) * 1 ≤ 140737488355328 := by have := hxl.out; omega
  replace b1 := Lib.hid b1
  replace b2 := Lib.hid b2
  clear hyl
  have hB1 : Below w.heap.size w x1 := below_chain ((Below.refl w.heap.size w).drew) hb1 (Nat.le_refl _)
  have hg1 := hg.below hB1 hg.lt
  have hd1 : Disk x1 dk room nm sm ch st := Blk.below hd hB1 (Blk.lt hd)
  have hA1 := hA.below hB1
  have hy1 := hy.below hB1
  have hglt := hg1.lt
  clear S0 S1 h2 h1 hd hm hg hA hy c0 g0 hF hT hr hrm hvT hb1
  obtain ⟨i0, hi, hzz⟩ := Option.map_eq_some_iff.1 byte_info
  simp only [Prod.mk.injEq] at hzz
  obtain ⟨hz0, hz1, hz2⟩ := hzz
  obtain ⟨ga, oa, rfl, ca⟩ := hy1 0 hy0
  have hyc := brow_cells hy1
  have g0 : x1.cell? ⟨g, 0, none⟩ = some (.slice A xs.length c) := hg1.cell 0
  have hlen := bytesV_length xs
  have hleny := bytesV_length ys
  clear ca
  rcases A with _ | a
  · have hxn := hAn rfl
    obtain rfl : xs = [] := List.eq_nil_of_length_eq_zero hxn
    have p1 : (0 : Int) ≤ (c : Int) := by omega
    simp only [List.length_nil] at g0 hg1 p1 hc
    go_upto_region 6 with fail
    go_region_law (refine step_append_grows rfl (.tmp 45) (.tmp 46) 69 rfl 5 i0 (.int .u8 0) 1 1 Tryz.underlying69 hi hz0 hz1 hz2 rfl (by decide) none 0 0 [] rfl (fun _ => ⟨rfl, rfl⟩) (by simp) (fun b hb => by simp at hb) ⟨ga, oa, none⟩ ys.length cy (bytesV ys) rfl (by rw [hleny]; omega) hyc (bytes_one ys) (by omega) (by simpa using b1.out) (by simpa using b2.out) ?_; intro v6 x6 HO6 hg6; rw [Nat.zero_add, List.nil_append] at HO6; obtain ⟨g6, cap6, rfl, hg6l, hg6u⟩ := own_shape HO6 (by omega); have F6 : Blk x6 g 94 (fileV (.slice none 0 c) s) := Blk.grown (w := x1.drew) hg1 hg6 (by simp); have q6 : x6.cell? ⟨g, 0, none⟩ = some (.slice none 0 c) := F6.cell 0; have q7 := F6.frozen 0)
    all_goals (
      have F7 : Blk (x6.setCell ⟨g, 0, none⟩ (.slice (some ⟨g6, 0, none⟩) (ys.length) cap6)) g 94 (fileV (.slice (some ⟨g6, 0, none⟩) (ys.length) cap6) s) := Blk.set_ F6 0 _
      have hg7 := grown_set x6 ⟨g, 0, none⟩ (.slice (some ⟨g6, 0, none⟩) (ys.length) cap6)
      have D6 : Disk x6 dk room nm sm ch st := Blk.grown (w := x1.drew) hd1 hg6 (by simp)
      have D7 : Disk (x6.setCell ⟨g, 0, none⟩ (.slice (some ⟨g6, 0, none⟩) (ys.length) cap6)) dk room nm sm ch st := Blk.grown D6 hg7 (by simp; omega)
      have hl6 : x1.heap.size ≤ g6 := hg6l
      have HO7 := HO6.kept hg7 (Or.inr (by simp [Value.ownBlock]; omega))
      have fr6 : Fr (fun i => i = g ∨ i = dk) w x6 := Fr.step (w1 := x1.drew) ((Fr.refl _ w).below hB1).drew hg6 (by simp)
      have fr7 := fr6.step hg7 (fun k e => by injection e with e; exact .inl (.inl e.symm))
      have hdn := Lib.hid (done_ok dk room nm sm _ st _ D7)
      generalize x6.setCell ⟨g, 0, none⟩ (.slice (some ⟨g6, 0, none⟩) (ys.length) cap6) = x7 at *
      clear F6 q6 q7 D6 HO6 g0 hyc
      go_wp2_with fail
      refine hdn.out.mono ?_
      rintro e x8 ⟨rfl, hd8, hg8⟩
      have F8 := F7.grown hg8 (by simp; omega)
      have HO8 := HO7.kept hg8 (Or.inr (by simp [Value.ownBlock]; have := Blk.lt hd1; omega))
      have fr8 := fr7.step hg8 (fun k e => by injection e with e; exact .inl (.inr e.symm))
      go_wp2_with fail
      go_ret
      exact ⟨_, _, rfl, hd8, F8, hB1.size, HO8, fr8⟩)
  · have hxc := brow_cells hA1
    have p1 : (xs.length : Int) ≤ (c : Int) := by omega
    go_upto_region 6 with fail
    go_region_law (refine step_append_grows rfl (.tmp 45) (.tmp 46) 69 rfl 5 i0 (.int .u8 0) 1 1 Tryz.underlying69 hi hz0 hz1 hz2 rfl (by decide) (some a) xs.length xs.length (bytesV xs) rfl (by simp) (by rw [hlen]; omega) (fun b hb => by injection hb with hb; rw [← hb]; exact hxc) ⟨ga, oa, none⟩ ys.length cy (bytesV ys) rfl (by rw [hleny]; omega) hyc (bytes_one ys) (by omega) b1.out b2.out ?_; intro v6 x6 HO6 hg6; obtain ⟨g6, cap6, rfl, hg6l, hg6u⟩ := own_shape HO6 (by omega); have F6 : Blk x6 g 94 (fileV (.slice (some a) xs.length c) s) := Blk.grown (w := x1.drew) hg1 hg6 (by simp); have q6 : x6.cell? ⟨g, 0, none⟩ = some (.slice (some a) xs.length c) := F6.cell 0; have q7 := F6.frozen 0)
    all_goals (
      have F7 : Blk (x6.setCell ⟨g, 0, none⟩ (.slice (some ⟨g6, 0, none⟩) (xs.length + ys.length) cap6)) g 94 (fileV (.slice (some ⟨g6, 0, none⟩) (xs.length + ys.length) cap6) s) := Blk.set_ F6 0 _
      have hg7 := grown_set x6 ⟨g, 0, none⟩ (.slice (some ⟨g6, 0, none⟩) (xs.length + ys.length) cap6)
      have D6 : Disk x6 dk room nm sm ch st := Blk.grown (w := x1.drew) hd1 hg6 (by simp)
      have D7 : Disk (x6.setCell ⟨g, 0, none⟩ (.slice (some ⟨g6, 0, none⟩) (xs.length + ys.length) cap6)) dk room nm sm ch st := Blk.grown D6 hg7 (by simp; omega)
      have hl6 : x1.heap.size ≤ g6 := hg6l
      have HO7 := HO6.kept hg7 (Or.inr (by simp [Value.ownBlock]; omega))
      have fr6 : Fr (fun i => i = g ∨ i = dk) w x6 := Fr.step (w1 := x1.drew) ((Fr.refl _ w).below hB1).drew hg6 (by simp)
      have fr7 := fr6.step hg7 (fun k e => by injection e with e; exact .inl (.inl e.symm))
      have hdn := Lib.hid (done_ok dk room nm sm _ st _ D7)
      generalize x6.setCell ⟨g, 0, none⟩ (.slice (some ⟨g6, 0, none⟩) (xs.length + ys.length) cap6) = x7 at *
      clear F6 q6 q7 D6 HO6 g0 hxc hyc
      go_wp2_with fail
      refine hdn.out.mono ?_
      rintro e x8 ⟨rfl, hd8, hg8⟩
      have F8 := F7.grown hg8 (by simp; omega)
      have HO8 := HO7.kept hg8 (Or.inr (by simp [Value.ownBlock]; have := Blk.lt hd1; omega))
      have fr8 := fr7.step hg8 (fun k e => by injection e with e; exact .inl (.inr e.symm))
      rw [← bytesV_append, ← List.length_append] at HO8
      rw [← List.length_append] at F8
      go_wp2_with fail
      go_ret
      exact ⟨_, _, rfl, hd8, F8, hB1.size, HO8, fr8⟩)
end Go.Proofs.YtejbfglaalmafaaGreatDoor
