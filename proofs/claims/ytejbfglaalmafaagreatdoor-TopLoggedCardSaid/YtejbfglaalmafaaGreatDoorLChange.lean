/- The contract of (*Disk).change, for a name that is new. -/
import Derived.Test.YtejbfglaalmafaaGreatDoorLDo
import Derived.Deep.AppendLies
import Derived.Deep.RegionLaw
namespace Go.Proofs.YtejbfglaalmafaaGreatDoor
open Go.RowKit
open Go.Maps (Keyed)
set_option linter.unusedVariables false

theorem chg_info : (Tryz.prog.info? 90).map (fun i => (i.zero, i.size, i.bytes)) = some (some (.agg #[.string ByteArray.empty, .string ByteArray.empty, .pointer none]), 3, 40) := by kernel_rfl
section
variable {P : Program} {ops : Array Oper} {rest : List Oper} {o : Oper} {a : Act} {Q : Exit → Act → World → Prop}
/-- 'append(v, x)', x of three cells; the goal's world holds x's own box already. -/
theorem append_three {W : World} (base : Nat) (hgd : o.guard = none) (s x : Operand) (t e : TypeId) (z : Value) (bytes : Nat)
    (ho : o.op = .call { callee := .builtin .append, args := #[s, x], argTypes := #[t, t] })
    (ht : P.underlying t = some (.slice e)) (hinfo : (P.info? e).map (fun i => (i.zero, i.size, i.bytes)) = some (some z, 3, bytes)) (hz : z.cells.size = 3)
    (v : Value) (n : Nat) (xs : List Value) (y0 y1 y2 : Value) (hs : a.eval s = v) (hx : a.eval x = .slice (some ⟨W.heap.size, 0, none⟩) 1 1) (h0 : y0.oneCell' = true) (h1 : y1.oneCell' = true) (h2 : y2.oneCell' = true)
    (HO : W.ownsRow base e 3 v n xs) (hbase : base ≤ W.heap.size) (hn : n + 1 ≤ maxLen) (hl : (n + 1) * bytes ≤ 140737488355328)
    (h : ∀ v1 w1, w1.ownsRow base e 3 v1 (n + 1) (xs ++ [y0, y1, y2]) → W.grownBy w1 v.ownBlock → (v1.ownBlock = v.ownBlock ∨ v1.ownBlock = some (W.heap.size + 1)) → wpList P ops Q rest (a.put o.dst v1) w1) :
    wpList P ops Q (o :: rest) a (W.alloc (.cells #[y0, y1, y2] e)) := by
  obtain ⟨i0, hi, hzz⟩ := Option.map_eq_some_iff.1 hinfo
  simp only [Prod.mk.injEq] at hzz
  obtain ⟨hz0, hz1, hz2⟩ := hzz
  have hB := Blk.new W e #[y0, y1, y2]
  refine wpList_append_own_at (W.alloc (.cells #[y0, y1, y2] e)) hgd s x t ho base e i0 z 3 bytes ht hi hz0 hz1 hz2 hz (by omega) v n xs hs (HO.alloc _) ⟨W.heap.size, 0, none⟩ 1 1 [y0, y1, y2] hx rfl
    (fun j u hu => ?_) (fun u hu => ?_) hn hl (by simp; omega) ?_
  · have hadd : (⟨W.heap.size, 0, none⟩ : Addr).add j = ⟨W.heap.size, j, none⟩ := by unfold Addr.add; split <;> simp_all
    rw [hadd, hB.cell j]
    simpa using hu
  · simp at hu
    rcases hu with rfl | rfl | rfl
    · exact h0
    · exact h1
    · exact h2
  · intro v1 w1 hown hg _ hat
    refine h v1 w1 hown ?_ (by simpa using hat)
    exact ⟨hg.os, hg.tape, hg.output, Nat.le_trans (by simp) hg.size, fun k hk hne => (hg.block k (by simp; omega) hne).trans (Below.heap_alloc W _ k hk)⟩
end
/-- .. as one step of a region that draws its order. -/
theorem step_append_three {P : Program} {ops : Array Oper} {o : Oper} {a : Act} {K : Act → World → Prop} {Q : Exit → Act → World → Prop} {E : Prop} {W : World} (base : Nat) (hgd : o.guard = none) (s x : Operand) (t e : TypeId) (z : Value) (bytes : Nat)
    (ho : o.op = .call { callee := .builtin .append, args := #[s, x], argTypes := #[t, t] })
    (ht : P.underlying t = some (.slice e)) (hinfo : (P.info? e).map (fun i => (i.zero, i.size, i.bytes)) = some (some z, 3, bytes)) (hz : z.cells.size = 3) (hb0 : 0 < bytes)
    (v : Value) (n : Nat) (xs : List Value) (y0 y1 y2 : Value) (hs : a.eval s = v) (hx : a.eval x = .slice (some ⟨W.heap.size, 0, none⟩) 1 1) (h0 : y0.oneCell' = true) (h1 : y1.oneCell' = true) (h2 : y2.oneCell' = true)
    (HO : W.ownsRow base e 3 v n xs) (hbase : base ≤ W.heap.size) (hl : (n + 1) * bytes ≤ 140737488355328)
    (h : ∀ g cap w1, w1.ownsRow base e 3 (.slice (some ⟨g, 0, none⟩) (n + 1) cap) (n + 1) (xs ++ [y0, y1, y2]) → W.grownBy w1 v.ownBlock → (v.ownBlock = some g ∨ g = W.heap.size + 1) → K (a.put o.dst (.slice (some ⟨g, 0, none⟩) (n + 1) cap)) w1) :
    if Region.wanted o (yielded ops a.tmps) = true then Oper.wp P o a (W.alloc (.cells #[y0, y1, y2] e)) K Q else E := by
  obtain ⟨i0, hi, hzz⟩ := Option.map_eq_some_iff.1 hinfo
  simp only [Prod.mk.injEq] at hzz
  obtain ⟨hz0, hz1, hz2⟩ := hzz
  have hlen : n + 1 ≤ 140737488355328 := Nat.le_trans (Nat.le_mul_of_pos_right _ hb0) hl
  have hB := Blk.new W e #[y0, y1, y2]
  refine step_append_lies (W.alloc (.cells #[y0, y1, y2] e)) hgd s x t ho base e i0 z 3 bytes ht hi hz0 hz1 hz2 hz (by omega) v n xs hs (HO.alloc _) ⟨W.heap.size, 0, none⟩ 1 1 [y0, y1, y2] hx rfl
    (fun j u hu => ?_) (fun u hu => ?_) (by omega) (by simp only [maxLen]; omega) hl (by simp; omega) (W.heap.size + 1) (by simp) ?_
  · have hadd : (⟨W.heap.size, 0, none⟩ : Addr).add j = ⟨W.heap.size, j, none⟩ := by unfold Addr.add; split <;> simp_all
    rw [hadd, hB.cell j]
    simpa using hu
  · simp at hu
    rcases hu with rfl | rfl | rfl
    · exact h0
    · exact h1
    · exact h2
  · intro g cap w1 hown hg hat _
    refine h g cap w1 hown ?_ hat
    exact ⟨hg.os, hg.tape, hg.output, Nat.le_trans (by simp) hg.size, fun k hk hne => (hg.block k (by simp; omega) hne).trans (Below.heap_alloc W _ k hk)⟩
/-- The changes that are not safe yet: a slice of the disk's own. -/
def Chs (w : World) (B : Nat) (ch : Value) (k : Nat) : Prop := ∃ xs, w.ownsRow B 90 3 ch k xs
theorem four_held {w1 w2 : World} {r : Option Nat} {a1 a2 a3 a4 : Addr} {v1 v2 v3 v4 : Value} (h : w1.cell? a1 = some v1 ∧ w1.cell? a2 = some v2 ∧ w1.cell? a3 = some v3 ∧ w1.cell? a4 = some v4) (hb : w1.grownBy w2 r)
    (n1 : some a1.block ≠ r) (n2 : some a2.block ≠ r) (n3 : some a3.block ≠ r) (n4 : some a4.block ≠ r) :
    w2.cell? a1 = some v1 ∧ w2.cell? a2 = some v2 ∧ w2.cell? a3 = some v3 ∧ w2.cell? a4 = some v4 := ⟨hb.cell h.1 n1, hb.cell h.2.1 n2, hb.cell h.2.2.1 n3, hb.cell h.2.2.2 n4⟩
/-- Only blocks of own turn, and new ones. -/
structure Fr (own : Nat → Prop) (w w' : World) : Prop where
  os : w'.os = w.os
  tape : w'.tape = w.tape
  output : w'.output = w.output
  size : w.heap.size ≤ w'.heap.size
  block : ∀ i, i < w.heap.size → ¬ own i → w'.heap[i]? = w.heap[i]?
theorem Fr.refl (own : Nat → Prop) (w : World) : Fr own w w := ⟨rfl, rfl, rfl, Nat.le_refl _, fun _ _ _ => rfl⟩
theorem Fr.step {own : Nat → Prop} {w w1 w2 : World} {row : Option Nat} (h : Fr own w w1) (hg : w1.grownBy w2 row) (hr : ∀ k, row = some k → own k ∨ w.heap.size ≤ k) : Fr own w w2 :=
  ⟨hg.os.trans h.os, hg.tape.trans h.tape, hg.output.trans h.output, Nat.le_trans h.size hg.size, fun i hi hn => (hg.block i (Nat.lt_of_lt_of_le hi h.size) (fun e => by
    rcases hr i e.symm with h1 | h1
    · exact hn h1
    · omega)).trans (h.block i hi hn)⟩
theorem Fr.drew {own : Nat → Prop} {w w1 : World} (h : Fr own w w1) : Fr own w w1.drew := ⟨h.os, h.tape, h.output, h.size, h.block⟩
/-- own, and all that is new. -/
def grow (own : Nat → Prop) (w w' : World) (i : Nat) : Prop := own i ∨ (w.heap.size ≤ i ∧ i < w'.heap.size)
theorem Fr.trans {own : Nat → Prop} {w w1 w2 : World} (h : Fr own w w1) (k : Fr (grow own w w1) w1 w2) : Fr own w w2 :=
  ⟨k.os.trans h.os, k.tape.trans h.tape, k.output.trans h.output, Nat.le_trans h.size k.size, fun i hi hn => (k.block i (Nat.lt_of_lt_of_le hi h.size) (fun e => by
    rcases e with h1 | h1
    · exact hn h1
    · omega)).trans (h.block i hi hn)⟩
def ChangePost (own : Nat → Prop) (w : World) (dk : Nat) (room : Int) (nm sm B n k : Nat) (D : DataW Unit) (l : List UInt8) (g : Nat) (st : Int) (e : Ending) (w' : World) : Prop :=
  ∃ ch, e = .returned (.int .i64 0) ∧ Disk w' dk room nm sm ch st ∧ NMap w' nm (n + 1) (D.put (keyL l) (.lit (.int .i64 (g : Int)))) ∧ Chs w' B ch (k + 1) ∧ Fr own w w' ∧ ∀ i, ch.ownBlock = some i → grow own w w' i
set_option maxRecDepth 100000 in
set_option maxHeartbeats 4000000 in
theorem change_ok (own : Nat → Prop) (dk : Nat) (room : Int) (nm sm : Nat) (ch : Value) (st : Int) (B n k g : Nat) (D : DataW Unit) (l : List UInt8) (h0 : 0 < l.length) (hl : l.length ≤ 1000000) (hn : n ≤ 1000000) (hk : k ≤ 1000000) (w : World) (hd : Disk w dk room nm sm ch st) (hm : NMap w nm n D) (hc : Chs w B ch k) (hB : B ≤ w.heap.size) (hne : nm ≠ dk) (hch : ch.ownBlock = none ∨ ch.ownBlock ≠ some nm) (hcd : ch.ownBlock ≠ some dk) (ho1 : own dk) (ho2 : own nm) (ho3 : ∀ i, ch.ownBlock = some i → own i) :
    Calls Tryz.prog 83 #[.pointer (some ⟨dk, 0, none⟩), .agg (chg l g)] w (ChangePost own w dk room nm sm B n k D l g (wrap64 (st + 1))) := by
  obtain ⟨xs, HO⟩ := hc
  replace hch := Lib.hid hch
  replace hcd := Lib.hid hcd
  replace ho3 := Lib.hid ho3
  obtain ⟨S, hS⟩ : ∃ S, strV l = .string S := ⟨_, rfl⟩
  have hcg : chg l g = #[.string ⟨#[]⟩, .string S, .pointer (some ⟨g, 0, none⟩)] := by rw [chg, hS]
  have hD := Lib.hid (fun x hx => do_ok nm n g D l h0 hl hn x hx)
  rw [hcg] at hD ⊢
  have hbk := Blk.new w 90 #[.string ⟨#[]⟩, .string S, .pointer (some ⟨g, 0, none⟩)]
  clear hS hcg
  have hdlt := Blk.lt hd
  have hmlt := World.ownsMap.lt hm
  have hd1 : Disk (w.alloc (.cells #[.string ⟨#[]⟩, .string S, .pointer (some ⟨g, 0, none⟩)] 90)) dk room nm sm ch st := Blk.alloc hd _
  have hm1 : NMap (w.alloc (.cells #[.string ⟨#[]⟩, .string S, .pointer (some ⟨g, 0, none⟩)] 90)) nm n D := World.ownsMap.alloc hm _
  have HO1 := HO.alloc (.cells #[.string ⟨#[]⟩, .string S, .pointer (some ⟨g, 0, none⟩)] 90)
  have fr0 : Fr own w (w.alloc (.cells #[.string ⟨#[]⟩, .string S, .pointer (some ⟨g, 0, none⟩)] 90)) := (Fr.refl own w).step (grown_alloc w _) (by simp)
  go_enter Tryz.func83, Tryz.ntmps83
  go_upto_region 1 with fail
  generalize w.alloc (.cells #[.string ⟨#[]⟩, .string S, .pointer (some ⟨g, 0, none⟩)] 90) = w0 at *
  have S00 : w0.cell? ⟨dk, 1, none⟩ = some (.map (some nm)) ∧ w0.cell? ⟨w.heap.size, 0, none⟩ = some (.string ⟨#[]⟩) ∧ w0.cell? ⟨w.heap.size, 1, none⟩ = some (.string S) ∧ w0.cell? ⟨w.heap.size, 2, none⟩ = some (.pointer (some ⟨g, 0, none⟩)) := ⟨hd1.c1, hbk.cell 0, hbk.cell 1, hbk.cell 2⟩
  have S0 : w0.drew.cell? ⟨dk, 1, none⟩ = some (.map (some nm)) ∧ w0.drew.cell? ⟨w.heap.size, 0, none⟩ = some (.string ⟨#[]⟩) ∧ w0.drew.cell? ⟨w.heap.size, 1, none⟩ = some (.string S) ∧ w0.drew.cell? ⟨w.heap.size, 2, none⟩ = some (.pointer (some ⟨g, 0, none⟩)) := S00
  have hm2 : NMap w0.drew nm n D := hm1
  go_region_held3 (fun w' => w'.cell? ⟨dk, 1, none⟩ = some (.map (some nm)) ∧ w'.cell? ⟨w.heap.size, 0, none⟩ = some (.string ⟨#[]⟩) ∧ w'.cell? ⟨w.heap.size, 1, none⟩ = some (.string S) ∧ w'.cell? ⟨w.heap.size, 2, none⟩ = some (.pointer (some ⟨g, 0, none⟩)))
    (first | (with_reducible exact S0) | (with_reducible exact S1))
    ((go_at_call 33; (with_reducible refine (hD.out _ hm2).mono ?_); rintro e x1 ⟨rfl, hm3, hg3⟩; have S1 := four_held S0 hg3 (by simp; omega) (by simp; omega) (by simp; omega) (by simp; omega)))
  have fr1 : Fr own w x1 := Fr.step (w1 := w0.drew) fr0.drew hg3 (fun k e => by injection e with e; rw [← e]; exact .inl ho2)
  have hd3 : Disk x1 dk room nm sm ch st := Blk.grown (w := w0.drew) hd1 hg3 (by simp; omega)
  have hb3 : Blk x1 w.heap.size 90 #[.string ⟨#[]⟩, .string S, .pointer (some ⟨g, 0, none⟩)] := Blk.grown (w := w0.drew) hbk hg3 (by simp; omega)
  have HO3 : x1.ownsRow B 90 3 ch k xs := World.ownsRow.kept (w := w0.drew) HO1 hg3 hch.out
  have hk40 : (k + 1) * 40 ≤ 140737488355328 := by omega
  replace hk40 := Lib.hid hk40
  have hBx : B ≤ x1.heap.size := by have h1 := hg3.size; have h2 := hbk.lt; simp at h1; omega
  have d3 := hd3.c3
  have f3 := hd3.free 3
  obtain ⟨-, y0, y1, y2⟩ := S1
  clear S0 S00 hD hm2 hm1 hd1 hbk HO HO1 hd hm
  have HO4 : x1.drew.ownsRow B 90 3 ch k xs := HO3
  have hBd : B ≤ x1.drew.heap.size := hBx
  have hlt1 : dk < x1.heap.size := Blk.lt hd3
  have hlt2 : w.heap.size < x1.heap.size := hb3.lt
  have e0 := (grown_alloc x1.drew (.cells #[.string ⟨#[]⟩, .string S, .pointer (some ⟨g, 0, none⟩)] 90)).cell (a := ⟨dk, 3, none⟩) d3 (by simp)
  go_upto_region 2 with fail
  go_region_law (refine step_append_three B rfl (.tmp 15) (.tmp 17) 55 90 (.agg #[.string ByteArray.empty, .string ByteArray.empty, .pointer none]) 40 rfl Tryz.underlying55 chg_info rfl (by omega) ch k xs (.string ⟨#[]⟩) (.string S) (.pointer (some ⟨g, 0, none⟩)) rfl rfl rfl rfl rfl HO4 hBd hk40.out ?_; intro g6 cap6 x6 HO6 hg6 hat6; have D6 : Disk x6 dk room nm sm ch st := Blk.grown (w := x1.drew) hd3 hg6 (fun e => hcd.out e.symm); have d6 := D6.c3; have f6 := D6.free 3)
  all_goals (
    have fr6 : Fr own w x6 := Fr.step (w1 := x1.drew) fr1.drew hg6 (fun k e => .inl (ho3.out k e))
    have D7 : Disk (x6.setCell ⟨dk, 3, none⟩ (.slice (some ⟨g6, 0, none⟩) (k + 1) cap6)) dk room nm sm (.slice (some ⟨g6, 0, none⟩) (k + 1) cap6) st := Blk.set_ D6 3 _
    have hg7 := grown_set x6 ⟨dk, 3, none⟩ (.slice (some ⟨g6, 0, none⟩) (k + 1) cap6)
    have fr7 := fr6.step hg7 (fun k e => by injection e with e; rw [← e]; exact .inl ho1)
    have hbw := fr6.size
    have ho7 : own g6 ∨ (w.heap.size ≤ g6 ∧ g6 < x6.heap.size) := hat6.elim (fun h => .inl (ho3.out g6 h)) (fun h => .inr ⟨by have := fr1.size; simp at h; omega, (own_lt' HO6 g6 rfl).2⟩)
    have hs67 := hg7.size
    have hm6 : NMap x6 nm (n + 1) (D.put (keyL l) (.lit (.int .i64 (g : Int)))) := World.ownsMap.kept (w := x1.drew) hm3 hg6 (fun e => hch.out.elim (fun h => by rw [h] at e; simp at e) (fun h => h e.symm))
    have hm7 : NMap (x6.setCell ⟨dk, 3, none⟩ (.slice (some ⟨g6, 0, none⟩) (k + 1) cap6)) nm (n + 1) (D.put (keyL l) (.lit (.int .i64 (g : Int)))) := World.ownsMap.kept hm6 hg7 (by simp; exact hne)
    have hg6d : g6 ≠ dk := fun e => hat6.elim (fun h => hcd.out (by rw [h, e])) (fun h => by simp at h; omega)
    have HO7 := HO6.kept hg7 (Or.inr (by simp [Value.ownBlock]; exact hg6d))
    have hdn := Lib.hid (done_ok dk room nm sm _ st _ D7)
    generalize x6.setCell ⟨dk, 3, none⟩ (.slice (some ⟨g6, 0, none⟩) (k + 1) cap6) = x7 at *
    clear D6 d6 f6 hm6 hm3 HO6 d3 f3 y0 y1 y2 e0 HO3 HO4
    go_wp2_with fail
    refine hdn.out.mono ?_
    rintro e x8 ⟨rfl, hd8, hg8⟩
    have hm8 : NMap x8 nm (n + 1) (D.put (keyL l) (.lit (.int .i64 (g : Int)))) := World.ownsMap.kept hm7 hg8 (by simp; exact hne)
    have HO8 := HO7.kept hg8 (Or.inr (by simp [Value.ownBlock]; exact hg6d))
    go_wp2_with fail
    go_ret
    have fr8 := fr7.step hg8 (fun k e => by injection e with e; rw [← e]; exact .inl ho1)
    have hs78 := hg8.size
    refine ⟨_, rfl, hd8, hm8, ⟨_, HO8⟩, fr8, fun i hi => ?_⟩
    simp only [Value.ownBlock, Option.some.injEq] at hi
    rw [← hi]
    exact ho7.imp id (fun h => ⟨h.1, by omega⟩))
end Go.Proofs.YtejbfglaalmafaaGreatDoor
