/- The contracts of wal.put32, wal.put64, wal.sealed, wal.head. -/
import Derived.Test.YtejbfglaalmafaaGreatDoorLPut
namespace Go.Proofs.YtejbfglaalmafaaGreatDoor
open Go.RowKit
set_option linter.unusedVariables false

section
variable {P : Program} {ops : Array Oper} {rest : List Oper} {o : Oper} {a : Act} {Q : Exit → Act → World → Prop}
/-- 'append(v, y0, y1, y2, y3)', bytes. -/
theorem append_four {W : World} (base : Nat) (hgd : o.guard = none) (s x : Operand) (t e : TypeId)
    (ho : o.op = .call { callee := .builtin .append, args := #[s, x], argTypes := #[t, t] })
    (ht : P.underlying t = some (.slice e)) (hinfo : (P.info? e).map (fun i => (i.zero, i.size, i.bytes)) = some (some (.int .u8 0), 1, 1))
    (v : Value) (n : Nat) (xs : List Value) (y0 y1 y2 y3 : Int) (hs : a.eval s = v) (hx : a.eval x = .slice (some ⟨W.heap.size, 0, none⟩) 4 4)
    (HO : W.ownsRow base e 1 v n xs) (hbase : base ≤ W.heap.size) (hl : n + 4 ≤ 140737488355328)
    (h : ∀ v1 w1, w1.ownsRow base e 1 v1 (n + 4) (xs ++ [.int .u8 y0, .int .u8 y1, .int .u8 y2, .int .u8 y3]) → W.grownBy w1 v.ownBlock → (v1.ownBlock = v.ownBlock ∨ v1.ownBlock = some (W.heap.size + 1)) → wpList P ops Q rest (a.put o.dst v1) w1) :
    wpList P ops Q (o :: rest) a (W.alloc (.cells #[.int .u8 y0, .int .u8 y1, .int .u8 y2, .int .u8 y3] e)) := by
  obtain ⟨i0, hi, hzz⟩ := Option.map_eq_some_iff.1 hinfo
  simp only [Prod.mk.injEq] at hzz
  obtain ⟨hz0, hz1, hz2⟩ := hzz
  have hB := Blk.new W e #[.int .u8 y0, .int .u8 y1, .int .u8 y2, .int .u8 y3]
  refine wpList_append_own_at (W.alloc (.cells #[.int .u8 y0, .int .u8 y1, .int .u8 y2, .int .u8 y3] e)) hgd s x t ho base e i0 (.int .u8 0) 1 1 ht hi hz0 hz1 hz2 rfl (by omega) v n xs hs (HO.alloc _) ⟨W.heap.size, 0, none⟩ 4 4 [.int .u8 y0, .int .u8 y1, .int .u8 y2, .int .u8 y3] hx rfl
    (fun j u hu => ?_) (fun u hu => ?_) (by simp only [maxLen]; omega) (by omega) (by simp; omega) ?_
  · have hadd : (⟨W.heap.size, 0, none⟩ : Addr).add j = ⟨W.heap.size, j, none⟩ := by unfold Addr.add; split <;> simp_all
    rw [hadd, hB.cell j]
    simpa using hu
  · simp at hu
    rcases hu with rfl | rfl | rfl | rfl <;> rfl
  · intro v1 w1 hown hg _ hat
    refine h v1 w1 hown ?_ (by simpa using hat)
    exact ⟨hg.os, hg.tape, hg.output, Nat.le_trans (by simp) hg.size, fun k hk hne => (hg.block k (by simp; omega) hne).trans (Below.heap_alloc W _ k hk)⟩
end
theorem bytes_four (xs : List UInt8) (x : Int) : bytesV xs ++ [.int .u8 (x % 256), .int .u8 (x / 256 % 256), .int .u8 (x / 65536 % 256), .int .u8 (x / 16777216 % 256)] = bytesV (xs ++ leB 4 x) := by
  have e : leB 4 x = [byteI x, byteI (x / 256), byteI (x / 65536), byteI (x / 16777216)] := by simp [leB, List.range_succ]
  rw [e, bytesV_append]
  simp [bytesV, byteI_val]
theorem OwnPost.trans {B : Nat} {w w1 : World} {v v1 : Value} {ys : List UInt8} {e : Ending} {w2 : World} (hg : w.grownBy w1 v.ownBlock) (hat : v1.ownBlock = v.ownBlock ∨ ∃ q, v1.ownBlock = some q ∧ w.heap.size ≤ q) (h : OwnPost B w1 v1 ys e w2) : OwnPost B w v ys e w2 := by
  obtain ⟨v2, h1, h2, h3, h4⟩ := h
  exact ⟨v2, h1, h2, grown_chain hg h3 hat, at_chain hg.size hat h4⟩
theorem put32_any (B : Nat) (v : Value) (xs : List UInt8) (x : Int) (hx : 0 ≤ x ∧ x < 4294967296) (w : World) (HO : w.ownsRow B 5 1 v xs.length (bytesV xs)) (hB : B ≤ w.heap.size) (hl : xs.length ≤ 1000000000) :
    Calls Tryz.prog 90 #[v, .int .u32 x] w (OwnPost B w v (xs ++ leB 4 x)) := by
  obtain ⟨x0, x1⟩ := hx
  have hb := bytes_four xs x
  have hlen : (xs ++ leB 4 x).length = xs.length + 4 := by rw [List.length_append, leB_length]
  replace hb := Lib.hid hb
  replace hlen := Lib.hid hlen
  clear x1
  go_enter Tryz.func90, Tryz.ntmps90
  go_wp2_with (at_builtin; refine append_four B rfl (.tmp 5) (.tmp 17) _ 5 rfl Tryz.underlying69 byte_info v xs.length _ (x % 256) (x / 256 % 256) (x / 65536 % 256) (x / 16777216 % 256) rfl rfl HO hB (by omega) ?_; intro v1 w1 HO1 hg1 hat1)
  rw [hb.out, ← hlen.out] at HO1
  go_ret
  exact ⟨_, rfl, HO1, hg1, at_new hat1⟩
theorem leB_eight {x : Int} (h : 0 ≤ x ∧ x < 18446744073709551616) : leB 4 (x % 4294967296) ++ leB 4 (x / 4294967296 % 4294967296) = leB 8 x := by
  have e : ∀ y : Int, leB 4 y = [byteI y, byteI (y / 256), byteI (y / 65536), byteI (y / 16777216)] := fun y => by simp [leB, List.range_succ]
  have e8 : leB 8 x = [byteI x, byteI (x / 256), byteI (x / 65536), byteI (x / 16777216), byteI (x / 4294967296), byteI (x / 1099511627776), byteI (x / 281474976710656), byteI (x / 72057594037927936)] := by simp [leB, List.range_succ]
  rw [e, e, e8]
  have hb : ∀ a b : Int, a % 256 = b % 256 → byteI a = byteI b := fun a b h => by rw [byteI, byteI, h]
  simp only [List.cons_append, List.nil_append, List.cons.injEq, and_true]
  refine ⟨hb _ _ ?_, hb _ _ ?_, hb _ _ ?_, hb _ _ ?_, hb _ _ ?_, hb _ _ ?_, hb _ _ ?_, hb _ _ ?_⟩ <;> omega
theorem put64_any (B : Nat) (v : Value) (xs : List UInt8) (x : Int) (hx : 0 ≤ x ∧ x < 18446744073709551616) (w : World) (HO : w.ownsRow B 5 1 v xs.length (bytesV xs)) (hB : B ≤ w.heap.size) (hl : xs.length ≤ 100000000) :
    Calls Tryz.prog 89 #[v, .int .u64 x] w (OwnPost B w v (xs ++ leB 8 x)) := by
  have h1 := Lib.hid (put32_any B v xs (x % 4294967296) (by omega) w HO hB (by omega))
  have h2 := Lib.hid (fun v1 w1 (HO1 : w1.ownsRow B 5 1 v1 (xs ++ leB 4 (x % 4294967296)).length (bytesV (xs ++ leB 4 (x % 4294967296)))) (hB1 : B ≤ w1.heap.size) => put32_any B v1 (xs ++ leB 4 (x % 4294967296)) (x / 4294967296 % 4294967296) (by omega) w1 HO1 hB1 (by rw [List.length_append, leB_length]; omega))
  rw [List.append_assoc, leB_eight hx] at h2
  clear hx
  go_enter Tryz.func89, Tryz.ntmps89
  go_wp2_with fail
  refine h1.out.mono ?_
  rintro e w1 ⟨v1, rfl, HO1, hg1, hat1⟩
  go_wp2_with fail
  refine (h2.out v1 w1 HO1 (Nat.le_trans hB hg1.size)).mono ?_
  intro e w2 hp
  obtain ⟨v2, rfl, HO2, hg2, hat2⟩ := OwnPost.trans hg1 hat1 hp
  go_wp2_with fail
  go_ret
  exact ⟨v2, rfl, HO2, hg2, hat2⟩
theorem own_brow {w : World} {B g n cap : Nat} {l : List UInt8} (h : w.ownsRow B 5 1 (.slice (some ⟨g, 0, none⟩) n cap) n (bytesV l)) : BRow w (some ⟨g, 0, none⟩) l := fun j hj => by
  refine ⟨g, 0, rfl, ?_⟩
  have hn := h.1
  rw [bytesV_length] at hn
  rw [Nat.zero_add, h.cellAt j (by omega)]
  exact bytesV_at l j hj
theorem sealed_any (B : Nat) (v : Value) (xs : List UInt8) (h0 : 0 < xs.length) (w : World) (HO : w.ownsRow B 5 1 v xs.length (bytesV xs)) (hB : B ≤ w.heap.size) (hl : xs.length ≤ 100000000) :
    Calls Tryz.prog 88 #[v] w (OwnPost B w v (xs ++ leB 4 (crcN xs))) := by
  obtain ⟨g, cap, rfl, hg1, hg2⟩ := own_shape HO h0
  have h1 := Lib.hid (sum_any (some ⟨g, 0, none⟩) xs cap (by omega) w (own_brow HO))
  have h2 := Lib.hid (put32_any B _ xs (crcN xs) (crcN_range xs) w HO hB (by omega))
  generalize xs ++ leB 4 (crcN xs) = ys at *
  generalize crcN xs = c at *
  go_enter Tryz.func88, Tryz.ntmps88
  go_wp2_with fail
  refine h1.out.mono ?_
  rintro e w1 ⟨rfl, rfl⟩
  go_wp2_with fail
  refine h2.out.mono ?_
  rintro e w2 ⟨v2, rfl, HO2, hg3, hat2⟩
  go_wp2_with fail
  go_ret
  exact ⟨v2, rfl, HO2, hg3, hat2⟩
/-- A segment's head. -/
def headB (first : Int) : List UInt8 := (leB 4 1818326888 ++ leB 8 first) ++ leB 4 (crcN (leB 4 1818326888 ++ leB 8 first))
theorem headB_length (first : Int) : (headB first).length = 16 := by simp [headB, leB_length]
end Go.Proofs.YtejbfglaalmafaaGreatDoor
