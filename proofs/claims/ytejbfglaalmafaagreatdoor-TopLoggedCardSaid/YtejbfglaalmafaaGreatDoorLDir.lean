/- The contracts of SyncDir, Names, Read on a disk that holds a log's segments. -/
import Derived.Test.YtejbfglaalmafaaGreatDoorLOps
import Derived.Test.YtejbfglaalmafaaGreatDoorLShelf
import Derived.Shelf.SlMaps.Clone
namespace Go.Proofs.YtejbfglaalmafaaGreatDoor
open Go.RowKit
set_option linter.unusedVariables false

set_option maxRecDepth 100000 in
set_option maxHeartbeats 4000000 in
theorem clone_map (b : Nat) (es : Array MapEntry) (clock : Nat) (w : World) (hb : w.heap[b]? = some (.map es clock)) :
    Calls Tryz.prog 31 #[.map (some b)] w fun e w' => e = .returned (.map (some w.heap.size)) ∧ w' = w.alloc (.map es clock) := by
  have hq := fun w => run_eql_map_nil_sl (P := Tryz.prog) w 54 _ _ (some b) Tryz.underlying54
  go_enter Tryz.func31, Tryz.ntmps31
  go_wp2_with fail
  rw [run_callFunc_extern Tryz.func59 (by kernel_rfl) (by kernel_rfl) (by kernel_rfl) (e := Extern.MapsClone.clone) (by kernel_rfl), run_maps_clone_sl w 54 hb]
  simp only [Result.andThen]
  rw [Oper.upon_value]
  go_wp2_with fail
  rw [run_typeAssert_map_sl _ 54 20 _ _ _ Tryz.underlying54]
  simp only [Result.andThen]
  rw [Oper.upon_value]
  go_wp2_with fail
  go_ret
  exact ⟨rfl, rfl⟩
theorem clone_ok (b n : Nat) (D : DataW Unit) (w : World) (h : NMap w b n D) :
    Calls Tryz.prog 31 #[.map (some b)] w fun e w' => e = .returned (.map (some w.heap.size)) ∧ NMap w' w.heap.size n D ∧ w.heap.size < w'.heap.size ∧ Below w.heap.size w w' := by
  obtain ⟨es, clock, hb, F, hs, hD⟩ := h
  refine (clone_map b es clock w hb).mono fun e w' ⟨he, hw⟩ => ?_
  subst hw
  exact ⟨he, ⟨es, clock, (MapKept.heap_alloc w _).1, F, hs, hD⟩, by simp, (Below.refl _ w).alloc (Nat.le_refl _) _⟩
def DirP (w : World) (b nm dk k : Nat) (G : Nat → Nat) (S : Nat → List UInt8) (F : Nat → Bool) (N : Nat) (e : Ending) (w' : World) : Prop := e = .returned (.int .i64 0) ∧ DS w' b nm dk k G S F false N ∧ Ty b diskT (fun _ => False) w w'
set_option maxRecDepth 100000 in
set_option maxHeartbeats 4000000 in
theorem dsyncdir {w : World} {b nm dk k : Nat} {G : Nat → Nat} {S : Nat → List UInt8} {F : Nat → Bool} {Z : Bool} {N : Nat} (h : DS w b nm dk k G S F Z N) :
    Calls Tryz.prog 29 #[.pointer (some ⟨dk, 0, none⟩)] w (DirP w b nm dk k G S F N) := by
  obtain ⟨sm, ch, st, n, ns, D2, kk, h⟩ := h
  have h1 := Lib.hid (ready_ok dk 4194304 nm sm ch st w h.hd)
  have h2 := Lib.hid (clone_ok nm n _ w h.hm)
  have c1 := Disk.c1 h.hd
  go_enter Tryz.func29, Tryz.ntmps29
  go_wp2_with fail
  refine h1.out.mono ?_
  rintro e w0 ⟨rfl, rfl⟩
  go_wp2_with fail
  refine h2.out.mono ?_
  rintro e w1 ⟨rfl, hm1, hl1, hb1⟩
  have hd1 : Disk w1 dk 4194304 nm sm ch st := Blk.below h.hd hb1 (Blk.lt h.hd)
  have f2 := Disk.free hd1 2
  have c2 := Disk.c2 hd1
  have hd2 : Disk (w1.setCell ⟨dk, 2, none⟩ (.map (some w.heap.size))) dk 4194304 nm w.heap.size ch st := Blk.set_ hd1 2 _
  have hd3 : Disk ((w1.setCell ⟨dk, 2, none⟩ (.map (some w.heap.size))).setCell ⟨dk, 3, none⟩ (.slice none 0 0)) dk 4194304 nm w.heap.size (.slice none 0 0) st := Blk.set_ hd2 3 _
  have c3 := Disk.c3 hd2
  have f3 := Disk.free hd2 3
  have hg3 : w.grownBy ((w1.setCell ⟨dk, 2, none⟩ (.map (some w.heap.size))).setCell ⟨dk, 3, none⟩ (.slice none 0 0)) (some dk) := grown_trans (grown_of_below hb1 _) (grown_trans (grown_set w1 _ _) (grown_set _ _ _))
  have hm3 : NMap ((w1.setCell ⟨dk, 2, none⟩ (.map (some w.heap.size))).setCell ⟨dk, 3, none⟩ (.slice none 0 0)) w.heap.size n (DK k G) := World.ownsMap.kept hm1 (grown_trans (grown_set w1 ⟨dk, 2, none⟩ _) (grown_set _ ⟨dk, 3, none⟩ _)) (by simp; have := Blk.lt h.hd; omega)
  have h3 := Lib.hid (done_ok dk 4194304 nm w.heap.size _ st _ hd3)
  clear h1 h2 hd3 hd2
  go_wp2_with fail
  refine h3.out.mono ?_
  rintro e w4 ⟨rfl, hd4, hg4⟩
  have hm4 : NMap w4 w.heap.size n (DK k G) := World.ownsMap.kept hm3 hg4 (by simp; have := Blk.lt h.hd; omega)
  have hT : Ty b diskT (fun _ => False) w w4 := Ty.of_grown (grown_trans hg3 hg4) h.lt (Owned.blk h.hd h.bd rfl)
  clear c3 f3 hm3 hg3
  go_wp2_with fail
  go_ret
  refine ⟨rfl, ⟨w.heap.size, .slice none 0 0, wrap64 (st + 1), n, n, DK k G, 0, ?_⟩, hT⟩
  exact {
    hd := hd4
    hm := hT.nmap h.hm (fun e => e)
    hs := hm4
    hc := ⟨[], World.ownsRow_nil _ _ _ _⟩
    hn := h.hn
    hk := Nat.zero_le _
    bd := h.bd
    bn := h.bn
    ne := by have := World.ownsMap.lt h.hm; omega
    hz := fun _ => ⟨h.hn, rfl, rfl⟩
    hf := fun i hi => by
      obtain ⟨hgj, sj, hFj, hsj⟩ := h.hf i hi
      refine ⟨hgj, sj, hFj.fr (own := fun j => j = dk) (Fr.step (Fr.refl _ w) (grown_trans (grown_trans (grown_of_below hb1 (some dk)) (grown_trans (grown_set w1 ⟨dk, 2, none⟩ _) (grown_set _ ⟨dk, 3, none⟩ _))) hg4) (fun q e => by injection e with e; exact .inl e.symm)) (fun e => ?_) (fun q cs e hb => ?_), hsj⟩
      · obtain ⟨cs, hb⟩ := hFj.blk
        rw [e] at hb
        exact absurd (blk_ty hb h.hd) (by decide)
      · rw [e] at hb
        exact absurd (blk_ty hb h.hd) (by decide)
    hi := h.hi }
/-- The names' row. -/
def NamesP (w : World) (k : Nat) (e : Ending) (w' : World) : Prop := ∃ v B, e = .returned v ∧ w.heap.size ≤ B ∧ w'.ownsRow B 9 1 v k ((List.range k).map fun i => strV (segN i)) ∧ (k = 0 → v = .slice none 0 0) ∧ Below w.heap.size w w'
theorem segs_sorted (k : Nat) (G : Nat → Nat) (hk : k ≤ 9) (ss : List (List UInt8)) (h : ss.Perm (strKeys (DK k G))) : ss.mergeSort (fun x y => decide (x ≤ y)) = (List.range k).map segN := by
  have e : strKeys (DK k G) = (List.range k).map segN := by
    simp only [strKeys, DK, List.map_map]
    rfl
  rw [e] at h
  rw [mergeSort_of_perm h]
  refine List.mergeSort_of_pairwise ?_
  have hd : ∀ i : Fin 9, ∀ j : Fin 9, i.val < j.val → Go.leB (segN i.val) (segN j.val) = true := by decide
  refine List.Pairwise.map _ (R := fun i j => i < j ∧ j < 9) (fun i j hij => hd ⟨i, by omega⟩ ⟨j, hij.2⟩ hij.1) ?_
  exact (List.pairwise_lt_range (n := k)).imp_of_mem (fun hi hj hij => ⟨hij, by simp at hj; omega⟩)
set_option maxRecDepth 100000 in
set_option maxHeartbeats 4000000 in
theorem dnames {w : World} {b nm dk k : Nat} {G : Nat → Nat} {S : Nat → List UInt8} {F : Nat → Bool} {Z : Bool} {N : Nat} (h : DS w b nm dk k G S F Z N) (hk : k ≤ 6) :
    Calls Tryz.prog 16 #[.pointer (some ⟨dk, 0, none⟩)] w (NamesP w k) := by
  obtain ⟨sm, ch, st, n, ns, D2, kk, h⟩ := h
  have h1 := Lib.hid (ready_ok dk 4194304 nm sm ch st w h.hd)
  have h2 := Lib.hid (callsIn_wide.1 (Tryz.maps_Keys_43 (some nm) w))
  have h3 := Lib.hid (callsIn_wide.1 (Tryz.slices_Sorted_keys_42_43 nm n (DK k G) ptrElem w h.hm (by rw [dk_size]; simp only [maxLen]; omega) (by rw [dk_size]; omega)))
  have c1 := Disk.c1 h.hd
  go_enter Tryz.func16, Tryz.ntmps16
  go_wp2_with fail
  refine h1.out.mono ?_
  rintro e w0 ⟨rfl, rfl⟩
  go_wp2_with fail
  refine h2.out.mono ?_
  rintro e w1 ⟨rfl, rfl⟩
  go_wp2_with fail
  refine h3.out.mono ?_
  rintro e w1 ⟨v, ss, rfl, hp, ho, hnil, hb⟩
  have hlen : ss.length = k := by rw [hp.length_eq]; simp [strKeys, DK]
  have hsort := segs_sorted k G (by omega) ss hp
  go_wp2_with fail
  go_ret
  rw [hsort, List.map_map, hlen] at ho
  refine ⟨v, _, rfl, ?_, ho, fun e => hnil.2 (List.eq_nil_of_length_eq_zero (by omega)), ?_⟩
  · simp
  · exact below_chain (below_alloc1 w _) hb (by simp)
theorem sizeOf_byte (w : World) : (Go.sizeOf 5).run Tryz.prog w = .ok 1 w := by kernel_rfl
def ReadP (w : World) (bs : List UInt8) (e : Ending) (w' : World) : Prop := ∃ v, e = .returned (.tuple #[v, .int .i64 0]) ∧ w'.ownsRow w.heap.size 5 1 v bs.length (bytesV bs) ∧ Below w.heap.size w w'
theorem bytes_cells (bs : List UInt8) : ∀ u ∈ bytesV bs, u.oneCell' = true := bytes_one bs
set_option maxRecDepth 100000 in
set_option maxHeartbeats 4000000 in
theorem cloneB (g o c : Nat) (bs : List UInt8) (hl : bs.length ≤ 4194304) (w : World) (h : BRow w (some ⟨g, o, none⟩) bs) :
    Calls Tryz.prog 34 #[.slice (some ⟨g, o, none⟩) bs.length c] w fun e w' => ∃ v, e = .returned v ∧ w'.ownsRow w.heap.size 5 1 v bs.length (bytesV bs) ∧ Below w.heap.size w w' := by
  obtain ⟨i0, hi, hzz⟩ := Option.map_eq_some_iff.1 byte_info
  simp only [Prod.mk.injEq] at hzz
  obtain ⟨hz0, hz1, hz2⟩ := hzz
  refine (Tryz.slices_CloneB i0 (.int .u8 0) 1 1 hi hz0 hz1 hz2 rfl (by decide) sizeOf_byte g o bs.length c (bytesV bs) w (by rw [bytesV_length, Nat.mul_one]) (by simp only [maxLen]; omega) (by omega) (fun j u hu => ?_) (bytes_one bs)).mono ?_
  · have := brow_cells h j u hu
    have hadd : (⟨g, o, none⟩ : Addr).add j = ⟨g, o + j, none⟩ := by unfold Addr.add; split <;> simp_all
    rw [hadd] at this
    exact this
  · rintro e w' ⟨v, rfl, ho, _, hb⟩
    exact ⟨v, rfl, ho, hb⟩
set_option maxRecDepth 100000 in
set_option maxHeartbeats 4000000 in
theorem dread {w : World} {b nm dk k : Nat} {G : Nat → Nat} {S : Nat → List UInt8} {F : Nat → Bool} {Z : Bool} {N : Nat} (h : DS w b nm dk k G S F Z N) (hk : k ≤ 6) (i : Nat) (hi : i < k) (h0 : 0 < (S i).length) (hl : (S i).length ≤ 4194304) :
    Calls Tryz.prog 19 #[.pointer (some ⟨dk, 0, none⟩), strV (segN i)] w (ReadP w (S i)) := by
  obtain ⟨sm, ch, st, n, ns, D2, kk, h⟩ := h
  obtain ⟨hgb, s, hF, hs⟩ := h.hf i hi
  obtain ⟨A, c, hb, hbr, hn0, hlc⟩ := hF.parts
  have h1 := Lib.hid (find_ok dk 4194304 nm sm ch st n (G i) (DK k G) (segN i) (by rw [segN_len]; omega) w h.hd h.hm (dk_at k G hk i hi _))
  have c0 : w.cell? ⟨G i, 0, none⟩ = some (.slice A (S i).length c) := hb.cell 0
  obtain ⟨T, hT⟩ : ∃ T, strV (segN i) = .string T := ⟨_, rfl⟩
  rw [hT] at h1 ⊢
  obtain ⟨g, o, rfl, _⟩ := hbr 0 h0
  have h2 := Lib.hid (cloneB g o c (S i) hl w hbr)
  clear hT hb hbr hn0 hlc hF hs h hl h0
  generalize S i = bs at *
  go_enter Tryz.func19, Tryz.ntmps19
  go_wp2_with fail
  refine h1.out.mono ?_
  rintro e w0 ⟨rfl, rfl⟩
  go_wp2_with fail
  refine h2.out.mono ?_
  rintro e w1 ⟨v, rfl, ho, hb⟩
  go_wp2_with fail
  go_ret2
  exact ⟨v, rfl, ho, hb⟩
end Go.Proofs.YtejbfglaalmafaaGreatDoor
