/- The contract of (*Log).lay: a record behind the last segment. -/
import Derived.Test.YtejbfglaalmafaaGreatDoorLWal
namespace Go.Proofs.YtejbfglaalmafaaGreatDoor
open Go.RowKit
set_option linter.unusedVariables false

theorem fiN_upd (ds : Nat → List (List UInt8)) (m : Nat) (x : List (List UInt8)) : ∀ i, i ≤ m → fiN (upd ds m x) i = fiN ds i := by
  intro i
  induction i with
  | zero => intro _; rfl
  | succ i ih =>
    intro hi
    rw [fiN, fiN, ih (by omega), upd_ne _ _ (by omega)]
theorem segS_upd (ds : Nat → List (List UInt8)) (m : Nat) (x : List (List UInt8)) (i : Nat) (hi : i < m) : segS (upd ds m x) i = segS ds i := by
  rw [segS, segS, fiN_upd ds m x i (by omega), upd_ne _ _ (by omega)]
theorem segS_snoc (ds : Nat → List (List UInt8)) (m : Nat) (d : List UInt8) : segS (upd ds m (ds m ++ [d])) m = segS ds m ++ laidB (fiN ds (m + 1)) d := by
  rw [segS, segS, fiN_upd ds m _ m (Nat.le_refl _), upd_at, segB, segB, recsB_snoc, List.append_assoc]
  rfl
theorem fiN_snoc (ds : Nat → List (List UInt8)) (m : Nat) (d : List UInt8) : fiN (upd ds m (ds m ++ [d])) (m + 1) = fiN ds (m + 1) + 1 := by
  rw [fiN, fiN, fiN_upd ds m _ m (Nat.le_refl _), upd_at, List.length_append]
  simp only [List.length_cons, List.length_nil]
  omega
section
variable {w w' : World} {b nm dk lg k : Nat} {G Q : Nat → Nat} {ds : Nat → List (List UInt8)} {F : Nat → Bool} {Z : Bool} {N : Nat} {v : Value} {sy : Int}
theorem DS.congr {S S' : Nat → List UInt8} {F' : Nat → Bool} (h : DS w b nm dk k G S F Z N) (hS : ∀ i, i < k → S' i = S i) (hF : ∀ i, i < k → F' i = false → F i = false) : DS w b nm dk k G S' F' Z N := by
  obtain ⟨sm, ch, st, n, ns, D2, kk, h⟩ := h
  exact ⟨sm, ch, st, n, ns, D2, kk, { h with
    hf := fun i hi => by
      obtain ⟨h1, s, h2, h3⟩ := h.hf i hi
      rw [hS i hi]
      exact ⟨h1, s, h2, fun e => h3 (hF i hi e)⟩ }⟩
/-- One segment's cells are changed. -/
theorem LGx.seg (h : LGx w b dk lg k Q ds F Z v sy) {i : Nat} (hi : i < k) {ds' : Nat → List (List UInt8)} {f : Bool} (hg : w.grownBy w' (some (Q i))) (hb : Blk w' (Q i) 79 (segV (segN i) (fiN ds' i) (fiN ds' (i + 1)) (segS ds' i).length f))
    (hd : ∀ j, j < k → j ≠ i → fiN ds' j = fiN ds j ∧ fiN ds' (j + 1) = fiN ds (j + 1) ∧ segS ds' j = segS ds j) : LGx w' b dk lg k Q ds' (upd F i f) Z v sy ∧ Ty b walT (fun _ => False) w w' := by
  obtain ⟨hbq, hbi⟩ := h.hs i hi
  have hT : Ty b walT (fun _ => False) w w' := Ty.of_grown hg h.lt (Owned.blk hbi hbq rfl)
  have hne : ∀ j t cs, Blk w j t cs → t ≠ 79 → some j ≠ some (Q i) := fun j t cs hj ht e => by
    injection e with e
    rw [e] at hj
    exact ht (blk_ty hj hbi)
  refine ⟨{
    hl := h.hl.grown hg (hne _ _ _ h.hl (by decide))
    hv := own_same h.hv (fun j cs hj => hg.block j hj.lt (hne _ _ _ hj (by decide)))
    hs := fun j hj => ?_
    hi := h.hi
    bl := h.bl }, hT⟩
  by_cases e : j = i
  · rw [e, upd_at]
    exact ⟨hbq, hb⟩
  · obtain ⟨h1, h2, h3⟩ := hd j hj e
    rw [upd_ne _ _ e, h1, h2, h3]
    exact ⟨(h.hs j hj).1, (h.hs j hj).2.grown hg (fun e2 => by injection e2 with e2; exact e (h.hi j i hj hi e2))⟩
end
theorem LGx.two {w : World} {b dk lg k m : Nat} {Q : Nat → Nat} {ds : Nat → List (List UInt8)} {F : Nat → Bool} {Z : Bool} {v : Value} {sy : Int} {T : ByteArray} (h : LGx w b dk lg k Q ds F Z v sy) (hk : k = m + 1) (hT : strV (segN m) = .string T) :
    w.cell? ⟨lg, 0, none⟩ = some (.pointer (some ⟨dk, 0, none⟩)) ∧ w.cell? ⟨Q m, 0, none⟩ = some (.string T) := by
  obtain ⟨_, _, _, _, h1, _, _, h2, _⟩ := h.last hk
  rw [hT] at h2
  exact ⟨h1, h2⟩
theorem Ty.wal {b : Nat} {w w' : World} {M : Nat → Prop} (h : Ty b walT M w w') : Ty b wsT M w w' := h.mono (fun t e => by simp only [wsT, e, Bool.or_true]) (fun _ e => e)
theorem Ty.disk {b : Nat} {w w' : World} {M : Nat → Prop} (h : Ty b diskT M w w') : Ty b wsT M w w' := h.mono (fun t e => by simp only [wsT, e, Bool.true_or]) (fun _ e => e)
theorem add64 {a c n : Nat} (h : a + c = n) (hn : n ≤ 1000000) : IntKind.i64.wrap ((a : Int) + (c : Int)) = (n : Int) ∧ wrap64 ((a : Int) + (c : Int)) = (n : Int) := by
  have e : (a : Int) + (c : Int) = (n : Int) := by omega
  have p : (2 : Int) ^ 62 = 4611686018427387904 := by decide
  rw [e]
  exact ⟨wraps_i64' _ (by omega) (by rw [p]; omega), by simp only [wrap64]; omega⟩
def LaidP (w : World) (b nm dk lg k m : Nat) (G Q : Nat → Nat) (ds : Nat → List (List UInt8)) (F : Nat → Bool) (Z : Bool) (N : Nat) (d : List UInt8) (e : Ending) (w' : World) : Prop := e = .returned (.int .i64 0) ∧ WS w' b nm dk lg k G Q (upd ds m (ds m ++ [d])) (upd F m true) Z N ∧ Ty b wsT (fun _ => False) w w'
theorem held_pair {w1 w2 : World} {a1 a2 : Addr} {v1 v2 : Value} (h : w1.cell? a1 = some v1 ∧ w1.cell? a2 = some v2) (hb : Below w1.heap.size w1 w2) : w2.cell? a1 = some v1 ∧ w2.cell? a2 = some v2 := ⟨below_cell hb h.1, below_cell hb h.2⟩
set_option maxRecDepth 100000 in
set_option maxHeartbeats 4000000 in
theorem lay_ok {w : World} {b nm dk lg k m : Nat} {G Q : Nat → Nat} {ds : Nat → List (List UInt8)} {F : Nat → Bool} {Z : Bool} {N : Nat} (h : WS w b nm dk lg k G Q ds F Z N) (hk : k = m + 1) (hk6 : k ≤ 6) (hN : fiN ds k < 1000000) (hS : ∀ j, j < k → (segS ds j).length ≤ 100000) (s : ByteArray) (d : List UInt8) (hs : s.data.toList = d) (hd : d.length ≤ 65536) :
    Calls Tryz.prog 27 #[.pointer (some ⟨lg, 0, none⟩), .agg #[.int .i64 (fiN ds k : Int), .string s]] w (LaidP w b nm dk lg k m G Q ds F Z N d) := by
  have hsz : s.size = d.length := by rw [← hs, Array.length_toList]; rfl
  have hW := h.below (below_alloc1 w (.cells #[.int .i64 (fiN ds k : Int), .string s] 49))
  have hbr := Blk.new w 49 #[.int .i64 (fiN ds k : Int), .string s]
  have hT0 : Ty b wsT (fun _ => False) w (w.alloc (.cells #[.int .i64 (fiN ds k : Int), .string s] 49)) := Ty.of_below (below_alloc1 w _) h.size
  have hLd := Lib.hid (fun x => laid_any (fiN ds k) s (by omega) (by omega) x)
  rw [hs] at hLd
  have hseg := segS_snoc ds m d
  have hfi := fiN_snoc ds m d
  rw [← hk] at hseg hfi
  have hlen := laidB_length (fiN ds k) d
  obtain ⟨ys, hys⟩ : ∃ ys, laidB (fiN ds k) d = ys := ⟨_, rfl⟩
  rw [hys] at hLd hseg hlen
  replace hlen := Lib.hid hlen
  replace hseg := Lib.hid hseg
  replace hfi := Lib.hid hfi
  clear hys
  obtain ⟨p1, p2⟩ := pred64 hk (by omega)
  obtain ⟨n1, n2, n3, n4, n5⟩ := ne_zero hk
  have hm5 := Lib.hid n5
  clear n2 n3 h n5
  replace hN := Lib.hid hN
  replace hS := Lib.hid hS
  replace hk6 := Lib.hid hk6
  replace hd := Lib.hid hd
  replace hk := Lib.hid hk
  go_enter Tryz.func27, Tryz.ntmps27
  go_upto_region 1 with fail
  generalize w.alloc (.cells #[.int .i64 (fiN ds k : Int), .string s] 49) = w0 at *
  obtain ⟨⟨v, sy, hL⟩, hD⟩ := hW
  obtain ⟨gv, cap, rfl, hc, c0, c1, c2, c3, c4, c5⟩ := hL.last hk.out
  have hc' : (k : Int) ≤ (cap : Int) := Int.ofNat_le.2 hc
  have r0 := hbr.cell 0
  have r1 := hbr.cell 1
  go_region
  have hT1 : Ty b wsT (fun _ => False) w w0.drew := hT0.drew
  have hL1 : LGx w0.drew b dk lg k Q ds F Z (.slice (some ⟨gv, 0, none⟩) k cap) sy := hL.below ((Below.refl _ w0).drew)
  have hD1 : DS w0.drew b nm dk k G (segS ds) F Z N := hD.drew
  have r2 : w0.drew.cell? ⟨w.heap.size, 0, none⟩ = some (.int .i64 (fiN ds k : Int)) := r0
  have r3 : w0.drew.cell? ⟨w.heap.size, 1, none⟩ = some (.string s) := r1
  clear c0 c1 c2 c3 c4 c5 r0 r1 hc hc' hbr hT0 hL hD
  generalize w0.drew = w1 at *
  go_wp2_with fail
  refine (hLd.out _).mono ?_
  rintro e w2 ⟨v1, rfl, ho2, hb2⟩
  obtain ⟨g1, cap1, rfl, hg1, hg1u⟩ := own_shape ho2 (by have := hlen.out; omega)
  have hL2 := hL1.below hb2
  have hD2 := (hD1.below hb2).drew
  have hT2 : Ty b wsT (fun _ => False) w w2 := hT1.trans (Ty.of_below hb2 hD1.size)
  have hbr2 := own_brow ho2
  have hA := Lib.hid (dappend hD2 hk6.out m hm5.out (some ⟨g1, 0, none⟩) ys cap1 hbr2 (by have := hlen.out; omega) (by have := hlen.out; have := hd.out; omega) hS.out)
  obtain ⟨gv2, cap2, e2, hc2, c0, c1, c2, c3, c4, c5⟩ := hL2.last hk.out
  obtain ⟨T, hTs⟩ : ∃ T, strV (segN m) = .string T := ⟨_, rfl⟩
  rw [hTs] at hA c3
  have S0 : w2.drew.cell? ⟨lg, 0, none⟩ = some (.pointer (some ⟨dk, 0, none⟩)) ∧ w2.drew.cell? ⟨Q m, 0, none⟩ = some (.string T) := ⟨c0, c3⟩
  clear hL1 hD1 hT1 hLd r2 r3 ho2 hb2 hg1 hg1u c0 c1 c2 c3 c4 c5 e2 hc2
  go_upto_region 3 with fail
  go_region_held3 (fun w' => w'.cell? ⟨lg, 0, none⟩ = some (.pointer (some ⟨dk, 0, none⟩)) ∧ w'.cell? ⟨Q m, 0, none⟩ = some (.string T))
    (first | (with_reducible exact S0) | (with_reducible exact S1))
    ((go_at_call 55; (with_reducible refine hA.out.mono ?_); rintro e x1 ⟨rfl, hD3, hT3⟩; have hL3 : LGx x1 b dk lg k Q ds F Z (.slice (some ⟨gv, 0, none⟩) k cap) sy := LGx.ty (w := w2.drew) (hL2.below ((Below.refl _ w2).drew)) hT3 rfl rfl rfl; have S1 := hL3.two hk.out hTs))
  have hT4 : Ty b wsT (fun _ => False) w x1 := hT2.drew.trans hT3.disk
  clear S0 S1 hL2 hD2 hT2 hT3 hA hbr2
  obtain ⟨hbq, hbm⟩ := hL3.hs m hm5.out
  have d3 : x1.cell? ⟨Q m, 3, none⟩ = some (.int .i64 ((segS ds m).length : Int)) := hbm.cell 3
  have f3 := hbm.frozen 3
  have hsm := hS.out m hm5.out
  have hsum : (segS ds m).length + ys.length = (segS (upd ds m (ds m ++ [d])) m).length := by rw [hseg.out, List.length_append]
  obtain ⟨q1, q2⟩ := add64 hsum (by have := hd.out; have := hlen.out; clear p1 p2; omega)
  obtain ⟨q3, q4⟩ := add64 hfi.out.symm (by have := hN.out; have := hfi.out; clear p1 p2 q1 q2; omega)
  have hsum1 := Lib.hid hsum
  have hb4 : Blk ((((x1.setCell ⟨Q m, 3, none⟩ (.int .i64 ((segS (upd ds m (ds m ++ [d])) m).length : Int))).setCell ⟨Q m, 2, none⟩ (.int .i64 (fiN (upd ds m (ds m ++ [d])) k : Int))).setCell ⟨Q m, 4, none⟩ (.bool true))) (Q m) 79 (segV (segN m) (fiN (upd ds m (ds m ++ [d])) m) (fiN (upd ds m (ds m ++ [d])) (m + 1)) (segS (upd ds m (ds m ++ [d])) m).length true) := by
    rw [fiN_upd ds m _ m (Nat.le_refl _), ← hk.out]
    exact ((hbm.set_ 3 _).set_ 2 _).set_ 4 _
  have hg4 : x1.grownBy ((((x1.setCell ⟨Q m, 3, none⟩ (.int .i64 ((segS (upd ds m (ds m ++ [d])) m).length : Int))).setCell ⟨Q m, 2, none⟩ (.int .i64 (fiN (upd ds m (ds m ++ [d])) k : Int))).setCell ⟨Q m, 4, none⟩ (.bool true))) (some (Q m)) := grown_trans (grown_trans (grown_set x1 _ _) (grown_set _ _ _)) (grown_set _ _ _)
  obtain ⟨hL5, hT5⟩ := hL3.seg hm5.out hg4 hb4 (fun j hj hji => by
    have hjm : j < m := by have := hk.out; clear p1 p2 q1 q2 q3 q4; omega
    exact ⟨fiN_upd ds m _ j (Nat.le_of_lt hjm), fiN_upd ds m _ (j + 1) hjm, segS_upd ds m _ j hjm⟩)
  have hD5 := hD3.ty hT5 rfl rfl rfl rfl
  have hD6 := hD5.congr (S' := segS (upd ds m (ds m ++ [d]))) (F' := upd F m true) (fun i hi => by
    by_cases e : i = m
    · rw [e, upd_at, hseg.out]
    · rw [upd_ne _ _ e]
      exact segS_upd ds m _ i (by have := hk.out; clear p1 p2 q1 q2 q3 q4; omega)) (fun i hi e => e)
  have hfin : LaidP w b nm dk lg k m G Q ds F Z N d (.returned (.int .i64 0)) _ := ⟨rfl, ⟨⟨_, _, hL5⟩, hD6⟩, hT4.trans hT5.wal⟩
  have d2 : (x1.setCell ⟨Q m, 3, none⟩ (.int .i64 ((segS (upd ds m (ds m ++ [d])) m).length : Int))).cell? ⟨Q m, 2, none⟩ = some (.int .i64 (fiN ds k : Int)) := by rw [hk.out]; exact (hbm.set_ 3 _).cell 2
  have f2 := (hbm.set_ 3 (.int .i64 ((segS (upd ds m (ds m ++ [d])) m).length : Int))).frozen 2
  have d4 : ((x1.setCell ⟨Q m, 3, none⟩ (.int .i64 ((segS (upd ds m (ds m ++ [d])) m).length : Int))).setCell ⟨Q m, 2, none⟩ (.int .i64 (fiN (upd ds m (ds m ++ [d])) k : Int))).cell? ⟨Q m, 4, none⟩ = some (.bool (F m)) := ((hbm.set_ 3 _).set_ 2 _).cell 4
  have f4 := ((hbm.set_ 3 (.int .i64 ((segS (upd ds m (ds m ++ [d])) m).length : Int))).set_ 2 (.int .i64 (fiN (upd ds m (ds m ++ [d])) k : Int))).frozen 4
  have q5 : wrap64 ((fiN ds k : Int) + 1) = (fiN (upd ds m (ds m ++ [d])) k : Int) := q4
  have e2 : x1.cell? ⟨Q m, 2, none⟩ = some (.int .i64 (fiN ds k : Int)) := by rw [hk.out]; exact hbm.cell 2
  have e4 : x1.cell? ⟨Q m, 4, none⟩ = some (.bool (F m)) := hbm.cell 4
  have g2 := hbm.frozen 2
  have g4 := hbm.frozen 4
  replace hfin := Lib.hid hfin
  clear hL5 hD6 hD5 hT5 hT4 hD3 hL3 hb4 hg4 hbm hsum
  generalize (segS (upd ds m (ds m ++ [d])) m).length = ln at *
  generalize fiN (upd ds m (ds m ++ [d])) k = fn at *
  generalize (segS ds m).length = l0 at *
  generalize fiN ds k = f0 at *
  go_wp2_with fail
  go_ret
  exact hfin.out
end Go.Proofs.YtejbfglaalmafaaGreatDoor
