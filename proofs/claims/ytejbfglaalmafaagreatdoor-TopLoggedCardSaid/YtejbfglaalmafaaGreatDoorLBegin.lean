/- The contract of (*Log).begin: a new segment. -/
import Derived.Test.YtejbfglaalmafaaGreatDoorLItoa
namespace Go.Proofs.YtejbfglaalmafaaGreatDoor
open Go.RowKit
set_option linter.unusedVariables false

theorem sptr_info : (Tryz.prog.info? 77).map (fun i => (i.zero, i.size, i.bytes)) = some (some (.pointer none), 1, 8) := by kernel_rfl
theorem ptrs_snoc (Q : Nat → Nat) (k q : Nat) : ptrs Q k ++ [.pointer (some ⟨q, 0, none⟩)] = ptrs (upd Q k q) (k + 1) := by
  simp only [ptrs, List.range_succ, List.map_append, List.map_cons, List.map_nil, upd_at]
  congr 1
  refine List.map_congr_left fun i hi => ?_
  rw [upd_ne _ _ (by simp at hi; omega)]
theorem fiN_ext (ds ds' : Nat → List (List UInt8)) : ∀ i, (∀ j, j < i → ds' j = ds j) → fiN ds' i = fiN ds i := by
  intro i
  induction i with
  | zero => intro _; rfl
  | succ i ih =>
    intro h
    rw [fiN, fiN, ih (fun j hj => h j (by omega)), h i (by omega)]
theorem own_ty {w : World} {B : Nat} {e : TypeId} {size n : Nat} {v : Value} {xs : List Value} (h : w.ownsRow B e size v n xs) {i : Nat} (hi : v.ownBlock = some i) : B ≤ i ∧ ∃ cs, Blk w i e cs := by
  obtain ⟨_, (⟨rfl, _⟩ | ⟨g, cap, cur, rfl, hg, hb, _⟩)⟩ := h
  · simp [Value.ownBlock] at hi
  · simp only [Value.ownBlock, Option.some.injEq] at hi
    subst hi
    exact ⟨hg, cur, hb⟩
theorem Ty.of_own {b : Nat} {T : TypeId → Bool} {M : Nat → Prop} {w w' : World} {e : TypeId} {size n : Nat} {v : Value} {xs : List Value} (hg : w.grownBy w' v.ownBlock) (ho : w.ownsRow b e size v n xs) (hT : T e = true) (hb : b ≤ w.heap.size) : Ty b T M w w' :=
  Ty.of_fr (own := fun i => v.ownBlock = some i) ((Fr.refl _ w).step hg (fun k e => .inl e)) hb (fun i hi => by
    obtain ⟨h1, cs, h2⟩ := own_ty ho hi
    exact Owned.blk h2 h1 hT)
def BeginP (w : World) (b nm dk lg k : Nat) (G Q : Nat → Nat) (ds : Nat → List (List UInt8)) (F : Nat → Bool) (N : Nat) (e : Ending) (w' : World) : Prop := ∃ g q, e = .returned (.int .i64 0) ∧ WS w' b nm dk lg (k + 1) (upd G k g) (upd Q k q) (upd ds k []) (upd F k true) true (N + 1) ∧ Ty b wsT (fun i => i = nm) w w'
theorem begin_num (k : Nat) (hk : k < 6) : wrap64 (1000001 + (k : Int)) = ((1000001 + k : Nat) : Int) ∧ IntKind.i64.wrap (1000001 + (k : Int)) = ((1000001 + k : Nat) : Int) ∧ wrap64 ((k : Int) + 1) = ((k + 1 : Nat) : Int) := by
  have p : (2 : Int) ^ 62 = 4611686018427387904 := by decide
  refine ⟨by simp only [wrap64]; omega, ?_, by simp only [wrap64]; omega⟩
  rw [show (1000001 : Int) + (k : Int) = ((1000001 + k : Nat) : Int) by omega]
  exact wraps_i64' _ (by omega) (by rw [p]; omega)
theorem seg_slice (k : Nat) (w : World) : (Instr.slice 9 (strV ([49] ++ [48, 48, 48, 48, 48, UInt8.ofNat (49 + k)])) (some (.int .i64 1)) none none).run Tryz.prog w = .ok (.string (ByteArray.mk [48, 48, 48, 48, 48, UInt8.ofNat (49 + k)].toArray)) w := run_slice_front w [49] _
set_option maxRecDepth 100000 in
set_option maxHeartbeats 4000000 in
theorem begin_ok {w : World} {b nm dk lg k : Nat} {G Q : Nat → Nat} {ds : Nat → List (List UInt8)} {F : Nat → Bool} {Z : Bool} {N : Nat} (h : WS w b nm dk lg k G Q ds F Z N) (hk : k < 6) (hN : N ≤ 1000000) (hf : fiN ds k ≤ 1000000) (hS : ∀ j, j < k → (segS ds j).length ≤ 100000) (hB : Tab w b) :
    Calls Tryz.prog 26 #[.pointer (some ⟨lg, 0, none⟩), .int .i64 (fiN ds k : Int)] w (BeginP w b nm dk lg k G Q ds F N) := by
  obtain ⟨⟨v, sy, hL⟩, hD⟩ := h
  have c4 : w.cell? ⟨lg, 4, none⟩ = some (.int .i64 (k : Int)) := hL.hl.cell 4
  obtain ⟨n1, n2, n3⟩ := begin_num k hk
  have hI := Lib.hid (itoa_ok hB k hk)
  have hsl := seg_slice k
  have hct := seg_cat k
  obtain ⟨U, hU⟩ : ∃ U, strV ([49] ++ [48, 48, 48, 48, 48, UInt8.ofNat (49 + k)]) = .string U := ⟨_, rfl⟩
  have hIp : ∀ e w', ItoaP k w e w' → e = .returned (.string U) ∧ Below w.heap.size w w' := fun e w' h => by rw [← hU]; exact h
  rw [hU] at hsl
  obtain ⟨T, hT⟩ : ∃ T, ByteArray.mk (segN k).toArray = T := ⟨_, rfl⟩
  have hTs : strV (segN k) = .string T := by rw [← hT]; rfl
  rw [hT] at hct
  generalize ByteArray.mk [48, 48, 48, 48, 48, UInt8.ofNat (49 + k)].toArray = U2 at *
  clear hT hU
  replace hN := Lib.hid hN
  replace hf := Lib.hid hf
  replace hS := Lib.hid hS
  replace hIp := Lib.hid hIp
  obtain ⟨kk, hkk⟩ : ∃ kk, 1000001 + k = kk := ⟨_, rfl⟩
  rw [hkk] at n1 n2 hI
  clear hkk
  go_enter Tryz.func26, Tryz.ntmps26
  go_wp2_with fail
  refine hI.out.mono ?_
  intro e w1 hIe
  obtain ⟨rfl, hb1⟩ := hIp.out e w1 hIe
  have hL1 := hL.below hb1
  have hD1 := hD.below hb1
  have hT1 : Ty b wsT (fun i => i = nm) w w1 := Ty.of_below hb1 hD.size
  have hba := below_alloc1 w1 (.cells #[.string T, .int .i64 (fiN ds k : Int), .int .i64 (fiN ds k : Int), .int .i64 16, .bool true] 79)
  have hsb := Blk.new w1 79 #[.string T, .int .i64 (fiN ds k : Int), .int .i64 (fiN ds k : Int), .int .i64 16, .bool true]
  have hL2 := hL1.below hba
  have hD2 := hD1.below hba
  have hT2 := hT1.trans (Ty.of_below hba hD1.size)
  have hqs : ∀ i, i < k → Q i < w1.heap.size := fun i hi => (hL1.hs i hi).2.lt
  have hbw1 := hD1.size
  have hqlt := hsb.lt
  clear hL hD c4 hI hIp hIe hb1 hL1 hD1 hT1 hba
  go_upto_region 3 with fail
  generalize w1.alloc (.cells #[.string T, .int .i64 (fiN ds k : Int), .int .i64 (fiN ds k : Int), .int .i64 16, .bool true] 79) = w2 at *
  obtain ⟨q, hq⟩ : ∃ q, w1.heap.size = q := ⟨_, rfl⟩
  rw [hq] at hsb hqs hbw1 hqlt
  simp only [hq]
  have l0 : w2.cell? ⟨lg, 0, none⟩ = some (.pointer (some ⟨dk, 0, none⟩)) := hL2.hl.cell 0
  have s0 : w2.cell? ⟨q, 0, none⟩ = some (.string T) := hsb.cell 0
  have S0 : w2.drew.cell? ⟨lg, 0, none⟩ = some (.pointer (some ⟨dk, 0, none⟩)) ∧ w2.drew.cell? ⟨q, 0, none⟩ = some (.string T) := ⟨l0, s0⟩
  have hC := Lib.hid (dcreate hD2.drew hk hN.out)
  rw [hTs] at hC
  clear hq
  replace hqs := Lib.hid hqs
  go_region_held3 (fun w' => w'.cell? ⟨lg, 0, none⟩ = some (.pointer (some ⟨dk, 0, none⟩)) ∧ w'.cell? ⟨q, 0, none⟩ = some (.string T))
    (first | (with_reducible exact S0) | (with_reducible exact S1))
    ((go_at_call 54; (with_reducible refine hC.out.mono ?_); rintro e x1 ⟨g, rfl, hD3, hT3⟩; have hL3 : LGx x1 b dk lg k Q ds F Z v sy := LGx.ty (w := w2.drew) (hL2.below ((Below.refl _ w2).drew)) hT3 rfl rfl rfl; have hsb3 : Blk x1 q 79 #[.string T, .int .i64 (fiN ds k : Int), .int .i64 (fiN ds k : Int), .int .i64 16, .bool true] := Ty.blk (w := w2.drew) hT3 hsb rfl; have S1 := And.intro (show x1.cell? ⟨lg, 0, none⟩ = some (.pointer (some ⟨dk, 0, none⟩)) from hL3.hl.cell 0) (show x1.cell? ⟨q, 0, none⟩ = some (.string T) from hsb3.cell 0)))
  have hT4 := hT2.drew.trans hT3.disk
  have x3 : x1.cell? ⟨lg, 3, none⟩ = some (.bool Z) := hL3.hl.cell 3
  have xf := hL3.hl.frozen 3
  obtain ⟨hL5, hT5⟩ := hL3.log (Z' := true) (sy' := sy) (grown_set x1 ⟨lg, 3, none⟩ (.bool true)) (hL3.hl.set_ 3 _)
  have hD5 := hD3.ty hT5 rfl rfl rfl rfl
  have hqne : q ≠ lg := fun e => by rw [e] at hsb3; exact absurd (blk_ty hsb3 hL3.hl) (by decide)
  have hsb5 := hsb3.grown (grown_set x1 ⟨lg, 3, none⟩ (.bool true)) (fun e => by injection e with e; exact hqne e)
  have hT6 := hT4.trans (hT5.wal.mono (fun _ e => e) (fun _ e => e.elim))
  clear S0 S1 l0 s0 hC hL2 hD2 hT2 hsb hL3 hT3 hD3 hT4 hT5 hsb3
  go_upto_region 7 with fail
  generalize x1.setCell ⟨lg, 3, none⟩ (.bool true) = w5 at *
  have l0 : w5.cell? ⟨lg, 0, none⟩ = some (.pointer (some ⟨dk, 0, none⟩)) := hL5.hl.cell 0
  have s0 : w5.cell? ⟨q, 0, none⟩ = some (.string T) := hsb5.cell 0
  have S0 : w5.drew.cell? ⟨lg, 0, none⟩ = some (.pointer (some ⟨dk, 0, none⟩)) ∧ w5.drew.cell? ⟨q, 0, none⟩ = some (.string T) := ⟨l0, s0⟩
  have hH := Lib.hid (fun x => head_any (fiN ds k : Int) (by have := hf.out; omega) x)
  have hA := Lib.hid (fun (x : World) (hb : Below w5.drew.heap.size w5.drew x) (g1 cap1 : Nat) (hbr : BRow x (some ⟨g1, 0, none⟩) (headB (fiN ds k : Int))) => dappend (hD5.drew.below hb) hk k (Nat.lt_succ_self k) (some ⟨g1, 0, none⟩) (headB (fiN ds k : Int)) cap1 hbr (by rw [headB_length]; omega) (by rw [headB_length]; omega) (fun j hj => by
    by_cases e : j = k
    · rw [e, upd_at]; simp
    · rw [upd_ne _ _ e]; exact hS.out j (by omega)))
  rw [hTs] at hA
  obtain ⟨ys, hys⟩ : ∃ ys, headB (fiN ds k : Int) = ys := ⟨_, rfl⟩
  have hyl : ys.length = 16 := by rw [← hys]; exact headB_length _
  simp only [hys] at hH hA
  replace hyl := Lib.hid hyl
  have hS1 := Lib.hid (fun (x : World) (hb : Below w5.drew.heap.size w5.drew x) => held_pair S0 hb)
  have hDs5 := hD5.drew.size
  clear hD5
  have hL5d : LGx w5.drew b dk lg k Q ds F true v sy := hL5.below ((Below.refl _ w5).drew)
  have hsb5d : Blk w5.drew q 79 #[.string T, .int .i64 (fiN ds k : Int), .int .i64 (fiN ds k : Int), .int .i64 16, .bool true] := hsb5
  have hT5d := hT6.drew
  clear hL5 hsb5 hT6
  go_region_held3 (fun w' => w'.cell? ⟨lg, 0, none⟩ = some (.pointer (some ⟨dk, 0, none⟩)) ∧ w'.cell? ⟨q, 0, none⟩ = some (.string T))
    (first | (with_reducible exact S0) | (with_reducible exact S1) | (with_reducible exact S2))
    ((first
      | (go_at_call 56; (with_reducible refine (hH.out _).mono ?_); rintro e x2 ⟨v2, rfl, ho2, hb2⟩; obtain ⟨g2, cap2, rfl, hg2, hg2u⟩ := own_shape ho2 (by have := hyl.out; omega); have S1 := hS1.out x2 hb2)
      | (go_at_call 55; (with_reducible refine (hA.out _ hb2 g2 cap2 (own_brow ho2)).mono ?_); rintro e x3 ⟨rfl, hD6, hT6⟩; have hL6 := (hL5d.below hb2).ty hT6 rfl rfl rfl; have hsb6 := hT6.blk (hsb5d.below hb2 hsb5d.lt) rfl; have S2 := And.intro (show x3.cell? ⟨lg, 0, none⟩ = some (.pointer (some ⟨dk, 0, none⟩)) from hL6.hl.cell 0) (show x3.cell? ⟨q, 0, none⟩ = some (.string T) from hsb6.cell 0))))
  have hT7 := (hT5d.trans (Ty.of_below hb2 hDs5)).trans (hT6.disk.mono (fun _ e => e) (fun _ e => e.elim))
  clear S0 S1 S2 hS1 hH hA hT6 hT5d ho2 hb2 hg2 hg2u hL5d hsb5d l0 s0
  have y4 : x3.cell? ⟨lg, 4, none⟩ = some (.int .i64 (k : Int)) := hL6.hl.cell 4
  have yf4 := hL6.hl.frozen 4
  have y1 : x3.cell? ⟨lg, 1, none⟩ = some v := hL6.hl.cell 1
  have hb7 : Blk (x3.setCell ⟨lg, 4, none⟩ (.int .i64 ((k : Int) + 1))) lg 60 (logV dk v sy true (k + 1)) := hL6.hl.set_ 4 _
  have hg7 := grown_set x3 ⟨lg, 4, none⟩ (.int .i64 ((k : Int) + 1))
  have hsb7 := hsb6.grown hg7 (fun e => by injection e with e; exact hqne e)
  have hbd := hD6.size
  have hlo := hL6.hl
  have hbl := hL6.bl
  have hqb : b ≤ q := hbw1
  have hT8 : Ty b walT (fun _ => False) x3 (x3.setCell ⟨lg, 4, none⟩ (.int .i64 ((k : Int) + 1))) := Ty.of_grown hg7 hbd (Owned.blk hlo hbl rfl)
  have hD8 := hD6.ty hT8 rfl rfl rfl rfl
  have hT9 := hT7.trans (hT8.wal.mono (fun _ e => e) (fun _ e => e.elim))
  have hv7 := own_same hL6.hv (fun j cs hj => hg7.block j hj.lt (fun e => by
    injection e with e
    rw [e] at hj
    exact absurd (blk_ty hj hlo) (by decide)))
  have hs7 : ∀ i, i < k → b ≤ Q i ∧ Blk (x3.setCell ⟨lg, 4, none⟩ (.int .i64 ((k : Int) + 1))) (Q i) 79 (segV (segN i) (fiN ds i) (fiN ds (i + 1)) (segS ds i).length (F i)) := fun i hi => ⟨(hL6.hs i hi).1, (hL6.hs i hi).2.grown hg7 (fun e => by
    injection e with e
    have := (hL6.hs i hi).2
    rw [e] at this
    exact absurd (blk_ty this hlo) (by decide))⟩
  have hQi := hL6.hi
  have z1 : (x3.setCell ⟨lg, 4, none⟩ (.int .i64 ((k : Int) + 1))).cell? ⟨lg, 1, none⟩ = some v := hb7.cell 1
  go_upto_region 12 with fail
  generalize x3.setCell ⟨lg, 4, none⟩ (.int .i64 ((k : Int) + 1)) = x8 at *
  have hk8 : (k + 1) * 8 ≤ 140737488355328 := by omega
  replace hk8 := Lib.hid hk8
  have hbx8 : b ≤ x8.heap.size := hD8.size
  have zf1 := hb7.frozen 1
  clear hL6 hD6 hT7 hT8 hsb6 y4 yf4 y1 hg7 hlo hbd xf n1 n2 n3 hsl hct
  have hvl : ∀ i t cs, Blk x8 i t cs → t ≠ 77 → some i ≠ v.ownBlock := fun i t cs hb ht e => by
    obtain ⟨_, ds, h2⟩ := own_ty hv7 e.symm
    exact ht (blk_ty hb h2)
  have hvl2 := Lib.hid hvl
  clear hvl
  go_wp2_with (at_builtin; refine append_one b rfl (.tmp 75) (.tmp 77) _ 77 (.pointer none) 8 rfl Tryz.underlying58 sptr_info rfl (by omega) v k _ (.pointer (some ⟨q, 0, none⟩)) rfl rfl rfl hv7 hbx8 hk8.out ?_; intro v2 x9 HO9 hg9 hat9; obtain ⟨g9, cap9, rfl, hg9l, hg9u⟩ := own_shape HO9 (by omega); have hb9 := hb7.grown hg9 (hvl2.out _ _ _ hb7 (by decide)); have u1 : x9.cell? ⟨lg, 1, none⟩ = some v := hb9.cell 1; have uf1 := hb9.frozen 1)
  have hT10 : Ty b walT (fun _ => False) x8 x9 := Ty.of_own hg9 hv7 rfl hbx8
  have hb10 : Blk (x9.setCell ⟨lg, 1, none⟩ (.slice (some ⟨g9, 0, none⟩) (k + 1) cap9)) lg 60 (logV dk (.slice (some ⟨g9, 0, none⟩) (k + 1) cap9) sy true (k + 1)) := hb9.set_ 1 _
  have hg10 := grown_set x9 ⟨lg, 1, none⟩ (.slice (some ⟨g9, 0, none⟩) (k + 1) cap9)
  have hT11 : Ty b walT (fun _ => False) x9 (x9.setCell ⟨lg, 1, none⟩ (.slice (some ⟨g9, 0, none⟩) (k + 1) cap9)) := Ty.of_grown hg10 (Nat.le_trans hbx8 hg9.size) (Owned.blk hb9 hbl rfl)
  have hnl : ∀ i t cs, Blk x9 i t cs → t ≠ 60 → some i ≠ some lg := fun i t cs hb ht e => by
    injection e with e
    rw [e] at hb
    exact ht (blk_ty hb hb9)
  have hT12 := hT10.trans hT11
  have hD12 := hD8.ty hT12 rfl rfl rfl rfl
  have hseg : ∀ i, i < k + 1 → (upd (upd (segS ds) k []) k (upd (segS ds) k [] k ++ ys)) i = segS (upd ds k []) i := fun i hi => by
    by_cases e : i = k
    · rw [e, upd_at, upd_at, List.nil_append, segS, fiN_upd ds k [] k (Nat.le_refl _), upd_at, segB, recsB, List.append_nil, hys]
    · rw [upd_ne _ _ e, upd_ne _ _ e, segS_upd ds k [] i (by omega)]
  have hfin : BeginP w b nm dk lg k G Q ds F N (.returned (.int .i64 0)) (x9.setCell ⟨lg, 1, none⟩ (.slice (some ⟨g9, 0, none⟩) (k + 1) cap9)) := by
    refine ⟨g, q, rfl, ⟨⟨(.slice (some ⟨g9, 0, none⟩) (k + 1) cap9), sy, ?_⟩, hD12.congr (fun i hi => (hseg i hi).symm) (fun i hi e => ?_)⟩, hT9.trans (hT12.wal.mono (fun _ e => e) (fun _ e => e.elim))⟩
    · exact {
        hl := hb10
        hv := by
          rw [ptrs_snoc] at HO9
          exact own_same HO9 (fun j cs hj => hg10.block j hj.lt (hnl _ _ _ hj (by decide)))
        hs := fun i hi => by
          by_cases e : i = k
          · rw [e, upd_at, upd_at, fiN_upd ds k [] k (Nat.le_refl _)]
            refine ⟨hqb, ?_⟩
            have e1 : fiN (upd ds k []) (k + 1) = fiN ds k := by rw [fiN, fiN_upd ds k [] k (Nat.le_refl _), upd_at]; rfl
            have e2 : (segS (upd ds k []) k).length = 16 := by rw [← hseg k (Nat.lt_succ_self k), upd_at, upd_at, List.nil_append]; exact hyl.out
            have h1 := (hsb7.grown hg9 (hvl2.out _ _ _ hsb7 (by decide)))
            have h2 := h1.grown hg10 (hnl _ _ _ h1 (by decide))
            rw [e1, e2, segV, hTs]
            exact h2
          · rw [upd_ne _ _ e, upd_ne _ _ e]
            have hik : i < k := by omega
            rw [fiN_upd ds k [] i (Nat.le_of_lt hik), fiN_upd ds k [] (i + 1) hik, segS_upd ds k [] i hik]
            refine ⟨(hs7 i hik).1, ?_⟩
            have h1 := (hs7 i hik).2.grown hg9 (hvl2.out _ _ _ (hs7 i hik).2 (by decide))
            exact h1.grown hg10 (hnl _ _ _ h1 (by decide))
        hi := fun i j hi hj e => by
          by_cases e1 : i = k <;> by_cases e2 : j = k
          · omega
          · rw [e1, upd_at, upd_ne _ _ e2] at e
            have := hqs.out j (by omega)
            omega
          · rw [e2, upd_at, upd_ne _ _ e1] at e
            have := hqs.out i (by omega)
            omega
          · rw [upd_ne _ _ e1, upd_ne _ _ e2] at e
            exact hQi i j (by omega) (by omega) e
        bl := hbl }
    · by_cases e1 : i = k
      · rw [e1, upd_at] at e; cases e
      · rw [upd_ne _ _ e1] at e
        rw [upd_ne _ _ e1, upd_ne _ _ e1]
        exact e
  replace hfin := Lib.hid hfin
  go_wp2_with fail
  go_ret
  exact hfin.out
end Go.Proofs.YtejbfglaalmafaaGreatDoor
