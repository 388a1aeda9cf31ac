/- The contract of the store's change: the first one, a put. -/
import Derived.Test.YtejbfglaalmafaaGreatDoorLNumb
namespace Go.Proofs.YtejbfglaalmafaaGreatDoor
open Go.RowKit
set_option linter.unusedVariables false

theorem insert_ne {x : Lit × DataW Unit} {l : List (Lit × DataW Unit)} : DataW.insert x l ≠ [] := by
  cases l with
  | nil => simp [DataW.insert]
  | cons y r =>
    unfold DataW.insert
    split <;> simp
theorem map_clash {w : World} {r n m k : Nat} {G : Nat → Nat} (h : NMap w r n (DK k G)) (hk : 1 ≤ k) (h2 : RMap w r m (.map [])) : False := by
  obtain ⟨es, c, e, _, _, hD⟩ := h
  obtain ⟨es2, c2, e2, _, _, hD2⟩ := h2
  rw [e] at e2
  simp only [Option.some.injEq, Obj.map.injEq] at e2
  obtain ⟨rfl, _⟩ := e2
  have h3 : es.toList = [] := by
    cases hl : es.toList with
    | nil => rfl
    | cons y r =>
      rw [hl] at hD2
      simp only [List.map_cons, List.foldr_cons, DataW.map.injEq] at hD2
      exact absurd hD2.symm insert_ne
  rw [h3] at hD
  simp only [DK, List.map_nil, List.foldr_nil, DataW.map.injEq, List.map_eq_nil_iff, List.range_eq_nil] at hD
  omega
theorem blk_rmap {w : World} {i n : Nat} {D : DataW Unit} {t : TypeId} {cs : Array Value} (h : Blk w i t cs) (k : RMap w i n D) : False := by
  obtain ⟨es, c, e, _⟩ := k
  exact blk_map h e
theorem DS.rows {w w' : World} {b nm dk k r m : Nat} {G : Nat → Nat} {S : Nat → List UInt8} {F : Nat → Bool} {N : Nat} (h : DS w b nm dk k G S F false N) (hk : 1 ≤ k) (hr : RMap w r m (.map [])) (hg : w.grownBy w' (some r)) : DS w' b nm dk k G S F false N := by
  obtain ⟨sm, ch, st, n, ns, D2, kk, h⟩ := h
  obtain ⟨hns, rfl, rfl⟩ := h.hz rfl
  have hb : ∀ i t cs, Blk w i t cs → some i ≠ some r := fun i t cs hi e => by
    injection e with e
    rw [e] at hi
    exact blk_rmap hi hr
  have hn1 : some nm ≠ some r := fun e => by
    injection e with e
    rw [← e] at hr
    exact map_clash h.hm hk hr
  have hn2 : some sm ≠ some r := fun e => by
    injection e with e
    rw [← e] at hr
    exact map_clash h.hs hk hr
  have hfr : Fr (fun i => i = r) w w' := Fr.step (Fr.refl _ w) hg (fun q e => by injection e with e; exact .inl e.symm)
  refine ⟨sm, .slice none 0 0, st, n, ns, DK k G, kk, { h with
    hd := h.hd.grown hg (hb _ _ _ h.hd)
    hm := World.ownsMap.kept h.hm hg hn1
    hs := World.ownsMap.kept h.hs hg hn2
    hc := ?_
    hf := fun i hi => ?_ }⟩
  · obtain ⟨xs, hc⟩ := h.hc
    exact ⟨xs, own_same hc (fun i cs hi => hg.block i hi.lt (hb _ _ _ hi))⟩
  · obtain ⟨h1, s, h2, h3⟩ := h.hf i hi
    refine ⟨h1, s, h2.fr hfr (fun e => ?_) (fun q cs e hq => ?_), h3⟩
    · obtain ⟨cs, hq⟩ := h2.blk
      exact hb _ _ _ hq (by rw [e])
    · exact hb _ _ _ hq (by rw [e])
theorem LGx.rows {w w' : World} {b dk lg k r m : Nat} {Q : Nat → Nat} {ds : Nat → List (List UInt8)} {F : Nat → Bool} {Z : Bool} {v : Value} {sy : Int} {D : DataW Unit} (h : LGx w b dk lg k Q ds F Z v sy) (hr : RMap w r m D) (hg : w.grownBy w' (some r)) : LGx w' b dk lg k Q ds F Z v sy := by
  have hb : ∀ i t cs, Blk w i t cs → some i ≠ some r := fun i t cs hi e => by
    injection e with e
    rw [e] at hi
    exact blk_rmap hi hr
  exact {
    hl := h.hl.grown hg (hb _ _ _ h.hl)
    hv := own_same h.hv (fun i cs hi => hg.block i hi.lt (hb _ _ _ hi))
    hs := fun i hi => ⟨(h.hs i hi).1, (h.hs i hi).2.grown hg (hb _ _ _ (h.hs i hi).2)⟩
    hi := h.hi
    bl := h.bl }
theorem Ty.rmap {b : Nat} {T : TypeId → Bool} {M : Nat → Prop} {w w' : World} (h : Ty b T M w w') {i n : Nat} {D : DataW Unit} (hk : RMap w i n D) (hM : ¬ M i) : RMap w' i n D := by
  obtain ⟨es, c, e, r⟩ := hk
  exact ⟨es, c, (h.map i es c e hM).trans e, r⟩
/-- The text of the record that holds the first put. -/
def recB : List UInt8 := oneB ++ putB 1 [5]
theorem recB_length : recB.length = 18 := by simp [recB, oneB, putB_length]
theorem rec_cat (w : World) : (Op.stringOp .add (ByteArray.mk oneB.toArray) (ByteArray.mk (putB 1 [5]).toArray)).run Tryz.prog w = .ok (.string (ByteArray.mk recB.toArray)) w := by
  rw [run_string_add_sum _ _ _ (by simp only [ByteArray.size, List.size_toArray, putB_length, oneB, List.length_cons, List.length_nil]; simp)]
  have e : ByteArray.mk oneB.toArray ++ ByteArray.mk (putB 1 [5]).toArray = ByteArray.mk recB.toArray := by
    apply ByteArray.ext
    simp [recB]
  rw [e]
def AnyT (b : Nat) (w w' : World) : Prop := Ty b (fun _ => true) (fun _ => True) w w'
theorem Ty.any {b : Nat} {T : TypeId → Bool} {M : Nat → Prop} {w w' : World} (h : Ty b T M w w') : AnyT b w w' := h.mono (fun _ _ => rfl) (fun _ _ => trivial)
def sT (t : TypeId) : Bool := wsT t || t == 131
def SCT (b nm rm : Nat) (w w' : World) : Prop := Ty b sT (fun i => i = nm ∨ i = rm) w w'
def ds1 : Nat → List (List UInt8) := upd (fun _ => []) 0 [recB]
def SChgP (w : World) (b nm dk lg st rm : Nat) (N : Nat) (e : Ending) (w' : World) : Prop := ∃ G' Q' F' A c, e = .returned (.tuple #[.int .i64 1, .int .i64 0]) ∧ WS w' b nm dk lg 1 G' Q' ds1 F' false (N + 1) ∧ Blk w' st 131 (stoV dk lg rm 0 0 (.slice A 1 c)) ∧ SCT b nm rm w w'
theorem put_one : putE 1 [5] = 0 := by decide
theorem achg_info : (Tryz.prog.info? 39).map (fun i => (i.zero, i.size, i.bytes)) = some (some (.agg #[.int .i64 0, .int .i64 0, .slice none 0 0]), 3, 40) := by kernel_rfl
theorem seg_empty (j : Nat) : (segS (fun _ => []) j).length = 16 := by
  rw [segS, segB, recsB, List.append_nil, headB_length]
theorem ds1_of : upd (fun _ => ([] : List (List UInt8))) 0 ([] ++ [recB]) = ds1 := rfl
def SAppP (w : World) (b nm dk lg : Nat) (N : Nat) (e : Ending) (w' : World) : Prop := ∃ G' Q' F', e = .returned (.tuple #[.int .i64 1, .int .i64 0]) ∧ WS w' b nm dk lg 1 G' Q' ds1 F' false (N + 1) ∧ Ty b wsT (fun i => i = nm) w w'
theorem sappend {w : World} {b nm dk lg : Nat} {G Q : Nat → Nat} {F : Nat → Bool} {N : Nat} (hW : WS w b nm dk lg 1 G Q (fun _ => []) F false N) (hN : N ≤ 100000) (hB : Tab w b) (s : ByteArray) (hs : s.data.toList = recB) :
    Calls Tryz.prog 8 #[.pointer (some ⟨lg, 0, none⟩), .string s] w (SAppP w b nm dk lg N) := by
  refine (wappend_ok hW (m := 0) rfl (by omega) (by omega) (by rw [show fiN (fun _ => ([] : List (List UInt8))) 1 = 1 from rfl]; omega) (fun j hj => by rw [seg_empty]; omega) hB s recB hs (by rw [recB_length]; omega)).mono ?_
  rintro e w' ⟨k', G', Q', ds', F', Z', rfl, hG, hZ, hW', hT⟩
  rcases hG with ⟨_, rfl, rfl⟩ | ⟨h, _⟩
  · have := hZ rfl
    subst this
    exact ⟨G', Q', F', rfl, hW', hT⟩
  · rw [seg_empty] at h
    omega
set_option maxRecDepth 100000 in
set_option maxHeartbeats 4000000 in
theorem schange_ok {w : World} {b nm dk lg st rm g c : Nat} {G Q : Nat → Nat} {F : Nat → Bool} {N : Nat} (hW : WS w b nm dk lg 1 G Q (fun _ => []) F false N) (hN : N ≤ 100000) (hB : Tab w b) (hst : Blk w st 131 (stoV dk lg rm 0 0 (.slice none 0 0))) (hbs : b ≤ st) (hbr : b ≤ rm) (hm : RMap w rm 0 (.map [])) (hrn : rm ≠ nm) (hv : Row w (some ⟨g, 0, none⟩) [5]) :
    Calls Tryz.prog 71 #[.pointer (some ⟨st, 0, none⟩), .agg #[.int .i64 1, .int .i64 1, .slice (some ⟨g, 0, none⟩) 1 c]] w (SChgP w b nm dk lg st rm N) := by
  have hba := below_alloc1 w (.cells #[.int .i64 1, .int .i64 1, .slice (some ⟨g, 0, none⟩) 1 c] 39)
  have hcb := Blk.new w 39 #[.int .i64 1, .int .i64 1, .slice (some ⟨g, 0, none⟩) 1 c]
  have hW1 := hW.below hba
  have hst1 := hst.below hba hst.lt
  have hm1 : RMap (w.alloc (.cells #[.int .i64 1, .int .i64 1, .slice (some ⟨g, 0, none⟩) 1 c] 39)) rm 0 (.map []) := World.ownsMap.alloc hm _
  have hT1 : SCT b nm rm w (w.alloc (.cells #[.int .i64 1, .int .i64 1, .slice (some ⟨g, 0, none⟩) 1 c] 39)) := (Ty.of_below (T := sT) hba hW.size)
  have hv1 := hv.below hba
  have hcat := rec_cat
  obtain ⟨T1, hT1s⟩ : ∃ T, strV oneB = .string T := ⟨_, rfl⟩
  obtain ⟨T2, hT2s⟩ : ∃ T, strV (putB 1 [5]) = .string T := ⟨_, rfl⟩
  obtain ⟨T3, hT3s⟩ : ∃ T, ByteArray.mk recB.toArray = T := ⟨_, rfl⟩
  have hT3d : T3.data.toList = recB := by rw [← hT3s]
  have e1 : ByteArray.mk oneB.toArray = T1 := by simpa [strV] using hT1s
  have e2 : ByteArray.mk (putB 1 [5]).toArray = T2 := by simpa [strV] using hT2s
  rw [e1, e2, hT3s] at hcat
  clear e1 e2 hT3s hW hst hm hba
  have hPut := Lib.hid (fun (x : World) (hx : Row x (some ⟨g, 0, none⟩) [5]) => put_ok 1 (some ⟨g, 0, none⟩) [5] c x hx put_one (by simp))
  have hPt : ∀ e w' (x : World), TextPost x (putB 1 [5]) 0 e w' → e = .returned (.tuple #[.string T2, .int .i64 0]) ∧ Below x.heap.size x w' := fun e w' x h => by rw [← hT2s]; exact h
  have hLy : ∀ x : World, Calls Tryz.prog 93 #[.int .i64 1] x fun e w' => e = .returned (.string T1) ∧ Below x.heap.size x w' := fun x => by rw [← hT1s]; exact lay_one x
  replace hLy := Lib.hid hLy
  replace hPt := Lib.hid hPt
  go_enter Tryz.func71, Tryz.ntmps71
  go_upto_region 1 with fail
  obtain ⟨cb, hcbq⟩ : ∃ cb, w.heap.size = cb := ⟨_, rfl⟩
  rw [hcbq] at hcb
  simp only [hcbq]
  generalize w.alloc (.cells #[.int .i64 1, .int .i64 1, .slice (some ⟨g, 0, none⟩) 1 c] 39) = w1 at *
  clear hcbq
  have b0 := hcb.cell 0
  have b1 := hcb.cell 1
  have b2 := hcb.cell 2
  have hPut1 := Lib.hid (hPut.out w1 hv1)
  clear hPut
  go_wp2_with fail
  refine hPut1.out.mono ?_
  intro e w2 hx
  obtain ⟨rfl, hb2⟩ := hPt.out e w2 w1 hx
  have hW2 := hW1.below hb2
  have hst2 := hst1.below hb2 hst1.lt
  have hm2 : RMap w2 rm 0 (.map []) := World.ownsMap.kept hm1 (grown_of_below hb2 none) (by simp)
  have hT2 : SCT b nm rm w w2 := hT1.trans (Ty.of_below hb2 hW1.size)
  have hcb2 := hcb.below hb2 hcb.lt
  have hSq := Lib.hid (seq_ok (first := 0) (n := 0) (by omega) hst2)
  clear hW1 hst1 hm1 hT1 hcb hx hb2 hPut1 hPt b0 b1 b2 hv hv1
  go_wp2_with fail
  refine hSq.out.mono ?_
  rintro e w3 ⟨rfl, hb3⟩
  have hW3 := hW2.below hb3
  have hst3 := hst2.below hb3 hst2.lt
  have hm3 : RMap w3 rm 0 (.map []) := World.ownsMap.kept hm2 (grown_of_below hb3 none) (by simp)
  have hT3 : SCT b nm rm w w3 := hT2.trans (Ty.of_below hb3 hW2.size)
  have hcb3 := hcb2.below hb3 hcb2.lt
  clear hW2 hst2 hm2 hT2 hcb2 hb3 hSq
  go_upto_region 5 with fail
  have hW4 : WS w3.drew b nm dk lg 1 G Q (fun _ => []) F false N := hW3.below ((Below.refl _ w3).drew)
  have hst4 : Blk w3.drew st 131 (stoV dk lg rm 0 0 (.slice none 0 0)) := hst3
  have hm4 : RMap w3.drew rm 0 (.map []) := World.ownsMap.drew hm3
  have hT4 : SCT b nm rm w w3.drew := hT3.drew
  have hcb4 : Blk w3.drew cb 39 #[.int .i64 1, .int .i64 1, .slice (some ⟨g, 0, none⟩) 1 c] := hcb3
  have S0 : w3.drew.cell? ⟨st, 2, none⟩ = some (.pointer (some ⟨lg, 0, none⟩)) := hst4.cell 2
  have hAp := Lib.hid (fun (x : World) (hb : Below w3.drew.heap.size w3.drew x) => sappend (hW4.below hb) hN (hB.ty (hT4.trans (Ty.of_below hb hW4.size))) T3 hT3d)
  have hS1 := Lib.hid (fun (x : World) (hb : Below w3.drew.heap.size w3.drew x) => below_cell hb S0)
  clear hW3 hst3 hm3 hT3 hcb3
  replace hN := Lib.hid hN
  go_region_held3 (fun w' => w'.cell? ⟨st, 2, none⟩ = some (.pointer (some ⟨lg, 0, none⟩)))
    (first | (with_reducible exact S0) | (with_reducible exact S1) | (with_reducible exact S2))
    ((first
      | (go_at_call 93; (with_reducible refine (hLy.out _).mono ?_); rintro e x4 ⟨rfl, hb4⟩; have S1 := hS1.out x4 hb4)
      | (go_at_call 8; (with_reducible refine (hAp.out _ hb4).mono ?_); rintro e x5 ⟨G5, Q5, F5, rfl, hW5, hT5⟩; have hst5 := hT5.blk (hst4.below hb4 hst4.lt) rfl; have S2 := show x5.cell? ⟨st, 2, none⟩ = some (.pointer (some ⟨lg, 0, none⟩)) from hst5.cell 2)))
  have hm5 : RMap x5 rm 0 (.map []) := hT5.rmap (World.ownsMap.kept hm4 (grown_of_below hb4 none) (by simp)) hrn
  have hT6 : SCT b nm rm w x5 := (hT4.trans (Ty.of_below hb4 hW4.size)).trans (hT5.mono (fun t e => by simp only [sT, e, Bool.true_or]) (fun _ e => .inl e))
  have hcb5 := hT5.blk (hcb4.below hb4 hcb4.lt) rfl
  clear hW4 hst4 hm4 hT4 hcb4 S0 S1 S2 hAp hS1 hb4 hT5 hLy hcat
  have hDo := Lib.hid (sdo_ok (g := g) (c := c) hst5 hm5 (by omega))
  have b0 := hcb5.cell 0
  have b1 := hcb5.cell 1
  have b2 := hcb5.cell 2
  go_wp2_with fail
  refine hDo.out.mono ?_
  rintro e x6 ⟨rfl, hm6, hg6⟩
  obtain ⟨⟨v5, sy5, hL5⟩, hD5⟩ := hW5
  have hW6 : WS x6 b nm dk lg 1 G5 Q5 ds1 F5 false (N + 1) := ⟨⟨v5, sy5, hL5.rows hm5 hg6⟩, hD5.rows (by omega) hm5 hg6⟩
  have hne : ∀ i t cs, Blk x5 i t cs → some i ≠ some rm := fun i t cs hi e => by
    injection e with e
    rw [e] at hi
    exact blk_rmap hi hm5
  have hst6 := hst5.grown hg6 (hne _ _ _ hst5)
  have hcb6 := hcb5.grown hg6 (hne _ _ _ hcb5)
  have hT7 : SCT b nm rm w x6 := hT6.trans (Ty.of_grown hg6 hD5.size ⟨hbr, fun _ _ hb => (blk_rmap hb hm5).elim, fun _ _ _ => .inr rfl⟩)
  clear hDo hL5 hD5 hst5 hcb5 hT6 hm5 hne hm6 hg6 b0 b1 b2
  have b0 := hcb6.cell 0
  have b1 := hcb6.cell 1
  have b2 := hcb6.cell 2
  go_upto_region 9 with fail
  have s6 : x6.cell? ⟨st, 6, none⟩ = some (.slice none 0 0) := hst6.cell 6
  have s6f := hst6.frozen 6
  have hlt1 : st < x6.heap.size := hst6.lt
  have hlt2 : cb < x6.heap.size := hcb6.lt
  have e0 := (grown_alloc x6.drew (.cells #[.int .i64 1, .int .i64 1, .slice (some ⟨g, 0, none⟩) 1 c] 39)).cell (a := ⟨st, 6, none⟩) s6 (by simp)
  have hst6d : Blk x6.drew st 131 (stoV dk lg rm 0 0 (.slice none 0 0)) := hst6
  have hW6d : WS x6.drew b nm dk lg 1 G5 Q5 ds1 F5 false (N + 1) := hW6.below ((Below.refl _ x6).drew)
  have hT7d : SCT b nm rm w x6.drew := hT7.drew
  have hbx : b ≤ x6.drew.heap.size := hW6d.size
  clear hst6 hcb6 hW6 hT7
  go_region_law (refine step_append_three b rfl (.tmp 44) (.tmp 46) 34 39 (.agg #[.int .i64 0, .int .i64 0, .slice none 0 0]) 40 rfl Tryz.underlying34 achg_info rfl (by omega) (.slice none 0 0) 0 [] (.int .i64 1) (.int .i64 1) (.slice (some ⟨g, 0, none⟩) 1 c) rfl rfl rfl rfl rfl (World.ownsRow_nil _ _ _ _) hbx (by omega) ?_; intro g6 cap6 x7 HO6 hg6 hat6; have hst7 := hst6d.grown hg6 (by simp [Value.ownBlock]); have d6 : x7.cell? ⟨st, 6, none⟩ = some (.slice none 0 0) := hst7.cell 6; have f6 := hst7.frozen 6)
  all_goals (
    have hT8 : Ty b (fun _ => false) (fun _ => False) x6.drew x7 := Ty.of_fr (own := fun _ => False) ((Fr.refl _ _).step hg6 (by simp [Value.ownBlock])) hbx (fun i e => e.elim)
    have hW7 := hW6d.ty hT8 (fun _ _ => rfl) rfl
    have hT9 : Ty b (fun t => t == 131) (fun _ => False) x7 (x7.setCell ⟨st, 6, none⟩ (.slice (some ⟨g6, 0, none⟩) (0 + 1) cap6)) := Ty.of_grown (grown_set x7 _ _) hW7.size (Owned.blk hst7 hbs rfl)
    have hW8 := hW7.ty hT9 (fun t ht => by
      cases h : (t == 131) with
      | false => rfl
      | true =>
        simp only [beq_iff_eq] at h
        subst h
        exact absurd ht (by decide)) rfl
    have hst8 : Blk (x7.setCell ⟨st, 6, none⟩ (.slice (some ⟨g6, 0, none⟩) (0 + 1) cap6)) st 131 (stoV dk lg rm 0 0 (.slice (some ⟨g6, 0, none⟩) 1 cap6)) := hst7.set_ 6 _
    have hfin : SChgP w b nm dk lg st rm N (.returned (.tuple #[.int .i64 1, .int .i64 0])) (x7.setCell ⟨st, 6, none⟩ (.slice (some ⟨g6, 0, none⟩) (0 + 1) cap6)) := ⟨_, _, _, _, _, rfl, hW8, hst8, (hT7d.trans (hT8.mono (fun t e => by cases e) (fun _ e => e.elim))).trans (hT9.mono (fun t e => by simp only [sT, e, Bool.or_true]) (fun _ e => e.elim))⟩
    replace hfin := Lib.hid hfin
    clear hT8 hW7 hT9 hW8 hst8 hst7 d6 f6 HO6 hg6
    go_wp2_with fail
    go_ret2
    exact hfin.out)
end Go.Proofs.YtejbfglaalmafaaGreatDoor
