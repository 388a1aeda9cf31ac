/- The contracts of the store's Put (the first one), Sync, Get. -/
import Derived.Test.YtejbfglaalmafaaGreatDoorLSChg
namespace Go.Proofs.YtejbfglaalmafaaGreatDoor
open Go.RowKit
set_option linter.unusedVariables false

theorem vec_five : vecE [5] 1 = 0 := vecE_zero (by omega) (by omega) rfl (fun j hj => by
  have : j = 0 := by simp at hj; omega
  subst this
  exact ⟨by decide, by decide⟩)
set_option maxRecDepth 100000 in
theorem may_ok (g c : Nat) (w : World) (hv : Row w (some ⟨g, 0, none⟩) [5]) :
    Calls Tryz.prog 70 #[.agg #[.int .i64 1, .slice (some ⟨g, 0, none⟩) 1 c], .int .i64 1, .bool false, .int .i64 0] w fun e w' => e = .returned (.int .i64 0) ∧ Below w.heap.size w w' := by
  have hba := below_alloc1 w (.cells #[.int .i64 1, .slice (some ⟨g, 0, none⟩) 1 c] 37)
  have hrb := Blk.new w 37 #[.int .i64 1, .slice (some ⟨g, 0, none⟩) 1 c]
  have hV := Lib.hid (fun (x : World) (hx : Row x (some ⟨g, 0, none⟩) [5]) => vec_any (some ⟨g, 0, none⟩) [5] c 1 x hx)
  rw [vec_five] at hV
  have hv1 := hv.below hba
  go_enter Tryz.func70, Tryz.ntmps70
  go_upto_region 1 with fail
  obtain ⟨rb, hrbq⟩ : ∃ rb, w.heap.size = rb := ⟨_, rfl⟩
  have hba2 := hba
  rw [hrbq] at hrb hba
  simp only [hrbq]
  generalize w.alloc (.cells #[.int .i64 1, .slice (some ⟨g, 0, none⟩) 1 c] 37) = w1 at *
  have b0 := hrb.cell 0
  have b1 := hrb.cell 1
  have hV1 := Lib.hid (hV.out w1 hv1)
  clear hV hv hv1
  go_wp2_with fail
  refine hV1.out.mono ?_
  rintro e w2 ⟨rfl, rfl⟩
  go_wp2_with fail
  go_ret
  exact ⟨rfl, hba2⟩
theorem five_clone (g c : Nat) (w : World) (hv : Row w (some ⟨g, 0, none⟩) [5]) :
    Calls Tryz.prog 72 #[.slice (some ⟨g, 0, none⟩) 1 c] w fun e w' => ∃ g2 c2, e = .returned (.slice (some ⟨g2, 0, none⟩) 1 c2) ∧ Row w' (some ⟨g2, 0, none⟩) [5] ∧ Below w.heap.size w w' := by
  refine (Tryz.slices_Clone_int g 0 1 c [5] w (by simp) (by omega) (fun j hj => ?_)).mono ?_
  · obtain ⟨g1, o1, e, r⟩ := hv j hj
    simp only [Option.some.injEq, Addr.mk.injEq, and_true] at e
    obtain ⟨rfl, rfl⟩ := e
    exact r
  · rintro e w' ⟨v, rfl, ho, _, hb⟩
    obtain ⟨g2, c2, rfl, _, _⟩ := own_shape ho (by omega)
    refine ⟨g2, c2, rfl, fun j hj => ⟨g2, 0, rfl, ?_⟩, hb⟩
    have h0 : j = 0 := by simp at hj; omega
    subst h0
    exact ho.cellAt 0 (by omega)
theorem row_len {w : World} {rm n : Nat} {D : DataW Unit} (h : RMap w rm n D) (ty : TypeId) : (Builtin.len_ #[129] ty #[.map (some rm)]).run Tryz.prog w = .ok (.int .i64 (Maps.size D)) w := World.ownsMap.len (t := 129) h Tryz.underlying129 ty
set_option maxRecDepth 100000 in
set_option maxHeartbeats 4000000 in
theorem sput_ok {w : World} {b nm dk lg st rm g c : Nat} {G Q : Nat → Nat} {F : Nat → Bool} {N : Nat} (hW : WS w b nm dk lg 1 G Q (fun _ => []) F false N) (hN : N ≤ 100000) (hB : Tab w b) (hst : Blk w st 131 (stoV dk lg rm 0 0 (.slice none 0 0))) (hbs : b ≤ st) (hbr : b ≤ rm) (hm : RMap w rm 0 (.map [])) (hrn : rm ≠ nm) (hv : Row w (some ⟨g, 0, none⟩) [5]) :
    Calls Tryz.prog 38 #[.pointer (some ⟨st, 0, none⟩), .agg #[.int .i64 1, .slice (some ⟨g, 0, none⟩) 1 c]] w (SChgP w b nm dk lg st rm N) := by
  have hba := below_alloc1 w (.cells #[.int .i64 1, .slice (some ⟨g, 0, none⟩) 1 c] 37)
  have hrb := Blk.new w 37 #[.int .i64 1, .slice (some ⟨g, 0, none⟩) 1 c]
  have hW1 := hW.below hba
  have hst1 := hst.below hba hst.lt
  have hm1 : RMap (w.alloc (.cells #[.int .i64 1, .slice (some ⟨g, 0, none⟩) 1 c] 37)) rm 0 (.map []) := World.ownsMap.alloc hm _
  have hT1 : SCT b nm rm w (w.alloc (.cells #[.int .i64 1, .slice (some ⟨g, 0, none⟩) 1 c] 37)) := (Ty.of_below (T := sT) hba hW.size)
  have hv1 := hv.below hba
  clear hW hst hm hba hv
  go_enter Tryz.func38, Tryz.ntmps38
  go_upto_region 1 with fail
  obtain ⟨rb, hrbq⟩ : ∃ rb, w.heap.size = rb := ⟨_, rfl⟩
  rw [hrbq] at hrb
  simp only [hrbq]
  generalize w.alloc (.cells #[.int .i64 1, .slice (some ⟨g, 0, none⟩) 1 c] 37) = w1 at *
  clear hrbq
  have b0 := hrb.cell 0
  have b1 := hrb.cell 1
  have s3 : w1.cell? ⟨st, 3, none⟩ = some (.map (some rm)) := hst1.cell 3
  have hnt := row_not (World.ownsMap.drew hm1) (by rfl)
  go_upto_region 3 with fail
  go_region
  have hW2 : WS w1.drew b nm dk lg 1 G Q (fun _ => []) F false N := hW1.below ((Below.refl _ w1).drew)
  have hst2 : Blk w1.drew st 131 (stoV dk lg rm 0 0 (.slice none 0 0)) := hst1
  have hm2 : RMap w1.drew rm 0 (.map []) := World.ownsMap.drew hm1
  have hT2 : SCT b nm rm w w1.drew := hT1.drew
  have hrb2 : Blk w1.drew rb 37 #[.int .i64 1, .slice (some ⟨g, 0, none⟩) 1 c] := hrb
  have hv2 : Row w1.drew (some ⟨g, 0, none⟩) [5] := hv1
  clear hW1 hst1 hm1 hT1 hrb hv1 b0 b1 s3 hnt
  generalize w1.drew = w2 at *
  have hW3 : WS w2.drew b nm dk lg 1 G Q (fun _ => []) F false N := hW2.below ((Below.refl _ w2).drew)
  have hst3 : Blk w2.drew st 131 (stoV dk lg rm 0 0 (.slice none 0 0)) := hst2
  have hm3 : RMap w2.drew rm 0 (.map []) := World.ownsMap.drew hm2
  have hT3 : SCT b nm rm w w2.drew := hT2.drew
  have hrb3 : Blk w2.drew rb 37 #[.int .i64 1, .slice (some ⟨g, 0, none⟩) 1 c] := hrb2
  have hv3 : Row w2.drew (some ⟨g, 0, none⟩) [5] := hv2
  have hMy := Lib.hid (may_ok g c w2.drew hv3)
  have hlen : ∀ x : World, RMap x rm 0 (.map []) → (Builtin.len_ #[129] 3 #[.map (some rm)]).run Tryz.prog x = .ok (.int .i64 0) x := fun x hx => row_len hx 3
  have hln := hlen _ hm3
  replace hlen := Lib.hid hlen
  have S0 : w2.drew.cell? ⟨st, 3, none⟩ = some (.map (some rm)) ∧ w2.drew.cell? ⟨st, 0, none⟩ = some (.int .i64 1) ∧ w2.drew.cell? ⟨rb, 0, none⟩ = some (.int .i64 1) ∧ w2.drew.cell? ⟨rb, 1, none⟩ = some (.slice (some ⟨g, 0, none⟩) 1 c) ∧ (Builtin.len_ #[129] 3 #[.map (some rm)]).run Tryz.prog w2.drew = .ok (.int .i64 0) w2.drew := ⟨hst3.cell 3, hst3.cell 0, hrb3.cell 0, hrb3.cell 1, hln⟩
  clear hW2 hst2 hm2 hT2 hrb2 hv2
  go_upto_region 4 with fail
  go_region_held3 (fun w' => w'.cell? ⟨st, 3, none⟩ = some (.map (some rm)) ∧ w'.cell? ⟨st, 0, none⟩ = some (.int .i64 1) ∧ w'.cell? ⟨rb, 0, none⟩ = some (.int .i64 1) ∧ w'.cell? ⟨rb, 1, none⟩ = some (.slice (some ⟨g, 0, none⟩) 1 c) ∧ (Builtin.len_ #[129] 3 #[.map (some rm)]).run Tryz.prog w' = .ok (.int .i64 0) w')
    (first | (with_reducible exact S0) | (with_reducible exact S1))
    ((go_at_call 70; (with_reducible refine hMy.out.mono ?_); rintro e x1 ⟨rfl, hb1⟩; have S1 := And.intro (below_cell hb1 S0.1) (And.intro (below_cell hb1 S0.2.1) (And.intro (below_cell hb1 S0.2.2.1) (And.intro (below_cell hb1 S0.2.2.2.1) (hlen.out x1 (World.ownsMap.kept hm3 (grown_of_below hb1 none) (by simp))))))))
  have hW4 : WS x1.drew b nm dk lg 1 G Q (fun _ => []) F false N := (hW3.below hb1).below ((Below.refl _ x1).drew)
  have hst4 : Blk x1.drew st 131 (stoV dk lg rm 0 0 (.slice none 0 0)) := Blk.drew (hst3.below hb1 hst3.lt)
  have hm4 : RMap x1.drew rm 0 (.map []) := World.ownsMap.drew (World.ownsMap.kept hm3 (grown_of_below hb1 none) (by simp))
  have hT4 : SCT b nm rm w x1.drew := (hT3.trans (Ty.of_below hb1 hW3.size)).drew
  have hrb4 : Blk x1.drew rb 37 #[.int .i64 1, .slice (some ⟨g, 0, none⟩) 1 c] := Blk.drew (hrb3.below hb1 hrb3.lt)
  have hv4' := hv3.below hb1
  have hv4 : Row x1.drew (some ⟨g, 0, none⟩) [5] := hv4'
  clear hv4'
  clear S0 S1 hW3 hst3 hm3 hT3 hrb3 hv3 hMy hln hb1 hlen
  have hCl := Lib.hid (five_clone g c x1.drew hv4)
  have hCh := Lib.hid (fun (x : World) (hb : Below x1.drew.heap.size x1.drew x) (g2 c2 : Nat) (hv2 : Row x (some ⟨g2, 0, none⟩) [5]) => schange_ok (c := c2) (hW4.below hb) hN (hB.ty (hT4.trans (Ty.of_below hb hW4.size))) (hst4.below hb hst4.lt) hbs hbr (World.ownsMap.kept hm4 (grown_of_below hb none) (by simp)) hrn hv2)
  have S0 : x1.drew.cell? ⟨rb, 0, none⟩ = some (.int .i64 1) ∧ x1.drew.cell? ⟨rb, 1, none⟩ = some (.slice (some ⟨g, 0, none⟩) 1 c) := ⟨hrb4.cell 0, hrb4.cell 1⟩
  have hS1 := Lib.hid (fun (x : World) (hb : Below x1.drew.heap.size x1.drew x) => held_pair S0 hb)
  replace hN := Lib.hid hN
  go_upto_region 10 with fail
  go_region_held3 (fun w' => w'.cell? ⟨rb, 0, none⟩ = some (.int .i64 1) ∧ w'.cell? ⟨rb, 1, none⟩ = some (.slice (some ⟨g, 0, none⟩) 1 c))
    (first | (with_reducible exact S0) | (with_reducible exact S1) | (with_reducible exact S2))
    ((first
      | (go_at_call 72; (with_reducible refine hCl.out.mono ?_); rintro e x2 ⟨g2, c2, rfl, hv5, hb2⟩; have S1 := hS1.out x2 hb2)
      | (go_at_call 71; (with_reducible refine (hCh.out _ hb2 g2 c2 hv5).mono ?_); rintro e x3 ⟨G3, Q3, F3, A3, c3, rfl, hW5, hst5, hT5⟩; have hrb5 := hT5.blk (hrb4.below hb2 hrb4.lt) rfl; have S2 := And.intro (show x3.cell? ⟨rb, 0, none⟩ = some (.int .i64 1) from hrb5.cell 0) (show x3.cell? ⟨rb, 1, none⟩ = some (.slice (some ⟨g, 0, none⟩) 1 c) from hrb5.cell 1))))
  have hfin : SChgP w b nm dk lg st rm N (.returned (.tuple #[.int .i64 1, .int .i64 0])) x3 := ⟨_, _, _, _, _, rfl, hW5, hst5, (hT4.trans (Ty.of_below hb2 hW4.size)).trans hT5⟩
  replace hfin := Lib.hid hfin
  clear hW4 hst4 hm4 hT4 hrb4 hv4 hCl hCh S0 S1 S2 hS1 hW5 hst5 hT5 hrb5 hb2 hv5
  go_wp2_with fail
  go_ret2
  exact hfin.out
def SSyncP (w : World) (b nm dk lg st rm : Nat) (G Q : Nat → Nat) (N : Nat) (e : Ending) (w' : World) : Prop := e = .returned (.int .i64 0) ∧ WS w' b nm dk lg 1 G Q ds1 (fun _ => false) false N ∧ AnyT b w w'
set_option maxRecDepth 100000 in
set_option maxHeartbeats 4000000 in
theorem ssync_ok {w : World} {b nm dk lg st rm c : Nat} {G Q : Nat → Nat} {F : Nat → Bool} {N : Nat} {A : Option Addr} (hW : WS w b nm dk lg 1 G Q ds1 F false N) (hst : Blk w st 131 (stoV dk lg rm 0 0 (.slice A 1 c))) (hbs : b ≤ st) :
    Calls Tryz.prog 39 #[.pointer (some ⟨st, 0, none⟩)] w (SSyncP w b nm dk lg st rm G Q N) := by
  have s2 : w.cell? ⟨st, 2, none⟩ = some (.pointer (some ⟨lg, 0, none⟩)) := hst.cell 2
  have hSy := Lib.hid (wsync_ok hW (by omega) (by rw [show fiN ds1 1 = 2 from rfl]; omega))
  have hbw := hW.size
  clear hW
  go_enter Tryz.func39, Tryz.ntmps39
  go_wp2_with fail
  refine hSy.out.mono ?_
  rintro e w1 ⟨rfl, hW1, hT1⟩
  have hst1 := hT1.blk hst rfl
  have hSq := Lib.hid (seq_ok (first := 0) (n := 1) (by omega) hst1)
  clear hst hSy s2
  go_wp2_with fail
  refine hSq.out.mono ?_
  rintro e w2 ⟨rfl, hb2⟩
  have hW2 := hW1.below hb2
  have hst2 := hst1.below hb2 hst1.lt
  have s5 : w2.cell? ⟨st, 5, none⟩ = some (.int .i64 0) := hst2.cell 5
  have s5f := hst2.frozen 5
  have hT2 : Ty b (fun t => t == 131) (fun _ => False) w2 (w2.setCell ⟨st, 5, none⟩ (.int .i64 1)) := Ty.of_grown (grown_set w2 _ _) hW2.size (Owned.blk hst2 hbs rfl)
  have hW3 := hW2.ty hT2 (fun t ht => by
    cases h : (t == 131) with
    | false => rfl
    | true =>
      simp only [beq_iff_eq] at h
      subst h
      exact absurd ht (by decide)) rfl
  have hfin : SSyncP w b nm dk lg st rm G Q N (.returned (.int .i64 0)) (w2.setCell ⟨st, 5, none⟩ (.int .i64 1)) := ⟨rfl, hW3, (hT1.any.trans (Ty.of_below hb2 hW1.size)).trans hT2.any⟩
  replace hfin := Lib.hid hfin
  clear hW1 hT1 hst1 hSq hb2 hW2 hst2 hT2 hW3
  go_wp2_with fail
  go_ret
  exact hfin.out
def SGetP (w : World) (e : Ending) (w' : World) : Prop := ∃ g c, e = .returned (.tuple #[.slice (some ⟨g, 0, none⟩) 1 c, .int .i64 0]) ∧ Row w' (some ⟨g, 0, none⟩) [5] ∧ Below w.heap.size w w'
set_option maxRecDepth 100000 in
set_option maxHeartbeats 4000000 in
theorem sget_ok {w : World} {st dk lg rm n g : Nat} {first safe : Int} {ch : Value} {D : DataW Unit} (hst : Blk w st 131 (stoV dk lg rm first safe ch)) (hm : RMap w rm n D) (hat : D.atKey oneK .nil = .lit (.int .i64 (g : Int))) (hv : Row w (some ⟨g, 0, none⟩) [5]) :
    Calls Tryz.prog 40 #[.pointer (some ⟨st, 0, none⟩), .int .i64 1] w (SGetP w) := by
  obtain ⟨c, hlk⟩ := row_there hm hat
  have hCl := Lib.hid (five_clone g c w hv)
  have s3 : w.cell? ⟨st, 3, none⟩ = some (.map (some rm)) := hst.cell 3
  clear hst hm hat hv
  go_enter Tryz.func40, Tryz.ntmps40
  go_wp2_with fail
  refine hCl.out.mono ?_
  rintro e w1 ⟨g2, c2, rfl, hv2, hb2⟩
  go_wp2_with fail
  go_ret2
  exact ⟨_, _, rfl, hv2, hb2⟩
end Go.Proofs.YtejbfglaalmafaaGreatDoor
