/- The contract of store.Open on a disk that holds one record: a put. -/
import Derived.Test.YtejbfglaalmafaaGreatDoorLSOpen
namespace Go.Proofs.YtejbfglaalmafaaGreatDoor
open Go.RowKit
set_option linter.unusedVariables false

theorem seg_ds1 (j : Nat) (hj : j < 1) : (segS ds1 j).length = 50 := by
  have e : j = 0 := by omega
  subst e
  have h : segS ds1 0 = headB ((fiN ds1 0 : Nat) : Int) ++ (laidB (fiN ds1 0) recB ++ []) := rfl
  rw [h, List.length_append, headB_length, List.append_nil, laidB_length, recB_length]
theorem ds1_datas (j : Nat) (hj : j < 1) : Datas (ds1 j) := fun d hd => by
  have e : j = 0 := by omega
  subst e
  have h : ds1 0 = [recB] := rfl
  rw [h, List.mem_singleton] at hd
  subst hd
  rw [recB_length]
  omega
theorem five_good : GoodV [5] := ⟨by simp, by simp, fun x hx => by
  simp only [List.mem_singleton] at hx
  subst hx
  exact ⟨by decide, by decide⟩⟩
theorem AnyT.step {b : Nat} {w x x' : World} {r : Option Nat} (h : AnyT b w x) (hb : b ≤ w.heap.size) (hg : x.grownBy x' r) (hr : ∀ k, r = some k → b ≤ k) : AnyT b w x' where
  os := hg.os.trans h.os
  tape := hg.tape.trans h.tape
  output := hg.output.trans h.output
  size := Nat.le_trans h.size hg.size
  low := fun i hi => (hg.block i (Nat.lt_of_lt_of_le (Nat.lt_of_lt_of_le hi hb) h.size) (fun e => by have := hr i e.symm; omega)).trans (h.low i hi)
  row := fun i t cs _ ht => by cases ht
  map := fun i es c _ hm => (hm trivial).elim
theorem AnyT.below {b : Nat} {w x x' : World} (h : AnyT b w x) (hb : b ≤ w.heap.size) (hg : Below x.heap.size x x') : AnyT b w x' := h.step hb (grown_of_below hg none) (by simp)
def OneDone (b : Nat) (w wr : World) (dk lg rm st sc ec : Nat) : Prop := ∃ (n g : Nat) (D : DataW Unit), AnyT b w wr ∧ Blk wr sc 100 #[.pointer (some ⟨st, 0, none⟩)] ∧ Blk wr ec 27 #[.int .i64 0] ∧ Blk wr st 131 (stoV dk lg rm 1 0 (.slice none 0 0)) ∧ RMap wr rm n D ∧ D.atKey oneK .nil = .lit (.int .i64 (g : Int)) ∧ Row wr (some ⟨g, 0, none⟩) [5] ∧ g ≠ st
def SOneP (b : Nat) (w : World) (e : Ending) (w' : World) : Prop := ∃ (st dk lg rm n g : Nat) (D : DataW Unit), AnyT b w w' ∧ e = .returned (.tuple #[.pointer (some ⟨st, 0, none⟩), .int .i64 0]) ∧ Blk w' st 131 (stoV dk lg rm 1 1 (.slice none 0 0)) ∧ RMap w' rm n D ∧ D.atKey oneK .nil = .lit (.int .i64 (g : Int)) ∧ Row w' (some ⟨g, 0, none⟩) [5]
set_option maxRecDepth 100000 in
set_option maxHeartbeats 4000000 in
theorem sopen_one {w : World} {b nm dk : Nat} {G : Nat → Nat} {F : Nat → Bool} {Z : Bool} {N : Nat} (h : DS w b nm dk 1 G (segS ds1) F Z N) :
    Calls Tryz.prog 37 #[.pointer (some ⟨dk, 0, none⟩), .int .i64 1] w (SOneP b w) := by
  have hmf : ∀ (fn : Fn) (first cap : Array Value) (w : World), (Instr.makeFunc fn first cap).run Tryz.prog w = .ok (.func fn first cap) w := fun _ _ _ _ => rfl
  have hmm := @run_makeMap Tryz.prog
  have hbw := h.size
  have hb1 := below_alloc1 w (.cells #[.pointer none] 100)
  have hb2 : Below w.heap.size w ((w.alloc (.cells #[.pointer none] 100)).alloc (.cells #[.int .i64 0] 27)) := hb1.alloc (by simp) _
  have hsc := (Blk.new w 100 #[.pointer none]).alloc (.cells #[.int .i64 0] 27)
  have hec := Blk.new (w.alloc (.cells #[.pointer none] 100)) 27 #[.int .i64 0]
  have hsz : (w.alloc (.cells #[.pointer none] 100)).heap.size = w.heap.size + 1 := by simp
  rw [hsz] at hec
  go_enter_defers Tryz.func37, Tryz.ntmps37
  go_upto_region 3 with fail
  obtain ⟨sc, hscq⟩ : ∃ sc, w.heap.size = sc := ⟨_, rfl⟩
  have hscw : w.heap.size ≤ sc := by omega
  have hbsc : b ≤ sc := by omega
  have hD2 := h.below hb2
  have hT2 : AnyT b w ((w.alloc (.cells #[.pointer none] 100)).alloc (.cells #[.int .i64 0] 27)) := Ty.of_below hb2 hbw
  rw [hscq] at hsc hec
  simp only [hscq]
  have hw2s : ((w.alloc (.cells #[.pointer none] 100)).alloc (.cells #[.int .i64 0] 27)).heap.size = sc + 2 := by simp; omega
  generalize (w.alloc (.cells #[.pointer none] 100)).alloc (.cells #[.int .i64 0] 27) = w2 at *
  clear hb1 hb2 hsz h
  obtain ⟨ec, hecq⟩ : ∃ ec, sc + 1 = ec := ⟨_, rfl⟩
  have hbec : b ≤ ec := by omega
  rw [hecq] at hec
  simp only [hecq]
  have hse : sc ≠ ec := by omega
  have hw2 : sc < w2.heap.size ∧ ec < w2.heap.size := by omega
  clear hecq hscq hw2s
  have hsc2 : w2.cell? ⟨sc, 0, none⟩ = some (.pointer none) := hsc.cell 0
  have hsf2 := hsc.frozen 0
  go_upto_region 8 with fail
  obtain ⟨rm, hrmq⟩ : ∃ rm, w2.heap.size = rm := ⟨_, rfl⟩
  have hszs : (w2.setCell ⟨sc, 0, none⟩ (.pointer (some ⟨w2.heap.size + 1, 0, none⟩))).heap.size = w2.heap.size := by simp [World.setCell]
  have hgs := grown_set w2 ⟨sc, 0, none⟩ (.pointer (some ⟨w2.heap.size + 1, 0, none⟩))
  have hTs : Ty b (fun t => t == 100) (fun _ => False) w2 (w2.setCell ⟨sc, 0, none⟩ (.pointer (some ⟨w2.heap.size + 1, 0, none⟩))) := Ty.of_grown hgs hD2.size (Owned.blk hsc hbsc rfl)
  have hD3 := hD2.ty hTs rfl rfl rfl rfl
  have hsc3 := hsc.set_ 0 (.pointer (some ⟨w2.heap.size + 1, 0, none⟩))
  have hec3 := hec.grown hgs (fun e => by injection e with e; exact hse e.symm)
  have hT3 := hT2.trans hTs.any
  rw [hrmq] at hszs hTs hD3 hsc3 hec3 hT3 hgs hw2
  simp only [hrmq]
  have hrn : rm ≠ nm := by
    obtain ⟨sm, ch, st, n, ns, D2, kk, hx⟩ := hD2
    have := World.ownsMap.lt hx.hm
    omega
  have hbrm : b ≤ rm := by have := hD2.size; omega
  generalize w2.setCell ⟨sc, 0, none⟩ (.pointer (some ⟨rm + 1, 0, none⟩)) = w3 at *
  clear hsc hec hD2 hT2 hTs hsc2 hsf2 hrmq hgs
  have hb4 := below_alloc1 w3 (.map #[] 0)
  have hrm4 := World.ownsMap_made w3 Tryz.prog 3 rowElem
  have hD4 := hD3.below hb4
  have hsc4 := hsc3.below hb4 hsc3.lt
  have hec4 := hec3.below hb4 hec3.lt
  have hT4 := hT3.trans (Ty.of_below hb4 hD3.size)
  have hsz4 : (w3.alloc (.map #[] 0)).heap.size = rm + 1 := by simp [hszs]
  rw [hszs] at hrm4
  clear hD3 hsc3 hec3 hT3 hb4
  generalize w3.alloc (.map #[] 0) = w4 at *
  have hb5 := below_alloc1 w4 (.cells #[.int .i64 1, .pointer (some ⟨dk, 0, none⟩), .pointer none, .map (some rm), .int .i64 0, .int .i64 0, .slice none 0 0] 131)
  have hst5 := Blk.new w4 131 #[.int .i64 1, .pointer (some ⟨dk, 0, none⟩), .pointer none, .map (some rm), .int .i64 0, .int .i64 0, .slice none 0 0]
  rw [hsz4] at hst5
  have hD5 := hD4.below hb5
  have hsc5 := hsc4.below hb5 hsc4.lt
  have hec5 := hec4.below hb5 hec4.lt
  have hrm5 : RMap (w4.alloc (.cells #[.int .i64 1, .pointer (some ⟨dk, 0, none⟩), .pointer none, .map (some rm), .int .i64 0, .int .i64 0, .slice none 0 0] 131)) rm 0 (.map []) := World.ownsMap.alloc hrm4 _
  have hT5 := hT4.trans (Ty.of_below hb5 hD4.size)
  clear hD4 hsc4 hec4 hT4 hb5 hrm4 hsz4
  generalize w4.alloc (.cells #[.int .i64 1, .pointer (some ⟨dk, 0, none⟩), .pointer none, .map (some rm), .int .i64 0, .int .i64 0, .slice none 0 0] 131) = w5 at *
  obtain ⟨st, hstq⟩ : ∃ st, rm + 1 = st := ⟨_, rfl⟩
  have hbst : b ≤ st := by omega
  rw [hstq] at hst5 hsc5
  simp only [hstq]
  have hne1 : st ≠ sc := by omega
  have hne2 : st ≠ ec := by omega
  clear hstq hszs hw2 hscw
  -- snap.now is not there
  have hRd := Lib.hid (read_none hD5 (by omega))
  obtain ⟨U, hU⟩ : ∃ U, strV snapN = .string U := ⟨_, rfl⟩
  have hUs : (.string ⟨#[115, 110, 97, 112, 46, 110, 111, 119]⟩ : Value) = strV snapN := rfl
  rw [← hUs] at hRd
  clear hU hUs
  have hec0 : w5.cell? ⟨ec, 0, none⟩ = some (.int .i64 0) := hec5.cell 0
  have hecf := hec5.frozen 0
  go_wp2_with fail
  refine hRd.out.mono ?_
  rintro e w6 ⟨rfl, rfl⟩
  have hTe : Ty b (fun t => t == 27) (fun _ => False) w5 (w5.setCell ⟨ec, 0, none⟩ (.int .i64 172)) := Ty.of_grown (grown_set w5 _ _) hD5.size (Owned.blk hec5 hbec rfl)
  have hD6 := hD5.ty hTe rfl rfl rfl rfl
  have hec6 : Blk (w5.setCell ⟨ec, 0, none⟩ (.int .i64 172)) ec 27 #[.int .i64 172] := hec5.set_ 0 _
  have hsc6 := hTe.blk hsc5 rfl
  have hst6 := hTe.blk hst5 rfl
  have hrm6 := hTe.rmap hrm5 (fun e => e)
  have hT6 := hT5.trans hTe.any
  have hOp := Lib.hid (open_ok hD6 (by omega) (by omega) (fun j hj => by rw [seg_ds1 j hj]; omega) (by rw [show fiN ds1 1 = 2 from rfl]; omega) (fun j hj d hd => ds1_datas j hj d hd))
  clear hRd hTe hD5 hec5 hsc5 hst5 hrm5 hT5 hmm
  go_upto_region 25 with fail
  generalize w5.setCell ⟨ec, 0, none⟩ (.int .i64 172) = w6 at *
  clear hec0 hecf
  go_wp2_with fail
  refine hOp.out.mono ?_
  rintro e w7 ⟨lg, Q7, v, rfl, hW7, hO7, hT7⟩
  have hfl : flatN ds1 1 = [recB] := rfl
  rw [hfl] at hO7
  obtain ⟨gr, capr, rfl, -, -⟩ := own_shape hO7 (by simp)
  have hec7 := hT7.blk hec6 rfl
  have hsc7 := hT7.blk hsc6 rfl
  have hst7 := hT7.blk hst6 rfl
  have hrm7 := hT7.rmap hrm6 (fun e => e)
  have hA7 : AnyT b w w7 := hT6.trans hT7.any
  clear hOp hT7 hec6 hsc6 hst6 hrm6 hT6 hD6 hW7
  have he7 : w7.cell? ⟨ec, 0, none⟩ = some (.int .i64 172) := hec7.cell 0
  have he7f := hec7.frozen 0
  have hec8 : Blk (w7.setCell ⟨ec, 0, none⟩ (.int .i64 0)) ec 27 #[.int .i64 0] := hec7.set_ 0 _
  have hg8 := grown_set w7 ⟨ec, 0, none⟩ (.int .i64 0)
  have hA8 := hA7.step hbw hg8 (fun k e => by injection e with e; rw [← e]; exact hbec)
  have hsc8 : Blk (w7.setCell ⟨ec, 0, none⟩ (.int .i64 0)) sc 100 #[.pointer (some ⟨st, 0, none⟩)] := hsc7.grown hg8 (fun e => by injection e with e; exact hse e)
  have hst8 := hst7.grown hg8 (fun e => by injection e with e; exact hne2 e)
  have hrm8 : RMap (w7.setCell ⟨ec, 0, none⟩ (.int .i64 0)) rm 0 (.map []) := World.ownsMap.kept hrm7 hg8 (fun e => by injection e with e; rw [e] at hrm7; exact blk_rmap hec7 hrm7)
  have hO8 := own_same hO7 (fun i cs hi => hg8.block i hi.lt (fun e => by injection e with e; rw [e] at hi; exact absurd (blk_ty hi hec7) (by decide)))
  have hMu := Lib.hid (must_ok (w7.setCell ⟨ec, 0, none⟩ (.int .i64 0)))
  go_upto_region 26 with fail
  clear hsc7 hst7 hrm7 hg8 he7 he7f hec7 hO7
  generalize w7.setCell ⟨ec, 0, none⟩ (.int .i64 0) = w8 at *
  have e8 : w8.cell? ⟨ec, 0, none⟩ = some (.int .i64 0) := hec8.cell 0
  go_wp2_with fail
  refine hMu.out.mono ?_
  rintro e w9 ⟨rfl, rfl⟩
  have s8 : w8.cell? ⟨sc, 0, none⟩ = some (.pointer (some ⟨st, 0, none⟩)) := hsc8.cell 0
  have t8 : w8.cell? ⟨st, 2, none⟩ = some (.pointer none) := hst8.cell 2
  have t8f := hst8.frozen 2
  have hst9 : Blk (w8.setCell ⟨st, 2, none⟩ (.pointer (some ⟨lg, 0, none⟩))) st 131 (stoV dk lg rm 0 0 (.slice none 0 0)) := hst8.set_ 2 _
  have hg9 := grown_set w8 ⟨st, 2, none⟩ (.pointer (some ⟨lg, 0, none⟩))
  have hA9 := hA8.step hbw hg9 (fun k e => by injection e with e; rw [← e]; exact hbst)
  have hsc9 := hsc8.grown hg9 (fun e => by injection e with e; exact hne1 e.symm)
  have hec9 := hec8.grown hg9 (fun e => by injection e with e; exact hne2 e.symm)
  have hrm9 : RMap (w8.setCell ⟨st, 2, none⟩ (.pointer (some ⟨lg, 0, none⟩))) rm 0 (.map []) := World.ownsMap.kept hrm8 hg9 (fun e => by injection e with e; rw [e] at hrm8; exact blk_rmap hst8 hrm8)
  have hO9 := own_same hO8 (fun i cs hi => hg9.block i hi.lt (fun e => by injection e with e; rw [e] at hi; exact absurd (blk_ty hi hst8) (by decide)))
  go_upto_region 28 with fail
  clear hMu hst8 hg9 hsc8 hec8 hrm8 s8 t8 t8f e8 hO8
  generalize w8.setCell ⟨st, 2, none⟩ (.pointer (some ⟨lg, 0, none⟩)) = w9 at *
  have hlen1 : ([recB] : List (List UInt8)).length = 1 := rfl
  rw [hlen1] at hO9
  have hr0 : w9.cell? ⟨gr, 0, none⟩ = some (.int .i64 1) := by rw [hO9.cellAt 0 (by omega)]; rfl
  have hr1 : w9.cell? ⟨gr, 1, none⟩ = some (strV recB) := by rw [hO9.cellAt 1 (by omega)]; rfl
  obtain ⟨T, hT⟩ : ∃ T, strV recB = .string T := ⟨_, rfl⟩
  have hTk := Lib.hid (fun x => take_one (putB 1 [5]) (by rw [putB_length]; simp) x)
  have hrc : oneB ++ putB 1 [5] = recB := rfl
  rw [hrc] at hTk
  rw [hT] at hr1 hTk
  have hGt := Lib.hid (fun x => get_put 1 [5] (by omega) five_good put_one x)
  obtain ⟨T2, hT2⟩ : ∃ T, strV (putB 1 [5]) = .string T := ⟨_, rfl⟩
  rw [hT2] at hTk hGt
  clear hT hT2 hO9 hlen1 hfl hrc
  go_wp2_with fail
  go_loopw [113] (fun u wr => (u = .int .i64 0 ∧ wr = w9) ∨ (u = .int .i64 1 ∧ OneDone b w wr dk lg rm st sc ec)) (fun u _ => 1 - (intOf u).toNat)
  case atStart => exact .inl ⟨rfl, rfl⟩
  case round =>
    rcases hrel with ⟨rfl, rfl⟩ | ⟨rfl, hdone⟩
    · have s0 : wr.cell? ⟨sc, 0, none⟩ = some (.pointer (some ⟨st, 0, none⟩)) := hsc9.cell 0
      have hba := below_alloc1 wr (.cells #[.int .i64 1, .string T] 49)
      have hAa := hA9.below hbw hba
      have hrb := Blk.new wr 49 #[.int .i64 1, .string T]
      have hsca := hsc9.below hba hsc9.lt
      have heca := hec9.below hba hec9.lt
      have hsta := hst9.below hba hst9.lt
      have hrma : RMap (wr.alloc (.cells #[.int .i64 1, .string T] 49)) rm 0 (.map []) := World.ownsMap.alloc hrm9 _
      clear hba hsc9 hec9 hst9 hrm9
      go_upto_region 31 with fail
      obtain ⟨rb, hrbq⟩ : ∃ rb, wr.heap.size = rb := ⟨_, rfl⟩
      rw [hrbq] at hrb
      simp only [hrbq]
      generalize wr.alloc (.cells #[.int .i64 1, .string T] 49) = wa at *
      clear s0 hr0 hr1 hrbq
      have r1 := hrb.cell 1
      have hTka := Lib.hid (hTk.out wa)
      go_wp2_with fail
      refine hTka.out.mono ?_
      rintro e wb ⟨rfl, hbb⟩
      have hAb := hAa.below hbw hbb
      have hscb := hsca.below hbb hsca.lt
      have hecb := heca.below hbb heca.lt
      have hstb := hsta.below hbb hsta.lt
      have hrmb : RMap wb rm 0 (.map []) := World.ownsMap.kept hrma (grown_of_below hbb none) (by simp)
      clear hTka hTk hbb hsca heca hsta hrma hrb r1
      have s0 : wb.cell? ⟨sc, 0, none⟩ = some (.pointer (some ⟨st, 0, none⟩)) := hscb.cell 0
      have t4 : wb.cell? ⟨st, 4, none⟩ = some (.int .i64 0) := hstb.cell 4
      have hGta := Lib.hid (hGt.out wb)
      go_wp2_with fail
      refine hGta.out.mono ?_
      rintro e wc ⟨sv, B, rfl, hB, hOs, hbc⟩
      obtain ⟨g, c, rfl, hgl, -⟩ := own_shape hOs (by simp)
      have hgst : g ≠ st := by have := hstb.lt; omega
      have hAc := hAb.below hbw hbc
      have hscc := hscb.below hbc hscb.lt
      have hecc := hecb.below hbc hecb.lt
      have hstc := hstb.below hbc hstb.lt
      have hrmc : RMap wc rm 0 (.map []) := World.ownsMap.kept hrmb (grown_of_below hbc none) (by simp)
      have hvc : Row wc (some ⟨g, 0, none⟩) [5] := fun j hj => ⟨g, 0, rfl, by
        have h0 : j = 0 := by simp at hj; omega
        subst h0
        exact hOs.cellAt 0 (by simp)⟩
      clear hGta hGt hbc hscb hecb hstb hrmb s0 t4 hOs hB
      have hbd := below_alloc1 wc (.cells #[.int .i64 1, .int .i64 1, .slice (some ⟨g, 0, none⟩) 1 c] 39)
      have hcb := Blk.new wc 39 #[.int .i64 1, .int .i64 1, .slice (some ⟨g, 0, none⟩) 1 c]
      have hAd := hAc.below hbw hbd
      have hscd := hscc.below hbd hscc.lt
      have hecd := hecc.below hbd hecc.lt
      have hstd := hstc.below hbd hstc.lt
      have hrmd : RMap (wc.alloc (.cells #[.int .i64 1, .int .i64 1, .slice (some ⟨g, 0, none⟩) 1 c] 39)) rm 0 (.map []) := World.ownsMap.alloc hrmc _
      have hvd := hvc.below hbd
      have s0 : wc.cell? ⟨sc, 0, none⟩ = some (.pointer (some ⟨st, 0, none⟩)) := hscc.cell 0
      have t4 : wc.cell? ⟨st, 4, none⟩ = some (.int .i64 0) := hstc.cell 4
      clear hscc hecc hstc hrmc hvc hbd
      go_upto_region 34 with fail
      obtain ⟨cb, hcbq⟩ : ∃ cb, wc.heap.size = cb := ⟨_, rfl⟩
      have hl5 : ([5] : List Int).length = 1 := rfl
      rw [hcbq] at hcb
      simp only [hcbq]
      generalize wc.alloc (.cells #[.int .i64 1, .int .i64 1, .slice (some ⟨g, 0, none⟩) 1 c] 39) = wd at *
      clear s0 t4 hcbq hl5
      have s0 : wd.cell? ⟨sc, 0, none⟩ = some (.pointer (some ⟨st, 0, none⟩)) := hscd.cell 0
      have t4 : wd.cell? ⟨st, 4, none⟩ = some (.int .i64 0) := hstd.cell 4
      have b0 := hcb.cell 0
      have b1 := hcb.cell 1
      have b2 := hcb.cell 2
      have hDo := Lib.hid (sdo_ok (g := g) (c := c) hstd hrmd (by omega))
      go_wp2_with fail
      refine hDo.out.mono ?_
      rintro e we ⟨rfl, hrme, hge⟩
      have hne : ∀ i t cs, Blk wd i t cs → some i ≠ some rm := fun i t cs hi e => by
        injection e with e
        rw [e] at hi
        exact blk_rmap hi hrmd
      have hAe := hAd.step hbw hge (fun k e => by injection e with e; rw [← e]; exact hbrm)
      have hsce := hscd.grown hge (hne _ _ _ hscd)
      have hece := hecd.grown hge (hne _ _ _ hecd)
      have hste := hstd.grown hge (hne _ _ _ hstd)
      have hve : Row we (some ⟨g, 0, none⟩) [5] := fun j hj => by
        obtain ⟨g1, o1, e, r⟩ := hvd j hj
        refine ⟨g1, o1, e, hge.cell r (fun e2 => ?_)⟩
        injection e2 with e2
        simp only at e2
        rw [e2] at r
        obtain ⟨es, cl, e3, _⟩ := hrmd
        simp [World.cell?, e3] at r
      clear hDo hscd hecd hstd hrmd hvd hcb hge hne s0 t4 b0 b1 b2
      have s0 : we.cell? ⟨sc, 0, none⟩ = some (.pointer (some ⟨st, 0, none⟩)) := hsce.cell 0
      have t4 : we.cell? ⟨st, 4, none⟩ = some (.int .i64 0) := hste.cell 4
      have t4f := hste.frozen 4
      have hgf := grown_set we ⟨st, 4, none⟩ (.int .i64 1)
      have hscf := hsce.grown hgf (fun e => by injection e with e; exact hne1 e.symm)
      have hecf2 := hece.grown hgf (fun e => by injection e with e; exact hne2 e.symm)
      have hstf : Blk (we.setCell ⟨st, 4, none⟩ (.int .i64 1)) st 131 (stoV dk lg rm 1 0 (.slice none 0 0)) := hste.set_ 4 _
      have hrmf : RMap (we.setCell ⟨st, 4, none⟩ (.int .i64 1)) rm (0 + 1) ((DataW.map []).put oneK (.lit (.int .i64 (g : Int)))) := World.ownsMap.kept hrme hgf (fun e => by injection e with e; rw [e] at hrme; exact blk_rmap hste hrme)
      have hvf : Row (we.setCell ⟨st, 4, none⟩ (.int .i64 1)) (some ⟨g, 0, none⟩) [5] := fun j hj => by
        obtain ⟨g1, o1, e, r⟩ := hve j hj
        refine ⟨g1, o1, e, hgf.cell r (fun e2 => ?_)⟩
        injection e2 with e2
        simp only [Option.some.injEq, Addr.mk.injEq, and_true] at e
        simp only at e2
        rw [← e.1] at e2
        exact hgst e2
      have hfin : OneDone b w (we.setCell ⟨st, 4, none⟩ (.int .i64 1)) dk lg rm st sc ec := ⟨_, g, _, hAe.step hbw hgf (fun k e => by injection e with e; rw [← e]; exact hbst), hscf, hecf2, hstf, hrmf, by rfl, hvf, hgst⟩
      replace hfin := Lib.hid hfin
      clear hsce hece hste hrme hve hgf hscf hecf2 hstf hrmf hvf
      go_wp2_with fail
      exact ⟨.inr ⟨rfl, hfin.out⟩, by decide⟩
    · obtain ⟨n, g, D, hA9, hsc9, hec9, hst9, hrm9, hat, hv9, hgst⟩ := hdone
      have s9 : wr.cell? ⟨sc, 0, none⟩ = some (.pointer (some ⟨st, 0, none⟩)) := hsc9.cell 0
      have t4 : wr.cell? ⟨st, 4, none⟩ = some (.int .i64 1) := hst9.cell 4
      have t5 : wr.cell? ⟨st, 5, none⟩ = some (.int .i64 0) := hst9.cell 5
      have t5f := hst9.frozen 5
      have hgf := grown_set wr ⟨st, 5, none⟩ (.int .i64 1)
      have hAf := (hA9.step hbw hgf (fun k e => by injection e with e; rw [← e]; exact hbst)).drew
      have hscf := Blk.drew (hsc9.grown hgf (fun e => by injection e with e; exact hne1 e.symm))
      have hecf2 := Blk.drew (hec9.grown hgf (fun e => by injection e with e; exact hne2 e.symm))
      have hstf : Blk (wr.setCell ⟨st, 5, none⟩ (.int .i64 1)).drew st 131 (stoV dk lg rm 1 1 (.slice none 0 0)) := Blk.drew (hst9.set_ 5 _)
      have hrmf : RMap (wr.setCell ⟨st, 5, none⟩ (.int .i64 1)).drew rm n D := World.ownsMap.drew (World.ownsMap.kept hrm9 hgf (fun e => by injection e with e; rw [e] at hrm9; exact blk_rmap hst9 hrm9))
      have hvf0 : Row (wr.setCell ⟨st, 5, none⟩ (.int .i64 1)) (some ⟨g, 0, none⟩) [5] := fun j hj => by
        obtain ⟨g1, o1, e, r⟩ := hv9 j hj
        refine ⟨g1, o1, e, hgf.cell r (fun e2 => ?_)⟩
        injection e2 with e2
        simp only [Option.some.injEq, Addr.mk.injEq, and_true] at e
        simp only at e2
        rw [← e.1] at e2
        exact hgst e2
      have hvf : Row (wr.setCell ⟨st, 5, none⟩ (.int .i64 1)).drew (some ⟨g, 0, none⟩) [5] := hvf0
      go_upto_region 39 with fail
      go_region
      clear hvf0 hgf hsc9 hec9 hst9 hrm9 hv9 s9 t4 t5 t5f
      generalize (wr.setCell ⟨st, 5, none⟩ (.int .i64 1)).drew = wd at *
      have sd : wd.cell? ⟨sc, 0, none⟩ = some (.pointer (some ⟨st, 0, none⟩)) := hscf.cell 0
      have sdf := hscf.frozen 0
      have ed : wd.cell? ⟨ec, 0, none⟩ = some (.int .i64 0) := hecf2.cell 0
      have edf := hecf2.frozen 0
      have es : wd.setCell ⟨sc, 0, none⟩ (.pointer (some ⟨st, 0, none⟩)) = wd := setCell_id sd
      have ee : wd.setCell ⟨ec, 0, none⟩ (.int .i64 0) = wd := setCell_id ed
      have hfin : SOneP b w (.returned (.tuple #[.pointer (some ⟨st, 0, none⟩), .int .i64 0])) wd := ⟨st, dk, lg, rm, n, g, D, hAf, rfl, hstf, hrmf, hat, hvf⟩
      replace hfin := Lib.hid hfin
      clear hscf hecf2 hstf hrmf hvf
      go_wp2_with fail
      refine leaves_cons (f := 63) (args := #[.pointer (some ⟨ec, 0, none⟩)]) (by simp) (by simp [go_sem]) ?_
      refine (caught_idle ⟨ec, 0, none⟩ _).mono ?_
      rintro e u' w'' ⟨rfl, rfl, rfl⟩
      refine leaves_cons (f := 62) (args := #[.pointer (some ⟨ec, 0, none⟩), .pointer (some ⟨sc, 0, none⟩)]) (by simp [settle]) (by simp [go_sem]) ?_
      refine (open1_idle ⟨ec, 0, none⟩ ⟨sc, 0, none⟩ _ ed).mono ?_
      rintro e u' w3 ⟨rfl, rfl, rfl⟩
      have hf := hfin.out
      simp [Leaves, settle, results, Tryz.results37, go_sem, sd, ed]
      exact hf
end Go.Proofs.YtejbfglaalmafaaGreatDoor
