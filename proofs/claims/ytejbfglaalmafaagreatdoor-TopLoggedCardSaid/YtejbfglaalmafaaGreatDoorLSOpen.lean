/- The contract of store.Open on an empty disk. -/
import Derived.Test.YtejbfglaalmafaaGreatDoorLSPut
namespace Go.Proofs.YtejbfglaalmafaaGreatDoor
open Go.RowKit
set_option linter.unusedVariables false

theorem WS.set_ {w : World} {b nm dk lg k : Nat} {G Q : Nat → Nat} {ds : Nat → List (List UInt8)} {F : Nat → Bool} {Z : Bool} {N : Nat} (h : WS w b nm dk lg k G Q ds F Z N) {g : Nat} {t : TypeId} {cs : Array Value} (hb : Blk w g t cs) (hg : b ≤ g) (h1 : wsT t = false) (h2 : t ≠ 5) (i : Nat) (v : Value) :
    WS (w.setCell ⟨g, i, none⟩ v) b nm dk lg k G Q ds F Z N ∧ AnyT b w (w.setCell ⟨g, i, none⟩ v) := by
  have hT : Ty b (fun u => u == t) (fun _ => False) w (w.setCell ⟨g, i, none⟩ v) := Ty.of_grown (grown_set w _ _) h.size (Owned.blk hb hg (by simp))
  refine ⟨h.ty hT (fun u hu => ?_) (by simp; exact fun e => h2 e.symm), hT.any⟩
  cases h3 : (u == t) with
  | false => rfl
  | true =>
    simp only [beq_iff_eq] at h3
    subst h3
    rw [h1] at hu
    cases hu
def SOpenP (w : World) (b nm dk : Nat) (N : Nat) (e : Ending) (w' : World) : Prop := ∃ st lg rm G' Q', e = .returned (.tuple #[.pointer (some ⟨st, 0, none⟩), .int .i64 0]) ∧ WS w' b nm dk lg 1 G' Q' (fun _ => []) (fun _ => false) false (N + 1) ∧ Blk w' st 131 (stoV dk lg rm 0 0 (.slice none 0 0)) ∧ b ≤ st ∧ b ≤ rm ∧ RMap w' rm 0 (.map []) ∧ rm ≠ nm ∧ AnyT b w w'
set_option maxRecDepth 100000 in
set_option maxHeartbeats 4000000 in
theorem sopen_new {w : World} {b nm dk : Nat} {G : Nat → Nat} {S : Nat → List UInt8} {F : Nat → Bool} {Z : Bool} {N : Nat} (h : DS w b nm dk 0 G S F Z N) (hN : N ≤ 1000) (hB : Tab w b) :
    Calls Tryz.prog 37 #[.pointer (some ⟨dk, 0, none⟩), .int .i64 1] w (SOpenP w b nm dk N) := by
  have hmf : ∀ (fn : Fn) (first cap : Array Value) (w : World), (Instr.makeFunc fn first cap).run Tryz.prog w = .ok (.func fn first cap) w := fun _ _ _ _ => rfl
  have hmm := @run_makeMap Tryz.prog
  have hbw := h.size
  have hb1 := below_alloc1 w (.cells #[.pointer none] 100)
  have hb2 : Below w.heap.size w ((w.alloc (.cells #[.pointer none] 100)).alloc (.cells #[.int .i64 0] 27)) := hb1.alloc (by simp) _
  have hsc := (Blk.new w 100 #[.pointer none]).alloc (.cells #[.int .i64 0] 27)
  have hec := Blk.new (w.alloc (.cells #[.pointer none] 100)) 27 #[.int .i64 0]
  have hsz : (w.alloc (.cells #[.pointer none] 100)).heap.size = w.heap.size + 1 := by simp
  rw [hsz] at hec
  go_enter_defers Tryz.func37, Tryz.ntmps37
  go_upto_region 3 with fail
  obtain ⟨sc, hscq⟩ : ∃ sc, w.heap.size = sc := ⟨_, rfl⟩
  have hscw : w.heap.size ≤ sc := by omega
  have hbsc : b ≤ sc := by omega
  have hD2 := h.below hb2
  have hT2 : AnyT b w ((w.alloc (.cells #[.pointer none] 100)).alloc (.cells #[.int .i64 0] 27)) := Ty.of_below hb2 hbw
  rw [hscq] at hsc hec
  simp only [hscq]
  have hw2s : ((w.alloc (.cells #[.pointer none] 100)).alloc (.cells #[.int .i64 0] 27)).heap.size = sc + 2 := by simp; omega
  generalize (w.alloc (.cells #[.pointer none] 100)).alloc (.cells #[.int .i64 0] 27) = w2 at *
  clear hb1 hb2 hsz h
  obtain ⟨ec, hecq⟩ : ∃ ec, sc + 1 = ec := ⟨_, rfl⟩
  have hbec : b ≤ ec := by omega
  rw [hecq] at hec
  simp only [hecq]
  have hse : sc ≠ ec := by omega
  have hw2 : sc < w2.heap.size ∧ ec < w2.heap.size := by omega
  clear hecq hscq hw2s
  have hsc2 : w2.cell? ⟨sc, 0, none⟩ = some (.pointer none) := hsc.cell 0
  have hsf2 := hsc.frozen 0
  go_upto_region 8 with fail
  obtain ⟨rm, hrmq⟩ : ∃ rm, w2.heap.size = rm := ⟨_, rfl⟩
  have hszs : (w2.setCell ⟨sc, 0, none⟩ (.pointer (some ⟨w2.heap.size + 1, 0, none⟩))).heap.size = w2.heap.size := by simp [World.setCell]
  have hgs := grown_set w2 ⟨sc, 0, none⟩ (.pointer (some ⟨w2.heap.size + 1, 0, none⟩))
  have hTs : Ty b (fun t => t == 100) (fun _ => False) w2 (w2.setCell ⟨sc, 0, none⟩ (.pointer (some ⟨w2.heap.size + 1, 0, none⟩))) := Ty.of_grown hgs hD2.size (Owned.blk hsc hbsc rfl)
  have hD3 := hD2.ty hTs rfl rfl rfl rfl
  have hsc3 := hsc.set_ 0 (.pointer (some ⟨w2.heap.size + 1, 0, none⟩))
  have hec3 := hec.grown hgs (fun e => by injection e with e; exact hse e.symm)
  have hT3 := hT2.trans hTs.any
  rw [hrmq] at hszs hTs hD3 hsc3 hec3 hT3 hgs hw2
  simp only [hrmq]
  have hrn : rm ≠ nm := by
    obtain ⟨sm, ch, st, n, ns, D2, kk, hx⟩ := hD2
    have := World.ownsMap.lt hx.hm
    omega
  have hbrm : b ≤ rm := by have := hD2.size; omega
  generalize w2.setCell ⟨sc, 0, none⟩ (.pointer (some ⟨rm + 1, 0, none⟩)) = w3 at *
  clear hsc hec hD2 hT2 hTs hsc2 hsf2 hrmq hgs
  have hb4 := below_alloc1 w3 (.map #[] 0)
  have hrm4 := World.ownsMap_made w3 Tryz.prog 3 rowElem
  have hD4 := hD3.below hb4
  have hsc4 := hsc3.below hb4 hsc3.lt
  have hec4 := hec3.below hb4 hec3.lt
  have hT4 := hT3.trans (Ty.of_below hb4 hD3.size)
  have hsz4 : (w3.alloc (.map #[] 0)).heap.size = rm + 1 := by simp [hszs]
  rw [hszs] at hrm4
  clear hD3 hsc3 hec3 hT3 hb4
  generalize w3.alloc (.map #[] 0) = w4 at *
  have hb5 := below_alloc1 w4 (.cells #[.int .i64 1, .pointer (some ⟨dk, 0, none⟩), .pointer none, .map (some rm), .int .i64 0, .int .i64 0, .slice none 0 0] 131)
  have hst5 := Blk.new w4 131 #[.int .i64 1, .pointer (some ⟨dk, 0, none⟩), .pointer none, .map (some rm), .int .i64 0, .int .i64 0, .slice none 0 0]
  rw [hsz4] at hst5
  have hD5 := hD4.below hb5
  have hsc5 := hsc4.below hb5 hsc4.lt
  have hec5 := hec4.below hb5 hec4.lt
  have hrm5 : RMap (w4.alloc (.cells #[.int .i64 1, .pointer (some ⟨dk, 0, none⟩), .pointer none, .map (some rm), .int .i64 0, .int .i64 0, .slice none 0 0] 131)) rm 0 (.map []) := World.ownsMap.alloc hrm4 _
  have hT5 := hT4.trans (Ty.of_below hb5 hD4.size)
  clear hD4 hsc4 hec4 hT4 hb5 hrm4 hsz4
  generalize w4.alloc (.cells #[.int .i64 1, .pointer (some ⟨dk, 0, none⟩), .pointer none, .map (some rm), .int .i64 0, .int .i64 0, .slice none 0 0] 131) = w5 at *
  obtain ⟨st, hstq⟩ : ∃ st, rm + 1 = st := ⟨_, rfl⟩
  have hbst : b ≤ st := by omega
  rw [hstq] at hst5 hsc5
  simp only [hstq]
  have hne1 : st ≠ sc := by omega
  have hne2 : st ≠ ec := by omega
  clear hstq hszs hw2 hscw
  -- snap.now is not there
  have hRd := Lib.hid (read_none hD5 (by omega))
  obtain ⟨U, hU⟩ : ∃ U, strV snapN = .string U := ⟨_, rfl⟩
  have hUs : (.string ⟨#[115, 110, 97, 112, 46, 110, 111, 119]⟩ : Value) = strV snapN := rfl
  rw [← hUs] at hRd
  clear hU hUs
  have hec0 : w5.cell? ⟨ec, 0, none⟩ = some (.int .i64 0) := hec5.cell 0
  have hecf := hec5.frozen 0
  go_wp2_with fail
  refine hRd.out.mono ?_
  rintro e w6 ⟨rfl, rfl⟩
  have hTe : Ty b (fun t => t == 27) (fun _ => False) w5 (w5.setCell ⟨ec, 0, none⟩ (.int .i64 172)) := Ty.of_grown (grown_set w5 _ _) hD5.size (Owned.blk hec5 hbec rfl)
  have hD6 := hD5.ty hTe rfl rfl rfl rfl
  have hec6 : Blk (w5.setCell ⟨ec, 0, none⟩ (.int .i64 172)) ec 27 #[.int .i64 172] := hec5.set_ 0 _
  have hsc6 := hTe.blk hsc5 rfl
  have hst6 := hTe.blk hst5 rfl
  have hrm6 := hTe.rmap hrm5 (fun e => e)
  have hT6 := hT5.trans hTe.any
  have hOp := Lib.hid (open_new hD6 (by omega) (hB.ty hT6))
  clear hRd hTe hD5 hec5 hsc5 hst5 hrm5 hT5 hmm
  go_upto_region 25 with fail
  generalize w5.setCell ⟨ec, 0, none⟩ (.int .i64 172) = w6 at *
  clear hec0 hecf
  go_wp2_with fail
  refine hOp.out.mono ?_
  rintro e w7 ⟨lg, G7, Q7, rfl, hW7, hT7⟩
  have hec7 := hT7.blk hec6 rfl
  have hsc7 := hT7.blk hsc6 rfl
  have hst7 := hT7.blk hst6 rfl
  have hrm7 := hT7.rmap hrm6 hrn
  have hT8 := hT6.trans hT7.any
  clear hOp hT7 hec6 hsc6 hst6 hrm6 hT6 hD6
  -- e := 0
  have he7 : w7.cell? ⟨ec, 0, none⟩ = some (.int .i64 172) := hec7.cell 0
  have he7f := hec7.frozen 0
  obtain ⟨hW8, hTe8⟩ := hW7.set_ hec7 hbec rfl (by decide) 0 (.int .i64 0)
  have hec8 : Blk (w7.setCell ⟨ec, 0, none⟩ (.int .i64 0)) ec 27 #[.int .i64 0] := hec7.set_ 0 _
  have hg8 := grown_set w7 ⟨ec, 0, none⟩ (.int .i64 0)
  have hsc8 : Blk (w7.setCell ⟨ec, 0, none⟩ (.int .i64 0)) sc 100 #[.pointer (some ⟨st, 0, none⟩)] := hsc7.grown hg8 (fun e => by injection e with e; exact hse e)
  have hst8 := hst7.grown hg8 (fun e => by injection e with e; exact hne2 e)
  have hrm8 : RMap (w7.setCell ⟨ec, 0, none⟩ (.int .i64 0)) rm 0 (.map []) := World.ownsMap.kept hrm7 hg8 (fun e => by injection e with e; rw [e] at hrm7; exact blk_rmap hec7 hrm7)
  have hT9 := hT8.trans hTe8
  have hMu := Lib.hid (must_ok (w7.setCell ⟨ec, 0, none⟩ (.int .i64 0)))
  go_upto_region 26 with fail
  clear hW7 hTe8 hsc7 hst7 hrm7 hT8 hg8 he7 he7f hec7
  generalize w7.setCell ⟨ec, 0, none⟩ (.int .i64 0) = w8 at *
  have e8 : w8.cell? ⟨ec, 0, none⟩ = some (.int .i64 0) := hec8.cell 0
  go_wp2_with fail
  refine hMu.out.mono ?_
  rintro e w9 ⟨rfl, rfl⟩
  have s8 : w8.cell? ⟨sc, 0, none⟩ = some (.pointer (some ⟨st, 0, none⟩)) := hsc8.cell 0
  have t8 : w8.cell? ⟨st, 2, none⟩ = some (.pointer none) := hst8.cell 2
  have t8f := hst8.frozen 2
  obtain ⟨hW9, hTe9⟩ := hW8.set_ hst8 hbst rfl (by decide) 2 (.pointer (some ⟨lg, 0, none⟩))
  have hst9 : Blk (w8.setCell ⟨st, 2, none⟩ (.pointer (some ⟨lg, 0, none⟩))) st 131 (stoV dk lg rm 0 0 (.slice none 0 0)) := hst8.set_ 2 _
  have hg9 := grown_set w8 ⟨st, 2, none⟩ (.pointer (some ⟨lg, 0, none⟩))
  have hsc9 := hsc8.grown hg9 (fun e => by injection e with e; exact hne1 e.symm)
  have hec9 := hec8.grown hg9 (fun e => by injection e with e; exact hne2 e.symm)
  have hrm9 : RMap (w8.setCell ⟨st, 2, none⟩ (.pointer (some ⟨lg, 0, none⟩))) rm 0 (.map []) := World.ownsMap.kept hrm8 hg9 (fun e => by injection e with e; rw [e] at hrm8; exact blk_rmap hst8 hrm8)
  have hT10 := hT9.trans hTe9
  go_upto_region 28 with fail
  clear hMu hW8 hTe9 hst8 hg9 hsc8 hec8 hrm8 hT9 s8 t8 t8f e8
  generalize w8.setCell ⟨st, 2, none⟩ (.pointer (some ⟨lg, 0, none⟩)) = w9 at *
  go_wp2_with fail
  go_loopw [113] (fun u wr => u = .int .i64 0 ∧ wr = w9) (fun _ _ => 0)
  case atStart => exact ⟨rfl, rfl⟩
  case round =>
    obtain ⟨rfl, rfl⟩ := hrel
    have s9 : wr.cell? ⟨sc, 0, none⟩ = some (.pointer (some ⟨st, 0, none⟩)) := hsc9.cell 0
    have t4 : wr.cell? ⟨st, 4, none⟩ = some (.int .i64 0) := hst9.cell 4
    have t5 : wr.cell? ⟨st, 5, none⟩ = some (.int .i64 0) := hst9.cell 5
    have t5f := hst9.frozen 5
    go_upto_region 39 with fail
    go_region
    have he5 : wr.setCell ⟨st, 5, none⟩ (.int .i64 0) = wr := setCell_id t5
    rw [he5]
    have hWd : WS wr.drew b nm dk lg 1 G7 Q7 (fun _ => []) (fun _ => false) false (N + 1) := hW9.below ((Below.refl _ wr).drew)
    have hstd : Blk wr.drew st 131 (stoV dk lg rm 0 0 (.slice none 0 0)) := hst9
    have hrmd : RMap wr.drew rm 0 (.map []) := World.ownsMap.drew hrm9
    have hTd := hT10.drew
    have sd : wr.drew.cell? ⟨sc, 0, none⟩ = some (.pointer (some ⟨st, 0, none⟩)) := hsc9.cell 0
    have sdf := hsc9.frozen 0
    have ed : wr.drew.cell? ⟨ec, 0, none⟩ = some (.int .i64 0) := hec9.cell 0
    have edf : wr.drew.frozen? ⟨ec, 0, none⟩ = false := hec9.frozen 0
    have es : wr.drew.setCell ⟨sc, 0, none⟩ (.pointer (some ⟨st, 0, none⟩)) = wr.drew := setCell_id sd
    have ee : wr.drew.setCell ⟨ec, 0, none⟩ (.int .i64 0) = wr.drew := setCell_id ed
    replace sdf : wr.drew.frozen? ⟨sc, 0, none⟩ = false := sdf
    have hfin : SOpenP w b nm dk N (.returned (.tuple #[.pointer (some ⟨st, 0, none⟩), .int .i64 0])) wr.drew := ⟨st, lg, rm, G7, Q7, rfl, hWd, hstd, hbst, hbrm, hrmd, hrn, hTd⟩
    replace hfin := Lib.hid hfin
    clear hW9 hst9 hrm9 hT10 hsc9 hec9 s9 t4 t5 t5f he5 hWd hstd hrmd hTd
    generalize wr.drew = wd at *
    go_wp2_with fail
    refine leaves_cons (f := 63) (args := #[.pointer (some ⟨ec, 0, none⟩)]) (by simp) (by simp [go_sem]) ?_
    refine (caught_idle ⟨ec, 0, none⟩ _).mono ?_
    rintro e u' w'' ⟨rfl, rfl, rfl⟩
    refine leaves_cons (f := 62) (args := #[.pointer (some ⟨ec, 0, none⟩), .pointer (some ⟨sc, 0, none⟩)]) (by simp [settle]) (by simp [go_sem]) ?_
    refine (open1_idle ⟨ec, 0, none⟩ ⟨sc, 0, none⟩ _ ed).mono ?_
    rintro e u' w3 ⟨rfl, rfl, rfl⟩
    have hf := hfin.out
    simp [Leaves, settle, results, Tryz.results37, go_sem, sd, ed]
    exact hf
end Go.Proofs.YtejbfglaalmafaaGreatDoor
