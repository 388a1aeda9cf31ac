/- The contract of wal.records, of a segment that is whole. -/
import Derived.Test.YtejbfglaalmafaaGreatDoorLBytes
import Derived.Laws.IdiomStrings
namespace Go.Proofs.YtejbfglaalmafaaGreatDoor
open Go.RowKit
set_option linter.unusedVariables false

def slen : Value → Nat
  | .slice _ n _ => n
  | _ => 0
/-- The cells of records, from a number on. -/
def strV (d : List UInt8) : Value := .string ⟨d.toArray⟩
def recV : Nat → List (List UInt8) → List Value
  | _, [] => []
  | q, d :: ds => .int .i64 (q : Int) :: strV d :: recV (q + 1) ds
theorem recV_length : ∀ (q : Nat) (ds : List (List UInt8)), (recV q ds).length = ds.length * 2
  | _, [] => rfl
  | q, d :: ds => by simp only [recV, List.length_cons, recV_length (q + 1) ds]; omega
theorem recV_snoc : ∀ (q : Nat) (ds : List (List UInt8)) (d : List UInt8), recV q (ds ++ [d]) = recV q ds ++ [.int .i64 ((q + ds.length : Nat) : Int), strV d]
  | q, [], d => by simp [recV]
  | q, e :: ds, d => by
    simp only [List.cons_append, recV, recV_snoc (q + 1) ds d, List.length_cons]
    rw [show q + 1 + ds.length = q + (ds.length + 1) by omega]
theorem rec_info : (Tryz.prog.info? 49).map (fun i => (i.zero, i.size, i.bytes)) = some (some (.agg #[.int .i64 0, .string ByteArray.empty]), 2, 24) := by kernel_rfl
section
variable {P : Program} {ops : Array Oper} {rest : List Oper} {o : Oper} {a : Act} {Q : Exit → Act → World → Prop}
/-- 'append(v, x)', x of two cells; the goal's world holds x's own box already. -/
theorem append_two {W : World} (base : Nat) (hgd : o.guard = none) (s x : Operand) (t e : TypeId) (z : Value) (bytes : Nat)
    (ho : o.op = .call { callee := .builtin .append, args := #[s, x], argTypes := #[t, t] })
    (ht : P.underlying t = some (.slice e)) (hinfo : (P.info? e).map (fun i => (i.zero, i.size, i.bytes)) = some (some z, 2, bytes)) (hz : z.cells.size = 2)
    (v : Value) (n : Nat) (xs : List Value) (y0 y1 : Value) (hs : a.eval s = v) (hx : a.eval x = .slice (some ⟨W.heap.size, 0, none⟩) 1 1) (h0 : y0.oneCell' = true) (h1 : y1.oneCell' = true)
    (HO : W.ownsRow base e 2 v n xs) (hbase : base ≤ W.heap.size) (hn : n + 1 ≤ maxLen) (hl : (n + 1) * bytes ≤ 140737488355328)
    (h : ∀ v1 w1, w1.ownsRow base e 2 v1 (n + 1) (xs ++ [y0, y1]) → W.grownBy w1 v.ownBlock → (v1.ownBlock = v.ownBlock ∨ v1.ownBlock = some (W.heap.size + 1)) → wpList P ops Q rest (a.put o.dst v1) w1) :
    wpList P ops Q (o :: rest) a (W.alloc (.cells #[y0, y1] e)) := by
  obtain ⟨i0, hi, hzz⟩ := Option.map_eq_some_iff.1 hinfo
  simp only [Prod.mk.injEq] at hzz
  obtain ⟨hz0, hz1, hz2⟩ := hzz
  have hB := Blk.new W e #[y0, y1]
  refine wpList_append_own_at (W.alloc (.cells #[y0, y1] e)) hgd s x t ho base e i0 z 2 bytes ht hi hz0 hz1 hz2 hz (by omega) v n xs hs (HO.alloc _) ⟨W.heap.size, 0, none⟩ 1 1 [y0, y1] hx rfl
    (fun j u hu => ?_) (fun u hu => ?_) hn hl (by simp; omega) ?_
  · have hadd : (⟨W.heap.size, 0, none⟩ : Addr).add j = ⟨W.heap.size, j, none⟩ := by unfold Addr.add; split <;> simp_all
    rw [hadd, hB.cell j]
    simpa using hu
  · simp at hu
    rcases hu with rfl | rfl
    · exact h0
    · exact h1
  · intro v1 w1 hown hg _ hat
    refine h v1 w1 hown ?_ (by simpa using hat)
    exact ⟨hg.os, hg.tape, hg.output, Nat.le_trans (by simp) hg.size, fun k hk hne => (hg.block k (by simp; omega) hne).trans (Below.heap_alloc W _ k hk)⟩
end
theorem rec_nums {n M c q : Nat} (hn : n ≤ 65536) (hM : n + 16 ≤ M) (hc : M ≤ c) (hq : q ≤ 1000000) : wrap64 (n : Int) = (n : Int) ∧ wrap64 ((n : Int) + 16) = (n : Int) + 16 ∧ IntKind.u32.wrap (12 + (n : Int)) = 12 + (n : Int) ∧ IntKind.u64.wrap (q : Int) = (q : Int) ∧
    decide ((65536 : Int) < (n : Int)) = false ∧ decide ((M : Int) < (n : Int) + 16) = false ∧ wrap64 ((q : Int) + 1) = (q : Int) + 1 ∧ (0 : Int) ≤ (n : Int) + 16 ∧ (n : Int) + 16 ≤ (c : Int) ∧ (12 : Int) ≤ 12 + (n : Int) ∧ 12 + (n : Int) ≤ (c : Int) ∧ (n : Int) + 16 ≤ (M : Int) ∧ (M : Int) ≤ (c : Int) ∧ ¬ c = 12 ∧ (16 : Int) ≤ (M : Int) := by
  refine ⟨?_, ?_, ?_, ?_, ?_, ?_, ?_, ?_, ?_, ?_, ?_, ?_, ?_, ?_, ?_⟩
  · simp only [wrap64]; omega
  · simp only [wrap64]; omega
  · rw [IntKind.wrap_u32]; omega
  · rw [IntKind.wrap_u64]; omega
  · exact decide_eq_false (by omega)
  · exact decide_eq_false (by omega)
  · simp only [wrap64]; omega
  all_goals omega
def Datas (ds : List (List UInt8)) : Prop := ∀ d ∈ ds, d.length ≤ 65536
set_option maxRecDepth 100000 in
set_option maxHeartbeats 4000000 in
theorem records_any (A : Option Addr) (c first : Nat) (ds : List (List UInt8)) (hds : Datas ds) (hl : (segB first ds).length ≤ 100000000) (hf : first + ds.length ≤ 1000000) (hc : (segB first ds).length ≤ c) (w : World) (h : BRow w A (segB first ds)) :
    Calls Tryz.prog 22 #[.slice A (segB first ds).length c, .int .i64 (first : Int)] w fun e w' => ∃ v, e = .returned (.tuple #[v, .bool true]) ∧ w'.ownsRow w.heap.size 49 2 v ds.length (recV first ds) ∧ Below w.heap.size w w' := by
  have h16 : 16 ≤ (segB first ds).length := by rw [segB, List.length_append, headB_length]; omega
  obtain ⟨g, o, rfl, hc00⟩ := h 0 (by omega)
  clear hc00
  have hdr := h.drop 16
  have hsl : (segB first ds).length = 16 + (recsB first ds).length := by rw [segB, List.length_append, headB_length]
  rw [show (segB first ds).drop 16 = recsB first ds from head_drop first _] at hdr
  generalize (segB first ds).length = L at *
  have p0 : (16 : Int) ≤ (L : Int) := by omega
  have p1 : (L : Int) ≤ (c : Int) := by omega
  have p2 : L - 16 = (recsB first ds).length := by omega
  replace p2 := Lib.hid p2
  replace hl := Lib.hid hl
  clear hsl h
  have hR0 : L - 16 = (recsB first ds).length := p2.out
  replace hR0 := Lib.hid hR0
  go_enter Tryz.func22, Tryz.ntmps22
  go_upto_region 1 with fail
  go_cut [0] from 10 to 11 (fun b wx => wx = w ∧ ∃ A' c', b = .slice A' (recsB first ds).length c' ∧ (recsB first ds).length ≤ c' ∧ BRow w A' (recsB first ds))
  case first =>
    by_cases hcc : c = 16
    · have hz : (recsB first ds).length = 0 := by rw [← hR0.out]; omega
      have hL : L = 16 := by omega
      subst hcc hL
      go_wp2_with fail
      go_meet
      rw [hz]
      exact ⟨rfl, _, _, rfl, Nat.zero_le _, fun j hj => by omega⟩
    · go_wp2_with fail
      go_meet
      rw [← hR0.out]
      exact ⟨rfl, _, _, rfl, by omega, hdr⟩
  case rest =>
    obtain ⟨rfl, A1, c1, rfl, hc1, hB1⟩ := hcut
    have hRl0 := Lib.hid (show L - 16 = (recsB first ds).length from hR0.out)
    clear hdr hR0 p2 hc p0 p1
    replace h16 := Lib.hid h16
    replace hds := Lib.hid hds
    replace hf := Lib.hid hf
    replace hl := Lib.hid hl.out
    go_wp2_with fail
    go_loopw [0, 1, 4] (fun b q l wr => ∃ (dn td : List (List UInt8)) (A' : Option Addr) (c' : Nat), ds = dn ++ td ∧ b = .slice A' (recsB (first + dn.length) td).length c' ∧ (recsB (first + dn.length) td).length ≤ c' ∧ BRow wc A' (recsB (first + dn.length) td) ∧ (recsB (first + dn.length) td).length ≤ 100000000 ∧
        q = .int .i64 ((first + dn.length : Nat) : Int) ∧ wr.ownsRow wc.heap.size 49 2 l dn.length (recV first dn) ∧ Below wc.heap.size wc wr) (fun b _ _ _ => slen b)
    case atStart => exact ⟨[], ds, A1, c1, rfl, rfl, hc1, hB1, by have := hl.out; have := hRl0.out; have := h16.out; simp only [List.length_nil, Nat.add_zero]; omega, rfl, World.ownsRow_nil _ _ _ _, Below.refl _ _⟩
    case round =>
      obtain ⟨dn, td, A', c', hd, rfl, hc', hBR, hLR, rfl, HO, HB⟩ := hrel
      rcases td with _ | ⟨d, td⟩
      · have hz : (recsB (first + dn.length) ([] : List (List UInt8))).length = 0 := rfl
        rw [List.append_nil] at hd
        subst hd
        go_wp2_with fail
        go_ret2
        exact ⟨_, rfl, HO, HB⟩
      · have hdm : d.length ≤ 65536 := hds.out d (by rw [hd]; simp)
        have hq : first + dn.length ≤ 1000000 := by have hf := hf.out; rw [hd, List.length_append] at hf; omega
        have hR : recsB (first + dn.length) (d :: td) = laidB (first + dn.length) d ++ recsB (first + dn.length + 1) td := rfl
        have hRl : (recsB (first + dn.length) (d :: td)).length = d.length + 16 + (recsB (first + dn.length + 1) td).length := by rw [hR, List.length_append, laidB_length]; omega
        rw [hR] at hBR hc' hLR hRl
        rw [hR]
        generalize hq0 : first + dn.length = q at *
        have hqn : ((q : Nat) : Int) = ((first + dn.length : Nat) : Int) := by rw [hq0]
        obtain ⟨g2, o2, rfl, hc00⟩ := hBR 0 (by omega)
        clear hc00
        have hBdr := hBR.drop (d.length + 16)
        replace hBR := hBR.below HB
        have k1 := rec_len q d (recsB (q + 1) td) hdm
        have k2 := rec_seq q d (recsB (q + 1) td) (by omega)
        have k3 := rec_take q d (recsB (q + 1) td)
        have k4 := rec_drop q d (recsB (q + 1) td)
        have k5 := rec_data q d (recsB (q + 1) td)
        have hB12 := (hBR.drop 12).take d.length
        have hBtk := hBR.take (d.length + 16)
        rw [k5] at hB12
        rw [k3] at hBtk
        rw [k4] at hBdr
        have hG32 := Lib.hid (fun x (hx : Drawn wr x) => get32_any (some ⟨g2, o2, none⟩) (laidB q d ++ recsB (q + 1) td) c' 0 (by omega) (by omega) x (hBR.below (hx.below _)))
        rw [k1] at hG32
        have hG64 := Lib.hid (fun x (hx : Drawn wr x) => get64_any (some ⟨g2, o2, none⟩) (laidB q d ++ recsB (q + 1) td) c' 4 (by omega) (by omega) x (hBR.below (hx.below _)))
        rw [k2] at hG64
        have hWh := Lib.hid (fun x (hx : Drawn wr x) => whole_any (some ⟨g2, o2, none⟩) (laidB q d) c' (12 + d.length) (by rw [laidB_length]; omega) (by rw [laidB_length]; omega) (by rw [laidB_length]; omega) (rec_sum q d) x (hBtk.below (hx.below _)))
        rw [laidB_length, Nat.add_comm 16] at hWh
        have hcv := Lib.hid (fun x (hx : Drawn wr x) => run_convert_bytes_back (P := Tryz.prog) x 69 9 5 ⟨g2, o2 + 12, none⟩ (c' - 12) d Tryz.underlying69 Tryz.underlying5 Tryz.underlying9 (fun j hj => by
          obtain ⟨g4, o4, e1, e2⟩ := (hB12.below (hx.below _)) j hj
          simp only [Option.some.injEq, Addr.mk.injEq, and_true] at e1
          obtain ⟨rfl, rfl⟩ := e1
          have hadd : (⟨g2, o2 + 12, none⟩ : Addr).add j = ⟨g2, o2 + 12 + j, none⟩ := by unfold Addr.add; split <;> simp_all
          rw [hadd, e2, nb]
          simp [hj]))
        generalize hM : (laidB q d ++ recsB (q + 1) td).length = M at *
        obtain ⟨h1, h2, h3, h4, h5, h6, h7, r1, r2, r3, r4, r5, r6, r7, r8⟩ := rec_nums (n := d.length) (M := M) (c := c') (q := q) hdm (by omega) hc' hq
        replace hRl := Lib.hid hRl
        replace hLR := Lib.hid hLR
        replace hdm := Lib.hid hdm
        replace hq := Lib.hid hq
        replace hM := Lib.hid hM
        replace hd := Lib.hid hd
        replace hq0 := Lib.hid hq0
        clear hR k1 k2 k3 k4 k5 hB12 hBtk hB1 hc1 hqn
        generalize hn : d.length = n at *
        replace hn := Lib.hid hn
        go_wp2_with fail
        refine (hG32.out _ (Drawn.refl _)).mono ?_
        rintro e x1 ⟨rfl, hD1⟩
        go_wp2_with fail
        refine (hG64.out x1 hD1).mono ?_
        rintro e x2 ⟨rfl, hD2⟩
        replace hD2 := hD1.trans hD2
        clear hG32 hG64 hD1
        go_wp2_with fail
        refine (hWh.out x2 hD2).mono ?_
        rintro e x3 ⟨rfl, hD3⟩
        replace hD3 := hD2.trans hD3
        have hcv3 := hcv.out x3 hD3
        have HO3 := HO.kept (grown_of_below (hD3.below wr.heap.size) none) (by simp; exact Classical.em _)
        have HB3 := below_chain HB (hD3.below _) HB.size
        have hz3 := HB3.size
        clear hWh hD2 hcv
        have hdl : dn.length + 1 ≤ 1000001 := by have := hq0.out; have := hq.out; omega
        have hl1 : dn.length + 1 ≤ maxLen := by simp only [maxLen]; omega
        have hl2 : (dn.length + 1) * 24 ≤ 140737488355328 := by omega
        replace hdl := Lib.hid hdl
        replace hl1 := Lib.hid hl1
        replace hl2 := Lib.hid hl2
        go_upto_region 8 with (at_builtin; refine append_two wc.heap.size rfl (.tmp 51) (.tmp 59) _ 49 (.agg #[.int .i64 0, .string ByteArray.empty]) 24 rfl Tryz.underlying31 rec_info rfl u4 dn.length _ (.int .i64 (q : Int)) (.string ⟨d.toArray⟩) rfl rfl rfl rfl HO3 hz3 hl1.out hl2.out ?_; intro v1 w1 HO1 hg1 hat1)
        have HB1 := below_of_grown HB3 hg1 (fun k hk => (own_lt' HO3 k hk).1)
        have hM2 : M - (n + 16) = (recsB (q + 1) td).length := by have := hRl.out; omega
        replace hM2 := Lib.hid hM2
        clear hcv3 HO HO3 HB HB3 hBR hD3 h3 h4 h5 h6 r3 r4 r7
        go_cut [0] from 12 to 67 (fun b wx => wx = w1 ∧ ∃ A' c'', b = .slice A' (recsB (q + 1) td).length c'' ∧ (recsB (q + 1) td).length ≤ c'' ∧ BRow wc A' (recsB (q + 1) td))
        case first =>
          by_cases hcc : c' = n + 16
          · have hz : (recsB (q + 1) td).length = 0 := by have := hM2.out; omega
            have hL : M = n + 16 := by have := hRl.out; omega
            subst hcc hL
            go_wp2_with fail
            go_meet
            rw [hz]
            exact ⟨rfl, _, _, rfl, Nat.zero_le _, fun j hj => by omega⟩
          · go_wp2_with fail
            go_meet
            rw [← hM2.out]
            exact ⟨rfl, _, _, rfl, by omega, hBdr⟩
        case rest =>
          obtain ⟨hw, A2, c2, rfl, hc2, hB2⟩ := hcut
          replace hw := hw.symm
          subst hw
          have hm2 : (recsB (q + 1) td).length < M := by have := hRl.out; omega
          have hL2 : (recsB (q + 1) td).length ≤ 100000000 := by have := hLR.out; omega
          have hq1 : first + (dn ++ [d]).length = q + 1 := by rw [List.length_append, ← hq0.out]; simp; omega
          have hr1 := recV_snoc first dn d
          rw [hq0.out] at hr1
          have hd2 : ds = (dn ++ [d]) ++ td := by rw [hd.out]; simp
          have hln : (dn ++ [d]).length = dn.length + 1 := by simp
          rw [show (recV first dn ++ [Value.int .i64 (q : Int), .string ⟨d.toArray⟩]) = recV first (dn ++ [d]) from hr1.symm, ← hln] at HO1
          replace hL2 := Lib.hid hL2
          replace hq1 := Lib.hid hq1
          clear hr1 hln hBdr r1 r2 r5 r6 r8 h2 h1
          go_wp2_with fail
          go_roundw
          case rel => exact ⟨dn ++ [d], td, A2, c2, hd2, by rw [hq1.out], by rw [hq1.out]; exact hc2, by rw [hq1.out]; exact hB2, by rw [hq1.out]; exact hL2.out, by rw [hq1.out, h7]; simp, HO1, HB1⟩
          all_goals (simpa [slen] using hm2)
end Go.Proofs.YtejbfglaalmafaaGreatDoor
