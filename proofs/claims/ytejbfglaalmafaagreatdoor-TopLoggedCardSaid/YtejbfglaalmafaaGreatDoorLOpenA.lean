/- What wal.Open calls: names, numbers, heads, rows behind rows; Open on an empty disk. -/
import Derived.Test.YtejbfglaalmafaaGreatDoorLSettle
import Derived.Laws.AppendOwnNone
import Derived.Lib.SmallJoins
namespace Go.Proofs.YtejbfglaalmafaaGreatDoor
open Go.RowKit
set_option linter.unusedVariables false

section
variable {P : Program} {ops : Array Oper} {rest : List Oper} {o : Oper} {a : Act} {Q : Exit → Act → World → Prop}
/-- 'append(v, x...)', x a row, or nil. -/
theorem append_row {w : World} (base B2 : Nat) (hgd : o.guard = none) (s x : Operand) (t e : TypeId) (z : Value) (size bytes : Nat)
    (ho : o.op = .call { callee := .builtin .append, args := #[s, x], argTypes := #[t, t] })
    (ht : P.underlying t = some (.slice e)) (hinfo : (P.info? e).map (fun i => (i.zero, i.size, i.bytes)) = some (some z, size, bytes)) (hz : z.cells.size = size) (hsz : 0 < size) (hb0 : 0 < bytes)
    (v vx : Value) (n m : Nat) (xs ys : List Value) (hs : a.eval s = v) (hx : a.eval x = vx) (HO : w.ownsRow base e size v n xs) (HX : w.ownsRow B2 e size vx m ys) (h1 : ∀ u ∈ ys, u.oneCell' = true)
    (hbase : base ≤ w.heap.size) (hl : (n + m) * bytes ≤ 140737488355328)
    (h : ∀ v1 w1, w1.ownsRow base e size v1 (n + m) (xs ++ ys) → w.grownBy w1 v.ownBlock → (v1.ownBlock = v.ownBlock ∨ v1.ownBlock = some w.heap.size) → wpList P ops Q rest (a.put o.dst v1) w1) :
    wpList P ops Q (o :: rest) a w := by
  obtain ⟨i0, hi, hzz⟩ := Option.map_eq_some_iff.1 hinfo
  simp only [Prod.mk.injEq] at hzz
  obtain ⟨hz0, hz1, hz2⟩ := hzz
  have hlen : n + m ≤ 140737488355328 := Nat.le_trans (Nat.le_mul_of_pos_right _ hb0) hl
  have HX' := HX
  obtain ⟨hyl, (⟨rfl, rfl⟩ | ⟨g, cap, cur, rfl, _⟩)⟩ := HX
  · have hy : ys = [] := List.eq_nil_of_length_eq_zero (by omega)
    subst hy
    refine wpList_append_own_none hgd s x t ho base e i0 size ht hi v n xs hs HO hx ?_
    exact h v w (by simpa using HO) (by exact ⟨rfl, rfl, rfl, Nat.le_refl _, fun _ _ _ => rfl⟩) (.inl rfl)
  · refine wpList_append_own_at w hgd s x t ho base e i0 z size bytes ht hi hz0 hz1 hz2 hz hsz v n xs hs HO ⟨g, 0, none⟩ m cap ys hx hyl (fun j u hu => HX'.cells rfl j u hu) h1 (by simp only [maxLen]; omega) hl hbase ?_
    intro v1 w1 hown hg _ hat
    exact h v1 w1 hown hg hat
end
theorem prefix_seg (j : Nat) (T : ByteArray) (hT : strV (segN j) = .string T) (w : World) :
    Calls Tryz.prog 17 #[.string T, .string ⟨#[108, 111, 103, 46]⟩] w fun e w' => e = .returned (.bool true) ∧ w' = w := by
  have h := Tryz.strings_HasPrefix T ⟨#[108, 111, 103, 46]⟩ w
  simp only [strV, Value.string.injEq] at hT
  subst hT
  exact h
theorem atoi_seg (j : Nat) (hj : j < 6) : Lib.atoi [48, 48, 48, 48, 48, UInt8.ofNat (49 + j)] = some (((j + 1 : Nat)) : Int) := by
  have h2 : j = 0 ∨ j = 1 ∨ j = 2 ∨ j = 3 ∨ j = 4 ∨ j = 5 := by omega
  rcases h2 with rfl | rfl | rfl | rfl | rfl | rfl <;> decide
theorem seg_tail (j : Nat) (w : World) : (Instr.slice 9 (strV (segN j)) (some (.int .i64 4)) none none).run Tryz.prog w = .ok (.string (ByteArray.mk [48, 48, 48, 48, 48, UInt8.ofNat (49 + j)].toArray)) w := run_slice_front w [108, 111, 103, 46] _
theorem num_seg (j : Nat) (hj : j < 6) (w : World) :
    Calls Tryz.prog 18 #[.string (ByteArray.mk [48, 48, 48, 48, 48, UInt8.ofNat (49 + j)].toArray)] w fun e w' => e = .returned (.tuple #[.int .i64 ((j + 1 : Nat) : Int), .nilIface]) ∧ Below w.heap.size w w' := by
  refine (Tryz.strconv_Atoi (ByteArray.mk [48, 48, 48, 48, 48, UInt8.ofNat (49 + j)].toArray) ((j + 1 : Nat) : Int) (by simp [ByteArray.size]) (atoi_seg j hj) w).mono ?_
  rintro e w' ⟨he, t, rfl⟩
  exact ⟨he, Joins.below_bytesWorld _ w _ t (Nat.le_refl _)⟩
theorem begins_seg (A : Option Addr) (c first : Nat) (ds : List (List UInt8)) (hc : (segB first ds).length ≤ c) (hl : (segB first ds).length ≤ 1000000000) (hf : first ≤ 1000000) (w : World) (h : BRow w A (segB first ds)) :
    Calls Tryz.prog 20 #[.slice A (segB first ds).length c] w fun e w' => e = .returned (.tuple #[.int .i64 (first : Int), .bool true]) ∧ Drawn w w' := by
  have h16 : 16 ≤ (segB first ds).length := by rw [segB, List.length_append, headB_length]; omega
  refine begins_any A (segB first ds) c first h16 hc hl ?_ ?_ ?_ (by omega) w h
  · rw [segB, head_take]
    exact head_sum _
  · rw [segB]
    exact head_mark _ _
  · rw [segB]
    exact head_first _ _ (by omega)
/-- All texts of the first segments. -/
def flatN (ds : Nat → List (List UInt8)) : Nat → List (List UInt8)
  | 0 => []
  | i + 1 => flatN ds i ++ ds i
theorem fiN_flat (ds : Nat → List (List UInt8)) : ∀ i, fiN ds i = 1 + (flatN ds i).length
  | 0 => rfl
  | i + 1 => by rw [fiN, flatN, List.length_append, fiN_flat ds i]; omega
theorem recV_append : ∀ (q : Nat) (a b : List (List UInt8)), recV q (a ++ b) = recV q a ++ recV (q + a.length) b
  | q, [], b => by simp [recV]
  | q, x :: a, b => by
    simp only [List.cons_append, recV, recV_append (q + 1) a b, List.length_cons]
    rw [show q + 1 + a.length = q + (a.length + 1) by omega]
theorem recV_one : ∀ (q : Nat) (a : List (List UInt8)), ∀ u ∈ recV q a, u.oneCell' = true
  | _, [] => fun u hu => by simp [recV] at hu
  | q, d :: a => fun u hu => by
    simp only [recV, List.mem_cons] at hu
    rcases hu with rfl | rfl | hu
    · rfl
    · rfl
    · exact recV_one (q + 1) a u hu
theorem ddown {w : World} {b nm dk k : Nat} {G : Nat → Nat} {S : Nat → List UInt8} {F : Nat → Bool} {Z : Bool} {N : Nat} (h : DS w b nm dk k G S F Z N) :
    Calls Tryz.prog 14 #[.pointer (some ⟨dk, 0, none⟩)] w fun e w' => e = .returned (.bool false) ∧ w = w' := by
  obtain ⟨sm, ch, st, n, ns, D2, kk, h⟩ := h
  exact down_ok dk 4194304 nm sm ch st w h.hd
def OpenNewP (w : World) (b nm dk : Nat) (N : Nat) (e : Ending) (w' : World) : Prop := ∃ lg G' Q', e = .returned (.tuple #[.pointer (some ⟨lg, 0, none⟩), .slice none 0 0, .int .i64 0]) ∧ WS w' b nm dk lg 1 G' Q' (fun _ => []) (fun _ => false) false (N + 1) ∧ Ty b wsT (fun i => i = nm) w w'
set_option maxRecDepth 100000 in
set_option maxHeartbeats 4000000 in
theorem open_new {w : World} {b nm dk : Nat} {G : Nat → Nat} {S : Nat → List UInt8} {F : Nat → Bool} {Z : Bool} {N : Nat} (h : DS w b nm dk 0 G S F Z N) (hN : N ≤ 100000) (hB : Tab w b) :
    Calls Tryz.prog 6 #[.pointer (some ⟨dk, 0, none⟩)] w (OpenNewP w b nm dk N) := by
  have hDn := Lib.hid (ddown h)
  have hbw := h.size
  have hba := below_alloc1 w (.cells (logV dk (.slice none 0 0) 0 false 0) 60)
  have hlg := Blk.new w 60 (logV dk (.slice none 0 0) 0 false 0)
  have hD1 : DS (w.alloc (.cells (logV dk (.slice none 0 0) 0 false 0) 60)) b nm dk 0 G (segS (fun _ => [])) F Z N := (h.below hba).congr (fun i hi => by omega) (fun i hi => by omega)
  have hL1 : LGx (w.alloc (.cells (logV dk (.slice none 0 0) 0 false 0) 60)) b dk w.heap.size 0 (fun _ => 0) (fun _ => []) F false (.slice none 0 0) 0 := { hl := hlg, hv := World.ownsRow_nil _ _ _ _, hs := fun i hi => by omega, hi := fun i j hi => by omega, bl := hbw }
  have hT1 : Ty b wsT (fun i => i = nm) w (w.alloc (.cells (logV dk (.slice none 0 0) 0 false 0) 60)) := Ty.of_below hba hbw
  have hlv : logV dk (.slice none 0 0) 0 false 0 = #[.pointer (some ⟨dk, 0, none⟩), .slice none 0 0, .int .i64 0, .bool false, .int .i64 0] := rfl
  rw [hlv] at hL1 hD1 hT1
  clear hlv hlg hba
  go_enter Tryz.func6, Tryz.ntmps6
  go_wp2_with fail
  refine hDn.out.mono ?_
  rintro e w0 ⟨rfl, rfl⟩
  go_upto_region 6 with fail
  obtain ⟨lg, hlg⟩ : ∃ lg, w.heap.size = lg := ⟨_, rfl⟩
  rw [hlg] at hL1
  simp only [hlg]
  generalize w.alloc (.cells #[.pointer (some ⟨dk, 0, none⟩), .slice none 0 0, .int .i64 0, .bool false, .int .i64 0] 60) = w1 at *
  have hba := below_alloc1 w1 (.cells #[.slice none 0 0] 61)
  have hsb := Blk.new w1 61 #[.slice none 0 0]
  have hL2 := hL1.below hba
  have hD2 := hD1.below hba
  have hT2 := hT1.trans (Ty.of_below hba hD1.size)
  clear hba hL1 hD1 hT1 hDn h hlg
  go_upto_region 8 with fail
  obtain ⟨sb, hsbq⟩ : ∃ sb, w1.heap.size = sb := ⟨_, rfl⟩
  rw [hsbq] at hsb
  simp only [hsbq]
  generalize w1.alloc (.cells #[.slice none 0 0] 61) = w2 at *
  clear hsbq
  have hNm := Lib.hid (dnames hD2 (by omega))
  replace hN := Lib.hid hN
  go_wp2_with fail
  refine hNm.out.mono ?_
  rintro e w3 ⟨v, B, rfl, -, -, hv0, hb3⟩
  obtain rfl := hv0 rfl
  have hL3 := hL2.below hb3
  have hD3 := hD2.below hb3
  have hT3 := hT2.trans (Ty.of_below hb3 hD2.size)
  have s0 : w3.cell? ⟨sb, 0, none⟩ = some (.slice none 0 0) := (hsb.below hb3 hsb.lt).cell 0
  have hSt := Lib.hid (settle_new hL3 hD3 hN.out (hB.ty hT3))
  clear hNm hv0 hL2 hD2 hT2 hb3 hL3 hD3 hsb
  go_wp2_with fail
  go_loopw [6, 7, 10, 33] (fun a l wl u wr => a = .slice none 0 0 ∧ l = .slice none 0 0 ∧ wl = .bool false ∧ u = .int .i64 0 ∧ wr = w3) (fun _ _ _ _ _ => 0)
  case atStart => exact ⟨rfl, rfl, rfl, rfl, rfl⟩
  case round =>
    obtain ⟨rfl, rfl, rfl, rfl, rfl⟩ := hrel
    go_wp2_with fail
    refine hSt.out.mono ?_
    rintro e w4 ⟨G4, Q4, rfl, hW4, hT4⟩
    have hud : upd (fun _ => ([] : List (List UInt8))) 0 [] = fun _ => [] := by funext i; simp [upd]
    rw [hud] at hW4
    have hT5 := hT3.trans hT4
    obtain ⟨⟨v4, sy4, hL4⟩, hD4⟩ := hW4
    have hLa := Lib.hid (last_ok hL4 (by rw [show fiN (fun _ => ([] : List (List UInt8))) 1 = 1 from rfl]; omega) (by omega))
    clear hSt hT4 hud s0 hT3
    go_wp2_with fail
    refine hLa.out.mono ?_
    rintro e w5 ⟨rfl, hb5⟩
    have hL5 := hL4.below hb5
    have y2 : w5.cell? ⟨lg, 2, none⟩ = some (.int .i64 sy4) := hL5.hl.cell 2
    have yf := hL5.hl.frozen 2
    have hf0 : fiN (fun _ => ([] : List (List UInt8))) 1 - 1 = 0 := rfl
    simp only [hf0]
    obtain ⟨hL6, hT6⟩ := hL5.log (Z' := false) (sy' := 0) (grown_set w5 ⟨lg, 2, none⟩ (.int .i64 0)) (hL5.hl.set_ 2 _)
    have hfin : OpenNewP w b nm dk N (.returned (.tuple #[.pointer (some ⟨lg, 0, none⟩), .slice none 0 0, .int .i64 0])) (w5.setCell ⟨lg, 2, none⟩ (.int .i64 0)) := ⟨_, _, _, rfl, ⟨⟨_, _, hL6⟩, (hD4.below hb5).ty hT6 rfl rfl rfl rfl⟩, (hT5.trans (Ty.of_below hb5 hD4.size)).trans (hT6.wal.mono (fun _ e => e) (fun _ e => e.elim))⟩
    replace hfin := Lib.hid hfin
    clear hLa hL4 hD4 hb5 hL5 hL6 hT6 hf0
    go_wp2_with fail
    refine bodyPost_ret (v := .tuple #[.pointer (some ⟨lg, 0, none⟩), .slice none 0 0, .int .i64 0]) (by simp [results, Tryz.results6, go_sem]) rfl ?_
    exact hfin.out
end Go.Proofs.YtejbfglaalmafaaGreatDoor
