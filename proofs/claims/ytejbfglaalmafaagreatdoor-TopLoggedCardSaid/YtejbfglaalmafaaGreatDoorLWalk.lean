/- The walk of TopLogged. -/
import Derived.Test.YtejbfglaalmafaaGreatDoorLPlain
namespace Go.Proofs.YtejbfglaalmafaaGreatDoor
open Go.RowKit
set_option linter.unusedVariables false

/-- The rows, as they came in. -/
def RowsAt (w : World) (A : Option Addr) (n : Nat) (ids : Nat → Int) (VA : Nat → Option Addr) (vs : Nat → List Int) (vc : Nat → Nat) : Prop :=
  ∀ j, j < n → ∃ g off, A = some ⟨g, off, none⟩ ∧ w.cell? ⟨g, off + j * 2, none⟩ = some (.int .i64 (ids j)) ∧ w.cell? ⟨g, off + j * 2 + 1, none⟩ = some (.slice (VA j) (vs j).length (vc j)) ∧ Row w (VA j) (vs j)
def GoneAt (w : World) (A : Option Addr) (n : Nat) (gs : Nat → Bool) : Prop := ∀ j, j < n → ∃ g off, A = some ⟨g, off, none⟩ ∧ w.cell? ⟨g, off + j, none⟩ = some (.bool (gs j))
def chVs (l : List Ch) : List Value := l.flatMap chV
theorem chVs_snoc (l : List Ch) (x : Ch) : chVs (l ++ [x]) = chVs l ++ [.int .i64 (chK x), .int .i64 x.id, .slice x.A x.v.length x.c] := by
  simp [chVs, chV]
theorem chVs_length (l : List Ch) : (chVs l).length = l.length * 3 := by
  induction l with
  | nil => rfl
  | cons x l ih =>
    have h : chVs (x :: l) = chV x ++ chVs l := rfl
    rw [h, List.length_append, ih]
    simp [chV]
    omega
theorem chVs_at : ∀ (l : List Ch) (j : Nat) (x : Ch), l[j]? = some x → (chVs l)[j * 3]? = some (.int .i64 (chK x)) ∧ (chVs l)[j * 3 + 1]? = some (.int .i64 x.id) ∧ (chVs l)[j * 3 + 2]? = some (.slice x.A x.v.length x.c)
  | [], j, x, h => by simp at h
  | y :: l, 0, x, h => by
    simp only [List.getElem?_cons_zero, Option.some.injEq] at h
    subst h
    exact ⟨rfl, rfl, rfl⟩
  | y :: l, j + 1, x, h => by
    have h1 := chVs_at l j x (by simpa using h)
    have e : chVs (y :: l) = .int .i64 (chK y) :: .int .i64 y.id :: .slice y.A y.v.length y.c :: chVs l := rfl
    rw [e, show (j + 1) * 3 = j * 3 + 1 + 1 + 1 by omega]
    simp only [List.getElem?_cons_succ]
    exact h1
theorem recV_at : ∀ (q : Nat) (l : List (List UInt8)) (j : Nat) (d : List UInt8), l[j]? = some d → (recV q l)[j * 2 + 1]? = some (strV d)
  | _, [], j, d, h => by simp at h
  | q, y :: l, 0, d, h => by
    simp only [List.getElem?_cons_zero, Option.some.injEq] at h
    subst h
    rfl
  | q, y :: l, j + 1, d, h => by
    have h1 := recV_at (q + 1) l j d (by simpa using h)
    rw [recV, show (j + 1) * 2 + 1 = j * 2 + 1 + 1 + 1 by omega]
    simp only [List.getElem?_cons_succ]
    exact h1
/-- What was sent so far. -/
structure Sent (w wr : World) (l : List Ch) : Prop where
  ok : ∀ x ∈ l, ChOk x ∧ chE x = 0 ∧ Row w x.A x.v
def TopP (w : World) (e : Ending) (w' : World) : Prop := e = .returned (.bool true) ∧ Below w.heap.size w w'
theorem RowsAt.lens {w : World} {A : Option Addr} {n : Nat} {ids : Nat → Int} {VA : Nat → Option Addr} {vs : Nat → List Int} {vc : Nat → Nat} (h : RowsAt w A n ids VA vs vc) : Lens w A n := fun j hj => by
  obtain ⟨g, off, e, _, h2, _⟩ := h j hj
  exact ⟨g, off, _, _, _, e, h2⟩
theorem RowsAt.below {w w' : World} {A : Option Addr} {n : Nat} {ids : Nat → Int} {VA : Nat → Option Addr} {vs : Nat → List Int} {vc : Nat → Nat} (h : RowsAt w A n ids VA vs vc) (hb : Below w.heap.size w w') : RowsAt w' A n ids VA vs vc := fun j hj => by
  obtain ⟨g, off, e, h1, h2, h3⟩ := h j hj
  exact ⟨g, off, e, below_cell hb h1, below_cell hb h2, h3.below hb⟩
theorem GoneAt.below {w w' : World} {A : Option Addr} {n : Nat} {gs : Nat → Bool} (h : GoneAt w A n gs) (hb : Below w.heap.size w w') : GoneAt w' A n gs := fun j hj => by
  obtain ⟨g, off, e, h1⟩ := h j hj
  exact ⟨g, off, e, below_cell hb h1⟩
/-- The sending loop's state. -/
structure SendX (b : Nat) (w wr : World) (nm dk lg j : Nat) (sv : Value) (l : List Ch) (k : Nat) (ds : Nat → List (List UInt8)) (G Q : Nat → Nat) (F : Nat → Bool) (Z : Bool) : Prop where
  hW : WS wr b nm dk lg k G Q ds F Z (1 + j)
  hS : Sizes k ds
  hf : flatN ds k = l.map chB
  hl : l.length ≤ j
  hv : wr.ownsRow b 39 3 sv l.length (chVs l)
  ok : ∀ x ∈ l, ChOk x ∧ chE x = 0 ∧ Row w x.A x.v
  hA : AnyT b w wr
def SendInv (b : Nat) (w wr : World) (nm dk lg j : Nat) (sv : Value) : Prop := ∃ l k ds G Q F Z, SendX b w wr nm dk lg j sv l k ds G Q F Z
set_option maxRecDepth 100000 in
set_option maxHeartbeats 8000000 in
theorem topLogged_walk {w : World} {A B C : Option Addr} {n c ng cg cc : Nat} {chs : List Int} {ids : Nat → Int} {VA : Nat → Option Addr} {vs : Nat → List Int} {vc : Nat → Nat} {gs : Nat → Bool} (hR : RowsAt w A n ids VA vs vc) (hG : GoneAt w B ng gs) (hC : Row w C chs) (hcc : chs.length ≤ cc) (hT : Tab w w.heap.size) :
    Calls Tryz.prog 3 #[.slice A n c, .slice B ng cg, .slice C chs.length cc] w (TopP w) := by
  have hLi := Lib.hid (light_any A n c w hR.lens)
  have hNew := Lib.hid (new_ok 4194304 (by omega) (by omega) w)
  obtain ⟨b, hb⟩ : ∃ b, w.heap.size = b := ⟨_, rfl⟩
  go_enter Tryz.func3, Tryz.ntmps3
  go_wp2_with fail
  refine hLi.out.mono ?_
  rintro e w0 ⟨x, rfl, rfl⟩
  clear hLi
  cases x with
  | false =>
    clear hNew hR hG hC hcc hT hb
    go_wp2_with fail
    go_ret
    exact ⟨rfl, Below.refl _ _⟩
  | true =>
    by_cases hn : n ≤ 200
    · by_cases hc : chs.length ≤ 200
      · have hn1 : decide ((200 : Int) < (n : Int)) = false := decide_eq_false (by omega)
        have hc1 : decide ((200 : Int) < (chs.length : Int)) = false := decide_eq_false (by omega)
        go_wp2_with fail
        refine hNew.out.mono ?_
        rintro e w1 ⟨dk, nm, sm, rfl, hd1, hm1, hs1, hnn1, hn2, hn3, hb1⟩
        have hD1 := new_ds (b := b) hd1 hm1 hs1 (by omega) hn2 hn3
        have hA1 : AnyT b w w1 := (AnyT.refl b w).below (by omega) hb1
        have hbw : b ≤ w.heap.size := by omega
        have hBb : Tab w b := by rw [hb] at hT; exact hT
        have hOp := Lib.hid (open_new hD1 (by omega) (hBb.ty hA1))
        clear hNew hd1 hm1 hs1 hnn1 hn2 hn3 hb1 hD1 hc1
        go_wp2_with fail
        refine hOp.out.mono ?_
        rintro e w2 ⟨lg, G2, Q2, rfl, hW2, hT2⟩
        have hA2 : AnyT b w w2 := hA1.trans hT2.any
        clear hOp hT2 hA1
        have hnum : n ≤ 200 := hn
        replace hn := Lib.hid hn
        go_wp2_with fail
        have hinit : SendInv b w w2 nm dk lg 0 (.slice none 0 0) := ⟨[], 1, fun _ => [], G2, Q2, _, _, {
          hW := hW2
          hS := {
            one := by omega
            small := fun j hj => by rw [seg_empty]; omega
            full := fun j hj => by omega
            texts := fun j hj d hd => by simp at hd }
          hf := rfl
          hl := Nat.le_refl _
          hv := World.ownsRow_nil _ _ _ _
          ok := fun x hx => by simp at hx
          hA := hA2 }⟩
        clear hW2 hA2
        go_loopw [12, 13] (fun sv u wr => ∃ j : Nat, u = .int .i64 (j : Int) ∧ j ≤ n ∧ SendInv b w wr nm dk lg j sv) (fun _ u _ => n - (intOf u).toNat)
        case atStart => exact ⟨0, rfl, Nat.zero_le _, hinit⟩
        case round =>
          obtain ⟨j, rfl, hj, hI⟩ := hrel
          clear hinit
          by_cases hjn : j < n
          · obtain ⟨l, k, ds, G, Q, F, Z, hx⟩ := hI
            have hbel : Below w.heap.size w wr := by
              have h1 := hx.hA
              rw [← hb] at h1
              exact h1.to_below
            obtain ⟨g, off, rfl, r0, r1, hv⟩ := (hR.below hbel) j hjn
            have hvw : Row w (VA j) (vs j) := by
              obtain ⟨_, _, _, _, _, h⟩ := hR j hjn
              exact h
            have r0a := below_cell (below_alloc1 wr (.cells #[.int .i64 0, .int .i64 0, .slice none 0 0] 39)) r0
            have r1a := below_cell (below_alloc1 wr (.cells #[.int .i64 0, .int .i64 0, .slice none 0 0] 39)) r1
            go_upto_region 11 with fail
            go_region
            obtain ⟨cb, hcbq⟩ : ∃ cb, wr.heap.size = cb := ⟨_, rfl⟩
            have hbcb : b ≤ cb := by have := hx.hA.size; omega
            have hba := below_alloc1 wr (.cells #[.int .i64 1, .int .i64 (ids j), .slice (VA j) (vs j).length (vc j)] 39)
            have hcb := Blk.drew (Blk.new wr 39 #[.int .i64 1, .int .i64 (ids j), .slice (VA j) (vs j).length (vc j)])
            have hWa := (hx.hW.below hba).below ((Below.refl _ _).drew)
            have hva := World.ownsRow.drew (hx.hv.alloc (.cells #[.int .i64 1, .int .i64 (ids j), .slice (VA j) (vs j).length (vc j)] 39))
            have hAa : AnyT b w (wr.alloc (.cells #[.int .i64 1, .int .i64 (ids j), .slice (VA j) (vs j).length (vc j)] 39)).drew := Ty.drew (hx.hA.below hbw hba)
            have hvl : ∀ i, u12.ownBlock = some i → i < cb := fun i hi => by rw [← hcbq]; exact (own_lt' hx.hv i hi).2
            rw [hcbq] at hcb
            simp only [hcbq]
            clear r0a r1a r0 r1 hv hcbq hba
            generalize (wr.alloc (.cells #[.int .i64 1, .int .i64 (ids j), .slice (VA j) (vs j).length (vc j)] 39)).drew = wa at *
            have hbel2 : Below w.heap.size w wa := by
              have h1 := hAa
              rw [← hb] at h1
              exact h1.to_below
            have b0 := hcb.cell 0
            have b1 := hcb.cell 1
            have b2 := hcb.cell 2
            by_cases hjg : j < ng
            rotate_left 1
            focus (
              go_upto_region 14 with fail
              generalize wa = xa at *
              obtain ⟨y, hy⟩ : ∃ y : Ch, y = ⟨false, ids j, VA j, vs j, vc j⟩ := ⟨_, rfl⟩
              have hcbx : Blk xa cb 39 #[.int .i64 (chK y), .int .i64 y.id, .slice y.A y.v.length y.c] := by rw [hy]; exact hcb
              have hyo : ChOk y := by rw [hy]; exact fun e => by cases e
              have hyr : Row w y.A y.v := by rw [hy]; exact hvw
              have hWx := hWa
              have hvx := hva
              have hAx := hAa
              have hbelx := hbel2
              clear hcb hWa hva hAa hbel2 hy b0 b1 b2
              clear hjg)
            rotate_left 1
            obtain ⟨g2, off2, rfl, hg2⟩ := (hG.below hbel2) j hjg
            cases hgs : gs j
            focus (
              rw [hgs] at hg2
              go_upto_region 14 with fail
              generalize wa = xa at *
              obtain ⟨y, hy⟩ : ∃ y : Ch, y = ⟨false, ids j, VA j, vs j, vc j⟩ := ⟨_, rfl⟩
              have hcbx : Blk xa cb 39 #[.int .i64 (chK y), .int .i64 y.id, .slice y.A y.v.length y.c] := by rw [hy]; exact hcb
              have hyo : ChOk y := by rw [hy]; exact fun e => by cases e
              have hyr : Row w y.A y.v := by rw [hy]; exact hvw
              have hWx := hWa
              have hvx := hva
              have hAx := hAa
              have hbelx := hbel2
              clear hcb hWa hva hAa hbel2 hy b0 b1 b2
              clear hjg hg2 hgs)
            rotate_left 1
            focus (
              rw [hgs] at hg2
              obtain ⟨g3, off3, e3, r0, -, -⟩ := (hR.below hbel2) j hjn
              simp only [Option.some.injEq, Addr.mk.injEq, and_true] at e3
              obtain ⟨rfl, rfl⟩ := e3
              have bf := hcb.frozen
              have hg3 : wa.grownBy (((wa.setCell ⟨cb, 0, none⟩ (.int .i64 2)).setCell ⟨cb, 1, none⟩ (.int .i64 (ids j))).setCell ⟨cb, 2, none⟩ (.slice none 0 0)) (some cb) := grown_trans (grown_trans (grown_set wa _ _) (grown_set _ _ _)) (grown_set _ _ _)
              have hT3 : Ty b (fun t => t == 39) (fun _ => False) wa (((wa.setCell ⟨cb, 0, none⟩ (.int .i64 2)).setCell ⟨cb, 1, none⟩ (.int .i64 (ids j))).setCell ⟨cb, 2, none⟩ (.slice none 0 0)) := Ty.of_grown hg3 hWa.size (Owned.blk hcb hbcb rfl)
              have hWx := hWa.ty hT3 (fun t ht => by
                cases h : (t == 39) with
                | false => rfl
                | true =>
                  simp only [beq_iff_eq] at h
                  subst h
                  exact absurd ht (by decide)) rfl
              have hvx := hva.kept hg3 (Or.inr (fun e => by have := hvl _ e; omega))
              have hAx : AnyT b w _ := hAa.trans hT3.any
              have hcb3 : Blk (((wa.setCell ⟨cb, 0, none⟩ (.int .i64 2)).setCell ⟨cb, 1, none⟩ (.int .i64 (ids j))).setCell ⟨cb, 2, none⟩ (.slice none 0 0)) cb 39 #[.int .i64 2, .int .i64 (ids j), .slice none 0 0] := ((hcb.set_ 0 _).set_ 1 _).set_ 2 _
              go_upto_region 14 with fail
              generalize ((wa.setCell ⟨cb, 0, none⟩ (.int .i64 2)).setCell ⟨cb, 1, none⟩ (.int .i64 (ids j))).setCell ⟨cb, 2, none⟩ (.slice none 0 0) = xa at *
              obtain ⟨y, hy⟩ : ∃ y : Ch, y = ⟨true, ids j, none, [], 0⟩ := ⟨_, rfl⟩
              have hcbx : Blk xa cb 39 #[.int .i64 (chK y), .int .i64 y.id, .slice y.A y.v.length y.c] := by rw [hy]; exact hcb3
              have hyo : ChOk y := by rw [hy]; exact fun _ => ⟨rfl, rfl, rfl⟩
              have hyr : Row w y.A y.v := by rw [hy]; exact Row.nil_
              have hbelx : Below w.heap.size w xa := by
                have h1 := hAx
                rw [← hb] at h1
                exact h1.to_below
              clear hcb hcb3 hWa hva hAa hbel2 hy b0 b1 b2 hg3 hT3 bf r0 hg2 hgs hjg)
            all_goals (
              have hPu := Lib.hid (put_any y hyo (hyr.below hbelx))
              have b0 := hcbx.cell 0
              have b1 := hcbx.cell 1
              have b2 := hcbx.cell 2
              have hS0 := hx.hS
              have hf0 := hx.hf
              have hl0 := hx.hl
              have hok0 := hx.ok
              clear hx
              replace hl0 := Lib.hid hl0
              replace hok0 := Lib.hid hok0
              replace hvl := Lib.hid hvl
              go_wp2_with fail
              refine hPu.out.mono ?_
              rintro e x1 ⟨d, rfl, hd, hb1⟩
              have hW1 := hWx.below hb1
              have hv1 : x1.ownsRow b 39 3 _ l.length (chVs l) := hvx.kept (grown_of_below hb1 none) (Classical.em _)
              have hA1 : AnyT b w x1 := hAx.below hbw hb1
              have hcb1 := hcbx.below hb1 hcbx.lt
              clear hPu hWx hvx hAx hcbx hb1 b0 b1 b2 hbelx
              by_cases hE : chE y = 0
              · rw [hE]
                have hdB := hd hE
                have hdl := chB_le y hE
                rw [← hdB] at hdl
                obtain ⟨S, hS⟩ : ∃ S, strV d = .string S := ⟨_, rfl⟩
                have hSd : S.data.toList = d := by
                  simp only [strV, Value.string.injEq] at hS
                  rw [← hS]
                rw [hS]
                have hk1 := hS0.one
                obtain ⟨m, hkm⟩ : ∃ m, k = m + 1 := ⟨k - 1, by omega⟩
                have hlen : (flatN ds k).length ≤ 200 := by rw [hf0, List.length_map]; have := hl0.out; omega
                have hk4 := hS0.few hlen
                have hfi : fiN ds k < 1000000 := by rw [fiN_flat]; omega
                have hAp := Lib.hid (wappend_ok hW1 hkm (by omega) (by omega) hfi (fun q hq => by have := hS0.small q hq; omega) (hBb.ty hA1) S d hSd (by omega))
                have hE0 := Lib.hid hE
                clear hd hE hk1 hlen hk4 hfi
                replace hdl := Lib.hid hdl
                replace hkm := Lib.hid hkm
                go_wp2_with fail
                refine hAp.out.mono ?_
                rintro e x2 ⟨k2, G2, Q2, ds2, F2, Z2, rfl, hGr, -, hW2, hT2⟩
                have hcb2 := hT2.blk hcb1 rfl
                have hv2 := hT2.own hv1 rfl
                have hA2 : AnyT b w x2 := hA1.trans hT2.any
                have hb0 := hcb2.cell 0
                have hb1 := hcb2.cell 1
                have hb2 := hcb2.cell 2
                have hbx2 : b ≤ x2.heap.size := hW2.size
                have hl3 : l.length + 1 ≤ maxLen := by have := hl0.out; simp only [maxLen]; omega
                have hl4 : (l.length + 1) * 40 ≤ 140737488355328 := by have := hl0.out; omega
                replace hl3 := Lib.hid hl3
                replace hl4 := Lib.hid hl4
                clear hAp hW1 hv1 hA1 hcb1 hT2
                go_wp2_with (at_builtin; refine append_three b rfl (.tmp 102) (.tmp 104) _ 39 (.agg #[.int .i64 0, .int .i64 0, .slice none 0 0]) 40 rfl Tryz.underlying34 achg_info rfl u12 l.length (chVs l) (.int .i64 (chK y)) (.int .i64 y.id) (.slice y.A y.v.length y.c) rfl rfl rfl rfl rfl hv2 hbx2 hl3.out hl4.out ?_; intro v9 x9 HO9 hg9 hat9)
                have hT9 : Ty b (fun t => t == 39) (fun _ => False) x2 x9 := Ty.of_own hg9 hv2 rfl hbx2
                have hW9 := hW2.ty hT9 (fun t ht => by
                  cases h : (t == 39) with
                  | false => rfl
                  | true =>
                    simp only [beq_iff_eq] at h
                    subst h
                    exact absurd ht (by decide)) rfl
                obtain ⟨hS9, hf9⟩ := hS0.grown hkm.out hdl.out hGr
                have hnew : SendInv b w x9 nm dk lg (j + 1) v9 := ⟨l ++ [y], k2, ds2, G2, Q2, F2, Z2, {
                  hW := hW9.mono (by omega)
                  hS := hS9
                  hf := by rw [hf9, hf0, hdB, List.map_append]; rfl
                  hl := by have := hl0.out; simp only [List.length_append, List.length_cons, List.length_nil]; omega
                  hv := by rw [chVs_snoc, List.length_append]; exact HO9
                  ok := fun x hx => by
                    simp only [List.mem_append, List.mem_singleton] at hx
                    rcases hx with hx | rfl
                    · exact hok0.out x hx
                    · exact ⟨hyo, hE0.out, hyr⟩
                  hA := hA2.trans hT9.any }⟩
                exact ⟨⟨j + 1, rfl, hjn, hnew⟩, meas64 hjn⟩
              · have hE2 : decide (chE y = 0) = false := decide_eq_false hE
                obtain ⟨S, hS⟩ : ∃ S, strV d = .string S := ⟨_, rfl⟩
                rw [hS]
                have hnew : SendInv b w x1 nm dk lg (j + 1) u12 := ⟨l, k, ds, G, Q, F, Z, {
                  hW := hW1.mono (by omega)
                  hS := hS0
                  hf := hf0
                  hl := by have := hl0.out; omega
                  hv := hv1
                  ok := hok0.out
                  hA := hA1 }⟩
                replace hnew := Lib.hid hnew
                clear hW1 hv1 hA1 hcb1 hd hS
                go_wp2_with fail
                exact ⟨⟨j + 1, rfl, hjn, hnew.out⟩, meas64 hjn⟩)
          · have hjn2 : j = n := Nat.le_antisymm hj (Nat.not_lt.1 hjn)
            subst hjn2
            obtain ⟨l, k, ds, G, Q, F, Z, hx⟩ := hI
            have hlen : (flatN ds k).length = l.length := by rw [hx.hf, List.length_map]
            have hl200 : l.length ≤ 200 := by have := hx.hl; omega
            have hk1 := hx.hS.one
            have hk4 := hx.hS.few (by omega)
            have hfi : fiN ds k ≤ 100000 := by rw [fiN_flat]; omega
            have hSy := Lib.hid (wsync_ok hx.hW (by omega) (by omega))
            have hCr := Lib.hid (fun (x : World) (hW : WS x b nm dk lg k G Q ds (fun _ => false) false (1 + j)) (hr : Row x C chs) => crash_ok hW.2 hk1 (by omega) (by omega) (fun i hi => by
              have h1 := hx.hS.small i hi
              rw [segS, segB, List.length_append, headB_length] at h1 ⊢
              omega) C cc chs hcc hr (fun g o e h0 => by
              obtain ⟨g2, o2, e2, r2⟩ := hC 0 h0
              rw [e] at e2
              have := World.block_lt_of_cell? w _ r2
              simp only [Option.some.injEq, Addr.mk.injEq, and_true] at e2
              simp only at this
              omega))
            have hOp2 := Lib.hid (fun (x : World) (nm2 : Nat) (G2 : Nat → Nat) (N2 : Nat) (hD : DS x b nm2 dk k G2 (segS ds) (fun _ => false) false N2) => open_ok hD hk1 (by omega) (fun q hq => by have := hx.hS.small q hq; omega) hfi (fun q hq d hd => by have := hx.hS.texts q hq d hd; omega))
            have hf0 := hx.hf
            have hvx := hx.hv
            have hok := Lib.hid hx.ok
            have hAx := hx.hA
            clear hx hfi hk1 hk4
            replace hl200 := Lib.hid hl200
            go_wp2_with fail
            refine hSy.out.mono ?_
            rintro e w3 ⟨rfl, hW3, hT3⟩
            have hv3 := hT3.own hvx rfl
            have hA3 : AnyT b w w3 := hAx.trans hT3.any
            have hbel3 : Below w.heap.size w w3 := by
              have h1 := hA3
              rw [← hb] at h1
              exact h1.to_below
            have hCr3 := Lib.hid (hCr.out w3 hW3 (hC.below hbel3))
            clear hSy hCr hvx hAx hT3 hbel3
            go_wp2_with fail
            refine hCr3.out.mono ?_
            rintro e w4 ⟨nm4, G4, rfl, -, hD4, hT4⟩
            have hv4 := hT4.own hv3 rfl
            have hA4 : AnyT b w w4 := hA3.trans hT4.any
            have hO4 := Lib.hid (hOp2.out w4 nm4 G4 _ hD4)
            clear hCr3 hOp2 hv3 hA3 hT4 hW3 hD4
            go_wp2_with fail
            refine hO4.out.mono ?_
            rintro e w5 ⟨lg5, Q5, vt, rfl, -, hO5, hT5⟩
            have hv5 := hT5.own hv4 rfl
            have hA5 : AnyT b w w5 := hA4.trans hT5.any
            rw [hlen] at hO5
            rw [hf0] at hO5
            clear hO4 hv4 hA4 hT5 hlen hf0
            obtain ⟨At, ct, rfl⟩ := own_slice hO5
            obtain ⟨As, cs, hus⟩ := own_slice hv5
            subst hus
            generalize w4.heap.size = bt at *
            go_wp2_with fail
            go_loopw [22] (fun u wr => ∃ i : Nat, u = .int .i64 (i : Int) ∧ i ≤ l.length ∧ wr.ownsRow bt 49 2 (.slice At l.length ct) l.length (recV 1 (l.map chB)) ∧ wr.ownsRow b 39 3 (.slice As l.length cs) l.length (chVs l) ∧ AnyT b w wr) (fun u _ => l.length - (intOf u).toNat)
            case atStart => exact ⟨0, rfl, Nat.zero_le _, hO5, hv5, hA5⟩
            case round =>
              obtain ⟨i, rfl, hi, hO, hV, hA⟩ := hrel
              clear hO5 hv5 hA5
              by_cases hil : i < l.length
              · obtain ⟨x, hxl⟩ : ∃ x, l[i]? = some x := ⟨l[i], by simp [hil]⟩
                obtain ⟨hxo, hxE, hxr⟩ := hok.out x (List.mem_of_getElem? hxl)
                have hbel : Below w.heap.size w wr := by
                  have h1 := hA
                  rw [← hb] at h1
                  exact h1.to_below
                obtain ⟨gt, rfl⟩ : ∃ gt, At = some ⟨gt, 0, none⟩ := by
                  obtain ⟨_, (⟨e, e2⟩ | ⟨g1, cap, cur, e, _⟩)⟩ := hO
                  · omega
                  · simp only [Value.slice.injEq] at e
                    exact ⟨_, e.1⟩
                obtain ⟨gs2, rfl⟩ : ∃ gs2, As = some ⟨gs2, 0, none⟩ := by
                  obtain ⟨_, (⟨e, e2⟩ | ⟨g1, cap, cur, e, _⟩)⟩ := hV
                  · omega
                  · simp only [Value.slice.injEq] at e
                    exact ⟨_, e.1⟩
                have hc1 : wr.cell? ⟨gt, i * 2 + 1, none⟩ = some (strV (chB x)) := by
                  rw [hO.cellAt (i * 2 + 1) (by omega)]
                  exact recV_at 1 (l.map chB) i (chB x) (by rw [List.getElem?_map, hxl]; rfl)
                obtain ⟨q0, q1, q2⟩ := chVs_at l i x hxl
                have hvl5 : x.v.length ≤ 1000 := by
                  rcases x with ⟨del, id, Ax, v, cx⟩
                  cases del with
                  | false =>
                    have hE' : putE id v = 0 := hxE
                    unfold putE at hE'
                    split at hE'
                    · cases hE'
                    · have := (vecE_ok hE').2.1
                      show v.length ≤ 1000
                      omega
                  | true =>
                    obtain ⟨_, e, _⟩ := hxo rfl
                    have e' : v = [] := e
                    show v.length ≤ 1000
                    rw [e']
                    simp
                have hGe := Lib.hid (get_any (w := wr) x hxo hxE)
                obtain ⟨T, hTx⟩ : ∃ T, strV (chB x) = .string T := ⟨_, rfl⟩
                rw [hTx] at hc1 hGe
                replace hvl5 := Lib.hid hvl5
                clear hTx hxl hxo hxE
                have hrwx := hxr
                go_wp2_with fail
                refine hGe.out.mono ?_
                rintro e x1 ⟨A1, c1, rfl, hr1, hb1⟩
                have hba := below_alloc1 x1 (.cells #[.int .i64 (chK x), .int .i64 x.id, .slice A1 x.v.length c1] 39)
                have hcb := Blk.new x1 39 #[.int .i64 (chK x), .int .i64 x.id, .slice A1 x.v.length c1]
                have hO1 : x1.ownsRow bt 49 2 _ l.length (recV 1 (l.map chB)) := hO.kept (grown_of_below hb1 none) (Classical.em _)
                have hV1 : x1.ownsRow b 39 3 _ l.length (chVs l) := hV.kept (grown_of_below hb1 none) (Classical.em _)
                have hA1 : AnyT b w x1 := hA.below hbw hb1
                have hO2 := hO1.alloc (.cells #[.int .i64 (chK x), .int .i64 x.id, .slice A1 x.v.length c1] 39)
                have hV2 := hV1.alloc (.cells #[.int .i64 (chK x), .int .i64 x.id, .slice A1 x.v.length c1] 39)
                have hA2 : AnyT b w (x1.alloc (.cells #[.int .i64 (chK x), .int .i64 x.id, .slice A1 x.v.length c1] 39)) := hA1.below hbw hba
                have hr2 := hr1.below hba
                clear hGe hO hV hA hb1 hO1 hV1 hA1 hc1 hba hr1
                go_upto_region 30 with fail
                obtain ⟨cb, hcbq⟩ : ∃ cb, x1.heap.size = cb := ⟨_, rfl⟩
                rw [hcbq] at hcb
                simp only [hcbq]
                clear hcbq
                generalize x1.alloc (.cells #[.int .i64 (chK x), .int .i64 x.id, .slice A1 x.v.length c1] 39) = x2 at *
                have hbel2 : Below w.heap.size w x2 := by
                  have h1 := hA2
                  rw [← hb] at h1
                  exact h1.to_below
                have S0 : x2.drew.cell? ⟨cb, 0, none⟩ = some (.int .i64 (chK x)) ∧ x2.drew.cell? ⟨cb, 1, none⟩ = some (.int .i64 x.id) ∧ x2.drew.cell? ⟨cb, 2, none⟩ = some (.slice A1 x.v.length c1) ∧ x2.drew.cell? ⟨gs2, i * 3, none⟩ = some (.int .i64 (chK x)) ∧ x2.drew.cell? ⟨gs2, i * 3 + 1, none⟩ = some (.int .i64 x.id) ∧ x2.drew.cell? ⟨gs2, i * 3 + 2, none⟩ = some (.slice x.A x.v.length x.c) :=
                  ⟨hcb.cell 0, hcb.cell 1, hcb.cell 2, (hV2.cellAt (i * 3) (by omega)).trans q0, (hV2.cellAt (i * 3 + 1) (by omega)).trans q1, (hV2.cellAt (i * 3 + 2) (by omega)).trans q2⟩
                have hr3 : Row x2.drew A1 x.v := hr2
                have hx3a := hxr.below hbel2
                have hx3 : Row x2.drew x.A x.v := hx3a
                have hIn := Lib.hid (ints_ok A1 x.A x.v c1 x.c hvl5.out x2.drew hr3 hx3)
                have hO3 := World.ownsRow.drew hO2
                have hV3 := World.ownsRow.drew hV2
                have hA3 : AnyT b w x2.drew := Ty.drew hA2
                clear hx3a hr2 hcb q0 q1 q2 hO2 hV2 hA2 hr3 hx3 hxr hbel hbel2 hrwx
                go_region_held3 (fun w' => w'.cell? ⟨cb, 0, none⟩ = some (.int .i64 (chK x)) ∧ w'.cell? ⟨cb, 1, none⟩ = some (.int .i64 x.id) ∧ w'.cell? ⟨cb, 2, none⟩ = some (.slice A1 x.v.length c1) ∧ w'.cell? ⟨gs2, i * 3, none⟩ = some (.int .i64 (chK x)) ∧ w'.cell? ⟨gs2, i * 3 + 1, none⟩ = some (.int .i64 x.id) ∧ w'.cell? ⟨gs2, i * 3 + 2, none⟩ = some (.slice x.A x.v.length x.c))
                  (first | (with_reducible exact S0) | (with_reducible exact S1))
                  ((go_at_call 12; (with_reducible refine hIn.out.mono ?_); rintro e x3 ⟨rfl, hb3⟩; have S1 := And.intro (below_cell hb3 S0.1) (And.intro (below_cell hb3 S0.2.1) (And.intro (below_cell hb3 S0.2.2.1) (And.intro (below_cell hb3 S0.2.2.2.1) (And.intro (below_cell hb3 S0.2.2.2.2.1) (below_cell hb3 S0.2.2.2.2.2)))))))
                have hO4 : x3.ownsRow bt 49 2 _ l.length (recV 1 (l.map chB)) := hO3.kept (grown_of_below hb3 none) (Classical.em _)
                have hV4 : x3.ownsRow b 39 3 _ l.length (chVs l) := hV3.kept (grown_of_below hb3 none) (Classical.em _)
                have hA4 : AnyT b w x3 := hA3.below hbw hb3
                clear S0 S1 hIn hO3 hV3 hA3 hb3
                have hl2 := hl200.out
                go_wp2_with fail
                exact ⟨⟨i + 1, rfl, hil, hO4, hV4, hA4⟩, meas64 hil⟩
              · have hil2 : i = l.length := Nat.le_antisymm hi (Nat.not_lt.1 hil)
                subst hil2
                have hbwr : b ≤ wr.heap.size := by have := hA.size; omega
                have hKe := Lib.hid (keeps_ok wr ((hBb.ty hA).mono hbwr))
                clear hO hV
                go_wp2_with fail
                refine hKe.out.mono ?_
                rintro e w9 ⟨rfl, hb9⟩
                have hA9 : AnyT b w w9 := hA.below hbw hb9
                clear hKe hA hb9
                go_wp2_with fail
                go_ret
                rw [← hb] at hA9
                exact ⟨rfl, hA9.to_below⟩
      · have hn1 : decide ((200 : Int) < (n : Int)) = false := decide_eq_false (by omega)
        have hc1 : decide ((200 : Int) < (chs.length : Int)) = true := decide_eq_true (by omega)
        clear hNew hR hG hC hcc hT hb hn hc
        go_wp2_with fail
        go_ret
        exact ⟨rfl, Below.refl _ _⟩
    · have hn1 : decide ((200 : Int) < (n : Int)) = true := decide_eq_true (by omega)
      clear hNew hR hG hC hcc hT hb hn
      go_wp2_with fail
      go_ret
      exact ⟨rfl, Below.refl _ _⟩
end Go.Proofs.YtejbfglaalmafaaGreatDoor
