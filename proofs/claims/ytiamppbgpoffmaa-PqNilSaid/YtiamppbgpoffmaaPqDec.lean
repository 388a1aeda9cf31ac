/- The contract of the coder's Decode. -/
import Derived.Test.YtiamppbgpoffmaaPqEnc
namespace Go.Proofs.Ytiamppbgpoffmaa
open Go.RowKit
set_option linter.unusedVariables false

section
variable {P : Program} {ops : Array Oper} {rest : List Oper} {o : Oper} {a : Act} {Q : Exit → Act → World → Prop}
/-- 'append(v, r...)', r a row of whole numbers. -/
theorem append_row {W : World} (base : Nat) (hgd : o.guard = none) (s x : Operand) (t e : TypeId)
    (ho : o.op = .call { callee := .builtin .append, args := #[s, x], argTypes := #[t, t] })
    (ht : P.underlying t = some (.slice e)) (hinfo : (P.info? e).map (fun i => (i.zero, i.size, i.bytes)) = some (some (.int .i64 0), 1, 8))
    (v : Value) (n : Nat) (xs ys : List Int) (g off c : Nat) (hs : a.eval s = v) (hx : a.eval x = .slice (some ⟨g, off, none⟩) ys.length c)
    (HO : W.ownsRow base e 1 v n (vals xs)) (hR : Row W (some ⟨g, off, none⟩) ys) (hbase : base ≤ W.heap.size) (hl : (n + ys.length) * 8 ≤ 140737488355328)
    (h : ∀ v1 w1, w1.ownsRow base e 1 v1 (n + ys.length) (vals (xs ++ ys)) → W.grownBy w1 v.ownBlock → (v1.ownBlock = v.ownBlock ∨ v1.ownBlock = some W.heap.size) → wpList P ops Q rest (a.put o.dst v1) w1) :
    wpList P ops Q (o :: rest) a W := by
  obtain ⟨i0, hi, hzz⟩ := Option.map_eq_some_iff.1 hinfo
  simp only [Prod.mk.injEq] at hzz
  obtain ⟨hz0, hz1, hz2⟩ := hzz
  refine wpList_append_own_at W hgd s x t ho base e i0 (.int .i64 0) 1 8 ht hi hz0 hz1 hz2 rfl (by omega) v n (vals xs) hs HO ⟨g, off, none⟩ ys.length c (vals ys) hx (by rw [vals_length]; omega)
    (fun j u hu => ?_) (fun u hu => ?_) (by simp only [maxLen]; omega) hl hbase ?_
  · have hj : j < ys.length := by
      have := (List.getElem?_eq_some_iff.1 hu).1
      rwa [vals_length] at this
    rw [vals_at ys j hj] at hu
    obtain ⟨g2, o2, hA, hc⟩ := hR j hj
    simp only [Option.some.injEq, Addr.mk.injEq, and_true] at hA
    obtain ⟨rfl, rfl⟩ := hA
    rw [← hu, ← hc]
    have hadd : (⟨g, off, none⟩ : Addr).add j = ⟨g, off + j, none⟩ := by unfold Addr.add; split <;> simp_all
    rw [hadd]
  · obtain ⟨y, _, rfl⟩ := List.mem_map.1 hu
    rfl
  · intro v1 w1 hown hg _ hat
    refine h v1 w1 ?_ hg hat
    rw [show vals (xs ++ ys) = vals xs ++ vals ys by simp [vals]]
    exact hown
end

/-- The first j numbers of a code are within. -/
def InTo (bs : List (List (List Int))) (code : List Int) (j : Nat) : Prop := ∀ i, i < j → 0 ≤ nth code i ∧ nth code i < (brow bs i).length
instance (bs : List (List (List Int))) (code : List Int) (j : Nat) : Decidable (InTo bs code j) := by unfold InTo; infer_instance
theorem InTo.succ {bs : List (List (List Int))} {code : List Int} {j : Nat} (h : InTo bs code j) (h1 : 0 ≤ nth code j) (h2 : nth code j < (brow bs j).length) : InTo bs code (j + 1) := fun i hi => by
  by_cases e : i = j
  · subst e; exact ⟨h1, h2⟩
  · exact h i (by omega)
/-- The error of a code. -/
def decE (bs : List (List (List Int))) (code : List Int) : Int := if code.length = bs.length ∧ InTo bs code code.length then 0 else 101
/-- What the first j numbers of a code say. -/
def decN (bs : List (List (List Int))) (code : List Int) : Nat → List Int
  | 0 => []
  | j + 1 => decN bs code j ++ mrow (brow bs j) (nth code j).toNat
theorem decN_length {bs : List (List (List Int))} {d p n k : Nat} (h : Cod bs d p n k) {code : List Int} {j : Nat} (hj : j ≤ p) (hi : InTo bs code j) : (decN bs code j).length = j * n := by
  induction j with
  | zero => simp [decN]
  | succ j ih =>
    have h1 := hi j (Nat.lt_succ_self j)
    have h2 := (h.coords j (by omega) (nth code j).toNat (by omega)).1
    rw [decN, List.length_append, ih (by omega) (fun i hh => hi i (by omega)), h2, Nat.add_mul, Nat.one_mul]

theorem dec_nil (V : Option Addr) (n cv : Nat) (w : World) : Calls Try.prog 15 #[.pointer none, .slice V n cv] w (CodeBad w 3) := by
  go_enter Try.func15, Try.ntmps15
  go_wp2_with fail
  go_ret2
  exact ⟨rfl, Below.refl _ _⟩
theorem dec_len (gp d p n k : Nat) (bs : List (List (List Int))) (V : Option Addr) (m : Nat) (cv : Nat) (w : World) (hB : Cod bs d p n k) (hc : CoderAt w gp d bs) (hl : m ≠ p) :
    Calls Try.prog 15 #[.pointer (some ⟨gp, 0, none⟩), .slice V m cv] w (CodeBad w 101) := by
  obtain ⟨A, c, c0, c1, hbk⟩ := hc
  have hne : ((m : Int) != (p : Int)) = true := by simp; omega
  rw [hB.len] at c1
  clear hl hbk
  go_enter Try.func15, Try.ntmps15
  go_wp2_with fail
  go_ret2
  exact ⟨rfl, Below.refl _ _⟩
def DecPost (w : World) (bs : List (List (List Int))) (code : List Int) (p : Nat) (e : Ending) (w' : World) : Prop :=
  (InTo bs code p → CodePost w (decN bs code p) e w') ∧ (¬ InTo bs code p → CodeBad w 101 e w')
set_option maxRecDepth 100000 in
set_option maxHeartbeats 4000000 in
theorem dec_go (gp d p n k : Nat) (bs : List (List (List Int))) (V : Option Addr) (code : List Int) (cv : Nat) (w : World) (hB : Cod bs d p n k) (hc : CoderAt w gp d bs) (hV : Row w V code) (hl : code.length = p) :
    Calls Try.prog 15 #[.pointer (some ⟨gp, 0, none⟩), .slice V p cv] w (DecPost w bs code p) := by
  obtain ⟨A, c, c0, c1, hbk⟩ := hc
  have hp1 := hB.parts.p1
  have hp8 := hB.p8
  have hd1 := hB.n64
  have hd64 := hB.d64
  rw [hB.len] at c1
  replace hB := Lib.hid hB
  replace hl := Lib.hid hl
  go_enter Try.func15, Try.ntmps15
  go_wp2_with fail
  go_loopw [6, 23] (fun o i wr => ∃ j : Nat, j ≤ p ∧ i = .int .i64 (j : Int) ∧ InTo bs code j ∧ wr.ownsRow w.heap.size 3 1 o (decN bs code j).length (vals (decN bs code j)) ∧ Below w.heap.size w wr) (fun _ i _ => p - (intOf i).toNat)
  case atStart => exact ⟨0, Nat.zero_le _, rfl, fun i hi => absurd hi (by omega), World.ownsRow_nil _ _ _ _, Below.refl _ _⟩
  case round =>
    obtain ⟨j, hj, rfl, hI, HO, HB⟩ := hrel
    by_cases hlt : j < p
    · have q0 : (0 : Int) ≤ (j : Int) := by omega
      have q1 : (j : Int) < (p : Int) := by omega
      obtain ⟨gv, ov, rfl, hcv0⟩ := hV j (by rw [hl.out]; exact hlt)
      obtain ⟨g, o, R, rc, hA, hc1, hR⟩ := hbk j (by rw [hB.out.len]; exact hlt)
      subst hA
      have d0 := below_cell HB hcv0
      have d1 := below_cell HB hc1
      have d2 := below_cell HB c1
      rw [hB.out.rows j hlt] at d1
      have hk := hB.out.rows j hlt
      by_cases hq : 0 ≤ nth code j ∧ nth code j < k
      · have hI2 := hI.succ hq.1 (by rw [hk]; exact hq.2)
        have hL1 := decN_length hB.out hj hI
        have hL2 := decN_length hB.out hlt hI2
        obtain ⟨a, ha⟩ : ∃ a : Nat, nth code j = (a : Int) := ⟨(nth code j).toNat, by omega⟩
        have hak : a < k := by omega
        obtain ⟨g2, o2, R2, rc2, hA2, hc2, hR2⟩ := hR a (by rw [hk]; exact hak)
        subst hA2
        have hrl := (hB.out.coords j hlt a (by rw [hk]; exact hak)).1
        obtain ⟨g3, o3, hA3, _⟩ := hR2 0 (by omega)
        subst hA3
        have d3 := below_cell HB hc2
        have hS : decN bs code (j + 1) = decN bs code j ++ mrow (brow bs j) a := by rw [decN, ha, Int.toNat_natCast]
        have hfit := hB.out.parts.fits hlt
        have hL3 : (decN bs code j).length + (mrow (brow bs j) a).length ≤ 64 := by rw [hS, List.length_append] at hL2; rw [hL2]; exact Nat.le_trans hfit hd64
        have hR3 := hR2.below HB
        have hlen : (decN bs code (j + 1)).length = (decN bs code j).length + (mrow (brow bs j) a).length := by rw [hS, List.length_append]
        have hmx : ((decN bs code j).length + (mrow (brow bs j) a).length) * 8 ≤ 140737488355328 := by omega
        rw [ha] at d0 hq
        obtain ⟨r1, r2⟩ := hq
        replace hS := Lib.hid hS
        replace hlen := Lib.hid hlen
        replace hmx := Lib.hid hmx
        replace hk := Lib.hid hk
        have hz := HB.size
        clear hcv0 hc1 hR hc2 hR2 hL1 hL2 hL3 ha hfit hI
        clear hrl
        go_wp2_with (at_builtin; refine append_row w.heap.size rfl (.tmp 42) (.tmp 52) _ 3 rfl Try.underlying26 int_info' u6 _ (decN bs code j) (mrow (brow bs j) a) g3 o3 rc2 rfl rfl HO hR3 hz hmx.out ?_; intro v1 w1 HO1 hg1 hat1)
        rw [← hS.out, ← hlen.out] at HO1
        have HB1 := below_of_grown HB hg1 (fun q hq => (own_lt' HO q hq).1)
        exact ⟨⟨j + 1, by omega, by go_num, hI2, HO1, HB1⟩, by simp [intOf]; omega⟩
      · have hno : ¬ InTo bs code p := fun h => hq (by have := h j hlt; rwa [hk] at this)
        replace hno := Lib.hid hno
        clear hk
        by_cases h1 : 0 ≤ nth code j
        · have h2 : (k : Int) ≤ nth code j := by omega
          generalize nth code j = q at *
          clear hq
          go_wp2_with fail
          go_ret2
          exact ⟨fun h => absurd h hno.out, fun _ => ⟨rfl, HB⟩⟩
        · have h2 : nth code j < 0 := by omega
          generalize nth code j = q at *
          clear hq h1
          go_wp2_with fail
          go_ret2
          exact ⟨fun h => absurd h hno.out, fun _ => ⟨rfl, HB⟩⟩
    · obtain rfl : j = p := by omega
      have hL := decN_length hB.out (Nat.le_refl _) hI
      have h0 : 0 < (decN bs code j).length := by rw [hL]; exact Nat.mul_pos hp1 hd1.1
      obtain ⟨gw, cw, rfl, hgw1, hgw2⟩ := own_shape HO h0
      have hW : Row wr (some ⟨gw, 0, none⟩) (decN bs code j) := fun x hx => ⟨gw, 0, rfl, by rw [Nat.zero_add]; exact own_int HO x hx⟩
      clear hL
      go_wp2_with fail
      go_ret2
      exact ⟨fun _ => ⟨gw, cw, rfl, own_cap HO, hW, HB⟩, fun h => absurd hI h⟩
theorem dec_any (gp d p n k : Nat) (bs : List (List (List Int))) (V : Option Addr) (code : List Int) (cv : Nat) (w : World) (hB : Cod bs d p n k) (hc : CoderAt w gp d bs) (hV : Row w V code) (hE : decE bs code ≠ 0) :
    Calls Try.prog 15 #[.pointer (some ⟨gp, 0, none⟩), .slice V code.length cv] w (CodeBad w (decE bs code)) := by
  unfold decE at hE ⊢
  split at hE
  · exact absurd rfl hE
  · rename_i h
    rw [if_neg h]
    by_cases hl : code.length = p
    · rw [hl]
      refine (dec_go gp d p n k bs V code cv w hB hc hV hl).mono ?_
      intro e w' hh
      exact hh.2 (fun hi => h ⟨by rw [hl, hB.len], by rw [hl]; exact hi⟩)
    · exact dec_len gp d p n k bs V _ cv w hB hc hl
theorem dec_ok (gp d p n k : Nat) (bs : List (List (List Int))) (V : Option Addr) (code : List Int) (cv : Nat) (w : World) (hB : Cod bs d p n k) (hc : CoderAt w gp d bs) (hV : Row w V code) (hE : decE bs code = 0) :
    Calls Try.prog 15 #[.pointer (some ⟨gp, 0, none⟩), .slice V code.length cv] w (CodePost w (decN bs code p)) := by
  unfold decE at hE
  split at hE
  · rename_i h
    have hl : code.length = p := by rw [h.1, hB.len]
    rw [hl] at h ⊢
    refine (dec_go gp d p n k bs V code cv w hB hc hV hl).mono ?_
    intro e w' hh
    exact hh.1 h.2
  · exact absurd hE (by omega)
end Go.Proofs.Ytiamppbgpoffmaa
