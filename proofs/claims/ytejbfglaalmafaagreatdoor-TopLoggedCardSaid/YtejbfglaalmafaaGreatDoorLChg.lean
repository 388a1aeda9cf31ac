/- The contract of codec.PutChange, of a change that is good. -/
import Derived.Test.YtejbfglaalmafaaGreatDoorLMay
namespace Go.Proofs.YtejbfglaalmafaaGreatDoor
open Go.RowKit
set_option linter.unusedVariables false

/-- 'string(b)', of bytes of the call's own. -/
theorem own_text {B : Nat} {v : Value} {l : List UInt8} (h0 : 0 < l.length) (w : World) (HO : w.ownsRow B 5 1 v l.length (bytesV l)) :
    (convert 69 9 v).run Tryz.prog w = .ok (strV l) w := by
  obtain ⟨g, cap, rfl, hg1, hg2⟩ := own_shape HO h0
  refine run_convert_bytes_back (P := Tryz.prog) w 69 9 5 ⟨g, 0, none⟩ cap l Tryz.underlying69 Tryz.underlying5 Tryz.underlying9 (fun j hj => ?_)
  obtain ⟨g4, o4, e1, e2⟩ := own_brow HO j hj
  simp only [Option.some.injEq, Addr.mk.injEq, and_true] at e1
  obtain ⟨rfl, rfl⟩ := e1
  have hadd : (⟨g, 0, none⟩ : Addr).add j = ⟨g, 0 + j, none⟩ := by unfold Addr.add; split <;> simp_all
  rw [hadd, e2, nb]
  simp [hj]
theorem step64 {j n : Nat} (h : j < n) (hn : n ≤ 1000000) : wrap64 ((j : Int) + 1) = ((j + 1 : Nat) : Int) := by
  simp only [wrap64]
  omega
theorem meas64 {j n : Nat} (h : j < n) : n - (intOf (.int .i64 ((j + 1 : Nat) : Int))).toNat < n - (intOf (.int .i64 (j : Int))).toNat := by
  simp only [intOf]
  omega
def putH (id : Int) (n : Nat) : List UInt8 := leB 1 1 ++ leB 4 id ++ leB 1 (n : Int)
theorem putH_length (id : Int) (n : Nat) : (putH id n).length = 6 := by simp [putH, leB_length]
set_option maxRecDepth 100000 in
set_option maxHeartbeats 4000000 in
theorem put_ok (id : Int) (V : Option Addr) (v : List Int) (cv : Nat) (w : World) (hV : Row w V v) (hE : putE id v = 0) (hv : v.length ≤ 64) :
    Calls Tryz.prog 7 #[.agg #[.int .i64 1, .int .i64 id, .slice V v.length cv]] w (TextPost w (putB id v) 0) := by
  have hb1 := below_alloc1 w (.cells #[.int .i64 1, .int .i64 id, .slice V v.length cv] 39)
  have hbk := Blk.new w 39 #[.int .i64 1, .int .i64 id, .slice V v.length cv]
  have c0 := hbk.cell 0
  have c1 := hbk.cell 1
  have c2 := hbk.cell 2
  simp only [List.getElem?_toArray, List.getElem?_cons_zero, List.getElem?_cons_succ] at c0 c1 c2
  have hM := Lib.hid (fun x (hx : Below w.heap.size w x) => may_put id V v cv x (hV.below hx))
  rw [hE] at hM
  have h1 := Lib.hid (fun (B : Nat) (x : World) (hx : B ≤ x.heap.size) => (show Calls Tryz.prog 25 #[.slice none 0 0, .int .i64 1, .int .i64 1] x (OwnPost B x (.slice none 0 0) (leB 1 1)) from lay_any B _ [] 1 1 (by omega) x (World.ownsRow_nil _ _ _ _) hx (by simp)))
  have h2 := Lib.hid (fun (B : Nat) (v1 : Value) (x : World) (HO : x.ownsRow B 5 1 v1 (leB 1 1).length (bytesV (leB 1 1))) (hx : B ≤ x.heap.size) => (show Calls Tryz.prog 25 #[v1, .int .i64 id, .int .i64 4] x (OwnPost B x v1 (leB 1 1 ++ leB 4 id)) from lay_any B v1 (leB 1 1) id 4 (by omega) x HO hx (by rw [leB_length]; omega)))
  have h3 := Lib.hid (fun (B : Nat) (v1 : Value) (x : World) (HO : x.ownsRow B 5 1 v1 (leB 1 1 ++ leB 4 id).length (bytesV (leB 1 1 ++ leB 4 id))) (hx : B ≤ x.heap.size) => (show Calls Tryz.prog 25 #[v1, .int .i64 (v.length : Int), .int .i64 1] x (OwnPost B x v1 (putH id v.length)) from lay_any B v1 (leB 1 1 ++ leB 4 id) _ 1 (by omega) x HO hx (by simp [leB_length])))
  have hH := putH_length id v.length
  have hPB : putH id v.length ++ coordsB v = putB id v := rfl
  have h4 := Lib.hid (fun (B : Nat) (v1 : Value) (j : Nat) (hj : j ≤ v.length) (y : Int) (x : World) (HO : x.ownsRow B 5 1 v1 (putH id v.length ++ coordsB (v.take j)).length (bytesV (putH id v.length ++ coordsB (v.take j)))) (hx : B ≤ x.heap.size) => (show Calls Tryz.prog 25 #[v1, .int .i64 y, .int .i64 4] x (OwnPost B x v1 (putH id v.length ++ coordsB (v.take j) ++ leB 4 y)) from lay_any B v1 _ y 4 (by omega) x HO hx (by rw [List.length_append, putH_length, coordsB_length, List.length_take]; omega)))
  have hlen := putB_length id v
  clear hE
  generalize putH id v.length = H at *
  generalize leB 1 1 ++ leB 4 id = L5 at *
  generalize leB 1 1 = L1 at *
  replace hPB := Lib.hid hPB
  replace hlen := Lib.hid hlen
  replace hH := Lib.hid hH
  replace hv := Lib.hid hv
  go_enter Tryz.func7, Tryz.ntmps7
  go_wp2_with fail
  refine (hM.out _ hb1).mono ?_
  rintro e w1 ⟨rfl, hb⟩
  have B1 := below_chain hb1 hb hb1.size
  go_upto_region 4 with fail
  have S00 := three_held ⟨c0, c1, c2⟩ hb
  have hV1 := hV.below B1
  clear hM c0 c1 c2 hb hb1 hbk hV
  have BD := (Below.refl w1.heap.size w1).drew
  have S0 := three_held S00 BD
  go_region_held3 (fun w' => w'.cell? ⟨w.heap.size, 0, none⟩ = some (.int .i64 1) ∧ w'.cell? ⟨w.heap.size, 1, none⟩ = some (.int .i64 id) ∧ w'.cell? ⟨w.heap.size, 2, none⟩ = some (.slice V v.length cv))
    (first | (with_reducible exact S0) | (with_reducible exact three_held S00 X1) | (with_reducible exact three_held S00 X2))
    (first
    | (go_at_call 25; (with_reducible refine (h1.out w1.heap.size _ BD.size).mono ?_); rintro e x1 ⟨v1, rfl, HO1, hg1, hat1⟩; have X1 := BD.grown hg1 (Nat.le_refl _) (fun k hk => by simp [Value.ownBlock] at hk))
    | (go_at_call 25; (with_reducible refine (h2.out w1.heap.size _ _ HO1 X1.size).mono ?_); rintro e x2 ⟨v2, rfl, HO2, hg2, hat2⟩; have X2 := X1.grown hg2 X1.size (fun k hk => (own_lt' HO1 k hk).1)))
  obtain ⟨c0, c1, c2⟩ := three_held S00 X2
  have hV2 := hV1.below X2
  clear h1 h2 S0 X1 BD HO1 hg1 hg2 hat1 hat2
  go_wp2_with fail
  refine (h3.out w1.heap.size v2 x2 HO2 X2.size).mono ?_
  rintro e x3 ⟨v3, rfl, HO3, hg3, _⟩
  have X3 := X2.grown hg3 X2.size (fun k hk => (own_lt' HO2 k hk).1)
  obtain ⟨c0, c1, c2⟩ := three_held S00 X3
  clear h3 hg3 HO2 hV2
  go_wp2_with fail
  go_loopw [5, 30] (fun b i wr => ∃ j : Nat, j ≤ v.length ∧ i = .int .i64 (j : Int) ∧ wr.ownsRow w1.heap.size 5 1 b (H ++ coordsB (v.take j)).length (bytesV (H ++ coordsB (v.take j))) ∧ Below w1.heap.size w1 wr) (fun _ i _ => v.length - (intOf i).toNat)
  case atStart => exact ⟨0, Nat.zero_le _, rfl, by simpa [coordsB] using HO3, X3⟩
  case round =>
    obtain ⟨j, hj, rfl, HO5, X5⟩ := hrel
    by_cases hlt : j < v.length
    · obtain ⟨g, o, rfl, cj⟩ := (hV1.below X5) j hlt
      have p0 : (0 : Int) ≤ (j : Int) := by omega
      have p1 : (j : Int) < (v.length : Int) := by omega
      have hz := X5.size
      have hct := coordsB_take v j hlt
      have hCall := h4.out w1.heap.size u5 j hj (nth v j) wr HO5 hz
      rw [List.append_assoc, hct] at hCall
      replace hCall := Lib.hid hCall
      have hjs := step64 hlt (Nat.le_trans hv.out (by omega))
      have hown := Lib.hid (fun k hk => (own_lt' HO5 k hk).1)
      clear hct h4 HO5
      generalize nth v j = y at *
      generalize hT : H ++ coordsB (v.take (j + 1)) = T at *
      replace hT := Lib.hid hT
      go_wp2_with fail
      refine hCall.out.mono ?_
      rintro e x6 ⟨v6, rfl, HO6, hg6, _⟩
      have X6 := X5.grown hg6 hz hown.out
      go_wp2_with fail
      go_roundw
      case rel => exact ⟨j + 1, hlt, by rw [hjs], by rw [hT.out]; exact HO6, X6⟩
      all_goals (rw [hjs]; exact meas64 hlt)
    · have hjv : j = v.length := Nat.le_antisymm hj (Nat.not_lt.1 hlt)
      have hHO : wr.ownsRow w1.heap.size 5 1 u5 (putB id v).length (bytesV (putB id v)) := by
        have h := HO5
        rw [hjv, List.take_length, hPB.out] at h
        exact h
      have hl0 : 0 < (putB id v).length := Nat.lt_of_lt_of_eq (by omega : 0 < 6 + 4 * v.length) hlen.out.symm
      have hcv := own_text hl0 wr hHO
      have p1 : decide ((j : Int) < (v.length : Int)) = false := decide_eq_false (by omega)
      clear h4 HO5 hHO hPB hlen hH hv hj hl0 hjv p1
      go_wp2_with fail
      go_ret2
      exact ⟨rfl, below_chain B1 X5 B1.size⟩
set_option maxRecDepth 100000 in
set_option maxHeartbeats 4000000 in
theorem del_ok (id : Int) (w : World) (hE : delE id = 0) :
    Calls Tryz.prog 7 #[.agg #[.int .i64 2, .int .i64 id, .slice none 0 0]] w (TextPost w (delB id) 0) := by
  have hb1 := below_alloc1 w (.cells #[.int .i64 2, .int .i64 id, .slice none 0 0] 39)
  have hbk := Blk.new w 39 #[.int .i64 2, .int .i64 id, .slice none 0 0]
  have c0 := hbk.cell 0
  have c1 := hbk.cell 1
  have c2 := hbk.cell 2
  simp only [List.getElem?_toArray, List.getElem?_cons_zero, List.getElem?_cons_succ] at c0 c1 c2
  have hM := Lib.hid (fun x => may_del id x)
  rw [hE] at hM
  have h1 := Lib.hid (fun (B : Nat) (x : World) (hx : B ≤ x.heap.size) => (show Calls Tryz.prog 25 #[.slice none 0 0, .int .i64 2, .int .i64 1] x (OwnPost B x (.slice none 0 0) (leB 1 2)) from lay_any B _ [] 2 1 (by omega) x (World.ownsRow_nil _ _ _ _) hx (by simp)))
  have h2 := Lib.hid (fun (B : Nat) (v1 : Value) (x : World) (HO : x.ownsRow B 5 1 v1 (leB 1 2).length (bytesV (leB 1 2))) (hx : B ≤ x.heap.size) => (show Calls Tryz.prog 25 #[v1, .int .i64 id, .int .i64 4] x (OwnPost B x v1 (delB id)) from lay_any B v1 (leB 1 2) id 4 (by omega) x HO hx (by rw [leB_length]; omega)))
  have hlen := delB_length id
  clear hE
  generalize delB id = D at *
  generalize leB 1 2 = L1 at *
  replace hlen := Lib.hid hlen
  go_enter Tryz.func7, Tryz.ntmps7
  go_wp2_with fail
  refine (hM.out _).mono ?_
  rintro e w1 ⟨rfl, hb⟩
  have B1 := below_chain hb1 hb hb1.size
  go_upto_region 4 with fail
  have S00 := three_held ⟨c0, c1, c2⟩ hb
  clear hM c0 c1 c2 hb hb1 hbk
  have BD := (Below.refl w1.heap.size w1).drew
  have S0 := three_held S00 BD
  go_region_held3 (fun w' => w'.cell? ⟨w.heap.size, 0, none⟩ = some (.int .i64 2) ∧ w'.cell? ⟨w.heap.size, 1, none⟩ = some (.int .i64 id) ∧ w'.cell? ⟨w.heap.size, 2, none⟩ = some (.slice none 0 0))
    (first | (with_reducible exact S0) | (with_reducible exact three_held S00 X1) | (with_reducible exact three_held S00 X2))
    (first
    | (go_at_call 25; (with_reducible refine (h1.out w1.heap.size _ BD.size).mono ?_); rintro e x1 ⟨v1, rfl, HO1, hg1, hat1⟩; have X1 := BD.grown hg1 (Nat.le_refl _) (fun k hk => by simp [Value.ownBlock] at hk))
    | (go_at_call 25; (with_reducible refine (h2.out w1.heap.size _ _ HO1 X1.size).mono ?_); rintro e x2 ⟨v2, rfl, HO2, hg2, hat2⟩; have X2 := X1.grown hg2 X1.size (fun k hk => (own_lt' HO1 k hk).1)))
  obtain ⟨c0, c1, c2⟩ := three_held S00 X2
  have hcv := own_text (by rw [hlen.out]; omega) x2 HO2
  clear h1 h2 S0 X1 BD HO1 hg1 hg2 hat1 hat2 HO2 hlen
  go_wp2_with fail
  go_loopw [5, 30] (fun b i wr => wr = x2 ∧ b = v2 ∧ i = .int .i64 0) (fun _ i _ => 0)
  case atStart => exact ⟨rfl, rfl, rfl⟩
  case round =>
    obtain ⟨rfl, rfl, rfl⟩ := hrel
    go_wp2_with fail
    go_ret2
    exact ⟨rfl, below_chain B1 X2 B1.size⟩
end Go.Proofs.YtejbfglaalmafaaGreatDoor
