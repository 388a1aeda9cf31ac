/- The contract of codec.GetChange, of a change's bytes. -/
import Derived.Test.YtejbfglaalmafaaGreatDoorLOne
namespace Go.Proofs.YtejbfglaalmafaaGreatDoor
open Go.RowKit
set_option linter.unusedVariables false

theorem num1_ok (R : Nat) (x : Int) (hx : 0 ≤ x ∧ x < 256) (rest : List UInt8) (hr : rest.length ≤ 1000000) (w : World) (hR : Blk w R 97 (readV (leB 1 x ++ rest))) :
    Calls Tryz.prog 35 #[.pointer (some ⟨R, 0, none⟩), .int .i64 1] w (OnePost w R x rest) := by
  have h := number_ok R (leB 1 x) rest (by rw [leB_length]; omega) (by rw [leB_length]; omega) hr w hR
  have e : (numN (leB 1 x) 1 : Int) = x := by
    have g0 := nb_leB (n := 1) (x := x) (i := 0) (by omega)
    simp only [pw_0] at g0
    generalize leB 1 x = l at *
    simp only [numN, np_0]
    omega
  unfold NumPost at h
  rw [leB_length, e] at h
  exact h
theorem num4_ok (R : Nat) (x : Int) (hx : 0 ≤ x ∧ x < 4294967296) (rest : List UInt8) (hr : rest.length ≤ 1000000) (w : World) (hR : Blk w R 97 (readV (leB 4 x ++ rest))) :
    Calls Tryz.prog 35 #[.pointer (some ⟨R, 0, none⟩), .int .i64 4] w (OnePost w R x rest) := by
  have h := number_ok R (leB 4 x) rest (by rw [leB_length]; omega) (by rw [leB_length]; omega) hr w hR
  have e : (numN (leB 4 x) 4 : Int) = x := by rw [numN_four]; omega
  unfold NumPost at h
  rw [leB_length, e] at h
  exact h
def GoodV (v : List Int) : Prop := 1 ≤ v.length ∧ v.length ≤ 64 ∧ I32s v
def GotPost (w : World) (id : Int) (v : List Int) (e : Ending) (w' : World) : Prop :=
  ∃ s B, e = .returned (.tuple #[.agg #[.int .i64 1, .int .i64 id, s], .int .i64 0]) ∧ w.heap.size ≤ B ∧ w'.ownsRow B 3 1 s v.length (vals v) ∧ Below w.heap.size w w'
set_option maxRecDepth 100000 in
set_option maxHeartbeats 4000000 in
theorem get_put (id : Int) (v : List Int) (hid : 1 ≤ id ∧ id ≤ 1000000000) (hv : GoodV v) (hE : putE id v = 0) (w : World) :
    Calls Tryz.prog 11 #[strV (putB id v)] w (GotPost w id v) := by
  have hl := putB_length id v
  have hcl := coordsB_length v
  obtain ⟨v1, v64, vI⟩ := hv
  obtain ⟨S, hS⟩ : ∃ S : ByteArray, S = ⟨(putB id v).toArray⟩ := ⟨_, rfl⟩
  rw [show strV (putB id v) = .string S by rw [hS]; rfl]
  have hsz : (w.alloc (.cells #[.int .i64 0, .int .i64 0, .slice none 0 0] 39)).heap.size = w.heap.size + 1 := by simp
  have hR0 := Blk.new (w.alloc (.cells #[.int .i64 0, .int .i64 0, .slice none 0 0] 39)) 97 #[.string S, .bool false]
  have hT0 := (Blk.new w 39 #[.int .i64 0, .int .i64 0, .slice none 0 0]).alloc (.cells #[.string S, .bool false] 97)
  have hB0 := (below_alloc1 w (.cells #[.int .i64 0, .int .i64 0, .slice none 0 0] 39)).alloc (by simp) (.cells #[.string S, .bool false] 97)
  rw [hsz] at hR0
  have hpb : putB id v = leB 1 1 ++ (leB 4 id ++ (leB 1 (v.length : Int) ++ (coordsB v ++ []))) := by simp [putB, List.append_assoc]
  replace hR0 : Blk ((w.alloc (.cells #[.int .i64 0, .int .i64 0, .slice none 0 0] 39)).alloc (.cells #[.string S, .bool false] 97)) (w.heap.size + 1) 97 (readV (leB 1 1 ++ (leB 4 id ++ (leB 1 (v.length : Int) ++ (coordsB v ++ []))))) := by
    rw [← hpb, show readV (putB id v) = #[.string S, .bool false] by rw [hS]; rfl]
    exact hR0
  have hr3 : (coordsB v ++ ([] : List UInt8)).length ≤ 1000000 := by rw [List.append_nil, hcl]; omega
  have hr2 : (leB 1 (v.length : Int) ++ (coordsB v ++ ([] : List UInt8))).length ≤ 1000000 := by rw [List.append_nil, List.length_append, hcl, leB_length]; omega
  have hr1 : (leB 4 id ++ (leB 1 (v.length : Int) ++ (coordsB v ++ ([] : List UInt8)))).length ≤ 1000000 := by rw [List.append_nil, List.length_append, List.length_append, hcl, leB_length, leB_length]; omega
  have hA := Lib.hid (fun x hx => num1_ok (w.heap.size + 1) 1 (by omega) _ hr1 x hx)
  have hBb := Lib.hid (fun x hx => num4_ok (w.heap.size + 1) id (by omega) _ hr2 x hx)
  have hC := Lib.hid (fun x hx => num1_ok (w.heap.size + 1) (v.length : Int) (by omega) _ hr3 x hx)
  have hD := Lib.hid (fun x hx => coords_ok (w.heap.size + 1) v [] vI v64 (by simp) x hx)
  have hM := Lib.hid (fun V cv x hx => may_put id V v cv x hx)
  rw [hE] at hM
  clear hl hcl hr1 hr2 hr3 hE hS hsz v64 hid hpb
  go_enter Tryz.func11, Tryz.ntmps11
  go_upto_region 2 with fail
  generalize (w.alloc (.cells #[.int .i64 0, .int .i64 0, .slice none 0 0] 39)).alloc (.cells #[.string S, .bool false] 97) = w0 at *
  go_wp2_with fail
  refine (hA.out _ hR0).mono ?_
  rintro e w1 ⟨rfl, hR1, hg1⟩
  go_wp2_with fail
  refine (hBb.out _ hR1).mono ?_
  rintro e w2 ⟨rfl, hR2, hg2⟩
  go_wp2_with fail
  have hlt2 := hR2.lt
  have hlt1 := hR1.lt
  have hCh := Blk.new w2 39 #[.int .i64 1, .int .i64 id, .slice none 0 0]
  have hR3 := hR2.alloc (.cells #[.int .i64 1, .int .i64 id, .slice none 0 0] 39)
  have hT3 := ((hT0.grown hg1 (by simp)).grown hg2 (by simp)).alloc (.cells #[.int .i64 1, .int .i64 id, .slice none 0 0] 39)
  have hB3 := (((hB0.grown hg1 (Nat.le_trans (Nat.le_of_lt hT0.lt) (Nat.le_refl _)) (by simp)).grown hg2 (by omega) (by simp))).alloc (by omega) (.cells #[.int .i64 1, .int .i64 id, .slice none 0 0] 39)
  clear hA hBb hg1 hg2 hR0 hR1 hT0 hB0
  refine (hC.out _ hR3).mono ?_
  rintro e w4 ⟨rfl, hR4, hg4⟩
  have hCh4 := hCh.grown hg4 (by simp; omega)
  have hT4 := hT3.grown hg4 (by simp)
  have hB4 := hB3.grown hg4 hB3.size (by simp)
  go_wp2_with fail
  refine (hD.out _ hR4).mono ?_
  rintro e w5 ⟨s, B, rfl, hBs, HO, hR5, hg5⟩
  have hCh5 := hCh4.grown hg5 (by simp; omega)
  have hT5 := hT4.grown hg5 (by simp)
  have hB5 := hB4.grown hg5 hB4.size (by simp)
  have hCB : w2.heap.size < B := Nat.lt_of_lt_of_le hCh4.lt hBs
  obtain ⟨A, c, rfl, hrow⟩ := own_row HO
  have f2 := hCh5.frozen 2
  have g2 := hCh5.cell 2
  simp only [List.getElem?_toArray, List.getElem?_cons_zero, List.getElem?_cons_succ] at g2
  clear hC hD hR3 hR4 hT3 hT4 hB3 hB4 hg4 hg5 hCh hCh4 hR2
  have hb6 := below_alloc1
  have hR6 := hR5.far (p := ⟨w2.heap.size, 2, none⟩) (by simp; omega) (.slice A v.length c)
  have hT6 := hT5.far (p := ⟨w2.heap.size, 2, none⟩) (by simp; omega) (.slice A v.length c)
  have hCh6 := hCh5.set_ 2 (.slice A v.length c)
  rw [show (#[.int .i64 1, .int .i64 id, .slice none 0 0] : Array Value).setIfInBounds 2 (.slice A v.length c) = #[.int .i64 1, .int .i64 id, .slice A v.length c] from rfl] at hCh6
  have hB6 := hB5.grown (grown_set w5 ⟨w2.heap.size, 2, none⟩ (.slice A v.length c)) hB5.size (by simp; omega)
  have HO6 := HO.kept (grown_set w5 ⟨w2.heap.size, 2, none⟩ (.slice A v.length c)) (Or.inr (fun e => by have := (own_lt' HO w2.heap.size (by simpa using e)).1; omega))
  clear hb6 hT5 hB5 hCh5 HO hrow
  go_upto_region 5 with fail
  clear f2 g2 hR5
  generalize w5.setCell ⟨w2.heap.size, 2, none⟩ (.slice A v.length c) = w6 at *
  obtain ⟨A', c', e1, hrow⟩ := own_row HO6
  simp only [Value.slice.injEq, true_and] at e1
  obtain ⟨rfl, rfl⟩ := e1
  have r0 := hR6.cell 0
  have r1 := hR6.cell 1
  have d0 := hCh6.cell 0
  have d1 := hCh6.cell 1
  have d2 := hCh6.cell 2
  simp only [readV, strV, List.getElem?_toArray, List.getElem?_cons_zero, List.getElem?_cons_succ] at r0 r1 d0 d1 d2
  go_wp2_with fail
  refine (hM.out _ _ _ hrow).mono ?_
  rintro e w7 ⟨rfl, hb7⟩
  have hCh7 := hCh6.below hb7 hCh6.lt
  have hT7 := hT6.below hb7 hT6.lt
  have hB7 := below_chain hB6 hb7 hB6.size
  have HO7 := HO6.kept (grown_of_below hb7 none) (by simp; exact Classical.em _)
  have d0 := hCh7.cell 0
  have d1 := hCh7.cell 1
  have d2 := hCh7.cell 2
  have t0 := hT7.cell 0
  have t1 := hT7.cell 1
  have t2 := hT7.cell 2
  have u0 := hT7.frozen 0
  have u1 := hT7.frozen 1
  have u2 := hT7.frozen 2
  simp only [List.getElem?_toArray, List.getElem?_cons_zero, List.getElem?_cons_succ] at d0 d1 d2 t0 t1 t2
  clear hCh6 hT6 hB6 HO6 hb7 hR6 hrow hM
  go_wp2_with fail
  have hT8 := ((hT7.set_ 0 (.int .i64 1)).set_ 1 (.int .i64 id)).set_ 2 (.slice A v.length c)
  rw [show (((#[.int .i64 0, .int .i64 0, .slice none 0 0] : Array Value).setIfInBounds 0 (.int .i64 1)).setIfInBounds 1 (.int .i64 id)).setIfInBounds 2 (.slice A v.length c) = #[.int .i64 1, .int .i64 id, .slice A v.length c] from rfl] at hT8
  have hB8 := ((hB7.setCell (p := ⟨w.heap.size, 0, none⟩) (by simp) (.int .i64 1)).setCell (p := ⟨w.heap.size, 1, none⟩) (by simp) (.int .i64 id)).setCell (p := ⟨w.heap.size, 2, none⟩) (by simp) (.slice A v.length c)
  have hne : ∀ k, (Value.slice A v.length c).ownBlock = some k → k ≠ w.heap.size := fun k hk => by have := (own_lt' HO7 k hk).1; omega
  have HO8 := ((HO7.kept (grown_set _ ⟨w.heap.size, 0, none⟩ (.int .i64 1)) (Or.inr (fun e => hne _ e rfl))).kept (grown_set _ ⟨w.heap.size, 1, none⟩ (.int .i64 id)) (Or.inr (fun e => hne _ e rfl))).kept (grown_set _ ⟨w.heap.size, 2, none⟩ (.slice A v.length c)) (Or.inr (fun e => hne _ e rfl))
  generalize ((w7.setCell ⟨w.heap.size, 0, none⟩ (.int .i64 1)).setCell ⟨w.heap.size, 1, none⟩ (.int .i64 id)).setCell ⟨w.heap.size, 2, none⟩ (.slice A v.length c) = w8 at *
  have m0 := hT8.cell 0
  have m1 := hT8.cell 1
  have m2 := hT8.cell 2
  simp only [List.getElem?_toArray, List.getElem?_cons_zero, List.getElem?_cons_succ] at m0 m1 m2
  refine bodyPost_ret (v := .tuple #[.agg #[.int .i64 1, .int .i64 id, .slice A v.length c], .int .i64 0]) (by simp [results, Tryz.results11, go_sem, m0, m1, m2]) rfl ?_
  exact ⟨_, B, rfl, by omega, HO8, hB8⟩
def GotDel (w : World) (id : Int) (e : Ending) (w' : World) : Prop :=
  e = .returned (.tuple #[.agg #[.int .i64 2, .int .i64 id, .slice none 0 0], .int .i64 0]) ∧ Below w.heap.size w w'
set_option maxRecDepth 100000 in
set_option maxHeartbeats 4000000 in
theorem get_del (id : Int) (hid : 1 ≤ id ∧ id ≤ 1000000000) (hE : delE id = 0) (w : World) :
    Calls Tryz.prog 11 #[strV (delB id)] w (GotDel w id) := by
  obtain ⟨S, hS⟩ : ∃ S : ByteArray, S = ⟨(delB id).toArray⟩ := ⟨_, rfl⟩
  rw [show strV (delB id) = .string S by rw [hS]; rfl]
  have hsz : (w.alloc (.cells #[.int .i64 0, .int .i64 0, .slice none 0 0] 39)).heap.size = w.heap.size + 1 := by simp
  have hR0 := Blk.new (w.alloc (.cells #[.int .i64 0, .int .i64 0, .slice none 0 0] 39)) 97 #[.string S, .bool false]
  have hT0 := (Blk.new w 39 #[.int .i64 0, .int .i64 0, .slice none 0 0]).alloc (.cells #[.string S, .bool false] 97)
  have hB0 := (below_alloc1 w (.cells #[.int .i64 0, .int .i64 0, .slice none 0 0] 39)).alloc (by simp) (.cells #[.string S, .bool false] 97)
  rw [hsz] at hR0
  have hpb : delB id = leB 1 2 ++ (leB 4 id ++ []) := by simp [delB]
  replace hR0 : Blk ((w.alloc (.cells #[.int .i64 0, .int .i64 0, .slice none 0 0] 39)).alloc (.cells #[.string S, .bool false] 97)) (w.heap.size + 1) 97 (readV (leB 1 2 ++ (leB 4 id ++ []))) := by
    rw [← hpb, show readV (delB id) = #[.string S, .bool false] by rw [hS]; rfl]
    exact hR0
  have hr1 : (leB 4 id ++ ([] : List UInt8)).length ≤ 1000000 := by rw [List.append_nil, leB_length]; omega
  have hA := Lib.hid (fun x hx => num1_ok (w.heap.size + 1) 2 (by omega) _ hr1 x hx)
  have hBb := Lib.hid (fun x hx => num4_ok (w.heap.size + 1) id (by omega) [] (Nat.zero_le 1000000) x hx)
  have hM := Lib.hid (fun x => may_del id x)
  rw [hE] at hM
  clear hr1 hE hS hsz hid hpb
  go_enter Tryz.func11, Tryz.ntmps11
  go_upto_region 2 with fail
  generalize (w.alloc (.cells #[.int .i64 0, .int .i64 0, .slice none 0 0] 39)).alloc (.cells #[.string S, .bool false] 97) = w0 at *
  go_wp2_with fail
  refine (hA.out _ hR0).mono ?_
  rintro e w1 ⟨rfl, hR1, hg1⟩
  go_wp2_with fail
  refine (hBb.out _ hR1).mono ?_
  rintro e w2 ⟨rfl, hR2, hg2⟩
  have hlt1 := hR1.lt
  have hlt2 := hR2.lt
  have hCh6 := Blk.new w2 39 #[.int .i64 2, .int .i64 id, .slice none 0 0]
  have hR6 := hR2.alloc (.cells #[.int .i64 2, .int .i64 id, .slice none 0 0] 39)
  have hT6 := ((hT0.grown hg1 (by simp)).grown hg2 (by simp)).alloc (.cells #[.int .i64 2, .int .i64 id, .slice none 0 0] 39)
  have hB6 := (((hB0.grown hg1 (Nat.le_trans (Nat.le_of_lt hT0.lt) (Nat.le_refl _)) (by simp)).grown hg2 (by omega) (by simp))).alloc (by omega) (.cells #[.int .i64 2, .int .i64 id, .slice none 0 0] 39)
  clear hA hBb hg1 hg2 hR0 hR1 hT0 hB0 hR2
  go_upto_region 5 with fail
  generalize w2.alloc (.cells #[.int .i64 2, .int .i64 id, .slice none 0 0] 39) = w6 at *
  have r0 := hR6.cell 0
  have r1 := hR6.cell 1
  have d0 := hCh6.cell 0
  have d1 := hCh6.cell 1
  have d2 := hCh6.cell 2
  simp only [readV, strV, List.getElem?_toArray, List.getElem?_cons_zero, List.getElem?_cons_succ] at r0 r1 d0 d1 d2
  go_wp2_with fail
  refine (hM.out _).mono ?_
  rintro e w7 ⟨rfl, hb7⟩
  have hCh7 := hCh6.below hb7 hCh6.lt
  have hT7 := hT6.below hb7 hT6.lt
  have hB7 := below_chain hB6 hb7 hB6.size
  have d0 := hCh7.cell 0
  have d1 := hCh7.cell 1
  have d2 := hCh7.cell 2
  have t0 := hT7.cell 0
  have t1 := hT7.cell 1
  have t2 := hT7.cell 2
  have u0 := hT7.frozen 0
  have u1 := hT7.frozen 1
  have u2 := hT7.frozen 2
  simp only [List.getElem?_toArray, List.getElem?_cons_zero, List.getElem?_cons_succ] at d0 d1 d2 t0 t1 t2
  clear hCh6 hT6 hB6 hb7 hR6 hM
  go_wp2_with fail
  have hT8 := ((hT7.set_ 0 (.int .i64 2)).set_ 1 (.int .i64 id)).set_ 2 (.slice none 0 0)
  rw [show (((#[.int .i64 0, .int .i64 0, .slice none 0 0] : Array Value).setIfInBounds 0 (.int .i64 2)).setIfInBounds 1 (.int .i64 id)).setIfInBounds 2 (.slice none 0 0) = #[.int .i64 2, .int .i64 id, .slice none 0 0] from rfl] at hT8
  have hB8 := ((hB7.setCell (p := ⟨w.heap.size, 0, none⟩) (by simp) (.int .i64 2)).setCell (p := ⟨w.heap.size, 1, none⟩) (by simp) (.int .i64 id)).setCell (p := ⟨w.heap.size, 2, none⟩) (by simp) (.slice none 0 0)
  generalize ((w7.setCell ⟨w.heap.size, 0, none⟩ (.int .i64 2)).setCell ⟨w.heap.size, 1, none⟩ (.int .i64 id)).setCell ⟨w.heap.size, 2, none⟩ (.slice none 0 0) = w8 at *
  have m0 := hT8.cell 0
  have m1 := hT8.cell 1
  have m2 := hT8.cell 2
  simp only [List.getElem?_toArray, List.getElem?_cons_zero, List.getElem?_cons_succ] at m0 m1 m2
  refine bodyPost_ret (v := .tuple #[.agg #[.int .i64 2, .int .i64 id, .slice none 0 0], .int .i64 0]) (by simp [results, Tryz.results11, go_sem, m0, m1, m2]) rfl ?_
  exact ⟨rfl, hB8⟩
end Go.Proofs.YtejbfglaalmafaaGreatDoor
