/- The contract of kmeans.Train: the walk. -/
import Derived.Test.YtoglemdooaiddaaKTrain
namespace Go.Proofs.Ytoglemdooaiddaa
open Go.RowKit
set_option linter.unusedVariables false

/-- What stands between the rounds. -/
structure TrR (w wr : World) (A : Option Addr) (n cl : Nat) (k d : Int) (bc gc kk : Nat) (G K : Nat → Nat) (M : List (List Int)) : Prop where
  box : Box3 w A n cl k d wr
  var : Blk wr bc 22 #[.slice (some ⟨gc, 0, none⟩) kk kk]
  grid : Grid wr w.heap.size gc G K M
  o1 : w.heap.size + 2 < bc
  sep : ∀ i, i < kk → bc < G i
theorem TrR.round {w wr w2 : World} {A : Option Addr} {n cl : Nat} {k d : Int} {bc gc kk : Nat} {G K : Nat → Nat} {M l : List (List Int)} {dd : Nat} (h : TrR w wr A n cl k d bc gc kk G K M) (hl : M.length = kk)
    (hb : Below w.heap.size wr w2) (ho : Off wr w2 M.length G) (hg : Grid w2 w.heap.size gc G K (nextN M l dd)) : TrR w w2 A n cl k d bc gc kk G K (nextN M l dd) := by
  have hs := h.sep
  have h1 := h.o1
  have z := h.box.lt
  rw [hl] at ho
  have e : ∀ b, b ≤ bc → b < wr.heap.size → w2.heap[b]? = wr.heap[b]? := fun b h2 h3 => ho b h3 (fun i hi => by have := hs i hi; omega)
  exact { box := ⟨h.box.1.trans hb, (e _ (by omega) (by omega)).trans h.box.2.1, (e _ (by omega) (by omega)).trans h.box.2.2.1, (e _ (by omega) (by omega)).trans h.box.2.2.2⟩
          var := (e _ (Nat.le_refl _) h.var.lt).trans h.var, grid := hg, o1 := h.o1, sep := h.sep }

set_option maxRecDepth 100000 in
set_option maxHeartbeats 8000000 in
theorem train_ok (A : Option Addr) (l : List (List Int)) (cl : Nat) (k r : Nat) (s : Int) (w : World) (hm : Mat w A l) (h1 : 1 ≤ k) (h2 : k ≤ 64) (h4 : r ≤ 20) (h5 : l.length ≤ 512) (h6 : k ≤ l.length) (h7 : AllOk l (mrow l 0).length l.length) :
    Calls Try.prog 10 #[.slice A l.length cl, .int .i64 (k : Int), .int .i64 (r : Int), .int .u64 s] w (TrainGood w (trainN l k r s)) := by
  have B := Box2.start w A l.length cl (k : Int)
  have hz : ((w.alloc (.cells #[.slice A l.length cl] 22)).alloc (.cells #[.int .i64 (k : Int)] 3)).heap.size = w.heap.size + 2 := by simp
  have B3 := Box3.start B hz (mrow l 0).length
  obtain ⟨g, o, R, rc, hA, hc, hR⟩ := hm 0 (by omega)
  rw [Nat.add_zero] at hc
  have p1 : (0 : Int) < (l.length : Int) := by omega
  have h5' : (l.length : Int) ≤ 512 := by omega
  have k1 : (1 : Int) ≤ (k : Int) := by omega
  have k2 : (k : Int) ≤ 64 := by omega
  have k3 : (k : Int) ≤ (l.length : Int) := by omega
  have r1 : (0 : Int) ≤ (r : Int) := by omega
  have r2 : (r : Int) ≤ 20 := by omega
  have hE := Lib.hid (all_any A l cl (mrow l 0).length h5 _ (hm.below B3.1))
  rw [allE_none _ _ h7] at hE
  have d1 := below_cell B.1 hc
  have hcl := Lib.hid h7.coords
  have hd := vecE_ok (h7 0 (by omega))
  have hd1 : 1 ≤ (mrow l 0).length := by omega
  have hd2 : (mrow l 0).length ≤ 64 := by omega
  unfold trainN
  generalize (mrow l 0).length = d at *
  clear hd h7 hR
  subst hA
  have m1 := make_rows k (by omega)
  go_enter Try.func10, Try.ntmps10
  go_upto_region 7 with fail
  generalize ((w.alloc (.cells #[.slice (some ⟨g, o, none⟩) l.length cl] 22)).alloc (.cells #[.int .i64 (k : Int)] 3)) = w2 at *
  obtain ⟨c1, c2⟩ := B.cells
  have c3 := B3.cells.1
  have c4 := B3.cells.2.2
  go_wp2_with fail
  with_reducible refine hE.out.mono ?_
  rintro e w3 ⟨rfl, rfl⟩
  generalize w2.alloc (Obj.cells #[.int .i64 (d : Int)] 3) = w3 at *
  go_wp2_with fail
  clear c1 c2 c3 c4 d1
  have B4 : Box3 w (some ⟨g, o, none⟩) l.length cl k d w3.drew := B3.more (Below.refl _ _).drew
  have S0 := B4.cells.1
  have z3 := B4.lt
  go_region_held3 (fun w' => w'.cell? ⟨w.heap.size, 0, none⟩ = some (.slice (some ⟨g, o, none⟩) l.length cl)) (first | exact S0 | exact S1 | exact S2)
    (first
    | (go_at_call 25; (with_reducible refine (new_src s _).mono ?_); rintro e x1 ⟨b, rfl, hsb, hbl, hgb⟩; have X1 := B4.grown hgb (fun _ hh => by cases hh); have S1 := X1.cells.1)
    | (go_at_call 26; (with_reducible refine (perm_src b s l.length _ hsb (by omega)).mono ?_); rintro e x2 ⟨gp, rfl, hp, hsb2, hgl, hgp⟩; have X2 := X1.grown hgp (fun b' hh => by cases hh; omega); have S2 := X2.cells.1))
  all_goals
    have hpl : Hid (∀ i, i < l.length → 0 ≤ nth (permOf s l.length).1 i ∧ (nth (permOf s l.length).1 i).toNat < l.length) := Lib.hid (fun i hi => perm_place hi)
    have hlen : (permOf s l.length).1.length = l.length := permOf_length _ _
    have hS := Lib.hid (Within.coords (Within.start hcl.out.within s h6))
    have hsl : (startN l (permOf s l.length).1 k).length = k := startN_length _ _ _
    generalize (permOf s l.length).1 = ps at *
    have c1 := X2.cells.2.1
    have hgw : g < w.heap.size := World.block_lt_of_cell? w _ hc
    have T0 := TrS.start (kk := k) X2 hp (fun _ => 0) (fun _ => 0)
    clear B B3 B4 S0 z3 hsb hbl hgb X1 S1 hsb2 hgl hgp S2 hE hz hc
    go_wp2_with fail
    clear c1 m1
    generalize hgc : x2.heap.size = gc at *
    obtain ⟨bc, hbc⟩ : ∃ bc, gc + 1 = bc := ⟨_, rfl⟩
    rw [hbc] at T0 ⊢
    generalize ((x2.alloc (Obj.cells (rows0 k) 30)).alloc (Obj.cells #[.slice (some ⟨gc, 0, none⟩) k k] 22)) = w4 at *
    go_loopw [63] (fun i wr => ∃ (j : Nat) (G K : Nat → Nat), j ≤ k ∧ i = .int .i64 (j : Int) ∧ TrS w wr (some ⟨g, o, none⟩) l.length cl k d gp bc gc k ps G K (startN l ps j)) (fun i _ => k - (intOf i).toNat)
    case atStart => exact ⟨0, _, _, Nat.zero_le _, rfl, T0⟩
    case round =>
      clear T0 X2 hp
      obtain ⟨j, G, K, hj, rfl, hT⟩ := hrel
      by_cases hlt : j < k
      · obtain ⟨q1, q2⟩ := hpl.out j (by omega)
        have hrow := startN_succ l ps j
        obtain ⟨p, hp⟩ : ∃ p : Nat, nth ps j = (p : Int) := ⟨(nth ps j).toNat, by omega⟩
        rw [hp] at q1 q2
        simp only [hp, Int.toNat_natCast] at q2 hrow
        obtain ⟨g2, o2, R2, rc2, hA2, hc2, hR2⟩ := hm p q2
        simp only [Option.some.injEq, Addr.mk.injEq, and_true] at hA2
        obtain ⟨rfl, rfl⟩ := hA2
        have hrl : (mrow l p).length = d := (hcl.out p q2).1
        obtain ⟨g3, o3, hA3, hc3⟩ := hR2 0 (by omega)
        subst hA3
        have a0 : (0 : Int) ≤ (j : Int) := by omega
        have a1 : (j : Int) < (k : Int) := by omega
        have a2 : (j : Int) < (l.length : Int) := by omega
        have a3 : (p : Int) < (l.length : Int) := by omega
        replace hT := hT.more (Below.refl _ wr).drew
        have hC := Lib.hid (clone_any g3 o3 (mrow l p) rc2 wr.drew (hR2.below hT.box.1) (by omega) (by omega))
        have hml : (startN l ps j).length = j := startN_length _ _ _
        have e1 := hT.places.nth j (by omega)
        rw [hp] at e1
        have S0 : RegC bc gc k w.heap.size (some ⟨g, o, none⟩) l.length cl gp j p g o (some ⟨g3, o3, none⟩) d rc2 wr.drew := ⟨hT.var.cell 0, hT.box.cells.1, e1, by rw [← hrl]; exact below_cell hT.box.1 hc2⟩
        have y1 := hT.rest j (by omega) hlt
        have y2 := hT.grid.free j
        have v1 := hT.o1
        have v2 := hT.o2
        have v3 := hT.o3
        rw [hrl] at hC
        clear e1 hc2 hR2 hc3 hrow
        go_wp2_with fail
        go_region_held3 (fun w' => w'.cell? ⟨bc, 0, none⟩ = some (.slice (some ⟨gc, 0, none⟩) k k) ∧ w'.cell? ⟨w.heap.size, 0, none⟩ = some (.slice (some ⟨g, o, none⟩) l.length cl) ∧ w'.cell? ⟨gp, j, none⟩ = some (.int .i64 (p : Int)) ∧ w'.cell? ⟨g, o + p, none⟩ = some (.slice (some ⟨g3, o3, none⟩) d rc2))
          (first | exact S0 | exact S1 | exact S1.set_ _ _ (by omega) (by omega) (by omega) (by omega))
          (first
          | (go_at_call 27; (with_reducible refine hC.out.mono ?_); rintro e x3 ⟨g4, cap, rfl, hown, hb⟩; have S1 := S0.more hb; have y3 := below_cell hb y1; have y4 := (below_frozen hb hT.grid.lt).trans y2))
        have hT2 := hT.row hb (cap := cap) hown (by omega)
        rw [hml, hrl] at hT2
        have hT3 : TrS w _ (some ⟨g, o, none⟩) l.length cl k d gp bc gc k ps _ _ (startN l ps (j + 1)) := (by rw [startN_succ, hp, Int.toNat_natCast]; exact hT2)
        clear hT2 S0 S1 y1 y2 y3 y4 hb hown
        generalize (x3.setCell ⟨gc, j, none⟩ (Value.slice (some ⟨g4, 0, none⟩) d cap)) = x4 at *
        go_wp2_with fail
        exact ⟨⟨j + 1, _, _, by omega, by go_num, hT3⟩, by simp [intOf]; omega⟩
      · obtain rfl : j = k := by omega
        have hmf : ∀ (fn : Fn) (first cap : Array Value) (w : World), (Instr.makeFunc fn first cap).run Try.prog w = .ok (.func fn first cap) w := fun _ _ _ _ => rfl
        go_wp2_with fail
        have T1 : TrR w wr (some ⟨g, o, none⟩) l.length cl j d bc gc j G K (roundsN l d 0 (startN l ps j)) := { box := hT.box, var := hT.var, grid := hT.grid, o1 := by have := hT.o1; have := hT.o2; omega, sep := fun i hi => hT.sep i (by omega) }
        have hw := Lib.hid (fun q => Within.coords (Within.rounds (r := q) hcl.out.within hS.out.within))
        clear hT hmf
        go_loopw [80] (fun i wr => ∃ (q : Nat), q ≤ r ∧ i = .int .i64 (q : Int) ∧ TrR w wr (some ⟨g, o, none⟩) l.length cl j d bc gc j G K (roundsN l d q (startN l ps j))) (fun i _ => r - (intOf i).toNat)
        case atStart => exact ⟨0, Nat.zero_le _, rfl, T1⟩
        case round =>
          clear T1
          obtain ⟨q, hq, rfl, hT⟩ := hrel
          by_cases hlt2 : q < r
          · have a0 : (0 : Int) ≤ (q : Int) := by omega
            have a1 : (q : Int) < (r : Int) := by omega
            have hml : (roundsN l d q (startN l ps j)).length = j := by rw [roundsN_length]; exact hsl
            have hC := round_any (w.heap.size + 1) (w.heap.size + 2) w.heap.size bc gc w.heap.size d G K (roundsN l d q (startN l ps j)) l (some ⟨g, o, none⟩) cl j wr
              (by omega) (by omega) hd1 hd2 h5 hcl.out (hw.out q) (by rw [hml]; exact hT.box.cells.2.1) hT.box.cells.2.2 hT.box.cells.1 (by rw [hml]; exact hT.var.cell 0) hT.grid (hm.below hT.box.1)
              (fun i hi => by rw [hml] at hi; have := hT.sep i hi; have := hT.o1; omega)
            replace hC := Lib.hid hC
            go_wp2_with fail
            with_reducible refine hC.out.mono ?_
            rintro e x5 ⟨⟨v, rfl⟩, hb, ho, hg⟩
            have hT2 : TrR w x5 (some ⟨g, o, none⟩) l.length cl j d bc gc j G K (roundsN l d (q + 1) (startN l ps j)) := hT.round hml hb ho hg
            clear hT hC hb ho hg
            go_wp2_with fail
            exact ⟨⟨q + 1, by omega, by go_num, hT2⟩, by simp [intOf]; omega⟩
          · obtain rfl : q = r := by omega
            have c1 := hT.var.cell 0
            simp only [List.getElem?_toArray, List.getElem?_cons_zero] at c1
            go_wp2_with fail
            go_ret2
            refine ⟨gc, G, K, by rw [roundsN_length, hsl]; rfl, hT.grid, hT.box.1⟩
end Go.Proofs.Ytoglemdooaiddaa
