/- The contract of theodoliteref06.Train. -/
import Derived.Test.YtoglemdooaiddaaKRefRound
import Derived.Test.YtoglemdooaiddaaRefSourcek
import Derived.Test.YtoglemdooaiddaaKTrain
import Derived.Test.YtoglemdooaiddaaKPure2
namespace Go.Proofs.Ytoglemdooaiddaa
open Go.RowKit
set_option linter.unusedVariables false

theorem trainE_any (A : Option Addr) (l : List (List Int)) (cl : Nat) (k r : Int) (w : World) (hm : Mat w A l) :
    Calls Try.prog 32 #[.slice A l.length cl, .int .i64 k, .int .i64 r] w fun e w' => e = .returned (.int .i64 (trainE l k r)) ∧ w = w' := by
  by_cases h : k < 1 ∨ 64 < k ∨ r < 0 ∨ 20 < r
  · rw [trainE, if_pos h]
    by_cases h1 : k < 1
    · clear h
      go_enter Try.func32, Try.ntmps32
      go_wp2_with fail
      go_ret
      exact ⟨rfl, rfl⟩
    have g1 : 1 ≤ k := by omega
    by_cases h2 : 64 < k
    · clear h h1
      go_enter Try.func32, Try.ntmps32
      go_wp2_with fail
      go_ret
      exact ⟨rfl, rfl⟩
    have g2 : k ≤ 64 := by omega
    by_cases h3 : r < 0
    · clear h h1 h2
      go_enter Try.func32, Try.ntmps32
      go_wp2_with fail
      go_ret
      exact ⟨rfl, rfl⟩
    have g3 : 0 ≤ r := by omega
    have h4 : 20 < r := by omega
    clear h h1 h2 h3
    go_enter Try.func32, Try.ntmps32
    go_wp2_with fail
    go_ret
    exact ⟨rfl, rfl⟩
  have g1 : 1 ≤ k := by omega
  have g2 : k ≤ 64 := by omega
  have g3 : 0 ≤ r := by omega
  have g4 : r ≤ 20 := by omega
  by_cases h2 : 512 < l.length
  · rw [trainE, if_neg h, if_pos h2]
    have h5 : (512 : Int) < (l.length : Int) := by omega
    clear h h2
    go_enter Try.func32, Try.ntmps32
    go_wp2_with fail
    go_ret
    exact ⟨rfl, rfl⟩
  have h5 : (l.length : Int) ≤ 512 := by omega
  by_cases h3 : (l.length : Int) < k
  · rw [trainE, if_neg h, if_neg h2, if_pos h3]
    clear h h2
    go_enter Try.func32, Try.ntmps32
    go_wp2_with fail
    go_ret
    exact ⟨rfl, rfl⟩
  rw [trainE, if_neg h, if_neg h2, if_neg h3]
  obtain ⟨g, o, R, rc, rfl, hc, hR⟩ := hm 0 (by omega)
  rw [Nat.add_zero] at hc
  have p1 : (0 : Int) < (l.length : Int) := by omega
  have h6 : k ≤ (l.length : Int) := by omega
  have hA := Lib.hid (rall_any (some ⟨g, o, none⟩) l cl (mrow l 0).length (by omega) w hm)
  clear h h2 h3
  go_enter Try.func32, Try.ntmps32
  go_wp2_with fail
  refine hA.out.mono ?_
  rintro e w1 ⟨rfl, rfl⟩
  go_wp2_with fail
  go_ret
  exact ⟨rfl, rfl⟩

theorem rtrain_bad (A : Option Addr) (l : List (List Int)) (cl : Nat) (k r s : Int) (w : World) (hm : Mat w A l) (h : trainE l k r ≠ 0) :
    Calls Try.prog 12 #[.slice A l.length cl, .int .i64 k, .int .i64 r, .int .u64 s] w fun e w' => e = .returned (.tuple #[.slice none 0 0, .int .i64 (trainE l k r)]) ∧ w = w' := by
  have hE := Lib.hid (trainE_any A l cl k r w hm)
  have hne : (trainE l k r != 0) = true := by simpa using h
  generalize trainE l k r = E at *
  clear h
  go_enter Try.func12, Try.ntmps12
  go_wp2_with fail
  refine hE.out.mono ?_
  rintro e w1 ⟨rfl, rfl⟩
  go_wp2_with fail
  go_ret2
  exact ⟨rfl, rfl⟩

/-- What stands behind the document's training. -/
def RTrainGood (P : Nat → Prop) (w : World) (m : List (List Int)) (e : Ending) (w' : World) : Prop := ∃ g c, e = .returned (.tuple #[.slice (some ⟨g, 0, none⟩) m.length c, .int .i64 0]) ∧ MatP P w' (some ⟨g, 0, none⟩) m ∧ Below w.heap.size w w'
set_option maxRecDepth 100000 in
set_option maxHeartbeats 8000000 in
theorem rtrain_ok (P : Nat → Prop) (A : Option Addr) (l : List (List Int)) (cl : Nat) (k r : Nat) (s : Int) (w : World) (hm : MatP P w A l) (hP : ∀ b, w.heap.size ≤ b → P b) (h : trainE l k r = 0) :
    Calls Try.prog 12 #[.slice A l.length cl, .int .i64 (k : Int), .int .i64 (r : Int), .int .u64 s] w (RTrainGood P w (trainN l k r s)) := by
  have hE := Lib.hid (trainE_any A l cl k r w hm.mat)
  rw [h] at hE
  obtain ⟨t1, t2, t3, t4, t5, t6, t7⟩ := trainE_ok h
  have hd := train_dim h
  have hcl := Lib.hid t7.coords
  replace hP := Lib.hid hP
  clear h
  unfold trainN
  generalize (mrow l 0).length = d at *
  have k1 : (k : Int) ≤ 64 := by omega
  have r1 : (r : Int) ≤ 20 := by omega
  have l1 : (l.length : Int) ≤ 512 := by omega
  have hS := Lib.hid (fun q => Within.coords (Within.rounds (r := q) hcl.out.within (Within.start hcl.out.within s (k := k) (by omega))))
  have hpl : Hid (∀ i, i < l.length → 0 ≤ nth (permOf s l.length).1 i ∧ (nth (permOf s l.length).1 i).toNat < l.length) := Lib.hid (fun i hi => perm_place hi)
  have hlen : (permOf s l.length).1.length = l.length := permOf_length _ _
  go_enter Try.func12, Try.ntmps12
  go_wp2_with fail
  refine hE.out.mono ?_
  rintro e w1 ⟨rfl, rfl⟩
  have b0 : Blk (w.alloc (.cells #[.int .u64 s] refT)) w.heap.size refT #[.int .u64 s] := Blk.new _ _ _
  have B0 := below_alloc1 w (.cells #[.int .u64 s] refT)
  go_wp2_with fail
  refine (refPerm_src w.heap.size s l.length _ b0 (by omega)).mono ?_
  rintro e x0 ⟨Ap, cp, rfl, hps, _, hgp⟩
  have HB := B0.grown hgp B0.size (fun q hq => by cases hq; exact Nat.le_refl _)
  clear b0 B0 hgp hE
  generalize (permOf s l.length).1 = ps at *
  obtain ⟨st, hst⟩ : ∃ st, st = startN l ps k := ⟨_, rfl⟩
  have hstl : st.length = k := by rw [hst, startN_length]
  rw [← hst] at hS ⊢
  go_wp2_with fail
  go_loopw [14, 15] (fun o i wr => ∃ j : Nat, j ≤ k ∧ i = .int .i64 (j : Int) ∧ OutS P x0.heap.size wr o j st ∧ Below x0.heap.size x0 wr) (fun _ i _ => k - (intOf i).toNat)
  case atStart => exact ⟨0, Nat.zero_le _, rfl, OutS.start _ _ _ _, Below.refl _ _⟩
  case round =>
    obtain ⟨j, hj, rfl, hOut, B3⟩ := hrel
    have B4 := below_chain HB B3 HB.size
    by_cases hlt : j < k
    · obtain ⟨y1, y2⟩ := hpl.out j (by omega)
      obtain ⟨p, hp⟩ : ∃ p : Nat, nth ps j = (p : Int) := ⟨(nth ps j).toNat, by omega⟩
      rw [hp] at y1 y2
      rw [Int.toNat_natCast] at y2
      obtain ⟨gp, op, hAp, hcp⟩ := hps j (by omega)
      rw [hp] at hcp
      obtain ⟨g, o, R, rc, hA, hpg, hc1, hR⟩ := hm p y2
      have hrl := (hcl.out p y2).1
      obtain ⟨gr, or_, hRr, hpr, hcr⟩ := hR 0 (by omega)
      subst hRr hA hAp
      have hgr : gr < w.heap.size := World.block_lt_of_cell? w _ hcr
      have a0 : (0 : Int) ≤ (j : Int) := by omega
      have a1 : (j : Int) < (k : Int) := by omega
      have a2 : (j : Int) < (l.length : Int) := by omega
      have a3 : (p : Int) < (l.length : Int) := by omega
      have hsj : mrow st j = mrow l p := by rw [hst, startN, mrow_map _ _ hlt, hp, Int.toNat_natCast]
      have hlen : (mrow st j).length = d := by rw [hsj]; exact hrl
      rw [hrl] at hc1
      replace hlen := Lib.hid hlen
      replace hrl := Lib.hid hrl
      have c1 := below_cell B4 hc1
      have c2 := below_cell B3 hcp
      have hrow : RowP P wr (some ⟨gr, or_, none⟩) (mrow st j) := by rw [hsj]; exact hR.below B4
      have hw5 : w.heap.size ≤ x0.heap.size := HB.size
      have hwx := B3.size
      have hout := hOut.lt
      obtain ⟨xs, HO5, hX⟩ := hOut
      go_wp2_with (at_builtin; refine append_one x0.heap.size rfl (.tmp 39) (.tmp 47) _ 30 (.slice none 0 0) 24 rfl Try.underlying22 row_info rfl (by omega) u14 j _ (.slice (some ⟨gr, or_, none⟩) d rc) rfl rfl rfl HO5 hwx (by omega) ?_; intro v1 x6 HO6 hg6 hat6)
      rw [← hlen.out] at HO6
      have hOut6 := OutS.snoc (P := P) HO5 hX HO6 hg6 hat6 hpr (by omega) (fun e => by have := hout gr e; omega) hrow
      have B6 := below_of_grown B3 hg6 (fun q hq => (hout q hq).1)
      exact ⟨⟨j + 1, by omega, by go_num, hOut6, B6⟩, by simp [intOf]; omega⟩
    · obtain rfl : j = k := by omega
      rw [← hstl] at hOut
      obtain ⟨g9, c9, rfl, hM9⟩ := hOut.mat (by omega) (fun b hb => hP.out b (by have := HB.size; omega))
      rw [hstl]
      replace hstl := Lib.hid hstl
      replace hst := Lib.hid hst
      go_wp2_with fail
      go_loopw [14, 16] (fun o i wr => ∃ (q g c : Nat), q ≤ r ∧ i = .int .i64 (q : Int) ∧ o = .slice (some ⟨g, 0, none⟩) j c ∧ MatP P wr (some ⟨g, 0, none⟩) (roundsN l d q st) ∧ Below w.heap.size w wr) (fun _ i _ => r - (intOf i).toNat)
      case atStart => exact ⟨0, g9, c9, Nat.zero_le _, rfl, rfl, hM9, B4⟩
      case round =>
        clear hM9 B4 B3
        obtain ⟨q, g, c, hq, rfl, rfl, hM, B4⟩ := hrel
        have hml : (roundsN l d q st).length = j := by rw [roundsN_length]; exact hstl.out
        by_cases hlt2 : q < r
        · have a0 : (0 : Int) ≤ (q : Int) := by omega
          have a1 : (q : Int) < (r : Int) := by omega
          have hC := rround_any P (some ⟨g, 0, none⟩) (roundsN l d q st) c A l cl d wr hM (hm.mat.below B4) (fun b hb => hP.out b (by have := B4.size; omega)) (by omega) (by omega) hd.1 hd.2 (by omega) t5 hcl.out (hS.out q)
          rw [hml] at hC
          replace hC := Lib.hid hC
          have hnl : (nextN (roundsN l d q st) l d).length = j := by rw [nextN_length]; exact hml
          clear hml
          go_wp2_with fail
          with_reducible refine hC.out.mono ?_
          rintro e x7 ⟨g7, c7, rfl, hM7, hb7⟩
          rw [hnl]
          clear hnl hC
          have B7 := below_chain B4 hb7 B4.size
          go_wp2_with fail
          exact ⟨⟨q + 1, g7, c7, by omega, by go_num, rfl, hM7, B7⟩, by simp [intOf]; omega⟩
        · obtain rfl : q = r := by omega
          replace hml := Lib.hid hml
          go_wp2_with fail
          go_ret2
          exact ⟨g, c, by rw [← hst.out, hml.out]; rfl, by rw [← hst.out]; exact hM, B4⟩
end Go.Proofs.Ytoglemdooaiddaa
