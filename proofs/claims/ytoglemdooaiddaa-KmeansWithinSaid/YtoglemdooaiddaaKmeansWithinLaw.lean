/- KmeansWithin: the walk. -/
import Derived.Test.YtoglemdooaiddaaKBig
import Derived.Test.YtoglemdooaiddaaKPure2
import Derived.Deep.QuietTactic
import Derived.BigQuiet
namespace Go.Proofs.Ytoglemdooaiddaa
open Go.RowKit
set_option linter.unusedVariables false

set_option maxRecDepth 100000 in
set_option maxHeartbeats 2000000 in
theorem within_bad (A : Option Addr) (l : List (List Int)) (cl : Nat) (k r s : Int) (w : World) (hm : Mat w A l) (h : trainE l k r ≠ 0) :
    Calls Try.prog 5 #[.slice A l.length cl, .int .i64 k, .int .i64 r, .int .u64 s] w fun e w' => e = .returned (.bool true) ∧ Below w.heap.size w w' := by
  have hB := Lib.hid (big_any A l cl w hm)
  have hT := Lib.hid (train_bad A l cl k r s w hm h)
  have hne : (trainE l k r != 0) = true := by simpa using h
  generalize trainE l k r = E at *
  clear h
  go_enter Try.func5, Try.ntmps5
  go_wp2_with fail
  with_reducible refine hB.out.mono ?_
  rintro e w1 ⟨b, rfl, rfl, hb⟩
  clear hB hb
  cases b
  · go_wp2_with fail
    with_reducible refine hT.out.mono ?_
    rintro e w2 ⟨rfl, B2⟩
    go_wp2_with fail
    refine (awake_any w2).mono ?_
    rintro e w3 ⟨rfl, B3⟩
    have B4 := below_chain B2 B3 B2.size
    go_wp2_with fail
    go_ret
    exact ⟨rfl, B4⟩
  · go_wp2_with fail
    go_ret
    exact ⟨rfl, Below.refl _ _⟩

set_option maxRecDepth 100000 in
set_option maxHeartbeats 8000000 in
theorem within_ok (A : Option Addr) (l : List (List Int)) (cl : Nat) (k r s : Int) (w : World) (hm : Mat w A l) (h : trainE l k r = 0) :
    Calls Try.prog 5 #[.slice A l.length cl, .int .i64 k, .int .i64 r, .int .u64 s] w fun e w' => e = .returned (.bool true) ∧ Below w.heap.size w w' := by
  have hB := Lib.hid (big_any A l cl w hm)
  have hT := Lib.hid (train_good A l cl k r s w hm h)
  obtain ⟨t1, t2, t3, t4, t5, t6, t7⟩ := trainE_ok h
  have hl1 : (l.length : Int) ≤ 512 := by omega
  have hlen := trainN_length l k.toNat r.toNat s
  have hrows := Lib.hid (train_rows s h)
  have hcost := Lib.hid (train_cost s h)
  have hzero := Lib.hid (train_zero s h)
  have hd := train_dim h
  have hW := Lib.hid (fun n (hn : n < (mrow l 0).length) lo hi hb i hi2 => within_at s h hn (lo := lo) (hi := hi) hb (i := i) hi2)
  have hlr := Lib.hid (fun j (hj : j < l.length) => (t7.coords j hj).1)
  obtain ⟨g, o, R, rc, hA, hc0, hR0⟩ := hm 0 (by omega)
  rw [Nat.add_zero] at hc0
  generalize trainN l k.toNat r.toNat s = m at *
  have hm64 : m.length ≤ 64 := by omega
  replace hlen := Lib.hid hlen
  generalize hdd : (mrow l 0).length = d at *
  clear t7 h
  subst hA
  go_enter Try.func5, Try.ntmps5
  go_wp2_with fail
  with_reducible refine hB.out.mono ?_
  rintro e w1 ⟨b, rfl, rfl, hb⟩
  clear hB hb
  cases b
  · go_wp2_with fail
    with_reducible refine hT.out.mono ?_
    rintro e w2 ⟨gc, G, K, rfl, hG, B2⟩
    clear hT
    go_wp2_with fail
    go_loopw [11] (fun i wr => ∃ (i' : Nat), i' ≤ m.length ∧ i = .int .i64 (i' : Int) ∧ Grid wr w.heap.size gc G K m ∧ Below w.heap.size w wr) (fun i _ => m.length - (intOf i).toNat)
    case atStart => exact ⟨0, Nat.zero_le _, rfl, hG, B2⟩
    case round =>
      clear hG B2
      obtain ⟨i, hi, rfl, hG, B2⟩ := hrel
      by_cases hlt : i < m.length
      · have p0 : (0 : Int) ≤ (i : Int) := by omega
        have p1 : (i : Int) < (m.length : Int) := by omega
        have p2 : (0 : Int) < (l.length : Int) := by omega
        have c1 := hG.top i hlt
        rw [(hrows.out i hlt).1] at c1
        have c2 := below_cell B2 hc0
        go_wp2_with fail
        go_quiet (fail)
        go_wp2_with fail
        replace hG : Grid (wr.drewN nq) w.heap.size gc G K m := hG.below ((Drawn.refl wr).more nq |>.below _)
        replace B2 : Below w.heap.size w (wr.drewN nq) := below_chain B2 ((Drawn.refl wr).more nq |>.below _) B2.size
        clear c1 c2
        generalize wr.drewN nq = wx at *
        go_loopw [12] (fun n wy => ∃ (n' : Nat), n' ≤ d ∧ n = .int .i64 (n' : Int) ∧ Grid wy w.heap.size gc G K m ∧ Below w.heap.size w wy) (fun n _ => d - (intOf n).toNat)
        case atStart => exact ⟨0, Nat.zero_le _, rfl, hG, B2⟩
        case round =>
          clear hG B2
          obtain ⟨n, hn, rfl, hG, B2⟩ := hrel
          have c1 := hG.top i hlt
          rw [(hrows.out i hlt).1] at c1
          by_cases hlt2 : n < d
          · have q0 : (0 : Int) ≤ (n : Int) := by omega
            have q1 : (n : Int) < (d : Int) := by omega
            have c2 := below_cell B2 hc0
            obtain ⟨g3, o3, hA3, hc3⟩ := hR0 n (by omega)
            have c3 := below_cell B2 hc3
            subst hA3
            go_wp2_with fail
            clear c1 c2 c3
            go_loopw [13, 14, 15] (fun lo hi j wz => ∃ (j' : Nat) (lo' hi' : Int), j' ≤ l.length ∧ j = .int .i64 (j' : Int) ∧ lo = .int .i64 lo' ∧ hi = .int .i64 hi' ∧ Hid (∀ q, q < j' → lo' ≤ nth (mrow l q) n ∧ nth (mrow l q) n ≤ hi') ∧ Grid wz w.heap.size gc G K m ∧ Below w.heap.size w wz) (fun _ _ j _ => l.length - (intOf j).toNat)
            case atStart => exact ⟨0, _, _, Nat.zero_le _, rfl, rfl, rfl, Lib.hid (fun q hq => by omega), hG, B2⟩
            case round =>
              clear hG B2
              obtain ⟨j, lo, hi', hj, rfl, rfl, rfl, hQ, hG, B2⟩ := hrel
              by_cases hlt3 : j < l.length
              · obtain ⟨g4, o4, R4, rc4, hA4, hc4, hR4⟩ := hm j hlt3
                simp only [Option.some.injEq, Addr.mk.injEq, and_true] at hA4
                obtain ⟨rfl, rfl⟩ := hA4
                obtain ⟨g5, o5, hA5, hc5⟩ := hR4 n (by rw [hlr.out j hlt3]; exact hlt2)
                rw [hlr.out j hlt3] at hc4
                subst hA5
                have r0 : (0 : Int) ≤ (j : Int) := by omega
                have r1 : (j : Int) < (l.length : Int) := by omega
                have d4 := below_cell B2 hc4
                have d5 := below_cell B2 hc5
                have hQ2 : Hid (∀ q, q < j + 1 → min lo (nth (mrow l j) n) ≤ nth (mrow l q) n ∧ nth (mrow l q) n ≤ max hi' (nth (mrow l j) n)) := Lib.hid (fun q hq => by
                  by_cases e : q = j
                  · subst e; omega
                  · have := hQ.out q (by omega); omega)
                clear hc4 hc5
                go_wp2_with fail
                exact ⟨⟨j + 1, _, _, by omega, by go_num, rfl, rfl, hQ2, hG, B2⟩, by simp [intOf]; omega⟩
              · obtain rfl : j = l.length := by omega
                obtain ⟨b1, b2⟩ := hW.out n hlt2 lo hi' hQ.out i (by have := hlen.out; omega)
                have d4 := hG.row i hlt n (by rw [(hrows.out i hlt).1]; exact hlt2)
                have c1 := hG.top i hlt
                rw [(hrows.out i hlt).1] at c1
                generalize nth (mrow m i) n = v at *
                go_wp2_with fail
                exact ⟨⟨n + 1, by omega, by go_num, hG, B2⟩, by simp [intOf]; omega⟩
          · obtain rfl : n = d := by omega
            go_wp2_with fail
            exact ⟨⟨i + 1, by omega, by go_num, hG, B2⟩, by simp [intOf]; omega⟩
      · obtain rfl : i = m.length := by omega
        have hC := Lib.hid (Cost_any (some ⟨gc, 0, none⟩) m m.length (some ⟨g, o, none⟩) l cl wr hG.mat (hm.below B2))
        rw [hcost.out] at hC
        have hkk : ((m.length : Int) == k) = true := by have := hlen.out; simp; omega
        go_wp2_with fail
        with_reducible refine hC.out.mono ?_
        rintro e w4 ⟨rfl, hb⟩
        have B5 := below_chain B2 hb B2.size
        clear hC hb hG B2
        generalize hD : costN m l = D at *
        have b6 := Blk.new w4 34 #[.int .u64 (hiN D : Int), .int .u64 (loN D : Int)]
        have B6 := below_chain B5 (below_alloc1 w4 (.cells #[.int .u64 (hiN D : Int), .int .u64 (loN D : Int)] 34)) B5.size
        go_upto_region 24 with fail
        generalize w4.alloc (.cells #[.int .u64 (hiN D : Int), .int .u64 (loN D : Int)] 34) = w5 at *
        go_wp2_with fail
        refine (awake_any w5).mono ?_
        rintro e w6 ⟨rfl, hb⟩
        have B7 := below_chain B6 hb B6.size
        have b7 := b6.below hb b6.lt
        by_cases hkl : k < (l.length : Int)
        · clear hzero
          go_wp2_with fail
          go_ret
          exact ⟨rfl, B7⟩
        · by_cases hr0 : 0 < r
          · clear hzero
            have hkl' : (l.length : Int) ≤ k := by omega
            clear hkl
            go_wp2_with fail
            go_ret
            exact ⟨rfl, B7⟩
          · have e0 : D = 0 := (by first | exact hzero.out hkl hr0 | exact hzero.out (by omega) (by omega))
            subst e0
            have z0 : w6.cell? ⟨w4.heap.size, 0, none⟩ = some (.int .u64 0) := b7.cell 0
            have z1 : w6.cell? ⟨w4.heap.size, 1, none⟩ = some (.int .u64 0) := b7.cell 1
            have hkl' : (l.length : Int) ≤ k := by omega
            have hr1 : r ≤ 0 := by omega
            clear hkl hr0 hzero
            go_wp2_with fail
            go_ret
            exact ⟨rfl, B7⟩
  · go_wp2_with fail
    go_ret
    exact ⟨rfl, Below.refl _ _⟩

theorem kmeansWithin_any (A : Option Addr) (l : List (List Int)) (cl : Nat) (k r s : Int) (w : World) (hm : Mat w A l) :
    Calls Try.prog 5 #[.slice A l.length cl, .int .i64 k, .int .i64 r, .int .u64 s] w fun e w' => e = .returned (.bool true) ∧ Below w.heap.size w w' := by
  by_cases h : trainE l k r = 0
  · exact within_ok A l cl k r s w hm h
  · exact within_bad A l cl k r s w hm h
end Go.Proofs.Ytoglemdooaiddaa
