/- The walk of the statement RandRuns: true at every seed and script, where the library's table lies as laid. -/
import Derived.Test.YtnmafimcojoeiaaDoorRandStep
import Derived.Test.YtnmafimcojoeiaaDoorRandAwake
import Derived.LaidEqlPtr
namespace Go.Proofs.YtnmafimcojoeiaaDoor
open Go.RowKit

/-- A slice that reads as a script: pairs of a kind and a number. -/
def Ops (w : World) (A : Option Addr) (l : List (Int × Int)) : Prop := ∀ j, j < l.length → ∃ g off k n, A = some ⟨g, off, none⟩ ∧ w.cell? ⟨g, off + j * 2, none⟩ = some (.int .i64 k) ∧ w.cell? ⟨g, off + j * 2 + 1, none⟩ = some (.int .i64 n)
theorem Ops.below {w w' : World} {A : Option Addr} {l : List (Int × Int)} (h : Ops w A l) (hb : Below w.heap.size w w') : Ops w' A l := fun j hj => by
  obtain ⟨g, off, k, n, hA, h1, h2⟩ := h j hj
  exact ⟨g, off, k, n, hA, below_cell hb h1, below_cell hb h2⟩

def SomeInt (w : World) (e : Ending) (w' : World) : Prop := ∃ n : Int, e = .returned (.int .i64 n) ∧ w = w'

set_option maxHeartbeats 1000000 in
theorem work_any (A : Option Addr) (l : List (Int × Int)) (c : Nat) (w : World) (hA : Ops w A l) (hl : l.length ≤ 1000) :
    Calls Tryd.prog 11 #[.slice A l.length c] w (SomeInt w) := by
  go_enter Tryd.func11, Tryd.ntmps11
  go_wp2
  go_loop [3, 4] (fun m i => ∃ (k : Nat) (t : Int), k ≤ l.length ∧ i = .int .i64 k ∧ m = .int .i64 t ∧ 0 ≤ t ∧ t ≤ 2000000) (fun _ i => l.length - (intOf i).toNat)
  case atStart => exact ⟨0, 0, Nat.zero_le _, rfl, rfl, by omega, by omega⟩
  case round =>
    obtain ⟨k, t, hk, rfl, rfl, ht0, ht1⟩ := hrel
    by_cases hlt : k < l.length
    · obtain ⟨g, off, kd, n, rfl, c0, c1⟩ := hA k hlt
      have p0 : (0 : Int) ≤ (k : Int) := by omega
      have p1 : (k : Int) < (l.length : Int) := by omega
      by_cases ht : t ≤ 1048576
      · by_cases h3 : kd = 3
        · have e3 : (kd == 3) = true := by simp [h3]
          clear h3
          by_cases hn0 : 0 < n
          · by_cases hn1 : n ≤ 65536
            · go_wp2
              exact ⟨⟨k + 1, t + n, by omega, by go_num, rfl, by omega, by omega⟩, by simp [intOf]; omega⟩
            · go_wp2
              exact ⟨⟨k + 1, t, by omega, by go_num, rfl, by omega, by omega⟩, by simp [intOf]; omega⟩
          · go_wp2
            exact ⟨⟨k + 1, t, by omega, by go_num, rfl, by omega, by omega⟩, by simp [intOf]; omega⟩
        · have e3 : (kd == 3) = false := by simp [h3]
          clear h3
          go_wp2
          exact ⟨⟨k + 1, t, by omega, by go_num, rfl, by omega, by omega⟩, by simp [intOf]; omega⟩
      · go_wp2
        go_ret
        exact ⟨_, rfl, rfl⟩
    · obtain rfl : k = l.length := by omega
      go_wp2
      go_ret
      exact ⟨_, rfl, rfl⟩

set_option maxRecDepth 100000 in
set_option maxHeartbeats 1000000 in
theorem randRuns_long (seed : Int) (A : Option Addr) (n c : Nat) (w : World) (hl : 1000 < n) (hm : n ≤ 9223372036854775807) :
    Calls Tryd.prog 4 #[.int .u64 seed, .slice A n c] w fun e w' => e = .returned (.bool true) ∧ Below w.heap.size w w' := by
  have p0 : (1000 : Int) < (n : Int) := by omega
  go_enter Tryd.func4, Tryd.ntmps4
  go_wp2_with fail
  refine (awake_any _).mono ?_
  rintro e w5 ⟨rfl, B5⟩
  go_wp2
  go_ret
  exact ⟨rfl, B5⟩

theorem src_info : (Tryd.prog.info? 46).map (fun i => i.size) = some 1 := by kernel_rfl

/-- What holds between two calls of a script. -/
def RunInv (w wr : World) (s r e q : Nat) (x y : Int) : Prop :=
  Blk wr s 46 #[.int .u64 x] ∧ Blk wr r refT #[.int .u64 x] ∧ Blk wr e 46 #[.int .u64 y] ∧ Blk wr q refT #[.int .u64 y] ∧ ((e = s ∧ q = r) ∨ (e ≠ s ∧ q ≠ r)) ∧
  w.heap.size ≤ s ∧ w.heap.size ≤ r ∧ w.heap.size ≤ e ∧ w.heap.size ≤ q ∧ Below w.heap.size w wr

theorem RunInv.step {w wr w2 : World} {s r e q : Nat} {x y x' : Int} (h : RunInv w wr s r e q x y) (b : Blk w2 s 46 #[.int .u64 x']) (c : Blk w2 r refT #[.int .u64 x']) (T : Two wr w2 s r) : ∃ y', RunInv w w2 s r e q x' y' := by
  obtain ⟨h1, h2, h3, h4, h5, l1, l2, l3, l4, hB⟩ := h
  rcases h5 with ⟨rfl, rfl⟩ | ⟨n1, n2⟩
  · exact ⟨x', b, c, b, c, .inl ⟨rfl, rfl⟩, l1, l2, l3, l4, T.below hB l1 l2⟩
  · exact ⟨y, b, c, T.blk h3 n1 (src_ne h3 h2), T.blk h4 (fun e => src_ne h1 h4 e.symm) n2, .inr ⟨n1, n2⟩, l1, l2, l3, l4, T.below hB l1 l2⟩

set_option maxRecDepth 100000 in
set_option maxHeartbeats 4000000 in
theorem randRuns_ok (seed : Int) (A : Option Addr) (l : List (Int × Int)) (c : Nat) (w : World) (hA : Ops w A l) (hl : l.length ≤ 1000) (hT : Tab w) :
    Calls Tryd.prog 4 #[.int .u64 seed, .slice A l.length c] w fun e w' => e = .returned (.bool true) ∧ Below w.heap.size w w' := by
  have p0 : (l.length : Int) ≤ 1000 := by omega
  have hlT := hT.lt
  obtain ⟨ti, hti, htz⟩ := Option.map_eq_some_iff.1 src_info
  go_enter Tryd.func4, Tryd.ntmps4
  go_wp2_with fail
  refine (work_any A l c w hA hl).mono ?_
  rintro e w1 ⟨m, rfl, rfl⟩
  by_cases hm : 1048576 < m
  · go_wp2_with fail
    refine (awake_any _).mono ?_
    rintro e w5 ⟨rfl, B5⟩
    go_wp2
    go_ret
    exact ⟨rfl, B5⟩
  · go_wp2_with fail
    refine (new_src _ _).mono ?_
    rintro e w1 ⟨s, rfl, b1, l1, f1⟩
    have B1 := below_of_grown (Below.refl _ w) f1 (by simp)
    clear f1
    go_wp2_with fail
    go_loopw [5, 6, 7, 8, 9] (fun ps pr pe pq i wr => ∃ (k s r e q : Nat) (x y : Int), k ≤ l.length ∧ i = .int .i64 k ∧ ps = .pointer (some ⟨s, 0, none⟩) ∧ pr = .pointer (some ⟨r, 0, none⟩) ∧ pe = .pointer (some ⟨e, 0, none⟩) ∧ pq = .pointer (some ⟨q, 0, none⟩) ∧ RunInv w wr s r e q x y) (fun _ _ _ _ i _ => l.length - (intOf i).toNat)
    case atStart =>
      exact ⟨0, s, w1.heap.size, s, w1.heap.size, seed, seed, Nat.zero_le _, rfl, rfl, rfl, rfl, rfl, b1.alloc _, Blk.new w1 _ _, b1.alloc _, Blk.new w1 _ _, .inl ⟨rfl, rfl⟩, l1, B1.size, l1, B1.size, B1.alloc B1.size _⟩
    case round =>
      clear b1 B1 l1
      obtain ⟨k, s, r, e, q, x, y, hk, rfl, rfl, rfl, rfl, rfl, hI⟩ := hrel
      have hI' := hI
      obtain ⟨h1, h2, h3, h4, h5, l1, l2, l3, l4, hB⟩ := hI'
      by_cases hlt : k < l.length
      · obtain ⟨g, off, kd, n, rfl, c0, c1⟩ := (hA.below hB) k hlt
        have q0 : (0 : Int) ≤ (k : Int) := by omega
        have q1 : (k : Int) < (l.length : Int) := by omega
        by_cases hkd : kd = 4
        · have e4 : (kd == 4) = true := by simp [hkd]
          clear hkd
          clear h5 hI
          go_wp2_with fail
          refine (clone_src _ _ _ h1).mono ?_
          rintro e2 w2 ⟨s2, rfl, b2, m2, f2⟩
          have r2 := h2.grown f2 (by simp)
          have s3 := h1.grown f2 (by simp)
          have B2 := below_of_grown hB f2 (by simp)
          have z2 := hB.size
          have cr := r2.cell 0
          simp only [List.getElem?_toArray, List.getElem?_cons_zero] at cr
          have ls := h1.lt
          have lr := r2.lt
          clear h1 h2 h3 h4 f2 hB
          go_wp2
          exact ⟨⟨k + 1, s2, w2.heap.size, s, r, x, x, by omega, by go_num, rfl, rfl, rfl, rfl, b2.alloc _, Blk.new w2 _ _, s3.alloc _, r2.alloc _, .inr ⟨by omega, by omega⟩, by omega, B2.size, l1, l2, B2.alloc B2.size _⟩, by simp [intOf]; omega⟩
        · have e4 : (kd == 4) = false := by simp [hkd]
          clear hkd
          go_wp2_with fail
          refine (step_any s r kd n x _ h1 h2 (hT.below hB) (by omega)).mono ?_
          rintro e2 w2 ⟨rfl, b2, c2, T2⟩
          obtain ⟨y', hI2⟩ := hI.step b2 c2 T2
          clear h1 h2 h3 h4 h5 hB hI b2 c2 T2
          go_wp2
          exact ⟨⟨k + 1, s, r, e, q, _, y', by omega, by go_num, rfl, rfl, rfl, rfl, hI2⟩, by simp [intOf]; omega⟩
      · obtain rfl : k = l.length := by omega
        go_wp2_with fail
        refine (awake_any _).mono ?_
        rintro e2 w2 ⟨rfl, B2⟩
        have b2 := h1.below B2 h1.lt
        have r2 := h2.below B2 h2.lt
        have k2 := h3.below B2 h3.lt
        have q2 := h4.below B2 h4.lt
        have D2 : Below w.heap.size w w2 := hB.trans (B2.mono hB.size)
        clear h1 h2 h3 h4 hB B2 hI
        go_wp2_with fail
        refine (step_any s r 0 0 x _ b2 r2 (hT.below D2) (by omega)).mono ?_
        rintro e3 w3 ⟨rfl, b3, r3, T3⟩
        have D3 := T3.below D2 l1 l2
        rcases h5 with ⟨rfl, rfl⟩ | ⟨n1, n2⟩
        · have heq := run_eql_ptr_same (P := Tryd.prog) w3 ⟨e, 0, none⟩ Tryd.underlying23 hti
          clear hti htz
          go_wp2
          go_ret
          exact ⟨rfl, D3⟩
        · have k3 := T3.blk k2 n1 (src_ne k2 r2)
          have q3 := T3.blk q2 (fun e => src_ne b2 q2 e.symm) n2
          have heq := run_eql_ptr_other (P := Tryd.prog) w3 (a := ⟨e, 0, none⟩) (b := ⟨s, 0, none⟩) Tryd.underlying23 hti (by omega) (fun h => n1 (by injection h)) k3 b3
          clear hti htz b2 r2 k2 q2 T3 D2 b3 r3
          go_wp2_with fail
          refine (step_any e q 0 0 y _ k3 q3 (hT.below D3) (by omega)).mono ?_
          rintro e4 w4 ⟨rfl, _, _, T4⟩
          have D4 := T4.below D3 l3 l4
          clear T4 k3 q3 heq
          go_wp2
          go_ret
          exact ⟨rfl, D4⟩

theorem randRuns_any (seed : Int) (A : Option Addr) (l : List (Int × Int)) (c : Nat) (w : World) (hA : Ops w A l) (hl : l.length ≤ 9223372036854775807) (hT : Tab w) :
    Calls Tryd.prog 4 #[.int .u64 seed, .slice A l.length c] w fun e w' => e = .returned (.bool true) ∧ Below w.heap.size w w' := by
  by_cases h : l.length ≤ 1000
  · exact randRuns_ok seed A l c w hA h hT
  · exact randRuns_long seed A l.length c w (by omega) hl
end Go.Proofs.YtnmafimcojoeiaaDoor
