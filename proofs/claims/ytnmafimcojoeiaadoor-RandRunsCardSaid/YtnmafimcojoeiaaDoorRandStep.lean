/- The contract of the statements' step: a call on the program's source and on the document's tells the same. -/
import Derived.Test.YtnmafimcojoeiaaDoorRandPerm
import Derived.Test.YtnmafimcojoeiaaDoorRefSource
import Derived.Test.YtnmafimcojoeiaaDoorRefRand
namespace Go.Proofs.YtnmafimcojoeiaaDoor
open Go.RowKit

/-- Of what was there two blocks alone may have turned. -/
structure Two (w w' : World) (s r : Nat) : Prop where
  os : w'.os = w.os
  tape : w'.tape = w.tape
  output : w'.output = w.output
  size : w.heap.size ≤ w'.heap.size
  block : ∀ k, k < w.heap.size → k ≠ s → k ≠ r → w'.heap[k]? = w.heap[k]?
theorem Two.refl (w : World) (s r : Nat) : Two w w s r := ⟨rfl, rfl, rfl, Nat.le_refl _, fun _ _ _ _ => rfl⟩
theorem Two.grown {w w1 w2 : World} {s r : Nat} {row : Option Nat} (h : Two w w1 s r) (hg : w1.grownBy w2 row) (hr : ∀ k, row = some k → k = s ∨ k = r ∨ w.heap.size ≤ k) : Two w w2 s r :=
  ⟨hg.os.trans h.os, hg.tape.trans h.tape, hg.output.trans h.output, Nat.le_trans h.size hg.size, fun k hk hs hr' => (hg.block k (Nat.lt_of_lt_of_le hk h.size) (fun e => by have := hr k e.symm; omega)).trans (h.block k hk hs hr')⟩
theorem Two.alloc {w w1 : World} {s r : Nat} (h : Two w w1 s r) (o : Obj) : Two w (w1.alloc o) s r := h.grown (grown_alloc w1 o) (by simp)
theorem Two.drawn {w w1 w2 : World} {s r : Nat} (h : Two w w1 s r) (hd : Drawn w1 w2) : Two w w2 s r := h.grown (grown_drawn (grown_refl w1 none) hd) (by simp)
theorem Two.blk {w w' : World} {s r : Nat} (h : Two w w' s r) {g : Nat} {t : TypeId} {cs : Array Value} (hb : Blk w g t cs) (h1 : g ≠ s) (h2 : g ≠ r) : Blk w' g t cs := (h.block g hb.lt h1 h2).trans hb
theorem Two.below {w0 w w' : World} {s r : Nat} (h : Two w w' s r) (hB : Below w0.heap.size w0 w) (h1 : w0.heap.size ≤ s) (h2 : w0.heap.size ≤ r) : Below w0.heap.size w0 w' :=
  ⟨h.os.trans hB.os, h.tape.trans hB.tape, h.output.trans hB.output, Nat.le_trans hB.size h.size, fun k hk => (h.block k (Nat.lt_of_lt_of_le hk hB.size) (by omega) (by omega)).trans (hB.block k hk)⟩
theorem Tab.two {w w' : World} {s r : Nat} (h : Tab w) (hb : Two w w' s r) (h1 : s ≠ 0) (h2 : r ≠ 0) : Tab w' := fun j hj =>
  (World.cell?_of_block (hb.block _ h.lt (fun e => h1 e.symm) (fun e => h2 e.symm))).trans (h j hj)

/-- The state behind a call. -/
def stepState (k n x : Int) : Int :=
  if k = 1 then (if 1 ≤ n ∧ n ≤ 1000000000 then adv x else x)
  else if k = 2 then (if 0 ≤ n ∧ n ≤ 30 then adv x else x)
  else if k = 3 then (if 0 ≤ n ∧ n ≤ 65536 then (permOf x n.toNat).2 else x)
  else adv x

def StepPost (w : World) (s r : Nat) (k n x : Int) (e : Ending) (w' : World) : Prop :=
  e = .returned (.bool true) ∧ Blk w' s 46 #[.int .u64 (stepState k n x)] ∧ Blk w' r refT #[.int .u64 (stepState k n x)] ∧ Two w w' s r
theorem StepPost.mk_ {w w' : World} {s r : Nat} {k n x y : Int} (hs : stepState k n x = y) (h1 : Blk w' s 46 #[.int .u64 y]) (h2 : Blk w' r refT #[.int .u64 y]) (h3 : Two w w' s r) : StepPost w s r k n x (.returned (.bool true)) w' :=
  ⟨rfl, by rw [hs]; exact h1, by rw [hs]; exact h2, h3⟩

theorem src_ne {w : World} {s r : Nat} {x y : Int} (hs : Blk w s 46 #[.int .u64 x]) (hr : Blk w r refT #[.int .u64 y]) : s ≠ r := by
  rintro rfl
  have := hs.symm.trans hr
  simp [refT] at this

set_option maxRecDepth 100000 in
set_option maxHeartbeats 1000000 in
theorem step1_ok (s r : Nat) (n x : Int) (w : World) (hs : Blk w s 46 #[.int .u64 x]) (hr : Blk w r refT #[.int .u64 x]) (h1 : 1 ≤ n) (h2 : n ≤ 1000000000) :
    Calls Tryd.prog 13 #[.pointer (some ⟨s, 0, none⟩), .pointer (some ⟨r, 0, none⟩), .agg #[.int .i64 1, .int .i64 n]] w (StepPost w s r 1 n x) := by
  have hne := src_ne hs hr
  have ls := hs.lt
  have lr := hr.lt
  have hst : stepState 1 n x = adv x := by simp [stepState, h1, h2]
  have hst' := Lib.hid hst
  clear hst
  have b0 := hs.alloc (.cells #[.int .i64 1, .int .i64 n] 37)
  have c0 := hr.alloc (.cells #[.int .i64 1, .int .i64 n] 37)
  have o0 := Blk.new w 37 #[.int .i64 1, .int .i64 n]
  have T0 := (Two.refl w s r).alloc (.cells #[.int .i64 1, .int .i64 n] 37)
  go_enter Tryd.func13, Tryd.ntmps13
  go_wp2_with fail
  refine (below_src _ _ _ _ b0 h1 h2).mono ?_
  rintro e w1 ⟨rfl, b1, f1⟩
  have c1 := c0.grown f1 (by simp; omega)
  have o1 := (o0.grown f1 (by simp; omega)).cell 1
  have T1 := T0.grown f1 (by simp)
  simp only [List.getElem?_toArray, List.getElem?_cons_succ, List.getElem?_cons_zero] at o1
  clear b0 c0 o0 T0 f1
  go_wp2_with fail
  refine (refBelow_src _ _ _ _ c1 h1 h2).mono ?_
  rintro e w2 ⟨rfl, c2, f2⟩
  have b2 := b1.grown f2 (by simp; omega)
  have T2 := T1.grown f2 (by simp)
  clear b1 c1 o1 T1 f2
  go_wp2
  go_ret
  exact StepPost.mk_ hst'.out b2 c2 T2

set_option maxRecDepth 100000 in
set_option maxHeartbeats 1000000 in
theorem step1_bad (s r : Nat) (n x : Int) (w : World) (hs : Blk w s 46 #[.int .u64 x]) (hr : Blk w r refT #[.int .u64 x]) (h : n < 1 ∨ 1000000000 < n) :
    Calls Tryd.prog 13 #[.pointer (some ⟨s, 0, none⟩), .pointer (some ⟨r, 0, none⟩), .agg #[.int .i64 1, .int .i64 n]] w (StepPost w s r 1 n x) := by
  have hne := src_ne hs hr
  have ls := hs.lt
  have lr := hr.lt
  have hst : stepState 1 n x = x := by simp [stepState]; omega
  have hst' := Lib.hid hst
  clear hst
  have b0 := hs.alloc (.cells #[.int .i64 1, .int .i64 n] 37)
  have c0 := hr.alloc (.cells #[.int .i64 1, .int .i64 n] 37)
  have o0 := Blk.new w 37 #[.int .i64 1, .int .i64 n]
  have T0 := (Two.refl w s r).alloc (.cells #[.int .i64 1, .int .i64 n] 37)
  go_enter Tryd.func13, Tryd.ntmps13
  go_wp2_with fail
  refine (below_bad _ _ _ h).mono ?_
  rintro e w1 ⟨rfl, rfl⟩
  go_wp2_with fail
  refine (refBelow_bad _ _ _ h).mono ?_
  rintro e w2 ⟨rfl, rfl⟩
  go_wp2
  go_ret
  exact StepPost.mk_ hst'.out b0 c0 T0

set_option maxRecDepth 100000 in
set_option maxHeartbeats 1000000 in
theorem step2_ok (s r : Nat) (n x : Int) (w : World) (hs : Blk w s 46 #[.int .u64 x]) (hr : Blk w r refT #[.int .u64 x]) (hT : Tab w) (hsT : s ≠ 0) (h1 : 0 ≤ n) (h2 : n ≤ 30) :
    Calls Tryd.prog 13 #[.pointer (some ⟨s, 0, none⟩), .pointer (some ⟨r, 0, none⟩), .agg #[.int .i64 2, .int .i64 n]] w (StepPost w s r 2 n x) := by
  have hne := src_ne hs hr
  have ls := hs.lt
  have lr := hr.lt
  have hst : stepState 2 n x = adv x := by simp [stepState, h1, h2]
  have hst' := Lib.hid hst
  clear hst
  have b0 := hs.alloc (.cells #[.int .i64 2, .int .i64 n] 37)
  have c0 := hr.alloc (.cells #[.int .i64 2, .int .i64 n] 37)
  have o0 := Blk.new w 37 #[.int .i64 2, .int .i64 n]
  have T0 := (Two.refl w s r).alloc (.cells #[.int .i64 2, .int .i64 n] 37)
  go_enter Tryd.func13, Tryd.ntmps13
  go_wp2_with fail
  have hT0 : Tab (w.alloc (.cells #[.int .i64 2, .int .i64 n] 37)) := hT.grown (grown_alloc w _) (by simp)
  refine (level_src _ _ _ _ b0 hT0 hsT h1 h2).mono ?_
  rintro e w1 ⟨rfl, b1, f1⟩
  have c1 := c0.grown f1 (by simp; omega)
  have o1 := (o0.grown f1 (by simp; omega)).cell 1
  have T1 := T0.grown f1 (by simp)
  simp only [List.getElem?_toArray, List.getElem?_cons_succ, List.getElem?_cons_zero] at o1
  clear b0 c0 o0 T0 f1
  go_wp2_with fail
  refine (refLevel_src _ _ _ _ c1 h1 h2).mono ?_
  rintro e w2 ⟨rfl, c2, f2⟩
  have b2 := b1.grown f2 (by simp; omega)
  have T2 := T1.grown f2 (by simp)
  clear b1 c1 o1 T1 f2
  go_wp2
  go_ret
  exact StepPost.mk_ hst'.out b2 c2 T2

set_option maxRecDepth 100000 in
set_option maxHeartbeats 1000000 in
theorem step2_bad (s r : Nat) (n x : Int) (w : World) (hs : Blk w s 46 #[.int .u64 x]) (hr : Blk w r refT #[.int .u64 x]) (h : n < 0 ∨ 30 < n) :
    Calls Tryd.prog 13 #[.pointer (some ⟨s, 0, none⟩), .pointer (some ⟨r, 0, none⟩), .agg #[.int .i64 2, .int .i64 n]] w (StepPost w s r 2 n x) := by
  have hne := src_ne hs hr
  have ls := hs.lt
  have lr := hr.lt
  have hst : stepState 2 n x = x := by simp [stepState]; omega
  have hst' := Lib.hid hst
  clear hst
  have b0 := hs.alloc (.cells #[.int .i64 2, .int .i64 n] 37)
  have c0 := hr.alloc (.cells #[.int .i64 2, .int .i64 n] 37)
  have o0 := Blk.new w 37 #[.int .i64 2, .int .i64 n]
  have T0 := (Two.refl w s r).alloc (.cells #[.int .i64 2, .int .i64 n] 37)
  go_enter Tryd.func13, Tryd.ntmps13
  go_wp2_with fail
  refine (level_bad _ _ _ h).mono ?_
  rintro e w1 ⟨rfl, rfl⟩
  go_wp2_with fail
  refine (refLevel_bad _ _ _ h).mono ?_
  rintro e w2 ⟨rfl, rfl⟩
  go_wp2
  go_ret
  exact StepPost.mk_ hst'.out b0 c0 T0

set_option maxRecDepth 100000 in
set_option maxHeartbeats 1000000 in
theorem step0 (s r : Nat) (n x : Int) (w : World) (hs : Blk w s 46 #[.int .u64 x]) (hr : Blk w r refT #[.int .u64 x]) (k : Int) (k1 : k ≠ 1) (k2 : k ≠ 2) (k3 : k ≠ 3) :
    Calls Tryd.prog 13 #[.pointer (some ⟨s, 0, none⟩), .pointer (some ⟨r, 0, none⟩), .agg #[.int .i64 k, .int .i64 n]] w (StepPost w s r k n x) := by
  have hne := src_ne hs hr
  have ls := hs.lt
  have lr := hr.lt
  have hst : stepState k n x = adv x := by simp [stepState, k1, k2, k3]
  have hst' := Lib.hid hst
  clear hst
  have b0 := hs.alloc (.cells #[.int .i64 k, .int .i64 n] 37)
  have c0 := hr.alloc (.cells #[.int .i64 k, .int .i64 n] 37)
  have o0 := Blk.new w 37 #[.int .i64 k, .int .i64 n]
  have T0 := (Two.refl w s r).alloc (.cells #[.int .i64 k, .int .i64 n] 37)
  have e1 : (k == 1) = false := by simp [k1]
  have e2 : (k == 2) = false := by simp [k2]
  have e3 : (k == 3) = false := by simp [k3]
  clear k1 k2 k3
  go_enter Tryd.func13, Tryd.ntmps13
  go_wp2_with fail
  refine (next_src _ _ _ b0).mono ?_
  rintro e w1 ⟨rfl, b1, f1⟩
  have c1 := c0.grown f1 (by simp; omega)
  have T1 := T0.grown f1 (by simp)
  clear b0 c0 o0 T0 f1
  go_wp2_with fail
  refine (refNext_src _ _ _ c1).mono ?_
  rintro e w2 ⟨rfl, c2, f2⟩
  have b2 := b1.grown f2 (by simp; omega)
  have T2 := T1.grown f2 (by simp)
  clear b1 c1 T1 f2
  go_wp2
  go_ret
  exact StepPost.mk_ hst'.out b2 c2 T2


set_option maxRecDepth 100000 in
set_option maxHeartbeats 2000000 in
theorem step3_bad (s r : Nat) (n : Int) (x : Int) (w : World) (hs : Blk w s 46 #[.int .u64 x]) (hr : Blk w r refT #[.int .u64 x]) (h : n < 0 ∨ 65536 < n) :
    Calls Tryd.prog 13 #[.pointer (some ⟨s, 0, none⟩), .pointer (some ⟨r, 0, none⟩), .agg #[.int .i64 3, .int .i64 n]] w (StepPost w s r 3 n x) := by
  have hne := src_ne hs hr
  have ls := hs.lt
  have lr := hr.lt
  have hst : stepState 3 n x = x := by simp [stepState]; omega
  have hst' := Lib.hid hst
  clear hst
  have b0 := hs.alloc (.cells #[.int .i64 3, .int .i64 n] 37)
  have c0 := hr.alloc (.cells #[.int .i64 3, .int .i64 n] 37)
  have o0 := Blk.new w 37 #[.int .i64 3, .int .i64 n]
  have T0 := (Two.refl w s r).alloc (.cells #[.int .i64 3, .int .i64 n] 37)
  go_enter Tryd.func13, Tryd.ntmps13
  go_wp2_with fail
  refine (perm_bad _ _ _ h).mono ?_
  rintro e w1 ⟨rfl, rfl⟩
  go_wp2_with fail
  refine (refPerm_bad _ _ _ h).mono ?_
  rintro e w2 ⟨rfl, rfl⟩
  go_wp2_with fail
  refine (same_any none none [] [] 0 0 _ Row.nil_ Row.nil_ (by simp)).mono ?_
  rintro e w3 ⟨rfl, hD⟩
  have b3 := b0.drawn hD
  have c3 := c0.drawn hD
  have T3 := T0.drawn hD
  rw [decide_eq_true rfl]
  clear b0 c0 o0 T0 hD
  go_wp2_with fail
  go_loop [20] (fun i => i = .int .i64 0) (fun _ => 0)
  case atStart => rfl
  case round =>
    subst hrel
    go_wp2
    go_ret
    exact StepPost.mk_ hst'.out b3 c3 T3

set_option maxRecDepth 100000 in
set_option maxHeartbeats 2000000 in
theorem step3_ok (s r : Nat) (n : Nat) (x : Int) (w : World) (hs : Blk w s 46 #[.int .u64 x]) (hr : Blk w r refT #[.int .u64 x]) (h : n ≤ 65536) :
    Calls Tryd.prog 13 #[.pointer (some ⟨s, 0, none⟩), .pointer (some ⟨r, 0, none⟩), .agg #[.int .i64 3, .int .i64 n]] w (StepPost w s r 3 n x) := by
  have hne := src_ne hs hr
  have ls := hs.lt
  have lr := hr.lt
  have hst : stepState 3 n x = (permOf x n).2 := by simp [stepState]; omega
  have hst' := Lib.hid hst
  clear hst
  have b0 := hs.alloc (.cells #[.int .i64 3, .int .i64 n] 37)
  have c0 := hr.alloc (.cells #[.int .i64 3, .int .i64 n] 37)
  have o0 := Blk.new w 37 #[.int .i64 3, .int .i64 n]
  have T0 := (Two.refl w s r).alloc (.cells #[.int .i64 3, .int .i64 n] 37)
  go_enter Tryd.func13, Tryd.ntmps13
  go_wp2_with fail
  refine (perm_src _ _ _ _ b0 h).mono ?_
  rintro e w1 ⟨g, rfl, r1, b1, l1, f1⟩
  have c1 := c0.grown f1 (by simp; omega)
  have o1 := (o0.grown f1 (by simp; omega)).cell 1
  have T1 := T0.grown f1 (by simp)
  simp only [List.getElem?_toArray, List.getElem?_cons_succ, List.getElem?_cons_zero] at o1
  rw [World.size_alloc] at l1
  clear b0 c0 o0 T0 f1
  go_wp2_with fail
  refine (refPerm_src _ _ _ _ c1 h).mono ?_
  rintro e w2 ⟨A, c, rfl, R2, c2, f2⟩
  have b2 := b1.grown f2 (by simp; omega)
  have r2 := r1.grown f2 (by simp; omega)
  have T2 := T1.grown f2 (by simp)
  clear b1 c1 o1 r1 T1 f2
  have hlen := permOf_length x n
  generalize hL : (permOf x n).1 = L at *
  generalize hS : (permOf x n).2 = S at *
  clear hL hS
  have hsame := same_any (some ⟨g, 0, none⟩) A L L n c w2 (.of_blk r2) R2 (by omega)
  rw [hlen, decide_eq_true rfl] at hsame
  have hlen' := Lib.hid hlen
  clear hlen
  go_wp2_with fail
  refine hsame.mono ?_
  rintro e w3 ⟨rfl, hD⟩
  have b3 := b2.drawn hD
  have c3 := c2.drawn hD
  have r3 := r2.drawn hD
  have T3 := T2.drawn hD
  clear b2 c2 r2 T2 hD hsame R2
  have n1 : (n : Int) ≤ 65536 := by omega
  go_wp2_with fail
  go_loopw [20] (fun i wr => ∃ (k : Nat) (l : List Int), k ≤ n ∧ i = .int .i64 k ∧ l.length = n ∧ Blk wr g 3 (ints l) ∧ Blk wr s 46 #[.int .u64 S] ∧ Blk wr r refT #[.int .u64 S] ∧ Two w wr s r) (fun i _ => n - (intOf i).toNat)
  case atStart => exact ⟨0, L, Nat.zero_le _, rfl, hlen'.out, r3, b3, c3, T3⟩
  case round =>
    clear b3 c3 r3 T3
    obtain ⟨k, l, hk, rfl, hlen, r4, b4, c4, T4⟩ := hrel
    have hlenl := Lib.hid hlen
    clear hlen
    by_cases hlt : k < n
    · have p0 : (0 : Int) ≤ (k : Int) := by omega
      have p1 : (k : Int) < (n : Int) := by omega
      have q1 := r4.nth k (by have := hlenl.out; omega)
      have q2 := r4.frozen k
      have r5 := r4.setInt k (-7)
      go_wp2
      exact ⟨⟨k + 1, l.set k (-7), by omega, by go_num, by rw [List.length_set]; exact hlenl.out, r5, b4.far (by simp; omega) _, c4.far (by simp; omega) _, T4.grown (grown_set _ _ _) (by simp; omega)⟩, by simp [intOf]; omega⟩
    · obtain rfl : k = n := by omega
      go_wp2
      go_ret
      exact StepPost.mk_ hst'.out b4 c4 T4

theorem step_any (s r : Nat) (k n x : Int) (w : World) (hs : Blk w s 46 #[.int .u64 x]) (hr : Blk w r refT #[.int .u64 x]) (hT : Tab w) (hsT : s ≠ 0) :
    Calls Tryd.prog 13 #[.pointer (some ⟨s, 0, none⟩), .pointer (some ⟨r, 0, none⟩), .agg #[.int .i64 k, .int .i64 n]] w (StepPost w s r k n x) := by
  by_cases k1 : k = 1
  · subst k1
    by_cases h : n < 1 ∨ 1000000000 < n
    · exact step1_bad s r n x w hs hr h
    · exact step1_ok s r n x w hs hr (by omega) (by omega)
  · by_cases k2 : k = 2
    · subst k2
      by_cases h : n < 0 ∨ 30 < n
      · exact step2_bad s r n x w hs hr h
      · exact step2_ok s r n x w hs hr hT hsT (by omega) (by omega)
    · by_cases k3 : k = 3
      · subst k3
        by_cases h : n < 0 ∨ 65536 < n
        · exact step3_bad s r n x w hs hr h
        · obtain ⟨m, rfl⟩ := Int.eq_ofNat_of_zero_le (show 0 ≤ n by omega)
          exact step3_ok s r m x w hs hr (by omega)
      · exact step0 s r n x w hs hr k k1 k2 k3
end Go.Proofs.YtnmafimcojoeiaaDoor
