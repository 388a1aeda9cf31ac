/- The contracts of vec.plus, vec.far and vec.Dist: a distance is the sum of the squares. -/
import Derived.Test.YtoglemdooaiddaaWideMulk
import Derived.Test.YtoglemdooaiddaaKMem
import Derived.Deep.RegionHeld3
import Derived.Deep.LoopGhost
namespace Go.Proofs.Ytoglemdooaiddaa
open Go.RowKit
set_option linter.unusedVariables false

theorem below_chain {B : Nat} {a w w' : World} (h : Below B a w) (hb : Below w.heap.size w w') (hB : B ≤ w.heap.size) : Below B a w' := h.trans (hb.mono hB)
theorem below_alloc1 (w : World) (o : Obj) : Below w.heap.size w (w.alloc o) := (Below.refl _ _).alloc (Nat.le_refl _) _
/-- Below 2 to 128. -/
def Wd (n : Nat) : Prop := n < 340282366920938463463374607431768211456
/-- Below 2 to 64. -/
def Sm (n : Nat) : Prop := n < 18446744073709551616
def hiN (n : Nat) : Nat := n / 18446744073709551616
def loN (n : Nat) : Nat := n % 18446744073709551616
theorem add_c (a b : Nat) (h : Wd (a + b)) (w : World) : Calls Try.prog 41 #[.agg #[.int .u64 (hiN a : Int), .int .u64 (loN a : Int)], .agg #[.int .u64 (hiN b : Int), .int .u64 (loN b : Int)]] w fun e w' => e = .returned (.tuple #[.agg #[.int .u64 (hiN (a + b) : Int), .int .u64 (loN (a + b) : Int)], .int .i64 0]) ∧ Below w.heap.size w w' := by
  have h' : a + b < 340282366920938463463374607431768211456 := h
  have e := add_any a b (by omega) (by omega) w
  rw [sumN, sumE, if_pos h', if_pos h'] at e
  exact e
theorem mul_c (x y : Nat) (hx : Sm x) (hy : Sm y) (w : World) :
    Calls Try.prog 61 #[.int .u64 (x : Int), .int .u64 (y : Int)] w fun e w' => e = .returned (.agg #[.int .u64 (hiN (x * y) : Int), .int .u64 (loN (x * y) : Int)]) ∧ Below w.heap.size w w' := mul_any x y hx hy w
theorem wrap64_d (a b : Int) (ha : -2147483647 ≤ a ∧ a ≤ 2147483647) (hb : -2147483647 ≤ b ∧ b ≤ 2147483647) : IntKind.u64.wrap (wrap64 (max a b - min a b)) = ((a - b).natAbs : Int) := by
  have h : max a b - min a b = ((a - b).natAbs : Int) := by omega
  rw [h]
  generalize hd : (a - b).natAbs = d
  have : d ≤ 4294967294 := by omega
  clear h hd ha hb
  rw [show wrap64 (d : Int) = (d : Int) by simp only [wrap64]; omega, IntKind.wrap_u64]
  omega

def PlusS (w : World) (N : Nat) (w' : World) : Prop := Below w.heap.size w w' ∧ w'.cell? ⟨w.heap.size, 0, none⟩ = some (.int .u64 (hiN N : Int)) ∧ w'.cell? ⟨w.heap.size, 1, none⟩ = some (.int .u64 (loN N : Int)) ∧
  w'.cell? ⟨w.heap.size + 1, 0, none⟩ = some (.int .u64 0) ∧ w'.cell? ⟨w.heap.size + 1, 1, none⟩ = some (.int .u64 0) ∧
  w'.frozen? ⟨w.heap.size, 0, none⟩ = false ∧ w'.frozen? ⟨w.heap.size, 1, none⟩ = false ∧ w'.frozen? ⟨w.heap.size + 1, 0, none⟩ = false ∧ w'.frozen? ⟨w.heap.size + 1, 1, none⟩ = false ∧ w.heap.size + 1 < w'.heap.size
theorem PlusS.more {w w1 w2 : World} {N : Nat} (h : PlusS w N w1) (hb : Below w1.heap.size w1 w2) : PlusS w N w2 := by
  obtain ⟨h1, h2, h3, h4, h5, h6, h7, h8, h9, h10⟩ := h
  exact ⟨below_chain h1 hb h1.size, below_cell hb h2, below_cell hb h3, below_cell hb h4, below_cell hb h5, (below_frozen hb (by simp; omega)).trans h6, (below_frozen hb (by simp; omega)).trans h7, (below_frozen hb h10).trans h8, (below_frozen hb h10).trans h9, Nat.lt_of_lt_of_le h10 hb.size⟩
theorem PlusS.start (w : World) (N : Nat) : PlusS w N ((w.alloc (.cells #[.int .u64 (hiN N : Int), .int .u64 (loN N : Int)] 34)).alloc (.cells #[.int .u64 0, .int .u64 0] 34)).drew := by
  have b1 := (Blk.new w 34 #[.int .u64 (hiN N : Int), .int .u64 (loN N : Int)]).alloc (.cells #[.int .u64 0, .int .u64 0] 34)
  have b2 := Blk.new (w.alloc (.cells #[.int .u64 (hiN N : Int), .int .u64 (loN N : Int)] 34)) 34 #[.int .u64 0, .int .u64 0]
  rw [show (w.alloc (.cells #[.int .u64 (hiN N : Int), .int .u64 (loN N : Int)] 34)).heap.size = w.heap.size + 1 by simp] at b2
  exact ⟨((below_alloc1 _ _).alloc (by simp) _).drew, b1.cell 0, b1.cell 1, b2.cell 0, b2.cell 1, b1.frozen 0, b1.frozen 1, b2.frozen 0, b2.frozen 1, b2.lt⟩

/-- What a region's operations keep, the store too. -/
def PlusQ (w w' : World) : Prop := Below w.heap.size w w' ∧ Blk w' (w.heap.size + 1) 34 #[.int .u64 0, .int .u64 0]
theorem PlusS.q {w w1 : World} {N : Nat} (h : PlusS w N w1) (hb : Blk w1 (w.heap.size + 1) 34 #[.int .u64 0, .int .u64 0]) : PlusQ w w1 := ⟨h.1, hb⟩
theorem PlusQ.store {w w1 : World} (h : PlusQ w w1) (i : Nat) (v : Value) : PlusQ w (w1.setCell ⟨w.heap.size, i, none⟩ v) := ⟨h.1.setCell (p := ⟨w.heap.size, i, none⟩) (Nat.le_refl _) v, h.2.far (by simp) v⟩
theorem PlusQ.more {w w1 w2 : World} (h : PlusQ w w1) (hb : Below w1.heap.size w1 w2) : PlusQ w w2 := ⟨below_chain h.1 hb h.1.size, h.2.below hb h.2.lt⟩
theorem PlusQ.start (w : World) (x y : Value) : PlusQ w ((w.alloc (.cells #[x, y] 34)).alloc (.cells #[.int .u64 0, .int .u64 0] 34)).drew := by
  have b2 := Blk.new (w.alloc (.cells #[x, y] 34)) 34 #[.int .u64 0, .int .u64 0]
  rw [show (w.alloc (.cells #[x, y] 34)).heap.size = w.heap.size + 1 by simp] at b2
  exact ⟨((below_alloc1 _ _).alloc (by simp) _).drew, b2⟩
theorem pair_set {w : World} {g : Nat} {t : TypeId} {a b u v : Value} (h : Blk w g t #[a, b]) : Blk ((w.setCell ⟨g, 0, none⟩ u).setCell ⟨g, 1, none⟩ v) g t #[u, v] := (h.set_ 0 u).set_ 1 v

set_option maxRecDepth 100000 in
set_option maxHeartbeats 4000000 in
theorem plus_d (N d : Nat) (a b : Int) (hw : IntKind.u64.wrap (wrap64 (max a b - min a b)) = (d : Int)) (hs : Sm d) (hN : Wd (N + d * d)) (w : World) :
    Calls Try.prog 60 #[.agg #[.int .u64 (hiN N : Int), .int .u64 (loN N : Int)], .int .i64 a, .int .i64 b] w fun e w' => e = .returned (.agg #[.int .u64 (hiN (N + d * d) : Int), .int .u64 (loN (N + d * d) : Int)]) ∧ Below w.heap.size w w' := by
  have b0 := (Blk.new w 34 #[.int .u64 (hiN N : Int), .int .u64 (loN N : Int)]).alloc (.cells #[.int .u64 0, .int .u64 0] 34)
  have Q0 := PlusQ.start w (.int .u64 (hiN N : Int)) (.int .u64 (loN N : Int))
  replace hw := Lib.hid hw
  go_enter Try.func60, Try.ntmps60
  go_wp2_with fail
  rw [hw.out]
  generalize (w.alloc (.cells #[.int .u64 (hiN N : Int), .int .u64 (loN N : Int)] 34)).alloc (.cells #[.int .u64 0, .int .u64 0] 34) = w0 at *
  replace b0 := b0.drew
  have c1 : w0.drew.cell? ⟨w.heap.size, 0, none⟩ = some (.int .u64 (hiN N : Int)) := b0.cell 0
  have c2 : w0.drew.cell? ⟨w.heap.size, 1, none⟩ = some (.int .u64 (loN N : Int)) := b0.cell 1
  go_region_with
    (first
    | (go_at_call 61; (with_reducible refine (mul_c d d hs hs _).mono ?_); rintro e w1 ⟨rfl, hb⟩; have Q1 := Q0.more hb; have b1 := b0.below hb b0.lt; have c3 := b1.cell 0; have c4 := b1.cell 1; simp only [List.getElem?_toArray, List.getElem?_cons_zero, List.getElem?_cons_succ] at c3 c4)
    | (go_at_call 41; (with_reducible refine (add_c N (d * d) hN _).mono ?_); rintro e w2 ⟨rfl, hb2⟩; have Q2 := Q1.more hb2; have b2 := b1.below hb2 b1.lt; have c5 := b2.cell 0; have c6 := b2.cell 1; have f5 := b2.frozen 0; have f6 := b2.frozen 1; simp only [List.getElem?_toArray, List.getElem?_cons_zero, List.getElem?_cons_succ] at c5 c6))
  all_goals
    have R := (Q2.store 0 (.int .u64 (hiN (N + d * d) : Int))).store 1 (.int .u64 (loN (N + d * d) : Int))
    have bR := pair_set (u := .int .u64 (hiN (N + d * d) : Int)) (v := .int .u64 (loN (N + d * d) : Int)) b2
    generalize ((w2.setCell ⟨w.heap.size, 0, none⟩ _).setCell ⟨w.heap.size, 1, none⟩ _) = w3 at *
    have k0 : w3.cell? ⟨w.heap.size, 0, none⟩ = some (.int .u64 (hiN (N + d * d) : Int)) := bR.cell 0
    have k1 : w3.cell? ⟨w.heap.size, 1, none⟩ = some (.int .u64 (loN (N + d * d) : Int)) := bR.cell 1
    have k2 : w3.cell? ⟨w.heap.size + 1, 0, none⟩ = some (.int .u64 0) := R.2.cell 0
    have k3 : w3.cell? ⟨w.heap.size + 1, 1, none⟩ = some (.int .u64 0) := R.2.cell 1
    have z2 := R.2.frozen 0
    have z3 := R.2.frozen 1
    clear c1 c2 c3 c4 c5 c6 f5 f6
    go_wp2_with fail
    have B9 := (R.1.setCell (p := ⟨w.heap.size + 1, 0, none⟩) (by simp) (.int .u64 (hiN (N + d * d) : Int))).setCell (p := ⟨w.heap.size + 1, 1, none⟩) (by simp) (.int .u64 (loN (N + d * d) : Int))
    have b9 := pair_set (u := .int .u64 (hiN (N + d * d) : Int)) (v := .int .u64 (loN (N + d * d) : Int)) R.2
    generalize ((w3.setCell ⟨w.heap.size + 1, 0, none⟩ _).setCell ⟨w.heap.size + 1, 1, none⟩ _) = w9 at *
    have m0 : w9.cell? ⟨w.heap.size + 1, 0, none⟩ = some (.int .u64 (hiN (N + d * d) : Int)) := b9.cell 0
    have m1 : w9.cell? ⟨w.heap.size + 1, 1, none⟩ = some (.int .u64 (loN (N + d * d) : Int)) := b9.cell 1
    refine bodyPost_ret (v := .agg #[.int .u64 (hiN (N + d * d) : Int), .int .u64 (loN (N + d * d) : Int)]) (by simp [results, Try.results60, go_sem, m0, m1]) rfl ?_
    exact ⟨rfl, B9⟩

theorem plus_any (N : Nat) (a b : Int) (ha : -2147483647 ≤ a ∧ a ≤ 2147483647) (hb : -2147483647 ≤ b ∧ b ≤ 2147483647) (hN : Wd (N + sqN (a - b))) (w : World) :
    Calls Try.prog 60 #[.agg #[.int .u64 (hiN N : Int), .int .u64 (loN N : Int)], .int .i64 a, .int .i64 b] w fun e w' => e = .returned (.agg #[.int .u64 (hiN (N + sqN (a - b)) : Int), .int .u64 (loN (N + sqN (a - b)) : Int)]) ∧ Below w.heap.size w w' :=
  plus_d N (a - b).natAbs a b (wrap64_d a b ha hb) (by unfold Sm; omega) hN w
end Go.Proofs.Ytoglemdooaiddaa
