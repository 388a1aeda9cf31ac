/- Contracts of the library, laid out of the kit's shelf by its laying tools. The contracts of wide.Add and wide.Sub. The contracts of wide.Mul and wide.Cmp. The contracts of vec.plus, vec.far and vec.Dist: a distance is the sum of the squares. The contracts of vec.far and vec.Dist: a distance is the sum of the squares. The contract of vec.Dist where both vectors are as they should be. The contract of kmeans.near: the nearest centre, and how far it is. The contracts of kmeans.all, kmeans.may and kmeans.down. The contracts of kmeans.Near and kmeans.Cost. The contract of kmeans.Cost. Plain laws of the means: the nearest is the nearest; centres that are the vectors cost nothing; what is moved has centres that are moved. No program in sight. -/
import Derived.Shelf.Small.Bits
import Derived.Shelf.Strconv.Itoa0
import Derived.Shelf.Bits.Mul64
import Derived.Test.YtiamppbgpoffmaaProg
import Derived.Test.YtiamppbgpoffmaaQBase
import Derived.WalkKit
import Derived.Handy
import Derived.Shelf.Spec.BitsCarry
import Derived.Deep.QuietTactic
import Derived.BigQuiet
import Derived.Deep.RegionHeld3
import Derived.Deep.LoopGhost
namespace Go.Proofs
open Go.Shelf
def Try.lays264_ren : Go.Shelf.Ren := ⟨fun | 264 => 75 | n => n, fun | 53 => 23 | 46 => 111 | n => n, fun | n => n⟩
theorem Try.lays264 : Go.Proofs.Lays.n264 Try.prog Try.lays264_ren := {
  mixed := by kernel_rfl
  f264 := Try.func75.trans (congrArg some (by kernel_rfl))
  t46 := Try.underlying111
  a46 := Try.isAgg111
  z46 := Try.sizeOf111
  v46 := Try.zeroValue111
  t53 := Try.underlying23
  a53 := Try.isAgg23
  z53 := Try.sizeOf23
  v53 := Try.zeroValue23 }
open Go.RowKit Go.Lib in
theorem Try.bits_Mul64 (x y : Nat) (hx : x < 18446744073709551616) (hy : y < 18446744073709551616) (w : World) :
    Calls Try.prog 75 #[.int .u64 x, .int .u64 y] w fun e w' => e = .returned (.tuple #[.int .u64 ((x * y / 18446744073709551616 : Nat) : Int), .int .u64 ((x * y % 18446744073709551616 : Nat) : Int)]) ∧ w' = w := Any.bits_Mul64 Try.lays264 x y hx hy w
end Go.Proofs

namespace Go.Proofs.Ytiamppbgpoffmaa
open Go.RowKit
set_option linter.unusedVariables false

theorem add64_run (x y c : Nat) (hc : c ≤ 1) (w : World) :
    (callFunc 55 #[.int .u64 x, .int .u64 y, .int .u64 c]).run Try.prog w =
      .ok (.value (.tuple #[.int .u64 (((x + y + c) % 18446744073709551616 : Nat) : Int), .int .u64 (((x + y + c) / 18446744073709551616 : Nat) : Int)])) w := by
  rw [run_callFunc_extern Try.func55 (by kernel_rfl) (by kernel_rfl) (by kernel_rfl) (e := add64Entry) (by kernel_rfl), run_add64 x y c (by omega) (by omega) (by omega) (by omega)]
  simp only [Result.andThen]
  congr 5 <;> omega
/-- A Wide, of its halves. -/
def wv (h l : Nat) : Value := .agg #[.int .u64 (h : Int), .int .u64 (l : Int)]
def WidePost (w : World) (h l : Nat) (f : Int) (e : Ending) (w' : World) : Prop := e = .returned (.tuple #[wv h l, .int .i64 f]) ∧ Below w.heap.size w w'

set_option maxRecDepth 100000 in
theorem add_over (ah al bh bl : Nat) (h1 : ah < 18446744073709551616) (h2 : al < 18446744073709551616) (h3 : bh < 18446744073709551616) (h4 : bl < 18446744073709551616) (h : 18446744073709551616 ≤ ah + bh + (al + bl) / 18446744073709551616) (w : World) :
    Calls Try.prog 38 #[wv ah al, wv bh bl] w (WidePost w 0 0 10) := by
  have hc : (al + bl) / 18446744073709551616 ≤ 1 := by omega
  have e0 := add64_run al bl 0 (by omega)
  rw [Nat.add_zero] at e0
  generalize (al + bl) / 18446744073709551616 = c at *
  generalize (al + bl) % 18446744073709551616 = lo at *
  have e1 := add64_run ah bh c hc
  have hz : (ah + bh + c) / 18446744073709551616 = 1 := by omega
  rw [hz] at e1
  generalize (ah + bh + c) % 18446744073709551616 = hi at *
  simp only [Int.natCast_zero, Int.natCast_one] at e0 e1
  clear h1 h2 h3 h4 hc hz h
  unfold wv
  go_enter Try.func38, Try.ntmps38
  go_wp2
  go_returns
  exact ⟨rfl, (((Below.refl _ _).alloc (Nat.le_refl _) _).alloc (by simp) _).alloc (by simp; omega) _⟩

set_option maxRecDepth 100000 in
theorem add_fits (ah al bh bl : Nat) (h1 : ah < 18446744073709551616) (h2 : al < 18446744073709551616) (h3 : bh < 18446744073709551616) (h4 : bl < 18446744073709551616) (h : ah + bh + (al + bl) / 18446744073709551616 < 18446744073709551616) (w : World) :
    Calls Try.prog 38 #[wv ah al, wv bh bl] w (WidePost w (ah + bh + (al + bl) / 18446744073709551616) ((al + bl) % 18446744073709551616) 0) := by
  have hc : (al + bl) / 18446744073709551616 ≤ 1 := by omega
  have e0 := add64_run al bl 0 (by omega)
  rw [Nat.add_zero] at e0
  generalize (al + bl) / 18446744073709551616 = c at *
  generalize (al + bl) % 18446744073709551616 = lo at *
  have e1 := add64_run ah bh c hc
  have hz : (ah + bh + c) / 18446744073709551616 = 0 := by omega
  have hm : (ah + bh + c) % 18446744073709551616 = ah + bh + c := by omega
  rw [hz, hm] at e1
  generalize ah + bh + c = hi at *
  simp only [Int.natCast_zero] at e0 e1
  clear h1 h2 h3 h4 hc hz hm h
  unfold wv
  go_enter Try.func38, Try.ntmps38
  go_wp2
  go_returns
  exact ⟨rfl, (((Below.refl _ _).alloc (Nat.le_refl _) _).alloc (by simp) _).alloc (by simp; omega) _⟩

/-- A number as a Wide. -/
def num (n : Nat) : Value := wv (n / 18446744073709551616) (n % 18446744073709551616)
def sumN (a b : Nat) : Nat := if a + b < 340282366920938463463374607431768211456 then a + b else 0
def sumE (a b : Nat) : Int := if a + b < 340282366920938463463374607431768211456 then 0 else 10
def difN (a b : Nat) : Nat := if b ≤ a then a - b else 0
def difE (a b : Nat) : Int := if b ≤ a then 0 else 10
def NumPost (w : World) (n : Nat) (f : Int) (e : Ending) (w' : World) : Prop := e = .returned (.tuple #[num n, .int .i64 f]) ∧ Below w.heap.size w w'

theorem add_any (a b : Nat) (ha : a < 340282366920938463463374607431768211456) (hb : b < 340282366920938463463374607431768211456) (w : World) :
    Calls Try.prog 38 #[num a, num b] w (NumPost w (sumN a b) (sumE a b)) := by
  unfold num
  by_cases h : a + b < 340282366920938463463374607431768211456
  · rw [sumN, sumE, if_pos h, if_pos h]
    refine (add_fits _ _ _ _ (by omega) (by omega) (by omega) (by omega) (by omega) w).mono ?_
    rintro e w' ⟨rfl, hB⟩
    refine ⟨?_, hB⟩
    have e1 : a / 18446744073709551616 + b / 18446744073709551616 + (a % 18446744073709551616 + b % 18446744073709551616) / 18446744073709551616 = (a + b) / 18446744073709551616 := by omega
    have e2 : (a % 18446744073709551616 + b % 18446744073709551616) % 18446744073709551616 = (a + b) % 18446744073709551616 := by omega
    rw [e1, e2]
    rfl
  · rw [sumN, sumE, if_neg h, if_neg h]
    refine (add_over _ _ _ _ (by omega) (by omega) (by omega) (by omega) (by omega) w).mono ?_
    rintro e w' ⟨rfl, hB⟩
    exact ⟨rfl, hB⟩

end Go.Proofs.Ytiamppbgpoffmaa

namespace Go.Proofs.Ytiamppbgpoffmaa
open Go.RowKit
set_option linter.unusedVariables false

theorem mul_any (x y : Nat) (hx : x < 18446744073709551616) (hy : y < 18446744073709551616) (w : World) :
    Calls Try.prog 72 #[.int .u64 (x : Int), .int .u64 (y : Int)] w fun e w' => e = .returned (num (x * y)) ∧ Below w.heap.size w w' := by
  unfold num wv
  go_enter Try.func72, Try.ntmps72
  go_wp2_with (go_at_call 75; refine (Try.bits_Mul64 x y hx hy _).mono ?_; rintro e w' ⟨rfl, rfl⟩)
  go_returns
  exact ⟨rfl, (Below.refl _ _).alloc (Nat.le_refl _) _⟩

def cmpN (a b : Nat) : Int := if a = b then 0 else if a < b then -1 else 1
def CmpPost (w : World) (r : Int) (e : Ending) (w' : World) : Prop := e = .returned (.int .i64 r) ∧ Below w.heap.size w w'

set_option maxRecDepth 100000 in
theorem cmp_same (h l : Nat) (w : World) : Calls Try.prog 66 #[wv h l, wv h l] w (CmpPost w 0) := by
  unfold wv
  go_enter Try.func66, Try.ntmps66
  go_wp2
  go_ret
  exact ⟨rfl, (((Below.refl _ _).alloc (Nat.le_refl _) _).alloc (by simp) _)⟩
set_option maxRecDepth 100000 in
theorem cmp_hi (ah al bh bl : Nat) (h : ah < bh) (w : World) : Calls Try.prog 66 #[wv ah al, wv bh bl] w (CmpPost w (-1)) := by
  have f1 : ((ah : Int) == (bh : Int)) = false := by simp; omega
  have f2 : (ah : Int) < (bh : Int) := by omega
  unfold wv
  go_enter Try.func66, Try.ntmps66
  go_wp2
  go_ret
  exact ⟨rfl, (((Below.refl _ _).alloc (Nat.le_refl _) _).alloc (by simp) _)⟩
set_option maxRecDepth 100000 in
theorem cmp_hi2 (ah al bh bl : Nat) (h : bh < ah) (w : World) : Calls Try.prog 66 #[wv ah al, wv bh bl] w (CmpPost w 1) := by
  have f1 : ((ah : Int) == (bh : Int)) = false := by simp; omega
  have f2 : (bh : Int) ≤ (ah : Int) := by omega
  unfold wv
  go_enter Try.func66, Try.ntmps66
  go_wp2
  go_ret
  exact ⟨rfl, (((Below.refl _ _).alloc (Nat.le_refl _) _).alloc (by simp) _)⟩
set_option maxRecDepth 100000 in
theorem cmp_lo (h al bl : Nat) (hl : al < bl) (w : World) : Calls Try.prog 66 #[wv h al, wv h bl] w (CmpPost w (-1)) := by
  have f1 : ((al : Int) == (bl : Int)) = false := by simp; omega
  have f2 : (al : Int) < (bl : Int) := by omega
  unfold wv
  go_enter Try.func66, Try.ntmps66
  go_wp2
  go_ret
  exact ⟨rfl, (((Below.refl _ _).alloc (Nat.le_refl _) _).alloc (by simp) _)⟩
set_option maxRecDepth 100000 in
theorem cmp_lo2 (h al bl : Nat) (hl : bl < al) (w : World) : Calls Try.prog 66 #[wv h al, wv h bl] w (CmpPost w 1) := by
  have f1 : ((al : Int) == (bl : Int)) = false := by simp; omega
  have f2 : (bl : Int) ≤ (al : Int) := by omega
  unfold wv
  go_enter Try.func66, Try.ntmps66
  go_wp2
  go_ret
  exact ⟨rfl, (((Below.refl _ _).alloc (Nat.le_refl _) _).alloc (by simp) _)⟩
theorem cmp_any (a b : Nat) (w : World) : Calls Try.prog 66 #[num a, num b] w (CmpPost w (cmpN a b)) := by
  by_cases h : a = b
  · subst h
    rw [cmpN, if_pos rfl]
    exact cmp_same _ _ w
  · rw [cmpN, if_neg h]
    unfold num
    by_cases h1 : a / 18446744073709551616 < b / 18446744073709551616
    · rw [if_pos (by omega)]; exact cmp_hi _ _ _ _ h1 w
    · by_cases h2 : b / 18446744073709551616 < a / 18446744073709551616
      · rw [if_neg (by omega)]; exact cmp_hi2 _ _ _ _ h2 w
      · have e : a / 18446744073709551616 = b / 18446744073709551616 := by omega
        rw [e]
        by_cases h3 : a < b
        · rw [if_pos h3]; exact cmp_lo _ _ _ (by omega) w
        · rw [if_neg h3]; exact cmp_lo2 _ _ _ (by omega) w
end Go.Proofs.Ytiamppbgpoffmaa

namespace Go.Proofs.Ytiamppbgpoffmaa
open Go.RowKit
set_option linter.unusedVariables false

theorem below_chain {B : Nat} {a w w' : World} (h : Below B a w) (hb : Below w.heap.size w w') (hB : B ≤ w.heap.size) : Below B a w' := h.trans (hb.mono hB)
theorem below_alloc1 (w : World) (o : Obj) : Below w.heap.size w (w.alloc o) := (Below.refl _ _).alloc (Nat.le_refl _) _
/-- Below 2 to 128. -/
def Wd (n : Nat) : Prop := n < 340282366920938463463374607431768211456
/-- Below 2 to 64. -/
def Sm (n : Nat) : Prop := n < 18446744073709551616
def hiN (n : Nat) : Nat := n / 18446744073709551616
def loN (n : Nat) : Nat := n % 18446744073709551616
theorem add_c (a b : Nat) (h : Wd (a + b)) (w : World) : Calls Try.prog 38 #[.agg #[.int .u64 (hiN a : Int), .int .u64 (loN a : Int)], .agg #[.int .u64 (hiN b : Int), .int .u64 (loN b : Int)]] w fun e w' => e = .returned (.tuple #[.agg #[.int .u64 (hiN (a + b) : Int), .int .u64 (loN (a + b) : Int)], .int .i64 0]) ∧ Below w.heap.size w w' := by
  have h' : a + b < 340282366920938463463374607431768211456 := h
  have e := add_any a b (by omega) (by omega) w
  rw [sumN, sumE, if_pos h', if_pos h'] at e
  exact e
theorem mul_c (x y : Nat) (hx : Sm x) (hy : Sm y) (w : World) :
    Calls Try.prog 72 #[.int .u64 (x : Int), .int .u64 (y : Int)] w fun e w' => e = .returned (.agg #[.int .u64 (hiN (x * y) : Int), .int .u64 (loN (x * y) : Int)]) ∧ Below w.heap.size w w' := mul_any x y hx hy w
theorem wrap64_d (a b : Int) (ha : -2147483647 ≤ a ∧ a ≤ 2147483647) (hb : -2147483647 ≤ b ∧ b ≤ 2147483647) : IntKind.u64.wrap (wrap64 (max a b - min a b)) = ((a - b).natAbs : Int) := by
  have h : max a b - min a b = ((a - b).natAbs : Int) := by omega
  rw [h]
  generalize hd : (a - b).natAbs = d
  have : d ≤ 4294967294 := by omega
  clear h hd ha hb
  rw [show wrap64 (d : Int) = (d : Int) by simp only [wrap64]; omega, IntKind.wrap_u64]
  omega

def PlusS (w : World) (N : Nat) (w' : World) : Prop := Below w.heap.size w w' ∧ w'.cell? ⟨w.heap.size, 0, none⟩ = some (.int .u64 (hiN N : Int)) ∧ w'.cell? ⟨w.heap.size, 1, none⟩ = some (.int .u64 (loN N : Int)) ∧
  w'.cell? ⟨w.heap.size + 1, 0, none⟩ = some (.int .u64 0) ∧ w'.cell? ⟨w.heap.size + 1, 1, none⟩ = some (.int .u64 0) ∧
  w'.frozen? ⟨w.heap.size, 0, none⟩ = false ∧ w'.frozen? ⟨w.heap.size, 1, none⟩ = false ∧ w'.frozen? ⟨w.heap.size + 1, 0, none⟩ = false ∧ w'.frozen? ⟨w.heap.size + 1, 1, none⟩ = false ∧ w.heap.size + 1 < w'.heap.size
theorem PlusS.more {w w1 w2 : World} {N : Nat} (h : PlusS w N w1) (hb : Below w1.heap.size w1 w2) : PlusS w N w2 := by
  obtain ⟨h1, h2, h3, h4, h5, h6, h7, h8, h9, h10⟩ := h
  exact ⟨below_chain h1 hb h1.size, below_cell hb h2, below_cell hb h3, below_cell hb h4, below_cell hb h5, (below_frozen hb (by simp; omega)).trans h6, (below_frozen hb (by simp; omega)).trans h7, (below_frozen hb h10).trans h8, (below_frozen hb h10).trans h9, Nat.lt_of_lt_of_le h10 hb.size⟩
theorem PlusS.start (w : World) (N : Nat) : PlusS w N ((w.alloc (.cells #[.int .u64 (hiN N : Int), .int .u64 (loN N : Int)] 44)).alloc (.cells #[.int .u64 0, .int .u64 0] 44)).drew := by
  have b1 := (Blk.new w 44 #[.int .u64 (hiN N : Int), .int .u64 (loN N : Int)]).alloc (.cells #[.int .u64 0, .int .u64 0] 44)
  have b2 := Blk.new (w.alloc (.cells #[.int .u64 (hiN N : Int), .int .u64 (loN N : Int)] 44)) 44 #[.int .u64 0, .int .u64 0]
  rw [show (w.alloc (.cells #[.int .u64 (hiN N : Int), .int .u64 (loN N : Int)] 44)).heap.size = w.heap.size + 1 by simp] at b2
  exact ⟨((below_alloc1 _ _).alloc (by simp) _).drew, b1.cell 0, b1.cell 1, b2.cell 0, b2.cell 1, b1.frozen 0, b1.frozen 1, b2.frozen 0, b2.frozen 1, b2.lt⟩

/-- What a region's operations keep, the store too. -/
def PlusQ (w w' : World) : Prop := Below w.heap.size w w' ∧ Blk w' (w.heap.size + 1) 44 #[.int .u64 0, .int .u64 0]
theorem PlusS.q {w w1 : World} {N : Nat} (h : PlusS w N w1) (hb : Blk w1 (w.heap.size + 1) 44 #[.int .u64 0, .int .u64 0]) : PlusQ w w1 := ⟨h.1, hb⟩
theorem PlusQ.store {w w1 : World} (h : PlusQ w w1) (i : Nat) (v : Value) : PlusQ w (w1.setCell ⟨w.heap.size, i, none⟩ v) := ⟨h.1.setCell (p := ⟨w.heap.size, i, none⟩) (Nat.le_refl _) v, h.2.far (by simp) v⟩
theorem PlusQ.more {w w1 w2 : World} (h : PlusQ w w1) (hb : Below w1.heap.size w1 w2) : PlusQ w w2 := ⟨below_chain h.1 hb h.1.size, h.2.below hb h.2.lt⟩
theorem PlusQ.start (w : World) (x y : Value) : PlusQ w ((w.alloc (.cells #[x, y] 44)).alloc (.cells #[.int .u64 0, .int .u64 0] 44)).drew := by
  have b2 := Blk.new (w.alloc (.cells #[x, y] 44)) 44 #[.int .u64 0, .int .u64 0]
  rw [show (w.alloc (.cells #[x, y] 44)).heap.size = w.heap.size + 1 by simp] at b2
  exact ⟨((below_alloc1 _ _).alloc (by simp) _).drew, b2⟩
theorem pair_set {w : World} {g : Nat} {t : TypeId} {a b u v : Value} (h : Blk w g t #[a, b]) : Blk ((w.setCell ⟨g, 0, none⟩ u).setCell ⟨g, 1, none⟩ v) g t #[u, v] := (h.set_ 0 u).set_ 1 v

set_option maxRecDepth 100000 in
set_option maxHeartbeats 4000000 in
theorem plus_d (N d : Nat) (a b : Int) (hw : IntKind.u64.wrap (wrap64 (max a b - min a b)) = (d : Int)) (hs : Sm d) (hN : Wd (N + d * d)) (w : World) :
    Calls Try.prog 67 #[.agg #[.int .u64 (hiN N : Int), .int .u64 (loN N : Int)], .int .i64 a, .int .i64 b] w fun e w' => e = .returned (.agg #[.int .u64 (hiN (N + d * d) : Int), .int .u64 (loN (N + d * d) : Int)]) ∧ Below w.heap.size w w' := by
  have b0 := (Blk.new w 44 #[.int .u64 (hiN N : Int), .int .u64 (loN N : Int)]).alloc (.cells #[.int .u64 0, .int .u64 0] 44)
  have Q0 := PlusQ.start w (.int .u64 (hiN N : Int)) (.int .u64 (loN N : Int))
  replace hw := Lib.hid hw
  go_enter Try.func67, Try.ntmps67
  go_wp2_with fail
  rw [hw.out]
  generalize (w.alloc (.cells #[.int .u64 (hiN N : Int), .int .u64 (loN N : Int)] 44)).alloc (.cells #[.int .u64 0, .int .u64 0] 44) = w0 at *
  replace b0 := b0.drew
  have c1 : w0.drew.cell? ⟨w.heap.size, 0, none⟩ = some (.int .u64 (hiN N : Int)) := b0.cell 0
  have c2 : w0.drew.cell? ⟨w.heap.size, 1, none⟩ = some (.int .u64 (loN N : Int)) := b0.cell 1
  go_region_with
    (first
    | (go_at_call 72; (with_reducible refine (mul_c d d hs hs _).mono ?_); rintro e w1 ⟨rfl, hb⟩; have Q1 := Q0.more hb; have b1 := b0.below hb b0.lt; have c3 := b1.cell 0; have c4 := b1.cell 1; simp only [List.getElem?_toArray, List.getElem?_cons_zero, List.getElem?_cons_succ] at c3 c4)
    | (go_at_call 38; (with_reducible refine (add_c N (d * d) hN _).mono ?_); rintro e w2 ⟨rfl, hb2⟩; have Q2 := Q1.more hb2; have b2 := b1.below hb2 b1.lt; have c5 := b2.cell 0; have c6 := b2.cell 1; have f5 := b2.frozen 0; have f6 := b2.frozen 1; simp only [List.getElem?_toArray, List.getElem?_cons_zero, List.getElem?_cons_succ] at c5 c6))
  all_goals
    have R := (Q2.store 0 (.int .u64 (hiN (N + d * d) : Int))).store 1 (.int .u64 (loN (N + d * d) : Int))
    have bR := pair_set (u := .int .u64 (hiN (N + d * d) : Int)) (v := .int .u64 (loN (N + d * d) : Int)) b2
    generalize ((w2.setCell ⟨w.heap.size, 0, none⟩ _).setCell ⟨w.heap.size, 1, none⟩ _) = w3 at *
    have k0 : w3.cell? ⟨w.heap.size, 0, none⟩ = some (.int .u64 (hiN (N + d * d) : Int)) := bR.cell 0
    have k1 : w3.cell? ⟨w.heap.size, 1, none⟩ = some (.int .u64 (loN (N + d * d) : Int)) := bR.cell 1
    have k2 : w3.cell? ⟨w.heap.size + 1, 0, none⟩ = some (.int .u64 0) := R.2.cell 0
    have k3 : w3.cell? ⟨w.heap.size + 1, 1, none⟩ = some (.int .u64 0) := R.2.cell 1
    have z2 := R.2.frozen 0
    have z3 := R.2.frozen 1
    clear c1 c2 c3 c4 c5 c6 f5 f6
    go_wp2_with fail
    have B9 := (R.1.setCell (p := ⟨w.heap.size + 1, 0, none⟩) (by simp) (.int .u64 (hiN (N + d * d) : Int))).setCell (p := ⟨w.heap.size + 1, 1, none⟩) (by simp) (.int .u64 (loN (N + d * d) : Int))
    have b9 := pair_set (u := .int .u64 (hiN (N + d * d) : Int)) (v := .int .u64 (loN (N + d * d) : Int)) R.2
    generalize ((w3.setCell ⟨w.heap.size + 1, 0, none⟩ _).setCell ⟨w.heap.size + 1, 1, none⟩ _) = w9 at *
    have m0 : w9.cell? ⟨w.heap.size + 1, 0, none⟩ = some (.int .u64 (hiN (N + d * d) : Int)) := b9.cell 0
    have m1 : w9.cell? ⟨w.heap.size + 1, 1, none⟩ = some (.int .u64 (loN (N + d * d) : Int)) := b9.cell 1
    refine bodyPost_ret (v := .agg #[.int .u64 (hiN (N + d * d) : Int), .int .u64 (loN (N + d * d) : Int)]) (by simp [results, Try.results67, go_sem, m0, m1]) rfl ?_
    exact ⟨rfl, B9⟩

theorem plus_any (N : Nat) (a b : Int) (ha : -2147483647 ≤ a ∧ a ≤ 2147483647) (hb : -2147483647 ≤ b ∧ b ≤ 2147483647) (hN : Wd (N + sqN (a - b))) (w : World) :
    Calls Try.prog 67 #[.agg #[.int .u64 (hiN N : Int), .int .u64 (loN N : Int)], .int .i64 a, .int .i64 b] w fun e w' => e = .returned (.agg #[.int .u64 (hiN (N + sqN (a - b)) : Int), .int .u64 (loN (N + sqN (a - b)) : Int)]) ∧ Below w.heap.size w w' :=
  plus_d N (a - b).natAbs a b (wrap64_d a b ha hb) (by unfold Sm; omega) hN w
end Go.Proofs.Ytiamppbgpoffmaa

namespace Go.Proofs.Ytiamppbgpoffmaa
open Go.RowKit
set_option linter.unusedVariables false

/-- A Wide's two cells. -/
def wc (n : Nat) : Array Value := #[.int .u64 (hiN n : Int), .int .u64 (loN n : Int)]
theorem wc0 : wc 0 = #[.int .u64 0, .int .u64 0] := rfl
/-- What stands behind far's first steps: the result, the sum. -/
def FarS (w : World) (N : Nat) (w' : World) : Prop := Below w.heap.size w w' ∧ Blk w' w.heap.size 44 #[.int .u64 0, .int .u64 0] ∧ Blk w' (w.heap.size + 1) 44 (wc N)
theorem FarS.more {w w1 w2 : World} {N : Nat} (h : FarS w N w1) (hb : Below w1.heap.size w1 w2) : FarS w N w2 := ⟨below_chain h.1 hb h.1.size, h.2.1.below hb h.2.1.lt, h.2.2.below hb h.2.2.lt⟩
theorem FarS.drew {w w1 : World} {N : Nat} (h : FarS w N w1) : FarS w N w1.drew := ⟨h.1.drew, h.2.1, h.2.2⟩
theorem FarS.start (w : World) : FarS w 0 ((w.alloc (.cells #[.int .u64 0, .int .u64 0] 44)).alloc (.cells #[.int .u64 0, .int .u64 0] 44)) := by
  have b1 := (Blk.new w 44 #[.int .u64 0, .int .u64 0]).alloc (.cells #[.int .u64 0, .int .u64 0] 44)
  have b2 := Blk.new (w.alloc (.cells #[.int .u64 0, .int .u64 0] 44)) 44 #[.int .u64 0, .int .u64 0]
  rw [show (w.alloc (.cells #[.int .u64 0, .int .u64 0] 44)).heap.size = w.heap.size + 1 by simp] at b2
  exact ⟨(below_alloc1 _ _).alloc (by simp) _, b1, b2⟩
theorem FarS.put {w w1 : World} {N : Nat} (h : FarS w N w1) (M : Nat) : FarS w M ((w1.setCell ⟨w.heap.size + 1, 0, none⟩ (.int .u64 (hiN M : Int))).setCell ⟨w.heap.size + 1, 1, none⟩ (.int .u64 (loN M : Int))) :=
  ⟨(h.1.setCell (p := ⟨w.heap.size + 1, 0, none⟩) (by simp) _).setCell (p := ⟨w.heap.size + 1, 1, none⟩) (by simp) _, (h.2.1.far (by simp) _).far (by simp) _, pair_set h.2.2⟩
theorem FarS.sum {w w' : World} {N : Nat} (h : FarS w N w') : w'.cell? ⟨w.heap.size + 1, 0, none⟩ = some (.int .u64 (hiN N : Int)) ∧ w'.cell? ⟨w.heap.size + 1, 1, none⟩ = some (.int .u64 (loN N : Int)) ∧ w'.frozen? ⟨w.heap.size + 1, 0, none⟩ = false ∧ w'.frozen? ⟨w.heap.size + 1, 1, none⟩ = false :=
  ⟨h.2.2.cell 0, h.2.2.cell 1, h.2.2.frozen 0, h.2.2.frozen 1⟩
theorem farTo_wd {a b : List Int} {k : Nat} (hk : k ≤ 64) (ha : CoordTo a k) (hb : CoordTo b k) : Wd (farTo a b k) := by
  have := farTo_le k ha hb
  unfold Wd
  omega

set_option maxRecDepth 100000 in
set_option maxHeartbeats 4000000 in
theorem far_any (A B : Option Addr) (a b : List Int) (c d : Nat) (hl : b.length = a.length) (hca : CoordTo a a.length) (hcb : CoordTo b a.length) (h64 : a.length ≤ 64) (w : World) (hA : Row w A a) (hB : Row w B b) :
    Calls Try.prog 52 #[.slice A a.length c, .slice B b.length d] w fun e w' => e = .returned (.agg #[.int .u64 (hiN (farN a b) : Int), .int .u64 (loN (farN a b) : Int)]) ∧ Below w.heap.size w w' := by
  have S0 := FarS.start w
  replace hca := Lib.hid hca
  replace hcb := Lib.hid hcb
  rw [hl]
  go_enter Try.func52, Try.ntmps52
  go_wp2_with fail
  generalize (w.alloc (.cells #[.int .u64 0, .int .u64 0] 44)).alloc (.cells #[.int .u64 0, .int .u64 0] 44) = w0 at *
  go_loopw [9] (fun i wr => ∃ k : Nat, k ≤ a.length ∧ i = .int .i64 (k : Int) ∧ FarS w (farTo a b k) wr) (fun i _ => a.length - (intOf i).toNat)
  case atStart => exact ⟨0, Nat.zero_le _, rfl, S0⟩
  case round =>
    obtain ⟨k, hk, rfl, hS⟩ := hrel
    clear S0
    by_cases hlt : k < a.length
    · obtain ⟨g1, o1, rfl, hc1⟩ := hA k hlt
      obtain ⟨g2, o2, rfl, hc2⟩ := hB k (by omega)
      have p0 : (0 : Int) ≤ (k : Int) := by omega
      have p1 : (k : Int) < (a.length : Int) := by omega
      have d1 : (World.drew wr).cell? ⟨g1, o1 + k, none⟩ = some (.int .i64 (nth a k)) := below_cell hS.1 hc1
      have d2 : (World.drew wr).cell? ⟨g2, o2 + k, none⟩ = some (.int .i64 (nth b k)) := below_cell hS.1 hc2
      replace hS := hS.drew
      obtain ⟨c1, c2, f1, f2⟩ := hS.sum
      have hW : Hid (Wd (farTo a b k + sqN (nth a k - nth b k))) := Lib.hid (farTo_wd (k := k + 1) (by omega) (fun j hj => hca.out j (by omega)) (fun j hj => hcb.out j (by omega)))
      have hP := Lib.hid (plus_any (farTo a b k) (nth a k) (nth b k) (hca.out k hlt) (hcb.out k hlt) hW.out)
      go_wp2_with fail
      go_region_with
        (first
        | (go_at_call 67; (with_reducible refine (hP.out _).mono ?_); rintro e w2 ⟨rfl, hb2⟩; have S2 := hS.more hb2; obtain ⟨c3, c4, f3, f4⟩ := S2.sum))
      all_goals
        have S3 := S2.put (farTo a b k + sqN (nth a k - nth b k))
        generalize ((w2.setCell ⟨w.heap.size + 1, 0, none⟩ _).setCell ⟨w.heap.size + 1, 1, none⟩ _) = w3 at *
        clear c1 c2 c3 c4 f1 f2 f3 f4 d1 d2
        go_wp2_with fail
        exact ⟨⟨k + 1, by omega, by go_num, S3⟩, by simp [intOf]; omega⟩
    · obtain rfl : k = a.length := by omega
      obtain ⟨c1, c2, f1, f2⟩ := hS.sum
      have z0 := hS.2.1.cell 0
      have z1 := hS.2.1.cell 1
      simp only [List.getElem?_toArray, List.getElem?_cons_zero, List.getElem?_cons_succ] at z0 z1
      have z2 := hS.2.1.frozen 0
      have z3 := hS.2.1.frozen 1
      go_wp2_with fail
      have B9 := (hS.1.setCell (p := ⟨w.heap.size, 0, none⟩) (by simp) (.int .u64 (hiN (farTo a b a.length) : Int))).setCell (p := ⟨w.heap.size, 1, none⟩) (by simp) (.int .u64 (loN (farTo a b a.length) : Int))
      have b9 := pair_set (u := .int .u64 (hiN (farTo a b a.length) : Int)) (v := .int .u64 (loN (farTo a b a.length) : Int)) hS.2.1
      generalize ((wr.setCell ⟨w.heap.size, 0, none⟩ _).setCell ⟨w.heap.size, 1, none⟩ _) = w9 at *
      have m0 : w9.cell? ⟨w.heap.size, 0, none⟩ = some (.int .u64 (hiN (farTo a b a.length) : Int)) := b9.cell 0
      have m1 : w9.cell? ⟨w.heap.size, 1, none⟩ = some (.int .u64 (loN (farTo a b a.length) : Int)) := b9.cell 1
      refine bodyPost_ret (v := .agg #[.int .u64 (hiN (farTo a b a.length) : Int), .int .u64 (loN (farTo a b a.length) : Int)]) (by simp [results, Try.results52, go_sem, m0, m1]) rfl ?_
      exact ⟨rfl, B9⟩
end Go.Proofs.Ytiamppbgpoffmaa

namespace Go.Proofs.Ytiamppbgpoffmaa
open Go.RowKit
set_option linter.unusedVariables false


set_option maxRecDepth 100000 in
set_option maxHeartbeats 4000000 in
theorem dist_ok (A B : Option Addr) (a b : List Int) (c d : Nat) (ea : vecE a a.length = 0) (eb : vecE b a.length = 0) (w : World) (hA : Row w A a) (hB : Row w B b) :
    Calls Try.prog 36 #[.slice A a.length c, .slice B b.length d] w fun e w' => e = .returned (.tuple #[.agg #[.int .u64 (hiN (farN a b) : Int), .int .u64 (loN (farN a b) : Int)], .int .i64 0]) ∧ Below w.heap.size w w' := by
  obtain ⟨l1, l2, _, l4⟩ := vecE_ok ea
  obtain ⟨_, _, l3, l5⟩ := vecE_ok eb
  have hl : b.length = a.length := by omega
  rw [hl] at l5
  have h64 : a.length ≤ 64 := by omega
  have hF := Lib.hid (far_any A B a b c d hl l4 l5 h64)
  clear l1 l2 l3 l4 l5
  have b0 := (Blk.new w 44 #[.int .u64 0, .int .u64 0]).alloc (.cells #[.slice A a.length c, .slice B b.length d] 26)
  have b1 := Blk.new (w.alloc (.cells #[.int .u64 0, .int .u64 0] 44)) 26 #[.slice A a.length c, .slice B b.length d]
  rw [show (w.alloc (.cells #[.int .u64 0, .int .u64 0] 44)).heap.size = w.heap.size + 1 by simp] at b1
  have B1 : Below w.heap.size w ((w.alloc (.cells #[.int .u64 0, .int .u64 0] 44)).alloc (.cells #[.slice A a.length c, .slice B b.length d] 26)) := (below_alloc1 _ _).alloc (by simp) _
  rw [hl] at hF b0 b1 B1 ⊢
  go_enter Try.func36, Try.ntmps36
  go_wp2_with fail
  generalize (w.alloc (.cells #[.int .u64 0, .int .u64 0] 44)).alloc (.cells #[.slice A a.length c, .slice B a.length d] 26) = w0 at *
  go_loopw [13] (fun i wr => ∃ k : Nat, k ≤ 2 ∧ i = .int .i64 (k : Int) ∧ Below w.heap.size w wr ∧ Blk wr w.heap.size 44 #[.int .u64 0, .int .u64 0] ∧ Blk wr (w.heap.size + 1) 26 #[.slice A a.length c, .slice B a.length d]) (fun i _ => 2 - (intOf i).toNat)
  case atStart => exact ⟨0, by omega, rfl, B1, b0, b1⟩
  case round =>
    obtain ⟨k, hk, rfl, hB1, hb0, hb1⟩ := hrel
    clear B1 b0 b1
    have c0 := hb1.cell 0
    have c1 := hb1.cell 1
    simp only [List.getElem?_toArray, List.getElem?_cons_zero, List.getElem?_cons_succ] at c0 c1
    obtain rfl | rfl | rfl : k = 0 ∨ k = 1 ∨ k = 2 := by omega
    · have hCA := Lib.hid (vec_any A a c a.length wr (hA.below hB1))
      go_wp2_with (go_at_call 31; refine hCA.out.mono ?_; rintro e w' ⟨rfl, rfl⟩; rw [ea])
      exact ⟨⟨1, by omega, by rfl, hB1, hb0, hb1⟩, by simp [intOf]⟩
    · have hCB := Lib.hid (vec_any B b d a.length wr (hB.below hB1))
      rw [hl] at hCB
      go_wp2_with (go_at_call 31; refine hCB.out.mono ?_; rintro e w' ⟨rfl, rfl⟩; rw [eb])
      exact ⟨⟨2, by omega, by rfl, hB1, hb0, hb1⟩, by simp [intOf]⟩
    · go_wp2_with fail
      refine (hF.out wr (hA.below hB1) (hB.below hB1)).mono ?_
      rintro e w2 ⟨rfl, hb2⟩
      have b2 := hb0.below hb2 hb0.lt
      have B2 := below_chain hB1 hb2 hB1.size
      have f0 := b2.frozen 0
      have f1 := b2.frozen 1
      have m2 := b2.cell 0
      have m3 := b2.cell 1
      simp only [List.getElem?_toArray, List.getElem?_cons_zero, List.getElem?_cons_succ] at m2 m3
      go_wp2_with fail
      have B9 := (B2.setCell (p := ⟨w.heap.size, 0, none⟩) (by simp) (.int .u64 (hiN (farN a b) : Int))).setCell (p := ⟨w.heap.size, 1, none⟩) (by simp) (.int .u64 (loN (farN a b) : Int))
      have b9 := pair_set (u := .int .u64 (hiN (farN a b) : Int)) (v := .int .u64 (loN (farN a b) : Int)) b2
      generalize ((w2.setCell ⟨w.heap.size, 0, none⟩ _).setCell ⟨w.heap.size, 1, none⟩ _) = w9 at *
      have m0 : w9.cell? ⟨w.heap.size, 0, none⟩ = some (.int .u64 (hiN (farN a b) : Int)) := b9.cell 0
      have m1 : w9.cell? ⟨w.heap.size, 1, none⟩ = some (.int .u64 (loN (farN a b) : Int)) := b9.cell 1
      refine bodyPost_ret (v := .tuple #[.agg #[.int .u64 (hiN (farN a b) : Int), .int .u64 (loN (farN a b) : Int)], .int .i64 0]) (by simp [results, Try.results36, go_sem, m0, m1]) rfl ?_
      exact ⟨rfl, B9⟩
end Go.Proofs.Ytiamppbgpoffmaa

namespace Go.Proofs.Ytiamppbgpoffmaa
open Go.RowKit
set_option linter.unusedVariables false

theorem cmp_lt (a b : Nat) (w : World) (h : a < b) : Calls Try.prog 66 #[.agg #[.int .u64 (hiN a : Int), .int .u64 (loN a : Int)], .agg #[.int .u64 (hiN b : Int), .int .u64 (loN b : Int)]] w fun e w' => ∃ q : Int, q < 0 ∧ e = .returned (.int .i64 q) ∧ Below w.heap.size w w' :=
  (cmp_any a b w).mono fun e w' hh => ⟨cmpN a b, by unfold cmpN; split <;> (try split) <;> omega, hh.1, hh.2⟩
theorem cmp_ge (a b : Nat) (w : World) (h : ¬ a < b) : Calls Try.prog 66 #[.agg #[.int .u64 (hiN a : Int), .int .u64 (loN a : Int)], .agg #[.int .u64 (hiN b : Int), .int .u64 (loN b : Int)]] w fun e w' => ∃ q : Int, 0 ≤ q ∧ e = .returned (.int .i64 q) ∧ Below w.heap.size w w' :=
  (cmp_any a b w).mono fun e w' hh => ⟨cmpN a b, by unfold cmpN; split <;> (try split) <;> omega, hh.1, hh.2⟩

/-- What stands at near's loop's head: the least distance in its block. -/
def NearS (w : World) (N : Nat) (w' : World) : Prop := Below w.heap.size w w' ∧ Blk w' w.heap.size 44 (wc N)
theorem NearS.more {w w1 w2 : World} {N : Nat} (h : NearS w N w1) (hb : Below w1.heap.size w1 w2) : NearS w N w2 := ⟨below_chain h.1 hb h.1.size, h.2.below hb h.2.lt⟩
theorem NearS.put {w w1 : World} {N : Nat} (h : NearS w N w1) (M : Nat) : NearS w M ((w1.setCell ⟨w.heap.size, 0, none⟩ (.int .u64 (hiN M : Int))).setCell ⟨w.heap.size, 1, none⟩ (.int .u64 (loN M : Int))) :=
  ⟨(h.1.setCell (p := ⟨w.heap.size, 0, none⟩) (by simp) _).setCell (p := ⟨w.heap.size, 1, none⟩) (by simp) _, pair_set h.2⟩
theorem NearS.drew {w w1 : World} {N : Nat} (h : NearS w N w1) : NearS w N w1.drew := ⟨h.1.drew, h.2⟩
theorem NearS.cells {w w' : World} {N : Nat} (h : NearS w N w') : w'.cell? ⟨w.heap.size, 0, none⟩ = some (.int .u64 (hiN N : Int)) ∧ w'.cell? ⟨w.heap.size, 1, none⟩ = some (.int .u64 (loN N : Int)) ∧ w'.frozen? ⟨w.heap.size, 0, none⟩ = false ∧ w'.frozen? ⟨w.heap.size, 1, none⟩ = false :=
  ⟨h.2.cell 0, h.2.cell 1, h.2.frozen 0, h.2.frozen 1⟩
theorem NearS.start (w : World) : NearS w 0 (w.alloc (.cells #[.int .u64 0, .int .u64 0] 44)) := ⟨below_alloc1 _ _, Blk.new w _ _⟩

theorem nearTo_take (cs : List (List Int)) (v : List Int) (k : Nat) (h : k = 0 ∨ farN (mrow cs k) v < (nearTo cs v k).2) : nearTo cs v (k + 1) = (k, farN (mrow cs k) v) := by rw [nearTo, if_pos h]
theorem nearTo_keep (cs : List (List Int)) (v : List Int) (k : Nat) (h0 : k ≠ 0) (h : ¬ farN (mrow cs k) v < (nearTo cs v k).2) : nearTo cs v (k + 1) = nearTo cs v k := by
  rw [nearTo, if_neg (fun hh => hh.elim h0 h)]

set_option maxRecDepth 100000 in
set_option maxHeartbeats 4000000 in
theorem near_any (A : Option Addr) (m : List (List Int)) (c : Nat) (V : Option Addr) (v : List Int) (d : Nat) (hok : AllOk m v.length m.length) (hv : vecE v v.length = 0) (h64 : m.length ≤ 64) (w : World) (hm : Mat w A m) (hV : Row w V v) :
    Calls Try.prog 51 #[.slice A m.length c, .slice V v.length d] w fun e w' => e = .returned (.tuple #[.int .i64 ((nearN m v).1 : Int), .agg #[.int .u64 (hiN (nearN m v).2 : Int), .int .u64 (loN (nearN m v).2 : Int)]]) ∧ Below w.heap.size w w' := by
  have S0 := NearS.start w
  replace hok := Lib.hid hok
  go_enter Try.func51, Try.ntmps51
  go_wp2_with fail
  generalize w.alloc (.cells #[.int .u64 0, .int .u64 0] 44) = w0 at *
  go_loopw [4, 12] (fun t i wr => ∃ k : Nat, k ≤ m.length ∧ i = .int .i64 (k : Int) ∧ t = .int .i64 ((nearTo m v k).1 : Int) ∧ NearS w (nearTo m v k).2 wr) (fun _ i _ => m.length - (intOf i).toNat)
  case atStart => exact ⟨0, Nat.zero_le _, rfl, rfl, S0⟩
  case round =>
    obtain ⟨k, hk, rfl, rfl, hS⟩ := hrel
    clear S0
    by_cases hlt : k < m.length
    · obtain ⟨g, o, R, rc, rfl, hc1, hR⟩ := hm k hlt
      have p0 : (0 : Int) ≤ (k : Int) := by omega
      have p1 : (k : Int) < (m.length : Int) := by omega
      have d1 := below_cell hS.1 hc1
      have hR1 := hR.below hS.1
      have hV1 := hV.below hS.1
      have hD := Lib.hid (dist_ok R V (mrow m k) v rc d (by rw [Int.ofNat_inj.1 (vecE_ok (hok.out k hlt)).2.2.1]; exact hok.out k hlt) (by rw [Int.ofNat_inj.1 (vecE_ok (hok.out k hlt)).2.2.1]; exact hv))
      go_wp2_with fail
      refine (hD.out wr hR1 hV1).mono ?_
      rintro e w1 ⟨rfl, hb1⟩
      have S1 := hS.more hb1
      clear hS hb1 hR1 hV1 d1 hD
      generalize hF : farN (mrow m k) v = F
      generalize hN : nearTo m v k = N at *
      have hF' := Lib.hid hF
      have hN' := Lib.hid hN
      clear hF hN
      have S2 := S1.more (below_alloc1 w1 (.cells #[.int .u64 (hiN F : Int), .int .u64 (loN F : Int)] 44))
      have b2 := Blk.new w1 44 #[.int .u64 (hiN F : Int), .int .u64 (loN F : Int)]
      have hne : ¬ w.heap.size = w1.heap.size := by have := S1.2.lt; omega
      have hlt1 := S1.2.lt
      obtain ⟨c1, c2, f1, f2⟩ := S1.cells
      by_cases h0 : k = 0
      · have e0 : ((k : Int) == 0) = true := by simp [h0]
        have hT := Lib.hid (nearTo_take m v k (.inl h0))
        rw [hF'.out] at hT
        clear h0
        go_wp2_with fail
        generalize w1.alloc (.cells #[.int .u64 (hiN F : Int), .int .u64 (loN F : Int)] 44) = w2 at *
        clear c1 c2 f1 f2
        obtain ⟨c1, c2, f1, f2⟩ := S2.cells
        have z0 : w2.cell? ⟨w1.heap.size, 0, none⟩ = some (.int .u64 (hiN F : Int)) := b2.cell 0
        have z1 : w2.cell? ⟨w1.heap.size, 1, none⟩ = some (.int .u64 (loN F : Int)) := b2.cell 1
        go_region
        all_goals
          have S3 := (S2.put F).drew
          generalize World.drew ((World.setCell _ ⟨w.heap.size, 0, none⟩ _).setCell ⟨w.heap.size, 1, none⟩ _) = w3 at *
          clear c1 c2 f1 f2 b2 z0 z1
          go_wp2_with fail
          exact ⟨⟨k + 1, by omega, by go_num, by rw [hT.out], by rw [hT.out]; exact S3⟩, by simp [intOf]; omega⟩
      · have e0 : ((k : Int) == 0) = false := by simp; omega
        by_cases hlt2 : F < N.2
        · have hT := Lib.hid (nearTo_take m v k (.inr (by rw [hF'.out, hN'.out]; exact hlt2)))
          rw [hF'.out] at hT
          have hC := Lib.hid (fun x => cmp_lt F N.2 x hlt2)
          clear h0 hlt2
          go_wp2_with fail
          generalize w1.alloc (.cells #[.int .u64 (hiN F : Int), .int .u64 (loN F : Int)] 44) = w2 at *
          clear c1 c2 f1 f2
          refine (hC.out _).mono ?_
          rintro e w5 ⟨q, hq, rfl, hb5⟩
          replace S2 := S2.more hb5
          replace b2 := b2.below hb5 b2.lt
          go_wp2_with fail
          obtain ⟨c1, c2, f1, f2⟩ := S2.cells
          have z0 : w5.cell? ⟨w1.heap.size, 0, none⟩ = some (.int .u64 (hiN F : Int)) := b2.cell 0
          have z1 : w5.cell? ⟨w1.heap.size, 1, none⟩ = some (.int .u64 (loN F : Int)) := b2.cell 1
          go_region
          all_goals
            have S3 := (S2.put F).drew
            generalize World.drew ((World.setCell _ ⟨w.heap.size, 0, none⟩ _).setCell ⟨w.heap.size, 1, none⟩ _) = w3 at *
            clear c1 c2 f1 f2 b2 z0 z1
            go_wp2_with fail
            exact ⟨⟨k + 1, by omega, by go_num, by rw [hT.out], by rw [hT.out]; exact S3⟩, by simp [intOf]; omega⟩
        · have hT := Lib.hid (nearTo_keep m v k h0 (by rw [hF'.out, hN'.out]; exact hlt2))
          rw [hN'.out] at hT
          have hC := Lib.hid (fun x => cmp_ge F N.2 x hlt2)
          clear h0 hlt2
          go_wp2_with fail
          generalize w1.alloc (.cells #[.int .u64 (hiN F : Int), .int .u64 (loN F : Int)] 44) = w2 at *
          clear c1 c2 f1 f2
          refine (hC.out _).mono ?_
          rintro e w5 ⟨q, hq, rfl, hb5⟩
          replace S2 := S2.more hb5
          clear b2
          go_wp2_with fail
          exact ⟨⟨k + 1, by omega, by go_num, by rw [hT.out], by rw [hT.out]; exact S2⟩, by simp [intOf]; omega⟩
    · obtain rfl : k = m.length := by omega
      change _ at hm
      go_wp2_with fail
      obtain ⟨c1, c2, f1, f2⟩ := hS.cells
      rw [show nearTo m v m.length = nearN m v from rfl] at *
      go_region
      all_goals
        have S4 := (hS.put (nearN m v).2).drew
        generalize World.drew ((World.setCell _ ⟨w.heap.size, 0, none⟩ _).setCell ⟨w.heap.size, 1, none⟩ _) = w9 at *
        have m0 := S4.cells.1
        have m1 := S4.cells.2.1
        clear c1 c2 f1 f2
        go_wp2_with fail
        refine bodyPost_ret (v := .tuple #[.int .i64 ((nearN m v).1 : Int), .agg #[.int .u64 (hiN (nearN m v).2 : Int), .int .u64 (loN (nearN m v).2 : Int)]]) (by simp [results, Try.results51, go_sem, m0, m1]) rfl ?_
        exact ⟨rfl, S4.1⟩
end Go.Proofs.Ytiamppbgpoffmaa

namespace Go.Proofs.Ytiamppbgpoffmaa
open Go.RowKit
set_option linter.unusedVariables false

set_option maxHeartbeats 1000000 in
theorem all_any (A : Option Addr) (m : List (List Int)) (c : Nat) (d : Int) (hb : m.length ≤ 512) (w : World) (h : Mat w A m) :
    Calls Try.prog 58 #[.slice A m.length c, .int .i64 d] w fun e w' => e = .returned (.int .i64 (allE m d)) ∧ w = w' := by
  go_enter Try.func58, Try.ntmps58
  go_wp2_with fail
  go_loopw [10] (fun i wr => wr = w ∧ ∃ k : Nat, k ≤ m.length ∧ i = .int .i64 (k : Int) ∧ AllOk m d k) (fun i _ => m.length - (intOf i).toNat)
  case atStart => exact ⟨rfl, 0, Nat.zero_le _, rfl, fun j hj => absurd hj (by omega)⟩
  case round =>
    obtain ⟨rfl, k, hk, rfl, hC⟩ := hrel
    by_cases hlt : k < m.length
    · obtain ⟨g, o, R, rc, rfl, hc1, hR⟩ := h k hlt
      have p0 : (0 : Int) ≤ (k : Int) := by omega
      have p1 : (k : Int) < (m.length : Int) := by omega
      have hV := Lib.hid (vec_any R (mrow m k) rc d wr hR)
      by_cases hz : vecE (mrow m k) d = 0
      · have hC' := Lib.hid (hC.succ hz)
        go_wp2_with fail
        refine hV.out.mono ?_
        rintro e w1 ⟨rfl, rfl⟩
        rw [hz]
        go_wp2_with fail
        exact ⟨⟨trivial, k + 1, by omega, by go_num, hC'.out⟩, by simp [intOf]; omega⟩
      · have hE := Lib.hid (allE_first m d k hlt hC hz)
        have hne : (vecE (mrow m k) d != 0) = true := by simpa using hz
        generalize vecE (mrow m k) d = E at *
        clear hC hz
        go_wp2_with fail
        refine hV.out.mono ?_
        rintro e w1 ⟨rfl, rfl⟩
        go_wp2_with fail
        go_ret
        exact ⟨by rw [hE.out]; rfl, rfl⟩
    · obtain rfl : k = m.length := by omega
      have hE := Lib.hid (allE_none m d hC)
      clear hC
      go_wp2_with fail
      go_ret
      exact ⟨by rw [hE.out]; rfl, rfl⟩

theorem may_any (A : Option Addr) (m : List (List Int)) (c : Nat) (w : World) (h : Mat w A m) :
    Calls Try.prog 50 #[.slice A m.length c] w fun e w' => e = .returned (.int .i64 (mayE m)) ∧ w = w' := by
  by_cases h0 : m.length = 0
  · have e0 : ((m.length : Int) == 0) = true := by simp [h0]
    have hv : mayE m = 1 := by rw [mayE, if_pos (.inl h0)]
    rw [hv]
    clear hv h0
    go_enter Try.func50, Try.ntmps50
    go_wp2_with fail
    go_ret
    exact ⟨rfl, rfl⟩
  have e0 : ((m.length : Int) == 0) = false := by simpa using h0
  by_cases h1 : 64 < m.length
  · have e1 : (64 : Int) < (m.length : Int) := by omega
    have hv : mayE m = 1 := by rw [mayE, if_pos (.inr h1)]
    rw [hv]
    clear hv h0 h1
    go_enter Try.func50, Try.ntmps50
    go_wp2_with fail
    go_ret
    exact ⟨rfl, rfl⟩
  · have e1 : (m.length : Int) ≤ 64 := by omega
    have hv : mayE m = allE m (mrow m 0).length := by rw [mayE, if_neg (by omega)]
    rw [hv]
    obtain ⟨g, o, R, rc, rfl, hc1, hR⟩ := h 0 (by omega)
    rw [Nat.add_zero] at hc1
    have p1 : (0 : Int) < (m.length : Int) := by omega
    have hA := Lib.hid (all_any (some ⟨g, o, none⟩) m c (mrow m 0).length (by omega) w h)
    clear hv h0 h1
    go_enter Try.func50, Try.ntmps50
    go_wp2_with fail
    refine hA.out.mono ?_
    rintro e w1 ⟨rfl, rfl⟩
    go_wp2_with fail
    go_ret
    exact ⟨rfl, rfl⟩

/-- A sum of coordinates and a count: what they are within. -/
def SumOk (a : Int) : Prop := -1099511627264 ≤ a ∧ a ≤ 1099511627264
theorem quo_ok {a b : Int} (ha : SumOk a) (hb : 0 < b) : SumOk (a / b) := by
  obtain ⟨h1, h2⟩ := ha
  have h3 : a / b ≤ 1099511627264 := Int.ediv_le_of_le_mul hb (by omega)
  have h4 : -1099511627264 ≤ a / b := (Int.le_ediv_iff_mul_le hb).2 (by omega)
  exact ⟨h4, h3⟩
theorem wrap_of {a : Int} (h : SumOk a) : wrap64 a = a := by
  obtain ⟨h1, h2⟩ := h
  simp only [wrap64]
  omega
theorem wrap_of1 {a : Int} (h : SumOk a) : wrap64 (a + 1) = a + 1 := by
  obtain ⟨h1, h2⟩ := h
  simp only [wrap64]
  omega
theorem tdiv_flat {a b : Int} (h : 0 ≤ a ∨ b ∣ a) : a.tdiv b = a / b := by rw [Int.tdiv_eq_ediv, if_pos h, Int.add_zero]
theorem tmod_flat {a b : Int} (h : 0 ≤ a ∨ b ∣ a) : a.tmod b = a % b := by rw [Int.tmod_eq_emod, if_pos h]; simp
theorem tdiv_up {a b : Int} (hb : 0 < b) (h : ¬ (0 ≤ a ∨ b ∣ a)) : a.tdiv b = a / b + 1 := by rw [Int.tdiv_eq_ediv, if_neg h, Int.sign_eq_one_of_pos hb]
theorem tmod_neg {a b : Int} (hb : 0 < b) (h : ¬ (0 ≤ a ∨ b ∣ a)) : a.tmod b < 0 := by
  rw [Int.tmod_eq_emod, if_neg h]
  have := Int.emod_lt_of_pos a hb
  omega
theorem down_any (a b : Int) (ha : SumOk a) (hb : 0 < b) (w : World) :
    Calls Try.prog 62 #[.int .i64 a, .int .i64 b] w fun e w' => e = .returned (.int .i64 (a / b)) ∧ w = w' := by
  have hq := quo_ok ha hb
  have hne : (b == 0) = false := by simp; omega
  by_cases h : 0 ≤ a ∨ b ∣ a
  · have e1 := Lib.hid (tdiv_flat h)
    have e2 := Lib.hid (wrap_of hq)
    have e3 : 0 ≤ a.tmod b := by rw [tmod_flat h]; exact Int.emod_nonneg _ (by omega)
    clear h ha hq
    go_enter Try.func62, Try.ntmps62
    go_wp2_with fail
    go_ret
    exact ⟨by rw [e1.out, e2.out]; rfl, rfl⟩
  · have e1 := Lib.hid (tdiv_up hb h)
    have e2 := Lib.hid (wrap_of1 hq)
    have e4 := Lib.hid (wrap_of hq)
    have e3 : a.tmod b < 0 := tmod_neg hb h
    clear h ha hq
    go_enter Try.func62, Try.ntmps62
    go_wp2_with fail
    go_ret
    exact ⟨by rw [e1.out, e2.out, Int.add_sub_cancel, e4.out]; rfl, rfl⟩
end Go.Proofs.Ytiamppbgpoffmaa

namespace Go.Proofs.Ytiamppbgpoffmaa
open Go.RowKit
set_option linter.unusedVariables false

/-- The error of a question for the nearest centre. -/
def nearE (cs : List (List Int)) (v : List Int) : Int := if mayE cs = 0 then vecE v (mrow cs 0).length else mayE cs
def nearAt (cs : List (List Int)) (v : List Int) : Nat := if nearE cs v = 0 then (nearN cs v).1 else 0
def nearD (cs : List (List Int)) (v : List Int) : Nat := if nearE cs v = 0 then (nearN cs v).2 else 0
theorem nearE_ok {cs : List (List Int)} {v : List Int} (h : nearE cs v = 0) : mayE cs = 0 ∧ vecE v (mrow cs 0).length = 0 ∧ v.length = (mrow cs 0).length ∧ AllOk cs v.length cs.length ∧ vecE v v.length = 0 ∧ 1 ≤ cs.length ∧ cs.length ≤ 64 := by
  unfold nearE at h
  split at h
  · rename_i hm
    obtain ⟨h1, h2, h3⟩ := mayE_ok hm
    have hl : v.length = (mrow cs 0).length := by have := (vecE_ok h).2.2.1; omega
    exact ⟨hm, h, hl, by rw [hl]; exact h3, by rw [hl]; exact h, h1, h2⟩
  · rename_i hm; exact absurd h hm

def NearPost (w : World) (at_ D : Nat) (f : Int) (e : Ending) (w' : World) : Prop := e = .returned (.tuple #[.int .i64 (at_ : Int), .agg #[.int .u64 (hiN D : Int), .int .u64 (loN D : Int)], .int .i64 f]) ∧ Below w.heap.size w w'

set_option maxRecDepth 100000 in
set_option maxHeartbeats 2000000 in
theorem Near_may (A : Option Addr) (m : List (List Int)) (c : Nat) (V : Option Addr) (v : List Int) (d : Nat) (w : World) (hm : Mat w A m) (hV : Row w V v) (h : mayE m ≠ 0) :
    Calls Try.prog 32 #[.slice A m.length c, .slice V v.length d] w (NearPost w 0 0 (mayE m)) := by
  have hM := Lib.hid (may_any A m c _ (hm.below (below_alloc1 w (.cells #[.int .u64 0, .int .u64 0] 44))))
  have hne : (mayE m != 0) = true := by simpa using h
  generalize mayE m = E at *
  clear h
  have S0 := NearS.start w
  go_enter Try.func32, Try.ntmps32
  go_wp2_with fail
  generalize w.alloc (.cells #[.int .u64 0, .int .u64 0] 44) = w0 at *
  obtain ⟨c1, c2, f1, f2⟩ := S0.cells
  refine hM.out.mono ?_
  rintro e w1 ⟨rfl, rfl⟩
  go_wp2_with fail
  have S1 : NearS w 0 ((w0.setCell ⟨w.heap.size, 0, none⟩ (.int .u64 0)).setCell ⟨w.heap.size, 1, none⟩ (.int .u64 0)) := S0.put 0
  generalize ((w0.setCell ⟨w.heap.size, 0, none⟩ (.int .u64 0)).setCell ⟨w.heap.size, 1, none⟩ (.int .u64 0)) = w9 at *
  have m0 : w9.cell? ⟨w.heap.size, 0, none⟩ = some (.int .u64 0) := S1.cells.1
  have m1 : w9.cell? ⟨w.heap.size, 1, none⟩ = some (.int .u64 0) := S1.cells.2.1
  refine bodyPost_ret (v := .tuple #[.int .i64 0, .agg #[.int .u64 0, .int .u64 0], .int .i64 E]) (by simp [results, Try.results32, go_sem, m0, m1]) rfl ?_
  exact ⟨rfl, S1.1⟩

set_option maxRecDepth 100000 in
set_option maxHeartbeats 2000000 in
theorem Near_vec (A : Option Addr) (m : List (List Int)) (c : Nat) (V : Option Addr) (v : List Int) (d : Nat) (w : World) (hm : Mat w A m) (hV : Row w V v) (h0 : mayE m = 0) (h : vecE v (mrow m 0).length ≠ 0) :
    Calls Try.prog 32 #[.slice A m.length c, .slice V v.length d] w (NearPost w 0 0 (vecE v (mrow m 0).length)) := by
  have S0 := NearS.start w
  have hM := Lib.hid (may_any A m c _ (hm.below (below_alloc1 w (.cells #[.int .u64 0, .int .u64 0] 44))))
  have hE := Lib.hid (vec_any V v d (mrow m 0).length _ (hV.below (below_alloc1 w (.cells #[.int .u64 0, .int .u64 0] 44))))
  have hne : (vecE v (mrow m 0).length != 0) = true := by simpa using h
  obtain ⟨g, o, R, rc, rfl, hc1, hR⟩ := hm 0 (mayE_ok h0).1
  rw [Nat.add_zero] at hc1
  have p1 : (0 : Int) < (m.length : Int) := by have := (mayE_ok h0).1; omega
  have d1 := below_cell (below_alloc1 w (.cells #[.int .u64 0, .int .u64 0] 44)) hc1
  generalize vecE v (mrow m 0).length = E at *
  clear h hm hc1
  go_enter Try.func32, Try.ntmps32
  go_wp2_with fail
  generalize w.alloc (.cells #[.int .u64 0, .int .u64 0] 44) = w0 at *
  obtain ⟨c1, c2, f1, f2⟩ := S0.cells
  refine hM.out.mono ?_
  rintro e w1 ⟨rfl, rfl⟩
  rw [h0]
  go_wp2_with fail
  refine hE.out.mono ?_
  rintro e w1 ⟨rfl, rfl⟩
  go_wp2_with fail
  have S1 : NearS w 0 ((w0.setCell ⟨w.heap.size, 0, none⟩ (.int .u64 0)).setCell ⟨w.heap.size, 1, none⟩ (.int .u64 0)) := S0.put 0
  generalize ((w0.setCell ⟨w.heap.size, 0, none⟩ (.int .u64 0)).setCell ⟨w.heap.size, 1, none⟩ (.int .u64 0)) = w9 at *
  have m0 : w9.cell? ⟨w.heap.size, 0, none⟩ = some (.int .u64 0) := S1.cells.1
  have m1 : w9.cell? ⟨w.heap.size, 1, none⟩ = some (.int .u64 0) := S1.cells.2.1
  refine bodyPost_ret (v := .tuple #[.int .i64 0, .agg #[.int .u64 0, .int .u64 0], .int .i64 E]) (by simp [results, Try.results32, go_sem, m0, m1]) rfl ?_
  exact ⟨rfl, S1.1⟩

set_option maxRecDepth 100000 in
set_option maxHeartbeats 2000000 in
theorem Near_ok (A : Option Addr) (m : List (List Int)) (c : Nat) (V : Option Addr) (v : List Int) (d : Nat) (w : World) (hm : Mat w A m) (hV : Row w V v) (h : nearE m v = 0) :
    Calls Try.prog 32 #[.slice A m.length c, .slice V v.length d] w (NearPost w (nearN m v).1 (nearN m v).2 0) := by
  obtain ⟨h0, hv0, hl, hok, hvv, hl1, hl2⟩ := nearE_ok h
  have S0 := NearS.start w
  have hM := Lib.hid (may_any A m c _ (hm.below (below_alloc1 w (.cells #[.int .u64 0, .int .u64 0] 44))))
  have hE := Lib.hid (vec_any V v d (mrow m 0).length _ (hV.below (below_alloc1 w (.cells #[.int .u64 0, .int .u64 0] 44))))
  have hN := Lib.hid (near_any A m c V v d hok hvv hl2 _ (hm.below (below_alloc1 w (.cells #[.int .u64 0, .int .u64 0] 44))) (hV.below (below_alloc1 w (.cells #[.int .u64 0, .int .u64 0] 44))))
  obtain ⟨g, o, R, rc, rfl, hc1, hR⟩ := hm 0 hl1
  rw [Nat.add_zero] at hc1
  have p1 : (0 : Int) < (m.length : Int) := by omega
  have d1 := below_cell (below_alloc1 w (.cells #[.int .u64 0, .int .u64 0] 44)) hc1
  clear h hm hc1 hok hvv hl1 hl2 hl
  generalize nearN m v = N at *
  obtain ⟨at_, D⟩ := N
  go_enter Try.func32, Try.ntmps32
  go_wp2_with fail
  generalize w.alloc (.cells #[.int .u64 0, .int .u64 0] 44) = w0 at *
  refine hM.out.mono ?_
  rintro e w1 ⟨rfl, rfl⟩
  rw [h0]
  go_wp2_with fail
  refine hE.out.mono ?_
  rintro e w1 ⟨rfl, rfl⟩
  rw [hv0]
  go_wp2_with fail
  refine hN.out.mono ?_
  rintro e w1 ⟨rfl, hb⟩
  clear d1
  have S1 := S0.more hb
  have S2 := S1.more (below_alloc1 w1 (.cells #[.int .u64 (hiN D : Int), .int .u64 (loN D : Int)] 44))
  have b2 := Blk.new w1 44 #[.int .u64 (hiN D : Int), .int .u64 (loN D : Int)]
  have hne : ¬ w.heap.size = w1.heap.size := by have := S1.2.lt; omega
  have hlt1 := S1.2.lt
  go_wp2_with fail
  generalize w1.alloc (.cells #[.int .u64 (hiN D : Int), .int .u64 (loN D : Int)] 44) = w2 at *
  obtain ⟨c1, c2, f1, f2⟩ := S2.cells
  have z0 : w2.cell? ⟨w1.heap.size, 0, none⟩ = some (.int .u64 (hiN D : Int)) := b2.cell 0
  have z1 : w2.cell? ⟨w1.heap.size, 1, none⟩ = some (.int .u64 (loN D : Int)) := b2.cell 1
  go_region
  all_goals
    have S3 := (S2.put D).drew
    generalize World.drew ((World.setCell _ ⟨w.heap.size, 0, none⟩ _).setCell ⟨w.heap.size, 1, none⟩ _) = w9 at *
    have m0 := S3.cells.1
    have m1 := S3.cells.2.1
    clear c1 c2 f1 f2
    go_wp2_with fail
    refine bodyPost_ret (v := .tuple #[.int .i64 (at_ : Int), .agg #[.int .u64 (hiN D : Int), .int .u64 (loN D : Int)], .int .i64 0]) (by simp [results, Try.results32, go_sem, m0, m1]) rfl ?_
    exact ⟨rfl, S3.1⟩

theorem Near_any (A : Option Addr) (m : List (List Int)) (c : Nat) (V : Option Addr) (v : List Int) (d : Nat) (w : World) (hm : Mat w A m) (hV : Row w V v) :
    Calls Try.prog 32 #[.slice A m.length c, .slice V v.length d] w (NearPost w (nearAt m v) (nearD m v) (nearE m v)) := by
  by_cases h : nearE m v = 0
  · rw [nearAt, nearD, if_pos h, if_pos h, h]
    exact Near_ok A m c V v d w hm hV h
  · rw [nearAt, nearD, if_neg h, if_neg h]
    by_cases h0 : mayE m = 0
    · have e : nearE m v = vecE v (mrow m 0).length := by rw [nearE, if_pos h0]
      rw [e] at h ⊢
      exact Near_vec A m c V v d w hm hV h0 h
    · have e : nearE m v = mayE m := by rw [nearE, if_neg h0]
      rw [e]
      exact Near_may A m c V v d w hm hV h0
end Go.Proofs.Ytiamppbgpoffmaa

namespace Go.Proofs.Ytiamppbgpoffmaa
open Go.RowKit
set_option linter.unusedVariables false

def costE (cs l : List (List Int)) : Int := if mayE cs = 0 then (if 512 < l.length then 2 else allE l (mrow cs 0).length) else mayE cs
def costTo (cs l : List (List Int)) : Nat → Nat
  | 0 => 0
  | n + 1 => costTo cs l n + (nearN cs (mrow l n)).2
def costN (cs l : List (List Int)) : Nat := if costE cs l = 0 then costTo cs l l.length else 0
theorem costE_ok {cs l : List (List Int)} (h : costE cs l = 0) : mayE cs = 0 ∧ l.length ≤ 512 ∧ AllOk l (mrow cs 0).length l.length ∧ AllOk cs (mrow cs 0).length cs.length ∧ 1 ≤ cs.length ∧ cs.length ≤ 64 := by
  unfold costE at h
  split at h
  · rename_i hm
    obtain ⟨h1, h2, h3⟩ := mayE_ok hm
    split at h
    · omega
    · exact ⟨hm, by omega, allE_ok _ _ h, h3, h1, h2⟩
  · rename_i hm; exact absurd h hm

theorem nearTo_le {cs : List (List Int)} {v : List Int} {D : Nat} (n : Nat) (h : ∀ i, i < n → farN (mrow cs i) v ≤ D) : (nearTo cs v n).2 ≤ D := by
  induction n with
  | zero => simp [nearTo]
  | succ n ih =>
    rw [nearTo]
    split
    · exact h n (by omega)
    · exact ih (fun i hi => h i (by omega))
theorem far_ok {a b : List Int} {d : Nat} (ha : vecE a d = 0) (hb : vecE b d = 0) : farN a b ≤ 64 * 18446744056529682436 := by
  obtain ⟨_, h2, h3, h4⟩ := vecE_ok ha
  obtain ⟨_, _, h5, h6⟩ := vecE_ok hb
  have e1 : a.length = d := by omega
  have e2 : b.length = d := by omega
  rw [e1] at h4
  rw [e2] at h6
  have := farTo_le d h4 h6
  unfold farN
  rw [e1]
  exact Nat.le_trans this (Nat.mul_le_mul_right _ (by omega))
theorem near_le {cs : List (List Int)} {v : List Int} {d : Nat} (hc : AllOk cs d cs.length) (hv : vecE v d = 0) : (nearN cs v).2 ≤ 64 * 18446744056529682436 :=
  nearTo_le _ fun i hi => far_ok (hc i hi) hv
theorem costTo_le {cs l : List (List Int)} {d : Nat} (hc : AllOk cs d cs.length) (n : Nat) (hl : AllOk l d n) : costTo cs l n ≤ n * (64 * 18446744056529682436) := by
  induction n with
  | zero => simp [costTo]
  | succ n ih =>
    rw [costTo]
    have h1 := ih (fun i hi => hl i (by omega))
    have h2 := near_le hc (hl n (by omega))
    omega

def CostPost (w : World) (D : Nat) (f : Int) (e : Ending) (w' : World) : Prop := e = .returned (.tuple #[.agg #[.int .u64 (hiN D : Int), .int .u64 (loN D : Int)], .int .i64 f]) ∧ Below w.heap.size w w'

end Go.Proofs.Ytiamppbgpoffmaa

namespace Go.Proofs.Ytiamppbgpoffmaa
open Go.RowKit

/-! ### The nearest -/
theorem nearTo_min (cs : List (List Int)) (v : List Int) (n : Nat) : ∀ c, c < n → (nearTo cs v n).2 ≤ farN (mrow cs c) v := by
  induction n with
  | zero => intro c hc; omega
  | succ n ih =>
    intro c hc
    rw [nearTo]
    split
    · rename_i h
      by_cases e : c = n
      · subst e; exact Nat.le_refl _
      · rcases h with h | h
        · omega
        · exact Nat.le_trans (Nat.le_of_lt h) (ih c (by omega))
    · rename_i h
      by_cases e : c = n
      · subst e; exact Nat.le_of_not_lt (fun hh => h (.inr hh))
      · exact ih c (by omega)
theorem nearTo_at (cs : List (List Int)) (v : List Int) (n : Nat) (h : 0 < n) : farN (mrow cs (nearTo cs v n).1) v = (nearTo cs v n).2 := by
  induction n with
  | zero => omega
  | succ n ih =>
    rw [nearTo]
    split
    · rfl
    · rename_i hn
      exact ih (by omega)
theorem nearTo_first (cs : List (List Int)) (v : List Int) (n : Nat) : ∀ c, c < (nearTo cs v n).1 → (nearTo cs v n).2 < farN (mrow cs c) v := by
  induction n with
  | zero => intro c hc; simp [nearTo] at hc
  | succ n ih =>
    rw [nearTo]
    split
    · rename_i h
      intro c hc
      simp only at hc
      rcases h with h | h
      · omega
      · exact Nat.lt_of_lt_of_le h (nearTo_min cs v n c hc)
    · exact ih
theorem farTo_self (a : List Int) (n : Nat) : farTo a a n = 0 := by
  induction n with
  | zero => rfl
  | succ n ih => rw [farTo, ih, Int.sub_self]; rfl
theorem farN_self (a : List Int) : farN a a = 0 := farTo_self a _

/-! ### Each number is in a permutation -/
def Onto (n : Nat) (l : List Int) : Prop := l.length = n ∧ ∀ p, p < n → ∃ i, i < n ∧ nth l i = (p : Int)
theorem Onto.swap {n : Nat} {l : List Int} (h : Onto n l) {i k : Nat} (hi : i < n) (hk : k < n) : Onto n (swapL l i k) := by
  refine ⟨by rw [swapL_length]; exact h.1, fun p hp => ?_⟩
  obtain ⟨x, hx, e⟩ := h.2 p hp
  have he := fun x => nth_swapL l i k x (by have := h.1; omega) (by have := h.1; omega)
  by_cases h1 : x = i
  · exact ⟨k, hk, by rw [he, if_pos rfl, ← h1]; exact e⟩
  · by_cases h2 : x = k
    · refine ⟨i, hi, ?_⟩
      rw [he]
      split
      · rename_i e1; rw [e1, ← h2]; exact e
      · rw [if_pos rfl, ← h2]; exact e
    · exact ⟨x, hx, by rw [he, if_neg h2, if_neg h1]; exact e⟩
theorem Onto.loop {n : Nat} (i : Nat) : ∀ (s : Int) (l : List Int), i < n ∨ i = 0 → Onto n l → Onto n (permLoop i s l).1 := by
  induction i with
  | zero => intro s l _ h; exact h
  | succ i ih =>
    intro s l hi h
    rw [permLoop]
    have h0 : 0 ≤ draw s % ((i : Int) + 2) := Int.emod_nonneg _ (by omega)
    have h1 : draw s % ((i : Int) + 2) < (i : Int) + 2 := Int.emod_lt_of_pos _ (by omega)
    exact ih _ _ (by omega) (h.swap (by omega) (by omega))
theorem Onto.iota_ (n : Nat) : Onto n (iota n) := ⟨iota_length n, fun p hp => ⟨p, hp, by simp [iota, nth, hp]⟩⟩
theorem permOf_onto (s : Int) (n : Nat) : Onto n (permOf s n).1 := Onto.loop _ _ _ (by omega) (Onto.iota_ n)

/-! ### Training -/
theorem train_rows {l : List (List Int)} {k r : Int} (s : Int) (h : trainE l k r = 0) : CoordAll (trainN l k.toNat r.toNat s) (mrow l 0).length := by
  obtain ⟨h1, h2, h3, h4, h5, h6, h7⟩ := trainE_ok h
  exact (Within.train h7.coords.within s r.toNat (by omega)).coords
theorem train_dim {l : List (List Int)} {k r : Int} (h : trainE l k r = 0) : 1 ≤ (mrow l 0).length ∧ (mrow l 0).length ≤ 64 := by
  obtain ⟨h1, h2, h3, h4, h5, h6, h7⟩ := trainE_ok h
  have := vecE_ok (h7 0 (by omega))
  omega
theorem train_cost {l : List (List Int)} {k r : Int} (s : Int) (h : trainE l k r = 0) : costE (trainN l k.toNat r.toNat s) l = 0 := by
  obtain ⟨h1, h2, h3, h4, h5, h6, h7⟩ := trainE_ok h
  have hr := train_rows s h
  have hd := train_dim h
  have hl := trainN_length l k.toNat r.toNat s
  have e0 : (mrow (trainN l k.toNat r.toNat s) 0).length = (mrow l 0).length := (hr 0 (by omega)).1
  have hm : mayE (trainN l k.toNat r.toNat s) = 0 := by
    rw [mayE, if_neg (by omega), e0]
    exact allE_none _ _ (hr.ok hd.1 hd.2)
  rw [costE, if_pos hm, if_neg (by omega), e0]
  exact allE_none _ _ h7
theorem within_at {l : List (List Int)} {k r : Int} (s : Int) (h : trainE l k r = 0) {n : Nat} (hn : n < (mrow l 0).length) {lo hi : Int} (hb : ∀ j, j < l.length → lo ≤ nth (mrow l j) n ∧ nth (mrow l j) n ≤ hi) {i : Nat} (hi2 : i < k.toNat) :
    lo ≤ nth (mrow (trainN l k.toNat r.toNat s) i) n ∧ nth (mrow (trainN l k.toNat r.toNat s) i) n ≤ hi := by
  obtain ⟨h1, h2, h3, h4, h5, h6, h7⟩ := trainE_ok h
  have hw : Within l (mrow l 0).length (fun x => if x = n then lo else -2147483647) (fun x => if x = n then hi else 2147483647) := fun c hc => by
    refine ⟨(h7.coords c hc).1, fun x hx => ?_⟩
    by_cases e : x = n
    · subst e
      simpa using hb c hc
    · simpa [e] using (h7.coords c hc).2 x hx
  have := (Within.train hw s (k := k.toNat) r.toNat (by omega) i (by rw [trainN_length]; exact hi2)).2 n hn
  simpa using this
theorem cost_zero {l : List (List Int)} (s : Int) (n : Nat) (hn : n ≤ l.length) : costTo (startN l (permOf s l.length).1 l.length) l n = 0 := by
  induction n with
  | zero => rfl
  | succ n ih =>
    rw [costTo, ih (by omega), Nat.zero_add]
    obtain ⟨i, hi, e⟩ := (permOf_onto s l.length).2 n (by omega)
    have hr : mrow (startN l (permOf s l.length).1 l.length) i = mrow l n := by
      rw [startN, mrow_map _ _ hi, e]
      simp
    have h := nearTo_min (startN l (permOf s l.length).1 l.length) (mrow l n) (startN l (permOf s l.length).1 l.length).length i (by rw [startN_length]; exact hi)
    rw [hr, farN_self] at h
    exact Nat.le_zero.1 h
theorem train_zero {l : List (List Int)} {k r : Int} (s : Int) (h : trainE l k r = 0) (hk : ¬ k < (l.length : Int)) (hr : ¬ 0 < r) : costN (trainN l k.toNat r.toNat s) l = 0 := by
  obtain ⟨h1, h2, h3, h4, h5, h6, h7⟩ := trainE_ok h
  rw [costN, if_pos (train_cost s h)]
  have e1 : k.toNat = l.length := by omega
  have e2 : r.toNat = 0 := by omega
  rw [e1, e2]
  exact cost_zero s _ (Nat.le_refl _)

/-! ### Moved -/
def mvN (by_ : List Int) (i : Nat) : Int := if i < by_.length ∧ -8589934588 < nth by_ i ∧ nth by_ i < 8589934588 then nth by_ i else 0
def shiftN (by_ v : List Int) : List Int := (List.range v.length).map fun i => nth v i + mvN by_ i
theorem shiftN_length (by_ v : List Int) : (shiftN by_ v).length = v.length := by simp [shiftN]
theorem nth_shiftN {by_ v : List Int} {i : Nat} (h : i < v.length) : nth (shiftN by_ v) i = nth v i + mvN by_ i := nth_map _ _ h
def movedN (by_ : List Int) (l : List (List Int)) : List (List Int) := l.map (shiftN by_)
theorem movedN_length (by_ : List Int) (l : List (List Int)) : (movedN by_ l).length = l.length := by simp [movedN]
theorem mrow_movedN {by_ : List Int} {l : List (List Int)} {i : Nat} (h : i < l.length) : mrow (movedN by_ l) i = shiftN by_ (mrow l i) := by simp [mrow, movedN, h]
theorem moved_far {by_ a b : List Int} (h : a.length = b.length) : farN (shiftN by_ a) (shiftN by_ b) = farN a b := by
  unfold farN
  rw [shiftN_length]
  have : ∀ n, n ≤ a.length → farTo (shiftN by_ a) (shiftN by_ b) n = farTo a b n := by
    intro n hn
    induction n with
    | zero => rfl
    | succ n ih =>
      rw [farTo, farTo, ih (by omega), nth_shiftN (by omega), nth_shiftN (by omega)]
      congr 2
      omega
  exact this _ (Nat.le_refl _)
theorem moved_near {by_ v : List Int} {cs : List (List Int)} {d : Nat} (hc : ∀ i, i < cs.length → (mrow cs i).length = d) (hv : v.length = d) : nearN (movedN by_ cs) (shiftN by_ v) = nearN cs v := by
  unfold nearN
  rw [movedN_length]
  have : ∀ n, n ≤ cs.length → nearTo (movedN by_ cs) (shiftN by_ v) n = nearTo cs v n := by
    intro n hn
    induction n with
    | zero => rfl
    | succ n ih =>
      rw [nearTo, nearTo, ih (by omega), mrow_movedN (by omega), moved_far (by rw [hc n (by omega), hv])]
  exact this _ (Nat.le_refl _)
section
variable {by_ : List Int} {cs l : List (List Int)} {d : Nat}
theorem moved_many (hc : ∀ i, i < cs.length → (mrow cs i).length = d) (hl : ∀ i, i < l.length → (mrow l i).length = d) (c n : Nat) (hn : n ≤ l.length) : manyTo (movedN by_ cs) (movedN by_ l) c n = manyTo cs l c n := by
  induction n with
  | zero => rfl
  | succ n ih => rw [manyTo, manyTo, ih (by omega), mrow_movedN (by omega), moved_near hc (hl n (by omega))]
theorem moved_sum (hc : ∀ i, i < cs.length → (mrow cs i).length = d) (hl : ∀ i, i < l.length → (mrow l i).length = d) (c x n : Nat) (hx : x < d) (hn : n ≤ l.length) :
    sumTo (movedN by_ cs) (movedN by_ l) c x n = sumTo cs l c x n + mvN by_ x * (manyTo cs l c n : Int) := by
  induction n with
  | zero => simp [sumTo, manyTo]
  | succ n ih =>
    rw [sumTo, sumTo, manyTo, ih (by omega), mrow_movedN (by omega), moved_near hc (hl n (by omega))]
    split
    · rw [nth_shiftN (by rw [hl n (by omega)]; exact hx), Int.natCast_add, Int.natCast_one, Int.mul_add, Int.mul_one]
      omega
    · simp
theorem moved_next (hc : ∀ i, i < cs.length → (mrow cs i).length = d) (hl : ∀ i, i < l.length → (mrow l i).length = d) : nextN (movedN by_ cs) (movedN by_ l) d = movedN by_ (nextN cs l d) := by
  refine mrow_ext (by rw [nextN_length, movedN_length, movedN_length, nextN_length]) fun c hcl => ?_
  rw [nextN_length, movedN_length] at hcl
  rw [mrow_nextN _ _ _ _ (by rw [movedN_length]; exact hcl), mrow_movedN (by rw [nextN_length]; exact hcl), mrow_nextN _ _ _ _ hcl]
  unfold nextRow
  rw [movedN_length, moved_many hc hl c _ (Nat.le_refl _)]
  split
  · rw [mrow_movedN hcl]
  · rename_i hm
    have hml : (meanRow cs l d c).length = d := meanRow_length _ _ _ _
    refine nth_ext (by rw [meanRow_length, shiftN_length, hml]) fun x hx => ?_
    rw [meanRow_length] at hx
    rw [nth_shiftN (by rw [hml]; exact hx), meanRow, nth_map _ _ hx, meanRow, nth_map _ _ hx, movedN_length, moved_many hc hl c _ (Nat.le_refl _), moved_sum hc hl c x _ hx (Nat.le_refl _)]
    exact Int.add_mul_ediv_right _ _ (by omega)
theorem moved_rounds {ps : List Int} {k : Nat} (hc : ∀ r i, i < k → (mrow (roundsN l d r (startN l ps k)) i).length = d) (hl : ∀ i, i < l.length → (mrow l i).length = d) (hp : ∀ i, i < k → (nth ps i).toNat < l.length) (r : Nat) :
    roundsN (movedN by_ l) d r (startN (movedN by_ l) ps k) = movedN by_ (roundsN l d r (startN l ps k)) := by
  induction r with
  | zero =>
    refine mrow_ext (by rw [roundsN, roundsN, startN_length, movedN_length, startN_length]) fun i hi => ?_
    rw [roundsN, startN_length] at hi
    rw [roundsN, roundsN, mrow_movedN (by rw [startN_length]; exact hi), startN, startN, mrow_map _ _ hi, mrow_map _ _ hi, mrow_movedN (hp i hi)]
  | succ r ih =>
    rw [roundsN, roundsN, ih]
    exact moved_next (fun i hi => hc r i (by rwa [roundsN_length, startN_length] at hi)) hl
end
theorem moved_train {by_ : List Int} {l : List (List Int)} {k r : Int} (s : Int) (h : trainE l k r = 0) : trainN (movedN by_ l) k.toNat r.toNat s = movedN by_ (trainN l k.toNat r.toNat s) := by
  obtain ⟨h1, h2, h3, h4, h5, h6, h7⟩ := trainE_ok h
  unfold trainN
  rw [movedN_length, mrow_movedN (by omega), shiftN_length]
  refine moved_rounds (fun q i hi => ?_) (fun i hi => (h7.coords i hi).1) (fun i hi => (perm_place (by omega)).2) _
  exact (Within.rounds h7.coords.within (Within.start h7.coords.within s (by omega)) q i (by rw [roundsN_length, startN_length]; exact hi)).1
theorem vecE_two {v : List Int} {d : Int} (h1 : 1 ≤ d) (h2 : d ≤ 64) (h3 : (v.length : Int) = d) : vecE v d = 0 ∨ vecE v d = 31 := by
  rw [vecE, if_neg (by omega)]
  split
  · exact .inl rfl
  · exact .inr rfl
theorem allE_two {l : List (List Int)} {d : Int} (h1 : 1 ≤ d) (h2 : d ≤ 64) (h : ∀ v, v ∈ l → (v.length : Int) = d) : allE l d = 0 ∨ allE l d = 31 := by
  induction l with
  | nil => exact .inl rfl
  | cons v l ih =>
    rw [allE]
    split
    · exact ih (fun u hu => h u (by simp [hu]))
    · rename_i hn
      exact (vecE_two h1 h2 (h v (by simp))).elim (fun e => absurd e hn) .inr
theorem moved_trainE {by_ : List Int} {l : List (List Int)} {k r : Int} (h : trainE l k r = 0) : trainE (movedN by_ l) k r = 0 ∨ trainE (movedN by_ l) k r = 31 := by
  obtain ⟨h1, h2, h3, h4, h5, h6, h7⟩ := trainE_ok h
  have hd := train_dim h
  rw [trainE, if_neg (by omega), movedN_length, if_neg (by omega), if_neg (by omega), mrow_movedN (by omega), shiftN_length]
  refine allE_two (by omega) (by omega) fun v hv => ?_
  obtain ⟨u, hu, rfl⟩ := List.mem_map.1 hv
  rw [shiftN_length]
  obtain ⟨i, hi, e⟩ := List.getElem_of_mem hu
  have := (h7.coords i hi).1
  rw [show mrow l i = u by simp [mrow, hi, e]] at this
  omega
end Go.Proofs.Ytiamppbgpoffmaa
