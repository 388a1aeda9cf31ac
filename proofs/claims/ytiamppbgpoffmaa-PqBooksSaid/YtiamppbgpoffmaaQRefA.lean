/- A Wide by its halves: words for the document's numbers. The document's numbers: eight digits to the base of 65536, the lowest first. The contract of the document's plus. The contracts of the document's Plus and Small. The contract of the document's Of: a Wide's digits. The contract of the document's Cmp. The contract of the document's Less. The contracts of theodoliteref03's Square, Sum, Far and theodoliteref01's Less, by numbers. The contracts of theodoliteref06's vectors, centresErr, Nearest and down. The contract of theodoliteref03.Dist where both vectors are as they should be; appends of slices of slices. -/
import Derived.Test.YtiamppbgpoffmaaQDist
import Derived.BigQuiet
import Derived.Deep.QuietTactic
import Derived.Deep.RegionHeld3
import Derived.Deep.CutRange
import Derived.Test.YtiamppbgpoffmaaQTrain
import Derived.Laws.AppendOwnNone
import Derived.Maps.AppendAt
namespace Go.Proofs.Ytiamppbgpoffmaa
open Go.RowKit
set_option linter.unusedVariables false
theorem sm_zero : Sm 0 := by unfold Sm; omega
theorem below_drewN {B : Nat} {a w : World} (h : Below B a w) (n : Nat) : Below B a (w.drewN n) := ⟨h.os, h.tape, h.output, h.size, h.block⟩
theorem num_wv (h l : Nat) (hl : l < 18446744073709551616) : num (h * 18446744073709551616 + l) = .agg #[.int .u64 (h : Int), .int .u64 (l : Int)] := by
  unfold num wv
  rw [show (h * 18446744073709551616 + l) / 18446744073709551616 = h by omega, show (h * 18446744073709551616 + l) % 18446744073709551616 = l by omega]
def wh (h l : Nat) : Nat := h * 18446744073709551616 + l
theorem wh_lt {h l : Nat} (s1 : Sm h) (s2 : Sm l) : wh h l < 340282366920938463463374607431768211456 := by unfold wh Sm at *; omega
theorem num_wh (h l : Nat) (s2 : Sm l) : num (wh h l) = .agg #[.int .u64 (h : Int), .int .u64 (l : Int)] := num_wv h l s2
theorem wh_inj {h l h' l' : Nat} (s : Sm l) (s' : Sm l') (e : wh h l = wh h' l') : h = h' ∧ l = l' := by unfold wh Sm at *; omega
theorem wh_lex {h l h' l' : Nat} (s : Sm l) (s' : Sm l') : wh h l < wh h' l' ↔ h < h' ∨ h = h' ∧ l < l' := by unfold wh Sm at *; omega
theorem wh_of (n : Nat) (h : n < 340282366920938463463374607431768211456) : ∃ h l, Sm h ∧ Sm l ∧ wh h l = n :=
  ⟨n / 18446744073709551616, n % 18446744073709551616, by unfold Sm; omega, by unfold Sm; omega, by unfold wh; omega⟩
def Two (w wr : World) (ah al bh bl : Nat) : Prop := Below w.heap.size w wr ∧ Blk wr w.heap.size 44 #[.int .u64 (ah : Int), .int .u64 (al : Int)] ∧ Blk wr (w.heap.size + 1) 44 #[.int .u64 (bh : Int), .int .u64 (bl : Int)]
theorem Two.more {w wr w1 : World} {ah al bh bl : Nat} (h : Two w wr ah al bh bl) (hb : Below wr.heap.size wr w1) : Two w w1 ah al bh bl := ⟨below_chain h.1 hb h.1.size, h.2.1.below hb h.2.1.lt, h.2.2.below hb h.2.2.lt⟩
theorem Two.drew {w wr : World} {ah al bh bl : Nat} (h : Two w wr ah al bh bl) : Two w wr.drew ah al bh bl := ⟨h.1.drew, h.2.1, h.2.2⟩
theorem Two.start (w : World) (ah al bh bl : Nat) : Two w ((w.alloc (.cells #[.int .u64 (ah : Int), .int .u64 (al : Int)] 44)).alloc (.cells #[.int .u64 (bh : Int), .int .u64 (bl : Int)] 44)) ah al bh bl := by
  have e1 : (w.alloc (.cells #[.int .u64 (ah : Int), .int .u64 (al : Int)] 44)).heap.size = w.heap.size + 1 := by simp
  refine ⟨((Below.refl _ _).alloc (Nat.le_refl _) _).alloc (by simp) _, (Blk.new w _ _).alloc _, ?_⟩
  have := Blk.new (w.alloc (.cells #[.int .u64 (ah : Int), .int .u64 (al : Int)] 44)) 44 #[.int .u64 (bh : Int), .int .u64 (bl : Int)]
  rwa [e1] at this
theorem Two.cells {w wr : World} {ah al bh bl : Nat} (h : Two w wr ah al bh bl) : wr.cell? ⟨w.heap.size, 0, none⟩ = some (.int .u64 (ah : Int)) ∧ wr.cell? ⟨w.heap.size, 1, none⟩ = some (.int .u64 (al : Int)) ∧
    wr.cell? ⟨w.heap.size + 1, 0, none⟩ = some (.int .u64 (bh : Int)) ∧ wr.cell? ⟨w.heap.size + 1, 1, none⟩ = some (.int .u64 (bl : Int)) := ⟨h.2.1.cell 0, h.2.1.cell 1, h.2.2.cell 0, h.2.2.cell 1⟩
theorem Two.lt {w wr : World} {ah al bh bl : Nat} (h : Two w wr ah al bh bl) : w.heap.size < wr.heap.size ∧ w.heap.size + 1 < wr.heap.size := ⟨h.2.1.lt, h.2.2.lt⟩
/-- hiN and loN are the halves. -/
theorem wh_hl (n : Nat) : wh (hiN n) (loN n) = n := by unfold wh hiN loN; omega
theorem sm_lo (n : Nat) : Sm (loN n) := by unfold Sm loN; omega
theorem sm_hi (n : Nat) (h : Wd n) : Sm (hiN n) := by unfold Sm hiN; unfold Wd at h; omega
end Go.Proofs.Ytiamppbgpoffmaa

namespace Go.Proofs.Ytiamppbgpoffmaa
open Go.RowKit
set_option linter.unusedVariables false

def nthN (D : List Nat) (i : Nat) : Nat := D.getD i 0
/-- What digits say. -/
def val : List Nat → Nat
  | [] => 0
  | d :: D => d + 65536 * val D
/-- Eight digits. -/
def Dig (D : List Nat) : Prop := D.length = 8 ∧ ∀ i, nthN D i < 65536
def numC (D : List Nat) (o : Bool) : Array Value := #[.int .i64 (nthN D 0 : Int), .int .i64 (nthN D 1 : Int), .int .i64 (nthN D 2 : Int), .int .i64 (nthN D 3 : Int), .int .i64 (nthN D 4 : Int), .int .i64 (nthN D 5 : Int), .int .i64 (nthN D 6 : Int), .int .i64 (nthN D 7 : Int), .bool o]
def numV (D : List Nat) (o : Bool) : Value := .agg #[.int .i64 (nthN D 0 : Int), .int .i64 (nthN D 1 : Int), .int .i64 (nthN D 2 : Int), .int .i64 (nthN D 3 : Int), .int .i64 (nthN D 4 : Int), .int .i64 (nthN D 5 : Int), .int .i64 (nthN D 6 : Int), .int .i64 (nthN D 7 : Int), .bool o]
theorem nthN_set (D : List Nat) (i j x : Nat) (hi : i < D.length) : nthN (D.set i x) j = if i = j then x else nthN D j := by
  unfold nthN
  simp only [List.getD_eq_getElem?_getD, List.getElem?_set]
  split
  · simp
  · rfl
theorem Dig.set_ {D : List Nat} (h : Dig D) (i x : Nat) (hi : i < 8) (hx : x < 65536) : Dig (D.set i x) := by
  refine ⟨by rw [List.length_set]; exact h.1, fun j => ?_⟩
  rw [nthN_set D i j x (by rw [h.1]; exact hi)]
  split
  · exact hx
  · exact h.2 j
theorem numC_set (D : List Nat) (o : Bool) (i x : Nat) (hD : D.length = 8) (hi : i < 8) : (numC D o).setIfInBounds i (.int .i64 (x : Int)) = numC (D.set i x) o := by
  unfold numC
  simp only [nthN_set D i _ x (by omega)]
  match i, hi with
  | 0, _ => simp
  | 1, _ => simp
  | 2, _ => simp
  | 3, _ => simp
  | 4, _ => simp
  | 5, _ => simp
  | 6, _ => simp
  | 7, _ => simp
theorem numC_over (D : List Nat) (o p : Bool) : (numC D o).setIfInBounds 8 (.bool p) = numC D p := by simp [numC]
theorem numC_at (D : List Nat) (o : Bool) (i : Nat) (hi : i < 8) : (numC D o)[i]? = some (.int .i64 (nthN D i : Int)) := by
  match i, hi with
  | 0, _ => rfl
  | 1, _ => rfl
  | 2, _ => rfl
  | 3, _ => rfl
  | 4, _ => rfl
  | 5, _ => rfl
  | 6, _ => rfl
  | 7, _ => rfl
theorem val_set : ∀ (D : List Nat) (i x : Nat), i < D.length → val (D.set i x) + nthN D i * 65536 ^ i = val D + x * 65536 ^ i
  | [], i, x, h => by simp at h
  | d :: D, 0, x, h => by simp [val, nthN]; omega
  | d :: D, i + 1, x, h => by
    have ih := val_set D i x (by simpa using h)
    have e : nthN (d :: D) (i + 1) = nthN D i := by simp [nthN]
    rw [e, List.set_cons_succ, val, val, Nat.pow_succ]
    have a1 : nthN D i * (65536 ^ i * 65536) = 65536 * (nthN D i * 65536 ^ i) := by rw [← Nat.mul_assoc, Nat.mul_comm]
    have a2 : x * (65536 ^ i * 65536) = 65536 * (x * 65536 ^ i) := by rw [← Nat.mul_assoc, Nat.mul_comm]
    rw [a1, a2]
    omega
theorem val_lt : ∀ (D : List Nat), (∀ i, nthN D i < 65536) → val D < 65536 ^ D.length
  | [], _ => by simp [val]
  | d :: D, h => by
    have h0 : d < 65536 := by simpa [nthN] using h 0
    have ih := val_lt D (fun i => by have := h (i + 1); simpa [nthN] using this)
    rw [val, List.length_cons, Nat.pow_succ]
    omega
theorem Dig.lt {D : List Nat} (h : Dig D) : val D < 340282366920938463463374607431768211456 := by
  have := val_lt D h.2
  rw [h.1] at this
  exact this
/-- The nine cells of a number in memory. -/
theorem num_cells {w : World} {g : Nat} {t : TypeId} {D : List Nat} {o : Bool} (h : Blk w g t (numC D o)) :
    w.cell? ⟨g, 0, none⟩ = some (.int .i64 (nthN D 0 : Int)) ∧ w.cell? ⟨g, 1, none⟩ = some (.int .i64 (nthN D 1 : Int)) ∧ w.cell? ⟨g, 2, none⟩ = some (.int .i64 (nthN D 2 : Int)) ∧ w.cell? ⟨g, 3, none⟩ = some (.int .i64 (nthN D 3 : Int)) ∧
    w.cell? ⟨g, 4, none⟩ = some (.int .i64 (nthN D 4 : Int)) ∧ w.cell? ⟨g, 5, none⟩ = some (.int .i64 (nthN D 5 : Int)) ∧ w.cell? ⟨g, 6, none⟩ = some (.int .i64 (nthN D 6 : Int)) ∧ w.cell? ⟨g, 7, none⟩ = some (.int .i64 (nthN D 7 : Int)) ∧ w.cell? ⟨g, 8, none⟩ = some (.bool o) :=
  ⟨h.cell 0, h.cell 1, h.cell 2, h.cell 3, h.cell 4, h.cell 5, h.cell 6, h.cell 7, h.cell 8⟩
theorem num_free {w : World} {g : Nat} {t : TypeId} {D : List Nat} {o : Bool} (h : Blk w g t (numC D o)) :
    w.frozen? ⟨g, 0, none⟩ = false ∧ w.frozen? ⟨g, 1, none⟩ = false ∧ w.frozen? ⟨g, 2, none⟩ = false ∧ w.frozen? ⟨g, 3, none⟩ = false ∧ w.frozen? ⟨g, 4, none⟩ = false ∧ w.frozen? ⟨g, 5, none⟩ = false ∧ w.frozen? ⟨g, 6, none⟩ = false ∧ w.frozen? ⟨g, 7, none⟩ = false ∧ w.frozen? ⟨g, 8, none⟩ = false :=
  ⟨h.frozen 0, h.frozen 1, h.frozen 2, h.frozen 3, h.frozen 4, h.frozen 5, h.frozen 6, h.frozen 7, h.frozen 8⟩
/-- A whole number is stored. -/
def nine (w : World) (g : Nat) (D : List Nat) (o : Bool) : World := (((((((((w.setCell ⟨g, 0, none⟩ (.int .i64 (nthN D 0 : Int))).setCell ⟨g, 1, none⟩ (.int .i64 (nthN D 1 : Int))).setCell ⟨g, 2, none⟩ (.int .i64 (nthN D 2 : Int))).setCell ⟨g, 3, none⟩ (.int .i64 (nthN D 3 : Int))).setCell ⟨g, 4, none⟩ (.int .i64 (nthN D 4 : Int))).setCell ⟨g, 5, none⟩ (.int .i64 (nthN D 5 : Int))).setCell ⟨g, 6, none⟩ (.int .i64 (nthN D 6 : Int))).setCell ⟨g, 7, none⟩ (.int .i64 (nthN D 7 : Int))).setCell ⟨g, 8, none⟩ (.bool o))
theorem nine_blk {w : World} {g : Nat} {t : TypeId} {E : List Nat} {p : Bool} (D : List Nat) (o : Bool) (h : Blk w g t (numC E p)) : Blk (nine w g D o) g t (numC D o) := by
  have := ((((((((h.set_ 0 (.int .i64 (nthN D 0 : Int))).set_ 1 (.int .i64 (nthN D 1 : Int))).set_ 2 (.int .i64 (nthN D 2 : Int))).set_ 3 (.int .i64 (nthN D 3 : Int))).set_ 4 (.int .i64 (nthN D 4 : Int))).set_ 5 (.int .i64 (nthN D 5 : Int))).set_ 6 (.int .i64 (nthN D 6 : Int))).set_ 7 (.int .i64 (nthN D 7 : Int))).set_ 8 (.bool o)
  simpa [numC, nine] using this
theorem nine_below {B : Nat} {a w : World} {g : Nat} (D : List Nat) (o : Bool) (h : Below B a w) (hg : B ≤ g) : Below B a (nine w g D o) :=
  ((((((((h.setCell hg _).setCell hg _).setCell hg _).setCell hg _).setCell hg _).setCell hg _).setCell hg _).setCell hg _).setCell hg _
theorem nine_far {w : World} {g k : Nat} {t : TypeId} {cs : Array Value} (D : List Nat) (o : Bool) (h : Blk w k t cs) (hk : k ≠ g) : Blk (nine w g D o) k t cs :=
  ((((((((h.far hk _).far hk _).far hk _).far hk _).far hk _).far hk _).far hk _).far hk _).far hk _
theorem nine_fold (w : World) (g : Nat) (D : List Nat) (o : Bool) : (((((((((w.setCell ⟨g, 0, none⟩ (.int .i64 (nthN D 0 : Int))).setCell ⟨g, 1, none⟩ (.int .i64 (nthN D 1 : Int))).setCell ⟨g, 2, none⟩ (.int .i64 (nthN D 2 : Int))).setCell ⟨g, 3, none⟩ (.int .i64 (nthN D 3 : Int))).setCell ⟨g, 4, none⟩ (.int .i64 (nthN D 4 : Int))).setCell ⟨g, 5, none⟩ (.int .i64 (nthN D 5 : Int))).setCell ⟨g, 6, none⟩ (.int .i64 (nthN D 6 : Int))).setCell ⟨g, 7, none⟩ (.int .i64 (nthN D 7 : Int))).setCell ⟨g, 8, none⟩ (.bool o)) = nine w g D o := rfl
end Go.Proofs.Ytiamppbgpoffmaa

namespace Go.Proofs.Ytiamppbgpoffmaa
open Go.RowKit
set_option linter.unusedVariables false

/-- Not too great (a word, so that the walk does not look at the bound). -/
def Sml (v : Nat) : Prop := v ≤ 4294967296
theorem Sml.quot {v d s : Nat} (h : Sml v) (hd : d < 65536) (hs : s = v + d) : Sml (s / 65536) := by unfold Sml at *; omega
theorem Sml.wrap {v d s : Nat} (h : Sml v) (hd : d < 65536) (hs : s = v + d) : wrap64 ((v : Int) + (d : Int)) = (s : Int) := by unfold Sml at h; simp only [wrap64]; omega
theorem Sml.tdiv {v d s y : Nat} (h : Sml v) (hd : d < 65536) (hs : s = v + d) (hy : y = s / 65536) : wrap64 ((s : Int).tdiv 65536) = (y : Int) := by
  unfold Sml at h
  rw [Int.tdiv_eq_ediv_of_nonneg (by omega)]
  simp only [wrap64]; omega
theorem tmod_nat (s x : Nat) (hx : x = s % 65536) : (s : Int).tmod 65536 = (x : Int) := by rw [Int.tmod_eq_emod_of_nonneg (by omega)]; omega
theorem Sml.div2 {v d s y : Nat} (h : Sml v) (hd : d < 65536) (hs : s = v + d) (hy : y = s / 65536) : wrap64 ((s : Int) / 65536) = (y : Int) := by
  unfold Sml at h
  simp only [wrap64]; omega
theorem mod_nat (s x : Nat) (hx : x = s % 65536) : (s : Int) % 65536 = (x : Int) := by omega
def PlusPost (w : World) (D : List Nat) (o : Bool) (T : Nat) (e : Ending) (w' : World) : Prop :=
  ∃ D', e = .returned (numV D' (o || decide (340282366920938463463374607431768211456 ≤ T))) ∧ Dig D' ∧ val D' = T % 340282366920938463463374607431768211456 ∧ Below w.heap.size w w'
/-- Where the carry stands. -/
def Carry (D' : List Nat) (v' i T : Nat) : Prop := Dig D' ∧ val D' + v' * 65536 ^ i = T
theorem Carry.step {D : List Nat} {v i T s : Nat} (h : Carry D v i T) (hi : i < 8) (hs : s = v + nthN D i) : Carry (D.set i (s % 65536)) (s / 65536) (i + 1) T := by
  obtain ⟨h1, h2⟩ := h
  refine ⟨h1.set_ i _ hi (Nat.mod_lt _ (by omega)), ?_⟩
  have a := val_set D i (s % 65536) (by rw [h1.1]; exact hi)
  have b : s / 65536 * 65536 ^ (i + 1) = (s / 65536 * 65536) * 65536 ^ i := by rw [Nat.pow_succ, Nat.mul_comm (65536 ^ i) 65536, Nat.mul_assoc]
  have c : s % 65536 * 65536 ^ i + s / 65536 * 65536 * 65536 ^ i = (v + nthN D i) * 65536 ^ i := by rw [← Nat.add_mul, ← hs]; congr 1; omega
  rw [Nat.add_mul] at c
  rw [b]
  omega
theorem Carry.done {D : List Nat} {i T : Nat} (h : Carry D 0 i T) : val D = T % 340282366920938463463374607431768211456 ∧ T < 340282366920938463463374607431768211456 := by
  obtain ⟨h1, h2⟩ := h
  have := h1.lt
  rw [Nat.zero_mul, Nat.add_zero] at h2
  omega
theorem Carry.over {D : List Nat} {v i T : Nat} (h : Carry D v i T) (hv : 0 < v) (hi : 8 ≤ i) : val D = T % 340282366920938463463374607431768211456 ∧ 340282366920938463463374607431768211456 ≤ T := by
  obtain ⟨h1, h2⟩ := h
  have hl := h1.lt
  obtain ⟨j, rfl⟩ : ∃ j, i = 8 + j := ⟨i - 8, by omega⟩
  have e : v * 65536 ^ (8 + j) = 340282366920938463463374607431768211456 * (v * 65536 ^ j) := by
    rw [Nat.pow_add, show 65536 ^ 8 = 340282366920938463463374607431768211456 from rfl, ← Nat.mul_assoc, Nat.mul_comm v, Nat.mul_assoc]
  have hp : 0 < v * 65536 ^ j := Nat.mul_pos hv (Nat.pow_pos (by omega))
  rw [e] at h2
  generalize v * 65536 ^ j = z at *
  omega

end Go.Proofs.Ytiamppbgpoffmaa

namespace Go.Proofs.Ytiamppbgpoffmaa
open Go.RowKit
set_option linter.unusedVariables false

theorem numV_def (D : List Nat) (o : Bool) : numV D o = .agg (numC D o) := rfl
theorem dig_none : Dig [0, 0, 0, 0, 0, 0, 0, 0] := ⟨rfl, fun i => by simp only [nthN, List.getD_eq_getElem?_getD]; match i with | 0 => simp | 1 => simp | 2 => simp | 3 => simp | 4 => simp | 5 => simp | 6 => simp | 7 => simp | i + 8 => simp⟩
theorem val_none : val [0, 0, 0, 0, 0, 0, 0, 0] = 0 := by simp [val]
/-- The first k digits' part. -/
theorem val_take : ∀ (D : List Nat) (k : Nat), k < D.length → val (D.take (k + 1)) = val (D.take k) + nthN D k * 65536 ^ k
  | [], k, h => by simp at h
  | d :: D, 0, h => by simp [val, nthN]
  | d :: D, k + 1, h => by
    have ih := val_take D k (by simpa using h)
    have e : nthN (d :: D) (k + 1) = nthN D k := by simp [nthN]
    rw [List.take_succ_cons, List.take_succ_cons, val, val, ih, e, Nat.pow_succ]
    have a1 : nthN D k * (65536 ^ k * 65536) = 65536 * (nthN D k * 65536 ^ k) := by rw [← Nat.mul_assoc, Nat.mul_comm]
    rw [a1]
    omega
end Go.Proofs.Ytiamppbgpoffmaa

namespace Go.Proofs.Ytiamppbgpoffmaa
open Go.RowKit
set_option linter.unusedVariables false

def OfPost (w : World) (n : Nat) (e : Ending) (w' : World) : Prop := ∃ D, e = .returned (numV D false) ∧ Dig D ∧ val D = n ∧ Below w.heap.size w w'
/-- k digits of each half are taken; h and l are left. -/
def Taken (n k h l : Nat) (D : List Nat) : Prop := Dig D ∧ (∀ j, k ≤ j → j < 4 → nthN D j = 0 ∧ nthN D (4 + j) = 0) ∧ val D + l * 65536 ^ k + h * 65536 ^ (4 + k) = n ∧ l < 65536 ^ (4 - k) ∧ h < 65536 ^ (4 - k)
theorem taken_start (h l : Nat) (s1 : Sm h) (s2 : Sm l) : Taken (wh h l) 0 h l [0, 0, 0, 0, 0, 0, 0, 0] := by
  refine ⟨dig_none, fun j h1 h2 => ?_, ?_, ?_, ?_⟩
  · match j, h2 with
    | 0, _ => exact ⟨rfl, rfl⟩
    | 1, _ => exact ⟨rfl, rfl⟩
    | 2, _ => exact ⟨rfl, rfl⟩
    | 3, _ => exact ⟨rfl, rfl⟩
  · rw [val_none]; unfold wh; omega
  · unfold Sm at s2; omega
  · unfold Sm at s1; omega
theorem Taken.step {n k h l : Nat} {D : List Nat} (hT : Taken n k h l D) (hk : k < 4) : Taken n (k + 1) (h / 65536) (l / 65536) ((D.set k (l % 65536)).set (4 + k) (h % 65536)) := by
  obtain ⟨hd, hz, hv, hl, hh⟩ := hT
  have d1 := hd.set_ k (l % 65536) (by omega) (Nat.mod_lt _ (by omega))
  have z := hz k (Nat.le_refl _) hk
  have v1 := val_set D k (l % 65536) (by rw [hd.1]; omega)
  have v2 := val_set (D.set k (l % 65536)) (4 + k) (h % 65536) (by rw [d1.1]; omega)
  rw [nthN_set D k (4 + k) _ (by rw [hd.1]; omega), if_neg (by omega), z.2] at v2
  rw [z.1] at v1
  refine ⟨d1.set_ (4 + k) (h % 65536) (by omega) (Nat.mod_lt _ (by omega)), fun j h1 h2 => ?_, ?_, ?_, ?_⟩
  · have := hz j (by omega) h2
    rw [nthN_set _ _ _ _ (by rw [d1.1]; omega), nthN_set _ _ _ _ (by rw [hd.1]; omega), nthN_set _ _ _ _ (by rw [d1.1]; omega), nthN_set _ _ _ _ (by rw [hd.1]; omega)]
    rw [if_neg (by omega), if_neg (by omega), if_neg (by omega), if_neg (by omega)]
    exact this
  · have a1 : l * 65536 ^ k = l / 65536 * 65536 ^ (k + 1) + l % 65536 * 65536 ^ k := by
      rw [Nat.pow_succ, Nat.mul_comm (65536 ^ k) 65536, ← Nat.mul_assoc, ← Nat.add_mul]
      congr 1; omega
    have a2 : h * 65536 ^ (4 + k) = h / 65536 * 65536 ^ (4 + (k + 1)) + h % 65536 * 65536 ^ (4 + k) := by
      rw [show 4 + (k + 1) = 4 + k + 1 by omega, Nat.pow_succ, Nat.mul_comm (65536 ^ (4 + k)) 65536, ← Nat.mul_assoc, ← Nat.add_mul]
      congr 1; omega
    generalize l * 65536 ^ k = b1 at *
    generalize h * 65536 ^ (4 + k) = b2 at *
    generalize l / 65536 * 65536 ^ (k + 1) = b3 at *
    generalize h / 65536 * 65536 ^ (4 + (k + 1)) = b4 at *
    generalize l % 65536 * 65536 ^ k = b5 at *
    generalize h % 65536 * 65536 ^ (4 + k) = b6 at *
    omega
  · rw [show 4 - k = (4 - (k + 1)) + 1 by omega, Nat.pow_succ] at hl
    generalize 65536 ^ (4 - (k + 1)) = b at *
    omega
  · rw [show 4 - k = (4 - (k + 1)) + 1 by omega, Nat.pow_succ] at hh
    generalize 65536 ^ (4 - (k + 1)) = b at *
    omega
theorem Taken.done {n h l : Nat} {D : List Nat} (hT : Taken n 4 h l D) : Dig D ∧ val D = n := by
  obtain ⟨hd, _, hv, hl, hh⟩ := hT
  have h0 : h = 0 := by simpa using hh
  have l0 : l = 0 := by simpa using hl
  subst h0 l0
  exact ⟨hd, by simpa using hv⟩
/-- Of's memory: the box, the result, the number that is built. -/
def OfAt (w wr : World) (D : List Nat) (h l : Nat) : Prop := Below w.heap.size w wr ∧ Blk wr w.heap.size 44 #[.int .u64 (h : Int), .int .u64 (l : Int)] ∧ Blk wr (w.heap.size + 1) 75 (numC [] false) ∧ Blk wr (w.heap.size + 1 + 1) 75 (numC D false)
theorem ofAt_start (w : World) (h l : Nat) : OfAt w (((w.alloc (.cells #[.int .u64 (h : Int), .int .u64 (l : Int)] 44)).alloc (.cells (numC [] false) 75)).alloc (.cells (numC [] false) 75)) [0, 0, 0, 0, 0, 0, 0, 0] h l := by
  have e1 : (w.alloc (.cells #[.int .u64 (h : Int), .int .u64 (l : Int)] 44)).heap.size = w.heap.size + 1 := by simp
  have e2 : ((w.alloc (.cells #[.int .u64 (h : Int), .int .u64 (l : Int)] 44)).alloc (.cells (numC [] false) 75)).heap.size = w.heap.size + 1 + 1 := by simp
  refine ⟨(((Below.refl _ _).alloc (Nat.le_refl _) _).alloc (by simp) _).alloc (by simp; omega) _, ((Blk.new _ _ _).alloc _).alloc _, ?_, ?_⟩
  · have := (Blk.new (w.alloc (.cells #[.int .u64 (h : Int), .int .u64 (l : Int)] 44)) 75 (numC [] false)).alloc (.cells (numC [] false) 75)
    rwa [e1] at this
  · have := Blk.new ((w.alloc (.cells #[.int .u64 (h : Int), .int .u64 (l : Int)] 44)).alloc (.cells (numC [] false) 75)) 75 (numC [] false)
    rwa [e2] at this
theorem wrap_quo {a q : Nat} (s : Sm a) (h : q = a / 65536) : IntKind.u64.wrap ((a : Int) / 65536) = (q : Int) := by unfold Sm at s; rw [IntKind.wrap_u64]; omega
theorem wrap_dig {x : Nat} (h : x < 65536) : wrap64 (x : Int) = (x : Int) := by unfold wrap64; omega
theorem sm_of_le {a b : Nat} (h : a ≤ b) (s : Sm b) : Sm a := by unfold Sm at *; omega
set_option maxRecDepth 100000 in
set_option maxHeartbeats 4000000 in
theorem of_any (h l : Nat) (s1 : Sm h) (s2 : Sm l) (w : World) : Calls Try.prog 41 #[.agg #[.int .u64 (h : Int), .int .u64 (l : Int)]] w (OfPost w (wh h l)) := by
  have hT0 := Lib.hid (taken_start h l s1 s2)
  go_enter Try.func41, Try.ntmps41
  go_wp2
  go_loopw [4] (fun iv wr => ∃ (k h' l' : Nat) (D : List Nat), k ≤ 4 ∧ iv = .int .i64 (k : Int) ∧ Sm h' ∧ Sm l' ∧ Taken (wh h l) k h' l' D ∧ OfAt w wr D h' l') (fun iv _ => 4 - (intOf iv).toNat)
  case atStart => exact ⟨0, h, l, [0, 0, 0, 0, 0, 0, 0, 0], by omega, rfl, s1, s2, hT0.out, ofAt_start w h l⟩
  case round =>
    obtain ⟨k, h', l', D, hk, rfl, t1, t2, hT, hB, ba, br, bd⟩ := hrel
    by_cases hlt : k < 4
    · have hstep := hT.step hlt
      obtain ⟨x, hx⟩ : ∃ x : Nat, x = l' % 65536 := ⟨_, rfl⟩
      obtain ⟨y, hy⟩ : ∃ y : Nat, y = h' % 65536 := ⟨_, rfl⟩
      obtain ⟨q, hq⟩ : ∃ q : Nat, q = l' / 65536 := ⟨_, rfl⟩
      obtain ⟨p, hp⟩ : ∃ p : Nat, p = h' / 65536 := ⟨_, rfl⟩
      have k0 : (0 : Int) ≤ (k : Int) := by omega
      have k4 : (k : Int) < 4 := by omega
      have m1 : (l' : Int) % 65536 = (x : Int) := by omega
      have m2 : (h' : Int) % 65536 = (y : Int) := by omega
      have x1 : x < 65536 := by omega
      have y1 : y < 65536 := by omega
      have t3 : Sm q := sm_of_le (by omega) t2
      have t4 : Sm p := sm_of_le (by omega) t1
      rw [← hx, ← hy, ← hq, ← hp] at hstep
      have hdl : D.length = 8 := hT.1.1
      replace hstep := Lib.hid hstep
      clear hT
      have n1 : ¬ w.heap.size + 1 + 1 = w.heap.size := by omega
      have n2 : ¬ w.heap.size = w.heap.size + 1 + 1 := by omega
      have w1 := wrap_dig x1
      have w2 := wrap_dig y1
      have w3 := wrap_quo t2 hq
      have w4 := wrap_quo t1 hp
      clear x1 y1 hx hy hq hp
      have ca : wr.cell? ⟨w.heap.size, 0, none⟩ = some (.int .u64 (h' : Int)) := ba.cell 0
      have cb : wr.cell? ⟨w.heap.size, 1, none⟩ = some (.int .u64 (l' : Int)) := ba.cell 1
      have fa := ba.frozen 0
      have fb := ba.frozen 1
      have cd : wr.cell? ⟨w.heap.size + 1 + 1, k, none⟩ = some (.int .i64 (nthN D k : Int)) := (bd.cell k).trans (numC_at D _ k (by omega))
      have ce : wr.cell? ⟨w.heap.size + 1 + 1, 4 + k, none⟩ = some (.int .i64 (nthN D (4 + k) : Int)) := (bd.cell (4 + k)).trans (numC_at D _ (4 + k) (by omega))
      have fd := bd.frozen k
      have fe := bd.frozen (4 + k)
      go_wp2
      clear w1 w2 w3 w4 m1 m2 ca cb fa fb cd ce fd fe t1 t2
      refine ⟨⟨k + 1, p, q, (D.set k x).set (4 + k) y, by omega, by go_num, t4, t3, hstep.out, ?_⟩, by simp [intOf]; omega⟩
      clear hstep t3 t4
      have e1 := (((bd.set_ k (.int .i64 (x : Int))).far (p := ⟨w.heap.size, 1, none⟩) n1 (.int .u64 (q : Int))).set_ (4 + k) (.int .i64 (y : Int))).far (p := ⟨w.heap.size, 0, none⟩) n1 (.int .u64 (p : Int))
      rw [numC_set D false k x hdl (by omega), numC_set _ false (4 + k) y (by rw [List.length_set]; exact hdl) (by omega)] at e1
      have e2 := (((ba.far (p := ⟨w.heap.size + 1 + 1, k, none⟩) n2 (.int .i64 (x : Int))).set_ 1 (.int .u64 (q : Int))).far (p := ⟨w.heap.size + 1 + 1, 4 + k, none⟩) n2 (.int .i64 (y : Int))).set_ 0 (.int .u64 (p : Int))
      exact ⟨(((hB.setCell (by simp; omega) _).setCell (by simp) _).setCell (by simp; omega) _).setCell (by simp) _, by simpa using e2, (((br.far (by simp) _).far (by simp) _).far (by simp) _).far (by simp) _, e1⟩
    · obtain rfl : k = 4 := by omega
      obtain ⟨hd, hv⟩ := hT.done
      clear hT hlt t1 t2 ba
      obtain ⟨c0, c1, c2, c3, c4, c5, c6, c7, c8⟩ := num_cells bd
      obtain ⟨r0, r1, r2, r3, r4, r5, r6, r7, r8⟩ := num_cells br
      obtain ⟨z0, z1, z2, z3, z4, z5, z6, z7, z8⟩ := num_free br
      replace hv := Lib.hid hv
      go_wp2
      rw [nine_fold wr (w.heap.size + 1) D false]
      have b9 := nine_blk D false br
      have B9 := nine_below D false hB (g := w.heap.size + 1) (by omega)
      generalize nine wr (w.heap.size + 1) D false = w9 at *
      obtain ⟨y0, y1, y2, y3, y4, y5, y6, y7, y8⟩ := num_cells b9
      refine bodyPost_ret (v := numV D false) (by simp [results, Try.results41, go_sem, y0, y1, y2, y3, y4, y5, y6, y7, y8, numV]) rfl ?_
      exact ⟨D, rfl, hd, hv.out, B9⟩
end Go.Proofs.Ytiamppbgpoffmaa

namespace Go.Proofs.Ytiamppbgpoffmaa
open Go.RowKit
set_option linter.unusedVariables false

theorem nthN_ext : ∀ (D E : List Nat), D.length = E.length → (∀ j, nthN D j = nthN E j) → D = E
  | [], [], _, _ => rfl
  | d :: D, e :: E, hl, h => by
    have h0 : d = e := by simpa [nthN] using h 0
    rw [h0, nthN_ext D E (by simpa using hl) (fun j => by have := h (j + 1); simpa [nthN] using this)]
/-- Where digits differ for the first time, from above, the numbers do. -/
theorem val_lt_at : ∀ (D E : List Nat) (i : Nat), D.length = E.length → i < D.length → (∀ j, nthN D j < 65536) → (∀ j, nthN E j < 65536) → (∀ j, i < j → nthN D j = nthN E j) → nthN D i < nthN E i → val D < val E
  | [], _, i, hl, hi, _, _, _, _ => by simp at hi
  | d :: D, [], i, hl, hi, _, _, _, _ => by simp at hl
  | d :: D, e :: E, 0, hl, hi, h1, h2, hj, hlt => by
    have : D = E := nthN_ext D E (by simpa using hl) (fun j => by have := hj (j + 1) (by omega); simpa [nthN] using this)
    subst this
    have : d < e := by simpa [nthN] using hlt
    rw [val, val]
    omega
  | d :: D, e :: E, i + 1, hl, hi, h1, h2, hj, hlt => by
    have ih := val_lt_at D E i (by simpa using hl) (by simpa using hi) (fun j => by have := h1 (j + 1); simpa [nthN] using this) (fun j => by have := h2 (j + 1); simpa [nthN] using this)
      (fun j hh => by have := hj (j + 1) (by omega); simpa [nthN] using this) (by simpa [nthN] using hlt)
    have hd : d < 65536 := by simpa [nthN] using h1 0
    rw [val, val]
    omega
def CmpAt (w wr : World) (D E : List Nat) (o p : Bool) : Prop := Below w.heap.size w wr ∧ Blk wr w.heap.size 75 (numC D o) ∧ Blk wr (w.heap.size + 1) 75 (numC E p)
theorem cmpAt_start (w : World) (D E : List Nat) (o p : Bool) : CmpAt w ((w.alloc (.cells (numC D o) 75)).alloc (.cells (numC E p) 75)) D E o p := by
  have e1 : (w.alloc (.cells (numC D o) 75)).heap.size = w.heap.size + 1 := by simp
  refine ⟨((Below.refl _ _).alloc (Nat.le_refl _) _).alloc (by simp) _, (Blk.new _ _ _).alloc _, ?_⟩
  have := Blk.new (w.alloc (.cells (numC D o) 75)) 75 (numC E p)
  rwa [e1] at this
theorem cmpAt_drawn {w wr : World} {D E : List Nat} {o p : Bool} (h : CmpAt w wr D E o p) (n : Nat) : CmpAt w (wr.drewN n) D E o p := ⟨below_drewN h.1 n, h.2.1, h.2.2⟩
set_option maxRecDepth 100000 in
set_option maxHeartbeats 4000000 in
theorem ncmp_any (D E : List Nat) (o p : Bool) (hD : Dig D) (hE : Dig E) (w : World) : Calls Try.prog 40 #[numV D o, numV E p] w (CmpPost w (cmpN (val D) (val E))) := by
  unfold numV
  go_enter Try.func40, Try.ntmps40
  go_wp2
  go_loopw [5] (fun iv wr => ∃ k : Nat, k ≤ 8 ∧ iv = .int .i64 ((k : Int) - 1) ∧ (∀ j, k ≤ j → nthN D j = nthN E j) ∧ CmpAt w wr D E o p) (fun iv _ => (intOf iv + 1).toNat)
  case atStart =>
    refine ⟨8, by omega, rfl, fun j hj => ?_, cmpAt_start w D E o p⟩
    have h1 : nthN D j = 0 := by unfold nthN; rw [List.getD_eq_getElem?_getD, List.getElem?_eq_none (by rw [hD.1]; exact hj)]; rfl
    have h2 : nthN E j = 0 := by unfold nthN; rw [List.getD_eq_getElem?_getD, List.getElem?_eq_none (by rw [hE.1]; exact hj)]; rfl
    rw [h1, h2]
  case round =>
    obtain ⟨k, hk, rfl, heq, hA⟩ := hrel
    cases k with
    | succ i =>
      have i0 : (0 : Int) ≤ ((i + 1 : Nat) : Int) - 1 := by omega
      have e0 : ((i + 1 : Nat) : Int) - 1 = (i : Int) := by omega
      rw [e0]
      have i1 : (0 : Int) ≤ (i : Int) := by omega
      have i8 : (i : Int) < 8 := by omega
      have ca : wr.cell? ⟨w.heap.size, i, none⟩ = some (.int .i64 (nthN D i : Int)) := (hA.2.1.cell i).trans (numC_at D _ i (by omega))
      have cb : wr.cell? ⟨w.heap.size + 1, i, none⟩ = some (.int .i64 (nthN E i : Int)) := (hA.2.2.cell i).trans (numC_at E _ i (by omega))
      have hc : ((nthN D i : Int) == (nthN E i : Int)) = true ∧ (∀ j, i ≤ j → nthN D j = nthN E j) ∨ ((nthN D i : Int) == (nthN E i : Int)) = false ∧ (nthN D i : Int) < (nthN E i : Int) ∧ cmpN (val D) (val E) = -1 ∨
          ((nthN D i : Int) == (nthN E i : Int)) = false ∧ (nthN E i : Int) ≤ (nthN D i : Int) ∧ cmpN (val D) (val E) = 1 := by
        by_cases e : nthN D i = nthN E i
        · refine .inl ⟨by simp; omega, fun j hj => ?_⟩
          by_cases h : j = i
          · rw [h]; exact e
          · exact heq j (by omega)
        · by_cases hlt : nthN D i < nthN E i
          · have := val_lt_at D E i (by rw [hD.1, hE.1]) (by rw [hD.1]; omega) hD.2 hE.2 (fun j hj => heq j (by omega)) hlt
            exact .inr (.inl ⟨by simp; omega, by omega, by unfold cmpN; rw [if_neg (by omega), if_pos (by omega)]⟩)
          · have := val_lt_at E D i (by rw [hD.1, hE.1]) (by rw [hE.1]; omega) hE.2 hD.2 (fun j hj => (heq j (by omega)).symm) (by omega)
            exact .inr (.inr ⟨by simp; omega, by omega, by unfold cmpN; rw [if_neg (by omega), if_neg (by omega)]⟩)
      clear heq
      replace hA := Lib.hid hA
      rcases hc with ⟨q, hn⟩ | ⟨q, hq, hn⟩ | ⟨q, hq, hn⟩
      · replace hn := Lib.hid hn
        go_wp2_with fail
        go_quiet (fail)
        go_wp2
        exact ⟨⟨i, by omega, rfl, hn.out, cmpAt_drawn hA.out nq⟩, by simp [intOf]⟩
      · replace hn := Lib.hid hn
        go_wp2_with fail
        go_quiet (fail)
        go_wp2_with fail
        go_quiet (fail)
        go_wp2
        go_ret
        rw [hn.out]
        exact ⟨rfl, below_drewN (below_drewN hA.out.1 _) _⟩
      · replace hn := Lib.hid hn
        go_wp2_with fail
        go_quiet (fail)
        go_wp2_with fail
        go_quiet (fail)
        go_wp2
        go_ret
        rw [hn.out]
        exact ⟨rfl, below_drewN (below_drewN hA.out.1 _) _⟩
    | zero =>
      have hz : cmpN (val D) (val E) = 0 := by
        have : D = E := nthN_ext D E (by rw [hD.1, hE.1]) (fun j => heq j (by omega))
        unfold cmpN
        rw [if_pos (by rw [this])]
      replace hz := Lib.hid hz
      clear heq
      rw [show (((0 : Nat) : Int) - 1) = -1 by omega]
      go_wp2
      go_ret
      rw [hz.out]
      exact ⟨rfl, hA.1⟩
end Go.Proofs.Ytiamppbgpoffmaa

namespace Go.Proofs.Ytiamppbgpoffmaa
open Go.RowKit
set_option linter.unusedVariables false

theorem decide_cmp (a b : Nat) : decide (cmpN a b < 0) = decide (a < b) := by
  unfold cmpN
  split
  · rw [decide_eq_false (by omega), decide_eq_false (by omega)]
  · split
    · rw [decide_eq_true (by omega), decide_eq_true (by omega)]
    · rw [decide_eq_false (by omega), decide_eq_false (by omega)]
set_option maxRecDepth 100000 in
set_option maxHeartbeats 4000000 in
theorem less_any (ah al bh bl : Nat) (s1 : Sm ah) (s2 : Sm al) (s3 : Sm bh) (s4 : Sm bl) (w : World) :
    Calls Try.prog 24 #[.agg #[.int .u64 (ah : Int), .int .u64 (al : Int)], .agg #[.int .u64 (bh : Int), .int .u64 (bl : Int)]] w fun e w' => e = .returned (.bool (decide (wh ah al < wh bh bl))) ∧ Below w.heap.size w w' := by
  have T0 := (Two.start w ah al bh bl).drew
  obtain ⟨c, hc⟩ : ∃ c : Int, c = cmpN (wh ah al) (wh bh bl) := ⟨_, rfl⟩
  have hr := decide_cmp (wh ah al) (wh bh bl)
  rw [← hc] at hr
  replace hr := Lib.hid hr
  replace hc := Lib.hid hc
  go_enter Try.func24, Try.ntmps24
  go_wp2_with fail
  go_region_with (first
    | (go_at_call 41; (with_reducible refine (of_any ah al s1 s2 _).mono ?_); rintro e x1 ⟨D, rfl, hd, hv, y1⟩; have T1 := T0.more y1; obtain ⟨d0, d1, d2, d3⟩ := T1.cells; replace hv := Lib.hid hv)
    | (go_at_call 41; (with_reducible refine (of_any bh bl s3 s4 _).mono ?_); rintro e x2 ⟨E, rfl, he, hv2, y2⟩; have T2 := T1.more y2; replace hv2 := Lib.hid hv2)
    | (go_at_call 40; (with_reducible refine (ncmp_any D E false false hd he _).mono ?_); rintro e x3 ⟨rfl, y3⟩; have T3 := T2.more y3; rw [hv.out, hv2.out, ← hc.out]))
  all_goals
    go_wp2
    refine bodyPost_ret (v := .bool (decide (c < 0))) (by simp [results, Try.results24, go_sem]) rfl ?_
    exact ⟨by rw [hr.out], T3.1⟩
end Go.Proofs.Ytiamppbgpoffmaa

namespace Go.Proofs.Ytiamppbgpoffmaa
open Go.RowKit
set_option linter.unusedVariables false

/-! ### Square -/
set_option maxRecDepth 100000 in
theorem rsq_d (n : Int) (d q : Nat) (hd : n.natAbs = d) (hn : wrap64 (-n) = -n) (h1 : IntKind.u64.wrap (d : Int) = (d : Int)) (h2 : IntKind.u64.wrap ((d : Int) * (d : Int)) = (q : Int)) (w : World) :
    Calls Try.prog 54 #[.int .i64 n] w fun e w' => e = .returned (.agg #[.int .u64 0, .int .u64 (q : Int)]) ∧ Below w.heap.size w w' := by
  have b0 := Blk.new w 44 #[.int .u64 0, .int .u64 0]
  have B0 := below_alloc1 w (.cells #[.int .u64 0, .int .u64 0] 44)
  have fin : ∀ w1, Below w.heap.size w w1 → Blk w1 w.heap.size 44 #[.int .u64 0, .int .u64 0] → Below w.heap.size w ((w1.setCell ⟨w.heap.size, 0, none⟩ (.int .u64 0)).setCell ⟨w.heap.size, 1, none⟩ (.int .u64 (q : Int))) ∧
      Blk ((w1.setCell ⟨w.heap.size, 0, none⟩ (.int .u64 0)).setCell ⟨w.heap.size, 1, none⟩ (.int .u64 (q : Int))) w.heap.size 44 #[.int .u64 0, .int .u64 (q : Int)] := fun w1 hB hb =>
    ⟨(hB.setCell (p := ⟨w.heap.size, 0, none⟩) (Nat.le_refl _) _).setCell (p := ⟨w.heap.size, 1, none⟩) (Nat.le_refl _) _, pair_set hb⟩
  replace fin := Lib.hid fin
  by_cases h : n < 0
  · have e1 : -n = (d : Int) := by omega
    rw [e1] at hn
    have hn2 : wrap64 (-n) = (d : Int) := by rw [e1]; exact hn
    replace h1 := Lib.hid h1
    replace h2 := Lib.hid h2
    replace hn := Lib.hid hn2
    clear hd hn2 e1
    go_enter Try.func54, Try.ntmps54
    go_upto_region 3 with fail
    rw [hn.out]
    generalize w.alloc (.cells #[.int .u64 0, .int .u64 0] 44) = w0 at *
    have c0 : w0.cell? ⟨w.heap.size, 0, none⟩ = some (.int .u64 0) := b0.cell 0
    have c1 : w0.cell? ⟨w.heap.size, 1, none⟩ = some (.int .u64 0) := b0.cell 1
    have f0 := b0.frozen 0
    have f1 := b0.frozen 1
    have k1 := h1.out
    have k2 := h2.out
    go_wp2_with fail
    obtain ⟨B9, b9⟩ := fin.out w0 B0 b0
    generalize ((w0.setCell ⟨w.heap.size, 0, none⟩ (.int .u64 0)).setCell ⟨w.heap.size, 1, none⟩ (.int .u64 (q : Int))) = w9 at *
    have m0 : w9.cell? ⟨w.heap.size, 0, none⟩ = some (.int .u64 0) := b9.cell 0
    have m1 : w9.cell? ⟨w.heap.size, 1, none⟩ = some (.int .u64 (q : Int)) := b9.cell 1
    refine bodyPost_ret (v := .agg #[.int .u64 0, .int .u64 (q : Int)]) (by simp [results, Try.results54, go_sem, m0, m1]) rfl ?_
    exact ⟨rfl, B9⟩
  · obtain rfl : n = (d : Int) := by omega
    have h0 : (0 : Int) ≤ (d : Int) := by omega
    replace h1 := Lib.hid h1
    replace h2 := Lib.hid h2
    clear hd hn h
    go_enter Try.func54, Try.ntmps54
    go_upto_region 3 with fail
    generalize w.alloc (.cells #[.int .u64 0, .int .u64 0] 44) = w0 at *
    have c0 : w0.cell? ⟨w.heap.size, 0, none⟩ = some (.int .u64 0) := b0.cell 0
    have c1 : w0.cell? ⟨w.heap.size, 1, none⟩ = some (.int .u64 0) := b0.cell 1
    have f0 := b0.frozen 0
    have f1 := b0.frozen 1
    have k1 := h1.out
    have k2 := h2.out
    go_wp2_with fail
    obtain ⟨B9, b9⟩ := fin.out w0 B0 b0
    generalize ((w0.setCell ⟨w.heap.size, 0, none⟩ (.int .u64 0)).setCell ⟨w.heap.size, 1, none⟩ (.int .u64 (q : Int))) = w9 at *
    have m0 : w9.cell? ⟨w.heap.size, 0, none⟩ = some (.int .u64 0) := b9.cell 0
    have m1 : w9.cell? ⟨w.heap.size, 1, none⟩ = some (.int .u64 (q : Int)) := b9.cell 1
    refine bodyPost_ret (v := .agg #[.int .u64 0, .int .u64 (q : Int)]) (by simp [results, Try.results54, go_sem, m0, m1]) rfl ?_
    exact ⟨rfl, B9⟩
/-- A difference of coordinates. -/
def DifOk (n : Int) : Prop := -4294967294 ≤ n ∧ n ≤ 4294967294
theorem rsq_any (n : Int) (h : DifOk n) (w : World) : Calls Try.prog 54 #[.int .i64 n] w fun e w' => e = .returned (.agg #[.int .u64 (hiN (sqN n) : Int), .int .u64 (loN (sqN n) : Int)]) ∧ Below w.heap.size w w' := by
  obtain ⟨h1, h2⟩ := h
  have hd : n.natAbs ≤ 4294967294 := by omega
  have hs : sqN n ≤ 18446744056529682436 := by
    unfold sqN
    calc _ ≤ 4294967294 * 4294967294 := Nat.mul_le_mul hd hd
      _ = _ := by decide
  have e1 : hiN (sqN n) = 0 := by unfold hiN; omega
  have e2 : loN (sqN n) = sqN n := by unfold loN; omega
  rw [e1, e2]
  refine rsq_d n n.natAbs (sqN n) rfl ?_ ?_ ?_ w
  · simp only [wrap64]; omega
  · rw [IntKind.wrap_u64]; omega
  · rw [← Int.natCast_mul]
    show IntKind.u64.wrap ((sqN n : Nat) : Int) = _
    rw [IntKind.wrap_u64]; omega

/-! ### Sum -/
/-- Sum's memory: the boxes, the result, the number that is built. -/
def SumAt (w w' : World) (ah al bh bl p l : Nat) : Prop := Below w.heap.size w w' ∧ Blk w' w.heap.size 44 #[.int .u64 (ah : Int), .int .u64 (al : Int)] ∧ Blk w' (w.heap.size + 1) 44 #[.int .u64 (bh : Int), .int .u64 (bl : Int)] ∧
  Blk w' (w.heap.size + 1 + 1) 44 #[.int .u64 0, .int .u64 0] ∧ Blk w' (w.heap.size + 1 + 1 + 1) 44 #[.int .u64 (p : Int), .int .u64 (l : Int)]
theorem SumAt.start (w : World) (ah al bh bl p l : Nat) : SumAt w ((((w.alloc (.cells #[.int .u64 (ah : Int), .int .u64 (al : Int)] 44)).alloc (.cells #[.int .u64 (bh : Int), .int .u64 (bl : Int)] 44)).alloc (.cells #[.int .u64 0, .int .u64 0] 44)).alloc (.cells #[.int .u64 (p : Int), .int .u64 (l : Int)] 44)) ah al bh bl p l := by
  have T := Two.start w ah al bh bl
  have z : ((w.alloc (.cells #[.int .u64 (ah : Int), .int .u64 (al : Int)] 44)).alloc (.cells #[.int .u64 (bh : Int), .int .u64 (bl : Int)] 44)).heap.size = w.heap.size + 1 + 1 := by simp
  generalize (w.alloc (.cells #[.int .u64 (ah : Int), .int .u64 (al : Int)] 44)).alloc (.cells #[.int .u64 (bh : Int), .int .u64 (bl : Int)] 44) = w2 at *
  have b3 := (Blk.new w2 44 #[.int .u64 0, .int .u64 0]).alloc (.cells #[.int .u64 (p : Int), .int .u64 (l : Int)] 44)
  have b4 := Blk.new (w2.alloc (.cells #[.int .u64 0, .int .u64 0] 44)) 44 #[.int .u64 (p : Int), .int .u64 (l : Int)]
  rw [show (w2.alloc (.cells #[.int .u64 0, .int .u64 0] 44)).heap.size = w2.heap.size + 1 by simp, z] at b4
  rw [z] at b3
  have T3 := (T.more (below_alloc1 _ (.cells #[.int .u64 0, .int .u64 0] 44))).more (below_alloc1 _ (.cells #[.int .u64 (p : Int), .int .u64 (l : Int)] 44))
  exact ⟨T3.1, T3.2.1, T3.2.2, b3, b4⟩
set_option maxRecDepth 100000 in
set_option maxHeartbeats 2000000 in
theorem rsum_flat (ah al bh bl p l : Nat) (hp : IntKind.u64.wrap ((ah : Int) + (bh : Int)) = (p : Int)) (hl : IntKind.u64.wrap ((al : Int) + (bl : Int)) = (l : Int)) (hc : al ≤ l) (w : World) :
    Calls Try.prog 53 #[.agg #[.int .u64 (ah : Int), .int .u64 (al : Int)], .agg #[.int .u64 (bh : Int), .int .u64 (bl : Int)]] w fun e w' => e = .returned (.agg #[.int .u64 (p : Int), .int .u64 (l : Int)]) ∧ Below w.heap.size w w' := by
  have S := SumAt.start w ah al bh bl p l
  have hc' : ¬ ((l : Int) < (al : Int)) := by omega
  clear hc
  go_enter Try.func53, Try.ntmps53
  go_upto_region 2 with fail
  generalize ((((w.alloc (.cells #[.int .u64 (ah : Int), .int .u64 (al : Int)] 44)).alloc (.cells #[.int .u64 (bh : Int), .int .u64 (bl : Int)] 44)).alloc (.cells #[.int .u64 0, .int .u64 0] 44)).alloc (.cells #[.int .u64 (p : Int), .int .u64 (l : Int)] 44)) = w4 at *
  have a1 : w4.cell? ⟨w.heap.size, 1, none⟩ = some (.int .u64 (al : Int)) := S.2.1.cell 1
  have q0 : w4.cell? ⟨w.heap.size + 1 + 1 + 1, 0, none⟩ = some (.int .u64 (p : Int)) := S.2.2.2.2.cell 0
  have q1 : w4.cell? ⟨w.heap.size + 1 + 1 + 1, 1, none⟩ = some (.int .u64 (l : Int)) := S.2.2.2.2.cell 1
  have z0 : w4.cell? ⟨w.heap.size + 1 + 1, 0, none⟩ = some (.int .u64 0) := S.2.2.2.1.cell 0
  have z1 : w4.cell? ⟨w.heap.size + 1 + 1, 1, none⟩ = some (.int .u64 0) := S.2.2.2.1.cell 1
  have f0 := S.2.2.2.1.frozen 0
  have f1 := S.2.2.2.1.frozen 1
  clear hp hl
  go_wp2_with fail
  have B9 := (S.1.setCell (p := ⟨w.heap.size + 1 + 1, 0, none⟩) (by simp; omega) (.int .u64 (p : Int))).setCell (p := ⟨w.heap.size + 1 + 1, 1, none⟩) (by simp; omega) (.int .u64 (l : Int))
  have b9 := pair_set (u := .int .u64 (p : Int)) (v := .int .u64 (l : Int)) S.2.2.2.1
  generalize ((w4.setCell ⟨w.heap.size + 1 + 1, 0, none⟩ _).setCell ⟨w.heap.size + 1 + 1, 1, none⟩ _) = w9 at *
  have m0 : w9.cell? ⟨w.heap.size + 1 + 1, 0, none⟩ = some (.int .u64 (p : Int)) := b9.cell 0
  have m1 : w9.cell? ⟨w.heap.size + 1 + 1, 1, none⟩ = some (.int .u64 (l : Int)) := b9.cell 1
  refine bodyPost_ret (v := .agg #[.int .u64 (p : Int), .int .u64 (l : Int)]) (by simp [results, Try.results53, go_sem, m0, m1]) rfl ?_
  exact ⟨rfl, B9⟩
set_option maxRecDepth 100000 in
set_option maxHeartbeats 2000000 in
theorem rsum_carry (ah al bh bl p l h : Nat) (hp : IntKind.u64.wrap ((ah : Int) + (bh : Int)) = (p : Int)) (hl : IntKind.u64.wrap ((al : Int) + (bl : Int)) = (l : Int)) (hh : IntKind.u64.wrap ((p : Int) + 1) = (h : Int)) (hc : l < al) (w : World) :
    Calls Try.prog 53 #[.agg #[.int .u64 (ah : Int), .int .u64 (al : Int)], .agg #[.int .u64 (bh : Int), .int .u64 (bl : Int)]] w fun e w' => e = .returned (.agg #[.int .u64 (h : Int), .int .u64 (l : Int)]) ∧ Below w.heap.size w w' := by
  have S := SumAt.start w ah al bh bl p l
  have hc' : (l : Int) < (al : Int) := by omega
  clear hc
  replace hh := Lib.hid hh
  go_enter Try.func53, Try.ntmps53
  go_upto_region 2 with fail
  generalize ((((w.alloc (.cells #[.int .u64 (ah : Int), .int .u64 (al : Int)] 44)).alloc (.cells #[.int .u64 (bh : Int), .int .u64 (bl : Int)] 44)).alloc (.cells #[.int .u64 0, .int .u64 0] 44)).alloc (.cells #[.int .u64 (p : Int), .int .u64 (l : Int)] 44)) = w4 at *
  have a1 : w4.cell? ⟨w.heap.size, 1, none⟩ = some (.int .u64 (al : Int)) := S.2.1.cell 1
  have q0 : w4.cell? ⟨w.heap.size + 1 + 1 + 1, 0, none⟩ = some (.int .u64 (p : Int)) := S.2.2.2.2.cell 0
  have q1 : w4.cell? ⟨w.heap.size + 1 + 1 + 1, 1, none⟩ = some (.int .u64 (l : Int)) := S.2.2.2.2.cell 1
  have z0 : w4.cell? ⟨w.heap.size + 1 + 1, 0, none⟩ = some (.int .u64 0) := S.2.2.2.1.cell 0
  have z1 : w4.cell? ⟨w.heap.size + 1 + 1, 1, none⟩ = some (.int .u64 0) := S.2.2.2.1.cell 1
  have f0 := S.2.2.2.1.frozen 0
  have f1 := S.2.2.2.1.frozen 1
  have f2 := S.2.2.2.2.frozen 0
  clear hp hl
  have hh2 := hh.out
  go_upto_region 4 with fail
  replace S : SumAt w (w4.setCell ⟨w.heap.size + 1 + 1 + 1, 0, none⟩ (.int .u64 (h : Int))) ah al bh bl h l :=
    ⟨S.1.setCell (p := ⟨w.heap.size + 1 + 1 + 1, 0, none⟩) (by simp; omega) _, S.2.1.far (by simp; omega) _, S.2.2.1.far (by simp) _, S.2.2.2.1.far (by simp) _, S.2.2.2.2.set_ 0 _⟩
  clear a1 q0 q1 z0 z1 f0 f1 f2 hh2 hh
  generalize w4.setCell ⟨w.heap.size + 1 + 1 + 1, 0, none⟩ (.int .u64 (h : Int)) = w5 at *
  have a1 : w5.cell? ⟨w.heap.size, 1, none⟩ = some (.int .u64 (al : Int)) := S.2.1.cell 1
  have q0 : w5.cell? ⟨w.heap.size + 1 + 1 + 1, 0, none⟩ = some (.int .u64 (h : Int)) := S.2.2.2.2.cell 0
  have q1 : w5.cell? ⟨w.heap.size + 1 + 1 + 1, 1, none⟩ = some (.int .u64 (l : Int)) := S.2.2.2.2.cell 1
  have z0 : w5.cell? ⟨w.heap.size + 1 + 1, 0, none⟩ = some (.int .u64 0) := S.2.2.2.1.cell 0
  have z1 : w5.cell? ⟨w.heap.size + 1 + 1, 1, none⟩ = some (.int .u64 0) := S.2.2.2.1.cell 1
  have f0 := S.2.2.2.1.frozen 0
  have f1 := S.2.2.2.1.frozen 1
  go_wp2_with fail
  have B9 := (S.1.setCell (p := ⟨w.heap.size + 1 + 1, 0, none⟩) (by simp; omega) (.int .u64 (h : Int))).setCell (p := ⟨w.heap.size + 1 + 1, 1, none⟩) (by simp; omega) (.int .u64 (l : Int))
  have b9 := pair_set (u := .int .u64 (h : Int)) (v := .int .u64 (l : Int)) S.2.2.2.1
  generalize ((w5.setCell ⟨w.heap.size + 1 + 1, 0, none⟩ _).setCell ⟨w.heap.size + 1 + 1, 1, none⟩ _) = w9 at *
  have m0 : w9.cell? ⟨w.heap.size + 1 + 1, 0, none⟩ = some (.int .u64 (h : Int)) := b9.cell 0
  have m1 : w9.cell? ⟨w.heap.size + 1 + 1, 1, none⟩ = some (.int .u64 (l : Int)) := b9.cell 1
  refine bodyPost_ret (v := .agg #[.int .u64 (h : Int), .int .u64 (l : Int)]) (by simp [results, Try.results53, go_sem, m0, m1]) rfl ?_
  exact ⟨rfl, B9⟩
theorem rsum_any (a b : Nat) (h : Wd (a + b)) (w : World) :
    Calls Try.prog 53 #[.agg #[.int .u64 (hiN a : Int), .int .u64 (loN a : Int)], .agg #[.int .u64 (hiN b : Int), .int .u64 (loN b : Int)]] w fun e w' => e = .returned (.agg #[.int .u64 (hiN (a + b) : Int), .int .u64 (loN (a + b) : Int)]) ∧ Below w.heap.size w w' := by
  unfold Wd at h
  by_cases hc : loN a + loN b < 18446744073709551616
  · have e1 : hiN (a + b) = hiN a + hiN b := by unfold hiN loN at *; omega
    have e2 : loN (a + b) = loN a + loN b := by unfold loN at *; omega
    rw [e1, e2]
    refine rsum_flat _ _ _ _ _ _ ?_ ?_ (by omega) w
    · rw [IntKind.wrap_u64]; unfold hiN; omega
    · rw [IntKind.wrap_u64]; omega
  · have e1 : hiN (a + b) = hiN a + hiN b + 1 := by unfold hiN loN at *; omega
    have e2 : loN (a + b) = loN a + loN b - 18446744073709551616 := by unfold loN at *; omega
    have e3 : loN a < 18446744073709551616 ∧ loN b < 18446744073709551616 := by unfold loN; omega
    rw [e1, e2]
    refine rsum_carry _ _ _ _ (hiN a + hiN b) _ _ ?_ ?_ ?_ (by omega) w
    · rw [IntKind.wrap_u64]; unfold hiN; omega
    · rw [IntKind.wrap_u64]; omega
    · rw [IntKind.wrap_u64]; unfold hiN at *; omega

/-! ### Less -/
theorem less_c (a b : Nat) (ha : Wd a) (hb : Wd b) (w : World) : Calls Try.prog 24 #[.agg #[.int .u64 (hiN a : Int), .int .u64 (loN a : Int)], .agg #[.int .u64 (hiN b : Int), .int .u64 (loN b : Int)]] w fun e w' => e = .returned (.bool (decide (a < b))) ∧ Below w.heap.size w w' := by
  have h := less_any (hiN a) (loN a) (hiN b) (loN b) (sm_hi a ha) (sm_lo a) (sm_hi b hb) (sm_lo b) w
  rw [wh_hl, wh_hl] at h
  exact h

/-! ### Far -/
theorem dif_ok {a b : Int} (ha : -2147483647 ≤ a ∧ a ≤ 2147483647) (hb : -2147483647 ≤ b ∧ b ≤ 2147483647) : DifOk (a - b) ∧ wrap64 (a - b) = a - b := by
  refine ⟨by unfold DifOk; omega, ?_⟩
  simp only [wrap64]
  omega
theorem dif_wrap {n : Int} (h : DifOk n) : IntKind.i64.wrap n = n := by
  obtain ⟨h1, h2⟩ := h
  rw [IntKind.wrap_i64]
  omega
set_option maxRecDepth 100000 in
set_option maxHeartbeats 4000000 in
theorem rfar_any (A B : Option Addr) (a b : List Int) (c d : Nat) (hl : b.length = a.length) (hca : CoordTo a a.length) (hcb : CoordTo b b.length) (h64 : a.length ≤ 64) (w : World) (hA : Row w A a) (hB : Row w B b) :
    Calls Try.prog 37 #[.slice A a.length c, .slice B b.length d] w fun e w' => e = .returned (.agg #[.int .u64 (hiN (farN a b) : Int), .int .u64 (loN (farN a b) : Int)]) ∧ Below w.heap.size w w' := by
  have S0 := FarS.start w
  rw [hl] at hcb
  replace hca := Lib.hid hca
  replace hcb := Lib.hid hcb
  rw [hl]
  go_enter Try.func37, Try.ntmps37
  go_wp2_with fail
  generalize (w.alloc (.cells #[.int .u64 0, .int .u64 0] 44)).alloc (.cells #[.int .u64 0, .int .u64 0] 44) = w0 at *
  go_loopw [6] (fun i wr => ∃ k : Nat, k ≤ a.length ∧ i = .int .i64 (k : Int) ∧ FarS w (farTo a b k) wr) (fun i _ => a.length - (intOf i).toNat)
  case atStart => exact ⟨0, Nat.zero_le _, rfl, S0⟩
  case round =>
    obtain ⟨k, hk, rfl, hS⟩ := hrel
    clear S0
    by_cases hlt : k < a.length
    · obtain ⟨g1, o1, rfl, hc1⟩ := hA k hlt
      obtain ⟨g2, o2, rfl, hc2⟩ := hB k (by omega)
      have p0 : (0 : Int) ≤ (k : Int) := by omega
      have p1 : (k : Int) < (a.length : Int) := by omega
      have d1 : (World.drew wr).cell? ⟨g1, o1 + k, none⟩ = some (.int .i64 (nth a k)) := below_cell hS.1 hc1
      have d2 : (World.drew wr).cell? ⟨g2, o2 + k, none⟩ = some (.int .i64 (nth b k)) := below_cell hS.1 hc2
      replace hS := hS.drew
      obtain ⟨c1, c2, f1, f2⟩ := hS.sum
      have hW : Hid (Wd (farTo a b k + sqN (nth a k - nth b k))) := Lib.hid (farTo_wd (k := k + 1) (by omega) (fun j hj => hca.out j (by omega)) (fun j hj => hcb.out j (by omega)))
      obtain ⟨u1, u2⟩ := dif_ok (hca.out k hlt) (hcb.out k hlt)
      have hP := Lib.hid (rsq_any (nth a k - nth b k) u1)
      have hQ := Lib.hid (rsum_any (farTo a b k) (sqN (nth a k - nth b k)) hW.out)
      replace u1 := Lib.hid u1
      have u3 : IntKind.i64.wrap (nth a k - nth b k) = nth a k - nth b k := dif_wrap u1.out
      go_wp2_with fail
      go_region_with
        (first
        | (go_at_call 54; (with_reducible refine (hP.out _).mono ?_); rintro e w1 ⟨rfl, hb1⟩; have S1 := hS.more hb1; obtain ⟨c5, c6, f5, f6⟩ := S1.sum)
        | (go_at_call 53; (with_reducible refine (hQ.out _).mono ?_); rintro e w2 ⟨rfl, hb2⟩; have S2 := S1.more hb2; obtain ⟨c3, c4, f3, f4⟩ := S2.sum))
      all_goals
        have S3 := S2.put (farTo a b k + sqN (nth a k - nth b k))
        generalize ((w2.setCell ⟨w.heap.size + 1, 0, none⟩ _).setCell ⟨w.heap.size + 1, 1, none⟩ _) = w3 at *
        clear c1 c2 c3 c4 f1 f2 f3 f4 d1 d2 u2 u3
        go_wp2_with fail
        exact ⟨⟨k + 1, by omega, by go_num, S3⟩, by simp [intOf]; omega⟩
    · obtain rfl : k = a.length := by omega
      obtain ⟨c1, c2, f1, f2⟩ := hS.sum
      have z0 := hS.2.1.cell 0
      have z1 := hS.2.1.cell 1
      simp only [List.getElem?_toArray, List.getElem?_cons_zero, List.getElem?_cons_succ] at z0 z1
      have z2 := hS.2.1.frozen 0
      have z3 := hS.2.1.frozen 1
      go_wp2_with fail
      have B9 := (hS.1.setCell (p := ⟨w.heap.size, 0, none⟩) (by simp) (.int .u64 (hiN (farTo a b a.length) : Int))).setCell (p := ⟨w.heap.size, 1, none⟩) (by simp) (.int .u64 (loN (farTo a b a.length) : Int))
      have b9 := pair_set (u := .int .u64 (hiN (farTo a b a.length) : Int)) (v := .int .u64 (loN (farTo a b a.length) : Int)) hS.2.1
      generalize ((wr.setCell ⟨w.heap.size, 0, none⟩ _).setCell ⟨w.heap.size, 1, none⟩ _) = w9 at *
      have m0 : w9.cell? ⟨w.heap.size, 0, none⟩ = some (.int .u64 (hiN (farTo a b a.length) : Int)) := b9.cell 0
      have m1 : w9.cell? ⟨w.heap.size, 1, none⟩ = some (.int .u64 (loN (farTo a b a.length) : Int)) := b9.cell 1
      refine bodyPost_ret (v := .agg #[.int .u64 (hiN (farTo a b a.length) : Int), .int .u64 (loN (farTo a b a.length) : Int)]) (by simp [results, Try.results37, go_sem, m0, m1]) rfl ?_
      exact ⟨rfl, B9⟩
end Go.Proofs.Ytiamppbgpoffmaa

namespace Go.Proofs.Ytiamppbgpoffmaa
open Go.RowKit
set_option linter.unusedVariables false

set_option maxHeartbeats 1000000 in
theorem rall_any (A : Option Addr) (m : List (List Int)) (c : Nat) (d : Int) (hb : m.length ≤ 512) (w : World) (h : Mat w A m) :
    Calls Try.prog 63 #[.slice A m.length c, .int .i64 d] w fun e w' => e = .returned (.int .i64 (allE m d)) ∧ w = w' := by
  go_enter Try.func63, Try.ntmps63
  go_wp2_with fail
  go_loopw [5] (fun i wr => wr = w ∧ ∃ k : Nat, k ≤ m.length ∧ i = .int .i64 (k : Int) ∧ AllOk m d k) (fun i _ => m.length - (intOf i).toNat)
  case atStart => exact ⟨rfl, 0, Nat.zero_le _, rfl, fun j hj => absurd hj (by omega)⟩
  case round =>
    obtain ⟨rfl, k, hk, rfl, hC⟩ := hrel
    by_cases hlt : k < m.length
    · obtain ⟨g, o, R, rc, rfl, hc1, hR⟩ := h k hlt
      have p0 : (0 : Int) ≤ (k : Int) := by omega
      have p1 : (k : Int) < (m.length : Int) := by omega
      have hV := Lib.hid (rvec_any R (mrow m k) rc d wr hR)
      by_cases hz : vecE (mrow m k) d = 0
      · have hC' := Lib.hid (hC.succ hz)
        go_wp2_with fail
        refine hV.out.mono ?_
        rintro e w1 ⟨rfl, rfl⟩
        rw [hz]
        go_wp2_with fail
        exact ⟨⟨trivial, k + 1, by omega, by go_num, hC'.out⟩, by simp [intOf]; omega⟩
      · have hE := Lib.hid (allE_first m d k hlt hC hz)
        have hne : (vecE (mrow m k) d != 0) = true := by simpa using hz
        generalize vecE (mrow m k) d = E at *
        clear hC hz
        go_wp2_with fail
        refine hV.out.mono ?_
        rintro e w1 ⟨rfl, rfl⟩
        go_wp2_with fail
        go_ret
        exact ⟨by rw [hE.out]; rfl, rfl⟩
    · obtain rfl : k = m.length := by omega
      have hE := Lib.hid (allE_none m d hC)
      clear hC
      go_wp2_with fail
      go_ret
      exact ⟨by rw [hE.out]; rfl, rfl⟩

/-- What stands at Nearest's loop's head: the result's block, the least distance in block g. -/
def NearR (w : World) (g N : Nat) (w' : World) : Prop := Below w.heap.size w w' ∧ Blk w' w.heap.size 44 #[.int .u64 0, .int .u64 0] ∧ Blk w' g 44 (wc N) ∧ w.heap.size < g
theorem NearR.more {w w1 w2 : World} {g N : Nat} (h : NearR w g N w1) (hb : Below w1.heap.size w1 w2) : NearR w g N w2 := ⟨below_chain h.1 hb h.1.size, h.2.1.below hb h.2.1.lt, h.2.2.1.below hb h.2.2.1.lt, h.2.2.2⟩
theorem NearR.put {w w1 : World} {g N : Nat} (h : NearR w g N w1) (M : Nat) : NearR w g M ((w1.setCell ⟨g, 0, none⟩ (.int .u64 (hiN M : Int))).setCell ⟨g, 1, none⟩ (.int .u64 (loN M : Int))) := by
  have hg := h.2.2.2
  exact ⟨(h.1.setCell (p := ⟨g, 0, none⟩) (by simp; omega) _).setCell (p := ⟨g, 1, none⟩) (by simp; omega) _, (h.2.1.far (by simp; omega) _).far (by simp; omega) _, pair_set h.2.2.1, hg⟩
theorem NearR.cells {w w' : World} {g N : Nat} (h : NearR w g N w') : w'.cell? ⟨g, 0, none⟩ = some (.int .u64 (hiN N : Int)) ∧ w'.cell? ⟨g, 1, none⟩ = some (.int .u64 (loN N : Int)) ∧ w'.frozen? ⟨g, 0, none⟩ = false ∧ w'.frozen? ⟨g, 1, none⟩ = false :=
  ⟨h.2.2.1.cell 0, h.2.2.1.cell 1, h.2.2.1.frozen 0, h.2.2.1.frozen 1⟩

set_option maxRecDepth 100000 in
set_option maxHeartbeats 4000000 in
theorem rnear_any (A : Option Addr) (m : List (List Int)) (c : Nat) (V : Option Addr) (v : List Int) (d : Nat) (hok : AllOk m v.length m.length) (hv : vecE v v.length = 0) (h1 : 1 ≤ m.length) (h64 : m.length ≤ 64) (w : World) (hm : Mat w A m) (hV : Row w V v) :
    Calls Try.prog 35 #[.slice A m.length c, .slice V v.length d] w fun e w' => e = .returned (.tuple #[.int .i64 ((nearN m v).1 : Int), .agg #[.int .u64 (hiN (nearN m v).2 : Int), .int .u64 (loN (nearN m v).2 : Int)]]) ∧ Below w.heap.size w w' := by
  have S0 := NearS.start w
  have hfar : Hid (∀ k, k < m.length → ∀ (R : Option Addr) (rc : Nat) (x : World), Row x R (mrow m k) → Row x V v → Calls Try.prog 37 #[.slice R (mrow m k).length rc, .slice V v.length d] x fun e w' => e = .returned (.agg #[.int .u64 (hiN (farN (mrow m k) v) : Int), .int .u64 (loN (farN (mrow m k) v) : Int)]) ∧ Below x.heap.size x w') :=
    Lib.hid (fun k hk R rc x h1 h2 => by
      obtain ⟨_, _, e3, e4⟩ := vecE_ok (hok k hk)
      obtain ⟨_, e6, _, e8⟩ := vecE_ok hv
      have e3' : (mrow m k).length = v.length := by omega
      exact rfar_any R V (mrow m k) v rc d e3'.symm e4 e8 (by omega) x h1 h2)
  have hwd : Hid (∀ k, k < m.length → Wd (farN (mrow m k) v)) := Lib.hid (fun k hk => by
    have := far_ok (hok k hk) hv
    unfold Wd
    omega)
  obtain ⟨g, o, R, rc, rfl, hc1, hR⟩ := hm 0 (by omega)
  rw [Nat.add_zero] at hc1
  have hF0 := Lib.hid (hfar.out 0 (by omega) R rc _ (hR.below S0.1) (hV.below S0.1))
  have d1 := below_cell S0.1 hc1
  have p1 : (0 : Int) < (m.length : Int) := by omega
  clear hok hc1 hR
  go_enter Try.func35, Try.ntmps35
  go_wp2_with fail
  generalize w.alloc (.cells #[.int .u64 0, .int .u64 0] 44) = w0 at *
  refine hF0.out.mono ?_
  rintro e w1 ⟨rfl, hb⟩
  clear d1 hF0
  have S1 := S0.more hb
  generalize hF : farN (mrow m 0) v = F0 at *
  have N0 : NearR w w1.heap.size F0 (w1.alloc (.cells #[.int .u64 (hiN F0 : Int), .int .u64 (loN F0 : Int)] 44)) :=
    ⟨below_chain S1.1 (below_alloc1 _ _) S1.1.size, S1.2.alloc _, Blk.new _ _ _, S1.2.lt⟩
  have hT0 : Hid (nearTo m v 1 = (0, F0)) := Lib.hid (by rw [nearTo_take m v 0 (.inl rfl), hF])
  clear hb S0 S1 hF
  go_wp2_with fail
  generalize hg1 : w1.heap.size = g1 at *
  generalize w1.alloc (.cells #[.int .u64 (hiN F0 : Int), .int .u64 (loN F0 : Int)] 44) = w2 at *
  go_loopw [6, 8] (fun t i wr => ∃ k : Nat, 1 ≤ k ∧ k ≤ m.length ∧ i = .int .i64 (k : Int) ∧ t = .int .i64 ((nearTo m v k).1 : Int) ∧ NearR w g1 (nearTo m v k).2 wr) (fun _ i _ => m.length - (intOf i).toNat)
  case atStart => exact ⟨1, Nat.le_refl _, h1, rfl, by rw [hT0.out]; rfl, by rw [hT0.out]; exact N0⟩
  case round =>
    obtain ⟨k, hk1, hk, rfl, rfl, hS⟩ := hrel
    clear N0 hT0
    by_cases hlt : k < m.length
    · obtain ⟨g2, o2, R2, rc2, hA2, hc2, hR2⟩ := hm k hlt
      simp only [Option.some.injEq, Addr.mk.injEq, and_true] at hA2
      obtain ⟨rfl, rfl⟩ := hA2
      have q0 : (0 : Int) ≤ (k : Int) := by omega
      have q1 : (k : Int) < (m.length : Int) := by omega
      have d2 := below_cell hS.1 hc2
      have hD := Lib.hid (hfar.out k hlt R2 rc2 wr (hR2.below hS.1) (hV.below hS.1))
      have hNW : Hid (Wd (nearTo m v k).2) := Lib.hid (by
        have h2 := hwd.out 0 (by omega)
        have h3 := nearTo_min m v k 0 (by omega)
        unfold Wd at *
        omega)
      go_wp2_with fail
      refine hD.out.mono ?_
      rintro e w3 ⟨rfl, hb1⟩
      have S1 := hS.more hb1
      have hFW := Lib.hid (hwd.out k hlt)
      clear hS hb1 d2 hD hc2 hR2
      generalize hF : farN (mrow m k) v = F at *
      generalize hN : nearTo m v k = N at *
      have hF' := Lib.hid hF
      have hN' := Lib.hid hN
      clear hF hN
      have S2 := S1.more (below_alloc1 w3 (.cells #[.int .u64 (hiN F : Int), .int .u64 (loN F : Int)] 44))
      have b2 := Blk.new w3 44 #[.int .u64 (hiN F : Int), .int .u64 (loN F : Int)]
      have hlt1 := S1.2.2.1.lt
      have hne : ¬ g1 = w3.heap.size := by omega
      obtain ⟨c1, c2, f1, f2⟩ := S1.cells
      go_wp2_with fail
      generalize w3.alloc (.cells #[.int .u64 (hiN F : Int), .int .u64 (loN F : Int)] 44) = w4 at *
      clear c1 c2 f1 f2
      refine (less_c F N.2 hFW.out hNW.out _).mono ?_
      rintro e w5 ⟨rfl, hb5⟩
      replace S2 := S2.more hb5
      replace b2 := b2.below hb5 b2.lt
      by_cases hlt2 : F < N.2
      · have hT := Lib.hid (nearTo_take m v k (.inr (by rw [hF'.out, hN'.out]; exact hlt2)))
        rw [hF'.out] at hT
        rw [decide_eq_true hlt2]
        clear hlt2
        obtain ⟨c1, c2, f1, f2⟩ := S2.cells
        have z0 : w5.cell? ⟨w3.heap.size, 0, none⟩ = some (.int .u64 (hiN F : Int)) := b2.cell 0
        have z1 : w5.cell? ⟨w3.heap.size, 1, none⟩ = some (.int .u64 (loN F : Int)) := b2.cell 1
        have S3 := S2.put F
        go_wp2_with fail
        exact ⟨⟨k + 1, by omega, by omega, by go_num, by rw [hT.out], by rw [hT.out]; exact S3⟩, by simp [intOf]; omega⟩
      · have hT := Lib.hid (nearTo_keep m v k (by omega) (by rw [hF'.out, hN'.out]; exact hlt2))
        rw [hN'.out] at hT
        rw [decide_eq_false hlt2]
        clear hlt2 b2
        go_wp2_with fail
        exact ⟨⟨k + 1, by omega, by omega, by go_num, by rw [hT.out], by rw [hT.out]; exact S2⟩, by simp [intOf]; omega⟩
    · obtain rfl : k = m.length := by omega
      rw [show nearTo m v m.length = nearN m v from rfl] at *
      obtain ⟨c1, c2, f1, f2⟩ := hS.cells
      have z0 : wr.cell? ⟨w.heap.size, 0, none⟩ = some (.int .u64 0) := hS.2.1.cell 0
      have z1 : wr.cell? ⟨w.heap.size, 1, none⟩ = some (.int .u64 0) := hS.2.1.cell 1
      have z2 := hS.2.1.frozen 0
      have z3 := hS.2.1.frozen 1
      generalize hNN : nearN m v = N at *
      obtain ⟨at_, D⟩ := N
      replace hNN := Lib.hid hNN
      go_wp2_with fail
      go_region
      all_goals
        have B9 := (hS.1.setCell (p := ⟨w.heap.size, 0, none⟩) (by simp) (.int .u64 (hiN D : Int))).setCell (p := ⟨w.heap.size, 1, none⟩) (by simp) (.int .u64 (loN D : Int)) |>.drew
        have b9 := (pair_set (u := .int .u64 (hiN D : Int)) (v := .int .u64 (loN D : Int)) hS.2.1).drew
        generalize World.drew ((World.setCell _ ⟨w.heap.size, 0, none⟩ _).setCell ⟨w.heap.size, 1, none⟩ _) = w9 at *
        have m0 : w9.cell? ⟨w.heap.size, 0, none⟩ = some (.int .u64 (hiN D : Int)) := b9.cell 0
        have m1 : w9.cell? ⟨w.heap.size, 1, none⟩ = some (.int .u64 (loN D : Int)) := b9.cell 1
        clear c1 c2 f1 f2 z0 z1 z2 z3
        go_wp2_with fail
        refine bodyPost_ret (v := .tuple #[.int .i64 (at_ : Int), .agg #[.int .u64 (hiN D : Int), .int .u64 (loN D : Int)]]) (by simp [results, Try.results35, go_sem, m0, m1]) rfl ?_
        exact ⟨by rw [hNN.out], B9⟩
end Go.Proofs.Ytiamppbgpoffmaa

namespace Go.Proofs.Ytiamppbgpoffmaa
open Go.RowKit
set_option linter.unusedVariables false

set_option maxRecDepth 100000 in
set_option maxHeartbeats 4000000 in
theorem rdist_ok (A B : Option Addr) (a b : List Int) (c d : Nat) (ea : vecE a a.length = 0) (eb : vecE b a.length = 0) (w : World) (hA : Row w A a) (hB : Row w B b) :
    Calls Try.prog 23 #[.slice A a.length c, .slice B b.length d] w fun e w' => e = .returned (.tuple #[.agg #[.int .u64 (hiN (farN a b) : Int), .int .u64 (loN (farN a b) : Int)], .int .i64 0]) ∧ Below w.heap.size w w' := by
  obtain ⟨l1, l2, _, l4⟩ := vecE_ok ea
  obtain ⟨_, _, l3, l5⟩ := vecE_ok eb
  have hl : b.length = a.length := by omega
  have h64 : a.length ≤ 64 := by omega
  have hF := Lib.hid (rfar_any A B a b c d hl l4 l5 h64)
  clear l1 l2 l3 l4 l5
  have S0 := NearS.start w
  have hCA := Lib.hid (rvec_any A a c a.length _ (hA.below S0.1))
  have hCB := Lib.hid (rvec_any B b d a.length _ (hB.below S0.1))
  rw [hl] at hF hCB ⊢
  clear hl
  go_enter Try.func23, Try.ntmps23
  go_wp2_with fail
  generalize w.alloc (.cells #[.int .u64 0, .int .u64 0] 44) = w0 at *
  with_reducible refine hCA.out.mono ?_
  rintro e w1 ⟨rfl, rfl⟩
  rw [ea]
  go_wp2_with fail
  with_reducible refine hCB.out.mono ?_
  rintro e w1 ⟨rfl, rfl⟩
  rw [eb]
  go_wp2_with fail
  refine (hF.out w0 (hA.below S0.1) (hB.below S0.1)).mono ?_
  rintro e w2 ⟨rfl, hb2⟩
  have S1 := S0.more hb2
  obtain ⟨c1, c2, f1, f2⟩ := S1.cells
  have S2 := S1.put (farN a b)
  go_wp2_with fail
  generalize ((w2.setCell ⟨w.heap.size, 0, none⟩ _).setCell ⟨w.heap.size, 1, none⟩ _) = w9 at *
  have m0 := S2.cells.1
  have m1 := S2.cells.2.1
  refine bodyPost_ret (v := .tuple #[.agg #[.int .u64 (hiN (farN a b) : Int), .int .u64 (loN (farN a b) : Int)], .int .i64 0]) (by simp [results, Try.results23, go_sem, m0, m1]) rfl ?_
  exact ⟨rfl, S2.1⟩

/-! ### A centre more never costs more -/
end Go.Proofs.Ytiamppbgpoffmaa
