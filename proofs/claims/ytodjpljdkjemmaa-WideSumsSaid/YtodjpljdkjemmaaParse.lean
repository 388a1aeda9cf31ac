/- The contract of wide.Parse. -/
import Derived.Test.YtodjpljdkjemmaaWidePrint
import Derived.Test.YtodjpljdkjemmaaWideSqrt
import Derived.Lib.ConvBytes
import Derived.BigQuiet
namespace Go.Proofs.Ytodjpljdkjemmaa
open Go.RowKit
set_option linter.unusedVariables false

def Sm (n : Nat) : Prop := n < 18446744073709551616
theorem sm_zero : Sm 0 := by unfold Sm; omega
/-- A text's j-th byte. -/
def ch (s : ByteArray) (j : Nat) : Nat := (s.data.toList.getD j 0).toNat
/-- The number of a text's first bytes. -/
def pre (s : ByteArray) : Nat → Nat
  | 0 => 0
  | k + 1 => 10 * pre s k + (ch s k - 48)
def dg (s : ByteArray) (j : Nat) : Prop := 48 ≤ ch s j ∧ ch s j ≤ 57
def form (s : ByteArray) : Prop := 1 ≤ s.size ∧ s.size ≤ 39 ∧ (1 < s.size → ch s 0 ≠ 48) ∧ ∀ j, j < s.size → dg s j
instance (s : ByteArray) (j : Nat) : Decidable (dg s j) := by unfold dg; infer_instance
instance (s : ByteArray) : Decidable (form s) := by unfold form; infer_instance
def parN (s : ByteArray) : Nat := if form s ∧ pre s s.size < 340282366920938463463374607431768211456 then pre s s.size else 0
def parE (s : ByteArray) : Int := if form s then (if pre s s.size < 340282366920938463463374607431768211456 then 0 else 10) else 11
theorem pre_le (s : ByteArray) (k : Nat) : ∀ n, pre s k ≤ pre s (k + n)
  | 0 => Nat.le_refl _
  | n + 1 => by
    have := pre_le s k n
    rw [← Nat.add_assoc, pre]
    omega
theorem par_bad {s : ByteArray} (h : ¬ form s) : parN s = 0 ∧ parE s = 11 := by
  unfold parN parE
  rw [if_neg (fun x => h x.1), if_neg h]
  exact ⟨rfl, rfl⟩
theorem par_over {s : ByteArray} (h : form s) {k : Nat} (hk : k ≤ s.size) (ho : 340282366920938463463374607431768211456 ≤ pre s k) : parN s = 0 ∧ parE s = 10 := by
  have h1 := pre_le s k (s.size - k)
  rw [show k + (s.size - k) = s.size by omega] at h1
  unfold parN parE
  rw [if_neg (fun x => by have := x.2; omega), if_pos h, if_neg (by omega)]
  exact ⟨rfl, rfl⟩
theorem par_good {s : ByteArray} (h : form s) (ho : pre s s.size < 340282366920938463463374607431768211456) : parN s = pre s s.size ∧ parE s = 0 := by
  unfold parN parE
  rw [if_pos ⟨h, ho⟩, if_pos h, if_pos ho]
  exact ⟨rfl, rfl⟩
theorem num_zero : num 0 = .agg #[.int .u64 0, .int .u64 0] := by simp [num, wv]
def Txt (w : World) (g : Nat) (s : ByteArray) : Prop := ∀ j, j < s.size → w.cell? ⟨g, j, none⟩ = some (.int .u8 (ch s j : Int))
theorem Txt.below {B : Nat} {w w' : World} {g : Nat} {s : ByteArray} (h : Txt w g s) (hb : Below B w w') (hg : g < B) : Txt w' g s := fun j hj => (hb.cell hg).trans (h j hj)
theorem Txt.lt {w : World} {g : Nat} {s : ByteArray} (h : Txt w g s) (h1 : 1 ≤ s.size) : g < w.heap.size := World.block_lt_of_cell? w _ (h 0 h1)
theorem Txt.far {w : World} {g : Nat} {s : ByteArray} (h : Txt w g s) {p : Addr} (hp : g ≠ p.block) (u : Value) : Txt (w.setCell p u) g s := fun j hj => by
  have e : (w.setCell p u).cell? ⟨g, j, none⟩ = w.cell? ⟨g, j, none⟩ := by
    simp only [World.cell?, Below.heap_setCell w p u g hp]
  rw [e]; exact h j hj
theorem txt_new (w : World) (e : TypeId) (s : ByteArray) : Txt (Lib.bytesWorld w e s) w.heap.size s := fun j hj => Lib.bytesWorld_cell w e s j hj
theorem below_bytes {B : Nat} {w0 w : World} (h : Below B w0 w) (hb : B ≤ w.heap.size) (e : TypeId) (s : ByteArray) : Below B w0 (Lib.bytesWorld w e s) :=
  ⟨h.os, by rw [← h.tape]; rfl, h.output, by rw [Lib.bytesWorld_size]; have := h.size; omega, fun i hi => by rw [Lib.bytesWorld_at_old w e s i (by omega)]; exact h.block i hi⟩
theorem txt_some (s : ByteArray) (h : 0 < s.size) : s.toList.isEmpty = false := by
  cases s with
  | mk d =>
    rw [ByteArray.toList_eq]
    cases hd : d.toList with
    | nil =>
      have h1 : d.size = 0 := by rw [← Array.length_toList, hd]; rfl
      have h2 : 0 < d.size := h
      omega
    | cons a l => rfl
theorem ch_at (s : ByteArray) (j : Nat) (hj : j < s.size) : (s[j]'hj).toNat = ch s j := by
  unfold ch
  have h1 : s.data.toList.getD j 0 = s[j]'hj := by
    have : j < s.data.size := hj
    simp only [List.getD_eq_getElem?_getD, Array.getElem?_toList, Array.getElem?_eq_getElem this]
    rfl
  rw [h1]
set_option maxRecDepth 100000 in
set_option maxHeartbeats 4000000 in
theorem parse_empty (s : ByteArray) (h : s.size = 0) (w : World) : Calls Try.prog 18 #[.string s] w (NumPost w (parN s) (parE s)) := by
  have hp := par_bad (s := s) (fun x => by have := x.1; omega)
  have hz : s = ⟨#[]⟩ := by
    have : s.data.size = 0 := h
    cases s with | mk d => simp at this; rw [this]
  rw [hp.1, hp.2]
  unfold NumPost
  rw [num_zero]
  subst hz
  go_enter Try.func18, Try.ntmps18
  go_wp2
  go_returns
  exact ⟨rfl, (Below.refl _ _).alloc (Nat.le_refl _) _⟩
set_option maxRecDepth 100000 in
set_option maxHeartbeats 4000000 in
theorem parse_long (s : ByteArray) (h : 39 < s.size) (w : World) : Calls Try.prog 18 #[.string s] w (NumPost w (parN s) (parE s)) := by
  have hp := par_bad (s := s) (fun x => by have := x.2.1; omega)
  have t0 : s.toList.isEmpty = false := txt_some s (by omega)
  have t1 : (39 : Int) < (s.size : Int) := by omega
  rw [hp.1, hp.2]
  unfold NumPost
  rw [num_zero]
  go_enter Try.func18, Try.ntmps18
  go_wp2
  go_returns
  exact ⟨rfl, (Below.refl _ _).alloc (Nat.le_refl _) _⟩
set_option maxRecDepth 100000 in
set_option maxHeartbeats 4000000 in
theorem parse_zero (s : ByteArray) (h : s.size ≤ 39) (h1 : 1 < s.size) (h0 : ch s 0 = 48) (w : World) : Calls Try.prog 18 #[.string s] w (NumPost w (parN s) (parE s)) := by
  have hp := par_bad (s := s) (fun x => x.2.2.1 h1 h0)
  have t0 : s.toList.isEmpty = false := txt_some s (by omega)
  have t1 : (s.size : Int) ≤ 39 := by omega
  have t2 : (1 : Int) < (s.size : Int) := by omega
  have t3 : (((s[0]'(by omega)).toNat : Int) == 48) = true := by rw [ch_at, h0]; rfl
  rw [hp.1, hp.2]
  unfold NumPost
  rw [num_zero]
  go_enter Try.func18, Try.ntmps18
  go_wp2
  go_returns
  exact ⟨rfl, (Below.refl _ _).alloc (Nat.le_refl _) _⟩

theorem wide_bytes (w : World) (s : ByteArray) : Below w.heap.size w (Lib.bytesWorld (w.alloc (.cells #[.int .u64 0, .int .u64 0] 24)) 5 s) ∧
    Blk (Lib.bytesWorld (w.alloc (.cells #[.int .u64 0, .int .u64 0] 24)) 5 s) w.heap.size 24 #[.int .u64 0, .int .u64 0] ∧
    Txt (Lib.bytesWorld (w.alloc (.cells #[.int .u64 0, .int .u64 0] 24)) 5 s) (w.heap.size + 1) s := by
  have e1 : (w.alloc (.cells #[.int .u64 0, .int .u64 0] 24)).heap.size = w.heap.size + 1 := by simp
  refine ⟨below_bytes ((Below.refl _ _).alloc (Nat.le_refl _) _) (by simp) _ _, ?_, ?_⟩
  · exact (Lib.bytesWorld_at_old _ _ _ _ (by rw [e1]; omega)).trans (Blk.new w _ _)
  · have := txt_new (w.alloc (.cells #[.int .u64 0, .int .u64 0] 24)) 5 s
    rwa [e1] at this
theorem num_wv (h l : Nat) (hl : l < 18446744073709551616) : num (h * 18446744073709551616 + l) = .agg #[.int .u64 (h : Int), .int .u64 (l : Int)] := by
  unfold num wv
  rw [show (h * 18446744073709551616 + l) / 18446744073709551616 = h by omega, show (h * 18446744073709551616 + l) % 18446744073709551616 = l by omega]
def HalfPost (w : World) (h l : Nat) (f : Int) (e : Ending) (w' : World) : Prop := e = .returned (.tuple #[.agg #[.int .u64 (h : Int), .int .u64 (l : Int)], .int .i64 f]) ∧ Below w.heap.size w w'
theorem add_in (ah al bh bl th tl : Nat) (h1 : Sm ah) (h2 : Sm al) (h3 : Sm bh) (h4 : Sm bl) (h5 : Sm th) (h6 : Sm tl) (h : ah * 18446744073709551616 + al + (bh * 18446744073709551616 + bl) = th * 18446744073709551616 + tl) (w : World) :
    Calls Try.prog 9 #[.agg #[.int .u64 (ah : Int), .int .u64 (al : Int)], .agg #[.int .u64 (bh : Int), .int .u64 (bl : Int)]] w (HalfPost w th tl 0) := by
  unfold Sm at *
  rw [← num_wv ah al h2, ← num_wv bh bl h4]
  refine (add_any _ _ (by omega) (by omega) w).mono ?_
  rintro e w' ⟨rfl, hb⟩
  refine ⟨?_, hb⟩
  unfold sumN sumE
  rw [if_pos (by omega), if_pos (by omega), h, num_wv th tl h6]
theorem add_up (ah al bh bl : Nat) (h1 : Sm ah) (h2 : Sm al) (h3 : Sm bh) (h4 : Sm bl) (h : 340282366920938463463374607431768211456 ≤ ah * 18446744073709551616 + al + (bh * 18446744073709551616 + bl)) (w : World) :
    Calls Try.prog 9 #[.agg #[.int .u64 (ah : Int), .int .u64 (al : Int)], .agg #[.int .u64 (bh : Int), .int .u64 (bl : Int)]] w (HalfPost w 0 0 10) := by
  unfold Sm at *
  rw [← num_wv ah al h2, ← num_wv bh bl h4]
  refine (add_any _ _ (by omega) (by omega) w).mono ?_
  rintro e w' ⟨rfl, hb⟩
  refine ⟨?_, hb⟩
  unfold sumN sumE
  rw [if_neg (by omega), if_neg (by omega), num_zero]
  rfl
theorem mul_halves (l mh ml : Nat) (h : Sm l) (h1 : l * 10 = mh * 18446744073709551616 + ml) (h2 : Sm ml) (w : World) :
    Calls Try.prog 14 #[.int .u64 (l : Int), .int .u64 10] w fun e w' => e = .returned (.agg #[.int .u64 (mh : Int), .int .u64 (ml : Int)]) ∧ Below w.heap.size w w' := by
  refine (mul_any l 10 h (by omega) w).mono ?_
  rintro e w' ⟨rfl, hb⟩
  rw [h1, num_wv mh ml h2]
  exact ⟨rfl, hb⟩
theorem mul_high (h o hi : Nat) (s1 : Sm h) (h1 : h * 10 = o * 18446744073709551616 + hi) (h2 : Sm hi) (w : World) :
    Calls Try.prog 29 #[.int .u64 (h : Int), .int .u64 10] w fun e w' => e = .returned (.tuple #[.int .u64 (o : Int), .int .u64 (hi : Int)]) ∧ w' = w := by
  refine (Try.bits_Mul64 h 10 s1 (by omega) w).mono ?_
  rintro e w' ⟨rfl, rfl⟩
  unfold Sm at *
  rw [h1, show (o * 18446744073709551616 + hi) / 18446744073709551616 = o by omega, show (o * 18446744073709551616 + hi) % 18446744073709551616 = hi by omega]
  exact ⟨rfl, rfl⟩
/-- Ten times a number, and what the two sums are. -/
inductive Tens (h l d : Nat) (o hi mh ml : Nat) : Prop
  | first (h0 : 340282366920938463463374607431768211456 ≤ hi * 18446744073709551616 + 0 + (mh * 18446744073709551616 + ml)) (h1 : 340282366920938463463374607431768211456 ≤ 10 * (h * 18446744073709551616 + l) + d)
  | high (th tl : Nat) (ho : (0 : Int) < (o : Int)) (h2 : Sm th) (h3 : Sm tl) (h0 : hi * 18446744073709551616 + 0 + (mh * 18446744073709551616 + ml) = th * 18446744073709551616 + tl) (h1 : 340282366920938463463374607431768211456 ≤ 10 * (h * 18446744073709551616 + l) + d)
  | digit (th tl : Nat) (ho : o = 0) (h2 : Sm th) (h3 : Sm tl) (h0 : hi * 18446744073709551616 + 0 + (mh * 18446744073709551616 + ml) = th * 18446744073709551616 + tl) (h4 : 340282366920938463463374607431768211456 ≤ th * 18446744073709551616 + tl + (0 * 18446744073709551616 + d)) (h1 : 340282366920938463463374607431768211456 ≤ 10 * (h * 18446744073709551616 + l) + d)
  | fits (th tl uh ul : Nat) (ho : o = 0) (h2 : Sm th) (h3 : Sm tl) (h0 : hi * 18446744073709551616 + 0 + (mh * 18446744073709551616 + ml) = th * 18446744073709551616 + tl) (h5 : Sm uh) (h6 : Sm ul) (h4 : th * 18446744073709551616 + tl + (0 * 18446744073709551616 + d) = uh * 18446744073709551616 + ul) (h1 : 10 * (h * 18446744073709551616 + l) + d = uh * 18446744073709551616 + ul)
theorem tens (h l d : Nat) (s1 : Sm h) (s2 : Sm l) : ∃ o hi mh ml, h * 10 = o * 18446744073709551616 + hi ∧ Sm hi ∧ l * 10 = mh * 18446744073709551616 + ml ∧ Sm mh ∧ Sm ml ∧ Tens h l d o hi mh ml := by
  unfold Sm at *
  refine ⟨h * 10 / 18446744073709551616, h * 10 % 18446744073709551616, l * 10 / 18446744073709551616, l * 10 % 18446744073709551616, by omega, by omega, by omega, by omega, by omega, ?_⟩
  have e1 : h * 10 = h * 10 / 18446744073709551616 * 18446744073709551616 + h * 10 % 18446744073709551616 := by omega
  have e2 : l * 10 = l * 10 / 18446744073709551616 * 18446744073709551616 + l * 10 % 18446744073709551616 := by omega
  have e3 : h * 10 % 18446744073709551616 < 18446744073709551616 := by omega
  have e4 : l * 10 % 18446744073709551616 < 18446744073709551616 := by omega
  generalize h * 10 / 18446744073709551616 = o at *
  generalize h * 10 % 18446744073709551616 = hi at *
  generalize l * 10 / 18446744073709551616 = mh at *
  generalize l * 10 % 18446744073709551616 = ml at *
  by_cases c1 : 340282366920938463463374607431768211456 ≤ hi * 18446744073709551616 + 0 + (mh * 18446744073709551616 + ml)
  · exact .first c1 (by omega)
  · by_cases c2 : 0 < o
    · exact .high ((hi * 18446744073709551616 + 0 + (mh * 18446744073709551616 + ml)) / 18446744073709551616) ((hi * 18446744073709551616 + 0 + (mh * 18446744073709551616 + ml)) % 18446744073709551616) (by omega) (by unfold Sm; omega) (by unfold Sm; omega) (by omega) (by omega)
    · obtain rfl : o = 0 := by omega
      have e5 : 10 * (h * 18446744073709551616 + l) = hi * 18446744073709551616 + 0 + (mh * 18446744073709551616 + ml) := by omega
      by_cases c3 : 340282366920938463463374607431768211456 ≤ 10 * (h * 18446744073709551616 + l) + d
      · exact .digit ((hi * 18446744073709551616 + 0 + (mh * 18446744073709551616 + ml)) / 18446744073709551616) ((hi * 18446744073709551616 + 0 + (mh * 18446744073709551616 + ml)) % 18446744073709551616) rfl (by unfold Sm; omega) (by unfold Sm; omega) (by omega) (by omega) c3
      · exact .fits ((hi * 18446744073709551616 + 0 + (mh * 18446744073709551616 + ml)) / 18446744073709551616) ((hi * 18446744073709551616 + 0 + (mh * 18446744073709551616 + ml)) % 18446744073709551616)
          ((10 * (h * 18446744073709551616 + l) + d) / 18446744073709551616) ((10 * (h * 18446744073709551616 + l) + d) % 18446744073709551616) rfl (by unfold Sm; omega) (by unfold Sm; omega) (by omega) (by unfold Sm; omega) (by unfold Sm; omega) (by omega) (by omega)
theorem bytes_more {B : Nat} {w0 W1 : World} (s : ByteArray) (hB : Below B w0 W1) (hb : B ≤ W1.heap.size) : Below B w0 (Lib.bytesWorld (W1.alloc (.cells #[.int .u64 0, .int .u64 0] 24)) 5 s) ∧
    (∀ i, i < W1.heap.size → (Lib.bytesWorld (W1.alloc (.cells #[.int .u64 0, .int .u64 0] 24)) 5 s).heap[i]? = W1.heap[i]?) ∧
    Blk (Lib.bytesWorld (W1.alloc (.cells #[.int .u64 0, .int .u64 0] 24)) 5 s) W1.heap.size 24 #[.int .u64 0, .int .u64 0] ∧
    Txt (Lib.bytesWorld (W1.alloc (.cells #[.int .u64 0, .int .u64 0] 24)) 5 s) (W1.heap.size + 1) s := by
  obtain ⟨h1, h2, h3⟩ := wide_bytes W1 s
  refine ⟨below_bytes (hB.alloc hb _) (by simp; omega) _ _, fun i hi => h1.block i hi, h2, h3⟩
/-- The loop over the digits: k are read, they say v. -/
def Pb (w wr : World) (s : ByteArray) (g h l : Nat) : Prop := Below w.heap.size w wr ∧ Blk wr w.heap.size 24 #[.int .u64 0, .int .u64 0] ∧ Blk wr g 24 #[.int .u64 (h : Int), .int .u64 (l : Int)] ∧ Txt wr (g + 1) s
theorem Pb.more {w wr w1 : World} {s : ByteArray} {g h l : Nat} (hQ : Pb w wr s g h l) (hL : g + 1 < wr.heap.size) (hb : Below wr.heap.size wr w1) : Pb w w1 s g h l :=
  ⟨below_chain hQ.1 hb hQ.1.size, hQ.2.1.below hb hQ.2.1.lt, hQ.2.2.1.below hb hQ.2.2.1.lt, hQ.2.2.2.below hb hL⟩
theorem below_alloc1 (w : World) (o : Obj) : Below w.heap.size w (w.alloc o) := (Below.refl _ _).alloc (Nat.le_refl _) o
theorem Pb.put {w wr : World} {s : ByteArray} {g h l : Nat} (hQ : Pb w wr s g h l) (hg : w.heap.size < g) (a b : Nat) : Pb w ((wr.setCell ⟨g, 0, none⟩ (.int .u64 (a : Int))).setCell ⟨g, 1, none⟩ (.int .u64 (b : Int))) s g a b :=
  ⟨(hQ.1.setCell (by simp; omega) _).setCell (by simp; omega) _, (hQ.2.1.far (by simp; omega) _).far (by simp; omega) _, pair_set hQ.2.2.1, (hQ.2.2.2.far (by simp) _).far (by simp) _⟩
/-- Behind a text's sign tests. -/
def Pa (w wr : World) (s : ByteArray) : Prop := Below w.heap.size w wr ∧ Blk wr w.heap.size 24 #[.int .u64 0, .int .u64 0] ∧ Txt wr (w.heap.size + 1) s
set_option maxRecDepth 100000 in
set_option maxHeartbeats 4000000 in
theorem parse_run (s : ByteArray) (h : s.size ≤ 39) (h1 : 1 ≤ s.size) (h0 : 1 < s.size → ch s 0 ≠ 48) (w : World) : Calls Try.prog 18 #[.string s] w (NumPost w (parN s) (parE s)) := by
  have t0 : s.toList.isEmpty = false := txt_some s (by omega)
  have t1 : (s.size : Int) ≤ 39 := by omega
  have hall : (∀ j, j < s.size → dg s j) → form s := fun x => ⟨h1, h, h0, x⟩
  have hnot : (∃ j, j < s.size ∧ ¬ dg s j) → ¬ form s := fun ⟨j, hj, hd⟩ x => hd (x.2.2.2 j hj)
  have hconv := fun (w : World) => Lib.run_convert_string_bytes (P := Try.prog) w 9 51 5 s Try.underlying9 Try.underlying51 Try.underlying5
  replace hall := Lib.hid hall
  replace hnot := Lib.hid hnot
  obtain ⟨n, hn⟩ : ∃ n : Nat, n = s.size := ⟨_, rfl⟩
  have t2 : (s.size : Int) ≤ 1 ∨ (1 < (s.size : Int) ∧ ∀ hs : 0 < s.size, (((s[0]'hs).toNat : Int) == 48) = false) := by
    by_cases x : 1 < s.size
    · exact .inr ⟨by omega, fun hs => by rw [ch_at]; have := h0 x; simp; omega⟩
    · exact .inl (by omega)
  clear h0
  rcases t2 with t2 | ⟨t2, t3⟩
  all_goals
    go_enter Try.func18, Try.ntmps18
    go_wp2
    obtain ⟨B1, b1, x1⟩ := wide_bytes w s
    have hP : Pa w _ s := ⟨B1, b1, x1⟩
    clear B1 b1 x1
    replace hP := Lib.hid hP
    generalize Lib.bytesWorld _ 5 s = W1 at *
    generalize grownCap _ s.size 0 5 = cap
    go_loopw [34] (fun iv wr => ∃ k : Nat, k ≤ s.size ∧ iv = .int .i64 (k : Int) ∧ wr = W1 ∧ ∀ j, j < k → dg s j) (fun iv _ => s.size - (intOf iv).toNat)
    case atStart => exact ⟨0, by omega, rfl, rfl, fun j hj => by omega⟩
    case round =>
      obtain ⟨k, hk, rfl, rfl, hd⟩ := hrel
      by_cases hlt : k < s.size
      · have cl : (k : Int) < (s.size : Int) := by omega
        have ck := hP.out.2.2 k hlt
        by_cases hdk : dg s k
        · have d1 : (48 : Int) ≤ (ch s k : Int) := by have := hdk.1; omega
          have d2 : (ch s k : Int) ≤ 57 := by have := hdk.2; omega
          replace hd := Lib.hid hd
          go_wp2
          refine ⟨⟨k + 1, by omega, by go_num, trivial, fun j hj => ?_⟩, by simp [intOf]; omega⟩
          by_cases e : j = k
          · exact e ▸ hdk
          · exact hd.out j (by omega)
        · have hp := par_bad (hnot.out ⟨k, hlt, hdk⟩)
          have cA : wr.cell? ⟨w.heap.size, 0, none⟩ = some (.int .u64 0) := hP.out.2.1.cell 0
          have cB : wr.cell? ⟨w.heap.size, 1, none⟩ = some (.int .u64 0) := hP.out.2.1.cell 1
          have fA := hP.out.2.1.frozen 0
          have fB := hP.out.2.1.frozen 1
          have hz := num_zero
          rw [hp.1, hp.2]
          unfold NumPost
          rw [hz]
          replace hd := Lib.hid hd
          have d1 : (ch s k : Int) < 48 ∨ ((48 : Int) ≤ (ch s k : Int) ∧ (57 : Int) < (ch s k : Int)) := by unfold dg at hdk; omega
          clear hdk hp hz
          rcases d1 with d1 | ⟨d1, d2⟩
          all_goals
            go_wp2
            have B9 := (hP.out.1.setCell (p := ⟨w.heap.size, 0, none⟩) (by simp) (.int .u64 0)).setCell (p := ⟨w.heap.size, 1, none⟩) (by simp) (.int .u64 0)
            have b9 := pair_set (u := .int .u64 0) (v := .int .u64 0) hP.out.2.1
            generalize ((wr.setCell ⟨w.heap.size, 0, none⟩ _).setCell ⟨w.heap.size, 1, none⟩ _) = w9 at *
            have y0 : w9.cell? ⟨w.heap.size, 0, none⟩ = some (.int .u64 0) := b9.cell 0
            have y1 : w9.cell? ⟨w.heap.size, 1, none⟩ = some (.int .u64 0) := b9.cell 1
            refine bodyPost_ret (v := .tuple #[.agg #[.int .u64 0, .int .u64 0], .int .i64 11]) (by simp [results, Try.results18, go_sem, y0, y1]) rfl ?_
            exact ⟨rfl, B9⟩
      · obtain rfl : k = s.size := by omega
        have hf := hall.out hd
        replace hf := Lib.hid hf
        clear hd hlt hnot
        go_wp2
        obtain ⟨B1, o1, b1, x1⟩ := bytes_more s hP.out.1 hP.out.1.size
        have hP2 : Pb w _ s wr.heap.size 0 0 := ⟨B1, (o1 _ hP.out.2.1.lt).trans hP.out.2.1, b1, x1⟩
        have hgS : w.heap.size < wr.heap.size := hP.out.2.1.lt
        have hgL := x1.lt h1
        clear B1 o1 b1 x1
        replace hP2 := Lib.hid hP2
        generalize Lib.bytesWorld _ 5 s = W2 at *
        generalize grownCap _ s.size 0 5 = cap2
        generalize wr.heap.size = g at *
        clear hP
        go_loopw [49] (fun iv wr => ∃ k h l : Nat, k ≤ s.size ∧ iv = .int .i64 (k : Int) ∧ Sm h ∧ Sm l ∧ pre s k = h * 18446744073709551616 + l ∧ Pb w wr s g h l) (fun iv _ => s.size - (intOf iv).toNat)
        case atStart => exact ⟨0, 0, 0, by omega, rfl, sm_zero, sm_zero, rfl, hP2.out⟩
        case round =>
          obtain ⟨k, h, l, hk, rfl, s1, s2, hv, hQ⟩ := hrel
          by_cases hlt : k < s.size
          · have cl : (k : Int) < (s.size : Int) := by omega
            have ck := hQ.2.2.2 k hlt
            have ca : wr.cell? ⟨g, 0, none⟩ = some (.int .u64 (h : Int)) := hQ.2.2.1.cell 0
            have cb : wr.cell? ⟨g, 1, none⟩ = some (.int .u64 (l : Int)) := hQ.2.2.1.cell 1
            have hd := hf.out.2.2.2 k hlt
            obtain ⟨d, hd2⟩ : ∃ d : Nat, d = ch s k - 48 := ⟨_, rfl⟩
            have hw : ((ch s k : Int) - 48) % 256 = (d : Int) := by have := hd.1; have := hd.2; omega
            have sd : Sm d := by have := hd.2; unfold Sm; omega
            have hpre : pre s (k + 1) = 10 * (h * 18446744073709551616 + l) + d := by rw [pre, hv, hd2]
            replace hpre := Lib.hid hpre
            replace hv := Lib.hid hv
            clear hd hd2
            replace hw := Lib.hid hw
            obtain ⟨o, hi, mh, ml, m1, s3, m2, s4, s5, hT⟩ := tens h l d s1 s2
            replace m1 := Lib.hid m1
            replace m2 := Lib.hid m2
            replace hT := Lib.hid hT
            go_wp2_with fail
            refine (mul_high h o hi s1 m1.out s3 _).mono ?_
            rintro e w' ⟨rfl, rfl⟩
            go_wp2_with fail
            refine (mul_halves l mh ml s2 m2.out s5 _).mono ?_
            rintro e w1 ⟨rfl, B1⟩
            have hL := World.block_lt_of_cell? _ _ (hQ.2.2.2 k hlt)
            have hQ1 := hQ.more hL B1
            have hL1 := World.block_lt_of_cell? _ _ (hQ1.2.2.2 k hlt)
            have hQ2 := hQ1.more hL1 (below_alloc1 w1 (Obj.cells #[.int .u64 (mh : Int), .int .u64 (ml : Int)] 24))
            have hL2 := World.block_lt_of_cell? _ _ (hQ2.2.2.2 k hlt)
            clear hQ1 hL1 B1 hQ hL ca cb ck m1 m2 s1 s2
            go_wp2_with fail
            generalize w1.alloc (Obj.cells #[.int .u64 (mh : Int), .int .u64 (ml : Int)] 24) = w2 at *
            generalize w1.heap.size = g1
            have hn1 : ¬ w.heap.size = g := by omega
            have hn2 : ¬ g = w.heap.size := by omega
            clear w1
            cases hT.out with
            | first h0 h1 =>
              have hp := par_over hf.out (k := k + 1) (by omega) (by rw [hpre.out]; exact h1)
              replace hp := Lib.hid hp
              replace h0 := Lib.hid h0
              clear h1 hT hpre hv
              refine (add_up hi 0 mh ml s3 sm_zero s4 s5 h0.out _).mono ?_
              rintro e w3 ⟨rfl, B3⟩
              have hQ3 := hQ2.more hL2 B3
              clear hQ2 hL2 B3 h0
              have c0 : w3.cell? ⟨g, 0, none⟩ = some (.int .u64 (h : Int)) := hQ3.2.2.1.cell 0
              have c1 : w3.cell? ⟨g, 1, none⟩ = some (.int .u64 (l : Int)) := hQ3.2.2.1.cell 1
              have f0 := hQ3.2.2.1.frozen 0
              have f1 := hQ3.2.2.1.frozen 1
              have z0 : w3.cell? ⟨w.heap.size, 0, none⟩ = some (.int .u64 0) := hQ3.2.1.cell 0
              have z1 : w3.cell? ⟨w.heap.size, 1, none⟩ = some (.int .u64 0) := hQ3.2.1.cell 1
              have y0 := hQ3.2.1.frozen 0
              have y1 := hQ3.2.1.frozen 1
              go_wp2
              have hQ4 := hQ3.put hgS 0 0
              generalize ((w3.setCell ⟨g, 0, none⟩ _).setCell ⟨g, 1, none⟩ _) = w4 at *
              have B9 := (hQ4.1.setCell (p := ⟨w.heap.size, 0, none⟩) (by simp) (.int .u64 0)).setCell (p := ⟨w.heap.size, 1, none⟩) (by simp) (.int .u64 0)
              have b9 := pair_set (u := .int .u64 0) (v := .int .u64 0) hQ4.2.1
              generalize ((w4.setCell ⟨w.heap.size, 0, none⟩ _).setCell ⟨w.heap.size, 1, none⟩ _) = w9 at *
              have k0 : w9.cell? ⟨w.heap.size, 0, none⟩ = some (.int .u64 0) := b9.cell 0
              have k1 : w9.cell? ⟨w.heap.size, 1, none⟩ = some (.int .u64 0) := b9.cell 1
              refine bodyPost_ret (v := .tuple #[.agg #[.int .u64 0, .int .u64 0], .int .i64 10]) (by simp [results, Try.results18, go_sem, k0, k1]) rfl ?_
              exact ⟨by rw [hp.out.1, hp.out.2, num_zero], B9⟩
            | high th tl ho h2 h3 h0 h1 =>
              have hp := par_over hf.out (k := k + 1) (by omega) (by rw [hpre.out]; exact h1)
              replace hp := Lib.hid hp
              replace h0 := Lib.hid h0
              clear h1 hT hpre hv
              refine (add_in hi 0 mh ml th tl s3 sm_zero s4 s5 h2 h3 h0.out _).mono ?_
              rintro e w3 ⟨rfl, B3⟩
              have hQ3 := hQ2.more hL2 B3
              clear hQ2 hL2 B3 h0
              have c0 : w3.cell? ⟨g, 0, none⟩ = some (.int .u64 (h : Int)) := hQ3.2.2.1.cell 0
              have c1 : w3.cell? ⟨g, 1, none⟩ = some (.int .u64 (l : Int)) := hQ3.2.2.1.cell 1
              have f0 := hQ3.2.2.1.frozen 0
              have f1 := hQ3.2.2.1.frozen 1
              have z0 : w3.cell? ⟨w.heap.size, 0, none⟩ = some (.int .u64 0) := hQ3.2.1.cell 0
              have z1 : w3.cell? ⟨w.heap.size, 1, none⟩ = some (.int .u64 0) := hQ3.2.1.cell 1
              have y0 := hQ3.2.1.frozen 0
              have y1 := hQ3.2.1.frozen 1
              go_wp2
              have hQ4 := hQ3.put hgS th tl
              generalize ((w3.setCell ⟨g, 0, none⟩ _).setCell ⟨g, 1, none⟩ _) = w4 at *
              have B9 := (hQ4.1.setCell (p := ⟨w.heap.size, 0, none⟩) (by simp) (.int .u64 0)).setCell (p := ⟨w.heap.size, 1, none⟩) (by simp) (.int .u64 0)
              have b9 := pair_set (u := .int .u64 0) (v := .int .u64 0) hQ4.2.1
              generalize ((w4.setCell ⟨w.heap.size, 0, none⟩ _).setCell ⟨w.heap.size, 1, none⟩ _) = w9 at *
              have k0 : w9.cell? ⟨w.heap.size, 0, none⟩ = some (.int .u64 0) := b9.cell 0
              have k1 : w9.cell? ⟨w.heap.size, 1, none⟩ = some (.int .u64 0) := b9.cell 1
              refine bodyPost_ret (v := .tuple #[.agg #[.int .u64 0, .int .u64 0], .int .i64 10]) (by simp [results, Try.results18, go_sem, k0, k1]) rfl ?_
              exact ⟨by rw [hp.out.1, hp.out.2, num_zero], B9⟩
            | digit th tl ho h2 h3 h0 h4 h1 =>
              have hp := par_over hf.out (k := k + 1) (by omega) (by rw [hpre.out]; exact h1)
              replace hp := Lib.hid hp
              replace h0 := Lib.hid h0
              replace h4 := Lib.hid h4
              clear h1 hT hpre hv
              subst ho
              refine (add_in hi 0 mh ml th tl s3 sm_zero s4 s5 h2 h3 h0.out _).mono ?_
              rintro e w3 ⟨rfl, B3⟩
              have hQ3 := hQ2.more hL2 B3
              have hL3 := World.block_lt_of_cell? _ _ (hQ3.2.2.2 k hlt)
              clear hQ2 hL2 B3 h0
              have c0 : w3.cell? ⟨g, 0, none⟩ = some (.int .u64 (h : Int)) := hQ3.2.2.1.cell 0
              have c1 : w3.cell? ⟨g, 1, none⟩ = some (.int .u64 (l : Int)) := hQ3.2.2.1.cell 1
              have f0 := hQ3.2.2.1.frozen 0
              have f1 := hQ3.2.2.1.frozen 1
              have z0 : w3.cell? ⟨w.heap.size, 0, none⟩ = some (.int .u64 0) := hQ3.2.1.cell 0
              have z1 : w3.cell? ⟨w.heap.size, 1, none⟩ = some (.int .u64 0) := hQ3.2.1.cell 1
              have y0 := hQ3.2.1.frozen 0
              have y1 := hQ3.2.1.frozen 1
              rw [Int.natCast_zero]
              go_wp2_with fail
              clear c0 c1 f0 f1 z0 z1 y0 y1
              have hQ4 := hQ3.put hgS th tl
              have hL4 := World.block_lt_of_cell? _ _ (hQ4.2.2.2 k hlt)
              clear hQ3 hL3
              generalize ((w3.setCell ⟨g, 0, none⟩ _).setCell ⟨g, 1, none⟩ _) = w4 at *
              rw [hw.out]
              refine (add_up th tl 0 d h2 h3 sm_zero sd h4.out _).mono ?_
              rintro e w5 ⟨rfl, B5⟩
              have hQ5 := hQ4.more hL4 B5
              clear hQ4 hL4 B5 h4
              have c0 : w5.cell? ⟨g, 0, none⟩ = some (.int .u64 (th : Int)) := hQ5.2.2.1.cell 0
              have c1 : w5.cell? ⟨g, 1, none⟩ = some (.int .u64 (tl : Int)) := hQ5.2.2.1.cell 1
              have f0 := hQ5.2.2.1.frozen 0
              have f1 := hQ5.2.2.1.frozen 1
              have z0 : w5.cell? ⟨w.heap.size, 0, none⟩ = some (.int .u64 0) := hQ5.2.1.cell 0
              have z1 : w5.cell? ⟨w.heap.size, 1, none⟩ = some (.int .u64 0) := hQ5.2.1.cell 1
              have y0 := hQ5.2.1.frozen 0
              have y1 := hQ5.2.1.frozen 1
              go_wp2
              have hQ6 := hQ5.put hgS 0 0
              generalize ((w5.setCell ⟨g, 0, none⟩ _).setCell ⟨g, 1, none⟩ _) = w6 at *
              have B9 := (hQ6.1.setCell (p := ⟨w.heap.size, 0, none⟩) (by simp) (.int .u64 0)).setCell (p := ⟨w.heap.size, 1, none⟩) (by simp) (.int .u64 0)
              have b9 := pair_set (u := .int .u64 0) (v := .int .u64 0) hQ6.2.1
              generalize ((w6.setCell ⟨w.heap.size, 0, none⟩ _).setCell ⟨w.heap.size, 1, none⟩ _) = w9 at *
              have k0 : w9.cell? ⟨w.heap.size, 0, none⟩ = some (.int .u64 0) := b9.cell 0
              have k1 : w9.cell? ⟨w.heap.size, 1, none⟩ = some (.int .u64 0) := b9.cell 1
              refine bodyPost_ret (v := .tuple #[.agg #[.int .u64 0, .int .u64 0], .int .i64 10]) (by simp [results, Try.results18, go_sem, k0, k1]) rfl ?_
              exact ⟨by rw [hp.out.1, hp.out.2, num_zero], B9⟩
            | fits th tl uh ul ho h2 h3 h0 h5 h6 h4 h1 =>
              have hp := hpre.out.trans h1
              replace hp := Lib.hid hp
              replace h0 := Lib.hid h0
              replace h4 := Lib.hid h4
              clear h1 hT hpre hv
              subst ho
              refine (add_in hi 0 mh ml th tl s3 sm_zero s4 s5 h2 h3 h0.out _).mono ?_
              rintro e w3 ⟨rfl, B3⟩
              have hQ3 := hQ2.more hL2 B3
              have hL3 := World.block_lt_of_cell? _ _ (hQ3.2.2.2 k hlt)
              clear hQ2 hL2 B3 h0
              have c0 : w3.cell? ⟨g, 0, none⟩ = some (.int .u64 (h : Int)) := hQ3.2.2.1.cell 0
              have c1 : w3.cell? ⟨g, 1, none⟩ = some (.int .u64 (l : Int)) := hQ3.2.2.1.cell 1
              have f0 := hQ3.2.2.1.frozen 0
              have f1 := hQ3.2.2.1.frozen 1
              have z0 : w3.cell? ⟨w.heap.size, 0, none⟩ = some (.int .u64 0) := hQ3.2.1.cell 0
              have z1 : w3.cell? ⟨w.heap.size, 1, none⟩ = some (.int .u64 0) := hQ3.2.1.cell 1
              have y0 := hQ3.2.1.frozen 0
              have y1 := hQ3.2.1.frozen 1
              rw [Int.natCast_zero]
              go_wp2_with fail
              clear c0 c1 f0 f1 z0 z1 y0 y1
              have hQ4 := hQ3.put hgS th tl
              have hL4 := World.block_lt_of_cell? _ _ (hQ4.2.2.2 k hlt)
              clear hQ3 hL3
              generalize ((w3.setCell ⟨g, 0, none⟩ _).setCell ⟨g, 1, none⟩ _) = w4 at *
              rw [hw.out]
              refine (add_in th tl 0 d uh ul h2 h3 sm_zero sd h5 h6 h4.out _).mono ?_
              rintro e w5 ⟨rfl, B5⟩
              have hQ5 := hQ4.more hL4 B5
              clear hQ4 hL4 B5 h4
              have c0 : w5.cell? ⟨g, 0, none⟩ = some (.int .u64 (th : Int)) := hQ5.2.2.1.cell 0
              have c1 : w5.cell? ⟨g, 1, none⟩ = some (.int .u64 (tl : Int)) := hQ5.2.2.1.cell 1
              have f0 := hQ5.2.2.1.frozen 0
              have f1 := hQ5.2.2.1.frozen 1
              have z0 : w5.cell? ⟨w.heap.size, 0, none⟩ = some (.int .u64 0) := hQ5.2.1.cell 0
              have z1 : w5.cell? ⟨w.heap.size, 1, none⟩ = some (.int .u64 0) := hQ5.2.1.cell 1
              have y0 := hQ5.2.1.frozen 0
              have y1 := hQ5.2.1.frozen 1
              go_wp2
              exact ⟨⟨k + 1, uh, ul, by omega, by go_num, h5, h6, hp.out, hQ5.put hgS uh ul⟩, by simp [intOf]; omega⟩
          · obtain rfl : k = s.size := by omega
            have hp := par_good hf.out (by rw [hv]; unfold Sm at *; omega)
            have he : NumPost w (parN s) (parE s) (.returned (.tuple #[.agg #[.int .u64 (h : Int), .int .u64 (l : Int)], .int .i64 0])) = NumPost w (parN s) (parE s) (.returned (.tuple #[num (parN s), .int .i64 (parE s)])) := by
              rw [hp.1, hp.2, hv, num_wv h l s2]
            replace he := Lib.hid he
            clear hp hv hlt
            have c0 : wr.cell? ⟨g, 0, none⟩ = some (.int .u64 (h : Int)) := hQ.2.2.1.cell 0
            have c1 : wr.cell? ⟨g, 1, none⟩ = some (.int .u64 (l : Int)) := hQ.2.2.1.cell 1
            have f0 := hQ.2.2.1.frozen 0
            have f1 := hQ.2.2.1.frozen 1
            have z0 : wr.cell? ⟨w.heap.size, 0, none⟩ = some (.int .u64 0) := hQ.2.1.cell 0
            have z1 : wr.cell? ⟨w.heap.size, 1, none⟩ = some (.int .u64 0) := hQ.2.1.cell 1
            have y0 := hQ.2.1.frozen 0
            have y1 := hQ.2.1.frozen 1
            go_wp2
            have B9 := (hQ.1.setCell (p := ⟨w.heap.size, 0, none⟩) (by simp) (.int .u64 (h : Int))).setCell (p := ⟨w.heap.size, 1, none⟩) (by simp) (.int .u64 (l : Int))
            have b9 := pair_set (u := .int .u64 (h : Int)) (v := .int .u64 (l : Int)) hQ.2.1
            generalize ((wr.setCell ⟨w.heap.size, 0, none⟩ _).setCell ⟨w.heap.size, 1, none⟩ _) = w9 at *
            have k0 : w9.cell? ⟨w.heap.size, 0, none⟩ = some (.int .u64 (h : Int)) := b9.cell 0
            have k1 : w9.cell? ⟨w.heap.size, 1, none⟩ = some (.int .u64 (l : Int)) := b9.cell 1
            refine bodyPost_ret (v := .tuple #[.agg #[.int .u64 (h : Int), .int .u64 (l : Int)], .int .i64 0]) (by simp [results, Try.results18, go_sem, k0, k1]) rfl ?_
            rw [he.out]
            exact ⟨rfl, B9⟩
theorem parse_any (s : ByteArray) (w : World) : Calls Try.prog 18 #[.string s] w (NumPost w (parN s) (parE s)) := by
  by_cases h1 : s.size = 0
  · exact parse_empty s h1 w
  · by_cases h2 : 39 < s.size
    · exact parse_long s h2 w
    · by_cases h3 : 1 < s.size ∧ ch s 0 = 48
      · exact parse_zero s (by omega) h3.1 h3.2 w
      · exact parse_run s (by omega) (by omega) (fun a b => h3 ⟨a, b⟩) w
end Go.Proofs.Ytodjpljdkjemmaa
