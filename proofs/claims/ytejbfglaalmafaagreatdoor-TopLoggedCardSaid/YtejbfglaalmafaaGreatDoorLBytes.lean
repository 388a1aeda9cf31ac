/- Plain laws: what is laid as bytes is read again. No program in sight. -/
import Derived.Test.YtejbfglaalmafaaGreatDoorLHead
namespace Go.Proofs.YtejbfglaalmafaaGreatDoor
open Go.RowKit
set_option linter.unusedVariables false

theorem nb_left {a b : List UInt8} {j : Nat} (h : j < a.length) : nb (a ++ b) j = nb a j := by
  rw [nb, nb, List.getD_eq_getElem?_getD, List.getElem?_append_left h, ← List.getD_eq_getElem?_getD]
theorem nb_right (a b : List UInt8) (j : Nat) : nb (a ++ b) (a.length + j) = nb b j := by
  rw [nb, nb, List.getD_eq_getElem?_getD, List.getElem?_append_right (by omega), ← List.getD_eq_getElem?_getD, Nat.add_sub_cancel_left]
theorem nb_leB {n : Nat} {x : Int} {i : Nat} (h : i < n) : (nb (leB n x) i : Int) = x / 256 ^ i % 256 := by
  rw [nb, leB]
  simp [h, byteI_val]
theorem pw_0 : (256 : Int) ^ 0 = 1 := by decide
theorem pw_1 : (256 : Int) ^ 1 = 256 := by decide
theorem pw_2 : (256 : Int) ^ 2 = 65536 := by decide
theorem pw_3 : (256 : Int) ^ 3 = 16777216 := by decide
theorem pw_4_0 : (256 : Int) ^ (4 + 0) = 4294967296 := by decide
theorem pw_4_1 : (256 : Int) ^ (4 + 1) = 1099511627776 := by decide
theorem pw_4_2 : (256 : Int) ^ (4 + 2) = 281474976710656 := by decide
theorem pw_4_3 : (256 : Int) ^ (4 + 3) = 72057594037927936 := by decide
/-- Four bytes at a place are a number's. -/
theorem val32_sub {l : List UInt8} {k : Nat} {x : Int} (hx : 0 ≤ x ∧ x < 4294967296) (h : ∀ i, i < 4 → nb l (k + i) = nb (leB 4 x) i) : (val32 l k : Int) = x := by
  have h0 := h 0 (by omega); have h1 := h 1 (by omega); have h2 := h 2 (by omega); have h3 := h 3 (by omega)
  have g0 := nb_leB (n := 4) (x := x) (i := 0) (by omega); have g1 := nb_leB (n := 4) (x := x) (i := 1) (by omega)
  have g2 := nb_leB (n := 4) (x := x) (i := 2) (by omega); have g3 := nb_leB (n := 4) (x := x) (i := 3) (by omega)
  simp only [Nat.add_zero] at h0
  simp only [pw_0, pw_1, pw_2, pw_3] at g0 g1 g2 g3
  unfold val32
  rw [h0, h1, h2, h3]
  omega
theorem val64_sub {l : List UInt8} {k : Nat} {x : Int} (hx : 0 ≤ x ∧ x < 18446744073709551616) (h : ∀ i, i < 8 → nb l (k + i) = nb (leB 8 x) i) : (val64 l k : Int) = x := by
  have a1 : (val32 l k : Int) = x % 4294967296 := by
    refine val32_sub (by omega) fun i hi => ?_
    have e := h i (by omega)
    have g1 := nb_leB (n := 8) (x := x) (i := i) (by omega)
    have g2 := nb_leB (n := 4) (x := x % 4294967296) (i := i) hi
    have : (nb (leB 8 x) i : Int) = nb (leB 4 (x % 4294967296)) i := by
      rw [g1, g2]
      match i, hi with
      | 0, _ => simp only [pw_0]; omega
      | 1, _ => simp only [pw_1]; omega
      | 2, _ => simp only [pw_2]; omega
      | 3, _ => simp only [pw_3]; omega
    rw [e]; omega
  have a2 : (val32 l (k + 4) : Int) = x / 4294967296 := by
    refine val32_sub (by omega) fun i hi => ?_
    have e := h (4 + i) (by omega)
    rw [← Nat.add_assoc] at e
    have g1 := nb_leB (n := 8) (x := x) (i := 4 + i) (by omega)
    have g2 := nb_leB (n := 4) (x := x / 4294967296) (i := i) hi
    have : (nb (leB 8 x) (4 + i) : Int) = nb (leB 4 (x / 4294967296)) i := by
      rw [g1, g2]
      match i, hi with
      | 0, _ => simp only [pw_4_0, pw_0]; omega
      | 1, _ => simp only [pw_4_1, pw_1]; omega
      | 2, _ => simp only [pw_4_2, pw_2]; omega
      | 3, _ => simp only [pw_4_3, pw_3]; omega
    rw [e]; omega
  unfold val64
  omega
theorem val32_mid {a b : List UInt8} {x : Int} (hx : 0 ≤ x ∧ x < 4294967296) : (val32 (a ++ (leB 4 x ++ b)) a.length : Int) = x :=
  val32_sub hx fun i hi => by rw [nb_right, nb_left (by rw [leB_length]; exact hi)]
theorem val64_mid {a b : List UInt8} {x : Int} (hx : 0 ≤ x ∧ x < 18446744073709551616) : (val64 (a ++ (leB 8 x ++ b)) a.length : Int) = x :=
  val64_sub hx fun i hi => by rw [nb_right, nb_left (by rw [leB_length]; exact hi)]
section
variable (seq : Nat) (d r : List UInt8)
theorem rec_len (hd : d.length ≤ 65536) : val32 (laidB seq d ++ r) 0 = d.length := by
  have e : laidB seq d ++ r = [] ++ (leB 4 (d.length : Int) ++ (leB 8 (seq : Int) ++ d ++ leB 4 (crcN (laidX seq d)) ++ r)) := by simp [laidB, laidX]
  have h := val32_mid (a := []) (b := leB 8 (seq : Int) ++ d ++ leB 4 (crcN (laidX seq d)) ++ r) (x := (d.length : Int)) (by omega)
  rw [← e] at h
  simp only [List.length_nil] at h
  omega
theorem rec_seq (hq : seq ≤ 1000000000000) : val64 (laidB seq d ++ r) 4 = seq := by
  have e : laidB seq d ++ r = leB 4 (d.length : Int) ++ (leB 8 (seq : Int) ++ (d ++ leB 4 (crcN (laidX seq d)) ++ r)) := by simp [laidB, laidX]
  have h := val64_mid (a := leB 4 (d.length : Int)) (b := d ++ leB 4 (crcN (laidX seq d)) ++ r) (x := (seq : Int)) (by omega)
  rw [← e, leB_length] at h
  omega
theorem rec_take : (laidB seq d ++ r).take (d.length + 16) = laidB seq d := by
  have h := laidB_length seq d
  rw [show d.length + 16 = (laidB seq d).length by omega, List.take_left]
theorem rec_drop : (laidB seq d ++ r).drop (d.length + 16) = r := by
  have h := laidB_length seq d
  rw [show d.length + 16 = (laidB seq d).length by omega, List.drop_left]
theorem rec_sum : (val32 (laidB seq d) (12 + d.length) : Int) = crcN ((laidB seq d).take (12 + d.length)) := by
  have h := val32_mid (a := laidX seq d) (b := []) (x := crcN (laidX seq d)) (crcN_range _)
  rw [List.append_nil] at h
  have e : laidB seq d = laidX seq d ++ leB 4 (crcN (laidX seq d)) := rfl
  rw [e, ← laidX_length seq d, h, List.take_left]
theorem rec_data : ((laidB seq d ++ r).drop 12).take d.length = d := by
  have e : laidB seq d ++ r = (leB 4 (d.length : Int) ++ leB 8 (seq : Int)) ++ (d ++ (leB 4 (crcN (laidX seq d)) ++ r)) := by simp [laidB, laidX]
  have h : (leB 4 (d.length : Int) ++ leB 8 (seq : Int)).length = 12 := by simp [leB_length]
  rw [e, ← h, List.drop_left, List.take_left]
end
section
variable (first : Nat) (r : List UInt8)
theorem head_take : (headB first ++ r).take 16 = headB first := by rw [← headB_length (first : Int), List.take_left]
theorem head_drop : (headB first ++ r).drop 16 = r := by rw [← headB_length (first : Int), List.drop_left]
theorem mark_first {x : Int} (hx : 0 ≤ x ∧ x < 4294967296) (b : List UInt8) : (val32 (leB 4 x ++ b) 0 : Int) = x := by
  have h := val32_mid (a := []) (b := b) hx
  simp only [List.nil_append, List.length_nil] at h
  exact h
theorem head_parts (x first : Int) (r : List UInt8) : (leB 4 x ++ leB 8 first) ++ leB 4 (crcN (leB 4 x ++ leB 8 first)) ++ r = leB 4 x ++ (leB 8 first ++ (leB 4 (crcN (leB 4 x ++ leB 8 first)) ++ r)) := by
  rw [List.append_assoc, List.append_assoc]
theorem head_mark : val32 (headB first ++ r) 0 = 1818326888 := by
  have h := mark_first (x := 1818326888) (by omega) (leB 8 (first : Int) ++ (leB 4 (crcN (leB 4 1818326888 ++ leB 8 (first : Int))) ++ r))
  rw [← head_parts] at h
  exact Int.ofNat.inj h
theorem head_first (hf : first ≤ 1000000000000) : val64 (headB first ++ r) 4 = first := by
  have e : headB first ++ r = leB 4 1818326888 ++ (leB 8 (first : Int) ++ (leB 4 (crcN (leB 4 1818326888 ++ leB 8 (first : Int))) ++ r)) := by simp [headB]
  have h := val64_mid (a := leB 4 1818326888) (b := leB 4 (crcN (leB 4 1818326888 ++ leB 8 (first : Int))) ++ r) (x := (first : Int)) (by omega)
  rw [← e, leB_length] at h
  omega
theorem head_sum : (val32 (headB first) 12 : Int) = crcN ((headB first).take 12) := by
  have h := val32_mid (a := leB 4 1818326888 ++ leB 8 (first : Int)) (b := []) (x := crcN (leB 4 1818326888 ++ leB 8 (first : Int))) (crcN_range _)
  have hl : (leB 4 1818326888 ++ leB 8 (first : Int)).length = 12 := by simp [leB_length]
  rw [List.append_nil, hl] at h
  have e : headB first = (leB 4 1818326888 ++ leB 8 (first : Int)) ++ leB 4 (crcN (leB 4 1818326888 ++ leB 8 (first : Int))) := rfl
  rw [e, h, ← hl, List.take_left]
end
/-- The bytes of records, from a number on. -/
def recsB : Nat → List (List UInt8) → List UInt8
  | _, [] => []
  | seq, d :: ds => laidB seq d ++ recsB (seq + 1) ds
theorem recsB_snoc : ∀ (seq : Nat) (ds : List (List UInt8)) (d : List UInt8), recsB seq (ds ++ [d]) = recsB seq ds ++ laidB (seq + ds.length) d
  | seq, [], d => by simp [recsB]
  | seq, e :: ds, d => by
    simp only [List.cons_append, recsB, recsB_snoc (seq + 1) ds d, List.length_cons, List.append_assoc]
    rw [show seq + 1 + ds.length = seq + (ds.length + 1) by omega]
def segB (first : Nat) (ds : List (List UInt8)) : List UInt8 := headB first ++ recsB first ds
end Go.Proofs.YtejbfglaalmafaaGreatDoor
