/- Plain functions of the coder: parts of vectors, books, codes. No program in sight. -/
import Derived.Test.YtiamppbgpoffmaaQTrain
namespace Go.Proofs.Ytiamppbgpoffmaa
open Go.RowKit

/-- The i-th part of a vector, of n numbers. -/
def partN (v : List Int) (n i : Nat) : List Int := (v.drop (i * n)).take n
theorem partN_length {v : List Int} {n i : Nat} (h : (i + 1) * n ≤ v.length) : (partN v n i).length = n := by
  rw [Nat.add_mul, Nat.one_mul] at h
  rw [partN, List.length_take, List.length_drop]
  omega
theorem nth_partN {v : List Int} {n i x : Nat} (hx : x < n) : nth (partN v n i) x = nth v (i * n + x) := by
  simp [nth, partN, hx]
def cutN (l : List (List Int)) (n i : Nat) : List (List Int) := l.map fun v => partN v n i
theorem cutN_length (l : List (List Int)) (n i : Nat) : (cutN l n i).length = l.length := by simp [cutN]
theorem mrow_cutN {l : List (List Int)} {n i j : Nat} (h : j < l.length) : mrow (cutN l n i) j = partN (mrow l j) n i := by simp [mrow, cutN, h]
/-- The error of a training. -/
def pqE (l : List (List Int)) (dim parts codes rounds : Int) : Int :=
  if dim < 1 ∨ 64 < dim then 30 else if parts < 1 ∨ 8 < parts ∨ codes < 1 ∨ 16 < codes ∨ rounds < 0 ∨ 20 < rounds then 1 else if dim % parts ≠ 0 then 100 else
  if 512 < l.length then 2 else if (l.length : Int) < codes then 60 else allE l dim
theorem pqE_ok {l : List (List Int)} {dim parts codes rounds : Int} (h : pqE l dim parts codes rounds = 0) :
    1 ≤ dim ∧ dim ≤ 64 ∧ 1 ≤ parts ∧ parts ≤ 8 ∧ 1 ≤ codes ∧ codes ≤ 16 ∧ 0 ≤ rounds ∧ rounds ≤ 20 ∧ dim % parts = 0 ∧ l.length ≤ 512 ∧ codes ≤ l.length ∧ AllOk l dim l.length := by
  unfold pqE at h
  split at h
  · omega
  · split at h
    · omega
    · split at h
      · omega
      · rename_i h3
        split at h
        · omega
        · split at h
          · omega
          · exact ⟨by omega, by omega, by omega, by omega, by omega, by omega, by omega, by omega, Decidable.not_not.1 h3, by omega, by omega, allE_ok _ _ h⟩
/-- Book i. -/
def bookN (l : List (List Int)) (n codes rounds : Nat) (s : Int) (i : Nat) : List (List Int) := trainN (cutN l n i) codes rounds (IntKind.u64.wrap (s + (i : Int)))
theorem bookN_length (l : List (List Int)) (n codes rounds : Nat) (s : Int) (i : Nat) : (bookN l n codes rounds s i).length = codes := trainN_length _ _ _ _

/-- Parts that divide a dimension. -/
structure Parts (d p n : Nat) : Prop where
  n1 : 1 ≤ n
  p1 : 1 ≤ p
  eq : d = p * n
theorem Parts.of {dim parts : Int} (h1 : 1 ≤ dim) (h2 : 1 ≤ parts) (h : dim % parts = 0) : Parts dim.toNat parts.toNat (dim.toNat / parts.toNat) := by
  obtain ⟨d, rfl⟩ : ∃ d : Nat, dim = (d : Int) := ⟨dim.toNat, by omega⟩
  obtain ⟨p, rfl⟩ : ∃ p : Nat, parts = (p : Int) := ⟨parts.toNat, by omega⟩
  simp only [Int.toNat_natCast]
  have h' : d % p = 0 := by
    have : ((d % p : Nat) : Int) = 0 := by rw [Int.natCast_emod]; exact h
    omega
  have e : p * (d / p) = d := Nat.mul_div_cancel' (Nat.dvd_of_mod_eq_zero h')
  refine ⟨?_, by omega, e.symm⟩
  rcases Nat.eq_zero_or_pos (d / p) with h0 | h0
  · rw [h0, Nat.mul_zero] at e; omega
  · exact h0
theorem Parts.fits {d p n i : Nat} (h : Parts d p n) (hi : i < p) : (i + 1) * n ≤ d := by
  rw [h.eq]
  exact Nat.mul_le_mul_right _ (by omega)
/-- A vector's parts are as they should be. -/
theorem part_ok {v : List Int} {d p n i : Nat} (hp : Parts d p n) (hi : i < p) (hd : d ≤ 64) (h : vecE v d = 0) : (partN v n i).length = n ∧ vecE (partN v n i) n = 0 := by
  obtain ⟨h1, _, h3, h4⟩ := vecE_ok h
  have hf := hp.fits hi
  have hl : (partN v n i).length = n := partN_length (by omega)
  have hn1 := hp.n1
  have hn2 : n ≤ d := by
    have : 1 * n ≤ (i + 1) * n := Nat.mul_le_mul_right _ (by omega)
    omega
  refine ⟨hl, vecE_zero (by omega) (by omega) (by omega) fun x hx => ?_⟩
  rw [hl] at hx
  rw [nth_partN hx]
  rw [Nat.add_mul, Nat.one_mul] at hf
  exact h4 _ (by omega)
theorem cut_ok {l : List (List Int)} {d p n i : Nat} {codes rounds : Int} (hp : Parts d p n) (hi : i < p) (hd : d ≤ 64) (h : AllOk l d l.length) (h1 : 1 ≤ codes) (h2 : codes ≤ 64) (h3 : 0 ≤ rounds) (h4 : rounds ≤ 20) (h5 : l.length ≤ 512) (h6 : codes ≤ (l.length : Int)) : trainE (cutN l n i) codes rounds = 0 ∧ (mrow (cutN l n i) 0).length = n := by
  have e0 : (mrow (cutN l n i) 0).length = n := by
    rw [mrow_cutN (by omega)]
    exact (part_ok hp hi hd (h 0 (by omega))).1
  refine ⟨?_, e0⟩
  rw [trainE, if_neg (by omega), cutN_length, if_neg (by omega), if_neg (by omega), e0]
  refine allE_none _ _ fun j hj => ?_
  rw [cutN_length] at hj
  rw [mrow_cutN hj]
  exact (part_ok hp hi hd (h j hj)).2
/-- A book's rows are as they should be. -/
theorem book_ok {l : List (List Int)} {d p n i : Nat} {codes rounds : Int} (s : Int) (hp : Parts d p n) (hi : i < p) (hd : d ≤ 64) (h : AllOk l d l.length) (h1 : 1 ≤ codes) (h2 : codes ≤ 64) (h3 : 0 ≤ rounds) (h4 : rounds ≤ 20) (h5 : l.length ≤ 512) (h6 : codes ≤ (l.length : Int)) : CoordAll (bookN l n codes.toNat rounds.toNat s i) n := by
  obtain ⟨e1, e2⟩ := cut_ok hp hi hd h h1 h2 h3 h4 h5 h6
  have := train_rows (IntKind.u64.wrap (s + (i : Int))) e1
  rw [e2] at this
  exact this
end Go.Proofs.Ytiamppbgpoffmaa
