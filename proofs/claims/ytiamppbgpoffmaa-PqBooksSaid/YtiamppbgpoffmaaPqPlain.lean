/- The plain laws of the coder: an estimate is the distance from what a code says; a vector's own code is the nearest; a book of all vectors says them exactly. No program in sight. -/
import Derived.Test.YtiamppbgpoffmaaPqAwake
namespace Go.Proofs.Ytiamppbgpoffmaa
open Go.RowKit
set_option linter.unusedVariables false

theorem sqN_sym (x y : Int) : sqN (x - y) = sqN (y - x) := by
  have h : (x - y).natAbs = (y - x).natAbs := by omega
  rw [sqN, sqN, h]
theorem farTo_sym (a b : List Int) (n : Nat) : farTo a b n = farTo b a n := by
  induction n with
  | zero => rfl
  | succ n ih => rw [farTo, farTo, ih, sqN_sym]
theorem farN_sym {a b : List Int} (h : a.length = b.length) : farN a b = farN b a := by rw [farN, farN, farTo_sym, h]
theorem farTo_zero {a b : List Int} {n : Nat} (h : farTo a b n = 0) : ∀ i, i < n → nth a i = nth b i := by
  induction n with
  | zero => intro i hi; omega
  | succ n ih =>
    rw [farTo] at h
    intro i hi
    by_cases e : i = n
    · subst e
      have h2 : sqN (nth a i - nth b i) = 0 := by omega
      rw [sqN] at h2
      have h3 : (nth a i - nth b i).natAbs = 0 := by
        rcases Nat.mul_eq_zero.1 h2 with h | h <;> exact h
      omega
    · exact ih (by omega) i (by omega)
theorem farN_zero {a b : List Int} (hl : a.length = b.length) (h : farN a b = 0) : a = b := nth_ext hl (farTo_zero h)
theorem farTo_add {a b a' b' : List Int} {x : Nat} (y : Nat) (h : ∀ i, i < y → nth a' i = nth a (x + i) ∧ nth b' i = nth b (x + i)) : farTo a b (x + y) = farTo a b x + farTo a' b' y := by
  induction y with
  | zero => rfl
  | succ y ih =>
    obtain ⟨h1, h2⟩ := h y (Nat.lt_succ_self y)
    rw [← Nat.add_assoc, farTo, farTo, ih (fun i hi => h i (by omega)), h1, h2]
    omega
theorem far_part {A B : List Int} {n m : Nat} (hA : (m + 1) * n ≤ A.length) : farTo A B ((m + 1) * n) = farTo A B (m * n) + farN (partN A n m) (partN B n m) := by
  rw [farN, partN_length hA, Nat.add_mul, Nat.one_mul]
  exact farTo_add n fun i hi => ⟨nth_partN hi, nth_partN hi⟩
theorem nth_app (L r : List Int) (i : Nat) : nth (L ++ r) i = if i < L.length then nth L i else nth r (i - L.length) := by
  unfold nth
  split
  · rename_i h
    rw [List.getD_eq_getElem?_getD, List.getElem?_append_left h, ← List.getD_eq_getElem?_getD]
  · rename_i h
    rw [List.getD_eq_getElem?_getD, List.getElem?_append_right (by omega), ← List.getD_eq_getElem?_getD]
theorem part_left {L r : List Int} {n j : Nat} (h : (j + 1) * n ≤ L.length) : partN (L ++ r) n j = partN L n j := by
  have h1 : (partN (L ++ r) n j).length = n := partN_length (by rw [List.length_append]; omega)
  refine nth_ext (by rw [h1, partN_length h]) fun x hx => ?_
  rw [h1] at hx
  rw [Nat.add_mul, Nat.one_mul] at h
  rw [nth_partN hx, nth_partN hx, nth_app, if_pos (by omega)]
theorem part_right {L r : List Int} {n j : Nat} (h : L.length = j * n) (hr : r.length = n) : partN (L ++ r) n j = r := by
  have h1 : (partN (L ++ r) n j).length = n := partN_length (by rw [List.length_append, h, hr, Nat.add_mul, Nat.one_mul]; omega)
  refine nth_ext (by rw [h1, hr]) fun x hx => ?_
  rw [h1] at hx
  rw [nth_partN hx, nth_app, if_neg (by omega), h, Nat.add_sub_cancel_left]
theorem at_part {A : List Int} {n p x : Nat} (hn : 1 ≤ n) (hx : x < p * n) : x / n < p ∧ x % n < n ∧ nth A x = nth (partN A n (x / n)) (x % n) := by
  have h2 := Nat.mod_lt x (show 0 < n by omega)
  refine ⟨(Nat.div_lt_iff_lt_mul (by omega)).2 hx, h2, ?_⟩
  rw [nth_partN h2, Nat.mul_comm (x / n) n, Nat.div_add_mod]
theorem parts_ext {A B : List Int} {n p : Nat} (hn : 1 ≤ n) (hA : A.length = p * n) (hB : B.length = p * n) (h : ∀ j, j < p → partN A n j = partN B n j) : A = B := by
  refine nth_ext (by rw [hA, hB]) fun x hx => ?_
  rw [hA] at hx
  obtain ⟨h1, h2, h3⟩ := at_part (A := A) hn hx
  obtain ⟨_, _, h4⟩ := at_part (A := B) hn hx
  rw [h3, h4, h _ h1]

section
variable {bs : List (List (List Int))} {d p n k : Nat}
theorem decE_in (hB : Cod bs d p n k) {code : List Int} (h : decE bs code = 0) : code.length = p ∧ InTo bs code p := by
  unfold decE at h
  split at h
  · rename_i h1
    have h2 : code.length = p := by rw [h1.1, hB.len]
    have h3 := h1.2
    rw [h2] at h3
    exact ⟨h2, h3⟩
  · omega
theorem decE_zero (hB : Cod bs d p n k) {code : List Int} (h1 : code.length = p) (h2 : InTo bs code p) : decE bs code = 0 := by
  rw [decE, if_pos ⟨by rw [h1, hB.len], by rw [h1]; exact h2⟩]
theorem in_row (hB : Cod bs d p n k) {code : List Int} {m j : Nat} (hm : m ≤ p) (hj : j < m) (hi : InTo bs code m) : (nth code j).toNat < k ∧ (mrow (brow bs j) (nth code j).toNat).length = n ∧ CoordTo (mrow (brow bs j) (nth code j).toNat) n := by
  have h1 := hi j hj
  have h2 := hB.rows j (by omega)
  have h3 := hB.coords j (by omega) (nth code j).toNat (by omega)
  exact ⟨by omega, h3.1, h3.2⟩
theorem part_decN (hB : Cod bs d p n k) {code : List Int} {j : Nat} : ∀ {m : Nat}, m ≤ p → j < m → InTo bs code m → partN (decN bs code m) n j = mrow (brow bs j) (nth code j).toNat
  | 0, _, hj, _ => by omega
  | m + 1, hm, hj, hi => by
    have hi2 : InTo bs code m := fun i hh => hi i (by omega)
    have hl := decN_length hB (j := m) (by omega) hi2
    rw [decN]
    by_cases e : j = m
    · subst e
      exact part_right hl (in_row hB hm hj hi).2.1
    · rw [part_left (by rw [hl]; exact Nat.mul_le_mul_right _ (by omega))]
      exact part_decN hB (by omega) (by omega) hi2
theorem dec_vec (hB : Cod bs d p n k) {code : List Int} (hi : InTo bs code p) : (decN bs code p).length = d ∧ vecE (decN bs code p) d = 0 := by
  have hl := decN_length hB (Nat.le_refl p) hi
  have he := hB.parts.eq
  have hn := hB.n64
  have h64 := hB.d64
  refine ⟨by rw [hl, he], vecE_zero (by omega) (by omega) (by rw [hl, he]) fun x hx => ?_⟩
  rw [hl] at hx
  obtain ⟨h1, h2, h3⟩ := at_part (A := decN bs code p) hn.1 hx
  rw [h3, part_decN hB (Nat.le_refl p) h1 hi]
  exact (in_row hB (Nat.le_refl p) h1 hi).2.2 _ h2
/-- An estimate is the distance from what the code says. -/
theorem est_far (hB : Cod bs d p n k) {code Q : List Int} (hi : InTo bs code p) (hQ : Q.length = d) : ∀ m, m ≤ p → estS (tabN bs n Q p k) code m = farTo Q (decN bs code p) (m * n)
  | 0, _ => by simp [estS, farTo]
  | m + 1, hm => by
    have hr := in_row hB (Nat.le_refl p) (show m < p by omega) hi
    rw [estS, est_far hB hi hQ m (by omega), far_part (by rw [hQ]; exact hB.parts.fits (by omega)), wrow_tabN (by omega), nthw_tabR hr.1, part_decN hB (Nat.le_refl p) (by omega) hi]
theorem est_in (hB : Cod bs d p n k) {code Q : List Int} (hi : InTo bs code p) : EstIn (tabN bs n Q p k) code p := fun j hj => by
  rw [wrow_tabN hj, tabR_length]
  have h1 := hi j hj
  rw [hB.rows j hj] at h1
  exact h1
theorem est_says (hB : Cod bs d p n k) {code Q : List Int} (hc : decE bs code = 0) (hQ : vecE Q d = 0) : estE (tabN bs n Q p k) code = 0 ∧ estV (tabN bs n Q p k) code = farN (decN bs code p) Q := by
  obtain ⟨h1, h2⟩ := decE_in hB hc
  obtain ⟨h3, h4⟩ := dec_vec hB h2
  obtain ⟨q1, q2, q3, q4⟩ := vecE_ok hQ
  obtain ⟨_, _, _, r4⟩ := vecE_ok h4
  have hql : Q.length = d := by omega
  have hd := hB.d64
  have hs : estS (tabN bs n Q p k) code code.length = farN (decN bs code p) Q := by
    rw [h1, est_far hB h2 hql p (Nat.le_refl p), farN_sym (by rw [h3, hql]), farN, hql, hB.parts.eq]
  have hw : Wd (estS (tabN bs n Q p k) code code.length) := by
    rw [hs, farN]
    exact farTo_wd (by omega) r4 (by rw [h3]; rw [hql] at q4; exact q4)
  obtain ⟨e1, e2⟩ := estE_fits (t := tabN bs n Q p k) (code := code) (by rw [tabN_length, h1]) (by rw [h1]; exact est_in hB h2) hw
  exact ⟨e1, by rw [e2, hs]⟩
theorem enc_in (hB : Cod bs d p n k) (v : List Int) : InTo bs (encN bs n v p) p := fun j hj => by
  have h1 := hB.rows j hj
  have h2 := hB.k1
  have := nearN_lt (brow bs j) (partN v n j) (by omega)
  rw [nth_encN hj]
  omega
theorem enc_decE (hB : Cod bs d p n k) (v : List Int) : decE bs (encN bs n v p) = 0 := decE_zero hB (encN_length _ _ _ _) (enc_in hB v)
/-- A vector all of whose parts are in the books is said exactly. -/
theorem enc_exact (hB : Cod bs d p n k) {v : List Int} (hv : v.length = d) (h : ∀ j, j < p → ∃ a, a < k ∧ mrow (brow bs j) a = partN v n j) : decN bs (encN bs n v p) p = v := by
  have hi := enc_in hB v
  refine parts_ext (p := p) hB.n64.1 (decN_length hB (Nat.le_refl p) hi) (by rw [hv, hB.parts.eq]) fun j hj => ?_
  rw [part_decN hB (Nat.le_refl p) hj hi]
  obtain ⟨a, ha, he⟩ := h j hj
  have hrow := (in_row hB (Nat.le_refl p) hj hi).2.1
  have h1 := hB.rows j hj
  rw [nth_encN hj, Int.toNat_natCast] at hrow ⊢
  refine farN_zero (by rw [hrow, partN_length (by rw [hv]; exact hB.parts.fits hj)]) ?_
  have h2 := nearTo_at (brow bs j) (partN v n j) (brow bs j).length (by omega)
  have h3 := nearTo_min (brow bs j) (partN v n j) (brow bs j).length a (by omega)
  rw [he, farN_self] at h3
  rw [nearN, h2]
  omega
/-- What was said is said again. -/
theorem dec_again (hB : Cod bs d p n k) {code : List Int} (hi : InTo bs code p) : decN bs (encN bs n (decN bs code p) p) p = decN bs code p :=
  enc_exact hB (dec_vec hB hi).1 fun j hj => ⟨_, (in_row hB (Nat.le_refl p) hj hi).1, (part_decN hB (Nat.le_refl p) hj hi).symm⟩
/-- A vector's own code says what is nearest. -/
theorem enc_near (hB : Cod bs d p n k) {code v : List Int} (hi : InTo bs code p) : farN (decN bs (encN bs n v p) p) v ≤ farN (decN bs code p) v := by
  have hi2 := enc_in hB v
  have l1 := (dec_vec hB hi2).1
  have l2 := (dec_vec hB hi).1
  have key : ∀ m, m ≤ p → farTo (decN bs (encN bs n v p) p) v (m * n) ≤ farTo (decN bs code p) v (m * n) := by
    intro m
    induction m with
    | zero => intro _; simp [farTo]
    | succ m ih =>
      intro hm
      rw [far_part (by rw [l1]; exact hB.parts.fits (by omega)), far_part (by rw [l2]; exact hB.parts.fits (by omega)), part_decN hB (Nat.le_refl p) (by omega) hi2, part_decN hB (Nat.le_refl p) (by omega) hi, nth_encN (by omega), Int.toNat_natCast]
      have h1 := hB.rows m (by omega)
      have h0 := hB.k1
      have h2 := nearTo_at (brow bs m) (partN v n m) (brow bs m).length (by omega)
      have h3 := nearTo_min (brow bs m) (partN v n m) (brow bs m).length (nth code m).toNat (by rw [h1]; exact (in_row hB (Nat.le_refl p) (by omega) hi).1)
      have h4 := ih (by omega)
      rw [nearN, h2]
      omega
  have := key p (Nat.le_refl p)
  rw [farN, farN, l1, l2, hB.parts.eq]
  exact this
end
/-- As many codes as vectors, and no rounds: each vector is in the books. -/
theorem book_all {l : List (List Int)} {n : Nat} (s : Int) (j i : Nat) (hi : i < l.length) : ∃ a, a < l.length ∧ mrow (bookN l n l.length 0 s j) a = partN (mrow l i) n j := by
  have hcl := cutN_length l n j
  obtain ⟨x, hx, he⟩ := (permOf_onto (IntKind.u64.wrap (s + (j : Int))) (cutN l n j).length).2 i (by rw [hcl]; exact hi)
  rw [hcl] at hx
  refine ⟨x, hx, ?_⟩
  have e1 : bookN l n l.length 0 s j = startN (cutN l n j) (permOf (IntKind.u64.wrap (s + (j : Int))) (cutN l n j).length).1 l.length := rfl
  rw [e1, startN, mrow_map _ _ hx, he, Int.toNat_natCast, mrow_cutN hi]
theorem train_exact {l : List (List Int)} {dim parts k r : Int} (s : Int) (h : pqE l dim parts k r = 0) (hr : r = 0) (hk : k = (l.length : Int)) (j : Nat) (hj : j < l.length) :
    decN (booksN l (dim.toNat / parts.toNat) parts.toNat k.toNat r.toNat s) (encN (booksN l (dim.toNat / parts.toNat) parts.toNat k.toNat r.toNat s) (dim.toNat / parts.toNat) (mrow l j) parts.toNat) parts.toNat = mrow l j := by
  have hB := cod_good s h
  obtain ⟨h1, _, _, _, _, _, _, _, _, _, _, h12⟩ := pqE_ok h
  have hl := (vecE_ok (h12 j hj)).2.2.1
  have e1 : k.toNat = l.length := by omega
  have e2 : r.toNat = 0 := by omega
  rw [e1, e2] at hB ⊢
  refine enc_exact hB (by omega) fun i hi => ?_
  rw [brow_booksN hi]
  exact book_all s i j hj
theorem dec_wd {bs : List (List (List Int))} {d p n k : Nat} (hB : Cod bs d p n k) {code v : List Int} (hi : InTo bs code p) (hv : vecE v d = 0) : Wd (farN (decN bs code p) v) := by
  obtain ⟨h3, h4⟩ := dec_vec hB hi
  obtain ⟨q1, q2, q3, q4⟩ := vecE_ok hv
  obtain ⟨_, _, _, r4⟩ := vecE_ok h4
  have hql : v.length = d := by omega
  rw [farN]
  exact farTo_wd (by have := hB.d64; omega) r4 (by rw [h3]; rw [hql] at q4; exact q4)
end Go.Proofs.Ytiamppbgpoffmaa
