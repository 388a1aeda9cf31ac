/- Plain laws of the means: the nearest is the nearest; centres that are the vectors cost nothing; what is moved has centres that are moved. No program in sight. -/
import Derived.Test.YtoglemdooaiddaaKCost
namespace Go.Proofs.Ytoglemdooaiddaa
open Go.RowKit

/-! ### The nearest -/
theorem nearTo_min (cs : List (List Int)) (v : List Int) (n : Nat) : ∀ c, c < n → (nearTo cs v n).2 ≤ farN (mrow cs c) v := by
  induction n with
  | zero => intro c hc; omega
  | succ n ih =>
    intro c hc
    rw [nearTo]
    split
    · rename_i h
      by_cases e : c = n
      · subst e; exact Nat.le_refl _
      · rcases h with h | h
        · omega
        · exact Nat.le_trans (Nat.le_of_lt h) (ih c (by omega))
    · rename_i h
      by_cases e : c = n
      · subst e; exact Nat.le_of_not_lt (fun hh => h (.inr hh))
      · exact ih c (by omega)
theorem nearTo_at (cs : List (List Int)) (v : List Int) (n : Nat) (h : 0 < n) : farN (mrow cs (nearTo cs v n).1) v = (nearTo cs v n).2 := by
  induction n with
  | zero => omega
  | succ n ih =>
    rw [nearTo]
    split
    · rfl
    · rename_i hn
      exact ih (by omega)
theorem nearTo_first (cs : List (List Int)) (v : List Int) (n : Nat) : ∀ c, c < (nearTo cs v n).1 → (nearTo cs v n).2 < farN (mrow cs c) v := by
  induction n with
  | zero => intro c hc; simp [nearTo] at hc
  | succ n ih =>
    rw [nearTo]
    split
    · rename_i h
      intro c hc
      simp only at hc
      rcases h with h | h
      · omega
      · exact Nat.lt_of_lt_of_le h (nearTo_min cs v n c hc)
    · exact ih
theorem farTo_self (a : List Int) (n : Nat) : farTo a a n = 0 := by
  induction n with
  | zero => rfl
  | succ n ih => rw [farTo, ih, Int.sub_self]; rfl
theorem farN_self (a : List Int) : farN a a = 0 := farTo_self a _

/-! ### Each number is in a permutation -/
def Onto (n : Nat) (l : List Int) : Prop := l.length = n ∧ ∀ p, p < n → ∃ i, i < n ∧ nth l i = (p : Int)
theorem Onto.swap {n : Nat} {l : List Int} (h : Onto n l) {i k : Nat} (hi : i < n) (hk : k < n) : Onto n (swapL l i k) := by
  refine ⟨by rw [swapL_length]; exact h.1, fun p hp => ?_⟩
  obtain ⟨x, hx, e⟩ := h.2 p hp
  have he := fun x => nth_swapL l i k x (by have := h.1; omega) (by have := h.1; omega)
  by_cases h1 : x = i
  · exact ⟨k, hk, by rw [he, if_pos rfl, ← h1]; exact e⟩
  · by_cases h2 : x = k
    · refine ⟨i, hi, ?_⟩
      rw [he]
      split
      · rename_i e1; rw [e1, ← h2]; exact e
      · rw [if_pos rfl, ← h2]; exact e
    · exact ⟨x, hx, by rw [he, if_neg h2, if_neg h1]; exact e⟩
theorem Onto.loop {n : Nat} (i : Nat) : ∀ (s : Int) (l : List Int), i < n ∨ i = 0 → Onto n l → Onto n (permLoop i s l).1 := by
  induction i with
  | zero => intro s l _ h; exact h
  | succ i ih =>
    intro s l hi h
    rw [permLoop]
    have h0 : 0 ≤ draw s % ((i : Int) + 2) := Int.emod_nonneg _ (by omega)
    have h1 : draw s % ((i : Int) + 2) < (i : Int) + 2 := Int.emod_lt_of_pos _ (by omega)
    exact ih _ _ (by omega) (h.swap (by omega) (by omega))
theorem Onto.iota_ (n : Nat) : Onto n (iota n) := ⟨iota_length n, fun p hp => ⟨p, hp, by simp [iota, nth, hp]⟩⟩
theorem permOf_onto (s : Int) (n : Nat) : Onto n (permOf s n).1 := Onto.loop _ _ _ (by omega) (Onto.iota_ n)

/-! ### Training -/
theorem train_rows {l : List (List Int)} {k r : Int} (s : Int) (h : trainE l k r = 0) : CoordAll (trainN l k.toNat r.toNat s) (mrow l 0).length := by
  obtain ⟨h1, h2, h3, h4, h5, h6, h7⟩ := trainE_ok h
  exact (Within.train h7.coords.within s r.toNat (by omega)).coords
theorem train_dim {l : List (List Int)} {k r : Int} (h : trainE l k r = 0) : 1 ≤ (mrow l 0).length ∧ (mrow l 0).length ≤ 64 := by
  obtain ⟨h1, h2, h3, h4, h5, h6, h7⟩ := trainE_ok h
  have := vecE_ok (h7 0 (by omega))
  omega
theorem train_cost {l : List (List Int)} {k r : Int} (s : Int) (h : trainE l k r = 0) : costE (trainN l k.toNat r.toNat s) l = 0 := by
  obtain ⟨h1, h2, h3, h4, h5, h6, h7⟩ := trainE_ok h
  have hr := train_rows s h
  have hd := train_dim h
  have hl := trainN_length l k.toNat r.toNat s
  have e0 : (mrow (trainN l k.toNat r.toNat s) 0).length = (mrow l 0).length := (hr 0 (by omega)).1
  have hm : mayE (trainN l k.toNat r.toNat s) = 0 := by
    rw [mayE, if_neg (by omega), e0]
    exact allE_none _ _ (hr.ok hd.1 hd.2)
  rw [costE, if_pos hm, if_neg (by omega), e0]
  exact allE_none _ _ h7
theorem within_at {l : List (List Int)} {k r : Int} (s : Int) (h : trainE l k r = 0) {n : Nat} (hn : n < (mrow l 0).length) {lo hi : Int} (hb : ∀ j, j < l.length → lo ≤ nth (mrow l j) n ∧ nth (mrow l j) n ≤ hi) {i : Nat} (hi2 : i < k.toNat) :
    lo ≤ nth (mrow (trainN l k.toNat r.toNat s) i) n ∧ nth (mrow (trainN l k.toNat r.toNat s) i) n ≤ hi := by
  obtain ⟨h1, h2, h3, h4, h5, h6, h7⟩ := trainE_ok h
  have hw : Within l (mrow l 0).length (fun x => if x = n then lo else -2147483647) (fun x => if x = n then hi else 2147483647) := fun c hc => by
    refine ⟨(h7.coords c hc).1, fun x hx => ?_⟩
    by_cases e : x = n
    · subst e
      simpa using hb c hc
    · simpa [e] using (h7.coords c hc).2 x hx
  have := (Within.train hw s (k := k.toNat) r.toNat (by omega) i (by rw [trainN_length]; exact hi2)).2 n hn
  simpa using this
theorem cost_zero {l : List (List Int)} (s : Int) (n : Nat) (hn : n ≤ l.length) : costTo (startN l (permOf s l.length).1 l.length) l n = 0 := by
  induction n with
  | zero => rfl
  | succ n ih =>
    rw [costTo, ih (by omega), Nat.zero_add]
    obtain ⟨i, hi, e⟩ := (permOf_onto s l.length).2 n (by omega)
    have hr : mrow (startN l (permOf s l.length).1 l.length) i = mrow l n := by
      rw [startN, mrow_map _ _ hi, e]
      simp
    have h := nearTo_min (startN l (permOf s l.length).1 l.length) (mrow l n) (startN l (permOf s l.length).1 l.length).length i (by rw [startN_length]; exact hi)
    rw [hr, farN_self] at h
    exact Nat.le_zero.1 h
theorem train_zero {l : List (List Int)} {k r : Int} (s : Int) (h : trainE l k r = 0) (hk : ¬ k < (l.length : Int)) (hr : ¬ 0 < r) : costN (trainN l k.toNat r.toNat s) l = 0 := by
  obtain ⟨h1, h2, h3, h4, h5, h6, h7⟩ := trainE_ok h
  rw [costN, if_pos (train_cost s h)]
  have e1 : k.toNat = l.length := by omega
  have e2 : r.toNat = 0 := by omega
  rw [e1, e2]
  exact cost_zero s _ (Nat.le_refl _)

/-! ### Moved -/
def mvN (by_ : List Int) (i : Nat) : Int := if i < by_.length ∧ -8589934588 < nth by_ i ∧ nth by_ i < 8589934588 then nth by_ i else 0
def shiftN (by_ v : List Int) : List Int := (List.range v.length).map fun i => nth v i + mvN by_ i
theorem shiftN_length (by_ v : List Int) : (shiftN by_ v).length = v.length := by simp [shiftN]
theorem nth_shiftN {by_ v : List Int} {i : Nat} (h : i < v.length) : nth (shiftN by_ v) i = nth v i + mvN by_ i := nth_map _ _ h
def movedN (by_ : List Int) (l : List (List Int)) : List (List Int) := l.map (shiftN by_)
theorem movedN_length (by_ : List Int) (l : List (List Int)) : (movedN by_ l).length = l.length := by simp [movedN]
theorem mrow_movedN {by_ : List Int} {l : List (List Int)} {i : Nat} (h : i < l.length) : mrow (movedN by_ l) i = shiftN by_ (mrow l i) := by simp [mrow, movedN, h]
theorem moved_far {by_ a b : List Int} (h : a.length = b.length) : farN (shiftN by_ a) (shiftN by_ b) = farN a b := by
  unfold farN
  rw [shiftN_length]
  have : ∀ n, n ≤ a.length → farTo (shiftN by_ a) (shiftN by_ b) n = farTo a b n := by
    intro n hn
    induction n with
    | zero => rfl
    | succ n ih =>
      rw [farTo, farTo, ih (by omega), nth_shiftN (by omega), nth_shiftN (by omega)]
      congr 2
      omega
  exact this _ (Nat.le_refl _)
theorem moved_near {by_ v : List Int} {cs : List (List Int)} {d : Nat} (hc : ∀ i, i < cs.length → (mrow cs i).length = d) (hv : v.length = d) : nearN (movedN by_ cs) (shiftN by_ v) = nearN cs v := by
  unfold nearN
  rw [movedN_length]
  have : ∀ n, n ≤ cs.length → nearTo (movedN by_ cs) (shiftN by_ v) n = nearTo cs v n := by
    intro n hn
    induction n with
    | zero => rfl
    | succ n ih =>
      rw [nearTo, nearTo, ih (by omega), mrow_movedN (by omega), moved_far (by rw [hc n (by omega), hv])]
  exact this _ (Nat.le_refl _)
section
variable {by_ : List Int} {cs l : List (List Int)} {d : Nat}
theorem moved_many (hc : ∀ i, i < cs.length → (mrow cs i).length = d) (hl : ∀ i, i < l.length → (mrow l i).length = d) (c n : Nat) (hn : n ≤ l.length) : manyTo (movedN by_ cs) (movedN by_ l) c n = manyTo cs l c n := by
  induction n with
  | zero => rfl
  | succ n ih => rw [manyTo, manyTo, ih (by omega), mrow_movedN (by omega), moved_near hc (hl n (by omega))]
theorem moved_sum (hc : ∀ i, i < cs.length → (mrow cs i).length = d) (hl : ∀ i, i < l.length → (mrow l i).length = d) (c x n : Nat) (hx : x < d) (hn : n ≤ l.length) :
    sumTo (movedN by_ cs) (movedN by_ l) c x n = sumTo cs l c x n + mvN by_ x * (manyTo cs l c n : Int) := by
  induction n with
  | zero => simp [sumTo, manyTo]
  | succ n ih =>
    rw [sumTo, sumTo, manyTo, ih (by omega), mrow_movedN (by omega), moved_near hc (hl n (by omega))]
    split
    · rw [nth_shiftN (by rw [hl n (by omega)]; exact hx), Int.natCast_add, Int.natCast_one, Int.mul_add, Int.mul_one]
      omega
    · simp
theorem moved_next (hc : ∀ i, i < cs.length → (mrow cs i).length = d) (hl : ∀ i, i < l.length → (mrow l i).length = d) : nextN (movedN by_ cs) (movedN by_ l) d = movedN by_ (nextN cs l d) := by
  refine mrow_ext (by rw [nextN_length, movedN_length, movedN_length, nextN_length]) fun c hcl => ?_
  rw [nextN_length, movedN_length] at hcl
  rw [mrow_nextN _ _ _ _ (by rw [movedN_length]; exact hcl), mrow_movedN (by rw [nextN_length]; exact hcl), mrow_nextN _ _ _ _ hcl]
  unfold nextRow
  rw [movedN_length, moved_many hc hl c _ (Nat.le_refl _)]
  split
  · rw [mrow_movedN hcl]
  · rename_i hm
    have hml : (meanRow cs l d c).length = d := meanRow_length _ _ _ _
    refine nth_ext (by rw [meanRow_length, shiftN_length, hml]) fun x hx => ?_
    rw [meanRow_length] at hx
    rw [nth_shiftN (by rw [hml]; exact hx), meanRow, nth_map _ _ hx, meanRow, nth_map _ _ hx, movedN_length, moved_many hc hl c _ (Nat.le_refl _), moved_sum hc hl c x _ hx (Nat.le_refl _)]
    exact Int.add_mul_ediv_right _ _ (by omega)
theorem moved_rounds {ps : List Int} {k : Nat} (hc : ∀ r i, i < k → (mrow (roundsN l d r (startN l ps k)) i).length = d) (hl : ∀ i, i < l.length → (mrow l i).length = d) (hp : ∀ i, i < k → (nth ps i).toNat < l.length) (r : Nat) :
    roundsN (movedN by_ l) d r (startN (movedN by_ l) ps k) = movedN by_ (roundsN l d r (startN l ps k)) := by
  induction r with
  | zero =>
    refine mrow_ext (by rw [roundsN, roundsN, startN_length, movedN_length, startN_length]) fun i hi => ?_
    rw [roundsN, startN_length] at hi
    rw [roundsN, roundsN, mrow_movedN (by rw [startN_length]; exact hi), startN, startN, mrow_map _ _ hi, mrow_map _ _ hi, mrow_movedN (hp i hi)]
  | succ r ih =>
    rw [roundsN, roundsN, ih]
    exact moved_next (fun i hi => hc r i (by rwa [roundsN_length, startN_length] at hi)) hl
end
theorem moved_train {by_ : List Int} {l : List (List Int)} {k r : Int} (s : Int) (h : trainE l k r = 0) : trainN (movedN by_ l) k.toNat r.toNat s = movedN by_ (trainN l k.toNat r.toNat s) := by
  obtain ⟨h1, h2, h3, h4, h5, h6, h7⟩ := trainE_ok h
  unfold trainN
  rw [movedN_length, mrow_movedN (by omega), shiftN_length]
  refine moved_rounds (fun q i hi => ?_) (fun i hi => (h7.coords i hi).1) (fun i hi => (perm_place (by omega)).2) _
  exact (Within.rounds h7.coords.within (Within.start h7.coords.within s (by omega)) q i (by rw [roundsN_length, startN_length]; exact hi)).1
theorem vecE_two {v : List Int} {d : Int} (h1 : 1 ≤ d) (h2 : d ≤ 64) (h3 : (v.length : Int) = d) : vecE v d = 0 ∨ vecE v d = 31 := by
  rw [vecE, if_neg (by omega)]
  split
  · exact .inl rfl
  · exact .inr rfl
theorem allE_two {l : List (List Int)} {d : Int} (h1 : 1 ≤ d) (h2 : d ≤ 64) (h : ∀ v, v ∈ l → (v.length : Int) = d) : allE l d = 0 ∨ allE l d = 31 := by
  induction l with
  | nil => exact .inl rfl
  | cons v l ih =>
    rw [allE]
    split
    · exact ih (fun u hu => h u (by simp [hu]))
    · rename_i hn
      exact (vecE_two h1 h2 (h v (by simp))).elim (fun e => absurd e hn) .inr
theorem moved_trainE {by_ : List Int} {l : List (List Int)} {k r : Int} (h : trainE l k r = 0) : trainE (movedN by_ l) k r = 0 ∨ trainE (movedN by_ l) k r = 31 := by
  obtain ⟨h1, h2, h3, h4, h5, h6, h7⟩ := trainE_ok h
  have hd := train_dim h
  rw [trainE, if_neg (by omega), movedN_length, if_neg (by omega), if_neg (by omega), mrow_movedN (by omega), shiftN_length]
  refine allE_two (by omega) (by omega) fun v hv => ?_
  obtain ⟨u, hu, rfl⟩ := List.mem_map.1 hv
  rw [shiftN_length]
  obtain ⟨i, hi, e⟩ := List.getElem_of_mem hu
  have := (h7.coords i hi).1
  rw [show mrow l i = u by simp [mrow, hi, e]] at this
  omega
end Go.Proofs.Ytoglemdooaiddaa
