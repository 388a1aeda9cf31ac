/- The plain law on permutations: what Perm's exchanges make of 0 .. n - 1 has each number once. No program in sight. -/
import Derived.Test.YtoglemdooaiddaaRandPure
import Derived.Test.YtoglemdooaiddaaMem
namespace Go.Proofs.Ytoglemdooaiddaa

structure IsPerm (n : Nat) (l : List Int) : Prop where
  len : l.length = n
  lo : ∀ i, i < n → 0 ≤ nth l i
  hi : ∀ i, i < n → nth l i < n
  inj : ∀ i j, i < n → j < n → nth l i = nth l j → i = j

theorem nth_swapL (l : List Int) (i k x : Nat) (hi : i < l.length) (hk : k < l.length) : nth (swapL l i k) x = nth l (if x = k then i else if x = i then k else x) := by
  unfold nth swapL
  by_cases h1 : x = k
  · subst h1
    simp [hk, hi]
  · rw [if_neg h1, List.getD_eq_getElem?_getD, List.getElem?_set_ne (Ne.symm h1)]
    by_cases h2 : x = i
    · subst h2
      simp [hi]
    · rw [if_neg h2, List.getElem?_set_ne (Ne.symm h2), ← List.getD_eq_getElem?_getD]

theorem IsPerm.swap {n : Nat} {l : List Int} (h : IsPerm n l) {i k : Nat} (hi : i < n) (hk : k < n) : IsPerm n (swapL l i k) := by
  have hl := h.len
  have he := fun x => nth_swapL l i k x (by omega) (by omega)
  refine { len := by rw [swapL_length]; exact hl, lo := ?_, hi := ?_, inj := ?_ }
  · intro x hx
    rw [he]
    exact h.lo _ (by split <;> (try split) <;> omega)
  · intro x hx
    rw [he]
    exact h.hi _ (by split <;> (try split) <;> omega)
  · intro x y hx hy hxy
    rw [he, he] at hxy
    have := h.inj _ _ (by split <;> (try split) <;> omega) (by split <;> (try split) <;> omega) hxy
    revert this
    split <;> (try split) <;> (try split) <;> (try split) <;> omega

theorem IsPerm.loop {n : Nat} (i : Nat) : ∀ (s : Int) (l : List Int), i < n ∨ i = 0 → IsPerm n l → IsPerm n (permLoop i s l).1 := by
  induction i with
  | zero => intro s l _ h; exact h
  | succ i ih =>
    intro s l hi h
    have h2 := Int.emod_nonneg (draw s) (show ((i : Int) + 2) ≠ 0 by omega)
    have h3 := Int.emod_lt_of_pos (draw s) (show (0 : Int) < (i : Int) + 2 by omega)
    exact ih _ _ (by omega) (h.swap (by omega) (by omega))

theorem IsPerm.iota_ (n : Nat) : IsPerm n (iota n) := by
  have he : ∀ i, i < n → nth (iota n) i = i := fun i hi => by simp [nth, iota, hi]
  exact { len := iota_length n, lo := fun i hi => by rw [he i hi]; omega, hi := fun i hi => by rw [he i hi]; omega, inj := fun i j hi hj h => by rw [he i hi, he j hj] at h; omega }

theorem iota_snoc (n : Nat) : iota n ++ [(n : Int)] = iota (n + 1) := by simp [iota, List.range_succ]

theorem permOf_isPerm (s : Int) (n : Nat) : IsPerm n (permOf s n).1 := IsPerm.loop _ _ _ (by omega) (IsPerm.iota_ n)

/-- Which numbers have stood among the first i. -/
def seenTo (l : List Int) (i n : Nat) : List Bool := (List.range n).map fun (v : Nat) => (l.take i).any fun x => x == (v : Int)
theorem seenTo_length (l : List Int) (i n : Nat) : (seenTo l i n).length = n := by simp [seenTo]
theorem seenTo_zero (l : List Int) (n : Nat) : seenTo l 0 n = List.replicate n false := by
  apply List.ext_getElem?
  intro i
  simp [seenTo]
  by_cases h : i < n <;> simp [h]
theorem seenTo_new {n : Nat} {l : List Int} (h : IsPerm n l) {i : Nat} (hi : i < n) : (seenTo l i n)[(nth l i).toNat]? = some false := by
  have h1 := h.lo i hi
  have h2 := h.hi i hi
  have hlt : (nth l i).toNat < n := by omega
  simp only [seenTo, List.getElem?_map, List.getElem?_range hlt, Option.map_some]
  congr 1
  rw [List.any_eq_false]
  intro x hx
  obtain ⟨j, hj, rfl⟩ := List.mem_iff_getElem.1 hx
  simp only [List.length_take] at hj
  have hl := h.len
  intro he
  have he' : nth l j = nth l i := by
    simp only [beq_iff_eq] at he
    rw [show (((nth l i).toNat : Nat) : Int) = nth l i by omega] at he
    rw [← he]
    simp [nth, show j < l.length by omega]
  have := h.inj j i (by omega) hi he'
  omega
theorem seenTo_succ {n : Nat} {l : List Int} (h : IsPerm n l) {i : Nat} (hi : i < n) : (seenTo l i n).set (nth l i).toNat true = seenTo l (i + 1) n := by
  have h1 := h.lo i hi
  have h2 := h.hi i hi
  have hl := h.len
  have hil : i < l.length := by omega
  have hnth : nth l i = l[i] := by simp [nth, hil]
  apply List.ext_getElem?
  intro v
  by_cases hv : v < n
  · simp only [List.getElem?_set, seenTo, List.length_map, List.length_range, List.getElem?_map, List.getElem?_range hv, Option.map_some]
    rw [List.take_succ_eq_append_getElem hil, List.any_append]
    by_cases e : (nth l i).toNat = v
    · rw [if_pos e, if_pos (by omega)]
      have : l[i] = (v : Int) := by rw [← hnth]; omega
      simp [this]
    · rw [if_neg e]
      have : ¬ l[i] = (v : Int) := by rw [← hnth]; omega
      simp [this]
  · simp [seenTo, hv]

end Go.Proofs.Ytoglemdooaiddaa
