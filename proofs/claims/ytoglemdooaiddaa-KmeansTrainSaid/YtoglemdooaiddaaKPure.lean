/- Plain functions of the means: distances, the nearest centre, a round, all rounds. No program in sight. -/
import Derived.Test.YtoglemdooaiddaaVecCheck
import Derived.Test.YtoglemdooaiddaaRandPlain
namespace Go.Proofs.Ytoglemdooaiddaa
open Go.RowKit

/-- Row i of a list of rows. -/
def mrow (m : List (List Int)) (i : Nat) : List Int := m.getD i []
theorem mrow_mem (m : List (List Int)) (i : Nat) (h : i < m.length) : mrow m i ∈ m := by
  simp [mrow, h]
theorem mrow_map {n : Nat} (f : Nat → List Int) (i : Nat) (h : i < n) : mrow ((List.range n).map f) i = f i := by
  simp [mrow, h]
theorem mrow_ext {a b : List (List Int)} (hl : a.length = b.length) (h : ∀ i, i < a.length → mrow a i = mrow b i) : a = b := by
  apply List.ext_getElem hl
  intro i h1 h2
  have := h i h1
  simpa [mrow, h1, h2] using this
theorem nth_map {n : Nat} (f : Nat → Int) (i : Nat) (h : i < n) : nth ((List.range n).map f) i = f i := by
  simp [nth, h]
theorem nth_ext {a b : List Int} (hl : a.length = b.length) (h : ∀ i, i < a.length → nth a i = nth b i) : a = b := by
  apply List.ext_getElem hl
  intro i h1 h2
  have := h i h1
  simpa [nth, h1, h2] using this

/-- The square of a whole number. -/
def sqN (n : Int) : Nat := n.natAbs * n.natAbs
theorem sqN_zero : sqN 0 = 0 := rfl
def farTo (a b : List Int) : Nat → Nat
  | 0 => 0
  | n + 1 => farTo a b n + sqN (nth a n - nth b n)
/-- The distance of two vectors. -/
def farN (a b : List Int) : Nat := farTo a b a.length
/-- The nearest of the first n centres, and how far it is. -/
def nearTo (cs : List (List Int)) (v : List Int) : Nat → Nat × Nat
  | 0 => (0, 0)
  | n + 1 => if n = 0 ∨ farN (mrow cs n) v < (nearTo cs v n).2 then (n, farN (mrow cs n) v) else nearTo cs v n
def nearN (cs : List (List Int)) (v : List Int) : Nat × Nat := nearTo cs v cs.length

theorem nearTo_lt (cs : List (List Int)) (v : List Int) (n : Nat) : (nearTo cs v (n + 1)).1 < n + 1 := by
  induction n with
  | zero => simp [nearTo]
  | succ n ih =>
    rw [nearTo]
    split
    · simp
    · omega
theorem nearN_lt (cs : List (List Int)) (v : List Int) (h : 0 < cs.length) : (nearN cs v).1 < cs.length := by
  unfold nearN
  obtain ⟨n, hn⟩ : ∃ n, cs.length = n + 1 := ⟨cs.length - 1, by omega⟩
  rw [hn]
  exact nearTo_lt cs v n

/-- Coordinates are within what the document lets be. -/
def CoordAll (m : List (List Int)) (d : Nat) : Prop := ∀ i, i < m.length → (mrow m i).length = d ∧ CoordTo (mrow m i) d

theorem sqN_le {a b : Int} (ha : -2147483647 ≤ a ∧ a ≤ 2147483647) (hb : -2147483647 ≤ b ∧ b ≤ 2147483647) : sqN (a - b) ≤ 18446744056529682436 := by
  unfold sqN
  have h : (a - b).natAbs ≤ 4294967294 := by omega
  calc _ ≤ 4294967294 * 4294967294 := Nat.mul_le_mul h h
    _ = _ := by decide
theorem farTo_le {a b : List Int} (n : Nat) (ha : CoordTo a n) (hb : CoordTo b n) : farTo a b n ≤ n * 18446744056529682436 := by
  induction n with
  | zero => simp [farTo]
  | succ n ih =>
    rw [farTo]
    have h1 := ih (fun j hj => ha j (by omega)) (fun j hj => hb j (by omega))
    have h2 := sqN_le (ha n (by omega)) (hb n (by omega))
    omega

/-- How many vectors of the first i are nearest to centre c; and their sum at coordinate x. -/
def manyTo (cs l : List (List Int)) (c : Nat) : Nat → Nat
  | 0 => 0
  | i + 1 => manyTo cs l c i + if (nearN cs (mrow l i)).1 = c then 1 else 0
def sumTo (cs l : List (List Int)) (c x : Nat) : Nat → Int
  | 0 => 0
  | i + 1 => sumTo cs l c x i + if (nearN cs (mrow l i)).1 = c then nth (mrow l i) x else 0
theorem manyTo_le (cs l : List (List Int)) (c i : Nat) : manyTo cs l c i ≤ i := by
  induction i with
  | zero => simp [manyTo]
  | succ i ih => rw [manyTo]; split <;> omega

def meanRow (cs l : List (List Int)) (d c : Nat) : List Int := (List.range d).map fun x => sumTo cs l c x l.length / (manyTo cs l c l.length : Int)
/-- Centre c behind a round. -/
def nextRow (cs l : List (List Int)) (d c : Nat) : List Int := if manyTo cs l c l.length = 0 then mrow cs c else meanRow cs l d c
def nextN (cs l : List (List Int)) (d : Nat) : List (List Int) := (List.range cs.length).map (nextRow cs l d)
theorem nextN_length (cs l : List (List Int)) (d : Nat) : (nextN cs l d).length = cs.length := by simp [nextN]
theorem mrow_nextN (cs l : List (List Int)) (d c : Nat) (h : c < cs.length) : mrow (nextN cs l d) c = nextRow cs l d c := mrow_map _ _ h
def roundsN (l : List (List Int)) (d : Nat) : Nat → List (List Int) → List (List Int)
  | 0, cs => cs
  | r + 1, cs => nextN (roundsN l d r cs) l d
theorem roundsN_length (l : List (List Int)) (d r : Nat) (cs : List (List Int)) : (roundsN l d r cs).length = cs.length := by
  induction r with
  | zero => rfl
  | succ r ih => rw [roundsN, nextN_length, ih]
/-- The first centres: the vectors at the first places of an order. -/
def startN (l : List (List Int)) (ps : List Int) (k : Nat) : List (List Int) := (List.range k).map fun i => mrow l (nth ps i).toNat
theorem startN_length (l : List (List Int)) (ps : List Int) (k : Nat) : (startN l ps k).length = k := by simp [startN]
/-- The centres. -/
def trainN (l : List (List Int)) (k r : Nat) (s : Int) : List (List Int) := roundsN l (mrow l 0).length r (startN l (permOf s l.length).1 k)
theorem trainN_length (l : List (List Int)) (k r : Nat) (s : Int) : (trainN l k r s).length = k := by rw [trainN, roundsN_length, startN_length]

/-- The first error of some vectors. -/
def allE : List (List Int) → Int → Int
  | [], _ => 0
  | v :: l, d => if vecE v d = 0 then allE l d else vecE v d
def AllOk (l : List (List Int)) (d : Int) (n : Nat) : Prop := ∀ i, i < n → vecE (mrow l i) d = 0
theorem AllOk.succ {l : List (List Int)} {d : Int} {n : Nat} (h : AllOk l d n) (h1 : vecE (mrow l n) d = 0) : AllOk l d (n + 1) := fun i hi => by
  by_cases e : i = n
  · subst e; exact h1
  · exact h i (by omega)
theorem allE_first (l : List (List Int)) (d : Int) (k : Nat) (hk : k < l.length) (h : AllOk l d k) (hb : vecE (mrow l k) d ≠ 0) : allE l d = vecE (mrow l k) d := by
  induction l generalizing k with
  | nil => simp at hk
  | cons v l ih =>
    cases k with
    | zero => rw [allE]; exact if_neg hb
    | succ k =>
      rw [allE, if_pos (show vecE v d = 0 from h 0 (by omega))]
      exact ih k (by simpa using hk) (fun i hi => h (i + 1) (by omega)) hb
theorem allE_none (l : List (List Int)) (d : Int) (h : AllOk l d l.length) : allE l d = 0 := by
  induction l with
  | nil => rfl
  | cons v l ih =>
    rw [allE, if_pos (show vecE v d = 0 from h 0 (by simp))]
    exact ih (fun i hi => h (i + 1) (by simpa using hi))
theorem allE_ok (l : List (List Int)) (d : Int) (h : allE l d = 0) : AllOk l d l.length := by
  induction l with
  | nil => intro i hi; simp at hi
  | cons v l ih =>
    rw [allE] at h
    intro i hi
    by_cases hv : vecE v d = 0
    · rw [if_pos hv] at h
      cases i with
      | zero => exact hv
      | succ i => exact ih h i (by simpa using hi)
    · rw [if_neg hv] at h; exact absurd h hv
theorem vecE_ok {v : List Int} {d : Int} (h : vecE v d = 0) : 1 ≤ d ∧ d ≤ 64 ∧ (v.length : Int) = d ∧ CoordTo v v.length := by
  unfold vecE at h
  split at h
  · omega
  · split at h
    · rename_i h1 h2; exact ⟨by omega, by omega, by omega, h2⟩
    · omega
theorem vecE_zero {v : List Int} {d : Int} (h1 : 1 ≤ d) (h2 : d ≤ 64) (h3 : (v.length : Int) = d) (h4 : CoordTo v v.length) : vecE v d = 0 := by
  rw [vecE, if_neg (by omega), if_pos h4]
theorem AllOk.coords {l : List (List Int)} {d : Nat} (h : AllOk l d l.length) : CoordAll l d := fun i hi => by
  obtain ⟨_, _, h3, h4⟩ := vecE_ok (h i hi)
  have h3' : (mrow l i).length = d := by omega
  rw [h3'] at h4
  exact ⟨h3', h4⟩
theorem CoordAll.ok {l : List (List Int)} {d : Nat} (h1 : 1 ≤ d) (h2 : d ≤ 64) (h : CoordAll l d) : AllOk l d l.length := fun i hi => by
  obtain ⟨h3, h4⟩ := h i hi
  exact vecE_zero (by omega) (by omega) (by omega) (by rw [h3]; exact h4)

/-- The error of a training. -/
def trainE (l : List (List Int)) (k r : Int) : Int :=
  if k < 1 ∨ 64 < k ∨ r < 0 ∨ 20 < r then 1 else if 512 < l.length then 2 else if (l.length : Int) < k then 60 else allE l (mrow l 0).length
theorem trainE_ok {l : List (List Int)} {k r : Int} (h : trainE l k r = 0) :
    1 ≤ k ∧ k ≤ 64 ∧ 0 ≤ r ∧ r ≤ 20 ∧ l.length ≤ 512 ∧ k ≤ l.length ∧ AllOk l (mrow l 0).length l.length := by
  unfold trainE at h
  split at h
  · omega
  · split at h
    · omega
    · split at h
      · omega
      · exact ⟨by omega, by omega, by omega, by omega, by omega, by omega, allE_ok _ _ h⟩

/-- The error of centres. -/
def mayE (cs : List (List Int)) : Int := if cs.length = 0 ∨ 64 < cs.length then 1 else allE cs (mrow cs 0).length
theorem mayE_ok {cs : List (List Int)} (h : mayE cs = 0) : 1 ≤ cs.length ∧ cs.length ≤ 64 ∧ AllOk cs (mrow cs 0).length cs.length := by
  unfold mayE at h
  split at h
  · omega
  · exact ⟨by omega, by omega, allE_ok _ _ h⟩

/-! ### What a round keeps -/
theorem sumTo_bound {cs l : List (List Int)} {c x : Nat} {lo hi : Int} (i : Nat) (h : ∀ j, j < i → lo ≤ nth (mrow l j) x ∧ nth (mrow l j) x ≤ hi) :
    lo * (manyTo cs l c i : Int) ≤ sumTo cs l c x i ∧ sumTo cs l c x i ≤ hi * (manyTo cs l c i : Int) := by
  induction i with
  | zero => simp [sumTo, manyTo]
  | succ i ih =>
    obtain ⟨h1, h2⟩ := ih (fun j hj => h j (by omega))
    obtain ⟨h3, h4⟩ := h i (by omega)
    rw [sumTo, manyTo]
    split
    · rw [Int.natCast_add, Int.mul_add, Int.mul_add]
      simp only [Int.natCast_one, Int.mul_one]
      omega
    · simpa using ⟨h1, h2⟩
theorem mean_bound {cs l : List (List Int)} {c x : Nat} {lo hi : Int} (i : Nat) (h : ∀ j, j < i → lo ≤ nth (mrow l j) x ∧ nth (mrow l j) x ≤ hi) (hm : manyTo cs l c i ≠ 0) :
    lo ≤ sumTo cs l c x i / (manyTo cs l c i : Int) ∧ sumTo cs l c x i / (manyTo cs l c i : Int) ≤ hi := by
  obtain ⟨h1, h2⟩ := sumTo_bound (cs := cs) (c := c) i h
  have hp : (0 : Int) < (manyTo cs l c i : Int) := by omega
  exact ⟨(Int.le_ediv_iff_mul_le hp).2 h1, Int.ediv_le_of_le_mul hp h2⟩
theorem meanRow_length (cs l : List (List Int)) (d c : Nat) : (meanRow cs l d c).length = d := by simp [meanRow]

/-- Each row is as long as d, and each coordinate lies between bounds. -/
def Within (cs : List (List Int)) (d : Nat) (lo hi : Nat → Int) : Prop := ∀ c, c < cs.length → (mrow cs c).length = d ∧ ∀ x, x < d → lo x ≤ nth (mrow cs c) x ∧ nth (mrow cs c) x ≤ hi x
theorem Within.next {cs l : List (List Int)} {d : Nat} {lo hi : Nat → Int} (hl : Within l d lo hi) (h : Within cs d lo hi) : Within (nextN cs l d) d lo hi := fun c hc => by
  rw [nextN_length] at hc
  rw [mrow_nextN _ _ _ _ hc, nextRow]
  split
  · exact h c hc
  · rename_i hm
    refine ⟨meanRow_length _ _ _ _, fun x hx => ?_⟩
    rw [meanRow, nth_map _ _ hx]
    exact mean_bound _ (fun j hj => (hl j hj).2 x hx) hm
theorem Within.rounds {cs l : List (List Int)} {d : Nat} {lo hi : Nat → Int} (hl : Within l d lo hi) (h : Within cs d lo hi) (r : Nat) : Within (roundsN l d r cs) d lo hi := by
  induction r with
  | zero => exact h
  | succ r ih => exact Within.next hl ih
theorem perm_place {s : Int} {n i : Nat} (h : i < n) : 0 ≤ nth (permOf s n).1 i ∧ (nth (permOf s n).1 i).toNat < n := by
  have h1 := (permOf_isPerm s n).lo i h
  have h2 := (permOf_isPerm s n).hi i h
  omega
theorem Within.start {l : List (List Int)} {d : Nat} {lo hi : Nat → Int} (hl : Within l d lo hi) (s : Int) {k : Nat} (hk : k ≤ l.length) : Within (startN l (permOf s l.length).1 k) d lo hi := fun c hc => by
  rw [startN_length] at hc
  rw [startN, mrow_map _ _ hc]
  exact hl _ (perm_place (by omega)).2
theorem Within.train {l : List (List Int)} {lo hi : Nat → Int} (hl : Within l (mrow l 0).length lo hi) (s : Int) {k : Nat} (r : Nat) (hk : k ≤ l.length) : Within (trainN l k r s) (mrow l 0).length lo hi :=
  Within.rounds hl (Within.start hl s hk) r
theorem CoordAll.within {l : List (List Int)} {d : Nat} (h : CoordAll l d) : Within l d (fun _ => -2147483647) (fun _ => 2147483647) := fun c hc => ⟨(h c hc).1, fun x hx => (h c hc).2 x hx⟩
theorem Within.coords {l : List (List Int)} {d : Nat} (h : Within l d (fun _ => -2147483647) (fun _ => 2147483647)) : CoordAll l d := fun c hc => ⟨(h c hc).1, fun x hx => (h c hc).2 x hx⟩
end Go.Proofs.Ytoglemdooaiddaa
