/- Plain: changes, their texts, how many segments they fill. -/
import Derived.Test.YtejbfglaalmafaaGreatDoorLKeeps
namespace Go.Proofs.YtejbfglaalmafaaGreatDoor
open Go.RowKit
set_option linter.unusedVariables false

/-- A change: is it a deletion, of which row, the vector's place, numbers and capacity. -/
structure Ch where
  del : Bool
  id : Int
  A : Option Addr
  v : List Int
  c : Nat
def chK (x : Ch) : Int := if x.del then 2 else 1
def chV (x : Ch) : List Value := [.int .i64 (chK x), .int .i64 x.id, .slice x.A x.v.length x.c]
def chB (x : Ch) : List UInt8 := if x.del then delB x.id else putB x.id x.v
def chE (x : Ch) : Int := if x.del then delE x.id else putE x.id x.v
/-- A deletion has no vector. -/
def ChOk (x : Ch) : Prop := x.del = true → x.A = none ∧ x.v = [] ∧ x.c = 0
def PutP (w : World) (x : Ch) (e : Ending) (w' : World) : Prop := ∃ d, e = .returned (.tuple #[strV d, .int .i64 (chE x)]) ∧ (chE x = 0 → d = chB x) ∧ Below w.heap.size w w'
theorem put_any {w : World} (x : Ch) (hx : ChOk x) (hv : Row w x.A x.v) :
    Calls Tryz.prog 7 #[.agg #[.int .i64 (chK x), .int .i64 x.id, .slice x.A x.v.length x.c]] w (PutP w x) := by
  rcases x with ⟨del, id, A, v, c⟩
  cases del with
  | false =>
    by_cases hE : putE id v = 0
    · have hl : v.length ≤ 64 := by
        unfold putE at hE
        split at hE
        · cases hE
        · have := (vecE_ok hE).2.1
          omega
      refine (put_ok id A v c w hv hE hl).mono ?_
      rintro e w' ⟨rfl, hb⟩
      exact ⟨_, by simp only [chE, hE]; rfl, fun _ => rfl, hb⟩
    · refine (put_bad id A v c w hv hE).mono ?_
      rintro e w' ⟨rfl, hb⟩
      exact ⟨_, rfl, fun h => absurd h hE, hb⟩
  | true =>
    obtain ⟨rfl, rfl, rfl⟩ := hx rfl
    by_cases hE : delE id = 0
    · refine (del_ok id w hE).mono ?_
      rintro e w' ⟨rfl, hb⟩
      exact ⟨_, by simp only [chE, hE]; rfl, fun _ => rfl, hb⟩
    · refine (del_bad id w hE).mono ?_
      rintro e w' ⟨rfl, hb⟩
      exact ⟨_, rfl, fun h => absurd h hE, hb⟩
def GetP (w : World) (x : Ch) (e : Ending) (w' : World) : Prop := ∃ A c, e = .returned (.tuple #[.agg #[.int .i64 (chK x), .int .i64 x.id, .slice A x.v.length c], .int .i64 0]) ∧ Row w' A x.v ∧ Below w.heap.size w w'
theorem get_any {w : World} (x : Ch) (hx : ChOk x) (hE : chE x = 0) :
    Calls Tryz.prog 11 #[strV (chB x)] w (GetP w x) := by
  rcases x with ⟨del, id, A, v, c⟩
  cases del with
  | false =>
    have hE' : putE id v = 0 := hE
    have hid : 1 ≤ id ∧ id ≤ 1000000000 := by
      unfold putE at hE'
      split at hE'
      · cases hE'
      · omega
    have hv : vecE v v.length = 0 := by
      unfold putE at hE'
      rwa [if_neg (by omega)] at hE'
    obtain ⟨h1, h2, h3, h4⟩ := vecE_ok hv
    have hg : GoodV v := ⟨by omega, by omega, fun x hx => by
      obtain ⟨j, hj, rfl⟩ := List.getElem_of_mem hx
      have := h4 j hj
      simp only [nth, List.getD_eq_getElem?_getD, List.getElem?_eq_getElem hj, Option.getD_some] at this
      exact ⟨by omega, by omega⟩⟩
    refine (get_put id v hid hg hE' w).mono ?_
    rintro e w' ⟨s, B, rfl, _, ho, hb⟩
    obtain ⟨A2, c2, rfl, hr⟩ := own_row ho
    exact ⟨A2, c2, rfl, hr, hb⟩
  | true =>
    obtain ⟨rfl, rfl, rfl⟩ := hx rfl
    have hE' : delE id = 0 := hE
    have hid : 1 ≤ id ∧ id ≤ 1000000000 := by
      unfold delE at hE'
      split at hE'
      · cases hE'
      · omega
    refine (get_del id hid hE' w).mono ?_
    rintro e w' ⟨rfl, hb⟩
    exact ⟨none, 0, rfl, Row.nil_, hb⟩
theorem chB_le (x : Ch) (hE : chE x = 0) : (chB x).length ≤ 300 := by
  rcases x with ⟨del, id, A, v, c⟩
  cases del with
  | false =>
    have hE' : putE id v = 0 := hE
    unfold putE at hE'
    split at hE'
    · cases hE'
    · have := (vecE_ok hE').2.1
      show (putB id v).length ≤ 300
      rw [putB_length]
      omega
  | true =>
    show (delB id).length ≤ 300
    rw [delB_length]
    omega
/-- How great the segments are. -/
structure Sizes (k : Nat) (ds : Nat → List (List UInt8)) : Prop where
  one : 1 ≤ k
  small : ∀ j, j < k → (segS ds j).length ≤ 17000
  full : ∀ j, j + 1 < k → 16384 < (segS ds j).length
  texts : ∀ j, j < k → ∀ d ∈ ds j, d.length ≤ 300
theorem recsB_le : ∀ (q : Nat) (l : List (List UInt8)), (∀ d ∈ l, d.length ≤ 300) → (recsB q l).length ≤ 316 * l.length
  | _, [], _ => by simp [recsB]
  | q, d :: l, h => by
    have h1 := recsB_le (q + 1) l (fun x hx => h x (by simp [hx]))
    have h2 := h d (by simp)
    rw [recsB, List.length_append, laidB_length, List.length_cons]
    omega
theorem segS_le {ds : Nat → List (List UInt8)} {j : Nat} (h : ∀ d ∈ ds j, d.length ≤ 300) : (segS ds j).length ≤ 16 + 316 * (ds j).length := by
  have h1 := recsB_le (fiN ds j) (ds j) h
  rw [segS, segB, List.length_append, headB_length]
  omega
theorem flat_many {ds : Nat → List (List UInt8)} : ∀ i, (∀ j, j < i → 52 ≤ (ds j).length) → 52 * i ≤ (flatN ds i).length
  | 0, _ => by simp [flatN]
  | i + 1, h => by
    have h1 := flat_many i (fun j hj => h j (by omega))
    have h2 := h i (by omega)
    rw [flatN, List.length_append]
    omega
theorem Sizes.few {k : Nat} {ds : Nat → List (List UInt8)} (h : Sizes k ds) (hn : (flatN ds k).length ≤ 200) : k ≤ 4 := by
  obtain ⟨m, rfl⟩ : ∃ m, k = m + 1 := ⟨k - 1, by have := h.one; omega⟩
  have h1 := flat_many (ds := ds) m (fun j hj => by
    have h2 := h.full j (by omega)
    have h3 := segS_le (h.texts j (by omega))
    omega)
  rw [flatN, List.length_append] at hn
  omega
theorem flat_ext {ds ds' : Nat → List (List UInt8)} : ∀ i, (∀ j, j < i → ds' j = ds j) → flatN ds' i = flatN ds i
  | 0, _ => rfl
  | i + 1, h => by rw [flatN, flatN, flat_ext i (fun j hj => h j (by omega)), h i (by omega)]
theorem Sizes.grown {k m k' : Nat} {ds ds' : Nat → List (List UInt8)} {d : List UInt8} (h : Sizes k ds) (hk : k = m + 1) (hd : d.length ≤ 300) (hg : Grown k m ds d k' ds') : Sizes k' ds' ∧ flatN ds' k' = flatN ds k ++ [d] := by
  rcases hg with ⟨hs, rfl, rfl⟩ | ⟨hs, rfl, rfl⟩
  · subst hk
    refine ⟨{
      one := h.one
      small := fun j hj => ?_
      full := fun j hj => ?_
      texts := fun j hj x hx => ?_ }, ?_⟩
    · by_cases e : j = m
      · rw [e, segS_snoc, List.length_append, laidB_length]
        omega
      · rw [segS_upd ds m _ j (by omega)]
        exact h.small j hj
    · rw [segS_upd ds m _ j (by omega)]
      exact h.full j hj
    · by_cases e : j = m
      · rw [e, upd_at] at hx
        simp only [List.mem_append, List.mem_singleton] at hx
        rcases hx with hx | rfl
        · exact h.texts m (by omega) x hx
        · exact hd
      · rw [upd_ne _ _ e] at hx
        exact h.texts j hj x hx
    · rw [flatN, flatN, flat_ext m (fun j hj => upd_ne _ _ (by omega)), upd_at, List.append_assoc]
  · have hz : segS (upd ds k [d]) k = headB ((fiN ds k : Nat) : Int) ++ (laidB (fiN ds k) d ++ []) := by
      rw [segS, fiN_upd ds k [d] k (Nat.le_refl _), upd_at]
      rfl
    refine ⟨{
      one := by omega
      small := fun j hj => ?_
      full := fun j hj => ?_
      texts := fun j hj x hx => ?_ }, ?_⟩
    · by_cases e : j = k
      · rw [e, hz, List.length_append, headB_length, List.append_nil, laidB_length]
        omega
      · rw [segS_upd ds k _ j (by omega)]
        exact h.small j (by omega)
    · rw [segS_upd ds k _ j (by omega)]
      by_cases e : j = m
      · rw [e]
        exact hs
      · exact h.full j (by omega)
    · by_cases e : j = k
      · rw [e, upd_at, List.mem_singleton] at hx
        rw [hx]
        exact hd
      · rw [upd_ne _ _ e] at hx
        exact h.texts j (by omega) x hx
    · rw [flatN, upd_at, flat_ext k (fun j hj => upd_ne _ _ (by omega))]
end Go.Proofs.YtejbfglaalmafaaGreatDoor
