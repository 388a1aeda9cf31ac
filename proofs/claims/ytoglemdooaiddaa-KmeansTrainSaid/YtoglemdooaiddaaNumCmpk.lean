/- The contract of the document's Cmp. -/
import Derived.Test.YtoglemdooaiddaaNumOfk
import Derived.Deep.QuietTactic
namespace Go.Proofs.Ytoglemdooaiddaa
open Go.RowKit
set_option linter.unusedVariables false

theorem nthN_ext : ∀ (D E : List Nat), D.length = E.length → (∀ j, nthN D j = nthN E j) → D = E
  | [], [], _, _ => rfl
  | d :: D, e :: E, hl, h => by
    have h0 : d = e := by simpa [nthN] using h 0
    rw [h0, nthN_ext D E (by simpa using hl) (fun j => by have := h (j + 1); simpa [nthN] using this)]
/-- Where digits differ for the first time, from above, the numbers do. -/
theorem val_lt_at : ∀ (D E : List Nat) (i : Nat), D.length = E.length → i < D.length → (∀ j, nthN D j < 65536) → (∀ j, nthN E j < 65536) → (∀ j, i < j → nthN D j = nthN E j) → nthN D i < nthN E i → val D < val E
  | [], _, i, hl, hi, _, _, _, _ => by simp at hi
  | d :: D, [], i, hl, hi, _, _, _, _ => by simp at hl
  | d :: D, e :: E, 0, hl, hi, h1, h2, hj, hlt => by
    have : D = E := nthN_ext D E (by simpa using hl) (fun j => by have := hj (j + 1) (by omega); simpa [nthN] using this)
    subst this
    have : d < e := by simpa [nthN] using hlt
    rw [val, val]
    omega
  | d :: D, e :: E, i + 1, hl, hi, h1, h2, hj, hlt => by
    have ih := val_lt_at D E i (by simpa using hl) (by simpa using hi) (fun j => by have := h1 (j + 1); simpa [nthN] using this) (fun j => by have := h2 (j + 1); simpa [nthN] using this)
      (fun j hh => by have := hj (j + 1) (by omega); simpa [nthN] using this) (by simpa [nthN] using hlt)
    have hd : d < 65536 := by simpa [nthN] using h1 0
    rw [val, val]
    omega
def CmpAt (w wr : World) (D E : List Nat) (o p : Bool) : Prop := Below w.heap.size w wr ∧ Blk wr w.heap.size 67 (numC D o) ∧ Blk wr (w.heap.size + 1) 67 (numC E p)
theorem cmpAt_start (w : World) (D E : List Nat) (o p : Bool) : CmpAt w ((w.alloc (.cells (numC D o) 67)).alloc (.cells (numC E p) 67)) D E o p := by
  have e1 : (w.alloc (.cells (numC D o) 67)).heap.size = w.heap.size + 1 := by simp
  refine ⟨((Below.refl _ _).alloc (Nat.le_refl _) _).alloc (by simp) _, (Blk.new _ _ _).alloc _, ?_⟩
  have := Blk.new (w.alloc (.cells (numC D o) 67)) 67 (numC E p)
  rwa [e1] at this
theorem cmpAt_drawn {w wr : World} {D E : List Nat} {o p : Bool} (h : CmpAt w wr D E o p) (n : Nat) : CmpAt w (wr.drewN n) D E o p := ⟨below_drewN h.1 n, h.2.1, h.2.2⟩
set_option maxRecDepth 100000 in
set_option maxHeartbeats 4000000 in
theorem ncmp_any (D E : List Nat) (o p : Bool) (hD : Dig D) (hE : Dig E) (w : World) : Calls Try.prog 45 #[numV D o, numV E p] w (CmpPost w (cmpN (val D) (val E))) := by
  unfold numV
  go_enter Try.func45, Try.ntmps45
  go_wp2
  go_loopw [5] (fun iv wr => ∃ k : Nat, k ≤ 8 ∧ iv = .int .i64 ((k : Int) - 1) ∧ (∀ j, k ≤ j → nthN D j = nthN E j) ∧ CmpAt w wr D E o p) (fun iv _ => (intOf iv + 1).toNat)
  case atStart =>
    refine ⟨8, by omega, rfl, fun j hj => ?_, cmpAt_start w D E o p⟩
    have h1 : nthN D j = 0 := by unfold nthN; rw [List.getD_eq_getElem?_getD, List.getElem?_eq_none (by rw [hD.1]; exact hj)]; rfl
    have h2 : nthN E j = 0 := by unfold nthN; rw [List.getD_eq_getElem?_getD, List.getElem?_eq_none (by rw [hE.1]; exact hj)]; rfl
    rw [h1, h2]
  case round =>
    obtain ⟨k, hk, rfl, heq, hA⟩ := hrel
    cases k with
    | succ i =>
      have i0 : (0 : Int) ≤ ((i + 1 : Nat) : Int) - 1 := by omega
      have e0 : ((i + 1 : Nat) : Int) - 1 = (i : Int) := by omega
      rw [e0]
      have i1 : (0 : Int) ≤ (i : Int) := by omega
      have i8 : (i : Int) < 8 := by omega
      have ca : wr.cell? ⟨w.heap.size, i, none⟩ = some (.int .i64 (nthN D i : Int)) := (hA.2.1.cell i).trans (numC_at D _ i (by omega))
      have cb : wr.cell? ⟨w.heap.size + 1, i, none⟩ = some (.int .i64 (nthN E i : Int)) := (hA.2.2.cell i).trans (numC_at E _ i (by omega))
      have hc : ((nthN D i : Int) == (nthN E i : Int)) = true ∧ (∀ j, i ≤ j → nthN D j = nthN E j) ∨ ((nthN D i : Int) == (nthN E i : Int)) = false ∧ (nthN D i : Int) < (nthN E i : Int) ∧ cmpN (val D) (val E) = -1 ∨
          ((nthN D i : Int) == (nthN E i : Int)) = false ∧ (nthN E i : Int) ≤ (nthN D i : Int) ∧ cmpN (val D) (val E) = 1 := by
        by_cases e : nthN D i = nthN E i
        · refine .inl ⟨by simp; omega, fun j hj => ?_⟩
          by_cases h : j = i
          · rw [h]; exact e
          · exact heq j (by omega)
        · by_cases hlt : nthN D i < nthN E i
          · have := val_lt_at D E i (by rw [hD.1, hE.1]) (by rw [hD.1]; omega) hD.2 hE.2 (fun j hj => heq j (by omega)) hlt
            exact .inr (.inl ⟨by simp; omega, by omega, by unfold cmpN; rw [if_neg (by omega), if_pos (by omega)]⟩)
          · have := val_lt_at E D i (by rw [hD.1, hE.1]) (by rw [hE.1]; omega) hE.2 hD.2 (fun j hj => (heq j (by omega)).symm) (by omega)
            exact .inr (.inr ⟨by simp; omega, by omega, by unfold cmpN; rw [if_neg (by omega), if_neg (by omega)]⟩)
      clear heq
      replace hA := Lib.hid hA
      rcases hc with ⟨q, hn⟩ | ⟨q, hq, hn⟩ | ⟨q, hq, hn⟩
      · replace hn := Lib.hid hn
        go_wp2_with fail
        go_quiet (fail)
        go_wp2
        exact ⟨⟨i, by omega, rfl, hn.out, cmpAt_drawn hA.out nq⟩, by simp [intOf]⟩
      · replace hn := Lib.hid hn
        go_wp2_with fail
        go_quiet (fail)
        go_wp2_with fail
        go_quiet (fail)
        go_wp2
        go_ret
        rw [hn.out]
        exact ⟨rfl, below_drewN (below_drewN hA.out.1 _) _⟩
      · replace hn := Lib.hid hn
        go_wp2_with fail
        go_quiet (fail)
        go_wp2_with fail
        go_quiet (fail)
        go_wp2
        go_ret
        rw [hn.out]
        exact ⟨rfl, below_drewN (below_drewN hA.out.1 _) _⟩
    | zero =>
      have hz : cmpN (val D) (val E) = 0 := by
        have : D = E := nthN_ext D E (by rw [hD.1, hE.1]) (fun j => heq j (by omega))
        unfold cmpN
        rw [if_pos (by rw [this])]
      replace hz := Lib.hid hz
      clear heq
      rw [show (((0 : Nat) : Int) - 1) = -1 by omega]
      go_wp2
      go_ret
      rw [hz.out]
      exact ⟨rfl, hA.1⟩
end Go.Proofs.Ytoglemdooaiddaa
