/- The name of a new segment: Itoa, its digits, the text in front of them. -/
import Derived.Test.YtejbfglaalmafaaGreatDoorLWSync
namespace Go.Proofs.YtejbfglaalmafaaGreatDoor
open Go.RowKit
set_option linter.unusedVariables false

/-- The library's table of powers of ten lies below b, as it was laid. -/
def Tab (w : World) (b : Nat) : Prop := Lib.TabIs Tryz.prog w "internal/strconv.uint64pow10" .u64 Lib.pow10Tab ∧ ∃ g, Tryz.prog.globalNamed "internal/strconv.uint64pow10" = some g ∧ g < b
theorem Tab.same {w w' : World} {b : Nat} (h : Tab w b) (hb : ∀ g, g < b → w'.heap[g]? = w.heap[g]?) : Tab w' b := by
  obtain ⟨h1, g, hg, hlt⟩ := h
  refine ⟨?_, g, hg, hlt⟩
  unfold Lib.TabIs World.var? at h1 ⊢
  rw [hg] at h1 ⊢
  simp only [Option.bind_some] at h1 ⊢
  rw [hb g hlt]
  exact h1
theorem Tab.ty {b : Nat} {T : TypeId → Bool} {M : Nat → Prop} {w w' : World} (h : Tab w b) (hT : Ty b T M w w') : Tab w' b := h.same hT.low
theorem Tab.mono {w : World} {b c : Nat} (h : Tab w b) (hb : b ≤ c) : Tab w c := by
  obtain ⟨h1, g, hg, hlt⟩ := h
  exact ⟨h1, g, hg, Nat.lt_of_lt_of_le hlt hb⟩
theorem dd_step (u : Nat) (h : 10 ≤ u) : Lib.decDigits u = Lib.decDigits (u / 10) ++ [UInt8.ofNat (48 + u % 10)] := by
  rw [Lib.decDigits, dif_neg (by omega)]
theorem dd_one (u : Nat) (h : u < 10) : Lib.decDigits u = [UInt8.ofNat (48 + u)] := by
  rw [Lib.decDigits, dif_pos h]
theorem digits_seg (k : Nat) (hk : k < 9) : Lib.itoa ((1000001 + k : Nat) : Int) = [49] ++ [48, 48, 48, 48, 48, UInt8.ofNat (49 + k)] := by
  have e : Lib.itoa ((1000001 + k : Nat) : Int) = Lib.decDigits (1000001 + k) := by
    rw [Lib.itoa, if_neg (by omega), Int.toNat_natCast]
  rw [e, dd_step _ (by omega), show (1000001 + k) / 10 = 100000 by omega, show 48 + (1000001 + k) % 10 = 49 + k by omega, dd_step 100000 (by omega), show 100000 / 10 = 10000 by omega, dd_step 10000 (by omega), show 10000 / 10 = 1000 by omega, dd_step 1000 (by omega), show 1000 / 10 = 100 by omega, dd_step 100 (by omega), show 100 / 10 = 10 by omega, dd_step 10 (by omega), show 10 / 10 = 1 by omega, dd_one 1 (by omega)]
  rfl
theorem grow_below (w : World) (k : Nat) (os : Array Obj) : Below w.heap.size w (Go.Sort.grow (w.drewN k) os) :=
  ⟨rfl, rfl, rfl, by simp [Go.Sort.grow], fun i hi => by simp [Go.Sort.grow, Array.getElem?_append_left, hi]⟩
def ItoaP (k : Nat) (w : World) (e : Ending) (w' : World) : Prop := e = .returned (strV ([49] ++ [48, 48, 48, 48, 48, UInt8.ofNat (49 + k)])) ∧ Below w.heap.size w w'
theorem itoa_ok {w : World} {b : Nat} (h : Tab w b) (k : Nat) (hk : k < 6) : Calls Tryz.prog 53 #[.int .i64 ((1000001 + k : Nat) : Int)] w (ItoaP k w) := by
  refine (Tryz.strconv_Itoa ((1000001 + k : Nat) : Int) (by omega) (by omega) w h.1).mono ?_
  rintro e w' ⟨rfl, n, os, rfl⟩
  rw [digits_seg k (by omega)]
  exact ⟨rfl, grow_below w n os⟩
theorem seg_text (k : Nat) : (ByteArray.mk #[108, 111, 103, 46]) ++ (ByteArray.mk [48, 48, 48, 48, 48, UInt8.ofNat (49 + k)].toArray) = ByteArray.mk (segN k).toArray := rfl
theorem seg_cat (k : Nat) (w : World) : (Op.stringOp .add (ByteArray.mk #[108, 111, 103, 46]) (ByteArray.mk [48, 48, 48, 48, 48, UInt8.ofNat (49 + k)].toArray)).run Tryz.prog w = .ok (.string (ByteArray.mk (segN k).toArray)) w := by
  rw [run_string_add_sum _ _ _ (by simp only [ByteArray.size, List.size_toArray, List.length_cons, List.length_nil]; simp)]
  rw [seg_text]
end Go.Proofs.YtejbfglaalmafaaGreatDoor
