/- The contract of disk.good, for a name that is good. -/
import Derived.Test.YtejbfglaalmafaaGreatDoorLChange
import Derived.Laws.IdiomStrings
namespace Go.Proofs.YtejbfglaalmafaaGreatDoor
open Go.RowKit
set_option linter.unusedVariables false

/-- A string's bytes, in a new block. -/
theorem run_text_bytes (l : List UInt8) (w : World) : ∃ c w1, (convert 9 69 (strV l)).run Tryz.prog w = .ok (.slice (some ⟨w.heap.size, 0, none⟩) l.length c) w1 ∧ BRow w1 (some ⟨w.heap.size, 0, none⟩) l ∧ Below w.heap.size w w1 := by
  have h := run_bytes_of_string (P := Tryz.prog) w 9 69 5 ⟨l.toArray⟩ Tryz.underlying9 Tryz.underlying69 Tryz.underlying5
  have hsz : (ByteArray.mk l.toArray).size = l.length := by simp [ByteArray.size]
  rw [hsz] at h
  refine ⟨_, _, h, fun j hj => ⟨_, 0, rfl, ?_⟩, ?_⟩
  · have hh := heap_alloc_new w.drew (.cells (bytesRow ⟨l.toArray⟩ (grownCap w l.length 0 5)) 5 ((bytesRow ⟨l.toArray⟩ (grownCap w l.length 0 5)).size, (bytesRow ⟨l.toArray⟩ (grownCap w l.length 0 5)).size + 1))
    rw [Nat.zero_add]
    refine (cell_of_row _ w.heap.size j _ _ _ hh).trans ?_
    rw [bytesRow_at ⟨l.toArray⟩ _ j (by simpa using hj), nb]
    simp [hj]
  · exact (Below.refl _ _).drew.alloc (Nat.le_refl _) _
def CharOk (b : Nat) : Prop := (97 ≤ b ∧ b ≤ 122) ∨ (48 ≤ b ∧ b ≤ 57) ∨ b = 46 ∨ b = 45
def NameOk (l : List UInt8) : Prop := 0 < l.length ∧ l.length ≤ 32 ∧ ∀ j, j < l.length → CharOk (nb l j)
set_option maxRecDepth 100000 in
set_option maxHeartbeats 4000000 in
theorem good_ok (l : List UInt8) (hl : NameOk l) (w : World) :
    Calls Tryz.prog 86 #[strV l] w fun e w' => e = .returned (.bool true) ∧ Below w.heap.size w w' := by
  obtain ⟨h0, h32, hch⟩ := hl
  obtain ⟨c, w1, hcv, hB, hb⟩ := run_text_bytes l w
  obtain ⟨S, hS⟩ : ∃ S, strV l = .string S := ⟨_, rfl⟩
  have hne := text_ne hS h0
  have hsz : S.size = l.length := by
    simp only [strV, Value.string.injEq] at hS
    rw [← hS]
    simp [ByteArray.size]
  rw [hS] at hcv ⊢
  have p32 : (l.length : Int) ≤ 32 := by omega
  clear hS
  replace hch := Lib.hid hch
  go_enter Tryz.func86, Tryz.ntmps86
  go_wp2_with fail
  go_loopw [8] (fun i wr => ∃ j : Nat, j ≤ l.length ∧ i = .int .i64 (j : Int) ∧ wr = w1) (fun i _ => l.length - (intOf i).toNat)
  case atStart => exact ⟨0, Nat.zero_le _, rfl, rfl⟩
  case round =>
    obtain ⟨j, hj, rfl, rfl⟩ := hrel
    by_cases hlt : j < l.length
    · obtain ⟨g, o, e1, cj⟩ := hB j hlt
      simp only [Option.some.injEq, Addr.mk.injEq, and_true] at e1
      obtain ⟨rfl, rfl⟩ := e1
      rw [Nat.zero_add] at cj
      have hx := hch.out j hlt
      generalize nb l j = x at *
      have q0 : (0 : Int) ≤ (j : Int) := by omega
      have q1 : (j : Int) < (l.length : Int) := by omega
      clear hB hcv hch hne hsz h0 p32
      rcases hx with ⟨x1, x2⟩ | ⟨x1, x2⟩ | rfl | rfl
      all_goals (go_wp2_with fail; exact ⟨⟨j + 1, hlt, rfl, trivial⟩, meas64 hlt⟩)
    · go_wp2_with fail
      go_ret
      exact ⟨rfl, hb⟩
end Go.Proofs.YtejbfglaalmafaaGreatDoor
