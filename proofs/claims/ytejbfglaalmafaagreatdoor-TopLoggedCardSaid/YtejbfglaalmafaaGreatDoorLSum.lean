/- The contract of codec.Sum: a number that hangs on the bytes alone. -/
import Derived.Test.YtejbfglaalmafaaGreatDoorLBase
import Derived.Laws.Closers25b
namespace Go.Proofs.YtejbfglaalmafaaGreatDoor
open Go.RowKit
set_option linter.unusedVariables false

def nb (l : List UInt8) (j : Nat) : Nat := (l.getD j 0).toNat
theorem nb_lt (l : List UInt8) (j : Nat) : nb l j < 256 := UInt8.toNat_lt _
/-- A slice of bytes. -/
def BRow (w : World) (A : Option Addr) (l : List UInt8) : Prop := ∀ j, j < l.length → ∃ g off, A = some ⟨g, off, none⟩ ∧ w.cell? ⟨g, off + j, none⟩ = some (.int .u8 (nb l j : Int))
theorem BRow.below {w w' : World} {A : Option Addr} {l : List UInt8} (h : BRow w A l) (hb : Below w.heap.size w w') : BRow w' A l := fun j hj => by
  obtain ⟨g, off, h1, h2⟩ := h j hj
  exact ⟨g, off, h1, below_cell hb h2⟩
theorem BRow.nil_ {w : World} {A : Option Addr} : BRow w A [] := fun j hj => by simp at hj
def crcStep (t : Int) : Int := bits .xor .u32 (t / 2) (bits .and .u32 (-bits .and .u32 t 1 % 4294967296) 3988292384)
def crcIt (t : Int) : Nat → Int
  | 0 => t
  | j + 1 => crcStep (crcIt t j)
def crcTo (l : List UInt8) : Nat → Int
  | 0 => 4294967295
  | k + 1 => crcIt (bits .xor .u32 (crcTo l k) ((nb l k : Int) % 4294967296)) 8
def crcN (l : List UInt8) : Int := bits .xor .u32 4294967295 (crcTo l l.length)
theorem crcN_range (l : List UInt8) : 0 ≤ crcN l ∧ crcN l < 4294967296 := ⟨bits_lo_u32 _ _ _, by have := bits_hi_u32 .xor 4294967295 (crcTo l l.length); rw [crcN]; omega⟩

set_option maxRecDepth 100000 in
set_option maxHeartbeats 4000000 in
theorem sum_any (A : Option Addr) (l : List UInt8) (c : Nat) (hl : l.length ≤ 281474976710656) (w : World) (h : BRow w A l) :
    Calls Tryz.prog 82 #[.slice A l.length c] w fun e w' => e = .returned (.int .u32 (crcN l)) ∧ w = w' := by
  go_enter Tryz.func82, Tryz.ntmps82
  go_wp2_with fail
  go_loopw [3, 8] (fun s i wr => wr = w ∧ ∃ k : Nat, k ≤ l.length ∧ i = .int .i64 (k : Int) ∧ s = .int .u32 (crcTo l k)) (fun _ i _ => l.length - (intOf i).toNat)
  case atStart => exact ⟨rfl, 0, Nat.zero_le _, rfl, rfl⟩
  case round =>
    obtain ⟨rfl, k, hk, rfl, rfl⟩ := hrel
    by_cases hlt : k < l.length
    · have p0 : (0 : Int) ≤ (k : Int) := by omega
      have p1 : (k : Int) < (l.length : Int) := by omega
      obtain ⟨g, o, rfl, hc⟩ := h k hlt
      have hs : crcTo l (k + 1) = crcIt (bits .xor .u32 (crcTo l k) ((nb l k : Int) % 4294967296)) 8 := rfl
      replace hs := Lib.hid hs
      generalize nb l k = b at *
      generalize crcTo l k = t at *
      go_wp2_with fail
      generalize hT : bits .xor .u32 t ((b : Int) % 4294967296) = T at *
      clear hT
      go_loopw [3, 16] (fun s i x => x = wr ∧ ∃ j : Nat, j ≤ 8 ∧ i = .int .i64 (j : Int) ∧ s = .int .u32 (crcIt T j)) (fun _ i _ => 8 - (intOf i).toNat)
      case atStart => exact ⟨rfl, 0, Nat.zero_le _, rfl, rfl⟩
      case round =>
        obtain ⟨rfl, j, hj, rfl, rfl⟩ := hrel
        by_cases hlt2 : j < 8
        · have p2 : (j : Int) < 8 := by omega
          have hs2 : crcIt T (j + 1) = crcStep (crcIt T j) := rfl
          replace hs2 := Lib.hid hs2
          generalize crcIt T j = t2 at *
          go_wp2_with fail
          exact ⟨⟨trivial, j + 1, by omega, by go_num, by rw [hs2.out]; rfl⟩, by simp [intOf]; omega⟩
        · obtain rfl : j = 8 := by omega
          have hs2 := hs.out
          go_wp2_with fail
          exact ⟨⟨trivial, k + 1, by omega, by go_num, by rw [hs2]⟩, by simp [intOf]; omega⟩
    · obtain rfl : k = l.length := by omega
      go_wp2_with fail
      go_ret
      exact ⟨rfl, rfl⟩
end Go.Proofs.YtejbfglaalmafaaGreatDoor
