/- The contract of codec's reading: number. -/
import Derived.Test.YtejbfglaalmafaaGreatDoorLCut
namespace Go.Proofs.YtejbfglaalmafaaGreatDoor
open Go.RowKit
set_option linter.unusedVariables false

theorem wraps_i64' (n : Int) (h₀ : 0 ≤ n) (h₁ : n < 2 ^ 62) : IntKind.i64.wrap n = n := by
  have e : n % 2 ^ 64 = n := Int.emod_eq_of_lt (by omega) (by omega)
  simp only [IntKind.wrap, IntKind.bits, IntKind.signed, e]
  rw [if_neg]
  simp
  omega
/-- Numbers laid byte by byte, the first byte lowest. -/
def numN (d : List UInt8) : Nat → Nat
  | 0 => 0
  | j + 1 => numN d j + nb d j * 256 ^ j
theorem np_0 : 256 ^ 0 = 1 := by decide
theorem np_1 : 256 ^ 1 = 256 := by decide
theorem np_2 : 256 ^ 2 = 65536 := by decide
theorem np_3 : 256 ^ 3 = 16777216 := by decide
theorem numN_one (d : List UInt8) : numN d 1 < 256 := by have := nb_lt d 0; simp [numN]; omega
theorem numN_two (d : List UInt8) : numN d 2 < 65536 := by have := nb_lt d 1; have := numN_one d; have e : numN d 2 = numN d 1 + nb d 1 * 256 := rfl; omega
theorem numN_three (d : List UInt8) : numN d 3 < 16777216 := by have := nb_lt d 2; have := numN_two d; have e : numN d 3 = numN d 2 + nb d 2 * 65536 := rfl; omega
theorem or_0 (b : Nat) (hb : b < 256) : bits .or .i64 0 (b : Int) = (b : Int) := by
  have h := bits_join_low .i64 62 (by decide) wraps_i64' 0 0 (b : Int) (by omega) (by decide) (by decide) (by omega) (by omega) (by omega)
  rw [h]; omega
theorem or_1 (y b : Nat) (hy : y < 256) (hb : b < 256) : bits .or .i64 (y : Int) ((b : Int) * 256) = ((y + b * 256 : Nat) : Int) := by
  have h := bits_join_low .i64 62 (by decide) wraps_i64' 8 (y : Int) ((b : Int) * 256) (by omega) (by omega) (by omega) (by omega) (by omega) (by omega)
  rw [h]; omega
theorem or_2 (y b : Nat) (hy : y < 65536) (hb : b < 256) : bits .or .i64 (y : Int) ((b : Int) * 65536) = ((y + b * 65536 : Nat) : Int) := by
  have h := bits_join_low .i64 62 (by decide) wraps_i64' 16 (y : Int) ((b : Int) * 65536) (by omega) (by omega) (by omega) (by omega) (by omega) (by omega)
  rw [h]; omega
theorem or_3 (y b : Nat) (hy : y < 16777216) (hb : b < 256) : bits .or .i64 (y : Int) ((b : Int) * 16777216) = ((y + b * 16777216 : Nat) : Int) := by
  have h := bits_join_low .i64 62 (by decide) wraps_i64' 24 (y : Int) ((b : Int) * 16777216) (by omega) (by omega) (by omega) (by omega) (by omega) (by omega)
  rw [h]; omega
def NumPost (w : World) (R : Nat) (d rest : List UInt8) (e : Ending) (w' : World) : Prop := e = .returned (.int .i64 (numN d d.length : Int)) ∧ Blk w' R 97 (readV rest) ∧ w.grownBy w' (some R)
set_option maxRecDepth 100000 in
theorem number_ok (R : Nat) (d rest : List UInt8) (h0 : 0 < d.length) (hd : d.length ≤ 4) (hr : rest.length ≤ 1000000) (w : World) (hR : Blk w R 97 (readV (d ++ rest))) :
    Calls Tryz.prog 35 #[.pointer (some ⟨R, 0, none⟩), .int .i64 (d.length : Int)] w (NumPost w R d rest) := by
  have hC := Lib.hid (cut_ok R d rest h0 (by omega) hr w hR)
  go_enter Tryz.func35, Tryz.ntmps35
  go_wp2_with fail
  refine hC.out.mono ?_
  rintro e w1 ⟨rfl, hN, hR1, hg⟩
  go_wp2_with fail
  go_loopw [5, 12] (fun v i wr => ∃ j : Nat, j ≤ d.length ∧ i = .int .i64 (j : Int) ∧ v = .int .i64 (numN d j : Int) ∧ wr = w1) (fun _ i _ => d.length - (intOf i).toNat)
  case atStart => exact ⟨0, Nat.zero_le _, rfl, rfl, rfl⟩
  case round =>
    obtain ⟨j, hj, rfl, rfl, rfl⟩ := hrel
    by_cases hlt : j < d.length
    · have cj := (hN.cell j).trans (List.getElem?_toArray.trans (bytesV_at d j hlt))
      have hb := nb_lt d j
      have hstep : numN d (j + 1) = numN d j + nb d j * 256 ^ j := rfl
      have hj4 : j < 4 := by omega
      obtain ⟨x, hx⟩ : ∃ x, nb d j = x := ⟨_, rfl⟩
      rw [hx] at cj hb hstep
      match j, hj4 with
      | 0, _ =>
        have hor : bits .or .i64 (numN d 0 : Int) (x : Int) = (numN d 1 : Int) := by
          rw [show numN d 1 = numN d 0 + x * 1 by rw [hstep, np_0]]
          exact (or_0 x hb).trans (by simp [numN])
        clear hstep
        go_wp2_with fail
        exact ⟨⟨1, hlt, rfl, rfl, trivial⟩, by simp [intOf]; omega⟩
      | 1, _ =>
        have hor : bits .or .i64 (numN d 1 : Int) ((x : Int) * 256) = (numN d 2 : Int) := by
          rw [show numN d 2 = numN d 1 + x * 256 by rw [hstep, np_1]]
          exact or_1 _ x (numN_one d) hb
        clear hstep
        go_wp2_with fail
        exact ⟨⟨2, hlt, rfl, rfl, trivial⟩, by simp [intOf]; omega⟩
      | 2, _ =>
        have hor : bits .or .i64 (numN d 2 : Int) ((x : Int) * 65536) = (numN d 3 : Int) := by
          rw [show numN d 3 = numN d 2 + x * 65536 by rw [hstep, np_2]]
          exact or_2 _ x (numN_two d) hb
        clear hstep
        go_wp2_with fail
        exact ⟨⟨3, hlt, rfl, rfl, trivial⟩, by simp [intOf]; omega⟩
      | 3, _ =>
        have hor : bits .or .i64 (numN d 3 : Int) ((x : Int) * 16777216) = (numN d 4 : Int) := by
          rw [show numN d 4 = numN d 3 + x * 16777216 by rw [hstep, np_3]]
          exact or_3 _ x (numN_three d) hb
        clear hstep
        go_wp2_with fail
        exact ⟨⟨4, hlt, rfl, rfl, trivial⟩, by simp [intOf]; omega⟩
    · obtain rfl : j = d.length := by omega
      go_wp2_with fail
      go_ret
      exact ⟨rfl, hR1, hg⟩
end Go.Proofs.YtejbfglaalmafaaGreatDoor
