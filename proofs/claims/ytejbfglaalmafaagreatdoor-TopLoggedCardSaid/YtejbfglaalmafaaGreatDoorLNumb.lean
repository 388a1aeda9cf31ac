/- The number 1 ahead of a text: lay, take. -/
import Derived.Test.YtejbfglaalmafaaGreatDoorLRows
namespace Go.Proofs.YtejbfglaalmafaaGreatDoor
open Go.RowKit
set_option linter.unusedVariables false

def oneB : List UInt8 := [1, 0, 0, 0, 0, 0, 0, 0]
def arrV (x : Int) : Array Value := #[.int .u8 x, .int .u8 0, .int .u8 0, .int .u8 0, .int .u8 0, .int .u8 0, .int .u8 0, .int .u8 0]
theorem arr_text {w : World} {g : Nat} {t : TypeId} (h : Blk w g t (arrV 1)) : (convert 69 9 (.slice (some ⟨g, 0, none⟩) 8 8)).run Tryz.prog w = .ok (strV oneB) w := by
  refine run_convert_bytes_back (P := Tryz.prog) w 69 9 5 ⟨g, 0, none⟩ 8 oneB Tryz.underlying69 Tryz.underlying5 Tryz.underlying9 (fun j hj => ?_)
  have hadd : (⟨g, 0, none⟩ : Addr).add j = ⟨g, j, none⟩ := by unfold Addr.add; split <;> simp_all
  rw [hadd, h.cell j]
  have h8 : j = 0 ∨ j = 1 ∨ j = 2 ∨ j = 3 ∨ j = 4 ∨ j = 5 ∨ j = 6 ∨ j = 7 := by simp only [oneB, List.length_cons, List.length_nil] at hj; omega
  rcases h8 with rfl | rfl | rfl | rfl | rfl | rfl | rfl | rfl <;> rfl
set_option maxRecDepth 100000 in
set_option maxHeartbeats 4000000 in
theorem lay_one (w : World) : Calls Tryz.prog 93 #[.int .i64 1] w fun e w' => e = .returned (strV oneB) ∧ Below w.heap.size w w' := by
  obtain ⟨T, hT⟩ : ∃ T, strV oneB = .string T := ⟨_, rfl⟩
  rw [hT]
  have hb0 := Blk.new w 174 (arrV 0)
  have hba := below_alloc1 w (.cells (arrV 0) 174)
  have hav : arrV 0 = #[.int .u8 0, .int .u8 0, .int .u8 0, .int .u8 0, .int .u8 0, .int .u8 0, .int .u8 0, .int .u8 0] := rfl
  rw [hav] at hb0 hba
  clear hav
  go_enter Tryz.func93, Tryz.ntmps93
  go_upto_region 2 with fail
  generalize w.alloc (.cells #[.int .u8 0, .int .u8 0, .int .u8 0, .int .u8 0, .int .u8 0, .int .u8 0, .int .u8 0, .int .u8 0] 174) = w1 at *
  go_wp2_with fail
  go_loopw [5] (fun u wr => ∃ j : Nat, u = .int .i64 (j : Int) ∧ j ≤ 8 ∧ Blk wr w.heap.size 174 (arrV (if j = 0 then 0 else 1)) ∧ Below w.heap.size w wr) (fun u _ => 8 - (intOf u).toNat)
  case atStart => exact ⟨0, rfl, by omega, hb0, hba⟩
  case round =>
    obtain ⟨j, rfl, hj, hb, hB⟩ := hrel
    by_cases hjk : j < 8
    · have h8 : j = 0 ∨ j = 1 ∨ j = 2 ∨ j = 3 ∨ j = 4 ∨ j = 5 ∨ j = 6 ∨ j = 7 := by omega
      have hset : ∀ i v, Below w.heap.size w (wr.setCell ⟨w.heap.size, i, none⟩ v) := fun i v => below_of_grown hB (grown_set wr ⟨w.heap.size, i, none⟩ v) (by simp)
      have hf := hb.frozen
      have hc := hb.cell
      clear hb0 hba
      rcases h8 with rfl | rfl | rfl | rfl | rfl | rfl | rfl | rfl
      · have c0 : wr.cell? ⟨w.heap.size, 0, none⟩ = some (.int .u8 0) := hc 0
        have f0 := hf 0
        have hn : Blk (wr.setCell ⟨w.heap.size, 0, none⟩ (.int .u8 1)) w.heap.size 174 (arrV 1) := hb.set_ 0 _
        have hS := hset 0 (.int .u8 1)
        clear hc hf hb hset hB
        go_wp2_with fail
        exact ⟨⟨1, rfl, by omega, hn, hS⟩, by decide⟩
      · have c1 : wr.cell? ⟨w.heap.size, 1, none⟩ = some (.int .u8 0) := hc 1
        have f1 := hf 1
        have hn : Blk (wr.setCell ⟨w.heap.size, 1, none⟩ (.int .u8 0)) w.heap.size 174 (arrV 1) := hb.set_ 1 _
        have hS := hset 1 (.int .u8 0)
        clear hc hf hb hset hB
        go_wp2_with fail
        exact ⟨⟨2, rfl, by omega, hn, hS⟩, by decide⟩
      · have c2 : wr.cell? ⟨w.heap.size, 2, none⟩ = some (.int .u8 0) := hc 2
        have f2 := hf 2
        have hn : Blk (wr.setCell ⟨w.heap.size, 2, none⟩ (.int .u8 0)) w.heap.size 174 (arrV 1) := hb.set_ 2 _
        have hS := hset 2 (.int .u8 0)
        clear hc hf hb hset hB
        go_wp2_with fail
        exact ⟨⟨3, rfl, by omega, hn, hS⟩, by decide⟩
      · have c3 : wr.cell? ⟨w.heap.size, 3, none⟩ = some (.int .u8 0) := hc 3
        have f3 := hf 3
        have hn : Blk (wr.setCell ⟨w.heap.size, 3, none⟩ (.int .u8 0)) w.heap.size 174 (arrV 1) := hb.set_ 3 _
        have hS := hset 3 (.int .u8 0)
        clear hc hf hb hset hB
        go_wp2_with fail
        exact ⟨⟨4, rfl, by omega, hn, hS⟩, by decide⟩
      · have c4 : wr.cell? ⟨w.heap.size, 4, none⟩ = some (.int .u8 0) := hc 4
        have f4 := hf 4
        have hn : Blk (wr.setCell ⟨w.heap.size, 4, none⟩ (.int .u8 0)) w.heap.size 174 (arrV 1) := hb.set_ 4 _
        have hS := hset 4 (.int .u8 0)
        clear hc hf hb hset hB
        go_wp2_with fail
        exact ⟨⟨5, rfl, by omega, hn, hS⟩, by decide⟩
      · have c5 : wr.cell? ⟨w.heap.size, 5, none⟩ = some (.int .u8 0) := hc 5
        have f5 := hf 5
        have hn : Blk (wr.setCell ⟨w.heap.size, 5, none⟩ (.int .u8 0)) w.heap.size 174 (arrV 1) := hb.set_ 5 _
        have hS := hset 5 (.int .u8 0)
        clear hc hf hb hset hB
        go_wp2_with fail
        exact ⟨⟨6, rfl, by omega, hn, hS⟩, by decide⟩
      · have c6 : wr.cell? ⟨w.heap.size, 6, none⟩ = some (.int .u8 0) := hc 6
        have f6 := hf 6
        have hn : Blk (wr.setCell ⟨w.heap.size, 6, none⟩ (.int .u8 0)) w.heap.size 174 (arrV 1) := hb.set_ 6 _
        have hS := hset 6 (.int .u8 0)
        clear hc hf hb hset hB
        go_wp2_with fail
        exact ⟨⟨7, rfl, by omega, hn, hS⟩, by decide⟩
      · have c7 : wr.cell? ⟨w.heap.size, 7, none⟩ = some (.int .u8 0) := hc 7
        have f7 := hf 7
        have hn : Blk (wr.setCell ⟨w.heap.size, 7, none⟩ (.int .u8 0)) w.heap.size 174 (arrV 1) := hb.set_ 7 _
        have hS := hset 7 (.int .u8 0)
        clear hc hf hb hset hB
        go_wp2_with fail
        exact ⟨⟨8, rfl, by omega, hn, hS⟩, by decide⟩
    · have hj8 : j = 8 := by omega
      subst hj8
      have hcv := arr_text (w := wr) hb
      rw [hT] at hcv
      have hend : wr.cell? ⟨w.heap.size, 0, none⟩ = some (.int .u8 1) := hb.cell 0
      clear hb0 hba hb
      go_wp2_with fail
      go_ret
      exact ⟨rfl, hB⟩
set_option maxRecDepth 100000 in
set_option maxHeartbeats 4000000 in
theorem take_one (d : List UInt8) (hd : d.length ≤ 1000) (w : World) : Calls Tryz.prog 66 #[strV (oneB ++ d)] w fun e w' => e = .returned (.tuple #[.int .i64 1, strV d]) ∧ Below w.heap.size w w' := by
  have hsl := fun w => run_slice_front w oneB d
  have hsz : (ByteArray.mk (oneB ++ d).toArray).size = 8 + d.length := by simp [ByteArray.size, oneB]; omega
  have hz := Lib.hid hsz
  have i0 : ∀ w, (Instr.index 9 (strV (oneB ++ d)) (.int .i64 0)).run Tryz.prog w = .ok (.int .u8 1) w := fun w => by
    rw [strV, run_index_string w 9 _ .i64 0 Tryz.underlying9, dif_pos ⟨by decide, by rw [hsz]; omega⟩]
    rfl
  have i1 : ∀ w, (Instr.index 9 (strV (oneB ++ d)) (.int .i64 1)).run Tryz.prog w = .ok (.int .u8 0) w := fun w => by
    rw [strV, run_index_string w 9 _ .i64 1 Tryz.underlying9, dif_pos ⟨by decide, by rw [hsz]; omega⟩]
    rfl
  have i2 : ∀ w, (Instr.index 9 (strV (oneB ++ d)) (.int .i64 2)).run Tryz.prog w = .ok (.int .u8 0) w := fun w => by
    rw [strV, run_index_string w 9 _ .i64 2 Tryz.underlying9, dif_pos ⟨by decide, by rw [hsz]; omega⟩]
    rfl
  have i3 : ∀ w, (Instr.index 9 (strV (oneB ++ d)) (.int .i64 3)).run Tryz.prog w = .ok (.int .u8 0) w := fun w => by
    rw [strV, run_index_string w 9 _ .i64 3 Tryz.underlying9, dif_pos ⟨by decide, by rw [hsz]; omega⟩]
    rfl
  have i4 : ∀ w, (Instr.index 9 (strV (oneB ++ d)) (.int .i64 4)).run Tryz.prog w = .ok (.int .u8 0) w := fun w => by
    rw [strV, run_index_string w 9 _ .i64 4 Tryz.underlying9, dif_pos ⟨by decide, by rw [hsz]; omega⟩]
    rfl
  have i5 : ∀ w, (Instr.index 9 (strV (oneB ++ d)) (.int .i64 5)).run Tryz.prog w = .ok (.int .u8 0) w := fun w => by
    rw [strV, run_index_string w 9 _ .i64 5 Tryz.underlying9, dif_pos ⟨by decide, by rw [hsz]; omega⟩]
    rfl
  have i6 : ∀ w, (Instr.index 9 (strV (oneB ++ d)) (.int .i64 6)).run Tryz.prog w = .ok (.int .u8 0) w := fun w => by
    rw [strV, run_index_string w 9 _ .i64 6 Tryz.underlying9, dif_pos ⟨by decide, by rw [hsz]; omega⟩]
    rfl
  have i7 : ∀ w, (Instr.index 9 (strV (oneB ++ d)) (.int .i64 7)).run Tryz.prog w = .ok (.int .u8 0) w := fun w => by
    rw [strV, run_index_string w 9 _ .i64 7 Tryz.underlying9, dif_pos ⟨by decide, by rw [hsz]; omega⟩]
    rfl
  have hln : ∀ ty w, (Builtin.len_ #[9] ty #[strV (oneB ++ d)]).run Tryz.prog w = .ok (.int .i64 ((8 + d.length : Nat) : Int)) w := fun ty w => by
    rw [strV, run_len_string w _ _ _ Tryz.underlying9, hsz]
    rfl
  have hle : decide ((((8 + d.length : Nat)) : Int) < 8) = false := decide_eq_false (by omega)
  obtain ⟨S, hS⟩ : ∃ S, strV (oneB ++ d) = .string S := ⟨_, rfl⟩
  obtain ⟨T, hT⟩ : ∃ T, strV d = .string T := ⟨_, rfl⟩
  rw [hS] at hsl i0 i1 i2 i3 i4 i5 i6 i7 hln ⊢
  rw [hT] at hsl ⊢
  have h8 : ((oneB.length : Nat) : Int) = 8 := rfl
  rw [h8] at hsl
  generalize 8 + d.length = n at *
  clear hS hT hz hd hsz h8
  go_enter Tryz.func66, Tryz.ntmps66
  go_wp2_with fail
  go_loopw [4, 10] (fun x u wr => ∃ j : Nat, x = .int .i64 (if j = 0 then 0 else 1) ∧ u = .int .i64 (j : Int) ∧ j ≤ 8 ∧ wr = w) (fun _ u _ => 8 - (intOf u).toNat)
  case atStart => exact ⟨0, rfl, rfl, by omega, rfl⟩
  case round =>
    obtain ⟨j, rfl, rfl, hj, rfl⟩ := hrel
    by_cases hjk : j < 8
    · have h8 : j = 0 ∨ j = 1 ∨ j = 2 ∨ j = 3 ∨ j = 4 ∨ j = 5 ∨ j = 6 ∨ j = 7 := by omega
      rcases h8 with rfl | rfl | rfl | rfl | rfl | rfl | rfl | rfl
      · clear i1 i2 i3 i4 i5 i6 i7
        go_wp2_with fail
        exact ⟨⟨1, rfl, rfl, by omega, trivial⟩, by decide⟩
      · clear i0 i2 i3 i4 i5 i6 i7
        go_wp2_with fail
        exact ⟨⟨2, rfl, rfl, by omega, trivial⟩, by decide⟩
      · clear i0 i1 i3 i4 i5 i6 i7
        go_wp2_with fail
        exact ⟨⟨3, rfl, rfl, by omega, trivial⟩, by decide⟩
      · clear i0 i1 i2 i4 i5 i6 i7
        go_wp2_with fail
        exact ⟨⟨4, rfl, rfl, by omega, trivial⟩, by decide⟩
      · clear i0 i1 i2 i3 i5 i6 i7
        go_wp2_with fail
        exact ⟨⟨5, rfl, rfl, by omega, trivial⟩, by decide⟩
      · clear i0 i1 i2 i3 i4 i6 i7
        go_wp2_with fail
        exact ⟨⟨6, rfl, rfl, by omega, trivial⟩, by decide⟩
      · clear i0 i1 i2 i3 i4 i5 i7
        go_wp2_with fail
        exact ⟨⟨7, rfl, rfl, by omega, trivial⟩, by decide⟩
      · clear i0 i1 i2 i3 i4 i5 i6
        go_wp2_with fail
        exact ⟨⟨8, rfl, rfl, by omega, trivial⟩, by decide⟩
    · have hj8 : j = 8 := by omega
      subst hj8
      clear i0 i1 i2 i3 i4 i5 i6 i7
      go_wp2_with fail
      go_region
      go_wp2_with fail
      go_ret2
      exact ⟨rfl, (Below.refl _ _).drew⟩
end Go.Proofs.YtejbfglaalmafaaGreatDoor
