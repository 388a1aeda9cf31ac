/- Numbers laid as bytes: the contracts of codec.lay, wal.put32, wal.put64, wal.sealed. -/
import Derived.Test.YtejbfglaalmafaaGreatDoorLSum
namespace Go.Proofs.YtejbfglaalmafaaGreatDoor
open Go.RowKit
set_option linter.unusedVariables false

def bytesV (l : List UInt8) : List Value := l.map fun b => .int .u8 (b.toNat : Int)
theorem bytesV_length (l : List UInt8) : (bytesV l).length = l.length := by simp [bytesV]
theorem bytesV_append (a b : List UInt8) : bytesV (a ++ b) = bytesV a ++ bytesV b := by simp [bytesV]
theorem bytesV_at (l : List UInt8) (j : Nat) (h : j < l.length) : (bytesV l)[j]? = some (.int .u8 (nb l j : Int)) := by simp [bytesV, nb, h]
theorem byte_info : (Tryz.prog.info? 5).map (fun i => (i.zero, i.size, i.bytes)) = some (some (.int .u8 0), 1, 1) := by kernel_rfl
def byteI (x : Int) : UInt8 := UInt8.ofNat (x % 256).toNat
theorem byteI_val (x : Int) : ((byteI x).toNat : Int) = x % 256 := by
  rw [byteI, UInt8.toNat_ofNat']
  omega
/-- A number's n lowest bytes, the lowest first. -/
def leB (n : Nat) (v : Int) : List UInt8 := (List.range n).map fun i => byteI (v / 256 ^ i)
theorem leB_length (n : Nat) (v : Int) : (leB n v).length = n := by simp [leB]
theorem leB_succ (n : Nat) (v : Int) : leB (n + 1) v = leB n v ++ [byteI (v / 256 ^ n)] := by simp [leB, List.range_succ]
theorem quo_step (v : Int) (j : Nat) : v / 256 ^ j / 256 = v / 256 ^ (j + 1) := by
  rw [Int.ediv_ediv_of_nonneg (Int.pow_nonneg (by omega)), Int.pow_succ]
theorem bytes_snoc (xs : List UInt8) (j : Nat) (v : Int) : bytesV (xs ++ leB j v) ++ [.int .u8 ((v / 256 ^ j) % 256)] = bytesV (xs ++ leB (j + 1) v) := by
  rw [leB_succ, ← List.append_assoc, bytesV_append (xs ++ leB j v)]
  simp [bytesV, byteI_val]
/-- A slice of the call's own has grown: its bytes. -/
def OwnPost (B : Nat) (w : World) (v : Value) (xs : List UInt8) (e : Ending) (w' : World) : Prop :=
  ∃ v', e = .returned v' ∧ w'.ownsRow B 5 1 v' xs.length (bytesV xs) ∧ w.grownBy w' v.ownBlock ∧ (v'.ownBlock = v.ownBlock ∨ ∃ q, v'.ownBlock = some q ∧ w.heap.size ≤ q)

theorem grown_chain {w wr w1 : World} {r s : Option Nat} (hg : w.grownBy wr r) (hg1 : wr.grownBy w1 s) (hs : s = r ∨ ∃ q, s = some q ∧ w.heap.size ≤ q) : w.grownBy w1 r :=
  ⟨hg1.os.trans hg.os, hg1.tape.trans hg.tape, hg1.output.trans hg.output, Nat.le_trans hg.size hg1.size, fun i hi hne => by
    rw [hg1.block i (Nat.lt_of_lt_of_le hi hg.size) (fun e => by
      rcases hs with h | ⟨q, h, hq⟩
      · exact hne (e.trans h)
      · rw [h] at e; injection e with e; omega)]
    exact hg.block i hi hne⟩
theorem at_chain {w wr : World} {v b c : Value} (hz : w.heap.size ≤ wr.heap.size) (h : b.ownBlock = v.ownBlock ∨ ∃ q, b.ownBlock = some q ∧ w.heap.size ≤ q) (h1 : c.ownBlock = b.ownBlock ∨ ∃ q, c.ownBlock = some q ∧ wr.heap.size ≤ q) : c.ownBlock = v.ownBlock ∨ ∃ q, c.ownBlock = some q ∧ w.heap.size ≤ q := by
  rcases h1 with e | ⟨q, e, hq⟩
  · rw [e]; exact h
  · exact .inr ⟨q, e, Nat.le_trans hz hq⟩
theorem at_new {w : World} {b c : Value} {k : Nat} (h : c.ownBlock = b.ownBlock ∨ c.ownBlock = some (w.heap.size + k)) : c.ownBlock = b.ownBlock ∨ ∃ q, c.ownBlock = some q ∧ w.heap.size ≤ q := by
  rcases h with e | e
  · exact .inl e
  · exact .inr ⟨_, e, by omega⟩

set_option maxRecDepth 100000 in
set_option maxHeartbeats 4000000 in
theorem lay_any (B : Nat) (v : Value) (xs : List UInt8) (x : Int) (n : Nat) (hn : n ≤ 8) (w : World) (HO : w.ownsRow B 5 1 v xs.length (bytesV xs)) (hB : B ≤ w.heap.size) (hl : xs.length ≤ 1000000000) :
    Calls Tryz.prog 25 #[v, .int .i64 x, .int .i64 (n : Int)] w (OwnPost B w v (xs ++ leB n x)) := by
  go_enter Tryz.func25, Tryz.ntmps25
  go_wp2_with fail
  go_loopw [0, 1, 8] (fun b y i wr => ∃ j : Nat, j ≤ n ∧ i = .int .i64 (j : Int) ∧ y = .int .i64 (x / 256 ^ j) ∧ wr.ownsRow B 5 1 b (xs.length + j) (bytesV (xs ++ leB j x)) ∧ w.grownBy wr v.ownBlock ∧ (b.ownBlock = v.ownBlock ∨ ∃ q, b.ownBlock = some q ∧ w.heap.size ≤ q)) (fun _ _ i _ => n - (intOf i).toNat)
  case atStart => exact ⟨0, Nat.zero_le _, rfl, by simp, by simpa [leB] using HO, grown_of_below (Below.refl _ _) _, .inl rfl⟩
  case round =>
    obtain ⟨j, hj, rfl, rfl, HO5, hg, hat⟩ := hrel
    by_cases hlt : j < n
    · have p0 : (0 : Int) ≤ (j : Int) := by omega
      have p1 : (j : Int) < (n : Int) := by omega
      have hsn := bytes_snoc xs j x
      have hq := quo_step x j
      have hz : B ≤ wr.heap.size := Nat.le_trans hB hg.size
      generalize hy : x / 256 ^ j = y at *
      replace hsn := Lib.hid hsn
      replace hq := Lib.hid hq
      replace hy := Lib.hid hy
      go_wp2_with (at_builtin; refine append_one B rfl (.tmp 10) (.tmp 13) _ 5 (.int .u8 0) 1 rfl Tryz.underlying69 byte_info rfl (by omega) u0 (xs.length + j) _ (.int .u8 (y % 256)) rfl rfl rfl HO5 hz (by omega) ?_; intro v1 w1 HO1 hg1 hat1)
      rw [hsn.out, Nat.add_assoc] at HO1
      exact ⟨⟨j + 1, by omega, by go_num, by rw [hq.out], HO1, grown_chain hg hg1 hat, at_chain hg.size hat (at_new hat1)⟩, by simp [intOf]; omega⟩
    · obtain rfl : j = n := by omega
      rw [← leB_length j x, ← List.length_append, leB_length] at HO5
      go_wp2_with fail
      go_ret
      exact ⟨_, rfl, HO5, hg, hat⟩
end Go.Proofs.YtejbfglaalmafaaGreatDoor
