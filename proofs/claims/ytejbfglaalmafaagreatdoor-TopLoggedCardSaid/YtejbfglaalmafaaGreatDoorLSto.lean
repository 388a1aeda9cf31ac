/- Small functions of the store: the deferred ones, a file that is not there, Seq, do, the number ahead of a text. -/
import Derived.Test.YtejbfglaalmafaaGreatDoorLTop
import Derived.Defers
import Derived.Recover
namespace Go.Proofs.YtejbfglaalmafaaGreatDoor
open Go.RowKit
set_option linter.unusedVariables false

theorem caught_idle (p : Addr) (w : World) :
    CallsD Tryz.prog 63 #[.pointer (some p)] .returning w fun e u' w' => e = .returned (.tuple #[]) ∧ u' = .returning ∧ w' = w := by
  refine callsD_of_wpS Tryz.func63 rfl fun c₀ cs hu => ?_
  apply wpS_seq
  apply wpS_region
  simp [wpOpsS, go_sem, recoverD, hu, Tryz.ntmps63, Exit.thenS]
  apply wpS_seq
  apply wpS_region
  simp [wpOpsS, go_sem, Exit.thenS]
  refine wpS_cond (t := false) (by simp [Act.eval, Array.replicate]) ?_
  simp only [Bool.false_eq_true, if_false]
  refine wpS_of_wp (wp_skip ?_)
  cases c₀
  simp_all [bodyPostS, results, Tryz.results63]
theorem open1_idle (pe ps : Addr) (w : World) (hc : w.cell? pe = some (.int .i64 0)) :
    CallsD Tryz.prog 62 #[.pointer (some pe), .pointer (some ps)] .returning w fun e u' w' => e = .returned (.tuple #[]) ∧ u' = .returning ∧ w' = w := by
  refine callsD_of_wpS Tryz.func62 rfl fun c₀ cs hu => ?_
  apply wpS_seq
  apply wpS_region
  simp [wpOpsS, go_sem, Tryz.ntmps62, Exit.thenS, hc]
  refine wpS_cond (t := false) (by simp [Act.eval, Array.replicate]) ?_
  simp only [Bool.false_eq_true, if_false]
  refine wpS_of_wp (wp_skip ?_)
  cases c₀
  simp_all [bodyPostS, results, Tryz.results62]
def snapN : List UInt8 := [115, 110, 97, 112, 46, 110, 111, 119]
theorem dk_snap (k : Nat) (G : Nat → Nat) (hk : k ≤ 6) (z : DataW Unit) : (DK k G).atKey (keyL snapN) z = z := by
  have h : k = 0 ∨ k = 1 ∨ k = 2 ∨ k = 3 ∨ k = 4 ∨ k = 5 ∨ k = 6 := by omega
  rcases h with rfl | rfl | rfl | rfl | rfl | rfl | rfl <;> rfl
set_option maxRecDepth 100000 in
theorem find_none {w : World} {dk nm sm n : Nat} {room st : Int} {ch : Value} {D : DataW Unit} {l : List UInt8} (hl : l.length ≤ 1000000) (hd : Disk w dk room nm sm ch st) (hm : NMap w nm n D) (hat : D.atKey (keyL l) .nil = .nil) :
    Calls Tryz.prog 47 #[.pointer (some ⟨dk, 0, none⟩), strV l] w fun e w' => e = .returned (.tuple #[.pointer none, .int .i64 172]) ∧ w = w' := by
  have h1 := Lib.hid (ready_ok dk room nm sm ch st w hd)
  have hk := look_not hm hl hat
  have c1 := hd.c1
  obtain ⟨S, hS⟩ : ∃ S, strV l = .string S := ⟨_, rfl⟩
  rw [hS] at hk ⊢
  clear hS hl hat hm hd
  go_enter Tryz.func47, Tryz.ntmps47
  go_wp2_with fail
  refine h1.out.mono ?_
  rintro e w1 ⟨rfl, rfl⟩
  go_wp2_with fail
  go_ret2
  exact ⟨rfl, rfl⟩
set_option maxRecDepth 100000 in
theorem read_none {w : World} {b nm dk k : Nat} {G : Nat → Nat} {S : Nat → List UInt8} {F : Nat → Bool} {Z : Bool} {N : Nat} (h : DS w b nm dk k G S F Z N) (hk : k ≤ 6) :
    Calls Tryz.prog 19 #[.pointer (some ⟨dk, 0, none⟩), strV snapN] w fun e w' => e = .returned (.tuple #[.slice none 0 0, .int .i64 172]) ∧ w = w' := by
  obtain ⟨sm, ch, st, n, ns, D2, kk, h⟩ := h
  have h1 := Lib.hid (find_none (l := snapN) (by simp [snapN]) h.hd h.hm (dk_snap k G hk _))
  obtain ⟨T, hT⟩ : ∃ T, strV snapN = .string T := ⟨_, rfl⟩
  rw [hT] at h1 ⊢
  clear hT h
  go_enter Tryz.func19, Tryz.ntmps19
  go_wp2_with fail
  refine h1.out.mono ?_
  rintro e w0 ⟨rfl, rfl⟩
  go_wp2_with fail
  go_ret2
  exact ⟨rfl, rfl⟩
/-- A store's cells: of dimension 1. -/
def stoV (dk lg : Nat) (rm : Nat) (first safe : Int) (ch : Value) : Array Value := #[.int .i64 1, .pointer (some ⟨dk, 0, none⟩), .pointer (some ⟨lg, 0, none⟩), .map (some rm), .int .i64 first, .int .i64 safe, ch]
set_option maxRecDepth 100000 in
theorem seq_ok {w : World} {st dk lg rm : Nat} {safe : Int} {A : Option Addr} {first n c : Nat} (hf : first + n ≤ 1000000) (h : Blk w st 131 (stoV dk lg rm (first : Int) safe (.slice A n c))) :
    Calls Tryz.prog 73 #[.pointer (some ⟨st, 0, none⟩)] w fun e w' => e = .returned (.int .i64 ((first + n : Nat) : Int)) ∧ Below w.heap.size w w' := by
  have c4 : w.cell? ⟨st, 4, none⟩ = some (.int .i64 (first : Int)) := h.cell 4
  have c6 : w.cell? ⟨st, 6, none⟩ = some (.slice A n c) := h.cell 6
  obtain ⟨q1, q2⟩ := add64 rfl hf
  generalize first + n = f at *
  clear h
  go_enter Tryz.func73, Tryz.ntmps73
  go_wp2_with fail
  go_region
  go_wp2_with fail
  go_ret
  exact ⟨rfl, (Below.refl _ _).drew⟩
end Go.Proofs.YtejbfglaalmafaaGreatDoor
