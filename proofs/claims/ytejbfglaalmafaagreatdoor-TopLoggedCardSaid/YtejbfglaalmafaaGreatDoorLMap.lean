/- The disk's maps of names: what a look-up gives; the contract of find. -/
import Derived.Test.YtejbfglaalmafaaGreatDoorLDisk
import Derived.Maps.Views
import Derived.Maps.OwnOps
import Derived.StringKeys
namespace Go.Proofs.YtejbfglaalmafaaGreatDoor
open Go.RowKit
open Go.Maps (Keyed)
set_option linter.unusedVariables false

/-- How a pointer to a file reads: its block. -/
def ptrElem : Value → Option (DataW Unit × List MemPlace)
  | .pointer (some ⟨g, 0, none⟩) => some (.lit (.int .i64 (g : Int)), [])
  | _ => none
theorem ptrElem_inv {v : Value} {g : Nat} {ps : List MemPlace} (h : ptrElem v = some (.lit (.int .i64 (g : Int)), ps)) : v = .pointer (some ⟨g, 0, none⟩) := by
  unfold ptrElem at h
  split at h
  · simp only [Option.some.injEq, Prod.mk.injEq, DataW.lit.injEq, Lit.int.injEq, true_and] at h
    have := h.1
    have e := Int.ofNat.inj this
    rw [e]
  · simp at h
theorem zero_file (w : World) : (zeroValue 87).run Tryz.prog w = .ok (.pointer none) w := by kernel_rfl
def NMap (w : World) (b n : Nat) (D : DataW Unit) : Prop := w.ownsMap Tryz.prog 9 ptrElem b n D
def keyL (l : List UInt8) : Lit := .string l
theorem look_there {w : World} {b n g : Nat} {D : DataW Unit} {l : List UInt8} (h : NMap w b n D) (hs : l.length ≤ 1000000) (hat : D.atKey (keyL l) .nil = .lit (.int .i64 (g : Int))) :
    (Instr.lookup 54 (.map (some b)) (strV l) true).run Tryz.prog w = .ok (.tuple #[.pointer (some ⟨g, 0, none⟩), .bool true]) w := by
  obtain ⟨es, clock, hb, F, _, rfl⟩ := h
  have hsz : (ByteArray.mk l.toArray).size ≤ maxLen := by simp only [ByteArray.size, List.size_toArray, maxLen]; omega
  have hkey := WideMaps.keyOf_string_mk Tryz.underlying9 hsz
  rcases Maps.fit_look true (Maps.string_keyed Tryz.underlying9) Tryz.underlying54 (zero_file w) hb F hkey with ⟨hrun, _, hn⟩ | ⟨e0, y, _, _, hrun, hRv, hy, _⟩
  · have h1 := hn .nil
    rw [show (Lit.string (ByteArray.mk l.toArray).data.toList) = keyL l from rfl, hat] at h1
    simp at h1
  · have h1 := hy .nil
    rw [show (Lit.string (ByteArray.mk l.toArray).data.toList) = keyL l from rfl, hat] at h1
    have hv := ptrElem_inv (v := e0.val) (g := g) (ps := y.2) (by rw [hRv, h1])
    rw [hv] at hrun
    exact hrun
theorem look_not {w : World} {b n : Nat} {D : DataW Unit} {l : List UInt8} (h : NMap w b n D) (hs : l.length ≤ 1000000) (hat : D.atKey (keyL l) .nil = .nil) :
    (Instr.lookup 54 (.map (some b)) (strV l) true).run Tryz.prog w = .ok (.tuple #[.pointer none, .bool false]) w := by
  obtain ⟨es, clock, hb, F, _, rfl⟩ := h
  have hsz : (ByteArray.mk l.toArray).size ≤ maxLen := by simp only [ByteArray.size, List.size_toArray, maxLen]; omega
  have hkey := WideMaps.keyOf_string_mk Tryz.underlying9 hsz
  rcases Maps.fit_look true (Maps.string_keyed Tryz.underlying9) Tryz.underlying54 (zero_file w) hb F hkey with ⟨hrun, _, hn⟩ | ⟨e0, y, _, _, hrun, hRv, hy, _⟩
  · exact hrun
  · have h1 := hy .nil
    rw [show (Lit.string (ByteArray.mk l.toArray).data.toList) = keyL l from rfl, hat] at h1
    exfalso
    unfold ptrElem at hRv
    split at hRv
    · simp only [Option.some.injEq] at hRv
      rw [← hRv] at h1
      simp at h1
    · simp at hRv
set_option maxRecDepth 100000 in
theorem find_ok (dk : Nat) (room : Int) (nm sm : Nat) (ch : Value) (st : Int) (n g : Nat) (D : DataW Unit) (l : List UInt8) (hl : l.length ≤ 1000000) (w : World) (h : Disk w dk room nm sm ch st) (hm : NMap w nm n D) (hat : D.atKey (keyL l) .nil = .lit (.int .i64 (g : Int))) :
    Calls Tryz.prog 47 #[.pointer (some ⟨dk, 0, none⟩), strV l] w fun e w' => e = .returned (.tuple #[.pointer (some ⟨g, 0, none⟩), .int .i64 0]) ∧ w = w' := by
  have h1 := Lib.hid (ready_ok dk room nm sm ch st w h)
  have hk := look_there hm hl hat
  have c1 := h.c1
  obtain ⟨S, hS⟩ : ∃ S, strV l = .string S := ⟨_, rfl⟩
  rw [hS] at hk ⊢
  clear hS hl hat h hm
  go_enter Tryz.func47, Tryz.ntmps47
  go_wp2_with fail
  refine h1.out.mono ?_
  rintro e w1 ⟨rfl, rfl⟩
  go_wp2_with fail
  go_ret2
  exact ⟨rfl, rfl⟩
end Go.Proofs.YtejbfglaalmafaaGreatDoor
