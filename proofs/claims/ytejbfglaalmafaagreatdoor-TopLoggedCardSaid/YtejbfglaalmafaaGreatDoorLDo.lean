/- The contracts of names.do, change, for a name that is new. -/
import Derived.Test.YtejbfglaalmafaaGreatDoorLMap
namespace Go.Proofs.YtejbfglaalmafaaGreatDoor
open Go.RowKit
open Go.Maps (Keyed)
set_option linter.unusedVariables false

/-- 'm[name] = f'. -/
theorem put_name {w : World} {b n : Nat} (g : Nat) {D : DataW Unit} {l : List UInt8} (h : NMap w b n D) (hs : l.length ≤ 1000000) (hn : n ≤ 1000000) :
    ∃ w', (Instr.mapUpdate 54 (.map (some b)) (strV l) (.pointer (some ⟨g, 0, none⟩))).run Tryz.prog w = .ok () w' ∧ NMap w' b (n + 1) (D.put (keyL l) (.lit (.int .i64 (g : Int)))) ∧ w.grownBy w' (some b) := by
  have hsz : (ByteArray.mk l.toArray).size ≤ maxLen := by simp only [ByteArray.size, List.size_toArray, maxLen]; omega
  have hkey := WideMaps.keyOf_string_mk Tryz.underlying9 hsz
  exact World.ownsMap.update h (Maps.string_keyed Tryz.underlying9) Tryz.underlying54 (by simp only [maxLen]; omega) hkey (d := .lit (.int .i64 (g : Int))) (ps := []) rfl
def chg (l : List UInt8) (g : Nat) : Array Value := #[.string ⟨#[]⟩, strV l, .pointer (some ⟨g, 0, none⟩)]
def DoPost (w : World) (b n : Nat) (D : DataW Unit) (l : List UInt8) (g : Nat) (e : Ending) (w' : World) : Prop :=
  e = .returned (.tuple #[]) ∧ NMap w' b (n + 1) (D.put (keyL l) (.lit (.int .i64 (g : Int)))) ∧ w.grownBy w' (some b)
theorem text_ne {S : ByteArray} {l : List UInt8} (hS : strV l = .string S) (h0 : 0 < l.length) : S.toList.isEmpty = false := by
  simp only [strV, Value.string.injEq] at hS
  rw [← hS, ByteArray.toList_eq]
  cases l with
  | nil => simp at h0
  | cons _ _ => rfl
set_option maxRecDepth 100000 in
theorem do_ok (b n g : Nat) (D : DataW Unit) (l : List UInt8) (h0 : 0 < l.length) (hl : l.length ≤ 1000000) (hn : n ≤ 1000000) (w : World) (hm : NMap w b n D) :
    Calls Tryz.prog 33 #[.map (some b), .agg (chg l g)] w (DoPost w b n D l g) := by
  obtain ⟨S, hS⟩ : ∃ S, strV l = .string S := ⟨_, rfl⟩
  have hne := text_ne hS h0
  unfold chg
  rw [hS]
  obtain ⟨w1, hrun, hm1, hg1⟩ := put_name (w := w.alloc (.cells #[.string ⟨#[]⟩, .string S, .pointer (some ⟨g, 0, none⟩)] 90)) g (hm.alloc _) hl hn
  rw [hS] at hrun
  have hg2 : w.grownBy w1 (some b) := grown2 (grown_new_alloc (grown_refl w (some b)) (.cells #[.string ⟨#[]⟩, .string S, .pointer (some ⟨g, 0, none⟩)] 90)) hg1
  clear hm hS hg1 hl h0 hn
  go_enter Tryz.func33, Tryz.ntmps33
  go_wp2_with fail
  refine bodyPost_end (results_none rfl _ _ _) rfl ?_
  exact ⟨rfl, hm1, hg2⟩
end Go.Proofs.YtejbfglaalmafaaGreatDoor
