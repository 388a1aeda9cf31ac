/- The contract of (*Disk).Used: a number between nothing and files times L. -/
import Derived.Test.YtejbfglaalmafaaGreatDoorLCreate
import Derived.Maps.RangeWalk
namespace Go.Proofs.YtejbfglaalmafaaGreatDoor
open Go.RowKit
set_option linter.unusedVariables false

theorem ptrElem_shape (v : Value) (y : DataW Unit × List MemPlace) (h : ptrElem v = some y) : ∃ g : Nat, v = .pointer (some ⟨g, 0, none⟩) := by
  unfold ptrElem at h
  split at h
  · exact ⟨_, rfl⟩
  · simp at h
theorem ptrElem_val {g : Nat} {y : DataW Unit × List MemPlace} (h : ptrElem (.pointer (some ⟨g, 0, none⟩)) = some y) : y.1 = .lit (.int .i64 (g : Int)) := by
  simp only [ptrElem, Option.some.injEq] at h
  rw [← h]
theorem string_shape (key : Value) (kl : Lit) (h : keyOf Tryz.prog 9 key = some kl) : ∃ S : ByteArray, key = .string S := by
  obtain ⟨S, rfl, _⟩ := WideMaps.string_of_keyOf Tryz.underlying9 h
  exact ⟨S, rfl⟩
/-- Every file of D holds L bytes at most. -/
def Files (w : World) (D : DataW Unit) (L : Nat) : Prop := ∀ kl (g : Nat), (∀ z, D.atKey kl z = .lit (.int .i64 (g : Int))) → ∃ A m c s, Blk w g 94 (fileV (.slice A m c) s) ∧ m ≤ L
theorem sum64 {v m : Nat} (h : v + m ≤ 1000000000) : wrap64 ((v : Int) + (m : Int)) = ((v + m : Nat) : Int) := by
  simp only [wrap64]
  omega
def UsedPost (w : World) (T : Nat) (e : Ending) (w' : World) : Prop := ∃ v : Nat, e = .returned (.int .i64 (v : Int)) ∧ v ≤ T ∧ Below w.heap.size w w'
set_option maxRecDepth 100000 in
set_option maxHeartbeats 4000000 in
theorem used_ok (dk : Nat) (room : Int) (nm sm : Nat) (ch : Value) (st : Int) (n L : Nat) (D : DataW Unit) (w : World) (hd : Disk w dk room nm sm ch st) (hm : NMap w nm n D) (hF : Files w D L) (hT : Maps.size D * L ≤ 1000000000) :
    Calls Tryz.prog 87 #[.pointer (some ⟨dk, 0, none⟩)] w (UsedPost w (Maps.size D * L)) := by
  have h1 := Lib.hid (ready_ok dk room nm sm ch st w hd)
  have c1 := hd.c1
  generalize hTt : Maps.size D * L = T at *
  replace hT := Lib.hid hT
  replace hTt := Lib.hid hTt
  clear hd
  go_enter Tryz.func87, Tryz.ntmps87
  go_wp2_with fail
  refine h1.out.mono ?_
  rintro e w0 ⟨rfl, rfl⟩
  go_wp2_with (at_range; refine wpList_range_own _ rfl _ _ rfl _ _ (Maps.string_keyed Tryz.underlying9) Tryz.underlying54 ptrElem nm n D rfl hm ?_; intro w1 hrg hg1 hs1)
  go_frame
  go_loopw [3] (fun u wr => ∃ (left : Lit → Bool) (cnt v : Nat), u = .int .i64 (v : Int) ∧ v + cnt * L ≤ T ∧ wr.ranges Tryz.prog 9 ptrElem nm w.heap.size n D left cnt ∧ Below w.heap.size w wr) (fun _ wr => wr.rangeLeft nm w.heap.size)
  case atStart => exact ⟨_, _, 0, rfl, by rw [Nat.zero_add, hTt.out]; exact Nat.le_refl _, hrg, below_of_grown (Below.refl _ _) hg1 (by simp)⟩
  case round =>
    obtain ⟨left, cnt, v, rfl, hv, hr, hB⟩ := hrel
    have hT0 := hT.out
    rcases hr.next (Maps.string_keyed Tryz.underlying9) 0 with ⟨h0, hl, hrun⟩ | ⟨key, v', kl, y, w', cnt', hkey, hlk, hvv, hat, hrun, hrg', hlt, hgr, hsz, hen⟩
    · have hvT : v ≤ T := by omega
      clear hT0 hv hr
      go_wp2_with fail
      go_ret
      exact ⟨v, rfl, hvT, hB⟩
    · obtain ⟨S, rfl⟩ := string_shape key kl hkey
      obtain ⟨g, rfl⟩ := ptrElem_shape v' y hvv
      obtain ⟨A, m, c, sf, hbk, hmL⟩ := hF kl g (fun z => (hat z).trans (ptrElem_val hvv))
      have hlt' := hbk.lt
      have hB' := hB.grown hgr hB.size (by simp)
      have hb' := hbk.below hB' hlt'
      have k0 : w'.cell? ⟨g, 0, none⟩ = some (.slice A m c) := hb'.cell 0
      have hmul : cnt' * L + L ≤ cnt * L := by
        have := Nat.mul_le_mul_right L (show cnt' + 1 ≤ cnt from hlt)
        rwa [Nat.add_mul, Nat.one_mul] at this
      have hnew : v + m + cnt' * L ≤ T := by omega
      have hsum : wrap64 ((v : Int) + (m : Int)) = ((v + m : Nat) : Int) := sum64 (show v + m ≤ 1000000000 by omega)
      have hme : w'.rangeLeft nm w.heap.size < wr.rangeLeft nm w.heap.size := by rw [hrg'.left_eq, hr.left_eq]; exact hlt
      clear hT0 hv hmul hmL hlt hr hbk hb' hat hvv hkey
      replace hnew := Lib.hid hnew
      go_wp2_with fail
      first
        | exact ⟨⟨_, cnt', v + m, by rw [hsum], hnew.out, hrg', hB'⟩, hme⟩
        | exact ⟨⟨_, cnt', v + m, rfl, hnew.out, hrg', hB'⟩, hme⟩
end Go.Proofs.YtejbfglaalmafaaGreatDoor
