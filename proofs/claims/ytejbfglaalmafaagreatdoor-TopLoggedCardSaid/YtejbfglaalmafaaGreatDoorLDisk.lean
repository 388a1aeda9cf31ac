/- The contracts of the disk's small functions: says, Down, ready, done, Crash$1. -/
import Derived.Test.YtejbfglaalmafaaGreatDoorLGetC
namespace Go.Proofs.YtejbfglaalmafaaGreatDoor
open Go.RowKit
set_option linter.unusedVariables false

/-- A disk's cells: room, now, safe, changes, steps; no stop is set. -/
def diskV (room : Int) (nm sm : Nat) (ch : Value) (st : Int) : Array Value := #[.int .i64 room, .map (some nm), .map (some sm), ch, .int .i64 st, .bool false, .int .i64 0]
def Disk (w : World) (dk : Nat) (room : Int) (nm sm : Nat) (ch : Value) (st : Int) : Prop := Blk w dk 57 (diskV room nm sm ch st)
section
variable {w : World} {dk : Nat} {room : Int} {nm sm : Nat} {ch : Value} {st : Int}
theorem Disk.c0 (h : Disk w dk room nm sm ch st) : w.cell? ⟨dk, 0, none⟩ = some (.int .i64 room) := h.cell 0
theorem Disk.c1 (h : Disk w dk room nm sm ch st) : w.cell? ⟨dk, 1, none⟩ = some (.map (some nm)) := h.cell 1
theorem Disk.c2 (h : Disk w dk room nm sm ch st) : w.cell? ⟨dk, 2, none⟩ = some (.map (some sm)) := h.cell 2
theorem Disk.c3 (h : Disk w dk room nm sm ch st) : w.cell? ⟨dk, 3, none⟩ = some ch := h.cell 3
theorem Disk.c4 (h : Disk w dk room nm sm ch st) : w.cell? ⟨dk, 4, none⟩ = some (.int .i64 st) := h.cell 4
theorem Disk.c5 (h : Disk w dk room nm sm ch st) : w.cell? ⟨dk, 5, none⟩ = some (.bool false) := h.cell 5
theorem Disk.c6 (h : Disk w dk room nm sm ch st) : w.cell? ⟨dk, 6, none⟩ = some (.int .i64 0) := h.cell 6
theorem Disk.free (h : Disk w dk room nm sm ch st) (i : Nat) : w.frozen? ⟨dk, i, none⟩ = false := Blk.frozen h i
end
set_option maxRecDepth 100000 in
theorem down_ok (dk : Nat) (room : Int) (nm sm : Nat) (ch : Value) (st : Int) (w : World) (h : Disk w dk room nm sm ch st) :
    Calls Tryz.prog 14 #[.pointer (some ⟨dk, 0, none⟩)] w fun e w' => e = .returned (.bool false) ∧ w = w' := by
  have c5 := h.c5
  go_enter Tryz.func14, Tryz.ntmps14
  go_wp2_with fail
  go_ret
  exact ⟨rfl, rfl⟩
set_option maxRecDepth 100000 in
theorem ready_ok (dk : Nat) (room : Int) (nm sm : Nat) (ch : Value) (st : Int) (w : World) (h : Disk w dk room nm sm ch st) :
    Calls Tryz.prog 41 #[.pointer (some ⟨dk, 0, none⟩)] w fun e w' => e = .returned (.int .i64 0) ∧ w = w' := by
  have h1 := Lib.hid (down_ok dk room nm sm ch st w h)
  go_enter Tryz.func41, Tryz.ntmps41
  go_wp2_with fail
  refine h1.out.mono ?_
  rintro e w1 ⟨rfl, rfl⟩
  go_wp2_with fail
  go_ret
  exact ⟨rfl, rfl⟩
set_option maxRecDepth 100000 in
theorem done_ok (dk : Nat) (room : Int) (nm sm : Nat) (ch : Value) (st : Int) (w : World) (h : Disk w dk room nm sm ch st) :
    Calls Tryz.prog 58 #[.pointer (some ⟨dk, 0, none⟩)] w fun e w' => e = .returned (.int .i64 0) ∧ Disk w' dk room nm sm ch (wrap64 (st + 1)) ∧ w.grownBy w' (some dk) := by
  have c4 := h.c4
  have c5 := h.c5
  have f4 := h.free 4
  have h2 : Disk (w.setCell ⟨dk, 4, none⟩ (.int .i64 (wrap64 (st + 1)))) dk room nm sm ch (wrap64 (st + 1)) := Blk.set_ h 4 (.int .i64 (wrap64 (st + 1)))
  have hg := grown_set w ⟨dk, 4, none⟩ (.int .i64 (wrap64 (st + 1)))
  have d5 := h2.c5
  go_enter Tryz.func58, Tryz.ntmps58
  go_wp2_with fail
  go_ret
  exact ⟨rfl, h2, hg⟩
/-- How much a crash takes of nothing: nothing. -/
theorem says_zero (c : Int) (w : World) :
    Calls Tryz.prog 32 #[.int .i64 c, .int .i64 0] w fun e w' => e = .returned (.int .i64 0) ∧ w = w' := by
  by_cases hc : c < 0
  · go_enter Tryz.func32, Tryz.ntmps32
    go_wp2_with fail
    go_ret
    exact ⟨by simp, rfl⟩
  · go_enter Tryz.func32, Tryz.ntmps32
    go_wp2_with fail
    go_ret
    exact ⟨by simp, rfl⟩
/-- The choices that are left, in a box of the call's own. -/
def Cho (w : World) (bb : Nat) (l : List Int) : Prop := ∃ A c, Blk w bb 24 #[.slice A l.length c] ∧ l.length ≤ c ∧ Row w A l ∧ ∀ g o, A = some ⟨g, o, none⟩ → g ≠ bb
def NextPost (w : World) (bb : Nat) (e : Ending) (w' : World) : Prop := ∃ x l, e = .returned (.int .i64 x) ∧ Cho w' bb l ∧ w.grownBy w' (some bb)
set_option maxRecDepth 100000 in
theorem next_ok (bb : Nat) (l : List Int) (w : World) (h : Cho w bb l) :
    Calls Tryz.prog 30 #[.pointer (some ⟨bb, 0, none⟩)] w (NextPost w bb) := by
  have hcho := h
  obtain ⟨A, c, hb, hc, hr, hA⟩ := h
  have c0 := hb.cell 0
  have f0 := hb.frozen 0
  simp only [List.getElem?_toArray, List.getElem?_cons_zero] at c0
  rcases l with _ | ⟨x, l⟩
  · have hg := grown_refl w (some bb)
    simp only [List.length_nil] at c0
    go_enter Tryz.func30, Tryz.ntmps30
    go_wp2_with fail
    go_ret
    exact ⟨0, [], rfl, hcho, hg⟩
  · obtain ⟨g, o, rfl, r0⟩ := hr 0 (by simp)
    have hne := hA g o rfl
    have hx : nth (x :: l) 0 = x := rfl
    rw [hx, Nat.add_zero] at r0
    have p1 : (1 : Int) ≤ (c : Int) := by simp at hc; omega
    have p2 : ((l.length + 1 : Nat) : Int) ≤ (c : Int) := by simp at hc; omega
    simp only [List.length_cons] at c0 hc
    have hset : ∀ v, Blk (w.setCell ⟨bb, 0, none⟩ v) bb 24 #[v] := fun v => hb.set_ 0 v
    have hend1 : c = 1 → NextPost w bb (.returned (.int .i64 x)) (w.setCell ⟨bb, 0, none⟩ (.slice (some ⟨g, o, none⟩) l.length 0)) := fun h1 => by
      have hl : l = [] := List.eq_nil_of_length_eq_zero (by omega)
      subst hl
      exact ⟨x, [], rfl, ⟨_, _, hset _, Nat.le_refl _, Row.nil_, fun g1 o1 e => hA g1 o1 e⟩, grown_set _ _ _⟩
    have hend2 : NextPost w bb (.returned (.int .i64 x)) (w.setCell ⟨bb, 0, none⟩ (.slice (some ⟨g, o + 1, none⟩) l.length (c - 1))) := by
      refine ⟨x, l, rfl, ⟨_, _, hset _, by omega, fun j hj => ⟨g, o + 1, rfl, ?_⟩, fun g1 o1 e => ?_⟩, grown_set _ _ _⟩
      · obtain ⟨g2, o2, e2, r2⟩ := hr (j + 1) (by simp; omega)
        simp only [Option.some.injEq, Addr.mk.injEq, and_true] at e2
        obtain ⟨rfl, rfl⟩ := e2
        have hk := (grown_set w ⟨bb, 0, none⟩ (.slice (some ⟨g, o + 1, none⟩) l.length (c - 1))).cell r2 (by simp; exact hne)
        rw [show o + 1 + j = o + (j + 1) by omega, hk]
        rfl
      · simp only [Option.some.injEq, Addr.mk.injEq, and_true] at e
        rw [← e.1]; exact hne
    replace hend1 := Lib.hid hend1
    replace hend2 := Lib.hid hend2
    clear hcho hset
    go_enter Tryz.func30, Tryz.ntmps30
    go_wp2_with fail
    · go_ret
      exact hend1.out (by assumption)
    · go_ret
      exact hend2.out
end Go.Proofs.YtejbfglaalmafaaGreatDoor
