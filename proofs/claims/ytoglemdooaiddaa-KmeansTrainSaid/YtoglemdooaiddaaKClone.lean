/- The contract of slices.Clone at whole numbers. -/
import Derived.Test.YtoglemdooaiddaaKMem
import Derived.Test.YtoglemdooaiddaaOwn
import Derived.Deep.LoopGhost
import Derived.Lib.SliceRun
namespace Go.Proofs.Ytoglemdooaiddaa
open Go.RowKit
set_option linter.unusedVariables false

theorem int_info' : (Try.prog.info? 3).map (fun i => (i.zero, i.size, i.bytes)) = some (some (.int .i64 0), 1, 8) := by kernel_rfl
/-- A row of the call's own: at block g, from its front on. -/
structure OwnRow (B : Nat) (g : Nat) (l : List Int) (w' : World) : Prop where
  lo : B ≤ g
  lt : g < w'.heap.size
  cell : ∀ x, x < l.length → w'.cell? ⟨g, x, none⟩ = some (.int .i64 (nth l x))
  free : ∀ x, w'.frozen? ⟨g, x, none⟩ = false
def ClonePost (w : World) (l : List Int) (e : Ending) (w' : World) : Prop := ∃ g cap, e = .returned (.slice (some ⟨g, 0, none⟩) l.length cap) ∧ OwnRow w.heap.size g l w' ∧ Below w.heap.size w w'
set_option maxHeartbeats 2000000 in
set_option maxRecDepth 100000 in
theorem clone_any (b off : Nat) (l : List Int) (c : Nat) (w : World) (h : Row w (some ⟨b, off, none⟩) l) (h0 : 1 ≤ l.length) (h64 : l.length ≤ 65536) :
    Calls Try.prog 27 #[.slice (some ⟨b, off, none⟩) l.length c] w (ClonePost w l) := by
  obtain ⟨i0, hi, hzz⟩ := Option.map_eq_some_iff.1 int_info'
  simp only [Prod.mk.injEq] at hzz
  obtain ⟨hz0, hz1, hz2⟩ := hzz
  have hcell : ∀ j, j < l.length → w.cell? ⟨b, off + j, none⟩ = some (.int .i64 (nth l j)) := fun j hj => by
    obtain ⟨g, o, hA, hc⟩ := h j hj
    simp only [Option.some.injEq, Addr.mk.injEq, and_true] at hA
    obtain ⟨rfl, rfl⟩ := hA
    exact hc
  replace hcell := Lib.hid hcell
  have q22 : ∀ (w : World) (a : Option Addr) (n c n' c' : Nat), (binOp .eql 30 (.slice a n c) (.slice none n' c')).run Try.prog w = .ok (.bool a.isNone) w := fun w a n c n' c' => Lib.run_eql_slice_nil w _ _ a n c n' c' Try.underlying30
  clear h
  go_enter Try.func27, Try.ntmps27
  go_wp2_with (at_builtin; refine wpList_append_own _ rfl _ _ 30 rfl w.heap.size 3 i0 (.int .i64 0) 1 8 Try.underlying30 hi hz0 hz1 hz2 rfl (by decide) _ _ _ rfl (World.ownsRow_made w #[] 0 (Nat.le_refl _) (Nat.zero_le _) rfl) ⟨b, off, none⟩ l.length c (vals l) rfl ?qc1 ?qc2 ?qc3 ?qc4 ?qc5 ?qc6 ?_)
  case qc1 => simp [vals]
  case qc2 =>
    intro j u hj
    have hjn : j < l.length := by
      have := (List.getElem?_eq_some_iff.1 hj).1
      simpa [vals] using this
    rw [Addr.add_lit]
    refine Lib.cell?_alloc_some _ ?_
    rw [hcell.out j hjn, ← vals_at l j hjn]
    exact hj
  case qc3 => intro u hu; obtain ⟨x, _, rfl⟩ := List.mem_map.1 hu; rfl
  case qc4 => unfold maxLen; omega
  case qc5 => omega
  case qc6 => simp
  intro v' w1 hown hgrow hnil
  go_wp2
  go_ret
  have hown' : w1.ownsRow w.heap.size 3 1 v' l.length (vals l) := by simpa using hown
  obtain ⟨g, cap, rfl, g1, g2⟩ := own_shape hown' (by omega)
  refine ⟨g, cap, rfl, ⟨g1, g2, fun x hx => own_int hown' x hx, fun x => hown'.frozenAt x⟩, ?_⟩
  exact ((Below.refl _ w).alloc (Nat.le_refl _) _).grown hgrow (by simp) (by intro k hk; simp [Value.ownBlock] at hk; omega)
end Go.Proofs.Ytoglemdooaiddaa
