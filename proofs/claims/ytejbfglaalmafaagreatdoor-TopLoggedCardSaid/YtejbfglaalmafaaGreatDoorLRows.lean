/- The store's map of rows: one row of one number; do, lay, take. -/
import Derived.Test.YtejbfglaalmafaaGreatDoorLSto
namespace Go.Proofs.YtejbfglaalmafaaGreatDoor
open Go.RowKit
open Go.Maps (Keyed)
set_option linter.unusedVariables false

/-- How a slice of one number reads: its block. -/
def rowElem : Value → Option (DataW Unit × List MemPlace)
  | .slice (some ⟨g, 0, none⟩) 1 _ => some (.lit (.int .i64 (g : Int)), [])
  | _ => none
theorem rowElem_inv {v : Value} {g : Nat} {ps : List MemPlace} (h : rowElem v = some (.lit (.int .i64 (g : Int)), ps)) : ∃ c, v = .slice (some ⟨g, 0, none⟩) 1 c := by
  unfold rowElem at h
  split at h
  · simp only [Option.some.injEq, Prod.mk.injEq, DataW.lit.injEq, Lit.int.injEq, true_and] at h
    have e := Int.ofNat.inj h.1
    rw [← e]
    exact ⟨_, rfl⟩
  · simp at h
def RMap (w : World) (b n : Nat) (D : DataW Unit) : Prop := w.ownsMap Tryz.prog 3 rowElem b n D
def oneK : Lit := .int .i64 1
theorem one_key : keyOf Tryz.prog 3 (.int .i64 1) = some oneK := Maps.keyOf_int_mk Tryz.underlying3 (by decide)
theorem int_law : Keyed Tryz.prog 3 := Maps.int_keyed Tryz.underlying3
theorem zero_ints (w : World) : (zeroValue 24).run Tryz.prog w = .ok (.slice none 0 0) w := by kernel_rfl
theorem row_put {w : World} {b n g c : Nat} {D : DataW Unit} (h : RMap w b n D) (hn : n ≤ 1000000) :
    ∃ w', (Instr.mapUpdate 129 (.map (some b)) (.int .i64 1) (.slice (some ⟨g, 0, none⟩) 1 c)).run Tryz.prog w = .ok () w' ∧ RMap w' b (n + 1) (D.put oneK (.lit (.int .i64 (g : Int)))) ∧ w.grownBy w' (some b) :=
  World.ownsMap.update h int_law Tryz.underlying129 (by simp only [maxLen]; omega) one_key (d := .lit (.int .i64 (g : Int))) (ps := []) rfl
theorem row_there {w : World} {b n g : Nat} {D : DataW Unit} (h : RMap w b n D) (hat : D.atKey oneK .nil = .lit (.int .i64 (g : Int))) :
    ∃ c, (Instr.lookup 129 (.map (some b)) (.int .i64 1) true).run Tryz.prog w = .ok (.tuple #[.slice (some ⟨g, 0, none⟩) 1 c, .bool true]) w := by
  obtain ⟨es, clock, hb, F, _, rfl⟩ := h
  rcases Maps.fit_look true int_law Tryz.underlying129 (zero_ints w) hb F one_key with ⟨hrun, _, hn⟩ | ⟨e0, y, _, _, hrun, hRv, hy, _⟩
  · have h1 := hn .nil
    rw [hat] at h1
    simp at h1
  · have h1 := hy .nil
    rw [hat] at h1
    obtain ⟨c, hv⟩ := rowElem_inv (v := e0.val) (g := g) (ps := y.2) (by rw [hRv, h1])
    rw [hv] at hrun
    exact ⟨c, hrun⟩
theorem row_not {w : World} {b n : Nat} {D : DataW Unit} (h : RMap w b n D) (hat : D.atKey oneK .nil = .nil) :
    (Instr.lookup 129 (.map (some b)) (.int .i64 1) true).run Tryz.prog w = .ok (.tuple #[.slice none 0 0, .bool false]) w := by
  obtain ⟨es, clock, hb, F, _, rfl⟩ := h
  rcases Maps.fit_look true int_law Tryz.underlying129 (zero_ints w) hb F one_key with ⟨hrun, _, hn⟩ | ⟨e0, y, _, _, hrun, hRv, hy, _⟩
  · exact hrun
  · have h1 := hy .nil
    rw [hat] at h1
    exfalso
    unfold rowElem at hRv
    split at hRv
    · simp only [Option.some.injEq] at hRv
      rw [← hRv] at h1
      simp at h1
    · simp at hRv
def SDoP (w : World) (rm n g : Nat) (D : DataW Unit) (e : Ending) (w' : World) : Prop := e = .returned (.tuple #[]) ∧ RMap w' rm (n + 1) (D.put oneK (.lit (.int .i64 (g : Int)))) ∧ w.grownBy w' (some rm)
set_option maxRecDepth 100000 in
set_option maxHeartbeats 4000000 in
theorem sdo_ok {w : World} {st dk lg rm n g c : Nat} {first safe : Int} {ch : Value} {D : DataW Unit} (h : Blk w st 131 (stoV dk lg rm first safe ch)) (hm : RMap w rm n D) (hn : n ≤ 1000000) :
    Calls Tryz.prog 69 #[.pointer (some ⟨st, 0, none⟩), .agg #[.int .i64 1, .int .i64 1, .slice (some ⟨g, 0, none⟩) 1 c]] w (SDoP w rm n g D) := by
  have hb0 := Blk.new w 39 #[.int .i64 1, .int .i64 1, .slice (some ⟨g, 0, none⟩) 1 c]
  have h1 := h.alloc (.cells #[.int .i64 1, .int .i64 1, .slice (some ⟨g, 0, none⟩) 1 c] 39)
  obtain ⟨w2, hrun, hm2, hg2⟩ := row_put (w := (w.alloc (.cells #[.int .i64 1, .int .i64 1, .slice (some ⟨g, 0, none⟩) 1 c] 39)).drew) (g := g) (c := c) (World.ownsMap.drew (World.ownsMap.alloc hm _)) hn
  have hg3 : w.grownBy w2 (some rm) := grown2 (grown_drawn (grown_new_alloc (grown_refl w (some rm)) (.cells #[.int .i64 1, .int .i64 1, .slice (some ⟨g, 0, none⟩) 1 c] 39)) ⟨1, rfl⟩) hg2
  have hfin : SDoP w rm n g D (.returned (.tuple #[])) w2 := ⟨rfl, hm2, hg3⟩
  replace hfin := Lib.hid hfin
  clear hm2 hg2 hg3 hm hn
  go_enter Tryz.func69, Tryz.ntmps69
  go_upto_region 1 with fail
  generalize w.alloc (.cells #[.int .i64 1, .int .i64 1, .slice (some ⟨g, 0, none⟩) 1 c] 39) = w1 at *
  have b0 := hb0.cell 0
  have b1 := hb0.cell 1
  have b2 := hb0.cell 2
  have s3 : w1.cell? ⟨st, 3, none⟩ = some (.map (some rm)) := h1.cell 3
  go_upto_region 3 with fail
  go_region
  go_wp2_with fail
  refine bodyPost_end (results_none rfl _ _ _) rfl ?_
  exact hfin.out
end Go.Proofs.YtejbfglaalmafaaGreatDoor
