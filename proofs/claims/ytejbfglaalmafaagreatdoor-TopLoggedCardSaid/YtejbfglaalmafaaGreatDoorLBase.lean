/- Words on memory, numbers in a row, what the call itself makes; the contract of vec.Check. -/
import Derived.WalkKit
import Derived.KernelRfl
import Derived.Lib.Hide
import Derived.Deep.Draws
import Derived.Test.YtejbfglaalmafaaGreatDoorProg
import Derived.Deep.LoopGhost
import Derived.Deep.QuietTactic
import Derived.BigQuiet
import Derived.Maps.AppendAt
import Derived.Laws.OwnMore
import Derived.OwnWalk
namespace Go.Proofs.YtejbfglaalmafaaGreatDoor
open Go.RowKit

/-- A row of whole numbers as cells. -/
def ints (l : List Int) : Array Value := (l.map fun x => Value.int .i64 x).toArray
theorem ints_size (l : List Int) : (ints l).size = l.length := by simp [ints]
theorem ints_at (l : List Int) (i : Nat) (h : i < l.length) : (ints l)[i]? = some (.int .i64 (l.getD i 0)) := by
  simp [ints, h]
theorem ints_set (l : List Int) (i : Nat) (x : Int) : (ints l).setIfInBounds i (.int .i64 x) = ints (l.set i x) := by
  simp [ints, List.map_set]
theorem ints_made (n : Nat) : madeCells #[.int .i64 0] n = ints (List.replicate n 0) := by
  apply Array.ext'
  rw [toList_madeCells_one]
  simp [ints]

/-- Block g holds just the cells cs, none of them frozen. -/
def Blk (w : World) (g : Nat) (t : TypeId) (cs : Array Value) : Prop := w.heap[g]? = some (.cells cs t (0, 0))
section
variable {w w' : World} {g : Nat} {t : TypeId} {cs : Array Value}
theorem Blk.lt (h : Blk w g t cs) : g < w.heap.size := (Array.getElem?_eq_some_iff.1 h).1
theorem Blk.cell (h : Blk w g t cs) (i : Nat) : w.cell? ⟨g, i, none⟩ = cs[i]? := cell_of_row w g i cs t (0, 0) h
theorem Blk.frozen (h : Blk w g t cs) (i : Nat) : w.frozen? ⟨g, i, none⟩ = false := by
  unfold Blk at h
  simp [World.frozen?, h]
theorem Blk.int (l : List Int) (h : Blk w g t (ints l)) (i : Nat) (hi : i < l.length) : w.cell? ⟨g, i, none⟩ = some (.int .i64 (l.getD i 0)) := (h.cell i).trans (ints_at l i hi)
theorem Blk.new (w : World) (t : TypeId) (cs : Array Value) : Blk (w.alloc (.cells cs t)) w.heap.size t cs := heap_alloc_new w _
theorem Blk.drew (h : Blk w g t cs) : Blk w.drew g t cs := h
theorem Blk.alloc (h : Blk w g t cs) (o : Obj) : Blk (w.alloc o) g t cs := (Below.heap_alloc w o g h.lt).trans h
theorem Blk.set_ (h : Blk w g t cs) (i : Nat) (u : Value) : Blk (w.setCell ⟨g, i, none⟩ u) g t (cs.setIfInBounds i u) := by
  unfold Blk at h ⊢
  simp [World.setCell, Array.getElem?_modify, h]
theorem Blk.setInt {l : List Int} (h : Blk w g t (ints l)) (i : Nat) (x : Int) : Blk (w.setCell ⟨g, i, none⟩ (.int .i64 x)) g t (ints (l.set i x)) := by
  rw [← ints_set]; exact h.set_ i _
theorem Blk.far (h : Blk w g t cs) {p : Addr} (hp : g ≠ p.block) (u : Value) : Blk (w.setCell p u) g t cs := (Below.heap_setCell w p u g hp).trans h
theorem Blk.below {B : Nat} (h : Blk w g t cs) (hb : Below B w w') (hg : g < B) : Blk w' g t cs := (hb.block g hg).trans h
end

theorem run_make_ints {P : Program} (t e : TypeId) (ht : P.underlying t = some (.slice e)) (hi : (P.info? e).map (fun i => (i.zero, i.size, i.bytes)) = some (some (.int .i64 0), 1, 8)) (n : Nat) (hn : n ≤ 1000000000000) (w : World) :
    (Instr.makeSlice t (.int .i64 (n : Int)) (.int .i64 (n : Int))).run P w = .ok (.slice (some ⟨w.heap.size, 0, none⟩) n n) (w.alloc (.cells (ints (List.replicate n 0)) e)) := by
  obtain ⟨i0, h0, hz⟩ := Option.map_eq_some_iff.1 hi
  simp only [Prod.mk.injEq] at hz
  obtain ⟨hz0, hz1, hz2⟩ := hz
  have h := run_make (P := P) w t e i0 _ ht h0 hz0 .i64 .i64 (n : Int) (n : Int) (by omega) (Int.le_refl _) (by rw [hz2]; omega) (by omega)
  rw [h, hz1, Nat.mul_one, Int.toNat_natCast]
  show Result.ok _ (w.alloc (.cells (madeCells #[.int .i64 0] n) e)) = _
  rw [ints_made]

theorem keepAlloc_set {w : World} {g : Nat} {o : Obj} {i : Nat} {u : Value} (h : g < w.heap.size) : (w.alloc o).setCell ⟨g, i, none⟩ u = (w.setCell ⟨g, i, none⟩ u).alloc o := by
  unfold World.alloc World.setCell
  congr 1
  apply Array.ext
  · simp
  · intro j h1 h2
    by_cases hj : j < w.heap.size
    · simp [Array.getElem_modify, Array.getElem_push, hj]
    · have : j ≠ g := by omega
      simp [Array.getElem_modify, Array.getElem_push, hj, Ne.symm this]
theorem newBlk_set {w : World} {cs : Array Value} {t : TypeId} {i : Nat} {u : Value} : (w.alloc (.cells cs t)).setCell ⟨w.heap.size, i, none⟩ u = w.alloc (.cells (cs.setIfInBounds i u) t) := by
  unfold World.alloc World.setCell
  congr 1
  apply Array.ext
  · simp
  · intro j h1 h2
    by_cases hj : j < w.heap.size
    · have : j ≠ w.heap.size := by omega
      simp [Array.getElem_modify, Array.getElem_push, hj, Ne.symm this]
    · have : j = w.heap.size := by simp at h1; omega
      subst this
      simp [Array.getElem_modify, Array.getElem_push]

theorem below_setCell_again {w W : World} {a : Addr} {u v : Value} {B : Nat} (h : Below B (w.setCell a u) W) : Below B (w.setCell a v) (W.setCell a v) := by
  refine ⟨h.os, h.tape, h.output, by simpa [World.setCell] using h.size, fun k hk => ?_⟩
  have h1 := h.block k hk
  by_cases e : k = a.block
  · subst e
    simp only [World.setCell, Array.getElem?_modify] at h1 ⊢
    simp only [if_true] at h1 ⊢
    rw [h1]
    cases w.heap[a.block]? with
    | none => rfl
    | some x =>
      simp only [Option.map_some]
      congr 1
      cases x <;> simp
      by_cases hs : a.spot.isSome = true <;> simp [hs]
  · rw [Below.heap_setCell _ _ _ _ e, h1, Below.heap_setCell _ _ _ _ e, Below.heap_setCell _ _ _ _ e]

/-- To store what is there turns nothing. -/
theorem setCell_id {w : World} {b o : Nat} {v : Value} (h : w.cell? ⟨b, o, none⟩ = some v) : w.setCell ⟨b, o, none⟩ v = w := by
  obtain ⟨heap, tape, drawn, os, output⟩ := w
  unfold World.setCell
  congr 1
  apply Array.ext
  · simp
  · intro j h1 h2
    simp only [Array.getElem_modify]
    split
    · rename_i e
      subst e
      unfold World.cell? at h
      simp only [Array.getElem?_eq_getElem h2] at h
      revert h
      generalize heap[b] = x
      cases x with
      | cells c t f =>
        simp
        intro hc
        obtain ⟨hlt, hcv⟩ := Array.getElem?_eq_some_iff.1 hc
        apply Array.ext
        · simp
        · intro i hi1 hi2
          rw [Array.getElem_setIfInBounds]
          split
          · rename_i e; subst e; exact hcv.symm
          · rfl
      | _ => simp
    · rfl

/-- The number at a place; a word that the walk's simp does not look into. -/
def nth (l : List Int) (i : Nat) : Int := l.getD i 0
theorem Blk.nth {w : World} {g : Nat} {t : TypeId} {l : List Int} (h : Blk w g t (ints l)) (i : Nat) (hi : i < l.length) : w.cell? ⟨g, i, none⟩ = some (.int .i64 (nth l i)) := h.int l i hi
/-- A slice (nil, empty or other) that reads as a list of whole numbers. -/
def Row (w : World) (A : Option Addr) (l : List Int) : Prop := ∀ j, j < l.length → ∃ g off, A = some ⟨g, off, none⟩ ∧ w.cell? ⟨g, off + j, none⟩ = some (.int .i64 (nth l j))
theorem Row.drewN {w : World} {A : Option Addr} {l : List Int} (h : Row w A l) (n : Nat) : Row (w.drewN n) A l := h
theorem Row.of_blk {w : World} {g : Nat} {t : TypeId} {l : List Int} (h : Blk w g t (ints l)) : Row w (some ⟨g, 0, none⟩) l := fun j hj => ⟨g, 0, rfl, by rw [Nat.zero_add]; exact h.nth j hj⟩
theorem Row.nil_ {w : World} {A : Option Addr} : Row w A [] := fun j hj => by simp at hj
/-- A cell that is there reads the same behind new memory. -/
theorem Row.keep {w w' : World} {A : Option Addr} {l : List Int} (h : Row w A l) (hk : ∀ a v, w.cell? a = some v → w'.cell? a = some v) : Row w' A l := fun j hj => by
  obtain ⟨g, off, hA, hc⟩ := h j hj
  exact ⟨g, off, hA, hk _ _ hc⟩
theorem below_cell {w w' : World} (h : Below w.heap.size w w') {a : Addr} {v : Value} (hc : w.cell? a = some v) : w'.cell? a = some v := (h.cell (World.block_lt_of_cell? w a hc)).trans hc
theorem Row.below {w w' : World} {A : Option Addr} {l : List Int} (h : Row w A l) (hb : Below w.heap.size w w') : Row w' A l := h.keep fun _ _ hc => below_cell hb hc
/-- The world is the old one, some orders having been drawn. -/
def Drawn (w w' : World) : Prop := ∃ n, w' = w.drewN n
theorem Drawn.refl (w : World) : Drawn w w := ⟨0, rfl⟩
theorem Drawn.more {w w' : World} (h : Drawn w w') (n : Nat) : Drawn w (w'.drewN n) := by
  obtain ⟨m, rfl⟩ := h
  exact ⟨m + n, World.drewN_drewN ..⟩
theorem Drawn.one {w w' : World} (h : Drawn w w') : Drawn w w'.drew := h.more 1
theorem Drawn.below {w w' : World} (h : Drawn w w') (B : Nat) : Below B w w' := by
  obtain ⟨n, rfl⟩ := h
  exact ⟨rfl, rfl, rfl, Nat.le_refl _, fun _ _ => rfl⟩

theorem Blk.grown {w w' : World} {g : Nat} {t : TypeId} {cs : Array Value} {row : Option Nat} (h : Blk w g t cs) (hb : w.grownBy w' row) (hg : some g ≠ row) : Blk w' g t cs := (hb.block g h.lt hg).trans h
theorem grown_set (w : World) (a : Addr) (u : Value) : w.grownBy (w.setCell a u) (some a.block) := ⟨rfl, rfl, rfl, by simp [World.setCell], fun i _ hne => Below.heap_setCell w a u i (fun e => hne (by rw [e]))⟩
theorem grown_alloc (w : World) (o : Obj) : w.grownBy (w.alloc o) none := ⟨rfl, rfl, rfl, by simp, fun i hi _ => Below.heap_alloc w o i hi⟩
theorem below_of_grown {w0 w w' : World} {row : Option Nat} (h : Below w0.heap.size w0 w) (hg : w.grownBy w' row) (hr : ∀ k, row = some k → w0.heap.size ≤ k) : Below w0.heap.size w0 w' := h.grown hg h.size hr

/-! ### A row of bools -/
def bools (l : List Bool) : Array Value := (l.map fun x => Value.bool x).toArray
theorem bools_at (l : List Bool) (i : Nat) (b : Bool) (h : l[i]? = some b) : (bools l)[i]? = some (.bool b) := by
  simp [bools, h]
theorem bools_set (l : List Bool) (i : Nat) (x : Bool) : (bools l).setIfInBounds i (.bool x) = bools (l.set i x) := by
  simp [bools, List.map_set]
theorem run_make_bools {P : Program} (t e : TypeId) (ht : P.underlying t = some (.slice e)) (hi : (P.info? e).map (fun i => (i.zero, i.size, i.bytes)) = some (some (.bool false), 1, 1)) (n : Nat) (hn : n ≤ 1000000000000) (w : World) :
    (Instr.makeSlice t (.int .i64 (n : Int)) (.int .i64 (n : Int))).run P w = .ok (.slice (some ⟨w.heap.size, 0, none⟩) n n) (w.alloc (.cells (bools (List.replicate n false)) e)) := by
  obtain ⟨i0, h0, hz⟩ := Option.map_eq_some_iff.1 hi
  simp only [Prod.mk.injEq] at hz
  obtain ⟨hz0, hz1, hz2⟩ := hz
  have h := run_make (P := P) w t e i0 _ ht h0 hz0 .i64 .i64 (n : Int) (n : Int) (by omega) (Int.le_refl _) (by rw [hz2]; omega) (by omega)
  rw [h, hz1, Nat.mul_one, Int.toNat_natCast]
  show Result.ok _ (w.alloc (.cells (madeCells #[.bool false] n) e)) = _
  congr 3
  apply Array.ext'
  rw [toList_madeCells_one]
  simp [bools]

theorem Blk.drawn {w w' : World} {g : Nat} {t : TypeId} {cs : Array Value} (h : Blk w g t cs) (hd : Drawn w w') : Blk w' g t cs := by
  obtain ⟨n, rfl⟩ := hd
  exact h
theorem Blk.bool {w : World} {g : Nat} {t : TypeId} {l : List Bool} (h : Blk w g t (bools l)) {i : Nat} {b : Bool} (hb : l[i]? = some b) : w.cell? ⟨g, i, none⟩ = some (.bool b) := (h.cell i).trans (bools_at l i b hb)
theorem Blk.setBool {w : World} {g : Nat} {t : TypeId} {l : List Bool} (h : Blk w g t (bools l)) (i : Nat) (x : Bool) : Blk (w.setCell ⟨g, i, none⟩ (.bool x)) g t (bools (l.set i x)) := by
  rw [← bools_set]; exact h.set_ i _

/-- A store into a block that is new since w. -/
theorem grown_new_set {w w' : World} {row : Option Nat} (h : w.grownBy w' row) {a : Addr} (ha : w.heap.size ≤ a.block) (u : Value) : w.grownBy (w'.setCell a u) row :=
  ⟨h.os, h.tape, h.output, by simpa [World.setCell] using h.size, fun i hi hne => (Below.heap_setCell w' a u i (by omega)).trans (h.block i hi hne)⟩
theorem grown_new_alloc {w w' : World} {row : Option Nat} (h : w.grownBy w' row) (o : Obj) : w.grownBy (w'.alloc o) row :=
  ⟨h.os, h.tape, h.output, Nat.le_trans h.size (by simp), fun i hi hne => (Below.heap_alloc w' o i (Nat.lt_of_lt_of_le hi h.size)).trans (h.block i hi hne)⟩
theorem grown_drawn {w w' w'' : World} {row : Option Nat} (h : w.grownBy w' row) (hd : Drawn w' w'') : w.grownBy w'' row := by
  obtain ⟨n, rfl⟩ := hd
  exact ⟨h.os, h.tape, h.output, h.size, h.block⟩
theorem grown_refl (w : World) (row : Option Nat) : w.grownBy w row := ⟨rfl, rfl, rfl, Nat.le_refl _, fun _ _ _ => rfl⟩
theorem grown_of_below {w w' : World} (h : Below w.heap.size w w') (row : Option Nat) : w.grownBy w' row := ⟨h.os, h.tape, h.output, h.size, fun i hi _ => h.block i hi⟩

end Go.Proofs.YtejbfglaalmafaaGreatDoor

namespace Go.Proofs.YtejbfglaalmafaaGreatDoor
open Go.RowKit

def CoordTo (l : List Int) (n : Nat) : Prop := ∀ j, j < n → -2147483647 ≤ nth l j ∧ nth l j ≤ 2147483647
theorem CoordTo.succ {l : List Int} {n : Nat} (h : CoordTo l n) (h0 : -2147483647 ≤ nth l n) (h1 : nth l n ≤ 2147483647) : CoordTo l (n + 1) := fun j hj => by
  by_cases e : j = n
  · subst e; exact ⟨h0, h1⟩
  · exact h j (by omega)
instance (l : List Int) (n : Nat) : Decidable (CoordTo l n) := by unfold CoordTo; infer_instance
/-- The error of a vector in a dimension. -/
def vecE (l : List Int) (d : Int) : Int := if d < 1 ∨ 64 < d ∨ (l.length : Int) ≠ d then 30 else if CoordTo l l.length then 0 else 31

def dimB (n : Int) : Bool := decide (1 ≤ n) && decide (n ≤ 64)
theorem dim_any (n : Int) (w : World) : Calls Tryz.prog 84 #[.int .i64 n] w fun e w' => e = .returned (.bool (dimB n)) ∧ w = w' := by
  by_cases h1 : 1 ≤ n
  · have hv : dimB n = decide (n ≤ 64) := by simp [dimB, h1]
    rw [hv]
    go_enter Tryz.func84, Tryz.ntmps84
    go_wp2
    go_ret
    exact ⟨rfl, rfl⟩
  · have hv : dimB n = false := by simp [dimB, h1]
    rw [hv]
    have h2 : n < 1 := by omega
    go_enter Tryz.func84, Tryz.ntmps84
    go_wp2
    go_ret
    exact ⟨rfl, rfl⟩

set_option maxHeartbeats 1000000 in
theorem vec_go (A : Option Addr) (l : List Int) (c : Nat) (hd : 1 ≤ l.length) (hd2 : l.length ≤ 64) (w : World) (h : Row w A l) :
    Calls Tryz.prog 52 #[.slice A l.length c, .int .i64 (l.length : Int)] w fun e w' => e = .returned (.int .i64 (vecE l l.length)) ∧ w = w' := by
  have p1 : (1 : Int) ≤ (l.length : Int) := by omega
  have p2 : (l.length : Int) ≤ 64 := by omega
  have hB : dimB (l.length : Int) = true := by simp [dimB]; omega
  have hv : vecE l l.length = if CoordTo l l.length then 0 else 31 := by rw [vecE, if_neg (by omega)]
  replace hv := Lib.hid hv
  go_enter Tryz.func52, Tryz.ntmps52
  go_wp2_with (go_at_call 84; refine (dim_any _ _).mono ?_; rintro e w' ⟨rfl, rfl⟩; rw [hB])
  go_loopw [18] (fun i wr => wr = w ∧ ∃ k : Nat, k ≤ l.length ∧ i = .int .i64 (k : Int) ∧ CoordTo l k) (fun i _ => l.length - (intOf i).toNat)
  case atStart => exact ⟨rfl, 0, Nat.zero_le _, rfl, fun j hj => absurd hj (by omega)⟩
  case round =>
    obtain ⟨rfl, k, hk, rfl, hC⟩ := hrel
    by_cases hlt : k < l.length
    · obtain ⟨g, o, rfl, hc⟩ := h k hlt
      have q0 : (0 : Int) ≤ (k : Int) := by omega
      have q1 : (k : Int) < (l.length : Int) := by omega
      by_cases b1 : nth l k < -2147483647
      · have hn : ¬ CoordTo l l.length := fun hh => by have := hh k hlt; omega
        rw [if_neg hn] at hv
        clear hn
        go_wp2
        go_ret
        exact ⟨by rw [hv.out]; rfl, rfl⟩
      have b2 : -2147483647 ≤ nth l k := by omega
      clear b1
      by_cases b3 : 2147483647 < nth l k
      · have hn : ¬ CoordTo l l.length := fun hh => by have := hh k hlt; omega
        rw [if_neg hn] at hv
        clear hn
        go_wp2
        go_ret
        exact ⟨by rw [hv.out]; rfl, rfl⟩
      have b4 : nth l k ≤ 2147483647 := by omega
      have hC' := Lib.hid (hC.succ b2 b4)
      clear b3
      go_wp2
      exact ⟨⟨trivial, k + 1, by omega, by go_num, hC'.out⟩, by simp [intOf]; omega⟩
    · have hk' : k = l.length := by omega
      subst hk'
      rw [if_pos hC] at hv
      clear hC
      go_wp2
      go_ret
      exact ⟨by rw [hv.out]; rfl, rfl⟩

theorem vec_bad (A : Option Addr) (l : List Int) (c : Nat) (d : Int) (hd : dimB d = false ∨ (l.length : Int) ≠ d) (w : World) :
    Calls Tryz.prog 52 #[.slice A l.length c, .int .i64 d] w fun e w' => e = .returned (.int .i64 30) ∧ w = w' := by
  by_cases hB : dimB d = false
  · clear hd
    go_enter Tryz.func52, Tryz.ntmps52
    go_wp2_with (go_at_call 84; refine (dim_any _ _).mono ?_; rintro e w' ⟨rfl, rfl⟩; rw [hB])
    go_ret
    exact ⟨rfl, rfl⟩
  · have hB' : dimB d = true := by simpa using hB
    have hne : ((l.length : Int) != d) = true := by rcases hd with h | h; exact absurd h hB; simpa using h
    clear hd hB
    go_enter Tryz.func52, Tryz.ntmps52
    go_wp2_with (go_at_call 84; refine (dim_any _ _).mono ?_; rintro e w' ⟨rfl, rfl⟩; rw [hB'])
    go_ret
    exact ⟨rfl, rfl⟩

theorem vec_any (A : Option Addr) (l : List Int) (c : Nat) (d : Int) (w : World) (h : Row w A l) :
    Calls Tryz.prog 52 #[.slice A l.length c, .int .i64 d] w fun e w' => e = .returned (.int .i64 (vecE l d)) ∧ w = w' := by
  by_cases hd : d < 1 ∨ 64 < d ∨ (l.length : Int) ≠ d
  · have hv : vecE l d = 30 := by rw [vecE, if_pos hd]
    rw [hv]
    refine vec_bad A l c d ?_ w
    by_cases hne : (l.length : Int) ≠ d
    · exact .inr hne
    · exact .inl (by simp [dimB]; omega)
  · obtain rfl : d = (l.length : Int) := by omega
    exact vec_go A l c (by omega) (by omega) w h

end Go.Proofs.YtejbfglaalmafaaGreatDoor

namespace Go.Proofs.YtejbfglaalmafaaGreatDoor

/-- The state behind a draw. -/
def adv (n : Int) : Int := IntKind.u64.wrap (n + 11400714819323198485)
def mix1 (s : Int) : Int := IntKind.u64.wrap (bits .xor .u64 s (s / 1073741824) * 13787848793156543929)
def mix2 (s : Int) : Int := IntKind.u64.wrap (bits .xor .u64 s (s / 134217728) * 10723151780598845931)
/-- The number that a state tells. -/
def mix (s : Int) : Int := bits .xor .u64 (mix2 (mix1 s)) (mix2 (mix1 s) / 2147483648)
/-- The number drawn from a state. -/
def draw (n : Int) : Int := mix (adv n)

theorem wrap_u64_range (n : Int) : 0 ≤ IntKind.u64.wrap n ∧ IntKind.u64.wrap n ≤ 18446744073709551615 := by
  rw [IntKind.wrap_u64]; omega
theorem adv_range (n : Int) : 0 ≤ adv n ∧ adv n ≤ 18446744073709551615 := wrap_u64_range _
theorem bits_u64_range (op : BinOp) (a b : Int) : 0 ≤ bits op .u64 a b ∧ bits op .u64 a b ≤ 18446744073709551615 := by
  unfold bits
  split <;> exact wrap_u64_range _
theorem draw_range (n : Int) : 0 ≤ draw n ∧ draw n ≤ 18446744073709551615 := by unfold draw mix; exact bits_u64_range _ _ _

/-- The numbers at two places change places. -/
def swapL (l : List Int) (i k : Nat) : List Int := (l.set i (l.getD k 0)).set k (l.getD i 0)
theorem swapL_length (l : List Int) (i k : Nat) : (swapL l i k).length = l.length := by simp [swapL]
/-- The exchanges from place i down to place 1; the state behind them. -/
def permLoop : Nat → Int → List Int → List Int × Int
  | 0, s, l => (l, s)
  | i + 1, s, l => permLoop i (adv s) (swapL l (i + 1) (draw s % ((i : Int) + 2)).toNat)
theorem permLoop_step (j : Int) (h : 1 ≤ j) (s : Int) (l : List Int) : permLoop j.toNat s l = permLoop (j - 1).toNat (adv s) (swapL l j.toNat (draw s % (j + 1)).toNat) := by
  obtain ⟨m, rfl⟩ : ∃ m : Nat, j = (m : Int) + 1 := ⟨(j - 1).toNat, by omega⟩
  rw [show ((m : Int) + 1).toNat = m + 1 by omega, show ((m : Int) + 1 - 1).toNat = m by omega, permLoop]
  rw [show ((m : Int) + 1 + 1) = (m : Int) + 2 by omega]
def iota (n : Nat) : List Int := (List.range n).map fun (i : Nat) => (i : Int)
theorem iota_length (n : Nat) : (iota n).length = n := by simp [iota]
/-- The permutation of n that a state tells, and the state behind it. -/
def permOf (s : Int) (n : Nat) : List Int × Int := permLoop (n - 1) s (iota n)
theorem permLoop_length (i : Nat) : ∀ (s : Int) (l : List Int), (permLoop i s l).1.length = l.length := by
  induction i with
  | zero => intro s l; rfl
  | succ i ih => intro s l; rw [permLoop, ih, swapL_length]
theorem permOf_length (s : Int) (n : Nat) : (permOf s n).1.length = n := by rw [permOf, permLoop_length, iota_length]
/-- The first k numbers stand, noughts behind them. -/
def iotaTo (k n : Nat) : List Int := (List.range n).map fun (j : Nat) => if j < k then (j : Int) else 0
theorem iotaTo_length (k n : Nat) : (iotaTo k n).length = n := by simp [iotaTo]
theorem iotaTo_zero (n : Nat) : iotaTo 0 n = List.replicate n 0 := by
  apply List.ext_getElem?
  intro i
  simp [iotaTo]
  by_cases h : i < n <;> simp [h]
theorem iotaTo_full (n : Nat) : iotaTo n n = iota n := by
  unfold iotaTo iota
  apply List.map_congr_left
  intro j hj
  simp at hj
  simp [hj]
theorem iotaTo_succ (k n : Nat) : (iotaTo k n).set k (k : Int) = iotaTo (k + 1) n := by
  apply List.ext_getElem?
  intro i
  simp only [iotaTo, List.getElem?_set, List.length_map, List.length_range]
  by_cases h : k = i
  · subst h
    by_cases hk : k < n <;> simp [hk]
  · by_cases hi : i < n
    · simp [h, hi]
      have : (i < k) ↔ (i < k + 1) := by omega
      simp [this]
    · simp [h, hi]

end Go.Proofs.YtejbfglaalmafaaGreatDoor

namespace Go.Proofs.YtejbfglaalmafaaGreatDoor

structure IsPerm (n : Nat) (l : List Int) : Prop where
  len : l.length = n
  lo : ∀ i, i < n → 0 ≤ nth l i
  hi : ∀ i, i < n → nth l i < n
  inj : ∀ i j, i < n → j < n → nth l i = nth l j → i = j

theorem nth_swapL (l : List Int) (i k x : Nat) (hi : i < l.length) (hk : k < l.length) : nth (swapL l i k) x = nth l (if x = k then i else if x = i then k else x) := by
  unfold nth swapL
  by_cases h1 : x = k
  · subst h1
    simp [hk, hi]
  · rw [if_neg h1, List.getD_eq_getElem?_getD, List.getElem?_set_ne (Ne.symm h1)]
    by_cases h2 : x = i
    · subst h2
      simp [hi]
    · rw [if_neg h2, List.getElem?_set_ne (Ne.symm h2), ← List.getD_eq_getElem?_getD]

theorem IsPerm.swap {n : Nat} {l : List Int} (h : IsPerm n l) {i k : Nat} (hi : i < n) (hk : k < n) : IsPerm n (swapL l i k) := by
  have hl := h.len
  have he := fun x => nth_swapL l i k x (by omega) (by omega)
  refine { len := by rw [swapL_length]; exact hl, lo := ?_, hi := ?_, inj := ?_ }
  · intro x hx
    rw [he]
    exact h.lo _ (by split <;> (try split) <;> omega)
  · intro x hx
    rw [he]
    exact h.hi _ (by split <;> (try split) <;> omega)
  · intro x y hx hy hxy
    rw [he, he] at hxy
    have := h.inj _ _ (by split <;> (try split) <;> omega) (by split <;> (try split) <;> omega) hxy
    revert this
    split <;> (try split) <;> (try split) <;> (try split) <;> omega

theorem IsPerm.loop {n : Nat} (i : Nat) : ∀ (s : Int) (l : List Int), i < n ∨ i = 0 → IsPerm n l → IsPerm n (permLoop i s l).1 := by
  induction i with
  | zero => intro s l _ h; exact h
  | succ i ih =>
    intro s l hi h
    have h2 := Int.emod_nonneg (draw s) (show ((i : Int) + 2) ≠ 0 by omega)
    have h3 := Int.emod_lt_of_pos (draw s) (show (0 : Int) < (i : Int) + 2 by omega)
    exact ih _ _ (by omega) (h.swap (by omega) (by omega))

theorem IsPerm.iota_ (n : Nat) : IsPerm n (iota n) := by
  have he : ∀ i, i < n → nth (iota n) i = i := fun i hi => by simp [nth, iota, hi]
  exact { len := iota_length n, lo := fun i hi => by rw [he i hi]; omega, hi := fun i hi => by rw [he i hi]; omega, inj := fun i j hi hj h => by rw [he i hi, he j hj] at h; omega }

theorem iota_snoc (n : Nat) : iota n ++ [(n : Int)] = iota (n + 1) := by simp [iota, List.range_succ]

theorem permOf_isPerm (s : Int) (n : Nat) : IsPerm n (permOf s n).1 := IsPerm.loop _ _ _ (by omega) (IsPerm.iota_ n)

/-- Which numbers have stood among the first i. -/
def seenTo (l : List Int) (i n : Nat) : List Bool := (List.range n).map fun (v : Nat) => (l.take i).any fun x => x == (v : Int)
theorem seenTo_length (l : List Int) (i n : Nat) : (seenTo l i n).length = n := by simp [seenTo]
theorem seenTo_zero (l : List Int) (n : Nat) : seenTo l 0 n = List.replicate n false := by
  apply List.ext_getElem?
  intro i
  simp [seenTo]
  by_cases h : i < n <;> simp [h]
theorem seenTo_new {n : Nat} {l : List Int} (h : IsPerm n l) {i : Nat} (hi : i < n) : (seenTo l i n)[(nth l i).toNat]? = some false := by
  have h1 := h.lo i hi
  have h2 := h.hi i hi
  have hlt : (nth l i).toNat < n := by omega
  simp only [seenTo, List.getElem?_map, List.getElem?_range hlt, Option.map_some]
  congr 1
  rw [List.any_eq_false]
  intro x hx
  obtain ⟨j, hj, rfl⟩ := List.mem_iff_getElem.1 hx
  simp only [List.length_take] at hj
  have hl := h.len
  intro he
  have he' : nth l j = nth l i := by
    simp only [beq_iff_eq] at he
    rw [show (((nth l i).toNat : Nat) : Int) = nth l i by omega] at he
    rw [← he]
    simp [nth, show j < l.length by omega]
  have := h.inj j i (by omega) hi he'
  omega
theorem seenTo_succ {n : Nat} {l : List Int} (h : IsPerm n l) {i : Nat} (hi : i < n) : (seenTo l i n).set (nth l i).toNat true = seenTo l (i + 1) n := by
  have h1 := h.lo i hi
  have h2 := h.hi i hi
  have hl := h.len
  have hil : i < l.length := by omega
  have hnth : nth l i = l[i] := by simp [nth, hil]
  apply List.ext_getElem?
  intro v
  by_cases hv : v < n
  · simp only [List.getElem?_set, seenTo, List.length_map, List.length_range, List.getElem?_map, List.getElem?_range hv, Option.map_some]
    rw [List.take_succ_eq_append_getElem hil, List.any_append]
    by_cases e : (nth l i).toNat = v
    · rw [if_pos e, if_pos (by omega)]
      have : l[i] = (v : Int) := by rw [← hnth]; omega
      simp [this]
    · rw [if_neg e]
      have : ¬ l[i] = (v : Int) := by rw [← hnth]; omega
      simp [this]
  · simp [seenTo, hv]

end Go.Proofs.YtejbfglaalmafaaGreatDoor

namespace Go.Proofs.YtejbfglaalmafaaGreatDoor
open Go.RowKit

/-- Row i of a list of rows. -/
def mrow (m : List (List Int)) (i : Nat) : List Int := m.getD i []
theorem mrow_mem (m : List (List Int)) (i : Nat) (h : i < m.length) : mrow m i ∈ m := by
  simp [mrow, h]
theorem mrow_map {n : Nat} (f : Nat → List Int) (i : Nat) (h : i < n) : mrow ((List.range n).map f) i = f i := by
  simp [mrow, h]
theorem mrow_ext {a b : List (List Int)} (hl : a.length = b.length) (h : ∀ i, i < a.length → mrow a i = mrow b i) : a = b := by
  apply List.ext_getElem hl
  intro i h1 h2
  have := h i h1
  simpa [mrow, h1, h2] using this
theorem nth_map {n : Nat} (f : Nat → Int) (i : Nat) (h : i < n) : nth ((List.range n).map f) i = f i := by
  simp [nth, h]
theorem nth_ext {a b : List Int} (hl : a.length = b.length) (h : ∀ i, i < a.length → nth a i = nth b i) : a = b := by
  apply List.ext_getElem hl
  intro i h1 h2
  have := h i h1
  simpa [nth, h1, h2] using this

/-- The square of a whole number. -/
def sqN (n : Int) : Nat := n.natAbs * n.natAbs
theorem sqN_zero : sqN 0 = 0 := rfl
def farTo (a b : List Int) : Nat → Nat
  | 0 => 0
  | n + 1 => farTo a b n + sqN (nth a n - nth b n)
/-- The distance of two vectors. -/
def farN (a b : List Int) : Nat := farTo a b a.length
/-- The nearest of the first n centres, and how far it is. -/
def nearTo (cs : List (List Int)) (v : List Int) : Nat → Nat × Nat
  | 0 => (0, 0)
  | n + 1 => if n = 0 ∨ farN (mrow cs n) v < (nearTo cs v n).2 then (n, farN (mrow cs n) v) else nearTo cs v n
def nearN (cs : List (List Int)) (v : List Int) : Nat × Nat := nearTo cs v cs.length

theorem nearTo_lt (cs : List (List Int)) (v : List Int) (n : Nat) : (nearTo cs v (n + 1)).1 < n + 1 := by
  induction n with
  | zero => simp [nearTo]
  | succ n ih =>
    rw [nearTo]
    split
    · simp
    · omega
theorem nearN_lt (cs : List (List Int)) (v : List Int) (h : 0 < cs.length) : (nearN cs v).1 < cs.length := by
  unfold nearN
  obtain ⟨n, hn⟩ : ∃ n, cs.length = n + 1 := ⟨cs.length - 1, by omega⟩
  rw [hn]
  exact nearTo_lt cs v n

/-- Coordinates are within what the document lets be. -/
def CoordAll (m : List (List Int)) (d : Nat) : Prop := ∀ i, i < m.length → (mrow m i).length = d ∧ CoordTo (mrow m i) d

theorem sqN_le {a b : Int} (ha : -2147483647 ≤ a ∧ a ≤ 2147483647) (hb : -2147483647 ≤ b ∧ b ≤ 2147483647) : sqN (a - b) ≤ 18446744056529682436 := by
  unfold sqN
  have h : (a - b).natAbs ≤ 4294967294 := by omega
  calc _ ≤ 4294967294 * 4294967294 := Nat.mul_le_mul h h
    _ = _ := by decide
theorem farTo_le {a b : List Int} (n : Nat) (ha : CoordTo a n) (hb : CoordTo b n) : farTo a b n ≤ n * 18446744056529682436 := by
  induction n with
  | zero => simp [farTo]
  | succ n ih =>
    rw [farTo]
    have h1 := ih (fun j hj => ha j (by omega)) (fun j hj => hb j (by omega))
    have h2 := sqN_le (ha n (by omega)) (hb n (by omega))
    omega

/-- How many vectors of the first i are nearest to centre c; and their sum at coordinate x. -/
def manyTo (cs l : List (List Int)) (c : Nat) : Nat → Nat
  | 0 => 0
  | i + 1 => manyTo cs l c i + if (nearN cs (mrow l i)).1 = c then 1 else 0
def sumTo (cs l : List (List Int)) (c x : Nat) : Nat → Int
  | 0 => 0
  | i + 1 => sumTo cs l c x i + if (nearN cs (mrow l i)).1 = c then nth (mrow l i) x else 0
theorem manyTo_le (cs l : List (List Int)) (c i : Nat) : manyTo cs l c i ≤ i := by
  induction i with
  | zero => simp [manyTo]
  | succ i ih => rw [manyTo]; split <;> omega

def meanRow (cs l : List (List Int)) (d c : Nat) : List Int := (List.range d).map fun x => sumTo cs l c x l.length / (manyTo cs l c l.length : Int)
/-- Centre c behind a round. -/
def nextRow (cs l : List (List Int)) (d c : Nat) : List Int := if manyTo cs l c l.length = 0 then mrow cs c else meanRow cs l d c
def nextN (cs l : List (List Int)) (d : Nat) : List (List Int) := (List.range cs.length).map (nextRow cs l d)
theorem nextN_length (cs l : List (List Int)) (d : Nat) : (nextN cs l d).length = cs.length := by simp [nextN]
theorem mrow_nextN (cs l : List (List Int)) (d c : Nat) (h : c < cs.length) : mrow (nextN cs l d) c = nextRow cs l d c := mrow_map _ _ h
def roundsN (l : List (List Int)) (d : Nat) : Nat → List (List Int) → List (List Int)
  | 0, cs => cs
  | r + 1, cs => nextN (roundsN l d r cs) l d
theorem roundsN_length (l : List (List Int)) (d r : Nat) (cs : List (List Int)) : (roundsN l d r cs).length = cs.length := by
  induction r with
  | zero => rfl
  | succ r ih => rw [roundsN, nextN_length, ih]
/-- The first centres: the vectors at the first places of an order. -/
def startN (l : List (List Int)) (ps : List Int) (k : Nat) : List (List Int) := (List.range k).map fun i => mrow l (nth ps i).toNat
theorem startN_length (l : List (List Int)) (ps : List Int) (k : Nat) : (startN l ps k).length = k := by simp [startN]
/-- The centres. -/
def trainN (l : List (List Int)) (k r : Nat) (s : Int) : List (List Int) := roundsN l (mrow l 0).length r (startN l (permOf s l.length).1 k)
theorem trainN_length (l : List (List Int)) (k r : Nat) (s : Int) : (trainN l k r s).length = k := by rw [trainN, roundsN_length, startN_length]

/-- The first error of some vectors. -/
def allE : List (List Int) → Int → Int
  | [], _ => 0
  | v :: l, d => if vecE v d = 0 then allE l d else vecE v d
def AllOk (l : List (List Int)) (d : Int) (n : Nat) : Prop := ∀ i, i < n → vecE (mrow l i) d = 0
theorem AllOk.succ {l : List (List Int)} {d : Int} {n : Nat} (h : AllOk l d n) (h1 : vecE (mrow l n) d = 0) : AllOk l d (n + 1) := fun i hi => by
  by_cases e : i = n
  · subst e; exact h1
  · exact h i (by omega)
theorem allE_first (l : List (List Int)) (d : Int) (k : Nat) (hk : k < l.length) (h : AllOk l d k) (hb : vecE (mrow l k) d ≠ 0) : allE l d = vecE (mrow l k) d := by
  induction l generalizing k with
  | nil => simp at hk
  | cons v l ih =>
    cases k with
    | zero => rw [allE]; exact if_neg hb
    | succ k =>
      rw [allE, if_pos (show vecE v d = 0 from h 0 (by omega))]
      exact ih k (by simpa using hk) (fun i hi => h (i + 1) (by omega)) hb
theorem allE_none (l : List (List Int)) (d : Int) (h : AllOk l d l.length) : allE l d = 0 := by
  induction l with
  | nil => rfl
  | cons v l ih =>
    rw [allE, if_pos (show vecE v d = 0 from h 0 (by simp))]
    exact ih (fun i hi => h (i + 1) (by simpa using hi))
theorem allE_ok (l : List (List Int)) (d : Int) (h : allE l d = 0) : AllOk l d l.length := by
  induction l with
  | nil => intro i hi; simp at hi
  | cons v l ih =>
    rw [allE] at h
    intro i hi
    by_cases hv : vecE v d = 0
    · rw [if_pos hv] at h
      cases i with
      | zero => exact hv
      | succ i => exact ih h i (by simpa using hi)
    · rw [if_neg hv] at h; exact absurd h hv
theorem vecE_ok {v : List Int} {d : Int} (h : vecE v d = 0) : 1 ≤ d ∧ d ≤ 64 ∧ (v.length : Int) = d ∧ CoordTo v v.length := by
  unfold vecE at h
  split at h
  · omega
  · split at h
    · rename_i h1 h2; exact ⟨by omega, by omega, by omega, h2⟩
    · omega
theorem vecE_zero {v : List Int} {d : Int} (h1 : 1 ≤ d) (h2 : d ≤ 64) (h3 : (v.length : Int) = d) (h4 : CoordTo v v.length) : vecE v d = 0 := by
  rw [vecE, if_neg (by omega), if_pos h4]
theorem AllOk.coords {l : List (List Int)} {d : Nat} (h : AllOk l d l.length) : CoordAll l d := fun i hi => by
  obtain ⟨_, _, h3, h4⟩ := vecE_ok (h i hi)
  have h3' : (mrow l i).length = d := by omega
  rw [h3'] at h4
  exact ⟨h3', h4⟩
theorem CoordAll.ok {l : List (List Int)} {d : Nat} (h1 : 1 ≤ d) (h2 : d ≤ 64) (h : CoordAll l d) : AllOk l d l.length := fun i hi => by
  obtain ⟨h3, h4⟩ := h i hi
  exact vecE_zero (by omega) (by omega) (by omega) (by rw [h3]; exact h4)

/-- The error of a training. -/
def trainE (l : List (List Int)) (k r : Int) : Int :=
  if k < 1 ∨ 64 < k ∨ r < 0 ∨ 20 < r then 1 else if 512 < l.length then 2 else if (l.length : Int) < k then 60 else allE l (mrow l 0).length
theorem trainE_ok {l : List (List Int)} {k r : Int} (h : trainE l k r = 0) :
    1 ≤ k ∧ k ≤ 64 ∧ 0 ≤ r ∧ r ≤ 20 ∧ l.length ≤ 512 ∧ k ≤ l.length ∧ AllOk l (mrow l 0).length l.length := by
  unfold trainE at h
  split at h
  · omega
  · split at h
    · omega
    · split at h
      · omega
      · exact ⟨by omega, by omega, by omega, by omega, by omega, by omega, allE_ok _ _ h⟩

/-- The error of centres. -/
def mayE (cs : List (List Int)) : Int := if cs.length = 0 ∨ 64 < cs.length then 1 else allE cs (mrow cs 0).length
theorem mayE_ok {cs : List (List Int)} (h : mayE cs = 0) : 1 ≤ cs.length ∧ cs.length ≤ 64 ∧ AllOk cs (mrow cs 0).length cs.length := by
  unfold mayE at h
  split at h
  · omega
  · exact ⟨by omega, by omega, allE_ok _ _ h⟩

/-! ### What a round keeps -/
theorem sumTo_bound {cs l : List (List Int)} {c x : Nat} {lo hi : Int} (i : Nat) (h : ∀ j, j < i → lo ≤ nth (mrow l j) x ∧ nth (mrow l j) x ≤ hi) :
    lo * (manyTo cs l c i : Int) ≤ sumTo cs l c x i ∧ sumTo cs l c x i ≤ hi * (manyTo cs l c i : Int) := by
  induction i with
  | zero => simp [sumTo, manyTo]
  | succ i ih =>
    obtain ⟨h1, h2⟩ := ih (fun j hj => h j (by omega))
    obtain ⟨h3, h4⟩ := h i (by omega)
    rw [sumTo, manyTo]
    split
    · rw [Int.natCast_add, Int.mul_add, Int.mul_add]
      simp only [Int.natCast_one, Int.mul_one]
      omega
    · simpa using ⟨h1, h2⟩
theorem mean_bound {cs l : List (List Int)} {c x : Nat} {lo hi : Int} (i : Nat) (h : ∀ j, j < i → lo ≤ nth (mrow l j) x ∧ nth (mrow l j) x ≤ hi) (hm : manyTo cs l c i ≠ 0) :
    lo ≤ sumTo cs l c x i / (manyTo cs l c i : Int) ∧ sumTo cs l c x i / (manyTo cs l c i : Int) ≤ hi := by
  obtain ⟨h1, h2⟩ := sumTo_bound (cs := cs) (c := c) i h
  have hp : (0 : Int) < (manyTo cs l c i : Int) := by omega
  exact ⟨(Int.le_ediv_iff_mul_le hp).2 h1, Int.ediv_le_of_le_mul hp h2⟩
theorem meanRow_length (cs l : List (List Int)) (d c : Nat) : (meanRow cs l d c).length = d := by simp [meanRow]

/-- Each row is as long as d, and each coordinate lies between bounds. -/
def Within (cs : List (List Int)) (d : Nat) (lo hi : Nat → Int) : Prop := ∀ c, c < cs.length → (mrow cs c).length = d ∧ ∀ x, x < d → lo x ≤ nth (mrow cs c) x ∧ nth (mrow cs c) x ≤ hi x
theorem Within.next {cs l : List (List Int)} {d : Nat} {lo hi : Nat → Int} (hl : Within l d lo hi) (h : Within cs d lo hi) : Within (nextN cs l d) d lo hi := fun c hc => by
  rw [nextN_length] at hc
  rw [mrow_nextN _ _ _ _ hc, nextRow]
  split
  · exact h c hc
  · rename_i hm
    refine ⟨meanRow_length _ _ _ _, fun x hx => ?_⟩
    rw [meanRow, nth_map _ _ hx]
    exact mean_bound _ (fun j hj => (hl j hj).2 x hx) hm
theorem Within.rounds {cs l : List (List Int)} {d : Nat} {lo hi : Nat → Int} (hl : Within l d lo hi) (h : Within cs d lo hi) (r : Nat) : Within (roundsN l d r cs) d lo hi := by
  induction r with
  | zero => exact h
  | succ r ih => exact Within.next hl ih
theorem perm_place {s : Int} {n i : Nat} (h : i < n) : 0 ≤ nth (permOf s n).1 i ∧ (nth (permOf s n).1 i).toNat < n := by
  have h1 := (permOf_isPerm s n).lo i h
  have h2 := (permOf_isPerm s n).hi i h
  omega
theorem Within.start {l : List (List Int)} {d : Nat} {lo hi : Nat → Int} (hl : Within l d lo hi) (s : Int) {k : Nat} (hk : k ≤ l.length) : Within (startN l (permOf s l.length).1 k) d lo hi := fun c hc => by
  rw [startN_length] at hc
  rw [startN, mrow_map _ _ hc]
  exact hl _ (perm_place (by omega)).2
theorem Within.train {l : List (List Int)} {lo hi : Nat → Int} (hl : Within l (mrow l 0).length lo hi) (s : Int) {k : Nat} (r : Nat) (hk : k ≤ l.length) : Within (trainN l k r s) (mrow l 0).length lo hi :=
  Within.rounds hl (Within.start hl s hk) r
theorem CoordAll.within {l : List (List Int)} {d : Nat} (h : CoordAll l d) : Within l d (fun _ => -2147483647) (fun _ => 2147483647) := fun c hc => ⟨(h c hc).1, fun x hx => (h c hc).2 x hx⟩
theorem Within.coords {l : List (List Int)} {d : Nat} (h : Within l d (fun _ => -2147483647) (fun _ => 2147483647)) : CoordAll l d := fun c hc => ⟨(h c hc).1, fun x hx => (h c hc).2 x hx⟩
end Go.Proofs.YtejbfglaalmafaaGreatDoor

namespace Go.Proofs.YtejbfglaalmafaaGreatDoor
open Go.RowKit

/-- A slice (nil or not) of slices that reads as a list of rows. -/
def Mat (w : World) (A : Option Addr) (m : List (List Int)) : Prop :=
  ∀ i, i < m.length → ∃ g off R c, A = some ⟨g, off, none⟩ ∧ w.cell? ⟨g, off + i, none⟩ = some (.slice R (mrow m i).length c) ∧ Row w R (mrow m i)
theorem Mat.keep {w w' : World} {A : Option Addr} {m : List (List Int)} (h : Mat w A m) (hk : ∀ a v, w.cell? a = some v → w'.cell? a = some v) : Mat w' A m := fun i hi => by
  obtain ⟨g, off, R, c, h1, h2, h3⟩ := h i hi
  exact ⟨g, off, R, c, h1, hk _ _ h2, h3.keep hk⟩
theorem Mat.below {w w' : World} {A : Option Addr} {m : List (List Int)} (h : Mat w A m) (hb : Below w.heap.size w w') : Mat w' A m := h.keep fun _ _ hc => below_cell hb hc
theorem Mat.nil_ {w : World} {A : Option Addr} : Mat w A [] := fun i hi => by simp at hi

/-- Rows in blocks of their own, at places from B on: all of it may be written. -/
structure Grid (w : World) (B gc : Nat) (G K : Nat → Nat) (m : List (List Int)) : Prop where
  lo : B ≤ gc
  lt : gc < w.heap.size
  top : ∀ i, i < m.length → w.cell? ⟨gc, i, none⟩ = some (.slice (some ⟨G i, 0, none⟩) (mrow m i).length (K i))
  free : ∀ i, w.frozen? ⟨gc, i, none⟩ = false
  new : ∀ i, i < m.length → B ≤ G i ∧ G i < w.heap.size ∧ G i ≠ gc
  inj : ∀ i j, i < m.length → j < m.length → G i = G j → i = j
  row : ∀ i, i < m.length → ∀ x, x < (mrow m i).length → w.cell? ⟨G i, x, none⟩ = some (.int .i64 (nth (mrow m i) x))
  rowFree : ∀ i, i < m.length → ∀ x, w.frozen? ⟨G i, x, none⟩ = false

theorem below_frozen {w w' : World} (h : Below w.heap.size w w') {a : Addr} (ha : a.block < w.heap.size) : w'.frozen? a = w.frozen? a := h.frozen ha
theorem Grid.below {w w' : World} {B gc : Nat} {G K : Nat → Nat} {m : List (List Int)} (h : Grid w B gc G K m) (hb : Below w.heap.size w w') : Grid w' B gc G K m :=
  { lo := h.lo, lt := Nat.lt_of_lt_of_le h.lt hb.size, top := fun i hi => below_cell hb (h.top i hi), free := fun i => (below_frozen hb h.lt).trans (h.free i)
    new := fun i hi => ⟨(h.new i hi).1, Nat.lt_of_lt_of_le (h.new i hi).2.1 hb.size, (h.new i hi).2.2⟩, inj := h.inj
    row := fun i hi x hx => below_cell hb (h.row i hi x hx), rowFree := fun i hi x => (below_frozen hb (h.new i hi).2.1).trans (h.rowFree i hi x) }
theorem Grid.mat {w : World} {B gc : Nat} {G K : Nat → Nat} {m : List (List Int)} (h : Grid w B gc G K m) : Mat w (some ⟨gc, 0, none⟩) m := fun i hi =>
  ⟨gc, 0, _, K i, rfl, by rw [Nat.zero_add]; exact h.top i hi, fun x hx => ⟨G i, 0, rfl, by rw [Nat.zero_add]; exact h.row i hi x hx⟩⟩
/-- A number is stored: row i's place x. -/
def put2 (m : List (List Int)) (i x : Nat) (v : Int) : List (List Int) := m.set i ((mrow m i).set x v)
theorem put2_length (m : List (List Int)) (i x : Nat) (v : Int) : (put2 m i x v).length = m.length := by simp [put2]
theorem mrow_put2 (m : List (List Int)) (i x : Nat) (v : Int) (j : Nat) (hi : i < m.length) : mrow (put2 m i x v) j = if j = i then (mrow m i).set x v else mrow m j := by
  unfold put2 mrow
  by_cases h : j = i
  · subst h; simp [hi]
  · rw [if_neg h, List.getD_eq_getElem?_getD, List.getElem?_set_ne (Ne.symm h), ← List.getD_eq_getElem?_getD]
theorem nth_set (l : List Int) (x : Nat) (v : Int) (y : Nat) (hx : x < l.length) : nth (l.set x v) y = if y = x then v else nth l y := by
  unfold nth
  by_cases h : y = x
  · subst h; simp [hx]
  · rw [if_neg h, List.getD_eq_getElem?_getD, List.getElem?_set_ne (Ne.symm h), ← List.getD_eq_getElem?_getD]
theorem mrow_put2_length (m : List (List Int)) (i x : Nat) (v : Int) (j : Nat) (hi : i < m.length) : (mrow (put2 m i x v) j).length = (mrow m j).length := by
  rw [mrow_put2 m i x v j hi]
  split
  · rename_i h; subst h; simp
  · rfl

theorem Grid.store {w : World} {B gc : Nat} {G K : Nat → Nat} {m : List (List Int)} (h : Grid w B gc G K m) {i x : Nat} (hi : i < m.length) (hx : x < (mrow m i).length) (v : Int) :
    Grid (w.setCell ⟨G i, x, none⟩ (.int .i64 v)) B gc G K (put2 m i x v) := by
  have hne : G i ≠ gc := (h.new i hi).2.2
  have hsz : (w.setCell ⟨G i, x, none⟩ (.int .i64 v)).heap.size = w.heap.size := by simp [World.setCell]
  refine { lo := h.lo, lt := by rw [hsz]; exact h.lt, top := ?_, free := fun j => by rw [World.frozen?_setCell]; exact h.free j, new := ?_, inj := ?_, row := ?_, rowFree := ?_ }
  · intro j hj
    rw [put2_length] at hj
    rw [mrow_put2_length _ _ _ _ _ hi, World.cell?_setCell_other _ _ _ _ (fun e => hne (by injection e))]
    exact h.top j hj
  · intro j hj
    rw [put2_length] at hj
    rw [hsz]
    exact h.new j hj
  · intro a b ha hb hab
    rw [put2_length] at ha hb
    exact h.inj a b ha hb hab
  · intro j hj y hy
    rw [put2_length] at hj
    rw [mrow_put2_length _ _ _ _ _ hi] at hy
    rw [mrow_put2 _ _ _ _ _ hi]
    by_cases hji : j = i
    · subst hji
      rw [if_pos rfl, nth_set _ _ _ _ hx]
      by_cases hyx : y = x
      · subst hyx
        rw [if_pos rfl]
        exact World.cell?_setCell_same' _ _ _ (by rw [h.row j hj y hy]; rfl)
      · rw [if_neg hyx, World.cell?_setCell_other _ _ _ _ (fun e => hyx (by injection e with _ e2; exact e2.symm))]
        exact h.row j hj y hy
    · rw [if_neg hji, World.cell?_setCell_other _ _ _ _ (fun e => hji (h.inj j i hj hi (by injection e with e1; exact e1.symm)))]
      exact h.row j hj y hy
  · intro j hj y
    rw [put2_length] at hj
    rw [World.frozen?_setCell]
    exact h.rowFree j hj y
/-- A store elsewhere. -/
theorem Grid.far {w : World} {B gc : Nat} {G K : Nat → Nat} {m : List (List Int)} (h : Grid w B gc G K m) {a : Addr} (ha : a.block ≠ gc) (ha2 : ∀ i, i < m.length → a.block ≠ G i) (v : Value) : Grid (w.setCell a v) B gc G K m := by
  have hsz : (w.setCell a v).heap.size = w.heap.size := by simp [World.setCell]
  exact { lo := h.lo, lt := by rw [hsz]; exact h.lt, top := fun i hi => by
            rw [World.cell?_setCell_other _ _ _ _ (fun e => ha (by rw [e]))]; exact h.top i hi
          free := fun j => by rw [World.frozen?_setCell]; exact h.free j
          new := fun i hi => by rw [hsz]; exact h.new i hi
          inj := h.inj
          row := fun i hi x hx => by rw [World.cell?_setCell_other _ _ _ _ (fun e => ha2 i hi (by rw [e]))]; exact h.row i hi x hx
          rowFree := fun i hi x => by rw [World.frozen?_setCell]; exact h.rowFree i hi x }
/-- One more row. -/
theorem Grid.snoc {w : World} {B gc : Nat} {G K : Nat → Nat} {m : List (List Int)} (h : Grid w B gc G K m) {g c : Nat} {r : List Int}
    (htop : w.cell? ⟨gc, m.length, none⟩ = some (.slice (some ⟨g, 0, none⟩) r.length c)) (hnew : B ≤ g ∧ g < w.heap.size ∧ g ≠ gc) (hinj : ∀ i, i < m.length → G i ≠ g)
    (hrow : ∀ x, x < r.length → w.cell? ⟨g, x, none⟩ = some (.int .i64 (nth r x))) (hfree : ∀ x, w.frozen? ⟨g, x, none⟩ = false) :
    Grid w B gc (fun i => if i < m.length then G i else g) (fun i => if i < m.length then K i else c) (m ++ [r]) := by
  have hr : ∀ i, i < m.length → mrow (m ++ [r]) i = mrow m i := fun i hi => by simp [mrow, List.getElem?_append_left hi]
  have hl : mrow (m ++ [r]) m.length = r := by simp [mrow]
  have hc : ∀ i, i < (m ++ [r]).length → i < m.length ∨ i = m.length := fun i hi => by simp at hi; omega
  refine { lo := h.lo, lt := h.lt, top := ?_, free := h.free, new := ?_, inj := ?_, row := ?_, rowFree := ?_ }
  · intro i hi
    rcases hc i hi with h1 | rfl
    · rw [hr i h1, if_pos h1, if_pos h1]; exact h.top i h1
    · rw [hl, if_neg (Nat.lt_irrefl _), if_neg (Nat.lt_irrefl _)]; exact htop
  · intro i hi
    rcases hc i hi with h1 | rfl
    · rw [if_pos h1]; exact h.new i h1
    · rw [if_neg (Nat.lt_irrefl _)]; exact hnew
  · intro i j hi hj he
    rcases hc i hi with h1 | rfl <;> rcases hc j hj with h2 | rfl
    · rw [if_pos h1, if_pos h2] at he; exact h.inj i j h1 h2 he
    · rw [if_pos h1, if_neg (Nat.lt_irrefl _)] at he; exact absurd he (hinj i h1)
    · rw [if_pos h2, if_neg (Nat.lt_irrefl _)] at he; exact absurd he.symm (hinj j h2)
    · rfl
  · intro i hi x hx
    rcases hc i hi with h1 | rfl
    · rw [hr i h1] at hx ⊢; rw [if_pos h1]; exact h.row i h1 x hx
    · rw [hl] at hx ⊢; rw [if_neg (Nat.lt_irrefl _)]; exact hrow x hx
  · intro i hi x
    rcases hc i hi with h1 | rfl
    · rw [if_pos h1]; exact h.rowFree i h1 x
    · rw [if_neg (Nat.lt_irrefl _)]; exact hfree x
theorem Grid.empty {w : World} {B gc : Nat} {G K : Nat → Nat} (h : B ≤ gc) (hl : gc < w.heap.size) (hf : ∀ i, w.frozen? ⟨gc, i, none⟩ = false) : Grid w B gc G K [] :=
  { lo := h, lt := hl, top := fun i hi => by simp at hi, free := hf, new := fun i hi => by simp at hi, inj := fun i j hi => by simp at hi, row := fun i hi => by simp at hi, rowFree := fun i hi => by simp at hi }
/-- A store into the outer slice, at a place behind the rows that stand. -/
theorem Grid.beyond {w : World} {B gc : Nat} {G K : Nat → Nat} {m : List (List Int)} (h : Grid w B gc G K m) {i : Nat} (hi : m.length ≤ i) (v : Value) : Grid (w.setCell ⟨gc, i, none⟩ v) B gc G K m := by
  have hsz : (w.setCell ⟨gc, i, none⟩ v).heap.size = w.heap.size := by simp [World.setCell]
  exact { lo := h.lo, lt := by rw [hsz]; exact h.lt, top := fun j hj => by
            rw [World.cell?_setCell_other _ _ _ _ (fun e => by injection e; omega)]; exact h.top j hj
          free := fun j => by rw [World.frozen?_setCell]; exact h.free j
          new := fun j hj => by rw [hsz]; exact h.new j hj
          inj := h.inj
          row := fun j hj x hx => by rw [World.cell?_setCell_other _ _ _ _ (fun e => (h.new j hj).2.2 (by injection e with e1; exact e1.symm))]; exact h.row j hj x hx
          rowFree := fun j hj x => by rw [World.frozen?_setCell]; exact h.rowFree j hj x }
end Go.Proofs.YtejbfglaalmafaaGreatDoor

namespace Go.Proofs.YtejbfglaalmafaaGreatDoor
open Go.RowKit

/-- The first k numbers of two lists are the same. -/
def SameTo (k : Nat) (a b : List Int) : Prop := ∀ j, j < k → nth a j = nth b j
theorem SameTo.succ {k : Nat} {a b : List Int} (h : SameTo k a b) (e : nth a k = nth b k) : SameTo (k + 1) a b := fun j hj => by
  by_cases hk : j = k
  · subst hk; exact e
  · exact h j (by omega)
theorem SameTo.all {a b : List Int} (hl : a.length = b.length) (h : SameTo a.length a b) : a = b := by
  apply List.ext_getElem hl
  intro i h1 h2
  have := h i h1
  simpa [nth, h1, h2] using this

theorem int_size : (Tryz.prog.info? 3).map (·.size) = some 1 := by kernel_rfl
def LentPost (w : World) (l : List Int) (e : Ending) (w' : World) : Prop :=
  e = .returned (.slice (some ⟨w.heap.size, 0, none⟩) l.length (l.length + 1)) ∧ Blk w' w.heap.size 3 (ints (l ++ [-77])) ∧ Below w.heap.size w w'
theorem row_part {w : World} {g : Nat} {t : TypeId} {l : List Int} {x : Int} (h : Blk w g t (ints (l ++ [x]))) : Row w (some ⟨g, 0, none⟩) l := fun j hj =>
  ⟨g, 0, rfl, by rw [Nat.zero_add, h.nth j (by simp; omega)]; simp [nth, List.getElem?_append_left hj]⟩

theorem grown_trans {a b c : World} {r : Option Nat} (h : a.grownBy b r) (k : b.grownBy c r) : a.grownBy c r :=
  ⟨k.os.trans h.os, k.tape.trans h.tape, k.output.trans h.output, Nat.le_trans h.size k.size, fun i hi hne => (k.block i (Nat.lt_of_lt_of_le hi h.size) hne).trans (h.block i hi hne)⟩
def BackPost (w : World) (g : Nat) (e : Ending) (w' : World) : Prop := e = .returned (.bool true) ∧ w.grownBy w' (some g)
end Go.Proofs.YtejbfglaalmafaaGreatDoor

namespace Go.Proofs.YtejbfglaalmafaaGreatDoor
open Go.RowKit

section
variable {P : Program} {ops : Array Oper} {rest : List Oper} {o : Oper} {a : Act} {Q : Exit → Act → World → Prop}

/-- 'append(v, y)', y one cell; the goal's world holds y's own box already. -/
theorem append_one {W : World} (base : Nat) (hgd : o.guard = none) (s x : Operand) (t e : TypeId) (z : Value) (bytes : Nat)
    (ho : o.op = .call { callee := .builtin .append, args := #[s, x], argTypes := #[t, t] })
    (ht : P.underlying t = some (.slice e)) (hinfo : (P.info? e).map (fun i => (i.zero, i.size, i.bytes)) = some (some z, 1, bytes)) (hz : z.cells.size = 1) (hb0 : 0 < bytes)
    (v : Value) (n : Nat) (xs : List Value) (y : Value) (hs : a.eval s = v) (hx : a.eval x = .slice (some ⟨W.heap.size, 0, none⟩) 1 1) (h1 : y.oneCell' = true)
    (HO : W.ownsRow base e 1 v n xs) (hbase : base ≤ W.heap.size) (hl : (n + 1) * bytes ≤ 140737488355328)
    (h : ∀ v1 w1, w1.ownsRow base e 1 v1 (n + 1) (xs ++ [y]) → W.grownBy w1 v.ownBlock → (v1.ownBlock = v.ownBlock ∨ v1.ownBlock = some (W.heap.size + 1)) → wpList P ops Q rest (a.put o.dst v1) w1) :
    wpList P ops Q (o :: rest) a (W.alloc (.cells #[y] e)) := by
  obtain ⟨i0, hi, hzz⟩ := Option.map_eq_some_iff.1 hinfo
  simp only [Prod.mk.injEq] at hzz
  obtain ⟨hz0, hz1, hz2⟩ := hzz
  have hlen : n + 1 ≤ 140737488355328 := Nat.le_trans (Nat.le_mul_of_pos_right _ hb0) hl
  refine wpList_append_own_at (W.alloc (.cells #[y] e)) hgd s x t ho base e i0 z 1 bytes ht hi hz0 hz1 hz2 hz (by omega) v n xs hs (HO.alloc _) ⟨W.heap.size, 0, none⟩ 1 1 [y] hx rfl
    (cell_one_new _ _ _) (by simpa using h1) (by simp only [maxLen]; omega) hl (by simp; omega) ?_
  intro v1 w1 hown hg _ hat
  refine h v1 w1 hown ?_ (by simpa using hat)
  exact ⟨hg.os, hg.tape, hg.output, Nat.le_trans (by simp) hg.size, fun k hk hne => (hg.block k (by simp; omega) hne).trans (Below.heap_alloc W _ k hk)⟩
end

/-- The numbers of a list as values. -/
def vals (l : List Int) : List Value := l.map fun x => Value.int .i64 x
theorem vals_length (l : List Int) : (vals l).length = l.length := by simp [vals]
theorem vals_at (l : List Int) (j : Nat) (h : j < l.length) : (vals l)[j]? = some (.int .i64 (nth l j)) := by simp [vals, nth, h]
theorem vals_set (l : List Int) (j : Nat) (x : Int) : (vals l).set j (.int .i64 x) = vals (l.set j x) := by simp [vals, List.map_set]
theorem vals_snoc (l : List Int) (x : Int) : vals l ++ [.int .i64 x] = vals (l ++ [x]) := by simp [vals]

section
variable {w : World} {base n g cap : Nat} {e : TypeId} {l : List Int}
theorem own_shape {v : Value} {xs : List Value} {size : Nat} (h : w.ownsRow base e size v n xs) (hn : 0 < n) : ∃ g cap, v = .slice (some ⟨g, 0, none⟩) n cap ∧ base ≤ g ∧ g < w.heap.size := by
  rcases h.2 with ⟨_, h0⟩ | ⟨g, cap, cur, rfl, hb, hg, _⟩
  · omega
  · exact ⟨g, cap, rfl, hb, (Array.getElem?_eq_some_iff.1 hg).1⟩
theorem own_lt' {v : Value} {xs : List Value} {size : Nat} (h : w.ownsRow base e size v n xs) (k : Nat) (hk : v.ownBlock = some k) : base ≤ k ∧ k < w.heap.size := h.lt k hk
theorem own_int (h : w.ownsRow base e 1 (.slice (some ⟨g, 0, none⟩) n cap) n (vals l)) (j : Nat) (hj : j < n) : w.cell? ⟨g, j, none⟩ = some (.int .i64 (nth l j)) := by
  have hl : l.length = n := by have := h.1; simp [vals] at this; exact this
  rw [h.cellAt j (by omega), vals_at l j (by omega)]
theorem own_set (h : w.ownsRow base e 1 (.slice (some ⟨g, 0, none⟩) n cap) n (vals l)) (j : Nat) (x : Int) : (w.setCell ⟨g, j, none⟩ (.int .i64 x)).ownsRow base e 1 (.slice (some ⟨g, 0, none⟩) n cap) n (vals (l.set j x)) := by
  rw [← vals_set]; exact (h.stored j _).1
/-- A slice that is owned reads as its list. -/
theorem own_row {v : Value} (h : w.ownsRow base e 1 v n (vals l)) : ∃ A c, v = .slice A n c ∧ Row w A l := by
  have hl : l.length = n := by have := h.1; simp [vals] at this; exact this
  rcases Nat.eq_zero_or_pos n with h0 | h0
  · subst h0
    rcases h.2 with ⟨rfl, _⟩ | ⟨g, cap, cur, rfl, _⟩
    · exact ⟨none, 0, rfl, fun j hj => by omega⟩
    · exact ⟨_, cap, rfl, fun j hj => by omega⟩
  · obtain ⟨g, cap, rfl, _, _⟩ := own_shape h h0
    exact ⟨_, cap, rfl, fun j hj => ⟨g, 0, rfl, by rw [Nat.zero_add]; exact own_int h j (by omega)⟩⟩
end
theorem below_chain {B : Nat} {a w w' : World} (h : Below B a w) (hb : Below w.heap.size w w') (hB : B ≤ w.heap.size) : Below B a w' := h.trans (hb.mono hB)
theorem below_alloc1 (w : World) (o : Obj) : Below w.heap.size w (w.alloc o) := (Below.refl _ _).alloc (Nat.le_refl _) _
theorem Drawn.trans {w w1 w2 : World} (h : Drawn w w1) (h2 : Drawn w1 w2) : Drawn w w2 := by
  obtain ⟨p, rfl⟩ := h
  obtain ⟨q, rfl⟩ := h2
  exact ⟨p + q, World.drewN_drewN ..⟩
theorem tail_of {P Q : Prop} (h : P → Q) (p : P) : Q := h p
end Go.Proofs.YtejbfglaalmafaaGreatDoor
