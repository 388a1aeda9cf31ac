/- The contracts of package rand's small functions: New, Clone, may, Next, Below. A region that draws its order, walked by what holds of it: each operation that may come up keeps the word 'I', whatever has been listed. Serves in a round's frame too. The contract of package rand's Perm: the list that the state tells, in new memory; the source's state behind the draws. -/
import Derived.Test.YtiamppbgpoffmaaProg
import Derived.Test.YtiamppbgpoffmaaQBase
import Derived.WalkKit
import Derived.KernelRfl
import Derived.Lib.Hide
import Derived.OrdersIn
import Derived.RangeFuncRecord
import Derived.RangeFuncLeaves
import Derived.RangeFuncNested
import Derived.RangeFuncBound
import Derived.RangeFuncCalls
import Derived.Shelf.Abstract
import Derived.Shelf.RegionOpen
import Derived.OwnWalkIn
import Derived.TacticsInMore
import Derived.LoopNIn
import Derived.LoopIn
namespace Go.Proofs.Ytiamppbgpoffmaa
open Go.RowKit

theorem new_any (n : Int) (w : World) : Calls Try.prog 59 #[.int .u64 n] w fun e w' => e = .returned (.pointer (some ⟨w.heap.size, 0, none⟩)) ∧ w.alloc (.cells #[.int .u64 n] 103) = w' := by
  go_enter Try.func59, Try.ntmps59
  go_wp2
  go_ret
  exact ⟨rfl, rfl⟩

theorem next_any (b o : Nat) (n : Int) (w : World) (hc : w.cell? ⟨b, o, none⟩ = some (.int .u64 n)) (hf : w.frozen? ⟨b, o, none⟩ = false) :
   Calls Try.prog 74 #[.pointer (some ⟨b, o, none⟩)] w fun e w' => e = .returned (.int .u64 (draw n)) ∧ w.setCell ⟨b, o, none⟩ (.int .u64 (adv n)) = w' := by
  go_enter Try.func74, Try.ntmps74
  go_wp2
  go_ret
  exact ⟨rfl, rfl⟩

theorem next_nil (w : World) :
   Calls Try.prog 74 #[.pointer none] w fun e w' => e = .returned (.int .u64 0) ∧ w = w' := by
  go_enter Try.func74, Try.ntmps74
  go_wp2
  go_ret
  exact ⟨rfl, rfl⟩

theorem may_nil (n f t : Int) (w : World) : Calls Try.prog 69 #[.pointer none, .int .i64 n, .int .i64 f, .int .i64 t] w fun e w' => e = .returned (.int .i64 3) ∧ w = w' := by
  go_enter Try.func69, Try.ntmps69
  go_wp2
  go_ret
  exact ⟨rfl, rfl⟩
theorem may_ok (a : Addr) (n f t : Int) (w : World) (h1 : f ≤ n) (h2 : n ≤ t) : Calls Try.prog 69 #[.pointer (some a), .int .i64 n, .int .i64 f, .int .i64 t] w fun e w' => e = .returned (.int .i64 0) ∧ w = w' := by
  go_enter Try.func69, Try.ntmps69
  go_wp2
  go_ret
  exact ⟨rfl, rfl⟩
theorem may_bad (a : Addr) (n f t : Int) (w : World) (h : n < f ∨ t < n) : Calls Try.prog 69 #[.pointer (some a), .int .i64 n, .int .i64 f, .int .i64 t] w fun e w' => e = .returned (.int .i64 1) ∧ w = w' := by
  rcases h with h | h
  · go_enter Try.func69, Try.ntmps69
    go_wp2
    go_ret
    exact ⟨rfl, rfl⟩
  · by_cases h' : n < f
    · go_enter Try.func69, Try.ntmps69
      go_wp2
      go_ret
      exact ⟨rfl, rfl⟩
    · go_enter Try.func69, Try.ntmps69
      go_wp2
      go_ret
      exact ⟨rfl, rfl⟩

/-- A draw, its number held behind a letter. -/
theorem next_some (b o : Nat) (s : Int) (w : World) (hc : w.cell? ⟨b, o, none⟩ = some (.int .u64 s)) (hf : w.frozen? ⟨b, o, none⟩ = false) :
   Calls Try.prog 74 #[.pointer (some ⟨b, o, none⟩)] w fun e w' => ∃ D, Hid (draw s = D) ∧ 0 ≤ D ∧ D ≤ 18446744073709551615 ∧ e = .returned (.int .u64 D) ∧ w.setCell ⟨b, o, none⟩ (.int .u64 (adv s)) = w' :=
  (next_any b o s w hc hf).mono fun _ _ ⟨he, hw⟩ => ⟨_, Lib.hid rfl, (draw_range s).1, (draw_range s).2, he, hw⟩
/-! ### The same, of a source in a block of its own -/
theorem new_src (n : Int) (w : World) : Calls Try.prog 59 #[.int .u64 n] w fun e w' => ∃ g, e = .returned (.pointer (some ⟨g, 0, none⟩)) ∧ Blk w' g 103 #[.int .u64 n] ∧ w.heap.size ≤ g ∧ w.grownBy w' none :=
  (new_any n w).mono fun _ _ ⟨he, hw⟩ => ⟨_, he, by rw [← hw]; exact Blk.new w _ _, Nat.le_refl _, by rw [← hw]; exact grown_alloc w _⟩
theorem next_src (b : Nat) (n : Int) (w : World) (hb : Blk w b 103 #[.int .u64 n]) : Calls Try.prog 74 #[.pointer (some ⟨b, 0, none⟩)] w fun e w' => e = .returned (.int .u64 (draw n)) ∧ Blk w' b 103 #[.int .u64 (adv n)] ∧ w.grownBy w' (some b) :=
  (next_any b 0 n w (hb.cell 0) (hb.frozen 0)).mono fun _ _ ⟨he, hw⟩ => ⟨he, by rw [← hw]; exact hb.set_ 0 _, by rw [← hw]; exact grown_set w ⟨b, 0, none⟩ _⟩
theorem changes_any (p : Option Addr) (n : Int) (w : World) : Calls Try.prog 70 #[.pointer p, .int .i64 n] w fun e w' =>
    e = .returned (.func (.func 73) #[] #[.pointer (some ⟨w.heap.size + 1, 0, none⟩), .pointer (some ⟨w.heap.size, 0, none⟩)]) ∧ (w.alloc (.cells #[.pointer p] 94)).alloc (.cells #[.int .i64 n] 3) = w' := by
  go_enter Try.func70, Try.ntmps70
  go_wp2
  go_ret
  exact ⟨rfl, rfl⟩

end Go.Proofs.Ytiamppbgpoffmaa

namespace Go.Proofs.Ytiamppbgpoffmaa
open Go.RowKit

section
variable {F : Fence} {n : Nat} {P : Program} {ops : Array Oper} {Q : Exit → Act → World → Prop} {md : Region.Mode}

theorem unlisted_set {listed : Array Bool} {i : Nat} (h : listed.getD i true = false) : (listed.setIfInBounds i true).count false + 1 = listed.count false := by
  have hlt : i < listed.size := by
    rcases Nat.lt_or_ge i listed.size with h' | h'
    · exact h'
    · simp [Array.getElem?_eq_none h'] at h
  have hi : listed[i] = false := by simpa [hlt] using h
  have hm := Array.boole_getElem_le_count (xs := listed) (i := i) (a := false) hlt
  rw [hi] at hm
  rw [Array.setIfInBounds_def, dif_pos hlt, Array.count_set hlt, hi]
  have hm' : 1 ≤ listed.count false := hm
  show listed.count false - 1 + 0 + 1 = listed.count false
  omega

/-- All edges that bind go back. -/
def backward (md : Region.Mode) (ops : Array Oper) : Prop := ∀ i o, ops[i]? = some o → ∀ e ∈ o.after, Region.binds md e = true → e.on < i

theorem ready_of_unlisted (hb : backward md ops) {listed : Array Bool} (hs : listed.size = ops.size) : ∀ i, listed.getD i true = false → Region.ready md ops listed ≠ [] := by
  intro i
  induction i using Nat.strongRecOn with
  | ind i ih =>
    intro hi hr
    have hlt : i < ops.size := by
      rcases Nat.lt_or_ge i listed.size with h' | h'
      · omega
      · simp [Array.getElem?_eq_none h'] at hi
    have hm : i ∈ Region.ready md ops listed := by
      refine mem_ready.2 ⟨hi, ops[i], Array.getElem?_eq_getElem hlt, fun e he hbe => ?_⟩
      have hlt2 := hb i _ (Array.getElem?_eq_getElem hlt) e he hbe
      cases hl : listed.getD e.on false with
      | true => rfl
      | false =>
        refine absurd hr (ih e.on hlt2 ?_)
        have : e.on < listed.size := by omega
        simpa [this] using hl
    rw [hr] at hm
    cases hm

theorem wpAnyIn_inv (hb : backward md ops) {I : Array Bool → Act → World → Prop}
    (hstep : ∀ listed a w i o, listed.size = ops.size → ops[i]? = some o → listed.getD i true = false → (∀ e ∈ o.after, Region.binds md e = true → listed.getD e.on false = true) → I listed a w →
      wpOpIn F n P ops Q i (I (listed.setIfInBounds i true)) a w)
    (hdone : ∀ listed a w, (∀ i, i < ops.size → listed.getD i false = true) → I listed a w → Q .normal a w) :
    ∀ (fuel : Nat) (listed : Array Bool) (a : Act) (w : World), listed.size = ops.size → listed.count false ≤ fuel → I listed a w → wpAnyIn F n P md ops Q fuel listed a w := by
  have fin : ∀ (listed : Array Bool) (a : Act) (w : World), listed.size = ops.size → Region.ready md ops listed = [] → I listed a w → Q .normal a w := by
    intro listed a w hs hr hI
    refine hdone listed a w (fun i hi => ?_) hI
    cases hl : listed.getD i false with
    | true => rfl
    | false =>
      exfalso
      refine ready_of_unlisted hb hs i ?_ hr
      have : i < listed.size := by omega
      simpa [this] using hl
  intro fuel
  induction fuel with
  | zero =>
    intro listed a w hs hc hI
    have hr : Region.ready md ops listed = [] := by
      rw [List.eq_nil_iff_forall_not_mem]
      intro i hi
      have h0 := unlisted_set (mem_ready.1 hi).1
      omega
    exact ⟨hr, fin listed a w hs hr hI⟩
  | succ fuel ih =>
    intro listed a w hs hc hI
    refine ⟨fun hr => fin listed a w hs hr hI, fun i hi => ?_⟩
    obtain ⟨h0, o, ho, hall⟩ := mem_ready.1 hi
    have hc' := unlisted_set h0
    exact wpOpIn_mono (fun a' w' h' => ih (listed.setIfInBounds i true) a' w' (by simpa using hs) (by omega) h') (hstep listed a w i o hs ho h0 hall hI)

theorem wpIn_region_inv {id : Nat} {a : Act} {w : World} (hm : P.follows .mixedOrders = true) (hb : backward .any ops) (I : Array Bool → Act → World → Prop)
    (hstep : ∀ listed a w i o, listed.size = ops.size → ops[i]? = some o → listed.getD i true = false → (∀ e ∈ o.after, Region.binds .any e = true → listed.getD e.on false = true) → I listed a w →
      wpOpIn F n P ops Q i (I (listed.setIfInBounds i true)) a w)
    (hdone : ∀ listed a w, (∀ i, i < ops.size → listed.getD i false = true) → I listed a w → Q .normal a w)
    (h0 : I (Array.replicate ops.size false) a w.drew) : (Code.region id ops true).wpIn F n P Q a w :=
  wpIn_region_any hm (wpAnyIn_inv hb hstep hdone _ _ _ _ (by simp) (by simp) h0)

/-- A range over a function, entered at an outermost loop: the block for the rounds' deferred calls and the record are laid; the function is called with yield. -/
theorem wpIn_range {g : Operand} {ps : Array Tmp} {assign body : Code} {a : Act} {w : World} (hro : F.round = none) (h1 : 1 ≤ n) {gf : Nat} {lb : Array Value}
    (hg : a.eval g = .func (.func gf) #[] lb) (hFg : F.fn gf) (eg : ∀ args w, (callFunc gf args).run P w = .ok (.enter gf args) w)
    (h : ∀ fn, F.fn fn → CallsIn F (n - 1) P gf (#[.func (.yield (w.heap.size + 1)) #[] #[]] ++ lb)
      ((w.alloc (.deferred (some []))).alloc (.loop { state := .ready, pending := none, fn, tmps := a.tmps, params := ps, assign, body, defers := w.heap.size }))
      (rangePost F n P (w.heap.size + 1) Q { a with defers := { target := .collected w.heap.size, args := #[] } :: a.defers })) :
    (Code.rangeFunc g ps assign body).wpIn F n P Q a w := by
  refine wpIn_rangeFunc ?_
  intro fn hfn
  rw [hro]
  have h := h fn hfn
  have he := run_enterLoop_outer (P := P) (w := w) fn a.tmps ps assign body
  generalize (w.alloc (.deferred (some []))).alloc (.loop { state := .ready, pending := none, fn, tmps := a.tmps, params := ps, assign, body, defers := w.heap.size }) = W1 at h he
  refine ⟨w.heap.size + 1, [{ target := .collected w.heap.size, args := #[] }], W1, { target := .fn (.func gf) lb, args := #[.func (.yield (w.heap.size + 1)) #[] #[]] }, W1, gf,
    #[.func (.yield (w.heap.size + 1)) #[] #[]] ++ lb, W1, he, ?_, ?_, ?_, fun _ => h1, ?_⟩
  · simp only [resolve, hg]
    simp [go_sem]
  · intro f' hf'; simp [Target.leads] at hf'; subst hf'; exact hFg
  · simp [invoke, go_sem, eg]
  · exact h

end
end Go.Proofs.Ytiamppbgpoffmaa

namespace Go.Proofs.Ytiamppbgpoffmaa
open Go.RowKit Go.Shelf
attribute [local go_sem] Oper.semAt_some


/-- What holds between two exchanges: the source's state s, the list l; w: the world in which Perm was called; L: the loop's record. -/
structure PermInv (w : World) (b o n : Nat) (L : Loop) (s : Int) (l : List Int) (W : World) : Prop where
  len : l.length = n
  lt : b < w.heap.size
  below : Below w.heap.size (w.setCell ⟨b, o, none⟩ (.int .u64 s)) W
  src : W.cell? ⟨b, o, none⟩ = some (.int .u64 s)
  srcf : W.frozen? ⟨b, o, none⟩ = false
  row : Blk W w.heap.size 3 (ints l)
  box : Blk W (w.heap.size + 1) 26 #[.slice (some ⟨w.heap.size, 0, none⟩) n n]
  bs : Blk W (w.heap.size + 2) 94 #[.pointer (some ⟨b, o, none⟩)]
  bn : Blk W (w.heap.size + 3) 3 #[.int .i64 n]
  df : W.heap[w.heap.size + 4]? = some (.deferred (some []))
  lp : W.heap[w.heap.size + 5]? = some (.loop L)

theorem PermInv.step {w : World} {b o n : Nat} {L : Loop} {s s' : Int} {l : List Int} {W : World} (h : PermInv w b o n L s l W) : PermInv w b o n L s' l (W.setCell ⟨b, o, none⟩ (.int .u64 s')) :=
  { len := h.len, lt := h.lt, below := below_setCell_again h.below, src := World.cell?_setCell_same' _ _ _ (by rw [h.src]; rfl), srcf := by rw [World.frozen?_setCell]; exact h.srcf,
    row := h.row.far (by have := h.lt; simp; omega) _, box := h.box.far (by have := h.lt; simp; omega) _, bs := h.bs.far (by have := h.lt; simp; omega) _, bn := h.bn.far (by have := h.lt; simp; omega) _,
    df := (Below.heap_setCell _ _ _ _ (by have := h.lt; simp; omega)).trans h.df, lp := (Below.heap_setCell _ _ _ _ (by have := h.lt; simp; omega)).trans h.lp }

set_option maxHeartbeats 1000000 in
theorem changes1_in (w : World) (b o n : Nat) (hn : n ≤ 65536) (L : Loop) (s0 : Int) (l0 : List Int) (W : World) (h0 : PermInv w b o n L s0 l0 W)
    (hY : ∀ s l (i k : Int) W, PermInv w b o n L s l W → 1 ≤ i → i < n → 0 ≤ k → k ≤ i → YieldAt Fence.wide 3 Try.prog (w.heap.size + 5) #[.int .i64 i, .int .i64 k] W fun e W' =>
      e = .returned (.bool true) ∧ PermInv w b o n L s (swapL l i.toNat k.toNat) W') :
    CallsIn Fence.wide 4 Try.prog 73 #[.func (.yield (w.heap.size + 5)) #[] #[], .pointer (some ⟨w.heap.size + 3, 0, none⟩), .pointer (some ⟨w.heap.size + 2, 0, none⟩)] W fun e W' =>
      (∃ v, e = .returned v) ∧ PermInv w b o n L (permLoop (n - 1) s0 l0).2 (permLoop (n - 1) s0 l0).1 W' := by
  refine callsIn_of_wp Try.func73 rfl trivial ?_ rfl
  simp only [Try.ntmps73, List.size_toArray, List.length_cons, List.length_nil, Nat.reduceAdd, Nat.reduceSub, Array.replicate_succ, Array.replicate_zero, List.push_toArray, List.append_toArray, List.nil_append, List.cons_append]
  have hYh := Lib.hid hY
  clear hY
  have c1 := h0.bn.cell 0
  simp only [List.getElem?_toArray, List.getElem?_cons_zero] at c1
  gi_wp2
  gi_loopw [4] (fun i wr => ∃ (j : Int) (s : Int) (l : List Int), -1 ≤ j ∧ j < n ∧ i = .int .i64 j ∧ PermInv w b o n L s l wr ∧ Hid (permLoop j.toNat s l = permLoop (n - 1) s0 l0)) (fun i _ => (intOf i).toNat)
  case atStart => exact ⟨(n : Int) - 1, s0, l0, by omega, by omega, rfl, h0, Lib.hid (by congr 1; omega)⟩
  case round =>
    clear c1 h0
    obtain ⟨j, s, l, hj0, hj1, rfl, hI, hP⟩ := hrel
    by_cases hlt : 1 ≤ j
    · have c2 := hI.bs.cell 0
      simp only [List.getElem?_toArray, List.getElem?_cons_zero] at c2
      have c3 := hI.src
      have c4 := hI.srcf
      gi_wp2_with (refine ⟨trivial, ?_⟩; gi_at_call 74; refine (callsIn_wide.2 (next_some _ _ _ _ c3 c4)).mono ?_; rintro e w' ⟨D, hD, hD1, hD2, rfl, rfl⟩; have g1 : 0 ≤ D % (j + 1) := Int.emod_nonneg _ (by omega); have g2 : D % (j + 1) < j + 1 := Int.emod_lt_of_pos _ (by omega); have hI2 := PermInv.step (s' := adv s) hI; obtain ⟨fn, tmps, assign, body, hy, hR⟩ := hYh.out (adv s) l j (D % (j + 1)) _ hI2 (by omega) (by omega) (by omega) (by omega))
      refine hR.mono ?_
      rintro e W' ⟨rfl, hI3⟩
      have hP' : Hid (permLoop (j - 1).toNat (adv s) (swapL l j.toNat (D % (j + 1)).toNat) = permLoop (n - 1) s0 l0) := by
        rw [← hD.out, ← permLoop_step j hlt]; exact hP
      gi_wp2
      exact ⟨⟨j - 1, adv s, _, by omega, by omega, rfl, hI3, hP'⟩, by simp [intOf]; omega⟩
    · gi_wp2
      go_end0
      have : j.toNat = 0 := by omega
      have hP := hP.out
      rw [this, permLoop] at hP
      rw [← hP]
      exact ⟨⟨_, rfl⟩, hI⟩

theorem PermInv.put {w : World} {b o n : Nat} {L : Loop} {s : Int} {l : List Int} {W : World} (h : PermInv w b o n L s l W) (L' : Loop) : PermInv w b o n L' s l (W.putObj (w.heap.size + 5) (.loop L')) :=
  have hl := h.lt
  have hp : w.heap.size + 5 < W.heap.size := (Array.getElem?_eq_some_iff.1 h.lp).1
  have keep : ∀ g, g ≠ w.heap.size + 5 → (W.putObj (w.heap.size + 5) (.loop L')).heap[g]? = W.heap[g]? := fun g hg => World.putObj_heap_other hg
  { len := h.len, lt := h.lt, below := h.below.grown (grownBy_putObj' W _ _) (by omega) (fun k e => by cases e; omega),
    src := (World.cell?_of_block (keep b (by omega))).trans h.src, srcf := (World.frozen?_of_block (keep b (by omega))).trans h.srcf,
    row := (keep _ (by omega)).trans h.row, box := (keep _ (by omega)).trans h.box, bs := (keep _ (by omega)).trans h.bs, bn := (keep _ (by omega)).trans h.bn,
    df := (keep _ (by omega)).trans h.df, lp := World.putObj_heap_same hp }

theorem PermInv.drew {w : World} {b o n : Nat} {L : Loop} {s : Int} {l : List Int} {W : World} (h : PermInv w b o n L s l W) : PermInv w b o n L s l W.drew :=
  { len := h.len, lt := h.lt, below := h.below.drew, src := h.src, srcf := h.srcf, row := h.row, box := h.box, bs := h.bs, bn := h.bn, df := h.df, lp := h.lp }

theorem PermInv.store {w : World} {b o n : Nat} {L : Loop} {s : Int} {l : List Int} {W : World} (h : PermInv w b o n L s l W) (i : Nat) (x : Int) : PermInv w b o n L s (l.set i x) (W.setCell ⟨w.heap.size, i, none⟩ (.int .i64 x)) :=
  have hl := h.lt
  { len := by simpa using h.len, lt := h.lt, below := h.below.setCell (p := ⟨w.heap.size, i, none⟩) (Nat.le_refl _) _,
    src := (World.cell?_setCell_other _ _ _ _ (fun e => by injection e; omega)).trans h.src, srcf := by rw [World.frozen?_setCell]; exact h.srcf,
    row := h.row.setInt i x, box := h.box.far (by simp) _, bs := h.bs.far (by simp) _, bn := h.bn.far (by simp) _,
    df := (Below.heap_setCell _ _ _ _ (by simp)).trans h.df, lp := (Below.heap_setCell _ _ _ _ (by simp)).trans h.lp }

theorem blk_at {w : World} {g : Nat} {t : TypeId} {cs : Array Value} (h : g = w.heap.size) : Blk (w.alloc (.cells cs t)) g t cs := by subst h; exact Blk.new w t cs
theorem cell_old {w : World} {a : Addr} {v : Value} (h : w.cell? a = some v) (o : Obj) : (w.alloc o).cell? a = some v := (World.cell?_alloc_lt w o a (World.block_lt_of_cell? w a h)).trans h
theorem perm_start (b o : Nat) (s : Int) (n : Nat) (w : World) (hc : w.cell? ⟨b, o, none⟩ = some (.int .u64 s)) (hf : w.frozen? ⟨b, o, none⟩ = false) (L : Loop) :
    PermInv w b o n L s (iota n) ((((((w.alloc (.cells (ints (iotaTo n n)) 3)).alloc (.cells #[.slice (some ⟨w.heap.size, 0, none⟩) n n] 26)).alloc (.cells #[.pointer (some ⟨b, o, none⟩)] 94)).alloc (.cells #[.int .i64 n] 3)).alloc (.deferred (some []))).alloc (.loop L)) :=
  have hlt : b < w.heap.size := World.block_lt_of_cell? w _ hc
  have hB : Below w.heap.size w ((((((w.alloc (.cells (ints (iotaTo n n)) 3)).alloc (.cells #[.slice (some ⟨w.heap.size, 0, none⟩) n n] 26)).alloc (.cells #[.pointer (some ⟨b, o, none⟩)] 94)).alloc (.cells #[.int .i64 n] 3)).alloc (.deferred (some []))).alloc (.loop L)) :=
    ((((((Below.refl _ _).alloc (Nat.le_refl _) _).alloc (by simp) _).alloc (by simp; omega) _).alloc (by simp; omega) _).alloc (by simp; omega) _).alloc (by simp; omega) _
  { len := iota_length n, lt := hlt, below := by rw [setCell_id hc]; exact hB, src := (hB.cell (p := ⟨b, o, none⟩) hlt).trans hc, srcf := (hB.frozen (p := ⟨b, o, none⟩) hlt).trans hf,
    row := by rw [← iotaTo_full]; exact ((((((Blk.new w _ _).alloc _).alloc _).alloc _).alloc _).alloc _),
    box := ((((blk_at (by simp)).alloc _).alloc _).alloc _).alloc _,
    bs := (((blk_at (by simp)).alloc _).alloc _).alloc _,
    bn := ((blk_at (by simp)).alloc _).alloc _,
    df := by
      have h := World.alloc_heap_new ((((w.alloc (.cells (ints (iotaTo n n)) 3)).alloc (.cells #[.slice (some ⟨w.heap.size, 0, none⟩) n n] 26)).alloc (.cells #[.pointer (some ⟨b, o, none⟩)] 94)).alloc (.cells #[.int .i64 n] 3)) (.deferred (some []))
      simp only [World.size_alloc] at h
      exact (Below.heap_alloc _ _ _ (by simp)).trans h,
    lp := by
      have h := World.alloc_heap_new (((((w.alloc (.cells (ints (iotaTo n n)) 3)).alloc (.cells #[.slice (some ⟨w.heap.size, 0, none⟩) n n] 26)).alloc (.cells #[.pointer (some ⟨b, o, none⟩)] 94)).alloc (.cells #[.int .i64 n] 3)).alloc (.deferred (some []))) (.loop L)
      simp only [World.size_alloc] at h
      exact h }

theorem PermInv.ends {P : Program} {w : World} {b o n : Nat} {L : Loop} {s : Int} {l : List Int} {W : World} (h : PermInv w b o n L s l W) (hb : L.state ≠ .busy) :
    ∃ W' L', (Instr.endLoop (w.heap.size + 5)).run P W = .ok L.pending W' ∧ PermInv w b o n L' s l W' := ⟨_, _, run_endLoop h.lp hb, h.put _⟩

theorem PermInv.begins {P : Program} {w : World} {b o n : Nat} {L : Loop} {s : Int} {l : List Int} {W : World} (h : PermInv w b o n L s l W) (hb : L.state = .ready) :
    ∃ W', (Instr.beginRound (w.heap.size + 5)).run P W = .ok () W' ∧ PermInv w b o n { L with state := .busy } s l W' := ⟨_, run_beginRound h.lp hb, h.put _⟩
theorem PermInv.endsRound {P : Program} {w : World} {b o n : Nat} {L : Loop} {s : Int} {l : List Int} {W : World} (h : PermInv w b o n L s l W) :
    ∃ W', (Instr.endRound (w.heap.size + 5) none).run P W = .ok (.bool true) W' ∧ PermInv w b o n { L with state := .ready, pending := none } s l W' :=
  ⟨_, run_endRound none h.lp, h.put _⟩

/-- What lies behind Perm: the list in a new block, the source's state; all else that was there is as it was. -/
structure PermPost (w : World) (b o n : Nat) (s : Int) (l : List Int) (W : World) : Prop where
  len : l.length = n
  below : Below w.heap.size (w.setCell ⟨b, o, none⟩ (.int .u64 s)) W
  src : W.cell? ⟨b, o, none⟩ = some (.int .u64 s)
  srcf : W.frozen? ⟨b, o, none⟩ = false
  row : Blk W w.heap.size 3 (ints l)

theorem PermInv.post {w : World} {b o n : Nat} {L : Loop} {s : Int} {l : List Int} {W : World} (h : PermInv w b o n L s l W) (ob : Obj) : PermPost w b o n s l (W.putObj (w.heap.size + 4) ob) :=
  have hl := h.lt
  have hp : w.heap.size + 4 < W.heap.size := (Array.getElem?_eq_some_iff.1 h.df).1
  have keep : ∀ g, g ≠ w.heap.size + 4 → (W.putObj (w.heap.size + 4) ob).heap[g]? = W.heap[g]? := fun g hg => World.putObj_heap_other hg
  { len := h.len, below := h.below.grown (grownBy_putObj' W _ _) (by omega) (fun k e => by cases e; omega),
    src := (World.cell?_of_block (keep b (by omega))).trans h.src, srcf := (World.frozen?_of_block (keep b (by omega))).trans h.srcf, row := (keep _ (by omega)).trans h.row }

/-- What the body's operations leave in their slots: j: the operation's place; its slot and value. -/
def swapVal (H n i k : Nat) (l : List Int) : Nat → Option (Nat × Value)
  | 0 => some (34, .slice (some ⟨H, 0, none⟩) n n)
  | 1 => some (35, .int .i64 i)
  | 2 => some (36, .slice (some ⟨H, 0, none⟩) n n)
  | 3 => some (37, .int .i64 k)
  | 4 => some (38, .slice (some ⟨H, 0, none⟩) n n)
  | 5 => some (39, .int .i64 k)
  | 6 => some (40, .pointer (some ⟨H, k, none⟩))
  | 7 => some (41, .int .i64 (l.getD k 0))
  | 8 => some (42, .slice (some ⟨H, 0, none⟩) n n)
  | 9 => some (43, .int .i64 i)
  | 10 => some (44, .pointer (some ⟨H, i, none⟩))
  | 11 => some (45, .int .i64 (l.getD i 0))
  | 12 => some (46, .pointer (some ⟨H, i, none⟩))
  | 14 => some (47, .pointer (some ⟨H, k, none⟩))
  | _ => none
theorem swapVal_slot {H n i k : Nat} {l : List Int} {j d : Nat} {v : Value} (h : swapVal H n i k l j = some (d, v)) : 34 ≤ d ∧ d ≤ 47 ∧ (d = 34 + j ∨ (d = 47 ∧ j = 14)) := by
  unfold swapVal at h
  split at h <;> first | (cases h; done) | (simp only [Option.some.injEq, Prod.mk.injEq] at h; obtain ⟨rfl, _⟩ := h; omega)

structure SwapInv (H n i k : Nat) (l : List Int) (V0 : World) (listed : Array Bool) (a : Act) (v : World) : Prop where
  defers : a.defers = []
  size : a.tmps.size = 49
  t7 : a.tmps[7]? = some (.pointer (some ⟨H + 1, 0, none⟩))
  t9 : a.tmps[9]? = some (.int .i64 i)
  t10 : a.tmps[10]? = some (.int .i64 k)
  o13 : listed.getD 13 false = true → listed.getD 7 false = true ∧ listed.getD 11 false = true
  o15 : listed.getD 15 false = true → listed.getD 13 false = true
  world : v = if listed.getD 15 false then (V0.setCell ⟨H, i, none⟩ (.int .i64 (l.getD k 0))).setCell ⟨H, k, none⟩ (.int .i64 (l.getD i 0)) else if listed.getD 13 false then V0.setCell ⟨H, i, none⟩ (.int .i64 (l.getD k 0)) else V0
  vals : ∀ j d x, swapVal H n i k l j = some (d, x) → listed.getD j false = true → a.tmps[d]? = some x

theorem SwapInv.put {H n i k : Nat} {l : List Int} {V0 : World} {listed : Array Bool} {a : Act} {v : World} (h : SwapInv H n i k l V0 listed a v) {j d : Nat} {x : Value} (hj : swapVal H n i k l j = some (d, x)) :
    SwapInv H n i k l V0 (listed.setIfInBounds j true) (a.put (some d) x) v := by
  have hd := swapVal_slot hj
  have hj13 : j ≠ 13 := by rintro rfl; cases hj
  have hj15 : j ≠ 15 := by rintro rfl; cases hj
  have hz := h.size
  refine { defers := h.defers, size := by simpa [Act.put] using h.size, t7 := ?_, t9 := ?_, t10 := ?_, o13 := ?_, o15 := ?_, world := ?_, vals := ?_ }
  · show (a.tmps.setIfInBounds d x)[7]? = _
    rw [Array.getElem?_setIfInBounds_ne (show d ≠ 7 by omega)]; exact h.t7
  · show (a.tmps.setIfInBounds d x)[9]? = _
    rw [Array.getElem?_setIfInBounds_ne (show d ≠ 9 by omega)]; exact h.t9
  · show (a.tmps.setIfInBounds d x)[10]? = _
    rw [Array.getElem?_setIfInBounds_ne (show d ≠ 10 by omega)]; exact h.t10
  · intro h13
    rw [getD_set_ne false hj13] at h13
    have := h.o13 h13
    exact ⟨getD_set_true this.1, getD_set_true this.2⟩
  · intro h15
    rw [getD_set_ne false hj15] at h15
    rw [getD_set_ne false hj13]
    exact h.o15 h15
  · rw [getD_set_ne false hj13, getD_set_ne false hj15]
    exact h.world
  · intro j' d' x' hj' hl
    show (a.tmps.setIfInBounds d x)[d']? = _
    by_cases e : j = j'
    · subst e
      rw [hj] at hj'
      injection hj' with hj'
      injection hj' with e1 e2
      subst e1; subst e2
      exact Array.getElem?_setIfInBounds_self_of_lt (show d < a.tmps.size by omega)
    · have hd' := swapVal_slot hj'
      have hj13' : j' ≠ 13 := by rintro rfl; cases hj'
      have hne : d ≠ d' := by omega
      rw [Array.getElem?_setIfInBounds_ne hne]
      rw [getD_set_ne false e] at hl
      exact h.vals j' d' x' hj' hl

theorem SwapInv.before {H n i k : Nat} {l : List Int} {V0 : World} {listed : Array Bool} {a : Act} {v : World} (h : SwapInv H n i k l V0 listed a v) (h13 : listed.getD 13 false = false) : v = V0 := by
  have h15 : listed.getD 15 false = false := by
    cases hl : listed.getD 15 false with
    | false => rfl
    | true => exact (h.o15 hl).symm.trans h13
  have := h.world
  rw [h13, h15] at this
  exact this
theorem unlisted_false {listed : Array Bool} {j : Nat} (h : listed.getD j true = false) : listed.getD j false = false := by
  have hlt : j < listed.size := by
    rcases Nat.lt_or_ge j listed.size with h' | h'
    · exact h'
    · simp [Array.getElem?_eq_none h'] at h
  simpa [hlt] using h
theorem SwapInv.no13 {H n i k : Nat} {l : List Int} {V0 : World} {listed : Array Bool} {a : Act} {v : World} (h : SwapInv H n i k l V0 listed a v) (h7 : listed.getD 7 true = false ∨ listed.getD 11 true = false ∨ listed.getD 13 true = false) : listed.getD 13 false = false := by
  cases hl : listed.getD 13 false with
  | false => rfl
  | true =>
    have := h.o13 hl
    rcases h7 with h7 | h7 | h7
    · exact this.1.symm.trans (unlisted_false h7)
    · exact this.2.symm.trans (unlisted_false h7)
    · exact hl.symm.trans (unlisted_false h7)
theorem SwapInv.box {H n i k : Nat} {l : List Int} {V0 : World} {listed : Array Bool} {a : Act} {v : World} (h : SwapInv H n i k l V0 listed a v) {x : Value} {t : TypeId} (hb : Blk V0 (H + 1) t #[x]) : v.cell? ⟨H + 1, 0, none⟩ = some x := by
  have hv := h.world
  have b1 := hb.far (p := ⟨H, i, none⟩) (by simp) (.int .i64 (l.getD k 0))
  have b2 := b1.far (p := ⟨H, k, none⟩) (by simp) (.int .i64 (l.getD i 0))
  rw [hv]
  split
  · exact b2.cell 0
  · split
    · exact b1.cell 0
    · exact hb.cell 0
theorem SwapInv.store1 {H n i k : Nat} {l : List Int} {V0 : World} {listed : Array Bool} {a : Act} {v : World} (h : SwapInv H n i k l V0 listed a v) (hs : listed.size = 16) (h13 : listed.getD 13 false = false) (h7 : listed.getD 7 false = true) (h11 : listed.getD 11 false = true) :
    SwapInv H n i k l V0 (listed.setIfInBounds 13 true) a (V0.setCell ⟨H, i, none⟩ (.int .i64 (l.getD k 0))) := by
  have h15 : listed.getD 15 false = false := by
    cases hl : listed.getD 15 false with
    | false => rfl
    | true => exact (h.o15 hl).symm.trans h13
  refine { defers := h.defers, size := h.size, t7 := h.t7, t9 := h.t9, t10 := h.t10, o13 := fun _ => ⟨getD_set_true h7, getD_set_true h11⟩, o15 := ?_, world := ?_, vals := ?_ }
  · intro h'; rw [getD_set_ne false (by omega), h15] at h'; cases h'
  · rw [getD_set_ne (i := 13) (j := 15) false (by omega), h15]
    have : (listed.setIfInBounds 13 true).getD 13 false = true := by simp [hs]
    rw [this]; rfl
  · intro j d x hj hl
    have hne : (13 : Nat) ≠ j := by rintro rfl; cases hj
    rw [getD_set_ne false hne] at hl
    exact h.vals j d x hj hl
theorem SwapInv.store2 {H n i k : Nat} {l : List Int} {V0 : World} {listed : Array Bool} {a : Act} {v : World} (h : SwapInv H n i k l V0 listed a v) (hs : listed.size = 16) (h13 : listed.getD 13 false = true) :
    SwapInv H n i k l V0 (listed.setIfInBounds 15 true) a ((V0.setCell ⟨H, i, none⟩ (.int .i64 (l.getD k 0))).setCell ⟨H, k, none⟩ (.int .i64 (l.getD i 0))) := by
  refine { defers := h.defers, size := h.size, t7 := h.t7, t9 := h.t9, t10 := h.t10, o13 := fun _ => ⟨getD_set_true (h.o13 h13).1, getD_set_true (h.o13 h13).2⟩, o15 := ?_, world := ?_, vals := ?_ }
  · intro _; exact getD_set_true h13
  · have : (listed.setIfInBounds 15 true).getD 15 false = true := by simp [hs]
    rw [this]; rfl
  · intro j d x hj hl
    have hne : (15 : Nat) ≠ j := by rintro rfl; cases hj
    rw [getD_set_ne false hne] at hl
    exact h.vals j d x hj hl

theorem perm_ok (b o : Nat) (s : Int) (n : Nat) (w : World) (hc : w.cell? ⟨b, o, none⟩ = some (.int .u64 s)) (hf : w.frozen? ⟨b, o, none⟩ = false) (hn : n ≤ 65536) :
    Calls Try.prog 60 #[.pointer (some ⟨b, o, none⟩), .int .i64 n] w fun e w' =>
      e = .returned (.tuple #[.slice (some ⟨w.heap.size, 0, none⟩) n n, .int .i64 0]) ∧ PermPost w b o n (permOf s n).2 (permOf s n).1 w' := by
  refine callsIn_wide (n := 5).1 ?_
  have hmk := run_make_ints (P := Try.prog) 26 3 Try.underlying26 (by kernel_rfl) n (by omega)
  refine callsIn_of_wp_marks Try.func60 rfl trivial ?_ rfl
  simp only [Try.ntmps60, List.size_toArray, List.length_cons, List.length_nil, Nat.reduceAdd, Nat.reduceSub, Array.replicate_succ, Array.replicate_zero, List.push_toArray, List.append_toArray, List.nil_append, List.cons_append]
  gi_wp2_with (refine ⟨trivial, ?_⟩; gi_at_call 69; refine (callsIn_wide.2 (may_ok _ _ _ _ _ (by omega) (by omega))).mono ?_; rintro e w' ⟨rfl, rfl⟩)
  clear hmk
  gi_loopw [21] (fun i wr => ∃ k : Nat, k ≤ n ∧ i = .int .i64 k ∧ wr = (w.alloc (.cells (ints (iotaTo k n)) 3)).alloc (.cells #[.slice (some ⟨w.heap.size, 0, none⟩) n n] 26)) (fun i _ => n - (intOf i).toNat)
  case atStart => exact ⟨0, Nat.zero_le _, rfl, by rw [iotaTo_zero]⟩
  case round =>
    obtain ⟨k, hk, rfl, hwr⟩ := hrel
    have hB1 : Blk wr (w.heap.size + 1) 26 #[.slice (some ⟨w.heap.size, 0, none⟩) n n] := by
      rw [hwr]; have := Blk.new (w.alloc (.cells (ints (iotaTo k n)) 3)) 26 #[.slice (some ⟨w.heap.size, 0, none⟩) n n]; rwa [World.size_alloc] at this
    have hB0 : Blk wr w.heap.size 3 (ints (iotaTo k n)) := by rw [hwr]; exact (Blk.new w _ _).alloc _
    have hc1 := hB1.cell 0
    have hf1 := hB0.frozen k
    have hset : wr.setCell ⟨w.heap.size, k, none⟩ (.int .i64 k) = (w.alloc (.cells (ints (iotaTo (k + 1) n)) 3)).alloc (.cells #[.slice (some ⟨w.heap.size, 0, none⟩) n n] 26) := by
      rw [hwr, keepAlloc_set (by simp), newBlk_set, ints_set, iotaTo_succ]
    have hset' := Lib.hid hset
    clear hset
    have hset := hset'
    clear hset'
    simp only [List.getElem?_toArray, List.getElem?_cons_zero] at hc1
    by_cases hlt : k < n
    · have hc0 := hB0.int _ k (by rw [iotaTo_length]; exact hlt)
      clear hB0 hB1 hwr
      gi_wp2
      exact ⟨⟨k + 1, by omega, by go_num, hset.out⟩, by simp [intOf]; omega⟩
    · obtain rfl : k = n := by omega
      clear hset hB0 hB1 hf1
      gi_wp2_with (refine ⟨trivial, ?_⟩; gi_at_call 70; refine (callsIn_wide.2 (changes_any _ _ _)).mono ?_; rintro e w' ⟨rfl, rfl⟩)
      have hst := fun L => perm_start b o s k w hc hf L
      refine wpIn_range rfl (by omega) (gf := 73) (lb := #[.pointer (some ⟨w.heap.size + 3, 0, none⟩), .pointer (some ⟨w.heap.size + 2, 0, none⟩)]) (by simp [Act.eval]) trivial (enters_of Try.func73 (by kernel_rfl) rfl) ?_
      intro fn _
      simp only [World.size_alloc]
      refine (changes1_in w b o k hn _ s (iota k) _ (hst _) ?round).mono ?_
      case round =>
        clear hst hwr hc1
        intro s1 l1 i k1 W1 hI hi1 hi2 hk1 hk2
        refine ⟨fn, _, _, _, run_yield hI.lp rfl, roundIn_of_wpIn trivial ?_⟩
        obtain ⟨W2, hbeg, hI2⟩ := hI.begins (P := Try.prog) rfl
        gi_wp2
        refine ⟨W2, hbeg, ?_⟩
        clear hbeg
        gi_wp2
        clear hI
        obtain ⟨i, rfl⟩ := Int.eq_ofNat_of_zero_le (show 0 ≤ i by omega)
        obtain ⟨m, rfl⟩ := Int.eq_ofNat_of_zero_le (show 0 ≤ k1 by omega)
        have hI3 := hI2.drew
        refine wpIn_region_inv (by kernel_rfl) ?back (SwapInv w.heap.size k i m l1 W2.drew) ?step ?done ?start
        case back =>
          intro j o ho
          have hj : j < 16 := (Array.getElem?_eq_some_iff.1 ho).1
          obtain rfl | rfl | rfl | rfl | rfl | rfl | rfl | rfl | rfl | rfl | rfl | rfl | rfl | rfl | rfl | rfl : j = 0 ∨ j = 1 ∨ j = 2 ∨ j = 3 ∨ j = 4 ∨ j = 5 ∨ j = 6 ∨ j = 7 ∨ j = 8 ∨ j = 9 ∨ j = 10 ∨ j = 11 ∨ j = 12 ∨ j = 13 ∨ j = 14 ∨ j = 15 := by omega
          all_goals (simp at ho; subst ho; simp [Region.binds])
        case start =>
          exact { defers := rfl, size := rfl, t7 := rfl, t9 := rfl, t10 := rfl, o13 := fun h => by simp at h, o15 := fun h => by simp at h, world := by simp, vals := fun j d x _ h => by rw [Array.getD_eq_getD_getElem?, Array.getElem?_replicate] at h; split at h <;> cases h }
        case done =>
          intro listed a v hall hS
          have h15 := hall 15 (by simp)
          have hv := hS.world
          rw [h15] at hv
          have hv : v = (W2.drew.setCell ⟨w.heap.size, i, none⟩ (.int .i64 (l1.getD m 0))).setCell ⟨w.heap.size, m, none⟩ (.int .i64 (l1.getD i 0)) := hv
          have hI4 := (hI3.store i (l1.getD m 0)).store m (l1.getD i 0)
          rw [← hv] at hI4
          obtain ⟨W3, hend, hI5⟩ := hI4.endsRound (P := Try.prog)
          exact ⟨_, W3, hend, rfl, hI5⟩
        case step =>
          intro listed a v j o hsz ho hun hdep hS
          have hj : j < 16 := (Array.getElem?_eq_some_iff.1 ho).1
          have t7 := hS.t7
          have t9 := hS.t9
          have t10 := hS.t10
          have hbox := hS.box hI3.box
          have hi3 : i < k := by omega
          have hm1 : m < k := by omega
          clear t7 t9 t10
          have t7 := hS.t7
          have t9 := hS.t9
          have t10 := hS.t10
          obtain rfl | rfl | rfl | rfl | rfl | rfl | rfl | rfl | rfl | rfl | rfl | rfl | rfl | rfl | rfl | rfl : j = 0 ∨ j = 1 ∨ j = 2 ∨ j = 3 ∨ j = 4 ∨ j = 5 ∨ j = 6 ∨ j = 7 ∨ j = 8 ∨ j = 9 ∨ j = 10 ∨ j = 11 ∨ j = 12 ∨ j = 13 ∨ j = 14 ∨ j = 15 := by omega
          · simp at ho
            subst ho
            refine wpOpIn_step rfl (fun K' hK => ?_)
            simp [Region.wanted, Oper.wpIn, execOp, go_sem, Act.eval, t7, hbox]
            exact hK _ _ (hS.put rfl)
          · simp at ho
            subst ho
            refine wpOpIn_step rfl (fun K' hK => ?_)
            simp [Region.wanted, Oper.wpIn, execOp, go_sem, Act.eval, t9]
            exact hK _ _ (hS.put rfl)
          · simp at ho
            subst ho
            refine wpOpIn_step rfl (fun K' hK => ?_)
            simp [Region.wanted, Oper.wpIn, execOp, go_sem, Act.eval, t7, hbox]
            exact hK _ _ (hS.put rfl)
          · simp at ho
            subst ho
            refine wpOpIn_step rfl (fun K' hK => ?_)
            simp [Region.wanted, Oper.wpIn, execOp, go_sem, Act.eval, t10]
            exact hK _ _ (hS.put rfl)
          · simp at ho
            subst ho
            refine wpOpIn_step rfl (fun K' hK => ?_)
            simp [Region.wanted, Oper.wpIn, execOp, go_sem, Act.eval, t7, hbox]
            exact hK _ _ (hS.put rfl)
          · simp at ho
            subst ho
            refine wpOpIn_step rfl (fun K' hK => ?_)
            simp [Region.wanted, Oper.wpIn, execOp, go_sem, Act.eval, t10]
            exact hK _ _ (hS.put rfl)
          · simp at ho
            subst ho
            have e1 := hS.vals 4 _ _ rfl (hdep ⟨4, .data⟩ (by simp) rfl)
            have e2 := hS.vals 5 _ _ rfl (hdep ⟨5, .data⟩ (by simp) rfl)
            refine wpOpIn_step rfl (fun K' hK => ?_)
            simp [Region.wanted, Oper.wpIn, execOp, go_sem, Act.eval, e1, e2, hm1]
            exact hK _ _ (hS.put rfl)
          · simp at ho
            subst ho
            have e1 := hS.vals 6 _ _ rfl (hdep ⟨6, .data⟩ (by simp) rfl)
            have hv := hS.before (hS.no13 (by simp [hun]))
            have hc3 := hI3.row.int l1 m (by have := hI3.len; omega)
            rw [← hv] at hc3
            refine wpOpIn_step rfl (fun K' hK => ?_)
            simp [Region.wanted, Oper.wpIn, execOp, go_sem, Act.eval, e1, hc3]
            exact hK _ _ (hS.put rfl)
          · simp at ho
            subst ho
            refine wpOpIn_step rfl (fun K' hK => ?_)
            simp [Region.wanted, Oper.wpIn, execOp, go_sem, Act.eval, t7, hbox]
            exact hK _ _ (hS.put rfl)
          · simp at ho
            subst ho
            refine wpOpIn_step rfl (fun K' hK => ?_)
            simp [Region.wanted, Oper.wpIn, execOp, go_sem, Act.eval, t9]
            exact hK _ _ (hS.put rfl)
          · simp at ho
            subst ho
            have e1 := hS.vals 8 _ _ rfl (hdep ⟨8, .data⟩ (by simp) rfl)
            have e2 := hS.vals 9 _ _ rfl (hdep ⟨9, .data⟩ (by simp) rfl)
            refine wpOpIn_step rfl (fun K' hK => ?_)
            simp [Region.wanted, Oper.wpIn, execOp, go_sem, Act.eval, e1, e2, hi3]
            exact hK _ _ (hS.put rfl)
          · simp at ho
            subst ho
            have e1 := hS.vals 10 _ _ rfl (hdep ⟨10, .data⟩ (by simp) rfl)
            have hv := hS.before (hS.no13 (by simp [hun]))
            have hc3 := hI3.row.int l1 i (by have := hI3.len; omega)
            rw [← hv] at hc3
            refine wpOpIn_step rfl (fun K' hK => ?_)
            simp [Region.wanted, Oper.wpIn, execOp, go_sem, Act.eval, e1, hc3]
            exact hK _ _ (hS.put rfl)
          · simp at ho
            subst ho
            have e1 := hS.vals 0 _ _ rfl (hdep ⟨0, .data⟩ (by simp) rfl)
            have e2 := hS.vals 1 _ _ rfl (hdep ⟨1, .data⟩ (by simp) rfl)
            refine wpOpIn_step rfl (fun K' hK => ?_)
            simp [Region.wanted, Oper.wpIn, execOp, go_sem, Act.eval, e1, e2, hi3]
            exact hK _ _ (hS.put rfl)
          · simp at ho
            subst ho
            have e1 := hS.vals 12 _ _ rfl (hdep ⟨12, .data⟩ (by simp) rfl)
            have h7 := hdep ⟨7, .data⟩ (by simp) rfl
            have e2 := hS.vals 7 _ _ rfl h7
            have h11 := hdep ⟨11, .phase⟩ (by simp) rfl
            have h13 := hS.no13 (.inr (.inr hun))
            have hv := hS.before h13
            have hc3 := hI3.row.int l1 i (by have := hI3.len; omega)
            have hf3 := hI3.row.frozen i
            rw [← hv] at hc3 hf3
            refine wpOpIn_step rfl (fun K' hK => ?_)
            simp [Region.wanted, Oper.wpIn, execOp, go_sem, Act.eval, e1, e2, hc3, hf3]
            rw [hv]
            exact hK _ _ (hS.store1 hsz h13 h7 h11)
          · simp at ho
            subst ho
            have e1 := hS.vals 2 _ _ rfl (hdep ⟨2, .data⟩ (by simp) rfl)
            have e2 := hS.vals 3 _ _ rfl (hdep ⟨3, .data⟩ (by simp) rfl)
            refine wpOpIn_step rfl (fun K' hK => ?_)
            simp [Region.wanted, Oper.wpIn, execOp, go_sem, Act.eval, e1, e2, hm1]
            exact hK _ _ (hS.put rfl)
          · simp at ho
            subst ho
            have e1 := hS.vals 14 _ _ rfl (hdep ⟨14, .data⟩ (by simp) rfl)
            have h11 := hdep ⟨11, .data⟩ (by simp) rfl
            have e2 := hS.vals 11 _ _ rfl h11
            have h13 := hdep ⟨13, .chain⟩ (by simp) rfl
            have hv := hS.world
            rw [unlisted_false hun, h13] at hv
            have hI4 := hI3.store i (l1.getD m 0)
            have hc3 := hI4.row.int _ m (by have := hI4.len; omega)
            have hf3 := hI4.row.frozen m
            have hv : v = W2.drew.setCell ⟨w.heap.size, i, none⟩ (.int .i64 (l1.getD m 0)) := hv
            rw [← hv] at hc3 hf3
            refine wpOpIn_step rfl (fun K' hK => ?_)
            simp [Region.wanted, Oper.wpIn, execOp, go_sem, Act.eval, e1, e2, hc3, hf3]
            rw [hv]
            exact hK _ _ (hS.store2 hsz h13)
      · rintro e w' ⟨⟨v, rfl⟩, hI⟩
        obtain ⟨W', L', hend, hI2⟩ := hI.ends (P := Try.prog) (by simp)
        refine ⟨none, W', hend, ?_⟩
        clear hend hst hwr hc1
        have hc1 := hI2.box.cell 0
        simp only [List.getElem?_toArray, List.getElem?_cons_zero] at hc1
        have hK := hI2.df
        gi_wp2
        refine ⟨by simp, .inl ⟨_, _, rfl, run_takeDeferred hK, ?_⟩⟩
        exact ⟨_, results_tmp2 rfl _ _ _, rfl, hI2.post _⟩
theorem perm_src (b : Nat) (s : Int) (n : Nat) (w : World) (hb : Blk w b 103 #[.int .u64 s]) (hn : n ≤ 65536) :
    Calls Try.prog 60 #[.pointer (some ⟨b, 0, none⟩), .int .i64 n] w fun e w' => ∃ g,
      e = .returned (.tuple #[.slice (some ⟨g, 0, none⟩) n n, .int .i64 0]) ∧ Blk w' g 3 (ints (permOf s n).1) ∧ Blk w' b 103 #[.int .u64 (permOf s n).2] ∧ w.heap.size ≤ g ∧ w.grownBy w' (some b) := by
  refine (perm_ok b 0 s n w (hb.cell 0) (hb.frozen 0) hn).mono fun e w' ⟨he, hP⟩ => ⟨_, he, hP.row, ?_, Nat.le_refl _, ?_⟩
  · have h1 := hP.below.block b hb.lt
    exact h1.trans (hb.set_ 0 _)
  · exact ⟨hP.below.os, hP.below.tape, hP.below.output, by simpa [World.setCell] using hP.below.size, fun k hk hne => (hP.below.block k hk).trans (Below.heap_setCell w ⟨b, 0, none⟩ _ k (fun e => hne (by rw [e])))⟩

theorem perm_bad (a : Addr) (n : Int) (w : World) (h : n < 0 ∨ 65536 < n) : Calls Try.prog 60 #[.pointer (some a), .int .i64 n] w fun e w' => e = .returned (.tuple #[.slice none 0 0, .int .i64 1]) ∧ w = w' := by
  go_enter Try.func60, Try.ntmps60
  go_wp2_with (go_at_call 69; refine (may_bad _ _ _ _ _ h).mono ?_; rintro e w' ⟨rfl, rfl⟩)
  go_ret2
  exact ⟨rfl, rfl⟩
theorem perm_nil (n : Int) (w : World) : Calls Try.prog 60 #[.pointer none, .int .i64 n] w fun e w' => e = .returned (.tuple #[.slice none 0 0, .int .i64 3]) ∧ w = w' := by
  go_enter Try.func60, Try.ntmps60
  go_wp2_with (go_at_call 69; refine (may_nil _ _ _ _).mono ?_; rintro e w' ⟨rfl, rfl⟩)
  go_ret2
  exact ⟨rfl, rfl⟩

end Go.Proofs.Ytiamppbgpoffmaa
