/- A region that draws its order, walked by what holds of it: each operation that may come up keeps the word 'I', whatever has been listed. Serves in a round's frame too. -/
import Derived.OrdersIn
import Derived.RangeFuncRecord
import Derived.RangeFuncLeaves
import Derived.WalkKit
namespace Go.Proofs.Ytoglemdooaiddaa
open Go.RowKit

section
variable {F : Fence} {n : Nat} {P : Program} {ops : Array Oper} {Q : Exit → Act → World → Prop} {md : Region.Mode}

theorem unlisted_set {listed : Array Bool} {i : Nat} (h : listed.getD i true = false) : (listed.setIfInBounds i true).count false + 1 = listed.count false := by
  have hlt : i < listed.size := by
    rcases Nat.lt_or_ge i listed.size with h' | h'
    · exact h'
    · simp [Array.getElem?_eq_none h'] at h
  have hi : listed[i] = false := by simpa [hlt] using h
  have hm := Array.boole_getElem_le_count (xs := listed) (i := i) (a := false) hlt
  rw [hi] at hm
  rw [Array.setIfInBounds_def, dif_pos hlt, Array.count_set hlt, hi]
  have hm' : 1 ≤ listed.count false := hm
  show listed.count false - 1 + 0 + 1 = listed.count false
  omega

/-- All edges that bind go back. -/
def backward (md : Region.Mode) (ops : Array Oper) : Prop := ∀ i o, ops[i]? = some o → ∀ e ∈ o.after, Region.binds md e = true → e.on < i

theorem ready_of_unlisted (hb : backward md ops) {listed : Array Bool} (hs : listed.size = ops.size) : ∀ i, listed.getD i true = false → Region.ready md ops listed ≠ [] := by
  intro i
  induction i using Nat.strongRecOn with
  | ind i ih =>
    intro hi hr
    have hlt : i < ops.size := by
      rcases Nat.lt_or_ge i listed.size with h' | h'
      · omega
      · simp [Array.getElem?_eq_none h'] at hi
    have hm : i ∈ Region.ready md ops listed := by
      refine mem_ready.2 ⟨hi, ops[i], Array.getElem?_eq_getElem hlt, fun e he hbe => ?_⟩
      have hlt2 := hb i _ (Array.getElem?_eq_getElem hlt) e he hbe
      cases hl : listed.getD e.on false with
      | true => rfl
      | false =>
        refine absurd hr (ih e.on hlt2 ?_)
        have : e.on < listed.size := by omega
        simpa [this] using hl
    rw [hr] at hm
    cases hm

theorem wpAnyIn_inv (hb : backward md ops) {I : Array Bool → Act → World → Prop}
    (hstep : ∀ listed a w i o, listed.size = ops.size → ops[i]? = some o → listed.getD i true = false → (∀ e ∈ o.after, Region.binds md e = true → listed.getD e.on false = true) → I listed a w →
      wpOpIn F n P ops Q i (I (listed.setIfInBounds i true)) a w)
    (hdone : ∀ listed a w, (∀ i, i < ops.size → listed.getD i false = true) → I listed a w → Q .normal a w) :
    ∀ (fuel : Nat) (listed : Array Bool) (a : Act) (w : World), listed.size = ops.size → listed.count false ≤ fuel → I listed a w → wpAnyIn F n P md ops Q fuel listed a w := by
  have fin : ∀ (listed : Array Bool) (a : Act) (w : World), listed.size = ops.size → Region.ready md ops listed = [] → I listed a w → Q .normal a w := by
    intro listed a w hs hr hI
    refine hdone listed a w (fun i hi => ?_) hI
    cases hl : listed.getD i false with
    | true => rfl
    | false =>
      exfalso
      refine ready_of_unlisted hb hs i ?_ hr
      have : i < listed.size := by omega
      simpa [this] using hl
  intro fuel
  induction fuel with
  | zero =>
    intro listed a w hs hc hI
    have hr : Region.ready md ops listed = [] := by
      rw [List.eq_nil_iff_forall_not_mem]
      intro i hi
      have h0 := unlisted_set (mem_ready.1 hi).1
      omega
    exact ⟨hr, fin listed a w hs hr hI⟩
  | succ fuel ih =>
    intro listed a w hs hc hI
    refine ⟨fun hr => fin listed a w hs hr hI, fun i hi => ?_⟩
    obtain ⟨h0, o, ho, hall⟩ := mem_ready.1 hi
    have hc' := unlisted_set h0
    exact wpOpIn_mono (fun a' w' h' => ih (listed.setIfInBounds i true) a' w' (by simpa using hs) (by omega) h') (hstep listed a w i o hs ho h0 hall hI)

theorem wpIn_region_inv {id : Nat} {a : Act} {w : World} (hm : P.follows .mixedOrders = true) (hb : backward .any ops) (I : Array Bool → Act → World → Prop)
    (hstep : ∀ listed a w i o, listed.size = ops.size → ops[i]? = some o → listed.getD i true = false → (∀ e ∈ o.after, Region.binds .any e = true → listed.getD e.on false = true) → I listed a w →
      wpOpIn F n P ops Q i (I (listed.setIfInBounds i true)) a w)
    (hdone : ∀ listed a w, (∀ i, i < ops.size → listed.getD i false = true) → I listed a w → Q .normal a w)
    (h0 : I (Array.replicate ops.size false) a w.drew) : (Code.region id ops true).wpIn F n P Q a w :=
  wpIn_region_any hm (wpAnyIn_inv hb hstep hdone _ _ _ _ (by simp) (by simp) h0)

/-- A range over a function, entered at an outermost loop: the block for the rounds' deferred calls and the record are laid; the function is called with yield. -/
theorem wpIn_range {g : Operand} {ps : Array Tmp} {assign body : Code} {a : Act} {w : World} (hro : F.round = none) (h1 : 1 ≤ n) {gf : Nat} {lb : Array Value}
    (hg : a.eval g = .func (.func gf) #[] lb) (hFg : F.fn gf) (eg : ∀ args w, (callFunc gf args).run P w = .ok (.enter gf args) w)
    (h : ∀ fn, F.fn fn → CallsIn F (n - 1) P gf (#[.func (.yield (w.heap.size + 1)) #[] #[]] ++ lb)
      ((w.alloc (.deferred (some []))).alloc (.loop { state := .ready, pending := none, fn, tmps := a.tmps, params := ps, assign, body, defers := w.heap.size }))
      (rangePost F n P (w.heap.size + 1) Q { a with defers := { target := .collected w.heap.size, args := #[] } :: a.defers })) :
    (Code.rangeFunc g ps assign body).wpIn F n P Q a w := by
  refine wpIn_rangeFunc ?_
  intro fn hfn
  rw [hro]
  have h := h fn hfn
  have he := run_enterLoop_outer (P := P) (w := w) fn a.tmps ps assign body
  generalize (w.alloc (.deferred (some []))).alloc (.loop { state := .ready, pending := none, fn, tmps := a.tmps, params := ps, assign, body, defers := w.heap.size }) = W1 at h he
  refine ⟨w.heap.size + 1, [{ target := .collected w.heap.size, args := #[] }], W1, { target := .fn (.func gf) lb, args := #[.func (.yield (w.heap.size + 1)) #[] #[]] }, W1, gf,
    #[.func (.yield (w.heap.size + 1)) #[] #[]] ++ lb, W1, he, ?_, ?_, ?_, fun _ => h1, ?_⟩
  · simp only [resolve, hg]
    simp [go_sem]
  · intro f' hf'; simp [Target.leads] at hf'; subst hf'; exact hFg
  · simp [invoke, go_sem, eg]
  · exact h

end
end Go.Proofs.Ytoglemdooaiddaa
