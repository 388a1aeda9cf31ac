/- A slice of the call's own: append of one element; numbers in it, read and stored. -/
import Derived.Test.YtoglemdooaiddaaMem
import Derived.Maps.AppendAt
import Derived.Laws.OwnMore
import Derived.OwnWalk
namespace Go.Proofs.Ytoglemdooaiddaa
open Go.RowKit

section
variable {P : Program} {ops : Array Oper} {rest : List Oper} {o : Oper} {a : Act} {Q : Exit → Act → World → Prop}

/-- 'append(v, y)', y one cell; the goal's world holds y's own box already. -/
theorem append_one {W : World} (base : Nat) (hgd : o.guard = none) (s x : Operand) (t e : TypeId) (z : Value) (bytes : Nat)
    (ho : o.op = .call { callee := .builtin .append, args := #[s, x], argTypes := #[t, t] })
    (ht : P.underlying t = some (.slice e)) (hinfo : (P.info? e).map (fun i => (i.zero, i.size, i.bytes)) = some (some z, 1, bytes)) (hz : z.cells.size = 1) (hb0 : 0 < bytes)
    (v : Value) (n : Nat) (xs : List Value) (y : Value) (hs : a.eval s = v) (hx : a.eval x = .slice (some ⟨W.heap.size, 0, none⟩) 1 1) (h1 : y.oneCell' = true)
    (HO : W.ownsRow base e 1 v n xs) (hbase : base ≤ W.heap.size) (hl : (n + 1) * bytes ≤ 140737488355328)
    (h : ∀ v1 w1, w1.ownsRow base e 1 v1 (n + 1) (xs ++ [y]) → W.grownBy w1 v.ownBlock → (v1.ownBlock = v.ownBlock ∨ v1.ownBlock = some (W.heap.size + 1)) → wpList P ops Q rest (a.put o.dst v1) w1) :
    wpList P ops Q (o :: rest) a (W.alloc (.cells #[y] e)) := by
  obtain ⟨i0, hi, hzz⟩ := Option.map_eq_some_iff.1 hinfo
  simp only [Prod.mk.injEq] at hzz
  obtain ⟨hz0, hz1, hz2⟩ := hzz
  have hlen : n + 1 ≤ 140737488355328 := Nat.le_trans (Nat.le_mul_of_pos_right _ hb0) hl
  refine wpList_append_own_at (W.alloc (.cells #[y] e)) hgd s x t ho base e i0 z 1 bytes ht hi hz0 hz1 hz2 hz (by omega) v n xs hs (HO.alloc _) ⟨W.heap.size, 0, none⟩ 1 1 [y] hx rfl
    (cell_one_new _ _ _) (by simpa using h1) (by simp only [maxLen]; omega) hl (by simp; omega) ?_
  intro v1 w1 hown hg _ hat
  refine h v1 w1 hown ?_ (by simpa using hat)
  exact ⟨hg.os, hg.tape, hg.output, Nat.le_trans (by simp) hg.size, fun k hk hne => (hg.block k (by simp; omega) hne).trans (Below.heap_alloc W _ k hk)⟩
end

/-- The numbers of a list as values. -/
def vals (l : List Int) : List Value := l.map fun x => Value.int .i64 x
theorem vals_length (l : List Int) : (vals l).length = l.length := by simp [vals]
theorem vals_at (l : List Int) (j : Nat) (h : j < l.length) : (vals l)[j]? = some (.int .i64 (nth l j)) := by simp [vals, nth, h]
theorem vals_set (l : List Int) (j : Nat) (x : Int) : (vals l).set j (.int .i64 x) = vals (l.set j x) := by simp [vals, List.map_set]
theorem vals_snoc (l : List Int) (x : Int) : vals l ++ [.int .i64 x] = vals (l ++ [x]) := by simp [vals]

section
variable {w : World} {base n g cap : Nat} {e : TypeId} {l : List Int}
theorem own_shape {v : Value} {xs : List Value} {size : Nat} (h : w.ownsRow base e size v n xs) (hn : 0 < n) : ∃ g cap, v = .slice (some ⟨g, 0, none⟩) n cap ∧ base ≤ g ∧ g < w.heap.size := by
  rcases h.2 with ⟨_, h0⟩ | ⟨g, cap, cur, rfl, hb, hg, _⟩
  · omega
  · exact ⟨g, cap, rfl, hb, (Array.getElem?_eq_some_iff.1 hg).1⟩
theorem own_lt' {v : Value} {xs : List Value} {size : Nat} (h : w.ownsRow base e size v n xs) (k : Nat) (hk : v.ownBlock = some k) : base ≤ k ∧ k < w.heap.size := h.lt k hk
theorem own_int (h : w.ownsRow base e 1 (.slice (some ⟨g, 0, none⟩) n cap) n (vals l)) (j : Nat) (hj : j < n) : w.cell? ⟨g, j, none⟩ = some (.int .i64 (nth l j)) := by
  have hl : l.length = n := by have := h.1; simp [vals] at this; exact this
  rw [h.cellAt j (by omega), vals_at l j (by omega)]
theorem own_set (h : w.ownsRow base e 1 (.slice (some ⟨g, 0, none⟩) n cap) n (vals l)) (j : Nat) (x : Int) : (w.setCell ⟨g, j, none⟩ (.int .i64 x)).ownsRow base e 1 (.slice (some ⟨g, 0, none⟩) n cap) n (vals (l.set j x)) := by
  rw [← vals_set]; exact (h.stored j _).1
/-- A slice that is owned reads as its list. -/
theorem own_row {v : Value} (h : w.ownsRow base e 1 v n (vals l)) : ∃ A c, v = .slice A n c ∧ Row w A l := by
  have hl : l.length = n := by have := h.1; simp [vals] at this; exact this
  rcases Nat.eq_zero_or_pos n with h0 | h0
  · subst h0
    rcases h.2 with ⟨rfl, _⟩ | ⟨g, cap, cur, rfl, _⟩
    · exact ⟨none, 0, rfl, fun j hj => by omega⟩
    · exact ⟨_, cap, rfl, fun j hj => by omega⟩
  · obtain ⟨g, cap, rfl, _, _⟩ := own_shape h h0
    exact ⟨_, cap, rfl, fun j hj => ⟨g, 0, rfl, by rw [Nat.zero_add]; exact own_int h j (by omega)⟩⟩
end
end Go.Proofs.Ytoglemdooaiddaa
