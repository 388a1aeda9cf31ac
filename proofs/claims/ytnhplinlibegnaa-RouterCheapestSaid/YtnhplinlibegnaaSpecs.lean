/- Specs in memory of one's own: cells, copies. -/
import Derived.Test.YtnhplinlibegnaaAwake15
import Derived.Test.YtnhplinlibegnaaCopy
namespace Go.Proofs.Ytnhplinlibegnaa
open Go.RowKit

def Sp.cells (s : Sp) : List Value := [.int .i64 s.k, .int .i64 s.a, .int .i64 s.b, .int .i64 s.c]
/-- The cells of a list of specs. -/
def cellsS : List Sp → List Value
  | [] => []
  | s :: l => s.cells ++ cellsS l
theorem cellsS_length : ∀ l : List Sp, (cellsS l).length = l.length * 4
  | [] => rfl
  | s :: l => by rw [cellsS, List.length_append, cellsS_length l, List.length_cons]; simp [Sp.cells]; omega
theorem cellsS_at : ∀ (l : List Sp) (q i : Nat), q < l.length → i < 4 → (cellsS l)[q * 4 + i]? = (nthS l q).cells[i]?
  | [], q, i, h, _ => by simp at h
  | s :: l, 0, i, _, hi => by
    rw [cellsS, Nat.zero_mul, Nat.zero_add, List.getElem?_append_left (by simpa [Sp.cells] using hi)]
    rfl
  | s :: l, q + 1, i, h, hi => by
    have h4 : s.cells.length = 4 := rfl
    rw [cellsS, List.getElem?_append_right (by rw [h4]; omega), h4, show (q + 1) * 4 + i - 4 = q * 4 + i by omega, cellsS_at l q i (by simpa using h) hi]
    simp [nthS]
theorem cellsS_one : ∀ l : List Sp, ∀ v ∈ cellsS l, v.oneCell' = true
  | [], v, h => by simp [cellsS] at h
  | s :: l, v, h => by
    rw [cellsS, List.mem_append] at h
    rcases h with h | h
    · simp [Sp.cells] at h
      rcases h with rfl | rfl | rfl | rfl <;> rfl
    · exact cellsS_one l v h
theorem cellsS_append (l m : List Sp) : cellsS (l ++ m) = cellsS l ++ cellsS m := by
  induction l with
  | nil => rfl
  | cons s l ih => simp [cellsS, ih]
theorem Specs.of_blk {w : World} {g : Nat} {t : TypeId} {l : List Sp} {rest : List Value} (h : Blk w g t (cellsS l ++ rest).toArray) : Specs w (some ⟨g, 0, none⟩) l := fun j hj => by
  have hh : ∀ i, i < 4 → w.cell? ⟨g, 0 + j * 4 + i, none⟩ = (nthS l j).cells[i]? := fun i hi => by
    rw [h.cell]
    have := cellsS_at l j i hj hi
    rw [Nat.zero_add, List.getElem?_toArray, List.getElem?_append_left (by rw [cellsS_length]; omega)]
    exact this
  exact ⟨g, 0, rfl, hh 0 (by omega), hh 1 (by omega), hh 2 (by omega), hh 3 (by omega)⟩
theorem Specs.read {w : World} {A : Option Addr} {l : List Sp} (h : Specs w A l) {ad : Addr} (hA : A = some ad) (j : Nat) (v : Value) (hj : (cellsS l)[j]? = some v) : w.cell? (ad.add j) = some v := by
  have hjl : j < l.length * 4 := by
    have := (List.getElem?_eq_some_iff.1 hj).1
    rwa [cellsS_length] at this
  have hq : j / 4 < l.length := by omega
  have hi : j % 4 < 4 := Nat.mod_lt _ (by omega)
  have hd : j / 4 * 4 + j % 4 = j := by omega
  obtain ⟨g, off, hA', c0, c1, c2, c3⟩ := h (j / 4) hq
  obtain rfl : ad = ⟨g, off, none⟩ := by simpa [hA] using hA'
  have hc := cellsS_at l (j / 4) (j % 4) hq hi
  rw [hd, hj] at hc
  have hadd : (⟨g, off, none⟩ : Addr).add j = ⟨g, off + j / 4 * 4 + j % 4, none⟩ := by
    have e : off + j / 4 * 4 + j % 4 = off + j := by omega
    rw [e]
    unfold Addr.add; split <;> simp_all
  rw [hadd]
  generalize j % 4 = i at hc hi
  match i, hi with
  | 0, _ => rw [hc]; exact c0
  | 1, _ => rw [hc]; exact c1
  | 2, _ => rw [hc]; exact c2
  | 3, _ => rw [hc]; exact c3

theorem spec_size : (Try.prog.info? 24).map (·.size) = some 4 := by kernel_rfl
theorem spec_info : (Try.prog.info? 24).map (fun i => (i.zero, i.size, i.bytes)) = some (some (.agg #[.int .i64 0, .int .i64 0, .int .i64 0, .int .i64 0]), 4, 32) := by kernel_rfl
theorem run_make_specs (n : Nat) (hn : n ≤ 1000000) (w : World) :
    (Instr.makeSlice 30 (.int .i64 (n : Int)) (.int .i64 (n : Int))).run Try.prog w = .ok (.slice (some ⟨w.heap.size, 0, none⟩) n n) (w.alloc (.cells (madeCells #[.int .i64 0, .int .i64 0, .int .i64 0, .int .i64 0] (n * 4)) 24)) := by
  obtain ⟨i0, h0, hz⟩ := Option.map_eq_some_iff.1 spec_info
  simp only [Prod.mk.injEq] at hz
  obtain ⟨hz0, hz1, hz2⟩ := hz
  have h := run_make (P := Try.prog) w 30 24 i0 _ Try.underlying30 h0 hz0 .i64 .i64 (n : Int) (n : Int) (by omega) (Int.le_refl _) (by rw [hz2]; omega) (by omega)
  rw [h, hz1, Int.toNat_natCast]
  rfl
section
variable {P : Program} {w : World} {ops : Array Oper} {rest : List Oper} {o : Oper} {a : Act} {Q : Exit → Act → World → Prop}
/-- All specs are copied to a row of as many. -/
theorem copy_specs (hgd : o.guard = none) (d s : Operand) (dT sT : TypeId)
    (ho : o.op = .call { callee := .builtin .copy, args := #[d, s], argTypes := #[dT, sT] }) (elem : TypeId) (hu : P.underlying dT = some (.slice elem)) (hsz : (P.info? elem).map (·.size) = some 4)
    (sp : Option Addr) (cap : Nat) (l : List Sp) (g : Nat) (cur : Array Value) (hd : a.eval d = .slice (some ⟨g, 0, none⟩) l.length l.length) (hs : a.eval s = .slice sp l.length cap)
    (t : TypeId) (hg : Blk w g t cur) (hl : Specs w sp l) (hsize : cur.size = l.length * 4)
    (h : ∀ w', Blk w' g t (cellsS l).toArray → w.grownBy w' (some g) → w'.heap.size = w.heap.size → wpList P ops Q rest (a.put o.dst (goInt l.length)) w') :
    wpList P ops Q (o :: rest) a w := by
  refine copy_sized hgd d s dT sT ho elem hu 4 hsz (some ⟨g, 0, none⟩) sp l.length l.length l.length cap hd hs g 0 cur t hg (cellsS l) l.length (Nat.min_self _).symm (cellsS_length l) (fun h0 => ?_) (by rw [cellsS_length, hsize]; omega) (cellsS_one l) ?_
  · refine ⟨rfl, ?_⟩
    rw [cellsS_length] at h0
    obtain ⟨b, off, rfl, _⟩ := hl 0 (by omega)
    exact ⟨_, rfl, hl.read rfl⟩
  · intro w' hb hg' hz
    refine h w' ?_ hg' hz
    have e : laid cur.toList 0 (cellsS l) = cellsS l := by
      simp only [laid, List.take_zero, List.nil_append, Nat.zero_add]
      rw [List.drop_eq_nil_of_le (by rw [cellsS_length]; simp [hsize]), List.append_nil]
    rwa [e] at hb
end
end Go.Proofs.Ytnhplinlibegnaa
