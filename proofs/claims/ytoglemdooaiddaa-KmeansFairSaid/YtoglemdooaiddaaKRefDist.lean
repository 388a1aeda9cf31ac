/- The contract of theodoliteref03.Dist where both vectors are as they should be; appends of slices of slices. -/
import Derived.Test.YtoglemdooaiddaaKRefNearE
import Derived.Test.YtoglemdooaiddaaKClone
import Derived.Laws.AppendOwnNone
import Derived.Maps.AppendAt
namespace Go.Proofs.Ytoglemdooaiddaa
open Go.RowKit
set_option linter.unusedVariables false

set_option maxRecDepth 100000 in
set_option maxHeartbeats 4000000 in
theorem rdist_ok (A B : Option Addr) (a b : List Int) (c d : Nat) (ea : vecE a a.length = 0) (eb : vecE b a.length = 0) (w : World) (hA : Row w A a) (hB : Row w B b) :
    Calls Try.prog 19 #[.slice A a.length c, .slice B b.length d] w fun e w' => e = .returned (.tuple #[.agg #[.int .u64 (hiN (farN a b) : Int), .int .u64 (loN (farN a b) : Int)], .int .i64 0]) ∧ Below w.heap.size w w' := by
  obtain ⟨l1, l2, _, l4⟩ := vecE_ok ea
  obtain ⟨_, _, l3, l5⟩ := vecE_ok eb
  have hl : b.length = a.length := by omega
  have h64 : a.length ≤ 64 := by omega
  have hF := Lib.hid (rfar_any A B a b c d hl l4 l5 h64)
  clear l1 l2 l3 l4 l5
  have S0 := NearS.start w
  have hCA := Lib.hid (rvec_any A a c a.length _ (hA.below S0.1))
  have hCB := Lib.hid (rvec_any B b d a.length _ (hB.below S0.1))
  rw [hl] at hF hCB ⊢
  clear hl
  go_enter Try.func19, Try.ntmps19
  go_wp2_with fail
  generalize w.alloc (.cells #[.int .u64 0, .int .u64 0] 34) = w0 at *
  with_reducible refine hCA.out.mono ?_
  rintro e w1 ⟨rfl, rfl⟩
  rw [ea]
  go_wp2_with fail
  with_reducible refine hCB.out.mono ?_
  rintro e w1 ⟨rfl, rfl⟩
  rw [eb]
  go_wp2_with fail
  refine (hF.out w0 (hA.below S0.1) (hB.below S0.1)).mono ?_
  rintro e w2 ⟨rfl, hb2⟩
  have S1 := S0.more hb2
  obtain ⟨c1, c2, f1, f2⟩ := S1.cells
  have S2 := S1.put (farN a b)
  go_wp2_with fail
  generalize ((w2.setCell ⟨w.heap.size, 0, none⟩ _).setCell ⟨w.heap.size, 1, none⟩ _) = w9 at *
  have m0 := S2.cells.1
  have m1 := S2.cells.2.1
  refine bodyPost_ret (v := .tuple #[.agg #[.int .u64 (hiN (farN a b) : Int), .int .u64 (loN (farN a b) : Int)], .int .i64 0]) (by simp [results, Try.results19, go_sem, m0, m1]) rfl ?_
  exact ⟨rfl, S2.1⟩

/-! ### A centre more never costs more -/
theorem nearTo_snoc (m : List (List Int)) (u v : List Int) (n : Nat) (hn : n ≤ m.length) : nearTo (m ++ [u]) v n = nearTo m v n := by
  induction n with
  | zero => rfl
  | succ n ih =>
    have e : mrow (m ++ [u]) n = mrow m n := by simp [mrow, List.getElem?_append_left (show n < m.length by omega)]
    rw [nearTo, nearTo, ih (by omega), e]
theorem near_snoc (m : List (List Int)) (u v : List Int) (h : 0 < m.length) : (nearN (m ++ [u]) v).2 ≤ (nearN m v).2 := by
  have h1 := nearTo_min (m ++ [u]) v (m ++ [u]).length (nearTo m v m.length).1 (by
    have := nearN_lt m v h
    unfold nearN at this
    simp
    omega)
  have h2 := nearTo_at m v m.length h
  have hl := nearN_lt m v h
  unfold nearN at hl
  have e : mrow (m ++ [u]) (nearTo m v m.length).1 = mrow m (nearTo m v m.length).1 := by simp [mrow, List.getElem?_append_left hl]
  rw [e, h2] at h1
  exact h1
theorem cost_snoc (m l : List (List Int)) (u : List Int) (h : 0 < m.length) (n : Nat) : costTo (m ++ [u]) l n ≤ costTo m l n := by
  induction n with
  | zero => simp [costTo]
  | succ n ih =>
    rw [costTo, costTo]
    have := near_snoc m u (mrow l n) h
    omega
theorem costN_snoc {m l : List (List Int)} {u : List Int} (h1 : costE m l = 0) (h2 : costE (m ++ [u]) l = 0) : ¬ costN m l < costN (m ++ [u]) l := by
  obtain ⟨_, _, _, _, h3, _⟩ := costE_ok h1
  rw [costN, costN, if_pos h1, if_pos h2]
  have := cost_snoc m l u (by omega) l.length
  omega
theorem costN_wd (m l : List (List Int)) : Wd (costN m l) := by
  unfold costN
  split
  · rename_i h
    obtain ⟨_, h2, h3, h4, h5, h6⟩ := costE_ok h
    have := costTo_le h4 l.length h3
    unfold Wd
    omega
  · unfold Wd; omega
end Go.Proofs.Ytoglemdooaiddaa
