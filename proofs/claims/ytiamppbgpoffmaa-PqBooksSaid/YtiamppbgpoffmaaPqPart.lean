/- The contract of pq.part; rows with room. -/
import Derived.Test.YtiamppbgpoffmaaQTrain
import Derived.Test.YtiamppbgpoffmaaPqPure
namespace Go.Proofs.Ytiamppbgpoffmaa
open Go.RowKit
set_option linter.unusedVariables false

/-- A slice of slices that reads as m, each slice within its array. -/
def MatC (w : World) (A : Option Addr) (m : List (List Int)) : Prop :=
  ∀ i, i < m.length → ∃ g off R c, A = some ⟨g, off, none⟩ ∧ w.cell? ⟨g, off + i, none⟩ = some (.slice R (mrow m i).length c) ∧ (mrow m i).length ≤ c ∧ Row w R (mrow m i)
theorem MatC.mat {w : World} {A : Option Addr} {m : List (List Int)} (h : MatC w A m) : Mat w A m := fun i hi => by
  obtain ⟨g, off, R, c, h1, h2, _, h4⟩ := h i hi
  exact ⟨g, off, R, c, h1, h2, h4⟩
theorem MatC.below {w w' : World} {A : Option Addr} {m : List (List Int)} (h : MatC w A m) (hb : Below w.heap.size w w') : MatC w' A m := fun i hi => by
  obtain ⟨g, off, R, c, h1, h2, h3, h4⟩ := h i hi
  exact ⟨g, off, R, c, h1, below_cell hb h2, h3, h4.below hb⟩

theorem row_part_at {w : World} {g off : Nat} {v : List Int} {n i : Nat} (h : Row w (some ⟨g, off, none⟩) v) (hf : (i + 1) * n ≤ v.length) : Row w (some ⟨g, off + i * n, none⟩) (partN v n i) := fun x hx => by
  rw [partN_length hf] at hx
  rw [Nat.add_mul, Nat.one_mul] at hf
  obtain ⟨g2, o2, hA, hc⟩ := h (i * n + x) (by omega)
  simp only [Option.some.injEq, Addr.mk.injEq, and_true] at hA
  obtain ⟨rfl, rfl⟩ := hA
  exact ⟨g, off + i * n, rfl, by rw [nth_partN hx, Nat.add_assoc]; exact hc⟩
theorem small_mul {i n d : Nat} (h : i * n ≤ d) (hd : d ≤ 64) : wrap64 ((i : Int) * (n : Int)) = ((i * n : Nat) : Int) := by
  rw [← Int.natCast_mul]
  simp only [wrap64]
  omega
set_option maxRecDepth 100000 in
theorem part_let (g off len c n a b : Nat) (p i : Int) (hp : 0 < p) (e1 : wrap64 ((len : Int) / p) = (n : Int)) (e2 : wrap64 (i * (n : Int)) = (a : Int)) (e4 : wrap64 (i + 1) = i + 1) (e3 : wrap64 ((i + 1) * (n : Int)) = (b : Int)) (hab : a < b) (hbc : b ≤ c) (w : World) :
    Calls Try.prog 33 #[.slice (some ⟨g, off, none⟩) len c, .int .i64 p, .int .i64 i] w fun e w' => e = .returned (.slice (some ⟨g, off + a, none⟩) (b - a) (b - a)) ∧ w = w' := by
  have hne : (p == 0) = false := by simp; omega
  have r0 : (0 : Int) ≤ (a : Int) := by omega
  have r1 : (a : Int) ≤ (b : Int) := by omega
  have r2 : (b : Int) ≤ (c : Int) := by omega
  have r5 : ¬ b = a := by omega
  have r6 : (0 : Int) ≤ (b : Int) := by omega
  go_enter Try.func33, Try.ntmps33
  go_wp2_with fail
  go_ret
  exact ⟨rfl, rfl⟩
theorem part_any (g off : Nat) (v : List Int) (c p n i : Nat) (hp : Parts v.length p n) (hi : i < p) (hd : v.length ≤ 64) (hc : v.length ≤ c) (w : World) :
    Calls Try.prog 33 #[.slice (some ⟨g, off, none⟩) v.length c, .int .i64 (p : Int), .int .i64 (i : Int)] w fun e w' => e = .returned (.slice (some ⟨g, off + i * n, none⟩) n n) ∧ w = w' := by
  have hf := hp.fits hi
  have hp1 := hp.p1
  have hn1 := hp.n1
  have hpd : p ≤ v.length := by rw [hp.eq]; exact Nat.le_mul_of_pos_right _ hn1
  have hf2 := hf
  rw [Nat.add_mul, Nat.one_mul] at hf2
  have e1 : wrap64 ((v.length : Int) / (p : Int)) = (n : Int) := by
    have h1 : (v.length : Int) / (p : Int) = (n : Int) := by
      rw [← Int.natCast_ediv, hp.eq, Nat.mul_div_cancel_left _ (by omega)]
    rw [h1]
    simp only [wrap64]
    omega
  have e2 := small_mul (i := i) (n := n) (by omega) hd
  have e3 := small_mul (i := i + 1) (n := n) hf hd
  rw [Int.natCast_add, show ((1 : Nat) : Int) = 1 from rfl] at e3
  have e4 : wrap64 ((i : Int) + 1) = (i : Int) + 1 := by simp only [wrap64]; omega
  have hb : (i + 1) * n - i * n = n := by rw [Nat.add_mul, Nat.one_mul]; omega
  have h := part_let g off v.length c n (i * n) ((i + 1) * n) p i (by omega) e1 e2 e4 e3 (by rw [Nat.add_mul, Nat.one_mul]; omega) (by omega) w
  rw [hb] at h
  exact h

/-! ### Books in memory -/
def brow (bs : List (List (List Int))) (i : Nat) : List (List Int) := bs.getD i []
/-- A slice of matrices that reads as bs. -/
def Books (w : World) (A : Option Addr) (bs : List (List (List Int))) : Prop := ∀ i, i < bs.length → ∃ g off B c, A = some ⟨g, off, none⟩ ∧ w.cell? ⟨g, off + i, none⟩ = some (.slice B (brow bs i).length c) ∧ Mat w B (brow bs i)
theorem Books.below {w w' : World} {A : Option Addr} {bs : List (List (List Int))} (h : Books w A bs) (hb : Below w.heap.size w w') : Books w' A bs := fun i hi => by
  obtain ⟨g, off, B, c, h1, h2, h3⟩ := h i hi
  exact ⟨g, off, B, c, h1, below_cell hb h2, h3.below hb⟩
/-- A coder: its dimension and its books. -/
def CoderAt (w : World) (gp dim : Nat) (bs : List (List (List Int))) : Prop := ∃ A c, w.cell? ⟨gp, 0, none⟩ = some (.int .i64 (dim : Int)) ∧ w.cell? ⟨gp, 1, none⟩ = some (.slice A bs.length c) ∧ Books w A bs
theorem CoderAt.below {w w' : World} {gp dim : Nat} {bs : List (List (List Int))} (h : CoderAt w gp dim bs) (hb : Below w.heap.size w w') : CoderAt w' gp dim bs := by
  obtain ⟨A, c, h1, h2, h3⟩ := h
  exact ⟨A, c, below_cell hb h1, below_cell hb h2, h3.below hb⟩
end Go.Proofs.Ytiamppbgpoffmaa
