/- The contracts of the document's TrainErr and Part. -/
import Derived.Test.YtiamppbgpoffmaaPqTrain
namespace Go.Proofs.Ytiamppbgpoffmaa
open Go.RowKit
set_option linter.unusedVariables false

def ErrPost (w : World) (f : Int) (e : Ending) (w' : World) : Prop := e = .returned (.int .i64 f) ∧ w = w'
theorem rpq_dim (A : Option Addr) (n cl : Nat) (dim parts k r : Int) (w : World) (h : dim < 1 ∨ 64 < dim) :
    Calls Try.prog 25 #[.slice A n cl, .int .i64 dim, .int .i64 parts, .int .i64 k, .int .i64 r] w (ErrPost w 30) := by
  by_cases h1 : dim < 1
  · clear h
    go_enter Try.func25, Try.ntmps25
    go_wp2_with fail
    go_ret
    exact ⟨rfl, rfl⟩
  have g1 : 1 ≤ dim := by omega
  have h2 : 64 < dim := by omega
  clear h h1
  go_enter Try.func25, Try.ntmps25
  go_wp2_with fail
  go_ret
  exact ⟨rfl, rfl⟩

theorem rpq_arg (A : Option Addr) (n cl : Nat) (dim parts k r : Int) (w : World) (g1 : 1 ≤ dim) (g2 : dim ≤ 64) (h : parts < 1 ∨ 8 < parts ∨ k < 1 ∨ 16 < k ∨ r < 0 ∨ 20 < r) :
    Calls Try.prog 25 #[.slice A n cl, .int .i64 dim, .int .i64 parts, .int .i64 k, .int .i64 r] w (ErrPost w 1) := by
  by_cases h1 : parts < 1
  · clear h
    go_enter Try.func25, Try.ntmps25
    go_wp2_with fail
    go_ret
    exact ⟨rfl, rfl⟩
  have f1 : 1 ≤ parts := by omega
  by_cases h2 : 8 < parts
  · clear h h1
    go_enter Try.func25, Try.ntmps25
    go_wp2_with fail
    go_ret
    exact ⟨rfl, rfl⟩
  have f2 : parts ≤ 8 := by omega
  by_cases h3 : k < 1
  · clear h h1 h2
    go_enter Try.func25, Try.ntmps25
    go_wp2_with fail
    go_ret
    exact ⟨rfl, rfl⟩
  have f3 : 1 ≤ k := by omega
  by_cases h4 : 16 < k
  · clear h h1 h2 h3
    go_enter Try.func25, Try.ntmps25
    go_wp2_with fail
    go_ret
    exact ⟨rfl, rfl⟩
  have f4 : k ≤ 16 := by omega
  by_cases h5 : r < 0
  · clear h h1 h2 h3 h4
    go_enter Try.func25, Try.ntmps25
    go_wp2_with fail
    go_ret
    exact ⟨rfl, rfl⟩
  have f5 : 0 ≤ r := by omega
  have h6 : 20 < r := by omega
  clear h h1 h2 h3 h4 h5
  go_enter Try.func25, Try.ntmps25
  go_wp2_with fail
  go_ret
  exact ⟨rfl, rfl⟩

theorem rpq_parts (A : Option Addr) (n cl : Nat) (dim parts k r : Int) (w : World) (g1 : 1 ≤ dim) (g2 : dim ≤ 64) (f1 : 1 ≤ parts) (f2 : parts ≤ 8) (f3 : 1 ≤ k) (f4 : k ≤ 16) (f5 : 0 ≤ r) (f6 : r ≤ 20) (h : dim % parts ≠ 0) :
    Calls Try.prog 25 #[.slice A n cl, .int .i64 dim, .int .i64 parts, .int .i64 k, .int .i64 r] w (ErrPost w 100) := by
  have hz : (parts == 0) = false := by simp; omega
  have ht : dim.tmod parts = dim % parts := Int.tmod_eq_emod_of_nonneg (by omega)
  go_enter Try.func25, Try.ntmps25
  go_wp2_with fail
  go_ret
  exact ⟨rfl, rfl⟩

theorem rpq_long (A : Option Addr) (n cl : Nat) (dim parts k r : Int) (w : World) (g1 : 1 ≤ dim) (g2 : dim ≤ 64) (f1 : 1 ≤ parts) (f2 : parts ≤ 8) (f3 : 1 ≤ k) (f4 : k ≤ 16) (f5 : 0 ≤ r) (f6 : r ≤ 20) (h0 : dim % parts = 0) (h : 512 < n) :
    Calls Try.prog 25 #[.slice A n cl, .int .i64 dim, .int .i64 parts, .int .i64 k, .int .i64 r] w (ErrPost w 2) := by
  have hz : (parts == 0) = false := by simp; omega
  have ht : dim.tmod parts = dim % parts := Int.tmod_eq_emod_of_nonneg (by omega)
  have h' : (512 : Int) < (n : Int) := by omega
  clear h
  go_enter Try.func25, Try.ntmps25
  go_wp2_with fail
  go_ret
  exact ⟨rfl, rfl⟩

theorem rpq_few (A : Option Addr) (n cl : Nat) (dim parts k r : Int) (w : World) (g1 : 1 ≤ dim) (g2 : dim ≤ 64) (f1 : 1 ≤ parts) (f2 : parts ≤ 8) (f3 : 1 ≤ k) (f4 : k ≤ 16) (f5 : 0 ≤ r) (f6 : r ≤ 20) (h0 : dim % parts = 0) (h : n ≤ 512) (h2 : (n : Int) < k) :
    Calls Try.prog 25 #[.slice A n cl, .int .i64 dim, .int .i64 parts, .int .i64 k, .int .i64 r] w (ErrPost w 60) := by
  have hz : (parts == 0) = false := by simp; omega
  have ht : dim.tmod parts = dim % parts := Int.tmod_eq_emod_of_nonneg (by omega)
  have h' : (n : Int) ≤ 512 := by omega
  clear h
  go_enter Try.func25, Try.ntmps25
  go_wp2_with fail
  go_ret
  exact ⟨rfl, rfl⟩

theorem rpq_vec (A : Option Addr) (l : List (List Int)) (cl : Nat) (dim parts k r : Int) (w : World) (hm : Mat w A l) (g1 : 1 ≤ dim) (g2 : dim ≤ 64) (f1 : 1 ≤ parts) (f2 : parts ≤ 8) (f3 : 1 ≤ k) (f4 : k ≤ 16) (f5 : 0 ≤ r) (f6 : r ≤ 20) (h0 : dim % parts = 0) (h1 : l.length ≤ 512) (h2 : k ≤ (l.length : Int)) :
    Calls Try.prog 25 #[.slice A l.length cl, .int .i64 dim, .int .i64 parts, .int .i64 k, .int .i64 r] w (ErrPost w (allE l dim)) := by
  have hz : (parts == 0) = false := by simp; omega
  have ht : dim.tmod parts = dim % parts := Int.tmod_eq_emod_of_nonneg (by omega)
  have h' : (l.length : Int) ≤ 512 := by omega
  go_enter Try.func25, Try.ntmps25
  replace hm := Lib.hid hm
  go_wp2_with fail
  go_loopw [11] (fun i wr => wr = w ∧ ∃ j : Nat, j ≤ l.length ∧ i = .int .i64 (j : Int) ∧ AllOk l dim j) (fun i _ => l.length - (intOf i).toNat)
  case atStart => exact ⟨rfl, 0, Nat.zero_le _, rfl, fun j hj => absurd hj (by omega)⟩
  case round =>
    obtain ⟨rfl, j, hj, rfl, hC⟩ := hrel
    by_cases hlt : j < l.length
    · obtain ⟨g, o, R, rc, rfl, hc1, hR⟩ := hm.out j hlt
      have p0 : (0 : Int) ≤ (j : Int) := by omega
      have p1 : (j : Int) < (l.length : Int) := by omega
      have hV := Lib.hid (rvec_any R (mrow l j) rc dim wr hR)
      by_cases hz2 : vecE (mrow l j) dim = 0
      · have hC' := Lib.hid (hC.succ hz2)
        clear hC
        go_wp2_with fail
        refine hV.out.mono ?_
        rintro e w1 ⟨rfl, rfl⟩
        rw [hz2]
        go_wp2_with fail
        exact ⟨⟨trivial, j + 1, by omega, by go_num, hC'.out⟩, by simp [intOf]; omega⟩
      · have hE := Lib.hid (allE_first l dim j hlt hC hz2)
        have hne : (vecE (mrow l j) dim != 0) = true := by simpa using hz2
        clear hC hz2
        generalize vecE (mrow l j) dim = E at *
        go_wp2_with fail
        refine hV.out.mono ?_
        rintro e w1 ⟨rfl, rfl⟩
        go_wp2_with fail
        go_ret
        exact ⟨by rw [hE.out]; rfl, rfl⟩
    · obtain rfl : j = l.length := by omega
      have hE := Lib.hid (allE_none l dim hC)
      clear hC
      go_wp2_with fail
      go_ret
      exact ⟨by rw [hE.out]; rfl, rfl⟩

theorem rpq_any (A : Option Addr) (l : List (List Int)) (cl : Nat) (dim parts k r : Int) (w : World) (hm : Mat w A l) :
    Calls Try.prog 25 #[.slice A l.length cl, .int .i64 dim, .int .i64 parts, .int .i64 k, .int .i64 r] w (ErrPost w (pqE l dim parts k r)) := by
  by_cases h1 : dim < 1 ∨ 64 < dim
  · rw [pqE, if_pos h1]; exact rpq_dim A _ cl dim parts k r w h1
  by_cases h2 : parts < 1 ∨ 8 < parts ∨ k < 1 ∨ 16 < k ∨ r < 0 ∨ 20 < r
  · rw [pqE, if_neg h1, if_pos h2]; exact rpq_arg A _ cl dim parts k r w (by omega) (by omega) h2
  by_cases h3 : dim % parts ≠ 0
  · rw [pqE, if_neg h1, if_neg h2, if_pos h3]; exact rpq_parts A _ cl dim parts k r w (by omega) (by omega) (by omega) (by omega) (by omega) (by omega) (by omega) (by omega) h3
  have h3' : dim % parts = 0 := Decidable.not_not.1 h3
  by_cases h4 : 512 < l.length
  · rw [pqE, if_neg h1, if_neg h2, if_neg h3, if_pos h4]; exact rpq_long A _ cl dim parts k r w (by omega) (by omega) (by omega) (by omega) (by omega) (by omega) (by omega) (by omega) h3' h4
  by_cases h5 : (l.length : Int) < k
  · rw [pqE, if_neg h1, if_neg h2, if_neg h3, if_neg h4, if_pos h5]; exact rpq_few A _ cl dim parts k r w (by omega) (by omega) (by omega) (by omega) (by omega) (by omega) (by omega) (by omega) h3' (by omega) h5
  rw [pqE, if_neg h1, if_neg h2, if_neg h3, if_neg h4, if_neg h5]
  exact rpq_vec A l cl dim parts k r w hm (by omega) (by omega) (by omega) (by omega) (by omega) (by omega) (by omega) (by omega) h3' (by omega) (by omega)
set_option maxRecDepth 100000 in
theorem rpart_let (g off len c n a b : Nat) (p i : Int) (hp : 0 < p) (e1 : wrap64 ((len : Int) / p) = (n : Int)) (e2 : wrap64 (i * (n : Int)) = (a : Int)) (e4 : wrap64 (i + 1) = i + 1) (e3 : wrap64 ((i + 1) * (n : Int)) = (b : Int)) (hab : a < b) (hbc : b ≤ c) (w : World) :
    Calls Try.prog 29 #[.slice (some ⟨g, off, none⟩) len c, .int .i64 p, .int .i64 i] w fun e w' => e = .returned (.slice (some ⟨g, off + a, none⟩) (b - a) (c - a)) ∧ w = w' := by
  have hne : (p == 0) = false := by simp; omega
  have r0 : (0 : Int) ≤ (a : Int) := by omega
  have r1 : (a : Int) ≤ (b : Int) := by omega
  have r2 : (b : Int) ≤ (c : Int) := by omega
  have r5 : ¬ b = a := by omega
  have r6 : (0 : Int) ≤ (b : Int) := by omega
  go_enter Try.func29, Try.ntmps29
  go_wp2_with fail
  go_ret
  exact ⟨rfl, rfl⟩
theorem rpart_any (g off : Nat) (v : List Int) (c p n i : Nat) (hp : Parts v.length p n) (hi : i < p) (hd : v.length ≤ 64) (hc : v.length ≤ c) (w : World) :
    Calls Try.prog 29 #[.slice (some ⟨g, off, none⟩) v.length c, .int .i64 (p : Int), .int .i64 (i : Int)] w fun e w' => e = .returned (.slice (some ⟨g, off + i * n, none⟩) n (c - i * n)) ∧ w = w' := by
  have hf := hp.fits hi
  have hp1 := hp.p1
  have hn1 := hp.n1
  have hpd : p ≤ v.length := by rw [hp.eq]; exact Nat.le_mul_of_pos_right _ hn1
  have hf2 := hf
  rw [Nat.add_mul, Nat.one_mul] at hf2
  have e1 : wrap64 ((v.length : Int) / (p : Int)) = (n : Int) := by
    have h1 : (v.length : Int) / (p : Int) = (n : Int) := by
      rw [← Int.natCast_ediv, hp.eq, Nat.mul_div_cancel_left _ (by omega)]
    rw [h1]
    simp only [wrap64]
    omega
  have e2 := small_mul (i := i) (n := n) (by omega) hd
  have e3 := small_mul (i := i + 1) (n := n) hf hd
  rw [Int.natCast_add, show ((1 : Nat) : Int) = 1 from rfl] at e3
  have e4 : wrap64 ((i : Int) + 1) = (i : Int) + 1 := by simp only [wrap64]; omega
  have hb : (i + 1) * n - i * n = n := by rw [Nat.add_mul, Nat.one_mul]; omega
  have h := rpart_let g off v.length c n (i * n) ((i + 1) * n) p i (by omega) e1 e2 e4 e3 (by rw [Nat.add_mul, Nat.one_mul]; omega) (by omega) w
  rw [hb] at h
  exact h

end Go.Proofs.Ytiamppbgpoffmaa
