/- The contract of theodoliteref15.Choose: the same pair. -/
import Derived.Test.YtnhplinlibegnaaChoose
namespace Go.Proofs.Ytnhplinlibegnaa
open Go.RowKit

set_option maxRecDepth 100000 in
theorem rchoose_none (A : Option Addr) (cap : Nat) (r d k m : Int) (w : World) :
    Calls Try.prog 11 #[.slice A 0 cap, .int .i64 r, .int .i64 d, .int .i64 k, .int .i64 m] w (PairPost w 0 1) := by
  go_enter Try.func11, Try.ntmps11
  go_wp2
  go_ret2
  exact ⟨rfl, Below.refl _ _⟩
set_option maxRecDepth 100000 in
theorem rchoose_long (A : Option Addr) (n cap : Nat) (r d k m : Int) (hn : 16 < n) (w : World) :
    Calls Try.prog 11 #[.slice A n cap, .int .i64 r, .int .i64 d, .int .i64 k, .int .i64 m] w (PairPost w 0 2) := by
  have p1 : (16 : Int) < (n : Int) := by omega
  have p2 : ((n : Int) == 0) = false := by simp; omega
  go_enter Try.func11, Try.ntmps11
  go_wp2
  go_ret2
  exact ⟨rfl, Below.refl _ _⟩
set_option maxRecDepth 100000 in
theorem rchoose_k (A : Option Addr) (n cap : Nat) (r d k m : Int) (hn0 : n ≠ 0) (hn : n ≤ 16) (hk : k < 1 ∨ 64 < k) (w : World) :
    Calls Try.prog 11 #[.slice A n cap, .int .i64 r, .int .i64 d, .int .i64 k, .int .i64 m] w (PairPost w 0 1) := by
  have p1 : (n : Int) ≤ (16 : Int) := by omega
  have p2 : ((n : Int) == 0) = false := by simp; omega
  by_cases h1 : k < 1
  · clear hk
    go_enter Try.func11, Try.ntmps11
    go_wp2
    go_ret2
    exact ⟨rfl, Below.refl _ _⟩
  · have g1 : 1 ≤ k := by omega
    have g2 : 64 < k := by omega
    clear hk h1
    go_enter Try.func11, Try.ntmps11
    go_wp2
    go_ret2
    exact ⟨rfl, Below.refl _ _⟩
set_option maxRecDepth 100000 in
theorem rchoose_mode (A : Option Addr) (n cap : Nat) (r d k m : Int) (hn0 : n ≠ 0) (hn : n ≤ 16) (hk : 1 ≤ k ∧ k ≤ 64) (hm : goodB m = false) (w : World) :
    Calls Try.prog 11 #[.slice A n cap, .int .i64 r, .int .i64 d, .int .i64 k, .int .i64 m] w (PairPost w 0 210) := by
  have p1 : (n : Int) ≤ (16 : Int) := by omega
  have p2 : ((n : Int) == 0) = false := by simp; omega
  go_enter Try.func11, Try.ntmps11
  go_wp2_with (go_at_call 30; refine (mode_any m _).mono ?_; rintro e w' ⟨rfl, rfl⟩; rw [hm])
  go_ret2
  exact ⟨rfl, Below.refl _ _⟩

theorem rcostK_any (k a b c r d : Int) (w : World) (E : Int) (hE : costE k a b c r d = E) : Calls Try.prog 8 #[.agg #[.int .i64 k, .int .i64 a, .int .i64 b, .int .i64 c], .int .i64 r, .int .i64 d] w (PairPost w (costV k a b c r d) E) := hE ▸ rcost_any k a b c r d w

set_option maxRecDepth 100000 in
set_option maxHeartbeats 8000000 in
theorem rchoose_go (A : Option Addr) (l : List Sp) (cap : Nat) (r d k m : Int) (hn0 : l.length ≠ 0) (hn : l.length ≤ 16) (hk : 1 ≤ k ∧ k ≤ 64) (hm : goodB m = true) (w : World) (hS : Specs w A l) :
    Calls Try.prog 11 #[.slice A l.length cap, .int .i64 r, .int .i64 d, .int .i64 k, .int .i64 m] w (PairPost w (chooseEnd l m r d) (errS l r d l.length)) := by
  have p1 : (l.length : Int) ≤ (16 : Int) := by omega
  have p2 : ((l.length : Int) == 0) = false := by simpa using hn0
  go_enter Try.func11, Try.ntmps11
  go_wp2_with (go_at_call 30; refine (mode_any m _).mono ?_; rintro e w' ⟨rfl, rfl⟩; rw [hm])
  go_loopw [12, 13, 14] (fun at_ le i wr => ∃ q : Nat, q ≤ l.length ∧ i = .int .i64 (q : Int) ∧ at_ = .int .i64 ((scanS l m r d q).1 : Int) ∧ le = .int .i64 (scanS l m r d q).2 ∧ errS l r d q = 0 ∧ Below w.heap.size w wr) (fun _ _ i _ => l.length - (intOf i).toNat)
  case atStart => exact ⟨0, Nat.zero_le _, rfl, rfl, rfl, rfl, Below.refl _ _⟩
  case round =>
    obtain ⟨q, hq, rfl, rfl, rfl, hE, hb⟩ := hrel
    by_cases hlt : q < l.length
    · obtain ⟨g, off, rfl, c0, c1, c2, c3⟩ := (hS.below hb) q hlt
      have p4 : (q : Int) < (l.length : Int) := by omega
      have p5 : (0 : Int) ≤ (q : Int) := by omega
      by_cases hz : (nthS l q).costE r d = 0
      · have hV := costV_in (nthS l q).k (nthS l q).a (nthS l q).b (nthS l q).c r d
        obtain ⟨_, hr, hd⟩ := costE_zero hz
        have hdr := mul_in (A := 64) (B := 512) (show 0 ≤ d ∧ d ≤ 64 by omega) hr
        have hE1 : errS l r d (q + 1) = 0 := (if_pos hE).trans hz
        clear hr hd
        rcases price_cases (nthS l q).k ((nthS l q).costV r d) m r d with ⟨f1, hp⟩ | ⟨f1, f2, hp⟩ | ⟨f1, f2, f3, hp⟩ | ⟨f1, f2, f3, hp⟩
        all_goals rcases scan_cases l m r d q hp with ⟨f4, hs⟩ | ⟨f4, f5, hs⟩ | ⟨f4, f5, hs⟩
        all_goals
          replace hs := Lib.hid hs
          replace hE1 := Lib.hid hE1
          clear hp
          try simp only [Sp.costV] at f5
          go_wp2_with (go_at_call 8; refine (rcostK_any _ _ _ _ r d _ 0 hz).mono ?_; rintro e w' ⟨rfl, hb2⟩; have b0 := below_cell hb2 c0)
          exact ⟨⟨q + 1, by omega, by go_num, by rw [hs.out], (by first | (rw [hs.out]; done) | (rw [hs.out]; rfl)), hE1.out, below_chain hb hb2 hb.size⟩, by simp [intOf]; omega⟩
      · have hz' : errS l r d l.length = (nthS l q).costE r d := errTo_at hE hz hlt
        have hv : chooseEnd l m r d = 0 := by rw [chooseEnd, hz', if_neg hz]
        have hne : ((nthS l q).costE r d != 0) = true := by simpa using hz
        replace hz' := Lib.hid hz'
        replace hv := Lib.hid hv
        clear hz
        go_wp2_with (go_at_call 8; refine (rcostK_any _ _ _ _ r d _ ((nthS l q).costE r d) rfl).mono ?_; rintro e w' ⟨rfl, hb2⟩)
        go_ret2
        refine ⟨by rw [hz'.out, hv.out]; rfl, ?_⟩
        exact below_chain hb hb2 hb.size
    · have hq' : q = l.length := by omega
      subst hq'
      have hv : chooseEnd l m r d = (scanS l m r d l.length).1 := by rw [chooseEnd, if_pos hE]
      replace hv := Lib.hid hv
      go_wp2
      go_ret2
      exact ⟨by rw [hv.out, hE]; rfl, hb⟩

theorem rchoose_any (A : Option Addr) (l : List Sp) (cap : Nat) (r d k m : Int) (w : World) (hS : Specs w A l) :
    Calls Try.prog 11 #[.slice A l.length cap, .int .i64 r, .int .i64 d, .int .i64 k, .int .i64 m] w (PairPost w (chooseV l r d k m) (chooseE l r d k m)) := by
  by_cases h0 : l.length = 0
  · have e : chooseE l r d k m = 1 := by simp only [chooseE, h0, if_true]
    have v : chooseV l r d k m = 0 := by rw [chooseV, e]; rfl
    rw [e, v, h0]
    exact rchoose_none A cap r d k m w
  by_cases h1 : 16 < l.length
  · have e : chooseE l r d k m = 2 := by simp only [chooseE, h0, h1, if_true, if_false]
    have v : chooseV l r d k m = 0 := by rw [chooseV, e]; rfl
    rw [e, v]
    exact rchoose_long A l.length cap r d k m h1 w
  by_cases h2 : k < 1 ∨ 64 < k
  · have e : chooseE l r d k m = 1 := by simp only [chooseE, h0, h1, h2, if_true, if_false]
    have v : chooseV l r d k m = 0 := by rw [chooseV, e]; rfl
    rw [e, v]
    exact rchoose_k A l.length cap r d k m h0 (by omega) h2 w
  by_cases h3 : m = 1 ∨ m = 2
  · have e : chooseE l r d k m = errS l r d l.length := by simp only [chooseE, h0, h1, h2, h3, if_true, if_false]
    have v : chooseV l r d k m = chooseEnd l m r d := by rw [chooseV, chooseEnd, e]
    rw [e, v]
    exact rchoose_go A l cap r d k m h0 (by omega) (by omega) (by rcases h3 with rfl | rfl <;> rfl) w hS
  · have e : chooseE l r d k m = 210 := by simp only [chooseE, h0, h1, h2, h3, if_false]
    have v : chooseV l r d k m = 0 := by rw [chooseV, e]; rfl
    rw [e, v]
    exact rchoose_mode A l.length cap r d k m h0 (by omega) (by omega) (by simp only [not_or] at h3; simp [goodB, h3.1, h3.2]) w
end Go.Proofs.Ytnhplinlibegnaa
