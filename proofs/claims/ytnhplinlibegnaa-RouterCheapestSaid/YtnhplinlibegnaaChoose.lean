/- The contract of router.Choose. -/
import Derived.Test.YtnhplinlibegnaaChoosePure
namespace Go.Proofs.Ytnhplinlibegnaa
open Go.RowKit

def goodB (m : Int) : Bool := m == 1 || m == 2
theorem good_any (m : Int) (w : World) : Calls Try.prog 29 #[.int .i64 m] w fun e w' => e = .returned (.bool (goodB m)) ∧ w = w' := by
  unfold goodB
  by_cases h1 : m = 1
  · subst h1
    go_enter Try.func29, Try.ntmps29
    go_wp2
    go_ret
    exact ⟨rfl, rfl⟩
  · have e1 : (m == 1) = false := by simp [h1]
    rw [e1, Bool.false_or]
    go_enter Try.func29, Try.ntmps29
    go_wp2
    go_ret
    exact ⟨rfl, rfl⟩
theorem mode_any (m : Int) (w : World) : Calls Try.prog 30 #[.int .i64 m] w fun e w' => e = .returned (.bool (goodB m)) ∧ w = w' := by
  unfold goodB
  by_cases h1 : m = 1
  · subst h1
    go_enter Try.func30, Try.ntmps30
    go_wp2
    go_ret
    exact ⟨rfl, rfl⟩
  · have e1 : (m == 1) = false := by simp [h1]
    rw [e1, Bool.false_or]
    go_enter Try.func30, Try.ntmps30
    go_wp2
    go_ret
    exact ⟨rfl, rfl⟩

set_option maxRecDepth 100000 in
theorem choose_none (A : Option Addr) (cap : Nat) (r d k m : Int) (w : World) :
    Calls Try.prog 10 #[.slice A 0 cap, .int .i64 r, .int .i64 d, .int .i64 k, .int .i64 m] w (PairPost w 0 1) := by
  go_enter Try.func10, Try.ntmps10
  go_wp2
  go_ret2
  exact ⟨rfl, Below.refl _ _⟩
set_option maxRecDepth 100000 in
theorem choose_long (A : Option Addr) (n cap : Nat) (r d k m : Int) (hn : 16 < n) (w : World) :
    Calls Try.prog 10 #[.slice A n cap, .int .i64 r, .int .i64 d, .int .i64 k, .int .i64 m] w (PairPost w 0 2) := by
  have p1 : (16 : Int) < (n : Int) := by omega
  have p2 : ((n : Int) == 0) = false := by simp; omega
  go_enter Try.func10, Try.ntmps10
  go_wp2
  go_ret2
  exact ⟨rfl, Below.refl _ _⟩
set_option maxRecDepth 100000 in
theorem choose_k (A : Option Addr) (n cap : Nat) (r d k m : Int) (hn0 : n ≠ 0) (hn : n ≤ 16) (hk : k < 1 ∨ 64 < k) (w : World) :
    Calls Try.prog 10 #[.slice A n cap, .int .i64 r, .int .i64 d, .int .i64 k, .int .i64 m] w (PairPost w 0 1) := by
  have p1 : (n : Int) ≤ (16 : Int) := by omega
  have p2 : ((n : Int) == 0) = false := by simp; omega
  by_cases h1 : k < 1
  · clear hk
    go_enter Try.func10, Try.ntmps10
    go_wp2
    go_ret2
    exact ⟨rfl, Below.refl _ _⟩
  · have g1 : 1 ≤ k := by omega
    have g2 : 64 < k := by omega
    clear hk h1
    go_enter Try.func10, Try.ntmps10
    go_wp2
    go_ret2
    exact ⟨rfl, Below.refl _ _⟩
set_option maxRecDepth 100000 in
theorem choose_mode (A : Option Addr) (n cap : Nat) (r d k m : Int) (hn0 : n ≠ 0) (hn : n ≤ 16) (hk : 1 ≤ k ∧ k ≤ 64) (hm : goodB m = false) (w : World) :
    Calls Try.prog 10 #[.slice A n cap, .int .i64 r, .int .i64 d, .int .i64 k, .int .i64 m] w (PairPost w 0 210) := by
  have p1 : (n : Int) ≤ (16 : Int) := by omega
  have p2 : ((n : Int) == 0) = false := by simp; omega
  go_enter Try.func10, Try.ntmps10
  go_wp2_with (go_at_call 29; refine (good_any m _).mono ?_; rintro e w' ⟨rfl, rfl⟩; rw [hm])
  go_ret2
  exact ⟨rfl, Below.refl _ _⟩

def chooseEnd (l : List Sp) (m r d : Int) : Int := if errS l r d l.length = 0 then (scanS l m r d l.length).1 else 0
theorem costK_any (k a b c r d : Int) (w : World) (E : Int) (hE : costE k a b c r d = E) : Calls Try.prog 7 #[.agg #[.int .i64 k, .int .i64 a, .int .i64 b, .int .i64 c], .int .i64 r, .int .i64 d] w (PairPost w (costV k a b c r d) E) := hE ▸ cost_any k a b c r d w

theorem price_cases (k v m r d : Int) : ((m == 1) = false ∧ priceOf k v m r d = v) ∨ ((m == 1) = true ∧ (k == 5) = true ∧ priceOf k v m r d = v + d * r) ∨
    ((m == 1) = true ∧ (k == 5) = false ∧ (k == 6) = true ∧ priceOf k v m r d = v + d * r) ∨ ((m == 1) = true ∧ (k == 5) = false ∧ (k == 6) = false ∧ priceOf k v m r d = v) := by
  unfold priceOf
  by_cases h1 : m = 1
  · by_cases h2 : k = 5
    · exact .inr (.inl ⟨by simp [h1], by simp [h2], by simp [h1, h2]⟩)
    · by_cases h3 : k = 6
      · exact .inr (.inr (.inl ⟨by simp [h1], by simp [h2], by simp [h3], by simp [h1, h3]⟩))
      · exact .inr (.inr (.inr ⟨by simp [h1], by simp [h2], by simp [h3], by simp [h2, h3]⟩))
  · exact .inl ⟨by simp [h1], by simp [h1]⟩
theorem scan_cases (l : List Sp) (m r d : Int) (q : Nat) {V : Int} (hp : priceOf (nthS l q).k ((nthS l q).costV r d) m r d = V) :
    (((q : Int) == 0) = true ∧ scanS l m r d (q + 1) = (q, V)) ∨ (((q : Int) == 0) = false ∧ V < (scanS l m r d q).2 ∧ scanS l m r d (q + 1) = (q, V)) ∨
    (((q : Int) == 0) = false ∧ (scanS l m r d q).2 ≤ V ∧ scanS l m r d (q + 1) = scanS l m r d q) := by
  have e : scanS l m r d (q + 1) = if q = 0 ∨ V < (scanS l m r d q).2 then (q, V) else scanS l m r d q := by rw [← hp]; rfl
  rw [e]
  by_cases h0 : q = 0
  · exact .inl ⟨by simp [h0], by simp [h0]⟩
  · by_cases h1 : V < (scanS l m r d q).2
    · exact .inr (.inl ⟨by simp [h0], h1, by simp [h1]⟩)
    · exact .inr (.inr ⟨by simp [h0], by omega, by simp [h0, h1]⟩)

set_option maxRecDepth 100000 in
set_option maxHeartbeats 8000000 in
theorem choose_go (A : Option Addr) (l : List Sp) (cap : Nat) (r d k m : Int) (hn0 : l.length ≠ 0) (hn : l.length ≤ 16) (hk : 1 ≤ k ∧ k ≤ 64) (hm : goodB m = true) (w : World) (hS : Specs w A l) :
    Calls Try.prog 10 #[.slice A l.length cap, .int .i64 r, .int .i64 d, .int .i64 k, .int .i64 m] w (PairPost w (chooseEnd l m r d) (errS l r d l.length)) := by
  have p1 : (l.length : Int) ≤ (16 : Int) := by omega
  have p2 : ((l.length : Int) == 0) = false := by simpa using hn0
  go_enter Try.func10, Try.ntmps10
  go_wp2_with (go_at_call 29; refine (good_any m _).mono ?_; rintro e w' ⟨rfl, rfl⟩; rw [hm])
  go_loopw [12, 13, 39] (fun at_ le i wr => ∃ q : Nat, q ≤ l.length ∧ i = .int .i64 (q : Int) ∧ at_ = .int .i64 ((scanS l m r d q).1 : Int) ∧ le = .int .i64 (scanS l m r d q).2 ∧ errS l r d q = 0 ∧ Below w.heap.size w wr) (fun _ _ i _ => l.length - (intOf i).toNat)
  case atStart => exact ⟨0, Nat.zero_le _, rfl, rfl, rfl, rfl, Below.refl _ _⟩
  case round =>
    obtain ⟨q, hq, rfl, rfl, rfl, hE, hb⟩ := hrel
    by_cases hlt : q < l.length
    · obtain ⟨g, off, rfl, c0, c1, c2, c3⟩ := (hS.below hb) q hlt
      have p4 : (q : Int) < (l.length : Int) := by omega
      have p5 : (0 : Int) ≤ (q : Int) := by omega
      by_cases hz : (nthS l q).costE r d = 0
      · have hV := costV_in (nthS l q).k (nthS l q).a (nthS l q).b (nthS l q).c r d
        obtain ⟨_, hr, hd⟩ := costE_zero hz
        have hdr := mul_in (A := 64) (B := 512) (show 0 ≤ d ∧ d ≤ 64 by omega) hr
        have hE1 : errS l r d (q + 1) = 0 := (if_pos hE).trans hz
        clear hr hd
        rcases price_cases (nthS l q).k ((nthS l q).costV r d) m r d with ⟨f1, hp⟩ | ⟨f1, f2, hp⟩ | ⟨f1, f2, f3, hp⟩ | ⟨f1, f2, f3, hp⟩
        all_goals rcases scan_cases l m r d q hp with ⟨f4, hs⟩ | ⟨f4, f5, hs⟩ | ⟨f4, f5, hs⟩
        all_goals
          replace hs := Lib.hid hs
          replace hE1 := Lib.hid hE1
          clear hp
          try simp only [Sp.costV] at f5
          go_wp2_with (go_at_call 7; refine (costK_any _ _ _ _ r d _ 0 hz).mono ?_; rintro e w' ⟨rfl, hb2⟩; obtain ⟨b0, b1, b2, b3⟩ := box_cells hb2)
          exact ⟨⟨q + 1, by omega, by go_num, by rw [hs.out], (by first | (rw [hs.out]; done) | (rw [hs.out]; rfl)), hE1.out, below_chain (hb.alloc hb.size _) hb2 (by have := hb.size; simp; omega)⟩, by simp [intOf]; omega⟩
      · have hz' : errS l r d l.length = (nthS l q).costE r d := errTo_at hE hz hlt
        have hv : chooseEnd l m r d = 0 := by rw [chooseEnd, hz', if_neg hz]
        have hne : ((nthS l q).costE r d != 0) = true := by simpa using hz
        replace hz' := Lib.hid hz'
        replace hv := Lib.hid hv
        clear hz
        go_wp2_with (go_at_call 7; refine (costK_any _ _ _ _ r d _ ((nthS l q).costE r d) rfl).mono ?_; rintro e w' ⟨rfl, hb2⟩)
        go_ret2
        refine ⟨by rw [hz'.out, hv.out]; rfl, ?_⟩
        exact below_chain (hb.alloc hb.size _) hb2 (by have := hb.size; simp; omega)
    · have hq' : q = l.length := by omega
      subst hq'
      have hv : chooseEnd l m r d = (scanS l m r d l.length).1 := by rw [chooseEnd, if_pos hE]
      replace hv := Lib.hid hv
      go_wp2
      go_ret2
      exact ⟨by rw [hv.out, hE]; rfl, hb⟩

theorem choose_any (A : Option Addr) (l : List Sp) (cap : Nat) (r d k m : Int) (w : World) (hS : Specs w A l) :
    Calls Try.prog 10 #[.slice A l.length cap, .int .i64 r, .int .i64 d, .int .i64 k, .int .i64 m] w (PairPost w (chooseV l r d k m) (chooseE l r d k m)) := by
  by_cases h0 : l.length = 0
  · have e : chooseE l r d k m = 1 := by simp only [chooseE, h0, if_true]
    have v : chooseV l r d k m = 0 := by rw [chooseV, e]; rfl
    rw [e, v, h0]
    exact choose_none A cap r d k m w
  by_cases h1 : 16 < l.length
  · have e : chooseE l r d k m = 2 := by simp only [chooseE, h0, h1, if_true, if_false]
    have v : chooseV l r d k m = 0 := by rw [chooseV, e]; rfl
    rw [e, v]
    exact choose_long A l.length cap r d k m h1 w
  by_cases h2 : k < 1 ∨ 64 < k
  · have e : chooseE l r d k m = 1 := by simp only [chooseE, h0, h1, h2, if_true, if_false]
    have v : chooseV l r d k m = 0 := by rw [chooseV, e]; rfl
    rw [e, v]
    exact choose_k A l.length cap r d k m h0 (by omega) h2 w
  by_cases h3 : m = 1 ∨ m = 2
  · have e : chooseE l r d k m = errS l r d l.length := by simp only [chooseE, h0, h1, h2, h3, if_true, if_false]
    have v : chooseV l r d k m = chooseEnd l m r d := by rw [chooseV, chooseEnd, e]
    rw [e, v]
    exact choose_go A l cap r d k m h0 (by omega) (by omega) (by rcases h3 with rfl | rfl <;> rfl) w hS
  · have e : chooseE l r d k m = 210 := by simp only [chooseE, h0, h1, h2, h3, if_false]
    have v : chooseV l r d k m = 0 := by rw [chooseV, e]; rfl
    rw [e, v]
    exact choose_mode A l.length cap r d k m h0 (by omega) (by omega) (by simp only [not_or] at h3; simp [goodB, h3.1, h3.2]) w
end Go.Proofs.Ytnhplinlibegnaa
