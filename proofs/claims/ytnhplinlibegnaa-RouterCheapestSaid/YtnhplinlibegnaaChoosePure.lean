/- Choosing, in plain numbers. -/
import Derived.Test.YtnhplinlibegnaaRefCost
namespace Go.Proofs.Ytnhplinlibegnaa
open Go.RowKit

structure Sp where
  k : Int
  a : Int
  b : Int
  c : Int
def Sp.val (s : Sp) : Value := .agg #[.int .i64 s.k, .int .i64 s.a, .int .i64 s.b, .int .i64 s.c]
def nthS (l : List Sp) (j : Nat) : Sp := l.getD j ⟨0, 0, 0, 0⟩
/-- A slice that reads as a list of specs. -/
def Specs (w : World) (A : Option Addr) (l : List Sp) : Prop := ∀ j, j < l.length → ∃ g off, A = some ⟨g, off, none⟩ ∧
  w.cell? ⟨g, off + j * 4, none⟩ = some (.int .i64 (nthS l j).k) ∧ w.cell? ⟨g, off + j * 4 + 1, none⟩ = some (.int .i64 (nthS l j).a) ∧
  w.cell? ⟨g, off + j * 4 + 2, none⟩ = some (.int .i64 (nthS l j).b) ∧ w.cell? ⟨g, off + j * 4 + 3, none⟩ = some (.int .i64 (nthS l j).c)
theorem Specs.below {w w' : World} {A : Option Addr} {l : List Sp} (h : Specs w A l) (hb : Below w.heap.size w w') : Specs w' A l := fun j hj => by
  obtain ⟨g, off, hA, c0, c1, c2, c3⟩ := h j hj
  exact ⟨g, off, hA, below_cell hb c0, below_cell hb c1, below_cell hb c2, below_cell hb c3⟩

def Sp.costE (s : Sp) (r d : Int) : Int := Ytnhplinlibegnaa.costE s.k s.a s.b s.c r d
def Sp.costV (s : Sp) (r d : Int) : Int := Ytnhplinlibegnaa.costV s.k s.a s.b s.c r d
/-- What a spec's search costs in a mode. -/
def priceOf (k v m r d : Int) : Int := if m = 1 ∧ (k = 5 ∨ k = 6) then v + d * r else v
def Sp.price (s : Sp) (m r d : Int) : Int := priceOf s.k (s.costV r d) m r d

/-- The first least one of n numbers, and it. -/
def scan (f : Nat → Int) : Nat → Nat × Int
  | 0 => (0, 0)
  | n + 1 => if n = 0 ∨ f n < (scan f n).2 then (n, f n) else scan f n
/-- The first of n errors. -/
def errTo (f : Nat → Int) : Nat → Int
  | 0 => 0
  | n + 1 => if errTo f n = 0 then f n else errTo f n
theorem errTo_stays {f : Nat → Int} {k : Nat} (h : errTo f k ≠ 0) : ∀ n, k ≤ n → errTo f n = errTo f k
  | 0, hk => by rw [Nat.le_zero.1 hk]
  | n + 1, hk => by
    by_cases e : k = n + 1
    · rw [e]
    · have := errTo_stays h n (by omega)
      rw [errTo, if_neg (by rw [this]; exact h), this]
theorem errTo_at {f : Nat → Int} {k n : Nat} (h0 : errTo f k = 0) (h : f k ≠ 0) (hk : k < n) : errTo f n = f k := by
  have e : errTo f (k + 1) = f k := by rw [errTo, if_pos h0]
  rw [errTo_stays (k := k + 1) (by rw [e]; exact h) n hk, e]
theorem errTo_zero {f : Nat → Int} : ∀ {n : Nat}, errTo f n = 0 ↔ ∀ j, j < n → f j = 0
  | 0 => by simp [errTo]
  | n + 1 => by
    rw [errTo]
    by_cases h : errTo f n = 0
    · rw [if_pos h]
      have := errTo_zero.1 h
      constructor
      · intro h1 j hj
        by_cases e : j = n
        · rw [e]; exact h1
        · exact this j (by omega)
      · intro h1; exact h1 n (by omega)
    · rw [if_neg h]
      constructor
      · intro h1; exact absurd h1 h
      · intro h1; exact absurd (errTo_zero.2 fun j hj => h1 j (by omega)) h

def scanS (l : List Sp) (m r d : Int) (n : Nat) : Nat × Int := scan (fun j => (nthS l j).price m r d) n
def errS (l : List Sp) (r d : Int) (n : Nat) : Int := errTo (fun j => (nthS l j).costE r d) n
def chooseE (l : List Sp) (r d k m : Int) : Int :=
  if l.length = 0 then 1 else if 16 < l.length then 2 else if k < 1 ∨ 64 < k then 1 else if m = 1 ∨ m = 2 then errS l r d l.length else 210
def chooseV (l : List Sp) (r d k m : Int) : Int := if chooseE l r d k m = 0 then (scanS l m r d l.length).1 else 0

theorem fewC_in {r d n : Int} (hr : 0 ≤ r ∧ r ≤ 512) (hd : 1 ≤ d ∧ d ≤ 64) (hn : 0 ≤ n ∧ n ≤ 256) : 0 ≤ fewC r d n ∧ fewC r d n ≤ 64 * 512 := by
  have hg := bl_le r hr.2
  unfold fewC
  have hp := mul_in (A := 256) (B := 10) hn (show 0 ≤ (Lib.bitLen r.toNat : Int) ∧ (Lib.bitLen r.toNat : Int) ≤ 10 by omega)
  exact mul_in (A := 64) (B := 512) (show 0 ≤ d ∧ d ≤ 64 by omega) (by omega)
theorem costV_in (k a b c r d : Int) : 0 ≤ costV k a b c r d ∧ costV k a b c r d ≤ 1000000 := by
  unfold costV
  split
  · rename_i h
    unfold costE at h
    split at h
    · rename_i hE
      split at h
      · simp at h
      · have hr : 0 ≤ r ∧ r ≤ 512 := by omega
        have hd : 1 ≤ d ∧ d ≤ 64 := by omega
        have hd0 : 0 ≤ d ∧ d ≤ 64 := by omega
        unfold costC
        rcases checkE_zero hE with rfl | ⟨rfl | rfl | rfl, ha⟩ | ⟨rfl, ha, hbb, hcc⟩ | ⟨rfl, ha⟩
        · simp
          have := mul_in hd0 hr
          omega
        · simp
          have := fewC_in hr hd (show 0 ≤ 2 * a ∧ 2 * a ≤ 256 by omega)
          omega
        · simp
          have := fewC_in hr hd (show 0 ≤ 3 * a ∧ 3 * a ≤ 256 by omega)
          omega
        · simp
          have hu := upC_in (show 0 ≤ 2 * r ∧ 2 * r ≤ 1024 by omega) ha
          have := mul_in (B := 4096) hd0 (show 0 ≤ a + upC (2 * r) a ∧ a + upC (2 * r) a ≤ 4096 by omega)
          omega
        · simp
          have hu := upC_in (show 0 ≤ r ∧ r ≤ 1024 by omega) ha
          have := mul_in (B := 4096) hd0 (show 0 ≤ a + c + 16 ∧ a + c + 16 ≤ 4096 by omega)
          have := mul_in (A := 8) (B := 2048) (show 0 ≤ b ∧ b ≤ 8 by omega) hu
          omega
        · simp
          have := fewC_in hr hd (show 0 ≤ 4 * a ∧ 4 * a ≤ 256 by omega)
          omega
    · rename_i hE
      exact absurd h hE
  · omega
theorem costE_zero {k a b c r d : Int} (h : costE k a b c r d = 0) : checkE k a b c = 0 ∧ (0 ≤ r ∧ r ≤ 512) ∧ (1 ≤ d ∧ d ≤ 64) := by
  unfold costE at h
  split at h
  · split at h
    · simp at h
    · exact ⟨‹_›, by omega, by omega⟩
  · exact absurd h ‹_›
end Go.Proofs.Ytnhplinlibegnaa
