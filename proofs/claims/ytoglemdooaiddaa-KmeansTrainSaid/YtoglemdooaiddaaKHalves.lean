/- A Wide by its halves: words for the document's numbers. -/
import Derived.Test.YtoglemdooaiddaaKFar
import Derived.BigQuiet
namespace Go.Proofs.Ytoglemdooaiddaa
open Go.RowKit
set_option linter.unusedVariables false
theorem sm_zero : Sm 0 := by unfold Sm; omega
theorem below_drewN {B : Nat} {a w : World} (h : Below B a w) (n : Nat) : Below B a (w.drewN n) := ⟨h.os, h.tape, h.output, h.size, h.block⟩
theorem num_wv (h l : Nat) (hl : l < 18446744073709551616) : num (h * 18446744073709551616 + l) = .agg #[.int .u64 (h : Int), .int .u64 (l : Int)] := by
  unfold num wv
  rw [show (h * 18446744073709551616 + l) / 18446744073709551616 = h by omega, show (h * 18446744073709551616 + l) % 18446744073709551616 = l by omega]
def wh (h l : Nat) : Nat := h * 18446744073709551616 + l
theorem wh_lt {h l : Nat} (s1 : Sm h) (s2 : Sm l) : wh h l < 340282366920938463463374607431768211456 := by unfold wh Sm at *; omega
theorem num_wh (h l : Nat) (s2 : Sm l) : num (wh h l) = .agg #[.int .u64 (h : Int), .int .u64 (l : Int)] := num_wv h l s2
theorem wh_inj {h l h' l' : Nat} (s : Sm l) (s' : Sm l') (e : wh h l = wh h' l') : h = h' ∧ l = l' := by unfold wh Sm at *; omega
theorem wh_lex {h l h' l' : Nat} (s : Sm l) (s' : Sm l') : wh h l < wh h' l' ↔ h < h' ∨ h = h' ∧ l < l' := by unfold wh Sm at *; omega
theorem wh_of (n : Nat) (h : n < 340282366920938463463374607431768211456) : ∃ h l, Sm h ∧ Sm l ∧ wh h l = n :=
  ⟨n / 18446744073709551616, n % 18446744073709551616, by unfold Sm; omega, by unfold Sm; omega, by unfold wh; omega⟩
def Two (w wr : World) (ah al bh bl : Nat) : Prop := Below w.heap.size w wr ∧ Blk wr w.heap.size 34 #[.int .u64 (ah : Int), .int .u64 (al : Int)] ∧ Blk wr (w.heap.size + 1) 34 #[.int .u64 (bh : Int), .int .u64 (bl : Int)]
theorem Two.more {w wr w1 : World} {ah al bh bl : Nat} (h : Two w wr ah al bh bl) (hb : Below wr.heap.size wr w1) : Two w w1 ah al bh bl := ⟨below_chain h.1 hb h.1.size, h.2.1.below hb h.2.1.lt, h.2.2.below hb h.2.2.lt⟩
theorem Two.drew {w wr : World} {ah al bh bl : Nat} (h : Two w wr ah al bh bl) : Two w wr.drew ah al bh bl := ⟨h.1.drew, h.2.1, h.2.2⟩
theorem Two.start (w : World) (ah al bh bl : Nat) : Two w ((w.alloc (.cells #[.int .u64 (ah : Int), .int .u64 (al : Int)] 34)).alloc (.cells #[.int .u64 (bh : Int), .int .u64 (bl : Int)] 34)) ah al bh bl := by
  have e1 : (w.alloc (.cells #[.int .u64 (ah : Int), .int .u64 (al : Int)] 34)).heap.size = w.heap.size + 1 := by simp
  refine ⟨((Below.refl _ _).alloc (Nat.le_refl _) _).alloc (by simp) _, (Blk.new w _ _).alloc _, ?_⟩
  have := Blk.new (w.alloc (.cells #[.int .u64 (ah : Int), .int .u64 (al : Int)] 34)) 34 #[.int .u64 (bh : Int), .int .u64 (bl : Int)]
  rwa [e1] at this
theorem Two.cells {w wr : World} {ah al bh bl : Nat} (h : Two w wr ah al bh bl) : wr.cell? ⟨w.heap.size, 0, none⟩ = some (.int .u64 (ah : Int)) ∧ wr.cell? ⟨w.heap.size, 1, none⟩ = some (.int .u64 (al : Int)) ∧
    wr.cell? ⟨w.heap.size + 1, 0, none⟩ = some (.int .u64 (bh : Int)) ∧ wr.cell? ⟨w.heap.size + 1, 1, none⟩ = some (.int .u64 (bl : Int)) := ⟨h.2.1.cell 0, h.2.1.cell 1, h.2.2.cell 0, h.2.2.cell 1⟩
theorem Two.lt {w wr : World} {ah al bh bl : Nat} (h : Two w wr ah al bh bl) : w.heap.size < wr.heap.size ∧ w.heap.size + 1 < wr.heap.size := ⟨h.2.1.lt, h.2.2.lt⟩
/-- hiN and loN are the halves. -/
theorem wh_hl (n : Nat) : wh (hiN n) (loN n) = n := by unfold wh hiN loN; omega
theorem sm_lo (n : Nat) : Sm (loN n) := by unfold Sm loN; omega
theorem sm_hi (n : Nat) (h : Wd n) : Sm (hiN n) := by unfold Sm hiN; unfold Wd at h; omega
end Go.Proofs.Ytoglemdooaiddaa
