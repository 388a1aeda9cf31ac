/- The contract of vec.Dist where both vectors are as they should be. -/
import Derived.Test.YtoglemdooaiddaaKDist
namespace Go.Proofs.Ytoglemdooaiddaa
open Go.RowKit
set_option linter.unusedVariables false


set_option maxRecDepth 100000 in
set_option maxHeartbeats 4000000 in
theorem dist_ok (A B : Option Addr) (a b : List Int) (c d : Nat) (ea : vecE a a.length = 0) (eb : vecE b a.length = 0) (w : World) (hA : Row w A a) (hB : Row w B b) :
    Calls Try.prog 49 #[.slice A a.length c, .slice B b.length d] w fun e w' => e = .returned (.tuple #[.agg #[.int .u64 (hiN (farN a b) : Int), .int .u64 (loN (farN a b) : Int)], .int .i64 0]) ∧ Below w.heap.size w w' := by
  obtain ⟨l1, l2, _, l4⟩ := vecE_ok ea
  obtain ⟨_, _, l3, l5⟩ := vecE_ok eb
  have hl : b.length = a.length := by omega
  rw [hl] at l5
  have h64 : a.length ≤ 64 := by omega
  have hF := Lib.hid (far_any A B a b c d hl l4 l5 h64)
  clear l1 l2 l3 l4 l5
  have b0 := (Blk.new w 34 #[.int .u64 0, .int .u64 0]).alloc (.cells #[.slice A a.length c, .slice B b.length d] 30)
  have b1 := Blk.new (w.alloc (.cells #[.int .u64 0, .int .u64 0] 34)) 30 #[.slice A a.length c, .slice B b.length d]
  rw [show (w.alloc (.cells #[.int .u64 0, .int .u64 0] 34)).heap.size = w.heap.size + 1 by simp] at b1
  have B1 : Below w.heap.size w ((w.alloc (.cells #[.int .u64 0, .int .u64 0] 34)).alloc (.cells #[.slice A a.length c, .slice B b.length d] 30)) := (below_alloc1 _ _).alloc (by simp) _
  rw [hl] at hF b0 b1 B1 ⊢
  go_enter Try.func49, Try.ntmps49
  go_wp2_with fail
  generalize (w.alloc (.cells #[.int .u64 0, .int .u64 0] 34)).alloc (.cells #[.slice A a.length c, .slice B a.length d] 30) = w0 at *
  go_loopw [13] (fun i wr => ∃ k : Nat, k ≤ 2 ∧ i = .int .i64 (k : Int) ∧ Below w.heap.size w wr ∧ Blk wr w.heap.size 34 #[.int .u64 0, .int .u64 0] ∧ Blk wr (w.heap.size + 1) 30 #[.slice A a.length c, .slice B a.length d]) (fun i _ => 2 - (intOf i).toNat)
  case atStart => exact ⟨0, by omega, rfl, B1, b0, b1⟩
  case round =>
    obtain ⟨k, hk, rfl, hB1, hb0, hb1⟩ := hrel
    clear B1 b0 b1
    have c0 := hb1.cell 0
    have c1 := hb1.cell 1
    simp only [List.getElem?_toArray, List.getElem?_cons_zero, List.getElem?_cons_succ] at c0 c1
    obtain rfl | rfl | rfl : k = 0 ∨ k = 1 ∨ k = 2 := by omega
    · have hCA := Lib.hid (vec_any A a c a.length wr (hA.below hB1))
      go_wp2_with (go_at_call 37; refine hCA.out.mono ?_; rintro e w' ⟨rfl, rfl⟩; rw [ea])
      exact ⟨⟨1, by omega, by rfl, hB1, hb0, hb1⟩, by simp [intOf]⟩
    · have hCB := Lib.hid (vec_any B b d a.length wr (hB.below hB1))
      rw [hl] at hCB
      go_wp2_with (go_at_call 37; refine hCB.out.mono ?_; rintro e w' ⟨rfl, rfl⟩; rw [eb])
      exact ⟨⟨2, by omega, by rfl, hB1, hb0, hb1⟩, by simp [intOf]⟩
    · go_wp2_with fail
      refine (hF.out wr (hA.below hB1) (hB.below hB1)).mono ?_
      rintro e w2 ⟨rfl, hb2⟩
      have b2 := hb0.below hb2 hb0.lt
      have B2 := below_chain hB1 hb2 hB1.size
      have f0 := b2.frozen 0
      have f1 := b2.frozen 1
      have m2 := b2.cell 0
      have m3 := b2.cell 1
      simp only [List.getElem?_toArray, List.getElem?_cons_zero, List.getElem?_cons_succ] at m2 m3
      go_wp2_with fail
      have B9 := (B2.setCell (p := ⟨w.heap.size, 0, none⟩) (by simp) (.int .u64 (hiN (farN a b) : Int))).setCell (p := ⟨w.heap.size, 1, none⟩) (by simp) (.int .u64 (loN (farN a b) : Int))
      have b9 := pair_set (u := .int .u64 (hiN (farN a b) : Int)) (v := .int .u64 (loN (farN a b) : Int)) b2
      generalize ((w2.setCell ⟨w.heap.size, 0, none⟩ _).setCell ⟨w.heap.size, 1, none⟩ _) = w9 at *
      have m0 : w9.cell? ⟨w.heap.size, 0, none⟩ = some (.int .u64 (hiN (farN a b) : Int)) := b9.cell 0
      have m1 : w9.cell? ⟨w.heap.size, 1, none⟩ = some (.int .u64 (loN (farN a b) : Int)) := b9.cell 1
      refine bodyPost_ret (v := .tuple #[.agg #[.int .u64 (hiN (farN a b) : Int), .int .u64 (loN (farN a b) : Int)], .int .i64 0]) (by simp [results, Try.results49, go_sem, m0, m1]) rfl ?_
      exact ⟨rfl, B9⟩
end Go.Proofs.Ytoglemdooaiddaa
