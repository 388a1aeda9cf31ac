/- The contract of the document's Plus. -/
import Derived.Test.YtiamppbgpoffmaaNumPlusq
import Derived.Deep.RegionHeld3
namespace Go.Proofs.Ytiamppbgpoffmaa
open Go.RowKit
set_option linter.unusedVariables false

theorem sml_digit {E : List Nat} (h : Dig E) (k : Nat) : Sml (nthN E k) := by have := h.2 k; unfold Sml; omega
def AddPost (w : World) (D E : List Nat) (o p : Bool) (e : Ending) (w' : World) : Prop :=
  ∃ D', e = .returned (numV D' (o || p || decide (340282366920938463463374607431768211456 ≤ val D + val E))) ∧ Dig D' ∧ val D' = (val D + val E) % 340282366920938463463374607431768211456 ∧ Below w.heap.size w w'
/-- Where the sum stands: k digits are added. -/
def Summed (D E : List Nat) (q : Bool) (k : Nat) (D' : List Nat) (o' : Bool) : Prop :=
  Dig D' ∧ val D' = (val D + val (E.take k)) % 340282366920938463463374607431768211456 ∧ o' = (q || decide (340282366920938463463374607431768211456 ≤ val D + val (E.take k)))

theorem Summed.step {D E D' D2 : List Nat} {q o' o2 : Bool} {k : Nat} (h : Summed D E q k D' o') (hE : Dig E) (hk : k < 8) (hd : Dig D2) (hv : val D2 = (val D' + nthN E k * 65536 ^ k) % 340282366920938463463374607431768211456)
    (ho : o2 = (o' || decide (340282366920938463463374607431768211456 ≤ val D' + nthN E k * 65536 ^ k))) : Summed D E q (k + 1) D2 o2 := by
  obtain ⟨h1, h2, h3⟩ := h
  have e := val_take E k (by rw [hE.1]; exact hk)
  have hl := h1.lt
  unfold Summed
  generalize nthN E k * 65536 ^ k = x at *
  generalize val (E.take k) = y at *
  generalize val (E.take (k + 1)) = z at *
  refine ⟨hd, ?_, ?_⟩
  · rw [hv, h2, e]; omega
  · rw [ho, h3, e, Bool.or_assoc]
    congr 1
    rw [Bool.eq_iff_iff]
    simp only [Bool.or_eq_true, decide_eq_true_eq]
    omega
theorem three_nums (w : World) (t : TypeId) (c1 c2 c3 : Array Value) :
    Blk (((w.alloc (.cells c1 t)).alloc (.cells c2 t)).alloc (.cells c3 t)) w.heap.size t c1 ∧ Blk (((w.alloc (.cells c1 t)).alloc (.cells c2 t)).alloc (.cells c3 t)) (w.heap.size + 1) t c2 ∧
    Blk (((w.alloc (.cells c1 t)).alloc (.cells c2 t)).alloc (.cells c3 t)) (w.heap.size + 1 + 1) t c3 ∧ Below w.heap.size w (((w.alloc (.cells c1 t)).alloc (.cells c2 t)).alloc (.cells c3 t)) := by
  have e1 : (w.alloc (.cells c1 t)).heap.size = w.heap.size + 1 := by simp
  have e2 : ((w.alloc (.cells c1 t)).alloc (.cells c2 t)).heap.size = w.heap.size + 1 + 1 := by simp
  refine ⟨((Blk.new w t c1).alloc _).alloc _, ?_, ?_, (((Below.refl _ _).alloc (Nat.le_refl _) _).alloc (by simp) _).alloc (by simp; omega) _⟩
  · have := (Blk.new (w.alloc (.cells c1 t)) t c2).alloc (.cells c3 t)
    rwa [e1] at this
  · have := Blk.new ((w.alloc (.cells c1 t)).alloc (.cells c2 t)) t c3
    rwa [e2] at this
def AddInv (w : World) (D E : List Nat) (q p : Bool) (k : Nat) (wr : World) : Prop :=
  ∃ D' o', Summed D E q k D' o' ∧ Below w.heap.size w wr ∧ Blk wr w.heap.size 75 (numC D' o') ∧ Blk wr (w.heap.size + 1) 75 (numC E p) ∧ Blk wr (w.heap.size + 1 + 1) 75 (numC [] false)

set_option maxRecDepth 100000 in
set_option maxHeartbeats 4000000 in
theorem add_num (D E : List Nat) (o p : Bool) (hD : Dig D) (hE : Dig E) (w : World) : Calls Try.prog 56 #[numV D o, numV E p] w (AddPost w D E o p) := by
  have h0 : Summed D E (o || p) 0 D (o || p) := ⟨hD, by have := hD.lt; simp [val]; omega, by have := hD.lt; simp [val]; omega⟩
  obtain ⟨q, hq⟩ : ∃ q : Bool, q = (o || p) := ⟨_, rfl⟩
  rw [← hq] at h0
  replace h0 := Lib.hid h0
  replace hq := Lib.hid hq
  unfold numV
  cases o
  all_goals
   go_enter Try.func56, Try.ntmps56
   go_wp2
   go_loopw [5] (fun iv wr => ∃ k : Nat, k ≤ 8 ∧ iv = .int .i64 (k : Int) ∧ AddInv w D E q p k wr) (fun iv _ => 8 - (intOf iv).toNat)
   case atStart =>
     obtain rfl := hq.out
     obtain ⟨b1, b2, b3, B⟩ := three_nums w 75 (numC D _) (numC E _) (numC [] false)
     exact ⟨0, by omega, rfl, D, _, h0.out, B, b1, b2, b3⟩
   case round =>
     obtain ⟨k, hk, rfl, D', o', hS, hB, b1, b2, b3⟩ := hrel
     by_cases hlt : k < 8
     · have k0 : (0 : Int) ≤ (k : Int) := by omega
       have k8 : (k : Int) < 8 := by omega
       have ck : wr.cell? ⟨w.heap.size + 1, k, none⟩ = some (.int .i64 (nthN E k : Int)) := (b2.cell k).trans (numC_at E _ k hlt)
       obtain ⟨c0, c1, c2, c3, c4, c5, c6, c7, c8⟩ := num_cells b1
       obtain ⟨z0, z1, z2, z3, z4, z5, z6, z7, z8⟩ := num_free b1
       go_wp2_with fail
       go_region_with (first | (go_at_call 68; refine (nplus_any D' o' k (nthN E k) hS.1 (by omega) (sml_digit hE k) _).mono ?_; rintro e w1 ⟨D2, rfl, hd2, hv2, hb2⟩; have b1' := Blk.below (w := wr.drew) b1 hb2 b1.lt; obtain ⟨g0, g1, g2, g3, g4, g5, g6, g7, g8⟩ := num_cells b1'; obtain ⟨x0, x1, x2, x3, x4, x5, x6, x7, x8⟩ := num_free b1'; replace hv2 := Lib.hid hv2; obtain ⟨o2, ho2⟩ : ∃ o2 : Bool, o2 = (o' || decide (340282366920938463463374607431768211456 ≤ val D' + nthN E k * 65536 ^ k)) := ⟨_, rfl⟩; rw [← ho2]; replace ho2 := Lib.hid ho2; unfold numV))
       all_goals
         rw [nine_fold w1 w.heap.size D2 o2]
         have b9 := nine_blk D2 o2 b1'
         have B9 := nine_below D2 o2 (below_chain hB.drew hb2 hB.size) (Nat.le_refl _)
         have m9 := nine_far (g := w.heap.size) D2 o2 (Blk.below (w := wr.drew) b2 hb2 b2.lt) (k := w.heap.size + 1) (by omega)
         have q9 := nine_far (g := w.heap.size) D2 o2 (Blk.below (w := wr.drew) b3 hb2 b3.lt) (k := w.heap.size + 1 + 1) (by omega)
         generalize nine w1 w.heap.size D2 o2 = w9 at *
         have hS2 : Summed D E q (k + 1) D2 o2 := hS.step hE hlt hd2 hv2.out ho2.out
         clear c0 c1 c2 c3 c4 c5 c6 c7 c8 g0 g1 g2 g3 g4 g5 g6 g7 g8 x0 x1 x2 x3 x4 x5 x6 x7 x8 z0 z1 z2 z3 z4 z5 z6 z7 z8 ck hS hd2 hv2 ho2 b1' b1 b2 b3 hb2
         replace hS2 := Lib.hid hS2
         go_wp2
         exact ⟨⟨k + 1, by omega, by go_num, D2, o2, hS2.out, B9, b9, m9, q9⟩, by simp [intOf]; omega⟩
     · obtain rfl : k = 8 := by omega
       obtain ⟨hd, hv, ho⟩ := hS
       rw [List.take_of_length_le (Nat.le_of_eq hE.1)] at hv ho
       replace hv := Lib.hid hv
       replace ho := Lib.hid ho
       clear hlt b2
       obtain ⟨c0, c1, c2, c3, c4, c5, c6, c7, c8⟩ := num_cells b1
       obtain ⟨r0, r1, r2, r3, r4, r5, r6, r7, r8⟩ := num_cells b3
       obtain ⟨z0, z1, z2, z3, z4, z5, z6, z7, z8⟩ := num_free b3
       go_wp2
       rw [nine_fold wr (w.heap.size + 1 + 1) D' o']
       have b9 := nine_blk D' o' b3
       have B9 := nine_below D' o' hB (g := w.heap.size + 1 + 1) (by omega)
       generalize nine wr (w.heap.size + 1 + 1) D' o' = w9 at *
       obtain ⟨y0, y1, y2, y3, y4, y5, y6, y7, y8⟩ := num_cells b9
       refine bodyPost_ret (v := numV D' o') (by simp [results, Try.results56, go_sem, y0, y1, y2, y3, y4, y5, y6, y7, y8, numV]) rfl ?_
       exact ⟨D', by rw [ho.out, hq.out], hd, hv.out, B9⟩
end Go.Proofs.Ytiamppbgpoffmaa
