/- The contract of the document's Times. -/
import Derived.Test.YtodjpljdkjemmaaNumWide
namespace Go.Proofs.Ytodjpljdkjemmaa
open Go.RowKit
set_option linter.unusedVariables false

def TimesPost (w : World) (D E : List Nat) (o p : Bool) (e : Ending) (w' : World) : Prop :=
  ∃ D', e = .returned (numV D' (o || p || decide (340282366920938463463374607431768211456 ≤ val D * val E))) ∧ Dig D' ∧ val D' = val D * val E % 340282366920938463463374607431768211456 ∧ Below w.heap.size w w'
/-- The part of the product that i rows and k digits of the next one make. -/
def part (D E : List Nat) (i k : Nat) : Nat := val (D.take i) * val E + nthN D i * 65536 ^ i * val (E.take k)
theorem part_step (D E : List Nat) (i k : Nat) (hk : k < E.length) : part D E i (k + 1) = part D E i k + nthN D i * nthN E k * 65536 ^ (i + k) := by
  unfold part
  rw [val_take E k hk, Nat.mul_add, ← Nat.add_assoc]
  congr 1
  rw [Nat.pow_add]
  simp only [Nat.mul_comm, Nat.mul_left_comm, Nat.mul_assoc]
theorem part_row (D E : List Nat) (i : Nat) (hi : i < D.length) (hE : E.length = 8) : part D E (i + 1) 0 = part D E i 8 := by
  unfold part
  rw [val_take D i hi, List.take_of_length_le (Nat.le_of_eq hE), List.take_zero, val, Nat.mul_zero, Nat.add_zero, Nat.add_mul]
theorem part_end (D E : List Nat) (hD : D.length = 8) : part D E 8 0 = val D * val E := by
  unfold part
  rw [List.take_of_length_le (Nat.le_of_eq hD), List.take_zero, val, Nat.mul_zero, Nat.add_zero]
theorem part_start (D E : List Nat) : part D E 0 0 = 0 := by simp [part, val]
/-- A partial sum stands. -/
def Stands (T : Nat) (q : Bool) (D' : List Nat) (o' : Bool) : Prop := Dig D' ∧ val D' = T % 340282366920938463463374607431768211456 ∧ o' = (q || decide (340282366920938463463374607431768211456 ≤ T))
theorem Stands.plus {T x : Nat} {q o' o2 : Bool} {D' D2 : List Nat} (h : Stands T q D' o') (hd : Dig D2) (hv : val D2 = (val D' + x) % 340282366920938463463374607431768211456)
    (ho : o2 = (o' || decide (340282366920938463463374607431768211456 ≤ val D' + x))) : Stands (T + x) q D2 o2 := by
  obtain ⟨h1, h2, h3⟩ := h
  have hl := h1.lt
  unfold Stands
  refine ⟨hd, ?_, ?_⟩
  · rw [hv, h2]; omega
  · rw [ho, h3, Bool.or_assoc]
    congr 1
    rw [Bool.eq_iff_iff]
    simp only [Bool.or_eq_true, decide_eq_true_eq]
    omega
theorem Stands.over {T v n : Nat} {q o' : Bool} {D' : List Nat} (h : Stands T q D' o') (hv : 0 < v) (hn : 8 ≤ n) : Stands (T + v * 65536 ^ n) q D' true := by
  obtain ⟨h1, h2, h3⟩ := h
  obtain ⟨m, rfl⟩ : ∃ m, n = 8 + m := ⟨n - 8, by omega⟩
  have e : v * 65536 ^ (8 + m) = 340282366920938463463374607431768211456 * (v * 65536 ^ m) := by
    rw [Nat.pow_add, Nat.mul_left_comm]
  have hp : 0 < v * 65536 ^ m := Nat.mul_pos hv (Nat.pow_pos (by omega))
  rw [e]
  generalize v * 65536 ^ m = z at *
  refine ⟨h1, ?_, ?_⟩
  · rw [h2]; omega
  · rw [decide_eq_true (by omega), Bool.or_true]
theorem digit_prod {a b : Nat} (ha : a < 65536) (hb : b < 65536) : Sml (a * b) ∧ wrap64 ((a : Int) * (b : Int)) = ((a * b : Nat) : Int) := by
  have h := Nat.mul_le_mul (show a ≤ 65535 by omega) (show b ≤ 65535 by omega)
  have e : (a : Int) * (b : Int) = ((a * b : Nat) : Int) := by simp
  rw [e]
  unfold Sml wrap64
  generalize a * b = c at *
  constructor <;> omega
theorem four_nums (w : World) (t : TypeId) (c1 c2 c3 c4 : Array Value) :
    Blk ((((w.alloc (.cells c1 t)).alloc (.cells c2 t)).alloc (.cells c3 t)).alloc (.cells c4 t)) w.heap.size t c1 ∧ Blk ((((w.alloc (.cells c1 t)).alloc (.cells c2 t)).alloc (.cells c3 t)).alloc (.cells c4 t)) (w.heap.size + 1) t c2 ∧
    Blk ((((w.alloc (.cells c1 t)).alloc (.cells c2 t)).alloc (.cells c3 t)).alloc (.cells c4 t)) (w.heap.size + 1 + 1) t c3 ∧ Blk ((((w.alloc (.cells c1 t)).alloc (.cells c2 t)).alloc (.cells c3 t)).alloc (.cells c4 t)) (w.heap.size + 1 + 1 + 1) t c4 ∧
    Below w.heap.size w ((((w.alloc (.cells c1 t)).alloc (.cells c2 t)).alloc (.cells c3 t)).alloc (.cells c4 t)) := by
  have e1 : (w.alloc (.cells c1 t)).heap.size = w.heap.size + 1 := by simp
  have e2 : ((w.alloc (.cells c1 t)).alloc (.cells c2 t)).heap.size = w.heap.size + 1 + 1 := by simp
  have e3 : (((w.alloc (.cells c1 t)).alloc (.cells c2 t)).alloc (.cells c3 t)).heap.size = w.heap.size + 1 + 1 + 1 := by simp
  refine ⟨(((Blk.new w t c1).alloc _).alloc _).alloc _, ?_, ?_, ?_, ((((Below.refl _ _).alloc (Nat.le_refl _) _).alloc (by simp) _).alloc (by simp; omega) _).alloc (by simp; omega) _⟩
  · have := ((Blk.new (w.alloc (.cells c1 t)) t c2).alloc (.cells c3 t)).alloc (.cells c4 t)
    rwa [e1] at this
  · have := (Blk.new ((w.alloc (.cells c1 t)).alloc (.cells c2 t)) t c3).alloc (.cells c4 t)
    rwa [e2] at this
  · have := Blk.new (((w.alloc (.cells c1 t)).alloc (.cells c2 t)).alloc (.cells c3 t)) t c4
    rwa [e3] at this
/-- Times' memory: the two numbers, the result, what is built. -/
def TimesAt (w wr : World) (D E : List Nat) (o p : Bool) (D' : List Nat) (o' : Bool) : Prop := Below w.heap.size w wr ∧ Blk wr w.heap.size 43 (numC D o) ∧ Blk wr (w.heap.size + 1) 43 (numC E p) ∧
  Blk wr (w.heap.size + 1 + 1) 43 (numC [] false) ∧ Blk wr (w.heap.size + 1 + 1 + 1) 43 (numC D' o')
theorem TimesAt.drawn {w wr : World} {D E D' : List Nat} {o p o' : Bool} (h : TimesAt w wr D E o p D' o') (n : Nat) : TimesAt w (wr.drewN n) D E o p D' o' := ⟨below_drewN h.1 n, h.2.1, h.2.2.1, h.2.2.2.1, h.2.2.2.2⟩
theorem timesAt_start (w : World) (D E : List Nat) (o p q : Bool) : TimesAt w (((((w.alloc (.cells (numC D o) 43)).alloc (.cells (numC E p) 43)).alloc (.cells (numC [] false) 43)).alloc (.cells (numC [] q) 43))) D E o p [0, 0, 0, 0, 0, 0, 0, 0] q := by
  obtain ⟨h1, h2, h3, h4, h5⟩ := four_nums w 43 (numC D o) (numC E p) (numC [] false) (numC [] q)
  exact ⟨h5, h1, h2, h3, h4⟩
set_option maxRecDepth 100000 in
set_option maxHeartbeats 4000000 in
theorem times_any (D E : List Nat) (o p : Bool) (hD : Dig D) (hE : Dig E) (w : World) : Calls Try.prog 30 #[numV D o, numV E p] w (TimesPost w D E o p) := by
  obtain ⟨q, hq⟩ : ∃ q : Bool, q = (o || p) := ⟨_, rfl⟩
  replace hq := Lib.hid hq
  unfold numV
  cases o
  all_goals
   go_enter Try.func30, Try.ntmps30
   go_wp2
   go_loopw [6] (fun iv wr => ∃ (i : Nat) (D' : List Nat) (o' : Bool), i ≤ 8 ∧ iv = .int .i64 (i : Int) ∧ Stands (part D E i 0) q D' o' ∧ TimesAt w wr D E _ p D' o') (fun iv _ => 8 - (intOf iv).toNat)
   case atStart =>
     refine ⟨0, [0, 0, 0, 0, 0, 0, 0, 0], q, by omega, rfl, ⟨dig_none, by rw [part_start, val_none], by rw [part_start]; simp⟩, ?_⟩
     rw [hq.out]
     exact timesAt_start w D E _ p _
   case round =>
     obtain ⟨i, D', o', hi, rfl, hS, hA⟩ := hrel
     by_cases hlt : i < 8
     · have i0 : (0 : Int) ≤ (i : Int) := by omega
       have i8 : (i : Int) < 8 := by omega
       replace hS := Lib.hid hS
       replace hA := Lib.hid hA
       go_wp2
       go_loopw [7] (fun kv wr => ∃ (k : Nat) (D2 : List Nat) (o2 : Bool), k ≤ 8 ∧ kv = .int .i64 (k : Int) ∧ Stands (part D E i k) q D2 o2 ∧ TimesAt w wr D E _ p D2 o2) (fun kv _ => 8 - (intOf kv).toNat)
       case atStart => exact ⟨0, D', o', by omega, rfl, hS.out, hA.out⟩
       case round =>
         clear hS hA
         obtain ⟨k, D2, o2, hk, rfl, hS, hB, bD, bE, bR, bO⟩ := hrel
         by_cases hlk : k < 8
         · have k0 : (0 : Int) ≤ (k : Int) := by omega
           have k8 : (k : Int) < 8 := by omega
           have ca : wr.cell? ⟨w.heap.size, i, none⟩ = some (.int .i64 (nthN D i : Int)) := (bD.cell i).trans (numC_at D _ i hlt)
           have cb : wr.cell? ⟨w.heap.size + 1, k, none⟩ = some (.int .i64 (nthN E k : Int)) := (bE.cell k).trans (numC_at E _ k hlk)
           obtain ⟨v, hv⟩ : ∃ v : Nat, v = nthN D i * nthN E k := ⟨_, rfl⟩
           obtain ⟨n, hn⟩ : ∃ n : Nat, n = i + k := ⟨_, rfl⟩
           have hstep := part_step D E i k (by rw [hE.1]; exact hlk)
           rw [← hv, ← hn] at hstep
           obtain ⟨sv, hw⟩ := digit_prod (hD.2 i) (hE.2 k)
           rw [← hv] at sv hw
           have hn2 : (i : Int) + (k : Int) = (n : Int) := by omega
           have n20 : n ≤ 20 := by omega
           clear hv
           replace hstep := Lib.hid hstep
           have hcase : ((0 : Int) < (v : Int) ∧ (8 : Int) ≤ (n : Int)) ∨ (v : Int) ≤ 0 ∨ ((0 : Int) < (v : Int) ∧ (n : Int) < 8) := by omega
           rcases hcase with ⟨q1, q2⟩ | hcase
           · have hS2 := hS.over (v := v) (n := n) (by omega) (by omega)
             rw [← hstep.out] at hS2
             replace hS2 := Lib.hid hS2
             clear hS hn
             have cO : wr.cell? ⟨w.heap.size + 1 + 1 + 1, 8, none⟩ = some (.bool o2) := bO.cell 8
             have fO := bO.frozen 8
             go_wp2_with fail
             go_quiet (fail)
             go_wp2
             clear hw
             refine ⟨⟨k + 1, D2, true, by omega, by go_num, hS2.out, (below_drewN hB nq).setCell (p := ⟨w.heap.size + 1 + 1 + 1, 8, none⟩) (by simp; omega) _, ?_, ?_, ?_, ?_⟩, by simp [intOf]; omega⟩
             · exact (bD.drawn ⟨nq, rfl⟩).far (by simp; omega) _
             · exact (bE.drawn ⟨nq, rfl⟩).far (by simp) _
             · exact (bR.drawn ⟨nq, rfl⟩).far (by simp) _
             · have := (bO.drawn ⟨nq, rfl⟩).set_ 8 (.bool true)
               rwa [numC_over] at this
           · have hr : TimesAt w wr D E _ p D2 o2 := ⟨hB, bD, bE, bR, bO⟩
             replace hr := Lib.hid hr
             rcases hcase with q1 | ⟨q1, q2⟩
             all_goals
               clear hn
               go_wp2_with fail
               go_quiet (fail)
               obtain ⟨w5, hw5⟩ : ∃ w5 : World, w5 = wr.drewN nq := ⟨_, rfl⟩
               rw [← hw5]
               have hr5 := hr.out.drawn nq
               rw [← hw5] at hr5
               clear hw5 hr hB bD bE bR bO ca cb
               clear wr
               obtain ⟨hB, bD, bE, bR, bO⟩ := hr5
               obtain ⟨c0, c1, c2, c3, c4, c5, c6, c7, c8⟩ := num_cells bO
               go_wp2_with fail
               clear hw
               refine (plus_any D2 o2 n v hS.1 n20 sv _).mono ?_
               rintro e w1 ⟨D3, rfl, hd3, hv3, hb3⟩
               have hS2 := hS.plus hd3 hv3 rfl
               rw [← hstep.out] at hS2
               clear c0 c1 c2 c3 c4 c5 c6 c7 c8 hS hv3 hd3
               obtain ⟨o3, ho3⟩ : ∃ o3 : Bool, o3 = (o2 || decide (340282366920938463463374607431768211456 ≤ val D2 + v * 65536 ^ n)) := ⟨_, rfl⟩
               rw [← ho3] at hS2 ⊢
               clear ho3
               replace hS2 := Lib.hid hS2
               have bO' := bO.below hb3 bO.lt
               have bD' := bD.below hb3 bD.lt
               have bE' := bE.below hb3 bE.lt
               have bR' := bR.below hb3 bR.lt
               have hB' := below_chain hB hb3 hB.size
               clear bO bD bE bR hB hb3
               obtain ⟨c0, c1, c2, c3, c4, c5, c6, c7, c8⟩ := num_cells bO'
               obtain ⟨x0, x1, x2, x3, x4, x5, x6, x7, x8⟩ := num_free bO'
               unfold numV
               go_wp2
               rw [nine_fold w1 (w.heap.size + 1 + 1 + 1) D3 o3]
               have b9 := nine_blk D3 o3 bO'
               have B9 := nine_below D3 o3 hB' (g := w.heap.size + 1 + 1 + 1) (by omega)
               have m9 := nine_far (g := w.heap.size + 1 + 1 + 1) D3 o3 bD' (by omega)
               have q9 := nine_far (g := w.heap.size + 1 + 1 + 1) D3 o3 bE' (by omega)
               have r9 := nine_far (g := w.heap.size + 1 + 1 + 1) D3 o3 bR' (by omega)
               generalize nine w1 (w.heap.size + 1 + 1 + 1) D3 o3 = w9 at *
               exact ⟨⟨k + 1, D3, o3, by omega, by go_num, hS2.out, B9, m9, q9, r9, b9⟩, by simp [intOf]; omega⟩
         · obtain rfl : k = 8 := by omega
           have hrow := part_row D E i (by rw [hD.1]; exact hlt) hE.1
           rw [← hrow] at hS
           replace hS := Lib.hid hS
           have hr : TimesAt w wr D E _ p D2 o2 := ⟨hB, bD, bE, bR, bO⟩
           clear hrow hB bD bE bR bO
           go_wp2
           exact ⟨⟨i + 1, D2, o2, by omega, by go_num, hS.out, hr⟩, by simp [intOf]; omega⟩
     · obtain rfl : i = 8 := by omega
       obtain ⟨hB, bD, bE, bR, bO⟩ := hA
       rw [part_end D E hD.1] at hS
       obtain ⟨hd, hv, ho⟩ := hS
       replace hv := Lib.hid hv
       replace ho := Lib.hid ho
       clear hlt bD bE
       obtain ⟨c0, c1, c2, c3, c4, c5, c6, c7, c8⟩ := num_cells bO
       obtain ⟨r0, r1, r2, r3, r4, r5, r6, r7, r8⟩ := num_cells bR
       obtain ⟨z0, z1, z2, z3, z4, z5, z6, z7, z8⟩ := num_free bR
       go_wp2
       rw [nine_fold wr (w.heap.size + 1 + 1) D' o']
       have b9 := nine_blk D' o' bR
       have B9 := nine_below D' o' hB (g := w.heap.size + 1 + 1) (by omega)
       generalize nine wr (w.heap.size + 1 + 1) D' o' = w9 at *
       obtain ⟨y0, y1, y2, y3, y4, y5, y6, y7, y8⟩ := num_cells b9
       refine bodyPost_ret (v := numV D' o') (by simp [results, Try.results30, go_sem, y0, y1, y2, y3, y4, y5, y6, y7, y8, numV]) rfl ?_
       exact ⟨D', by rw [ho.out, hq.out], hd, hv.out, B9⟩
end Go.Proofs.Ytodjpljdkjemmaa
