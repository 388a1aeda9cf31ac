/- RouterBudgets: the walk. -/
import Derived.Test.YtnhplinlibegnaaAwake15
import Derived.Test.YtnhplinlibegnaaKeep
namespace Go.Proofs.Ytnhplinlibegnaa
open Go.RowKit

theorem Blk.four {w : World} {g : Nat} {t : TypeId} {a b c d : Value} (h : Blk w g t #[a, b, c, d]) :
    w.cell? ⟨g, 0, none⟩ = some a ∧ w.cell? ⟨g, 1, none⟩ = some b ∧ w.cell? ⟨g, 2, none⟩ = some c ∧ w.cell? ⟨g, 3, none⟩ = some d := ⟨h.cell 0, h.cell 1, h.cell 2, h.cell 3⟩

theorem three_boxes (w : World) (t1 t2 t3 : TypeId) (c1 c2 c3 : Array Value) :
    Blk (((w.alloc (.cells c1 t1)).alloc (.cells c2 t2)).alloc (.cells c3 t3)) w.heap.size t1 c1 ∧ Blk (((w.alloc (.cells c1 t1)).alloc (.cells c2 t2)).alloc (.cells c3 t3)) (w.heap.size + 1) t2 c2 ∧
    Blk (((w.alloc (.cells c1 t1)).alloc (.cells c2 t2)).alloc (.cells c3 t3)) (w.heap.size + 1 + 1) t3 c3 ∧ Below w.heap.size w (((w.alloc (.cells c1 t1)).alloc (.cells c2 t2)).alloc (.cells c3 t3)) ∧
    (((w.alloc (.cells c1 t1)).alloc (.cells c2 t2)).alloc (.cells c3 t3)).heap.size = w.heap.size + 1 + 1 + 1 := by
  have e1 : (w.alloc (.cells c1 t1)).heap.size = w.heap.size + 1 := by simp
  have e2 : ((w.alloc (.cells c1 t1)).alloc (.cells c2 t2)).heap.size = w.heap.size + 1 + 1 := by simp
  refine ⟨((Blk.new w t1 c1).alloc _).alloc _, ?_, ?_, (((Below.refl _ _).alloc (Nat.le_refl _) _).alloc (by simp) _).alloc (by simp; omega) _, by simp⟩
  · have := (Blk.new (w.alloc (.cells c1 t1)) t2 c2).alloc (.cells c3 t3)
    rwa [e1] at this
  · have := Blk.new ((w.alloc (.cells c1 t1)).alloc (.cells c2 t2)) t3 c3
    rwa [e2] at this

theorem budget_le (k a b c r : Int) (l : List Int) (K m B : Int) (h : budgetE k a b c r l K m B = 0) : budgetV k a b c r l K m B ≤ r := by
  rw [budgetV, if_pos h]
  split <;> omega

set_option maxRecDepth 100000 in
set_option maxHeartbeats 2000000 in
theorem routerBudgets_long (k a b c r : Int) (A : Option Addr) (l : List Int) (cap : Nat) (K m B d : Int) (w : World) (hl : 65536 < l.length) :
    Calls Try.prog 5 #[.agg #[.int .i64 k, .int .i64 a, .int .i64 b, .int .i64 c], .int .i64 r, .agg #[.slice A l.length cap, .int .i64 K, .int .i64 m, .int .i64 B], .int .i64 d] w fun e w' => e = .returned (.bool true) ∧ Below w.heap.size w w' := by
  have p0 : (65536 : Int) < (l.length : Int) := by omega
  go_enter Try.func5, Try.ntmps5
  go_wp2_with fail
  go_ret
  exact ⟨rfl, ((Below.refl _ _).alloc (Nat.le_refl _) _).alloc (by simp) _⟩

theorem set_own {w2 : World} {S : Nat} {t1 t2 : TypeId} {c1 c2 cL : Array Value} {tL : TypeId} {x y z v u : Value} (bs : Blk w2 S t1 c1) (bq : Blk w2 (S + 1) t2 c2) (bo : Blk w2 (S + 1 + 1) t2 #[u, x, y, z]) (hL : Blk w2 (S + 1 + 1 + 1) tL cL) :
    Blk (w2.setCell ⟨S + 1 + 1, 0, none⟩ v) S t1 c1 ∧ Blk (w2.setCell ⟨S + 1 + 1, 0, none⟩ v) (S + 1) t2 c2 ∧ Blk (w2.setCell ⟨S + 1 + 1, 0, none⟩ v) (S + 1 + 1) t2 #[v, x, y, z] ∧ Blk (w2.setCell ⟨S + 1 + 1, 0, none⟩ v) (S + 1 + 1 + 1) tL cL := by
  refine ⟨bs.far (by simp; omega) _, bq.far (by simp) _, ?_, hL.far (by simp) _⟩
  have := bo.set_ 0 v
  simpa using this

set_option maxRecDepth 100000 in
set_option maxHeartbeats 4000000 in
theorem routerBudgets_any (k a b c r : Int) (A : Option Addr) (l : List Int) (cap : Nat) (K m B d : Int) (w : World) (h : Row w A l) :
    Calls Try.prog 5 #[.agg #[.int .i64 k, .int .i64 a, .int .i64 b, .int .i64 c], .int .i64 r, .agg #[.slice A l.length cap, .int .i64 K, .int .i64 m, .int .i64 B], .int .i64 d] w fun e w' => e = .returned (.bool true) ∧ Below w.heap.size w w' := by
  by_cases hl : 65536 < l.length
  · exact routerBudgets_long k a b c r A l cap K m B d w hl
  have p0 : (l.length : Int) ≤ 65536 := by omega
  have hl' : l.length ≤ 65536 := by omega
  clear hl
  go_enter Try.func5, Try.ntmps5
  go_wp2_with fail
  obtain ⟨bs, bq, bo, B1, hz⟩ := three_boxes w 24 36 36 #[.int .i64 k, .int .i64 a, .int .i64 b, .int .i64 c] #[.slice A l.length cap, .int .i64 K, .int .i64 m, .int .i64 B] #[.slice A l.length cap, .int .i64 K, .int .i64 m, .int .i64 B]
  generalize ((w.alloc (.cells #[.int .i64 k, .int .i64 a, .int .i64 b, .int .i64 c] 24)).alloc (.cells #[.slice A l.length cap, .int .i64 K, .int .i64 m, .int .i64 B] 36)).alloc (.cells #[.slice A l.length cap, .int .i64 K, .int .i64 m, .int .i64 B] 36) = W1 at *
  refine (lend_any A l cap _ (h.below B1) hl').mono ?_
  rintro e w2 ⟨rfl, hL, b2⟩
  replace bs := bs.below b2 bs.lt
  replace bq := bq.below b2 bq.lt
  replace bo := bo.below b2 bo.lt
  have B2 := below_chain B1 b2 B1.size
  clear b2 B1
  rw [hz] at hL ⊢
  obtain ⟨s0, s1, s2, s3⟩ := bs.four
  obtain ⟨q0, q1, q2, q3⟩ := bq.four
  obtain ⟨o0, o1, o2, o3⟩ := bo.four
  have of0 := bo.frozen 0
  go_wp2_with fail
  obtain ⟨bs3, bq3, bo3, hL3⟩ := set_own (v := .slice (some ⟨w.heap.size + 1 + 1 + 1, 0, none⟩) l.length (l.length + 1)) bs bq bo hL
  have B3 := B2.setCell (p := ⟨w.heap.size + 1 + 1, 0, none⟩) (by show w.heap.size ≤ w.heap.size + 1 + 1; omega) (.slice (some ⟨w.heap.size + 1 + 1 + 1, 0, none⟩) l.length (l.length + 1))
  generalize w2.setCell ⟨w.heap.size + 1 + 1, 0, none⟩ (.slice (some ⟨w.heap.size + 1 + 1 + 1, 0, none⟩) l.length (l.length + 1)) = w3 at *
  clear bs bq bo hL B2 s0 s1 s2 s3 q0 q1 q2 q3 o0 o1 o2 o3 of0 hz
  refine (budget_any k a b c r _ l _ K m B _ (row_part hL3)).mono ?_
  rintro e w4 ⟨rfl, b4⟩
  have hle := budget_le k a b c r l K m B
  generalize hV : budgetV k a b c r l K m B = V at *
  generalize hE : budgetE k a b c r l K m B = E at *
  replace hV := Lib.hid hV
  replace hE := Lib.hid hE
  have bs4 := bs3.below b4 bs3.lt
  have bq4 := bq3.below b4 bq3.lt
  have bo4 := bo3.below b4 bo3.lt
  have hL4 := hL3.below b4 hL3.lt
  have B4 := below_chain B3 b4 B3.size
  clear b4 B3 bs3 bq3 bo3 hL3
  obtain ⟨s0, s1, s2, s3⟩ := bs4.four
  obtain ⟨q0, q1, q2, q3⟩ := bq4.four
  obtain ⟨o0, o1, o2, o3⟩ := bo4.four
  go_wp2_with fail
  refine (query_any _ l _ d K m B _ (row_part hL4)).mono ?_
  rintro e w5 ⟨rfl, b5⟩
  generalize hQ : queryE l d K m B = Q at *
  replace hQ := Lib.hid hQ
  clear s0 s1 s2 s3 q0 q1 q2 q3 o0 o1 o2 o3
  have bs5 := bs4.below b5 bs4.lt
  have bq5 := bq4.below b5 bq4.lt
  have bo5 := bo4.below b5 bo4.lt
  have hL5 := hL4.below b5 hL4.lt
  have B5 := below_chain B4 b5 B4.size
  clear b5 B4 bs4 bq4 bo4 hL4
  obtain ⟨s0, s1, s2, s3⟩ := bs5.four
  obtain ⟨q0, q1, q2, q3⟩ := bq5.four
  obtain ⟨o0, o1, o2, o3⟩ := bo5.four
  go_wp2_with fail
  refine (back_any _ A l cap _ hL5 (h.below B5) hl').mono ?_
  rintro e w6 ⟨rfl, g6⟩
  clear s0 s1 s2 s3 q0 q1 q2 q3 o0 o1 o2 o3
  have bs6 := bs5.grown g6 (by simp; omega)
  have bq6 := bq5.grown g6 (by simp)
  have B6 := below_of_grown B5 g6 (by simp; omega)
  clear g6 B5 bs5 bq5 bo5 hL5
  obtain ⟨s0, s1, s2, s3⟩ := bs6.four
  obtain ⟨q0, q1, q2, q3⟩ := bq6.four
  go_wp2_with fail
  refine (rbudget_any k a b c r A l cap K m B _ (h.below B6)).mono ?_
  rintro e w7 ⟨rfl, b7⟩
  rw [hV.out, hE.out]
  clear s0 s1 s2 s3 q0 q1 q2 q3
  have bq7 := bq6.below b7 bq6.lt
  have B7 := below_chain B6 b7 B6.size
  clear b7 B6 bs6 bq6
  go_wp2_with fail
  refine (awake_any _).mono ?_
  rintro e w8 ⟨rfl, b8⟩
  have bq8 := bq7.below b8 bq7.lt
  have B8 := below_chain B7 b8 B7.size
  clear b8 B7 bq7
  obtain ⟨q0, q1, q2, q3⟩ := bq8.four
  go_wp2_with fail
  refine (rquery_any A l cap d K m B _ (h.below B8)).mono ?_
  rintro e w9 ⟨rfl, b9⟩
  rw [hQ.out]
  have B9 := below_chain B8 b9 B8.size
  clear b9 B8 bq8 q0 q1 q2 q3
  by_cases hz : E = 0
  · have hb : (E != 0) = false := by simp [hz]
    have hv : V ≤ r := hle hz
    clear hz hle
    go_wp2
    go_ret
    exact ⟨rfl, B9⟩
  · have hb : (E != 0) = true := by simpa using hz
    clear hz hle
    go_wp2
    go_ret
    exact ⟨rfl, B9⟩
end Go.Proofs.Ytnhplinlibegnaa
