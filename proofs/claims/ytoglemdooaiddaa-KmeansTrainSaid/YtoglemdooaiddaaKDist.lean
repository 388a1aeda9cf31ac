/- The contracts of vec.far and vec.Dist: a distance is the sum of the squares. -/
import Derived.Test.YtoglemdooaiddaaKFar
namespace Go.Proofs.Ytoglemdooaiddaa
open Go.RowKit
set_option linter.unusedVariables false

/-- A Wide's two cells. -/
def wc (n : Nat) : Array Value := #[.int .u64 (hiN n : Int), .int .u64 (loN n : Int)]
theorem wc0 : wc 0 = #[.int .u64 0, .int .u64 0] := rfl
/-- What stands behind far's first steps: the result, the sum. -/
def FarS (w : World) (N : Nat) (w' : World) : Prop := Below w.heap.size w w' ∧ Blk w' w.heap.size 34 #[.int .u64 0, .int .u64 0] ∧ Blk w' (w.heap.size + 1) 34 (wc N)
theorem FarS.more {w w1 w2 : World} {N : Nat} (h : FarS w N w1) (hb : Below w1.heap.size w1 w2) : FarS w N w2 := ⟨below_chain h.1 hb h.1.size, h.2.1.below hb h.2.1.lt, h.2.2.below hb h.2.2.lt⟩
theorem FarS.drew {w w1 : World} {N : Nat} (h : FarS w N w1) : FarS w N w1.drew := ⟨h.1.drew, h.2.1, h.2.2⟩
theorem FarS.start (w : World) : FarS w 0 ((w.alloc (.cells #[.int .u64 0, .int .u64 0] 34)).alloc (.cells #[.int .u64 0, .int .u64 0] 34)) := by
  have b1 := (Blk.new w 34 #[.int .u64 0, .int .u64 0]).alloc (.cells #[.int .u64 0, .int .u64 0] 34)
  have b2 := Blk.new (w.alloc (.cells #[.int .u64 0, .int .u64 0] 34)) 34 #[.int .u64 0, .int .u64 0]
  rw [show (w.alloc (.cells #[.int .u64 0, .int .u64 0] 34)).heap.size = w.heap.size + 1 by simp] at b2
  exact ⟨(below_alloc1 _ _).alloc (by simp) _, b1, b2⟩
theorem FarS.put {w w1 : World} {N : Nat} (h : FarS w N w1) (M : Nat) : FarS w M ((w1.setCell ⟨w.heap.size + 1, 0, none⟩ (.int .u64 (hiN M : Int))).setCell ⟨w.heap.size + 1, 1, none⟩ (.int .u64 (loN M : Int))) :=
  ⟨(h.1.setCell (p := ⟨w.heap.size + 1, 0, none⟩) (by simp) _).setCell (p := ⟨w.heap.size + 1, 1, none⟩) (by simp) _, (h.2.1.far (by simp) _).far (by simp) _, pair_set h.2.2⟩
theorem FarS.sum {w w' : World} {N : Nat} (h : FarS w N w') : w'.cell? ⟨w.heap.size + 1, 0, none⟩ = some (.int .u64 (hiN N : Int)) ∧ w'.cell? ⟨w.heap.size + 1, 1, none⟩ = some (.int .u64 (loN N : Int)) ∧ w'.frozen? ⟨w.heap.size + 1, 0, none⟩ = false ∧ w'.frozen? ⟨w.heap.size + 1, 1, none⟩ = false :=
  ⟨h.2.2.cell 0, h.2.2.cell 1, h.2.2.frozen 0, h.2.2.frozen 1⟩
theorem farTo_wd {a b : List Int} {k : Nat} (hk : k ≤ 64) (ha : CoordTo a k) (hb : CoordTo b k) : Wd (farTo a b k) := by
  have := farTo_le k ha hb
  unfold Wd
  omega

set_option maxRecDepth 100000 in
set_option maxHeartbeats 4000000 in
theorem far_any (A B : Option Addr) (a b : List Int) (c d : Nat) (hl : b.length = a.length) (hca : CoordTo a a.length) (hcb : CoordTo b a.length) (h64 : a.length ≤ 64) (w : World) (hA : Row w A a) (hB : Row w B b) :
    Calls Try.prog 58 #[.slice A a.length c, .slice B b.length d] w fun e w' => e = .returned (.agg #[.int .u64 (hiN (farN a b) : Int), .int .u64 (loN (farN a b) : Int)]) ∧ Below w.heap.size w w' := by
  have S0 := FarS.start w
  replace hca := Lib.hid hca
  replace hcb := Lib.hid hcb
  rw [hl]
  go_enter Try.func58, Try.ntmps58
  go_wp2_with fail
  generalize (w.alloc (.cells #[.int .u64 0, .int .u64 0] 34)).alloc (.cells #[.int .u64 0, .int .u64 0] 34) = w0 at *
  go_loopw [9] (fun i wr => ∃ k : Nat, k ≤ a.length ∧ i = .int .i64 (k : Int) ∧ FarS w (farTo a b k) wr) (fun i _ => a.length - (intOf i).toNat)
  case atStart => exact ⟨0, Nat.zero_le _, rfl, S0⟩
  case round =>
    obtain ⟨k, hk, rfl, hS⟩ := hrel
    clear S0
    by_cases hlt : k < a.length
    · obtain ⟨g1, o1, rfl, hc1⟩ := hA k hlt
      obtain ⟨g2, o2, rfl, hc2⟩ := hB k (by omega)
      have p0 : (0 : Int) ≤ (k : Int) := by omega
      have p1 : (k : Int) < (a.length : Int) := by omega
      have d1 : (World.drew wr).cell? ⟨g1, o1 + k, none⟩ = some (.int .i64 (nth a k)) := below_cell hS.1 hc1
      have d2 : (World.drew wr).cell? ⟨g2, o2 + k, none⟩ = some (.int .i64 (nth b k)) := below_cell hS.1 hc2
      replace hS := hS.drew
      obtain ⟨c1, c2, f1, f2⟩ := hS.sum
      have hW : Hid (Wd (farTo a b k + sqN (nth a k - nth b k))) := Lib.hid (farTo_wd (k := k + 1) (by omega) (fun j hj => hca.out j (by omega)) (fun j hj => hcb.out j (by omega)))
      have hP := Lib.hid (plus_any (farTo a b k) (nth a k) (nth b k) (hca.out k hlt) (hcb.out k hlt) hW.out)
      go_wp2_with fail
      go_region_with
        (first
        | (go_at_call 60; (with_reducible refine (hP.out _).mono ?_); rintro e w2 ⟨rfl, hb2⟩; have S2 := hS.more hb2; obtain ⟨c3, c4, f3, f4⟩ := S2.sum))
      all_goals
        have S3 := S2.put (farTo a b k + sqN (nth a k - nth b k))
        generalize ((w2.setCell ⟨w.heap.size + 1, 0, none⟩ _).setCell ⟨w.heap.size + 1, 1, none⟩ _) = w3 at *
        clear c1 c2 c3 c4 f1 f2 f3 f4 d1 d2
        go_wp2_with fail
        exact ⟨⟨k + 1, by omega, by go_num, S3⟩, by simp [intOf]; omega⟩
    · obtain rfl : k = a.length := by omega
      obtain ⟨c1, c2, f1, f2⟩ := hS.sum
      have z0 := hS.2.1.cell 0
      have z1 := hS.2.1.cell 1
      simp only [List.getElem?_toArray, List.getElem?_cons_zero, List.getElem?_cons_succ] at z0 z1
      have z2 := hS.2.1.frozen 0
      have z3 := hS.2.1.frozen 1
      go_wp2_with fail
      have B9 := (hS.1.setCell (p := ⟨w.heap.size, 0, none⟩) (by simp) (.int .u64 (hiN (farTo a b a.length) : Int))).setCell (p := ⟨w.heap.size, 1, none⟩) (by simp) (.int .u64 (loN (farTo a b a.length) : Int))
      have b9 := pair_set (u := .int .u64 (hiN (farTo a b a.length) : Int)) (v := .int .u64 (loN (farTo a b a.length) : Int)) hS.2.1
      generalize ((wr.setCell ⟨w.heap.size, 0, none⟩ _).setCell ⟨w.heap.size, 1, none⟩ _) = w9 at *
      have m0 : w9.cell? ⟨w.heap.size, 0, none⟩ = some (.int .u64 (hiN (farTo a b a.length) : Int)) := b9.cell 0
      have m1 : w9.cell? ⟨w.heap.size, 1, none⟩ = some (.int .u64 (loN (farTo a b a.length) : Int)) := b9.cell 1
      refine bodyPost_ret (v := .agg #[.int .u64 (hiN (farTo a b a.length) : Int), .int .u64 (loN (farTo a b a.length) : Int)]) (by simp [results, Try.results58, go_sem, m0, m1]) rfl ?_
      exact ⟨rfl, B9⟩
end Go.Proofs.Ytoglemdooaiddaa
