/- The contracts of the document's Mul and Add. -/
import Derived.Test.YtodjpljdkjemmaaNumTimes
import Derived.Test.YtodjpljdkjemmaaNumAdd
namespace Go.Proofs.Ytodjpljdkjemmaa
open Go.RowKit
set_option linter.unusedVariables false

theorem nwide_h (D : List Nat) (o : Bool) (h l : Nat) (hD : Dig D) (s1 : Sm h) (s2 : Sm l) (hv : val D = wh h l) (w : World) :
    Calls Try.prog 25 #[numV D o] w fun e w' => e = .returned (.agg #[.int .u64 (h : Int), .int .u64 (l : Int)]) ∧ Below w.heap.size w w' := by
  have e := val_halves D hD.1
  obtain ⟨g1, g2, g3, g4⟩ := dig_low hD
  have v1 := half_lt _ g1 g2
  have h1 : val (D.drop 4) = h ∧ val (D.take 4) = l := by unfold wh Sm at *; omega
  rw [← h1.1, ← h1.2]
  exact nwide_any D o hD w
set_option maxRecDepth 100000 in
set_option maxHeartbeats 4000000 in
theorem rmul_h (x y ph pl : Nat) (s1 : Sm x) (s2 : Sm y) (s3 : Sm ph) (s4 : Sm pl) (h : x * y = wh ph pl) (w : World) : Calls Try.prog 15 #[.int .u64 (x : Int), .int .u64 (y : Int)] w fun e w' => e = .returned (.agg #[.int .u64 (ph : Int), .int .u64 (pl : Int)]) ∧ Below w.heap.size w w' := by
  have e1 : wh 0 x = x := by unfold wh; omega
  have e2 : wh 0 y = y := by unfold wh; omega
  have hx := wh_lt s3 s4
  rw [← h] at hx
  replace hx := Lib.hid hx
  replace h := Lib.hid h
  replace e1 := Lib.hid e1
  replace e2 := Lib.hid e2
  have b0 := Blk.new w 24 #[.int .u64 0, .int .u64 0]
  have B0 := below_alloc1 w (Obj.cells #[.int .u64 0, .int .u64 0] 24)
  go_enter Try.func15, Try.ntmps15
  go_wp2_with fail
  generalize w.alloc (Obj.cells #[.int .u64 0, .int .u64 0] 24) = w0 at *
  refine (of_any 0 x sm_zero s1 _).mono ?_
  rintro e w1 ⟨D, rfl, hd, hv, y1⟩
  rw [e1.out] at hv
  have b1 := two_keep b0 y1
  have B1 := below_chain B0 y1 B0.size
  clear b0 B0 y1
  go_wp2_with fail
  refine (of_any 0 y sm_zero s2 _).mono ?_
  rintro e w2 ⟨E, rfl, he, hv2, y2⟩
  rw [e2.out] at hv2
  have b2 := two_keep b1 y2
  have B2 := below_chain B1 y2 B1.size
  clear b1 B1 y2
  go_wp2_with fail
  refine (times_any D E false false hd he _).mono ?_
  rintro e w3 ⟨F, rfl, hf, hv3, y3⟩
  have b3 := two_keep b2 y3
  have B3 := below_chain B2 y3 B2.size
  clear b2 B2 y3
  have hv4 : val F = wh ph pl := by
    rw [hv3, hv, hv2, ← h.out]
    exact Nat.mod_eq_of_lt hx.out
  clear hv hv2 hv3 hd he
  generalize (false || false || decide (340282366920938463463374607431768211456 ≤ val D * val E)) = o3
  go_wp2_with fail
  refine (nwide_h F o3 ph pl hf s3 s4 hv4 _).mono ?_
  rintro e w4 ⟨rfl, y4⟩
  have b4 := two_keep b3 y4
  have B4 := below_chain B3 y4 B3.size
  clear b3 B3 y4 hv4
  have z0 : w4.cell? ⟨w.heap.size, 0, none⟩ = some (.int .u64 0) := b4.cell 0
  have z1 : w4.cell? ⟨w.heap.size, 1, none⟩ = some (.int .u64 0) := b4.cell 1
  have f0 := b4.frozen 0
  have f1 := b4.frozen 1
  go_wp2
  have B9 := (B4.setCell (p := ⟨w.heap.size, 0, none⟩) (by simp) (.int .u64 (ph : Int))).setCell (p := ⟨w.heap.size, 1, none⟩) (by simp) (.int .u64 (pl : Int))
  have b9 := pair_set (u := .int .u64 (ph : Int)) (v := .int .u64 (pl : Int)) b4
  generalize ((w4.setCell ⟨w.heap.size, 0, none⟩ _).setCell ⟨w.heap.size, 1, none⟩ _) = w9 at *
  have k0 : w9.cell? ⟨w.heap.size, 0, none⟩ = some (.int .u64 (ph : Int)) := b9.cell 0
  have k1 : w9.cell? ⟨w.heap.size, 1, none⟩ = some (.int .u64 (pl : Int)) := b9.cell 1
  refine bodyPost_ret (v := .agg #[.int .u64 (ph : Int), .int .u64 (pl : Int)]) (by simp [results, Try.results15, go_sem, k0, k1]) rfl ?_
  exact ⟨rfl, B9⟩
end Go.Proofs.Ytodjpljdkjemmaa
