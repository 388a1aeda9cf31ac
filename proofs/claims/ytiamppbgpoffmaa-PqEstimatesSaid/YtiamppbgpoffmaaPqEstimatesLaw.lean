/- The walk of PqEstimates: true of any table and code. -/
import Derived.Test.YtiamppbgpoffmaaPqBig
import Derived.Test.YtiamppbgpoffmaaPqREst
namespace Go.Proofs.Ytiamppbgpoffmaa
open Go.RowKit
set_option linter.unusedVariables false

set_option maxRecDepth 100000 in
set_option maxHeartbeats 4000000 in
theorem pqEstimates_any (A : Option Addr) (t : List (List Nat)) (c : Nat) (K : Option Addr) (code : List Int) (ck : Nat) (w : World) (hA : WTab w A t) (hK : Row w K code) (ht : TabW t) :
    Calls Try.prog 4 #[.slice A t.length c, .slice K code.length ck] w (LawTrue w) := by
  by_cases h1 : t.length ≤ 1000
  · by_cases h2 : code.length ≤ 32768
    · have g1 : decide ((1000 : Int) < (t.length : Int)) = false := decide_eq_false (by omega)
      have g2 : decide ((32768 : Int) < (code.length : Int)) = false := decide_eq_false (by omega)
      have hE := Lib.hid (est_any A K t code c ck w hA hK h2 ht)
      have hR := Lib.hid (fun x (a : WTab x A t) (b : Row x K code) => rest_any A K t code c ck x a b h2 ht)
      clear h1 h2
      generalize estV t code = N at *
      generalize estE t code = f at *
      go_enter Try.func4, Try.ntmps4
      go_wp2_with fail
      refine hE.out.mono ?_
      rintro e w5 ⟨rfl, hb1⟩
      replace hA := hA.below hb1
      replace hK := hK.below hb1
      clear hE
      have b5 := Blk.new w5 44 #[.int .u64 (hiN N : Int), .int .u64 (loN N : Int)]
      have B5 := below_alloc1 w5 (.cells #[.int .u64 (hiN N : Int), .int .u64 (loN N : Int)] 44)
      go_upto_region 4 with fail
      generalize hg5 : w5.heap.size = g5 at *
      generalize w5.alloc (.cells #[.int .u64 (hiN N : Int), .int .u64 (loN N : Int)] 44) = w6 at *
      replace hb1 := below_chain hb1 (by rw [hg5]; exact B5) hb1.size
      replace hA := hA.below (by rw [hg5]; exact B5)
      replace hK := hK.below (by rw [hg5]; exact B5)
      clear B5 hg5
      go_wp2_with fail
      refine (hR.out w6 hA hK).mono ?_
      rintro e w7 ⟨rfl, hb⟩
      replace hb1 := below_chain hb1 hb hb1.size
      replace b5 := b5.below hb b5.lt
      clear hb hR hA hK
      have b7 := Blk.new w7 44 #[.int .u64 (hiN N : Int), .int .u64 (loN N : Int)]
      have B7 := below_alloc1 w7 (.cells #[.int .u64 (hiN N : Int), .int .u64 (loN N : Int)] 44)
      replace b5 := b5.alloc (.cells #[.int .u64 (hiN N : Int), .int .u64 (loN N : Int)] 44)
      go_upto_region 5 with fail
      generalize hg7 : w7.heap.size = g7 at *
      generalize w7.alloc (.cells #[.int .u64 (hiN N : Int), .int .u64 (loN N : Int)] 44) = w8 at *
      replace hb1 := below_chain hb1 (by rw [hg7]; exact B7) hb1.size
      clear B7 hg7
      go_wp2_with fail
      refine (awake_any w8).mono ?_
      rintro e w11 ⟨rfl, hb⟩
      replace hb1 := below_chain hb1 hb hb1.size
      replace b5 := b5.below hb b5.lt
      replace b7 := b7.below hb b7.lt
      clear hb
      have m0 : w11.cell? ⟨g5, 0, none⟩ = some (.int .u64 (hiN N : Int)) := b5.cell 0
      have m1 : w11.cell? ⟨g5, 1, none⟩ = some (.int .u64 (loN N : Int)) := b5.cell 1
      have m2 : w11.cell? ⟨g7, 0, none⟩ = some (.int .u64 (hiN N : Int)) := b7.cell 0
      have m3 : w11.cell? ⟨g7, 1, none⟩ = some (.int .u64 (loN N : Int)) := b7.cell 1
      go_wp2_with fail
      go_ret
      exact ⟨rfl, hb1⟩
    · have g1 : decide ((1000 : Int) < (t.length : Int)) = false := decide_eq_false (by omega)
      have g2 : decide ((32768 : Int) < (code.length : Int)) = true := decide_eq_true (by omega)
      clear h1 h2
      go_enter Try.func4, Try.ntmps4
      go_wp2_with fail
      go_ret
      exact ⟨rfl, Below.refl _ _⟩
  · have g1 : decide ((1000 : Int) < (t.length : Int)) = true := decide_eq_true (by omega)
    clear h1
    go_enter Try.func4, Try.ntmps4
    go_wp2_with fail
    go_ret
    exact ⟨rfl, Below.refl _ _⟩
end Go.Proofs.Ytiamppbgpoffmaa
