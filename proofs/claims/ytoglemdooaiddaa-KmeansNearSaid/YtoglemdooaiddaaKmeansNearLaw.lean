/- KmeansNear: the walk. -/
import Derived.Test.YtoglemdooaiddaaKBig
import Derived.Test.YtoglemdooaiddaaKRefNearE
namespace Go.Proofs.Ytoglemdooaiddaa
open Go.RowKit
set_option linter.unusedVariables false

set_option maxRecDepth 100000 in
set_option maxHeartbeats 4000000 in
theorem kmeansNear_any (A : Option Addr) (m : List (List Int)) (c : Nat) (V : Option Addr) (v : List Int) (cv : Nat) (L : Option Addr) (l : List (List Int)) (cl : Nat) (w : World) (hm : Mat w A m) (hV : Row w V v) (hL : Mat w L l) :
    Calls Try.prog 4 #[.slice A m.length c, .slice V v.length cv, .slice L l.length cl] w fun e w' => e = .returned (.bool true) ∧ Below w.heap.size w w' := by
  have hB1 := Lib.hid (big_any A m c w hm)
  have hB2 := Lib.hid (big_any L l cl w hL)
  go_enter Try.func4, Try.ntmps4
  go_wp2_with fail
  with_reducible refine hB1.out.mono ?_
  rintro e w1 ⟨b, rfl, rfl, hb⟩
  clear hB1 hb
  cases b
  · go_wp2_with fail
    with_reducible refine hB2.out.mono ?_
    rintro e w1 ⟨b, rfl, rfl, hb⟩
    clear hB2 hb
    cases b
    · by_cases hl : 65536 < v.length
      · have hl' : decide (65536 < (v.length : Int)) = true := decide_eq_true (by omega)
        clear hl
        go_wp2_with fail
        go_ret
        exact ⟨rfl, Below.refl _ _⟩
      · have hl' : decide (65536 < (v.length : Int)) = false := decide_eq_false (by omega)
        clear hl
        have N1 := Lib.hid (Near_any A m c V v cv w hm hV)
        have N2 := Lib.hid (fun x (hb : Below w.heap.size w x) => rNear_any A m c V v cv x (hm.below hb) (hV.below hb))
        have N3 := Lib.hid (fun x (hb : Below w.heap.size w x) => Cost_any A m c L l cl x (hm.below hb) (hL.below hb))
        have N4 := Lib.hid (fun x (hb : Below w.heap.size w x) => rCost_any A m c L l cl x (hm.below hb) (hL.below hb))
        generalize nearAt m v = at_ at *
        generalize nearD m v = D at *
        generalize nearE m v = E at *
        generalize costN m l = C at *
        generalize costE m l = F at *
        clear hm hV hL
        go_wp2_with fail
        with_reducible refine N1.out.mono ?_
        rintro e x1 ⟨rfl, B1⟩
        have b1 := Blk.new x1 34 (wc D)
        replace B1 := below_chain B1 (below_alloc1 x1 (.cells (wc D) 34)) B1.size
        unfold wc at b1 B1
        clear N1
        go_upto_region 4 with fail
        generalize hg1 : x1.heap.size = g1 at *
        generalize x1.alloc (.cells #[.int .u64 (hiN D : Int), .int .u64 (loN D : Int)] 34) = x2 at *
        go_wp2_with fail
        refine (N2.out x2 B1).mono ?_
        rintro e x3 ⟨rfl, B2⟩
        replace b1 := b1.below B2 b1.lt
        replace B1 := below_chain B1 B2 B1.size
        have l1 := b1.lt
        have b2 := Blk.new x3 34 (wc D)
        replace b1 := b1.alloc (.cells (wc D) 34)
        replace B1 := below_chain B1 (below_alloc1 x3 (.cells (wc D) 34)) B1.size
        unfold wc at b1 b2 B1
        clear N2 B2
        go_upto_region 5 with fail
        generalize hg2 : x3.heap.size = g2 at *
        generalize x3.alloc (.cells #[.int .u64 (hiN D : Int), .int .u64 (loN D : Int)] 34) = x4 at *
        go_wp2_with fail
        refine (N3.out x4 B1).mono ?_
        rintro e x5 ⟨rfl, B2⟩
        replace b1 := b1.below B2 b1.lt
        replace b2 := b2.below B2 b2.lt
        replace B1 := below_chain B1 B2 B1.size
        have b3 := Blk.new x5 34 (wc C)
        replace b1 := b1.alloc (.cells (wc C) 34)
        replace b2 := b2.alloc (.cells (wc C) 34)
        replace B1 := below_chain B1 (below_alloc1 x5 (.cells (wc C) 34)) B1.size
        unfold wc at b1 b2 b3 B1
        clear N3 B2
        go_upto_region 6 with fail
        generalize hg3 : x5.heap.size = g3 at *
        generalize x5.alloc (.cells #[.int .u64 (hiN C : Int), .int .u64 (loN C : Int)] 34) = x6 at *
        go_wp2_with fail
        refine (N4.out x6 B1).mono ?_
        rintro e x7 ⟨rfl, B2⟩
        replace b1 := b1.below B2 b1.lt
        replace b2 := b2.below B2 b2.lt
        replace b3 := b3.below B2 b3.lt
        replace B1 := below_chain B1 B2 B1.size
        have b4 := Blk.new x7 34 (wc C)
        replace b1 := b1.alloc (.cells (wc C) 34)
        replace b2 := b2.alloc (.cells (wc C) 34)
        replace b3 := b3.alloc (.cells (wc C) 34)
        replace B1 := below_chain B1 (below_alloc1 x7 (.cells (wc C) 34)) B1.size
        unfold wc at b1 b2 b3 b4 B1
        clear N4 B2
        go_upto_region 7 with fail
        generalize hg4 : x7.heap.size = g4 at *
        generalize x7.alloc (.cells #[.int .u64 (hiN C : Int), .int .u64 (loN C : Int)] 34) = x8 at *
        go_wp2_with fail
        refine (awake_any x8).mono ?_
        rintro e x9 ⟨rfl, B2⟩
        replace b1 := b1.below B2 b1.lt
        replace b2 := b2.below B2 b2.lt
        replace b3 := b3.below B2 b3.lt
        replace b4 := b4.below B2 b4.lt
        replace B1 := below_chain B1 B2 B1.size
        have c10 : x9.cell? ⟨g1, 0, none⟩ = some (.int .u64 (hiN D : Int)) := b1.cell 0
        have c11 : x9.cell? ⟨g1, 1, none⟩ = some (.int .u64 (loN D : Int)) := b1.cell 1
        have c20 : x9.cell? ⟨g2, 0, none⟩ = some (.int .u64 (hiN D : Int)) := b2.cell 0
        have c21 : x9.cell? ⟨g2, 1, none⟩ = some (.int .u64 (loN D : Int)) := b2.cell 1
        have c30 : x9.cell? ⟨g3, 0, none⟩ = some (.int .u64 (hiN C : Int)) := b3.cell 0
        have c31 : x9.cell? ⟨g3, 1, none⟩ = some (.int .u64 (loN C : Int)) := b3.cell 1
        have c40 : x9.cell? ⟨g4, 0, none⟩ = some (.int .u64 (hiN C : Int)) := b4.cell 0
        have c41 : x9.cell? ⟨g4, 1, none⟩ = some (.int .u64 (loN C : Int)) := b4.cell 1
        go_wp2_with fail
        go_ret
        exact ⟨rfl, B1⟩
    · go_wp2_with fail
      go_ret
      exact ⟨rfl, Below.refl _ _⟩
  · go_wp2_with fail
    go_ret
    exact ⟨rfl, Below.refl _ _⟩
end Go.Proofs.Ytoglemdooaiddaa
