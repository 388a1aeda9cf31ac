/- The contract of the document's Less. -/
import Derived.Test.YtoglemdooaiddaaNumCmpk
import Derived.Deep.RegionHeld3
namespace Go.Proofs.Ytoglemdooaiddaa
open Go.RowKit
set_option linter.unusedVariables false

theorem decide_cmp (a b : Nat) : decide (cmpN a b < 0) = decide (a < b) := by
  unfold cmpN
  split
  · rw [decide_eq_false (by omega), decide_eq_false (by omega)]
  · split
    · rw [decide_eq_true (by omega), decide_eq_true (by omega)]
    · rw [decide_eq_false (by omega), decide_eq_false (by omega)]
set_option maxRecDepth 100000 in
set_option maxHeartbeats 4000000 in
theorem less_any (ah al bh bl : Nat) (s1 : Sm ah) (s2 : Sm al) (s3 : Sm bh) (s4 : Sm bl) (w : World) :
    Calls Try.prog 20 #[.agg #[.int .u64 (ah : Int), .int .u64 (al : Int)], .agg #[.int .u64 (bh : Int), .int .u64 (bl : Int)]] w fun e w' => e = .returned (.bool (decide (wh ah al < wh bh bl))) ∧ Below w.heap.size w w' := by
  have T0 := (Two.start w ah al bh bl).drew
  obtain ⟨c, hc⟩ : ∃ c : Int, c = cmpN (wh ah al) (wh bh bl) := ⟨_, rfl⟩
  have hr := decide_cmp (wh ah al) (wh bh bl)
  rw [← hc] at hr
  replace hr := Lib.hid hr
  replace hc := Lib.hid hc
  go_enter Try.func20, Try.ntmps20
  go_wp2_with fail
  go_region_with (first
    | (go_at_call 46; (with_reducible refine (of_any ah al s1 s2 _).mono ?_); rintro e x1 ⟨D, rfl, hd, hv, y1⟩; have T1 := T0.more y1; obtain ⟨d0, d1, d2, d3⟩ := T1.cells; replace hv := Lib.hid hv)
    | (go_at_call 46; (with_reducible refine (of_any bh bl s3 s4 _).mono ?_); rintro e x2 ⟨E, rfl, he, hv2, y2⟩; have T2 := T1.more y2; replace hv2 := Lib.hid hv2)
    | (go_at_call 45; (with_reducible refine (ncmp_any D E false false hd he _).mono ?_); rintro e x3 ⟨rfl, y3⟩; have T3 := T2.more y3; rw [hv.out, hv2.out, ← hc.out]))
  all_goals
    go_wp2
    refine bodyPost_ret (v := .bool (decide (c < 0))) (by simp [results, Try.results20, go_sem]) rfl ?_
    exact ⟨by rw [hr.out], T3.1⟩
end Go.Proofs.Ytoglemdooaiddaa
