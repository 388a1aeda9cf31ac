/- WideLaws: the walk, whatever the numbers. -/
import Derived.Test.YtodjpljdkjemmaaWideLawsB
import Derived.Test.YtodjpljdkjemmaaWideLawsC
import Derived.Test.YtodjpljdkjemmaaWideLawsD
namespace Go.Proofs.Ytodjpljdkjemmaa
open Go.RowKit

theorem small_sum {y z : Nat} (sz : Sm z) (h : ¬ IntKind.u64.wrap (18446744073709551615 - (z : Int)) < (y : Int)) : Sm (y + z) := by
  rw [top_less (y := y) sz] at h
  unfold Sm at *
  omega
theorem wrap_sum {y z : Nat} (s : Sm (y + z)) : IntKind.u64.wrap ((y : Int) + (z : Int)) = ((y + z : Nat) : Int) := by unfold Sm at s; rw [IntKind.wrap_u64]; omega
/-- WideLaws answers true, whatever the numbers. -/
theorem wideLaws_any (ah al bh bl x y z : Nat) (s1 : Sm ah) (s2 : Sm al) (s3 : Sm bh) (s4 : Sm bl) (sx : Sm x) (sy : Sm y) (sz : Sm z) (w : World) :
    Calls Try.prog 7 #[.agg #[.int .u64 (ah : Int), .int .u64 (al : Int)], .agg #[.int .u64 (bh : Int), .int .u64 (bl : Int)], .int .u64 (x : Int), .int .u64 (y : Int), .int .u64 (z : Int)] w fun e w' => e = .returned (.bool true) ∧ Below w.heap.size w w' := by
  by_cases h1 : IntKind.u64.wrap (18446744073709551615 - (z : Int)) < (y : Int)
  · by_cases h0 : wh ah al + wh bh bl < 340282366920938463463374607431768211456
    · exact laws_fits_big ah al bh bl x y z s1 s2 s3 s4 sx sy sz h0 h1 w
    · exact laws_over_big ah al bh bl x y z s1 s2 s3 s4 sx sy sz (by omega) h1 w
  · have s := small_sum sz h1
    by_cases h0 : wh ah al + wh bh bl < 340282366920938463463374607431768211456
    · exact laws_fits_small ah al bh bl x y z s1 s2 s3 s4 sx sy sz h0 (Int.not_lt.1 h1) (y + z) s (wrap_sum s) rfl w
    · exact laws_over_small ah al bh bl x y z s1 s2 s3 s4 sx sy sz (by omega) (Int.not_lt.1 h1) (y + z) s (wrap_sum s) rfl w
end Go.Proofs.Ytodjpljdkjemmaa
