/- WideOrder: the walk, whatever the two numbers. -/
import Derived.Test.YtodjpljdkjemmaaWideOrderHigh
import Derived.Test.YtodjpljdkjemmaaWideOrderHigh2
namespace Go.Proofs.Ytodjpljdkjemmaa
open Go.RowKit

/-- WideOrder answers true, whatever the two numbers. -/
theorem wideOrder_any (ah al bh bl : Nat) (s1 : Sm ah) (s2 : Sm al) (s3 : Sm bh) (s4 : Sm bl) (w : World) :
    Calls Try.prog 8 #[.agg #[.int .u64 (ah : Int), .int .u64 (al : Int)], .agg #[.int .u64 (bh : Int), .int .u64 (bl : Int)]] w fun e w' => e = .returned (.bool true) ∧ Below w.heap.size w w' := by
  by_cases hh : ah = bh
  · subst hh
    by_cases hl : al = bl
    · subst hl
      exact order_same ah al s1 s2 w
    · have f1 : ((al : Int) == (bl : Int)) = false := by simp; omega
      by_cases hlt : al < bl
      · exact order_low2 ah al bl s1 s2 s3 s4 ((wh_lex s2 s4).2 (by omega)) f1 w
      · exact order_high2 ah al bl s1 s2 s3 s4 ((wh_lex s4 s2).2 (by omega)) f1 w
  · have f1 : ((ah : Int) == (bh : Int)) = false := by simp; omega
    by_cases hlt : ah < bh
    · exact order_low1 ah al bh bl s1 s2 s3 s4 ((wh_lex s2 s4).2 (by omega)) f1 w
    · exact order_high1 ah al bh bl s1 s2 s3 s4 ((wh_lex s4 s2).2 (by omega)) f1 w
end Go.Proofs.Ytodjpljdkjemmaa
