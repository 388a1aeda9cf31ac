/- The contracts of the document's Mul and Add. -/
import Derived.Test.YtiamppbgpoffmaaNumWideq
namespace Go.Proofs.Ytiamppbgpoffmaa
open Go.RowKit
set_option linter.unusedVariables false

theorem nwide_h (D : List Nat) (o : Bool) (h l : Nat) (hD : Dig D) (s1 : Sm h) (s2 : Sm l) (hv : val D = wh h l) (w : World) :
    Calls Try.prog 57 #[numV D o] w fun e w' => e = .returned (.agg #[.int .u64 (h : Int), .int .u64 (l : Int)]) ∧ Below w.heap.size w w' := by
  have e := val_halves D hD.1
  obtain ⟨g1, g2, g3, g4⟩ := dig_low hD
  have v1 := half_lt _ g1 g2
  have h1 : val (D.drop 4) = h ∧ val (D.take 4) = l := by unfold wh Sm at *; omega
  rw [← h1.1, ← h1.2]
  exact nwide_any D o hD w
end Go.Proofs.Ytiamppbgpoffmaa
