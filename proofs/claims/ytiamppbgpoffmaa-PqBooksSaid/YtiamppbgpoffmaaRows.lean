/-
  No cell of these rows narrows 'for every input' (looked for: loops, veiled, ifaces, maps, wideKeys, modest, calm, conditions, laid).
  DERIVED. THE GIVEN ROWS OF THIS SEAT. 6 by the template 'for every input the law returns true; each argument reads behind the call as it read before'; 0 by the template 'total and deterministic' (their statements: YtiamppbgpoffmaaTotals.lean).
  GIVEN WITH THE SEED: the statements are not yours to turn. If you find one false, say at which input.
  Laid BY PROGRAM, IN A SANDBOX (cutbox-rows.mjs): the forced cells as the released guide's own fill.sh prints them over the translation 7a8192ccdd5db729… (all of the seat's roots in one cut). By AI agents, Wed Nov 11 2026. No macro, syntax, notation, axiom, sorry.
-/
import Derived.Test.YtiamppbgpoffmaaChecked
import GoSem.Claim
import GoSem.ClaimJoined
import GoSem.ClaimMapViews
import Derived.JoinedTies
import Derived.KernelRfl
namespace Go.Proofs.Ytiamppbgpoffmaa
/- THE CELL 'sum', in the pinned program and in every row, IS THE sha256 OF THE DUMP (.gsa) THAT YtiamppbgpoffmaaProg.lean LOADS. Nothing in Lean hashes anything: it is a label: what it is worth is what the hold of that sum in a sandbox is worth. -/
noncomputable def Try.pinned : Pinned := { name := "ytiamppbgpoffmaa", sum := "7a8192ccdd5db729c1004f1af6e2d4335c8fba844283cd12800b7cbe36f5e1c3", checked := Try.checked }
namespace Rows
def none {H : Type} : Left H := { results := [], args := [] }

/-- 'theodolitelaw10.PqCodes': WHATEVER THE INPUT: true; the input reads as it did. -/
def pqCodesSpec : ChangeSpec := { name := "pqCodes", fn := fun _ => fun
  | [d1, d2, d3, d4] => { results := [.lit (.bool true)], args := [d1, d2, d3, d4] }
  | _ => none }
def pqCodesRow : OpenClaim := { program := "ytiamppbgpoffmaa", sum := "7a8192ccdd5db729c1004f1af6e2d4335c8fba844283cd12800b7cbe36f5e1c3", func := "theodolite/theodolitelaw10.PqCodes", spec := "pqCodes", inPlace := ["math/bits.Add64"], unfollowed := true, recurses := true, apart := false }
def PqCodesSaid : Prop := pqCodesRow.holds Try.pinned (OpenSpec.ofChange pqCodesSpec)

/-- ITS FALSE NEIGHBOUR: 'it returns false'. Refute it at one input. -/
def pqCodesWrong : ChangeSpec := { name := "pqCodes", fn := fun _ => fun
  | [d1, d2, d3, d4] => { results := [.lit (.bool false)], args := [d1, d2, d3, d4] }
  | _ => none }
def PqCodesWrongFalsely : Prop := pqCodesRow.holds Try.pinned (OpenSpec.ofChange pqCodesWrong)

/-- 'theodolitelaw10.PqEstimates': WHATEVER THE INPUT: true; the input reads as it did. -/
def pqEstimatesSpec : ChangeSpec := { name := "pqEstimates", fn := fun _ => fun
  | [d1, d2] => { results := [.lit (.bool true)], args := [d1, d2] }
  | _ => none }
def pqEstimatesRow : OpenClaim := { program := "ytiamppbgpoffmaa", sum := "7a8192ccdd5db729c1004f1af6e2d4335c8fba844283cd12800b7cbe36f5e1c3", func := "theodolite/theodolitelaw10.PqEstimates", spec := "pqEstimates", inPlace := ["math/bits.Add64"], unfollowed := true, recurses := true, apart := false }
def PqEstimatesSaid : Prop := pqEstimatesRow.holds Try.pinned (OpenSpec.ofChange pqEstimatesSpec)

/-- ITS FALSE NEIGHBOUR: 'it returns false'. Refute it at one input. -/
def pqEstimatesWrong : ChangeSpec := { name := "pqEstimates", fn := fun _ => fun
  | [d1, d2] => { results := [.lit (.bool false)], args := [d1, d2] }
  | _ => none }
def PqEstimatesWrongFalsely : Prop := pqEstimatesRow.holds Try.pinned (OpenSpec.ofChange pqEstimatesWrong)

/-- 'theodolitelaw10.PqSays': WHATEVER THE INPUT: true; the input reads as it did. -/
def pqSaysSpec : ChangeSpec := { name := "pqSays", fn := fun _ => fun
  | [d1, d2, d3, d4] => { results := [.lit (.bool true)], args := [d1, d2, d3, d4] }
  | _ => none }
def pqSaysRow : OpenClaim := { program := "ytiamppbgpoffmaa", sum := "7a8192ccdd5db729c1004f1af6e2d4335c8fba844283cd12800b7cbe36f5e1c3", func := "theodolite/theodolitelaw10.PqSays", spec := "pqSays", inPlace := ["math/bits.Add64"], unfollowed := true, recurses := true, apart := false }
def PqSaysSaid : Prop := pqSaysRow.holds Try.pinned (OpenSpec.ofChange pqSaysSpec)

/-- ITS FALSE NEIGHBOUR: 'it returns false'. Refute it at one input. -/
def pqSaysWrong : ChangeSpec := { name := "pqSays", fn := fun _ => fun
  | [d1, d2, d3, d4] => { results := [.lit (.bool false)], args := [d1, d2, d3, d4] }
  | _ => none }
def PqSaysWrongFalsely : Prop := pqSaysRow.holds Try.pinned (OpenSpec.ofChange pqSaysWrong)

/-- 'theodolitelaw10.PqNearest': WHATEVER THE INPUT: true; the input reads as it did. -/
def pqNearestSpec : ChangeSpec := { name := "pqNearest", fn := fun _ => fun
  | [d1, d2, d3, d4] => { results := [.lit (.bool true)], args := [d1, d2, d3, d4] }
  | _ => none }
def pqNearestRow : OpenClaim := { program := "ytiamppbgpoffmaa", sum := "7a8192ccdd5db729c1004f1af6e2d4335c8fba844283cd12800b7cbe36f5e1c3", func := "theodolite/theodolitelaw10.PqNearest", spec := "pqNearest", inPlace := ["math/bits.Add64"], unfollowed := true, recurses := true, apart := false }
def PqNearestSaid : Prop := pqNearestRow.holds Try.pinned (OpenSpec.ofChange pqNearestSpec)

/-- ITS FALSE NEIGHBOUR: 'it returns false'. Refute it at one input. -/
def pqNearestWrong : ChangeSpec := { name := "pqNearest", fn := fun _ => fun
  | [d1, d2, d3, d4] => { results := [.lit (.bool false)], args := [d1, d2, d3, d4] }
  | _ => none }
def PqNearestWrongFalsely : Prop := pqNearestRow.holds Try.pinned (OpenSpec.ofChange pqNearestWrong)

/-- 'theodolitelaw10.PqBooks': WHATEVER THE INPUT: true; the input reads as it did. -/
def pqBooksSpec : ChangeSpec := { name := "pqBooks", fn := fun _ => fun
  | [d1, d2] => { results := [.lit (.bool true)], args := [d1, d2] }
  | _ => none }
def pqBooksRow : OpenClaim := { program := "ytiamppbgpoffmaa", sum := "7a8192ccdd5db729c1004f1af6e2d4335c8fba844283cd12800b7cbe36f5e1c3", func := "theodolite/theodolitelaw10.PqBooks", spec := "pqBooks", inPlace := ["math/bits.Add64"], unfollowed := true, recurses := true, apart := false }
def PqBooksSaid : Prop := pqBooksRow.holds Try.pinned (OpenSpec.ofChange pqBooksSpec)

/-- ITS FALSE NEIGHBOUR: 'it returns false'. Refute it at one input. -/
def pqBooksWrong : ChangeSpec := { name := "pqBooks", fn := fun _ => fun
  | [d1, d2] => { results := [.lit (.bool false)], args := [d1, d2] }
  | _ => none }
def PqBooksWrongFalsely : Prop := pqBooksRow.holds Try.pinned (OpenSpec.ofChange pqBooksWrong)

/-- 'theodolitelaw10.PqNil': WHATEVER THE INPUT: true; the input reads as it did. -/
def pqNilSpec : ChangeSpec := { name := "pqNil", fn := fun _ => fun
  | [d] => { results := [.lit (.bool true)], args := [d] }
  | _ => none }
def pqNilRow : OpenClaim := { program := "ytiamppbgpoffmaa", sum := "7a8192ccdd5db729c1004f1af6e2d4335c8fba844283cd12800b7cbe36f5e1c3", func := "theodolite/theodolitelaw10.PqNil", spec := "pqNil", inPlace := ["math/bits.Add64"], unfollowed := true, recurses := true, apart := false }
def PqNilSaid : Prop := pqNilRow.holds Try.pinned (OpenSpec.ofChange pqNilSpec)

/-- ITS FALSE NEIGHBOUR: 'it returns false'. Refute it at one input. -/
def pqNilWrong : ChangeSpec := { name := "pqNil", fn := fun _ => fun
  | [d] => { results := [.lit (.bool false)], args := [d] }
  | _ => none }
def PqNilWrongFalsely : Prop := pqNilRow.holds Try.pinned (OpenSpec.ofChange pqNilWrong)

/- THE SECOND FORM. 'bulk': how many values and letters a reading holds, each counted each time it is reached (what is shared counts as often as it is met; a slice's spare places count too). A statement '..UptoSaid' is the law's where the arguments, and the package variables that the reading takes, are together of bulk at most 1048576: NARROWER than '..Said'. Prove '..Said' where nothing that the law and all that it calls make is longer than what came in: it says more and counts as full. Else prove '..UptoSaid'. A law counts once. -/
mutual
def uptoBulk {H : Type} : DataW H → Nat
  | .lit (.string bytes) => bytes.length + 1
  | .lit _ => 1
  | .nil => 1
  | .ptr d => uptoBulk d + 1
  | .slice elems spare => uptoBulkAll elems + uptoBulkAll spare + 1
  | .agg parts => uptoBulkAll parts + 1
  | .iface _ d => uptoBulk d + 1
  | .map entries => uptoBulkEntries entries + 1
  | .held _ => 1
def uptoBulkAll {H : Type} : List (DataW H) → Nat
  | [] => 0
  | d :: r => uptoBulk d + uptoBulkAll r
def uptoBulkEntries {H : Type} : List (Lit × DataW H) → Nat
  | [] => 0
  | x :: r => uptoBulkEntry x + uptoBulkEntries r
def uptoBulkEntry {H : Type} : Lit × DataW H → Nat
  | (.string bytes, d) => bytes.length + uptoBulk d + 1
  | (_, d) => uptoBulk d + 1
 end
def uptoSmall : (H : Type) → List (DataW H) → Bool := fun _ ds => decide (uptoBulkAll ds ≤ 1048576)
def OpenSpec.upto (s : _root_.Go.ChangeSpec) : _root_.Go.OpenSpec := { _root_.Go.OpenSpec.ofChange s with cond := some uptoSmall }

/-- 'theodolitelaw10.PqCodes', WHERE WHAT IT READS IS OF BULK AT MOST 1048576: true; the input reads as it did. -/
def pqCodesUptoRow : OpenClaim := { program := "ytiamppbgpoffmaa", sum := "7a8192ccdd5db729c1004f1af6e2d4335c8fba844283cd12800b7cbe36f5e1c3", func := "theodolite/theodolitelaw10.PqCodes", spec := "pqCodes", inPlace := ["math/bits.Add64"], unfollowed := true, recurses := true, apart := false, narrowed := true }
def PqCodesUptoSaid : Prop := pqCodesUptoRow.holds Try.pinned (OpenSpec.upto pqCodesSpec)

/-- 'theodolitelaw10.PqEstimates', WHERE WHAT IT READS IS OF BULK AT MOST 1048576: true; the input reads as it did. -/
def pqEstimatesUptoRow : OpenClaim := { program := "ytiamppbgpoffmaa", sum := "7a8192ccdd5db729c1004f1af6e2d4335c8fba844283cd12800b7cbe36f5e1c3", func := "theodolite/theodolitelaw10.PqEstimates", spec := "pqEstimates", inPlace := ["math/bits.Add64"], unfollowed := true, recurses := true, apart := false, narrowed := true }
def PqEstimatesUptoSaid : Prop := pqEstimatesUptoRow.holds Try.pinned (OpenSpec.upto pqEstimatesSpec)

/-- 'theodolitelaw10.PqSays', WHERE WHAT IT READS IS OF BULK AT MOST 1048576: true; the input reads as it did. -/
def pqSaysUptoRow : OpenClaim := { program := "ytiamppbgpoffmaa", sum := "7a8192ccdd5db729c1004f1af6e2d4335c8fba844283cd12800b7cbe36f5e1c3", func := "theodolite/theodolitelaw10.PqSays", spec := "pqSays", inPlace := ["math/bits.Add64"], unfollowed := true, recurses := true, apart := false, narrowed := true }
def PqSaysUptoSaid : Prop := pqSaysUptoRow.holds Try.pinned (OpenSpec.upto pqSaysSpec)

/-- 'theodolitelaw10.PqNearest', WHERE WHAT IT READS IS OF BULK AT MOST 1048576: true; the input reads as it did. -/
def pqNearestUptoRow : OpenClaim := { program := "ytiamppbgpoffmaa", sum := "7a8192ccdd5db729c1004f1af6e2d4335c8fba844283cd12800b7cbe36f5e1c3", func := "theodolite/theodolitelaw10.PqNearest", spec := "pqNearest", inPlace := ["math/bits.Add64"], unfollowed := true, recurses := true, apart := false, narrowed := true }
def PqNearestUptoSaid : Prop := pqNearestUptoRow.holds Try.pinned (OpenSpec.upto pqNearestSpec)

/-- 'theodolitelaw10.PqBooks', WHERE WHAT IT READS IS OF BULK AT MOST 1048576: true; the input reads as it did. -/
def pqBooksUptoRow : OpenClaim := { program := "ytiamppbgpoffmaa", sum := "7a8192ccdd5db729c1004f1af6e2d4335c8fba844283cd12800b7cbe36f5e1c3", func := "theodolite/theodolitelaw10.PqBooks", spec := "pqBooks", inPlace := ["math/bits.Add64"], unfollowed := true, recurses := true, apart := false, narrowed := true }
def PqBooksUptoSaid : Prop := pqBooksUptoRow.holds Try.pinned (OpenSpec.upto pqBooksSpec)

/-- 'theodolitelaw10.PqNil', WHERE WHAT IT READS IS OF BULK AT MOST 1048576: true; the input reads as it did. -/
def pqNilUptoRow : OpenClaim := { program := "ytiamppbgpoffmaa", sum := "7a8192ccdd5db729c1004f1af6e2d4335c8fba844283cd12800b7cbe36f5e1c3", func := "theodolite/theodolitelaw10.PqNil", spec := "pqNil", inPlace := ["math/bits.Add64"], unfollowed := true, recurses := true, apart := false, narrowed := true }
def PqNilUptoSaid : Prop := pqNilUptoRow.holds Try.pinned (OpenSpec.upto pqNilSpec)

end Rows
end Go.Proofs.Ytiamppbgpoffmaa
