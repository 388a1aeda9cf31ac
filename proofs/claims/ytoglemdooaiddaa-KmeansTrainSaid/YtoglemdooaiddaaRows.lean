/-
  No cell of these rows narrows 'for every input' (looked for: loops, veiled, ifaces, maps, wideKeys, modest, calm, conditions, laid).
  DERIVED. THE GIVEN ROWS OF THIS SEAT. 5 by the template 'for every input the law returns true; each argument reads behind the call as it read before'; 0 by the template 'total and deterministic' (their statements: YtoglemdooaiddaaTotals.lean).
  GIVEN WITH THE SEED: the statements are not yours to turn. If you find one false, say at which input.
  Laid BY PROGRAM, IN A SANDBOX (cutbox-rows.mjs): the forced cells as the released guide's own fill.sh prints them over the translation 0c6daa65d60d8e26… (all of the seat's roots in one cut). By AI agents, Wed Nov 11 2026. No macro, syntax, notation, axiom, sorry.
-/
import Derived.Test.YtoglemdooaiddaaChecked
import GoSem.Claim
import GoSem.ClaimJoined
import GoSem.ClaimMapViews
import Derived.JoinedTies
import Derived.KernelRfl
namespace Go.Proofs.Ytoglemdooaiddaa
/- THE CELL 'sum', in the pinned program and in every row, IS THE sha256 OF THE DUMP (.gsa) THAT YtoglemdooaiddaaProg.lean LOADS. Nothing in Lean hashes anything: it is a label: what it is worth is what the hold of that sum in a sandbox is worth. -/
noncomputable def Try.pinned : Pinned := { name := "ytoglemdooaiddaa", sum := "0c6daa65d60d8e26ecaa4de754102c4541d792669b92095642baf40b05744668", checked := Try.checked }
namespace Rows
def none {H : Type} : Left H := { results := [], args := [] }

/-- 'theodolitelaw06.KmeansTrain': WHATEVER THE INPUT: true; the input reads as it did. -/
def kmeansTrainSpec : ChangeSpec := { name := "kmeansTrain", fn := fun _ => fun
  | [d1, d2, d3, d4] => { results := [.lit (.bool true)], args := [d1, d2, d3, d4] }
  | _ => none }
def kmeansTrainRow : OpenClaim := { program := "ytoglemdooaiddaa", sum := "0c6daa65d60d8e26ecaa4de754102c4541d792669b92095642baf40b05744668", func := "theodolite/theodolitelaw06.KmeansTrain", spec := "kmeansTrain", inPlace := ["math/bits.Add64"], unfollowed := true, recurses := true, apart := false }
def KmeansTrainSaid : Prop := kmeansTrainRow.holds Try.pinned (OpenSpec.ofChange kmeansTrainSpec)

/-- ITS FALSE NEIGHBOUR: 'it returns false'. Refute it at one input. -/
def kmeansTrainWrong : ChangeSpec := { name := "kmeansTrain", fn := fun _ => fun
  | [d1, d2, d3, d4] => { results := [.lit (.bool false)], args := [d1, d2, d3, d4] }
  | _ => none }
def KmeansTrainWrongFalsely : Prop := kmeansTrainRow.holds Try.pinned (OpenSpec.ofChange kmeansTrainWrong)

/-- 'theodolitelaw06.KmeansNear': WHATEVER THE INPUT: true; the input reads as it did. -/
def kmeansNearSpec : ChangeSpec := { name := "kmeansNear", fn := fun _ => fun
  | [d1, d2, d3] => { results := [.lit (.bool true)], args := [d1, d2, d3] }
  | _ => none }
def kmeansNearRow : OpenClaim := { program := "ytoglemdooaiddaa", sum := "0c6daa65d60d8e26ecaa4de754102c4541d792669b92095642baf40b05744668", func := "theodolite/theodolitelaw06.KmeansNear", spec := "kmeansNear", inPlace := ["math/bits.Add64"], unfollowed := true, recurses := true, apart := false }
def KmeansNearSaid : Prop := kmeansNearRow.holds Try.pinned (OpenSpec.ofChange kmeansNearSpec)

/-- ITS FALSE NEIGHBOUR: 'it returns false'. Refute it at one input. -/
def kmeansNearWrong : ChangeSpec := { name := "kmeansNear", fn := fun _ => fun
  | [d1, d2, d3] => { results := [.lit (.bool false)], args := [d1, d2, d3] }
  | _ => none }
def KmeansNearWrongFalsely : Prop := kmeansNearRow.holds Try.pinned (OpenSpec.ofChange kmeansNearWrong)

/-- 'theodolitelaw06.KmeansWithin': WHATEVER THE INPUT: true; the input reads as it did. -/
def kmeansWithinSpec : ChangeSpec := { name := "kmeansWithin", fn := fun _ => fun
  | [d1, d2, d3, d4] => { results := [.lit (.bool true)], args := [d1, d2, d3, d4] }
  | _ => none }
def kmeansWithinRow : OpenClaim := { program := "ytoglemdooaiddaa", sum := "0c6daa65d60d8e26ecaa4de754102c4541d792669b92095642baf40b05744668", func := "theodolite/theodolitelaw06.KmeansWithin", spec := "kmeansWithin", inPlace := ["math/bits.Add64"], unfollowed := true, recurses := true, apart := false }
def KmeansWithinSaid : Prop := kmeansWithinRow.holds Try.pinned (OpenSpec.ofChange kmeansWithinSpec)

/-- ITS FALSE NEIGHBOUR: 'it returns false'. Refute it at one input. -/
def kmeansWithinWrong : ChangeSpec := { name := "kmeansWithin", fn := fun _ => fun
  | [d1, d2, d3, d4] => { results := [.lit (.bool false)], args := [d1, d2, d3, d4] }
  | _ => none }
def KmeansWithinWrongFalsely : Prop := kmeansWithinRow.holds Try.pinned (OpenSpec.ofChange kmeansWithinWrong)

/-- 'theodolitelaw06.KmeansFair': WHATEVER THE INPUT: true; the input reads as it did. -/
def kmeansFairSpec : ChangeSpec := { name := "kmeansFair", fn := fun _ => fun
  | [d1, d2, d3] => { results := [.lit (.bool true)], args := [d1, d2, d3] }
  | _ => none }
def kmeansFairRow : OpenClaim := { program := "ytoglemdooaiddaa", sum := "0c6daa65d60d8e26ecaa4de754102c4541d792669b92095642baf40b05744668", func := "theodolite/theodolitelaw06.KmeansFair", spec := "kmeansFair", inPlace := ["math/bits.Add64"], unfollowed := true, recurses := true, apart := false }
def KmeansFairSaid : Prop := kmeansFairRow.holds Try.pinned (OpenSpec.ofChange kmeansFairSpec)

/-- ITS FALSE NEIGHBOUR: 'it returns false'. Refute it at one input. -/
def kmeansFairWrong : ChangeSpec := { name := "kmeansFair", fn := fun _ => fun
  | [d1, d2, d3] => { results := [.lit (.bool false)], args := [d1, d2, d3] }
  | _ => none }
def KmeansFairWrongFalsely : Prop := kmeansFairRow.holds Try.pinned (OpenSpec.ofChange kmeansFairWrong)

/-- 'theodolitelaw06.KmeansMoves': WHATEVER THE INPUT: true; the input reads as it did. -/
def kmeansMovesSpec : ChangeSpec := { name := "kmeansMoves", fn := fun _ => fun
  | [d1, d2, d3, d4, d5] => { results := [.lit (.bool true)], args := [d1, d2, d3, d4, d5] }
  | _ => none }
def kmeansMovesRow : OpenClaim := { program := "ytoglemdooaiddaa", sum := "0c6daa65d60d8e26ecaa4de754102c4541d792669b92095642baf40b05744668", func := "theodolite/theodolitelaw06.KmeansMoves", spec := "kmeansMoves", inPlace := ["math/bits.Add64"], unfollowed := true, recurses := true, apart := false }
def KmeansMovesSaid : Prop := kmeansMovesRow.holds Try.pinned (OpenSpec.ofChange kmeansMovesSpec)

/-- ITS FALSE NEIGHBOUR: 'it returns false'. Refute it at one input. -/
def kmeansMovesWrong : ChangeSpec := { name := "kmeansMoves", fn := fun _ => fun
  | [d1, d2, d3, d4, d5] => { results := [.lit (.bool false)], args := [d1, d2, d3, d4, d5] }
  | _ => none }
def KmeansMovesWrongFalsely : Prop := kmeansMovesRow.holds Try.pinned (OpenSpec.ofChange kmeansMovesWrong)

/- THE SECOND FORM. 'bulk': how many values and letters a reading holds, each counted each time it is reached (what is shared counts as often as it is met; a slice's spare places count too). A statement '..UptoSaid' is the law's where the arguments, and the package variables that the reading takes, are together of bulk at most 1048576: NARROWER than '..Said'. Prove '..Said' where nothing that the law and all that it calls make is longer than what came in: it says more and counts as full. Else prove '..UptoSaid'. A law counts once. -/
mutual
def uptoBulk {H : Type} : DataW H → Nat
  | .lit (.string bytes) => bytes.length + 1
  | .lit _ => 1
  | .nil => 1
  | .ptr d => uptoBulk d + 1
  | .slice elems spare => uptoBulkAll elems + uptoBulkAll spare + 1
  | .agg parts => uptoBulkAll parts + 1
  | .iface _ d => uptoBulk d + 1
  | .map entries => uptoBulkEntries entries + 1
  | .held _ => 1
def uptoBulkAll {H : Type} : List (DataW H) → Nat
  | [] => 0
  | d :: r => uptoBulk d + uptoBulkAll r
def uptoBulkEntries {H : Type} : List (Lit × DataW H) → Nat
  | [] => 0
  | x :: r => uptoBulkEntry x + uptoBulkEntries r
def uptoBulkEntry {H : Type} : Lit × DataW H → Nat
  | (.string bytes, d) => bytes.length + uptoBulk d + 1
  | (_, d) => uptoBulk d + 1
 end
def uptoSmall : (H : Type) → List (DataW H) → Bool := fun _ ds => decide (uptoBulkAll ds ≤ 1048576)
def OpenSpec.upto (s : _root_.Go.ChangeSpec) : _root_.Go.OpenSpec := { _root_.Go.OpenSpec.ofChange s with cond := some uptoSmall }

/-- 'theodolitelaw06.KmeansTrain', WHERE WHAT IT READS IS OF BULK AT MOST 1048576: true; the input reads as it did. -/
def kmeansTrainUptoRow : OpenClaim := { program := "ytoglemdooaiddaa", sum := "0c6daa65d60d8e26ecaa4de754102c4541d792669b92095642baf40b05744668", func := "theodolite/theodolitelaw06.KmeansTrain", spec := "kmeansTrain", inPlace := ["math/bits.Add64"], unfollowed := true, recurses := true, apart := false, narrowed := true }
def KmeansTrainUptoSaid : Prop := kmeansTrainUptoRow.holds Try.pinned (OpenSpec.upto kmeansTrainSpec)

/-- 'theodolitelaw06.KmeansNear', WHERE WHAT IT READS IS OF BULK AT MOST 1048576: true; the input reads as it did. -/
def kmeansNearUptoRow : OpenClaim := { program := "ytoglemdooaiddaa", sum := "0c6daa65d60d8e26ecaa4de754102c4541d792669b92095642baf40b05744668", func := "theodolite/theodolitelaw06.KmeansNear", spec := "kmeansNear", inPlace := ["math/bits.Add64"], unfollowed := true, recurses := true, apart := false, narrowed := true }
def KmeansNearUptoSaid : Prop := kmeansNearUptoRow.holds Try.pinned (OpenSpec.upto kmeansNearSpec)

/-- 'theodolitelaw06.KmeansWithin', WHERE WHAT IT READS IS OF BULK AT MOST 1048576: true; the input reads as it did. -/
def kmeansWithinUptoRow : OpenClaim := { program := "ytoglemdooaiddaa", sum := "0c6daa65d60d8e26ecaa4de754102c4541d792669b92095642baf40b05744668", func := "theodolite/theodolitelaw06.KmeansWithin", spec := "kmeansWithin", inPlace := ["math/bits.Add64"], unfollowed := true, recurses := true, apart := false, narrowed := true }
def KmeansWithinUptoSaid : Prop := kmeansWithinUptoRow.holds Try.pinned (OpenSpec.upto kmeansWithinSpec)

/-- 'theodolitelaw06.KmeansFair', WHERE WHAT IT READS IS OF BULK AT MOST 1048576: true; the input reads as it did. -/
def kmeansFairUptoRow : OpenClaim := { program := "ytoglemdooaiddaa", sum := "0c6daa65d60d8e26ecaa4de754102c4541d792669b92095642baf40b05744668", func := "theodolite/theodolitelaw06.KmeansFair", spec := "kmeansFair", inPlace := ["math/bits.Add64"], unfollowed := true, recurses := true, apart := false, narrowed := true }
def KmeansFairUptoSaid : Prop := kmeansFairUptoRow.holds Try.pinned (OpenSpec.upto kmeansFairSpec)

/-- 'theodolitelaw06.KmeansMoves', WHERE WHAT IT READS IS OF BULK AT MOST 1048576: true; the input reads as it did. -/
def kmeansMovesUptoRow : OpenClaim := { program := "ytoglemdooaiddaa", sum := "0c6daa65d60d8e26ecaa4de754102c4541d792669b92095642baf40b05744668", func := "theodolite/theodolitelaw06.KmeansMoves", spec := "kmeansMoves", inPlace := ["math/bits.Add64"], unfollowed := true, recurses := true, apart := false, narrowed := true }
def KmeansMovesUptoSaid : Prop := kmeansMovesUptoRow.holds Try.pinned (OpenSpec.upto kmeansMovesSpec)

end Rows
end Go.Proofs.Ytoglemdooaiddaa
