/-
  No cell of these rows narrows 'for every input' (looked for: loops, veiled, ifaces, maps, wideKeys, modest, calm, conditions, laid).
  DERIVED. THE GIVEN ROWS OF THIS SEAT. 4 by the template 'for every input the law returns true; each argument reads behind the call as it read before'; 0 by the template 'total and deterministic' (their statements: YtnhplinlibegnaaTotals.lean).
  GIVEN WITH THE SEED: the statements are not yours to turn. If you find one false, say at which input.
  Laid BY PROGRAM, IN A SANDBOX (cutbox-rows.mjs): the forced cells as the released guide's own fill.sh prints them over the translation beb3a96564859f8f… (all of the seat's roots in one cut). By AI agents, Wed Nov 11 2026. No macro, syntax, notation, axiom, sorry.
-/
import Derived.Test.YtnhplinlibegnaaChecked
import GoSem.Claim
import GoSem.ClaimJoined
import GoSem.ClaimMapViews
import Derived.JoinedTies
import Derived.KernelRfl
namespace Go.Proofs.Ytnhplinlibegnaa
/- THE CELL 'sum', in the pinned program and in every row, IS THE sha256 OF THE DUMP (.gsa) THAT YtnhplinlibegnaaProg.lean LOADS. Nothing in Lean hashes anything: it is a label: what it is worth is what the hold of that sum in a sandbox is worth. -/
noncomputable def Try.pinned : Pinned := { name := "ytnhplinlibegnaa", sum := "beb3a96564859f8f2f65ddbe4db9c5e23d2ae3df937d0312d7b0bb9543f4bbd5", checked := Try.checked }
namespace Rows
def none {H : Type} : Left H := { results := [], args := [] }

/-- 'theodolitelaw15.RouterCosts': WHATEVER THE INPUT: true; the input reads as it did. -/
def routerCostsSpec : ChangeSpec := { name := "routerCosts", fn := fun _ => fun
  | [d1, d2, d3] => { results := [.lit (.bool true)], args := [d1, d2, d3] }
  | _ => none }
def routerCostsRow : OpenClaim := { program := "ytnhplinlibegnaa", sum := "beb3a96564859f8f2f65ddbe4db9c5e23d2ae3df937d0312d7b0bb9543f4bbd5", func := "theodolite/theodolitelaw15.RouterCosts", spec := "routerCosts", unfollowed := true, recurses := true, apart := false }
def RouterCostsSaid : Prop := routerCostsRow.holds Try.pinned (OpenSpec.ofChange routerCostsSpec)

/-- ITS FALSE NEIGHBOUR: 'it returns false'. Refute it at one input. -/
def routerCostsWrong : ChangeSpec := { name := "routerCosts", fn := fun _ => fun
  | [d1, d2, d3] => { results := [.lit (.bool false)], args := [d1, d2, d3] }
  | _ => none }
def RouterCostsWrongFalsely : Prop := routerCostsRow.holds Try.pinned (OpenSpec.ofChange routerCostsWrong)

/-- 'theodolitelaw15.RouterChooses': WHATEVER THE INPUT: true; the input reads as it did. -/
def routerChoosesSpec : ChangeSpec := { name := "routerChooses", fn := fun _ => fun
  | [d1, d2, d3, d4, d5] => { results := [.lit (.bool true)], args := [d1, d2, d3, d4, d5] }
  | _ => none }
def routerChoosesRow : OpenClaim := { program := "ytnhplinlibegnaa", sum := "beb3a96564859f8f2f65ddbe4db9c5e23d2ae3df937d0312d7b0bb9543f4bbd5", func := "theodolite/theodolitelaw15.RouterChooses", spec := "routerChooses", unfollowed := true, recurses := true, apart := false }
def RouterChoosesSaid : Prop := routerChoosesRow.holds Try.pinned (OpenSpec.ofChange routerChoosesSpec)

/-- ITS FALSE NEIGHBOUR: 'it returns false'. Refute it at one input. -/
def routerChoosesWrong : ChangeSpec := { name := "routerChooses", fn := fun _ => fun
  | [d1, d2, d3, d4, d5] => { results := [.lit (.bool false)], args := [d1, d2, d3, d4, d5] }
  | _ => none }
def RouterChoosesWrongFalsely : Prop := routerChoosesRow.holds Try.pinned (OpenSpec.ofChange routerChoosesWrong)

/-- 'theodolitelaw15.RouterBudgets': WHATEVER THE INPUT: true; the input reads as it did. -/
def routerBudgetsSpec : ChangeSpec := { name := "routerBudgets", fn := fun _ => fun
  | [d1, d2, d3, d4] => { results := [.lit (.bool true)], args := [d1, d2, d3, d4] }
  | _ => none }
def routerBudgetsRow : OpenClaim := { program := "ytnhplinlibegnaa", sum := "beb3a96564859f8f2f65ddbe4db9c5e23d2ae3df937d0312d7b0bb9543f4bbd5", func := "theodolite/theodolitelaw15.RouterBudgets", spec := "routerBudgets", unfollowed := true, recurses := true, apart := false }
def RouterBudgetsSaid : Prop := routerBudgetsRow.holds Try.pinned (OpenSpec.ofChange routerBudgetsSpec)

/-- ITS FALSE NEIGHBOUR: 'it returns false'. Refute it at one input. -/
def routerBudgetsWrong : ChangeSpec := { name := "routerBudgets", fn := fun _ => fun
  | [d1, d2, d3, d4] => { results := [.lit (.bool false)], args := [d1, d2, d3, d4] }
  | _ => none }
def RouterBudgetsWrongFalsely : Prop := routerBudgetsRow.holds Try.pinned (OpenSpec.ofChange routerBudgetsWrong)

/-- 'theodolitelaw15.RouterCheapest': WHATEVER THE INPUT: true; the input reads as it did. -/
def routerCheapestSpec : ChangeSpec := { name := "routerCheapest", fn := fun _ => fun
  | [d1, d2, d3, d4] => { results := [.lit (.bool true)], args := [d1, d2, d3, d4] }
  | _ => none }
def routerCheapestRow : OpenClaim := { program := "ytnhplinlibegnaa", sum := "beb3a96564859f8f2f65ddbe4db9c5e23d2ae3df937d0312d7b0bb9543f4bbd5", func := "theodolite/theodolitelaw15.RouterCheapest", spec := "routerCheapest", unfollowed := true, recurses := true, apart := false }
def RouterCheapestSaid : Prop := routerCheapestRow.holds Try.pinned (OpenSpec.ofChange routerCheapestSpec)

/-- ITS FALSE NEIGHBOUR: 'it returns false'. Refute it at one input. -/
def routerCheapestWrong : ChangeSpec := { name := "routerCheapest", fn := fun _ => fun
  | [d1, d2, d3, d4] => { results := [.lit (.bool false)], args := [d1, d2, d3, d4] }
  | _ => none }
def RouterCheapestWrongFalsely : Prop := routerCheapestRow.holds Try.pinned (OpenSpec.ofChange routerCheapestWrong)

/- THE SECOND FORM. 'bulk': how many values and letters a reading holds, each counted each time it is reached (what is shared counts as often as it is met; a slice's spare places count too). A statement '..UptoSaid' is the law's where the arguments, and the package variables that the reading takes, are together of bulk at most 1048576: NARROWER than '..Said'. Prove '..Said' where nothing that the law and all that it calls make is longer than what came in: it says more and counts as full. Else prove '..UptoSaid'. A law counts once. -/
mutual
def uptoBulk {H : Type} : DataW H → Nat
  | .lit (.string bytes) => bytes.length + 1
  | .lit _ => 1
  | .nil => 1
  | .ptr d => uptoBulk d + 1
  | .slice elems spare => uptoBulkAll elems + uptoBulkAll spare + 1
  | .agg parts => uptoBulkAll parts + 1
  | .iface _ d => uptoBulk d + 1
  | .map entries => uptoBulkEntries entries + 1
  | .held _ => 1
def uptoBulkAll {H : Type} : List (DataW H) → Nat
  | [] => 0
  | d :: r => uptoBulk d + uptoBulkAll r
def uptoBulkEntries {H : Type} : List (Lit × DataW H) → Nat
  | [] => 0
  | x :: r => uptoBulkEntry x + uptoBulkEntries r
def uptoBulkEntry {H : Type} : Lit × DataW H → Nat
  | (.string bytes, d) => bytes.length + uptoBulk d + 1
  | (_, d) => uptoBulk d + 1
 end
def uptoSmall : (H : Type) → List (DataW H) → Bool := fun _ ds => decide (uptoBulkAll ds ≤ 1048576)
def OpenSpec.upto (s : _root_.Go.ChangeSpec) : _root_.Go.OpenSpec := { _root_.Go.OpenSpec.ofChange s with cond := some uptoSmall }

/-- 'theodolitelaw15.RouterCosts', WHERE WHAT IT READS IS OF BULK AT MOST 1048576: true; the input reads as it did. -/
def routerCostsUptoRow : OpenClaim := { program := "ytnhplinlibegnaa", sum := "beb3a96564859f8f2f65ddbe4db9c5e23d2ae3df937d0312d7b0bb9543f4bbd5", func := "theodolite/theodolitelaw15.RouterCosts", spec := "routerCosts", unfollowed := true, recurses := true, apart := false, narrowed := true }
def RouterCostsUptoSaid : Prop := routerCostsUptoRow.holds Try.pinned (OpenSpec.upto routerCostsSpec)

/-- 'theodolitelaw15.RouterChooses', WHERE WHAT IT READS IS OF BULK AT MOST 1048576: true; the input reads as it did. -/
def routerChoosesUptoRow : OpenClaim := { program := "ytnhplinlibegnaa", sum := "beb3a96564859f8f2f65ddbe4db9c5e23d2ae3df937d0312d7b0bb9543f4bbd5", func := "theodolite/theodolitelaw15.RouterChooses", spec := "routerChooses", unfollowed := true, recurses := true, apart := false, narrowed := true }
def RouterChoosesUptoSaid : Prop := routerChoosesUptoRow.holds Try.pinned (OpenSpec.upto routerChoosesSpec)

/-- 'theodolitelaw15.RouterBudgets', WHERE WHAT IT READS IS OF BULK AT MOST 1048576: true; the input reads as it did. -/
def routerBudgetsUptoRow : OpenClaim := { program := "ytnhplinlibegnaa", sum := "beb3a96564859f8f2f65ddbe4db9c5e23d2ae3df937d0312d7b0bb9543f4bbd5", func := "theodolite/theodolitelaw15.RouterBudgets", spec := "routerBudgets", unfollowed := true, recurses := true, apart := false, narrowed := true }
def RouterBudgetsUptoSaid : Prop := routerBudgetsUptoRow.holds Try.pinned (OpenSpec.upto routerBudgetsSpec)

/-- 'theodolitelaw15.RouterCheapest', WHERE WHAT IT READS IS OF BULK AT MOST 1048576: true; the input reads as it did. -/
def routerCheapestUptoRow : OpenClaim := { program := "ytnhplinlibegnaa", sum := "beb3a96564859f8f2f65ddbe4db9c5e23d2ae3df937d0312d7b0bb9543f4bbd5", func := "theodolite/theodolitelaw15.RouterCheapest", spec := "routerCheapest", unfollowed := true, recurses := true, apart := false, narrowed := true }
def RouterCheapestUptoSaid : Prop := routerCheapestUptoRow.holds Try.pinned (OpenSpec.upto routerCheapestSpec)

end Rows
end Go.Proofs.Ytnhplinlibegnaa
