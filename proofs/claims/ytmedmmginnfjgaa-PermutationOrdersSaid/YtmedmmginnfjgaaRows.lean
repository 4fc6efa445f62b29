/-
  No cell of these rows narrows 'for every input' (looked for: loops, veiled, ifaces, maps, wideKeys, modest, calm, conditions, laid).
  DERIVED. THE GIVEN ROWS OF THIS SEAT. 13 by the template 'for every input the law returns true; each argument reads behind the call as it read before'; 0 by the template 'total and deterministic' (their statements: YtmedmmginnfjgaaTotals.lean).
  GIVEN WITH THE SEED: the statements are not yours to turn. If you find one false, say at which input.
  Laid BY PROGRAM, IN A SANDBOX (cutbox-rows.mjs): the forced cells as the released guide's own fill.sh prints them over the translation d53022d14b7cf6c6… (all of the seat's roots in one cut). By AI agents, Wed Nov 11 2026. No macro, syntax, notation, axiom, sorry.
-/
import Derived.Test.YtmedmmginnfjgaaChecked
import GoSem.Claim
import GoSem.ClaimJoined
import GoSem.ClaimMapViews
import Derived.JoinedTies
import Derived.KernelRfl
namespace Go.Proofs.Ytmedmmginnfjgaa
/- THE CELL 'sum', in the pinned program and in every row, IS THE sha256 OF THE DUMP (.gsa) THAT YtmedmmginnfjgaaProg.lean LOADS. Nothing in Lean hashes anything: it is a label: what it is worth is what the hold of that sum in a sandbox is worth. -/
noncomputable def Try.pinned : Pinned := { name := "ytmedmmginnfjgaa", sum := "d53022d14b7cf6c6e9c20d727fbf630176a0c8bfe30c4b6e66d872aef3925b45", checked := Try.checked }
namespace Rows
def none {H : Type} : Left H := { results := [], args := [] }

/-- 'quadformlaw16.PermutationValid': WHATEVER THE INPUT: true; the input reads as it did. -/
def permutationValidSpec : ChangeSpec := { name := "permutationValid", fn := fun _ => fun
  | [d1, d2, d3, d4, d5] => { results := [.lit (.bool true)], args := [d1, d2, d3, d4, d5] }
  | _ => none }
def permutationValidRow : OpenClaim := { program := "ytmedmmginnfjgaa", sum := "d53022d14b7cf6c6e9c20d727fbf630176a0c8bfe30c4b6e66d872aef3925b45", func := "quadform/quadformlaw16.PermutationValid", spec := "permutationValid", unfollowed := true, recurses := true, apart := false }
def PermutationValidSaid : Prop := permutationValidRow.holds Try.pinned (OpenSpec.ofChange permutationValidSpec)

/-- ITS FALSE NEIGHBOUR: 'it returns false'. Refute it at one input. -/
def permutationValidWrong : ChangeSpec := { name := "permutationValid", fn := fun _ => fun
  | [d1, d2, d3, d4, d5] => { results := [.lit (.bool false)], args := [d1, d2, d3, d4, d5] }
  | _ => none }
def PermutationValidWrongFalsely : Prop := permutationValidRow.holds Try.pinned (OpenSpec.ofChange permutationValidWrong)

/-- 'quadformlaw16.PermutationComposes': WHATEVER THE INPUT: true; the input reads as it did. -/
def permutationComposesSpec : ChangeSpec := { name := "permutationComposes", fn := fun _ => fun
  | [d1, d2, d3, d4, d5, d6] => { results := [.lit (.bool true)], args := [d1, d2, d3, d4, d5, d6] }
  | _ => none }
def permutationComposesRow : OpenClaim := { program := "ytmedmmginnfjgaa", sum := "d53022d14b7cf6c6e9c20d727fbf630176a0c8bfe30c4b6e66d872aef3925b45", func := "quadform/quadformlaw16.PermutationComposes", spec := "permutationComposes", unfollowed := true, recurses := true, apart := false }
def PermutationComposesSaid : Prop := permutationComposesRow.holds Try.pinned (OpenSpec.ofChange permutationComposesSpec)

/-- ITS FALSE NEIGHBOUR: 'it returns false'. Refute it at one input. -/
def permutationComposesWrong : ChangeSpec := { name := "permutationComposes", fn := fun _ => fun
  | [d1, d2, d3, d4, d5, d6] => { results := [.lit (.bool false)], args := [d1, d2, d3, d4, d5, d6] }
  | _ => none }
def PermutationComposesWrongFalsely : Prop := permutationComposesRow.holds Try.pinned (OpenSpec.ofChange permutationComposesWrong)

/-- 'quadformlaw16.PermutationOrders': WHATEVER THE INPUT: true; the input reads as it did. -/
def permutationOrdersSpec : ChangeSpec := { name := "permutationOrders", fn := fun _ => fun
  | [d1, d2, d3] => { results := [.lit (.bool true)], args := [d1, d2, d3] }
  | _ => none }
def permutationOrdersRow : OpenClaim := { program := "ytmedmmginnfjgaa", sum := "d53022d14b7cf6c6e9c20d727fbf630176a0c8bfe30c4b6e66d872aef3925b45", func := "quadform/quadformlaw16.PermutationOrders", spec := "permutationOrders", unfollowed := true, recurses := true, apart := false }
def PermutationOrdersSaid : Prop := permutationOrdersRow.holds Try.pinned (OpenSpec.ofChange permutationOrdersSpec)

/-- ITS FALSE NEIGHBOUR: 'it returns false'. Refute it at one input. -/
def permutationOrdersWrong : ChangeSpec := { name := "permutationOrders", fn := fun _ => fun
  | [d1, d2, d3] => { results := [.lit (.bool false)], args := [d1, d2, d3] }
  | _ => none }
def PermutationOrdersWrongFalsely : Prop := permutationOrdersRow.holds Try.pinned (OpenSpec.ofChange permutationOrdersWrong)

/-- 'quadformlaw16.PermutationPowers': WHATEVER THE INPUT: true; the input reads as it did. -/
def permutationPowersSpec : ChangeSpec := { name := "permutationPowers", fn := fun _ => fun
  | [d1, d2] => { results := [.lit (.bool true)], args := [d1, d2] }
  | _ => none }
def permutationPowersRow : OpenClaim := { program := "ytmedmmginnfjgaa", sum := "d53022d14b7cf6c6e9c20d727fbf630176a0c8bfe30c4b6e66d872aef3925b45", func := "quadform/quadformlaw16.PermutationPowers", spec := "permutationPowers", unfollowed := true, recurses := true, apart := false }
def PermutationPowersSaid : Prop := permutationPowersRow.holds Try.pinned (OpenSpec.ofChange permutationPowersSpec)

/-- ITS FALSE NEIGHBOUR: 'it returns false'. Refute it at one input. -/
def permutationPowersWrong : ChangeSpec := { name := "permutationPowers", fn := fun _ => fun
  | [d1, d2] => { results := [.lit (.bool false)], args := [d1, d2] }
  | _ => none }
def PermutationPowersWrongFalsely : Prop := permutationPowersRow.holds Try.pinned (OpenSpec.ofChange permutationPowersWrong)

/-- 'quadformlaw16.PermutationCycles': WHATEVER THE INPUT: true; the input reads as it did. -/
def permutationCyclesSpec : ChangeSpec := { name := "permutationCycles", fn := fun _ => fun
  | [d1, d2, d3] => { results := [.lit (.bool true)], args := [d1, d2, d3] }
  | _ => none }
def permutationCyclesRow : OpenClaim := { program := "ytmedmmginnfjgaa", sum := "d53022d14b7cf6c6e9c20d727fbf630176a0c8bfe30c4b6e66d872aef3925b45", func := "quadform/quadformlaw16.PermutationCycles", spec := "permutationCycles", unfollowed := true, recurses := true, apart := false }
def PermutationCyclesSaid : Prop := permutationCyclesRow.holds Try.pinned (OpenSpec.ofChange permutationCyclesSpec)

/-- ITS FALSE NEIGHBOUR: 'it returns false'. Refute it at one input. -/
def permutationCyclesWrong : ChangeSpec := { name := "permutationCycles", fn := fun _ => fun
  | [d1, d2, d3] => { results := [.lit (.bool false)], args := [d1, d2, d3] }
  | _ => none }
def PermutationCyclesWrongFalsely : Prop := permutationCyclesRow.holds Try.pinned (OpenSpec.ofChange permutationCyclesWrong)

/-- 'quadformlaw16.PermutationPartition': WHATEVER THE INPUT: true; the input reads as it did. -/
def permutationPartitionSpec : ChangeSpec := { name := "permutationPartition", fn := fun _ => fun
  | [d] => { results := [.lit (.bool true)], args := [d] }
  | _ => none }
def permutationPartitionRow : OpenClaim := { program := "ytmedmmginnfjgaa", sum := "d53022d14b7cf6c6e9c20d727fbf630176a0c8bfe30c4b6e66d872aef3925b45", func := "quadform/quadformlaw16.PermutationPartition", spec := "permutationPartition", unfollowed := true, recurses := true, apart := false }
def PermutationPartitionSaid : Prop := permutationPartitionRow.holds Try.pinned (OpenSpec.ofChange permutationPartitionSpec)

/-- ITS FALSE NEIGHBOUR: 'it returns false'. Refute it at one input. -/
def permutationPartitionWrong : ChangeSpec := { name := "permutationPartition", fn := fun _ => fun
  | [d] => { results := [.lit (.bool false)], args := [d] }
  | _ => none }
def PermutationPartitionWrongFalsely : Prop := permutationPartitionRow.holds Try.pinned (OpenSpec.ofChange permutationPartitionWrong)

/-- 'quadformlaw16.PermutationOrbits': WHATEVER THE INPUT: true; the input reads as it did. -/
def permutationOrbitsSpec : ChangeSpec := { name := "permutationOrbits", fn := fun _ => fun
  | [d1, d2, d3] => { results := [.lit (.bool true)], args := [d1, d2, d3] }
  | _ => none }
def permutationOrbitsRow : OpenClaim := { program := "ytmedmmginnfjgaa", sum := "d53022d14b7cf6c6e9c20d727fbf630176a0c8bfe30c4b6e66d872aef3925b45", func := "quadform/quadformlaw16.PermutationOrbits", spec := "permutationOrbits", unfollowed := true, recurses := true, apart := false }
def PermutationOrbitsSaid : Prop := permutationOrbitsRow.holds Try.pinned (OpenSpec.ofChange permutationOrbitsSpec)

/-- ITS FALSE NEIGHBOUR: 'it returns false'. Refute it at one input. -/
def permutationOrbitsWrong : ChangeSpec := { name := "permutationOrbits", fn := fun _ => fun
  | [d1, d2, d3] => { results := [.lit (.bool false)], args := [d1, d2, d3] }
  | _ => none }
def PermutationOrbitsWrongFalsely : Prop := permutationOrbitsRow.holds Try.pinned (OpenSpec.ofChange permutationOrbitsWrong)

/-- 'quadformlaw16.PermutationIdentity': WHATEVER THE INPUT: true; the input reads as it did. -/
def permutationIdentitySpec : ChangeSpec := { name := "permutationIdentity", fn := fun _ => fun
  | [d] => { results := [.lit (.bool true)], args := [d] }
  | _ => none }
def permutationIdentityRow : OpenClaim := { program := "ytmedmmginnfjgaa", sum := "d53022d14b7cf6c6e9c20d727fbf630176a0c8bfe30c4b6e66d872aef3925b45", func := "quadform/quadformlaw16.PermutationIdentity", spec := "permutationIdentity", unfollowed := true, recurses := true, apart := false }
def PermutationIdentitySaid : Prop := permutationIdentityRow.holds Try.pinned (OpenSpec.ofChange permutationIdentitySpec)

/-- ITS FALSE NEIGHBOUR: 'it returns false'. Refute it at one input. -/
def permutationIdentityWrong : ChangeSpec := { name := "permutationIdentity", fn := fun _ => fun
  | [d] => { results := [.lit (.bool false)], args := [d] }
  | _ => none }
def PermutationIdentityWrongFalsely : Prop := permutationIdentityRow.holds Try.pinned (OpenSpec.ofChange permutationIdentityWrong)

/-- 'quadformlaw16.PermutationInverts': WHATEVER THE INPUT: true; the input reads as it did. -/
def permutationInvertsSpec : ChangeSpec := { name := "permutationInverts", fn := fun _ => fun
  | [d1, d2, d3] => { results := [.lit (.bool true)], args := [d1, d2, d3] }
  | _ => none }
def permutationInvertsRow : OpenClaim := { program := "ytmedmmginnfjgaa", sum := "d53022d14b7cf6c6e9c20d727fbf630176a0c8bfe30c4b6e66d872aef3925b45", func := "quadform/quadformlaw16.PermutationInverts", spec := "permutationInverts", unfollowed := true, recurses := true, apart := false }
def PermutationInvertsSaid : Prop := permutationInvertsRow.holds Try.pinned (OpenSpec.ofChange permutationInvertsSpec)

/-- ITS FALSE NEIGHBOUR: 'it returns false'. Refute it at one input. -/
def permutationInvertsWrong : ChangeSpec := { name := "permutationInverts", fn := fun _ => fun
  | [d1, d2, d3] => { results := [.lit (.bool false)], args := [d1, d2, d3] }
  | _ => none }
def PermutationInvertsWrongFalsely : Prop := permutationInvertsRow.holds Try.pinned (OpenSpec.ofChange permutationInvertsWrong)

/-- 'quadformlaw16.PermutationTrees': WHATEVER THE INPUT: true; the input reads as it did. -/
def permutationTreesSpec : ChangeSpec := { name := "permutationTrees", fn := fun _ => fun
  | [d1, d2, d3] => { results := [.lit (.bool true)], args := [d1, d2, d3] }
  | _ => none }
def permutationTreesRow : OpenClaim := { program := "ytmedmmginnfjgaa", sum := "d53022d14b7cf6c6e9c20d727fbf630176a0c8bfe30c4b6e66d872aef3925b45", func := "quadform/quadformlaw16.PermutationTrees", spec := "permutationTrees", unfollowed := true, recurses := true, apart := false }
def PermutationTreesSaid : Prop := permutationTreesRow.holds Try.pinned (OpenSpec.ofChange permutationTreesSpec)

/-- ITS FALSE NEIGHBOUR: 'it returns false'. Refute it at one input. -/
def permutationTreesWrong : ChangeSpec := { name := "permutationTrees", fn := fun _ => fun
  | [d1, d2, d3] => { results := [.lit (.bool false)], args := [d1, d2, d3] }
  | _ => none }
def PermutationTreesWrongFalsely : Prop := permutationTreesRow.holds Try.pinned (OpenSpec.ofChange permutationTreesWrong)

/-- 'quadformlaw16.PermutationParity': WHATEVER THE INPUT: true; the input reads as it did. -/
def permutationParitySpec : ChangeSpec := { name := "permutationParity", fn := fun _ => fun
  | [d1, d2, d3, d4] => { results := [.lit (.bool true)], args := [d1, d2, d3, d4] }
  | _ => none }
def permutationParityRow : OpenClaim := { program := "ytmedmmginnfjgaa", sum := "d53022d14b7cf6c6e9c20d727fbf630176a0c8bfe30c4b6e66d872aef3925b45", func := "quadform/quadformlaw16.PermutationParity", spec := "permutationParity", unfollowed := true, recurses := true, apart := false }
def PermutationParitySaid : Prop := permutationParityRow.holds Try.pinned (OpenSpec.ofChange permutationParitySpec)

/-- ITS FALSE NEIGHBOUR: 'it returns false'. Refute it at one input. -/
def permutationParityWrong : ChangeSpec := { name := "permutationParity", fn := fun _ => fun
  | [d1, d2, d3, d4] => { results := [.lit (.bool false)], args := [d1, d2, d3, d4] }
  | _ => none }
def PermutationParityWrongFalsely : Prop := permutationParityRow.holds Try.pinned (OpenSpec.ofChange permutationParityWrong)

/-- 'quadformlaw16.PermutationErrors': WHATEVER THE INPUT: true; the input reads as it did. -/
def permutationErrorsSpec : ChangeSpec := { name := "permutationErrors", fn := fun _ => fun
  | [d1, d2, d3, d4] => { results := [.lit (.bool true)], args := [d1, d2, d3, d4] }
  | _ => none }
def permutationErrorsRow : OpenClaim := { program := "ytmedmmginnfjgaa", sum := "d53022d14b7cf6c6e9c20d727fbf630176a0c8bfe30c4b6e66d872aef3925b45", func := "quadform/quadformlaw16.PermutationErrors", spec := "permutationErrors", unfollowed := true, recurses := true, apart := false }
def PermutationErrorsSaid : Prop := permutationErrorsRow.holds Try.pinned (OpenSpec.ofChange permutationErrorsSpec)

/-- ITS FALSE NEIGHBOUR: 'it returns false'. Refute it at one input. -/
def permutationErrorsWrong : ChangeSpec := { name := "permutationErrors", fn := fun _ => fun
  | [d1, d2, d3, d4] => { results := [.lit (.bool false)], args := [d1, d2, d3, d4] }
  | _ => none }
def PermutationErrorsWrongFalsely : Prop := permutationErrorsRow.holds Try.pinned (OpenSpec.ofChange permutationErrorsWrong)

/-- 'quadformlaw16.PermutationPaths': WHATEVER THE INPUT: true; the input reads as it did. -/
def permutationPathsSpec : ChangeSpec := { name := "permutationPaths", fn := fun _ => fun
  | [d1, d2] => { results := [.lit (.bool true)], args := [d1, d2] }
  | _ => none }
def permutationPathsRow : OpenClaim := { program := "ytmedmmginnfjgaa", sum := "d53022d14b7cf6c6e9c20d727fbf630176a0c8bfe30c4b6e66d872aef3925b45", func := "quadform/quadformlaw16.PermutationPaths", spec := "permutationPaths", unfollowed := true, recurses := true, apart := false }
def PermutationPathsSaid : Prop := permutationPathsRow.holds Try.pinned (OpenSpec.ofChange permutationPathsSpec)

/-- ITS FALSE NEIGHBOUR: 'it returns false'. Refute it at one input. -/
def permutationPathsWrong : ChangeSpec := { name := "permutationPaths", fn := fun _ => fun
  | [d1, d2] => { results := [.lit (.bool false)], args := [d1, d2] }
  | _ => none }
def PermutationPathsWrongFalsely : Prop := permutationPathsRow.holds Try.pinned (OpenSpec.ofChange permutationPathsWrong)

/- THE SECOND FORM. 'bulk': how many values and letters a reading holds, each counted each time it is reached (what is shared counts as often as it is met; a slice's spare places count too). A statement '..UptoSaid' is the law's where the arguments, and the package variables that the reading takes, are together of bulk at most 1048576: NARROWER than '..Said'. Prove '..Said' where nothing that the law and all that it calls make is longer than what came in: it says more and counts as full. Else prove '..UptoSaid'. A law counts once. -/
mutual
def uptoBulk {H : Type} : DataW H → Nat
  | .lit (.string bytes) => bytes.length + 1
  | .lit _ => 1
  | .nil => 1
  | .ptr d => uptoBulk d + 1
  | .slice elems spare => uptoBulkAll elems + uptoBulkAll spare + 1
  | .agg parts => uptoBulkAll parts + 1
  | .iface _ d => uptoBulk d + 1
  | .map entries => uptoBulkEntries entries + 1
  | .held _ => 1
def uptoBulkAll {H : Type} : List (DataW H) → Nat
  | [] => 0
  | d :: r => uptoBulk d + uptoBulkAll r
def uptoBulkEntries {H : Type} : List (Lit × DataW H) → Nat
  | [] => 0
  | x :: r => uptoBulkEntry x + uptoBulkEntries r
def uptoBulkEntry {H : Type} : Lit × DataW H → Nat
  | (.string bytes, d) => bytes.length + uptoBulk d + 1
  | (_, d) => uptoBulk d + 1
 end
def uptoSmall : (H : Type) → List (DataW H) → Bool := fun _ ds => decide (uptoBulkAll ds ≤ 1048576)
def OpenSpec.upto (s : _root_.Go.ChangeSpec) : _root_.Go.OpenSpec := { _root_.Go.OpenSpec.ofChange s with cond := some uptoSmall }

/-- 'quadformlaw16.PermutationValid', WHERE WHAT IT READS IS OF BULK AT MOST 1048576: true; the input reads as it did. -/
def permutationValidUptoRow : OpenClaim := { program := "ytmedmmginnfjgaa", sum := "d53022d14b7cf6c6e9c20d727fbf630176a0c8bfe30c4b6e66d872aef3925b45", func := "quadform/quadformlaw16.PermutationValid", spec := "permutationValid", unfollowed := true, recurses := true, apart := false, narrowed := true }
def PermutationValidUptoSaid : Prop := permutationValidUptoRow.holds Try.pinned (OpenSpec.upto permutationValidSpec)

/-- 'quadformlaw16.PermutationComposes', WHERE WHAT IT READS IS OF BULK AT MOST 1048576: true; the input reads as it did. -/
def permutationComposesUptoRow : OpenClaim := { program := "ytmedmmginnfjgaa", sum := "d53022d14b7cf6c6e9c20d727fbf630176a0c8bfe30c4b6e66d872aef3925b45", func := "quadform/quadformlaw16.PermutationComposes", spec := "permutationComposes", unfollowed := true, recurses := true, apart := false, narrowed := true }
def PermutationComposesUptoSaid : Prop := permutationComposesUptoRow.holds Try.pinned (OpenSpec.upto permutationComposesSpec)

/-- 'quadformlaw16.PermutationOrders', WHERE WHAT IT READS IS OF BULK AT MOST 1048576: true; the input reads as it did. -/
def permutationOrdersUptoRow : OpenClaim := { program := "ytmedmmginnfjgaa", sum := "d53022d14b7cf6c6e9c20d727fbf630176a0c8bfe30c4b6e66d872aef3925b45", func := "quadform/quadformlaw16.PermutationOrders", spec := "permutationOrders", unfollowed := true, recurses := true, apart := false, narrowed := true }
def PermutationOrdersUptoSaid : Prop := permutationOrdersUptoRow.holds Try.pinned (OpenSpec.upto permutationOrdersSpec)

/-- 'quadformlaw16.PermutationPowers', WHERE WHAT IT READS IS OF BULK AT MOST 1048576: true; the input reads as it did. -/
def permutationPowersUptoRow : OpenClaim := { program := "ytmedmmginnfjgaa", sum := "d53022d14b7cf6c6e9c20d727fbf630176a0c8bfe30c4b6e66d872aef3925b45", func := "quadform/quadformlaw16.PermutationPowers", spec := "permutationPowers", unfollowed := true, recurses := true, apart := false, narrowed := true }
def PermutationPowersUptoSaid : Prop := permutationPowersUptoRow.holds Try.pinned (OpenSpec.upto permutationPowersSpec)

/-- 'quadformlaw16.PermutationCycles', WHERE WHAT IT READS IS OF BULK AT MOST 1048576: true; the input reads as it did. -/
def permutationCyclesUptoRow : OpenClaim := { program := "ytmedmmginnfjgaa", sum := "d53022d14b7cf6c6e9c20d727fbf630176a0c8bfe30c4b6e66d872aef3925b45", func := "quadform/quadformlaw16.PermutationCycles", spec := "permutationCycles", unfollowed := true, recurses := true, apart := false, narrowed := true }
def PermutationCyclesUptoSaid : Prop := permutationCyclesUptoRow.holds Try.pinned (OpenSpec.upto permutationCyclesSpec)

/-- 'quadformlaw16.PermutationPartition', WHERE WHAT IT READS IS OF BULK AT MOST 1048576: true; the input reads as it did. -/
def permutationPartitionUptoRow : OpenClaim := { program := "ytmedmmginnfjgaa", sum := "d53022d14b7cf6c6e9c20d727fbf630176a0c8bfe30c4b6e66d872aef3925b45", func := "quadform/quadformlaw16.PermutationPartition", spec := "permutationPartition", unfollowed := true, recurses := true, apart := false, narrowed := true }
def PermutationPartitionUptoSaid : Prop := permutationPartitionUptoRow.holds Try.pinned (OpenSpec.upto permutationPartitionSpec)

/-- 'quadformlaw16.PermutationOrbits', WHERE WHAT IT READS IS OF BULK AT MOST 1048576: true; the input reads as it did. -/
def permutationOrbitsUptoRow : OpenClaim := { program := "ytmedmmginnfjgaa", sum := "d53022d14b7cf6c6e9c20d727fbf630176a0c8bfe30c4b6e66d872aef3925b45", func := "quadform/quadformlaw16.PermutationOrbits", spec := "permutationOrbits", unfollowed := true, recurses := true, apart := false, narrowed := true }
def PermutationOrbitsUptoSaid : Prop := permutationOrbitsUptoRow.holds Try.pinned (OpenSpec.upto permutationOrbitsSpec)

/-- 'quadformlaw16.PermutationIdentity', WHERE WHAT IT READS IS OF BULK AT MOST 1048576: true; the input reads as it did. -/
def permutationIdentityUptoRow : OpenClaim := { program := "ytmedmmginnfjgaa", sum := "d53022d14b7cf6c6e9c20d727fbf630176a0c8bfe30c4b6e66d872aef3925b45", func := "quadform/quadformlaw16.PermutationIdentity", spec := "permutationIdentity", unfollowed := true, recurses := true, apart := false, narrowed := true }
def PermutationIdentityUptoSaid : Prop := permutationIdentityUptoRow.holds Try.pinned (OpenSpec.upto permutationIdentitySpec)

/-- 'quadformlaw16.PermutationInverts', WHERE WHAT IT READS IS OF BULK AT MOST 1048576: true; the input reads as it did. -/
def permutationInvertsUptoRow : OpenClaim := { program := "ytmedmmginnfjgaa", sum := "d53022d14b7cf6c6e9c20d727fbf630176a0c8bfe30c4b6e66d872aef3925b45", func := "quadform/quadformlaw16.PermutationInverts", spec := "permutationInverts", unfollowed := true, recurses := true, apart := false, narrowed := true }
def PermutationInvertsUptoSaid : Prop := permutationInvertsUptoRow.holds Try.pinned (OpenSpec.upto permutationInvertsSpec)

/-- 'quadformlaw16.PermutationTrees', WHERE WHAT IT READS IS OF BULK AT MOST 1048576: true; the input reads as it did. -/
def permutationTreesUptoRow : OpenClaim := { program := "ytmedmmginnfjgaa", sum := "d53022d14b7cf6c6e9c20d727fbf630176a0c8bfe30c4b6e66d872aef3925b45", func := "quadform/quadformlaw16.PermutationTrees", spec := "permutationTrees", unfollowed := true, recurses := true, apart := false, narrowed := true }
def PermutationTreesUptoSaid : Prop := permutationTreesUptoRow.holds Try.pinned (OpenSpec.upto permutationTreesSpec)

/-- 'quadformlaw16.PermutationParity', WHERE WHAT IT READS IS OF BULK AT MOST 1048576: true; the input reads as it did. -/
def permutationParityUptoRow : OpenClaim := { program := "ytmedmmginnfjgaa", sum := "d53022d14b7cf6c6e9c20d727fbf630176a0c8bfe30c4b6e66d872aef3925b45", func := "quadform/quadformlaw16.PermutationParity", spec := "permutationParity", unfollowed := true, recurses := true, apart := false, narrowed := true }
def PermutationParityUptoSaid : Prop := permutationParityUptoRow.holds Try.pinned (OpenSpec.upto permutationParitySpec)

/-- 'quadformlaw16.PermutationErrors', WHERE WHAT IT READS IS OF BULK AT MOST 1048576: true; the input reads as it did. -/
def permutationErrorsUptoRow : OpenClaim := { program := "ytmedmmginnfjgaa", sum := "d53022d14b7cf6c6e9c20d727fbf630176a0c8bfe30c4b6e66d872aef3925b45", func := "quadform/quadformlaw16.PermutationErrors", spec := "permutationErrors", unfollowed := true, recurses := true, apart := false, narrowed := true }
def PermutationErrorsUptoSaid : Prop := permutationErrorsUptoRow.holds Try.pinned (OpenSpec.upto permutationErrorsSpec)

/-- 'quadformlaw16.PermutationPaths', WHERE WHAT IT READS IS OF BULK AT MOST 1048576: true; the input reads as it did. -/
def permutationPathsUptoRow : OpenClaim := { program := "ytmedmmginnfjgaa", sum := "d53022d14b7cf6c6e9c20d727fbf630176a0c8bfe30c4b6e66d872aef3925b45", func := "quadform/quadformlaw16.PermutationPaths", spec := "permutationPaths", unfollowed := true, recurses := true, apart := false, narrowed := true }
def PermutationPathsUptoSaid : Prop := permutationPathsUptoRow.holds Try.pinned (OpenSpec.upto permutationPathsSpec)

end Rows
end Go.Proofs.Ytmedmmginnfjgaa
