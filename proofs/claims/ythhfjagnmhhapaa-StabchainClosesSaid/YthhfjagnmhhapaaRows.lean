/-
  No cell of these rows narrows 'for every input' (looked for: loops, veiled, ifaces, maps, wideKeys, modest, calm, conditions, laid).
  DERIVED. THE GIVEN ROWS OF THIS SEAT. 12 by the template 'for every input the law returns true; each argument reads behind the call as it read before'; 0 by the template 'total and deterministic' (their statements: YthhfjagnmhhapaaTotals.lean).
  GIVEN WITH THE SEED: the statements are not yours to turn. If you find one false, say at which input.
  Laid BY PROGRAM, IN A SANDBOX (cutbox-rows.mjs): the forced cells as the released guide's own fill.sh prints them over the translation 66d4a94072e2d967… (all of the seat's roots in one cut). By AI agents, Wed Nov 11 2026. No macro, syntax, notation, axiom, sorry.
-/
import Derived.Test.YthhfjagnmhhapaaChecked
import GoSem.Claim
import GoSem.ClaimJoined
import GoSem.ClaimMapViews
import Derived.JoinedTies
import Derived.KernelRfl
namespace Go.Proofs.Ythhfjagnmhhapaa
/- THE CELL 'sum', in the pinned program and in every row, IS THE sha256 OF THE DUMP (.gsa) THAT YthhfjagnmhhapaaProg.lean LOADS. Nothing in Lean hashes anything: it is a label: what it is worth is what the hold of that sum in a sandbox is worth. -/
noncomputable def Try.pinned : Pinned := { name := "ythhfjagnmhhapaa", sum := "66d4a94072e2d967e242c1a13a95f1e073f5743774fbb7570eab3d6dd3b52c0d", checked := Try.checked }
namespace Rows
def none {H : Type} : Left H := { results := [], args := [] }

/-- 'quadformlaw17.StabchainSymmetric': WHATEVER THE INPUT: true; the input reads as it did. -/
def stabchainSymmetricSpec : ChangeSpec := { name := "stabchainSymmetric", fn := fun _ => fun
  | [] => { results := [.lit (.bool true)], args := [] }
  | _ => none }
def stabchainSymmetricRow : OpenClaim := { program := "ythhfjagnmhhapaa", sum := "66d4a94072e2d967e242c1a13a95f1e073f5743774fbb7570eab3d6dd3b52c0d", func := "quadform/quadformlaw17.StabchainSymmetric", spec := "stabchainSymmetric", unfollowed := true, recurses := true, apart := false }
def StabchainSymmetricSaid : Prop := stabchainSymmetricRow.holds Try.pinned (OpenSpec.ofChange stabchainSymmetricSpec)

/-- ITS FALSE NEIGHBOUR: 'it returns false'. Refute it at one input. -/
def stabchainSymmetricWrong : ChangeSpec := { name := "stabchainSymmetric", fn := fun _ => fun
  | [] => { results := [.lit (.bool false)], args := [] }
  | _ => none }
def StabchainSymmetricWrongFalsely : Prop := stabchainSymmetricRow.holds Try.pinned (OpenSpec.ofChange stabchainSymmetricWrong)

/-- 'quadformlaw17.StabchainOrders': WHATEVER THE INPUT: true; the input reads as it did. -/
def stabchainOrdersSpec : ChangeSpec := { name := "stabchainOrders", fn := fun _ => fun
  | [d] => { results := [.lit (.bool true)], args := [d] }
  | _ => none }
def stabchainOrdersRow : OpenClaim := { program := "ythhfjagnmhhapaa", sum := "66d4a94072e2d967e242c1a13a95f1e073f5743774fbb7570eab3d6dd3b52c0d", func := "quadform/quadformlaw17.StabchainOrders", spec := "stabchainOrders", unfollowed := true, recurses := true, apart := false }
def StabchainOrdersSaid : Prop := stabchainOrdersRow.holds Try.pinned (OpenSpec.ofChange stabchainOrdersSpec)

/-- ITS FALSE NEIGHBOUR: 'it returns false'. Refute it at one input. -/
def stabchainOrdersWrong : ChangeSpec := { name := "stabchainOrders", fn := fun _ => fun
  | [d] => { results := [.lit (.bool false)], args := [d] }
  | _ => none }
def StabchainOrdersWrongFalsely : Prop := stabchainOrdersRow.holds Try.pinned (OpenSpec.ofChange stabchainOrdersWrong)

/-- 'quadformlaw17.StabchainContains': WHATEVER THE INPUT: true; the input reads as it did. -/
def stabchainContainsSpec : ChangeSpec := { name := "stabchainContains", fn := fun _ => fun
  | [d1, d2, d3] => { results := [.lit (.bool true)], args := [d1, d2, d3] }
  | _ => none }
def stabchainContainsRow : OpenClaim := { program := "ythhfjagnmhhapaa", sum := "66d4a94072e2d967e242c1a13a95f1e073f5743774fbb7570eab3d6dd3b52c0d", func := "quadform/quadformlaw17.StabchainContains", spec := "stabchainContains", unfollowed := true, recurses := true, apart := false }
def StabchainContainsSaid : Prop := stabchainContainsRow.holds Try.pinned (OpenSpec.ofChange stabchainContainsSpec)

/-- ITS FALSE NEIGHBOUR: 'it returns false'. Refute it at one input. -/
def stabchainContainsWrong : ChangeSpec := { name := "stabchainContains", fn := fun _ => fun
  | [d1, d2, d3] => { results := [.lit (.bool false)], args := [d1, d2, d3] }
  | _ => none }
def StabchainContainsWrongFalsely : Prop := stabchainContainsRow.holds Try.pinned (OpenSpec.ofChange stabchainContainsWrong)

/-- 'quadformlaw17.StabchainProducts': WHATEVER THE INPUT: true; the input reads as it did. -/
def stabchainProductsSpec : ChangeSpec := { name := "stabchainProducts", fn := fun _ => fun
  | [d1, d2, d3] => { results := [.lit (.bool true)], args := [d1, d2, d3] }
  | _ => none }
def stabchainProductsRow : OpenClaim := { program := "ythhfjagnmhhapaa", sum := "66d4a94072e2d967e242c1a13a95f1e073f5743774fbb7570eab3d6dd3b52c0d", func := "quadform/quadformlaw17.StabchainProducts", spec := "stabchainProducts", unfollowed := true, recurses := true, apart := false }
def StabchainProductsSaid : Prop := stabchainProductsRow.holds Try.pinned (OpenSpec.ofChange stabchainProductsSpec)

/-- ITS FALSE NEIGHBOUR: 'it returns false'. Refute it at one input. -/
def stabchainProductsWrong : ChangeSpec := { name := "stabchainProducts", fn := fun _ => fun
  | [d1, d2, d3] => { results := [.lit (.bool false)], args := [d1, d2, d3] }
  | _ => none }
def StabchainProductsWrongFalsely : Prop := stabchainProductsRow.holds Try.pinned (OpenSpec.ofChange stabchainProductsWrong)

/-- 'quadformlaw17.StabchainLengths': WHATEVER THE INPUT: true; the input reads as it did. -/
def stabchainLengthsSpec : ChangeSpec := { name := "stabchainLengths", fn := fun _ => fun
  | [d1, d2, d3, d4] => { results := [.lit (.bool true)], args := [d1, d2, d3, d4] }
  | _ => none }
def stabchainLengthsRow : OpenClaim := { program := "ythhfjagnmhhapaa", sum := "66d4a94072e2d967e242c1a13a95f1e073f5743774fbb7570eab3d6dd3b52c0d", func := "quadform/quadformlaw17.StabchainLengths", spec := "stabchainLengths", unfollowed := true, recurses := true, apart := false }
def StabchainLengthsSaid : Prop := stabchainLengthsRow.holds Try.pinned (OpenSpec.ofChange stabchainLengthsSpec)

/-- ITS FALSE NEIGHBOUR: 'it returns false'. Refute it at one input. -/
def stabchainLengthsWrong : ChangeSpec := { name := "stabchainLengths", fn := fun _ => fun
  | [d1, d2, d3, d4] => { results := [.lit (.bool false)], args := [d1, d2, d3, d4] }
  | _ => none }
def StabchainLengthsWrongFalsely : Prop := stabchainLengthsRow.holds Try.pinned (OpenSpec.ofChange stabchainLengthsWrong)

/-- 'quadformlaw17.StabchainFactors': WHATEVER THE INPUT: true; the input reads as it did. -/
def stabchainFactorsSpec : ChangeSpec := { name := "stabchainFactors", fn := fun _ => fun
  | [d1, d2] => { results := [.lit (.bool true)], args := [d1, d2] }
  | _ => none }
def stabchainFactorsRow : OpenClaim := { program := "ythhfjagnmhhapaa", sum := "66d4a94072e2d967e242c1a13a95f1e073f5743774fbb7570eab3d6dd3b52c0d", func := "quadform/quadformlaw17.StabchainFactors", spec := "stabchainFactors", unfollowed := true, recurses := true, apart := false }
def StabchainFactorsSaid : Prop := stabchainFactorsRow.holds Try.pinned (OpenSpec.ofChange stabchainFactorsSpec)

/-- ITS FALSE NEIGHBOUR: 'it returns false'. Refute it at one input. -/
def stabchainFactorsWrong : ChangeSpec := { name := "stabchainFactors", fn := fun _ => fun
  | [d1, d2] => { results := [.lit (.bool false)], args := [d1, d2] }
  | _ => none }
def StabchainFactorsWrongFalsely : Prop := stabchainFactorsRow.holds Try.pinned (OpenSpec.ofChange stabchainFactorsWrong)

/-- 'quadformlaw17.StabchainStabilizers': WHATEVER THE INPUT: true; the input reads as it did. -/
def stabchainStabilizersSpec : ChangeSpec := { name := "stabchainStabilizers", fn := fun _ => fun
  | [d1, d2] => { results := [.lit (.bool true)], args := [d1, d2] }
  | _ => none }
def stabchainStabilizersRow : OpenClaim := { program := "ythhfjagnmhhapaa", sum := "66d4a94072e2d967e242c1a13a95f1e073f5743774fbb7570eab3d6dd3b52c0d", func := "quadform/quadformlaw17.StabchainStabilizers", spec := "stabchainStabilizers", unfollowed := true, recurses := true, apart := false }
def StabchainStabilizersSaid : Prop := stabchainStabilizersRow.holds Try.pinned (OpenSpec.ofChange stabchainStabilizersSpec)

/-- ITS FALSE NEIGHBOUR: 'it returns false'. Refute it at one input. -/
def stabchainStabilizersWrong : ChangeSpec := { name := "stabchainStabilizers", fn := fun _ => fun
  | [d1, d2] => { results := [.lit (.bool false)], args := [d1, d2] }
  | _ => none }
def StabchainStabilizersWrongFalsely : Prop := stabchainStabilizersRow.holds Try.pinned (OpenSpec.ofChange stabchainStabilizersWrong)

/-- 'quadformlaw17.StabchainVerifies': WHATEVER THE INPUT: true; the input reads as it did. -/
def stabchainVerifiesSpec : ChangeSpec := { name := "stabchainVerifies", fn := fun _ => fun
  | [d1, d2, d3, d4] => { results := [.lit (.bool true)], args := [d1, d2, d3, d4] }
  | _ => none }
def stabchainVerifiesRow : OpenClaim := { program := "ythhfjagnmhhapaa", sum := "66d4a94072e2d967e242c1a13a95f1e073f5743774fbb7570eab3d6dd3b52c0d", func := "quadform/quadformlaw17.StabchainVerifies", spec := "stabchainVerifies", unfollowed := true, recurses := true, apart := false }
def StabchainVerifiesSaid : Prop := stabchainVerifiesRow.holds Try.pinned (OpenSpec.ofChange stabchainVerifiesSpec)

/-- ITS FALSE NEIGHBOUR: 'it returns false'. Refute it at one input. -/
def stabchainVerifiesWrong : ChangeSpec := { name := "stabchainVerifies", fn := fun _ => fun
  | [d1, d2, d3, d4] => { results := [.lit (.bool false)], args := [d1, d2, d3, d4] }
  | _ => none }
def StabchainVerifiesWrongFalsely : Prop := stabchainVerifiesRow.holds Try.pinned (OpenSpec.ofChange stabchainVerifiesWrong)

/-- 'quadformlaw17.StabchainOrbit': WHATEVER THE INPUT: true; the input reads as it did. -/
def stabchainOrbitSpec : ChangeSpec := { name := "stabchainOrbit", fn := fun _ => fun
  | [d1, d2] => { results := [.lit (.bool true)], args := [d1, d2] }
  | _ => none }
def stabchainOrbitRow : OpenClaim := { program := "ythhfjagnmhhapaa", sum := "66d4a94072e2d967e242c1a13a95f1e073f5743774fbb7570eab3d6dd3b52c0d", func := "quadform/quadformlaw17.StabchainOrbit", spec := "stabchainOrbit", unfollowed := true, recurses := true, apart := false }
def StabchainOrbitSaid : Prop := stabchainOrbitRow.holds Try.pinned (OpenSpec.ofChange stabchainOrbitSpec)

/-- ITS FALSE NEIGHBOUR: 'it returns false'. Refute it at one input. -/
def stabchainOrbitWrong : ChangeSpec := { name := "stabchainOrbit", fn := fun _ => fun
  | [d1, d2] => { results := [.lit (.bool false)], args := [d1, d2] }
  | _ => none }
def StabchainOrbitWrongFalsely : Prop := stabchainOrbitRow.holds Try.pinned (OpenSpec.ofChange stabchainOrbitWrong)

/-- 'quadformlaw17.StabchainBuilds': WHATEVER THE INPUT: true; the input reads as it did. -/
def stabchainBuildsSpec : ChangeSpec := { name := "stabchainBuilds", fn := fun _ => fun
  | [d] => { results := [.lit (.bool true)], args := [d] }
  | _ => none }
def stabchainBuildsRow : OpenClaim := { program := "ythhfjagnmhhapaa", sum := "66d4a94072e2d967e242c1a13a95f1e073f5743774fbb7570eab3d6dd3b52c0d", func := "quadform/quadformlaw17.StabchainBuilds", spec := "stabchainBuilds", unfollowed := true, recurses := true, apart := false }
def StabchainBuildsSaid : Prop := stabchainBuildsRow.holds Try.pinned (OpenSpec.ofChange stabchainBuildsSpec)

/-- ITS FALSE NEIGHBOUR: 'it returns false'. Refute it at one input. -/
def stabchainBuildsWrong : ChangeSpec := { name := "stabchainBuilds", fn := fun _ => fun
  | [d] => { results := [.lit (.bool false)], args := [d] }
  | _ => none }
def StabchainBuildsWrongFalsely : Prop := stabchainBuildsRow.holds Try.pinned (OpenSpec.ofChange stabchainBuildsWrong)

/-- 'quadformlaw17.StabchainErrors': WHATEVER THE INPUT: true; the input reads as it did. -/
def stabchainErrorsSpec : ChangeSpec := { name := "stabchainErrors", fn := fun _ => fun
  | [d1, d2, d3, d4, d5, d6] => { results := [.lit (.bool true)], args := [d1, d2, d3, d4, d5, d6] }
  | _ => none }
def stabchainErrorsRow : OpenClaim := { program := "ythhfjagnmhhapaa", sum := "66d4a94072e2d967e242c1a13a95f1e073f5743774fbb7570eab3d6dd3b52c0d", func := "quadform/quadformlaw17.StabchainErrors", spec := "stabchainErrors", unfollowed := true, recurses := true, apart := false }
def StabchainErrorsSaid : Prop := stabchainErrorsRow.holds Try.pinned (OpenSpec.ofChange stabchainErrorsSpec)

/-- ITS FALSE NEIGHBOUR: 'it returns false'. Refute it at one input. -/
def stabchainErrorsWrong : ChangeSpec := { name := "stabchainErrors", fn := fun _ => fun
  | [d1, d2, d3, d4, d5, d6] => { results := [.lit (.bool false)], args := [d1, d2, d3, d4, d5, d6] }
  | _ => none }
def StabchainErrorsWrongFalsely : Prop := stabchainErrorsRow.holds Try.pinned (OpenSpec.ofChange stabchainErrorsWrong)

/-- 'quadformlaw17.StabchainCloses': WHATEVER THE INPUT: true; the input reads as it did. -/
def stabchainClosesSpec : ChangeSpec := { name := "stabchainCloses", fn := fun _ => fun
  | [d] => { results := [.lit (.bool true)], args := [d] }
  | _ => none }
def stabchainClosesRow : OpenClaim := { program := "ythhfjagnmhhapaa", sum := "66d4a94072e2d967e242c1a13a95f1e073f5743774fbb7570eab3d6dd3b52c0d", func := "quadform/quadformlaw17.StabchainCloses", spec := "stabchainCloses", unfollowed := true, recurses := true, apart := false }
def StabchainClosesSaid : Prop := stabchainClosesRow.holds Try.pinned (OpenSpec.ofChange stabchainClosesSpec)

/-- ITS FALSE NEIGHBOUR: 'it returns false'. Refute it at one input. -/
def stabchainClosesWrong : ChangeSpec := { name := "stabchainCloses", fn := fun _ => fun
  | [d] => { results := [.lit (.bool false)], args := [d] }
  | _ => none }
def StabchainClosesWrongFalsely : Prop := stabchainClosesRow.holds Try.pinned (OpenSpec.ofChange stabchainClosesWrong)

/- THE SECOND FORM. 'bulk': how many values and letters a reading holds, each counted each time it is reached (what is shared counts as often as it is met; a slice's spare places count too). A statement '..UptoSaid' is the law's where the arguments, and the package variables that the reading takes, are together of bulk at most 1048576: NARROWER than '..Said'. Prove '..Said' where nothing that the law and all that it calls make is longer than what came in: it says more and counts as full. Else prove '..UptoSaid'. A law counts once. -/
mutual
def uptoBulk {H : Type} : DataW H → Nat
  | .lit (.string bytes) => bytes.length + 1
  | .lit _ => 1
  | .nil => 1
  | .ptr d => uptoBulk d + 1
  | .slice elems spare => uptoBulkAll elems + uptoBulkAll spare + 1
  | .agg parts => uptoBulkAll parts + 1
  | .iface _ d => uptoBulk d + 1
  | .map entries => uptoBulkEntries entries + 1
  | .held _ => 1
def uptoBulkAll {H : Type} : List (DataW H) → Nat
  | [] => 0
  | d :: r => uptoBulk d + uptoBulkAll r
def uptoBulkEntries {H : Type} : List (Lit × DataW H) → Nat
  | [] => 0
  | x :: r => uptoBulkEntry x + uptoBulkEntries r
def uptoBulkEntry {H : Type} : Lit × DataW H → Nat
  | (.string bytes, d) => bytes.length + uptoBulk d + 1
  | (_, d) => uptoBulk d + 1
 end
def uptoSmall : (H : Type) → List (DataW H) → Bool := fun _ ds => decide (uptoBulkAll ds ≤ 1048576)
def OpenSpec.upto (s : _root_.Go.ChangeSpec) : _root_.Go.OpenSpec := { _root_.Go.OpenSpec.ofChange s with cond := some uptoSmall }

/-- 'quadformlaw17.StabchainSymmetric', WHERE WHAT IT READS IS OF BULK AT MOST 1048576: true; the input reads as it did. -/
def stabchainSymmetricUptoRow : OpenClaim := { program := "ythhfjagnmhhapaa", sum := "66d4a94072e2d967e242c1a13a95f1e073f5743774fbb7570eab3d6dd3b52c0d", func := "quadform/quadformlaw17.StabchainSymmetric", spec := "stabchainSymmetric", unfollowed := true, recurses := true, apart := false, narrowed := true }
def StabchainSymmetricUptoSaid : Prop := stabchainSymmetricUptoRow.holds Try.pinned (OpenSpec.upto stabchainSymmetricSpec)

/-- 'quadformlaw17.StabchainOrders', WHERE WHAT IT READS IS OF BULK AT MOST 1048576: true; the input reads as it did. -/
def stabchainOrdersUptoRow : OpenClaim := { program := "ythhfjagnmhhapaa", sum := "66d4a94072e2d967e242c1a13a95f1e073f5743774fbb7570eab3d6dd3b52c0d", func := "quadform/quadformlaw17.StabchainOrders", spec := "stabchainOrders", unfollowed := true, recurses := true, apart := false, narrowed := true }
def StabchainOrdersUptoSaid : Prop := stabchainOrdersUptoRow.holds Try.pinned (OpenSpec.upto stabchainOrdersSpec)

/-- 'quadformlaw17.StabchainContains', WHERE WHAT IT READS IS OF BULK AT MOST 1048576: true; the input reads as it did. -/
def stabchainContainsUptoRow : OpenClaim := { program := "ythhfjagnmhhapaa", sum := "66d4a94072e2d967e242c1a13a95f1e073f5743774fbb7570eab3d6dd3b52c0d", func := "quadform/quadformlaw17.StabchainContains", spec := "stabchainContains", unfollowed := true, recurses := true, apart := false, narrowed := true }
def StabchainContainsUptoSaid : Prop := stabchainContainsUptoRow.holds Try.pinned (OpenSpec.upto stabchainContainsSpec)

/-- 'quadformlaw17.StabchainProducts', WHERE WHAT IT READS IS OF BULK AT MOST 1048576: true; the input reads as it did. -/
def stabchainProductsUptoRow : OpenClaim := { program := "ythhfjagnmhhapaa", sum := "66d4a94072e2d967e242c1a13a95f1e073f5743774fbb7570eab3d6dd3b52c0d", func := "quadform/quadformlaw17.StabchainProducts", spec := "stabchainProducts", unfollowed := true, recurses := true, apart := false, narrowed := true }
def StabchainProductsUptoSaid : Prop := stabchainProductsUptoRow.holds Try.pinned (OpenSpec.upto stabchainProductsSpec)

/-- 'quadformlaw17.StabchainLengths', WHERE WHAT IT READS IS OF BULK AT MOST 1048576: true; the input reads as it did. -/
def stabchainLengthsUptoRow : OpenClaim := { program := "ythhfjagnmhhapaa", sum := "66d4a94072e2d967e242c1a13a95f1e073f5743774fbb7570eab3d6dd3b52c0d", func := "quadform/quadformlaw17.StabchainLengths", spec := "stabchainLengths", unfollowed := true, recurses := true, apart := false, narrowed := true }
def StabchainLengthsUptoSaid : Prop := stabchainLengthsUptoRow.holds Try.pinned (OpenSpec.upto stabchainLengthsSpec)

/-- 'quadformlaw17.StabchainFactors', WHERE WHAT IT READS IS OF BULK AT MOST 1048576: true; the input reads as it did. -/
def stabchainFactorsUptoRow : OpenClaim := { program := "ythhfjagnmhhapaa", sum := "66d4a94072e2d967e242c1a13a95f1e073f5743774fbb7570eab3d6dd3b52c0d", func := "quadform/quadformlaw17.StabchainFactors", spec := "stabchainFactors", unfollowed := true, recurses := true, apart := false, narrowed := true }
def StabchainFactorsUptoSaid : Prop := stabchainFactorsUptoRow.holds Try.pinned (OpenSpec.upto stabchainFactorsSpec)

/-- 'quadformlaw17.StabchainStabilizers', WHERE WHAT IT READS IS OF BULK AT MOST 1048576: true; the input reads as it did. -/
def stabchainStabilizersUptoRow : OpenClaim := { program := "ythhfjagnmhhapaa", sum := "66d4a94072e2d967e242c1a13a95f1e073f5743774fbb7570eab3d6dd3b52c0d", func := "quadform/quadformlaw17.StabchainStabilizers", spec := "stabchainStabilizers", unfollowed := true, recurses := true, apart := false, narrowed := true }
def StabchainStabilizersUptoSaid : Prop := stabchainStabilizersUptoRow.holds Try.pinned (OpenSpec.upto stabchainStabilizersSpec)

/-- 'quadformlaw17.StabchainVerifies', WHERE WHAT IT READS IS OF BULK AT MOST 1048576: true; the input reads as it did. -/
def stabchainVerifiesUptoRow : OpenClaim := { program := "ythhfjagnmhhapaa", sum := "66d4a94072e2d967e242c1a13a95f1e073f5743774fbb7570eab3d6dd3b52c0d", func := "quadform/quadformlaw17.StabchainVerifies", spec := "stabchainVerifies", unfollowed := true, recurses := true, apart := false, narrowed := true }
def StabchainVerifiesUptoSaid : Prop := stabchainVerifiesUptoRow.holds Try.pinned (OpenSpec.upto stabchainVerifiesSpec)

/-- 'quadformlaw17.StabchainOrbit', WHERE WHAT IT READS IS OF BULK AT MOST 1048576: true; the input reads as it did. -/
def stabchainOrbitUptoRow : OpenClaim := { program := "ythhfjagnmhhapaa", sum := "66d4a94072e2d967e242c1a13a95f1e073f5743774fbb7570eab3d6dd3b52c0d", func := "quadform/quadformlaw17.StabchainOrbit", spec := "stabchainOrbit", unfollowed := true, recurses := true, apart := false, narrowed := true }
def StabchainOrbitUptoSaid : Prop := stabchainOrbitUptoRow.holds Try.pinned (OpenSpec.upto stabchainOrbitSpec)

/-- 'quadformlaw17.StabchainBuilds', WHERE WHAT IT READS IS OF BULK AT MOST 1048576: true; the input reads as it did. -/
def stabchainBuildsUptoRow : OpenClaim := { program := "ythhfjagnmhhapaa", sum := "66d4a94072e2d967e242c1a13a95f1e073f5743774fbb7570eab3d6dd3b52c0d", func := "quadform/quadformlaw17.StabchainBuilds", spec := "stabchainBuilds", unfollowed := true, recurses := true, apart := false, narrowed := true }
def StabchainBuildsUptoSaid : Prop := stabchainBuildsUptoRow.holds Try.pinned (OpenSpec.upto stabchainBuildsSpec)

/-- 'quadformlaw17.StabchainErrors', WHERE WHAT IT READS IS OF BULK AT MOST 1048576: true; the input reads as it did. -/
def stabchainErrorsUptoRow : OpenClaim := { program := "ythhfjagnmhhapaa", sum := "66d4a94072e2d967e242c1a13a95f1e073f5743774fbb7570eab3d6dd3b52c0d", func := "quadform/quadformlaw17.StabchainErrors", spec := "stabchainErrors", unfollowed := true, recurses := true, apart := false, narrowed := true }
def StabchainErrorsUptoSaid : Prop := stabchainErrorsUptoRow.holds Try.pinned (OpenSpec.upto stabchainErrorsSpec)

/-- 'quadformlaw17.StabchainCloses', WHERE WHAT IT READS IS OF BULK AT MOST 1048576: true; the input reads as it did. -/
def stabchainClosesUptoRow : OpenClaim := { program := "ythhfjagnmhhapaa", sum := "66d4a94072e2d967e242c1a13a95f1e073f5743774fbb7570eab3d6dd3b52c0d", func := "quadform/quadformlaw17.StabchainCloses", spec := "stabchainCloses", unfollowed := true, recurses := true, apart := false, narrowed := true }
def StabchainClosesUptoSaid : Prop := stabchainClosesUptoRow.holds Try.pinned (OpenSpec.upto stabchainClosesSpec)

end Rows
end Go.Proofs.Ythhfjagnmhhapaa
