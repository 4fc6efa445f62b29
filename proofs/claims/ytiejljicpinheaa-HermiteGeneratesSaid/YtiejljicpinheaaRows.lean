/-
  No cell of these rows narrows 'for every input' (looked for: loops, veiled, ifaces, maps, wideKeys, modest, calm, conditions, laid).
  DERIVED. THE GIVEN ROWS OF THIS SEAT. 3 by the template 'for every input the law returns true; each argument reads behind the call as it read before'; 0 by the template 'total and deterministic' (their statements: YtiejljicpinheaaTotals.lean).
  GIVEN WITH THE SEED: the statements are not yours to turn. If you find one false, say at which input.
  Laid BY PROGRAM, IN A SANDBOX (cutbox-rows.mjs): the forced cells as the released guide's own fill.sh prints them over the translation c98effd6e65051d6… (all of the seat's roots in one cut). By AI agents, Wed Nov 11 2026. No macro, syntax, notation, axiom, sorry.
-/
import Derived.Test.YtiejljicpinheaaChecked
import GoSem.Claim
import GoSem.ClaimJoined
import GoSem.ClaimMapViews
import Derived.JoinedTies
import Derived.KernelRfl
namespace Go.Proofs.Ytiejljicpinheaa
/- THE CELL 'sum', in the pinned program and in every row, IS THE sha256 OF THE DUMP (.gsa) THAT YtiejljicpinheaaProg.lean LOADS. Nothing in Lean hashes anything: it is a label: what it is worth is what the hold of that sum in a sandbox is worth. -/
noncomputable def Try.pinned : Pinned := { name := "ytiejljicpinheaa", sum := "c98effd6e65051d6e8d140ee05c13128d185f56c294b9e45ee2180e1c72831b5", checked := Try.checked }
namespace Rows
def none {H : Type} : Left H := { results := [], args := [] }

/-- 'quadformlaw05.HermiteUnique': WHATEVER THE INPUT: true; the input reads as it did. -/
def hermiteUniqueSpec : ChangeSpec := { name := "hermiteUnique", fn := fun _ => fun
  | [d1, d2] => { results := [.lit (.bool true)], args := [d1, d2] }
  | _ => none }
def hermiteUniqueRow : OpenClaim := { program := "ytiejljicpinheaa", sum := "c98effd6e65051d6e8d140ee05c13128d185f56c294b9e45ee2180e1c72831b5", func := "quadform/quadformlaw05.HermiteUnique", spec := "hermiteUnique", unfollowed := true, recurses := true, apart := false }
def HermiteUniqueSaid : Prop := hermiteUniqueRow.holds Try.pinned (OpenSpec.ofChange hermiteUniqueSpec)

/-- ITS FALSE NEIGHBOUR: 'it returns false'. Refute it at one input. -/
def hermiteUniqueWrong : ChangeSpec := { name := "hermiteUnique", fn := fun _ => fun
  | [d1, d2] => { results := [.lit (.bool false)], args := [d1, d2] }
  | _ => none }
def HermiteUniqueWrongFalsely : Prop := hermiteUniqueRow.holds Try.pinned (OpenSpec.ofChange hermiteUniqueWrong)

/-- 'quadformlaw05.HermiteRank': WHATEVER THE INPUT: true; the input reads as it did. -/
def hermiteRankSpec : ChangeSpec := { name := "hermiteRank", fn := fun _ => fun
  | [d] => { results := [.lit (.bool true)], args := [d] }
  | _ => none }
def hermiteRankRow : OpenClaim := { program := "ytiejljicpinheaa", sum := "c98effd6e65051d6e8d140ee05c13128d185f56c294b9e45ee2180e1c72831b5", func := "quadform/quadformlaw05.HermiteRank", spec := "hermiteRank", unfollowed := true, recurses := true, apart := false }
def HermiteRankSaid : Prop := hermiteRankRow.holds Try.pinned (OpenSpec.ofChange hermiteRankSpec)

/-- ITS FALSE NEIGHBOUR: 'it returns false'. Refute it at one input. -/
def hermiteRankWrong : ChangeSpec := { name := "hermiteRank", fn := fun _ => fun
  | [d] => { results := [.lit (.bool false)], args := [d] }
  | _ => none }
def HermiteRankWrongFalsely : Prop := hermiteRankRow.holds Try.pinned (OpenSpec.ofChange hermiteRankWrong)

/-- 'quadformlaw05.HermiteGenerates': WHATEVER THE INPUT: true; the input reads as it did. -/
def hermiteGeneratesSpec : ChangeSpec := { name := "hermiteGenerates", fn := fun _ => fun
  | [d1, d2, d3] => { results := [.lit (.bool true)], args := [d1, d2, d3] }
  | _ => none }
def hermiteGeneratesRow : OpenClaim := { program := "ytiejljicpinheaa", sum := "c98effd6e65051d6e8d140ee05c13128d185f56c294b9e45ee2180e1c72831b5", func := "quadform/quadformlaw05.HermiteGenerates", spec := "hermiteGenerates", unfollowed := true, recurses := true, apart := false }
def HermiteGeneratesSaid : Prop := hermiteGeneratesRow.holds Try.pinned (OpenSpec.ofChange hermiteGeneratesSpec)

/-- ITS FALSE NEIGHBOUR: 'it returns false'. Refute it at one input. -/
def hermiteGeneratesWrong : ChangeSpec := { name := "hermiteGenerates", fn := fun _ => fun
  | [d1, d2, d3] => { results := [.lit (.bool false)], args := [d1, d2, d3] }
  | _ => none }
def HermiteGeneratesWrongFalsely : Prop := hermiteGeneratesRow.holds Try.pinned (OpenSpec.ofChange hermiteGeneratesWrong)

/- THE SECOND FORM. 'bulk': how many values and letters a reading holds, each counted each time it is reached (what is shared counts as often as it is met; a slice's spare places count too). A statement '..UptoSaid' is the law's where the arguments, and the package variables that the reading takes, are together of bulk at most 1048576: NARROWER than '..Said'. Prove '..Said' where nothing that the law and all that it calls make is longer than what came in: it says more and counts as full. Else prove '..UptoSaid'. A law counts once. -/
mutual
def uptoBulk {H : Type} : DataW H → Nat
  | .lit (.string bytes) => bytes.length + 1
  | .lit _ => 1
  | .nil => 1
  | .ptr d => uptoBulk d + 1
  | .slice elems spare => uptoBulkAll elems + uptoBulkAll spare + 1
  | .agg parts => uptoBulkAll parts + 1
  | .iface _ d => uptoBulk d + 1
  | .map entries => uptoBulkEntries entries + 1
  | .held _ => 1
def uptoBulkAll {H : Type} : List (DataW H) → Nat
  | [] => 0
  | d :: r => uptoBulk d + uptoBulkAll r
def uptoBulkEntries {H : Type} : List (Lit × DataW H) → Nat
  | [] => 0
  | x :: r => uptoBulkEntry x + uptoBulkEntries r
def uptoBulkEntry {H : Type} : Lit × DataW H → Nat
  | (.string bytes, d) => bytes.length + uptoBulk d + 1
  | (_, d) => uptoBulk d + 1
 end
def uptoSmall : (H : Type) → List (DataW H) → Bool := fun _ ds => decide (uptoBulkAll ds ≤ 1048576)
def OpenSpec.upto (s : _root_.Go.ChangeSpec) : _root_.Go.OpenSpec := { _root_.Go.OpenSpec.ofChange s with cond := some uptoSmall }

/-- 'quadformlaw05.HermiteUnique', WHERE WHAT IT READS IS OF BULK AT MOST 1048576: true; the input reads as it did. -/
def hermiteUniqueUptoRow : OpenClaim := { program := "ytiejljicpinheaa", sum := "c98effd6e65051d6e8d140ee05c13128d185f56c294b9e45ee2180e1c72831b5", func := "quadform/quadformlaw05.HermiteUnique", spec := "hermiteUnique", unfollowed := true, recurses := true, apart := false, narrowed := true }
def HermiteUniqueUptoSaid : Prop := hermiteUniqueUptoRow.holds Try.pinned (OpenSpec.upto hermiteUniqueSpec)

/-- 'quadformlaw05.HermiteRank', WHERE WHAT IT READS IS OF BULK AT MOST 1048576: true; the input reads as it did. -/
def hermiteRankUptoRow : OpenClaim := { program := "ytiejljicpinheaa", sum := "c98effd6e65051d6e8d140ee05c13128d185f56c294b9e45ee2180e1c72831b5", func := "quadform/quadformlaw05.HermiteRank", spec := "hermiteRank", unfollowed := true, recurses := true, apart := false, narrowed := true }
def HermiteRankUptoSaid : Prop := hermiteRankUptoRow.holds Try.pinned (OpenSpec.upto hermiteRankSpec)

/-- 'quadformlaw05.HermiteGenerates', WHERE WHAT IT READS IS OF BULK AT MOST 1048576: true; the input reads as it did. -/
def hermiteGeneratesUptoRow : OpenClaim := { program := "ytiejljicpinheaa", sum := "c98effd6e65051d6e8d140ee05c13128d185f56c294b9e45ee2180e1c72831b5", func := "quadform/quadformlaw05.HermiteGenerates", spec := "hermiteGenerates", unfollowed := true, recurses := true, apart := false, narrowed := true }
def HermiteGeneratesUptoSaid : Prop := hermiteGeneratesUptoRow.holds Try.pinned (OpenSpec.upto hermiteGeneratesSpec)

end Rows
end Go.Proofs.Ytiejljicpinheaa
