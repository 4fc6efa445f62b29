/-
  No cell of these rows narrows 'for every input' (looked for: loops, veiled, ifaces, maps, wideKeys, modest, calm, conditions, laid).
  DERIVED. THE GIVEN ROWS OF THIS SEAT. 10 by the template 'for every input the law returns true; each argument reads behind the call as it read before'; 0 by the template 'total and deterministic' (their statements: YtiejljicpinheaaGreatTotals.lean).
  GIVEN WITH THE SEED: the statements are not yours to turn. If you find one false, say at which input.
  Laid BY PROGRAM, IN A SANDBOX (cutbox-rows.mjs): the forced cells as the released guide's own fill.sh prints them over the translation 7613dde503c19275… (all of the seat's roots in one cut). By AI agents, Wed Nov 11 2026. No macro, syntax, notation, axiom, sorry.
-/
import Derived.Test.YtiejljicpinheaaGreatChecked
import GoSem.Claim
import GoSem.ClaimJoined
import GoSem.ClaimMapViews
import Derived.JoinedTies
import Derived.KernelRfl
namespace Go.Proofs.YtiejljicpinheaaGreat
/- THE CELL 'sum', in the pinned program and in every row, IS THE sha256 OF THE DUMP (.gsa) THAT YtiejljicpinheaaGreatProg.lean LOADS. Nothing in Lean hashes anything: it is a label: what it is worth is what the hold of that sum in a sandbox is worth. -/
noncomputable def Tryz.pinned : Pinned := { name := "ytiejljicpinheaagreat", sum := "7613dde503c19275854642824f364502868c0089c01805640720c8b3480c8ae9", checked := Tryz.checked }
namespace Rows
def none {H : Type} : Left H := { results := [], args := [] }

/-- 'quadformlaw05.HermiteForms': WHATEVER THE INPUT: true; the input reads as it did. -/
def hermiteFormsSpec : ChangeSpec := { name := "hermiteForms", fn := fun _ => fun
  | [d] => { results := [.lit (.bool true)], args := [d] }
  | _ => none }
def hermiteFormsRow : OpenClaim := { program := "ytiejljicpinheaagreat", sum := "7613dde503c19275854642824f364502868c0089c01805640720c8b3480c8ae9", func := "quadform/quadformlaw05.HermiteForms", spec := "hermiteForms", unfollowed := true, recurses := true, apart := false }
def HermiteFormsSaid : Prop := hermiteFormsRow.holds Tryz.pinned (OpenSpec.ofChange hermiteFormsSpec)

/-- ITS FALSE NEIGHBOUR: 'it returns false'. Refute it at one input. -/
def hermiteFormsWrong : ChangeSpec := { name := "hermiteForms", fn := fun _ => fun
  | [d] => { results := [.lit (.bool false)], args := [d] }
  | _ => none }
def HermiteFormsWrongFalsely : Prop := hermiteFormsRow.holds Tryz.pinned (OpenSpec.ofChange hermiteFormsWrong)

/-- 'quadformlaw05.HermiteAny': WHATEVER THE INPUT: true; the input reads as it did. -/
def hermiteAnySpec : ChangeSpec := { name := "hermiteAny", fn := fun _ => fun
  | [d] => { results := [.lit (.bool true)], args := [d] }
  | _ => none }
def hermiteAnyRow : OpenClaim := { program := "ytiejljicpinheaagreat", sum := "7613dde503c19275854642824f364502868c0089c01805640720c8b3480c8ae9", func := "quadform/quadformlaw05.HermiteAny", spec := "hermiteAny", unfollowed := true, recurses := true, apart := false }
def HermiteAnySaid : Prop := hermiteAnyRow.holds Tryz.pinned (OpenSpec.ofChange hermiteAnySpec)

/-- ITS FALSE NEIGHBOUR: 'it returns false'. Refute it at one input. -/
def hermiteAnyWrong : ChangeSpec := { name := "hermiteAny", fn := fun _ => fun
  | [d] => { results := [.lit (.bool false)], args := [d] }
  | _ => none }
def HermiteAnyWrongFalsely : Prop := hermiteAnyRow.holds Tryz.pinned (OpenSpec.ofChange hermiteAnyWrong)

/-- 'quadformlaw05.HermiteWide': WHATEVER THE INPUT: true; the input reads as it did. -/
def hermiteWideSpec : ChangeSpec := { name := "hermiteWide", fn := fun _ => fun
  | [d1, d2] => { results := [.lit (.bool true)], args := [d1, d2] }
  | _ => none }
def hermiteWideRow : OpenClaim := { program := "ytiejljicpinheaagreat", sum := "7613dde503c19275854642824f364502868c0089c01805640720c8b3480c8ae9", func := "quadform/quadformlaw05.HermiteWide", spec := "hermiteWide", unfollowed := true, recurses := true, apart := false }
def HermiteWideSaid : Prop := hermiteWideRow.holds Tryz.pinned (OpenSpec.ofChange hermiteWideSpec)

/-- ITS FALSE NEIGHBOUR: 'it returns false'. Refute it at one input. -/
def hermiteWideWrong : ChangeSpec := { name := "hermiteWide", fn := fun _ => fun
  | [d1, d2] => { results := [.lit (.bool false)], args := [d1, d2] }
  | _ => none }
def HermiteWideWrongFalsely : Prop := hermiteWideRow.holds Tryz.pinned (OpenSpec.ofChange hermiteWideWrong)

/-- 'quadformlaw05.HermiteKernel': WHATEVER THE INPUT: true; the input reads as it did. -/
def hermiteKernelSpec : ChangeSpec := { name := "hermiteKernel", fn := fun _ => fun
  | [d1, d2] => { results := [.lit (.bool true)], args := [d1, d2] }
  | _ => none }
def hermiteKernelRow : OpenClaim := { program := "ytiejljicpinheaagreat", sum := "7613dde503c19275854642824f364502868c0089c01805640720c8b3480c8ae9", func := "quadform/quadformlaw05.HermiteKernel", spec := "hermiteKernel", unfollowed := true, recurses := true, apart := false }
def HermiteKernelSaid : Prop := hermiteKernelRow.holds Tryz.pinned (OpenSpec.ofChange hermiteKernelSpec)

/-- ITS FALSE NEIGHBOUR: 'it returns false'. Refute it at one input. -/
def hermiteKernelWrong : ChangeSpec := { name := "hermiteKernel", fn := fun _ => fun
  | [d1, d2] => { results := [.lit (.bool false)], args := [d1, d2] }
  | _ => none }
def HermiteKernelWrongFalsely : Prop := hermiteKernelRow.holds Tryz.pinned (OpenSpec.ofChange hermiteKernelWrong)

/-- 'quadformlaw05.HermiteSolutions': WHATEVER THE INPUT: true; the input reads as it did. -/
def hermiteSolutionsSpec : ChangeSpec := { name := "hermiteSolutions", fn := fun _ => fun
  | [d1, d2] => { results := [.lit (.bool true)], args := [d1, d2] }
  | _ => none }
def hermiteSolutionsRow : OpenClaim := { program := "ytiejljicpinheaagreat", sum := "7613dde503c19275854642824f364502868c0089c01805640720c8b3480c8ae9", func := "quadform/quadformlaw05.HermiteSolutions", spec := "hermiteSolutions", unfollowed := true, recurses := true, apart := false }
def HermiteSolutionsSaid : Prop := hermiteSolutionsRow.holds Tryz.pinned (OpenSpec.ofChange hermiteSolutionsSpec)

/-- ITS FALSE NEIGHBOUR: 'it returns false'. Refute it at one input. -/
def hermiteSolutionsWrong : ChangeSpec := { name := "hermiteSolutions", fn := fun _ => fun
  | [d1, d2] => { results := [.lit (.bool false)], args := [d1, d2] }
  | _ => none }
def HermiteSolutionsWrongFalsely : Prop := hermiteSolutionsRow.holds Tryz.pinned (OpenSpec.ofChange hermiteSolutionsWrong)

/-- 'quadformlaw05.HermiteExtends': WHATEVER THE INPUT: true; the input reads as it did. -/
def hermiteExtendsSpec : ChangeSpec := { name := "hermiteExtends", fn := fun _ => fun
  | [d1, d2, d3, d4] => { results := [.lit (.bool true)], args := [d1, d2, d3, d4] }
  | _ => none }
def hermiteExtendsRow : OpenClaim := { program := "ytiejljicpinheaagreat", sum := "7613dde503c19275854642824f364502868c0089c01805640720c8b3480c8ae9", func := "quadform/quadformlaw05.HermiteExtends", spec := "hermiteExtends", unfollowed := true, recurses := true, apart := false }
def HermiteExtendsSaid : Prop := hermiteExtendsRow.holds Tryz.pinned (OpenSpec.ofChange hermiteExtendsSpec)

/-- ITS FALSE NEIGHBOUR: 'it returns false'. Refute it at one input. -/
def hermiteExtendsWrong : ChangeSpec := { name := "hermiteExtends", fn := fun _ => fun
  | [d1, d2, d3, d4] => { results := [.lit (.bool false)], args := [d1, d2, d3, d4] }
  | _ => none }
def HermiteExtendsWrongFalsely : Prop := hermiteExtendsRow.holds Tryz.pinned (OpenSpec.ofChange hermiteExtendsWrong)

/-- 'quadformlaw05.HermiteIsForm': WHATEVER THE INPUT: true; the input reads as it did. -/
def hermiteIsFormSpec : ChangeSpec := { name := "hermiteIsForm", fn := fun _ => fun
  | [d1, d2, d3, d4] => { results := [.lit (.bool true)], args := [d1, d2, d3, d4] }
  | _ => none }
def hermiteIsFormRow : OpenClaim := { program := "ytiejljicpinheaagreat", sum := "7613dde503c19275854642824f364502868c0089c01805640720c8b3480c8ae9", func := "quadform/quadformlaw05.HermiteIsForm", spec := "hermiteIsForm", unfollowed := true, recurses := true, apart := false }
def HermiteIsFormSaid : Prop := hermiteIsFormRow.holds Tryz.pinned (OpenSpec.ofChange hermiteIsFormSpec)

/-- ITS FALSE NEIGHBOUR: 'it returns false'. Refute it at one input. -/
def hermiteIsFormWrong : ChangeSpec := { name := "hermiteIsForm", fn := fun _ => fun
  | [d1, d2, d3, d4] => { results := [.lit (.bool false)], args := [d1, d2, d3, d4] }
  | _ => none }
def HermiteIsFormWrongFalsely : Prop := hermiteIsFormRow.holds Tryz.pinned (OpenSpec.ofChange hermiteIsFormWrong)

/-- 'quadformlaw05.HermiteIndex': WHATEVER THE INPUT: true; the input reads as it did. -/
def hermiteIndexSpec : ChangeSpec := { name := "hermiteIndex", fn := fun _ => fun
  | [d1, d2] => { results := [.lit (.bool true)], args := [d1, d2] }
  | _ => none }
def hermiteIndexRow : OpenClaim := { program := "ytiejljicpinheaagreat", sum := "7613dde503c19275854642824f364502868c0089c01805640720c8b3480c8ae9", func := "quadform/quadformlaw05.HermiteIndex", spec := "hermiteIndex", unfollowed := true, recurses := true, apart := false }
def HermiteIndexSaid : Prop := hermiteIndexRow.holds Tryz.pinned (OpenSpec.ofChange hermiteIndexSpec)

/-- ITS FALSE NEIGHBOUR: 'it returns false'. Refute it at one input. -/
def hermiteIndexWrong : ChangeSpec := { name := "hermiteIndex", fn := fun _ => fun
  | [d1, d2] => { results := [.lit (.bool false)], args := [d1, d2] }
  | _ => none }
def HermiteIndexWrongFalsely : Prop := hermiteIndexRow.holds Tryz.pinned (OpenSpec.ofChange hermiteIndexWrong)

/-- 'quadformlaw05.HermiteContains': WHATEVER THE INPUT: true; the input reads as it did. -/
def hermiteContainsSpec : ChangeSpec := { name := "hermiteContains", fn := fun _ => fun
  | [d1, d2, d3, d4] => { results := [.lit (.bool true)], args := [d1, d2, d3, d4] }
  | _ => none }
def hermiteContainsRow : OpenClaim := { program := "ytiejljicpinheaagreat", sum := "7613dde503c19275854642824f364502868c0089c01805640720c8b3480c8ae9", func := "quadform/quadformlaw05.HermiteContains", spec := "hermiteContains", unfollowed := true, recurses := true, apart := false }
def HermiteContainsSaid : Prop := hermiteContainsRow.holds Tryz.pinned (OpenSpec.ofChange hermiteContainsSpec)

/-- ITS FALSE NEIGHBOUR: 'it returns false'. Refute it at one input. -/
def hermiteContainsWrong : ChangeSpec := { name := "hermiteContains", fn := fun _ => fun
  | [d1, d2, d3, d4] => { results := [.lit (.bool false)], args := [d1, d2, d3, d4] }
  | _ => none }
def HermiteContainsWrongFalsely : Prop := hermiteContainsRow.holds Tryz.pinned (OpenSpec.ofChange hermiteContainsWrong)

/-- 'quadformlaw05.HermiteSame': WHATEVER THE INPUT: true; the input reads as it did. -/
def hermiteSameSpec : ChangeSpec := { name := "hermiteSame", fn := fun _ => fun
  | [d1, d2, d3, d4, d5] => { results := [.lit (.bool true)], args := [d1, d2, d3, d4, d5] }
  | _ => none }
def hermiteSameRow : OpenClaim := { program := "ytiejljicpinheaagreat", sum := "7613dde503c19275854642824f364502868c0089c01805640720c8b3480c8ae9", func := "quadform/quadformlaw05.HermiteSame", spec := "hermiteSame", unfollowed := true, recurses := true, apart := false }
def HermiteSameSaid : Prop := hermiteSameRow.holds Tryz.pinned (OpenSpec.ofChange hermiteSameSpec)

/-- ITS FALSE NEIGHBOUR: 'it returns false'. Refute it at one input. -/
def hermiteSameWrong : ChangeSpec := { name := "hermiteSame", fn := fun _ => fun
  | [d1, d2, d3, d4, d5] => { results := [.lit (.bool false)], args := [d1, d2, d3, d4, d5] }
  | _ => none }
def HermiteSameWrongFalsely : Prop := hermiteSameRow.holds Tryz.pinned (OpenSpec.ofChange hermiteSameWrong)

/- THE SECOND FORM. 'bulk': how many values and letters a reading holds, each counted each time it is reached (what is shared counts as often as it is met; a slice's spare places count too). A statement '..UptoSaid' is the law's where the arguments, and the package variables that the reading takes, are together of bulk at most 1048576: NARROWER than '..Said'. Prove '..Said' where nothing that the law and all that it calls make is longer than what came in: it says more and counts as full. Else prove '..UptoSaid'. A law counts once. -/
mutual
def uptoBulk {H : Type} : DataW H → Nat
  | .lit (.string bytes) => bytes.length + 1
  | .lit _ => 1
  | .nil => 1
  | .ptr d => uptoBulk d + 1
  | .slice elems spare => uptoBulkAll elems + uptoBulkAll spare + 1
  | .agg parts => uptoBulkAll parts + 1
  | .iface _ d => uptoBulk d + 1
  | .map entries => uptoBulkEntries entries + 1
  | .held _ => 1
def uptoBulkAll {H : Type} : List (DataW H) → Nat
  | [] => 0
  | d :: r => uptoBulk d + uptoBulkAll r
def uptoBulkEntries {H : Type} : List (Lit × DataW H) → Nat
  | [] => 0
  | x :: r => uptoBulkEntry x + uptoBulkEntries r
def uptoBulkEntry {H : Type} : Lit × DataW H → Nat
  | (.string bytes, d) => bytes.length + uptoBulk d + 1
  | (_, d) => uptoBulk d + 1
 end
def uptoSmall : (H : Type) → List (DataW H) → Bool := fun _ ds => decide (uptoBulkAll ds ≤ 1048576)
def OpenSpec.upto (s : _root_.Go.ChangeSpec) : _root_.Go.OpenSpec := { _root_.Go.OpenSpec.ofChange s with cond := some uptoSmall }

/-- 'quadformlaw05.HermiteForms', WHERE WHAT IT READS IS OF BULK AT MOST 1048576: true; the input reads as it did. -/
def hermiteFormsUptoRow : OpenClaim := { program := "ytiejljicpinheaagreat", sum := "7613dde503c19275854642824f364502868c0089c01805640720c8b3480c8ae9", func := "quadform/quadformlaw05.HermiteForms", spec := "hermiteForms", unfollowed := true, recurses := true, apart := false, narrowed := true }
def HermiteFormsUptoSaid : Prop := hermiteFormsUptoRow.holds Tryz.pinned (OpenSpec.upto hermiteFormsSpec)

/-- 'quadformlaw05.HermiteAny', WHERE WHAT IT READS IS OF BULK AT MOST 1048576: true; the input reads as it did. -/
def hermiteAnyUptoRow : OpenClaim := { program := "ytiejljicpinheaagreat", sum := "7613dde503c19275854642824f364502868c0089c01805640720c8b3480c8ae9", func := "quadform/quadformlaw05.HermiteAny", spec := "hermiteAny", unfollowed := true, recurses := true, apart := false, narrowed := true }
def HermiteAnyUptoSaid : Prop := hermiteAnyUptoRow.holds Tryz.pinned (OpenSpec.upto hermiteAnySpec)

/-- 'quadformlaw05.HermiteWide', WHERE WHAT IT READS IS OF BULK AT MOST 1048576: true; the input reads as it did. -/
def hermiteWideUptoRow : OpenClaim := { program := "ytiejljicpinheaagreat", sum := "7613dde503c19275854642824f364502868c0089c01805640720c8b3480c8ae9", func := "quadform/quadformlaw05.HermiteWide", spec := "hermiteWide", unfollowed := true, recurses := true, apart := false, narrowed := true }
def HermiteWideUptoSaid : Prop := hermiteWideUptoRow.holds Tryz.pinned (OpenSpec.upto hermiteWideSpec)

/-- 'quadformlaw05.HermiteKernel', WHERE WHAT IT READS IS OF BULK AT MOST 1048576: true; the input reads as it did. -/
def hermiteKernelUptoRow : OpenClaim := { program := "ytiejljicpinheaagreat", sum := "7613dde503c19275854642824f364502868c0089c01805640720c8b3480c8ae9", func := "quadform/quadformlaw05.HermiteKernel", spec := "hermiteKernel", unfollowed := true, recurses := true, apart := false, narrowed := true }
def HermiteKernelUptoSaid : Prop := hermiteKernelUptoRow.holds Tryz.pinned (OpenSpec.upto hermiteKernelSpec)

/-- 'quadformlaw05.HermiteSolutions', WHERE WHAT IT READS IS OF BULK AT MOST 1048576: true; the input reads as it did. -/
def hermiteSolutionsUptoRow : OpenClaim := { program := "ytiejljicpinheaagreat", sum := "7613dde503c19275854642824f364502868c0089c01805640720c8b3480c8ae9", func := "quadform/quadformlaw05.HermiteSolutions", spec := "hermiteSolutions", unfollowed := true, recurses := true, apart := false, narrowed := true }
def HermiteSolutionsUptoSaid : Prop := hermiteSolutionsUptoRow.holds Tryz.pinned (OpenSpec.upto hermiteSolutionsSpec)

/-- 'quadformlaw05.HermiteExtends', WHERE WHAT IT READS IS OF BULK AT MOST 1048576: true; the input reads as it did. -/
def hermiteExtendsUptoRow : OpenClaim := { program := "ytiejljicpinheaagreat", sum := "7613dde503c19275854642824f364502868c0089c01805640720c8b3480c8ae9", func := "quadform/quadformlaw05.HermiteExtends", spec := "hermiteExtends", unfollowed := true, recurses := true, apart := false, narrowed := true }
def HermiteExtendsUptoSaid : Prop := hermiteExtendsUptoRow.holds Tryz.pinned (OpenSpec.upto hermiteExtendsSpec)

/-- 'quadformlaw05.HermiteIsForm', WHERE WHAT IT READS IS OF BULK AT MOST 1048576: true; the input reads as it did. -/
def hermiteIsFormUptoRow : OpenClaim := { program := "ytiejljicpinheaagreat", sum := "7613dde503c19275854642824f364502868c0089c01805640720c8b3480c8ae9", func := "quadform/quadformlaw05.HermiteIsForm", spec := "hermiteIsForm", unfollowed := true, recurses := true, apart := false, narrowed := true }
def HermiteIsFormUptoSaid : Prop := hermiteIsFormUptoRow.holds Tryz.pinned (OpenSpec.upto hermiteIsFormSpec)

/-- 'quadformlaw05.HermiteIndex', WHERE WHAT IT READS IS OF BULK AT MOST 1048576: true; the input reads as it did. -/
def hermiteIndexUptoRow : OpenClaim := { program := "ytiejljicpinheaagreat", sum := "7613dde503c19275854642824f364502868c0089c01805640720c8b3480c8ae9", func := "quadform/quadformlaw05.HermiteIndex", spec := "hermiteIndex", unfollowed := true, recurses := true, apart := false, narrowed := true }
def HermiteIndexUptoSaid : Prop := hermiteIndexUptoRow.holds Tryz.pinned (OpenSpec.upto hermiteIndexSpec)

/-- 'quadformlaw05.HermiteContains', WHERE WHAT IT READS IS OF BULK AT MOST 1048576: true; the input reads as it did. -/
def hermiteContainsUptoRow : OpenClaim := { program := "ytiejljicpinheaagreat", sum := "7613dde503c19275854642824f364502868c0089c01805640720c8b3480c8ae9", func := "quadform/quadformlaw05.HermiteContains", spec := "hermiteContains", unfollowed := true, recurses := true, apart := false, narrowed := true }
def HermiteContainsUptoSaid : Prop := hermiteContainsUptoRow.holds Tryz.pinned (OpenSpec.upto hermiteContainsSpec)

/-- 'quadformlaw05.HermiteSame', WHERE WHAT IT READS IS OF BULK AT MOST 1048576: true; the input reads as it did. -/
def hermiteSameUptoRow : OpenClaim := { program := "ytiejljicpinheaagreat", sum := "7613dde503c19275854642824f364502868c0089c01805640720c8b3480c8ae9", func := "quadform/quadformlaw05.HermiteSame", spec := "hermiteSame", unfollowed := true, recurses := true, apart := false, narrowed := true }
def HermiteSameUptoSaid : Prop := hermiteSameUptoRow.holds Tryz.pinned (OpenSpec.upto hermiteSameSpec)

end Rows
end Go.Proofs.YtiejljicpinheaaGreat
