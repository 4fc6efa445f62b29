/- Three groups have the orders that the statement names. No conditions. -/
import Derived.Test.YthhfjagnmhhapaaM02
import Derived.Test.YthhfjagnmhhapaaM20

namespace Go.Proofs.Ythhfjagnmhhapaa
open Go.W Go.PM Go.ChangeShapes Go.WideShapes Go.ChangeAt Go.RowKit
set_option maxRecDepth 100000 in
theorem stabchainSymmetric_lifted (os : Os) (started : os.Started) (H : Type) (enc : TypeId × Value → H) :
    ReturnsInHanded {} Try.checked os 3 .any (Rows.stabchainSymmetricSpec.pre6 enc Try.prog Try.f3 Rows.stabchainSymmetricRow.domain false) (Rows.stabchainSymmetricSpec.post enc Try.prog Try.f3 false true false false) := by
  refine returnsInHanded_of_change (C := Try.checked) Try.own started (by kernel_rfl) Try.func3
    (ChangeSpec.witness6 (enc := enc) (C := Try.checked) false ⟨#[], #[], []⟩ 8 (by kernel_rfl) (by kernel_rfl) (by kernel_rfl) (by kernel_rfl)) ?_
  intro W base args ds gs before hval0 hW _ _
  have hval : ∀ (j : Nat) t v, Try.f3.params[j]? = some t → args[j]? = some v → Value.okWide Try.prog W .any base t v := hval0
  have hW' := hW
  obtain ⟨p, q, hA0, hV, _, _, _⟩ := hW
  obtain ⟨rfl, rfl⟩ := trodVars_none hV
  have hA : DataW.TrodAll enc Try.prog W 0 (fun _ => true) true Try.f3.params.toList args.toList ds p := hA0
  rw [Try.params3] at hA hval
  obtain ⟨ha, rfl, rfl⟩ := trodAll_nil hA
  obtain rfl : args = #[] := by cases args; simp_all
  refine Calls.mono (symmetric_calls) fun e W1 ⟨v, he, hv, hE⟩ => ?_
  subst he; subst hv
  exact ⟨_, rfl, law_post (tb := 4) Try.laidOut (by kernel_rfl) (by kernel_rfl) (by kernel_rfl) rfl rfl hW' hE⟩

/-- The symmetric group of eight points, the alternating group of five points and the group of Mathieu of eleven points have 40320, 60 and 7920 elements. -/
theorem stabchainSymmetric_holds : Rows.StabchainSymmetricSaid :=
  OpenClaim.holds_of_wide 3 Try.f3 rfl rfl rfl rfl rfl rfl rfl ⟨rfl, rfl, rfl, rfl, rfl⟩ rfl rfl rfl rfl rfl (by kernel_rfl) Try.func3 (by kernel_rfl)
    (of_decide_eq_true (by kernel_rfl)) (by unfold Func.isWrapper; first | (rw [if_pos (by decide +kernel)]; kernel_rfl) | (rw [if_neg (by decide +kernel)]; exact ⟨rfl, rfl⟩))
    (fun os started H enc _ => stabchainSymmetric_lifted os started H enc)
end Go.Proofs.Ythhfjagnmhhapaa

