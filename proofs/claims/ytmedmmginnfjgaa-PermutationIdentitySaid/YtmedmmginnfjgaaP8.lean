/- The identities: the program and the reference agree for every number of points, and the limit on points is exact. No conditions. -/
import Derived.Test.YtmedmmginnfjgaaW8
namespace Go.Proofs.Ytmedmmginnfjgaa
open Go.W Go.PM Go.ChangeShapes Go.WideShapes Go.ChangeAt Go.RowKit
set_option maxRecDepth 100000 in
theorem permutationIdentity_lifted (os : Os) (started : os.Started) (H : Type) (enc : TypeId × Value → H) :
    ReturnsInHanded {} Try.checked os 10 .any (Rows.permutationIdentitySpec.pre6 enc Try.prog Try.f10 Rows.permutationIdentityRow.domain false) (Rows.permutationIdentitySpec.post enc Try.prog Try.f10 false true false false) := by
  refine returnsInHanded_of_change (C := Try.checked) Try.own started (by kernel_rfl) Try.func10
    (ChangeSpec.witness6 (enc := enc) (C := Try.checked) false ⟨#[], #[.int .i64 0], []⟩ 8 (by kernel_rfl) (by kernel_rfl) (by kernel_rfl) (by kernel_rfl)) ?_
  intro W base args ds gs before hval0 hW _ _
  have hval : ∀ (j : Nat) t v, Try.f10.params[j]? = some t → args[j]? = some v → Value.okWide Try.prog W .any base t v := hval0
  have hW' := hW
  obtain ⟨p, q, hA0, hV, _, _, _⟩ := hW
  obtain ⟨rfl, rfl⟩ := trodVars_none hV
  have hA : DataW.TrodAll enc Try.prog W 0 (fun _ => true) true Try.f10.params.toList args.toList ds p := hA0
  rw [Try.params10] at hA hval
  obtain ⟨v0, vs0, d0, ds0, p0, q0, e0, rfl, rfl, h0, hA⟩ := trodAll_cons hA
  obtain ⟨rfl, rfl, rfl⟩ := trodAll_nil hA
  obtain rfl : args = #[v0] := by cases args; simp_all
  obtain ⟨n0, rfl, rfl, rfl, w0⟩ := open_int (k := .i64) (by kernel_rfl) (hval 0 _ _ rfl rfl) h0
  replace w0 := wf_i64 w0
  refine Calls.mono (identity_calls) fun e W1 ⟨v, he, hv, hE⟩ => ?_
  subst he; subst hv
  exact ⟨_, rfl, law_post (tb := 4) Try.laidOut (by kernel_rfl) (by kernel_rfl) (by kernel_rfl) rfl rfl hW' hE⟩

/-- The program and the reference agree on the identities. -/
theorem permutationIdentity_holds : Rows.PermutationIdentitySaid :=
  OpenClaim.holds_of_wide 10 Try.f10 rfl rfl rfl rfl rfl rfl rfl ⟨rfl, rfl, rfl, rfl, rfl⟩ rfl rfl rfl rfl rfl (by kernel_rfl) Try.func10 (by kernel_rfl)
    (of_decide_eq_true (by kernel_rfl)) (by unfold Func.isWrapper; first | (rw [if_pos (by decide +kernel)]; kernel_rfl) | (rw [if_neg (by decide +kernel)]; exact ⟨rfl, rfl⟩))
    (fun os started H enc _ => permutationIdentity_lifted os started H enc)
end Go.Proofs.Ytmedmmginnfjgaa
