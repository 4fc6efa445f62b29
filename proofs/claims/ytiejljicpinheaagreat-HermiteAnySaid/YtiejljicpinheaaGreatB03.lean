/- The Hermite form of every matrix, valid or not, is the reference's, and so is its basis; the other matrix is unimodular and leads to the form. No conditions. -/
import Derived.Test.YtiejljicpinheaaGreatA03
import Derived.Test.YtiejljicpinheaaGreatA12
import Derived.Test.YtiejljicpinheaaGreatA29
import Derived.Test.YtiejljicpinheaaGreatB01
import Derived.Test.YtiejljicpinheaaGreatB02
namespace Go.Proofs.YtiejljicpinheaaGreat
open Go.W Go.PM Go.ChangeShapes Go.WideShapes Go.ChangeAt Go.RowKit
set_option maxRecDepth 100000 in
theorem hermiteAny_lifted (os : Os) (started : os.Started) (H : Type) (enc : TypeId × Value → H) :
  ReturnsInHanded {} Tryz.checked os 4 .any (Rows.hermiteAnySpec.pre6 enc Tryz.prog Tryz.f4 Rows.hermiteAnyRow.domain false) (Rows.hermiteAnySpec.post enc Tryz.prog Tryz.f4 false true false false) := by
 refine returnsInHanded_of_change_sized (C := Tryz.checked) Tryz.own started (by kernel_rfl) Tryz.func4
  (ChangeSpec.witness6 (enc := enc) (C := Tryz.checked) false ⟨#[], #[.slice none 0 0], []⟩ 8 (by kernel_rfl) (by kernel_rfl) (by kernel_rfl) (by kernel_rfl)) ?_
 intro W base args ds gs before hval0 hW _ hz0 _
 have hval : ∀ (j : Nat) t v, Tryz.f4.params[j]? = some t → args[j]? = some v → Value.okWide Tryz.prog W .any base t v := hval0
 have hW' := hW
 obtain ⟨p, q, hA0, hV, _, _, _⟩ := hW
 obtain ⟨rfl, rfl⟩ := trodVars_none hV
 have hA : DataW.TrodAll enc Tryz.prog W 0 (fun _ => true) true Tryz.f4.params.toList args.toList ds p := hA0
 rw [Tryz.params4] at hA hval
 obtain ⟨v0, vs0, d0, ds0, p0, q0, e0, rfl, rfl, h0, hA⟩ := trodAll_cons hA
 obtain ⟨rfl, rfl, rfl⟩ := trodAll_nil hA
 obtain rfl : args = #[v0] := by cases args; simp_all
 obtain ⟨a0, n0zz, c0, s0, x0, l0zz, rfl, m0zz⟩ := vt (hval 0 _ _ rfl rfl) h0 (fun n hn => of_decide_eq_true (List.all_eq_true.1 hz0 n (DataW.weights_mem_each (j := 0) rfl rfl n hn)))
 refine Calls.mono (wi m0zz c0) fun e W1 ⟨v, he, hv, hE⟩ => ?_
 subst he; subst hv
 exact ⟨_, rfl, rL (tb := 4) Tryz.laidOut (by kernel_rfl) (by kernel_rfl) (by kernel_rfl) rfl rfl hW' hE⟩
theorem hermiteAny_holds : Rows.HermiteAnySaid :=
 OpenClaim.holds_of_wide 4 Tryz.f4 rfl rfl rfl rfl rfl rfl rfl ⟨rfl, rfl, rfl, rfl, rfl⟩ rfl rfl rfl rfl rfl (by kernel_rfl) Tryz.func4 (by kernel_rfl)
  (of_decide_eq_true (by kernel_rfl)) (by unfold Func.isWrapper; first|(rw [if_pos (by decide +kernel)]; kernel_rfl)|(rw [if_neg (by decide +kernel)]; exact ⟨rfl, rfl⟩))
  (fun os started H enc _ => hermiteAny_lifted os started H enc)
end Go.Proofs.YtiejljicpinheaaGreat
