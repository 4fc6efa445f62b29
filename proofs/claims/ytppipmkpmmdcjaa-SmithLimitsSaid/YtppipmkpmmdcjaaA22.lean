/- Divisors refuses matrices with more than MaxDim rows or columns, and Factors only those with more than MaxSize. No conditions. -/
import Derived.Test.YtppipmkpmmdcjaaA20
import Derived.Test.YtppipmkpmmdcjaaA21
namespace Go.Proofs.Ytppipmkpmmdcjaa
open Go.W Go.PM Go.ChangeShapes Go.WideShapes Go.ChangeAt Go.RowKit
set_option maxRecDepth 100000 in
theorem smithLimits_lifted (os : Os) (started : os.Started) (H : Type) (enc : TypeId × Value → H) :
  ReturnsInHanded {} Try.checked os 3 .any (Rows.smithLimitsSpec.pre6 enc Try.prog Try.f3 Rows.smithLimitsRow.domain false) (Rows.smithLimitsSpec.post enc Try.prog Try.f3 false true false false) := by
 refine returnsInHanded_of_change (C := Try.checked) Try.own started (by kernel_rfl) Try.func3
  (ChangeSpec.witness6 (enc := enc) (C := Try.checked) false ⟨#[], #[.int .u8 0, .int .u8 0, .int .i8 0], []⟩ 8 (by kernel_rfl) (by kernel_rfl) (by kernel_rfl) (by kernel_rfl)) ?_
 intro W base args ds gs before hval0 hW _ _
 have hval : ∀ (j : Nat) t v, Try.f3.params[j]? = some t → args[j]? = some v → Value.okWide Try.prog W .any base t v := hval0
 have hW' := hW
 obtain ⟨p, q, hA0, hV, _, _, _⟩ := hW
 obtain ⟨rfl, rfl⟩ := trodVars_none hV
 have hA : DataW.TrodAll enc Try.prog W 0 (fun _ => true) true Try.f3.params.toList args.toList ds p := hA0
 rw [Try.params3] at hA hval
 obtain ⟨v0, vs0, d0, ds0, p0, q0, e0, rfl, rfl, h0, hA⟩ := trodAll_cons hA
 obtain ⟨v1, vs1, d1, ds1, p1, q1, rfl, rfl, rfl, h1, hA⟩ := trodAll_cons hA
 obtain ⟨v2, vs2, d2, ds2, p2, q2, rfl, rfl, rfl, h2, hA⟩ := trodAll_cons hA
 obtain ⟨rfl, rfl, rfl⟩ := trodAll_nil hA
 obtain rfl : args = #[v0, v1, v2] := by cases args; simp_all
 obtain ⟨n0, rfl, rfl, rfl, w0⟩ := open_int (k := .u8) (by kernel_rfl) (hval 0 _ _ rfl rfl) h0
 replace w0 := qG w0
 obtain ⟨n1, rfl, rfl, rfl, w1⟩ := open_int (k := .u8) (by kernel_rfl) (hval 1 _ _ rfl rfl) h1
 replace w1 := qG w1
 obtain ⟨n2, rfl, rfl, rfl, w2⟩ := open_int (k := .i8) (by kernel_rfl) (hval 2 _ _ rfl rfl) h2
 replace w2 := sV w2
 refine Calls.mono (ig w0 w1 w2 W) fun e W1 ⟨v, he, hv, hE⟩ => ?_
 subst he; subst hv
 exact ⟨_, rfl, pT (tb := 4) Try.laidOut (by kernel_rfl) (by kernel_rfl) (by kernel_rfl) rfl rfl hW' hE⟩
theorem smithLimits_holds : Rows.SmithLimitsSaid :=
 OpenClaim.holds_of_wide 3 Try.f3 rfl rfl rfl rfl rfl rfl rfl ⟨rfl, rfl, rfl, rfl, rfl⟩ rfl rfl rfl rfl rfl (by kernel_rfl) Try.func3 (by kernel_rfl)
  (of_decide_eq_true (by kernel_rfl)) (by unfold Func.isWrapper; first|(rw [if_pos (by decide +kernel)]; kernel_rfl)|(rw [if_neg (by decide +kernel)]; exact ⟨rfl, rfl⟩))
  (fun os started H enc _ => smithLimits_lifted os started H enc)
end Go.Proofs.Ytppipmkpmmdcjaa
