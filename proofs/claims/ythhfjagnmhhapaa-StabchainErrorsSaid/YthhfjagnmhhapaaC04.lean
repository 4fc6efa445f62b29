/- The errors of all functions of the package for all arguments are those of the reference. No conditions. -/

import Derived.Test.YthhfjagnmhhapaaA03
import Derived.Test.YthhfjagnmhhapaaA04
import Derived.Test.YthhfjagnmhhapaaA07
import Derived.Test.YthhfjagnmhhapaaA22
import Derived.Test.YthhfjagnmhhapaaB02
import Derived.Test.YthhfjagnmhhapaaC01
import Derived.Test.YthhfjagnmhhapaaC03

namespace Go.Proofs.Ythhfjagnmhhapaa
open Go.W Go.PM Go.ChangeShapes Go.WideShapes Go.ChangeAt Go.RowKit
set_option maxRecDepth 100000 in
theorem stabchainErrors_lifted (os : Os) (started : os.Started) (H : Type) (enc : TypeId × Value → H) :
    ReturnsInHanded {} Try.checked os 13 .any (Rows.stabchainErrorsSpec.pre6 enc Try.prog Try.f13 Rows.stabchainErrorsRow.domain false) (Rows.stabchainErrorsSpec.post enc Try.prog Try.f13 false true false false) := by
  refine returnsInHanded_of_change (C := Try.checked) Try.own started (by kernel_rfl) Try.func13
    (ChangeSpec.witness6 (enc := enc) (C := Try.checked) false ⟨#[], #[.int .i64 0, .slice none 0 0, .slice none 0 0, .slice none 0 0, .int .i64 0, .agg #[.int .i64 0, .slice none 0 0, .slice none 0 0]], []⟩ 8 (by kernel_rfl) (by kernel_rfl) (by kernel_rfl) (by kernel_rfl)) ?_
  intro W base args ds gs before hval0 hW _ _
  have hval : ∀ (j : Nat) t v, Try.f13.params[j]? = some t → args[j]? = some v → Value.okWide Try.prog W .any base t v := hval0
  have hW' := hW
  obtain ⟨p, q, hA0, hV, _, _, _⟩ := hW
  obtain ⟨rfl, rfl⟩ := trodVars_none hV
  have hA : DataW.TrodAll enc Try.prog W 0 (fun _ => true) true Try.f13.params.toList args.toList ds p := hA0
  rw [Try.params13] at hA hval
  obtain ⟨v0, vs0, d0, ds0, p0, q0, e0, rfl, rfl, h0, hA⟩ := trodAll_cons hA
  obtain ⟨v1, vs1, d1, ds1, p1, q1, rfl, rfl, rfl, h1, hA⟩ := trodAll_cons hA
  obtain ⟨v2, vs2, d2, ds2, p2, q2, rfl, rfl, rfl, h2, hA⟩ := trodAll_cons hA
  obtain ⟨v3, vs3, d3, ds3, p3, q3, rfl, rfl, rfl, h3, hA⟩ := trodAll_cons hA
  obtain ⟨v4, vs4, d4, ds4, p4, q4, rfl, rfl, rfl, h4, hA⟩ := trodAll_cons hA
  obtain ⟨v5, vs5, d5, ds5, p5, q5, rfl, rfl, rfl, h5, hA⟩ := trodAll_cons hA
  obtain ⟨rfl, rfl, rfl⟩ := trodAll_nil hA
  obtain rfl : args = #[v0, v1, v2, v3, v4, v5] := by cases args; simp_all
  obtain ⟨n0, rfl, rfl, rfl, w0⟩ := open_int (k := .i64) (by kernel_rfl) (hval 0 _ _ rfl rfl) h0
  replace w0 := wf_i64 w0
  obtain ⟨a1, sds1, xs1, c1, rfl, s1, m1, le1, wf1⟩ := open_rows (e := 28) (q := 3) (k := .i64) (by kernel_rfl) (by kernel_rfl) (by kernel_rfl) (by kernel_rfl) (by kernel_rfl) (hval 1 _ _ rfl rfl) h1
  obtain ⟨a2, xs2, c2, rfl, s2, g2, l2, m2⟩ := open_nums (e := 3) (k := .i64) (by kernel_rfl) (by kernel_rfl) (by kernel_rfl) (hval 2 _ _ rfl rfl) h2
  obtain ⟨a3, xs3, c3, rfl, s3, g3, l3, m3⟩ := open_nums (e := 3) (k := .i64) (by kernel_rfl) (by kernel_rfl) (by kernel_rfl) (hval 3 _ _ rfl rfl) h3
  obtain ⟨n4, rfl, rfl, rfl, w4⟩ := open_int (k := .i64) (by kernel_rfl) (hval 4 _ _ rfl rfl) h4
  replace w4 := wf_i64 w4
  obtain ⟨n5, b5, bs5, bc5, a5, sds5, xs5, c5, rfl, sb5, lb5, mb5, s5, m5⟩ := open_chain (hval 5 _ _ rfl rfl) h5
  refine Calls.mono (errors_calls s1 m1 s2 (by omega) s3 l3 m3 sb5 lb5 mb5 s5 m5) fun e W1 ⟨v, he, hv, hE⟩ => ?_
  subst he; subst hv
  exact ⟨_, rfl, law_post (tb := 4) Try.laidOut (by kernel_rfl) (by kernel_rfl) (by kernel_rfl) rfl rfl hW' hE⟩

/-- The errors of all functions of the package for all arguments are those of the reference. -/
theorem stabchainErrors_holds : Rows.StabchainErrorsSaid :=
  OpenClaim.holds_of_wide 13 Try.f13 rfl rfl rfl rfl rfl rfl rfl ⟨rfl, rfl, rfl, rfl, rfl⟩ rfl rfl rfl rfl rfl (by kernel_rfl) Try.func13 (by kernel_rfl)
    (of_decide_eq_true (by kernel_rfl)) (by unfold Func.isWrapper; first | (rw [if_pos (by decide +kernel)]; kernel_rfl) | (rw [if_neg (by decide +kernel)]; exact ⟨rfl, rfl⟩))
    (fun os started H enc _ => stabchainErrors_lifted os started H enc)
end Go.Proofs.Ythhfjagnmhhapaa

