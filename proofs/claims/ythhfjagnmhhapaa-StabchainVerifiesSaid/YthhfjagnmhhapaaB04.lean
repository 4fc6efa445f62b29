/- What Verify returns for chains of every group with one change is what the reference returns. No conditions. -/

import Derived.Test.YthhfjagnmhhapaaA03
import Derived.Test.YthhfjagnmhhapaaA04
import Derived.Test.YthhfjagnmhhapaaA07
import Derived.Test.YthhfjagnmhhapaaA22
import Derived.Test.YthhfjagnmhhapaaB03

namespace Go.Proofs.Ythhfjagnmhhapaa
open Go.W Go.PM Go.ChangeShapes Go.WideShapes Go.ChangeAt Go.RowKit
set_option maxRecDepth 100000 in
theorem stabchainVerifies_lifted (os : Os) (started : os.Started) (H : Type) (enc : TypeId × Value → H) :
    ReturnsInHanded {} Try.checked os 10 .any (Rows.stabchainVerifiesSpec.pre6 enc Try.prog Try.f10 Rows.stabchainVerifiesRow.domain false) (Rows.stabchainVerifiesSpec.post enc Try.prog Try.f10 false true false false) := by
  refine returnsInHanded_of_change (C := Try.checked) Try.own started (by kernel_rfl) Try.func10
    (ChangeSpec.witness6 (enc := enc) (C := Try.checked) false ⟨#[], #[.agg #[.int .u8 0, .slice none 0 0, .bool false], .int .u8 0, .slice none 0 0, .int .u8 0], []⟩ 8 (by kernel_rfl) (by kernel_rfl) (by kernel_rfl) (by kernel_rfl)) ?_
  intro W base args ds gs before hval0 hW _ _
  have hval : ∀ (j : Nat) t v, Try.f10.params[j]? = some t → args[j]? = some v → Value.okWide Try.prog W .any base t v := hval0
  have hW' := hW
  obtain ⟨p, q, hA0, hV, _, _, _⟩ := hW
  obtain ⟨rfl, rfl⟩ := trodVars_none hV
  have hA : DataW.TrodAll enc Try.prog W 0 (fun _ => true) true Try.f10.params.toList args.toList ds p := hA0
  rw [Try.params10] at hA hval
  obtain ⟨v0, vs0, d0, ds0, p0, q0, e0, rfl, rfl, h0, hA⟩ := trodAll_cons hA
  obtain ⟨v1, vs1, d1, ds1, p1, q1, rfl, rfl, rfl, h1, hA⟩ := trodAll_cons hA
  obtain ⟨v2, vs2, d2, ds2, p2, q2, rfl, rfl, rfl, h2, hA⟩ := trodAll_cons hA
  obtain ⟨v3, vs3, d3, ds3, p3, q3, rfl, rfl, rfl, h3, hA⟩ := trodAll_cons hA
  obtain ⟨rfl, rfl, rfl⟩ := trodAll_nil hA
  obtain rfl : args = #[v0, v1, v2, v3] := by cases args; simp_all
  obtain ⟨n0, a0, sds0, xs0, c0, b0, rfl, w0, s0, i0, m0⟩ := open_perms (hval 0 _ _ rfl rfl) h0
  obtain ⟨n1, rfl, rfl, rfl, w1⟩ := open_int (k := .u8) (by kernel_rfl) (hval 1 _ _ rfl rfl) h1
  replace w1 := wf_u8 w1
  obtain ⟨a2, xs2, c2, rfl, s2, g2, l2, m2⟩ := open_nums (e := 159) (k := .i8) (by kernel_rfl) (by kernel_rfl) (by kernel_rfl) (hval 2 _ _ rfl rfl) h2
  have i2 : I8 xs2 := ⟨by omega, fun x hx => wf_i8 (g2 x hx)⟩
  obtain ⟨n3, rfl, rfl, rfl, w3⟩ := open_int (k := .u8) (by kernel_rfl) (hval 3 _ _ rfl rfl) h3
  replace w3 := wf_u8 w3
  refine Calls.mono (verifies_calls w0 w1 w3 s0 i0 c0 m0 b0 s2 i2 c2) fun e W1 ⟨v, he, hv, hE⟩ => ?_
  subst he; subst hv
  exact ⟨_, rfl, law_post (tb := 4) Try.laidOut (by kernel_rfl) (by kernel_rfl) (by kernel_rfl) rfl rfl hW' hE⟩

/-- What Verify returns for chains of every group with one change is what the reference returns. -/
theorem stabchainVerifies_holds : Rows.StabchainVerifiesSaid :=
  OpenClaim.holds_of_wide 10 Try.f10 rfl rfl rfl rfl rfl rfl rfl ⟨rfl, rfl, rfl, rfl, rfl⟩ rfl rfl rfl rfl rfl (by kernel_rfl) Try.func10 (by kernel_rfl)
    (of_decide_eq_true (by kernel_rfl)) (by unfold Func.isWrapper; first | (rw [if_pos (by decide +kernel)]; kernel_rfl) | (rw [if_neg (by decide +kernel)]; exact ⟨rfl, rfl⟩))
    (fun os started H enc _ => stabchainVerifies_lifted os started H enc)
end Go.Proofs.Ythhfjagnmhhapaa

