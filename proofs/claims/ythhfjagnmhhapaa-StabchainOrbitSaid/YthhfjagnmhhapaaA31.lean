/- The order of a group is the length of an orbit times the order of the stabilizer. No conditions. -/

import Derived.Test.YthhfjagnmhhapaaA03
import Derived.Test.YthhfjagnmhhapaaA04
import Derived.Test.YthhfjagnmhhapaaA07
import Derived.Test.YthhfjagnmhhapaaA22
import Derived.Test.YthhfjagnmhhapaaA30

namespace Go.Proofs.Ythhfjagnmhhapaa
open Go.W Go.PM Go.ChangeShapes Go.WideShapes Go.ChangeAt Go.RowKit
set_option maxRecDepth 100000 in
theorem stabchainOrbit_lifted (os : Os) (started : os.Started) (H : Type) (enc : TypeId × Value → H) :
    ReturnsInHanded {} Try.checked os 11 .any (Rows.stabchainOrbitSpec.pre6 enc Try.prog Try.f11 Rows.stabchainOrbitRow.domain false) (Rows.stabchainOrbitSpec.post enc Try.prog Try.f11 false true false false) := by
  refine returnsInHanded_of_change (C := Try.checked) Try.own started (by kernel_rfl) Try.func11
    (ChangeSpec.witness6 (enc := enc) (C := Try.checked) false ⟨#[], #[.agg #[.int .u8 0, .slice none 0 0, .bool false], .int .u8 0], []⟩ 8 (by kernel_rfl) (by kernel_rfl) (by kernel_rfl) (by kernel_rfl)) ?_
  intro W base args ds gs before hval0 hW _ _
  have hval : ∀ (j : Nat) t v, Try.f11.params[j]? = some t → args[j]? = some v → Value.okWide Try.prog W .any base t v := hval0
  have hW' := hW
  obtain ⟨p, q, hA0, hV, _, _, _⟩ := hW
  obtain ⟨rfl, rfl⟩ := trodVars_none hV
  have hA : DataW.TrodAll enc Try.prog W 0 (fun _ => true) true Try.f11.params.toList args.toList ds p := hA0
  rw [Try.params11] at hA hval
  obtain ⟨v0, vs0, d0, ds0, p0, q0, e0, rfl, rfl, h0, hA⟩ := trodAll_cons hA
  obtain ⟨v1, vs1, d1, ds1, p1, q1, rfl, rfl, rfl, h1, hA⟩ := trodAll_cons hA
  obtain ⟨rfl, rfl, rfl⟩ := trodAll_nil hA
  obtain rfl : args = #[v0, v1] := by cases args; simp_all
  obtain ⟨n0, a0, sds0, xs0, c0, b0, rfl, w0, s0, i0, m0⟩ := open_perms (hval 0 _ _ rfl rfl) h0
  obtain ⟨n1, rfl, rfl, rfl, w1⟩ := open_int (k := .u8) (by kernel_rfl) (hval 1 _ _ rfl rfl) h1
  replace w1 := wf_u8 w1
  refine Calls.mono (orbit_calls w0 s0 i0 c0 m0 b0 w1) fun e W1 ⟨v, he, hv, hE⟩ => ?_
  subst he; subst hv
  exact ⟨_, rfl, law_post (tb := 4) Try.laidOut (by kernel_rfl) (by kernel_rfl) (by kernel_rfl) rfl rfl hW' hE⟩

/-- The order of a group is the length of an orbit times the order of the stabilizer. -/
theorem stabchainOrbit_holds : Rows.StabchainOrbitSaid :=
  OpenClaim.holds_of_wide 11 Try.f11 rfl rfl rfl rfl rfl rfl rfl ⟨rfl, rfl, rfl, rfl, rfl⟩ rfl rfl rfl rfl rfl (by kernel_rfl) Try.func11 (by kernel_rfl)
    (of_decide_eq_true (by kernel_rfl)) (by unfold Func.isWrapper; first | (rw [if_pos (by decide +kernel)]; kernel_rfl) | (rw [if_neg (by decide +kernel)]; exact ⟨rfl, rfl⟩))
    (fun os started H enc _ => stabchainOrbit_lifted os started H enc)
end Go.Proofs.Ythhfjagnmhhapaa

