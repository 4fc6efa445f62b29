/- A multiple of a reduced form has the same vectors within the multiplied bound, with the same number of steps. No conditions. -/
import Derived.Test.YtpfhfldehaiokaaGreatA40
namespace Go.Proofs.YtpfhfldehaiokaaGreat
open Go.W Go.PM Go.ChangeShapes Go.WideShapes Go.ChangeAt Go.RowKit
set_option maxRecDepth 100000 in
theorem topScales_lifted (os : Os) (started : os.Started) (H : Type) (enc : TypeId × Value → H) :
  ReturnsInHanded {} Tryz.checked os 3 .any (Rows.topScalesSpec.pre6 enc Tryz.prog Tryz.f3 Rows.topScalesRow.domain false) (Rows.topScalesSpec.post enc Tryz.prog Tryz.f3 false true false false) := by
 refine returnsInHanded_of_change (C := Tryz.checked) Tryz.own started (by kernel_rfl) Tryz.func3
  (ChangeSpec.witness6 (enc := enc) (C := Tryz.checked) false ⟨#[], #[.agg #[.int .u8 0, .int .u8 0, .slice none 0 0, .slice none 0 0], .int .u8 0, .int .u8 0], []⟩ 8 (by kernel_rfl) (by kernel_rfl) (by kernel_rfl) (by kernel_rfl)) ?_
 intro W base args ds gs before hval0 hW _ _
 have hval : ∀ (j : Nat) t v, Tryz.f3.params[j]? = some t → args[j]? = some v → Value.okWide Tryz.prog W .any base t v := hval0
 have hW' := hW
 obtain ⟨p, q, hA0, hV, _, _, _⟩ := hW
 obtain ⟨rfl, rfl⟩ := trodVars_none hV
 have hA : DataW.TrodAll enc Tryz.prog W 0 (fun _ => true) true Tryz.f3.params.toList args.toList ds p := hA0
 rw [Tryz.params3] at hA hval
 obtain ⟨v0, vs0, d0, ds0, p0, q0, e0, rfl, rfl, h0, hA⟩ := trodAll_cons hA
 obtain ⟨v1, vs1, d1, ds1, p1, q1, rfl, rfl, rfl, h1, hA⟩ := trodAll_cons hA
 obtain ⟨v2, vs2, d2, ds2, p2, q2, rfl, rfl, rfl, h2, hA⟩ := trodAll_cons hA
 obtain ⟨rfl, rfl, rfl⟩ := trodAll_nil hA
 obtain rfl : args = #[v0, v1, v2] := by cases args; simp_all
 obtain ⟨p0, q0, a0, xs0, c0, b0, r0, t0, rfl, w0, z0, s0, i0⟩ := uY (hval 0 _ _ rfl rfl) h0
 obtain ⟨n1, rfl, rfl, rfl, w1⟩ := open_int (k := .u8) (by kernel_rfl) (hval 1 _ _ rfl rfl) h1
 replace w1 := rE w1
 obtain ⟨n2, rfl, rfl, rfl, w2⟩ := open_int (k := .u8) (by kernel_rfl) (hval 2 _ _ rfl rfl) h2
 replace w2 := rE w2
 refine Calls.mono (nl w0 z0 s0 i0 c0 b0 r0 t0 w1 w2) fun e W1 ⟨v, he, hv, hE⟩ => ?_
 subst he; subst hv
 exact ⟨_, rfl, tK (tb := 4) Tryz.laidOut (by kernel_rfl) (by kernel_rfl) (by kernel_rfl) rfl rfl hW' hE⟩
theorem topScales_holds : Rows.TopScalesSaid :=
 OpenClaim.holds_of_wide 3 Tryz.f3 rfl rfl rfl rfl rfl rfl rfl ⟨rfl, rfl, rfl, rfl, rfl⟩ rfl rfl rfl rfl rfl (by kernel_rfl) Tryz.func3 (by kernel_rfl)
  (of_decide_eq_true (by kernel_rfl)) (by unfold Func.isWrapper; first|(rw [if_pos (by decide +kernel)]; kernel_rfl)|(rw [if_neg (by decide +kernel)]; exact ⟨rfl, rfl⟩))
  (fun os started H enc _ => topScales_lifted os started H enc)
end Go.Proofs.YtpfhfldehaiokaaGreat
