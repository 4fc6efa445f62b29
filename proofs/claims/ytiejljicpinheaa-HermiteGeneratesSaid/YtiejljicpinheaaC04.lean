/- Integer combinations of the columns lie in the lattice, and a column lies in it exactly if adding it does not change the lattice. No conditions. -/
import Derived.Test.YtiejljicpinheaaA20
import Derived.Test.YtiejljicpinheaaC03
namespace Go.Proofs.Ytiejljicpinheaa
open Go.W Go.PM Go.ChangeShapes Go.WideShapes Go.ChangeAt Go.RowKit
set_option maxRecDepth 100000 in
theorem hermiteGenerates_lifted (os : Os) (started : os.Started) (H : Type) (enc : TypeId × Value → H) :
  ReturnsInHanded {} Try.checked os 5 .any (Rows.hermiteGeneratesSpec.pre6 enc Try.prog Try.f5 Rows.hermiteGeneratesRow.domain false) (Rows.hermiteGeneratesSpec.post enc Try.prog Try.f5 false true false false) := by
 refine returnsInHanded_of_change (C := Try.checked) Try.own started (by kernel_rfl) Try.func5
  (ChangeSpec.witness6 (enc := enc) (C := Try.checked) false ⟨#[], #[.agg #[.int .u8 0, .int .u8 0, .slice none 0 0], .slice none 0 0, .slice none 0 0], []⟩ 8 (by kernel_rfl) (by kernel_rfl) (by kernel_rfl) (by kernel_rfl)) ?_
 intro W base args ds gs before hval0 hW _ _
 have hval : ∀ (j : Nat) t v, Try.f5.params[j]? = some t → args[j]? = some v → Value.okWide Try.prog W .any base t v := hval0
 have hW' := hW
 obtain ⟨p, q, hA0, hV, _, _, _⟩ := hW
 obtain ⟨rfl, rfl⟩ := trodVars_none hV
 have hA : DataW.TrodAll enc Try.prog W 0 (fun _ => true) true Try.f5.params.toList args.toList ds p := hA0
 rw [Try.params5] at hA hval
 obtain ⟨v0, vs0, d0, ds0, p0, q0, e0, rfl, rfl, h0, hA⟩ := trodAll_cons hA
 obtain ⟨v1, vs1, d1, ds1, p1, q1, rfl, rfl, rfl, h1, hA⟩ := trodAll_cons hA
 obtain ⟨v2, vs2, d2, ds2, p2, q2, rfl, rfl, rfl, h2, hA⟩ := trodAll_cons hA
 obtain ⟨rfl, rfl, rfl⟩ := trodAll_nil hA
 obtain rfl : args = #[v0, v1, v2] := by cases args; simp_all
 obtain ⟨p0, q0, a0, xs0, c0, rfl, w0, z0, s0, i0⟩ := pI (hval 0 _ _ rfl rfl) h0
 obtain ⟨a1, xs1, c1, rfl, s1, g1, l1, m1⟩ := pF (e := 83) (k := .i8) (by kernel_rfl) (by kernel_rfl) (by kernel_rfl) (hval 1 _ _ rfl rfl) h1
 have i1 : I8 xs1 := ⟨by omega, fun x hx => si (g1 x hx)⟩
 obtain ⟨a2, xs2, c2, rfl, s2, g2, l2, m2⟩ := pF (e := 83) (k := .i8) (by kernel_rfl) (by kernel_rfl) (by kernel_rfl) (hval 2 _ _ rfl rfl) h2
 have i2 : I8 xs2 := ⟨by omega, fun x hx => si (g2 x hx)⟩
 refine Calls.mono (vV w0 z0 s0 i0 c0 s1 i1 c1 s2 i2 c2) fun e W1 ⟨v, he, hv, hE⟩ => ?_
 subst he; subst hv
 exact ⟨_, rfl, q9 (tb := 4) Try.laidOut (by kernel_rfl) (by kernel_rfl) (by kernel_rfl) rfl rfl hW' hE⟩
theorem hermiteGenerates_holds : Rows.HermiteGeneratesSaid :=
 OpenClaim.holds_of_wide 5 Try.f5 rfl rfl rfl rfl rfl rfl rfl ⟨rfl, rfl, rfl, rfl, rfl⟩ rfl rfl rfl rfl rfl (by kernel_rfl) Try.func5 (by kernel_rfl)
  (of_decide_eq_true (by kernel_rfl)) (by unfold Func.isWrapper; first|(rw [if_pos (by decide +kernel)]; kernel_rfl)|(rw [if_neg (by decide +kernel)]; exact ⟨rfl, rfl⟩))
  (fun os started H enc _ => hermiteGenerates_lifted os started H enc)
end Go.Proofs.Ytiejljicpinheaa
