/- The matrices that are taken for Hermite forms are those that the reference takes: any matrix, made ones, and Hermite forms with one changed entry. No conditions. -/
import Derived.Test.YtiejljicpinheaaGreatA03
import Derived.Test.YtiejljicpinheaaGreatA06
import Derived.Test.YtiejljicpinheaaGreatA12
import Derived.Test.YtiejljicpinheaaGreatA29
import Derived.Test.YtiejljicpinheaaGreatG01
import Derived.Test.YtiejljicpinheaaGreatG02
namespace Go.Proofs.YtiejljicpinheaaGreat
open Go.W Go.PM Go.ChangeShapes Go.WideShapes Go.ChangeAt Go.RowKit
set_option maxRecDepth 100000 in
theorem hermiteIsForm_lifted (os : Os) (started : os.Started) (H : Type) (enc : TypeId × Value → H) :
  ReturnsInHanded {} Tryz.checked os 9 .any (Rows.hermiteIsFormSpec.pre6 enc Tryz.prog Tryz.f9 Rows.hermiteIsFormRow.domain false) (Rows.hermiteIsFormSpec.post enc Tryz.prog Tryz.f9 false true false false) := by
 refine returnsInHanded_of_change_sized (C := Tryz.checked) Tryz.own started (by kernel_rfl) Tryz.func9
  (ChangeSpec.witness6 (enc := enc) (C := Tryz.checked) false ⟨#[], #[.slice none 0 0, .agg #[.int .u8 0, .int .u8 0, .slice none 0 0], .int .u8 0, .int .i8 0], []⟩ 8 (by kernel_rfl) (by kernel_rfl) (by kernel_rfl) (by kernel_rfl)) ?_
 intro W base args ds gs before hval0 hW _ hz0 _
 have hval : ∀ (j : Nat) t v, Tryz.f9.params[j]? = some t → args[j]? = some v → Value.okWide Tryz.prog W .any base t v := hval0
 have hW' := hW
 obtain ⟨p, q, hA0, hV, _, _, _⟩ := hW
 obtain ⟨rfl, rfl⟩ := trodVars_none hV
 have hA : DataW.TrodAll enc Tryz.prog W 0 (fun _ => true) true Tryz.f9.params.toList args.toList ds p := hA0
 rw [Tryz.params9] at hA hval
 obtain ⟨v0, vs0, d0, ds0, p0, q0, e0, rfl, rfl, h0, hA⟩ := trodAll_cons hA
 obtain ⟨v1, vs1, d1, ds1, p1, q1, rfl, rfl, rfl, h1, hA⟩ := trodAll_cons hA
 obtain ⟨v2, vs2, d2, ds2, p2, q2, rfl, rfl, rfl, h2, hA⟩ := trodAll_cons hA
 obtain ⟨v3, vs3, d3, ds3, p3, q3, rfl, rfl, rfl, h3, hA⟩ := trodAll_cons hA
 obtain ⟨rfl, rfl, rfl⟩ := trodAll_nil hA
 obtain rfl : args = #[v0, v1, v2, v3] := by cases args; simp_all
 obtain ⟨a0, n0zz, c0, s0, x0, l0zz, rfl, m0zz⟩ := vt (hval 0 _ _ rfl rfl) h0 (fun n hn => of_decide_eq_true (List.all_eq_true.1 hz0 n (DataW.weights_mem_each (j := 0) rfl rfl n hn)))
 obtain ⟨p1, q1, a1, xs1, c1, rfl, w1, z1, s1, i1⟩ := qa (hval 1 _ _ rfl rfl) h1
 obtain ⟨n2, rfl, rfl, rfl, w2⟩ := open_int (k := .u8) (by kernel_rfl) (hval 2 _ _ rfl rfl) h2
 replace w2 := sX w2
 obtain ⟨n3, rfl, rfl, rfl, w3⟩ := open_int (k := .i8) (by kernel_rfl) (hval 3 _ _ rfl rfl) h3
 replace w3 := u5 w3
 refine Calls.mono (xl w1 z1 s1 i1 c1 m0zz c0 w2 w3) fun e W1 ⟨v, he, hv, hE⟩ => ?_
 subst he; subst hv
 exact ⟨_, rfl, rL (tb := 4) Tryz.laidOut (by kernel_rfl) (by kernel_rfl) (by kernel_rfl) rfl rfl hW' hE⟩
theorem hermiteIsForm_holds : Rows.HermiteIsFormSaid :=
 OpenClaim.holds_of_wide 9 Tryz.f9 rfl rfl rfl rfl rfl rfl rfl ⟨rfl, rfl, rfl, rfl, rfl⟩ rfl rfl rfl rfl rfl (by kernel_rfl) Tryz.func9 (by kernel_rfl)
  (of_decide_eq_true (by kernel_rfl)) (by unfold Func.isWrapper; first|(rw [if_pos (by decide +kernel)]; kernel_rfl)|(rw [if_neg (by decide +kernel)]; exact ⟨rfl, rfl⟩))
  (fun os started H enc _ => hermiteIsForm_lifted os started H enc)
end Go.Proofs.YtiejljicpinheaaGreat
