/- The matrices that are found to have the same column lattice are those that the reference finds, a matrix and its product with a unimodular one among them. No conditions. -/
import Derived.Test.YtiejljicpinheaaGreatA03
import Derived.Test.YtiejljicpinheaaGreatA06
import Derived.Test.YtiejljicpinheaaGreatA12
import Derived.Test.YtiejljicpinheaaGreatA29
import Derived.Test.YtiejljicpinheaaGreatJ01
import Derived.Test.YtiejljicpinheaaGreatJ02
import Derived.Test.YtiejljicpinheaaGreatJ03
namespace Go.Proofs.YtiejljicpinheaaGreat
open Go.W Go.PM Go.ChangeShapes Go.WideShapes Go.ChangeAt Go.RowKit
set_option maxRecDepth 100000 in
theorem hermiteSame_lifted (os : Os) (started : os.Started) (H : Type) (enc : TypeId × Value → H) :
  ReturnsInHanded {} Tryz.checked os 12 .any (Rows.hermiteSameSpec.pre6 enc Tryz.prog Tryz.f12 Rows.hermiteSameRow.domain false) (Rows.hermiteSameSpec.post enc Tryz.prog Tryz.f12 false true false false) := by
 refine returnsInHanded_of_change_sized (C := Tryz.checked) Tryz.own started (by kernel_rfl) Tryz.func12
  (ChangeSpec.witness6 (enc := enc) (C := Tryz.checked) false ⟨#[], #[.slice none 0 0, .slice none 0 0, .agg #[.int .u8 0, .int .u8 0, .slice none 0 0], .agg #[.int .u8 0, .int .u8 0, .slice none 0 0], .slice none 0 0], []⟩ 8 (by kernel_rfl) (by kernel_rfl) (by kernel_rfl) (by kernel_rfl)) ?_
 intro W base args ds gs before hval0 hW _ hz0 _
 have hval : ∀ (j : Nat) t v, Tryz.f12.params[j]? = some t → args[j]? = some v → Value.okWide Tryz.prog W .any base t v := hval0
 have hW' := hW
 obtain ⟨p, q, hA0, hV, _, _, _⟩ := hW
 obtain ⟨rfl, rfl⟩ := trodVars_none hV
 have hA : DataW.TrodAll enc Tryz.prog W 0 (fun _ => true) true Tryz.f12.params.toList args.toList ds p := hA0
 rw [Tryz.params12] at hA hval
 obtain ⟨v0, vs0, d0, ds0, p0, q0, e0, rfl, rfl, h0, hA⟩ := trodAll_cons hA
 obtain ⟨v1, vs1, d1, ds1, p1, q1, rfl, rfl, rfl, h1, hA⟩ := trodAll_cons hA
 obtain ⟨v2, vs2, d2, ds2, p2, q2, rfl, rfl, rfl, h2, hA⟩ := trodAll_cons hA
 obtain ⟨v3, vs3, d3, ds3, p3, q3, rfl, rfl, rfl, h3, hA⟩ := trodAll_cons hA
 obtain ⟨v4, vs4, d4, ds4, p4, q4, rfl, rfl, rfl, h4, hA⟩ := trodAll_cons hA
 obtain ⟨rfl, rfl, rfl⟩ := trodAll_nil hA
 obtain rfl : args = #[v0, v1, v2, v3, v4] := by cases args; simp_all
 obtain ⟨a0, n0zz, c0, s0, x0, l0zz, rfl, m0zz⟩ := vt (hval 0 _ _ rfl rfl) h0 (fun n hn => of_decide_eq_true (List.all_eq_true.1 hz0 n (DataW.weights_mem_each (j := 0) rfl rfl n hn)))
 obtain ⟨a1, n1, c1, s1, x1, l1, rfl, m1⟩ := vt (hval 1 _ _ rfl rfl) h1 (fun n hn => of_decide_eq_true (List.all_eq_true.1 hz0 n (DataW.weights_mem_each (j := 1) rfl rfl n hn)))
 obtain ⟨p2, q2, a2, xs2, c2, rfl, w2, z2, s2, i2⟩ := qa (hval 2 _ _ rfl rfl) h2
 obtain ⟨p3, q3, a3, xs3, c3, rfl, w3, z3, s3, i3⟩ := qa (hval 3 _ _ rfl rfl) h3
 obtain ⟨a4, xs4, c4, rfl, s4, g4, l4, m4zz⟩ := uJ (e := 60) (k := .i8) (by kernel_rfl) (by kernel_rfl) (by kernel_rfl) (hval 4 _ _ rfl rfl) h4
 have i4zz : I8 xs4 := ⟨by omega, fun x hx => u5 (g4 x hx)⟩
 refine Calls.mono (xu m0zz c0 m1 c1 w2 z2 s2 i2 c2 w3 z3 s3 i3 c3 s4 i4zz c4) fun e W1 ⟨v, he, hv, hE⟩ => ?_
 subst he; subst hv
 exact ⟨_, rfl, rL (tb := 4) Tryz.laidOut (by kernel_rfl) (by kernel_rfl) (by kernel_rfl) rfl rfl hW' hE⟩
theorem hermiteSame_holds : Rows.HermiteSameSaid :=
 OpenClaim.holds_of_wide 12 Tryz.f12 rfl rfl rfl rfl rfl rfl rfl ⟨rfl, rfl, rfl, rfl, rfl⟩ rfl rfl rfl rfl rfl (by kernel_rfl) Tryz.func12 (by kernel_rfl)
  (of_decide_eq_true (by kernel_rfl)) (by unfold Func.isWrapper; first|(rw [if_pos (by decide +kernel)]; kernel_rfl)|(rw [if_neg (by decide +kernel)]; exact ⟨rfl, rfl⟩))
  (fun os started H enc _ => hermiteSame_lifted os started H enc)
end Go.Proofs.YtiejljicpinheaaGreat
