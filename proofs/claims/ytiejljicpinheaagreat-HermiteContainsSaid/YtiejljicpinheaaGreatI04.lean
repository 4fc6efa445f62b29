/- The columns that are found in a lattice are those that the reference finds. No conditions. -/
import Derived.Test.YtiejljicpinheaaGreatI03
namespace Go.Proofs.YtiejljicpinheaaGreat
open Go.W Go.PM Go.ChangeShapes Go.WideShapes Go.ChangeAt Go.RowKit
set_option maxRecDepth 100000 in
theorem hermiteContains_lifted (os : Os) (started : os.Started) (H : Type) (enc : TypeId × Value → H) :
  ReturnsInHanded {} Tryz.checked os 11 .any (Rows.hermiteContainsSpec.pre6 enc Tryz.prog Tryz.f11 Rows.hermiteContainsRow.domain false) (Rows.hermiteContainsSpec.post enc Tryz.prog Tryz.f11 false true false false) := by
 refine returnsInHanded_of_change_sized (C := Tryz.checked) Tryz.own started (by kernel_rfl) Tryz.func11
  (ChangeSpec.witness6 (enc := enc) (C := Tryz.checked) false ⟨#[], #[.agg #[.int .u8 0, .int .u8 0, .slice none 0 0], .slice none 0 0, .slice none 0 0, .slice none 0 0], []⟩ 8 (by kernel_rfl) (by kernel_rfl) (by kernel_rfl) (by kernel_rfl)) ?_
 intro W base args ds gs before hval0 hW _ hz0 _
 have hval : ∀ (j : Nat) t v, Tryz.f11.params[j]? = some t → args[j]? = some v → Value.okWide Tryz.prog W .any base t v := hval0
 have hW' := hW
 obtain ⟨p, q, hA0, hV, _, _, _⟩ := hW
 obtain ⟨rfl, rfl⟩ := trodVars_none hV
 have hA : DataW.TrodAll enc Tryz.prog W 0 (fun _ => true) true Tryz.f11.params.toList args.toList ds p := hA0
 rw [Tryz.params11] at hA hval
 obtain ⟨v0, vs0, d0, ds0, p0, q0, e0, rfl, rfl, h0, hA⟩ := trodAll_cons hA
 obtain ⟨v1, vs1, d1, ds1, p1, q1, rfl, rfl, rfl, h1, hA⟩ := trodAll_cons hA
 obtain ⟨v2, vs2, d2, ds2, p2, q2, rfl, rfl, rfl, h2, hA⟩ := trodAll_cons hA
 obtain ⟨v3, vs3, d3, ds3, p3, q3, rfl, rfl, rfl, h3, hA⟩ := trodAll_cons hA
 obtain ⟨rfl, rfl, rfl⟩ := trodAll_nil hA
 obtain rfl : args = #[v0, v1, v2, v3] := by cases args; simp_all
 obtain ⟨p0, q0, a0, xs0, c0, rfl, w0, z0, s0, i0⟩ := qa (hval 0 _ _ rfl rfl) h0
 obtain ⟨a1, xs1, c1, rfl, s1, g1, l1, m1⟩ := uJ (e := 60) (k := .i8) (by kernel_rfl) (by kernel_rfl) (by kernel_rfl) (hval 1 _ _ rfl rfl) h1
 have i1 : I8 xs1 := ⟨by omega, fun x hx => u5 (g1 x hx)⟩
 obtain ⟨a2, n2, c2, s2, x2, l2, rfl, m2⟩ := vt (hval 2 _ _ rfl rfl) h2 (fun n hn => of_decide_eq_true (List.all_eq_true.1 hz0 n (DataW.weights_mem_each (j := 2) rfl rfl n hn)))
 obtain ⟨s3, x3, l3, rfl, m3zz⟩ := vu (hval 3 _ _ rfl rfl) h3 (fun n hn => of_decide_eq_true (List.all_eq_true.1 hz0 n (DataW.weights_mem_each (j := 3) rfl rfl n hn)))
 refine Calls.mono (xo w0 z0 s0 i0 c0 s1 i1 c1 m2 c2 m3zz) fun e W1 ⟨v, he, hv, hE⟩ => ?_
 subst he; subst hv
 exact ⟨_, rfl, rL (tb := 4) Tryz.laidOut (by kernel_rfl) (by kernel_rfl) (by kernel_rfl) rfl rfl hW' hE⟩
theorem hermiteContains_holds : Rows.HermiteContainsSaid :=
 OpenClaim.holds_of_wide 11 Tryz.f11 rfl rfl rfl rfl rfl rfl rfl ⟨rfl, rfl, rfl, rfl, rfl⟩ rfl rfl rfl rfl rfl (by kernel_rfl) Tryz.func11 (by kernel_rfl)
  (of_decide_eq_true (by kernel_rfl)) (by unfold Func.isWrapper; first|(rw [if_pos (by decide +kernel)]; kernel_rfl)|(rw [if_neg (by decide +kernel)]; exact ⟨rfl, rfl⟩))
  (fun os started H enc _ => hermiteContains_lifted os started H enc)
end Go.Proofs.YtiejljicpinheaaGreat
