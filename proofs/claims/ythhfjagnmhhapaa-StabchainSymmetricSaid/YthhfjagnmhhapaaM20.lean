import Derived.Test.YthhfjagnmhhapaaRows
import Derived.Carry
import Derived.ChangeSlices
import Derived.ChangeSame
import Derived.ChangeCalls
import Derived.SizedLaws
import Derived.JoinedOf
import Derived.JoinedAt
import Derived.Deep.Matrix
import Derived.Test.YthhfjagnmhhapaaM01
import Derived.Test.YthhfjagnmhhapaaM02
import Derived.Test.YthhfjagnmhhapaaM03
import Derived.Test.YthhfjagnmhhapaaM04
import Derived.Test.YthhfjagnmhhapaaM06
import Derived.Test.YthhfjagnmhhapaaM18
import Derived.Test.YthhfjagnmhhapaaM19

namespace Go.Proofs.Ythhfjagnmhhapaa
open Go.W Go.PM Go.LM
theorem symmetric_calls {w : World} : CallsR Try.prog 3 #[] w fun v w' => v = .bool true ∧ Ex w w' := by
  refine callsR_of (args := []) Try.func3 rfl rfl ?_
  repeat' (first | (refine k_pure rfl ?_) | (refine then_normal ?_) | (refine cw_seq ?_) | (refine cw_region rfl ?_) | (refine rr_nil ?_) | (refine k_len rfl ?_) | (refine g_run rfl rfl ?_) | (refine g_skip rfl rfl ?_) | (refine g_dec_f rfl rfl (fun hc => ?_) (fun hc => ?_)) | (refine g_dec_t rfl rfl (fun hc => ?_) (fun hc => ?_)) | (refine g_ndec_f rfl rfl (fun hc => ?_) (fun hc => ?_)) | (refine g_ndec_t rfl rfl (fun hc => ?_) (fun hc => ?_)) | (refine g_split rfl rfl (fun hc => ?_) (fun hc => ?_)) | (refine k_addI rfl rfl (by omega) (by omega) ?_) | (refine k_subI rfl rfl (by omega) (by omega) ?_) | (refine k_fieldAddr rfl ?_) | (refine k_eqlB rfl rfl ?_) | (refine k_neqB rfl rfl ?_) | (refine cw_cond_true rfl ?_) | (refine cw_cond_false rfl ?_) | (refine cw_cond_dec rfl (fun hc => ?_) (fun hc => ?_)) | (refine cw_cond_ndec rfl (fun hc => ?_) (fun hc => ?_)) | (refine cw_cond rfl (fun hc => ?_) (fun hc => ?_)) | (refine cw_block ?_) | (refine cw_exit ?_) | (refine then_exit ?_) | (refine in_exit ?_) | (refine in_exit_ne rfl ?_) | (refine in_normal ?_) | (refine cw_ret ?_) | (refine then_ret ?_) | (refine in_ret ?_) | (refine cw_skip ?_))
  refine k_lit (cs := (intsL [1, 0, 2, 3, 4, 5, 6, 7]).toArray) rfl (by kernel_rfl) (fun a1 wa1 ha1 => ⟨fun _ _ => trivial, ?_⟩)
  refine k_lit (cs := (intsL [1, 2, 3, 4, 5, 6, 7, 0]).toArray) rfl (by kernel_rfl) (fun b1 wb1 hb1 => ⟨fun _ _ => trivial, ?_⟩)
  refine k_lit (cs := ([(⟨some ⟨a1, 0, none⟩, 8, 8⟩ : SD), ⟨some ⟨b1, 0, none⟩, 8, 8⟩].map SD.val).toArray) rfl (by kernel_rfl) (fun l1 wl1 hl1 => ⟨fun _ _ => trivial, ?_⟩)
  have hLs1 : Lists wl1 .i64 (some ⟨l1, 0, none⟩) [⟨some ⟨a1, 0, none⟩, 8, 8⟩, ⟨some ⟨b1, 0, none⟩, 8, 8⟩] ge8 := Lists.of hl1.blk.sl ⟨⟨((ha1.blk.ext hb1.ex).ext hl1.ex).sl, rfl⟩, ⟨(hb1.blk.ext hl1.ex).sl, rfl⟩, trivial⟩
  refine k_call (sOrder_spec (n := 8) (cap := 2) hLs1 (by decide) (fun _ => by decide)) rfl ?_
  rintro v wo1 ⟨z1, rfl, hEo1, _, ho1⟩
  refine ⟨fun _ _ => trivial, ?_⟩
  have he1 : errS 8 ge8 = 0 := by kernel_rfl
  obtain ⟨k1, hk1, hz1⟩ := ho1 he1
  have hkk1 : k1 = 40320 := hk1.unique card8
  subst hkk1
  obtain ⟨cs1, rfl, hcl1, hco1⟩ := hz1.out
  rw [he1]
  repeat' (first | (refine k_pure rfl ?_) | (refine then_normal ?_) | (refine cw_seq ?_) | (refine cw_region rfl ?_) | (refine rr_nil ?_) | (refine k_len rfl ?_) | (refine g_run rfl rfl ?_) | (refine g_skip rfl rfl ?_) | (refine g_dec_f rfl rfl (fun hc => ?_) (fun hc => ?_)) | (refine g_dec_t rfl rfl (fun hc => ?_) (fun hc => ?_)) | (refine g_ndec_f rfl rfl (fun hc => ?_) (fun hc => ?_)) | (refine g_ndec_t rfl rfl (fun hc => ?_) (fun hc => ?_)) | (refine g_split rfl rfl (fun hc => ?_) (fun hc => ?_)) | (refine k_addI rfl rfl (by omega) (by omega) ?_) | (refine k_subI rfl rfl (by omega) (by omega) ?_) | (refine k_fieldAddr rfl ?_) | (refine k_eqlB rfl rfl ?_) | (refine k_neqB rfl rfl ?_) | (refine cw_cond_true rfl ?_) | (refine cw_cond_false rfl ?_) | (refine cw_cond_dec rfl (fun hc => ?_) (fun hc => ?_)) | (refine cw_cond_ndec rfl (fun hc => ?_) (fun hc => ?_)) | (refine cw_cond rfl (fun hc => ?_) (fun hc => ?_)) | (refine cw_block ?_) | (refine cw_exit ?_) | (refine then_exit ?_) | (refine in_exit ?_) | (refine in_exit_ne rfl ?_) | (refine in_normal ?_) | (refine cw_ret ?_) | (refine then_ret ?_) | (refine in_ret ?_) | (refine cw_skip ?_))
  refine k_allocA (vs := intL false none 0 0) (fun g1 wg1 hg1 => ⟨fun _ _ => trivial, ?_⟩)
  refine k_storeV (n := 2) rfl rfl hcl1 hco1 hg1.blk rfl (fun ws1 hc1 hs1 => ⟨fun _ _ => trivial, ?_⟩)
  have hX1 : Ex w ws1 := ((((ha1.ex.trans hb1.ex).trans hl1.ex).trans hEo1).trans hg1.ex).chg hc1 (by have h1 := hg1.lo; have h2 := ((ha1.ex.trans hb1.ex).trans hl1.ex).size; have h3 := hEo1.size; omega)
  have hq1 := (hz1.ext hg1.ex).chgO hc1 (hz1.off_hi hg1.lo)
  repeat' (first | (refine k_pure rfl ?_) | (refine then_normal ?_) | (refine cw_seq ?_) | (refine cw_region rfl ?_) | (refine rr_nil ?_) | (refine k_len rfl ?_) | (refine g_run rfl rfl ?_) | (refine g_skip rfl rfl ?_) | (refine g_dec_f rfl rfl (fun hc => ?_) (fun hc => ?_)) | (refine g_dec_t rfl rfl (fun hc => ?_) (fun hc => ?_)) | (refine g_ndec_f rfl rfl (fun hc => ?_) (fun hc => ?_)) | (refine g_ndec_t rfl rfl (fun hc => ?_) (fun hc => ?_)) | (refine g_split rfl rfl (fun hc => ?_) (fun hc => ?_)) | (refine k_addI rfl rfl (by omega) (by omega) ?_) | (refine k_subI rfl rfl (by omega) (by omega) ?_) | (refine k_fieldAddr rfl ?_) | (refine k_eqlB rfl rfl ?_) | (refine k_neqB rfl rfl ?_) | (refine cw_cond_true rfl ?_) | (refine cw_cond_false rfl ?_) | (refine cw_cond_dec rfl (fun hc => ?_) (fun hc => ?_)) | (refine cw_cond_ndec rfl (fun hc => ?_) (fun hc => ?_)) | (refine cw_cond rfl (fun hc => ?_) (fun hc => ?_)) | (refine cw_block ?_) | (refine cw_exit ?_) | (refine then_exit ?_) | (refine in_exit ?_) | (refine in_exit_ne rfl ?_) | (refine in_normal ?_) | (refine cw_ret ?_) | (refine then_ret ?_) | (refine in_ret ?_) | (refine cw_skip ?_))
  refine k_lit (cs := (intsL [1, 2, 0, 3, 4]).toArray) rfl (by kernel_rfl) (fun a2 wa2 ha2 => ⟨fun _ _ => trivial, ?_⟩)
  refine k_lit (cs := (intsL [0, 1, 3, 4, 2]).toArray) rfl (by kernel_rfl) (fun b2 wb2 hb2 => ⟨fun _ _ => trivial, ?_⟩)
  refine k_lit (cs := ([(⟨some ⟨a2, 0, none⟩, 5, 5⟩ : SD), ⟨some ⟨b2, 0, none⟩, 5, 5⟩].map SD.val).toArray) rfl (by kernel_rfl) (fun l2 wl2 hl2 => ⟨fun _ _ => trivial, ?_⟩)
  have hLs2 : Lists wl2 .i64 (some ⟨l2, 0, none⟩) [⟨some ⟨a2, 0, none⟩, 5, 5⟩, ⟨some ⟨b2, 0, none⟩, 5, 5⟩] ge5 := Lists.of hl2.blk.sl ⟨⟨((ha2.blk.ext hb2.ex).ext hl2.ex).sl, rfl⟩, ⟨(hb2.blk.ext hl2.ex).sl, rfl⟩, trivial⟩
  refine k_call (sOrder_spec (n := 5) (cap := 2) hLs2 (by decide) (fun _ => by decide)) rfl ?_
  rintro v wo2 ⟨z2, rfl, hEo2, _, ho2⟩
  refine ⟨fun _ _ => trivial, ?_⟩
  have he2 : errS 5 ge5 = 0 := by kernel_rfl
  obtain ⟨k2, hk2, hz2⟩ := ho2 he2
  have hkk2 : k2 = 60 := hk2.unique card5
  subst hkk2
  obtain ⟨cs2, rfl, hcl2, hco2⟩ := hz2.out
  rw [he2]
  repeat' (first | (refine k_pure rfl ?_) | (refine then_normal ?_) | (refine cw_seq ?_) | (refine cw_region rfl ?_) | (refine rr_nil ?_) | (refine k_len rfl ?_) | (refine g_run rfl rfl ?_) | (refine g_skip rfl rfl ?_) | (refine g_dec_f rfl rfl (fun hc => ?_) (fun hc => ?_)) | (refine g_dec_t rfl rfl (fun hc => ?_) (fun hc => ?_)) | (refine g_ndec_f rfl rfl (fun hc => ?_) (fun hc => ?_)) | (refine g_ndec_t rfl rfl (fun hc => ?_) (fun hc => ?_)) | (refine g_split rfl rfl (fun hc => ?_) (fun hc => ?_)) | (refine k_addI rfl rfl (by omega) (by omega) ?_) | (refine k_subI rfl rfl (by omega) (by omega) ?_) | (refine k_fieldAddr rfl ?_) | (refine k_eqlB rfl rfl ?_) | (refine k_neqB rfl rfl ?_) | (refine cw_cond_true rfl ?_) | (refine cw_cond_false rfl ?_) | (refine cw_cond_dec rfl (fun hc => ?_) (fun hc => ?_)) | (refine cw_cond_ndec rfl (fun hc => ?_) (fun hc => ?_)) | (refine cw_cond rfl (fun hc => ?_) (fun hc => ?_)) | (refine cw_block ?_) | (refine cw_exit ?_) | (refine then_exit ?_) | (refine in_exit ?_) | (refine in_exit_ne rfl ?_) | (refine in_normal ?_) | (refine cw_ret ?_) | (refine then_ret ?_) | (refine in_ret ?_) | (refine cw_skip ?_))
  refine k_allocA (vs := intL false none 0 0) (fun g2 wg2 hg2 => ⟨fun _ _ => trivial, ?_⟩)
  refine k_storeV (n := 2) rfl rfl hcl2 hco2 hg2.blk rfl (fun ws2 hc2 hs2 => ⟨fun _ _ => trivial, ?_⟩)
  have hX2 : Ex ws1 ws2 := ((((ha2.ex.trans hb2.ex).trans hl2.ex).trans hEo2).trans hg2.ex).chg hc2 (by have h1 := hg2.lo; have h2 := ((ha2.ex.trans hb2.ex).trans hl2.ex).size; have h3 := hEo2.size; omega)
  have hq2 := (hz2.ext hg2.ex).chgO hc2 (hz2.off_hi hg2.lo)
  repeat' (first | (refine k_pure rfl ?_) | (refine then_normal ?_) | (refine cw_seq ?_) | (refine cw_region rfl ?_) | (refine rr_nil ?_) | (refine k_len rfl ?_) | (refine g_run rfl rfl ?_) | (refine g_skip rfl rfl ?_) | (refine g_dec_f rfl rfl (fun hc => ?_) (fun hc => ?_)) | (refine g_dec_t rfl rfl (fun hc => ?_) (fun hc => ?_)) | (refine g_ndec_f rfl rfl (fun hc => ?_) (fun hc => ?_)) | (refine g_ndec_t rfl rfl (fun hc => ?_) (fun hc => ?_)) | (refine g_split rfl rfl (fun hc => ?_) (fun hc => ?_)) | (refine k_addI rfl rfl (by omega) (by omega) ?_) | (refine k_subI rfl rfl (by omega) (by omega) ?_) | (refine k_fieldAddr rfl ?_) | (refine k_eqlB rfl rfl ?_) | (refine k_neqB rfl rfl ?_) | (refine cw_cond_true rfl ?_) | (refine cw_cond_false rfl ?_) | (refine cw_cond_dec rfl (fun hc => ?_) (fun hc => ?_)) | (refine cw_cond_ndec rfl (fun hc => ?_) (fun hc => ?_)) | (refine cw_cond rfl (fun hc => ?_) (fun hc => ?_)) | (refine cw_block ?_) | (refine cw_exit ?_) | (refine then_exit ?_) | (refine in_exit ?_) | (refine in_exit_ne rfl ?_) | (refine in_normal ?_) | (refine cw_ret ?_) | (refine then_ret ?_) | (refine in_ret ?_) | (refine cw_skip ?_))
  refine k_lit (cs := (intsL [1, 2, 3, 4, 5, 6, 7, 8, 9, 10, 0]).toArray) rfl (by kernel_rfl) (fun a3 wa3 ha3 => ⟨fun _ _ => trivial, ?_⟩)
  refine k_lit (cs := (intsL [0, 1, 6, 9, 5, 3, 10, 2, 8, 4, 7]).toArray) rfl (by kernel_rfl) (fun b3 wb3 hb3 => ⟨fun _ _ => trivial, ?_⟩)
  refine k_lit (cs := ([(⟨some ⟨a3, 0, none⟩, 11, 11⟩ : SD), ⟨some ⟨b3, 0, none⟩, 11, 11⟩].map SD.val).toArray) rfl (by kernel_rfl) (fun l3 wl3 hl3 => ⟨fun _ _ => trivial, ?_⟩)
  have hLs3 : Lists wl3 .i64 (some ⟨l3, 0, none⟩) [⟨some ⟨a3, 0, none⟩, 11, 11⟩, ⟨some ⟨b3, 0, none⟩, 11, 11⟩] ge11 := Lists.of hl3.blk.sl ⟨⟨((ha3.blk.ext hb3.ex).ext hl3.ex).sl, rfl⟩, ⟨(hb3.blk.ext hl3.ex).sl, rfl⟩, trivial⟩
  refine k_call (sOrder_spec (n := 11) (cap := 2) hLs3 (by decide) (fun _ => by decide)) rfl ?_
  rintro v wo3 ⟨z3, rfl, hEo3, _, ho3⟩
  refine ⟨fun _ _ => trivial, ?_⟩
  have he3 : errS 11 ge11 = 0 := by kernel_rfl
  obtain ⟨k3, hk3, hz3⟩ := ho3 he3
  have hkk3 : k3 = 7920 := hk3.unique card11
  subst hkk3
  obtain ⟨cs3, rfl, hcl3, hco3⟩ := hz3.out
  rw [he3]
  repeat' (first | (refine k_pure rfl ?_) | (refine then_normal ?_) | (refine cw_seq ?_) | (refine cw_region rfl ?_) | (refine rr_nil ?_) | (refine k_len rfl ?_) | (refine g_run rfl rfl ?_) | (refine g_skip rfl rfl ?_) | (refine g_dec_f rfl rfl (fun hc => ?_) (fun hc => ?_)) | (refine g_dec_t rfl rfl (fun hc => ?_) (fun hc => ?_)) | (refine g_ndec_f rfl rfl (fun hc => ?_) (fun hc => ?_)) | (refine g_ndec_t rfl rfl (fun hc => ?_) (fun hc => ?_)) | (refine g_split rfl rfl (fun hc => ?_) (fun hc => ?_)) | (refine k_addI rfl rfl (by omega) (by omega) ?_) | (refine k_subI rfl rfl (by omega) (by omega) ?_) | (refine k_fieldAddr rfl ?_) | (refine k_eqlB rfl rfl ?_) | (refine k_neqB rfl rfl ?_) | (refine cw_cond_true rfl ?_) | (refine cw_cond_false rfl ?_) | (refine cw_cond_dec rfl (fun hc => ?_) (fun hc => ?_)) | (refine cw_cond_ndec rfl (fun hc => ?_) (fun hc => ?_)) | (refine cw_cond rfl (fun hc => ?_) (fun hc => ?_)) | (refine cw_block ?_) | (refine cw_exit ?_) | (refine then_exit ?_) | (refine in_exit ?_) | (refine in_exit_ne rfl ?_) | (refine in_normal ?_) | (refine cw_ret ?_) | (refine then_ret ?_) | (refine in_ret ?_) | (refine cw_skip ?_))
  refine k_allocA (vs := intL false none 0 0) (fun g3 wg3 hg3 => ⟨fun _ _ => trivial, ?_⟩)
  refine k_storeV (n := 2) rfl rfl hcl3 hco3 hg3.blk rfl (fun ws3 hc3 hs3 => ⟨fun _ _ => trivial, ?_⟩)
  have hX3 : Ex ws2 ws3 := ((((ha3.ex.trans hb3.ex).trans hl3.ex).trans hEo3).trans hg3.ex).chg hc3 (by have h1 := hg3.lo; have h2 := ((ha3.ex.trans hb3.ex).trans hl3.ex).size; have h3 := hEo3.size; omega)
  have hq3 := (hz3.ext hg3.ex).chgO hc3 (hz3.off_hi hg3.lo)
  repeat' (first | (refine k_pure rfl ?_) | (refine then_normal ?_) | (refine cw_seq ?_) | (refine cw_region rfl ?_) | (refine rr_nil ?_) | (refine k_len rfl ?_) | (refine g_run rfl rfl ?_) | (refine g_skip rfl rfl ?_) | (refine g_dec_f rfl rfl (fun hc => ?_) (fun hc => ?_)) | (refine g_dec_t rfl rfl (fun hc => ?_) (fun hc => ?_)) | (refine g_ndec_f rfl rfl (fun hc => ?_) (fun hc => ?_)) | (refine g_ndec_t rfl rfl (fun hc => ?_) (fun hc => ?_)) | (refine g_split rfl rfl (fun hc => ?_) (fun hc => ?_)) | (refine k_addI rfl rfl (by omega) (by omega) ?_) | (refine k_subI rfl rfl (by omega) (by omega) ?_) | (refine k_fieldAddr rfl ?_) | (refine k_eqlB rfl rfl ?_) | (refine k_neqB rfl rfl ?_) | (refine cw_cond_true rfl ?_) | (refine cw_cond_false rfl ?_) | (refine cw_cond_dec rfl (fun hc => ?_) (fun hc => ?_)) | (refine cw_cond_ndec rfl (fun hc => ?_) (fun hc => ?_)) | (refine cw_cond rfl (fun hc => ?_) (fun hc => ?_)) | (refine cw_block ?_) | (refine cw_exit ?_) | (refine then_exit ?_) | (refine in_exit ?_) | (refine in_exit_ne rfl ?_) | (refine in_normal ?_) | (refine cw_ret ?_) | (refine then_ret ?_) | (refine in_ret ?_) | (refine cw_skip ?_))
  have hB1 := (hs1.ext hX2).ext hX3
  have hB2 := hs2.ext hX3
  have hQ1 := (hq1.ext hX2).ext hX3
  have hQ2 := hq2.ext hX3
  have hEx : Ex ws3 ws3.drew := (Ex.refl ws3).drew
  refine cw_tree (fun w' => Ex ws3 w') mixed hEx ?_
  refine rb_pre (fuel := 14) (by kernel_rfl) (by kernel_rfl) [0, 1, 2, 3, 4, 5, 6, 7, 8, 9, 10, 11] _ _ (by kernel_rfl) ?_
  repeat' (first | (refine k_loadCA (g := g1) rfl (fun _ h => hB1.ext h) hcl1 ?_) | (refine k_loadCA (g := g2) rfl (fun _ h => hB2.ext h) hcl2 ?_) | (refine k_loadCA (g := g3) rfl (fun _ h => hs3.ext h) hcl3 ?_) | (refine k_pure rfl ?_) | (refine then_normal ?_) | (refine cw_seq ?_) | (refine cw_region rfl ?_) | (refine rr_nil ?_) | (refine k_len rfl ?_) | (refine g_run rfl rfl ?_) | (refine g_skip rfl rfl ?_) | (refine g_dec_f rfl rfl (fun hc => ?_) (fun hc => ?_)) | (refine g_dec_t rfl rfl (fun hc => ?_) (fun hc => ?_)) | (refine g_ndec_f rfl rfl (fun hc => ?_) (fun hc => ?_)) | (refine g_ndec_t rfl rfl (fun hc => ?_) (fun hc => ?_)) | (refine g_split rfl rfl (fun hc => ?_) (fun hc => ?_)) | (refine k_addI rfl rfl (by omega) (by omega) ?_) | (refine k_subI rfl rfl (by omega) (by omega) ?_) | (refine k_fieldAddr rfl ?_) | (refine k_eqlB rfl rfl ?_) | (refine k_neqB rfl rfl ?_) | (refine cw_cond_true rfl ?_) | (refine cw_cond_false rfl ?_) | (refine cw_cond_dec rfl (fun hc => ?_) (fun hc => ?_)) | (refine cw_cond_ndec rfl (fun hc => ?_) (fun hc => ?_)) | (refine cw_cond rfl (fun hc => ?_) (fun hc => ?_)) | (refine cw_block ?_) | (refine cw_exit ?_) | (refine then_exit ?_) | (refine in_exit ?_) | (refine in_exit_ne rfl ?_) | (refine in_normal ?_) | (refine cw_ret ?_) | (refine then_ret ?_) | (refine in_ret ?_) | (refine cw_skip ?_))
  refine rb_all (fuel := 13) (rs := [12]) (by kernel_rfl) (by kernel_rfl) rfl ?_
  rw [List.forall_mem_singleton]
  refine g_run rfl rfl ?_
  refine k_call (refSmall_spec (z := 40320) (by decide) (by decide) _) rfl ?_
  rintro v4 w12 ⟨hm4, hE12⟩
  refine ⟨fun _ h => h.trans hE12, ?_⟩
  replace hEx := hEx.trans hE12
  refine rr_nil ?_
  refine rb_all (fuel := 12) (rs := [13]) (by kernel_rfl) (by kernel_rfl) rfl ?_
  rw [List.forall_mem_singleton]
  refine g_run rfl rfl ?_
  refine k_call (refSame_spec (hQ1.ext hEx) hm4) rfl ?_
  rintro v w13 ⟨rfl, hE13⟩
  refine ⟨fun _ h => h.trans hE13, ?_⟩
  replace hEx := hEx.trans hE13
  rw [decide_eq_true (p := (((40320 : Nat) : Int) = 40320)) rfl]
  refine rr_nil ?_
  refine rb_pre (fuel := 9) (by kernel_rfl) (by kernel_rfl) [14, 15, 16] _ _ (by kernel_rfl) ?_
  repeat' (first | (refine k_loadCA (g := g1) rfl (fun _ h => hB1.ext h) hcl1 ?_) | (refine k_loadCA (g := g2) rfl (fun _ h => hB2.ext h) hcl2 ?_) | (refine k_loadCA (g := g3) rfl (fun _ h => hs3.ext h) hcl3 ?_) | (refine k_pure rfl ?_) | (refine then_normal ?_) | (refine cw_seq ?_) | (refine cw_region rfl ?_) | (refine rr_nil ?_) | (refine k_len rfl ?_) | (refine g_run rfl rfl ?_) | (refine g_skip rfl rfl ?_) | (refine g_dec_f rfl rfl (fun hc => ?_) (fun hc => ?_)) | (refine g_dec_t rfl rfl (fun hc => ?_) (fun hc => ?_)) | (refine g_ndec_f rfl rfl (fun hc => ?_) (fun hc => ?_)) | (refine g_ndec_t rfl rfl (fun hc => ?_) (fun hc => ?_)) | (refine g_split rfl rfl (fun hc => ?_) (fun hc => ?_)) | (refine k_addI rfl rfl (by omega) (by omega) ?_) | (refine k_subI rfl rfl (by omega) (by omega) ?_) | (refine k_fieldAddr rfl ?_) | (refine k_eqlB rfl rfl ?_) | (refine k_neqB rfl rfl ?_) | (refine cw_cond_true rfl ?_) | (refine cw_cond_false rfl ?_) | (refine cw_cond_dec rfl (fun hc => ?_) (fun hc => ?_)) | (refine cw_cond_ndec rfl (fun hc => ?_) (fun hc => ?_)) | (refine cw_cond rfl (fun hc => ?_) (fun hc => ?_)) | (refine cw_block ?_) | (refine cw_exit ?_) | (refine then_exit ?_) | (refine in_exit ?_) | (refine in_exit_ne rfl ?_) | (refine in_normal ?_) | (refine cw_ret ?_) | (refine then_ret ?_) | (refine in_ret ?_) | (refine cw_skip ?_))
  refine rb_all (fuel := 8) (rs := [17]) (by kernel_rfl) (by kernel_rfl) rfl ?_
  rw [List.forall_mem_singleton]
  refine g_run rfl rfl ?_
  refine k_call (refSmall_spec (z := 60) (by decide) (by decide) _) rfl ?_
  rintro v5 w17 ⟨hm5, hE17⟩
  refine ⟨fun _ h => h.trans hE17, ?_⟩
  replace hEx := hEx.trans hE17
  refine rr_nil ?_
  refine rb_all (fuel := 7) (rs := [18]) (by kernel_rfl) (by kernel_rfl) rfl ?_
  rw [List.forall_mem_singleton]
  refine g_run rfl rfl ?_
  refine k_call (refSame_spec (hQ2.ext hEx) hm5) rfl ?_
  rintro v w18 ⟨rfl, hE18⟩
  refine ⟨fun _ h => h.trans hE18, ?_⟩
  replace hEx := hEx.trans hE18
  rw [decide_eq_true (p := (((60 : Nat) : Int) = 60)) rfl]
  refine rr_nil ?_
  refine rb_pre (fuel := 4) (by kernel_rfl) (by kernel_rfl) [19, 20, 21] _ _ (by kernel_rfl) ?_
  repeat' (first | (refine k_loadCA (g := g1) rfl (fun _ h => hB1.ext h) hcl1 ?_) | (refine k_loadCA (g := g2) rfl (fun _ h => hB2.ext h) hcl2 ?_) | (refine k_loadCA (g := g3) rfl (fun _ h => hs3.ext h) hcl3 ?_) | (refine k_pure rfl ?_) | (refine then_normal ?_) | (refine cw_seq ?_) | (refine cw_region rfl ?_) | (refine rr_nil ?_) | (refine k_len rfl ?_) | (refine g_run rfl rfl ?_) | (refine g_skip rfl rfl ?_) | (refine g_dec_f rfl rfl (fun hc => ?_) (fun hc => ?_)) | (refine g_dec_t rfl rfl (fun hc => ?_) (fun hc => ?_)) | (refine g_ndec_f rfl rfl (fun hc => ?_) (fun hc => ?_)) | (refine g_ndec_t rfl rfl (fun hc => ?_) (fun hc => ?_)) | (refine g_split rfl rfl (fun hc => ?_) (fun hc => ?_)) | (refine k_addI rfl rfl (by omega) (by omega) ?_) | (refine k_subI rfl rfl (by omega) (by omega) ?_) | (refine k_fieldAddr rfl ?_) | (refine k_eqlB rfl rfl ?_) | (refine k_neqB rfl rfl ?_) | (refine cw_cond_true rfl ?_) | (refine cw_cond_false rfl ?_) | (refine cw_cond_dec rfl (fun hc => ?_) (fun hc => ?_)) | (refine cw_cond_ndec rfl (fun hc => ?_) (fun hc => ?_)) | (refine cw_cond rfl (fun hc => ?_) (fun hc => ?_)) | (refine cw_block ?_) | (refine cw_exit ?_) | (refine then_exit ?_) | (refine in_exit ?_) | (refine in_exit_ne rfl ?_) | (refine in_normal ?_) | (refine cw_ret ?_) | (refine then_ret ?_) | (refine in_ret ?_) | (refine cw_skip ?_))
  refine rb_all (fuel := 3) (rs := [22]) (by kernel_rfl) (by kernel_rfl) rfl ?_
  rw [List.forall_mem_singleton]
  refine g_run rfl rfl ?_
  refine k_call (refSmall_spec (z := 7920) (by decide) (by decide) _) rfl ?_
  rintro v6 w22 ⟨hm6, hE22⟩
  refine ⟨fun _ h => h.trans hE22, ?_⟩
  replace hEx := hEx.trans hE22
  refine rr_nil ?_
  refine rb_all (fuel := 2) (rs := [23]) (by kernel_rfl) (by kernel_rfl) rfl ?_
  rw [List.forall_mem_singleton]
  refine g_run rfl rfl ?_
  refine k_call (refSame_spec (hq3.ext hEx) hm6) rfl ?_
  rintro v w23 ⟨rfl, hE23⟩
  refine ⟨fun _ h => h.trans hE23, ?_⟩
  replace hEx := hEx.trans hE23
  rw [decide_eq_true (p := (((7920 : Nat) : Int) = 7920)) rfl]
  refine rr_nil ?_
  refine rb_pre (fuel := 0) (by kernel_rfl) (by kernel_rfl) [24, 25] _ _ (by kernel_rfl) ?_
  repeat' (first | (refine k_loadCA (g := g1) rfl (fun _ h => hB1.ext h) hcl1 ?_) | (refine k_loadCA (g := g2) rfl (fun _ h => hB2.ext h) hcl2 ?_) | (refine k_loadCA (g := g3) rfl (fun _ h => hs3.ext h) hcl3 ?_) | (refine k_pure rfl ?_) | (refine then_normal ?_) | (refine cw_seq ?_) | (refine cw_region rfl ?_) | (refine rr_nil ?_) | (refine k_len rfl ?_) | (refine g_run rfl rfl ?_) | (refine g_skip rfl rfl ?_) | (refine g_dec_f rfl rfl (fun hc => ?_) (fun hc => ?_)) | (refine g_dec_t rfl rfl (fun hc => ?_) (fun hc => ?_)) | (refine g_ndec_f rfl rfl (fun hc => ?_) (fun hc => ?_)) | (refine g_ndec_t rfl rfl (fun hc => ?_) (fun hc => ?_)) | (refine g_split rfl rfl (fun hc => ?_) (fun hc => ?_)) | (refine k_addI rfl rfl (by omega) (by omega) ?_) | (refine k_subI rfl rfl (by omega) (by omega) ?_) | (refine k_fieldAddr rfl ?_) | (refine k_eqlB rfl rfl ?_) | (refine k_neqB rfl rfl ?_) | (refine cw_cond_true rfl ?_) | (refine cw_cond_false rfl ?_) | (refine cw_cond_dec rfl (fun hc => ?_) (fun hc => ?_)) | (refine cw_cond_ndec rfl (fun hc => ?_) (fun hc => ?_)) | (refine cw_cond rfl (fun hc => ?_) (fun hc => ?_)) | (refine cw_block ?_) | (refine cw_exit ?_) | (refine then_exit ?_) | (refine in_exit ?_) | (refine in_exit_ne rfl ?_) | (refine in_normal ?_) | (refine cw_ret ?_) | (refine then_ret ?_) | (refine in_ret ?_) | (refine cw_skip ?_))
  refine rb_done (by kernel_rfl) ?_
  repeat' (first | (refine k_pure rfl ?_) | (refine then_normal ?_) | (refine cw_seq ?_) | (refine cw_region rfl ?_) | (refine rr_nil ?_) | (refine k_len rfl ?_) | (refine g_run rfl rfl ?_) | (refine g_skip rfl rfl ?_) | (refine g_dec_f rfl rfl (fun hc => ?_) (fun hc => ?_)) | (refine g_dec_t rfl rfl (fun hc => ?_) (fun hc => ?_)) | (refine g_ndec_f rfl rfl (fun hc => ?_) (fun hc => ?_)) | (refine g_ndec_t rfl rfl (fun hc => ?_) (fun hc => ?_)) | (refine g_split rfl rfl (fun hc => ?_) (fun hc => ?_)) | (refine k_addI rfl rfl (by omega) (by omega) ?_) | (refine k_subI rfl rfl (by omega) (by omega) ?_) | (refine k_fieldAddr rfl ?_) | (refine k_eqlB rfl rfl ?_) | (refine k_neqB rfl rfl ?_) | (refine cw_cond_true rfl ?_) | (refine cw_cond_false rfl ?_) | (refine cw_cond_dec rfl (fun hc => ?_) (fun hc => ?_)) | (refine cw_cond_ndec rfl (fun hc => ?_) (fun hc => ?_)) | (refine cw_cond rfl (fun hc => ?_) (fun hc => ?_)) | (refine cw_block ?_) | (refine cw_exit ?_) | (refine then_exit ?_) | (refine in_exit ?_) | (refine in_exit_ne rfl ?_) | (refine in_normal ?_) | (refine cw_ret ?_) | (refine then_ret ?_) | (refine in_ret ?_) | (refine cw_skip ?_))
  exact ret1 rfl (rt rfl) ⟨rfl, ((hX1.trans hX2).trans hX3).trans hEx⟩
end Go.Proofs.Ythhfjagnmhhapaa

namespace Go.W
open Go.ChangeShapes Go.WideShapes Go.ChangeAt Go.RowKit
section
variable {H : Type} {enc : TypeId × Value → H} {P : Program} {W W' : World}
/-- arguments read behind the call as before, if below the heap's old size nothing has changed -/
theorem trodAll_stays (hl : laidOutB P = true) (hb : Below W.heap.size W W') {sp : Nat → Bool} : ∀ {ts : List TypeId} {vs : List Value} {ds : List (DataW H)} {ps : List MemPlace},
    ts.all (fun t => P.readableRec t && decide (t < P.types.size)) = true → DataW.TrodAll enc P W 0 (fun _ => true) true ts vs ds ps → (∀ x ∈ ps, x.block < W.heap.size) → (∀ x ∈ ps, sp x.block = true) →
    DataW.TrodAll enc P W' 0 sp true ts vs ds ps
  | [], [], [], _, _, h, _, _ => h
  | t :: ts, v :: vs, d :: ds, _, ht, ⟨p, q, h1, h2, e⟩, hlt, hs => by
    simp only [List.all_cons, Bool.and_eq_true, decide_eq_true_eq] at ht
    exact ⟨p, q, WideElems.Trod_stays hl ht.1.1 ht.1.2 h1 (fun x hx => hb.same (hlt x (by rw [e]; exact List.mem_append_left _ hx))) (fun x hx => hs x (by rw [e]; exact List.mem_append_left _ hx)),
      trodAll_stays hl hb ht.2 h2 (fun x hx => hlt x (by rw [e]; exact List.mem_append_right _ hx)) (fun x hx => hs x (by rw [e]; exact List.mem_append_right _ hx)), e⟩
/-- the last step of a law's row: it has returned true, and below the heap's old size nothing has changed -/
theorem law_post {f : Func} {s : ChangeSpec} {apart fresh handsOn again : Bool} {args : Array Value} {ds gs : List (DataW H)} {before : List MemPlace} {tb : TypeId}
    (hl : laidOutB P = true) (hrd : f.params.toList.all (fun t => P.readableRec t && decide (t < P.types.size)) = true) (hrt : f.resultTypes = #[tb]) (htb : P.underlying tb = some .bool) (hvars : s.vars = [])
    (hspec : s.fn H (ds ++ gs) = { results := [.lit (.bool true)], args := ds })
    (hW : DataW.Whole enc P f.params.toList s.vars apart W args.toList ds gs before) (hb : Below W.heap.size W W') :
    s.post enc P f apart fresh handsOn again W args (.bool true) W' := by
  have hlt : ∀ p ∈ before, p.block < W.heap.size := fun p hp => hW.lt p hp
  have hW0 := hW
  obtain ⟨pa, pv, hA, hV, hps, hz, hn⟩ := hW
  rw [hvars] at hV
  obtain ⟨rfl, rfl⟩ := trodVars_none hV
  have hps' : before = pa ++ [] := hps
  have hres : ∀ (b : Nat) (sp : Nat → Bool) (hd : Bool), DataW.TrodAll enc P W' b sp hd f.resultTypes.toList ((Value.bool true).resultList f.resultTypes.size) (s.fn H (ds ++ [])).results [] := fun b sp hd => by
    rw [hspec, hrt]; exact trodAll_mk1 (shut_bool htb _)
  have hargs : ∀ sp : Nat → Bool, (∀ p ∈ before, sp p.block = true) → DataW.TrodAll enc P W' 0 sp true f.params.toList args.toList (s.fn H (ds ++ [])).args pa := fun sp hsp => by
    rw [hspec]; exact trodAll_stays hl hb hrd hA (fun x hx => hlt x (by rw [hps']; simpa using hx)) (fun x hx => hsp x (by rw [hps']; simpa using hx))
  have hvs : ∀ sp : Nat → Bool, (∀ p ∈ before, sp p.block = true) → DataW.TrodVars enc P W' sp s.vars (s.fn H (ds ++ [])).vars [] := fun sp _ => by rw [hspec, hvars]; rfl
  have hok : ∀ (j : Nat) (t : TypeId) (r : Value), f.resultTypes[j]? = some t → ((Value.bool true).resultList f.resultTypes.size)[j]? = some r → Value.okWide P W' .any 0 t r := ok_one hrt rfl (okWide_bool_mk htb _)
  have hold : ∀ p ∈ before, (fun b => decide (b < W.heap.size)) p.block = true := fun p hp => by simpa using hlt p hp
  refine ⟨ds, [], before, [], pa, [], hW0, hres _ _ _, hargs _ hold, hvs _ hold, World.keptBut_mono (fun p hp => ⟨hp, ?_⟩) (hb.frame (· ∈ before)), fun _ => ?_⟩
  · rw [hps', List.mem_append] at hp
    exact Or.inr hp
  · refine ⟨hok, _, _, ([] ++ pa) ++ [], ⟨[] ++ pa, [], trodAll_append (hargs _ (fun _ _ => rfl)) (hres _ _ _), hvs _ (fun _ _ => rfl), rfl, ?_, ?_⟩, ?_⟩
    · intro b off hp
      have hin : MemPlace.cell b off ∈ before := by rw [hps']; simpa using hp
      rw [hb.frozen (hlt _ hin)]
      exact hz b off hin
    · intro ha
      have := hn ha
      rw [hps'] at this
      simpa using this
    · intro p hp _
      rw [hps']
      simpa using hp
end
end Go.W
namespace Go.Proofs.Ythhfjagnmhhapaa
theorem Try.own : ownKnob Try.prog.godebug = none := by kernel_rfl
theorem Try.laidOut : laidOutB Try.prog = true := by kernel_rfl
end Go.Proofs.Ythhfjagnmhhapaa

