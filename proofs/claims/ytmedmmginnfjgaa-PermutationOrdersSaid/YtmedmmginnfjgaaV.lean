import Derived.Test.YtmedmmginnfjgaaR
import Derived.Test.YtmedmmginnfjgaaU
namespace Go.Proofs.Ytmedmmginnfjgaa
open Go.W Go.PM Go.LM

theorem aw1 : composeF [1, 0, 2] [0, 2, 1] = ([2, 0, 1], true) := by decide
theorem aw2 : orderF [2, 0, 1] = 3 := by decide
theorem aw3 : orbitsF 4 [[1, 0, 2, 3]] = [[0, 1], [2], [3]] := by decide
theorem aw4 : errF 4 [[1, 0, 2, 3]] 0 = 0 := by decide

theorem awake_spec (w : World) : CallsR Try.prog 16 #[] w fun v w' => v = .bool true ∧ Ex w w' := by
  refine callsR_of (args := []) Try.func16 rfl rfl ?_
  repeat' (first | (refine k_pure rfl ?_) | (refine then_normal ?_) | (refine cw_seq ?_) | (refine cw_region rfl ?_) | (refine rr_nil ?_) | (refine k_len rfl ?_) | (refine g_run rfl rfl ?_) | (refine g_skip rfl rfl ?_) | (refine g_dec_f rfl rfl (fun hc => ?_) (fun hc => ?_)) | (refine g_dec_t rfl rfl (fun hc => ?_) (fun hc => ?_)) | (refine g_ndec_f rfl rfl (fun hc => ?_) (fun hc => ?_)) | (refine g_ndec_t rfl rfl (fun hc => ?_) (fun hc => ?_)) | (refine g_split rfl rfl (fun hc => ?_) (fun hc => ?_)) | (refine k_addI rfl rfl (by omega) (by omega) ?_) | (refine k_subI rfl rfl (by omega) (by omega) ?_) | (refine k_fieldAddr rfl ?_) | (refine k_eqlB rfl rfl ?_) | (refine k_neqB rfl rfl ?_) | (refine cw_cond_true rfl ?_) | (refine cw_cond_false rfl ?_) | (refine cw_cond_dec rfl (fun hc => ?_) (fun hc => ?_)) | (refine cw_cond_ndec rfl (fun hc => ?_) (fun hc => ?_)) | (refine cw_cond rfl (fun hc => ?_) (fun hc => ?_)) | (refine cw_block ?_) | (refine cw_exit ?_) | (refine then_exit ?_) | (refine in_exit ?_) | (refine in_exit_ne rfl ?_) | (refine in_normal ?_) | (refine cw_ret ?_) | (refine then_ret ?_) | (refine in_ret ?_) | (refine cw_skip ?_))
  refine k_lit (cs := (intsL [1, 0, 2]).toArray) rfl (by kernel_rfl) (fun g1 w1 hn1 => ⟨fun _ _ => trivial, ?_⟩)
  refine k_lit (cs := (intsL [0, 2, 1]).toArray) rfl (by kernel_rfl) (fun g2 w2 hn2 => ⟨fun _ _ => trivial, ?_⟩)
  refine k_call (compose_spec (xs := [1, 0, 2]) (ys := [0, 2, 1]) (hn1.blk.ext hn2.ex).sl hn2.blk.sl _ _) rfl ?_
  rw [aw1]
  rintro v w3 ⟨b, c, rfl, hO3, hE3⟩
  refine ⟨fun _ _ => trivial, ?_⟩
  repeat' (first | (refine k_pure rfl ?_) | (refine then_normal ?_) | (refine cw_seq ?_) | (refine cw_region rfl ?_) | (refine rr_nil ?_) | (refine k_len rfl ?_) | (refine g_run rfl rfl ?_) | (refine g_skip rfl rfl ?_) | (refine g_dec_f rfl rfl (fun hc => ?_) (fun hc => ?_)) | (refine g_dec_t rfl rfl (fun hc => ?_) (fun hc => ?_)) | (refine g_ndec_f rfl rfl (fun hc => ?_) (fun hc => ?_)) | (refine g_ndec_t rfl rfl (fun hc => ?_) (fun hc => ?_)) | (refine g_split rfl rfl (fun hc => ?_) (fun hc => ?_)) | (refine k_addI rfl rfl (by omega) (by omega) ?_) | (refine k_subI rfl rfl (by omega) (by omega) ?_) | (refine k_fieldAddr rfl ?_) | (refine k_eqlB rfl rfl ?_) | (refine k_neqB rfl rfl ?_) | (refine cw_cond_true rfl ?_) | (refine cw_cond_false rfl ?_) | (refine cw_cond_dec rfl (fun hc => ?_) (fun hc => ?_)) | (refine cw_cond_ndec rfl (fun hc => ?_) (fun hc => ?_)) | (refine cw_cond rfl (fun hc => ?_) (fun hc => ?_)) | (refine cw_block ?_) | (refine cw_exit ?_) | (refine then_exit ?_) | (refine in_exit ?_) | (refine in_exit_ne rfl ?_) | (refine in_normal ?_) | (refine cw_ret ?_) | (refine then_ret ?_) | (refine in_ret ?_) | (refine cw_skip ?_))
  refine k_call (order_spec (xs := [2, 0, 1]) hO3.sl _ cycles_ne (ordTo_64 (by decide))) rfl ?_
  rintro v w4 ⟨n4, rfl, hz4, hE4⟩
  refine ⟨fun _ _ => trivial, ?_⟩
  rw [if_pos (by decide), aw2] at hz4
  rw [decide_eq_true (by decide)]
  obtain ⟨cs4, rfl, hl4, ho4⟩ := hz4.out
  repeat' (first | (refine k_pure rfl ?_) | (refine then_normal ?_) | (refine cw_seq ?_) | (refine cw_region rfl ?_) | (refine rr_nil ?_) | (refine k_len rfl ?_) | (refine g_run rfl rfl ?_) | (refine g_skip rfl rfl ?_) | (refine g_dec_f rfl rfl (fun hc => ?_) (fun hc => ?_)) | (refine g_dec_t rfl rfl (fun hc => ?_) (fun hc => ?_)) | (refine g_ndec_f rfl rfl (fun hc => ?_) (fun hc => ?_)) | (refine g_ndec_t rfl rfl (fun hc => ?_) (fun hc => ?_)) | (refine g_split rfl rfl (fun hc => ?_) (fun hc => ?_)) | (refine k_addI rfl rfl (by omega) (by omega) ?_) | (refine k_subI rfl rfl (by omega) (by omega) ?_) | (refine k_fieldAddr rfl ?_) | (refine k_eqlB rfl rfl ?_) | (refine k_neqB rfl rfl ?_) | (refine cw_cond_true rfl ?_) | (refine cw_cond_false rfl ?_) | (refine cw_cond_dec rfl (fun hc => ?_) (fun hc => ?_)) | (refine cw_cond_ndec rfl (fun hc => ?_) (fun hc => ?_)) | (refine cw_cond rfl (fun hc => ?_) (fun hc => ?_)) | (refine cw_block ?_) | (refine cw_exit ?_) | (refine then_exit ?_) | (refine in_exit ?_) | (refine in_exit_ne rfl ?_) | (refine in_normal ?_) | (refine cw_ret ?_) | (refine then_ret ?_) | (refine in_ret ?_) | (refine cw_skip ?_))
  refine k_alloc (fun g5 w5 hn5 => ⟨fun _ _ => trivial, ?_⟩)
  refine k_storeV (n := 2) rfl rfl hl4 ho4 hn5.blk rfl (fun w6 hc6 hb6 => ⟨fun _ _ => trivial, ?_⟩)
  repeat' (first | (refine k_pure rfl ?_) | (refine then_normal ?_) | (refine cw_seq ?_) | (refine cw_region rfl ?_) | (refine rr_nil ?_) | (refine k_len rfl ?_) | (refine g_run rfl rfl ?_) | (refine g_skip rfl rfl ?_) | (refine g_dec_f rfl rfl (fun hc => ?_) (fun hc => ?_)) | (refine g_dec_t rfl rfl (fun hc => ?_) (fun hc => ?_)) | (refine g_ndec_f rfl rfl (fun hc => ?_) (fun hc => ?_)) | (refine g_ndec_t rfl rfl (fun hc => ?_) (fun hc => ?_)) | (refine g_split rfl rfl (fun hc => ?_) (fun hc => ?_)) | (refine k_addI rfl rfl (by omega) (by omega) ?_) | (refine k_subI rfl rfl (by omega) (by omega) ?_) | (refine k_fieldAddr rfl ?_) | (refine k_eqlB rfl rfl ?_) | (refine k_neqB rfl rfl ?_) | (refine cw_cond_true rfl ?_) | (refine cw_cond_false rfl ?_) | (refine cw_cond_dec rfl (fun hc => ?_) (fun hc => ?_)) | (refine cw_cond_ndec rfl (fun hc => ?_) (fun hc => ?_)) | (refine cw_cond rfl (fun hc => ?_) (fun hc => ?_)) | (refine cw_block ?_) | (refine cw_exit ?_) | (refine then_exit ?_) | (refine in_exit ?_) | (refine in_exit_ne rfl ?_) | (refine in_normal ?_) | (refine cw_ret ?_) | (refine then_ret ?_) | (refine in_ret ?_) | (refine cw_skip ?_))
  refine k_lit (cs := (intsL [1, 0, 2, 3]).toArray) rfl (by kernel_rfl) (fun g7 w7 hn7 => ⟨fun _ _ => trivial, ?_⟩)
  refine k_lit (cs := ([(⟨some ⟨g7, 0, none⟩, 4, 4⟩ : SD)].map SD.val).toArray) rfl (by kernel_rfl) (fun g8 w8 hn8 => ⟨fun _ _ => trivial, ?_⟩)
  have hLs8 : Lists w8 .i64 (some ⟨g8, 0, none⟩) [⟨some ⟨g7, 0, none⟩, 4, 4⟩] [[1, 0, 2, 3]] := Lists.of hn8.blk.sl ⟨⟨(hn7.blk.ext hn8.ex).sl, rfl⟩, trivial⟩
  refine k_call (orbits_spec (n := 4) hLs8 _ (by decide)) rfl ?_
  rw [aw3, aw4]
  rintro v w9 ⟨b9, c9, sds9, rfl, hL9, hE9⟩
  refine ⟨fun _ _ => trivial, ?_⟩
  repeat' (first | (refine k_pure rfl ?_) | (refine then_normal ?_) | (refine cw_seq ?_) | (refine cw_region rfl ?_) | (refine rr_nil ?_) | (refine k_len rfl ?_) | (refine g_run rfl rfl ?_) | (refine g_skip rfl rfl ?_) | (refine g_dec_f rfl rfl (fun hc => ?_) (fun hc => ?_)) | (refine g_dec_t rfl rfl (fun hc => ?_) (fun hc => ?_)) | (refine g_ndec_f rfl rfl (fun hc => ?_) (fun hc => ?_)) | (refine g_ndec_t rfl rfl (fun hc => ?_) (fun hc => ?_)) | (refine g_split rfl rfl (fun hc => ?_) (fun hc => ?_)) | (refine k_addI rfl rfl (by omega) (by omega) ?_) | (refine k_subI rfl rfl (by omega) (by omega) ?_) | (refine k_fieldAddr rfl ?_) | (refine k_eqlB rfl rfl ?_) | (refine k_neqB rfl rfl ?_) | (refine cw_cond_true rfl ?_) | (refine cw_cond_false rfl ?_) | (refine cw_cond_dec rfl (fun hc => ?_) (fun hc => ?_)) | (refine cw_cond_ndec rfl (fun hc => ?_) (fun hc => ?_)) | (refine cw_cond rfl (fun hc => ?_) (fun hc => ?_)) | (refine cw_block ?_) | (refine cw_exit ?_) | (refine then_exit ?_) | (refine in_exit ?_) | (refine in_exit_ne rfl ?_) | (refine in_normal ?_) | (refine cw_ret ?_) | (refine then_ret ?_) | (refine in_ret ?_) | (refine cw_skip ?_))
  have hE69 : Ex w6 w9 := (hn7.ex.trans hn8.ex).trans hE9
  have l5 := hn5.lo
  have hE36 : Ex w3 w6 := (hE4.trans hn5.ex).chg hc6 (by have := hE4.size; omega)
  have hE06 : Ex w w6 := ((hn1.ex.trans hn2.ex).trans hE3).trans hE36
  have hO9 := hO3.sl.ext (hE36.trans hE69)
  have hb9 := hb6.ext hE69
  have hz9 := ((hz4.ext hn5.ex).chgO hc6 (hz4.off_hi hn5.lo)).ext hE69
  have hEx : Ex w9 w9.drew := (Ex.refl w9).drew
  have hls9 := hL9.lists
  refine cw_tree (fun w' => Ex w9 w') mixed hEx ?_
  refine rb_pre (fuel := 17) (by kernel_rfl) (by kernel_rfl) [0, 1, 2, 3, 4, 5, 6, 7, 8, 9] _ _ (by kernel_rfl) ?_
  repeat' (first | (refine k_loadCA rfl (fun _ h => hb9.ext h) hl4 ?_) | (refine k_pure rfl ?_) | (refine then_normal ?_) | (refine cw_seq ?_) | (refine cw_region rfl ?_) | (refine rr_nil ?_) | (refine k_len rfl ?_) | (refine g_run rfl rfl ?_) | (refine g_skip rfl rfl ?_) | (refine g_dec_f rfl rfl (fun hc => ?_) (fun hc => ?_)) | (refine g_dec_t rfl rfl (fun hc => ?_) (fun hc => ?_)) | (refine g_ndec_f rfl rfl (fun hc => ?_) (fun hc => ?_)) | (refine g_ndec_t rfl rfl (fun hc => ?_) (fun hc => ?_)) | (refine g_split rfl rfl (fun hc => ?_) (fun hc => ?_)) | (refine k_addI rfl rfl (by omega) (by omega) ?_) | (refine k_subI rfl rfl (by omega) (by omega) ?_) | (refine k_fieldAddr rfl ?_) | (refine k_eqlB rfl rfl ?_) | (refine k_neqB rfl rfl ?_) | (refine cw_cond_true rfl ?_) | (refine cw_cond_false rfl ?_) | (refine cw_cond_dec rfl (fun hc => ?_) (fun hc => ?_)) | (refine cw_cond_ndec rfl (fun hc => ?_) (fun hc => ?_)) | (refine cw_cond rfl (fun hc => ?_) (fun hc => ?_)) | (refine cw_block ?_) | (refine cw_exit ?_) | (refine then_exit ?_) | (refine in_exit ?_) | (refine in_exit_ne rfl ?_) | (refine in_normal ?_) | (refine cw_ret ?_) | (refine then_ret ?_) | (refine in_ret ?_) | (refine cw_skip ?_))
  refine rb_all (fuel := 16) (rs := [10]) (by kernel_rfl) (by kernel_rfl) rfl ?_
  rw [List.forall_mem_singleton]
  refine g_run rfl rfl ?_
  refine k_lit (cs := (intsL [2, 0, 1]).toArray) rfl (by kernel_rfl) (fun g10 w10 hn10 => ⟨fun _ h => h.trans hn10.ex, ?_⟩)
  replace hEx := hEx.trans hn10.ex
  refine rr_nil ?_
  refine rb_all (fuel := 15) (rs := [11]) (by kernel_rfl) (by kernel_rfl) rfl ?_
  rw [List.forall_mem_singleton]
  refine g_run rfl rfl ?_
  refine k_call (same_spec (xs := [2, 0, 1]) (ys := [2, 0, 1]) (hO9.ext hEx) hn10.blk.sl _ _ (by decide)) rfl ?_
  rintro v w11 ⟨rfl, hE11⟩
  refine ⟨fun _ h => h.trans hE11, ?_⟩
  replace hEx := hEx.trans hE11
  rw [decide_eq_true (p := ([2, 0, 1] : List Int) = [2, 0, 1]) rfl]
  refine rr_nil ?_
  refine rb_pre (fuel := 12) (by kernel_rfl) (by kernel_rfl) [12, 13, 14] _ _ (by kernel_rfl) ?_
  repeat' (first | (refine k_loadCA rfl (fun _ h => hb9.ext h) hl4 ?_) | (refine k_pure rfl ?_) | (refine then_normal ?_) | (refine cw_seq ?_) | (refine cw_region rfl ?_) | (refine rr_nil ?_) | (refine k_len rfl ?_) | (refine g_run rfl rfl ?_) | (refine g_skip rfl rfl ?_) | (refine g_dec_f rfl rfl (fun hc => ?_) (fun hc => ?_)) | (refine g_dec_t rfl rfl (fun hc => ?_) (fun hc => ?_)) | (refine g_ndec_f rfl rfl (fun hc => ?_) (fun hc => ?_)) | (refine g_ndec_t rfl rfl (fun hc => ?_) (fun hc => ?_)) | (refine g_split rfl rfl (fun hc => ?_) (fun hc => ?_)) | (refine k_addI rfl rfl (by omega) (by omega) ?_) | (refine k_subI rfl rfl (by omega) (by omega) ?_) | (refine k_fieldAddr rfl ?_) | (refine k_eqlB rfl rfl ?_) | (refine k_neqB rfl rfl ?_) | (refine cw_cond_true rfl ?_) | (refine cw_cond_false rfl ?_) | (refine cw_cond_dec rfl (fun hc => ?_) (fun hc => ?_)) | (refine cw_cond_ndec rfl (fun hc => ?_) (fun hc => ?_)) | (refine cw_cond rfl (fun hc => ?_) (fun hc => ?_)) | (refine cw_block ?_) | (refine cw_exit ?_) | (refine then_exit ?_) | (refine in_exit ?_) | (refine in_exit_ne rfl ?_) | (refine in_normal ?_) | (refine cw_ret ?_) | (refine then_ret ?_) | (refine in_ret ?_) | (refine cw_skip ?_))
  refine rb_all (fuel := 11) (rs := [15]) (by kernel_rfl) (by kernel_rfl) rfl ?_
  rw [List.forall_mem_singleton]
  refine g_run rfl rfl ?_
  refine k_call (refSmall_spec (z := 3) (by decide) (by decide) _) rfl ?_
  rintro v15 w12 ⟨hz12, hE12⟩
  refine ⟨fun _ h => h.trans hE12, ?_⟩
  replace hEx := hEx.trans hE12
  refine rr_nil ?_
  refine rb_all (fuel := 10) (rs := [16]) (by kernel_rfl) (by kernel_rfl) rfl ?_
  rw [List.forall_mem_singleton]
  refine g_run rfl rfl ?_
  refine k_call (refSame_spec (hz9.ext hEx) hz12) rfl ?_
  rintro v w13 ⟨rfl, hE13⟩
  refine ⟨fun _ h => h.trans hE13, ?_⟩
  replace hEx := hEx.trans hE13
  rw [decide_eq_true (p := (((3 : Nat) : Int) = 3)) rfl]
  refine rr_nil ?_
  refine rb_pre (fuel := 7) (by kernel_rfl) (by kernel_rfl) [17, 18, 19] _ _ (by kernel_rfl) ?_
  repeat' (first | (refine k_loadCA rfl (fun _ h => hb9.ext h) hl4 ?_) | (refine k_pure rfl ?_) | (refine then_normal ?_) | (refine cw_seq ?_) | (refine cw_region rfl ?_) | (refine rr_nil ?_) | (refine k_len rfl ?_) | (refine g_run rfl rfl ?_) | (refine g_skip rfl rfl ?_) | (refine g_dec_f rfl rfl (fun hc => ?_) (fun hc => ?_)) | (refine g_dec_t rfl rfl (fun hc => ?_) (fun hc => ?_)) | (refine g_ndec_f rfl rfl (fun hc => ?_) (fun hc => ?_)) | (refine g_ndec_t rfl rfl (fun hc => ?_) (fun hc => ?_)) | (refine g_split rfl rfl (fun hc => ?_) (fun hc => ?_)) | (refine k_addI rfl rfl (by omega) (by omega) ?_) | (refine k_subI rfl rfl (by omega) (by omega) ?_) | (refine k_fieldAddr rfl ?_) | (refine k_eqlB rfl rfl ?_) | (refine k_neqB rfl rfl ?_) | (refine cw_cond_true rfl ?_) | (refine cw_cond_false rfl ?_) | (refine cw_cond_dec rfl (fun hc => ?_) (fun hc => ?_)) | (refine cw_cond_ndec rfl (fun hc => ?_) (fun hc => ?_)) | (refine cw_cond rfl (fun hc => ?_) (fun hc => ?_)) | (refine cw_block ?_) | (refine cw_exit ?_) | (refine then_exit ?_) | (refine in_exit ?_) | (refine in_exit_ne rfl ?_) | (refine in_normal ?_) | (refine cw_ret ?_) | (refine then_ret ?_) | (refine in_ret ?_) | (refine cw_skip ?_))
  refine rb_all (fuel := 6) (rs := [20, 21, 22]) (by kernel_rfl) (by kernel_rfl) rfl ?_
  simp only [List.forall_mem_cons, List.not_mem_nil, false_implies, implies_true, and_true]
  refine ⟨?_, ?_, ?_⟩
  · refine g_run rfl rfl ?_
    refine k_lit (cs := (intsL [0, 1]).toArray) rfl (by kernel_rfl) (fun g20 w20 hn20 => ⟨fun _ h => h.trans hn20.ex, ?_⟩)
    replace hEx := hEx.trans hn20.ex
    have hs20 := hn20.blk.sl
    try replace hs21 := hs21.ext hn20.ex
    try replace hs22 := hs22.ext hn20.ex
    refine rr_nil ?_
    refine rb_all (fuel := 5) (rs := [21, 22]) (by kernel_rfl) (by kernel_rfl) rfl ?_
    simp only [List.forall_mem_cons, List.not_mem_nil, false_implies, implies_true, and_true]
    refine ⟨?_, ?_⟩
    · refine g_run rfl rfl ?_
      refine k_lit (cs := (intsL [2]).toArray) rfl (by kernel_rfl) (fun g21 w21 hn21 => ⟨fun _ h => h.trans hn21.ex, ?_⟩)
      replace hEx := hEx.trans hn21.ex
      have hs21 := hn21.blk.sl
      try replace hs20 := hs20.ext hn21.ex
      try replace hs22 := hs22.ext hn21.ex
      refine rr_nil ?_
      refine rb_all (fuel := 4) (rs := [22]) (by kernel_rfl) (by kernel_rfl) rfl ?_
      rw [List.forall_mem_singleton]
      refine g_run rfl rfl ?_
      refine k_lit (cs := (intsL [3]).toArray) rfl (by kernel_rfl) (fun g22 w22 hn22 => ⟨fun _ h => h.trans hn22.ex, ?_⟩)
      replace hEx := hEx.trans hn22.ex
      have hs22 := hn22.blk.sl
      try replace hs20 := hs20.ext hn22.ex
      try replace hs21 := hs21.ext hn22.ex
      refine rr_nil ?_
      refine rb_all (fuel := 3) (rs := [23]) (by kernel_rfl) (by kernel_rfl) rfl ?_
      rw [List.forall_mem_singleton]
      refine g_run rfl rfl ?_
      refine k_lit (cs := ([(⟨some ⟨g20, 0, none⟩, 2, 2⟩ : SD), ⟨some ⟨g21, 0, none⟩, 1, 1⟩, ⟨some ⟨g22, 0, none⟩, 1, 1⟩].map SD.val).toArray) rfl (by kernel_rfl) (fun g23 w23 hn23 => ⟨fun _ h => h.trans hn23.ex, ?_⟩)
      replace hEx := hEx.trans hn23.ex
      have hLs23 : Lists w23 .i64 (some ⟨g23, 0, none⟩) [⟨some ⟨g20, 0, none⟩, 2, 2⟩, ⟨some ⟨g21, 0, none⟩, 1, 1⟩, ⟨some ⟨g22, 0, none⟩, 1, 1⟩] [[0, 1], [2], [3]] :=
        Lists.of hn23.blk.sl ⟨⟨hs20.ext hn23.ex, rfl⟩, ⟨hs21.ext hn23.ex, rfl⟩, ⟨hs22.ext hn23.ex, rfl⟩, trivial⟩
      refine rr_nil ?_
      refine rb_all (fuel := 2) (rs := [24]) (by kernel_rfl) (by kernel_rfl) rfl ?_
      rw [List.forall_mem_singleton]
      refine g_run rfl rfl ?_
      have hl9 := hL9.len
      rw [hl9]
      refine k_call (sameLists_spec (xs := [[0, 1], [2], [3]]) (ys := [[0, 1], [2], [3]]) (hls9.ext hEx) hLs23 _ _ (by decide) (fun i => by rcases i with _ | _ | _ | i <;> simp)) rfl ?_
      rintro v w24 ⟨rfl, hE24⟩
      refine ⟨fun _ h => h.trans hE24, ?_⟩
      replace hEx := hEx.trans hE24
      rw [decide_eq_true (p := ([[0, 1], [2], [3]] : List (List Int)) = [[0, 1], [2], [3]]) rfl]
      refine rr_nil ?_
      refine rb_pre (fuel := 0) (by kernel_rfl) (by kernel_rfl) [25, 26] _ _ (by kernel_rfl) ?_
      repeat' (first | (refine k_loadCA rfl (fun _ h => hb9.ext h) hl4 ?_) | (refine k_pure rfl ?_) | (refine then_normal ?_) | (refine cw_seq ?_) | (refine cw_region rfl ?_) | (refine rr_nil ?_) | (refine k_len rfl ?_) | (refine g_run rfl rfl ?_) | (refine g_skip rfl rfl ?_) | (refine g_dec_f rfl rfl (fun hc => ?_) (fun hc => ?_)) | (refine g_dec_t rfl rfl (fun hc => ?_) (fun hc => ?_)) | (refine g_ndec_f rfl rfl (fun hc => ?_) (fun hc => ?_)) | (refine g_ndec_t rfl rfl (fun hc => ?_) (fun hc => ?_)) | (refine g_split rfl rfl (fun hc => ?_) (fun hc => ?_)) | (refine k_addI rfl rfl (by omega) (by omega) ?_) | (refine k_subI rfl rfl (by omega) (by omega) ?_) | (refine k_fieldAddr rfl ?_) | (refine k_eqlB rfl rfl ?_) | (refine k_neqB rfl rfl ?_) | (refine cw_cond_true rfl ?_) | (refine cw_cond_false rfl ?_) | (refine cw_cond_dec rfl (fun hc => ?_) (fun hc => ?_)) | (refine cw_cond_ndec rfl (fun hc => ?_) (fun hc => ?_)) | (refine cw_cond rfl (fun hc => ?_) (fun hc => ?_)) | (refine cw_block ?_) | (refine cw_exit ?_) | (refine then_exit ?_) | (refine in_exit ?_) | (refine in_exit_ne rfl ?_) | (refine in_normal ?_) | (refine cw_ret ?_) | (refine then_ret ?_) | (refine in_ret ?_) | (refine cw_skip ?_))
      refine rb_done (by kernel_rfl) ?_
      repeat' (first | (refine k_pure rfl ?_) | (refine then_normal ?_) | (refine cw_seq ?_) | (refine cw_region rfl ?_) | (refine rr_nil ?_) | (refine k_len rfl ?_) | (refine g_run rfl rfl ?_) | (refine g_skip rfl rfl ?_) | (refine g_dec_f rfl rfl (fun hc => ?_) (fun hc => ?_)) | (refine g_dec_t rfl rfl (fun hc => ?_) (fun hc => ?_)) | (refine g_ndec_f rfl rfl (fun hc => ?_) (fun hc => ?_)) | (refine g_ndec_t rfl rfl (fun hc => ?_) (fun hc => ?_)) | (refine g_split rfl rfl (fun hc => ?_) (fun hc => ?_)) | (refine k_addI rfl rfl (by omega) (by omega) ?_) | (refine k_subI rfl rfl (by omega) (by omega) ?_) | (refine k_fieldAddr rfl ?_) | (refine k_eqlB rfl rfl ?_) | (refine k_neqB rfl rfl ?_) | (refine cw_cond_true rfl ?_) | (refine cw_cond_false rfl ?_) | (refine cw_cond_dec rfl (fun hc => ?_) (fun hc => ?_)) | (refine cw_cond_ndec rfl (fun hc => ?_) (fun hc => ?_)) | (refine cw_cond rfl (fun hc => ?_) (fun hc => ?_)) | (refine cw_block ?_) | (refine cw_exit ?_) | (refine then_exit ?_) | (refine in_exit ?_) | (refine in_exit_ne rfl ?_) | (refine in_normal ?_) | (refine cw_ret ?_) | (refine then_ret ?_) | (refine in_ret ?_) | (refine cw_skip ?_))
      exact ret1 rfl (rt rfl) ⟨rfl, (hE06.trans hE69).trans hEx⟩
    · refine g_run rfl rfl ?_
      refine k_lit (cs := (intsL [3]).toArray) rfl (by kernel_rfl) (fun g22 w22 hn22 => ⟨fun _ h => h.trans hn22.ex, ?_⟩)
      replace hEx := hEx.trans hn22.ex
      have hs22 := hn22.blk.sl
      try replace hs20 := hs20.ext hn22.ex
      try replace hs21 := hs21.ext hn22.ex
      refine rr_nil ?_
      refine rb_all (fuel := 4) (rs := [21]) (by kernel_rfl) (by kernel_rfl) rfl ?_
      rw [List.forall_mem_singleton]
      refine g_run rfl rfl ?_
      refine k_lit (cs := (intsL [2]).toArray) rfl (by kernel_rfl) (fun g21 w21 hn21 => ⟨fun _ h => h.trans hn21.ex, ?_⟩)
      replace hEx := hEx.trans hn21.ex
      have hs21 := hn21.blk.sl
      try replace hs20 := hs20.ext hn21.ex
      try replace hs22 := hs22.ext hn21.ex
      refine rr_nil ?_
      refine rb_all (fuel := 3) (rs := [23]) (by kernel_rfl) (by kernel_rfl) rfl ?_
      rw [List.forall_mem_singleton]
      refine g_run rfl rfl ?_
      refine k_lit (cs := ([(⟨some ⟨g20, 0, none⟩, 2, 2⟩ : SD), ⟨some ⟨g21, 0, none⟩, 1, 1⟩, ⟨some ⟨g22, 0, none⟩, 1, 1⟩].map SD.val).toArray) rfl (by kernel_rfl) (fun g23 w23 hn23 => ⟨fun _ h => h.trans hn23.ex, ?_⟩)
      replace hEx := hEx.trans hn23.ex
      have hLs23 : Lists w23 .i64 (some ⟨g23, 0, none⟩) [⟨some ⟨g20, 0, none⟩, 2, 2⟩, ⟨some ⟨g21, 0, none⟩, 1, 1⟩, ⟨some ⟨g22, 0, none⟩, 1, 1⟩] [[0, 1], [2], [3]] :=
        Lists.of hn23.blk.sl ⟨⟨hs20.ext hn23.ex, rfl⟩, ⟨hs21.ext hn23.ex, rfl⟩, ⟨hs22.ext hn23.ex, rfl⟩, trivial⟩
      refine rr_nil ?_
      refine rb_all (fuel := 2) (rs := [24]) (by kernel_rfl) (by kernel_rfl) rfl ?_
      rw [List.forall_mem_singleton]
      refine g_run rfl rfl ?_
      have hl9 := hL9.len
      rw [hl9]
      refine k_call (sameLists_spec (xs := [[0, 1], [2], [3]]) (ys := [[0, 1], [2], [3]]) (hls9.ext hEx) hLs23 _ _ (by decide) (fun i => by rcases i with _ | _ | _ | i <;> simp)) rfl ?_
      rintro v w24 ⟨rfl, hE24⟩
      refine ⟨fun _ h => h.trans hE24, ?_⟩
      replace hEx := hEx.trans hE24
      rw [decide_eq_true (p := ([[0, 1], [2], [3]] : List (List Int)) = [[0, 1], [2], [3]]) rfl]
      refine rr_nil ?_
      refine rb_pre (fuel := 0) (by kernel_rfl) (by kernel_rfl) [25, 26] _ _ (by kernel_rfl) ?_
      repeat' (first | (refine k_loadCA rfl (fun _ h => hb9.ext h) hl4 ?_) | (refine k_pure rfl ?_) | (refine then_normal ?_) | (refine cw_seq ?_) | (refine cw_region rfl ?_) | (refine rr_nil ?_) | (refine k_len rfl ?_) | (refine g_run rfl rfl ?_) | (refine g_skip rfl rfl ?_) | (refine g_dec_f rfl rfl (fun hc => ?_) (fun hc => ?_)) | (refine g_dec_t rfl rfl (fun hc => ?_) (fun hc => ?_)) | (refine g_ndec_f rfl rfl (fun hc => ?_) (fun hc => ?_)) | (refine g_ndec_t rfl rfl (fun hc => ?_) (fun hc => ?_)) | (refine g_split rfl rfl (fun hc => ?_) (fun hc => ?_)) | (refine k_addI rfl rfl (by omega) (by omega) ?_) | (refine k_subI rfl rfl (by omega) (by omega) ?_) | (refine k_fieldAddr rfl ?_) | (refine k_eqlB rfl rfl ?_) | (refine k_neqB rfl rfl ?_) | (refine cw_cond_true rfl ?_) | (refine cw_cond_false rfl ?_) | (refine cw_cond_dec rfl (fun hc => ?_) (fun hc => ?_)) | (refine cw_cond_ndec rfl (fun hc => ?_) (fun hc => ?_)) | (refine cw_cond rfl (fun hc => ?_) (fun hc => ?_)) | (refine cw_block ?_) | (refine cw_exit ?_) | (refine then_exit ?_) | (refine in_exit ?_) | (refine in_exit_ne rfl ?_) | (refine in_normal ?_) | (refine cw_ret ?_) | (refine then_ret ?_) | (refine in_ret ?_) | (refine cw_skip ?_))
      refine rb_done (by kernel_rfl) ?_
      repeat' (first | (refine k_pure rfl ?_) | (refine then_normal ?_) | (refine cw_seq ?_) | (refine cw_region rfl ?_) | (refine rr_nil ?_) | (refine k_len rfl ?_) | (refine g_run rfl rfl ?_) | (refine g_skip rfl rfl ?_) | (refine g_dec_f rfl rfl (fun hc => ?_) (fun hc => ?_)) | (refine g_dec_t rfl rfl (fun hc => ?_) (fun hc => ?_)) | (refine g_ndec_f rfl rfl (fun hc => ?_) (fun hc => ?_)) | (refine g_ndec_t rfl rfl (fun hc => ?_) (fun hc => ?_)) | (refine g_split rfl rfl (fun hc => ?_) (fun hc => ?_)) | (refine k_addI rfl rfl (by omega) (by omega) ?_) | (refine k_subI rfl rfl (by omega) (by omega) ?_) | (refine k_fieldAddr rfl ?_) | (refine k_eqlB rfl rfl ?_) | (refine k_neqB rfl rfl ?_) | (refine cw_cond_true rfl ?_) | (refine cw_cond_false rfl ?_) | (refine cw_cond_dec rfl (fun hc => ?_) (fun hc => ?_)) | (refine cw_cond_ndec rfl (fun hc => ?_) (fun hc => ?_)) | (refine cw_cond rfl (fun hc => ?_) (fun hc => ?_)) | (refine cw_block ?_) | (refine cw_exit ?_) | (refine then_exit ?_) | (refine in_exit ?_) | (refine in_exit_ne rfl ?_) | (refine in_normal ?_) | (refine cw_ret ?_) | (refine then_ret ?_) | (refine in_ret ?_) | (refine cw_skip ?_))
      exact ret1 rfl (rt rfl) ⟨rfl, (hE06.trans hE69).trans hEx⟩
  · refine g_run rfl rfl ?_
    refine k_lit (cs := (intsL [2]).toArray) rfl (by kernel_rfl) (fun g21 w21 hn21 => ⟨fun _ h => h.trans hn21.ex, ?_⟩)
    replace hEx := hEx.trans hn21.ex
    have hs21 := hn21.blk.sl
    try replace hs20 := hs20.ext hn21.ex
    try replace hs22 := hs22.ext hn21.ex
    refine rr_nil ?_
    refine rb_all (fuel := 5) (rs := [20, 22]) (by kernel_rfl) (by kernel_rfl) rfl ?_
    simp only [List.forall_mem_cons, List.not_mem_nil, false_implies, implies_true, and_true]
    refine ⟨?_, ?_⟩
    · refine g_run rfl rfl ?_
      refine k_lit (cs := (intsL [0, 1]).toArray) rfl (by kernel_rfl) (fun g20 w20 hn20 => ⟨fun _ h => h.trans hn20.ex, ?_⟩)
      replace hEx := hEx.trans hn20.ex
      have hs20 := hn20.blk.sl
      try replace hs21 := hs21.ext hn20.ex
      try replace hs22 := hs22.ext hn20.ex
      refine rr_nil ?_
      refine rb_all (fuel := 4) (rs := [22]) (by kernel_rfl) (by kernel_rfl) rfl ?_
      rw [List.forall_mem_singleton]
      refine g_run rfl rfl ?_
      refine k_lit (cs := (intsL [3]).toArray) rfl (by kernel_rfl) (fun g22 w22 hn22 => ⟨fun _ h => h.trans hn22.ex, ?_⟩)
      replace hEx := hEx.trans hn22.ex
      have hs22 := hn22.blk.sl
      try replace hs20 := hs20.ext hn22.ex
      try replace hs21 := hs21.ext hn22.ex
      refine rr_nil ?_
      refine rb_all (fuel := 3) (rs := [23]) (by kernel_rfl) (by kernel_rfl) rfl ?_
      rw [List.forall_mem_singleton]
      refine g_run rfl rfl ?_
      refine k_lit (cs := ([(⟨some ⟨g20, 0, none⟩, 2, 2⟩ : SD), ⟨some ⟨g21, 0, none⟩, 1, 1⟩, ⟨some ⟨g22, 0, none⟩, 1, 1⟩].map SD.val).toArray) rfl (by kernel_rfl) (fun g23 w23 hn23 => ⟨fun _ h => h.trans hn23.ex, ?_⟩)
      replace hEx := hEx.trans hn23.ex
      have hLs23 : Lists w23 .i64 (some ⟨g23, 0, none⟩) [⟨some ⟨g20, 0, none⟩, 2, 2⟩, ⟨some ⟨g21, 0, none⟩, 1, 1⟩, ⟨some ⟨g22, 0, none⟩, 1, 1⟩] [[0, 1], [2], [3]] :=
        Lists.of hn23.blk.sl ⟨⟨hs20.ext hn23.ex, rfl⟩, ⟨hs21.ext hn23.ex, rfl⟩, ⟨hs22.ext hn23.ex, rfl⟩, trivial⟩
      refine rr_nil ?_
      refine rb_all (fuel := 2) (rs := [24]) (by kernel_rfl) (by kernel_rfl) rfl ?_
      rw [List.forall_mem_singleton]
      refine g_run rfl rfl ?_
      have hl9 := hL9.len
      rw [hl9]
      refine k_call (sameLists_spec (xs := [[0, 1], [2], [3]]) (ys := [[0, 1], [2], [3]]) (hls9.ext hEx) hLs23 _ _ (by decide) (fun i => by rcases i with _ | _ | _ | i <;> simp)) rfl ?_
      rintro v w24 ⟨rfl, hE24⟩
      refine ⟨fun _ h => h.trans hE24, ?_⟩
      replace hEx := hEx.trans hE24
      rw [decide_eq_true (p := ([[0, 1], [2], [3]] : List (List Int)) = [[0, 1], [2], [3]]) rfl]
      refine rr_nil ?_
      refine rb_pre (fuel := 0) (by kernel_rfl) (by kernel_rfl) [25, 26] _ _ (by kernel_rfl) ?_
      repeat' (first | (refine k_loadCA rfl (fun _ h => hb9.ext h) hl4 ?_) | (refine k_pure rfl ?_) | (refine then_normal ?_) | (refine cw_seq ?_) | (refine cw_region rfl ?_) | (refine rr_nil ?_) | (refine k_len rfl ?_) | (refine g_run rfl rfl ?_) | (refine g_skip rfl rfl ?_) | (refine g_dec_f rfl rfl (fun hc => ?_) (fun hc => ?_)) | (refine g_dec_t rfl rfl (fun hc => ?_) (fun hc => ?_)) | (refine g_ndec_f rfl rfl (fun hc => ?_) (fun hc => ?_)) | (refine g_ndec_t rfl rfl (fun hc => ?_) (fun hc => ?_)) | (refine g_split rfl rfl (fun hc => ?_) (fun hc => ?_)) | (refine k_addI rfl rfl (by omega) (by omega) ?_) | (refine k_subI rfl rfl (by omega) (by omega) ?_) | (refine k_fieldAddr rfl ?_) | (refine k_eqlB rfl rfl ?_) | (refine k_neqB rfl rfl ?_) | (refine cw_cond_true rfl ?_) | (refine cw_cond_false rfl ?_) | (refine cw_cond_dec rfl (fun hc => ?_) (fun hc => ?_)) | (refine cw_cond_ndec rfl (fun hc => ?_) (fun hc => ?_)) | (refine cw_cond rfl (fun hc => ?_) (fun hc => ?_)) | (refine cw_block ?_) | (refine cw_exit ?_) | (refine then_exit ?_) | (refine in_exit ?_) | (refine in_exit_ne rfl ?_) | (refine in_normal ?_) | (refine cw_ret ?_) | (refine then_ret ?_) | (refine in_ret ?_) | (refine cw_skip ?_))
      refine rb_done (by kernel_rfl) ?_
      repeat' (first | (refine k_pure rfl ?_) | (refine then_normal ?_) | (refine cw_seq ?_) | (refine cw_region rfl ?_) | (refine rr_nil ?_) | (refine k_len rfl ?_) | (refine g_run rfl rfl ?_) | (refine g_skip rfl rfl ?_) | (refine g_dec_f rfl rfl (fun hc => ?_) (fun hc => ?_)) | (refine g_dec_t rfl rfl (fun hc => ?_) (fun hc => ?_)) | (refine g_ndec_f rfl rfl (fun hc => ?_) (fun hc => ?_)) | (refine g_ndec_t rfl rfl (fun hc => ?_) (fun hc => ?_)) | (refine g_split rfl rfl (fun hc => ?_) (fun hc => ?_)) | (refine k_addI rfl rfl (by omega) (by omega) ?_) | (refine k_subI rfl rfl (by omega) (by omega) ?_) | (refine k_fieldAddr rfl ?_) | (refine k_eqlB rfl rfl ?_) | (refine k_neqB rfl rfl ?_) | (refine cw_cond_true rfl ?_) | (refine cw_cond_false rfl ?_) | (refine cw_cond_dec rfl (fun hc => ?_) (fun hc => ?_)) | (refine cw_cond_ndec rfl (fun hc => ?_) (fun hc => ?_)) | (refine cw_cond rfl (fun hc => ?_) (fun hc => ?_)) | (refine cw_block ?_) | (refine cw_exit ?_) | (refine then_exit ?_) | (refine in_exit ?_) | (refine in_exit_ne rfl ?_) | (refine in_normal ?_) | (refine cw_ret ?_) | (refine then_ret ?_) | (refine in_ret ?_) | (refine cw_skip ?_))
      exact ret1 rfl (rt rfl) ⟨rfl, (hE06.trans hE69).trans hEx⟩
    · refine g_run rfl rfl ?_
      refine k_lit (cs := (intsL [3]).toArray) rfl (by kernel_rfl) (fun g22 w22 hn22 => ⟨fun _ h => h.trans hn22.ex, ?_⟩)
      replace hEx := hEx.trans hn22.ex
      have hs22 := hn22.blk.sl
      try replace hs20 := hs20.ext hn22.ex
      try replace hs21 := hs21.ext hn22.ex
      refine rr_nil ?_
      refine rb_all (fuel := 4) (rs := [20]) (by kernel_rfl) (by kernel_rfl) rfl ?_
      rw [List.forall_mem_singleton]
      refine g_run rfl rfl ?_
      refine k_lit (cs := (intsL [0, 1]).toArray) rfl (by kernel_rfl) (fun g20 w20 hn20 => ⟨fun _ h => h.trans hn20.ex, ?_⟩)
      replace hEx := hEx.trans hn20.ex
      have hs20 := hn20.blk.sl
      try replace hs21 := hs21.ext hn20.ex
      try replace hs22 := hs22.ext hn20.ex
      refine rr_nil ?_
      refine rb_all (fuel := 3) (rs := [23]) (by kernel_rfl) (by kernel_rfl) rfl ?_
      rw [List.forall_mem_singleton]
      refine g_run rfl rfl ?_
      refine k_lit (cs := ([(⟨some ⟨g20, 0, none⟩, 2, 2⟩ : SD), ⟨some ⟨g21, 0, none⟩, 1, 1⟩, ⟨some ⟨g22, 0, none⟩, 1, 1⟩].map SD.val).toArray) rfl (by kernel_rfl) (fun g23 w23 hn23 => ⟨fun _ h => h.trans hn23.ex, ?_⟩)
      replace hEx := hEx.trans hn23.ex
      have hLs23 : Lists w23 .i64 (some ⟨g23, 0, none⟩) [⟨some ⟨g20, 0, none⟩, 2, 2⟩, ⟨some ⟨g21, 0, none⟩, 1, 1⟩, ⟨some ⟨g22, 0, none⟩, 1, 1⟩] [[0, 1], [2], [3]] :=
        Lists.of hn23.blk.sl ⟨⟨hs20.ext hn23.ex, rfl⟩, ⟨hs21.ext hn23.ex, rfl⟩, ⟨hs22.ext hn23.ex, rfl⟩, trivial⟩
      refine rr_nil ?_
      refine rb_all (fuel := 2) (rs := [24]) (by kernel_rfl) (by kernel_rfl) rfl ?_
      rw [List.forall_mem_singleton]
      refine g_run rfl rfl ?_
      have hl9 := hL9.len
      rw [hl9]
      refine k_call (sameLists_spec (xs := [[0, 1], [2], [3]]) (ys := [[0, 1], [2], [3]]) (hls9.ext hEx) hLs23 _ _ (by decide) (fun i => by rcases i with _ | _ | _ | i <;> simp)) rfl ?_
      rintro v w24 ⟨rfl, hE24⟩
      refine ⟨fun _ h => h.trans hE24, ?_⟩
      replace hEx := hEx.trans hE24
      rw [decide_eq_true (p := ([[0, 1], [2], [3]] : List (List Int)) = [[0, 1], [2], [3]]) rfl]
      refine rr_nil ?_
      refine rb_pre (fuel := 0) (by kernel_rfl) (by kernel_rfl) [25, 26] _ _ (by kernel_rfl) ?_
      repeat' (first | (refine k_loadCA rfl (fun _ h => hb9.ext h) hl4 ?_) | (refine k_pure rfl ?_) | (refine then_normal ?_) | (refine cw_seq ?_) | (refine cw_region rfl ?_) | (refine rr_nil ?_) | (refine k_len rfl ?_) | (refine g_run rfl rfl ?_) | (refine g_skip rfl rfl ?_) | (refine g_dec_f rfl rfl (fun hc => ?_) (fun hc => ?_)) | (refine g_dec_t rfl rfl (fun hc => ?_) (fun hc => ?_)) | (refine g_ndec_f rfl rfl (fun hc => ?_) (fun hc => ?_)) | (refine g_ndec_t rfl rfl (fun hc => ?_) (fun hc => ?_)) | (refine g_split rfl rfl (fun hc => ?_) (fun hc => ?_)) | (refine k_addI rfl rfl (by omega) (by omega) ?_) | (refine k_subI rfl rfl (by omega) (by omega) ?_) | (refine k_fieldAddr rfl ?_) | (refine k_eqlB rfl rfl ?_) | (refine k_neqB rfl rfl ?_) | (refine cw_cond_true rfl ?_) | (refine cw_cond_false rfl ?_) | (refine cw_cond_dec rfl (fun hc => ?_) (fun hc => ?_)) | (refine cw_cond_ndec rfl (fun hc => ?_) (fun hc => ?_)) | (refine cw_cond rfl (fun hc => ?_) (fun hc => ?_)) | (refine cw_block ?_) | (refine cw_exit ?_) | (refine then_exit ?_) | (refine in_exit ?_) | (refine in_exit_ne rfl ?_) | (refine in_normal ?_) | (refine cw_ret ?_) | (refine then_ret ?_) | (refine in_ret ?_) | (refine cw_skip ?_))
      refine rb_done (by kernel_rfl) ?_
      repeat' (first | (refine k_pure rfl ?_) | (refine then_normal ?_) | (refine cw_seq ?_) | (refine cw_region rfl ?_) | (refine rr_nil ?_) | (refine k_len rfl ?_) | (refine g_run rfl rfl ?_) | (refine g_skip rfl rfl ?_) | (refine g_dec_f rfl rfl (fun hc => ?_) (fun hc => ?_)) | (refine g_dec_t rfl rfl (fun hc => ?_) (fun hc => ?_)) | (refine g_ndec_f rfl rfl (fun hc => ?_) (fun hc => ?_)) | (refine g_ndec_t rfl rfl (fun hc => ?_) (fun hc => ?_)) | (refine g_split rfl rfl (fun hc => ?_) (fun hc => ?_)) | (refine k_addI rfl rfl (by omega) (by omega) ?_) | (refine k_subI rfl rfl (by omega) (by omega) ?_) | (refine k_fieldAddr rfl ?_) | (refine k_eqlB rfl rfl ?_) | (refine k_neqB rfl rfl ?_) | (refine cw_cond_true rfl ?_) | (refine cw_cond_false rfl ?_) | (refine cw_cond_dec rfl (fun hc => ?_) (fun hc => ?_)) | (refine cw_cond_ndec rfl (fun hc => ?_) (fun hc => ?_)) | (refine cw_cond rfl (fun hc => ?_) (fun hc => ?_)) | (refine cw_block ?_) | (refine cw_exit ?_) | (refine then_exit ?_) | (refine in_exit ?_) | (refine in_exit_ne rfl ?_) | (refine in_normal ?_) | (refine cw_ret ?_) | (refine then_ret ?_) | (refine in_ret ?_) | (refine cw_skip ?_))
      exact ret1 rfl (rt rfl) ⟨rfl, (hE06.trans hE69).trans hEx⟩
  · refine g_run rfl rfl ?_
    refine k_lit (cs := (intsL [3]).toArray) rfl (by kernel_rfl) (fun g22 w22 hn22 => ⟨fun _ h => h.trans hn22.ex, ?_⟩)
    replace hEx := hEx.trans hn22.ex
    have hs22 := hn22.blk.sl
    try replace hs20 := hs20.ext hn22.ex
    try replace hs21 := hs21.ext hn22.ex
    refine rr_nil ?_
    refine rb_all (fuel := 5) (rs := [20, 21]) (by kernel_rfl) (by kernel_rfl) rfl ?_
    simp only [List.forall_mem_cons, List.not_mem_nil, false_implies, implies_true, and_true]
    refine ⟨?_, ?_⟩
    · refine g_run rfl rfl ?_
      refine k_lit (cs := (intsL [0, 1]).toArray) rfl (by kernel_rfl) (fun g20 w20 hn20 => ⟨fun _ h => h.trans hn20.ex, ?_⟩)
      replace hEx := hEx.trans hn20.ex
      have hs20 := hn20.blk.sl
      try replace hs21 := hs21.ext hn20.ex
      try replace hs22 := hs22.ext hn20.ex
      refine rr_nil ?_
      refine rb_all (fuel := 4) (rs := [21]) (by kernel_rfl) (by kernel_rfl) rfl ?_
      rw [List.forall_mem_singleton]
      refine g_run rfl rfl ?_
      refine k_lit (cs := (intsL [2]).toArray) rfl (by kernel_rfl) (fun g21 w21 hn21 => ⟨fun _ h => h.trans hn21.ex, ?_⟩)
      replace hEx := hEx.trans hn21.ex
      have hs21 := hn21.blk.sl
      try replace hs20 := hs20.ext hn21.ex
      try replace hs22 := hs22.ext hn21.ex
      refine rr_nil ?_
      refine rb_all (fuel := 3) (rs := [23]) (by kernel_rfl) (by kernel_rfl) rfl ?_
      rw [List.forall_mem_singleton]
      refine g_run rfl rfl ?_
      refine k_lit (cs := ([(⟨some ⟨g20, 0, none⟩, 2, 2⟩ : SD), ⟨some ⟨g21, 0, none⟩, 1, 1⟩, ⟨some ⟨g22, 0, none⟩, 1, 1⟩].map SD.val).toArray) rfl (by kernel_rfl) (fun g23 w23 hn23 => ⟨fun _ h => h.trans hn23.ex, ?_⟩)
      replace hEx := hEx.trans hn23.ex
      have hLs23 : Lists w23 .i64 (some ⟨g23, 0, none⟩) [⟨some ⟨g20, 0, none⟩, 2, 2⟩, ⟨some ⟨g21, 0, none⟩, 1, 1⟩, ⟨some ⟨g22, 0, none⟩, 1, 1⟩] [[0, 1], [2], [3]] :=
        Lists.of hn23.blk.sl ⟨⟨hs20.ext hn23.ex, rfl⟩, ⟨hs21.ext hn23.ex, rfl⟩, ⟨hs22.ext hn23.ex, rfl⟩, trivial⟩
      refine rr_nil ?_
      refine rb_all (fuel := 2) (rs := [24]) (by kernel_rfl) (by kernel_rfl) rfl ?_
      rw [List.forall_mem_singleton]
      refine g_run rfl rfl ?_
      have hl9 := hL9.len
      rw [hl9]
      refine k_call (sameLists_spec (xs := [[0, 1], [2], [3]]) (ys := [[0, 1], [2], [3]]) (hls9.ext hEx) hLs23 _ _ (by decide) (fun i => by rcases i with _ | _ | _ | i <;> simp)) rfl ?_
      rintro v w24 ⟨rfl, hE24⟩
      refine ⟨fun _ h => h.trans hE24, ?_⟩
      replace hEx := hEx.trans hE24
      rw [decide_eq_true (p := ([[0, 1], [2], [3]] : List (List Int)) = [[0, 1], [2], [3]]) rfl]
      refine rr_nil ?_
      refine rb_pre (fuel := 0) (by kernel_rfl) (by kernel_rfl) [25, 26] _ _ (by kernel_rfl) ?_
      repeat' (first | (refine k_loadCA rfl (fun _ h => hb9.ext h) hl4 ?_) | (refine k_pure rfl ?_) | (refine then_normal ?_) | (refine cw_seq ?_) | (refine cw_region rfl ?_) | (refine rr_nil ?_) | (refine k_len rfl ?_) | (refine g_run rfl rfl ?_) | (refine g_skip rfl rfl ?_) | (refine g_dec_f rfl rfl (fun hc => ?_) (fun hc => ?_)) | (refine g_dec_t rfl rfl (fun hc => ?_) (fun hc => ?_)) | (refine g_ndec_f rfl rfl (fun hc => ?_) (fun hc => ?_)) | (refine g_ndec_t rfl rfl (fun hc => ?_) (fun hc => ?_)) | (refine g_split rfl rfl (fun hc => ?_) (fun hc => ?_)) | (refine k_addI rfl rfl (by omega) (by omega) ?_) | (refine k_subI rfl rfl (by omega) (by omega) ?_) | (refine k_fieldAddr rfl ?_) | (refine k_eqlB rfl rfl ?_) | (refine k_neqB rfl rfl ?_) | (refine cw_cond_true rfl ?_) | (refine cw_cond_false rfl ?_) | (refine cw_cond_dec rfl (fun hc => ?_) (fun hc => ?_)) | (refine cw_cond_ndec rfl (fun hc => ?_) (fun hc => ?_)) | (refine cw_cond rfl (fun hc => ?_) (fun hc => ?_)) | (refine cw_block ?_) | (refine cw_exit ?_) | (refine then_exit ?_) | (refine in_exit ?_) | (refine in_exit_ne rfl ?_) | (refine in_normal ?_) | (refine cw_ret ?_) | (refine then_ret ?_) | (refine in_ret ?_) | (refine cw_skip ?_))
      refine rb_done (by kernel_rfl) ?_
      repeat' (first | (refine k_pure rfl ?_) | (refine then_normal ?_) | (refine cw_seq ?_) | (refine cw_region rfl ?_) | (refine rr_nil ?_) | (refine k_len rfl ?_) | (refine g_run rfl rfl ?_) | (refine g_skip rfl rfl ?_) | (refine g_dec_f rfl rfl (fun hc => ?_) (fun hc => ?_)) | (refine g_dec_t rfl rfl (fun hc => ?_) (fun hc => ?_)) | (refine g_ndec_f rfl rfl (fun hc => ?_) (fun hc => ?_)) | (refine g_ndec_t rfl rfl (fun hc => ?_) (fun hc => ?_)) | (refine g_split rfl rfl (fun hc => ?_) (fun hc => ?_)) | (refine k_addI rfl rfl (by omega) (by omega) ?_) | (refine k_subI rfl rfl (by omega) (by omega) ?_) | (refine k_fieldAddr rfl ?_) | (refine k_eqlB rfl rfl ?_) | (refine k_neqB rfl rfl ?_) | (refine cw_cond_true rfl ?_) | (refine cw_cond_false rfl ?_) | (refine cw_cond_dec rfl (fun hc => ?_) (fun hc => ?_)) | (refine cw_cond_ndec rfl (fun hc => ?_) (fun hc => ?_)) | (refine cw_cond rfl (fun hc => ?_) (fun hc => ?_)) | (refine cw_block ?_) | (refine cw_exit ?_) | (refine then_exit ?_) | (refine in_exit ?_) | (refine in_exit_ne rfl ?_) | (refine in_normal ?_) | (refine cw_ret ?_) | (refine then_ret ?_) | (refine in_ret ?_) | (refine cw_skip ?_))
      exact ret1 rfl (rt rfl) ⟨rfl, (hE06.trans hE69).trans hEx⟩
    · refine g_run rfl rfl ?_
      refine k_lit (cs := (intsL [2]).toArray) rfl (by kernel_rfl) (fun g21 w21 hn21 => ⟨fun _ h => h.trans hn21.ex, ?_⟩)
      replace hEx := hEx.trans hn21.ex
      have hs21 := hn21.blk.sl
      try replace hs20 := hs20.ext hn21.ex
      try replace hs22 := hs22.ext hn21.ex
      refine rr_nil ?_
      refine rb_all (fuel := 4) (rs := [20]) (by kernel_rfl) (by kernel_rfl) rfl ?_
      rw [List.forall_mem_singleton]
      refine g_run rfl rfl ?_
      refine k_lit (cs := (intsL [0, 1]).toArray) rfl (by kernel_rfl) (fun g20 w20 hn20 => ⟨fun _ h => h.trans hn20.ex, ?_⟩)
      replace hEx := hEx.trans hn20.ex
      have hs20 := hn20.blk.sl
      try replace hs21 := hs21.ext hn20.ex
      try replace hs22 := hs22.ext hn20.ex
      refine rr_nil ?_
      refine rb_all (fuel := 3) (rs := [23]) (by kernel_rfl) (by kernel_rfl) rfl ?_
      rw [List.forall_mem_singleton]
      refine g_run rfl rfl ?_
      refine k_lit (cs := ([(⟨some ⟨g20, 0, none⟩, 2, 2⟩ : SD), ⟨some ⟨g21, 0, none⟩, 1, 1⟩, ⟨some ⟨g22, 0, none⟩, 1, 1⟩].map SD.val).toArray) rfl (by kernel_rfl) (fun g23 w23 hn23 => ⟨fun _ h => h.trans hn23.ex, ?_⟩)
      replace hEx := hEx.trans hn23.ex
      have hLs23 : Lists w23 .i64 (some ⟨g23, 0, none⟩) [⟨some ⟨g20, 0, none⟩, 2, 2⟩, ⟨some ⟨g21, 0, none⟩, 1, 1⟩, ⟨some ⟨g22, 0, none⟩, 1, 1⟩] [[0, 1], [2], [3]] :=
        Lists.of hn23.blk.sl ⟨⟨hs20.ext hn23.ex, rfl⟩, ⟨hs21.ext hn23.ex, rfl⟩, ⟨hs22.ext hn23.ex, rfl⟩, trivial⟩
      refine rr_nil ?_
      refine rb_all (fuel := 2) (rs := [24]) (by kernel_rfl) (by kernel_rfl) rfl ?_
      rw [List.forall_mem_singleton]
      refine g_run rfl rfl ?_
      have hl9 := hL9.len
      rw [hl9]
      refine k_call (sameLists_spec (xs := [[0, 1], [2], [3]]) (ys := [[0, 1], [2], [3]]) (hls9.ext hEx) hLs23 _ _ (by decide) (fun i => by rcases i with _ | _ | _ | i <;> simp)) rfl ?_
      rintro v w24 ⟨rfl, hE24⟩
      refine ⟨fun _ h => h.trans hE24, ?_⟩
      replace hEx := hEx.trans hE24
      rw [decide_eq_true (p := ([[0, 1], [2], [3]] : List (List Int)) = [[0, 1], [2], [3]]) rfl]
      refine rr_nil ?_
      refine rb_pre (fuel := 0) (by kernel_rfl) (by kernel_rfl) [25, 26] _ _ (by kernel_rfl) ?_
      repeat' (first | (refine k_loadCA rfl (fun _ h => hb9.ext h) hl4 ?_) | (refine k_pure rfl ?_) | (refine then_normal ?_) | (refine cw_seq ?_) | (refine cw_region rfl ?_) | (refine rr_nil ?_) | (refine k_len rfl ?_) | (refine g_run rfl rfl ?_) | (refine g_skip rfl rfl ?_) | (refine g_dec_f rfl rfl (fun hc => ?_) (fun hc => ?_)) | (refine g_dec_t rfl rfl (fun hc => ?_) (fun hc => ?_)) | (refine g_ndec_f rfl rfl (fun hc => ?_) (fun hc => ?_)) | (refine g_ndec_t rfl rfl (fun hc => ?_) (fun hc => ?_)) | (refine g_split rfl rfl (fun hc => ?_) (fun hc => ?_)) | (refine k_addI rfl rfl (by omega) (by omega) ?_) | (refine k_subI rfl rfl (by omega) (by omega) ?_) | (refine k_fieldAddr rfl ?_) | (refine k_eqlB rfl rfl ?_) | (refine k_neqB rfl rfl ?_) | (refine cw_cond_true rfl ?_) | (refine cw_cond_false rfl ?_) | (refine cw_cond_dec rfl (fun hc => ?_) (fun hc => ?_)) | (refine cw_cond_ndec rfl (fun hc => ?_) (fun hc => ?_)) | (refine cw_cond rfl (fun hc => ?_) (fun hc => ?_)) | (refine cw_block ?_) | (refine cw_exit ?_) | (refine then_exit ?_) | (refine in_exit ?_) | (refine in_exit_ne rfl ?_) | (refine in_normal ?_) | (refine cw_ret ?_) | (refine then_ret ?_) | (refine in_ret ?_) | (refine cw_skip ?_))
      refine rb_done (by kernel_rfl) ?_
      repeat' (first | (refine k_pure rfl ?_) | (refine then_normal ?_) | (refine cw_seq ?_) | (refine cw_region rfl ?_) | (refine rr_nil ?_) | (refine k_len rfl ?_) | (refine g_run rfl rfl ?_) | (refine g_skip rfl rfl ?_) | (refine g_dec_f rfl rfl (fun hc => ?_) (fun hc => ?_)) | (refine g_dec_t rfl rfl (fun hc => ?_) (fun hc => ?_)) | (refine g_ndec_f rfl rfl (fun hc => ?_) (fun hc => ?_)) | (refine g_ndec_t rfl rfl (fun hc => ?_) (fun hc => ?_)) | (refine g_split rfl rfl (fun hc => ?_) (fun hc => ?_)) | (refine k_addI rfl rfl (by omega) (by omega) ?_) | (refine k_subI rfl rfl (by omega) (by omega) ?_) | (refine k_fieldAddr rfl ?_) | (refine k_eqlB rfl rfl ?_) | (refine k_neqB rfl rfl ?_) | (refine cw_cond_true rfl ?_) | (refine cw_cond_false rfl ?_) | (refine cw_cond_dec rfl (fun hc => ?_) (fun hc => ?_)) | (refine cw_cond_ndec rfl (fun hc => ?_) (fun hc => ?_)) | (refine cw_cond rfl (fun hc => ?_) (fun hc => ?_)) | (refine cw_block ?_) | (refine cw_exit ?_) | (refine then_exit ?_) | (refine in_exit ?_) | (refine in_exit_ne rfl ?_) | (refine in_normal ?_) | (refine cw_ret ?_) | (refine then_ret ?_) | (refine in_ret ?_) | (refine cw_skip ?_))
      exact ret1 rfl (rt rfl) ⟨rfl, (hE06.trans hE69).trans hEx⟩
end Go.Proofs.Ytmedmmginnfjgaa
