
import Derived.Test.YthhfjagnmhhapaaM01
import Derived.Test.YthhfjagnmhhapaaM02
import Derived.Test.YthhfjagnmhhapaaM03
import Derived.Test.YthhfjagnmhhapaaM04
import Derived.Test.YthhfjagnmhhapaaM05
import Derived.Test.YthhfjagnmhhapaaM06
import Derived.Test.YthhfjagnmhhapaaM07
import Derived.Test.YthhfjagnmhhapaaM09
import Derived.Test.YthhfjagnmhhapaaM10
import Derived.Test.YthhfjagnmhhapaaM12
import Derived.Test.YthhfjagnmhhapaaM13

namespace Go.Proofs.Ythhfjagnmhhapaa
open Go.W Go.PM
set_option maxHeartbeats 1000000 in
theorem certain_spec {w : World} {n N0 : Nat} {G : List Int → Prop} {base : List Int} {c : CH} {ls : List Lv} (hn11 : n ≤ 11) (hN : N0 ≤ 1000000) (hC : ChAt w n c ls) (hG : Gd n G base N0 ls) :
    CallsR Try.prog 112 #[.pointer (some ⟨c.cb, 0, none⟩)] w fun v w' => ∃ i : Nat, i ≤ ls.length ∧ v = .int .i64 (i : Int) ∧ Full n (ls.drop i) ∧ Ex w w' := by
  refine callsR_of (args := [_]) Try.func112 rfl rfl ?_
  have hstr := hC.str
  unfold chL at hstr
  have hml := hC.mok.1
  have hpl := prod_le hG.links hn11
  have hll := hG.ll
  have n1 := hG.links.n1
  repeat' (first | (refine k_allocA (vs := intsL num0) (hz := zNum) (fun g3 w1 hn1 => ⟨fun _ _ => trivial, ?_⟩)) | (refine k_pure rfl ?_) | (refine then_normal ?_) | (refine cw_seq ?_) | (refine cw_region rfl ?_) | (refine rr_nil ?_) | (refine k_len rfl ?_) | (refine g_run rfl rfl ?_) | (refine g_skip rfl rfl ?_) | (refine g_dec_f rfl rfl (fun hc => ?_) (fun hc => ?_)) | (refine g_dec_t rfl rfl (fun hc => ?_) (fun hc => ?_)) | (refine g_ndec_f rfl rfl (fun hc => ?_) (fun hc => ?_)) | (refine g_ndec_t rfl rfl (fun hc => ?_) (fun hc => ?_)) | (refine g_split rfl rfl (fun hc => ?_) (fun hc => ?_)) | (refine k_addI rfl rfl (by omega) (by omega) ?_) | (refine k_subI rfl rfl (by omega) (by omega) ?_) | (refine k_fieldAddr rfl ?_) | (refine k_eqlB rfl rfl ?_) | (refine k_neqB rfl rfl ?_) | (refine cw_cond_true rfl ?_) | (refine cw_cond_false rfl ?_) | (refine cw_cond_dec rfl (fun hc => ?_) (fun hc => ?_)) | (refine cw_cond_ndec rfl (fun hc => ?_) (fun hc => ?_)) | (refine cw_cond rfl (fun hc => ?_) (fun hc => ?_)) | (refine cw_block ?_) | (refine cw_exit ?_) | (refine then_exit ?_) | (refine in_exit ?_) | (refine in_exit_ne rfl ?_) | (refine in_normal ?_) | (refine cw_ret ?_) | (refine then_ret ?_) | (refine in_ret ?_) | (refine cw_skip ?_))
  have z1 := hn1.lo; have z1' := hn1.hi
  have hC1 := hC.ext hn1.ex
  have hstr1 := hstr.ext hn1.ex
  have hRep0 : Rep num0 1 1 := rep_zero
  have hBd0 : Bd num0 0 := bd_zero 513
  have cbl := hstr.lt
  have mbl := hC.map.lt
  repeat' (first | (refine k_loadC rfl hstr1 rfl ?_) | (refine k_lenMap mapT rfl hC1.map ?_) | (refine k_pure rfl ?_) | (refine then_normal ?_) | (refine cw_seq ?_) | (refine cw_region rfl ?_) | (refine rr_nil ?_) | (refine k_len rfl ?_) | (refine g_run rfl rfl ?_) | (refine g_skip rfl rfl ?_) | (refine g_dec_f rfl rfl (fun hc => ?_) (fun hc => ?_)) | (refine g_dec_t rfl rfl (fun hc => ?_) (fun hc => ?_)) | (refine g_ndec_f rfl rfl (fun hc => ?_) (fun hc => ?_)) | (refine g_ndec_t rfl rfl (fun hc => ?_) (fun hc => ?_)) | (refine g_split rfl rfl (fun hc => ?_) (fun hc => ?_)) | (refine k_addI rfl rfl (by omega) (by omega) ?_) | (refine k_subI rfl rfl (by omega) (by omega) ?_) | (refine k_fieldAddr rfl ?_) | (refine k_eqlB rfl rfl ?_) | (refine k_neqB rfl rfl ?_) | (refine cw_cond_true rfl ?_) | (refine cw_cond_false rfl ?_) | (refine cw_cond_dec rfl (fun hc => ?_) (fun hc => ?_)) | (refine cw_cond_ndec rfl (fun hc => ?_) (fun hc => ?_)) | (refine cw_cond rfl (fun hc => ?_) (fun hc => ?_)) | (refine cw_block ?_) | (refine cw_exit ?_) | (refine then_exit ?_) | (refine in_exit ?_) | (refine in_exit_ne rfl ?_) | (refine in_normal ?_) | (refine cw_ret ?_) | (refine then_ret ?_) | (refine in_ret ?_) | (refine cw_skip ?_))
  rw [hml]
  refine cw_loop (ι := Nat × List Int) [4, 11, 12, 13, 14, 15, 16, 17, 18, 19, 20, 21, 22, 23, 24, 25, 26] (fun s => [(11, .int .i64 (s.1 : Int))]) (fun s w' => s.1 ≤ ls.length ∧ Ex w w' ∧ Blk w' g3 177 (intsL s.2) ∧ Rep s.2 (prodL (ls.take s.1)) 1 ∧ Bd s.2 (s.1 * 512)) (fun s => ls.length - s.1)
    (0, num0) ⟨rfl, trivial⟩ ⟨Nat.zero_le _, hn1.ex, hn1.blk, by simpa [prodL] using hRep0, by simpa using hBd0⟩ ?_
  rintro ⟨i, e⟩ ξ w2 ⟨hi, hE2, hb2, hR2, hB2⟩
  simp only at hi hb2 hR2 hB2
  show CW _ _ _ _ (over [(11, .int .i64 (i : Int))] _) w2
  have hC2 := hC.ext hE2
  have hstr2 := hstr.ext hE2
  have hel := hR2.1
  repeat' (first | (refine k_pure rfl ?_) | (refine then_normal ?_) | (refine cw_seq ?_) | (refine cw_region rfl ?_) | (refine rr_nil ?_) | (refine k_len rfl ?_) | (refine g_run rfl rfl ?_) | (refine g_skip rfl rfl ?_) | (refine g_dec_f rfl rfl (fun hc => ?_) (fun hc => ?_)) | (refine g_dec_t rfl rfl (fun hc => ?_) (fun hc => ?_)) | (refine g_ndec_f rfl rfl (fun hc => ?_) (fun hc => ?_)) | (refine g_ndec_t rfl rfl (fun hc => ?_) (fun hc => ?_)) | (refine g_split rfl rfl (fun hc => ?_) (fun hc => ?_)) | (refine k_addI rfl rfl (by omega) (by omega) ?_) | (refine k_subI rfl rfl (by omega) (by omega) ?_) | (refine k_fieldAddr rfl ?_) | (refine k_eqlB rfl rfl ?_) | (refine k_neqB rfl rfl ?_) | (refine cw_cond_true rfl ?_) | (refine cw_cond_false rfl ?_) | (refine cw_cond_dec rfl (fun hc => ?_) (fun hc => ?_)) | (refine cw_cond_ndec rfl (fun hc => ?_) (fun hc => ?_)) | (refine cw_cond rfl (fun hc => ?_) (fun hc => ?_)) | (refine cw_block ?_) | (refine cw_exit ?_) | (refine then_exit ?_) | (refine in_exit ?_) | (refine in_exit_ne rfl ?_) | (refine in_normal ?_) | (refine cw_ret ?_) | (refine then_ret ?_) | (refine in_ret ?_) | (refine cw_skip ?_))
  · have hil : i < ls.length := by omega
    obtain ⟨j, hj, hfd, hjm⟩ := hC.mok.find hil
    have hLs := (hC2.lv i hil).str
    have ok := hG.ok hil
    have hol := ok.orb_le
    have hop := ok.pos
    have hlv := (hC.lv i hil).lt (c.hs i).blk (by simp [LH.F])
    refine cw_draw (late := [12]) (plan := [(0, none), (1, none), (2, none), (3, none), (4, none), (5, none), (6, none), (7, none), (8, none), (9, none), (10, none), (11, some true), (12, some false)]) (fun w' => Blk w' g3 177 (intsL e) ∧ Blk w' c.cb 100 [.int .i64 (n : Int), .map (some c.mb), .slice c.va ls.length c.vc, .int .u64 (c.st : Int)] ∧ MapAt w' c.mb c.m ∧ Blk w' (c.hs i).blk 95 (lvL n (c.hs i) (ls.getD i lv0))) mixed (by kernel_rfl) ⟨hb2.drew, hstr2.drew, hC2.drew.map, hLs.drew⟩ ?_
    repeat' (first | (refine k_loadCA (Tb := 177) rfl (fun _ h => h.1) (by rw [List.length_map]; exact hel) ?_) | (refine k_loadC (Tb := 100) rfl (fun _ h => h.2.1) rfl ?_) | (refine k_lookup mapT intT rfl rfl (fun _ h => h.2.2.1) hfd ?_) | (refine k_loadC (Tb := 95) rfl (fun _ h => h.2.2.2) rfl ?_) | (refine k_pure rfl ?_) | (refine then_normal ?_) | (refine cw_seq ?_) | (refine cw_region rfl ?_) | (refine rr_nil ?_) | (refine k_len rfl ?_) | (refine g_run rfl rfl ?_) | (refine g_skip rfl rfl ?_) | (refine g_dec_f rfl rfl (fun hc => ?_) (fun hc => ?_)) | (refine g_dec_t rfl rfl (fun hc => ?_) (fun hc => ?_)) | (refine g_ndec_f rfl rfl (fun hc => ?_) (fun hc => ?_)) | (refine g_ndec_t rfl rfl (fun hc => ?_) (fun hc => ?_)) | (refine g_split rfl rfl (fun hc => ?_) (fun hc => ?_)) | (refine k_addI rfl rfl (by omega) (by omega) ?_) | (refine k_subI rfl rfl (by omega) (by omega) ?_) | (refine k_fieldAddr rfl ?_) | (refine k_eqlB rfl rfl ?_) | (refine k_neqB rfl rfl ?_) | (refine cw_cond_true rfl ?_) | (refine cw_cond_false rfl ?_) | (refine cw_cond_dec rfl (fun hc => ?_) (fun hc => ?_)) | (refine cw_cond_ndec rfl (fun hc => ?_) (fun hc => ?_)) | (refine cw_cond rfl (fun hc => ?_) (fun hc => ?_)) | (refine cw_block ?_) | (refine cw_exit ?_) | (refine then_exit ?_) | (refine in_exit ?_) | (refine in_exit_ne rfl ?_) | (refine in_normal ?_) | (refine cw_ret ?_) | (refine then_ret ?_) | (refine in_ret ?_) | (refine cw_skip ?_))
    refine k_call (scaled_spec (n := (ls.getD i lv0).orb.length) (u := 1) (v := 0) (T := 1) (t := 1) hR2 hB2 (by omega) (by decide) (by decide) (by omega)) rfl ?_
    rintro v w3 ⟨e3, rfl, hR3, hB3, hE3⟩
    refine ⟨fun _ h => ⟨h.1.ext hE3, h.2.1.ext hE3, h.2.2.1.ext hE3, h.2.2.2.ext hE3⟩, ?_⟩
    repeat' (first | (refine k_storeV (vs := intsL e3) rfl rfl (by rw [List.length_map]; exact hR3.1) (all_one (fun _ => rfl) _) (hb2.drew.ext hE3) (by rw [List.length_map]; exact hel) (fun w4 hc4 hb4 => ⟨fun h => (nomatch h), ?_⟩)) | (refine k_pure rfl ?_) | (refine then_normal ?_) | (refine cw_seq ?_) | (refine cw_region rfl ?_) | (refine rr_nil ?_) | (refine k_len rfl ?_) | (refine g_run rfl rfl ?_) | (refine g_skip rfl rfl ?_) | (refine g_dec_f rfl rfl (fun hc => ?_) (fun hc => ?_)) | (refine g_dec_t rfl rfl (fun hc => ?_) (fun hc => ?_)) | (refine g_ndec_f rfl rfl (fun hc => ?_) (fun hc => ?_)) | (refine g_ndec_t rfl rfl (fun hc => ?_) (fun hc => ?_)) | (refine g_split rfl rfl (fun hc => ?_) (fun hc => ?_)) | (refine k_addI rfl rfl (by omega) (by omega) ?_) | (refine k_subI rfl rfl (by omega) (by omega) ?_) | (refine k_fieldAddr rfl ?_) | (refine k_eqlB rfl rfl ?_) | (refine k_neqB rfl rfl ?_) | (refine cw_cond_true rfl ?_) | (refine cw_cond_false rfl ?_) | (refine cw_cond_dec rfl (fun hc => ?_) (fun hc => ?_)) | (refine cw_cond_ndec rfl (fun hc => ?_) (fun hc => ?_)) | (refine cw_cond rfl (fun hc => ?_) (fun hc => ?_)) | (refine cw_block ?_) | (refine cw_exit ?_) | (refine then_exit ?_) | (refine in_exit ?_) | (refine in_exit_ne rfl ?_) | (refine in_normal ?_) | (refine cw_ret ?_) | (refine then_ret ?_) | (refine in_ret ?_) | (refine cw_skip ?_))
    refine ⟨⟨(i + 1, e3), ⟨by simp only; omega, (hE2.drew.trans hE3).chg hc4 z1, hb4, ?_, hB3.mono (by simp only; omega)⟩, by simp only; omega, rfl, trivial⟩, (by (repeat (first | exact agree_mask _ _ _ | refine agree_upd rfl ?_ | refine agree_updO rfl ?_ | refine agree_overIn rfl ?_ | refine agree_maskIn rfl ?_)))⟩
    show Rep e3 (prodL (ls.take (i + 1))) 1
    rw [prodL_take lv0 ls i hil]
    simpa using hR3
  · obtain rfl : i = ls.length := by omega
    rw [List.take_length] at hR2
    repeat' (first | (refine k_loadC rfl hstr2 rfl ?_) | (refine k_lenMap mapT rfl hC2.map ?_) | (refine k_pure rfl ?_) | (refine then_normal ?_) | (refine cw_seq ?_) | (refine cw_region rfl ?_) | (refine rr_nil ?_) | (refine k_len rfl ?_) | (refine g_run rfl rfl ?_) | (refine g_skip rfl rfl ?_) | (refine g_dec_f rfl rfl (fun hc => ?_) (fun hc => ?_)) | (refine g_dec_t rfl rfl (fun hc => ?_) (fun hc => ?_)) | (refine g_ndec_f rfl rfl (fun hc => ?_) (fun hc => ?_)) | (refine g_ndec_t rfl rfl (fun hc => ?_) (fun hc => ?_)) | (refine g_split rfl rfl (fun hc => ?_) (fun hc => ?_)) | (refine k_addI rfl rfl (by omega) (by omega) ?_) | (refine k_subI rfl rfl (by omega) (by omega) ?_) | (refine k_fieldAddr rfl ?_) | (refine k_eqlB rfl rfl ?_) | (refine k_neqB rfl rfl ?_) | (refine cw_cond_true rfl ?_) | (refine cw_cond_false rfl ?_) | (refine cw_cond_dec rfl (fun hc => ?_) (fun hc => ?_)) | (refine cw_cond_ndec rfl (fun hc => ?_) (fun hc => ?_)) | (refine cw_cond rfl (fun hc => ?_) (fun hc => ?_)) | (refine cw_block ?_) | (refine cw_exit ?_) | (refine then_exit ?_) | (refine in_exit ?_) | (refine in_exit_ne rfl ?_) | (refine in_normal ?_) | (refine cw_ret ?_) | (refine then_ret ?_) | (refine in_ret ?_) | (refine cw_skip ?_))
    rw [hml]
    refine cw_loop (ι := Nat × List Int) [2, 5, 32, 33, 34, 35, 36, 37, 38, 39, 40, 41, 42, 43, 44, 45, 46, 47, 48, 49, 50, 51, 52, 53, 54, 55, 56, 57, 58, 59, 60, 61, 62, 63, 64] (fun s => [(32, .int .i64 (s.1 : Int))]) (fun s w' => s.1 ≤ ls.length ∧ Ex w w' ∧ Blk w' g3 177 (intsL s.2) ∧ Rep s.2 (prodL ls) (prodL (ls.take s.1)) ∧ Bd s.2 (ls.length * 512 + s.1 * 512)) (fun s => ls.length - s.1)
      (0, e) ⟨rfl, trivial⟩ ⟨Nat.zero_le _, hE2, hb2, by simpa [prodL] using hR2, by simpa using hB2⟩ ?_
    rintro ⟨i, e1⟩ ξ2 w3 ⟨hi3, hE3, hb3, hR3, hB3⟩
    simp only at hi3 hb3 hR3 hB3
    show CW _ _ _ _ (over [(32, .int .i64 (i : Int))] _) w3
    have hC3 := hC.ext hE3
    have hstr3 := hstr.ext hE3
    have hel3 := hR3.1
    repeat' (first | (refine k_pure rfl ?_) | (refine then_normal ?_) | (refine cw_seq ?_) | (refine cw_region rfl ?_) | (refine rr_nil ?_) | (refine k_len rfl ?_) | (refine g_run rfl rfl ?_) | (refine g_skip rfl rfl ?_) | (refine g_dec_f rfl rfl (fun hc => ?_) (fun hc => ?_)) | (refine g_dec_t rfl rfl (fun hc => ?_) (fun hc => ?_)) | (refine g_ndec_f rfl rfl (fun hc => ?_) (fun hc => ?_)) | (refine g_ndec_t rfl rfl (fun hc => ?_) (fun hc => ?_)) | (refine g_split rfl rfl (fun hc => ?_) (fun hc => ?_)) | (refine k_addI rfl rfl (by omega) (by omega) ?_) | (refine k_subI rfl rfl (by omega) (by omega) ?_) | (refine k_fieldAddr rfl ?_) | (refine k_eqlB rfl rfl ?_) | (refine k_neqB rfl rfl ?_) | (refine cw_cond_true rfl ?_) | (refine cw_cond_false rfl ?_) | (refine cw_cond_dec rfl (fun hc => ?_) (fun hc => ?_)) | (refine cw_cond_ndec rfl (fun hc => ?_) (fun hc => ?_)) | (refine cw_cond rfl (fun hc => ?_) (fun hc => ?_)) | (refine cw_block ?_) | (refine cw_exit ?_) | (refine then_exit ?_) | (refine in_exit ?_) | (refine in_exit_ne rfl ?_) | (refine in_normal ?_) | (refine cw_ret ?_) | (refine then_ret ?_) | (refine in_ret ?_) | (refine cw_skip ?_))
    · have hil : i < ls.length := by omega
      obtain ⟨j, hj, hfd, hjm⟩ := hC.mok.find hil
      have hL3 := hC3.lv i hil
      have hLs := hL3.str
      have ok := hG.ok hil
      have hol := ok.orb_le
      have hop := ok.pos
      have hgl := hG.gl i hil
      refine cw_draw (late := []) (plan := [(0, none), (1, none), (2, none), (3, none), (4, none), (5, none), (6, none), (7, none), (8, none), (9, none), (10, none), (11, none), (12, none), (14, none), (13, some true), (15, none)]) (fun w' => Blk w' g3 177 (intsL e1) ∧ Blk w' c.cb 100 [.int .i64 (n : Int), .map (some c.mb), .slice c.va ls.length c.vc, .int .u64 (c.st : Int)] ∧ MapAt w' c.mb c.m ∧ Blk w' (c.hs i).blk 95 (lvL n (c.hs i) (ls.getD i lv0))) mixed (by kernel_rfl) ⟨hb3.drew, hstr3.drew, hC3.drew.map, hLs.drew⟩ ?_
      repeat' (first | (refine k_loadCA (Tb := 177) rfl (fun _ h => h.1) (by rw [List.length_map]; exact hel3) ?_) | (refine k_loadC (Tb := 100) rfl (fun _ h => h.2.1) rfl ?_) | (refine k_lookup mapT intT rfl rfl (fun _ h => h.2.2.1) hfd ?_) | (refine k_loadC (Tb := 95) rfl (fun _ h => h.2.2.2) rfl ?_) | (refine k_pure rfl ?_) | (refine then_normal ?_) | (refine cw_seq ?_) | (refine cw_region rfl ?_) | (refine rr_nil ?_) | (refine k_len rfl ?_) | (refine g_run rfl rfl ?_) | (refine g_skip rfl rfl ?_) | (refine g_dec_f rfl rfl (fun hc => ?_) (fun hc => ?_)) | (refine g_dec_t rfl rfl (fun hc => ?_) (fun hc => ?_)) | (refine g_ndec_f rfl rfl (fun hc => ?_) (fun hc => ?_)) | (refine g_ndec_t rfl rfl (fun hc => ?_) (fun hc => ?_)) | (refine g_split rfl rfl (fun hc => ?_) (fun hc => ?_)) | (refine k_addI rfl rfl (by omega) (by omega) ?_) | (refine k_subI rfl rfl (by omega) (by omega) ?_) | (refine k_fieldAddr rfl ?_) | (refine k_eqlB rfl rfl ?_) | (refine k_neqB rfl rfl ?_) | (refine cw_cond_true rfl ?_) | (refine cw_cond_false rfl ?_) | (refine cw_cond_dec rfl (fun hc => ?_) (fun hc => ?_)) | (refine cw_cond_ndec rfl (fun hc => ?_) (fun hc => ?_)) | (refine cw_cond rfl (fun hc => ?_) (fun hc => ?_)) | (refine cw_block ?_) | (refine cw_exit ?_) | (refine then_exit ?_) | (refine in_exit ?_) | (refine in_exit_ne rfl ?_) | (refine in_normal ?_) | (refine cw_ret ?_) | (refine then_ret ?_) | (refine in_ret ?_) | (refine cw_skip ?_))
      have hLd := hC3.drew.lv i hil
      refine k_call (bound_spec n1 hn11 ok.gens hLd.ga hLd.gs (by omega)) rfl ?_
      rintro v w4 ⟨hE4, eb, A, b, rfl, hRb, hb1, hbk⟩
      refine ⟨fun _ h => ⟨h.1.ext hE4, h.2.1.ext hE4, h.2.2.1.ext hE4, h.2.2.2.ext hE4⟩, ?_⟩
      have hEw4 : Ex w w4 := hE3.drew.trans hE4
      have hb34 := hb3.drew.ext hE4
      repeat' (first | (refine k_loadCA (Tb := 177) rfl (fun _ h => h.1) (by rw [List.length_map]; exact hel3) ?_) | (refine k_pure rfl ?_) | (refine then_normal ?_) | (refine cw_seq ?_) | (refine cw_region rfl ?_) | (refine rr_nil ?_) | (refine k_len rfl ?_) | (refine g_run rfl rfl ?_) | (refine g_skip rfl rfl ?_) | (refine g_dec_f rfl rfl (fun hc => ?_) (fun hc => ?_)) | (refine g_dec_t rfl rfl (fun hc => ?_) (fun hc => ?_)) | (refine g_ndec_f rfl rfl (fun hc => ?_) (fun hc => ?_)) | (refine g_ndec_t rfl rfl (fun hc => ?_) (fun hc => ?_)) | (refine g_split rfl rfl (fun hc => ?_) (fun hc => ?_)) | (refine k_addI rfl rfl (by omega) (by omega) ?_) | (refine k_subI rfl rfl (by omega) (by omega) ?_) | (refine k_fieldAddr rfl ?_) | (refine k_eqlB rfl rfl ?_) | (refine k_neqB rfl rfl ?_) | (refine cw_cond_true rfl ?_) | (refine cw_cond_false rfl ?_) | (refine cw_cond_dec rfl (fun hc => ?_) (fun hc => ?_)) | (refine cw_cond_ndec rfl (fun hc => ?_) (fun hc => ?_)) | (refine cw_cond rfl (fun hc => ?_) (fun hc => ?_)) | (refine cw_block ?_) | (refine cw_exit ?_) | (refine then_exit ?_) | (refine in_exit ?_) | (refine in_exit_ne rfl ?_) | (refine in_normal ?_) | (refine cw_ret ?_) | (refine then_ret ?_) | (refine in_ret ?_) | (refine cw_skip ?_))
      refine k_eqArr numT intT intSz numG rfl rfl hRb.1 hel3 (fun r hr => ?_)
      cases r with
      | true =>
        have heq := hr rfl
        subst heq
        repeat' (first | (refine k_pure rfl ?_) | (refine then_normal ?_) | (refine cw_seq ?_) | (refine cw_region rfl ?_) | (refine rr_nil ?_) | (refine k_len rfl ?_) | (refine g_run rfl rfl ?_) | (refine g_skip rfl rfl ?_) | (refine g_dec_f rfl rfl (fun hc => ?_) (fun hc => ?_)) | (refine g_dec_t rfl rfl (fun hc => ?_) (fun hc => ?_)) | (refine g_ndec_f rfl rfl (fun hc => ?_) (fun hc => ?_)) | (refine g_ndec_t rfl rfl (fun hc => ?_) (fun hc => ?_)) | (refine g_split rfl rfl (fun hc => ?_) (fun hc => ?_)) | (refine k_addI rfl rfl (by omega) (by omega) ?_) | (refine k_subI rfl rfl (by omega) (by omega) ?_) | (refine k_fieldAddr rfl ?_) | (refine k_eqlB rfl rfl ?_) | (refine k_neqB rfl rfl ?_) | (refine cw_cond_true rfl ?_) | (refine cw_cond_false rfl ?_) | (refine cw_cond_dec rfl (fun hc => ?_) (fun hc => ?_)) | (refine cw_cond_ndec rfl (fun hc => ?_) (fun hc => ?_)) | (refine cw_cond rfl (fun hc => ?_) (fun hc => ?_)) | (refine cw_block ?_) | (refine cw_exit ?_) | (refine then_exit ?_) | (refine in_exit ?_) | (refine in_exit_ne rfl ?_) | (refine in_normal ?_) | (refine cw_ret ?_) | (refine then_ret ?_) | (refine in_ret ?_) | (refine cw_skip ?_))
        refine ret1 rfl (rt rfl) ⟨i, by omega, rfl, ?_, hEw4⟩
        have hx := hRb.eq hR3
        rw [prodL_split ls i] at hx
        have htp := prodL_tpos i hG.links
        have hA : A = prodL (ls.drop i) * b := by
          have h1 : prodL (ls.take i) * A = prodL (ls.take i) * (prodL (ls.drop i) * b) := by rw [← Nat.mul_assoc, ← hx, Nat.mul_comm]
          exact Nat.eq_of_mul_eq_mul_left (by omega) h1
        have hlk := hG.links.drop i
        obtain ⟨k, hk⟩ := hlk.grp.card
        have hgk : Card (Gen n (ls.getD i lv0).gens) k := by
          have e : grpOf n (ls.drop i) = Gen n (ls.getD i lv0).gens := by rw [drop_cons hil]; rfl
          rw [← e]; exact hk
        have hle := hbk k hgk
        rw [hA, Nat.mul_comm] at hle
        exact card_full hlk k hk (Nat.le_of_mul_le_mul_right hle (by omega))
      | false =>
        repeat' (first | (refine k_pure rfl ?_) | (refine then_normal ?_) | (refine cw_seq ?_) | (refine cw_region rfl ?_) | (refine rr_nil ?_) | (refine k_len rfl ?_) | (refine g_run rfl rfl ?_) | (refine g_skip rfl rfl ?_) | (refine g_dec_f rfl rfl (fun hc => ?_) (fun hc => ?_)) | (refine g_dec_t rfl rfl (fun hc => ?_) (fun hc => ?_)) | (refine g_ndec_f rfl rfl (fun hc => ?_) (fun hc => ?_)) | (refine g_ndec_t rfl rfl (fun hc => ?_) (fun hc => ?_)) | (refine g_split rfl rfl (fun hc => ?_) (fun hc => ?_)) | (refine k_addI rfl rfl (by omega) (by omega) ?_) | (refine k_subI rfl rfl (by omega) (by omega) ?_) | (refine k_fieldAddr rfl ?_) | (refine k_eqlB rfl rfl ?_) | (refine k_neqB rfl rfl ?_) | (refine cw_cond_true rfl ?_) | (refine cw_cond_false rfl ?_) | (refine cw_cond_dec rfl (fun hc => ?_) (fun hc => ?_)) | (refine cw_cond_ndec rfl (fun hc => ?_) (fun hc => ?_)) | (refine cw_cond rfl (fun hc => ?_) (fun hc => ?_)) | (refine cw_block ?_) | (refine cw_exit ?_) | (refine then_exit ?_) | (refine in_exit ?_) | (refine in_exit_ne rfl ?_) | (refine in_normal ?_) | (refine cw_ret ?_) | (refine then_ret ?_) | (refine in_ret ?_) | (refine cw_skip ?_))
        refine cw_draw (late := [12]) (plan := [(0, none), (1, none), (2, none), (3, none), (4, none), (5, none), (6, none), (7, none), (8, none), (9, none), (10, none), (11, some true), (12, some false)]) (fun w' => Blk w' g3 177 (intsL e1) ∧ Blk w' c.cb 100 [.int .i64 (n : Int), .map (some c.mb), .slice c.va ls.length c.vc, .int .u64 (c.st : Int)] ∧ MapAt w' c.mb c.m ∧ Blk w' (c.hs i).blk 95 (lvL n (c.hs i) (ls.getD i lv0))) mixed (by kernel_rfl) ⟨hb34.drew, (hstr.ext hEw4).drew, (hC.ext hEw4).drew.map, ((hC.ext hEw4).lv i hil).str.drew⟩ ?_
        repeat' (first | (refine k_loadCA (Tb := 177) rfl (fun _ h => h.1) (by rw [List.length_map]; exact hel3) ?_) | (refine k_loadC (Tb := 100) rfl (fun _ h => h.2.1) rfl ?_) | (refine k_lookup mapT intT rfl rfl (fun _ h => h.2.2.1) hfd ?_) | (refine k_loadC (Tb := 95) rfl (fun _ h => h.2.2.2) rfl ?_) | (refine k_pure rfl ?_) | (refine then_normal ?_) | (refine cw_seq ?_) | (refine cw_region rfl ?_) | (refine rr_nil ?_) | (refine k_len rfl ?_) | (refine g_run rfl rfl ?_) | (refine g_skip rfl rfl ?_) | (refine g_dec_f rfl rfl (fun hc => ?_) (fun hc => ?_)) | (refine g_dec_t rfl rfl (fun hc => ?_) (fun hc => ?_)) | (refine g_ndec_f rfl rfl (fun hc => ?_) (fun hc => ?_)) | (refine g_ndec_t rfl rfl (fun hc => ?_) (fun hc => ?_)) | (refine g_split rfl rfl (fun hc => ?_) (fun hc => ?_)) | (refine k_addI rfl rfl (by omega) (by omega) ?_) | (refine k_subI rfl rfl (by omega) (by omega) ?_) | (refine k_fieldAddr rfl ?_) | (refine k_eqlB rfl rfl ?_) | (refine k_neqB rfl rfl ?_) | (refine cw_cond_true rfl ?_) | (refine cw_cond_false rfl ?_) | (refine cw_cond_dec rfl (fun hc => ?_) (fun hc => ?_)) | (refine cw_cond_ndec rfl (fun hc => ?_) (fun hc => ?_)) | (refine cw_cond rfl (fun hc => ?_) (fun hc => ?_)) | (refine cw_block ?_) | (refine cw_exit ?_) | (refine then_exit ?_) | (refine in_exit ?_) | (refine in_exit_ne rfl ?_) | (refine in_normal ?_) | (refine cw_ret ?_) | (refine then_ret ?_) | (refine in_ret ?_) | (refine cw_skip ?_))
        refine k_call (scaled_spec (n := (ls.getD i lv0).orb.length) (u := 0) (v := 1) (T := 1) (t := -1) hR3 hB3 (by omega) (by decide) (by decide) (by omega)) rfl ?_
        rintro v w5 ⟨e3, rfl, hR5, hB5, hE5⟩
        refine ⟨fun _ h => ⟨h.1.ext hE5, h.2.1.ext hE5, h.2.2.1.ext hE5, h.2.2.2.ext hE5⟩, ?_⟩
        repeat' (first | (refine k_storeV (vs := intsL e3) rfl rfl (by rw [List.length_map]; exact hR5.1) (all_one (fun _ => rfl) _) (hb34.drew.ext hE5) (by rw [List.length_map]; exact hel3) (fun w6 hc6 hb6 => ⟨fun h => (nomatch h), ?_⟩)) | (refine k_pure rfl ?_) | (refine then_normal ?_) | (refine cw_seq ?_) | (refine cw_region rfl ?_) | (refine rr_nil ?_) | (refine k_len rfl ?_) | (refine g_run rfl rfl ?_) | (refine g_skip rfl rfl ?_) | (refine g_dec_f rfl rfl (fun hc => ?_) (fun hc => ?_)) | (refine g_dec_t rfl rfl (fun hc => ?_) (fun hc => ?_)) | (refine g_ndec_f rfl rfl (fun hc => ?_) (fun hc => ?_)) | (refine g_ndec_t rfl rfl (fun hc => ?_) (fun hc => ?_)) | (refine g_split rfl rfl (fun hc => ?_) (fun hc => ?_)) | (refine k_addI rfl rfl (by omega) (by omega) ?_) | (refine k_subI rfl rfl (by omega) (by omega) ?_) | (refine k_fieldAddr rfl ?_) | (refine k_eqlB rfl rfl ?_) | (refine k_neqB rfl rfl ?_) | (refine cw_cond_true rfl ?_) | (refine cw_cond_false rfl ?_) | (refine cw_cond_dec rfl (fun hc => ?_) (fun hc => ?_)) | (refine cw_cond_ndec rfl (fun hc => ?_) (fun hc => ?_)) | (refine cw_cond rfl (fun hc => ?_) (fun hc => ?_)) | (refine cw_block ?_) | (refine cw_exit ?_) | (refine then_exit ?_) | (refine in_exit ?_) | (refine in_exit_ne rfl ?_) | (refine in_normal ?_) | (refine cw_ret ?_) | (refine then_ret ?_) | (refine in_ret ?_) | (refine cw_skip ?_))
        refine ⟨⟨(i + 1, e3), ⟨by simp only; omega, (hEw4.drew.trans hE5).chg hc6 z1, hb6, ?_, hB5.mono (by simp only; omega)⟩, by simp only; omega, rfl, trivial⟩, (by (repeat (first | exact agree_mask _ _ _ | refine agree_upd rfl ?_ | refine agree_updO rfl ?_ | refine agree_overIn rfl ?_ | refine agree_maskIn rfl ?_)))⟩
        show Rep e3 (prodL ls) (prodL (ls.take (i + 1)))
        rw [prodL_take lv0 ls i hil]
        simpa using hR5
    · obtain rfl : i = ls.length := by omega
      repeat' (first | (refine k_loadC rfl hstr3 rfl ?_) | (refine k_lenMap mapT rfl hC3.map ?_) | (refine k_pure rfl ?_) | (refine then_normal ?_) | (refine cw_seq ?_) | (refine cw_region rfl ?_) | (refine rr_nil ?_) | (refine k_len rfl ?_) | (refine g_run rfl rfl ?_) | (refine g_skip rfl rfl ?_) | (refine g_dec_f rfl rfl (fun hc => ?_) (fun hc => ?_)) | (refine g_dec_t rfl rfl (fun hc => ?_) (fun hc => ?_)) | (refine g_ndec_f rfl rfl (fun hc => ?_) (fun hc => ?_)) | (refine g_ndec_t rfl rfl (fun hc => ?_) (fun hc => ?_)) | (refine g_split rfl rfl (fun hc => ?_) (fun hc => ?_)) | (refine k_addI rfl rfl (by omega) (by omega) ?_) | (refine k_subI rfl rfl (by omega) (by omega) ?_) | (refine k_fieldAddr rfl ?_) | (refine k_eqlB rfl rfl ?_) | (refine k_neqB rfl rfl ?_) | (refine cw_cond_true rfl ?_) | (refine cw_cond_false rfl ?_) | (refine cw_cond_dec rfl (fun hc => ?_) (fun hc => ?_)) | (refine cw_cond_ndec rfl (fun hc => ?_) (fun hc => ?_)) | (refine cw_cond rfl (fun hc => ?_) (fun hc => ?_)) | (refine cw_block ?_) | (refine cw_exit ?_) | (refine then_exit ?_) | (refine in_exit ?_) | (refine in_exit_ne rfl ?_) | (refine in_normal ?_) | (refine cw_ret ?_) | (refine then_ret ?_) | (refine in_ret ?_) | (refine cw_skip ?_))
      refine ret1 rfl (rt rfl) ⟨ls.length, Nat.le_refl _, by rw [← hml]; rfl, ?_, hE3⟩
      rw [List.drop_length]; trivial
end Go.Proofs.Ythhfjagnmhhapaa

/- Counting treated generators of a level: plain laws. -/
namespace Go.PM
def Lv.tick (l : Lv) (a : Nat) : Lv := { l with done := l.done.set a (l.done.getD a 0 + 1) }
theorem LvOK.tick {n : Nat} {l : Lv} (h : LvOK n l) (a : Nat) : LvOK n (l.tick a) :=
  ⟨h.n1, h.pt, h.gens, h.nd, h.len, by simp [Lv.tick, h.dlen], h.pos, h.head, h.mem, h.bin, h.bap, h.b0⟩
theorem done_set {l : List Nat} {a b v : Nat} : (l.set a v).getD b 0 = if b = a ∧ a < l.length then v else l.getD b 0 := by
  rw [List.getD_eq_getElem?_getD, List.getElem?_set]
  by_cases e : a = b
  · subst e
    by_cases h : a < l.length
    · simp [h]
    · simp [h]
  · rw [if_neg e, if_neg (fun h => e h.1.symm), ← List.getD_eq_getElem?_getD]
theorem grp_set {n : Nat} {ls : List Lv} {i : Nat} {l l' : Lv} (h : ls[i]? = some l) (hg : l'.gens = l.gens) : grpOf n (ls.set i l') = grpOf n ls := by
  cases ls with
  | nil => rfl
  | cons z zs =>
    cases i with
    | zero => simp at h; subst h; show Gen n l'.gens = Gen n z.gens; rw [hg]
    | succ i => rfl
theorem links_done {n a : Nat} : ∀ (i : Nat) (ls : List Lv) (l : Lv), ls[i]? = some l → Links n ls → a < l.orb.length → l.done.getD a 0 < l.gens.length → grpOf n (ls.drop (i + 1)) (l.schr a (l.done.getD a 0)) →
    Links n (ls.set i (l.tick a)) ∧ prodL (ls.set i (l.tick a)) = prodL ls
  | _, [], _, h, _, _, _, _ => by simp at h
  | 0, z :: ls, l, h, hL, ha, hk, hs => by
    simp at h
    subst h
    refine ⟨⟨hL.1.tick a, hL.2.1, fun b hb => ?_, hL.tail⟩, rfl⟩
    have hb' : b < z.orb.length := hb
    have h0 := hL.2.2.1 b hb'
    show (z.done.set a (z.done.getD a 0 + 1)).getD b 0 ≤ z.gens.length ∧ ∀ k, k < (z.done.set a (z.done.getD a 0 + 1)).getD b 0 → grpOf n ls (z.schr b k)
    rw [done_set]
    by_cases e : b = a ∧ a < z.done.length
    · rw [if_pos e]
      obtain ⟨rfl, _⟩ := e
      refine ⟨by omega, fun k hk' => ?_⟩
      by_cases e2 : k = z.done.getD b 0
      · subst e2; exact hs
      · exact h0.2 k (by omega)
    · rw [if_neg e]; exact h0
  | i + 1, z :: ls, l, h, hL, ha, hk, hs => by
    simp only [List.getElem?_cons_succ] at h
    obtain ⟨h1, h2⟩ := links_done i ls l h hL.tail ha hk hs
    have e := grp_set (n := n) h (l' := l.tick a) rfl
    refine ⟨⟨hL.1, fun p hp => hL.2.1 p (by rw [← e]; exact hp), fun b hb => ?_, h1⟩, ?_⟩
    · have := hL.2.2.1 b hb
      exact ⟨this.1, fun k hk => by show grpOf n (ls.set i (l.tick a)) _; rw [e]; exact this.2 k hk⟩
    · show z.orb.length * prodL (ls.set i (l.tick a)) = _
      rw [h2]; rfl
theorem check_rem {n : Nat} {l : Lv} {ls : List Lv} (h : Links n (l :: ls)) {a k : Nat} (ha : a < l.orb.length) (hk : k < l.gens.length) :
    Gen n l.gens (mulP (inv (l.bk a)) (l.gens.getD k [])) ∧ ((siftL (l :: ls) (mulP (inv (l.bk a)) (l.gens.getD k []))).1 = idList n → grpOf n ls (l.schr a k)) := by
  have hg := h.1.grp
  have hb := h.1.bin a ha
  have hgk := gen_self h.1.gens (getD_mem (d := []) hk)
  have hp := hg.mul _ _ (hg.inv hb) hgk
  refine ⟨hp, fun e => ?_⟩
  have pb := hg.perm _ hb
  have hx := h.1.orb_in (getD_mem (d := 0) ha)
  have e1 : ap (mulP (inv (l.bk a)) (l.gens.getD k [])) l.pt = ap (l.gens.getD k []) (l.orb.getD a 0) := by
    rw [ap_mul pb.inv h.1.pt]
    congr 1
    rw [← h.1.bap a ha, ap_inv pb hx]
  have hm : ap (l.gens.getD k []) (l.orb.getD a 0) ∈ l.orb := by
    rw [h.1.mem]; exact .step _ (getD_mem hk) ((h.1.mem _).1 (getD_mem ha))
  rw [siftL, e1, if_pos hm] at e
  simp only at e
  have hs : mulP (mulP (inv (l.bk a)) (l.gens.getD k [])) (l.to (ap (l.gens.getD k []) (l.orb.getD a 0))) = l.schr a k := rfl
  rw [hs] at e
  have ps : PermN n (l.schr a k) := (hg.perm _ hp).mul (hg.perm _ (h.1.to_in hm))
  rw [← sift_grp h.tail ps, e]
  exact h.tail.grp.one
end Go.PM

namespace Go.Proofs.Ythhfjagnmhhapaa
open Go.W Go.PM
structure Tk (i : Nat) (ls ls1 : List Lv) : Prop where
  len : ls1.length = ls.length
  oth : ∀ j, j ≠ i → ls1.getD j lv0 = ls.getD j lv0
  pt : (ls1.getD i lv0).pt = (ls.getD i lv0).pt
  gens : (ls1.getD i lv0).gens = (ls.getD i lv0).gens
  orb : (ls1.getD i lv0).orb = (ls.getD i lv0).orb
  back : (ls1.getD i lv0).back = (ls.getD i lv0).back
  prod : prodL ls1 = prodL ls
theorem Tk.refl (i : Nat) (ls : List Lv) : Tk i ls ls := ⟨rfl, fun _ _ => rfl, rfl, rfl, rfl, rfl, rfl⟩
theorem getD_set_lv {ls : List Lv} {i j : Nat} {l : Lv} (hi : i < ls.length) : (ls.set i l).getD j lv0 = if j = i then l else ls.getD j lv0 := by
  rw [List.getD_eq_getElem?_getD, List.getElem?_set]
  by_cases h : j = i
  · subst h; simp [hi]
  · rw [if_neg (fun e => h e.symm), if_neg h, ← List.getD_eq_getElem?_getD]
theorem Tk.tick {i : Nat} {ls ls1 : List Lv} (h : Tk i ls ls1) (hi : i < ls1.length) (a : Nat) (hp : prodL (ls1.set i ((ls1.getD i lv0).tick a)) = prodL ls1) : Tk i ls (ls1.set i ((ls1.getD i lv0).tick a)) := by
  have e : ∀ j, (ls1.set i ((ls1.getD i lv0).tick a)).getD j lv0 = if j = i then (ls1.getD i lv0).tick a else ls1.getD j lv0 := fun j => getD_set_lv hi
  refine ⟨by simp [h.len], fun j hj => by rw [e, if_neg hj]; exact h.oth j hj, ?_, ?_, ?_, ?_, hp.trans h.prod⟩ <;> rw [e, if_pos rfl]
  · exact h.pt
  · exact h.gens
  · exact h.orb
  · exact h.back
theorem Gd.tick {n : Nat} {G : List Int → Prop} {base : List Int} {N0 : Nat} {ls : List Lv} (h : Gd n G base N0 ls) {i a : Nat} (hi : i < ls.length) (ha : a < (ls.getD i lv0).orb.length) (hk : (ls.getD i lv0).done.getD a 0 < (ls.getD i lv0).gens.length)
    (hs : grpOf n (ls.drop (i + 1)) ((ls.getD i lv0).schr a ((ls.getD i lv0).done.getD a 0))) : Gd n G base N0 (ls.set i ((ls.getD i lv0).tick a)) ∧ prodL (ls.set i ((ls.getD i lv0).tick a)) = prodL ls := by
  obtain ⟨h1, h2⟩ := links_done i ls _ (getD_some hi) h.links ha hk hs
  have e : ∀ j, (ls.set i ((ls.getD i lv0).tick a)).getD j lv0 = if j = i then (ls.getD i lv0).tick a else ls.getD j lv0 := fun j => getD_set_lv hi
  refine ⟨⟨h1, fun p => by rw [grp_set (getD_some hi) (l' := (ls.getD i lv0).tick a) rfl]; exact h.grp p, fun j hj => ?_, by rw [h2, List.length_set]; exact h.ll, by rw [List.length_set]; exact h.bl, fun j hj => ?_, fun j hb hj => ?_⟩, h2⟩
  · rw [List.length_set] at hj
    rw [h2, e]; split
    · exact h.gl i hi
    · exact h.gl j hj
  · rw [e]; split
    · rename_i e'; subst e'; exact h.pts j hj
    · exact h.pts j hj
  · rw [List.length_set] at hj
    rw [e]; split
    · rename_i e'; subst e'; exact h.two j hb hj
    · exact h.two j hb hj
theorem ChAt.tick {w w' : World} {n : Nat} {c : CH} {ls : List Lv} (hC : ChAt w n c ls) {i a : Nat} (hi : i < ls.length) (hc : Chg (c.hs i).db w w')
    (ho : Own w' 0 3 1 (ba (c.hs i).db) (ls.getD i lv0).done.length (c.hs i).dc (natsL ((ls.getD i lv0).done.set a ((ls.getD i lv0).done.getD a 0 + 1)))) : ChAt w' n c (ls.set i ((ls.getD i lv0).tick a)) := by
  have hl : (ls.set i ((ls.getD i lv0).tick a)).length = ls.length := by simp
  have hdF : (c.hs i).db ∈ (c.hs i).F := by simp [LH.F]
  have f := f1C hc
  have hfne := hC.fne i hi _ (.inl hdF)
  have e : ∀ j, (ls.set i ((ls.getD i lv0).tick a)).getD j lv0 = if j = i then (ls.getD i lv0).tick a else ls.getD j lv0 := fun j => getD_set_lv hi
  refine ⟨?_, hC.st, hC.map.chg hc (fun e => hfne.2.1 e.symm), ?_, ?_, fun j hj => ?_, hC.cmb, hC.vne, ?_, ?_, ?_⟩
  · rw [hl]; exact hC.str.chg hc (fun e => hfne.1 e.symm)
  · rw [hl]; exact hC.mok
  · rw [hl]; exact hC.dv.chg hc (fun ad e => hfne.2.2 ad e)
  · rw [hl] at hj
    rw [e]
    by_cases ej : j = i
    · subst ej
      rw [if_pos rfl]
      have hL := hC.lv j hj
      have nd := hL.nd
      simp only [LH.F, List.mem_cons, List.not_mem_nil, or_false, List.nodup_cons, not_or, not_false_eq_true, and_true, List.nodup_nil] at nd
      obtain ⟨⟨n1, n2, n3, n4⟩, ⟨n5, n6, n7⟩, ⟨n8, n9⟩, n10⟩ := nd
      have hdis : ∀ q, q ∈ (c.hs j).im → ¬ One (c.hs j).db q := fun q hq e => hL.dis _ hdF (by have e : q = (c.hs j).db := e; rw [← e]; exact hq)
      refine ⟨?_, Own.f1 hL.orb f n7, Blk.f1 hL.wh f n9, Own.f1 hL.bk f n10, hL.bs.fr f hdis, ?_, hL.ga.fr f (fun ad e => hdis _ (hL.gim ad e)), hL.gim, hL.gs.fr f hdis, hL.nd, hL.dis, fun q hq => Nat.lt_of_lt_of_le (hL.imlt q hq) f.size, hL.gcap⟩
      · have := Blk.f1 hL.str f n4
        have e2 : lvL n (c.hs j) ((ls.getD j lv0).tick a) = lvL n (c.hs j) (ls.getD j lv0) := by simp [lvL, Lv.tick]
        rw [e2]; exact this
      · have e2 : ((ls.getD j lv0).tick a).done.length = (ls.getD j lv0).done.length := by simp [Lv.tick]
        rw [e2]; exact ho
    · rw [if_neg ej]
      exact (hC.lv j hj).fr f (fun q hq e => hC.dis i j hi hj (Ne.symm ej) _ hdF (by have e : q = (c.hs i).db := e; rw [← e]; exact hq)) (fun q hq e => hC.imd i j hi hj _ hdF (by have e : q = (c.hs i).db := e; rw [← e]; exact hq))
  · rw [hl]; exact hC.fne
  · rw [hl]; exact hC.dis
  · rw [hl]; exact hC.imd
end Go.Proofs.Ythhfjagnmhhapaa

