
import Derived.Test.YthhfjagnmhhapaaM01
import Derived.Test.YthhfjagnmhhapaaM02
import Derived.Test.YthhfjagnmhhapaaM03
import Derived.Test.YthhfjagnmhhapaaM04
import Derived.Test.YthhfjagnmhhapaaM05
import Derived.Test.YthhfjagnmhhapaaM06
import Derived.Test.YthhfjagnmhhapaaM07
import Derived.Test.YthhfjagnmhhapaaM09
import Derived.Test.YthhfjagnmhhapaaM10
import Derived.Test.YthhfjagnmhhapaaM12
import Derived.Test.YthhfjagnmhhapaaM13
import Derived.Test.YthhfjagnmhhapaaM14

namespace Go.W
theorem Own.blkN {w : World} {lo T n g : Nat} {vs : List Value} (h : Own w lo T 1 (some ⟨g, 0, none⟩) n n vs) (h0 : 0 < n) : Blk w g T vs := by
  rcases h.2 with ⟨_, hn⟩ | ⟨g', c, cur, hv, _, hb, _, _, h3, h4⟩
  · omega
  · simp only [Value.slice.injEq, Option.some.injEq, Addr.mk.injEq] at hv
    obtain ⟨⟨rfl, _⟩, _, rfl⟩ := hv
    have e : cur = vs.toArray := by
      rw [List.take_of_length_le (by simp [h3])] at h4
      rw [← h4]
    rw [e] at hb; exact hb
end Go.W
namespace Go.Proofs.Ythhfjagnmhhapaa
open Go.W Go.PM
set_option maxHeartbeats 1000000 in
theorem chkLv_spec {w : World} {n N0 i : Nat} {G : List Int → Prop} {base : List Int} {c : CH} {ls : List Lv} (hn11 : n ≤ 11) (hN : N0 ≤ 1000000) (hC : ChAt w n c ls) (hG : Gd n G base N0 ls) (hi : i < ls.length) :
    CallsR Try.prog 113 #[.pointer (some ⟨c.cb, 0, none⟩), .int .i64 (i : Int)] w fun v w' =>
      (v = .bool true ∧ ∃ ls1, ChAt w' n c ls1 ∧ Gd n G base N0 ls1 ∧ Tk i ls ls1 ∧ (∀ a, a < (ls1.getD i lv0).orb.length → (ls1.getD i lv0).done.getD a 0 = (ls1.getD i lv0).gens.length) ∧ Fr (c.foot ls.length) w w') ∨
      (v = .bool false ∧ ∃ c' ls', ChAt w' n c' ls' ∧ Gd n G base N0 ls' ∧ prodL ls < prodL ls' ∧ Fr (c.foot ls.length) w w' ∧ CGo w c c' ls.length ls'.length) := by
  refine callsR_of (args := [_, _]) Try.func113 rfl rfl ?_
  have hstr := hC.str
  unfold chL at hstr
  have hpl := prod_le hG.links hn11
  have hll := hG.ll
  have n1 := hG.links.n1
  have ok := hG.ok hi
  have hgl := hG.gl i hi
  have hol := ok.orb_le
  obtain ⟨j, hj, hfd, hjm⟩ := hC.mok.find hi
  have hLs := (hC.lv i hi).str
  unfold lvL at hLs
  repeat' (first | (refine k_loadC (Tb := 100) rfl hstr rfl ?_) | (refine k_lookup mapT intT rfl rfl hC.map hfd ?_) | (refine k_makeI rfl rfl (by omega) (by omega) (fun pb w0 hn0 => ⟨fun _ _ => trivial, ?_⟩)) | (refine k_loadC rfl (hLs.ext hn0.ex) rfl ?_) | (refine k_pure rfl ?_) | (refine then_normal ?_) | (refine cw_seq ?_) | (refine cw_region rfl ?_) | (refine rr_nil ?_) | (refine k_len rfl ?_) | (refine g_run rfl rfl ?_) | (refine g_skip rfl rfl ?_) | (refine g_dec_f rfl rfl (fun hc => ?_) (fun hc => ?_)) | (refine g_dec_t rfl rfl (fun hc => ?_) (fun hc => ?_)) | (refine g_ndec_f rfl rfl (fun hc => ?_) (fun hc => ?_)) | (refine g_ndec_t rfl rfl (fun hc => ?_) (fun hc => ?_)) | (refine g_split rfl rfl (fun hc => ?_) (fun hc => ?_)) | (refine k_addI rfl rfl (by omega) (by omega) ?_) | (refine k_subI rfl rfl (by omega) (by omega) ?_) | (refine k_fieldAddr rfl ?_) | (refine k_eqlB rfl rfl ?_) | (refine k_neqB rfl rfl ?_) | (refine cw_cond_true rfl ?_) | (refine cw_cond_false rfl ?_) | (refine cw_cond_dec rfl (fun hc => ?_) (fun hc => ?_)) | (refine cw_cond_ndec rfl (fun hc => ?_) (fun hc => ?_)) | (refine cw_cond rfl (fun hc => ?_) (fun hc => ?_)) | (refine cw_block ?_) | (refine cw_exit ?_) | (refine then_exit ?_) | (refine in_exit ?_) | (refine in_exit_ne rfl ?_) | (refine in_normal ?_) | (refine cw_ret ?_) | (refine then_ret ?_) | (refine in_ret ?_) | (refine cw_skip ?_))
  have z0 := hn0.ex.size
  have z0' := hn0.lo
  have z0'' := hn0.hi
  have hfp := hC.fresh hn0.lo
  refine cw_loop (ι := Nat × List Lv × List Int) [4, 7, 8, 9, 10, 11, 12, 29, 30, 31, 32, 33, 34, 35, 36, 37, 38, 39, 40, 41, 42, 43, 44, 45, 46, 47, 48, 49, 50, 51, 52, 53, 54, 55, 56, 57, 58, 59, 60, 61, 62, 63, 64, 65, 66, 67, 68, 69, 70, 71, 72, 73, 74, 75, 76, 77, 78, 79, 80, 81, 82, 83, 84, 85, 86, 87, 88, 89, 90, 91, 92, 93, 94, 95, 96, 97, 98, 99, 100, 101, 102, 103, 104, 105, 106, 107, 108, 109, 110, 111, 112, 113, 114, 115, 116] (fun s => [(29, .int .i64 (s.1 : Int))]) (fun s w' => s.1 ≤ (ls.getD i lv0).orb.length ∧ ChAt w' n c s.2.1 ∧ Gd n G base N0 s.2.1 ∧ Tk i ls s.2.1 ∧ (∀ a, a < s.1 → (s.2.1.getD i lv0).done.getD a 0 = (ls.getD i lv0).gens.length) ∧ Fr (c.foot ls.length) w w' ∧ Blk w' pb 129 (u16L s.2.2) ∧ s.2.2.length = n) (fun s => (ls.getD i lv0).orb.length - s.1)
    (0, ls, List.replicate n 0) ⟨rfl, trivial⟩ ⟨Nat.zero_le _, hC.ext hn0.ex, hG, Tk.refl _ _, fun a ha => absurd ha (by simp), hn0.ex.fr, hn0.blk, by simp⟩ ?_
  rintro ⟨a, ls1, cur⟩ ξ w1 ⟨ha, hC1, hG1, ht1, hd1, hf1, hb1, hcl1⟩
  simp only at ha hC1 hG1 ht1 hd1 hb1 hcl1
  show CW _ _ _ _ (over [(29, .int .i64 (a : Int))] _) w1
  have hi1 : i < ls1.length := by rw [ht1.len]; exact hi
  repeat' (first | (refine k_pure rfl ?_) | (refine then_normal ?_) | (refine cw_seq ?_) | (refine cw_region rfl ?_) | (refine rr_nil ?_) | (refine k_len rfl ?_) | (refine g_run rfl rfl ?_) | (refine g_skip rfl rfl ?_) | (refine g_dec_f rfl rfl (fun hc => ?_) (fun hc => ?_)) | (refine g_dec_t rfl rfl (fun hc => ?_) (fun hc => ?_)) | (refine g_ndec_f rfl rfl (fun hc => ?_) (fun hc => ?_)) | (refine g_ndec_t rfl rfl (fun hc => ?_) (fun hc => ?_)) | (refine g_split rfl rfl (fun hc => ?_) (fun hc => ?_)) | (refine k_addI rfl rfl (by omega) (by omega) ?_) | (refine k_subI rfl rfl (by omega) (by omega) ?_) | (refine k_fieldAddr rfl ?_) | (refine k_eqlB rfl rfl ?_) | (refine k_neqB rfl rfl ?_) | (refine cw_cond_true rfl ?_) | (refine cw_cond_false rfl ?_) | (refine cw_cond_dec rfl (fun hc => ?_) (fun hc => ?_)) | (refine cw_cond_ndec rfl (fun hc => ?_) (fun hc => ?_)) | (refine cw_cond rfl (fun hc => ?_) (fun hc => ?_)) | (refine cw_block ?_) | (refine cw_exit ?_) | (refine then_exit ?_) | (refine in_exit ?_) | (refine in_exit_ne rfl ?_) | (refine in_normal ?_) | (refine cw_ret ?_) | (refine then_ret ?_) | (refine in_ret ?_) | (refine cw_skip ?_))
  · have ha1 : a < (ls.getD i lv0).orb.length := by omega
    have hL1 := hC1.lv i hi1
    have hLs1 := hL1.str
    have ok1 := hG1.ok hi1
    have hdl1 : (ls1.getD i lv0).done.length = (ls.getD i lv0).orb.length := by rw [ok1.dlen, ht1.orb]
    have hbl1 : (ls1.getD i lv0).back.length = (ls.getD i lv0).orb.length := by rw [ok1.len, ht1.orb]
    have hgl1 : (ls1.getD i lv0).gens.length = (ls.getD i lv0).gens.length := by rw [ht1.gens]
    have hdn1 := hL1.dn.sl
    refine cw_draw (late := []) (plan := [(0, none), (1, none), (2, none), (3, none), (4, none), (5, none), (6, none), (7, none), (8, none), (9, none), (10, none), (11, none), (12, none)]) (fun w' => Blk w' (c.hs i).blk 95 (lvL n (c.hs i) (ls1.getD i lv0)) ∧ Sl w' (ba (c.hs i).db) (natsL (ls1.getD i lv0).done)) mixed (by kernel_rfl) ⟨hLs1.drew, hdn1.drew⟩ ?_
    repeat' (first | (refine k_loadC rfl (fun _ h => h.1) rfl ?_) | (refine k_indexN (j := a) rfl rfl ⟨_, _, rfl⟩ (by omega) ?_) | (refine k_loadN rfl (fun _ h => h.2) (by omega) ?_) | (refine k_pure rfl ?_) | (refine then_normal ?_) | (refine cw_seq ?_) | (refine cw_region rfl ?_) | (refine rr_nil ?_) | (refine k_len rfl ?_) | (refine g_run rfl rfl ?_) | (refine g_skip rfl rfl ?_) | (refine g_dec_f rfl rfl (fun hc => ?_) (fun hc => ?_)) | (refine g_dec_t rfl rfl (fun hc => ?_) (fun hc => ?_)) | (refine g_ndec_f rfl rfl (fun hc => ?_) (fun hc => ?_)) | (refine g_ndec_t rfl rfl (fun hc => ?_) (fun hc => ?_)) | (refine g_split rfl rfl (fun hc => ?_) (fun hc => ?_)) | (refine k_addI rfl rfl (by omega) (by omega) ?_) | (refine k_subI rfl rfl (by omega) (by omega) ?_) | (refine k_fieldAddr rfl ?_) | (refine k_eqlB rfl rfl ?_) | (refine k_neqB rfl rfl ?_) | (refine cw_cond_true rfl ?_) | (refine cw_cond_false rfl ?_) | (refine cw_cond_dec rfl (fun hc => ?_) (fun hc => ?_)) | (refine cw_cond_ndec rfl (fun hc => ?_) (fun hc => ?_)) | (refine cw_cond rfl (fun hc => ?_) (fun hc => ?_)) | (refine cw_block ?_) | (refine cw_exit ?_) | (refine then_exit ?_) | (refine in_exit ?_) | (refine in_exit_ne rfl ?_) | (refine in_normal ?_) | (refine cw_ret ?_) | (refine then_ret ?_) | (refine in_ret ?_) | (refine cw_skip ?_))
    · refine ⟨⟨(a + 1, ls1, cur), ⟨by simp only; omega, hC1.drew, hG1, ht1, fun b hb => ?_, hf1.trans ((Ex.refl w1).drew.fr), hb1.drew, hcl1⟩, by simp only; omega, rfl, trivial⟩, (by (repeat (first | exact agree_mask _ _ _ | refine agree_upd rfl ?_ | refine agree_updO rfl ?_ | refine agree_overIn rfl ?_ | refine agree_maskIn rfl ?_)))⟩
      simp only at hb ⊢
      by_cases e : b = a
      · subst e; omega
      · exact hd1 b (by omega)
    · have hbs1 := hL1.bs
      have hbs1l := hbs1.len
      obtain ⟨⟨ta, tl, tc⟩, hsda⟩ : ∃ s, (c.hs i).bs.getD a sd0 = s := ⟨_, rfl⟩
      have hbss := hbs1.sl a (by omega)
      have hbsn := hbs1.n a (by omega)
      rw [hsda] at hbss hbsn
      simp only at hbss hbsn
      replace hbsn := hbsn.symm
      subst hbsn
      have pbk : PermN n ((ls1.getD i lv0).back.getD a []) := ok1.grp.perm _ (ok1.bin a (by rw [ht1.orb]; exact ha1))
      have hbk1 := hL1.bk.sl
      repeat' (first | (refine k_loadC rfl hLs1.drew rfl ?_) | (refine k_indexN (j := a) rfl rfl ⟨_, _, rfl⟩ (by omega) ?_) | (refine k_loadSd (j := a) rfl hbk1.drew (by omega) hsda ?_) | (refine k_pure rfl ?_) | (refine then_normal ?_) | (refine cw_seq ?_) | (refine cw_region rfl ?_) | (refine rr_nil ?_) | (refine k_len rfl ?_) | (refine g_run rfl rfl ?_) | (refine g_skip rfl rfl ?_) | (refine g_dec_f rfl rfl (fun hc => ?_) (fun hc => ?_)) | (refine g_dec_t rfl rfl (fun hc => ?_) (fun hc => ?_)) | (refine g_ndec_f rfl rfl (fun hc => ?_) (fun hc => ?_)) | (refine g_ndec_t rfl rfl (fun hc => ?_) (fun hc => ?_)) | (refine g_split rfl rfl (fun hc => ?_) (fun hc => ?_)) | (refine k_addI rfl rfl (by omega) (by omega) ?_) | (refine k_subI rfl rfl (by omega) (by omega) ?_) | (refine k_fieldAddr rfl ?_) | (refine k_eqlB rfl rfl ?_) | (refine k_neqB rfl rfl ?_) | (refine cw_cond_true rfl ?_) | (refine cw_cond_false rfl ?_) | (refine cw_cond_dec rfl (fun hc => ?_) (fun hc => ?_)) | (refine cw_cond_ndec rfl (fun hc => ?_) (fun hc => ?_)) | (refine cw_cond rfl (fun hc => ?_) (fun hc => ?_)) | (refine cw_block ?_) | (refine cw_exit ?_) | (refine then_exit ?_) | (refine in_exit ?_) | (refine in_exit_ne rfl ?_) | (refine in_normal ?_) | (refine cw_ret ?_) | (refine then_ret ?_) | (refine in_ret ?_) | (refine cw_skip ?_))
      refine k_call (pinv_spec hbss.drew tc pbk) (by rw [pbk.2]; rfl) ?_
      rintro v w2 ⟨fb, rfl, hfb, hb2, hE2⟩
      refine ⟨fun _ _ => trivial, ?_⟩
      rw [pbk.inv.2]
      replace hE2 : Ex w1 w2 := (Ex.refl w1).drew.trans hE2
      replace hfb : w1.heap.size ≤ fb := hfb
      have z1 := hf1.size
      have hfbl := hb2.lt
      generalize hB : (ls1.getD i lv0).back.getD a [] = B at *
      repeat' (first | (refine k_pure rfl ?_) | (refine then_normal ?_) | (refine cw_seq ?_) | (refine cw_region rfl ?_) | (refine rr_nil ?_) | (refine k_len rfl ?_) | (refine g_run rfl rfl ?_) | (refine g_skip rfl rfl ?_) | (refine g_dec_f rfl rfl (fun hc => ?_) (fun hc => ?_)) | (refine g_dec_t rfl rfl (fun hc => ?_) (fun hc => ?_)) | (refine g_ndec_f rfl rfl (fun hc => ?_) (fun hc => ?_)) | (refine g_ndec_t rfl rfl (fun hc => ?_) (fun hc => ?_)) | (refine g_split rfl rfl (fun hc => ?_) (fun hc => ?_)) | (refine k_addI rfl rfl (by omega) (by omega) ?_) | (refine k_subI rfl rfl (by omega) (by omega) ?_) | (refine k_fieldAddr rfl ?_) | (refine k_eqlB rfl rfl ?_) | (refine k_neqB rfl rfl ?_) | (refine cw_cond_true rfl ?_) | (refine cw_cond_false rfl ?_) | (refine cw_cond_dec rfl (fun hc => ?_) (fun hc => ?_)) | (refine cw_cond_ndec rfl (fun hc => ?_) (fun hc => ?_)) | (refine cw_cond rfl (fun hc => ?_) (fun hc => ?_)) | (refine cw_block ?_) | (refine cw_exit ?_) | (refine then_exit ?_) | (refine in_exit ?_) | (refine in_exit_ne rfl ?_) | (refine in_normal ?_) | (refine cw_ret ?_) | (refine then_ret ?_) | (refine in_ret ?_) | (refine cw_skip ?_))
      refine cw_loop (ι := List Lv × List Int) [4, 9, 10, 11, 12, 53, 54, 55, 56, 57, 58, 59, 60, 61, 62, 63, 64, 65, 66, 67, 68, 69, 70, 71, 72, 73, 74, 75, 76, 77, 78, 79, 80, 81, 82, 83, 84, 85, 86, 87, 88, 89, 90, 91, 92, 93, 94, 95, 96, 97, 98, 99, 100, 101, 102, 103, 104, 105, 106, 107, 108, 109, 110, 111, 112, 113, 114, 115] (fun _ => []) (fun s w' => ChAt w' n c s.1 ∧ Gd n G base N0 s.1 ∧ Tk i ls s.1 ∧ (∀ b, b < a → (s.1.getD i lv0).done.getD b 0 = (ls.getD i lv0).gens.length) ∧ Fr (c.foot ls.length) w w' ∧ Blk w' pb 129 (u16L s.2) ∧ s.2.length = n ∧ Blk w' fb 129 (u16L (inv B))) (fun s => (ls.getD i lv0).gens.length - (s.1.getD i lv0).done.getD a 0)
        (ls1, cur) trivial ⟨hC1.ext hE2, hG1, ht1, hd1, hf1.trans hE2.fr, hb1.ext hE2, hcl1, hb2⟩ ?_
      rintro ⟨ls2, cur2⟩ ξ2 w3 ⟨hC3, hG3, ht3, hd3, hf3, hb3, hcl3, hfb3⟩
      simp only at hC3 hG3 ht3 hd3 hb3 hcl3 hfb3
      show CW _ _ _ _ (over [] _) w3
      have hi3 : i < ls2.length := by rw [ht3.len]; exact hi
      have hL3 := hC3.lv i hi3
      have hLs3 := hL3.str
      have ok3 := hG3.ok hi3
      have hdl3 : (ls2.getD i lv0).done.length = (ls.getD i lv0).orb.length := by rw [ok3.dlen, ht3.orb]
      have hgl3 : (ls2.getD i lv0).gens.length = (ls.getD i lv0).gens.length := by rw [ht3.gens]
      have hdn3 := hL3.dn.sl
      have z3 := hf3.size
      have hbe : (ls2.getD i lv0).bk a = B := by unfold Lv.bk; rw [ht3.back, ← ht1.back]; exact hB
      repeat' (first | (refine k_pure rfl ?_) | (refine then_normal ?_) | (refine cw_seq ?_) | (refine cw_region rfl ?_) | (refine rr_nil ?_) | (refine k_len rfl ?_) | (refine g_run rfl rfl ?_) | (refine g_skip rfl rfl ?_) | (refine g_dec_f rfl rfl (fun hc => ?_) (fun hc => ?_)) | (refine g_dec_t rfl rfl (fun hc => ?_) (fun hc => ?_)) | (refine g_ndec_f rfl rfl (fun hc => ?_) (fun hc => ?_)) | (refine g_ndec_t rfl rfl (fun hc => ?_) (fun hc => ?_)) | (refine g_split rfl rfl (fun hc => ?_) (fun hc => ?_)) | (refine k_addI rfl rfl (by omega) (by omega) ?_) | (refine k_subI rfl rfl (by omega) (by omega) ?_) | (refine k_fieldAddr rfl ?_) | (refine k_eqlB rfl rfl ?_) | (refine k_neqB rfl rfl ?_) | (refine cw_cond_true rfl ?_) | (refine cw_cond_false rfl ?_) | (refine cw_cond_dec rfl (fun hc => ?_) (fun hc => ?_)) | (refine cw_cond_ndec rfl (fun hc => ?_) (fun hc => ?_)) | (refine cw_cond rfl (fun hc => ?_) (fun hc => ?_)) | (refine cw_block ?_) | (refine cw_exit ?_) | (refine then_exit ?_) | (refine in_exit ?_) | (refine in_exit_ne rfl ?_) | (refine in_normal ?_) | (refine cw_ret ?_) | (refine then_ret ?_) | (refine in_ret ?_) | (refine cw_skip ?_))
      refine cw_draw (late := []) (plan := [(0, none), (1, none), (2, none), (3, none), (4, none), (5, none), (6, none), (7, none), (8, none), (9, none), (10, none), (11, none), (12, none)]) (fun w' => Blk w' (c.hs i).blk 95 (lvL n (c.hs i) (ls2.getD i lv0)) ∧ Sl w' (ba (c.hs i).db) (natsL (ls2.getD i lv0).done)) mixed (by kernel_rfl) ⟨hLs3.drew, hdn3.drew⟩ ?_
      obtain ⟨dk, hdk⟩ : ∃ d, d = (ls2.getD i lv0).done.getD a 0 := ⟨_, rfl⟩
      repeat' (first | (refine k_loadC rfl (fun _ h => h.1) rfl ?_) | (refine k_indexN (j := a) rfl rfl ⟨_, _, rfl⟩ (by omega) ?_) | (refine k_loadN rfl (fun _ h => h.2) (by omega) ?_) | (refine k_pure rfl ?_) | (refine then_normal ?_) | (refine cw_seq ?_) | (refine cw_region rfl ?_) | (refine rr_nil ?_) | (refine k_len rfl ?_) | (refine g_run rfl rfl ?_) | (refine g_skip rfl rfl ?_) | (refine g_dec_f rfl rfl (fun hc => ?_) (fun hc => ?_)) | (refine g_dec_t rfl rfl (fun hc => ?_) (fun hc => ?_)) | (refine g_ndec_f rfl rfl (fun hc => ?_) (fun hc => ?_)) | (refine g_ndec_t rfl rfl (fun hc => ?_) (fun hc => ?_)) | (refine g_split rfl rfl (fun hc => ?_) (fun hc => ?_)) | (refine k_addI rfl rfl (by omega) (by omega) ?_) | (refine k_subI rfl rfl (by omega) (by omega) ?_) | (refine k_fieldAddr rfl ?_) | (refine k_eqlB rfl rfl ?_) | (refine k_neqB rfl rfl ?_) | (refine cw_cond_true rfl ?_) | (refine cw_cond_false rfl ?_) | (refine cw_cond_dec rfl (fun hc => ?_) (fun hc => ?_)) | (refine cw_cond_ndec rfl (fun hc => ?_) (fun hc => ?_)) | (refine cw_cond rfl (fun hc => ?_) (fun hc => ?_)) | (refine cw_block ?_) | (refine cw_exit ?_) | (refine then_exit ?_) | (refine in_exit ?_) | (refine in_exit_ne rfl ?_) | (refine in_normal ?_) | (refine cw_ret ?_) | (refine then_ret ?_) | (refine in_ret ?_) | (refine cw_skip ?_))
      · have hdkl : dk < (ls2.getD i lv0).gens.length := by omega
        have hga3 := hL3.ga
        have hgs3 := hL3.gs
        have hgs3l := hgs3.len
        obtain ⟨⟨ea, el, ec⟩, he⟩ : ∃ s, (c.hs i).gs.getD dk sd0 = s := ⟨_, rfl⟩
        have hgsl := hgs3.sl dk hdkl
        have hgsn := hgs3.n dk hdkl
        have hgsi := hgs3.im dk hdkl
        rw [he] at hgsl hgsn hgsi
        simp only at hgsl hgsn hgsi
        replace hgsn := hgsn.symm
        subst hgsn
        refine cw_draw (late := []) (plan := [(0, none), (1, none), (2, none), (3, none), (4, none), (5, none), (6, none), (7, none), (8, none), (9, none), (10, none), (11, none), (12, none), (13, none)]) (fun w' => Blk w' (c.hs i).blk 95 (lvL n (c.hs i) (ls2.getD i lv0)) ∧ Sl w' (ba (c.hs i).db) (natsL (ls2.getD i lv0).done) ∧ Sl w' (c.hs i).ga ((c.hs i).gs.map SD.val)) mixed (by kernel_rfl) ⟨hLs3.drew.drew, hdn3.drew.drew, hga3.drew.drew⟩ ?_
        repeat' (first | (refine k_loadC rfl (fun _ h => h.1) rfl ?_) | (refine k_indexN (j := a) rfl rfl ⟨_, _, rfl⟩ (by omega) ?_) | (refine k_loadN (j := a) rfl (fun _ h => h.2.1) (by omega) ?_) | (refine k_indexN (j := dk) rfl (congrArg (fun (t : Nat) => Value.int .i64 (t : Int)) hdk.symm) (hga3.plain (by simp; omega)) (by omega) ?_) | (refine k_loadSd (j := dk) rfl (fun _ h => h.2.2) (by omega) he ?_) | (refine k_pure rfl ?_) | (refine then_normal ?_) | (refine cw_seq ?_) | (refine cw_region rfl ?_) | (refine rr_nil ?_) | (refine k_len rfl ?_) | (refine g_run rfl rfl ?_) | (refine g_skip rfl rfl ?_) | (refine g_dec_f rfl rfl (fun hc => ?_) (fun hc => ?_)) | (refine g_dec_t rfl rfl (fun hc => ?_) (fun hc => ?_)) | (refine g_ndec_f rfl rfl (fun hc => ?_) (fun hc => ?_)) | (refine g_ndec_t rfl rfl (fun hc => ?_) (fun hc => ?_)) | (refine g_split rfl rfl (fun hc => ?_) (fun hc => ?_)) | (refine k_addI rfl rfl (by omega) (by omega) ?_) | (refine k_subI rfl rfl (by omega) (by omega) ?_) | (refine k_fieldAddr rfl ?_) | (refine k_eqlB rfl rfl ?_) | (refine k_neqB rfl rfl ?_) | (refine cw_cond_true rfl ?_) | (refine cw_cond_false rfl ?_) | (refine cw_cond_dec rfl (fun hc => ?_) (fun hc => ?_)) | (refine cw_cond_ndec rfl (fun hc => ?_) (fun hc => ?_)) | (refine cw_cond rfl (fun hc => ?_) (fun hc => ?_)) | (refine cw_block ?_) | (refine cw_exit ?_) | (refine then_exit ?_) | (refine in_exit ?_) | (refine in_exit_ne rfl ?_) | (refine in_normal ?_) | (refine cw_ret ?_) | (refine then_ret ?_) | (refine in_ret ?_) | (refine cw_skip ?_))
        obtain ⟨gk, hgk⟩ : ∃ x, x = (ls2.getD i lv0).gens.getD dk [] := ⟨_, rfl⟩
        rw [← hgk] at hgsl
        have pgk : PermN n gk := by rw [hgk]; exact ok3.gens _ (getD_mem hdkl)
        have pbi := pbk.inv
        have pb1 := hb1.lt
        have hpim : ∀ q, q ∈ (c.hs i).im → q ≠ pb := fun q hq e => hfp.2 ⟨i, hi, by rw [← e]; exact hq⟩
        repeat' (first | (refine k_pure rfl ?_) | (refine then_normal ?_) | (refine cw_seq ?_) | (refine cw_region rfl ?_) | (refine rr_nil ?_) | (refine k_len rfl ?_) | (refine g_run rfl rfl ?_) | (refine g_skip rfl rfl ?_) | (refine g_dec_f rfl rfl (fun hc => ?_) (fun hc => ?_)) | (refine g_dec_t rfl rfl (fun hc => ?_) (fun hc => ?_)) | (refine g_ndec_f rfl rfl (fun hc => ?_) (fun hc => ?_)) | (refine g_ndec_t rfl rfl (fun hc => ?_) (fun hc => ?_)) | (refine g_split rfl rfl (fun hc => ?_) (fun hc => ?_)) | (refine k_addI rfl rfl (by omega) (by omega) ?_) | (refine k_subI rfl rfl (by omega) (by omega) ?_) | (refine k_fieldAddr rfl ?_) | (refine k_eqlB rfl rfl ?_) | (refine k_neqB rfl rfl ?_) | (refine cw_cond_true rfl ?_) | (refine cw_cond_false rfl ?_) | (refine cw_cond_dec rfl (fun hc => ?_) (fun hc => ?_)) | (refine cw_cond_ndec rfl (fun hc => ?_) (fun hc => ?_)) | (refine cw_cond rfl (fun hc => ?_) (fun hc => ?_)) | (refine cw_block ?_) | (refine cw_exit ?_) | (refine then_exit ?_) | (refine in_exit ?_) | (refine in_exit_ne rfl ?_) | (refine in_normal ?_) | (refine cw_ret ?_) | (refine then_ret ?_) | (refine in_ret ?_) | (refine cw_skip ?_))
        refine cw_loop (ι := Nat × List Int) [10, 11, 90, 91, 92, 93, 94, 95, 96, 97, 98, 99, 100, 101, 102] (fun s => [(90, .int .i64 (s.1 : Int))]) (fun s w' => s.1 ≤ n ∧ Chg pb w3 w' ∧ Blk w' pb 129 (u16L s.2) ∧ s.2.length = n ∧ s.2.take s.1 = mulP ((inv B).take s.1) gk) (fun s => n - s.1)
          (0, cur2) ⟨rfl, trivial⟩ ⟨Nat.zero_le _, (Chg.refl pb w3).drew.drew, hb3.drew.drew, hcl3, rfl⟩ ?_
        rintro ⟨x, cur3⟩ ξ3 w4 ⟨hx, hc4, hb4, hcl4, hT⟩
        simp only at hx hb4 hcl4 hT
        show CW _ _ _ _ (over [(90, .int .i64 (x : Int))] _) w4
        have hfb4 := (hfb3.chg hc4 (by omega)).sl
        have hg4 := hgsl.chg hc4 (fun ad e => hpim _ (hgsi ad e))
        have hrx : x < n → 0 ≤ (inv B).getD x 0 ∧ (inv B).getD x 0 < gk.length := fun h => by have := pbi.1.lt (k := x) (by rw [pbi.2]; exact h); rw [pbi.2] at this; rw [pgk.2]; exact this
        repeat' (first | (refine k_indexN (j := x) (a := ba fb) (l := n) rfl rfl ⟨_, _, rfl⟩ (by omega) ?_) | (refine k_loadI (j := x) (a := ba fb) rfl hfb4 (by rw [pbi.2]; omega) ?_) | (refine k_index1 (a := ea) (l := n) (c := ec) rfl rfl (hg4.plain (by rw [List.length_map, pgk.2]; omega)) (hrx (by omega)).1 (by have := (hrx (by omega)).2; rw [pgk.2] at this; exact this) ?_) | (refine k_loadI rfl hg4 (by have := hrx (by omega); omega) ?_) | (refine k_indexN (j := x) (a := ba pb) (l := n) rfl rfl ⟨_, _, rfl⟩ (by omega) ?_) | (refine k_storeI rfl rfl hb4 (by omega) (fun w5 hc5 hb5 => ⟨fun _ _ => trivial, ?_⟩)) | (refine k_pure rfl ?_) | (refine then_normal ?_) | (refine cw_seq ?_) | (refine cw_region rfl ?_) | (refine rr_nil ?_) | (refine k_len rfl ?_) | (refine g_run rfl rfl ?_) | (refine g_skip rfl rfl ?_) | (refine g_dec_f rfl rfl (fun hc => ?_) (fun hc => ?_)) | (refine g_dec_t rfl rfl (fun hc => ?_) (fun hc => ?_)) | (refine g_ndec_f rfl rfl (fun hc => ?_) (fun hc => ?_)) | (refine g_ndec_t rfl rfl (fun hc => ?_) (fun hc => ?_)) | (refine g_split rfl rfl (fun hc => ?_) (fun hc => ?_)) | (refine k_addI rfl rfl (by omega) (by omega) ?_) | (refine k_subI rfl rfl (by omega) (by omega) ?_) | (refine k_fieldAddr rfl ?_) | (refine k_eqlB rfl rfl ?_) | (refine k_neqB rfl rfl ?_) | (refine cw_cond_true rfl ?_) | (refine cw_cond_false rfl ?_) | (refine cw_cond_dec rfl (fun hc => ?_) (fun hc => ?_)) | (refine cw_cond_ndec rfl (fun hc => ?_) (fun hc => ?_)) | (refine cw_cond rfl (fun hc => ?_) (fun hc => ?_)) | (refine cw_block ?_) | (refine cw_exit ?_) | (refine then_exit ?_) | (refine in_exit ?_) | (refine in_exit_ne rfl ?_) | (refine in_normal ?_) | (refine cw_ret ?_) | (refine then_ret ?_) | (refine in_ret ?_) | (refine cw_skip ?_))
        · refine ⟨⟨(x + 1, cur3.set x (gk.getD ((inv B).getD x 0).toNat 0)), ⟨by simp only; omega, hc4.trans hc5, hb5, by simp [hcl4], ?_⟩, by simp only; omega, rfl, trivial⟩, (by (repeat (first | exact agree_mask _ _ _ | refine agree_upd rfl ?_ | refine agree_updO rfl ?_ | refine agree_overIn rfl ?_ | refine agree_maskIn rfl ?_)))⟩
          simp only
          rw [take_set_succ (by omega), hT, mulP_snoc (by rw [pbi.2]; omega)]
        · obtain rfl : x = n := by omega
          rw [List.take_of_length_le (by omega), List.take_of_length_le (by rw [pbi.2]; omega)] at hT
          have pcur : PermN x cur3 := by rw [hT]; exact pbi.mul pgk
          have hC4 := hC3.fr (f1C hc4) (fun q hq e => hfp.1 (by have e : q = pb := e; rw [← e, ← ht3.len]; exact hq)) (fun q hq e => hfp.2 (by have e : q = pb := e; rw [← e, ← ht3.len]; exact hq))
          have hpl3 := prod_le hG3.links hn11
          have hll3 := hG3.ll
          have hlk := hG3.links.drop i
          rw [drop_cons hi3] at hlk
          obtain ⟨hgp, hid⟩ := check_rem hlk (a := a) (k := dk) (by rw [ht3.orb]; exact ha1) hdkl
          rw [hbe, ← hgk, ← hT] at hgp hid
          obtain ⟨pr, hr1, hr2, _⟩ := rem_facts hlk hgp
          rw [← drop_cons hi3] at hid pr hr1 hr2
          rw [List.length_drop] at hr2
          repeat' (first | (refine k_pure rfl ?_) | (refine then_normal ?_) | (refine cw_seq ?_) | (refine cw_region rfl ?_) | (refine rr_nil ?_) | (refine k_len rfl ?_) | (refine g_run rfl rfl ?_) | (refine g_skip rfl rfl ?_) | (refine g_dec_f rfl rfl (fun hc => ?_) (fun hc => ?_)) | (refine g_dec_t rfl rfl (fun hc => ?_) (fun hc => ?_)) | (refine g_ndec_f rfl rfl (fun hc => ?_) (fun hc => ?_)) | (refine g_ndec_t rfl rfl (fun hc => ?_) (fun hc => ?_)) | (refine g_split rfl rfl (fun hc => ?_) (fun hc => ?_)) | (refine k_addI rfl rfl (by omega) (by omega) ?_) | (refine k_subI rfl rfl (by omega) (by omega) ?_) | (refine k_fieldAddr rfl ?_) | (refine k_eqlB rfl rfl ?_) | (refine k_neqB rfl rfl ?_) | (refine cw_cond_true rfl ?_) | (refine cw_cond_false rfl ?_) | (refine cw_cond_dec rfl (fun hc => ?_) (fun hc => ?_)) | (refine cw_cond_ndec rfl (fun hc => ?_) (fun hc => ?_)) | (refine cw_cond rfl (fun hc => ?_) (fun hc => ?_)) | (refine cw_block ?_) | (refine cw_exit ?_) | (refine then_exit ?_) | (refine in_exit ?_) | (refine in_exit_ne rfl ?_) | (refine in_normal ?_) | (refine cw_ret ?_) | (refine then_ret ?_) | (refine in_ret ?_) | (refine cw_skip ?_))
          refine k_call (csift_spec (first := i) (cap := x) hC4 (fun j _ hj => hG3.ok hj) (by omega) pcur (hb4.own (by simp [hcl4]) (by unfold maxLen; omega) (Nat.zero_le _)) (by rw [ht3.len]; exact hfp.1) (by rw [ht3.len]; exact hfp.2) (by omega)) rfl ?_
          rintro v w5 ⟨rfl, hc5, ho5⟩
          refine ⟨fun _ _ => trivial, ?_⟩
          repeat' (first | (refine k_pure rfl ?_) | (refine then_normal ?_) | (refine cw_seq ?_) | (refine cw_region rfl ?_) | (refine rr_nil ?_) | (refine k_len rfl ?_) | (refine g_run rfl rfl ?_) | (refine g_skip rfl rfl ?_) | (refine g_dec_f rfl rfl (fun hc => ?_) (fun hc => ?_)) | (refine g_dec_t rfl rfl (fun hc => ?_) (fun hc => ?_)) | (refine g_ndec_f rfl rfl (fun hc => ?_) (fun hc => ?_)) | (refine g_ndec_t rfl rfl (fun hc => ?_) (fun hc => ?_)) | (refine g_split rfl rfl (fun hc => ?_) (fun hc => ?_)) | (refine k_addI rfl rfl (by omega) (by omega) ?_) | (refine k_subI rfl rfl (by omega) (by omega) ?_) | (refine k_fieldAddr rfl ?_) | (refine k_eqlB rfl rfl ?_) | (refine k_neqB rfl rfl ?_) | (refine cw_cond_true rfl ?_) | (refine cw_cond_false rfl ?_) | (refine cw_cond_dec rfl (fun hc => ?_) (fun hc => ?_)) | (refine cw_cond_ndec rfl (fun hc => ?_) (fun hc => ?_)) | (refine cw_cond rfl (fun hc => ?_) (fun hc => ?_)) | (refine cw_block ?_) | (refine cw_exit ?_) | (refine then_exit ?_) | (refine in_exit ?_) | (refine in_exit_ne rfl ?_) | (refine in_normal ?_) | (refine cw_ret ?_) | (refine then_ret ?_) | (refine in_ret ?_) | (refine cw_skip ?_))
          refine k_call (moved_spec (xs := (siftL (ls2.drop i) cur3).1) ho5.sl x (fun k hk => by have := pr.1.lt hk; have := pr.2; omega) (by rw [pr.2]; omega)) (by rw [pr.2]; rfl) ?_
          rintro v w6 ⟨mv, rfl, hmv, hE6⟩
          refine ⟨fun _ _ => trivial, ?_⟩
          have hC5 := hC4.fr (f1C hc5) (fun q hq e => hfp.1 (by have e : q = pb := e; rw [← e, ← ht3.len]; exact hq)) (fun q hq e => hfp.2 (by have e : q = pb := e; rw [← e, ← ht3.len]; exact hq))
          have hC6 := hC5.ext hE6
          have z4 : w3.heap.size = w4.heap.size := hc4.size.symm
          have z5 : w4.heap.size = w5.heap.size := hc5.size.symm
          have z6 := hE6.size
          have hf6 : Fr (c.foot ls.length) w w6 := (hf3.then ((f1C hc4).trans (f1C hc5)) (fun q hq e => by have e : q = pb := e; omega)).trans hE6.fr
          repeat' (first | (refine k_pure rfl ?_) | (refine then_normal ?_) | (refine cw_seq ?_) | (refine cw_region rfl ?_) | (refine rr_nil ?_) | (refine k_len rfl ?_) | (refine g_run rfl rfl ?_) | (refine g_skip rfl rfl ?_) | (refine g_dec_f rfl rfl (fun hc => ?_) (fun hc => ?_)) | (refine g_dec_t rfl rfl (fun hc => ?_) (fun hc => ?_)) | (refine g_ndec_f rfl rfl (fun hc => ?_) (fun hc => ?_)) | (refine g_ndec_t rfl rfl (fun hc => ?_) (fun hc => ?_)) | (refine g_split rfl rfl (fun hc => ?_) (fun hc => ?_)) | (refine k_addI rfl rfl (by omega) (by omega) ?_) | (refine k_subI rfl rfl (by omega) (by omega) ?_) | (refine k_fieldAddr rfl ?_) | (refine k_eqlB rfl rfl ?_) | (refine k_neqB rfl rfl ?_) | (refine cw_cond_true rfl ?_) | (refine cw_cond_false rfl ?_) | (refine cw_cond_dec rfl (fun hc => ?_) (fun hc => ?_)) | (refine cw_cond_ndec rfl (fun hc => ?_) (fun hc => ?_)) | (refine cw_cond rfl (fun hc => ?_) (fun hc => ?_)) | (refine cw_block ?_) | (refine cw_exit ?_) | (refine then_exit ?_) | (refine in_exit ?_) | (refine in_exit_ne rfl ?_) | (refine in_normal ?_) | (refine cw_ret ?_) | (refine then_ret ?_) | (refine in_ret ?_) | (refine cw_skip ?_))
          · have hne : (siftL (ls2.drop i) cur3).1 ≠ idList x := fun e => by have := hmv.neg.2 (by rw [pr.2]; exact e); omega
            refine k_call (insert_spec (first := i + 1) (last := i + (siftL (ls2.drop i) cur3).2) (cap := x) hC6 (fun j _ hj => hG3.ok hj) (by omega) (by omega) pr hne (ho5.sl.ext hE6) (by rw [ht3.len]; exact hfp.1) (by omega) (fun j hj => by have := hG3.gl j hj; omega)) rfl ?_
            rintro v w7 ⟨rfl, c7, ls7, hJ⟩
            refine ⟨fun _ _ => trivial, ?_⟩
            obtain ⟨hG7, hpr7, ht7⟩ := hG3.ins hi3 hgp hJ
            repeat' (first | (refine k_pure rfl ?_) | (refine then_normal ?_) | (refine cw_seq ?_) | (refine cw_region rfl ?_) | (refine rr_nil ?_) | (refine k_len rfl ?_) | (refine g_run rfl rfl ?_) | (refine g_skip rfl rfl ?_) | (refine g_dec_f rfl rfl (fun hc => ?_) (fun hc => ?_)) | (refine g_dec_t rfl rfl (fun hc => ?_) (fun hc => ?_)) | (refine g_ndec_f rfl rfl (fun hc => ?_) (fun hc => ?_)) | (refine g_ndec_t rfl rfl (fun hc => ?_) (fun hc => ?_)) | (refine g_split rfl rfl (fun hc => ?_) (fun hc => ?_)) | (refine k_addI rfl rfl (by omega) (by omega) ?_) | (refine k_subI rfl rfl (by omega) (by omega) ?_) | (refine k_fieldAddr rfl ?_) | (refine k_eqlB rfl rfl ?_) | (refine k_neqB rfl rfl ?_) | (refine cw_cond_true rfl ?_) | (refine cw_cond_false rfl ?_) | (refine cw_cond_dec rfl (fun hc => ?_) (fun hc => ?_)) | (refine cw_cond_ndec rfl (fun hc => ?_) (fun hc => ?_)) | (refine cw_cond rfl (fun hc => ?_) (fun hc => ?_)) | (refine cw_block ?_) | (refine cw_exit ?_) | (refine then_exit ?_) | (refine in_exit ?_) | (refine in_exit_ne rfl ?_) | (refine in_normal ?_) | (refine cw_ret ?_) | (refine then_ret ?_) | (refine in_ret ?_) | (refine cw_skip ?_))
            refine ret1 rfl (rt rfl) (.inr ⟨rfl, c7, ls7, hJ.ch, hG7, by rw [← ht3.prod]; exact hpr7, hf6.then hJ.fr (fun q hq h => by rw [ht3.len] at h; exact h), ⟨hJ.step.cb, fun q hq => ?_, fun q hq => ?_⟩⟩)
            · rcases hJ.step.foot q hq with h | h
              · rw [ht3.len] at h; exact .inl h
              · exact .inr (by omega)
            · rcases hJ.step.imm q hq with h | h | h
              · rw [ht3.len] at h; exact .inl h
              · exact .inr (by omega)
              · exact .inr (by omega)
          · have hre : (siftL (ls2.drop i) cur3).1 = idList x := by have := hmv.neg.1 (by omega); rw [pr.2] at this; exact this
            have hs := hid hre
            rw [hdk] at hs
            obtain ⟨hG7, hpr7⟩ := hG3.tick hi3 (a := a) (by rw [ht3.orb]; exact ha1) (by omega) hs
            have hL6 := hC6.lv i hi3
            have hdn6 := hL6.dn
            have hgb : (ls2.getD i lv0).done.getD a 0 < 1000000000000 := by omega
            repeat' (first | (refine k_loadC rfl hL6.str rfl ?_) | (refine k_indexN (j := a) rfl rfl ⟨_, _, rfl⟩ (by omega) ?_) | (refine k_loadN (j := a) rfl hdn6.sl (by omega) ?_) | (refine k_storeOwn (v := .int .i64 (((ls2.getD i lv0).done.getD a 0 + 1 : Nat) : Int)) rfl rfl rfl hdn6 (by rw [List.length_map]; omega) (fun gx w7 hgx _ hc7 ho7 => ⟨fun _ _ => trivial, ?_⟩)) | (refine k_pure rfl ?_) | (refine then_normal ?_) | (refine cw_seq ?_) | (refine cw_region rfl ?_) | (refine rr_nil ?_) | (refine k_len rfl ?_) | (refine g_run rfl rfl ?_) | (refine g_skip rfl rfl ?_) | (refine g_dec_f rfl rfl (fun hc => ?_) (fun hc => ?_)) | (refine g_dec_t rfl rfl (fun hc => ?_) (fun hc => ?_)) | (refine g_ndec_f rfl rfl (fun hc => ?_) (fun hc => ?_)) | (refine g_ndec_t rfl rfl (fun hc => ?_) (fun hc => ?_)) | (refine g_split rfl rfl (fun hc => ?_) (fun hc => ?_)) | (refine k_addI rfl rfl (by omega) (by omega) ?_) | (refine k_subI rfl rfl (by omega) (by omega) ?_) | (refine k_fieldAddr rfl ?_) | (refine k_eqlB rfl rfl ?_) | (refine k_neqB rfl rfl ?_) | (refine cw_cond_true rfl ?_) | (refine cw_cond_false rfl ?_) | (refine cw_cond_dec rfl (fun hc => ?_) (fun hc => ?_)) | (refine cw_cond_ndec rfl (fun hc => ?_) (fun hc => ?_)) | (refine cw_cond rfl (fun hc => ?_) (fun hc => ?_)) | (refine cw_block ?_) | (refine cw_exit ?_) | (refine then_exit ?_) | (refine in_exit ?_) | (refine in_exit_ne rfl ?_) | (refine in_normal ?_) | (refine cw_ret ?_) | (refine then_ret ?_) | (refine in_ret ?_) | (refine cw_skip ?_))
            obtain rfl : (c.hs i).db = gx := by injection hgx with e; injection e
            have ho7' : Own w7 0 3 1 (ba (c.hs i).db) (ls2.getD i lv0).done.length (c.hs i).dc (natsL ((ls2.getD i lv0).done.set a ((ls2.getD i lv0).done.getD a 0 + 1))) := by unfold natsL; rw [List.map_set]; exact ho7
            have hC7 := hC6.tick (a := a) hi3 hc7 ho7'
            have hdbF : c.foot ls.length (c.hs i).db := .inr ⟨i, hi, by simp [LH.F]⟩
            have e7 : ∀ j, (ls2.set i ((ls2.getD i lv0).tick a)).getD j lv0 = if j = i then (ls2.getD i lv0).tick a else ls2.getD j lv0 := fun j => getD_set_lv hi3
            have hdt : ∀ b, ((ls2.getD i lv0).tick a).done.getD b 0 = if b = a ∧ a < (ls2.getD i lv0).done.length then (ls2.getD i lv0).done.getD a 0 + 1 else (ls2.getD i lv0).done.getD b 0 := fun b => done_set
            have hbp7 := ((ho5.blkN (by omega)).ext hE6).chg hc7 (fun e => hfp.1 (by rw [e]; exact hdbF))
            have hfb7 := ((((hfb3.chg hc4 (by omega)).chg hc5 (by omega)).ext hE6).chg hc7 (fun e => by have := (hC1.lv i hi1).lt (c.hs i).db (by simp [LH.F]); omega))
            refine ⟨⟨(ls2.set i ((ls2.getD i lv0).tick a), (siftL (ls2.drop i) cur3).1), ⟨hC7, hG7, ht3.tick hi3 a hpr7, fun b hb => ?_, hf6.then (f1C hc7) (fun q hq e => by have e : q = (c.hs i).db := e; rw [e]; exact hdbF), hbp7, pr.2, hfb7⟩, ?_, trivial⟩, (by (repeat (first | exact agree_mask _ _ _ | refine agree_upd rfl ?_ | refine agree_updO rfl ?_ | refine agree_overIn rfl ?_ | refine agree_maskIn rfl ?_)))⟩
            · show ((ls2.set i ((ls2.getD i lv0).tick a)).getD i lv0).done.getD b 0 = _
              rw [e7, if_pos rfl, hdt, if_neg (by omega)]; exact hd3 b hb
            · show (ls.getD i lv0).gens.length - ((ls2.set i ((ls2.getD i lv0).tick a)).getD i lv0).done.getD a 0 < (ls.getD i lv0).gens.length - (ls2.getD i lv0).done.getD a 0
              rw [e7, if_pos rfl, hdt, if_pos ⟨rfl, by omega⟩]; omega
      · refine ⟨⟨(a + 1, ls2, cur2), ⟨by simp only; omega, hC3.drew, hG3, ht3, fun b hb => ?_, hf3.trans ((Ex.refl w3).drew.fr), hb3.drew, hcl3⟩, by simp only; omega, rfl, trivial⟩, (by (repeat (first | exact agree_mask _ _ _ | refine agree_upd rfl ?_ | refine agree_updO rfl ?_ | refine agree_overIn rfl ?_ | refine agree_maskIn rfl ?_)))⟩
        have hb : b < a + 1 := hb
        show (ls2.getD i lv0).done.getD b 0 = _
        by_cases e : b = a
        · subst e
          have := (hG3.links.drop i)
          rw [drop_cons hi3] at this
          have := (this.2.2.1 b (by rw [ht3.orb]; exact ha1)).1
          omega
        · exact hd3 b (by omega)
  · obtain rfl : a = (ls.getD i lv0).orb.length := by omega
    refine ret1 rfl (rt rfl) (.inl ⟨rfl, ls1, hC1, hG1, ht1, fun b hb => ?_, hf1⟩)
    rw [ht1.orb] at hb
    rw [ht1.gens]; exact hd1 b hb
end Go.Proofs.Ythhfjagnmhhapaa

namespace Go.Proofs.Ythhfjagnmhhapaa
open Go.W Go.PM
theorem CGo.trans {w w1 : World} {c c1 c2 : CH} {k k1 k2 : Nat} (h : CGo w c c1 k k1) (h2 : CGo w1 c1 c2 k1 k2) (hs : w.heap.size ≤ w1.heap.size) : CGo w c c2 k k2 :=
  ⟨h2.cb.trans h.cb, fun q hq => (h2.foot q hq).elim (h.foot q) (fun h => .inr (Nat.le_trans hs h)), fun q hq => (h2.imm q hq).elim (h.imm q) (fun h => .inr (Nat.le_trans hs h))⟩
theorem Tk.drop {i : Nat} {ls ls1 : List Lv} (h : Tk i ls ls1) : ls1.drop (i + 1) = ls.drop (i + 1) := by
  apply List.ext_getElem?
  intro j
  rw [List.getElem?_drop, List.getElem?_drop]
  have e := h.oth (i + 1 + j) (by omega)
  by_cases hj : i + 1 + j < ls.length
  · rw [List.getD_eq_getElem?_getD, List.getD_eq_getElem?_getD, List.getElem?_eq_getElem hj, List.getElem?_eq_getElem (by rw [h.len]; exact hj)] at e
    rw [List.getElem?_eq_getElem hj, List.getElem?_eq_getElem (by rw [h.len]; exact hj)]
    simpa using e
  · rw [List.getElem?_eq_none (by rw [h.len]; omega), List.getElem?_eq_none (by omega)]
theorem prove_spec {w : World} {n N0 : Nat} {G : List Int → Prop} {base : List Int} {c : CH} {ls : List Lv} (hn11 : n ≤ 11) (hN : N0 ≤ 1000000) (hC : ChAt w n c ls) (hG : Gd n G base N0 ls) :
    CallsR Try.prog 86 #[.pointer (some ⟨c.cb, 0, none⟩)] w fun v w' => v = .tuple #[] ∧ ∃ c' ls', ChAt w' n c' ls' ∧ Gd n G base N0 ls' ∧ Full n ls' ∧ Fr (c.foot ls.length) w w' ∧ CGo w c c' ls.length ls'.length := by
  refine callsR_of (args := [_]) Try.func86 rfl rfl ?_
  repeat' (first | (refine k_pure rfl ?_) | (refine then_normal ?_) | (refine cw_seq ?_) | (refine cw_region rfl ?_) | (refine rr_nil ?_) | (refine k_len rfl ?_) | (refine g_run rfl rfl ?_) | (refine g_skip rfl rfl ?_) | (refine g_dec_f rfl rfl (fun hc => ?_) (fun hc => ?_)) | (refine g_dec_t rfl rfl (fun hc => ?_) (fun hc => ?_)) | (refine g_ndec_f rfl rfl (fun hc => ?_) (fun hc => ?_)) | (refine g_ndec_t rfl rfl (fun hc => ?_) (fun hc => ?_)) | (refine g_split rfl rfl (fun hc => ?_) (fun hc => ?_)) | (refine k_addI rfl rfl (by omega) (by omega) ?_) | (refine k_subI rfl rfl (by omega) (by omega) ?_) | (refine k_fieldAddr rfl ?_) | (refine k_eqlB rfl rfl ?_) | (refine k_neqB rfl rfl ?_) | (refine cw_cond_true rfl ?_) | (refine cw_cond_false rfl ?_) | (refine cw_cond_dec rfl (fun hc => ?_) (fun hc => ?_)) | (refine cw_cond_ndec rfl (fun hc => ?_) (fun hc => ?_)) | (refine cw_cond rfl (fun hc => ?_) (fun hc => ?_)) | (refine cw_block ?_) | (refine cw_exit ?_) | (refine then_exit ?_) | (refine in_exit ?_) | (refine in_exit_ne rfl ?_) | (refine in_normal ?_) | (refine cw_ret ?_) | (refine then_ret ?_) | (refine in_ret ?_) | (refine cw_skip ?_))
  refine cw_loop (ι := CH × List Lv) [2, 3, 4, 5, 6, 7, 8, 9, 10, 11, 12, 13, 14, 15, 16] (fun _ => []) (fun s w' => ChAt w' n s.1 s.2 ∧ Gd n G base N0 s.2 ∧ Fr (c.foot ls.length) w w' ∧ CGo w c s.1 ls.length s.2.length) (fun s => 39916801 - prodL s.2)
    (c, ls) trivial ⟨hC, hG, Fr.refl _ _, CGo.refl _ _ _⟩ ?_
  rintro ⟨c1, ls1⟩ ξ w1 ⟨hC1, hG1, hf1, hg1⟩
  simp only at hC1 hG1 hg1
  show CW _ _ _ _ (over [] _) w1
  have hpl1 := prod_le hG1.links hn11
  have z1 := hf1.size
  repeat' (first | (refine k_pure rfl ?_) | (refine then_normal ?_) | (refine cw_seq ?_) | (refine cw_region rfl ?_) | (refine rr_nil ?_) | (refine k_len rfl ?_) | (refine g_run rfl rfl ?_) | (refine g_skip rfl rfl ?_) | (refine g_dec_f rfl rfl (fun hc => ?_) (fun hc => ?_)) | (refine g_dec_t rfl rfl (fun hc => ?_) (fun hc => ?_)) | (refine g_ndec_f rfl rfl (fun hc => ?_) (fun hc => ?_)) | (refine g_ndec_t rfl rfl (fun hc => ?_) (fun hc => ?_)) | (refine g_split rfl rfl (fun hc => ?_) (fun hc => ?_)) | (refine k_addI rfl rfl (by omega) (by omega) ?_) | (refine k_subI rfl rfl (by omega) (by omega) ?_) | (refine k_fieldAddr rfl ?_) | (refine k_eqlB rfl rfl ?_) | (refine k_neqB rfl rfl ?_) | (refine cw_cond_true rfl ?_) | (refine cw_cond_false rfl ?_) | (refine cw_cond_dec rfl (fun hc => ?_) (fun hc => ?_)) | (refine cw_cond_ndec rfl (fun hc => ?_) (fun hc => ?_)) | (refine cw_cond rfl (fun hc => ?_) (fun hc => ?_)) | (refine cw_block ?_) | (refine cw_exit ?_) | (refine then_exit ?_) | (refine in_exit ?_) | (refine in_exit_ne rfl ?_) | (refine in_normal ?_) | (refine cw_ret ?_) | (refine then_ret ?_) | (refine in_ret ?_) | (refine cw_skip ?_))
  refine k_call (certain_spec hn11 hN hC1 hG1) (by rw [hg1.cb]; rfl) ?_
  rintro v w2 ⟨i0, hi0, rfl, hFull, hE2⟩
  refine ⟨fun _ _ => trivial, ?_⟩
  repeat' (first | (refine k_pure rfl ?_) | (refine then_normal ?_) | (refine cw_seq ?_) | (refine cw_region rfl ?_) | (refine rr_nil ?_) | (refine k_len rfl ?_) | (refine g_run rfl rfl ?_) | (refine g_skip rfl rfl ?_) | (refine g_dec_f rfl rfl (fun hc => ?_) (fun hc => ?_)) | (refine g_dec_t rfl rfl (fun hc => ?_) (fun hc => ?_)) | (refine g_ndec_f rfl rfl (fun hc => ?_) (fun hc => ?_)) | (refine g_ndec_t rfl rfl (fun hc => ?_) (fun hc => ?_)) | (refine g_split rfl rfl (fun hc => ?_) (fun hc => ?_)) | (refine k_addI rfl rfl (by omega) (by omega) ?_) | (refine k_subI rfl rfl (by omega) (by omega) ?_) | (refine k_fieldAddr rfl ?_) | (refine k_eqlB rfl rfl ?_) | (refine k_neqB rfl rfl ?_) | (refine cw_cond_true rfl ?_) | (refine cw_cond_false rfl ?_) | (refine cw_cond_dec rfl (fun hc => ?_) (fun hc => ?_)) | (refine cw_cond_ndec rfl (fun hc => ?_) (fun hc => ?_)) | (refine cw_cond rfl (fun hc => ?_) (fun hc => ?_)) | (refine cw_block ?_) | (refine cw_exit ?_) | (refine then_exit ?_) | (refine in_exit ?_) | (refine in_exit_ne rfl ?_) | (refine in_normal ?_) | (refine cw_ret ?_) | (refine then_ret ?_) | (refine in_ret ?_) | (refine cw_skip ?_))
  refine cw_loop (ι := Nat × List Lv) [2, 5, 6, 7, 8, 9, 10, 11, 12, 13, 14] (fun s => [(2, .int .i64 (s.1 : Int))]) (fun s w' => s.1 ≤ s.2.length ∧ ChAt w' n c1 s.2 ∧ Gd n G base N0 s.2 ∧ Full n (s.2.drop s.1) ∧ prodL s.2 = prodL ls1 ∧ s.2.length = ls1.length ∧ Fr (c.foot ls.length) w w') (fun s => s.1)
    (i0, ls1) ⟨rfl, trivial⟩ ⟨hi0, hC1.ext hE2, hG1, hFull, rfl, rfl, hf1.trans hE2.fr⟩ ?_
  rintro ⟨i, ls2⟩ ξ2 w3 ⟨hi, hC3, hG3, hFl, hpr, hln, hf3⟩
  simp only at hi hC3 hG3 hFl hpr hln
  show CW _ _ _ _ (over [(2, .int .i64 (i : Int))] _) w3
  have z3 := hf3.size
  have hpl3 := prod_le hG3.links hn11
  have hll3 := hG3.ll
  repeat' (first | (refine k_pure rfl ?_) | (refine then_normal ?_) | (refine cw_seq ?_) | (refine cw_region rfl ?_) | (refine rr_nil ?_) | (refine k_len rfl ?_) | (refine g_run rfl rfl ?_) | (refine g_skip rfl rfl ?_) | (refine g_dec_f rfl rfl (fun hc => ?_) (fun hc => ?_)) | (refine g_dec_t rfl rfl (fun hc => ?_) (fun hc => ?_)) | (refine g_ndec_f rfl rfl (fun hc => ?_) (fun hc => ?_)) | (refine g_ndec_t rfl rfl (fun hc => ?_) (fun hc => ?_)) | (refine g_split rfl rfl (fun hc => ?_) (fun hc => ?_)) | (refine k_addI rfl rfl (by omega) (by omega) ?_) | (refine k_subI rfl rfl (by omega) (by omega) ?_) | (refine k_fieldAddr rfl ?_) | (refine k_eqlB rfl rfl ?_) | (refine k_neqB rfl rfl ?_) | (refine cw_cond_true rfl ?_) | (refine cw_cond_false rfl ?_) | (refine cw_cond_dec rfl (fun hc => ?_) (fun hc => ?_)) | (refine cw_cond_ndec rfl (fun hc => ?_) (fun hc => ?_)) | (refine cw_cond rfl (fun hc => ?_) (fun hc => ?_)) | (refine cw_block ?_) | (refine cw_exit ?_) | (refine then_exit ?_) | (refine in_exit ?_) | (refine in_exit_ne rfl ?_) | (refine in_normal ?_) | (refine cw_ret ?_) | (refine then_ret ?_) | (refine in_ret ?_) | (refine cw_skip ?_))
  · obtain ⟨m, rfl⟩ : ∃ m, i = m + 1 := ⟨i - 1, by omega⟩
    refine k_call (chkLv_spec (i := m) hn11 hN hC3 hG3 (by omega)) (by rw [hg1.cb, show (m : Int) = ((m + 1 : Nat) : Int) - 1 by omega]; rfl) ?_
    rintro v w4 hv
    refine ⟨fun _ _ => trivial, ?_⟩
    rcases hv with ⟨rfl, ls4, hC4, hG4, ht4, hd4, hf4⟩ | ⟨rfl, c4, ls4, hC4, hG4, hpr4, hf4, hg4⟩
    · have hml : m < ls4.length := by rw [ht4.len]; omega
      have hFm : Full n (ls4.drop m) := by
        have h1 := hG4.links.drop m
        rw [drop_cons hml] at h1 ⊢
        refine done_full h1 hd4 ?_
        rw [ht4.drop]; exact hFl
      repeat' (first | (refine k_pure rfl ?_) | (refine then_normal ?_) | (refine cw_seq ?_) | (refine cw_region rfl ?_) | (refine rr_nil ?_) | (refine k_len rfl ?_) | (refine g_run rfl rfl ?_) | (refine g_skip rfl rfl ?_) | (refine g_dec_f rfl rfl (fun hc => ?_) (fun hc => ?_)) | (refine g_dec_t rfl rfl (fun hc => ?_) (fun hc => ?_)) | (refine g_ndec_f rfl rfl (fun hc => ?_) (fun hc => ?_)) | (refine g_ndec_t rfl rfl (fun hc => ?_) (fun hc => ?_)) | (refine g_split rfl rfl (fun hc => ?_) (fun hc => ?_)) | (refine k_addI rfl rfl (by omega) (by omega) ?_) | (refine k_subI rfl rfl (by omega) (by omega) ?_) | (refine k_fieldAddr rfl ?_) | (refine k_eqlB rfl rfl ?_) | (refine k_neqB rfl rfl ?_) | (refine cw_cond_true rfl ?_) | (refine cw_cond_false rfl ?_) | (refine cw_cond_dec rfl (fun hc => ?_) (fun hc => ?_)) | (refine cw_cond_ndec rfl (fun hc => ?_) (fun hc => ?_)) | (refine cw_cond rfl (fun hc => ?_) (fun hc => ?_)) | (refine cw_block ?_) | (refine cw_exit ?_) | (refine then_exit ?_) | (refine in_exit ?_) | (refine in_exit_ne rfl ?_) | (refine in_normal ?_) | (refine cw_ret ?_) | (refine then_ret ?_) | (refine in_ret ?_) | (refine cw_skip ?_))
      refine ⟨⟨(m, ls4), ⟨by simp only; omega, hC4, hG4, hFm, by simp only; rw [ht4.prod]; exact hpr, by simp only; rw [ht4.len]; exact hln, hf3.then hf4 (fun q hq h => (hg1.foot q (by rw [← hln]; exact h)).resolve_right (by omega))⟩, by simp only; omega, ?_, trivial⟩, (by (repeat (first | exact agree_mask _ _ _ | refine agree_upd rfl ?_ | refine agree_updO rfl ?_ | refine agree_overIn rfl ?_ | refine agree_maskIn rfl ?_)))⟩
      show Value.int .i64 (((m + 1 : Nat) : Int) - 1) = _
      congr 1; simp only; omega
    · have hpl4 := prod_le hG4.links hn11
      repeat' (first | (refine k_pure rfl ?_) | (refine then_normal ?_) | (refine cw_seq ?_) | (refine cw_region rfl ?_) | (refine rr_nil ?_) | (refine k_len rfl ?_) | (refine g_run rfl rfl ?_) | (refine g_skip rfl rfl ?_) | (refine g_dec_f rfl rfl (fun hc => ?_) (fun hc => ?_)) | (refine g_dec_t rfl rfl (fun hc => ?_) (fun hc => ?_)) | (refine g_ndec_f rfl rfl (fun hc => ?_) (fun hc => ?_)) | (refine g_ndec_t rfl rfl (fun hc => ?_) (fun hc => ?_)) | (refine g_split rfl rfl (fun hc => ?_) (fun hc => ?_)) | (refine k_addI rfl rfl (by omega) (by omega) ?_) | (refine k_subI rfl rfl (by omega) (by omega) ?_) | (refine k_fieldAddr rfl ?_) | (refine k_eqlB rfl rfl ?_) | (refine k_neqB rfl rfl ?_) | (refine cw_cond_true rfl ?_) | (refine cw_cond_false rfl ?_) | (refine cw_cond_dec rfl (fun hc => ?_) (fun hc => ?_)) | (refine cw_cond_ndec rfl (fun hc => ?_) (fun hc => ?_)) | (refine cw_cond rfl (fun hc => ?_) (fun hc => ?_)) | (refine cw_block ?_) | (refine cw_exit ?_) | (refine then_exit ?_) | (refine in_exit ?_) | (refine in_exit_ne rfl ?_) | (refine in_normal ?_) | (refine cw_ret ?_) | (refine then_ret ?_) | (refine in_ret ?_) | (refine cw_skip ?_))
      refine ⟨⟨(c4, ls4), ⟨hC4, hG4, hf3.then hf4 (fun q hq h => (hg1.foot q (by rw [← hln]; exact h)).resolve_right (by omega)), hg1.trans (by rw [← hln]; exact hg4) z3⟩, by simp only; omega, trivial⟩, (by (repeat (first | exact agree_mask _ _ _ | refine agree_upd rfl ?_ | refine agree_updO rfl ?_ | refine agree_overIn rfl ?_ | refine agree_maskIn rfl ?_)))⟩
  · obtain rfl : i = 0 := by omega
    exact ret0 rfl ⟨rfl, c1, ls2, hC3, hG3, hFl, hf3, by rw [hln]; exact hg1⟩
  · omega
end Go.Proofs.Ythhfjagnmhhapaa

