import Derived.Test.YtmedmmginnfjgaaO
import Derived.Test.YtmedmmginnfjgaaMem2
import Derived.Test.YtmedmmginnfjgaaLimb2
namespace Go.Proofs.Ytmedmmginnfjgaa
open Go.W Go.LM

theorem Limbs.of_blk {w : World} {g c : Nat} {Tb : Nat} {ls : List Nat} (h : Blk w g Tb (limbsL ls)) (hc : ls.length ≤ c) (hl : Lim ls) (hn : ls.length ≤ 17592186044416) : Limbs w (some ⟨g, 0, none⟩) c ls := ⟨h.sl, hc, hl, hn⟩

set_option maxHeartbeats 1000000 in
theorem mulNat_spec {la lb : List Nat} {a b : Option Addr} {c d : Nat} {w : World} (ha : Limbs w a c la) (hb : Limbs w b d lb) (hlen : la.length + lb.length ≤ 17592186044416) :
    CallsR Try.prog 79 #[.slice a la.length c, .slice b lb.length d] w fun v w' => ∃ ls, natOf ls = natOf la * natOf lb ∧ Canon ls ∧ ls.length ≤ la.length + lb.length + 2 ∧ RetN w ls v w' := by
  by_cases hsm : la.length ≤ 1 ∧ lb.length ≤ 1
  · refine (mulNat_small ha hb hsm.1 hsm.2).mono fun v w' h => ⟨_, ?_, digs_canon _, ?_, h⟩
    · rw [digs_natOf]
    · have := digs_len (natOf la * natOf lb); omega
  have hla := ha.len
  have hlb := hb.len
  refine callsR_of (args := [_, _]) Try.func79 rfl rfl ?_
  repeat' (first | (refine k_addJ rfl rfl (by omega) ?_) | (refine k_makeN rfl rfl (by omega) (by omega) (fun g w1 hn => ⟨fun _ _ => trivial, ?_⟩)) | (refine k_pure rfl ?_) | (refine then_normal ?_) | (refine cw_seq ?_) | (refine cw_region rfl ?_) | (refine rr_nil ?_) | (refine k_len rfl ?_) | (refine g_run rfl rfl ?_) | (refine g_skip rfl rfl ?_) | (refine g_dec_f rfl rfl (fun hc => ?_) (fun hc => ?_)) | (refine g_dec_t rfl rfl (fun hc => ?_) (fun hc => ?_)) | (refine g_ndec_f rfl rfl (fun hc => ?_) (fun hc => ?_)) | (refine g_ndec_t rfl rfl (fun hc => ?_) (fun hc => ?_)) | (refine g_split rfl rfl (fun hc => ?_) (fun hc => ?_)) | (refine k_addI rfl rfl (by omega) (by omega) ?_) | (refine k_subI rfl rfl (by omega) (by omega) ?_) | (refine k_fieldAddr rfl ?_) | (refine k_eqlB rfl rfl ?_) | (refine k_neqB rfl rfl ?_) | (refine cw_cond_true rfl ?_) | (refine cw_cond_false rfl ?_) | (refine cw_cond_dec rfl (fun hc => ?_) (fun hc => ?_)) | (refine cw_cond_ndec rfl (fun hc => ?_) (fun hc => ?_)) | (refine cw_cond rfl (fun hc => ?_) (fun hc => ?_)) | (refine cw_block ?_) | (refine cw_exit ?_) | (refine then_exit ?_) | (refine in_exit ?_) | (refine in_exit_ne rfl ?_) | (refine in_normal ?_) | (refine cw_ret ?_) | (refine then_ret ?_) | (refine in_ret ?_) | (refine cw_skip ?_))
  all_goals try (exfalso; omega)
  all_goals
    refine cw_loop (ι := Nat × List Nat) [6, 7, 8, 9, 10, 11, 34, 35, 36, 37, 38, 39, 40, 41, 42, 43, 44, 45, 46, 47, 48, 49, 50, 51, 52, 53, 54, 55, 56, 57, 58, 59, 60, 61, 62, 63, 64, 65, 66, 67, 68, 69, 70, 71, 72, 73, 74, 75, 76, 77, 78, 79, 80, 81, 82, 83] (fun s => [(34, .int .i64 (s.1 : Int))])
      (fun s w' => s.1 ≤ la.length ∧ Ex w w' ∧ Blk w' g 106 (limbsL s.2) ∧ s.2.length = la.length + lb.length ∧ Lim s.2 ∧ natOf s.2 = natOf (la.take s.1) * natOf lb ∧ ∀ j, s.1 + lb.length ≤ j → s.2.getD j 0 = 0) (fun s => la.length - s.1)
      (0, List.replicate (la.length + lb.length) 0) ⟨rfl, trivial⟩ ⟨by simp, hn.ex, hn.blk, by simp, Lim.zeros _, by simp [natOf_zeros, natOf], fun j _ => by simp [List.getD_eq_getElem?_getD, List.getElem?_replicate]; split <;> rfl⟩ ?_
    rintro ⟨i, ps⟩ ξ w2 ⟨hi, hE, hbk, hpl, hpL, hpn, hpz⟩
    simp only at hi hbk hpl hpL hpn hpz
    show CW _ _ _ _ (over [(34, .int .i64 (i : Int))] _) w2
    have hxl := ha.lim.getD i
    repeat' (first | (refine k_indexN rfl rfl (ha.sl.plain (by simp; omega)) (by omega) ?_) | (refine k_loadN rfl (ha.sl.ext hE) (by omega) ?_) | (refine k_pure rfl ?_) | (refine then_normal ?_) | (refine cw_seq ?_) | (refine cw_region rfl ?_) | (refine rr_nil ?_) | (refine k_len rfl ?_) | (refine g_run rfl rfl ?_) | (refine g_skip rfl rfl ?_) | (refine g_dec_f rfl rfl (fun hc => ?_) (fun hc => ?_)) | (refine g_dec_t rfl rfl (fun hc => ?_) (fun hc => ?_)) | (refine g_ndec_f rfl rfl (fun hc => ?_) (fun hc => ?_)) | (refine g_ndec_t rfl rfl (fun hc => ?_) (fun hc => ?_)) | (refine g_split rfl rfl (fun hc => ?_) (fun hc => ?_)) | (refine k_addI rfl rfl (by omega) (by omega) ?_) | (refine k_subI rfl rfl (by omega) (by omega) ?_) | (refine k_fieldAddr rfl ?_) | (refine k_eqlB rfl rfl ?_) | (refine k_neqB rfl rfl ?_) | (refine cw_cond_true rfl ?_) | (refine cw_cond_false rfl ?_) | (refine cw_cond_dec rfl (fun hc => ?_) (fun hc => ?_)) | (refine cw_cond_ndec rfl (fun hc => ?_) (fun hc => ?_)) | (refine cw_cond rfl (fun hc => ?_) (fun hc => ?_)) | (refine cw_block ?_) | (refine cw_exit ?_) | (refine then_exit ?_) | (refine in_exit ?_) | (refine in_exit_ne rfl ?_) | (refine in_normal ?_) | (refine cw_ret ?_) | (refine then_ret ?_) | (refine in_ret ?_) | (refine cw_skip ?_))
    · have h0 : la.getD i 0 = 0 := by omega
      refine ⟨⟨(i + 1, ps), ⟨by simp only; omega, hE, hbk, hpl, hpL, ?_, fun j hj => hpz j (by simp only at hj; omega)⟩, by simp only; omega, rfl, trivial⟩, (by (repeat (first | exact agree_mask _ _ _ | refine agree_upd rfl ?_ | refine agree_updO rfl ?_ | refine agree_overIn rfl ?_ | refine agree_maskIn rfl ?_)))⟩
      simp only
      rw [hpn, natOf_take_succ (by omega), h0, Nat.zero_mul, Nat.add_zero]
    · refine k_sliceLH (l := i) (h := i + lb.length + 1) rfl rfl (by show Value.int .i64 ((i : Int) + (lb.length : Int) + 1) = _; rfl) (by omega) (by omega) (by omega) ?_
      rw [Nat.zero_add, Nat.mul_one, show i + lb.length + 1 - i = lb.length + 1 by omega]
      repeat' (first | (refine k_pure rfl ?_) | (refine then_normal ?_) | (refine cw_seq ?_) | (refine cw_region rfl ?_) | (refine rr_nil ?_) | (refine k_len rfl ?_) | (refine g_run rfl rfl ?_) | (refine g_skip rfl rfl ?_) | (refine g_dec_f rfl rfl (fun hc => ?_) (fun hc => ?_)) | (refine g_dec_t rfl rfl (fun hc => ?_) (fun hc => ?_)) | (refine g_ndec_f rfl rfl (fun hc => ?_) (fun hc => ?_)) | (refine g_ndec_t rfl rfl (fun hc => ?_) (fun hc => ?_)) | (refine g_split rfl rfl (fun hc => ?_) (fun hc => ?_)) | (refine k_addI rfl rfl (by omega) (by omega) ?_) | (refine k_subI rfl rfl (by omega) (by omega) ?_) | (refine k_fieldAddr rfl ?_) | (refine k_eqlB rfl rfl ?_) | (refine k_neqB rfl rfl ?_) | (refine cw_cond_true rfl ?_) | (refine cw_cond_false rfl ?_) | (refine cw_cond_dec rfl (fun hc => ?_) (fun hc => ?_)) | (refine cw_cond_ndec rfl (fun hc => ?_) (fun hc => ?_)) | (refine cw_cond rfl (fun hc => ?_) (fun hc => ?_)) | (refine cw_block ?_) | (refine cw_exit ?_) | (refine then_exit ?_) | (refine in_exit ?_) | (refine in_exit_ne rfl ?_) | (refine in_normal ?_) | (refine cw_ret ?_) | (refine then_ret ?_) | (refine in_ret ?_) | (refine cw_skip ?_))
      refine cw_loop (ι := Nat × List Nat × Nat) [9, 10, 11, 51, 52, 53, 54, 55, 56, 57, 58, 59, 60, 61, 62, 63, 64, 65, 66, 67, 68, 69, 70, 71, 72, 73, 74, 75, 76] (fun s => [(51, .int .i64 (s.1 : Int)), (9, .int .u64 (s.2.2 : Int))])
        (fun s w' => s.1 ≤ lb.length ∧ Ex w w' ∧ Blk w' g 106 (limbsL s.2.1) ∧ s.2.1.length = la.length + lb.length ∧ Lim s.2.1 ∧ s.2.2 < 4294967296 ∧ natOf s.2.1 + s.2.2 * 4294967296 ^ (i + s.1) = natOf ps + la.getD i 0 * natOf (lb.take s.1) * 4294967296 ^ i ∧ ∀ j, i + s.1 ≤ j → s.2.1.getD j 0 = ps.getD j 0) (fun s => lb.length - s.1)
        (0, ps, 0) ⟨rfl, rfl, trivial⟩ ⟨by simp, hE, hbk, hpl, hpL, by simp, by simp [natOf], fun j _ => rfl⟩ ?_
      rintro ⟨j, qs, cy⟩ ξ2 w3 ⟨hj, hE3, hb3, hql, hqL, hcy, hqn, hqz⟩
      simp only at hj hb3 hql hqL hcy hqn hqz
      show CW _ _ _ _ (over [(51, .int .i64 (j : Int)), (9, .int .u64 (cy : Int))] _) w3
      have hyl := hb.lim.getD j
      have hrl := hqL.getD (i + j)
      have hfit := mul_lt_B2 hxl hyl hcy hrl
      repeat' (first | (refine k_indexN rfl rfl (hb.sl.plain (by simp; omega)) (by omega) ?_) | (refine k_loadN rfl (hb.sl.ext hE3) (by omega) ?_) | (refine k_indexN rfl rfl ⟨_, _, rfl⟩ (by omega) ?_) | (refine k_loadNo rfl hb3 (by omega) ?_) | (refine k_up rfl (by assumption) ?_) | (refine k_mulN rfl rfl (by omega) ?_) | (refine k_addN rfl rfl (by omega) ?_) | (refine k_down rfl ?_) | (refine k_shr32 rfl rfl ?_) | (refine k_storeNo rfl rfl hb3 (by omega) (fun w4 hc4 hb4 => ⟨fun _ _ => trivial, ?_⟩)) | (refine k_pure rfl ?_) | (refine then_normal ?_) | (refine cw_seq ?_) | (refine cw_region rfl ?_) | (refine rr_nil ?_) | (refine k_len rfl ?_) | (refine g_run rfl rfl ?_) | (refine g_skip rfl rfl ?_) | (refine g_dec_f rfl rfl (fun hc => ?_) (fun hc => ?_)) | (refine g_dec_t rfl rfl (fun hc => ?_) (fun hc => ?_)) | (refine g_ndec_f rfl rfl (fun hc => ?_) (fun hc => ?_)) | (refine g_ndec_t rfl rfl (fun hc => ?_) (fun hc => ?_)) | (refine g_split rfl rfl (fun hc => ?_) (fun hc => ?_)) | (refine k_addI rfl rfl (by omega) (by omega) ?_) | (refine k_subI rfl rfl (by omega) (by omega) ?_) | (refine k_fieldAddr rfl ?_) | (refine k_eqlB rfl rfl ?_) | (refine k_neqB rfl rfl ?_) | (refine cw_cond_true rfl ?_) | (refine cw_cond_false rfl ?_) | (refine cw_cond_dec rfl (fun hc => ?_) (fun hc => ?_)) | (refine cw_cond_ndec rfl (fun hc => ?_) (fun hc => ?_)) | (refine cw_cond rfl (fun hc => ?_) (fun hc => ?_)) | (refine cw_block ?_) | (refine cw_exit ?_) | (refine then_exit ?_) | (refine in_exit ?_) | (refine in_exit_ne rfl ?_) | (refine in_normal ?_) | (refine cw_ret ?_) | (refine then_ret ?_) | (refine in_ret ?_) | (refine cw_skip ?_))
      · refine ⟨⟨(j + 1, qs.set (i + j) ((cy + (la.getD i 0 * lb.getD j 0 + qs.getD (i + j) 0)) % 4294967296), (cy + (la.getD i 0 * lb.getD j 0 + qs.getD (i + j) 0)) / 4294967296), ⟨by simp only; omega, hE3.chg hc4 hn.lo, hb4, by simp [hql], hqL.set (Nat.mod_lt _ (by decide)), by simp only; omega, ?_, ?_⟩, by simp only; omega, rfl, rfl, trivial⟩, (by (repeat (first | exact agree_mask _ _ _ | refine agree_upd rfl ?_ | refine agree_updO rfl ?_ | refine agree_overIn rfl ?_ | refine agree_maskIn rfl ?_)))⟩
        · have := row_step (x := la.getD i 0) (y := lb.getD j 0) (show i + j < qs.length by omega) hqn
          simp only
          rw [show i + (j + 1) = i + j + 1 by omega, this, natOf_take_succ (by omega), Nat.mul_add, Nat.add_mul, Nat.add_assoc, Nat.pow_add]
          congr 2
          rw [← Nat.mul_assoc, Nat.mul_assoc, Nat.mul_comm (4294967296 ^ i), ← Nat.mul_assoc, Nat.mul_assoc (la.getD i 0)]
        · intro k hk
          simp only at hk ⊢
          rw [getD_set_ne' (by omega), hqz k (by omega)]
      · obtain rfl : j = lb.length := by omega
        have hz : qs.getD (i + lb.length) 0 = 0 := by rw [hqz _ (Nat.le_refl _)]; exact hpz _ (Nat.le_refl _)
        repeat' (first | (refine k_down rfl ?_) | (refine k_indexN rfl rfl ⟨_, _, rfl⟩ (by omega) ?_) | (refine k_storeNo rfl rfl hb3 (by omega) (fun w4 hc4 hb4 => ⟨fun _ _ => trivial, ?_⟩)) | (refine k_pure rfl ?_) | (refine then_normal ?_) | (refine cw_seq ?_) | (refine cw_region rfl ?_) | (refine rr_nil ?_) | (refine k_len rfl ?_) | (refine g_run rfl rfl ?_) | (refine g_skip rfl rfl ?_) | (refine g_dec_f rfl rfl (fun hc => ?_) (fun hc => ?_)) | (refine g_dec_t rfl rfl (fun hc => ?_) (fun hc => ?_)) | (refine g_ndec_f rfl rfl (fun hc => ?_) (fun hc => ?_)) | (refine g_ndec_t rfl rfl (fun hc => ?_) (fun hc => ?_)) | (refine g_split rfl rfl (fun hc => ?_) (fun hc => ?_)) | (refine k_addI rfl rfl (by omega) (by omega) ?_) | (refine k_subI rfl rfl (by omega) (by omega) ?_) | (refine k_fieldAddr rfl ?_) | (refine k_eqlB rfl rfl ?_) | (refine k_neqB rfl rfl ?_) | (refine cw_cond_true rfl ?_) | (refine cw_cond_false rfl ?_) | (refine cw_cond_dec rfl (fun hc => ?_) (fun hc => ?_)) | (refine cw_cond_ndec rfl (fun hc => ?_) (fun hc => ?_)) | (refine cw_cond rfl (fun hc => ?_) (fun hc => ?_)) | (refine cw_block ?_) | (refine cw_exit ?_) | (refine then_exit ?_) | (refine in_exit ?_) | (refine in_exit_ne rfl ?_) | (refine in_normal ?_) | (refine cw_ret ?_) | (refine then_ret ?_) | (refine in_ret ?_) | (refine cw_skip ?_))
        rw [Nat.mod_eq_of_lt hcy] at hb4
        refine ⟨⟨(i + 1, qs.set (i + lb.length) cy), ⟨by simp only; omega, hE3.chg hc4 hn.lo, hb4, by simp [hql], hqL.set hcy, ?_, ?_⟩, by simp only; omega, rfl, trivial⟩, (by (repeat (first | exact agree_mask _ _ _ | refine agree_upd rfl ?_ | refine agree_updO rfl ?_ | refine agree_overIn rfl ?_ | refine agree_maskIn rfl ?_)))⟩
        · have h1 := natOf_set (l := qs) (k := i + lb.length) (v := cy) (by omega)
          rw [hz, Nat.zero_mul, Nat.add_zero] at h1
          simp only
          rw [h1, hqn, hpn, List.take_length, natOf_take_succ (by omega), Nat.add_mul]
          congr 1
          rw [Nat.mul_assoc, Nat.mul_assoc, Nat.mul_comm (natOf lb)]
        · intro k hk
          simp only at hk ⊢
          rw [getD_set_ne' (by omega), hqz k (by omega), hpz k (by omega)]
    · obtain rfl : i = la.length := by omega
      rw [List.take_length] at hpn
      have hL := Limbs.of_blk (c := la.length + lb.length) hbk (by omega) hpL (by omega)
      have hcall := trim_spec hL
      rw [hpl] at hcall
      repeat' (first | (refine k_pure rfl ?_) | (refine then_normal ?_) | (refine cw_seq ?_) | (refine cw_region rfl ?_) | (refine rr_nil ?_) | (refine k_len rfl ?_) | (refine g_run rfl rfl ?_) | (refine g_skip rfl rfl ?_) | (refine g_dec_f rfl rfl (fun hc => ?_) (fun hc => ?_)) | (refine g_dec_t rfl rfl (fun hc => ?_) (fun hc => ?_)) | (refine g_ndec_f rfl rfl (fun hc => ?_) (fun hc => ?_)) | (refine g_ndec_t rfl rfl (fun hc => ?_) (fun hc => ?_)) | (refine g_split rfl rfl (fun hc => ?_) (fun hc => ?_)) | (refine k_addI rfl rfl (by omega) (by omega) ?_) | (refine k_subI rfl rfl (by omega) (by omega) ?_) | (refine k_fieldAddr rfl ?_) | (refine k_eqlB rfl rfl ?_) | (refine k_neqB rfl rfl ?_) | (refine cw_cond_true rfl ?_) | (refine cw_cond_false rfl ?_) | (refine cw_cond_dec rfl (fun hc => ?_) (fun hc => ?_)) | (refine cw_cond_ndec rfl (fun hc => ?_) (fun hc => ?_)) | (refine cw_cond rfl (fun hc => ?_) (fun hc => ?_)) | (refine cw_block ?_) | (refine cw_exit ?_) | (refine then_exit ?_) | (refine in_exit ?_) | (refine in_exit_ne rfl ?_) | (refine in_normal ?_) | (refine cw_ret ?_) | (refine then_ret ?_) | (refine in_ret ?_) | (refine cw_skip ?_))
      refine k_call hcall rfl ?_
      rintro v w3 ⟨rfl, hE3⟩
      refine ⟨fun _ _ => trivial, ?_⟩
      repeat' (first | (refine k_pure rfl ?_) | (refine then_normal ?_) | (refine cw_seq ?_) | (refine cw_region rfl ?_) | (refine rr_nil ?_) | (refine k_len rfl ?_) | (refine g_run rfl rfl ?_) | (refine g_skip rfl rfl ?_) | (refine g_dec_f rfl rfl (fun hc => ?_) (fun hc => ?_)) | (refine g_dec_t rfl rfl (fun hc => ?_) (fun hc => ?_)) | (refine g_ndec_f rfl rfl (fun hc => ?_) (fun hc => ?_)) | (refine g_ndec_t rfl rfl (fun hc => ?_) (fun hc => ?_)) | (refine g_split rfl rfl (fun hc => ?_) (fun hc => ?_)) | (refine k_addI rfl rfl (by omega) (by omega) ?_) | (refine k_subI rfl rfl (by omega) (by omega) ?_) | (refine k_fieldAddr rfl ?_) | (refine k_eqlB rfl rfl ?_) | (refine k_neqB rfl rfl ?_) | (refine cw_cond_true rfl ?_) | (refine cw_cond_false rfl ?_) | (refine cw_cond_dec rfl (fun hc => ?_) (fun hc => ?_)) | (refine cw_cond_ndec rfl (fun hc => ?_) (fun hc => ?_)) | (refine cw_cond rfl (fun hc => ?_) (fun hc => ?_)) | (refine cw_block ?_) | (refine cw_exit ?_) | (refine then_exit ?_) | (refine in_exit ?_) | (refine in_exit_ne rfl ?_) | (refine in_normal ?_) | (refine cw_ret ?_) | (refine then_ret ?_) | (refine in_ret ?_) | (refine cw_skip ?_))
      refine ret1 rfl (rt rfl) ⟨trimL ps, by rw [trimL_natOf, hpn], canon_trimL _, by have := trimL_len ps; omega, _, _, rfl, hL.trim.ext hE3, fun ad e => by cases e; exact hn.lo, hE.trans hE3⟩
end Go.Proofs.Ytmedmmginnfjgaa
