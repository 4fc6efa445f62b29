import Derived.Test.YtmedmmginnfjgaaA
namespace Go.Proofs.Ytmedmmginnfjgaa
open Go.W Go.PM

theorem isPerm_of_good {xs : List Int} (h1 : 1 ≤ xs.length) (h2 : xs.length ≤ 512) (h : Dist xs.length xs) : decide (IsPerm xs) = true := by
  simp [IsPerm, h1, h2, h]
theorem not_isPerm {xs : List Int} {k : Nat} (hk : k < xs.length) (h : ¬ (0 ≤ xs.getD k 0 ∧ xs.getD k 0 < xs.length ∧ xs.getD k 0 ∉ xs.take k)) : decide (IsPerm xs) = false := by
  rw [decide_eq_false_iff_not]
  rintro ⟨_, _, hG⟩
  have := good_take hG (k + 1)
  rw [take_succ_getD xs 0 hk, good_snoc] at this
  exact h this.2

theorem valid_spec {xs : List Int} {a : Option Addr} {w : World} (hx : Sl w a (intsL xs)) (cap : Nat) :
    CallsR Try.prog 18 #[.slice a xs.length cap] w fun v w' => v = .bool (decide (IsPerm xs)) ∧ Ex w w' := by
  refine callsR_of (args := [_]) Try.func18 rfl rfl ?_
  repeat' (first | (refine k_alloc (fun g w1 hn => ⟨fun _ _ => trivial, ?_⟩)) | (refine k_pure rfl ?_) | (refine then_normal ?_) | (refine cw_seq ?_) | (refine cw_region rfl ?_) | (refine rr_nil ?_) | (refine k_len rfl ?_) | (refine g_run rfl rfl ?_) | (refine g_skip rfl rfl ?_) | (refine g_dec_f rfl rfl (fun hc => ?_) (fun hc => ?_)) | (refine g_dec_t rfl rfl (fun hc => ?_) (fun hc => ?_)) | (refine g_ndec_f rfl rfl (fun hc => ?_) (fun hc => ?_)) | (refine g_ndec_t rfl rfl (fun hc => ?_) (fun hc => ?_)) | (refine g_split rfl rfl (fun hc => ?_) (fun hc => ?_)) | (refine k_addI rfl rfl (by omega) (by omega) ?_) | (refine k_subI rfl rfl (by omega) (by omega) ?_) | (refine k_fieldAddr rfl ?_) | (refine k_eqlB rfl rfl ?_) | (refine k_neqB rfl rfl ?_) | (refine cw_cond_true rfl ?_) | (refine cw_cond_false rfl ?_) | (refine cw_cond_dec rfl (fun hc => ?_) (fun hc => ?_)) | (refine cw_cond_ndec rfl (fun hc => ?_) (fun hc => ?_)) | (refine cw_cond rfl (fun hc => ?_) (fun hc => ?_)) | (refine cw_block ?_) | (refine cw_exit ?_) | (refine then_exit ?_) | (refine in_exit ?_) | (refine in_exit_ne rfl ?_) | (refine in_normal ?_) | (refine cw_ret ?_) | (refine then_ret ?_) | (refine in_ret ?_) | (refine cw_skip ?_))
  · refine ret1 rfl (rt rfl) ⟨congrArg Value.bool (Eq.symm (decide_eq_false ?_)), Ex.refl _⟩
    rintro ⟨h1, h2, _⟩; omega
  · refine cw_loop (ι := Nat × List Nat) [2, 5, 16, 17, 18, 19, 20, 21, 22, 23, 24, 25, 26, 27, 28, 29, 30, 31, 32, 33, 34, 35, 36] (fun s => [(16, .int .i64 (s.1 : Int))])
      (fun s w' => s.1 ≤ xs.length ∧ Ex w w' ∧ Blk w' g 80 (wordsL s.2) ∧ SetOf s.2 (xs.take s.1) ∧ Dist xs.length (xs.take s.1)) (fun s => xs.length - s.1)
      (0, [0, 0, 0, 0, 0, 0, 0, 0]) ⟨rfl, trivial⟩ ⟨by omega, hn.ex, hn.blk, setOf_nil, good_nil _⟩ ?_
    rintro ⟨k, ws⟩ ξ w2 ⟨hk, hE, hb, hS, hG⟩
    simp only at hk hb hS hG
    show CW _ _ _ _ (over [(16, .int .i64 (k : Int))] _) w2
    repeat' (first | (refine k_indexN rfl rfl (hx.plain (by simp; omega)) (by omega) ?_) | (refine k_loadI rfl (hx.ext hE) (by omega) ?_) | (refine k_loadA (vs := wordsL ws) rfl (by simp [hS.len]) (fun j hj => by have := hb.cell hj; simpa using this) ?_) | (refine k_pure rfl ?_) | (refine then_normal ?_) | (refine cw_seq ?_) | (refine cw_region rfl ?_) | (refine rr_nil ?_) | (refine k_len rfl ?_) | (refine g_run rfl rfl ?_) | (refine g_skip rfl rfl ?_) | (refine g_dec_f rfl rfl (fun hc => ?_) (fun hc => ?_)) | (refine g_dec_t rfl rfl (fun hc => ?_) (fun hc => ?_)) | (refine g_ndec_f rfl rfl (fun hc => ?_) (fun hc => ?_)) | (refine g_ndec_t rfl rfl (fun hc => ?_) (fun hc => ?_)) | (refine g_split rfl rfl (fun hc => ?_) (fun hc => ?_)) | (refine k_addI rfl rfl (by omega) (by omega) ?_) | (refine k_subI rfl rfl (by omega) (by omega) ?_) | (refine k_fieldAddr rfl ?_) | (refine k_eqlB rfl rfl ?_) | (refine k_neqB rfl rfl ?_) | (refine cw_cond_true rfl ?_) | (refine cw_cond_false rfl ?_) | (refine cw_cond_dec rfl (fun hc => ?_) (fun hc => ?_)) | (refine cw_cond_ndec rfl (fun hc => ?_) (fun hc => ?_)) | (refine cw_cond rfl (fun hc => ?_) (fun hc => ?_)) | (refine cw_block ?_) | (refine cw_exit ?_) | (refine then_exit ?_) | (refine in_exit ?_) | (refine in_exit_ne rfl ?_) | (refine in_normal ?_) | (refine cw_ret ?_) | (refine then_ret ?_) | (refine in_ret ?_) | (refine cw_skip ?_))
    · refine k_call (has_spec hS _ (by omega) (by omega) _) rfl ?_
      rintro v w3 ⟨rfl, hE3⟩
      refine ⟨fun _ _ => trivial, ?_⟩
      replace hb := hb.ext hE3
      replace hE := hE.trans hE3
      repeat' (first | (refine k_loadA (vs := wordsL ws) rfl (by simp [hS.len]) (fun j hj => by have := hb.cell hj; simpa using this) ?_) | (refine k_pure rfl ?_) | (refine then_normal ?_) | (refine cw_seq ?_) | (refine cw_region rfl ?_) | (refine rr_nil ?_) | (refine k_len rfl ?_) | (refine g_run rfl rfl ?_) | (refine g_skip rfl rfl ?_) | (refine g_dec_f rfl rfl (fun hc => ?_) (fun hc => ?_)) | (refine g_dec_t rfl rfl (fun hc => ?_) (fun hc => ?_)) | (refine g_ndec_f rfl rfl (fun hc => ?_) (fun hc => ?_)) | (refine g_ndec_t rfl rfl (fun hc => ?_) (fun hc => ?_)) | (refine g_split rfl rfl (fun hc => ?_) (fun hc => ?_)) | (refine k_addI rfl rfl (by omega) (by omega) ?_) | (refine k_subI rfl rfl (by omega) (by omega) ?_) | (refine k_fieldAddr rfl ?_) | (refine k_eqlB rfl rfl ?_) | (refine k_neqB rfl rfl ?_) | (refine cw_cond_true rfl ?_) | (refine cw_cond_false rfl ?_) | (refine cw_cond_dec rfl (fun hc => ?_) (fun hc => ?_)) | (refine cw_cond_ndec rfl (fun hc => ?_) (fun hc => ?_)) | (refine cw_cond rfl (fun hc => ?_) (fun hc => ?_)) | (refine cw_block ?_) | (refine cw_exit ?_) | (refine then_exit ?_) | (refine in_exit ?_) | (refine in_exit_ne rfl ?_) | (refine in_normal ?_) | (refine cw_ret ?_) | (refine then_ret ?_) | (refine in_ret ?_) | (refine cw_skip ?_))
      · refine ret1 rfl (rt rfl) ⟨congrArg Value.bool (Eq.symm (not_isPerm (k := k) (by omega) ?_)), hE⟩
        exact fun h => h.2.2 hc
      · refine k_call (with_spec hS _ (by omega) (by omega) _) rfl ?_
        rintro v w4 ⟨ws', rfl, hS', hE4⟩
        refine ⟨fun _ _ => trivial, ?_⟩
        replace hb := hb.ext hE4
        replace hE := hE.trans hE4
        refine k_storeV (n := 8) rfl rfl (by simp [hS'.len]) (all_one (fun _ => rfl) _) hb (by simp [hS.len]) (fun w5 hc5 hb5 => ⟨fun _ _ => trivial, ?_⟩)
        replace hE := hE.chg hc5 hn.lo
        repeat' (first | (refine k_pure rfl ?_) | (refine then_normal ?_) | (refine cw_seq ?_) | (refine cw_region rfl ?_) | (refine rr_nil ?_) | (refine k_len rfl ?_) | (refine g_run rfl rfl ?_) | (refine g_skip rfl rfl ?_) | (refine g_dec_f rfl rfl (fun hc => ?_) (fun hc => ?_)) | (refine g_dec_t rfl rfl (fun hc => ?_) (fun hc => ?_)) | (refine g_ndec_f rfl rfl (fun hc => ?_) (fun hc => ?_)) | (refine g_ndec_t rfl rfl (fun hc => ?_) (fun hc => ?_)) | (refine g_split rfl rfl (fun hc => ?_) (fun hc => ?_)) | (refine k_addI rfl rfl (by omega) (by omega) ?_) | (refine k_subI rfl rfl (by omega) (by omega) ?_) | (refine k_fieldAddr rfl ?_) | (refine k_eqlB rfl rfl ?_) | (refine k_neqB rfl rfl ?_) | (refine cw_cond_true rfl ?_) | (refine cw_cond_false rfl ?_) | (refine cw_cond_dec rfl (fun hc => ?_) (fun hc => ?_)) | (refine cw_cond_ndec rfl (fun hc => ?_) (fun hc => ?_)) | (refine cw_cond rfl (fun hc => ?_) (fun hc => ?_)) | (refine cw_block ?_) | (refine cw_exit ?_) | (refine then_exit ?_) | (refine in_exit ?_) | (refine in_exit_ne rfl ?_) | (refine in_normal ?_) | (refine cw_ret ?_) | (refine then_ret ?_) | (refine in_ret ?_) | (refine cw_skip ?_))
        rw [← take_succ_getD xs 0 (by omega)] at hS'
        refine ⟨⟨(k + 1, ws'), ⟨by simp only; omega, hE, hb5, hS', ?_⟩, by simp only; omega, rfl, trivial⟩, ?_⟩
        · simp only
          rw [take_succ_getD xs 0 (by omega), good_snoc]
          exact ⟨hG, by omega, by omega, hc⟩
        · (repeat (first | exact agree_mask _ _ _ | refine agree_upd rfl ?_ | refine agree_updO rfl ?_ | refine agree_overIn rfl ?_ | refine agree_maskIn rfl ?_))
    · refine ret1 rfl (rt rfl) ⟨congrArg Value.bool (Eq.symm (not_isPerm (k := k) (by omega) ?_)), hE⟩
      omega
    · refine ret1 rfl (rt rfl) ⟨congrArg Value.bool (Eq.symm (not_isPerm (k := k) (by omega) ?_)), hE⟩
      omega
    · refine ret1 rfl (rt rfl) ⟨congrArg Value.bool (Eq.symm (isPerm_of_good (by omega) (by omega) ?_)), hE⟩
      rw [List.take_of_length_le (by omega)] at hG
      exact hG
  · refine ret1 rfl (rt rfl) ⟨congrArg Value.bool (Eq.symm (decide_eq_false ?_)), Ex.refl _⟩
    rintro ⟨h1, h2, _⟩; omega
end Go.Proofs.Ytmedmmginnfjgaa
