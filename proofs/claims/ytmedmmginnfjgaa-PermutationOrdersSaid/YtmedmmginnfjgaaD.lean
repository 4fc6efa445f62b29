import Derived.Test.YtmedmmginnfjgaaC
namespace Go.Proofs.Ytmedmmginnfjgaa
open Go.W Go.PM

theorem set_take_mem {n : Nat} {l : List Int} {bs : List Bool} (hb : bs.length = n) (hm : ∀ x, x < n → (bs.getD x false = true ↔ (x : Int) ∈ l)) {y : Int} (h0 : 0 ≤ y) (h1 : y < n) :
    ∀ x, x < n → ((bs.set y.toNat true).getD x false = true ↔ (x : Int) ∈ l ++ [y]) := by
  intro x hx
  simp only [List.getD_eq_getElem?_getD, List.getElem?_set, List.mem_append, List.mem_singleton]
  have := hm x hx
  simp only [List.getD_eq_getElem?_getD] at this
  split
  · rename_i e
    have e2 : (x : Int) = y := by omega
    rw [if_pos (by omega)]
    simp [e2]
  · rename_i e
    rw [this]
    constructor
    · exact .inl
    · rintro (h | h)
      · exact h
      · omega

theorem refValid_spec {xs : List Int} {a : Option Addr} {w : World} (hx : Sl w a (intsL xs)) (cap : Nat) :
    CallsR Try.prog 19 #[.slice a xs.length cap] w fun v w' => v = .bool (decide (IsPerm xs)) ∧ Ex w w' := by
  refine callsR_of (args := [_]) Try.func19 rfl rfl ?_
  repeat' (first | (refine k_makeB rfl rfl (by omega) (by omega) (fun g w1 hn => ⟨fun _ _ => trivial, ?_⟩)) | (refine k_pure rfl ?_) | (refine then_normal ?_) | (refine cw_seq ?_) | (refine cw_region rfl ?_) | (refine rr_nil ?_) | (refine k_len rfl ?_) | (refine g_run rfl rfl ?_) | (refine g_skip rfl rfl ?_) | (refine g_dec_f rfl rfl (fun hc => ?_) (fun hc => ?_)) | (refine g_dec_t rfl rfl (fun hc => ?_) (fun hc => ?_)) | (refine g_ndec_f rfl rfl (fun hc => ?_) (fun hc => ?_)) | (refine g_ndec_t rfl rfl (fun hc => ?_) (fun hc => ?_)) | (refine g_split rfl rfl (fun hc => ?_) (fun hc => ?_)) | (refine k_addI rfl rfl (by omega) (by omega) ?_) | (refine k_subI rfl rfl (by omega) (by omega) ?_) | (refine k_fieldAddr rfl ?_) | (refine k_eqlB rfl rfl ?_) | (refine k_neqB rfl rfl ?_) | (refine cw_cond_true rfl ?_) | (refine cw_cond_false rfl ?_) | (refine cw_cond_dec rfl (fun hc => ?_) (fun hc => ?_)) | (refine cw_cond_ndec rfl (fun hc => ?_) (fun hc => ?_)) | (refine cw_cond rfl (fun hc => ?_) (fun hc => ?_)) | (refine cw_block ?_) | (refine cw_exit ?_) | (refine then_exit ?_) | (refine in_exit ?_) | (refine in_exit_ne rfl ?_) | (refine in_normal ?_) | (refine cw_ret ?_) | (refine then_ret ?_) | (refine in_ret ?_) | (refine cw_skip ?_))
  · refine ret1 rfl (rt rfl) ⟨congrArg Value.bool (Eq.symm (decide_eq_false ?_)), Ex.refl _⟩
    rintro ⟨h1, h2, _⟩; omega
  · refine cw_loop (ι := Nat × List Bool) [2, 5, 19, 20, 21, 22, 23, 24, 25, 26, 27, 28, 29, 30, 31, 32, 33, 34, 35, 36, 37, 38, 39, 40] (fun s => [(19, .int .i64 (s.1 : Int))])
      (fun s w' => s.1 ≤ xs.length ∧ Ex w w' ∧ Blk w' g 4 (s.2.map Value.bool) ∧ s.2.length = xs.length ∧ (∀ x, x < xs.length → (s.2.getD x false = true ↔ (x : Int) ∈ xs.take s.1)) ∧ Dist xs.length (xs.take s.1)) (fun s => xs.length - s.1)
      (0, List.replicate xs.length false) ⟨rfl, trivial⟩ ⟨by simp, hn.ex, hn.blk, by simp, by intro x hx; simp [hx], good_nil _⟩ ?_
    rintro ⟨k, bs⟩ ξ w2 ⟨hk, hE, hb, hbl, hS, hG⟩
    simp only at hk hb hbl hS hG
    show CW _ _ _ _ (over [(19, .int .i64 (k : Int))] _) w2
    repeat' (first | (refine k_indexN rfl rfl (hx.plain (by simp; omega)) (by omega) ?_) | (refine k_loadI rfl (hx.ext hE) (by omega) ?_) | (refine k_index1 rfl rfl ⟨_, _, rfl⟩ (by omega) (by omega) ?_) | (refine k_loadB rfl hb.sl (by omega) ?_) | (refine k_storeB rfl rfl hb (by omega) (fun w3 hc3 hb3 => ⟨fun _ _ => trivial, ?_⟩)) | (refine k_pure rfl ?_) | (refine then_normal ?_) | (refine cw_seq ?_) | (refine cw_region rfl ?_) | (refine rr_nil ?_) | (refine k_len rfl ?_) | (refine g_run rfl rfl ?_) | (refine g_skip rfl rfl ?_) | (refine g_dec_f rfl rfl (fun hc => ?_) (fun hc => ?_)) | (refine g_dec_t rfl rfl (fun hc => ?_) (fun hc => ?_)) | (refine g_ndec_f rfl rfl (fun hc => ?_) (fun hc => ?_)) | (refine g_ndec_t rfl rfl (fun hc => ?_) (fun hc => ?_)) | (refine g_split rfl rfl (fun hc => ?_) (fun hc => ?_)) | (refine k_addI rfl rfl (by omega) (by omega) ?_) | (refine k_subI rfl rfl (by omega) (by omega) ?_) | (refine k_fieldAddr rfl ?_) | (refine k_eqlB rfl rfl ?_) | (refine k_neqB rfl rfl ?_) | (refine cw_cond_true rfl ?_) | (refine cw_cond_false rfl ?_) | (refine cw_cond_dec rfl (fun hc => ?_) (fun hc => ?_)) | (refine cw_cond_ndec rfl (fun hc => ?_) (fun hc => ?_)) | (refine cw_cond rfl (fun hc => ?_) (fun hc => ?_)) | (refine cw_block ?_) | (refine cw_exit ?_) | (refine then_exit ?_) | (refine in_exit ?_) | (refine in_exit_ne rfl ?_) | (refine in_normal ?_) | (refine cw_ret ?_) | (refine then_ret ?_) | (refine in_ret ?_) | (refine cw_skip ?_))
    · refine ret1 rfl (rt rfl) ⟨congrArg Value.bool (Eq.symm (not_isPerm (k := k) (by omega) ?_)), hE⟩
      intro h
      rw [hS _ (by omega), Int.toNat_of_nonneg (by omega)] at hc
      exact h.2.2 hc
    · have hni : xs.getD k 0 ∉ xs.take k := fun h => by
        have := (hS (xs.getD k 0).toNat (by omega)).2 (by rw [Int.toNat_of_nonneg (by omega)]; exact h)
        rw [hc] at this; cases this
      refine ⟨⟨(k + 1, bs.set (xs.getD k 0).toNat true), ⟨by simp only; omega, hE.chg hc3 hn.lo, hb3, by simp [hbl], ?_, ?_⟩, by simp only; omega, rfl, trivial⟩, (by (repeat (first | exact agree_mask _ _ _ | refine agree_upd rfl ?_ | refine agree_updO rfl ?_ | refine agree_overIn rfl ?_ | refine agree_maskIn rfl ?_)))⟩
      · simp only
        rw [take_succ_getD xs 0 (by omega)]
        exact set_take_mem hbl hS (by omega) (by omega)
      · simp only
        rw [take_succ_getD xs 0 (by omega), good_snoc]
        exact ⟨hG, by omega, by omega, hni⟩
    · refine ret1 rfl (rt rfl) ⟨congrArg Value.bool (Eq.symm (not_isPerm (k := k) (by omega) ?_)), hE⟩
      omega
    · refine ret1 rfl (rt rfl) ⟨congrArg Value.bool (Eq.symm (not_isPerm (k := k) (by omega) ?_)), hE⟩
      omega
    · refine ret1 rfl (rt rfl) ⟨congrArg Value.bool (Eq.symm (isPerm_of_good (by omega) (by omega) ?_)), hE⟩
      rw [List.take_of_length_le (by omega)] at hG
      exact hG
  · refine ret1 rfl (rt rfl) ⟨congrArg Value.bool (Eq.symm (decide_eq_false ?_)), Ex.refl _⟩
    rintro ⟨h1, h2, _⟩; omega

theorem product_spec {xs ys : List Int} {a a' : Option Addr} {w : World} (hx : Sl w a (intsL xs)) (hy : Sl w a' (intsL ys)) (cap cap' : Nat) (hl : xs.length ≤ 100000) (hr : ∀ y ∈ xs, 0 ≤ y ∧ y < ys.length) :
    CallsR Try.prog 49 #[.slice a xs.length cap, .slice a' ys.length cap'] w fun v w' =>
      ∃ b c, v = .slice b (mulP xs ys).length c ∧ Own w' w.heap.size 3 1 b (mulP xs ys).length c (intsL (mulP xs ys)) ∧ Ex w w' := by
  refine callsR_of (args := [_, _]) Try.func49 rfl rfl ?_
  repeat' (first | (refine k_pure rfl ?_) | (refine then_normal ?_) | (refine cw_seq ?_) | (refine cw_region rfl ?_) | (refine rr_nil ?_) | (refine k_len rfl ?_) | (refine g_run rfl rfl ?_) | (refine g_skip rfl rfl ?_) | (refine g_dec_f rfl rfl (fun hc => ?_) (fun hc => ?_)) | (refine g_dec_t rfl rfl (fun hc => ?_) (fun hc => ?_)) | (refine g_ndec_f rfl rfl (fun hc => ?_) (fun hc => ?_)) | (refine g_ndec_t rfl rfl (fun hc => ?_) (fun hc => ?_)) | (refine g_split rfl rfl (fun hc => ?_) (fun hc => ?_)) | (refine k_addI rfl rfl (by omega) (by omega) ?_) | (refine k_subI rfl rfl (by omega) (by omega) ?_) | (refine k_fieldAddr rfl ?_) | (refine k_eqlB rfl rfl ?_) | (refine k_neqB rfl rfl ?_) | (refine cw_cond_true rfl ?_) | (refine cw_cond_false rfl ?_) | (refine cw_cond_dec rfl (fun hc => ?_) (fun hc => ?_)) | (refine cw_cond_ndec rfl (fun hc => ?_) (fun hc => ?_)) | (refine cw_cond rfl (fun hc => ?_) (fun hc => ?_)) | (refine cw_block ?_) | (refine cw_exit ?_) | (refine then_exit ?_) | (refine in_exit ?_) | (refine in_exit_ne rfl ?_) | (refine in_normal ?_) | (refine cw_ret ?_) | (refine then_ret ?_) | (refine in_ret ?_) | (refine cw_skip ?_))
  refine cw_loop (ι := Nat × Option Addr × Nat) [5, 7, 10, 11, 12, 13, 14, 15, 16, 17, 18, 19, 20, 21] (fun s => [(10, .int .i64 (s.1 : Int)), (5, .slice s.2.1 s.1 s.2.2)])
    (fun s w' => s.1 ≤ xs.length ∧ Ex w w' ∧ Own w' w.heap.size 3 1 s.2.1 s.1 s.2.2 (intsL (mulP (xs.take s.1) ys))) (fun s => xs.length - s.1)
    (0, none, 0) ⟨rfl, rfl, trivial⟩ ⟨by simp, Ex.refl _, Own.nil _ _ _ _⟩ ?_
  rintro ⟨k, b, c⟩ ξ w2 ⟨hk, hE, hO⟩
  simp only at hk hO
  show CW _ _ _ _ (over [(10, .int .i64 (k : Int)), (5, .slice b k c)] _) w2
  have hrk : k < xs.length → 0 ≤ xs.getD k 0 ∧ xs.getD k 0 < ys.length := fun h => hr _ (by rw [List.getD_eq_getElem?_getD, List.getElem?_eq_getElem h]; exact List.getElem_mem h)
  repeat' (first | (refine k_indexN rfl rfl (hx.plain (by simp; omega)) (by omega) ?_) | (refine k_loadI rfl (hx.ext hE) (by omega) ?_) | (refine k_index1 rfl rfl (hy.plain (by simp; omega)) (by omega) (by omega) ?_) | (refine k_loadI rfl (hy.ext hE) (by omega) ?_) | (refine k_pure rfl ?_) | (refine then_normal ?_) | (refine cw_seq ?_) | (refine cw_region rfl ?_) | (refine rr_nil ?_) | (refine k_len rfl ?_) | (refine g_run rfl rfl ?_) | (refine g_skip rfl rfl ?_) | (refine g_dec_f rfl rfl (fun hc => ?_) (fun hc => ?_)) | (refine g_dec_t rfl rfl (fun hc => ?_) (fun hc => ?_)) | (refine g_ndec_f rfl rfl (fun hc => ?_) (fun hc => ?_)) | (refine g_ndec_t rfl rfl (fun hc => ?_) (fun hc => ?_)) | (refine g_split rfl rfl (fun hc => ?_) (fun hc => ?_)) | (refine k_addI rfl rfl (by omega) (by omega) ?_) | (refine k_subI rfl rfl (by omega) (by omega) ?_) | (refine k_fieldAddr rfl ?_) | (refine k_eqlB rfl rfl ?_) | (refine k_neqB rfl rfl ?_) | (refine cw_cond_true rfl ?_) | (refine cw_cond_false rfl ?_) | (refine cw_cond_dec rfl (fun hc => ?_) (fun hc => ?_)) | (refine cw_cond_ndec rfl (fun hc => ?_) (fun hc => ?_)) | (refine cw_cond rfl (fun hc => ?_) (fun hc => ?_)) | (refine cw_block ?_) | (refine cw_exit ?_) | (refine then_exit ?_) | (refine in_exit ?_) | (refine in_exit_ne rfl ?_) | (refine in_normal ?_) | (refine cw_ret ?_) | (refine then_ret ?_) | (refine in_ret ?_) | (refine cw_skip ?_))
  · refine k_app1I rfl rfl rfl rfl hO (by omega) (by omega) hE.size (fun g b' c' w3 hO3 hG3 _ => ?_)
    repeat' (first | (refine k_pure rfl ?_) | (refine then_normal ?_) | (refine cw_seq ?_) | (refine cw_region rfl ?_) | (refine rr_nil ?_) | (refine k_len rfl ?_) | (refine g_run rfl rfl ?_) | (refine g_skip rfl rfl ?_) | (refine g_dec_f rfl rfl (fun hc => ?_) (fun hc => ?_)) | (refine g_dec_t rfl rfl (fun hc => ?_) (fun hc => ?_)) | (refine g_ndec_f rfl rfl (fun hc => ?_) (fun hc => ?_)) | (refine g_ndec_t rfl rfl (fun hc => ?_) (fun hc => ?_)) | (refine g_split rfl rfl (fun hc => ?_) (fun hc => ?_)) | (refine k_addI rfl rfl (by omega) (by omega) ?_) | (refine k_subI rfl rfl (by omega) (by omega) ?_) | (refine k_fieldAddr rfl ?_) | (refine k_eqlB rfl rfl ?_) | (refine k_neqB rfl rfl ?_) | (refine cw_cond_true rfl ?_) | (refine cw_cond_false rfl ?_) | (refine cw_cond_dec rfl (fun hc => ?_) (fun hc => ?_)) | (refine cw_cond_ndec rfl (fun hc => ?_) (fun hc => ?_)) | (refine cw_cond rfl (fun hc => ?_) (fun hc => ?_)) | (refine cw_block ?_) | (refine cw_exit ?_) | (refine then_exit ?_) | (refine in_exit ?_) | (refine in_exit_ne rfl ?_) | (refine in_normal ?_) | (refine cw_ret ?_) | (refine then_ret ?_) | (refine in_ret ?_) | (refine cw_skip ?_))
    refine ⟨⟨(k + 1, b', c'), ⟨by simp only; omega, hO.grow_ex hG3 hE (Nat.le_refl _), ?_⟩, by simp only; omega, rfl, rfl, trivial⟩, (by (repeat (first | exact agree_mask _ _ _ | refine agree_upd rfl ?_ | refine agree_updO rfl ?_ | refine agree_overIn rfl ?_ | refine agree_maskIn rfl ?_)))⟩
    simp only
    rw [take_succ_getD xs 0 (by omega), mulP, List.map_append]
    simpa [intsL, mulP] using hO3
  · refine ret1 rfl (rt rfl) ⟨b, c, ?_, ?_, hE⟩
    · have : k = xs.length := by omega
      subst this
      simp [mulP]; rfl
    · have : k = xs.length := by omega
      subst this
      rw [List.take_length] at hO
      simpa [mulP] using hO
end Go.Proofs.Ytmedmmginnfjgaa
