import Derived.Test.YtmedmmginnfjgaaL
namespace Go.Proofs.Ytmedmmginnfjgaa
open Go.W Go.LM

def cmpZ (m n : Nat) : Int := if m < n then -1 else if n < m then 1 else 0

theorem natOf_drop {ls : List Nat} {k : Nat} (h : k < ls.length) : natOf (ls.drop k) = ls.getD k 0 + 4294967296 * natOf (ls.drop (k + 1)) := by
  rw [List.drop_eq_getElem_cons h, natOf, List.getD_eq_getElem?_getD, List.getElem?_eq_getElem h]; rfl
theorem natOf_split (ls : List Nat) {k : Nat} (h : k ≤ ls.length) : natOf ls = natOf (ls.take k) + 4294967296 ^ k * natOf (ls.drop k) := by
  conv => lhs; rw [← List.take_append_drop k ls, natOf_append]
  simp [Nat.min_eq_left h]
theorem pow_mono {a b : Nat} (h : a ≤ b) : 4294967296 ^ a ≤ 4294967296 ^ b := Nat.pow_le_pow_right (by decide) h
theorem lt_of_len {a b : List Nat} (ha : Lim a) (hb : Canon b) (h : a.length < b.length) : natOf a < natOf b := by
  have h1 := natOf_lt ha
  have h2 := canon_ge hb (by intro e; rw [e] at h; simp at h)
  have := pow_mono (show a.length ≤ b.length - 1 by omega)
  omega
theorem lt_of_digit {a b : List Nat} {i : Nat} (ha : Lim a) (hl : a.length = b.length) (hi : i < a.length) (he : natOf (a.drop (i + 1)) = natOf (b.drop (i + 1))) (h : a.getD i 0 < b.getD i 0) : natOf a < natOf b := by
  rw [natOf_split a (k := i) (by omega), natOf_split b (k := i) (by omega), natOf_drop (ls := a) hi, natOf_drop (ls := b) (k := i) (by omega), he]
  have h1 := natOf_lt (ha.take i)
  simp only [List.length_take, Nat.min_eq_left (Nat.le_of_lt hi)] at h1
  have h2 : 4294967296 ^ i * (a.getD i 0 + 1) ≤ 4294967296 ^ i * b.getD i 0 := Nat.mul_le_mul_left _ h
  rw [Nat.mul_add, Nat.mul_add]
  rw [Nat.mul_add] at h2
  omega

theorem compareNat_spec {la lb : List Nat} {a b : Option Addr} {c d : Nat} {w : World} (ha : Limbs w a c la) (hb : Limbs w b d lb) (ca : Canon la) (cb : Canon lb) :
    CallsR Try.prog 87 #[.slice a la.length c, .slice b lb.length d] w fun v w' => v = .int .i64 (cmpZ (natOf la) (natOf lb)) ∧ Ex w w' := by
  have hla := ha.len
  refine callsR_of (args := [_, _]) Try.func87 rfl rfl ?_
  repeat' (first | (refine k_pure rfl ?_) | (refine then_normal ?_) | (refine cw_seq ?_) | (refine cw_region rfl ?_) | (refine rr_nil ?_) | (refine k_len rfl ?_) | (refine g_run rfl rfl ?_) | (refine g_skip rfl rfl ?_) | (refine g_dec_f rfl rfl (fun hc => ?_) (fun hc => ?_)) | (refine g_dec_t rfl rfl (fun hc => ?_) (fun hc => ?_)) | (refine g_ndec_f rfl rfl (fun hc => ?_) (fun hc => ?_)) | (refine g_ndec_t rfl rfl (fun hc => ?_) (fun hc => ?_)) | (refine g_split rfl rfl (fun hc => ?_) (fun hc => ?_)) | (refine k_addI rfl rfl (by omega) (by omega) ?_) | (refine k_subI rfl rfl (by omega) (by omega) ?_) | (refine k_fieldAddr rfl ?_) | (refine k_eqlB rfl rfl ?_) | (refine k_neqB rfl rfl ?_) | (refine cw_cond_true rfl ?_) | (refine cw_cond_false rfl ?_) | (refine cw_cond_dec rfl (fun hc => ?_) (fun hc => ?_)) | (refine cw_cond_ndec rfl (fun hc => ?_) (fun hc => ?_)) | (refine cw_cond rfl (fun hc => ?_) (fun hc => ?_)) | (refine cw_block ?_) | (refine cw_exit ?_) | (refine then_exit ?_) | (refine in_exit ?_) | (refine in_exit_ne rfl ?_) | (refine in_normal ?_) | (refine cw_ret ?_) | (refine then_ret ?_) | (refine in_ret ?_) | (refine cw_skip ?_))
  · refine ret1 rfl (rt rfl) ⟨?_, Ex.refl _⟩
    rw [cmpZ, if_pos (lt_of_len ha.lim cb (by omega))]; rfl
  · refine ret1 rfl (rt rfl) ⟨?_, Ex.refl _⟩
    have := lt_of_len hb.lim ca (by omega)
    rw [cmpZ, if_neg (by omega), if_pos this]; rfl
  · have hl : la.length = lb.length := by omega
    refine cw_loop (ι := Nat) [4, 5, 21, 22, 23, 24, 25, 26, 27, 28, 29, 30, 31, 32, 33, 34, 35, 36, 37, 38, 39, 40, 41, 42, 43, 44] (fun k => [(5, .int .i64 ((k : Int) - 1))]) (fun k w' => k ≤ la.length ∧ Ex w w' ∧ natOf (la.drop k) = natOf (lb.drop k)) (fun k => k) la.length ⟨rfl, trivial⟩
      ⟨Nat.le_refl _, Ex.refl _, by rw [List.drop_length, hl, List.drop_length]⟩ ?_
    rintro k ξ w2 ⟨hk, hE, hT⟩
    repeat' (first | (refine k_pure rfl ?_) | (refine then_normal ?_) | (refine cw_seq ?_) | (refine cw_region rfl ?_) | (refine rr_nil ?_) | (refine k_len rfl ?_) | (refine g_run rfl rfl ?_) | (refine g_skip rfl rfl ?_) | (refine g_dec_f rfl rfl (fun hc => ?_) (fun hc => ?_)) | (refine g_dec_t rfl rfl (fun hc => ?_) (fun hc => ?_)) | (refine g_ndec_f rfl rfl (fun hc => ?_) (fun hc => ?_)) | (refine g_ndec_t rfl rfl (fun hc => ?_) (fun hc => ?_)) | (refine g_split rfl rfl (fun hc => ?_) (fun hc => ?_)) | (refine k_addI rfl rfl (by omega) (by omega) ?_) | (refine k_subI rfl rfl (by omega) (by omega) ?_) | (refine k_fieldAddr rfl ?_) | (refine k_eqlB rfl rfl ?_) | (refine k_neqB rfl rfl ?_) | (refine cw_cond_true rfl ?_) | (refine cw_cond_false rfl ?_) | (refine cw_cond_dec rfl (fun hc => ?_) (fun hc => ?_)) | (refine cw_cond_ndec rfl (fun hc => ?_) (fun hc => ?_)) | (refine cw_cond rfl (fun hc => ?_) (fun hc => ?_)) | (refine cw_block ?_) | (refine cw_exit ?_) | (refine then_exit ?_) | (refine in_exit ?_) | (refine in_exit_ne rfl ?_) | (refine in_normal ?_) | (refine cw_ret ?_) | (refine then_ret ?_) | (refine in_ret ?_) | (refine cw_skip ?_))
    · obtain ⟨j, rfl⟩ : ∃ j, k = j + 1 := ⟨k - 1, by omega⟩
      rw [show ((j + 1 : Nat) : Int) - 1 = (j : Int) by omega]
      refine cw_draw (late := []) (plan := [(0, none), (1, none), (2, none), (3, none), (4, none), (5, none), (6, none), (7, none), (8, none), (9, none)]) (fun w' => Ex w w') mixed (by kernel_rfl) hE.drew ?_
      repeat' (first | (refine k_indexN (j := j) rfl rfl (ha.sl.plain (by simp; omega)) (by omega) ?_) | (refine k_indexN (j := j) rfl rfl (hb.sl.plain (by simp; omega)) (by omega) ?_) | (refine k_loadN rfl (fun _ h => ha.sl.ext h) (by omega) ?_) | (refine k_loadN rfl (fun _ h => hb.sl.ext h) (by omega) ?_) | (refine k_pure rfl ?_) | (refine then_normal ?_) | (refine cw_seq ?_) | (refine cw_region rfl ?_) | (refine rr_nil ?_) | (refine k_len rfl ?_) | (refine g_run rfl rfl ?_) | (refine g_skip rfl rfl ?_) | (refine g_dec_f rfl rfl (fun hc => ?_) (fun hc => ?_)) | (refine g_dec_t rfl rfl (fun hc => ?_) (fun hc => ?_)) | (refine g_ndec_f rfl rfl (fun hc => ?_) (fun hc => ?_)) | (refine g_ndec_t rfl rfl (fun hc => ?_) (fun hc => ?_)) | (refine g_split rfl rfl (fun hc => ?_) (fun hc => ?_)) | (refine k_addI rfl rfl (by omega) (by omega) ?_) | (refine k_subI rfl rfl (by omega) (by omega) ?_) | (refine k_fieldAddr rfl ?_) | (refine k_eqlB rfl rfl ?_) | (refine k_neqB rfl rfl ?_) | (refine cw_cond_true rfl ?_) | (refine cw_cond_false rfl ?_) | (refine cw_cond_dec rfl (fun hc => ?_) (fun hc => ?_)) | (refine cw_cond_ndec rfl (fun hc => ?_) (fun hc => ?_)) | (refine cw_cond rfl (fun hc => ?_) (fun hc => ?_)) | (refine cw_block ?_) | (refine cw_exit ?_) | (refine then_exit ?_) | (refine in_exit ?_) | (refine in_exit_ne rfl ?_) | (refine in_normal ?_) | (refine cw_ret ?_) | (refine then_ret ?_) | (refine in_ret ?_) | (refine cw_skip ?_))
      · refine ret1 rfl (rt rfl) ⟨?_, hE.drew⟩
        rw [cmpZ, if_pos (lt_of_digit (i := j) ha.lim hl (by omega) hT (by omega))]; rfl
      · refine cw_draw (late := []) (plan := [(0, none), (1, none), (2, none), (3, none), (4, none), (5, none), (6, none), (7, none), (8, none), (9, none)]) (fun w' => Ex w w') mixed (by kernel_rfl) hE.drew.drew ?_
        repeat' (first | (refine k_indexN (j := j) rfl rfl (ha.sl.plain (by simp; omega)) (by omega) ?_) | (refine k_indexN (j := j) rfl rfl (hb.sl.plain (by simp; omega)) (by omega) ?_) | (refine k_loadN rfl (fun _ h => ha.sl.ext h) (by omega) ?_) | (refine k_loadN rfl (fun _ h => hb.sl.ext h) (by omega) ?_) | (refine k_pure rfl ?_) | (refine then_normal ?_) | (refine cw_seq ?_) | (refine cw_region rfl ?_) | (refine rr_nil ?_) | (refine k_len rfl ?_) | (refine g_run rfl rfl ?_) | (refine g_skip rfl rfl ?_) | (refine g_dec_f rfl rfl (fun hc => ?_) (fun hc => ?_)) | (refine g_dec_t rfl rfl (fun hc => ?_) (fun hc => ?_)) | (refine g_ndec_f rfl rfl (fun hc => ?_) (fun hc => ?_)) | (refine g_ndec_t rfl rfl (fun hc => ?_) (fun hc => ?_)) | (refine g_split rfl rfl (fun hc => ?_) (fun hc => ?_)) | (refine k_addI rfl rfl (by omega) (by omega) ?_) | (refine k_subI rfl rfl (by omega) (by omega) ?_) | (refine k_fieldAddr rfl ?_) | (refine k_eqlB rfl rfl ?_) | (refine k_neqB rfl rfl ?_) | (refine cw_cond_true rfl ?_) | (refine cw_cond_false rfl ?_) | (refine cw_cond_dec rfl (fun hc => ?_) (fun hc => ?_)) | (refine cw_cond_ndec rfl (fun hc => ?_) (fun hc => ?_)) | (refine cw_cond rfl (fun hc => ?_) (fun hc => ?_)) | (refine cw_block ?_) | (refine cw_exit ?_) | (refine then_exit ?_) | (refine in_exit ?_) | (refine in_exit_ne rfl ?_) | (refine in_normal ?_) | (refine cw_ret ?_) | (refine then_ret ?_) | (refine in_ret ?_) | (refine cw_skip ?_))
        · refine ret1 rfl (rt rfl) ⟨?_, hE.drew.drew⟩
          have := lt_of_digit (i := j) hb.lim hl.symm (by omega) hT.symm (by omega)
          rw [cmpZ, if_neg (by omega), if_pos this]; rfl
        · refine ⟨⟨j, ⟨by omega, hE.drew.drew, ?_⟩, by omega, rfl, trivial⟩, (by (repeat (first | exact agree_mask _ _ _ | refine agree_upd rfl ?_ | refine agree_updO rfl ?_ | refine agree_overIn rfl ?_ | refine agree_maskIn rfl ?_)))⟩
          rw [natOf_drop (ls := la) (k := j) (by omega), natOf_drop (ls := lb) (k := j) (by omega), hT, show la.getD j 0 = lb.getD j 0 by omega]
    · obtain rfl : k = 0 := by omega
      simp only [List.drop_zero] at hT
      refine ret1 rfl (rt rfl) ⟨?_, hE⟩
      rw [cmpZ, if_neg (by omega), if_neg (by omega)]; rfl

theorem divNat_small {la lb : List Nat} {a b : Option Addr} {c d : Nat} {w : World} (ha : Limbs w a c la) (hb : Limbs w b d lb) (ca : Canon la) (cb : Canon lb) (h2 : la.length ≤ 2) (hpos : 0 < natOf lb) (hge : natOf lb ≤ natOf la) :
    CallsR Try.prog 75 #[.slice a la.length c, .slice b lb.length d] w fun v w' => ∃ a1 c1 a2 c2, v = .tuple #[.slice a1 (digs (natOf la / natOf lb)).length c1, .slice a2 (digs (natOf la % natOf lb)).length c2] ∧
      Limbs w' a1 c1 (digs (natOf la / natOf lb)) ∧ Limbs w' a2 c2 (digs (natOf la % natOf lb)) ∧ (∀ ad, a1 = some ad → w.heap.size ≤ ad.block) ∧ (∀ ad, a2 = some ad → w.heap.size ≤ ad.block) ∧ Ex w w' := by
  have hlb : lb.length ≤ la.length := by
    rcases Nat.lt_or_ge la.length lb.length with h | h
    · have := lt_of_len ha.lim cb h; omega
    · exact h
  have hlt := natOf_lt ha.lim
  have h64 : natOf la < 18446744073709551616 := by
    have := pow_mono (a := la.length) (b := 2) h2
    omega
  refine callsR_of (args := [_, _]) Try.func75 rfl rfl ?_
  repeat' (first | (refine k_pure rfl ?_) | (refine then_normal ?_) | (refine cw_seq ?_) | (refine cw_region rfl ?_) | (refine rr_nil ?_) | (refine k_len rfl ?_) | (refine g_run rfl rfl ?_) | (refine g_skip rfl rfl ?_) | (refine g_dec_f rfl rfl (fun hc => ?_) (fun hc => ?_)) | (refine g_dec_t rfl rfl (fun hc => ?_) (fun hc => ?_)) | (refine g_ndec_f rfl rfl (fun hc => ?_) (fun hc => ?_)) | (refine g_ndec_t rfl rfl (fun hc => ?_) (fun hc => ?_)) | (refine g_split rfl rfl (fun hc => ?_) (fun hc => ?_)) | (refine k_addI rfl rfl (by omega) (by omega) ?_) | (refine k_subI rfl rfl (by omega) (by omega) ?_) | (refine k_fieldAddr rfl ?_) | (refine k_eqlB rfl rfl ?_) | (refine k_neqB rfl rfl ?_) | (refine cw_cond_true rfl ?_) | (refine cw_cond_false rfl ?_) | (refine cw_cond_dec rfl (fun hc => ?_) (fun hc => ?_)) | (refine cw_cond_ndec rfl (fun hc => ?_) (fun hc => ?_)) | (refine cw_cond rfl (fun hc => ?_) (fun hc => ?_)) | (refine cw_block ?_) | (refine cw_exit ?_) | (refine then_exit ?_) | (refine in_exit ?_) | (refine in_exit_ne rfl ?_) | (refine in_normal ?_) | (refine cw_ret ?_) | (refine then_ret ?_) | (refine in_ret ?_) | (refine cw_skip ?_))
  refine k_call (compareNat_spec ha hb ca cb) rfl ?_
  rintro v w1 ⟨rfl, hE1⟩
  refine ⟨fun _ _ => trivial, ?_⟩
  have hcz : 0 ≤ cmpZ (natOf la) (natOf lb) := by unfold cmpZ; rw [if_neg (by omega)]; split <;> omega
  repeat' (first | (refine k_pure rfl ?_) | (refine then_normal ?_) | (refine cw_seq ?_) | (refine cw_region rfl ?_) | (refine rr_nil ?_) | (refine k_len rfl ?_) | (refine g_run rfl rfl ?_) | (refine g_skip rfl rfl ?_) | (refine g_dec_f rfl rfl (fun hc => ?_) (fun hc => ?_)) | (refine g_dec_t rfl rfl (fun hc => ?_) (fun hc => ?_)) | (refine g_ndec_f rfl rfl (fun hc => ?_) (fun hc => ?_)) | (refine g_ndec_t rfl rfl (fun hc => ?_) (fun hc => ?_)) | (refine g_split rfl rfl (fun hc => ?_) (fun hc => ?_)) | (refine k_addI rfl rfl (by omega) (by omega) ?_) | (refine k_subI rfl rfl (by omega) (by omega) ?_) | (refine k_fieldAddr rfl ?_) | (refine k_eqlB rfl rfl ?_) | (refine k_neqB rfl rfl ?_) | (refine cw_cond_true rfl ?_) | (refine cw_cond_false rfl ?_) | (refine cw_cond_dec rfl (fun hc => ?_) (fun hc => ?_)) | (refine cw_cond_ndec rfl (fun hc => ?_) (fun hc => ?_)) | (refine cw_cond rfl (fun hc => ?_) (fun hc => ?_)) | (refine cw_block ?_) | (refine cw_exit ?_) | (refine then_exit ?_) | (refine in_exit ?_) | (refine in_exit_ne rfl ?_) | (refine in_normal ?_) | (refine cw_ret ?_) | (refine then_ret ?_) | (refine in_ret ?_) | (refine cw_skip ?_))
  all_goals try (exfalso; omega)
  · refine k_call (word_spec (ha.ext hE1) h2) rfl ?_
    rintro v w2 ⟨rfl, hE2⟩
    refine ⟨fun _ _ => trivial, ?_⟩
    repeat' (first | (refine k_pure rfl ?_) | (refine then_normal ?_) | (refine cw_seq ?_) | (refine cw_region rfl ?_) | (refine rr_nil ?_) | (refine k_len rfl ?_) | (refine g_run rfl rfl ?_) | (refine g_skip rfl rfl ?_) | (refine g_dec_f rfl rfl (fun hc => ?_) (fun hc => ?_)) | (refine g_dec_t rfl rfl (fun hc => ?_) (fun hc => ?_)) | (refine g_ndec_f rfl rfl (fun hc => ?_) (fun hc => ?_)) | (refine g_ndec_t rfl rfl (fun hc => ?_) (fun hc => ?_)) | (refine g_split rfl rfl (fun hc => ?_) (fun hc => ?_)) | (refine k_addI rfl rfl (by omega) (by omega) ?_) | (refine k_subI rfl rfl (by omega) (by omega) ?_) | (refine k_fieldAddr rfl ?_) | (refine k_eqlB rfl rfl ?_) | (refine k_neqB rfl rfl ?_) | (refine cw_cond_true rfl ?_) | (refine cw_cond_false rfl ?_) | (refine cw_cond_dec rfl (fun hc => ?_) (fun hc => ?_)) | (refine cw_cond_ndec rfl (fun hc => ?_) (fun hc => ?_)) | (refine cw_cond rfl (fun hc => ?_) (fun hc => ?_)) | (refine cw_block ?_) | (refine cw_exit ?_) | (refine then_exit ?_) | (refine in_exit ?_) | (refine in_exit_ne rfl ?_) | (refine in_normal ?_) | (refine cw_ret ?_) | (refine then_ret ?_) | (refine in_ret ?_) | (refine cw_skip ?_))
    refine k_call (word_spec ((hb.ext hE1).ext hE2) (by omega)) rfl ?_
    rintro v w3 ⟨rfl, hE3⟩
    refine ⟨fun _ _ => trivial, ?_⟩
    repeat' (first | (refine k_pure rfl ?_) | (refine then_normal ?_) | (refine cw_seq ?_) | (refine cw_region rfl ?_) | (refine rr_nil ?_) | (refine k_len rfl ?_) | (refine g_run rfl rfl ?_) | (refine g_skip rfl rfl ?_) | (refine g_dec_f rfl rfl (fun hc => ?_) (fun hc => ?_)) | (refine g_dec_t rfl rfl (fun hc => ?_) (fun hc => ?_)) | (refine g_ndec_f rfl rfl (fun hc => ?_) (fun hc => ?_)) | (refine g_ndec_t rfl rfl (fun hc => ?_) (fun hc => ?_)) | (refine g_split rfl rfl (fun hc => ?_) (fun hc => ?_)) | (refine k_addI rfl rfl (by omega) (by omega) ?_) | (refine k_subI rfl rfl (by omega) (by omega) ?_) | (refine k_fieldAddr rfl ?_) | (refine k_eqlB rfl rfl ?_) | (refine k_neqB rfl rfl ?_) | (refine cw_cond_true rfl ?_) | (refine cw_cond_false rfl ?_) | (refine cw_cond_dec rfl (fun hc => ?_) (fun hc => ?_)) | (refine cw_cond_ndec rfl (fun hc => ?_) (fun hc => ?_)) | (refine cw_cond rfl (fun hc => ?_) (fun hc => ?_)) | (refine cw_block ?_) | (refine cw_exit ?_) | (refine then_exit ?_) | (refine in_exit ?_) | (refine in_exit_ne rfl ?_) | (refine in_normal ?_) | (refine cw_ret ?_) | (refine then_ret ?_) | (refine in_ret ?_) | (refine cw_skip ?_))
    have hE := ((hE1.trans hE2).trans hE3)
    refine cw_draw (late := [3, 7]) (plan := [(0, none), (1, none), (2, none), (4, none), (5, none), (6, none), (3, some false), (7, some false), (8, none), (9, none)]) (fun w' => Ex w w') mixed (by kernel_rfl) hE.drew ?_
    repeat' (first | (refine k_quoU rfl rfl (by omega) (by omega) (by omega) ?_) | (refine k_rem rfl rfl (by omega) (by omega) ?_) | (refine k_pure rfl ?_) | (refine then_normal ?_) | (refine cw_seq ?_) | (refine cw_region rfl ?_) | (refine rr_nil ?_) | (refine k_len rfl ?_) | (refine g_run rfl rfl ?_) | (refine g_skip rfl rfl ?_) | (refine g_dec_f rfl rfl (fun hc => ?_) (fun hc => ?_)) | (refine g_dec_t rfl rfl (fun hc => ?_) (fun hc => ?_)) | (refine g_ndec_f rfl rfl (fun hc => ?_) (fun hc => ?_)) | (refine g_ndec_t rfl rfl (fun hc => ?_) (fun hc => ?_)) | (refine g_split rfl rfl (fun hc => ?_) (fun hc => ?_)) | (refine k_addI rfl rfl (by omega) (by omega) ?_) | (refine k_subI rfl rfl (by omega) (by omega) ?_) | (refine k_fieldAddr rfl ?_) | (refine k_eqlB rfl rfl ?_) | (refine k_neqB rfl rfl ?_) | (refine cw_cond_true rfl ?_) | (refine cw_cond_false rfl ?_) | (refine cw_cond_dec rfl (fun hc => ?_) (fun hc => ?_)) | (refine cw_cond_ndec rfl (fun hc => ?_) (fun hc => ?_)) | (refine cw_cond rfl (fun hc => ?_) (fun hc => ?_)) | (refine cw_block ?_) | (refine cw_exit ?_) | (refine then_exit ?_) | (refine in_exit ?_) | (refine in_exit_ne rfl ?_) | (refine in_normal ?_) | (refine cw_ret ?_) | (refine then_ret ?_) | (refine in_ret ?_) | (refine cw_skip ?_))
    refine k_call (fromWord_spec (n := natOf la / natOf lb) (Nat.lt_of_le_of_lt (Nat.div_le_self _ _) h64) _) rfl ?_
    rintro v w4 ⟨a1, c1, rfl, hL1, hf1, hE4⟩
    refine ⟨fun _ h => h.trans hE4, ?_⟩
    refine k_call (fromWord_spec (n := natOf la % natOf lb) (Nat.lt_of_le_of_lt (Nat.mod_le _ _) h64) _) rfl ?_
    rintro v w5 ⟨a2, c2, rfl, hL2, hf2, hE5⟩
    refine ⟨fun _ h => h.trans hE5, ?_⟩
    repeat' (first | (refine k_pure rfl ?_) | (refine then_normal ?_) | (refine cw_seq ?_) | (refine cw_region rfl ?_) | (refine rr_nil ?_) | (refine k_len rfl ?_) | (refine g_run rfl rfl ?_) | (refine g_skip rfl rfl ?_) | (refine g_dec_f rfl rfl (fun hc => ?_) (fun hc => ?_)) | (refine g_dec_t rfl rfl (fun hc => ?_) (fun hc => ?_)) | (refine g_ndec_f rfl rfl (fun hc => ?_) (fun hc => ?_)) | (refine g_ndec_t rfl rfl (fun hc => ?_) (fun hc => ?_)) | (refine g_split rfl rfl (fun hc => ?_) (fun hc => ?_)) | (refine k_addI rfl rfl (by omega) (by omega) ?_) | (refine k_subI rfl rfl (by omega) (by omega) ?_) | (refine k_fieldAddr rfl ?_) | (refine k_eqlB rfl rfl ?_) | (refine k_neqB rfl rfl ?_) | (refine cw_cond_true rfl ?_) | (refine cw_cond_false rfl ?_) | (refine cw_cond_dec rfl (fun hc => ?_) (fun hc => ?_)) | (refine cw_cond_ndec rfl (fun hc => ?_) (fun hc => ?_)) | (refine cw_cond rfl (fun hc => ?_) (fun hc => ?_)) | (refine cw_block ?_) | (refine cw_exit ?_) | (refine then_exit ?_) | (refine in_exit ?_) | (refine in_exit_ne rfl ?_) | (refine in_normal ?_) | (refine cw_ret ?_) | (refine then_ret ?_) | (refine in_ret ?_) | (refine cw_skip ?_))
    have s1 := hE.size
    have s2 : w3.drew.heap.size = w3.heap.size := rfl
    have s3 := hE4.size
    exact ret2 rfl (rt rfl) (rt rfl) ⟨a1, c1, a2, c2, rfl, hL1.ext hE5, hL2, fun ad e => by have := hf1 ad e; omega, fun ad e => by have := hf2 ad e; omega, (hE.drew.trans hE4).trans hE5⟩

theorem gcdNat_small {la lb : List Nat} {a b : Option Addr} {c d : Nat} {w : World} (ha : Limbs w a c la) (hb : Limbs w b d lb) (h2 : la.length ≤ 2) (h3 : lb.length ≤ 2) :
    CallsR Try.prog 78 #[.slice a la.length c, .slice b lb.length d] w (RetN w (digs (Nat.gcd (natOf la) (natOf lb)))) := by
  have h64a : natOf la < 18446744073709551616 := by
    have := natOf_lt ha.lim
    have := pow_mono (a := la.length) (b := 2) h2
    omega
  have h64b : natOf lb < 18446744073709551616 := by
    have := natOf_lt hb.lim
    have := pow_mono (a := lb.length) (b := 2) h3
    omega
  refine callsR_of (args := [_, _]) Try.func78 rfl rfl ?_
  repeat' (first | (refine k_pure rfl ?_) | (refine then_normal ?_) | (refine cw_seq ?_) | (refine cw_region rfl ?_) | (refine rr_nil ?_) | (refine k_len rfl ?_) | (refine g_run rfl rfl ?_) | (refine g_skip rfl rfl ?_) | (refine g_dec_f rfl rfl (fun hc => ?_) (fun hc => ?_)) | (refine g_dec_t rfl rfl (fun hc => ?_) (fun hc => ?_)) | (refine g_ndec_f rfl rfl (fun hc => ?_) (fun hc => ?_)) | (refine g_ndec_t rfl rfl (fun hc => ?_) (fun hc => ?_)) | (refine g_split rfl rfl (fun hc => ?_) (fun hc => ?_)) | (refine k_addI rfl rfl (by omega) (by omega) ?_) | (refine k_subI rfl rfl (by omega) (by omega) ?_) | (refine k_fieldAddr rfl ?_) | (refine k_eqlB rfl rfl ?_) | (refine k_neqB rfl rfl ?_) | (refine cw_cond_true rfl ?_) | (refine cw_cond_false rfl ?_) | (refine cw_cond_dec rfl (fun hc => ?_) (fun hc => ?_)) | (refine cw_cond_ndec rfl (fun hc => ?_) (fun hc => ?_)) | (refine cw_cond rfl (fun hc => ?_) (fun hc => ?_)) | (refine cw_block ?_) | (refine cw_exit ?_) | (refine then_exit ?_) | (refine in_exit ?_) | (refine in_exit_ne rfl ?_) | (refine in_normal ?_) | (refine cw_ret ?_) | (refine then_ret ?_) | (refine in_ret ?_) | (refine cw_skip ?_))
  refine cw_loop (ι := Unit) [0, 1, 4, 5, 6, 9, 10, 11, 12, 13, 14, 15, 16, 17, 18, 19, 20, 21, 22, 23, 24, 25, 26, 27, 28, 29] (fun _ => [(0, .slice a la.length c), (1, .slice b lb.length d)]) (fun _ w' => w' = w) (fun _ => 0) () ⟨rfl, rfl, trivial⟩ rfl ?_
  rintro _ ξ w rfl
  repeat' (first | (refine k_pure rfl ?_) | (refine then_normal ?_) | (refine cw_seq ?_) | (refine cw_region rfl ?_) | (refine rr_nil ?_) | (refine k_len rfl ?_) | (refine g_run rfl rfl ?_) | (refine g_skip rfl rfl ?_) | (refine g_dec_f rfl rfl (fun hc => ?_) (fun hc => ?_)) | (refine g_dec_t rfl rfl (fun hc => ?_) (fun hc => ?_)) | (refine g_ndec_f rfl rfl (fun hc => ?_) (fun hc => ?_)) | (refine g_ndec_t rfl rfl (fun hc => ?_) (fun hc => ?_)) | (refine g_split rfl rfl (fun hc => ?_) (fun hc => ?_)) | (refine k_addI rfl rfl (by omega) (by omega) ?_) | (refine k_subI rfl rfl (by omega) (by omega) ?_) | (refine k_fieldAddr rfl ?_) | (refine k_eqlB rfl rfl ?_) | (refine k_neqB rfl rfl ?_) | (refine cw_cond_true rfl ?_) | (refine cw_cond_false rfl ?_) | (refine cw_cond_dec rfl (fun hc => ?_) (fun hc => ?_)) | (refine cw_cond_ndec rfl (fun hc => ?_) (fun hc => ?_)) | (refine cw_cond rfl (fun hc => ?_) (fun hc => ?_)) | (refine cw_block ?_) | (refine cw_exit ?_) | (refine then_exit ?_) | (refine in_exit ?_) | (refine in_exit_ne rfl ?_) | (refine in_normal ?_) | (refine cw_ret ?_) | (refine then_ret ?_) | (refine in_ret ?_) | (refine cw_skip ?_))
  all_goals try (exfalso; omega)
  refine k_call (word_spec ha h2) rfl ?_
  rintro v w2 ⟨rfl, hE2⟩
  refine ⟨fun _ _ => trivial, ?_⟩
  repeat' (first | (refine k_pure rfl ?_) | (refine then_normal ?_) | (refine cw_seq ?_) | (refine cw_region rfl ?_) | (refine rr_nil ?_) | (refine k_len rfl ?_) | (refine g_run rfl rfl ?_) | (refine g_skip rfl rfl ?_) | (refine g_dec_f rfl rfl (fun hc => ?_) (fun hc => ?_)) | (refine g_dec_t rfl rfl (fun hc => ?_) (fun hc => ?_)) | (refine g_ndec_f rfl rfl (fun hc => ?_) (fun hc => ?_)) | (refine g_ndec_t rfl rfl (fun hc => ?_) (fun hc => ?_)) | (refine g_split rfl rfl (fun hc => ?_) (fun hc => ?_)) | (refine k_addI rfl rfl (by omega) (by omega) ?_) | (refine k_subI rfl rfl (by omega) (by omega) ?_) | (refine k_fieldAddr rfl ?_) | (refine k_eqlB rfl rfl ?_) | (refine k_neqB rfl rfl ?_) | (refine cw_cond_true rfl ?_) | (refine cw_cond_false rfl ?_) | (refine cw_cond_dec rfl (fun hc => ?_) (fun hc => ?_)) | (refine cw_cond_ndec rfl (fun hc => ?_) (fun hc => ?_)) | (refine cw_cond rfl (fun hc => ?_) (fun hc => ?_)) | (refine cw_block ?_) | (refine cw_exit ?_) | (refine then_exit ?_) | (refine in_exit ?_) | (refine in_exit_ne rfl ?_) | (refine in_normal ?_) | (refine cw_ret ?_) | (refine then_ret ?_) | (refine in_ret ?_) | (refine cw_skip ?_))
  refine k_call (word_spec (hb.ext hE2) h3) rfl ?_
  rintro v w3 ⟨rfl, hE3⟩
  refine ⟨fun _ _ => trivial, ?_⟩
  repeat' (first | (refine k_pure rfl ?_) | (refine then_normal ?_) | (refine cw_seq ?_) | (refine cw_region rfl ?_) | (refine rr_nil ?_) | (refine k_len rfl ?_) | (refine g_run rfl rfl ?_) | (refine g_skip rfl rfl ?_) | (refine g_dec_f rfl rfl (fun hc => ?_) (fun hc => ?_)) | (refine g_dec_t rfl rfl (fun hc => ?_) (fun hc => ?_)) | (refine g_ndec_f rfl rfl (fun hc => ?_) (fun hc => ?_)) | (refine g_ndec_t rfl rfl (fun hc => ?_) (fun hc => ?_)) | (refine g_split rfl rfl (fun hc => ?_) (fun hc => ?_)) | (refine k_addI rfl rfl (by omega) (by omega) ?_) | (refine k_subI rfl rfl (by omega) (by omega) ?_) | (refine k_fieldAddr rfl ?_) | (refine k_eqlB rfl rfl ?_) | (refine k_neqB rfl rfl ?_) | (refine cw_cond_true rfl ?_) | (refine cw_cond_false rfl ?_) | (refine cw_cond_dec rfl (fun hc => ?_) (fun hc => ?_)) | (refine cw_cond_ndec rfl (fun hc => ?_) (fun hc => ?_)) | (refine cw_cond rfl (fun hc => ?_) (fun hc => ?_)) | (refine cw_block ?_) | (refine cw_exit ?_) | (refine then_exit ?_) | (refine in_exit ?_) | (refine in_exit_ne rfl ?_) | (refine in_normal ?_) | (refine cw_ret ?_) | (refine then_ret ?_) | (refine in_ret ?_) | (refine cw_skip ?_))
  have hE := hE2.trans hE3
  refine cw_loop (ι := Nat × Nat) [7, 8, 34, 35, 36, 37, 38, 39] (fun s => [(7, .int .u64 ((s.1 : Nat) : Int)), (8, .int .u64 ((s.2 : Nat) : Int))]) (fun s w' => Ex w w' ∧ s.1 < 18446744073709551616 ∧ s.2 < 18446744073709551616 ∧ Nat.gcd s.1 s.2 = Nat.gcd (natOf la) (natOf lb)) (fun s => s.2)
    (natOf la, natOf lb) ⟨rfl, rfl, trivial⟩ ⟨hE, h64a, h64b, rfl⟩ ?_
  rintro ⟨x, y⟩ ξ2 w4 ⟨hE4, hx, hy, hg⟩
  simp only at hx hy hg
  show CW _ _ _ _ (over [(7, .int .u64 (x : Int)), (8, .int .u64 (y : Int))] _) w4
  repeat' (first | (refine k_pure rfl ?_) | (refine then_normal ?_) | (refine cw_seq ?_) | (refine cw_region rfl ?_) | (refine rr_nil ?_) | (refine k_len rfl ?_) | (refine g_run rfl rfl ?_) | (refine g_skip rfl rfl ?_) | (refine g_dec_f rfl rfl (fun hc => ?_) (fun hc => ?_)) | (refine g_dec_t rfl rfl (fun hc => ?_) (fun hc => ?_)) | (refine g_ndec_f rfl rfl (fun hc => ?_) (fun hc => ?_)) | (refine g_ndec_t rfl rfl (fun hc => ?_) (fun hc => ?_)) | (refine g_split rfl rfl (fun hc => ?_) (fun hc => ?_)) | (refine k_addI rfl rfl (by omega) (by omega) ?_) | (refine k_subI rfl rfl (by omega) (by omega) ?_) | (refine k_fieldAddr rfl ?_) | (refine k_eqlB rfl rfl ?_) | (refine k_neqB rfl rfl ?_) | (refine cw_cond_true rfl ?_) | (refine cw_cond_false rfl ?_) | (refine cw_cond_dec rfl (fun hc => ?_) (fun hc => ?_)) | (refine cw_cond_ndec rfl (fun hc => ?_) (fun hc => ?_)) | (refine cw_cond rfl (fun hc => ?_) (fun hc => ?_)) | (refine cw_block ?_) | (refine cw_exit ?_) | (refine then_exit ?_) | (refine in_exit ?_) | (refine in_exit_ne rfl ?_) | (refine in_normal ?_) | (refine cw_ret ?_) | (refine then_ret ?_) | (refine in_ret ?_) | (refine cw_skip ?_))
  · refine cw_draw (late := []) (plan := [(0, none), (1, none), (2, none), (3, none), (4, none), (5, none)]) (fun _ => True) mixed (by kernel_rfl) trivial ?_
    repeat' (first | (refine k_rem rfl rfl (by omega) (by omega) ?_) | (refine k_pure rfl ?_) | (refine then_normal ?_) | (refine cw_seq ?_) | (refine cw_region rfl ?_) | (refine rr_nil ?_) | (refine k_len rfl ?_) | (refine g_run rfl rfl ?_) | (refine g_skip rfl rfl ?_) | (refine g_dec_f rfl rfl (fun hc => ?_) (fun hc => ?_)) | (refine g_dec_t rfl rfl (fun hc => ?_) (fun hc => ?_)) | (refine g_ndec_f rfl rfl (fun hc => ?_) (fun hc => ?_)) | (refine g_ndec_t rfl rfl (fun hc => ?_) (fun hc => ?_)) | (refine g_split rfl rfl (fun hc => ?_) (fun hc => ?_)) | (refine k_addI rfl rfl (by omega) (by omega) ?_) | (refine k_subI rfl rfl (by omega) (by omega) ?_) | (refine k_fieldAddr rfl ?_) | (refine k_eqlB rfl rfl ?_) | (refine k_neqB rfl rfl ?_) | (refine cw_cond_true rfl ?_) | (refine cw_cond_false rfl ?_) | (refine cw_cond_dec rfl (fun hc => ?_) (fun hc => ?_)) | (refine cw_cond_ndec rfl (fun hc => ?_) (fun hc => ?_)) | (refine cw_cond rfl (fun hc => ?_) (fun hc => ?_)) | (refine cw_block ?_) | (refine cw_exit ?_) | (refine then_exit ?_) | (refine in_exit ?_) | (refine in_exit_ne rfl ?_) | (refine in_normal ?_) | (refine cw_ret ?_) | (refine then_ret ?_) | (refine in_ret ?_) | (refine cw_skip ?_))
    have hm := Nat.mod_lt x (show 0 < y by omega)
    refine ⟨⟨(y, x % y), ⟨hE4.drew, hy, by simp only; omega, ?_⟩, by simp only; omega, rfl, rfl, trivial⟩, (by (repeat (first | exact agree_mask _ _ _ | refine agree_upd rfl ?_ | refine agree_updO rfl ?_ | refine agree_overIn rfl ?_ | refine agree_maskIn rfl ?_)))⟩
    simp only
    rw [← hg, Nat.gcd_comm x y, Nat.gcd_rec y x, Nat.gcd_comm]
  · obtain rfl : y = 0 := by omega
    rw [Nat.gcd_zero_right] at hg
    subst hg
    refine k_call (fromWord_spec hx _) rfl ?_
    rintro v w5 ⟨a5, c5, rfl, hL5, hf5, hE5⟩
    refine ⟨fun _ _ => trivial, ?_⟩
    repeat' (first | (refine k_pure rfl ?_) | (refine then_normal ?_) | (refine cw_seq ?_) | (refine cw_region rfl ?_) | (refine rr_nil ?_) | (refine k_len rfl ?_) | (refine g_run rfl rfl ?_) | (refine g_skip rfl rfl ?_) | (refine g_dec_f rfl rfl (fun hc => ?_) (fun hc => ?_)) | (refine g_dec_t rfl rfl (fun hc => ?_) (fun hc => ?_)) | (refine g_ndec_f rfl rfl (fun hc => ?_) (fun hc => ?_)) | (refine g_ndec_t rfl rfl (fun hc => ?_) (fun hc => ?_)) | (refine g_split rfl rfl (fun hc => ?_) (fun hc => ?_)) | (refine k_addI rfl rfl (by omega) (by omega) ?_) | (refine k_subI rfl rfl (by omega) (by omega) ?_) | (refine k_fieldAddr rfl ?_) | (refine k_eqlB rfl rfl ?_) | (refine k_neqB rfl rfl ?_) | (refine cw_cond_true rfl ?_) | (refine cw_cond_false rfl ?_) | (refine cw_cond_dec rfl (fun hc => ?_) (fun hc => ?_)) | (refine cw_cond_ndec rfl (fun hc => ?_) (fun hc => ?_)) | (refine cw_cond rfl (fun hc => ?_) (fun hc => ?_)) | (refine cw_block ?_) | (refine cw_exit ?_) | (refine then_exit ?_) | (refine in_exit ?_) | (refine in_exit_ne rfl ?_) | (refine in_normal ?_) | (refine cw_ret ?_) | (refine then_ret ?_) | (refine in_ret ?_) | (refine cw_skip ?_))
    have s1 := hE4.size
    exact ret1 rfl (rt rfl) ⟨a5, c5, rfl, hL5, fun ad e => by have := hf5 ad e; omega, hE4.trans hE5⟩

theorem mulNat_small {la lb : List Nat} {a b : Option Addr} {c d : Nat} {w : World} (ha : Limbs w a c la) (hb : Limbs w b d lb) (h2 : la.length ≤ 1) (h3 : lb.length ≤ 1) :
    CallsR Try.prog 79 #[.slice a la.length c, .slice b lb.length d] w (RetN w (digs (natOf la * natOf lb))) := by
  have h64a : natOf la < 4294967296 := by
    have := natOf_lt ha.lim
    have := pow_mono (a := la.length) (b := 1) h2
    omega
  have h64b : natOf lb < 4294967296 := by
    have := natOf_lt hb.lim
    have := pow_mono (a := lb.length) (b := 1) h3
    omega
  have hm : natOf la * natOf lb < 18446744073709551616 := by
    have : natOf la * natOf lb ≤ 4294967295 * 4294967295 := Nat.mul_le_mul (by omega) (by omega)
    omega
  refine callsR_of (args := [_, _]) Try.func79 rfl rfl ?_
  repeat' (first | (refine k_pure rfl ?_) | (refine then_normal ?_) | (refine cw_seq ?_) | (refine cw_region rfl ?_) | (refine rr_nil ?_) | (refine k_len rfl ?_) | (refine g_run rfl rfl ?_) | (refine g_skip rfl rfl ?_) | (refine g_dec_f rfl rfl (fun hc => ?_) (fun hc => ?_)) | (refine g_dec_t rfl rfl (fun hc => ?_) (fun hc => ?_)) | (refine g_ndec_f rfl rfl (fun hc => ?_) (fun hc => ?_)) | (refine g_ndec_t rfl rfl (fun hc => ?_) (fun hc => ?_)) | (refine g_split rfl rfl (fun hc => ?_) (fun hc => ?_)) | (refine k_addI rfl rfl (by omega) (by omega) ?_) | (refine k_subI rfl rfl (by omega) (by omega) ?_) | (refine k_fieldAddr rfl ?_) | (refine k_eqlB rfl rfl ?_) | (refine k_neqB rfl rfl ?_) | (refine cw_cond_true rfl ?_) | (refine cw_cond_false rfl ?_) | (refine cw_cond_dec rfl (fun hc => ?_) (fun hc => ?_)) | (refine cw_cond_ndec rfl (fun hc => ?_) (fun hc => ?_)) | (refine cw_cond rfl (fun hc => ?_) (fun hc => ?_)) | (refine cw_block ?_) | (refine cw_exit ?_) | (refine then_exit ?_) | (refine in_exit ?_) | (refine in_exit_ne rfl ?_) | (refine in_normal ?_) | (refine cw_ret ?_) | (refine then_ret ?_) | (refine in_ret ?_) | (refine cw_skip ?_))
  all_goals try (exfalso; omega)
  refine k_call (word_spec ha (by omega)) rfl ?_
  rintro v w2 ⟨rfl, hE2⟩
  refine ⟨fun _ _ => trivial, ?_⟩
  repeat' (first | (refine k_pure rfl ?_) | (refine then_normal ?_) | (refine cw_seq ?_) | (refine cw_region rfl ?_) | (refine rr_nil ?_) | (refine k_len rfl ?_) | (refine g_run rfl rfl ?_) | (refine g_skip rfl rfl ?_) | (refine g_dec_f rfl rfl (fun hc => ?_) (fun hc => ?_)) | (refine g_dec_t rfl rfl (fun hc => ?_) (fun hc => ?_)) | (refine g_ndec_f rfl rfl (fun hc => ?_) (fun hc => ?_)) | (refine g_ndec_t rfl rfl (fun hc => ?_) (fun hc => ?_)) | (refine g_split rfl rfl (fun hc => ?_) (fun hc => ?_)) | (refine k_addI rfl rfl (by omega) (by omega) ?_) | (refine k_subI rfl rfl (by omega) (by omega) ?_) | (refine k_fieldAddr rfl ?_) | (refine k_eqlB rfl rfl ?_) | (refine k_neqB rfl rfl ?_) | (refine cw_cond_true rfl ?_) | (refine cw_cond_false rfl ?_) | (refine cw_cond_dec rfl (fun hc => ?_) (fun hc => ?_)) | (refine cw_cond_ndec rfl (fun hc => ?_) (fun hc => ?_)) | (refine cw_cond rfl (fun hc => ?_) (fun hc => ?_)) | (refine cw_block ?_) | (refine cw_exit ?_) | (refine then_exit ?_) | (refine in_exit ?_) | (refine in_exit_ne rfl ?_) | (refine in_normal ?_) | (refine cw_ret ?_) | (refine then_ret ?_) | (refine in_ret ?_) | (refine cw_skip ?_))
  refine k_call (word_spec (hb.ext hE2) (by omega)) rfl ?_
  rintro v w3 ⟨rfl, hE3⟩
  refine ⟨fun _ _ => trivial, ?_⟩
  refine k_mul rfl rfl ?_
  rw [← Int.natCast_mul, wrap_u64 (by omega) (by omega)]
  refine k_call (fromWord_spec hm _) rfl ?_
  rintro v w5 ⟨a5, c5, rfl, hL5, hf5, hE5⟩
  refine ⟨fun _ _ => trivial, ?_⟩
  repeat' (first | (refine k_pure rfl ?_) | (refine then_normal ?_) | (refine cw_seq ?_) | (refine cw_region rfl ?_) | (refine rr_nil ?_) | (refine k_len rfl ?_) | (refine g_run rfl rfl ?_) | (refine g_skip rfl rfl ?_) | (refine g_dec_f rfl rfl (fun hc => ?_) (fun hc => ?_)) | (refine g_dec_t rfl rfl (fun hc => ?_) (fun hc => ?_)) | (refine g_ndec_f rfl rfl (fun hc => ?_) (fun hc => ?_)) | (refine g_ndec_t rfl rfl (fun hc => ?_) (fun hc => ?_)) | (refine g_split rfl rfl (fun hc => ?_) (fun hc => ?_)) | (refine k_addI rfl rfl (by omega) (by omega) ?_) | (refine k_subI rfl rfl (by omega) (by omega) ?_) | (refine k_fieldAddr rfl ?_) | (refine k_eqlB rfl rfl ?_) | (refine k_neqB rfl rfl ?_) | (refine cw_cond_true rfl ?_) | (refine cw_cond_false rfl ?_) | (refine cw_cond_dec rfl (fun hc => ?_) (fun hc => ?_)) | (refine cw_cond_ndec rfl (fun hc => ?_) (fun hc => ?_)) | (refine cw_cond rfl (fun hc => ?_) (fun hc => ?_)) | (refine cw_block ?_) | (refine cw_exit ?_) | (refine then_exit ?_) | (refine in_exit ?_) | (refine in_exit_ne rfl ?_) | (refine in_normal ?_) | (refine cw_ret ?_) | (refine then_ret ?_) | (refine in_ret ?_) | (refine cw_skip ?_))
  have hE := hE2.trans hE3
  have s1 := hE.size
  exact ret1 rfl (rt rfl) ⟨a5, c5, rfl, hL5, fun ad e => by have := hf5 ad e; omega, hE.trans hE5⟩
end Go.Proofs.Ytmedmmginnfjgaa
