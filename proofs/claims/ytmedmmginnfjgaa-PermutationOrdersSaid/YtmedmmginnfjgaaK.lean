import Derived.Test.YtmedmmginnfjgaaTab
import Derived.Test.YtmedmmginnfjgaaLimb
namespace Go.Proofs.Ytmedmmginnfjgaa
open Go.W Go.LM

abbrev limbsL (ls : List Nat) : List Value := ls.map fun (n : Nat) => Value.int .u32 n
/-- a slice of limbs that can be read -/
structure Limbs (w : World) (a : Option Addr) (c : Nat) (ls : List Nat) : Prop where
  sl : Sl w a (limbsL ls)
  cap : ls.length ≤ c
  lim : Lim ls
  len : ls.length ≤ 17592186044416
theorem Limbs.ext {w w' : World} {a : Option Addr} {c : Nat} {ls : List Nat} (h : Limbs w a c ls) (e : Ex w w') : Limbs w' a c ls := ⟨h.sl.ext e, h.cap, h.lim, h.len⟩
theorem Limbs.chg {w w' : World} {a : Option Addr} {c g : Nat} {ls : List Nat} (h : Limbs w a c ls) (e : Chg g w w') (hne : ∀ ad, a = some ad → ad.block ≠ g) : Limbs w' a c ls := ⟨h.sl.chg e hne, h.cap, h.lim, h.len⟩
theorem Limbs.drew {w : World} {a : Option Addr} {c : Nat} {ls : List Nat} (h : Limbs w a c ls) : Limbs w.drew a c ls := ⟨h.sl.drew, h.cap, h.lim, h.len⟩
theorem Limbs.take {w : World} {a : Option Addr} {c : Nat} {ls : List Nat} (h : Limbs w a c ls) (k : Nat) : Limbs w a c (ls.take k) :=
  ⟨by have := h.sl.take k; rwa [← List.map_take] at this, by have := h.cap; simp; omega, h.lim.take k, by have := h.len; simp; omega⟩
theorem Limbs.trim {w : World} {a : Option Addr} {c : Nat} {ls : List Nat} (h : Limbs w a c ls) : Limbs w a c (trimL ls) := by rw [trimL_take]; exact h.take _
theorem Limbs.nil (w : World) (a : Option Addr) (c : Nat) : Limbs w a c [] := ⟨Sl.nil _ _, by simp, by intro d hd; simp at hd, by simp⟩

theorem take_pred {ls : List Nat} {k : Nat} (hk : k ≤ ls.length) (h0 : 0 < k) : ls.take k = ls.take (k - 1) ++ [ls.getD (k - 1) 0] := by
  obtain ⟨j, rfl⟩ : ∃ j, k = j + 1 := ⟨k - 1, by omega⟩
  rw [List.take_succ_eq_append_getElem (by omega)]
  simp [List.getD_eq_getElem?_getD, show j < ls.length by omega]

theorem trim_spec {ls : List Nat} {a : Option Addr} {c : Nat} {w : World} (h : Limbs w a c ls) :
    CallsR Try.prog 74 #[.slice a ls.length c] w fun v w' => v = .slice a (trimL ls).length c ∧ Ex w w' := by
  have hlen := h.len
  have hcap := h.cap
  refine callsR_of (args := [_]) Try.func74 rfl rfl ?_
  repeat' (first | (refine k_pure rfl ?_) | (refine then_normal ?_) | (refine cw_seq ?_) | (refine cw_region rfl ?_) | (refine rr_nil ?_) | (refine k_len rfl ?_) | (refine g_run rfl rfl ?_) | (refine g_skip rfl rfl ?_) | (refine g_dec_f rfl rfl (fun hc => ?_) (fun hc => ?_)) | (refine g_dec_t rfl rfl (fun hc => ?_) (fun hc => ?_)) | (refine g_ndec_f rfl rfl (fun hc => ?_) (fun hc => ?_)) | (refine g_ndec_t rfl rfl (fun hc => ?_) (fun hc => ?_)) | (refine g_split rfl rfl (fun hc => ?_) (fun hc => ?_)) | (refine k_addI rfl rfl (by omega) (by omega) ?_) | (refine k_subI rfl rfl (by omega) (by omega) ?_) | (refine k_fieldAddr rfl ?_) | (refine k_eqlB rfl rfl ?_) | (refine k_neqB rfl rfl ?_) | (refine cw_cond_true rfl ?_) | (refine cw_cond_false rfl ?_) | (refine cw_cond_dec rfl (fun hc => ?_) (fun hc => ?_)) | (refine cw_cond_ndec rfl (fun hc => ?_) (fun hc => ?_)) | (refine cw_cond rfl (fun hc => ?_) (fun hc => ?_)) | (refine cw_block ?_) | (refine cw_exit ?_) | (refine then_exit ?_) | (refine in_exit ?_) | (refine in_exit_ne rfl ?_) | (refine in_normal ?_) | (refine cw_ret ?_) | (refine then_ret ?_) | (refine in_ret ?_) | (refine cw_skip ?_))
  refine cw_loop (ι := Nat) [0, 3, 4, 5, 6, 7, 8, 9, 10, 11, 12, 13, 14, 15, 16, 17, 18, 19] (fun k => [(0, .slice a k c)]) (fun k w' => k ≤ ls.length ∧ w' = w ∧ trimL (ls.take k) = trimL ls) (fun k => k) ls.length ⟨rfl, trivial⟩ ⟨Nat.le_refl _, rfl, by simp⟩ ?_
  rintro k ξ w2 ⟨hk, rfl, hT⟩
  repeat' (first | (refine k_indexN (j := k - 1) rfl (by show Value.int .i64 ((k : Int) - 1) = _; congr 1; omega) (h.sl.plain (by simp; omega)) (by omega) ?_) | (refine k_loadN rfl h.sl (by omega) ?_) | (refine k_pure rfl ?_) | (refine then_normal ?_) | (refine cw_seq ?_) | (refine cw_region rfl ?_) | (refine rr_nil ?_) | (refine k_len rfl ?_) | (refine g_run rfl rfl ?_) | (refine g_skip rfl rfl ?_) | (refine g_dec_f rfl rfl (fun hc => ?_) (fun hc => ?_)) | (refine g_dec_t rfl rfl (fun hc => ?_) (fun hc => ?_)) | (refine g_ndec_f rfl rfl (fun hc => ?_) (fun hc => ?_)) | (refine g_ndec_t rfl rfl (fun hc => ?_) (fun hc => ?_)) | (refine g_split rfl rfl (fun hc => ?_) (fun hc => ?_)) | (refine k_addI rfl rfl (by omega) (by omega) ?_) | (refine k_subI rfl rfl (by omega) (by omega) ?_) | (refine k_fieldAddr rfl ?_) | (refine k_eqlB rfl rfl ?_) | (refine k_neqB rfl rfl ?_) | (refine cw_cond_true rfl ?_) | (refine cw_cond_false rfl ?_) | (refine cw_cond_dec rfl (fun hc => ?_) (fun hc => ?_)) | (refine cw_cond_ndec rfl (fun hc => ?_) (fun hc => ?_)) | (refine cw_cond rfl (fun hc => ?_) (fun hc => ?_)) | (refine cw_block ?_) | (refine cw_exit ?_) | (refine then_exit ?_) | (refine in_exit ?_) | (refine in_exit_ne rfl ?_) | (refine in_normal ?_) | (refine cw_ret ?_) | (refine then_ret ?_) | (refine in_ret ?_) | (refine cw_skip ?_))
  · refine k_sliceTo rfl rfl (by omega) (by omega) ?_
    rw [show ((k : Int) - 1).toNat = k - 1 by omega]
    repeat' (first | (refine k_pure rfl ?_) | (refine then_normal ?_) | (refine cw_seq ?_) | (refine cw_region rfl ?_) | (refine rr_nil ?_) | (refine k_len rfl ?_) | (refine g_run rfl rfl ?_) | (refine g_skip rfl rfl ?_) | (refine g_dec_f rfl rfl (fun hc => ?_) (fun hc => ?_)) | (refine g_dec_t rfl rfl (fun hc => ?_) (fun hc => ?_)) | (refine g_ndec_f rfl rfl (fun hc => ?_) (fun hc => ?_)) | (refine g_ndec_t rfl rfl (fun hc => ?_) (fun hc => ?_)) | (refine g_split rfl rfl (fun hc => ?_) (fun hc => ?_)) | (refine k_addI rfl rfl (by omega) (by omega) ?_) | (refine k_subI rfl rfl (by omega) (by omega) ?_) | (refine k_fieldAddr rfl ?_) | (refine k_eqlB rfl rfl ?_) | (refine k_neqB rfl rfl ?_) | (refine cw_cond_true rfl ?_) | (refine cw_cond_false rfl ?_) | (refine cw_cond_dec rfl (fun hc => ?_) (fun hc => ?_)) | (refine cw_cond_ndec rfl (fun hc => ?_) (fun hc => ?_)) | (refine cw_cond rfl (fun hc => ?_) (fun hc => ?_)) | (refine cw_block ?_) | (refine cw_exit ?_) | (refine then_exit ?_) | (refine in_exit ?_) | (refine in_exit_ne rfl ?_) | (refine in_normal ?_) | (refine cw_ret ?_) | (refine then_ret ?_) | (refine in_ret ?_) | (refine cw_skip ?_))
    refine ⟨⟨k - 1, ⟨by omega, rfl, ?_⟩, by omega, rfl, trivial⟩, (by (repeat (first | exact agree_mask _ _ _ | refine agree_upd rfl ?_ | refine agree_updO rfl ?_ | refine agree_overIn rfl ?_ | refine agree_maskIn rfl ?_)))⟩
    rw [← hT, take_pred hk (by omega), show ls.getD (k - 1) 0 = 0 by omega, trimL_snoc_zero]
  · refine ret1 rfl (rt rfl) ⟨?_, Ex.refl _⟩
    rw [← hT, take_pred hk (by omega), trimL_snoc (by omega), ← take_pred hk (by omega)]
    simp only [List.length_take, Nat.min_eq_left hk]; rfl
  · obtain rfl : k = 0 := by omega
    refine ret1 rfl (rt rfl) ⟨?_, Ex.refl _⟩
    rw [← hT]; rfl

/-- new limbs -/
def RetN (w : World) (ls : List Nat) (v : Value) (w' : World) : Prop := ∃ a c, v = .slice a ls.length c ∧ Limbs w' a c ls ∧ (∀ ad, a = some ad → w.heap.size ≤ ad.block) ∧ Ex w w'

theorem fromWord_spec {n : Nat} (hn : n < 18446744073709551616) (w : World) : CallsR Try.prog 73 #[.int .u64 (n : Int)] w (RetN w (digs n)) := by
  refine callsR_of (args := [_]) Try.func73 rfl rfl ?_
  repeat' (first | (refine k_pure rfl ?_) | (refine then_normal ?_) | (refine cw_seq ?_) | (refine cw_region rfl ?_) | (refine rr_nil ?_) | (refine k_len rfl ?_) | (refine g_run rfl rfl ?_) | (refine g_skip rfl rfl ?_) | (refine g_dec_f rfl rfl (fun hc => ?_) (fun hc => ?_)) | (refine g_dec_t rfl rfl (fun hc => ?_) (fun hc => ?_)) | (refine g_ndec_f rfl rfl (fun hc => ?_) (fun hc => ?_)) | (refine g_ndec_t rfl rfl (fun hc => ?_) (fun hc => ?_)) | (refine g_split rfl rfl (fun hc => ?_) (fun hc => ?_)) | (refine k_addI rfl rfl (by omega) (by omega) ?_) | (refine k_subI rfl rfl (by omega) (by omega) ?_) | (refine k_fieldAddr rfl ?_) | (refine k_eqlB rfl rfl ?_) | (refine k_neqB rfl rfl ?_) | (refine cw_cond_true rfl ?_) | (refine cw_cond_false rfl ?_) | (refine cw_cond_dec rfl (fun hc => ?_) (fun hc => ?_)) | (refine cw_cond_ndec rfl (fun hc => ?_) (fun hc => ?_)) | (refine cw_cond rfl (fun hc => ?_) (fun hc => ?_)) | (refine cw_block ?_) | (refine cw_exit ?_) | (refine then_exit ?_) | (refine in_exit ?_) | (refine in_exit_ne rfl ?_) | (refine in_normal ?_) | (refine cw_ret ?_) | (refine then_ret ?_) | (refine in_ret ?_) | (refine cw_skip ?_))
  refine k_conv rfl ?_
  rw [show IntKind.u32.wrap ((n : Nat) : Int) = ((n % 4294967296 : Nat) : Int) from (wrap_uns rfl).trans (by simp [IntKind.bits])]
  repeat' (first | (refine k_shrN (j := 32) rfl rfl (.inl rfl) ?_) | (refine k_pure rfl ?_) | (refine then_normal ?_) | (refine cw_seq ?_) | (refine cw_region rfl ?_) | (refine rr_nil ?_) | (refine k_len rfl ?_) | (refine g_run rfl rfl ?_) | (refine g_skip rfl rfl ?_) | (refine g_dec_f rfl rfl (fun hc => ?_) (fun hc => ?_)) | (refine g_dec_t rfl rfl (fun hc => ?_) (fun hc => ?_)) | (refine g_ndec_f rfl rfl (fun hc => ?_) (fun hc => ?_)) | (refine g_ndec_t rfl rfl (fun hc => ?_) (fun hc => ?_)) | (refine g_split rfl rfl (fun hc => ?_) (fun hc => ?_)) | (refine k_addI rfl rfl (by omega) (by omega) ?_) | (refine k_subI rfl rfl (by omega) (by omega) ?_) | (refine k_fieldAddr rfl ?_) | (refine k_eqlB rfl rfl ?_) | (refine k_neqB rfl rfl ?_) | (refine cw_cond_true rfl ?_) | (refine cw_cond_false rfl ?_) | (refine cw_cond_dec rfl (fun hc => ?_) (fun hc => ?_)) | (refine cw_cond_ndec rfl (fun hc => ?_) (fun hc => ?_)) | (refine cw_cond rfl (fun hc => ?_) (fun hc => ?_)) | (refine cw_block ?_) | (refine cw_exit ?_) | (refine then_exit ?_) | (refine in_exit ?_) | (refine in_exit_ne rfl ?_) | (refine in_normal ?_) | (refine cw_ret ?_) | (refine then_ret ?_) | (refine in_ret ?_) | (refine cw_skip ?_))
  rw [Nat.shiftRight_eq_div_pow]
  refine k_convI rfl (wrap_u32 (by omega) (by omega)) ?_
  refine k_lit2 rfl rfl rfl rfl (fun g w1 hn1 => ⟨fun _ _ => trivial, ?_⟩)
  have hL : Limbs w1 (some ⟨g, 0, none⟩) 2 [n % 4294967296, n / 2 ^ 32] := ⟨hn1.blk.sl, by simp, by intro d hd; simp at hd; omega, by simp⟩
  refine k_call (trim_spec hL) rfl ?_
  rintro v w2 ⟨rfl, hE2⟩
  refine ⟨fun _ _ => trivial, ?_⟩
  repeat' (first | (refine k_pure rfl ?_) | (refine then_normal ?_) | (refine cw_seq ?_) | (refine cw_region rfl ?_) | (refine rr_nil ?_) | (refine k_len rfl ?_) | (refine g_run rfl rfl ?_) | (refine g_skip rfl rfl ?_) | (refine g_dec_f rfl rfl (fun hc => ?_) (fun hc => ?_)) | (refine g_dec_t rfl rfl (fun hc => ?_) (fun hc => ?_)) | (refine g_ndec_f rfl rfl (fun hc => ?_) (fun hc => ?_)) | (refine g_ndec_t rfl rfl (fun hc => ?_) (fun hc => ?_)) | (refine g_split rfl rfl (fun hc => ?_) (fun hc => ?_)) | (refine k_addI rfl rfl (by omega) (by omega) ?_) | (refine k_subI rfl rfl (by omega) (by omega) ?_) | (refine k_fieldAddr rfl ?_) | (refine k_eqlB rfl rfl ?_) | (refine k_neqB rfl rfl ?_) | (refine cw_cond_true rfl ?_) | (refine cw_cond_false rfl ?_) | (refine cw_cond_dec rfl (fun hc => ?_) (fun hc => ?_)) | (refine cw_cond_ndec rfl (fun hc => ?_) (fun hc => ?_)) | (refine cw_cond rfl (fun hc => ?_) (fun hc => ?_)) | (refine cw_block ?_) | (refine cw_exit ?_) | (refine then_exit ?_) | (refine in_exit ?_) | (refine in_exit_ne rfl ?_) | (refine in_normal ?_) | (refine cw_ret ?_) | (refine then_ret ?_) | (refine in_ret ?_) | (refine cw_skip ?_))
  exact ret1 rfl (rt rfl) ⟨_, _, rfl, hL.trim.ext hE2, by intro ad e; cases e; exact hn1.lo, hn1.ex.trans hE2⟩

theorem word_spec {ls : List Nat} {a : Option Addr} {c : Nat} {w : World} (h : Limbs w a c ls) (h2 : ls.length ≤ 2) :
    CallsR Try.prog 89 #[.slice a ls.length c] w fun v w' => v = .int .u64 ((natOf ls : Nat) : Int) ∧ Ex w w' := by
  refine callsR_of (args := [_]) Try.func89 rfl rfl ?_
  repeat' (first | (refine k_pure rfl ?_) | (refine then_normal ?_) | (refine cw_seq ?_) | (refine cw_region rfl ?_) | (refine rr_nil ?_) | (refine k_len rfl ?_) | (refine g_run rfl rfl ?_) | (refine g_skip rfl rfl ?_) | (refine g_dec_f rfl rfl (fun hc => ?_) (fun hc => ?_)) | (refine g_dec_t rfl rfl (fun hc => ?_) (fun hc => ?_)) | (refine g_ndec_f rfl rfl (fun hc => ?_) (fun hc => ?_)) | (refine g_ndec_t rfl rfl (fun hc => ?_) (fun hc => ?_)) | (refine g_split rfl rfl (fun hc => ?_) (fun hc => ?_)) | (refine k_addI rfl rfl (by omega) (by omega) ?_) | (refine k_subI rfl rfl (by omega) (by omega) ?_) | (refine k_fieldAddr rfl ?_) | (refine k_eqlB rfl rfl ?_) | (refine k_neqB rfl rfl ?_) | (refine cw_cond_true rfl ?_) | (refine cw_cond_false rfl ?_) | (refine cw_cond_dec rfl (fun hc => ?_) (fun hc => ?_)) | (refine cw_cond_ndec rfl (fun hc => ?_) (fun hc => ?_)) | (refine cw_cond rfl (fun hc => ?_) (fun hc => ?_)) | (refine cw_block ?_) | (refine cw_exit ?_) | (refine then_exit ?_) | (refine in_exit ?_) | (refine in_exit_ne rfl ?_) | (refine in_normal ?_) | (refine cw_ret ?_) | (refine then_ret ?_) | (refine in_ret ?_) | (refine cw_skip ?_))
  refine cw_loop (ι := Nat) [3, 4, 5, 8, 9, 10, 11, 12, 13, 14, 15, 16, 17, 18, 19, 20] (fun k => [(8, .int .i64 (k : Int)), (3, .int .u64 ((natOf (ls.take k) : Nat) : Int))]) (fun k w' => k ≤ ls.length ∧ w' = w) (fun k => ls.length - k) 0 ⟨rfl, rfl, trivial⟩ ⟨by simp, rfl⟩ ?_
  rintro k ξ w2 ⟨hk, rfl⟩
  have hlt := natOf_lt (h.lim.take k)
  have hd := h.lim.getD k
  repeat' (first | (refine k_indexN rfl rfl (h.sl.plain (by simp; omega)) (by omega) ?_) | (refine k_loadN rfl h.sl (by omega) ?_) | (refine k_convI rfl (wrap_u64 (by omega) (by omega)) ?_) | (refine k_mulI rfl rfl (by omega) (by omega) ?_) | (refine k_pure rfl ?_) | (refine then_normal ?_) | (refine cw_seq ?_) | (refine cw_region rfl ?_) | (refine rr_nil ?_) | (refine k_len rfl ?_) | (refine g_run rfl rfl ?_) | (refine g_skip rfl rfl ?_) | (refine g_dec_f rfl rfl (fun hc => ?_) (fun hc => ?_)) | (refine g_dec_t rfl rfl (fun hc => ?_) (fun hc => ?_)) | (refine g_ndec_f rfl rfl (fun hc => ?_) (fun hc => ?_)) | (refine g_ndec_t rfl rfl (fun hc => ?_) (fun hc => ?_)) | (refine g_split rfl rfl (fun hc => ?_) (fun hc => ?_)) | (refine k_addI rfl rfl (by omega) (by omega) ?_) | (refine k_subI rfl rfl (by omega) (by omega) ?_) | (refine k_fieldAddr rfl ?_) | (refine k_eqlB rfl rfl ?_) | (refine k_neqB rfl rfl ?_) | (refine cw_cond_true rfl ?_) | (refine cw_cond_false rfl ?_) | (refine cw_cond_dec rfl (fun hc => ?_) (fun hc => ?_)) | (refine cw_cond_ndec rfl (fun hc => ?_) (fun hc => ?_)) | (refine cw_cond rfl (fun hc => ?_) (fun hc => ?_)) | (refine cw_block ?_) | (refine cw_exit ?_) | (refine then_exit ?_) | (refine in_exit ?_) | (refine in_exit_ne rfl ?_) | (refine in_normal ?_) | (refine cw_ret ?_) | (refine then_ret ?_) | (refine in_ret ?_) | (refine cw_skip ?_))
  · refine k_shlN (j := 32 * k) rfl rfl rfl (by simp only [IntKind.bits]; omega) ?_
    have hkk : k = 0 ∨ k = 1 := by omega
    have hsh : (ls.getD k 0 <<< (32 * k)) % 2 ^ IntKind.u64.bits = ls.getD k 0 <<< (32 * k) := Nat.mod_eq_of_lt (by
      rw [Nat.shiftLeft_eq]; rcases hkk with rfl | rfl <;> simp only [IntKind.bits] <;> omega)
    have hsh2 : ls.getD k 0 <<< (32 * k) < 18446744073709551616 := by rw [Nat.shiftLeft_eq]; rcases hkk with rfl | rfl <;> omega
    have hlt' : natOf (ls.take k) < 2 ^ (32 * k) := by
      simp only [List.length_take, Nat.min_eq_left hk] at hlt
      rcases hkk with rfl | rfl <;> simpa using hlt
    rw [hsh]
    refine k_orN rfl rfl rfl (by simp only [IntKind.bits]; rcases hkk with rfl | rfl <;> omega) hsh2 ?_
    repeat' (first | (refine k_pure rfl ?_) | (refine then_normal ?_) | (refine cw_seq ?_) | (refine cw_region rfl ?_) | (refine rr_nil ?_) | (refine k_len rfl ?_) | (refine g_run rfl rfl ?_) | (refine g_skip rfl rfl ?_) | (refine g_dec_f rfl rfl (fun hc => ?_) (fun hc => ?_)) | (refine g_dec_t rfl rfl (fun hc => ?_) (fun hc => ?_)) | (refine g_ndec_f rfl rfl (fun hc => ?_) (fun hc => ?_)) | (refine g_ndec_t rfl rfl (fun hc => ?_) (fun hc => ?_)) | (refine g_split rfl rfl (fun hc => ?_) (fun hc => ?_)) | (refine k_addI rfl rfl (by omega) (by omega) ?_) | (refine k_subI rfl rfl (by omega) (by omega) ?_) | (refine k_fieldAddr rfl ?_) | (refine k_eqlB rfl rfl ?_) | (refine k_neqB rfl rfl ?_) | (refine cw_cond_true rfl ?_) | (refine cw_cond_false rfl ?_) | (refine cw_cond_dec rfl (fun hc => ?_) (fun hc => ?_)) | (refine cw_cond_ndec rfl (fun hc => ?_) (fun hc => ?_)) | (refine cw_cond rfl (fun hc => ?_) (fun hc => ?_)) | (refine cw_block ?_) | (refine cw_exit ?_) | (refine then_exit ?_) | (refine in_exit ?_) | (refine in_exit_ne rfl ?_) | (refine in_normal ?_) | (refine cw_ret ?_) | (refine then_ret ?_) | (refine in_ret ?_) | (refine cw_skip ?_))
    refine ⟨⟨k + 1, ⟨by omega, rfl⟩, by omega, rfl, ?_, trivial⟩, (by (repeat (first | exact agree_mask _ _ _ | refine agree_upd rfl ?_ | refine agree_updO rfl ?_ | refine agree_overIn rfl ?_ | refine agree_maskIn rfl ?_)))⟩
    show Value.int .u64 _ = _
    congr 2
    have e := take_pred (ls := ls) (k := k + 1) (by omega) (by omega)
    rw [Nat.add_sub_cancel] at e
    rw [e, natOf_snoc, Nat.or_comm, ← Nat.shiftLeft_add_eq_or_of_lt hlt', Nat.shiftLeft_eq]
    simp only [List.length_take, Nat.min_eq_left hk]
    rcases hkk with rfl | rfl <;> omega
  · obtain rfl : k = ls.length := by omega
    refine ret1 rfl (rt rfl) ⟨?_, Ex.refl _⟩
    show Value.int .u64 _ = _
    rw [List.take_length]
end Go.Proofs.Ytmedmmginnfjgaa
