
import Derived.Test.YthhfjagnmhhapaaM01
import Derived.Test.YthhfjagnmhhapaaM02
import Derived.Test.YthhfjagnmhhapaaM03
import Derived.Test.YthhfjagnmhhapaaM04
import Derived.Test.YthhfjagnmhhapaaM05
import Derived.Test.YthhfjagnmhhapaaM06
import Derived.Test.YthhfjagnmhhapaaM07
import Derived.Test.YthhfjagnmhhapaaM09
import Derived.Test.YthhfjagnmhhapaaM13
import Derived.Test.YthhfjagnmhhapaaM17
import Derived.Test.YthhfjagnmhhapaaM18

namespace Go.Proofs.Ythhfjagnmhhapaa
open Go.W Go.PM
def permsB (n : Int) (l : List (List Int)) : Bool := l.all fun p => decide ((p.length : Int) = n) && decide (IsPerm p)
theorem permsB_iff {n : Nat} {l : List (List Int)} : permsB n l = true ↔ GensN n l := by
  unfold permsB GensN PermN
  rw [List.all_eq_true]
  constructor
  · intro h g hg
    have := h g hg
    simp only [Bool.and_eq_true, decide_eq_true_eq] at this
    exact ⟨this.2, by omega⟩
  · intro h g hg
    have := h g hg
    simp only [Bool.and_eq_true, decide_eq_true_eq]
    exact ⟨by omega, this.1⟩
def errS (n : Int) (gens : List (List Int)) : Int := if n < 1 ∨ 512 < n then 1 else if 64 < gens.length then 7 else if permsB n gens then 0 else 3
theorem take_all {l : List (List Int)} {f : List Int → Bool} {i : Nat} (hi : i < l.length) (h : (l.take i).all f = true) : (l.take (i + 1)).all f = f (l.getD i []) := by
  rw [take_succ_getD l [] hi, List.all_append, h]; simp
theorem perms_spec {n : Int} {l : List (List Int)} {a : Option Addr} {sds : List SD} {cap : Nat} {w : World} (hL : Lists w .i64 a sds l) (hl : l.length ≤ 1000000) :
    CallsR Try.prog 53 #[.int .i64 n, .slice a l.length cap] w fun v w' => v = .bool (permsB n l) ∧ Ex w w' := by
  refine callsR_of (args := [_, _]) Try.func53 rfl rfl ?_
  have hsl := hL.len
  repeat' (first | (refine k_pure rfl ?_) | (refine then_normal ?_) | (refine cw_seq ?_) | (refine cw_region rfl ?_) | (refine rr_nil ?_) | (refine k_len rfl ?_) | (refine g_run rfl rfl ?_) | (refine g_skip rfl rfl ?_) | (refine g_dec_f rfl rfl (fun hc => ?_) (fun hc => ?_)) | (refine g_dec_t rfl rfl (fun hc => ?_) (fun hc => ?_)) | (refine g_ndec_f rfl rfl (fun hc => ?_) (fun hc => ?_)) | (refine g_ndec_t rfl rfl (fun hc => ?_) (fun hc => ?_)) | (refine g_split rfl rfl (fun hc => ?_) (fun hc => ?_)) | (refine k_addI rfl rfl (by omega) (by omega) ?_) | (refine k_subI rfl rfl (by omega) (by omega) ?_) | (refine k_fieldAddr rfl ?_) | (refine k_eqlB rfl rfl ?_) | (refine k_neqB rfl rfl ?_) | (refine cw_cond_true rfl ?_) | (refine cw_cond_false rfl ?_) | (refine cw_cond_dec rfl (fun hc => ?_) (fun hc => ?_)) | (refine cw_cond_ndec rfl (fun hc => ?_) (fun hc => ?_)) | (refine cw_cond rfl (fun hc => ?_) (fun hc => ?_)) | (refine cw_block ?_) | (refine cw_exit ?_) | (refine then_exit ?_) | (refine in_exit ?_) | (refine in_exit_ne rfl ?_) | (refine in_normal ?_) | (refine cw_ret ?_) | (refine then_ret ?_) | (refine in_ret ?_) | (refine cw_skip ?_))
  refine cw_loop (ι := Nat) [4, 6, 9, 10, 11, 12, 13, 14, 15, 16, 17, 18, 19, 20, 21, 22] (fun s => [(9, .int .i64 (s : Int))]) (fun s w' => s ≤ l.length ∧ Ex w w' ∧ permsB n (l.take s) = true) (fun s => l.length - s)
    0 ⟨rfl, trivial⟩ ⟨Nat.zero_le _, Ex.refl _, rfl⟩ ?_
  rintro k ξ w1 ⟨hk, hE1, hp⟩
  show CW _ _ _ _ (over [(9, .int .i64 (k : Int))] _) w1
  have hL1 := hL.ext hE1
  have hLs := hL1.sl
  obtain ⟨⟨ua, ul, uc⟩, hud⟩ : ∃ s, sds.getD k sd0 = s := ⟨_, rfl⟩
  have hno : ∀ (hkl : k < l.length), (decide (((l.getD k []).length : Int) = n) && decide (IsPerm (l.getD k []))) = false → permsB n l = false := fun hkl h => by
    have := getD_mem (d := []) hkl
    cases hb : permsB n l with
    | false => rfl
    | true =>
      unfold permsB at hb
      rw [List.all_eq_true] at hb
      have := hb _ this
      rw [h] at this; cases this
  have hyes : ∀ (hkl : k < l.length), (decide (((l.getD k []).length : Int) = n) && decide (IsPerm (l.getD k []))) = true → permsB n (l.take (k + 1)) = true := fun hkl h => by
    unfold permsB at hp ⊢
    rw [take_all hkl hp]; exact h
  repeat' (first | (refine k_indexN (j := k) rfl rfl (hLs.plain (by simp; omega)) (by omega) ?_) | (refine k_loadSd (j := k) rfl hLs (by omega) hud ?_) | (refine k_pure rfl ?_) | (refine then_normal ?_) | (refine cw_seq ?_) | (refine cw_region rfl ?_) | (refine rr_nil ?_) | (refine k_len rfl ?_) | (refine g_run rfl rfl ?_) | (refine g_skip rfl rfl ?_) | (refine g_dec_f rfl rfl (fun hc => ?_) (fun hc => ?_)) | (refine g_dec_t rfl rfl (fun hc => ?_) (fun hc => ?_)) | (refine g_ndec_f rfl rfl (fun hc => ?_) (fun hc => ?_)) | (refine g_ndec_t rfl rfl (fun hc => ?_) (fun hc => ?_)) | (refine g_split rfl rfl (fun hc => ?_) (fun hc => ?_)) | (refine k_addI rfl rfl (by omega) (by omega) ?_) | (refine k_subI rfl rfl (by omega) (by omega) ?_) | (refine k_fieldAddr rfl ?_) | (refine k_eqlB rfl rfl ?_) | (refine k_neqB rfl rfl ?_) | (refine cw_cond_true rfl ?_) | (refine cw_cond_false rfl ?_) | (refine cw_cond_dec rfl (fun hc => ?_) (fun hc => ?_)) | (refine cw_cond_ndec rfl (fun hc => ?_) (fun hc => ?_)) | (refine cw_cond rfl (fun hc => ?_) (fun hc => ?_)) | (refine cw_block ?_) | (refine cw_exit ?_) | (refine then_exit ?_) | (refine in_exit ?_) | (refine in_exit_ne rfl ?_) | (refine in_normal ?_) | (refine cw_ret ?_) | (refine then_ret ?_) | (refine in_ret ?_) | (refine cw_skip ?_))
  · have hkl : k < l.length := by omega
    have hei := hL1.each k hkl
    rw [hud] at hei
    simp only at hei
    have hln : ((l.getD k []).length : Int) = n := by omega
    refine k_call (valid_spec hei.1 uc) (by rw [← hei.2]; rfl) ?_
    rintro v w2 ⟨rfl, hE2⟩
    refine ⟨fun _ _ => trivial, ?_⟩
    by_cases hv : IsPerm (l.getD k [])
    · rw [decide_eq_true hv]
      repeat' (first | (refine k_pure rfl ?_) | (refine then_normal ?_) | (refine cw_seq ?_) | (refine cw_region rfl ?_) | (refine rr_nil ?_) | (refine k_len rfl ?_) | (refine g_run rfl rfl ?_) | (refine g_skip rfl rfl ?_) | (refine g_dec_f rfl rfl (fun hc => ?_) (fun hc => ?_)) | (refine g_dec_t rfl rfl (fun hc => ?_) (fun hc => ?_)) | (refine g_ndec_f rfl rfl (fun hc => ?_) (fun hc => ?_)) | (refine g_ndec_t rfl rfl (fun hc => ?_) (fun hc => ?_)) | (refine g_split rfl rfl (fun hc => ?_) (fun hc => ?_)) | (refine k_addI rfl rfl (by omega) (by omega) ?_) | (refine k_subI rfl rfl (by omega) (by omega) ?_) | (refine k_fieldAddr rfl ?_) | (refine k_eqlB rfl rfl ?_) | (refine k_neqB rfl rfl ?_) | (refine cw_cond_true rfl ?_) | (refine cw_cond_false rfl ?_) | (refine cw_cond_dec rfl (fun hc => ?_) (fun hc => ?_)) | (refine cw_cond_ndec rfl (fun hc => ?_) (fun hc => ?_)) | (refine cw_cond rfl (fun hc => ?_) (fun hc => ?_)) | (refine cw_block ?_) | (refine cw_exit ?_) | (refine then_exit ?_) | (refine in_exit ?_) | (refine in_exit_ne rfl ?_) | (refine in_normal ?_) | (refine cw_ret ?_) | (refine then_ret ?_) | (refine in_ret ?_) | (refine cw_skip ?_))
      refine ⟨⟨k + 1, ⟨by omega, hE1.trans hE2, hyes hkl (by rw [decide_eq_true hln, decide_eq_true hv]; rfl)⟩, by omega, rfl, trivial⟩, (by (repeat (first | exact agree_mask _ _ _ | refine agree_upd rfl ?_ | refine agree_updO rfl ?_ | refine agree_overIn rfl ?_ | refine agree_maskIn rfl ?_)))⟩
    · rw [decide_eq_false hv]
      repeat' (first | (refine k_pure rfl ?_) | (refine then_normal ?_) | (refine cw_seq ?_) | (refine cw_region rfl ?_) | (refine rr_nil ?_) | (refine k_len rfl ?_) | (refine g_run rfl rfl ?_) | (refine g_skip rfl rfl ?_) | (refine g_dec_f rfl rfl (fun hc => ?_) (fun hc => ?_)) | (refine g_dec_t rfl rfl (fun hc => ?_) (fun hc => ?_)) | (refine g_ndec_f rfl rfl (fun hc => ?_) (fun hc => ?_)) | (refine g_ndec_t rfl rfl (fun hc => ?_) (fun hc => ?_)) | (refine g_split rfl rfl (fun hc => ?_) (fun hc => ?_)) | (refine k_addI rfl rfl (by omega) (by omega) ?_) | (refine k_subI rfl rfl (by omega) (by omega) ?_) | (refine k_fieldAddr rfl ?_) | (refine k_eqlB rfl rfl ?_) | (refine k_neqB rfl rfl ?_) | (refine cw_cond_true rfl ?_) | (refine cw_cond_false rfl ?_) | (refine cw_cond_dec rfl (fun hc => ?_) (fun hc => ?_)) | (refine cw_cond_ndec rfl (fun hc => ?_) (fun hc => ?_)) | (refine cw_cond rfl (fun hc => ?_) (fun hc => ?_)) | (refine cw_block ?_) | (refine cw_exit ?_) | (refine then_exit ?_) | (refine in_exit ?_) | (refine in_exit_ne rfl ?_) | (refine in_normal ?_) | (refine cw_ret ?_) | (refine then_ret ?_) | (refine in_ret ?_) | (refine cw_skip ?_))
      refine ret1 rfl (rt rfl) ⟨?_, hE1.trans hE2⟩
      rw [hno hkl (by rw [decide_eq_false hv, Bool.and_false])]; rfl
  · have hkl : k < l.length := by omega
    have hei := (hL1.each k hkl).2
    rw [hud] at hei
    simp only at hei
    refine ret1 rfl (rt rfl) ⟨?_, hE1⟩
    rw [hno hkl (by rw [decide_eq_false (p := ((l.getD k []).length : Int) = n) (by omega)]; rfl)]; rfl
  · obtain rfl : k = l.length := by omega
    rw [List.take_length] at hp
    refine ret1 rfl (rt rfl) ⟨by rw [hp]; rfl, hE1⟩
theorem chkS_spec {n : Int} {l : List (List Int)} {a : Option Addr} {sds : List SD} {cap : Nat} {w : World} (hL : Lists w .i64 a sds l) (hl : l.length ≤ 1000000) :
    CallsR Try.prog 45 #[.int .i64 n, .slice a l.length cap] w fun v w' => v = .int .i64 (errS n l) ∧ Ex w w' := by
  refine callsR_of (args := [_, _]) Try.func45 rfl rfl ?_
  repeat' (first | (refine k_pure rfl ?_) | (refine then_normal ?_) | (refine cw_seq ?_) | (refine cw_region rfl ?_) | (refine rr_nil ?_) | (refine k_len rfl ?_) | (refine g_run rfl rfl ?_) | (refine g_skip rfl rfl ?_) | (refine g_dec_f rfl rfl (fun hc => ?_) (fun hc => ?_)) | (refine g_dec_t rfl rfl (fun hc => ?_) (fun hc => ?_)) | (refine g_ndec_f rfl rfl (fun hc => ?_) (fun hc => ?_)) | (refine g_ndec_t rfl rfl (fun hc => ?_) (fun hc => ?_)) | (refine g_split rfl rfl (fun hc => ?_) (fun hc => ?_)) | (refine k_addI rfl rfl (by omega) (by omega) ?_) | (refine k_subI rfl rfl (by omega) (by omega) ?_) | (refine k_fieldAddr rfl ?_) | (refine k_eqlB rfl rfl ?_) | (refine k_neqB rfl rfl ?_) | (refine cw_cond_true rfl ?_) | (refine cw_cond_false rfl ?_) | (refine cw_cond_dec rfl (fun hc => ?_) (fun hc => ?_)) | (refine cw_cond_ndec rfl (fun hc => ?_) (fun hc => ?_)) | (refine cw_cond rfl (fun hc => ?_) (fun hc => ?_)) | (refine cw_block ?_) | (refine cw_exit ?_) | (refine then_exit ?_) | (refine in_exit ?_) | (refine in_exit_ne rfl ?_) | (refine in_normal ?_) | (refine cw_ret ?_) | (refine then_ret ?_) | (refine in_ret ?_) | (refine cw_skip ?_))
  · refine ret1 rfl (rt rfl) ⟨?_, Ex.refl _⟩
    rw [errS, if_pos (.inr (by omega))]; rfl
  · refine ret1 rfl (rt rfl) ⟨?_, Ex.refl _⟩
    rw [errS, if_neg (by omega), if_pos (by omega)]; rfl
  · refine k_call (perms_spec hL hl) rfl ?_
    rintro v w1 ⟨rfl, hE1⟩
    refine ⟨fun _ _ => trivial, ?_⟩
    cases hb : permsB n l with
    | true =>
      repeat' (first | (refine k_pure rfl ?_) | (refine then_normal ?_) | (refine cw_seq ?_) | (refine cw_region rfl ?_) | (refine rr_nil ?_) | (refine k_len rfl ?_) | (refine g_run rfl rfl ?_) | (refine g_skip rfl rfl ?_) | (refine g_dec_f rfl rfl (fun hc => ?_) (fun hc => ?_)) | (refine g_dec_t rfl rfl (fun hc => ?_) (fun hc => ?_)) | (refine g_ndec_f rfl rfl (fun hc => ?_) (fun hc => ?_)) | (refine g_ndec_t rfl rfl (fun hc => ?_) (fun hc => ?_)) | (refine g_split rfl rfl (fun hc => ?_) (fun hc => ?_)) | (refine k_addI rfl rfl (by omega) (by omega) ?_) | (refine k_subI rfl rfl (by omega) (by omega) ?_) | (refine k_fieldAddr rfl ?_) | (refine k_eqlB rfl rfl ?_) | (refine k_neqB rfl rfl ?_) | (refine cw_cond_true rfl ?_) | (refine cw_cond_false rfl ?_) | (refine cw_cond_dec rfl (fun hc => ?_) (fun hc => ?_)) | (refine cw_cond_ndec rfl (fun hc => ?_) (fun hc => ?_)) | (refine cw_cond rfl (fun hc => ?_) (fun hc => ?_)) | (refine cw_block ?_) | (refine cw_exit ?_) | (refine then_exit ?_) | (refine in_exit ?_) | (refine in_exit_ne rfl ?_) | (refine in_normal ?_) | (refine cw_ret ?_) | (refine then_ret ?_) | (refine in_ret ?_) | (refine cw_skip ?_))
      refine ret1 rfl (rt rfl) ⟨?_, hE1⟩
      rw [errS, if_neg (by omega), if_neg (by omega), if_pos hb]; rfl
    | false =>
      repeat' (first | (refine k_pure rfl ?_) | (refine then_normal ?_) | (refine cw_seq ?_) | (refine cw_region rfl ?_) | (refine rr_nil ?_) | (refine k_len rfl ?_) | (refine g_run rfl rfl ?_) | (refine g_skip rfl rfl ?_) | (refine g_dec_f rfl rfl (fun hc => ?_) (fun hc => ?_)) | (refine g_dec_t rfl rfl (fun hc => ?_) (fun hc => ?_)) | (refine g_ndec_f rfl rfl (fun hc => ?_) (fun hc => ?_)) | (refine g_ndec_t rfl rfl (fun hc => ?_) (fun hc => ?_)) | (refine g_split rfl rfl (fun hc => ?_) (fun hc => ?_)) | (refine k_addI rfl rfl (by omega) (by omega) ?_) | (refine k_subI rfl rfl (by omega) (by omega) ?_) | (refine k_fieldAddr rfl ?_) | (refine k_eqlB rfl rfl ?_) | (refine k_neqB rfl rfl ?_) | (refine cw_cond_true rfl ?_) | (refine cw_cond_false rfl ?_) | (refine cw_cond_dec rfl (fun hc => ?_) (fun hc => ?_)) | (refine cw_cond_ndec rfl (fun hc => ?_) (fun hc => ?_)) | (refine cw_cond rfl (fun hc => ?_) (fun hc => ?_)) | (refine cw_block ?_) | (refine cw_exit ?_) | (refine then_exit ?_) | (refine in_exit ?_) | (refine in_exit_ne rfl ?_) | (refine in_normal ?_) | (refine cw_ret ?_) | (refine then_ret ?_) | (refine in_ret ?_) | (refine cw_skip ?_))
      refine ret1 rfl (rt rfl) ⟨?_, hE1⟩
      rw [errS, if_neg (by omega), if_neg (by omega), hb]; rfl
  · refine ret1 rfl (rt rfl) ⟨?_, Ex.refl _⟩
    rw [errS, if_pos (.inl (by omega))]; rfl
theorem errS_zero {n : Int} {gens : List (List Int)} (h : errS n gens = 0) : ∃ m : Nat, n = (m : Int) ∧ 1 ≤ m ∧ m ≤ 512 ∧ gens.length ≤ 64 ∧ GensN m gens := by
  unfold errS at h
  split at h
  · cases h
  · rename_i h1
    split at h
    · cases h
    · rename_i h2
      split at h
      · rename_i h3
        refine ⟨n.toNat, by omega, by omega, by omega, by omega, ?_⟩
        rw [← permsB_iff, show ((n.toNat : Nat) : Int) = n by omega]; exact h3
      · cases h
theorem sOrder_spec {n : Int} {gens : List (List Int)} {a : Option Addr} {sds : List SD} {cap : Nat} {w : World} (hL : Lists w .i64 a sds gens) (hl : gens.length ≤ 1000000) (h11 : errS n gens = 0 → n ≤ 11) :
    CallsR Try.prog 15 #[.int .i64 n, .slice a gens.length cap] w fun v w' => ∃ z, v = .tuple #[z, .int .i64 (errS n gens)] ∧ Ex w w' ∧ (errS n gens ≠ 0 → IntC w.heap.size w' z 0) ∧ (errS n gens = 0 → ∃ k : Nat, Card (Gen n.toNat gens) k ∧ IntC w.heap.size w' z (k : Int)) := by
  refine callsR_of (args := [_, _]) Try.func15 rfl rfl ?_
  repeat' (first | (refine k_allocA (vs := intL false none 0 0) (fun g4 w1 hn1 => ⟨fun _ _ => trivial, ?_⟩)) | (refine k_pure rfl ?_) | (refine then_normal ?_) | (refine cw_seq ?_) | (refine cw_region rfl ?_) | (refine rr_nil ?_) | (refine k_len rfl ?_) | (refine g_run rfl rfl ?_) | (refine g_skip rfl rfl ?_) | (refine g_dec_f rfl rfl (fun hc => ?_) (fun hc => ?_)) | (refine g_dec_t rfl rfl (fun hc => ?_) (fun hc => ?_)) | (refine g_ndec_f rfl rfl (fun hc => ?_) (fun hc => ?_)) | (refine g_ndec_t rfl rfl (fun hc => ?_) (fun hc => ?_)) | (refine g_split rfl rfl (fun hc => ?_) (fun hc => ?_)) | (refine k_addI rfl rfl (by omega) (by omega) ?_) | (refine k_subI rfl rfl (by omega) (by omega) ?_) | (refine k_fieldAddr rfl ?_) | (refine k_eqlB rfl rfl ?_) | (refine k_neqB rfl rfl ?_) | (refine cw_cond_true rfl ?_) | (refine cw_cond_false rfl ?_) | (refine cw_cond_dec rfl (fun hc => ?_) (fun hc => ?_)) | (refine cw_cond_ndec rfl (fun hc => ?_) (fun hc => ?_)) | (refine cw_cond rfl (fun hc => ?_) (fun hc => ?_)) | (refine cw_block ?_) | (refine cw_exit ?_) | (refine then_exit ?_) | (refine in_exit ?_) | (refine in_exit_ne rfl ?_) | (refine in_normal ?_) | (refine cw_ret ?_) | (refine then_ret ?_) | (refine in_ret ?_) | (refine cw_skip ?_))
  have z1 := hn1.lo; have z1' := hn1.hi
  refine k_call (chkS_spec (hL.ext hn1.ex) hl) rfl ?_
  rintro v w2 ⟨rfl, hE2⟩
  refine ⟨fun _ _ => trivial, ?_⟩
  have y2 := hE2.size
  have hEw2 := hn1.ex.trans hE2
  have hb2 := hn1.blk.ext hE2
  repeat' (first | (refine k_pure rfl ?_) | (refine then_normal ?_) | (refine cw_seq ?_) | (refine cw_region rfl ?_) | (refine rr_nil ?_) | (refine k_len rfl ?_) | (refine g_run rfl rfl ?_) | (refine g_skip rfl rfl ?_) | (refine g_dec_f rfl rfl (fun hc => ?_) (fun hc => ?_)) | (refine g_dec_t rfl rfl (fun hc => ?_) (fun hc => ?_)) | (refine g_ndec_f rfl rfl (fun hc => ?_) (fun hc => ?_)) | (refine g_ndec_t rfl rfl (fun hc => ?_) (fun hc => ?_)) | (refine g_split rfl rfl (fun hc => ?_) (fun hc => ?_)) | (refine k_addI rfl rfl (by omega) (by omega) ?_) | (refine k_subI rfl rfl (by omega) (by omega) ?_) | (refine k_fieldAddr rfl ?_) | (refine k_eqlB rfl rfl ?_) | (refine k_neqB rfl rfl ?_) | (refine cw_cond_true rfl ?_) | (refine cw_cond_false rfl ?_) | (refine cw_cond_dec rfl (fun hc => ?_) (fun hc => ?_)) | (refine cw_cond_ndec rfl (fun hc => ?_) (fun hc => ?_)) | (refine cw_cond rfl (fun hc => ?_) (fun hc => ?_)) | (refine cw_block ?_) | (refine cw_exit ?_) | (refine then_exit ?_) | (refine in_exit ?_) | (refine in_exit_ne rfl ?_) | (refine in_normal ?_) | (refine cw_ret ?_) | (refine then_ret ?_) | (refine in_ret ?_) | (refine cw_skip ?_))
  · refine k_build (cs := intL false none 0 0) rfl ?_
    repeat' (first | (refine k_pure rfl ?_) | (refine then_normal ?_) | (refine cw_seq ?_) | (refine cw_region rfl ?_) | (refine rr_nil ?_) | (refine k_len rfl ?_) | (refine g_run rfl rfl ?_) | (refine g_skip rfl rfl ?_) | (refine g_dec_f rfl rfl (fun hc => ?_) (fun hc => ?_)) | (refine g_dec_t rfl rfl (fun hc => ?_) (fun hc => ?_)) | (refine g_ndec_f rfl rfl (fun hc => ?_) (fun hc => ?_)) | (refine g_ndec_t rfl rfl (fun hc => ?_) (fun hc => ?_)) | (refine g_split rfl rfl (fun hc => ?_) (fun hc => ?_)) | (refine k_addI rfl rfl (by omega) (by omega) ?_) | (refine k_subI rfl rfl (by omega) (by omega) ?_) | (refine k_fieldAddr rfl ?_) | (refine k_eqlB rfl rfl ?_) | (refine k_neqB rfl rfl ?_) | (refine cw_cond_true rfl ?_) | (refine cw_cond_false rfl ?_) | (refine cw_cond_dec rfl (fun hc => ?_) (fun hc => ?_)) | (refine cw_cond_ndec rfl (fun hc => ?_) (fun hc => ?_)) | (refine cw_cond rfl (fun hc => ?_) (fun hc => ?_)) | (refine cw_block ?_) | (refine cw_exit ?_) | (refine then_exit ?_) | (refine in_exit ?_) | (refine in_exit_ne rfl ?_) | (refine in_normal ?_) | (refine cw_ret ?_) | (refine then_ret ?_) | (refine in_ret ?_) | (refine cw_skip ?_))
    refine k_storeV (n := 2) rfl rfl rfl rfl hb2 rfl (fun w3 hc3 hb3 => ⟨fun _ _ => trivial, ?_⟩)
    repeat' (first | (refine k_pure rfl ?_) | (refine then_normal ?_) | (refine cw_seq ?_) | (refine cw_region rfl ?_) | (refine rr_nil ?_) | (refine k_len rfl ?_) | (refine g_run rfl rfl ?_) | (refine g_skip rfl rfl ?_) | (refine g_dec_f rfl rfl (fun hc => ?_) (fun hc => ?_)) | (refine g_dec_t rfl rfl (fun hc => ?_) (fun hc => ?_)) | (refine g_ndec_f rfl rfl (fun hc => ?_) (fun hc => ?_)) | (refine g_ndec_t rfl rfl (fun hc => ?_) (fun hc => ?_)) | (refine g_split rfl rfl (fun hc => ?_) (fun hc => ?_)) | (refine k_addI rfl rfl (by omega) (by omega) ?_) | (refine k_subI rfl rfl (by omega) (by omega) ?_) | (refine k_fieldAddr rfl ?_) | (refine k_eqlB rfl rfl ?_) | (refine k_neqB rfl rfl ?_) | (refine cw_cond_true rfl ?_) | (refine cw_cond_false rfl ?_) | (refine cw_cond_dec rfl (fun hc => ?_) (fun hc => ?_)) | (refine cw_cond_ndec rfl (fun hc => ?_) (fun hc => ?_)) | (refine cw_cond rfl (fun hc => ?_) (fun hc => ?_)) | (refine cw_block ?_) | (refine cw_exit ?_) | (refine then_exit ?_) | (refine in_exit ?_) | (refine in_exit_ne rfl ?_) | (refine in_normal ?_) | (refine cw_ret ?_) | (refine then_ret ?_) | (refine in_ret ?_) | (refine cw_skip ?_))
    refine ret2 rfl (rc rfl rfl hb3) (rt rfl) ⟨_, rfl, hEw2.chg hc3 (by omega), fun _ => IntC.zero _ _, fun h => absurd h hc⟩
  · have h0 : errS n gens = 0 := by omega
    obtain ⟨m, rfl, hm1, hm2, hgl, hgn⟩ := errS_zero h0
    have hm11 : m ≤ 11 := by have := h11 h0; omega
    refine k_call (chBuild_spec (base := []) (b := none) (bc := 0) ⟨hm1, hm2⟩ hm11 hgn (hL.ext hEw2) (by omega) (Sl.nil _ _) (by simp) (fun i hi => absurd hi (by simp))) rfl ?_
    rintro v w3 ⟨hE3, c, ls, rfl, hC, hG, hF⟩
    refine ⟨fun _ _ => trivial, ?_⟩
    have y3 := hE3.size
    refine k_call (chOrder_spec (first := 0) hm11 hC hG (by simp; omega) (Nat.zero_le _)) rfl ?_
    rintro v w4 ⟨hz4, hE4⟩
    refine ⟨fun _ _ => trivial, ?_⟩
    obtain ⟨cs, rfl, hcl, hco⟩ := hz4.out
    have hb4 := (hb2.ext hE3).ext hE4
    refine k_storeV (n := 2) rfl rfl hcl hco hb4 rfl (fun w5 hc5 hb5 => ⟨fun _ _ => trivial, ?_⟩)
    repeat' (first | (refine k_pure rfl ?_) | (refine then_normal ?_) | (refine cw_seq ?_) | (refine cw_region rfl ?_) | (refine rr_nil ?_) | (refine k_len rfl ?_) | (refine g_run rfl rfl ?_) | (refine g_skip rfl rfl ?_) | (refine g_dec_f rfl rfl (fun hc => ?_) (fun hc => ?_)) | (refine g_dec_t rfl rfl (fun hc => ?_) (fun hc => ?_)) | (refine g_ndec_f rfl rfl (fun hc => ?_) (fun hc => ?_)) | (refine g_ndec_t rfl rfl (fun hc => ?_) (fun hc => ?_)) | (refine g_split rfl rfl (fun hc => ?_) (fun hc => ?_)) | (refine k_addI rfl rfl (by omega) (by omega) ?_) | (refine k_subI rfl rfl (by omega) (by omega) ?_) | (refine k_fieldAddr rfl ?_) | (refine k_eqlB rfl rfl ?_) | (refine k_neqB rfl rfl ?_) | (refine cw_cond_true rfl ?_) | (refine cw_cond_false rfl ?_) | (refine cw_cond_dec rfl (fun hc => ?_) (fun hc => ?_)) | (refine cw_cond_ndec rfl (fun hc => ?_) (fun hc => ?_)) | (refine cw_cond rfl (fun hc => ?_) (fun hc => ?_)) | (refine cw_block ?_) | (refine cw_exit ?_) | (refine then_exit ?_) | (refine in_exit ?_) | (refine in_exit_ne rfl ?_) | (refine in_normal ?_) | (refine cw_ret ?_) | (refine then_ret ?_) | (refine in_ret ?_) | (refine cw_skip ?_))
    have hz5 := (hz4.chgO hc5 (hz4.off_lo (by omega))).mono (lo' := w.heap.size) (by omega)
    rw [List.drop_zero] at hz5
    refine ret2 rfl (rc rfl hcl hb5) (rt rfl) ⟨_, by rw [h0]; rfl, ((hEw2.trans hE3).trans hE4).chg hc5 (by omega), fun h => absurd h0 h, fun _ => ⟨prodL ls, ?_, hz5⟩⟩
    rw [Int.toNat_natCast]
    exact (full_card hG.links hF).congr hG.grp
end Go.Proofs.Ythhfjagnmhhapaa

/- The orders of three groups, by chains that the kernel checks. -/
namespace Go.PM
def invC (p : List Int) : List Int := invTo p p.length
def lvAdd (l : Lv) (s : Nat × Nat) : Lv := l.add (ap (l.gens.getD s.2 []) (l.orb.getD s.1 0)) (mulP (invC (l.gens.getD s.2 [])) (l.bk s.1))
def okAdd (l : Lv) (s : Nat × Nat) : Bool := decide (s.1 < l.orb.length) && (decide (s.2 < l.gens.length) && !(l.orb.contains (ap (l.gens.getD s.2 []) (l.orb.getD s.1 0))))
def mkLv (l : Lv) : List (Nat × Nat) → Lv
  | [] => l
  | s :: ss => mkLv (lvAdd l s) ss
def okLv (l : Lv) : List (Nat × Nat) → Bool
  | [] => (List.range l.orb.length).all fun i => (List.range l.gens.length).all fun j => l.orb.contains (ap (l.gens.getD j []) (l.orb.getD i 0))
  | s :: ss => okAdd l s && okLv (lvAdd l s) ss
theorem mkLv_ok {n : Nat} : ∀ (ss : List (Nat × Nat)) (l l0 : Lv), Part n l → Grow l0 l → okLv l ss = true → LvOK n (mkLv l ss) ∧ Grow l0 (mkLv l ss)
  | [], l, l0, hp, hg, h => by
    refine ⟨hp.ok ⟨fun i hi j hj => ?_, fun j hj => absurd hj (by omega)⟩, hg⟩
    simp only [okLv, List.all_eq_true, List.mem_range] at h
    have := h i hi j hj
    simpa using this
  | s :: ss, l, l0, hp, hg, h => by
    simp only [okLv, okAdd, Bool.and_eq_true, decide_eq_true_eq, Bool.not_eq_true'] at h
    obtain ⟨⟨h1, h2, h3⟩, h4⟩ := h
    have hm : ap (l.gens.getD s.2 []) (l.orb.getD s.1 0) ∉ l.orb := fun hm => by
      have : l.orb.contains (ap (l.gens.getD s.2 []) (l.orb.getD s.1 0)) = true := by simpa using hm
      rw [this] at h3; cases h3
    have pg := hp.gens _ (getD_mem (d := []) h2)
    have e : lvAdd l s = l.add (ap (l.gens.getD s.2 []) (l.orb.getD s.1 0)) (mulP (inv (l.gens.getD s.2 [])) (l.bk s.1)) := by
      unfold lvAdd invC; rw [Go.Proofs.Ythhfjagnmhhapaa.invTo_inv pg]
    rw [e] at h4
    show LvOK n (mkLv (lvAdd l s) ss) ∧ Grow l0 (mkLv (lvAdd l s) ss)
    rw [e]
    exact mkLv_ok ss _ l0 (hp.add h1 h2 hm) (hg.add _ _) h4
def schrC (l : Lv) (a k : Nat) : List Int := mulP (mulP (invC (l.bk a)) (l.gens.getD k [])) (l.to (ap (l.gens.getD k []) (l.orb.getD a 0)))
theorem schrC_eq {n : Nat} {l : Lv} (h : LvOK n l) {a : Nat} (k : Nat) (ha : a < l.orb.length) : schrC l a k = l.schr a k := by
  unfold schrC Lv.schr invC
  rw [Go.Proofs.Ythhfjagnmhhapaa.invTo_inv (h.grp.perm _ (h.bin a ha))]
theorem schr_fix {n : Nat} {l : Lv} (h : LvOK n l) {a k : Nat} (ha : a < l.orb.length) (hk : k < l.gens.length) : Gen n l.gens (l.schr a k) ∧ ap (l.schr a k) l.pt = l.pt := by
  have hg := h.grp
  have hb := h.bin a ha
  have pb := hg.perm _ hb
  have hgk := gen_self h.gens (getD_mem (d := []) hk)
  have hx := h.orb_in (getD_mem (d := 0) ha)
  have hm : ap (l.gens.getD k []) (l.orb.getD a 0) ∈ l.orb := by rw [h.mem]; exact .step _ (getD_mem hk) ((h.mem _).1 (getD_mem ha))
  have hp := hg.mul _ _ (hg.inv hb) hgk
  have e1 : ap (mulP (inv (l.bk a)) (l.gens.getD k [])) l.pt = ap (l.gens.getD k []) (l.orb.getD a 0) := by
    rw [ap_mul pb.inv h.pt]
    congr 1
    rw [← h.bap a ha, ap_inv pb hx]
  refine ⟨hg.mul _ _ hp (h.to_in hm), ?_⟩
  unfold Lv.schr
  rw [ap_mul (hg.perm _ hp) h.pt, e1, h.to_ap hm]
abbrev Spec := List (Int × List (Nat × Nat) × List (Nat × Nat))
def mkCh (n : Nat) : Spec → List (List Int) → List Lv
  | [], _ => []
  | s :: ss, gens => mkLv (Lv.one n s.1 gens) s.2.1 :: mkCh n ss (s.2.2.map fun x => schrC (mkLv (Lv.one n s.1 gens) s.2.1) x.1 x.2)
def okCh (n : Nat) : Spec → List (List Int) → Bool
  | [], gens => gens.isEmpty
  | s :: ss, gens => decide (0 ≤ s.1 ∧ s.1 < n) && (okLv (Lv.one n s.1 gens) s.2.1 && (okCh n ss (s.2.2.map fun x => schrC (mkLv (Lv.one n s.1 gens) s.2.1) x.1 x.2) &&
    (s.2.2.all (fun x => decide (x.1 < (mkLv (Lv.one n s.1 gens) s.2.1).orb.length) && decide (x.2 < gens.length)) &&
    (List.range (mkLv (Lv.one n s.1 gens) s.2.1).orb.length).all fun a => (List.range gens.length).all fun k =>
      (siftL (mkCh n ss (s.2.2.map fun x => schrC (mkLv (Lv.one n s.1 gens) s.2.1) x.1 x.2)) (schrC (mkLv (Lv.one n s.1 gens) s.2.1) a k)).1 == idList n)))
theorem mkCh_ok {n : Nat} (n1 : 1 ≤ n ∧ n ≤ 512) : ∀ (ss : Spec) (gens : List (List Int)), GensN n gens → okCh n ss gens = true → Links n (mkCh n ss gens) ∧ Full n (mkCh n ss gens) ∧ ∀ p, grpOf n (mkCh n ss gens) p ↔ Gen n gens p
  | [], gens, _, h => by
    have : gens = [] := by simpa [okCh] using h
    subst this
    exact ⟨n1, trivial, fun p => by rw [gen_nil]; exact Iff.rfl⟩
  | s :: ss, gens, gn, h => by
    simp only [okCh, Bool.and_eq_true, decide_eq_true_eq, List.all_eq_true, List.mem_range, beq_iff_eq] at h
    obtain ⟨h1, h2, h3, h4, h5⟩ := h
    obtain ⟨ok, gr⟩ := mkLv_ok s.2.1 _ _ (part_one n1 h1 gn) (Grow.refl _) h2
    have hgens : (mkLv (Lv.one n s.1 gens) s.2.1).gens = gens := gr.gens
    have hdone := gr.new
    show Links n (mkLv (Lv.one n s.1 gens) s.2.1 :: mkCh n ss _) ∧ Full n (mkLv (Lv.one n s.1 gens) s.2.1 :: mkCh n ss _) ∧ ∀ p, Gen n (mkLv (Lv.one n s.1 gens) s.2.1).gens p ↔ Gen n gens p
    generalize mkLv (Lv.one n s.1 gens) s.2.1 = l at *
    have hsel : ∀ g ∈ s.2.2.map (fun x => schrC l x.1 x.2), Gen n l.gens g ∧ ap g l.pt = l.pt := fun g hg => by
      obtain ⟨x, hx, rfl⟩ := List.mem_map.1 hg
      obtain ⟨a1, a2⟩ := h4 x hx
      rw [schrC_eq ok _ a1]
      exact schr_fix ok a1 (by rw [hgens]; exact a2)
    obtain ⟨i1, i2, i3⟩ := mkCh_ok n1 ss _ (fun g hg => ok.grp.perm _ (hsel g hg).1) h3
    have hL : Links n (l :: mkCh n ss (s.2.2.map fun x => schrC l x.1 x.2)) := ⟨ok, fun p hp => gen_le (stab_grp ok.grp ok.pt) hsel ((i3 p).1 hp), fun a ha => ⟨by rw [hdone]; omega, fun k hk => by rw [hdone] at hk; omega⟩, i1⟩
    refine ⟨hL, ⟨schreier hL fun a ha k hk => ?_, i2⟩, fun p => by rw [hgens]⟩
    have hs := h5 a ha k (by rw [← hgens]; exact hk)
    rw [schrC_eq ok _ ha] at hs
    have ps := ok.grp.perm _ (schr_fix ok ha hk).1
    rw [← sift_grp i1 ps, hs]
    exact i1.grp.one
theorem mkCh_card {n : Nat} (n1 : 1 ≤ n ∧ n ≤ 512) {ss : Spec} {gens : List (List Int)} (gn : GensN n gens) (h : okCh n ss gens = true) : Card (Gen n gens) (prodL (mkCh n ss gens)) := by
  obtain ⟨h1, h2, h3⟩ := mkCh_ok n1 ss gens gn h
  exact (full_card h1 h2).congr h3
def sp8 : Spec := [(0, [(0, 0), (1, 1), (2, 1), (3, 1), (4, 1), (5, 1), (6, 1)], [(0, 1), (2, 0)]), (1, [(0, 0), (0, 1), (1, 0), (3, 0), (4, 0), (5, 0)], [(1, 1), (2, 0)]), (2, [(0, 1), (1, 1), (2, 1), (3, 1), (4, 0)], [(0, 0), (1, 0), (2, 0), (3, 0)]), (3, [(0, 3), (1, 2), (2, 1), (3, 0)], [(0, 0), (0, 1), (0, 2)]), (4, [(0, 2), (1, 1), (2, 0)], [(0, 0), (0, 1)]), (5, [(0, 1), (1, 0)], [(0, 0)]), (6, [(0, 0)], [])]
def sp5 : Spec := [(0, [(0, 0), (1, 0), (2, 1), (3, 1)], [(0, 1), (1, 1)]), (1, [(0, 1), (1, 0), (2, 0)], [(0, 0)]), (2, [(0, 0), (1, 0)], [])]
def sp11 : Spec := [(0, [(0, 0), (1, 0), (2, 0), (2, 1), (3, 0), (3, 1), (4, 0), (4, 1), (5, 0), (7, 0)], [(0, 1), (1, 1)]), (1, [(0, 1), (1, 0), (1, 1), (2, 1), (3, 1), (4, 1), (5, 0), (6, 1), (7, 0)], [(2, 0), (3, 0)]), (2, [(0, 0), (0, 1), (1, 0), (1, 1), (2, 1), (4, 0), (5, 1), (6, 1)], [(2, 0), (3, 1)]), (3, [(0, 0), (0, 1), (1, 0), (1, 1), (2, 0), (3, 0), (3, 1)], [])]
def ge8 : List (List Int) := [[1, 0, 2, 3, 4, 5, 6, 7], [1, 2, 3, 4, 5, 6, 7, 0]]
def ge5 : List (List Int) := [[1, 2, 0, 3, 4], [0, 1, 3, 4, 2]]
def ge11 : List (List Int) := [[1, 2, 3, 4, 5, 6, 7, 8, 9, 10, 0], [0, 1, 6, 9, 5, 3, 10, 2, 8, 4, 7]]
end Go.PM
namespace Go.Proofs.Ythhfjagnmhhapaa
open Go.W Go.PM
theorem gn8 : GensN 8 ge8 := permsB_iff.1 (by kernel_rfl)
theorem gn5 : GensN 5 ge5 := permsB_iff.1 (by kernel_rfl)
theorem gn11 : GensN 11 ge11 := permsB_iff.1 (by kernel_rfl)
theorem ok8 : okCh 8 sp8 ge8 = true := by kernel_rfl
theorem ok5 : okCh 5 sp5 ge5 = true := by kernel_rfl
theorem ok11 : okCh 11 sp11 ge11 = true := by kernel_rfl
theorem pr8 : prodL (mkCh 8 sp8 ge8) = 40320 := by kernel_rfl
theorem pr5 : prodL (mkCh 5 sp5 ge5) = 60 := by kernel_rfl
theorem pr11 : prodL (mkCh 11 sp11 ge11) = 7920 := by kernel_rfl
theorem card8 : Card (Gen 8 ge8) 40320 := pr8 ▸ mkCh_card (by decide) gn8 ok8
theorem card5 : Card (Gen 5 ge5) 60 := pr5 ▸ mkCh_card (by decide) gn5 ok5
theorem card11 : Card (Gen 11 ge11) 7920 := pr11 ▸ mkCh_card (by decide) gn11 ok11
end Go.Proofs.Ythhfjagnmhhapaa

namespace Go.Proofs.Ythhfjagnmhhapaa
open Go.W Go.LM

theorem refTrim_spec {ls : List Nat} {a : Option Addr} {c : Nat} {w : World} (h : Limbs w a c ls) :
    CallsR Try.prog 59 #[.slice a ls.length c] w (RetN w (trimL ls)) := by
  have hlen := h.len
  have hcap := h.cap
  refine callsR_of (args := [_]) Try.func59 rfl rfl ?_
  repeat' (first | (refine k_pure rfl ?_) | (refine then_normal ?_) | (refine cw_seq ?_) | (refine cw_region rfl ?_) | (refine rr_nil ?_) | (refine k_len rfl ?_) | (refine g_run rfl rfl ?_) | (refine g_skip rfl rfl ?_) | (refine g_dec_f rfl rfl (fun hc => ?_) (fun hc => ?_)) | (refine g_dec_t rfl rfl (fun hc => ?_) (fun hc => ?_)) | (refine g_ndec_f rfl rfl (fun hc => ?_) (fun hc => ?_)) | (refine g_ndec_t rfl rfl (fun hc => ?_) (fun hc => ?_)) | (refine g_split rfl rfl (fun hc => ?_) (fun hc => ?_)) | (refine k_addI rfl rfl (by omega) (by omega) ?_) | (refine k_subI rfl rfl (by omega) (by omega) ?_) | (refine k_fieldAddr rfl ?_) | (refine k_eqlB rfl rfl ?_) | (refine k_neqB rfl rfl ?_) | (refine cw_cond_true rfl ?_) | (refine cw_cond_false rfl ?_) | (refine cw_cond_dec rfl (fun hc => ?_) (fun hc => ?_)) | (refine cw_cond_ndec rfl (fun hc => ?_) (fun hc => ?_)) | (refine cw_cond rfl (fun hc => ?_) (fun hc => ?_)) | (refine cw_block ?_) | (refine cw_exit ?_) | (refine then_exit ?_) | (refine in_exit ?_) | (refine in_exit_ne rfl ?_) | (refine in_normal ?_) | (refine cw_ret ?_) | (refine then_ret ?_) | (refine in_ret ?_) | (refine cw_skip ?_))
  refine cw_loop (ι := Nat) [3, 6, 7, 8, 9, 10, 11, 12, 13, 14, 15, 16, 17] (fun k => [(3, .int .i64 (k : Int))]) (fun k w' => k ≤ ls.length ∧ w' = w ∧ trimL (ls.take k) = trimL ls) (fun k => k) ls.length ⟨rfl, trivial⟩ ⟨Nat.le_refl _, rfl, by simp⟩ ?_
  rintro k ξ w2 ⟨hk, rfl, hT⟩
  repeat' (first | (refine k_indexN (j := k - 1) rfl (by show Value.int .i64 ((k : Int) - 1) = _; congr 1; omega) (h.sl.plain (by simp; omega)) (by omega) ?_) | (refine k_loadN rfl h.sl (by omega) ?_) | (refine k_pure rfl ?_) | (refine then_normal ?_) | (refine cw_seq ?_) | (refine cw_region rfl ?_) | (refine rr_nil ?_) | (refine k_len rfl ?_) | (refine g_run rfl rfl ?_) | (refine g_skip rfl rfl ?_) | (refine g_dec_f rfl rfl (fun hc => ?_) (fun hc => ?_)) | (refine g_dec_t rfl rfl (fun hc => ?_) (fun hc => ?_)) | (refine g_ndec_f rfl rfl (fun hc => ?_) (fun hc => ?_)) | (refine g_ndec_t rfl rfl (fun hc => ?_) (fun hc => ?_)) | (refine g_split rfl rfl (fun hc => ?_) (fun hc => ?_)) | (refine k_addI rfl rfl (by omega) (by omega) ?_) | (refine k_subI rfl rfl (by omega) (by omega) ?_) | (refine k_fieldAddr rfl ?_) | (refine k_eqlB rfl rfl ?_) | (refine k_neqB rfl rfl ?_) | (refine cw_cond_true rfl ?_) | (refine cw_cond_false rfl ?_) | (refine cw_cond_dec rfl (fun hc => ?_) (fun hc => ?_)) | (refine cw_cond_ndec rfl (fun hc => ?_) (fun hc => ?_)) | (refine cw_cond rfl (fun hc => ?_) (fun hc => ?_)) | (refine cw_block ?_) | (refine cw_exit ?_) | (refine then_exit ?_) | (refine in_exit ?_) | (refine in_exit_ne rfl ?_) | (refine in_normal ?_) | (refine cw_ret ?_) | (refine then_ret ?_) | (refine in_ret ?_) | (refine cw_skip ?_))
  · refine ⟨⟨k - 1, ⟨by omega, rfl, ?_⟩, by omega, ?_, trivial⟩, (by (repeat (first | exact agree_mask _ _ _ | refine agree_upd rfl ?_ | refine agree_updO rfl ?_ | refine agree_overIn rfl ?_ | refine agree_maskIn rfl ?_)))⟩
    · rw [← hT, take_pred hk (by omega), show ls.getD (k - 1) 0 = 0 by omega, trimL_snoc_zero]
    · show Value.int .i64 ((k : Int) - 1) = _
      congr 1; omega
  all_goals
    have hkk : trimL ls = ls.take k := by
      rw [← hT]
      rcases Nat.eq_zero_or_pos k with rfl | h0
      · rfl
      · rw [take_pred hk (by omega), trimL_snoc (by omega), ← take_pred hk (by omega)]
    refine k_sliceTo rfl rfl (by omega) (by omega) ?_
    rw [Int.toNat_natCast]
    have hL := h.take k
    have hkl : (ls.take k).length = k := by simp [Nat.min_eq_left hk]
    refine k_copy (E := 105) (y := 4) rfl rfl rfl hL.sl (by simp [Nat.min_eq_left hk]) (all_one (fun _ => rfl) _) (by omega) (by omega) (fun a' c' w3 hO3 hE3 => ⟨fun _ _ => trivial, ?_⟩)
    repeat' (first | (refine k_pure rfl ?_) | (refine then_normal ?_) | (refine cw_seq ?_) | (refine cw_region rfl ?_) | (refine rr_nil ?_) | (refine k_len rfl ?_) | (refine g_run rfl rfl ?_) | (refine g_skip rfl rfl ?_) | (refine g_dec_f rfl rfl (fun hc => ?_) (fun hc => ?_)) | (refine g_dec_t rfl rfl (fun hc => ?_) (fun hc => ?_)) | (refine g_ndec_f rfl rfl (fun hc => ?_) (fun hc => ?_)) | (refine g_ndec_t rfl rfl (fun hc => ?_) (fun hc => ?_)) | (refine g_split rfl rfl (fun hc => ?_) (fun hc => ?_)) | (refine k_addI rfl rfl (by omega) (by omega) ?_) | (refine k_subI rfl rfl (by omega) (by omega) ?_) | (refine k_fieldAddr rfl ?_) | (refine k_eqlB rfl rfl ?_) | (refine k_neqB rfl rfl ?_) | (refine cw_cond_true rfl ?_) | (refine cw_cond_false rfl ?_) | (refine cw_cond_dec rfl (fun hc => ?_) (fun hc => ?_)) | (refine cw_cond_ndec rfl (fun hc => ?_) (fun hc => ?_)) | (refine cw_cond rfl (fun hc => ?_) (fun hc => ?_)) | (refine cw_block ?_) | (refine cw_exit ?_) | (refine then_exit ?_) | (refine in_exit ?_) | (refine in_exit_ne rfl ?_) | (refine in_normal ?_) | (refine cw_ret ?_) | (refine then_ret ?_) | (refine in_ret ?_) | (refine cw_skip ?_))
    refine ret1 rfl (rt rfl) ?_
    rw [hkk]
    refine ⟨a', c', by rw [hkl]; rfl, ⟨hO3.sl, ?_, hL.lim, hL.len⟩, fun ad e => (hO3.lo ad e).1, hE3⟩
    rw [hkl]
    rcases hO3.2 with ⟨hv, hn⟩ | ⟨g, cap2, cur, hv, hbg, hg, hnc, hcm, hcs, htake⟩
    · simp only [Value.slice.injEq] at hv; omega
    · simp only [Value.slice.injEq] at hv; omega

/-- a magnitude that need not be canonical: sign and limbs -/
theorem refMake_spec {ls : List Nat} {a : Option Addr} {c : Nat} {w : World} (h : Limbs w a c ls) (neg : Bool) :
    CallsR Try.prog 64 #[.bool neg, .slice a ls.length c] w (RetZ w (sgn neg (natOf ls))) := by
  refine callsR_of (args := [_, _]) Try.func64 rfl rfl ?_
  repeat' (first | (refine k_alloc (fun g w1 hn => ⟨fun _ _ => trivial, ?_⟩)) | (refine k_pure rfl ?_) | (refine then_normal ?_) | (refine cw_seq ?_) | (refine cw_region rfl ?_) | (refine rr_nil ?_) | (refine k_len rfl ?_) | (refine g_run rfl rfl ?_) | (refine g_skip rfl rfl ?_) | (refine g_dec_f rfl rfl (fun hc => ?_) (fun hc => ?_)) | (refine g_dec_t rfl rfl (fun hc => ?_) (fun hc => ?_)) | (refine g_ndec_f rfl rfl (fun hc => ?_) (fun hc => ?_)) | (refine g_ndec_t rfl rfl (fun hc => ?_) (fun hc => ?_)) | (refine g_split rfl rfl (fun hc => ?_) (fun hc => ?_)) | (refine k_addI rfl rfl (by omega) (by omega) ?_) | (refine k_subI rfl rfl (by omega) (by omega) ?_) | (refine k_fieldAddr rfl ?_) | (refine k_eqlB rfl rfl ?_) | (refine k_neqB rfl rfl ?_) | (refine cw_cond_true rfl ?_) | (refine cw_cond_false rfl ?_) | (refine cw_cond_dec rfl (fun hc => ?_) (fun hc => ?_)) | (refine cw_cond_ndec rfl (fun hc => ?_) (fun hc => ?_)) | (refine cw_cond rfl (fun hc => ?_) (fun hc => ?_)) | (refine cw_block ?_) | (refine cw_exit ?_) | (refine then_exit ?_) | (refine in_exit ?_) | (refine in_exit_ne rfl ?_) | (refine in_normal ?_) | (refine cw_ret ?_) | (refine then_ret ?_) | (refine in_ret ?_) | (refine cw_skip ?_))
  refine k_call (refTrim_spec (h.ext hn.ex)) rfl ?_
  rintro v w2 ⟨a2, c2, rfl, hL2, hf2, hE2⟩
  refine ⟨fun _ _ => trivial, ?_⟩
  have hb : Blk w2 g 24 (intL false none 0 0) := Blk.ext (cs := intL false none 0 0) hn.blk hE2
  have l1 := hn.lo
  have l2 := hn.hi
  have l3 := hE2.size
  cases neg
  · repeat' (first | (refine k_pure rfl ?_) | (refine then_normal ?_) | (refine cw_seq ?_) | (refine cw_region rfl ?_) | (refine rr_nil ?_) | (refine k_len rfl ?_) | (refine g_run rfl rfl ?_) | (refine g_skip rfl rfl ?_) | (refine g_dec_f rfl rfl (fun hc => ?_) (fun hc => ?_)) | (refine g_dec_t rfl rfl (fun hc => ?_) (fun hc => ?_)) | (refine g_ndec_f rfl rfl (fun hc => ?_) (fun hc => ?_)) | (refine g_ndec_t rfl rfl (fun hc => ?_) (fun hc => ?_)) | (refine g_split rfl rfl (fun hc => ?_) (fun hc => ?_)) | (refine k_addI rfl rfl (by omega) (by omega) ?_) | (refine k_subI rfl rfl (by omega) (by omega) ?_) | (refine k_fieldAddr rfl ?_) | (refine k_eqlB rfl rfl ?_) | (refine k_neqB rfl rfl ?_) | (refine cw_cond_true rfl ?_) | (refine cw_cond_false rfl ?_) | (refine cw_cond_dec rfl (fun hc => ?_) (fun hc => ?_)) | (refine cw_cond_ndec rfl (fun hc => ?_) (fun hc => ?_)) | (refine cw_cond rfl (fun hc => ?_) (fun hc => ?_)) | (refine cw_block ?_) | (refine cw_exit ?_) | (refine then_exit ?_) | (refine in_exit ?_) | (refine in_exit_ne rfl ?_) | (refine in_normal ?_) | (refine cw_ret ?_) | (refine then_ret ?_) | (refine in_ret ?_) | (refine cw_skip ?_))
    refine k_build (cs := intL false a2 (trimL ls).length c2) rfl ?_
    refine k_storeV (n := 2) rfl rfl rfl rfl hb rfl (fun w3 hc3 hb3 => ⟨fun _ _ => trivial, ?_⟩)
    repeat' (first | (refine k_pure rfl ?_) | (refine then_normal ?_) | (refine cw_seq ?_) | (refine cw_region rfl ?_) | (refine rr_nil ?_) | (refine k_len rfl ?_) | (refine g_run rfl rfl ?_) | (refine g_skip rfl rfl ?_) | (refine g_dec_f rfl rfl (fun hc => ?_) (fun hc => ?_)) | (refine g_dec_t rfl rfl (fun hc => ?_) (fun hc => ?_)) | (refine g_ndec_f rfl rfl (fun hc => ?_) (fun hc => ?_)) | (refine g_ndec_t rfl rfl (fun hc => ?_) (fun hc => ?_)) | (refine g_split rfl rfl (fun hc => ?_) (fun hc => ?_)) | (refine k_addI rfl rfl (by omega) (by omega) ?_) | (refine k_subI rfl rfl (by omega) (by omega) ?_) | (refine k_fieldAddr rfl ?_) | (refine k_eqlB rfl rfl ?_) | (refine k_neqB rfl rfl ?_) | (refine cw_cond_true rfl ?_) | (refine cw_cond_false rfl ?_) | (refine cw_cond_dec rfl (fun hc => ?_) (fun hc => ?_)) | (refine cw_cond_ndec rfl (fun hc => ?_) (fun hc => ?_)) | (refine cw_cond rfl (fun hc => ?_) (fun hc => ?_)) | (refine cw_block ?_) | (refine cw_exit ?_) | (refine then_exit ?_) | (refine in_exit ?_) | (refine in_exit_ne rfl ?_) | (refine in_normal ?_) | (refine cw_ret ?_) | (refine then_ret ?_) | (refine in_ret ?_) | (refine cw_skip ?_))
    refine ret1 rfl (rc rfl rfl hb3) ⟨⟨false, a2, c2, trimL ls, rfl, hL2.chg hc3 (fun ad e => by have := hf2 ad e; omega), by rw [trimL_natOf], canon_trimL _, by simp, fun ad e => by have := hf2 ad e; omega⟩, (hn.ex.trans hE2).chg hc3 (by omega)⟩
  · repeat' (first | (refine k_pure rfl ?_) | (refine then_normal ?_) | (refine cw_seq ?_) | (refine cw_region rfl ?_) | (refine rr_nil ?_) | (refine k_len rfl ?_) | (refine g_run rfl rfl ?_) | (refine g_skip rfl rfl ?_) | (refine g_dec_f rfl rfl (fun hc => ?_) (fun hc => ?_)) | (refine g_dec_t rfl rfl (fun hc => ?_) (fun hc => ?_)) | (refine g_ndec_f rfl rfl (fun hc => ?_) (fun hc => ?_)) | (refine g_ndec_t rfl rfl (fun hc => ?_) (fun hc => ?_)) | (refine g_split rfl rfl (fun hc => ?_) (fun hc => ?_)) | (refine k_addI rfl rfl (by omega) (by omega) ?_) | (refine k_subI rfl rfl (by omega) (by omega) ?_) | (refine k_fieldAddr rfl ?_) | (refine k_eqlB rfl rfl ?_) | (refine k_neqB rfl rfl ?_) | (refine cw_cond_true rfl ?_) | (refine cw_cond_false rfl ?_) | (refine cw_cond_dec rfl (fun hc => ?_) (fun hc => ?_)) | (refine cw_cond_ndec rfl (fun hc => ?_) (fun hc => ?_)) | (refine cw_cond rfl (fun hc => ?_) (fun hc => ?_)) | (refine cw_block ?_) | (refine cw_exit ?_) | (refine then_exit ?_) | (refine in_exit ?_) | (refine in_exit_ne rfl ?_) | (refine in_normal ?_) | (refine cw_ret ?_) | (refine then_ret ?_) | (refine in_ret ?_) | (refine cw_skip ?_))
    refine k_build (cs := intL (decide ((0 : Int) < ((trimL ls).length : Int))) a2 (trimL ls).length c2) rfl ?_
    refine k_storeV (n := 2) rfl rfl rfl rfl hb rfl (fun w3 hc3 hb3 => ⟨fun _ _ => trivial, ?_⟩)
    repeat' (first | (refine k_pure rfl ?_) | (refine then_normal ?_) | (refine cw_seq ?_) | (refine cw_region rfl ?_) | (refine rr_nil ?_) | (refine k_len rfl ?_) | (refine g_run rfl rfl ?_) | (refine g_skip rfl rfl ?_) | (refine g_dec_f rfl rfl (fun hc => ?_) (fun hc => ?_)) | (refine g_dec_t rfl rfl (fun hc => ?_) (fun hc => ?_)) | (refine g_ndec_f rfl rfl (fun hc => ?_) (fun hc => ?_)) | (refine g_ndec_t rfl rfl (fun hc => ?_) (fun hc => ?_)) | (refine g_split rfl rfl (fun hc => ?_) (fun hc => ?_)) | (refine k_addI rfl rfl (by omega) (by omega) ?_) | (refine k_subI rfl rfl (by omega) (by omega) ?_) | (refine k_fieldAddr rfl ?_) | (refine k_eqlB rfl rfl ?_) | (refine k_neqB rfl rfl ?_) | (refine cw_cond_true rfl ?_) | (refine cw_cond_false rfl ?_) | (refine cw_cond_dec rfl (fun hc => ?_) (fun hc => ?_)) | (refine cw_cond_ndec rfl (fun hc => ?_) (fun hc => ?_)) | (refine cw_cond rfl (fun hc => ?_) (fun hc => ?_)) | (refine cw_block ?_) | (refine cw_exit ?_) | (refine then_exit ?_) | (refine in_exit ?_) | (refine in_exit_ne rfl ?_) | (refine in_normal ?_) | (refine cw_ret ?_) | (refine then_ret ?_) | (refine in_ret ?_) | (refine cw_skip ?_))
    refine ret1 rfl (rc rfl rfl hb3) ⟨⟨_, a2, c2, trimL ls, rfl, hL2.chg hc3 (fun ad e => by have := hf2 ad e; omega), ?_, canon_trimL _, ?_, fun ad e => by have := hf2 ad e; omega⟩, (hn.ex.trans hE2).chg hc3 (by omega)⟩
    · by_cases h0 : trimL ls = []
      · have := trimL_zero.1 h0
        simp [h0, this, sgn, natOf]
      · have : (0 : Int) < ((trimL ls).length : Int) := by
          have := List.length_pos_iff.2 h0; omega
        rw [decide_eq_true this, trimL_natOf]
    · intro hd h0
      rw [h0] at hd; simp at hd

theorem refWord_spec {n : Nat} (hn : n < 18446744073709551616) (neg : Bool) (w : World) : CallsR Try.prog 49 #[.bool neg, .int .u64 (n : Int)] w (RetZ w (sgn neg n)) := by
  refine callsR_of (args := [_, _]) Try.func49 rfl rfl ?_
  repeat' (first | (refine k_alloc (fun g w1 hn1 => ⟨fun _ _ => trivial, ?_⟩)) | (refine k_down rfl ?_) | (refine k_shr32 rfl rfl ?_) | (refine k_pure rfl ?_) | (refine then_normal ?_) | (refine cw_seq ?_) | (refine cw_region rfl ?_) | (refine rr_nil ?_) | (refine k_len rfl ?_) | (refine g_run rfl rfl ?_) | (refine g_skip rfl rfl ?_) | (refine g_dec_f rfl rfl (fun hc => ?_) (fun hc => ?_)) | (refine g_dec_t rfl rfl (fun hc => ?_) (fun hc => ?_)) | (refine g_ndec_f rfl rfl (fun hc => ?_) (fun hc => ?_)) | (refine g_ndec_t rfl rfl (fun hc => ?_) (fun hc => ?_)) | (refine g_split rfl rfl (fun hc => ?_) (fun hc => ?_)) | (refine k_addI rfl rfl (by omega) (by omega) ?_) | (refine k_subI rfl rfl (by omega) (by omega) ?_) | (refine k_fieldAddr rfl ?_) | (refine k_eqlB rfl rfl ?_) | (refine k_neqB rfl rfl ?_) | (refine cw_cond_true rfl ?_) | (refine cw_cond_false rfl ?_) | (refine cw_cond_dec rfl (fun hc => ?_) (fun hc => ?_)) | (refine cw_cond_ndec rfl (fun hc => ?_) (fun hc => ?_)) | (refine cw_cond rfl (fun hc => ?_) (fun hc => ?_)) | (refine cw_block ?_) | (refine cw_exit ?_) | (refine then_exit ?_) | (refine in_exit ?_) | (refine in_exit_ne rfl ?_) | (refine in_normal ?_) | (refine cw_ret ?_) | (refine then_ret ?_) | (refine in_ret ?_) | (refine cw_skip ?_))
  refine k_lit2 rfl rfl rfl rfl (fun g2 w2 hn2 => ⟨fun _ _ => trivial, ?_⟩)
  have hL : Limbs w2 (some ⟨g2, 0, none⟩) 2 [n % 4294967296, n / 4294967296 % 4294967296] := ⟨hn2.blk.sl, by simp, by intro d hd; simp at hd; omega, by simp⟩
  refine k_call (refMake_spec hL neg) rfl ?_
  rintro v w3 ⟨hI, hE3⟩
  obtain ⟨ng, a', c', ls, rfl, hI'⟩ := id hI
  refine ⟨fun _ _ => trivial, ?_⟩
  have hb : Blk w3 g 24 (intL false none 0 0) := Blk.ext (cs := intL false none 0 0) (Blk.ext (cs := intL false none 0 0) hn1.blk hn2.ex) hE3
  have l1 := hn1.lo
  have l2 := hn1.hi
  have l3 := hn2.ex.size
  refine k_storeV (n := 2) rfl rfl rfl rfl hb rfl (fun w4 hc4 hb4 => ⟨fun _ _ => trivial, ?_⟩)
  repeat' (first | (refine k_pure rfl ?_) | (refine then_normal ?_) | (refine cw_seq ?_) | (refine cw_region rfl ?_) | (refine rr_nil ?_) | (refine k_len rfl ?_) | (refine g_run rfl rfl ?_) | (refine g_skip rfl rfl ?_) | (refine g_dec_f rfl rfl (fun hc => ?_) (fun hc => ?_)) | (refine g_dec_t rfl rfl (fun hc => ?_) (fun hc => ?_)) | (refine g_ndec_f rfl rfl (fun hc => ?_) (fun hc => ?_)) | (refine g_ndec_t rfl rfl (fun hc => ?_) (fun hc => ?_)) | (refine g_split rfl rfl (fun hc => ?_) (fun hc => ?_)) | (refine k_addI rfl rfl (by omega) (by omega) ?_) | (refine k_subI rfl rfl (by omega) (by omega) ?_) | (refine k_fieldAddr rfl ?_) | (refine k_eqlB rfl rfl ?_) | (refine k_neqB rfl rfl ?_) | (refine cw_cond_true rfl ?_) | (refine cw_cond_false rfl ?_) | (refine cw_cond_dec rfl (fun hc => ?_) (fun hc => ?_)) | (refine cw_cond_ndec rfl (fun hc => ?_) (fun hc => ?_)) | (refine cw_cond rfl (fun hc => ?_) (fun hc => ?_)) | (refine cw_block ?_) | (refine cw_exit ?_) | (refine then_exit ?_) | (refine in_exit ?_) | (refine in_exit_ne rfl ?_) | (refine in_normal ?_) | (refine cw_ret ?_) | (refine then_ret ?_) | (refine in_ret ?_) | (refine cw_skip ?_))
  refine ret1 rfl (rc rfl rfl hb4) ⟨?_, ((hn1.ex.trans hn2.ex).trans hE3).chg hc4 l1⟩
  have e : natOf [n % 4294967296, n / 4294967296 % 4294967296] = n := by simp [natOf]; omega
  rw [e] at hI
  exact (hI.chg hc4 (by omega)).mono (by omega)

theorem refSmall_spec {z : Int} (h1 : -9223372036854775808 ≤ z) (h2 : z ≤ 9223372036854775807) (w : World) : CallsR Try.prog 17 #[.int .i64 z] w (RetZ w z) := by
  refine callsR_of (args := [_]) Try.func17 rfl rfl ?_
  repeat' (first | (refine k_alloc (fun g w1 hn => ⟨fun _ _ => trivial, ?_⟩)) | (refine k_pure rfl ?_) | (refine then_normal ?_) | (refine cw_seq ?_) | (refine cw_region rfl ?_) | (refine rr_nil ?_) | (refine k_len rfl ?_) | (refine g_run rfl rfl ?_) | (refine g_skip rfl rfl ?_) | (refine g_dec_f rfl rfl (fun hc => ?_) (fun hc => ?_)) | (refine g_dec_t rfl rfl (fun hc => ?_) (fun hc => ?_)) | (refine g_ndec_f rfl rfl (fun hc => ?_) (fun hc => ?_)) | (refine g_ndec_t rfl rfl (fun hc => ?_) (fun hc => ?_)) | (refine g_split rfl rfl (fun hc => ?_) (fun hc => ?_)) | (refine k_addI rfl rfl (by omega) (by omega) ?_) | (refine k_subI rfl rfl (by omega) (by omega) ?_) | (refine k_fieldAddr rfl ?_) | (refine k_eqlB rfl rfl ?_) | (refine k_neqB rfl rfl ?_) | (refine cw_cond_true rfl ?_) | (refine cw_cond_false rfl ?_) | (refine cw_cond_dec rfl (fun hc => ?_) (fun hc => ?_)) | (refine cw_cond_ndec rfl (fun hc => ?_) (fun hc => ?_)) | (refine cw_cond rfl (fun hc => ?_) (fun hc => ?_)) | (refine cw_block ?_) | (refine cw_exit ?_) | (refine then_exit ?_) | (refine in_exit ?_) | (refine in_exit_ne rfl ?_) | (refine in_normal ?_) | (refine cw_ret ?_) | (refine then_ret ?_) | (refine in_ret ?_) | (refine cw_skip ?_))
  all_goals have hb : Blk w1 g 24 (intL false none 0 0) := hn.blk
  · refine k_conv rfl ?_
    refine k_negU rfl ?_
    obtain ⟨n, rfl⟩ : ∃ n : Nat, z = -(n : Int) := ⟨(-z).toNat, by omega⟩
    rw [show IntKind.u64.wrap (-IntKind.u64.wrap (-(n : Int))) = ((n : Nat) : Int) by
      rw [wrap_uns rfl, wrap_uns rfl]; simp only [IntKind.bits]; omega]
    refine k_call (refWord_spec (by omega) true _) rfl ?_
    rintro v w3 ⟨hI, hE3⟩
    obtain ⟨neg, a', c', ls, rfl, hI'⟩ := id hI
    refine ⟨fun _ _ => trivial, ?_⟩
    refine k_storeV (n := 2) rfl rfl rfl rfl (hb.ext hE3) rfl (fun w4 hc4 hb4 => ⟨fun _ _ => trivial, ?_⟩)
    repeat' (first | (refine k_pure rfl ?_) | (refine then_normal ?_) | (refine cw_seq ?_) | (refine cw_region rfl ?_) | (refine rr_nil ?_) | (refine k_len rfl ?_) | (refine g_run rfl rfl ?_) | (refine g_skip rfl rfl ?_) | (refine g_dec_f rfl rfl (fun hc => ?_) (fun hc => ?_)) | (refine g_dec_t rfl rfl (fun hc => ?_) (fun hc => ?_)) | (refine g_ndec_f rfl rfl (fun hc => ?_) (fun hc => ?_)) | (refine g_ndec_t rfl rfl (fun hc => ?_) (fun hc => ?_)) | (refine g_split rfl rfl (fun hc => ?_) (fun hc => ?_)) | (refine k_addI rfl rfl (by omega) (by omega) ?_) | (refine k_subI rfl rfl (by omega) (by omega) ?_) | (refine k_fieldAddr rfl ?_) | (refine k_eqlB rfl rfl ?_) | (refine k_neqB rfl rfl ?_) | (refine cw_cond_true rfl ?_) | (refine cw_cond_false rfl ?_) | (refine cw_cond_dec rfl (fun hc => ?_) (fun hc => ?_)) | (refine cw_cond_ndec rfl (fun hc => ?_) (fun hc => ?_)) | (refine cw_cond rfl (fun hc => ?_) (fun hc => ?_)) | (refine cw_block ?_) | (refine cw_exit ?_) | (refine then_exit ?_) | (refine in_exit ?_) | (refine in_exit_ne rfl ?_) | (refine in_normal ?_) | (refine cw_ret ?_) | (refine then_ret ?_) | (refine in_ret ?_) | (refine cw_skip ?_))
    exact ret1 rfl (rc rfl rfl hb4) ⟨(hI.chg hc4 hn.hi).mono hn.ex.size, (hn.ex.trans hE3).chg hc4 hn.lo⟩
  · obtain ⟨n, rfl⟩ : ∃ n : Nat, z = (n : Int) := ⟨z.toNat, by omega⟩
    refine k_convI rfl (wrap_u64 (by omega) (by omega)) ?_
    refine k_call (refWord_spec (by omega) false _) rfl ?_
    rintro v w3 ⟨hI, hE3⟩
    obtain ⟨neg, a', c', ls, rfl, hI'⟩ := id hI
    refine ⟨fun _ _ => trivial, ?_⟩
    refine k_storeV (n := 2) rfl rfl rfl rfl (hb.ext hE3) rfl (fun w4 hc4 hb4 => ⟨fun _ _ => trivial, ?_⟩)
    repeat' (first | (refine k_pure rfl ?_) | (refine then_normal ?_) | (refine cw_seq ?_) | (refine cw_region rfl ?_) | (refine rr_nil ?_) | (refine k_len rfl ?_) | (refine g_run rfl rfl ?_) | (refine g_skip rfl rfl ?_) | (refine g_dec_f rfl rfl (fun hc => ?_) (fun hc => ?_)) | (refine g_dec_t rfl rfl (fun hc => ?_) (fun hc => ?_)) | (refine g_ndec_f rfl rfl (fun hc => ?_) (fun hc => ?_)) | (refine g_ndec_t rfl rfl (fun hc => ?_) (fun hc => ?_)) | (refine g_split rfl rfl (fun hc => ?_) (fun hc => ?_)) | (refine k_addI rfl rfl (by omega) (by omega) ?_) | (refine k_subI rfl rfl (by omega) (by omega) ?_) | (refine k_fieldAddr rfl ?_) | (refine k_eqlB rfl rfl ?_) | (refine k_neqB rfl rfl ?_) | (refine cw_cond_true rfl ?_) | (refine cw_cond_false rfl ?_) | (refine cw_cond_dec rfl (fun hc => ?_) (fun hc => ?_)) | (refine cw_cond_ndec rfl (fun hc => ?_) (fun hc => ?_)) | (refine cw_cond rfl (fun hc => ?_) (fun hc => ?_)) | (refine cw_block ?_) | (refine cw_exit ?_) | (refine then_exit ?_) | (refine in_exit ?_) | (refine in_exit_ne rfl ?_) | (refine in_normal ?_) | (refine cw_ret ?_) | (refine then_ret ?_) | (refine in_ret ?_) | (refine cw_skip ?_))
    exact ret1 rfl (rc rfl rfl hb4) ⟨(hI.chg hc4 hn.hi).mono hn.ex.size, (hn.ex.trans hE3).chg hc4 hn.lo⟩

theorem refCmp_spec {la lb : List Nat} {a b : Option Addr} {c d : Nat} {w : World} (ha : Limbs w a c la) (hb : Limbs w b d lb) (ca : Canon la) (cb : Canon lb) :
    CallsR Try.prog 48 #[.slice a la.length c, .slice b lb.length d] w fun v w' => v = .int .i64 (cmpZ (natOf la) (natOf lb)) ∧ Ex w w' := by
  have hla := ha.len
  refine callsR_of (args := [_, _]) Try.func48 rfl rfl ?_
  repeat' (first | (refine k_pure rfl ?_) | (refine then_normal ?_) | (refine cw_seq ?_) | (refine cw_region rfl ?_) | (refine rr_nil ?_) | (refine k_len rfl ?_) | (refine g_run rfl rfl ?_) | (refine g_skip rfl rfl ?_) | (refine g_dec_f rfl rfl (fun hc => ?_) (fun hc => ?_)) | (refine g_dec_t rfl rfl (fun hc => ?_) (fun hc => ?_)) | (refine g_ndec_f rfl rfl (fun hc => ?_) (fun hc => ?_)) | (refine g_ndec_t rfl rfl (fun hc => ?_) (fun hc => ?_)) | (refine g_split rfl rfl (fun hc => ?_) (fun hc => ?_)) | (refine k_addI rfl rfl (by omega) (by omega) ?_) | (refine k_subI rfl rfl (by omega) (by omega) ?_) | (refine k_fieldAddr rfl ?_) | (refine k_eqlB rfl rfl ?_) | (refine k_neqB rfl rfl ?_) | (refine cw_cond_true rfl ?_) | (refine cw_cond_false rfl ?_) | (refine cw_cond_dec rfl (fun hc => ?_) (fun hc => ?_)) | (refine cw_cond_ndec rfl (fun hc => ?_) (fun hc => ?_)) | (refine cw_cond rfl (fun hc => ?_) (fun hc => ?_)) | (refine cw_block ?_) | (refine cw_exit ?_) | (refine then_exit ?_) | (refine in_exit ?_) | (refine in_exit_ne rfl ?_) | (refine in_normal ?_) | (refine cw_ret ?_) | (refine then_ret ?_) | (refine in_ret ?_) | (refine cw_skip ?_))
  · refine ret1 rfl (rt rfl) ⟨?_, Ex.refl _⟩
    rw [cmpZ, if_pos (lt_of_len ha.lim cb (by omega))]; rfl
  · refine ret1 rfl (rt rfl) ⟨?_, Ex.refl _⟩
    have := lt_of_len hb.lim ca (by omega)
    rw [cmpZ, if_neg (by omega), if_pos this]; rfl
  · have hl : la.length = lb.length := by omega
    refine cw_loop (ι := Nat) [4, 5, 19, 20, 21, 22, 23, 24, 25, 26, 27, 28, 29, 30, 31, 32, 33, 34, 35, 36, 37, 38, 39, 40] (fun k => [(5, .int .i64 ((k : Int) - 1))]) (fun k w' => k ≤ la.length ∧ Ex w w' ∧ natOf (la.drop k) = natOf (lb.drop k)) (fun k => k) la.length ⟨rfl, trivial⟩
      ⟨Nat.le_refl _, Ex.refl _, by rw [List.drop_length, hl, List.drop_length]⟩ ?_
    rintro k ξ w2 ⟨hk, hE, hT⟩
    repeat' (first | (refine k_pure rfl ?_) | (refine then_normal ?_) | (refine cw_seq ?_) | (refine cw_region rfl ?_) | (refine rr_nil ?_) | (refine k_len rfl ?_) | (refine g_run rfl rfl ?_) | (refine g_skip rfl rfl ?_) | (refine g_dec_f rfl rfl (fun hc => ?_) (fun hc => ?_)) | (refine g_dec_t rfl rfl (fun hc => ?_) (fun hc => ?_)) | (refine g_ndec_f rfl rfl (fun hc => ?_) (fun hc => ?_)) | (refine g_ndec_t rfl rfl (fun hc => ?_) (fun hc => ?_)) | (refine g_split rfl rfl (fun hc => ?_) (fun hc => ?_)) | (refine k_addI rfl rfl (by omega) (by omega) ?_) | (refine k_subI rfl rfl (by omega) (by omega) ?_) | (refine k_fieldAddr rfl ?_) | (refine k_eqlB rfl rfl ?_) | (refine k_neqB rfl rfl ?_) | (refine cw_cond_true rfl ?_) | (refine cw_cond_false rfl ?_) | (refine cw_cond_dec rfl (fun hc => ?_) (fun hc => ?_)) | (refine cw_cond_ndec rfl (fun hc => ?_) (fun hc => ?_)) | (refine cw_cond rfl (fun hc => ?_) (fun hc => ?_)) | (refine cw_block ?_) | (refine cw_exit ?_) | (refine then_exit ?_) | (refine in_exit ?_) | (refine in_exit_ne rfl ?_) | (refine in_normal ?_) | (refine cw_ret ?_) | (refine then_ret ?_) | (refine in_ret ?_) | (refine cw_skip ?_))
    · obtain ⟨j, rfl⟩ : ∃ j, k = j + 1 := ⟨k - 1, by omega⟩
      rw [show ((j + 1 : Nat) : Int) - 1 = (j : Int) by omega]
      refine cw_draw (late := []) (plan := [(0, none), (1, none), (2, none), (3, none), (4, none), (5, none), (6, none), (7, none), (8, none)]) (fun w' => Ex w w') mixed (by kernel_rfl) hE.drew ?_
      repeat' (first | (refine k_indexN (j := j) rfl rfl (ha.sl.plain (by simp; omega)) (by omega) ?_) | (refine k_indexN (j := j) rfl rfl (hb.sl.plain (by simp; omega)) (by omega) ?_) | (refine k_loadN rfl (fun _ h => ha.sl.ext h) (by omega) ?_) | (refine k_loadN rfl (fun _ h => hb.sl.ext h) (by omega) ?_) | (refine k_pure rfl ?_) | (refine then_normal ?_) | (refine cw_seq ?_) | (refine cw_region rfl ?_) | (refine rr_nil ?_) | (refine k_len rfl ?_) | (refine g_run rfl rfl ?_) | (refine g_skip rfl rfl ?_) | (refine g_dec_f rfl rfl (fun hc => ?_) (fun hc => ?_)) | (refine g_dec_t rfl rfl (fun hc => ?_) (fun hc => ?_)) | (refine g_ndec_f rfl rfl (fun hc => ?_) (fun hc => ?_)) | (refine g_ndec_t rfl rfl (fun hc => ?_) (fun hc => ?_)) | (refine g_split rfl rfl (fun hc => ?_) (fun hc => ?_)) | (refine k_addI rfl rfl (by omega) (by omega) ?_) | (refine k_subI rfl rfl (by omega) (by omega) ?_) | (refine k_fieldAddr rfl ?_) | (refine k_eqlB rfl rfl ?_) | (refine k_neqB rfl rfl ?_) | (refine cw_cond_true rfl ?_) | (refine cw_cond_false rfl ?_) | (refine cw_cond_dec rfl (fun hc => ?_) (fun hc => ?_)) | (refine cw_cond_ndec rfl (fun hc => ?_) (fun hc => ?_)) | (refine cw_cond rfl (fun hc => ?_) (fun hc => ?_)) | (refine cw_block ?_) | (refine cw_exit ?_) | (refine then_exit ?_) | (refine in_exit ?_) | (refine in_exit_ne rfl ?_) | (refine in_normal ?_) | (refine cw_ret ?_) | (refine then_ret ?_) | (refine in_ret ?_) | (refine cw_skip ?_))
      · refine cw_draw (late := []) (plan := [(0, none), (1, none), (2, none), (3, none), (4, none), (5, none), (6, none), (7, none), (8, none)]) (fun w' => Ex w w') mixed (by kernel_rfl) hE.drew.drew ?_
        repeat' (first | (refine k_indexN (j := j) rfl rfl (ha.sl.plain (by simp; omega)) (by omega) ?_) | (refine k_indexN (j := j) rfl rfl (hb.sl.plain (by simp; omega)) (by omega) ?_) | (refine k_loadN rfl (fun _ h => ha.sl.ext h) (by omega) ?_) | (refine k_loadN rfl (fun _ h => hb.sl.ext h) (by omega) ?_) | (refine k_pure rfl ?_) | (refine then_normal ?_) | (refine cw_seq ?_) | (refine cw_region rfl ?_) | (refine rr_nil ?_) | (refine k_len rfl ?_) | (refine g_run rfl rfl ?_) | (refine g_skip rfl rfl ?_) | (refine g_dec_f rfl rfl (fun hc => ?_) (fun hc => ?_)) | (refine g_dec_t rfl rfl (fun hc => ?_) (fun hc => ?_)) | (refine g_ndec_f rfl rfl (fun hc => ?_) (fun hc => ?_)) | (refine g_ndec_t rfl rfl (fun hc => ?_) (fun hc => ?_)) | (refine g_split rfl rfl (fun hc => ?_) (fun hc => ?_)) | (refine k_addI rfl rfl (by omega) (by omega) ?_) | (refine k_subI rfl rfl (by omega) (by omega) ?_) | (refine k_fieldAddr rfl ?_) | (refine k_eqlB rfl rfl ?_) | (refine k_neqB rfl rfl ?_) | (refine cw_cond_true rfl ?_) | (refine cw_cond_false rfl ?_) | (refine cw_cond_dec rfl (fun hc => ?_) (fun hc => ?_)) | (refine cw_cond_ndec rfl (fun hc => ?_) (fun hc => ?_)) | (refine cw_cond rfl (fun hc => ?_) (fun hc => ?_)) | (refine cw_block ?_) | (refine cw_exit ?_) | (refine then_exit ?_) | (refine in_exit ?_) | (refine in_exit_ne rfl ?_) | (refine in_normal ?_) | (refine cw_ret ?_) | (refine then_ret ?_) | (refine in_ret ?_) | (refine cw_skip ?_))
        · refine ret1 rfl (rt rfl) ⟨?_, hE.drew.drew⟩
          rw [cmpZ, if_pos (lt_of_digit (i := j) ha.lim hl (by omega) hT (by omega))]; rfl
        · refine ret1 rfl (rt rfl) ⟨?_, hE.drew.drew⟩
          have := lt_of_digit (i := j) hb.lim hl.symm (by omega) hT.symm (by omega)
          rw [cmpZ, if_neg (by omega), if_pos this]; rfl
      · refine ⟨⟨j, ⟨by omega, hE.drew, ?_⟩, by omega, ?_, trivial⟩, (by (repeat (first | exact agree_mask _ _ _ | refine agree_upd rfl ?_ | refine agree_updO rfl ?_ | refine agree_overIn rfl ?_ | refine agree_maskIn rfl ?_)))⟩
        · rw [natOf_drop (ls := la) (k := j) (by omega), natOf_drop (ls := lb) (k := j) (by omega), hT, show la.getD j 0 = lb.getD j 0 by omega]
        · rfl
    · obtain rfl : k = 0 := by omega
      simp only [List.drop_zero] at hT
      refine ret1 rfl (rt rfl) ⟨?_, hE⟩
      rw [cmpZ, if_neg (by omega), if_neg (by omega)]; rfl

theorem sgn_inj {n1 n2 : Bool} {l1 l2 : List Nat} (c1 : Canon l1) (c2 : Canon l2) (g1 : n1 = true → l1 ≠ []) (g2 : n2 = true → l2 ≠ []) :
    sgn n1 (natOf l1) = sgn n2 (natOf l2) ↔ n1 = n2 ∧ natOf l1 = natOf l2 := by
  have hz : ∀ {l : List Nat}, Canon l → natOf l = 0 → l = [] := fun {l} c h => by have := trimL_zero.2 h; rwa [c] at this
  unfold sgn
  cases n1 <;> cases n2 <;> simp
  · omega
  · intro h
    have h2 : natOf l2 = 0 := by omega
    exact g2 rfl (hz c2 h2)
  · intro h
    have h1 : natOf l1 = 0 := by omega
    exact g1 rfl (hz c1 h1)
  · omega

theorem refSame_spec {lo lo' : Nat} {v1 v2 : Value} {x y : Int} {w : World} (h1 : IntC lo w v1 x) (h2 : IntC lo' w v2 y) :
    CallsR Try.prog 16 #[v1, v2] w fun v w' => v = .bool (decide (x = y)) ∧ Ex w w' := by
  obtain ⟨n1, a1, c1, l1, rfl, hL1, rfl, hc1, g1, _⟩ := h1
  obtain ⟨n2, a2, c2, l2, rfl, hL2, rfl, hc2, g2, _⟩ := h2
  have hiff := sgn_inj hc1 hc2 g1 g2
  refine callsR_of (args := [_, _]) Try.func16 rfl rfl ?_
  refine cw_seq ?_
  refine cw_region rfl ?_
  refine k_boxA rfl (fun ga w2 hn2 => ⟨fun _ _ => trivial, ?_⟩)
  refine k_boxA rfl (fun gb w3 hn3 => ⟨fun _ _ => trivial, ?_⟩)
  have hb2 := hn2.blk.ext hn3.ex
  have hb3 := hn3.blk
  have hE := hn2.ex.trans hn3.ex
  have hle : natOf l1 = natOf l2 → l1.length = l2.length := fun h => by rw [canon_unique hL1.lim hL2.lim hc1 hc2 h]
  repeat' (first | (refine k_loadC rfl hb2 rfl ?_) | (refine k_loadC rfl hb3 rfl ?_) | (refine k_pure rfl ?_) | (refine then_normal ?_) | (refine cw_seq ?_) | (refine cw_region rfl ?_) | (refine rr_nil ?_) | (refine k_len rfl ?_) | (refine g_run rfl rfl ?_) | (refine g_skip rfl rfl ?_) | (refine g_dec_f rfl rfl (fun hc => ?_) (fun hc => ?_)) | (refine g_dec_t rfl rfl (fun hc => ?_) (fun hc => ?_)) | (refine g_ndec_f rfl rfl (fun hc => ?_) (fun hc => ?_)) | (refine g_ndec_t rfl rfl (fun hc => ?_) (fun hc => ?_)) | (refine g_split rfl rfl (fun hc => ?_) (fun hc => ?_)) | (refine k_addI rfl rfl (by omega) (by omega) ?_) | (refine k_subI rfl rfl (by omega) (by omega) ?_) | (refine k_fieldAddr rfl ?_) | (refine k_eqlB rfl rfl ?_) | (refine k_neqB rfl rfl ?_) | (refine cw_cond_true rfl ?_) | (refine cw_cond_false rfl ?_) | (refine cw_cond_dec rfl (fun hc => ?_) (fun hc => ?_)) | (refine cw_cond_ndec rfl (fun hc => ?_) (fun hc => ?_)) | (refine cw_cond rfl (fun hc => ?_) (fun hc => ?_)) | (refine cw_block ?_) | (refine cw_exit ?_) | (refine then_exit ?_) | (refine in_exit ?_) | (refine in_exit_ne rfl ?_) | (refine in_normal ?_) | (refine cw_ret ?_) | (refine then_ret ?_) | (refine in_ret ?_) | (refine cw_skip ?_))
  · refine k_call (refCmp_spec (hL1.ext hE) (hL2.ext hE) hc1 hc2) rfl ?_
    rintro v w4 ⟨rfl, hE4⟩
    refine ⟨fun _ _ => trivial, ?_⟩
    repeat' (first | (refine k_pure rfl ?_) | (refine then_normal ?_) | (refine cw_seq ?_) | (refine cw_region rfl ?_) | (refine rr_nil ?_) | (refine k_len rfl ?_) | (refine g_run rfl rfl ?_) | (refine g_skip rfl rfl ?_) | (refine g_dec_f rfl rfl (fun hc => ?_) (fun hc => ?_)) | (refine g_dec_t rfl rfl (fun hc => ?_) (fun hc => ?_)) | (refine g_ndec_f rfl rfl (fun hc => ?_) (fun hc => ?_)) | (refine g_ndec_t rfl rfl (fun hc => ?_) (fun hc => ?_)) | (refine g_split rfl rfl (fun hc => ?_) (fun hc => ?_)) | (refine k_addI rfl rfl (by omega) (by omega) ?_) | (refine k_subI rfl rfl (by omega) (by omega) ?_) | (refine k_fieldAddr rfl ?_) | (refine k_eqlB rfl rfl ?_) | (refine k_neqB rfl rfl ?_) | (refine cw_cond_true rfl ?_) | (refine cw_cond_false rfl ?_) | (refine cw_cond_dec rfl (fun hc => ?_) (fun hc => ?_)) | (refine cw_cond_ndec rfl (fun hc => ?_) (fun hc => ?_)) | (refine cw_cond rfl (fun hc => ?_) (fun hc => ?_)) | (refine cw_block ?_) | (refine cw_exit ?_) | (refine then_exit ?_) | (refine in_exit ?_) | (refine in_exit_ne rfl ?_) | (refine in_normal ?_) | (refine cw_ret ?_) | (refine then_ret ?_) | (refine in_ret ?_) | (refine cw_skip ?_))
    refine ret1 rfl (rt rfl) ⟨congrArg Value.bool (decide_eq_decide.2 ?_), hE.trans hE4⟩
    rw [hiff]
    unfold cmpZ
    have hn : n1 = n2 := by assumption
    constructor
    · intro h
      refine ⟨hn, ?_⟩
      split at h
      · omega
      · split at h
        · omega
        · omega
    · rintro ⟨_, h⟩
      rw [if_neg (by omega), if_neg (by omega)]
  all_goals
    refine ret1 rfl (rt rfl) ⟨congrArg Value.bool (Eq.symm (decide_eq_false ?_)), hE⟩
    rw [hiff]
    rintro ⟨h1, h2⟩
    have := hle h2
    first | omega | (subst h1; simp_all; done)
end Go.Proofs.Ythhfjagnmhhapaa

