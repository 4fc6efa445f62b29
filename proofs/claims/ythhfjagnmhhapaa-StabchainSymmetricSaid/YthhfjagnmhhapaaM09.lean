
import Derived.Test.YthhfjagnmhhapaaM01
import Derived.Test.YthhfjagnmhhapaaM02
import Derived.Test.YthhfjagnmhhapaaM03
import Derived.Test.YthhfjagnmhhapaaM04
import Derived.Test.YthhfjagnmhhapaaM05
import Derived.Test.YthhfjagnmhhapaaM06
import Derived.Test.YthhfjagnmhhapaaM07
import Derived.Test.YthhfjagnmhhapaaM08

namespace Go.Proofs.Ythhfjagnmhhapaa
open Go.W Go.PM
theorem whereL_one {n pt : Nat} (h : pt < n) : (List.replicate n (-1 : Int)).set pt 0 = whereL n [(pt : Int)] := by
  apply List.ext_getElem?
  intro i
  rw [List.getElem?_set]
  by_cases e : pt = i
  · subst e
    rw [if_pos rfl, if_pos (by simpa using h)]
    have := whereL_getD (n := n) [(pt : Int)] h
    rw [List.getD_eq_getElem?_getD, List.getElem?_eq_getElem (by rw [whereL_len]; exact h), Option.getD_some] at this
    rw [List.getElem?_eq_getElem (by rw [whereL_len]; exact h), this]
    simp [whereAt]
  · rw [if_neg e, List.getElem?_replicate]
    by_cases hi : i < n
    · have h1 := whereL_getD (n := n) [(pt : Int)] hi
      rw [List.getD_eq_getElem?_getD, List.getElem?_eq_getElem (by rw [whereL_len]; exact hi), Option.getD_some] at h1
      rw [if_pos hi, List.getElem?_eq_getElem (by rw [whereL_len]; exact hi), h1]
      have : ¬ (i : Int) = pt := by omega
      simp [whereAt, this]
    · rw [if_neg hi, List.getElem?_eq_none (by rw [whereL_len]; omega)]
theorem newLv_spec {n pt : Nat} {gens : List (List Int)} {ga : Option Addr} {gc : Nat} {gs : List SD} {im : List Nat} {w : World} (h1 : 1 ≤ n ∧ n ≤ 512) (hpt : pt < n) (hgn : GensN n gens) (hga : Sl w ga (gs.map SD.val)) (hgs : PsAt w n im gs gens)
    (hgim : ∀ ad, ga = some ad → ad.block ∈ im) (himlt : ∀ g, g ∈ im → g < w.heap.size) (hcap : gens.length ≤ gc) (hgl : gens.length ≤ 1000000000000) :
    CallsR Try.prog 82 #[.int .i64 (n : Int), .int .i64 (pt : Int), .slice ga gens.length gc] w fun v w' => ∃ h' l', v = .pointer (some ⟨h'.blk, 0, none⟩) ∧ LvAt w' n h' l' ∧ LvOK n l' ∧ l'.pt = pt ∧ l'.gens = gens ∧ (∀ a, l'.done.getD a 0 = 0) ∧ Ex w w' ∧
      (∀ q, q ∈ h'.F → w.heap.size ≤ q) ∧ (∀ q, q ∈ h'.im → q ∈ im ∨ w.heap.size ≤ q) ∧ h'.ga = ga ∧ h'.gc = gens.length ∧ h'.gs = gs := by
  refine callsR_of (args := [_, _, _]) Try.func82 rfl rfl ?_
  repeat' (first | (refine k_pure rfl ?_) | (refine then_normal ?_) | (refine cw_seq ?_) | (refine cw_region rfl ?_) | (refine rr_nil ?_) | (refine k_len rfl ?_) | (refine g_run rfl rfl ?_) | (refine g_skip rfl rfl ?_) | (refine g_dec_f rfl rfl (fun hc => ?_) (fun hc => ?_)) | (refine g_dec_t rfl rfl (fun hc => ?_) (fun hc => ?_)) | (refine g_ndec_f rfl rfl (fun hc => ?_) (fun hc => ?_)) | (refine g_ndec_t rfl rfl (fun hc => ?_) (fun hc => ?_)) | (refine g_split rfl rfl (fun hc => ?_) (fun hc => ?_)) | (refine k_addI rfl rfl (by omega) (by omega) ?_) | (refine k_subI rfl rfl (by omega) (by omega) ?_) | (refine k_fieldAddr rfl ?_) | (refine k_eqlB rfl rfl ?_) | (refine k_neqB rfl rfl ?_) | (refine cw_cond_true rfl ?_) | (refine cw_cond_false rfl ?_) | (refine cw_cond_dec rfl (fun hc => ?_) (fun hc => ?_)) | (refine cw_cond_ndec rfl (fun hc => ?_) (fun hc => ?_)) | (refine cw_cond rfl (fun hc => ?_) (fun hc => ?_)) | (refine cw_block ?_) | (refine cw_exit ?_) | (refine then_exit ?_) | (refine in_exit ?_) | (refine in_exit_ne rfl ?_) | (refine in_normal ?_) | (refine cw_ret ?_) | (refine then_ret ?_) | (refine in_ret ?_) | (refine cw_skip ?_))
  have hEx : Ex w w.drew := (Ex.refl w).drew
  refine cw_join (ι := Nat × Nat) [7, 9, 10, 11, 12, 13, 14, 15] (fun s => [(7, .pointer (some ⟨s.1, 0, none⟩))])
    (fun s w' => Ex w w' ∧ w.heap.size ≤ s.1 ∧ w.heap.size ≤ s.2 ∧ s.1 ≠ s.2 ∧ Blk w' s.2 3 (intsL (List.replicate n 0)) ∧ Blk w' s.1 95 [.int .i64 (pt : Int), .slice ga gens.length gens.length, .slice none 0 0, .slice (ba s.2) n n, .slice none 0 0, .slice none 0 0]) ?_ ?_
  refine cw_tree (fun w' => Ex w w') mixed hEx ?_
  refine rb_pre (fuel := 5) (by kernel_rfl) (by kernel_rfl) [0, 1, 3] _ _ (by kernel_rfl) ?_
  repeat' (first | (refine k_build (cs := [.int .i64 (pt : Int), .slice ga gens.length gens.length, .slice none 0 0, .slice (ba wb) n n, .slice none 0 0, .slice none 0 0]) rfl ?_) | (refine k_pure rfl ?_) | (refine then_normal ?_) | (refine cw_seq ?_) | (refine cw_region rfl ?_) | (refine rr_nil ?_) | (refine k_len rfl ?_) | (refine g_run rfl rfl ?_) | (refine g_skip rfl rfl ?_) | (refine g_dec_f rfl rfl (fun hc => ?_) (fun hc => ?_)) | (refine g_dec_t rfl rfl (fun hc => ?_) (fun hc => ?_)) | (refine g_ndec_f rfl rfl (fun hc => ?_) (fun hc => ?_)) | (refine g_ndec_t rfl rfl (fun hc => ?_) (fun hc => ?_)) | (refine g_split rfl rfl (fun hc => ?_) (fun hc => ?_)) | (refine k_addI rfl rfl (by omega) (by omega) ?_) | (refine k_subI rfl rfl (by omega) (by omega) ?_) | (refine k_fieldAddr rfl ?_) | (refine k_eqlB rfl rfl ?_) | (refine k_neqB rfl rfl ?_) | (refine cw_cond_true rfl ?_) | (refine cw_cond_false rfl ?_) | (refine cw_cond_dec rfl (fun hc => ?_) (fun hc => ?_)) | (refine cw_cond_ndec rfl (fun hc => ?_) (fun hc => ?_)) | (refine cw_cond rfl (fun hc => ?_) (fun hc => ?_)) | (refine cw_block ?_) | (refine cw_exit ?_) | (refine then_exit ?_) | (refine in_exit ?_) | (refine in_exit_ne rfl ?_) | (refine in_normal ?_) | (refine cw_ret ?_) | (refine then_ret ?_) | (refine in_ret ?_) | (refine cw_skip ?_))
  refine rb_all (fuel := 4) (rs := [2, 4]) (by kernel_rfl) (by kernel_rfl) rfl ?_
  simp only [List.forall_mem_cons, List.not_mem_nil, false_implies, implies_true, and_true]
  refine ⟨?_, ?_⟩
  · refine k_call (clip_spec hcap) rfl ?_
    rintro v w0 ⟨rfl, rfl⟩
    refine ⟨fun _ h => h, ?_⟩
    refine rr_nil ?_
    refine rb_all (fuel := 3) (rs := [4]) (by kernel_rfl) (by kernel_rfl) rfl ?_
    rw [List.forall_mem_singleton]
    refine k_makeI rfl rfl (by omega) (by omega) (fun wb w1 hn1 => ⟨fun _ h => h.trans hn1.ex, ?_⟩)
    replace hn1 := hn1
    refine rr_nil ?_
    refine rb_pre (fuel := 2) (by kernel_rfl) (by kernel_rfl) [5] _ _ (by kernel_rfl) ?_
    repeat' (first | (refine k_build (cs := [.int .i64 (pt : Int), .slice ga gens.length gens.length, .slice none 0 0, .slice (ba wb) n n, .slice none 0 0, .slice none 0 0]) rfl ?_) | (refine k_pure rfl ?_) | (refine then_normal ?_) | (refine cw_seq ?_) | (refine cw_region rfl ?_) | (refine rr_nil ?_) | (refine k_len rfl ?_) | (refine g_run rfl rfl ?_) | (refine g_skip rfl rfl ?_) | (refine g_dec_f rfl rfl (fun hc => ?_) (fun hc => ?_)) | (refine g_dec_t rfl rfl (fun hc => ?_) (fun hc => ?_)) | (refine g_ndec_f rfl rfl (fun hc => ?_) (fun hc => ?_)) | (refine g_ndec_t rfl rfl (fun hc => ?_) (fun hc => ?_)) | (refine g_split rfl rfl (fun hc => ?_) (fun hc => ?_)) | (refine k_addI rfl rfl (by omega) (by omega) ?_) | (refine k_subI rfl rfl (by omega) (by omega) ?_) | (refine k_fieldAddr rfl ?_) | (refine k_eqlB rfl rfl ?_) | (refine k_neqB rfl rfl ?_) | (refine cw_cond_true rfl ?_) | (refine cw_cond_false rfl ?_) | (refine cw_cond_dec rfl (fun hc => ?_) (fun hc => ?_)) | (refine cw_cond_ndec rfl (fun hc => ?_) (fun hc => ?_)) | (refine cw_cond rfl (fun hc => ?_) (fun hc => ?_)) | (refine cw_block ?_) | (refine cw_exit ?_) | (refine then_exit ?_) | (refine in_exit ?_) | (refine in_exit_ne rfl ?_) | (refine in_normal ?_) | (refine cw_ret ?_) | (refine then_ret ?_) | (refine in_ret ?_) | (refine cw_skip ?_))
    refine rb_all (fuel := 1) (rs := [6]) (by kernel_rfl) (by kernel_rfl) rfl ?_
    rw [List.forall_mem_singleton]
    refine k_boxA rfl (fun nb w2 hn2 => ⟨fun _ h => h.trans hn2.ex, ?_⟩)
    refine rr_nil ?_
    refine rb_pre (fuel := 0) (by kernel_rfl) (by kernel_rfl) [7] _ _ (by kernel_rfl) ?_
    repeat' (first | (refine k_build (cs := [.int .i64 (pt : Int), .slice ga gens.length gens.length, .slice none 0 0, .slice (ba wb) n n, .slice none 0 0, .slice none 0 0]) rfl ?_) | (refine k_pure rfl ?_) | (refine then_normal ?_) | (refine cw_seq ?_) | (refine cw_region rfl ?_) | (refine rr_nil ?_) | (refine k_len rfl ?_) | (refine g_run rfl rfl ?_) | (refine g_skip rfl rfl ?_) | (refine g_dec_f rfl rfl (fun hc => ?_) (fun hc => ?_)) | (refine g_dec_t rfl rfl (fun hc => ?_) (fun hc => ?_)) | (refine g_ndec_f rfl rfl (fun hc => ?_) (fun hc => ?_)) | (refine g_ndec_t rfl rfl (fun hc => ?_) (fun hc => ?_)) | (refine g_split rfl rfl (fun hc => ?_) (fun hc => ?_)) | (refine k_addI rfl rfl (by omega) (by omega) ?_) | (refine k_subI rfl rfl (by omega) (by omega) ?_) | (refine k_fieldAddr rfl ?_) | (refine k_eqlB rfl rfl ?_) | (refine k_neqB rfl rfl ?_) | (refine cw_cond_true rfl ?_) | (refine cw_cond_false rfl ?_) | (refine cw_cond_dec rfl (fun hc => ?_) (fun hc => ?_)) | (refine cw_cond_ndec rfl (fun hc => ?_) (fun hc => ?_)) | (refine cw_cond rfl (fun hc => ?_) (fun hc => ?_)) | (refine cw_block ?_) | (refine cw_exit ?_) | (refine then_exit ?_) | (refine in_exit ?_) | (refine in_exit_ne rfl ?_) | (refine in_normal ?_) | (refine cw_ret ?_) | (refine then_ret ?_) | (refine in_ret ?_) | (refine cw_skip ?_))
    refine rb_done (by kernel_rfl) ?_
    have s1 := hn1.hi
    have s2 := hn2.lo
    exact then_normal ⟨⟨(nb, wb), ⟨(hEx.trans hn1.ex).trans hn2.ex, Nat.le_trans (hEx.trans hn1.ex).size hn2.lo, Nat.le_trans hEx.size hn1.lo, by simp only; omega, hn1.blk.ext hn2.ex, hn2.blk⟩, rfl, trivial⟩, (by (repeat (first | exact agree_refl _ _ | refine agree_upd rfl ?_ | refine agree_updO rfl ?_ | refine agree_overIn rfl ?_ | refine agree_maskIn rfl ?_)))⟩
  · refine k_makeI rfl rfl (by omega) (by omega) (fun wb w1 hn1 => ⟨fun _ h => h.trans hn1.ex, ?_⟩)
    replace hn1 := hn1
    refine rr_nil ?_
    refine rb_all (fuel := 3) (rs := [2]) (by kernel_rfl) (by kernel_rfl) rfl ?_
    rw [List.forall_mem_singleton]
    refine k_call (clip_spec hcap) rfl ?_
    rintro v w0 ⟨rfl, rfl⟩
    refine ⟨fun _ h => h, ?_⟩
    refine rr_nil ?_
    refine rb_pre (fuel := 2) (by kernel_rfl) (by kernel_rfl) [5] _ _ (by kernel_rfl) ?_
    repeat' (first | (refine k_build (cs := [.int .i64 (pt : Int), .slice ga gens.length gens.length, .slice none 0 0, .slice (ba wb) n n, .slice none 0 0, .slice none 0 0]) rfl ?_) | (refine k_pure rfl ?_) | (refine then_normal ?_) | (refine cw_seq ?_) | (refine cw_region rfl ?_) | (refine rr_nil ?_) | (refine k_len rfl ?_) | (refine g_run rfl rfl ?_) | (refine g_skip rfl rfl ?_) | (refine g_dec_f rfl rfl (fun hc => ?_) (fun hc => ?_)) | (refine g_dec_t rfl rfl (fun hc => ?_) (fun hc => ?_)) | (refine g_ndec_f rfl rfl (fun hc => ?_) (fun hc => ?_)) | (refine g_ndec_t rfl rfl (fun hc => ?_) (fun hc => ?_)) | (refine g_split rfl rfl (fun hc => ?_) (fun hc => ?_)) | (refine k_addI rfl rfl (by omega) (by omega) ?_) | (refine k_subI rfl rfl (by omega) (by omega) ?_) | (refine k_fieldAddr rfl ?_) | (refine k_eqlB rfl rfl ?_) | (refine k_neqB rfl rfl ?_) | (refine cw_cond_true rfl ?_) | (refine cw_cond_false rfl ?_) | (refine cw_cond_dec rfl (fun hc => ?_) (fun hc => ?_)) | (refine cw_cond_ndec rfl (fun hc => ?_) (fun hc => ?_)) | (refine cw_cond rfl (fun hc => ?_) (fun hc => ?_)) | (refine cw_block ?_) | (refine cw_exit ?_) | (refine then_exit ?_) | (refine in_exit ?_) | (refine in_exit_ne rfl ?_) | (refine in_normal ?_) | (refine cw_ret ?_) | (refine then_ret ?_) | (refine in_ret ?_) | (refine cw_skip ?_))
    refine rb_all (fuel := 1) (rs := [6]) (by kernel_rfl) (by kernel_rfl) rfl ?_
    rw [List.forall_mem_singleton]
    refine k_boxA rfl (fun nb w2 hn2 => ⟨fun _ h => h.trans hn2.ex, ?_⟩)
    refine rr_nil ?_
    refine rb_pre (fuel := 0) (by kernel_rfl) (by kernel_rfl) [7] _ _ (by kernel_rfl) ?_
    repeat' (first | (refine k_build (cs := [.int .i64 (pt : Int), .slice ga gens.length gens.length, .slice none 0 0, .slice (ba wb) n n, .slice none 0 0, .slice none 0 0]) rfl ?_) | (refine k_pure rfl ?_) | (refine then_normal ?_) | (refine cw_seq ?_) | (refine cw_region rfl ?_) | (refine rr_nil ?_) | (refine k_len rfl ?_) | (refine g_run rfl rfl ?_) | (refine g_skip rfl rfl ?_) | (refine g_dec_f rfl rfl (fun hc => ?_) (fun hc => ?_)) | (refine g_dec_t rfl rfl (fun hc => ?_) (fun hc => ?_)) | (refine g_ndec_f rfl rfl (fun hc => ?_) (fun hc => ?_)) | (refine g_ndec_t rfl rfl (fun hc => ?_) (fun hc => ?_)) | (refine g_split rfl rfl (fun hc => ?_) (fun hc => ?_)) | (refine k_addI rfl rfl (by omega) (by omega) ?_) | (refine k_subI rfl rfl (by omega) (by omega) ?_) | (refine k_fieldAddr rfl ?_) | (refine k_eqlB rfl rfl ?_) | (refine k_neqB rfl rfl ?_) | (refine cw_cond_true rfl ?_) | (refine cw_cond_false rfl ?_) | (refine cw_cond_dec rfl (fun hc => ?_) (fun hc => ?_)) | (refine cw_cond_ndec rfl (fun hc => ?_) (fun hc => ?_)) | (refine cw_cond rfl (fun hc => ?_) (fun hc => ?_)) | (refine cw_block ?_) | (refine cw_exit ?_) | (refine then_exit ?_) | (refine in_exit ?_) | (refine in_exit_ne rfl ?_) | (refine in_normal ?_) | (refine cw_ret ?_) | (refine then_ret ?_) | (refine in_ret ?_) | (refine cw_skip ?_))
    refine rb_done (by kernel_rfl) ?_
    have s1 := hn1.hi
    have s2 := hn2.lo
    exact then_normal ⟨⟨(nb, wb), ⟨(hEx.trans hn1.ex).trans hn2.ex, Nat.le_trans (hEx.trans hn1.ex).size hn2.lo, Nat.le_trans hEx.size hn1.lo, by simp only; omega, hn1.blk.ext hn2.ex, hn2.blk⟩, rfl, trivial⟩, (by (repeat (first | exact agree_refl _ _ | refine agree_upd rfl ?_ | refine agree_updO rfl ?_ | refine agree_overIn rfl ?_ | refine agree_maskIn rfl ?_)))⟩
  rintro ⟨nb, wb⟩ ξ w1 ⟨hE1, hnb, hwb, hne, hw1, hs1⟩
  simp only at hnb hwb hne hw1 hs1
  show CW _ _ _ _ (over [(7, .pointer (some ⟨nb, 0, none⟩))] _) w1
  repeat' (first | (refine k_loadC rfl hs1 rfl ?_) | (refine k_pure rfl ?_) | (refine then_normal ?_) | (refine cw_seq ?_) | (refine cw_region rfl ?_) | (refine rr_nil ?_) | (refine k_len rfl ?_) | (refine g_run rfl rfl ?_) | (refine g_skip rfl rfl ?_) | (refine g_dec_f rfl rfl (fun hc => ?_) (fun hc => ?_)) | (refine g_dec_t rfl rfl (fun hc => ?_) (fun hc => ?_)) | (refine g_ndec_f rfl rfl (fun hc => ?_) (fun hc => ?_)) | (refine g_ndec_t rfl rfl (fun hc => ?_) (fun hc => ?_)) | (refine g_split rfl rfl (fun hc => ?_) (fun hc => ?_)) | (refine k_addI rfl rfl (by omega) (by omega) ?_) | (refine k_subI rfl rfl (by omega) (by omega) ?_) | (refine k_fieldAddr rfl ?_) | (refine k_eqlB rfl rfl ?_) | (refine k_neqB rfl rfl ?_) | (refine cw_cond_true rfl ?_) | (refine cw_cond_false rfl ?_) | (refine cw_cond_dec rfl (fun hc => ?_) (fun hc => ?_)) | (refine cw_cond_ndec rfl (fun hc => ?_) (fun hc => ?_)) | (refine cw_cond rfl (fun hc => ?_) (fun hc => ?_)) | (refine cw_block ?_) | (refine cw_exit ?_) | (refine then_exit ?_) | (refine in_exit ?_) | (refine in_exit_ne rfl ?_) | (refine in_normal ?_) | (refine cw_ret ?_) | (refine then_ret ?_) | (refine in_ret ?_) | (refine cw_skip ?_))
  refine cw_loop (ι := Nat × List Int) [8, 21, 22, 23, 24, 25, 26, 27, 28, 29, 30] (fun s => [(21, .int .i64 (s.1 : Int))]) (fun s w' => s.1 ≤ n ∧ Ex w w' ∧ Blk w' nb 95 [.int .i64 (pt : Int), .slice ga gens.length gens.length, .slice none 0 0, .slice (ba wb) n n, .slice none 0 0, .slice none 0 0] ∧ Blk w' wb 3 (intsL s.2) ∧ s.2.length = n ∧ s.2.take s.1 = List.replicate s.1 (-1)) (fun s => n - s.1)
    (0, List.replicate n 0) ⟨rfl, trivial⟩ ⟨Nat.zero_le _, hE1, hs1, hw1, by simp, rfl⟩ ?_
  rintro ⟨k, cur⟩ ξ2 w2 ⟨hk, hE2, hs2, hw2, hl2, hT⟩
  simp only at hk hw2 hl2 hT
  show CW _ _ _ _ (over [(21, .int .i64 (k : Int))] _) w2
  repeat' (first | (refine k_loadC rfl hs2 rfl ?_) | (refine k_indexN rfl rfl ⟨_, _, rfl⟩ (by omega) ?_) | (refine k_storeI rfl rfl hw2 (by omega) (fun w3 hc3 hb3 => ⟨fun _ _ => trivial, ?_⟩)) | (refine k_pure rfl ?_) | (refine then_normal ?_) | (refine cw_seq ?_) | (refine cw_region rfl ?_) | (refine rr_nil ?_) | (refine k_len rfl ?_) | (refine g_run rfl rfl ?_) | (refine g_skip rfl rfl ?_) | (refine g_dec_f rfl rfl (fun hc => ?_) (fun hc => ?_)) | (refine g_dec_t rfl rfl (fun hc => ?_) (fun hc => ?_)) | (refine g_ndec_f rfl rfl (fun hc => ?_) (fun hc => ?_)) | (refine g_ndec_t rfl rfl (fun hc => ?_) (fun hc => ?_)) | (refine g_split rfl rfl (fun hc => ?_) (fun hc => ?_)) | (refine k_addI rfl rfl (by omega) (by omega) ?_) | (refine k_subI rfl rfl (by omega) (by omega) ?_) | (refine k_fieldAddr rfl ?_) | (refine k_eqlB rfl rfl ?_) | (refine k_neqB rfl rfl ?_) | (refine cw_cond_true rfl ?_) | (refine cw_cond_false rfl ?_) | (refine cw_cond_dec rfl (fun hc => ?_) (fun hc => ?_)) | (refine cw_cond_ndec rfl (fun hc => ?_) (fun hc => ?_)) | (refine cw_cond rfl (fun hc => ?_) (fun hc => ?_)) | (refine cw_block ?_) | (refine cw_exit ?_) | (refine then_exit ?_) | (refine in_exit ?_) | (refine in_exit_ne rfl ?_) | (refine in_normal ?_) | (refine cw_ret ?_) | (refine then_ret ?_) | (refine in_ret ?_) | (refine cw_skip ?_))
  · refine ⟨⟨(k + 1, cur.set k (-1)), ⟨by simp only; omega, hE2.chg hc3 hwb, hs2.chg hc3 hne, hb3, by simp [hl2], ?_⟩, by simp only; omega, rfl, trivial⟩, (by (repeat (first | exact agree_mask _ _ _ | refine agree_upd rfl ?_ | refine agree_updO rfl ?_ | refine agree_overIn rfl ?_ | refine agree_maskIn rfl ?_)))⟩
    simp only
    rw [take_set_succ (by omega), hT, List.replicate_succ']
  · obtain rfl : k = n := by omega
    rw [List.take_of_length_le (by omega)] at hT
    subst hT
    repeat' (first | (refine k_loadC rfl hs2 rfl ?_) | (refine k_indexN rfl rfl ⟨_, _, rfl⟩ (by omega) ?_) | (refine k_storeI rfl rfl hw2 (by simp; omega) (fun w3 hc3 hb3 => ⟨fun _ _ => trivial, ?_⟩)) | (refine k_lit1 (v := .int .i64 (pt : Int)) rfl rfl (fun ob w4 hn4 => ⟨fun _ _ => trivial, ?_⟩)) | (refine k_storeC rfl rfl rfl ((hs2.chg hc3 hne).ext hn4.ex) rfl (fun w5 hc5 hb5 => ⟨fun _ _ => trivial, ?_⟩)) | (refine k_pure rfl ?_) | (refine then_normal ?_) | (refine cw_seq ?_) | (refine cw_region rfl ?_) | (refine rr_nil ?_) | (refine k_len rfl ?_) | (refine g_run rfl rfl ?_) | (refine g_skip rfl rfl ?_) | (refine g_dec_f rfl rfl (fun hc => ?_) (fun hc => ?_)) | (refine g_dec_t rfl rfl (fun hc => ?_) (fun hc => ?_)) | (refine g_ndec_f rfl rfl (fun hc => ?_) (fun hc => ?_)) | (refine g_ndec_t rfl rfl (fun hc => ?_) (fun hc => ?_)) | (refine g_split rfl rfl (fun hc => ?_) (fun hc => ?_)) | (refine k_addI rfl rfl (by omega) (by omega) ?_) | (refine k_subI rfl rfl (by omega) (by omega) ?_) | (refine k_fieldAddr rfl ?_) | (refine k_eqlB rfl rfl ?_) | (refine k_neqB rfl rfl ?_) | (refine cw_cond_true rfl ?_) | (refine cw_cond_false rfl ?_) | (refine cw_cond_dec rfl (fun hc => ?_) (fun hc => ?_)) | (refine cw_cond_ndec rfl (fun hc => ?_) (fun hc => ?_)) | (refine cw_cond rfl (fun hc => ?_) (fun hc => ?_)) | (refine cw_block ?_) | (refine cw_exit ?_) | (refine then_exit ?_) | (refine in_exit ?_) | (refine in_exit_ne rfl ?_) | (refine in_normal ?_) | (refine cw_ret ?_) | (refine then_ret ?_) | (refine in_ret ?_) | (refine cw_skip ?_))
    rw [whereL_one hpt] at hb3
    have hE3 := hE2.chg hc3 hwb
    have hE4 := hE3.trans hn4.ex
    have hE5 := hE4.chg hc5 hnb
    refine k_call (ident_spec h1.2 _) rfl ?_
    rintro v w6 ⟨pb, rfl, hpb, hb6, hE6⟩
    refine ⟨fun _ _ => trivial, ?_⟩
    rw [idList_length] at *
    repeat' (first | (refine k_lit1 (v := .slice (ba pb) k k) rfl rfl (fun bb w7 hn7 => ⟨fun _ _ => trivial, ?_⟩)) | (refine k_storeC rfl rfl rfl ((hb5.ext hE6).ext hn7.ex) rfl (fun w8 hc8 hb8 => ⟨fun _ _ => trivial, ?_⟩)) | (refine k_lit1 (v := .int .i64 0) rfl rfl (fun db w9 hn9 => ⟨fun _ _ => trivial, ?_⟩)) | (refine k_storeC rfl rfl rfl (hb8.ext hn9.ex) rfl (fun w10 hc10 hb10 => ⟨fun _ _ => trivial, ?_⟩)) | (refine k_pure rfl ?_) | (refine then_normal ?_) | (refine cw_seq ?_) | (refine cw_region rfl ?_) | (refine rr_nil ?_) | (refine k_len rfl ?_) | (refine g_run rfl rfl ?_) | (refine g_skip rfl rfl ?_) | (refine g_dec_f rfl rfl (fun hc => ?_) (fun hc => ?_)) | (refine g_dec_t rfl rfl (fun hc => ?_) (fun hc => ?_)) | (refine g_ndec_f rfl rfl (fun hc => ?_) (fun hc => ?_)) | (refine g_ndec_t rfl rfl (fun hc => ?_) (fun hc => ?_)) | (refine g_split rfl rfl (fun hc => ?_) (fun hc => ?_)) | (refine k_addI rfl rfl (by omega) (by omega) ?_) | (refine k_subI rfl rfl (by omega) (by omega) ?_) | (refine k_fieldAddr rfl ?_) | (refine k_eqlB rfl rfl ?_) | (refine k_neqB rfl rfl ?_) | (refine cw_cond_true rfl ?_) | (refine cw_cond_false rfl ?_) | (refine cw_cond_dec rfl (fun hc => ?_) (fun hc => ?_)) | (refine cw_cond_ndec rfl (fun hc => ?_) (fun hc => ?_)) | (refine cw_cond rfl (fun hc => ?_) (fun hc => ?_)) | (refine cw_block ?_) | (refine cw_exit ?_) | (refine then_exit ?_) | (refine in_exit ?_) | (refine in_exit_ne rfl ?_) | (refine in_normal ?_) | (refine cw_ret ?_) | (refine then_ret ?_) | (refine in_ret ?_) | (refine cw_skip ?_))
    have f34 : Fr (One nb) w3 w4 := hn4.ex.fr
    have f45 := f1C hc5
    have f56 : Fr (One nb) w5 w6 := hE6.fr
    have f67 : Fr (One nb) w6 w7 := hn7.ex.fr
    have f78 := f1C hc8
    have f89 : Fr (One nb) w8 w9 := hn9.ex.fr
    have f9 := f1C hc10
    have F7 : Fr (One nb) w7 w10 := f78.trans (f89.trans f9)
    have F4 : Fr (One nb) w4 w10 := f45.trans (f56.trans (f67.trans F7))
    have F3 : Fr (One nb) w3 w10 := f34.trans F4
    have F6 : Fr (One nb) w6 w10 := f67.trans F7
    have s4 := hn4.lo; have s4' := hn4.hi; have s7 := hn7.lo; have s7' := hn7.hi; have s9 := hn9.lo; have s9' := hn9.hi
    have z03 := hE3.size; have z45 := f45.size; have z56 := f56.size; have z67 := f67.size; have z78 := f78.size; have z89 := f89.size; have z9 := f9.size; have z34 := f34.size
    have pb6 := hb6.lt
    have wb3 := hb3.lt
    have nb3 := (hs2.chg hc3 hne).lt
    have hE10 : Ex w w10 := (((hE5.trans hE6).trans hn7.ex).chg hc8 hnb |>.trans hn9.ex).chg hc10 hnb
    have hwh := Blk.f1 hb3 F3 (Ne.symm hne)
    have hor := Blk.f1 hn4.blk F4 (by omega)
    have hbk := Blk.f1 hn7.blk F7 (by omega)
    have hdn := Blk.f1 hn9.blk f9 (by omega)
    have hpm := Blk.f1 hb6 F6 (by omega)
    have hL0 : LvAt w10 k ⟨nb, ob, 1, wb, bb, 1, [⟨ba pb, k, k⟩], db, 1, ga, gens.length, gs, pb :: im⟩ (Lv.one k pt gens) := by
      refine ⟨hb10, hor.own rfl (show 1 ≤ maxLen by decide) (Nat.zero_le _), hwh, hbk.own rfl (show 1 ≤ maxLen by decide) (Nat.zero_le _), ?_, hdn.own rfl (show 1 ≤ maxLen by decide) (Nat.zero_le _), hga.ext hE10, fun ad e => List.mem_cons_of_mem _ (hgim ad e), (hgs.ext hE10).mono fun q hq => List.mem_cons_of_mem _ hq, ?_, ?_, ?_, Nat.le_refl _⟩
      · have h0 : PsAt w10 k (pb :: im) [] [] := ⟨rfl, fun i hi => absurd hi (by simp), fun i hi => absurd hi (by simp), fun i hi => absurd hi (by simp)⟩
        exact h0.snoc (s := ⟨ba pb, k, k⟩) hpm.sl rfl (by rintro _ ⟨⟩; simp)
      · simp only [LH.F, List.mem_cons, List.not_mem_nil, or_false, List.nodup_cons, not_or, not_false_eq_true, and_true, List.nodup_nil]
        refine ⟨⟨?_, ?_, ?_, ?_⟩, ⟨?_, ?_, ?_⟩, ⟨?_, ?_⟩, ?_⟩ <;> omega
      · intro q hq hq'
        simp only [LH.F, List.mem_cons, List.not_mem_nil, or_false] at hq hq'
        rcases hq' with rfl | hq'
        · omega
        · have := himlt q hq'; omega
      · intro q hq
        simp only [List.mem_cons] at hq
        rcases hq with rfl | hq
        · omega
        · have := himlt q hq; omega
    refine k_call (extend_spec hL0 (part_one h1 (by omega) hgn) hgl) rfl ?_
    rintro v w11 ⟨rfl, h6, l6, hL6, ok6, gr6, fr6, st6⟩
    refine ⟨fun _ _ => trivial, ?_⟩
    repeat' (first | (refine k_eqlT rfl rfl ?_) | (refine k_neqF rfl rfl ?_) | (refine k_pure rfl ?_) | (refine then_normal ?_) | (refine cw_seq ?_) | (refine cw_region rfl ?_) | (refine rr_nil ?_) | (refine k_len rfl ?_) | (refine g_run rfl rfl ?_) | (refine g_skip rfl rfl ?_) | (refine g_dec_f rfl rfl (fun hc => ?_) (fun hc => ?_)) | (refine g_dec_t rfl rfl (fun hc => ?_) (fun hc => ?_)) | (refine g_ndec_f rfl rfl (fun hc => ?_) (fun hc => ?_)) | (refine g_ndec_t rfl rfl (fun hc => ?_) (fun hc => ?_)) | (refine g_split rfl rfl (fun hc => ?_) (fun hc => ?_)) | (refine k_addI rfl rfl (by omega) (by omega) ?_) | (refine k_subI rfl rfl (by omega) (by omega) ?_) | (refine k_fieldAddr rfl ?_) | (refine k_eqlB rfl rfl ?_) | (refine k_neqB rfl rfl ?_) | (refine cw_cond_true rfl ?_) | (refine cw_cond_false rfl ?_) | (refine cw_cond_dec rfl (fun hc => ?_) (fun hc => ?_)) | (refine cw_cond_ndec rfl (fun hc => ?_) (fun hc => ?_)) | (refine cw_cond rfl (fun hc => ?_) (fun hc => ?_)) | (refine cw_block ?_) | (refine cw_exit ?_) | (refine then_exit ?_) | (refine in_exit ?_) | (refine in_exit_ne rfl ?_) | (refine in_normal ?_) | (refine cw_ret ?_) | (refine then_ret ?_) | (refine in_ret ?_) | (refine cw_skip ?_))
    have hb6' := st6.blk
    simp only at hb6'
    refine ret1 rfl (rt rfl) ⟨h6, l6, by rw [hb6']; rfl, hL6, ok6, gr6.pt, gr6.gens, gr6.new, ?_, fun q hq => ?_, fun q hq => ?_, st6.ga, st6.gc, st6.gs⟩
    · refine Fr.ex hE10 fr6 fun q hq => ?_
      simp only [LH.F, List.mem_cons, List.not_mem_nil, or_false] at hq
      omega
    · rcases st6.F q hq with hq | hq
      · simp only [LH.F, List.mem_cons, List.not_mem_nil, or_false] at hq
        omega
      · omega
    · rcases st6.im q hq with hq | hq
      · simp only [List.mem_cons] at hq
        rcases hq with rfl | hq
        · exact .inr (by omega)
        · exact .inl hq
      · exact .inr (by omega)
end Go.Proofs.Ythhfjagnmhhapaa

namespace Go.W
section
variable {P : Program} {S : World → Prop} {ops : List Oper} {K : Env → World → Prop} {rest : List (Oper × Option Bool)} {ρ : Env} {w : World} {b : Option Bool} {kf : Bool} {d : Nat} {dst : Option Nat} {T T' : TypeId} {pos : String} {af : Array Edge}
theorem k_loadL {x : Operand} {T1 : TypeId} {a : Option Addr} {j : Nat} {v : Value} {vs : List Value} [Scal P T1] (hx : ev ρ x = .pointer (some (elt a j))) (hs : Rd b S w fun w' => Sl w' a vs) (hv : vs[j]? = some v)
    (h : RR P S ops K rest (upd ρ d v) w) : RR P S ops K ((⟨some d, .load T1 x, T, pos, af, none⟩, b) :: rest) ρ w :=
  k_load hx (hs.imp fun w' hs => by
    have hj : j < vs.length := (List.getElem?_eq_some_iff.1 hv).1
    rw [hs.get j hj, List.getD_eq_getElem?_getD, hv]; rfl) h
theorem k_lenMap {x : Operand} {r Kt E : Nat} {l : List (Int × Value)} (hm : P.underlying T' = some (.map Kt E)) (hx : ev ρ x = .map (some r)) (hs : MapAt w r l)
    (h : RR P S ops K rest (upd ρ d (.int .i64 (l.length : Int))) w) : RR P S ops K ((⟨some d, .call ⟨.builtin .len, #[x], #[T']⟩, T, pos, af, none⟩, some kf) :: rest) ρ w := by
  refine rr_eff rfl ?_
  unfold OpW
  obtain ⟨es, c, hb, he⟩ := hs
  have hl : es.size = l.length := by have := congrArg List.length he; simpa using this
  have : (execOp (ev ρ) ⟨some d, .call ⟨.builtin .len, #[x], #[T']⟩, T, pos, af, none⟩).run P w = .ok (.value (.int .i64 (l.length : Int))) w := by
    simp [execOp, resolve, invoke, builtin, Builtin.len_, hx, underlying, hm, goInt, run_getObj' hb, hl]
  rw [this]
  exact ⟨fun _ h => h, h⟩
end
end Go.W
namespace Go.Proofs.Ythhfjagnmhhapaa
open Go.W Go.PM
def MapOK (m : List (Int × Value)) (k : Nat) (f : Nat → Nat) : Prop := m.length = k ∧ (m.map Prod.fst).Nodup ∧ (∀ i, i < k → ((i : Int), Value.pointer (some ⟨f i, 0, none⟩)) ∈ m) ∧ ∀ p, p ∈ m → p.1 < k
theorem MapOK.find {m : List (Int × Value)} {k : Nat} {f : Nat → Nat} (h : MapOK m k f) {i : Nat} (hi : i < k) : ∃ j, j < m.length ∧ findK i m 0 = some (j, .pointer (some ⟨f i, 0, none⟩)) ∧ m[j]? = some ((i : Int), .pointer (some ⟨f i, 0, none⟩)) := by
  obtain ⟨j, hj, e⟩ := List.getElem_of_mem (h.2.2.1 i hi)
  have e' : m[j]? = some ((i : Int), Value.pointer (some ⟨f i, 0, none⟩)) := by rw [List.getElem?_eq_getElem hj, e]
  refine ⟨j, hj, ?_, e'⟩
  have := findK_at 0 j e' fun j' p hlt hp hk => by
    have hj' : j' < m.length := by omega
    have h1 : (m.map Prod.fst)[j']'(by simpa using hj') = (m.map Prod.fst)[j]'(by simpa using hj) := by
      rw [List.getElem_map, List.getElem_map, e]
      rw [List.getElem?_eq_getElem hj'] at hp
      injection hp with hp
      rw [hp]; exact hk
    have := (List.getElem_inj h.2.1).1 h1
    omega
  rwa [Nat.zero_add] at this
theorem getElem?_erase_ne {α : Type} {l : List α} {x y : α} {j : Nat} (hj : l[j]? = some y) (hx : x ∈ l) (hne : x ≠ y) : x ∈ l.eraseIdx j := by
  obtain ⟨i, hi, e⟩ := List.getElem_of_mem hx
  rw [List.mem_eraseIdx_iff_getElem]
  refine ⟨i, hi, ?_, e⟩
  rintro rfl
  rw [List.getElem?_eq_getElem hi] at hj
  injection hj with hj
  exact hne (e.symm.trans hj)
theorem MapOK.put {m : List (Int × Value)} {k : Nat} {f : Nat → Nat} (h : MapOK m k f) {i j : Nat} {v : Value} (hi : i < k) (hj : m[j]? = some ((i : Int), v)) (b : Nat) :
    MapOK (m.eraseIdx j ++ [((i : Int), .pointer (some ⟨b, 0, none⟩))]) k (fun x => if x = i then b else f x) ∧ ∀ p, p ∈ m.eraseIdx j → p.1 ≠ i := by
  have hjl : j < m.length := (List.getElem?_eq_some_iff.1 hj).1
  have hne : ∀ p, p ∈ m.eraseIdx j → p.1 ≠ i := by
    intro p hp hk
    obtain ⟨x, hx, hxj, e⟩ := List.mem_eraseIdx_iff_getElem.1 hp
    have h1 : (m.map Prod.fst)[x]'(by simpa using hx) = (m.map Prod.fst)[j]'(by simpa using hjl) := by
      rw [List.getElem_map, List.getElem_map, e]
      rw [List.getElem?_eq_getElem hjl] at hj
      injection hj with hj
      rw [hj]; exact hk
    exact hxj ((List.getElem_inj h.2.1).1 h1)
  refine ⟨⟨?_, ?_, fun x hx => ?_, fun p hp => ?_⟩, hne⟩
  · rw [List.length_append, List.length_eraseIdx, if_pos hjl, List.length_singleton]; have := h.1; omega
  · rw [List.map_append, List.nodup_append]
    refine ⟨?_, by simp, ?_⟩
    · rw [eraseIdx_map']; exact List.Nodup.eraseIdx _ h.2.1
    · intro a ha b' hb'
      simp only [List.map_cons, List.map_nil, List.mem_singleton] at hb'
      obtain ⟨p, hp, rfl⟩ := List.mem_map.1 ha
      rw [hb']; exact hne p hp
  · rw [List.mem_append]
    by_cases e : x = i
    · subst e; right; simp
    · left; simp only [if_neg e]
      refine getElem?_erase_ne hj (h.2.2.1 x hx) ?_
      intro e'; injection e' with e'; omega
  · rw [List.mem_append] at hp
    rcases hp with hp | hp
    · exact h.2.2.2 p (List.mem_of_mem_eraseIdx hp)
    · rw [List.mem_singleton] at hp; subst hp; simp only; omega
theorem MapOK.add {m : List (Int × Value)} {k : Nat} {f : Nat → Nat} (h : MapOK m k f) (b : Nat) :
    MapOK (m ++ [((k : Int), .pointer (some ⟨b, 0, none⟩))]) (k + 1) (fun x => if x = k then b else f x) ∧ ∀ p, p ∈ m → p.1 ≠ k := by
  have hne : ∀ p, p ∈ m → p.1 ≠ k := fun p hp e => by have := h.2.2.2 p hp; omega
  refine ⟨⟨by simp [h.1], ?_, fun x hx => ?_, fun p hp => ?_⟩, hne⟩
  · rw [List.map_append, List.nodup_append]
    refine ⟨h.2.1, by simp, ?_⟩
    intro a ha b' hb'
    simp only [List.map_cons, List.map_nil, List.mem_singleton] at hb'
    obtain ⟨p, hp, rfl⟩ := List.mem_map.1 ha
    rw [hb']; exact hne p hp
  · rw [List.mem_append]
    by_cases e : x = k
    · subst e; right; simp
    · left; simp only [if_neg e]; exact h.2.2.1 x (by omega)
  · rw [List.mem_append] at hp
    rcases hp with hp | hp
    · have := h.2.2.2 p hp; omega
    · rw [List.mem_singleton] at hp; subst hp; simp only; omega
/-- where a chain lies -/
structure CH where
  cb : Nat
  mb : Nat
  va : Option Addr
  vc : Nat
  m : List (Int × Value)
  hs : Nat → LH
  st : Nat
def chL (n k : Nat) (c : CH) : List Value := [.int .i64 (n : Int), .map (some c.mb), .slice c.va k c.vc, .int .u64 (c.st : Int)]
def dvV (h : LH) : Value := .func (.func 108) #[.pointer (some ⟨h.blk, 0, none⟩)] #[]
def lv0 : Lv := ⟨0, [], [], [], []⟩
structure ChAt (w : World) (n : Nat) (c : CH) (ls : List Lv) : Prop where
  str : Blk w c.cb 100 (chL n ls.length c)
  st : c.st < 18446744073709551616
  map : MapAt w c.mb c.m
  mok : MapOK c.m ls.length (fun i => (c.hs i).blk)
  dv : Own w 0 152 1 c.va ls.length c.vc ((List.range ls.length).map fun i => dvV (c.hs i))
  lv : ∀ i, i < ls.length → LvAt w n (c.hs i) (ls.getD i lv0)
  cmb : c.cb ≠ c.mb
  vne : ∀ ad, c.va = some ad → ad.block ≠ c.cb ∧ ad.block ≠ c.mb
  fne : ∀ i, i < ls.length → ∀ q, q ∈ (c.hs i).F ∨ q ∈ (c.hs i).im → q ≠ c.cb ∧ q ≠ c.mb ∧ ∀ ad, c.va = some ad → ad.block ≠ q
  dis : ∀ i j, i < ls.length → j < ls.length → i ≠ j → ∀ q, q ∈ (c.hs i).F → q ∉ (c.hs j).F
  imd : ∀ i j, i < ls.length → j < ls.length → ∀ q, q ∈ (c.hs i).F → q ∉ (c.hs j).im
/-- the chain's own blocks -/
def CH.own (c : CH) (q : Nat) : Prop := q = c.cb ∨ q = c.mb ∨ ∃ ad, c.va = some ad ∧ ad.block = q
def CH.foot (c : CH) (k : Nat) (q : Nat) : Prop := c.own q ∨ ∃ i, i < k ∧ q ∈ (c.hs i).F
def CH.imm (c : CH) (k : Nat) (q : Nat) : Prop := ∃ i, i < k ∧ q ∈ (c.hs i).im
def putL (ls : List Lv) (i : Nat) (l : Lv) : List Lv := ls.take i ++ l :: ls.drop (i + 1)
theorem putL_len {ls : List Lv} {i : Nat} {l : Lv} (h : i ≤ ls.length) : (putL ls i l).length = if i = ls.length then ls.length + 1 else ls.length := by
  unfold putL; simp only [List.length_append, List.length_take, List.length_cons, List.length_drop]; split <;> omega
theorem putL_getD {ls : List Lv} {i : Nat} {l : Lv} (h : i ≤ ls.length) (j : Nat) : (putL ls i l).getD j lv0 = if j = i then l else ls.getD j lv0 := by
  unfold putL
  rw [List.getD_eq_getElem?_getD]
  by_cases e : j < i
  · rw [List.getElem?_append_left (by simp; omega), List.getElem?_take, if_pos e, if_neg (by omega), ← List.getD_eq_getElem?_getD]
  · rw [List.getElem?_append_right (by simp; omega), List.length_take, Nat.min_eq_left h]
    by_cases e' : j = i
    · subst e'; simp
    · rw [if_neg e']
      obtain ⟨t, rfl⟩ : ∃ t, j = i + 1 + t := ⟨j - i - 1, by omega⟩
      rw [show i + 1 + t - i = t + 1 by omega, List.getElem?_cons_succ, List.getElem?_drop, ← List.getD_eq_getElem?_getD]
theorem range_set {k i : Nat} (f g : Nat → Value) (hg : ∀ j, j ≠ i → g j = f j) : ((List.range k).map f).set i (g i) = (List.range k).map g := by
  apply List.ext_getElem?
  intro j
  rw [List.getElem?_set, List.length_map, List.length_range, List.getElem?_map, List.getElem?_map]
  by_cases e : i = j
  · subst e; rw [if_pos rfl]
    by_cases h : i < k
    · rw [if_pos h, List.getElem?_range h]; rfl
    · rw [if_neg h, List.getElem?_eq_none (by simpa using h)]; rfl
  · rw [if_neg e]
    by_cases h : j < k
    · rw [List.getElem?_range h]; simp only [Option.map_some]; rw [hg j (fun e' => e e'.symm)]
    · rw [List.getElem?_eq_none (by simpa using h)]; rfl
theorem range_add {k : Nat} (f g : Nat → Value) (z : Value) (hg : ∀ j, j ≠ k → g j = f j) : ((List.range k).map f ++ [z]).set k (g k) = (List.range (k + 1)).map g := by
  rw [List.range_succ, List.map_append, List.set_append_right _ _ (by simp)]
  simp only [List.length_map, List.length_range, Nat.sub_self, List.map_cons, List.map_nil, List.set_cons_zero]
  congr 1
  apply List.map_congr_left
  intro j hj
  rw [List.mem_range] at hj
  exact (hg j (by omega)).symm
end Go.Proofs.Ythhfjagnmhhapaa

namespace Go.W
theorem Own.baPos {w : World} {lo T s n cap : Nat} {a : Option Addr} {vs : List Value} (h : Own w lo T s a n cap vs) (hn : 0 < n) : ∃ g, a = some ⟨g, 0, none⟩ := by
  obtain ⟨m, rfl⟩ : ∃ m, n = m + 1 := ⟨n - 1, by omega⟩
  exact h.ba
end Go.W
namespace Go.Proofs.Ythhfjagnmhhapaa
open Go.W Go.PM
/-- a chain of which level x may be spoiled -/
structure ChBut (w : World) (n : Nat) (c : CH) (ls : List Lv) (x : Nat) : Prop where
  str : Blk w c.cb 100 (chL n ls.length c)
  st : c.st < 18446744073709551616
  map : MapAt w c.mb c.m
  mok : MapOK c.m ls.length (fun i => (c.hs i).blk)
  dv : Own w 0 152 1 c.va ls.length c.vc ((List.range ls.length).map fun i => dvV (c.hs i))
  lv : ∀ i, i < ls.length → i ≠ x → LvAt w n (c.hs i) (ls.getD i lv0)
  cmb : c.cb ≠ c.mb
  vne : ∀ ad, c.va = some ad → ad.block ≠ c.cb ∧ ad.block ≠ c.mb
  fne : ∀ i, i < ls.length → i ≠ x → ∀ q, q ∈ (c.hs i).F ∨ q ∈ (c.hs i).im → q ≠ c.cb ∧ q ≠ c.mb ∧ ∀ ad, c.va = some ad → ad.block ≠ q
  dis : ∀ i j, i < ls.length → j < ls.length → i ≠ x → j ≠ x → i ≠ j → ∀ q, q ∈ (c.hs i).F → q ∉ (c.hs j).F
  imd : ∀ i j, i < ls.length → j < ls.length → i ≠ x → j ≠ x → ∀ q, q ∈ (c.hs i).F → q ∉ (c.hs j).im
theorem ChAt.but {F : Nat → Prop} {w w' : World} {n : Nat} {c : CH} {ls : List Lv} (hC : ChAt w n c ls) (x : Nat) (f : Fr F w w') (hF : ∀ q, c.own q → ¬ F q) (hL : ∀ i, i < ls.length → i ≠ x → ∀ q, q ∈ (c.hs i).F ∨ q ∈ (c.hs i).im → ¬ F q) : ChBut w' n c ls x :=
  ⟨hC.str.fr f (hF _ (.inl rfl)), hC.st, hC.map.fr f (hF _ (.inr (.inl rfl))), hC.mok, hC.dv.fr f (fun ad e => hF _ (.inr (.inr ⟨ad, e, rfl⟩))), fun i hi hx => (hC.lv i hi).fr f (fun q hq => hL i hi hx q (.inl hq)) (fun q hq => hL i hi hx q (.inr hq)),
    hC.cmb, hC.vne, fun i hi _ => hC.fne i hi, fun i j hi hj _ _ => hC.dis i j hi hj, fun i j hi hj _ _ => hC.imd i j hi hj⟩
structure Fits (c : CH) (k i : Nat) (h : LH) : Prop where
  own : ∀ q, q ∈ h.F ∨ q ∈ h.im → ¬ c.own q
  d1 : ∀ j, j < k → j ≠ i → ∀ q, q ∈ h.F → q ∉ (c.hs j).F ∧ q ∉ (c.hs j).im
  d2 : ∀ j, j < k → j ≠ i → ∀ q, q ∈ (c.hs j).F → q ∉ h.im
theorem mapT : Try.prog.underlying 97 = some (.map 3 96) := by kernel_rfl
theorem intT : Try.prog.underlying 3 = some (.int .i64) := by kernel_rfl
/-- what is left to show of a chain after a put -/
theorem put_ok {w w' : World} {n i : Nat} {c : CH} {ls : List Lv} {h : LH} {l : Lv} {va' : Option Addr} {vc' : Nat} {m' : List (Int × Value)} (hC : ChBut w n c ls i) (hi : i ≤ ls.length) (hL : LvAt w n h l) (hf : Fits c ls.length i h)
    (hfr : Fr c.own w w') (hva : va' = c.va ∨ ∀ ad, va' = some ad → w.heap.size ≤ ad.block)
    (hstr : Blk w' c.cb 100 (chL n (putL ls i l).length { c with va := va', vc := vc', m := m', hs := fun j => if j = i then h else c.hs j })) (hmap : MapAt w' c.mb m')
    (hmk : MapOK m' (putL ls i l).length (fun j => if j = i then h.blk else (c.hs j).blk))
    (hdv : Own w' 0 152 1 va' (putL ls i l).length vc' ((List.range (putL ls i l).length).map fun j => dvV (if j = i then h else c.hs j))) :
    ChAt w' n { c with va := va', vc := vc', m := m', hs := fun j => if j = i then h else c.hs j } (putL ls i l) := by
  have hlen : ∀ j, j < (putL ls i l).length → j ≠ i → j < ls.length := fun j hj hne => by rw [putL_len hi] at hj; split at hj <;> omega
  have hlt : ∀ q, q ∈ h.F ∨ q ∈ h.im → q < w.heap.size := fun q hq => hq.elim (hL.lt q) (hL.imlt q)
  have hltj : ∀ j, j < ls.length → j ≠ i → ∀ q, q ∈ (c.hs j).F ∨ q ∈ (c.hs j).im → q < w.heap.size := fun j hj hx q hq => hq.elim ((hC.lv j hj hx).lt q) ((hC.lv j hj hx).imlt q)
  have hnown : ∀ j, j < ls.length → j ≠ i → ∀ q, q ∈ (c.hs j).F ∨ q ∈ (c.hs j).im → ¬ c.own q := fun j hj hx q hq ho => by
    obtain ⟨h1, h2, h3⟩ := hC.fne j hj hx q hq
    rcases ho with ho | ho | ⟨ad, h4, h5⟩
    · exact h1 ho
    · exact h2 ho
    · exact h3 ad h4 h5
  have hsz := hfr.size
  have hne3 : ∀ q, q < w.heap.size → ¬ c.own q → q ≠ c.cb ∧ q ≠ c.mb ∧ ∀ ad, va' = some ad → ad.block ≠ q := fun q hq ho => by
    refine ⟨fun e => ho (.inl e), fun e => ho (.inr (.inl e)), fun ad e e' => ?_⟩
    rcases hva with rfl | hva
    · exact ho (.inr (.inr ⟨ad, e, e'⟩))
    · have := hva ad e; omega
  refine ⟨hstr, hC.st, hmap, ?_, hdv, fun j hj => ?_, hC.cmb, fun ad e => ?_, fun j hj q hq => ?_, fun j k hj hk hne q hq => ?_, fun j k hj hk q hq => ?_⟩
  · have e : (fun j => (if j = i then h else c.hs j).blk) = fun j => if j = i then h.blk else (c.hs j).blk := by funext j; split <;> rfl
    show MapOK m' _ (fun j => (if j = i then h else c.hs j).blk)
    rw [e]; exact hmk
  · rw [putL_getD hi]
    simp only
    by_cases e : j = i
    · rw [if_pos e, if_pos e]; exact hL.fr hfr (fun q hq => hf.own q (.inl hq)) (fun q hq => hf.own q (.inr hq))
    · rw [if_neg e, if_neg e]; exact (hC.lv j (hlen j hj e) e).fr hfr (fun q hq => hnown j (hlen j hj e) e q (.inl hq)) (fun q hq => hnown j (hlen j hj e) e q (.inr hq))
  · rcases hva with rfl | hva
    · exact hC.vne ad e
    · have h1 := hva ad e
      have h2 := hC.str.lt
      have h3 := hC.map.lt
      exact ⟨by simp only; omega, by simp only; omega⟩
  · simp only at hq ⊢
    by_cases e : j = i
    · rw [if_pos e] at hq; exact hne3 q (hlt q hq) (hf.own q hq)
    · rw [if_neg e] at hq; exact hne3 q (hltj j (hlen j hj e) e q hq) (hnown j (hlen j hj e) e q hq)
  · simp only at hq ⊢
    by_cases e : j = i
    · rw [if_pos e] at hq; rw [if_neg (by omega)]; exact (hf.d1 k (hlen k hk (by omega)) (by omega) q hq).1
    · rw [if_neg e] at hq
      by_cases e' : k = i
      · rw [if_pos e']; exact fun hq' => (hf.d1 j (hlen j hj e) e q hq').1 hq
      · rw [if_neg e']; exact hC.dis j k (hlen j hj e) (hlen k hk e') e e' hne q hq
  · simp only at hq ⊢
    by_cases e : j = i
    · rw [if_pos e] at hq
      by_cases e' : k = i
      · rw [if_pos e']; exact hL.dis q hq
      · rw [if_neg e']; exact (hf.d1 k (hlen k hk e') e' q hq).2
    · rw [if_neg e] at hq
      by_cases e' : k = i
      · rw [if_pos e']; exact hf.d2 j (hlen j hj e) e q hq
      · rw [if_neg e']; exact hC.imd j k (hlen j hj e) (hlen k hk e') e e' q hq
theorem put_spec {w : World} {n i : Nat} {c : CH} {ls : List Lv} {h : LH} {l : Lv} (hC : ChBut w n c ls i) (hi : i ≤ ls.length) (hL : LvAt w n h l) (hf : Fits c ls.length i h) (hk : ls.length ≤ 1000000000000) :
    CallsR Try.prog 83 #[.pointer (some ⟨c.cb, 0, none⟩), .int .i64 (i : Int), .pointer (some ⟨h.blk, 0, none⟩)] w fun v w' => v = .tuple #[] ∧ ∃ va' vc' m', ChAt w' n { c with va := va', vc := vc', m := m', hs := fun j => if j = i then h else c.hs j } (putL ls i l) ∧ Fr c.own w w' ∧ (va' = c.va ∨ ∀ ad, va' = some ad → w.heap.size ≤ ad.block) := by
  refine callsR_of (args := [_, _, _]) Try.func83 rfl rfl ?_
  have hstr := hC.str
  have own1 : c.own c.cb := .inl rfl
  have own2 : c.own c.mb := .inr (.inl rfl)
  by_cases hik : i < ls.length
  · obtain ⟨j, hj, hfd, hjm⟩ := hC.mok.find hik
    obtain ⟨hmk, hmne⟩ := hC.mok.put hik hjm h.blk
    obtain ⟨vg, hvg⟩ := hC.dv.baPos (by omega)
    have hvne := hC.vne _ hvg
    simp only at hvne
    have hdv := hC.dv
    have own3 : c.own vg := .inr (.inr ⟨_, hvg, rfl⟩)
    rw [hvg] at hdv
    have hstr' : Blk w c.cb 100 [.int .i64 (n : Int), .map (some c.mb), .slice (some ⟨vg, 0, none⟩) ls.length c.vc, .int .u64 (c.st : Int)] := by unfold chL at hstr; rw [hvg] at hstr; exact hstr
    have hpl : (putL ls i l).length = ls.length := by rw [putL_len hi, if_neg (by omega)]
    repeat' (first | (refine k_loadC rfl hstr' rfl ?_) | (refine k_mapDel mapT intT rfl rfl hC.map hfd hj (fun w1 hc1 hm1 => ⟨fun _ _ => trivial, ?_⟩)) | (refine k_pure rfl ?_) | (refine then_normal ?_) | (refine cw_seq ?_) | (refine cw_region rfl ?_) | (refine rr_nil ?_) | (refine k_len rfl ?_) | (refine g_run rfl rfl ?_) | (refine g_skip rfl rfl ?_) | (refine g_dec_f rfl rfl (fun hc => ?_) (fun hc => ?_)) | (refine g_dec_t rfl rfl (fun hc => ?_) (fun hc => ?_)) | (refine g_ndec_f rfl rfl (fun hc => ?_) (fun hc => ?_)) | (refine g_ndec_t rfl rfl (fun hc => ?_) (fun hc => ?_)) | (refine g_split rfl rfl (fun hc => ?_) (fun hc => ?_)) | (refine k_addI rfl rfl (by omega) (by omega) ?_) | (refine k_subI rfl rfl (by omega) (by omega) ?_) | (refine k_fieldAddr rfl ?_) | (refine k_eqlB rfl rfl ?_) | (refine k_neqB rfl rfl ?_) | (refine cw_cond_true rfl ?_) | (refine cw_cond_false rfl ?_) | (refine cw_cond_dec rfl (fun hc => ?_) (fun hc => ?_)) | (refine cw_cond_ndec rfl (fun hc => ?_) (fun hc => ?_)) | (refine cw_cond rfl (fun hc => ?_) (fun hc => ?_)) | (refine cw_block ?_) | (refine cw_exit ?_) | (refine then_exit ?_) | (refine in_exit ?_) | (refine in_exit_ne rfl ?_) | (refine in_normal ?_) | (refine cw_ret ?_) | (refine then_ret ?_) | (refine in_ret ?_) | (refine cw_skip ?_))
    have str1 := hstr'.chg hc1 hC.cmb
    repeat' (first | (refine k_loadC rfl str1 rfl ?_) | (refine k_mapNew (v := .pointer (some ⟨h.blk, 0, none⟩)) mapT intT rfl rfl rfl hm1 hmne (fun w2 hc2 hm2 => ⟨fun _ _ => trivial, ?_⟩)) | (refine k_pure rfl ?_) | (refine then_normal ?_) | (refine cw_seq ?_) | (refine cw_region rfl ?_) | (refine rr_nil ?_) | (refine k_len rfl ?_) | (refine g_run rfl rfl ?_) | (refine g_skip rfl rfl ?_) | (refine g_dec_f rfl rfl (fun hc => ?_) (fun hc => ?_)) | (refine g_dec_t rfl rfl (fun hc => ?_) (fun hc => ?_)) | (refine g_ndec_f rfl rfl (fun hc => ?_) (fun hc => ?_)) | (refine g_ndec_t rfl rfl (fun hc => ?_) (fun hc => ?_)) | (refine g_split rfl rfl (fun hc => ?_) (fun hc => ?_)) | (refine k_addI rfl rfl (by omega) (by omega) ?_) | (refine k_subI rfl rfl (by omega) (by omega) ?_) | (refine k_fieldAddr rfl ?_) | (refine k_eqlB rfl rfl ?_) | (refine k_neqB rfl rfl ?_) | (refine cw_cond_true rfl ?_) | (refine cw_cond_false rfl ?_) | (refine cw_cond_dec rfl (fun hc => ?_) (fun hc => ?_)) | (refine cw_cond_ndec rfl (fun hc => ?_) (fun hc => ?_)) | (refine cw_cond rfl (fun hc => ?_) (fun hc => ?_)) | (refine cw_block ?_) | (refine cw_exit ?_) | (refine then_exit ?_) | (refine in_exit ?_) | (refine in_exit_ne rfl ?_) | (refine in_normal ?_) | (refine cw_ret ?_) | (refine then_ret ?_) | (refine in_ret ?_) | (refine cw_skip ?_))
    have str2 := str1.chg hc2 hC.cmb
    have dv2 := (hdv.chg hc1 (by rintro _ ⟨⟩; exact hvne.2)).chg hc2 (by rintro _ ⟨⟩; exact hvne.2)
    repeat' (first | (refine k_loadC rfl str2 rfl ?_) | (refine k_pure rfl ?_) | (refine then_normal ?_) | (refine cw_seq ?_) | (refine cw_region rfl ?_) | (refine rr_nil ?_) | (refine k_len rfl ?_) | (refine g_run rfl rfl ?_) | (refine g_skip rfl rfl ?_) | (refine g_dec_f rfl rfl (fun hc => ?_) (fun hc => ?_)) | (refine g_dec_t rfl rfl (fun hc => ?_) (fun hc => ?_)) | (refine g_ndec_f rfl rfl (fun hc => ?_) (fun hc => ?_)) | (refine g_ndec_t rfl rfl (fun hc => ?_) (fun hc => ?_)) | (refine g_split rfl rfl (fun hc => ?_) (fun hc => ?_)) | (refine k_addI rfl rfl (by omega) (by omega) ?_) | (refine k_subI rfl rfl (by omega) (by omega) ?_) | (refine k_fieldAddr rfl ?_) | (refine k_eqlB rfl rfl ?_) | (refine k_neqB rfl rfl ?_) | (refine cw_cond_true rfl ?_) | (refine cw_cond_false rfl ?_) | (refine cw_cond_dec rfl (fun hc => ?_) (fun hc => ?_)) | (refine cw_cond_ndec rfl (fun hc => ?_) (fun hc => ?_)) | (refine cw_cond rfl (fun hc => ?_) (fun hc => ?_)) | (refine cw_block ?_) | (refine cw_exit ?_) | (refine then_exit ?_) | (refine in_exit ?_) | (refine in_exit_ne rfl ?_) | (refine in_normal ?_) | (refine cw_ret ?_) | (refine then_ret ?_) | (refine in_ret ?_) | (refine cw_skip ?_))
    · omega
    · repeat' (first | (refine k_loadC rfl str2 rfl ?_) | (refine k_mkFunc ?_) | (refine k_indexN (j := i) rfl rfl ⟨_, _, rfl⟩ hik ?_) | (refine k_storeOwn (v := dvV h) rfl rfl rfl dv2 (by simp; omega) (fun g w3 hg _ hc3 ho3 => ⟨fun _ _ => trivial, ?_⟩)) | (refine k_pure rfl ?_) | (refine then_normal ?_) | (refine cw_seq ?_) | (refine cw_region rfl ?_) | (refine rr_nil ?_) | (refine k_len rfl ?_) | (refine g_run rfl rfl ?_) | (refine g_skip rfl rfl ?_) | (refine g_dec_f rfl rfl (fun hc => ?_) (fun hc => ?_)) | (refine g_dec_t rfl rfl (fun hc => ?_) (fun hc => ?_)) | (refine g_ndec_f rfl rfl (fun hc => ?_) (fun hc => ?_)) | (refine g_ndec_t rfl rfl (fun hc => ?_) (fun hc => ?_)) | (refine g_split rfl rfl (fun hc => ?_) (fun hc => ?_)) | (refine k_addI rfl rfl (by omega) (by omega) ?_) | (refine k_subI rfl rfl (by omega) (by omega) ?_) | (refine k_fieldAddr rfl ?_) | (refine k_eqlB rfl rfl ?_) | (refine k_neqB rfl rfl ?_) | (refine cw_cond_true rfl ?_) | (refine cw_cond_false rfl ?_) | (refine cw_cond_dec rfl (fun hc => ?_) (fun hc => ?_)) | (refine cw_cond_ndec rfl (fun hc => ?_) (fun hc => ?_)) | (refine cw_cond rfl (fun hc => ?_) (fun hc => ?_)) | (refine cw_block ?_) | (refine cw_exit ?_) | (refine then_exit ?_) | (refine in_exit ?_) | (refine in_exit_ne rfl ?_) | (refine in_normal ?_) | (refine cw_ret ?_) | (refine then_ret ?_) | (refine in_ret ?_) | (refine cw_skip ?_))
      obtain rfl : vg = g := by injection hg with e; injection e
      have str3 := str2.chg hc3 (Ne.symm hvne.1)
      have e := range_set (k := ls.length) (i := i) (fun j => dvV (c.hs j)) (fun j => dvV (if j = i then h else c.hs j)) (fun j hj => by simp only [if_neg hj])
      simp only [ite_true] at e
      rw [e] at ho3
      have hfr : Fr c.own w w3 := (hc1.fr own2).trans ((hc2.fr own2).trans (hc3.fr own3))
      refine end0 rfl ⟨rfl, c.va, c.vc, _, put_ok hC hi hL hf hfr (.inl rfl) ?_ (hm2.chg hc3 (Ne.symm hvne.2)) ?_ ?_, hfr, .inl rfl⟩
      · rw [hpl]; unfold chL; simp only [hvg]; exact str3
      · rw [hpl]; exact hmk
      · rw [hpl, hvg]; exact ho3
  · obtain rfl : i = ls.length := by omega
    obtain ⟨hmk, hmne⟩ := hC.mok.add h.blk
    have hpl : (putL ls ls.length l).length = ls.length + 1 := by rw [putL_len hi, if_pos rfl]
    have hdv := hC.dv
    unfold chL at hstr
    repeat' (first | (refine k_loadC rfl hstr rfl ?_) | (refine k_mapDel0 mapT intT rfl rfl hC.map hmne (fun w1 hc1 hm1 => ⟨fun _ _ => trivial, ?_⟩)) | (refine k_pure rfl ?_) | (refine then_normal ?_) | (refine cw_seq ?_) | (refine cw_region rfl ?_) | (refine rr_nil ?_) | (refine k_len rfl ?_) | (refine g_run rfl rfl ?_) | (refine g_skip rfl rfl ?_) | (refine g_dec_f rfl rfl (fun hc => ?_) (fun hc => ?_)) | (refine g_dec_t rfl rfl (fun hc => ?_) (fun hc => ?_)) | (refine g_ndec_f rfl rfl (fun hc => ?_) (fun hc => ?_)) | (refine g_ndec_t rfl rfl (fun hc => ?_) (fun hc => ?_)) | (refine g_split rfl rfl (fun hc => ?_) (fun hc => ?_)) | (refine k_addI rfl rfl (by omega) (by omega) ?_) | (refine k_subI rfl rfl (by omega) (by omega) ?_) | (refine k_fieldAddr rfl ?_) | (refine k_eqlB rfl rfl ?_) | (refine k_neqB rfl rfl ?_) | (refine cw_cond_true rfl ?_) | (refine cw_cond_false rfl ?_) | (refine cw_cond_dec rfl (fun hc => ?_) (fun hc => ?_)) | (refine cw_cond_ndec rfl (fun hc => ?_) (fun hc => ?_)) | (refine cw_cond rfl (fun hc => ?_) (fun hc => ?_)) | (refine cw_block ?_) | (refine cw_exit ?_) | (refine then_exit ?_) | (refine in_exit ?_) | (refine in_exit_ne rfl ?_) | (refine in_normal ?_) | (refine cw_ret ?_) | (refine then_ret ?_) | (refine in_ret ?_) | (refine cw_skip ?_))
    have str1 := hstr.chg hc1 hC.cmb
    repeat' (first | (refine k_loadC rfl str1 rfl ?_) | (refine k_mapNew (v := .pointer (some ⟨h.blk, 0, none⟩)) mapT intT rfl rfl rfl hm1 hmne (fun w2 hc2 hm2 => ⟨fun _ _ => trivial, ?_⟩)) | (refine k_pure rfl ?_) | (refine then_normal ?_) | (refine cw_seq ?_) | (refine cw_region rfl ?_) | (refine rr_nil ?_) | (refine k_len rfl ?_) | (refine g_run rfl rfl ?_) | (refine g_skip rfl rfl ?_) | (refine g_dec_f rfl rfl (fun hc => ?_) (fun hc => ?_)) | (refine g_dec_t rfl rfl (fun hc => ?_) (fun hc => ?_)) | (refine g_ndec_f rfl rfl (fun hc => ?_) (fun hc => ?_)) | (refine g_ndec_t rfl rfl (fun hc => ?_) (fun hc => ?_)) | (refine g_split rfl rfl (fun hc => ?_) (fun hc => ?_)) | (refine k_addI rfl rfl (by omega) (by omega) ?_) | (refine k_subI rfl rfl (by omega) (by omega) ?_) | (refine k_fieldAddr rfl ?_) | (refine k_eqlB rfl rfl ?_) | (refine k_neqB rfl rfl ?_) | (refine cw_cond_true rfl ?_) | (refine cw_cond_false rfl ?_) | (refine cw_cond_dec rfl (fun hc => ?_) (fun hc => ?_)) | (refine cw_cond_ndec rfl (fun hc => ?_) (fun hc => ?_)) | (refine cw_cond rfl (fun hc => ?_) (fun hc => ?_)) | (refine cw_block ?_) | (refine cw_exit ?_) | (refine then_exit ?_) | (refine in_exit ?_) | (refine in_exit_ne rfl ?_) | (refine in_normal ?_) | (refine cw_ret ?_) | (refine then_ret ?_) | (refine in_ret ?_) | (refine cw_skip ?_))
    have str2 := str1.chg hc2 hC.cmb
    have dv2 := (hdv.chg hc1 (fun ad e => (hC.vne ad e).2)).chg hc2 (fun ad e => (hC.vne ad e).2)
    have f12 : Fr c.own w w2 := (hc1.fr own2).trans (hc2.fr own2)
    repeat' (first | (refine k_loadC rfl str2 rfl ?_) | (refine k_pure rfl ?_) | (refine then_normal ?_) | (refine cw_seq ?_) | (refine cw_region rfl ?_) | (refine rr_nil ?_) | (refine k_len rfl ?_) | (refine g_run rfl rfl ?_) | (refine g_skip rfl rfl ?_) | (refine g_dec_f rfl rfl (fun hc => ?_) (fun hc => ?_)) | (refine g_dec_t rfl rfl (fun hc => ?_) (fun hc => ?_)) | (refine g_ndec_f rfl rfl (fun hc => ?_) (fun hc => ?_)) | (refine g_ndec_t rfl rfl (fun hc => ?_) (fun hc => ?_)) | (refine g_split rfl rfl (fun hc => ?_) (fun hc => ?_)) | (refine k_addI rfl rfl (by omega) (by omega) ?_) | (refine k_subI rfl rfl (by omega) (by omega) ?_) | (refine k_fieldAddr rfl ?_) | (refine k_eqlB rfl rfl ?_) | (refine k_neqB rfl rfl ?_) | (refine cw_cond_true rfl ?_) | (refine cw_cond_false rfl ?_) | (refine cw_cond_dec rfl (fun hc => ?_) (fun hc => ?_)) | (refine cw_cond_ndec rfl (fun hc => ?_) (fun hc => ?_)) | (refine cw_cond rfl (fun hc => ?_) (fun hc => ?_)) | (refine cw_block ?_) | (refine cw_exit ?_) | (refine then_exit ?_) | (refine in_exit ?_) | (refine in_exit_ne rfl ?_) | (refine in_normal ?_) | (refine cw_ret ?_) | (refine then_ret ?_) | (refine in_ret ?_) | (refine cw_skip ?_))
    · refine k_app1 (v := .nilFunc) rfl rfl rfl rfl rfl rfl dv2 (by omega) (by omega) (Nat.zero_le _) (fun gx a3 c3 w3 ho3 hg3 hA3 => ?_)
      have hvown : ∀ q, (Value.slice c.va ls.length c.vc).ownBlock = some q → c.own q := fun q e => by
        cases hv : c.va with
        | none => rw [hv] at e; simp [Value.ownBlock] at e
        | some ad => rw [hv] at e; simp [Value.ownBlock] at e; exact .inr (.inr ⟨ad, hv, e⟩)
      have f23 : Fr c.own w2 w3 := grown_fr hg3 hvown
      have hvnc : (Value.slice c.va ls.length c.vc).ownBlock ≠ some c.cb ∧ (Value.slice c.va ls.length c.vc).ownBlock ≠ some c.mb := by
        cases hv : c.va with
        | none => simp [Value.ownBlock]
        | some ad => have := hC.vne ad hv; simp [Value.ownBlock]; exact this
      obtain ⟨v3, rfl⟩ := Own.ba ho3
      have str3 := str2.gb hg3 hvnc.1
      have sz2 := f12.size
      have hv3 : v3 ≠ c.cb ∧ v3 ≠ c.mb := by
        rcases hA3 with e | e
        · have := hC.vne _ e.symm; exact this
        · have := e _ rfl; have h1 := str2.lt; have h2 := hm2.lt; simp only at this; omega
      repeat' (first | (refine k_storeC rfl rfl rfl str3 rfl (fun w4 hc4 hs4 => ⟨fun _ _ => trivial, ?_⟩)) | (refine k_pure rfl ?_) | (refine then_normal ?_) | (refine cw_seq ?_) | (refine cw_region rfl ?_) | (refine rr_nil ?_) | (refine k_len rfl ?_) | (refine g_run rfl rfl ?_) | (refine g_skip rfl rfl ?_) | (refine g_dec_f rfl rfl (fun hc => ?_) (fun hc => ?_)) | (refine g_dec_t rfl rfl (fun hc => ?_) (fun hc => ?_)) | (refine g_ndec_f rfl rfl (fun hc => ?_) (fun hc => ?_)) | (refine g_ndec_t rfl rfl (fun hc => ?_) (fun hc => ?_)) | (refine g_split rfl rfl (fun hc => ?_) (fun hc => ?_)) | (refine k_addI rfl rfl (by omega) (by omega) ?_) | (refine k_subI rfl rfl (by omega) (by omega) ?_) | (refine k_fieldAddr rfl ?_) | (refine k_eqlB rfl rfl ?_) | (refine k_neqB rfl rfl ?_) | (refine cw_cond_true rfl ?_) | (refine cw_cond_false rfl ?_) | (refine cw_cond_dec rfl (fun hc => ?_) (fun hc => ?_)) | (refine cw_cond_ndec rfl (fun hc => ?_) (fun hc => ?_)) | (refine cw_cond rfl (fun hc => ?_) (fun hc => ?_)) | (refine cw_block ?_) | (refine cw_exit ?_) | (refine then_exit ?_) | (refine in_exit ?_) | (refine in_exit_ne rfl ?_) | (refine in_normal ?_) | (refine cw_ret ?_) | (refine then_ret ?_) | (refine in_ret ?_) | (refine cw_skip ?_))
      have dv4 := ho3.chg hc4 (by rintro _ ⟨⟩; exact hv3.1)
      repeat' (first | (refine k_loadC rfl hs4 rfl ?_) | (refine k_mkFunc ?_) | (refine k_indexN (j := ls.length) rfl rfl ⟨_, _, rfl⟩ (by omega) ?_) | (refine k_storeOwn (v := dvV h) rfl rfl rfl dv4 (by simp [Value.cells]) (fun g w5 hg _ hc5 ho5 => ⟨fun _ _ => trivial, ?_⟩)) | (refine k_pure rfl ?_) | (refine then_normal ?_) | (refine cw_seq ?_) | (refine cw_region rfl ?_) | (refine rr_nil ?_) | (refine k_len rfl ?_) | (refine g_run rfl rfl ?_) | (refine g_skip rfl rfl ?_) | (refine g_dec_f rfl rfl (fun hc => ?_) (fun hc => ?_)) | (refine g_dec_t rfl rfl (fun hc => ?_) (fun hc => ?_)) | (refine g_ndec_f rfl rfl (fun hc => ?_) (fun hc => ?_)) | (refine g_ndec_t rfl rfl (fun hc => ?_) (fun hc => ?_)) | (refine g_split rfl rfl (fun hc => ?_) (fun hc => ?_)) | (refine k_addI rfl rfl (by omega) (by omega) ?_) | (refine k_subI rfl rfl (by omega) (by omega) ?_) | (refine k_fieldAddr rfl ?_) | (refine k_eqlB rfl rfl ?_) | (refine k_neqB rfl rfl ?_) | (refine cw_cond_true rfl ?_) | (refine cw_cond_false rfl ?_) | (refine cw_cond_dec rfl (fun hc => ?_) (fun hc => ?_)) | (refine cw_cond_ndec rfl (fun hc => ?_) (fun hc => ?_)) | (refine cw_cond rfl (fun hc => ?_) (fun hc => ?_)) | (refine cw_block ?_) | (refine cw_exit ?_) | (refine then_exit ?_) | (refine in_exit ?_) | (refine in_exit_ne rfl ?_) | (refine in_normal ?_) | (refine cw_ret ?_) | (refine then_ret ?_) | (refine in_ret ?_) | (refine cw_skip ?_))
      obtain rfl : v3 = g := by injection hg with e; injection e
      have str5 := hs4.chg hc5 (Ne.symm hv3.1)
      have hm5 : MapAt w5 c.mb _ := ((hm2.of_block (hg3.block _ hm2.lt (Ne.symm hvnc.2))).chg hc4 (Ne.symm hC.cmb)).chg hc5 (Ne.symm hv3.2)
      have e := range_add (k := ls.length) (fun j => dvV (c.hs j)) (fun j => dvV (if j = ls.length then h else c.hs j)) Value.nilFunc (fun j hj => by simp only [if_neg hj])
      simp only [ite_true] at e
      have ho5' : Own w5 0 152 1 (some ⟨v3, 0, none⟩) (ls.length + 1) c3 (((List.range ls.length).map (fun j => dvV (c.hs j)) ++ [Value.nilFunc]).set ls.length (dvV h)) := ho5
      rw [e] at ho5'
      have hva : (some ⟨v3, 0, none⟩ : Option Addr) = c.va ∨ ∀ ad : Addr, (some ⟨v3, 0, none⟩ : Option Addr) = some ad → w.heap.size ≤ ad.block := hA3.imp id fun f ad e => Nat.le_trans sz2 (f ad e)
      have hfr : Fr c.own w w5 := by
        refine (f12.trans (f23.trans (hc4.fr own1))).then (f1C hc5) ?_
        rintro q hq rfl
        rcases hva with e | e
        · exact .inr (.inr ⟨_, e.symm, rfl⟩)
        · have := e _ rfl; exact absurd this (by simp only; omega)
      refine end0 rfl ⟨rfl, some ⟨v3, 0, none⟩, c3, _, put_ok hC hi hL hf hfr hva ?_ hm5 ?_ ?_, hfr, hva⟩
      · rw [hpl]; exact str5
      · rw [hpl]; exact hmk
      · rw [hpl]; exact ho5'
    · omega
end Go.Proofs.Ythhfjagnmhhapaa

