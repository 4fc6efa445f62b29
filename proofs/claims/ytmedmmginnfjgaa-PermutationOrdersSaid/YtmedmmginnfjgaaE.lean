import Derived.Test.YtmedmmginnfjgaaD
namespace Go.Proofs.Ytmedmmginnfjgaa
open Go.W Go.PM

/-- a list of numbers and a flag, the list in new memory -/
def RetL (w : World) (xs : List Int) (ok : Bool) (v : Value) (w' : World) : Prop :=
  ∃ b c, v = .tuple #[.slice b xs.length c, .bool ok] ∧ Own w' w.heap.size 3 1 b xs.length c (intsL xs) ∧ Ex w w'

theorem compose_spec {xs ys : List Int} {a a' : Option Addr} {w : World} (hx : Sl w a (intsL xs)) (hy : Sl w a' (intsL ys)) (cap cap' : Nat) :
    CallsR Try.prog 20 #[.slice a xs.length cap, .slice a' ys.length cap'] w (RetL w (composeF xs ys).1 (composeF xs ys).2) := by
  refine callsR_of (args := [_, _]) Try.func20 rfl rfl ?_
  have hno : ∀ w', Ex w w' → ¬ (xs.length = ys.length ∧ IsPerm xs ∧ IsPerm ys) → RetL w (composeF xs ys).1 (composeF xs ys).2 (.tuple #[.slice none 0 0, .bool false]) w' := fun w' hE h => by
    rw [composeF, if_neg h]; exact ⟨none, 0, rfl, Own.nil _ _ _ _, hE⟩
  repeat' (first | (refine k_pure rfl ?_) | (refine then_normal ?_) | (refine cw_seq ?_) | (refine cw_region rfl ?_) | (refine rr_nil ?_) | (refine k_len rfl ?_) | (refine g_run rfl rfl ?_) | (refine g_skip rfl rfl ?_) | (refine g_dec_f rfl rfl (fun hc => ?_) (fun hc => ?_)) | (refine g_dec_t rfl rfl (fun hc => ?_) (fun hc => ?_)) | (refine g_ndec_f rfl rfl (fun hc => ?_) (fun hc => ?_)) | (refine g_ndec_t rfl rfl (fun hc => ?_) (fun hc => ?_)) | (refine g_split rfl rfl (fun hc => ?_) (fun hc => ?_)) | (refine k_addI rfl rfl (by omega) (by omega) ?_) | (refine k_subI rfl rfl (by omega) (by omega) ?_) | (refine k_fieldAddr rfl ?_) | (refine k_eqlB rfl rfl ?_) | (refine k_neqB rfl rfl ?_) | (refine cw_cond_true rfl ?_) | (refine cw_cond_false rfl ?_) | (refine cw_cond_dec rfl (fun hc => ?_) (fun hc => ?_)) | (refine cw_cond_ndec rfl (fun hc => ?_) (fun hc => ?_)) | (refine cw_cond rfl (fun hc => ?_) (fun hc => ?_)) | (refine cw_block ?_) | (refine cw_exit ?_) | (refine then_exit ?_) | (refine in_exit ?_) | (refine in_exit_ne rfl ?_) | (refine in_normal ?_) | (refine cw_ret ?_) | (refine then_ret ?_) | (refine in_ret ?_) | (refine cw_skip ?_))
  · refine k_call (valid_spec hx _) rfl ?_
    rintro v w1 ⟨rfl, hE1⟩
    refine ⟨fun _ _ => trivial, ?_⟩
    repeat' (first | (refine k_pure rfl ?_) | (refine then_normal ?_) | (refine cw_seq ?_) | (refine cw_region rfl ?_) | (refine rr_nil ?_) | (refine k_len rfl ?_) | (refine g_run rfl rfl ?_) | (refine g_skip rfl rfl ?_) | (refine g_dec_f rfl rfl (fun hc => ?_) (fun hc => ?_)) | (refine g_dec_t rfl rfl (fun hc => ?_) (fun hc => ?_)) | (refine g_ndec_f rfl rfl (fun hc => ?_) (fun hc => ?_)) | (refine g_ndec_t rfl rfl (fun hc => ?_) (fun hc => ?_)) | (refine g_split rfl rfl (fun hc => ?_) (fun hc => ?_)) | (refine k_addI rfl rfl (by omega) (by omega) ?_) | (refine k_subI rfl rfl (by omega) (by omega) ?_) | (refine k_fieldAddr rfl ?_) | (refine k_eqlB rfl rfl ?_) | (refine k_neqB rfl rfl ?_) | (refine cw_cond_true rfl ?_) | (refine cw_cond_false rfl ?_) | (refine cw_cond_dec rfl (fun hc => ?_) (fun hc => ?_)) | (refine cw_cond_ndec rfl (fun hc => ?_) (fun hc => ?_)) | (refine cw_cond rfl (fun hc => ?_) (fun hc => ?_)) | (refine cw_block ?_) | (refine cw_exit ?_) | (refine then_exit ?_) | (refine in_exit ?_) | (refine in_exit_ne rfl ?_) | (refine in_normal ?_) | (refine cw_ret ?_) | (refine then_ret ?_) | (refine in_ret ?_) | (refine cw_skip ?_))
    · refine k_call (valid_spec (hy.ext hE1) _) rfl ?_
      rintro v w2 ⟨rfl, hE2⟩
      refine ⟨fun _ _ => trivial, ?_⟩
      replace hE2 := hE1.trans hE2
      repeat' (first | (refine k_makeI rfl rfl (by have := ‹IsPerm xs›.2.1; omega) (by have := ‹IsPerm xs›.2.1; omega) (fun g w3 hn => ⟨fun _ _ => trivial, ?_⟩)) | (refine k_pure rfl ?_) | (refine then_normal ?_) | (refine cw_seq ?_) | (refine cw_region rfl ?_) | (refine rr_nil ?_) | (refine k_len rfl ?_) | (refine g_run rfl rfl ?_) | (refine g_skip rfl rfl ?_) | (refine g_dec_f rfl rfl (fun hc => ?_) (fun hc => ?_)) | (refine g_dec_t rfl rfl (fun hc => ?_) (fun hc => ?_)) | (refine g_ndec_f rfl rfl (fun hc => ?_) (fun hc => ?_)) | (refine g_ndec_t rfl rfl (fun hc => ?_) (fun hc => ?_)) | (refine g_split rfl rfl (fun hc => ?_) (fun hc => ?_)) | (refine k_addI rfl rfl (by omega) (by omega) ?_) | (refine k_subI rfl rfl (by omega) (by omega) ?_) | (refine k_fieldAddr rfl ?_) | (refine k_eqlB rfl rfl ?_) | (refine k_neqB rfl rfl ?_) | (refine cw_cond_true rfl ?_) | (refine cw_cond_false rfl ?_) | (refine cw_cond_dec rfl (fun hc => ?_) (fun hc => ?_)) | (refine cw_cond_ndec rfl (fun hc => ?_) (fun hc => ?_)) | (refine cw_cond rfl (fun hc => ?_) (fun hc => ?_)) | (refine cw_block ?_) | (refine cw_exit ?_) | (refine then_exit ?_) | (refine in_exit ?_) | (refine in_exit_ne rfl ?_) | (refine in_normal ?_) | (refine cw_ret ?_) | (refine then_ret ?_) | (refine in_ret ?_) | (refine cw_skip ?_))
      · exact ret2 rfl (rt rfl) (rt rfl) (hno _ hE2 (fun h => hc h.2.2))
      · rename_i hlen hpx
        have hl : xs.length = ys.length := by omega
        have hyes : composeF xs ys = (mulP xs ys, true) := by rw [composeF, if_pos ⟨hl, hpx, hc⟩]
        have hE3 := hE2.trans hn.ex
        have hpl := hpx.2.1
        refine cw_loop (ι := Nat × List Int) [7, 8, 29, 30, 31, 32, 33, 34, 35, 36, 37, 38, 39, 40, 41] (fun s => [(29, .int .i64 (s.1 : Int))])
          (fun s w' => s.1 ≤ xs.length ∧ Ex w w' ∧ Blk w' g 3 (intsL s.2) ∧ s.2.length = xs.length ∧ s.2.take s.1 = mulP (xs.take s.1) ys) (fun s => xs.length - s.1)
          (0, List.replicate xs.length 0) ⟨rfl, trivial⟩ ⟨by simp, hE3, hn.blk, by simp, rfl⟩ ?_
        rintro ⟨k, rs⟩ ξ w4 ⟨hk, hE, hb, hrl, hT⟩
        simp only at hk hb hrl hT
        show CW _ _ _ _ (over [(29, .int .i64 (k : Int))] _) w4
        have hrk := fun h : k < xs.length => hpx.lt h
        repeat' (first | (refine k_indexN rfl rfl (hx.plain (by simp; omega)) (by omega) ?_) | (refine k_loadI rfl (hx.ext hE) (by omega) ?_) | (refine k_index1 rfl rfl (hy.plain (by simp; omega)) (by omega) (by omega) ?_) | (refine k_loadI rfl (hy.ext hE) (by omega) ?_) | (refine k_indexN rfl rfl ⟨_, _, rfl⟩ (by omega) ?_) | (refine k_storeI rfl rfl hb (by omega) (fun w5 hc5 hb5 => ⟨fun _ _ => trivial, ?_⟩)) | (refine k_pure rfl ?_) | (refine then_normal ?_) | (refine cw_seq ?_) | (refine cw_region rfl ?_) | (refine rr_nil ?_) | (refine k_len rfl ?_) | (refine g_run rfl rfl ?_) | (refine g_skip rfl rfl ?_) | (refine g_dec_f rfl rfl (fun hc => ?_) (fun hc => ?_)) | (refine g_dec_t rfl rfl (fun hc => ?_) (fun hc => ?_)) | (refine g_ndec_f rfl rfl (fun hc => ?_) (fun hc => ?_)) | (refine g_ndec_t rfl rfl (fun hc => ?_) (fun hc => ?_)) | (refine g_split rfl rfl (fun hc => ?_) (fun hc => ?_)) | (refine k_addI rfl rfl (by omega) (by omega) ?_) | (refine k_subI rfl rfl (by omega) (by omega) ?_) | (refine k_fieldAddr rfl ?_) | (refine k_eqlB rfl rfl ?_) | (refine k_neqB rfl rfl ?_) | (refine cw_cond_true rfl ?_) | (refine cw_cond_false rfl ?_) | (refine cw_cond_dec rfl (fun hc => ?_) (fun hc => ?_)) | (refine cw_cond_ndec rfl (fun hc => ?_) (fun hc => ?_)) | (refine cw_cond rfl (fun hc => ?_) (fun hc => ?_)) | (refine cw_block ?_) | (refine cw_exit ?_) | (refine then_exit ?_) | (refine in_exit ?_) | (refine in_exit_ne rfl ?_) | (refine in_normal ?_) | (refine cw_ret ?_) | (refine then_ret ?_) | (refine in_ret ?_) | (refine cw_skip ?_))
        · have hlo := hn.lo; have := hE2.size
          refine ⟨⟨(k + 1, rs.set k (ys.getD (xs.getD k 0).toNat 0)), ⟨by simp only; omega, hE.chg hc5 (by omega), hb5, by simp [hrl], ?_⟩, by simp only; omega, rfl, trivial⟩, (by (repeat (first | exact agree_mask _ _ _ | refine agree_upd rfl ?_ | refine agree_updO rfl ?_ | refine agree_overIn rfl ?_ | refine agree_maskIn rfl ?_)))⟩
          simp only
          rw [take_set_succ (by omega), hT, mulP_snoc (by omega)]
        · have hlo := hn.lo; have := hE2.size
          obtain rfl : k = xs.length := by omega
          rw [List.take_of_length_le (by omega), List.take_length] at hT
          subst hT
          refine ret2 rfl (rt rfl) (rt rfl) ?_
          rw [hyes]
          exact ⟨some ⟨g, 0, none⟩, xs.length, by simp only [mulP_length]; rfl, by simp only [mulP_length]; exact hb.own (by simp [mulP_length]) (by simp only [maxLen]; omega) (by omega), hE⟩
    · exact ret2 rfl (rt rfl) (rt rfl) (hno _ hE1 (fun h => hc h.2.1))
  · exact ret2 rfl (rt rfl) (rt rfl) (hno _ (Ex.refl _) (fun h => hc (by omega)))

theorem refCompose_spec {xs ys : List Int} {a a' : Option Addr} {w : World} (hx : Sl w a (intsL xs)) (hy : Sl w a' (intsL ys)) (cap cap' : Nat) :
    CallsR Try.prog 21 #[.slice a xs.length cap, .slice a' ys.length cap'] w (RetL w (composeF xs ys).1 (composeF xs ys).2) := by
  refine callsR_of (args := [_, _]) Try.func21 rfl rfl ?_
  have hno : ∀ w', Ex w w' → ¬ (xs.length = ys.length ∧ IsPerm xs ∧ IsPerm ys) → RetL w (composeF xs ys).1 (composeF xs ys).2 (.tuple #[.slice none 0 0, .bool false]) w' := fun w' hE h => by
    rw [composeF, if_neg h]; exact ⟨none, 0, rfl, Own.nil _ _ _ _, hE⟩
  repeat' (first | (refine k_pure rfl ?_) | (refine then_normal ?_) | (refine cw_seq ?_) | (refine cw_region rfl ?_) | (refine rr_nil ?_) | (refine k_len rfl ?_) | (refine g_run rfl rfl ?_) | (refine g_skip rfl rfl ?_) | (refine g_dec_f rfl rfl (fun hc => ?_) (fun hc => ?_)) | (refine g_dec_t rfl rfl (fun hc => ?_) (fun hc => ?_)) | (refine g_ndec_f rfl rfl (fun hc => ?_) (fun hc => ?_)) | (refine g_ndec_t rfl rfl (fun hc => ?_) (fun hc => ?_)) | (refine g_split rfl rfl (fun hc => ?_) (fun hc => ?_)) | (refine k_addI rfl rfl (by omega) (by omega) ?_) | (refine k_subI rfl rfl (by omega) (by omega) ?_) | (refine k_fieldAddr rfl ?_) | (refine k_eqlB rfl rfl ?_) | (refine k_neqB rfl rfl ?_) | (refine cw_cond_true rfl ?_) | (refine cw_cond_false rfl ?_) | (refine cw_cond_dec rfl (fun hc => ?_) (fun hc => ?_)) | (refine cw_cond_ndec rfl (fun hc => ?_) (fun hc => ?_)) | (refine cw_cond rfl (fun hc => ?_) (fun hc => ?_)) | (refine cw_block ?_) | (refine cw_exit ?_) | (refine then_exit ?_) | (refine in_exit ?_) | (refine in_exit_ne rfl ?_) | (refine in_normal ?_) | (refine cw_ret ?_) | (refine then_ret ?_) | (refine in_ret ?_) | (refine cw_skip ?_))
  refine k_call (refValid_spec hx _) rfl ?_
  rintro v w1 ⟨rfl, hE1⟩
  refine ⟨fun _ _ => trivial, ?_⟩
  repeat' (first | (refine k_pure rfl ?_) | (refine then_normal ?_) | (refine cw_seq ?_) | (refine cw_region rfl ?_) | (refine rr_nil ?_) | (refine k_len rfl ?_) | (refine g_run rfl rfl ?_) | (refine g_skip rfl rfl ?_) | (refine g_dec_f rfl rfl (fun hc => ?_) (fun hc => ?_)) | (refine g_dec_t rfl rfl (fun hc => ?_) (fun hc => ?_)) | (refine g_ndec_f rfl rfl (fun hc => ?_) (fun hc => ?_)) | (refine g_ndec_t rfl rfl (fun hc => ?_) (fun hc => ?_)) | (refine g_split rfl rfl (fun hc => ?_) (fun hc => ?_)) | (refine k_addI rfl rfl (by omega) (by omega) ?_) | (refine k_subI rfl rfl (by omega) (by omega) ?_) | (refine k_fieldAddr rfl ?_) | (refine k_eqlB rfl rfl ?_) | (refine k_neqB rfl rfl ?_) | (refine cw_cond_true rfl ?_) | (refine cw_cond_false rfl ?_) | (refine cw_cond_dec rfl (fun hc => ?_) (fun hc => ?_)) | (refine cw_cond_ndec rfl (fun hc => ?_) (fun hc => ?_)) | (refine cw_cond rfl (fun hc => ?_) (fun hc => ?_)) | (refine cw_block ?_) | (refine cw_exit ?_) | (refine then_exit ?_) | (refine in_exit ?_) | (refine in_exit_ne rfl ?_) | (refine in_normal ?_) | (refine cw_ret ?_) | (refine then_ret ?_) | (refine in_ret ?_) | (refine cw_skip ?_))
  · refine k_call (refValid_spec (hy.ext hE1) _) rfl ?_
    rintro v w2 ⟨rfl, hE2⟩
    refine ⟨fun _ _ => trivial, ?_⟩
    replace hE2 := hE1.trans hE2
    repeat' (first | (refine k_pure rfl ?_) | (refine then_normal ?_) | (refine cw_seq ?_) | (refine cw_region rfl ?_) | (refine rr_nil ?_) | (refine k_len rfl ?_) | (refine g_run rfl rfl ?_) | (refine g_skip rfl rfl ?_) | (refine g_dec_f rfl rfl (fun hc => ?_) (fun hc => ?_)) | (refine g_dec_t rfl rfl (fun hc => ?_) (fun hc => ?_)) | (refine g_ndec_f rfl rfl (fun hc => ?_) (fun hc => ?_)) | (refine g_ndec_t rfl rfl (fun hc => ?_) (fun hc => ?_)) | (refine g_split rfl rfl (fun hc => ?_) (fun hc => ?_)) | (refine k_addI rfl rfl (by omega) (by omega) ?_) | (refine k_subI rfl rfl (by omega) (by omega) ?_) | (refine k_fieldAddr rfl ?_) | (refine k_eqlB rfl rfl ?_) | (refine k_neqB rfl rfl ?_) | (refine cw_cond_true rfl ?_) | (refine cw_cond_false rfl ?_) | (refine cw_cond_dec rfl (fun hc => ?_) (fun hc => ?_)) | (refine cw_cond_ndec rfl (fun hc => ?_) (fun hc => ?_)) | (refine cw_cond rfl (fun hc => ?_) (fun hc => ?_)) | (refine cw_block ?_) | (refine cw_exit ?_) | (refine then_exit ?_) | (refine in_exit ?_) | (refine in_exit_ne rfl ?_) | (refine in_normal ?_) | (refine cw_ret ?_) | (refine then_ret ?_) | (refine in_ret ?_) | (refine cw_skip ?_))
    · exact ret2 rfl (rt rfl) (rt rfl) (hno _ hE2 (fun h => hc (by omega)))
    · rename_i hpx hpy
      have hl : xs.length = ys.length := by omega
      have hyes : composeF xs ys = (mulP xs ys, true) := by rw [composeF, if_pos ⟨hl, hpx, hpy⟩]
      refine k_call (product_spec (hx.ext hE2) (hy.ext hE2) _ _ (by have := hpx.2.1; omega) (fun y hy => by rw [← hl]; exact hpx.2.2.1 y hy)) rfl ?_
      rintro v w3 ⟨b, c, rfl, hO, hE3⟩
      refine ⟨fun _ _ => trivial, ?_⟩
      repeat' (first | (refine k_pure rfl ?_) | (refine then_normal ?_) | (refine cw_seq ?_) | (refine cw_region rfl ?_) | (refine rr_nil ?_) | (refine k_len rfl ?_) | (refine g_run rfl rfl ?_) | (refine g_skip rfl rfl ?_) | (refine g_dec_f rfl rfl (fun hc => ?_) (fun hc => ?_)) | (refine g_dec_t rfl rfl (fun hc => ?_) (fun hc => ?_)) | (refine g_ndec_f rfl rfl (fun hc => ?_) (fun hc => ?_)) | (refine g_ndec_t rfl rfl (fun hc => ?_) (fun hc => ?_)) | (refine g_split rfl rfl (fun hc => ?_) (fun hc => ?_)) | (refine k_addI rfl rfl (by omega) (by omega) ?_) | (refine k_subI rfl rfl (by omega) (by omega) ?_) | (refine k_fieldAddr rfl ?_) | (refine k_eqlB rfl rfl ?_) | (refine k_neqB rfl rfl ?_) | (refine cw_cond_true rfl ?_) | (refine cw_cond_false rfl ?_) | (refine cw_cond_dec rfl (fun hc => ?_) (fun hc => ?_)) | (refine cw_cond_ndec rfl (fun hc => ?_) (fun hc => ?_)) | (refine cw_cond rfl (fun hc => ?_) (fun hc => ?_)) | (refine cw_block ?_) | (refine cw_exit ?_) | (refine then_exit ?_) | (refine in_exit ?_) | (refine in_exit_ne rfl ?_) | (refine in_normal ?_) | (refine cw_ret ?_) | (refine then_ret ?_) | (refine in_ret ?_) | (refine cw_skip ?_))
      refine ret2 rfl (rt rfl) (rt rfl) ?_
      rw [hyes]
      exact ⟨b, c, rfl, hO.mono hE2.size, hE2.trans hE3⟩
    · exact ret2 rfl (rt rfl) (rt rfl) (hno _ hE2 (fun h => hc h.2.2))
  · exact ret2 rfl (rt rfl) (rt rfl) (hno _ hE1 (fun h => hc h.2.1))
end Go.Proofs.Ytmedmmginnfjgaa
