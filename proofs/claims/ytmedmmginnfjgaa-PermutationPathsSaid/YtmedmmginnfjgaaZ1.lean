import Derived.Test.YtmedmmginnfjgaaJ
import Derived.Test.YtmedmmginnfjgaaX
import Derived.Test.YtmedmmginnfjgaaOrb
import Derived.Test.YtmedmmginnfjgaaEdge
namespace Go.Proofs.Ytmedmmginnfjgaa
open Go.W Go.PM

theorem group_ref_spec {n : Int} {gens : List (List Int)} {ga : Option Addr} {sds : List SD} {w : World} (hg : Lists w .i64 ga sds gens) (gc : Nat) (hgl : gens.length ≤ 9223372036854775807) :
    CallsR Try.prog 64 #[.int .i64 n, .slice ga gens.length gc] w fun v w' => v = .int .i64 (grpF n gens) ∧ Ex w w' := by
  refine callsR_of (args := [_, _]) Try.func64 rfl rfl ?_
  have hl := hg.len
  repeat' (first | (refine k_pure rfl ?_) | (refine then_normal ?_) | (refine cw_seq ?_) | (refine cw_region rfl ?_) | (refine rr_nil ?_) | (refine k_len rfl ?_) | (refine g_run rfl rfl ?_) | (refine g_skip rfl rfl ?_) | (refine g_dec_f rfl rfl (fun hc => ?_) (fun hc => ?_)) | (refine g_dec_t rfl rfl (fun hc => ?_) (fun hc => ?_)) | (refine g_ndec_f rfl rfl (fun hc => ?_) (fun hc => ?_)) | (refine g_ndec_t rfl rfl (fun hc => ?_) (fun hc => ?_)) | (refine g_split rfl rfl (fun hc => ?_) (fun hc => ?_)) | (refine k_addI rfl rfl (by omega) (by omega) ?_) | (refine k_subI rfl rfl (by omega) (by omega) ?_) | (refine k_fieldAddr rfl ?_) | (refine k_eqlB rfl rfl ?_) | (refine k_neqB rfl rfl ?_) | (refine cw_cond_true rfl ?_) | (refine cw_cond_false rfl ?_) | (refine cw_cond_dec rfl (fun hc => ?_) (fun hc => ?_)) | (refine cw_cond_ndec rfl (fun hc => ?_) (fun hc => ?_)) | (refine cw_cond rfl (fun hc => ?_) (fun hc => ?_)) | (refine cw_block ?_) | (refine cw_exit ?_) | (refine then_exit ?_) | (refine in_exit ?_) | (refine in_exit_ne rfl ?_) | (refine in_normal ?_) | (refine cw_ret ?_) | (refine then_ret ?_) | (refine in_ret ?_) | (refine cw_skip ?_))
  all_goals first | (refine ret1 rfl (rt rfl) ⟨?_, Ex.refl _⟩; show Value.int .i64 1 = _; rw [grpF, if_pos (by omega)]; done) | skip
  · refine ret1 rfl (rt rfl) ⟨?_, Ex.refl _⟩
    show Value.int .i64 7 = _
    rw [grpF, if_neg (by omega), if_pos (by omega)]
  · have he : grpF n gens = if gensOK n gens then 0 else 3 := by rw [grpF, if_neg (by omega), if_neg (by omega)]
    refine cw_loop (ι := Nat) [4, 6, 18, 19, 20, 21, 22, 23, 24, 25, 26, 27, 28, 29, 30, 31] (fun k => [(18, .int .i64 (k : Int))]) (fun k w' => k ≤ gens.length ∧ Ex w w' ∧ gensOK n (gens.take k)) (fun k => gens.length - k)
      0 ⟨rfl, trivial⟩ ⟨by simp, Ex.refl _, by simp [gensOK]⟩ ?_
    rintro k ξ w2 ⟨hk, hE, hK⟩
    repeat' (first | (refine k_indexN rfl rfl (hg.sl.plain (by simp; omega)) (by omega) ?_) | (refine k_loadS rfl (hg.sl.ext hE) (by omega) ?_) | (refine k_pure rfl ?_) | (refine then_normal ?_) | (refine cw_seq ?_) | (refine cw_region rfl ?_) | (refine rr_nil ?_) | (refine k_len rfl ?_) | (refine g_run rfl rfl ?_) | (refine g_skip rfl rfl ?_) | (refine g_dec_f rfl rfl (fun hc => ?_) (fun hc => ?_)) | (refine g_dec_t rfl rfl (fun hc => ?_) (fun hc => ?_)) | (refine g_ndec_f rfl rfl (fun hc => ?_) (fun hc => ?_)) | (refine g_ndec_t rfl rfl (fun hc => ?_) (fun hc => ?_)) | (refine g_split rfl rfl (fun hc => ?_) (fun hc => ?_)) | (refine k_addI rfl rfl (by omega) (by omega) ?_) | (refine k_subI rfl rfl (by omega) (by omega) ?_) | (refine k_fieldAddr rfl ?_) | (refine k_eqlB rfl rfl ?_) | (refine k_neqB rfl rfl ?_) | (refine cw_cond_true rfl ?_) | (refine cw_cond_false rfl ?_) | (refine cw_cond_dec rfl (fun hc => ?_) (fun hc => ?_)) | (refine cw_cond_ndec rfl (fun hc => ?_) (fun hc => ?_)) | (refine cw_cond rfl (fun hc => ?_) (fun hc => ?_)) | (refine cw_block ?_) | (refine cw_exit ?_) | (refine then_exit ?_) | (refine in_exit ?_) | (refine in_exit_ne rfl ?_) | (refine in_normal ?_) | (refine cw_ret ?_) | (refine then_ret ?_) | (refine in_ret ?_) | (refine cw_skip ?_))
    · obtain ⟨h1, h2⟩ := hg.each k (by omega)
      rw [h2] at hc
      rw [h2]
      refine k_call (refValid_spec (h1.ext hE) _) rfl ?_
      rintro v w3 ⟨rfl, hE3⟩
      refine ⟨fun _ _ => trivial, ?_⟩
      replace hE3 := hE.trans hE3
      have hcl := Decidable.not_not.1 hc
      repeat' (first | (refine k_pure rfl ?_) | (refine then_normal ?_) | (refine cw_seq ?_) | (refine cw_region rfl ?_) | (refine rr_nil ?_) | (refine k_len rfl ?_) | (refine g_run rfl rfl ?_) | (refine g_skip rfl rfl ?_) | (refine g_dec_f rfl rfl (fun hc => ?_) (fun hc => ?_)) | (refine g_dec_t rfl rfl (fun hc => ?_) (fun hc => ?_)) | (refine g_ndec_f rfl rfl (fun hc => ?_) (fun hc => ?_)) | (refine g_ndec_t rfl rfl (fun hc => ?_) (fun hc => ?_)) | (refine g_split rfl rfl (fun hc => ?_) (fun hc => ?_)) | (refine k_addI rfl rfl (by omega) (by omega) ?_) | (refine k_subI rfl rfl (by omega) (by omega) ?_) | (refine k_fieldAddr rfl ?_) | (refine k_eqlB rfl rfl ?_) | (refine k_neqB rfl rfl ?_) | (refine cw_cond_true rfl ?_) | (refine cw_cond_false rfl ?_) | (refine cw_cond_dec rfl (fun hc => ?_) (fun hc => ?_)) | (refine cw_cond_ndec rfl (fun hc => ?_) (fun hc => ?_)) | (refine cw_cond rfl (fun hc => ?_) (fun hc => ?_)) | (refine cw_block ?_) | (refine cw_exit ?_) | (refine then_exit ?_) | (refine in_exit ?_) | (refine in_exit_ne rfl ?_) | (refine in_normal ?_) | (refine cw_ret ?_) | (refine then_ret ?_) | (refine in_ret ?_) | (refine cw_skip ?_))
      · refine ret1 rfl (rt rfl) ⟨?_, hE3⟩
        rw [he, if_neg (not_gensOK (k := k) (by omega) (fun h => hc h.2))]; rfl
      · refine ⟨⟨k + 1, ⟨by omega, hE3, ?_⟩, by omega, rfl, trivial⟩, (by (repeat (first | exact agree_mask _ _ _ | refine agree_upd rfl ?_ | refine agree_updO rfl ?_ | refine agree_overIn rfl ?_ | refine agree_maskIn rfl ?_)))⟩
        rw [take_succ_getD gens [] (by omega), gensOK_snoc]
        exact ⟨hK, hcl, hc⟩
    · obtain ⟨h1, h2⟩ := hg.each k (by omega)
      rw [h2] at hc
      refine ret1 rfl (rt rfl) ⟨?_, hE⟩
      rw [he, if_neg (not_gensOK (k := k) (by omega) (fun h => hc h.1))]; rfl
    · refine ret1 rfl (rt rfl) ⟨?_, hE⟩
      rw [List.take_of_length_le (by omega)] at hK
      rw [he, if_pos hK]; rfl

theorem refHas_spec {xs : List Int} {a : Option Addr} {w : World} (hx : Sl w a (intsL xs)) (cap : Nat) (hl : xs.length ≤ 9223372036854775807) (x : Int) :
    CallsR Try.prog 86 #[.slice a xs.length cap, .int .i64 x] w fun v w' => v = .bool (decide (x ∈ xs)) ∧ Ex w w' := by
  refine callsR_of (args := [_, _]) Try.func86 rfl rfl ?_
  repeat' (first | (refine k_pure rfl ?_) | (refine then_normal ?_) | (refine cw_seq ?_) | (refine cw_region rfl ?_) | (refine rr_nil ?_) | (refine k_len rfl ?_) | (refine g_run rfl rfl ?_) | (refine g_skip rfl rfl ?_) | (refine g_dec_f rfl rfl (fun hc => ?_) (fun hc => ?_)) | (refine g_dec_t rfl rfl (fun hc => ?_) (fun hc => ?_)) | (refine g_ndec_f rfl rfl (fun hc => ?_) (fun hc => ?_)) | (refine g_ndec_t rfl rfl (fun hc => ?_) (fun hc => ?_)) | (refine g_split rfl rfl (fun hc => ?_) (fun hc => ?_)) | (refine k_addI rfl rfl (by omega) (by omega) ?_) | (refine k_subI rfl rfl (by omega) (by omega) ?_) | (refine k_fieldAddr rfl ?_) | (refine k_eqlB rfl rfl ?_) | (refine k_neqB rfl rfl ?_) | (refine cw_cond_true rfl ?_) | (refine cw_cond_false rfl ?_) | (refine cw_cond_dec rfl (fun hc => ?_) (fun hc => ?_)) | (refine cw_cond_ndec rfl (fun hc => ?_) (fun hc => ?_)) | (refine cw_cond rfl (fun hc => ?_) (fun hc => ?_)) | (refine cw_block ?_) | (refine cw_exit ?_) | (refine then_exit ?_) | (refine in_exit ?_) | (refine in_exit_ne rfl ?_) | (refine in_normal ?_) | (refine cw_ret ?_) | (refine then_ret ?_) | (refine in_ret ?_) | (refine cw_skip ?_))
  refine cw_loop (ι := Nat) [4, 6, 9, 10, 11, 12, 13, 14, 15, 16] (fun k => [(9, .int .i64 (k : Int))]) (fun k w' => k ≤ xs.length ∧ w' = w ∧ ∀ j, j < k → xs.getD j 0 ≠ x) (fun k => xs.length - k) 0 ⟨rfl, trivial⟩ ⟨by simp, rfl, by simp⟩ ?_
  rintro k ξ w2 ⟨hk, rfl, hT⟩
  repeat' (first | (refine k_indexN rfl rfl (hx.plain (by simp; omega)) (by omega) ?_) | (refine k_loadI rfl hx (by omega) ?_) | (refine k_pure rfl ?_) | (refine then_normal ?_) | (refine cw_seq ?_) | (refine cw_region rfl ?_) | (refine rr_nil ?_) | (refine k_len rfl ?_) | (refine g_run rfl rfl ?_) | (refine g_skip rfl rfl ?_) | (refine g_dec_f rfl rfl (fun hc => ?_) (fun hc => ?_)) | (refine g_dec_t rfl rfl (fun hc => ?_) (fun hc => ?_)) | (refine g_ndec_f rfl rfl (fun hc => ?_) (fun hc => ?_)) | (refine g_ndec_t rfl rfl (fun hc => ?_) (fun hc => ?_)) | (refine g_split rfl rfl (fun hc => ?_) (fun hc => ?_)) | (refine k_addI rfl rfl (by omega) (by omega) ?_) | (refine k_subI rfl rfl (by omega) (by omega) ?_) | (refine k_fieldAddr rfl ?_) | (refine k_eqlB rfl rfl ?_) | (refine k_neqB rfl rfl ?_) | (refine cw_cond_true rfl ?_) | (refine cw_cond_false rfl ?_) | (refine cw_cond_dec rfl (fun hc => ?_) (fun hc => ?_)) | (refine cw_cond_ndec rfl (fun hc => ?_) (fun hc => ?_)) | (refine cw_cond rfl (fun hc => ?_) (fun hc => ?_)) | (refine cw_block ?_) | (refine cw_exit ?_) | (refine then_exit ?_) | (refine in_exit ?_) | (refine in_exit_ne rfl ?_) | (refine in_normal ?_) | (refine cw_ret ?_) | (refine then_ret ?_) | (refine in_ret ?_) | (refine cw_skip ?_))
  · refine ret1 rfl (rt rfl) ⟨congrArg Value.bool (Eq.symm (decide_eq_true ?_)), Ex.refl _⟩
    rw [hc]; exact getD_mem (by omega)
  · refine ⟨⟨k + 1, ⟨by omega, rfl, fun j hj => ?_⟩, by omega, rfl, trivial⟩, (by (repeat (first | exact agree_mask _ _ _ | refine agree_upd rfl ?_ | refine agree_updO rfl ?_ | refine agree_overIn rfl ?_ | refine agree_maskIn rfl ?_)))⟩
    by_cases hjk : j = k
    · subst hjk; exact fun e => hc e.symm
    · exact hT j (by omega)
  · refine ret1 rfl (rt rfl) ⟨congrArg Value.bool (Eq.symm (decide_eq_false ?_)), Ex.refl _⟩
    intro h
    obtain ⟨j, hj, he⟩ := mem_iff_getD.1 h
    exact hT j (by omega) he

theorem refSorted_spec {xs : List Int} {a : Option Addr} {w : World} (hx : Sl w a (intsL xs)) (cap : Nat) (hl : xs.length ≤ 9223372036854775807) (n : Nat) (hn : n ≤ 512) :
    CallsR Try.prog 66 #[.slice a xs.length cap, .int .i64 (n : Int)] w fun v w' => ∃ b c, v = .slice b (sortedL n xs).length c ∧ Own w' w.heap.size 3 1 b (sortedL n xs).length c (intsL (sortedL n xs)) ∧ Ex w w' := by
  refine callsR_of (args := [_, _]) Try.func66 rfl rfl ?_
  repeat' (first | (refine k_pure rfl ?_) | (refine then_normal ?_) | (refine cw_seq ?_) | (refine cw_region rfl ?_) | (refine rr_nil ?_) | (refine k_len rfl ?_) | (refine g_run rfl rfl ?_) | (refine g_skip rfl rfl ?_) | (refine g_dec_f rfl rfl (fun hc => ?_) (fun hc => ?_)) | (refine g_dec_t rfl rfl (fun hc => ?_) (fun hc => ?_)) | (refine g_ndec_f rfl rfl (fun hc => ?_) (fun hc => ?_)) | (refine g_ndec_t rfl rfl (fun hc => ?_) (fun hc => ?_)) | (refine g_split rfl rfl (fun hc => ?_) (fun hc => ?_)) | (refine k_addI rfl rfl (by omega) (by omega) ?_) | (refine k_subI rfl rfl (by omega) (by omega) ?_) | (refine k_fieldAddr rfl ?_) | (refine k_eqlB rfl rfl ?_) | (refine k_neqB rfl rfl ?_) | (refine cw_cond_true rfl ?_) | (refine cw_cond_false rfl ?_) | (refine cw_cond_dec rfl (fun hc => ?_) (fun hc => ?_)) | (refine cw_cond_ndec rfl (fun hc => ?_) (fun hc => ?_)) | (refine cw_cond rfl (fun hc => ?_) (fun hc => ?_)) | (refine cw_block ?_) | (refine cw_exit ?_) | (refine then_exit ?_) | (refine in_exit ?_) | (refine in_exit_ne rfl ?_) | (refine in_normal ?_) | (refine cw_ret ?_) | (refine then_ret ?_) | (refine in_ret ?_) | (refine cw_skip ?_))
  refine cw_loop (ι := Nat × Option Addr × Nat) [5, 6, 7, 8, 9, 10, 11, 12, 13, 14, 15, 16, 17, 18] (fun s => [(6, .int .i64 (s.1 : Int)), (5, .slice s.2.1 (sortedL s.1 xs).length s.2.2)])
    (fun s w' => s.1 ≤ n ∧ Ex w w' ∧ Own w' w.heap.size 3 1 s.2.1 (sortedL s.1 xs).length s.2.2 (intsL (sortedL s.1 xs))) (fun s => n - s.1)
    (0, none, 0) ⟨rfl, rfl, trivial⟩ ⟨by simp, Ex.refl _, Own.nil _ _ _ _⟩ ?_
  rintro ⟨k, b, c⟩ ξ w2 ⟨hk, hE, hO⟩
  simp only at hk hO
  have hsl := sortedL_len k xs
  show CW _ _ _ _ (over [(6, .int .i64 (k : Int)), (5, .slice b (sortedL k xs).length c)] _) w2
  repeat' (first | (refine k_pure rfl ?_) | (refine then_normal ?_) | (refine cw_seq ?_) | (refine cw_region rfl ?_) | (refine rr_nil ?_) | (refine k_len rfl ?_) | (refine g_run rfl rfl ?_) | (refine g_skip rfl rfl ?_) | (refine g_dec_f rfl rfl (fun hc => ?_) (fun hc => ?_)) | (refine g_dec_t rfl rfl (fun hc => ?_) (fun hc => ?_)) | (refine g_ndec_f rfl rfl (fun hc => ?_) (fun hc => ?_)) | (refine g_ndec_t rfl rfl (fun hc => ?_) (fun hc => ?_)) | (refine g_split rfl rfl (fun hc => ?_) (fun hc => ?_)) | (refine k_addI rfl rfl (by omega) (by omega) ?_) | (refine k_subI rfl rfl (by omega) (by omega) ?_) | (refine k_fieldAddr rfl ?_) | (refine k_eqlB rfl rfl ?_) | (refine k_neqB rfl rfl ?_) | (refine cw_cond_true rfl ?_) | (refine cw_cond_false rfl ?_) | (refine cw_cond_dec rfl (fun hc => ?_) (fun hc => ?_)) | (refine cw_cond_ndec rfl (fun hc => ?_) (fun hc => ?_)) | (refine cw_cond rfl (fun hc => ?_) (fun hc => ?_)) | (refine cw_block ?_) | (refine cw_exit ?_) | (refine then_exit ?_) | (refine in_exit ?_) | (refine in_exit_ne rfl ?_) | (refine in_normal ?_) | (refine cw_ret ?_) | (refine then_ret ?_) | (refine in_ret ?_) | (refine cw_skip ?_))
  · refine k_call (refHas_spec (hx.ext hE) _ hl k) rfl ?_
    rintro v w3 ⟨rfl, hE3⟩
    refine ⟨fun _ _ => trivial, ?_⟩
    have hE3' := hE.trans hE3
    repeat' (first | (refine k_pure rfl ?_) | (refine then_normal ?_) | (refine cw_seq ?_) | (refine cw_region rfl ?_) | (refine rr_nil ?_) | (refine k_len rfl ?_) | (refine g_run rfl rfl ?_) | (refine g_skip rfl rfl ?_) | (refine g_dec_f rfl rfl (fun hc => ?_) (fun hc => ?_)) | (refine g_dec_t rfl rfl (fun hc => ?_) (fun hc => ?_)) | (refine g_ndec_f rfl rfl (fun hc => ?_) (fun hc => ?_)) | (refine g_ndec_t rfl rfl (fun hc => ?_) (fun hc => ?_)) | (refine g_split rfl rfl (fun hc => ?_) (fun hc => ?_)) | (refine k_addI rfl rfl (by omega) (by omega) ?_) | (refine k_subI rfl rfl (by omega) (by omega) ?_) | (refine k_fieldAddr rfl ?_) | (refine k_eqlB rfl rfl ?_) | (refine k_neqB rfl rfl ?_) | (refine cw_cond_true rfl ?_) | (refine cw_cond_false rfl ?_) | (refine cw_cond_dec rfl (fun hc => ?_) (fun hc => ?_)) | (refine cw_cond_ndec rfl (fun hc => ?_) (fun hc => ?_)) | (refine cw_cond rfl (fun hc => ?_) (fun hc => ?_)) | (refine cw_block ?_) | (refine cw_exit ?_) | (refine then_exit ?_) | (refine in_exit ?_) | (refine in_exit_ne rfl ?_) | (refine in_normal ?_) | (refine cw_ret ?_) | (refine then_ret ?_) | (refine in_ret ?_) | (refine cw_skip ?_))
    · refine k_app1I rfl rfl rfl rfl (hO.ext hE3) (by omega) (by omega) hE3'.size (fun g b' c' w4 hO4 hG4 _ => ?_)
      repeat' (first | (refine k_pure rfl ?_) | (refine then_normal ?_) | (refine cw_seq ?_) | (refine cw_region rfl ?_) | (refine rr_nil ?_) | (refine k_len rfl ?_) | (refine g_run rfl rfl ?_) | (refine g_skip rfl rfl ?_) | (refine g_dec_f rfl rfl (fun hc => ?_) (fun hc => ?_)) | (refine g_dec_t rfl rfl (fun hc => ?_) (fun hc => ?_)) | (refine g_ndec_f rfl rfl (fun hc => ?_) (fun hc => ?_)) | (refine g_ndec_t rfl rfl (fun hc => ?_) (fun hc => ?_)) | (refine g_split rfl rfl (fun hc => ?_) (fun hc => ?_)) | (refine k_addI rfl rfl (by omega) (by omega) ?_) | (refine k_subI rfl rfl (by omega) (by omega) ?_) | (refine k_fieldAddr rfl ?_) | (refine k_eqlB rfl rfl ?_) | (refine k_neqB rfl rfl ?_) | (refine cw_cond_true rfl ?_) | (refine cw_cond_false rfl ?_) | (refine cw_cond_dec rfl (fun hc => ?_) (fun hc => ?_)) | (refine cw_cond_ndec rfl (fun hc => ?_) (fun hc => ?_)) | (refine cw_cond rfl (fun hc => ?_) (fun hc => ?_)) | (refine cw_block ?_) | (refine cw_exit ?_) | (refine then_exit ?_) | (refine in_exit ?_) | (refine in_exit_ne rfl ?_) | (refine in_normal ?_) | (refine cw_ret ?_) | (refine then_ret ?_) | (refine in_ret ?_) | (refine cw_skip ?_))
      have e : sortedL (k + 1) xs = sortedL k xs ++ [(k : Int)] := by rw [sortedL_succ, if_pos hc]
      refine ⟨⟨(k + 1, b', c'), ⟨by simp only; omega, (hO.ext hE3).grow_ex hG4 hE3' (Nat.le_refl _), by simp only [e, List.length_append, List.length_singleton]; exact hO4⟩, by simp only; omega, rfl, ?_, trivial⟩, (by (repeat (first | exact agree_mask _ _ _ | refine agree_upd rfl ?_ | refine agree_updO rfl ?_ | refine agree_overIn rfl ?_ | refine agree_maskIn rfl ?_)))⟩
      simp only [e, List.length_append, List.length_singleton]; rfl
    · have e : sortedL (k + 1) xs = sortedL k xs := by rw [sortedL_succ, if_neg hc, List.append_nil]
      refine ⟨⟨(k + 1, b, c), ⟨by simp only; omega, hE3', by simp only [e]; exact hO.ext hE3⟩, by simp only; omega, rfl, ?_, trivial⟩, (by (repeat (first | exact agree_mask _ _ _ | refine agree_upd rfl ?_ | refine agree_updO rfl ?_ | refine agree_overIn rfl ?_ | refine agree_maskIn rfl ?_)))⟩
      simp only [e]; rfl
  · obtain rfl : k = n := by omega
    exact ret1 rfl (rt rfl) ⟨b, c, rfl, hO, hE⟩

/-- the search of the reference -/
theorem refFound_spec {n x : Nat} {gens : List (List Int)} {ga : Option Addr} {sds : List SD} {w : World} (hg : Lists w .i64 ga sds gens) (hG : Gens n gens) (hgl : gens.length ≤ 64) (hn : n ≤ 512) (hx : x < n) (gc : Nat) :
    CallsR Try.prog 65 #[.int .i64 (n : Int), .slice ga gens.length gc, .int .i64 (x : Int)] w fun v w' =>
      ∃ b c b2, v = .tuple #[.slice b (bfs gens n x).1.length c, .slice b2 (edgesTo n (bfs gens n x).2).length n] ∧ Sl w' b (intsL (bfs gens n x).1) ∧ Sl w' b2 (edgesV (edgesTo n (bfs gens n x).2)) ∧ Ex w w' := by
  refine callsR_of (args := [_, _, _]) Try.func65 rfl rfl ?_
  repeat' (first | (refine k_makeE rfl rfl (by omega) (by omega) (fun ge w1 hn1 => ⟨fun _ _ => trivial, ?_⟩)) | (refine k_pure rfl ?_) | (refine then_normal ?_) | (refine cw_seq ?_) | (refine cw_region rfl ?_) | (refine rr_nil ?_) | (refine k_len rfl ?_) | (refine g_run rfl rfl ?_) | (refine g_skip rfl rfl ?_) | (refine g_dec_f rfl rfl (fun hc => ?_) (fun hc => ?_)) | (refine g_dec_t rfl rfl (fun hc => ?_) (fun hc => ?_)) | (refine g_ndec_f rfl rfl (fun hc => ?_) (fun hc => ?_)) | (refine g_ndec_t rfl rfl (fun hc => ?_) (fun hc => ?_)) | (refine g_split rfl rfl (fun hc => ?_) (fun hc => ?_)) | (refine k_addI rfl rfl (by omega) (by omega) ?_) | (refine k_subI rfl rfl (by omega) (by omega) ?_) | (refine k_fieldAddr rfl ?_) | (refine k_eqlB rfl rfl ?_) | (refine k_neqB rfl rfl ?_) | (refine cw_cond_true rfl ?_) | (refine cw_cond_false rfl ?_) | (refine cw_cond_dec rfl (fun hc => ?_) (fun hc => ?_)) | (refine cw_cond_ndec rfl (fun hc => ?_) (fun hc => ?_)) | (refine cw_cond rfl (fun hc => ?_) (fun hc => ?_)) | (refine cw_block ?_) | (refine cw_exit ?_) | (refine then_exit ?_) | (refine in_exit ?_) | (refine in_exit_ne rfl ?_) | (refine in_normal ?_) | (refine cw_ret ?_) | (refine then_ret ?_) | (refine in_ret ?_) | (refine cw_skip ?_))
  refine cw_loop (ι := Nat × List (Int × Int)) [9, 19, 20, 21, 22, 23, 24, 25, 26] (fun s => [(19, .int .i64 (s.1 : Int))]) (fun s w' => s.1 ≤ n ∧ Ex w w' ∧ w1.heap.size ≤ w'.heap.size ∧ Blk w' ge 67 (edgesV s.2) ∧ s.2.length = n ∧ s.2.take s.1 = List.replicate s.1 (-1, -1)) (fun s => n - s.1)
    (0, List.replicate n (0, 0)) ⟨rfl, trivial⟩ ⟨by simp, hn1.ex, Nat.le_refl _, hn1.blk, by simp, rfl⟩ ?_
  rintro ⟨k, es⟩ ξ w2 ⟨hk, hE2, hs2, hb2, hel, hT⟩
  simp only at hk hb2 hel hT
  show CW _ _ _ _ (over [(19, .int .i64 (k : Int))] _) w2
  repeat' (first | (refine k_build (cs := [.int .i64 (-1), .int .i64 (-1)]) rfl ?_) | (refine k_indexE rfl rfl ⟨_, _, rfl⟩ (by omega) ?_) | (refine k_storeE2 rfl rfl hb2 (by omega) (fun w3 hc3 hb3 => ⟨fun _ _ => trivial, ?_⟩)) | (refine k_pure rfl ?_) | (refine then_normal ?_) | (refine cw_seq ?_) | (refine cw_region rfl ?_) | (refine rr_nil ?_) | (refine k_len rfl ?_) | (refine g_run rfl rfl ?_) | (refine g_skip rfl rfl ?_) | (refine g_dec_f rfl rfl (fun hc => ?_) (fun hc => ?_)) | (refine g_dec_t rfl rfl (fun hc => ?_) (fun hc => ?_)) | (refine g_ndec_f rfl rfl (fun hc => ?_) (fun hc => ?_)) | (refine g_ndec_t rfl rfl (fun hc => ?_) (fun hc => ?_)) | (refine g_split rfl rfl (fun hc => ?_) (fun hc => ?_)) | (refine k_addI rfl rfl (by omega) (by omega) ?_) | (refine k_subI rfl rfl (by omega) (by omega) ?_) | (refine k_fieldAddr rfl ?_) | (refine k_eqlB rfl rfl ?_) | (refine k_neqB rfl rfl ?_) | (refine cw_cond_true rfl ?_) | (refine cw_cond_false rfl ?_) | (refine cw_cond_dec rfl (fun hc => ?_) (fun hc => ?_)) | (refine cw_cond_ndec rfl (fun hc => ?_) (fun hc => ?_)) | (refine cw_cond rfl (fun hc => ?_) (fun hc => ?_)) | (refine cw_block ?_) | (refine cw_exit ?_) | (refine then_exit ?_) | (refine in_exit ?_) | (refine in_exit_ne rfl ?_) | (refine in_normal ?_) | (refine cw_ret ?_) | (refine then_ret ?_) | (refine in_ret ?_) | (refine cw_skip ?_))
  · refine ⟨⟨(k + 1, es.set k (-1, -1)), ⟨by simp only; omega, hE2.chg hc3 hn1.lo, by have := hc3.size; omega, hb3, by simp [hel], ?_⟩, by simp only; omega, rfl, trivial⟩, (by (repeat (first | exact agree_mask _ _ _ | refine agree_upd rfl ?_ | refine agree_updO rfl ?_ | refine agree_overIn rfl ?_ | refine agree_maskIn rfl ?_)))⟩
    simp only
    rw [take_set_succ (by omega), hT, List.replicate_succ']
  · obtain rfl : k = n := by omega
    rw [List.take_of_length_le (by omega)] at hT
    refine k_litI1 rfl (fun gp w3 hn3 => ⟨fun _ _ => trivial, ?_⟩)
    have l1 := hn1.lo
    have l2 := hn1.hi
    have l3 := hn3.lo
    have l4 := hn3.hi
    have l5 := hE2.size
    have l6 := hn3.ex.size
    have hE3 := hE2.trans hn3.ex
    have hO3 : Own w3 w2.heap.size 3 1 (some ⟨gp, 0, none⟩) 1 1 (intsL [(x : Int)]) := hn3.blk.own rfl (by decide) hn3.lo
    have hb3 : Blk w3 ge 67 (edgesV (edgesTo k [])) := by rw [show edgesTo k [] = es by rw [hT]; rfl]; exact hb2.ext hn3.ex
    repeat' (first | (refine k_pure rfl ?_) | (refine then_normal ?_) | (refine cw_seq ?_) | (refine cw_region rfl ?_) | (refine rr_nil ?_) | (refine k_len rfl ?_) | (refine g_run rfl rfl ?_) | (refine g_skip rfl rfl ?_) | (refine g_dec_f rfl rfl (fun hc => ?_) (fun hc => ?_)) | (refine g_dec_t rfl rfl (fun hc => ?_) (fun hc => ?_)) | (refine g_ndec_f rfl rfl (fun hc => ?_) (fun hc => ?_)) | (refine g_ndec_t rfl rfl (fun hc => ?_) (fun hc => ?_)) | (refine g_split rfl rfl (fun hc => ?_) (fun hc => ?_)) | (refine k_addI rfl rfl (by omega) (by omega) ?_) | (refine k_subI rfl rfl (by omega) (by omega) ?_) | (refine k_fieldAddr rfl ?_) | (refine k_eqlB rfl rfl ?_) | (refine k_neqB rfl rfl ?_) | (refine cw_cond_true rfl ?_) | (refine cw_cond_false rfl ?_) | (refine cw_cond_dec rfl (fun hc => ?_) (fun hc => ?_)) | (refine cw_cond_ndec rfl (fun hc => ?_) (fun hc => ?_)) | (refine cw_cond rfl (fun hc => ?_) (fun hc => ?_)) | (refine cw_block ?_) | (refine cw_exit ?_) | (refine then_exit ?_) | (refine in_exit ?_) | (refine in_exit_ne rfl ?_) | (refine in_normal ?_) | (refine cw_ret ?_) | (refine then_ret ?_) | (refine in_ret ?_) | (refine cw_skip ?_))
    refine cw_loop (ι := Nat × Fnd × Option Addr × Nat) [10, 11, 12, 13, 14, 29, 30, 31, 32, 33, 34, 35, 36, 37, 38, 39, 40, 41, 42, 43, 44, 45, 46, 47, 48, 49, 50, 51, 52, 53, 54, 55, 56, 57, 58, 59, 60, 61, 62, 63, 64, 65, 66] (fun s => [(11, .int .i64 (s.1 : Int)), (10, .slice s.2.2.1 s.2.1.1.length s.2.2.2)])
      (fun s w' => s.1 ≤ s.2.1.1.length ∧ Ex w w' ∧ w2.heap.size ≤ w'.heap.size ∧ Own w' w2.heap.size 3 1 s.2.2.1 s.2.1.1.length s.2.2.2 (intsL s.2.1.1) ∧
        Blk w' ge 67 (edgesV (edgesTo k s.2.1.2)) ∧ Dist k s.2.1.1 ∧ bfsGo gens (k - s.1) s.1 s.2.1 = bfs gens k x) (fun s => k - s.1)
      (0, ([(x : Int)], []), some ⟨gp, 0, none⟩, 1) ⟨rfl, rfl, trivial⟩ ⟨by simp, hE3, by omega, hO3, hb3, dist_one (by omega) (by omega), rfl⟩ ?_
    rintro ⟨i, st, b, c⟩ ξ2 w5 ⟨hi, hE, hs5, hO, hbe, hD, hbfs⟩
    simp only at hi hO hbe hD hbfs
    have hlen := hD.length_le
    show CW _ _ _ _ (over [(11, .int .i64 (i : Int)), (10, .slice b st.1.length c)] _) w5
    repeat' (first | (refine k_pure rfl ?_) | (refine then_normal ?_) | (refine cw_seq ?_) | (refine cw_region rfl ?_) | (refine rr_nil ?_) | (refine k_len rfl ?_) | (refine g_run rfl rfl ?_) | (refine g_skip rfl rfl ?_) | (refine g_dec_f rfl rfl (fun hc => ?_) (fun hc => ?_)) | (refine g_dec_t rfl rfl (fun hc => ?_) (fun hc => ?_)) | (refine g_ndec_f rfl rfl (fun hc => ?_) (fun hc => ?_)) | (refine g_ndec_t rfl rfl (fun hc => ?_) (fun hc => ?_)) | (refine g_split rfl rfl (fun hc => ?_) (fun hc => ?_)) | (refine k_addI rfl rfl (by omega) (by omega) ?_) | (refine k_subI rfl rfl (by omega) (by omega) ?_) | (refine k_fieldAddr rfl ?_) | (refine k_eqlB rfl rfl ?_) | (refine k_neqB rfl rfl ?_) | (refine cw_cond_true rfl ?_) | (refine cw_cond_false rfl ?_) | (refine cw_cond_dec rfl (fun hc => ?_) (fun hc => ?_)) | (refine cw_cond_ndec rfl (fun hc => ?_) (fun hc => ?_)) | (refine cw_cond rfl (fun hc => ?_) (fun hc => ?_)) | (refine cw_block ?_) | (refine cw_exit ?_) | (refine then_exit ?_) | (refine in_exit ?_) | (refine in_exit_ne rfl ?_) | (refine in_normal ?_) | (refine cw_ret ?_) | (refine then_ret ?_) | (refine in_ret ?_) | (refine cw_skip ?_))
    · have hfrom := dist_iff.1 hD |>.1 i (by omega)
      have hilt : i < st.1.length := by omega
      have hgl' := hg.len
      refine cw_loop (ι := Nat × Fnd × Option Addr × Nat) [10, 12, 13, 14, 37, 38, 39, 40, 41, 42, 43, 44, 45, 46, 47, 48, 49, 50, 51, 52, 53, 54, 55, 56, 57, 58, 59, 60, 61, 62, 63, 64, 65, 66] (fun s => [(37, .int .i64 (s.1 : Int)), (10, .slice s.2.2.1 s.2.1.1.length s.2.2.2)])
        (fun s w' => s.1 ≤ gens.length ∧ Ex w w' ∧ w2.heap.size ≤ w'.heap.size ∧ Own w' w2.heap.size 3 1 s.2.2.1 s.2.1.1.length s.2.2.2 (intsL s.2.1.1) ∧
          Blk w' ge 67 (edgesV (edgesTo k s.2.1.2)) ∧ Dist k s.2.1.1 ∧ st.1.length ≤ s.2.1.1.length ∧ s.2.1.1.getD i 0 = st.1.getD i 0 ∧ scanL (gens.drop s.1) s.1 (st.1.getD i 0) s.2.1 = scanL gens 0 (st.1.getD i 0) st) (fun s => gens.length - s.1)
        (0, st, b, c) ⟨rfl, rfl, trivial⟩ ⟨by simp, hE, hs5, hO, hbe, hD, by simp, rfl, by simp⟩ ?_
      rintro ⟨j, st', b', c'⟩ ξ3 w6 ⟨hj, hE6, hs6, hO6, hbe6, hD6, hle6, hgi, hsc⟩
      simp only at hj hO6 hbe6 hD6 hle6 hgi hsc
      have hlen6 := hD6.length_le
      have hel6 := edgesTo_len k st'.2
      show CW _ _ _ _ (over [(37, .int .i64 (j : Int)), (10, .slice b' st'.1.length c')] _) w6
      repeat' (first | (refine k_indexN rfl rfl (hg.sl.plain (by simp; omega)) (by omega) ?_) | (refine k_loadS rfl (hg.sl.ext hE6) (by omega) ?_) | (refine k_pure rfl ?_) | (refine then_normal ?_) | (refine cw_seq ?_) | (refine cw_region rfl ?_) | (refine rr_nil ?_) | (refine k_len rfl ?_) | (refine g_run rfl rfl ?_) | (refine g_skip rfl rfl ?_) | (refine g_dec_f rfl rfl (fun hc => ?_) (fun hc => ?_)) | (refine g_dec_t rfl rfl (fun hc => ?_) (fun hc => ?_)) | (refine g_ndec_f rfl rfl (fun hc => ?_) (fun hc => ?_)) | (refine g_ndec_t rfl rfl (fun hc => ?_) (fun hc => ?_)) | (refine g_split rfl rfl (fun hc => ?_) (fun hc => ?_)) | (refine k_addI rfl rfl (by omega) (by omega) ?_) | (refine k_subI rfl rfl (by omega) (by omega) ?_) | (refine k_fieldAddr rfl ?_) | (refine k_eqlB rfl rfl ?_) | (refine k_neqB rfl rfl ?_) | (refine cw_cond_true rfl ?_) | (refine cw_cond_false rfl ?_) | (refine cw_cond_dec rfl (fun hc => ?_) (fun hc => ?_)) | (refine cw_cond_ndec rfl (fun hc => ?_) (fun hc => ?_)) | (refine cw_cond rfl (fun hc => ?_) (fun hc => ?_)) | (refine cw_block ?_) | (refine cw_exit ?_) | (refine then_exit ?_) | (refine in_exit ?_) | (refine in_exit_ne rfl ?_) | (refine in_normal ?_) | (refine cw_ret ?_) | (refine then_ret ?_) | (refine in_ret ?_) | (refine cw_skip ?_))
      · obtain ⟨hpe, hpl⟩ := hg.each j (by omega)
        obtain ⟨hp1, hp2⟩ := hG.getD (j := j) (by omega)
        have hlt := hp2.lt (k := (st.1.getD i 0).toNat) (by omega)
        have hvis : scanL (gens.drop (j + 1)) (j + 1) (st.1.getD i 0) (visit (gens.getD j []) j (st.1.getD i 0) st') = scanL gens 0 (st.1.getD i 0) st := by
          rw [← hsc, drop_getD (d := []) (l := gens) (j := j) (by omega)]; rfl
        rw [hpl]
        generalize hp : gens.getD j [] = p at *
        repeat' (first | (refine k_indexN rfl rfl (hO6.sl.plain (by simp; omega)) (by omega) ?_) | (refine k_loadI rfl hO6.sl (by omega) ?_) | (refine k_pure rfl ?_) | (refine then_normal ?_) | (refine cw_seq ?_) | (refine cw_region rfl ?_) | (refine rr_nil ?_) | (refine k_len rfl ?_) | (refine g_run rfl rfl ?_) | (refine g_skip rfl rfl ?_) | (refine g_dec_f rfl rfl (fun hc => ?_) (fun hc => ?_)) | (refine g_dec_t rfl rfl (fun hc => ?_) (fun hc => ?_)) | (refine g_ndec_f rfl rfl (fun hc => ?_) (fun hc => ?_)) | (refine g_ndec_t rfl rfl (fun hc => ?_) (fun hc => ?_)) | (refine g_split rfl rfl (fun hc => ?_) (fun hc => ?_)) | (refine k_addI rfl rfl (by omega) (by omega) ?_) | (refine k_subI rfl rfl (by omega) (by omega) ?_) | (refine k_fieldAddr rfl ?_) | (refine k_eqlB rfl rfl ?_) | (refine k_neqB rfl rfl ?_) | (refine cw_cond_true rfl ?_) | (refine cw_cond_false rfl ?_) | (refine cw_cond_dec rfl (fun hc => ?_) (fun hc => ?_)) | (refine cw_cond_ndec rfl (fun hc => ?_) (fun hc => ?_)) | (refine cw_cond rfl (fun hc => ?_) (fun hc => ?_)) | (refine cw_block ?_) | (refine cw_exit ?_) | (refine then_exit ?_) | (refine in_exit ?_) | (refine in_exit_ne rfl ?_) | (refine in_normal ?_) | (refine cw_ret ?_) | (refine then_ret ?_) | (refine in_ret ?_) | (refine cw_skip ?_))
        rw [hgi]
        repeat' (first | (refine k_index1 rfl rfl (hpe.plain (by simp; omega)) (by omega) (by omega) ?_) | (refine k_loadI rfl (hpe.ext hE6) (by omega) ?_) | (refine k_pure rfl ?_) | (refine then_normal ?_) | (refine cw_seq ?_) | (refine cw_region rfl ?_) | (refine rr_nil ?_) | (refine k_len rfl ?_) | (refine g_run rfl rfl ?_) | (refine g_skip rfl rfl ?_) | (refine g_dec_f rfl rfl (fun hc => ?_) (fun hc => ?_)) | (refine g_dec_t rfl rfl (fun hc => ?_) (fun hc => ?_)) | (refine g_ndec_f rfl rfl (fun hc => ?_) (fun hc => ?_)) | (refine g_ndec_t rfl rfl (fun hc => ?_) (fun hc => ?_)) | (refine g_split rfl rfl (fun hc => ?_) (fun hc => ?_)) | (refine k_addI rfl rfl (by omega) (by omega) ?_) | (refine k_subI rfl rfl (by omega) (by omega) ?_) | (refine k_fieldAddr rfl ?_) | (refine k_eqlB rfl rfl ?_) | (refine k_neqB rfl rfl ?_) | (refine cw_cond_true rfl ?_) | (refine cw_cond_false rfl ?_) | (refine cw_cond_dec rfl (fun hc => ?_) (fun hc => ?_)) | (refine cw_cond_ndec rfl (fun hc => ?_) (fun hc => ?_)) | (refine cw_cond rfl (fun hc => ?_) (fun hc => ?_)) | (refine cw_block ?_) | (refine cw_exit ?_) | (refine then_exit ?_) | (refine in_exit ?_) | (refine in_exit_ne rfl ?_) | (refine in_normal ?_) | (refine cw_ret ?_) | (refine then_ret ?_) | (refine in_ret ?_) | (refine cw_skip ?_))
        refine k_call (refHas_spec hO6.sl _ (by omega) _) rfl ?_
        rintro v w7 ⟨rfl, hE7⟩
        refine ⟨fun _ _ => trivial, ?_⟩
        have hO7 := hO6.ext hE7
        have hbe7 := hbe6.ext hE7
        have l7 := hE7.size
        repeat' (first | (refine k_indexN rfl rfl (hO7.sl.plain (by simp; omega)) (by omega) ?_) | (refine k_loadI rfl hO7.sl (by omega) ?_) | (refine k_pure rfl ?_) | (refine then_normal ?_) | (refine cw_seq ?_) | (refine cw_region rfl ?_) | (refine rr_nil ?_) | (refine k_len rfl ?_) | (refine g_run rfl rfl ?_) | (refine g_skip rfl rfl ?_) | (refine g_dec_f rfl rfl (fun hc => ?_) (fun hc => ?_)) | (refine g_dec_t rfl rfl (fun hc => ?_) (fun hc => ?_)) | (refine g_ndec_f rfl rfl (fun hc => ?_) (fun hc => ?_)) | (refine g_ndec_t rfl rfl (fun hc => ?_) (fun hc => ?_)) | (refine g_split rfl rfl (fun hc => ?_) (fun hc => ?_)) | (refine k_addI rfl rfl (by omega) (by omega) ?_) | (refine k_subI rfl rfl (by omega) (by omega) ?_) | (refine k_fieldAddr rfl ?_) | (refine k_eqlB rfl rfl ?_) | (refine k_neqB rfl rfl ?_) | (refine cw_cond_true rfl ?_) | (refine cw_cond_false rfl ?_) | (refine cw_cond_dec rfl (fun hc => ?_) (fun hc => ?_)) | (refine cw_cond_ndec rfl (fun hc => ?_) (fun hc => ?_)) | (refine cw_cond rfl (fun hc => ?_) (fun hc => ?_)) | (refine cw_block ?_) | (refine cw_exit ?_) | (refine then_exit ?_) | (refine in_exit ?_) | (refine in_exit_ne rfl ?_) | (refine in_normal ?_) | (refine cw_ret ?_) | (refine then_ret ?_) | (refine in_ret ?_) | (refine cw_skip ?_))
        · rw [hgi]
          have hvis' : visit p j (st.1.getD i 0) st' = (st'.1 ++ [p.getD (st.1.getD i 0).toNat 0], st'.2 ++ [(p.getD (st.1.getD i 0).toNat 0, j, st.1.getD i 0)]) := by rw [visit, if_neg hc]
          rw [hvis'] at hvis
          generalize hz : st.1.getD i 0 = z at *
          generalize hy : p.getD z.toNat 0 = y at *
          obtain ⟨yn, rfl⟩ := Int.eq_ofNat_of_zero_le hlt.1
          repeat' (first | (refine k_build (cs := [.int .i64 (j : Int), .int .i64 z]) rfl ?_) | (refine k_indexE (j := yn) rfl rfl ⟨_, _, rfl⟩ (by omega) ?_) | (refine k_storeE2 rfl rfl hbe7 (by omega) (fun w8 hc8 hb8 => ⟨fun _ _ => trivial, ?_⟩)) | (refine k_pure rfl ?_) | (refine then_normal ?_) | (refine cw_seq ?_) | (refine cw_region rfl ?_) | (refine rr_nil ?_) | (refine k_len rfl ?_) | (refine g_run rfl rfl ?_) | (refine g_skip rfl rfl ?_) | (refine g_dec_f rfl rfl (fun hc => ?_) (fun hc => ?_)) | (refine g_dec_t rfl rfl (fun hc => ?_) (fun hc => ?_)) | (refine g_ndec_f rfl rfl (fun hc => ?_) (fun hc => ?_)) | (refine g_ndec_t rfl rfl (fun hc => ?_) (fun hc => ?_)) | (refine g_split rfl rfl (fun hc => ?_) (fun hc => ?_)) | (refine k_addI rfl rfl (by omega) (by omega) ?_) | (refine k_subI rfl rfl (by omega) (by omega) ?_) | (refine k_fieldAddr rfl ?_) | (refine k_eqlB rfl rfl ?_) | (refine k_neqB rfl rfl ?_) | (refine cw_cond_true rfl ?_) | (refine cw_cond_false rfl ?_) | (refine cw_cond_dec rfl (fun hc => ?_) (fun hc => ?_)) | (refine cw_cond_ndec rfl (fun hc => ?_) (fun hc => ?_)) | (refine cw_cond rfl (fun hc => ?_) (fun hc => ?_)) | (refine cw_block ?_) | (refine cw_exit ?_) | (refine then_exit ?_) | (refine in_exit ?_) | (refine in_exit_ne rfl ?_) | (refine in_normal ?_) | (refine cw_ret ?_) | (refine then_ret ?_) | (refine in_ret ?_) | (refine cw_skip ?_))
          have hO8 := hO7.chg hc8 (fun ad e => by have := (hO7.lo ad e).1; omega)
          have hE8 : Ex w w8 := (hE6.trans hE7).chg hc8 hn1.lo
          have l8 := hc8.size
          refine k_app1I rfl rfl rfl rfl hO8 (by omega) (by omega) (by omega) (fun gl b2 c2 w10 hO10 hg10 hA => ?_)
          have hb10 := hO8.grow_blk hg10 hb8 (by omega)
          have hE10 := hO8.grow_ex hg10 hE8 (by omega)
          have l10 := hg10.size
          repeat' (first | (refine k_pure rfl ?_) | (refine then_normal ?_) | (refine cw_seq ?_) | (refine cw_region rfl ?_) | (refine rr_nil ?_) | (refine k_len rfl ?_) | (refine g_run rfl rfl ?_) | (refine g_skip rfl rfl ?_) | (refine g_dec_f rfl rfl (fun hc => ?_) (fun hc => ?_)) | (refine g_dec_t rfl rfl (fun hc => ?_) (fun hc => ?_)) | (refine g_ndec_f rfl rfl (fun hc => ?_) (fun hc => ?_)) | (refine g_ndec_t rfl rfl (fun hc => ?_) (fun hc => ?_)) | (refine g_split rfl rfl (fun hc => ?_) (fun hc => ?_)) | (refine k_addI rfl rfl (by omega) (by omega) ?_) | (refine k_subI rfl rfl (by omega) (by omega) ?_) | (refine k_fieldAddr rfl ?_) | (refine k_eqlB rfl rfl ?_) | (refine k_neqB rfl rfl ?_) | (refine cw_cond_true rfl ?_) | (refine cw_cond_false rfl ?_) | (refine cw_cond_dec rfl (fun hc => ?_) (fun hc => ?_)) | (refine cw_cond_ndec rfl (fun hc => ?_) (fun hc => ?_)) | (refine cw_cond rfl (fun hc => ?_) (fun hc => ?_)) | (refine cw_block ?_) | (refine cw_exit ?_) | (refine then_exit ?_) | (refine in_exit ?_) | (refine in_exit_ne rfl ?_) | (refine in_normal ?_) | (refine cw_ret ?_) | (refine then_ret ?_) | (refine in_ret ?_) | (refine cw_skip ?_))
          refine ⟨⟨(j + 1, (st'.1 ++ [(yn : Int)], st'.2 ++ [((yn : Int), j, z)]), b2, c2), ⟨by simp only; omega, hE10, by omega, by simpa using hO10, ?_, good_snoc.2 ⟨hD6, by omega, by omega, hc⟩, by simp; omega, ?_, hvis⟩, by simp only; omega, rfl, ?_, trivial⟩, (by (repeat (first | exact agree_mask _ _ _ | refine agree_upd rfl ?_ | refine agree_updO rfl ?_ | refine agree_overIn rfl ?_ | refine agree_maskIn rfl ?_)))⟩
          · simp only [edgesTo_snoc, Int.toNat_natCast]; exact hb10
          · simp only [List.getD_eq_getElem?_getD]
            rw [List.getElem?_append_left (by omega)]
            simpa [List.getD_eq_getElem?_getD] using hgi
          · simp only [List.length_append, List.length_singleton]; rfl
        · have hvis' : visit p j (st.1.getD i 0) st' = st' := by rw [visit, if_pos hc]
          rw [hvis'] at hvis
          exact ⟨⟨(j + 1, st', b', c'), ⟨by simp only; omega, hE6.trans hE7, by omega, hO7, hbe7, hD6, hle6, hgi, hvis⟩, by simp only; omega, rfl, rfl, trivial⟩, (by (repeat (first | exact agree_mask _ _ _ | refine agree_upd rfl ?_ | refine agree_updO rfl ?_ | refine agree_overIn rfl ?_ | refine agree_maskIn rfl ?_)))⟩
      · obtain rfl : j = gens.length := by omega
        have hsc' : scanL gens 0 (st.1.getD i 0) st = st' := by rw [← hsc, List.drop_length]; rfl
        refine ⟨⟨(i + 1, st', b', c'), ⟨by simp only; omega, hE6, hs6, hO6, hbe6, hD6, ?_⟩, by simp only; omega, rfl, rfl, trivial⟩, (by (repeat (first | exact agree_mask _ _ _ | refine agree_upd rfl ?_ | refine agree_updO rfl ?_ | refine agree_overIn rfl ?_ | refine agree_maskIn rfl ?_)))⟩
        simp only
        rw [← hbfs, show k - i = (k - (i + 1)) + 1 by omega, bfsGo, if_pos (by omega), hsc']
    · have hst : bfs gens k x = st := by rw [← hbfs, bfsGo_end (by omega)]
      rw [hst, edgesTo_len]
      exact ret2 rfl (rt rfl) (rt rfl) ⟨b, c, some ⟨ge, 0, none⟩, rfl, hO.sl, hbe.sl, hE⟩
end Go.Proofs.Ytmedmmginnfjgaa
