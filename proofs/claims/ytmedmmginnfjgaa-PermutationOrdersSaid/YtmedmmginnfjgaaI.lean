import Derived.Test.YtmedmmginnfjgaaH
import Derived.Test.YtmedmmginnfjgaaB
namespace Go.Proofs.Ytmedmmginnfjgaa
open Go.W Go.PM

theorem check_spec {n x : Int} {gens : List (List Int)} {ga : Option Addr} {sds : List SD} {w : World} (hg : Lists w .i64 ga sds gens) (gc : Nat) (hgl : gens.length ≤ 9223372036854775807) :
    CallsR Try.prog 62 #[.int .i64 n, .slice ga gens.length gc, .int .i64 x] w fun v w' => v = .int .i64 (errF n gens x) ∧ Ex w w' := by
  refine callsR_of (args := [_, _, _]) Try.func62 rfl rfl ?_
  have hl := hg.len
  repeat' (first | (refine k_pure rfl ?_) | (refine then_normal ?_) | (refine cw_seq ?_) | (refine cw_region rfl ?_) | (refine rr_nil ?_) | (refine k_len rfl ?_) | (refine g_run rfl rfl ?_) | (refine g_skip rfl rfl ?_) | (refine g_dec_f rfl rfl (fun hc => ?_) (fun hc => ?_)) | (refine g_dec_t rfl rfl (fun hc => ?_) (fun hc => ?_)) | (refine g_ndec_f rfl rfl (fun hc => ?_) (fun hc => ?_)) | (refine g_ndec_t rfl rfl (fun hc => ?_) (fun hc => ?_)) | (refine g_split rfl rfl (fun hc => ?_) (fun hc => ?_)) | (refine k_addI rfl rfl (by omega) (by omega) ?_) | (refine k_subI rfl rfl (by omega) (by omega) ?_) | (refine k_fieldAddr rfl ?_) | (refine k_eqlB rfl rfl ?_) | (refine k_neqB rfl rfl ?_) | (refine cw_cond_true rfl ?_) | (refine cw_cond_false rfl ?_) | (refine cw_cond_dec rfl (fun hc => ?_) (fun hc => ?_)) | (refine cw_cond_ndec rfl (fun hc => ?_) (fun hc => ?_)) | (refine cw_cond rfl (fun hc => ?_) (fun hc => ?_)) | (refine cw_block ?_) | (refine cw_exit ?_) | (refine then_exit ?_) | (refine in_exit ?_) | (refine in_exit_ne rfl ?_) | (refine in_normal ?_) | (refine cw_ret ?_) | (refine then_ret ?_) | (refine in_ret ?_) | (refine cw_skip ?_))
  all_goals first | (refine ret1 rfl (rt rfl) ⟨?_, Ex.refl _⟩; show Value.int .i64 1 = _; rw [errF, if_pos (by omega)]; done) | skip
  · refine ret1 rfl (rt rfl) ⟨?_, Ex.refl _⟩
    show Value.int .i64 7 = _
    rw [errF, if_neg (by omega), if_pos (by omega)]
  · have he : errF n gens x = if gensOK n gens then 0 else 3 := by rw [errF, if_neg (by omega), if_neg (by omega)]
    refine cw_loop (ι := Nat) [6, 8, 29, 30, 31, 32, 33, 34, 35, 36, 37, 38, 39, 40, 41, 42] (fun k => [(29, .int .i64 (k : Int))]) (fun k w' => k ≤ gens.length ∧ Ex w w' ∧ gensOK n (gens.take k)) (fun k => gens.length - k)
      0 ⟨rfl, trivial⟩ ⟨by simp, Ex.refl _, by simp [gensOK]⟩ ?_
    rintro k ξ w2 ⟨hk, hE, hK⟩
    repeat' (first | (refine k_indexN rfl rfl (hg.sl.plain (by simp; omega)) (by omega) ?_) | (refine k_loadS rfl (hg.sl.ext hE) (by omega) ?_) | (refine k_pure rfl ?_) | (refine then_normal ?_) | (refine cw_seq ?_) | (refine cw_region rfl ?_) | (refine rr_nil ?_) | (refine k_len rfl ?_) | (refine g_run rfl rfl ?_) | (refine g_skip rfl rfl ?_) | (refine g_dec_f rfl rfl (fun hc => ?_) (fun hc => ?_)) | (refine g_dec_t rfl rfl (fun hc => ?_) (fun hc => ?_)) | (refine g_ndec_f rfl rfl (fun hc => ?_) (fun hc => ?_)) | (refine g_ndec_t rfl rfl (fun hc => ?_) (fun hc => ?_)) | (refine g_split rfl rfl (fun hc => ?_) (fun hc => ?_)) | (refine k_addI rfl rfl (by omega) (by omega) ?_) | (refine k_subI rfl rfl (by omega) (by omega) ?_) | (refine k_fieldAddr rfl ?_) | (refine k_eqlB rfl rfl ?_) | (refine k_neqB rfl rfl ?_) | (refine cw_cond_true rfl ?_) | (refine cw_cond_false rfl ?_) | (refine cw_cond_dec rfl (fun hc => ?_) (fun hc => ?_)) | (refine cw_cond_ndec rfl (fun hc => ?_) (fun hc => ?_)) | (refine cw_cond rfl (fun hc => ?_) (fun hc => ?_)) | (refine cw_block ?_) | (refine cw_exit ?_) | (refine then_exit ?_) | (refine in_exit ?_) | (refine in_exit_ne rfl ?_) | (refine in_normal ?_) | (refine cw_ret ?_) | (refine then_ret ?_) | (refine in_ret ?_) | (refine cw_skip ?_))
    · obtain ⟨h1, h2⟩ := hg.each k (by omega)
      rw [h2] at hc
      rw [h2]
      refine k_call (valid_spec (h1.ext hE) _) rfl ?_
      rintro v w3 ⟨rfl, hE3⟩
      refine ⟨fun _ _ => trivial, ?_⟩
      replace hE3 := hE.trans hE3
      have hcl := Decidable.not_not.1 hc
      repeat' (first | (refine k_pure rfl ?_) | (refine then_normal ?_) | (refine cw_seq ?_) | (refine cw_region rfl ?_) | (refine rr_nil ?_) | (refine k_len rfl ?_) | (refine g_run rfl rfl ?_) | (refine g_skip rfl rfl ?_) | (refine g_dec_f rfl rfl (fun hc => ?_) (fun hc => ?_)) | (refine g_dec_t rfl rfl (fun hc => ?_) (fun hc => ?_)) | (refine g_ndec_f rfl rfl (fun hc => ?_) (fun hc => ?_)) | (refine g_ndec_t rfl rfl (fun hc => ?_) (fun hc => ?_)) | (refine g_split rfl rfl (fun hc => ?_) (fun hc => ?_)) | (refine k_addI rfl rfl (by omega) (by omega) ?_) | (refine k_subI rfl rfl (by omega) (by omega) ?_) | (refine k_fieldAddr rfl ?_) | (refine k_eqlB rfl rfl ?_) | (refine k_neqB rfl rfl ?_) | (refine cw_cond_true rfl ?_) | (refine cw_cond_false rfl ?_) | (refine cw_cond_dec rfl (fun hc => ?_) (fun hc => ?_)) | (refine cw_cond_ndec rfl (fun hc => ?_) (fun hc => ?_)) | (refine cw_cond rfl (fun hc => ?_) (fun hc => ?_)) | (refine cw_block ?_) | (refine cw_exit ?_) | (refine then_exit ?_) | (refine in_exit ?_) | (refine in_exit_ne rfl ?_) | (refine in_normal ?_) | (refine cw_ret ?_) | (refine then_ret ?_) | (refine in_ret ?_) | (refine cw_skip ?_))
      · refine ret1 rfl (rt rfl) ⟨?_, hE3⟩
        rw [he, if_neg (not_gensOK (k := k) (by omega) (fun h => hc h.2))]; rfl
      · refine ⟨⟨k + 1, ⟨by omega, hE3, ?_⟩, by omega, rfl, trivial⟩, (by (repeat (first | exact agree_mask _ _ _ | refine agree_upd rfl ?_ | refine agree_updO rfl ?_ | refine agree_overIn rfl ?_ | refine agree_maskIn rfl ?_)))⟩
        rw [take_succ_getD gens [] (by omega), gensOK_snoc]
        exact ⟨hK, hcl, hc⟩
    · obtain ⟨h1, h2⟩ := hg.each k (by omega)
      rw [h2] at hc
      refine ret1 rfl (rt rfl) ⟨?_, hE⟩
      rw [he, if_neg (not_gensOK (k := k) (by omega) (fun h => hc h.1))]; rfl
    · refine ret1 rfl (rt rfl) ⟨?_, hE⟩
      rw [List.take_of_length_le (by omega)] at hK
      rw [he, if_pos hK]; rfl

theorem asc1_spec {x y z : Int} {es : List (Int × Nat × Int)} {j cb : Nat} {w : World} (hJ : Keeps (fun es cs => ∃ ws, cs = wordsL ws ∧ SetOf ws (x :: es.map (·.1))) cb 80 es w) (h0 : 0 ≤ y) (h1 : y < 512) :
    CallsR Try.prog 85 (#[Value.int .i64 y, .int .i64 (j : Int), .int .i64 z] ++ #[.pointer (some ⟨cb, 0, none⟩)]) w fun _ w' =>
      Keeps (fun es cs => ∃ ws, cs = wordsL ws ∧ SetOf ws (x :: es.map (·.1))) cb 80 (es ++ [(y, j, z)]) w' ∧ w.grownBy w' (some cb) := by
  obtain ⟨cs, hb, ws, rfl, hS⟩ := hJ
  show CallsR _ _ #[_, _, _, _] _ _
  refine callsR_of (args := [_, _, _, _]) Try.func85 rfl rfl ?_
  repeat' (first | (refine k_loadCA rfl hb (by simp [hS.len]) ?_) | (refine k_pure rfl ?_) | (refine then_normal ?_) | (refine cw_seq ?_) | (refine cw_region rfl ?_) | (refine rr_nil ?_) | (refine k_len rfl ?_) | (refine g_run rfl rfl ?_) | (refine g_skip rfl rfl ?_) | (refine g_dec_f rfl rfl (fun hc => ?_) (fun hc => ?_)) | (refine g_dec_t rfl rfl (fun hc => ?_) (fun hc => ?_)) | (refine g_ndec_f rfl rfl (fun hc => ?_) (fun hc => ?_)) | (refine g_ndec_t rfl rfl (fun hc => ?_) (fun hc => ?_)) | (refine g_split rfl rfl (fun hc => ?_) (fun hc => ?_)) | (refine k_addI rfl rfl (by omega) (by omega) ?_) | (refine k_subI rfl rfl (by omega) (by omega) ?_) | (refine k_fieldAddr rfl ?_) | (refine k_eqlB rfl rfl ?_) | (refine k_neqB rfl rfl ?_) | (refine cw_cond_true rfl ?_) | (refine cw_cond_false rfl ?_) | (refine cw_cond_dec rfl (fun hc => ?_) (fun hc => ?_)) | (refine cw_cond_ndec rfl (fun hc => ?_) (fun hc => ?_)) | (refine cw_cond rfl (fun hc => ?_) (fun hc => ?_)) | (refine cw_block ?_) | (refine cw_exit ?_) | (refine then_exit ?_) | (refine in_exit ?_) | (refine in_exit_ne rfl ?_) | (refine in_normal ?_) | (refine cw_ret ?_) | (refine then_ret ?_) | (refine in_ret ?_) | (refine cw_skip ?_))
  refine k_call (with_spec hS _ h0 h1 _) rfl ?_
  rintro v w1 ⟨ws', rfl, hS', hE1⟩
  refine ⟨fun _ _ => trivial, ?_⟩
  refine k_storeV (n := 8) rfl rfl (by simp [hS'.len]) (all_one (fun _ => rfl) _) (hb.ext hE1) (by simp [hS.len]) (fun w2 hc2 hb2 => ⟨fun _ _ => trivial, ?_⟩)
  repeat' (first | (refine k_pure rfl ?_) | (refine then_normal ?_) | (refine cw_seq ?_) | (refine cw_region rfl ?_) | (refine rr_nil ?_) | (refine k_len rfl ?_) | (refine g_run rfl rfl ?_) | (refine g_skip rfl rfl ?_) | (refine g_dec_f rfl rfl (fun hc => ?_) (fun hc => ?_)) | (refine g_dec_t rfl rfl (fun hc => ?_) (fun hc => ?_)) | (refine g_ndec_f rfl rfl (fun hc => ?_) (fun hc => ?_)) | (refine g_ndec_t rfl rfl (fun hc => ?_) (fun hc => ?_)) | (refine g_split rfl rfl (fun hc => ?_) (fun hc => ?_)) | (refine k_addI rfl rfl (by omega) (by omega) ?_) | (refine k_subI rfl rfl (by omega) (by omega) ?_) | (refine k_fieldAddr rfl ?_) | (refine k_eqlB rfl rfl ?_) | (refine k_neqB rfl rfl ?_) | (refine cw_cond_true rfl ?_) | (refine cw_cond_false rfl ?_) | (refine cw_cond_dec rfl (fun hc => ?_) (fun hc => ?_)) | (refine cw_cond_ndec rfl (fun hc => ?_) (fun hc => ?_)) | (refine cw_cond rfl (fun hc => ?_) (fun hc => ?_)) | (refine cw_block ?_) | (refine cw_exit ?_) | (refine then_exit ?_) | (refine in_exit ?_) | (refine in_exit_ne rfl ?_) | (refine in_normal ?_) | (refine cw_ret ?_) | (refine then_ret ?_) | (refine in_ret ?_) | (refine cw_skip ?_))
  refine end0 rfl ⟨⟨_, hb2, ws', rfl, by simpa using hS'⟩, gb_trans ⟨hE1.os, hE1.tape, hE1.output, hE1.size, fun k hk _ => hE1.block k hk⟩ (gbC hc2) (by simp)⟩

theorem ascending_spec {n x : Nat} {gens : List (List Int)} {ga : Option Addr} {sds : List SD} {w : World} (hg : Lists w .i64 ga sds gens) (hG : Gens n gens) (hgl : gens.length ≤ 64) (hn : n ≤ 512) (hx : x < n) (gc : Nat) :
    CallsR Try.prog 63 #[.int .i64 (n : Int), .slice ga gens.length gc, .int .i64 (x : Int)] w fun v w' =>
      ∃ b c ws, v = .tuple #[.slice b (sortedL n (bfs gens n x).1).length c, .agg (wordsL ws).toArray] ∧ Own w' w.heap.size 3 1 b (sortedL n (bfs gens n x).1).length c (intsL (sortedL n (bfs gens n x).1)) ∧ SetOf ws (bfs gens n x).1 ∧ Ex w w' := by
  refine callsR_of (args := [_, _, _]) Try.func63 rfl rfl ?_
  repeat' (first | (refine k_alloc (fun g7 w1 hn1 => ⟨fun _ _ => trivial, ?_⟩)) | (refine k_build0 (cs := wordsL [0, 0, 0, 0, 0, 0, 0, 0]) ?_) | (refine k_pure rfl ?_) | (refine then_normal ?_) | (refine cw_seq ?_) | (refine cw_region rfl ?_) | (refine rr_nil ?_) | (refine k_len rfl ?_) | (refine g_run rfl rfl ?_) | (refine g_skip rfl rfl ?_) | (refine g_dec_f rfl rfl (fun hc => ?_) (fun hc => ?_)) | (refine g_dec_t rfl rfl (fun hc => ?_) (fun hc => ?_)) | (refine g_ndec_f rfl rfl (fun hc => ?_) (fun hc => ?_)) | (refine g_ndec_t rfl rfl (fun hc => ?_) (fun hc => ?_)) | (refine g_split rfl rfl (fun hc => ?_) (fun hc => ?_)) | (refine k_addI rfl rfl (by omega) (by omega) ?_) | (refine k_subI rfl rfl (by omega) (by omega) ?_) | (refine k_fieldAddr rfl ?_) | (refine k_eqlB rfl rfl ?_) | (refine k_neqB rfl rfl ?_) | (refine cw_cond_true rfl ?_) | (refine cw_cond_false rfl ?_) | (refine cw_cond_dec rfl (fun hc => ?_) (fun hc => ?_)) | (refine cw_cond_ndec rfl (fun hc => ?_) (fun hc => ?_)) | (refine cw_cond rfl (fun hc => ?_) (fun hc => ?_)) | (refine cw_block ?_) | (refine cw_exit ?_) | (refine then_exit ?_) | (refine in_exit ?_) | (refine in_exit_ne rfl ?_) | (refine in_normal ?_) | (refine cw_ret ?_) | (refine then_ret ?_) | (refine in_ret ?_) | (refine cw_skip ?_))
  refine k_call (with_spec setOf_nil _ (by omega) (by omega) _) rfl ?_
  rintro v w2 ⟨ws0, rfl, hS0, hE2⟩
  refine ⟨fun _ _ => trivial, ?_⟩
  refine k_alloc (fun g8 w3 hn3 => ⟨fun _ _ => trivial, ?_⟩)
  have hb8 : Blk w3 g8 80 (wordsL [0, 0, 0, 0, 0, 0, 0, 0]) := hn3.blk
  refine k_storeV (n := 8) rfl rfl (by simp [hS0.len]) (all_one (fun _ => rfl) _) hb8 rfl (fun w4 hc4 hb4 => ⟨fun _ _ => trivial, ?_⟩)
  repeat' (first | (refine k_mkFunc ?_) | (refine k_pure rfl ?_) | (refine then_normal ?_) | (refine cw_seq ?_) | (refine cw_region rfl ?_) | (refine rr_nil ?_) | (refine k_len rfl ?_) | (refine g_run rfl rfl ?_) | (refine g_skip rfl rfl ?_) | (refine g_dec_f rfl rfl (fun hc => ?_) (fun hc => ?_)) | (refine g_dec_t rfl rfl (fun hc => ?_) (fun hc => ?_)) | (refine g_ndec_f rfl rfl (fun hc => ?_) (fun hc => ?_)) | (refine g_ndec_t rfl rfl (fun hc => ?_) (fun hc => ?_)) | (refine g_split rfl rfl (fun hc => ?_) (fun hc => ?_)) | (refine k_addI rfl rfl (by omega) (by omega) ?_) | (refine k_subI rfl rfl (by omega) (by omega) ?_) | (refine k_fieldAddr rfl ?_) | (refine k_eqlB rfl rfl ?_) | (refine k_neqB rfl rfl ?_) | (refine cw_cond_true rfl ?_) | (refine cw_cond_false rfl ?_) | (refine cw_cond_dec rfl (fun hc => ?_) (fun hc => ?_)) | (refine cw_cond_ndec rfl (fun hc => ?_) (fun hc => ?_)) | (refine cw_cond rfl (fun hc => ?_) (fun hc => ?_)) | (refine cw_block ?_) | (refine cw_exit ?_) | (refine then_exit ?_) | (refine in_exit ?_) | (refine in_exit_ne rfl ?_) | (refine in_normal ?_) | (refine cw_ret ?_) | (refine then_ret ?_) | (refine in_ret ?_) | (refine cw_skip ?_))
  have s1 := hn1.lo
  have s1' := hn1.hi
  have s2 := hE2.size
  have s3 := hn3.lo
  have s4 := hc4.size
  have s5 := hn3.hi
  have hE4 : Ex w w4 := ((hn1.ex.trans hE2).trans hn3.ex).chg hc4 (by omega)
  have hb7 : Blk w4 g7 80 (wordsL [0, 0, 0, 0, 0, 0, 0, 0]) := ((Blk.ext (cs := wordsL [0, 0, 0, 0, 0, 0, 0, 0]) hn1.blk hE2).ext hn3.ex).chg hc4 (by omega)
  refine k_call (search_spec (fcb := 85) (cap := #[.pointer (some ⟨g8, 0, none⟩)]) (cb := g8) (Tc := 80) (J := fun es cs => ∃ ws, cs = wordsL ws ∧ SetOf ws ((x : Int) :: es.map (·.1)))
    hg hG hgl hn hx hE4 (by omega) (by omega) ⟨_, hb4, ws0, rfl, by simpa using hS0⟩ (fun es y j z w _ hk h0 h1 => asc1_spec hk h0 (by omega)) gc) rfl ?_
  rintro v w5 ⟨b5, c5, rfl, hO5, ⟨_, hb5, ws, rfl, hS⟩, hg5, hE5⟩
  refine ⟨fun _ _ => trivial, ?_⟩
  rw [← bfs_points] at hS
  replace hb7 := hb7.gb hg5 (by simp; omega)
  generalize horb : (bfs gens n x).1 = orb at *
  have s6 := hg5.size
  repeat' (first | (refine k_pure rfl ?_) | (refine then_normal ?_) | (refine cw_seq ?_) | (refine cw_region rfl ?_) | (refine rr_nil ?_) | (refine k_len rfl ?_) | (refine g_run rfl rfl ?_) | (refine g_skip rfl rfl ?_) | (refine g_dec_f rfl rfl (fun hc => ?_) (fun hc => ?_)) | (refine g_dec_t rfl rfl (fun hc => ?_) (fun hc => ?_)) | (refine g_ndec_f rfl rfl (fun hc => ?_) (fun hc => ?_)) | (refine g_ndec_t rfl rfl (fun hc => ?_) (fun hc => ?_)) | (refine g_split rfl rfl (fun hc => ?_) (fun hc => ?_)) | (refine k_addI rfl rfl (by omega) (by omega) ?_) | (refine k_subI rfl rfl (by omega) (by omega) ?_) | (refine k_fieldAddr rfl ?_) | (refine k_eqlB rfl rfl ?_) | (refine k_neqB rfl rfl ?_) | (refine cw_cond_true rfl ?_) | (refine cw_cond_false rfl ?_) | (refine cw_cond_dec rfl (fun hc => ?_) (fun hc => ?_)) | (refine cw_cond_ndec rfl (fun hc => ?_) (fun hc => ?_)) | (refine cw_cond rfl (fun hc => ?_) (fun hc => ?_)) | (refine cw_block ?_) | (refine cw_exit ?_) | (refine then_exit ?_) | (refine in_exit ?_) | (refine in_exit_ne rfl ?_) | (refine in_normal ?_) | (refine cw_ret ?_) | (refine then_ret ?_) | (refine in_ret ?_) | (refine cw_skip ?_))
  refine cw_loop (ι := Nat × Option Addr × Nat) [9, 10, 19, 20, 21, 22, 23, 24, 25, 26, 27, 28, 29] (fun s => [(19, .int .i64 (s.1 : Int)), (9, .slice s.2.1 (sortedL s.1 orb).length s.2.2)])
    (fun s w' => s.1 ≤ n ∧ Ex w w' ∧ Ex w5 w' ∧ Own w' w5.heap.size 3 1 s.2.1 (sortedL s.1 orb).length s.2.2 (intsL (sortedL s.1 orb))) (fun s => n - s.1)
    (0, none, 0) ⟨rfl, rfl, trivial⟩ ⟨by simp, hE5, Ex.refl _, Own.nil _ _ _ _⟩ ?_
  rintro ⟨k, b, c⟩ ξ w6 ⟨hk, hE6, hE56, hO6⟩
  simp only at hk hO6
  have hsl := sortedL_len k orb
  show CW _ _ _ _ (over [(19, .int .i64 (k : Int)), (9, .slice b (sortedL k orb).length c)] _) w6
  have hb56 := hb5.ext hE56
  have hb76 := hb7.ext hE56
  repeat' (first | (refine k_loadCA rfl hb56 (by simp [hS.len]) ?_) | (refine k_pure rfl ?_) | (refine then_normal ?_) | (refine cw_seq ?_) | (refine cw_region rfl ?_) | (refine rr_nil ?_) | (refine k_len rfl ?_) | (refine g_run rfl rfl ?_) | (refine g_skip rfl rfl ?_) | (refine g_dec_f rfl rfl (fun hc => ?_) (fun hc => ?_)) | (refine g_dec_t rfl rfl (fun hc => ?_) (fun hc => ?_)) | (refine g_ndec_f rfl rfl (fun hc => ?_) (fun hc => ?_)) | (refine g_ndec_t rfl rfl (fun hc => ?_) (fun hc => ?_)) | (refine g_split rfl rfl (fun hc => ?_) (fun hc => ?_)) | (refine k_addI rfl rfl (by omega) (by omega) ?_) | (refine k_subI rfl rfl (by omega) (by omega) ?_) | (refine k_fieldAddr rfl ?_) | (refine k_eqlB rfl rfl ?_) | (refine k_neqB rfl rfl ?_) | (refine cw_cond_true rfl ?_) | (refine cw_cond_false rfl ?_) | (refine cw_cond_dec rfl (fun hc => ?_) (fun hc => ?_)) | (refine cw_cond_ndec rfl (fun hc => ?_) (fun hc => ?_)) | (refine cw_cond rfl (fun hc => ?_) (fun hc => ?_)) | (refine cw_block ?_) | (refine cw_exit ?_) | (refine then_exit ?_) | (refine in_exit ?_) | (refine in_exit_ne rfl ?_) | (refine in_normal ?_) | (refine cw_ret ?_) | (refine then_ret ?_) | (refine in_ret ?_) | (refine cw_skip ?_))
  · refine k_call (has_spec hS _ (by omega) (by omega) _) rfl ?_
    rintro v w7 ⟨rfl, hE7⟩
    refine ⟨fun _ _ => trivial, ?_⟩
    have s7 := hE7.size
    have s8 := hE56.size
    repeat' (first | (refine k_pure rfl ?_) | (refine then_normal ?_) | (refine cw_seq ?_) | (refine cw_region rfl ?_) | (refine rr_nil ?_) | (refine k_len rfl ?_) | (refine g_run rfl rfl ?_) | (refine g_skip rfl rfl ?_) | (refine g_dec_f rfl rfl (fun hc => ?_) (fun hc => ?_)) | (refine g_dec_t rfl rfl (fun hc => ?_) (fun hc => ?_)) | (refine g_ndec_f rfl rfl (fun hc => ?_) (fun hc => ?_)) | (refine g_ndec_t rfl rfl (fun hc => ?_) (fun hc => ?_)) | (refine g_split rfl rfl (fun hc => ?_) (fun hc => ?_)) | (refine k_addI rfl rfl (by omega) (by omega) ?_) | (refine k_subI rfl rfl (by omega) (by omega) ?_) | (refine k_fieldAddr rfl ?_) | (refine k_eqlB rfl rfl ?_) | (refine k_neqB rfl rfl ?_) | (refine cw_cond_true rfl ?_) | (refine cw_cond_false rfl ?_) | (refine cw_cond_dec rfl (fun hc => ?_) (fun hc => ?_)) | (refine cw_cond_ndec rfl (fun hc => ?_) (fun hc => ?_)) | (refine cw_cond rfl (fun hc => ?_) (fun hc => ?_)) | (refine cw_block ?_) | (refine cw_exit ?_) | (refine then_exit ?_) | (refine in_exit ?_) | (refine in_exit_ne rfl ?_) | (refine in_normal ?_) | (refine cw_ret ?_) | (refine then_ret ?_) | (refine in_ret ?_) | (refine cw_skip ?_))
    · refine k_app1I rfl rfl rfl rfl (hO6.ext hE7) (by omega) (by omega) (by omega) (fun gl b' c' w8 hO8 hg8 _ => ?_)
      have hE8 := (hO6.ext hE7).grow_ex hg8 (hE6.trans hE7) (by omega)
      have hE58 := (hO6.ext hE7).grow_ex hg8 (hE56.trans hE7) (Nat.le_refl _)
      repeat' (first | (refine k_pure rfl ?_) | (refine then_normal ?_) | (refine cw_seq ?_) | (refine cw_region rfl ?_) | (refine rr_nil ?_) | (refine k_len rfl ?_) | (refine g_run rfl rfl ?_) | (refine g_skip rfl rfl ?_) | (refine g_dec_f rfl rfl (fun hc => ?_) (fun hc => ?_)) | (refine g_dec_t rfl rfl (fun hc => ?_) (fun hc => ?_)) | (refine g_ndec_f rfl rfl (fun hc => ?_) (fun hc => ?_)) | (refine g_ndec_t rfl rfl (fun hc => ?_) (fun hc => ?_)) | (refine g_split rfl rfl (fun hc => ?_) (fun hc => ?_)) | (refine k_addI rfl rfl (by omega) (by omega) ?_) | (refine k_subI rfl rfl (by omega) (by omega) ?_) | (refine k_fieldAddr rfl ?_) | (refine k_eqlB rfl rfl ?_) | (refine k_neqB rfl rfl ?_) | (refine cw_cond_true rfl ?_) | (refine cw_cond_false rfl ?_) | (refine cw_cond_dec rfl (fun hc => ?_) (fun hc => ?_)) | (refine cw_cond_ndec rfl (fun hc => ?_) (fun hc => ?_)) | (refine cw_cond rfl (fun hc => ?_) (fun hc => ?_)) | (refine cw_block ?_) | (refine cw_exit ?_) | (refine then_exit ?_) | (refine in_exit ?_) | (refine in_exit_ne rfl ?_) | (refine in_normal ?_) | (refine cw_ret ?_) | (refine then_ret ?_) | (refine in_ret ?_) | (refine cw_skip ?_))
      have e : sortedL (k + 1) orb = sortedL k orb ++ [(k : Int)] := by rw [sortedL_succ, if_pos hc]
      refine ⟨⟨(k + 1, b', c'), ⟨by simp only; omega, hE8, hE58, by simp only [e, List.length_append, List.length_singleton]; exact hO8⟩, by simp only; omega, rfl, ?_, trivial⟩, (by (repeat (first | exact agree_mask _ _ _ | refine agree_upd rfl ?_ | refine agree_updO rfl ?_ | refine agree_overIn rfl ?_ | refine agree_maskIn rfl ?_)))⟩
      simp only [e, List.length_append, List.length_singleton]; rfl
    · have e : sortedL (k + 1) orb = sortedL k orb := by rw [sortedL_succ, if_neg hc, List.append_nil]
      refine ⟨⟨(k + 1, b, c), ⟨by simp only; omega, hE6.trans hE7, hE56.trans hE7, by simp only [e]; exact hO6.ext hE7⟩, by simp only; omega, rfl, ?_, trivial⟩, (by (repeat (first | exact agree_mask _ _ _ | refine agree_upd rfl ?_ | refine agree_updO rfl ?_ | refine agree_overIn rfl ?_ | refine agree_maskIn rfl ?_)))⟩
      simp only [e]; rfl
  · obtain rfl : k = n := by omega
    refine cw_draw (late := [3]) (plan := [(0, none), (1, none), (2, none), (3, some false)]) (fun w' => Blk w' g8 80 (wordsL ws)) mixed (by kernel_rfl) hb56.drew ?_
    repeat' (first | (refine k_loadCA rfl (fun _ h => h) (by simp [hS.len]) ?_) | (refine k_pure rfl ?_) | (refine then_normal ?_) | (refine cw_seq ?_) | (refine cw_region rfl ?_) | (refine rr_nil ?_) | (refine k_len rfl ?_) | (refine g_run rfl rfl ?_) | (refine g_skip rfl rfl ?_) | (refine g_dec_f rfl rfl (fun hc => ?_) (fun hc => ?_)) | (refine g_dec_t rfl rfl (fun hc => ?_) (fun hc => ?_)) | (refine g_ndec_f rfl rfl (fun hc => ?_) (fun hc => ?_)) | (refine g_ndec_t rfl rfl (fun hc => ?_) (fun hc => ?_)) | (refine g_split rfl rfl (fun hc => ?_) (fun hc => ?_)) | (refine k_addI rfl rfl (by omega) (by omega) ?_) | (refine k_subI rfl rfl (by omega) (by omega) ?_) | (refine k_fieldAddr rfl ?_) | (refine k_eqlB rfl rfl ?_) | (refine k_neqB rfl rfl ?_) | (refine cw_cond_true rfl ?_) | (refine cw_cond_false rfl ?_) | (refine cw_cond_dec rfl (fun hc => ?_) (fun hc => ?_)) | (refine cw_cond_ndec rfl (fun hc => ?_) (fun hc => ?_)) | (refine cw_cond rfl (fun hc => ?_) (fun hc => ?_)) | (refine cw_block ?_) | (refine cw_exit ?_) | (refine then_exit ?_) | (refine in_exit ?_) | (refine in_exit_ne rfl ?_) | (refine in_normal ?_) | (refine cw_ret ?_) | (refine then_ret ?_) | (refine in_ret ?_) | (refine cw_skip ?_))
    refine k_storeV (n := 8) rfl rfl (by simp [hS.len]) (all_one (fun _ => rfl) _) hb76.drew rfl (fun w9 hc9 hb9 => ⟨fun h => absurd h (by decide), ?_⟩)
    repeat' (first | (refine k_pure rfl ?_) | (refine then_normal ?_) | (refine cw_seq ?_) | (refine cw_region rfl ?_) | (refine rr_nil ?_) | (refine k_len rfl ?_) | (refine g_run rfl rfl ?_) | (refine g_skip rfl rfl ?_) | (refine g_dec_f rfl rfl (fun hc => ?_) (fun hc => ?_)) | (refine g_dec_t rfl rfl (fun hc => ?_) (fun hc => ?_)) | (refine g_ndec_f rfl rfl (fun hc => ?_) (fun hc => ?_)) | (refine g_ndec_t rfl rfl (fun hc => ?_) (fun hc => ?_)) | (refine g_split rfl rfl (fun hc => ?_) (fun hc => ?_)) | (refine k_addI rfl rfl (by omega) (by omega) ?_) | (refine k_subI rfl rfl (by omega) (by omega) ?_) | (refine k_fieldAddr rfl ?_) | (refine k_eqlB rfl rfl ?_) | (refine k_neqB rfl rfl ?_) | (refine cw_cond_true rfl ?_) | (refine cw_cond_false rfl ?_) | (refine cw_cond_dec rfl (fun hc => ?_) (fun hc => ?_)) | (refine cw_cond_ndec rfl (fun hc => ?_) (fun hc => ?_)) | (refine cw_cond rfl (fun hc => ?_) (fun hc => ?_)) | (refine cw_block ?_) | (refine cw_exit ?_) | (refine then_exit ?_) | (refine in_exit ?_) | (refine in_exit_ne rfl ?_) | (refine in_normal ?_) | (refine cw_ret ?_) | (refine then_ret ?_) | (refine in_ret ?_) | (refine cw_skip ?_))
    refine ret2 rfl (rt rfl) (rc rfl (by simp [hS.len]) hb9) ⟨b, c, ws, rfl, ?_, hS, hE6.drew.chg hc9 hn1.lo⟩
    exact (hO6.drew.chg hc9 (fun ad e => by have := (hO6.lo ad e).1; omega)).mono (by omega)
end Go.Proofs.Ytmedmmginnfjgaa
