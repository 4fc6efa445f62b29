import Derived.Test.YtmedmmginnfjgaaJ
import Derived.Test.YtmedmmginnfjgaaE
import Derived.Test.YtmedmmginnfjgaaO
import Derived.Test.YtmedmmginnfjgaaCyc
namespace Go.Proofs.Ytmedmmginnfjgaa
open Go.W Go.PM

def RetCs (w : World) (xss : List (List Int)) (ok : Bool) (v : Value) (w' : World) : Prop :=
  ∃ b c sds, v = .tuple #[.slice b sds.length c, .bool ok] ∧ OwnLists w' w.heap.size 22 3 .i64 b c sds xss ∧ Ex w w'

theorem cycles_spec {xs : List Int} {a : Option Addr} {w : World} (hx : Sl w a (intsL xs)) (cap : Nat) :
    CallsR Try.prog 28 #[.slice a xs.length cap] w (RetCs w (cyclesF xs) (decide (IsPerm xs))) := by
  refine callsR_of (args := [_]) Try.func28 rfl rfl ?_
  repeat' (first | (refine k_pure rfl ?_) | (refine then_normal ?_) | (refine cw_seq ?_) | (refine cw_region rfl ?_) | (refine rr_nil ?_) | (refine k_len rfl ?_) | (refine g_run rfl rfl ?_) | (refine g_skip rfl rfl ?_) | (refine g_dec_f rfl rfl (fun hc => ?_) (fun hc => ?_)) | (refine g_dec_t rfl rfl (fun hc => ?_) (fun hc => ?_)) | (refine g_ndec_f rfl rfl (fun hc => ?_) (fun hc => ?_)) | (refine g_ndec_t rfl rfl (fun hc => ?_) (fun hc => ?_)) | (refine g_split rfl rfl (fun hc => ?_) (fun hc => ?_)) | (refine k_addI rfl rfl (by omega) (by omega) ?_) | (refine k_subI rfl rfl (by omega) (by omega) ?_) | (refine k_fieldAddr rfl ?_) | (refine k_eqlB rfl rfl ?_) | (refine k_neqB rfl rfl ?_) | (refine cw_cond_true rfl ?_) | (refine cw_cond_false rfl ?_) | (refine cw_cond_dec rfl (fun hc => ?_) (fun hc => ?_)) | (refine cw_cond_ndec rfl (fun hc => ?_) (fun hc => ?_)) | (refine cw_cond rfl (fun hc => ?_) (fun hc => ?_)) | (refine cw_block ?_) | (refine cw_exit ?_) | (refine then_exit ?_) | (refine in_exit ?_) | (refine in_exit_ne rfl ?_) | (refine in_normal ?_) | (refine cw_ret ?_) | (refine then_ret ?_) | (refine in_ret ?_) | (refine cw_skip ?_))
  refine k_call (valid_spec hx _) rfl ?_
  rintro v w1 ⟨rfl, hE1⟩
  refine ⟨fun _ _ => trivial, ?_⟩
  have hpl : IsPerm xs → xs.length ≤ 512 := fun h => h.2.1
  repeat' (first | (refine k_alloc (fun g5 w2 hn2 => ⟨fun _ _ => trivial, ?_⟩)) | (refine k_makeB rfl rfl (by have := hpl hc; omega) (by have := hpl hc; omega) (fun g6 w3 hn3 => ⟨fun _ _ => trivial, ?_⟩)) | (refine k_pure rfl ?_) | (refine then_normal ?_) | (refine cw_seq ?_) | (refine cw_region rfl ?_) | (refine rr_nil ?_) | (refine k_len rfl ?_) | (refine g_run rfl rfl ?_) | (refine g_skip rfl rfl ?_) | (refine g_dec_f rfl rfl (fun hc => ?_) (fun hc => ?_)) | (refine g_dec_t rfl rfl (fun hc => ?_) (fun hc => ?_)) | (refine g_ndec_f rfl rfl (fun hc => ?_) (fun hc => ?_)) | (refine g_ndec_t rfl rfl (fun hc => ?_) (fun hc => ?_)) | (refine g_split rfl rfl (fun hc => ?_) (fun hc => ?_)) | (refine k_addI rfl rfl (by omega) (by omega) ?_) | (refine k_subI rfl rfl (by omega) (by omega) ?_) | (refine k_fieldAddr rfl ?_) | (refine k_eqlB rfl rfl ?_) | (refine k_neqB rfl rfl ?_) | (refine cw_cond_true rfl ?_) | (refine cw_cond_false rfl ?_) | (refine cw_cond_dec rfl (fun hc => ?_) (fun hc => ?_)) | (refine cw_cond_ndec rfl (fun hc => ?_) (fun hc => ?_)) | (refine cw_cond rfl (fun hc => ?_) (fun hc => ?_)) | (refine cw_block ?_) | (refine cw_exit ?_) | (refine then_exit ?_) | (refine in_exit ?_) | (refine in_exit_ne rfl ?_) | (refine in_normal ?_) | (refine cw_ret ?_) | (refine then_ret ?_) | (refine in_ret ?_) | (refine cw_skip ?_))
  · refine ret2 rfl (rt rfl) (rt rfl) ?_
    rw [cyclesF, if_neg hc, decide_eq_false hc]
    exact ⟨none, 0, [], rfl, OwnLists.nil _ _ _ _ _, hE1⟩
  · have hP := hc
    have hx1 := hx.ext hE1
    have hn0 : 1 ≤ xs.length := hc.1
    have hn5 : xs.length ≤ 512 := hc.2.1
    have s1 := hE1.size
    have s2 := hn2.lo
    have s3 := hn2.hi
    have s4 := hn3.lo
    have s5 := hn3.hi
    have hE3 : Ex w w3 := (hE1.trans hn2.ex).trans hn3.ex
    have hb53 := hn2.blk.ext hn3.ex
    refine cw_loop (ι := Nat × Option Addr × Nat × List SD × List Nat × List Bool) [4, 7, 8, 9, 18, 19, 20, 21, 22, 23, 24, 25, 26, 27, 28, 29, 30, 31, 32, 33, 34, 35, 36, 37, 38, 39, 40, 41, 42, 43, 44, 45, 46, 47, 48, 49, 50, 51, 52, 53, 54, 55, 56, 57] (fun s => [(18, .int .i64 (s.1 : Int)), (4, .slice s.2.1 s.2.2.2.1.length s.2.2.1)])
      (fun s w' => s.1 ≤ xs.length ∧ Ex w w' ∧ w3.heap.size ≤ w'.heap.size ∧ Blk w' g5 80 (wordsL s.2.2.2.2.1) ∧ SetOf s.2.2.2.2.1 (cycGo xs s.1).1 ∧ Blk w' g6 4 (s.2.2.2.2.2.map Value.bool) ∧ s.2.2.2.2.2.length = xs.length ∧ OwnLists w' w3.heap.size 22 3 .i64 s.2.1 s.2.2.1 s.2.2.2.1 (cycGo xs s.1).2) (fun s => xs.length - s.1)
      (0, none, 0, [], [0, 0, 0, 0, 0, 0, 0, 0], List.replicate xs.length false) ⟨rfl, rfl, trivial⟩ ⟨by simp, hE3, Nat.le_refl _, hb53, setOf_nil, hn3.blk, by simp, OwnLists.nil _ _ _ _ _⟩ ?_
    rintro ⟨k, b, c, ss, ws, bs⟩ ξ w4 ⟨hk, hE4, hs4, hb5, hS, hb6, hbl, hL⟩
    simp only at hk hb5 hS hb6 hbl hL
    have hlen := cycGo_len hc k hk
    have hl := hL.len
    show CW _ _ _ _ (over [(18, .int .i64 (k : Int)), (4, .slice b ss.length c)] _) w4
    repeat' (first | (refine k_loadCA rfl hb5 (by simp [hS.len]) ?_) | (refine k_pure rfl ?_) | (refine then_normal ?_) | (refine cw_seq ?_) | (refine cw_region rfl ?_) | (refine rr_nil ?_) | (refine k_len rfl ?_) | (refine g_run rfl rfl ?_) | (refine g_skip rfl rfl ?_) | (refine g_dec_f rfl rfl (fun hc => ?_) (fun hc => ?_)) | (refine g_dec_t rfl rfl (fun hc => ?_) (fun hc => ?_)) | (refine g_ndec_f rfl rfl (fun hc => ?_) (fun hc => ?_)) | (refine g_ndec_t rfl rfl (fun hc => ?_) (fun hc => ?_)) | (refine g_split rfl rfl (fun hc => ?_) (fun hc => ?_)) | (refine k_addI rfl rfl (by omega) (by omega) ?_) | (refine k_subI rfl rfl (by omega) (by omega) ?_) | (refine k_fieldAddr rfl ?_) | (refine k_eqlB rfl rfl ?_) | (refine k_neqB rfl rfl ?_) | (refine cw_cond_true rfl ?_) | (refine cw_cond_false rfl ?_) | (refine cw_cond_dec rfl (fun hc => ?_) (fun hc => ?_)) | (refine cw_cond_ndec rfl (fun hc => ?_) (fun hc => ?_)) | (refine cw_cond rfl (fun hc => ?_) (fun hc => ?_)) | (refine cw_block ?_) | (refine cw_exit ?_) | (refine then_exit ?_) | (refine in_exit ?_) | (refine in_exit_ne rfl ?_) | (refine in_normal ?_) | (refine cw_ret ?_) | (refine then_ret ?_) | (refine in_ret ?_) | (refine cw_skip ?_))
    · refine k_call (has_spec hS _ (by omega) (by omega) _) rfl ?_
      rintro v w5 ⟨rfl, hE5⟩
      refine ⟨fun _ _ => trivial, ?_⟩
      have hx5 := hx.ext (hE4.trans hE5)
      repeat' (first | (refine k_indexN rfl rfl (hx5.plain (by simp; omega)) (by omega) ?_) | (refine k_loadI rfl hx5 (by omega) ?_) | (refine k_pure rfl ?_) | (refine then_normal ?_) | (refine cw_seq ?_) | (refine cw_region rfl ?_) | (refine rr_nil ?_) | (refine k_len rfl ?_) | (refine g_run rfl rfl ?_) | (refine g_skip rfl rfl ?_) | (refine g_dec_f rfl rfl (fun hc => ?_) (fun hc => ?_)) | (refine g_dec_t rfl rfl (fun hc => ?_) (fun hc => ?_)) | (refine g_ndec_f rfl rfl (fun hc => ?_) (fun hc => ?_)) | (refine g_ndec_t rfl rfl (fun hc => ?_) (fun hc => ?_)) | (refine g_split rfl rfl (fun hc => ?_) (fun hc => ?_)) | (refine k_addI rfl rfl (by omega) (by omega) ?_) | (refine k_subI rfl rfl (by omega) (by omega) ?_) | (refine k_fieldAddr rfl ?_) | (refine k_eqlB rfl rfl ?_) | (refine k_neqB rfl rfl ?_) | (refine cw_cond_true rfl ?_) | (refine cw_cond_false rfl ?_) | (refine cw_cond_dec rfl (fun hc => ?_) (fun hc => ?_)) | (refine cw_cond_ndec rfl (fun hc => ?_) (fun hc => ?_)) | (refine cw_cond rfl (fun hc => ?_) (fun hc => ?_)) | (refine cw_block ?_) | (refine cw_exit ?_) | (refine then_exit ?_) | (refine in_exit ?_) | (refine in_exit_ne rfl ?_) | (refine in_normal ?_) | (refine cw_ret ?_) | (refine then_ret ?_) | (refine in_ret ?_) | (refine cw_skip ?_))
      · have e : cycGo xs (k + 1) = cycGo xs k := by rw [cycGo, if_pos (.inr hc)]
        exact ⟨⟨(k + 1, b, c, ss, ws, bs), ⟨by simp only; omega, hE4.trans hE5, by have := hE5.size; omega, hb5.ext hE5, by simp only [e]; exact hS, hb6.ext hE5, hbl, by simp only [e]; exact hL.ext hE5⟩, by simp only; omega, rfl, rfl, trivial⟩, (by (repeat (first | exact agree_mask _ _ _ | refine agree_upd rfl ?_ | refine agree_updO rfl ?_ | refine agree_overIn rfl ?_ | refine agree_maskIn rfl ?_)))⟩
      · have e : cycGo xs (k + 1) = ((cycGo xs k).1 ++ cyc xs k, (cycGo xs k).2 ++ [cyc xs k]) := by rw [cycGo, if_neg (by rintro (h | h); exact absurd h (by assumption); exact hc h)]
        refine k_clearB rfl (hb6.ext hE5) hbl hn0 (fun w6 hc6 hb6' => ⟨fun _ _ => trivial, ?_⟩)
        have s6 := hc6.size
        have s5' := hE5.size
        have hE6 : Ex w w6 := (hE4.trans hE5).chg hc6 (by omega)
        have hL6 := (hL.ext hE5).gb (gbC hc6) (by simp; omega)
        have hU : (∀ ad, b = some ad → ad.block < w6.heap.size) ∧ ∀ i, i < ss.length → ∀ ad, (ss.getD i sd0).a = some ad → ad.block < w6.heap.size :=
          ⟨fun ad e => (hL6.top.lo ad e).2, fun i hi ad e => ((hL6.each i (by omega)).1.lo ad e).2⟩
        repeat' (first | (refine k_pure rfl ?_) | (refine then_normal ?_) | (refine cw_seq ?_) | (refine cw_region rfl ?_) | (refine rr_nil ?_) | (refine k_len rfl ?_) | (refine g_run rfl rfl ?_) | (refine g_skip rfl rfl ?_) | (refine g_dec_f rfl rfl (fun hc => ?_) (fun hc => ?_)) | (refine g_dec_t rfl rfl (fun hc => ?_) (fun hc => ?_)) | (refine g_ndec_f rfl rfl (fun hc => ?_) (fun hc => ?_)) | (refine g_ndec_t rfl rfl (fun hc => ?_) (fun hc => ?_)) | (refine g_split rfl rfl (fun hc => ?_) (fun hc => ?_)) | (refine k_addI rfl rfl (by omega) (by omega) ?_) | (refine k_subI rfl rfl (by omega) (by omega) ?_) | (refine k_fieldAddr rfl ?_) | (refine k_eqlB rfl rfl ?_) | (refine k_neqB rfl rfl ?_) | (refine cw_cond_true rfl ?_) | (refine cw_cond_false rfl ?_) | (refine cw_cond_dec rfl (fun hc => ?_) (fun hc => ?_)) | (refine cw_cond_ndec rfl (fun hc => ?_) (fun hc => ?_)) | (refine cw_cond rfl (fun hc => ?_) (fun hc => ?_)) | (refine cw_block ?_) | (refine cw_exit ?_) | (refine then_exit ?_) | (refine in_exit ?_) | (refine in_exit_ne rfl ?_) | (refine in_normal ?_) | (refine cw_ret ?_) | (refine then_ret ?_) | (refine in_ret ?_) | (refine cw_skip ?_))
        refine cw_loop (ι := Int × List Int × Option Addr × Nat × List Nat × List Bool) [8, 9, 34, 35, 36, 37, 38, 39, 40, 41, 42, 43, 44, 45, 46, 47, 48, 49, 50, 51, 52] (fun s => [(9, .int .i64 s.1), (8, .slice s.2.2.1 s.2.1.length s.2.2.2.1)])
          (fun s w' => (0 ≤ s.1 ∧ s.1 < xs.length) ∧ Dist xs.length s.2.1 ∧ cyc xs k = followC xs (xs.length + 1 - s.2.1.length) s.1 s.2.1 ∧ Ex w w' ∧ w6.heap.size ≤ w'.heap.size ∧ Blk w' g5 80 (wordsL s.2.2.2.2.1) ∧ SetOf s.2.2.2.2.1 ((cycGo xs k).1 ++ s.2.1) ∧
            Blk w' g6 4 (s.2.2.2.2.2.map Value.bool) ∧ s.2.2.2.2.2.length = xs.length ∧ (∀ j, j < xs.length → (s.2.2.2.2.2.getD j false = decide ((j : Int) ∈ s.2.1))) ∧
            OwnLists w' w3.heap.size 22 3 .i64 b c ss (cycGo xs k).2 ∧ Own w' w6.heap.size 3 1 s.2.2.1 s.2.1.length s.2.2.2.1 (intsL s.2.1)) (fun s => xs.length - s.2.1.length)
          (k, [], none, 0, ws, List.replicate xs.length false) ⟨rfl, rfl, trivial⟩
          ⟨⟨by simp only; omega, by simp only; omega⟩, good_nil _, by simp [cyc], hE6, Nat.le_refl _, (hb5.ext hE5).chg hc6 (by omega), by simpa using hS, hb6', by simp, fun j hj => by simp [List.getD_eq_getElem?_getD, hj], hL6, Own.nil _ _ _ _⟩ ?_
        rintro ⟨y, acc, a8, c8, ws7, bs7⟩ ξ' w7 ⟨⟨hy0, hy1⟩, hd, hf, hE7, hs7, hb57, hS7, hb67, hbl7, hmk, hL7, hO7⟩
        simp only at hy0 hy1 hd hf hb57 hS7 hb67 hbl7 hmk hL7 hO7
        have hdl := hd.length_le
        obtain ⟨yn, rfl⟩ := Int.eq_ofNat_of_zero_le hy0
        have hmy := hmk yn (by omega)
        show CW _ _ _ _ (over [(9, .int .i64 (yn : Int)), (8, .slice a8 acc.length c8)] _) w7
        repeat' (first | (refine k_indexN rfl rfl (hb67.sl.plain (by simp; omega)) (by omega) ?_) | (refine k_loadB rfl hb67.sl (by omega) ?_) | (refine k_pure rfl ?_) | (refine then_normal ?_) | (refine cw_seq ?_) | (refine cw_region rfl ?_) | (refine rr_nil ?_) | (refine k_len rfl ?_) | (refine g_run rfl rfl ?_) | (refine g_skip rfl rfl ?_) | (refine g_dec_f rfl rfl (fun hc => ?_) (fun hc => ?_)) | (refine g_dec_t rfl rfl (fun hc => ?_) (fun hc => ?_)) | (refine g_ndec_f rfl rfl (fun hc => ?_) (fun hc => ?_)) | (refine g_ndec_t rfl rfl (fun hc => ?_) (fun hc => ?_)) | (refine g_split rfl rfl (fun hc => ?_) (fun hc => ?_)) | (refine k_addI rfl rfl (by omega) (by omega) ?_) | (refine k_subI rfl rfl (by omega) (by omega) ?_) | (refine k_fieldAddr rfl ?_) | (refine k_eqlB rfl rfl ?_) | (refine k_neqB rfl rfl ?_) | (refine cw_cond_true rfl ?_) | (refine cw_cond_false rfl ?_) | (refine cw_cond_dec rfl (fun hc => ?_) (fun hc => ?_)) | (refine cw_cond_ndec rfl (fun hc => ?_) (fun hc => ?_)) | (refine cw_cond rfl (fun hc => ?_) (fun hc => ?_)) | (refine cw_block ?_) | (refine cw_exit ?_) | (refine then_exit ?_) | (refine in_exit ?_) | (refine in_exit_ne rfl ?_) | (refine in_normal ?_) | (refine cw_ret ?_) | (refine then_ret ?_) | (refine in_ret ?_) | (refine cw_skip ?_))
        · have hm7 : bs7.getD yn false = false := by simpa using hc
          have hny : ¬ ((yn : Int) ∈ acc) := by rw [hmy] at hm7; simpa using hm7
          have hd8 : Dist xs.length (acc ++ [(yn : Int)]) := good_snoc.2 ⟨hd, hy0, hy1, hny⟩
          have hdl8 := hd8.length_le
          simp only [List.length_append, List.length_singleton] at hdl8
          repeat' (first | (refine k_indexN rfl rfl (hb67.sl.plain (by simp; omega)) (by omega) ?_) | (refine k_pure rfl ?_) | (refine then_normal ?_) | (refine cw_seq ?_) | (refine cw_region rfl ?_) | (refine rr_nil ?_) | (refine k_len rfl ?_) | (refine g_run rfl rfl ?_) | (refine g_skip rfl rfl ?_) | (refine g_dec_f rfl rfl (fun hc => ?_) (fun hc => ?_)) | (refine g_dec_t rfl rfl (fun hc => ?_) (fun hc => ?_)) | (refine g_ndec_f rfl rfl (fun hc => ?_) (fun hc => ?_)) | (refine g_ndec_t rfl rfl (fun hc => ?_) (fun hc => ?_)) | (refine g_split rfl rfl (fun hc => ?_) (fun hc => ?_)) | (refine k_addI rfl rfl (by omega) (by omega) ?_) | (refine k_subI rfl rfl (by omega) (by omega) ?_) | (refine k_fieldAddr rfl ?_) | (refine k_eqlB rfl rfl ?_) | (refine k_neqB rfl rfl ?_) | (refine cw_cond_true rfl ?_) | (refine cw_cond_false rfl ?_) | (refine cw_cond_dec rfl (fun hc => ?_) (fun hc => ?_)) | (refine cw_cond_ndec rfl (fun hc => ?_) (fun hc => ?_)) | (refine cw_cond rfl (fun hc => ?_) (fun hc => ?_)) | (refine cw_block ?_) | (refine cw_exit ?_) | (refine then_exit ?_) | (refine in_exit ?_) | (refine in_exit_ne rfl ?_) | (refine in_normal ?_) | (refine cw_ret ?_) | (refine then_ret ?_) | (refine in_ret ?_) | (refine cw_skip ?_))
          refine k_storeB rfl rfl hb67 (by omega) (fun w8 hc8 hb68 => ⟨fun _ _ => trivial, ?_⟩)
          have s8 := hc8.size
          have hb58 := hb57.chg hc8 (by omega)
          have hE8 : Ex w w8 := hE7.chg hc8 (by omega)
          have hL8 := hL7.gb (gbC hc8) (by simp; omega)
          have hO8 := hO7.chg hc8 (fun ad e => by have := (hO7.lo ad e).1; omega)
          repeat' (first | (refine k_loadCA rfl hb58 (by simp [hS7.len]) ?_) | (refine k_pure rfl ?_) | (refine then_normal ?_) | (refine cw_seq ?_) | (refine cw_region rfl ?_) | (refine rr_nil ?_) | (refine k_len rfl ?_) | (refine g_run rfl rfl ?_) | (refine g_skip rfl rfl ?_) | (refine g_dec_f rfl rfl (fun hc => ?_) (fun hc => ?_)) | (refine g_dec_t rfl rfl (fun hc => ?_) (fun hc => ?_)) | (refine g_ndec_f rfl rfl (fun hc => ?_) (fun hc => ?_)) | (refine g_ndec_t rfl rfl (fun hc => ?_) (fun hc => ?_)) | (refine g_split rfl rfl (fun hc => ?_) (fun hc => ?_)) | (refine k_addI rfl rfl (by omega) (by omega) ?_) | (refine k_subI rfl rfl (by omega) (by omega) ?_) | (refine k_fieldAddr rfl ?_) | (refine k_eqlB rfl rfl ?_) | (refine k_neqB rfl rfl ?_) | (refine cw_cond_true rfl ?_) | (refine cw_cond_false rfl ?_) | (refine cw_cond_dec rfl (fun hc => ?_) (fun hc => ?_)) | (refine cw_cond_ndec rfl (fun hc => ?_) (fun hc => ?_)) | (refine cw_cond rfl (fun hc => ?_) (fun hc => ?_)) | (refine cw_block ?_) | (refine cw_exit ?_) | (refine then_exit ?_) | (refine in_exit ?_) | (refine in_exit_ne rfl ?_) | (refine in_normal ?_) | (refine cw_ret ?_) | (refine then_ret ?_) | (refine in_ret ?_) | (refine cw_skip ?_))
          refine k_call (with_spec hS7 _ (by omega) (by omega) _) rfl ?_
          rintro v w9 ⟨ws9, rfl, hS9, hE9⟩
          refine ⟨fun _ _ => trivial, ?_⟩
          have s9 := hE9.size
          refine k_storeV (n := 8) rfl rfl (by simp [hS9.len]) (all_one (fun _ => rfl) _) (hb58.ext hE9) (by simp [hS7.len]) (fun w10 hc10 hb510 => ⟨fun _ _ => trivial, ?_⟩)
          have s10 := hc10.size
          have hb610 := (hb68.ext hE9).chg hc10 (by omega)
          have hE10 : Ex w w10 := (hE8.trans hE9).chg hc10 (by omega)
          have hL10 := (hL8.ext hE9).gb (gbC hc10) (by simp; omega)
          have hO10 := (hO8.ext hE9).chg hc10 (fun ad e => by have := (hO7.lo ad e).1; omega)
          repeat' (first | (refine k_pure rfl ?_) | (refine then_normal ?_) | (refine cw_seq ?_) | (refine cw_region rfl ?_) | (refine rr_nil ?_) | (refine k_len rfl ?_) | (refine g_run rfl rfl ?_) | (refine g_skip rfl rfl ?_) | (refine g_dec_f rfl rfl (fun hc => ?_) (fun hc => ?_)) | (refine g_dec_t rfl rfl (fun hc => ?_) (fun hc => ?_)) | (refine g_ndec_f rfl rfl (fun hc => ?_) (fun hc => ?_)) | (refine g_ndec_t rfl rfl (fun hc => ?_) (fun hc => ?_)) | (refine g_split rfl rfl (fun hc => ?_) (fun hc => ?_)) | (refine k_addI rfl rfl (by omega) (by omega) ?_) | (refine k_subI rfl rfl (by omega) (by omega) ?_) | (refine k_fieldAddr rfl ?_) | (refine k_eqlB rfl rfl ?_) | (refine k_neqB rfl rfl ?_) | (refine cw_cond_true rfl ?_) | (refine cw_cond_false rfl ?_) | (refine cw_cond_dec rfl (fun hc => ?_) (fun hc => ?_)) | (refine cw_cond_ndec rfl (fun hc => ?_) (fun hc => ?_)) | (refine cw_cond rfl (fun hc => ?_) (fun hc => ?_)) | (refine cw_block ?_) | (refine cw_exit ?_) | (refine then_exit ?_) | (refine in_exit ?_) | (refine in_exit_ne rfl ?_) | (refine in_normal ?_) | (refine cw_ret ?_) | (refine then_ret ?_) | (refine in_ret ?_) | (refine cw_skip ?_))
          refine k_app1I rfl rfl rfl rfl hO10 (by omega) (by omega) (by omega) (fun gl a11 c11 w11 hO11 hg11 hA11 => ?_)
          have hE11 := hO10.grow_ex hg11 hE10 (by omega)
          have hgl : ∀ m, (Value.slice a8 acc.length c8).ownBlock = some m → w6.heap.size ≤ m := fun m e => by
            cases a8 with
            | none => simp [Value.ownBlock] at e
            | some ad => simp only [Value.ownBlock, Option.some.injEq] at e; have := (hO10.lo ad rfl).1; omega
          have hL11 : OwnLists w11 w3.heap.size 22 3 .i64 b c ss (cycGo xs k).2 :=
            ⟨hL10.top.gb hg11 (fun ad e e2 => by have := hgl _ e2; have := hU.1 ad e; omega), hL10.len, fun i hi => ⟨(hL10.each i hi).1.gb hg11 (fun ad e e2 => by have := hgl _ e2; have := hU.2 i (by omega) ad e; omega), (hL10.each i hi).2⟩, hL10.sep⟩
          have hb511 := hb510.gb hg11 (fun e => by have := hgl _ e; omega)
          have hb611 := hb610.gb hg11 (fun e => by have := hgl _ e; omega)
          have s11 := hg11.size
          have hx11 := hx.ext hE11
          have hnx := hP.lt (k := yn) (by omega)
          repeat' (first | (refine k_indexN rfl rfl (hx11.plain (by simp; omega)) (by omega) ?_) | (refine k_loadI rfl hx11 (by omega) ?_) | (refine k_pure rfl ?_) | (refine then_normal ?_) | (refine cw_seq ?_) | (refine cw_region rfl ?_) | (refine rr_nil ?_) | (refine k_len rfl ?_) | (refine g_run rfl rfl ?_) | (refine g_skip rfl rfl ?_) | (refine g_dec_f rfl rfl (fun hc => ?_) (fun hc => ?_)) | (refine g_dec_t rfl rfl (fun hc => ?_) (fun hc => ?_)) | (refine g_ndec_f rfl rfl (fun hc => ?_) (fun hc => ?_)) | (refine g_ndec_t rfl rfl (fun hc => ?_) (fun hc => ?_)) | (refine g_split rfl rfl (fun hc => ?_) (fun hc => ?_)) | (refine k_addI rfl rfl (by omega) (by omega) ?_) | (refine k_subI rfl rfl (by omega) (by omega) ?_) | (refine k_fieldAddr rfl ?_) | (refine k_eqlB rfl rfl ?_) | (refine k_neqB rfl rfl ?_) | (refine cw_cond_true rfl ?_) | (refine cw_cond_false rfl ?_) | (refine cw_cond_dec rfl (fun hc => ?_) (fun hc => ?_)) | (refine cw_cond_ndec rfl (fun hc => ?_) (fun hc => ?_)) | (refine cw_cond rfl (fun hc => ?_) (fun hc => ?_)) | (refine cw_block ?_) | (refine cw_exit ?_) | (refine then_exit ?_) | (refine in_exit ?_) | (refine in_exit_ne rfl ?_) | (refine in_normal ?_) | (refine cw_ret ?_) | (refine then_ret ?_) | (refine in_ret ?_) | (refine cw_skip ?_))
          refine ⟨⟨(xs.getD yn 0, acc ++ [(yn : Int)], a11, c11, ws9, bs7.set yn true), ⟨hnx, hd8, ?_, hE11, by omega, hb511, by simpa using hS9, hb611, by simpa using hbl7, ?_, hL11, by simpa using hO11⟩, by simp only [List.length_append, List.length_singleton]; omega, rfl, ?_, trivial⟩, (by (repeat (first | exact agree_mask _ _ _ | refine agree_upd rfl ?_ | refine agree_updO rfl ?_ | refine agree_overIn rfl ?_ | refine agree_maskIn rfl ?_)))⟩
          · rw [hf]
            have e1 : xs.length + 1 - acc.length = (xs.length - acc.length) + 1 := by omega
            rw [e1, followC, if_neg hny]
            simp
          · intro j hj
            have := hmk j hj
            simp only [List.getD_eq_getElem?_getD, List.getElem?_set] at this ⊢
            split
            · subst_vars; simp [hbl7, hj]
            · rename_i hne
              rw [this]
              have : ¬ ((j : Int) = (yn : Int)) := by omega
              simp [this]
          · simp only [List.length_append, List.length_singleton]; rfl
        · have hm7 : bs7.getD yn false = true := by simpa using hc
          have hny : (yn : Int) ∈ acc := by rw [hmy] at hm7; simpa using hm7
          have e1 : xs.length + 1 - acc.length = (xs.length - acc.length) + 1 := by omega
          have hfe : cyc xs k = acc := by rw [hf, e1, followC, if_pos hny]
          rw [hfe] at e
          repeat' (first | (refine k_pure rfl ?_) | (refine then_normal ?_) | (refine cw_seq ?_) | (refine cw_region rfl ?_) | (refine rr_nil ?_) | (refine k_len rfl ?_) | (refine g_run rfl rfl ?_) | (refine g_skip rfl rfl ?_) | (refine g_dec_f rfl rfl (fun hc => ?_) (fun hc => ?_)) | (refine g_dec_t rfl rfl (fun hc => ?_) (fun hc => ?_)) | (refine g_ndec_f rfl rfl (fun hc => ?_) (fun hc => ?_)) | (refine g_ndec_t rfl rfl (fun hc => ?_) (fun hc => ?_)) | (refine g_split rfl rfl (fun hc => ?_) (fun hc => ?_)) | (refine k_addI rfl rfl (by omega) (by omega) ?_) | (refine k_subI rfl rfl (by omega) (by omega) ?_) | (refine k_fieldAddr rfl ?_) | (refine k_eqlB rfl rfl ?_) | (refine k_neqB rfl rfl ?_) | (refine cw_cond_true rfl ?_) | (refine cw_cond_false rfl ?_) | (refine cw_cond_dec rfl (fun hc => ?_) (fun hc => ?_)) | (refine cw_cond_ndec rfl (fun hc => ?_) (fun hc => ?_)) | (refine cw_cond rfl (fun hc => ?_) (fun hc => ?_)) | (refine cw_block ?_) | (refine cw_exit ?_) | (refine then_exit ?_) | (refine in_exit ?_) | (refine in_exit_ne rfl ?_) | (refine in_normal ?_) | (refine cw_ret ?_) | (refine then_ret ?_) | (refine in_ret ?_) | (refine cw_skip ?_))
          refine k_app1S rfl rfl rfl rfl hL7.top (by omega) (by omega) (by omega) (fun gl b9 c9 w9 hO9 hg9 hA9 => ?_)
          have hsep : ∀ ad ad', b = some ad → a8 = some ad' → ad.block ≠ ad'.block := fun ad ad' e e' => by have := hU.1 ad e; have := (hO7.lo ad' e').1; omega
          have hL9 := hL7.snoc (hO7.mono (by omega)) hsep hO9 hg9 hA9
          have hne8 : ∀ mm, (Value.slice b ss.length c).ownBlock = some mm → w3.heap.size ≤ mm := fun mm hm => by
            cases b with
            | none => simp [Value.ownBlock] at hm
            | some ad => simp only [Value.ownBlock, Option.some.injEq] at hm; have := (hL7.top.lo ad rfl).1; omega
          repeat' (first | (refine k_pure rfl ?_) | (refine then_normal ?_) | (refine cw_seq ?_) | (refine cw_region rfl ?_) | (refine rr_nil ?_) | (refine k_len rfl ?_) | (refine g_run rfl rfl ?_) | (refine g_skip rfl rfl ?_) | (refine g_dec_f rfl rfl (fun hc => ?_) (fun hc => ?_)) | (refine g_dec_t rfl rfl (fun hc => ?_) (fun hc => ?_)) | (refine g_ndec_f rfl rfl (fun hc => ?_) (fun hc => ?_)) | (refine g_ndec_t rfl rfl (fun hc => ?_) (fun hc => ?_)) | (refine g_split rfl rfl (fun hc => ?_) (fun hc => ?_)) | (refine k_addI rfl rfl (by omega) (by omega) ?_) | (refine k_subI rfl rfl (by omega) (by omega) ?_) | (refine k_fieldAddr rfl ?_) | (refine k_eqlB rfl rfl ?_) | (refine k_neqB rfl rfl ?_) | (refine cw_cond_true rfl ?_) | (refine cw_cond_false rfl ?_) | (refine cw_cond_dec rfl (fun hc => ?_) (fun hc => ?_)) | (refine cw_cond_ndec rfl (fun hc => ?_) (fun hc => ?_)) | (refine cw_cond rfl (fun hc => ?_) (fun hc => ?_)) | (refine cw_block ?_) | (refine cw_exit ?_) | (refine then_exit ?_) | (refine in_exit ?_) | (refine in_exit_ne rfl ?_) | (refine in_normal ?_) | (refine cw_ret ?_) | (refine then_ret ?_) | (refine in_ret ?_) | (refine cw_skip ?_))
          refine ⟨⟨(k + 1, b9, c9, ss ++ [⟨a8, acc.length, c8⟩], ws7, bs7), ⟨by simp only; omega, hL7.grow_ex hg9 hE7 (by omega), by have := hg9.size; omega, hb57.gb hg9 (fun e => by have := hne8 _ e; omega), by simp only [e]; exact hS7, hb67.gb hg9 (fun e => by have := hne8 _ e; omega), hbl7, by simp only [e]; exact hL9⟩, by simp only; omega, rfl, ?_, trivial⟩, (by (repeat (first | exact agree_mask _ _ _ | refine agree_upd rfl ?_ | refine agree_updO rfl ?_ | refine agree_overIn rfl ?_ | refine agree_maskIn rfl ?_)))⟩
          simp only [List.length_append, List.length_singleton]; rfl
      · have e : cycGo xs (k + 1) = cycGo xs k := by rw [cycGo, if_pos (.inl hc)]
        exact ⟨⟨(k + 1, b, c, ss, ws, bs), ⟨by simp only; omega, hE4.trans hE5, by have := hE5.size; omega, hb5.ext hE5, by simp only [e]; exact hS, hb6.ext hE5, hbl, by simp only [e]; exact hL.ext hE5⟩, by simp only; omega, rfl, rfl, trivial⟩, (by (repeat (first | exact agree_mask _ _ _ | refine agree_upd rfl ?_ | refine agree_updO rfl ?_ | refine agree_overIn rfl ?_ | refine agree_maskIn rfl ?_)))⟩
    · obtain rfl : k = xs.length := by omega
      refine ret2 rfl (rt rfl) (rt rfl) ?_
      have hof : cyclesF xs = (cycGo xs xs.length).2 := by rw [cyclesF, if_pos hP]
      rw [hof, decide_eq_true hP]
      exact ⟨b, c, ss, rfl, hL.mono (by omega), hE4⟩
end Go.Proofs.Ytmedmmginnfjgaa
