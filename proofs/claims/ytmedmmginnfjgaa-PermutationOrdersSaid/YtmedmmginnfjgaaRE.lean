import Derived.Test.YtmedmmginnfjgaaRD
namespace Go.Proofs.Ytmedmmginnfjgaa
open Go.W Go.LM Go.PM

theorem refOrder_spec {xs : List Int} {a : Option Addr} {w : World} (hx : Sl w a (intsL xs)) (cap : Nat) (hne : ∀ k, k < (cyclesF xs).length → 1 ≤ ((cyclesF xs).getD k []).length) (hlt : ∀ k, ordTo (cyclesF xs) k < 18446744073709551616) :
    CallsR Try.prog 24 #[.slice a xs.length cap] w fun v w' =>
      ∃ n, v = .tuple #[n, .bool (decide (IsPerm xs))] ∧ IntC w.heap.size w' n (if IsPerm xs then orderF xs else 0) ∧ Ex w w' := by
  refine callsR_of (args := [_]) Try.func24 rfl rfl ?_
  repeat' (first | (refine k_alloc (fun g2 w1 hn1 => ⟨fun _ _ => trivial, ?_⟩)) | (refine k_pure rfl ?_) | (refine then_normal ?_) | (refine cw_seq ?_) | (refine cw_region rfl ?_) | (refine rr_nil ?_) | (refine k_len rfl ?_) | (refine g_run rfl rfl ?_) | (refine g_skip rfl rfl ?_) | (refine g_dec_f rfl rfl (fun hc => ?_) (fun hc => ?_)) | (refine g_dec_t rfl rfl (fun hc => ?_) (fun hc => ?_)) | (refine g_ndec_f rfl rfl (fun hc => ?_) (fun hc => ?_)) | (refine g_ndec_t rfl rfl (fun hc => ?_) (fun hc => ?_)) | (refine g_split rfl rfl (fun hc => ?_) (fun hc => ?_)) | (refine k_addI rfl rfl (by omega) (by omega) ?_) | (refine k_subI rfl rfl (by omega) (by omega) ?_) | (refine k_fieldAddr rfl ?_) | (refine k_eqlB rfl rfl ?_) | (refine k_neqB rfl rfl ?_) | (refine cw_cond_true rfl ?_) | (refine cw_cond_false rfl ?_) | (refine cw_cond_dec rfl (fun hc => ?_) (fun hc => ?_)) | (refine cw_cond_ndec rfl (fun hc => ?_) (fun hc => ?_)) | (refine cw_cond rfl (fun hc => ?_) (fun hc => ?_)) | (refine cw_block ?_) | (refine cw_exit ?_) | (refine then_exit ?_) | (refine in_exit ?_) | (refine in_exit_ne rfl ?_) | (refine in_normal ?_) | (refine cw_ret ?_) | (refine then_ret ?_) | (refine in_ret ?_) | (refine cw_skip ?_))
  refine k_call (refCycles_spec (hx.ext hn1.ex) _) rfl ?_
  rintro v w2 ⟨b, c, sds, rfl, hL2, hE2⟩
  refine ⟨fun _ _ => trivial, ?_⟩
  have l1 := hn1.lo
  have l2 := hn1.hi
  have l3 := hE2.size
  have hb2 := hn1.blk.ext hE2
  repeat' (first | (refine k_pure rfl ?_) | (refine then_normal ?_) | (refine cw_seq ?_) | (refine cw_region rfl ?_) | (refine rr_nil ?_) | (refine k_len rfl ?_) | (refine g_run rfl rfl ?_) | (refine g_skip rfl rfl ?_) | (refine g_dec_f rfl rfl (fun hc => ?_) (fun hc => ?_)) | (refine g_dec_t rfl rfl (fun hc => ?_) (fun hc => ?_)) | (refine g_ndec_f rfl rfl (fun hc => ?_) (fun hc => ?_)) | (refine g_ndec_t rfl rfl (fun hc => ?_) (fun hc => ?_)) | (refine g_split rfl rfl (fun hc => ?_) (fun hc => ?_)) | (refine k_addI rfl rfl (by omega) (by omega) ?_) | (refine k_subI rfl rfl (by omega) (by omega) ?_) | (refine k_fieldAddr rfl ?_) | (refine k_eqlB rfl rfl ?_) | (refine k_neqB rfl rfl ?_) | (refine cw_cond_true rfl ?_) | (refine cw_cond_false rfl ?_) | (refine cw_cond_dec rfl (fun hc => ?_) (fun hc => ?_)) | (refine cw_cond_ndec rfl (fun hc => ?_) (fun hc => ?_)) | (refine cw_cond rfl (fun hc => ?_) (fun hc => ?_)) | (refine cw_block ?_) | (refine cw_exit ?_) | (refine then_exit ?_) | (refine in_exit ?_) | (refine in_exit_ne rfl ?_) | (refine in_normal ?_) | (refine cw_ret ?_) | (refine then_ret ?_) | (refine in_ret ?_) | (refine cw_skip ?_))
  · refine k_build (cs := intL false none 0 0) rfl ?_
    repeat' (first | (refine k_pure rfl ?_) | (refine then_normal ?_) | (refine cw_seq ?_) | (refine cw_region rfl ?_) | (refine rr_nil ?_) | (refine k_len rfl ?_) | (refine g_run rfl rfl ?_) | (refine g_skip rfl rfl ?_) | (refine g_dec_f rfl rfl (fun hc => ?_) (fun hc => ?_)) | (refine g_dec_t rfl rfl (fun hc => ?_) (fun hc => ?_)) | (refine g_ndec_f rfl rfl (fun hc => ?_) (fun hc => ?_)) | (refine g_ndec_t rfl rfl (fun hc => ?_) (fun hc => ?_)) | (refine g_split rfl rfl (fun hc => ?_) (fun hc => ?_)) | (refine k_addI rfl rfl (by omega) (by omega) ?_) | (refine k_subI rfl rfl (by omega) (by omega) ?_) | (refine k_fieldAddr rfl ?_) | (refine k_eqlB rfl rfl ?_) | (refine k_neqB rfl rfl ?_) | (refine cw_cond_true rfl ?_) | (refine cw_cond_false rfl ?_) | (refine cw_cond_dec rfl (fun hc => ?_) (fun hc => ?_)) | (refine cw_cond_ndec rfl (fun hc => ?_) (fun hc => ?_)) | (refine cw_cond rfl (fun hc => ?_) (fun hc => ?_)) | (refine cw_block ?_) | (refine cw_exit ?_) | (refine then_exit ?_) | (refine in_exit ?_) | (refine in_exit_ne rfl ?_) | (refine in_normal ?_) | (refine cw_ret ?_) | (refine then_ret ?_) | (refine in_ret ?_) | (refine cw_skip ?_))
    refine k_storeV (n := 2) rfl rfl rfl rfl hb2 rfl (fun w3 hc3 hb3 => ⟨fun _ _ => trivial, ?_⟩)
    repeat' (first | (refine k_pure rfl ?_) | (refine then_normal ?_) | (refine cw_seq ?_) | (refine cw_region rfl ?_) | (refine rr_nil ?_) | (refine k_len rfl ?_) | (refine g_run rfl rfl ?_) | (refine g_skip rfl rfl ?_) | (refine g_dec_f rfl rfl (fun hc => ?_) (fun hc => ?_)) | (refine g_dec_t rfl rfl (fun hc => ?_) (fun hc => ?_)) | (refine g_ndec_f rfl rfl (fun hc => ?_) (fun hc => ?_)) | (refine g_ndec_t rfl rfl (fun hc => ?_) (fun hc => ?_)) | (refine g_split rfl rfl (fun hc => ?_) (fun hc => ?_)) | (refine k_addI rfl rfl (by omega) (by omega) ?_) | (refine k_subI rfl rfl (by omega) (by omega) ?_) | (refine k_fieldAddr rfl ?_) | (refine k_eqlB rfl rfl ?_) | (refine k_neqB rfl rfl ?_) | (refine cw_cond_true rfl ?_) | (refine cw_cond_false rfl ?_) | (refine cw_cond_dec rfl (fun hc => ?_) (fun hc => ?_)) | (refine cw_cond_ndec rfl (fun hc => ?_) (fun hc => ?_)) | (refine cw_cond rfl (fun hc => ?_) (fun hc => ?_)) | (refine cw_block ?_) | (refine cw_exit ?_) | (refine then_exit ?_) | (refine in_exit ?_) | (refine in_exit_ne rfl ?_) | (refine in_normal ?_) | (refine cw_ret ?_) | (refine then_ret ?_) | (refine in_ret ?_) | (refine cw_skip ?_))
    refine ret2 rfl (rc rfl rfl hb3) (rt rfl) ?_
    rw [if_neg hc, decide_eq_false hc]
    exact ⟨_, rfl, IntC.zero _ _, (hn1.ex.trans hE2).chg hc3 (by omega)⟩
  · refine k_call (refSmall_spec (by omega) (by omega) _) rfl ?_
    rintro v w3 ⟨hz3, hE3⟩
    refine ⟨fun _ _ => trivial, ?_⟩
    obtain ⟨cs0, rfl, hl0, ho0⟩ := hz3.out
    refine k_alloc (fun g6 w4 hn4 => ⟨fun _ _ => trivial, ?_⟩)
    refine k_storeV (n := 2) rfl rfl hl0 ho0 hn4.blk rfl (fun w5 hc5 hb5 => ⟨fun _ _ => trivial, ?_⟩)
    have l4 := hE3.size
    have l5 := hn4.lo
    have l6 := hn4.hi
    have l7 := hc5.size
    have hE5 : Ex w2 w5 := (hE3.trans hn4.ex).chg hc5 (by omega)
    have hoff5 := hz3.off_hi hn4.lo
    have hz5 := (hz3.ext hn4.ex).chgO hc5 hoff5
    have hlen := hL2.len
    have hL2' := hL2.lists
    have hbl : (cyclesF xs).length ≤ 512 ∧ ∀ i, ((cyclesF xs).getD i []).length ≤ 512 := by
      rw [cyclesF, if_pos hc]
      have h1 := cycGo_len hc xs.length (Nat.le_refl _)
      have h2 : xs.length ≤ 512 := hc.2.1
      exact ⟨by omega, fun i => by have := h1.2 i; omega⟩
    have hP := hc
    repeat' (first | (refine k_pure rfl ?_) | (refine then_normal ?_) | (refine cw_seq ?_) | (refine cw_region rfl ?_) | (refine rr_nil ?_) | (refine k_len rfl ?_) | (refine g_run rfl rfl ?_) | (refine g_skip rfl rfl ?_) | (refine g_dec_f rfl rfl (fun hc => ?_) (fun hc => ?_)) | (refine g_dec_t rfl rfl (fun hc => ?_) (fun hc => ?_)) | (refine g_ndec_f rfl rfl (fun hc => ?_) (fun hc => ?_)) | (refine g_ndec_t rfl rfl (fun hc => ?_) (fun hc => ?_)) | (refine g_split rfl rfl (fun hc => ?_) (fun hc => ?_)) | (refine k_addI rfl rfl (by omega) (by omega) ?_) | (refine k_subI rfl rfl (by omega) (by omega) ?_) | (refine k_fieldAddr rfl ?_) | (refine k_eqlB rfl rfl ?_) | (refine k_neqB rfl rfl ?_) | (refine cw_cond_true rfl ?_) | (refine cw_cond_false rfl ?_) | (refine cw_cond_dec rfl (fun hc => ?_) (fun hc => ?_)) | (refine cw_cond_ndec rfl (fun hc => ?_) (fun hc => ?_)) | (refine cw_cond rfl (fun hc => ?_) (fun hc => ?_)) | (refine cw_block ?_) | (refine cw_exit ?_) | (refine then_exit ?_) | (refine in_exit ?_) | (refine in_exit_ne rfl ?_) | (refine in_normal ?_) | (refine cw_ret ?_) | (refine then_ret ?_) | (refine in_ret ?_) | (refine cw_skip ?_))
    refine cw_loop (ι := Nat × List Value) [8, 9, 21, 22, 23, 24, 25, 26, 27, 28, 29, 30, 31, 32, 33, 34, 35] (fun s => [(21, .int .i64 (s.1 : Int))])
      (fun s w' => s.1 ≤ sds.length ∧ Ex w2 w' ∧ Blk w' g6 34 s.2 ∧ s.2.length = 2 ∧ s.2.all Value.oneCell' = true ∧ IntC w2.heap.size w' (.agg s.2.toArray) (ordTo (cyclesF xs) s.1) ∧ Off g6 (.agg s.2.toArray)) (fun s => sds.length - s.1)
      (0, cs0) ⟨rfl, trivial⟩ ⟨by simp, hE5, hb5, hl0, ho0, hz5, hoff5⟩ ?_
    rintro ⟨k, cs⟩ ξ w6 ⟨hk, hE6, hb6, hl6, ho6, hz6, hoff6⟩
    simp only at hk hE6 hb6 hl6 ho6 hz6 hoff6
    have hL6 := hL2'.ext hE6
    show CW _ _ _ _ (over [(21, .int .i64 (k : Int))] _) w6
    repeat' (first | (refine k_indexN rfl rfl (hL6.sl.plain (by simp; omega)) (by omega) ?_) | (refine k_loadS rfl hL6.sl (by omega) ?_) | (refine k_pure rfl ?_) | (refine then_normal ?_) | (refine cw_seq ?_) | (refine cw_region rfl ?_) | (refine rr_nil ?_) | (refine k_len rfl ?_) | (refine g_run rfl rfl ?_) | (refine g_skip rfl rfl ?_) | (refine g_dec_f rfl rfl (fun hc => ?_) (fun hc => ?_)) | (refine g_dec_t rfl rfl (fun hc => ?_) (fun hc => ?_)) | (refine g_ndec_f rfl rfl (fun hc => ?_) (fun hc => ?_)) | (refine g_ndec_t rfl rfl (fun hc => ?_) (fun hc => ?_)) | (refine g_split rfl rfl (fun hc => ?_) (fun hc => ?_)) | (refine k_addI rfl rfl (by omega) (by omega) ?_) | (refine k_subI rfl rfl (by omega) (by omega) ?_) | (refine k_fieldAddr rfl ?_) | (refine k_eqlB rfl rfl ?_) | (refine k_neqB rfl rfl ?_) | (refine cw_cond_true rfl ?_) | (refine cw_cond_false rfl ?_) | (refine cw_cond_dec rfl (fun hc => ?_) (fun hc => ?_)) | (refine cw_cond_ndec rfl (fun hc => ?_) (fun hc => ?_)) | (refine cw_cond rfl (fun hc => ?_) (fun hc => ?_)) | (refine cw_block ?_) | (refine cw_exit ?_) | (refine then_exit ?_) | (refine in_exit ?_) | (refine in_exit_ne rfl ?_) | (refine in_normal ?_) | (refine cw_ret ?_) | (refine then_ret ?_) | (refine in_ret ?_) | (refine cw_skip ?_))
    · have hkl : k < (cyclesF xs).length := by omega
      have hle := (hL6.each k hkl).2
      have hlk := hbl.2 k
      have hlp := hne k hkl
      have hgo := hlt k
      have hgs := hlt (k + 1)
      rw [ordTo] at hgs
      generalize hln : ((cyclesF xs).getD k []).length = len at *
      generalize hod : ordTo (cyclesF xs) k = od at *
      rw [hle]
      refine k_call (refSmall_spec (by omega) (by omega) _) rfl ?_
      rintro v w7 ⟨hz7, hE7⟩
      refine ⟨fun _ _ => trivial, ?_⟩
      obtain ⟨cs9, rfl, hl9, ho9⟩ := hz7.out
      refine k_alloc (fun g9 w8 hn8 => ⟨fun _ _ => trivial, ?_⟩)
      refine k_storeV (n := 2) rfl rfl hl9 ho9 hn8.blk rfl (fun w9 hc9 hb9 => ⟨fun _ _ => trivial, ?_⟩)
      have m1 := hE7.size
      have m2 := hn8.lo
      have m3 := hn8.hi
      have m4 := hc9.size
      have m5 := hb6.lt
      have m6 := hE6.size
      have hE9 : Ex w2 w9 := ((hE6.trans hE7).trans hn8.ex).chg hc9 (by omega)
      have hb69 := ((hb6.ext hE7).ext hn8.ex).chg hc9 (by omega)
      have hz9 := (((hz7.ext hn8.ex).chgO hc9 (hz7.off_hi hn8.lo))).mono (lo' := w2.heap.size) (by omega)
      have hz69 := ((hz6.ext hE7).ext hn8.ex).chgO hc9 (fun e => by have := (hz6.lo e).2; omega)
      have hdv : 0 < Nat.gcd od len := Nat.gcd_pos_of_pos_right _ (by omega)
      have hdl : Nat.gcd od len ≤ len := Nat.le_of_dvd (by omega) (Nat.gcd_dvd_right _ _)
      have hEx : Ex w9 w9.drew := (Ex.refl w9).drew
      repeat' (first | (refine k_pure rfl ?_) | (refine then_normal ?_) | (refine cw_seq ?_) | (refine cw_region rfl ?_) | (refine rr_nil ?_) | (refine k_len rfl ?_) | (refine g_run rfl rfl ?_) | (refine g_skip rfl rfl ?_) | (refine g_dec_f rfl rfl (fun hc => ?_) (fun hc => ?_)) | (refine g_dec_t rfl rfl (fun hc => ?_) (fun hc => ?_)) | (refine g_ndec_f rfl rfl (fun hc => ?_) (fun hc => ?_)) | (refine g_ndec_t rfl rfl (fun hc => ?_) (fun hc => ?_)) | (refine g_split rfl rfl (fun hc => ?_) (fun hc => ?_)) | (refine k_addI rfl rfl (by omega) (by omega) ?_) | (refine k_subI rfl rfl (by omega) (by omega) ?_) | (refine k_fieldAddr rfl ?_) | (refine k_eqlB rfl rfl ?_) | (refine k_neqB rfl rfl ?_) | (refine cw_cond_true rfl ?_) | (refine cw_cond_false rfl ?_) | (refine cw_cond_dec rfl (fun hc => ?_) (fun hc => ?_)) | (refine cw_cond_ndec rfl (fun hc => ?_) (fun hc => ?_)) | (refine cw_cond rfl (fun hc => ?_) (fun hc => ?_)) | (refine cw_block ?_) | (refine cw_exit ?_) | (refine then_exit ?_) | (refine in_exit ?_) | (refine in_exit_ne rfl ?_) | (refine in_normal ?_) | (refine cw_ret ?_) | (refine then_ret ?_) | (refine in_ret ?_) | (refine cw_skip ?_))
      refine cw_draw (late := [7]) (plan := [(0, none), (1, none), (2, none), (3, none), (4, some true), (5, some true), (6, some true), (7, some false)]) (fun w' => Ex w9 w') mixed (by kernel_rfl) hEx ?_
      repeat' (first | (refine k_loadCA rfl (fun _ h => hb9.ext h) hl9 ?_) | (refine k_loadCA rfl (fun _ h => hb69.ext h) hl6 ?_) | (refine k_pure rfl ?_) | (refine then_normal ?_) | (refine cw_seq ?_) | (refine cw_region rfl ?_) | (refine rr_nil ?_) | (refine k_len rfl ?_) | (refine g_run rfl rfl ?_) | (refine g_skip rfl rfl ?_) | (refine g_dec_f rfl rfl (fun hc => ?_) (fun hc => ?_)) | (refine g_dec_t rfl rfl (fun hc => ?_) (fun hc => ?_)) | (refine g_ndec_f rfl rfl (fun hc => ?_) (fun hc => ?_)) | (refine g_ndec_t rfl rfl (fun hc => ?_) (fun hc => ?_)) | (refine g_split rfl rfl (fun hc => ?_) (fun hc => ?_)) | (refine k_addI rfl rfl (by omega) (by omega) ?_) | (refine k_subI rfl rfl (by omega) (by omega) ?_) | (refine k_fieldAddr rfl ?_) | (refine k_eqlB rfl rfl ?_) | (refine k_neqB rfl rfl ?_) | (refine cw_cond_true rfl ?_) | (refine cw_cond_false rfl ?_) | (refine cw_cond_dec rfl (fun hc => ?_) (fun hc => ?_)) | (refine cw_cond_ndec rfl (fun hc => ?_) (fun hc => ?_)) | (refine cw_cond rfl (fun hc => ?_) (fun hc => ?_)) | (refine cw_block ?_) | (refine cw_exit ?_) | (refine then_exit ?_) | (refine in_exit ?_) | (refine in_exit_ne rfl ?_) | (refine in_normal ?_) | (refine cw_ret ?_) | (refine then_ret ?_) | (refine in_ret ?_) | (refine cw_skip ?_))
      refine k_call (refGcd_small (hz69.ext hEx) (hz9.ext hEx) (by omega) (by omega)) rfl ?_
      rintro v3 w10 ⟨hz10, hE10⟩
      refine ⟨fun _ h => h.trans hE10, ?_⟩
      refine k_call (refQuo_small (hz9.ext (hEx.trans hE10)) hz10 (by omega) hdv (by omega)) rfl ?_
      rintro v4 w11 ⟨hz11, hE11⟩
      refine ⟨fun _ h => h.trans hE11, ?_⟩
      have hqb : len / Nat.gcd od len < 18446744073709551616 := Nat.lt_of_le_of_lt (Nat.div_le_self _ _) (by omega)
      refine k_call (refMul_spec (p := 2) (q := 2) (hz69.ext ((hEx.trans hE10).trans hE11)) hz11 (by simp only [Int.natAbs_natCast]; omega) (by simp only [Int.natAbs_natCast]; omega) (by omega)) rfl ?_
      rintro v5 w12 ⟨hz12, hE12⟩
      refine ⟨fun _ h => h.trans hE12, ?_⟩
      obtain ⟨ps, rfl, hpl, hpo⟩ := hz12.out
      have hE912 : Ex w9 w12 := ((hEx.trans hE10).trans hE11).trans hE12
      have m7 := ((hEx.trans hE10).trans hE11).size
      refine k_storeV (n := 2) rfl rfl hpl hpo (hb69.ext hE912) hl6 (fun w13 hc13 hb13 => ⟨fun h => absurd h (by decide), ?_⟩)
      have hoff : Off g6 (.agg ps.toArray) := hz12.off_lo (by omega)
      repeat' (first | (refine k_pure rfl ?_) | (refine then_normal ?_) | (refine cw_seq ?_) | (refine cw_region rfl ?_) | (refine rr_nil ?_) | (refine k_len rfl ?_) | (refine g_run rfl rfl ?_) | (refine g_skip rfl rfl ?_) | (refine g_dec_f rfl rfl (fun hc => ?_) (fun hc => ?_)) | (refine g_dec_t rfl rfl (fun hc => ?_) (fun hc => ?_)) | (refine g_ndec_f rfl rfl (fun hc => ?_) (fun hc => ?_)) | (refine g_ndec_t rfl rfl (fun hc => ?_) (fun hc => ?_)) | (refine g_split rfl rfl (fun hc => ?_) (fun hc => ?_)) | (refine k_addI rfl rfl (by omega) (by omega) ?_) | (refine k_subI rfl rfl (by omega) (by omega) ?_) | (refine k_fieldAddr rfl ?_) | (refine k_eqlB rfl rfl ?_) | (refine k_neqB rfl rfl ?_) | (refine cw_cond_true rfl ?_) | (refine cw_cond_false rfl ?_) | (refine cw_cond_dec rfl (fun hc => ?_) (fun hc => ?_)) | (refine cw_cond_ndec rfl (fun hc => ?_) (fun hc => ?_)) | (refine cw_cond rfl (fun hc => ?_) (fun hc => ?_)) | (refine cw_block ?_) | (refine cw_exit ?_) | (refine then_exit ?_) | (refine in_exit ?_) | (refine in_exit_ne rfl ?_) | (refine in_normal ?_) | (refine cw_ret ?_) | (refine then_ret ?_) | (refine in_ret ?_) | (refine cw_skip ?_))
      refine ⟨⟨(k + 1, ps), ⟨by simp only; omega, (hE9.trans hE912).chg hc13 (by omega), hb13, hpl, hpo, ?_, hoff⟩, by simp only; omega, rfl, trivial⟩, (by (repeat (first | exact agree_mask _ _ _ | refine agree_upd rfl ?_ | refine agree_updO rfl ?_ | refine agree_overIn rfl ?_ | refine agree_maskIn rfl ?_)))⟩
      simp only
      rw [ordTo, hod, hln, Int.natCast_mul]
      exact (hz12.chgO hc13 hoff).mono (by omega)
    · have hkl : k = sds.length := by omega
      repeat' (first | (refine k_loadCA rfl hb6 hl6 ?_) | (refine k_pure rfl ?_) | (refine then_normal ?_) | (refine cw_seq ?_) | (refine cw_region rfl ?_) | (refine rr_nil ?_) | (refine k_len rfl ?_) | (refine g_run rfl rfl ?_) | (refine g_skip rfl rfl ?_) | (refine g_dec_f rfl rfl (fun hc => ?_) (fun hc => ?_)) | (refine g_dec_t rfl rfl (fun hc => ?_) (fun hc => ?_)) | (refine g_ndec_f rfl rfl (fun hc => ?_) (fun hc => ?_)) | (refine g_ndec_t rfl rfl (fun hc => ?_) (fun hc => ?_)) | (refine g_split rfl rfl (fun hc => ?_) (fun hc => ?_)) | (refine k_addI rfl rfl (by omega) (by omega) ?_) | (refine k_subI rfl rfl (by omega) (by omega) ?_) | (refine k_fieldAddr rfl ?_) | (refine k_eqlB rfl rfl ?_) | (refine k_neqB rfl rfl ?_) | (refine cw_cond_true rfl ?_) | (refine cw_cond_false rfl ?_) | (refine cw_cond_dec rfl (fun hc => ?_) (fun hc => ?_)) | (refine cw_cond_ndec rfl (fun hc => ?_) (fun hc => ?_)) | (refine cw_cond rfl (fun hc => ?_) (fun hc => ?_)) | (refine cw_block ?_) | (refine cw_exit ?_) | (refine then_exit ?_) | (refine in_exit ?_) | (refine in_exit_ne rfl ?_) | (refine in_normal ?_) | (refine cw_ret ?_) | (refine then_ret ?_) | (refine in_ret ?_) | (refine cw_skip ?_))
      have hb26 := hb2.ext hE6
      refine k_storeV (n := 2) rfl rfl hl6 ho6 hb26 rfl (fun w7 hc7 hb7 => ⟨fun _ _ => trivial, ?_⟩)
      repeat' (first | (refine k_pure rfl ?_) | (refine then_normal ?_) | (refine cw_seq ?_) | (refine cw_region rfl ?_) | (refine rr_nil ?_) | (refine k_len rfl ?_) | (refine g_run rfl rfl ?_) | (refine g_skip rfl rfl ?_) | (refine g_dec_f rfl rfl (fun hc => ?_) (fun hc => ?_)) | (refine g_dec_t rfl rfl (fun hc => ?_) (fun hc => ?_)) | (refine g_ndec_f rfl rfl (fun hc => ?_) (fun hc => ?_)) | (refine g_ndec_t rfl rfl (fun hc => ?_) (fun hc => ?_)) | (refine g_split rfl rfl (fun hc => ?_) (fun hc => ?_)) | (refine k_addI rfl rfl (by omega) (by omega) ?_) | (refine k_subI rfl rfl (by omega) (by omega) ?_) | (refine k_fieldAddr rfl ?_) | (refine k_eqlB rfl rfl ?_) | (refine k_neqB rfl rfl ?_) | (refine cw_cond_true rfl ?_) | (refine cw_cond_false rfl ?_) | (refine cw_cond_dec rfl (fun hc => ?_) (fun hc => ?_)) | (refine cw_cond_ndec rfl (fun hc => ?_) (fun hc => ?_)) | (refine cw_cond rfl (fun hc => ?_) (fun hc => ?_)) | (refine cw_block ?_) | (refine cw_exit ?_) | (refine then_exit ?_) | (refine in_exit ?_) | (refine in_exit_ne rfl ?_) | (refine in_normal ?_) | (refine cw_ret ?_) | (refine then_ret ?_) | (refine in_ret ?_) | (refine cw_skip ?_))
      refine ret2 rfl (rc rfl hl6 hb7) (rt rfl) ?_
      rw [if_pos hP, decide_eq_true hP]
      refine ⟨_, rfl, ?_, ((hn1.ex.trans hE2).trans hE6).chg hc7 (by omega)⟩
      have : orderF xs = ordTo (cyclesF xs) k := by rw [orderF, hkl, hlen]
      rw [this]
      exact (hz6.chgO hc7 (fun e => by have := (hz6.lo e).1; omega)).mono (by omega)
end Go.Proofs.Ytmedmmginnfjgaa
