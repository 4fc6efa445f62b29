
import Derived.Test.YthhfjagnmhhapaaA01
import Derived.Test.YthhfjagnmhhapaaA02
import Derived.Test.YthhfjagnmhhapaaA03
import Derived.Test.YthhfjagnmhhapaaA04
import Derived.Test.YthhfjagnmhhapaaA05
import Derived.Test.YthhfjagnmhhapaaA06
import Derived.Test.YthhfjagnmhhapaaA07
import Derived.Test.YthhfjagnmhhapaaA08
import Derived.Test.YthhfjagnmhhapaaA13
import Derived.Test.YthhfjagnmhhapaaA16
import Derived.Test.YthhfjagnmhhapaaA17
import Derived.Test.YthhfjagnmhhapaaA18
import Derived.Test.YthhfjagnmhhapaaA19
import Derived.Test.YthhfjagnmhhapaaA21
import Derived.Test.YthhfjagnmhhapaaA22
import Derived.Test.YthhfjagnmhhapaaA32
import Derived.Test.YthhfjagnmhhapaaA33

namespace Go.Proofs.Ythhfjagnmhhapaa
open Go.W Go.PM Go.LM
theorem refDivides_small {lo lo' : Nat} {v1 v2 : Value} {x y : Nat} {w : World} (h1 : IntC lo w v1 x) (h2 : IntC lo' w v2 y) (hx : 0 < x) (hx2 : x < 18446744073709551616) (hy : y < 18446744073709551616) :
    CallsR Try.prog 29 #[v1, v2] w fun v w' => v = .bool (decide (y % x = 0)) ∧ Ex w w' := by
  obtain ⟨cs1, rfl, hl1, ho1⟩ := h1.out
  obtain ⟨cs2, rfl, hl2, ho2⟩ := h2.out
  refine callsR_of (args := [_, _]) Try.func29 rfl rfl ?_
  refine cw_seq ?_
  refine cw_region rfl ?_
  refine k_boxA rfl (fun g2 w2 hn2 => ⟨fun _ _ => trivial, ?_⟩)
  refine k_boxA rfl (fun g3 w3 hn3 => ⟨fun _ _ => trivial, ?_⟩)
  have hb2 := hn2.blk.ext hn3.ex
  have hb3 := hn3.blk
  have hE := hn2.ex.trans hn3.ex
  repeat' (first | (refine k_loadCA rfl hb2 hl1 ?_) | (refine k_pure rfl ?_) | (refine then_normal ?_) | (refine cw_seq ?_) | (refine cw_region rfl ?_) | (refine rr_nil ?_))
  refine k_call (refSign_spec (h1.ext hE)) rfl ?_
  rintro v w4 ⟨rfl, hE4⟩
  refine ⟨fun _ _ => trivial, ?_⟩
  rw [Int.sign_eq_one_of_pos (show (0 : Int) < (x : Int) by omega)]
  have hb24 := hb2.ext hE4
  have hb34 := hb3.ext hE4
  repeat' (first | (refine k_loadCA (g := g2) rfl hb24 hl1 ?_) | (refine k_loadCA (g := g3) rfl hb34 hl2 ?_) | (refine k_pure rfl ?_) | (refine then_normal ?_) | (refine cw_seq ?_) | (refine cw_region rfl ?_) | (refine rr_nil ?_) | (refine cw_cond_false rfl ?_) | (refine cw_skip ?_))
  refine k_call (refRem_small (h2.ext (hE.trans hE4)) (h1.ext (hE.trans hE4)) hy hx hx2) rfl ?_
  rintro v w5 ⟨hz5, hE5⟩
  refine ⟨fun _ _ => trivial, ?_⟩
  skip
  refine k_call (refSign_spec hz5) rfl ?_
  rintro v w6 ⟨rfl, hE6⟩
  refine ⟨fun _ _ => trivial, ?_⟩
  repeat' (first | (refine k_pure rfl ?_) | (refine then_normal ?_) | (refine rr_nil ?_) | (refine cw_ret ?_))
  refine ret1 rfl (rt rfl) ⟨?_, ((hE.trans hE4).trans hE5).trans hE6⟩
  show Value.bool (decide (((y % x : Nat) : Int).sign = 0)) = _
  congr 1
  rw [decide_eq_decide, Int.sign_eq_zero_iff_zero]
  omega
theorem permF_N (L : List Int) {n : Nat} (h : 1 ≤ n) (h2 : n ≤ 512) : PermN n (permF L n) := ⟨permF_isPerm L h h2, permF_length L h⟩
theorem errL_ok {n : Nat} {gens : List (List Int)} {p : List Int} (h : errS (n : Int) gens = 0) (hp : PermN n p) : errL (n : Int) gens p = 0 := by
  have hd := hp.1.2.2
  rw [hp.2] at hd
  rw [errL, if_pos h, Int.toNat_natCast, if_pos hd]
set_option maxHeartbeats 2000000 in
theorem factors_calls {pts : Int} (hp : 0 ≤ pts ∧ pts ≤ 255) {la a1 : Option Addr} {sds : List SD} {Ls : List (List Int)} {l1 : List Int} {w : World} (hL : Lists w .i8 la sds Ls) (hI : ∀ i, I8 (Ls.getD i [])) (c : Nat) (hl : Ls.length ≤ 9223372036854775807) (few : Bool) (hs1 : Sl w a1 (int8L l1)) (hi1 : I8 l1) (c1 : Nat) :
    CallsR Try.prog 8 #[.agg (permsL pts la Ls.length c few).toArray, .slice a1 l1.length c1] w fun v w' => v = .bool true ∧ Ex w w' := by
  refine callsR_of (args := [_, _]) Try.func8 rfl rfl ?_
  repeat' (first | (refine k_boxA rfl (fun g w1 hn1 => ⟨fun _ _ => trivial, ?_⟩)) | (refine k_pure rfl ?_) | (refine then_normal ?_) | (refine cw_seq ?_) | (refine cw_region rfl ?_) | (refine rr_nil ?_))
  have hd1 : 0 ≤ pts % 8 := Int.emod_nonneg _ (by omega)
  have hd2 : pts % 8 < 8 := Int.emod_lt_of_pos _ (by omega)
  obtain ⟨n, hn⟩ : ∃ n : Nat, 1 + pts % 8 = (n : Int) := ⟨(1 + pts % 8).toNat, by omega⟩
  have hn8 : 1 ≤ n ∧ n ≤ 8 := by omega
  refine cw_draw (late := []) (plan := [(0, none), (2, none), (1, some true), (3, some true), (4, none), (5, none)]) (fun w' => Blk w' g 35 (permsL pts la Ls.length c few)) mixed (by kernel_rfl) hn1.blk.drew ?_
  have hE1 : Ex w w1.drew := hn1.ex.drew
  repeat' (first | (refine k_loadCA rfl (fun _ h => h) rfl ?_))
  refine k_call (degree_spec hp _ _ _ _ (by omega) _) rfl ?_
  rintro v w2 ⟨rfl, hE2⟩
  refine ⟨fun _ h => h.ext hE2, ?_⟩
  rw [hn]
  refine k_call (gens_spec hp (by omega) hn (hL.ext (hE1.trans hE2)) hI _ hl few) rfl ?_
  rintro v w3 ⟨b, cc, ss, xss, rfl, hO, hx3, hG, hA, hE3⟩
  refine ⟨fun _ h => h.ext hE3, ?_⟩
  have hE03 : Ex w w3 := (hE1.trans hE2).trans hE3
  have hLs := hO.lists
  have hle := hLs.len
  rw [hle]
  have hes : errS (n : Int) xss = 0 := errS_ok hn8.1 (by omega) (by omega) hG
  have n1 : 1 ≤ n ∧ n ≤ 512 := ⟨hn8.1, by omega⟩
  have hP := permF_N l1 n1.1 n1.2
  repeat' (first | (refine k_pure rfl ?_) | (refine then_normal ?_) | (refine cw_seq ?_) | (refine cw_region rfl ?_) | (refine rr_nil ?_))
  refine k_call (perm_spec (hs1.ext hE03) hi1 c1 n n1.1 n1.2) rfl ?_
  generalize permF l1 n = p4 at *
  have hel := errL_ok hes hP
  rintro v w4 ⟨b4, c4, rfl, hO4, hE4⟩
  refine ⟨fun _ _ => trivial, ?_⟩
  refine k_call (sLengths_spec (n := (n : Int)) (base := p4) (bc := c4) (cap := cc) (hLs.ext hE4) (by omega) (fun _ => by omega) hO4.sl (by rw [hP.2]; omega)) rfl ?_
  rintro v w5 ⟨hE5, r5, c5, L, rfl, hO5, _, hL5⟩
  refine ⟨fun _ _ => trivial, ?_⟩
  have hLen := hL5 hel
  rw [Int.toNat_natCast] at hLen
  rw [hel]
  have hE35 := hE4.trans hE5
  repeat' (first | (refine k_pure rfl ?_) | (refine then_normal ?_) | (refine cw_seq ?_) | (refine cw_region rfl ?_) | (refine rr_nil ?_))
  refine k_call (sOrder_spec (n := (n : Int)) (cap := cc) (hLs.ext hE35) (by omega) (fun _ => by omega)) rfl ?_
  rintro v w6 ⟨z6, rfl, hE6, _, ho6⟩
  refine ⟨fun _ _ => trivial, ?_⟩
  obtain ⟨k6, hk6, hz6⟩ := ho6 hes
  obtain ⟨cs6, rfl, hcl6, hco6⟩ := hz6.out
  rw [hes]
  repeat' (first | (refine k_pure rfl ?_))
  refine k_allocA (vs := intL false none 0 0) (fun g7 w7 hn7 => ⟨fun _ _ => trivial, ?_⟩)
  refine k_storeV (n := 2) rfl rfl hcl6 hco6 hn7.blk rfl (fun w8 hc8 hb8 => ⟨fun _ _ => trivial, ?_⟩)
  have hX8 : Ex w5 w8 := (hE6.trans hn7.ex).chg hc8 (by have h1 := hn7.lo; have h2 := hE6.size; omega)
  have hq8 := (hz6.ext hn7.ex).chgO hc8 (hz6.off_hi hn7.lo)
  rw [Int.toNat_natCast] at hk6
  have hgrp := gen_grp n1 hG.n
  have hfac := card_fac hgrp hk6
  have hfm := fac_mono hn8.2
  have hf8 : fac 8 = 40320 := rfl
  have hLl : L.length = n := by rw [hLen.1, hP.2]
  have hprod : prodI L = k6 := by
    have := len_card hgrp hP hLl (fun i hi => hLen.2 i (by rw [hP.2]; exact hi)) n 0 (by omega)
    rw [List.drop_zero, List.take_zero] at this
    exact (this.congr fun p => ⟨fun h => h.1, fun h => ⟨h, fun x hx => by simp at hx⟩⟩).unique hk6
  have hk1 : 1 ≤ k6 := hk6.pos hgrp
  have hpt : ∀ i, 1 ≤ prodI (L.take i) ∧ prodI (L.take i) ≤ 40320 := fun i => by
    have h1 : prodI (L.take i) * prodI (L.drop i) = k6 := by rw [← prodI_append, List.take_append_drop, hprod]
    have h2 : 1 ≤ prodI (L.drop i) := Nat.pos_of_ne_zero fun e => by rw [e] at h1; omega
    have h3 : 1 ≤ prodI (L.take i) := Nat.pos_of_ne_zero fun e => by rw [e] at h1; omega
    have h4 := Nat.le_mul_of_pos_right (prodI (L.take i)) h2
    omega
  have hLi : ∀ i, i < n → ∃ m : Nat, L.getD i 0 = (m : Int) ∧ m ≤ 40320 ∧ prodI (L.take (i + 1)) = prodI (L.take i) * m := fun i hi => by
    obtain ⟨m, hm, _⟩ := hLen.2 i (by rw [hP.2]; exact hi)
    have e : prodI (L.take (i + 1)) = prodI (L.take i) * m := by rw [take_succ_getD L 0 (by omega), prodI_snoc, hm, Int.toNat_natCast]
    have h1 := hpt i
    have h2 := hpt (i + 1)
    have h3 := Nat.le_mul_of_pos_left m h1.1
    exact ⟨m, hm, by omega, e⟩
  have hsO := hO5.sl.ext hX8
  repeat' (first | (refine k_neF rfl rfl (by omega) ?_) | (refine k_pure rfl ?_) | (refine then_normal ?_) | (refine cw_seq ?_) | (refine cw_region rfl ?_) | (refine rr_nil ?_) | (refine k_len rfl ?_) | (refine g_run rfl rfl ?_) | (refine cw_cond_false rfl ?_) | (refine cw_skip ?_))
  refine k_call (refSmall_spec (z := 1) (by decide) (by decide) _) rfl ?_
  rintro v w9 ⟨hz9, hE9⟩
  refine ⟨fun _ _ => trivial, ?_⟩
  obtain ⟨cs9, rfl, hcl9, hco9⟩ := hz9.out
  skip
  refine k_allocA (vs := intL false none 0 0) (fun g10 w10 hn10 => ⟨fun _ _ => trivial, ?_⟩)
  refine k_storeV (n := 2) rfl rfl hcl9 hco9 hn10.blk rfl (fun w11 hc11 hb11 => ⟨fun _ _ => trivial, ?_⟩)
  have l10 := hn10.lo; have l10' := hn10.blk.lt; have s9 := hE9.size; have s10 := hn10.ex.size; have s11 := hc11.size
  have hX11 : Ex w8 w11 := (hE9.trans hn10.ex).chg hc11 (by omega)
  have hq11 := (hz9.ext hn10.ex).chgO hc11 (hz9.off_hi hn10.lo)
  repeat' (first | (refine k_pure rfl ?_) | (refine then_normal ?_) | (refine cw_seq ?_) | (refine cw_region rfl ?_) | (refine rr_nil ?_) | (refine k_len rfl ?_) | (refine cw_block ?_))
  refine cw_loop (ι := Nat × List Value) [13, 50, 51, 52, 53, 54, 55, 56, 57, 58] (fun s => [(50, .int .i64 (s.1 : Int))])
    (fun s w' => s.1 ≤ n ∧ Ex w8 w' ∧ Blk w' g10 24 s.2 ∧ s.2.length = 2 ∧ s.2.all Value.oneCell' = true ∧ IntC w8.heap.size w' (.agg s.2.toArray) ((prodI (L.take s.1) : Nat) : Int) ∧ Off g10 (.agg s.2.toArray)) (fun s => n - s.1)
    (0, cs9) ⟨rfl, trivial⟩ ⟨Nat.zero_le _, hX11, hb11, hcl9, hco9, by simp only [List.take_zero, prodI]; exact hq11, hz9.off_hi hn10.lo⟩ ?_
  rintro ⟨i, cs⟩ ξ w12 ⟨hi, hE12, hb12, hcl, hco, hz12, hof⟩
  simp only at hi hb12 hcl hco hz12 hof
  show CW _ _ _ _ (over [(50, .int .i64 (i : Int))] _) w12
  by_cases hin : i < n
  · obtain ⟨m, hm, hm2, hps⟩ := hLi i hin
    have h1 := hpt i
    have h2 := hpt (i + 1)
    have hs12 := hsO.ext hE12
    repeat' (first | (refine k_lssT rfl rfl (by omega) ?_) | (refine k_indexN (j := i) rfl rfl (hs12.plain (by simp; omega)) (by omega) ?_) | (refine k_loadI rfl hs12 (by omega) ?_) | (refine k_pure rfl ?_) | (refine then_normal ?_) | (refine cw_seq ?_) | (refine cw_region rfl ?_) | (refine rr_nil ?_) | (refine cw_cond_true rfl ?_) | (refine cw_block ?_) | (refine cw_skip ?_))
    refine cw_draw (late := [3, 4]) (plan := [(0, none), (1, none), (2, some true), (3, some false), (4, some false)]) (fun w' => Ex w12 w') mixed (by kernel_rfl) (Ex.refl _).drew ?_
    have hE12d : Ex w12 w12.drew := (Ex.refl _).drew
    repeat' (first | (refine k_loadCA (g := g10) rfl (fun _ h => hb12.ext h) hcl ?_) | (refine k_pure rfl ?_))
    rw [hm]
    refine k_call (refSmall_spec (z := ((m : Nat) : Int)) (by omega) (by omega) _) rfl ?_
    rintro v w13 ⟨hz13, hE13⟩
    refine ⟨fun _ h => h.trans hE13, ?_⟩
    have hE1213 := hE12d.trans hE13
    refine k_call (refMul_spec (p := 1) (q := 1) (hz12.ext hE1213) hz13 (by simp only [Int.natAbs_natCast]; omega) (by simp only [Int.natAbs_natCast]; omega) (by omega)) rfl ?_
    rintro v w14 ⟨hz14, hE14⟩
    refine ⟨fun _ h => h.trans hE14, ?_⟩
    obtain ⟨cs14, rfl, hcl14, hco14⟩ := hz14.out
    have hE1214 := hE1213.trans hE14
    have s12 := hE12.size; have s1213 := hE1213.size; have lb12 := hb12.lt
    refine k_storeV (n := 2) rfl rfl hcl14 hco14 (hb12.ext hE1214) hcl (fun w15 hc15 hb15 => ⟨fun h => (nomatch h), ?_⟩)
    repeat' (first | (refine k_pure rfl ?_) | (refine then_normal ?_) | (refine cw_region rfl ?_) | (refine rr_nil ?_) | (refine k_addI rfl rfl (by omega) (by omega) ?_) | (refine in_normal ?_))
    refine ⟨⟨(i + 1, cs14), ⟨by simp only; omega, (hE12.trans hE1214).chg hc15 (by omega), hb15, hcl14, hco14, ?_, hz14.off_lo (by omega)⟩, by simp only; omega, rfl, trivial⟩, (by (repeat (first | exact agree_mask _ _ _ | refine agree_upd rfl ?_ | refine agree_updO rfl ?_ | refine agree_overIn rfl ?_ | refine agree_maskIn rfl ?_)))⟩
    simp only
    rw [hps, Int.natCast_mul]
    exact (hz14.chgO hc15 (hz14.off_lo (by omega))).mono (by omega)
  · obtain rfl : i = n := by omega
    rw [List.take_of_length_le (by omega), hprod] at hz12
    repeat' (first | (refine k_lssF rfl rfl (by omega) ?_) | (refine then_normal ?_) | (refine cw_seq ?_) | (refine cw_region rfl ?_) | (refine rr_nil ?_) | (refine cw_cond_false rfl ?_) | (refine cw_exit ?_) | (refine then_exit ?_) | (refine in_exit ?_))
    refine k_call (refSmall_spec (z := 1) (by decide) (by decide) _) rfl ?_
    rintro v w13 ⟨hz13, hE13⟩
    refine ⟨fun _ _ => trivial, ?_⟩
    obtain ⟨cs13, rfl, hcl13, hco13⟩ := hz13.out
    skip
    refine k_allocA (vs := intL false none 0 0) (fun g14 w14 hn14 => ⟨fun _ _ => trivial, ?_⟩)
    refine k_storeV (n := 2) rfl rfl hcl13 hco13 hn14.blk rfl (fun w15 hc15 hb15 => ⟨fun _ _ => trivial, ?_⟩)
    have l14 := hn14.lo; have l14' := hn14.blk.lt; have s13 := hE13.size; have s14 := hn14.ex.size; have s15 := hc15.size
    have hX15 : Ex w12 w15 := (hE13.trans hn14.ex).chg hc15 (by omega)
    have hq15 := (hz13.ext hn14.ex).chgO hc15 (hz13.off_hi hn14.lo)
    repeat' (first | (refine k_pure rfl ?_) | (refine then_normal ?_) | (refine cw_seq ?_) | (refine cw_region rfl ?_) | (refine rr_nil ?_) | (refine cw_block ?_))
    refine cw_loop (ι := Nat × List Value) [15, 60, 61, 62, 63, 64, 65, 66, 67, 68] (fun s => [(15, .int .i64 ((s.1 : Int) + 1))])
      (fun s w' => s.1 ≤ i ∧ Ex w12 w' ∧ Blk w' g14 24 s.2 ∧ s.2.length = 2 ∧ s.2.all Value.oneCell' = true ∧ IntC w12.heap.size w' (.agg s.2.toArray) ((fac s.1 : Nat) : Int) ∧ Off g14 (.agg s.2.toArray)) (fun s => i - s.1)
      (0, cs13) ⟨rfl, trivial⟩ ⟨Nat.zero_le _, hX15, hb15, hcl13, hco13, hq15, hz13.off_hi hn14.lo⟩ ?_
    rintro ⟨k, ds⟩ ξ2 w16 ⟨hk, hE16, hb16, hdl, hdo, hz16, hof16⟩
    simp only at hk hb16 hdl hdo hz16 hof16
    show CW _ _ _ _ (over [(15, .int .i64 ((k : Int) + 1))] _) w16
    have hfk := fac_mono (show k ≤ 8 by omega)
    by_cases hkn : k < i
    · repeat' (first | (refine k_leqT rfl rfl (by omega) ?_) | (refine k_pure rfl ?_) | (refine then_normal ?_) | (refine cw_seq ?_) | (refine cw_region rfl ?_) | (refine rr_nil ?_) | (refine cw_cond_true rfl ?_) | (refine cw_block ?_) | (refine cw_skip ?_))
      refine cw_draw (late := [3, 4]) (plan := [(0, none), (1, none), (2, some true), (3, some false), (4, some false)]) (fun w' => Ex w16 w') mixed (by kernel_rfl) (Ex.refl _).drew ?_
      have hE16d : Ex w16 w16.drew := (Ex.refl _).drew
      repeat' (first | (refine k_loadCA (g := g14) rfl (fun _ h => hb16.ext h) hdl ?_) | (refine k_pure rfl ?_))
      refine k_call (refSmall_spec (z := (k : Int) + 1) (by omega) (by omega) _) rfl ?_
      rintro v w17 ⟨hz17, hE17⟩
      refine ⟨fun _ h => h.trans hE17, ?_⟩
      have hE1617 := hE16d.trans hE17
      refine k_call (refMul_spec (p := 1) (q := 1) (hz16.ext hE1617) hz17 (by simp only [Int.natAbs_natCast]; omega) (by omega) (by omega)) rfl ?_
      rintro v w18 ⟨hz18, hE18⟩
      refine ⟨fun _ h => h.trans hE18, ?_⟩
      obtain ⟨cs18, rfl, hcl18, hco18⟩ := hz18.out
      have hE1618 := hE1617.trans hE18
      have s16 := hE16.size; have s1617 := hE1617.size; have lb16 := hb16.lt
      refine k_storeV (n := 2) rfl rfl hcl18 hco18 (hb16.ext hE1618) hdl (fun w19 hc19 hb19 => ⟨fun h => (nomatch h), ?_⟩)
      repeat' (first | (refine k_pure rfl ?_) | (refine then_normal ?_) | (refine cw_region rfl ?_) | (refine rr_nil ?_) | (refine k_addI rfl rfl (by omega) (by omega) ?_) | (refine in_normal ?_))
      refine ⟨⟨(k + 1, cs18), ⟨by simp only; omega, (hE16.trans hE1618).chg hc19 (by omega), hb19, hcl18, hco18, ?_, hz18.off_lo (by omega)⟩, by simp only; omega, ?_, trivial⟩, (by (repeat (first | exact agree_mask _ _ _ | refine agree_upd rfl ?_ | refine agree_updO rfl ?_ | refine agree_overIn rfl ?_ | refine agree_maskIn rfl ?_)))⟩
      · simp only
        have e : ((fac (k + 1) : Nat) : Int) = ((fac k : Nat) : Int) * ((k : Int) + 1) := by
          rw [fac, Int.natCast_mul, Int.mul_comm]; rfl
        rw [e]
        exact (hz18.chgO hc19 (hz18.off_lo (by omega))).mono (by omega)
      · rfl
    · obtain rfl : k = i := by omega
      have hb1216 := hb12.ext hE16
      have hb816 := (hb8.ext hE12).ext hE16
      repeat' (first | (refine k_leqF rfl rfl (by omega) ?_) | (refine k_loadCA (g := g10) rfl hb1216 hcl ?_) | (refine k_loadCA (g := g7) rfl hb816 hcl6 ?_) | (refine k_pure rfl ?_) | (refine then_normal ?_) | (refine cw_seq ?_) | (refine cw_region rfl ?_) | (refine rr_nil ?_) | (refine cw_cond_false rfl ?_) | (refine cw_exit ?_) | (refine then_exit ?_) | (refine in_exit ?_))
      refine k_call (refSame_spec (hz12.ext hE16) (hq8.ext (hE12.trans hE16))) rfl ?_
      rintro v w17 ⟨rfl, hE17⟩
      refine ⟨fun _ _ => trivial, ?_⟩
      rw [decide_eq_true (p := ((k6 : Nat) : Int) = ((k6 : Nat) : Int)) rfl]
      have hb817 := hb816.ext hE17
      have hb1617 := hb16.ext hE17
      repeat' (first | (refine k_loadCA (g := g7) rfl hb817 hcl6 ?_) | (refine k_loadCA (g := g14) rfl hb1617 hdl ?_) | (refine k_pure rfl ?_) | (refine g_run rfl rfl ?_))
      refine k_call (refDivides_small (hq8.ext ((hE12.trans hE16).trans hE17)) (hz16.ext hE17) (by omega) (by omega) (by omega)) rfl ?_
      rintro v w18 ⟨rfl, hE18⟩
      refine ⟨fun _ _ => trivial, ?_⟩
      rw [decide_eq_true (lagrange hgrp (permN_grp n1) (fun p hp => hgrp.perm p hp) hk6 (card_sym n1))]
      repeat' (first | (refine k_pure rfl ?_) | (refine g_run rfl rfl ?_))
      refine k_call (awakeS_spec _) rfl ?_
      rintro v w19 ⟨rfl, hE19⟩
      refine ⟨fun _ _ => trivial, ?_⟩
      repeat' (first | (refine k_pure rfl ?_) | (refine then_normal ?_) | (refine rr_nil ?_) | (refine cw_ret ?_))
      exact ret1 rfl (rt rfl) ⟨rfl, ((((((hE03.trans hE35).trans hX8).trans hE12).trans hE16).trans hE17).trans hE18).trans hE19⟩
end Go.Proofs.Ythhfjagnmhhapaa

