
import Derived.Test.YthhfjagnmhhapaaA01
import Derived.Test.YthhfjagnmhhapaaA02
import Derived.Test.YthhfjagnmhhapaaA03
import Derived.Test.YthhfjagnmhhapaaA04
import Derived.Test.YthhfjagnmhhapaaA05
import Derived.Test.YthhfjagnmhhapaaA06
import Derived.Test.YthhfjagnmhhapaaA09
import Derived.Test.YthhfjagnmhhapaaA10
import Derived.Test.YthhfjagnmhhapaaA17
import Derived.Test.YthhfjagnmhhapaaA18
import Derived.Test.YthhfjagnmhhapaaA19
import Derived.Test.YthhfjagnmhhapaaA22
import Derived.Test.YthhfjagnmhhapaaA24

namespace Go.Proofs.Ythhfjagnmhhapaa
open Go.W Go.PM Go.LM
theorem LenOK.unique {n : Nat} {gens : List (List Int)} {base L L' : List Int} (h : LenOK n gens base base.length L) (h' : LenOK n gens base base.length L') : L' = L := by
  refine List.ext_getElem (by rw [h.1, h'.1]) fun i hi hi' => ?_
  obtain ⟨m, e, ho⟩ := h.2 i (by rw [← h.1]; exact hi')
  obtain ⟨m', e', ho'⟩ := h'.2 i (by rw [← h.1]; exact hi')
  have := ho.unique ho'
  rw [List.getD_eq_getElem?_getD, List.getElem?_eq_getElem hi'] at e
  rw [List.getD_eq_getElem?_getD, List.getElem?_eq_getElem hi] at e'
  simp at e e'
  rw [e, e', this]
set_option maxHeartbeats 1000000 in
theorem lengths_calls {pts size : Int} (hp : 0 ≤ pts ∧ pts ≤ 255) {la a1 a2 : Option Addr} {sds : List SD} {Ls : List (List Int)} {base l2 : List Int} {w : World} (hL : Lists w .i8 la sds Ls) (hI : ∀ i, I8 (Ls.getD i [])) (c : Nat) (hl : Ls.length ≤ 9223372036854775807) (few : Bool)
    (hs1 : Sl w a1 (intsL base)) (c1 : Nat) (hc1 : base.length ≤ c1) (hbl : base.length ≤ 9223372036854775807) (hs2 : Sl w a2 (int8L l2)) (hi2 : I8 l2) (c2 : Nat) (hsz : 0 ≤ size ∧ size ≤ 255) :
    CallsR Try.prog 7 #[.agg (permsL pts la Ls.length c few).toArray, .slice a1 base.length c1, .slice a2 l2.length c2, .int .u8 size] w fun v w' => v = .bool true ∧ Ex w w' := by
  refine callsR_of (args := [_, _, _, _]) Try.func7 rfl rfl ?_
  by_cases hb100 : 100 < base.length
  · repeat' (first | (refine k_boxA rfl (fun g w1 hn1 => ⟨fun _ _ => trivial, ?_⟩)) | (refine k_gtrT rfl rfl (by omega) ?_) | (refine k_pure rfl ?_) | (refine then_normal ?_) | (refine cw_seq ?_) | (refine cw_region rfl ?_) | (refine rr_nil ?_) | (refine k_len rfl ?_) | (refine cw_cond_true rfl ?_))
    refine k_call (awakeS_spec _) rfl ?_
    rintro v w11 ⟨rfl, hE11⟩
    refine ⟨fun _ _ => trivial, ?_⟩
    repeat' (first | (refine k_pure rfl ?_) | (refine then_normal ?_) | (refine rr_nil ?_) | (refine cw_ret ?_) | (refine then_ret ?_))
    exact ret1 rfl (rt rfl) ⟨rfl, hn1.ex.trans hE11⟩
  repeat' (first | (refine k_boxA rfl (fun g w1 hn1 => ⟨fun _ _ => trivial, ?_⟩)) | (refine k_gtrF rfl rfl (by omega) ?_) | (refine k_pure rfl ?_) | (refine then_normal ?_) | (refine cw_seq ?_) | (refine cw_region rfl ?_) | (refine rr_nil ?_) | (refine k_len rfl ?_) | (refine cw_cond_false rfl ?_) | (refine cw_skip ?_))
  have hd1 : 0 ≤ pts % 8 := Int.emod_nonneg _ (by omega)
  have hd2 : pts % 8 < 8 := Int.emod_lt_of_pos _ (by omega)
  obtain ⟨n, hn⟩ : ∃ n : Nat, 1 + pts % 8 = (n : Int) := ⟨(1 + pts % 8).toNat, by omega⟩
  have hn8 : 1 ≤ n ∧ n ≤ 8 := by omega
  refine cw_draw (late := []) (plan := [(0, none), (2, none), (1, some true), (3, some true), (4, none), (5, none)]) (fun w' => Blk w' g 35 (permsL pts la Ls.length c few)) mixed (by kernel_rfl) hn1.blk.drew ?_
  have hE1 : Ex w w1.drew := hn1.ex.drew
  repeat' (first | (refine k_loadCA rfl (fun _ h => h) rfl ?_))
  refine k_call (degree_spec hp _ _ _ _ (by omega) _) rfl ?_
  rintro v w2 ⟨rfl, hE2⟩
  refine ⟨fun _ h => h.ext hE2, ?_⟩
  rw [hn]
  refine k_call (gens_spec hp (by omega) hn (hL.ext (hE1.trans hE2)) hI _ hl few) rfl ?_
  rintro v w3 ⟨b, cc, ss, xss, rfl, hO, hx3, hG, hA, hE3⟩
  refine ⟨fun _ h => h.ext hE3, ?_⟩
  have hE03 : Ex w w3 := (hE1.trans hE2).trans hE3
  have hLs := hO.lists
  have hle := hLs.len
  rw [hle]
  have hes : errS (n : Int) xss = 0 := errS_ok hn8.1 (by omega) (by omega) hG
  have hr1 : 0 ≤ size % ((n : Int) + 1) := Int.emod_nonneg _ (by omega)
  have hr2 : size % ((n : Int) + 1) < (n : Int) + 1 := Int.emod_lt_of_pos _ (by omega)
  obtain ⟨r, hr⟩ : ∃ r : Nat, size % ((n : Int) + 1) = (r : Int) := ⟨(size % ((n : Int) + 1)).toNat, by omega⟩
  have hpn := permF_length l2 hn8.1
  repeat' (first | (refine k_pure rfl ?_) | (refine then_normal ?_) | (refine cw_seq ?_) | (refine rr_nil ?_))
  refine cw_draw (late := [3, 10]) (plan := [(0, none), (1, none), (2, none), (4, none), (5, none), (6, none), (7, none), (8, none), (12, none), (3, some false), (9, none), (10, some false), (11, none)]) (fun w' => True) mixed (by kernel_rfl) trivial ?_
  have hE03d : Ex w w3.drew := hE03.drew
  repeat' (first | (refine k_convI rfl (wrap_i64 (by omega) (by omega)) ?_) | (refine k_rem rfl rfl (by omega) (by omega) ?_) | (refine k_pure rfl ?_) | (refine k_addI rfl rfl (by omega) (by omega) ?_))
  refine k_call (perm_spec (hs2.ext hE03d) hi2 c2 n hn8.1 (by omega)) rfl ?_
  generalize permF l2 n = p4 at *
  rintro v w4 ⟨b4, c4, rfl, hO4, hE4⟩
  refine ⟨fun _ _ => trivial, ?_⟩
  have hcap4 := hO4.capLe
  repeat' (first | (refine k_sliceTo rfl (congrArg _ hr) (by omega) (by omega) ?_))
  rw [Int.toNat_natCast]
  refine k_lit (cs := ([(⟨a1, base.length, c1⟩ : SD), ⟨b4, r, c4⟩].map SD.val).toArray) rfl (by kernel_rfl) (fun g5 w5 hn5 => ⟨fun _ _ => trivial, ?_⟩)
  have htk : (p4.take r).length = r := by rw [List.length_take]; omega
  have hLq : Lists w5 .i64 (some ⟨g5, 0, none⟩) [⟨a1, base.length, c1⟩, ⟨b4, r, c4⟩] [base, p4.take r] := Lists.of hn5.blk.sl ⟨⟨((hs1.ext hE03d).ext hE4).ext hn5.ex, rfl⟩, ⟨by have := (hO4.sl.take r).ext hn5.ex; rw [← List.map_take] at this; exact this, htk.symm⟩, trivial⟩
  have hcaps : ∀ i, i < 2 → ([(⟨a1, base.length, c1⟩ : SD), ⟨b4, r, c4⟩].getD i sd0).len ≤ ([(⟨a1, base.length, c1⟩ : SD), ⟨b4, r, c4⟩].getD i sd0).cap ∧ ([(⟨a1, base.length, c1⟩ : SD), ⟨b4, r, c4⟩].getD i sd0).len ≤ 1000 := fun i hi => by
    rcases i with _ | _ | i
    · simp only [List.getD_cons_zero]; omega
    · simp only [List.getD_cons_succ, List.getD_cons_zero]; omega
    · omega
  have hE35 := hE4.trans hn5.ex
  have hE3d : Ex w3 w3.drew := (Ex.refl _).drew
  repeat' (first | (refine then_normal ?_) | (refine rr_nil ?_) | (refine k_len rfl ?_) | (refine cw_block ?_))
  refine cw_loop (ι := Nat) [8, 12, 13, 14, 15, 16, 37, 38, 39, 40, 41, 42, 43, 44, 45, 46, 47, 48, 49, 50, 51, 52, 53, 54, 55, 56, 57, 58, 59, 60, 61, 62, 63, 64] (fun s => [(37, .int .i64 (s : Int))]) (fun s w' => s ≤ 2 ∧ Ex w5 w') (fun s => 2 - s)
    0 ⟨rfl, trivial⟩ ⟨by omega, Ex.refl _⟩ ?_
  rintro i ξ w6 ⟨hi, hE6⟩
  show CW _ _ _ _ (over [(37, .int .i64 (i : Int))] _) w6
  have hE36 := hE35.trans hE6
  have hLs6 := (hLs.ext hE3d).ext hE36
  have hLq6 := hLq.ext hE6
  by_cases hi2 : i < 2
  · obtain ⟨hsl, hsn⟩ := hLq6.each i hi2
    obtain ⟨hc5, hc6⟩ := hcaps i hi2
    obtain ⟨⟨sa, sl, sc⟩, hsd⟩ : ∃ s, [(⟨a1, base.length, c1⟩ : SD), ⟨b4, r, c4⟩].getD i sd0 = s := ⟨_, rfl⟩
    rw [hsd] at hsl hsn hc5 hc6
    simp only at hsl hsn hc5 hc6
    subst hsn
    generalize [base, p4.take r].getD i [] = q at *
    repeat' (first | (refine k_lssT rfl rfl (by omega) ?_) | (refine k_indexN (j := i) rfl rfl ⟨_, _, rfl⟩ hi2 ?_) | (refine k_loadSd rfl hLq6.sl hi2 hsd ?_) | (refine k_pure rfl ?_) | (refine then_normal ?_) | (refine cw_seq ?_) | (refine cw_region rfl ?_) | (refine rr_nil ?_) | (refine cw_cond_true rfl ?_) | (refine cw_block ?_) | (refine cw_skip ?_))
    refine k_call (sLengths_spec (n := (n : Int)) (base := q) (bc := sc) (cap := cc) hLs6 (by omega) (fun _ => by omega) hsl hc6) rfl ?_
    rintro v w7 ⟨hE7, r7, c7, L7, rfl, hO7, hL7a, hL7b⟩
    refine ⟨fun _ _ => trivial, ?_⟩
    repeat' (first | (refine k_pure rfl ?_) | (refine then_normal ?_) | (refine cw_seq ?_) | (refine cw_region rfl ?_) | (refine rr_nil ?_))
    refine k_call (rLengths_spec (n := (n : Int)) (base := q) (bc := sc) (cap := cc) (hLs6.ext hE7) (by omega) (fun _ => by omega) (hsl.ext hE7) hc6 hc5) rfl ?_
    rintro v w8 ⟨hE8, r8, c8, L8, rfl, hO8, hL8a, hL8b⟩
    refine ⟨fun _ _ => trivial, ?_⟩
    have hLL : L8 = L7 := by
      by_cases he : errL (n : Int) xss q = 0
      · exact (hL7b he).unique (hL8b he)
      · rw [hL7a he, hL8a he]
    subst hLL
    have hll : L8.length ≤ 1000 := by
      by_cases he : errL (n : Int) xss q = 0
      · rw [(hL8b he).1]; exact hc6
      · rw [hL8a he]; simp
    repeat' (first | (refine k_neqI rfl rfl ?_) | (refine k_pure rfl ?_) | (refine then_normal ?_) | (refine cw_seq ?_) | (refine cw_region rfl ?_) | (refine rr_nil ?_) | (refine g_run rfl rfl ?_))
    refine k_call (same_spec (xs := L8) (ys := L8) (hO7.sl.ext hE8) hO8.sl _ _ (by omega)) rfl ?_
    rintro v w9 ⟨rfl, hE9⟩
    refine ⟨fun _ _ => trivial, ?_⟩
    rw [decide_eq_true (p := L8 = L8) rfl]
    repeat' (first | (refine k_pure rfl ?_) | (refine then_normal ?_) | (refine cw_region rfl ?_) | (refine rr_nil ?_) | (refine g_run rfl rfl ?_) | (refine k_addI rfl rfl (by omega) (by omega) ?_) | (refine cw_cond_false rfl ?_) | (refine in_normal ?_) | (refine cw_skip ?_))
    refine ⟨⟨i + 1, ⟨by omega, ((hE6.trans hE7).trans hE8).trans hE9⟩, by omega, rfl, trivial⟩, (by (repeat (first | exact agree_mask _ _ _ | refine agree_upd rfl ?_ | refine agree_updO rfl ?_ | refine agree_overIn rfl ?_ | refine agree_maskIn rfl ?_)))⟩
  · repeat' (first | (refine k_lssF rfl rfl (by omega) ?_) | (refine then_normal ?_) | (refine cw_seq ?_) | (refine cw_region rfl ?_) | (refine rr_nil ?_) | (refine cw_cond_false rfl ?_) | (refine cw_exit ?_) | (refine then_exit ?_) | (refine in_exit ?_))
    refine k_call (awakeS_spec _) rfl ?_
    rintro v w11 ⟨rfl, hE11⟩
    refine ⟨fun _ _ => trivial, ?_⟩
    repeat' (first | (refine k_pure rfl ?_) | (refine then_normal ?_) | (refine rr_nil ?_) | (refine cw_ret ?_))
    exact ret1 rfl (rt rfl) ⟨rfl, (hE03d.trans hE36).trans hE11⟩
end Go.Proofs.Ythhfjagnmhhapaa

