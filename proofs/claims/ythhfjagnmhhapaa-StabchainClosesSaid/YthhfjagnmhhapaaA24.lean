
import Derived.Test.YthhfjagnmhhapaaA01
import Derived.Test.YthhfjagnmhhapaaA02
import Derived.Test.YthhfjagnmhhapaaA03
import Derived.Test.YthhfjagnmhhapaaA04
import Derived.Test.YthhfjagnmhhapaaA05
import Derived.Test.YthhfjagnmhhapaaA06
import Derived.Test.YthhfjagnmhhapaaA07
import Derived.Test.YthhfjagnmhhapaaA08
import Derived.Test.YthhfjagnmhhapaaA09
import Derived.Test.YthhfjagnmhhapaaA10
import Derived.Test.YthhfjagnmhhapaaA11
import Derived.Test.YthhfjagnmhhapaaA13
import Derived.Test.YthhfjagnmhhapaaA16
import Derived.Test.YthhfjagnmhhapaaA17
import Derived.Test.YthhfjagnmhhapaaA18
import Derived.Test.YthhfjagnmhhapaaA19
import Derived.Test.YthhfjagnmhhapaaA20
import Derived.Test.YthhfjagnmhhapaaA21
import Derived.Test.YthhfjagnmhhapaaA22

namespace Go.Proofs.Ythhfjagnmhhapaa
open Go.W Go.PM Go.LM
theorem rmember_spec {w : World} {n : Nat} {L : RC} {a : Option Addr} {cap : Nat} {p : List Int} {pa : Option Addr} {pc : Nat} (hs : Sl w a (cellsL L)) (hC : RCs w n L) (hLk : Links n (lvsOf L)) (hF : Full n (lvsOf L)) (hk : L.length ≤ 1000000000000) (pp : PermN n p) (hp : Sl w pa (intsL p)) :
    CallsR Try.prog 56 #[.slice a L.length cap, .slice pa n pc] w fun v w' => Ex w w' ∧ ∃ t : Bool, v = .bool t ∧ (t = true ↔ grpOf n (lvsOf L) p) := by
  refine callsR_of (args := [_, _]) Try.func56 rfl rfl ?_
  have n1 := pp.n1
  repeat' (first | (refine k_pure rfl ?_) | (refine then_normal ?_) | (refine cw_seq ?_) | (refine cw_region rfl ?_) | (refine rr_nil ?_))
  refine k_call (rsift_spec (first := 0) (cap := cap) (pc := pc) hs hC (fun i _ hi => by rw [← lvsOf_getD]; exact hLk.ok (getD_some (by rw [List.length_map]; exact hi))) (Nat.zero_le _) hk pp hp) rfl ?_
  rintro v w2 ⟨hE2, ra, rc, rfl, hS2, _⟩
  refine ⟨fun _ _ => trivial, ?_⟩
  rw [List.drop_zero] at hS2 ⊢
  have pr := (sift_spec hLk pp).1
  repeat' (first | (refine k_pure rfl ?_) | (refine then_normal ?_) | (refine cw_seq ?_) | (refine cw_region rfl ?_) | (refine rr_nil ?_))
  refine k_call (refMoved_spec (xs := (siftL (lvsOf L) p).1) hS2 rc (by rw [pr.2]; omega)) (by rw [pr.2]; rfl) ?_
  rintro v w3 ⟨mv, rfl, hmv, hE3⟩
  refine ⟨fun _ _ => trivial, ?_⟩
  repeat' (first | (refine k_pure rfl ?_) | (refine then_normal ?_) | (refine rr_nil ?_) | (refine cw_ret ?_))
  refine ret1 rfl (rt rfl) ⟨hE2.trans hE3, _, rfl, ?_⟩
  rw [decide_eq_true_eq, hmv.neg, pr.2, sift_iff hLk hF pp]
theorem permsB_one {n : Int} {p : List Int} : permsB n [p] = (decide ((p.length : Int) = n) && decide (IsPerm p)) := by
  simp [permsB]
theorem rContains_spec {n : Int} {gens : List (List Int)} {p : List Int} {a b : Option Addr} {sds : List SD} {cap bc : Nat} {w : World} (hL : Lists w .i64 a sds gens) (hl : gens.length ≤ 1000000) (h11 : errS n gens = 0 → n ≤ 11) (hp : Sl w b (intsL p)) :
    CallsR Try.prog 24 #[.int .i64 n, .slice a gens.length cap, .slice b p.length bc] w fun v w' => Ex w w' ∧ ∃ t : Bool, v = .tuple #[.bool t, .int .i64 (errC n gens p)] ∧ (t = true ↔ errC n gens p = 0 ∧ Gen n.toNat gens p) := by
  refine callsR_of (args := [_, _, _]) Try.func24 rfl rfl ?_
  repeat' (first | (refine k_pure rfl ?_) | (refine then_normal ?_) | (refine cw_seq ?_) | (refine cw_region rfl ?_) | (refine rr_nil ?_))
  refine k_call (group_ref_spec (n := n) hL cap (by omega)) rfl ?_
  rw [grp_errS]
  rintro v w2 ⟨rfl, hE2⟩
  refine ⟨fun _ _ => trivial, ?_⟩
  repeat' (first | (refine k_pure rfl ?_) | (refine then_normal ?_) | (refine cw_seq ?_) | (refine cw_region rfl ?_) | (refine rr_nil ?_) | (refine k_len rfl ?_) | (refine g_run rfl rfl ?_) | (refine g_skip rfl rfl ?_) | (refine g_dec_f rfl rfl (fun hc => ?_) (fun hc => ?_)) | (refine cw_cond_true rfl ?_) | (refine cw_cond_dec rfl (fun hc => ?_) (fun hc => ?_)) | (refine cw_ret ?_) | (refine then_ret ?_) | (refine cw_skip ?_))
  · refine ret2 rfl (rt rfl) (rt rfl) ⟨hE2, false, ?_, ?_⟩
    · rw [errC, if_neg hc]; rfl
    · rw [errC, if_neg hc]
      constructor
      · intro h; cases h
      · rintro ⟨h, _⟩; exact absurd h hc
  · have h0 : errS n gens = 0 := by omega
    refine k_call (refValid_spec (hp.ext hE2) _) rfl ?_
    rintro v w3 ⟨rfl, hE3⟩
    refine ⟨fun _ _ => trivial, ?_⟩
    have hE23 := hE2.trans hE3
    by_cases hv : IsPerm p
    · rw [decide_eq_true hv]
      have hb : permsB n [p] = true := by rw [permsB_one, decide_eq_true hv, decide_eq_true (by omega)]; rfl
      have he : errC n gens p = 0 := by rw [errC, if_pos h0, if_pos hb]
      obtain ⟨m, rfl, hm1, hm2, hgl, hgn⟩ := errS_zero h0
      have hm11 : m ≤ 11 := by have := h11 h0; omega
      have pp : PermN m p := permsB_iff.1 hb p (by simp)
      repeat' (first | (refine k_pure rfl ?_) | (refine then_normal ?_) | (refine cw_seq ?_) | (refine cw_region rfl ?_) | (refine rr_nil ?_) | (refine g_run rfl rfl ?_) | (refine cw_cond_false rfl ?_) | (refine cw_skip ?_))
      refine k_call (rchain_spec (base := []) (b := none) (bc := 0) ⟨hm1, hm2⟩ hm11 hgn (hL.ext hE23) (by omega) (Sl.nil _ _) (by simp) (fun i hi => absurd hi (by simp))) rfl ?_
      rintro v w4 ⟨hE4, ra, rcap, L, rfl, hR, hG, hF⟩
      refine ⟨fun _ _ => trivial, ?_⟩
      have hpl := prod_le hG.links hm11
      have hll := hG.ll
      rw [List.length_map] at hll
      repeat' (first | (refine k_pure rfl ?_))
      refine k_call (rmember_spec (cap := rcap) (pc := bc) hR.own.sl hR.lv hG.links hF (by simp at hll; omega) pp (hp.ext (hE23.trans hE4))) (by rw [pp.2]; rfl) ?_
      rintro v w5 ⟨hE5, t, rfl, ht⟩
      refine ⟨fun _ _ => trivial, ?_⟩
      repeat' (first | (refine k_pure rfl ?_) | (refine then_normal ?_) | (refine rr_nil ?_) | (refine cw_ret ?_))
      refine ret2 rfl (rt rfl) (rt rfl) ⟨(hE23.trans hE4).trans hE5, t, by rw [he]; rfl, ?_⟩
      rw [he, Int.toNat_natCast, ht, hG.grp]
      exact ⟨fun h => ⟨rfl, h⟩, fun h => h.2⟩
    · rw [decide_eq_false hv]
      have hb : permsB n [p] = false := by rw [permsB_one, decide_eq_false hv, Bool.and_false]
      have he : errC n gens p = 3 := by rw [errC, if_pos h0, hb]; rfl
      repeat' (first | (refine k_pure rfl ?_) | (refine then_normal ?_) | (refine cw_seq ?_) | (refine cw_region rfl ?_) | (refine rr_nil ?_) | (refine g_run rfl rfl ?_) | (refine cw_cond_true rfl ?_) | (refine cw_ret ?_) | (refine then_ret ?_))
      refine ret2 rfl (rt rfl) (rt rfl) ⟨hE23, false, by rw [he]; rfl, ?_⟩
      rw [he]
      constructor
      · intro h; cases h
      · rintro ⟨h, _⟩; cases h
  · have h0 : errS n gens = 0 := by omega
    have hb : permsB n [p] = false := by rw [permsB_one, decide_eq_false (by omega), Bool.false_and]
    have he : errC n gens p = 3 := by rw [errC, if_pos h0, hb]; rfl
    refine ret2 rfl (rt rfl) (rt rfl) ⟨hE2, false, by rw [he]; rfl, ?_⟩
    rw [he]
    constructor
    · intro h; cases h
    · rintro ⟨h, _⟩; cases h
theorem rdiff_spec {n : Nat} {l : List Int} {a : Option Addr} {cap : Nat} {w : World} (hl : Sl w a (intsL l)) (_hn : n ≤ 512) (hll : l.length ≤ 1000000) (hcap : l.length ≤ cap) :
    CallsR Try.prog 62 #[.slice a l.length cap, .int .i64 (n : Int)] w fun v w' => v = .bool (decide (Dist n l)) ∧ Ex w w' := by
  refine callsR_of (args := [_, _]) Try.func62 rfl rfl ?_
  repeat' (first | (refine k_pure rfl ?_) | (refine then_normal ?_) | (refine cw_seq ?_) | (refine cw_region rfl ?_) | (refine rr_nil ?_) | (refine k_len rfl ?_) | (refine cw_block ?_))
  refine cw_loop (ι := Nat) [4, 5, 6, 9, 10, 11, 12, 13, 14, 15, 16, 17, 18, 19, 20, 21, 22, 23, 24, 25, 26, 27, 28] (fun s => [(9, .int .i64 (s : Int))]) (fun s w' => s ≤ l.length ∧ Ex w w' ∧ Dist n (l.take s)) (fun s => l.length - s)
    0 ⟨rfl, trivial⟩ ⟨Nat.zero_le _, Ex.refl _, ⟨by simp, by simp⟩⟩ ?_
  rintro k ξ w2 ⟨hk, hE2, hD⟩
  show CW _ _ _ _ (over [(9, .int .i64 (k : Int))] _) w2
  have hl2 := hl.ext hE2
  have hno : k < l.length → (l.getD k 0 < 0 ∨ (n : Int) ≤ l.getD k 0 ∨ l.getD k 0 ∈ l.take k) → ¬ Dist n l := fun hkl h hd => by
    have hd' := dist_iff.1 hd
    rcases h with h | h | h
    · have := (hd'.1 k hkl).1; omega
    · have := (hd'.1 k hkl).2; omega
    · obtain ⟨j, hj, e⟩ := List.getElem_of_mem h
      rw [List.length_take] at hj
      rw [List.getElem_take] at e
      refine hd'.2 j k (by omega) hkl ?_
      rw [← e, List.getD_eq_getElem?_getD, List.getElem?_eq_getElem (by omega)]; rfl
  repeat' (first | (refine k_indexN (j := k) rfl rfl (hl2.plain (by simp; omega)) (by omega) ?_) | (refine k_loadI (j := k) rfl hl2 (by omega) ?_) | (refine k_sliceTo rfl rfl (by omega) (by omega) ?_) | (refine k_pure rfl ?_) | (refine then_normal ?_) | (refine cw_seq ?_) | (refine cw_region rfl ?_) | (refine rr_nil ?_) | (refine g_run rfl rfl ?_) | (refine g_skip rfl rfl ?_) | (refine g_dec_f rfl rfl (fun hc => ?_) (fun hc => ?_)) | (refine cw_cond_true rfl ?_) | (refine cw_cond_dec rfl (fun hc => ?_) (fun hc => ?_)) | (refine cw_block ?_) | (refine cw_exit ?_) | (refine then_exit ?_) | (refine in_exit ?_) | (refine cw_ret ?_) | (refine then_ret ?_) | (refine in_ret ?_) | (refine cw_skip ?_))
  · have hkl : k < l.length := by omega
    have htl : (l.take k).length = k := by rw [List.length_take]; omega
    refine k_call (refHas_spec (xs := l.take k) (by have := hl2.take k; rw [← List.map_take] at this; exact this) cap (by omega) (l.getD k 0)) (by rw [htl]; rfl) ?_
    rintro v w3 ⟨rfl, hE3⟩
    refine ⟨fun _ _ => trivial, ?_⟩
    have hE23 := hE2.trans hE3
    by_cases hm : l.getD k 0 ∈ l.take k
    · rw [decide_eq_true hm]
      repeat' (first | (refine k_pure rfl ?_) | (refine then_normal ?_) | (refine cw_seq ?_) | (refine cw_region rfl ?_) | (refine rr_nil ?_) | (refine cw_cond_true rfl ?_) | (refine cw_ret ?_) | (refine then_ret ?_) | (refine in_ret ?_))
      refine ret1 rfl (rt rfl) ⟨?_, hE23⟩
      rw [decide_eq_false (hno hkl (.inr (.inr hm)))]; rfl
    · rw [decide_eq_false hm]
      repeat' (first | (refine k_pure rfl ?_) | (refine then_normal ?_) | (refine cw_region rfl ?_) | (refine rr_nil ?_) | (refine k_addI rfl rfl (by omega) (by omega) ?_) | (refine cw_cond_false rfl ?_) | (refine in_normal ?_) | (refine cw_skip ?_))
      refine ⟨⟨k + 1, ⟨by omega, hE23, ?_⟩, by omega, rfl, trivial⟩, (by (repeat (first | exact agree_mask _ _ _ | refine agree_upd rfl ?_ | refine agree_updO rfl ?_ | refine agree_overIn rfl ?_ | refine agree_maskIn rfl ?_)))⟩
      rw [take_succ_getD l 0 hkl]
      refine ⟨fun x hx => ?_, ?_⟩
      · rcases List.mem_append.1 hx with hx | hx
        · exact hD.1 x hx
        · rw [List.mem_singleton] at hx; subst hx; omega
      · rw [List.nodup_append]
        refine ⟨hD.2, by simp, fun u hu v hv => ?_⟩
        rw [List.mem_singleton] at hv; subst hv
        rintro rfl; exact hm hu
  · have hkl : k < l.length := by omega
    refine ret1 rfl (rt rfl) ⟨?_, hE2⟩
    rw [decide_eq_false (hno hkl (.inr (.inl (by omega))))]; rfl
  · have hkl : k < l.length := by omega
    refine ret1 rfl (rt rfl) ⟨?_, hE2⟩
    rw [decide_eq_false (hno hkl (.inl (by omega)))]; rfl
  · obtain rfl : k = l.length := by omega
    rw [List.take_length] at hD
    exact ret1 rfl (rt rfl) ⟨by rw [decide_eq_true hD]; rfl, hE2⟩
set_option maxHeartbeats 1000000 in
theorem rLengths_spec {n : Int} {gens : List (List Int)} {base : List Int} {a b : Option Addr} {sds : List SD} {cap bc : Nat} {w : World} (hL : Lists w .i64 a sds gens) (hl : gens.length ≤ 1000000) (h11 : errS n gens = 0 → n ≤ 11) (hb : Sl w b (intsL base)) (hbl : base.length ≤ 1000) (hbc : base.length ≤ bc) :
    CallsR Try.prog 31 #[.int .i64 n, .slice a gens.length cap, .slice b base.length bc] w fun v w' => Ex w w' ∧ ∃ (r : Option Addr) (c : Nat) (L : List Int), v = .tuple #[.slice r L.length c, .int .i64 (errL n gens base)] ∧ Own w' w.heap.size 3 1 r L.length c (intsL L) ∧
      (errL n gens base ≠ 0 → L = []) ∧ (errL n gens base = 0 → LenOK n.toNat gens base base.length L) := by
  refine callsR_of (args := [_, _, _]) Try.func31 rfl rfl ?_
  repeat' (first | (refine k_pure rfl ?_) | (refine then_normal ?_) | (refine cw_seq ?_) | (refine cw_region rfl ?_) | (refine rr_nil ?_))
  refine k_call (group_ref_spec (n := n) hL cap (by omega)) rfl ?_
  rw [grp_errS]
  rintro v w2 ⟨rfl, hE2⟩
  refine ⟨fun _ _ => trivial, ?_⟩
  repeat' (first | (refine k_pure rfl ?_) | (refine then_normal ?_) | (refine cw_seq ?_) | (refine cw_region rfl ?_) | (refine rr_nil ?_) | (refine cw_cond_dec rfl (fun hc => ?_) (fun hc => ?_)) | (refine cw_ret ?_) | (refine then_ret ?_) | (refine cw_skip ?_))
  · refine ret2 rfl (rt rfl) (rt rfl) ⟨hE2, none, 0, [], ?_, Own.nil _ _ _ _, fun _ => rfl, fun h => ?_⟩
    · rw [errL, if_neg hc]; rfl
    · rw [errL, if_neg hc] at h; exact absurd h hc
  · have h0 : errS n gens = 0 := by omega
    obtain ⟨m, rfl, hm1, hm2, hgl, hgn⟩ := errS_zero h0
    have hm11 : m ≤ 11 := by have := h11 h0; omega
    refine k_call (rdiff_spec (n := m) (hb.ext hE2) hm2 (by omega) hbc) rfl ?_
    rintro v w3 ⟨rfl, hE3⟩
    refine ⟨fun _ _ => trivial, ?_⟩
    have hEw3 := hE2.trans hE3
    by_cases hD : Dist m base
    · rw [decide_eq_true hD]
      have he : errL (m : Int) gens base = 0 := by rw [errL, if_pos h0, Int.toNat_natCast, if_pos hD]
      have hdr := (dist_iff.1 hD).1
      repeat' (first | (refine k_pure rfl ?_) | (refine then_normal ?_) | (refine cw_seq ?_) | (refine cw_region rfl ?_) | (refine rr_nil ?_) | (refine cw_cond_false rfl ?_) | (refine cw_skip ?_))
      refine k_call (rchain_spec (base := base) ⟨hm1, hm2⟩ hm11 hgn (hL.ext hEw3) (by omega) (hb.ext hEw3) hbl hdr) rfl ?_
      rintro v w4 ⟨hE4, ra, rcap, L, rfl, hR, hG, hF⟩
      refine ⟨fun _ _ => trivial, ?_⟩
      have hEw4 := hEw3.trans hE4
      have hbll := hG.bl
      rw [List.length_map] at hbll
      have hcapR := Own.capLe hR.own
      repeat' (first | (refine k_sliceTo rfl rfl (by omega) (by omega) ?_) | (refine k_pure rfl ?_) | (refine then_normal ?_) | (refine rr_nil ?_) | (refine k_len rfl ?_) | (refine cw_block ?_))
      rw [Int.toNat_natCast]
      have z4 := hEw4.size
      refine cw_loop (ι := Nat × List Int × Option Addr × Nat) [9, 11, 30, 31, 32, 33, 34, 35, 36, 37, 38, 39] (fun s => [(30, .int .i64 (s.1 : Int)), (9, .slice s.2.2.1 s.2.1.length s.2.2.2)]) (fun s w' => s.1 ≤ base.length ∧ Ex w4 w' ∧ Own w' w4.heap.size 3 1 s.2.2.1 s.2.1.length s.2.2.2 (intsL s.2.1) ∧ s.2.1.length = s.1 ∧ ∀ i, i < s.1 → ∃ k : Nat, s.2.1.getD i 0 = (k : Int) ∧ OrbLen (PStab (Gen m gens) (base.take i)) (base.getD i 0) k) (fun s => base.length - s.1)
        (0, [], none, 0) ⟨rfl, rfl, trivial⟩ ⟨Nat.zero_le _, Ex.refl _, Own.nil _ _ _ _, rfl, fun i hi => absurd hi (by simp)⟩ ?_
      rintro ⟨i, out, oa, oc⟩ ξ w6 ⟨hi, hE6, ho6, hol, hlen⟩
      simp only at hi ho6 hol hlen
      show CW _ _ _ _ (over [(30, .int .i64 (i : Int)), (9, .slice oa out.length oc)] _) w6
      by_cases hil : i < base.length
      · have hiL : i < L.length := by omega
        have hs4 := hR.own.sl
        obtain ⟨g, o, rfl⟩ := hs4.plain (by rw [cellsL_len]; omega)
        have ok := hR.ok hG i hiL
        have hlv := hR.lv i hiL
        have hget := cellsL_get L i hiL
        have horb := hG.orbLen hF hil
        rw [lvsOf_getD] at horb
        generalize L.getD i rc0 = hl at *
        obtain ⟨h, l⟩ := hl
        simp only at ok hlv hget horb
        repeat' (first | (refine k_lssT rfl rfl (by omega) ?_) | (refine k_index3 (j := i) rfl rfl ⟨_, _, rfl⟩ hil ?_) | (refine k_loadR3 (cs := h.cells l.pt) rfl rfl (hs4.ext hE6) hget ?_) | (refine k_allocA (vs := [.int .i64 0, .slice none 0 0, .slice none 0 0]) (fun g7 w7 hn7 => ⟨fun _ _ => trivial, ?_⟩)) | (refine then_normal ?_) | (refine cw_seq ?_) | (refine cw_region rfl ?_) | (refine rr_nil ?_) | (refine cw_cond_true rfl ?_) | (refine cw_block ?_) | (refine cw_skip ?_))
        refine k_storeV (n := 3) rfl rfl rfl rfl hn7.blk rfl (fun w8 hc8 hb8 => ⟨fun _ _ => trivial, ?_⟩)
        have hE68 : Ex w6 w8 := hn7.ex.chg hc8 hn7.lo
        repeat' (first | (refine k_loadCA rfl hb8 rfl ?_) | (refine k_pure rfl ?_) | (refine then_normal ?_) | (refine cw_region rfl ?_) | (refine rr_nil ?_))
        refine k_call (rsize_spec (hlv.ext (hE6.trans hE68)) ok) rfl ?_
        rintro v w9 ⟨rfl, hE9⟩
        refine ⟨fun _ _ => trivial, ?_⟩
        have hE69 := hE68.trans hE9
        have s6 := hE6.size
        have s9 := hE69.size
        have ho9 := ho6.ext hE69
        refine k_app1I rfl rfl rfl rfl ho9 (by omega) (by omega) (by omega) (fun g10 a10 c10 w10 ho10 hg10 hA10 => ?_)
        repeat' (first | (refine k_pure rfl ?_) | (refine then_normal ?_) | (refine cw_region rfl ?_) | (refine rr_nil ?_) | (refine k_addI rfl rfl (by omega) (by omega) ?_) | (refine in_normal ?_))
        refine ⟨⟨(i + 1, out ++ [((l.orb.length : Nat) : Int)], a10, c10), ⟨by simp only; omega, ho9.grow_ex hg10 (hE6.trans hE69) (Nat.le_refl _), by simp only; rw [List.length_append, List.length_singleton]; exact ho10, by simp only; rw [List.length_append, List.length_singleton, hol], fun q hq => ?_⟩, by simp only; omega, rfl, ?_, trivial⟩, (by (repeat (first | exact agree_mask _ _ _ | refine agree_upd rfl ?_ | refine agree_updO rfl ?_ | refine agree_overIn rfl ?_ | refine agree_maskIn rfl ?_)))⟩
        · simp only at hq ⊢
          rw [getD_snoc (by omega)]
          split
          · rename_i h'; exact hlen q (by omega)
          · obtain rfl : q = i := by omega
            exact ⟨_, rfl, horb⟩
        · show Value.slice a10 (out.length + 1) c10 = .slice a10 (out ++ [_]).length c10
          rw [List.length_append, List.length_singleton]
      · obtain rfl : i = base.length := by omega
        repeat' (first | (refine k_lssF rfl rfl (by omega) ?_) | (refine k_pure rfl ?_) | (refine then_normal ?_) | (refine cw_seq ?_) | (refine cw_region rfl ?_) | (refine rr_nil ?_) | (refine cw_cond_false rfl ?_) | (refine cw_exit ?_) | (refine then_exit ?_) | (refine in_exit ?_) | (refine cw_ret ?_))
        exact ret2 rfl (rt rfl) (rt rfl) ⟨hEw4.trans hE6, oa, oc, out, by rw [he]; rfl, ho6.mono z4, fun h => absurd he h, fun _ => ⟨hol, hlen⟩⟩
    · rw [decide_eq_false hD]
      have he : errL (m : Int) gens base = 1 := by rw [errL, if_pos h0, Int.toNat_natCast, if_neg hD]
      repeat' (first | (refine k_pure rfl ?_) | (refine then_normal ?_) | (refine cw_seq ?_) | (refine cw_region rfl ?_) | (refine rr_nil ?_) | (refine cw_cond_true rfl ?_) | (refine cw_ret ?_) | (refine then_ret ?_))
      refine ret2 rfl (rt rfl) (rt rfl) ⟨hEw3, none, 0, [], by rw [he]; rfl, Own.nil _ _ _ _, fun _ => rfl, fun h => by rw [he] at h; cases h⟩
theorem rStab_spec {n x : Int} {gens : List (List Int)} {a : Option Addr} {sds : List SD} {cap : Nat} {w : World} (hL : Lists w .i64 a sds gens) (hl : gens.length ≤ 1000000) (h11 : errS n gens = 0 → n ≤ 11) :
    CallsR Try.prog 35 #[.int .i64 n, .slice a gens.length cap, .int .i64 x] w fun v w' => ∃ z, v = .tuple #[z, .int .i64 (errT n gens x)] ∧ Ex w w' ∧ (errT n gens x ≠ 0 → IntC w.heap.size w' z 0) ∧ (errT n gens x = 0 → ∃ k : Nat, Card (Stab (Gen n.toNat gens) x) k ∧ IntC w.heap.size w' z (k : Int)) := by
  refine callsR_of (args := [_, _, _]) Try.func35 rfl rfl ?_
  repeat' (first | (refine k_allocA (vs := intL false none 0 0) (fun g4 w1 hn1 => ⟨fun _ _ => trivial, ?_⟩)) | (refine k_pure rfl ?_) | (refine then_normal ?_) | (refine cw_seq ?_) | (refine cw_region rfl ?_) | (refine rr_nil ?_))
  have z1 := hn1.lo; have z1' := hn1.hi
  refine k_call (group_ref_spec (n := n) (hL.ext hn1.ex) cap (by omega)) rfl ?_
  rw [grp_errS]
  rintro v w2 ⟨rfl, hE2⟩
  refine ⟨fun _ _ => trivial, ?_⟩
  have y2 := hE2.size
  have hEw2 := hn1.ex.trans hE2
  have hb2 := hn1.blk.ext hE2
  have hbad : errS n gens = 0 → (x < 0 ∨ n ≤ x) → errT n gens x = 1 := fun h0 hx => by rw [errT, if_pos h0, if_pos hx]
  repeat' (first | (refine k_pure rfl ?_) | (refine then_normal ?_) | (refine cw_seq ?_) | (refine cw_region rfl ?_) | (refine rr_nil ?_) | (refine g_run rfl rfl ?_) | (refine g_skip rfl rfl ?_) | (refine g_dec_f rfl rfl (fun hc => ?_) (fun hc => ?_)) | (refine cw_cond_true rfl ?_) | (refine cw_cond_dec rfl (fun hc => ?_) (fun hc => ?_)) | (refine cw_skip ?_))
  · have he : errT n gens x = errS n gens := by rw [errT, if_neg hc]
    refine k_build (cs := intL false none 0 0) rfl ?_
    repeat' (first | (refine k_pure rfl ?_))
    refine k_storeV (n := 2) rfl rfl rfl rfl hb2 rfl (fun w3 hc3 hb3 => ⟨fun _ _ => trivial, ?_⟩)
    repeat' (first | (refine k_pure rfl ?_) | (refine then_normal ?_) | (refine rr_nil ?_) | (refine cw_ret ?_) | (refine then_ret ?_))
    refine ret2 rfl (rc rfl rfl hb3) (rt rfl) ⟨_, by rw [he]; rfl, hEw2.chg hc3 (by omega), fun _ => IntC.zero _ _, fun h => absurd (he ▸ h) hc⟩
  · have he : errT n gens x = 1 := hbad (by omega) (.inr (by omega))
    refine k_build (cs := intL false none 0 0) rfl ?_
    skip
    refine k_storeV (n := 2) rfl rfl rfl rfl hb2 rfl (fun w3 hc3 hb3 => ⟨fun _ _ => trivial, ?_⟩)
    repeat' (first | (refine k_pure rfl ?_) | (refine then_normal ?_) | (refine rr_nil ?_) | (refine cw_ret ?_) | (refine then_ret ?_))
    refine ret2 rfl (rc rfl rfl hb3) (rt rfl) ⟨_, by rw [he]; rfl, hEw2.chg hc3 (by omega), fun _ => IntC.zero _ _, fun h => by rw [he] at h; cases h⟩
  · have h0 : errS n gens = 0 := by omega
    obtain ⟨m, rfl, hm1, hm2, hgl, hgn⟩ := errS_zero h0
    have hm11 : m ≤ 11 := by have := h11 h0; omega
    have he : errT (m : Int) gens x = 0 := by rw [errT, if_pos h0, if_neg (by omega)]
    refine k_litI1 rfl (fun g w3 hn3 => ⟨fun _ _ => trivial, ?_⟩)
    have hEw3 := hEw2.trans hn3.ex
    have y3 := hn3.ex.size
    refine k_call (rchain_spec (base := [x]) (bc := 1) ⟨hm1, hm2⟩ hm11 hgn (hL.ext hEw3) (by omega) hn3.blk.sl (by simp) (fun i hi => by
      obtain rfl : i = 0 := by simpa using hi
      simp only [List.getD_cons_zero]; omega)) rfl ?_
    rintro v w4 ⟨hE4, ra, rcap, L, rfl, hR, hG, hF⟩
    refine ⟨fun _ _ => trivial, ?_⟩
    have y4 := hE4.size
    have hl1 : 1 ≤ L.length := by have := hG.bl; rw [List.length_map] at this; simpa using this
    have hcapR := Own.capLe hR.own
    obtain ⟨cg, rfl⟩ := hR.own.baPos (by omega)
    have hpl := prod_le (hG.links.drop 1) hm11
    have hll := hG.ll
    have hplL := prod_le hG.links hm11
    rw [List.length_map] at hll
    refine k_sliceFrom (l := 1) rfl rfl hl1 hcapR ?_
    have hsub : Sl w4 (some (if rcap = 1 then ⟨cg, 0, none⟩ else ⟨cg, 0 + 1 * 3, none⟩)) (cellsL (L.drop 1)) := by
      split
      · have : L.drop 1 = [] := List.drop_eq_nil_of_le (by omega)
        rw [this]; exact Sl.nil _ _
      · rw [cellsL_drop]; exact hR.own.sl.drop (1 * 3)
    have hdg : ∀ j, (L.drop 1).getD j rc0 = L.getD (1 + j) rc0 := fun j => by rw [List.getD_eq_getElem?_getD, List.getElem?_drop, ← List.getD_eq_getElem?_getD]
    have hdl : (L.drop 1).length = L.length - 1 := List.length_drop
    have hmd : lvsOf (L.drop 1) = (lvsOf L).drop 1 := List.map_drop
    refine k_call (rSize_spec (L := L.drop 1) (n := m) (cap := rcap - 1) hsub (fun j hj => by rw [hdg]; exact hR.lv _ (by omega)) (fun j hj => by rw [hdg]; exact hR.ok hG _ (by omega)) (by simp at hll; omega) (by rw [hmd]; exact hpl)) (by rw [hdl]; rfl) ?_
    rw [hmd]
    rintro v w5 ⟨hz5, hE5⟩
    refine ⟨fun _ _ => trivial, ?_⟩
    obtain ⟨cs, rfl, hcl, hco⟩ := hz5.out
    have hb5 := ((hb2.ext hn3.ex).ext hE4).ext hE5
    refine k_storeV (n := 2) rfl rfl hcl hco hb5 rfl (fun w6 hc6 hb6 => ⟨fun _ _ => trivial, ?_⟩)
    repeat' (first | (refine k_pure rfl ?_) | (refine then_normal ?_) | (refine rr_nil ?_) | (refine cw_ret ?_))
    have hz6 := (hz5.chgO hc6 (hz5.off_lo (by omega))).mono (lo' := w.heap.size) (by omega)
    refine ret2 rfl (rc rfl hcl hb6) (rt rfl) ⟨_, by rw [he]; rfl, ((hEw3.trans hE4).trans hE5).chg hc6 (by omega), fun h => absurd he h, fun _ => ⟨_, ?_, hz6⟩⟩
    rw [Int.toNat_natCast]
    refine (full_card (hG.links.drop 1) (hF.drop 1)).congr fun p => ?_
    rw [full_stab lv0 1 _ (by rw [List.length_map]; exact hl1) hG.links hF p, hG.grp]
    have hpt := hG.pts 0 (by simp)
    constructor
    · rintro ⟨h1, h2⟩
      have := h2 0 (by omega)
      rw [hpt] at this
      exact ⟨h1, this⟩
    · rintro ⟨h1, h2⟩
      refine ⟨h1, fun j hj => ?_⟩
      obtain rfl : j = 0 := by omega
      rw [hpt]; exact h2
  · have he : errT n gens x = 1 := hbad (by omega) (.inl (by omega))
    refine k_build (cs := intL false none 0 0) rfl ?_
    skip
    refine k_storeV (n := 2) rfl rfl rfl rfl hb2 rfl (fun w3 hc3 hb3 => ⟨fun _ _ => trivial, ?_⟩)
    repeat' (first | (refine k_pure rfl ?_) | (refine then_normal ?_) | (refine rr_nil ?_) | (refine cw_ret ?_) | (refine then_ret ?_))
    refine ret2 rfl (rc rfl rfl hb3) (rt rfl) ⟨_, by rw [he]; rfl, hEw2.chg hc3 (by omega), fun _ => IntC.zero _ _, fun h => by rw [he] at h; cases h⟩
end Go.Proofs.Ythhfjagnmhhapaa

namespace Go.Proofs.Ythhfjagnmhhapaa
open Go.W Go.PM Go.LM
set_option maxHeartbeats 1000000 in
theorem contains_calls {pts : Int} (hp : 0 ≤ pts ∧ pts ≤ 255) {la a1 a2 : Option Addr} {sds : List SD} {Ls : List (List Int)} {l1 raw : List Int} {w : World} (hL : Lists w .i8 la sds Ls) (hI : ∀ i, I8 (Ls.getD i [])) (c : Nat) (hl : Ls.length ≤ 9223372036854775807) (few : Bool)
    (hs1 : Sl w a1 (int8L l1)) (hi1 : I8 l1) (hs2 : Sl w a2 (intsL raw)) (c1 c2 : Nat) :
    CallsR Try.prog 5 #[.agg (permsL pts la Ls.length c few).toArray, .slice a1 l1.length c1, .slice a2 raw.length c2] w fun v w' => v = .bool true ∧ Ex w w' := by
  refine callsR_of (args := [_, _, _]) Try.func5 rfl rfl ?_
  repeat' (first | (refine k_boxA rfl (fun g w1 hn1 => ⟨fun _ _ => trivial, ?_⟩)) | (refine k_pure rfl ?_) | (refine then_normal ?_) | (refine cw_seq ?_) | (refine cw_region rfl ?_) | (refine rr_nil ?_))
  have hd1 : 0 ≤ pts % 8 := Int.emod_nonneg _ (by omega)
  have hd2 : pts % 8 < 8 := Int.emod_lt_of_pos _ (by omega)
  obtain ⟨n, hn⟩ : ∃ n : Nat, 1 + pts % 8 = (n : Int) := ⟨(1 + pts % 8).toNat, by omega⟩
  have hn8 : 1 ≤ n ∧ n ≤ 8 := by omega
  refine cw_draw (late := []) (plan := [(0, none), (2, none), (1, some true), (3, some true), (4, none), (5, none)]) (fun w' => Blk w' g 35 (permsL pts la Ls.length c few)) mixed (by kernel_rfl) hn1.blk.drew ?_
  have hE1 : Ex w w1.drew := hn1.ex.drew
  repeat' (first | (refine k_loadCA rfl (fun _ h => h) rfl ?_))
  refine k_call (degree_spec hp _ _ _ _ (by omega) _) rfl ?_
  rintro v w2 ⟨rfl, hE2⟩
  refine ⟨fun _ h => h.ext hE2, ?_⟩
  rw [hn]
  refine k_call (gens_spec hp (by omega) hn (hL.ext (hE1.trans hE2)) hI _ hl few) rfl ?_
  rintro v w3 ⟨b, cc, ss, xss, rfl, hO, hx3, hG, hA, hE3⟩
  refine ⟨fun _ h => h.ext hE3, ?_⟩
  have hE03 : Ex w w3 := (hE1.trans hE2).trans hE3
  have hLs := hO.lists
  have hle := hLs.len
  rw [hle]
  have hes : errS (n : Int) xss = 0 := errS_ok hn8.1 (by omega) (by omega) hG
  repeat' (first | (refine k_pure rfl ?_) | (refine then_normal ?_) | (refine cw_seq ?_) | (refine cw_region rfl ?_) | (refine rr_nil ?_))
  refine k_call (perm_spec (hs1.ext hE03) hi1 c1 n hn8.1 (by omega)) rfl ?_
  generalize permF l1 n = p4
  rintro v w4 ⟨b4, c4, rfl, hO4, hE4⟩
  refine ⟨fun _ _ => trivial, ?_⟩
  repeat' (first | (refine k_pure rfl ?_))
  refine k_lit (cs := ([(⟨b4, p4.length, c4⟩ : SD), ⟨a2, raw.length, c2⟩].map SD.val).toArray) rfl (by kernel_rfl) (fun g5 w5 hn5 => ⟨fun _ _ => trivial, ?_⟩)
  have hLq : Lists w5 .i64 (some ⟨g5, 0, none⟩) [⟨b4, p4.length, c4⟩, ⟨a2, raw.length, c2⟩] [p4, raw] := Lists.of hn5.blk.sl ⟨⟨hO4.sl.ext hn5.ex, rfl⟩, ⟨((hs2.ext hE03).ext hE4).ext hn5.ex, rfl⟩, trivial⟩
  have hE35 := hE4.trans hn5.ex
  repeat' (first | (refine k_pure rfl ?_) | (refine then_normal ?_) | (refine rr_nil ?_) | (refine k_len rfl ?_) | (refine cw_block ?_))
  refine cw_loop (ι := Nat) [6, 10, 11, 12, 13, 14, 25, 26, 27, 28, 29, 30, 31, 32, 33, 34, 35, 36, 37, 38, 39, 40, 41, 42, 43, 44, 45, 46, 47, 48, 49, 50, 51] (fun s => [(25, .int .i64 (s : Int))]) (fun s w' => s ≤ 2 ∧ Ex w5 w') (fun s => 2 - s)
    0 ⟨rfl, trivial⟩ ⟨by omega, Ex.refl _⟩ ?_
  rintro i ξ w6 ⟨hi, hE6⟩
  show CW _ _ _ _ (over [(25, .int .i64 (i : Int))] _) w6
  have hE36 := hE35.trans hE6
  have hLq6 := hLq.ext hE6
  by_cases hi2 : i < 2
  · obtain ⟨hsl, hsn⟩ := hLq6.each i hi2
    obtain ⟨⟨sa, sl, sc⟩, hsd⟩ : ∃ s, [(⟨b4, p4.length, c4⟩ : SD), ⟨a2, raw.length, c2⟩].getD i sd0 = s := ⟨_, rfl⟩
    rw [hsd] at hsl hsn
    simp only at hsl hsn
    subst hsn
    generalize [p4, raw].getD i [] = q at *
    repeat' (first | (refine k_lssT rfl rfl (by omega) ?_) | (refine k_indexN (j := i) rfl rfl ⟨_, _, rfl⟩ hi2 ?_) | (refine k_loadSd rfl hLq6.sl hi2 hsd ?_) | (refine k_pure rfl ?_) | (refine then_normal ?_) | (refine cw_seq ?_) | (refine cw_region rfl ?_) | (refine rr_nil ?_) | (refine cw_cond_true rfl ?_) | (refine cw_block ?_) | (refine cw_skip ?_))
    refine k_call (sContains_spec (n := (n : Int)) (p := q) (bc := sc) (cap := cc) (hLs.ext hE36) (by omega) (fun _ => by omega) hsl) rfl ?_
    rintro v w7 ⟨hE7, t7, rfl, ht7⟩
    refine ⟨fun _ _ => trivial, ?_⟩
    repeat' (first | (refine k_pure rfl ?_) | (refine then_normal ?_) | (refine cw_seq ?_) | (refine cw_region rfl ?_) | (refine rr_nil ?_))
    refine k_call (rContains_spec (n := (n : Int)) (p := q) (bc := sc) (cap := cc) (hLs.ext (hE36.trans hE7)) (by omega) (fun _ => by omega) (hsl.ext hE7)) rfl ?_
    rintro v w8 ⟨hE8, t8, rfl, ht8⟩
    refine ⟨fun _ _ => trivial, ?_⟩
    have htt : t8 = t7 := by
      rw [← ht7] at ht8
      cases t7 <;> cases t8 <;> simp_all
    subst htt
    repeat' (first | (refine k_neqF rfl rfl ?_) | (refine k_neqI rfl rfl ?_) | (refine k_pure rfl ?_) | (refine then_normal ?_) | (refine cw_seq ?_) | (refine cw_region rfl ?_) | (refine rr_nil ?_) | (refine g_run rfl rfl ?_) | (refine k_addI rfl rfl (by omega) (by omega) ?_) | (refine cw_cond_false rfl ?_) | (refine in_normal ?_) | (refine cw_skip ?_))
    refine ⟨⟨i + 1, ⟨by omega, (hE6.trans hE7).trans hE8⟩, by omega, rfl, trivial⟩, (by (repeat (first | exact agree_mask _ _ _ | refine agree_upd rfl ?_ | refine agree_updO rfl ?_ | refine agree_overIn rfl ?_ | refine agree_maskIn rfl ?_)))⟩
  · repeat' (first | (refine k_lssF rfl rfl (by omega) ?_) | (refine then_normal ?_) | (refine cw_seq ?_) | (refine cw_region rfl ?_) | (refine rr_nil ?_) | (refine cw_cond_false rfl ?_) | (refine cw_exit ?_) | (refine then_exit ?_) | (refine in_exit ?_))
    refine k_call (awakeS_spec _) rfl ?_
    rintro v w11 ⟨rfl, hE11⟩
    refine ⟨fun _ _ => trivial, ?_⟩
    repeat' (first | (refine k_pure rfl ?_) | (refine then_normal ?_) | (refine rr_nil ?_) | (refine cw_ret ?_))
    exact ret1 rfl (rt rfl) ⟨rfl, (hE03.trans hE36).trans hE11⟩
end Go.Proofs.Ythhfjagnmhhapaa

