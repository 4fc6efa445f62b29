
import Derived.Test.YthhfjagnmhhapaaA01
import Derived.Test.YthhfjagnmhhapaaA02
import Derived.Test.YthhfjagnmhhapaaA03
import Derived.Test.YthhfjagnmhhapaaA04
import Derived.Test.YthhfjagnmhhapaaA05
import Derived.Test.YthhfjagnmhhapaaA06
import Derived.Test.YthhfjagnmhhapaaA07
import Derived.Test.YthhfjagnmhhapaaA08
import Derived.Test.YthhfjagnmhhapaaA09
import Derived.Test.YthhfjagnmhhapaaA10
import Derived.Test.YthhfjagnmhhapaaA11
import Derived.Test.YthhfjagnmhhapaaA13
import Derived.Test.YthhfjagnmhhapaaA16
import Derived.Test.YthhfjagnmhhapaaA17
import Derived.Test.YthhfjagnmhhapaaA18
import Derived.Test.YthhfjagnmhhapaaA19
import Derived.Test.YthhfjagnmhhapaaA20
import Derived.Test.YthhfjagnmhhapaaA22
import Derived.Test.YthhfjagnmhhapaaB01
import Derived.Test.YthhfjagnmhhapaaB02

namespace Go.Proofs.Ythhfjagnmhhapaa
open Go.W Go.PM Go.LM
set_option maxHeartbeats 4000000 in
theorem sVerify_spec {n deg : Int} {gens S : List (List Int)} {base : List Int} {a b sa : Option Addr} {sds ssd : List SD} {cap bc sc : Nat} {w : World} (hL : Lists w .i64 a sds gens) (hl : gens.length ≤ 1000000) (h11 : errS n gens = 0 → n ≤ 11) (hb : Sl w b (intsL base)) (hbl : base.length ≤ 1000)
    (hS : Lists w .i64 sa ssd S) (hSl : S.length ≤ 1000000) :
    CallsR Try.prog 37 #[.int .i64 n, .slice a gens.length cap, .agg (chainL deg b base.length bc sa S.length sc).toArray] w fun v w' => ∃ e, v = .int .i64 e ∧ ErrV n gens deg base S e ∧ Ex w w' := by
  refine callsR_of (args := [_, _, _]) Try.func37 rfl rfl ?_
  have hSlen := hS.len
  repeat' (first | (refine k_boxA rfl (fun g w1 hn1 => ⟨fun _ _ => trivial, ?_⟩)) | (refine k_pure rfl ?_) | (refine then_normal ?_) | (refine cw_seq ?_) | (refine cw_region rfl ?_) | (refine rr_nil ?_))
  refine k_call (chkS_spec (n := n) (hL.ext hn1.ex) hl) rfl ?_
  rintro v w2 ⟨rfl, hE2⟩
  refine ⟨fun _ _ => trivial, ?_⟩
  have hEw2 := hn1.ex.trans hE2
  have hb2 := hn1.blk.ext hE2
  by_cases h0 : errS n gens ≠ 0
  · repeat' (first | (refine k_loadC rfl hb2 rfl ?_) | (refine k_pure rfl ?_) | (refine then_normal ?_) | (refine cw_seq ?_) | (refine cw_region rfl ?_) | (refine rr_nil ?_) | (refine k_len rfl ?_) | (refine g_run rfl rfl ?_) | (refine g_skip rfl rfl ?_) | (refine g_dec_f rfl rfl (fun hc => ?_) (fun hc => ?_)) | (refine k_fieldAddr rfl ?_) | (refine cw_cond_true rfl ?_) | (refine cw_cond_dec rfl (fun hc => ?_) (fun hc => ?_)) | (refine cw_ret ?_) | (refine then_ret ?_) | (refine cw_skip ?_))
    · exact ret1 rfl (rt rfl) ⟨_, rfl, .inl ⟨h0, rfl⟩, hEw2⟩
    all_goals omega
  replace h0 : errS n gens = 0 := by omega
  rw [h0]
  by_cases h4 : 4096 < S.length
  · repeat' (first | (refine k_loadC rfl hb2 rfl ?_) | (refine k_gtrT rfl rfl (by omega) ?_) | (refine k_pure rfl ?_) | (refine then_normal ?_) | (refine cw_seq ?_) | (refine cw_region rfl ?_) | (refine rr_nil ?_) | (refine k_len rfl ?_) | (refine k_fieldAddr rfl ?_) | (refine cw_cond_true rfl ?_) | (refine cw_cond_false rfl ?_) | (refine cw_ret ?_) | (refine then_ret ?_) | (refine cw_skip ?_))
    exact ret1 rfl (rt rfl) ⟨_, rfl, .inr ⟨h0, .inl ⟨h4, rfl⟩⟩, hEw2⟩
  have hbad : ∀ w', Ex w w' → ¬ (deg = n ∧ Dist n.toNat base ∧ permsB n S = true) → ∃ e, Value.int .i64 3 = .int .i64 e ∧ ErrV n gens deg base S e ∧ Ex w w' := fun w' hE hn => ⟨3, rfl, .inr ⟨h0, .inr ⟨by omega, .inl ⟨hn, rfl⟩⟩⟩, hE⟩
  by_cases hdeg : deg ≠ n
  · repeat' (first | (refine k_loadC rfl hb2 rfl ?_) | (refine k_gtrF rfl rfl (by omega) ?_) | (refine k_pure rfl ?_) | (refine then_normal ?_) | (refine cw_seq ?_) | (refine cw_region rfl ?_) | (refine rr_nil ?_) | (refine k_len rfl ?_) | (refine g_run rfl rfl ?_) | (refine g_skip rfl rfl ?_) | (refine g_dec_f rfl rfl (fun hc => ?_) (fun hc => ?_)) | (refine k_fieldAddr rfl ?_) | (refine cw_cond_true rfl ?_) | (refine cw_cond_false rfl ?_) | (refine cw_ret ?_) | (refine then_ret ?_) | (refine cw_skip ?_))
    · omega
    · exact ret1 rfl (rt rfl) (hbad _ hEw2 fun h => hdeg h.1)
  replace hdeg : deg = n := by omega
  subst hdeg
  obtain ⟨m, rfl, hm1, hm2, hgl, hgn⟩ := errS_zero h0
  have hm11 : m ≤ 11 := by have := h11 h0; omega
  repeat' (first | (refine k_loadC rfl hb2 rfl ?_) | (refine k_gtrF rfl rfl (by omega) ?_) | (refine k_neqI rfl rfl ?_) | (refine k_pure rfl ?_) | (refine then_normal ?_) | (refine cw_seq ?_) | (refine cw_region rfl ?_) | (refine rr_nil ?_) | (refine k_len rfl ?_) | (refine g_run rfl rfl ?_) | (refine k_fieldAddr rfl ?_) | (refine cw_cond_false rfl ?_) | (refine cw_skip ?_))
  refine k_call (diff_spec (n := m) (hb.ext hEw2) hm2 (by omega)) rfl ?_
  rintro v w3 ⟨rfl, hE3⟩
  refine ⟨fun _ _ => trivial, ?_⟩
  have hEw3 := hEw2.trans hE3
  have hb3 := hb2.ext hE3
  by_cases hD : ¬ Dist m base
  · rw [decide_eq_false hD]
    repeat' (first | (refine k_pure rfl ?_) | (refine then_normal ?_) | (refine cw_seq ?_) | (refine cw_region rfl ?_) | (refine rr_nil ?_) | (refine g_run rfl rfl ?_) | (refine g_skip rfl rfl ?_) | (refine cw_cond_true rfl ?_) | (refine cw_ret ?_) | (refine then_ret ?_))
    exact ret1 rfl (rt rfl) (hbad _ hEw3 fun h => hD (by have := h.2.1; rwa [Int.toNat_natCast] at this))
  replace hD : Dist m base := Classical.not_not.1 hD
  rw [decide_eq_true hD]
  repeat' (first | (refine k_loadC rfl hb3 rfl ?_) | (refine k_pure rfl ?_) | (refine g_run rfl rfl ?_) | (refine k_fieldAddr rfl ?_))
  refine k_call (perms_spec (n := (m : Int)) (hS.ext hEw3) hSl) rfl ?_
  rintro v w4 ⟨rfl, hE4⟩
  refine ⟨fun _ _ => trivial, ?_⟩
  have hEw4 := hEw3.trans hE4
  have hb4 := hb3.ext hE4
  by_cases hSB : permsB (m : Int) S = false
  · rw [hSB]
    repeat' (first | (refine k_pure rfl ?_) | (refine then_normal ?_) | (refine cw_seq ?_) | (refine cw_region rfl ?_) | (refine rr_nil ?_) | (refine g_run rfl rfl ?_) | (refine cw_cond_true rfl ?_) | (refine cw_ret ?_) | (refine then_ret ?_))
    exact ret1 rfl (rt rfl) (hbad _ hEw4 fun h => by rw [hSB] at h; exact nomatch h.2.2)
  replace hSB : permsB (m : Int) S = true := by cases h : permsB (m : Int) S with | true => rfl | false => exact absurd h hSB
  rw [hSB]
  have hSN : GensN m S := permsB_iff.1 hSB
  have hgood : (m : Int) = (m : Int) ∧ Dist (m : Int).toNat base ∧ permsB (m : Int) S = true := ⟨rfl, by rw [Int.toNat_natCast]; exact hD, hSB⟩
  have hfin : ∀ w' e, Ex w w' → IsV m gens base S e → ∃ e', Value.int .i64 e = .int .i64 e' ∧ ErrV (m : Int) gens (m : Int) base S e' ∧ Ex w w' := fun w' e hE hv => ⟨e, rfl, .inr ⟨h0, .inr ⟨by omega, .inr ⟨hgood, by rw [Int.toNat_natCast]; exact hv⟩⟩⟩, hE⟩
  have hdr := (dist_iff.1 hD).1
  have hbr : ∀ x ∈ base, 0 ≤ x ∧ x < (m : Int) := hD.1
  have hgrp := gen_grp ⟨hm1, hm2⟩ hgn
  have hokiff := ok_iff hgrp hbr hSN
  repeat' (first | (refine k_loadC rfl hb4 rfl ?_) | (refine k_pure rfl ?_) | (refine then_normal ?_) | (refine cw_seq ?_) | (refine cw_region rfl ?_) | (refine rr_nil ?_) | (refine g_run rfl rfl ?_) | (refine k_fieldAddr rfl ?_) | (refine cw_cond_false rfl ?_) | (refine cw_skip ?_))
  refine k_call (chBuild_spec (base := base) ⟨hm1, hm2⟩ hm11 hgn (hL.ext hEw4) (by omega) (hb.ext hEw4) hbl hdr) rfl ?_
  rintro v w6 ⟨hE6, c, ls, rfl, hC, hG, hF⟩
  refine ⟨fun _ _ => trivial, ?_⟩
  have hEw6 := hEw4.trans hE6
  have hb6 := hb4.ext hE6
  have hbll := hG.bl
  have hpl := prod_le hG.links hm11
  have hll := hG.ll
  have htriv := hG.triv hF
  have hstr := hC.str
  unfold chL at hstr
  have hml := hC.mok.1
  repeat' (first | (refine k_pure rfl ?_) | (refine then_normal ?_) | (refine cw_seq ?_) | (refine rr_nil ?_))
  refine cw_draw (late := []) (plan := [(0, none), (1, none), (2, none), (3, none), (5, none), (6, none), (7, none), (4, some true), (8, none)]) (fun w' => Ex w6 w') mixed (by kernel_rfl) (Ex.refl _).drew ?_
  have hE6d : Ex w6 w6.drew := (Ex.refl _).drew
  by_cases hlen : base.length < ls.length
  · repeat' (first | (refine k_loadC (g := c.cb) rfl (fun _ h => hstr.ext h) rfl ?_) | (refine k_loadC (g := g) rfl (fun _ h => hb6.ext h) rfl ?_) | (refine k_lenMap mapT rfl (hC.ext hE6d).map ?_) | (refine k_gtrT rfl rfl (by omega) ?_) | (refine k_pure rfl ?_) | (refine then_normal ?_) | (refine cw_seq ?_) | (refine cw_region rfl ?_) | (refine rr_nil ?_) | (refine k_len rfl ?_) | (refine k_fieldAddr rfl ?_) | (refine cw_cond_true rfl ?_) | (refine cw_ret ?_) | (refine then_ret ?_))
    exact ret1 rfl (rt rfl) (hfin _ 10 (hEw6.trans hE6d) (.inr ⟨fun h => by have := htriv.2 h.triv; omega, rfl⟩))
  have hlb : ls.length = base.length := by omega
  have htr := htriv.1 (by omega)
  repeat' (first | (refine k_loadC (g := c.cb) rfl (fun _ h => hstr.ext h) rfl ?_) | (refine k_loadC (g := g) rfl (fun _ h => hb6.ext h) rfl ?_) | (refine k_lenMap mapT rfl (hC.ext hE6d).map ?_) | (refine k_gtrF rfl rfl (by omega) ?_) | (refine k_pure rfl ?_) | (refine then_normal ?_) | (refine cw_seq ?_) | (refine cw_region rfl ?_) | (refine rr_nil ?_) | (refine k_len rfl ?_) | (refine k_fieldAddr rfl ?_) | (refine cw_cond_false rfl ?_) | (refine cw_skip ?_))
  have hb6d := hb6.ext hE6d
  repeat' (first | (refine k_loadC (g := g) rfl hb6d rfl ?_) | (refine k_makeS (n := base.length + 1) rfl rfl (by omega) (by omega) (fun gs w7 hn7 => ⟨fun _ _ => trivial, ?_⟩)) | (refine k_pure rfl ?_) | (refine then_normal ?_) | (refine cw_seq ?_) | (refine cw_region rfl ?_) | (refine rr_nil ?_) | (refine k_len rfl ?_) | (refine k_addI rfl rfl (by omega) (by omega) ?_) | (refine k_fieldAddr rfl ?_))
  have hE7 : Ex w6 w7 := hE6d.trans hn7.ex
  have hgs1 : w6.heap.size ≤ gs := by have := hn7.lo; have := hE6d.size; omega
  have hb7 := hb6.ext hE7
  repeat' (first | (refine k_loadC (g := g) rfl hb7 rfl ?_) | (refine k_pure rfl ?_) | (refine then_normal ?_) | (refine rr_nil ?_) | (refine k_len rfl ?_) | (refine cw_block ?_))
  refine cw_loop (ι := Nat × List SD × List (List (List Int))) [6, 11, 12, 67, 68, 69, 70, 71, 72, 73, 74, 75, 76, 77, 78, 79, 80, 81, 82, 83, 84, 85, 86, 87, 88, 89, 90, 91, 92, 93, 94, 95, 96, 97, 98, 99, 100, 101, 102, 103, 104, 105, 106, 107, 108, 109] (fun s => [(67, .int .i64 (s.1 : Int))])
    (fun s w' => s.1 ≤ S.length ∧ Ex w6 w' ∧ StAt w' w6.heap.size m gs s.2.1 s.2.2 ∧ s.2.2.length = base.length + 1 ∧ (∀ j, j < s.1 → Gen m gens (S.getD j [])) ∧ (∀ j, j ≤ base.length → ∀ s', s' ∈ s.2.2.getD j [] ↔ s' ∈ S.take s.1 ∧ FC base s' j) ∧ ∀ j, (s.2.2.getD j []).length ≤ s.1) (fun s => S.length - s.1)
    (0, List.replicate (base.length + 1) sd0, List.replicate (base.length + 1) []) ⟨rfl, trivial⟩ ⟨Nat.zero_le _, hE7, StAt.new hn7.blk, by simp, fun j hj => absurd hj (by simp), fun j hj s' => by simp [List.getD_eq_getElem?_getD, show j < base.length + 1 by omega], fun j => by simp only [List.getD_eq_getElem?_getD, List.getElem?_replicate]; split <;> simp⟩ ?_
  rintro ⟨k, ss, ps⟩ ξ w8 ⟨hk, hE8, hSt, hpsl, hmem, hps, hcnt⟩
  simp only at hk hSt hpsl hmem hps hcnt
  show CW _ _ _ _ (over [(67, .int .i64 (k : Int))] _) w8
  have hEw8 := hEw6.trans hE8
  have hS8 := hS.ext hEw8
  have hb8 := hb6.ext hE8
  by_cases hkl : k < S.length
  · obtain ⟨hsl, hsn⟩ := hS8.each k hkl
    obtain ⟨⟨pa, pl, pc⟩, hsd⟩ : ∃ s, ssd.getD k sd0 = s := ⟨_, rfl⟩
    rw [hsd] at hsl hsn
    simp only at hsl hsn
    have pp := hSN _ (getD_mem (d := []) hkl)
    have htk : S.take (k + 1) = S.take k ++ [S.getD k []] := take_succ_getD S [] hkl
    obtain rfl : pl = m := by rw [hsn]; exact pp.2
    repeat' (first | (refine k_lssT rfl rfl (by omega) ?_) | (refine k_indexN (j := k) rfl rfl (hS8.sl.plain (by simp; omega)) (by omega) ?_) | (refine k_loadSd rfl hS8.sl (by omega) hsd ?_) | (refine k_pure rfl ?_) | (refine then_normal ?_) | (refine cw_seq ?_) | (refine cw_region rfl ?_) | (refine rr_nil ?_) | (refine cw_cond_true rfl ?_) | (refine cw_block ?_) | (refine cw_skip ?_))
    refine k_call (chContains_spec (p := S.getD k []) (a := pa) (cap := pc) hm11 (hC.ext hE8) hG (by omega) hF pp hsl) rfl ?_
    rintro v w9 ⟨hE9, t, rfl, ht⟩
    refine ⟨fun _ _ => trivial, ?_⟩
    have hE69 := hE8.trans hE9
    cases t with
    | false =>
      repeat' (first | (refine k_pure rfl ?_) | (refine then_normal ?_) | (refine cw_seq ?_) | (refine cw_region rfl ?_) | (refine rr_nil ?_) | (refine cw_cond_true rfl ?_) | (refine cw_ret ?_) | (refine then_ret ?_) | (refine in_ret ?_))
      exact ret1 rfl (rt rfl) (hfin _ 10 (hEw8.trans hE9) (.inr ⟨fun h => (nomatch (ht.2 (h.sub _ (getD_mem hkl)))), rfl⟩))
    | true =>
      have hin := ht.1 rfl
      generalize hsk : S.getD k [] = sk at *
      have hskl := pp.2
      repeat' (first | (refine k_pure rfl ?_) | (refine then_normal ?_) | (refine cw_seq ?_) | (refine cw_region rfl ?_) | (refine rr_nil ?_) | (refine cw_cond_false rfl ?_) | (refine cw_block ?_) | (refine cw_skip ?_))
      refine cw_loop (ι := Nat) [12, 75, 76, 77, 78, 79, 80, 81, 82, 83, 84, 85, 86, 87, 88, 89, 90, 91, 92, 93, 94, 95, 96, 97] (fun s => [(12, .int .i64 (s : Int))]) (fun s w' => s ≤ base.length ∧ Ex w9 w' ∧ ∀ x ∈ base.take s, ap sk x = x) (fun s => base.length - s)
        0 ⟨rfl, trivial⟩ ⟨Nat.zero_le _, Ex.refl _, fun x hx => by simp at hx⟩ ?_
      rintro f ξ2 w10 ⟨hf, hE10, hfx⟩
      show CW _ _ _ _ (over [(12, .int .i64 (f : Int))] _) w10
      have hb9 := hb8.ext hE9
      have hEw9 := hEw8.trans hE9
      have hE10d : Ex w9 w10.drew := hE10.drew
      by_cases hcont : f < base.length ∧ ap sk (base.getD f 0) = base.getD f 0
      · obtain ⟨hfl, heq⟩ := hcont
        have hbi := hbr _ (getD_mem (d := 0) hfl)
        obtain ⟨x, hx⟩ : ∃ x : Nat, base.getD f 0 = (x : Int) := ⟨(base.getD f 0).toNat, by omega⟩
        have hap : ap sk (base.getD f 0) = sk.getD x 0 := by unfold ap; rw [hx, Int.toNat_natCast]
        rw [hap] at heq
        repeat' (first | (refine cw_seq ?_))
        refine cw_draw (late := []) (plan := [(0, none), (1, none), (2, none), (3, none), (4, none), (5, none), (6, none), (7, none), (8, none), (9, none), (10, none), (11, none), (12, none), (13, none), (14, none), (15, none), (16, none), (17, none), (18, none), (19, none), (20, none)]) (fun w' => Ex w9 w') mixed (by kernel_rfl) hE10d ?_
        repeat' (first | (refine k_loadC (g := g) rfl (fun _ h => hb9.ext h) rfl ?_) | (refine k_lssT rfl rfl (by omega) ?_) | (refine k_indexN (j := f) rfl rfl (hb.plain (by rw [List.length_map]; omega)) (by omega) ?_) | (refine k_loadI rfl (fun _ h => hb.ext (hEw9.trans h)) (by omega) ?_) | (refine k_indexN (j := x) (a := pa) (l := pl) (c := pc) rfl (congrArg _ hx) (hsl.plain (by rw [List.length_map]; omega)) (by omega) ?_) | (refine k_loadI (a := pa) rfl (fun _ h => hsl.ext (hE9.trans h)) (by omega) ?_) | (refine k_eqT rfl rfl heq ?_) | (refine k_pure rfl ?_) | (refine then_normal ?_) | (refine cw_region rfl ?_) | (refine rr_nil ?_) | (refine k_len rfl ?_) | (refine g_run rfl rfl ?_) | (refine k_addI rfl rfl (by omega) (by omega) ?_) | (refine k_fieldAddr rfl ?_) | (refine cw_cond_true rfl ?_) | (refine cw_block ?_) | (refine in_normal ?_) | (refine cw_skip ?_))
        refine ⟨⟨f + 1, ⟨by omega, hE10d, fun y hy => ?_⟩, by omega, rfl, trivial⟩, (by (repeat (first | exact agree_mask _ _ _ | refine agree_upd rfl ?_ | refine agree_updO rfl ?_ | refine agree_overIn rfl ?_ | refine agree_maskIn rfl ?_)))⟩
        rw [take_succ_getD base 0 hfl] at hy
        rcases List.mem_append.1 hy with hy | hy
        · exact hfx y hy
        · rw [List.mem_singleton] at hy; rw [hy, hap]; exact heq
      · have hFC : FC base sk f := ⟨hf, hfx, fun hfl he => hcont ⟨hfl, he⟩⟩
        have hSt10 := (hSt.ext hE9).ext hE10d
        have hE610 := hE69.trans hE10d
        have hffl : f < ps.length := by omega
        obtain ⟨sdl, im, hOw, hle, hPs, him⟩ := hSt10.each f hffl
        obtain ⟨⟨qa, ql, qc⟩, hsf⟩ : ∃ s, ss.getD f sd0 = s := ⟨_, rfl⟩
        have hOw' := hOw
        rw [hsf] at hOw hle
        simp only at hOw hle
        subst hle
        have s10 := hE610.size
        have hssl := hSt10.len
        have hgsl := hSt10.top.lt
        by_cases hfl : f < base.length
        all_goals
          have hbi := fun h : f < base.length => hbr _ (getD_mem (d := 0) h)
          obtain ⟨x, hx⟩ : ∃ x : Nat, f < base.length → base.getD f 0 = (x : Int) := ⟨(base.getD f 0).toNat, fun h => by have := hbi h; omega⟩
          have hne : f < base.length → sk.getD x 0 ≠ base.getD f 0 := fun h e => hFC.2.2 h (by unfold ap; rw [hx h, Int.toNat_natCast, e, hx h])
          repeat' (first | (refine cw_seq ?_))
          refine cw_draw (late := []) (plan := [(0, none), (1, none), (2, none), (3, none), (4, none), (5, none), (6, none), (7, none), (8, none), (9, none), (10, none), (11, none), (12, none), (13, none), (14, none), (15, none), (16, none), (17, none), (18, none), (19, none), (20, none)]) (fun w' => Ex w9 w') mixed (by kernel_rfl) hE10d ?_
          repeat' (first | (refine k_loadC (g := g) rfl (fun _ h => hb9.ext h) rfl ?_) | (refine k_lssT rfl rfl (by omega) ?_) | (refine k_lssF rfl rfl (by omega) ?_) | (refine k_indexN (j := f) rfl rfl (hb.plain (by rw [List.length_map]; omega)) (by omega) ?_) | (refine k_loadI rfl (fun _ h => hb.ext (hEw9.trans h)) (by omega) ?_) | (refine k_indexN (j := x) (a := pa) (l := pl) (c := pc) rfl (congrArg _ (hx hfl)) (hsl.plain (by rw [List.length_map]; omega)) (by have := hbi hfl; have := hx hfl; omega) ?_) | (refine k_loadI (a := pa) rfl (fun _ h => hsl.ext (hE9.trans h)) (by have := hbi hfl; have := hx hfl; omega) ?_) | (refine k_eqF rfl rfl (hne hfl) ?_) | (refine k_pure rfl ?_) | (refine then_normal ?_) | (refine rr_nil ?_) | (refine k_len rfl ?_) | (refine g_run rfl rfl ?_) | (refine g_skip rfl rfl ?_) | (refine k_fieldAddr rfl ?_) | (refine cw_cond_false rfl ?_) | (refine cw_exit ?_) | (refine then_exit ?_) | (refine in_exit ?_))
          refine cw_draw (late := [9, 11]) (plan := [(0, none), (1, none), (2, none), (3, none), (4, none), (5, none), (6, none), (7, some true), (8, some true), (9, some false), (10, none), (11, some false)]) (fun w' => Ex w10.drew w') mixed (by kernel_rfl) (Ex.refl _).drew ?_
          have hEdd : Ex w10.drew w10.drew.drew := (Ex.refl _).drew
          repeat' (first | (refine k_indexN (j := f) rfl rfl ⟨_, _, rfl⟩ (by omega) ?_) | (refine k_loadSd rfl (fun _ h => (hSt10.top.ext h).sl) (by omega) hsf ?_) | (refine k_pure rfl ?_))
          refine k_call (toPerm_spec (xs := sk) ((hsl.ext (hE9.trans hE10d)).ext hEdd) pc (fun z hz => by have := pp.1.lt (k := z) hz; omega) (by omega)) (by rw [hskl]; rfl) ?_
          rintro v w11 ⟨pg, rfl, hpg, hpb, hE11⟩
          refine ⟨fun _ h => h.trans hE11, ?_⟩
          rw [hskl]
          have hE10_11 : Ex w10.drew w11 := hEdd.trans hE11
          refine k_lit1 (v := .slice (some ⟨pg, 0, none⟩) pl pl) rfl rfl (fun g12 w12 hn12 => ⟨fun _ h => h.trans hn12.ex, ?_⟩)
          have hE10_12 := hE10_11.trans hn12.ex
          have s12 := hE10_12.size
          have hsdl : sdl.length ≤ 1000000 := by
            have h1 := hPs.len
            have h2 := hcnt f
            omega
          have hownne : (Value.slice qa sdl.length qc).ownBlock ≠ some gs := fun e => by
            cases ha : qa with
            | none => rw [ha] at e; cases e
            | some ad =>
              rw [ha] at e
              have e2 : ad.block = gs := by simpa [Value.ownBlock] using e
              exact hSt10.ne f ad (by rw [hsf]; exact ha) e2
          have hownlo : ∀ q, (Value.slice qa sdl.length qc).ownBlock = some q → w6.heap.size ≤ q := fun q e => by
            cases ha : qa with
            | none => rw [ha] at e; cases e
            | some ad =>
              have := (hOw.lo ad ha).1
              rw [ha] at e
              have e2 : ad.block = q := by simpa [Value.ownBlock] using e
              omega
          refine k_append (s := 1) (E := 110) (news := [Value.slice (some ⟨pg, 0, none⟩) pl pl]) (lo := w6.heap.size) rfl rfl rfl rfl (hOw.ext hE10_12) hn12.blk.sl ⟨_, _, rfl⟩ rfl rfl (by omega) (by omega) (by omega) (fun a13 c13 w13 ho13 hg13 hA13 => ⟨fun h => (nomatch h), ?_⟩)
          have hTop13 := (hSt10.top.ext hE10_12).gb hg13 hownne
          repeat' (first | (refine k_indexN (j := f) rfl rfl ⟨_, _, rfl⟩ (by omega) ?_) | (refine k_storeS (j := f) rfl rfl hTop13 (by omega) (fun w14 hc14 hb14 => ⟨fun h => (nomatch h), ?_⟩)) | (refine k_pure rfl ?_) | (refine then_normal ?_) | (refine cw_region rfl ?_) | (refine rr_nil ?_) | (refine k_addI rfl rfl (by omega) (by omega) ?_) | (refine in_normal ?_))
          have hpush := hSt10.push (p := sk) hffl (by omega) hOw' hPs him hE10_11 (by have := hEdd.size; omega) hpb hn12.ex (by rw [List.map_append]; exact ho13) (by rw [hsf]; exact hg13) (by rw [hsf]; exact hA13) hc14 hb14
          have gps : ∀ j, (ps.set f (ps.getD f [] ++ [sk])).getD j [] = if f = j then ps.getD f [] ++ [sk] else ps.getD j [] := fun j => by
            rw [List.getD_eq_getElem?_getD, List.getElem?_set]
            by_cases e : f = j
            · subst e; simp [hffl]
            · rw [if_neg e, if_neg e, List.getD_eq_getElem?_getD]
          refine ⟨⟨(k + 1, ss.set f ⟨a13, sdl.length + 1, c13⟩, ps.set f (ps.getD f [] ++ [sk])), ⟨by simp only; omega, (Ex.gb (hE610.trans hE10_12) hg13 hownlo).chg hc14 hgs1, hpush, by simp only; rw [List.length_set]; exact hpsl, fun j hj => ?_, fun j hj s' => ?_, fun j => ?_⟩, by simp only; omega, rfl, trivial⟩, (by (repeat (first | exact agree_mask _ _ _ | refine agree_upd rfl ?_ | refine agree_updO rfl ?_ | refine agree_overIn rfl ?_ | refine agree_maskIn rfl ?_)))⟩
          · simp only at hj
            by_cases e : j = k
            · rw [e, hsk]; exact hin
            · exact hmem j (by omega)
          · simp only
            rw [gps, htk]
            have hFCu : ∀ j', FC base sk j' → j' = f := fun j' h => h.unique hFC
            by_cases e : f = j
            · subst e
              rw [if_pos rfl, List.mem_append, List.mem_append, List.mem_singleton, hps f hj]
              constructor
              · rintro (⟨h1, h2⟩ | rfl)
                · exact ⟨.inl h1, h2⟩
                · exact ⟨.inr rfl, hFC⟩
              · rintro ⟨h1 | rfl, h2⟩
                · exact .inl ⟨h1, h2⟩
                · exact .inr rfl
            · rw [if_neg e, hps j hj, List.mem_append, List.mem_singleton]
              constructor
              · rintro ⟨h1, h2⟩; exact ⟨.inl h1, h2⟩
              · rintro ⟨h1 | rfl, h2⟩
                · exact ⟨h1, h2⟩
                · exact absurd (hFCu j h2).symm e
          · simp only
            rw [gps]
            have h1 := hcnt j
            have h2 := hcnt f
            split
            · rw [List.length_append, List.length_singleton]; omega
            · omega
  obtain rfl : k = S.length := by omega
  rw [List.take_length] at hps
  have hsub : ∀ s ∈ S, Gen m gens s := fun s hs => by
    obtain ⟨j, hj, rfl⟩ := mem_getDL hs
    exact hmem j hj
  repeat' (first | (refine k_lssF rfl rfl (by omega) ?_) | (refine k_pure rfl ?_) | (refine then_normal ?_) | (refine cw_seq ?_) | (refine cw_region rfl ?_) | (refine rr_nil ?_) | (refine cw_cond_false rfl ?_) | (refine cw_exit ?_) | (refine then_exit ?_) | (refine in_exit ?_))
  refine k_call (newPart_spec (n := m) hm2 w8) rfl ?_
  rintro v w9 ⟨gp, rfl, hgp, hPt, hE9⟩
  refine ⟨fun _ _ => trivial, ?_⟩
  have hb9 := hb8.ext hE9
  have hC8 := hC.ext hE8
  have hstr8 := hstr.ext hE8
  repeat' (first | (refine k_loadC (g := g) rfl hb9 rfl ?_) | (refine k_pure rfl ?_) | (refine then_normal ?_) | (refine cw_seq ?_) | (refine cw_region rfl ?_) | (refine rr_nil ?_) | (refine k_len rfl ?_) | (refine k_subI rfl rfl (by omega) (by omega) ?_) | (refine k_fieldAddr rfl ?_) | (refine cw_block ?_))
  refine cw_loop (ι := Nat × (Nat → Nat) × List (List Int)) [6, 14, 16, 116, 117, 118, 119, 120, 121, 122, 123, 124, 125, 126, 127, 128, 129, 130, 131, 132, 133, 134, 135, 136, 137, 138, 139, 140, 141, 142, 143, 144, 145, 146, 147, 148, 149, 150] (fun s => [(14, .int .i64 ((s.1 : Int) - 1))])
    (fun s w' => s.1 ≤ base.length ∧ Ex w8 w' ∧ PtAt w' gp m s.2.1 ∧ (∀ s', s' ∈ s.2.2 ↔ s' ∈ S ∧ ∃ f, FC base s' f ∧ s.1 ≤ f ∧ f < base.length) ∧ OrbC m s.2.2 s.2.1 ∧
      ∀ j, s.1 ≤ j → j < base.length → ∃ q, OrbLen (Gen m (fixS S base j)) (base.getD j 0) q ∧ OrbLen (PStab (Gen m gens) (base.take j)) (base.getD j 0) q) (fun s => s.1)
    (base.length, fun x => x, []) ⟨rfl, trivial⟩ ⟨Nat.le_refl _, hE9, hPt, fun s' => ⟨fun h => by simp at h, fun ⟨_, f, _, h1, h2⟩ => by simp only at h1; omega⟩, orbC_nil m, fun j h1 h2 => by simp only at h1; omega⟩ ?_
  rintro ⟨i1, cf, J⟩ ξ3 w10 ⟨hi1, hE10, hP10, hJ, hOC, horb⟩
  simp only at hi1 hP10 hJ hOC horb
  show CW _ _ _ _ (over [(14, .int .i64 ((i1 : Int) - 1))] _) w10
  cases i1 with
  | zero =>
    repeat' (first | (refine k_geqF rfl rfl (by omega) ?_) | (refine k_pure rfl ?_) | (refine then_normal ?_) | (refine cw_seq ?_) | (refine cw_region rfl ?_) | (refine rr_nil ?_) | (refine cw_cond_false rfl ?_) | (refine cw_exit ?_) | (refine then_exit ?_) | (refine in_exit ?_) | (refine cw_ret ?_))
    exact ret1 rfl (rt rfl) (hfin _ 0 (hEw8.trans hE10) (.inl ⟨hokiff.1 ⟨htr, hsub, fun j hj => horb j (Nat.zero_le _) hj⟩, rfl⟩))
  | succ i =>
    rw [show (((i + 1 : Nat) : Int) - 1) = (i : Int) by omega]
    have hib : i < base.length := by omega
    have hipl : i < ps.length := by omega
    obtain ⟨sdl, im, hOw, hle, hPs, him⟩ := hSt.each i hipl
    obtain ⟨⟨qa, ql, qc⟩, hsf⟩ : ∃ s, ss.getD i sd0 = s := ⟨_, rfl⟩
    rw [hsf] at hOw hle
    simp only at hOw hle
    subst hle
    have hssl := hSt.len
    have hpsn := hPs.len
    have hcn := hcnt i
    have hpsi := hps i (by omega)
    have hJN : GensN m J := fun s h => hSN s ((hJ s).1 h).1
    have hpN : GensN m (ps.getD i []) := fun s h => hSN s ((hpsi s).1 h).1
    have hx0 := hbr _ (getD_mem (d := 0) hib)
    obtain ⟨x, hx⟩ : ∃ x : Nat, base.getD i 0 = (x : Int) := ⟨(base.getD i 0).toNat, by omega⟩
    generalize ps.getD i [] = qs at *
    have htop := hSt.top.ext hE10
    repeat' (first | (refine k_geqT rfl rfl (by omega) ?_) | (refine k_indexN (j := i) rfl rfl ⟨_, _, rfl⟩ (by omega) ?_) | (refine k_loadSd rfl htop.sl (by omega) hsf ?_) | (refine k_pure rfl ?_) | (refine then_normal ?_) | (refine cw_seq ?_) | (refine cw_region rfl ?_) | (refine rr_nil ?_) | (refine k_len rfl ?_) | (refine cw_cond_true rfl ?_) | (refine cw_block ?_) | (refine cw_skip ?_))
    refine cw_loop (ι := Nat × (Nat → Nat)) [16, 125, 126, 127, 128, 129, 130, 131, 132] (fun s => [(125, .int .i64 (s.1 : Int))])
      (fun s w' => s.1 ≤ sdl.length ∧ Ex w8 w' ∧ PtAt w' gp m s.2 ∧ OrbC m (J ++ qs.take s.1) s.2) (fun s => sdl.length - s.1) (0, cf) ⟨rfl, trivial⟩ ⟨Nat.zero_le _, hE10, hP10, by simp only [List.take_zero, List.append_nil]; exact hOC⟩ ?_
    rintro ⟨k, ck⟩ ξ4 w11 ⟨hk11, hE11, hP11, hOC11⟩
    simp only at hk11 hP11 hOC11
    show CW _ _ _ _ (over [(125, .int .i64 (k : Int))] _) w11
    by_cases hks : k < sdl.length
    · have hkq : k < qs.length := by omega
      have hOw11 := hOw.sl.ext hE11
      obtain ⟨⟨ra, rl, rcp⟩, hsr⟩ : ∃ s, sdl.getD k sd0 = s := ⟨_, rfl⟩
      have hrs := (hPs.sl k hkq).ext hE11
      have hrn := hPs.n k hkq
      have hri := hPs.im k hkq
      rw [hsr] at hrs hrn hri
      simp only at hrs hrn hri
      have pk := hpN _ (getD_mem (d := []) hkq)
      obtain rfl : rl = m := hrn
      repeat' (first | (refine k_lssT rfl rfl (by omega) ?_) | (refine k_indexN (j := k) rfl rfl (hOw11.plain (by rw [List.length_map]; omega)) (by omega) ?_) | (refine k_loadSd rfl hOw11 (by omega) hsr ?_) | (refine k_pure rfl ?_) | (refine then_normal ?_) | (refine cw_seq ?_) | (refine cw_region rfl ?_) | (refine rr_nil ?_) | (refine cw_cond_true rfl ?_) | (refine cw_block ?_) | (refine cw_skip ?_))
      refine k_call (join_spec (p := qs.getD k []) (cap := rcp) hP11 hrs pk (fun ad e => by have := (him _ (hri ad e)).2.1; omega)) rfl ?_
      rintro v w12 ⟨rfl, hc12, c', hP12, hj12⟩
      refine ⟨fun _ _ => trivial, ?_⟩
      repeat' (first | (refine k_pure rfl ?_) | (refine then_normal ?_) | (refine cw_region rfl ?_) | (refine rr_nil ?_) | (refine k_addI rfl rfl (by omega) (by omega) ?_) | (refine in_normal ?_))
      refine ⟨⟨(k + 1, c'), ⟨by simp only; omega, hE11.chg hc12 hgp, hP12, ?_⟩, by simp only; omega, rfl, trivial⟩, (by (repeat (first | exact agree_mask _ _ _ | refine agree_upd rfl ?_ | refine agree_updO rfl ?_ | refine agree_overIn rfl ?_ | refine agree_maskIn rfl ?_)))⟩
      simp only
      rw [take_succ_getD qs [] hkq, ← List.append_assoc]
      exact hOC11.join (fun s hs => by
        rcases List.mem_append.1 hs with hs | hs
        · exact hJN s hs
        · exact hpN s (List.mem_of_mem_take hs)) pk hj12
    · obtain rfl : k = sdl.length := by omega
      rw [List.take_of_length_le (by omega)] at hOC11
      have hJ' : ∀ s', s' ∈ J ++ qs ↔ s' ∈ S ∧ ∃ f, FC base s' f ∧ i ≤ f ∧ f < base.length := fun s' => by
        rw [List.mem_append, hJ, hpsi]
        constructor
        · rintro (⟨h1, f, h2, h3, h4⟩ | ⟨h1, h2⟩)
          · exact ⟨h1, f, h2, by omega, h4⟩
          · exact ⟨h1, i, h2, Nat.le_refl _, hib⟩
        · rintro ⟨h1, f, h2, h3, h4⟩
          by_cases e : f = i
          · subst e; exact .inr ⟨h1, h2⟩
          · exact .inl ⟨h1, f, h2, by omega, h4⟩
      have hJN' : GensN m (J ++ qs) := fun s h => hSN s ((hJ' s).1 h).1
      have hlen1 := hOC11.len ⟨hm1, hm2⟩ hJN' (x := x) (by omega)
      rw [← hx] at hlen1
      have hlen2 := hlen1.congr (gen_fix (by omega) ⟨hm1, hm2⟩ hSN htr hsub hJ')
      have hlen3 := hG.orbLen hF hib
      have hcle := clsTo_le ck x m
      obtain ⟨jj, hjj, hfd, hjm⟩ := hC.mok.find (show i < ls.length by omega)
      have okl := hG.ok (show i < ls.length by omega)
      have hole := okl.orb_le
      have hlvs := fun w' (h : Ex w8 w') => ((hC8.ext h).lv i (by omega)).str
      repeat' (first | (refine k_lssF rfl rfl (by omega) ?_) | (refine then_normal ?_) | (refine cw_seq ?_) | (refine cw_region rfl ?_) | (refine rr_nil ?_) | (refine cw_cond_false rfl ?_) | (refine cw_exit ?_) | (refine then_exit ?_) | (refine in_exit ?_))
      refine cw_draw (late := []) (plan := [(0, none), (1, none), (2, none), (3, none), (4, none), (5, none), (7, none), (8, none), (9, none), (10, none), (11, none), (12, none), (13, none), (14, none), (15, none), (16, none), (6, some true), (17, none)]) (fun w' => Ex w8 w') mixed (by kernel_rfl) hE11.drew ?_
      have hE11d : Ex w8 w11.drew := hE11.drew
      repeat' (first | (refine k_loadC (g := g) rfl (fun _ h => hb8.ext h) rfl ?_) | (refine k_indexN (j := i) rfl rfl (hb.plain (by rw [List.length_map]; omega)) (by omega) ?_) | (refine k_loadI rfl (fun _ h => hb.ext (hEw8.trans h)) (by omega) ?_) | (refine k_loadC (g := c.cb) rfl (fun _ h => hstr8.ext h) rfl ?_) | (refine k_lookup mapT intT rfl rfl (fun _ h => (hC8.ext h).map) hfd ?_) | (refine k_loadC (Tb := 95) rfl (fun _ h => hlvs _ h) rfl ?_) | (refine k_pure rfl ?_) | (refine k_len rfl ?_) | (refine k_fieldAddr rfl ?_))
      refine k_call (psize_spec (x := x) hP11.drew (by omega) hm2) (by rw [hx]; rfl) ?_
      rintro v w12 ⟨rfl, hc12, hP12⟩
      refine ⟨fun _ h => h.chg hc12 hgp, ?_⟩
      have hE812 : Ex w8 w12 := hE11d.chg hc12 hgp
      by_cases heq : clsTo ck x m = (ls.getD i lv0).orb.length
      · repeat' (first | (refine k_neF rfl rfl (by rw [heq]) ?_) | (refine k_pure rfl ?_) | (refine then_normal ?_) | (refine cw_region rfl ?_) | (refine rr_nil ?_) | (refine k_subI rfl rfl (by omega) (by omega) ?_) | (refine cw_cond_false rfl ?_) | (refine in_normal ?_) | (refine cw_skip ?_))
        refine ⟨⟨(i, ck, J ++ qs), ⟨by simp only; omega, hE812, hP12, hJ', hOC11, fun j hj hjb => ?_⟩, by simp only; omega, rfl, trivial⟩, (by (repeat (first | exact agree_mask _ _ _ | refine agree_upd rfl ?_ | refine agree_updO rfl ?_ | refine agree_overIn rfl ?_ | refine agree_maskIn rfl ?_)))⟩
        simp only at hj
        by_cases e : j = i
        · rw [e]; exact ⟨_, hlen2, by rw [heq]; exact hlen3⟩
        · exact horb j (by omega) hjb
      · repeat' (first | (refine k_pure rfl ?_) | (refine then_normal ?_) | (refine cw_seq ?_) | (refine cw_region rfl ?_) | (refine rr_nil ?_) | (refine k_subI rfl rfl (by omega) (by omega) ?_) | (refine cw_cond_dec rfl (fun hc => ?_) (fun hc => ?_)) | (refine in_normal ?_) | (refine cw_ret ?_) | (refine then_ret ?_) | (refine in_ret ?_) | (refine cw_skip ?_))
        · refine ret1 rfl (rt rfl) (hfin _ 10 (hEw8.trans hE812) (.inr ⟨fun h => ?_, rfl⟩))
          obtain ⟨q, q1, q2⟩ := (hokiff.2 h).orb i hib
          exact heq ((hlen2.unique q1).trans (q2.unique hlen3))
        · omega
end Go.Proofs.Ythhfjagnmhhapaa

namespace Go.Proofs.Ythhfjagnmhhapaa
open Go.W Go.PM Go.LM
theorem CcAt.push {w w' : World} {mid bc sc sc' pc : Nat} {X : Nat → Prop} {b sa sa' pa : Option Addr} {base p : List Int} {ssd : List SD} {S : List (List Int)} (h : CcAt w mid X b bc base sa sc ssd S) (hp : Sl w pa (intsL p)) (hpa : ∀ ad ad', pa = some ad → sa = some ad' → ad.block ≠ ad'.block)
    (hO : Own w' mid 28 1 sa' (ssd.length + 1) sc' ((ssd ++ [(⟨pa, p.length, pc⟩ : SD)]).map SD.val)) (hg : w.grownBy w' (Value.slice sa ssd.length sc).ownBlock) :
    Sl w' b (intsL base) ∧ Lists w' .i64 sa' (ssd ++ [(⟨pa, p.length, pc⟩ : SD)]) (S ++ [p]) := by
  have hk : ∀ {a : Option Addr} {vs : List Value}, Sl w a vs → (∀ ad ad', a = some ad → sa = some ad' → ad.block ≠ ad'.block) → Sl w' a vs := fun hs hm => hs.gb hg fun ad e h' => by
    obtain ⟨ad', e1, e2⟩ := ownBlock_eq h'
    exact hm ad ad' e e1 e2.symm
  have hlen := h.ls.len
  refine ⟨hk h.ob.sl (fun ad ad' e e' => h.ne ad ad' e e'), hO.sl, by simp [hlen], fun i hi => ?_⟩
  rw [List.length_append, List.length_singleton] at hi
  rw [getD_snoc (by omega), getD_snoc hi, hlen]
  split
  · rename_i h1
    refine ⟨hk (h.ls.each i h1).1 (fun ad ad' e e' => ?_), (h.ls.each i h1).2⟩
    have := (h.el i ad e).1
    have := (h.os.lo ad' e').1
    omega
  · exact ⟨hk hp hpa, rfl⟩
theorem subL_cut {sds : List SD} {S : List (List Int)} (h : sds.length = S.length) {m : Nat} (hm : m < S.length) : SubL sds S (sds.take m ++ sds.drop (m + 1)) (S.take m ++ S.drop (m + 1)) := by
  refine ⟨by simp [h], fun i hi => ?_⟩
  rw [List.length_append, List.length_take, List.length_drop] at hi
  by_cases hi' : i < m
  · refine ⟨i, by omega, ?_, ?_⟩
    · rw [List.getD_eq_getElem?_getD, List.getElem?_append_left (by rw [List.length_take]; omega), List.getElem?_take, if_pos hi', ← List.getD_eq_getElem?_getD]
    · rw [List.getD_eq_getElem?_getD, List.getElem?_append_left (by rw [List.length_take]; omega), List.getElem?_take, if_pos hi', ← List.getD_eq_getElem?_getD]
  · refine ⟨i + 1, by omega, ?_, ?_⟩
    · rw [List.getD_eq_getElem?_getD, List.getElem?_append_right (by rw [List.length_take]; omega), List.getElem?_drop, List.length_take, show m + 1 + (i - min m sds.length) = i + 1 by omega, ← List.getD_eq_getElem?_getD]
    · rw [List.getD_eq_getElem?_getD, List.getElem?_append_right (by rw [List.length_take]; omega), List.getElem?_drop, List.length_take, show m + 1 + (i - min m S.length) = i + 1 by omega, ← List.getD_eq_getElem?_getD]
set_option maxHeartbeats 4000000 in
theorem verifies_calls {pts what at' : Int} (hp : 0 ≤ pts ∧ pts ≤ 255) (hwh : 0 ≤ what ∧ what ≤ 255) (hat : 0 ≤ at' ∧ at' ≤ 255) {la a2 : Option Addr} {sds : List SD} {Ls : List (List Int)} {l2 : List Int} {w : World} (hL : Lists w .i8 la sds Ls) (hI : ∀ i, I8 (Ls.getD i [])) (c : Nat) (hl : Ls.length ≤ 9223372036854775807) (few : Bool)
    (hs2 : Sl w a2 (int8L l2)) (hi2 : I8 l2) (c2 : Nat) :
    CallsR Try.prog 10 #[.agg (permsL pts la Ls.length c few).toArray, .int .u8 what, .slice a2 l2.length c2, .int .u8 at'] w fun v w' => v = .bool true ∧ Ex w w' := by
  refine callsR_of (args := [_, _, _, _]) Try.func10 rfl rfl ?_
  repeat' (first | (refine k_boxA rfl (fun g w1 hn1 => ⟨fun _ _ => trivial, ?_⟩)) | (refine k_pure rfl ?_) | (refine then_normal ?_) | (refine cw_seq ?_) | (refine cw_region rfl ?_) | (refine rr_nil ?_))
  have hd1 : 0 ≤ pts % 6 := Int.emod_nonneg _ (by omega)
  have hd2 : pts % 6 < 6 := Int.emod_lt_of_pos _ (by omega)
  obtain ⟨n, hn⟩ : ∃ n : Nat, 1 + pts % 6 = (n : Int) := ⟨(1 + pts % 6).toNat, by omega⟩
  have hn8 : 1 ≤ n ∧ n ≤ 6 := by omega
  refine cw_draw (late := []) (plan := [(0, none), (2, none), (1, some true), (3, some true), (4, none), (5, none)]) (fun w' => Blk w' g 35 (permsL pts la Ls.length c few)) mixed (by kernel_rfl) hn1.blk.drew ?_
  have hE1 : Ex w w1.drew := hn1.ex.drew
  repeat' (first | (refine k_loadCA rfl (fun _ h => h) rfl ?_))
  refine k_call (degree_spec hp _ _ _ _ (by omega) _) rfl ?_
  rintro v w2 ⟨rfl, hE2⟩
  refine ⟨fun _ h => h.ext hE2, ?_⟩
  rw [hn]
  refine k_call (gens_spec hp (by omega) hn (hL.ext (hE1.trans hE2)) hI _ hl few) rfl ?_
  rintro v w3 ⟨b, cc, ss, xss, rfl, hO, hx3, hG, hA, hE3⟩
  refine ⟨fun _ h => h.ext hE3, ?_⟩
  have hE03 : Ex w w3 := (hE1.trans hE2).trans hE3
  have hLs := hO.lists
  have hle := hLs.len
  rw [hle]
  have hes : errS (n : Int) xss = 0 := errS_ok hn8.1 (by omega) (by omega) hG
  have n1 : 1 ≤ n ∧ n ≤ 512 := ⟨hn8.1, by omega⟩
  repeat' (first | (refine k_pure rfl ?_) | (refine then_normal ?_) | (refine cw_seq ?_) | (refine cw_region rfl ?_) | (refine rr_nil ?_))
  refine k_call (lchain_spec n1 hn8.2 hG.n hLs (by omega)) rfl ?_
  rintro v w4 ⟨hE4, mid, X, b0, bc0, base0, sa0, sc0, ssd0, S0, rfl, hCc4, hmid, hbl0, hSl0, hmid3⟩
  refine ⟨fun _ _ => trivial, ?_⟩
  refine k_allocA (vs := [.int .i64 0, .slice none 0 0, .slice none 0 0]) (fun g5 w5 hn5 => ⟨fun _ _ => trivial, ?_⟩)
  refine k_storeV (n := 3) rfl rfl rfl rfl hn5.blk rfl (fun w6 hc6 hb6 => ⟨fun _ _ => trivial, ?_⟩)
  have l5 := hn5.lo; have l5' := hn5.blk.lt; have s5 := hn5.ex.size; have s6 := hc6.size; have s4 := hE4.size
  have hE46 : Ex w4 w6 := hn5.ex.chg hc6 l5
  have hE36 := hE4.trans hE46
  have hE06 := hE03.trans hE36
  have hCc := hCc4.ext hE46
  have hcap0 := hCc.ob.capLe
  have hslen := hCc.ls.len
  have hr1 : 0 ≤ what % 8 := Int.emod_nonneg _ (by omega)
  have hr2 : what % 8 < 8 := Int.emod_lt_of_pos _ (by omega)
  repeat' (first | (refine k_rem rfl rfl (by omega) (by omega) ?_) | (refine k_pure rfl ?_) | (refine then_normal ?_) | (refine cw_seq ?_) | (refine cw_region rfl ?_) | (refine rr_nil ?_))
  generalize what % 8 = r at *
  refine cw_join (ι := Int × (List Int × Option Addr × Nat) × List SD × List (List Int) × Option Addr × Nat) [21, 22, 23, 24, 25, 26, 27, 28, 29, 30, 31, 32, 33, 34, 35, 36, 37, 38, 39, 40, 41, 42, 43, 44, 45, 46, 47, 48, 49, 50, 51, 52, 53, 54, 55, 56, 57, 58, 59, 60, 61, 62, 63, 64, 65, 66, 67, 68, 69, 70, 71, 72, 73, 74, 75, 76, 77, 78, 79, 80, 81, 82, 83, 84, 85, 86, 87, 88, 89, 90, 91, 92, 93, 94, 95, 96, 97, 98, 99, 100, 101, 102, 103, 104, 105, 106, 107, 108, 109, 110, 111, 112, 113] (fun s => [])
    (fun s w' => Ex w3 w' ∧ Blk w' g5 60 (chainL s.1 s.2.1.2.1 s.2.1.1.length s.2.1.2.2 s.2.2.2.2.1 s.2.2.2.1.length s.2.2.2.2.2) ∧ Sl w' s.2.1.2.1 (intsL s.2.1.1) ∧ s.2.1.1.length ≤ s.2.1.2.2 ∧ s.2.1.1.length ≤ 1000 ∧ Lists w' .i64 s.2.2.2.2.1 s.2.2.1 s.2.2.2.1 ∧ s.2.2.2.1.length ≤ 1000000) ?_ ?_
  · skip
    rcases (by omega : r = 0 ∨ r = 1 ∨ r = 2 ∨ r = 3 ∨ r = 4 ∨ r = 5 ∨ r = 6 ∨ r = 7) with rfl | rfl | rfl | rfl | rfl | rfl | rfl | rfl
    · repeat' (first | (refine k_pure rfl ?_) | (refine then_normal ?_) | (refine cw_seq ?_) | (refine cw_region rfl ?_) | (refine rr_nil ?_) | (refine cw_cond_true rfl ?_) | (refine cw_block ?_))
      have hE6d : Ex w6 w6.drew := (Ex.refl _).drew
      refine cw_draw (late := [6, 8]) (plan := [(0, none), (1, none), (2, none), (3, none), (4, some true), (5, some true), (6, some false), (7, none), (8, some false)]) (fun w' => Ex w6 w') mixed (by kernel_rfl) (Ex.refl _).drew ?_
      repeat' (first | (refine k_loadC (g := g5) rfl (fun _ h => hb6.ext h) rfl ?_) | (refine k_pure rfl ?_) | (refine k_fieldAddr rfl ?_))
      refine k_call (perm_spec (hs2.ext (hE06.trans hE6d)) hi2 c2 n n1.1 n1.2) rfl ?_
      generalize permF l2 n = p
      rintro v w7 ⟨pb, pc, rfl, hOp, hE7⟩
      refine ⟨fun _ h => h.trans hE7, ?_⟩
      refine k_lit1 (v := .slice pb p.length pc) rfl rfl (fun g8 w8 hn8' => ⟨fun _ h => h.trans hn8'.ex, ?_⟩)
      have hE68 : Ex w6 w8 := (hE6d.trans hE7).trans hn8'.ex
      have hE38 := hE36.trans hE68
      have s68 := hE68.size
      have s6d := hE6d.size
      have hCc8 := hCc.ext hE68
      refine k_appendM (E := 28) (n := ssd0.length) (a := sa0) (cap := sc0) (by show Value.slice sa0 S0.length sc0 = _; rw [hslen]) rfl rfl hCc8.os hn8'.blk.sl rfl rfl (by omega) (by omega) (by omega) (fun a9 c9 w9 ho9 hg9 hA9 => ⟨fun h => (nomatch h), ?_⟩)
      obtain ⟨hbs9, hLs9⟩ := hCc8.push (pc := pc) (hOp.sl.ext hn8'.ex) (fun ad ad' e e' => by have := (hOp.lo ad e).1; have := (hCc.os.lo ad' e').2; omega) (by rw [List.map_append]; exact ho9) hg9
      have hlo9 : ∀ q, (Value.slice sa0 ssd0.length sc0).ownBlock = some q → mid ≤ q ∧ q < w4.heap.size := fun q e => by
        obtain ⟨ad, e1, e2⟩ := ownBlock_eq e
        have h1 := (hCc4.os.lo ad e1)
        omega
      have hb9 := (hb6.ext hE68).gb hg9 (fun e => by have := (hlo9 _ e).2; omega)
      have hE39 : Ex w3 w9 := Ex.gb hE38 hg9 (fun q e => by have := (hlo9 q e).1; omega)
      have hA9' : ∀ ad, a9 = some ad → ad.block ≠ g5 := fun ad e => by
        rcases hA9 with hA | hA
        · rw [hA] at e; have := (hCc4.os.lo ad e).2; omega
        · have := hA ad e; omega
      have hel9 : ∀ i ad, ((ssd0 ++ [(⟨pb, p.length, pc⟩ : SD)]).getD i sd0).a = some ad → ad.block ≠ g5 := fun i ad e => by
        by_cases hi : i < ssd0.length + 1
        · rw [getD_snoc hi] at e
          split at e
          · have := (hCc4.el i ad e).1; omega
          · have := (hOp.lo ad e).1; omega
        · rw [List.getD_eq_getElem?_getD, List.getElem?_eq_none (by rw [List.length_append, List.length_singleton]; omega)] at e; cases e
      repeat' (first | (refine k_storeC rfl rfl rfl hb9 rfl (fun w10 hc10 hb10 => ⟨fun h => (nomatch h), ?_⟩)) | (refine then_normal ?_) | (refine rr_nil ?_) | (refine k_fieldAddr rfl ?_) | (refine in_normal ?_))
      refine ⟨⟨((n : Int), (base0, b0, bc0), ssd0 ++ [(⟨pb, p.length, pc⟩ : SD)], S0 ++ [p], a9, c9), ⟨hE39.chg hc10 (by omega), by simp only; rw [List.length_append, List.length_singleton, ← hslen]; exact hb10, hbs9.chg hc10 (fun ad e => by have := (hCc4.ob.lo ad e).2; omega), hcap0, by simp only; omega, hLs9.fr (f1C hc10) (fun ad e he => hA9' ad e he) (fun i ad e he => hel9 i ad e he), by simp only; rw [List.length_append, List.length_singleton]; omega⟩, trivial⟩, (by (repeat (first | exact agree_refl _ _ | refine agree_upd rfl ?_ | refine agree_updO rfl ?_ | refine agree_overIn rfl ?_ | refine agree_maskIn rfl ?_)))⟩
    · by_cases h0 : 0 < S0.length
      · have hm1 : 0 ≤ at' % (S0.length : Int) := Int.emod_nonneg _ (by omega)
        have hm2 : at' % (S0.length : Int) < (S0.length : Int) := Int.emod_lt_of_pos _ (by omega)
        obtain ⟨m, hm⟩ : ∃ m : Nat, at' % (S0.length : Int) = (m : Int) := ⟨(at' % (S0.length : Int)).toNat, by omega⟩
        obtain ⟨sg, rfl⟩ := hCc.os.baPos (by omega)
        have hcapS := hCc.os.capLe
        repeat' (first | (refine k_loadC (g := g5) rfl hb6 rfl ?_) | (refine k_gtrT rfl rfl (by omega) ?_) | (refine k_pure rfl ?_) | (refine then_normal ?_) | (refine cw_seq ?_) | (refine cw_region rfl ?_) | (refine rr_nil ?_) | (refine k_len rfl ?_) | (refine k_fieldAddr rfl ?_) | (refine cw_cond_true rfl ?_) | (refine cw_cond_false rfl ?_) | (refine cw_block ?_))
        refine cw_draw (late := [23]) (plan := [(1, none), (2, none), (3, none), (4, none), (5, none), (6, none), (7, none), (8, none), (9, none), (11, none), (12, none), (13, none), (14, none), (15, none), (16, none), (17, none), (18, none), (19, none), (20, none), (0, some true), (10, some true), (21, some true), (22, none), (23, some false)]) (fun w' => Ex w6 w') mixed (by kernel_rfl) (Ex.refl _).drew ?_
        have hE6d : Ex w6 w6.drew := (Ex.refl _).drew
        repeat' (first | (refine k_loadC (g := g5) rfl (fun _ h => hb6.ext h) rfl ?_) | (refine k_convI rfl (wrap_i64 (by omega) (by omega)) ?_) | (refine k_rem rfl rfl (by omega) (by omega) ?_) | (refine k_sliceTo rfl (congrArg _ hm) (by omega) (by omega) ?_) | (refine k_sliceFrom (l := m + 1) rfl (by show Value.int .i64 (at' % (S0.length : Int) + 1) = _; rw [hm]; rfl) (by omega) (by omega) ?_) | (refine k_pure rfl ?_) | (refine k_len rfl ?_) | (refine k_addI rfl rfl (by omega) (by omega) ?_) | (refine k_fieldAddr rfl ?_))
        refine k_lit0 (fun g7 w7 hn7 => ⟨fun _ h => h.trans hn7.ex, ?_⟩)
        have hE67 : Ex w6 w7 := hE6d.trans hn7.ex
        have l7 := hn7.lo
        have s6d := hE6d.size
        have s67 := hE67.size
        have hown7 : Own w7 w6.heap.size 28 1 (some ⟨g7, 0, none⟩) 0 0 [] := hn7.blk.own (n := 0) (by simp) (Nat.zero_le _) (by omega)
        skip
        refine k_appendM (E := 28) (news := (ssd0.take m).map SD.val) (m := m) rfl (by rw [Int.toNat_natCast]; rfl) rfl hown7 (by have := (hCc.os.sl.ext hE67).take m; rw [← List.map_take] at this; exact this) (by rw [List.length_map, List.length_take]; omega) (all_one (fun s => rfl) _) (by omega) (by omega) (by omega) (fun a8 c8 w8 ho8 hg8 hA8 => ⟨fun _ _ => hown7.grow_ex hg8 hE67 (Nat.le_refl _), ?_⟩)
        have hE68 : Ex w6 w8 := hown7.grow_ex hg8 hE67 (Nat.le_refl _)
        have s68 := hE68.size
        have hdr : Sl w8 (some (if sc0 = m + 1 then ⟨sg, 0, none⟩ else ⟨sg, 0 + (m + 1) * 1, none⟩)) ((ssd0.drop (m + 1)).map SD.val) := by
          split
          · have : ssd0.drop (m + 1) = [] := List.drop_eq_nil_of_le (by omega)
            rw [this]; exact Sl.nil _ _
          · rw [List.map_drop]
            have hd := (hCc.os.sl.ext hE68).drop ((m + 1) * 1)
            rwa [show List.drop ((m + 1) * 1) (ssd0.map SD.val) = List.drop (m + 1) (ssd0.map SD.val) by rw [Nat.mul_one]] at hd
        skip
        refine k_appendM (E := 28) (news := (ssd0.drop (m + 1)).map SD.val) (m := S0.length - (m + 1)) rfl rfl rfl ho8 hdr (by rw [List.length_map, List.length_drop]; omega) (all_one (fun s => rfl) _) (by omega) (by omega) (by omega) (fun a9 c9 w9 ho9 hg9 hA9 => ⟨fun _ _ => ho8.grow_ex hg9 hE68 (Nat.le_refl _), ?_⟩)
        have hE69 : Ex w6 w9 := ho8.grow_ex hg9 hE68 (Nat.le_refl _)
        have hlo := fun ad e => (ho9.lo ad e).1
        repeat' (first | (refine k_storeC rfl rfl rfl (hb6.ext hE69) rfl (fun w10 hc10 hb10 => ⟨fun h => (nomatch h), ?_⟩)) | (refine then_normal ?_) | (refine rr_nil ?_) | (refine k_fieldAddr rfl ?_) | (refine in_normal ?_))
        have hk := (hCc.ext hE69).chg hc10 (.inr ⟨by omega, fun ad e => by have := (hCc4.ob.lo ad e).2; omega, fun ad e => by have := (hCc4.os.lo ad e).2; omega⟩)
        have hlt : (S0.take m ++ S0.drop (m + 1)).length = 0 + m + (S0.length - (m + 1)) := by rw [List.length_append, List.length_take, List.length_drop]; omega
        have htop : Sl w10 a9 ((ssd0.take m ++ ssd0.drop (m + 1)).map SD.val) := by
          rw [List.map_append]; exact ho9.sl.chg hc10 (fun ad e => by have := hlo ad e; omega)
        refine ⟨⟨((n : Int), (base0, b0, bc0), ssd0.take m ++ ssd0.drop (m + 1), S0.take m ++ S0.drop (m + 1), a9, c9), ⟨(hE36.trans hE69).chg hc10 (by omega), by simp only; rw [hlt]; exact hb10, hk.ob.sl, hcap0, by simp only; omega, (subL_cut hslen (by omega)).lists hk.ls htop, by simp only; omega⟩, trivial⟩, (by (repeat (first | exact agree_refl _ _ | refine agree_upd rfl ?_ | refine agree_updO rfl ?_ | refine agree_overIn rfl ?_ | refine agree_maskIn rfl ?_)))⟩
      · repeat' (first | (refine k_loadC (g := g5) rfl hb6 rfl ?_) | (refine k_gtrF rfl rfl (by omega) ?_) | (refine k_pure rfl ?_) | (refine then_normal ?_) | (refine cw_seq ?_) | (refine cw_region rfl ?_) | (refine rr_nil ?_) | (refine k_len rfl ?_) | (refine k_fieldAddr rfl ?_) | (refine cw_cond_true rfl ?_) | (refine cw_cond_false rfl ?_) | (refine cw_block ?_) | (refine in_normal ?_) | (refine cw_skip ?_))
        refine ⟨⟨((n : Int), (base0, b0, bc0), ssd0, S0, sa0, sc0), ⟨hE36, hb6, hCc.ob.sl, hcap0, by simp only; omega, hCc.ls, by simp only; omega⟩, trivial⟩, (by (repeat (first | exact agree_refl _ _ | refine agree_upd rfl ?_ | refine agree_updO rfl ?_ | refine agree_overIn rfl ?_ | refine agree_maskIn rfl ?_)))⟩
    · by_cases h0 : 0 < base0.length
      · have hm1 : 0 ≤ at' % (base0.length : Int) := Int.emod_nonneg _ (by omega)
        have hm2 : at' % (base0.length : Int) < (base0.length : Int) := Int.emod_lt_of_pos _ (by omega)
        obtain ⟨m, hm⟩ : ∃ m : Nat, at' % (base0.length : Int) = (m : Int) := ⟨(at' % (base0.length : Int)).toNat, by omega⟩
        have htl : (base0.take m).length = m := by rw [List.length_take]; omega
        repeat' (first | (refine k_loadC (g := g5) rfl hb6 rfl ?_) | (refine k_gtrT rfl rfl (by omega) ?_) | (refine k_pure rfl ?_) | (refine then_normal ?_) | (refine cw_seq ?_) | (refine cw_region rfl ?_) | (refine rr_nil ?_) | (refine k_len rfl ?_) | (refine k_fieldAddr rfl ?_) | (refine cw_cond_true rfl ?_) | (refine cw_cond_false rfl ?_) | (refine cw_block ?_))
        refine cw_draw (late := [10]) (plan := [(0, none), (1, none), (2, none), (3, none), (4, none), (5, none), (6, none), (7, none), (8, none), (9, none), (10, some false)]) (fun w' => Ex w6 w') mixed (by kernel_rfl) (Ex.refl _).drew ?_
        have hE6d : Ex w6 w6.drew := (Ex.refl _).drew
        have hCd := hCc.ext hE6d
        repeat' (first | (refine k_loadC (g := g5) rfl (fun _ h => hb6.ext h) rfl ?_) | (refine k_convI rfl (wrap_i64 (by omega) (by omega)) ?_) | (refine k_rem rfl rfl (by omega) (by omega) ?_) | (refine k_sliceTo rfl (congrArg _ hm) (by omega) (by omega) ?_) | (refine k_storeC rfl rfl rfl (hb6.ext hE6d) rfl (fun w7 hc7 hb7 => ⟨fun h => (nomatch h), ?_⟩)) | (refine k_pure rfl ?_) | (refine then_normal ?_) | (refine rr_nil ?_) | (refine k_len rfl ?_) | (refine k_fieldAddr rfl ?_) | (refine in_normal ?_))
        rw [Int.toNat_natCast] at hb7
        have hk := hCd.chg hc7 (.inr ⟨by omega, fun ad e => by have := (hCc4.ob.lo ad e).2; omega, fun ad e => by have := (hCc4.os.lo ad e).2; omega⟩)
        refine ⟨⟨((n : Int), (base0.take m, b0, bc0), ssd0, S0, sa0, sc0), ⟨(hE36.trans hE6d).chg hc7 (by omega), by simp only; rw [htl]; exact hb7, by have := hk.ob.sl.take m; rw [← List.map_take] at this; exact this, by simp only; omega, by simp only; omega, hk.ls, by simp only; omega⟩, trivial⟩, (by (repeat (first | exact agree_refl _ _ | refine agree_upd rfl ?_ | refine agree_updO rfl ?_ | refine agree_overIn rfl ?_ | refine agree_maskIn rfl ?_)))⟩
      · repeat' (first | (refine k_loadC (g := g5) rfl hb6 rfl ?_) | (refine k_gtrF rfl rfl (by omega) ?_) | (refine k_pure rfl ?_) | (refine then_normal ?_) | (refine cw_seq ?_) | (refine cw_region rfl ?_) | (refine rr_nil ?_) | (refine k_len rfl ?_) | (refine k_fieldAddr rfl ?_) | (refine cw_cond_true rfl ?_) | (refine cw_cond_false rfl ?_) | (refine cw_block ?_) | (refine in_normal ?_) | (refine cw_skip ?_))
        refine ⟨⟨((n : Int), (base0, b0, bc0), ssd0, S0, sa0, sc0), ⟨hE36, hb6, hCc.ob.sl, hcap0, by simp only; omega, hCc.ls, by simp only; omega⟩, trivial⟩, (by (repeat (first | exact agree_refl _ _ | refine agree_upd rfl ?_ | refine agree_updO rfl ?_ | refine agree_overIn rfl ?_ | refine agree_maskIn rfl ?_)))⟩
    · repeat' (first | (refine k_loadC (g := g5) rfl hb6 rfl ?_) | (refine k_convI rfl (wrap_i64 (by omega) (by omega)) ?_) | (refine k_rem rfl rfl (by omega) (by omega) ?_) | (refine k_pure rfl ?_) | (refine then_normal ?_) | (refine cw_seq ?_) | (refine cw_region rfl ?_) | (refine rr_nil ?_) | (refine k_fieldAddr rfl ?_) | (refine cw_cond_true rfl ?_) | (refine cw_cond_false rfl ?_) | (refine cw_block ?_))
      refine k_app1I rfl rfl rfl rfl hCc.ob (by omega) (by omega) (by omega) (fun g9 b9 c9 w9 ho9 hg9 hA9 => ?_)
      have hcc9 := hCc.base (base' := base0 ++ [at' % 8]) (by rw [List.length_append, List.length_singleton]; exact ho9) hg9 hA9
      have hlo9 : ∀ q, (Value.slice b0 base0.length bc0).ownBlock = some q → mid ≤ q ∧ q < w4.heap.size := fun q e => by
        obtain ⟨ad, e1, e2⟩ := ownBlock_eq e
        have := hCc4.ob.lo ad e1
        omega
      have hb9 := hb6.gb hg9 (fun e => by have := (hlo9 _ e).2; omega)
      have hE39 : Ex w3 w9 := Ex.gb hE36 hg9 (fun q e => by have := (hlo9 q e).1; omega)
      have s9 := hg9.size
      have hA9' : ∀ ad, b9 = some ad → ad.block ≠ g5 := fun ad e => by
        rcases hA9 with hA | hA
        · rw [hA] at e; have := (hCc4.ob.lo ad e).2; omega
        · have := hA ad e; omega
      repeat' (first | (refine k_storeC rfl rfl rfl hb9 rfl (fun w10 hc10 hb10 => ⟨fun _ _ => trivial, ?_⟩)) | (refine then_normal ?_) | (refine rr_nil ?_) | (refine k_fieldAddr rfl ?_) | (refine in_normal ?_))
      have hk := hcc9.chg hc10 (.inr ⟨by omega, hA9', fun ad e => by have := (hCc4.os.lo ad e).2; omega⟩)
      refine ⟨⟨((n : Int), (base0 ++ [at' % 8], b9, c9), ssd0, S0, sa0, sc0), ⟨hE39.chg hc10 (by omega), by simp only; rw [List.length_append, List.length_singleton]; exact hb10, hk.ob.sl, hk.ob.capLe, by simp only; rw [List.length_append, List.length_singleton]; omega, hk.ls, by simp only; omega⟩, trivial⟩, (by (repeat (first | exact agree_refl _ _ | refine agree_upd rfl ?_ | refine agree_updO rfl ?_ | refine agree_overIn rfl ?_ | refine agree_maskIn rfl ?_)))⟩
    · repeat' (first | (refine k_loadC (g := g5) rfl hb6 rfl ?_) | (refine k_convI rfl (wrap_i64 (by omega) (by omega)) ?_) | (refine k_rem rfl rfl (by omega) (by omega) ?_) | (refine k_pure rfl ?_) | (refine then_normal ?_) | (refine cw_seq ?_) | (refine cw_region rfl ?_) | (refine rr_nil ?_) | (refine k_addI rfl rfl (by omega) (by omega) ?_) | (refine k_fieldAddr rfl ?_) | (refine cw_cond_true rfl ?_) | (refine cw_cond_false rfl ?_) | (refine cw_block ?_))
      have hm1 : 0 ≤ at' % 2 := Int.emod_nonneg _ (by omega)
      have hm2 : at' % 2 < 2 := Int.emod_lt_of_pos _ (by omega)
      repeat' (first | (refine k_storeC rfl rfl rfl hb6 rfl (fun w7 hc7 hb7 => ⟨fun _ _ => trivial, ?_⟩)) | (refine then_normal ?_) | (refine rr_nil ?_) | (refine in_normal ?_))
      refine ⟨⟨((n : Int) + at' % 2, (base0, b0, bc0), ssd0, S0, sa0, sc0), ⟨hE36.chg hc7 (by omega), hb7, hCc.ob.sl.chg hc7 (fun ad e => by have := (hCc4.ob.lo ad e).2; omega), hcap0, by simp only; omega, (hCc.chg hc7 (.inr ⟨by omega, fun ad e => by have := (hCc4.ob.lo ad e).2; omega, fun ad e => by have := (hCc4.os.lo ad e).2; omega⟩)).ls, by simp only; omega⟩, trivial⟩, (by (repeat (first | exact agree_refl _ _ | refine agree_upd rfl ?_ | refine agree_updO rfl ?_ | refine agree_overIn rfl ?_ | refine agree_maskIn rfl ?_)))⟩
    · repeat' (first | (refine k_pure rfl ?_) | (refine then_normal ?_) | (refine cw_seq ?_) | (refine cw_region rfl ?_) | (refine rr_nil ?_) | (refine cw_cond_true rfl ?_) | (refine cw_cond_false rfl ?_) | (refine cw_block ?_))
      refine k_call (perm_spec (hs2.ext hE06) hi2 c2 n n1.1 n1.2) rfl ?_
      have hpl := permF_length l2 hn8.1
      generalize permF l2 n = p at *
      rintro v w7 ⟨pb, pc, rfl, hOp, hE7⟩
      refine ⟨fun _ _ => trivial, ?_⟩
      have hcp := hOp.capLe
      repeat' (first | (refine k_storeC rfl rfl rfl (hb6.ext hE7) rfl (fun w8 hc8 hb8 => ⟨fun _ _ => trivial, ?_⟩)) | (refine then_normal ?_) | (refine rr_nil ?_) | (refine k_fieldAddr rfl ?_) | (refine in_normal ?_))
      have hk := (hCc.ext hE7).chg hc8 (.inr ⟨by omega, fun ad e => by have := (hCc4.ob.lo ad e).2; omega, fun ad e => by have := (hCc4.os.lo ad e).2; omega⟩)
      refine ⟨⟨((n : Int), (p, pb, pc), ssd0, S0, sa0, sc0), ⟨(hE36.trans hE7).chg hc8 (by omega), hb8, hOp.sl.chg hc8 (fun ad e => by have := (hOp.lo ad e).1; omega), hcp, by simp only; omega, hk.ls, by simp only; omega⟩, trivial⟩, (by (repeat (first | exact agree_refl _ _ | refine agree_upd rfl ?_ | refine agree_updO rfl ?_ | refine agree_overIn rfl ?_ | refine agree_maskIn rfl ?_)))⟩
    · repeat' (first | (refine k_pure rfl ?_) | (refine then_normal ?_) | (refine cw_seq ?_) | (refine cw_region rfl ?_) | (refine rr_nil ?_) | (refine cw_cond_true rfl ?_) | (refine cw_cond_false rfl ?_) | (refine cw_block ?_))
      have hE6d : Ex w6 w6.drew := (Ex.refl _).drew
      have hm1 : 0 ≤ at' % 6 := Int.emod_nonneg _ (by omega)
      have hm2 : at' % 6 < 6 := Int.emod_lt_of_pos _ (by omega)
      obtain ⟨m, hm⟩ : ∃ m : Nat, 1 + at' % 6 = (m : Int) := ⟨(1 + at' % 6).toNat, by omega⟩
      refine cw_draw (late := [9, 11]) (plan := [(0, none), (1, none), (2, none), (3, none), (4, none), (5, none), (6, none), (7, some true), (8, some true), (9, some false), (10, none), (11, some false)]) (fun w' => Ex w6 w') mixed (by kernel_rfl) (Ex.refl _).drew ?_
      repeat' (first | (refine k_loadC (g := g5) rfl (fun _ h => hb6.ext h) rfl ?_) | (refine k_convI rfl (wrap_i64 (by omega) (by omega)) ?_) | (refine k_rem rfl rfl (by omega) (by omega) ?_) | (refine k_pure rfl ?_) | (refine k_addI rfl rfl (by omega) (by omega) ?_) | (refine k_fieldAddr rfl ?_))
      refine k_call (perm_spec (hs2.ext (hE06.trans hE6d)) hi2 c2 m (by omega) (by omega)) (by rw [← hm]; rfl) ?_
      generalize permF l2 m = p
      rintro v w7 ⟨pb, pc, rfl, hOp, hE7⟩
      refine ⟨fun _ h => h.trans hE7, ?_⟩
      refine k_lit1 (v := .slice pb p.length pc) rfl rfl (fun g8 w8 hn8' => ⟨fun _ h => h.trans hn8'.ex, ?_⟩)
      have hE68 : Ex w6 w8 := (hE6d.trans hE7).trans hn8'.ex
      have hE38 := hE36.trans hE68
      have s68 := hE68.size
      have s6d := hE6d.size
      have hCc8 := hCc.ext hE68
      refine k_appendM (E := 28) (n := ssd0.length) (a := sa0) (cap := sc0) (by show Value.slice sa0 S0.length sc0 = _; rw [hslen]) rfl rfl hCc8.os hn8'.blk.sl rfl rfl (by omega) (by omega) (by omega) (fun a9 c9 w9 ho9 hg9 hA9 => ⟨fun h => (nomatch h), ?_⟩)
      obtain ⟨hbs9, hLs9⟩ := hCc8.push (pc := pc) (hOp.sl.ext hn8'.ex) (fun ad ad' e e' => by have := (hOp.lo ad e).1; have := (hCc.os.lo ad' e').2; omega) (by rw [List.map_append]; exact ho9) hg9
      have hlo9 : ∀ q, (Value.slice sa0 ssd0.length sc0).ownBlock = some q → mid ≤ q ∧ q < w4.heap.size := fun q e => by
        obtain ⟨ad, e1, e2⟩ := ownBlock_eq e
        have h1 := (hCc4.os.lo ad e1)
        omega
      have hb9 := (hb6.ext hE68).gb hg9 (fun e => by have := (hlo9 _ e).2; omega)
      have hE39 : Ex w3 w9 := Ex.gb hE38 hg9 (fun q e => by have := (hlo9 q e).1; omega)
      have hA9' : ∀ ad, a9 = some ad → ad.block ≠ g5 := fun ad e => by
        rcases hA9 with hA | hA
        · rw [hA] at e; have := (hCc4.os.lo ad e).2; omega
        · have := hA ad e; omega
      have hel9 : ∀ i ad, ((ssd0 ++ [(⟨pb, p.length, pc⟩ : SD)]).getD i sd0).a = some ad → ad.block ≠ g5 := fun i ad e => by
        by_cases hi : i < ssd0.length + 1
        · rw [getD_snoc hi] at e
          split at e
          · have := (hCc4.el i ad e).1; omega
          · have := (hOp.lo ad e).1; omega
        · rw [List.getD_eq_getElem?_getD, List.getElem?_eq_none (by rw [List.length_append, List.length_singleton]; omega)] at e; cases e
      repeat' (first | (refine k_storeC rfl rfl rfl hb9 rfl (fun w10 hc10 hb10 => ⟨fun h => (nomatch h), ?_⟩)) | (refine then_normal ?_) | (refine rr_nil ?_) | (refine k_fieldAddr rfl ?_) | (refine in_normal ?_))
      refine ⟨⟨((n : Int), (base0, b0, bc0), ssd0 ++ [(⟨pb, p.length, pc⟩ : SD)], S0 ++ [p], a9, c9), ⟨hE39.chg hc10 (by omega), by simp only; rw [List.length_append, List.length_singleton, ← hslen]; exact hb10, hbs9.chg hc10 (fun ad e => by have := (hCc4.ob.lo ad e).2; omega), hcap0, by simp only; omega, hLs9.fr (f1C hc10) (fun ad e he => hA9' ad e he) (fun i ad e he => hel9 i ad e he), by simp only; rw [List.length_append, List.length_singleton]; omega⟩, trivial⟩, (by (repeat (first | exact agree_refl _ _ | refine agree_upd rfl ?_ | refine agree_updO rfl ?_ | refine agree_overIn rfl ?_ | refine agree_maskIn rfl ?_)))⟩
    · repeat' (first | (refine k_pure rfl ?_) | (refine then_normal ?_) | (refine cw_seq ?_) | (refine cw_region rfl ?_) | (refine rr_nil ?_) | (refine cw_cond_false rfl ?_) | (refine cw_block ?_) | (refine in_normal ?_) | (refine cw_skip ?_))
      refine ⟨⟨((n : Int), (base0, b0, bc0), ssd0, S0, sa0, sc0), ⟨hE36, hb6, hCc.ob.sl, hcap0, by simp only; omega, hCc.ls, by simp only; omega⟩, trivial⟩, (by (repeat (first | exact agree_refl _ _ | refine agree_upd rfl ?_ | refine agree_updO rfl ?_ | refine agree_overIn rfl ?_ | refine agree_maskIn rfl ?_)))⟩
  · rintro ⟨deg, ⟨base, b1, bc⟩, ssd, S, sa, sc⟩ ξ w7 ⟨hE7, hb7, hbs, hbc, hbl, hS, hSl⟩
    simp only at hb7 hbs hbc hbl hS hSl
    show CW _ _ _ _ (over [] _) w7
    have hE37 := hE7
    have hE7d : Ex w7 w7.drew := (Ex.refl _).drew
    repeat' (first | (refine cw_seq ?_))
    refine cw_draw (late := []) (plan := [(0, none), (1, none), (2, none), (4, none), (5, none), (6, none), (3, some true), (7, some true), (8, none), (9, none), (10, some true), (11, none), (12, none)]) (fun w' => Ex w7 w') mixed (by kernel_rfl) (Ex.refl _).drew ?_
    repeat' (first | (refine k_loadCA (g := g5) rfl (fun _ h => hb7.ext h) rfl ?_) | (refine k_pure rfl ?_))
    refine k_call (sVerify_spec (n := (n : Int)) (deg := deg) (cap := cc) (bc := bc) (sc := sc) (hLs.ext (hE37.trans hE7d)) (by omega) (fun _ => by omega) (hbs.ext hE7d) hbl (hS.ext hE7d) hSl) rfl ?_
    rintro v w8 ⟨e8, rfl, he8, hE8⟩
    refine ⟨fun _ h => h.trans hE8, ?_⟩
    have hE78 := hE7d.trans hE8
    skip
    refine k_call (rVerify_spec (n := (n : Int)) (deg := deg) (cap := cc) (bc := bc) (sc := sc) (hLs.ext (hE37.trans hE78)) (by omega) (fun _ => by omega) (hbs.ext hE78) hbl hbc (hS.ext hE78) hSl) rfl ?_
    rintro v w9 ⟨e9, rfl, he9, hE9⟩
    refine ⟨fun _ h => h.trans hE9, ?_⟩
    have hee : e9 = e8 := he9.unique he8
    subst hee
    repeat' (first | (refine k_eqlI rfl rfl ?_) | (refine k_pure rfl ?_) | (refine g_run rfl rfl ?_))
    refine k_call (awakeS_spec _) rfl ?_
    rintro v w10 ⟨rfl, hE10⟩
    refine ⟨fun _ h => h.trans hE10, ?_⟩
    repeat' (first | (refine k_pure rfl ?_) | (refine then_normal ?_) | (refine rr_nil ?_) | (refine cw_ret ?_))
    exact ret1 rfl (rt rfl) ⟨rfl, ((hE03.trans hE37).trans hE78).trans (hE9.trans hE10)⟩
end Go.Proofs.Ythhfjagnmhhapaa

