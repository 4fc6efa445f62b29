
import Derived.Test.YthhfjagnmhhapaaA01
import Derived.Test.YthhfjagnmhhapaaA02
import Derived.Test.YthhfjagnmhhapaaA03
import Derived.Test.YthhfjagnmhhapaaA04
import Derived.Test.YthhfjagnmhhapaaA05
import Derived.Test.YthhfjagnmhhapaaA06
import Derived.Test.YthhfjagnmhhapaaA07
import Derived.Test.YthhfjagnmhhapaaA08
import Derived.Test.YthhfjagnmhhapaaA09
import Derived.Test.YthhfjagnmhhapaaA10
import Derived.Test.YthhfjagnmhhapaaA11
import Derived.Test.YthhfjagnmhhapaaA12
import Derived.Test.YthhfjagnmhhapaaA13

namespace Go.Proofs.Ythhfjagnmhhapaa
open Go.W Go.PM
theorem fill_spec {w : World} {n N0 : Nat} {G : List Int → Prop} {base : List Int} {c : CH} {ls : List Lv} (hn11 : n ≤ 11) (hN : N0 ≤ 1000000) (hC : ChAt w n c ls) (hG : Gd n G base N0 ls) :
    CallsR Try.prog 85 #[.pointer (some ⟨c.cb, 0, none⟩)] w fun v w' => v = .tuple #[] ∧ ∃ c' ls', ChAt w' n c' ls' ∧ Gd n G base N0 ls' ∧ Fr (c.foot ls.length) w w' ∧ CGo w c c' ls.length ls'.length := by
  refine callsR_of (args := [_]) Try.func85 rfl rfl ?_
  have hstr := hC.str
  unfold chL at hstr
  have hml := hC.mok.1
  have hpl := prod_le hG.links hn11
  have hll := hG.ll
  have n1 := hG.links.n1
  repeat' (first | (refine k_loadC rfl hstr rfl ?_) | (refine k_lenMap mapT rfl hC.map ?_) | (refine k_pure rfl ?_) | (refine then_normal ?_) | (refine cw_seq ?_) | (refine cw_region rfl ?_) | (refine rr_nil ?_) | (refine k_subI rfl rfl (by omega) (by omega) ?_) | (refine k_fieldAddr rfl ?_) | (refine cw_block ?_))
  rw [hml]
  refine cw_loop (ι := Nat × CH × List Lv) [2, 3, 4, 5, 6, 13, 14, 15, 16, 17, 18, 19, 20, 21, 22, 23, 24, 25, 26, 27, 28, 29, 30, 31, 32, 33, 34, 35, 36, 37, 38, 39, 40, 41, 42, 43, 44, 45, 46, 47, 48, 49, 50, 51, 52, 53, 54, 55, 56, 57, 58, 59] (fun s => [(2, .int .i64 ((s.1 : Int) - 1))]) (fun s w' => s.1 ≤ ls.length ∧ s.1 ≤ s.2.2.length ∧ ChAt w' n s.2.1 s.2.2 ∧ Gd n G base N0 s.2.2 ∧ Fr (c.foot ls.length) w w' ∧ CGo w c s.2.1 ls.length s.2.2.length) (fun s => s.1)
    (ls.length, c, ls) ⟨rfl, trivial⟩ ⟨Nat.le_refl _, Nat.le_refl _, hC, hG, Fr.refl _ _, CGo.refl _ _ _⟩ ?_
  rintro ⟨m, c1, ls1⟩ ξ w1 ⟨hm0, hm, hC1, hG1, hf1, hg1⟩
  simp only at hm0 hm hC1 hG1 hg1
  show CW _ _ _ _ (over [(2, .int .i64 ((m : Int) - 1))] _) w1
  have hstr1 := hC1.str
  unfold chL at hstr1
  rw [hg1.cb] at hstr1
  repeat' (first | (refine k_pure rfl ?_) | (refine then_normal ?_) | (refine cw_seq ?_) | (refine cw_region rfl ?_) | (refine rr_nil ?_) | (refine k_fieldAddr rfl ?_) | (refine cw_cond_dec rfl (fun hc => ?_) (fun hc => ?_)) | (refine cw_block ?_) | (refine cw_exit ?_) | (refine then_exit ?_) | (refine in_exit ?_) | (refine cw_skip ?_))
  · obtain ⟨i, rfl⟩ : ∃ i, m = i + 1 := ⟨m - 1, by omega⟩
    have ei : ((i + 1 : Nat) : Int) - 1 = (i : Int) := by omega
    obtain ⟨j, hj, hfd, hjm⟩ := hC1.mok.find (show i < ls1.length by omega)
    have hLi := hC1.lv i (by omega)
    have hLs := hLi.str
    unfold lvL at hLs
    rw [ei] at *
    repeat' (first | (refine k_loadC rfl hstr1 rfl ?_) | (refine k_lookup mapT intT rfl rfl hC1.map hfd ?_) | (refine k_loadC rfl hLs rfl ?_) | (refine k_pure rfl ?_) | (refine then_normal ?_) | (refine cw_seq ?_) | (refine cw_region rfl ?_) | (refine rr_nil ?_) | (refine k_len rfl ?_) | (refine k_subI rfl rfl (by omega) (by omega) ?_) | (refine k_fieldAddr rfl ?_) | (refine cw_cond_dec rfl (fun hc => ?_) (fun hc => ?_)) | (refine cw_exit ?_) | (refine then_exit ?_) | (refine in_exit ?_) | (refine cw_skip ?_))
    · refine ⟨⟨(i, c1, ls1), ⟨by simp only; omega, by simp only; omega, hC1, hG1, hf1, hg1⟩, by simp only; omega, rfl, trivial⟩, (by (repeat (first | exact agree_mask _ _ _ | refine agree_upd rfl ?_ | refine agree_updO rfl ?_ | refine agree_overIn rfl ?_ | refine agree_maskIn rfl ?_)))⟩
    · have hi1 : i < ls1.length := by omega
      have ok1 := hG1.ok hi1
      have hpl1 := prod_le hG1.links hn11
      have hgl1 := hG1.gl i hi1
      have hcb1 := hg1.cb
      have z1 := hf1.size
      refine cw_draw (late := []) (plan := [(0, none), (1, none), (2, none), (3, none), (4, none), (5, none), (6, none), (7, none), (8, none), (9, none), (10, none), (11, none), (12, some true), (13, none)]) (fun w' => w'.cell? ⟨c.cb, 1, none⟩ = some (.map (some c1.mb)) ∧ MapAt w' c1.mb c1.m ∧ Blk w' (c1.hs i).blk 95 (lvL n (c1.hs i) (ls1.getD i lv0))) mixed (by kernel_rfl) ⟨hstr1.drew.cell (j := 1) (by simp), hC1.drew.map, hLi.str.drew⟩ ?_
      repeat' (first | (refine k_load rfl (fun _ h => h.1) ?_) | (refine k_lookup mapT intT rfl rfl (fun _ h => h.2.1) hfd ?_) | (refine k_loadC (Tb := 95) rfl (fun _ h => h.2.2) rfl ?_) | (refine k_pure rfl ?_) | (refine k_fieldAddr rfl ?_))
      have hcim : c.cb ∉ (c1.hs i).im := fun h => (hC1.fne i hi1 _ (.inr h)).1 hcb1.symm
      have hLd := (hC1.drew.lv i hi1)
      refine k_call (newSrc_spec (cb := c.cb) (st := c1.st) n1 ok1.gens hLd.ga hLd.gs hLi.gim hLd.imlt (by omega) (by omega) hcim hstr1.drew rfl hC1.st) rfl ?_
      rintro v w2 ⟨s, st2, rfl, hS2, hst2, hb2, hf2, hsb2, hpa2, him2⟩
      have hf2' : Fr (One c1.cb) w1 w2 := by rw [hcb1]; exact ((Ex.refl w1).drew.fr).trans hf2
      have z2 := hf2'.size
      have hfr2 := hC1.fresh (q := s.sb) hsb2
      have hfr3 := hC1.fresh (q := s.pa) hpa2
      have hC2 : ChAt w2 n { c1 with st := st2 } ls1 := hC1.setSt hf2' (fun q h => .inl h) (by rw [hcb1]; exact hb2) hst2
      refine ⟨fun _ _ => ⟨hb2.cell (j := 1) (by simp), hC2.map, (hC2.lv i hi1).str⟩, ?_⟩
      have hsep : Sep { c1 with st := st2 } ls1.length s := ⟨hfr2, hfr3, fun q hq => (him2 q hq).elim (fun h => hC1.imfoot hi1 h) (fun h => (hC1.fresh h).1)⟩
      have hfoot1 : c1.foot ls1.length c1.cb := .inl (.inl rfl)
      repeat' (first | (refine k_pure rfl ?_) | (refine then_normal ?_) | (refine cw_seq ?_) | (refine cw_region rfl ?_) | (refine rr_nil ?_) | (refine cw_block ?_))
      refine cw_loop (ι := Nat × CH × List Lv × SS) [4, 5, 6, 41, 42, 43, 44, 45, 46, 47, 48, 49, 50, 51, 52, 53, 54, 55, 56, 57, 58, 59] (fun s => [(4, .int .i64 (s.1 : Int))]) (fun t w' => t.1 ≤ 10 ∧ i + 1 ≤ t.2.2.1.length ∧ ChAt w' n t.2.1 t.2.2.1 ∧ Gd n G base N0 t.2.2.1 ∧ Fr (c.foot ls.length) w w' ∧ CGo w c t.2.1 ls.length t.2.2.1.length ∧ SrcAt w' n c.cb t.2.2.2 (ls1.getD i lv0).gens ∧ Sep t.2.1 t.2.2.1.length t.2.2.2 ∧ t.2.2.2.sb = s.sb ∧ t.2.2.2.pa = s.pa ∧ t.2.2.1.getD i lv0 = ls1.getD i lv0) (fun t => (39916800 - prodL t.2.2.1) * 12 + (10 - t.1))
        (0, { c1 with st := st2 }, ls1, s) ⟨rfl, trivial⟩ ⟨by simp, hm, hC2, hG1, hf1.then hf2' (fun q hq h => ?_), ⟨hcb1, hg1.foot, hg1.imm⟩, hS2, hsep, rfl, rfl, rfl⟩ ?_
      · have h : q = c1.cb := h
        subst h
        exact (hg1.foot _ hfoot1).resolve_right (by omega)
      rintro ⟨k, c3, ls3, s3⟩ ξ3 w3 ⟨hk, hi3, hC3, hG3, hf3, hg3, hS3, hsp3, hsb3, hpa3, hsame⟩
      simp only at hk hi3 hC3 hG3 hg3 hS3 hsp3 hsb3 hpa3 hsame
      show CW _ _ _ _ (over [(4, .int .i64 (k : Int))] _) w3
      have hcb3 := hg3.cb
      have hpl3 := prod_le hG3.links hn11
      have z3 := hf3.size
      have hll3 := hG3.ll
      repeat' (first | (refine k_pure rfl ?_) | (refine then_normal ?_) | (refine cw_seq ?_) | (refine cw_region rfl ?_) | (refine rr_nil ?_) | (refine k_subI rfl rfl (by omega) (by omega) ?_) | (refine cw_cond_dec rfl (fun hc => ?_) (fun hc => ?_)) | (refine cw_block ?_) | (refine cw_exit ?_) | (refine then_exit ?_) | (refine in_exit ?_) | (refine in_normal ?_) | (refine cw_skip ?_))
      · have hb3 := hC3.str
        rw [hcb3] at hb3
        refine k_call (srcNext_spec hS3 hb3 rfl hC3.st) (by rw [hsb3]; rfl) ?_
        rintro v w4 ⟨g, gc, p, st4, s4, rfl, hg4, ho4, hp4, hst4, hb4, hS4, hgi4, hf4, hsb4, hpa4, _, him4⟩
        refine ⟨fun _ _ => trivial, ?_⟩
        have z4 := hf4.size
        have hfr4 := hC3.fresh hg4
        have hC4 : ChAt w4 n { c3 with st := st4 } ls3 := hC3.setSt hf4 (fun q h => by
          rcases h with h | h | h
          · exact .inl (by rw [hcb3]; exact h)
          · subst h; exact .inr hsp3.sb
          · subst h; exact .inr hsp3.pa) (by rw [hcb3]; exact hb4) hst4
        have hsp4 : Sep { c3 with st := st4 } ls3.length s4 := ⟨by rw [hsb4]; exact hsp3.sb, by rw [hpa4]; exact hsp3.pa, fun q hq => (him4 q hq).elim (hsp3.im q) (fun h => (hC3.fresh h).1)⟩
        have pp4 := (gen_grp n1 ok1.gens).perm _ hp4
        have hi3' : i < ls3.length := by omega
        repeat' (first | (refine k_pure rfl ?_) | (refine then_normal ?_) | (refine cw_seq ?_) | (refine cw_region rfl ?_) | (refine rr_nil ?_))
        refine k_call (csift_spec (first := i) hC4 (fun j _ hj => hG3.ok hj) (by omega) pp4 ho4 hfr4.1 hfr4.2 (by omega)) (by rw [← hcb3]; rfl) ?_
        rintro v w5 ⟨rfl, hc5, ho5⟩
        refine ⟨fun _ _ => trivial, ?_⟩
        have hrem := rem_facts (l := ls3.getD i lv0) (ls := ls3.drop (i + 1)) (p := p) (by rw [← drop_cons hi3']; exact hG3.links.drop i) (by rw [hsame]; exact hp4)
        rw [← drop_cons hi3'] at hrem
        simp only at hrem
        obtain ⟨pr, hd1, hd2, _⟩ := hrem
        rw [List.length_drop] at hd2
        have hC5 : ChAt w5 n { c3 with st := st4 } ls3 := hC4.fr (f1C hc5) (fun q hq e => hfr4.1 (by have e : q = g := e; rw [← e]; exact hq)) (fun q hq e => hfr4.2 (by have e : q = g := e; rw [← e]; exact hq))
        have hsbg : s4.sb < w3.heap.size ∧ s4.pa < w3.heap.size := by
          rw [hsb4, hpa4]; exact ⟨hS3.str.lt, (hS3.pool.lo _ rfl).2⟩
        have hS5 : SrcAt w5 n c.cb s4 (ls1.getD i lv0).gens := hS4.fr (f1C hc5) (fun e => by have e : s4.sb = g := e; omega) (fun e => by have e : s4.pa = g := e; omega) (fun q hq e => hgi4 (by have e : q = g := e; rw [← e]; exact hq))
        have z5 : w4.heap.size = w5.heap.size := hc5.size.symm
        have hf35 : Fr (c.foot ls.length) w w5 := (hf3.then hf4 (fun q hq h => by
          rcases h with h | h | h
          · subst h; exact .inl (.inl rfl)
          · rw [hsb3] at h; have : w1.heap.size ≤ s.sb := hsb2; omega
          · rw [hpa3] at h; have : w1.heap.size ≤ s.pa := hpa2; omega)).then (f1C hc5) (fun q hq e => by have e : q = g := e; omega)
        obtain ⟨r, hr⟩ : ∃ r, r = (siftL (ls3.drop i) p).1 := ⟨_, rfl⟩
        obtain ⟨d, hd⟩ : ∃ d, d = (siftL (ls3.drop i) p).2 := ⟨_, rfl⟩
        rw [← hr] at ho5 pr
        rw [← hd] at hd1 hd2
        rw [← hd]
        repeat' (first | (refine k_pure rfl ?_) | (refine then_normal ?_) | (refine cw_seq ?_) | (refine cw_region rfl ?_) | (refine rr_nil ?_))
        refine k_call (moved_spec (xs := r) ho5.sl gc (fun k hk => by have := pr.1.lt hk; have := pr.2; omega) (by rw [pr.2]; omega)) (by rw [pr.2]; rfl) ?_
        rintro v w6 ⟨mv, rfl, hmv, hE6⟩
        refine ⟨fun _ _ => trivial, ?_⟩
        have hC6 := hC5.ext hE6
        have hS6 : SrcAt w6 n c.cb s4 (ls1.getD i lv0).gens := hS5.fr (F := fun _ => False) hE6.fr (fun h => h) (fun h => h) (fun _ _ h => h)
        have hf36 : Fr (c.foot ls.length) w w6 := hf35.trans hE6.fr
        have z6 := hE6.size
        repeat' (first | (refine k_pure rfl ?_) | (refine then_normal ?_) | (refine cw_seq ?_) | (refine cw_region rfl ?_) | (refine rr_nil ?_) | (refine k_addI rfl rfl (by omega) (by omega) ?_) | (refine cw_cond_dec rfl (fun hc => ?_) (fun hc => ?_)) | (refine in_normal ?_) | (refine cw_skip ?_))
        · have hne : r ≠ idList n := fun e => by have := hmv.neg.2 (by rw [pr.2]; exact e); omega
          refine k_call (insert_spec (first := i + 1) (last := i + d) hC6 (fun j _ hj => hG3.ok hj) (by omega) (by omega) pr hne (ho5.sl.ext hE6) hfr4.1 (by omega) (fun j hj => by have := hG3.gl j hj; omega)) (by rw [← hcb3]; rfl) ?_
          rintro v w7 ⟨rfl, c7, ls7, hJ⟩
          refine ⟨fun _ _ => trivial, ?_⟩
          subst hr
          subst hd
          obtain ⟨hG7, hpr7, ht7⟩ := hG3.ins hi3' (by rw [hsame]; exact hp4) hJ
          have hpl7 := prod_le hG7.links hn11
          have hlen7 := hJ.len
          have hle7 : ls3.length ≤ ls7.length := by rw [hlen7]; split <;> omega
          have z7 := hJ.fr.size
          have hgw : w.heap.size ≤ g := by omega
          have hsp7 : Sep c7 ls7.length s4 := by
            refine ⟨⟨fun h => ?_, fun h => ?_⟩, ⟨fun h => ?_, fun h => ?_⟩, fun q hq h => ?_⟩
            · rcases hJ.step.foot _ h with h | h
              · exact hsp4.sb.1 h
              · omega
            · rcases hJ.step.imm _ h with h | h | h
              · exact hsp4.sb.2 h
              · omega
              · omega
            · rcases hJ.step.foot _ h with h | h
              · exact hsp4.pa.1 h
              · omega
            · rcases hJ.step.imm _ h with h | h | h
              · exact hsp4.pa.2 h
              · omega
              · omega
            · rcases hJ.step.foot _ h with h | h
              · exact hsp4.im q hq h
              · have := hS4.imlt q hq; omega
          repeat' (first | (refine k_pure rfl ?_) | (refine then_normal ?_) | (refine cw_region rfl ?_) | (refine rr_nil ?_) | (refine k_addI rfl rfl (by omega) (by omega) ?_) | (refine in_normal ?_))
          refine ⟨⟨(0, c7, ls7, s4), ⟨by simp, by simp only; omega, hJ.ch, hG7, hf36.then hJ.fr (fun q hq h => (hg3.foot q h).resolve_right (by omega)), ⟨hJ.step.cb.trans hcb3, fun q hq => ?_, fun q hq => ?_⟩, hS6.fr hJ.fr hsp4.sb.1 hsp4.pa.1 hsp4.im, hsp7, by rw [← hsb3]; exact hsb4, by rw [← hpa3]; exact hpa4, ?_⟩, by simp only; omega, rfl, trivial⟩, (by (repeat (first | exact agree_mask _ _ _ | refine agree_upd rfl ?_ | refine agree_updO rfl ?_ | refine agree_overIn rfl ?_ | refine agree_maskIn rfl ?_)))⟩
          · rcases hJ.step.foot q hq with h | h
            · exact hg3.foot q h
            · exact .inr (by omega)
          · rcases hJ.step.imm q hq with h | h | h
            · exact hg3.imm q h
            · exact .inr (by omega)
            · exact .inr (by omega)
          · exact (hJ.same i (.inl (by omega))).trans hsame
        · refine ⟨⟨(k + 1, { c3 with st := st4 }, ls3, s4), ⟨by simp only; omega, hi3, hC6, hG3, hf36, ⟨hcb3, hg3.foot, hg3.imm⟩, hS6, hsp4, by rw [← hsb3]; exact hsb4, by rw [← hpa3]; exact hpa4, hsame⟩, by simp only; omega, rfl, trivial⟩, (by (repeat (first | exact agree_mask _ _ _ | refine agree_upd rfl ?_ | refine agree_updO rfl ?_ | refine agree_overIn rfl ?_ | refine agree_maskIn rfl ?_)))⟩
      · refine ⟨⟨(i, c3, ls3), ⟨by simp only; omega, by simp only; omega, hC3, hG3, hf3, hg3⟩, by simp only; omega, rfl, trivial⟩, (by (repeat (first | exact agree_mask _ _ _ | refine agree_upd rfl ?_ | refine agree_updO rfl ?_ | refine agree_overIn rfl ?_ | refine agree_maskIn rfl ?_)))⟩
  · exact end0 rfl ⟨rfl, c1, ls1, hC1, hG1, hf1, hg1⟩
end Go.Proofs.Ythhfjagnmhhapaa

namespace Go.Proofs.Ythhfjagnmhhapaa
open Go.W Go.PM
/-- a list of elements in memory that nothing changes -/
structure GsAt (w : World) (n : Nat) (ga : Option Addr) (gc : Nat) (gs : List SD) (im : List Nat) (gens : List (List Int)) : Prop where
  sl : Sl w ga (gs.map SD.val)
  ps : PsAt w n im gs gens
  gim : ∀ ad, ga = some ad → ad.block ∈ im
  imlt : ∀ q, q ∈ im → q < w.heap.size
  cap : gens.length ≤ gc
theorem GsAt.fr {F : Nat → Prop} {w w' : World} {n : Nat} {ga : Option Addr} {gc : Nat} {gs : List SD} {im : List Nat} {gens : List (List Int)} (h : GsAt w n ga gc gs im gens) (f : Fr F w w') (hn : ∀ q, q ∈ im → ¬ F q) : GsAt w' n ga gc gs im gens :=
  ⟨h.sl.fr f (fun ad e => hn _ (h.gim ad e)), h.ps.fr f hn, h.gim, fun q hq => Nat.lt_of_lt_of_le (h.imlt q hq) f.size, h.cap⟩
set_option maxHeartbeats 1000000 in
theorem fixing_spec {w : World} {n i : Nat} {c : CH} {ls : List Lv} (hn11 : n ≤ 11) (hC : ChAt w n c ls) (hi : i < ls.length) (ok : LvOK n (ls.getD i lv0)) (hgl : (ls.getD i lv0).gens.length ≤ 1000000000) (hne : ∀ g ∈ (ls.getD i lv0).gens, g ≠ idList n) :
    CallsR Try.prog 84 #[.pointer (some ⟨c.cb, 0, none⟩), .pointer (some ⟨(c.hs i).blk, 0, none⟩)] w fun v w' => ∃ st' ga gc gs im gens, v = .slice ga gens.length gc ∧ ChAt w' n { c with st := st' } ls ∧ Fr (One c.cb) w w' ∧ GsAt w' n ga gc gs im gens ∧
      (∀ q, q ∈ im → q ∈ (c.hs i).im ∨ w.heap.size ≤ q) ∧ (∀ q, q ∈ im → ¬ c.foot ls.length q) ∧ (gens.length ≤ (ls.getD i lv0).gens.length ∨ gens.length ≤ 2) ∧ ∀ g ∈ gens, Gen n (ls.getD i lv0).gens g ∧ ap g (ls.getD i lv0).pt = (ls.getD i lv0).pt ∧ g ≠ idList n := by
  refine callsR_of (args := [_, _]) Try.func84 rfl rfl ?_
  have n1 := ok.n1
  have hLi := hC.lv i hi
  have hLs := hLi.str
  have hol := ok.orb_le
  have hop := ok.pos
  repeat' (first | (refine k_loadC rfl hLs rfl ?_) | (refine k_pure rfl ?_) | (refine then_normal ?_) | (refine cw_seq ?_) | (refine cw_region rfl ?_) | (refine rr_nil ?_) | (refine k_len rfl ?_) | (refine k_fieldAddr rfl ?_) | (refine cw_cond_dec rfl (fun hc => ?_) (fun hc => ?_)) | (refine cw_ret ?_) | (refine then_ret ?_) | (refine cw_skip ?_))
  · refine ret1 rfl (rt rfl) ⟨c.st, (c.hs i).ga, (c.hs i).gc, (c.hs i).gs, (c.hs i).im, (ls.getD i lv0).gens, rfl, hC, Fr.refl _ _, ⟨hLi.ga, hLi.gs, hLi.gim, hLi.imlt, hLi.gcap⟩, fun q hq => .inl hq, fun q hq => hC.imfoot hi hq, .inl (Nat.le_refl _), fun g hg => ⟨gen_self ok.gens hg, ?_, hne g hg⟩⟩
    have h1 : (ls.getD i lv0).orb.length = 1 := by omega
    have hm : ap g (ls.getD i lv0).pt ∈ (ls.getD i lv0).orb := (ok.mem _).2 (.step _ hg .refl)
    obtain ⟨y, hy⟩ := List.length_eq_one_iff.1 h1
    have hh := ok.head
    rw [hy] at hm hh
    rw [List.mem_singleton] at hm
    rw [hm]; exact hh
  · have hg0 : 1 ≤ (ls.getD i lv0).gens.length := by
      rcases Nat.eq_zero_or_pos (ls.getD i lv0).gens.length with h | h
      · exfalso
        have hnil := List.eq_nil_of_length_eq_zero h
        have hall : ∀ y ∈ (ls.getD i lv0).orb, y ∈ [(ls.getD i lv0).pt] := fun y hy => by
          obtain ⟨q, hq, e⟩ := (ok.mem' y).1 hy
          rw [hnil, gen_nil] at hq
          subst hq
          rw [ap_id ok.pt] at e
          rw [List.mem_singleton]; exact e.symm
        have := nodup_le ok.nd hall
        simp only [List.length_singleton] at this
        omega
      · exact h
    have hcim : c.cb ∉ (c.hs i).im := fun h => (hC.fne i hi _ (.inr h)).1 rfl
    have hLd := hC.drew.lv i hi
    have grp := ok.grp
    skip
    refine cw_draw (late := [7]) (plan := [(0, none), (1, none), (2, none), (3, none), (4, none), (5, none), (6, none), (7, some false), (8, none)]) (fun w' => Blk w' (c.hs i).blk 95 (lvL n (c.hs i) (ls.getD i lv0))) mixed (by kernel_rfl) hLs.drew ?_
    repeat' (first | (refine k_loadC rfl (fun _ h => h) rfl ?_) | (refine k_pure rfl ?_) | (refine k_fieldAddr rfl ?_))
    refine k_call (newSrc_spec (cb := c.cb) (st := c.st) n1 ok.gens hLd.ga hLd.gs hLi.gim hLd.imlt hg0 (by omega) hcim hC.drew.str rfl hC.st) rfl ?_
    rintro v w2 ⟨s, st2, rfl, hS2, hst2, hb2, hf2, hsb2, hpa2, him2⟩
    have hf2' : Fr (One c.cb) w w2 := ((Ex.refl w).drew.fr).trans hf2
    have hC2 : ChAt w2 n { c with st := st2 } ls := hC.setSt hf2' (fun q h => .inl h) hb2 hst2
    refine ⟨fun _ _ => (hC2.lv i hi).str, ?_⟩
    replace hsb2 : w.heap.size ≤ s.sb := hsb2
    replace hpa2 : w.heap.size ≤ s.pa := hpa2
    have z2 := hf2'.size
    have hsep : Sep { c with st := st2 } ls.length s := ⟨hC.fresh hsb2, hC.fresh hpa2, fun q hq => (him2 q hq).elim (fun h => hC.imfoot hi h) (fun h => (hC.fresh h).1)⟩
    have hsbl := hS2.str.lt
    have hpal := (hS2.pool.lo _ rfl).2
    simp only at hpal
    repeat' (first | (refine k_pure rfl ?_) | (refine then_normal ?_) | (refine cw_seq ?_) | (refine cw_region rfl ?_) | (refine rr_nil ?_) | (refine cw_block ?_))
    refine cw_loop (ι := Nat × Option Addr × Nat × List SD × List (List Int) × List Nat × Nat × SS) [5, 7, 26, 27, 28, 29, 30, 31, 32, 33, 34, 35, 36, 37, 38, 39, 40] (fun t => [(26, .int .i64 (t.1 : Int)), (5, .slice t.2.1 t.2.2.2.2.1.length t.2.2.1)])
      (fun t w' => t.1 ≤ 2 ∧ t.2.2.2.2.1.length ≤ t.1 ∧ ChAt w' n { c with st := t.2.2.2.2.2.2.1 } ls ∧ Fr (One c.cb) w w' ∧ SrcAt w' n c.cb t.2.2.2.2.2.2.2 (ls.getD i lv0).gens ∧ Sep { c with st := t.2.2.2.2.2.2.1 } ls.length t.2.2.2.2.2.2.2 ∧ t.2.2.2.2.2.2.2.sb = s.sb ∧ t.2.2.2.2.2.2.2.pa = s.pa ∧
        Own w' w.heap.size 110 1 t.2.1 t.2.2.2.2.1.length t.2.2.1 (t.2.2.2.1.map SD.val) ∧ (∀ ad, t.2.1 = some ad → ad.block ≠ s.sb ∧ ad.block ≠ s.pa ∧ ad.block ∉ t.2.2.2.2.2.1 ∧ ad.block ∉ t.2.2.2.2.2.2.2.im) ∧ PsAt w' n t.2.2.2.2.2.1 t.2.2.2.1 t.2.2.2.2.1 ∧ (∀ q, q ∈ t.2.2.2.2.2.1 → w.heap.size ≤ q ∧ q < w'.heap.size ∧ q ≠ s.sb ∧ q ≠ s.pa) ∧
        ∀ g ∈ t.2.2.2.2.1, Gen n (ls.getD i lv0).gens g ∧ ap g (ls.getD i lv0).pt = (ls.getD i lv0).pt ∧ g ≠ idList n) (fun t => 2 - t.1)
      (0, none, 0, [], [], [], st2, s) ⟨rfl, rfl, trivial⟩ ⟨Nat.zero_le _, Nat.le_refl _, hC2, hf2', hS2, hsep, rfl, rfl, Own.nil _ _ _ _, by rintro _ ⟨⟩, ⟨rfl, fun i hi => absurd hi (by simp), fun i hi => absurd hi (by simp), fun i hi => absurd hi (by simp)⟩, by simp, by simp⟩ ?_
    rintro ⟨k, a, cp, sds, gens', imx, st3, s3⟩ ξ w3 ⟨hk, hLk, hC3, hf3, hS3, hsp3, hsb3, hpa3, hO3, hOd, hP3, him3, hg3⟩
    simp only at hk hLk hC3 hS3 hsp3 hsb3 hpa3 hO3 hOd hP3 him3 hg3
    show CW _ _ _ _ (over [(26, .int .i64 (k : Int)), (5, .slice a gens'.length cp)] _) w3
    have z3 := hf3.size
    repeat' (first | (refine k_pure rfl ?_) | (refine then_normal ?_) | (refine cw_seq ?_) | (refine cw_region rfl ?_) | (refine rr_nil ?_) | (refine cw_cond_dec rfl (fun hc => ?_) (fun hc => ?_)) | (refine cw_block ?_) | (refine cw_exit ?_) | (refine then_exit ?_) | (refine in_exit ?_) | (refine cw_ret ?_) | (refine cw_skip ?_))
    · have hb3 := hC3.str
      refine k_call (srcNext_spec hS3 hb3 rfl hC3.st) (by rw [hsb3]; rfl) ?_
      rintro v w4 ⟨g, gcp, p, st4, s4, rfl, hg4, ho4, hp4, hst4, hb4, hS4, hgi4, hf4, hsb4, hpa4, _, him4⟩
      refine ⟨fun _ _ => trivial, ?_⟩
      have z4 := hf4.size
      have hsb3l : s3.sb < w3.heap.size := hS3.str.lt
      have hpa3l : s3.pa < w3.heap.size := (hS3.pool.lo _ rfl).2
      have hfr4 := hC3.fresh hg4
      have hC4 : ChAt w4 n { c with st := st4 } ls := hC3.setSt hf4 (fun q h => by
        rcases h with h | h | h
        · exact .inl h
        · subst h; exact .inr hsp3.sb
        · subst h; exact .inr hsp3.pa) hb4 hst4
      have hsp4 : Sep { c with st := st4 } ls.length s4 := ⟨by rw [hsb4]; exact hsp3.sb, by rw [hpa4]; exact hsp3.pa, fun q hq => (him4 q hq).elim (hsp3.im q) (fun h => (hC3.fresh h).1)⟩
      have pp4 := grp.perm _ hp4
      have hF4 : ∀ q, w.heap.size ≤ q → q ≠ s.sb → q ≠ s.pa → ¬ (q = c.cb ∨ q = s3.sb ∨ q = s3.pa) := fun q h1 h2 h3 h => by
        have := hC.str.lt
        rcases h with h | h | h
        · omega
        · rw [hsb3] at h; exact h2 h
        · rw [hpa3] at h; exact h3 h
      have hO4 := hO3.fr hf4 (fun ad e => hF4 _ (hO3.lo ad e).1 (hOd ad e).1 (hOd ad e).2.1)
      have hP4 := hP3.fr hf4 (fun q hq => hF4 q (him3 q hq).1 (him3 q hq).2.2.1 (him3 q hq).2.2.2)
      have hm : ap p (ls.getD i lv0).pt ∈ (ls.getD i lv0).orb := (ok.mem' _).2 ⟨p, hp4, rfl⟩
      repeat' (first | (refine k_pure rfl ?_) | (refine then_normal ?_) | (refine cw_seq ?_) | (refine cw_region rfl ?_) | (refine rr_nil ?_))
      refine k_call (divide_spec (hC4.lv i hi) ok pp4 ho4 (fun h => hfr4.1 (.inr ⟨i, hi, h⟩)) (fun h => hfr4.2 ⟨i, hi, h⟩)) rfl ?_
      rintro v w5 ⟨rfl, hc5, ho5⟩
      refine ⟨fun _ _ => trivial, ?_⟩
      rw [if_pos hm] at ho5
      obtain ⟨r, hr⟩ : ∃ r, r = mulP p ((ls.getD i lv0).to (ap p (ls.getD i lv0).pt)) := ⟨_, rfl⟩
      have hrg : Gen n (ls.getD i lv0).gens r := by rw [hr]; exact grp.mul _ _ hp4 (ok.to_in hm)
      have hrp : ap r (ls.getD i lv0).pt = (ls.getD i lv0).pt := by rw [hr, ap_mul pp4 ok.pt, ok.to_ap hm]
      have pr := grp.perm _ hrg
      rw [← hr] at ho5
      have z5 : w4.heap.size = w5.heap.size := hc5.size.symm
      have hC5 : ChAt w5 n { c with st := st4 } ls := hC4.fr (f1C hc5) (fun q hq e => hfr4.1 (by have e : q = g := e; rw [← e]; exact hq)) (fun q hq e => hfr4.2 (by have e : q = g := e; rw [← e]; exact hq))
      have hS5 := hS4.fr (f1C hc5) (fun e => by have e : s4.sb = g := e; omega) (fun e => by have e : s4.pa = g := e; omega) (fun q hq e => hgi4 (by have e : q = g := e; rw [← e]; exact hq))
      have hO5 := hO4.chg hc5 (fun ad e => by have := (hO3.lo ad e).2; omega)
      have hP5 := hP4.fr (f1C hc5) (fun q hq e => by have e : q = g := e; have := (him3 q hq).2.1; omega)
      have hfw5 : Fr (One c.cb) w w5 := (hf3.then hf4 (fun q hq h => by
        rcases h with h | h | h
        · exact h
        · omega
        · omega)).then (f1C hc5) (fun q hq e => by have e : q = g := e; omega)
      repeat' (first | (refine k_pure rfl ?_) | (refine then_normal ?_) | (refine cw_seq ?_) | (refine cw_region rfl ?_) | (refine rr_nil ?_))
      refine k_call (moved_spec (xs := r) ho5.sl gcp (fun k hk => by have := pr.1.lt hk; have := pr.2; omega) (by rw [pr.2]; omega)) (by rw [pr.2]; rfl) ?_
      rintro v w6 ⟨mv, rfl, hmv, hE6⟩
      refine ⟨fun _ _ => trivial, ?_⟩
      have z6 := hE6.size
      have hC6 := hC5.ext hE6
      have hS6 : SrcAt w6 n c.cb s4 (ls.getD i lv0).gens := hS5.fr (F := fun _ => False) hE6.fr (fun h => h) (fun h => h) (fun _ _ h => h)
      have hfw6 := hfw5.trans (hE6.fr (F := One c.cb))
      have hgl6 : g < w5.heap.size := (ho5.lo _ rfl).2
      have hO6 := hO5.ext hE6
      have hP6 := hP5.ext hE6
      repeat' (first | (refine k_pure rfl ?_) | (refine then_normal ?_) | (refine cw_region rfl ?_) | (refine rr_nil ?_) | (refine k_addI rfl rfl (by omega) (by omega) ?_) | (refine cw_cond_dec rfl (fun hc => ?_) (fun hc => ?_)) | (refine in_normal ?_) | (refine cw_skip ?_))
      · have hne' : r ≠ idList n := fun e => by have := hmv.neg.2 (by rw [pr.2]; exact e); omega
        refine k_app1S rfl rfl rfl rfl hO6 (by omega) (by omega) (by omega) (fun gx a7 c7 w7 ho7 hg7 hA7 => ?_)
        have hown : ∀ q, (Value.slice a gens'.length cp).ownBlock = some q → ∃ ad, a = some ad ∧ ad.block = q := fun q e => by
          cases ha : a with
          | none => rw [ha] at e; simp [Value.ownBlock] at e
          | some ad => rw [ha] at e; simp [Value.ownBlock] at e; exact ⟨ad, rfl, e⟩
        have f7 := grown_fr hg7 hown
        have z7 := f7.size
        obtain ⟨b7, rfl⟩ := Own.ba ho7
        have hlo7 := (ho7.lo _ rfl)
        simp only at hlo7
        have himx : ∀ q, q ∈ s4.im → q ∈ s3.im ∨ w3.heap.size ≤ q := him4
        have hadS4 : ∀ ad, a = some ad → ad.block ∉ s4.im := fun ad e h => by
          rcases him4 _ h with h | h
          · exact (hOd ad e).2.2.2 h
          · have := (hO3.lo ad e).2; omega
        have hC7 := hC6.fr f7 (fun q hq ⟨ad, e, e2⟩ => (hC.fresh (q := q) (by rw [← e2]; exact (hO3.lo ad e).1)).1 hq) (fun q hq ⟨ad, e, e2⟩ => (hC.fresh (q := q) (by rw [← e2]; exact (hO3.lo ad e).1)).2 hq)
        have hS7 := hS6.fr f7 (fun ⟨ad, e, e2⟩ => (hOd ad e).1 (by rw [e2, hsb4, hsb3])) (fun ⟨ad, e, e2⟩ => (hOd ad e).2.1 (by rw [e2, hpa4, hpa3])) (fun q hq ⟨ad, e, e2⟩ => hadS4 ad e (by rw [e2]; exact hq))
        have hP7 := ((hP6.fr f7 (fun q hq ⟨ad, e, e2⟩ => (hOd ad e).2.2.1 (by rw [e2]; exact hq))).mono (im' := g :: imx) fun q hq => List.mem_cons_of_mem _ hq).snoc (s := ⟨ba g, n, gcp⟩) (p := r) ((ho5.sl.ext hE6).fr f7 (by rintro _ ⟨⟩ ⟨ad, e, e2⟩; have := (hO3.lo ad e).2; simp only at e2; omega)) rfl (by rintro _ ⟨⟩; simp)
        have hb7 : b7 ≠ s.sb ∧ b7 ≠ s.pa ∧ b7 ∉ g :: imx ∧ b7 ∉ s4.im := by
          rcases hA7 with e | e
          · have h1 := hOd _ e.symm
            have h2 := (hO3.lo _ e.symm).2
            simp only at h1 h2
            refine ⟨h1.1, h1.2.1, ?_, hadS4 _ e.symm⟩
            rw [List.mem_cons, not_or]
            exact ⟨by omega, h1.2.2.1⟩
          · have h1 := e _ rfl
            simp only at h1
            refine ⟨by omega, by omega, ?_, fun h => by have := hS6.imlt _ h; omega⟩
            rw [List.mem_cons, not_or]
            exact ⟨by omega, fun h => by have := (him3 _ h).2.1; omega⟩
        repeat' (first | (refine k_pure rfl ?_) | (refine then_normal ?_) | (refine cw_region rfl ?_) | (refine rr_nil ?_) | (refine k_addI rfl rfl (by omega) (by omega) ?_) | (refine in_normal ?_))
        refine ⟨⟨(k + 1, ba b7, c7, sds ++ [⟨ba g, n, gcp⟩], gens' ++ [r], g :: imx, st4, s4), ⟨by simp only; omega, by simp only [List.length_append, List.length_singleton]; omega, hC7, hfw6.then f7 (fun q hq ⟨ad, e, e2⟩ => by have := (hO3.lo ad e).1; omega), hS7, hsp4, by simp only; rw [hsb4, hsb3], by simp only; rw [hpa4, hpa3], ?_, by rintro _ ⟨⟩; exact hb7, hP7, fun q hq => ?_, fun x hx => ?_⟩, by simp only; omega, rfl, ?_, trivial⟩, (by (repeat (first | exact agree_mask _ _ _ | refine agree_upd rfl ?_ | refine agree_updO rfl ?_ | refine agree_overIn rfl ?_ | refine agree_maskIn rfl ?_)))⟩
        · simp only [List.length_append, List.length_singleton]; exact ho7
        · rcases List.mem_cons.1 hq with rfl | hq
          · exact ⟨by omega, by omega, by omega, by omega⟩
          · have := him3 q hq; exact ⟨this.1, by omega, this.2.2⟩
        · rcases List.mem_append.1 hx with hx | hx
          · exact hg3 x hx
          · rw [List.mem_singleton] at hx; subst hx; exact ⟨hrg, hrp, hne'⟩
        · simp only [List.length_append, List.length_singleton]; rfl
      · refine ⟨⟨(k + 1, a, cp, sds, gens', imx, st4, s4), ⟨by simp only; omega, by simp only; omega, hC6, hfw6, hS6, hsp4, by simp only; rw [hsb4, hsb3], by simp only; rw [hpa4, hpa3], hO6, fun ad e => ⟨(hOd ad e).1, (hOd ad e).2.1, (hOd ad e).2.2.1, fun h => ?_⟩, hP6, fun q hq => ⟨(him3 q hq).1, by have := (him3 q hq).2.1; omega, (him3 q hq).2.2⟩, hg3⟩, by simp only; omega, rfl, rfl, trivial⟩, (by (repeat (first | exact agree_mask _ _ _ | refine agree_upd rfl ?_ | refine agree_updO rfl ?_ | refine agree_overIn rfl ?_ | refine agree_maskIn rfl ?_)))⟩
        rcases him4 _ h with h | h
        · exact (hOd ad e).2.2.2 h
        · have := (hO3.lo ad e).2; omega
    · obtain rfl : k = 2 := by omega
      have hcim : ∀ ad, a = some ad → w.heap.size ≤ ad.block := fun ad e => (hO3.lo ad e).1
      obtain ⟨imz, himz⟩ : ∃ l : List Nat, (∀ ad, a = some ad → ad.block ∈ l) ∧ (∀ q, q ∈ imx → q ∈ l) ∧ ∀ q, q ∈ l → w.heap.size ≤ q ∧ q < w3.heap.size := by
        cases ha : a with
        | none => exact ⟨imx, by rintro _ ⟨⟩, fun _ h => h, fun q hq => ⟨(him3 q hq).1, (him3 q hq).2.1⟩⟩
        | some ad =>
          refine ⟨ad.block :: imx, by rintro _ ⟨⟩; simp, fun q hq => List.mem_cons_of_mem _ hq, fun q hq => ?_⟩
          rcases List.mem_cons.1 hq with rfl | hq
          · exact hO3.lo ad ha
          · exact ⟨(him3 q hq).1, (him3 q hq).2.1⟩
      refine ret1 rfl (rt rfl) ⟨st3, a, cp, sds, imz, gens', rfl, hC3, hf3, ⟨hO3.sl, hP3.mono himz.2.1, himz.1, fun q hq => (himz.2.2 q hq).2, hO3.capLe⟩, fun q hq => .inr (himz.2.2 q hq).1, fun q hq => (hC.fresh (himz.2.2 q hq).1).1, .inr hLk, hg3⟩
end Go.Proofs.Ythhfjagnmhhapaa

namespace Go.Proofs.Ythhfjagnmhhapaa
open Go.W Go.PM
theorem putL_end {ls : List Lv} {l : Lv} : putL ls ls.length l = ls ++ [l] := by
  unfold putL; rw [List.take_length, List.drop_eq_nil_of_le (by omega)]
structure BJ (w : World) (n : Nat) (gens : List (List Int)) (base : List Int) (i : Nat) (ga : Option Addr) (gc : Nat) (gs : List SD) (im : List Nat) (group : List (List Int)) (c : CH) (ls : List Lv) (w' : World) : Prop where
  ch : ChAt w' n c ls
  len : ls.length = i
  gsa : GsAt w' n ga gc gs im group
  ex : Ex w w'
  foot : ∀ q, c.foot ls.length q → w.heap.size ≤ q
  imf : ∀ q, q ∈ im → ¬ c.foot ls.length q
  links : Links n ls
  gn : GensN n group
  gne : ∀ g ∈ group, g ≠ idList n
  gl : group.length ≤ gens.length + 2
  lgl : ∀ j, j < ls.length → (ls.getD j lv0).gens.length ≤ gens.length + 2
  pts : ∀ j, j < base.length → j < ls.length → (ls.getD j lv0).pt = base.getD j 0
  two : ∀ j, base.length ≤ j → j < ls.length → 2 ≤ (ls.getD j lv0).orb.length
  zero : i = 0 → ∀ p, Gen n group p ↔ Gen n gens p
  succ : 0 < i → ∀ p, grpOf n ls p ↔ Gen n gens p
  last : ∀ z, ls[ls.length - 1]? = some z → (∀ g ∈ group, Gen n z.gens g ∧ ap g z.pt = z.pt) ∧ ∀ a, z.done.getD a 0 = 0
  ll : ls.length ≤ base.length + prodL ls
theorem BJ.gd {w : World} {n : Nat} {gens : List (List Int)} {base : List Int} {i : Nat} {ga : Option Addr} {gc : Nat} {gs : List SD} {im : List Nat} {c : CH} {ls : List Lv} {w' : World} (h : BJ w n gens base i ga gc gs im [] c ls w') (hb : base.length ≤ i) :
    Gd n (Gen n gens) base (gens.length + base.length + 2) ls := by
  refine ⟨h.links, fun p => ?_, fun j hj => by have := h.lgl j hj; omega, by have := h.ll; omega, by rw [h.len]; exact hb, fun j hj => h.pts j hj (by rw [h.len]; omega), h.two⟩
  rcases Nat.eq_zero_or_pos i with e | e
  · have hz := h.zero e p
    have hl : ls = [] := List.eq_nil_of_length_eq_zero (by rw [h.len]; exact e)
    rw [← hz, hl, gen_nil]; rfl
  · exact h.succ e p
/-- one more level -/
theorem BJ.step {w : World} {n : Nat} {gens : List (List Int)} {base : List Int} {i : Nat} {ga : Option Addr} {gc : Nat} {gs : List SD} {im : List Nat} {group : List (List Int)} {c : CH} {ls : List Lv} {w1 w2 w3 w4 : World} (hJ : BJ w n gens base i ga gc gs im group c ls w1)
    {h : LH} {l : Lv} {pt : Nat} (hE2 : Ex w1 w2) (ok : LvOK n l) (hpt : l.pt = pt) (hg : l.gens = group) (hd : ∀ a, l.done.getD a 0 = 0) (hF : ∀ q, q ∈ h.F → w1.heap.size ≤ q) (_hI : ∀ q, q ∈ h.im → q ∈ im ∨ w1.heap.size ≤ q)
    {va' : Option Addr} {vc' st' : Nat} {m' : List (Int × Value)} (f3 : Fr c.own w2 w3) (hva : va' = c.va ∨ ∀ ad, va' = some ad → w2.heap.size ≤ ad.block)
    (hC4 : ChAt w4 n { c with va := va', vc := vc', m := m', hs := fun j => if j = i then h else c.hs j, st := st' } (ls ++ [l])) (f4 : Fr (One c.cb) w3 w4)
    {ga' : Option Addr} {gc' : Nat} {gs' : List SD} {im' : List Nat} {group' : List (List Int)} (hgs : GsAt w4 n ga' gc' gs' im' group') (himf : ∀ q, q ∈ im' → ¬ CH.foot { c with va := va', vc := vc', m := m', hs := fun j => if j = i then h else c.hs j, st := st' } (ls ++ [l]).length q)
    (hgl : group'.length ≤ group.length ∨ group'.length ≤ 2) (hg' : ∀ g ∈ group', Gen n l.gens g ∧ ap g l.pt = l.pt ∧ g ≠ idList n) (hpts : i < base.length → (pt : Int) = base.getD i 0) (htwo : base.length ≤ i → ∃ g ∈ group, ap g pt ≠ pt) :
    BJ w n gens base (i + 1) ga' gc' gs' im' group' { c with va := va', vc := vc', m := m', hs := fun j => if j = i then h else c.hs j, st := st' } (ls ++ [l]) w4 ∧ prodL (ls ++ [l]) = prodL ls * l.orb.length ∧ (base.length ≤ i → 2 ≤ l.orb.length) := by
  have hgl2 : group'.length ≤ gens.length + 2 := by clear htwo; have := hJ.gl; omega
  have hlen := hJ.len
  have s1 := hJ.ex.size
  have s2 := hE2.size
  have s3 := f3.size
  have hown : ∀ q, c.own q → w.heap.size ≤ q := fun q hq => hJ.foot q (.inl hq)
  have grp := ok.grp
  have hsn := links_snoc hJ.links ok hd (fun z hz => ⟨fun g hg0 => (hJ.last z hz).1 g (by rw [← hg]; exact hg0), (hJ.last z hz).2⟩)
  have hgd : ∀ j, (ls ++ [l]).getD j lv0 = if j < ls.length then ls.getD j lv0 else if j = ls.length then l else lv0 := fun j => by
    by_cases h1 : j < ls.length
    · rw [if_pos h1, getD_pre h1]
    · rw [if_neg h1]
      by_cases h2 : j = ls.length
      · subst h2; rw [if_pos rfl]; simp
      · rw [if_neg h2, List.getD_eq_getElem?_getD, List.getElem?_eq_none (by simp; omega)]; rfl
  have h2orb : base.length ≤ i → 2 ≤ l.orb.length := fun hb => by
    obtain ⟨g, hgm, hgp⟩ := htwo hb
    have hm : ap g l.pt ∈ l.orb := (ok.mem' _).2 ⟨g, gen_self ok.gens (by rw [hg]; exact hgm), rfl⟩
    exact nodup_le (l := [ap g l.pt, l.pt]) (m := l.orb) (by simp [hpt, hgp]) (by simp [hm, ok.pt_mem])
  clear htwo
  refine ⟨⟨hC4, by simp [hlen], hgs, ?_, fun q hq => ?_, himf, hsn.1, fun g hg0 => grp.perm _ (hg' g hg0).1, fun g hg0 => (hg' g hg0).2.2, hgl2, fun j hj => ?_, fun j hb hj => ?_, fun j hb hj => ?_, fun e => absurd e (by omega), fun _ p => ?_, fun z hz => ?_, ?_⟩, hsn.2, h2orb⟩
  · refine Fr.ex (Fr.ex (hJ.ex.trans hE2) f3 hown) f4 (fun q hq => ?_)
    have hq : q = c.cb := hq
    subst hq; exact hown _ (.inl rfl)
  · rcases hq with (hq | hq | ⟨ad, h1, h2⟩) | ⟨j, hj, hq⟩
    · exact hown q (.inl hq)
    · exact hown q (.inr (.inl hq))
    · simp only at h1
      rcases hva with e | e
      · rw [e] at h1; exact hown q (.inr (.inr ⟨ad, h1, h2⟩))
      · have := e ad h1; omega
    · simp only at hq
      rw [List.length_append, List.length_singleton] at hj
      by_cases e : j = i
      · rw [if_pos e] at hq; have := hF q hq; omega
      · rw [if_neg e] at hq; exact hJ.foot q (.inr ⟨j, by omega, hq⟩)
  · rw [List.length_append, List.length_singleton] at hj
    rw [hgd]
    by_cases h1 : j < ls.length
    · rw [if_pos h1]; exact hJ.lgl j h1
    · rw [if_neg h1, if_pos (by omega), hg]; exact hJ.gl
  · rw [List.length_append, List.length_singleton] at hj
    rw [hgd]
    by_cases h1 : j < ls.length
    · rw [if_pos h1]; exact hJ.pts j hb h1
    · rw [if_neg h1, if_pos (by omega), hpt]
      obtain rfl : j = i := by omega
      exact hpts hb
  · rw [List.length_append, List.length_singleton] at hj
    rw [hgd]
    by_cases h1 : j < ls.length
    · rw [if_pos h1]; exact hJ.two j hb h1
    · rw [if_neg h1, if_pos (by omega)]; exact h2orb (by omega)
  · rcases Nat.eq_zero_or_pos i with e | e
    · have hl : ls = [] := List.eq_nil_of_length_eq_zero (by omega)
      subst hl
      rw [← hJ.zero e p, ← hg]; exact Iff.rfl
    · rw [← hJ.succ e p]
      cases ls with
      | nil => simp at hlen; omega
      | cons z zs => exact Iff.rfl
  · rw [List.length_append, List.length_singleton, Nat.add_sub_cancel] at hz
    rw [List.getElem?_append_right (Nat.le_refl _), Nat.sub_self] at hz
    simp only [List.getElem?_cons_zero, Option.some.injEq] at hz
    subst hz
    exact ⟨fun g hg0 => ⟨(hg' g hg0).1, (hg' g hg0).2.1⟩, hd⟩
  · rw [List.length_append, List.length_singleton, hsn.2]
    have h0 := hJ.ll
    have hp := prodL_pos hJ.links
    have ho := ok.pos
    by_cases hb : base.length ≤ i
    · have h2 := h2orb hb
      have h3 : prodL ls * 2 ≤ prodL ls * l.orb.length := Nat.mul_le_mul_left _ h2
      omega
    · have h3 : prodL ls * 1 ≤ prodL ls * l.orb.length := Nat.mul_le_mul_left _ ho
      omega
end Go.Proofs.Ythhfjagnmhhapaa

