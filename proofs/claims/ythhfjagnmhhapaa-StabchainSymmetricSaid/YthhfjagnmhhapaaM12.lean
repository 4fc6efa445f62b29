
import Derived.Test.YthhfjagnmhhapaaM01
import Derived.Test.YthhfjagnmhhapaaM02
import Derived.Test.YthhfjagnmhhapaaM03
import Derived.Test.YthhfjagnmhhapaaM04
import Derived.Test.YthhfjagnmhhapaaM05
import Derived.Test.YthhfjagnmhhapaaM06
import Derived.Test.YthhfjagnmhhapaaM07
import Derived.Test.YthhfjagnmhhapaaM08
import Derived.Test.YthhfjagnmhhapaaM09
import Derived.Test.YthhfjagnmhhapaaM10

namespace Go.Proofs.Ythhfjagnmhhapaa
open Go.W Go.PM
structure SS where
  sb : Nat
  pa : Nat
  pc : Nat
  sds : List SD
  pd : SD
  im : List Nat
  ps : List (List Int)
  pr : List Int
structure SrcAt (w : World) (n cb : Nat) (s : SS) (gens : List (List Int)) : Prop where
  str : Blk w s.sb 174 (srcL (.slice (ba s.pa) s.ps.length s.pc) (.slice s.pd.a n s.pd.cap) cb 3)
  pool : Own w 0 110 1 (ba s.pa) s.ps.length s.pc (s.sds.map SD.val)
  pls : PsAt w n s.im s.sds s.ps
  pd : Sl w s.pd.a (u16L s.pr)
  pdi : ∀ ad, s.pd.a = some ad → ad.block ∈ s.im
  mem : ∀ i, i < s.ps.length → Gen n gens (s.ps.getD i [])
  pm : Gen n gens s.pr
  gn : GensN n gens
  n1 : 1 ≤ n ∧ n ≤ 512
  ne : s.sb ≠ s.pa ∧ s.sb ≠ cb ∧ s.pa ≠ cb
  dis : s.sb ∉ s.im ∧ s.pa ∉ s.im ∧ cb ∉ s.im
  imlt : ∀ q, q ∈ s.im → q < w.heap.size
  len : 2 ≤ s.ps.length ∧ s.ps.length ≤ 1000000000000
theorem PsAt.setP {w : World} {n : Nat} {im : List Nat} {sds : List SD} {ps : List (List Int)} (h : PsAt w n im sds ps) {i : Nat} {s : SD} {p : List Int} (hi : i < ps.length) (hs : Sl w s.a (u16L p)) (hl : s.len = n) (hm : ∀ ad, s.a = some ad → ad.block ∈ im) : PsAt w n im (sds.set i s) (ps.set i p) := by
  have e : ∀ j, (sds.set i s).getD j sd0 = if j = i then s else sds.getD j sd0 := fun j => getD_set' (by rw [h.len]; exact hi)
  have e' : ∀ j, (ps.set i p).getD j [] = if j = i then p else ps.getD j [] := fun j => getD_set' hi
  refine ⟨by simp [h.len], fun j hj => ?_, fun j hj => ?_, fun j hj ad => ?_⟩ <;> rw [List.length_set] at hj <;> rw [e j]
  · rw [e' j]; split
    · exact hs
    · exact h.sl j hj
  · split
    · exact hl
    · exact h.n j hj
  · split
    · exact hm ad
    · exact h.im j hj ad
theorem srcNext_spec {w : World} {n cb Tc st : Nat} {s : SS} {gens : List (List Int)} {cs : List Value} (hS : SrcAt w n cb s gens) (hc : Blk w cb Tc cs) (ho : cs[3]? = some (.int .u64 (st : Int))) (hst : st < 18446744073709551616) :
    CallsR Try.prog 110 #[.pointer (some ⟨s.sb, 0, none⟩)] w fun v w' => ∃ (g c : Nat) (p : List Int) (st' : Nat) (s' : SS), v = .slice (ba g) n c ∧ w.heap.size ≤ g ∧ Own w' 0 129 1 (ba g) n c (u16L p) ∧ Gen n gens p ∧ st' < 18446744073709551616 ∧
      Blk w' cb Tc (cs.set 3 (.int .u64 (st' : Int))) ∧ SrcAt w' n cb s' gens ∧ g ∉ s'.im ∧ Fr (fun q => q = cb ∨ q = s.sb ∨ q = s.pa) w w' ∧ s'.sb = s.sb ∧ s'.pa = s.pa ∧ s'.ps.length = s.ps.length ∧ (∀ q, q ∈ s'.im → q ∈ s.im ∨ w.heap.size ≤ q) := by
  refine callsR_of (args := [_]) Try.func110 rfl rfl ?_
  obtain ⟨sb, pa, pc, sds, ⟨da, dl, dc⟩, im, ps, pr⟩ := s
  obtain ⟨str, pool, pls, pd, pdi, mem, pm, gn, n1, ⟨ne1, ne2, ne3⟩, ⟨dis1, dis2, dis3⟩, imlt, len⟩ := hS
  simp only at str pool pls pd pdi mem pm ne1 ne2 ne3 dis1 dis2 dis3 imlt len
  have grp := gen_grp n1 gn
  have hol : 3 < cs.length := (List.getElem?_eq_some_iff.1 ho).1
  have hsl := pls.len
  repeat' (first | (refine k_loadC rfl str rfl ?_) | (refine k_pure rfl ?_) | (refine then_normal ?_) | (refine cw_seq ?_) | (refine cw_region rfl ?_) | (refine rr_nil ?_) | (refine k_len rfl ?_) | (refine g_run rfl rfl ?_) | (refine g_skip rfl rfl ?_) | (refine g_dec_f rfl rfl (fun hc => ?_) (fun hc => ?_)) | (refine g_dec_t rfl rfl (fun hc => ?_) (fun hc => ?_)) | (refine g_ndec_f rfl rfl (fun hc => ?_) (fun hc => ?_)) | (refine g_ndec_t rfl rfl (fun hc => ?_) (fun hc => ?_)) | (refine g_split rfl rfl (fun hc => ?_) (fun hc => ?_)) | (refine k_addI rfl rfl (by omega) (by omega) ?_) | (refine k_subI rfl rfl (by omega) (by omega) ?_) | (refine k_fieldAddr rfl ?_) | (refine k_eqlB rfl rfl ?_) | (refine k_neqB rfl rfl ?_) | (refine cw_cond_true rfl ?_) | (refine cw_cond_false rfl ?_) | (refine cw_cond_dec rfl (fun hc => ?_) (fun hc => ?_)) | (refine cw_cond_ndec rfl (fun hc => ?_) (fun hc => ?_)) | (refine cw_cond rfl (fun hc => ?_) (fun hc => ?_)) | (refine cw_block ?_) | (refine cw_exit ?_) | (refine then_exit ?_) | (refine in_exit ?_) | (refine in_exit_ne rfl ?_) | (refine in_normal ?_) | (refine cw_ret ?_) | (refine then_ret ?_) | (refine in_ret ?_) | (refine cw_skip ?_))
  refine k_call (choose_spec str hc ho ne2 hst (n := ps.length) (by omega)) rfl ?_
  rintro v w1 ⟨i, st1, rfl, hi, hst1, hc1, hb1⟩
  refine ⟨fun _ _ => trivial, ?_⟩
  have str1 := str.chg hc1 ne2
  have ho1 : (cs.set 3 (.int .u64 (st1 : Int)))[3]? = some (.int .u64 (st1 : Int)) := by rw [List.getElem?_set_self hol]
  repeat' (first | (refine k_pure rfl ?_) | (refine then_normal ?_) | (refine cw_seq ?_) | (refine cw_region rfl ?_) | (refine rr_nil ?_) | (refine k_len rfl ?_) | (refine g_run rfl rfl ?_) | (refine g_skip rfl rfl ?_) | (refine g_dec_f rfl rfl (fun hc => ?_) (fun hc => ?_)) | (refine g_dec_t rfl rfl (fun hc => ?_) (fun hc => ?_)) | (refine g_ndec_f rfl rfl (fun hc => ?_) (fun hc => ?_)) | (refine g_ndec_t rfl rfl (fun hc => ?_) (fun hc => ?_)) | (refine g_split rfl rfl (fun hc => ?_) (fun hc => ?_)) | (refine k_addI rfl rfl (by omega) (by omega) ?_) | (refine k_subI rfl rfl (by omega) (by omega) ?_) | (refine k_fieldAddr rfl ?_) | (refine k_eqlB rfl rfl ?_) | (refine k_neqB rfl rfl ?_) | (refine cw_cond_true rfl ?_) | (refine cw_cond_false rfl ?_) | (refine cw_cond_dec rfl (fun hc => ?_) (fun hc => ?_)) | (refine cw_cond_ndec rfl (fun hc => ?_) (fun hc => ?_)) | (refine cw_cond rfl (fun hc => ?_) (fun hc => ?_)) | (refine cw_block ?_) | (refine cw_exit ?_) | (refine then_exit ?_) | (refine in_exit ?_) | (refine in_exit_ne rfl ?_) | (refine in_normal ?_) | (refine cw_ret ?_) | (refine then_ret ?_) | (refine in_ret ?_) | (refine cw_skip ?_))
  refine cw_draw (late := []) (plan := [(0, none), (1, none), (2, none), (3, none), (4, none), (5, none), (6, none), (7, none), (8, none), (11, none), (12, none), (13, none), (14, none), (15, none), (9, some true), (10, none), (16, none), (17, none)]) (fun w' => Blk w' sb 174 (srcL (.slice (ba pa) ps.length pc) (.slice da n dc) cb 3)) mixed (by kernel_rfl) str1.drew ?_
  repeat' (first | (refine k_loadC rfl (fun _ h => h) rfl ?_) | (refine k_pure rfl ?_) | (refine then_normal ?_) | (refine cw_seq ?_) | (refine cw_region rfl ?_) | (refine rr_nil ?_) | (refine k_len rfl ?_) | (refine g_run rfl rfl ?_) | (refine g_skip rfl rfl ?_) | (refine g_dec_f rfl rfl (fun hc => ?_) (fun hc => ?_)) | (refine g_dec_t rfl rfl (fun hc => ?_) (fun hc => ?_)) | (refine g_ndec_f rfl rfl (fun hc => ?_) (fun hc => ?_)) | (refine g_ndec_t rfl rfl (fun hc => ?_) (fun hc => ?_)) | (refine g_split rfl rfl (fun hc => ?_) (fun hc => ?_)) | (refine k_addI rfl rfl (by omega) (by omega) ?_) | (refine k_subI rfl rfl (by omega) (by omega) ?_) | (refine k_fieldAddr rfl ?_) | (refine k_eqlB rfl rfl ?_) | (refine k_neqB rfl rfl ?_) | (refine cw_cond_true rfl ?_) | (refine cw_cond_false rfl ?_) | (refine cw_cond_dec rfl (fun hc => ?_) (fun hc => ?_)) | (refine cw_cond_ndec rfl (fun hc => ?_) (fun hc => ?_)) | (refine cw_cond rfl (fun hc => ?_) (fun hc => ?_)) | (refine cw_block ?_) | (refine cw_exit ?_) | (refine then_exit ?_) | (refine in_exit ?_) | (refine in_exit_ne rfl ?_) | (refine in_normal ?_) | (refine cw_ret ?_) | (refine then_ret ?_) | (refine in_ret ?_) | (refine cw_skip ?_))
  have hcm : Blk w1 cb Tc (cs.set 3 (.int .u64 (st1 : Int))) := hb1
  refine k_call (choose_spec (n := ps.length - 1) str1.drew hcm.drew ho1 ne2 hst1 (by omega)) (by rw [Int.ofNat_sub (by omega)]; rfl) ?_
  rintro v w2 ⟨r2, st2, rfl, hr2, hst2, hc2, hb2⟩
  refine ⟨fun _ h => h.chg hc2 ne2, ?_⟩
  rw [List.set_set] at hb2
  have str2 := str1.drew.chg hc2 ne2
  have ho2 : (cs.set 3 (.int .u64 (st2 : Int)))[3]? = some (.int .u64 (st2 : Int)) := by rw [List.getElem?_set_self hol]
  obtain ⟨j, hj⟩ : ∃ j, j = (i + 1 + r2) % ps.length := ⟨_, rfl⟩
  have hjl : j < ps.length := by rw [hj]; exact Nat.mod_lt _ (by omega)
  have hje : ((i : Int) + 1 + (r2 : Int)) % (ps.length : Int) = (j : Int) := by rw [hj, Int.natCast_emod]; rfl
  repeat' (first | (refine k_loadC rfl (fun _ h => h) rfl ?_) | (refine k_rem rfl rfl (by omega) (by omega) ?_) | (refine k_pure rfl ?_) | (refine then_normal ?_) | (refine cw_seq ?_) | (refine cw_region rfl ?_) | (refine rr_nil ?_) | (refine k_len rfl ?_) | (refine g_run rfl rfl ?_) | (refine g_skip rfl rfl ?_) | (refine g_dec_f rfl rfl (fun hc => ?_) (fun hc => ?_)) | (refine g_dec_t rfl rfl (fun hc => ?_) (fun hc => ?_)) | (refine g_ndec_f rfl rfl (fun hc => ?_) (fun hc => ?_)) | (refine g_ndec_t rfl rfl (fun hc => ?_) (fun hc => ?_)) | (refine g_split rfl rfl (fun hc => ?_) (fun hc => ?_)) | (refine k_addI rfl rfl (by omega) (by omega) ?_) | (refine k_subI rfl rfl (by omega) (by omega) ?_) | (refine k_fieldAddr rfl ?_) | (refine k_eqlB rfl rfl ?_) | (refine k_neqB rfl rfl ?_) | (refine cw_cond_true rfl ?_) | (refine cw_cond_false rfl ?_) | (refine cw_cond_dec rfl (fun hc => ?_) (fun hc => ?_)) | (refine cw_cond_ndec rfl (fun hc => ?_) (fun hc => ?_)) | (refine cw_cond rfl (fun hc => ?_) (fun hc => ?_)) | (refine cw_block ?_) | (refine cw_exit ?_) | (refine then_exit ?_) | (refine in_exit ?_) | (refine in_exit_ne rfl ?_) | (refine in_normal ?_) | (refine cw_ret ?_) | (refine then_ret ?_) | (refine in_ret ?_) | (refine cw_skip ?_))
  rw [hje]
  repeat' (first | (refine k_pure rfl ?_) | (refine then_normal ?_) | (refine cw_seq ?_) | (refine cw_region rfl ?_) | (refine rr_nil ?_) | (refine k_len rfl ?_) | (refine g_run rfl rfl ?_) | (refine g_skip rfl rfl ?_) | (refine g_dec_f rfl rfl (fun hc => ?_) (fun hc => ?_)) | (refine g_dec_t rfl rfl (fun hc => ?_) (fun hc => ?_)) | (refine g_ndec_f rfl rfl (fun hc => ?_) (fun hc => ?_)) | (refine g_ndec_t rfl rfl (fun hc => ?_) (fun hc => ?_)) | (refine g_split rfl rfl (fun hc => ?_) (fun hc => ?_)) | (refine k_addI rfl rfl (by omega) (by omega) ?_) | (refine k_subI rfl rfl (by omega) (by omega) ?_) | (refine k_fieldAddr rfl ?_) | (refine k_eqlB rfl rfl ?_) | (refine k_neqB rfl rfl ?_) | (refine cw_cond_true rfl ?_) | (refine cw_cond_false rfl ?_) | (refine cw_cond_dec rfl (fun hc => ?_) (fun hc => ?_)) | (refine cw_cond_ndec rfl (fun hc => ?_) (fun hc => ?_)) | (refine cw_cond rfl (fun hc => ?_) (fun hc => ?_)) | (refine cw_block ?_) | (refine cw_exit ?_) | (refine then_exit ?_) | (refine in_exit ?_) | (refine in_exit_ne rfl ?_) | (refine in_normal ?_) | (refine cw_ret ?_) | (refine then_ret ?_) | (refine in_ret ?_) | (refine cw_skip ?_))
  refine k_call (choose_spec (n := 2) str2 hb2 ho2 ne2 hst2 (by omega)) rfl ?_
  rintro v w3 ⟨r3, st3, rfl, hr3, hst3, hc3, hb3⟩
  refine ⟨fun _ _ => trivial, ?_⟩
  rw [List.set_set] at hb3
  have str3 := str2.chg hc3 ne2
  have pool3 := ((pool.chg hc1 (by rintro _ ⟨⟩; exact ne3)).drew.chg hc2 (by rintro _ ⟨⟩; exact ne3)).chg hc3 (by rintro _ ⟨⟩; exact ne3)
  have F13 : Fr (One cb) w w3 := (((f1C hc1).trans ((Chg.refl cb w1).drew.fr rfl)).trans (f1C hc2)).trans (f1C hc3)
  have hx : ∀ q, q ∈ im → ¬ One cb q := fun q hq e => dis3 (by have : q = cb := e; rw [← this]; exact hq)
  have pls3 := pls.fr F13 hx
  have pd3 := pd.fr F13 fun ad e => hx _ (pdi ad e)
  obtain ⟨⟨ai, li, ci⟩, hdi⟩ : ∃ s, sds.getD i sd0 = s := ⟨_, rfl⟩
  obtain ⟨⟨aj, lj, cj⟩, hdj⟩ : ∃ s, sds.getD j sd0 = s := ⟨_, rfl⟩
  have si := pls3.sl i hi
  have sj := pls3.sl j hjl
  have ni := pls3.n i hi
  have nj := pls3.n j hjl
  rw [hdi] at si ni
  rw [hdj] at sj nj
  simp only at si sj ni nj
  replace ni := ni.symm
  replace nj := nj.symm
  subst ni
  subst nj
  have pi := grp.perm _ (mem i hi)
  have pj := grp.perm _ (mem j hjl)
  have hrg : ∀ x y : List Int, PermN n x → PermN n y → ∀ k, k < x.length → 0 ≤ x.getD k 0 ∧ x.getD k 0 < y.length := fun x y hx hy k hk => by have := hx.1.lt hk; rw [hx.2] at this; rw [hy.2]; exact this
  repeat' (first | (refine k_pure rfl ?_) | (refine then_normal ?_) | (refine cw_seq ?_) | (refine cw_region rfl ?_) | (refine rr_nil ?_) | (refine k_len rfl ?_) | (refine g_run rfl rfl ?_) | (refine g_skip rfl rfl ?_) | (refine g_dec_f rfl rfl (fun hc => ?_) (fun hc => ?_)) | (refine g_dec_t rfl rfl (fun hc => ?_) (fun hc => ?_)) | (refine g_ndec_f rfl rfl (fun hc => ?_) (fun hc => ?_)) | (refine g_ndec_t rfl rfl (fun hc => ?_) (fun hc => ?_)) | (refine g_split rfl rfl (fun hc => ?_) (fun hc => ?_)) | (refine k_addI rfl rfl (by omega) (by omega) ?_) | (refine k_subI rfl rfl (by omega) (by omega) ?_) | (refine k_fieldAddr rfl ?_) | (refine k_eqlB rfl rfl ?_) | (refine k_neqB rfl rfl ?_) | (refine cw_cond_true rfl ?_) | (refine cw_cond_false rfl ?_) | (refine cw_cond_dec rfl (fun hc => ?_) (fun hc => ?_)) | (refine cw_cond_ndec rfl (fun hc => ?_) (fun hc => ?_)) | (refine cw_cond rfl (fun hc => ?_) (fun hc => ?_)) | (refine cw_block ?_) | (refine cw_exit ?_) | (refine then_exit ?_) | (refine in_exit ?_) | (refine in_exit_ne rfl ?_) | (refine in_normal ?_) | (refine cw_ret ?_) | (refine then_ret ?_) | (refine in_ret ?_) | (refine cw_skip ?_))
  refine cw_draw (late := [21]) (plan := [(0, none), (1, none), (2, none), (3, none), (4, none), (5, none), (6, none), (7, none), (8, none), (9, none), (10, none), (11, none), (12, none), (13, none), (14, none), (15, none), (16, none), (17, none), (18, none), (19, some true), (20, none), (21, some false)]) (fun w' => Blk w' sb 174 (srcL (.slice (ba pa) ps.length pc) (.slice da n dc) cb 3) ∧ Sl w' (ba pa) (sds.map SD.val)) mixed (by kernel_rfl) ⟨str3.drew, pool3.sl.drew⟩ ?_
  repeat' (first | (refine k_loadC rfl (fun _ h => h.1) rfl ?_) | (refine k_indexN (j := i) rfl rfl ⟨_, _, rfl⟩ (by omega) ?_) | (refine k_indexN (j := j) rfl rfl ⟨_, _, rfl⟩ (by omega) ?_) | (refine k_loadSd (j := i) rfl (fun _ h => h.2) (by omega) hdi ?_) | (refine k_loadSd (j := j) rfl (fun _ h => h.2) (by omega) hdj ?_) | (refine k_pure rfl ?_) | (refine then_normal ?_) | (refine cw_seq ?_) | (refine cw_region rfl ?_) | (refine rr_nil ?_) | (refine k_len rfl ?_) | (refine g_run rfl rfl ?_) | (refine g_skip rfl rfl ?_) | (refine g_dec_f rfl rfl (fun hc => ?_) (fun hc => ?_)) | (refine g_dec_t rfl rfl (fun hc => ?_) (fun hc => ?_)) | (refine g_ndec_f rfl rfl (fun hc => ?_) (fun hc => ?_)) | (refine g_ndec_t rfl rfl (fun hc => ?_) (fun hc => ?_)) | (refine g_split rfl rfl (fun hc => ?_) (fun hc => ?_)) | (refine k_addI rfl rfl (by omega) (by omega) ?_) | (refine k_subI rfl rfl (by omega) (by omega) ?_) | (refine k_fieldAddr rfl ?_) | (refine k_eqlB rfl rfl ?_) | (refine k_neqB rfl rfl ?_) | (refine cw_cond_true rfl ?_) | (refine cw_cond_false rfl ?_) | (refine cw_cond_dec rfl (fun hc => ?_) (fun hc => ?_)) | (refine cw_cond_ndec rfl (fun hc => ?_) (fun hc => ?_)) | (refine cw_cond rfl (fun hc => ?_) (fun hc => ?_)) | (refine cw_block ?_) | (refine cw_exit ?_) | (refine then_exit ?_) | (refine in_exit ?_) | (refine in_exit_ne rfl ?_) | (refine in_normal ?_) | (refine cw_ret ?_) | (refine then_ret ?_) | (refine in_ret ?_) | (refine cw_skip ?_))
  refine k_call (times_spec (xs := ps.getD i []) (ys := ps.getD j []) si.drew sj.drew _ _ (hrg _ _ pi pj) (by rw [pi.2]; omega)) (by rw [pi.2, pj.2]; rfl) ?_
  rintro v w4 ⟨g4, rfl, hg4, hb4, hE4⟩
  refine ⟨fun _ h => ⟨h.1.ext hE4, h.2.ext hE4⟩, ?_⟩
  rw [mulP_length, pi.2]
  repeat' (first | (refine k_indexN (j := i) rfl rfl ⟨_, _, rfl⟩ (by omega) ?_) | (refine k_storeOwn (v := SD.val ⟨ba g4, n, n⟩) rfl rfl rfl (pool3.drew.ext hE4) (by simp; omega) (fun gx w5 hgx _ hc5 ho5 => ⟨fun h => (nomatch h), ?_⟩)) | (refine k_pure rfl ?_) | (refine then_normal ?_) | (refine cw_seq ?_) | (refine cw_region rfl ?_) | (refine rr_nil ?_) | (refine k_len rfl ?_) | (refine g_run rfl rfl ?_) | (refine g_skip rfl rfl ?_) | (refine g_dec_f rfl rfl (fun hc => ?_) (fun hc => ?_)) | (refine g_dec_t rfl rfl (fun hc => ?_) (fun hc => ?_)) | (refine g_ndec_f rfl rfl (fun hc => ?_) (fun hc => ?_)) | (refine g_ndec_t rfl rfl (fun hc => ?_) (fun hc => ?_)) | (refine g_split rfl rfl (fun hc => ?_) (fun hc => ?_)) | (refine k_addI rfl rfl (by omega) (by omega) ?_) | (refine k_subI rfl rfl (by omega) (by omega) ?_) | (refine k_fieldAddr rfl ?_) | (refine k_eqlB rfl rfl ?_) | (refine k_neqB rfl rfl ?_) | (refine cw_cond_true rfl ?_) | (refine cw_cond_false rfl ?_) | (refine cw_cond_dec rfl (fun hc => ?_) (fun hc => ?_)) | (refine cw_cond_ndec rfl (fun hc => ?_) (fun hc => ?_)) | (refine cw_cond rfl (fun hc => ?_) (fun hc => ?_)) | (refine cw_block ?_) | (refine cw_exit ?_) | (refine then_exit ?_) | (refine in_exit ?_) | (refine in_exit_ne rfl ?_) | (refine in_normal ?_) | (refine cw_ret ?_) | (refine then_ret ?_) | (refine in_ret ?_) | (refine cw_skip ?_))
  obtain ⟨q, hqe, hqg⟩ : ∃ q, q = mulP (ps.getD i []) (ps.getD j []) ∧ Gen n gens q := ⟨_, rfl, grp.mul _ _ (mem i (by omega)) (mem j (by omega))⟩
  rw [← hqe] at hb4
  rotate_left
  refine cw_draw (late := [21]) (plan := [(0, none), (1, none), (2, none), (3, none), (4, none), (5, none), (6, none), (7, none), (8, none), (9, none), (10, none), (11, none), (12, none), (13, none), (14, none), (15, none), (16, none), (17, none), (18, none), (19, some true), (20, none), (21, some false)]) (fun w' => Blk w' sb 174 (srcL (.slice (ba pa) ps.length pc) (.slice da n dc) cb 3) ∧ Sl w' (ba pa) (sds.map SD.val)) mixed (by kernel_rfl) ⟨str3.drew, pool3.sl.drew⟩ ?_
  repeat' (first | (refine k_loadC rfl (fun _ h => h.1) rfl ?_) | (refine k_indexN (j := i) rfl rfl ⟨_, _, rfl⟩ (by omega) ?_) | (refine k_indexN (j := j) rfl rfl ⟨_, _, rfl⟩ (by omega) ?_) | (refine k_loadSd (j := i) rfl (fun _ h => h.2) (by omega) hdi ?_) | (refine k_loadSd (j := j) rfl (fun _ h => h.2) (by omega) hdj ?_) | (refine k_pure rfl ?_) | (refine then_normal ?_) | (refine cw_seq ?_) | (refine cw_region rfl ?_) | (refine rr_nil ?_) | (refine k_len rfl ?_) | (refine g_run rfl rfl ?_) | (refine g_skip rfl rfl ?_) | (refine g_dec_f rfl rfl (fun hc => ?_) (fun hc => ?_)) | (refine g_dec_t rfl rfl (fun hc => ?_) (fun hc => ?_)) | (refine g_ndec_f rfl rfl (fun hc => ?_) (fun hc => ?_)) | (refine g_ndec_t rfl rfl (fun hc => ?_) (fun hc => ?_)) | (refine g_split rfl rfl (fun hc => ?_) (fun hc => ?_)) | (refine k_addI rfl rfl (by omega) (by omega) ?_) | (refine k_subI rfl rfl (by omega) (by omega) ?_) | (refine k_fieldAddr rfl ?_) | (refine k_eqlB rfl rfl ?_) | (refine k_neqB rfl rfl ?_) | (refine cw_cond_true rfl ?_) | (refine cw_cond_false rfl ?_) | (refine cw_cond_dec rfl (fun hc => ?_) (fun hc => ?_)) | (refine cw_cond_ndec rfl (fun hc => ?_) (fun hc => ?_)) | (refine cw_cond rfl (fun hc => ?_) (fun hc => ?_)) | (refine cw_block ?_) | (refine cw_exit ?_) | (refine then_exit ?_) | (refine in_exit ?_) | (refine in_exit_ne rfl ?_) | (refine in_normal ?_) | (refine cw_ret ?_) | (refine then_ret ?_) | (refine in_ret ?_) | (refine cw_skip ?_))
  refine k_call (times_spec (xs := ps.getD j []) (ys := ps.getD i []) sj.drew si.drew _ _ (hrg _ _ pj pi) (by rw [pj.2]; omega)) (by rw [pj.2, pi.2]; rfl) ?_
  rintro v w4 ⟨g4, rfl, hg4, hb4, hE4⟩
  refine ⟨fun _ h => ⟨h.1.ext hE4, h.2.ext hE4⟩, ?_⟩
  rw [mulP_length, pj.2]
  repeat' (first | (refine k_indexN (j := i) rfl rfl ⟨_, _, rfl⟩ (by omega) ?_) | (refine k_storeOwn (v := SD.val ⟨ba g4, n, n⟩) rfl rfl rfl (pool3.drew.ext hE4) (by simp; omega) (fun gx w5 hgx _ hc5 ho5 => ⟨fun h => (nomatch h), ?_⟩)) | (refine k_pure rfl ?_) | (refine then_normal ?_) | (refine cw_seq ?_) | (refine cw_region rfl ?_) | (refine rr_nil ?_) | (refine k_len rfl ?_) | (refine g_run rfl rfl ?_) | (refine g_skip rfl rfl ?_) | (refine g_dec_f rfl rfl (fun hc => ?_) (fun hc => ?_)) | (refine g_dec_t rfl rfl (fun hc => ?_) (fun hc => ?_)) | (refine g_ndec_f rfl rfl (fun hc => ?_) (fun hc => ?_)) | (refine g_ndec_t rfl rfl (fun hc => ?_) (fun hc => ?_)) | (refine g_split rfl rfl (fun hc => ?_) (fun hc => ?_)) | (refine k_addI rfl rfl (by omega) (by omega) ?_) | (refine k_subI rfl rfl (by omega) (by omega) ?_) | (refine k_fieldAddr rfl ?_) | (refine k_eqlB rfl rfl ?_) | (refine k_neqB rfl rfl ?_) | (refine cw_cond_true rfl ?_) | (refine cw_cond_false rfl ?_) | (refine cw_cond_dec rfl (fun hc => ?_) (fun hc => ?_)) | (refine cw_cond_ndec rfl (fun hc => ?_) (fun hc => ?_)) | (refine cw_cond rfl (fun hc => ?_) (fun hc => ?_)) | (refine cw_block ?_) | (refine cw_exit ?_) | (refine then_exit ?_) | (refine in_exit ?_) | (refine in_exit_ne rfl ?_) | (refine in_normal ?_) | (refine cw_ret ?_) | (refine then_ret ?_) | (refine in_ret ?_) | (refine cw_skip ?_))
  obtain ⟨q, hqe, hqg⟩ : ∃ q, q = mulP (ps.getD j []) (ps.getD i []) ∧ Gen n gens q := ⟨_, rfl, grp.mul _ _ (mem j (by omega)) (mem i (by omega))⟩
  rw [← hqe] at hb4
  · obtain rfl : pa = gx := by injection hgx with e; injection e
    rw [← List.map_set] at ho5
    have z3 := F13.size
    have pal : pa < w3.heap.size := (pool3.lo _ rfl).2
    have sbl : sb < w3.heap.size := str3.lt
    have cbl : cb < w3.heap.size := hb3.lt
    have hE34 : Ex w3 w4 := (Ex.refl w3).drew.trans hE4
    have z4 := hE34.size
    replace hg4 : w3.heap.size ≤ g4 := hg4
    have g4l := hb4.lt
    have z5 : w4.heap.size = w5.heap.size := hc5.size.symm
    have F35 : Fr (One pa) w3 w5 := hE34.fr.trans (f1C hc5)
    have hx2 : ∀ q, q ∈ im → ¬ One pa q := fun q hq e => dis2 (by have : q = pa := e; rw [← this]; exact hq)
    have str5 := Blk.f1 str3 F35 ne1
    have cb5 := Blk.f1 hb3 F35 (Ne.symm ne3)
    have b5 := hb4.chg hc5 (by omega)
    have pq := grp.perm _ hqg
    have ppr := grp.perm _ pm
    have pls5 := ((pls3.fr F35 hx2).mono (im' := g4 :: im) fun x hx => List.mem_cons_of_mem _ hx).setP hi (s := ⟨ba g4, n, n⟩) (p := q) b5.sl rfl (by rintro _ ⟨⟩; simp)
    have pd5 := pd3.fr F35 fun ad e => hx2 _ (pdi ad e)
    have hdi5 : (sds.set i ⟨ba g4, n, n⟩).getD i sd0 = ⟨ba g4, n, n⟩ := by rw [getD_set' (by omega), if_pos rfl]
    repeat' (first | (refine k_pure rfl ?_) | (refine then_normal ?_) | (refine cw_seq ?_) | (refine cw_region rfl ?_) | (refine rr_nil ?_) | (refine k_len rfl ?_) | (refine g_run rfl rfl ?_) | (refine g_skip rfl rfl ?_) | (refine g_dec_f rfl rfl (fun hc => ?_) (fun hc => ?_)) | (refine g_dec_t rfl rfl (fun hc => ?_) (fun hc => ?_)) | (refine g_ndec_f rfl rfl (fun hc => ?_) (fun hc => ?_)) | (refine g_ndec_t rfl rfl (fun hc => ?_) (fun hc => ?_)) | (refine g_split rfl rfl (fun hc => ?_) (fun hc => ?_)) | (refine k_addI rfl rfl (by omega) (by omega) ?_) | (refine k_subI rfl rfl (by omega) (by omega) ?_) | (refine k_fieldAddr rfl ?_) | (refine k_eqlB rfl rfl ?_) | (refine k_neqB rfl rfl ?_) | (refine cw_cond_true rfl ?_) | (refine cw_cond_false rfl ?_) | (refine cw_cond_dec rfl (fun hc => ?_) (fun hc => ?_)) | (refine cw_cond_ndec rfl (fun hc => ?_) (fun hc => ?_)) | (refine cw_cond rfl (fun hc => ?_) (fun hc => ?_)) | (refine cw_block ?_) | (refine cw_exit ?_) | (refine then_exit ?_) | (refine in_exit ?_) | (refine in_exit_ne rfl ?_) | (refine in_normal ?_) | (refine cw_ret ?_) | (refine then_ret ?_) | (refine in_ret ?_) | (refine cw_skip ?_))
    refine cw_draw (late := [15]) (plan := [(0, none), (1, none), (2, none), (3, none), (4, none), (5, none), (6, none), (7, none), (8, none), (9, none), (10, none), (11, none), (12, some true), (13, none), (14, none), (15, some false)]) (fun w' => Blk w' sb 174 (srcL (.slice (ba pa) ps.length pc) (.slice da n dc) cb 3) ∧ Sl w' (ba pa) ((sds.set i ⟨ba g4, n, n⟩).map SD.val)) mixed (by kernel_rfl) ⟨str5.drew, ho5.sl.drew⟩ ?_
    repeat' (first | (refine k_loadC rfl (fun _ h => h.1) rfl ?_) | (refine k_indexN (j := i) rfl rfl ⟨_, _, rfl⟩ (by omega) ?_) | (refine k_loadSd (j := i) rfl (fun _ h => h.2) (by rw [List.length_set]; omega) hdi5 ?_) | (refine k_pure rfl ?_) | (refine then_normal ?_) | (refine cw_seq ?_) | (refine cw_region rfl ?_) | (refine rr_nil ?_) | (refine k_len rfl ?_) | (refine g_run rfl rfl ?_) | (refine g_skip rfl rfl ?_) | (refine g_dec_f rfl rfl (fun hc => ?_) (fun hc => ?_)) | (refine g_dec_t rfl rfl (fun hc => ?_) (fun hc => ?_)) | (refine g_ndec_f rfl rfl (fun hc => ?_) (fun hc => ?_)) | (refine g_ndec_t rfl rfl (fun hc => ?_) (fun hc => ?_)) | (refine g_split rfl rfl (fun hc => ?_) (fun hc => ?_)) | (refine k_addI rfl rfl (by omega) (by omega) ?_) | (refine k_subI rfl rfl (by omega) (by omega) ?_) | (refine k_fieldAddr rfl ?_) | (refine k_eqlB rfl rfl ?_) | (refine k_neqB rfl rfl ?_) | (refine cw_cond_true rfl ?_) | (refine cw_cond_false rfl ?_) | (refine cw_cond_dec rfl (fun hc => ?_) (fun hc => ?_)) | (refine cw_cond_ndec rfl (fun hc => ?_) (fun hc => ?_)) | (refine cw_cond rfl (fun hc => ?_) (fun hc => ?_)) | (refine cw_block ?_) | (refine cw_exit ?_) | (refine then_exit ?_) | (refine in_exit ?_) | (refine in_exit_ne rfl ?_) | (refine in_normal ?_) | (refine cw_ret ?_) | (refine then_ret ?_) | (refine in_ret ?_) | (refine cw_skip ?_))
    refine k_call (times_spec (xs := pr) (ys := q) pd5.drew b5.sl.drew _ _ (hrg _ _ ppr pq) (by rw [ppr.2]; omega)) (by rw [ppr.2, pq.2]; rfl) ?_
    rintro v w6 ⟨g6, rfl, hg6, hb6, hE6⟩
    refine ⟨fun _ h => ⟨h.1.ext hE6, h.2.ext hE6⟩, ?_⟩
    rw [mulP_length, ppr.2]
    have hE56 : Ex w5 w6 := (Ex.refl w5).drew.trans hE6
    repeat' (first | (refine k_storeC rfl rfl rfl (str5.ext hE56) rfl (fun w7 hc7 hs7 => ⟨fun h => (nomatch h), ?_⟩)) | (refine k_pure rfl ?_) | (refine then_normal ?_) | (refine cw_seq ?_) | (refine cw_region rfl ?_) | (refine rr_nil ?_) | (refine k_len rfl ?_) | (refine g_run rfl rfl ?_) | (refine g_skip rfl rfl ?_) | (refine g_dec_f rfl rfl (fun hc => ?_) (fun hc => ?_)) | (refine g_dec_t rfl rfl (fun hc => ?_) (fun hc => ?_)) | (refine g_ndec_f rfl rfl (fun hc => ?_) (fun hc => ?_)) | (refine g_ndec_t rfl rfl (fun hc => ?_) (fun hc => ?_)) | (refine g_split rfl rfl (fun hc => ?_) (fun hc => ?_)) | (refine k_addI rfl rfl (by omega) (by omega) ?_) | (refine k_subI rfl rfl (by omega) (by omega) ?_) | (refine k_fieldAddr rfl ?_) | (refine k_eqlB rfl rfl ?_) | (refine k_neqB rfl rfl ?_) | (refine cw_cond_true rfl ?_) | (refine cw_cond_false rfl ?_) | (refine cw_cond_dec rfl (fun hc => ?_) (fun hc => ?_)) | (refine cw_cond_ndec rfl (fun hc => ?_) (fun hc => ?_)) | (refine cw_cond rfl (fun hc => ?_) (fun hc => ?_)) | (refine cw_block ?_) | (refine cw_exit ?_) | (refine then_exit ?_) | (refine in_exit ?_) | (refine in_exit_ne rfl ?_) | (refine in_normal ?_) | (refine cw_ret ?_) | (refine then_ret ?_) | (refine in_ret ?_) | (refine cw_skip ?_))
    replace hg6 : w5.heap.size ≤ g6 := hg6
    have g6l := hb6.lt
    replace hc7 : Chg sb w6 w7 := hc7
    have b7 := hb6.chg hc7 (by omega)
    have hr7 := grp.mul _ _ pm hqg
    have pr7 := grp.perm _ hr7
    obtain ⟨r, hr⟩ : ∃ r, r = mulP pr q := ⟨_, rfl⟩
    rw [← hr] at b7 hr7 pr7
    repeat' (first | (refine k_loadC rfl hs7 rfl ?_) | (refine k_pure rfl ?_) | (refine then_normal ?_) | (refine cw_seq ?_) | (refine cw_region rfl ?_) | (refine rr_nil ?_) | (refine k_len rfl ?_) | (refine g_run rfl rfl ?_) | (refine g_skip rfl rfl ?_) | (refine g_dec_f rfl rfl (fun hc => ?_) (fun hc => ?_)) | (refine g_dec_t rfl rfl (fun hc => ?_) (fun hc => ?_)) | (refine g_ndec_f rfl rfl (fun hc => ?_) (fun hc => ?_)) | (refine g_ndec_t rfl rfl (fun hc => ?_) (fun hc => ?_)) | (refine g_split rfl rfl (fun hc => ?_) (fun hc => ?_)) | (refine k_addI rfl rfl (by omega) (by omega) ?_) | (refine k_subI rfl rfl (by omega) (by omega) ?_) | (refine k_fieldAddr rfl ?_) | (refine k_eqlB rfl rfl ?_) | (refine k_neqB rfl rfl ?_) | (refine cw_cond_true rfl ?_) | (refine cw_cond_false rfl ?_) | (refine cw_cond_dec rfl (fun hc => ?_) (fun hc => ?_)) | (refine cw_cond_ndec rfl (fun hc => ?_) (fun hc => ?_)) | (refine cw_cond rfl (fun hc => ?_) (fun hc => ?_)) | (refine cw_block ?_) | (refine cw_exit ?_) | (refine then_exit ?_) | (refine in_exit ?_) | (refine in_exit_ne rfl ?_) | (refine in_normal ?_) | (refine cw_ret ?_) | (refine then_ret ?_) | (refine in_ret ?_) | (refine cw_skip ?_))
    refine k_call (clone_spec (xs := r) (cap := n) b7.sl (by rw [pr7.2]; omega) (by rw [pr7.2]; omega)) (by rw [pr7.2]; rfl) ?_
    rintro v w8 ⟨g8, c8, rfl, hg8, ho8, hE8⟩
    refine ⟨fun _ _ => trivial, ?_⟩
    rw [pr7.2] at ho8 ⊢
    repeat' (first | (refine k_pure rfl ?_) | (refine then_normal ?_) | (refine cw_seq ?_) | (refine cw_region rfl ?_) | (refine rr_nil ?_) | (refine k_len rfl ?_) | (refine g_run rfl rfl ?_) | (refine g_skip rfl rfl ?_) | (refine g_dec_f rfl rfl (fun hc => ?_) (fun hc => ?_)) | (refine g_dec_t rfl rfl (fun hc => ?_) (fun hc => ?_)) | (refine g_ndec_f rfl rfl (fun hc => ?_) (fun hc => ?_)) | (refine g_ndec_t rfl rfl (fun hc => ?_) (fun hc => ?_)) | (refine g_split rfl rfl (fun hc => ?_) (fun hc => ?_)) | (refine k_addI rfl rfl (by omega) (by omega) ?_) | (refine k_subI rfl rfl (by omega) (by omega) ?_) | (refine k_fieldAddr rfl ?_) | (refine k_eqlB rfl rfl ?_) | (refine k_neqB rfl rfl ?_) | (refine cw_cond_true rfl ?_) | (refine cw_cond_false rfl ?_) | (refine cw_cond_dec rfl (fun hc => ?_) (fun hc => ?_)) | (refine cw_cond_ndec rfl (fun hc => ?_) (fun hc => ?_)) | (refine cw_cond rfl (fun hc => ?_) (fun hc => ?_)) | (refine cw_block ?_) | (refine cw_exit ?_) | (refine then_exit ?_) | (refine in_exit ?_) | (refine in_exit_ne rfl ?_) | (refine in_normal ?_) | (refine cw_ret ?_) | (refine then_ret ?_) | (refine in_ret ?_) | (refine cw_skip ?_))
    have z56 := hE56.size
    have z67 : w6.heap.size = w7.heap.size := hc7.size.symm
    have z78 := hE8.size
    have F58 : Fr (One sb) w5 w8 := (hE56.fr.trans (f1C hc7)).trans hE8.fr
    have hx3 : ∀ q, q ∈ im → ¬ One sb q := fun q hq e => dis1 (by have : q = sb := e; rw [← this]; exact hq)
    have hx4 : ∀ q, q ∈ g4 :: im → ¬ One sb q := fun q hq e => by
      rcases List.mem_cons.1 hq with rfl | hq
      · have : q = sb := e; omega
      · exact hx3 q hq e
    have hmemps : ∀ k, k < (ps.set i q).length → Gen n gens ((ps.set i q).getD k []) := fun k hk => by
      rw [List.length_set] at hk
      rw [getD_set' hi]; split
      · exact hqg
      · exact mem k hk
    refine ret1 rfl (rt rfl) ⟨g8, c8, r, st3, ⟨sb, pa, pc, sds.set i ⟨ba g4, n, n⟩, ⟨ba g6, n, n⟩, g6 :: g4 :: im, ps.set i q, r⟩, rfl, by omega, ho8, hr7, hst3, Blk.f1 cb5 F58 (Ne.symm ne2), ⟨?_, ?_, ?_, b7.sl.ext hE8, by rintro _ ⟨⟩; simp, hmemps, hr7, gn, n1, ⟨ne1, ne2, ne3⟩, ?_, ?_, by simp only [List.length_set]; exact len⟩, ?_, ?_, rfl, rfl, by simp only [List.length_set], fun x hx => ?_⟩
    · have := hs7.ext hE8
      simp only [List.length_set]
      exact this
    · simp only [List.length_set]
      exact Own.f1 ho5 F58 (Ne.symm ne1)
    · exact (pls5.fr F58 hx4).mono fun x hx => List.mem_cons_of_mem _ hx
    · simp only [List.mem_cons, not_or]
      exact ⟨⟨by omega, by omega, dis1⟩, ⟨by omega, by omega, dis2⟩, ⟨by omega, by omega, dis3⟩⟩
    · intro x hx
      simp only [List.mem_cons] at hx
      rcases hx with rfl | rfl | hx
      · omega
      · omega
      · have := imlt x hx; omega
    · simp only [List.mem_cons, not_or]
      exact ⟨by omega, by omega, fun hx => by have := imlt _ hx; omega⟩
    · exact ((Fr.sub1 F13 (F := fun x => x = cb ∨ x = sb ∨ x = pa) (.inl rfl)).trans (Fr.sub1 F35 (F := fun x => x = cb ∨ x = sb ∨ x = pa) (.inr (.inr rfl)))).trans (Fr.sub1 F58 (F := fun x => x = cb ∨ x = sb ∨ x = pa) (.inr (.inl rfl)))
    · simp only [List.mem_cons] at hx
      rcases hx with rfl | rfl | hx
      · exact .inr (by omega)
      · exact .inr (by omega)
      · exact .inl hx
  · obtain rfl : pa = gx := by injection hgx with e; injection e
    rw [← List.map_set] at ho5
    have z3 := F13.size
    have pal : pa < w3.heap.size := (pool3.lo _ rfl).2
    have sbl : sb < w3.heap.size := str3.lt
    have cbl : cb < w3.heap.size := hb3.lt
    have hE34 : Ex w3 w4 := (Ex.refl w3).drew.trans hE4
    have z4 := hE34.size
    replace hg4 : w3.heap.size ≤ g4 := hg4
    have g4l := hb4.lt
    have z5 : w4.heap.size = w5.heap.size := hc5.size.symm
    have F35 : Fr (One pa) w3 w5 := hE34.fr.trans (f1C hc5)
    have hx2 : ∀ q, q ∈ im → ¬ One pa q := fun q hq e => dis2 (by have : q = pa := e; rw [← this]; exact hq)
    have str5 := Blk.f1 str3 F35 ne1
    have cb5 := Blk.f1 hb3 F35 (Ne.symm ne3)
    have b5 := hb4.chg hc5 (by omega)
    have pq := grp.perm _ hqg
    have ppr := grp.perm _ pm
    have pls5 := ((pls3.fr F35 hx2).mono (im' := g4 :: im) fun x hx => List.mem_cons_of_mem _ hx).setP hi (s := ⟨ba g4, n, n⟩) (p := q) b5.sl rfl (by rintro _ ⟨⟩; simp)
    have pd5 := pd3.fr F35 fun ad e => hx2 _ (pdi ad e)
    have hdi5 : (sds.set i ⟨ba g4, n, n⟩).getD i sd0 = ⟨ba g4, n, n⟩ := by rw [getD_set' (by omega), if_pos rfl]
    repeat' (first | (refine k_pure rfl ?_) | (refine then_normal ?_) | (refine cw_seq ?_) | (refine cw_region rfl ?_) | (refine rr_nil ?_) | (refine k_len rfl ?_) | (refine g_run rfl rfl ?_) | (refine g_skip rfl rfl ?_) | (refine g_dec_f rfl rfl (fun hc => ?_) (fun hc => ?_)) | (refine g_dec_t rfl rfl (fun hc => ?_) (fun hc => ?_)) | (refine g_ndec_f rfl rfl (fun hc => ?_) (fun hc => ?_)) | (refine g_ndec_t rfl rfl (fun hc => ?_) (fun hc => ?_)) | (refine g_split rfl rfl (fun hc => ?_) (fun hc => ?_)) | (refine k_addI rfl rfl (by omega) (by omega) ?_) | (refine k_subI rfl rfl (by omega) (by omega) ?_) | (refine k_fieldAddr rfl ?_) | (refine k_eqlB rfl rfl ?_) | (refine k_neqB rfl rfl ?_) | (refine cw_cond_true rfl ?_) | (refine cw_cond_false rfl ?_) | (refine cw_cond_dec rfl (fun hc => ?_) (fun hc => ?_)) | (refine cw_cond_ndec rfl (fun hc => ?_) (fun hc => ?_)) | (refine cw_cond rfl (fun hc => ?_) (fun hc => ?_)) | (refine cw_block ?_) | (refine cw_exit ?_) | (refine then_exit ?_) | (refine in_exit ?_) | (refine in_exit_ne rfl ?_) | (refine in_normal ?_) | (refine cw_ret ?_) | (refine then_ret ?_) | (refine in_ret ?_) | (refine cw_skip ?_))
    refine cw_draw (late := [15]) (plan := [(0, none), (1, none), (2, none), (3, none), (4, none), (5, none), (6, none), (7, none), (8, none), (9, none), (10, none), (11, none), (12, some true), (13, none), (14, none), (15, some false)]) (fun w' => Blk w' sb 174 (srcL (.slice (ba pa) ps.length pc) (.slice da n dc) cb 3) ∧ Sl w' (ba pa) ((sds.set i ⟨ba g4, n, n⟩).map SD.val)) mixed (by kernel_rfl) ⟨str5.drew, ho5.sl.drew⟩ ?_
    repeat' (first | (refine k_loadC rfl (fun _ h => h.1) rfl ?_) | (refine k_indexN (j := i) rfl rfl ⟨_, _, rfl⟩ (by omega) ?_) | (refine k_loadSd (j := i) rfl (fun _ h => h.2) (by rw [List.length_set]; omega) hdi5 ?_) | (refine k_pure rfl ?_) | (refine then_normal ?_) | (refine cw_seq ?_) | (refine cw_region rfl ?_) | (refine rr_nil ?_) | (refine k_len rfl ?_) | (refine g_run rfl rfl ?_) | (refine g_skip rfl rfl ?_) | (refine g_dec_f rfl rfl (fun hc => ?_) (fun hc => ?_)) | (refine g_dec_t rfl rfl (fun hc => ?_) (fun hc => ?_)) | (refine g_ndec_f rfl rfl (fun hc => ?_) (fun hc => ?_)) | (refine g_ndec_t rfl rfl (fun hc => ?_) (fun hc => ?_)) | (refine g_split rfl rfl (fun hc => ?_) (fun hc => ?_)) | (refine k_addI rfl rfl (by omega) (by omega) ?_) | (refine k_subI rfl rfl (by omega) (by omega) ?_) | (refine k_fieldAddr rfl ?_) | (refine k_eqlB rfl rfl ?_) | (refine k_neqB rfl rfl ?_) | (refine cw_cond_true rfl ?_) | (refine cw_cond_false rfl ?_) | (refine cw_cond_dec rfl (fun hc => ?_) (fun hc => ?_)) | (refine cw_cond_ndec rfl (fun hc => ?_) (fun hc => ?_)) | (refine cw_cond rfl (fun hc => ?_) (fun hc => ?_)) | (refine cw_block ?_) | (refine cw_exit ?_) | (refine then_exit ?_) | (refine in_exit ?_) | (refine in_exit_ne rfl ?_) | (refine in_normal ?_) | (refine cw_ret ?_) | (refine then_ret ?_) | (refine in_ret ?_) | (refine cw_skip ?_))
    refine k_call (times_spec (xs := pr) (ys := q) pd5.drew b5.sl.drew _ _ (hrg _ _ ppr pq) (by rw [ppr.2]; omega)) (by rw [ppr.2, pq.2]; rfl) ?_
    rintro v w6 ⟨g6, rfl, hg6, hb6, hE6⟩
    refine ⟨fun _ h => ⟨h.1.ext hE6, h.2.ext hE6⟩, ?_⟩
    rw [mulP_length, ppr.2]
    have hE56 : Ex w5 w6 := (Ex.refl w5).drew.trans hE6
    repeat' (first | (refine k_storeC rfl rfl rfl (str5.ext hE56) rfl (fun w7 hc7 hs7 => ⟨fun h => (nomatch h), ?_⟩)) | (refine k_pure rfl ?_) | (refine then_normal ?_) | (refine cw_seq ?_) | (refine cw_region rfl ?_) | (refine rr_nil ?_) | (refine k_len rfl ?_) | (refine g_run rfl rfl ?_) | (refine g_skip rfl rfl ?_) | (refine g_dec_f rfl rfl (fun hc => ?_) (fun hc => ?_)) | (refine g_dec_t rfl rfl (fun hc => ?_) (fun hc => ?_)) | (refine g_ndec_f rfl rfl (fun hc => ?_) (fun hc => ?_)) | (refine g_ndec_t rfl rfl (fun hc => ?_) (fun hc => ?_)) | (refine g_split rfl rfl (fun hc => ?_) (fun hc => ?_)) | (refine k_addI rfl rfl (by omega) (by omega) ?_) | (refine k_subI rfl rfl (by omega) (by omega) ?_) | (refine k_fieldAddr rfl ?_) | (refine k_eqlB rfl rfl ?_) | (refine k_neqB rfl rfl ?_) | (refine cw_cond_true rfl ?_) | (refine cw_cond_false rfl ?_) | (refine cw_cond_dec rfl (fun hc => ?_) (fun hc => ?_)) | (refine cw_cond_ndec rfl (fun hc => ?_) (fun hc => ?_)) | (refine cw_cond rfl (fun hc => ?_) (fun hc => ?_)) | (refine cw_block ?_) | (refine cw_exit ?_) | (refine then_exit ?_) | (refine in_exit ?_) | (refine in_exit_ne rfl ?_) | (refine in_normal ?_) | (refine cw_ret ?_) | (refine then_ret ?_) | (refine in_ret ?_) | (refine cw_skip ?_))
    replace hg6 : w5.heap.size ≤ g6 := hg6
    have g6l := hb6.lt
    replace hc7 : Chg sb w6 w7 := hc7
    have b7 := hb6.chg hc7 (by omega)
    have hr7 := grp.mul _ _ pm hqg
    have pr7 := grp.perm _ hr7
    obtain ⟨r, hr⟩ : ∃ r, r = mulP pr q := ⟨_, rfl⟩
    rw [← hr] at b7 hr7 pr7
    repeat' (first | (refine k_loadC rfl hs7 rfl ?_) | (refine k_pure rfl ?_) | (refine then_normal ?_) | (refine cw_seq ?_) | (refine cw_region rfl ?_) | (refine rr_nil ?_) | (refine k_len rfl ?_) | (refine g_run rfl rfl ?_) | (refine g_skip rfl rfl ?_) | (refine g_dec_f rfl rfl (fun hc => ?_) (fun hc => ?_)) | (refine g_dec_t rfl rfl (fun hc => ?_) (fun hc => ?_)) | (refine g_ndec_f rfl rfl (fun hc => ?_) (fun hc => ?_)) | (refine g_ndec_t rfl rfl (fun hc => ?_) (fun hc => ?_)) | (refine g_split rfl rfl (fun hc => ?_) (fun hc => ?_)) | (refine k_addI rfl rfl (by omega) (by omega) ?_) | (refine k_subI rfl rfl (by omega) (by omega) ?_) | (refine k_fieldAddr rfl ?_) | (refine k_eqlB rfl rfl ?_) | (refine k_neqB rfl rfl ?_) | (refine cw_cond_true rfl ?_) | (refine cw_cond_false rfl ?_) | (refine cw_cond_dec rfl (fun hc => ?_) (fun hc => ?_)) | (refine cw_cond_ndec rfl (fun hc => ?_) (fun hc => ?_)) | (refine cw_cond rfl (fun hc => ?_) (fun hc => ?_)) | (refine cw_block ?_) | (refine cw_exit ?_) | (refine then_exit ?_) | (refine in_exit ?_) | (refine in_exit_ne rfl ?_) | (refine in_normal ?_) | (refine cw_ret ?_) | (refine then_ret ?_) | (refine in_ret ?_) | (refine cw_skip ?_))
    refine k_call (clone_spec (xs := r) (cap := n) b7.sl (by rw [pr7.2]; omega) (by rw [pr7.2]; omega)) (by rw [pr7.2]; rfl) ?_
    rintro v w8 ⟨g8, c8, rfl, hg8, ho8, hE8⟩
    refine ⟨fun _ _ => trivial, ?_⟩
    rw [pr7.2] at ho8 ⊢
    repeat' (first | (refine k_pure rfl ?_) | (refine then_normal ?_) | (refine cw_seq ?_) | (refine cw_region rfl ?_) | (refine rr_nil ?_) | (refine k_len rfl ?_) | (refine g_run rfl rfl ?_) | (refine g_skip rfl rfl ?_) | (refine g_dec_f rfl rfl (fun hc => ?_) (fun hc => ?_)) | (refine g_dec_t rfl rfl (fun hc => ?_) (fun hc => ?_)) | (refine g_ndec_f rfl rfl (fun hc => ?_) (fun hc => ?_)) | (refine g_ndec_t rfl rfl (fun hc => ?_) (fun hc => ?_)) | (refine g_split rfl rfl (fun hc => ?_) (fun hc => ?_)) | (refine k_addI rfl rfl (by omega) (by omega) ?_) | (refine k_subI rfl rfl (by omega) (by omega) ?_) | (refine k_fieldAddr rfl ?_) | (refine k_eqlB rfl rfl ?_) | (refine k_neqB rfl rfl ?_) | (refine cw_cond_true rfl ?_) | (refine cw_cond_false rfl ?_) | (refine cw_cond_dec rfl (fun hc => ?_) (fun hc => ?_)) | (refine cw_cond_ndec rfl (fun hc => ?_) (fun hc => ?_)) | (refine cw_cond rfl (fun hc => ?_) (fun hc => ?_)) | (refine cw_block ?_) | (refine cw_exit ?_) | (refine then_exit ?_) | (refine in_exit ?_) | (refine in_exit_ne rfl ?_) | (refine in_normal ?_) | (refine cw_ret ?_) | (refine then_ret ?_) | (refine in_ret ?_) | (refine cw_skip ?_))
    have z56 := hE56.size
    have z67 : w6.heap.size = w7.heap.size := hc7.size.symm
    have z78 := hE8.size
    have F58 : Fr (One sb) w5 w8 := (hE56.fr.trans (f1C hc7)).trans hE8.fr
    have hx3 : ∀ q, q ∈ im → ¬ One sb q := fun q hq e => dis1 (by have : q = sb := e; rw [← this]; exact hq)
    have hx4 : ∀ q, q ∈ g4 :: im → ¬ One sb q := fun q hq e => by
      rcases List.mem_cons.1 hq with rfl | hq
      · have : q = sb := e; omega
      · exact hx3 q hq e
    have hmemps : ∀ k, k < (ps.set i q).length → Gen n gens ((ps.set i q).getD k []) := fun k hk => by
      rw [List.length_set] at hk
      rw [getD_set' hi]; split
      · exact hqg
      · exact mem k hk
    refine ret1 rfl (rt rfl) ⟨g8, c8, r, st3, ⟨sb, pa, pc, sds.set i ⟨ba g4, n, n⟩, ⟨ba g6, n, n⟩, g6 :: g4 :: im, ps.set i q, r⟩, rfl, by omega, ho8, hr7, hst3, Blk.f1 cb5 F58 (Ne.symm ne2), ⟨?_, ?_, ?_, b7.sl.ext hE8, by rintro _ ⟨⟩; simp, hmemps, hr7, gn, n1, ⟨ne1, ne2, ne3⟩, ?_, ?_, by simp only [List.length_set]; exact len⟩, ?_, ?_, rfl, rfl, by simp only [List.length_set], fun x hx => ?_⟩
    · have := hs7.ext hE8
      simp only [List.length_set]
      exact this
    · simp only [List.length_set]
      exact Own.f1 ho5 F58 (Ne.symm ne1)
    · exact (pls5.fr F58 hx4).mono fun x hx => List.mem_cons_of_mem _ hx
    · simp only [List.mem_cons, not_or]
      exact ⟨⟨by omega, by omega, dis1⟩, ⟨by omega, by omega, dis2⟩, ⟨by omega, by omega, dis3⟩⟩
    · intro x hx
      simp only [List.mem_cons] at hx
      rcases hx with rfl | rfl | hx
      · omega
      · omega
      · have := imlt x hx; omega
    · simp only [List.mem_cons, not_or]
      exact ⟨by omega, by omega, fun hx => by have := imlt _ hx; omega⟩
    · exact ((Fr.sub1 F13 (F := fun x => x = cb ∨ x = sb ∨ x = pa) (.inl rfl)).trans (Fr.sub1 F35 (F := fun x => x = cb ∨ x = sb ∨ x = pa) (.inr (.inr rfl)))).trans (Fr.sub1 F58 (F := fun x => x = cb ∨ x = sb ∨ x = pa) (.inr (.inl rfl)))
    · simp only [List.mem_cons] at hx
      rcases hx with rfl | rfl | hx
      · exact .inr (by omega)
      · exact .inr (by omega)
      · exact .inl hx
end Go.Proofs.Ythhfjagnmhhapaa

namespace Go.Proofs.Ythhfjagnmhhapaa
open Go.W Go.PM
theorem newSrc_spec {w : World} {n cb Tc st : Nat} {gens : List (List Int)} {ga : Option Addr} {gc : Nat} {gs : List SD} {im : List Nat} {cs : List Value} (n1 : 1 ≤ n ∧ n ≤ 512) (gn : GensN n gens) (hga : Sl w ga (gs.map SD.val)) (hgs : PsAt w n im gs gens)
    (_hgim : ∀ ad, ga = some ad → ad.block ∈ im) (himlt : ∀ g, g ∈ im → g < w.heap.size) (hg0 : 1 ≤ gens.length) (hgl : gens.length ≤ 100000000000) (hcm : cb ∉ im) (hcb0 : Blk w cb Tc cs) (ho : cs[3]? = some (.int .u64 (st : Int))) (hst : st < 18446744073709551616) :
    CallsR Try.prog 109 #[.slice ga gens.length gc, .pointer (some ⟨cb, 3, none⟩)] w fun v w' => ∃ (s : SS) (st' : Nat), v = .pointer (some ⟨s.sb, 0, none⟩) ∧ SrcAt w' n cb s gens ∧ st' < 18446744073709551616 ∧ Blk w' cb Tc (cs.set 3 (.int .u64 (st' : Int))) ∧ Fr (One cb) w w' ∧ w.heap.size ≤ s.sb ∧ w.heap.size ≤ s.pa ∧ (∀ q, q ∈ s.im → q ∈ im ∨ w.heap.size ≤ q) := by
  refine callsR_of (args := [_, _]) Try.func109 rfl rfl ?_
  have hgl' := hgs.len
  obtain ⟨⟨da, dl, dc⟩, hd⟩ : ∃ s, gs.getD 0 sd0 = s := ⟨_, rfl⟩
  have hds := hgs.sl 0 (by omega)
  have hdn := hgs.n 0 (by omega)
  have hdi := hgs.im 0 (by omega)
  rw [hd] at hds hdn hdi
  simp only at hds hdn hdi
  replace hdn := hdn.symm
  subst hdn
  obtain ⟨M, hM⟩ : ∃ M : Nat, max 10 (gens.length : Int) = (M : Int) := ⟨(max 10 (gens.length : Int)).toNat, by omega⟩
  have hM2 : 10 ≤ M ∧ gens.length ≤ M ∧ M ≤ 100000000010 := by omega
  repeat' (first | (refine k_indexN (j := 0) rfl rfl (hga.plain (by simp; omega)) (by omega) ?_) | (refine k_loadSd (j := 0) rfl hga (by omega) hd ?_) | (refine k_build (cs := srcL (.slice none 0 0) (.slice da n dc) cb 3) rfl ?_) | (refine k_boxA rfl (fun sb w1 hn1 => ⟨fun _ _ => trivial, ?_⟩)) | (refine k_max rfl rfl ?_) | (refine k_pure rfl ?_) | (refine then_normal ?_) | (refine cw_seq ?_) | (refine cw_region rfl ?_) | (refine rr_nil ?_) | (refine k_len rfl ?_) | (refine g_run rfl rfl ?_) | (refine g_skip rfl rfl ?_) | (refine g_dec_f rfl rfl (fun hc => ?_) (fun hc => ?_)) | (refine g_dec_t rfl rfl (fun hc => ?_) (fun hc => ?_)) | (refine g_ndec_f rfl rfl (fun hc => ?_) (fun hc => ?_)) | (refine g_ndec_t rfl rfl (fun hc => ?_) (fun hc => ?_)) | (refine g_split rfl rfl (fun hc => ?_) (fun hc => ?_)) | (refine k_addI rfl rfl (by omega) (by omega) ?_) | (refine k_subI rfl rfl (by omega) (by omega) ?_) | (refine k_fieldAddr rfl ?_) | (refine k_eqlB rfl rfl ?_) | (refine k_neqB rfl rfl ?_) | (refine cw_cond_true rfl ?_) | (refine cw_cond_false rfl ?_) | (refine cw_cond_dec rfl (fun hc => ?_) (fun hc => ?_)) | (refine cw_cond_ndec rfl (fun hc => ?_) (fun hc => ?_)) | (refine cw_cond rfl (fun hc => ?_) (fun hc => ?_)) | (refine cw_block ?_) | (refine cw_exit ?_) | (refine then_exit ?_) | (refine in_exit ?_) | (refine in_exit_ne rfl ?_) | (refine in_normal ?_) | (refine cw_ret ?_) | (refine then_ret ?_) | (refine in_ret ?_) | (refine cw_skip ?_))
  rw [hM]
  have z1 := hn1.lo
  have z1' := hn1.hi
  refine cw_loop (ι := Nat × Option Addr × Nat) [6, 16, 17, 18, 19, 20, 21, 22, 23, 24, 25, 26, 27, 28, 29, 30, 31, 32, 33, 34, 35] (fun s => [(16, .int .i64 (s.1 : Int))]) (fun s w' => s.1 ≤ M ∧ Ex w w' ∧ Blk w' sb 174 (srcL (.slice s.2.1 s.1 s.2.2) (.slice da n dc) cb 3) ∧ Own w' w.heap.size 110 1 s.2.1 s.1 s.2.2 (((List.range s.1).map fun i => gs.getD (i % gens.length) sd0).map SD.val) ∧ ∀ ad, s.2.1 = some ad → ad.block ≠ sb) (fun s => M - s.1)
    (0, none, 0) ⟨rfl, trivial⟩ ⟨Nat.zero_le _, hn1.ex, hn1.blk, Own.nil _ _ _ _, by rintro _ ⟨⟩⟩ ?_
  rintro ⟨k, a, c⟩ ξ w2 ⟨hk, hE2, hs2, ho2, hne2⟩
  simp only at hk hs2 ho2 hne2
  show CW _ _ _ _ (over [(16, .int .i64 (k : Int))] _) w2
  repeat' (first | (refine k_pure rfl ?_) | (refine then_normal ?_) | (refine cw_seq ?_) | (refine cw_region rfl ?_) | (refine rr_nil ?_) | (refine k_len rfl ?_) | (refine g_run rfl rfl ?_) | (refine g_skip rfl rfl ?_) | (refine g_dec_f rfl rfl (fun hc => ?_) (fun hc => ?_)) | (refine g_dec_t rfl rfl (fun hc => ?_) (fun hc => ?_)) | (refine g_ndec_f rfl rfl (fun hc => ?_) (fun hc => ?_)) | (refine g_ndec_t rfl rfl (fun hc => ?_) (fun hc => ?_)) | (refine g_split rfl rfl (fun hc => ?_) (fun hc => ?_)) | (refine k_addI rfl rfl (by omega) (by omega) ?_) | (refine k_subI rfl rfl (by omega) (by omega) ?_) | (refine k_fieldAddr rfl ?_) | (refine k_eqlB rfl rfl ?_) | (refine k_neqB rfl rfl ?_) | (refine cw_cond_true rfl ?_) | (refine cw_cond_false rfl ?_) | (refine cw_cond_dec rfl (fun hc => ?_) (fun hc => ?_)) | (refine cw_cond_ndec rfl (fun hc => ?_) (fun hc => ?_)) | (refine cw_cond rfl (fun hc => ?_) (fun hc => ?_)) | (refine cw_block ?_) | (refine cw_exit ?_) | (refine then_exit ?_) | (refine in_exit ?_) | (refine in_exit_ne rfl ?_) | (refine in_normal ?_) | (refine cw_ret ?_) | (refine then_ret ?_) | (refine in_ret ?_) | (refine cw_skip ?_))
  · have hkM : k < M := by omega
    obtain ⟨j, hj⟩ : ∃ j, j = k % gens.length := ⟨_, rfl⟩
    have hjl : j < gens.length := by rw [hj]; exact Nat.mod_lt _ (by omega)
    have hje : (k : Int) % (gens.length : Int) = (j : Int) := by rw [hj, Int.natCast_emod]
    obtain ⟨⟨ea, el, ec⟩, he⟩ : ∃ s, gs.getD j sd0 = s := ⟨_, rfl⟩
    refine cw_draw (late := [16]) (plan := [(0, none), (1, none), (2, none), (3, none), (4, none), (5, none), (6, none), (7, none), (8, none), (9, none), (10, none), (11, none), (12, some true), (13, some true), (14, none), (15, none), (16, some false)]) (fun w' => Blk w' sb 174 (srcL (.slice a k c) (.slice da n dc) cb 3) ∧ Sl w' ga (gs.map SD.val)) mixed (by kernel_rfl) ⟨hs2.drew, (hga.ext hE2).drew⟩ ?_
    repeat' (first | (refine k_loadC rfl (fun _ h => h.1) rfl ?_) | (refine k_rem rfl rfl (by omega) (by omega) ?_) | (refine k_indexN (j := j) rfl (congrArg _ hje) (hga.plain (by simp; omega)) (by omega) ?_) | (refine k_loadSd (j := j) rfl (fun _ h => h.2) (by omega) he ?_) | (refine k_pure rfl ?_) | (refine then_normal ?_) | (refine cw_seq ?_) | (refine cw_region rfl ?_) | (refine rr_nil ?_) | (refine k_len rfl ?_) | (refine g_run rfl rfl ?_) | (refine g_skip rfl rfl ?_) | (refine g_dec_f rfl rfl (fun hc => ?_) (fun hc => ?_)) | (refine g_dec_t rfl rfl (fun hc => ?_) (fun hc => ?_)) | (refine g_ndec_f rfl rfl (fun hc => ?_) (fun hc => ?_)) | (refine g_ndec_t rfl rfl (fun hc => ?_) (fun hc => ?_)) | (refine g_split rfl rfl (fun hc => ?_) (fun hc => ?_)) | (refine k_addI rfl rfl (by omega) (by omega) ?_) | (refine k_subI rfl rfl (by omega) (by omega) ?_) | (refine k_fieldAddr rfl ?_) | (refine k_eqlB rfl rfl ?_) | (refine k_neqB rfl rfl ?_) | (refine cw_cond_true rfl ?_) | (refine cw_cond_false rfl ?_) | (refine cw_cond_dec rfl (fun hc => ?_) (fun hc => ?_)) | (refine cw_cond_ndec rfl (fun hc => ?_) (fun hc => ?_)) | (refine cw_cond rfl (fun hc => ?_) (fun hc => ?_)) | (refine cw_block ?_) | (refine cw_exit ?_) | (refine then_exit ?_) | (refine in_exit ?_) | (refine in_exit_ne rfl ?_) | (refine in_normal ?_) | (refine cw_ret ?_) | (refine then_ret ?_) | (refine in_ret ?_) | (refine cw_skip ?_))
    refine k_lit1 (v := .slice ea el ec) rfl rfl (fun lb w3 hn3 => ⟨fun _ h => ⟨h.1.ext hn3.ex, h.2.ext hn3.ex⟩, ?_⟩)
    have hE3 : Ex w w3 := hE2.drew.trans hn3.ex
    have ho3 := ho2.drew.ext hn3.ex
    have hs3 := hs2.drew.ext hn3.ex
    have hown : ∀ q, (Value.slice a k c).ownBlock = some q → w.heap.size ≤ q ∧ q ≠ sb := fun q e => by
      cases a with
      | none => simp [Value.ownBlock] at e
      | some ad =>
        simp [Value.ownBlock] at e
        rw [← e]; exact ⟨(ho2.lo ad rfl).1, hne2 ad rfl⟩
    refine k_append (z := .slice none 0 0) (s := 1) (c := 1) (m := 1) (lo := w.heap.size) (news := [.slice ea el ec]) rfl rfl rfl rfl ho3 hn3.blk.sl ⟨_, _, rfl⟩ rfl rfl (by omega) (by omega) hE3.size (fun a4 c4 w4 ho4 hg4 hA4 => ⟨fun _ h => ⟨h.1.fr (grown_fr hg4 hown) (fun h => h.2 rfl), h.2.fr (grown_fr hg4 hown) (fun ad e h => by have := hga.lt (by simp; omega) ad e; omega)⟩, ?_⟩)
    have f4 := grown_fr hg4 hown
    repeat' (first | (refine k_storeC rfl rfl rfl (hs3.fr f4 (fun h => h.2 rfl)) rfl (fun w5 hc5 hb5 => ⟨fun h => (nomatch h), ?_⟩)) | (refine k_pure rfl ?_) | (refine then_normal ?_) | (refine cw_seq ?_) | (refine cw_region rfl ?_) | (refine rr_nil ?_) | (refine k_len rfl ?_) | (refine g_run rfl rfl ?_) | (refine g_skip rfl rfl ?_) | (refine g_dec_f rfl rfl (fun hc => ?_) (fun hc => ?_)) | (refine g_dec_t rfl rfl (fun hc => ?_) (fun hc => ?_)) | (refine g_ndec_f rfl rfl (fun hc => ?_) (fun hc => ?_)) | (refine g_ndec_t rfl rfl (fun hc => ?_) (fun hc => ?_)) | (refine g_split rfl rfl (fun hc => ?_) (fun hc => ?_)) | (refine k_addI rfl rfl (by omega) (by omega) ?_) | (refine k_subI rfl rfl (by omega) (by omega) ?_) | (refine k_fieldAddr rfl ?_) | (refine k_eqlB rfl rfl ?_) | (refine k_neqB rfl rfl ?_) | (refine cw_cond_true rfl ?_) | (refine cw_cond_false rfl ?_) | (refine cw_cond_dec rfl (fun hc => ?_) (fun hc => ?_)) | (refine cw_cond_ndec rfl (fun hc => ?_) (fun hc => ?_)) | (refine cw_cond rfl (fun hc => ?_) (fun hc => ?_)) | (refine cw_block ?_) | (refine cw_exit ?_) | (refine then_exit ?_) | (refine in_exit ?_) | (refine in_exit_ne rfl ?_) | (refine in_normal ?_) | (refine cw_ret ?_) | (refine then_ret ?_) | (refine in_ret ?_) | (refine cw_skip ?_))
    obtain ⟨b4, rfl⟩ := Own.ba ho4
    have z3 := hn3.ex.size
    have z23 := hE2.size
    have z0 : w2.heap.size ≤ w3.heap.size := z3
    have hb4 : b4 ≠ sb := by
      rcases hA4 with e | e
      · exact hne2 _ e.symm
      · have := e _ rfl; have := hs2.lt; simp only at *; omega
    have hE4 : Ex w w4 := Fr.ex hE3 f4 (fun q h => h.1)
    refine ⟨⟨(k + 1, ba b4, c4), ⟨by simp only; omega, hE4.chg hc5 z1, hb5, ?_, by rintro _ ⟨⟩; exact hb4⟩, by simp only; omega, rfl, trivial⟩, (by (repeat (first | exact agree_mask _ _ _ | refine agree_upd rfl ?_ | refine agree_updO rfl ?_ | refine agree_overIn rfl ?_ | refine agree_maskIn rfl ?_)))⟩
    have := ho4.chg hc5 (by rintro _ ⟨⟩; exact hb4)
    simp only [List.range_succ, List.map_append, List.map_cons, List.map_nil, ← hj, he]
    exact this
  · obtain rfl : k = M := by omega
    obtain ⟨pa, rfl⟩ := ho2.baPos (by omega)
    have hpa := (ho2.lo _ rfl).1
    have hpne := hne2 _ rfl
    simp only at hpa hpne
    have cbl := hcb0.lt
    obtain ⟨sds, hsds⟩ : ∃ l, l = (List.range k).map fun i => gs.getD (i % gens.length) sd0 := ⟨_, rfl⟩
    obtain ⟨ps, hps⟩ : ∃ l, l = (List.range k).map fun i => gens.getD (i % gens.length) [] := ⟨_, rfl⟩
    have hpsl : ps.length = k := by rw [hps]; simp
    have hsdl : sds.length = k := by rw [hsds]; simp
    have hgetS : ∀ i, i < k → sds.getD i sd0 = gs.getD (i % gens.length) sd0 := fun i hi => by rw [hsds, List.getD_eq_getElem?_getD, List.getElem?_map, List.getElem?_range hi]; rfl
    have hgetP : ∀ i, i < k → ps.getD i [] = gens.getD (i % gens.length) [] := fun i hi => by rw [hps, List.getD_eq_getElem?_getD, List.getElem?_map, List.getElem?_range hi]; rfl
    have hmod : ∀ i, i % gens.length < gens.length := fun i => Nat.mod_lt _ (by omega)
    rw [← hsds] at ho2
    have hS0 : SrcAt w2 n cb ⟨sb, pa, c, sds, ⟨da, n, dc⟩, im, ps, gens.getD 0 []⟩ gens := by
      have hg2 := hgs.ext hE2
      refine ⟨?_, ?_, ⟨by rw [hsdl, hpsl], fun i hi => ?_, fun i hi => ?_, fun i hi => ?_⟩, hds.ext hE2, hdi, fun i hi => ?_, gen_self gn (getD_mem (by omega)), gn, n1, ⟨Ne.symm hpne, by simp only; omega, by simp only; omega⟩, ⟨fun h => ?_, fun h => ?_, hcm⟩, fun q hq => ?_, ?_⟩
      · simp only [hpsl]; exact hs2
      · simp only [hpsl]; exact ho2.mono (Nat.zero_le _)
      · simp only [hpsl] at hi ⊢; rw [hgetS i hi, hgetP i hi]; exact hg2.sl _ (hmod i)
      · simp only [hpsl] at hi ⊢; rw [hgetS i hi]; exact hg2.n _ (hmod i)
      · simp only [hpsl] at hi ⊢; rw [hgetS i hi]; exact hg2.im _ (hmod i)
      · simp only [hpsl] at hi ⊢; rw [hgetP i hi]; exact gen_self gn (getD_mem (hmod i))
      · have := himlt _ h; simp only at this; omega
      · have := himlt _ h; simp only at this; omega
      · have := himlt _ hq; have := hE2.size; simp only at *; omega
      · simp only [hpsl]; omega
    have hc2 := hcb0.ext hE2
    have hol : 3 < cs.length := (List.getElem?_eq_some_iff.1 ho).1
    have hc2' : Blk w2 cb Tc (cs.set 3 (.int .u64 (st : Int))) := by
      have : cs.set 3 (.int .u64 (st : Int)) = cs := by
        apply List.ext_getElem?; intro i
        rw [List.getElem?_set]
        by_cases e : 3 = i
        · subst e; rw [if_pos rfl, if_pos hol, ho]
        · rw [if_neg e]
      rw [this]; exact hc2
    repeat' (first | (refine k_loadC rfl hs2 rfl ?_) | (refine k_mulI rfl rfl (by omega) (by omega) ?_) | (refine k_pure rfl ?_) | (refine then_normal ?_) | (refine cw_seq ?_) | (refine cw_region rfl ?_) | (refine rr_nil ?_) | (refine k_len rfl ?_) | (refine g_run rfl rfl ?_) | (refine g_skip rfl rfl ?_) | (refine g_dec_f rfl rfl (fun hc => ?_) (fun hc => ?_)) | (refine g_dec_t rfl rfl (fun hc => ?_) (fun hc => ?_)) | (refine g_ndec_f rfl rfl (fun hc => ?_) (fun hc => ?_)) | (refine g_ndec_t rfl rfl (fun hc => ?_) (fun hc => ?_)) | (refine g_split rfl rfl (fun hc => ?_) (fun hc => ?_)) | (refine k_addI rfl rfl (by omega) (by omega) ?_) | (refine k_subI rfl rfl (by omega) (by omega) ?_) | (refine k_fieldAddr rfl ?_) | (refine k_eqlB rfl rfl ?_) | (refine k_neqB rfl rfl ?_) | (refine cw_cond_true rfl ?_) | (refine cw_cond_false rfl ?_) | (refine cw_cond_dec rfl (fun hc => ?_) (fun hc => ?_)) | (refine cw_cond_ndec rfl (fun hc => ?_) (fun hc => ?_)) | (refine cw_cond rfl (fun hc => ?_) (fun hc => ?_)) | (refine cw_block ?_) | (refine cw_exit ?_) | (refine then_exit ?_) | (refine in_exit ?_) | (refine in_exit_ne rfl ?_) | (refine in_normal ?_) | (refine cw_ret ?_) | (refine then_ret ?_) | (refine in_ret ?_) | (refine cw_skip ?_))
    refine cw_loop (ι := Nat × SS × Nat) [43, 44, 45, 46, 47] (fun s => [(43, .int .i64 (s.1 : Int))]) (fun s w' => SrcAt w' n cb s.2.1 gens ∧ s.2.2 < 18446744073709551616 ∧ Blk w' cb Tc (cs.set 3 (.int .u64 (s.2.2 : Int))) ∧ Fr (One cb) w w' ∧ s.2.1.sb = sb ∧ s.2.1.pa = pa ∧ (∀ q, q ∈ s.2.1.im → q ∈ im ∨ w.heap.size ≤ q)) (fun s => 50 + 2 * k - s.1)
      (0, ⟨sb, pa, c, sds, ⟨da, n, dc⟩, im, ps, gens.getD 0 []⟩, st) ⟨rfl, trivial⟩ ⟨hS0, hst, hc2', hE2.fr, rfl, rfl, fun q hq => .inl hq⟩ ?_
    rintro ⟨i, s, st2⟩ ξ2 w3 ⟨hS, hst2, hb3, hf3, hsb, hpa', him⟩
    simp only at hS hst2 hb3 hsb hpa' him
    show CW _ _ _ _ (over [(43, .int .i64 (i : Int))] _) w3
    repeat' (first | (refine k_pure rfl ?_) | (refine then_normal ?_) | (refine cw_seq ?_) | (refine cw_region rfl ?_) | (refine rr_nil ?_) | (refine k_len rfl ?_) | (refine g_run rfl rfl ?_) | (refine g_skip rfl rfl ?_) | (refine g_dec_f rfl rfl (fun hc => ?_) (fun hc => ?_)) | (refine g_dec_t rfl rfl (fun hc => ?_) (fun hc => ?_)) | (refine g_ndec_f rfl rfl (fun hc => ?_) (fun hc => ?_)) | (refine g_ndec_t rfl rfl (fun hc => ?_) (fun hc => ?_)) | (refine g_split rfl rfl (fun hc => ?_) (fun hc => ?_)) | (refine k_addI rfl rfl (by omega) (by omega) ?_) | (refine k_subI rfl rfl (by omega) (by omega) ?_) | (refine k_fieldAddr rfl ?_) | (refine k_eqlB rfl rfl ?_) | (refine k_neqB rfl rfl ?_) | (refine cw_cond_true rfl ?_) | (refine cw_cond_false rfl ?_) | (refine cw_cond_dec rfl (fun hc => ?_) (fun hc => ?_)) | (refine cw_cond_ndec rfl (fun hc => ?_) (fun hc => ?_)) | (refine cw_cond rfl (fun hc => ?_) (fun hc => ?_)) | (refine cw_block ?_) | (refine cw_exit ?_) | (refine then_exit ?_) | (refine in_exit ?_) | (refine in_exit_ne rfl ?_) | (refine in_normal ?_) | (refine cw_ret ?_) | (refine then_ret ?_) | (refine in_ret ?_) | (refine cw_skip ?_))
    · refine k_call (srcNext_spec hS hb3 (by rw [List.getElem?_set_self hol]) hst2) (by rw [hsb]; rfl) ?_
      rintro v w4 ⟨g, c4, p, st4, s4, rfl, hg, _, _, hst4, hb4, hS4, _, hf4, hsb4, hpa4, _, him4⟩
      refine ⟨fun _ _ => trivial, ?_⟩
      repeat' (first | (refine k_pure rfl ?_) | (refine then_normal ?_) | (refine cw_seq ?_) | (refine cw_region rfl ?_) | (refine rr_nil ?_) | (refine k_len rfl ?_) | (refine g_run rfl rfl ?_) | (refine g_skip rfl rfl ?_) | (refine g_dec_f rfl rfl (fun hc => ?_) (fun hc => ?_)) | (refine g_dec_t rfl rfl (fun hc => ?_) (fun hc => ?_)) | (refine g_ndec_f rfl rfl (fun hc => ?_) (fun hc => ?_)) | (refine g_ndec_t rfl rfl (fun hc => ?_) (fun hc => ?_)) | (refine g_split rfl rfl (fun hc => ?_) (fun hc => ?_)) | (refine k_addI rfl rfl (by omega) (by omega) ?_) | (refine k_subI rfl rfl (by omega) (by omega) ?_) | (refine k_fieldAddr rfl ?_) | (refine k_eqlB rfl rfl ?_) | (refine k_neqB rfl rfl ?_) | (refine cw_cond_true rfl ?_) | (refine cw_cond_false rfl ?_) | (refine cw_cond_dec rfl (fun hc => ?_) (fun hc => ?_)) | (refine cw_cond_ndec rfl (fun hc => ?_) (fun hc => ?_)) | (refine cw_cond rfl (fun hc => ?_) (fun hc => ?_)) | (refine cw_block ?_) | (refine cw_exit ?_) | (refine then_exit ?_) | (refine in_exit ?_) | (refine in_exit_ne rfl ?_) | (refine in_normal ?_) | (refine cw_ret ?_) | (refine then_ret ?_) | (refine in_ret ?_) | (refine cw_skip ?_))
      rw [List.set_set] at hb4
      have z3 := hf3.size
      refine ⟨⟨(i + 1, s4, st4), ⟨hS4, hst4, hb4, hf3.then hf4 (fun q hq h => ?_), by rw [hsb4, hsb], by rw [hpa4, hpa'], fun q hq => ?_⟩, by simp only; omega, rfl, trivial⟩, (by (repeat (first | exact agree_mask _ _ _ | refine agree_upd rfl ?_ | refine agree_updO rfl ?_ | refine agree_overIn rfl ?_ | refine agree_maskIn rfl ?_)))⟩
      · rcases h with h | h | h
        · exact h
        · omega
        · omega
      · rcases him4 q hq with h | h
        · exact him q h
        · exact .inr (by omega)
    · refine ret1 rfl (rt rfl) ⟨s, st2, by rw [hsb]; rfl, hS, hst2, hb3, hf3, by omega, by omega, him⟩
end Go.Proofs.Ythhfjagnmhhapaa

/- Chains grow: plain laws for what the program does with them. -/
namespace Go.PM
theorem grp_head {n : Nat} {ls ls' : List Lv} (h : 0 < ls.length) (e : ls'.take 1 = ls.take 1) : grpOf n ls' = grpOf n ls := by
  cases ls with
  | nil => simp at h
  | cons l ls =>
    cases ls' with
    | nil => simp at e
    | cons l' ls' => simp at e; rw [e]; rfl
/-- levels behind level i grow by the remainder r -/
theorem ins_at {n : Nat} {r : List Int} {d : Nat} : ∀ (i : Nat) (ls ls' : List Lv) (l : Lv), ls[i]? = some l → Links n ls → ls'.take (i + 1) = ls.take (i + 1) → Ins n r d (ls.drop (i + 1)) (ls'.drop (i + 1)) → PermN n r → FixTo (ls.drop (i + 1)) d r →
    (∀ l, (ls.drop (i + 1))[d]? = some l → ap r l.pt ∉ l.orb) → Gen n l.gens r → ap r l.pt = l.pt → Links n ls' ∧ prodL ls < prodL ls'
  | _, [], _, l, h, _, _, _, _, _, _, _, _ => by simp at h
  | _, _ :: _, [], _, _, _, h, _, _, _, _, _, _ => by simp at h
  | 0, l :: ls, l' :: ls', l0, h0, hL, ht, hi, pr, hf, ho, hg, hp => by
    simp at h0 ht
    subst h0
    subst ht
    simp only [Nat.zero_add, List.drop_succ_cons, List.drop_zero] at hi hf ho
    obtain ⟨h1, h2, h3, h4⟩ := ins_links hi hL.tail pr hf
    have hpr := ins_prod hi hL.tail ho
    refine ⟨⟨hL.1, fun p hp' => ?_, fun a ha => ?_, h1⟩, ?_⟩
    · exact h4 (Stab (Gen n l'.gens) l'.pt) (stab_grp hL.1.grp hL.1.pt) (fun q hq => hL.2.1 q hq) ⟨hg, hp⟩ p hp'
    · have := hL.2.2.1 a ha
      exact ⟨this.1, fun k hk => h2 _ (this.2 k hk)⟩
    · exact Nat.mul_lt_mul_of_pos_left hpr hL.1.pos
  | i + 1, l :: ls, l' :: ls', l0, h0, hL, ht, hi, pr, hf, ho, hg, hp => by
    simp only [List.getElem?_cons_succ] at h0
    simp only [List.take_succ_cons, List.cons.injEq] at ht
    obtain ⟨rfl, ht⟩ := ht
    simp only [List.drop_succ_cons] at hi hf ho
    obtain ⟨h1, h2⟩ := ins_at i ls ls' l0 h0 hL.tail ht hi pr hf ho hg hp
    have hpos : 0 < ls.length := by have := (List.getElem?_eq_some_iff.1 h0).1; omega
    have e : grpOf n ls' = grpOf n ls := by
      refine grp_head hpos ?_
      have := congrArg (List.take 1) ht
      rw [List.take_take, List.take_take] at this
      simpa [Nat.min_eq_left (show 1 ≤ i + 1 by omega)] using this
    refine ⟨⟨hL.1, fun p hp' => hL.2.1 p (by rw [← e]; exact hp'), fun a ha => ?_, h1⟩, Nat.mul_lt_mul_of_pos_left h2 hL.1.pos⟩
    have := hL.2.2.1 a ha
    exact ⟨this.1, fun k hk => by rw [e]; exact this.2 k hk⟩
theorem Links.drop {n : Nat} : ∀ {ls : List Lv} (i : Nat), Links n ls → Links n (ls.drop i)
  | _, 0, h => h
  | [], _ + 1, h => h
  | _ :: _, i + 1, h => by rw [List.drop_succ_cons]; exact Links.drop i h.tail
theorem Links.ok {n : Nat} : ∀ {ls : List Lv} {i : Nat} {l : Lv}, Links n ls → ls[i]? = some l → LvOK n l
  | [], _, _, _, h => by simp at h
  | _ :: _, 0, _, hL, h => by simp at h; subst h; exact hL.1
  | _ :: _, i + 1, _, hL, h => by simp at h; exact Links.ok hL.tail h
/-- one more level at the end -/
theorem links_snoc {n : Nat} : ∀ {ls : List Lv} {l : Lv}, Links n ls → LvOK n l → (∀ a, l.done.getD a 0 = 0) → (∀ z, ls[ls.length - 1]? = some z → (∀ g ∈ l.gens, Gen n z.gens g ∧ ap g z.pt = z.pt) ∧ ∀ a, z.done.getD a 0 = 0) → Links n (ls ++ [l]) ∧ prodL (ls ++ [l]) = prodL ls * l.orb.length
  | [], l, h, ok, hd, _ => ⟨⟨ok, fun p hp => by
      have hp : p = idList n := hp
      subst hp
      exact ⟨ok.grp.one, ap_id ok.pt⟩, fun a _ => ⟨by rw [hd]; omega, fun k hk => by rw [hd] at hk; omega⟩, h⟩, by simp [prodL]⟩
  | [z], l, h, ok, hd, hz => by
    obtain ⟨h1, h2⟩ := hz z rfl
    refine ⟨⟨h.1, fun p hp => ?_, fun a _ => ⟨by rw [h2]; omega, fun k hk => by rw [h2] at hk; omega⟩, (links_snoc (ls := []) h.1.n1 ok hd (fun _ h => by simp at h)).1⟩, by simp [prodL]⟩
    exact gen_le (stab_grp h.1.grp h.1.pt) h1 hp
  | z :: y :: ls, l, h, ok, hd, hz => by
    obtain ⟨h1, h2⟩ := links_snoc (ls := y :: ls) h.tail ok hd (fun x hx => hz x (by simpa using hx))
    refine ⟨⟨h.1, h.2.1, h.2.2.1, h1⟩, ?_⟩
    show z.orb.length * prodL (y :: ls ++ [l]) = z.orb.length * prodL (y :: ls) * l.orb.length
    rw [h2, Nat.mul_assoc]
/-- what a remainder of an element of the group of level i is -/
theorem rem_facts {n : Nat} {l : Lv} {ls : List Lv} (h : Links n (l :: ls)) {p : List Int} (hp : Gen n l.gens p) :
    let r := (siftL (l :: ls) p).1
    let d := (siftL (l :: ls) p).2
    PermN n r ∧ 1 ≤ d ∧ d ≤ ls.length + 1 ∧ FixTo ls (d - 1) r ∧ (∀ z, ls[d - 1]? = some z → ap r z.pt ∉ z.orb) ∧ Gen n l.gens r ∧ ap r l.pt = l.pt := by
  intro r d
  have hm : ap p l.pt ∈ l.orb := (h.1.mem' _).2 ⟨p, hp, rfl⟩
  have hu := h.1.to_in hm
  have hq := h.1.grp.mul _ _ hp hu
  have pq := h.1.grp.perm _ hq
  have e : siftL (l :: ls) p = ((siftL ls (mulP p (l.to (ap p l.pt)))).1, (siftL ls (mulP p (l.to (ap p l.pt)))).2 + 1) := by rw [siftL, if_pos hm]
  obtain ⟨h1, h2, ⟨u, hu', e'⟩, h4, h5⟩ := sift_spec h.tail pq
  have hr : r = (siftL ls (mulP p (l.to (ap p l.pt)))).1 := by show (siftL (l :: ls) p).1 = _; rw [e]
  have hd : d = (siftL ls (mulP p (l.to (ap p l.pt)))).2 + 1 := by show (siftL (l :: ls) p).2 = _; rw [e]
  have hd' : d - 1 = (siftL ls (mulP p (l.to (ap p l.pt)))).2 := by omega
  rw [hr, hd']
  refine ⟨h1, by omega, by omega, h4, h5, ?_, ?_⟩
  · rw [e']; exact h.1.grp.mul _ _ hq (h.2.1 u hu').1
  · rw [e', ap_mul pq h.1.pt, ap_mul (h.1.grp.perm _ hp) h.1.pt, h.1.to_ap hm, (h.2.1 u hu').2]
/-- a group of at most n points has at most n! elements -/
theorem card_fac {n : Nat} {H : List Int → Prop} (hH : Grp n H) {k : Nat} (hk : Card H k) : k ≤ fac n := by
  obtain ⟨m, hm⟩ := (keep_grp hH.n1 (fun _ => 0) 0).card
  have h1 := keep_le hH.n1 (c := fun _ => 0) (fun x hx => by have := hH.n1; omega) hm
  have h2 : k ≤ m := hk.le hm fun p hp => ⟨hH.perm p hp, fun _ _ => rfl, fun x hx => absurd hx (by omega)⟩
  have h3 : prodR (fun r => fac (cntF (fun _ => 0) r 0 n)) n = fac n := by
    have hc : ∀ d j, cntF (fun _ => 0) 0 j d = d := by
      intro d; induction d with
      | zero => intro j; rfl
      | succ d ih => intro j; rw [cntF, if_pos rfl, ih]; omega
    have hc' : ∀ r, r ≠ 0 → ∀ d j, cntF (fun _ => 0) r j d = 0 := by
      intro r hr d; induction d with
      | zero => intro j; rfl
      | succ d ih => intro j; rw [cntF, if_neg (fun e => hr e.symm), ih]
    have := prodR_at (f := fun r => fac (cntF (fun _ => 0) r 0 n)) (g := fun _ => 1) (t := fac n) (r0 := 0) n (by have := hH.n1; omega) (fun r hr => by simp only [hc' r hr]; rfl) (by simp only [hc, Nat.mul_one])
    rw [this, prodR_one n (fun _ _ => rfl), Nat.mul_one]
  omega
theorem fac_mono : ∀ {a b : Nat}, a ≤ b → fac a ≤ fac b := by
  intro a b h
  induction b with
  | zero => obtain rfl : a = 0 := by omega
            exact Nat.le_refl _
  | succ b ih =>
    by_cases e : a = b + 1
    · subst e; exact Nat.le_refl _
    · have := ih (by omega)
      have h2 : fac b ≤ fac (b + 1) := by rw [fac]; exact Nat.le_mul_of_pos_left _ (by omega)
      omega
theorem prod_le {n : Nat} {ls : List Lv} (h : Links n ls) (hn : n ≤ 11) : prodL ls ≤ 39916800 := by
  obtain ⟨k, hk⟩ := h.grp.card
  have h1 := links_le h k hk
  have h2 := card_fac h.grp hk
  have h3 : fac n ≤ fac 11 := fac_mono hn
  have h4 : fac 11 = 39916800 := by decide
  omega
end Go.PM

