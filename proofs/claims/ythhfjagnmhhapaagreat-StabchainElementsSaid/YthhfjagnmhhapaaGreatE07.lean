
import Derived.Test.YthhfjagnmhhapaaGreatE01
import Derived.Test.YthhfjagnmhhapaaGreatE02
import Derived.Test.YthhfjagnmhhapaaGreatE03
import Derived.Test.YthhfjagnmhhapaaGreatE04
import Derived.Test.YthhfjagnmhhapaaGreatE05
import Derived.Test.YthhfjagnmhhapaaGreatE06

namespace Go.Proofs.YthhfjagnmhhapaaGreat
open Go.W Go.PM
structure SS where
  sb : Nat
  pa : Nat
  pc : Nat
  sds : List SD
  pd : SD
  im : List Nat
  ps : List (List Int)
  pr : List Int
structure SrcAt (w : World) (n cb : Nat) (s : SS) (gens : List (List Int)) : Prop where
  str : Blk w s.sb 136 (srcL (.slice (ba s.pa) s.ps.length s.pc) (.slice s.pd.a n s.pd.cap) cb 3)
  pool : Own w 0 55 1 (ba s.pa) s.ps.length s.pc (s.sds.map SD.val)
  pls : PsAt w n s.im s.sds s.ps
  pd : Sl w s.pd.a (u16L s.pr)
  pdi : ∀ ad, s.pd.a = some ad → ad.block ∈ s.im
  mem : ∀ i, i < s.ps.length → Gen n gens (s.ps.getD i [])
  pm : Gen n gens s.pr
  gn : GensN n gens
  n1 : 1 ≤ n ∧ n ≤ 512
  ne : s.sb ≠ s.pa ∧ s.sb ≠ cb ∧ s.pa ≠ cb
  dis : s.sb ∉ s.im ∧ s.pa ∉ s.im ∧ cb ∉ s.im
  imlt : ∀ q, q ∈ s.im → q < w.heap.size
  len : 2 ≤ s.ps.length ∧ s.ps.length ≤ 1000000000000
theorem PsAt.setP {w : World} {n : Nat} {im : List Nat} {sds : List SD} {ps : List (List Int)} (h : PsAt w n im sds ps) {i : Nat} {s : SD} {p : List Int} (hi : i < ps.length) (hs : Sl w s.a (u16L p)) (hl : s.len = n) (hm : ∀ ad, s.a = some ad → ad.block ∈ im) : PsAt w n im (sds.set i s) (ps.set i p) := by
  have e : ∀ j, (sds.set i s).getD j sd0 = if j = i then s else sds.getD j sd0 := fun j => getD_set' (by rw [h.len]; exact hi)
  have e' : ∀ j, (ps.set i p).getD j [] = if j = i then p else ps.getD j [] := fun j => getD_set' hi
  refine ⟨by simp [h.len], fun j hj => ?_, fun j hj => ?_, fun j hj ad => ?_⟩ <;> rw [List.length_set] at hj <;> rw [e j]
  · rw [e' j]; split
    · exact hs
    · exact h.sl j hj
  · split
    · exact hl
    · exact h.n j hj
  · split
    · exact hm ad
    · exact h.im j hj ad
theorem srcNext_spec {w : World} {n cb Tc st : Nat} {s : SS} {gens : List (List Int)} {cs : List Value} (hS : SrcAt w n cb s gens) (hc : Blk w cb Tc cs) (ho : cs[3]? = some (.int .u64 (st : Int))) (hst : st < 18446744073709551616) :
    CallsR Tryz.prog 69 #[.pointer (some ⟨s.sb, 0, none⟩)] w fun v w' => ∃ (g c : Nat) (p : List Int) (st' : Nat) (s' : SS), v = .slice (ba g) n c ∧ w.heap.size ≤ g ∧ Own w' 0 70 1 (ba g) n c (u16L p) ∧ Gen n gens p ∧ st' < 18446744073709551616 ∧
      Blk w' cb Tc (cs.set 3 (.int .u64 (st' : Int))) ∧ SrcAt w' n cb s' gens ∧ g ∉ s'.im ∧ Fr (fun q => q = cb ∨ q = s.sb ∨ q = s.pa) w w' ∧ s'.sb = s.sb ∧ s'.pa = s.pa ∧ s'.ps.length = s.ps.length ∧ (∀ q, q ∈ s'.im → q ∈ s.im ∨ w.heap.size ≤ q) := by
  refine callsR_of (args := [_]) Tryz.func69 rfl rfl ?_
  obtain ⟨sb, pa, pc, sds, ⟨da, dl, dc⟩, im, ps, pr⟩ := s
  obtain ⟨str, pool, pls, pd, pdi, mem, pm, gn, n1, ⟨ne1, ne2, ne3⟩, ⟨dis1, dis2, dis3⟩, imlt, len⟩ := hS
  simp only at str pool pls pd pdi mem pm ne1 ne2 ne3 dis1 dis2 dis3 imlt len
  have grp := gen_grp n1 gn
  have hol : 3 < cs.length := (List.getElem?_eq_some_iff.1 ho).1
  have hsl := pls.len
  repeat' (first | (refine k_loadC rfl str rfl ?_) | (refine k_pure rfl ?_) | (refine then_normal ?_) | (refine cw_seq ?_) | (refine cw_region rfl ?_) | (refine rr_nil ?_) | (refine k_len rfl ?_) | (refine k_fieldAddr rfl ?_))
  refine k_call (choose_spec str hc ho ne2 hst (n := ps.length) (by omega)) rfl ?_
  rintro v w1 ⟨i, st1, rfl, hi, hst1, hc1, hb1⟩
  refine ⟨fun _ _ => trivial, ?_⟩
  have str1 := str.chg hc1 ne2
  have ho1 : (cs.set 3 (.int .u64 (st1 : Int)))[3]? = some (.int .u64 (st1 : Int)) := by rw [List.getElem?_set_self hol]
  repeat' (first | (refine k_pure rfl ?_) | (refine then_normal ?_) | (refine cw_seq ?_) | (refine rr_nil ?_))
  refine cw_draw (late := []) (plan := [(0, none), (1, none), (2, none), (3, none), (4, none), (5, none), (6, none), (7, none), (8, none), (11, none), (12, none), (13, none), (14, none), (15, none), (9, some true), (10, none), (16, none), (17, none)]) (fun w' => Blk w' sb 136 (srcL (.slice (ba pa) ps.length pc) (.slice da n dc) cb 3)) mixed (by kernel_rfl) str1.drew ?_
  repeat' (first | (refine k_loadC rfl (fun _ h => h) rfl ?_) | (refine k_pure rfl ?_) | (refine k_len rfl ?_) | (refine k_addI rfl rfl (by omega) (by omega) ?_) | (refine k_subI rfl rfl (by omega) (by omega) ?_) | (refine k_fieldAddr rfl ?_))
  have hcm : Blk w1 cb Tc (cs.set 3 (.int .u64 (st1 : Int))) := hb1
  refine k_call (choose_spec (n := ps.length - 1) str1.drew hcm.drew ho1 ne2 hst1 (by omega)) (by rw [Int.ofNat_sub (by omega)]; rfl) ?_
  rintro v w2 ⟨r2, st2, rfl, hr2, hst2, hc2, hb2⟩
  refine ⟨fun _ h => h.chg hc2 ne2, ?_⟩
  rw [List.set_set] at hb2
  have str2 := str1.drew.chg hc2 ne2
  have ho2 : (cs.set 3 (.int .u64 (st2 : Int)))[3]? = some (.int .u64 (st2 : Int)) := by rw [List.getElem?_set_self hol]
  obtain ⟨j, hj⟩ : ∃ j, j = (i + 1 + r2) % ps.length := ⟨_, rfl⟩
  have hjl : j < ps.length := by rw [hj]; exact Nat.mod_lt _ (by omega)
  have hje : ((i : Int) + 1 + (r2 : Int)) % (ps.length : Int) = (j : Int) := by rw [hj, Int.natCast_emod]; rfl
  repeat' (first | (refine k_rem rfl rfl (by omega) (by omega) ?_) | (refine k_pure rfl ?_) | (refine then_normal ?_) | (refine cw_seq ?_) | (refine cw_region rfl ?_) | (refine rr_nil ?_) | (refine k_addI rfl rfl (by omega) (by omega) ?_))
  rw [hje]
  skip
  refine k_call (choose_spec (n := 2) str2 hb2 ho2 ne2 hst2 (by omega)) rfl ?_
  rintro v w3 ⟨r3, st3, rfl, hr3, hst3, hc3, hb3⟩
  refine ⟨fun _ _ => trivial, ?_⟩
  rw [List.set_set] at hb3
  have str3 := str2.chg hc3 ne2
  have pool3 := ((pool.chg hc1 (by rintro _ ⟨⟩; exact ne3)).drew.chg hc2 (by rintro _ ⟨⟩; exact ne3)).chg hc3 (by rintro _ ⟨⟩; exact ne3)
  have F13 : Fr (One cb) w w3 := (((f1C hc1).trans ((Chg.refl cb w1).drew.fr rfl)).trans (f1C hc2)).trans (f1C hc3)
  have hx : ∀ q, q ∈ im → ¬ One cb q := fun q hq e => dis3 (by have : q = cb := e; rw [← this]; exact hq)
  have pls3 := pls.fr F13 hx
  have pd3 := pd.fr F13 fun ad e => hx _ (pdi ad e)
  obtain ⟨⟨ai, li, ci⟩, hdi⟩ : ∃ s, sds.getD i sd0 = s := ⟨_, rfl⟩
  obtain ⟨⟨aj, lj, cj⟩, hdj⟩ : ∃ s, sds.getD j sd0 = s := ⟨_, rfl⟩
  have si := pls3.sl i hi
  have sj := pls3.sl j hjl
  have ni := pls3.n i hi
  have nj := pls3.n j hjl
  rw [hdi] at si ni
  rw [hdj] at sj nj
  simp only at si sj ni nj
  replace ni := ni.symm
  replace nj := nj.symm
  subst ni
  subst nj
  have pi := grp.perm _ (mem i hi)
  have pj := grp.perm _ (mem j hjl)
  have hrg : ∀ x y : List Int, PermN n x → PermN n y → ∀ k, k < x.length → 0 ≤ x.getD k 0 ∧ x.getD k 0 < y.length := fun x y hx hy k hk => by have := hx.1.lt hk; rw [hx.2] at this; rw [hy.2]; exact this
  repeat' (first | (refine k_pure rfl ?_) | (refine then_normal ?_) | (refine rr_nil ?_) | (refine cw_cond_dec rfl (fun hc => ?_) (fun hc => ?_)))
  refine cw_draw (late := [21]) (plan := [(0, none), (1, none), (2, none), (3, none), (4, none), (5, none), (6, none), (7, none), (8, none), (9, none), (10, none), (11, none), (12, none), (13, none), (14, none), (15, none), (16, none), (17, none), (18, none), (19, some true), (20, none), (21, some false)]) (fun w' => Blk w' sb 136 (srcL (.slice (ba pa) ps.length pc) (.slice da n dc) cb 3) ∧ Sl w' (ba pa) (sds.map SD.val)) mixed (by kernel_rfl) ⟨str3.drew, pool3.sl.drew⟩ ?_
  repeat' (first | (refine k_loadC rfl (fun _ h => h.1) rfl ?_) | (refine k_indexN (j := i) rfl rfl ⟨_, _, rfl⟩ (by omega) ?_) | (refine k_indexN (j := j) rfl rfl ⟨_, _, rfl⟩ (by omega) ?_) | (refine k_loadSd (j := i) rfl (fun _ h => h.2) (by omega) hdi ?_) | (refine k_loadSd (j := j) rfl (fun _ h => h.2) (by omega) hdj ?_) | (refine k_pure rfl ?_) | (refine k_fieldAddr rfl ?_))
  refine k_call (times_spec (xs := ps.getD i []) (ys := ps.getD j []) si.drew sj.drew _ _ (hrg _ _ pi pj) (by rw [pi.2]; omega)) (by rw [pi.2, pj.2]; rfl) ?_
  rintro v w4 ⟨g4, rfl, hg4, hb4, hE4⟩
  refine ⟨fun _ h => ⟨h.1.ext hE4, h.2.ext hE4⟩, ?_⟩
  rw [mulP_length, pi.2]
  repeat' (first | (refine k_indexN (j := i) rfl rfl ⟨_, _, rfl⟩ (by omega) ?_) | (refine k_storeOwn (v := SD.val ⟨ba g4, n, n⟩) rfl rfl rfl (pool3.drew.ext hE4) (by simp; omega) (fun gx w5 hgx _ hc5 ho5 => ⟨fun h => (nomatch h), ?_⟩)) | (refine then_normal ?_) | (refine cw_seq ?_) | (refine rr_nil ?_))
  obtain ⟨q, hqe, hqg⟩ : ∃ q, q = mulP (ps.getD i []) (ps.getD j []) ∧ Gen n gens q := ⟨_, rfl, grp.mul _ _ (mem i (by omega)) (mem j (by omega))⟩
  rw [← hqe] at hb4
  rotate_left
  refine cw_draw (late := [21]) (plan := [(0, none), (1, none), (2, none), (3, none), (4, none), (5, none), (6, none), (7, none), (8, none), (9, none), (10, none), (11, none), (12, none), (13, none), (14, none), (15, none), (16, none), (17, none), (18, none), (19, some true), (20, none), (21, some false)]) (fun w' => Blk w' sb 136 (srcL (.slice (ba pa) ps.length pc) (.slice da n dc) cb 3) ∧ Sl w' (ba pa) (sds.map SD.val)) mixed (by kernel_rfl) ⟨str3.drew, pool3.sl.drew⟩ ?_
  repeat' (first | (refine k_loadC rfl (fun _ h => h.1) rfl ?_) | (refine k_indexN (j := i) rfl rfl ⟨_, _, rfl⟩ (by omega) ?_) | (refine k_indexN (j := j) rfl rfl ⟨_, _, rfl⟩ (by omega) ?_) | (refine k_loadSd (j := i) rfl (fun _ h => h.2) (by omega) hdi ?_) | (refine k_loadSd (j := j) rfl (fun _ h => h.2) (by omega) hdj ?_) | (refine k_pure rfl ?_) | (refine k_fieldAddr rfl ?_))
  refine k_call (times_spec (xs := ps.getD j []) (ys := ps.getD i []) sj.drew si.drew _ _ (hrg _ _ pj pi) (by rw [pj.2]; omega)) (by rw [pj.2, pi.2]; rfl) ?_
  rintro v w4 ⟨g4, rfl, hg4, hb4, hE4⟩
  refine ⟨fun _ h => ⟨h.1.ext hE4, h.2.ext hE4⟩, ?_⟩
  rw [mulP_length, pj.2]
  repeat' (first | (refine k_indexN (j := i) rfl rfl ⟨_, _, rfl⟩ (by omega) ?_) | (refine k_storeOwn (v := SD.val ⟨ba g4, n, n⟩) rfl rfl rfl (pool3.drew.ext hE4) (by simp; omega) (fun gx w5 hgx _ hc5 ho5 => ⟨fun h => (nomatch h), ?_⟩)) | (refine then_normal ?_) | (refine cw_seq ?_) | (refine rr_nil ?_))
  obtain ⟨q, hqe, hqg⟩ : ∃ q, q = mulP (ps.getD j []) (ps.getD i []) ∧ Gen n gens q := ⟨_, rfl, grp.mul _ _ (mem j (by omega)) (mem i (by omega))⟩
  rw [← hqe] at hb4
  · obtain rfl : pa = gx := by injection hgx with e; injection e
    rw [← List.map_set] at ho5
    have z3 := F13.size
    have pal : pa < w3.heap.size := (pool3.lo _ rfl).2
    have sbl : sb < w3.heap.size := str3.lt
    have cbl : cb < w3.heap.size := hb3.lt
    have hE34 : Ex w3 w4 := (Ex.refl w3).drew.trans hE4
    have z4 := hE34.size
    replace hg4 : w3.heap.size ≤ g4 := hg4
    have g4l := hb4.lt
    have z5 : w4.heap.size = w5.heap.size := hc5.size.symm
    have F35 : Fr (One pa) w3 w5 := hE34.fr.trans (f1C hc5)
    have hx2 : ∀ q, q ∈ im → ¬ One pa q := fun q hq e => dis2 (by have : q = pa := e; rw [← this]; exact hq)
    have str5 := Blk.f1 str3 F35 ne1
    have cb5 := Blk.f1 hb3 F35 (Ne.symm ne3)
    have b5 := hb4.chg hc5 (by omega)
    have pq := grp.perm _ hqg
    have ppr := grp.perm _ pm
    have pls5 := ((pls3.fr F35 hx2).mono (im' := g4 :: im) fun x hx => List.mem_cons_of_mem _ hx).setP hi (s := ⟨ba g4, n, n⟩) (p := q) b5.sl rfl (by rintro _ ⟨⟩; simp)
    have pd5 := pd3.fr F35 fun ad e => hx2 _ (pdi ad e)
    have hdi5 : (sds.set i ⟨ba g4, n, n⟩).getD i sd0 = ⟨ba g4, n, n⟩ := by rw [getD_set' (by omega), if_pos rfl]
    skip
    refine cw_draw (late := [15]) (plan := [(0, none), (1, none), (2, none), (3, none), (4, none), (5, none), (6, none), (7, none), (8, none), (9, none), (10, none), (11, none), (12, some true), (13, none), (14, none), (15, some false)]) (fun w' => Blk w' sb 136 (srcL (.slice (ba pa) ps.length pc) (.slice da n dc) cb 3) ∧ Sl w' (ba pa) ((sds.set i ⟨ba g4, n, n⟩).map SD.val)) mixed (by kernel_rfl) ⟨str5.drew, ho5.sl.drew⟩ ?_
    repeat' (first | (refine k_loadC rfl (fun _ h => h.1) rfl ?_) | (refine k_indexN (j := i) rfl rfl ⟨_, _, rfl⟩ (by omega) ?_) | (refine k_loadSd (j := i) rfl (fun _ h => h.2) (by rw [List.length_set]; omega) hdi5 ?_) | (refine k_pure rfl ?_) | (refine k_fieldAddr rfl ?_))
    refine k_call (times_spec (xs := pr) (ys := q) pd5.drew b5.sl.drew _ _ (hrg _ _ ppr pq) (by rw [ppr.2]; omega)) (by rw [ppr.2, pq.2]; rfl) ?_
    rintro v w6 ⟨g6, rfl, hg6, hb6, hE6⟩
    refine ⟨fun _ h => ⟨h.1.ext hE6, h.2.ext hE6⟩, ?_⟩
    rw [mulP_length, ppr.2]
    have hE56 : Ex w5 w6 := (Ex.refl w5).drew.trans hE6
    repeat' (first | (refine k_storeC rfl rfl rfl (str5.ext hE56) rfl (fun w7 hc7 hs7 => ⟨fun h => (nomatch h), ?_⟩)) | (refine k_pure rfl ?_) | (refine then_normal ?_) | (refine cw_seq ?_) | (refine cw_region rfl ?_) | (refine rr_nil ?_) | (refine k_fieldAddr rfl ?_))
    replace hg6 : w5.heap.size ≤ g6 := hg6
    have g6l := hb6.lt
    replace hc7 : Chg sb w6 w7 := hc7
    have b7 := hb6.chg hc7 (by omega)
    have hr7 := grp.mul _ _ pm hqg
    have pr7 := grp.perm _ hr7
    obtain ⟨r, hr⟩ : ∃ r, r = mulP pr q := ⟨_, rfl⟩
    rw [← hr] at b7 hr7 pr7
    repeat' (first | (refine k_loadC rfl hs7 rfl ?_))
    refine k_call (clone_spec (xs := r) (cap := n) b7.sl (by rw [pr7.2]; omega) (by rw [pr7.2]; omega)) (by rw [pr7.2]; rfl) ?_
    rintro v w8 ⟨g8, c8, rfl, hg8, ho8, hE8⟩
    refine ⟨fun _ _ => trivial, ?_⟩
    rw [pr7.2] at ho8 ⊢
    repeat' (first | (refine k_pure rfl ?_) | (refine then_normal ?_) | (refine rr_nil ?_) | (refine cw_ret ?_))
    have z56 := hE56.size
    have z67 : w6.heap.size = w7.heap.size := hc7.size.symm
    have z78 := hE8.size
    have F58 : Fr (One sb) w5 w8 := (hE56.fr.trans (f1C hc7)).trans hE8.fr
    have hx3 : ∀ q, q ∈ im → ¬ One sb q := fun q hq e => dis1 (by have : q = sb := e; rw [← this]; exact hq)
    have hx4 : ∀ q, q ∈ g4 :: im → ¬ One sb q := fun q hq e => by
      rcases List.mem_cons.1 hq with rfl | hq
      · have : q = sb := e; omega
      · exact hx3 q hq e
    have hmemps : ∀ k, k < (ps.set i q).length → Gen n gens ((ps.set i q).getD k []) := fun k hk => by
      rw [List.length_set] at hk
      rw [getD_set' hi]; split
      · exact hqg
      · exact mem k hk
    refine ret1 rfl (rt rfl) ⟨g8, c8, r, st3, ⟨sb, pa, pc, sds.set i ⟨ba g4, n, n⟩, ⟨ba g6, n, n⟩, g6 :: g4 :: im, ps.set i q, r⟩, rfl, by omega, ho8, hr7, hst3, Blk.f1 cb5 F58 (Ne.symm ne2), ⟨?_, ?_, ?_, b7.sl.ext hE8, by rintro _ ⟨⟩; simp, hmemps, hr7, gn, n1, ⟨ne1, ne2, ne3⟩, ?_, ?_, by simp only [List.length_set]; exact len⟩, ?_, ?_, rfl, rfl, by simp only [List.length_set], fun x hx => ?_⟩
    · have := hs7.ext hE8
      simp only [List.length_set]
      exact this
    · simp only [List.length_set]
      exact Own.f1 ho5 F58 (Ne.symm ne1)
    · exact (pls5.fr F58 hx4).mono fun x hx => List.mem_cons_of_mem _ hx
    · simp only [List.mem_cons, not_or]
      exact ⟨⟨by omega, by omega, dis1⟩, ⟨by omega, by omega, dis2⟩, ⟨by omega, by omega, dis3⟩⟩
    · intro x hx
      simp only [List.mem_cons] at hx
      rcases hx with rfl | rfl | hx
      · omega
      · omega
      · have := imlt x hx; omega
    · simp only [List.mem_cons, not_or]
      exact ⟨by omega, by omega, fun hx => by have := imlt _ hx; omega⟩
    · exact ((Fr.sub1 F13 (F := fun x => x = cb ∨ x = sb ∨ x = pa) (.inl rfl)).trans (Fr.sub1 F35 (F := fun x => x = cb ∨ x = sb ∨ x = pa) (.inr (.inr rfl)))).trans (Fr.sub1 F58 (F := fun x => x = cb ∨ x = sb ∨ x = pa) (.inr (.inl rfl)))
    · simp only [List.mem_cons] at hx
      rcases hx with rfl | rfl | hx
      · exact .inr (by omega)
      · exact .inr (by omega)
      · exact .inl hx
  · obtain rfl : pa = gx := by injection hgx with e; injection e
    rw [← List.map_set] at ho5
    have z3 := F13.size
    have pal : pa < w3.heap.size := (pool3.lo _ rfl).2
    have sbl : sb < w3.heap.size := str3.lt
    have cbl : cb < w3.heap.size := hb3.lt
    have hE34 : Ex w3 w4 := (Ex.refl w3).drew.trans hE4
    have z4 := hE34.size
    replace hg4 : w3.heap.size ≤ g4 := hg4
    have g4l := hb4.lt
    have z5 : w4.heap.size = w5.heap.size := hc5.size.symm
    have F35 : Fr (One pa) w3 w5 := hE34.fr.trans (f1C hc5)
    have hx2 : ∀ q, q ∈ im → ¬ One pa q := fun q hq e => dis2 (by have : q = pa := e; rw [← this]; exact hq)
    have str5 := Blk.f1 str3 F35 ne1
    have cb5 := Blk.f1 hb3 F35 (Ne.symm ne3)
    have b5 := hb4.chg hc5 (by omega)
    have pq := grp.perm _ hqg
    have ppr := grp.perm _ pm
    have pls5 := ((pls3.fr F35 hx2).mono (im' := g4 :: im) fun x hx => List.mem_cons_of_mem _ hx).setP hi (s := ⟨ba g4, n, n⟩) (p := q) b5.sl rfl (by rintro _ ⟨⟩; simp)
    have pd5 := pd3.fr F35 fun ad e => hx2 _ (pdi ad e)
    have hdi5 : (sds.set i ⟨ba g4, n, n⟩).getD i sd0 = ⟨ba g4, n, n⟩ := by rw [getD_set' (by omega), if_pos rfl]
    skip
    refine cw_draw (late := [15]) (plan := [(0, none), (1, none), (2, none), (3, none), (4, none), (5, none), (6, none), (7, none), (8, none), (9, none), (10, none), (11, none), (12, some true), (13, none), (14, none), (15, some false)]) (fun w' => Blk w' sb 136 (srcL (.slice (ba pa) ps.length pc) (.slice da n dc) cb 3) ∧ Sl w' (ba pa) ((sds.set i ⟨ba g4, n, n⟩).map SD.val)) mixed (by kernel_rfl) ⟨str5.drew, ho5.sl.drew⟩ ?_
    repeat' (first | (refine k_loadC rfl (fun _ h => h.1) rfl ?_) | (refine k_indexN (j := i) rfl rfl ⟨_, _, rfl⟩ (by omega) ?_) | (refine k_loadSd (j := i) rfl (fun _ h => h.2) (by rw [List.length_set]; omega) hdi5 ?_) | (refine k_pure rfl ?_) | (refine k_fieldAddr rfl ?_))
    refine k_call (times_spec (xs := pr) (ys := q) pd5.drew b5.sl.drew _ _ (hrg _ _ ppr pq) (by rw [ppr.2]; omega)) (by rw [ppr.2, pq.2]; rfl) ?_
    rintro v w6 ⟨g6, rfl, hg6, hb6, hE6⟩
    refine ⟨fun _ h => ⟨h.1.ext hE6, h.2.ext hE6⟩, ?_⟩
    rw [mulP_length, ppr.2]
    have hE56 : Ex w5 w6 := (Ex.refl w5).drew.trans hE6
    repeat' (first | (refine k_storeC rfl rfl rfl (str5.ext hE56) rfl (fun w7 hc7 hs7 => ⟨fun h => (nomatch h), ?_⟩)) | (refine k_pure rfl ?_) | (refine then_normal ?_) | (refine cw_seq ?_) | (refine cw_region rfl ?_) | (refine rr_nil ?_) | (refine k_fieldAddr rfl ?_))
    replace hg6 : w5.heap.size ≤ g6 := hg6
    have g6l := hb6.lt
    replace hc7 : Chg sb w6 w7 := hc7
    have b7 := hb6.chg hc7 (by omega)
    have hr7 := grp.mul _ _ pm hqg
    have pr7 := grp.perm _ hr7
    obtain ⟨r, hr⟩ : ∃ r, r = mulP pr q := ⟨_, rfl⟩
    rw [← hr] at b7 hr7 pr7
    repeat' (first | (refine k_loadC rfl hs7 rfl ?_))
    refine k_call (clone_spec (xs := r) (cap := n) b7.sl (by rw [pr7.2]; omega) (by rw [pr7.2]; omega)) (by rw [pr7.2]; rfl) ?_
    rintro v w8 ⟨g8, c8, rfl, hg8, ho8, hE8⟩
    refine ⟨fun _ _ => trivial, ?_⟩
    rw [pr7.2] at ho8 ⊢
    repeat' (first | (refine k_pure rfl ?_) | (refine then_normal ?_) | (refine rr_nil ?_) | (refine cw_ret ?_))
    have z56 := hE56.size
    have z67 : w6.heap.size = w7.heap.size := hc7.size.symm
    have z78 := hE8.size
    have F58 : Fr (One sb) w5 w8 := (hE56.fr.trans (f1C hc7)).trans hE8.fr
    have hx3 : ∀ q, q ∈ im → ¬ One sb q := fun q hq e => dis1 (by have : q = sb := e; rw [← this]; exact hq)
    have hx4 : ∀ q, q ∈ g4 :: im → ¬ One sb q := fun q hq e => by
      rcases List.mem_cons.1 hq with rfl | hq
      · have : q = sb := e; omega
      · exact hx3 q hq e
    have hmemps : ∀ k, k < (ps.set i q).length → Gen n gens ((ps.set i q).getD k []) := fun k hk => by
      rw [List.length_set] at hk
      rw [getD_set' hi]; split
      · exact hqg
      · exact mem k hk
    refine ret1 rfl (rt rfl) ⟨g8, c8, r, st3, ⟨sb, pa, pc, sds.set i ⟨ba g4, n, n⟩, ⟨ba g6, n, n⟩, g6 :: g4 :: im, ps.set i q, r⟩, rfl, by omega, ho8, hr7, hst3, Blk.f1 cb5 F58 (Ne.symm ne2), ⟨?_, ?_, ?_, b7.sl.ext hE8, by rintro _ ⟨⟩; simp, hmemps, hr7, gn, n1, ⟨ne1, ne2, ne3⟩, ?_, ?_, by simp only [List.length_set]; exact len⟩, ?_, ?_, rfl, rfl, by simp only [List.length_set], fun x hx => ?_⟩
    · have := hs7.ext hE8
      simp only [List.length_set]
      exact this
    · simp only [List.length_set]
      exact Own.f1 ho5 F58 (Ne.symm ne1)
    · exact (pls5.fr F58 hx4).mono fun x hx => List.mem_cons_of_mem _ hx
    · simp only [List.mem_cons, not_or]
      exact ⟨⟨by omega, by omega, dis1⟩, ⟨by omega, by omega, dis2⟩, ⟨by omega, by omega, dis3⟩⟩
    · intro x hx
      simp only [List.mem_cons] at hx
      rcases hx with rfl | rfl | hx
      · omega
      · omega
      · have := imlt x hx; omega
    · simp only [List.mem_cons, not_or]
      exact ⟨by omega, by omega, fun hx => by have := imlt _ hx; omega⟩
    · exact ((Fr.sub1 F13 (F := fun x => x = cb ∨ x = sb ∨ x = pa) (.inl rfl)).trans (Fr.sub1 F35 (F := fun x => x = cb ∨ x = sb ∨ x = pa) (.inr (.inr rfl)))).trans (Fr.sub1 F58 (F := fun x => x = cb ∨ x = sb ∨ x = pa) (.inr (.inl rfl)))
    · simp only [List.mem_cons] at hx
      rcases hx with rfl | rfl | hx
      · exact .inr (by omega)
      · exact .inr (by omega)
      · exact .inl hx
end Go.Proofs.YthhfjagnmhhapaaGreat

namespace Go.Proofs.YthhfjagnmhhapaaGreat
open Go.W Go.PM
theorem newSrc_spec {w : World} {n cb Tc st : Nat} {gens : List (List Int)} {ga : Option Addr} {gc : Nat} {gs : List SD} {im : List Nat} {cs : List Value} (n1 : 1 ≤ n ∧ n ≤ 512) (gn : GensN n gens) (hga : Sl w ga (gs.map SD.val)) (hgs : PsAt w n im gs gens)
    (_hgim : ∀ ad, ga = some ad → ad.block ∈ im) (himlt : ∀ g, g ∈ im → g < w.heap.size) (hg0 : 1 ≤ gens.length) (hgl : gens.length ≤ 100000000000) (hcm : cb ∉ im) (hcb0 : Blk w cb Tc cs) (ho : cs[3]? = some (.int .u64 (st : Int))) (hst : st < 18446744073709551616) :
    CallsR Tryz.prog 68 #[.slice ga gens.length gc, .pointer (some ⟨cb, 3, none⟩)] w fun v w' => ∃ (s : SS) (st' : Nat), v = .pointer (some ⟨s.sb, 0, none⟩) ∧ SrcAt w' n cb s gens ∧ st' < 18446744073709551616 ∧ Blk w' cb Tc (cs.set 3 (.int .u64 (st' : Int))) ∧ Fr (One cb) w w' ∧ w.heap.size ≤ s.sb ∧ w.heap.size ≤ s.pa ∧ (∀ q, q ∈ s.im → q ∈ im ∨ w.heap.size ≤ q) := by
  refine callsR_of (args := [_, _]) Tryz.func68 rfl rfl ?_
  have hgl' := hgs.len
  obtain ⟨⟨da, dl, dc⟩, hd⟩ : ∃ s, gs.getD 0 sd0 = s := ⟨_, rfl⟩
  have hds := hgs.sl 0 (by omega)
  have hdn := hgs.n 0 (by omega)
  have hdi := hgs.im 0 (by omega)
  rw [hd] at hds hdn hdi
  simp only at hds hdn hdi
  replace hdn := hdn.symm
  subst hdn
  obtain ⟨M, hM⟩ : ∃ M : Nat, max 10 (gens.length : Int) = (M : Int) := ⟨(max 10 (gens.length : Int)).toNat, by omega⟩
  have hM2 : 10 ≤ M ∧ gens.length ≤ M ∧ M ≤ 100000000010 := by omega
  repeat' (first | (refine k_indexN (j := 0) rfl rfl (hga.plain (by simp; omega)) (by omega) ?_) | (refine k_loadSd (j := 0) rfl hga (by omega) hd ?_) | (refine k_build (cs := srcL (.slice none 0 0) (.slice da n dc) cb 3) rfl ?_) | (refine k_boxA rfl (fun sb w1 hn1 => ⟨fun _ _ => trivial, ?_⟩)) | (refine k_max rfl rfl ?_) | (refine k_pure rfl ?_) | (refine then_normal ?_) | (refine cw_seq ?_) | (refine cw_region rfl ?_) | (refine rr_nil ?_) | (refine k_len rfl ?_) | (refine cw_block ?_))
  rw [hM]
  have z1 := hn1.lo
  have z1' := hn1.hi
  refine cw_loop (ι := Nat × Option Addr × Nat) [6, 16, 17, 18, 19, 20, 21, 22, 23, 24, 25, 26, 27, 28, 29, 30, 31, 32, 33, 34, 35] (fun s => [(16, .int .i64 (s.1 : Int))]) (fun s w' => s.1 ≤ M ∧ Ex w w' ∧ Blk w' sb 136 (srcL (.slice s.2.1 s.1 s.2.2) (.slice da n dc) cb 3) ∧ Own w' w.heap.size 55 1 s.2.1 s.1 s.2.2 (((List.range s.1).map fun i => gs.getD (i % gens.length) sd0).map SD.val) ∧ ∀ ad, s.2.1 = some ad → ad.block ≠ sb) (fun s => M - s.1)
    (0, none, 0) ⟨rfl, trivial⟩ ⟨Nat.zero_le _, hn1.ex, hn1.blk, Own.nil _ _ _ _, by rintro _ ⟨⟩⟩ ?_
  rintro ⟨k, a, c⟩ ξ w2 ⟨hk, hE2, hs2, ho2, hne2⟩
  simp only at hk hs2 ho2 hne2
  show CW _ _ _ _ (over [(16, .int .i64 (k : Int))] _) w2
  repeat' (first | (refine k_pure rfl ?_) | (refine then_normal ?_) | (refine cw_seq ?_) | (refine cw_region rfl ?_) | (refine rr_nil ?_) | (refine k_fieldAddr rfl ?_) | (refine cw_cond_dec rfl (fun hc => ?_) (fun hc => ?_)) | (refine cw_block ?_) | (refine cw_exit ?_) | (refine then_exit ?_) | (refine in_exit ?_) | (refine cw_skip ?_))
  · have hkM : k < M := by omega
    obtain ⟨j, hj⟩ : ∃ j, j = k % gens.length := ⟨_, rfl⟩
    have hjl : j < gens.length := by rw [hj]; exact Nat.mod_lt _ (by omega)
    have hje : (k : Int) % (gens.length : Int) = (j : Int) := by rw [hj, Int.natCast_emod]
    obtain ⟨⟨ea, el, ec⟩, he⟩ : ∃ s, gs.getD j sd0 = s := ⟨_, rfl⟩
    refine cw_draw (late := [16]) (plan := [(0, none), (1, none), (2, none), (3, none), (4, none), (5, none), (6, none), (7, none), (8, none), (9, none), (10, none), (11, none), (12, some true), (13, some true), (14, none), (15, none), (16, some false)]) (fun w' => Blk w' sb 136 (srcL (.slice a k c) (.slice da n dc) cb 3) ∧ Sl w' ga (gs.map SD.val)) mixed (by kernel_rfl) ⟨hs2.drew, (hga.ext hE2).drew⟩ ?_
    repeat' (first | (refine k_loadC rfl (fun _ h => h.1) rfl ?_) | (refine k_rem rfl rfl (by omega) (by omega) ?_) | (refine k_indexN (j := j) rfl (congrArg _ hje) (hga.plain (by simp; omega)) (by omega) ?_) | (refine k_loadSd (j := j) rfl (fun _ h => h.2) (by omega) he ?_) | (refine k_pure rfl ?_) | (refine k_len rfl ?_) | (refine k_fieldAddr rfl ?_))
    refine k_lit1 (v := .slice ea el ec) rfl rfl (fun lb w3 hn3 => ⟨fun _ h => ⟨h.1.ext hn3.ex, h.2.ext hn3.ex⟩, ?_⟩)
    have hE3 : Ex w w3 := hE2.drew.trans hn3.ex
    have ho3 := ho2.drew.ext hn3.ex
    have hs3 := hs2.drew.ext hn3.ex
    have hown : ∀ q, (Value.slice a k c).ownBlock = some q → w.heap.size ≤ q ∧ q ≠ sb := fun q e => by
      cases a with
      | none => simp [Value.ownBlock] at e
      | some ad =>
        simp [Value.ownBlock] at e
        rw [← e]; exact ⟨(ho2.lo ad rfl).1, hne2 ad rfl⟩
    refine k_append (z := .slice none 0 0) (s := 1) (c := 1) (m := 1) (lo := w.heap.size) (news := [.slice ea el ec]) rfl rfl rfl rfl ho3 hn3.blk.sl ⟨_, _, rfl⟩ rfl rfl (by omega) (by omega) hE3.size (fun a4 c4 w4 ho4 hg4 hA4 => ⟨fun _ h => ⟨h.1.fr (grown_fr hg4 hown) (fun h => h.2 rfl), h.2.fr (grown_fr hg4 hown) (fun ad e h => by have := hga.lt (by simp; omega) ad e; omega)⟩, ?_⟩)
    have f4 := grown_fr hg4 hown
    repeat' (first | (refine k_storeC rfl rfl rfl (hs3.fr f4 (fun h => h.2 rfl)) rfl (fun w5 hc5 hb5 => ⟨fun h => (nomatch h), ?_⟩)) | (refine k_pure rfl ?_) | (refine then_normal ?_) | (refine cw_region rfl ?_) | (refine rr_nil ?_) | (refine k_addI rfl rfl (by omega) (by omega) ?_) | (refine k_fieldAddr rfl ?_) | (refine in_normal ?_))
    obtain ⟨b4, rfl⟩ := Own.ba ho4
    have z3 := hn3.ex.size
    have z23 := hE2.size
    have z0 : w2.heap.size ≤ w3.heap.size := z3
    have hb4 : b4 ≠ sb := by
      rcases hA4 with e | e
      · exact hne2 _ e.symm
      · have := e _ rfl; have := hs2.lt; simp only at *; omega
    have hE4 : Ex w w4 := Fr.ex hE3 f4 (fun q h => h.1)
    refine ⟨⟨(k + 1, ba b4, c4), ⟨by simp only; omega, hE4.chg hc5 z1, hb5, ?_, by rintro _ ⟨⟩; exact hb4⟩, by simp only; omega, rfl, trivial⟩, (by (repeat (first | exact agree_mask _ _ _ | refine agree_upd rfl ?_ | refine agree_updO rfl ?_ | refine agree_overIn rfl ?_ | refine agree_maskIn rfl ?_)))⟩
    have := ho4.chg hc5 (by rintro _ ⟨⟩; exact hb4)
    simp only [List.range_succ, List.map_append, List.map_cons, List.map_nil, ← hj, he]
    exact this
  · obtain rfl : k = M := by omega
    obtain ⟨pa, rfl⟩ := ho2.baPos (by omega)
    have hpa := (ho2.lo _ rfl).1
    have hpne := hne2 _ rfl
    simp only at hpa hpne
    have cbl := hcb0.lt
    obtain ⟨sds, hsds⟩ : ∃ l, l = (List.range k).map fun i => gs.getD (i % gens.length) sd0 := ⟨_, rfl⟩
    obtain ⟨ps, hps⟩ : ∃ l, l = (List.range k).map fun i => gens.getD (i % gens.length) [] := ⟨_, rfl⟩
    have hpsl : ps.length = k := by rw [hps]; simp
    have hsdl : sds.length = k := by rw [hsds]; simp
    have hgetS : ∀ i, i < k → sds.getD i sd0 = gs.getD (i % gens.length) sd0 := fun i hi => by rw [hsds, List.getD_eq_getElem?_getD, List.getElem?_map, List.getElem?_range hi]; rfl
    have hgetP : ∀ i, i < k → ps.getD i [] = gens.getD (i % gens.length) [] := fun i hi => by rw [hps, List.getD_eq_getElem?_getD, List.getElem?_map, List.getElem?_range hi]; rfl
    have hmod : ∀ i, i % gens.length < gens.length := fun i => Nat.mod_lt _ (by omega)
    rw [← hsds] at ho2
    have hS0 : SrcAt w2 n cb ⟨sb, pa, c, sds, ⟨da, n, dc⟩, im, ps, gens.getD 0 []⟩ gens := by
      have hg2 := hgs.ext hE2
      refine ⟨?_, ?_, ⟨by rw [hsdl, hpsl], fun i hi => ?_, fun i hi => ?_, fun i hi => ?_⟩, hds.ext hE2, hdi, fun i hi => ?_, gen_self gn (getD_mem (by omega)), gn, n1, ⟨Ne.symm hpne, by simp only; omega, by simp only; omega⟩, ⟨fun h => ?_, fun h => ?_, hcm⟩, fun q hq => ?_, ?_⟩
      · simp only [hpsl]; exact hs2
      · simp only [hpsl]; exact ho2.mono (Nat.zero_le _)
      · simp only [hpsl] at hi ⊢; rw [hgetS i hi, hgetP i hi]; exact hg2.sl _ (hmod i)
      · simp only [hpsl] at hi ⊢; rw [hgetS i hi]; exact hg2.n _ (hmod i)
      · simp only [hpsl] at hi ⊢; rw [hgetS i hi]; exact hg2.im _ (hmod i)
      · simp only [hpsl] at hi ⊢; rw [hgetP i hi]; exact gen_self gn (getD_mem (hmod i))
      · have := himlt _ h; simp only at this; omega
      · have := himlt _ h; simp only at this; omega
      · have := himlt _ hq; have := hE2.size; simp only at *; omega
      · simp only [hpsl]; omega
    have hc2 := hcb0.ext hE2
    have hol : 3 < cs.length := (List.getElem?_eq_some_iff.1 ho).1
    have hc2' : Blk w2 cb Tc (cs.set 3 (.int .u64 (st : Int))) := by
      have : cs.set 3 (.int .u64 (st : Int)) = cs := by
        apply List.ext_getElem?; intro i
        rw [List.getElem?_set]
        by_cases e : 3 = i
        · subst e; rw [if_pos rfl, if_pos hol, ho]
        · rw [if_neg e]
      rw [this]; exact hc2
    repeat' (first | (refine k_loadC rfl hs2 rfl ?_) | (refine k_mulI rfl rfl (by omega) (by omega) ?_) | (refine k_pure rfl ?_) | (refine then_normal ?_) | (refine rr_nil ?_) | (refine k_len rfl ?_) | (refine k_addI rfl rfl (by omega) (by omega) ?_) | (refine cw_block ?_))
    refine cw_loop (ι := Nat × SS × Nat) [43, 44, 45, 46, 47] (fun s => [(43, .int .i64 (s.1 : Int))]) (fun s w' => SrcAt w' n cb s.2.1 gens ∧ s.2.2 < 18446744073709551616 ∧ Blk w' cb Tc (cs.set 3 (.int .u64 (s.2.2 : Int))) ∧ Fr (One cb) w w' ∧ s.2.1.sb = sb ∧ s.2.1.pa = pa ∧ (∀ q, q ∈ s.2.1.im → q ∈ im ∨ w.heap.size ≤ q)) (fun s => 50 + 2 * k - s.1)
      (0, ⟨sb, pa, c, sds, ⟨da, n, dc⟩, im, ps, gens.getD 0 []⟩, st) ⟨rfl, trivial⟩ ⟨hS0, hst, hc2', hE2.fr, rfl, rfl, fun q hq => .inl hq⟩ ?_
    rintro ⟨i, s, st2⟩ ξ2 w3 ⟨hS, hst2, hb3, hf3, hsb, hpa', him⟩
    simp only at hS hst2 hb3 hsb hpa' him
    show CW _ _ _ _ (over [(43, .int .i64 (i : Int))] _) w3
    repeat' (first | (refine k_pure rfl ?_) | (refine then_normal ?_) | (refine cw_seq ?_) | (refine cw_region rfl ?_) | (refine rr_nil ?_) | (refine cw_cond_dec rfl (fun hc => ?_) (fun hc => ?_)) | (refine cw_block ?_) | (refine cw_exit ?_) | (refine then_exit ?_) | (refine in_exit ?_) | (refine cw_ret ?_) | (refine cw_skip ?_))
    · refine k_call (srcNext_spec hS hb3 (by rw [List.getElem?_set_self hol]) hst2) (by rw [hsb]; rfl) ?_
      rintro v w4 ⟨g, c4, p, st4, s4, rfl, hg, _, _, hst4, hb4, hS4, _, hf4, hsb4, hpa4, _, him4⟩
      refine ⟨fun _ _ => trivial, ?_⟩
      repeat' (first | (refine k_pure rfl ?_) | (refine then_normal ?_) | (refine cw_region rfl ?_) | (refine rr_nil ?_) | (refine k_addI rfl rfl (by omega) (by omega) ?_) | (refine in_normal ?_))
      rw [List.set_set] at hb4
      have z3 := hf3.size
      refine ⟨⟨(i + 1, s4, st4), ⟨hS4, hst4, hb4, hf3.then hf4 (fun q hq h => ?_), by rw [hsb4, hsb], by rw [hpa4, hpa'], fun q hq => ?_⟩, by simp only; omega, rfl, trivial⟩, (by (repeat (first | exact agree_mask _ _ _ | refine agree_upd rfl ?_ | refine agree_updO rfl ?_ | refine agree_overIn rfl ?_ | refine agree_maskIn rfl ?_)))⟩
      · rcases h with h | h | h
        · exact h
        · omega
        · omega
      · rcases him4 q hq with h | h
        · exact him q h
        · exact .inr (by omega)
    · refine ret1 rfl (rt rfl) ⟨s, st2, by rw [hsb]; rfl, hS, hst2, hb3, hf3, by omega, by omega, him⟩
end Go.Proofs.YthhfjagnmhhapaaGreat

/- Chains grow: plain laws for what the program does with them. -/
namespace Go.PM
theorem grp_head {n : Nat} {ls ls' : List Lv} (h : 0 < ls.length) (e : ls'.take 1 = ls.take 1) : grpOf n ls' = grpOf n ls := by
  cases ls with
  | nil => simp at h
  | cons l ls =>
    cases ls' with
    | nil => simp at e
    | cons l' ls' => simp at e; rw [e]; rfl
/-- levels behind level i grow by the remainder r -/
theorem ins_at {n : Nat} {r : List Int} {d : Nat} : ∀ (i : Nat) (ls ls' : List Lv) (l : Lv), ls[i]? = some l → Links n ls → ls'.take (i + 1) = ls.take (i + 1) → Ins n r d (ls.drop (i + 1)) (ls'.drop (i + 1)) → PermN n r → FixTo (ls.drop (i + 1)) d r →
    (∀ l, (ls.drop (i + 1))[d]? = some l → ap r l.pt ∉ l.orb) → Gen n l.gens r → ap r l.pt = l.pt → Links n ls' ∧ prodL ls < prodL ls'
  | _, [], _, l, h, _, _, _, _, _, _, _, _ => by simp at h
  | _, _ :: _, [], _, _, _, h, _, _, _, _, _, _ => by simp at h
  | 0, l :: ls, l' :: ls', l0, h0, hL, ht, hi, pr, hf, ho, hg, hp => by
    simp at h0 ht
    subst h0
    subst ht
    simp only [Nat.zero_add, List.drop_succ_cons, List.drop_zero] at hi hf ho
    obtain ⟨h1, h2, h3, h4⟩ := ins_links hi hL.tail pr hf
    have hpr := ins_prod hi hL.tail ho
    refine ⟨⟨hL.1, fun p hp' => ?_, fun a ha => ?_, h1⟩, ?_⟩
    · exact h4 (Stab (Gen n l'.gens) l'.pt) (stab_grp hL.1.grp hL.1.pt) (fun q hq => hL.2.1 q hq) ⟨hg, hp⟩ p hp'
    · have := hL.2.2.1 a ha
      exact ⟨this.1, fun k hk => h2 _ (this.2 k hk)⟩
    · exact Nat.mul_lt_mul_of_pos_left hpr hL.1.pos
  | i + 1, l :: ls, l' :: ls', l0, h0, hL, ht, hi, pr, hf, ho, hg, hp => by
    simp only [List.getElem?_cons_succ] at h0
    simp only [List.take_succ_cons, List.cons.injEq] at ht
    obtain ⟨rfl, ht⟩ := ht
    simp only [List.drop_succ_cons] at hi hf ho
    obtain ⟨h1, h2⟩ := ins_at i ls ls' l0 h0 hL.tail ht hi pr hf ho hg hp
    have hpos : 0 < ls.length := by have := (List.getElem?_eq_some_iff.1 h0).1; omega
    have e : grpOf n ls' = grpOf n ls := by
      refine grp_head hpos ?_
      have := congrArg (List.take 1) ht
      rw [List.take_take, List.take_take] at this
      simpa [Nat.min_eq_left (show 1 ≤ i + 1 by omega)] using this
    refine ⟨⟨hL.1, fun p hp' => hL.2.1 p (by rw [← e]; exact hp'), fun a ha => ?_, h1⟩, Nat.mul_lt_mul_of_pos_left h2 hL.1.pos⟩
    have := hL.2.2.1 a ha
    exact ⟨this.1, fun k hk => by rw [e]; exact this.2 k hk⟩
theorem Links.drop {n : Nat} : ∀ {ls : List Lv} (i : Nat), Links n ls → Links n (ls.drop i)
  | _, 0, h => h
  | [], _ + 1, h => h
  | _ :: _, i + 1, h => by rw [List.drop_succ_cons]; exact Links.drop i h.tail
theorem Links.ok {n : Nat} : ∀ {ls : List Lv} {i : Nat} {l : Lv}, Links n ls → ls[i]? = some l → LvOK n l
  | [], _, _, _, h => by simp at h
  | _ :: _, 0, _, hL, h => by simp at h; subst h; exact hL.1
  | _ :: _, i + 1, _, hL, h => by simp at h; exact Links.ok hL.tail h
/-- one more level at the end -/
theorem links_snoc {n : Nat} : ∀ {ls : List Lv} {l : Lv}, Links n ls → LvOK n l → (∀ a, l.done.getD a 0 = 0) → (∀ z, ls[ls.length - 1]? = some z → (∀ g ∈ l.gens, Gen n z.gens g ∧ ap g z.pt = z.pt) ∧ ∀ a, z.done.getD a 0 = 0) → Links n (ls ++ [l]) ∧ prodL (ls ++ [l]) = prodL ls * l.orb.length
  | [], l, h, ok, hd, _ => ⟨⟨ok, fun p hp => by
      have hp : p = idList n := hp
      subst hp
      exact ⟨ok.grp.one, ap_id ok.pt⟩, fun a _ => ⟨by rw [hd]; omega, fun k hk => by rw [hd] at hk; omega⟩, h⟩, by simp [prodL]⟩
  | [z], l, h, ok, hd, hz => by
    obtain ⟨h1, h2⟩ := hz z rfl
    refine ⟨⟨h.1, fun p hp => ?_, fun a _ => ⟨by rw [h2]; omega, fun k hk => by rw [h2] at hk; omega⟩, (links_snoc (ls := []) h.1.n1 ok hd (fun _ h => by simp at h)).1⟩, by simp [prodL]⟩
    exact gen_le (stab_grp h.1.grp h.1.pt) h1 hp
  | z :: y :: ls, l, h, ok, hd, hz => by
    obtain ⟨h1, h2⟩ := links_snoc (ls := y :: ls) h.tail ok hd (fun x hx => hz x (by simpa using hx))
    refine ⟨⟨h.1, h.2.1, h.2.2.1, h1⟩, ?_⟩
    show z.orb.length * prodL (y :: ls ++ [l]) = z.orb.length * prodL (y :: ls) * l.orb.length
    rw [h2, Nat.mul_assoc]
/-- what a remainder of an element of the group of level i is -/
theorem rem_facts {n : Nat} {l : Lv} {ls : List Lv} (h : Links n (l :: ls)) {p : List Int} (hp : Gen n l.gens p) :
    let r := (siftL (l :: ls) p).1
    let d := (siftL (l :: ls) p).2
    PermN n r ∧ 1 ≤ d ∧ d ≤ ls.length + 1 ∧ FixTo ls (d - 1) r ∧ (∀ z, ls[d - 1]? = some z → ap r z.pt ∉ z.orb) ∧ Gen n l.gens r ∧ ap r l.pt = l.pt := by
  intro r d
  have hm : ap p l.pt ∈ l.orb := (h.1.mem' _).2 ⟨p, hp, rfl⟩
  have hu := h.1.to_in hm
  have hq := h.1.grp.mul _ _ hp hu
  have pq := h.1.grp.perm _ hq
  have e : siftL (l :: ls) p = ((siftL ls (mulP p (l.to (ap p l.pt)))).1, (siftL ls (mulP p (l.to (ap p l.pt)))).2 + 1) := by rw [siftL, if_pos hm]
  obtain ⟨h1, h2, ⟨u, hu', e'⟩, h4, h5⟩ := sift_spec h.tail pq
  have hr : r = (siftL ls (mulP p (l.to (ap p l.pt)))).1 := by show (siftL (l :: ls) p).1 = _; rw [e]
  have hd : d = (siftL ls (mulP p (l.to (ap p l.pt)))).2 + 1 := by show (siftL (l :: ls) p).2 = _; rw [e]
  have hd' : d - 1 = (siftL ls (mulP p (l.to (ap p l.pt)))).2 := by omega
  rw [hr, hd']
  refine ⟨h1, by omega, by omega, h4, h5, ?_, ?_⟩
  · rw [e']; exact h.1.grp.mul _ _ hq (h.2.1 u hu').1
  · rw [e', ap_mul pq h.1.pt, ap_mul (h.1.grp.perm _ hp) h.1.pt, h.1.to_ap hm, (h.2.1 u hu').2]
/-- a group of at most n points has at most n! elements -/
theorem card_fac {n : Nat} {H : List Int → Prop} (hH : Grp n H) {k : Nat} (hk : Card H k) : k ≤ fac n := by
  obtain ⟨m, hm⟩ := (keep_grp hH.n1 (fun _ => 0) 0).card
  have h1 := keep_le hH.n1 (c := fun _ => 0) (fun x hx => by have := hH.n1; omega) hm
  have h2 : k ≤ m := hk.le hm fun p hp => ⟨hH.perm p hp, fun _ _ => rfl, fun x hx => absurd hx (by omega)⟩
  have h3 : prodR (fun r => fac (cntF (fun _ => 0) r 0 n)) n = fac n := by
    have hc : ∀ d j, cntF (fun _ => 0) 0 j d = d := by
      intro d; induction d with
      | zero => intro j; rfl
      | succ d ih => intro j; rw [cntF, if_pos rfl, ih]; omega
    have hc' : ∀ r, r ≠ 0 → ∀ d j, cntF (fun _ => 0) r j d = 0 := by
      intro r hr d; induction d with
      | zero => intro j; rfl
      | succ d ih => intro j; rw [cntF, if_neg (fun e => hr e.symm), ih]
    have := prodR_at (f := fun r => fac (cntF (fun _ => 0) r 0 n)) (g := fun _ => 1) (t := fac n) (r0 := 0) n (by have := hH.n1; omega) (fun r hr => by simp only [hc' r hr]; rfl) (by simp only [hc, Nat.mul_one])
    rw [this, prodR_one n (fun _ _ => rfl), Nat.mul_one]
  omega
theorem fac_mono : ∀ {a b : Nat}, a ≤ b → fac a ≤ fac b := by
  intro a b h
  induction b with
  | zero => obtain rfl : a = 0 := by omega
            exact Nat.le_refl _
  | succ b ih =>
    by_cases e : a = b + 1
    · subst e; exact Nat.le_refl _
    · have := ih (by omega)
      have h2 : fac b ≤ fac (b + 1) := by rw [fac]; exact Nat.le_mul_of_pos_left _ (by omega)
      omega
theorem prod_le {n : Nat} {ls : List Lv} (h : Links n ls) (hn : n ≤ 11) : prodL ls ≤ 39916800 := by
  obtain ⟨k, hk⟩ := h.grp.card
  have h1 := links_le h k hk
  have h2 := card_fac h.grp hk
  have h3 : fac n ≤ fac 11 := fac_mono hn
  have h4 : fac 11 = 39916800 := by decide
  omega
end Go.PM

namespace Go.Proofs.YthhfjagnmhhapaaGreat
open Go.W Go.PM
/-- a chain of the group G whose first points are those of base -/
structure Gd (n : Nat) (G : List Int → Prop) (base : List Int) (N0 : Nat) (ls : List Lv) : Prop where
  links : Links n ls
  grp : ∀ p, grpOf n ls p ↔ G p
  gl : ∀ i, i < ls.length → (ls.getD i lv0).gens.length ≤ N0 + prodL ls
  ll : ls.length ≤ N0 + prodL ls
  bl : base.length ≤ ls.length
  pts : ∀ i, i < base.length → (ls.getD i lv0).pt = base.getD i 0
  two : ∀ i, base.length ≤ i → i < ls.length → 2 ≤ (ls.getD i lv0).orb.length
theorem getD_some {ls : List Lv} {i : Nat} (h : i < ls.length) : ls[i]? = some (ls.getD i lv0) := by rw [List.getElem?_eq_getElem h, List.getD_eq_getElem?_getD, List.getElem?_eq_getElem h]; rfl
theorem Gd.ok {n : Nat} {G : List Int → Prop} {base : List Int} {N0 : Nat} {ls : List Lv} (h : Gd n G base N0 ls) {i : Nat} (hi : i < ls.length) : LvOK n (ls.getD i lv0) := h.links.ok (getD_some hi)
theorem Gd.ins {n : Nat} {G : List Int → Prop} {base : List Int} {N0 : Nat} {ls ls' : List Lv} (h : Gd n G base N0 ls) {w w' : World} {c c' : CH} {p : List Int} {pb i : Nat} (hi : i < ls.length) (hp : Gen n (ls.getD i lv0).gens p)
    (hJ : InsJ w n c ls (siftL (ls.drop i) p).1 pb (i + 1) (i + (siftL (ls.drop i) p).2 + 1) c' ls' w') : Gd n G base N0 ls' ∧ prodL ls < prodL ls' ∧ ls'.take (i + 1) = ls.take (i + 1) := by
  have hd := drop_cons hi
  have hLd := h.links.drop i
  rw [hd] at hLd hJ
  obtain ⟨h1, h2, h3, h4, h5, h6, h7⟩ := rem_facts hLd hp
  generalize hr : (siftL (ls.getD i lv0 :: ls.drop (i + 1)) p).1 = r at *
  generalize hdd : (siftL (ls.getD i lv0 :: ls.drop (i + 1)) p).2 = d at *
  rw [List.length_drop] at h3
  obtain ⟨hI, ht⟩ := hJ.ins (by omega) (by omega)
  rw [show i + d - (i + 1) = d - 1 by omega] at hI
  obtain ⟨hL', hpr⟩ := ins_at i ls ls' _ (getD_some hi) h.links ht hI h1 h4 h5 h6 h7
  have hlen := hJ.len
  have hle : ls.length ≤ ls'.length ∧ ls'.length ≤ ls.length + 1 := by rw [hlen]; split <;> omega
  have hone : ls'.take 1 = ls.take 1 := by
    have := congrArg (List.take 1) ht
    rw [List.take_take, List.take_take] at this
    simpa [Nat.min_eq_left (show 1 ≤ i + 1 by omega)] using this
  have hcase : ∀ j, j < ls'.length → (j < ls.length ∧ LvExt n r (ls.getD j lv0) (ls'.getD j lv0)) ∨ (j < ls.length ∧ ls'.getD j lv0 = ls.getD j lv0) ∨ (j = ls.length ∧ LvNew n r (ls'.getD j lv0)) := fun j hj => by
    by_cases hjl : j < ls.length
    · by_cases h1 : i + 1 ≤ j ∧ j < i + d + 1
      · exact .inl ⟨hjl, hJ.ext j h1.1 h1.2 hjl⟩
      · exact .inr (.inl ⟨hjl, hJ.same j (by omega)⟩)
    · obtain rfl : j = ls.length := by omega
      exact .inr (.inr ⟨rfl, hJ.new (by rw [hlen] at hj; split at hj <;> omega)⟩)
  refine ⟨⟨hL', fun p => by rw [grp_head (by omega) hone]; exact h.grp p, fun j hj => ?_, ?_, by have := h.bl; omega, fun j hj => ?_, fun j hb hj => ?_⟩, hpr, ht⟩
  · rcases hcase j hj with ⟨hjl, he⟩ | ⟨hjl, he⟩ | ⟨_, he⟩
    · have := h.gl j hjl; rw [he.gens, List.length_append, List.length_singleton]; omega
    · rw [he]; have := h.gl j hjl; omega
    · rw [he.gens, List.length_singleton]; omega
  · have := h.ll; omega
  · have hjl : j < ls.length := by have := h.bl; omega
    rcases hcase j (by omega) with ⟨_, he⟩ | ⟨_, he⟩ | ⟨e, _⟩
    · rw [he.pt]; exact h.pts j hj
    · rw [he]; exact h.pts j hj
    · omega
  · rcases hcase j hj with ⟨hjl, he⟩ | ⟨hjl, he⟩ | ⟨_, he⟩
    · have := h.two j hb hjl; have := he.le; omega
    · rw [he]; exact h.two j hb hjl
    · generalize ls'.getD j lv0 = z at he ⊢
      have hm : ap r z.pt ∈ z.orb := (he.ok.mem' _).2 ⟨r, gen_self he.ok.gens (by rw [he.gens]; simp), rfl⟩
      exact nodup_le (l := [ap r z.pt, z.pt]) (m := z.orb) (by simp [he.pt]) (by simp [hm, he.ok.pt_mem])
theorem ChAt.setSt {F : Nat → Prop} {w w' : World} {n st' : Nat} {c : CH} {ls : List Lv} (hC : ChAt w n c ls) (f : Fr F w w') (hF : ∀ q, F q → q = c.cb ∨ (¬ c.foot ls.length q ∧ ¬ c.imm ls.length q))
    (hb : Blk w' c.cb 62 ((chL n ls.length c).set 3 (.int .u64 (st' : Int)))) (hst : st' < 18446744073709551616) : ChAt w' n { c with st := st' } ls := by
  have hm : ∀ q, c.foot ls.length q → q ≠ c.cb → ¬ F q := fun q hq hne hf => (hF q hf).elim hne fun h => h.1 hq
  have hfF : ∀ i, i < ls.length → ∀ q, q ∈ (c.hs i).F → ¬ F q := fun i hi q hq => hm q (.inr ⟨i, hi, hq⟩) (hC.fne i hi q (.inl hq)).1
  have hfI : ∀ i, i < ls.length → ∀ q, q ∈ (c.hs i).im → ¬ F q := fun i hi q hq hf => (hF q hf).elim (hC.fne i hi q (.inr hq)).1 fun h => h.2 ⟨i, hi, hq⟩
  exact ⟨hb, hst, hC.map.fr f (hm _ (.inl (.inr (.inl rfl))) (Ne.symm hC.cmb)), hC.mok, hC.dv.fr f (fun ad e => hm _ (.inl (.inr (.inr ⟨ad, e, rfl⟩))) (hC.vne ad e).1), fun i hi => (hC.lv i hi).fr f (hfF i hi) (hfI i hi), hC.cmb, hC.vne, hC.fne, hC.dis, hC.imd⟩
theorem SrcAt.fr {F : Nat → Prop} {w w' : World} {n cb : Nat} {s : SS} {gens : List (List Int)} (hS : SrcAt w n cb s gens) (f : Fr F w w') (h1 : ¬ F s.sb) (h2 : ¬ F s.pa) (h3 : ∀ q, q ∈ s.im → ¬ F q) : SrcAt w' n cb s gens :=
  ⟨hS.str.fr f h1, hS.pool.fr f (by rintro _ ⟨⟩; exact h2), hS.pls.fr f h3, hS.pd.fr f (fun ad e => h3 _ (hS.pdi ad e)), hS.pdi, hS.mem, hS.pm, hS.gn, hS.n1, hS.ne, hS.dis, fun q hq => Nat.lt_of_lt_of_le (hS.imlt q hq) f.size, hS.len⟩
structure Sep (c : CH) (k : Nat) (s : SS) : Prop where
  sb : ¬ c.foot k s.sb ∧ ¬ c.imm k s.sb
  pa : ¬ c.foot k s.pa ∧ ¬ c.imm k s.pa
  im : ∀ q, q ∈ s.im → ¬ c.foot k q
/-- how a chain may have changed since w -/
structure CGo (w : World) (c c' : CH) (k k' : Nat) : Prop where
  cb : c'.cb = c.cb
  foot : ∀ q, c'.foot k' q → c.foot k q ∨ w.heap.size ≤ q
  imm : ∀ q, c'.imm k' q → c.imm k q ∨ w.heap.size ≤ q
theorem CGo.refl (w : World) (c : CH) (k : Nat) : CGo w c c k k := ⟨rfl, fun _ h => .inl h, fun _ h => .inl h⟩
theorem ChAt.imfoot {w : World} {n : Nat} {c : CH} {ls : List Lv} (hC : ChAt w n c ls) {i : Nat} (hi : i < ls.length) {q : Nat} (hq : q ∈ (c.hs i).im) : ¬ c.foot ls.length q := by
  rintro ((h | h | ⟨ad, h1, h2⟩) | ⟨j, hj, h⟩)
  · exact (hC.fne i hi q (.inr hq)).1 h
  · exact (hC.fne i hi q (.inr hq)).2.1 h
  · exact (hC.fne i hi q (.inr hq)).2.2 ad h1 h2
  · exact hC.imd j i hj hi q h hq
end Go.Proofs.YthhfjagnmhhapaaGreat

/- Chains of the reference: levels are made anew with one more generator. Plain laws. -/
namespace Go.PM
structure LvRe (n : Nat) (g : List Int) (l l' : Lv) : Prop where
  ok : LvOK n l'
  pt : l'.pt = l.pt
  gens : l'.gens = l.gens ++ [g]
  new : ∀ a, l'.done.getD a 0 = 0
inductive InsR (n : Nat) (p : List Int) : Nat → List Lv → List Lv → Prop
  | new {l' : Lv} (h : LvNew n p l') : InsR n p 0 [] [l']
  | last {l l' : Lv} {ls : List Lv} (h : LvRe n p l l') : InsR n p 0 (l :: ls) (l' :: ls)
  | cons {k : Nat} {l l' : Lv} {ls ls' : List Lv} (h : LvRe n p l l') (hr : InsR n p k ls ls') : InsR n p (k + 1) (l :: ls) (l' :: ls')
theorem LvRe.sub {n : Nat} {g : List Int} {l l' : Lv} (h : LvRe n g l l') {p : List Int} (hp : Gen n l.gens p) : Gen n l'.gens p := gen_mono (fun q hq => by rw [h.gens]; simp [hq]) hp
theorem LvRe.doneOK {n : Nat} {g : List Int} {l l' : Lv} {ls' : List Lv} (h : LvRe n g l l') : DoneOK n l' ls' := fun a _ => by rw [h.new a]; exact ⟨Nat.zero_le _, fun k hk => absurd hk (by omega)⟩
theorem LvRe.le {n : Nat} {g : List Int} {l l' : Lv} (h : LvRe n g l l') (hl : LvOK n l) : l.orb.length ≤ l'.orb.length := nodup_le hl.nd fun y hy => by
  rw [h.ok.mem', h.pt]; obtain ⟨q, hq, e⟩ := (hl.mem' y).1 hy; exact ⟨q, h.sub hq, e⟩
theorem insR_drop {n : Nat} {p : List Int} {k : Nat} {ls ls' : List Lv} (hi : InsR n p k ls ls') : ls'.drop (k + 1) = ls.drop (k + 1) := by
  induction hi with
  | new h => rfl
  | last h => rfl
  | cons h hr ih => simpa using ih
theorem insR_len {n : Nat} {p : List Int} {k : Nat} {ls ls' : List Lv} (hi : InsR n p k ls ls') : k < ls'.length ∧ ls'.length = if k < ls.length then ls.length else ls.length + 1 := by
  induction hi with
  | new h => simp
  | last h => simp
  | cons h hr ih =>
    simp only [List.length_cons]
    refine ⟨by omega, ?_⟩
    rw [ih.2]
    split <;> split <;> omega
theorem insR_case {n : Nat} {p : List Int} {d : Lv} {k : Nat} {ls ls' : List Lv} (hi : InsR n p k ls ls') : ∀ j, j < ls'.length →
    (j < ls.length ∧ LvRe n p (ls.getD j d) (ls'.getD j d)) ∨ (j < ls.length ∧ ls'.getD j d = ls.getD j d) ∨ (j = ls.length ∧ LvNew n p (ls'.getD j d)) := by
  induction hi with
  | new h => intro j hj; simp at hj; subst hj; exact .inr (.inr ⟨rfl, h⟩)
  | last h =>
    intro j hj
    cases j with
    | zero => exact .inl ⟨by simp, h⟩
    | succ j => exact .inr (.inl ⟨by simpa using hj, rfl⟩)
  | cons h hr ih =>
    intro j hj
    cases j with
    | zero => exact .inl ⟨by simp, h⟩
    | succ j =>
      rcases ih j (by simpa using hj) with ⟨h1, h2⟩ | ⟨h1, h2⟩ | ⟨h1, h2⟩
      · exact .inl ⟨by simpa using h1, h2⟩
      · exact .inr (.inl ⟨by simpa using h1, h2⟩)
      · exact .inr (.inr ⟨by simpa using h1, h2⟩)
theorem insR_links {n : Nat} {p : List Int} {k : Nat} {ls ls' : List Lv} (hi : InsR n p k ls ls') : Links n ls → PermN n p → FixTo ls k p →
    Links n ls' ∧ (∀ q, grpOf n ls q → grpOf n ls' q) ∧ grpOf n ls' p ∧ ∀ H : List Int → Prop, Grp n H → (∀ q, grpOf n ls q → H q) → H p → ∀ q, grpOf n ls' q → H q := by
  induction hi with
  | new h =>
    intro h1 hp _
    rename_i l'
    refine ⟨⟨h.ok, ?_, ?_, h1⟩, ?_, ?_, ?_⟩
    · rintro q rfl; exact ⟨.one, ap_id h.ok.pt⟩
    · intro a _; rw [h.new a]; exact ⟨Nat.zero_le _, fun k hk => absurd hk (by omega)⟩
    · rintro q rfl; exact .one
    · exact gen_self h.ok.gens (by rw [h.gens]; simp)
    · intro H hH _ hHp q hq; exact gen_le hH (by rw [h.gens]; simpa using hHp) hq
  | last h =>
    intro h1 hp hf
    rename_i l l' ls
    refine ⟨⟨h.ok, ?_, h.doneOK, h1.tail⟩, fun q hq => h.sub hq, gen_self h.ok.gens (by rw [h.gens]; simp), ?_⟩
    · intro q hq; rw [h.pt]; exact ⟨h.sub (h1.2.1 q hq).1, (h1.2.1 q hq).2⟩
    · intro H hH hs hHp q hq
      refine gen_le hH (fun g hg => ?_) hq
      rw [h.gens, List.mem_append] at hg
      rcases hg with hg | hg
      · exact hs _ (gen_self h1.1.gens hg)
      · simp only [List.mem_singleton] at hg; rw [hg]; exact hHp
  | cons h hr ih =>
    intro h1 hp hf
    rename_i k l l' ls ls'
    obtain ⟨i1, i2, i3, i4⟩ := ih h1.tail hp (fun j hj l'' hl'' => hf (j + 1) (by omega) l'' (by simpa using hl''))
    have hfp : ap p l.pt = l.pt := hf 0 (by omega) l (by simp)
    refine ⟨⟨h.ok, ?_, h.doneOK, i1⟩, fun q hq => h.sub hq, gen_self h.ok.gens (by rw [h.gens]; simp), ?_⟩
    · have := i4 (Stab (Gen n l'.gens) l'.pt) (stab_grp h.ok.grp h.ok.pt) (fun q hq => by rw [h.pt]; exact ⟨h.sub (h1.2.1 q hq).1, (h1.2.1 q hq).2⟩)
        ⟨gen_self h.ok.gens (by rw [h.gens]; simp), by rw [h.pt]; exact hfp⟩
      exact this
    · intro H hH hs hHp q hq
      refine gen_le hH (fun g hg => ?_) hq
      rw [h.gens, List.mem_append] at hg
      rcases hg with hg | hg
      · exact hs _ (gen_self h1.1.gens hg)
      · simp only [List.mem_singleton] at hg; rw [hg]; exact hHp
theorem LvNew.two {n : Nat} {p : List Int} {l' : Lv} (h : LvNew n p l') : 2 ≤ l'.orb.length := by
  have hm : ap p l'.pt ∈ l'.orb := (h.ok.mem' _).2 ⟨p, gen_self h.ok.gens (by rw [h.gens]; simp), rfl⟩
  exact nodup_le (l := [ap p l'.pt, l'.pt]) (m := l'.orb) (by simp [h.pt]) (by simp [hm, h.ok.pt_mem])
theorem insR_prod {n : Nat} {p : List Int} {k : Nat} {ls ls' : List Lv} (hi : InsR n p k ls ls') : Links n ls → (∀ l, ls[k]? = some l → ap p l.pt ∉ l.orb) → prodL ls < prodL ls' := by
  induction hi with
  | @new l' h =>
    intro _ _
    have h1 := h.two
    simp only [prodL]; omega
  | last h =>
    intro h1 hne
    rename_i l l' ls
    have hne := hne l (by simp)
    have hm : ap p l.pt ∈ l'.orb := by rw [← h.pt]; exact (h.ok.mem' _).2 ⟨p, gen_self h.ok.gens (by rw [h.gens]; simp), rfl⟩
    have hlt : l.orb.length < l'.orb.length := by
      refine nodup_le (l := ap p l.pt :: l.orb) (m := l'.orb) (List.nodup_cons.2 ⟨hne, h1.1.nd⟩) (fun y hy => ?_)
      rcases List.mem_cons.1 hy with rfl | hy
      · exact hm
      · rw [h.ok.mem', h.pt]; obtain ⟨q, hq, e⟩ := (h1.1.mem' y).1 hy; exact ⟨q, h.sub hq, e⟩
    exact Nat.mul_lt_mul_of_pos_right hlt (prodL_pos h1.tail)
  | cons h hr ih =>
    intro h1 hne
    rename_i k l l' ls ls'
    have := ih h1.tail (fun l'' hl'' => hne l'' (by simpa using hl''))
    simp only [prodL]
    exact Nat.lt_of_lt_of_le (Nat.mul_lt_mul_of_pos_left this h1.1.pos) (Nat.mul_le_mul_right _ (h.le h1.1))
/-- levels behind level i grow by the remainder r -/
theorem insR_at {n : Nat} {r : List Int} {d : Nat} : ∀ (i : Nat) (ls ls' : List Lv) (l : Lv), ls[i]? = some l → Links n ls → ls'.take (i + 1) = ls.take (i + 1) → InsR n r d (ls.drop (i + 1)) (ls'.drop (i + 1)) → PermN n r → FixTo (ls.drop (i + 1)) d r →
    (∀ l, (ls.drop (i + 1))[d]? = some l → ap r l.pt ∉ l.orb) → Gen n l.gens r → ap r l.pt = l.pt → Links n ls' ∧ prodL ls < prodL ls'
  | _, [], _, l, h, _, _, _, _, _, _, _, _ => by simp at h
  | _, _ :: _, [], _, _, _, h, _, _, _, _, _, _ => by simp at h
  | 0, l :: ls, l' :: ls', l0, h0, hL, ht, hi, pr, hf, ho, hg, hp => by
    simp at h0 ht
    subst h0
    subst ht
    simp only [Nat.zero_add, List.drop_succ_cons, List.drop_zero] at hi hf ho
    obtain ⟨h1, h2, h3, h4⟩ := insR_links hi hL.tail pr hf
    have hpr := insR_prod hi hL.tail ho
    refine ⟨⟨hL.1, fun p hp' => ?_, fun a ha => ?_, h1⟩, ?_⟩
    · exact h4 (Stab (Gen n l'.gens) l'.pt) (stab_grp hL.1.grp hL.1.pt) (fun q hq => hL.2.1 q hq) ⟨hg, hp⟩ p hp'
    · have := hL.2.2.1 a ha
      exact ⟨this.1, fun k hk => h2 _ (this.2 k hk)⟩
    · exact Nat.mul_lt_mul_of_pos_left hpr hL.1.pos
  | i + 1, l :: ls, l' :: ls', l0, h0, hL, ht, hi, pr, hf, ho, hg, hp => by
    simp only [List.getElem?_cons_succ] at h0
    simp only [List.take_succ_cons, List.cons.injEq] at ht
    obtain ⟨rfl, ht⟩ := ht
    simp only [List.drop_succ_cons] at hi hf ho
    obtain ⟨h1, h2⟩ := insR_at i ls ls' l0 h0 hL.tail ht hi pr hf ho hg hp
    have hpos : 0 < ls.length := by have := (List.getElem?_eq_some_iff.1 h0).1; omega
    have e : grpOf n ls' = grpOf n ls := by
      refine grp_head hpos ?_
      have := congrArg (List.take 1) ht
      rw [List.take_take, List.take_take] at this
      simpa [Nat.min_eq_left (show 1 ≤ i + 1 by omega)] using this
    refine ⟨⟨hL.1, fun p hp' => hL.2.1 p (by rw [← e]; exact hp'), fun a ha => ?_, h1⟩, Nat.mul_lt_mul_of_pos_left h2 hL.1.pos⟩
    have := hL.2.2.1 a ha
    exact ⟨this.1, fun k hk => by rw [e]; exact this.2 k hk⟩
theorem siftL_perm {n : Nat} : ∀ {ls : List Lv}, (∀ l ∈ ls, LvOK n l) → ∀ {p : List Int}, PermN n p → PermN n (siftL ls p).1
  | [], _, _, hp => hp
  | l :: ls, h, p, hp => by
    rw [siftL]
    split
    · rename_i hm
      have ok := h l (by simp)
      exact siftL_perm (fun l' hl' => h l' (by simp [hl'])) (hp.mul (ok.grp.perm _ (ok.to_in hm)))
    · exact hp
end Go.PM

/- Memory of the reference's chains: slices compared with nil, rows of three cells. -/
namespace Go.W
section
variable {P : Program} {S : World → Prop} {ops : List Oper} {K : Env → World → Prop} {rest : List (Oper × Option Bool)} {ρ : Env} {w : World} {b : Option Bool} {kf : Bool} {d : Nat} {T T' : TypeId} {pos : String} {af : Array Edge}
theorem run_equalIn_nil {T0 E : TypeId} (h : P.underlying T0 = some (.slice E)) (n : Nat) (a : Option Addr) (l c : Nat) (w : World) : (Op.equalIn (n + 1) T0 (.slice a l c) (.slice none 0 0)).run P w = .ok a.isNone w := by
  cases a <;> simp [Op.equalIn, run_underlying h]
theorem run_equal_nil {T0 E : TypeId} (h : P.underlying T0 = some (.slice E)) (a : Option Addr) (l c : Nat) (w : World) : (Op.equal T0 (.slice a l c) (.slice none 0 0)).run P w = .ok a.isNone w := by
  unfold Op.equal
  exact run_equalIn_nil h 9999 a l c w
theorem k_eqNil {x y : Operand} {a : Option Addr} {l c E s z : Nat} {T'' : TypeId} [h1 : Slc P T' E s z] (hx : ev ρ x = .slice a l c) (hy : ev ρ y = .slice none 0 0) (h : RR P S ops K rest (upd ρ d (.bool a.isNone)) w) : RR P S ops K ((⟨some d, .binOp .eql T' x y T'', T, pos, af, none⟩, b) :: rest) ρ w :=
  rr_pure rfl (fun w' => by
    simp only [execOp, hx, hy]
    rw [Sem.run_bind_ok (v := .bool a.isNone) (w' := w')]
    · rfl
    · rw [Sem.run_bind_ok (run_eqGuard_slice w')]
      show (do pure (Value.bool (← Op.equal T' (.slice a l c) (.slice none 0 0))) : Sem Value).run P w' = _
      rw [Sem.run_bind_ok (run_equal_nil h1.un a l c w')]; rfl) h
theorem k_neqNil {x y : Operand} {a : Option Addr} {l c E s z : Nat} {T'' : TypeId} [h1 : Slc P T' E s z] (hx : ev ρ x = .slice a l c) (hy : ev ρ y = .slice none 0 0) (h : RR P S ops K rest (upd ρ d (.bool (!a.isNone))) w) : RR P S ops K ((⟨some d, .binOp .neq T' x y T'', T, pos, af, none⟩, b) :: rest) ρ w :=
  rr_pure rfl (fun w' => by
    simp only [execOp, hx, hy]
    rw [Sem.run_bind_ok (v := .bool (!a.isNone)) (w' := w')]
    · rfl
    · rw [Sem.run_bind_ok (run_eqGuard_slice w')]
      show (do pure (Value.bool (!(← Op.equal T' (.slice a l c) (.slice none 0 0)))) : Sem Value).run P w' = _
      rw [Sem.run_bind_ok (run_equal_nil h1.un a l c w')]; rfl) h
theorem k_leqF {x y : Operand} {k : IntKind} {m m' : Int} {T'' : TypeId} (hx : ev ρ x = .int k m) (hy : ev ρ y = .int k m') (hd : m' < m) (h : RR P S ops K rest (upd ρ d (.bool false)) w) : RR P S ops K ((⟨some d, .binOp .leq T' x y T'', T, pos, af, none⟩, b) :: rest) ρ w :=
  k_leq hx hy (by rw [decide_eq_false (by omega)]; exact h)
theorem k_geqT {x y : Operand} {k : IntKind} {m m' : Int} {T'' : TypeId} (hx : ev ρ x = .int k m) (hy : ev ρ y = .int k m') (hd : m' ≤ m) (h : RR P S ops K rest (upd ρ d (.bool true)) w) : RR P S ops K ((⟨some d, .binOp .geq T' x y T'', T, pos, af, none⟩, b) :: rest) ρ w :=
  k_geq hx hy (by rw [decide_eq_true (by omega)]; exact h)
theorem k_index3 {x ix : Operand} {a : Option Addr} {l c E y j : Nat} {k : IntKind} [hT : Slc P T' E 3 y] (hx : ev ρ x = .slice a l c) (hi : ev ρ ix = .int k (j : Int)) (ha : W.plain a)
    (h2 : j < l) (h : RR P S ops K rest (upd ρ d (.pointer (some (elt a (j * 3))))) w) :
    RR P S ops K ((⟨some d, .indexAddr T' x ix, T, pos, af, none⟩, b) :: rest) ρ w :=
  k_indexAddr hx hi ha (by omega) (by omega) (by simpa using h)
/-- a row of three cells is read -/
theorem k_loadR3 {x : Operand} {T1 : TypeId} {g o j : Nat} {vs cs : List Value} [Agg P T1 3] (hx : ev ρ x = .pointer (some (elt (some ⟨g, o, none⟩) (j * 3)))) (hl : cs.length = 3) (hs : Rd b S w fun w' => Sl w' (some ⟨g, o, none⟩) vs)
    (hc : ∀ k, k < 3 → vs[j * 3 + k]? = cs[k]?) (h : RR P S ops K rest (upd ρ d (.agg cs.toArray)) w) : RR P S ops K ((⟨some d, .load T1 x, T, pos, af, none⟩, b) :: rest) ρ w :=
  k_loadA (g := g) (o := o + j * 3) hx hl (hs.imp fun w' hs k hk => by
    have h1 := hc k (by omega)
    have h2 : j * 3 + k < vs.length := by
      rcases Nat.lt_or_ge (j * 3 + k) vs.length with h | h
      · exact h
      · rw [List.getElem?_eq_none h, List.getElem?_eq_getElem hk] at h1; cases h1
    have h3 := hs.get (j * 3 + k) h2
    rw [List.getD_eq_getElem?_getD, h1, ← List.getD_eq_getElem?_getD] at h3
    simpa [elt, Nat.add_assoc] using h3) h
/-- a row of three cells is stored into a slice of one's own -/
theorem k_storeOwn3 {x y : Operand} {T1 : TypeId} {lo T0 n cap j : Nat} {a : Option Addr} {vs cs : List Value} [hT : Agg P T1 3] (hx : ev ρ x = .pointer (some (elt a (j * 3)))) (hy : ev ρ y = .agg cs.toArray) (hl : cs.length = 3) (ho : cs.all Value.oneCell' = true)
    (hown : Own w lo T0 3 a n cap vs) (hj : j < n)
    (h : ∀ g w', a = some ⟨g, 0, none⟩ → lo ≤ g → Chg g w w' → Own w' lo T0 3 a n cap (vs.take (j * 3) ++ cs ++ vs.drop (j * 3 + 3)) → (kf = true → S w → S w') ∧ RR P S ops K rest ρ w') :
    RR P S ops K ((⟨none, .store T1 x y, T, pos, af, none⟩, some kf) :: rest) ρ w := by
  have hlen := hown.len
  rcases hown.2 with ⟨hv', hn⟩ | ⟨g, c, cur, hv', hg, hb, h1, h2, h3, h4⟩
  · omega
  · simp only [Value.slice.injEq] at hv'
    obtain ⟨rfl, _, rfl⟩ := hv'
    have hb' : Blk w g T0 cur.toList := by unfold Blk; simpa using hb
    have hcl : cur.toList.length = cap * 3 := by simpa using h3
    refine k_storeA (g := g) (o := j * 3) (by rw [hx]; simp [elt]) hy hl ho hb' (by omega) (fun w' hc hb2 => h g w' rfl hg hc ⟨?_, .inr ⟨g, cap, _, rfl, hg, hb2, h1, h2, ?_, ?_⟩⟩)
    · simp; omega
    · simp; omega
    · rw [← h4]
      simp only [List.take_append, List.take_take, List.length_append, List.length_take, List.drop_take, hl, hcl]
      rw [show min (n * 3) (j * 3) = j * 3 by omega, show min (j * 3) (n * 3) = j * 3 by omega, show min (j * 3) (cap * 3) = j * 3 by omega]
      rw [List.take_of_length_le (l := cs) (by omega)]
end
end Go.W
namespace Go.PM
theorem inv_mulP {n : Nat} {p q : List Int} (hp : PermN n p) (hq : PermN n q) : inv (mulP p q) = mulP (inv q) (inv p) := by
  refine (eq_inv (hp.mul hq) (hq.inv.mul hp.inv) ?_).symm
  rw [mul_assoc hp hq, ← mul_assoc hq hq.inv, mul_inv hq, one_mul hp.inv, mul_inv hp]
theorem add_to_old {l : Lv} {y z : Int} {b : List Int} (hl : l.back.length = l.orb.length) (hz : z ∈ l.orb) : (l.add y b).to z = l.to z := by
  have h1 := idxOf_lt hz
  unfold Lv.to Lv.bk Lv.add
  simp only
  rw [List.idxOf_append, if_pos hz, List.getD_eq_getElem?_getD, List.getElem?_append_left (by omega), ← List.getD_eq_getElem?_getD]
theorem add_to_new {l : Lv} {y : Int} {b : List Int} (hl : l.back.length = l.orb.length) (hy : y ∉ l.orb) : (l.add y b).to y = b := by
  unfold Lv.to Lv.bk Lv.add
  simp only
  rw [List.idxOf_append, if_neg hy, List.getD_eq_getElem?_getD]
  simp [hl]
/-- how many points up to k lie in the orbit -/
def cntTo (orb : List Int) : Nat → Nat
  | 0 => 0
  | k + 1 => cntTo orb k + (if (k : Int) ∈ orb then 1 else 0)
theorem cntTo_le (orb : List Int) : ∀ k, cntTo orb k ≤ k
  | 0 => Nat.le_refl _
  | k + 1 => by have := cntTo_le orb k; rw [cntTo]; split <;> omega
theorem cntTo_eq {orb : List Int} : ∀ (n : Nat), orb.Nodup → (∀ y ∈ orb, 0 ≤ y ∧ y < n) → cntTo orb n = orb.length := by
  intro n
  induction n generalizing orb with
  | zero =>
    intro _ h
    cases orb with
    | nil => rfl
    | cons x l => have := h x (by simp); omega
  | succ n ih =>
    intro hn h
    rw [cntTo]
    by_cases hm : (n : Int) ∈ orb
    · rw [if_pos hm]
      have e : cntTo orb n = cntTo (orb.erase (n : Int)) n := by
        have : ∀ k, k ≤ n → cntTo orb k = cntTo (orb.erase (n : Int)) k := by
          intro k
          induction k with
          | zero => intro _; rfl
          | succ k ihk =>
            intro hk
            rw [cntTo, cntTo, ihk (by omega)]
            have : ((k : Int) ∈ orb.erase (n : Int)) ↔ (k : Int) ∈ orb := List.mem_erase_of_ne (by omega)
            simp only [this]
        exact this n (Nat.le_refl _)
      rw [e, ih (hn.erase _) (fun y hy => ?_), List.length_erase_of_mem hm]
      · have : 0 < orb.length := List.length_pos_of_mem hm
        omega
      · have h1 := h y (List.mem_of_mem_erase hy)
        have h2 : y ≠ (n : Int) := (hn.mem_erase_iff.1 hy).1
        omega
    · rw [if_neg hm]
      exact ih hn (fun y hy => by
        have h1 := h y hy
        have h2 : y ≠ (n : Int) := fun e => hm (e ▸ hy)
        omega)
end Go.PM
namespace Go.Proofs.YthhfjagnmhhapaaGreat
open Go.W Go.PM
/-- where a level of the reference lies -/
structure RH where
  ga : Option Addr
  gs : List SD
  gc : Nat
  ma : Option Addr
  ms : List SD
  mc : Nat
abbrev RH.cells (h : RH) (pt : Int) : List Value := [.int .i64 pt, .slice h.ga h.gs.length h.gc, .slice h.ma h.ms.length h.mc]
/-- the maps of a level: for each point y of the orbit an element that takes the level's point to y -/
structure MpAt (w : World) (n : Nat) (l : Lv) (ms : List SD) : Prop where
  len : ms.length = n
  inn : ∀ y : Nat, (y : Int) ∈ l.orb → ∃ g c, ms.getD y sd0 = ⟨some ⟨g, 0, none⟩, n, c⟩ ∧ Sl w (some ⟨g, 0, none⟩) (intsL (inv (l.to (y : Int))))
  out : ∀ y : Nat, y < n → (y : Int) ∉ l.orb → ms.getD y sd0 = sd0
theorem MpAt.ext {w w' : World} {n : Nat} {l : Lv} {ms : List SD} (h : MpAt w n l ms) (e : Ex w w') : MpAt w' n l ms :=
  ⟨h.len, fun y hy => by obtain ⟨g, c, h1, h2⟩ := h.inn y hy; exact ⟨g, c, h1, h2.ext e⟩, h.out⟩
structure RL (w : World) (n : Nat) (h : RH) (l : Lv) : Prop where
  gs : Lists w .i64 h.ga h.gs l.gens
  ma : Sl w h.ma (h.ms.map SD.val)
  mp : MpAt w n l h.ms
theorem RL.ext {w w' : World} {n : Nat} {h : RH} {l : Lv} (hL : RL w n h l) (e : Ex w w') : RL w' n h l := ⟨hL.gs.ext e, hL.ma.ext e, hL.mp.ext e⟩
abbrev RC := List (RH × Lv)
def rc0 : RH × Lv := (⟨none, [], 0, none, [], 0⟩, lv0)
def cellsL (L : RC) : List Value := L.flatMap fun x => x.1.cells x.2.pt
theorem cellsL_len : ∀ L : RC, (cellsL L).length = L.length * 3
  | [] => rfl
  | x :: L => by
    have := cellsL_len L
    unfold cellsL at this ⊢
    rw [List.flatMap_cons, List.length_append, this]; simp; omega
theorem cellsL_get : ∀ (L : RC) (j : Nat), j < L.length → ∀ k, k < 3 → (cellsL L)[j * 3 + k]? = ((L.getD j rc0).1.cells (L.getD j rc0).2.pt)[k]?
  | [], j, h, _, _ => absurd h (by simp)
  | x :: L, 0, _, k, hk => by
    unfold cellsL
    rw [List.flatMap_cons, List.getElem?_append_left (by simp; omega)]; simp
  | x :: L, j + 1, h, k, hk => by
    have := cellsL_get L j (by simpa using h) k hk
    unfold cellsL at this ⊢
    rw [List.flatMap_cons, List.getElem?_append_right (by simp; omega)]
    simp only [List.length_cons, List.length_nil]
    rw [show (j + 1) * 3 + k - (0 + 1 + 1 + 1) = j * 3 + k by omega, this]
    simp
theorem cellsL_set : ∀ (L : RC) (j : Nat) (x : RH × Lv), j < L.length → (cellsL L).take (j * 3) ++ x.1.cells x.2.pt ++ (cellsL L).drop (j * 3 + 3) = cellsL (L.set j x)
  | [], j, _, h => absurd h (by simp)
  | y :: L, 0, x, _ => by simp [cellsL]
  | y :: L, j + 1, x, h => by
    have := cellsL_set L j x (by simpa using h)
    rw [List.set_cons_succ]
    unfold cellsL at this ⊢
    rw [List.flatMap_cons, List.flatMap_cons, ← this]
    rw [List.take_append, List.drop_append]
    simp only [List.length_cons, List.length_nil]
    rw [List.take_of_length_le (by simp; omega), List.drop_eq_nil_of_le (by simp <;> omega)]
    rw [show (j + 1) * 3 - (0 + 1 + 1 + 1) = j * 3 by omega, show (j + 1) * 3 + 3 - (0 + 1 + 1 + 1) = j * 3 + 3 by omega]
    simp
theorem cellsL_snoc (L : RC) (x : RH × Lv) : cellsL (L ++ [x]) = cellsL L ++ x.1.cells x.2.pt := by unfold cellsL; simp
/-- the levels of a chain -/
abbrev lvsOf (L : RC) : List Lv := L.map Prod.snd
theorem lvsOf_getD (L : RC) (j : Nat) : (lvsOf L).getD j lv0 = (L.getD j rc0).2 := by
  rw [List.getD_eq_getElem?_getD, List.getElem?_map, List.getD_eq_getElem?_getD]
  cases L[j]? <;> rfl
def RCs (w : World) (n : Nat) (L : RC) : Prop := ∀ j, j < L.length → RL w n (L.getD j rc0).1 (L.getD j rc0).2
theorem RCs.ext {w w' : World} {n : Nat} {L : RC} (h : RCs w n L) (e : Ex w w') : RCs w' n L := fun j hj => (h j hj).ext e
theorem cell3 {w : World} {g o : Nat} {L : RC} (h : Sl w (some ⟨g, o, none⟩) (cellsL L)) {j : Nat} (hj : j < L.length) :
    w.cell? ⟨g, o + j * 3 + 0, none⟩ = some (.int .i64 (L.getD j rc0).2.pt) ∧ w.cell? ⟨g, o + j * 3 + 1, none⟩ = some (.slice (L.getD j rc0).1.ga (L.getD j rc0).1.gs.length (L.getD j rc0).1.gc) ∧
    w.cell? ⟨g, o + j * 3 + 2, none⟩ = some (.slice (L.getD j rc0).1.ma (L.getD j rc0).1.ms.length (L.getD j rc0).1.mc) := by
  have key : ∀ k v, k < 3 → ((L.getD j rc0).1.cells (L.getD j rc0).2.pt)[k]? = some v → w.cell? ⟨g, o + j * 3 + k, none⟩ = some v := fun k v hk hv => by
    have h1 := cellsL_get L j hj k hk
    have h2 := h.get (j * 3 + k) (by rw [cellsL_len]; omega)
    rw [List.getD_eq_getElem?_getD, h1, hv] at h2
    simpa [elt, Nat.add_assoc] using h2
  exact ⟨key 0 _ (by omega) rfl, key 1 _ (by omega) rfl, key 2 _ (by omega) rfl⟩
end Go.Proofs.YthhfjagnmhhapaaGreat

namespace Go.Proofs.YthhfjagnmhhapaaGreat
open Go.W Go.PM
def PtAt (w : World) (g n : Nat) (c : Nat → Nat) : Prop := ∃ ps d, Blk w g 3 (intsL ps) ∧ UF n ps c d
theorem PtAt.ext {w w' : World} {g n : Nat} {c : Nat → Nat} (h : PtAt w g n c) (e : Ex w w') : PtAt w' g n c := by obtain ⟨ps, d, h1, h2⟩ := h; exact ⟨ps, d, h1.ext e, h2⟩
theorem PtAt.chg {w w' : World} {g n b : Nat} {c : Nat → Nat} (h : PtAt w g n c) (e : Chg b w w') (hne : g ≠ b) : PtAt w' g n c := by obtain ⟨ps, d, h1, h2⟩ := h; exact ⟨ps, d, h1.chg e hne, h2⟩
theorem PtAt.lt {w : World} {g n : Nat} {c : Nat → Nat} (h : PtAt w g n c) : g < w.heap.size := by obtain ⟨ps, d, h1, h2⟩ := h; exact h1.lt
theorem PtAt.clt {w : World} {g n : Nat} {c : Nat → Nat} (h : PtAt w g n c) {x : Nat} (hx : x < n) : c x < n := by obtain ⟨ps, d, h1, h2⟩ := h; exact h2.clt x hx
theorem newPart_spec {n : Nat} (h : n ≤ 512) (w : World) : CallsR Tryz.prog 103 #[.int .i64 (n : Int)] w fun v w' => ∃ g, v = .slice (ba g) n n ∧ w.heap.size ≤ g ∧ PtAt w' g n (fun x => x) ∧ Ex w w' := by
  refine callsR_of (args := [_]) Tryz.func103 rfl rfl ?_
  repeat' (first | (refine k_makeI rfl rfl (by omega) (by omega) (fun g w1 hn1 => ⟨fun _ _ => trivial, ?_⟩)) | (refine k_pure rfl ?_) | (refine then_normal ?_) | (refine cw_seq ?_) | (refine cw_region rfl ?_) | (refine rr_nil ?_) | (refine k_len rfl ?_) | (refine cw_block ?_))
  refine cw_loop (ι := Nat × List Int) [4, 9, 10, 11, 12, 13, 14, 15, 16] (fun s => [(9, .int .i64 (s.1 : Int))]) (fun s w' => s.1 ≤ n ∧ Ex w w' ∧ Blk w' g 3 (intsL s.2) ∧ s.2.length = n ∧ s.2.take s.1 = idList s.1) (fun s => n - s.1)
    (0, List.replicate n 0) ⟨rfl, trivial⟩ ⟨by simp, hn1.ex, hn1.blk, by simp, rfl⟩ ?_
  rintro ⟨k, rs⟩ ξ w2 ⟨hk, hE, hb, hl2, hT⟩
  simp only at hk hb hl2 hT
  show CW _ _ _ _ (over [(9, .int .i64 (k : Int))] _) w2
  repeat' (first | (refine k_indexN rfl rfl ⟨_, _, rfl⟩ (by omega) ?_) | (refine k_storeI rfl rfl hb (by omega) (fun w3 hc3 hb3 => ⟨fun _ _ => trivial, ?_⟩)) | (refine k_pure rfl ?_) | (refine then_normal ?_) | (refine cw_seq ?_) | (refine cw_region rfl ?_) | (refine rr_nil ?_) | (refine k_addI rfl rfl (by omega) (by omega) ?_) | (refine cw_cond_dec rfl (fun hc => ?_) (fun hc => ?_)) | (refine cw_block ?_) | (refine cw_exit ?_) | (refine then_exit ?_) | (refine in_exit ?_) | (refine in_normal ?_) | (refine cw_ret ?_) | (refine cw_skip ?_))
  · refine ⟨⟨(k + 1, rs.set k (k : Int)), ⟨by simp only; omega, hE.chg hc3 hn1.lo, hb3, by simp [hl2], ?_⟩, by simp only; omega, rfl, trivial⟩, (by (repeat (first | exact agree_mask _ _ _ | refine agree_upd rfl ?_ | refine agree_updO rfl ?_ | refine agree_overIn rfl ?_ | refine agree_maskIn rfl ?_)))⟩
    simp only
    rw [take_set_succ (by omega), hT, idList_succ]
  · obtain rfl : k = n := by omega
    rw [List.take_of_length_le (by omega)] at hT
    subst hT
    exact ret1 rfl (rt rfl) ⟨g, rfl, hn1.lo, ⟨_, _, hb, uf_one _⟩, hE⟩
theorem find_spec {n g : Nat} {c : Nat → Nat} {w : World} (hP : PtAt w g n c) {x : Nat} (hx : x < n) (_hn : n ≤ 512) :
    CallsR Tryz.prog 105 #[.slice (ba g) n n, .int .i64 (x : Int)] w fun v w' => v = .int .i64 (c x : Int) ∧ Chg g w w' ∧ PtAt w' g n c := by
  refine callsR_of (args := [_, _]) Tryz.func105 rfl rfl ?_
  obtain ⟨ps, d, hb, hU⟩ := hP
  repeat' (first | (refine k_pure rfl ?_) | (refine then_normal ?_) | (refine cw_seq ?_) | (refine cw_region rfl ?_) | (refine rr_nil ?_) | (refine cw_block ?_))
  refine cw_loop (ι := Nat × List Int) [1, 5, 6, 7, 8, 9, 10, 11, 12, 13, 14, 15, 16, 17, 18, 19, 20, 21, 22, 23, 24] (fun s => [(1, .int .i64 (s.1 : Int))]) (fun s w' => s.1 < n ∧ c s.1 = c x ∧ Chg g w w' ∧ Blk w' g 3 (intsL s.2) ∧ UF n s.2 c d) (fun s => d s.1)
    (x, ps) ⟨rfl, trivial⟩ ⟨hx, rfl, Chg.refl _ _, hb, hU⟩ ?_
  rintro ⟨y, ps1⟩ ξ w1 ⟨hy, hcy, hc1, hb1, hU1⟩
  simp only at hy hcy hb1 hU1
  show CW _ _ _ _ (over [(1, .int .i64 (y : Int))] _) w1
  have hl1 := hU1.len
  have hr := hU1.rng y hy
  obtain ⟨z, hz⟩ : ∃ z : Nat, ps1.getD y 0 = (z : Int) := ⟨(ps1.getD y 0).toNat, by omega⟩
  have hzn : z < n := by omega
  have hr2 := hU1.rng z hzn
  obtain ⟨u, hu⟩ : ∃ u : Nat, ps1.getD z 0 = (u : Int) := ⟨(ps1.getD z 0).toNat, by omega⟩
  repeat' (first | (refine k_indexN (j := y) rfl rfl ⟨_, _, rfl⟩ hy ?_) | (refine k_loadI (j := y) rfl hb1.sl (by omega) ?_) | (refine k_indexN (j := z) rfl (congrArg _ hz) ⟨_, _, rfl⟩ hzn ?_) | (refine k_loadI (j := z) rfl hb1.sl (by omega) ?_) | (refine k_storeI rfl rfl hb1 (by omega) (fun w2 hc2 hb2 => ⟨fun _ _ => trivial, ?_⟩)) | (refine k_pure rfl ?_) | (refine then_normal ?_) | (refine cw_seq ?_) | (refine cw_region rfl ?_) | (refine rr_nil ?_) | (refine cw_cond_dec rfl (fun hc => ?_) (fun hc => ?_)) | (refine cw_block ?_) | (refine cw_exit ?_) | (refine then_exit ?_) | (refine in_exit ?_) | (refine cw_ret ?_) | (refine cw_skip ?_))
  · have hne : ps1.getD y 0 ≠ (y : Int) := by omega
    have hh := hU1.halve hy
    have hs := hU1.step_lt hy hne
    have e : (ps1.getD y 0).toNat = z := by omega
    rw [e] at hh hs
    have e2 : (ps1.getD z 0).toNat = u := by omega
    rw [e2] at hs
    have hg2 : (ps1.set y (ps1.getD z 0)).getD y 0 = (u : Int) := by rw [getD_set' (by omega), if_pos rfl, hu]
    repeat' (first | (refine k_loadI (j := y) rfl hb2.sl (by rw [List.length_set]; omega) ?_) | (refine k_pure rfl ?_) | (refine then_normal ?_) | (refine rr_nil ?_) | (refine in_normal ?_))
    rw [hg2]
    refine ⟨⟨(u, ps1.set y (ps1.getD z 0)), ⟨hs.1, hs.2.1.trans hcy, hc1.trans hc2, hb2, hh⟩, hs.2.2, rfl, trivial⟩, (by (repeat (first | exact agree_mask _ _ _ | refine agree_upd rfl ?_ | refine agree_updO rfl ?_ | refine agree_overIn rfl ?_ | refine agree_maskIn rfl ?_)))⟩
  · have e : ps1.getD y 0 = (y : Int) := by omega
    have := hU1.root y hy e
    refine ret1 rfl (rt rfl) ⟨?_, hc1, ps1, d, hb1, hU1⟩
    rw [← hcy, this]; rfl
theorem join_spec {n g : Nat} {c : Nat → Nat} {p : List Int} {a : Option Addr} {cap : Nat} {w : World} (hP : PtAt w g n c) (hp : Sl w a (u16L p)) (pp : PermN n p) (ha : ∀ ad, a = some ad → ad.block ≠ g) :
    CallsR Tryz.prog 104 #[.slice (ba g) n n, .slice a n cap] w fun v w' => v = .tuple #[] ∧ Chg g w w' ∧ ∃ c', PtAt w' g n c' ∧ Jn n n p c c' := by
  refine callsR_of (args := [_, _]) Tryz.func104 rfl rfl ?_
  have n1 := pp.n1
  have hpl : p.length = n := pp.2
  repeat' (first | (refine k_pure rfl ?_) | (refine then_normal ?_) | (refine cw_seq ?_) | (refine cw_region rfl ?_) | (refine rr_nil ?_) | (refine k_len rfl ?_) | (refine cw_block ?_))
  refine cw_loop (ι := Nat × (Nat → Nat)) [4, 5, 8, 9, 10, 11, 12, 13, 14, 15, 16, 17, 18, 19, 20, 21, 22] (fun s => [(8, .int .i64 (s.1 : Int))]) (fun s w' => s.1 ≤ n ∧ Chg g w w' ∧ PtAt w' g n s.2 ∧ Jn n s.1 p c s.2) (fun s => n - s.1)
    (0, c) ⟨rfl, trivial⟩ ⟨Nat.zero_le _, Chg.refl _ _, hP, jn_zero _ _ _⟩ ?_
  rintro ⟨k, c1⟩ ξ w1 ⟨hk, hc1, hP1, hJ1⟩
  simp only at hk hP1 hJ1
  show CW _ _ _ _ (over [(8, .int .i64 (k : Int))] _) w1
  have hp1 := hp.chg hc1 ha
  obtain ⟨y, hy⟩ : ∃ y : Nat, k < n → p.getD k 0 = (y : Int) := ⟨(p.getD k 0).toNat, fun h => by have := pp.1.lt (k := k) (by omega); omega⟩
  have hyn : k < n → y < n := fun h => by have := pp.1.lt (k := k) (by omega); have := hy h; omega
  repeat' (first | (refine k_indexN (j := k) rfl rfl (hp1.plain (by simp; omega)) (by omega) ?_) | (refine k_loadI (j := k) rfl hp1 (by omega) ?_) | (refine k_pure rfl ?_) | (refine then_normal ?_) | (refine cw_seq ?_) | (refine cw_region rfl ?_) | (refine rr_nil ?_) | (refine cw_cond_dec rfl (fun hc => ?_) (fun hc => ?_)) | (refine cw_block ?_) | (refine cw_exit ?_) | (refine then_exit ?_) | (refine in_exit ?_) | (refine cw_skip ?_))
  · have hkn : k < n := by omega
    replace hy := hy hkn
    replace hyn := hyn hkn
    refine k_call (find_spec hP1 hkn n1.2) rfl ?_
    rintro v w2 ⟨rfl, hc2, hP2⟩
    refine ⟨fun _ _ => trivial, ?_⟩
    repeat' (first | (refine k_convI rfl (wrap_i64 (by omega) (by omega)) ?_) | (refine k_pure rfl ?_))
    refine k_call (find_spec hP2 hyn n1.2) (by rw [← hy]; rfl) ?_
    rintro v w3 ⟨rfl, hc3, hP3⟩
    refine ⟨fun _ _ => trivial, ?_⟩
    obtain ⟨ps, d, hb3, hU3⟩ := hP3
    have hcl := hU3.clt k hkn
    repeat' (first | (refine k_indexN (j := c1 k) rfl rfl ⟨_, _, rfl⟩ hcl ?_) | (refine k_storeI (j := c1 k) rfl rfl hb3 (by rw [hU3.len]; exact hcl) (fun w4 hc4 hb4 => ⟨fun _ _ => trivial, ?_⟩)) | (refine k_pure rfl ?_) | (refine then_normal ?_) | (refine cw_region rfl ?_) | (refine rr_nil ?_) | (refine k_addI rfl rfl (by omega) (by omega) ?_) | (refine in_normal ?_))
    obtain ⟨d', hU4⟩ := hU3.join hkn hyn
    have e : (ap p k).toNat = y := by unfold ap; rw [Int.toNat_natCast, hy]; rfl
    have hJ := hJ1.step hkn (fun x hx => by have := pp.ap (x := (x : Int)) (by omega); omega)
    rw [e] at hJ
    refine ⟨⟨(k + 1, jn c1 k y), ⟨by simp only; omega, ((hc1.trans hc2).trans hc3).trans hc4, ⟨_, d', hb4, hU4⟩, hJ⟩, by simp only; omega, rfl, trivial⟩, (by (repeat (first | exact agree_mask _ _ _ | refine agree_upd rfl ?_ | refine agree_updO rfl ?_ | refine agree_overIn rfl ?_ | refine agree_maskIn rfl ?_)))⟩
  · obtain rfl : k = n := by omega
    exact end0 rfl ⟨rfl, hc1, c1, hP1, hJ1⟩
end Go.Proofs.YthhfjagnmhhapaaGreat

namespace Go.W
theorem k_allocA {P : Program} {S : World → Prop} {ops : List Oper} {K : Env → World → Prop} {rest : List (Oper × Option Bool)} {ρ : Env} {w : World} {kf : Bool} {d : Nat} {T : TypeId} {pos : String} {af : Array Edge} {T1 : TypeId} {vs : List Value} [hz : Zro P T1 (.agg vs.toArray)]
    (h : ∀ g w', New w w' g T1 vs → (kf = true → S w → S w') ∧ RR P S ops K rest (upd ρ d (.pointer (some ⟨g, 0, none⟩))) w') :
    RR P S ops K ((⟨some d, .alloc T1, T, pos, af, none⟩, some kf) :: rest) ρ w := k_alloc (z := .agg vs.toArray) (fun g w' hn => h g w' hn)
end Go.W
namespace Go.Proofs.YthhfjagnmhhapaaGreat
open Go.W Go.PM
def num0 : List Int := List.replicate 513 0
theorem num0_len : num0.length = 513 := List.length_replicate
theorem zNum : Zro Tryz.prog 139 (.agg (intsL num0).toArray) := ⟨by kernel_rfl⟩
theorem scaled_spec {e : List Int} {a b u v n M T : Nat} {t : Int} {w : World} (hR : Rep e a b) (hB : Bd e M) (hn : 1 ≤ n ∧ n ≤ 512) (ht : t = (u : Int) - v) (hT : -(T : Int) ≤ t ∧ t ≤ T) (hM : M + T * 512 ≤ 1000000000000000) :
    CallsR Tryz.prog 92 #[.agg (intsL e).toArray, .int .i64 (n : Int), .int .i64 t] w fun r w' => ∃ e', r = .agg (intsL e').toArray ∧ Rep e' (a * n ^ u) (b * n ^ v) ∧ Bd e' (M + T * 512) ∧ Ex w w' := by
  refine callsR_of (args := [_, _, _]) Tryz.func92 rfl rfl ?_
  repeat' (first | (refine k_boxA rfl (fun g w1 hn1 => ⟨fun _ _ => trivial, ?_⟩)) | (refine k_allocA (vs := intsL num0) (hz := zNum) (fun g2 w2 hn2 => ⟨fun _ _ => trivial, ?_⟩)) | (refine k_pure rfl ?_) | (refine then_normal ?_) | (refine cw_seq ?_) | (refine cw_region rfl ?_) | (refine rr_nil ?_) | (refine cw_block ?_))
  have hE2 : Ex w w2 := hn1.ex.trans hn2.ex
  have hb2 : Blk w2 g2 139 (intsL num0) := hn2.blk
  have hb1 : Blk w2 g 139 (intsL e) := Blk.ext hn1.blk hn2.ex
  have z1 := hn1.lo
  have z1' := hn1.hi
  have z2 := hn2.lo
  have z12 := hn1.ex.size
  refine cw_loop (ι := Nat × Nat × List Int × Nat) [1, 7, 8, 9, 10, 11, 12, 13, 14, 15, 16, 17, 18, 19, 20, 21, 22, 23, 24] (fun s => [(7, .int .i64 (s.1 : Int)), (1, .int .i64 (s.2.1 : Int))]) (fun s w' => 2 ≤ s.1 ∧ 1 ≤ s.2.1 ∧ s.2.2.2 * s.2.1 = n ∧ 1 ≤ s.2.2.2 ∧ Rep s.2.2.1 (a * s.2.2.2 ^ u) (b * s.2.2.2 ^ v) ∧ Bd s.2.2.1 (M + T * s.2.2.2) ∧ (∀ d, 2 ≤ d → d < s.1 → ¬ d ∣ s.2.1) ∧ Ex w w' ∧ Blk w' g 139 (intsL s.2.2.1) ∧ Blk w' g2 139 (intsL num0)) (fun s => 600 - s.1)
    (2, n, e, 1) ⟨rfl, rfl, trivial⟩ ⟨by simp, hn.1, by simp, by simp, by simpa using hR, hB.mono (by simp), fun d h1 h2 => absurd h2 (by simp only; omega), hE2, hb1, hb2⟩ ?_
  rintro ⟨p, m, e1, c⟩ ξ w3 ⟨hp, hm, hcm, hc1, hR3, hB3, hd3, hE3, hb3, hb3'⟩
  simp only at hp hm hcm hc1 hR3 hB3 hd3 hb3 hb3'
  show CW _ _ _ _ (over [(7, .int .i64 (p : Int)), (1, .int .i64 (m : Int))] _) w3
  have hmn : m ≤ n := by rw [← hcm]; exact Nat.le_mul_of_pos_left _ hc1
  repeat' (first | (refine k_pure rfl ?_) | (refine then_normal ?_) | (refine cw_seq ?_) | (refine cw_region rfl ?_) | (refine rr_nil ?_) | (refine cw_cond_dec rfl (fun hc => ?_) (fun hc => ?_)) | (refine cw_block ?_) | (refine cw_exit ?_) | (refine then_exit ?_) | (refine in_exit ?_) | (refine cw_skip ?_))
  · have hm1 : 1 < m := by omega
    have hpm : p ≤ m := Classical.byContradiction fun h => hd3 m (by omega) (by omega) (Nat.dvd_refl m)
    refine cw_loop (ι := Nat × List Int × Nat) [1, 12, 13, 14, 15, 16, 17, 18, 19, 20, 21, 22, 23, 24] (fun s => [(1, .int .i64 (s.1 : Int))]) (fun s w' => 1 ≤ s.1 ∧ s.2.2 * s.1 = n ∧ 1 ≤ s.2.2 ∧ Rep s.2.1 (a * s.2.2 ^ u) (b * s.2.2 ^ v) ∧ Bd s.2.1 (M + T * s.2.2) ∧ (∀ d, 2 ≤ d → d < p → ¬ d ∣ s.1) ∧ Ex w w' ∧ Blk w' g 139 (intsL s.2.1) ∧ Blk w' g2 139 (intsL num0)) (fun s => s.1)
      (m, e1, c) ⟨rfl, trivial⟩ ⟨hm, hcm, hc1, hR3, hB3, hd3, hE3, hb3, hb3'⟩ ?_
    rintro ⟨m2, e2, c2⟩ ξ2 w4 ⟨hm4, hcm4, hc4, hR4, hB4, hd4, hE4, hb4, hb4'⟩
    simp only at hm4 hcm4 hc4 hR4 hB4 hd4 hb4 hb4'
    show CW _ _ _ _ (over [(1, .int .i64 (m2 : Int))] _) w4
    have hm2n : m2 ≤ n := by rw [← hcm4]; exact Nat.le_mul_of_pos_left _ hc4
    have hc2n : c2 ≤ n := by rw [← hcm4]; exact Nat.le_mul_of_pos_right _ hm4
    have hel := hR4.1
    have hbp := hB4 p
    have hTc : T * c2 ≤ T * 512 := Nat.mul_le_mul_left _ (by omega)
    repeat' (first | (refine k_rem rfl rfl (by omega) (by omega) ?_) | (refine k_indexA1 (j := p) rfl rfl (by omega) ?_) | (refine k_loadI (j := p) rfl hb4.sl (by omega) ?_) | (refine k_quoI rfl rfl (by omega) (by omega) (by omega) ?_) | (refine k_storeI (j := p) rfl rfl hb4 (by omega) (fun w5 hc5 hb5 => ⟨fun _ _ => trivial, ?_⟩)) | (refine k_pure rfl ?_) | (refine then_normal ?_) | (refine cw_seq ?_) | (refine cw_region rfl ?_) | (refine rr_nil ?_) | (refine k_addI rfl rfl (by omega) (by omega) ?_) | (refine cw_cond_dec rfl (fun hc => ?_) (fun hc => ?_)) | (refine cw_block ?_) | (refine cw_exit ?_) | (refine then_exit ?_) | (refine in_exit ?_) | (refine in_normal ?_) | (refine cw_skip ?_))
    · have hdv : p ∣ m2 := by
        have h0 : (m2 : Int) % (p : Int) = 0 := by omega
        rw [← Int.natCast_emod] at h0
        exact Nat.dvd_of_mod_eq_zero (by omega)
      obtain ⟨q, hq⟩ := hdv
      have hq' : (m2 : Int) / (p : Int) = (q : Int) := by rw [← Int.natCast_ediv, hq, Nat.mul_div_cancel_left _ (by omega)]
      have hq0 : 1 ≤ q := by
        rcases Nat.eq_zero_or_pos q with h | h
        · rw [h] at hq; omega
        · exact h
      have hql : q < m2 := by
        have h3 : 2 * q ≤ p * q := Nat.mul_le_mul_right _ hp
        omega
      rw [hq']
      have e3 : c2 * p * q = n := by rw [Nat.mul_assoc, ← hq]; exact hcm4
      have hstep := hR4.step (p := p) (u := u) (v := v) (by omega)
      have hbst := hB4.step (p := p) hT (by rw [hel]; omega)
      rw [← ht] at hstep
      refine ⟨⟨(q, e2.set p (e2.getD p 0 + t), c2 * p), ⟨hq0, e3, Nat.mul_pos hc4 (by omega), ?_, hbst.mono ?_, fun d h1 h2 h3 => hd4 d h1 h2 (by rw [hq]; exact Nat.dvd_trans h3 (Nat.dvd_mul_left q p)), hE4.chg hc5 z1, hb5, hb4'.chg hc5 (by omega)⟩, hql, rfl, trivial⟩, (by (repeat (first | exact agree_mask _ _ _ | refine agree_upd rfl ?_ | refine agree_updO rfl ?_ | refine agree_overIn rfl ?_ | refine agree_maskIn rfl ?_)))⟩
      · simp only [Nat.mul_pow]
        rw [← Nat.mul_assoc, ← Nat.mul_assoc]; exact hstep
      · simp only
        have h3 : T * (c2 + 1) ≤ T * (c2 * p) := Nat.mul_le_mul_left _ (by
          have : c2 * 2 ≤ c2 * p := Nat.mul_le_mul_left _ hp
          omega)
        rw [Nat.mul_add] at h3; omega
    · have hnd : ¬ p ∣ m2 := fun h => by
        obtain ⟨q, hq⟩ := h
        apply hc
        rw [hq, Int.natCast_mul, Int.mul_emod_right]
      refine ⟨⟨(p + 1, m2, e2, c2), ⟨by simp only; omega, hm4, hcm4, hc4, hR4, hB4, fun d h1 h2 => ?_, hE4, hb4, hb4'⟩, by simp only; omega, rfl, rfl, trivial⟩, (by (repeat (first | exact agree_mask _ _ _ | refine agree_upd rfl ?_ | refine agree_updO rfl ?_ | refine agree_overIn rfl ?_ | refine agree_maskIn rfl ?_)))⟩
      have h2 : d < p + 1 := h2
      by_cases e : d = p
      · subst e; exact hnd
      · exact hd4 d h1 (by omega)
  · obtain rfl : m = 1 := by omega
    rw [Nat.mul_one] at hcm
    subst hcm
    repeat' (first | (refine k_loadCA rfl hb3 (by simp [hR3.1]) ?_) | (refine k_storeV rfl rfl (by simp [hR3.1]) (all_one (fun _ => rfl) _) hb3' (by simp [num0_len]) (fun w4 hc4 hb4 => ⟨fun _ _ => trivial, ?_⟩)) | (refine then_normal ?_) | (refine rr_nil ?_) | (refine cw_ret ?_))
    exact ret1 rfl (rc rfl (by simp [hR3.1]) hb4) ⟨e1, rfl, hR3, hB3.mono (Nat.add_le_add_left (Nat.mul_le_mul_left _ hn.2) _), hE3.chg hc4 (by omega)⟩
end Go.Proofs.YthhfjagnmhhapaaGreat

