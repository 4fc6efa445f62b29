
import Derived.Test.YthhfjagnmhhapaaA01
import Derived.Test.YthhfjagnmhhapaaA02
import Derived.Test.YthhfjagnmhhapaaA03
import Derived.Test.YthhfjagnmhhapaaA04
import Derived.Test.YthhfjagnmhhapaaA05
import Derived.Test.YthhfjagnmhhapaaA06
import Derived.Test.YthhfjagnmhhapaaA07
import Derived.Test.YthhfjagnmhhapaaA08
import Derived.Test.YthhfjagnmhhapaaA09

namespace Go.Proofs.Ythhfjagnmhhapaa
open Go.W Go.PM
set_option maxHeartbeats 1000000 in
theorem extend_spec {n : Nat} {h : LH} {l : Lv} {w : World} (hL : LvAt w n h l) (hp : Part n l) (hgl : l.gens.length ≤ 1000000000000) :
    CallsR Try.prog 107 #[.pointer (some ⟨h.blk, 0, none⟩)] w fun v w' => v = .tuple #[] ∧ ∃ h' l', LvAt w' n h' l' ∧ LvOK n l' ∧ Grow l l' ∧ Fr (fun g => g ∈ h.F) w w' ∧ LhStep w h h' := by
  refine callsR_of (args := [_]) Try.func107 rfl rfl ?_
  have hn := hp.n1
  repeat' (first | (refine k_pure rfl ?_) | (refine then_normal ?_) | (refine cw_seq ?_) | (refine cw_region rfl ?_) | (refine rr_nil ?_) | (refine cw_block ?_))
  refine cw_loop (ι := Nat × LH × Lv) [2, 4, 5, 6, 7, 8, 9, 10, 11, 12, 13, 14, 15, 16, 17, 18, 19, 20, 21, 22, 23, 24, 25, 26, 27, 28, 29, 30, 31, 32, 33, 34, 35, 36, 37, 38, 39, 40, 41, 42, 43, 44, 45, 46, 47, 48, 49, 50, 51, 52, 53, 54, 55, 56, 57, 58, 59, 60, 61, 62, 63, 64, 65, 66, 67, 68, 69, 70, 71, 72, 73, 74, 75, 76, 77, 78, 79, 80, 81, 82, 83, 84, 85, 86, 87, 88, 89, 90, 91, 92, 93, 94, 95, 96, 97, 98, 99, 100, 101, 102, 103, 104, 105, 106, 107, 108, 109, 110] (fun s => [(2, .int .i64 (s.1 : Int))]) (fun s w' => LvAt w' n s.2.1 s.2.2 ∧ Part n s.2.2 ∧ Grow l s.2.2 ∧ Clo s.2.2 s.1 0 ∧ s.1 ≤ s.2.2.orb.length ∧ Fr (fun g => g ∈ h.F) w w' ∧ LhStep w h s.2.1) (fun s => n - s.1)
    (0, h, l) ⟨rfl, trivial⟩ ⟨hL, hp, Grow.refl l, ⟨fun i hi => absurd hi (by simp), fun j hj => absurd hj (by simp)⟩, Nat.zero_le _, Fr.refl _ _, LhStep.refl _ _⟩ ?_
  rintro ⟨a, h1, l1⟩ ξ w1 ⟨hL1, hp1, hg1, hc1, ha1, hf1, hs1⟩
  simp only at hL1 hp1 hg1 hc1 ha1 hs1
  show CW _ _ _ _ (over [(2, .int .i64 (a : Int))] _) w1
  have hb1 := hs1.blk
  have hstr := hL1.str
  have hol := hp1.orb_le
  rw [hb1] at hstr
  have hgl1 : l1.gens.length ≤ 1000000000000 := by rw [hg1.gens]; exact hgl
  repeat' (first | (refine k_loadC rfl hstr rfl ?_) | (refine k_pure rfl ?_) | (refine then_normal ?_) | (refine cw_seq ?_) | (refine cw_region rfl ?_) | (refine rr_nil ?_) | (refine k_len rfl ?_) | (refine k_fieldAddr rfl ?_) | (refine cw_cond_dec rfl (fun hc => ?_) (fun hc => ?_)) | (refine cw_block ?_) | (refine cw_exit ?_) | (refine then_exit ?_) | (refine in_exit ?_) | (refine cw_skip ?_))
  · have hao : a < l1.orb.length := by omega
    refine cw_loop (ι := Nat × LH × Lv) [4, 5, 6, 7, 8, 23, 24, 25, 26, 27, 28, 29, 30, 31, 32, 33, 34, 35, 36, 37, 38, 39, 40, 41, 42, 43, 44, 45, 46, 47, 48, 49, 50, 51, 52, 53, 54, 55, 56, 57, 58, 59, 60, 61, 62, 63, 64, 65, 66, 67, 68, 69, 70, 71, 72, 73, 74, 75, 76, 77, 78, 79, 80, 81, 82, 83, 84, 85, 86, 87, 88, 89, 90, 91, 92, 93, 94, 95, 96, 97, 98, 99, 100, 101, 102, 103, 104, 105, 106, 107, 108, 109, 110] (fun s => [(23, .int .i64 (s.1 : Int))]) (fun s w' => LvAt w' n s.2.1 s.2.2 ∧ Part n s.2.2 ∧ Grow l s.2.2 ∧ Clo s.2.2 a s.1 ∧ a < s.2.2.orb.length ∧ s.1 ≤ l1.gens.length ∧ Fr (fun g => g ∈ h.F) w w' ∧ LhStep w h s.2.1) (fun s => l1.gens.length - s.1)
      (0, h1, l1) ⟨rfl, trivial⟩ ⟨hL1, hp1, hg1, hc1, hao, Nat.zero_le _, hf1, hs1⟩ ?_
    rintro ⟨k, h2, l2⟩ ξ2 w2 ⟨hL2, hp2, hg2, hc2, ha2, hk2, hf2, hs2⟩
    simp only at hL2 hp2 hg2 hc2 ha2 hk2 hs2
    show CW _ _ _ _ (over [(23, .int .i64 (k : Int))] _) w2
    have hb2 := hs2.blk
    have hstr2 := hL2.str
    rw [hb2] at hstr2
    have hgg : l2.gens = l1.gens := by rw [hg2.gens, hg1.gens]
    have ega : h2.ga = h1.ga := by rw [hs2.ga, hs1.ga]
    have egs : h2.gs = h1.gs := by rw [hs2.gs, hs1.gs]
    have hga2 := hL2.ga
    rw [ega, egs] at hga2
    have hgs2 := hL2.gs
    rw [hgg, egs] at hgs2
    have hglen := hgs2.len
    obtain ⟨⟨sa, sl, sc⟩, hsdj⟩ : ∃ s, h1.gs.getD k sd0 = s := ⟨_, rfl⟩
    repeat' (first | (refine k_indexN rfl rfl (hga2.plain (by simp; omega)) (by omega) ?_) | (refine k_loadSd rfl hga2 (by omega) hsdj ?_) | (refine k_pure rfl ?_) | (refine then_normal ?_) | (refine cw_seq ?_) | (refine cw_region rfl ?_) | (refine rr_nil ?_) | (refine k_addI rfl rfl (by omega) (by omega) ?_) | (refine k_fieldAddr rfl ?_) | (refine cw_cond_dec rfl (fun hc => ?_) (fun hc => ?_)) | (refine cw_block ?_) | (refine cw_exit ?_) | (refine then_exit ?_) | (refine in_exit ?_) | (refine in_normal ?_) | (refine cw_skip ?_))
    · have hkg : k < l1.gens.length := by omega
      have hgP := hp1.gens _ (getD_mem (d := []) hkg)
      have hsl := hgs2.sl k hkg
      have hsn := hgs2.n k hkg
      have hsi := hgs2.im k hkg
      have hkey : l2.gens.getD k [] = l1.gens.getD k [] := by rw [hgg]
      generalize hgk : l1.gens.getD k [] = g at *
      rw [hsdj] at hsl hsn hsi
      simp only at hsl hsn hsi
      subst hsn
      have hx := hp2.orb_in (getD_mem (d := 0) ha2)
      have hyr := hgP.ap hx
      obtain ⟨x, hx'⟩ : ∃ m : Nat, l2.orb.getD a 0 = (m : Int) := ⟨(l2.orb.getD a 0).toNat, by omega⟩
      obtain ⟨y, hy'⟩ : ∃ m : Nat, g.getD x 0 = (m : Int) := ⟨(g.getD x 0).toNat, by unfold ap at hyr; rw [hx', Int.toNat_natCast] at hyr; omega⟩
      have hap : ap g (l2.orb.getD a 0) = (y : Int) := by unfold ap; rw [hx', Int.toNat_natCast, hy']
      have hyn : y < sl := by omega
      have hxn : x < sl := by omega
      have hgl' : g.length = sl := hgP.2
      have horb := hL2.orb.sl
      have hwh := hL2.wh.sl
      have hol2 := hp2.orb_le
      have hwb : h2.wb = h.wb := hs2.wb
      repeat' (first | (refine k_loadC rfl hstr2 rfl ?_) | (refine k_indexN (j := a) rfl rfl ⟨_, _, rfl⟩ (by omega) ?_) | (refine k_loadI rfl horb (by omega) ?_) | (refine k_indexN (j := x) (a := sa) (l := sl) (c := sc) rfl (congrArg _ hx') (hsl.plain (by simp; omega)) (by omega) ?_) | (refine k_loadI rfl hsl (by omega) ?_) | (refine k_convI rfl (wrap_i64 (by omega) (by omega)) ?_) | (refine k_indexN (j := y) rfl (congrArg _ hy') ⟨_, _, rfl⟩ (by omega) ?_) | (refine k_loadI rfl hwh (by rw [whereL_len]; omega) ?_) | (refine k_pure rfl ?_) | (refine then_normal ?_) | (refine cw_seq ?_) | (refine cw_region rfl ?_) | (refine rr_nil ?_) | (refine k_len rfl ?_) | (refine k_addI rfl rfl (by omega) (by omega) ?_) | (refine k_fieldAddr rfl ?_) | (refine cw_cond_dec rfl (fun hc => ?_) (fun hc => ?_)) | (refine cw_exit ?_) | (refine then_exit ?_) | (refine in_exit ?_) | (refine cw_skip ?_))
      · rw [whereL_getD _ hyn] at *
        have hm : (y : Int) ∈ l2.orb := Classical.byContradiction fun hc' => by unfold whereAt at hc; rw [if_neg hc'] at hc; omega
        refine ⟨⟨(k + 1, h2, l2), ⟨hL2, hp2, hg2, hc2.skip (by rw [hkey, hap]; exact hm), ha2, by simp only; omega, hf2, hs2⟩, by simp only; omega, rfl, trivial⟩, (by (repeat (first | exact agree_mask _ _ _ | refine agree_upd rfl ?_ | refine agree_updO rfl ?_ | refine agree_overIn rfl ?_ | refine agree_maskIn rfl ?_)))⟩
      · rw [whereL_getD _ hyn] at *
        have hm : (y : Int) ∉ l2.orb := fun hm => by unfold whereAt at hc; rw [if_pos hm] at hc; omega
        have hbk := hL2.bk.sl
        have hbn := hL2.bs.n a (by rw [hp2.len]; exact ha2)
        have hbs := hL2.bs.sl a (by rw [hp2.len]; exact ha2)
        have hbl := hL2.bs.len
        have hbp := (gen_grp hp2.n1 hp2.gens).perm _ (hp2.bin a ha2)
        unfold Lv.bk at hbp
        have hla := hp2.len
        repeat' (first | (refine k_makeI (n := sl) rfl rfl (by omega) (by omega) (fun gb w3 hn3 => ⟨fun _ _ => trivial, ?_⟩)) | (refine k_pure rfl ?_) | (refine then_normal ?_) | (refine cw_seq ?_) | (refine cw_region rfl ?_) | (refine rr_nil ?_) | (refine k_fieldAddr rfl ?_))
        have hE3 := hn3.ex
        have hstr3 := hstr2.ext hE3
        have hbk3 := hbk.ext hE3
        have hbs3 := hbs.ext hE3
        have hsl3 := hsl.ext hE3
        generalize hba : l2.back.getD a [] = b at *
        obtain ⟨⟨ta, tl, tc⟩, hsda⟩ : ∃ s, h2.bs.getD a sd0 = s := ⟨_, rfl⟩
        rw [hsda] at hbs hbs3 hbn
        simp only at hbs hbs3 hbn
        subst hbn
        have hbl' : b.length = tl := hbp.2
        repeat' (first | (refine k_loadC rfl hstr3 rfl ?_) | (refine k_indexN (j := a) rfl rfl ⟨_, _, rfl⟩ (by omega) ?_) | (refine k_loadSd rfl hbk3 (by omega) hsda ?_) | (refine k_pure rfl ?_) | (refine then_normal ?_) | (refine rr_nil ?_) | (refine k_len rfl ?_) | (refine cw_block ?_))
        refine cw_loop (ι := Nat) [7, 8, 57, 58, 59, 60, 61, 62, 63, 64, 65, 66, 67, 68, 69] (fun s => [(57, .int .i64 (s : Int))]) (fun s w' => s ≤ tl ∧ Ex w2 w' ∧ Blk w' gb 129 (u16L (scat g b s))) (fun s => tl - s)
          0 ⟨rfl, trivial⟩ ⟨Nat.zero_le _, hE3, by have := hn3.blk; unfold scat; rw [hgl']; exact this⟩ ?_
        rintro j ξ3 w4 ⟨hj, hE4, hb4⟩
        show CW _ _ _ _ (over [(57, .int .i64 (j : Int))] _) w4
        have hbs4 := hbs.ext hE4
        have hsl4 := hsl.ext hE4
        obtain ⟨z, hz⟩ : ∃ m : Nat, j < tl → g.getD j 0 = (m : Int) := ⟨(g.getD j 0).toNat, fun h => by have := hgP.1.lt (k := j) (by omega); omega⟩
        have hzn : j < tl → z < tl := fun h => by have := hgP.1.lt (k := j) (by omega); have := hz h; omega
        repeat' (first | (refine k_indexN (j := j) (a := ta) (l := tl) (c := tc) rfl rfl (hbs4.plain (by simp; omega)) (by omega) ?_) | (refine k_indexN (j := j) (a := sa) (l := tl) (c := sc) rfl rfl (hsl4.plain (by simp; omega)) (by omega) ?_) | (refine k_loadI (a := ta) rfl hbs4 (by omega) ?_) | (refine k_loadI (a := sa) rfl hsl4 (by omega) ?_) | (refine k_indexN (j := z) (l := tl) rfl (congrArg _ (hz (by omega))) ⟨_, _, rfl⟩ (hzn (by omega)) ?_) | (refine k_storeI (j := z) rfl rfl hb4 (by rw [scat_len]; have := hzn (by omega); omega) (fun w5 hc5 hb5 => ⟨fun _ _ => trivial, ?_⟩)) | (refine k_pure rfl ?_) | (refine then_normal ?_) | (refine cw_seq ?_) | (refine cw_region rfl ?_) | (refine rr_nil ?_) | (refine k_addI rfl rfl (by omega) (by omega) ?_) | (refine cw_cond_dec rfl (fun hc => ?_) (fun hc => ?_)) | (refine cw_block ?_) | (refine cw_exit ?_) | (refine then_exit ?_) | (refine in_exit ?_) | (refine in_normal ?_) | (refine cw_skip ?_))
        · refine ⟨⟨j + 1, ⟨by omega, hE4.chg hc5 hn3.lo, ?_⟩, by omega, rfl, trivial⟩, (by (repeat (first | exact agree_mask _ _ _ | refine agree_upd rfl ?_ | refine agree_updO rfl ?_ | refine agree_overIn rfl ?_ | refine agree_maskIn rfl ?_)))⟩
          have e : (g.getD j 0).toNat = z := by have := hz (by omega); omega
          rw [scat, e]; exact hb5
        · obtain rfl : j = tl := by omega
          have hstr4 := hstr2.ext hE4
          have hwh4 := hL2.wh.ext hE4
          have horb4 := hL2.orb.ext hE4
          have hbk4 := hL2.bk.ext hE4
          have hdn4 := hL2.dn.ext hE4
          refine cw_draw (late := [11]) (plan := [(0, none), (1, none), (2, none), (3, none), (4, none), (5, none), (6, none), (7, none), (8, none), (9, none), (10, none), (11, some false)]) (fun w' => Blk w' h.blk 95 (lvL j h2 l2)) mixed (by kernel_rfl) hstr4.drew ?_
          repeat' (first | (refine k_loadC rfl (fun _ h => h) rfl ?_) | (refine k_indexN (j := y) rfl (congrArg _ hy') ⟨_, _, rfl⟩ (by omega) ?_) | (refine k_storeI (j := y) rfl rfl hwh4.drew (by rw [whereL_len]; omega) (fun w5 hc5 hb5 => ⟨fun h => (nomatch h), ?_⟩)) | (refine k_pure rfl ?_) | (refine then_normal ?_) | (refine cw_seq ?_) | (refine cw_region rfl ?_) | (refine rr_nil ?_) | (refine k_len rfl ?_) | (refine k_fieldAddr rfl ?_))
          have nd := hL2.nd
          have lt := hL2.lt
          have dis := hL2.dis
          simp only [LH.F, List.mem_cons, List.not_mem_nil, or_false, List.nodup_cons, not_or, not_false_eq_true, and_true, List.nodup_nil] at nd lt dis
          obtain ⟨⟨n1, n2, n3, n4⟩, ⟨n5, n6, n7⟩, ⟨n8, n9⟩, n10⟩ := nd
          have l1' := lt _ (.inl rfl); have l2' := lt _ (.inr (.inl rfl)); have l3' := lt _ (.inr (.inr (.inl rfl))); have l4' := lt _ (.inr (.inr (.inr (.inl rfl)))); have l5' := lt _ (.inr (.inr (.inr (.inr rfl))))
          rw [hb2] at n1 n2 n3 n4 l1'
          have f5 := f1C hc5
          have s4 : w2.heap.size ≤ w4.heap.size := hE4.size
          have s5 : w4.heap.size ≤ w5.heap.size := f5.size
          have gb2 := hn3.lo
          have gb4 := hb4.lt
          have str5 := Blk.f1 hstr4.drew f5 n2
          have orb5 := Own.f1 horb4.drew f5 n5
          have bk5 := Own.f1 hbk4.drew f5 (Ne.symm n8)
          have dn5 := Own.f1 hdn4.drew f5 (Ne.symm n9)
          have b5 := Blk.f1 hb4.drew f5 (by omega)
          repeat' (first | (refine k_loadC rfl str5 rfl ?_) | (refine k_app1I rfl (congrArg _ hy') rfl rfl orb5 (by omega) (by omega) (Nat.zero_le _) (fun gx6 a6 c6 w6 ho6 hg6 hA6 => ?_)) | (refine k_storeC rfl rfl rfl (Blk.f1 str5 (f1G hg6) n1) rfl (fun w7 hc7 hs7 => ⟨fun _ _ => trivial, ?_⟩)) | (refine k_pure rfl ?_) | (refine then_normal ?_) | (refine cw_seq ?_) | (refine cw_region rfl ?_) | (refine rr_nil ?_) | (refine k_fieldAddr rfl ?_))
          obtain ⟨o6, rfl⟩ := Own.ba ho6
          replace hA6 := addr_or hA6
          have lo6 : o6 < w6.heap.size := (ho6.lo _ rfl).2
          have f6 := f1G hg6
          have f7 := f1C hc7
          have s6 : w5.heap.size ≤ w6.heap.size := f6.size
          have s7 : w6.heap.size ≤ w7.heap.size := f7.size
          have orb7 := Own.f1 ho6 f7 (by omega)
          have wh7 := Blk.f1 (Blk.f1 hb5 f6 (Ne.symm n5)) f7 (Ne.symm n2)
          have bk7 := Own.f1 (Own.f1 bk5 f6 (Ne.symm n6)) f7 (Ne.symm n3)
          have dn7 := Own.f1 (Own.f1 dn5 f6 (Ne.symm n7)) f7 (Ne.symm n4)
          have b7 := Blk.f1 (Blk.f1 b5 f6 (by omega)) f7 (by omega)
          repeat' (first | (refine k_loadC rfl hs7 rfl ?_) | (refine k_app1S rfl rfl rfl rfl bk7 (by omega) (by omega) (Nat.zero_le _) (fun gx8 a8 c8 w8 ho8 hg8 hA8 => ?_)) | (refine k_storeC rfl rfl rfl (Blk.f1 hs7 (f1G hg8) n3) rfl (fun w9 hc9 hs9 => ⟨fun _ _ => trivial, ?_⟩)) | (refine k_pure rfl ?_) | (refine then_normal ?_) | (refine cw_region rfl ?_) | (refine rr_nil ?_) | (refine k_fieldAddr rfl ?_))
          obtain ⟨b8, rfl⟩ := Own.ba ho8
          replace hA8 := addr_or hA8
          have lo8 : b8 < w8.heap.size := (ho8.lo _ rfl).2
          have f8 := f1G hg8
          have f9 := f1C hc9
          have s8 : w7.heap.size ≤ w8.heap.size := f8.size
          have s9 : w8.heap.size ≤ w9.heap.size := f9.size
          have bk9 := Own.f1 ho8 f9 (by omega)
          have orb9 := Own.f1 (Own.f1 orb7 f8 (by omega)) f9 (by omega)
          have wh9 := Blk.f1 (Blk.f1 wh7 f8 (by omega)) f9 (by omega)
          have dn9 := Own.f1 (Own.f1 dn7 f8 (by omega)) f9 (by omega)
          have b9 := Blk.f1 (Blk.f1 b7 f8 (by omega)) f9 (by omega)
          repeat' (first | (refine k_loadC rfl hs9 rfl ?_) | (refine k_app1N (u := 0) rfl rfl rfl rfl dn9 (by have := hp2.dlen; omega) (by have := hp2.dlen; omega) (Nat.zero_le _) (fun gx10 a10 c10 w10 ho10 hg10 hA10 => ?_)) | (refine k_storeC rfl rfl rfl (Blk.f1 hs9 (f1G hg10) n4) rfl (fun w11 hc11 hs11 => ⟨fun _ _ => trivial, ?_⟩)) | (refine k_pure rfl ?_) | (refine then_normal ?_) | (refine cw_region rfl ?_) | (refine rr_nil ?_) | (refine k_addI rfl rfl (by omega) (by omega) ?_) | (refine k_fieldAddr rfl ?_) | (refine in_normal ?_))
          obtain ⟨d10, rfl⟩ := Own.ba ho10
          replace hA10 := addr_or hA10
          have f10 := f1G hg10
          have f11 := f1C hc11
          have s10 : w9.heap.size ≤ w10.heap.size := f10.size
          have s11 : w10.heap.size ≤ w11.heap.size := f11.size
          have dn11 := Own.f1 ho10 f11 (by omega)
          have orb11 := Own.f1 (Own.f1 orb9 f10 (by omega)) f11 (by omega)
          have bk11 := Own.f1 (Own.f1 bk9 f10 (by omega)) f11 (by omega)
          have wh11 := Blk.f1 (Blk.f1 wh9 f10 (by omega)) f11 (by omega)
          have b11 := Blk.f1 (Blk.f1 b9 f10 (by omega)) f11 (by omega)
          have mF : h.blk ∈ h2.F ∧ h2.ob ∈ h2.F ∧ h2.wb ∈ h2.F ∧ h2.bb ∈ h2.F ∧ h2.db ∈ h2.F := by rw [← hb2]; simp [LH.F]
          have hfr : Fr (fun g => g ∈ h2.F) w2 w11 := (hE4.drew.fr.trans ((Fr.sub1 f5 (F := fun g => g ∈ h2.F) mF.2.2.1).trans ((Fr.sub1 f6 (F := fun g => g ∈ h2.F) mF.2.1).trans ((Fr.sub1 f7 (F := fun g => g ∈ h2.F) mF.1).trans ((Fr.sub1 f8 (F := fun g => g ∈ h2.F) mF.2.2.2.1).trans ((Fr.sub1 f9 (F := fun g => g ∈ h2.F) mF.1).trans ((Fr.sub1 f10 (F := fun g => g ∈ h2.F) mF.2.2.2.2).trans (Fr.sub1 f11 (F := fun g => g ∈ h2.F) mF.1))))))))
          have imlt := hL2.imlt
          rw [scat_eq hgP] at b11
          rw [whereL_set hyn hm] at wh11
          have hdisF : ∀ g, g ∈ h2.im → ¬ g ∈ h2.F := fun g hg hf => hL2.dis g hf hg
          have hF' : ∀ g, g ∈ h2.F → g = h.blk ∨ g = h2.ob ∨ g = h2.wb ∨ g = h2.bb ∨ g = h2.db := by rw [← hb2]; simp [LH.F]
          have im1 := dis _ (.inl rfl); have im2 := dis _ (.inr (.inl rfl)); have im3 := dis _ (.inr (.inr (.inl rfl))); have im4 := dis _ (.inr (.inr (.inr (.inl rfl)))); have im5 := dis _ (.inr (.inr (.inr (.inr rfl))))
          have hadd := hp2.add ha2 (k := k) (by rw [hgg]; exact hkg) (by rw [hkey, hap]; exact hm)
          have hcad := hc2.add ha2 (mulP (inv g) b)
          rw [hkey, hap] at hadd hcad
          unfold Lv.bk at hadd
          rw [hba] at hadd
          refine ⟨⟨(k + 1, { h2 with ob := o6, oc := c6, bb := b8, bc := c8, bs := h2.bs ++ [⟨ba gb, j, j⟩], db := d10, dc := c10, im := gb :: h2.im }, l2.add y (mulP (inv g) b)), ⟨?_, hadd, hg2.add _ _, hcad, ?_, by simp only; omega, hf2.then hfr (fun i hi hm => (hs2.F i hm).resolve_right (by omega)), ?_⟩, by simp only; omega, rfl, trivial⟩, (by (repeat (first | exact agree_mask _ _ _ | refine agree_upd rfl ?_ | refine agree_updO rfl ?_ | refine agree_overIn rfl ?_ | refine agree_maskIn rfl ?_)))⟩
          · refine ⟨?_, ?_, wh11, ?_, ?_, ?_, hL2.ga.fr hfr fun ad e => hdisF _ (hL2.gim ad e), fun ad e => List.mem_cons_of_mem _ (hL2.gim ad e), (hL2.gs.fr hfr hdisF).mono fun g hg => List.mem_cons_of_mem _ hg, ?_, ?_, ?_, hL2.gcap⟩
            · rw [← hb2] at hs11
              have e : lvL j { h2 with ob := o6, oc := c6, bb := b8, bc := c8, bs := h2.bs ++ [⟨ba gb, j, j⟩], db := d10, dc := c10, im := gb :: h2.im } (l2.add y (mulP (inv g) b)) = [.int .i64 l2.pt, .slice h2.ga l2.gens.length h2.gc, .slice (ba o6) (l2.orb.length + 1) c6, .slice (ba h2.wb) j j, .slice (ba b8) (l2.back.length + 1) c8, .slice (ba d10) (l2.done.length + 1) c10] := by simp [lvL, Lv.add]
              rw [e]; exact hs11
            · have e : (l2.add y (mulP (inv g) b)).orb.length = l2.orb.length + 1 := by simp [Lv.add]
              rw [e]; exact orb11
            · have e : (l2.add y (mulP (inv g) b)).back.length = l2.back.length + 1 := by simp [Lv.add]
              rw [e]; exact bk11
            · exact ((hL2.bs.fr hfr hdisF).mono fun g hg => List.mem_cons_of_mem _ hg).snoc b11.sl rfl (by rintro _ ⟨⟩; simp)
            · have e : (l2.add y (mulP (inv g) b)).done.length = l2.done.length + 1 := by simp [Lv.add]
              rw [e]; exact dn11
            · simp only [LH.F, List.mem_cons, List.not_mem_nil, or_false, List.nodup_cons, not_or, not_false_eq_true, and_true, List.nodup_nil, hb2]
              refine ⟨⟨?_, ?_, ?_, ?_⟩, ⟨?_, ?_, ?_⟩, ⟨?_, ?_⟩, ?_⟩ <;> omega
            · intro q hq hq'
              simp only [LH.F, List.mem_cons, List.not_mem_nil, or_false, hb2] at hq hq'
              rcases hq' with rfl | hq'
              · omega
              · have := imlt q hq'
                rcases hq with rfl | rfl | rfl | rfl | rfl
                · exact im1 (by rw [hb2]; exact hq')
                · rcases hA6 with rfl | h6
                  · exact im2 hq'
                  · omega
                · exact im3 hq'
                · rcases hA8 with rfl | h6
                  · exact im4 hq'
                  · omega
                · rcases hA10 with rfl | h6
                  · exact im5 hq'
                  · omega
            · intro q hq
              simp only [List.mem_cons] at hq
              rcases hq with rfl | hq
              · omega
              · have := imlt q hq; omega
          · simp [Lv.add]; omega
          · have sw : w.heap.size ≤ w2.heap.size := hf2.size
            refine ⟨hb2, hwb, hs2.ga, hs2.gc, hs2.gs, fun q hq => ?_, fun q hq => ?_, fun q hq => List.mem_cons_of_mem _ (hs2.sub q hq)⟩
            · have hq2 : q ∈ h2.F ∨ w2.heap.size ≤ q := by
                simp only [LH.F, List.mem_cons, List.not_mem_nil, or_false, hb2] at hq
                rcases hq with rfl | rfl | rfl | rfl | rfl
                · exact .inl mF.1
                · rcases hA6 with rfl | h6
                  · exact .inl mF.2.1
                  · exact .inr (by omega)
                · exact .inl mF.2.2.1
                · rcases hA8 with rfl | h6
                  · exact .inl mF.2.2.2.1
                  · exact .inr (by omega)
                · rcases hA10 with rfl | h6
                  · exact .inl mF.2.2.2.2
                  · exact .inr (by omega)
              rcases hq2 with hq2 | hq2
              · exact hs2.F q hq2
              · exact .inr (by omega)
            · simp only [List.mem_cons] at hq
              rcases hq with rfl | hq
              · exact .inr (by omega)
              · exact hs2.im q hq
    · obtain rfl : k = l1.gens.length := by omega
      have hcn : Clo l2 (a + 1) 0 := Clo.next (by rw [hgg]; exact hc2)
      refine ⟨⟨(a + 1, h2, l2), ⟨hL2, hp2, hg2, hcn, ha2, hf2, hs2⟩, by simp only; omega, rfl, trivial⟩, (by (repeat (first | exact agree_mask _ _ _ | refine agree_upd rfl ?_ | refine agree_updO rfl ?_ | refine agree_overIn rfl ?_ | refine agree_maskIn rfl ?_)))⟩
  · obtain rfl : a = l1.orb.length := by omega
    exact end0 rfl ⟨rfl, h1, l1, hL1, hp1.ok hc1, hg1, hf1, hs1⟩
end Go.Proofs.Ythhfjagnmhhapaa

namespace Go.W
section
variable {P : Program} {S : World → Prop} {ops : List Oper} {K : Env → World → Prop} {rest : List (Oper × Option Bool)} {ρ : Env} {w : World} {b : Option Bool} {kf : Bool} {d : Nat} {dst : Option Nat} {T T' : TypeId} {pos : String} {af : Array Edge}
theorem k_clip {x hi mx : Operand} {a : Option Addr} {l c E s y : Nat} {k k' : IntKind} [hT : Slc P T' E s y] (hx : ev ρ x = .slice a l c) (hh : ev ρ hi = .int k (l : Int)) (hm : ev ρ mx = .int k' (l : Int)) (h1 : l ≤ c)
    (h : RR P S ops K rest (upd ρ d (.slice a l l)) w) : RR P S ops K ((⟨some d, .slice T' x none (some hi) (some mx), T, pos, af, none⟩, b) :: rest) ρ w := by
  refine rr_pure rfl (fun w' => ?_) h
  obtain ⟨i0, hi0, hz⟩ := Option.map_eq_some_iff.1 hT.sz
  have e : a.map (fun x => x.add 0) = a := by cases a <;> simp [Addr.add]
  simp [execOp, Instr.sliceAt, Instr.slice, Instr.sliceBounds, Instr.sliceBound, hx, hh, hm, asIntOf, underlying, hT.un, sizeOf, typeInfo, hi0, h1, e]
theorem k_lit1 {T1 E y : Nat} {x : Operand} {v z : Value} [hT : Slc P T1 E 1 y] [hz : Zro P E z] (hx : nv (ev ρ x) = some v) (hv : v.oneCell' = true)
    (h : ∀ g w', New w w' g E [v] → (kf = true → S w → S w') ∧ RR P S ops K rest (upd ρ d (.slice (some ⟨g, 0, none⟩) 1 1)) w') :
    RR P S ops K ((⟨some d, .buildSlice T1 1 #[(0, x)], T, pos, af, none⟩, some kf) :: rest) ρ w := by
  have c0 : v.cells = #[v] := by cases v <;> simp [Value.oneCell'] at hv <;> rfl
  rw [nv_eq] at hx
  injection hx with hx
  exact k_lit (E := E) (s := 1) (z := z) (cs := #[v]) rfl (by
    simp only [List.map_toArray, List.map_cons, List.map_nil, hx]
    rw [← c0]
    exact fill_one (by rw [c0]; rfl) (by simp)) h
theorem Own.capLe {w : World} {lo T s n cap : Nat} {a : Option Addr} {vs : List Value} (h : Own w lo T s a n cap vs) : n ≤ cap := by
  rcases h.2 with ⟨hv, hn⟩ | ⟨g, c, cur, hv, _, _, h1, _⟩
  · omega
  · have : Value.slice a n cap = .slice (some ⟨g, 0, none⟩) n c := hv
    injection this with _ _ e
    omega
/-- append(x, y) where x is full: a new row -/
theorem k_appendFull {T1 E y n c : Nat} {x1 x2 : Operand} {a : Option Addr} {g : Nat} {vs : List Value} {v z : Value} [hT : Slc P T1 E 1 y] [hz : Zro P E z] (h1 : ev ρ x1 = .slice a n n) (h2 : ev ρ x2 = .slice (some ⟨g, 0, none⟩) 1 c)
    (hzs : (Nat.beq z.cells.size 1) = true) (hvs : Sl w a vs) (hn : vs.length = n) (hnews : Sl w (some ⟨g, 0, none⟩) [v]) (hv : v.oneCell' = true) (hm : n + 1 ≤ 9223372036854775807) (hb : (n + 1) * y ≤ 140737488355328)
    (h : ∀ g' cap' w', w.heap.size ≤ g' → Own w' w.heap.size E 1 (some ⟨g', 0, none⟩) (n + 1) cap' (vs ++ [v]) → Ex w w' → (kf = true → S w → S w') ∧ RR P S ops K rest (upd ρ d (.slice (some ⟨g', 0, none⟩) (n + 1) cap')) w') :
    RR P S ops K ((⟨some d, .call ⟨.builtin .append, #[x1, x2], #[T1, T1]⟩, T, pos, af, none⟩, some kf) :: rest) ρ w := by
  cases a with
  | none =>
    have hvn : vs = [] := Classical.byContradiction fun hne => by obtain ⟨_, _, e⟩ := hvs.ok hne; cases e
    subst hvn
    obtain rfl : n = 0 := hn.symm
    refine k_append (z := z) (s := 1) (c := c) (hzs := Nat.eq_of_beq_eq_true hzs) (hs := rfl) (news := [v]) (vs := []) (lo := w.heap.size) (h1 := h1) (h2 := h2) (hown := Own.nil _ _ _ _) (hnews := hnews) (hp := ⟨_, _, rfl⟩) (hl := rfl) (ho := by simp [hv]) (hm := by omega) (hb := hb) (hlo := Nat.le_refl _) ?_
    intro a' cap' w' ho' hg hA
    have hex : Ex w w' := grown_ex hg (Ex.refl _) (by simp)
    rcases ho'.2 with ⟨_, h0⟩ | ⟨g', c', cur, hv', hg', r⟩
    · omega
    · have e : a' = some ⟨g', 0, none⟩ := by
        have : Value.slice a' (0 + 1) cap' = .slice (some ⟨g', 0, none⟩) (0 + 1) c' := hv'
        injection this
      subst e
      exact h g' cap' w' hg' ho' hex
  | some ad =>
    refine rr_eff rfl ?_
    unfold OpW
    obtain ⟨i0, hi0, hzz⟩ := Option.map_eq_some_iff.1 hT.sz
    simp only [Prod.mk.injEq] at hzz
    obtain ⟨i1, hi1, hz1⟩ := Option.map_eq_some_iff.1 hz.ok
    rw [hi0] at hi1
    simp only [Option.some.injEq] at hi1
    subst hi1
    have hadd : ∀ (gg oo n : Nat), (⟨gg, oo, none⟩ : Addr).add n = ⟨gg, oo + n, none⟩ := fun gg oo n => by unfold Addr.add; split <;> simp_all
    have hnews' : ∀ j u, [v][j]? = some u → w.cell? ((⟨g, 0, none⟩ : Addr).add j) = some u := fun j u hu => by
      have hj : j < [v].length := (List.getElem?_eq_some_iff.1 hu).1
      have := hnews.get j hj
      rw [hadd]
      simp only [elt] at this
      rw [this, List.getD_eq_getElem?_getD, hu]; rfl
    have holds : ∀ j u, vs[j]? = some u → w.cell? (ad.add j) = some u := fun j u hu => by
      have hj : j < vs.length := (List.getElem?_eq_some_iff.1 hu).1
      have := hvs.get j hj
      obtain ⟨gg, oo, e⟩ := hvs.plain (by omega)
      injection e with e
      subst e
      rw [hadd]
      simp only [elt] at this
      rw [this, List.getD_eq_getElem?_getD, hu]; rfl
    have hr := run_append_grow (P := P) w T1 T E i0 z hT.un hi0 hz1 ad n n vs (by rw [hzz.1, hn, Nat.mul_one]) holds ⟨g, 0, none⟩ 1 c [v] (by rw [hzz.1]; rfl) hnews' (by omega) (by omega) (by rw [hzz.2]; exact growslice_fits (by omega) hb)
    have hx : ∀ v' w', (Builtin.append_ #[T1, T1] T #[.slice (some ad) n n, .slice (some ⟨g, 0, none⟩) 1 c]).run P w = .ok v' w' →
        (execOp (ev ρ) ⟨some d, .call ⟨.builtin .append, #[x1, x2], #[T1, T1]⟩, T, pos, af, none⟩).run P w = .ok (.value v') w' := fun v' w' hr => by simp [execOp, resolve, invoke, builtin, h1, h2, hr]
    rw [hx _ _ hr]
    have hge := grownCap_ge w (n + 1) n E
    have hcm : grownCap w (n + 1) n E ≤ maxLen := grownCap_le_maxLen w (n + 1) n E (by unfold maxLen; omega)
    refine h w.heap.size _ _ (Nat.le_refl _) ⟨by simp [hn], .inr ⟨w.heap.size, _, _, rfl, Nat.le_refl _, heap_alloc_new w.drew _, hge, hcm, ?_, ?_⟩⟩ ?_
    · simp only [Array.size_append, List.size_toArray, size_zeroCells, Nat.eq_of_beq_eq_true hzs, hn, List.length_singleton]
      omega
    · simp only [Array.toList_append, List.append_assoc]
      rw [← List.append_assoc, List.take_left' (by simp [hn])]
    · exact (Ex.refl w).drew.trans (Ex.alloc _ _)
end
end Go.W
namespace Go.Proofs.Ythhfjagnmhhapaa
open Go.W Go.PM
theorem clip_spec {a : Option Addr} {l c : Nat} {w : World} (h : l ≤ c) : CallsR Try.prog 106 #[.slice a l c] w fun v w' => v = .slice a l l ∧ w = w' := by
  refine callsR_of (args := [_]) Try.func106 rfl rfl ?_
  repeat' (first | (refine k_clip rfl rfl rfl h ?_) | (refine k_pure rfl ?_) | (refine then_normal ?_) | (refine cw_seq ?_) | (refine cw_region rfl ?_) | (refine rr_nil ?_) | (refine k_len rfl ?_) | (refine cw_ret ?_))
  exact ret1 rfl (rt rfl) ⟨rfl, rfl⟩
theorem lvWith_spec {n : Nat} {h : LH} {l : Lv} {g : List Int} {sa : Option Addr} {w : World} (hL : LvAt w n h l) (ok : LvOK n l) (hg : PermN n g) (hsl : Sl w sa (u16L g)) (sc : Nat) (hgb : ∀ ad, sa = some ad → ad.block ∉ h.F) (hgl : l.gens.length < 1000000000000) :
    CallsR Try.prog 134 #[.pointer (some ⟨h.blk, 0, none⟩), .slice sa n sc] w fun v w' => ∃ h' l', v = .pointer (some ⟨h'.blk, 0, none⟩) ∧ LvAt w' n h' l' ∧ LvExt n g l l' ∧ Fr (fun g => g ∈ h.F) w w' ∧
      (∀ q, q ∈ h'.F → q ∈ h.F ∨ w.heap.size ≤ q) ∧ (∀ q, q ∈ h'.im → q ∈ h.im ∨ (∃ ad, sa = some ad ∧ ad.block = q) ∨ w.heap.size ≤ q) ∧ w.heap.size ≤ h'.blk := by
  refine callsR_of (args := [_, _]) Try.func134 rfl rfl ?_
  have hn := ok.n1
  have hstr := hL.str
  obtain ⟨ga, go, rfl⟩ := hsl.plain (by simp; have := hg.2; omega)
  have hgbl : ga < w.heap.size := hsl.lt (by simp; have := hg.2; omega) _ rfl
  have hgF := hgb _ rfl
  repeat' (first | (refine k_loadCA rfl hstr rfl ?_) | (refine k_alloc (fun nb w1 hn1 => ⟨fun _ _ => trivial, ?_⟩)) | (refine k_storeV rfl rfl rfl rfl hn1.blk rfl (fun w2 hc2 hb2 => ⟨fun _ _ => trivial, ?_⟩)) | (refine k_pure rfl ?_) | (refine then_normal ?_) | (refine cw_seq ?_) | (refine cw_region rfl ?_) | (refine rr_nil ?_) | (refine k_fieldAddr rfl ?_))
  have hE2 : Ex w w2 := hn1.ex.chg hc2 hn1.lo
  have hstr2 := hstr.ext hE2
  repeat' (first | (refine k_loadC rfl hstr2 rfl ?_))
  refine k_call (clip_spec hL.gcap) rfl ?_
  rintro v w3 ⟨rfl, rfl⟩
  refine ⟨fun _ _ => trivial, ?_⟩
  have hga2 := hL.ga.ext hE2
  have hgsl : (h.gs.map SD.val).length = l.gens.length := by rw [List.length_map, hL.gs.len]
  repeat' (first | (refine k_lit1 rfl rfl (fun lb w3 hn3 => ⟨fun _ _ => trivial, ?_⟩)) | (refine k_appendFull (v := .slice (some ⟨ga, go, none⟩) n sc) rfl rfl rfl (hga2.ext hn3.ex) hgsl hn3.blk.sl rfl (by omega) (by omega) (fun gb c4 w4 hg4 ho4 hE4 => ⟨fun _ _ => trivial, ?_⟩)) | (refine k_storeC rfl rfl rfl ((hb2.ext hn3.ex).ext hE4) rfl (fun w5 hc5 hb5 => ⟨fun _ _ => trivial, ?_⟩)) | (refine k_pure rfl ?_) | (refine then_normal ?_) | (refine cw_seq ?_) | (refine cw_region rfl ?_) | (refine rr_nil ?_) | (refine k_fieldAddr rfl ?_))
  have s1 := hn1.lo
  have s2 := hn1.hi
  have s12 : w1.heap.size ≤ w2.heap.size := Nat.le_of_eq hc2.size.symm
  have s23 := hn3.ex.size
  have s3 := hn3.lo
  have s34 := hE4.size
  have s45 : w4.heap.size = w5.heap.size := hc5.size.symm
  have hE5 : Ex w w5 := ((hE2.trans hn3.ex).trans hE4).chg hc5 s1
  have gb5 := (ho4.lo _ rfl).2
  simp only at gb5
  have nd := hL.nd
  have lt := hL.lt
  have dis := hL.dis
  simp only [LH.F, List.mem_cons, List.not_mem_nil, or_false, List.nodup_cons, not_or, not_false_eq_true, and_true, List.nodup_nil] at nd lt dis hgF
  obtain ⟨⟨n1, n2, n3, n4⟩, ⟨n5, n6, n7⟩, ⟨n8, n9⟩, n10⟩ := nd
  obtain ⟨g1, g2, g3, g4, g5⟩ := hgF
  have l1' := lt _ (.inl rfl); have l2' := lt _ (.inr (.inl rfl)); have l3' := lt _ (.inr (.inr (.inl rfl))); have l4' := lt _ (.inr (.inr (.inr (.inl rfl)))); have l5' := lt _ (.inr (.inr (.inr (.inr rfl))))
  have hgs0 := ((hL.gs.ext hE5).mono (im' := gb :: ga :: h.im) fun q hq => by simp [hq]).snoc (s := ⟨some ⟨ga, go, none⟩, n, sc⟩) (hsl.ext hE5) rfl (by rintro _ ⟨⟩; simp)
  have hL0 : LvAt w5 n { h with blk := nb, ga := some ⟨gb, 0, none⟩, gc := c4, gs := h.gs ++ [⟨some ⟨ga, go, none⟩, n, sc⟩], im := gb :: ga :: h.im } { l with gens := l.gens ++ [g] } := by
    refine ⟨?_, hL.orb.ext hE5, hL.wh.ext hE5, hL.bk.ext hE5, (hL.bs.ext hE5).mono fun q hq => by simp [hq], hL.dn.ext hE5, ?_, ?_, hgs0, ?_, ?_, ?_, ?_⟩
    · have e : lvL n { h with blk := nb, ga := some ⟨gb, 0, none⟩, gc := c4, gs := h.gs ++ [⟨some ⟨ga, go, none⟩, n, sc⟩], im := gb :: ga :: h.im } { l with gens := l.gens ++ [g] } = [.int .i64 l.pt, .slice (some ⟨gb, 0, none⟩) (l.gens.length + 1) c4, .slice (ba h.ob) l.orb.length h.oc, .slice (ba h.wb) n n, .slice (ba h.bb) l.back.length h.bc, .slice (ba h.db) l.done.length h.dc] := by simp [lvL]
      rw [e]; exact hb5
    · have := ho4.sl.chg hc5 (by rintro _ ⟨⟩; show gb ≠ nb; omega)
      simp only [List.map_append, List.map_cons, List.map_nil, SD.val]
      exact this
    · rintro _ ⟨⟩; simp
    · simp only [LH.F, List.mem_cons, List.not_mem_nil, or_false, List.nodup_cons, not_or, not_false_eq_true, and_true, List.nodup_nil]
      refine ⟨⟨?_, ?_, ?_, ?_⟩, ⟨?_, ?_, ?_⟩, ⟨?_, ?_⟩, ?_⟩ <;> omega
    · intro q hq hq'
      simp only [LH.F, List.mem_cons, List.not_mem_nil, or_false] at hq hq'
      rcases hq' with rfl | rfl | hq'
      · omega
      · omega
      · have := hL.imlt q hq'
        rcases hq with rfl | hq
        · omega
        · exact dis q (.inr hq) hq'
    · intro q hq
      simp only [List.mem_cons] at hq
      rcases hq with rfl | rfl | hq
      · omega
      · omega
      · have := hL.imlt q hq; omega
    · simp only [List.length_append, List.length_singleton]; exact ho4.capLe
  refine k_call (extend_spec hL0 (ok.part hg) (by simp only [List.length_append, List.length_singleton]; omega)) rfl ?_
  rintro v w6 ⟨rfl, h6, l6, hL6, ok6, gr6, fr6, st6⟩
  refine ⟨fun _ _ => trivial, ?_⟩
  repeat' (first | (refine k_pure rfl ?_) | (refine then_normal ?_) | (refine cw_seq ?_) | (refine cw_region rfl ?_) | (refine rr_nil ?_) | (refine cw_ret ?_))
  have hb6 := st6.blk
  simp only at hb6
  refine ret1 rfl (rt rfl) ⟨h6, l6, by rw [hb6]; rfl, hL6, gr6.ext ok ok6, ?_, fun q hq => ?_, fun q hq => ?_, by omega⟩
  · refine hE5.fr.then fr6 fun i hi hm => ?_
    simp only [LH.F, List.mem_cons, List.not_mem_nil, or_false] at hm ⊢
    rcases hm with rfl | hm
    · omega
    · exact .inr hm
  · rcases st6.F q hq with hq | hq
    · simp only [LH.F, List.mem_cons, List.not_mem_nil, or_false] at hq ⊢
      rcases hq with rfl | hq
      · exact .inr (by omega)
      · exact .inl (.inr hq)
    · exact .inr (by omega)
  · rcases st6.im q hq with hq | hq
    · simp only [List.mem_cons] at hq
      rcases hq with rfl | rfl | hq
      · exact .inr (.inr (by omega))
      · exact .inr (.inl ⟨_, rfl, rfl⟩)
      · exact .inl hq
    · exact .inr (.inr (by omega))
end Go.Proofs.Ythhfjagnmhhapaa

namespace Go.Proofs.Ythhfjagnmhhapaa
open Go.W Go.PM
theorem whereL_one {n pt : Nat} (h : pt < n) : (List.replicate n (-1 : Int)).set pt 0 = whereL n [(pt : Int)] := by
  apply List.ext_getElem?
  intro i
  rw [List.getElem?_set]
  by_cases e : pt = i
  · subst e
    rw [if_pos rfl, if_pos (by simpa using h)]
    have := whereL_getD (n := n) [(pt : Int)] h
    rw [List.getD_eq_getElem?_getD, List.getElem?_eq_getElem (by rw [whereL_len]; exact h), Option.getD_some] at this
    rw [List.getElem?_eq_getElem (by rw [whereL_len]; exact h), this]
    simp [whereAt]
  · rw [if_neg e, List.getElem?_replicate]
    by_cases hi : i < n
    · have h1 := whereL_getD (n := n) [(pt : Int)] hi
      rw [List.getD_eq_getElem?_getD, List.getElem?_eq_getElem (by rw [whereL_len]; exact hi), Option.getD_some] at h1
      rw [if_pos hi, List.getElem?_eq_getElem (by rw [whereL_len]; exact hi), h1]
      have : ¬ (i : Int) = pt := by omega
      simp [whereAt, this]
    · rw [if_neg hi, List.getElem?_eq_none (by rw [whereL_len]; omega)]
theorem newLv_spec {n pt : Nat} {gens : List (List Int)} {ga : Option Addr} {gc : Nat} {gs : List SD} {im : List Nat} {w : World} (h1 : 1 ≤ n ∧ n ≤ 512) (hpt : pt < n) (hgn : GensN n gens) (hga : Sl w ga (gs.map SD.val)) (hgs : PsAt w n im gs gens)
    (hgim : ∀ ad, ga = some ad → ad.block ∈ im) (himlt : ∀ g, g ∈ im → g < w.heap.size) (hcap : gens.length ≤ gc) (hgl : gens.length ≤ 1000000000000) :
    CallsR Try.prog 82 #[.int .i64 (n : Int), .int .i64 (pt : Int), .slice ga gens.length gc] w fun v w' => ∃ h' l', v = .pointer (some ⟨h'.blk, 0, none⟩) ∧ LvAt w' n h' l' ∧ LvOK n l' ∧ l'.pt = pt ∧ l'.gens = gens ∧ (∀ a, l'.done.getD a 0 = 0) ∧ Ex w w' ∧
      (∀ q, q ∈ h'.F → w.heap.size ≤ q) ∧ (∀ q, q ∈ h'.im → q ∈ im ∨ w.heap.size ≤ q) ∧ h'.ga = ga ∧ h'.gc = gens.length ∧ h'.gs = gs := by
  refine callsR_of (args := [_, _, _]) Try.func82 rfl rfl ?_
  repeat' (first | (refine k_pure rfl ?_) | (refine then_normal ?_) | (refine cw_seq ?_) | (refine cw_region rfl ?_) | (refine rr_nil ?_))
  have hEx : Ex w w.drew := (Ex.refl w).drew
  refine cw_join (ι := Nat × Nat) [7, 9, 10, 11, 12, 13, 14, 15] (fun s => [(7, .pointer (some ⟨s.1, 0, none⟩))])
    (fun s w' => Ex w w' ∧ w.heap.size ≤ s.1 ∧ w.heap.size ≤ s.2 ∧ s.1 ≠ s.2 ∧ Blk w' s.2 3 (intsL (List.replicate n 0)) ∧ Blk w' s.1 95 [.int .i64 (pt : Int), .slice ga gens.length gens.length, .slice none 0 0, .slice (ba s.2) n n, .slice none 0 0, .slice none 0 0]) ?_ ?_
  refine cw_tree (fun w' => Ex w w') mixed hEx ?_
  refine rb_pre (fuel := 5) (by kernel_rfl) (by kernel_rfl) [0, 1, 3] _ _ (by kernel_rfl) ?_
  repeat' (first | (refine k_pure rfl ?_) | (refine rr_nil ?_))
  refine rb_all (fuel := 4) (rs := [2, 4]) (by kernel_rfl) (by kernel_rfl) rfl ?_
  simp only [List.forall_mem_cons, List.not_mem_nil, false_implies, implies_true, and_true]
  refine ⟨?_, ?_⟩
  · refine k_call (clip_spec hcap) rfl ?_
    rintro v w0 ⟨rfl, rfl⟩
    refine ⟨fun _ h => h, ?_⟩
    refine rr_nil ?_
    refine rb_all (fuel := 3) (rs := [4]) (by kernel_rfl) (by kernel_rfl) rfl ?_
    rw [List.forall_mem_singleton]
    refine k_makeI rfl rfl (by omega) (by omega) (fun wb w1 hn1 => ⟨fun _ h => h.trans hn1.ex, ?_⟩)
    replace hn1 := hn1
    refine rr_nil ?_
    refine rb_pre (fuel := 2) (by kernel_rfl) (by kernel_rfl) [5] _ _ (by kernel_rfl) ?_
    repeat' (first | (refine k_build (cs := [.int .i64 (pt : Int), .slice ga gens.length gens.length, .slice none 0 0, .slice (ba wb) n n, .slice none 0 0, .slice none 0 0]) rfl ?_) | (refine rr_nil ?_))
    refine rb_all (fuel := 1) (rs := [6]) (by kernel_rfl) (by kernel_rfl) rfl ?_
    rw [List.forall_mem_singleton]
    refine k_boxA rfl (fun nb w2 hn2 => ⟨fun _ h => h.trans hn2.ex, ?_⟩)
    refine rr_nil ?_
    refine rb_pre (fuel := 0) (by kernel_rfl) (by kernel_rfl) [7] _ _ (by kernel_rfl) ?_
    repeat' (first | (refine k_pure rfl ?_) | (refine rr_nil ?_))
    refine rb_done (by kernel_rfl) ?_
    have s1 := hn1.hi
    have s2 := hn2.lo
    exact then_normal ⟨⟨(nb, wb), ⟨(hEx.trans hn1.ex).trans hn2.ex, Nat.le_trans (hEx.trans hn1.ex).size hn2.lo, Nat.le_trans hEx.size hn1.lo, by simp only; omega, hn1.blk.ext hn2.ex, hn2.blk⟩, rfl, trivial⟩, (by (repeat (first | exact agree_refl _ _ | refine agree_upd rfl ?_ | refine agree_updO rfl ?_ | refine agree_overIn rfl ?_ | refine agree_maskIn rfl ?_)))⟩
  · refine k_makeI rfl rfl (by omega) (by omega) (fun wb w1 hn1 => ⟨fun _ h => h.trans hn1.ex, ?_⟩)
    replace hn1 := hn1
    refine rr_nil ?_
    refine rb_all (fuel := 3) (rs := [2]) (by kernel_rfl) (by kernel_rfl) rfl ?_
    rw [List.forall_mem_singleton]
    refine k_call (clip_spec hcap) rfl ?_
    rintro v w0 ⟨rfl, rfl⟩
    refine ⟨fun _ h => h, ?_⟩
    refine rr_nil ?_
    refine rb_pre (fuel := 2) (by kernel_rfl) (by kernel_rfl) [5] _ _ (by kernel_rfl) ?_
    repeat' (first | (refine k_build (cs := [.int .i64 (pt : Int), .slice ga gens.length gens.length, .slice none 0 0, .slice (ba wb) n n, .slice none 0 0, .slice none 0 0]) rfl ?_) | (refine rr_nil ?_))
    refine rb_all (fuel := 1) (rs := [6]) (by kernel_rfl) (by kernel_rfl) rfl ?_
    rw [List.forall_mem_singleton]
    refine k_boxA rfl (fun nb w2 hn2 => ⟨fun _ h => h.trans hn2.ex, ?_⟩)
    refine rr_nil ?_
    refine rb_pre (fuel := 0) (by kernel_rfl) (by kernel_rfl) [7] _ _ (by kernel_rfl) ?_
    repeat' (first | (refine k_pure rfl ?_) | (refine rr_nil ?_))
    refine rb_done (by kernel_rfl) ?_
    have s1 := hn1.hi
    have s2 := hn2.lo
    exact then_normal ⟨⟨(nb, wb), ⟨(hEx.trans hn1.ex).trans hn2.ex, Nat.le_trans (hEx.trans hn1.ex).size hn2.lo, Nat.le_trans hEx.size hn1.lo, by simp only; omega, hn1.blk.ext hn2.ex, hn2.blk⟩, rfl, trivial⟩, (by (repeat (first | exact agree_refl _ _ | refine agree_upd rfl ?_ | refine agree_updO rfl ?_ | refine agree_overIn rfl ?_ | refine agree_maskIn rfl ?_)))⟩
  rintro ⟨nb, wb⟩ ξ w1 ⟨hE1, hnb, hwb, hne, hw1, hs1⟩
  simp only at hnb hwb hne hw1 hs1
  show CW _ _ _ _ (over [(7, .pointer (some ⟨nb, 0, none⟩))] _) w1
  repeat' (first | (refine k_loadC rfl hs1 rfl ?_) | (refine k_pure rfl ?_) | (refine then_normal ?_) | (refine cw_seq ?_) | (refine cw_region rfl ?_) | (refine rr_nil ?_) | (refine k_len rfl ?_) | (refine k_fieldAddr rfl ?_) | (refine cw_block ?_))
  refine cw_loop (ι := Nat × List Int) [8, 21, 22, 23, 24, 25, 26, 27, 28, 29, 30] (fun s => [(21, .int .i64 (s.1 : Int))]) (fun s w' => s.1 ≤ n ∧ Ex w w' ∧ Blk w' nb 95 [.int .i64 (pt : Int), .slice ga gens.length gens.length, .slice none 0 0, .slice (ba wb) n n, .slice none 0 0, .slice none 0 0] ∧ Blk w' wb 3 (intsL s.2) ∧ s.2.length = n ∧ s.2.take s.1 = List.replicate s.1 (-1)) (fun s => n - s.1)
    (0, List.replicate n 0) ⟨rfl, trivial⟩ ⟨Nat.zero_le _, hE1, hs1, hw1, by simp, rfl⟩ ?_
  rintro ⟨k, cur⟩ ξ2 w2 ⟨hk, hE2, hs2, hw2, hl2, hT⟩
  simp only at hk hw2 hl2 hT
  show CW _ _ _ _ (over [(21, .int .i64 (k : Int))] _) w2
  repeat' (first | (refine k_loadC rfl hs2 rfl ?_) | (refine k_indexN rfl rfl ⟨_, _, rfl⟩ (by omega) ?_) | (refine k_storeI rfl rfl hw2 (by omega) (fun w3 hc3 hb3 => ⟨fun _ _ => trivial, ?_⟩)) | (refine k_pure rfl ?_) | (refine then_normal ?_) | (refine cw_seq ?_) | (refine cw_region rfl ?_) | (refine rr_nil ?_) | (refine k_addI rfl rfl (by omega) (by omega) ?_) | (refine k_fieldAddr rfl ?_) | (refine cw_cond_dec rfl (fun hc => ?_) (fun hc => ?_)) | (refine cw_block ?_) | (refine cw_exit ?_) | (refine then_exit ?_) | (refine in_exit ?_) | (refine in_normal ?_) | (refine cw_skip ?_))
  · refine ⟨⟨(k + 1, cur.set k (-1)), ⟨by simp only; omega, hE2.chg hc3 hwb, hs2.chg hc3 hne, hb3, by simp [hl2], ?_⟩, by simp only; omega, rfl, trivial⟩, (by (repeat (first | exact agree_mask _ _ _ | refine agree_upd rfl ?_ | refine agree_updO rfl ?_ | refine agree_overIn rfl ?_ | refine agree_maskIn rfl ?_)))⟩
    simp only
    rw [take_set_succ (by omega), hT, List.replicate_succ']
  · obtain rfl : k = n := by omega
    rw [List.take_of_length_le (by omega)] at hT
    subst hT
    repeat' (first | (refine k_lit1 (v := .int .i64 (pt : Int)) rfl rfl (fun ob w4 hn4 => ⟨fun _ _ => trivial, ?_⟩)) | (refine k_storeC rfl rfl rfl ((hs2.chg hc3 hne).ext hn4.ex) rfl (fun w5 hc5 hb5 => ⟨fun _ _ => trivial, ?_⟩)) | (refine k_pure rfl ?_) | (refine then_normal ?_) | (refine cw_seq ?_) | (refine cw_region rfl ?_) | (refine rr_nil ?_) | (refine k_fieldAddr rfl ?_))
    rw [whereL_one hpt] at hb3
    have hE3 := hE2.chg hc3 hwb
    have hE4 := hE3.trans hn4.ex
    have hE5 := hE4.chg hc5 hnb
    refine k_call (ident_spec h1.2 _) rfl ?_
    rintro v w6 ⟨pb, rfl, hpb, hb6, hE6⟩
    refine ⟨fun _ _ => trivial, ?_⟩
    rw [idList_length] at *
    repeat' (first | (refine k_lit1 (v := .slice (ba pb) k k) rfl rfl (fun bb w7 hn7 => ⟨fun _ _ => trivial, ?_⟩)) | (refine k_storeC rfl rfl rfl ((hb5.ext hE6).ext hn7.ex) rfl (fun w8 hc8 hb8 => ⟨fun _ _ => trivial, ?_⟩)) | (refine k_lit1 (v := .int .i64 0) rfl rfl (fun db w9 hn9 => ⟨fun _ _ => trivial, ?_⟩)) | (refine k_storeC rfl rfl rfl (hb8.ext hn9.ex) rfl (fun w10 hc10 hb10 => ⟨fun _ _ => trivial, ?_⟩)) | (refine k_pure rfl ?_) | (refine then_normal ?_) | (refine cw_seq ?_) | (refine cw_region rfl ?_) | (refine rr_nil ?_) | (refine k_fieldAddr rfl ?_))
    have f34 : Fr (One nb) w3 w4 := hn4.ex.fr
    have f45 := f1C hc5
    have f56 : Fr (One nb) w5 w6 := hE6.fr
    have f67 : Fr (One nb) w6 w7 := hn7.ex.fr
    have f78 := f1C hc8
    have f89 : Fr (One nb) w8 w9 := hn9.ex.fr
    have f9 := f1C hc10
    have F7 : Fr (One nb) w7 w10 := f78.trans (f89.trans f9)
    have F4 : Fr (One nb) w4 w10 := f45.trans (f56.trans (f67.trans F7))
    have F3 : Fr (One nb) w3 w10 := f34.trans F4
    have F6 : Fr (One nb) w6 w10 := f67.trans F7
    have s4 := hn4.lo; have s4' := hn4.hi; have s7 := hn7.lo; have s7' := hn7.hi; have s9 := hn9.lo; have s9' := hn9.hi
    have z03 := hE3.size; have z45 := f45.size; have z56 := f56.size; have z67 := f67.size; have z78 := f78.size; have z89 := f89.size; have z9 := f9.size; have z34 := f34.size
    have pb6 := hb6.lt
    have wb3 := hb3.lt
    have nb3 := (hs2.chg hc3 hne).lt
    have hE10 : Ex w w10 := (((hE5.trans hE6).trans hn7.ex).chg hc8 hnb |>.trans hn9.ex).chg hc10 hnb
    have hwh := Blk.f1 hb3 F3 (Ne.symm hne)
    have hor := Blk.f1 hn4.blk F4 (by omega)
    have hbk := Blk.f1 hn7.blk F7 (by omega)
    have hdn := Blk.f1 hn9.blk f9 (by omega)
    have hpm := Blk.f1 hb6 F6 (by omega)
    have hL0 : LvAt w10 k ⟨nb, ob, 1, wb, bb, 1, [⟨ba pb, k, k⟩], db, 1, ga, gens.length, gs, pb :: im⟩ (Lv.one k pt gens) := by
      refine ⟨hb10, hor.own rfl (show 1 ≤ maxLen by decide) (Nat.zero_le _), hwh, hbk.own rfl (show 1 ≤ maxLen by decide) (Nat.zero_le _), ?_, hdn.own rfl (show 1 ≤ maxLen by decide) (Nat.zero_le _), hga.ext hE10, fun ad e => List.mem_cons_of_mem _ (hgim ad e), (hgs.ext hE10).mono fun q hq => List.mem_cons_of_mem _ hq, ?_, ?_, ?_, Nat.le_refl _⟩
      · have h0 : PsAt w10 k (pb :: im) [] [] := ⟨rfl, fun i hi => absurd hi (by simp), fun i hi => absurd hi (by simp), fun i hi => absurd hi (by simp)⟩
        exact h0.snoc (s := ⟨ba pb, k, k⟩) hpm.sl rfl (by rintro _ ⟨⟩; simp)
      · simp only [LH.F, List.mem_cons, List.not_mem_nil, or_false, List.nodup_cons, not_or, not_false_eq_true, and_true, List.nodup_nil]
        refine ⟨⟨?_, ?_, ?_, ?_⟩, ⟨?_, ?_, ?_⟩, ⟨?_, ?_⟩, ?_⟩ <;> omega
      · intro q hq hq'
        simp only [LH.F, List.mem_cons, List.not_mem_nil, or_false] at hq hq'
        rcases hq' with rfl | hq'
        · omega
        · have := himlt q hq'; omega
      · intro q hq
        simp only [List.mem_cons] at hq
        rcases hq with rfl | hq
        · omega
        · have := himlt q hq; omega
    refine k_call (extend_spec hL0 (part_one h1 (by omega) hgn) hgl) rfl ?_
    rintro v w11 ⟨rfl, h6, l6, hL6, ok6, gr6, fr6, st6⟩
    refine ⟨fun _ _ => trivial, ?_⟩
    repeat' (first | (refine k_pure rfl ?_) | (refine then_normal ?_) | (refine cw_seq ?_) | (refine cw_region rfl ?_) | (refine rr_nil ?_) | (refine cw_ret ?_))
    have hb6' := st6.blk
    simp only at hb6'
    refine ret1 rfl (rt rfl) ⟨h6, l6, by rw [hb6']; rfl, hL6, ok6, gr6.pt, gr6.gens, gr6.new, ?_, fun q hq => ?_, fun q hq => ?_, st6.ga, st6.gc, st6.gs⟩
    · refine Fr.ex hE10 fr6 fun q hq => ?_
      simp only [LH.F, List.mem_cons, List.not_mem_nil, or_false] at hq
      omega
    · rcases st6.F q hq with hq | hq
      · simp only [LH.F, List.mem_cons, List.not_mem_nil, or_false] at hq
        omega
      · omega
    · rcases st6.im q hq with hq | hq
      · simp only [List.mem_cons] at hq
        rcases hq with rfl | hq
        · exact .inr (by omega)
        · exact .inl hq
      · exact .inr (by omega)
end Go.Proofs.Ythhfjagnmhhapaa

namespace Go.W
section
variable {P : Program} {S : World → Prop} {ops : List Oper} {K : Env → World → Prop} {rest : List (Oper × Option Bool)} {ρ : Env} {w : World} {b : Option Bool} {kf : Bool} {d : Nat} {dst : Option Nat} {T T' : TypeId} {pos : String} {af : Array Edge}
theorem k_loadL {x : Operand} {T1 : TypeId} {a : Option Addr} {j : Nat} {v : Value} {vs : List Value} [Scal P T1] (hx : ev ρ x = .pointer (some (elt a j))) (hs : Rd b S w fun w' => Sl w' a vs) (hv : vs[j]? = some v)
    (h : RR P S ops K rest (upd ρ d v) w) : RR P S ops K ((⟨some d, .load T1 x, T, pos, af, none⟩, b) :: rest) ρ w :=
  k_load hx (hs.imp fun w' hs => by
    have hj : j < vs.length := (List.getElem?_eq_some_iff.1 hv).1
    rw [hs.get j hj, List.getD_eq_getElem?_getD, hv]; rfl) h
theorem k_lenMap {x : Operand} {r Kt E : Nat} {l : List (Int × Value)} (hm : P.underlying T' = some (.map Kt E)) (hx : ev ρ x = .map (some r)) (hs : MapAt w r l)
    (h : RR P S ops K rest (upd ρ d (.int .i64 (l.length : Int))) w) : RR P S ops K ((⟨some d, .call ⟨.builtin .len, #[x], #[T']⟩, T, pos, af, none⟩, some kf) :: rest) ρ w := by
  refine rr_eff rfl ?_
  unfold OpW
  obtain ⟨es, c, hb, he⟩ := hs
  have hl : es.size = l.length := by have := congrArg List.length he; simpa using this
  have : (execOp (ev ρ) ⟨some d, .call ⟨.builtin .len, #[x], #[T']⟩, T, pos, af, none⟩).run P w = .ok (.value (.int .i64 (l.length : Int))) w := by
    simp [execOp, resolve, invoke, builtin, Builtin.len_, hx, underlying, hm, goInt, run_getObj' hb, hl]
  rw [this]
  exact ⟨fun _ h => h, h⟩
end
end Go.W
namespace Go.Proofs.Ythhfjagnmhhapaa
open Go.W Go.PM
def MapOK (m : List (Int × Value)) (k : Nat) (f : Nat → Nat) : Prop := m.length = k ∧ (m.map Prod.fst).Nodup ∧ (∀ i, i < k → ((i : Int), Value.pointer (some ⟨f i, 0, none⟩)) ∈ m) ∧ ∀ p, p ∈ m → p.1 < k
theorem MapOK.find {m : List (Int × Value)} {k : Nat} {f : Nat → Nat} (h : MapOK m k f) {i : Nat} (hi : i < k) : ∃ j, j < m.length ∧ findK i m 0 = some (j, .pointer (some ⟨f i, 0, none⟩)) ∧ m[j]? = some ((i : Int), .pointer (some ⟨f i, 0, none⟩)) := by
  obtain ⟨j, hj, e⟩ := List.getElem_of_mem (h.2.2.1 i hi)
  have e' : m[j]? = some ((i : Int), Value.pointer (some ⟨f i, 0, none⟩)) := by rw [List.getElem?_eq_getElem hj, e]
  refine ⟨j, hj, ?_, e'⟩
  have := findK_at 0 j e' fun j' p hlt hp hk => by
    have hj' : j' < m.length := by omega
    have h1 : (m.map Prod.fst)[j']'(by simpa using hj') = (m.map Prod.fst)[j]'(by simpa using hj) := by
      rw [List.getElem_map, List.getElem_map, e]
      rw [List.getElem?_eq_getElem hj'] at hp
      injection hp with hp
      rw [hp]; exact hk
    have := (List.getElem_inj h.2.1).1 h1
    omega
  rwa [Nat.zero_add] at this
theorem getElem?_erase_ne {α : Type} {l : List α} {x y : α} {j : Nat} (hj : l[j]? = some y) (hx : x ∈ l) (hne : x ≠ y) : x ∈ l.eraseIdx j := by
  obtain ⟨i, hi, e⟩ := List.getElem_of_mem hx
  rw [List.mem_eraseIdx_iff_getElem]
  refine ⟨i, hi, ?_, e⟩
  rintro rfl
  rw [List.getElem?_eq_getElem hi] at hj
  injection hj with hj
  exact hne (e.symm.trans hj)
theorem MapOK.put {m : List (Int × Value)} {k : Nat} {f : Nat → Nat} (h : MapOK m k f) {i j : Nat} {v : Value} (hi : i < k) (hj : m[j]? = some ((i : Int), v)) (b : Nat) :
    MapOK (m.eraseIdx j ++ [((i : Int), .pointer (some ⟨b, 0, none⟩))]) k (fun x => if x = i then b else f x) ∧ ∀ p, p ∈ m.eraseIdx j → p.1 ≠ i := by
  have hjl : j < m.length := (List.getElem?_eq_some_iff.1 hj).1
  have hne : ∀ p, p ∈ m.eraseIdx j → p.1 ≠ i := by
    intro p hp hk
    obtain ⟨x, hx, hxj, e⟩ := List.mem_eraseIdx_iff_getElem.1 hp
    have h1 : (m.map Prod.fst)[x]'(by simpa using hx) = (m.map Prod.fst)[j]'(by simpa using hjl) := by
      rw [List.getElem_map, List.getElem_map, e]
      rw [List.getElem?_eq_getElem hjl] at hj
      injection hj with hj
      rw [hj]; exact hk
    exact hxj ((List.getElem_inj h.2.1).1 h1)
  refine ⟨⟨?_, ?_, fun x hx => ?_, fun p hp => ?_⟩, hne⟩
  · rw [List.length_append, List.length_eraseIdx, if_pos hjl, List.length_singleton]; have := h.1; omega
  · rw [List.map_append, List.nodup_append]
    refine ⟨?_, by simp, ?_⟩
    · rw [eraseIdx_map']; exact List.Nodup.eraseIdx _ h.2.1
    · intro a ha b' hb'
      simp only [List.map_cons, List.map_nil, List.mem_singleton] at hb'
      obtain ⟨p, hp, rfl⟩ := List.mem_map.1 ha
      rw [hb']; exact hne p hp
  · rw [List.mem_append]
    by_cases e : x = i
    · subst e; right; simp
    · left; simp only [if_neg e]
      refine getElem?_erase_ne hj (h.2.2.1 x hx) ?_
      intro e'; injection e' with e'; omega
  · rw [List.mem_append] at hp
    rcases hp with hp | hp
    · exact h.2.2.2 p (List.mem_of_mem_eraseIdx hp)
    · rw [List.mem_singleton] at hp; subst hp; simp only; omega
theorem MapOK.add {m : List (Int × Value)} {k : Nat} {f : Nat → Nat} (h : MapOK m k f) (b : Nat) :
    MapOK (m ++ [((k : Int), .pointer (some ⟨b, 0, none⟩))]) (k + 1) (fun x => if x = k then b else f x) ∧ ∀ p, p ∈ m → p.1 ≠ k := by
  have hne : ∀ p, p ∈ m → p.1 ≠ k := fun p hp e => by have := h.2.2.2 p hp; omega
  refine ⟨⟨by simp [h.1], ?_, fun x hx => ?_, fun p hp => ?_⟩, hne⟩
  · rw [List.map_append, List.nodup_append]
    refine ⟨h.2.1, by simp, ?_⟩
    intro a ha b' hb'
    simp only [List.map_cons, List.map_nil, List.mem_singleton] at hb'
    obtain ⟨p, hp, rfl⟩ := List.mem_map.1 ha
    rw [hb']; exact hne p hp
  · rw [List.mem_append]
    by_cases e : x = k
    · subst e; right; simp
    · left; simp only [if_neg e]; exact h.2.2.1 x (by omega)
  · rw [List.mem_append] at hp
    rcases hp with hp | hp
    · have := h.2.2.2 p hp; omega
    · rw [List.mem_singleton] at hp; subst hp; simp only; omega
/-- where a chain lies -/
structure CH where
  cb : Nat
  mb : Nat
  va : Option Addr
  vc : Nat
  m : List (Int × Value)
  hs : Nat → LH
  st : Nat
def chL (n k : Nat) (c : CH) : List Value := [.int .i64 (n : Int), .map (some c.mb), .slice c.va k c.vc, .int .u64 (c.st : Int)]
def dvV (h : LH) : Value := .func (.func 108) #[.pointer (some ⟨h.blk, 0, none⟩)] #[]
def lv0 : Lv := ⟨0, [], [], [], []⟩
structure ChAt (w : World) (n : Nat) (c : CH) (ls : List Lv) : Prop where
  str : Blk w c.cb 100 (chL n ls.length c)
  st : c.st < 18446744073709551616
  map : MapAt w c.mb c.m
  mok : MapOK c.m ls.length (fun i => (c.hs i).blk)
  dv : Own w 0 152 1 c.va ls.length c.vc ((List.range ls.length).map fun i => dvV (c.hs i))
  lv : ∀ i, i < ls.length → LvAt w n (c.hs i) (ls.getD i lv0)
  cmb : c.cb ≠ c.mb
  vne : ∀ ad, c.va = some ad → ad.block ≠ c.cb ∧ ad.block ≠ c.mb
  fne : ∀ i, i < ls.length → ∀ q, q ∈ (c.hs i).F ∨ q ∈ (c.hs i).im → q ≠ c.cb ∧ q ≠ c.mb ∧ ∀ ad, c.va = some ad → ad.block ≠ q
  dis : ∀ i j, i < ls.length → j < ls.length → i ≠ j → ∀ q, q ∈ (c.hs i).F → q ∉ (c.hs j).F
  imd : ∀ i j, i < ls.length → j < ls.length → ∀ q, q ∈ (c.hs i).F → q ∉ (c.hs j).im
/-- the chain's own blocks -/
def CH.own (c : CH) (q : Nat) : Prop := q = c.cb ∨ q = c.mb ∨ ∃ ad, c.va = some ad ∧ ad.block = q
def CH.foot (c : CH) (k : Nat) (q : Nat) : Prop := c.own q ∨ ∃ i, i < k ∧ q ∈ (c.hs i).F
def CH.imm (c : CH) (k : Nat) (q : Nat) : Prop := ∃ i, i < k ∧ q ∈ (c.hs i).im
def putL (ls : List Lv) (i : Nat) (l : Lv) : List Lv := ls.take i ++ l :: ls.drop (i + 1)
theorem putL_len {ls : List Lv} {i : Nat} {l : Lv} (h : i ≤ ls.length) : (putL ls i l).length = if i = ls.length then ls.length + 1 else ls.length := by
  unfold putL; simp only [List.length_append, List.length_take, List.length_cons, List.length_drop]; split <;> omega
theorem putL_getD {ls : List Lv} {i : Nat} {l : Lv} (h : i ≤ ls.length) (j : Nat) : (putL ls i l).getD j lv0 = if j = i then l else ls.getD j lv0 := by
  unfold putL
  rw [List.getD_eq_getElem?_getD]
  by_cases e : j < i
  · rw [List.getElem?_append_left (by simp; omega), List.getElem?_take, if_pos e, if_neg (by omega), ← List.getD_eq_getElem?_getD]
  · rw [List.getElem?_append_right (by simp; omega), List.length_take, Nat.min_eq_left h]
    by_cases e' : j = i
    · subst e'; simp
    · rw [if_neg e']
      obtain ⟨t, rfl⟩ : ∃ t, j = i + 1 + t := ⟨j - i - 1, by omega⟩
      rw [show i + 1 + t - i = t + 1 by omega, List.getElem?_cons_succ, List.getElem?_drop, ← List.getD_eq_getElem?_getD]
theorem range_set {k i : Nat} (f g : Nat → Value) (hg : ∀ j, j ≠ i → g j = f j) : ((List.range k).map f).set i (g i) = (List.range k).map g := by
  apply List.ext_getElem?
  intro j
  rw [List.getElem?_set, List.length_map, List.length_range, List.getElem?_map, List.getElem?_map]
  by_cases e : i = j
  · subst e; rw [if_pos rfl]
    by_cases h : i < k
    · rw [if_pos h, List.getElem?_range h]; rfl
    · rw [if_neg h, List.getElem?_eq_none (by simpa using h)]; rfl
  · rw [if_neg e]
    by_cases h : j < k
    · rw [List.getElem?_range h]; simp only [Option.map_some]; rw [hg j (fun e' => e e'.symm)]
    · rw [List.getElem?_eq_none (by simpa using h)]; rfl
theorem range_add {k : Nat} (f g : Nat → Value) (z : Value) (hg : ∀ j, j ≠ k → g j = f j) : ((List.range k).map f ++ [z]).set k (g k) = (List.range (k + 1)).map g := by
  rw [List.range_succ, List.map_append, List.set_append_right _ _ (by simp)]
  simp only [List.length_map, List.length_range, Nat.sub_self, List.map_cons, List.map_nil, List.set_cons_zero]
  congr 1
  apply List.map_congr_left
  intro j hj
  rw [List.mem_range] at hj
  exact (hg j (by omega)).symm
end Go.Proofs.Ythhfjagnmhhapaa

