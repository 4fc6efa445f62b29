
import Derived.Test.YthhfjagnmhhapaaGreatE01
import Derived.Test.YthhfjagnmhhapaaGreatE02
import Derived.Test.YthhfjagnmhhapaaGreatE03
import Derived.Test.YthhfjagnmhhapaaGreatE04
import Derived.Test.YthhfjagnmhhapaaGreatE05
import Derived.Test.YthhfjagnmhhapaaGreatE06
import Derived.Test.YthhfjagnmhhapaaGreatE07
import Derived.Test.YthhfjagnmhhapaaGreatE08
import Derived.Test.YthhfjagnmhhapaaGreatE11
import Derived.Test.YthhfjagnmhhapaaGreatE12
import Derived.Test.YthhfjagnmhhapaaGreatE13

namespace Go.Proofs.YthhfjagnmhhapaaGreat
open Go.W Go.PM Go.LM
/-- products of lengths of orbits -/
theorem prodL_drop {ls : List Lv} {i : Nat} (hi : i < ls.length) : prodL (ls.drop i) = (ls.getD i lv0).orb.length * prodL (ls.drop (i + 1)) := by rw [drop_cons hi]; rfl
theorem flat_take {α β : Type} (f : α → List β) (l : List α) (d : α) {a : Nat} (ha : a < l.length) : (l.take (a + 1)).flatMap f = (l.take a).flatMap f ++ f (l.getD a d) := by
  rw [take_succ_getD l d ha, List.flatMap_append]; simp
theorem gen_perm' {m : Nat} {gens : List (List Int)} (hm1 : 1 ≤ m) (hm2 : m ≤ 512) (hgn : GensN m gens) {p : List Int} (h : Gen m gens p) : PermN m p := h.perm ⟨hm1, hm2⟩ hgn
theorem prodL_le_drop {n : Nat} : ∀ {ls : List Lv}, Links n ls → ∀ i, prodL (ls.drop i) ≤ prodL ls
  | [], _, i => by rw [List.drop_nil]; exact Nat.le_refl _
  | l :: ls, h, 0 => Nat.le_refl _
  | l :: ls, h, i + 1 => by
    rw [List.drop_succ_cons]
    have h1 := prodL_le_drop h.tail i
    have h2 : 1 * prodL ls ≤ l.orb.length * prodL ls := Nat.mul_le_mul_right _ h.1.pos
    show prodL (ls.drop i) ≤ l.orb.length * prodL ls
    omega
set_option maxHeartbeats 4000000 in
theorem sElements_spec {n : Int} {gens : List (List Int)} {a : Option Addr} {sds : List SD} {cap : Nat} {w : World} (hL : Lists w .i64 a sds gens) (hl : gens.length ≤ 1000000) (h11 : errS n gens = 0 → n ≤ 11) :
    CallsR Tryz.prog 7 #[.int .i64 n, .slice a gens.length cap] w fun v w' => Ex w w' ∧ ∃ (r : Option Addr) (c : Nat) (rs : List SD) (L : List (List Int)) (e : Int), v = .tuple #[.slice r L.length c, .int .i64 e] ∧ Lists w' .i64 r rs L ∧
      (errS n gens ≠ 0 → e = errS n gens ∧ L = []) ∧ (errS n gens = 0 → ∃ k, Card (Gen n.toNat gens) k ∧ ((2000 < k ∧ e = 7 ∧ L = []) ∨ (k ≤ 2000 ∧ e = 0 ∧ Enm (Gen n.toNat gens) L ∧ Asc L))) := by
  refine callsR_of (args := [_, _]) Tryz.func7 rfl rfl ?_
  repeat' (first | (refine k_pure rfl ?_) | (refine then_normal ?_) | (refine cw_seq ?_) | (refine cw_region rfl ?_) | (refine rr_nil ?_))
  refine k_call (chkS_spec hL hl) rfl ?_
  rintro v w2 ⟨rfl, hE2⟩
  refine ⟨fun _ _ => trivial, ?_⟩
  repeat' (first | (refine k_pure rfl ?_) | (refine then_normal ?_) | (refine cw_seq ?_) | (refine cw_region rfl ?_) | (refine rr_nil ?_) | (refine cw_cond_dec rfl (fun hc => ?_) (fun hc => ?_)) | (refine cw_ret ?_) | (refine then_ret ?_) | (refine cw_skip ?_))
  · exact ret2 rfl (rt rfl) (rt rfl) ⟨hE2, none, 0, [], [], _, rfl, Lists.nil _ _ _, fun _ => ⟨rfl, rfl⟩, fun h => absurd h hc⟩
  · have h0 : errS n gens = 0 := by omega
    obtain ⟨m, rfl, hm1, hm2, hgl, hgn⟩ := errS_zero h0
    have hm11 : m ≤ 11 := by have := h11 h0; omega
    refine k_call (chBuild_spec (base := []) (b := none) (bc := 0) ⟨hm1, hm2⟩ hm11 hgn (hL.ext hE2) (by omega) (Sl.nil _ _) (by simp) (fun i hi => absurd hi (by simp))) rfl ?_
    rintro v w4 ⟨hE4, c, ls, rfl, hC, hG, hF⟩
    refine ⟨fun _ _ => trivial, ?_⟩
    have hEw4 := hE2.trans hE4
    have hcard : Card (Gen m gens) (prodL ls) := (full_card hG.links hF).congr fun p => hG.grp p
    have hlm : ls.length ≤ m := by have := Dist.length_le (hG.dist hF); rwa [ptsL_len] at this
    repeat' (first | (refine k_pure rfl ?_) | (refine then_normal ?_) | (refine cw_seq ?_) | (refine cw_region rfl ?_) | (refine rr_nil ?_))
    refine k_call (ident_spec hm2 w4) rfl ?_
    rintro v w5 ⟨gi, rfl, hgi, hbi, hE5⟩
    refine ⟨fun _ _ => trivial, ?_⟩
    have hid := idList_length m
    rw [hid]
    refine k_lit1 (v := .slice (some ⟨gi, 0, none⟩) m m) rfl rfl (fun gl w6 hn6 => ⟨fun _ _ => trivial, ?_⟩)
    have s5 := hE5.size
    have l6 := hn6.lo
    have hil := hbi.lt
    have hE46 : Ex w4 w6 := hE5.trans hn6.ex
    have hO6 : OwnLists w6 w4.heap.size 55 70 .u16 (some ⟨gl, 0, none⟩) 1 [⟨some ⟨gi, 0, none⟩, m, m⟩] [idList m] := by
      refine ⟨hn6.blk.own (n := 1) rfl (by unfold maxLen; omega) (by omega), rfl, fun i hi => ?_, fun i hi ad ad' e e' => ?_⟩
      · obtain rfl : i = 0 := by simpa using hi
        have hown : Own w6 w4.heap.size 70 1 (some ⟨gi, 0, none⟩) (idList m).length m (u16L (idList m)) := by
          have h := (hbi.ext hn6.ex).own (n := m) (s := 1) (lo := w4.heap.size) (by simp [hid]) (by unfold maxLen; omega) hgi
          rw [hid]; exact h
        exact ⟨hown, hid.symm⟩
      · obtain rfl : i = 0 := by simpa using hi
        have e1 : ad.block = gl := by injection e with e; rw [← e]
        have e2 : ad'.block = gi := by injection e' with e'; rw [← e']
        omega
    have hC6 := hC.ext hE46
    have hstr6 := hC6.str
    unfold chL at hstr6
    have hml := hC6.mok.1
    repeat' (first | (refine k_loadC (Tb := 62) rfl hstr6 rfl ?_) | (refine k_lenMap mapT rfl hC6.map ?_) | (refine k_pure rfl ?_) | (refine then_normal ?_) | (refine cw_seq ?_) | (refine cw_region rfl ?_) | (refine rr_nil ?_) | (refine k_subI rfl rfl (by omega) (by omega) ?_) | (refine k_fieldAddr rfl ?_) | (refine cw_block ?_))
    rw [hml]
    skip
    refine cw_loop (ι := Nat × (Option Addr × Nat) × List SD × List (List Int)) [4, 5, 8, 9, 10, 12, 13, 15, 37, 38, 39, 40, 41, 42, 43, 44, 45, 46, 47, 48, 49, 50, 51, 52, 53, 54, 55, 56, 57, 58, 59, 60, 61, 62, 63, 64, 65, 66, 67, 68, 69, 70, 71, 72, 73, 74, 75, 76, 77, 78, 79, 80, 81, 82, 83, 84, 85] (fun s => [(9, .int .i64 ((s.1 : Int) - 1)), (8, .slice s.2.1.1 s.2.2.2.length s.2.1.2)])
      (fun s w' => s.1 ≤ ls.length ∧ Ex w4 w' ∧ OwnLists w' w4.heap.size 55 70 .u16 s.2.1.1 s.2.1.2 s.2.2.1 s.2.2.2 ∧ Enm (grpOf m (ls.drop s.1)) s.2.2.2 ∧ s.2.2.2.length = prodL (ls.drop s.1) ∧ s.2.2.2.length ≤ 2000) (fun s => s.1)
      (ls.length, (some ⟨gl, 0, none⟩, 1), [⟨some ⟨gi, 0, none⟩, m, m⟩], [idList m]) ⟨rfl, rfl, trivial⟩ ⟨Nat.le_refl _, hE46, hO6, by rw [List.drop_length]; exact enm_id m, by rw [List.drop_length]; rfl, by simp⟩ ?_
    rintro ⟨i, ⟨b, cb⟩, lsd, L⟩ ξ w8 ⟨hi, hE8, hO8, hEn, hLp, hL2⟩
    simp only at hi hO8 hEn hLp hL2
    show CW _ _ _ _ (over [(9, .int .i64 ((i : Int) - 1)), (8, .slice b L.length cb)] _) w8
    have hLl := hO8.len
    have hLpos : 0 < L.length := by rw [hLp]; exact prodL_pos (hG.links.drop i)
    have hLn : ∀ p ∈ L, p.length = m := fun p hp => ((hG.links.drop i).grp.perm p ((hEn.mem p).1 hp)).2
    cases i with
    | zero =>
      rw [List.drop_zero] at hEn hLp
      repeat' (first | (refine k_geqF rfl rfl (by omega) ?_) | (refine k_pure rfl ?_) | (refine then_normal ?_) | (refine cw_seq ?_) | (refine cw_region rfl ?_) | (refine rr_nil ?_) | (refine cw_cond_false rfl ?_) | (refine cw_exit ?_) | (refine then_exit ?_) | (refine in_exit ?_))
      refine k_call (sortP_spec hO8 hLpos hLn hm2 (by omega)) rfl ?_
      rintro v w9 ⟨rfl, sd9, ps, hLs9, hpm, hsrt, hF9⟩
      refine ⟨fun _ _ => trivial, ?_⟩
      have hpl : ps.length = L.length := hpm.length_eq
      have hE9 : Ex w4 w9 := Fr.ex hE8 hF9 (fun q h => h)
      have hsl9 := hLs9.len
      have hnd : ps.Nodup := hpm.nodup_iff.2 hEn.nd
      have hEn9 : Enm (Gen m gens) ps := ⟨hnd, fun p => by rw [hpm.mem_iff, hEn.mem]; exact hG.grp p⟩
      have hAsc : Asc ps := (hsrt.and hnd).imp fun {p q} h => by
        have h1 := lexC_rng p q
        have h2 := lexC_neg p q
        have h3 : lexC p q ≠ 0 := fun e => h.2 (lexC_eq e)
        have h4 := h.1
        omega
      have hpp : ∀ j, j < ps.length → PermN m (ps.getD j []) := fun j hj => gen_perm' hm1 hm2 hgn ((hEn9.mem _).1 (getD_mem (d := []) hj))
      rw [← hpl]
      repeat' (first | (refine k_makeS rfl rfl (by omega) (by omega) (fun g w10 hn10 => ⟨fun _ _ => trivial, ?_⟩)) | (refine k_pure rfl ?_) | (refine then_normal ?_) | (refine cw_seq ?_) | (refine cw_region rfl ?_) | (refine rr_nil ?_) | (refine k_len rfl ?_) | (refine cw_block ?_))
      have l10 := hn10.lo
      refine cw_loop (ι := Nat × List SD) [17, 18, 93, 94, 95, 96, 97, 98, 99, 100, 101, 102, 103] (fun s => [(93, .int .i64 (s.1 : Int))])
        (fun s w' => s.1 ≤ ps.length ∧ Ex w9 w' ∧ Blk w' g 43 (s.2.map SD.val) ∧ s.2.length = ps.length ∧ ∀ j, j < s.1 → (∀ ad, (s.2.getD j sd0).a = some ad → ad.block ≠ g) ∧ Sl w' (s.2.getD j sd0).a (intsL (ps.getD j [])) ∧ (s.2.getD j sd0).len = (ps.getD j []).length) (fun s => ps.length - s.1)
        (0, List.replicate ps.length sd0) ⟨rfl, trivial⟩ ⟨Nat.zero_le _, hn10.ex, hn10.blk, by simp, fun j hj => absurd hj (by simp)⟩ ?_
      rintro ⟨k, es⟩ ξ2 w11 ⟨hk, hE11, hb11, hel, hes⟩
      simp only at hk hb11 hel hes
      show CW _ _ _ _ (over [(93, .int .i64 (k : Int))] _) w11
      have hgl := hb11.lt
      by_cases hkl : k < ps.length
      · have hLs11 := hLs9.ext hE11
        obtain ⟨hsd, hsn⟩ := hLs11.each k hkl
        obtain ⟨⟨ta, tl, tc⟩, hsdk⟩ : ∃ x, sd9.getD k sd0 = x := ⟨_, rfl⟩
        rw [hsdk] at hsd hsn
        simp only at hsd hsn
        subst hsn
        have hpk := hpp k hkl
        repeat' (first | (refine k_lssT rfl rfl (by omega) ?_) | (refine k_indexN (j := k) (a := b) rfl rfl (hLs11.sl.plain (by rw [List.length_map]; omega)) (by omega) ?_) | (refine k_loadSd rfl hLs11.sl (by omega) hsdk ?_) | (refine k_pure rfl ?_) | (refine then_normal ?_) | (refine cw_seq ?_) | (refine cw_region rfl ?_) | (refine rr_nil ?_) | (refine cw_cond_true rfl ?_) | (refine cw_block ?_) | (refine cw_skip ?_))
        refine k_call (toInts_spec (xs := ps.getD k []) hsd tc (fun j hj => by have := hpk.1.lt hj; rw [hpk.2] at this; omega) (by rw [hpk.2]; omega)) rfl ?_
        rintro v w12 ⟨gt, rfl, hgt, hbt, hE12⟩
        refine ⟨fun _ _ => trivial, ?_⟩
        have htl := hbt.lt
        repeat' (first | (refine k_indexN (j := k) rfl rfl ⟨_, _, rfl⟩ (by omega) ?_) | (refine k_storeS (j := k) rfl rfl (hb11.ext hE12) (by omega) (fun w13 hc13 hb13 => ⟨fun _ _ => trivial, ?_⟩)) | (refine k_pure rfl ?_) | (refine then_normal ?_) | (refine cw_region rfl ?_) | (refine rr_nil ?_) | (refine k_addI rfl rfl (by omega) (by omega) ?_) | (refine in_normal ?_))
        refine ⟨⟨(k + 1, es.set k ⟨some ⟨gt, 0, none⟩, (ps.getD k []).length, (ps.getD k []).length⟩), ⟨by simp only; omega, (hE11.trans hE12).chg hc13 l10, hb13, by simp [hel], fun j hj => ?_⟩, by simp only; omega, rfl, trivial⟩, (by (repeat (first | exact agree_mask _ _ _ | refine agree_upd rfl ?_ | refine agree_updO rfl ?_ | refine agree_overIn rfl ?_ | refine agree_maskIn rfl ?_)))⟩
        simp only at hj ⊢
        rw [getD_setS (by omega)]
        by_cases e : k = j
        · subst e
          rw [if_pos rfl]
          exact ⟨fun ad e => by injection e with e; subst e; show gt ≠ g; omega, hbt.sl.chg hc13 (fun ad e => by injection e with e; subst e; show gt ≠ g; omega), rfl⟩
        · rw [if_neg e]
          obtain ⟨a1, a2, a3⟩ := hes j (by omega)
          exact ⟨a1, (a2.ext hE12).chg hc13 a1, a3⟩
      · obtain rfl : k = ps.length := by omega
        repeat' (first | (refine k_lssF rfl rfl (by omega) ?_) | (refine k_pure rfl ?_) | (refine then_normal ?_) | (refine cw_seq ?_) | (refine cw_region rfl ?_) | (refine rr_nil ?_) | (refine cw_cond_false rfl ?_) | (refine cw_exit ?_) | (refine then_exit ?_) | (refine in_exit ?_) | (refine cw_ret ?_))
        refine ret2 rfl (rt rfl) (rt rfl) ⟨(hEw4.trans hE9).trans hE11, some ⟨g, 0, none⟩, ps.length, es, ps, 0, rfl, ⟨hb11.sl, hel, fun j hj => (hes j hj).2⟩, fun h => absurd h0 h, fun _ => ⟨prodL ls, by rw [Int.toNat_natCast]; exact hcard, .inr ⟨by omega, rfl, by rw [Int.toNat_natCast]; exact hEn9, hAsc⟩⟩⟩
    | succ i =>
      have hil : i < ls.length := by omega
      obtain ⟨j, hj, hfd, hjm⟩ := hC.mok.find hil
      have hC8 := hC.ext hE8
      have hstr8 := hC8.str
      unfold chL at hstr8
      have hLv := hC8.lv i hil
      have hLs := hLv.str
      have ok := hG.ok hil
      have hol := ok.orb_le
      have hpos := ok.pos
      have hbkl := ok.len
      have e1 : ((i + 1 : Nat) : Int) - 1 = (i : Int) := by omega
      have hpr := prodL_drop hil
      have hmul : (L.length : Int) * ((ls.getD i lv0).orb.length : Int) = ((L.length * (ls.getD i lv0).orb.length : Nat) : Int) := by rw [Int.natCast_mul]
      have hmb : L.length * (ls.getD i lv0).orb.length ≤ 2000 * 11 := Nat.mul_le_mul hL2 (by omega)
      rw [e1]
      repeat' (first | (refine k_geqT rfl rfl (by omega) ?_) | (refine k_loadC (Tb := 62) rfl hstr8 rfl ?_) | (refine k_lookup mapT intT rfl rfl hC8.map hfd ?_) | (refine k_loadC (Tb := 64) rfl hLs rfl ?_) | (refine k_mulI rfl rfl (by rw [hmul]; omega) (by rw [hmul]; omega) ?_) | (refine k_pure rfl ?_) | (refine then_normal ?_) | (refine cw_seq ?_) | (refine cw_region rfl ?_) | (refine rr_nil ?_) | (refine k_len rfl ?_) | (refine k_fieldAddr rfl ?_) | (refine cw_cond_true rfl ?_) | (refine cw_cond_dec rfl (fun hc => ?_) (fun hc => ?_)) | (refine cw_block ?_) | (refine cw_ret ?_) | (refine then_ret ?_) | (refine in_ret ?_) | (refine cw_skip ?_))
      · refine ret2 rfl (rt rfl) (rt rfl) ⟨hEw4.trans hE8, none, 0, [], [], 7, rfl, Lists.nil _ _ _, fun h => absurd h0 h, fun _ => ⟨prodL ls, by rw [Int.toNat_natCast]; exact hcard, .inl ⟨?_, rfl, rfl⟩⟩⟩
        have h2 := prodL_le_drop hG.links i
        rw [hpr, ← hLp, Nat.mul_comm] at h2
        rw [hmul] at hc
        omega
      · rw [hmul] at hc
        have hE88 : Ex w8 w8 := Ex.refl _
        refine cw_loop (ι := Nat × (Option Addr × Nat) × List SD × List (List Int)) [10, 12, 13, 15, 65, 66, 67, 68, 69, 70, 71, 72, 73, 74, 75, 76, 77, 78, 79, 80, 81, 82, 83, 84] (fun s => [(65, .int .i64 (s.1 : Int)), (10, .slice s.2.1.1 s.2.2.2.length s.2.1.2)])
          (fun s w' => s.1 ≤ (ls.getD i lv0).back.length ∧ Ex w8 w' ∧ OwnLists w' w8.heap.size 55 70 .u16 s.2.1.1 s.2.1.2 s.2.2.1 s.2.2.2 ∧ s.2.2.2 = ((ls.getD i lv0).back.take s.1).flatMap (fun b => L.map fun p => mulP p (inv b)) ∧ s.2.2.2.length = s.1 * L.length) (fun s => (ls.getD i lv0).back.length - s.1)
          (0, (none, 0), [], []) ⟨rfl, rfl, trivial⟩ ⟨Nat.zero_le _, hE88, OwnLists.nil _ _ _ _ _, rfl, by simp⟩ ?_
        rintro ⟨a1, ⟨b1, c1⟩, sd1, L1⟩ ξ1 w9 ⟨ha1, hE9, hO9, hL1, hL1l⟩
        simp only at ha1 hO9 hL1 hL1l
        show CW _ _ _ _ (over [(65, .int .i64 (a1 : Int)), (10, .slice b1 L1.length c1)] _) w9
        have hE49 := hE8.trans hE9
        have hLv9 := (hC.ext hE49).lv i hil
        have s9 := hE9.size
        by_cases ha : a1 < (ls.getD i lv0).back.length
        · have hbs := hLv9.bs.len
          have hsd := hLv9.bs.sl a1 ha
          have hsn := hLv9.bs.n a1 ha
          have hbk := hLv9.bk.sl
          have hpk : PermN m ((ls.getD i lv0).bk a1) := ok.grp.perm _ (ok.bin a1 (by omega))
          obtain ⟨⟨ta, tl, tc⟩, hsdk⟩ : ∃ x, (c.hs i).bs.getD a1 sd0 = x := ⟨_, rfl⟩
          rw [hsdk] at hsd hsn
          simp only at hsd hsn
          subst hsn
          have hsd' : Sl w9 ta (u16L ((ls.getD i lv0).bk a1)) := hsd
          repeat' (first | (refine k_lssT rfl rfl (by omega) ?_) | (refine k_indexN (j := a1) rfl rfl ⟨_, _, rfl⟩ (by omega) ?_) | (refine k_loadSd rfl hbk (by omega) hsdk ?_) | (refine k_pure rfl ?_) | (refine then_normal ?_) | (refine cw_seq ?_) | (refine cw_region rfl ?_) | (refine rr_nil ?_) | (refine cw_cond_true rfl ?_) | (refine cw_block ?_) | (refine cw_skip ?_))
          refine k_call (pinv_spec hsd' tc hpk) (by rw [hpk.2]; rfl) ?_
          rintro v w10 ⟨gv, rfl, hgv, hbv, hE10⟩
          refine ⟨fun _ _ => trivial, ?_⟩
          have hvl := hbv.lt
          have hpi : PermN tl (inv ((ls.getD i lv0).bk a1)) := hpk.inv
          rw [hpi.2]
          have hE810 := hE9.trans hE10
          repeat' (first | (refine k_pure rfl ?_) | (refine then_normal ?_) | (refine cw_seq ?_) | (refine cw_region rfl ?_) | (refine rr_nil ?_) | (refine k_len rfl ?_) | (refine cw_block ?_))
          have hlen1 : L1.length ≤ 2000 := by
            have h1 : a1 * L.length ≤ (ls.getD i lv0).orb.length * L.length := Nat.mul_le_mul_right _ (by omega)
            have h2 := Nat.mul_comm (ls.getD i lv0).orb.length L.length
            omega
          refine cw_loop (ι := Nat × (Option Addr × Nat) × List SD × List (List Int)) [10, 15, 73, 74, 75, 76, 77, 78, 79, 80, 81, 82, 83] (fun s => [(73, .int .i64 (s.1 : Int)), (10, .slice s.2.1.1 s.2.2.2.length s.2.1.2)])
            (fun s w' => s.1 ≤ L.length ∧ Ex w8 w' ∧ (Blk w' gv 70 (u16L (inv ((ls.getD i lv0).bk a1))) ∧ ∀ ad, s.2.1.1 = some ad → ad.block ≠ gv) ∧ OwnLists w' w8.heap.size 55 70 .u16 s.2.1.1 s.2.1.2 s.2.2.1 s.2.2.2 ∧ s.2.2.2 = L1 ++ (L.take s.1).map (fun p => mulP p (inv ((ls.getD i lv0).bk a1)))) (fun s => L.length - s.1)
            (0, (b1, c1), sd1, L1) ⟨rfl, rfl, trivial⟩ ⟨Nat.zero_le _, hE810, ⟨hbv, fun ad e => by have := (hO9.top.lo ad e).2; omega⟩, hO9.ext hE10, by simp⟩ ?_
          rintro ⟨k, ⟨b2, c2⟩, sd2, L2⟩ ξ2 w11 ⟨hk, hE11, ⟨hbv11, hne11⟩, hO11, hL2e⟩
          simp only at hk hO11 hL2e hne11
          show CW _ _ _ _ (over [(73, .int .i64 (k : Int)), (10, .slice b2 L2.length c2)] _) w11
          have hsl2 := hO11.len
          have hL2l : L2.length = L1.length + k := by rw [hL2e, List.length_append, List.length_map, List.length_take]; omega
          by_cases hkl : k < L.length
          · have hLs11 := (hO8.ext hE11).lists
            obtain ⟨hsd2, hsn2⟩ := hLs11.each k hkl
            obtain ⟨⟨qa, ql, qc⟩, hsdk2⟩ : ∃ x, lsd.getD k sd0 = x := ⟨_, rfl⟩
            rw [hsdk2] at hsd2 hsn2
            simp only at hsd2 hsn2
            subst hsn2
            have hpL : PermN tl (L.getD k []) := (hG.links.drop (i + 1)).grp.perm _ ((hEn.mem _).1 (getD_mem (d := []) hkl))
            repeat' (first | (refine k_lssT rfl rfl (by omega) ?_) | (refine k_indexN (j := k) (a := b) rfl rfl (hLs11.sl.plain (by rw [List.length_map]; omega)) (by omega) ?_) | (refine k_loadSd rfl hLs11.sl (by omega) hsdk2 ?_) | (refine k_pure rfl ?_) | (refine then_normal ?_) | (refine cw_seq ?_) | (refine cw_region rfl ?_) | (refine rr_nil ?_) | (refine cw_cond_true rfl ?_) | (refine cw_block ?_) | (refine cw_skip ?_))
            refine k_call (times_spec hsd2 hbv11.sl qc tl (fun j hj => by have := hpL.1.lt hj; rw [hpL.2] at this; rw [hpi.2]; exact this) (by rw [hpL.2]; omega)) (by rw [hpi.2]; rfl) ?_
            rintro v w12 ⟨gt, rfl, hgt, hbt, hE12⟩
            refine ⟨fun _ _ => trivial, ?_⟩
            have htl := hbt.lt
            have s11 := hE11.size
            have s12 := hE12.size
            have hpm : PermN tl (mulP (L.getD k []) (inv ((ls.getD i lv0).bk a1))) := hpL.mul hpi
            have hO12 := hO11.ext hE12
            refine k_app1S (n := sd2.length) (a := b2) (cap := c2) (by show Value.slice b2 L2.length c2 = _; rw [hsl2]) rfl rfl rfl hO12.top (by omega) (by omega) (by omega) (fun g13 b13 c13 w13 ho13 hg13 hA13 => ?_)
            have hown : Own w12 w8.heap.size 70 1 (some ⟨gt, 0, none⟩) (mulP (L.getD k []) (inv ((ls.getD i lv0).bk a1))).length (mulP (L.getD k []) (inv ((ls.getD i lv0).bk a1))).length (u16L (mulP (L.getD k []) (inv ((ls.getD i lv0).bk a1)))) := hbt.own (by simp) (by rw [hpm.2]; unfold maxLen; omega) (by omega)
            have hO13 := hO12.snoc hown (fun ad ad' e e' => by injection e' with e'; subst e'; have := (hO11.top.lo ad e).2; show ad.block ≠ gt; omega) ho13 hg13 hA13
            have hE813 : Ex w8 w13 := hO12.grow_ex hg13 (hE11.trans hE12) (Nat.le_refl _)
            have s13 := hg13.size
            have hbv13 := (hbv11.ext hE12).gb hg13 (fun e => by obtain ⟨ad, e1, e2⟩ := ownBlock_eq e; exact hne11 ad e1 e2)
            have hbvl := hbv11.lt
            repeat' (first | (refine k_pure rfl ?_) | (refine then_normal ?_) | (refine cw_region rfl ?_) | (refine rr_nil ?_) | (refine k_addI rfl rfl (by omega) (by omega) ?_) | (refine in_normal ?_))
            refine ⟨⟨(k + 1, (b13, c13), sd2 ++ [⟨some ⟨gt, 0, none⟩, (mulP (L.getD k []) (inv ((ls.getD i lv0).bk a1))).length, (mulP (L.getD k []) (inv ((ls.getD i lv0).bk a1))).length⟩], L2 ++ [mulP (L.getD k []) (inv ((ls.getD i lv0).bk a1))]), ⟨by simp only; omega, hE813, ⟨hbv13, fun ad e => ?_⟩, hO13, ?_⟩, by simp only; omega, rfl, ?_, trivial⟩, (by (repeat (first | exact agree_mask _ _ _ | refine agree_upd rfl ?_ | refine agree_updO rfl ?_ | refine agree_overIn rfl ?_ | refine agree_maskIn rfl ?_)))⟩
            · simp only at e
              rcases hA13 with h | h
              · rw [h] at e; exact hne11 ad e
              · have := h ad e; omega
            · simp only
              rw [take_succ_getD L [] hkl, List.map_append, hL2e, List.append_assoc]; rfl
            · show Value.slice b13 (sd2.length + 1) c13 = Value.slice b13 (L2 ++ [_]).length c13
              rw [List.length_append, List.length_singleton, hsl2]
          · obtain rfl : k = L.length := by omega
            rw [List.take_length] at hL2e
            repeat' (first | (refine k_lssF rfl rfl (by omega) ?_) | (refine k_pure rfl ?_) | (refine then_normal ?_) | (refine cw_seq ?_) | (refine cw_region rfl ?_) | (refine rr_nil ?_) | (refine k_addI rfl rfl (by omega) (by omega) ?_) | (refine cw_cond_false rfl ?_) | (refine cw_exit ?_) | (refine then_exit ?_) | (refine in_exit ?_) | (refine in_normal ?_))
            refine ⟨⟨(a1 + 1, (b2, c2), sd2, L2), ⟨by simp only; omega, hE11, hO11, ?_, ?_⟩, by simp only; omega, rfl, rfl, trivial⟩, (by (repeat (first | exact agree_mask _ _ _ | refine agree_upd rfl ?_ | refine agree_updO rfl ?_ | refine agree_overIn rfl ?_ | refine agree_maskIn rfl ?_)))⟩
            · simp only
              rw [flat_take _ _ [] ha, ← hL1, hL2e]; rfl
            · simp only
              rw [hL2l, hL1l, Nat.succ_mul]
        · obtain rfl : a1 = (ls.getD i lv0).back.length := by omega
          rw [List.take_length] at hL1
          have hLn1 : L1 = lvlStep (ls.getD i lv0) L := hL1
          repeat' (first | (refine k_lssF rfl rfl (by omega) ?_) | (refine k_pure rfl ?_) | (refine then_normal ?_) | (refine cw_seq ?_) | (refine cw_region rfl ?_) | (refine rr_nil ?_) | (refine k_subI rfl rfl (by omega) (by omega) ?_) | (refine cw_cond_false rfl ?_) | (refine cw_exit ?_) | (refine then_exit ?_) | (refine in_exit ?_) | (refine in_normal ?_))
          refine ⟨⟨(i, (b1, c1), sd1, L1), ⟨by simp only; omega, hE49, hO9.mono (by have := hE8.size; omega), ?_, ?_, ?_⟩, by simp only; omega, rfl, rfl, trivial⟩, (by (repeat (first | exact agree_mask _ _ _ | refine agree_upd rfl ?_ | refine agree_updO rfl ?_ | refine agree_overIn rfl ?_ | refine agree_maskIn rfl ?_)))⟩
          · simp only
            rw [hLn1, drop_cons hil]
            refine enm_step ?_ ?_ hEn
            · have := hG.links.drop i; rwa [drop_cons hil] at this
            · have := hF.drop i; rwa [drop_cons hil] at this
          · simp only
            rw [hLn1, lvlStep_len ok, hLp, hpr]
          · simp only
            rw [hLn1, lvlStep_len ok, Nat.mul_comm]; omega
end Go.Proofs.YthhfjagnmhhapaaGreat

namespace Go.Proofs.YthhfjagnmhhapaaGreat
open Go.W Go.PM Go.LM
set_option maxHeartbeats 4000000 in
theorem rall_spec {n : Nat} {L : RC} {a : Option Addr} {cap : Nat} {w : World} (n1 : 1 ≤ n ∧ n ≤ 512) (h11 : n ≤ 11) (hs : Sl w a (cellsL L)) (hC : RCs w n L) (hLk : Links n (lvsOf L)) (hF : Full n (lvsOf L)) (hl : L.length ≤ 1000000) (hp : prodL (lvsOf L) ≤ 2000) :
    ∀ (d i : Nat), i + d = L.length → ∀ w1, Ex w w1 → CallsR Tryz.prog 35 #[.int .i64 (n : Int), .slice a L.length cap, .int .i64 (i : Int)] w1 fun v w' => Ex w1 w' ∧ ∃ (b : Option Addr) (c : Nat) (ss : List SD) (E : List (List Int)), v = .slice b E.length c ∧ Lists w' .i64 b ss E ∧ Enm (grpOf n ((lvsOf L).drop i)) E := by
  have hll : (lvsOf L).length = L.length := List.length_map _
  have hid : identF (n : Int) = (idList n, true) := by unfold identF; rw [if_pos (by omega), Int.toNat_natCast]
  intro d
  induction d with
  | zero =>
    intro i hi w1 hE1
    refine callsR_of (args := [_, _, _]) Tryz.func35 rfl rfl ?_
    repeat' (first | (refine k_pure rfl ?_) | (refine then_normal ?_) | (refine cw_seq ?_) | (refine cw_region rfl ?_) | (refine rr_nil ?_))
    refine k_call (refIdentity_spec (n : Int) w1) rfl ?_
    rintro v w4 ⟨b4, c4, rfl, hO4, hE4⟩
    refine ⟨fun _ _ => trivial, ?_⟩
    rw [hid] at hO4 ⊢
    repeat' (first | (refine k_eqT rfl rfl (by omega) ?_) | (refine k_pure rfl ?_) | (refine then_normal ?_) | (refine cw_seq ?_) | (refine cw_region rfl ?_) | (refine rr_nil ?_) | (refine k_len rfl ?_) | (refine cw_cond_true rfl ?_))
    refine k_lit1 (v := .slice b4 (idList n).length c4) rfl rfl (fun g5 w5 hn5 => ⟨fun _ _ => trivial, ?_⟩)
    repeat' (first | (refine k_pure rfl ?_) | (refine then_normal ?_) | (refine rr_nil ?_) | (refine cw_ret ?_) | (refine then_ret ?_))
    refine ret1 rfl (rt rfl) ⟨hE4.trans hn5.ex, some ⟨g5, 0, none⟩, 1, [⟨b4, (idList n).length, c4⟩], [idList n], rfl, ⟨hn5.blk.sl, rfl, fun j hj => ?_⟩, ?_⟩
    · obtain rfl : j = 0 := by simpa using hj
      exact ⟨hO4.sl.ext hn5.ex, rfl⟩
    · rw [List.drop_eq_nil_of_le (by omega)]; exact enm_id n
  | succ d ih =>
    intro i hi w1 hE1
    have hil : i < L.length := by omega
    refine callsR_of (args := [_, _, _]) Tryz.func35 rfl rfl ?_
    have hdrop := drop_cons (ls := lvsOf L) (i := i) (by omega)
    rw [lvsOf_getD] at hdrop
    have hLi := hLk.drop i
    have hFi := hF.drop i
    rw [hdrop] at hLi hFi
    have ok := hLi.1
    obtain ⟨ga, go, rfl⟩ := hs.plain (by rw [cellsL_len]; omega)
    have hc3 := fun w' (h : Ex w w') => cell3 (hs.ext h) hil
    have hlv := hC i hil
    have hpd := prodL_le_drop hLk i
    rw [hdrop] at hpd ⊢
    generalize L.getD i rc0 = hl' at *
    obtain ⟨h, l⟩ := hl'
    simp only at ok hc3 hlv hLi hFi hpd
    have hml := hlv.mp.len
    have hpm : W.plain h.ma := hlv.ma.plain (by simp; omega)
    repeat' (first | (refine k_pure rfl ?_) | (refine then_normal ?_) | (refine cw_seq ?_) | (refine cw_region rfl ?_) | (refine rr_nil ?_))
    refine k_call (refIdentity_spec (n : Int) w1) rfl ?_
    rintro v w4 ⟨b4, c4, rfl, hO4, hE4⟩
    refine ⟨fun _ _ => trivial, ?_⟩
    rw [hid] at hO4 ⊢
    repeat' (first | (refine k_eqF rfl rfl (by omega) ?_) | (refine k_pure rfl ?_) | (refine then_normal ?_) | (refine cw_seq ?_) | (refine cw_region rfl ?_) | (refine rr_nil ?_) | (refine k_len rfl ?_) | (refine k_addI rfl rfl (by omega) (by omega) ?_) | (refine cw_cond_false rfl ?_) | (refine cw_skip ?_))
    refine k_call (ih (i + 1) (by omega) w4 (hE1.trans hE4)) rfl ?_
    rintro v w2 ⟨hE2, b2, c2, ss2, E, rfl, hL2, hEn⟩
    refine ⟨fun _ _ => trivial, ?_⟩
    have hE12 := hE4.trans hE2
    have hE02 := hE1.trans hE12
    have hsl2 := hL2.len
    have hcard := full_card hLi.tail hFi.2
    have hEl : E.length = prodL ((lvsOf L).drop (i + 1)) := hEn.card.unique hcard
    have hol := ok.orb_le
    have hE20 : E.length ≤ 2000 := by
      have := prodL_le_drop hLk (i + 1)
      omega
    repeat' (first | (refine k_pure rfl ?_) | (refine then_normal ?_) | (refine rr_nil ?_) | (refine k_len rfl ?_) | (refine cw_block ?_))
    refine cw_loop (ι := Nat × (Option Addr × Nat) × List SD × List (List Int)) [9, 11, 13, 31, 32, 33, 34, 35, 36, 37, 38, 39, 40, 41, 42, 43, 44, 45, 46, 47, 48, 49, 50, 51, 52, 53, 54] (fun s => [(31, .int .i64 (s.1 : Int)), (9, .slice s.2.1.1 s.2.2.2.length s.2.1.2)])
      (fun s w' => s.1 ≤ E.length ∧ Ex w2 w' ∧ OwnLists w' w2.heap.size 43 3 .i64 s.2.1.1 s.2.1.2 s.2.2.1 s.2.2.2 ∧ s.2.2.2 = (E.take s.1).flatMap (fun p => (orbN n l).map fun (y : Nat) => mulP p (inv (l.to (y : Int)))) ∧ s.2.2.2.length ≤ s.1 * n) (fun s => E.length - s.1)
      (0, (none, 0), [], []) ⟨rfl, rfl, trivial⟩ ⟨Nat.zero_le _, Ex.refl _, OwnLists.nil _ _ _ _ _, rfl, by simp⟩ ?_
    rintro ⟨k, ⟨b3, c3⟩, sd3, O3⟩ ξ w5 ⟨hk, hE5, hO5, hO3, hO3l⟩
    simp only at hk hO5 hO3 hO3l
    show CW _ _ _ _ (over [(31, .int .i64 (k : Int)), (9, .slice b3 O3.length c3)] _) w5
    have hE05 := hE02.trans hE5
    by_cases hkl : k < E.length
    · have hL5 := hL2.ext hE5
      obtain ⟨hsd, hsn⟩ := hL5.each k hkl
      obtain ⟨⟨ta, tl, tc⟩, hsdk⟩ : ∃ x, ss2.getD k sd0 = x := ⟨_, rfl⟩
      rw [hsdk] at hsd hsn
      simp only at hsd hsn
      subst hsn
      have hpp : PermN n (E.getD k []) := hLi.tail.grp.perm _ ((hEn.mem _).1 (getD_mem (d := []) hkl))
      have hc35 := hc3 _ hE05
      repeat' (first | (refine k_lssT rfl rfl (by omega) ?_) | (refine k_indexN (j := k) (a := b2) rfl rfl (hL5.sl.plain (by rw [List.length_map]; omega)) (by omega) ?_) | (refine k_loadSd rfl hL5.sl (by omega) hsdk ?_) | (refine k_index3 (j := i) rfl rfl ⟨_, _, rfl⟩ hil ?_) | (refine k_load rfl hc35.2.2 ?_) | (refine k_pure rfl ?_) | (refine then_normal ?_) | (refine cw_seq ?_) | (refine cw_region rfl ?_) | (refine rr_nil ?_) | (refine k_len rfl ?_) | (refine k_fieldAddr rfl ?_) | (refine cw_cond_true rfl ?_) | (refine cw_block ?_) | (refine cw_skip ?_))
      refine cw_loop (ι := Nat × (Option Addr × Nat) × List SD × List (List Int)) [9, 13, 41, 42, 43, 44, 45, 46, 47, 48, 49, 50, 51, 52, 53] (fun s => [(41, .int .i64 (s.1 : Int)), (9, .slice s.2.1.1 s.2.2.2.length s.2.1.2)])
        (fun s w' => s.1 ≤ n ∧ Ex w2 w' ∧ OwnLists w' w2.heap.size 43 3 .i64 s.2.1.1 s.2.1.2 s.2.2.1 s.2.2.2 ∧ s.2.2.2 = O3 ++ (orbTo l s.1).map (fun (y : Nat) => mulP (E.getD k []) (inv (l.to (y : Int))))) (fun s => n - s.1)
        (0, (b3, c3), sd3, O3) ⟨rfl, rfl, trivial⟩ ⟨Nat.zero_le _, hE5, hO5, by simp [orbTo]⟩ ?_
      rintro ⟨y, ⟨b6, c6⟩, sd6, O6⟩ ξ2 w6 ⟨hy, hE6, hO6, hO6e⟩
      simp only at hy hO6 hO6e
      show CW _ _ _ _ (over [(41, .int .i64 (y : Int)), (9, .slice b6 O6.length c6)] _) w6
      have hE06 := hE02.trans hE6
      have hma6 := hlv.ma.ext hE06
      have hsl6 := hO6.len
      have hO6l : O6.length ≤ (k + 1) * n := by
        have h1 := orbTo_le l y
        rw [hO6e, List.length_append, List.length_map, Nat.succ_mul]; omega
      have hO6m : O6.length ≤ 2001 * 11 := Nat.le_trans hO6l (Nat.mul_le_mul (by omega) h11)
      by_cases hyn : y < n
      · by_cases hm : (y : Int) ∈ l.orb
        · obtain ⟨gy, cy, hsy, hSy⟩ := hlv.mp.inn y hm
          have pto : PermN n (l.to (y : Int)) := ok.grp.perm _ (ok.to_in hm)
          repeat' (first | (refine k_lssT rfl rfl (by omega) ?_) | (refine k_indexN (j := y) rfl rfl hpm (by omega) ?_) | (refine k_loadSd rfl hma6 (by omega) hsy ?_) | (refine k_neqNil rfl rfl ?_) | (refine k_pure rfl ?_) | (refine then_normal ?_) | (refine cw_seq ?_) | (refine cw_region rfl ?_) | (refine rr_nil ?_) | (refine cw_cond_true rfl ?_) | (refine cw_block ?_) | (refine cw_skip ?_))
          have hsd6 : Sl w6 ta (intsL (E.getD k [])) := by
            have := ((hL2.ext hE6).each k hkl).1
            rwa [hsdk] at this
          refine k_call (product_spec (xs := E.getD k []) (ys := inv (l.to (y : Int))) hsd6 (hSy.ext hE06) tc cy (by rw [hpp.2]; omega) (fun z hz => by have := hpp.1.2.2.1 z hz; rw [hpp.2] at this; rw [pto.inv.2]; exact this)) (by rw [pto.inv.2]; rfl) ?_
          rintro v w7 ⟨b7, c7, rfl, hO7, hE7⟩
          refine ⟨fun _ _ => trivial, ?_⟩
          have s6 := hE6.size
          have s7 := hE7.size
          have hO67 := hO6.ext hE7
          refine k_app1S (n := sd6.length) (a := b6) (cap := c6) (by show Value.slice b6 O6.length c6 = _; rw [hsl6]) rfl rfl rfl hO67.top (by omega) (by omega) (by omega) (fun g8 b8 c8 w8 ho8 hg8 hA8 => ?_)
          have hO8 := hO67.snoc (hO7.mono (by omega)) (fun ad ad' e e' => by have := (hO6.top.lo ad e).2; have := (hO7.lo ad' e').1; omega) ho8 hg8 hA8
          have hE8 : Ex w2 w8 := hO67.grow_ex hg8 (hE6.trans hE7) (Nat.le_refl _)
          repeat' (first | (refine k_pure rfl ?_) | (refine then_normal ?_) | (refine cw_region rfl ?_) | (refine rr_nil ?_) | (refine k_addI rfl rfl (by omega) (by omega) ?_) | (refine in_normal ?_))
          refine ⟨⟨(y + 1, (b8, c8), sd6 ++ [⟨b7, (mulP (E.getD k []) (inv (l.to (y : Int)))).length, c7⟩], O6 ++ [mulP (E.getD k []) (inv (l.to (y : Int)))]), ⟨by simp only; omega, hE8, hO8, ?_⟩, by simp only; omega, rfl, ?_, trivial⟩, (by (repeat (first | exact agree_mask _ _ _ | refine agree_upd rfl ?_ | refine agree_updO rfl ?_ | refine agree_overIn rfl ?_ | refine agree_maskIn rfl ?_)))⟩
          · simp only
            rw [orbTo, if_pos hm, List.map_append, ← List.append_assoc, ← hO6e]; rfl
          · show Value.slice b8 (sd6.length + 1) c8 = Value.slice b8 (O6 ++ [_]).length c8
            rw [List.length_append, List.length_singleton, hsl6]
        · have hsy := hlv.mp.out y hyn hm
          repeat' (first | (refine k_lssT rfl rfl (by omega) ?_) | (refine k_indexN (j := y) rfl rfl hpm (by omega) ?_) | (refine k_loadSd rfl hma6 (by omega) hsy ?_) | (refine k_neqNil rfl rfl ?_) | (refine k_pure rfl ?_) | (refine then_normal ?_) | (refine cw_seq ?_) | (refine cw_region rfl ?_) | (refine rr_nil ?_) | (refine k_addI rfl rfl (by omega) (by omega) ?_) | (refine cw_cond_true rfl ?_) | (refine cw_cond_false rfl ?_) | (refine cw_block ?_) | (refine in_normal ?_) | (refine cw_skip ?_))
          refine ⟨⟨(y + 1, (b6, c6), sd6, O6), ⟨by simp only; omega, hE6, hO6, by simp only; rw [orbTo, if_neg hm, List.append_nil]; exact hO6e⟩, by simp only; omega, rfl, rfl, trivial⟩, (by (repeat (first | exact agree_mask _ _ _ | refine agree_upd rfl ?_ | refine agree_updO rfl ?_ | refine agree_overIn rfl ?_ | refine agree_maskIn rfl ?_)))⟩
      · obtain rfl : y = n := by omega
        repeat' (first | (refine k_lssF rfl rfl (by omega) ?_) | (refine k_pure rfl ?_) | (refine then_normal ?_) | (refine cw_seq ?_) | (refine cw_region rfl ?_) | (refine rr_nil ?_) | (refine k_addI rfl rfl (by omega) (by omega) ?_) | (refine cw_cond_false rfl ?_) | (refine cw_exit ?_) | (refine then_exit ?_) | (refine in_exit ?_) | (refine in_normal ?_))
        refine ⟨⟨(k + 1, (b6, c6), sd6, O6), ⟨by simp only; omega, hE6, hO6, ?_, hO6l⟩, by simp only; omega, rfl, rfl, trivial⟩, (by (repeat (first | exact agree_mask _ _ _ | refine agree_upd rfl ?_ | refine agree_updO rfl ?_ | refine agree_overIn rfl ?_ | refine agree_maskIn rfl ?_)))⟩
        simp only
        rw [flat_take _ _ [] hkl, ← hO3, hO6e, orbTo_eq]
    · obtain rfl : k = E.length := by omega
      rw [List.take_length] at hO3
      repeat' (first | (refine k_lssF rfl rfl (by omega) ?_) | (refine k_pure rfl ?_) | (refine then_normal ?_) | (refine cw_seq ?_) | (refine cw_region rfl ?_) | (refine rr_nil ?_) | (refine cw_cond_false rfl ?_) | (refine cw_exit ?_) | (refine then_exit ?_) | (refine in_exit ?_) | (refine cw_ret ?_))
      refine ret1 rfl (rt rfl) ⟨hE12.trans hE5, b3, c3, sd3, O3, rfl, hO5.lists, ?_⟩
      rw [hO3]
      exact enm_rstep hLi hFi hEn
theorem nodup_getD {l : List (List Int)} (h : l.Nodup) : ∀ i j, i < j → j < l.length → l.getD i [] ≠ l.getD j [] := fun i j hij hj => by
  have := List.pairwise_iff_getElem.1 h i j (by omega) hj hij
  rw [List.getD_eq_getElem?_getD, List.getD_eq_getElem?_getD, List.getElem?_eq_getElem (by omega), List.getElem?_eq_getElem hj]
  exact this
theorem nodup_ins {O : List (List Int)} {p : List Int} {i : Nat} (h : O.Nodup) (hp : p ∉ O) : (O.take i ++ p :: O.drop i).Nodup ∧ ∀ q, q ∈ O.take i ++ p :: O.drop i ↔ q ∈ O ∨ q = p := by
  have hpm : (O.take i ++ p :: O.drop i).Perm (p :: O) := by
    refine List.perm_middle.trans ?_
    rw [List.take_append_drop]
  refine ⟨hpm.nodup_iff.2 (List.nodup_cons.2 ⟨hp, h⟩), fun q => ?_⟩
  rw [hpm.mem_iff, List.mem_cons]
  exact Or.comm
set_option maxHeartbeats 4000000 in
theorem rElements_spec {n : Int} {gens : List (List Int)} {a : Option Addr} {sds : List SD} {cap : Nat} {w : World} (hL : Lists w .i64 a sds gens) (hl : gens.length ≤ 1000) (h11 : errS n gens = 0 → n ≤ 11) (hk : ∀ k, errS n gens = 0 → Card (Gen n.toNat gens) k → k ≤ 2000) :
    CallsR Tryz.prog 12 #[.int .i64 n, .slice a gens.length cap] w fun v w' => Ex w w' ∧ ∃ (r : Option Addr) (c : Nat) (rs : List SD) (O : List (List Int)) (e : Int), v = .tuple #[.slice r O.length c, .int .i64 e] ∧ Lists w' .i64 r rs O ∧
      (errS n gens = 0 → e = 0 ∧ Enm (Gen n.toNat gens) O ∧ Asc O) := by
  refine callsR_of (args := [_, _]) Tryz.func12 rfl rfl ?_
  repeat' (first | (refine k_pure rfl ?_) | (refine then_normal ?_) | (refine cw_seq ?_) | (refine cw_region rfl ?_) | (refine rr_nil ?_))
  refine k_call (group_ref_spec (n := n) hL cap (by omega)) rfl ?_
  rw [grp_errS]
  rintro v w2 ⟨rfl, hE2⟩
  refine ⟨fun _ _ => trivial, ?_⟩
  repeat' (first | (refine k_pure rfl ?_) | (refine then_normal ?_) | (refine cw_seq ?_) | (refine cw_region rfl ?_) | (refine rr_nil ?_) | (refine cw_cond_dec rfl (fun hc => ?_) (fun hc => ?_)) | (refine cw_ret ?_) | (refine then_ret ?_) | (refine cw_skip ?_))
  · exact ret2 rfl (rt rfl) (rt rfl) ⟨hE2, none, 0, [], [], _, rfl, Lists.nil _ _ _, fun h => absurd h hc⟩
  · have h0 : errS n gens = 0 := by omega
    obtain ⟨m, rfl, hm1, hm2, hgl, hgn⟩ := errS_zero h0
    have hm11 : m ≤ 11 := by have := h11 h0; omega
    refine k_call (rchain_spec (base := []) (b := none) (bc := 0) ⟨hm1, hm2⟩ hm11 hgn (hL.ext hE2) (by omega) (Sl.nil _ _) (by simp) (fun i hi => absurd hi (by simp))) rfl ?_
    rintro v w4 ⟨hE4, ca, ccap, C, rfl, hR, hG, hF⟩
    refine ⟨fun _ _ => trivial, ?_⟩
    have hEw4 := hE2.trans hE4
    have hcard : Card (Gen m gens) (prodL (lvsOf C)) := (full_card hG.links hF).congr fun p => hG.grp p
    have hp2 : prodL (lvsOf C) ≤ 2000 := hk _ h0 (by rw [Int.toNat_natCast]; exact hcard)
    have hll := hG.ll
    rw [List.length_map, List.length_nil, Nat.zero_add] at hll
    have hokC : ∀ j, j < C.length → LvOK m (C.getD j rc0).2 := fun j hj => hR.ok hG j hj
    repeat' (first | (refine k_pure rfl ?_) | (refine then_normal ?_) | (refine cw_seq ?_) | (refine cw_region rfl ?_) | (refine rr_nil ?_))
    refine k_call (rSize_spec (cap := ccap) hR.own.sl hR.lv hokC (by omega) (by omega)) rfl ?_
    rintro v w5 ⟨hz5, hE5⟩
    refine ⟨fun _ _ => trivial, ?_⟩
    refine k_call (refSmall_spec (z := 2000) (by omega) (by omega) _) rfl ?_
    rintro v2 w6 ⟨hz6, hE6⟩
    refine ⟨fun _ _ => trivial, ?_⟩
    refine k_call (refCmpI_spec (hz5.ext hE6) hz6) rfl ?_
    rintro v3 w7 ⟨rfl, hE7⟩
    refine ⟨fun _ _ => trivial, ?_⟩
    have hcm : cmpI ((prodL (lvsOf C) : Nat) : Int) 2000 ≤ 0 := by unfold cmpI; split; omega; rw [if_neg (by omega)]; omega
    have hE47 := (hE5.trans hE6).trans hE7
    repeat' (first | (refine k_gtrF rfl rfl hcm ?_) | (refine k_pure rfl ?_) | (refine then_normal ?_) | (refine cw_seq ?_) | (refine cw_region rfl ?_) | (refine rr_nil ?_) | (refine cw_cond_false rfl ?_) | (refine cw_skip ?_))
    refine k_call (rall_spec (cap := ccap) ⟨hm1, hm2⟩ hm11 hR.own.sl hR.lv hG.links hF (by omega) hp2 C.length 0 (by omega) w7 hE47) rfl ?_
    rintro v w8 ⟨hE8, b8, c8, ss8, E, rfl, hL8, hEn⟩
    refine ⟨fun _ _ => trivial, ?_⟩
    rw [List.drop_zero] at hEn
    have hEl : E.length = prodL (lvsOf C) := hEn.card.unique (full_card hG.links hF)
    have hsl8 := hL8.len
    have hEp : ∀ j, j < E.length → PermN m (E.getD j []) := fun j hj => hG.links.grp.perm _ ((hEn.mem _).1 (getD_mem (d := []) hj))
    have hEnd := nodup_getD hEn.nd
    repeat' (first | (refine k_pure rfl ?_) | (refine then_normal ?_) | (refine rr_nil ?_) | (refine k_len rfl ?_) | (refine cw_block ?_))
    refine cw_loop (ι := Nat × (Option Addr × Nat) × List SD × List (List Int)) [8, 10, 11, 12, 31, 32, 33, 34, 35, 36, 37, 38, 39, 40, 41, 42, 43, 44, 45, 46, 47, 48, 49, 50, 51, 52, 53, 54, 55, 56, 57, 58, 59, 60, 61, 62] (fun s => [(31, .int .i64 (s.1 : Int)), (8, .slice s.2.1.1 s.2.2.2.length s.2.1.2)])
      (fun s w' => s.1 ≤ E.length ∧ Ex w8 w' ∧ Lists w' .i64 s.2.1.1 s.2.2.1 s.2.2.2 ∧ s.2.2.2.length = s.1 ∧ s.2.2.2.length ≤ s.2.1.2 ∧ (s.1 = 0 → s.2.1 = (none, 0)) ∧ s.2.2.2.Nodup ∧ (∀ q, q ∈ s.2.2.2 ↔ q ∈ E.take s.1) ∧ Asc s.2.2.2) (fun s => E.length - s.1)
      (0, (none, 0), [], []) ⟨rfl, rfl, trivial⟩ ⟨Nat.zero_le _, Ex.refl _, Lists.nil _ _ _, rfl, Nat.le_refl _, fun _ => rfl, by simp, by simp, List.Pairwise.nil⟩ ?_
    rintro ⟨k, ⟨b9, c9⟩, sd9, O⟩ ξ w9 ⟨hk', hE9, hL9, hOl, hOc, hO0, hOnd, hOm, hOA⟩
    simp only at hk' hL9 hOl hOc hO0 hOnd hOm hOA
    show CW _ _ _ _ (over [(31, .int .i64 (k : Int)), (8, .slice b9 O.length c9)] _) w9
    have hsl9 := hL9.len
    by_cases hkl : k < E.length
    · have hL89 := hL8.ext hE9
      obtain ⟨hsd, hsn⟩ := hL89.each k hkl
      obtain ⟨⟨ta, tl, tc⟩, hsdk⟩ : ∃ x, ss8.getD k sd0 = x := ⟨_, rfl⟩
      rw [hsdk] at hsd hsn
      simp only at hsd hsn
      subst hsn
      have hpk := hEp k hkl
      have hOp : ∀ j, j < O.length → PermN m (O.getD j []) := fun j hj => by
        have h1 := (hOm _).1 (getD_mem (d := []) hj)
        exact hG.links.grp.perm _ ((hEn.mem _).1 (List.mem_of_mem_take h1))
      have hno : E.getD k [] ∉ O := fun h1 => by
        have h2 := (hOm _).1 h1
        obtain ⟨j, hj, e⟩ := mem_getDL h2
        rw [List.length_take] at hj
        rw [List.getD_eq_getElem?_getD, List.getElem?_take, if_pos (by omega), ← List.getD_eq_getElem?_getD] at e
        exact hEnd j k (by omega) hkl e
      repeat' (first | (refine k_lssT rfl rfl (by omega) ?_) | (refine k_indexN (j := k) (a := b8) rfl rfl (hL89.sl.plain (by rw [List.length_map]; omega)) (by omega) ?_) | (refine k_loadSd rfl hL89.sl (by omega) hsdk ?_) | (refine k_pure rfl ?_) | (refine then_normal ?_) | (refine cw_seq ?_) | (refine cw_region rfl ?_) | (refine rr_nil ?_) | (refine k_len rfl ?_) | (refine cw_cond_true rfl ?_) | (refine cw_block ?_) | (refine cw_skip ?_))
      refine cw_loop (ι := Nat) [11, 37, 38, 39, 40, 41, 42, 43, 44, 45, 46, 47, 48, 49] (fun s => [(11, .int .i64 (s : Int))]) (fun s w' => s ≤ O.length ∧ Ex w9 w' ∧ ∀ j, s ≤ j → j < O.length → lexC (E.getD k []) (O.getD j []) < 0) (fun s => s)
        O.length ⟨rfl, trivial⟩ ⟨Nat.le_refl _, Ex.refl _, fun j h1 h2 => by omega⟩ ?_
      rintro i ξ2 w10 ⟨hi, hE10, hge⟩
      show CW _ _ _ _ (over [(11, .int .i64 (i : Int))] _) w10
      have hL10 := hL9.ext hE10
      by_cases hi0 : 0 < i
      · obtain ⟨hsd1, hsn1⟩ := hL10.each (i - 1) (by omega)
        obtain ⟨⟨ua, ul, uc⟩, hsdu⟩ : ∃ x, sd9.getD (i - 1) sd0 = x := ⟨_, rfl⟩
        rw [hsdu] at hsd1 hsn1
        simp only at hsd1 hsn1
        subst hsn1
        have hpo := hOp (i - 1) (by omega)
        have e1 : (i : Int) - 1 = ((i - 1 : Nat) : Int) := by omega
        repeat' (first | (refine k_gtrT rfl rfl (by omega) ?_) | (refine k_indexN (j := i - 1) (a := b9) rfl (congrArg _ e1) (hL10.sl.plain (by rw [List.length_map]; omega)) (by omega) ?_) | (refine k_loadSd rfl hL10.sl (by omega) hsdu ?_) | (refine k_pure rfl ?_) | (refine cw_seq ?_) | (refine cw_region rfl ?_) | (refine g_run rfl rfl ?_) | (refine k_subI rfl rfl (by omega) (by omega) ?_))
        refine k_call (rless_spec (c := tc) (d := uc) (hsd.ext hE10) hsd1 (by rw [hpk.2, hpo.2]) (by rw [hpk.2]; omega)) rfl ?_
        rintro v w11 ⟨rfl, hE11⟩
        refine ⟨fun _ _ => trivial, ?_⟩
        by_cases hlt : lexC (E.getD k []) (O.getD (i - 1) []) < 0
        · rw [decide_eq_true hlt]
          repeat' (first | (refine k_pure rfl ?_) | (refine then_normal ?_) | (refine cw_region rfl ?_) | (refine rr_nil ?_) | (refine k_subI rfl rfl (by omega) (by omega) ?_) | (refine cw_cond_true rfl ?_) | (refine cw_block ?_) | (refine in_normal ?_) | (refine cw_skip ?_))
          refine ⟨⟨i - 1, ⟨by omega, hE10.trans hE11, fun j h1 h2 => ?_⟩, by omega, congrArg (Value.int .i64) e1, trivial⟩, (by (repeat (first | exact agree_mask _ _ _ | refine agree_upd rfl ?_ | refine agree_updO rfl ?_ | refine agree_overIn rfl ?_ | refine agree_maskIn rfl ?_)))⟩
          by_cases e : j = i - 1
          · rw [e]; exact hlt
          · exact hge j (by omega) h2
        · rw [decide_eq_false hlt]
          have hE911 := hE10.trans hE11
          repeat' (first | (refine k_pure rfl ?_) | (refine then_normal ?_) | (refine cw_seq ?_) | (refine cw_region rfl ?_) | (refine rr_nil ?_) | (refine cw_cond_false rfl ?_) | (refine cw_exit ?_) | (refine then_exit ?_) | (refine in_exit ?_))
          refine k_lit1 (v := .slice ta (E.getD k []).length tc) rfl rfl (fun g12 w12 hn12 => ⟨fun _ _ => trivial, ?_⟩)
          have hE12 : Ex w9 w12 := hE911.trans hn12.ex
          have l12 := hn12.lo
          have hb12 := hn12.blk.lt
          have hown12 : Own w12 w11.heap.size 43 1 (some ⟨g12, 0, none⟩) 1 1 [.slice ta (E.getD k []).length tc] := hn12.blk.own (n := 1) rfl (by unfold maxLen; omega) l12
          have hL12 := hL9.ext hE12
          repeat' (first | (refine k_pure rfl ?_))
          refine k_sliceFromS (a := b9) (len := O.length) (cap := c9) (l := i) rfl rfl hi hOc (fun e => by
            rcases Nat.eq_zero_or_pos k with h | h
            · have h1 := hO0 h; injection h1 with _ h2
            · have := hL9.sl.plain (by rw [List.length_map]; omega)
              obtain ⟨_, _, e'⟩ := this
              rw [e] at e'; cases e') (fun hne => by
            rcases Nat.eq_zero_or_pos k with h | h
            · have h1 := hO0 h; injection h1 with h2 _; exact absurd h2 hne
            · exact hL9.sl.plain (by rw [List.length_map]; omega)) (fun a2 ha2 => ?_)
          have hdr : Sl w12 a2 ((sd9.drop i).map SD.val) := by rw [List.map_drop]; exact ha2 _ _ hL12.sl (by rw [List.length_map]; omega)
          have hsm : w11.heap.size ≤ w12.heap.size := hn12.ex.size
          refine k_appendM (E := 43) (news := (sd9.drop i).map SD.val) (m := O.length - i) rfl rfl rfl hown12 hdr (by rw [List.length_map, List.length_drop]; omega) (all_one (fun s => rfl) _) (by omega) (by omega) hsm (fun a13 c13 w13 ho13 hg13 hA13 => ⟨fun _ _ => trivial, ?_⟩)
          have hE13 : Ex w9 w13 := hown12.grow_ex hg13 hE12 (by have := hE911.size; omega)
          have hE1013 : Ex w11 w13 := hown12.grow_ex hg13 hn12.ex (Nat.le_refl _)
          repeat' (first | (refine k_clipAt (i := i) rfl rfl rfl (by omega) ?_) | (refine k_pure rfl ?_) | (refine then_normal ?_) | (refine cw_region rfl ?_) | (refine rr_nil ?_))
          refine k_appendFullM (vs := (sd9.take i).map SD.val) (news := ((⟨ta, (E.getD k []).length, tc⟩ : SD) :: sd9.drop i).map SD.val) (m := 1 + (O.length - i)) rfl rfl rfl (by rw [List.map_take]; exact (hL9.ext hE13).sl.take i) (by rw [List.length_map, List.length_take]; omega) ho13.sl (by rw [List.length_map, List.length_cons, List.length_drop]; omega) (by omega) (all_one (fun s => rfl) _) (by omega) (by omega) (fun g14 c14 w14 hg14 ho14 hE14 => ⟨fun _ _ => trivial, ?_⟩)
          have hE914 := hE13.trans hE14
          have hcap14 := ho14.capLe
          obtain ⟨hnd2, hmem2⟩ := nodup_ins (i := i) hOnd hno
          repeat' (first | (refine k_pure rfl ?_) | (refine then_normal ?_) | (refine cw_region rfl ?_) | (refine rr_nil ?_) | (refine k_addI rfl rfl (by omega) (by omega) ?_) | (refine in_normal ?_))
          refine ⟨⟨(k + 1, (some ⟨g14, 0, none⟩, c14), sd9.take i ++ ⟨ta, (E.getD k []).length, tc⟩ :: sd9.drop i, O.take i ++ E.getD k [] :: O.drop i), ⟨by simp only; omega, hE9.trans hE914, Lists.ins (hL9.ext hE914) hi (hsd.ext hE914) rfl ?_, by simp only; rw [len_ins _ _ hi, hOl], by simp only; rw [len_ins _ _ hi]; omega, fun h => by simp only at h; omega, hnd2, fun q => ?_, asc_insert hOA hi hge (fun _ => hlt) hno⟩, by simp only; omega, rfl, ?_, trivial⟩, (by (repeat (first | exact agree_mask _ _ _ | refine agree_upd rfl ?_ | refine agree_updO rfl ?_ | refine agree_overIn rfl ?_ | refine agree_maskIn rfl ?_)))⟩
          · have := ho14.sl
            rwa [← List.map_append] at this
          · simp only
            rw [hmem2, hOm, take_succ_getD E [] hkl, List.mem_append, List.mem_singleton]
          · show Value.slice (some ⟨g14, 0, none⟩) (i + (1 + (O.length - i))) c14 = Value.slice (some ⟨g14, 0, none⟩) (O.take i ++ E.getD k [] :: O.drop i).length c14
            rw [len_ins _ _ hi, show i + (1 + (O.length - i)) = O.length + 1 by omega]
      · have hi00 : i = 0 := by omega
        repeat' (first | (refine k_gtrF rfl rfl (by omega) ?_) | (refine k_pure rfl ?_) | (refine then_normal ?_) | (refine cw_seq ?_) | (refine cw_region rfl ?_) | (refine rr_nil ?_) | (refine g_skip rfl rfl ?_) | (refine cw_cond_false rfl ?_) | (refine cw_exit ?_) | (refine then_exit ?_) | (refine in_exit ?_))
        refine k_lit1 (v := .slice ta (E.getD k []).length tc) rfl rfl (fun g12 w12 hn12 => ⟨fun _ _ => trivial, ?_⟩)
        have hE12 : Ex w9 w12 := hE10.trans hn12.ex
        have l12 := hn12.lo
        have hb12 := hn12.blk.lt
        have hown12 : Own w12 w10.heap.size 43 1 (some ⟨g12, 0, none⟩) 1 1 [.slice ta (E.getD k []).length tc] := hn12.blk.own (n := 1) rfl (by unfold maxLen; omega) l12
        have hL12 := hL9.ext hE12
        repeat' (first | (refine k_pure rfl ?_))
        refine k_sliceFromS (a := b9) (len := O.length) (cap := c9) (l := i) rfl rfl hi hOc (fun e => by
          rcases Nat.eq_zero_or_pos k with h | h
          · have h1 := hO0 h; injection h1 with _ h2
          · have := hL9.sl.plain (by rw [List.length_map]; omega)
            obtain ⟨_, _, e'⟩ := this
            rw [e] at e'; cases e') (fun hne => by
          rcases Nat.eq_zero_or_pos k with h | h
          · have h1 := hO0 h; injection h1 with h2 _; exact absurd h2 hne
          · exact hL9.sl.plain (by rw [List.length_map]; omega)) (fun a2 ha2 => ?_)
        have hdr : Sl w12 a2 ((sd9.drop i).map SD.val) := by rw [List.map_drop]; exact ha2 _ _ hL12.sl (by rw [List.length_map]; omega)
        have hsm : w10.heap.size ≤ w12.heap.size := hn12.ex.size
        refine k_appendM (E := 43) (news := (sd9.drop i).map SD.val) (m := O.length - i) rfl rfl rfl hown12 hdr (by rw [List.length_map, List.length_drop]; omega) (all_one (fun s => rfl) _) (by omega) (by omega) hsm (fun a13 c13 w13 ho13 hg13 hA13 => ⟨fun _ _ => trivial, ?_⟩)
        have hE13 : Ex w9 w13 := hown12.grow_ex hg13 hE12 (by have := hE10.size; omega)
        have hE1013 : Ex w10 w13 := hown12.grow_ex hg13 hn12.ex (Nat.le_refl _)
        repeat' (first | (refine k_clipAt (i := i) rfl rfl rfl (by omega) ?_) | (refine k_pure rfl ?_) | (refine then_normal ?_) | (refine cw_region rfl ?_) | (refine rr_nil ?_))
        refine k_appendFullM (vs := (sd9.take i).map SD.val) (news := ((⟨ta, (E.getD k []).length, tc⟩ : SD) :: sd9.drop i).map SD.val) (m := 1 + (O.length - i)) rfl rfl rfl (by rw [List.map_take]; exact (hL9.ext hE13).sl.take i) (by rw [List.length_map, List.length_take]; omega) ho13.sl (by rw [List.length_map, List.length_cons, List.length_drop]; omega) (by omega) (all_one (fun s => rfl) _) (by omega) (by omega) (fun g14 c14 w14 hg14 ho14 hE14 => ⟨fun _ _ => trivial, ?_⟩)
        have hE914 := hE13.trans hE14
        have hcap14 := ho14.capLe
        obtain ⟨hnd2, hmem2⟩ := nodup_ins (i := i) hOnd hno
        repeat' (first | (refine k_pure rfl ?_) | (refine then_normal ?_) | (refine cw_region rfl ?_) | (refine rr_nil ?_) | (refine k_addI rfl rfl (by omega) (by omega) ?_) | (refine in_normal ?_))
        refine ⟨⟨(k + 1, (some ⟨g14, 0, none⟩, c14), sd9.take i ++ ⟨ta, (E.getD k []).length, tc⟩ :: sd9.drop i, O.take i ++ E.getD k [] :: O.drop i), ⟨by simp only; omega, hE9.trans hE914, Lists.ins (hL9.ext hE914) hi (hsd.ext hE914) rfl ?_, by simp only; rw [len_ins _ _ hi, hOl], by simp only; rw [len_ins _ _ hi]; omega, fun h => by simp only at h; omega, hnd2, fun q => ?_, asc_insert hOA hi hge (fun h => absurd h (by omega)) hno⟩, by simp only; omega, rfl, ?_, trivial⟩, (by (repeat (first | exact agree_mask _ _ _ | refine agree_upd rfl ?_ | refine agree_updO rfl ?_ | refine agree_overIn rfl ?_ | refine agree_maskIn rfl ?_)))⟩
        · have := ho14.sl
          rwa [← List.map_append] at this
        · simp only
          rw [hmem2, hOm, take_succ_getD E [] hkl, List.mem_append, List.mem_singleton]
        · show Value.slice (some ⟨g14, 0, none⟩) (i + (1 + (O.length - i))) c14 = Value.slice (some ⟨g14, 0, none⟩) (O.take i ++ E.getD k [] :: O.drop i).length c14
          rw [len_ins _ _ hi, show i + (1 + (O.length - i)) = O.length + 1 by omega]
    · obtain rfl : k = E.length := by omega
      rw [List.take_length] at hOm
      repeat' (first | (refine k_lssF rfl rfl (by omega) ?_) | (refine k_pure rfl ?_) | (refine then_normal ?_) | (refine cw_seq ?_) | (refine cw_region rfl ?_) | (refine rr_nil ?_) | (refine cw_cond_false rfl ?_) | (refine cw_exit ?_) | (refine then_exit ?_) | (refine in_exit ?_) | (refine cw_ret ?_))
      exact ret2 rfl (rt rfl) (rt rfl) ⟨((hEw4.trans hE47).trans hE8).trans hE9, b9, c9, sd9, O, 0, rfl, hL9, fun _ => ⟨rfl, ⟨hOnd, fun p => by rw [hOm, hEn.mem, Int.toNat_natCast]; exact hG.grp p⟩, hOA⟩⟩
end Go.Proofs.YthhfjagnmhhapaaGreat

/- The orders of three groups, by chains that the kernel checks. -/
namespace Go.PM
def invC (p : List Int) : List Int := invTo p p.length
def lvAdd (l : Lv) (s : Nat × Nat) : Lv := l.add (ap (l.gens.getD s.2 []) (l.orb.getD s.1 0)) (mulP (invC (l.gens.getD s.2 [])) (l.bk s.1))
def okAdd (l : Lv) (s : Nat × Nat) : Bool := decide (s.1 < l.orb.length) && (decide (s.2 < l.gens.length) && !(l.orb.contains (ap (l.gens.getD s.2 []) (l.orb.getD s.1 0))))
def mkLv (l : Lv) : List (Nat × Nat) → Lv
  | [] => l
  | s :: ss => mkLv (lvAdd l s) ss
def okLv (l : Lv) : List (Nat × Nat) → Bool
  | [] => (List.range l.orb.length).all fun i => (List.range l.gens.length).all fun j => l.orb.contains (ap (l.gens.getD j []) (l.orb.getD i 0))
  | s :: ss => okAdd l s && okLv (lvAdd l s) ss
theorem mkLv_ok {n : Nat} : ∀ (ss : List (Nat × Nat)) (l l0 : Lv), Part n l → Grow l0 l → okLv l ss = true → LvOK n (mkLv l ss) ∧ Grow l0 (mkLv l ss)
  | [], l, l0, hp, hg, h => by
    refine ⟨hp.ok ⟨fun i hi j hj => ?_, fun j hj => absurd hj (by omega)⟩, hg⟩
    simp only [okLv, List.all_eq_true, List.mem_range] at h
    have := h i hi j hj
    simpa using this
  | s :: ss, l, l0, hp, hg, h => by
    simp only [okLv, okAdd, Bool.and_eq_true, decide_eq_true_eq, Bool.not_eq_true'] at h
    obtain ⟨⟨h1, h2, h3⟩, h4⟩ := h
    have hm : ap (l.gens.getD s.2 []) (l.orb.getD s.1 0) ∉ l.orb := fun hm => by
      have : l.orb.contains (ap (l.gens.getD s.2 []) (l.orb.getD s.1 0)) = true := by simpa using hm
      rw [this] at h3; cases h3
    have pg := hp.gens _ (getD_mem (d := []) h2)
    have e : lvAdd l s = l.add (ap (l.gens.getD s.2 []) (l.orb.getD s.1 0)) (mulP (inv (l.gens.getD s.2 [])) (l.bk s.1)) := by
      unfold lvAdd invC; rw [Go.Proofs.YthhfjagnmhhapaaGreat.invTo_inv pg]
    rw [e] at h4
    show LvOK n (mkLv (lvAdd l s) ss) ∧ Grow l0 (mkLv (lvAdd l s) ss)
    rw [e]
    exact mkLv_ok ss _ l0 (hp.add h1 h2 hm) (hg.add _ _) h4
def schrC (l : Lv) (a k : Nat) : List Int := mulP (mulP (invC (l.bk a)) (l.gens.getD k [])) (l.to (ap (l.gens.getD k []) (l.orb.getD a 0)))
theorem schrC_eq {n : Nat} {l : Lv} (h : LvOK n l) {a : Nat} (k : Nat) (ha : a < l.orb.length) : schrC l a k = l.schr a k := by
  unfold schrC Lv.schr invC
  rw [Go.Proofs.YthhfjagnmhhapaaGreat.invTo_inv (h.grp.perm _ (h.bin a ha))]
theorem schr_fix {n : Nat} {l : Lv} (h : LvOK n l) {a k : Nat} (ha : a < l.orb.length) (hk : k < l.gens.length) : Gen n l.gens (l.schr a k) ∧ ap (l.schr a k) l.pt = l.pt := by
  have hg := h.grp
  have hb := h.bin a ha
  have pb := hg.perm _ hb
  have hgk := gen_self h.gens (getD_mem (d := []) hk)
  have hx := h.orb_in (getD_mem (d := 0) ha)
  have hm : ap (l.gens.getD k []) (l.orb.getD a 0) ∈ l.orb := by rw [h.mem]; exact .step _ (getD_mem hk) ((h.mem _).1 (getD_mem ha))
  have hp := hg.mul _ _ (hg.inv hb) hgk
  have e1 : ap (mulP (inv (l.bk a)) (l.gens.getD k [])) l.pt = ap (l.gens.getD k []) (l.orb.getD a 0) := by
    rw [ap_mul pb.inv h.pt]
    congr 1
    rw [← h.bap a ha, ap_inv pb hx]
  refine ⟨hg.mul _ _ hp (h.to_in hm), ?_⟩
  unfold Lv.schr
  rw [ap_mul (hg.perm _ hp) h.pt, e1, h.to_ap hm]
abbrev Spec := List (Int × List (Nat × Nat) × List (Nat × Nat))
def mkCh (n : Nat) : Spec → List (List Int) → List Lv
  | [], _ => []
  | s :: ss, gens => mkLv (Lv.one n s.1 gens) s.2.1 :: mkCh n ss (s.2.2.map fun x => schrC (mkLv (Lv.one n s.1 gens) s.2.1) x.1 x.2)
def okCh (n : Nat) : Spec → List (List Int) → Bool
  | [], gens => gens.isEmpty
  | s :: ss, gens => decide (0 ≤ s.1 ∧ s.1 < n) && (okLv (Lv.one n s.1 gens) s.2.1 && (okCh n ss (s.2.2.map fun x => schrC (mkLv (Lv.one n s.1 gens) s.2.1) x.1 x.2) &&
    (s.2.2.all (fun x => decide (x.1 < (mkLv (Lv.one n s.1 gens) s.2.1).orb.length) && decide (x.2 < gens.length)) &&
    (List.range (mkLv (Lv.one n s.1 gens) s.2.1).orb.length).all fun a => (List.range gens.length).all fun k =>
      (siftL (mkCh n ss (s.2.2.map fun x => schrC (mkLv (Lv.one n s.1 gens) s.2.1) x.1 x.2)) (schrC (mkLv (Lv.one n s.1 gens) s.2.1) a k)).1 == idList n)))
theorem mkCh_ok {n : Nat} (n1 : 1 ≤ n ∧ n ≤ 512) : ∀ (ss : Spec) (gens : List (List Int)), GensN n gens → okCh n ss gens = true → Links n (mkCh n ss gens) ∧ Full n (mkCh n ss gens) ∧ ∀ p, grpOf n (mkCh n ss gens) p ↔ Gen n gens p
  | [], gens, _, h => by
    have : gens = [] := by simpa [okCh] using h
    subst this
    exact ⟨n1, trivial, fun p => by rw [gen_nil]; exact Iff.rfl⟩
  | s :: ss, gens, gn, h => by
    simp only [okCh, Bool.and_eq_true, decide_eq_true_eq, List.all_eq_true, List.mem_range, beq_iff_eq] at h
    obtain ⟨h1, h2, h3, h4, h5⟩ := h
    obtain ⟨ok, gr⟩ := mkLv_ok s.2.1 _ _ (part_one n1 h1 gn) (Grow.refl _) h2
    have hgens : (mkLv (Lv.one n s.1 gens) s.2.1).gens = gens := gr.gens
    have hdone := gr.new
    show Links n (mkLv (Lv.one n s.1 gens) s.2.1 :: mkCh n ss _) ∧ Full n (mkLv (Lv.one n s.1 gens) s.2.1 :: mkCh n ss _) ∧ ∀ p, Gen n (mkLv (Lv.one n s.1 gens) s.2.1).gens p ↔ Gen n gens p
    generalize mkLv (Lv.one n s.1 gens) s.2.1 = l at *
    have hsel : ∀ g ∈ s.2.2.map (fun x => schrC l x.1 x.2), Gen n l.gens g ∧ ap g l.pt = l.pt := fun g hg => by
      obtain ⟨x, hx, rfl⟩ := List.mem_map.1 hg
      obtain ⟨a1, a2⟩ := h4 x hx
      rw [schrC_eq ok _ a1]
      exact schr_fix ok a1 (by rw [hgens]; exact a2)
    obtain ⟨i1, i2, i3⟩ := mkCh_ok n1 ss _ (fun g hg => ok.grp.perm _ (hsel g hg).1) h3
    have hL : Links n (l :: mkCh n ss (s.2.2.map fun x => schrC l x.1 x.2)) := ⟨ok, fun p hp => gen_le (stab_grp ok.grp ok.pt) hsel ((i3 p).1 hp), fun a ha => ⟨by rw [hdone]; omega, fun k hk => by rw [hdone] at hk; omega⟩, i1⟩
    refine ⟨hL, ⟨schreier hL fun a ha k hk => ?_, i2⟩, fun p => by rw [hgens]⟩
    have hs := h5 a ha k (by rw [← hgens]; exact hk)
    rw [schrC_eq ok _ ha] at hs
    have ps := ok.grp.perm _ (schr_fix ok ha hk).1
    rw [← sift_grp i1 ps, hs]
    exact i1.grp.one
theorem mkCh_card {n : Nat} (n1 : 1 ≤ n ∧ n ≤ 512) {ss : Spec} {gens : List (List Int)} (gn : GensN n gens) (h : okCh n ss gens = true) : Card (Gen n gens) (prodL (mkCh n ss gens)) := by
  obtain ⟨h1, h2, h3⟩ := mkCh_ok n1 ss gens gn h
  exact (full_card h1 h2).congr h3
end Go.PM
namespace Go.Proofs.YthhfjagnmhhapaaGreat
open Go.W Go.PM
end Go.Proofs.YthhfjagnmhhapaaGreat

/- What awake of law 17 asks, in plain Lean. -/
namespace Go.PM
theorem mkCh_mem {n : Nat} (n1 : 1 ≤ n ∧ n ≤ 512) {ss : Spec} {gens : List (List Int)} (gn : GensN n gens) (h : okCh n ss gens = true) {p : List Int} (hp : PermN n p) : (siftL (mkCh n ss gens) p).1 = idList n ↔ Gen n gens p := by
  obtain ⟨h1, h2, h3⟩ := mkCh_ok n1 ss gens gn h
  rw [sift_iff h1 h2 hp]; exact h3 p
def ge3 : List (List Int) := [[1, 2, 0], [1, 0, 2]]
def ge4 : List (List Int) := [[1, 2, 3, 0]]
def sp3 : Spec := [(0, [(0, 0), (1, 0)], [(0, 1)]), (1, [(0, 0)], [])]
def sp4 : Spec := [(0, [(0, 0), (1, 0), (2, 0)], [])]
end Go.PM
namespace Go.Proofs.YthhfjagnmhhapaaGreat
open Go.W Go.PM
theorem gn3 : GensN 3 ge3 := permsB_iff.1 (by kernel_rfl)
theorem gn4 : GensN 4 ge4 := permsB_iff.1 (by kernel_rfl)
theorem ok3 : okCh 3 sp3 ge3 = true := by kernel_rfl
theorem ok4 : okCh 4 sp4 ge4 = true := by kernel_rfl
theorem pr3 : prodL (mkCh 3 sp3 ge3) = 6 := by kernel_rfl
theorem card3 : Card (Gen 3 ge3) 6 := pr3 ▸ mkCh_card (by decide) gn3 ok3
theorem in4 : Gen 4 ge4 [2, 3, 0, 1] := (mkCh_mem (by decide) gn4 ok4 ((permsB_iff (n := 4) (l := [[2, 3, 0, 1]])).1 (by kernel_rfl) [2, 3, 0, 1] (List.mem_singleton.2 rfl))).1 (by kernel_rfl)
theorem out4 : ¬ Gen 4 ge4 [1, 0, 2, 3] := fun h => by
  have := (mkCh_mem (by decide) gn4 ok4 ((permsB_iff (n := 4) (l := [[1, 0, 2, 3]])).1 (by kernel_rfl) [1, 0, 2, 3] (List.mem_singleton.2 rfl))).2 h
  exact absurd this (by decide +kernel)
theorem chain_orbLen {n : Nat} {G : List Int → Prop} {base : List Int} {ls : List Lv} (hL : Links n ls) (hg : ∀ p, grpOf n ls p ↔ G p) (hF : Full n ls) (hbl : base.length ≤ ls.length) (hpts : ∀ i, i < base.length → (ls.getD i lv0).pt = base.getD i 0) {i : Nat} (hi : i < base.length) : OrbLen (PStab G (base.take i)) (base.getD i 0) (ls.getD i lv0).orb.length := by
  have hil : i < ls.length := by omega
  have ok := hL.ok (getD_some hil)
  refine ⟨(ls.getD i lv0).orb, ok.nd, fun y => ?_, rfl⟩
  rw [ok.mem' y, hpts i hi]
  have key : ∀ p, Gen n (ls.getD i lv0).gens p ↔ PStab G (base.take i) p := fun p => by
    have h1 := full_stab lv0 i ls (by omega) hL hF p
    rw [drop_cons hil] at h1
    have h1' : Gen n (ls.getD i lv0).gens p ↔ grpOf n ls p ∧ ∀ j, j < i → ap p (ls.getD j lv0).pt = (ls.getD j lv0).pt := h1
    rw [h1', hg p]
    constructor
    · rintro ⟨a, b⟩
      refine ⟨a, fun x hx => ?_⟩
      obtain ⟨j, hj, e⟩ := List.getElem_of_mem hx
      rw [List.length_take] at hj
      have := b j (by omega)
      rw [hpts j (by omega), List.getD_eq_getElem?_getD, List.getElem?_eq_getElem (by omega)] at this
      rw [List.getElem_take] at e
      rw [← e]; exact this
    · rintro ⟨a, b⟩
      refine ⟨a, fun j hj => ?_⟩
      rw [hpts j (by omega)]
      refine b _ ?_
      rw [List.getD_eq_getElem?_getD, List.getElem?_eq_getElem (by omega)]
      exact List.mem_take_iff_getElem.2 ⟨j, by omega, rfl⟩
  exact ⟨fun ⟨p, a, b⟩ => ⟨p, (key p).1 a, b⟩, fun ⟨p, a, b⟩ => ⟨p, (key p).2 a, b⟩⟩
theorem len3 {L : List Int} (h : LenOK 3 ge3 [0, 1] 2 L) : L = [3, 2] := by
  obtain ⟨h1, h2, h3⟩ := mkCh_ok (by decide) sp3 ge3 gn3 ok3
  have hb : ([0, 1] : List Int).length ≤ (mkCh 3 sp3 ge3).length := by decide +kernel
  have hp : ∀ i, i < ([0, 1] : List Int).length → ((mkCh 3 sp3 ge3).getD i lv0).pt = ([0, 1] : List Int).getD i 0 := by decide +kernel
  obtain ⟨m0, e0, o0⟩ := h.2 0 (by omega)
  obtain ⟨m1, e1, o1⟩ := h.2 1 (by omega)
  have a0 := o0.unique (chain_orbLen h1 h3 h2 hb hp (i := 0) (by simp))
  have a1 := o1.unique (chain_orbLen h1 h3 h2 hb hp (i := 1) (by simp))
  have l0 : ((mkCh 3 sp3 ge3).getD 0 lv0).orb.length = 3 := by kernel_rfl
  have l1 : ((mkCh 3 sp3 ge3).getD 1 lv0).orb.length = 2 := by kernel_rfl
  rw [l0] at a0
  rw [l1] at a1
  subst a0
  subst a1
  have hl := h.1
  match L, hl with
  | [x, y], _ => simp at e0 e1; rw [e0, e1]
end Go.Proofs.YthhfjagnmhhapaaGreat

namespace Go.Proofs.YthhfjagnmhhapaaGreat
open Go.W Go.PM Go.LM
set_option maxHeartbeats 1000000 in
theorem awakeS_spec (w : World) : CallsR Tryz.prog 10 #[] w fun v w' => v = .bool true ∧ Ex w w' := by
  refine callsR_of (args := []) Tryz.func10 rfl rfl ?_
  repeat' (first | (refine k_pure rfl ?_) | (refine then_normal ?_) | (refine cw_seq ?_) | (refine cw_region rfl ?_) | (refine rr_nil ?_))
  refine k_lit (cs := (intsL [1, 2, 0]).toArray) rfl (by kernel_rfl) (fun a1 wa1 ha1 => ⟨fun _ _ => trivial, ?_⟩)
  refine k_lit (cs := (intsL [1, 0, 2]).toArray) rfl (by kernel_rfl) (fun b1 wb1 hb1 => ⟨fun _ _ => trivial, ?_⟩)
  refine k_lit (cs := ([(⟨some ⟨a1, 0, none⟩, 3, 3⟩ : SD), ⟨some ⟨b1, 0, none⟩, 3, 3⟩].map SD.val).toArray) rfl (by kernel_rfl) (fun l1 wl1 hl1 => ⟨fun _ _ => trivial, ?_⟩)
  have hLs1 : Lists wl1 .i64 (some ⟨l1, 0, none⟩) [⟨some ⟨a1, 0, none⟩, 3, 3⟩, ⟨some ⟨b1, 0, none⟩, 3, 3⟩] ge3 := Lists.of hl1.blk.sl ⟨⟨((ha1.blk.ext hb1.ex).ext hl1.ex).sl, rfl⟩, ⟨(hb1.blk.ext hl1.ex).sl, rfl⟩, trivial⟩
  have hX0 : Ex w wl1 := (ha1.ex.trans hb1.ex).trans hl1.ex
  have he1 : errS 3 ge3 = 0 := by kernel_rfl
  repeat' (first | (refine k_pure rfl ?_) | (refine then_normal ?_) | (refine cw_seq ?_) | (refine cw_region rfl ?_) | (refine rr_nil ?_))
  refine k_call (sOrder_spec (n := 3) (cap := 2) hLs1 (by decide) (fun _ => by decide)) rfl ?_
  rintro v w2 ⟨z1, rfl, hE2, _, ho1⟩
  refine ⟨fun _ _ => trivial, ?_⟩
  obtain ⟨k1, hk1, hz1⟩ := ho1 he1
  have hkk1 : k1 = 6 := hk1.unique card3
  subst hkk1
  obtain ⟨cs1, rfl, hcl1, hco1⟩ := hz1.out
  rw [he1]
  repeat' (first | (refine k_pure rfl ?_))
  refine k_allocA (vs := intL false none 0 0) (fun g1 w3 hg1 => ⟨fun _ _ => trivial, ?_⟩)
  refine k_storeV (n := 2) rfl rfl hcl1 hco1 hg1.blk rfl (fun w4 hc4 hs4 => ⟨fun _ _ => trivial, ?_⟩)
  have hX4 : Ex wl1 w4 := (hE2.trans hg1.ex).chg hc4 (by have h1 := hg1.lo; have h2 := hE2.size; omega)
  have hq4 := (hz1.ext hg1.ex).chgO hc4 (hz1.off_hi hg1.lo)
  repeat' (first | (refine k_pure rfl ?_) | (refine then_normal ?_) | (refine cw_seq ?_) | (refine cw_region rfl ?_) | (refine rr_nil ?_))
  refine k_lit (cs := (intsL [0, 1]).toArray) rfl (by kernel_rfl) (fun c5 w5 hn5 => ⟨fun _ _ => trivial, ?_⟩)
  refine k_call (sLengths_spec (n := 3) (base := [0, 1]) (bc := 2) (cap := 2) (hLs1.ext (hX4.trans hn5.ex)) (by decide) (fun _ => by decide) hn5.blk.sl (by decide)) rfl ?_
  have he5 : errL 3 ge3 [0, 1] = 0 := by kernel_rfl
  rintro v w6 ⟨hE6, r6, c6, L6, rfl, hO6, _, hL6⟩
  refine ⟨fun _ _ => trivial, ?_⟩
  have hL6e := len3 (hL6 he5)
  subst hL6e
  rw [he5]
  repeat' (first | (refine k_pure rfl ?_) | (refine then_normal ?_) | (refine cw_seq ?_) | (refine cw_region rfl ?_) | (refine rr_nil ?_))
  refine k_lit (cs := (intsL [1, 2, 3, 0]).toArray) rfl (by kernel_rfl) (fun a7 w7 hn7 => ⟨fun _ _ => trivial, ?_⟩)
  refine k_lit1 (v := .slice (some ⟨a7, 0, none⟩) 4 4) rfl rfl (fun b7 w8 hn8 => ⟨fun _ _ => trivial, ?_⟩)
  refine k_lit (cs := (intsL [2, 3, 0, 1]).toArray) rfl (by kernel_rfl) (fun c7 w9 hn9 => ⟨fun _ _ => trivial, ?_⟩)
  have hLs9 : Lists w9 .i64 (some ⟨b7, 0, none⟩) [⟨some ⟨a7, 0, none⟩, 4, 4⟩] ge4 := Lists.of (hn8.blk.ext hn9.ex).sl ⟨⟨((hn7.blk.ext hn8.ex).ext hn9.ex).sl, rfl⟩, trivial⟩
  refine k_call (sContains_spec (n := 4) (p := [2, 3, 0, 1]) (bc := 4) (cap := 1) hLs9 (by decide) (fun _ => by decide) hn9.blk.sl) rfl ?_
  rintro v w10 ⟨hE10, t10, rfl, ht10⟩
  have he10 : errC 4 ge4 [2, 3, 0, 1] = 0 := by kernel_rfl
  obtain rfl : t10 = true := ht10.2 ⟨he10, in4⟩
  refine ⟨fun _ _ => trivial, ?_⟩
  rw [he10]
  repeat' (first | (refine k_pure rfl ?_) | (refine then_normal ?_) | (refine cw_seq ?_) | (refine cw_region rfl ?_) | (refine rr_nil ?_))
  refine k_lit (cs := (intsL [1, 2, 3, 0]).toArray) rfl (by kernel_rfl) (fun a11 w11 hn11 => ⟨fun _ _ => trivial, ?_⟩)
  refine k_lit1 (v := .slice (some ⟨a11, 0, none⟩) 4 4) rfl rfl (fun b11 w12 hn12 => ⟨fun _ _ => trivial, ?_⟩)
  refine k_lit (cs := (intsL [1, 0, 2, 3]).toArray) rfl (by kernel_rfl) (fun c11 w13 hn13 => ⟨fun _ _ => trivial, ?_⟩)
  have hLs13 : Lists w13 .i64 (some ⟨b11, 0, none⟩) [⟨some ⟨a11, 0, none⟩, 4, 4⟩] ge4 := Lists.of (hn12.blk.ext hn13.ex).sl ⟨⟨((hn11.blk.ext hn12.ex).ext hn13.ex).sl, rfl⟩, trivial⟩
  refine k_call (sContains_spec (n := 4) (p := [1, 0, 2, 3]) (bc := 4) (cap := 1) hLs13 (by decide) (fun _ => by decide) hn13.blk.sl) rfl ?_
  rintro v w14 ⟨hE14, t14, rfl, ht14⟩
  have he14 : errC 4 ge4 [1, 0, 2, 3] = 0 := by kernel_rfl
  obtain rfl : t14 = false := by cases t14 with | false => rfl | true => exact absurd (ht14.1 rfl).2 out4
  refine ⟨fun _ _ => trivial, ?_⟩
  rw [he14]
  repeat' (first | (refine k_pure rfl ?_) | (refine then_normal ?_) | (refine cw_seq ?_) | (refine rr_nil ?_))
  have hX6 : Ex w4 w6 := hn5.ex.trans hE6
  have hX14 : Ex w6 w14 := ((((((hn7.ex.trans hn8.ex).trans hn9.ex).trans hE10).trans hn11.ex).trans hn12.ex).trans hn13.ex).trans hE14
  have hB := (hs4.ext hX6).ext hX14
  have hQ := (hq4.ext hX6).ext hX14
  have hO := hO6.sl.ext hX14
  have hEx : Ex w14 w14.drew := (Ex.refl w14).drew
  refine cw_tree (fun w' => Ex w14 w') mixed hEx ?_
  refine rb_pre (fuel := 16) (by kernel_rfl) (by kernel_rfl) [0, 1, 2, 3, 4, 5, 6, 7, 8, 9, 10, 11, 12, 13, 14, 15] _ _ (by kernel_rfl) ?_
  repeat' (first | (refine k_loadCA rfl (fun _ h => hB.ext h) hcl1 ?_) | (refine k_pure rfl ?_) | (refine rr_nil ?_) | (refine g_run rfl rfl ?_))
  refine rb_all (fuel := 15) (rs := [16]) (by kernel_rfl) (by kernel_rfl) rfl ?_
  rw [List.forall_mem_singleton]
  refine g_run rfl rfl ?_
  refine k_call (refSmall_spec (z := 6) (by decide) (by decide) _) rfl ?_
  rintro v16 w16 ⟨hm16, hE16⟩
  refine ⟨fun _ h => h.trans hE16, ?_⟩
  replace hEx := hEx.trans hE16
  refine rr_nil ?_
  refine rb_all (fuel := 14) (rs := [17]) (by kernel_rfl) (by kernel_rfl) rfl ?_
  rw [List.forall_mem_singleton]
  refine g_run rfl rfl ?_
  refine k_call (refSame_spec (hQ.ext hEx) hm16) rfl ?_
  rintro v w17 ⟨rfl, hE17⟩
  refine ⟨fun _ h => h.trans hE17, ?_⟩
  replace hEx := hEx.trans hE17
  rw [decide_eq_true (p := (((6 : Nat) : Int) = 6)) rfl]
  refine rr_nil ?_
  refine rb_pre (fuel := 11) (by kernel_rfl) (by kernel_rfl) [18, 19, 20] _ _ (by kernel_rfl) ?_
  repeat' (first | (refine k_pure rfl ?_) | (refine rr_nil ?_) | (refine g_run rfl rfl ?_))
  refine rb_all (fuel := 10) (rs := [21]) (by kernel_rfl) (by kernel_rfl) rfl ?_
  rw [List.forall_mem_singleton]
  refine g_run rfl rfl ?_
  refine k_lit (cs := (intsL [3, 2]).toArray) rfl (by kernel_rfl) (fun g21 w21 hn21 => ⟨fun _ h => h.trans hn21.ex, ?_⟩)
  replace hEx := hEx.trans hn21.ex
  refine rr_nil ?_
  refine rb_all (fuel := 9) (rs := [22]) (by kernel_rfl) (by kernel_rfl) rfl ?_
  rw [List.forall_mem_singleton]
  refine g_run rfl rfl ?_
  refine k_call (same_spec (xs := [3, 2]) (ys := [3, 2]) (hO.ext hEx) hn21.blk.sl _ _ (by decide)) rfl ?_
  rintro v w22 ⟨rfl, hE22⟩
  refine ⟨fun _ h => h.trans hE22, ?_⟩
  replace hEx := hEx.trans hE22
  rw [decide_eq_true (p := ([3, 2] : List Int) = [3, 2]) rfl]
  refine rr_nil ?_
  refine rb_pre (fuel := 0) (by kernel_rfl) (by kernel_rfl) [23, 24, 25, 26, 27, 28, 29, 30, 31] _ _ (by kernel_rfl) ?_
  repeat' (first | (refine k_pure rfl ?_) | (refine rr_nil ?_) | (refine g_run rfl rfl ?_))
  refine rb_done (by kernel_rfl) ?_
  repeat' (first | (refine then_normal ?_) | (refine cw_ret ?_))
  exact ret1 rfl (rt rfl) ⟨rfl, (((hX0.trans hX4).trans hX6).trans hX14).trans hEx⟩
end Go.Proofs.YthhfjagnmhhapaaGreat

