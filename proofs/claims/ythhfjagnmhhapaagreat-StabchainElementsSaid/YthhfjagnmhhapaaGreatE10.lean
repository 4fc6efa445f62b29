
import Derived.Test.YthhfjagnmhhapaaGreatE01
import Derived.Test.YthhfjagnmhhapaaGreatE02
import Derived.Test.YthhfjagnmhhapaaGreatE03
import Derived.Test.YthhfjagnmhhapaaGreatE04
import Derived.Test.YthhfjagnmhhapaaGreatE05
import Derived.Test.YthhfjagnmhhapaaGreatE06
import Derived.Test.YthhfjagnmhhapaaGreatE07
import Derived.Test.YthhfjagnmhhapaaGreatE09

namespace Go.Proofs.YthhfjagnmhhapaaGreat
open Go.W Go.PM
set_option maxHeartbeats 1000000 in
theorem certain_spec {w : World} {n N0 : Nat} {G : List Int → Prop} {base : List Int} {c : CH} {ls : List Lv} (hn11 : n ≤ 11) (hN : N0 ≤ 1000000) (hC : ChAt w n c ls) (hG : Gd n G base N0 ls) :
    CallsR Tryz.prog 72 #[.pointer (some ⟨c.cb, 0, none⟩)] w fun v w' => ∃ i : Nat, i ≤ ls.length ∧ v = .int .i64 (i : Int) ∧ Full n (ls.drop i) ∧ Ex w w' := by
  refine callsR_of (args := [_]) Tryz.func72 rfl rfl ?_
  have hstr := hC.str
  unfold chL at hstr
  have hml := hC.mok.1
  have hpl := prod_le hG.links hn11
  have hll := hG.ll
  have n1 := hG.links.n1
  repeat' (first | (refine k_allocA (vs := intsL num0) (hz := zNum) (fun g3 w1 hn1 => ⟨fun _ _ => trivial, ?_⟩)) | (refine k_pure rfl ?_) | (refine then_normal ?_) | (refine cw_seq ?_) | (refine cw_region rfl ?_) | (refine rr_nil ?_) | (refine k_fieldAddr rfl ?_))
  have z1 := hn1.lo; have z1' := hn1.hi
  have hC1 := hC.ext hn1.ex
  have hstr1 := hstr.ext hn1.ex
  have hRep0 : Rep num0 1 1 := rep_zero
  have hBd0 : Bd num0 0 := bd_zero 513
  have cbl := hstr.lt
  have mbl := hC.map.lt
  repeat' (first | (refine k_loadC rfl hstr1 rfl ?_) | (refine k_lenMap mapT rfl hC1.map ?_) | (refine k_pure rfl ?_) | (refine then_normal ?_) | (refine rr_nil ?_) | (refine cw_block ?_))
  rw [hml]
  refine cw_loop (ι := Nat × List Int) [4, 11, 12, 13, 14, 15, 16, 17, 18, 19, 20, 21, 22, 23, 24, 25, 26] (fun s => [(11, .int .i64 (s.1 : Int))]) (fun s w' => s.1 ≤ ls.length ∧ Ex w w' ∧ Blk w' g3 139 (intsL s.2) ∧ Rep s.2 (prodL (ls.take s.1)) 1 ∧ Bd s.2 (s.1 * 512)) (fun s => ls.length - s.1)
    (0, num0) ⟨rfl, trivial⟩ ⟨Nat.zero_le _, hn1.ex, hn1.blk, by simpa [prodL] using hRep0, by simpa using hBd0⟩ ?_
  rintro ⟨i, e⟩ ξ w2 ⟨hi, hE2, hb2, hR2, hB2⟩
  simp only at hi hb2 hR2 hB2
  show CW _ _ _ _ (over [(11, .int .i64 (i : Int))] _) w2
  have hC2 := hC.ext hE2
  have hstr2 := hstr.ext hE2
  have hel := hR2.1
  repeat' (first | (refine k_pure rfl ?_) | (refine then_normal ?_) | (refine cw_seq ?_) | (refine cw_region rfl ?_) | (refine rr_nil ?_) | (refine k_fieldAddr rfl ?_) | (refine cw_cond_dec rfl (fun hc => ?_) (fun hc => ?_)) | (refine cw_block ?_) | (refine cw_exit ?_) | (refine then_exit ?_) | (refine in_exit ?_) | (refine cw_skip ?_))
  · have hil : i < ls.length := by omega
    obtain ⟨j, hj, hfd, hjm⟩ := hC.mok.find hil
    have hLs := (hC2.lv i hil).str
    have ok := hG.ok hil
    have hol := ok.orb_le
    have hop := ok.pos
    have hlv := (hC.lv i hil).lt (c.hs i).blk (by simp [LH.F])
    refine cw_draw (late := [12]) (plan := [(0, none), (1, none), (2, none), (3, none), (4, none), (5, none), (6, none), (7, none), (8, none), (9, none), (10, none), (11, some true), (12, some false)]) (fun w' => Blk w' g3 139 (intsL e) ∧ Blk w' c.cb 62 [.int .i64 (n : Int), .map (some c.mb), .slice c.va ls.length c.vc, .int .u64 (c.st : Int)] ∧ MapAt w' c.mb c.m ∧ Blk w' (c.hs i).blk 64 (lvL n (c.hs i) (ls.getD i lv0))) mixed (by kernel_rfl) ⟨hb2.drew, hstr2.drew, hC2.drew.map, hLs.drew⟩ ?_
    repeat' (first | (refine k_loadCA (Tb := 139) rfl (fun _ h => h.1) (by rw [List.length_map]; exact hel) ?_) | (refine k_loadC (Tb := 62) rfl (fun _ h => h.2.1) rfl ?_) | (refine k_lookup mapT intT rfl rfl (fun _ h => h.2.2.1) hfd ?_) | (refine k_loadC (Tb := 64) rfl (fun _ h => h.2.2.2) rfl ?_) | (refine k_pure rfl ?_) | (refine k_len rfl ?_) | (refine k_fieldAddr rfl ?_))
    refine k_call (scaled_spec (n := (ls.getD i lv0).orb.length) (u := 1) (v := 0) (T := 1) (t := 1) hR2 hB2 (by omega) (by decide) (by decide) (by omega)) rfl ?_
    rintro v w3 ⟨e3, rfl, hR3, hB3, hE3⟩
    refine ⟨fun _ h => ⟨h.1.ext hE3, h.2.1.ext hE3, h.2.2.1.ext hE3, h.2.2.2.ext hE3⟩, ?_⟩
    repeat' (first | (refine k_storeV (vs := intsL e3) rfl rfl (by rw [List.length_map]; exact hR3.1) (all_one (fun _ => rfl) _) (hb2.drew.ext hE3) (by rw [List.length_map]; exact hel) (fun w4 hc4 hb4 => ⟨fun h => (nomatch h), ?_⟩)) | (refine k_pure rfl ?_) | (refine then_normal ?_) | (refine cw_region rfl ?_) | (refine rr_nil ?_) | (refine k_addI rfl rfl (by omega) (by omega) ?_) | (refine in_normal ?_))
    refine ⟨⟨(i + 1, e3), ⟨by simp only; omega, (hE2.drew.trans hE3).chg hc4 z1, hb4, ?_, hB3.mono (by simp only; omega)⟩, by simp only; omega, rfl, trivial⟩, (by (repeat (first | exact agree_mask _ _ _ | refine agree_upd rfl ?_ | refine agree_updO rfl ?_ | refine agree_overIn rfl ?_ | refine agree_maskIn rfl ?_)))⟩
    show Rep e3 (prodL (ls.take (i + 1))) 1
    rw [prodL_take lv0 ls i hil]
    simpa using hR3
  · obtain rfl : i = ls.length := by omega
    rw [List.take_length] at hR2
    repeat' (first | (refine k_loadC rfl hstr2 rfl ?_) | (refine k_lenMap mapT rfl hC2.map ?_) | (refine k_pure rfl ?_) | (refine then_normal ?_) | (refine rr_nil ?_) | (refine cw_block ?_))
    rw [hml]
    refine cw_loop (ι := Nat × List Int) [2, 5, 32, 33, 34, 35, 36, 37, 38, 39, 40, 41, 42, 43, 44, 45, 46, 47, 48, 49, 50, 51, 52, 53, 54, 55, 56, 57, 58, 59, 60, 61, 62, 63, 64] (fun s => [(32, .int .i64 (s.1 : Int))]) (fun s w' => s.1 ≤ ls.length ∧ Ex w w' ∧ Blk w' g3 139 (intsL s.2) ∧ Rep s.2 (prodL ls) (prodL (ls.take s.1)) ∧ Bd s.2 (ls.length * 512 + s.1 * 512)) (fun s => ls.length - s.1)
      (0, e) ⟨rfl, trivial⟩ ⟨Nat.zero_le _, hE2, hb2, by simpa [prodL] using hR2, by simpa using hB2⟩ ?_
    rintro ⟨i, e1⟩ ξ2 w3 ⟨hi3, hE3, hb3, hR3, hB3⟩
    simp only at hi3 hb3 hR3 hB3
    show CW _ _ _ _ (over [(32, .int .i64 (i : Int))] _) w3
    have hC3 := hC.ext hE3
    have hstr3 := hstr.ext hE3
    have hel3 := hR3.1
    repeat' (first | (refine k_pure rfl ?_) | (refine then_normal ?_) | (refine cw_seq ?_) | (refine cw_region rfl ?_) | (refine rr_nil ?_) | (refine k_fieldAddr rfl ?_) | (refine cw_cond_dec rfl (fun hc => ?_) (fun hc => ?_)) | (refine cw_block ?_) | (refine cw_exit ?_) | (refine then_exit ?_) | (refine in_exit ?_) | (refine cw_skip ?_))
    · have hil : i < ls.length := by omega
      obtain ⟨j, hj, hfd, hjm⟩ := hC.mok.find hil
      have hL3 := hC3.lv i hil
      have hLs := hL3.str
      have ok := hG.ok hil
      have hol := ok.orb_le
      have hop := ok.pos
      have hgl := hG.gl i hil
      refine cw_draw (late := []) (plan := [(0, none), (1, none), (2, none), (3, none), (4, none), (5, none), (6, none), (7, none), (8, none), (9, none), (10, none), (11, none), (12, none), (14, none), (13, some true), (15, none)]) (fun w' => Blk w' g3 139 (intsL e1) ∧ Blk w' c.cb 62 [.int .i64 (n : Int), .map (some c.mb), .slice c.va ls.length c.vc, .int .u64 (c.st : Int)] ∧ MapAt w' c.mb c.m ∧ Blk w' (c.hs i).blk 64 (lvL n (c.hs i) (ls.getD i lv0))) mixed (by kernel_rfl) ⟨hb3.drew, hstr3.drew, hC3.drew.map, hLs.drew⟩ ?_
      repeat' (first | (refine k_loadCA (Tb := 139) rfl (fun _ h => h.1) (by rw [List.length_map]; exact hel3) ?_) | (refine k_loadC (Tb := 62) rfl (fun _ h => h.2.1) rfl ?_) | (refine k_lookup mapT intT rfl rfl (fun _ h => h.2.2.1) hfd ?_) | (refine k_loadC (Tb := 64) rfl (fun _ h => h.2.2.2) rfl ?_) | (refine k_pure rfl ?_) | (refine k_fieldAddr rfl ?_))
      have hLd := hC3.drew.lv i hil
      refine k_call (bound_spec n1 hn11 ok.gens hLd.ga hLd.gs (by omega)) rfl ?_
      rintro v w4 ⟨hE4, eb, A, b, rfl, hRb, hb1, hbk⟩
      refine ⟨fun _ h => ⟨h.1.ext hE4, h.2.1.ext hE4, h.2.2.1.ext hE4, h.2.2.2.ext hE4⟩, ?_⟩
      have hEw4 : Ex w w4 := hE3.drew.trans hE4
      have hb34 := hb3.drew.ext hE4
      skip
      refine k_eqArr numT intT intSz numG rfl rfl hRb.1 hel3 (fun r hr => ?_)
      cases r with
      | true =>
        have heq := hr rfl
        subst heq
        repeat' (first | (refine k_pure rfl ?_) | (refine then_normal ?_) | (refine cw_seq ?_) | (refine cw_region rfl ?_) | (refine rr_nil ?_) | (refine cw_cond_true rfl ?_) | (refine cw_ret ?_) | (refine then_ret ?_) | (refine in_ret ?_))
        refine ret1 rfl (rt rfl) ⟨i, by omega, rfl, ?_, hEw4⟩
        have hx := hRb.eq hR3
        rw [prodL_split ls i] at hx
        have htp := prodL_tpos i hG.links
        have hA : A = prodL (ls.drop i) * b := by
          have h1 : prodL (ls.take i) * A = prodL (ls.take i) * (prodL (ls.drop i) * b) := by rw [← Nat.mul_assoc, ← hx, Nat.mul_comm]
          exact Nat.eq_of_mul_eq_mul_left (by omega) h1
        have hlk := hG.links.drop i
        obtain ⟨k, hk⟩ := hlk.grp.card
        have hgk : Card (Gen n (ls.getD i lv0).gens) k := by
          have e : grpOf n (ls.drop i) = Gen n (ls.getD i lv0).gens := by rw [drop_cons hil]; rfl
          rw [← e]; exact hk
        have hle := hbk k hgk
        rw [hA, Nat.mul_comm] at hle
        exact card_full hlk k hk (Nat.le_of_mul_le_mul_right hle (by omega))
      | false =>
        repeat' (first | (refine then_normal ?_) | (refine rr_nil ?_) | (refine cw_cond_false rfl ?_) | (refine cw_skip ?_))
        refine cw_draw (late := [12]) (plan := [(0, none), (1, none), (2, none), (3, none), (4, none), (5, none), (6, none), (7, none), (8, none), (9, none), (10, none), (11, some true), (12, some false)]) (fun w' => Blk w' g3 139 (intsL e1) ∧ Blk w' c.cb 62 [.int .i64 (n : Int), .map (some c.mb), .slice c.va ls.length c.vc, .int .u64 (c.st : Int)] ∧ MapAt w' c.mb c.m ∧ Blk w' (c.hs i).blk 64 (lvL n (c.hs i) (ls.getD i lv0))) mixed (by kernel_rfl) ⟨hb34.drew, (hstr.ext hEw4).drew, (hC.ext hEw4).drew.map, ((hC.ext hEw4).lv i hil).str.drew⟩ ?_
        repeat' (first | (refine k_loadCA (Tb := 139) rfl (fun _ h => h.1) (by rw [List.length_map]; exact hel3) ?_) | (refine k_loadC (Tb := 62) rfl (fun _ h => h.2.1) rfl ?_) | (refine k_lookup mapT intT rfl rfl (fun _ h => h.2.2.1) hfd ?_) | (refine k_loadC (Tb := 64) rfl (fun _ h => h.2.2.2) rfl ?_) | (refine k_pure rfl ?_) | (refine k_len rfl ?_) | (refine k_fieldAddr rfl ?_))
        refine k_call (scaled_spec (n := (ls.getD i lv0).orb.length) (u := 0) (v := 1) (T := 1) (t := -1) hR3 hB3 (by omega) (by decide) (by decide) (by omega)) rfl ?_
        rintro v w5 ⟨e3, rfl, hR5, hB5, hE5⟩
        refine ⟨fun _ h => ⟨h.1.ext hE5, h.2.1.ext hE5, h.2.2.1.ext hE5, h.2.2.2.ext hE5⟩, ?_⟩
        repeat' (first | (refine k_storeV (vs := intsL e3) rfl rfl (by rw [List.length_map]; exact hR5.1) (all_one (fun _ => rfl) _) (hb34.drew.ext hE5) (by rw [List.length_map]; exact hel3) (fun w6 hc6 hb6 => ⟨fun h => (nomatch h), ?_⟩)) | (refine k_pure rfl ?_) | (refine then_normal ?_) | (refine cw_region rfl ?_) | (refine rr_nil ?_) | (refine k_addI rfl rfl (by omega) (by omega) ?_) | (refine in_normal ?_))
        refine ⟨⟨(i + 1, e3), ⟨by simp only; omega, (hEw4.drew.trans hE5).chg hc6 z1, hb6, ?_, hB5.mono (by simp only; omega)⟩, by simp only; omega, rfl, trivial⟩, (by (repeat (first | exact agree_mask _ _ _ | refine agree_upd rfl ?_ | refine agree_updO rfl ?_ | refine agree_overIn rfl ?_ | refine agree_maskIn rfl ?_)))⟩
        show Rep e3 (prodL ls) (prodL (ls.take (i + 1)))
        rw [prodL_take lv0 ls i hil]
        simpa using hR5
    · obtain rfl : i = ls.length := by omega
      repeat' (first | (refine k_loadC rfl hstr3 rfl ?_) | (refine k_lenMap mapT rfl hC3.map ?_) | (refine k_pure rfl ?_) | (refine then_normal ?_) | (refine rr_nil ?_) | (refine cw_ret ?_))
      refine ret1 rfl (rt rfl) ⟨ls.length, Nat.le_refl _, by rw [← hml]; rfl, ?_, hE3⟩
      rw [List.drop_length]; trivial
end Go.Proofs.YthhfjagnmhhapaaGreat

/- Counting treated generators of a level: plain laws. -/
namespace Go.PM
def Lv.tick (l : Lv) (a : Nat) : Lv := { l with done := l.done.set a (l.done.getD a 0 + 1) }
theorem LvOK.tick {n : Nat} {l : Lv} (h : LvOK n l) (a : Nat) : LvOK n (l.tick a) :=
  ⟨h.n1, h.pt, h.gens, h.nd, h.len, by simp [Lv.tick, h.dlen], h.pos, h.head, h.mem, h.bin, h.bap, h.b0⟩
theorem done_set {l : List Nat} {a b v : Nat} : (l.set a v).getD b 0 = if b = a ∧ a < l.length then v else l.getD b 0 := by
  rw [List.getD_eq_getElem?_getD, List.getElem?_set]
  by_cases e : a = b
  · subst e
    by_cases h : a < l.length
    · simp [h]
    · simp [h]
  · rw [if_neg e, if_neg (fun h => e h.1.symm), ← List.getD_eq_getElem?_getD]
theorem grp_set {n : Nat} {ls : List Lv} {i : Nat} {l l' : Lv} (h : ls[i]? = some l) (hg : l'.gens = l.gens) : grpOf n (ls.set i l') = grpOf n ls := by
  cases ls with
  | nil => rfl
  | cons z zs =>
    cases i with
    | zero => simp at h; subst h; show Gen n l'.gens = Gen n z.gens; rw [hg]
    | succ i => rfl
theorem links_done {n a : Nat} : ∀ (i : Nat) (ls : List Lv) (l : Lv), ls[i]? = some l → Links n ls → a < l.orb.length → l.done.getD a 0 < l.gens.length → grpOf n (ls.drop (i + 1)) (l.schr a (l.done.getD a 0)) →
    Links n (ls.set i (l.tick a)) ∧ prodL (ls.set i (l.tick a)) = prodL ls
  | _, [], _, h, _, _, _, _ => by simp at h
  | 0, z :: ls, l, h, hL, ha, hk, hs => by
    simp at h
    subst h
    refine ⟨⟨hL.1.tick a, hL.2.1, fun b hb => ?_, hL.tail⟩, rfl⟩
    have hb' : b < z.orb.length := hb
    have h0 := hL.2.2.1 b hb'
    show (z.done.set a (z.done.getD a 0 + 1)).getD b 0 ≤ z.gens.length ∧ ∀ k, k < (z.done.set a (z.done.getD a 0 + 1)).getD b 0 → grpOf n ls (z.schr b k)
    rw [done_set]
    by_cases e : b = a ∧ a < z.done.length
    · rw [if_pos e]
      obtain ⟨rfl, _⟩ := e
      refine ⟨by omega, fun k hk' => ?_⟩
      by_cases e2 : k = z.done.getD b 0
      · subst e2; exact hs
      · exact h0.2 k (by omega)
    · rw [if_neg e]; exact h0
  | i + 1, z :: ls, l, h, hL, ha, hk, hs => by
    simp only [List.getElem?_cons_succ] at h
    obtain ⟨h1, h2⟩ := links_done i ls l h hL.tail ha hk hs
    have e := grp_set (n := n) h (l' := l.tick a) rfl
    refine ⟨⟨hL.1, fun p hp => hL.2.1 p (by rw [← e]; exact hp), fun b hb => ?_, h1⟩, ?_⟩
    · have := hL.2.2.1 b hb
      exact ⟨this.1, fun k hk => by show grpOf n (ls.set i (l.tick a)) _; rw [e]; exact this.2 k hk⟩
    · show z.orb.length * prodL (ls.set i (l.tick a)) = _
      rw [h2]; rfl
theorem check_rem {n : Nat} {l : Lv} {ls : List Lv} (h : Links n (l :: ls)) {a k : Nat} (ha : a < l.orb.length) (hk : k < l.gens.length) :
    Gen n l.gens (mulP (inv (l.bk a)) (l.gens.getD k [])) ∧ ((siftL (l :: ls) (mulP (inv (l.bk a)) (l.gens.getD k []))).1 = idList n → grpOf n ls (l.schr a k)) := by
  have hg := h.1.grp
  have hb := h.1.bin a ha
  have hgk := gen_self h.1.gens (getD_mem (d := []) hk)
  have hp := hg.mul _ _ (hg.inv hb) hgk
  refine ⟨hp, fun e => ?_⟩
  have pb := hg.perm _ hb
  have hx := h.1.orb_in (getD_mem (d := 0) ha)
  have e1 : ap (mulP (inv (l.bk a)) (l.gens.getD k [])) l.pt = ap (l.gens.getD k []) (l.orb.getD a 0) := by
    rw [ap_mul pb.inv h.1.pt]
    congr 1
    rw [← h.1.bap a ha, ap_inv pb hx]
  have hm : ap (l.gens.getD k []) (l.orb.getD a 0) ∈ l.orb := by
    rw [h.1.mem]; exact .step _ (getD_mem hk) ((h.1.mem _).1 (getD_mem ha))
  rw [siftL, e1, if_pos hm] at e
  simp only at e
  have hs : mulP (mulP (inv (l.bk a)) (l.gens.getD k [])) (l.to (ap (l.gens.getD k []) (l.orb.getD a 0))) = l.schr a k := rfl
  rw [hs] at e
  have ps : PermN n (l.schr a k) := (hg.perm _ hp).mul (hg.perm _ (h.1.to_in hm))
  rw [← sift_grp h.tail ps, e]
  exact h.tail.grp.one
end Go.PM

namespace Go.Proofs.YthhfjagnmhhapaaGreat
open Go.W Go.PM
structure Tk (i : Nat) (ls ls1 : List Lv) : Prop where
  len : ls1.length = ls.length
  oth : ∀ j, j ≠ i → ls1.getD j lv0 = ls.getD j lv0
  pt : (ls1.getD i lv0).pt = (ls.getD i lv0).pt
  gens : (ls1.getD i lv0).gens = (ls.getD i lv0).gens
  orb : (ls1.getD i lv0).orb = (ls.getD i lv0).orb
  back : (ls1.getD i lv0).back = (ls.getD i lv0).back
  prod : prodL ls1 = prodL ls
theorem Tk.refl (i : Nat) (ls : List Lv) : Tk i ls ls := ⟨rfl, fun _ _ => rfl, rfl, rfl, rfl, rfl, rfl⟩
theorem getD_set_lv {ls : List Lv} {i j : Nat} {l : Lv} (hi : i < ls.length) : (ls.set i l).getD j lv0 = if j = i then l else ls.getD j lv0 := by
  rw [List.getD_eq_getElem?_getD, List.getElem?_set]
  by_cases h : j = i
  · subst h; simp [hi]
  · rw [if_neg (fun e => h e.symm), if_neg h, ← List.getD_eq_getElem?_getD]
theorem Tk.tick {i : Nat} {ls ls1 : List Lv} (h : Tk i ls ls1) (hi : i < ls1.length) (a : Nat) (hp : prodL (ls1.set i ((ls1.getD i lv0).tick a)) = prodL ls1) : Tk i ls (ls1.set i ((ls1.getD i lv0).tick a)) := by
  have e : ∀ j, (ls1.set i ((ls1.getD i lv0).tick a)).getD j lv0 = if j = i then (ls1.getD i lv0).tick a else ls1.getD j lv0 := fun j => getD_set_lv hi
  refine ⟨by simp [h.len], fun j hj => by rw [e, if_neg hj]; exact h.oth j hj, ?_, ?_, ?_, ?_, hp.trans h.prod⟩ <;> rw [e, if_pos rfl]
  · exact h.pt
  · exact h.gens
  · exact h.orb
  · exact h.back
theorem Gd.tick {n : Nat} {G : List Int → Prop} {base : List Int} {N0 : Nat} {ls : List Lv} (h : Gd n G base N0 ls) {i a : Nat} (hi : i < ls.length) (ha : a < (ls.getD i lv0).orb.length) (hk : (ls.getD i lv0).done.getD a 0 < (ls.getD i lv0).gens.length)
    (hs : grpOf n (ls.drop (i + 1)) ((ls.getD i lv0).schr a ((ls.getD i lv0).done.getD a 0))) : Gd n G base N0 (ls.set i ((ls.getD i lv0).tick a)) ∧ prodL (ls.set i ((ls.getD i lv0).tick a)) = prodL ls := by
  obtain ⟨h1, h2⟩ := links_done i ls _ (getD_some hi) h.links ha hk hs
  have e : ∀ j, (ls.set i ((ls.getD i lv0).tick a)).getD j lv0 = if j = i then (ls.getD i lv0).tick a else ls.getD j lv0 := fun j => getD_set_lv hi
  refine ⟨⟨h1, fun p => by rw [grp_set (getD_some hi) (l' := (ls.getD i lv0).tick a) rfl]; exact h.grp p, fun j hj => ?_, by rw [h2, List.length_set]; exact h.ll, by rw [List.length_set]; exact h.bl, fun j hj => ?_, fun j hb hj => ?_⟩, h2⟩
  · rw [List.length_set] at hj
    rw [h2, e]; split
    · exact h.gl i hi
    · exact h.gl j hj
  · rw [e]; split
    · rename_i e'; subst e'; exact h.pts j hj
    · exact h.pts j hj
  · rw [List.length_set] at hj
    rw [e]; split
    · rename_i e'; subst e'; exact h.two j hb hj
    · exact h.two j hb hj
theorem ChAt.tick {w w' : World} {n : Nat} {c : CH} {ls : List Lv} (hC : ChAt w n c ls) {i a : Nat} (hi : i < ls.length) (hc : Chg (c.hs i).db w w')
    (ho : Own w' 0 3 1 (ba (c.hs i).db) (ls.getD i lv0).done.length (c.hs i).dc (natsL ((ls.getD i lv0).done.set a ((ls.getD i lv0).done.getD a 0 + 1)))) : ChAt w' n c (ls.set i ((ls.getD i lv0).tick a)) := by
  have hl : (ls.set i ((ls.getD i lv0).tick a)).length = ls.length := by simp
  have hdF : (c.hs i).db ∈ (c.hs i).F := by simp [LH.F]
  have f := f1C hc
  have hfne := hC.fne i hi _ (.inl hdF)
  have e : ∀ j, (ls.set i ((ls.getD i lv0).tick a)).getD j lv0 = if j = i then (ls.getD i lv0).tick a else ls.getD j lv0 := fun j => getD_set_lv hi
  refine ⟨?_, hC.st, hC.map.chg hc (fun e => hfne.2.1 e.symm), ?_, ?_, fun j hj => ?_, hC.cmb, hC.vne, ?_, ?_, ?_⟩
  · rw [hl]; exact hC.str.chg hc (fun e => hfne.1 e.symm)
  · rw [hl]; exact hC.mok
  · rw [hl]; exact hC.dv.chg hc (fun ad e => hfne.2.2 ad e)
  · rw [hl] at hj
    rw [e]
    by_cases ej : j = i
    · subst ej
      rw [if_pos rfl]
      have hL := hC.lv j hj
      have nd := hL.nd
      simp only [LH.F, List.mem_cons, List.not_mem_nil, or_false, List.nodup_cons, not_or, not_false_eq_true, and_true, List.nodup_nil] at nd
      obtain ⟨⟨n1, n2, n3, n4⟩, ⟨n5, n6, n7⟩, ⟨n8, n9⟩, n10⟩ := nd
      have hdis : ∀ q, q ∈ (c.hs j).im → ¬ One (c.hs j).db q := fun q hq e => hL.dis _ hdF (by have e : q = (c.hs j).db := e; rw [← e]; exact hq)
      refine ⟨?_, Own.f1 hL.orb f n7, Blk.f1 hL.wh f n9, Own.f1 hL.bk f n10, hL.bs.fr f hdis, ?_, hL.ga.fr f (fun ad e => hdis _ (hL.gim ad e)), hL.gim, hL.gs.fr f hdis, hL.nd, hL.dis, fun q hq => Nat.lt_of_lt_of_le (hL.imlt q hq) f.size, hL.gcap⟩
      · have := Blk.f1 hL.str f n4
        have e2 : lvL n (c.hs j) ((ls.getD j lv0).tick a) = lvL n (c.hs j) (ls.getD j lv0) := by simp [lvL, Lv.tick]
        rw [e2]; exact this
      · have e2 : ((ls.getD j lv0).tick a).done.length = (ls.getD j lv0).done.length := by simp [Lv.tick]
        rw [e2]; exact ho
    · rw [if_neg ej]
      exact (hC.lv j hj).fr f (fun q hq e => hC.dis i j hi hj (Ne.symm ej) _ hdF (by have e : q = (c.hs i).db := e; rw [← e]; exact hq)) (fun q hq e => hC.imd i j hi hj _ hdF (by have e : q = (c.hs i).db := e; rw [← e]; exact hq))
  · rw [hl]; exact hC.fne
  · rw [hl]; exact hC.dis
  · rw [hl]; exact hC.imd
end Go.Proofs.YthhfjagnmhhapaaGreat

namespace Go.W
theorem Own.blkN {w : World} {lo T n g : Nat} {vs : List Value} (h : Own w lo T 1 (some ⟨g, 0, none⟩) n n vs) (h0 : 0 < n) : Blk w g T vs := by
  rcases h.2 with ⟨_, hn⟩ | ⟨g', c, cur, hv, _, hb, _, _, h3, h4⟩
  · omega
  · simp only [Value.slice.injEq, Option.some.injEq, Addr.mk.injEq] at hv
    obtain ⟨⟨rfl, _⟩, _, rfl⟩ := hv
    have e : cur = vs.toArray := by
      rw [List.take_of_length_le (by simp [h3])] at h4
      rw [← h4]
    rw [e] at hb; exact hb
end Go.W
namespace Go.Proofs.YthhfjagnmhhapaaGreat
open Go.W Go.PM
set_option maxHeartbeats 1000000 in
theorem chkLv_spec {w : World} {n N0 i : Nat} {G : List Int → Prop} {base : List Int} {c : CH} {ls : List Lv} (hn11 : n ≤ 11) (hN : N0 ≤ 1000000) (hC : ChAt w n c ls) (hG : Gd n G base N0 ls) (hi : i < ls.length) :
    CallsR Tryz.prog 73 #[.pointer (some ⟨c.cb, 0, none⟩), .int .i64 (i : Int)] w fun v w' =>
      (v = .bool true ∧ ∃ ls1, ChAt w' n c ls1 ∧ Gd n G base N0 ls1 ∧ Tk i ls ls1 ∧ (∀ a, a < (ls1.getD i lv0).orb.length → (ls1.getD i lv0).done.getD a 0 = (ls1.getD i lv0).gens.length) ∧ Fr (c.foot ls.length) w w') ∨
      (v = .bool false ∧ ∃ c' ls', ChAt w' n c' ls' ∧ Gd n G base N0 ls' ∧ prodL ls < prodL ls' ∧ Fr (c.foot ls.length) w w' ∧ CGo w c c' ls.length ls'.length) := by
  refine callsR_of (args := [_, _]) Tryz.func73 rfl rfl ?_
  have hstr := hC.str
  unfold chL at hstr
  have hpl := prod_le hG.links hn11
  have hll := hG.ll
  have n1 := hG.links.n1
  have ok := hG.ok hi
  have hgl := hG.gl i hi
  have hol := ok.orb_le
  obtain ⟨j, hj, hfd, hjm⟩ := hC.mok.find hi
  have hLs := (hC.lv i hi).str
  unfold lvL at hLs
  repeat' (first | (refine k_loadC (Tb := 62) rfl hstr rfl ?_) | (refine k_lookup mapT intT rfl rfl hC.map hfd ?_) | (refine k_makeI rfl rfl (by omega) (by omega) (fun pb w0 hn0 => ⟨fun _ _ => trivial, ?_⟩)) | (refine k_loadC rfl (hLs.ext hn0.ex) rfl ?_) | (refine k_pure rfl ?_) | (refine then_normal ?_) | (refine cw_seq ?_) | (refine cw_region rfl ?_) | (refine rr_nil ?_) | (refine k_len rfl ?_) | (refine k_fieldAddr rfl ?_) | (refine cw_block ?_))
  have z0 := hn0.ex.size
  have z0' := hn0.lo
  have z0'' := hn0.hi
  have hfp := hC.fresh hn0.lo
  refine cw_loop (ι := Nat × List Lv × List Int) [4, 7, 8, 9, 10, 11, 12, 29, 30, 31, 32, 33, 34, 35, 36, 37, 38, 39, 40, 41, 42, 43, 44, 45, 46, 47, 48, 49, 50, 51, 52, 53, 54, 55, 56, 57, 58, 59, 60, 61, 62, 63, 64, 65, 66, 67, 68, 69, 70, 71, 72, 73, 74, 75, 76, 77, 78, 79, 80, 81, 82, 83, 84, 85, 86, 87, 88, 89, 90, 91, 92, 93, 94, 95, 96, 97, 98, 99, 100, 101, 102, 103, 104, 105, 106, 107, 108, 109, 110, 111, 112, 113, 114, 115, 116] (fun s => [(29, .int .i64 (s.1 : Int))]) (fun s w' => s.1 ≤ (ls.getD i lv0).orb.length ∧ ChAt w' n c s.2.1 ∧ Gd n G base N0 s.2.1 ∧ Tk i ls s.2.1 ∧ (∀ a, a < s.1 → (s.2.1.getD i lv0).done.getD a 0 = (ls.getD i lv0).gens.length) ∧ Fr (c.foot ls.length) w w' ∧ Blk w' pb 70 (u16L s.2.2) ∧ s.2.2.length = n) (fun s => (ls.getD i lv0).orb.length - s.1)
    (0, ls, List.replicate n 0) ⟨rfl, trivial⟩ ⟨Nat.zero_le _, hC.ext hn0.ex, hG, Tk.refl _ _, fun a ha => absurd ha (by simp), hn0.ex.fr, hn0.blk, by simp⟩ ?_
  rintro ⟨a, ls1, cur⟩ ξ w1 ⟨ha, hC1, hG1, ht1, hd1, hf1, hb1, hcl1⟩
  simp only at ha hC1 hG1 ht1 hd1 hb1 hcl1
  show CW _ _ _ _ (over [(29, .int .i64 (a : Int))] _) w1
  have hi1 : i < ls1.length := by rw [ht1.len]; exact hi
  repeat' (first | (refine k_pure rfl ?_) | (refine then_normal ?_) | (refine cw_seq ?_) | (refine cw_region rfl ?_) | (refine rr_nil ?_) | (refine cw_cond_dec rfl (fun hc => ?_) (fun hc => ?_)) | (refine cw_block ?_) | (refine cw_exit ?_) | (refine then_exit ?_) | (refine in_exit ?_) | (refine cw_ret ?_) | (refine cw_skip ?_))
  · have ha1 : a < (ls.getD i lv0).orb.length := by omega
    have hL1 := hC1.lv i hi1
    have hLs1 := hL1.str
    have ok1 := hG1.ok hi1
    have hdl1 : (ls1.getD i lv0).done.length = (ls.getD i lv0).orb.length := by rw [ok1.dlen, ht1.orb]
    have hbl1 : (ls1.getD i lv0).back.length = (ls.getD i lv0).orb.length := by rw [ok1.len, ht1.orb]
    have hgl1 : (ls1.getD i lv0).gens.length = (ls.getD i lv0).gens.length := by rw [ht1.gens]
    have hdn1 := hL1.dn.sl
    refine cw_draw (late := []) (plan := [(0, none), (1, none), (2, none), (3, none), (4, none), (5, none), (6, none), (7, none), (8, none), (9, none), (10, none), (11, none), (12, none)]) (fun w' => Blk w' (c.hs i).blk 64 (lvL n (c.hs i) (ls1.getD i lv0)) ∧ Sl w' (ba (c.hs i).db) (natsL (ls1.getD i lv0).done)) mixed (by kernel_rfl) ⟨hLs1.drew, hdn1.drew⟩ ?_
    repeat' (first | (refine k_loadC rfl (fun _ h => h.1) rfl ?_) | (refine k_indexN (j := a) rfl rfl ⟨_, _, rfl⟩ (by omega) ?_) | (refine k_loadN rfl (fun _ h => h.2) (by omega) ?_) | (refine k_pure rfl ?_) | (refine then_normal ?_) | (refine cw_seq ?_) | (refine cw_region rfl ?_) | (refine rr_nil ?_) | (refine k_len rfl ?_) | (refine k_addI rfl rfl (by omega) (by omega) ?_) | (refine k_fieldAddr rfl ?_) | (refine cw_cond_dec rfl (fun hc => ?_) (fun hc => ?_)) | (refine cw_exit ?_) | (refine then_exit ?_) | (refine in_exit ?_) | (refine cw_skip ?_))
    · refine ⟨⟨(a + 1, ls1, cur), ⟨by simp only; omega, hC1.drew, hG1, ht1, fun b hb => ?_, hf1.trans ((Ex.refl w1).drew.fr), hb1.drew, hcl1⟩, by simp only; omega, rfl, trivial⟩, (by (repeat (first | exact agree_mask _ _ _ | refine agree_upd rfl ?_ | refine agree_updO rfl ?_ | refine agree_overIn rfl ?_ | refine agree_maskIn rfl ?_)))⟩
      simp only at hb ⊢
      by_cases e : b = a
      · subst e; omega
      · exact hd1 b (by omega)
    · have hbs1 := hL1.bs
      have hbs1l := hbs1.len
      obtain ⟨⟨ta, tl, tc⟩, hsda⟩ : ∃ s, (c.hs i).bs.getD a sd0 = s := ⟨_, rfl⟩
      have hbss := hbs1.sl a (by omega)
      have hbsn := hbs1.n a (by omega)
      rw [hsda] at hbss hbsn
      simp only at hbss hbsn
      replace hbsn := hbsn.symm
      subst hbsn
      have pbk : PermN n ((ls1.getD i lv0).back.getD a []) := ok1.grp.perm _ (ok1.bin a (by rw [ht1.orb]; exact ha1))
      have hbk1 := hL1.bk.sl
      repeat' (first | (refine k_loadC rfl hLs1.drew rfl ?_) | (refine k_indexN (j := a) rfl rfl ⟨_, _, rfl⟩ (by omega) ?_) | (refine k_loadSd (j := a) rfl hbk1.drew (by omega) hsda ?_) | (refine k_pure rfl ?_))
      refine k_call (pinv_spec hbss.drew tc pbk) (by rw [pbk.2]; rfl) ?_
      rintro v w2 ⟨fb, rfl, hfb, hb2, hE2⟩
      refine ⟨fun _ _ => trivial, ?_⟩
      rw [pbk.inv.2]
      replace hE2 : Ex w1 w2 := (Ex.refl w1).drew.trans hE2
      replace hfb : w1.heap.size ≤ fb := hfb
      have z1 := hf1.size
      have hfbl := hb2.lt
      generalize hB : (ls1.getD i lv0).back.getD a [] = B at *
      repeat' (first | (refine k_pure rfl ?_) | (refine then_normal ?_) | (refine rr_nil ?_) | (refine cw_block ?_))
      refine cw_loop (ι := List Lv × List Int) [4, 9, 10, 11, 12, 53, 54, 55, 56, 57, 58, 59, 60, 61, 62, 63, 64, 65, 66, 67, 68, 69, 70, 71, 72, 73, 74, 75, 76, 77, 78, 79, 80, 81, 82, 83, 84, 85, 86, 87, 88, 89, 90, 91, 92, 93, 94, 95, 96, 97, 98, 99, 100, 101, 102, 103, 104, 105, 106, 107, 108, 109, 110, 111, 112, 113, 114, 115] (fun _ => []) (fun s w' => ChAt w' n c s.1 ∧ Gd n G base N0 s.1 ∧ Tk i ls s.1 ∧ (∀ b, b < a → (s.1.getD i lv0).done.getD b 0 = (ls.getD i lv0).gens.length) ∧ Fr (c.foot ls.length) w w' ∧ Blk w' pb 70 (u16L s.2) ∧ s.2.length = n ∧ Blk w' fb 70 (u16L (inv B))) (fun s => (ls.getD i lv0).gens.length - (s.1.getD i lv0).done.getD a 0)
        (ls1, cur) trivial ⟨hC1.ext hE2, hG1, ht1, hd1, hf1.trans hE2.fr, hb1.ext hE2, hcl1, hb2⟩ ?_
      rintro ⟨ls2, cur2⟩ ξ2 w3 ⟨hC3, hG3, ht3, hd3, hf3, hb3, hcl3, hfb3⟩
      simp only at hC3 hG3 ht3 hd3 hb3 hcl3 hfb3
      show CW _ _ _ _ (over [] _) w3
      have hi3 : i < ls2.length := by rw [ht3.len]; exact hi
      have hL3 := hC3.lv i hi3
      have hLs3 := hL3.str
      have ok3 := hG3.ok hi3
      have hdl3 : (ls2.getD i lv0).done.length = (ls.getD i lv0).orb.length := by rw [ok3.dlen, ht3.orb]
      have hgl3 : (ls2.getD i lv0).gens.length = (ls.getD i lv0).gens.length := by rw [ht3.gens]
      have hdn3 := hL3.dn.sl
      have z3 := hf3.size
      have hbe : (ls2.getD i lv0).bk a = B := by unfold Lv.bk; rw [ht3.back, ← ht1.back]; exact hB
      repeat' (first | (refine cw_seq ?_))
      refine cw_draw (late := []) (plan := [(0, none), (1, none), (2, none), (3, none), (4, none), (5, none), (6, none), (7, none), (8, none), (9, none), (10, none), (11, none), (12, none)]) (fun w' => Blk w' (c.hs i).blk 64 (lvL n (c.hs i) (ls2.getD i lv0)) ∧ Sl w' (ba (c.hs i).db) (natsL (ls2.getD i lv0).done)) mixed (by kernel_rfl) ⟨hLs3.drew, hdn3.drew⟩ ?_
      obtain ⟨dk, hdk⟩ : ∃ d, d = (ls2.getD i lv0).done.getD a 0 := ⟨_, rfl⟩
      repeat' (first | (refine k_loadC rfl (fun _ h => h.1) rfl ?_) | (refine k_indexN (j := a) rfl rfl ⟨_, _, rfl⟩ (by omega) ?_) | (refine k_loadN rfl (fun _ h => h.2) (by omega) ?_) | (refine k_pure rfl ?_) | (refine then_normal ?_) | (refine cw_seq ?_) | (refine cw_region rfl ?_) | (refine rr_nil ?_) | (refine k_len rfl ?_) | (refine k_addI rfl rfl (by omega) (by omega) ?_) | (refine k_fieldAddr rfl ?_) | (refine cw_cond_dec rfl (fun hc => ?_) (fun hc => ?_)) | (refine cw_block ?_) | (refine cw_exit ?_) | (refine then_exit ?_) | (refine in_exit ?_) | (refine in_normal ?_) | (refine cw_skip ?_))
      · have hdkl : dk < (ls2.getD i lv0).gens.length := by omega
        have hga3 := hL3.ga
        have hgs3 := hL3.gs
        have hgs3l := hgs3.len
        obtain ⟨⟨ea, el, ec⟩, he⟩ : ∃ s, (c.hs i).gs.getD dk sd0 = s := ⟨_, rfl⟩
        have hgsl := hgs3.sl dk hdkl
        have hgsn := hgs3.n dk hdkl
        have hgsi := hgs3.im dk hdkl
        rw [he] at hgsl hgsn hgsi
        simp only at hgsl hgsn hgsi
        replace hgsn := hgsn.symm
        subst hgsn
        refine cw_draw (late := []) (plan := [(0, none), (1, none), (2, none), (3, none), (4, none), (5, none), (6, none), (7, none), (8, none), (9, none), (10, none), (11, none), (12, none), (13, none)]) (fun w' => Blk w' (c.hs i).blk 64 (lvL n (c.hs i) (ls2.getD i lv0)) ∧ Sl w' (ba (c.hs i).db) (natsL (ls2.getD i lv0).done) ∧ Sl w' (c.hs i).ga ((c.hs i).gs.map SD.val)) mixed (by kernel_rfl) ⟨hLs3.drew.drew, hdn3.drew.drew, hga3.drew.drew⟩ ?_
        repeat' (first | (refine k_loadC rfl (fun _ h => h.1) rfl ?_) | (refine k_indexN (j := a) rfl rfl ⟨_, _, rfl⟩ (by omega) ?_) | (refine k_loadN (j := a) rfl (fun _ h => h.2.1) (by omega) ?_) | (refine k_indexN (j := dk) rfl (congrArg (fun (t : Nat) => Value.int .i64 (t : Int)) hdk.symm) (hga3.plain (by simp; omega)) (by omega) ?_) | (refine k_loadSd (j := dk) rfl (fun _ h => h.2.2) (by omega) he ?_) | (refine k_pure rfl ?_) | (refine then_normal ?_) | (refine cw_seq ?_) | (refine cw_region rfl ?_) | (refine rr_nil ?_) | (refine k_len rfl ?_) | (refine k_fieldAddr rfl ?_) | (refine cw_block ?_))
        obtain ⟨gk, hgk⟩ : ∃ x, x = (ls2.getD i lv0).gens.getD dk [] := ⟨_, rfl⟩
        rw [← hgk] at hgsl
        have pgk : PermN n gk := by rw [hgk]; exact ok3.gens _ (getD_mem hdkl)
        have pbi := pbk.inv
        have pb1 := hb1.lt
        have hpim : ∀ q, q ∈ (c.hs i).im → q ≠ pb := fun q hq e => hfp.2 ⟨i, hi, by rw [← e]; exact hq⟩
        skip
        refine cw_loop (ι := Nat × List Int) [10, 11, 90, 91, 92, 93, 94, 95, 96, 97, 98, 99, 100, 101, 102] (fun s => [(90, .int .i64 (s.1 : Int))]) (fun s w' => s.1 ≤ n ∧ Chg pb w3 w' ∧ Blk w' pb 70 (u16L s.2) ∧ s.2.length = n ∧ s.2.take s.1 = mulP ((inv B).take s.1) gk) (fun s => n - s.1)
          (0, cur2) ⟨rfl, trivial⟩ ⟨Nat.zero_le _, (Chg.refl pb w3).drew.drew, hb3.drew.drew, hcl3, rfl⟩ ?_
        rintro ⟨x, cur3⟩ ξ3 w4 ⟨hx, hc4, hb4, hcl4, hT⟩
        simp only at hx hb4 hcl4 hT
        show CW _ _ _ _ (over [(90, .int .i64 (x : Int))] _) w4
        have hfb4 := (hfb3.chg hc4 (by omega)).sl
        have hg4 := hgsl.chg hc4 (fun ad e => hpim _ (hgsi ad e))
        have hrx : x < n → 0 ≤ (inv B).getD x 0 ∧ (inv B).getD x 0 < gk.length := fun h => by have := pbi.1.lt (k := x) (by rw [pbi.2]; exact h); rw [pbi.2] at this; rw [pgk.2]; exact this
        repeat' (first | (refine k_indexN (j := x) (a := ba fb) (l := n) rfl rfl ⟨_, _, rfl⟩ (by omega) ?_) | (refine k_loadI (j := x) (a := ba fb) rfl hfb4 (by rw [pbi.2]; omega) ?_) | (refine k_index1 (a := ea) (l := n) (c := ec) rfl rfl (hg4.plain (by rw [List.length_map, pgk.2]; omega)) (hrx (by omega)).1 (by have := (hrx (by omega)).2; rw [pgk.2] at this; exact this) ?_) | (refine k_loadI rfl hg4 (by have := hrx (by omega); omega) ?_) | (refine k_indexN (j := x) (a := ba pb) (l := n) rfl rfl ⟨_, _, rfl⟩ (by omega) ?_) | (refine k_storeI rfl rfl hb4 (by omega) (fun w5 hc5 hb5 => ⟨fun _ _ => trivial, ?_⟩)) | (refine k_pure rfl ?_) | (refine then_normal ?_) | (refine cw_seq ?_) | (refine cw_region rfl ?_) | (refine rr_nil ?_) | (refine k_addI rfl rfl (by omega) (by omega) ?_) | (refine cw_cond_dec rfl (fun hc => ?_) (fun hc => ?_)) | (refine cw_block ?_) | (refine cw_exit ?_) | (refine then_exit ?_) | (refine in_exit ?_) | (refine in_normal ?_) | (refine cw_skip ?_))
        · refine ⟨⟨(x + 1, cur3.set x (gk.getD ((inv B).getD x 0).toNat 0)), ⟨by simp only; omega, hc4.trans hc5, hb5, by simp [hcl4], ?_⟩, by simp only; omega, rfl, trivial⟩, (by (repeat (first | exact agree_mask _ _ _ | refine agree_upd rfl ?_ | refine agree_updO rfl ?_ | refine agree_overIn rfl ?_ | refine agree_maskIn rfl ?_)))⟩
          simp only
          rw [take_set_succ (by omega), hT, mulP_snoc (by rw [pbi.2]; omega)]
        · obtain rfl : x = n := by omega
          rw [List.take_of_length_le (by omega), List.take_of_length_le (by rw [pbi.2]; omega)] at hT
          have pcur : PermN x cur3 := by rw [hT]; exact pbi.mul pgk
          have hC4 := hC3.fr (f1C hc4) (fun q hq e => hfp.1 (by have e : q = pb := e; rw [← e, ← ht3.len]; exact hq)) (fun q hq e => hfp.2 (by have e : q = pb := e; rw [← e, ← ht3.len]; exact hq))
          have hpl3 := prod_le hG3.links hn11
          have hll3 := hG3.ll
          have hlk := hG3.links.drop i
          rw [drop_cons hi3] at hlk
          obtain ⟨hgp, hid⟩ := check_rem hlk (a := a) (k := dk) (by rw [ht3.orb]; exact ha1) hdkl
          rw [hbe, ← hgk, ← hT] at hgp hid
          obtain ⟨pr, hr1, hr2, _⟩ := rem_facts hlk hgp
          rw [← drop_cons hi3] at hid pr hr1 hr2
          rw [List.length_drop] at hr2
          skip
          refine k_call (csift_spec (first := i) (cap := x) hC4 (fun j _ hj => hG3.ok hj) (by omega) pcur (hb4.own (by simp [hcl4]) (by unfold maxLen; omega) (Nat.zero_le _)) (by rw [ht3.len]; exact hfp.1) (by rw [ht3.len]; exact hfp.2) (by omega)) rfl ?_
          rintro v w5 ⟨rfl, hc5, ho5⟩
          refine ⟨fun _ _ => trivial, ?_⟩
          repeat' (first | (refine k_pure rfl ?_) | (refine then_normal ?_) | (refine cw_seq ?_) | (refine cw_region rfl ?_) | (refine rr_nil ?_))
          refine k_call (moved_spec (xs := (siftL (ls2.drop i) cur3).1) ho5.sl x (fun k hk => by have := pr.1.lt hk; have := pr.2; omega) (by rw [pr.2]; omega)) (by rw [pr.2]; rfl) ?_
          rintro v w6 ⟨mv, rfl, hmv, hE6⟩
          refine ⟨fun _ _ => trivial, ?_⟩
          have hC5 := hC4.fr (f1C hc5) (fun q hq e => hfp.1 (by have e : q = pb := e; rw [← e, ← ht3.len]; exact hq)) (fun q hq e => hfp.2 (by have e : q = pb := e; rw [← e, ← ht3.len]; exact hq))
          have hC6 := hC5.ext hE6
          have z4 : w3.heap.size = w4.heap.size := hc4.size.symm
          have z5 : w4.heap.size = w5.heap.size := hc5.size.symm
          have z6 := hE6.size
          have hf6 : Fr (c.foot ls.length) w w6 := (hf3.then ((f1C hc4).trans (f1C hc5)) (fun q hq e => by have e : q = pb := e; omega)).trans hE6.fr
          repeat' (first | (refine k_pure rfl ?_) | (refine then_normal ?_) | (refine cw_seq ?_) | (refine cw_region rfl ?_) | (refine rr_nil ?_) | (refine k_addI rfl rfl (by omega) (by omega) ?_) | (refine k_fieldAddr rfl ?_) | (refine cw_cond_dec rfl (fun hc => ?_) (fun hc => ?_)) | (refine in_normal ?_) | (refine cw_skip ?_))
          · have hne : (siftL (ls2.drop i) cur3).1 ≠ idList x := fun e => by have := hmv.neg.2 (by rw [pr.2]; exact e); omega
            refine k_call (insert_spec (first := i + 1) (last := i + (siftL (ls2.drop i) cur3).2) (cap := x) hC6 (fun j _ hj => hG3.ok hj) (by omega) (by omega) pr hne (ho5.sl.ext hE6) (by rw [ht3.len]; exact hfp.1) (by omega) (fun j hj => by have := hG3.gl j hj; omega)) rfl ?_
            rintro v w7 ⟨rfl, c7, ls7, hJ⟩
            refine ⟨fun _ _ => trivial, ?_⟩
            obtain ⟨hG7, hpr7, ht7⟩ := hG3.ins hi3 hgp hJ
            repeat' (first | (refine k_pure rfl ?_) | (refine then_normal ?_) | (refine cw_seq ?_) | (refine cw_region rfl ?_) | (refine rr_nil ?_) | (refine cw_ret ?_) | (refine then_ret ?_) | (refine in_ret ?_))
            refine ret1 rfl (rt rfl) (.inr ⟨rfl, c7, ls7, hJ.ch, hG7, by rw [← ht3.prod]; exact hpr7, hf6.then hJ.fr (fun q hq h => by rw [ht3.len] at h; exact h), ⟨hJ.step.cb, fun q hq => ?_, fun q hq => ?_⟩⟩)
            · rcases hJ.step.foot q hq with h | h
              · rw [ht3.len] at h; exact .inl h
              · exact .inr (by omega)
            · rcases hJ.step.imm q hq with h | h | h
              · rw [ht3.len] at h; exact .inl h
              · exact .inr (by omega)
              · exact .inr (by omega)
          · have hre : (siftL (ls2.drop i) cur3).1 = idList x := by have := hmv.neg.1 (by omega); rw [pr.2] at this; exact this
            have hs := hid hre
            rw [hdk] at hs
            obtain ⟨hG7, hpr7⟩ := hG3.tick hi3 (a := a) (by rw [ht3.orb]; exact ha1) (by omega) hs
            have hL6 := hC6.lv i hi3
            have hdn6 := hL6.dn
            have hgb : (ls2.getD i lv0).done.getD a 0 < 1000000000000 := by omega
            repeat' (first | (refine k_loadC rfl hL6.str rfl ?_) | (refine k_indexN (j := a) rfl rfl ⟨_, _, rfl⟩ (by omega) ?_) | (refine k_loadN (j := a) rfl hdn6.sl (by omega) ?_) | (refine k_storeOwn (v := .int .i64 (((ls2.getD i lv0).done.getD a 0 + 1 : Nat) : Int)) rfl rfl rfl hdn6 (by rw [List.length_map]; omega) (fun gx w7 hgx _ hc7 ho7 => ⟨fun _ _ => trivial, ?_⟩)) | (refine k_pure rfl ?_) | (refine then_normal ?_) | (refine rr_nil ?_) | (refine k_addI rfl rfl (by omega) (by omega) ?_))
            obtain rfl : (c.hs i).db = gx := by injection hgx with e; injection e
            have ho7' : Own w7 0 3 1 (ba (c.hs i).db) (ls2.getD i lv0).done.length (c.hs i).dc (natsL ((ls2.getD i lv0).done.set a ((ls2.getD i lv0).done.getD a 0 + 1))) := by unfold natsL; rw [List.map_set]; exact ho7
            have hC7 := hC6.tick (a := a) hi3 hc7 ho7'
            have hdbF : c.foot ls.length (c.hs i).db := .inr ⟨i, hi, by simp [LH.F]⟩
            have e7 : ∀ j, (ls2.set i ((ls2.getD i lv0).tick a)).getD j lv0 = if j = i then (ls2.getD i lv0).tick a else ls2.getD j lv0 := fun j => getD_set_lv hi3
            have hdt : ∀ b, ((ls2.getD i lv0).tick a).done.getD b 0 = if b = a ∧ a < (ls2.getD i lv0).done.length then (ls2.getD i lv0).done.getD a 0 + 1 else (ls2.getD i lv0).done.getD b 0 := fun b => done_set
            have hbp7 := ((ho5.blkN (by omega)).ext hE6).chg hc7 (fun e => hfp.1 (by rw [e]; exact hdbF))
            have hfb7 := ((((hfb3.chg hc4 (by omega)).chg hc5 (by omega)).ext hE6).chg hc7 (fun e => by have := (hC1.lv i hi1).lt (c.hs i).db (by simp [LH.F]); omega))
            refine ⟨⟨(ls2.set i ((ls2.getD i lv0).tick a), (siftL (ls2.drop i) cur3).1), ⟨hC7, hG7, ht3.tick hi3 a hpr7, fun b hb => ?_, hf6.then (f1C hc7) (fun q hq e => by have e : q = (c.hs i).db := e; rw [e]; exact hdbF), hbp7, pr.2, hfb7⟩, ?_, trivial⟩, (by (repeat (first | exact agree_mask _ _ _ | refine agree_upd rfl ?_ | refine agree_updO rfl ?_ | refine agree_overIn rfl ?_ | refine agree_maskIn rfl ?_)))⟩
            · show ((ls2.set i ((ls2.getD i lv0).tick a)).getD i lv0).done.getD b 0 = _
              rw [e7, if_pos rfl, hdt, if_neg (by omega)]; exact hd3 b hb
            · show (ls.getD i lv0).gens.length - ((ls2.set i ((ls2.getD i lv0).tick a)).getD i lv0).done.getD a 0 < (ls.getD i lv0).gens.length - (ls2.getD i lv0).done.getD a 0
              rw [e7, if_pos rfl, hdt, if_pos ⟨rfl, by omega⟩]; omega
      · refine ⟨⟨(a + 1, ls2, cur2), ⟨by simp only; omega, hC3.drew, hG3, ht3, fun b hb => ?_, hf3.trans ((Ex.refl w3).drew.fr), hb3.drew, hcl3⟩, by simp only; omega, rfl, trivial⟩, (by (repeat (first | exact agree_mask _ _ _ | refine agree_upd rfl ?_ | refine agree_updO rfl ?_ | refine agree_overIn rfl ?_ | refine agree_maskIn rfl ?_)))⟩
        have hb : b < a + 1 := hb
        show (ls2.getD i lv0).done.getD b 0 = _
        by_cases e : b = a
        · subst e
          have := (hG3.links.drop i)
          rw [drop_cons hi3] at this
          have := (this.2.2.1 b (by rw [ht3.orb]; exact ha1)).1
          omega
        · exact hd3 b (by omega)
  · obtain rfl : a = (ls.getD i lv0).orb.length := by omega
    refine ret1 rfl (rt rfl) (.inl ⟨rfl, ls1, hC1, hG1, ht1, fun b hb => ?_, hf1⟩)
    rw [ht1.orb] at hb
    rw [ht1.gens]; exact hd1 b hb
end Go.Proofs.YthhfjagnmhhapaaGreat

namespace Go.Proofs.YthhfjagnmhhapaaGreat
open Go.W Go.PM
theorem CGo.trans {w w1 : World} {c c1 c2 : CH} {k k1 k2 : Nat} (h : CGo w c c1 k k1) (h2 : CGo w1 c1 c2 k1 k2) (hs : w.heap.size ≤ w1.heap.size) : CGo w c c2 k k2 :=
  ⟨h2.cb.trans h.cb, fun q hq => (h2.foot q hq).elim (h.foot q) (fun h => .inr (Nat.le_trans hs h)), fun q hq => (h2.imm q hq).elim (h.imm q) (fun h => .inr (Nat.le_trans hs h))⟩
theorem Tk.drop {i : Nat} {ls ls1 : List Lv} (h : Tk i ls ls1) : ls1.drop (i + 1) = ls.drop (i + 1) := by
  apply List.ext_getElem?
  intro j
  rw [List.getElem?_drop, List.getElem?_drop]
  have e := h.oth (i + 1 + j) (by omega)
  by_cases hj : i + 1 + j < ls.length
  · rw [List.getD_eq_getElem?_getD, List.getD_eq_getElem?_getD, List.getElem?_eq_getElem hj, List.getElem?_eq_getElem (by rw [h.len]; exact hj)] at e
    rw [List.getElem?_eq_getElem hj, List.getElem?_eq_getElem (by rw [h.len]; exact hj)]
    simpa using e
  · rw [List.getElem?_eq_none (by rw [h.len]; omega), List.getElem?_eq_none (by omega)]
theorem prove_spec {w : World} {n N0 : Nat} {G : List Int → Prop} {base : List Int} {c : CH} {ls : List Lv} (hn11 : n ≤ 11) (hN : N0 ≤ 1000000) (hC : ChAt w n c ls) (hG : Gd n G base N0 ls) :
    CallsR Tryz.prog 53 #[.pointer (some ⟨c.cb, 0, none⟩)] w fun v w' => v = .tuple #[] ∧ ∃ c' ls', ChAt w' n c' ls' ∧ Gd n G base N0 ls' ∧ Full n ls' ∧ Fr (c.foot ls.length) w w' ∧ CGo w c c' ls.length ls'.length := by
  refine callsR_of (args := [_]) Tryz.func53 rfl rfl ?_
  repeat' (first | (refine cw_block ?_))
  refine cw_loop (ι := CH × List Lv) [2, 3, 4, 5, 6, 7, 8, 9, 10, 11, 12, 13, 14, 15, 16] (fun _ => []) (fun s w' => ChAt w' n s.1 s.2 ∧ Gd n G base N0 s.2 ∧ Fr (c.foot ls.length) w w' ∧ CGo w c s.1 ls.length s.2.length) (fun s => 39916801 - prodL s.2)
    (c, ls) trivial ⟨hC, hG, Fr.refl _ _, CGo.refl _ _ _⟩ ?_
  rintro ⟨c1, ls1⟩ ξ w1 ⟨hC1, hG1, hf1, hg1⟩
  simp only at hC1 hG1 hg1
  show CW _ _ _ _ (over [] _) w1
  have hpl1 := prod_le hG1.links hn11
  have z1 := hf1.size
  repeat' (first | (refine k_pure rfl ?_) | (refine cw_seq ?_) | (refine cw_region rfl ?_) | (refine cw_block ?_))
  refine k_call (certain_spec hn11 hN hC1 hG1) (by rw [hg1.cb]; rfl) ?_
  rintro v w2 ⟨i0, hi0, rfl, hFull, hE2⟩
  refine ⟨fun _ _ => trivial, ?_⟩
  repeat' (first | (refine k_pure rfl ?_) | (refine then_normal ?_) | (refine cw_seq ?_) | (refine rr_nil ?_) | (refine cw_block ?_))
  refine cw_loop (ι := Nat × List Lv) [2, 5, 6, 7, 8, 9, 10, 11, 12, 13, 14] (fun s => [(2, .int .i64 (s.1 : Int))]) (fun s w' => s.1 ≤ s.2.length ∧ ChAt w' n c1 s.2 ∧ Gd n G base N0 s.2 ∧ Full n (s.2.drop s.1) ∧ prodL s.2 = prodL ls1 ∧ s.2.length = ls1.length ∧ Fr (c.foot ls.length) w w') (fun s => s.1)
    (i0, ls1) ⟨rfl, trivial⟩ ⟨hi0, hC1.ext hE2, hG1, hFull, rfl, rfl, hf1.trans hE2.fr⟩ ?_
  rintro ⟨i, ls2⟩ ξ2 w3 ⟨hi, hC3, hG3, hFl, hpr, hln, hf3⟩
  simp only at hi hC3 hG3 hFl hpr hln
  show CW _ _ _ _ (over [(2, .int .i64 (i : Int))] _) w3
  have z3 := hf3.size
  have hpl3 := prod_le hG3.links hn11
  have hll3 := hG3.ll
  repeat' (first | (refine k_pure rfl ?_) | (refine then_normal ?_) | (refine cw_seq ?_) | (refine cw_region rfl ?_) | (refine rr_nil ?_) | (refine g_run rfl rfl ?_) | (refine g_skip rfl rfl ?_) | (refine g_dec_t rfl rfl (fun hc => ?_) (fun hc => ?_)) | (refine k_subI rfl rfl (by omega) (by omega) ?_) | (refine cw_cond_false rfl ?_) | (refine cw_cond_dec rfl (fun hc => ?_) (fun hc => ?_)) | (refine cw_exit ?_) | (refine then_exit ?_) | (refine in_exit ?_) | (refine in_normal ?_) | (refine cw_ret ?_) | (refine then_ret ?_) | (refine in_ret ?_) | (refine cw_skip ?_))
  · obtain ⟨m, rfl⟩ : ∃ m, i = m + 1 := ⟨i - 1, by omega⟩
    refine k_call (chkLv_spec (i := m) hn11 hN hC3 hG3 (by omega)) (by rw [hg1.cb, show (m : Int) = ((m + 1 : Nat) : Int) - 1 by omega]; rfl) ?_
    rintro v w4 hv
    refine ⟨fun _ _ => trivial, ?_⟩
    rcases hv with ⟨rfl, ls4, hC4, hG4, ht4, hd4, hf4⟩ | ⟨rfl, c4, ls4, hC4, hG4, hpr4, hf4, hg4⟩
    · have hml : m < ls4.length := by rw [ht4.len]; omega
      have hFm : Full n (ls4.drop m) := by
        have h1 := hG4.links.drop m
        rw [drop_cons hml] at h1 ⊢
        refine done_full h1 hd4 ?_
        rw [ht4.drop]; exact hFl
      repeat' (first | (refine k_pure rfl ?_) | (refine then_normal ?_) | (refine cw_region rfl ?_) | (refine rr_nil ?_) | (refine k_subI rfl rfl (by omega) (by omega) ?_) | (refine cw_cond_true rfl ?_) | (refine cw_block ?_) | (refine in_normal ?_) | (refine cw_skip ?_))
      refine ⟨⟨(m, ls4), ⟨by simp only; omega, hC4, hG4, hFm, by simp only; rw [ht4.prod]; exact hpr, by simp only; rw [ht4.len]; exact hln, hf3.then hf4 (fun q hq h => (hg1.foot q (by rw [← hln]; exact h)).resolve_right (by omega))⟩, by simp only; omega, ?_, trivial⟩, (by (repeat (first | exact agree_mask _ _ _ | refine agree_upd rfl ?_ | refine agree_updO rfl ?_ | refine agree_overIn rfl ?_ | refine agree_maskIn rfl ?_)))⟩
      show Value.int .i64 (((m + 1 : Nat) : Int) - 1) = _
      congr 1; simp only; omega
    · have hpl4 := prod_le hG4.links hn11
      repeat' (first | (refine k_pure rfl ?_) | (refine then_normal ?_) | (refine cw_seq ?_) | (refine cw_region rfl ?_) | (refine rr_nil ?_) | (refine cw_cond_false rfl ?_) | (refine cw_exit ?_) | (refine then_exit ?_) | (refine in_exit ?_) | (refine in_normal ?_) | (refine cw_skip ?_))
      refine ⟨⟨(c4, ls4), ⟨hC4, hG4, hf3.then hf4 (fun q hq h => (hg1.foot q (by rw [← hln]; exact h)).resolve_right (by omega)), hg1.trans (by rw [← hln]; exact hg4) z3⟩, by simp only; omega, trivial⟩, (by (repeat (first | exact agree_mask _ _ _ | refine agree_upd rfl ?_ | refine agree_updO rfl ?_ | refine agree_overIn rfl ?_ | refine agree_maskIn rfl ?_)))⟩
  · obtain rfl : i = 0 := by omega
    exact ret0 rfl ⟨rfl, c1, ls2, hC3, hG3, hFl, hf3, by rw [hln]; exact hg1⟩
  · omega
end Go.Proofs.YthhfjagnmhhapaaGreat

namespace Go.Proofs.YthhfjagnmhhapaaGreat
open Go.W Go.PM
theorem fill_spec {w : World} {n N0 : Nat} {G : List Int → Prop} {base : List Int} {c : CH} {ls : List Lv} (hn11 : n ≤ 11) (hN : N0 ≤ 1000000) (hC : ChAt w n c ls) (hG : Gd n G base N0 ls) :
    CallsR Tryz.prog 52 #[.pointer (some ⟨c.cb, 0, none⟩)] w fun v w' => v = .tuple #[] ∧ ∃ c' ls', ChAt w' n c' ls' ∧ Gd n G base N0 ls' ∧ Fr (c.foot ls.length) w w' ∧ CGo w c c' ls.length ls'.length := by
  refine callsR_of (args := [_]) Tryz.func52 rfl rfl ?_
  have hstr := hC.str
  unfold chL at hstr
  have hml := hC.mok.1
  have hpl := prod_le hG.links hn11
  have hll := hG.ll
  have n1 := hG.links.n1
  repeat' (first | (refine k_loadC rfl hstr rfl ?_) | (refine k_lenMap mapT rfl hC.map ?_) | (refine k_pure rfl ?_) | (refine then_normal ?_) | (refine cw_seq ?_) | (refine cw_region rfl ?_) | (refine rr_nil ?_) | (refine k_subI rfl rfl (by omega) (by omega) ?_) | (refine k_fieldAddr rfl ?_) | (refine cw_block ?_))
  rw [hml]
  refine cw_loop (ι := Nat × CH × List Lv) [2, 3, 4, 5, 6, 13, 14, 15, 16, 17, 18, 19, 20, 21, 22, 23, 24, 25, 26, 27, 28, 29, 30, 31, 32, 33, 34, 35, 36, 37, 38, 39, 40, 41, 42, 43, 44, 45, 46, 47, 48, 49, 50, 51, 52, 53, 54, 55, 56, 57, 58, 59] (fun s => [(2, .int .i64 ((s.1 : Int) - 1))]) (fun s w' => s.1 ≤ ls.length ∧ s.1 ≤ s.2.2.length ∧ ChAt w' n s.2.1 s.2.2 ∧ Gd n G base N0 s.2.2 ∧ Fr (c.foot ls.length) w w' ∧ CGo w c s.2.1 ls.length s.2.2.length) (fun s => s.1)
    (ls.length, c, ls) ⟨rfl, trivial⟩ ⟨Nat.le_refl _, Nat.le_refl _, hC, hG, Fr.refl _ _, CGo.refl _ _ _⟩ ?_
  rintro ⟨m, c1, ls1⟩ ξ w1 ⟨hm0, hm, hC1, hG1, hf1, hg1⟩
  simp only at hm0 hm hC1 hG1 hg1
  show CW _ _ _ _ (over [(2, .int .i64 ((m : Int) - 1))] _) w1
  have hstr1 := hC1.str
  unfold chL at hstr1
  rw [hg1.cb] at hstr1
  repeat' (first | (refine k_pure rfl ?_) | (refine then_normal ?_) | (refine cw_seq ?_) | (refine cw_region rfl ?_) | (refine rr_nil ?_) | (refine k_fieldAddr rfl ?_) | (refine cw_cond_dec rfl (fun hc => ?_) (fun hc => ?_)) | (refine cw_block ?_) | (refine cw_exit ?_) | (refine then_exit ?_) | (refine in_exit ?_) | (refine cw_skip ?_))
  · obtain ⟨i, rfl⟩ : ∃ i, m = i + 1 := ⟨m - 1, by omega⟩
    have ei : ((i + 1 : Nat) : Int) - 1 = (i : Int) := by omega
    obtain ⟨j, hj, hfd, hjm⟩ := hC1.mok.find (show i < ls1.length by omega)
    have hLi := hC1.lv i (by omega)
    have hLs := hLi.str
    unfold lvL at hLs
    rw [ei] at *
    repeat' (first | (refine k_loadC rfl hstr1 rfl ?_) | (refine k_lookup mapT intT rfl rfl hC1.map hfd ?_) | (refine k_loadC rfl hLs rfl ?_) | (refine k_pure rfl ?_) | (refine then_normal ?_) | (refine cw_seq ?_) | (refine cw_region rfl ?_) | (refine rr_nil ?_) | (refine k_len rfl ?_) | (refine k_subI rfl rfl (by omega) (by omega) ?_) | (refine k_fieldAddr rfl ?_) | (refine cw_cond_dec rfl (fun hc => ?_) (fun hc => ?_)) | (refine cw_exit ?_) | (refine then_exit ?_) | (refine in_exit ?_) | (refine cw_skip ?_))
    · refine ⟨⟨(i, c1, ls1), ⟨by simp only; omega, by simp only; omega, hC1, hG1, hf1, hg1⟩, by simp only; omega, rfl, trivial⟩, (by (repeat (first | exact agree_mask _ _ _ | refine agree_upd rfl ?_ | refine agree_updO rfl ?_ | refine agree_overIn rfl ?_ | refine agree_maskIn rfl ?_)))⟩
    · have hi1 : i < ls1.length := by omega
      have ok1 := hG1.ok hi1
      have hpl1 := prod_le hG1.links hn11
      have hgl1 := hG1.gl i hi1
      have hcb1 := hg1.cb
      have z1 := hf1.size
      refine cw_draw (late := []) (plan := [(0, none), (1, none), (2, none), (3, none), (4, none), (5, none), (6, none), (7, none), (8, none), (9, none), (10, none), (11, none), (12, some true), (13, none)]) (fun w' => w'.cell? ⟨c.cb, 1, none⟩ = some (.map (some c1.mb)) ∧ MapAt w' c1.mb c1.m ∧ Blk w' (c1.hs i).blk 64 (lvL n (c1.hs i) (ls1.getD i lv0))) mixed (by kernel_rfl) ⟨hstr1.drew.cell (j := 1) (by simp), hC1.drew.map, hLi.str.drew⟩ ?_
      repeat' (first | (refine k_load rfl (fun _ h => h.1) ?_) | (refine k_lookup mapT intT rfl rfl (fun _ h => h.2.1) hfd ?_) | (refine k_loadC (Tb := 64) rfl (fun _ h => h.2.2) rfl ?_) | (refine k_pure rfl ?_) | (refine k_fieldAddr rfl ?_))
      have hcim : c.cb ∉ (c1.hs i).im := fun h => (hC1.fne i hi1 _ (.inr h)).1 hcb1.symm
      have hLd := (hC1.drew.lv i hi1)
      refine k_call (newSrc_spec (cb := c.cb) (st := c1.st) n1 ok1.gens hLd.ga hLd.gs hLi.gim hLd.imlt (by omega) (by omega) hcim hstr1.drew rfl hC1.st) rfl ?_
      rintro v w2 ⟨s, st2, rfl, hS2, hst2, hb2, hf2, hsb2, hpa2, him2⟩
      have hf2' : Fr (One c1.cb) w1 w2 := by rw [hcb1]; exact ((Ex.refl w1).drew.fr).trans hf2
      have z2 := hf2'.size
      have hfr2 := hC1.fresh (q := s.sb) hsb2
      have hfr3 := hC1.fresh (q := s.pa) hpa2
      have hC2 : ChAt w2 n { c1 with st := st2 } ls1 := hC1.setSt hf2' (fun q h => .inl h) (by rw [hcb1]; exact hb2) hst2
      refine ⟨fun _ _ => ⟨hb2.cell (j := 1) (by simp), hC2.map, (hC2.lv i hi1).str⟩, ?_⟩
      have hsep : Sep { c1 with st := st2 } ls1.length s := ⟨hfr2, hfr3, fun q hq => (him2 q hq).elim (fun h => hC1.imfoot hi1 h) (fun h => (hC1.fresh h).1)⟩
      have hfoot1 : c1.foot ls1.length c1.cb := .inl (.inl rfl)
      repeat' (first | (refine k_pure rfl ?_) | (refine then_normal ?_) | (refine cw_seq ?_) | (refine cw_region rfl ?_) | (refine rr_nil ?_) | (refine cw_block ?_))
      refine cw_loop (ι := Nat × CH × List Lv × SS) [4, 5, 6, 41, 42, 43, 44, 45, 46, 47, 48, 49, 50, 51, 52, 53, 54, 55, 56, 57, 58, 59] (fun s => [(4, .int .i64 (s.1 : Int))]) (fun t w' => t.1 ≤ 10 ∧ i + 1 ≤ t.2.2.1.length ∧ ChAt w' n t.2.1 t.2.2.1 ∧ Gd n G base N0 t.2.2.1 ∧ Fr (c.foot ls.length) w w' ∧ CGo w c t.2.1 ls.length t.2.2.1.length ∧ SrcAt w' n c.cb t.2.2.2 (ls1.getD i lv0).gens ∧ Sep t.2.1 t.2.2.1.length t.2.2.2 ∧ t.2.2.2.sb = s.sb ∧ t.2.2.2.pa = s.pa ∧ t.2.2.1.getD i lv0 = ls1.getD i lv0) (fun t => (39916800 - prodL t.2.2.1) * 12 + (10 - t.1))
        (0, { c1 with st := st2 }, ls1, s) ⟨rfl, trivial⟩ ⟨by simp, hm, hC2, hG1, hf1.then hf2' (fun q hq h => ?_), ⟨hcb1, hg1.foot, hg1.imm⟩, hS2, hsep, rfl, rfl, rfl⟩ ?_
      · have h : q = c1.cb := h
        subst h
        exact (hg1.foot _ hfoot1).resolve_right (by omega)
      rintro ⟨k, c3, ls3, s3⟩ ξ3 w3 ⟨hk, hi3, hC3, hG3, hf3, hg3, hS3, hsp3, hsb3, hpa3, hsame⟩
      simp only at hk hi3 hC3 hG3 hg3 hS3 hsp3 hsb3 hpa3 hsame
      show CW _ _ _ _ (over [(4, .int .i64 (k : Int))] _) w3
      have hcb3 := hg3.cb
      have hpl3 := prod_le hG3.links hn11
      have z3 := hf3.size
      have hll3 := hG3.ll
      repeat' (first | (refine k_pure rfl ?_) | (refine then_normal ?_) | (refine cw_seq ?_) | (refine cw_region rfl ?_) | (refine rr_nil ?_) | (refine k_subI rfl rfl (by omega) (by omega) ?_) | (refine cw_cond_dec rfl (fun hc => ?_) (fun hc => ?_)) | (refine cw_block ?_) | (refine cw_exit ?_) | (refine then_exit ?_) | (refine in_exit ?_) | (refine in_normal ?_) | (refine cw_skip ?_))
      · have hb3 := hC3.str
        rw [hcb3] at hb3
        refine k_call (srcNext_spec hS3 hb3 rfl hC3.st) (by rw [hsb3]; rfl) ?_
        rintro v w4 ⟨g, gc, p, st4, s4, rfl, hg4, ho4, hp4, hst4, hb4, hS4, hgi4, hf4, hsb4, hpa4, _, him4⟩
        refine ⟨fun _ _ => trivial, ?_⟩
        have z4 := hf4.size
        have hfr4 := hC3.fresh hg4
        have hC4 : ChAt w4 n { c3 with st := st4 } ls3 := hC3.setSt hf4 (fun q h => by
          rcases h with h | h | h
          · exact .inl (by rw [hcb3]; exact h)
          · subst h; exact .inr hsp3.sb
          · subst h; exact .inr hsp3.pa) (by rw [hcb3]; exact hb4) hst4
        have hsp4 : Sep { c3 with st := st4 } ls3.length s4 := ⟨by rw [hsb4]; exact hsp3.sb, by rw [hpa4]; exact hsp3.pa, fun q hq => (him4 q hq).elim (hsp3.im q) (fun h => (hC3.fresh h).1)⟩
        have pp4 := (gen_grp n1 ok1.gens).perm _ hp4
        have hi3' : i < ls3.length := by omega
        repeat' (first | (refine k_pure rfl ?_) | (refine then_normal ?_) | (refine cw_seq ?_) | (refine cw_region rfl ?_) | (refine rr_nil ?_))
        refine k_call (csift_spec (first := i) hC4 (fun j _ hj => hG3.ok hj) (by omega) pp4 ho4 hfr4.1 hfr4.2 (by omega)) (by rw [← hcb3]; rfl) ?_
        rintro v w5 ⟨rfl, hc5, ho5⟩
        refine ⟨fun _ _ => trivial, ?_⟩
        have hrem := rem_facts (l := ls3.getD i lv0) (ls := ls3.drop (i + 1)) (p := p) (by rw [← drop_cons hi3']; exact hG3.links.drop i) (by rw [hsame]; exact hp4)
        rw [← drop_cons hi3'] at hrem
        simp only at hrem
        obtain ⟨pr, hd1, hd2, _⟩ := hrem
        rw [List.length_drop] at hd2
        have hC5 : ChAt w5 n { c3 with st := st4 } ls3 := hC4.fr (f1C hc5) (fun q hq e => hfr4.1 (by have e : q = g := e; rw [← e]; exact hq)) (fun q hq e => hfr4.2 (by have e : q = g := e; rw [← e]; exact hq))
        have hsbg : s4.sb < w3.heap.size ∧ s4.pa < w3.heap.size := by
          rw [hsb4, hpa4]; exact ⟨hS3.str.lt, (hS3.pool.lo _ rfl).2⟩
        have hS5 : SrcAt w5 n c.cb s4 (ls1.getD i lv0).gens := hS4.fr (f1C hc5) (fun e => by have e : s4.sb = g := e; omega) (fun e => by have e : s4.pa = g := e; omega) (fun q hq e => hgi4 (by have e : q = g := e; rw [← e]; exact hq))
        have z5 : w4.heap.size = w5.heap.size := hc5.size.symm
        have hf35 : Fr (c.foot ls.length) w w5 := (hf3.then hf4 (fun q hq h => by
          rcases h with h | h | h
          · subst h; exact .inl (.inl rfl)
          · rw [hsb3] at h; have : w1.heap.size ≤ s.sb := hsb2; omega
          · rw [hpa3] at h; have : w1.heap.size ≤ s.pa := hpa2; omega)).then (f1C hc5) (fun q hq e => by have e : q = g := e; omega)
        obtain ⟨r, hr⟩ : ∃ r, r = (siftL (ls3.drop i) p).1 := ⟨_, rfl⟩
        obtain ⟨d, hd⟩ : ∃ d, d = (siftL (ls3.drop i) p).2 := ⟨_, rfl⟩
        rw [← hr] at ho5 pr
        rw [← hd] at hd1 hd2
        rw [← hd]
        repeat' (first | (refine k_pure rfl ?_) | (refine then_normal ?_) | (refine cw_seq ?_) | (refine cw_region rfl ?_) | (refine rr_nil ?_))
        refine k_call (moved_spec (xs := r) ho5.sl gc (fun k hk => by have := pr.1.lt hk; have := pr.2; omega) (by rw [pr.2]; omega)) (by rw [pr.2]; rfl) ?_
        rintro v w6 ⟨mv, rfl, hmv, hE6⟩
        refine ⟨fun _ _ => trivial, ?_⟩
        have hC6 := hC5.ext hE6
        have hS6 : SrcAt w6 n c.cb s4 (ls1.getD i lv0).gens := hS5.fr (F := fun _ => False) hE6.fr (fun h => h) (fun h => h) (fun _ _ h => h)
        have hf36 : Fr (c.foot ls.length) w w6 := hf35.trans hE6.fr
        have z6 := hE6.size
        repeat' (first | (refine k_pure rfl ?_) | (refine then_normal ?_) | (refine cw_seq ?_) | (refine cw_region rfl ?_) | (refine rr_nil ?_) | (refine k_addI rfl rfl (by omega) (by omega) ?_) | (refine cw_cond_dec rfl (fun hc => ?_) (fun hc => ?_)) | (refine in_normal ?_) | (refine cw_skip ?_))
        · have hne : r ≠ idList n := fun e => by have := hmv.neg.2 (by rw [pr.2]; exact e); omega
          refine k_call (insert_spec (first := i + 1) (last := i + d) hC6 (fun j _ hj => hG3.ok hj) (by omega) (by omega) pr hne (ho5.sl.ext hE6) hfr4.1 (by omega) (fun j hj => by have := hG3.gl j hj; omega)) (by rw [← hcb3]; rfl) ?_
          rintro v w7 ⟨rfl, c7, ls7, hJ⟩
          refine ⟨fun _ _ => trivial, ?_⟩
          subst hr
          subst hd
          obtain ⟨hG7, hpr7, ht7⟩ := hG3.ins hi3' (by rw [hsame]; exact hp4) hJ
          have hpl7 := prod_le hG7.links hn11
          have hlen7 := hJ.len
          have hle7 : ls3.length ≤ ls7.length := by rw [hlen7]; split <;> omega
          have z7 := hJ.fr.size
          have hgw : w.heap.size ≤ g := by omega
          have hsp7 : Sep c7 ls7.length s4 := by
            refine ⟨⟨fun h => ?_, fun h => ?_⟩, ⟨fun h => ?_, fun h => ?_⟩, fun q hq h => ?_⟩
            · rcases hJ.step.foot _ h with h | h
              · exact hsp4.sb.1 h
              · omega
            · rcases hJ.step.imm _ h with h | h | h
              · exact hsp4.sb.2 h
              · omega
              · omega
            · rcases hJ.step.foot _ h with h | h
              · exact hsp4.pa.1 h
              · omega
            · rcases hJ.step.imm _ h with h | h | h
              · exact hsp4.pa.2 h
              · omega
              · omega
            · rcases hJ.step.foot _ h with h | h
              · exact hsp4.im q hq h
              · have := hS4.imlt q hq; omega
          repeat' (first | (refine k_pure rfl ?_) | (refine then_normal ?_) | (refine cw_region rfl ?_) | (refine rr_nil ?_) | (refine k_addI rfl rfl (by omega) (by omega) ?_) | (refine in_normal ?_))
          refine ⟨⟨(0, c7, ls7, s4), ⟨by simp, by simp only; omega, hJ.ch, hG7, hf36.then hJ.fr (fun q hq h => (hg3.foot q h).resolve_right (by omega)), ⟨hJ.step.cb.trans hcb3, fun q hq => ?_, fun q hq => ?_⟩, hS6.fr hJ.fr hsp4.sb.1 hsp4.pa.1 hsp4.im, hsp7, by rw [← hsb3]; exact hsb4, by rw [← hpa3]; exact hpa4, ?_⟩, by simp only; omega, rfl, trivial⟩, (by (repeat (first | exact agree_mask _ _ _ | refine agree_upd rfl ?_ | refine agree_updO rfl ?_ | refine agree_overIn rfl ?_ | refine agree_maskIn rfl ?_)))⟩
          · rcases hJ.step.foot q hq with h | h
            · exact hg3.foot q h
            · exact .inr (by omega)
          · rcases hJ.step.imm q hq with h | h | h
            · exact hg3.imm q h
            · exact .inr (by omega)
            · exact .inr (by omega)
          · exact (hJ.same i (.inl (by omega))).trans hsame
        · refine ⟨⟨(k + 1, { c3 with st := st4 }, ls3, s4), ⟨by simp only; omega, hi3, hC6, hG3, hf36, ⟨hcb3, hg3.foot, hg3.imm⟩, hS6, hsp4, by rw [← hsb3]; exact hsb4, by rw [← hpa3]; exact hpa4, hsame⟩, by simp only; omega, rfl, trivial⟩, (by (repeat (first | exact agree_mask _ _ _ | refine agree_upd rfl ?_ | refine agree_updO rfl ?_ | refine agree_overIn rfl ?_ | refine agree_maskIn rfl ?_)))⟩
      · refine ⟨⟨(i, c3, ls3), ⟨by simp only; omega, by simp only; omega, hC3, hG3, hf3, hg3⟩, by simp only; omega, rfl, trivial⟩, (by (repeat (first | exact agree_mask _ _ _ | refine agree_upd rfl ?_ | refine agree_updO rfl ?_ | refine agree_overIn rfl ?_ | refine agree_maskIn rfl ?_)))⟩
  · exact end0 rfl ⟨rfl, c1, ls1, hC1, hG1, hf1, hg1⟩
end Go.Proofs.YthhfjagnmhhapaaGreat

namespace Go.Proofs.YthhfjagnmhhapaaGreat
open Go.W Go.PM
/-- a list of elements in memory that nothing changes -/
structure GsAt (w : World) (n : Nat) (ga : Option Addr) (gc : Nat) (gs : List SD) (im : List Nat) (gens : List (List Int)) : Prop where
  sl : Sl w ga (gs.map SD.val)
  ps : PsAt w n im gs gens
  gim : ∀ ad, ga = some ad → ad.block ∈ im
  imlt : ∀ q, q ∈ im → q < w.heap.size
  cap : gens.length ≤ gc
theorem GsAt.fr {F : Nat → Prop} {w w' : World} {n : Nat} {ga : Option Addr} {gc : Nat} {gs : List SD} {im : List Nat} {gens : List (List Int)} (h : GsAt w n ga gc gs im gens) (f : Fr F w w') (hn : ∀ q, q ∈ im → ¬ F q) : GsAt w' n ga gc gs im gens :=
  ⟨h.sl.fr f (fun ad e => hn _ (h.gim ad e)), h.ps.fr f hn, h.gim, fun q hq => Nat.lt_of_lt_of_le (h.imlt q hq) f.size, h.cap⟩
set_option maxHeartbeats 1000000 in
theorem fixing_spec {w : World} {n i : Nat} {c : CH} {ls : List Lv} (hn11 : n ≤ 11) (hC : ChAt w n c ls) (hi : i < ls.length) (ok : LvOK n (ls.getD i lv0)) (hgl : (ls.getD i lv0).gens.length ≤ 1000000000) (hne : ∀ g ∈ (ls.getD i lv0).gens, g ≠ idList n) :
    CallsR Tryz.prog 51 #[.pointer (some ⟨c.cb, 0, none⟩), .pointer (some ⟨(c.hs i).blk, 0, none⟩)] w fun v w' => ∃ st' ga gc gs im gens, v = .slice ga gens.length gc ∧ ChAt w' n { c with st := st' } ls ∧ Fr (One c.cb) w w' ∧ GsAt w' n ga gc gs im gens ∧
      (∀ q, q ∈ im → q ∈ (c.hs i).im ∨ w.heap.size ≤ q) ∧ (∀ q, q ∈ im → ¬ c.foot ls.length q) ∧ (gens.length ≤ (ls.getD i lv0).gens.length ∨ gens.length ≤ 2) ∧ ∀ g ∈ gens, Gen n (ls.getD i lv0).gens g ∧ ap g (ls.getD i lv0).pt = (ls.getD i lv0).pt ∧ g ≠ idList n := by
  refine callsR_of (args := [_, _]) Tryz.func51 rfl rfl ?_
  have n1 := ok.n1
  have hLi := hC.lv i hi
  have hLs := hLi.str
  have hol := ok.orb_le
  have hop := ok.pos
  repeat' (first | (refine k_loadC rfl hLs rfl ?_) | (refine k_pure rfl ?_) | (refine then_normal ?_) | (refine cw_seq ?_) | (refine cw_region rfl ?_) | (refine rr_nil ?_) | (refine k_len rfl ?_) | (refine k_fieldAddr rfl ?_) | (refine cw_cond_dec rfl (fun hc => ?_) (fun hc => ?_)) | (refine cw_ret ?_) | (refine then_ret ?_) | (refine cw_skip ?_))
  · refine ret1 rfl (rt rfl) ⟨c.st, (c.hs i).ga, (c.hs i).gc, (c.hs i).gs, (c.hs i).im, (ls.getD i lv0).gens, rfl, hC, Fr.refl _ _, ⟨hLi.ga, hLi.gs, hLi.gim, hLi.imlt, hLi.gcap⟩, fun q hq => .inl hq, fun q hq => hC.imfoot hi hq, .inl (Nat.le_refl _), fun g hg => ⟨gen_self ok.gens hg, ?_, hne g hg⟩⟩
    have h1 : (ls.getD i lv0).orb.length = 1 := by omega
    have hm : ap g (ls.getD i lv0).pt ∈ (ls.getD i lv0).orb := (ok.mem _).2 (.step _ hg .refl)
    obtain ⟨y, hy⟩ := List.length_eq_one_iff.1 h1
    have hh := ok.head
    rw [hy] at hm hh
    rw [List.mem_singleton] at hm
    rw [hm]; exact hh
  · have hg0 : 1 ≤ (ls.getD i lv0).gens.length := by
      rcases Nat.eq_zero_or_pos (ls.getD i lv0).gens.length with h | h
      · exfalso
        have hnil := List.eq_nil_of_length_eq_zero h
        have hall : ∀ y ∈ (ls.getD i lv0).orb, y ∈ [(ls.getD i lv0).pt] := fun y hy => by
          obtain ⟨q, hq, e⟩ := (ok.mem' y).1 hy
          rw [hnil, gen_nil] at hq
          subst hq
          rw [ap_id ok.pt] at e
          rw [List.mem_singleton]; exact e.symm
        have := nodup_le ok.nd hall
        simp only [List.length_singleton] at this
        omega
      · exact h
    have hcim : c.cb ∉ (c.hs i).im := fun h => (hC.fne i hi _ (.inr h)).1 rfl
    have hLd := hC.drew.lv i hi
    have grp := ok.grp
    skip
    refine cw_draw (late := [7]) (plan := [(0, none), (1, none), (2, none), (3, none), (4, none), (5, none), (6, none), (7, some false), (8, none)]) (fun w' => Blk w' (c.hs i).blk 64 (lvL n (c.hs i) (ls.getD i lv0))) mixed (by kernel_rfl) hLs.drew ?_
    repeat' (first | (refine k_loadC rfl (fun _ h => h) rfl ?_) | (refine k_pure rfl ?_) | (refine k_fieldAddr rfl ?_))
    refine k_call (newSrc_spec (cb := c.cb) (st := c.st) n1 ok.gens hLd.ga hLd.gs hLi.gim hLd.imlt hg0 (by omega) hcim hC.drew.str rfl hC.st) rfl ?_
    rintro v w2 ⟨s, st2, rfl, hS2, hst2, hb2, hf2, hsb2, hpa2, him2⟩
    have hf2' : Fr (One c.cb) w w2 := ((Ex.refl w).drew.fr).trans hf2
    have hC2 : ChAt w2 n { c with st := st2 } ls := hC.setSt hf2' (fun q h => .inl h) hb2 hst2
    refine ⟨fun _ _ => (hC2.lv i hi).str, ?_⟩
    replace hsb2 : w.heap.size ≤ s.sb := hsb2
    replace hpa2 : w.heap.size ≤ s.pa := hpa2
    have z2 := hf2'.size
    have hsep : Sep { c with st := st2 } ls.length s := ⟨hC.fresh hsb2, hC.fresh hpa2, fun q hq => (him2 q hq).elim (fun h => hC.imfoot hi h) (fun h => (hC.fresh h).1)⟩
    have hsbl := hS2.str.lt
    have hpal := (hS2.pool.lo _ rfl).2
    simp only at hpal
    repeat' (first | (refine k_pure rfl ?_) | (refine then_normal ?_) | (refine cw_seq ?_) | (refine cw_region rfl ?_) | (refine rr_nil ?_) | (refine cw_block ?_))
    refine cw_loop (ι := Nat × Option Addr × Nat × List SD × List (List Int) × List Nat × Nat × SS) [5, 7, 26, 27, 28, 29, 30, 31, 32, 33, 34, 35, 36, 37, 38, 39, 40] (fun t => [(26, .int .i64 (t.1 : Int)), (5, .slice t.2.1 t.2.2.2.2.1.length t.2.2.1)])
      (fun t w' => t.1 ≤ 2 ∧ t.2.2.2.2.1.length ≤ t.1 ∧ ChAt w' n { c with st := t.2.2.2.2.2.2.1 } ls ∧ Fr (One c.cb) w w' ∧ SrcAt w' n c.cb t.2.2.2.2.2.2.2 (ls.getD i lv0).gens ∧ Sep { c with st := t.2.2.2.2.2.2.1 } ls.length t.2.2.2.2.2.2.2 ∧ t.2.2.2.2.2.2.2.sb = s.sb ∧ t.2.2.2.2.2.2.2.pa = s.pa ∧
        Own w' w.heap.size 55 1 t.2.1 t.2.2.2.2.1.length t.2.2.1 (t.2.2.2.1.map SD.val) ∧ (∀ ad, t.2.1 = some ad → ad.block ≠ s.sb ∧ ad.block ≠ s.pa ∧ ad.block ∉ t.2.2.2.2.2.1 ∧ ad.block ∉ t.2.2.2.2.2.2.2.im) ∧ PsAt w' n t.2.2.2.2.2.1 t.2.2.2.1 t.2.2.2.2.1 ∧ (∀ q, q ∈ t.2.2.2.2.2.1 → w.heap.size ≤ q ∧ q < w'.heap.size ∧ q ≠ s.sb ∧ q ≠ s.pa) ∧
        ∀ g ∈ t.2.2.2.2.1, Gen n (ls.getD i lv0).gens g ∧ ap g (ls.getD i lv0).pt = (ls.getD i lv0).pt ∧ g ≠ idList n) (fun t => 2 - t.1)
      (0, none, 0, [], [], [], st2, s) ⟨rfl, rfl, trivial⟩ ⟨Nat.zero_le _, Nat.le_refl _, hC2, hf2', hS2, hsep, rfl, rfl, Own.nil _ _ _ _, by rintro _ ⟨⟩, ⟨rfl, fun i hi => absurd hi (by simp), fun i hi => absurd hi (by simp), fun i hi => absurd hi (by simp)⟩, by simp, by simp⟩ ?_
    rintro ⟨k, a, cp, sds, gens', imx, st3, s3⟩ ξ w3 ⟨hk, hLk, hC3, hf3, hS3, hsp3, hsb3, hpa3, hO3, hOd, hP3, him3, hg3⟩
    simp only at hk hLk hC3 hS3 hsp3 hsb3 hpa3 hO3 hOd hP3 him3 hg3
    show CW _ _ _ _ (over [(26, .int .i64 (k : Int)), (5, .slice a gens'.length cp)] _) w3
    have z3 := hf3.size
    repeat' (first | (refine k_pure rfl ?_) | (refine then_normal ?_) | (refine cw_seq ?_) | (refine cw_region rfl ?_) | (refine rr_nil ?_) | (refine cw_cond_dec rfl (fun hc => ?_) (fun hc => ?_)) | (refine cw_block ?_) | (refine cw_exit ?_) | (refine then_exit ?_) | (refine in_exit ?_) | (refine cw_ret ?_) | (refine cw_skip ?_))
    · have hb3 := hC3.str
      refine k_call (srcNext_spec hS3 hb3 rfl hC3.st) (by rw [hsb3]; rfl) ?_
      rintro v w4 ⟨g, gcp, p, st4, s4, rfl, hg4, ho4, hp4, hst4, hb4, hS4, hgi4, hf4, hsb4, hpa4, _, him4⟩
      refine ⟨fun _ _ => trivial, ?_⟩
      have z4 := hf4.size
      have hsb3l : s3.sb < w3.heap.size := hS3.str.lt
      have hpa3l : s3.pa < w3.heap.size := (hS3.pool.lo _ rfl).2
      have hfr4 := hC3.fresh hg4
      have hC4 : ChAt w4 n { c with st := st4 } ls := hC3.setSt hf4 (fun q h => by
        rcases h with h | h | h
        · exact .inl h
        · subst h; exact .inr hsp3.sb
        · subst h; exact .inr hsp3.pa) hb4 hst4
      have hsp4 : Sep { c with st := st4 } ls.length s4 := ⟨by rw [hsb4]; exact hsp3.sb, by rw [hpa4]; exact hsp3.pa, fun q hq => (him4 q hq).elim (hsp3.im q) (fun h => (hC3.fresh h).1)⟩
      have pp4 := grp.perm _ hp4
      have hF4 : ∀ q, w.heap.size ≤ q → q ≠ s.sb → q ≠ s.pa → ¬ (q = c.cb ∨ q = s3.sb ∨ q = s3.pa) := fun q h1 h2 h3 h => by
        have := hC.str.lt
        rcases h with h | h | h
        · omega
        · rw [hsb3] at h; exact h2 h
        · rw [hpa3] at h; exact h3 h
      have hO4 := hO3.fr hf4 (fun ad e => hF4 _ (hO3.lo ad e).1 (hOd ad e).1 (hOd ad e).2.1)
      have hP4 := hP3.fr hf4 (fun q hq => hF4 q (him3 q hq).1 (him3 q hq).2.2.1 (him3 q hq).2.2.2)
      have hm : ap p (ls.getD i lv0).pt ∈ (ls.getD i lv0).orb := (ok.mem' _).2 ⟨p, hp4, rfl⟩
      repeat' (first | (refine k_pure rfl ?_) | (refine then_normal ?_) | (refine cw_seq ?_) | (refine cw_region rfl ?_) | (refine rr_nil ?_))
      refine k_call (divide_spec (hC4.lv i hi) ok pp4 ho4 (fun h => hfr4.1 (.inr ⟨i, hi, h⟩)) (fun h => hfr4.2 ⟨i, hi, h⟩)) rfl ?_
      rintro v w5 ⟨rfl, hc5, ho5⟩
      refine ⟨fun _ _ => trivial, ?_⟩
      rw [if_pos hm] at ho5
      obtain ⟨r, hr⟩ : ∃ r, r = mulP p ((ls.getD i lv0).to (ap p (ls.getD i lv0).pt)) := ⟨_, rfl⟩
      have hrg : Gen n (ls.getD i lv0).gens r := by rw [hr]; exact grp.mul _ _ hp4 (ok.to_in hm)
      have hrp : ap r (ls.getD i lv0).pt = (ls.getD i lv0).pt := by rw [hr, ap_mul pp4 ok.pt, ok.to_ap hm]
      have pr := grp.perm _ hrg
      rw [← hr] at ho5
      have z5 : w4.heap.size = w5.heap.size := hc5.size.symm
      have hC5 : ChAt w5 n { c with st := st4 } ls := hC4.fr (f1C hc5) (fun q hq e => hfr4.1 (by have e : q = g := e; rw [← e]; exact hq)) (fun q hq e => hfr4.2 (by have e : q = g := e; rw [← e]; exact hq))
      have hS5 := hS4.fr (f1C hc5) (fun e => by have e : s4.sb = g := e; omega) (fun e => by have e : s4.pa = g := e; omega) (fun q hq e => hgi4 (by have e : q = g := e; rw [← e]; exact hq))
      have hO5 := hO4.chg hc5 (fun ad e => by have := (hO3.lo ad e).2; omega)
      have hP5 := hP4.fr (f1C hc5) (fun q hq e => by have e : q = g := e; have := (him3 q hq).2.1; omega)
      have hfw5 : Fr (One c.cb) w w5 := (hf3.then hf4 (fun q hq h => by
        rcases h with h | h | h
        · exact h
        · omega
        · omega)).then (f1C hc5) (fun q hq e => by have e : q = g := e; omega)
      repeat' (first | (refine k_pure rfl ?_) | (refine then_normal ?_) | (refine cw_seq ?_) | (refine cw_region rfl ?_) | (refine rr_nil ?_))
      refine k_call (moved_spec (xs := r) ho5.sl gcp (fun k hk => by have := pr.1.lt hk; have := pr.2; omega) (by rw [pr.2]; omega)) (by rw [pr.2]; rfl) ?_
      rintro v w6 ⟨mv, rfl, hmv, hE6⟩
      refine ⟨fun _ _ => trivial, ?_⟩
      have z6 := hE6.size
      have hC6 := hC5.ext hE6
      have hS6 : SrcAt w6 n c.cb s4 (ls.getD i lv0).gens := hS5.fr (F := fun _ => False) hE6.fr (fun h => h) (fun h => h) (fun _ _ h => h)
      have hfw6 := hfw5.trans (hE6.fr (F := One c.cb))
      have hgl6 : g < w5.heap.size := (ho5.lo _ rfl).2
      have hO6 := hO5.ext hE6
      have hP6 := hP5.ext hE6
      repeat' (first | (refine k_pure rfl ?_) | (refine then_normal ?_) | (refine cw_region rfl ?_) | (refine rr_nil ?_) | (refine k_addI rfl rfl (by omega) (by omega) ?_) | (refine cw_cond_dec rfl (fun hc => ?_) (fun hc => ?_)) | (refine in_normal ?_) | (refine cw_skip ?_))
      · have hne' : r ≠ idList n := fun e => by have := hmv.neg.2 (by rw [pr.2]; exact e); omega
        refine k_app1S rfl rfl rfl rfl hO6 (by omega) (by omega) (by omega) (fun gx a7 c7 w7 ho7 hg7 hA7 => ?_)
        have hown : ∀ q, (Value.slice a gens'.length cp).ownBlock = some q → ∃ ad, a = some ad ∧ ad.block = q := fun q e => by
          cases ha : a with
          | none => rw [ha] at e; simp [Value.ownBlock] at e
          | some ad => rw [ha] at e; simp [Value.ownBlock] at e; exact ⟨ad, rfl, e⟩
        have f7 := grown_fr hg7 hown
        have z7 := f7.size
        obtain ⟨b7, rfl⟩ := Own.ba ho7
        have hlo7 := (ho7.lo _ rfl)
        simp only at hlo7
        have himx : ∀ q, q ∈ s4.im → q ∈ s3.im ∨ w3.heap.size ≤ q := him4
        have hadS4 : ∀ ad, a = some ad → ad.block ∉ s4.im := fun ad e h => by
          rcases him4 _ h with h | h
          · exact (hOd ad e).2.2.2 h
          · have := (hO3.lo ad e).2; omega
        have hC7 := hC6.fr f7 (fun q hq ⟨ad, e, e2⟩ => (hC.fresh (q := q) (by rw [← e2]; exact (hO3.lo ad e).1)).1 hq) (fun q hq ⟨ad, e, e2⟩ => (hC.fresh (q := q) (by rw [← e2]; exact (hO3.lo ad e).1)).2 hq)
        have hS7 := hS6.fr f7 (fun ⟨ad, e, e2⟩ => (hOd ad e).1 (by rw [e2, hsb4, hsb3])) (fun ⟨ad, e, e2⟩ => (hOd ad e).2.1 (by rw [e2, hpa4, hpa3])) (fun q hq ⟨ad, e, e2⟩ => hadS4 ad e (by rw [e2]; exact hq))
        have hP7 := ((hP6.fr f7 (fun q hq ⟨ad, e, e2⟩ => (hOd ad e).2.2.1 (by rw [e2]; exact hq))).mono (im' := g :: imx) fun q hq => List.mem_cons_of_mem _ hq).snoc (s := ⟨ba g, n, gcp⟩) (p := r) ((ho5.sl.ext hE6).fr f7 (by rintro _ ⟨⟩ ⟨ad, e, e2⟩; have := (hO3.lo ad e).2; simp only at e2; omega)) rfl (by rintro _ ⟨⟩; simp)
        have hb7 : b7 ≠ s.sb ∧ b7 ≠ s.pa ∧ b7 ∉ g :: imx ∧ b7 ∉ s4.im := by
          rcases hA7 with e | e
          · have h1 := hOd _ e.symm
            have h2 := (hO3.lo _ e.symm).2
            simp only at h1 h2
            refine ⟨h1.1, h1.2.1, ?_, hadS4 _ e.symm⟩
            rw [List.mem_cons, not_or]
            exact ⟨by omega, h1.2.2.1⟩
          · have h1 := e _ rfl
            simp only at h1
            refine ⟨by omega, by omega, ?_, fun h => by have := hS6.imlt _ h; omega⟩
            rw [List.mem_cons, not_or]
            exact ⟨by omega, fun h => by have := (him3 _ h).2.1; omega⟩
        repeat' (first | (refine k_pure rfl ?_) | (refine then_normal ?_) | (refine cw_region rfl ?_) | (refine rr_nil ?_) | (refine k_addI rfl rfl (by omega) (by omega) ?_) | (refine in_normal ?_))
        refine ⟨⟨(k + 1, ba b7, c7, sds ++ [⟨ba g, n, gcp⟩], gens' ++ [r], g :: imx, st4, s4), ⟨by simp only; omega, by simp only [List.length_append, List.length_singleton]; omega, hC7, hfw6.then f7 (fun q hq ⟨ad, e, e2⟩ => by have := (hO3.lo ad e).1; omega), hS7, hsp4, by simp only; rw [hsb4, hsb3], by simp only; rw [hpa4, hpa3], ?_, by rintro _ ⟨⟩; exact hb7, hP7, fun q hq => ?_, fun x hx => ?_⟩, by simp only; omega, rfl, ?_, trivial⟩, (by (repeat (first | exact agree_mask _ _ _ | refine agree_upd rfl ?_ | refine agree_updO rfl ?_ | refine agree_overIn rfl ?_ | refine agree_maskIn rfl ?_)))⟩
        · simp only [List.length_append, List.length_singleton]; exact ho7
        · rcases List.mem_cons.1 hq with rfl | hq
          · exact ⟨by omega, by omega, by omega, by omega⟩
          · have := him3 q hq; exact ⟨this.1, by omega, this.2.2⟩
        · rcases List.mem_append.1 hx with hx | hx
          · exact hg3 x hx
          · rw [List.mem_singleton] at hx; subst hx; exact ⟨hrg, hrp, hne'⟩
        · simp only [List.length_append, List.length_singleton]; rfl
      · refine ⟨⟨(k + 1, a, cp, sds, gens', imx, st4, s4), ⟨by simp only; omega, by simp only; omega, hC6, hfw6, hS6, hsp4, by simp only; rw [hsb4, hsb3], by simp only; rw [hpa4, hpa3], hO6, fun ad e => ⟨(hOd ad e).1, (hOd ad e).2.1, (hOd ad e).2.2.1, fun h => ?_⟩, hP6, fun q hq => ⟨(him3 q hq).1, by have := (him3 q hq).2.1; omega, (him3 q hq).2.2⟩, hg3⟩, by simp only; omega, rfl, rfl, trivial⟩, (by (repeat (first | exact agree_mask _ _ _ | refine agree_upd rfl ?_ | refine agree_updO rfl ?_ | refine agree_overIn rfl ?_ | refine agree_maskIn rfl ?_)))⟩
        rcases him4 _ h with h | h
        · exact (hOd ad e).2.2.2 h
        · have := (hO3.lo ad e).2; omega
    · obtain rfl : k = 2 := by omega
      have hcim : ∀ ad, a = some ad → w.heap.size ≤ ad.block := fun ad e => (hO3.lo ad e).1
      obtain ⟨imz, himz⟩ : ∃ l : List Nat, (∀ ad, a = some ad → ad.block ∈ l) ∧ (∀ q, q ∈ imx → q ∈ l) ∧ ∀ q, q ∈ l → w.heap.size ≤ q ∧ q < w3.heap.size := by
        cases ha : a with
        | none => exact ⟨imx, by rintro _ ⟨⟩, fun _ h => h, fun q hq => ⟨(him3 q hq).1, (him3 q hq).2.1⟩⟩
        | some ad =>
          refine ⟨ad.block :: imx, by rintro _ ⟨⟩; simp, fun q hq => List.mem_cons_of_mem _ hq, fun q hq => ?_⟩
          rcases List.mem_cons.1 hq with rfl | hq
          · exact hO3.lo ad ha
          · exact ⟨(him3 q hq).1, (him3 q hq).2.1⟩
      refine ret1 rfl (rt rfl) ⟨st3, a, cp, sds, imz, gens', rfl, hC3, hf3, ⟨hO3.sl, hP3.mono himz.2.1, himz.1, fun q hq => (himz.2.2 q hq).2, hO3.capLe⟩, fun q hq => .inr (himz.2.2 q hq).1, fun q hq => (hC.fresh (himz.2.2 q hq).1).1, .inr hLk, hg3⟩
end Go.Proofs.YthhfjagnmhhapaaGreat

namespace Go.Proofs.YthhfjagnmhhapaaGreat
open Go.W Go.PM
theorem putL_end {ls : List Lv} {l : Lv} : putL ls ls.length l = ls ++ [l] := by
  unfold putL; rw [List.take_length, List.drop_eq_nil_of_le (by omega)]
structure BJ (w : World) (n : Nat) (gens : List (List Int)) (base : List Int) (i : Nat) (ga : Option Addr) (gc : Nat) (gs : List SD) (im : List Nat) (group : List (List Int)) (c : CH) (ls : List Lv) (w' : World) : Prop where
  ch : ChAt w' n c ls
  len : ls.length = i
  gsa : GsAt w' n ga gc gs im group
  ex : Ex w w'
  foot : ∀ q, c.foot ls.length q → w.heap.size ≤ q
  imf : ∀ q, q ∈ im → ¬ c.foot ls.length q
  links : Links n ls
  gn : GensN n group
  gne : ∀ g ∈ group, g ≠ idList n
  gl : group.length ≤ gens.length + 2
  lgl : ∀ j, j < ls.length → (ls.getD j lv0).gens.length ≤ gens.length + 2
  pts : ∀ j, j < base.length → j < ls.length → (ls.getD j lv0).pt = base.getD j 0
  two : ∀ j, base.length ≤ j → j < ls.length → 2 ≤ (ls.getD j lv0).orb.length
  zero : i = 0 → ∀ p, Gen n group p ↔ Gen n gens p
  succ : 0 < i → ∀ p, grpOf n ls p ↔ Gen n gens p
  last : ∀ z, ls[ls.length - 1]? = some z → (∀ g ∈ group, Gen n z.gens g ∧ ap g z.pt = z.pt) ∧ ∀ a, z.done.getD a 0 = 0
  ll : ls.length ≤ base.length + prodL ls
theorem BJ.gd {w : World} {n : Nat} {gens : List (List Int)} {base : List Int} {i : Nat} {ga : Option Addr} {gc : Nat} {gs : List SD} {im : List Nat} {c : CH} {ls : List Lv} {w' : World} (h : BJ w n gens base i ga gc gs im [] c ls w') (hb : base.length ≤ i) :
    Gd n (Gen n gens) base (gens.length + base.length + 2) ls := by
  refine ⟨h.links, fun p => ?_, fun j hj => by have := h.lgl j hj; omega, by have := h.ll; omega, by rw [h.len]; exact hb, fun j hj => h.pts j hj (by rw [h.len]; omega), h.two⟩
  rcases Nat.eq_zero_or_pos i with e | e
  · have hz := h.zero e p
    have hl : ls = [] := List.eq_nil_of_length_eq_zero (by rw [h.len]; exact e)
    rw [← hz, hl, gen_nil]; rfl
  · exact h.succ e p
/-- one more level -/
theorem BJ.step {w : World} {n : Nat} {gens : List (List Int)} {base : List Int} {i : Nat} {ga : Option Addr} {gc : Nat} {gs : List SD} {im : List Nat} {group : List (List Int)} {c : CH} {ls : List Lv} {w1 w2 w3 w4 : World} (hJ : BJ w n gens base i ga gc gs im group c ls w1)
    {h : LH} {l : Lv} {pt : Nat} (hE2 : Ex w1 w2) (ok : LvOK n l) (hpt : l.pt = pt) (hg : l.gens = group) (hd : ∀ a, l.done.getD a 0 = 0) (hF : ∀ q, q ∈ h.F → w1.heap.size ≤ q) (_hI : ∀ q, q ∈ h.im → q ∈ im ∨ w1.heap.size ≤ q)
    {va' : Option Addr} {vc' st' : Nat} {m' : List (Int × Value)} (f3 : Fr c.own w2 w3) (hva : va' = c.va ∨ ∀ ad, va' = some ad → w2.heap.size ≤ ad.block)
    (hC4 : ChAt w4 n { c with va := va', vc := vc', m := m', hs := fun j => if j = i then h else c.hs j, st := st' } (ls ++ [l])) (f4 : Fr (One c.cb) w3 w4)
    {ga' : Option Addr} {gc' : Nat} {gs' : List SD} {im' : List Nat} {group' : List (List Int)} (hgs : GsAt w4 n ga' gc' gs' im' group') (himf : ∀ q, q ∈ im' → ¬ CH.foot { c with va := va', vc := vc', m := m', hs := fun j => if j = i then h else c.hs j, st := st' } (ls ++ [l]).length q)
    (hgl : group'.length ≤ group.length ∨ group'.length ≤ 2) (hg' : ∀ g ∈ group', Gen n l.gens g ∧ ap g l.pt = l.pt ∧ g ≠ idList n) (hpts : i < base.length → (pt : Int) = base.getD i 0) (htwo : base.length ≤ i → ∃ g ∈ group, ap g pt ≠ pt) :
    BJ w n gens base (i + 1) ga' gc' gs' im' group' { c with va := va', vc := vc', m := m', hs := fun j => if j = i then h else c.hs j, st := st' } (ls ++ [l]) w4 ∧ prodL (ls ++ [l]) = prodL ls * l.orb.length ∧ (base.length ≤ i → 2 ≤ l.orb.length) := by
  have hgl2 : group'.length ≤ gens.length + 2 := by clear htwo; have := hJ.gl; omega
  have hlen := hJ.len
  have s1 := hJ.ex.size
  have s2 := hE2.size
  have s3 := f3.size
  have hown : ∀ q, c.own q → w.heap.size ≤ q := fun q hq => hJ.foot q (.inl hq)
  have grp := ok.grp
  have hsn := links_snoc hJ.links ok hd (fun z hz => ⟨fun g hg0 => (hJ.last z hz).1 g (by rw [← hg]; exact hg0), (hJ.last z hz).2⟩)
  have hgd : ∀ j, (ls ++ [l]).getD j lv0 = if j < ls.length then ls.getD j lv0 else if j = ls.length then l else lv0 := fun j => by
    by_cases h1 : j < ls.length
    · rw [if_pos h1, getD_pre h1]
    · rw [if_neg h1]
      by_cases h2 : j = ls.length
      · subst h2; rw [if_pos rfl]; simp
      · rw [if_neg h2, List.getD_eq_getElem?_getD, List.getElem?_eq_none (by simp; omega)]; rfl
  have h2orb : base.length ≤ i → 2 ≤ l.orb.length := fun hb => by
    obtain ⟨g, hgm, hgp⟩ := htwo hb
    have hm : ap g l.pt ∈ l.orb := (ok.mem' _).2 ⟨g, gen_self ok.gens (by rw [hg]; exact hgm), rfl⟩
    exact nodup_le (l := [ap g l.pt, l.pt]) (m := l.orb) (by simp [hpt, hgp]) (by simp [hm, ok.pt_mem])
  clear htwo
  refine ⟨⟨hC4, by simp [hlen], hgs, ?_, fun q hq => ?_, himf, hsn.1, fun g hg0 => grp.perm _ (hg' g hg0).1, fun g hg0 => (hg' g hg0).2.2, hgl2, fun j hj => ?_, fun j hb hj => ?_, fun j hb hj => ?_, fun e => absurd e (by omega), fun _ p => ?_, fun z hz => ?_, ?_⟩, hsn.2, h2orb⟩
  · refine Fr.ex (Fr.ex (hJ.ex.trans hE2) f3 hown) f4 (fun q hq => ?_)
    have hq : q = c.cb := hq
    subst hq; exact hown _ (.inl rfl)
  · rcases hq with (hq | hq | ⟨ad, h1, h2⟩) | ⟨j, hj, hq⟩
    · exact hown q (.inl hq)
    · exact hown q (.inr (.inl hq))
    · simp only at h1
      rcases hva with e | e
      · rw [e] at h1; exact hown q (.inr (.inr ⟨ad, h1, h2⟩))
      · have := e ad h1; omega
    · simp only at hq
      rw [List.length_append, List.length_singleton] at hj
      by_cases e : j = i
      · rw [if_pos e] at hq; have := hF q hq; omega
      · rw [if_neg e] at hq; exact hJ.foot q (.inr ⟨j, by omega, hq⟩)
  · rw [List.length_append, List.length_singleton] at hj
    rw [hgd]
    by_cases h1 : j < ls.length
    · rw [if_pos h1]; exact hJ.lgl j h1
    · rw [if_neg h1, if_pos (by omega), hg]; exact hJ.gl
  · rw [List.length_append, List.length_singleton] at hj
    rw [hgd]
    by_cases h1 : j < ls.length
    · rw [if_pos h1]; exact hJ.pts j hb h1
    · rw [if_neg h1, if_pos (by omega), hpt]
      obtain rfl : j = i := by omega
      exact hpts hb
  · rw [List.length_append, List.length_singleton] at hj
    rw [hgd]
    by_cases h1 : j < ls.length
    · rw [if_pos h1]; exact hJ.two j hb h1
    · rw [if_neg h1, if_pos (by omega)]; exact h2orb (by omega)
  · rcases Nat.eq_zero_or_pos i with e | e
    · have hl : ls = [] := List.eq_nil_of_length_eq_zero (by omega)
      subst hl
      rw [← hJ.zero e p, ← hg]; exact Iff.rfl
    · rw [← hJ.succ e p]
      cases ls with
      | nil => simp at hlen; omega
      | cons z zs => exact Iff.rfl
  · rw [List.length_append, List.length_singleton, Nat.add_sub_cancel] at hz
    rw [List.getElem?_append_right (Nat.le_refl _), Nat.sub_self] at hz
    simp only [List.getElem?_cons_zero, Option.some.injEq] at hz
    subst hz
    exact ⟨fun g hg0 => ⟨(hg' g hg0).1, (hg' g hg0).2.1⟩, hd⟩
  · rw [List.length_append, List.length_singleton, hsn.2]
    have h0 := hJ.ll
    have hp := prodL_pos hJ.links
    have ho := ok.pos
    by_cases hb : base.length ≤ i
    · have h2 := h2orb hb
      have h3 : prodL ls * 2 ≤ prodL ls * l.orb.length := Nat.mul_le_mul_left _ h2
      omega
    · have h3 : prodL ls * 1 ≤ prodL ls * l.orb.length := Nat.mul_le_mul_left _ ho
      omega
end Go.Proofs.YthhfjagnmhhapaaGreat

