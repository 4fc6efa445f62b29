
import Derived.Test.YthhfjagnmhhapaaGreatE01
import Derived.Test.YthhfjagnmhhapaaGreatE02
import Derived.Test.YthhfjagnmhhapaaGreatE03
import Derived.Test.YthhfjagnmhhapaaGreatE04
import Derived.Test.YthhfjagnmhhapaaGreatE05
import Derived.Test.YthhfjagnmhhapaaGreatE06
import Derived.Test.YthhfjagnmhhapaaGreatE07
import Derived.Test.YthhfjagnmhhapaaGreatE08
import Derived.Test.YthhfjagnmhhapaaGreatE11

namespace Go.Proofs.YthhfjagnmhhapaaGreat
open Go.W Go.PM
theorem chContains_spec {w : World} {n N0 : Nat} {G : List Int → Prop} {base : List Int} {c : CH} {ls : List Lv} {p : List Int} {a : Option Addr} {cap : Nat} (hn11 : n ≤ 11) (hC : ChAt w n c ls) (hG : Gd n G base N0 ls) (hN : N0 ≤ 1000000) (hF : Full n ls) (pp : PermN n p) (hp : Sl w a (intsL p)) :
    CallsR Tryz.prog 60 #[.pointer (some ⟨c.cb, 0, none⟩), .slice a n cap] w fun v w' => Ex w w' ∧ ∃ t : Bool, v = .bool t ∧ (t = true ↔ G p) := by
  refine callsR_of (args := [_, _]) Tryz.func60 rfl rfl ?_
  have n1 := pp.n1
  have hpl := prod_le hG.links hn11
  have hll := hG.ll
  repeat' (first | (refine k_pure rfl ?_) | (refine then_normal ?_) | (refine cw_seq ?_) | (refine cw_region rfl ?_) | (refine rr_nil ?_))
  refine k_call (toPerm_spec (xs := p) hp cap (fun k hk => by have := pp.1.lt hk; have := pp.2; omega) (by rw [pp.2]; omega)) (by rw [pp.2]; rfl) ?_
  rintro v w1 ⟨g, rfl, hg, hb1, hE1⟩
  refine ⟨fun _ _ => trivial, ?_⟩
  rw [pp.2]
  have hC1 := hC.ext hE1
  have hfr := hC.fresh hg
  repeat' (first | (refine k_pure rfl ?_) | (refine then_normal ?_) | (refine cw_seq ?_) | (refine cw_region rfl ?_) | (refine rr_nil ?_))
  refine k_call (csift_spec (first := 0) (cap := n) hC1 (fun j _ hj => hG.ok hj) (Nat.zero_le _) pp (hb1.own (by simp [pp.2]) (by unfold maxLen; omega) (Nat.zero_le _)) hfr.1 hfr.2 (by omega)) rfl ?_
  rintro v w2 ⟨rfl, hc2, ho2⟩
  refine ⟨fun _ _ => trivial, ?_⟩
  rw [List.drop_zero] at ho2
  have pr := (sift_spec hG.links pp).1
  repeat' (first | (refine k_pure rfl ?_) | (refine then_normal ?_) | (refine cw_seq ?_) | (refine cw_region rfl ?_) | (refine rr_nil ?_))
  refine k_call (moved_spec (xs := (siftL ls p).1) ho2.sl n (fun k hk => by have := pr.1.lt hk; have := pr.2; omega) (by rw [pr.2]; omega)) (by rw [pr.2]; rfl) ?_
  rintro v w3 ⟨mv, rfl, hmv, hE3⟩
  refine ⟨fun _ _ => trivial, ?_⟩
  repeat' (first | (refine k_pure rfl ?_) | (refine then_normal ?_) | (refine rr_nil ?_) | (refine cw_ret ?_))
  refine ret1 rfl (rt rfl) ⟨(hE1.chg hc2 hg).trans hE3, _, rfl, ?_⟩
  rw [decide_eq_true_eq, hmv.neg, pr.2, sift_iff hG.links hF pp]
  exact hG.grp p
def errC (n : Int) (gens : List (List Int)) (p : List Int) : Int := if errS n gens = 0 then (if permsB n [p] then 0 else 3) else errS n gens
theorem sContains_spec {n : Int} {gens : List (List Int)} {p : List Int} {a b : Option Addr} {sds : List SD} {cap bc : Nat} {w : World} (hL : Lists w .i64 a sds gens) (hl : gens.length ≤ 1000000) (h11 : errS n gens = 0 → n ≤ 11) (hp : Sl w b (intsL p)) :
    CallsR Tryz.prog 33 #[.int .i64 n, .slice a gens.length cap, .slice b p.length bc] w fun v w' => Ex w w' ∧ ∃ t : Bool, v = .tuple #[.bool t, .int .i64 (errC n gens p)] ∧ (t = true ↔ errC n gens p = 0 ∧ Gen n.toNat gens p) := by
  refine callsR_of (args := [_, _, _]) Tryz.func33 rfl rfl ?_
  repeat' (first | (refine k_pure rfl ?_) | (refine then_normal ?_) | (refine cw_seq ?_) | (refine cw_region rfl ?_) | (refine rr_nil ?_))
  refine k_call (chkS_spec hL hl) rfl ?_
  rintro v w2 ⟨rfl, hE2⟩
  refine ⟨fun _ _ => trivial, ?_⟩
  repeat' (first | (refine k_pure rfl ?_) | (refine then_normal ?_) | (refine cw_seq ?_) | (refine cw_region rfl ?_) | (refine rr_nil ?_) | (refine cw_cond_dec rfl (fun hc => ?_) (fun hc => ?_)) | (refine cw_ret ?_) | (refine then_ret ?_) | (refine cw_skip ?_))
  · refine ret2 rfl (rt rfl) (rt rfl) ⟨hE2, false, ?_, ?_⟩
    · rw [errC, if_neg hc]; rfl
    · rw [errC, if_neg hc]
      constructor
      · intro h; cases h
      · rintro ⟨h, _⟩; exact absurd h hc
  · have h0 : errS n gens = 0 := by omega
    obtain ⟨m, rfl, hm1, hm2, hgl, hgn⟩ := errS_zero h0
    have hm11 : m ≤ 11 := by have := h11 h0; omega
    refine k_lit1 (v := .slice b p.length bc) rfl rfl (fun g w3 hn3 => ⟨fun _ _ => trivial, ?_⟩)
    have hLs : Lists w3 .i64 (some ⟨g, 0, none⟩) [⟨b, p.length, bc⟩] [p] := Lists.of hn3.blk.sl ⟨⟨(hp.ext hE2).ext hn3.ex, rfl⟩, trivial⟩
    refine k_call (perms_spec (cap := 1) hLs (by simp)) rfl ?_
    rintro v w4 ⟨rfl, hE4⟩
    refine ⟨fun _ _ => trivial, ?_⟩
    have hEw4 := (hE2.trans hn3.ex).trans hE4
    cases hb : permsB (m : Int) [p] with
    | false =>
      repeat' (first | (refine k_pure rfl ?_) | (refine then_normal ?_) | (refine cw_seq ?_) | (refine cw_region rfl ?_) | (refine rr_nil ?_) | (refine cw_cond_true rfl ?_) | (refine cw_ret ?_) | (refine then_ret ?_))
      have he : errC (m : Int) gens p = 3 := by rw [errC, if_pos h0, hb]; rfl
      refine ret2 rfl (rt rfl) (rt rfl) ⟨hEw4, false, by rw [he]; rfl, ?_⟩
      rw [he]
      constructor
      · intro h; cases h
      · rintro ⟨h, _⟩; cases h
    | true =>
      have pp : PermN m p := permsB_iff.1 hb p (by simp)
      have he : errC (m : Int) gens p = 0 := by rw [errC, if_pos h0, if_pos hb]
      repeat' (first | (refine k_pure rfl ?_) | (refine then_normal ?_) | (refine cw_seq ?_) | (refine cw_region rfl ?_) | (refine rr_nil ?_) | (refine cw_cond_false rfl ?_) | (refine cw_skip ?_))
      refine k_call (chBuild_spec (base := []) (b := none) (bc := 0) ⟨hm1, hm2⟩ hm11 hgn (hL.ext hEw4) (by omega) (Sl.nil _ _) (by simp) (fun i hi => absurd hi (by simp))) rfl ?_
      rintro v w5 ⟨hE5, c, ls, rfl, hC, hG, hF⟩
      refine ⟨fun _ _ => trivial, ?_⟩
      repeat' (first | (refine k_pure rfl ?_))
      refine k_call (chContains_spec (p := p) (a := b) (cap := bc) hm11 hC hG (by simp; omega) hF pp (hp.ext (hEw4.trans hE5))) (by rw [pp.2]; rfl) ?_
      rintro v w6 ⟨hE6, t, rfl, ht⟩
      refine ⟨fun _ _ => trivial, ?_⟩
      repeat' (first | (refine k_pure rfl ?_) | (refine then_normal ?_) | (refine rr_nil ?_) | (refine cw_ret ?_))
      refine ret2 rfl (rt rfl) (rt rfl) ⟨(hEw4.trans hE5).trans hE6, t, by rw [he]; rfl, ?_⟩
      rw [he, Int.toNat_natCast, ht]
      exact ⟨fun h => ⟨rfl, h⟩, fun h => h.2⟩
end Go.Proofs.YthhfjagnmhhapaaGreat

namespace Go.PM
/-- the elements that fix the points of a list -/
def PStab (H : List Int → Prop) (pts : List Int) (p : List Int) : Prop := H p ∧ ∀ x ∈ pts, ap p x = x
def OrbLen (H : List Int → Prop) (x : Int) (k : Nat) : Prop := ∃ orb : List Int, orb.Nodup ∧ (∀ y, y ∈ orb ↔ ∃ p, H p ∧ ap p x = y) ∧ orb.length = k
theorem OrbLen.unique {H : List Int → Prop} {x : Int} {k k' : Nat} (h : OrbLen H x k) (h' : OrbLen H x k') : k = k' := by
  obtain ⟨o, h1, h2, rfl⟩ := h
  obtain ⟨o', h1', h2', rfl⟩ := h'
  exact Nat.le_antisymm (nodup_le h1 fun y hy => (h2' y).2 ((h2 y).1 hy)) (nodup_le h1' fun y hy => (h2 y).2 ((h2' y).1 hy))
theorem full_stab {n : Nat} (d0 : Lv) : ∀ (i : Nat) (ls : List Lv), i ≤ ls.length → Links n ls → Full n ls → ∀ p, grpOf n (ls.drop i) p ↔ grpOf n ls p ∧ ∀ j, j < i → ap p (ls.getD j d0).pt = (ls.getD j d0).pt
  | 0, ls, _, _, _, p => ⟨fun h => ⟨h, fun j hj => absurd hj (by omega)⟩, fun h => h.1⟩
  | i + 1, [], h, _, _, _ => absurd h (by simp)
  | i + 1, l :: ls, h, hL, hF, p => by
    rw [List.drop_succ_cons, full_stab d0 i ls (by simpa using h) hL.tail hF.2 p]
    constructor
    · rintro ⟨h1, h2⟩
      have h3 := hL.2.1 p h1
      refine ⟨h3.1, fun j hj => ?_⟩
      cases j with
      | zero => exact h3.2
      | succ j => simpa using h2 j (by omega)
    · rintro ⟨h1, h2⟩
      refine ⟨hF.1 p h1 (by simpa using h2 0 (by omega)), fun j hj => ?_⟩
      simpa using h2 (j + 1) (by omega)
end Go.PM
namespace Go.Proofs.YthhfjagnmhhapaaGreat
open Go.W Go.PM
theorem Gd.orbLen {n : Nat} {G : List Int → Prop} {base : List Int} {N0 : Nat} {ls : List Lv} (h : Gd n G base N0 ls) (hF : Full n ls) {i : Nat} (hi : i < base.length) : OrbLen (PStab G (base.take i)) (base.getD i 0) (ls.getD i lv0).orb.length := by
  have hil : i < ls.length := by have := h.bl; omega
  have ok := h.ok hil
  refine ⟨(ls.getD i lv0).orb, ok.nd, fun y => ?_, rfl⟩
  rw [ok.mem' y, h.pts i hi]
  have key : ∀ p, Gen n (ls.getD i lv0).gens p ↔ PStab G (base.take i) p := fun p => by
    have h1 := full_stab lv0 i ls (by omega) h.links hF p
    rw [drop_cons hil] at h1
    have h1' : Gen n (ls.getD i lv0).gens p ↔ grpOf n ls p ∧ ∀ j, j < i → ap p (ls.getD j lv0).pt = (ls.getD j lv0).pt := h1
    rw [h1', h.grp p]
    constructor
    · rintro ⟨a, b⟩
      refine ⟨a, fun x hx => ?_⟩
      obtain ⟨j, hj, e⟩ := List.getElem_of_mem hx
      rw [List.length_take] at hj
      have := b j (by omega)
      rw [h.pts j (by omega), List.getD_eq_getElem?_getD, List.getElem?_eq_getElem (by omega)] at this
      rw [List.getElem_take] at e
      rw [← e]; exact this
    · rintro ⟨a, b⟩
      refine ⟨a, fun j hj => ?_⟩
      rw [h.pts j (by omega)]
      refine b _ ?_
      rw [List.getD_eq_getElem?_getD, List.getElem?_eq_getElem (by omega)]
      exact List.mem_take_iff_getElem.2 ⟨j, by omega, rfl⟩
  exact ⟨fun ⟨p, a, b⟩ => ⟨p, (key p).1 a, b⟩, fun ⟨p, a, b⟩ => ⟨p, (key p).2 a, b⟩⟩
end Go.Proofs.YthhfjagnmhhapaaGreat

namespace Go.Proofs.YthhfjagnmhhapaaGreat
open Go.W Go.PM
theorem diff_spec {n : Nat} {l : List Int} {a : Option Addr} {cap : Nat} {w : World} (hl : Sl w a (intsL l)) (hn : n ≤ 512) (hll : l.length ≤ 1000000) :
    CallsR Tryz.prog 59 #[.int .i64 (n : Int), .slice a l.length cap] w fun v w' => v = .bool (decide (Dist n l)) ∧ Ex w w' := by
  refine callsR_of (args := [_, _]) Tryz.func59 rfl rfl ?_
  repeat' (first | (refine k_makeB rfl rfl (by omega) (by omega) (fun g w1 hn1 => ⟨fun _ _ => trivial, ?_⟩)) | (refine k_pure rfl ?_) | (refine then_normal ?_) | (refine cw_seq ?_) | (refine cw_region rfl ?_) | (refine rr_nil ?_) | (refine k_len rfl ?_) | (refine cw_block ?_))
  have z1 := hn1.lo
  refine cw_loop (ι := Nat × List Bool) [4, 7, 12, 13, 14, 15, 16, 17, 18, 19, 20, 21, 22, 23, 24, 25, 26, 27, 28, 29, 30, 31, 32] (fun s => [(12, .int .i64 (s.1 : Int))]) (fun s w' => s.1 ≤ l.length ∧ Ex w w' ∧ Blk w' g 4 (s.2.map Value.bool) ∧ s.2.length = n ∧ Dist n (l.take s.1) ∧ ∀ y : Nat, y < n → (s.2.getD y false = true ↔ (y : Int) ∈ l.take s.1)) (fun s => l.length - s.1)
    (0, List.replicate n false) ⟨rfl, trivial⟩ ⟨Nat.zero_le _, hn1.ex, hn1.blk, by simp, ⟨by simp, by simp⟩, fun y hy => by simp only; rw [List.getD_eq_getElem?_getD, List.getElem?_replicate, if_pos hy]; simp⟩ ?_
  rintro ⟨k, sn⟩ ξ w2 ⟨hk, hE2, hb2, hsl, hD, hsn⟩
  simp only at hk hb2 hsl hD hsn
  show CW _ _ _ _ (over [(12, .int .i64 (k : Int))] _) w2
  have hl2 := hl.ext hE2
  have hno : k < l.length → (l.getD k 0 < 0 ∨ (n : Int) ≤ l.getD k 0 ∨ l.getD k 0 ∈ l.take k) → ¬ Dist n l := fun hkl h hd => by
    have hd' := dist_iff.1 hd
    rcases h with h | h | h
    · have := (hd'.1 k hkl).1; omega
    · have := (hd'.1 k hkl).2; omega
    · obtain ⟨j, hj, e⟩ := List.getElem_of_mem h
      rw [List.length_take] at hj
      rw [List.getElem_take] at e
      refine hd'.2 j k (by omega) hkl ?_
      rw [← e, List.getD_eq_getElem?_getD, List.getElem?_eq_getElem (by omega)]; rfl
  obtain ⟨y, hy⟩ : ∃ y : Nat, 0 ≤ l.getD k 0 → l.getD k 0 = (y : Int) := ⟨(l.getD k 0).toNat, fun h => by omega⟩
  obtain ⟨sy, hsy⟩ : ∃ t, sn.getD y false = t := ⟨_, rfl⟩
  cases sy with
  | true =>
    repeat' (first | (refine k_indexN (j := k) rfl rfl (hl2.plain (by simp; omega)) (by omega) ?_) | (refine k_loadI (j := k) rfl hl2 (by omega) ?_) | (refine k_indexN (j := y) rfl (congrArg _ (hy (by omega))) ⟨_, _, rfl⟩ (by have := hy (by omega); omega) ?_) | (refine k_loadBv (j := y) rfl hb2.sl (by have := hy (by omega); omega) hsy ?_) | (refine k_pure rfl ?_) | (refine then_normal ?_) | (refine cw_seq ?_) | (refine cw_region rfl ?_) | (refine rr_nil ?_) | (refine g_run rfl rfl ?_) | (refine g_skip rfl rfl ?_) | (refine g_dec_f rfl rfl (fun hc => ?_) (fun hc => ?_)) | (refine cw_cond_true rfl ?_) | (refine cw_cond_dec rfl (fun hc => ?_) (fun hc => ?_)) | (refine cw_block ?_) | (refine cw_exit ?_) | (refine then_exit ?_) | (refine in_exit ?_) | (refine cw_ret ?_) | (refine then_ret ?_) | (refine in_ret ?_) | (refine cw_skip ?_))
    · have hkl : k < l.length := by omega
      have hyy := hy (by omega)
      have hm := (hsn y (by omega)).1 hsy
      refine ret1 rfl (rt rfl) ⟨?_, hE2⟩
      rw [decide_eq_false (hno hkl (.inr (.inr (by rw [hyy]; exact hm))))]; rfl
    · have hkl : k < l.length := by omega
      refine ret1 rfl (rt rfl) ⟨?_, hE2⟩
      rw [decide_eq_false (hno hkl (.inr (.inl (by omega))))]; rfl
    · have hkl : k < l.length := by omega
      refine ret1 rfl (rt rfl) ⟨?_, hE2⟩
      rw [decide_eq_false (hno hkl (.inl (by omega)))]; rfl
    · obtain rfl : k = l.length := by omega
      rw [List.take_length] at hD
      exact ret1 rfl (rt rfl) ⟨by rw [decide_eq_true hD]; rfl, hE2⟩
  | false =>
    repeat' (first | (refine k_indexN (j := k) rfl rfl (hl2.plain (by simp; omega)) (by omega) ?_) | (refine k_loadI (j := k) rfl hl2 (by omega) ?_) | (refine k_indexN (j := y) rfl (congrArg _ (hy (by omega))) ⟨_, _, rfl⟩ (by have := hy (by omega); omega) ?_) | (refine k_loadBv (j := y) rfl hb2.sl (by have := hy (by omega); omega) hsy ?_) | (refine k_pure rfl ?_) | (refine then_normal ?_) | (refine cw_seq ?_) | (refine cw_region rfl ?_) | (refine rr_nil ?_) | (refine g_run rfl rfl ?_) | (refine g_skip rfl rfl ?_) | (refine g_dec_f rfl rfl (fun hc => ?_) (fun hc => ?_)) | (refine cw_cond_true rfl ?_) | (refine cw_cond_false rfl ?_) | (refine cw_cond_dec rfl (fun hc => ?_) (fun hc => ?_)) | (refine cw_block ?_) | (refine cw_exit ?_) | (refine then_exit ?_) | (refine in_exit ?_) | (refine cw_ret ?_) | (refine then_ret ?_) | (refine in_ret ?_) | (refine cw_skip ?_))
    · have hkl : k < l.length := by omega
      have hyy := hy (by omega)
      have hyn : y < n := by omega
      have hm : (y : Int) ∉ l.take k := fun h => by have := (hsn y hyn).2 h; rw [hsy] at this; cases this
      repeat' (first | (refine k_storeB (j := y) rfl rfl hb2 (by omega) (fun w3 hc3 hb3 => ⟨fun _ _ => trivial, ?_⟩)) | (refine k_pure rfl ?_) | (refine then_normal ?_) | (refine cw_region rfl ?_) | (refine rr_nil ?_) | (refine k_addI rfl rfl (by omega) (by omega) ?_) | (refine in_normal ?_))
      have htk : l.take (k + 1) = l.take k ++ [(y : Int)] := by rw [take_succ_getD l 0 hkl, hyy]
      refine ⟨⟨(k + 1, sn.set y true), ⟨by simp only; omega, hE2.chg hc3 z1, hb3, by simp [hsl], ?_, fun z hz => ?_⟩, by simp only; omega, rfl, trivial⟩, (by (repeat (first | exact agree_mask _ _ _ | refine agree_upd rfl ?_ | refine agree_updO rfl ?_ | refine agree_overIn rfl ?_ | refine agree_maskIn rfl ?_)))⟩
      · show Dist n (l.take (k + 1))
        rw [htk]
        refine ⟨fun x hx => ?_, ?_⟩
        · rcases List.mem_append.1 hx with hx | hx
          · exact hD.1 x hx
          · rw [List.mem_singleton] at hx; subst hx; omega
        · rw [List.nodup_append]
          refine ⟨hD.2, by simp, fun u hu v hv => ?_⟩
          rw [List.mem_singleton] at hv; subst hv
          rintro rfl; exact hm hu
      · show (sn.set y true).getD z false = true ↔ (z : Int) ∈ l.take (k + 1)
        rw [getD_set' (by omega), htk, List.mem_append, List.mem_singleton]
        by_cases e : z = y
        · subst e; simp
        · rw [if_neg e, hsn z hz]
          exact ⟨.inl, fun h => h.elim id (fun h => absurd h (by omega))⟩
    · have hkl : k < l.length := by omega
      refine ret1 rfl (rt rfl) ⟨?_, hE2⟩
      rw [decide_eq_false (hno hkl (.inr (.inl (by omega))))]; rfl
    · have hkl : k < l.length := by omega
      refine ret1 rfl (rt rfl) ⟨?_, hE2⟩
      rw [decide_eq_false (hno hkl (.inl (by omega)))]; rfl
    · obtain rfl : k = l.length := by omega
      rw [List.take_length] at hD
      exact ret1 rfl (rt rfl) ⟨by rw [decide_eq_true hD]; rfl, hE2⟩
end Go.Proofs.YthhfjagnmhhapaaGreat

namespace Go.Proofs.YthhfjagnmhhapaaGreat
open Go.W Go.PM
def errL (n : Int) (gens : List (List Int)) (base : List Int) : Int := if errS n gens = 0 then (if Dist n.toNat base then 0 else 1) else errS n gens
def LenOK (n : Nat) (gens : List (List Int)) (base : List Int) (k : Nat) (L : List Int) : Prop := L.length = base.length ∧ ∀ i, i < k → ∃ m : Nat, L.getD i 0 = (m : Int) ∧ OrbLen (PStab (Gen n gens) (base.take i)) (base.getD i 0) m
theorem sLengths_spec {n : Int} {gens : List (List Int)} {base : List Int} {a b : Option Addr} {sds : List SD} {cap bc : Nat} {w : World} (hL : Lists w .i64 a sds gens) (hl : gens.length ≤ 1000000) (h11 : errS n gens = 0 → n ≤ 11) (hb : Sl w b (intsL base)) (hbl : base.length ≤ 1000) :
    CallsR Tryz.prog 32 #[.int .i64 n, .slice a gens.length cap, .slice b base.length bc] w fun v w' => Ex w w' ∧ ∃ (r : Option Addr) (c : Nat) (L : List Int), v = .tuple #[.slice r L.length c, .int .i64 (errL n gens base)] ∧ Own w' w.heap.size 3 1 r L.length c (intsL L) ∧
      (errL n gens base ≠ 0 → L = []) ∧ (errL n gens base = 0 → LenOK n.toNat gens base base.length L) := by
  refine callsR_of (args := [_, _, _]) Tryz.func32 rfl rfl ?_
  repeat' (first | (refine k_pure rfl ?_) | (refine then_normal ?_) | (refine cw_seq ?_) | (refine cw_region rfl ?_) | (refine rr_nil ?_))
  refine k_call (chkS_spec hL hl) rfl ?_
  rintro v w2 ⟨rfl, hE2⟩
  refine ⟨fun _ _ => trivial, ?_⟩
  repeat' (first | (refine k_pure rfl ?_) | (refine then_normal ?_) | (refine cw_seq ?_) | (refine cw_region rfl ?_) | (refine rr_nil ?_) | (refine cw_cond_dec rfl (fun hc => ?_) (fun hc => ?_)) | (refine cw_ret ?_) | (refine then_ret ?_) | (refine cw_skip ?_))
  · refine ret2 rfl (rt rfl) (rt rfl) ⟨hE2, none, 0, [], ?_, Own.nil _ _ _ _, fun _ => rfl, fun h => ?_⟩
    · rw [errL, if_neg hc]; rfl
    · rw [errL, if_neg hc] at h; exact absurd h hc
  · have h0 : errS n gens = 0 := by omega
    obtain ⟨m, rfl, hm1, hm2, hgl, hgn⟩ := errS_zero h0
    have hm11 : m ≤ 11 := by have := h11 h0; omega
    refine k_call (diff_spec (n := m) (hb.ext hE2) hm2 (by omega)) rfl ?_
    rintro v w3 ⟨rfl, hE3⟩
    refine ⟨fun _ _ => trivial, ?_⟩
    have hEw3 := hE2.trans hE3
    by_cases hD : Dist m base
    · rw [decide_eq_true hD]
      have he : errL (m : Int) gens base = 0 := by rw [errL, if_pos h0, Int.toNat_natCast, if_pos hD]
      have hdr := (dist_iff.1 hD).1
      repeat' (first | (refine k_pure rfl ?_) | (refine then_normal ?_) | (refine cw_seq ?_) | (refine cw_region rfl ?_) | (refine rr_nil ?_) | (refine cw_cond_false rfl ?_) | (refine cw_skip ?_))
      refine k_call (chBuild_spec (base := base) ⟨hm1, hm2⟩ hm11 hgn (hL.ext hEw3) (by omega) (hb.ext hEw3) hbl hdr) rfl ?_
      rintro v w4 ⟨hE4, c, ls, rfl, hC, hG, hF⟩
      refine ⟨fun _ _ => trivial, ?_⟩
      have hEw4 := hEw3.trans hE4
      have hbll := hG.bl
      repeat' (first | (refine k_makeI rfl rfl (by omega) (by omega) (fun g w5 hn5 => ⟨fun _ _ => trivial, ?_⟩)) | (refine k_pure rfl ?_) | (refine then_normal ?_) | (refine cw_seq ?_) | (refine cw_region rfl ?_) | (refine rr_nil ?_) | (refine k_len rfl ?_) | (refine cw_block ?_))
      have z4 := hEw4.size
      have z5 := hn5.lo
      refine cw_loop (ι := Nat × List Int) [11, 31, 32, 33, 34, 35, 36, 37, 38, 39, 40, 41, 42, 43, 44, 45, 46, 47] (fun s => [(31, .int .i64 (s.1 : Int))]) (fun s w' => s.1 ≤ base.length ∧ Ex w4 w' ∧ Blk w' g 3 (intsL s.2) ∧ LenOK m gens base s.1 s.2) (fun s => base.length - s.1)
        (0, List.replicate base.length 0) ⟨rfl, trivial⟩ ⟨Nat.zero_le _, hn5.ex, hn5.blk, by simp, fun i hi => absurd hi (by simp)⟩ ?_
      rintro ⟨i, L⟩ ξ w6 ⟨hi, hE6, hb6, hLk⟩
      simp only at hi hb6 hLk
      show CW _ _ _ _ (over [(31, .int .i64 (i : Int))] _) w6
      have hLl := hLk.1
      repeat' (first | (refine k_pure rfl ?_) | (refine then_normal ?_) | (refine cw_seq ?_) | (refine cw_region rfl ?_) | (refine rr_nil ?_) | (refine k_fieldAddr rfl ?_) | (refine cw_cond_dec rfl (fun hc => ?_) (fun hc => ?_)) | (refine cw_block ?_) | (refine cw_exit ?_) | (refine then_exit ?_) | (refine in_exit ?_) | (refine cw_ret ?_) | (refine cw_skip ?_))
      · have hil : i < base.length := by omega
        obtain ⟨j, hj, hfd, hjm⟩ := hC.mok.find (show i < ls.length by omega)
        have hC6 := hC.ext hE6
        have hstr6 := hC6.str
        unfold chL at hstr6
        have hLs := (hC6.lv i (by omega)).str
        have ok := hG.ok (show i < ls.length by omega)
        have hol := ok.orb_le
        repeat' (first | (refine k_loadC (Tb := 62) rfl hstr6 rfl ?_) | (refine k_lookup mapT intT rfl rfl hC6.map hfd ?_) | (refine k_loadC (Tb := 64) rfl hLs rfl ?_) | (refine k_indexN (j := i) rfl rfl ⟨_, _, rfl⟩ hil ?_) | (refine k_storeI (j := i) rfl rfl hb6 (by omega) (fun w7 hc7 hb7 => ⟨fun _ _ => trivial, ?_⟩)) | (refine k_pure rfl ?_) | (refine then_normal ?_) | (refine cw_region rfl ?_) | (refine rr_nil ?_) | (refine k_len rfl ?_) | (refine k_addI rfl rfl (by omega) (by omega) ?_) | (refine k_fieldAddr rfl ?_) | (refine in_normal ?_))
        refine ⟨⟨(i + 1, L.set i ((ls.getD i lv0).orb.length : Int)), ⟨by simp only; omega, hE6.chg hc7 z5, hb7, by simp [hLl], fun q hq => ?_⟩, by simp only; omega, rfl, trivial⟩, (by (repeat (first | exact agree_mask _ _ _ | refine agree_upd rfl ?_ | refine agree_updO rfl ?_ | refine agree_overIn rfl ?_ | refine agree_maskIn rfl ?_)))⟩
        simp only at hq ⊢
        rw [getD_set' (by omega)]
        by_cases e : q = i
        · subst e; rw [if_pos rfl]; exact ⟨_, rfl, hG.orbLen hF hil⟩
        · rw [if_neg e]; exact hLk.2 q (by omega)
      · obtain rfl : i = base.length := by omega
        refine ret2 rfl (rt rfl) (rt rfl) ⟨hEw4.trans hE6, some ⟨g, 0, none⟩, base.length, L, by rw [he, hLl]; rfl, ?_, fun h => absurd he h, fun _ => by rw [Int.toNat_natCast]; exact hLk⟩
        rw [hLl]
        exact hb6.own (by simp [hLl]) (by unfold maxLen; omega) (by omega)
    · rw [decide_eq_false hD]
      have he : errL (m : Int) gens base = 1 := by rw [errL, if_pos h0, Int.toNat_natCast, if_neg hD]
      repeat' (first | (refine k_pure rfl ?_) | (refine then_normal ?_) | (refine cw_seq ?_) | (refine cw_region rfl ?_) | (refine rr_nil ?_) | (refine cw_cond_true rfl ?_) | (refine cw_ret ?_) | (refine then_ret ?_))
      refine ret2 rfl (rt rfl) (rt rfl) ⟨hEw3, none, 0, [], by rw [he]; rfl, Own.nil _ _ _ _, fun _ => rfl, fun h => by rw [he] at h; cases h⟩
end Go.Proofs.YthhfjagnmhhapaaGreat

namespace Go.PM
theorem Full.drop {n : Nat} : ∀ {ls : List Lv} (i : Nat), Full n ls → Full n (ls.drop i)
  | _, 0, h => h
  | [], _ + 1, h => h
  | _ :: _, i + 1, h => by rw [List.drop_succ_cons]; exact Full.drop i h.2
end Go.PM
namespace Go.Proofs.YthhfjagnmhhapaaGreat
open Go.W Go.PM
end Go.Proofs.YthhfjagnmhhapaaGreat

namespace Go.Proofs.YthhfjagnmhhapaaGreat
open Go.W Go.PM
theorem Gd.step {n N0 : Nat} {G G' : List Int → Prop} {base r : List Int} {ls ls' : List Lv} (h : Gd n G base N0 ls) (hL' : Links n ls') (hgrp : ∀ p, grpOf n ls' p ↔ G' p) (hpr : prodL ls < prodL ls') (hlen : ls.length ≤ ls'.length ∧ ls'.length ≤ ls.length + 1)
    (hcase : ∀ j, j < ls'.length → (j < ls.length ∧ LvRe n r (ls.getD j lv0) (ls'.getD j lv0)) ∨ (j < ls.length ∧ ls'.getD j lv0 = ls.getD j lv0) ∨ (j = ls.length ∧ LvNew n r (ls'.getD j lv0))) : Gd n G' base N0 ls' := by
  refine ⟨hL', hgrp, fun j hj => ?_, by have := h.ll; omega, by have := h.bl; omega, fun j hj => ?_, fun j hb hj => ?_⟩
  · rcases hcase j hj with ⟨hjl, he⟩ | ⟨hjl, he⟩ | ⟨_, he⟩
    · have := h.gl j hjl; rw [he.gens, List.length_append, List.length_singleton]; omega
    · rw [he]; have := h.gl j hjl; omega
    · rw [he.gens, List.length_singleton]; omega
  · have hjl : j < ls.length := by have := h.bl; omega
    rcases hcase j (by omega) with ⟨_, he⟩ | ⟨_, he⟩ | ⟨e, _⟩
    · rw [he.pt]; exact h.pts j hj
    · rw [he]; exact h.pts j hj
    · omega
  · rcases hcase j hj with ⟨hjl, he⟩ | ⟨hjl, he⟩ | ⟨_, he⟩
    · have := h.two j hb hjl; have := he.le (h.ok hjl); omega
    · rw [he]; exact h.two j hb hjl
    · exact he.two
theorem drop_getD {ls : List Lv} {i j : Nat} : (ls.drop i).getD j lv0 = ls.getD (i + j) lv0 := by rw [List.getD_eq_getElem?_getD, List.getElem?_drop, ← List.getD_eq_getElem?_getD]
theorem Gd.insR {n N0 i d : Nat} {G : List Int → Prop} {base r : List Int} {ls ls' : List Lv} (h : Gd n G base N0 ls) (hi : i < ls.length) (pr : PermN n r) (hg : Gen n (ls.getD i lv0).gens r) (hfx : ap r (ls.getD i lv0).pt = (ls.getD i lv0).pt)
    (hf : FixTo (ls.drop (i + 1)) d r) (ho : ∀ l, (ls.drop (i + 1))[d]? = some l → ap r l.pt ∉ l.orb) (hI : InsR n r d (ls.drop (i + 1)) (ls'.drop (i + 1))) (ht : ls'.take (i + 1) = ls.take (i + 1)) : Gd n G base N0 ls' ∧ prodL ls < prodL ls' := by
  obtain ⟨hL', hpr⟩ := insR_at i ls ls' _ (getD_some hi) h.links ht hI pr hf ho hg hfx
  have hil := insR_len hI
  have hl1 := congrArg List.length ht
  rw [List.length_take, List.length_take] at hl1
  rw [List.length_drop, List.length_drop] at hil
  have hle : ls.length ≤ ls'.length ∧ ls'.length ≤ ls.length + 1 := by
    obtain ⟨h1, h2⟩ := hil
    split at h2 <;> omega
  have hone : ls'.take 1 = ls.take 1 := by
    have := congrArg (List.take 1) ht
    rw [List.take_take, List.take_take] at this
    simpa [Nat.min_eq_left (show 1 ≤ i + 1 by omega)] using this
  refine ⟨h.step (r := r) hL' (fun p => by rw [grp_head (by omega) hone]; exact h.grp p) hpr hle fun j hj => ?_, hpr⟩
  by_cases hji : j < i + 1
  · refine .inr (.inl ⟨by omega, ?_⟩)
    have h1 : (ls'.take (i + 1)).getD j lv0 = (ls.take (i + 1)).getD j lv0 := by rw [ht]
    rw [List.getD_eq_getElem?_getD, List.getD_eq_getElem?_getD, List.getElem?_take, List.getElem?_take, if_pos hji, if_pos hji] at h1
    rw [List.getD_eq_getElem?_getD, List.getD_eq_getElem?_getD]; exact h1
  · have := insR_case (d := lv0) hI (j - (i + 1)) (by rw [List.length_drop]; omega)
    rw [drop_getD, drop_getD, List.length_drop, show i + 1 + (j - (i + 1)) = j by omega] at this
    rcases this with ⟨h1, h2⟩ | ⟨h1, h2⟩ | ⟨h1, h2⟩
    · exact .inl ⟨by omega, h2⟩
    · exact .inr (.inl ⟨by omega, h2⟩)
    · exact .inr (.inr ⟨by omega, h2⟩)
theorem Gd.ins0 {n N0 d : Nat} {G G' : List Int → Prop} {base r : List Int} {ls ls' : List Lv} (h : Gd n G base N0 ls) (hG' : Grp n G') (h1 : ∀ q, G q → G' q) (h2 : G' r) (h3 : ∀ H : List Int → Prop, Grp n H → (∀ q, G q → H q) → H r → ∀ q, G' q → H q)
    (hf : FixTo ls d r) (ho : ∀ l, ls[d]? = some l → ap r l.pt ∉ l.orb) (hI : InsR n r d ls ls') : Gd n G' base N0 ls' ∧ prodL ls < prodL ls' := by
  obtain ⟨hL', hs, hr, hm⟩ := insR_links hI h.links (hG'.perm r h2) hf
  have hpr := insR_prod hI h.links ho
  have hil := insR_len hI
  refine ⟨h.step (r := r) hL' (fun p => ⟨fun hp => hm G' hG' (fun q hq => h1 q ((h.grp q).1 hq)) h2 p hp, fun hp => h3 _ hL'.grp (fun q hq => hs q ((h.grp q).2 hq)) hr p hp⟩) hpr ?_ (insR_case (d := lv0) hI), hpr⟩
  obtain ⟨_, h5⟩ := hil
  split at h5 <;> omega
theorem take_gen {n : Nat} {gens : List (List Int)} {j : Nat} (hj : j < gens.length) (h1 : 1 ≤ n ∧ n ≤ 512) (hg : GensN n gens) {u r : List Int} (hu : Gen n (gens.take j) u) (hr : r = mulP (gens.getD j []) u) :
    (∀ q, Gen n (gens.take j) q → Gen n (gens.take (j + 1)) q) ∧ Gen n (gens.take (j + 1)) r ∧ ∀ H : List Int → Prop, Grp n H → (∀ q, Gen n (gens.take j) q → H q) → H r → ∀ q, Gen n (gens.take (j + 1)) q → H q := by
  have hsub : ∀ q, Gen n (gens.take j) q → Gen n (gens.take (j + 1)) q := fun q hq => gen_mono (fun x hx => by rw [take_succ_getD gens [] hj]; simp [hx]) hq
  have hgN : GensN n (gens.take (j + 1)) := fun q hq => hg q (List.mem_of_mem_take hq)
  have hgG := gen_grp h1 hgN
  have hgj : Gen n (gens.take (j + 1)) (gens.getD j []) := gen_self hgN (by rw [take_succ_getD gens [] hj]; simp)
  refine ⟨hsub, by rw [hr]; exact hgG.mul _ _ hgj (hsub u hu), fun H hH h2 h3 q hq => ?_⟩
  refine gen_le hH (fun x hx => ?_) hq
  rw [take_succ_getD gens [] hj, List.mem_append, List.mem_singleton] at hx
  rcases hx with hx | rfl
  · exact h2 x (gen_self (fun q hq => hg q (List.mem_of_mem_take hq)) hx)
  · have hp := hg _ (getD_mem (d := []) hj)
    have := (hH.mul_right hp (h2 u hu)).1 (by rw [← hr]; exact h3)
    exact this
theorem gen_same {n : Nat} {gens : List (List Int)} {j : Nat} (hj : j < gens.length) (h1 : 1 ≤ n ∧ n ≤ 512) (hg : GensN n gens) (hu : Gen n (gens.take j) (gens.getD j [])) (p : List Int) : Gen n (gens.take j) p ↔ Gen n (gens.take (j + 1)) p := by
  refine ⟨fun hq => gen_mono (fun x hx => by rw [take_succ_getD gens [] hj]; simp [hx]) hq, fun hq => ?_⟩
  refine gen_le (gen_grp h1 fun q hq => hg q (List.mem_of_mem_take hq)) (fun x hx => ?_) hq
  rw [take_succ_getD gens [] hj, List.mem_append, List.mem_singleton] at hx
  rcases hx with hx | rfl
  · exact gen_self (fun q hq => hg q (List.mem_of_mem_take hq)) hx
  · exact hu
theorem Gd.congr {n N0 : Nat} {G G' : List Int → Prop} {base : List Int} {ls : List Lv} (h : Gd n G base N0 ls) (he : ∀ p, G p ↔ G' p) : Gd n G' base N0 ls :=
  ⟨h.links, fun p => (h.grp p).trans (he p), h.gl, h.ll, h.bl, h.pts, h.two⟩
theorem RCh.ok {w : World} {lo n cap N0 : Nat} {a : Option Addr} {L : RC} {G : List Int → Prop} {base : List Int} (_ : RCh w lo n a cap L) (h : Gd n G base N0 (lvsOf L)) (j : Nat) (hj : j < L.length) : LvOK n (L.getD j rc0).2 := by
  rw [← lvsOf_getD]; exact h.ok (by rw [List.length_map]; exact hj)
set_option maxHeartbeats 2000000 in
theorem rchain_spec {n : Nat} {gens : List (List Int)} {base : List Int} {ga b : Option Addr} {sds : List SD} {gc bc : Nat} {w : World} (h1 : 1 ≤ n ∧ n ≤ 512) (h11 : n ≤ 11) (hg : GensN n gens) (hL : Lists w .i64 ga sds gens) (hgl : gens.length ≤ 1000) (hb : Sl w b (intsL base)) (hbl : base.length ≤ 1000)
    (hbr : ∀ i, i < base.length → 0 ≤ base.getD i 0 ∧ base.getD i 0 < n) :
    CallsR Tryz.prog 18 #[.int .i64 (n : Int), .slice ga gens.length gc, .slice b base.length bc] w fun v w' => Ex w w' ∧ ∃ (a : Option Addr) (cap : Nat) (L : RC), v = .slice a L.length cap ∧ RCh w' w.heap.size n a cap L ∧ Gd n (Gen n gens) base base.length (lvsOf L) ∧ Full n (lvsOf L) := by
  refine callsR_of (args := [_, _, _]) Tryz.func18 rfl rfl ?_
  have hlen := hL.len
  repeat' (first | (refine k_pure rfl ?_) | (refine then_normal ?_) | (refine cw_seq ?_) | (refine cw_region rfl ?_) | (refine rr_nil ?_) | (refine k_len rfl ?_) | (refine cw_block ?_))
  refine cw_loop (ι := Nat × RC × Option Addr × Nat) [7, 9, 19, 20, 21, 22, 23, 24, 25, 26, 27, 28, 29] (fun s => [(19, .int .i64 (s.1 : Int)), (7, .slice s.2.2.1 s.2.1.length s.2.2.2)])
    (fun s w' => s.1 ≤ base.length ∧ s.2.1.length = s.1 ∧ Ex w w' ∧ RCh w' w.heap.size n s.2.2.1 s.2.2.2 s.2.1 ∧ Links n (lvsOf s.2.1) ∧ ∀ j, j < s.1 → LvOK n (s.2.1.getD j rc0).2 ∧ (s.2.1.getD j rc0).2.pt = base.getD j 0 ∧ (s.2.1.getD j rc0).2.gens = [] ∧ ∀ a, (s.2.1.getD j rc0).2.done.getD a 0 = 0) (fun s => base.length - s.1)
    (0, [], none, 0) ⟨rfl, rfl, trivial⟩ ⟨Nat.zero_le _, rfl, Ex.refl _, RCh.nil _ _ _, h1, fun j hj => absurd hj (by simp)⟩ ?_
  rintro ⟨i, L, a, cap⟩ ξ w1 ⟨hi, hLl, hE1, hR, hLk, hall⟩
  simp only at hi hLl hR hLk hall
  show CW _ _ _ _ (over [(19, .int .i64 (i : Int)), (7, .slice a L.length cap)] _) w1
  have hb1 := hb.ext hE1
  by_cases hib : i < base.length
  · have hbi := hbr i hib
    repeat' (first | (refine k_lssT rfl rfl (by omega) ?_) | (refine k_indexN rfl rfl (hb1.plain (by simp; omega)) (by omega) ?_) | (refine k_loadI rfl hb1 (by omega) ?_) | (refine k_pure rfl ?_) | (refine then_normal ?_) | (refine cw_seq ?_) | (refine cw_region rfl ?_) | (refine rr_nil ?_) | (refine cw_cond_true rfl ?_) | (refine cw_block ?_) | (refine cw_skip ?_))
    refine k_call (rlevel_spec (w := w1) (gens := []) (ga := none) (gs := []) 0 h1 hbi (fun g hg => absurd hg (by simp)) (Lists.nil _ _ _) (by simp)) rfl ?_
    rintro v w3 ⟨hE3, m, ms, l, rfl, hRL, okl, hpt, hgn, hdn, hm1, hm2⟩
    refine ⟨fun _ _ => trivial, ?_⟩
    have s1 := hE1.size
    have s3 := hE3.size
    have hR3 := hR.ext hE3
    refine k_app1 (s := 3) (v := .agg ((⟨none, [], 0, ba m, ms, n⟩ : RH).cells (base.getD i 0)).toArray) rfl rfl rfl rfl rfl rfl hR3.own (by omega) (by omega) (by omega) (fun g4 a4 c4 w4 ho4 hg4 hA4 => ?_)
    repeat' (first | (refine k_pure rfl ?_) | (refine then_normal ?_) | (refine cw_region rfl ?_) | (refine rr_nil ?_) | (refine k_addI rfl rfl (by omega) (by omega) ?_) | (refine in_normal ?_))
    have hon : ∀ q, (⟨none, [], 0, ba m, ms, n⟩ : RH).on q → w1.heap.size ≤ q ∧ q < w3.heap.size := by
      rintro q (⟨ad, h1, _⟩ | ⟨k, ad, h1, _⟩ | ⟨ad, h1, h2⟩ | ⟨y, ad, h1, h2⟩)
      · cases h1
      · cases h1
      · obtain rfl := Option.some.inj h1; simp only at h2; omega
      · have := hm2 y ad h1; omega
    have hls : lvsOf (L ++ [((⟨none, [], 0, ba m, ms, n⟩ : RH), l)]) = lvsOf L ++ [l] := by simp
    refine ⟨⟨(i + 1, L ++ [((⟨none, [], 0, ba m, ms, n⟩ : RH), l)], a4, c4), ⟨by simp only; omega, by simp only; rw [List.length_append, List.length_singleton, hLl], ?_, hR3.snoc (x := (⟨none, [], 0, ba m, ms, n⟩, l)) hg4 hA4 (by simp only; rw [hpt]; exact ho4) hRL (fun q hq => ?_), ?_, fun j hj => ?_⟩, by simp only; omega, rfl, ?_, trivial⟩, (by (repeat (first | exact agree_mask _ _ _ | refine agree_upd rfl ?_ | refine agree_updO rfl ?_ | refine agree_overIn rfl ?_ | refine agree_maskIn rfl ?_)))⟩
    · exact hR3.own.grow_ex hg4 (hE1.trans hE3) (Nat.le_refl _)
    · have := hon q hq
      refine ⟨this.2, fun ad e => ?_⟩
      have := (hR.own.lo ad e).2
      omega
    · rw [hls]
      refine (links_snoc hLk okl hdn (fun z hz => ⟨fun g hg => by rw [hgn] at hg; simp at hg, ?_⟩)).1
      have hz' : (lvsOf L).getD (L.length - 1) lv0 = z := by rw [List.length_map] at hz; rw [List.getD_eq_getElem?_getD, hz]; rfl
      have hpos : 0 < L.length := by
        rcases Nat.eq_zero_or_pos L.length with h0 | h0
        · rw [List.eq_nil_of_length_eq_zero h0] at hz; simp at hz
        · exact h0
      rw [lvsOf_getD] at hz'
      rw [← hz']
      exact (hall (L.length - 1) (by omega)).2.2.2
    · simp only at hj ⊢
      rw [getD_snoc (by omega)]
      split
      · rename_i h; exact hall j (by omega)
      · obtain rfl : j = i := by omega
        exact ⟨okl, hpt, hgn, hdn⟩
    · show Value.slice a4 (L.length + 1) c4 = .slice a4 (L ++ [_]).length c4
      rw [List.length_append, List.length_singleton]
  obtain rfl : i = base.length := by omega
  have hGd0 : Gd n (Gen n (gens.take 0)) base base.length (lvsOf L) := by
    have hll : (lvsOf L).length = base.length := by rw [List.length_map, hLl]
    refine ⟨hLk, fun p => ?_, fun j hj => ?_, by omega, by omega, fun j hj => by rw [lvsOf_getD]; exact (hall j hj).2.1, fun j h5 h6 => by omega⟩
    · rw [List.take_zero, gen_nil]
      cases L with
      | nil => exact Iff.rfl
      | cons x L =>
        have := (hall 0 (by simp at hLl; omega)).2.2.1
        show Gen n x.2.gens p ↔ _
        have e : x.2.gens = [] := this
        rw [e, gen_nil]
    · rw [lvsOf_getD, (hall j (by omega)).2.2.1]; simp
  repeat' (first | (refine k_lssF rfl rfl (by omega) ?_) | (refine k_pure rfl ?_) | (refine then_normal ?_) | (refine cw_seq ?_) | (refine cw_region rfl ?_) | (refine rr_nil ?_) | (refine k_len rfl ?_) | (refine cw_cond_false rfl ?_) | (refine cw_block ?_) | (refine cw_exit ?_) | (refine then_exit ?_) | (refine in_exit ?_))
  refine cw_loop (ι := Nat × RC × Option Addr × Nat) [7, 11, 12, 13, 32, 33, 34, 35, 36, 37, 38, 39, 40, 41, 42, 43, 44, 45, 46, 47, 48, 49, 50] (fun s => [(32, .int .i64 (s.1 : Int)), (7, .slice s.2.2.1 s.2.1.length s.2.2.2)])
    (fun s w' => s.1 ≤ gens.length ∧ Ex w w' ∧ RCh w' w.heap.size n s.2.2.1 s.2.2.2 s.2.1 ∧ Gd n (Gen n (gens.take s.1)) base base.length (lvsOf s.2.1)) (fun s => gens.length - s.1)
    (0, L, a, cap) ⟨rfl, rfl, trivial⟩ ⟨Nat.zero_le _, hE1, hR, hGd0⟩ ?_
  clear hall hLk hR hE1 hb1 hLl hGd0 hib hi
  rintro ⟨j, L1, a1, cap1⟩ ξ1 w2 ⟨hj, hE2, hR2, hG2⟩
  simp only at hj hR2 hG2
  show CW _ _ _ _ (over [(32, .int .i64 (j : Int)), (7, .slice a1 L1.length cap1)] _) w2
  have hL2 := hL.ext hE2
  have hpl := prod_le hG2.links h11
  have hll2 := hG2.ll
  rw [List.length_map] at hll2
  by_cases hjg : j < gens.length
  · obtain ⟨⟨sa, sl, sc⟩, hsd⟩ : ∃ s, sds.getD j sd0 = s := ⟨_, rfl⟩
    have hgP := hg _ (getD_mem (d := []) hjg)
    obtain ⟨hsl, hsn⟩ := hL.each j hjg
    rw [hsd] at hsl hsn
    simp only at hsl hsn
    obtain rfl : sl = n := by rw [hsn]; exact hgP.2
    have hslt := hsl.lt (by rw [List.length_map, hgP.2]; omega)
    repeat' (first | (refine k_lssT rfl rfl (by omega) ?_) | (refine k_indexN rfl rfl (hL2.sl.plain (by simp; omega)) (by omega) ?_) | (refine k_loadSd rfl hL2.sl (by omega) hsd ?_) | (refine k_pure rfl ?_) | (refine then_normal ?_) | (refine cw_seq ?_) | (refine cw_region rfl ?_) | (refine rr_nil ?_) | (refine cw_cond_true rfl ?_) | (refine cw_block ?_) | (refine cw_skip ?_))
    refine k_call (rsift_spec (first := 0) (cap := cap1) (pc := sc) hR2.own.sl hR2.lv (fun k _ hk => hR2.ok hG2 k hk) (Nat.zero_le _) (by omega) hgP (hsl.ext hE2)) rfl ?_
    rintro v w3 ⟨hE3, ra, rc, rfl, hS3, hfr⟩
    refine ⟨fun _ _ => trivial, ?_⟩
    rw [List.drop_zero] at hS3 ⊢
    obtain ⟨hr1, hr2, ⟨u, hu, hru⟩, hr4, hr5⟩ := sift_spec hG2.links hgP
    have hsift := sift_grp hG2.links hgP
    generalize (siftL (lvsOf L1) (gens.getD j [])).1 = r at *
    generalize (siftL (lvsOf L1) (gens.getD j [])).2 = d at *
    rw [List.length_map] at hr2
    have hrl := hr1.2
    obtain ⟨rg, ro, rfl⟩ := hS3.plain (by simp; omega)
    repeat' (first | (refine k_pure rfl ?_) | (refine then_normal ?_) | (refine cw_seq ?_) | (refine cw_region rfl ?_) | (refine rr_nil ?_))
    refine k_call (refMoved_spec (xs := r) hS3 rc (by omega)) (by rw [hrl]; rfl) ?_
    rintro v w4 ⟨mv, rfl, hmv, hE4⟩
    refine ⟨fun _ _ => trivial, ?_⟩
    have hneg := hmv.neg
    rw [hrl] at hneg
    have hE34 := hE3.trans hE4
    have hR4 := hR2.ext hE34
    have hE24 := hE2.trans hE34
    have s2 := hE2.size
    have s3 := hE3.size
    have s4 := hE4.size
    repeat' (first | (refine k_pure rfl ?_) | (refine then_normal ?_) | (refine cw_region rfl ?_) | (refine rr_nil ?_) | (refine k_addI rfl rfl (by omega) (by omega) ?_) | (refine cw_cond_dec rfl (fun hc => ?_) (fun hc => ?_)) | (refine in_normal ?_) | (refine cw_skip ?_))
    · have hrne : r ≠ idList sl := fun e => by have := hneg.2 e; omega
      have hS4 := hS3.ext hE4
      have hrlt := hS4.lt (by rw [List.length_map, hrl]; omega) _ rfl
      simp only at hrlt
      refine k_call (rextend_spec (first := 0) (d := d) (p := r) (pa := ⟨rg, ro, none⟩) (pc := rc) hR4 hE24.size (fun k hk => hR2.ok hG2 k hk) (by omega) (by omega) (fun k hk => by have := hG2.gl k (by rw [List.length_map]; exact hk); rw [lvsOf_getD] at this; omega) hr1 hrne hS4 (fun ad e => ?_) hrlt) rfl ?_
      · have hlo := hR2.own.lo ad e
        rcases hfr with e' | hf
        · have := hslt _ e'.symm
          simp only at this ⊢
          omega
        · have := hf _ rfl
          simp only at this ⊢
          omega
      rintro v w5 ⟨a5, cap5, L5, rfl, hR5, hF5, hI5, ht5⟩
      refine ⟨fun _ _ => trivial, ?_⟩
      rw [List.drop_zero, List.drop_zero] at hI5
      have hE5 : Ex w w5 := Fr.ex hE24 hF5 (by rintro k ⟨ad, e, rfl⟩; exact (hR2.own.lo ad e).1)
      obtain ⟨g1, g2, g3⟩ := take_gen hjg h1 hg ((hG2.grp u).1 hu) hru
      have hG5 := (hG2.ins0 (gen_grp h1 fun q hq => hg q (List.mem_of_mem_take hq)) g1 g2 g3 hr4 hr5 hI5).1
      repeat' (first | (refine k_pure rfl ?_) | (refine then_normal ?_) | (refine cw_region rfl ?_) | (refine rr_nil ?_) | (refine k_addI rfl rfl (by omega) (by omega) ?_) | (refine in_normal ?_))
      refine ⟨⟨(j + 1, L5, a5, cap5), ⟨by simp only; omega, hE5, hR5, hG5⟩, by simp only; omega, rfl, rfl, trivial⟩, (by (repeat (first | exact agree_mask _ _ _ | refine agree_upd rfl ?_ | refine agree_updO rfl ?_ | refine agree_overIn rfl ?_ | refine agree_maskIn rfl ?_)))⟩
    · have hrid : r = idList sl := hneg.1 (by omega)
      have hin : Gen sl (gens.take j) (gens.getD j []) := by
        rw [← hG2.grp, ← hsift, hrid]; exact hG2.links.grp.one
      refine ⟨⟨(j + 1, L1, a1, cap1), ⟨by simp only; omega, hE24, hR4, hG2.congr (gen_same hjg h1 hg hin)⟩, by simp only; omega, rfl, rfl, trivial⟩, (by (repeat (first | exact agree_mask _ _ _ | refine agree_upd rfl ?_ | refine agree_updO rfl ?_ | refine agree_overIn rfl ?_ | refine agree_maskIn rfl ?_)))⟩
  obtain rfl : j = gens.length := by omega
  rw [List.take_length] at hG2
  repeat' (first | (refine k_lssF rfl rfl (by omega) ?_) | (refine k_pure rfl ?_) | (refine then_normal ?_) | (refine cw_seq ?_) | (refine cw_region rfl ?_) | (refine rr_nil ?_) | (refine k_len rfl ?_) | (refine k_subI rfl rfl (by omega) (by omega) ?_) | (refine cw_cond_false rfl ?_) | (refine cw_block ?_) | (refine cw_exit ?_) | (refine then_exit ?_) | (refine in_exit ?_))
  refine cw_loop (ι := Nat × RC × Option Addr × Nat) [7, 14, 15, 16, 54, 55, 56, 57, 58, 59, 60, 61, 62, 63, 64, 65, 66, 67, 68, 69, 70, 71, 72] (fun s => [(14, .int .i64 ((s.1 : Int) - 1)), (7, .slice s.2.2.1 s.2.1.length s.2.2.2)])
    (fun s w' => s.1 ≤ s.2.1.length ∧ Ex w w' ∧ RCh w' w.heap.size n s.2.2.1 s.2.2.2 s.2.1 ∧ Gd n (Gen n gens) base base.length (lvsOf s.2.1) ∧ Full n ((lvsOf s.2.1).drop s.1)) (fun s => (39916801 - prodL (lvsOf s.2.1)) * 40000000 + s.1)
    (L1.length, L1, a1, cap1) ⟨rfl, rfl, trivial⟩ ⟨Nat.le_refl _, hE2, hR2, hG2, by rw [List.drop_eq_nil_of_le (by rw [List.length_map]; exact Nat.le_refl _)]; trivial⟩ ?_
  clear hR2 hE2 hL2 hG2 hpl hll2 hj hjg
  rintro ⟨i, L, a, cap⟩ ξ2 w3 ⟨hi, hE3, hR3, hG3, hF3⟩
  simp only at hi hR3 hG3 hF3
  show CW _ _ _ _ (over [(14, .int .i64 ((i : Int) - 1)), (7, .slice a L.length cap)] _) w3
  by_cases hi0 : i = 0
  · subst hi0
    repeat' (first | (refine k_geqF rfl rfl (by omega) ?_) | (refine k_pure rfl ?_) | (refine then_normal ?_) | (refine cw_seq ?_) | (refine cw_region rfl ?_) | (refine rr_nil ?_) | (refine cw_cond_false rfl ?_) | (refine cw_exit ?_) | (refine then_exit ?_) | (refine in_exit ?_) | (refine cw_ret ?_))
    exact ret1 rfl (rt rfl) ⟨hE3, a, cap, L, rfl, hR3, hG3, hF3⟩
  · have hpl3 := prod_le hG3.links h11
    have hll3 := hG3.ll
    rw [List.length_map] at hll3
    repeat' (first | (refine k_geqT rfl rfl (by omega) ?_) | (refine k_pure rfl ?_) | (refine then_normal ?_) | (refine cw_seq ?_) | (refine cw_region rfl ?_) | (refine rr_nil ?_) | (refine cw_cond_true rfl ?_) | (refine cw_block ?_) | (refine cw_skip ?_))
    refine cw_loop (ι := Nat × RC × Option Addr × Nat) [7, 14, 15, 16, 58, 59, 60, 61, 62, 63, 64, 65, 66, 67, 68, 69, 70, 71, 72] (fun s => [(14, .int .i64 (s.1 : Int)), (7, .slice s.2.2.1 s.2.1.length s.2.2.2)])
      (fun s w' => s.1 < s.2.1.length ∧ Ex w w' ∧ RCh w' w.heap.size n s.2.2.1 s.2.2.2 s.2.1 ∧ Gd n (Gen n gens) base base.length (lvsOf s.2.1) ∧ Full n ((lvsOf s.2.1).drop (s.1 + 1)) ∧ (prodL (lvsOf L) < prodL (lvsOf s.2.1) ∨ (s.1 < i ∧ lvsOf s.2.1 = lvsOf L))) (fun s => 39916801 - prodL (lvsOf s.2.1))
      (i - 1, L, a, cap) ⟨by show Value.int .i64 ((i : Int) - 1) = .int .i64 ((i - 1 : Nat) : Int); congr 1; omega, rfl, trivial⟩ ⟨by simp only; omega, hE3, hR3, hG3, by simp only; rw [show i - 1 + 1 = i by omega]; exact hF3, .inr ⟨by simp only; omega, rfl⟩⟩ ?_
    rintro ⟨k, L4, a4, cap4⟩ ξ3 w4 ⟨hk, hE4, hR4, hG4, hF4, hor⟩
    simp only at hk hR4 hG4 hF4 hor
    show CW _ _ _ _ (over [(14, .int .i64 (k : Int)), (7, .slice a4 L4.length cap4)] _) w4
    have hpl4 := prod_le hG4.links h11
    have hll4 := hG4.ll
    rw [List.length_map] at hll4
    have hkl : k < (lvsOf L4).length := by rw [List.length_map]; exact hk
    have ok := hR4.ok hG4 k hk
    have hglk := hG4.gl k hkl
    rw [lvsOf_getD] at hglk
    have hdr := drop_cons hkl
    have hLd := hG4.links.drop k
    rw [hdr, lvsOf_getD] at hLd
    have hgetk := lvsOf_getD L4 k
    repeat' (first | (refine k_pure rfl ?_) | (refine cw_seq ?_) | (refine cw_region rfl ?_) | (refine cw_block ?_))
    refine k_call (rschr_spec (i := k) (cap := cap4) hR4.own.sl hR4.lv (fun j hj => hR4.ok hG4 j hj) hk (by omega) (by omega)) rfl ?_
    rintro v w5 ⟨hE5, ⟨bb, kk, ra, rc, hbb, hkk, rfl, hS5, hne5, hra1, hra2⟩ | ⟨rfl, hall⟩⟩
    · refine ⟨fun _ _ => trivial, ?_⟩
      have hsin : Gen n (L4.getD k rc0).2.gens ((L4.getD k rc0).2.schr bb kk) ∧ ap ((L4.getD k rc0).2.schr bb kk) (L4.getD k rc0).2.pt = (L4.getD k rc0).2.pt := by
        have hgr := ok.grp
        have hb1 := ok.bin bb hbb
        have hg1 := gen_self ok.gens (getD_mem (d := []) hkk)
        have hom : (L4.getD k rc0).2.orb.getD bb 0 ∈ (L4.getD k rc0).2.orb := getD_mem hbb
        have hy : ap ((L4.getD k rc0).2.gens.getD kk []) ((L4.getD k rc0).2.orb.getD bb 0) ∈ (L4.getD k rc0).2.orb := by
          rw [ok.mem]; exact .step _ (getD_mem hkk) ((ok.mem _).1 hom)
        have hto := ok.to_in hy
        have hm1 := hgr.mul _ _ (hgr.inv hb1) hg1
        refine ⟨hgr.mul _ _ hm1 hto, ?_⟩
        have pb := hgr.perm _ hb1
        have e1 : ap (inv ((L4.getD k rc0).2.bk bb)) (L4.getD k rc0).2.pt = (L4.getD k rc0).2.orb.getD bb 0 := by
          rw [← ok.bap bb hbb, ap_inv pb (ok.orb_in hom)]
        unfold Lv.schr
        rw [ap_mul (hgr.perm _ hm1) ok.pt, ap_mul pb.inv ok.pt, e1, ok.to_ap hy]
      have psch := ok.grp.perm _ hsin.1
      obtain ⟨hr1, hr2, ⟨u, hu, hru⟩, hr4, hr5⟩ := sift_spec (hG4.links.drop (k + 1)) psch
      have hul := hLd.2.1 u hu
      generalize (L4.getD k rc0).2.schr bb kk = q at *
      generalize hrr : (siftL ((lvsOf L4).drop (k + 1)) q).1 = r at *
      generalize hdd : (siftL ((lvsOf L4).drop (k + 1)) q).2 = d at *
      rw [List.length_drop, List.length_map] at hr2
      have hrg : Gen n ((lvsOf L4).getD k lv0).gens r ∧ ap r ((lvsOf L4).getD k lv0).pt = ((lvsOf L4).getD k lv0).pt := by
        rw [hgetk, hru]
        exact ⟨ok.grp.mul _ _ hsin.1 hul.1, by rw [ap_mul psch ok.pt, hsin.2, hul.2]⟩
      have hR5 := hR4.ext hE5
      have s4 := hE4.size
      have s5 := hE5.size
      repeat' (first | (refine k_eqNil rfl rfl ?_) | (refine k_pure rfl ?_) | (refine then_normal ?_) | (refine cw_seq ?_) | (refine cw_region rfl ?_) | (refine rr_nil ?_) | (refine cw_cond_false rfl ?_) | (refine cw_skip ?_))
      refine k_call (rextend_spec (first := k + 1) (d := d) (p := r) (pa := ra) (pc := rc) hR5 (by omega) (fun j hj => hR4.ok hG4 j hj) (by omega) (by omega) (fun j hj => by have := hG4.gl j (by rw [List.length_map]; exact hj); rw [lvsOf_getD] at this; omega) hr1 hne5 hS5 (fun ad e => by have := (hR4.own.lo ad e).2; omega) hra2) (by rw [show (((k + 1 : Nat) : Int) - 1) = (k : Int) by omega]; rfl) ?_
      rintro v w6 ⟨a6, cap6, L6, rfl, hR6, hF6, hI6, ht6⟩
      refine ⟨fun _ _ => trivial, ?_⟩
      have hE6 : Ex w w6 := Fr.ex (hE4.trans hE5) hF6 (by rintro k ⟨ad, e, rfl⟩; exact (hR4.own.lo ad e).1)
      obtain ⟨hG6, hp6⟩ := hG4.insR hkl hr1 hrg.1 hrg.2 hr4 hr5 hI6 ht6
      have hl6 := insR_len hI6
      have hd6 := insR_drop hI6
      rw [List.drop_drop, List.drop_drop] at hd6
      have hpl6 := prod_le hG6.links h11
      rw [List.length_drop, List.length_map] at hl6
      repeat' (first | (refine k_pure rfl ?_) | (refine then_normal ?_) | (refine cw_region rfl ?_) | (refine rr_nil ?_) | (refine in_normal ?_))
      refine ⟨⟨(k + 1 + d, L6, a6, cap6), ⟨by simp only; omega, hE6, hR6, hG6, ?_, .inl ?_⟩, by simp only; omega, rfl, rfl, trivial⟩, (by (repeat (first | exact agree_mask _ _ _ | refine agree_upd rfl ?_ | refine agree_updO rfl ?_ | refine agree_overIn rfl ?_ | refine agree_maskIn rfl ?_)))⟩
      · simp only
        rw [show k + 1 + d + 1 = k + 1 + (d + 1) by omega, hd6]
        have := hF4.drop (d + 1)
        rwa [List.drop_drop] at this
      · simp only
        rcases hor with h | ⟨_, h⟩
        · omega
        · rw [← h]; exact hp6
    · refine ⟨fun _ _ => trivial, ?_⟩
      repeat' (first | (refine k_eqNil rfl rfl ?_) | (refine k_pure rfl ?_) | (refine then_normal ?_) | (refine cw_seq ?_) | (refine cw_region rfl ?_) | (refine rr_nil ?_) | (refine k_subI rfl rfl (by omega) (by omega) ?_) | (refine cw_cond_true rfl ?_) | (refine cw_exit ?_) | (refine then_exit ?_) | (refine in_exit ?_) | (refine in_exit_ne rfl ?_) | (refine in_normal ?_))
      have hFk : Full n ((lvsOf L4).drop k) := by
        rw [hdr, hgetk]
        refine ⟨schreier hLd fun b' hb' k' hk' => ?_, hF4⟩
        have hom : (L4.getD k rc0).2.orb.getD b' 0 ∈ (L4.getD k rc0).2.orb := getD_mem hb'
        have hgr := ok.grp
        have hy : ap ((L4.getD k rc0).2.gens.getD k' []) ((L4.getD k rc0).2.orb.getD b' 0) ∈ (L4.getD k rc0).2.orb := by
          rw [ok.mem]; exact .step _ (getD_mem hk') ((ok.mem _).1 hom)
        have psch : PermN n ((L4.getD k rc0).2.schr b' k') := hgr.perm _ (hgr.mul _ _ (hgr.mul _ _ (hgr.inv (ok.bin b' hb')) (gen_self ok.gens (getD_mem (d := []) hk'))) (ok.to_in hy))
        rw [← sift_grp hLd.tail psch, hall b' hb' k' hk']
        exact hLd.tail.grp.one
      refine ⟨⟨(k, L4, a4, cap4), ⟨by simp only; omega, hE4.trans hE5, hR4.ext hE5, hG4, hFk⟩, ?_, rfl, rfl, trivial⟩, (by (repeat (first | exact agree_mask _ _ _ | refine agree_upd rfl ?_ | refine agree_updO rfl ?_ | refine agree_overIn rfl ?_ | refine agree_maskIn rfl ?_)))⟩
      simp only
      rcases hor with h | ⟨h, h'⟩
      · have e : 39916801 - prodL (lvsOf L) = (39916801 - prodL (lvsOf L) - 1) + 1 := by omega
        have h5 : 39916801 - prodL (lvsOf L4) ≤ 39916801 - prodL (lvsOf L) - 1 := by omega
        have h6 := Nat.mul_le_mul_right 40000000 h5
        rw [e, Nat.add_mul]
        omega
      · rw [h']; omega
end Go.Proofs.YthhfjagnmhhapaaGreat

namespace Go.Proofs.YthhfjagnmhhapaaGreat
open Go.W Go.LM

theorem refTrim_spec {ls : List Nat} {a : Option Addr} {c : Nat} {w : World} (h : Limbs w a c ls) :
    CallsR Tryz.prog 29 #[.slice a ls.length c] w (RetN w (trimL ls)) := by
  have hlen := h.len
  have hcap := h.cap
  refine callsR_of (args := [_]) Tryz.func29 rfl rfl ?_
  repeat' (first | (refine k_pure rfl ?_) | (refine then_normal ?_) | (refine cw_seq ?_) | (refine cw_region rfl ?_) | (refine rr_nil ?_) | (refine k_len rfl ?_) | (refine cw_block ?_))
  refine cw_loop (ι := Nat) [3, 6, 7, 8, 9, 10, 11, 12, 13, 14, 15, 16, 17] (fun k => [(3, .int .i64 (k : Int))]) (fun k w' => k ≤ ls.length ∧ w' = w ∧ trimL (ls.take k) = trimL ls) (fun k => k) ls.length ⟨rfl, trivial⟩ ⟨Nat.le_refl _, rfl, by simp⟩ ?_
  rintro k ξ w2 ⟨hk, rfl, hT⟩
  repeat' (first | (refine k_indexN (j := k - 1) rfl (by show Value.int .i64 ((k : Int) - 1) = _; congr 1; omega) (h.sl.plain (by simp; omega)) (by omega) ?_) | (refine k_loadN rfl h.sl (by omega) ?_) | (refine k_pure rfl ?_) | (refine then_normal ?_) | (refine cw_seq ?_) | (refine cw_region rfl ?_) | (refine rr_nil ?_) | (refine g_run rfl rfl ?_) | (refine g_skip rfl rfl ?_) | (refine g_dec_t rfl rfl (fun hc => ?_) (fun hc => ?_)) | (refine k_subI rfl rfl (by omega) (by omega) ?_) | (refine cw_cond_false rfl ?_) | (refine cw_cond_dec rfl (fun hc => ?_) (fun hc => ?_)) | (refine cw_block ?_) | (refine cw_exit ?_) | (refine then_exit ?_) | (refine in_exit ?_) | (refine in_normal ?_) | (refine cw_skip ?_))
  · refine ⟨⟨k - 1, ⟨by omega, rfl, ?_⟩, by omega, ?_, trivial⟩, (by (repeat (first | exact agree_mask _ _ _ | refine agree_upd rfl ?_ | refine agree_updO rfl ?_ | refine agree_overIn rfl ?_ | refine agree_maskIn rfl ?_)))⟩
    · rw [← hT, take_pred hk (by omega), show ls.getD (k - 1) 0 = 0 by omega, trimL_snoc_zero]
    · show Value.int .i64 ((k : Int) - 1) = _
      congr 1; omega
  all_goals
    have hkk : trimL ls = ls.take k := by
      rw [← hT]
      rcases Nat.eq_zero_or_pos k with rfl | h0
      · rfl
      · rw [take_pred hk (by omega), trimL_snoc (by omega), ← take_pred hk (by omega)]
    refine k_sliceTo rfl rfl (by omega) (by omega) ?_
    rw [Int.toNat_natCast]
    have hL := h.take k
    have hkl : (ls.take k).length = k := by simp [Nat.min_eq_left hk]
    refine k_copy (E := 103) (y := 4) rfl rfl rfl hL.sl (by simp [Nat.min_eq_left hk]) (all_one (fun _ => rfl) _) (by omega) (by omega) (fun a' c' w3 hO3 hE3 => ⟨fun _ _ => trivial, ?_⟩)
    repeat' (first | (refine k_pure rfl ?_) | (refine then_normal ?_) | (refine rr_nil ?_) | (refine cw_ret ?_))
    refine ret1 rfl (rt rfl) ?_
    rw [hkk]
    refine ⟨a', c', by rw [hkl]; rfl, ⟨hO3.sl, ?_, hL.lim, hL.len⟩, fun ad e => (hO3.lo ad e).1, hE3⟩
    rw [hkl]
    rcases hO3.2 with ⟨hv, hn⟩ | ⟨g, cap2, cur, hv, hbg, hg, hnc, hcm, hcs, htake⟩
    · simp only [Value.slice.injEq] at hv; omega
    · simp only [Value.slice.injEq] at hv; omega

/-- a magnitude that need not be canonical: sign and limbs -/
theorem refMake_spec {ls : List Nat} {a : Option Addr} {c : Nat} {w : World} (h : Limbs w a c ls) (neg : Bool) :
    CallsR Tryz.prog 57 #[.bool neg, .slice a ls.length c] w (RetZ w (sgn neg (natOf ls))) := by
  refine callsR_of (args := [_, _]) Tryz.func57 rfl rfl ?_
  repeat' (first | (refine k_alloc (fun g w1 hn => ⟨fun _ _ => trivial, ?_⟩)) | (refine k_pure rfl ?_) | (refine then_normal ?_) | (refine cw_seq ?_) | (refine cw_region rfl ?_) | (refine rr_nil ?_))
  refine k_call (refTrim_spec (h.ext hn.ex)) rfl ?_
  rintro v w2 ⟨a2, c2, rfl, hL2, hf2, hE2⟩
  refine ⟨fun _ _ => trivial, ?_⟩
  have hb : Blk w2 g 30 (intL false none 0 0) := Blk.ext (cs := intL false none 0 0) hn.blk hE2
  have l1 := hn.lo
  have l2 := hn.hi
  have l3 := hE2.size
  cases neg
  · repeat' (first | (refine k_pure rfl ?_) | (refine then_normal ?_) | (refine cw_seq ?_) | (refine cw_region rfl ?_) | (refine rr_nil ?_) | (refine g_skip rfl rfl ?_))
    refine k_build (cs := intL false a2 (trimL ls).length c2) rfl ?_
    refine k_storeV (n := 2) rfl rfl rfl rfl hb rfl (fun w3 hc3 hb3 => ⟨fun _ _ => trivial, ?_⟩)
    repeat' (first | (refine then_normal ?_) | (refine rr_nil ?_) | (refine cw_ret ?_))
    refine ret1 rfl (rc rfl rfl hb3) ⟨⟨false, a2, c2, trimL ls, rfl, hL2.chg hc3 (fun ad e => by have := hf2 ad e; omega), by rw [trimL_natOf], canon_trimL _, by simp, fun ad e => by have := hf2 ad e; omega⟩, (hn.ex.trans hE2).chg hc3 (by omega)⟩
  · repeat' (first | (refine k_pure rfl ?_) | (refine then_normal ?_) | (refine cw_seq ?_) | (refine cw_region rfl ?_) | (refine rr_nil ?_) | (refine k_len rfl ?_) | (refine g_run rfl rfl ?_))
    refine k_build (cs := intL (decide ((0 : Int) < ((trimL ls).length : Int))) a2 (trimL ls).length c2) rfl ?_
    refine k_storeV (n := 2) rfl rfl rfl rfl hb rfl (fun w3 hc3 hb3 => ⟨fun _ _ => trivial, ?_⟩)
    repeat' (first | (refine then_normal ?_) | (refine rr_nil ?_) | (refine cw_ret ?_))
    refine ret1 rfl (rc rfl rfl hb3) ⟨⟨_, a2, c2, trimL ls, rfl, hL2.chg hc3 (fun ad e => by have := hf2 ad e; omega), ?_, canon_trimL _, ?_, fun ad e => by have := hf2 ad e; omega⟩, (hn.ex.trans hE2).chg hc3 (by omega)⟩
    · by_cases h0 : trimL ls = []
      · have := trimL_zero.1 h0
        simp [h0, this, sgn, natOf]
      · have : (0 : Int) < ((trimL ls).length : Int) := by
          have := List.length_pos_iff.2 h0; omega
        rw [decide_eq_true this, trimL_natOf]
    · intro hd h0
      rw [h0] at hd; simp at hd

theorem refWord_spec {n : Nat} (hn : n < 18446744073709551616) (neg : Bool) (w : World) : CallsR Tryz.prog 30 #[.bool neg, .int .u64 (n : Int)] w (RetZ w (sgn neg n)) := by
  refine callsR_of (args := [_, _]) Tryz.func30 rfl rfl ?_
  repeat' (first | (refine k_alloc (fun g w1 hn1 => ⟨fun _ _ => trivial, ?_⟩)) | (refine k_down rfl ?_) | (refine k_shr32 rfl rfl ?_) | (refine k_pure rfl ?_) | (refine then_normal ?_) | (refine cw_seq ?_) | (refine cw_region rfl ?_) | (refine rr_nil ?_))
  refine k_lit2 rfl rfl rfl rfl (fun g2 w2 hn2 => ⟨fun _ _ => trivial, ?_⟩)
  have hL : Limbs w2 (some ⟨g2, 0, none⟩) 2 [n % 4294967296, n / 4294967296 % 4294967296] := ⟨hn2.blk.sl, by simp, by intro d hd; simp at hd; omega, by simp⟩
  refine k_call (refMake_spec hL neg) rfl ?_
  rintro v w3 ⟨hI, hE3⟩
  obtain ⟨ng, a', c', ls, rfl, hI'⟩ := id hI
  refine ⟨fun _ _ => trivial, ?_⟩
  have hb : Blk w3 g 30 (intL false none 0 0) := Blk.ext (cs := intL false none 0 0) (Blk.ext (cs := intL false none 0 0) hn1.blk hn2.ex) hE3
  have l1 := hn1.lo
  have l2 := hn1.hi
  have l3 := hn2.ex.size
  refine k_storeV (n := 2) rfl rfl rfl rfl hb rfl (fun w4 hc4 hb4 => ⟨fun _ _ => trivial, ?_⟩)
  repeat' (first | (refine then_normal ?_) | (refine rr_nil ?_) | (refine cw_ret ?_))
  refine ret1 rfl (rc rfl rfl hb4) ⟨?_, ((hn1.ex.trans hn2.ex).trans hE3).chg hc4 l1⟩
  have e : natOf [n % 4294967296, n / 4294967296 % 4294967296] = n := by simp [natOf]; omega
  rw [e] at hI
  exact (hI.chg hc4 (by omega)).mono (by omega)

theorem refSmall_spec {z : Int} (h1 : -9223372036854775808 ≤ z) (h2 : z ≤ 9223372036854775807) (w : World) : CallsR Tryz.prog 9 #[.int .i64 z] w (RetZ w z) := by
  refine callsR_of (args := [_]) Tryz.func9 rfl rfl ?_
  repeat' (first | (refine k_alloc (fun g w1 hn => ⟨fun _ _ => trivial, ?_⟩)) | (refine k_pure rfl ?_) | (refine then_normal ?_) | (refine cw_seq ?_) | (refine cw_region rfl ?_) | (refine rr_nil ?_) | (refine cw_cond_dec rfl (fun hc => ?_) (fun hc => ?_)) | (refine cw_skip ?_))
  all_goals have hb : Blk w1 g 30 (intL false none 0 0) := hn.blk
  · refine k_conv rfl ?_
    refine k_negU rfl ?_
    obtain ⟨n, rfl⟩ : ∃ n : Nat, z = -(n : Int) := ⟨(-z).toNat, by omega⟩
    rw [show IntKind.u64.wrap (-IntKind.u64.wrap (-(n : Int))) = ((n : Nat) : Int) by
      rw [wrap_uns rfl, wrap_uns rfl]; simp only [IntKind.bits]; omega]
    refine k_call (refWord_spec (by omega) true _) rfl ?_
    rintro v w3 ⟨hI, hE3⟩
    obtain ⟨neg, a', c', ls, rfl, hI'⟩ := id hI
    refine ⟨fun _ _ => trivial, ?_⟩
    refine k_storeV (n := 2) rfl rfl rfl rfl (hb.ext hE3) rfl (fun w4 hc4 hb4 => ⟨fun _ _ => trivial, ?_⟩)
    repeat' (first | (refine then_normal ?_) | (refine rr_nil ?_) | (refine cw_ret ?_) | (refine then_ret ?_))
    exact ret1 rfl (rc rfl rfl hb4) ⟨(hI.chg hc4 hn.hi).mono hn.ex.size, (hn.ex.trans hE3).chg hc4 hn.lo⟩
  · obtain ⟨n, rfl⟩ : ∃ n : Nat, z = (n : Int) := ⟨z.toNat, by omega⟩
    refine k_convI rfl (wrap_u64 (by omega) (by omega)) ?_
    refine k_call (refWord_spec (by omega) false _) rfl ?_
    rintro v w3 ⟨hI, hE3⟩
    obtain ⟨neg, a', c', ls, rfl, hI'⟩ := id hI
    refine ⟨fun _ _ => trivial, ?_⟩
    refine k_storeV (n := 2) rfl rfl rfl rfl (hb.ext hE3) rfl (fun w4 hc4 hb4 => ⟨fun _ _ => trivial, ?_⟩)
    repeat' (first | (refine then_normal ?_) | (refine rr_nil ?_) | (refine cw_ret ?_))
    exact ret1 rfl (rc rfl rfl hb4) ⟨(hI.chg hc4 hn.hi).mono hn.ex.size, (hn.ex.trans hE3).chg hc4 hn.lo⟩

theorem refCmp_spec {la lb : List Nat} {a b : Option Addr} {c d : Nat} {w : World} (ha : Limbs w a c la) (hb : Limbs w b d lb) (ca : Canon la) (cb : Canon lb) :
    CallsR Tryz.prog 28 #[.slice a la.length c, .slice b lb.length d] w fun v w' => v = .int .i64 (cmpZ (natOf la) (natOf lb)) ∧ Ex w w' := by
  have hla := ha.len
  refine callsR_of (args := [_, _]) Tryz.func28 rfl rfl ?_
  repeat' (first | (refine k_pure rfl ?_) | (refine then_normal ?_) | (refine cw_seq ?_) | (refine cw_region rfl ?_) | (refine rr_nil ?_) | (refine k_len rfl ?_) | (refine k_subI rfl rfl (by omega) (by omega) ?_) | (refine cw_cond_dec rfl (fun hc => ?_) (fun hc => ?_)) | (refine cw_block ?_) | (refine cw_ret ?_) | (refine then_ret ?_) | (refine cw_skip ?_))
  · refine ret1 rfl (rt rfl) ⟨?_, Ex.refl _⟩
    rw [cmpZ, if_pos (lt_of_len ha.lim cb (by omega))]; rfl
  · refine ret1 rfl (rt rfl) ⟨?_, Ex.refl _⟩
    have := lt_of_len hb.lim ca (by omega)
    rw [cmpZ, if_neg (by omega), if_pos this]; rfl
  · have hl : la.length = lb.length := by omega
    refine cw_loop (ι := Nat) [4, 5, 19, 20, 21, 22, 23, 24, 25, 26, 27, 28, 29, 30, 31, 32, 33, 34, 35, 36, 37, 38, 39, 40] (fun k => [(5, .int .i64 ((k : Int) - 1))]) (fun k w' => k ≤ la.length ∧ Ex w w' ∧ natOf (la.drop k) = natOf (lb.drop k)) (fun k => k) la.length ⟨rfl, trivial⟩
      ⟨Nat.le_refl _, Ex.refl _, by rw [List.drop_length, hl, List.drop_length]⟩ ?_
    rintro k ξ w2 ⟨hk, hE, hT⟩
    repeat' (first | (refine k_pure rfl ?_) | (refine then_normal ?_) | (refine cw_seq ?_) | (refine cw_region rfl ?_) | (refine rr_nil ?_) | (refine cw_cond_dec rfl (fun hc => ?_) (fun hc => ?_)) | (refine cw_block ?_) | (refine cw_exit ?_) | (refine then_exit ?_) | (refine in_exit ?_) | (refine cw_ret ?_) | (refine cw_skip ?_))
    · obtain ⟨j, rfl⟩ : ∃ j, k = j + 1 := ⟨k - 1, by omega⟩
      rw [show ((j + 1 : Nat) : Int) - 1 = (j : Int) by omega]
      refine cw_draw (late := []) (plan := [(0, none), (1, none), (2, none), (3, none), (4, none), (5, none), (6, none), (7, none), (8, none)]) (fun w' => Ex w w') mixed (by kernel_rfl) hE.drew ?_
      repeat' (first | (refine k_indexN (j := j) rfl rfl (ha.sl.plain (by simp; omega)) (by omega) ?_) | (refine k_indexN (j := j) rfl rfl (hb.sl.plain (by simp; omega)) (by omega) ?_) | (refine k_loadN rfl (fun _ h => ha.sl.ext h) (by omega) ?_) | (refine k_loadN rfl (fun _ h => hb.sl.ext h) (by omega) ?_) | (refine k_pure rfl ?_) | (refine then_normal ?_) | (refine cw_seq ?_) | (refine cw_region rfl ?_) | (refine rr_nil ?_) | (refine k_subI rfl rfl (by omega) (by omega) ?_) | (refine cw_cond_dec rfl (fun hc => ?_) (fun hc => ?_)) | (refine in_normal ?_) | (refine cw_skip ?_))
      · refine cw_draw (late := []) (plan := [(0, none), (1, none), (2, none), (3, none), (4, none), (5, none), (6, none), (7, none), (8, none)]) (fun w' => Ex w w') mixed (by kernel_rfl) hE.drew.drew ?_
        repeat' (first | (refine k_indexN (j := j) rfl rfl (ha.sl.plain (by simp; omega)) (by omega) ?_) | (refine k_indexN (j := j) rfl rfl (hb.sl.plain (by simp; omega)) (by omega) ?_) | (refine k_loadN rfl (fun _ h => ha.sl.ext h) (by omega) ?_) | (refine k_loadN rfl (fun _ h => hb.sl.ext h) (by omega) ?_) | (refine k_pure rfl ?_) | (refine then_normal ?_) | (refine cw_seq ?_) | (refine cw_region rfl ?_) | (refine rr_nil ?_) | (refine cw_cond_dec rfl (fun hc => ?_) (fun hc => ?_)) | (refine cw_ret ?_) | (refine then_ret ?_) | (refine in_ret ?_) | (refine cw_skip ?_))
        · refine ret1 rfl (rt rfl) ⟨?_, hE.drew.drew⟩
          rw [cmpZ, if_pos (lt_of_digit (i := j) ha.lim hl (by omega) hT (by omega))]; rfl
        · refine ret1 rfl (rt rfl) ⟨?_, hE.drew.drew⟩
          have := lt_of_digit (i := j) hb.lim hl.symm (by omega) hT.symm (by omega)
          rw [cmpZ, if_neg (by omega), if_pos this]; rfl
      · refine ⟨⟨j, ⟨by omega, hE.drew, ?_⟩, by omega, ?_, trivial⟩, (by (repeat (first | exact agree_mask _ _ _ | refine agree_upd rfl ?_ | refine agree_updO rfl ?_ | refine agree_overIn rfl ?_ | refine agree_maskIn rfl ?_)))⟩
        · rw [natOf_drop (ls := la) (k := j) (by omega), natOf_drop (ls := lb) (k := j) (by omega), hT, show la.getD j 0 = lb.getD j 0 by omega]
        · rfl
    · obtain rfl : k = 0 := by omega
      simp only [List.drop_zero] at hT
      refine ret1 rfl (rt rfl) ⟨?_, hE⟩
      rw [cmpZ, if_neg (by omega), if_neg (by omega)]; rfl

theorem sgn_inj {n1 n2 : Bool} {l1 l2 : List Nat} (c1 : Canon l1) (c2 : Canon l2) (g1 : n1 = true → l1 ≠ []) (g2 : n2 = true → l2 ≠ []) :
    sgn n1 (natOf l1) = sgn n2 (natOf l2) ↔ n1 = n2 ∧ natOf l1 = natOf l2 := by
  have hz : ∀ {l : List Nat}, Canon l → natOf l = 0 → l = [] := fun {l} c h => by have := trimL_zero.2 h; rwa [c] at this
  unfold sgn
  cases n1 <;> cases n2 <;> simp
  · omega
  · intro h
    have h2 : natOf l2 = 0 := by omega
    exact g2 rfl (hz c2 h2)
  · intro h
    have h1 : natOf l1 = 0 := by omega
    exact g1 rfl (hz c1 h1)
  · omega

theorem refSame_spec {lo lo' : Nat} {v1 v2 : Value} {x y : Int} {w : World} (h1 : IntC lo w v1 x) (h2 : IntC lo' w v2 y) :
    CallsR Tryz.prog 11 #[v1, v2] w fun v w' => v = .bool (decide (x = y)) ∧ Ex w w' := by
  obtain ⟨n1, a1, c1, l1, rfl, hL1, rfl, hc1, g1, _⟩ := h1
  obtain ⟨n2, a2, c2, l2, rfl, hL2, rfl, hc2, g2, _⟩ := h2
  have hiff := sgn_inj hc1 hc2 g1 g2
  refine callsR_of (args := [_, _]) Tryz.func11 rfl rfl ?_
  refine cw_seq ?_
  refine cw_region rfl ?_
  refine k_boxA rfl (fun ga w2 hn2 => ⟨fun _ _ => trivial, ?_⟩)
  refine k_boxA rfl (fun gb w3 hn3 => ⟨fun _ _ => trivial, ?_⟩)
  have hb2 := hn2.blk.ext hn3.ex
  have hb3 := hn3.blk
  have hE := hn2.ex.trans hn3.ex
  have hle : natOf l1 = natOf l2 → l1.length = l2.length := fun h => by rw [canon_unique hL1.lim hL2.lim hc1 hc2 h]
  repeat' (first | (refine k_loadC rfl hb2 rfl ?_) | (refine k_loadC rfl hb3 rfl ?_) | (refine k_pure rfl ?_) | (refine then_normal ?_) | (refine cw_seq ?_) | (refine cw_region rfl ?_) | (refine rr_nil ?_) | (refine k_len rfl ?_) | (refine g_run rfl rfl ?_) | (refine g_skip rfl rfl ?_) | (refine g_dec_t rfl rfl (fun hc => ?_) (fun hc => ?_)) | (refine k_fieldAddr rfl ?_) | (refine k_eqlB rfl rfl ?_) | (refine cw_ret ?_))
  · refine k_call (refCmp_spec (hL1.ext hE) (hL2.ext hE) hc1 hc2) rfl ?_
    rintro v w4 ⟨rfl, hE4⟩
    refine ⟨fun _ _ => trivial, ?_⟩
    repeat' (first | (refine k_pure rfl ?_) | (refine then_normal ?_) | (refine rr_nil ?_) | (refine g_run rfl rfl ?_) | (refine cw_ret ?_))
    refine ret1 rfl (rt rfl) ⟨congrArg Value.bool (decide_eq_decide.2 ?_), hE.trans hE4⟩
    rw [hiff]
    unfold cmpZ
    have hn : n1 = n2 := by assumption
    constructor
    · intro h
      refine ⟨hn, ?_⟩
      split at h
      · omega
      · split at h
        · omega
        · omega
    · rintro ⟨_, h⟩
      rw [if_neg (by omega), if_neg (by omega)]
  all_goals
    refine ret1 rfl (rt rfl) ⟨congrArg Value.bool (Eq.symm (decide_eq_false ?_)), hE⟩
    rw [hiff]
    rintro ⟨h1, h2⟩
    have := hle h2
    first | omega | (subst h1; simp_all; done)
end Go.Proofs.YthhfjagnmhhapaaGreat

namespace Go.Proofs.YthhfjagnmhhapaaGreat
open Go.W Go.LM

theorem refSign_spec {lo : Nat} {v : Value} {x : Int} {w : World} (h1 : IntC lo w v x) : CallsR Tryz.prog 27 #[v] w fun r w' => r = .int .i64 x.sign ∧ Ex w w' := by
  obtain ⟨n1, a1, c1, l1, rfl, hL1, rfl, hc1, g1, _⟩ := h1
  have htr : trimL l1 = l1 := hc1
  refine callsR_of (args := [_]) Tryz.func27 rfl rfl ?_
  repeat' (first | (refine k_boxA rfl (fun g1 w1 hn1 => ⟨fun _ _ => trivial, ?_⟩)) | (refine k_loadC rfl hn1.blk rfl ?_) | (refine k_pure rfl ?_) | (refine then_normal ?_) | (refine cw_seq ?_) | (refine cw_region rfl ?_) | (refine rr_nil ?_) | (refine k_fieldAddr rfl ?_) | (refine cw_block ?_))
  refine k_call (refTrim_spec (hL1.ext hn1.ex)) rfl ?_
  rw [htr]
  rintro v w2 ⟨a2, c2, rfl, hL2, hf2, hE2⟩
  refine ⟨fun _ _ => trivial, ?_⟩
  have hb2 := hn1.blk.ext hE2
  have hz : l1.length = 0 ↔ natOf l1 = 0 := by
    constructor
    · intro h; rw [List.eq_nil_of_length_eq_zero h]; rfl
    · intro h; have := trimL_zero.2 h; rw [htr] at this; rw [this]; rfl
  repeat' (first | (refine k_loadC rfl hb2 rfl ?_) | (refine k_pure rfl ?_) | (refine then_normal ?_) | (refine cw_seq ?_) | (refine cw_region rfl ?_) | (refine rr_nil ?_) | (refine k_len rfl ?_) | (refine k_fieldAddr rfl ?_) | (refine cw_cond_dec rfl (fun hc => ?_) (fun hc => ?_)) | (refine cw_cond rfl (fun hc => ?_) (fun hc => ?_)) | (refine in_normal ?_) | (refine cw_ret ?_) | (refine then_ret ?_) | (refine in_ret ?_) | (refine cw_skip ?_))
  · refine ret1 rfl (rt rfl) ⟨?_, hn1.ex.trans hE2⟩
    have : natOf l1 = 0 := hz.1 (by omega)
    rw [this]; cases n1 <;> rfl
  · refine ret1 rfl (rt rfl) ⟨?_, hn1.ex.trans hE2⟩
    have : natOf l1 ≠ 0 := fun e => by have := hz.2 e; omega
    subst_vars
    show Value.int .i64 (-1) = _
    rw [show (sgn true (natOf l1)).sign = -1 by unfold sgn; rw [if_pos rfl]; exact Int.sign_eq_neg_one_of_neg (by omega)]
  · refine ret1 rfl (rt rfl) ⟨?_, hn1.ex.trans hE2⟩
    have : natOf l1 ≠ 0 := fun e => by have := hz.2 e; omega
    subst_vars
    show Value.int .i64 1 = _
    rw [show (sgn false (natOf l1)).sign = 1 by unfold sgn; rw [if_neg (by decide)]; exact Int.sign_eq_one_of_pos (by omega)]
end Go.Proofs.YthhfjagnmhhapaaGreat

namespace Go.Proofs.YthhfjagnmhhapaaGreat
open Go.W Go.LM

set_option maxHeartbeats 1000000 in
theorem refMul_spec {lo lo' p q : Nat} {v1 v2 : Value} {x y : Int} {w : World} (h1 : IntC lo w v1 x) (h2 : IntC lo' w v2 y) (hx : x.natAbs < 4294967296 ^ p) (hy : y.natAbs < 4294967296 ^ q) (hpq : p + q ≤ 17592186044416) :
    CallsR Tryz.prog 39 #[v1, v2] w (RetZ w (x * y)) := by
  obtain ⟨n1, a1, c1, la, rfl, ha, rfl, hc1, _, _⟩ := h1
  obtain ⟨n2, a2, c2, lb, rfl, hb, rfl, hc2, _, _⟩ := h2
  rw [sgn_natAbs] at hx hy
  have hla := canon_len hc1 hx
  have hlb := canon_len hc2 hy
  refine callsR_of (args := [_, _]) Tryz.func39 rfl rfl ?_
  refine cw_seq ?_
  refine cw_region rfl ?_
  refine k_boxA rfl (fun g2 w2 hn2 => ⟨fun _ _ => trivial, ?_⟩)
  refine k_boxA rfl (fun g3 w3 hn3 => ⟨fun _ _ => trivial, ?_⟩)
  refine k_alloc (fun g4 w4 hn4 => ⟨fun _ _ => trivial, ?_⟩)
  have hb2 := (hn2.blk.ext hn3.ex).ext hn4.ex
  have hb3 := hn3.blk.ext hn4.ex
  have hb4 : Blk w4 g4 30 (intL false none 0 0) := hn4.blk
  have hE4 := (hn2.ex.trans hn3.ex).trans hn4.ex
  have l4 := hn4.lo
  have l4' := hn4.hi
  have s3 := (hn2.ex.trans hn3.ex).size
  repeat' (first | (refine k_loadC rfl hb2 rfl ?_) | (refine k_loadC rfl hb3 rfl ?_) | (refine k_addJ rfl rfl (by omega) ?_) | (refine k_makeN rfl rfl (by omega) (by omega) (fun g w5 hn5 => ⟨fun _ _ => trivial, ?_⟩)) | (refine k_pure rfl ?_) | (refine then_normal ?_) | (refine cw_seq ?_) | (refine cw_region rfl ?_) | (refine rr_nil ?_) | (refine k_len rfl ?_) | (refine k_fieldAddr rfl ?_))
  have l5 := hn5.lo
  have hb25 := hb2.ext hn5.ex
  have hb35 := hb3.ext hn5.ex
  have hb45 := hb4.ext hn5.ex
  have s45 := hE4.size
  repeat' (first | (refine k_loadC rfl hb25 rfl ?_) | (refine k_pure rfl ?_) | (refine then_normal ?_) | (refine rr_nil ?_) | (refine k_len rfl ?_) | (refine cw_block ?_))
  refine cw_loop (ι := Nat × List Nat) [6, 7, 8, 9, 10, 22, 23, 24, 25, 26, 27, 28, 29, 30, 31, 32, 33, 34, 35, 36, 37, 38, 39, 40, 41, 42, 43, 44, 45, 46, 47, 48, 49, 50, 51, 52, 53, 54, 55, 56, 57, 58, 59, 60, 61, 62, 63, 64, 65, 66, 67, 68, 69] (fun s => [(22, .int .i64 (s.1 : Int))])
    (fun s w' => s.1 ≤ la.length ∧ Ex w4 w' ∧ Blk w' g 103 (limbsL s.2) ∧ s.2.length = la.length + lb.length ∧ Lim s.2 ∧ natOf s.2 = natOf (la.take s.1) * natOf lb ∧ ∀ j, s.1 + lb.length ≤ j → s.2.getD j 0 = 0) (fun s => la.length - s.1)
    (0, List.replicate (la.length + lb.length) 0) ⟨rfl, trivial⟩ ⟨by simp, hn5.ex, hn5.blk, by simp, Lim.zeros _, by simp [natOf_zeros, natOf], fun j _ => by simp [List.getD_eq_getElem?_getD, List.getElem?_replicate]; split <;> rfl⟩ ?_
  rintro ⟨i, ps⟩ ξ w6 ⟨hi, hE, hbk, hpl, hpL, hpn, hpz⟩
  simp only at hi hbk hpl hpL hpn hpz
  show CW _ _ _ _ (over [(22, .int .i64 (i : Int))] _) w6
  have hxl := ha.lim.getD i
  have hb36 := hb3.ext hE
  have ha6 := ha.ext (hE4.trans hE)
  repeat' (first | (refine k_indexN rfl rfl (ha6.sl.plain (by simp; omega)) (by omega) ?_) | (refine k_loadN rfl ha6.sl (by omega) ?_) | (refine k_loadC rfl hb36 rfl ?_) | (refine k_pure rfl ?_) | (refine then_normal ?_) | (refine cw_seq ?_) | (refine cw_region rfl ?_) | (refine rr_nil ?_) | (refine k_len rfl ?_) | (refine k_fieldAddr rfl ?_) | (refine cw_cond_dec rfl (fun hc => ?_) (fun hc => ?_)) | (refine cw_block ?_) | (refine cw_exit ?_) | (refine then_exit ?_) | (refine in_exit ?_) | (refine cw_skip ?_))
  · refine cw_loop (ι := Nat × List Nat × Nat) [8, 9, 10, 30, 31, 32, 33, 34, 35, 36, 37, 38, 39, 40, 41, 42, 43, 44, 45, 46, 47, 48, 49, 50, 51, 52, 53, 54, 55, 56, 57, 58, 59] (fun s => [(30, .int .i64 (s.1 : Int)), (8, .int .u64 (s.2.2 : Int))])
      (fun s w' => s.1 ≤ lb.length ∧ Ex w4 w' ∧ Blk w' g 103 (limbsL s.2.1) ∧ s.2.1.length = la.length + lb.length ∧ Lim s.2.1 ∧ s.2.2 < 4294967296 ∧ natOf s.2.1 + s.2.2 * 4294967296 ^ (i + s.1) = natOf ps + la.getD i 0 * natOf (lb.take s.1) * 4294967296 ^ i ∧ ∀ j, i + s.1 ≤ j → s.2.1.getD j 0 = ps.getD j 0) (fun s => lb.length - s.1)
      (0, ps, 0) ⟨rfl, rfl, trivial⟩ ⟨by simp, hE, hbk, hpl, hpL, by simp, by simp [natOf], fun j _ => rfl⟩ ?_
    rintro ⟨j, qs, cy⟩ ξ2 w7 ⟨hj, hE7, hb7, hql, hqL, hcy, hqn, hqz⟩
    simp only at hj hb7 hql hqL hcy hqn hqz
    show CW _ _ _ _ (over [(30, .int .i64 (j : Int)), (8, .int .u64 (cy : Int))] _) w7
    have hyl := hb.lim.getD j
    have hrl := hqL.getD (i + j)
    have hfit := mul_lt_B2 hxl hyl hcy hrl
    have hbl7 := hb.ext (hE4.trans hE7)
    have hb37 := hb3.ext hE7
    repeat' (first | (refine k_indexN rfl rfl (hbl7.sl.plain (by simp; omega)) (by omega) ?_) | (refine k_loadN rfl hbl7.sl (by omega) ?_) | (refine k_indexN (j := i + j) rfl (by show Value.int .i64 ((i : Int) + (j : Int)) = _; rfl) ⟨_, _, rfl⟩ (by omega) ?_) | (refine k_loadN rfl hb7.sl (by omega) ?_) | (refine k_up rfl (by assumption) ?_) | (refine k_mulN rfl rfl (by omega) ?_) | (refine k_addN rfl rfl (by omega) ?_) | (refine k_down rfl ?_) | (refine k_shr32 rfl rfl ?_) | (refine k_storeN rfl rfl hb7 (by omega) (fun w8 hc8 hb8 => ⟨fun _ _ => trivial, ?_⟩)) | (refine k_loadC rfl hb37 rfl ?_) | (refine k_indexN (j := i + lb.length) rfl (by show Value.int .i64 ((i : Int) + (lb.length : Int)) = _; rfl) ⟨_, _, rfl⟩ (by omega) ?_) | (refine k_pure rfl ?_) | (refine then_normal ?_) | (refine cw_seq ?_) | (refine cw_region rfl ?_) | (refine rr_nil ?_) | (refine k_len rfl ?_) | (refine k_addI rfl rfl (by omega) (by omega) ?_) | (refine k_fieldAddr rfl ?_) | (refine cw_cond_dec rfl (fun hc => ?_) (fun hc => ?_)) | (refine cw_block ?_) | (refine cw_exit ?_) | (refine then_exit ?_) | (refine in_exit ?_) | (refine in_normal ?_) | (refine cw_skip ?_))
    · refine ⟨⟨(j + 1, qs.set (i + j) ((cy + (la.getD i 0 * lb.getD j 0 + qs.getD (i + j) 0)) % 4294967296), (cy + (la.getD i 0 * lb.getD j 0 + qs.getD (i + j) 0)) / 4294967296), ⟨by simp only; omega, hE7.chg hc8 (by omega), hb8, by simp [hql], hqL.set (Nat.mod_lt _ (by decide)), by simp only; omega, ?_, ?_⟩, by simp only; omega, rfl, rfl, trivial⟩, (by (repeat (first | exact agree_mask _ _ _ | refine agree_upd rfl ?_ | refine agree_updO rfl ?_ | refine agree_overIn rfl ?_ | refine agree_maskIn rfl ?_)))⟩
      · have := row_step (x := la.getD i 0) (y := lb.getD j 0) (show i + j < qs.length by omega) hqn
        simp only
        rw [show i + (j + 1) = i + j + 1 by omega, this, natOf_take_succ (by omega), Nat.mul_add, Nat.add_mul, Nat.add_assoc, Nat.pow_add]
        congr 2
        rw [← Nat.mul_assoc, Nat.mul_assoc, Nat.mul_comm (4294967296 ^ i), ← Nat.mul_assoc, Nat.mul_assoc (la.getD i 0)]
      · intro k hk
        simp only at hk ⊢
        rw [getD_set_ne' (by omega), hqz k (by omega)]
    · obtain rfl : j = lb.length := by omega
      have hz : qs.getD (i + lb.length) 0 = 0 := by rw [hqz _ (Nat.le_refl _)]; exact hpz _ (Nat.le_refl _)
      rw [Nat.mod_eq_of_lt hcy] at hb8
      refine ⟨⟨(i + 1, qs.set (i + lb.length) cy), ⟨by simp only; omega, hE7.chg hc8 (by omega), hb8, by simp [hql], hqL.set hcy, ?_, ?_⟩, by simp only; omega, rfl, trivial⟩, (by (repeat (first | exact agree_mask _ _ _ | refine agree_upd rfl ?_ | refine agree_updO rfl ?_ | refine agree_overIn rfl ?_ | refine agree_maskIn rfl ?_)))⟩
      · have h1 := natOf_set (l := qs) (k := i + lb.length) (v := cy) (by omega)
        rw [hz, Nat.zero_mul, Nat.add_zero] at h1
        simp only
        rw [h1, hqn, hpn, List.take_length, natOf_take_succ (by omega), Nat.add_mul]
        congr 1
        rw [Nat.mul_assoc, Nat.mul_assoc, Nat.mul_comm (natOf lb)]
      · intro k hk
        simp only at hk ⊢
        rw [getD_set_ne' (by omega), hqz k (by omega), hpz k (by omega)]
  · obtain rfl : i = la.length := by omega
    rw [List.take_length] at hpn
    have hL := Limbs.of_blk (c := la.length + lb.length) hbk (by omega) hpL (by omega)
    have hb26 := hb2.ext hE
    have hcall := refMake_spec hL (!(n1 == n2))
    rw [hpl] at hcall
    repeat' (first | (refine k_loadC rfl hb26 rfl ?_) | (refine k_loadC rfl hb36 rfl ?_) | (refine k_pure rfl ?_) | (refine k_fieldAddr rfl ?_) | (refine k_neqB rfl rfl ?_))
    refine k_call hcall rfl ?_
    rintro v w7 ⟨hI, hE7⟩
    obtain ⟨ng, a', c', ls, rfl, hI'⟩ := id hI
    refine ⟨fun _ _ => trivial, ?_⟩
    refine k_storeV (n := 2) rfl rfl rfl rfl ((hb4.ext hE).ext hE7) rfl (fun w8 hc8 hb8 => ⟨fun _ _ => trivial, ?_⟩)
    repeat' (first | (refine then_normal ?_) | (refine rr_nil ?_) | (refine cw_ret ?_))
    have s6 := hE.size
    refine ret1 rfl (rc rfl rfl hb8) ⟨?_, ((hE4.trans hE).trans hE7).chg hc8 (by omega)⟩
    have hr := (hI.chg hc8 (by omega)).mono (lo' := w.heap.size) (by omega)
    rw [hpn] at hr
    have e : sgn (!(n1 == n2)) (natOf la * natOf lb) = sgn n1 (natOf la) * sgn n2 (natOf lb) := by
      unfold sgn; cases n1 <;> cases n2 <;> simp [Int.neg_mul, Int.mul_neg]
    rwa [e] at hr
end Go.Proofs.YthhfjagnmhhapaaGreat

namespace Go.Proofs.YthhfjagnmhhapaaGreat
open Go.W Go.PM

theorem group_ref_spec {n : Int} {gens : List (List Int)} {ga : Option Addr} {sds : List SD} {w : World} (hg : Lists w .i64 ga sds gens) (gc : Nat) (hgl : gens.length ≤ 9223372036854775807) :
    CallsR Tryz.prog 16 #[.int .i64 n, .slice ga gens.length gc] w fun v w' => v = .int .i64 (grpF n gens) ∧ Ex w w' := by
  refine callsR_of (args := [_, _]) Tryz.func16 rfl rfl ?_
  have hl := hg.len
  repeat' (first | (refine k_pure rfl ?_) | (refine then_normal ?_) | (refine cw_seq ?_) | (refine cw_region rfl ?_) | (refine rr_nil ?_) | (refine k_len rfl ?_) | (refine g_run rfl rfl ?_) | (refine g_skip rfl rfl ?_) | (refine g_dec_f rfl rfl (fun hc => ?_) (fun hc => ?_)) | (refine cw_cond_true rfl ?_) | (refine cw_cond_dec rfl (fun hc => ?_) (fun hc => ?_)) | (refine cw_block ?_) | (refine cw_ret ?_) | (refine then_ret ?_) | (refine cw_skip ?_))
  all_goals first | (refine ret1 rfl (rt rfl) ⟨?_, Ex.refl _⟩; show Value.int .i64 1 = _; rw [grpF, if_pos (by omega)]; done) | skip
  · refine ret1 rfl (rt rfl) ⟨?_, Ex.refl _⟩
    show Value.int .i64 7 = _
    rw [grpF, if_neg (by omega), if_pos (by omega)]
  · have he : grpF n gens = if gensOK n gens then 0 else 3 := by rw [grpF, if_neg (by omega), if_neg (by omega)]
    refine cw_loop (ι := Nat) [4, 6, 18, 19, 20, 21, 22, 23, 24, 25, 26, 27, 28, 29, 30, 31] (fun k => [(18, .int .i64 (k : Int))]) (fun k w' => k ≤ gens.length ∧ Ex w w' ∧ gensOK n (gens.take k)) (fun k => gens.length - k)
      0 ⟨rfl, trivial⟩ ⟨by simp, Ex.refl _, by simp [gensOK]⟩ ?_
    rintro k ξ w2 ⟨hk, hE, hK⟩
    repeat' (first | (refine k_indexN rfl rfl (hg.sl.plain (by simp; omega)) (by omega) ?_) | (refine k_loadS rfl (hg.sl.ext hE) (by omega) ?_) | (refine k_pure rfl ?_) | (refine then_normal ?_) | (refine cw_seq ?_) | (refine cw_region rfl ?_) | (refine rr_nil ?_) | (refine k_len rfl ?_) | (refine g_run rfl rfl ?_) | (refine g_skip rfl rfl ?_) | (refine g_dec_f rfl rfl (fun hc => ?_) (fun hc => ?_)) | (refine cw_cond_true rfl ?_) | (refine cw_cond_dec rfl (fun hc => ?_) (fun hc => ?_)) | (refine cw_block ?_) | (refine cw_exit ?_) | (refine then_exit ?_) | (refine in_exit ?_) | (refine cw_ret ?_) | (refine then_ret ?_) | (refine in_ret ?_) | (refine cw_skip ?_))
    · obtain ⟨h1, h2⟩ := hg.each k (by omega)
      rw [h2] at hc
      rw [h2]
      refine k_call (refValid_spec (h1.ext hE) _) rfl ?_
      rintro v w3 ⟨rfl, hE3⟩
      refine ⟨fun _ _ => trivial, ?_⟩
      replace hE3 := hE.trans hE3
      have hcl := Decidable.not_not.1 hc
      repeat' (first | (refine k_pure rfl ?_) | (refine then_normal ?_) | (refine cw_seq ?_) | (refine cw_region rfl ?_) | (refine rr_nil ?_) | (refine g_run rfl rfl ?_) | (refine k_addI rfl rfl (by omega) (by omega) ?_) | (refine cw_cond_ndec rfl (fun hc => ?_) (fun hc => ?_)) | (refine in_normal ?_) | (refine cw_ret ?_) | (refine then_ret ?_) | (refine in_ret ?_) | (refine cw_skip ?_))
      · refine ret1 rfl (rt rfl) ⟨?_, hE3⟩
        rw [he, if_neg (not_gensOK (k := k) (by omega) (fun h => hc h.2))]; rfl
      · refine ⟨⟨k + 1, ⟨by omega, hE3, ?_⟩, by omega, rfl, trivial⟩, (by (repeat (first | exact agree_mask _ _ _ | refine agree_upd rfl ?_ | refine agree_updO rfl ?_ | refine agree_overIn rfl ?_ | refine agree_maskIn rfl ?_)))⟩
        rw [take_succ_getD gens [] (by omega), gensOK_snoc]
        exact ⟨hK, hcl, hc⟩
    · obtain ⟨h1, h2⟩ := hg.each k (by omega)
      rw [h2] at hc
      refine ret1 rfl (rt rfl) ⟨?_, hE⟩
      rw [he, if_neg (not_gensOK (k := k) (by omega) (fun h => hc h.1))]; rfl
    · refine ret1 rfl (rt rfl) ⟨?_, hE⟩
      rw [List.take_of_length_le (by omega)] at hK
      rw [he, if_pos hK]; rfl

end Go.Proofs.YthhfjagnmhhapaaGreat

