
import Derived.Test.YthhfjagnmhhapaaA01
import Derived.Test.YthhfjagnmhhapaaA02
import Derived.Test.YthhfjagnmhhapaaA03
import Derived.Test.YthhfjagnmhhapaaA04
import Derived.Test.YthhfjagnmhhapaaA05
import Derived.Test.YthhfjagnmhhapaaA06
import Derived.Test.YthhfjagnmhhapaaA07
import Derived.Test.YthhfjagnmhhapaaA08
import Derived.Test.YthhfjagnmhhapaaA09
import Derived.Test.YthhfjagnmhhapaaA10
import Derived.Test.YthhfjagnmhhapaaA11
import Derived.Test.YthhfjagnmhhapaaA13
import Derived.Test.YthhfjagnmhhapaaA16
import Derived.Test.YthhfjagnmhhapaaA17

namespace Go.Proofs.Ythhfjagnmhhapaa
open Go.W Go.PM
theorem chContains_spec {w : World} {n N0 : Nat} {G : List Int → Prop} {base : List Int} {c : CH} {ls : List Lv} {p : List Int} {a : Option Addr} {cap : Nat} (hn11 : n ≤ 11) (hC : ChAt w n c ls) (hG : Gd n G base N0 ls) (hN : N0 ≤ 1000000) (hF : Full n ls) (pp : PermN n p) (hp : Sl w a (intsL p)) :
    CallsR Try.prog 54 #[.pointer (some ⟨c.cb, 0, none⟩), .slice a n cap] w fun v w' => Ex w w' ∧ ∃ t : Bool, v = .bool t ∧ (t = true ↔ G p) := by
  refine callsR_of (args := [_, _]) Try.func54 rfl rfl ?_
  have n1 := pp.n1
  have hpl := prod_le hG.links hn11
  have hll := hG.ll
  repeat' (first | (refine k_pure rfl ?_) | (refine then_normal ?_) | (refine cw_seq ?_) | (refine cw_region rfl ?_) | (refine rr_nil ?_))
  refine k_call (toPerm_spec (xs := p) hp cap (fun k hk => by have := pp.1.lt hk; have := pp.2; omega) (by rw [pp.2]; omega)) (by rw [pp.2]; rfl) ?_
  rintro v w1 ⟨g, rfl, hg, hb1, hE1⟩
  refine ⟨fun _ _ => trivial, ?_⟩
  rw [pp.2]
  have hC1 := hC.ext hE1
  have hfr := hC.fresh hg
  repeat' (first | (refine k_pure rfl ?_) | (refine then_normal ?_) | (refine cw_seq ?_) | (refine cw_region rfl ?_) | (refine rr_nil ?_))
  refine k_call (csift_spec (first := 0) (cap := n) hC1 (fun j _ hj => hG.ok hj) (Nat.zero_le _) pp (hb1.own (by simp [pp.2]) (by unfold maxLen; omega) (Nat.zero_le _)) hfr.1 hfr.2 (by omega)) rfl ?_
  rintro v w2 ⟨rfl, hc2, ho2⟩
  refine ⟨fun _ _ => trivial, ?_⟩
  rw [List.drop_zero] at ho2
  have pr := (sift_spec hG.links pp).1
  repeat' (first | (refine k_pure rfl ?_) | (refine then_normal ?_) | (refine cw_seq ?_) | (refine cw_region rfl ?_) | (refine rr_nil ?_))
  refine k_call (moved_spec (xs := (siftL ls p).1) ho2.sl n (fun k hk => by have := pr.1.lt hk; have := pr.2; omega) (by rw [pr.2]; omega)) (by rw [pr.2]; rfl) ?_
  rintro v w3 ⟨mv, rfl, hmv, hE3⟩
  refine ⟨fun _ _ => trivial, ?_⟩
  repeat' (first | (refine k_pure rfl ?_) | (refine then_normal ?_) | (refine rr_nil ?_) | (refine cw_ret ?_))
  refine ret1 rfl (rt rfl) ⟨(hE1.chg hc2 hg).trans hE3, _, rfl, ?_⟩
  rw [decide_eq_true_eq, hmv.neg, pr.2, sift_iff hG.links hF pp]
  exact hG.grp p
def errC (n : Int) (gens : List (List Int)) (p : List Int) : Int := if errS n gens = 0 then (if permsB n [p] then 0 else 3) else errS n gens
theorem sContains_spec {n : Int} {gens : List (List Int)} {p : List Int} {a b : Option Addr} {sds : List SD} {cap bc : Nat} {w : World} (hL : Lists w .i64 a sds gens) (hl : gens.length ≤ 1000000) (h11 : errS n gens = 0 → n ≤ 11) (hp : Sl w b (intsL p)) :
    CallsR Try.prog 23 #[.int .i64 n, .slice a gens.length cap, .slice b p.length bc] w fun v w' => Ex w w' ∧ ∃ t : Bool, v = .tuple #[.bool t, .int .i64 (errC n gens p)] ∧ (t = true ↔ errC n gens p = 0 ∧ Gen n.toNat gens p) := by
  refine callsR_of (args := [_, _, _]) Try.func23 rfl rfl ?_
  repeat' (first | (refine k_pure rfl ?_) | (refine then_normal ?_) | (refine cw_seq ?_) | (refine cw_region rfl ?_) | (refine rr_nil ?_))
  refine k_call (chkS_spec hL hl) rfl ?_
  rintro v w2 ⟨rfl, hE2⟩
  refine ⟨fun _ _ => trivial, ?_⟩
  repeat' (first | (refine k_pure rfl ?_) | (refine then_normal ?_) | (refine cw_seq ?_) | (refine cw_region rfl ?_) | (refine rr_nil ?_) | (refine cw_cond_dec rfl (fun hc => ?_) (fun hc => ?_)) | (refine cw_ret ?_) | (refine then_ret ?_) | (refine cw_skip ?_))
  · refine ret2 rfl (rt rfl) (rt rfl) ⟨hE2, false, ?_, ?_⟩
    · rw [errC, if_neg hc]; rfl
    · rw [errC, if_neg hc]
      constructor
      · intro h; cases h
      · rintro ⟨h, _⟩; exact absurd h hc
  · have h0 : errS n gens = 0 := by omega
    obtain ⟨m, rfl, hm1, hm2, hgl, hgn⟩ := errS_zero h0
    have hm11 : m ≤ 11 := by have := h11 h0; omega
    refine k_lit1 (v := .slice b p.length bc) rfl rfl (fun g w3 hn3 => ⟨fun _ _ => trivial, ?_⟩)
    have hLs : Lists w3 .i64 (some ⟨g, 0, none⟩) [⟨b, p.length, bc⟩] [p] := Lists.of hn3.blk.sl ⟨⟨(hp.ext hE2).ext hn3.ex, rfl⟩, trivial⟩
    refine k_call (perms_spec (cap := 1) hLs (by simp)) rfl ?_
    rintro v w4 ⟨rfl, hE4⟩
    refine ⟨fun _ _ => trivial, ?_⟩
    have hEw4 := (hE2.trans hn3.ex).trans hE4
    cases hb : permsB (m : Int) [p] with
    | false =>
      repeat' (first | (refine k_pure rfl ?_) | (refine then_normal ?_) | (refine cw_seq ?_) | (refine cw_region rfl ?_) | (refine rr_nil ?_) | (refine cw_cond_true rfl ?_) | (refine cw_ret ?_) | (refine then_ret ?_))
      have he : errC (m : Int) gens p = 3 := by rw [errC, if_pos h0, hb]; rfl
      refine ret2 rfl (rt rfl) (rt rfl) ⟨hEw4, false, by rw [he]; rfl, ?_⟩
      rw [he]
      constructor
      · intro h; cases h
      · rintro ⟨h, _⟩; cases h
    | true =>
      have pp : PermN m p := permsB_iff.1 hb p (by simp)
      have he : errC (m : Int) gens p = 0 := by rw [errC, if_pos h0, if_pos hb]
      repeat' (first | (refine k_pure rfl ?_) | (refine then_normal ?_) | (refine cw_seq ?_) | (refine cw_region rfl ?_) | (refine rr_nil ?_) | (refine cw_cond_false rfl ?_) | (refine cw_skip ?_))
      refine k_call (chBuild_spec (base := []) (b := none) (bc := 0) ⟨hm1, hm2⟩ hm11 hgn (hL.ext hEw4) (by omega) (Sl.nil _ _) (by simp) (fun i hi => absurd hi (by simp))) rfl ?_
      rintro v w5 ⟨hE5, c, ls, rfl, hC, hG, hF⟩
      refine ⟨fun _ _ => trivial, ?_⟩
      repeat' (first | (refine k_pure rfl ?_))
      refine k_call (chContains_spec (p := p) (a := b) (cap := bc) hm11 hC hG (by simp; omega) hF pp (hp.ext (hEw4.trans hE5))) (by rw [pp.2]; rfl) ?_
      rintro v w6 ⟨hE6, t, rfl, ht⟩
      refine ⟨fun _ _ => trivial, ?_⟩
      repeat' (first | (refine k_pure rfl ?_) | (refine then_normal ?_) | (refine rr_nil ?_) | (refine cw_ret ?_))
      refine ret2 rfl (rt rfl) (rt rfl) ⟨(hEw4.trans hE5).trans hE6, t, by rw [he]; rfl, ?_⟩
      rw [he, Int.toNat_natCast, ht]
      exact ⟨fun h => ⟨rfl, h⟩, fun h => h.2⟩
end Go.Proofs.Ythhfjagnmhhapaa

namespace Go.PM
/-- the elements that fix the points of a list -/
def PStab (H : List Int → Prop) (pts : List Int) (p : List Int) : Prop := H p ∧ ∀ x ∈ pts, ap p x = x
def OrbLen (H : List Int → Prop) (x : Int) (k : Nat) : Prop := ∃ orb : List Int, orb.Nodup ∧ (∀ y, y ∈ orb ↔ ∃ p, H p ∧ ap p x = y) ∧ orb.length = k
theorem OrbLen.unique {H : List Int → Prop} {x : Int} {k k' : Nat} (h : OrbLen H x k) (h' : OrbLen H x k') : k = k' := by
  obtain ⟨o, h1, h2, rfl⟩ := h
  obtain ⟨o', h1', h2', rfl⟩ := h'
  exact Nat.le_antisymm (nodup_le h1 fun y hy => (h2' y).2 ((h2 y).1 hy)) (nodup_le h1' fun y hy => (h2 y).2 ((h2' y).1 hy))
theorem full_stab {n : Nat} (d0 : Lv) : ∀ (i : Nat) (ls : List Lv), i ≤ ls.length → Links n ls → Full n ls → ∀ p, grpOf n (ls.drop i) p ↔ grpOf n ls p ∧ ∀ j, j < i → ap p (ls.getD j d0).pt = (ls.getD j d0).pt
  | 0, ls, _, _, _, p => ⟨fun h => ⟨h, fun j hj => absurd hj (by omega)⟩, fun h => h.1⟩
  | i + 1, [], h, _, _, _ => absurd h (by simp)
  | i + 1, l :: ls, h, hL, hF, p => by
    rw [List.drop_succ_cons, full_stab d0 i ls (by simpa using h) hL.tail hF.2 p]
    constructor
    · rintro ⟨h1, h2⟩
      have h3 := hL.2.1 p h1
      refine ⟨h3.1, fun j hj => ?_⟩
      cases j with
      | zero => exact h3.2
      | succ j => simpa using h2 j (by omega)
    · rintro ⟨h1, h2⟩
      refine ⟨hF.1 p h1 (by simpa using h2 0 (by omega)), fun j hj => ?_⟩
      simpa using h2 (j + 1) (by omega)
end Go.PM
namespace Go.Proofs.Ythhfjagnmhhapaa
open Go.W Go.PM
theorem Gd.orbLen {n : Nat} {G : List Int → Prop} {base : List Int} {N0 : Nat} {ls : List Lv} (h : Gd n G base N0 ls) (hF : Full n ls) {i : Nat} (hi : i < base.length) : OrbLen (PStab G (base.take i)) (base.getD i 0) (ls.getD i lv0).orb.length := by
  have hil : i < ls.length := by have := h.bl; omega
  have ok := h.ok hil
  refine ⟨(ls.getD i lv0).orb, ok.nd, fun y => ?_, rfl⟩
  rw [ok.mem' y, h.pts i hi]
  have key : ∀ p, Gen n (ls.getD i lv0).gens p ↔ PStab G (base.take i) p := fun p => by
    have h1 := full_stab lv0 i ls (by omega) h.links hF p
    rw [drop_cons hil] at h1
    have h1' : Gen n (ls.getD i lv0).gens p ↔ grpOf n ls p ∧ ∀ j, j < i → ap p (ls.getD j lv0).pt = (ls.getD j lv0).pt := h1
    rw [h1', h.grp p]
    constructor
    · rintro ⟨a, b⟩
      refine ⟨a, fun x hx => ?_⟩
      obtain ⟨j, hj, e⟩ := List.getElem_of_mem hx
      rw [List.length_take] at hj
      have := b j (by omega)
      rw [h.pts j (by omega), List.getD_eq_getElem?_getD, List.getElem?_eq_getElem (by omega)] at this
      rw [List.getElem_take] at e
      rw [← e]; exact this
    · rintro ⟨a, b⟩
      refine ⟨a, fun j hj => ?_⟩
      rw [h.pts j (by omega)]
      refine b _ ?_
      rw [List.getD_eq_getElem?_getD, List.getElem?_eq_getElem (by omega)]
      exact List.mem_take_iff_getElem.2 ⟨j, by omega, rfl⟩
  exact ⟨fun ⟨p, a, b⟩ => ⟨p, (key p).1 a, b⟩, fun ⟨p, a, b⟩ => ⟨p, (key p).2 a, b⟩⟩
end Go.Proofs.Ythhfjagnmhhapaa

namespace Go.Proofs.Ythhfjagnmhhapaa
open Go.W Go.PM
theorem diff_spec {n : Nat} {l : List Int} {a : Option Addr} {cap : Nat} {w : World} (hl : Sl w a (intsL l)) (hn : n ≤ 512) (hll : l.length ≤ 1000000) :
    CallsR Try.prog 61 #[.int .i64 (n : Int), .slice a l.length cap] w fun v w' => v = .bool (decide (Dist n l)) ∧ Ex w w' := by
  refine callsR_of (args := [_, _]) Try.func61 rfl rfl ?_
  repeat' (first | (refine k_makeB rfl rfl (by omega) (by omega) (fun g w1 hn1 => ⟨fun _ _ => trivial, ?_⟩)) | (refine k_pure rfl ?_) | (refine then_normal ?_) | (refine cw_seq ?_) | (refine cw_region rfl ?_) | (refine rr_nil ?_) | (refine k_len rfl ?_) | (refine cw_block ?_))
  have z1 := hn1.lo
  refine cw_loop (ι := Nat × List Bool) [4, 7, 12, 13, 14, 15, 16, 17, 18, 19, 20, 21, 22, 23, 24, 25, 26, 27, 28, 29, 30, 31, 32] (fun s => [(12, .int .i64 (s.1 : Int))]) (fun s w' => s.1 ≤ l.length ∧ Ex w w' ∧ Blk w' g 4 (s.2.map Value.bool) ∧ s.2.length = n ∧ Dist n (l.take s.1) ∧ ∀ y : Nat, y < n → (s.2.getD y false = true ↔ (y : Int) ∈ l.take s.1)) (fun s => l.length - s.1)
    (0, List.replicate n false) ⟨rfl, trivial⟩ ⟨Nat.zero_le _, hn1.ex, hn1.blk, by simp, ⟨by simp, by simp⟩, fun y hy => by simp only; rw [List.getD_eq_getElem?_getD, List.getElem?_replicate, if_pos hy]; simp⟩ ?_
  rintro ⟨k, sn⟩ ξ w2 ⟨hk, hE2, hb2, hsl, hD, hsn⟩
  simp only at hk hb2 hsl hD hsn
  show CW _ _ _ _ (over [(12, .int .i64 (k : Int))] _) w2
  have hl2 := hl.ext hE2
  have hno : k < l.length → (l.getD k 0 < 0 ∨ (n : Int) ≤ l.getD k 0 ∨ l.getD k 0 ∈ l.take k) → ¬ Dist n l := fun hkl h hd => by
    have hd' := dist_iff.1 hd
    rcases h with h | h | h
    · have := (hd'.1 k hkl).1; omega
    · have := (hd'.1 k hkl).2; omega
    · obtain ⟨j, hj, e⟩ := List.getElem_of_mem h
      rw [List.length_take] at hj
      rw [List.getElem_take] at e
      refine hd'.2 j k (by omega) hkl ?_
      rw [← e, List.getD_eq_getElem?_getD, List.getElem?_eq_getElem (by omega)]; rfl
  obtain ⟨y, hy⟩ : ∃ y : Nat, 0 ≤ l.getD k 0 → l.getD k 0 = (y : Int) := ⟨(l.getD k 0).toNat, fun h => by omega⟩
  obtain ⟨sy, hsy⟩ : ∃ t, sn.getD y false = t := ⟨_, rfl⟩
  cases sy with
  | true =>
    repeat' (first | (refine k_indexN (j := k) rfl rfl (hl2.plain (by simp; omega)) (by omega) ?_) | (refine k_loadI (j := k) rfl hl2 (by omega) ?_) | (refine k_indexN (j := y) rfl (congrArg _ (hy (by omega))) ⟨_, _, rfl⟩ (by have := hy (by omega); omega) ?_) | (refine k_loadBv (j := y) rfl hb2.sl (by have := hy (by omega); omega) hsy ?_) | (refine k_pure rfl ?_) | (refine then_normal ?_) | (refine cw_seq ?_) | (refine cw_region rfl ?_) | (refine rr_nil ?_) | (refine g_run rfl rfl ?_) | (refine g_skip rfl rfl ?_) | (refine g_dec_f rfl rfl (fun hc => ?_) (fun hc => ?_)) | (refine cw_cond_true rfl ?_) | (refine cw_cond_dec rfl (fun hc => ?_) (fun hc => ?_)) | (refine cw_block ?_) | (refine cw_exit ?_) | (refine then_exit ?_) | (refine in_exit ?_) | (refine cw_ret ?_) | (refine then_ret ?_) | (refine in_ret ?_) | (refine cw_skip ?_))
    · have hkl : k < l.length := by omega
      have hyy := hy (by omega)
      have hm := (hsn y (by omega)).1 hsy
      refine ret1 rfl (rt rfl) ⟨?_, hE2⟩
      rw [decide_eq_false (hno hkl (.inr (.inr (by rw [hyy]; exact hm))))]; rfl
    · have hkl : k < l.length := by omega
      refine ret1 rfl (rt rfl) ⟨?_, hE2⟩
      rw [decide_eq_false (hno hkl (.inr (.inl (by omega))))]; rfl
    · have hkl : k < l.length := by omega
      refine ret1 rfl (rt rfl) ⟨?_, hE2⟩
      rw [decide_eq_false (hno hkl (.inl (by omega)))]; rfl
    · obtain rfl : k = l.length := by omega
      rw [List.take_length] at hD
      exact ret1 rfl (rt rfl) ⟨by rw [decide_eq_true hD]; rfl, hE2⟩
  | false =>
    repeat' (first | (refine k_indexN (j := k) rfl rfl (hl2.plain (by simp; omega)) (by omega) ?_) | (refine k_loadI (j := k) rfl hl2 (by omega) ?_) | (refine k_indexN (j := y) rfl (congrArg _ (hy (by omega))) ⟨_, _, rfl⟩ (by have := hy (by omega); omega) ?_) | (refine k_loadBv (j := y) rfl hb2.sl (by have := hy (by omega); omega) hsy ?_) | (refine k_pure rfl ?_) | (refine then_normal ?_) | (refine cw_seq ?_) | (refine cw_region rfl ?_) | (refine rr_nil ?_) | (refine g_run rfl rfl ?_) | (refine g_skip rfl rfl ?_) | (refine g_dec_f rfl rfl (fun hc => ?_) (fun hc => ?_)) | (refine cw_cond_true rfl ?_) | (refine cw_cond_false rfl ?_) | (refine cw_cond_dec rfl (fun hc => ?_) (fun hc => ?_)) | (refine cw_block ?_) | (refine cw_exit ?_) | (refine then_exit ?_) | (refine in_exit ?_) | (refine cw_ret ?_) | (refine then_ret ?_) | (refine in_ret ?_) | (refine cw_skip ?_))
    · have hkl : k < l.length := by omega
      have hyy := hy (by omega)
      have hyn : y < n := by omega
      have hm : (y : Int) ∉ l.take k := fun h => by have := (hsn y hyn).2 h; rw [hsy] at this; cases this
      repeat' (first | (refine k_storeB (j := y) rfl rfl hb2 (by omega) (fun w3 hc3 hb3 => ⟨fun _ _ => trivial, ?_⟩)) | (refine k_pure rfl ?_) | (refine then_normal ?_) | (refine cw_region rfl ?_) | (refine rr_nil ?_) | (refine k_addI rfl rfl (by omega) (by omega) ?_) | (refine in_normal ?_))
      have htk : l.take (k + 1) = l.take k ++ [(y : Int)] := by rw [take_succ_getD l 0 hkl, hyy]
      refine ⟨⟨(k + 1, sn.set y true), ⟨by simp only; omega, hE2.chg hc3 z1, hb3, by simp [hsl], ?_, fun z hz => ?_⟩, by simp only; omega, rfl, trivial⟩, (by (repeat (first | exact agree_mask _ _ _ | refine agree_upd rfl ?_ | refine agree_updO rfl ?_ | refine agree_overIn rfl ?_ | refine agree_maskIn rfl ?_)))⟩
      · show Dist n (l.take (k + 1))
        rw [htk]
        refine ⟨fun x hx => ?_, ?_⟩
        · rcases List.mem_append.1 hx with hx | hx
          · exact hD.1 x hx
          · rw [List.mem_singleton] at hx; subst hx; omega
        · rw [List.nodup_append]
          refine ⟨hD.2, by simp, fun u hu v hv => ?_⟩
          rw [List.mem_singleton] at hv; subst hv
          rintro rfl; exact hm hu
      · show (sn.set y true).getD z false = true ↔ (z : Int) ∈ l.take (k + 1)
        rw [getD_set' (by omega), htk, List.mem_append, List.mem_singleton]
        by_cases e : z = y
        · subst e; simp
        · rw [if_neg e, hsn z hz]
          exact ⟨.inl, fun h => h.elim id (fun h => absurd h (by omega))⟩
    · have hkl : k < l.length := by omega
      refine ret1 rfl (rt rfl) ⟨?_, hE2⟩
      rw [decide_eq_false (hno hkl (.inr (.inl (by omega))))]; rfl
    · have hkl : k < l.length := by omega
      refine ret1 rfl (rt rfl) ⟨?_, hE2⟩
      rw [decide_eq_false (hno hkl (.inl (by omega)))]; rfl
    · obtain rfl : k = l.length := by omega
      rw [List.take_length] at hD
      exact ret1 rfl (rt rfl) ⟨by rw [decide_eq_true hD]; rfl, hE2⟩
end Go.Proofs.Ythhfjagnmhhapaa

namespace Go.Proofs.Ythhfjagnmhhapaa
open Go.W Go.PM
def errL (n : Int) (gens : List (List Int)) (base : List Int) : Int := if errS n gens = 0 then (if Dist n.toNat base then 0 else 1) else errS n gens
def LenOK (n : Nat) (gens : List (List Int)) (base : List Int) (k : Nat) (L : List Int) : Prop := L.length = base.length ∧ ∀ i, i < k → ∃ m : Nat, L.getD i 0 = (m : Int) ∧ OrbLen (PStab (Gen n gens) (base.take i)) (base.getD i 0) m
theorem sLengths_spec {n : Int} {gens : List (List Int)} {base : List Int} {a b : Option Addr} {sds : List SD} {cap bc : Nat} {w : World} (hL : Lists w .i64 a sds gens) (hl : gens.length ≤ 1000000) (h11 : errS n gens = 0 → n ≤ 11) (hb : Sl w b (intsL base)) (hbl : base.length ≤ 1000) :
    CallsR Try.prog 30 #[.int .i64 n, .slice a gens.length cap, .slice b base.length bc] w fun v w' => Ex w w' ∧ ∃ (r : Option Addr) (c : Nat) (L : List Int), v = .tuple #[.slice r L.length c, .int .i64 (errL n gens base)] ∧ Own w' w.heap.size 3 1 r L.length c (intsL L) ∧
      (errL n gens base ≠ 0 → L = []) ∧ (errL n gens base = 0 → LenOK n.toNat gens base base.length L) := by
  refine callsR_of (args := [_, _, _]) Try.func30 rfl rfl ?_
  repeat' (first | (refine k_pure rfl ?_) | (refine then_normal ?_) | (refine cw_seq ?_) | (refine cw_region rfl ?_) | (refine rr_nil ?_))
  refine k_call (chkS_spec hL hl) rfl ?_
  rintro v w2 ⟨rfl, hE2⟩
  refine ⟨fun _ _ => trivial, ?_⟩
  repeat' (first | (refine k_pure rfl ?_) | (refine then_normal ?_) | (refine cw_seq ?_) | (refine cw_region rfl ?_) | (refine rr_nil ?_) | (refine cw_cond_dec rfl (fun hc => ?_) (fun hc => ?_)) | (refine cw_ret ?_) | (refine then_ret ?_) | (refine cw_skip ?_))
  · refine ret2 rfl (rt rfl) (rt rfl) ⟨hE2, none, 0, [], ?_, Own.nil _ _ _ _, fun _ => rfl, fun h => ?_⟩
    · rw [errL, if_neg hc]; rfl
    · rw [errL, if_neg hc] at h; exact absurd h hc
  · have h0 : errS n gens = 0 := by omega
    obtain ⟨m, rfl, hm1, hm2, hgl, hgn⟩ := errS_zero h0
    have hm11 : m ≤ 11 := by have := h11 h0; omega
    refine k_call (diff_spec (n := m) (hb.ext hE2) hm2 (by omega)) rfl ?_
    rintro v w3 ⟨rfl, hE3⟩
    refine ⟨fun _ _ => trivial, ?_⟩
    have hEw3 := hE2.trans hE3
    by_cases hD : Dist m base
    · rw [decide_eq_true hD]
      have he : errL (m : Int) gens base = 0 := by rw [errL, if_pos h0, Int.toNat_natCast, if_pos hD]
      have hdr := (dist_iff.1 hD).1
      repeat' (first | (refine k_pure rfl ?_) | (refine then_normal ?_) | (refine cw_seq ?_) | (refine cw_region rfl ?_) | (refine rr_nil ?_) | (refine cw_cond_false rfl ?_) | (refine cw_skip ?_))
      refine k_call (chBuild_spec (base := base) ⟨hm1, hm2⟩ hm11 hgn (hL.ext hEw3) (by omega) (hb.ext hEw3) hbl hdr) rfl ?_
      rintro v w4 ⟨hE4, c, ls, rfl, hC, hG, hF⟩
      refine ⟨fun _ _ => trivial, ?_⟩
      have hEw4 := hEw3.trans hE4
      have hbll := hG.bl
      repeat' (first | (refine k_makeI rfl rfl (by omega) (by omega) (fun g w5 hn5 => ⟨fun _ _ => trivial, ?_⟩)) | (refine k_pure rfl ?_) | (refine then_normal ?_) | (refine cw_seq ?_) | (refine cw_region rfl ?_) | (refine rr_nil ?_) | (refine k_len rfl ?_) | (refine cw_block ?_))
      have z4 := hEw4.size
      have z5 := hn5.lo
      refine cw_loop (ι := Nat × List Int) [11, 31, 32, 33, 34, 35, 36, 37, 38, 39, 40, 41, 42, 43, 44, 45, 46, 47] (fun s => [(31, .int .i64 (s.1 : Int))]) (fun s w' => s.1 ≤ base.length ∧ Ex w4 w' ∧ Blk w' g 3 (intsL s.2) ∧ LenOK m gens base s.1 s.2) (fun s => base.length - s.1)
        (0, List.replicate base.length 0) ⟨rfl, trivial⟩ ⟨Nat.zero_le _, hn5.ex, hn5.blk, by simp, fun i hi => absurd hi (by simp)⟩ ?_
      rintro ⟨i, L⟩ ξ w6 ⟨hi, hE6, hb6, hLk⟩
      simp only at hi hb6 hLk
      show CW _ _ _ _ (over [(31, .int .i64 (i : Int))] _) w6
      have hLl := hLk.1
      repeat' (first | (refine k_pure rfl ?_) | (refine then_normal ?_) | (refine cw_seq ?_) | (refine cw_region rfl ?_) | (refine rr_nil ?_) | (refine k_fieldAddr rfl ?_) | (refine cw_cond_dec rfl (fun hc => ?_) (fun hc => ?_)) | (refine cw_block ?_) | (refine cw_exit ?_) | (refine then_exit ?_) | (refine in_exit ?_) | (refine cw_ret ?_) | (refine cw_skip ?_))
      · have hil : i < base.length := by omega
        obtain ⟨j, hj, hfd, hjm⟩ := hC.mok.find (show i < ls.length by omega)
        have hC6 := hC.ext hE6
        have hstr6 := hC6.str
        unfold chL at hstr6
        have hLs := (hC6.lv i (by omega)).str
        have ok := hG.ok (show i < ls.length by omega)
        have hol := ok.orb_le
        repeat' (first | (refine k_loadC (Tb := 100) rfl hstr6 rfl ?_) | (refine k_lookup mapT intT rfl rfl hC6.map hfd ?_) | (refine k_loadC (Tb := 95) rfl hLs rfl ?_) | (refine k_indexN (j := i) rfl rfl ⟨_, _, rfl⟩ hil ?_) | (refine k_storeI (j := i) rfl rfl hb6 (by omega) (fun w7 hc7 hb7 => ⟨fun _ _ => trivial, ?_⟩)) | (refine k_pure rfl ?_) | (refine then_normal ?_) | (refine cw_region rfl ?_) | (refine rr_nil ?_) | (refine k_len rfl ?_) | (refine k_addI rfl rfl (by omega) (by omega) ?_) | (refine k_fieldAddr rfl ?_) | (refine in_normal ?_))
        refine ⟨⟨(i + 1, L.set i ((ls.getD i lv0).orb.length : Int)), ⟨by simp only; omega, hE6.chg hc7 z5, hb7, by simp [hLl], fun q hq => ?_⟩, by simp only; omega, rfl, trivial⟩, (by (repeat (first | exact agree_mask _ _ _ | refine agree_upd rfl ?_ | refine agree_updO rfl ?_ | refine agree_overIn rfl ?_ | refine agree_maskIn rfl ?_)))⟩
        simp only at hq ⊢
        rw [getD_set' (by omega)]
        by_cases e : q = i
        · subst e; rw [if_pos rfl]; exact ⟨_, rfl, hG.orbLen hF hil⟩
        · rw [if_neg e]; exact hLk.2 q (by omega)
      · obtain rfl : i = base.length := by omega
        refine ret2 rfl (rt rfl) (rt rfl) ⟨hEw4.trans hE6, some ⟨g, 0, none⟩, base.length, L, by rw [he, hLl]; rfl, ?_, fun h => absurd he h, fun _ => by rw [Int.toNat_natCast]; exact hLk⟩
        rw [hLl]
        exact hb6.own (by simp [hLl]) (by unfold maxLen; omega) (by omega)
    · rw [decide_eq_false hD]
      have he : errL (m : Int) gens base = 1 := by rw [errL, if_pos h0, Int.toNat_natCast, if_neg hD]
      repeat' (first | (refine k_pure rfl ?_) | (refine then_normal ?_) | (refine cw_seq ?_) | (refine cw_region rfl ?_) | (refine rr_nil ?_) | (refine cw_cond_true rfl ?_) | (refine cw_ret ?_) | (refine then_ret ?_))
      refine ret2 rfl (rt rfl) (rt rfl) ⟨hEw3, none, 0, [], by rw [he]; rfl, Own.nil _ _ _ _, fun _ => rfl, fun h => by rw [he] at h; cases h⟩
end Go.Proofs.Ythhfjagnmhhapaa

namespace Go.PM
theorem Full.drop {n : Nat} : ∀ {ls : List Lv} (i : Nat), Full n ls → Full n (ls.drop i)
  | _, 0, h => h
  | [], _ + 1, h => h
  | _ :: _, i + 1, h => by rw [List.drop_succ_cons]; exact Full.drop i h.2
end Go.PM
namespace Go.Proofs.Ythhfjagnmhhapaa
open Go.W Go.PM
def errT (n : Int) (gens : List (List Int)) (x : Int) : Int := if errS n gens = 0 then (if x < 0 ∨ n ≤ x then 1 else 0) else errS n gens
theorem sStab_spec {n x : Int} {gens : List (List Int)} {a : Option Addr} {sds : List SD} {cap : Nat} {w : World} (hL : Lists w .i64 a sds gens) (hl : gens.length ≤ 1000000) (h11 : errS n gens = 0 → n ≤ 11) :
    CallsR Try.prog 34 #[.int .i64 n, .slice a gens.length cap, .int .i64 x] w fun v w' => ∃ z, v = .tuple #[z, .int .i64 (errT n gens x)] ∧ Ex w w' ∧ (errT n gens x ≠ 0 → IntC w.heap.size w' z 0) ∧ (errT n gens x = 0 → ∃ k : Nat, Card (Stab (Gen n.toNat gens) x) k ∧ IntC w.heap.size w' z (k : Int)) := by
  refine callsR_of (args := [_, _, _]) Try.func34 rfl rfl ?_
  repeat' (first | (refine k_allocA (vs := intL false none 0 0) (fun g4 w1 hn1 => ⟨fun _ _ => trivial, ?_⟩)) | (refine k_pure rfl ?_) | (refine then_normal ?_) | (refine cw_seq ?_) | (refine cw_region rfl ?_) | (refine rr_nil ?_))
  have z1 := hn1.lo; have z1' := hn1.hi
  refine k_call (chkS_spec (hL.ext hn1.ex) hl) rfl ?_
  rintro v w2 ⟨rfl, hE2⟩
  refine ⟨fun _ _ => trivial, ?_⟩
  have y2 := hE2.size
  have hEw2 := hn1.ex.trans hE2
  have hb2 := hn1.blk.ext hE2
  have hbad : errS n gens = 0 → (x < 0 ∨ n ≤ x) → errT n gens x = 1 := fun h0 hx => by rw [errT, if_pos h0, if_pos hx]
  repeat' (first | (refine k_pure rfl ?_) | (refine then_normal ?_) | (refine cw_seq ?_) | (refine cw_region rfl ?_) | (refine rr_nil ?_) | (refine g_run rfl rfl ?_) | (refine g_skip rfl rfl ?_) | (refine g_dec_f rfl rfl (fun hc => ?_) (fun hc => ?_)) | (refine cw_cond_true rfl ?_) | (refine cw_cond_dec rfl (fun hc => ?_) (fun hc => ?_)) | (refine cw_skip ?_))
  · have he : errT n gens x = errS n gens := by rw [errT, if_neg hc]
    refine k_build (cs := intL false none 0 0) rfl ?_
    repeat' (first | (refine k_pure rfl ?_))
    refine k_storeV (n := 2) rfl rfl rfl rfl hb2 rfl (fun w3 hc3 hb3 => ⟨fun _ _ => trivial, ?_⟩)
    repeat' (first | (refine k_pure rfl ?_) | (refine then_normal ?_) | (refine rr_nil ?_) | (refine cw_ret ?_) | (refine then_ret ?_))
    refine ret2 rfl (rc rfl rfl hb3) (rt rfl) ⟨_, by rw [he]; rfl, hEw2.chg hc3 (by omega), fun _ => IntC.zero _ _, fun h => absurd (he ▸ h) hc⟩
  · have he : errT n gens x = 1 := hbad (by omega) (.inr (by omega))
    refine k_build (cs := intL false none 0 0) rfl ?_
    skip
    refine k_storeV (n := 2) rfl rfl rfl rfl hb2 rfl (fun w3 hc3 hb3 => ⟨fun _ _ => trivial, ?_⟩)
    repeat' (first | (refine k_pure rfl ?_) | (refine then_normal ?_) | (refine rr_nil ?_) | (refine cw_ret ?_) | (refine then_ret ?_))
    refine ret2 rfl (rc rfl rfl hb3) (rt rfl) ⟨_, by rw [he]; rfl, hEw2.chg hc3 (by omega), fun _ => IntC.zero _ _, fun h => by rw [he] at h; cases h⟩
  · have h0 : errS n gens = 0 := by omega
    obtain ⟨m, rfl, hm1, hm2, hgl, hgn⟩ := errS_zero h0
    have hm11 : m ≤ 11 := by have := h11 h0; omega
    have he : errT (m : Int) gens x = 0 := by rw [errT, if_pos h0, if_neg (by omega)]
    refine k_litI1 rfl (fun g w3 hn3 => ⟨fun _ _ => trivial, ?_⟩)
    have hEw3 := hEw2.trans hn3.ex
    have y3 := hn3.ex.size
    refine k_call (chBuild_spec (base := [x]) (bc := 1) ⟨hm1, hm2⟩ hm11 hgn (hL.ext hEw3) (by omega) hn3.blk.sl (by simp) (fun i hi => by
      obtain rfl : i = 0 := by simpa using hi
      simp only [List.getD_cons_zero]; omega)) rfl ?_
    rintro v w4 ⟨hE4, c, ls, rfl, hC, hG, hF⟩
    refine ⟨fun _ _ => trivial, ?_⟩
    have y4 := hE4.size
    have hl1 : 1 ≤ ls.length := by have := hG.bl; simpa using this
    refine k_call (chOrder_spec (first := 1) hm11 hC hG (by simp; omega) hl1) rfl ?_
    rintro v w5 ⟨hz5, hE5⟩
    refine ⟨fun _ _ => trivial, ?_⟩
    obtain ⟨cs, rfl, hcl, hco⟩ := hz5.out
    have hb5 := ((hb2.ext hn3.ex).ext hE4).ext hE5
    refine k_storeV (n := 2) rfl rfl hcl hco hb5 rfl (fun w6 hc6 hb6 => ⟨fun _ _ => trivial, ?_⟩)
    repeat' (first | (refine k_pure rfl ?_) | (refine then_normal ?_) | (refine rr_nil ?_) | (refine cw_ret ?_))
    have hz6 := (hz5.chgO hc6 (hz5.off_lo (by omega))).mono (lo' := w.heap.size) (by omega)
    refine ret2 rfl (rc rfl hcl hb6) (rt rfl) ⟨_, by rw [he]; rfl, ((hEw3.trans hE4).trans hE5).chg hc6 (by omega), fun h => absurd he h, fun _ => ⟨_, ?_, hz6⟩⟩
    rw [Int.toNat_natCast]
    refine (full_card (hG.links.drop 1) (hF.drop 1)).congr fun p => ?_
    have h1 := full_stab lv0 1 ls hl1 hG.links hF p
    have hp0 : (ls.getD 0 lv0).pt = x := by have := hG.pts 0 (by simp); simpa using this
    rw [h1, hG.grp p]
    constructor
    · rintro ⟨a1, a2⟩
      have := a2 0 (by omega)
      rw [hp0] at this
      exact ⟨a1, this⟩
    · rintro ⟨a1, a2⟩
      refine ⟨a1, fun j hj => ?_⟩
      obtain rfl : j = 0 := by omega
      rw [hp0]; exact a2
  · have he : errT n gens x = 1 := hbad (by omega) (.inl (by omega))
    refine k_build (cs := intL false none 0 0) rfl ?_
    skip
    refine k_storeV (n := 2) rfl rfl rfl rfl hb2 rfl (fun w3 hc3 hb3 => ⟨fun _ _ => trivial, ?_⟩)
    repeat' (first | (refine k_pure rfl ?_) | (refine then_normal ?_) | (refine rr_nil ?_) | (refine cw_ret ?_) | (refine then_ret ?_))
    refine ret2 rfl (rc rfl rfl hb3) (rt rfl) ⟨_, by rw [he]; rfl, hEw2.chg hc3 (by omega), fun _ => IntC.zero _ _, fun h => by rw [he] at h; cases h⟩
end Go.Proofs.Ythhfjagnmhhapaa

/- The orders of three groups, by chains that the kernel checks. -/
namespace Go.PM
def invC (p : List Int) : List Int := invTo p p.length
def lvAdd (l : Lv) (s : Nat × Nat) : Lv := l.add (ap (l.gens.getD s.2 []) (l.orb.getD s.1 0)) (mulP (invC (l.gens.getD s.2 [])) (l.bk s.1))
def okAdd (l : Lv) (s : Nat × Nat) : Bool := decide (s.1 < l.orb.length) && (decide (s.2 < l.gens.length) && !(l.orb.contains (ap (l.gens.getD s.2 []) (l.orb.getD s.1 0))))
def mkLv (l : Lv) : List (Nat × Nat) → Lv
  | [] => l
  | s :: ss => mkLv (lvAdd l s) ss
def okLv (l : Lv) : List (Nat × Nat) → Bool
  | [] => (List.range l.orb.length).all fun i => (List.range l.gens.length).all fun j => l.orb.contains (ap (l.gens.getD j []) (l.orb.getD i 0))
  | s :: ss => okAdd l s && okLv (lvAdd l s) ss
theorem mkLv_ok {n : Nat} : ∀ (ss : List (Nat × Nat)) (l l0 : Lv), Part n l → Grow l0 l → okLv l ss = true → LvOK n (mkLv l ss) ∧ Grow l0 (mkLv l ss)
  | [], l, l0, hp, hg, h => by
    refine ⟨hp.ok ⟨fun i hi j hj => ?_, fun j hj => absurd hj (by omega)⟩, hg⟩
    simp only [okLv, List.all_eq_true, List.mem_range] at h
    have := h i hi j hj
    simpa using this
  | s :: ss, l, l0, hp, hg, h => by
    simp only [okLv, okAdd, Bool.and_eq_true, decide_eq_true_eq, Bool.not_eq_true'] at h
    obtain ⟨⟨h1, h2, h3⟩, h4⟩ := h
    have hm : ap (l.gens.getD s.2 []) (l.orb.getD s.1 0) ∉ l.orb := fun hm => by
      have : l.orb.contains (ap (l.gens.getD s.2 []) (l.orb.getD s.1 0)) = true := by simpa using hm
      rw [this] at h3; cases h3
    have pg := hp.gens _ (getD_mem (d := []) h2)
    have e : lvAdd l s = l.add (ap (l.gens.getD s.2 []) (l.orb.getD s.1 0)) (mulP (inv (l.gens.getD s.2 [])) (l.bk s.1)) := by
      unfold lvAdd invC; rw [Go.Proofs.Ythhfjagnmhhapaa.invTo_inv pg]
    rw [e] at h4
    show LvOK n (mkLv (lvAdd l s) ss) ∧ Grow l0 (mkLv (lvAdd l s) ss)
    rw [e]
    exact mkLv_ok ss _ l0 (hp.add h1 h2 hm) (hg.add _ _) h4
def schrC (l : Lv) (a k : Nat) : List Int := mulP (mulP (invC (l.bk a)) (l.gens.getD k [])) (l.to (ap (l.gens.getD k []) (l.orb.getD a 0)))
theorem schrC_eq {n : Nat} {l : Lv} (h : LvOK n l) {a : Nat} (k : Nat) (ha : a < l.orb.length) : schrC l a k = l.schr a k := by
  unfold schrC Lv.schr invC
  rw [Go.Proofs.Ythhfjagnmhhapaa.invTo_inv (h.grp.perm _ (h.bin a ha))]
theorem schr_fix {n : Nat} {l : Lv} (h : LvOK n l) {a k : Nat} (ha : a < l.orb.length) (hk : k < l.gens.length) : Gen n l.gens (l.schr a k) ∧ ap (l.schr a k) l.pt = l.pt := by
  have hg := h.grp
  have hb := h.bin a ha
  have pb := hg.perm _ hb
  have hgk := gen_self h.gens (getD_mem (d := []) hk)
  have hx := h.orb_in (getD_mem (d := 0) ha)
  have hm : ap (l.gens.getD k []) (l.orb.getD a 0) ∈ l.orb := by rw [h.mem]; exact .step _ (getD_mem hk) ((h.mem _).1 (getD_mem ha))
  have hp := hg.mul _ _ (hg.inv hb) hgk
  have e1 : ap (mulP (inv (l.bk a)) (l.gens.getD k [])) l.pt = ap (l.gens.getD k []) (l.orb.getD a 0) := by
    rw [ap_mul pb.inv h.pt]
    congr 1
    rw [← h.bap a ha, ap_inv pb hx]
  refine ⟨hg.mul _ _ hp (h.to_in hm), ?_⟩
  unfold Lv.schr
  rw [ap_mul (hg.perm _ hp) h.pt, e1, h.to_ap hm]
abbrev Spec := List (Int × List (Nat × Nat) × List (Nat × Nat))
def mkCh (n : Nat) : Spec → List (List Int) → List Lv
  | [], _ => []
  | s :: ss, gens => mkLv (Lv.one n s.1 gens) s.2.1 :: mkCh n ss (s.2.2.map fun x => schrC (mkLv (Lv.one n s.1 gens) s.2.1) x.1 x.2)
def okCh (n : Nat) : Spec → List (List Int) → Bool
  | [], gens => gens.isEmpty
  | s :: ss, gens => decide (0 ≤ s.1 ∧ s.1 < n) && (okLv (Lv.one n s.1 gens) s.2.1 && (okCh n ss (s.2.2.map fun x => schrC (mkLv (Lv.one n s.1 gens) s.2.1) x.1 x.2) &&
    (s.2.2.all (fun x => decide (x.1 < (mkLv (Lv.one n s.1 gens) s.2.1).orb.length) && decide (x.2 < gens.length)) &&
    (List.range (mkLv (Lv.one n s.1 gens) s.2.1).orb.length).all fun a => (List.range gens.length).all fun k =>
      (siftL (mkCh n ss (s.2.2.map fun x => schrC (mkLv (Lv.one n s.1 gens) s.2.1) x.1 x.2)) (schrC (mkLv (Lv.one n s.1 gens) s.2.1) a k)).1 == idList n)))
theorem mkCh_ok {n : Nat} (n1 : 1 ≤ n ∧ n ≤ 512) : ∀ (ss : Spec) (gens : List (List Int)), GensN n gens → okCh n ss gens = true → Links n (mkCh n ss gens) ∧ Full n (mkCh n ss gens) ∧ ∀ p, grpOf n (mkCh n ss gens) p ↔ Gen n gens p
  | [], gens, _, h => by
    have : gens = [] := by simpa [okCh] using h
    subst this
    exact ⟨n1, trivial, fun p => by rw [gen_nil]; exact Iff.rfl⟩
  | s :: ss, gens, gn, h => by
    simp only [okCh, Bool.and_eq_true, decide_eq_true_eq, List.all_eq_true, List.mem_range, beq_iff_eq] at h
    obtain ⟨h1, h2, h3, h4, h5⟩ := h
    obtain ⟨ok, gr⟩ := mkLv_ok s.2.1 _ _ (part_one n1 h1 gn) (Grow.refl _) h2
    have hgens : (mkLv (Lv.one n s.1 gens) s.2.1).gens = gens := gr.gens
    have hdone := gr.new
    show Links n (mkLv (Lv.one n s.1 gens) s.2.1 :: mkCh n ss _) ∧ Full n (mkLv (Lv.one n s.1 gens) s.2.1 :: mkCh n ss _) ∧ ∀ p, Gen n (mkLv (Lv.one n s.1 gens) s.2.1).gens p ↔ Gen n gens p
    generalize mkLv (Lv.one n s.1 gens) s.2.1 = l at *
    have hsel : ∀ g ∈ s.2.2.map (fun x => schrC l x.1 x.2), Gen n l.gens g ∧ ap g l.pt = l.pt := fun g hg => by
      obtain ⟨x, hx, rfl⟩ := List.mem_map.1 hg
      obtain ⟨a1, a2⟩ := h4 x hx
      rw [schrC_eq ok _ a1]
      exact schr_fix ok a1 (by rw [hgens]; exact a2)
    obtain ⟨i1, i2, i3⟩ := mkCh_ok n1 ss _ (fun g hg => ok.grp.perm _ (hsel g hg).1) h3
    have hL : Links n (l :: mkCh n ss (s.2.2.map fun x => schrC l x.1 x.2)) := ⟨ok, fun p hp => gen_le (stab_grp ok.grp ok.pt) hsel ((i3 p).1 hp), fun a ha => ⟨by rw [hdone]; omega, fun k hk => by rw [hdone] at hk; omega⟩, i1⟩
    refine ⟨hL, ⟨schreier hL fun a ha k hk => ?_, i2⟩, fun p => by rw [hgens]⟩
    have hs := h5 a ha k (by rw [← hgens]; exact hk)
    rw [schrC_eq ok _ ha] at hs
    have ps := ok.grp.perm _ (schr_fix ok ha hk).1
    rw [← sift_grp i1 ps, hs]
    exact i1.grp.one
theorem mkCh_card {n : Nat} (n1 : 1 ≤ n ∧ n ≤ 512) {ss : Spec} {gens : List (List Int)} (gn : GensN n gens) (h : okCh n ss gens = true) : Card (Gen n gens) (prodL (mkCh n ss gens)) := by
  obtain ⟨h1, h2, h3⟩ := mkCh_ok n1 ss gens gn h
  exact (full_card h1 h2).congr h3
end Go.PM
namespace Go.Proofs.Ythhfjagnmhhapaa
open Go.W Go.PM
end Go.Proofs.Ythhfjagnmhhapaa

/- What awake of law 17 asks, in plain Lean. -/
namespace Go.PM
theorem mkCh_mem {n : Nat} (n1 : 1 ≤ n ∧ n ≤ 512) {ss : Spec} {gens : List (List Int)} (gn : GensN n gens) (h : okCh n ss gens = true) {p : List Int} (hp : PermN n p) : (siftL (mkCh n ss gens) p).1 = idList n ↔ Gen n gens p := by
  obtain ⟨h1, h2, h3⟩ := mkCh_ok n1 ss gens gn h
  rw [sift_iff h1 h2 hp]; exact h3 p
def ge3 : List (List Int) := [[1, 2, 0], [1, 0, 2]]
def ge4 : List (List Int) := [[1, 2, 3, 0]]
def sp3 : Spec := [(0, [(0, 0), (1, 0)], [(0, 1)]), (1, [(0, 0)], [])]
def sp4 : Spec := [(0, [(0, 0), (1, 0), (2, 0)], [])]
end Go.PM
namespace Go.Proofs.Ythhfjagnmhhapaa
open Go.W Go.PM
theorem gn3 : GensN 3 ge3 := permsB_iff.1 (by kernel_rfl)
theorem gn4 : GensN 4 ge4 := permsB_iff.1 (by kernel_rfl)
theorem ok3 : okCh 3 sp3 ge3 = true := by kernel_rfl
theorem ok4 : okCh 4 sp4 ge4 = true := by kernel_rfl
theorem pr3 : prodL (mkCh 3 sp3 ge3) = 6 := by kernel_rfl
theorem card3 : Card (Gen 3 ge3) 6 := pr3 ▸ mkCh_card (by decide) gn3 ok3
theorem in4 : Gen 4 ge4 [2, 3, 0, 1] := (mkCh_mem (by decide) gn4 ok4 ((permsB_iff (n := 4) (l := [[2, 3, 0, 1]])).1 (by kernel_rfl) [2, 3, 0, 1] (List.mem_singleton.2 rfl))).1 (by kernel_rfl)
theorem out4 : ¬ Gen 4 ge4 [1, 0, 2, 3] := fun h => by
  have := (mkCh_mem (by decide) gn4 ok4 ((permsB_iff (n := 4) (l := [[1, 0, 2, 3]])).1 (by kernel_rfl) [1, 0, 2, 3] (List.mem_singleton.2 rfl))).2 h
  exact absurd this (by decide +kernel)
theorem chain_orbLen {n : Nat} {G : List Int → Prop} {base : List Int} {ls : List Lv} (hL : Links n ls) (hg : ∀ p, grpOf n ls p ↔ G p) (hF : Full n ls) (hbl : base.length ≤ ls.length) (hpts : ∀ i, i < base.length → (ls.getD i lv0).pt = base.getD i 0) {i : Nat} (hi : i < base.length) : OrbLen (PStab G (base.take i)) (base.getD i 0) (ls.getD i lv0).orb.length := by
  have hil : i < ls.length := by omega
  have ok := hL.ok (getD_some hil)
  refine ⟨(ls.getD i lv0).orb, ok.nd, fun y => ?_, rfl⟩
  rw [ok.mem' y, hpts i hi]
  have key : ∀ p, Gen n (ls.getD i lv0).gens p ↔ PStab G (base.take i) p := fun p => by
    have h1 := full_stab lv0 i ls (by omega) hL hF p
    rw [drop_cons hil] at h1
    have h1' : Gen n (ls.getD i lv0).gens p ↔ grpOf n ls p ∧ ∀ j, j < i → ap p (ls.getD j lv0).pt = (ls.getD j lv0).pt := h1
    rw [h1', hg p]
    constructor
    · rintro ⟨a, b⟩
      refine ⟨a, fun x hx => ?_⟩
      obtain ⟨j, hj, e⟩ := List.getElem_of_mem hx
      rw [List.length_take] at hj
      have := b j (by omega)
      rw [hpts j (by omega), List.getD_eq_getElem?_getD, List.getElem?_eq_getElem (by omega)] at this
      rw [List.getElem_take] at e
      rw [← e]; exact this
    · rintro ⟨a, b⟩
      refine ⟨a, fun j hj => ?_⟩
      rw [hpts j (by omega)]
      refine b _ ?_
      rw [List.getD_eq_getElem?_getD, List.getElem?_eq_getElem (by omega)]
      exact List.mem_take_iff_getElem.2 ⟨j, by omega, rfl⟩
  exact ⟨fun ⟨p, a, b⟩ => ⟨p, (key p).1 a, b⟩, fun ⟨p, a, b⟩ => ⟨p, (key p).2 a, b⟩⟩
theorem len3 {L : List Int} (h : LenOK 3 ge3 [0, 1] 2 L) : L = [3, 2] := by
  obtain ⟨h1, h2, h3⟩ := mkCh_ok (by decide) sp3 ge3 gn3 ok3
  have hb : ([0, 1] : List Int).length ≤ (mkCh 3 sp3 ge3).length := by decide +kernel
  have hp : ∀ i, i < ([0, 1] : List Int).length → ((mkCh 3 sp3 ge3).getD i lv0).pt = ([0, 1] : List Int).getD i 0 := by decide +kernel
  obtain ⟨m0, e0, o0⟩ := h.2 0 (by omega)
  obtain ⟨m1, e1, o1⟩ := h.2 1 (by omega)
  have a0 := o0.unique (chain_orbLen h1 h3 h2 hb hp (i := 0) (by simp))
  have a1 := o1.unique (chain_orbLen h1 h3 h2 hb hp (i := 1) (by simp))
  have l0 : ((mkCh 3 sp3 ge3).getD 0 lv0).orb.length = 3 := by kernel_rfl
  have l1 : ((mkCh 3 sp3 ge3).getD 1 lv0).orb.length = 2 := by kernel_rfl
  rw [l0] at a0
  rw [l1] at a1
  subst a0
  subst a1
  have hl := h.1
  match L, hl with
  | [x, y], _ => simp at e0 e1; rw [e0, e1]
end Go.Proofs.Ythhfjagnmhhapaa

namespace Go.Proofs.Ythhfjagnmhhapaa
open Go.W Go.LM

theorem refTrim_spec {ls : List Nat} {a : Option Addr} {c : Nat} {w : World} (h : Limbs w a c ls) :
    CallsR Try.prog 59 #[.slice a ls.length c] w (RetN w (trimL ls)) := by
  have hlen := h.len
  have hcap := h.cap
  refine callsR_of (args := [_]) Try.func59 rfl rfl ?_
  repeat' (first | (refine k_pure rfl ?_) | (refine then_normal ?_) | (refine cw_seq ?_) | (refine cw_region rfl ?_) | (refine rr_nil ?_) | (refine k_len rfl ?_) | (refine cw_block ?_))
  refine cw_loop (ι := Nat) [3, 6, 7, 8, 9, 10, 11, 12, 13, 14, 15, 16, 17] (fun k => [(3, .int .i64 (k : Int))]) (fun k w' => k ≤ ls.length ∧ w' = w ∧ trimL (ls.take k) = trimL ls) (fun k => k) ls.length ⟨rfl, trivial⟩ ⟨Nat.le_refl _, rfl, by simp⟩ ?_
  rintro k ξ w2 ⟨hk, rfl, hT⟩
  repeat' (first | (refine k_indexN (j := k - 1) rfl (by show Value.int .i64 ((k : Int) - 1) = _; congr 1; omega) (h.sl.plain (by simp; omega)) (by omega) ?_) | (refine k_loadN rfl h.sl (by omega) ?_) | (refine k_pure rfl ?_) | (refine then_normal ?_) | (refine cw_seq ?_) | (refine cw_region rfl ?_) | (refine rr_nil ?_) | (refine g_run rfl rfl ?_) | (refine g_skip rfl rfl ?_) | (refine g_dec_t rfl rfl (fun hc => ?_) (fun hc => ?_)) | (refine k_subI rfl rfl (by omega) (by omega) ?_) | (refine cw_cond_false rfl ?_) | (refine cw_cond_dec rfl (fun hc => ?_) (fun hc => ?_)) | (refine cw_block ?_) | (refine cw_exit ?_) | (refine then_exit ?_) | (refine in_exit ?_) | (refine in_normal ?_) | (refine cw_skip ?_))
  · refine ⟨⟨k - 1, ⟨by omega, rfl, ?_⟩, by omega, ?_, trivial⟩, (by (repeat (first | exact agree_mask _ _ _ | refine agree_upd rfl ?_ | refine agree_updO rfl ?_ | refine agree_overIn rfl ?_ | refine agree_maskIn rfl ?_)))⟩
    · rw [← hT, take_pred hk (by omega), show ls.getD (k - 1) 0 = 0 by omega, trimL_snoc_zero]
    · show Value.int .i64 ((k : Int) - 1) = _
      congr 1; omega
  all_goals
    have hkk : trimL ls = ls.take k := by
      rw [← hT]
      rcases Nat.eq_zero_or_pos k with rfl | h0
      · rfl
      · rw [take_pred hk (by omega), trimL_snoc (by omega), ← take_pred hk (by omega)]
    refine k_sliceTo rfl rfl (by omega) (by omega) ?_
    rw [Int.toNat_natCast]
    have hL := h.take k
    have hkl : (ls.take k).length = k := by simp [Nat.min_eq_left hk]
    refine k_copy (E := 105) (y := 4) rfl rfl rfl hL.sl (by simp [Nat.min_eq_left hk]) (all_one (fun _ => rfl) _) (by omega) (by omega) (fun a' c' w3 hO3 hE3 => ⟨fun _ _ => trivial, ?_⟩)
    repeat' (first | (refine k_pure rfl ?_) | (refine then_normal ?_) | (refine rr_nil ?_) | (refine cw_ret ?_))
    refine ret1 rfl (rt rfl) ?_
    rw [hkk]
    refine ⟨a', c', by rw [hkl]; rfl, ⟨hO3.sl, ?_, hL.lim, hL.len⟩, fun ad e => (hO3.lo ad e).1, hE3⟩
    rw [hkl]
    rcases hO3.2 with ⟨hv, hn⟩ | ⟨g, cap2, cur, hv, hbg, hg, hnc, hcm, hcs, htake⟩
    · simp only [Value.slice.injEq] at hv; omega
    · simp only [Value.slice.injEq] at hv; omega

/-- a magnitude that need not be canonical: sign and limbs -/
theorem refMake_spec {ls : List Nat} {a : Option Addr} {c : Nat} {w : World} (h : Limbs w a c ls) (neg : Bool) :
    CallsR Try.prog 64 #[.bool neg, .slice a ls.length c] w (RetZ w (sgn neg (natOf ls))) := by
  refine callsR_of (args := [_, _]) Try.func64 rfl rfl ?_
  repeat' (first | (refine k_alloc (fun g w1 hn => ⟨fun _ _ => trivial, ?_⟩)) | (refine k_pure rfl ?_) | (refine then_normal ?_) | (refine cw_seq ?_) | (refine cw_region rfl ?_) | (refine rr_nil ?_))
  refine k_call (refTrim_spec (h.ext hn.ex)) rfl ?_
  rintro v w2 ⟨a2, c2, rfl, hL2, hf2, hE2⟩
  refine ⟨fun _ _ => trivial, ?_⟩
  have hb : Blk w2 g 24 (intL false none 0 0) := Blk.ext (cs := intL false none 0 0) hn.blk hE2
  have l1 := hn.lo
  have l2 := hn.hi
  have l3 := hE2.size
  cases neg
  · repeat' (first | (refine k_pure rfl ?_) | (refine then_normal ?_) | (refine cw_seq ?_) | (refine cw_region rfl ?_) | (refine rr_nil ?_) | (refine g_skip rfl rfl ?_))
    refine k_build (cs := intL false a2 (trimL ls).length c2) rfl ?_
    refine k_storeV (n := 2) rfl rfl rfl rfl hb rfl (fun w3 hc3 hb3 => ⟨fun _ _ => trivial, ?_⟩)
    repeat' (first | (refine then_normal ?_) | (refine rr_nil ?_) | (refine cw_ret ?_))
    refine ret1 rfl (rc rfl rfl hb3) ⟨⟨false, a2, c2, trimL ls, rfl, hL2.chg hc3 (fun ad e => by have := hf2 ad e; omega), by rw [trimL_natOf], canon_trimL _, by simp, fun ad e => by have := hf2 ad e; omega⟩, (hn.ex.trans hE2).chg hc3 (by omega)⟩
  · repeat' (first | (refine k_pure rfl ?_) | (refine then_normal ?_) | (refine cw_seq ?_) | (refine cw_region rfl ?_) | (refine rr_nil ?_) | (refine k_len rfl ?_) | (refine g_run rfl rfl ?_))
    refine k_build (cs := intL (decide ((0 : Int) < ((trimL ls).length : Int))) a2 (trimL ls).length c2) rfl ?_
    refine k_storeV (n := 2) rfl rfl rfl rfl hb rfl (fun w3 hc3 hb3 => ⟨fun _ _ => trivial, ?_⟩)
    repeat' (first | (refine then_normal ?_) | (refine rr_nil ?_) | (refine cw_ret ?_))
    refine ret1 rfl (rc rfl rfl hb3) ⟨⟨_, a2, c2, trimL ls, rfl, hL2.chg hc3 (fun ad e => by have := hf2 ad e; omega), ?_, canon_trimL _, ?_, fun ad e => by have := hf2 ad e; omega⟩, (hn.ex.trans hE2).chg hc3 (by omega)⟩
    · by_cases h0 : trimL ls = []
      · have := trimL_zero.1 h0
        simp [h0, this, sgn, natOf]
      · have : (0 : Int) < ((trimL ls).length : Int) := by
          have := List.length_pos_iff.2 h0; omega
        rw [decide_eq_true this, trimL_natOf]
    · intro hd h0
      rw [h0] at hd; simp at hd

theorem refWord_spec {n : Nat} (hn : n < 18446744073709551616) (neg : Bool) (w : World) : CallsR Try.prog 49 #[.bool neg, .int .u64 (n : Int)] w (RetZ w (sgn neg n)) := by
  refine callsR_of (args := [_, _]) Try.func49 rfl rfl ?_
  repeat' (first | (refine k_alloc (fun g w1 hn1 => ⟨fun _ _ => trivial, ?_⟩)) | (refine k_down rfl ?_) | (refine k_shr32 rfl rfl ?_) | (refine k_pure rfl ?_) | (refine then_normal ?_) | (refine cw_seq ?_) | (refine cw_region rfl ?_) | (refine rr_nil ?_))
  refine k_lit2 rfl rfl rfl rfl (fun g2 w2 hn2 => ⟨fun _ _ => trivial, ?_⟩)
  have hL : Limbs w2 (some ⟨g2, 0, none⟩) 2 [n % 4294967296, n / 4294967296 % 4294967296] := ⟨hn2.blk.sl, by simp, by intro d hd; simp at hd; omega, by simp⟩
  refine k_call (refMake_spec hL neg) rfl ?_
  rintro v w3 ⟨hI, hE3⟩
  obtain ⟨ng, a', c', ls, rfl, hI'⟩ := id hI
  refine ⟨fun _ _ => trivial, ?_⟩
  have hb : Blk w3 g 24 (intL false none 0 0) := Blk.ext (cs := intL false none 0 0) (Blk.ext (cs := intL false none 0 0) hn1.blk hn2.ex) hE3
  have l1 := hn1.lo
  have l2 := hn1.hi
  have l3 := hn2.ex.size
  refine k_storeV (n := 2) rfl rfl rfl rfl hb rfl (fun w4 hc4 hb4 => ⟨fun _ _ => trivial, ?_⟩)
  repeat' (first | (refine then_normal ?_) | (refine rr_nil ?_) | (refine cw_ret ?_))
  refine ret1 rfl (rc rfl rfl hb4) ⟨?_, ((hn1.ex.trans hn2.ex).trans hE3).chg hc4 l1⟩
  have e : natOf [n % 4294967296, n / 4294967296 % 4294967296] = n := by simp [natOf]; omega
  rw [e] at hI
  exact (hI.chg hc4 (by omega)).mono (by omega)

theorem refSmall_spec {z : Int} (h1 : -9223372036854775808 ≤ z) (h2 : z ≤ 9223372036854775807) (w : World) : CallsR Try.prog 17 #[.int .i64 z] w (RetZ w z) := by
  refine callsR_of (args := [_]) Try.func17 rfl rfl ?_
  repeat' (first | (refine k_alloc (fun g w1 hn => ⟨fun _ _ => trivial, ?_⟩)) | (refine k_pure rfl ?_) | (refine then_normal ?_) | (refine cw_seq ?_) | (refine cw_region rfl ?_) | (refine rr_nil ?_) | (refine cw_cond_dec rfl (fun hc => ?_) (fun hc => ?_)) | (refine cw_skip ?_))
  all_goals have hb : Blk w1 g 24 (intL false none 0 0) := hn.blk
  · refine k_conv rfl ?_
    refine k_negU rfl ?_
    obtain ⟨n, rfl⟩ : ∃ n : Nat, z = -(n : Int) := ⟨(-z).toNat, by omega⟩
    rw [show IntKind.u64.wrap (-IntKind.u64.wrap (-(n : Int))) = ((n : Nat) : Int) by
      rw [wrap_uns rfl, wrap_uns rfl]; simp only [IntKind.bits]; omega]
    refine k_call (refWord_spec (by omega) true _) rfl ?_
    rintro v w3 ⟨hI, hE3⟩
    obtain ⟨neg, a', c', ls, rfl, hI'⟩ := id hI
    refine ⟨fun _ _ => trivial, ?_⟩
    refine k_storeV (n := 2) rfl rfl rfl rfl (hb.ext hE3) rfl (fun w4 hc4 hb4 => ⟨fun _ _ => trivial, ?_⟩)
    repeat' (first | (refine then_normal ?_) | (refine rr_nil ?_) | (refine cw_ret ?_) | (refine then_ret ?_))
    exact ret1 rfl (rc rfl rfl hb4) ⟨(hI.chg hc4 hn.hi).mono hn.ex.size, (hn.ex.trans hE3).chg hc4 hn.lo⟩
  · obtain ⟨n, rfl⟩ : ∃ n : Nat, z = (n : Int) := ⟨z.toNat, by omega⟩
    refine k_convI rfl (wrap_u64 (by omega) (by omega)) ?_
    refine k_call (refWord_spec (by omega) false _) rfl ?_
    rintro v w3 ⟨hI, hE3⟩
    obtain ⟨neg, a', c', ls, rfl, hI'⟩ := id hI
    refine ⟨fun _ _ => trivial, ?_⟩
    refine k_storeV (n := 2) rfl rfl rfl rfl (hb.ext hE3) rfl (fun w4 hc4 hb4 => ⟨fun _ _ => trivial, ?_⟩)
    repeat' (first | (refine then_normal ?_) | (refine rr_nil ?_) | (refine cw_ret ?_))
    exact ret1 rfl (rc rfl rfl hb4) ⟨(hI.chg hc4 hn.hi).mono hn.ex.size, (hn.ex.trans hE3).chg hc4 hn.lo⟩

theorem refCmp_spec {la lb : List Nat} {a b : Option Addr} {c d : Nat} {w : World} (ha : Limbs w a c la) (hb : Limbs w b d lb) (ca : Canon la) (cb : Canon lb) :
    CallsR Try.prog 48 #[.slice a la.length c, .slice b lb.length d] w fun v w' => v = .int .i64 (cmpZ (natOf la) (natOf lb)) ∧ Ex w w' := by
  have hla := ha.len
  refine callsR_of (args := [_, _]) Try.func48 rfl rfl ?_
  repeat' (first | (refine k_pure rfl ?_) | (refine then_normal ?_) | (refine cw_seq ?_) | (refine cw_region rfl ?_) | (refine rr_nil ?_) | (refine k_len rfl ?_) | (refine k_subI rfl rfl (by omega) (by omega) ?_) | (refine cw_cond_dec rfl (fun hc => ?_) (fun hc => ?_)) | (refine cw_block ?_) | (refine cw_ret ?_) | (refine then_ret ?_) | (refine cw_skip ?_))
  · refine ret1 rfl (rt rfl) ⟨?_, Ex.refl _⟩
    rw [cmpZ, if_pos (lt_of_len ha.lim cb (by omega))]; rfl
  · refine ret1 rfl (rt rfl) ⟨?_, Ex.refl _⟩
    have := lt_of_len hb.lim ca (by omega)
    rw [cmpZ, if_neg (by omega), if_pos this]; rfl
  · have hl : la.length = lb.length := by omega
    refine cw_loop (ι := Nat) [4, 5, 19, 20, 21, 22, 23, 24, 25, 26, 27, 28, 29, 30, 31, 32, 33, 34, 35, 36, 37, 38, 39, 40] (fun k => [(5, .int .i64 ((k : Int) - 1))]) (fun k w' => k ≤ la.length ∧ Ex w w' ∧ natOf (la.drop k) = natOf (lb.drop k)) (fun k => k) la.length ⟨rfl, trivial⟩
      ⟨Nat.le_refl _, Ex.refl _, by rw [List.drop_length, hl, List.drop_length]⟩ ?_
    rintro k ξ w2 ⟨hk, hE, hT⟩
    repeat' (first | (refine k_pure rfl ?_) | (refine then_normal ?_) | (refine cw_seq ?_) | (refine cw_region rfl ?_) | (refine rr_nil ?_) | (refine cw_cond_dec rfl (fun hc => ?_) (fun hc => ?_)) | (refine cw_block ?_) | (refine cw_exit ?_) | (refine then_exit ?_) | (refine in_exit ?_) | (refine cw_ret ?_) | (refine cw_skip ?_))
    · obtain ⟨j, rfl⟩ : ∃ j, k = j + 1 := ⟨k - 1, by omega⟩
      rw [show ((j + 1 : Nat) : Int) - 1 = (j : Int) by omega]
      refine cw_draw (late := []) (plan := [(0, none), (1, none), (2, none), (3, none), (4, none), (5, none), (6, none), (7, none), (8, none)]) (fun w' => Ex w w') mixed (by kernel_rfl) hE.drew ?_
      repeat' (first | (refine k_indexN (j := j) rfl rfl (ha.sl.plain (by simp; omega)) (by omega) ?_) | (refine k_indexN (j := j) rfl rfl (hb.sl.plain (by simp; omega)) (by omega) ?_) | (refine k_loadN rfl (fun _ h => ha.sl.ext h) (by omega) ?_) | (refine k_loadN rfl (fun _ h => hb.sl.ext h) (by omega) ?_) | (refine k_pure rfl ?_) | (refine then_normal ?_) | (refine cw_seq ?_) | (refine cw_region rfl ?_) | (refine rr_nil ?_) | (refine k_subI rfl rfl (by omega) (by omega) ?_) | (refine cw_cond_dec rfl (fun hc => ?_) (fun hc => ?_)) | (refine in_normal ?_) | (refine cw_skip ?_))
      · refine cw_draw (late := []) (plan := [(0, none), (1, none), (2, none), (3, none), (4, none), (5, none), (6, none), (7, none), (8, none)]) (fun w' => Ex w w') mixed (by kernel_rfl) hE.drew.drew ?_
        repeat' (first | (refine k_indexN (j := j) rfl rfl (ha.sl.plain (by simp; omega)) (by omega) ?_) | (refine k_indexN (j := j) rfl rfl (hb.sl.plain (by simp; omega)) (by omega) ?_) | (refine k_loadN rfl (fun _ h => ha.sl.ext h) (by omega) ?_) | (refine k_loadN rfl (fun _ h => hb.sl.ext h) (by omega) ?_) | (refine k_pure rfl ?_) | (refine then_normal ?_) | (refine cw_seq ?_) | (refine cw_region rfl ?_) | (refine rr_nil ?_) | (refine cw_cond_dec rfl (fun hc => ?_) (fun hc => ?_)) | (refine cw_ret ?_) | (refine then_ret ?_) | (refine in_ret ?_) | (refine cw_skip ?_))
        · refine ret1 rfl (rt rfl) ⟨?_, hE.drew.drew⟩
          rw [cmpZ, if_pos (lt_of_digit (i := j) ha.lim hl (by omega) hT (by omega))]; rfl
        · refine ret1 rfl (rt rfl) ⟨?_, hE.drew.drew⟩
          have := lt_of_digit (i := j) hb.lim hl.symm (by omega) hT.symm (by omega)
          rw [cmpZ, if_neg (by omega), if_pos this]; rfl
      · refine ⟨⟨j, ⟨by omega, hE.drew, ?_⟩, by omega, ?_, trivial⟩, (by (repeat (first | exact agree_mask _ _ _ | refine agree_upd rfl ?_ | refine agree_updO rfl ?_ | refine agree_overIn rfl ?_ | refine agree_maskIn rfl ?_)))⟩
        · rw [natOf_drop (ls := la) (k := j) (by omega), natOf_drop (ls := lb) (k := j) (by omega), hT, show la.getD j 0 = lb.getD j 0 by omega]
        · rfl
    · obtain rfl : k = 0 := by omega
      simp only [List.drop_zero] at hT
      refine ret1 rfl (rt rfl) ⟨?_, hE⟩
      rw [cmpZ, if_neg (by omega), if_neg (by omega)]; rfl

theorem sgn_inj {n1 n2 : Bool} {l1 l2 : List Nat} (c1 : Canon l1) (c2 : Canon l2) (g1 : n1 = true → l1 ≠ []) (g2 : n2 = true → l2 ≠ []) :
    sgn n1 (natOf l1) = sgn n2 (natOf l2) ↔ n1 = n2 ∧ natOf l1 = natOf l2 := by
  have hz : ∀ {l : List Nat}, Canon l → natOf l = 0 → l = [] := fun {l} c h => by have := trimL_zero.2 h; rwa [c] at this
  unfold sgn
  cases n1 <;> cases n2 <;> simp
  · omega
  · intro h
    have h2 : natOf l2 = 0 := by omega
    exact g2 rfl (hz c2 h2)
  · intro h
    have h1 : natOf l1 = 0 := by omega
    exact g1 rfl (hz c1 h1)
  · omega

theorem refSame_spec {lo lo' : Nat} {v1 v2 : Value} {x y : Int} {w : World} (h1 : IntC lo w v1 x) (h2 : IntC lo' w v2 y) :
    CallsR Try.prog 16 #[v1, v2] w fun v w' => v = .bool (decide (x = y)) ∧ Ex w w' := by
  obtain ⟨n1, a1, c1, l1, rfl, hL1, rfl, hc1, g1, _⟩ := h1
  obtain ⟨n2, a2, c2, l2, rfl, hL2, rfl, hc2, g2, _⟩ := h2
  have hiff := sgn_inj hc1 hc2 g1 g2
  refine callsR_of (args := [_, _]) Try.func16 rfl rfl ?_
  refine cw_seq ?_
  refine cw_region rfl ?_
  refine k_boxA rfl (fun ga w2 hn2 => ⟨fun _ _ => trivial, ?_⟩)
  refine k_boxA rfl (fun gb w3 hn3 => ⟨fun _ _ => trivial, ?_⟩)
  have hb2 := hn2.blk.ext hn3.ex
  have hb3 := hn3.blk
  have hE := hn2.ex.trans hn3.ex
  have hle : natOf l1 = natOf l2 → l1.length = l2.length := fun h => by rw [canon_unique hL1.lim hL2.lim hc1 hc2 h]
  repeat' (first | (refine k_loadC rfl hb2 rfl ?_) | (refine k_loadC rfl hb3 rfl ?_) | (refine k_pure rfl ?_) | (refine then_normal ?_) | (refine cw_seq ?_) | (refine cw_region rfl ?_) | (refine rr_nil ?_) | (refine k_len rfl ?_) | (refine g_run rfl rfl ?_) | (refine g_skip rfl rfl ?_) | (refine g_dec_t rfl rfl (fun hc => ?_) (fun hc => ?_)) | (refine k_fieldAddr rfl ?_) | (refine k_eqlB rfl rfl ?_) | (refine cw_ret ?_))
  · refine k_call (refCmp_spec (hL1.ext hE) (hL2.ext hE) hc1 hc2) rfl ?_
    rintro v w4 ⟨rfl, hE4⟩
    refine ⟨fun _ _ => trivial, ?_⟩
    repeat' (first | (refine k_pure rfl ?_) | (refine then_normal ?_) | (refine rr_nil ?_) | (refine g_run rfl rfl ?_) | (refine cw_ret ?_))
    refine ret1 rfl (rt rfl) ⟨congrArg Value.bool (decide_eq_decide.2 ?_), hE.trans hE4⟩
    rw [hiff]
    unfold cmpZ
    have hn : n1 = n2 := by assumption
    constructor
    · intro h
      refine ⟨hn, ?_⟩
      split at h
      · omega
      · split at h
        · omega
        · omega
    · rintro ⟨_, h⟩
      rw [if_neg (by omega), if_neg (by omega)]
  all_goals
    refine ret1 rfl (rt rfl) ⟨congrArg Value.bool (Eq.symm (decide_eq_false ?_)), hE⟩
    rw [hiff]
    rintro ⟨h1, h2⟩
    have := hle h2
    first | omega | (subst h1; simp_all; done)
end Go.Proofs.Ythhfjagnmhhapaa

