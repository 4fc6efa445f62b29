
import Derived.Test.YthhfjagnmhhapaaA01
import Derived.Test.YthhfjagnmhhapaaA02
import Derived.Test.YthhfjagnmhhapaaA03
import Derived.Test.YthhfjagnmhhapaaA04
import Derived.Test.YthhfjagnmhhapaaA05
import Derived.Test.YthhfjagnmhhapaaA06
import Derived.Test.YthhfjagnmhhapaaA07
import Derived.Test.YthhfjagnmhhapaaA08
import Derived.Test.YthhfjagnmhhapaaA09
import Derived.Test.YthhfjagnmhhapaaA10
import Derived.Test.YthhfjagnmhhapaaA11
import Derived.Test.YthhfjagnmhhapaaA13
import Derived.Test.YthhfjagnmhhapaaA16
import Derived.Test.YthhfjagnmhhapaaA17
import Derived.Test.YthhfjagnmhhapaaA18
import Derived.Test.YthhfjagnmhhapaaA19
import Derived.Test.YthhfjagnmhhapaaA20
import Derived.Test.YthhfjagnmhhapaaA21
import Derived.Test.YthhfjagnmhhapaaA22
import Derived.Test.YthhfjagnmhhapaaA24
import Derived.Test.YthhfjagnmhhapaaB01

namespace Go.Proofs.Ythhfjagnmhhapaa
open Go.W Go.PM Go.LM
theorem mem_take_getD {base : List Int} {i : Nat} {x : Int} (hi : i ≤ base.length) : x ∈ base.take i ↔ ∃ j, j < i ∧ base.getD j 0 = x := by
  constructor
  · intro h
    obtain ⟨j, hj, e⟩ := mem_iff_getD.1 h
    rw [List.length_take] at hj
    refine ⟨j, by omega, ?_⟩
    rw [List.getD_eq_getElem?_getD, List.getElem?_take, if_pos (by omega), ← List.getD_eq_getElem?_getD] at e
    exact e
  · rintro ⟨j, hj, rfl⟩
    refine mem_iff_getD.2 ⟨j, by rw [List.length_take]; omega, ?_⟩
    rw [List.getD_eq_getElem?_getD, List.getElem?_take, if_pos hj, ← List.getD_eq_getElem?_getD]
theorem mem_getDL {S : List (List Int)} {s : List Int} (h : s ∈ S) : ∃ k, k < S.length ∧ S.getD k [] = s := by
  obtain ⟨k, hk, e⟩ := List.getElem_of_mem h
  exact ⟨k, hk, by rw [List.getD_eq_getElem?_getD, List.getElem?_eq_getElem hk, e]; rfl⟩
theorem Gd.pstab {n N0 : Nat} {G : List Int → Prop} {base : List Int} {ls : List Lv} (h : Gd n G base N0 ls) (hF : Full n ls) {i : Nat} (hi : i ≤ base.length) (p : List Int) : grpOf n (ls.drop i) p ↔ PStab G (base.take i) p := by
  have hbl := h.bl
  rw [full_stab lv0 i ls (by omega) h.links hF p, h.grp p]
  constructor
  · rintro ⟨h1, h2⟩
    refine ⟨h1, fun x hx => ?_⟩
    obtain ⟨j, hj, rfl⟩ := (mem_take_getD hi).1 hx
    have := h2 j hj
    rwa [h.pts j (by omega)] at this
  · rintro ⟨h1, h2⟩
    refine ⟨h1, fun j hj => ?_⟩
    rw [h.pts j (by omega)]
    exact h2 _ ((mem_take_getD hi).2 ⟨j, hj, rfl⟩)
theorem Gd.triv {n N0 : Nat} {G : List Int → Prop} {base : List Int} {ls : List Lv} (h : Gd n G base N0 ls) (hF : Full n ls) : ls.length ≤ base.length ↔ ∀ p, PStab G base p → p = idList n := by
  have hp := fun p => h.pstab hF (Nat.le_refl base.length) p
  rw [List.take_length] at hp
  constructor
  · intro hle p hpp
    have := (hp p).2 hpp
    rw [List.drop_eq_nil_of_le hle] at this
    exact this
  · intro ht
    rcases Nat.lt_or_ge base.length ls.length with hlt | hge
    · exfalso
      have h2 := h.two base.length (Nat.le_refl _) hlt
      have ok := h.ok hlt
      have hd := drop_cons hlt
      generalize ls.getD base.length lv0 = l at *
      have hm : l.orb.getD 1 0 ∈ l.orb := getD_mem (by omega)
      obtain ⟨p, hpg, e⟩ := (ok.mem' _).1 hm
      have h3 : grpOf n (ls.drop base.length) p := by rw [hd]; exact hpg
      have := ht p ((hp p).1 h3)
      rw [this, ap_id ok.pt, ← ok.head] at e
      exact (nodup_iff.1 ok.nd) 0 1 (by omega) (by omega) e
    · exact hge
theorem Gd.pcard {n N0 : Nat} {G : List Int → Prop} {base : List Int} {ls : List Lv} (h : Gd n G base N0 ls) (hF : Full n ls) {i : Nat} (hi : i ≤ base.length) : Card (PStab G (base.take i)) (prodL (ls.drop i)) :=
  (full_card (h.links.drop i) (hF.drop i)).congr fun p => h.pstab hF hi p
/-- what Verify answers for all arguments -/
def ErrV (n : Int) (gens : List (List Int)) (deg : Int) (base : List Int) (S : List (List Int)) (e : Int) : Prop :=
  (errS n gens ≠ 0 ∧ e = errS n gens) ∨ (errS n gens = 0 ∧ ((4096 < S.length ∧ e = 7) ∨ (S.length ≤ 4096 ∧ ((¬ (deg = n ∧ Dist n.toNat base ∧ permsB n S = true) ∧ e = 3) ∨ ((deg = n ∧ Dist n.toNat base ∧ permsB n S = true) ∧ IsV n.toNat gens base S e)))))
theorem ErrV.unique {n : Int} {gens : List (List Int)} {deg : Int} {base : List Int} {S : List (List Int)} {e e' : Int} (h : ErrV n gens deg base S e) (h' : ErrV n gens deg base S e') : e = e' := by
  rcases h with ⟨h1, rfl⟩ | ⟨h1, h⟩ <;> rcases h' with ⟨h1', rfl⟩ | ⟨h1', h'⟩
  · rfl
  · exact absurd h1' h1
  · exact absurd h1 h1'
  · rcases h with ⟨h2, rfl⟩ | ⟨h2, h⟩ <;> rcases h' with ⟨h2', rfl⟩ | ⟨h2', h'⟩
    · rfl
    · omega
    · omega
    · rcases h with ⟨h3, rfl⟩ | ⟨h3, h⟩ <;> rcases h' with ⟨h3', rfl⟩ | ⟨h3', h'⟩
      · rfl
      · exact absurd h3' h3
      · exact absurd h3 h3'
      · exact h.unique h'
abbrev chainL (deg : Int) (b : Option Addr) (bl bc : Nat) (s : Option Addr) (sl sc : Nat) : List Value := [.int .i64 deg, .slice b bl bc, .slice s sl sc]
set_option maxHeartbeats 2000000 in
theorem rVerify_spec {n deg : Int} {gens S : List (List Int)} {base : List Int} {a b sa : Option Addr} {sds ssd : List SD} {cap bc sc : Nat} {w : World} (hL : Lists w .i64 a sds gens) (hl : gens.length ≤ 1000000) (h11 : errS n gens = 0 → n ≤ 11) (hb : Sl w b (intsL base)) (hbl : base.length ≤ 1000) (hbc : base.length ≤ bc)
    (hS : Lists w .i64 sa ssd S) (hSl : S.length ≤ 1000000) :
    CallsR Try.prog 38 #[.int .i64 n, .slice a gens.length cap, .agg (chainL deg b base.length bc sa S.length sc).toArray] w fun v w' => ∃ e, v = .int .i64 e ∧ ErrV n gens deg base S e ∧ Ex w w' := by
  refine callsR_of (args := [_, _, _]) Try.func38 rfl rfl ?_
  have hSlen := hS.len
  repeat' (first | (refine k_boxA rfl (fun g w1 hn1 => ⟨fun _ _ => trivial, ?_⟩)) | (refine k_pure rfl ?_) | (refine then_normal ?_) | (refine cw_seq ?_) | (refine cw_region rfl ?_) | (refine rr_nil ?_))
  refine k_call (group_ref_spec (n := n) (hL.ext hn1.ex) cap (by omega)) rfl ?_
  rw [grp_errS]
  rintro v w2 ⟨rfl, hE2⟩
  refine ⟨fun _ _ => trivial, ?_⟩
  have hEw2 := hn1.ex.trans hE2
  have hb2 := hn1.blk.ext hE2
  by_cases h0 : errS n gens ≠ 0
  · repeat' (first | (refine k_loadC rfl hb2 rfl ?_) | (refine k_pure rfl ?_) | (refine then_normal ?_) | (refine cw_seq ?_) | (refine cw_region rfl ?_) | (refine rr_nil ?_) | (refine k_len rfl ?_) | (refine g_run rfl rfl ?_) | (refine g_skip rfl rfl ?_) | (refine g_dec_f rfl rfl (fun hc => ?_) (fun hc => ?_)) | (refine k_fieldAddr rfl ?_) | (refine cw_cond_true rfl ?_) | (refine cw_cond_dec rfl (fun hc => ?_) (fun hc => ?_)) | (refine cw_ret ?_) | (refine then_ret ?_) | (refine cw_skip ?_))
    · exact ret1 rfl (rt rfl) ⟨_, rfl, .inl ⟨h0, rfl⟩, hEw2⟩
    all_goals omega
  replace h0 : errS n gens = 0 := by omega
  rw [h0]
  by_cases h4 : 4096 < S.length
  · repeat' (first | (refine k_loadC rfl hb2 rfl ?_) | (refine k_gtrT rfl rfl (by omega) ?_) | (refine k_pure rfl ?_) | (refine then_normal ?_) | (refine cw_seq ?_) | (refine cw_region rfl ?_) | (refine rr_nil ?_) | (refine k_len rfl ?_) | (refine k_fieldAddr rfl ?_) | (refine cw_cond_true rfl ?_) | (refine cw_cond_false rfl ?_) | (refine cw_ret ?_) | (refine then_ret ?_) | (refine cw_skip ?_))
    exact ret1 rfl (rt rfl) ⟨_, rfl, .inr ⟨h0, .inl ⟨h4, rfl⟩⟩, hEw2⟩
  have hbad : ∀ w', Ex w w' → ¬ (deg = n ∧ Dist n.toNat base ∧ permsB n S = true) → ∃ e, Value.int .i64 3 = .int .i64 e ∧ ErrV n gens deg base S e ∧ Ex w w' := fun w' hE hn => ⟨3, rfl, .inr ⟨h0, .inr ⟨by omega, .inl ⟨hn, rfl⟩⟩⟩, hE⟩
  by_cases hdeg : deg ≠ n
  · repeat' (first | (refine k_loadC rfl hb2 rfl ?_) | (refine k_gtrF rfl rfl (by omega) ?_) | (refine k_pure rfl ?_) | (refine then_normal ?_) | (refine cw_seq ?_) | (refine cw_region rfl ?_) | (refine rr_nil ?_) | (refine k_len rfl ?_) | (refine g_run rfl rfl ?_) | (refine g_skip rfl rfl ?_) | (refine g_dec_f rfl rfl (fun hc => ?_) (fun hc => ?_)) | (refine k_fieldAddr rfl ?_) | (refine cw_cond_true rfl ?_) | (refine cw_cond_false rfl ?_) | (refine cw_ret ?_) | (refine then_ret ?_) | (refine cw_skip ?_))
    · omega
    · exact ret1 rfl (rt rfl) (hbad _ hEw2 fun h => hdeg h.1)
  replace hdeg : deg = n := by omega
  subst hdeg
  obtain ⟨m, rfl, hm1, hm2, hgl, hgn⟩ := errS_zero h0
  have hm11 : m ≤ 11 := by have := h11 h0; omega
  repeat' (first | (refine k_loadC rfl hb2 rfl ?_) | (refine k_gtrF rfl rfl (by omega) ?_) | (refine k_neqI rfl rfl ?_) | (refine k_pure rfl ?_) | (refine then_normal ?_) | (refine cw_seq ?_) | (refine cw_region rfl ?_) | (refine rr_nil ?_) | (refine k_len rfl ?_) | (refine g_run rfl rfl ?_) | (refine k_fieldAddr rfl ?_) | (refine cw_cond_false rfl ?_) | (refine cw_skip ?_))
  refine k_call (rdiff_spec (n := m) (hb.ext hEw2) hm2 (by omega) hbc) rfl ?_
  rintro v w3 ⟨rfl, hE3⟩
  refine ⟨fun _ _ => trivial, ?_⟩
  have hEw3 := hEw2.trans hE3
  have hb3 := hb2.ext hE3
  by_cases hD : ¬ Dist m base
  · rw [decide_eq_false hD]
    repeat' (first | (refine k_pure rfl ?_) | (refine then_normal ?_) | (refine cw_seq ?_) | (refine cw_region rfl ?_) | (refine rr_nil ?_) | (refine g_run rfl rfl ?_) | (refine cw_cond_true rfl ?_) | (refine cw_ret ?_) | (refine then_ret ?_))
    exact ret1 rfl (rt rfl) (hbad _ hEw3 fun h => hD (by have := h.2.1; rwa [Int.toNat_natCast] at this))
  replace hD : Dist m base := Classical.not_not.1 hD
  rw [decide_eq_true hD]
  repeat' (first | (refine k_loadC rfl hb3 rfl ?_) | (refine k_pure rfl ?_) | (refine then_normal ?_) | (refine cw_seq ?_) | (refine cw_region rfl ?_) | (refine rr_nil ?_) | (refine k_len rfl ?_) | (refine g_run rfl rfl ?_) | (refine k_fieldAddr rfl ?_) | (refine cw_cond_false rfl ?_) | (refine cw_block ?_) | (refine cw_skip ?_))
  refine cw_loop (ι := Nat) [6, 9, 38, 39, 40, 41, 42, 43, 44, 45, 46, 47, 48, 49, 50, 51] (fun s => [(38, .int .i64 (s : Int))]) (fun s w' => s ≤ S.length ∧ Ex w3 w' ∧ ∀ j, j < s → PermN m (S.getD j [])) (fun s => S.length - s)
    0 ⟨rfl, trivial⟩ ⟨Nat.zero_le _, Ex.refl _, fun j hj => absurd hj (by omega)⟩ ?_
  rintro j ξ w4 ⟨hj, hE4, hperm⟩
  show CW _ _ _ _ (over [(38, .int .i64 (j : Int))] _) w4
  have hEw4 := hEw3.trans hE4
  have hS4 := hS.ext hEw4
  by_cases hjl : j < S.length
  · obtain ⟨hsl, hsn⟩ := hS4.each j hjl
    obtain ⟨⟨pa, pl, pc⟩, hsd⟩ : ∃ s, ssd.getD j sd0 = s := ⟨_, rfl⟩
    rw [hsd] at hsl hsn
    simp only at hsl hsn
    subst hsn
    have hno : ¬ PermN m (S.getD j []) → ¬ ((m : Int) = (m : Int) ∧ Dist (m : Int).toNat base ∧ permsB (m : Int) S = true) := fun hp h => hp (permsB_iff.1 h.2.2 _ (getD_mem hjl))
    repeat' (first | (refine k_lssT rfl rfl (by omega) ?_) | (refine k_indexN (j := j) rfl rfl (hS4.sl.plain (by simp; omega)) (by omega) ?_) | (refine k_loadSd rfl hS4.sl (by omega) hsd ?_) | (refine k_pure rfl ?_) | (refine then_normal ?_) | (refine cw_seq ?_) | (refine cw_region rfl ?_) | (refine rr_nil ?_) | (refine k_len rfl ?_) | (refine g_run rfl rfl ?_) | (refine g_skip rfl rfl ?_) | (refine g_dec_f rfl rfl (fun hc => ?_) (fun hc => ?_)) | (refine cw_cond_true rfl ?_) | (refine cw_block ?_) | (refine cw_ret ?_) | (refine then_ret ?_) | (refine in_ret ?_) | (refine cw_skip ?_))
    · refine k_call (refValid_spec hsl _) rfl ?_
      rintro v w5 ⟨rfl, hE5⟩
      refine ⟨fun _ _ => trivial, ?_⟩
      by_cases hv : IsPerm (S.getD j [])
      · rw [decide_eq_true hv]
        repeat' (first | (refine k_pure rfl ?_) | (refine then_normal ?_) | (refine cw_region rfl ?_) | (refine rr_nil ?_) | (refine g_run rfl rfl ?_) | (refine k_addI rfl rfl (by omega) (by omega) ?_) | (refine cw_cond_false rfl ?_) | (refine in_normal ?_) | (refine cw_skip ?_))
        refine ⟨⟨j + 1, ⟨by omega, hE4.trans hE5, fun k hk => ?_⟩, by omega, rfl, trivial⟩, (by (repeat (first | exact agree_mask _ _ _ | refine agree_upd rfl ?_ | refine agree_updO rfl ?_ | refine agree_overIn rfl ?_ | refine agree_maskIn rfl ?_)))⟩
        by_cases e : k = j
        · subst e; exact ⟨hv, by omega⟩
        · exact hperm k (by omega)
      · rw [decide_eq_false hv]
        repeat' (first | (refine k_pure rfl ?_) | (refine then_normal ?_) | (refine cw_seq ?_) | (refine cw_region rfl ?_) | (refine rr_nil ?_) | (refine g_run rfl rfl ?_) | (refine cw_cond_true rfl ?_) | (refine cw_ret ?_) | (refine then_ret ?_) | (refine in_ret ?_))
        exact ret1 rfl (rt rfl) (hbad _ (hEw4.trans hE5) (hno fun h => hv h.1))
    · exact ret1 rfl (rt rfl) (hbad _ hEw4 (hno fun h => by have := h.2; omega))
  obtain rfl : j = S.length := by omega
  have hSN : GensN m S := fun s hs => by
    obtain ⟨k, hk, rfl⟩ := mem_getDL hs
    exact hperm k hk
  have hSB : permsB (m : Int) S = true := permsB_iff.2 hSN
  have hgood : (m : Int) = (m : Int) ∧ Dist (m : Int).toNat base ∧ permsB (m : Int) S = true := ⟨rfl, by rw [Int.toNat_natCast]; exact hD, hSB⟩
  have hfin : ∀ w' e, Ex w w' → IsV m gens base S e → ∃ e', Value.int .i64 e = .int .i64 e' ∧ ErrV (m : Int) gens (m : Int) base S e' ∧ Ex w w' := fun w' e hE hv => ⟨e, rfl, .inr ⟨h0, .inr ⟨by omega, .inr ⟨hgood, by rw [Int.toNat_natCast]; exact hv⟩⟩⟩, hE⟩
  have hdr := (dist_iff.1 hD).1
  have hbr : ∀ x ∈ base, 0 ≤ x ∧ x < (m : Int) := hD.1
  have hb4 := hb3.ext hE4
  repeat' (first | (refine k_lssF rfl rfl (by omega) ?_) | (refine k_loadC rfl hb4 rfl ?_) | (refine k_pure rfl ?_) | (refine then_normal ?_) | (refine cw_seq ?_) | (refine cw_region rfl ?_) | (refine rr_nil ?_) | (refine k_fieldAddr rfl ?_) | (refine cw_cond_false rfl ?_) | (refine cw_exit ?_) | (refine then_exit ?_) | (refine in_exit ?_))
  refine k_call (rchainM_spec (base := base) ⟨hm1, hm2⟩ hm11 hgn (hL.ext hEw4) (by omega) (hb.ext hEw4) hbl hdr) rfl ?_
  rintro v w5 ⟨hE5, ca, ccap, L, rfl, hR, hG, hF⟩
  refine ⟨fun _ _ => trivial, ?_⟩
  have hEw5 := hEw4.trans hE5
  have hb5 := hb4.ext hE5
  have hbll := hG.bl
  rw [List.length_map] at hbll
  have hpl := prod_le hG.links hm11
  have hll := hG.ll
  rw [List.length_map] at hll
  have htriv := hG.triv hF
  rw [List.length_map] at htriv
  by_cases hlen : base.length < L.length
  · repeat' (first | (refine k_loadC rfl hb5 rfl ?_) | (refine k_gtrT rfl rfl (by omega) ?_) | (refine k_pure rfl ?_) | (refine then_normal ?_) | (refine cw_seq ?_) | (refine cw_region rfl ?_) | (refine rr_nil ?_) | (refine k_len rfl ?_) | (refine k_fieldAddr rfl ?_) | (refine cw_cond_true rfl ?_) | (refine cw_ret ?_) | (refine then_ret ?_))
    exact ret1 rfl (rt rfl) (hfin _ 10 hEw5 (.inr ⟨fun h => by have := htriv.2 h.triv; omega, rfl⟩))
  have hLb : L.length = base.length := by omega
  have htr := htriv.1 (by omega)
  repeat' (first | (refine k_loadC rfl hb5 rfl ?_) | (refine k_gtrF rfl rfl (by omega) ?_) | (refine k_pure rfl ?_) | (refine then_normal ?_) | (refine cw_seq ?_) | (refine cw_region rfl ?_) | (refine rr_nil ?_) | (refine k_len rfl ?_) | (refine k_fieldAddr rfl ?_) | (refine cw_cond_false rfl ?_) | (refine cw_block ?_) | (refine cw_skip ?_))
  refine cw_loop (ι := Nat) [6, 12, 66, 67, 68, 69, 70, 71, 72, 73, 74] (fun s => [(66, .int .i64 (s : Int))]) (fun s w' => s ≤ S.length ∧ Ex w5 w' ∧ ∀ j, j < s → Gen m gens (S.getD j [])) (fun s => S.length - s)
    0 ⟨rfl, trivial⟩ ⟨Nat.zero_le _, Ex.refl _, fun j hj => absurd hj (by omega)⟩ ?_
  rintro k ξ2 w6 ⟨hk, hE6, hmem⟩
  show CW _ _ _ _ (over [(66, .int .i64 (k : Int))] _) w6
  have hEw6 := hEw5.trans hE6
  have hS6 := hS.ext hEw6
  by_cases hkl : k < S.length
  · obtain ⟨hsl, hsn⟩ := hS6.each k hkl
    obtain ⟨⟨pa, pl, pc⟩, hsd⟩ : ∃ s, ssd.getD k sd0 = s := ⟨_, rfl⟩
    rw [hsd] at hsl hsn
    simp only at hsl hsn
    have pp := hperm k hkl
    obtain rfl : pl = m := by rw [hsn]; exact pp.2
    repeat' (first | (refine k_lssT rfl rfl (by omega) ?_) | (refine k_indexN (j := k) rfl rfl (hS6.sl.plain (by simp; omega)) (by omega) ?_) | (refine k_loadSd rfl hS6.sl (by omega) hsd ?_) | (refine k_pure rfl ?_) | (refine then_normal ?_) | (refine cw_seq ?_) | (refine cw_region rfl ?_) | (refine rr_nil ?_) | (refine cw_cond_true rfl ?_) | (refine cw_block ?_) | (refine cw_skip ?_))
    refine k_call (rmember_spec (cap := ccap) (pc := pc) (hR.own.sl.ext hE6) (hR.lv.ext hE6) hG.links hF (by omega) pp hsl) rfl ?_
    rintro v w7 ⟨hE7, t, rfl, ht⟩
    refine ⟨fun _ _ => trivial, ?_⟩
    rw [hG.grp] at ht
    cases t with
    | true =>
      repeat' (first | (refine k_pure rfl ?_) | (refine then_normal ?_) | (refine cw_region rfl ?_) | (refine rr_nil ?_) | (refine k_addI rfl rfl (by omega) (by omega) ?_) | (refine cw_cond_false rfl ?_) | (refine in_normal ?_) | (refine cw_skip ?_))
      refine ⟨⟨k + 1, ⟨by omega, hE6.trans hE7, fun j hj => ?_⟩, by omega, rfl, trivial⟩, (by (repeat (first | exact agree_mask _ _ _ | refine agree_upd rfl ?_ | refine agree_updO rfl ?_ | refine agree_overIn rfl ?_ | refine agree_maskIn rfl ?_)))⟩
      by_cases e : j = k
      · subst e; exact ht.1 rfl
      · exact hmem j (by omega)
    | false =>
      repeat' (first | (refine k_pure rfl ?_) | (refine then_normal ?_) | (refine cw_seq ?_) | (refine cw_region rfl ?_) | (refine rr_nil ?_) | (refine cw_cond_true rfl ?_) | (refine cw_ret ?_) | (refine then_ret ?_) | (refine in_ret ?_))
      exact ret1 rfl (rt rfl) (hfin _ 10 (hEw6.trans hE7) (.inr ⟨fun h => (nomatch (ht.2 (h.sub _ (getD_mem hkl)))), rfl⟩))
  obtain rfl : k = S.length := by omega
  have hsub : ∀ s ∈ S, Gen m gens s := fun s hs => by
    obtain ⟨j, hj, rfl⟩ := mem_getDL hs
    exact hmem j hj
  have hb6 := hb5.ext hE6
  repeat' (first | (refine k_lssF rfl rfl (by omega) ?_) | (refine k_loadC rfl hb6 rfl ?_) | (refine k_pure rfl ?_) | (refine then_normal ?_) | (refine cw_seq ?_) | (refine cw_region rfl ?_) | (refine rr_nil ?_) | (refine k_len rfl ?_) | (refine k_fieldAddr rfl ?_) | (refine cw_cond_false rfl ?_) | (refine cw_block ?_) | (refine cw_exit ?_) | (refine then_exit ?_) | (refine in_exit ?_))
  refine cw_loop (ι := Nat) [6, 13, 78, 79, 80, 81, 82, 83, 84, 85, 86, 87, 88, 89, 90, 91, 92, 93, 94, 95, 96] (fun s => [(78, .int .i64 (s : Int))]) (fun s w' => s ≤ base.length ∧ Ex w6 w' ∧ ∀ i, i < s → ∃ q, Card (Gen m (fixS S base i)) q ∧ Card (PStab (Gen m gens) (base.take i)) q) (fun s => base.length - s)
    0 ⟨rfl, trivial⟩ ⟨Nat.zero_le _, Ex.refl _, fun j hj => absurd hj (by omega)⟩ ?_
  rintro i ξ3 w7 ⟨hi, hE7, hcard⟩
  show CW _ _ _ _ (over [(78, .int .i64 (i : Int))] _) w7
  have hEw7 := hEw6.trans hE7
  by_cases hil : i < base.length
  · have hb7 := hb6.ext hE7
    have hE7d : Ex w7 w7.drew := (Ex.refl _).drew
    obtain ⟨cg, rfl⟩ := hR.own.baPos (by omega)
    have hcapR := hR.own.capLe
    repeat' (first | (refine k_lssT rfl rfl (by omega) ?_) | (refine k_pure rfl ?_) | (refine then_normal ?_) | (refine cw_seq ?_) | (refine cw_region rfl ?_) | (refine rr_nil ?_) | (refine cw_cond_true rfl ?_) | (refine cw_block ?_) | (refine cw_skip ?_))
    refine cw_draw (late := [6]) (plan := [(0, none), (1, none), (2, none), (3, none), (4, none), (5, none), (9, none), (10, none), (11, none), (6, some false), (7, some true), (8, some true), (12, some true), (13, some true), (14, none)]) (fun w' => Ex w7 w') mixed (by kernel_rfl) (Ex.refl _).drew ?_
    repeat' (first | (refine k_loadC rfl (fun _ h => hb7.ext h) rfl ?_) | (refine k_sliceFrom (l := i) rfl rfl (by omega) hcapR ?_) | (refine k_pure rfl ?_) | (refine k_fieldAddr rfl ?_))
    have hEw7d := hEw7.trans hE7d
    refine k_call (rfixing_spec (k := i) (n := m) (sc := sc) (hS.ext hEw7d) hSl hSN (hb.ext hEw7d) hbr hbl (by omega) hbc) rfl ?_
    rintro v w8 ⟨hE8, fa, fc, fsds, rfl, hLf⟩
    refine ⟨fun _ h => h.trans hE8, ?_⟩
    skip
    have hfl : (fixS S base i).length ≤ S.length := by unfold fixS; exact List.length_filter_le _ _
    have hfN : GensN m (fixS S base i) := fun s hs => hSN s (mem_fixS.1 hs).1
    refine k_call (rchainM_spec (base := []) (b := none) (bc := 0) (gc := fc) ⟨hm1, hm2⟩ hm11 hfN hLf (by omega) (Sl.nil _ _) (by simp) (fun i hi => absurd hi (by simp))) rfl ?_
    rintro v w9 ⟨hE9, ra, rcap, L9, rfl, hR9, hG9, hF9⟩
    refine ⟨fun _ h => h.trans hE9, ?_⟩
    have hpl9 := prod_le hG9.links hm11
    have hll9 := hG9.ll
    rw [List.length_map] at hll9
    skip
    refine k_call (rSize_spec (cap := rcap) hR9.own.sl hR9.lv (fun j hj => hR9.ok hG9 j hj) (by simp at hll9; omega) hpl9) rfl ?_
    rintro v w10 ⟨hz10, hE10⟩
    refine ⟨fun _ h => h.trans hE10, ?_⟩
    have hE510 : Ex w5 w10 := ((((hE6.trans hE7).trans hE7d).trans hE8).trans hE9).trans hE10
    have hR10 := hR.ext hE510
    have hsubS : Sl w10 (some (if ccap = i then ⟨cg, 0, none⟩ else ⟨cg, 0 + i * 3, none⟩)) (cellsL (L.drop i)) := by
      split
      · have : L.drop i = [] := List.drop_eq_nil_of_le (by omega)
        rw [this]; exact Sl.nil _ _
      · rw [cellsL_drop]; exact hR10.own.sl.drop (i * 3)
    have hdg : ∀ j, (L.drop i).getD j rc0 = L.getD (i + j) rc0 := fun j => by rw [List.getD_eq_getElem?_getD, List.getElem?_drop, ← List.getD_eq_getElem?_getD]
    have hdl : (L.drop i).length = L.length - i := List.length_drop
    have hmd : lvsOf (L.drop i) = (lvsOf L).drop i := List.map_drop
    have hpld := prod_le (hG.links.drop i) hm11
    skip
    refine k_call (rSize_spec (L := L.drop i) (n := m) (cap := ccap - i) hsubS (fun j hj => by rw [hdg]; exact hR10.lv _ (by omega)) (fun j hj => by rw [hdg]; exact hR.ok hG _ (by omega)) (by omega) (by rw [hmd]; exact hpld)) (by rw [hdl]; rfl) ?_
    rw [hmd]
    rintro v w11 ⟨hz11, hE11⟩
    refine ⟨fun _ h => h.trans hE11, ?_⟩
    skip
    refine k_call (refCmpI_spec (hz10.ext hE11) hz11) rfl ?_
    rintro v w12 ⟨rfl, hE12⟩
    refine ⟨fun _ h => h.trans hE12, ?_⟩
    have hc1 : Card (Gen m (fixS S base i)) (prodL (lvsOf L9)) := (full_card hG9.links hF9).congr hG9.grp
    have hc2 := hG.pcard hF (i := i) (by omega)
    have hE712 : Ex w7 w12 := ((((hE7d.trans hE8).trans hE9).trans hE10).trans hE11).trans hE12
    have hz := cmpI_zero (x := ((prodL (lvsOf L9) : Nat) : Int)) (y := ((prodL ((lvsOf L).drop i) : Nat) : Int))
    by_cases heq : prodL (lvsOf L9) = prodL ((lvsOf L).drop i)
    · rw [hz.2 (by rw [heq])]
      repeat' (first | (refine k_pure rfl ?_) | (refine then_normal ?_) | (refine cw_region rfl ?_) | (refine rr_nil ?_) | (refine k_addI rfl rfl (by omega) (by omega) ?_) | (refine cw_cond_false rfl ?_) | (refine in_normal ?_) | (refine cw_skip ?_))
      refine ⟨⟨i + 1, ⟨by omega, hE7.trans hE712, fun q hq => ?_⟩, by omega, rfl, trivial⟩, (by (repeat (first | exact agree_mask _ _ _ | refine agree_upd rfl ?_ | refine agree_updO rfl ?_ | refine agree_overIn rfl ?_ | refine agree_maskIn rfl ?_)))⟩
      by_cases e : q = i
      · subst e; exact ⟨_, hc1, by rw [heq]; exact hc2⟩
      · exact hcard q (by omega)
    · have hne : cmpI ((prodL (lvsOf L9) : Nat) : Int) ((prodL ((lvsOf L).drop i) : Nat) : Int) ≠ 0 := fun h => heq (by have := hz.1 h; omega)
      repeat' (first | (refine k_pure rfl ?_) | (refine then_normal ?_) | (refine cw_seq ?_) | (refine cw_region rfl ?_) | (refine rr_nil ?_) | (refine k_addI rfl rfl (by omega) (by omega) ?_) | (refine cw_cond_dec rfl (fun hc => ?_) (fun hc => ?_)) | (refine in_normal ?_) | (refine cw_ret ?_) | (refine then_ret ?_) | (refine in_ret ?_) | (refine cw_skip ?_))
      · refine ret1 rfl (rt rfl) (hfin _ 10 (hEw7.trans hE712) (.inr ⟨fun h => ?_, rfl⟩))
        obtain ⟨q, q1, q2⟩ := h.card i hil
        exact heq ((hc1.unique q1).trans (q2.unique hc2))
      · omega
  · obtain rfl : i = base.length := by omega
    repeat' (first | (refine k_lssF rfl rfl (by omega) ?_) | (refine k_pure rfl ?_) | (refine then_normal ?_) | (refine cw_seq ?_) | (refine cw_region rfl ?_) | (refine rr_nil ?_) | (refine cw_cond_false rfl ?_) | (refine cw_exit ?_) | (refine then_exit ?_) | (refine in_exit ?_) | (refine cw_ret ?_))
    exact ret1 rfl (rt rfl) (hfin _ 0 hEw7 (.inl ⟨⟨htr, hsub, hcard⟩, rfl⟩))
end Go.Proofs.Ythhfjagnmhhapaa

namespace Go.W
section
variable {P : Program} {S : World → Prop} {ops : List Oper} {K : Env → World → Prop} {rest : List (Oper × Option Bool)} {ρ : Env} {w : World} {kf : Bool} {d : Nat} {T : TypeId} {pos : String} {af : Array Edge}
/-- append of any slice to a slice of one's own -/
theorem k_appendM {T1 E y n cap m c : Nat} {x1 x2 : Operand} {a ad : Option Addr} {lo : Nat} {vs news : List Value} {z : Value} [hT : Slc P T1 E 1 y] [hz : Zro P E z] (h1 : ev ρ x1 = .slice a n cap) (h2 : ev ρ x2 = .slice ad m c)
    (hzs : (Nat.beq z.cells.size 1) = true) (hown : Own w lo E 1 a n cap vs) (hnews : Sl w ad news) (hl : news.length = m) (ho : news.all Value.oneCell' = true)
    (hm : n + m ≤ 9223372036854775807) (hb : (n + m) * y ≤ 140737488355328) (hlo : lo ≤ w.heap.size)
    (h : ∀ a' cap' w', Own w' lo E 1 a' (n + m) cap' (vs ++ news) → w.grownBy w' (Value.slice a n cap).ownBlock → (a' = a ∨ ∀ x, a' = some x → w.heap.size ≤ x.block) → (kf = true → S w → S w') ∧ RR P S ops K rest (upd ρ d (.slice a' (n + m) cap')) w') :
    RR P S ops K ((⟨some d, .call ⟨.builtin .append, #[x1, x2], #[T1, T1]⟩, T, pos, af, none⟩, some kf) :: rest) ρ w := by
  by_cases h0 : m = 0
  · subst h0
    have hn : news = [] := List.eq_nil_of_length_eq_zero hl
    subst hn
    have := (h a cap w (by simpa using hown) ⟨rfl, rfl, rfl, Nat.le_refl _, fun _ _ _ => rfl⟩ (.inl rfl)).2
    exact k_append0 h1 h2 hown.capLe (by simpa using this)
  · exact k_append (z := z) (s := 1) (c := c) h1 h2 rfl (Nat.eq_of_beq_eq_true hzs) hown hnews (hnews.plain (by omega)) (by simpa using hl) ho hm hb hlo h
theorem ownBlock_eq {a : Option Addr} {n c q : Nat} (h : (Value.slice a n c).ownBlock = some q) : ∃ ad, a = some ad ∧ ad.block = q := by
  cases a with
  | none => cases h
  | some ad => exact ⟨ad, rfl, by simpa [Value.ownBlock] using h⟩
end
theorem Lists.append {w : World} {k : IntKind} {a b : Option Addr} {sds sds' : List SD} {xss yss : List (List Int)} (h : Lists w k a sds xss) (h' : Lists w k b sds' yss) : (sds ++ sds').length = (xss ++ yss).length ∧ ∀ i, i < (xss ++ yss).length → Sl w ((sds ++ sds').getD i sd0).a (((xss ++ yss).getD i []).map (Value.int k)) ∧ ((sds ++ sds').getD i sd0).len = ((xss ++ yss).getD i []).length := by
  have e1 := h.len
  have e2 := h'.len
  refine ⟨by simp [e1, e2], fun i hi => ?_⟩
  rw [List.length_append] at hi
  by_cases hi' : i < xss.length
  · have g1 : (sds ++ sds').getD i sd0 = sds.getD i sd0 := by rw [List.getD_eq_getElem?_getD, List.getElem?_append_left (by omega), ← List.getD_eq_getElem?_getD]
    have g2 : (xss ++ yss).getD i [] = xss.getD i [] := by rw [List.getD_eq_getElem?_getD, List.getElem?_append_left (by omega), ← List.getD_eq_getElem?_getD]
    rw [g1, g2]; exact h.each i hi'
  · have g1 : (sds ++ sds').getD i sd0 = sds'.getD (i - xss.length) sd0 := by rw [List.getD_eq_getElem?_getD, List.getElem?_append_right (by omega), e1, ← List.getD_eq_getElem?_getD]
    have g2 : (xss ++ yss).getD i [] = yss.getD (i - xss.length) [] := by rw [List.getD_eq_getElem?_getD, List.getElem?_append_right (by omega), ← List.getD_eq_getElem?_getD]
    rw [g1, g2]; exact h'.each _ (by omega)
end Go.W
namespace Go.Proofs.Ythhfjagnmhhapaa
open Go.W Go.PM Go.LM
theorem blk_cell {w : World} {g T j : Nat} {cs : List Value} (h : Blk w g T cs) : w.cell? ⟨g, j, none⟩ = cs[j]? := by
  unfold Blk at h; simp [World.cell?, h]
/-- lists of permutations do not lie in a block that holds a new chain -/
theorem lists_off {w : World} {n g T : Nat} {z : Int} {a : Option Addr} {sds : List SD} {xss : List (List Int)} (h2n : 2 ≤ n) (hL : Lists w .i64 a sds xss) (hP : GensN n xss) (hb : Blk w g T [.int .i64 z, .slice none 0 0, .slice none 0 0]) :
    (0 < xss.length → ∀ ad, a = some ad → ad.block ≠ g) ∧ ∀ i, i < xss.length → ∀ ad, (sds.getD i sd0).a = some ad → ad.block ≠ g := by
  have hlen := hL.len
  constructor
  · rintro h0 ad rfl he
    obtain ⟨g', o, hgo⟩ := hL.sl.plain (by rw [List.length_map]; omega)
    cases hgo
    simp only at he
    subst he
    have h1 := hL.sl.get 0 (by rw [List.length_map]; omega)
    have h2 : w.cell? ⟨g', o + 0, none⟩ = _ := h1
    have hv : (sds.map SD.val).getD 0 undef = (sds.getD 0 sd0).val := by
      rw [List.getD_eq_getElem?_getD, List.getElem?_map, List.getD_eq_getElem?_getD, List.getElem?_eq_getElem (by omega)]; rfl
    have h3 := (hL.each 0 h0).2
    have h4 := (hP _ (getD_mem (d := []) h0)).2
    rw [hv, blk_cell hb] at h2
    generalize sds.getD 0 sd0 = s at h2 h3
    obtain ⟨sa, sl, sc⟩ := s
    simp only at h3
    rcases o with _ | _ | _ | o
    · simp [SD.val] at h2
    · simp [SD.val] at h2
      omega
    · simp [SD.val] at h2
      omega
    · simp at h2
  · intro i hi ad e he
    obtain ⟨hs, hl⟩ := hL.each i hi
    have hp := hP _ (getD_mem (d := []) hi)
    rw [e] at hs
    obtain ⟨g', o, hgo⟩ := hs.plain (by rw [List.length_map, hp.2]; omega)
    cases hgo
    simp only at he
    subst he
    have h1 := hs.get 1 (by rw [List.length_map, hp.2]; omega)
    have h2 : w.cell? ⟨g', o + 1, none⟩ = _ := h1
    have hv : ((xss.getD i []).map (Value.int .i64)).getD 1 undef = .int .i64 ((xss.getD i []).getD 1 0) := by
      rw [List.getD_eq_getElem?_getD, List.getElem?_map, List.getD_eq_getElem?_getD (l := xss.getD i []), List.getElem?_eq_getElem (by rw [hp.2]; omega)]; rfl
    rw [hv, blk_cell hb] at h2
    rcases o with _ | _ | o
    · simp at h2
    · simp at h2
    · simp at h2
theorem prod_fac {n : Nat} {ls : List Lv} (h : Links n ls) : prodL ls ≤ fac n := by
  obtain ⟨k, hk⟩ := h.grp.card
  exact Nat.le_trans (links_le h k hk) (card_fac h.grp hk)
/-- a chain in memory whose lists may be appended to: the lists of numbers lie below mid -/
structure CcAt (w : World) (mid : Nat) (X : Nat → Prop) (b : Option Addr) (bc : Nat) (base : List Int) (sa : Option Addr) (sc : Nat) (ssd : List SD) (S : List (List Int)) : Prop where
  ob : Own w mid 3 1 b base.length bc (intsL base)
  os : Own w mid 28 1 sa ssd.length sc (ssd.map SD.val)
  ls : Lists w .i64 sa ssd S
  el : ∀ i ad, (ssd.getD i sd0).a = some ad → ad.block < mid ∧ ¬ X ad.block
  gx : ∀ q, X q → q < mid
  ne : ∀ ad ad', b = some ad → sa = some ad' → ad.block ≠ ad'.block
theorem CcAt.ext {w w' : World} {mid bc sc : Nat} {X : Nat → Prop} {b sa : Option Addr} {base : List Int} {ssd : List SD} {S : List (List Int)} (h : CcAt w mid X b bc base sa sc ssd S) (e : Ex w w') : CcAt w' mid X b bc base sa sc ssd S :=
  ⟨h.ob.ext e, h.os.ext e, h.ls.ext e, h.el, h.gx, h.ne⟩
theorem CcAt.chg {w w' : World} {mid bc sc g : Nat} {X : Nat → Prop} {b sa : Option Addr} {base : List Int} {ssd : List SD} {S : List (List Int)} (h : CcAt w mid X b bc base sa sc ssd S) (c : Chg g w w') (hg : X g ∨ (mid ≤ g ∧ (∀ ad, b = some ad → ad.block ≠ g) ∧ ∀ ad, sa = some ad → ad.block ≠ g)) : CcAt w' mid X b bc base sa sc ssd S := by
  have hgx := h.gx
  have h1 : ∀ ad, b = some ad → ad.block ≠ g := fun ad e => by
    rcases hg with hx | hg
    · have := (h.ob.lo ad e).1; have := hgx g hx; omega
    · exact hg.2.1 ad e
  have h2 : ∀ ad, sa = some ad → ad.block ≠ g := fun ad e => by
    rcases hg with hx | hg
    · have := (h.os.lo ad e).1; have := hgx g hx; omega
    · exact hg.2.2 ad e
  have h3 : ∀ i ad, (ssd.getD i sd0).a = some ad → ad.block ≠ g := fun i ad e => by
    have := h.el i ad e
    rcases hg with hx | hg
    · rintro rfl; exact this.2 hx
    · omega
  exact ⟨h.ob.chg c h1, h.os.chg c h2, h.ls.fr (F := One g) (f1C c) (fun ad e he => h2 ad e he) (fun i ad e he => h3 i ad e he), h.el, hgx, h.ne⟩
theorem CcAt.base {w w' : World} {mid bc bc' sc : Nat} {X : Nat → Prop} {b b' sa : Option Addr} {base base' : List Int} {ssd : List SD} {S : List (List Int)} (h : CcAt w mid X b bc base sa sc ssd S) (hO : Own w' mid 3 1 b' base'.length bc' (intsL base')) (hg : w.grownBy w' (Value.slice b base.length bc).ownBlock) (hA : b' = b ∨ ∀ x, b' = some x → w.heap.size ≤ x.block) :
    CcAt w' mid X b' bc' base' sa sc ssd S := by
  have hne : ∀ ad, sa = some ad → (Value.slice b base.length bc).ownBlock ≠ some ad.block := fun ad e h' => by
    obtain ⟨ad', e1, e2⟩ := ownBlock_eq h'
    exact h.ne ad' ad e1 e e2
  refine ⟨hO, h.os.gb hg hne, h.ls.fr (F := fun q => ∃ ad, b = some ad ∧ ad.block = q) (grown_fr hg fun q hq => ownBlock_eq hq) (fun ad e ⟨ad', e1, e2⟩ => h.ne ad' ad e1 e e2) (fun i ad e ⟨ad', e1, e2⟩ => ?_), h.el, h.gx, fun ad ad' e1 e2 => ?_⟩
  · have := (h.el i ad e).1
    have := (h.ob.lo ad' e1).1
    omega
  · rcases hA with rfl | hA
    · exact h.ne ad ad' e1 e2
    · have := hA ad e1
      have := (h.os.lo ad' e2).2
      omega
theorem CcAt.gens {w w' : World} {mid bc sc sc' : Nat} {X : Nat → Prop} {b sa sa' : Option Addr} {base : List Int} {ssd sds' : List SD} {S yss : List (List Int)} {ya : Option Addr} (h : CcAt w mid X b bc base sa sc ssd S) (hy : Lists w .i64 ya sds' yss) (hye : ∀ i ad, (sds'.getD i sd0).a = some ad → ad.block < mid ∧ ¬ X ad.block)
    (hO : Own w' mid 28 1 sa' (ssd ++ sds').length sc' ((ssd ++ sds').map SD.val)) (hg : w.grownBy w' (Value.slice sa ssd.length sc).ownBlock) (hA : sa' = sa ∨ ∀ x, sa' = some x → w.heap.size ≤ x.block) :
    CcAt w' mid X b bc base sa' sc' (ssd ++ sds') (S ++ yss) := by
  have hne : ∀ ad, b = some ad → (Value.slice sa ssd.length sc).ownBlock ≠ some ad.block := fun ad e h' => by
    obtain ⟨ad', e1, e2⟩ := ownBlock_eq h'
    exact h.ne ad ad' e e1 e2.symm
  have hel : ∀ i ad, ((ssd ++ sds').getD i sd0).a = some ad → ad.block < mid ∧ ¬ X ad.block := fun i ad e => by
    by_cases hi : i < ssd.length
    · rw [List.getD_eq_getElem?_getD, List.getElem?_append_left hi, ← List.getD_eq_getElem?_getD] at e; exact h.el i ad e
    · rw [List.getD_eq_getElem?_getD, List.getElem?_append_right (by omega), ← List.getD_eq_getElem?_getD] at e; exact hye _ ad e
  have hsl : ∀ {a : Option Addr} {vs : List Value}, Sl w a vs → (∀ ad, a = some ad → ad.block < mid) → Sl w' a vs := fun hs hm => hs.gb hg fun ad e h' => by
    obtain ⟨ad', e1, e2⟩ := ownBlock_eq h'
    have := (h.os.lo ad' e1).1
    have := hm ad e
    omega
  refine ⟨h.ob.gb hg hne, hO, ?_, hel, h.gx, fun ad ad' e1 e2 => ?_⟩
  · obtain ⟨g1, g2⟩ := h.ls.append hy
    exact ⟨hO.sl, g1, fun i hi => ⟨hsl (g2 i hi).1 (fun ad e => (hel i ad e).1), (g2 i hi).2⟩⟩
  · rcases hA with rfl | hA
    · exact h.ne ad ad' e1 e2
    · have := hA ad' e2
      have := (h.ob.lo ad e1).2
      omega
theorem CcAt.nil (w : World) {mid : Nat} {X : Nat → Prop} (h : ∀ q, X q → q < mid) : CcAt w mid X none 0 [] none 0 [] [] :=
  ⟨Own.nil _ _ _ _, Own.nil _ _ _ _, Lists.nil _ _ _, fun i ad h => (by simp [sd0] at h), h, fun _ _ h => nomatch h⟩
set_option maxHeartbeats 2000000 in
theorem lchain_spec {n : Nat} {gens : List (List Int)} {a : Option Addr} {sds : List SD} {cap : Nat} {w : World} (h1 : 1 ≤ n ∧ n ≤ 512) (h6 : n ≤ 6) (hg : GensN n gens) (hL : Lists w .i64 a sds gens) (hgl : gens.length ≤ 1000000) :
    CallsR Try.prog 36 #[.int .i64 (n : Int), .slice a gens.length cap] w fun v w' => Ex w w' ∧ ∃ (mid : Nat) (X : Nat → Prop) (b : Option Addr) (bc : Nat) (base : List Int) (sa : Option Addr) (sc : Nat) (ssd : List SD) (S : List (List Int)),
      v = .agg (chainL (n : Int) b base.length bc sa S.length sc).toArray ∧ CcAt w' mid X b bc base sa sc ssd S ∧ mid ≤ w'.heap.size ∧ base.length ≤ 720 ∧ S.length ≤ 518400 ∧ w.heap.size ≤ mid := by
  refine callsR_of (args := [_, _]) Try.func36 rfl rfl ?_
  repeat' (first | (refine k_allocA (vs := [.int .i64 0, .slice none 0 0, .slice none 0 0]) (fun g4 w1 hn1 => ⟨fun _ _ => trivial, ?_⟩)) | (refine k_pure rfl ?_) | (refine then_normal ?_) | (refine cw_seq ?_) | (refine cw_region rfl ?_) | (refine rr_nil ?_))
  refine k_build (cs := [.int .i64 (n : Int), .slice none 0 0, .slice none 0 0]) rfl ?_
  refine k_allocA (vs := [.int .i64 0, .slice none 0 0, .slice none 0 0]) (fun g5 w2 hn2 => ⟨fun _ _ => trivial, ?_⟩)
  refine k_storeV (n := 3) rfl rfl rfl rfl hn2.blk rfl (fun w3 hc3 hb3 => ⟨fun _ _ => trivial, ?_⟩)
  have l1 := hn1.lo; have l1' := hn1.blk.lt; have l2 := hn2.lo; have l2' := hn2.blk.lt; have s2 := hn2.ex.size; have s3 := hc3.size; have s1 := hn1.ex.size
  have hE3 : Ex w w3 := (hn1.ex.trans hn2.ex).chg hc3 (by omega)
  have hb43 : Blk w3 g4 60 [.int .i64 0, .slice none 0 0, .slice none 0 0] := (hn1.blk.ext hn2.ex).chg hc3 (by omega)
  repeat' (first | (refine k_pure rfl ?_) | (refine then_normal ?_) | (refine cw_seq ?_) | (refine cw_region rfl ?_) | (refine rr_nil ?_))
  refine k_call (rchainM_spec (base := []) (b := none) (bc := 0) h1 (by omega) hg (hL.ext hE3) hgl (Sl.nil _ _) (by simp) (fun i hi => absurd hi (by simp))) rfl ?_
  rintro v w5 ⟨hE5, ca, ccap, L, rfl, hR, hG, hF⟩
  refine ⟨fun _ _ => trivial, ?_⟩
  have s5 := hE5.size
  have hb5 := hb3.ext hE5
  have hb45 := hb43.ext hE5
  have hpf := prod_fac hG.links
  have hfm := fac_mono h6
  have hf6 : fac 6 = 720 := rfl
  have hll := hG.ll
  rw [List.length_map, List.length_nil, Nat.zero_add] at hll
  have hlg : ∀ j, j < L.length → (L.getD j rc0).2.gens.length ≤ 720 := fun j hj => by
    have := hG.gl j (by rw [List.length_map]; exact hj)
    rw [lvsOf_getD, List.length_nil] at this
    omega
  have hRl := hR.own.lo
  repeat' (first | (refine k_pure rfl ?_) | (refine then_normal ?_) | (refine rr_nil ?_) | (refine k_len rfl ?_) | (refine cw_block ?_))
  refine cw_loop (ι := Nat × (List Int × Option Addr × Nat) × List SD × List (List Int) × Option Addr × Nat) [7, 14, 15, 16, 17, 18, 19, 20, 21, 22, 23, 24, 25, 26, 27, 28, 29, 30, 31] (fun s => [(14, .int .i64 (s.1 : Int))])
    (fun s w' => s.1 ≤ L.length ∧ Fr (One g5) w5 w' ∧ Blk w' g5 60 (chainL (n : Int) s.2.1.2.1 s.2.1.1.length s.2.1.2.2 s.2.2.2.2.1 s.2.2.2.1.length s.2.2.2.2.2) ∧ CcAt w' w5.heap.size (fun q => q = g4 ∨ q = g5) s.2.1.2.1 s.2.1.2.2 s.2.1.1 s.2.2.2.2.1 s.2.2.2.2.2 s.2.2.1 s.2.2.2.1 ∧ s.2.1.1.length = s.1 ∧ s.2.2.2.1.length ≤ s.1 * 720) (fun s => L.length - s.1)
    (0, ([], none, 0), [], [], none, 0) ⟨rfl, trivial⟩ ⟨Nat.zero_le _, Fr.refl _ _, hb5, CcAt.nil _ (by rintro q (rfl | rfl) <;> omega), rfl, Nat.zero_le _⟩ ?_
  rintro ⟨i, ⟨base, b, bc⟩, ssd, S, sa, sc⟩ ξ w6 ⟨hi, hF6, hb6, hCc, hbl, hSl⟩
  simp only at hi hb6 hCc hbl hSl
  show CW _ _ _ _ (over [(14, .int .i64 (i : Int))] _) w6
  have hb46 : Blk w6 g4 60 [.int .i64 0, .slice none 0 0, .slice none 0 0] := Blk.f1 hb45 hF6 (by omega)
  have s6 : w5.heap.size ≤ w6.heap.size := hF6.size
  have hEx6 : Ex w w6 := Fr.ex (hE3.trans hE5) hF6 (by rintro q rfl; omega)
  have hslen := hCc.ls.len
  by_cases hil : i < L.length
  · obtain ⟨cg, rfl⟩ := hR.own.baPos (by omega)
    have hcl := hRl _ rfl
    simp only at hcl
    have hcell := (hR.own.sl).fr hF6 (by rintro _ ⟨⟩; show cg ≠ g5; omega)
    have ok := hR.ok hG i hil
    have hlv := hR.lv i hil
    have hget := cellsL_get L i hil
    have hsep := hR.sep i hil
    have hlgi := hlg i hil
    have hgi0 := lvsOf_getD L i
    generalize L.getD i rc0 = hl at *
    obtain ⟨h, l⟩ := hl
    simp only at ok hlv hget hsep hlgi hgi0
    have htwo := hG.two i (Nat.zero_le _) (by rw [List.length_map]; exact hil)
    rw [hgi0] at htwo
    have hole := ok.orb_le
    obtain ⟨hoff1, hoff2⟩ := lists_off (by omega) hlv.gs ok.gens hb5
    obtain ⟨_, hoff4⟩ := lists_off (by omega) hlv.gs ok.gens hb45
    have hgsl := hlv.gs.len
    have hgs6 : Lists w6 .i64 h.ga h.gs l.gens := by
      refine ⟨?_, hgsl, fun j hj => ⟨(hlv.gs.each j hj).1.fr hF6 (fun ad e he => hoff2 j hj ad e he), (hlv.gs.each j hj).2⟩⟩
      rcases Nat.eq_zero_or_pos l.gens.length with h0 | h0
      · have : h.gs = [] := List.eq_nil_of_length_eq_zero (by omega)
        rw [this]; exact Sl.nil _ _
      · exact hlv.gs.sl.fr hF6 (fun ad e he => hoff1 h0 ad e he)
    repeat' (first | (refine k_lssT rfl rfl (by omega) ?_) | (refine k_index3 (j := i) rfl rfl ⟨_, _, rfl⟩ hil ?_) | (refine k_loadR3 (cs := h.cells l.pt) rfl rfl hcell hget ?_) | (refine k_allocA (vs := [.int .i64 0, .slice none 0 0, .slice none 0 0]) (fun g7 w7 hn7 => ⟨fun _ _ => trivial, ?_⟩)) | (refine then_normal ?_) | (refine cw_seq ?_) | (refine cw_region rfl ?_) | (refine rr_nil ?_) | (refine cw_cond_true rfl ?_) | (refine cw_block ?_) | (refine cw_skip ?_))
    refine k_storeV (n := 3) rfl rfl rfl rfl hn7.blk rfl (fun w8 hc8 hb8 => ⟨fun _ _ => trivial, ?_⟩)
    have l7 := hn7.lo; have l7' := hn7.blk.lt; have s7 := hn7.ex.size; have s8 := hc8.size
    have hE8 : Ex w6 w8 := hn7.ex.chg hc8 l7
    have hb68 := hb6.ext hE8
    have hCc8 := hCc.ext hE8
    have hgs8 := hgs6.ext hE8
    have hb488 := hb46.ext hE8
    repeat' (first | (refine k_loadC (g := g5) rfl hb68 rfl ?_) | (refine k_loadC (g := g7) rfl hb8 rfl ?_) | (refine then_normal ?_) | (refine cw_seq ?_) | (refine cw_region rfl ?_) | (refine rr_nil ?_) | (refine k_fieldAddr rfl ?_))
    refine k_app1I rfl rfl rfl rfl hCc8.ob (by omega) (by omega) (by omega) (fun g9 b9 c9 w9 ho9 hg9 hA9 => ?_)
    have hcc9 := hCc8.base (base' := base ++ [l.pt]) (by rw [List.length_append, List.length_singleton]; exact ho9) hg9 hA9
    have hlo9 : ∀ q, (Value.slice b base.length bc).ownBlock = some q → w5.heap.size ≤ q := fun q e => by
      obtain ⟨ad, e1, e2⟩ := ownBlock_eq e
      have := (hCc8.ob.lo ad e1).1
      omega
    have hf9 : Fr (fun q => w5.heap.size ≤ q) w8 w9 := grown_fr hg9 hlo9
    have s9 : w8.heap.size ≤ w9.heap.size := hf9.size
    have hne7 : ∀ q, (Value.slice b base.length bc).ownBlock = some q → q < w8.heap.size ∧ q ≠ g7 := fun q e => by
      obtain ⟨ad, e1, e2⟩ := ownBlock_eq e
      have := (hCc.ob.lo ad e1).2
      omega
    have hb59 := hb68.gb hg9 (fun e => by have := hlo9 _ e; omega)
    have hb79 := hb8.gb hg9 (fun e => (hne7 _ e).2 rfl)
    have hb49 := hb488.gb hg9 (fun e => by have := hlo9 _ e; omega)
    have hgs9 : Lists w9 .i64 h.ga h.gs l.gens := hgs8.fr hf9 (fun ad e he => by have := (hsep _ (.inl ⟨ad, e, rfl⟩)).1; omega) (fun j ad e he => by have := (hsep _ (.inr (.inl ⟨j, ad, e, rfl⟩))).1; omega)
    repeat' (first | (refine k_storeC rfl rfl rfl hb59 rfl (fun w10 hc10 hb10 => ⟨fun _ _ => trivial, ?_⟩)) | (refine then_normal ?_) | (refine cw_region rfl ?_) | (refine rr_nil ?_) | (refine k_fieldAddr rfl ?_))
    have hcc10 := hcc9.chg hc10 (.inl (.inr rfl))
    have hb710 := hb79.chg hc10 (by omega)
    have s10 := hc10.size
    have hgs10 : Lists w10 .i64 h.ga h.gs l.gens := by
      refine ⟨?_, hgsl, fun j hj => ⟨(hgs9.each j hj).1.chg hc10 (fun ad e => hoff2 j hj ad e), (hgs9.each j hj).2⟩⟩
      rcases Nat.eq_zero_or_pos l.gens.length with h0 | h0
      · have : h.gs = [] := List.eq_nil_of_length_eq_zero (by omega)
        rw [this]; exact Sl.nil _ _
      · exact hgs9.sl.chg hc10 (fun ad e => hoff1 h0 ad e)
    have hye : ∀ j ad, (h.gs.getD j sd0).a = some ad → ad.block < w5.heap.size ∧ ¬ (ad.block = g4 ∨ ad.block = g5) := fun j ad e => by
      refine ⟨(hsep _ (.inr (.inl ⟨j, ad, e, rfl⟩))).1, ?_⟩
      rcases Nat.lt_or_ge j l.gens.length with hj | hj
      · rintro (he | he)
        · exact hoff4 j hj ad e he
        · exact hoff2 j hj ad e he
      · rw [List.getD_eq_getElem?_getD, List.getElem?_eq_none (by omega)] at e; cases e
    repeat' (first | (refine k_loadC (g := g5) rfl hb10 rfl ?_) | (refine k_loadC (g := g7) rfl hb710 rfl ?_) | (refine k_fieldAddr rfl ?_))
    refine k_appendM (E := 28) (n := ssd.length) (a := sa) (cap := sc) (by show Value.slice sa S.length sc = _; rw [hslen]) rfl rfl hcc10.os hgs10.sl (by simp) (all_one (fun s => rfl) _) (by omega) (by omega) (by omega) (fun a11 c11 w11 ho11 hg11 hA11 => ⟨fun _ _ => trivial, ?_⟩)
    have hcc11 := hcc10.gens hgs10 hye (by rw [List.length_append, List.map_append]; exact ho11) hg11 hA11
    have hlo11 : ∀ q, (Value.slice sa ssd.length sc).ownBlock = some q → w5.heap.size ≤ q := fun q e => by
      obtain ⟨ad, e1, e2⟩ := ownBlock_eq e
      have := (hcc10.os.lo ad e1).1
      omega
    have hf11 : Fr (fun q => w5.heap.size ≤ q) w10 w11 := grown_fr hg11 hlo11
    have hb511 := hb10.gb hg11 (fun e => by have := hlo11 _ e; omega)
    repeat' (first | (refine k_storeC rfl rfl rfl hb511 rfl (fun w12 hc12 hb12 => ⟨fun _ _ => trivial, ?_⟩)) | (refine k_pure rfl ?_) | (refine then_normal ?_) | (refine cw_region rfl ?_) | (refine rr_nil ?_) | (refine k_addI rfl rfl (by omega) (by omega) ?_) | (refine k_fieldAddr rfl ?_) | (refine in_normal ?_))
    refine ⟨⟨(i + 1, (base ++ [l.pt], b9, c9), ssd ++ h.gs, S ++ l.gens, a11, c11), ⟨by simp only; omega, ?_, ?_, hcc11.chg hc12 (.inl (.inr rfl)), by simp only; rw [List.length_append, List.length_singleton, hbl], by simp only; rw [List.length_append]; omega⟩, by simp only; omega, rfl, trivial⟩, (by (repeat (first | exact agree_mask _ _ _ | refine agree_upd rfl ?_ | refine agree_updO rfl ?_ | refine agree_overIn rfl ?_ | refine agree_maskIn rfl ?_)))⟩
    · refine Fr.then (Fr.then (Fr.then (Fr.then (hF6.trans (Ex.fr hE8)) hf9 (fun q hq h => ?_)) (f1C hc10) (fun _ _ h => h)) hf11 (fun q hq h => ?_)) (f1C hc12) (fun _ _ h => h)
      · omega
      · omega
    · simp only
      rw [List.length_append, List.length_singleton, List.length_append, ← hslen, ← hgsl]
      exact hb12
  · obtain rfl : i = L.length := by omega
    repeat' (first | (refine k_lssF rfl rfl (by omega) ?_) | (refine k_loadCA (g := g5) rfl hb6 rfl ?_) | (refine then_normal ?_) | (refine cw_seq ?_) | (refine cw_region rfl ?_) | (refine rr_nil ?_) | (refine cw_cond_false rfl ?_) | (refine cw_exit ?_) | (refine then_exit ?_) | (refine in_exit ?_))
    refine k_storeV (n := 3) rfl rfl rfl rfl hb46 rfl (fun w7 hc7 hb7 => ⟨fun _ _ => trivial, ?_⟩)
    repeat' (first | (refine then_normal ?_) | (refine rr_nil ?_) | (refine cw_ret ?_))
    have hsz : L.length ≤ 720 := by omega
    refine ret1 rfl (rc rfl rfl hb7) ⟨hEx6.chg hc7 (by omega), w5.heap.size, (fun q => q = g4 ∨ q = g5), b, bc, base, sa, sc, ssd, S, rfl, hCc.chg hc7 (.inl (.inl rfl)), by have := hc7.size; omega, by omega, ?_, by have := hE3.size; omega⟩
    have := Nat.mul_le_mul_right 720 hsz
    omega
end Go.Proofs.Ythhfjagnmhhapaa

namespace Go.PM
/-- the first f points of the base are fixed, and the next one is not -/
def FC (base s : List Int) (f : Nat) : Prop := f ≤ base.length ∧ (∀ x ∈ base.take f, ap s x = x) ∧ (f < base.length → ap s (base.getD f 0) ≠ base.getD f 0)
theorem fc_ex (base s : List Int) : ∃ f, FC base s f := by
  have : ∀ d i, i + d = base.length → (∀ x ∈ base.take i, ap s x = x) → ∃ f, FC base s f := by
    intro d
    induction d with
    | zero => intro i e h; exact ⟨i, by omega, h, fun h' => by omega⟩
    | succ d ih =>
      intro i e h
      by_cases hx : ap s (base.getD i 0) = base.getD i 0
      · refine ih (i + 1) (by omega) fun x hx' => ?_
        rw [take_succ_getD base 0 (by omega)] at hx'
        rcases List.mem_append.1 hx' with hx' | hx'
        · exact h x hx'
        · rw [List.mem_singleton] at hx'; rw [hx']; exact hx
      · exact ⟨i, by omega, h, fun _ => hx⟩
  exact this base.length 0 (by omega) (by simp)
theorem take_le_mem {base : List Int} {i f : Nat} (h : i ≤ f) {x : Int} (hx : x ∈ base.take i) : x ∈ base.take f := by
  have : base.take i = (base.take f).take i := by rw [List.take_take, Nat.min_eq_left h]
  rw [this] at hx; exact List.mem_of_mem_take hx
theorem getD_in_take {base : List Int} {i f : Nat} (h : i < f) (hi : i < base.length) : base.getD i 0 ∈ base.take f := by
  refine take_le_mem (show i + 1 ≤ f by omega) ?_
  rw [take_succ_getD base 0 hi]; simp
theorem FC.le {base s : List Int} {f i : Nat} (h : FC base s f) (hi : ∀ x ∈ base.take i, ap s x = x) (hb : i ≤ base.length) : i ≤ f := by
  rcases Nat.lt_or_ge f i with hlt | hge
  · exact absurd (hi _ (getD_in_take hlt (by omega))) (h.2.2 (by omega))
  · exact hge
theorem FC.unique {base s : List Int} {f f' : Nat} (h : FC base s f) (h' : FC base s f') : f = f' := Nat.le_antisymm (h'.le h.2.1 h.1) (h.le h'.2.1 h'.1)
theorem gen_fix {n : Nat} {G : List Int → Prop} {base : List Int} {S J : List (List Int)} {i : Nat} (hi : i ≤ base.length) (n1 : 1 ≤ n ∧ n ≤ 512) (hS : GensN n S) (ht : ∀ p, PStab G base p → p = idList n) (hs : ∀ s ∈ S, G s)
    (hJ : ∀ s, s ∈ J ↔ s ∈ S ∧ ∃ f, FC base s f ∧ i ≤ f ∧ f < base.length) (p : List Int) : Gen n J p ↔ Gen n (fixS S base i) p := by
  have hJN : GensN n J := fun s h => hS s ((hJ s).1 h).1
  have hfN : GensN n (fixS S base i) := fun s h => hS s (mem_fixS.1 h).1
  refine gen_congr n1 hJN hfN (fun s h => ?_) (fun s h => ?_) p
  · obtain ⟨h1, f, hf, hif, _⟩ := (hJ s).1 h
    exact gen_self hfN (mem_fixS.2 ⟨h1, fun x hx => hf.2.1 x (take_le_mem hif hx)⟩)
  · obtain ⟨h1, h2⟩ := mem_fixS.1 h
    obtain ⟨f, hf⟩ := fc_ex base s
    have hif := hf.le h2 hi
    rcases Nat.lt_or_ge f base.length with hlt | hge
    · exact gen_self hJN ((hJ s).2 ⟨h1, f, hf, hif, hlt⟩)
    · have : s = idList n := ht s ⟨hs s h1, fun x hx => hf.2.1 x (by rw [List.take_of_length_le hge]; exact hx)⟩
      rw [this]; exact .one
end Go.PM
namespace Go.Proofs.Ythhfjagnmhhapaa
open Go.W Go.PM Go.LM
theorem psize_spec {n g : Nat} {c : Nat → Nat} {w : World} (hP : PtAt w g n c) {x : Nat} (hx : x < n) (hn : n ≤ 512) :
    CallsR Try.prog 68 #[.slice (ba g) n n, .int .i64 (x : Int)] w fun v w' => v = .int .i64 ((clsTo c x n : Nat) : Int) ∧ Chg g w w' ∧ PtAt w' g n c := by
  refine callsR_of (args := [_, _]) Try.func68 rfl rfl ?_
  repeat' (first | (refine k_pure rfl ?_) | (refine then_normal ?_) | (refine cw_seq ?_) | (refine cw_region rfl ?_) | (refine rr_nil ?_) | (refine k_len rfl ?_) | (refine cw_block ?_))
  refine cw_loop (ι := Nat) [5, 6, 9, 10, 11, 12, 13, 14, 15, 16, 17, 18, 19, 20, 21] (fun s => [(9, .int .i64 (s : Int)), (5, .int .i64 ((clsTo c x s : Nat) : Int))]) (fun s w' => s ≤ n ∧ Chg g w w' ∧ PtAt w' g n c) (fun s => n - s)
    0 ⟨rfl, rfl, trivial⟩ ⟨Nat.zero_le _, Chg.refl _ _, hP⟩ ?_
  rintro y ξ w1 ⟨hy, hc1, hP1⟩
  show CW _ _ _ _ (over [(9, .int .i64 (y : Int)), (5, .int .i64 ((clsTo c x y : Nat) : Int))] _) w1
  have hcl := clsTo_le c x y
  by_cases hyn : y < n
  · repeat' (first | (refine k_lssT rfl rfl (by omega) ?_) | (refine k_pure rfl ?_) | (refine then_normal ?_) | (refine cw_seq ?_) | (refine cw_region rfl ?_) | (refine rr_nil ?_) | (refine cw_cond_true rfl ?_) | (refine cw_block ?_) | (refine cw_skip ?_))
    refine k_call (find_spec hP1 hyn hn) rfl ?_
    rintro v w2 ⟨rfl, hc2, hP2⟩
    refine ⟨fun _ _ => trivial, ?_⟩
    repeat' (first | (refine k_pure rfl ?_))
    refine k_call (find_spec hP2 hx hn) rfl ?_
    rintro v w3 ⟨rfl, hc3, hP3⟩
    refine ⟨fun _ _ => trivial, ?_⟩
    by_cases he : c y = c x
    · repeat' (first | (refine k_eqT rfl rfl (by rw [he]) ?_) | (refine k_pure rfl ?_) | (refine then_normal ?_) | (refine cw_region rfl ?_) | (refine rr_nil ?_) | (refine k_addI rfl rfl (by omega) (by omega) ?_) | (refine cw_cond_true rfl ?_) | (refine in_normal ?_))
      refine ⟨⟨y + 1, ⟨by omega, (hc1.trans hc2).trans hc3, hP3⟩, by omega, rfl, ?_, trivial⟩, (by (repeat (first | exact agree_mask _ _ _ | refine agree_upd rfl ?_ | refine agree_updO rfl ?_ | refine agree_overIn rfl ?_ | refine agree_maskIn rfl ?_)))⟩
      rw [clsTo, if_pos he]; rfl
    · repeat' (first | (refine k_eqF rfl rfl (by omega) ?_) | (refine k_pure rfl ?_) | (refine then_normal ?_) | (refine cw_region rfl ?_) | (refine rr_nil ?_) | (refine k_addI rfl rfl (by omega) (by omega) ?_) | (refine cw_cond_false rfl ?_) | (refine in_normal ?_) | (refine cw_skip ?_))
      refine ⟨⟨y + 1, ⟨by omega, (hc1.trans hc2).trans hc3, hP3⟩, by omega, rfl, ?_, trivial⟩, (by (repeat (first | exact agree_mask _ _ _ | refine agree_upd rfl ?_ | refine agree_updO rfl ?_ | refine agree_overIn rfl ?_ | refine agree_maskIn rfl ?_)))⟩
      rw [clsTo, if_neg he]; rfl
  · obtain rfl : y = n := by omega
    repeat' (first | (refine k_lssF rfl rfl (by omega) ?_) | (refine k_pure rfl ?_) | (refine then_normal ?_) | (refine cw_seq ?_) | (refine cw_region rfl ?_) | (refine rr_nil ?_) | (refine cw_cond_false rfl ?_) | (refine cw_exit ?_) | (refine then_exit ?_) | (refine in_exit ?_) | (refine cw_ret ?_))
    exact ret1 rfl (rt rfl) ⟨rfl, hc1, hP1⟩
/-- lists of permutations by the number of fixed points -/
structure StAt (w : World) (lo n gs : Nat) (ss : List SD) (ps : List (List (List Int))) : Prop where
  top : Blk w gs 93 (ss.map SD.val)
  len : ss.length = ps.length
  each : ∀ k, k < ps.length → ∃ sds im, Own w lo 110 1 (ss.getD k sd0).a sds.length (ss.getD k sd0).cap (sds.map SD.val) ∧ (ss.getD k sd0).len = sds.length ∧ PsAt w n im sds (ps.getD k []) ∧
    ∀ q ∈ im, lo ≤ q ∧ q < w.heap.size ∧ q ≠ gs ∧ ∀ k' ad, (ss.getD k' sd0).a = some ad → ad.block ≠ q
  sep : ∀ k k' ad ad', (ss.getD k sd0).a = some ad → (ss.getD k' sd0).a = some ad' → k ≠ k' → ad.block ≠ ad'.block
  ne : ∀ k ad, (ss.getD k sd0).a = some ad → ad.block ≠ gs
theorem StAt.ext {w w' : World} {lo n gs : Nat} {ss : List SD} {ps : List (List (List Int))} (h : StAt w lo n gs ss ps) (e : Ex w w') : StAt w' lo n gs ss ps :=
  ⟨h.top.ext e, h.len, fun k hk => by
    obtain ⟨sds, im, h1, h2, h3, h4⟩ := h.each k hk
    exact ⟨sds, im, h1.ext e, h2, h3.ext e, fun q hq => ⟨(h4 q hq).1, by have := (h4 q hq).2.1; have := e.size; omega, (h4 q hq).2.2⟩⟩, h.sep, h.ne⟩
theorem StAt.new {w : World} {lo n gs m : Nat} (hb : Blk w gs 93 ((List.replicate m sd0).map SD.val)) : StAt w lo n gs (List.replicate m sd0) (List.replicate m []) := by
  have e : ∀ k, (List.replicate m sd0).getD k sd0 = sd0 := fun k => by rw [List.getD_eq_getElem?_getD, List.getElem?_replicate]; split <;> rfl
  have e' : ∀ k, (List.replicate m ([] : List (List Int))).getD k [] = [] := fun k => by rw [List.getD_eq_getElem?_getD, List.getElem?_replicate]; split <;> rfl
  refine ⟨hb, by simp, fun k hk => ⟨[], [], ?_, ?_, ?_, fun q hq => by simp at hq⟩, fun k k' ad ad' h => ?_, fun k ad h => ?_⟩
  · rw [e]; exact Own.nil _ _ _ _
  · rw [e]; rfl
  · rw [e']; exact ⟨rfl, fun i hi => absurd hi (by simp), fun i hi => absurd hi (by simp), fun i hi => absurd hi (by simp)⟩
  · rw [e] at h; cases h
  · rw [e] at h; cases h
theorem StAt.push {w w1 w2 w3 w4 : World} {lo n gs f pg cap' : Nat} {ss sds : List SD} {ps : List (List (List Int))} {im : List Nat} {p : List Int} {a' : Option Addr} (h : StAt w lo n gs ss ps) (hf : f < ps.length) (hlo : lo ≤ w.heap.size)
    (_hO : Own w lo 110 1 (ss.getD f sd0).a sds.length (ss.getD f sd0).cap (sds.map SD.val)) (hP : PsAt w n im sds (ps.getD f [])) (him : ∀ q ∈ im, lo ≤ q ∧ q < w.heap.size ∧ q ≠ gs ∧ ∀ k' ad, (ss.getD k' sd0).a = some ad → ad.block ≠ q)
    (hE1 : Ex w w1) (hpg : w.heap.size ≤ pg) (hb1 : Blk w1 pg 129 (u16L p)) (hE2 : Ex w1 w2)
    (hO3 : Own w3 lo 110 1 a' (sds.length + 1) cap' ((sds ++ [(⟨ba pg, n, n⟩ : SD)]).map SD.val)) (hg3 : w2.grownBy w3 (Value.slice (ss.getD f sd0).a sds.length (ss.getD f sd0).cap).ownBlock) (hA : a' = (ss.getD f sd0).a ∨ ∀ x, a' = some x → w2.heap.size ≤ x.block)
    (hc4 : Chg gs w3 w4) (hb4 : Blk w4 gs 93 ((ss.set f ⟨a', sds.length + 1, cap'⟩).map SD.val)) : StAt w4 lo n gs (ss.set f ⟨a', sds.length + 1, cap'⟩) (ps.set f (ps.getD f [] ++ [p])) := by
  have hsl := h.len
  have hgs := h.top.lt
  have hE12 := hE1.trans hE2
  have s1 := hE1.size
  have s2 := hE2.size
  have s3 := hg3.size
  have s4 := hc4.size
  have hpl := hb1.lt
  have gss : ∀ k, (ss.set f ⟨a', sds.length + 1, cap'⟩).getD k sd0 = if f = k then ⟨a', sds.length + 1, cap'⟩ else ss.getD k sd0 := fun k => getD_setS (by omega)
  have gps : ∀ k, (ps.set f (ps.getD f [] ++ [p])).getD k [] = if f = k then ps.getD f [] ++ [p] else ps.getD k [] := fun k => by
    rw [List.getD_eq_getElem?_getD, List.getElem?_set]
    by_cases e : f = k
    · subst e; simp [hf]
    · rw [if_neg e, if_neg e, List.getD_eq_getElem?_getD]
  have hblk : ∀ k ad, k < ps.length → (ss.getD k sd0).a = some ad → lo ≤ ad.block ∧ ad.block < w.heap.size := fun k ad hk e => by
    obtain ⟨s', _, h1, _⟩ := h.each k hk
    exact h1.lo ad e
  have hlen : ∀ k ad, (ss.getD k sd0).a = some ad → k < ps.length := fun k ad e => by
    rcases Nat.lt_or_ge k ps.length with h1 | h1
    · exact h1
    · rw [List.getD_eq_getElem?_getD, List.getElem?_eq_none (by omega)] at e; cases e
  have hob : ∀ q, (Value.slice (ss.getD f sd0).a sds.length (ss.getD f sd0).cap).ownBlock = some q → ∃ ad, (ss.getD f sd0).a = some ad ∧ ad.block = q := fun q hq => by
    cases ha : (ss.getD f sd0).a with
    | none => rw [ha] at hq; cases hq
    | some ad => rw [ha] at hq; cases hq; exact ⟨ad, rfl, rfl⟩
  have hna : ∀ ad, a' = some ad → (ad.block ≠ gs ∧ lo ≤ ad.block) ∧ (∀ k ad', k ≠ f → (ss.getD k sd0).a = some ad' → ad'.block ≠ ad.block) := fun ad e => by
    rcases hA with hA | hA
    · rw [hA] at e
      exact ⟨⟨h.ne f ad e, (hblk f ad hf e).1⟩, fun k ad' hk e' => h.sep k f ad' ad e' e hk⟩
    · have := hA ad e
      refine ⟨⟨by omega, by omega⟩, fun k ad' hk e' => ?_⟩
      have := hblk k ad' (hlen k ad' e') e'
      omega
  have psFr : ∀ {im' : List Nat} {sds' : List SD} {qs : List (List Int)}, PsAt w2 n im' sds' qs → (∀ q ∈ im', q ≠ gs ∧ ∀ ad, (ss.getD f sd0).a = some ad → ad.block ≠ q) → PsAt w4 n im' sds' qs := fun hp hi =>
    (hp.fr (F := fun q => ∃ ad, (ss.getD f sd0).a = some ad ∧ ad.block = q) (grown_fr hg3 fun q hq => hob q hq) (fun q hq ⟨ad, e1, e2⟩ => (hi q hq).2 ad e1 e2)).fr (f1C hc4) fun q hq => (hi q hq).1
  refine ⟨hb4, by simp [hsl], fun k hk => ?_, fun k k' ad ad' e1 e2 hne => ?_, fun k ad e1 => ?_⟩
  · rw [List.length_set] at hk
    rw [gss, gps]
    by_cases e : f = k
    · subst e
      rw [if_pos rfl, if_pos rfl]
      refine ⟨sds ++ [(⟨ba pg, n, n⟩ : SD)], pg :: im, ?_, by simp, ?_, fun q hq => ?_⟩
      · rw [List.length_append, List.length_singleton]
        exact hO3.chg hc4 fun ad e => (hna ad e).1.1
      · refine psFr (PsAt.snoc (p := p) (s := ⟨ba pg, n, n⟩) ((hP.ext hE12).mono fun q hq => List.mem_cons_of_mem _ hq) (hb1.ext hE2).sl rfl (by rintro _ ⟨⟩; exact List.mem_cons_self)) fun q hq => ?_
        rcases List.mem_cons.1 hq with rfl | hq
        · exact ⟨by omega, fun ad e => by have := (hblk f ad hf e).2; omega⟩
        · exact ⟨(him q hq).2.2.1, fun ad e => (him q hq).2.2.2 f ad e⟩
      · rcases List.mem_cons.1 hq with rfl | hq
        · refine ⟨by omega, by omega, by omega, fun k' ad e' => ?_⟩
          rw [gss] at e'
          by_cases e3 : f = k'
          · rw [if_pos e3] at e'
            rcases hA with hA | hA
            · simp only at e'; rw [hA] at e'; have := (hblk f ad hf e').2; omega
            · have := hA ad e'; omega
          · rw [if_neg e3] at e'
            have := (hblk k' ad (hlen k' ad e') e').2
            omega
        · have := him q hq
          refine ⟨this.1, by omega, this.2.2.1, fun k' ad e' => ?_⟩
          rw [gss] at e'
          by_cases e3 : f = k'
          · rw [if_pos e3] at e'
            rcases hA with hA | hA
            · simp only at e'; rw [hA] at e'; exact this.2.2.2 f ad e'
            · have := hA ad e'; omega
          · rw [if_neg e3] at e'; exact this.2.2.2 k' ad e'
    · rw [if_neg e, if_neg e]
      obtain ⟨sds', im', g1, g2, g3, g4⟩ := h.each k hk
      refine ⟨sds', im', ?_, g2, psFr (g3.ext hE12) (fun q hq => ⟨(g4 q hq).2.2.1, fun ad e => (g4 q hq).2.2.2 f ad e⟩), fun q hq => ?_⟩
      · refine ((g1.ext hE12).gb hg3 fun ad ea er => ?_).chg hc4 fun ad ea => h.ne k ad ea
        obtain ⟨ad', e1, e2⟩ := hob _ er
        exact h.sep f k ad' ad e1 ea e e2
      · have := g4 q hq
        refine ⟨this.1, by omega, this.2.2.1, fun k' ad e' => ?_⟩
        rw [gss] at e'
        by_cases e3 : f = k'
        · rw [if_pos e3] at e'
          rcases hA with hA | hA
          · simp only at e'; rw [hA] at e'; exact this.2.2.2 f ad e'
          · have := hA ad e'; omega
        · rw [if_neg e3] at e'; exact this.2.2.2 k' ad e'
  · rw [gss] at e1 e2
    by_cases ek : f = k
    · subst ek
      rw [if_pos rfl] at e1
      rw [if_neg hne] at e2
      exact ((hna ad e1).2 k' ad' (Ne.symm hne) e2).symm
    · rw [if_neg ek] at e1
      by_cases ek' : f = k'
      · subst ek'
        rw [if_pos rfl] at e2
        exact (hna ad' e2).2 k ad (Ne.symm ek) e1
      · rw [if_neg ek'] at e2
        exact h.sep k k' ad ad' e1 e2 hne
  · rw [gss] at e1
    by_cases ek : f = k
    · rw [if_pos ek] at e1; exact (hna ad e1).1.1
    · rw [if_neg ek] at e1; exact h.ne k ad e1
end Go.Proofs.Ythhfjagnmhhapaa

