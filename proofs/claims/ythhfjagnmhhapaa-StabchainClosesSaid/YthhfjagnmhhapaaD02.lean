
import Derived.Test.YthhfjagnmhhapaaA01
import Derived.Test.YthhfjagnmhhapaaA02
import Derived.Test.YthhfjagnmhhapaaA03
import Derived.Test.YthhfjagnmhhapaaA04
import Derived.Test.YthhfjagnmhhapaaA05
import Derived.Test.YthhfjagnmhhapaaA06
import Derived.Test.YthhfjagnmhhapaaA07
import Derived.Test.YthhfjagnmhhapaaA08
import Derived.Test.YthhfjagnmhhapaaA09
import Derived.Test.YthhfjagnmhhapaaA10
import Derived.Test.YthhfjagnmhhapaaA13
import Derived.Test.YthhfjagnmhhapaaA16
import Derived.Test.YthhfjagnmhhapaaA17
import Derived.Test.YthhfjagnmhhapaaA18
import Derived.Test.YthhfjagnmhhapaaA19
import Derived.Test.YthhfjagnmhhapaaA22
import Derived.Test.YthhfjagnmhhapaaB02
import Derived.Test.YthhfjagnmhhapaaD01

namespace Go.Proofs.Ythhfjagnmhhapaa
open Go.W Go.PM Go.LM
theorem composeF_eq' {n : Nat} {p q : List Int} (hp : PermN n p) (hq : PermN n q) : composeF p q = (mulP p q, true) := by rw [composeF, if_pos ⟨by rw [hp.2, hq.2], hp.1, hq.1⟩]
theorem lcontains_spec {xss : List (List Int)} {q : List Int} {a b : Option Addr} {sds : List SD} {c d : Nat} {w : World} (hL : Lists w .i64 a sds xss) (hq : Sl w b (intsL q)) (hl : xss.length ≤ 1000000) (hx : ∀ p ∈ xss, p.length ≤ 1000) :
    CallsR Try.prog 44 #[.slice a xss.length c, .slice b q.length d] w fun v w' => v = .bool (decide (q ∈ xss)) ∧ Ex w w' := by
  refine callsR_of (args := [_, _]) Try.func44 rfl rfl ?_
  have hlen := hL.len
  repeat' (first | (refine k_pure rfl ?_) | (refine then_normal ?_) | (refine cw_seq ?_) | (refine cw_region rfl ?_) | (refine rr_nil ?_) | (refine k_len rfl ?_) | (refine cw_block ?_))
  refine cw_loop (ι := Nat) [4, 6, 9, 10, 11, 12, 13, 14, 15, 16] (fun s => [(9, .int .i64 (s : Int))]) (fun s w' => s ≤ xss.length ∧ Ex w w' ∧ q ∉ xss.take s) (fun s => xss.length - s)
    0 ⟨rfl, trivial⟩ ⟨Nat.zero_le _, Ex.refl _, by simp⟩ ?_
  rintro k ξ w1 ⟨hk, hE1, hno⟩
  show CW _ _ _ _ (over [(9, .int .i64 (k : Int))] _) w1
  by_cases hkl : k < xss.length
  · have hL1 := hL.ext hE1
    obtain ⟨hsd, hsn⟩ := hL1.each k hkl
    obtain ⟨⟨ta, tl, tc⟩, hsdk⟩ : ∃ x, sds.getD k sd0 = x := ⟨_, rfl⟩
    rw [hsdk] at hsd hsn
    simp only at hsd hsn
    subst hsn
    have hxk := hx _ (getD_mem (d := []) hkl)
    repeat' (first | (refine k_lssT rfl rfl (by omega) ?_) | (refine k_indexN (j := k) (a := a) rfl rfl (hL1.sl.plain (by rw [List.length_map]; omega)) (by omega) ?_) | (refine k_loadSd rfl hL1.sl (by omega) hsdk ?_) | (refine k_pure rfl ?_) | (refine then_normal ?_) | (refine cw_seq ?_) | (refine cw_region rfl ?_) | (refine rr_nil ?_) | (refine cw_cond_true rfl ?_) | (refine cw_block ?_) | (refine cw_skip ?_))
    refine k_call (same_spec (xs := xss.getD k []) hsd (hq.ext hE1) tc d (by omega)) rfl ?_
    rintro v w2 ⟨rfl, hE2⟩
    refine ⟨fun _ _ => trivial, ?_⟩
    by_cases he : xss.getD k [] = q
    · rw [decide_eq_true he]
      repeat' (first | (refine k_pure rfl ?_) | (refine then_normal ?_) | (refine cw_seq ?_) | (refine cw_region rfl ?_) | (refine rr_nil ?_) | (refine cw_cond_true rfl ?_) | (refine cw_ret ?_) | (refine then_ret ?_) | (refine in_ret ?_))
      have hm : q ∈ xss := by rw [← he]; exact getD_mem hkl
      exact ret1 rfl (rt rfl) ⟨by rw [decide_eq_true hm]; rfl, hE1.trans hE2⟩
    · rw [decide_eq_false he]
      repeat' (first | (refine k_pure rfl ?_) | (refine then_normal ?_) | (refine cw_region rfl ?_) | (refine rr_nil ?_) | (refine k_addI rfl rfl (by omega) (by omega) ?_) | (refine cw_cond_false rfl ?_) | (refine in_normal ?_) | (refine cw_skip ?_))
      refine ⟨⟨k + 1, ⟨by omega, hE1.trans hE2, ?_⟩, by omega, rfl, trivial⟩, (by (repeat (first | exact agree_mask _ _ _ | refine agree_upd rfl ?_ | refine agree_updO rfl ?_ | refine agree_overIn rfl ?_ | refine agree_maskIn rfl ?_)))⟩
      rw [take_succ_getD xss [] hkl, List.mem_append, List.mem_singleton]
      rintro (h | h)
      · exact hno h
      · exact he h.symm
  · obtain rfl : k = xss.length := by omega
    rw [List.take_length] at hno
    repeat' (first | (refine k_lssF rfl rfl (by omega) ?_) | (refine k_pure rfl ?_) | (refine then_normal ?_) | (refine cw_seq ?_) | (refine cw_region rfl ?_) | (refine rr_nil ?_) | (refine cw_cond_false rfl ?_) | (refine cw_exit ?_) | (refine then_exit ?_) | (refine in_exit ?_) | (refine cw_ret ?_))
    exact ret1 rfl (rt rfl) ⟨by rw [decide_eq_false hno]; rfl, hE1⟩
/-- a list of products that is being closed: the first i elements are done -/
structure ClJ (n : Nat) (gens : List (List Int)) (i k : Nat) (L : List (List Int)) : Prop where
  nd : L.Nodup
  one : idList n ∈ L
  sub : ∀ p ∈ L, Gen n gens p
  done : ∀ j, j < i → ∀ g ∈ gens, mulP (L.getD j []) g ∈ L
  cur : ∀ l, l < k → mulP (L.getD i []) (gens.getD l []) ∈ L
theorem ClJ.len {n : Nat} {gens : List (List Int)} {i k : Nat} {L : List (List Int)} (h : ClJ n gens i k L) (n1 : 1 ≤ n ∧ n ≤ 512) (hg : GensN n gens) (h6 : n ≤ 6) : L.length ≤ 720 := by
  obtain ⟨c, hc⟩ := (gen_grp n1 hg).card
  have h1 := card_fac (gen_grp n1 hg) hc
  have h2 := fac_mono h6
  have hf6 : fac 6 = 720 := rfl
  obtain ⟨M, hM, hm, rfl⟩ := hc
  have h3 : L.length ≤ M.length := nodup_le h.nd fun p hp => (hm p).2 (h.sub p hp)
  omega
theorem getD_app {L : List (List Int)} {q : List Int} {j : Nat} (h : j < L.length) : (L ++ [q]).getD j [] = L.getD j [] := by rw [getD_snoc (by omega), if_pos h]
theorem ClJ.add {n : Nat} {gens : List (List Int)} {i k : Nat} {L : List (List Int)} (h : ClJ n gens i k L) (n1 : 1 ≤ n ∧ n ≤ 512) (hg : GensN n gens) (hi : i < L.length) (hk : k < gens.length) (hno : mulP (L.getD i []) (gens.getD k []) ∉ L) : ClJ n gens i (k + 1) (L ++ [mulP (L.getD i []) (gens.getD k [])]) := by
  refine ⟨?_, by simp [h.one], fun p hp => ?_, fun j hj g hg' => ?_, fun l hl => ?_⟩
  · rw [List.nodup_append]
    refine ⟨h.nd, by simp, fun a ha b hb => ?_⟩
    rw [List.mem_singleton] at hb
    subst hb
    rintro rfl
    exact hno ha
  · rcases List.mem_append.1 hp with hp | hp
    · exact h.sub p hp
    · rw [List.mem_singleton] at hp
      rw [hp]
      exact (gen_grp n1 hg).mul _ _ (h.sub _ (getD_mem hi)) (gen_self hg (getD_mem hk))
  · rw [getD_app (by omega)]; exact List.mem_append.2 (.inl (h.done j hj g hg'))
  · rw [getD_app hi]
    by_cases e : l = k
    · subst e; exact List.mem_append.2 (.inr (List.mem_singleton.2 rfl))
    · exact List.mem_append.2 (.inl (h.cur l (by omega)))
theorem ClJ.skip {n : Nat} {gens : List (List Int)} {i k : Nat} {L : List (List Int)} (h : ClJ n gens i k L) (hin : mulP (L.getD i []) (gens.getD k []) ∈ L) : ClJ n gens i (k + 1) L :=
  ⟨h.nd, h.one, h.sub, h.done, fun l hl => by
    by_cases e : l = k
    · subst e; exact hin
    · exact h.cur l (by omega)⟩
theorem ClJ.next {n : Nat} {gens : List (List Int)} {i : Nat} {L : List (List Int)} (h : ClJ n gens i gens.length L) : ClJ n gens (i + 1) 0 L :=
  ⟨h.nd, h.one, h.sub, fun j hj g hg => by
    by_cases e : j = i
    · subst e
      obtain ⟨l, hl, rfl⟩ := mem_getDL hg
      exact h.cur l hl
    · exact h.done j (by omega) g hg, fun l hl => by omega⟩
theorem ClJ.enm {n : Nat} {gens : List (List Int)} {L : List (List Int)} (h : ClJ n gens L.length 0 L) : Enm (Gen n gens) L := by
  refine ⟨h.nd, fun p => ⟨h.sub p, fun hp => ?_⟩⟩
  induction hp with
  | one => exact h.one
  | mul _ hg ih =>
    obtain ⟨j, hj, e⟩ := mem_getDL ih
    rw [← e]
    exact h.done j hj _ hg
set_option maxHeartbeats 1000000 in
theorem closure_spec {n : Nat} {gens : List (List Int)} {a : Option Addr} {sds : List SD} {cap : Nat} {w : World} (n1 : 1 ≤ n ∧ n ≤ 512) (h6 : n ≤ 6) (hg : GensN n gens) (hL : Lists w .i64 a sds gens) (hgl : gens.length ≤ 1000000) :
    CallsR Try.prog 42 #[.int .i64 (n : Int), .slice a gens.length cap] w fun v w' => Ex w w' ∧ ∃ (b : Option Addr) (c : Nat) (ss : List SD) (L : List (List Int)), v = .slice b L.length c ∧ Lists w' .i64 b ss L ∧ Enm (Gen n gens) L ∧ L.length ≤ 720 := by
  refine callsR_of (args := [_, _]) Try.func42 rfl rfl ?_
  have hid : identF (n : Int) = (idList n, true) := by unfold identF; rw [if_pos (by omega), Int.toNat_natCast]
  have hgrp := gen_grp n1 hg
  have hsl := hL.len
  repeat' (first | (refine k_pure rfl ?_) | (refine then_normal ?_) | (refine cw_seq ?_) | (refine cw_region rfl ?_) | (refine rr_nil ?_))
  refine k_call (refIdentity_spec (n : Int) w) rfl ?_
  rintro v w4 ⟨b4, c4, rfl, hO4, hE4⟩
  refine ⟨fun _ _ => trivial, ?_⟩
  rw [hid] at hO4 ⊢
  repeat' (first | (refine k_pure rfl ?_) | (refine then_normal ?_) | (refine cw_seq ?_) | (refine cw_region rfl ?_) | (refine rr_nil ?_))
  refine k_lit1 (v := .slice b4 (idList n).length c4) rfl rfl (fun g5 w5 hn5 => ⟨fun _ _ => trivial, ?_⟩)
  have l5 := hn5.lo
  have s4 := hE4.size
  have hE5 : Ex w w5 := hE4.trans hn5.ex
  have hO5 : OwnLists w5 w.heap.size 28 3 .i64 (some ⟨g5, 0, none⟩) 1 [⟨b4, (idList n).length, c4⟩] [idList n] := by
    refine ⟨hn5.blk.own (n := 1) rfl (by unfold maxLen; omega) (by omega), rfl, fun i hi => ?_, fun i hi ad ad' e e' => ?_⟩
    · obtain rfl : i = 0 := by simpa using hi
      exact ⟨hO4.ext hn5.ex, rfl⟩
    · obtain rfl : i = 0 := by simpa using hi
      have e1 : ad.block = g5 := by injection e with e; rw [← e]
      have e2 := (hO4.lo ad' e').2
      omega
  have hJ5 : ClJ n gens 0 0 [idList n] := ⟨by simp, by simp, fun p hp => by rw [List.mem_singleton] at hp; rw [hp]; exact .one, fun j hj => by omega, fun l hl => by omega⟩
  repeat' (first | (refine k_pure rfl ?_) | (refine then_normal ?_) | (refine cw_seq ?_) | (refine cw_region rfl ?_) | (refine rr_nil ?_) | (refine cw_block ?_))
  refine cw_loop (ι := Nat × (Option Addr × Nat) × List SD × List (List Int)) [4, 7, 8, 10, 11, 12, 20, 21, 22, 23, 24, 25, 26, 27, 28, 29, 30, 31, 32, 33, 34, 35, 36, 37, 38, 39, 40, 41, 42, 43, 44, 45, 46, 47, 48, 49, 50, 51, 52] (fun s => [(8, .int .i64 (s.1 : Int)), (7, .slice s.2.1.1 s.2.2.2.length s.2.1.2)])
    (fun s w' => s.1 ≤ s.2.2.2.length ∧ Ex w w' ∧ OwnLists w' w.heap.size 28 3 .i64 s.2.1.1 s.2.1.2 s.2.2.1 s.2.2.2 ∧ ClJ n gens s.1 0 s.2.2.2) (fun s => 721 - s.1)
    (0, (some ⟨g5, 0, none⟩, 1), [⟨b4, (idList n).length, c4⟩], [idList n]) ⟨rfl, rfl, trivial⟩ ⟨Nat.zero_le _, hE5, hO5, hJ5⟩ ?_
  rintro ⟨i, ⟨b, cb⟩, lsd, L⟩ ξ w6 ⟨hi, hE6, hO6, hJ6⟩
  simp only at hi hO6 hJ6
  show CW _ _ _ _ (over [(8, .int .i64 (i : Int)), (7, .slice b L.length cb)] _) w6
  have hL7 := hJ6.len n1 hg h6
  by_cases hil : i < L.length
  · repeat' (first | (refine k_lssT rfl rfl (by omega) ?_) | (refine k_pure rfl ?_) | (refine then_normal ?_) | (refine cw_seq ?_) | (refine cw_region rfl ?_) | (refine rr_nil ?_) | (refine k_len rfl ?_) | (refine cw_cond_true rfl ?_) | (refine cw_block ?_) | (refine cw_skip ?_))
    refine cw_loop (ι := Nat × (Option Addr × Nat) × List SD × List (List Int)) [7, 10, 11, 12, 28, 29, 30, 31, 32, 33, 34, 35, 36, 37, 38, 39, 40, 41, 42, 43, 44, 45, 46, 47, 48, 49] (fun s => [(28, .int .i64 (s.1 : Int)), (7, .slice s.2.1.1 s.2.2.2.length s.2.1.2)])
      (fun s w' => s.1 ≤ gens.length ∧ i < s.2.2.2.length ∧ Ex w w' ∧ OwnLists w' w.heap.size 28 3 .i64 s.2.1.1 s.2.1.2 s.2.2.1 s.2.2.2 ∧ ClJ n gens i s.1 s.2.2.2) (fun s => gens.length - s.1)
      (0, (b, cb), lsd, L) ⟨rfl, rfl, trivial⟩ ⟨Nat.zero_le _, hil, hE6, hO6, hJ6⟩ ?_
    rintro ⟨k, ⟨b2, c2⟩, sd2, L2⟩ ξ2 w7 ⟨hk, hi2, hE7, hO7, hJ7⟩
    simp only at hk hi2 hO7 hJ7
    show CW _ _ _ _ (over [(28, .int .i64 (k : Int)), (7, .slice b2 L2.length c2)] _) w7
    have hL27 := hJ7.len n1 hg h6
    have hsl2 := hO7.len
    by_cases hkl : k < gens.length
    · have hLs7 := hL.ext hE7
      obtain ⟨hsd, hsn⟩ := hLs7.each k hkl
      obtain ⟨⟨ta, tl, tc⟩, hsdk⟩ : ∃ x, sds.getD k sd0 = x := ⟨_, rfl⟩
      rw [hsdk] at hsd hsn
      simp only at hsd hsn
      subst hsn
      obtain ⟨hsdi, hsni⟩ := hO7.lists.each i hi2
      obtain ⟨⟨ua, ul, uc⟩, hsdi'⟩ : ∃ x, sd2.getD i sd0 = x := ⟨_, rfl⟩
      rw [hsdi'] at hsdi hsni
      simp only at hsdi hsni
      subst hsni
      have pg := hg _ (getD_mem (d := []) hkl)
      have pq := hgrp.perm _ (hJ7.sub _ (getD_mem (d := []) hi2))
      have htop := hO7.lists.sl
      repeat' (first | (refine k_lssT rfl rfl (by omega) ?_) | (refine k_indexN (j := k) (a := a) rfl rfl (hLs7.sl.plain (by rw [List.length_map]; omega)) (by omega) ?_) | (refine k_loadSd rfl hLs7.sl (by omega) hsdk ?_) | (refine k_indexN (j := i) (a := b2) rfl rfl (htop.plain (by rw [List.length_map]; omega)) (by omega) ?_) | (refine k_loadSd rfl htop (by omega) hsdi' ?_) | (refine k_pure rfl ?_) | (refine then_normal ?_) | (refine cw_seq ?_) | (refine cw_region rfl ?_) | (refine rr_nil ?_) | (refine cw_cond_true rfl ?_) | (refine cw_block ?_) | (refine cw_skip ?_))
      refine k_call (refCompose_spec (xs := L2.getD i []) (ys := gens.getD k []) hsdi hsd uc tc) rfl ?_
      rw [composeF_eq' pq pg]
      rintro v w8 ⟨b8, c8, rfl, hO8, hE8⟩
      refine ⟨fun _ _ => trivial, ?_⟩
      simp only at hO8 ⊢
      have hO78 := hO7.ext hE8
      have s7 := hE7.size
      have s8 := hE8.size
      repeat' (first | (refine k_pure rfl ?_) | (refine then_normal ?_) | (refine cw_seq ?_) | (refine cw_region rfl ?_) | (refine rr_nil ?_))
      refine k_call (lcontains_spec hO78.lists hO8.sl (by omega) (fun p hp => by rw [(hgrp.perm p (hJ7.sub p hp)).2]; omega)) rfl ?_
      rintro v w9 ⟨rfl, hE9⟩
      refine ⟨fun _ _ => trivial, ?_⟩
      have hO79 := hO78.ext hE9
      have s9 := hE9.size
      by_cases hin : mulP (L2.getD i []) (gens.getD k []) ∈ L2
      · rw [decide_eq_true hin]
        repeat' (first | (refine k_pure rfl ?_) | (refine then_normal ?_) | (refine cw_region rfl ?_) | (refine rr_nil ?_) | (refine k_addI rfl rfl (by omega) (by omega) ?_) | (refine cw_cond_false rfl ?_) | (refine in_normal ?_) | (refine cw_skip ?_))
        refine ⟨⟨(k + 1, (b2, c2), sd2, L2), ⟨by simp only; omega, hi2, (hE7.trans hE8).trans hE9, hO79, hJ7.skip hin⟩, by simp only; omega, rfl, rfl, trivial⟩, (by (repeat (first | exact agree_mask _ _ _ | refine agree_upd rfl ?_ | refine agree_updO rfl ?_ | refine agree_overIn rfl ?_ | refine agree_maskIn rfl ?_)))⟩
      · rw [decide_eq_false hin]
        repeat' (first | (refine k_pure rfl ?_) | (refine then_normal ?_) | (refine cw_region rfl ?_) | (refine rr_nil ?_) | (refine cw_cond_true rfl ?_))
        refine k_app1S (n := sd2.length) (a := b2) (cap := c2) (by show Value.slice b2 L2.length c2 = _; rw [hsl2]) rfl rfl rfl hO79.top (by omega) (by omega) (by omega) (fun g10 b10 c10 w10 ho10 hg10 hA10 => ?_)
        have hO10 := hO79.snoc ((hO8.ext hE9).mono (by omega)) (fun ad ad' e e' => by have := (hO7.top.lo ad e).2; have := (hO8.lo ad' e').1; omega) ho10 hg10 hA10
        have hE10 : Ex w w10 := hO79.grow_ex hg10 ((hE7.trans hE8).trans hE9) (Nat.le_refl _)
        repeat' (first | (refine k_pure rfl ?_) | (refine then_normal ?_) | (refine cw_region rfl ?_) | (refine rr_nil ?_) | (refine k_addI rfl rfl (by omega) (by omega) ?_) | (refine in_normal ?_))
        refine ⟨⟨(k + 1, (b10, c10), sd2 ++ [⟨b8, (mulP (L2.getD i []) (gens.getD k [])).length, c8⟩], L2 ++ [mulP (L2.getD i []) (gens.getD k [])]), ⟨by simp only; omega, by simp only; rw [List.length_append, List.length_singleton]; omega, hE10, hO10, hJ7.add n1 hg hi2 hkl hin⟩, by simp only; omega, rfl, ?_, trivial⟩, (by (repeat (first | exact agree_mask _ _ _ | refine agree_upd rfl ?_ | refine agree_updO rfl ?_ | refine agree_overIn rfl ?_ | refine agree_maskIn rfl ?_)))⟩
        show Value.slice b10 (sd2.length + 1) c10 = Value.slice b10 (L2 ++ [_]).length c10
        rw [List.length_append, List.length_singleton, hsl2]
    · obtain rfl : k = gens.length := by omega
      repeat' (first | (refine k_lssF rfl rfl (by omega) ?_) | (refine k_gtrF rfl rfl (by omega) ?_) | (refine k_pure rfl ?_) | (refine then_normal ?_) | (refine cw_seq ?_) | (refine cw_region rfl ?_) | (refine rr_nil ?_) | (refine k_len rfl ?_) | (refine k_addI rfl rfl (by omega) (by omega) ?_) | (refine cw_cond_false rfl ?_) | (refine cw_exit ?_) | (refine then_exit ?_) | (refine in_exit ?_) | (refine in_normal ?_) | (refine cw_skip ?_))
      refine ⟨⟨(i + 1, (b2, c2), sd2, L2), ⟨by simp only; omega, hE7, hO7, hJ7.next⟩, by simp only; omega, rfl, rfl, trivial⟩, (by (repeat (first | exact agree_mask _ _ _ | refine agree_upd rfl ?_ | refine agree_updO rfl ?_ | refine agree_overIn rfl ?_ | refine agree_maskIn rfl ?_)))⟩
  · obtain rfl : i = L.length := by omega
    repeat' (first | (refine k_lssF rfl rfl (by omega) ?_) | (refine k_pure rfl ?_) | (refine then_normal ?_) | (refine cw_seq ?_) | (refine cw_region rfl ?_) | (refine rr_nil ?_) | (refine k_len rfl ?_) | (refine cw_cond_false rfl ?_) | (refine cw_exit ?_) | (refine then_exit ?_) | (refine in_exit ?_) | (refine cw_ret ?_))
    exact ret1 rfl (rt rfl) ⟨hE6, b, cb, lsd, L, rfl, hO6.lists, hJ6.enm, hL7⟩
end Go.Proofs.Ythhfjagnmhhapaa

namespace Go.Proofs.Ythhfjagnmhhapaa
open Go.W Go.PM Go.LM
set_option maxHeartbeats 2000000 in
theorem closes_calls {pts : Int} (hp : 0 ≤ pts ∧ pts ≤ 255) {la : Option Addr} {sds : List SD} {Ls : List (List Int)} {w : World} (hL : Lists w .i8 la sds Ls) (hI : ∀ i, I8 (Ls.getD i [])) (c : Nat) (hl : Ls.length ≤ 9223372036854775807) (few : Bool) :
    CallsR Try.prog 14 #[.agg (permsL pts la Ls.length c few).toArray] w fun v w' => v = .bool true ∧ Ex w w' := by
  refine callsR_of (args := [_]) Try.func14 rfl rfl ?_
  repeat' (first | (refine k_boxA rfl (fun g w1 hn1 => ⟨fun _ _ => trivial, ?_⟩)) | (refine k_pure rfl ?_) | (refine then_normal ?_) | (refine cw_seq ?_) | (refine cw_region rfl ?_) | (refine rr_nil ?_))
  have hd1 : 0 ≤ pts % 6 := Int.emod_nonneg _ (by omega)
  have hd2 : pts % 6 < 6 := Int.emod_lt_of_pos _ (by omega)
  obtain ⟨n, hn⟩ : ∃ n : Nat, 1 + pts % 6 = (n : Int) := ⟨(1 + pts % 6).toNat, by omega⟩
  have hn8 : 1 ≤ n ∧ n ≤ 6 := by omega
  refine cw_draw (late := []) (plan := [(0, none), (2, none), (1, some true), (3, some true), (4, none), (5, none)]) (fun w' => Blk w' g 35 (permsL pts la Ls.length c few)) mixed (by kernel_rfl) hn1.blk.drew ?_
  have hE1 : Ex w w1.drew := hn1.ex.drew
  repeat' (first | (refine k_loadCA rfl (fun _ h => h) rfl ?_))
  refine k_call (degree_spec hp _ _ _ _ (by omega) _) rfl ?_
  rintro v w2 ⟨rfl, hE2⟩
  refine ⟨fun _ h => h.ext hE2, ?_⟩
  rw [hn]
  refine k_call (gens_spec hp (by omega) hn (hL.ext (hE1.trans hE2)) hI _ hl few) rfl ?_
  rintro v w3 ⟨b, cc, ss, xss, rfl, hO, hx3, hG, hA, hE3⟩
  refine ⟨fun _ h => h.ext hE3, ?_⟩
  have hE03 : Ex w w3 := (hE1.trans hE2).trans hE3
  have hLs := hO.lists
  have hle := hLs.len
  rw [hle]
  have hes : errS (n : Int) xss = 0 := errS_ok hn8.1 (by omega) (by omega) hG
  have n1 : 1 ≤ n ∧ n ≤ 512 := ⟨hn8.1, by omega⟩
  have hgrp := gen_grp n1 hG.n
  repeat' (first | (refine k_pure rfl ?_) | (refine then_normal ?_) | (refine cw_seq ?_) | (refine cw_region rfl ?_) | (refine rr_nil ?_))
  refine k_call (closure_spec (cap := cc) n1 hn8.2 hG.n hLs (by omega)) rfl ?_
  rintro v w4 ⟨hE4, b4, c4, ss4, L4, rfl, hL4, hEn4, hL7⟩
  refine ⟨fun _ _ => trivial, ?_⟩
  have h04 : 0 < L4.length := List.length_pos_of_mem ((hEn4.mem _).2 hgrp.one)
  repeat' (first | (refine k_pure rfl ?_) | (refine then_normal ?_) | (refine cw_seq ?_) | (refine cw_region rfl ?_) | (refine rr_nil ?_))
  refine k_call (sOrder_spec (n := (n : Int)) (cap := cc) (hLs.ext hE4) (by omega) (fun _ => by omega)) rfl ?_
  rintro v w5 ⟨z5, rfl, hE5, _, ho5⟩
  refine ⟨fun _ _ => trivial, ?_⟩
  obtain ⟨k5, hk5, hz5⟩ := ho5 hes
  rw [Int.toNat_natCast] at hk5
  obtain rfl : k5 = L4.length := hk5.unique hEn4.card
  obtain ⟨cs5, rfl, hcl5, hco5⟩ := hz5.out
  rw [hes]
  repeat' (first | (refine k_pure rfl ?_))
  refine k_allocA (vs := intL false none 0 0) (fun g6 w6 hn6 => ⟨fun _ _ => trivial, ?_⟩)
  refine k_storeV (n := 2) rfl rfl hcl5 hco5 hn6.blk rfl (fun w7 hc7 hb7 => ⟨fun _ _ => trivial, ?_⟩)
  have s5 := hE5.size
  have hE47 : Ex w4 w7 := (hE5.trans hn6.ex).chg hc7 (by have h1 := hn6.lo; omega)
  have hq7 := (hz5.ext hn6.ex).chgO hc7 (hz5.off_hi hn6.lo)
  repeat' (first | (refine k_pure rfl ?_) | (refine then_normal ?_) | (refine cw_seq ?_) | (refine cw_region rfl ?_) | (refine rr_nil ?_))
  refine k_call (sElements_spec (n := (n : Int)) (cap := cc) (hLs.ext (hE4.trans hE47)) (by omega) (fun _ => by omega)) rfl ?_
  rintro v w8 ⟨hE8, b8, c8, ss8, L8, e8, rfl, hL8, _, ho8⟩
  refine ⟨fun _ _ => trivial, ?_⟩
  obtain ⟨k8, hk8, hcase⟩ := ho8 hes
  rw [Int.toNat_natCast] at hk8 hcase
  obtain rfl : k8 = L4.length := hk8.unique hEn4.card
  rcases hcase with ⟨h, _⟩ | ⟨_, rfl, hEn8, _⟩
  · omega
  have hll : L8.length = L4.length := hEn8.card.unique hEn4.card
  have hb8 := hb7.ext hE8
  have hE48 := hE47.trans hE8
  repeat' (first | (refine k_pure rfl ?_) | (refine then_normal ?_) | (refine cw_seq ?_) | (refine rr_nil ?_))
  have hE8d : Ex w8 w8.drew := (Ex.refl _).drew
  refine cw_draw (late := [23]) (plan := [(0, none), (1, none), (2, none), (3, none), (4, none), (5, none), (6, none), (7, none), (8, none), (9, none), (10, none), (11, none), (12, none), (13, none), (14, none), (15, none), (16, none), (17, none), (18, none), (19, none), (20, none), (21, none), (22, some true), (23, some false), (24, none), (25, none)]) (fun w' => Ex w8 w') mixed (by kernel_rfl) hE8d ?_
  repeat' (first | (refine k_eqF (m := (L4.length : Int)) rfl rfl (by omega) ?_) | (refine k_neF (m := (L8.length : Int)) rfl rfl (by omega) ?_) | (refine k_loadCA (g := g6) rfl (fun _ h => hb8.ext h) hcl5 ?_) | (refine k_pure rfl ?_) | (refine k_len rfl ?_) | (refine g_run rfl rfl ?_))
  refine k_call (refSmall_spec (z := (L4.length : Int)) (by omega) (by omega) _) rfl ?_
  rintro v w9 ⟨hz9, hE9⟩
  refine ⟨fun _ h => h.trans hE9, ?_⟩
  have hE79 := (hE8.trans hE8d).trans hE9
  repeat' (first | (refine g_run rfl rfl ?_))
  refine k_call (refSame_spec (hq7.ext hE79) hz9) rfl ?_
  rintro v w10 ⟨rfl, hE10⟩
  refine ⟨fun _ h => h.trans hE10, ?_⟩
  rw [decide_eq_true (p := ((L4.length : Nat) : Int) = ((L4.length : Nat) : Int)) rfl]
  repeat' (first | (refine k_pure rfl ?_) | (refine then_normal ?_) | (refine cw_seq ?_) | (refine cw_region rfl ?_) | (refine rr_nil ?_) | (refine k_len rfl ?_) | (refine g_run rfl rfl ?_) | (refine cw_cond_false rfl ?_) | (refine cw_block ?_) | (refine cw_skip ?_))
  have hE8a := (hE8d.trans hE9).trans hE10
  refine cw_loop (ι := Nat) [2, 11, 59, 60, 61, 62, 63, 64, 65, 66, 67] (fun s => [(59, .int .i64 (s : Int))]) (fun s w' => s ≤ L8.length ∧ Ex w8 w') (fun s => L8.length - s)
    0 ⟨rfl, trivial⟩ ⟨Nat.zero_le _, hE8a⟩ ?_
  rintro i ξ w11 ⟨hi, hE11⟩
  show CW _ _ _ _ (over [(59, .int .i64 (i : Int))] _) w11
  have hE411 := hE48.trans hE11
  have hsl8 := hL8.len
  by_cases hil : i < L8.length
  · have hL11 := hL8.ext hE11
    obtain ⟨hsd, hsn⟩ := hL11.each i hil
    obtain ⟨⟨ta, tl, tc⟩, hsdk⟩ : ∃ x, ss8.getD i sd0 = x := ⟨_, rfl⟩
    rw [hsdk] at hsd hsn
    simp only at hsd hsn
    subst hsn
    have hin : L8.getD i [] ∈ L4 := (hEn4.mem _).2 ((hEn8.mem _).1 (getD_mem hil))
    repeat' (first | (refine k_lssT rfl rfl (by omega) ?_) | (refine k_indexN (j := i) (a := b8) rfl rfl (hL11.sl.plain (by rw [List.length_map]; omega)) (by omega) ?_) | (refine k_loadSd rfl hL11.sl (by omega) hsdk ?_) | (refine k_pure rfl ?_) | (refine then_normal ?_) | (refine cw_seq ?_) | (refine cw_region rfl ?_) | (refine rr_nil ?_) | (refine cw_cond_true rfl ?_) | (refine cw_block ?_) | (refine cw_skip ?_))
    refine k_call (lcontains_spec (d := tc) (hL4.ext hE411) hsd (by omega) (fun p hp => by rw [(hgrp.perm p ((hEn4.mem p).1 hp)).2]; omega)) rfl ?_
    rintro v w12 ⟨rfl, hE12⟩
    refine ⟨fun _ _ => trivial, ?_⟩
    rw [decide_eq_true hin]
    repeat' (first | (refine k_pure rfl ?_) | (refine then_normal ?_) | (refine cw_region rfl ?_) | (refine rr_nil ?_) | (refine k_addI rfl rfl (by omega) (by omega) ?_) | (refine cw_cond_false rfl ?_) | (refine in_normal ?_) | (refine cw_skip ?_))
    refine ⟨⟨i + 1, ⟨by omega, hE11.trans hE12⟩, by omega, rfl, trivial⟩, (by (repeat (first | exact agree_mask _ _ _ | refine agree_upd rfl ?_ | refine agree_updO rfl ?_ | refine agree_overIn rfl ?_ | refine agree_maskIn rfl ?_)))⟩
  · repeat' (first | (refine k_lssF rfl rfl (by omega) ?_) | (refine then_normal ?_) | (refine cw_seq ?_) | (refine cw_region rfl ?_) | (refine rr_nil ?_) | (refine cw_cond_false rfl ?_) | (refine cw_exit ?_) | (refine then_exit ?_) | (refine in_exit ?_))
    refine k_call (awakeS_spec _) rfl ?_
    rintro v w12 ⟨rfl, hE12⟩
    refine ⟨fun _ _ => trivial, ?_⟩
    repeat' (first | (refine k_pure rfl ?_) | (refine then_normal ?_) | (refine rr_nil ?_) | (refine cw_ret ?_))
    exact ret1 rfl (rt rfl) ⟨rfl, ((hE03.trans hE4).trans hE411).trans hE12⟩
end Go.Proofs.Ythhfjagnmhhapaa

