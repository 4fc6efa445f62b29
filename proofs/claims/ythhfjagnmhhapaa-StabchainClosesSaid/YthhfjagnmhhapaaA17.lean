
import Derived.Test.YthhfjagnmhhapaaA01
import Derived.Test.YthhfjagnmhhapaaA02
import Derived.Test.YthhfjagnmhhapaaA03
import Derived.Test.YthhfjagnmhhapaaA04
import Derived.Test.YthhfjagnmhhapaaA05
import Derived.Test.YthhfjagnmhhapaaA06
import Derived.Test.YthhfjagnmhhapaaA07
import Derived.Test.YthhfjagnmhhapaaA08
import Derived.Test.YthhfjagnmhhapaaA09
import Derived.Test.YthhfjagnmhhapaaA10
import Derived.Test.YthhfjagnmhhapaaA11
import Derived.Test.YthhfjagnmhhapaaA13
import Derived.Test.YthhfjagnmhhapaaA16

namespace Go.Proofs.Ythhfjagnmhhapaa
open Go.W Go.LM

theorem Limbs.of_blk {w : World} {g c : Nat} {Tb : Nat} {ls : List Nat} (h : Blk w g Tb (limbsL ls)) (hc : ls.length ≤ c) (hl : Lim ls) (hn : ls.length ≤ 17592186044416) : Limbs w (some ⟨g, 0, none⟩) c ls := ⟨h.sl, hc, hl, hn⟩

set_option maxHeartbeats 1000000 in
theorem mulNat_spec {la lb : List Nat} {a b : Option Addr} {c d : Nat} {w : World} (ha : Limbs w a c la) (hb : Limbs w b d lb) (hlen : la.length + lb.length ≤ 17592186044416) :
    CallsR Try.prog 116 #[.slice a la.length c, .slice b lb.length d] w fun v w' => ∃ ls, natOf ls = natOf la * natOf lb ∧ Canon ls ∧ ls.length ≤ la.length + lb.length + 2 ∧ RetN w ls v w' := by
  by_cases hsm : la.length ≤ 1 ∧ lb.length ≤ 1
  · refine (mulNat_small ha hb hsm.1 hsm.2).mono fun v w' h => ⟨_, ?_, digs_canon _, ?_, h⟩
    · rw [digs_natOf]
    · have := digs_len (natOf la * natOf lb); omega
  have hla := ha.len
  have hlb := hb.len
  refine callsR_of (args := [_, _]) Try.func116 rfl rfl ?_
  repeat' (first | (refine k_addJ rfl rfl (by omega) ?_) | (refine k_makeN rfl rfl (by omega) (by omega) (fun g w1 hn => ⟨fun _ _ => trivial, ?_⟩)) | (refine k_pure rfl ?_) | (refine then_normal ?_) | (refine cw_seq ?_) | (refine cw_region rfl ?_) | (refine rr_nil ?_) | (refine k_len rfl ?_) | (refine g_run rfl rfl ?_) | (refine g_skip rfl rfl ?_) | (refine g_dec_t rfl rfl (fun hc => ?_) (fun hc => ?_)) | (refine cw_cond_false rfl ?_) | (refine cw_cond_dec rfl (fun hc => ?_) (fun hc => ?_)) | (refine cw_block ?_) | (refine cw_skip ?_))
  all_goals try (exfalso; omega)
  all_goals
    refine cw_loop (ι := Nat × List Nat) [6, 7, 8, 9, 10, 11, 34, 35, 36, 37, 38, 39, 40, 41, 42, 43, 44, 45, 46, 47, 48, 49, 50, 51, 52, 53, 54, 55, 56, 57, 58, 59, 60, 61, 62, 63, 64, 65, 66, 67, 68, 69, 70, 71, 72, 73, 74, 75, 76, 77, 78, 79, 80, 81, 82, 83] (fun s => [(34, .int .i64 (s.1 : Int))])
      (fun s w' => s.1 ≤ la.length ∧ Ex w w' ∧ Blk w' g 105 (limbsL s.2) ∧ s.2.length = la.length + lb.length ∧ Lim s.2 ∧ natOf s.2 = natOf (la.take s.1) * natOf lb ∧ ∀ j, s.1 + lb.length ≤ j → s.2.getD j 0 = 0) (fun s => la.length - s.1)
      (0, List.replicate (la.length + lb.length) 0) ⟨rfl, trivial⟩ ⟨by simp, hn.ex, hn.blk, by simp, Lim.zeros _, by simp [natOf_zeros, natOf], fun j _ => by simp [List.getD_eq_getElem?_getD, List.getElem?_replicate]; split <;> rfl⟩ ?_
    rintro ⟨i, ps⟩ ξ w2 ⟨hi, hE, hbk, hpl, hpL, hpn, hpz⟩
    simp only at hi hbk hpl hpL hpn hpz
    show CW _ _ _ _ (over [(34, .int .i64 (i : Int))] _) w2
    have hxl := ha.lim.getD i
    repeat' (first | (refine k_indexN rfl rfl (ha.sl.plain (by simp; omega)) (by omega) ?_) | (refine k_loadN rfl (ha.sl.ext hE) (by omega) ?_) | (refine k_pure rfl ?_) | (refine then_normal ?_) | (refine cw_seq ?_) | (refine cw_region rfl ?_) | (refine rr_nil ?_) | (refine k_len rfl ?_) | (refine k_addI rfl rfl (by omega) (by omega) ?_) | (refine cw_cond_dec rfl (fun hc => ?_) (fun hc => ?_)) | (refine cw_block ?_) | (refine cw_exit ?_) | (refine then_exit ?_) | (refine in_exit ?_) | (refine cw_skip ?_))
    · have h0 : la.getD i 0 = 0 := by omega
      refine ⟨⟨(i + 1, ps), ⟨by simp only; omega, hE, hbk, hpl, hpL, ?_, fun j hj => hpz j (by simp only at hj; omega)⟩, by simp only; omega, rfl, trivial⟩, (by (repeat (first | exact agree_mask _ _ _ | refine agree_upd rfl ?_ | refine agree_updO rfl ?_ | refine agree_overIn rfl ?_ | refine agree_maskIn rfl ?_)))⟩
      simp only
      rw [hpn, natOf_take_succ (by omega), h0, Nat.zero_mul, Nat.add_zero]
    · refine k_sliceLH (l := i) (h := i + lb.length + 1) rfl rfl (by show Value.int .i64 ((i : Int) + (lb.length : Int) + 1) = _; rfl) (by omega) (by omega) (by omega) ?_
      rw [Nat.zero_add, Nat.mul_one, show i + lb.length + 1 - i = lb.length + 1 by omega]
      repeat' (first | (refine k_pure rfl ?_) | (refine then_normal ?_) | (refine cw_seq ?_) | (refine cw_region rfl ?_) | (refine rr_nil ?_) | (refine k_len rfl ?_) | (refine cw_block ?_))
      refine cw_loop (ι := Nat × List Nat × Nat) [9, 10, 11, 51, 52, 53, 54, 55, 56, 57, 58, 59, 60, 61, 62, 63, 64, 65, 66, 67, 68, 69, 70, 71, 72, 73, 74, 75, 76] (fun s => [(51, .int .i64 (s.1 : Int)), (9, .int .u64 (s.2.2 : Int))])
        (fun s w' => s.1 ≤ lb.length ∧ Ex w w' ∧ Blk w' g 105 (limbsL s.2.1) ∧ s.2.1.length = la.length + lb.length ∧ Lim s.2.1 ∧ s.2.2 < 4294967296 ∧ natOf s.2.1 + s.2.2 * 4294967296 ^ (i + s.1) = natOf ps + la.getD i 0 * natOf (lb.take s.1) * 4294967296 ^ i ∧ ∀ j, i + s.1 ≤ j → s.2.1.getD j 0 = ps.getD j 0) (fun s => lb.length - s.1)
        (0, ps, 0) ⟨rfl, rfl, trivial⟩ ⟨by simp, hE, hbk, hpl, hpL, by simp, by simp [natOf], fun j _ => rfl⟩ ?_
      rintro ⟨j, qs, cy⟩ ξ2 w3 ⟨hj, hE3, hb3, hql, hqL, hcy, hqn, hqz⟩
      simp only at hj hb3 hql hqL hcy hqn hqz
      show CW _ _ _ _ (over [(51, .int .i64 (j : Int)), (9, .int .u64 (cy : Int))] _) w3
      have hyl := hb.lim.getD j
      have hrl := hqL.getD (i + j)
      have hfit := mul_lt_B2 hxl hyl hcy hrl
      repeat' (first | (refine k_indexN rfl rfl (hb.sl.plain (by simp; omega)) (by omega) ?_) | (refine k_loadN rfl (hb.sl.ext hE3) (by omega) ?_) | (refine k_indexN rfl rfl ⟨_, _, rfl⟩ (by omega) ?_) | (refine k_loadNo rfl hb3 (by omega) ?_) | (refine k_up rfl (by assumption) ?_) | (refine k_mulN rfl rfl (by omega) ?_) | (refine k_addN rfl rfl (by omega) ?_) | (refine k_down rfl ?_) | (refine k_shr32 rfl rfl ?_) | (refine k_storeNo rfl rfl hb3 (by omega) (fun w4 hc4 hb4 => ⟨fun _ _ => trivial, ?_⟩)) | (refine k_pure rfl ?_) | (refine then_normal ?_) | (refine cw_seq ?_) | (refine cw_region rfl ?_) | (refine rr_nil ?_) | (refine k_len rfl ?_) | (refine k_addI rfl rfl (by omega) (by omega) ?_) | (refine cw_cond_dec rfl (fun hc => ?_) (fun hc => ?_)) | (refine cw_block ?_) | (refine cw_exit ?_) | (refine then_exit ?_) | (refine in_exit ?_) | (refine in_normal ?_) | (refine cw_skip ?_))
      · refine ⟨⟨(j + 1, qs.set (i + j) ((cy + (la.getD i 0 * lb.getD j 0 + qs.getD (i + j) 0)) % 4294967296), (cy + (la.getD i 0 * lb.getD j 0 + qs.getD (i + j) 0)) / 4294967296), ⟨by simp only; omega, hE3.chg hc4 hn.lo, hb4, by simp [hql], hqL.set (Nat.mod_lt _ (by decide)), by simp only; omega, ?_, ?_⟩, by simp only; omega, rfl, rfl, trivial⟩, (by (repeat (first | exact agree_mask _ _ _ | refine agree_upd rfl ?_ | refine agree_updO rfl ?_ | refine agree_overIn rfl ?_ | refine agree_maskIn rfl ?_)))⟩
        · have := row_step (x := la.getD i 0) (y := lb.getD j 0) (show i + j < qs.length by omega) hqn
          simp only
          rw [show i + (j + 1) = i + j + 1 by omega, this, natOf_take_succ (by omega), Nat.mul_add, Nat.add_mul, Nat.add_assoc, Nat.pow_add]
          congr 2
          rw [← Nat.mul_assoc, Nat.mul_assoc, Nat.mul_comm (4294967296 ^ i), ← Nat.mul_assoc, Nat.mul_assoc (la.getD i 0)]
        · intro k hk
          simp only at hk ⊢
          rw [getD_set_ne' (by omega), hqz k (by omega)]
      · obtain rfl : j = lb.length := by omega
        have hz : qs.getD (i + lb.length) 0 = 0 := by rw [hqz _ (Nat.le_refl _)]; exact hpz _ (Nat.le_refl _)
        skip
        rw [Nat.mod_eq_of_lt hcy] at hb4
        refine ⟨⟨(i + 1, qs.set (i + lb.length) cy), ⟨by simp only; omega, hE3.chg hc4 hn.lo, hb4, by simp [hql], hqL.set hcy, ?_, ?_⟩, by simp only; omega, rfl, trivial⟩, (by (repeat (first | exact agree_mask _ _ _ | refine agree_upd rfl ?_ | refine agree_updO rfl ?_ | refine agree_overIn rfl ?_ | refine agree_maskIn rfl ?_)))⟩
        · have h1 := natOf_set (l := qs) (k := i + lb.length) (v := cy) (by omega)
          rw [hz, Nat.zero_mul, Nat.add_zero] at h1
          simp only
          rw [h1, hqn, hpn, List.take_length, natOf_take_succ (by omega), Nat.add_mul]
          congr 1
          rw [Nat.mul_assoc, Nat.mul_assoc, Nat.mul_comm (natOf lb)]
        · intro k hk
          simp only at hk ⊢
          rw [getD_set_ne' (by omega), hqz k (by omega), hpz k (by omega)]
    · obtain rfl : i = la.length := by omega
      rw [List.take_length] at hpn
      have hL := Limbs.of_blk (c := la.length + lb.length) hbk (by omega) hpL (by omega)
      have hcall := trim_spec hL
      rw [hpl] at hcall
      skip
      refine k_call hcall rfl ?_
      rintro v w3 ⟨rfl, hE3⟩
      refine ⟨fun _ _ => trivial, ?_⟩
      repeat' (first | (refine k_pure rfl ?_) | (refine then_normal ?_) | (refine rr_nil ?_) | (refine cw_ret ?_))
      refine ret1 rfl (rt rfl) ⟨trimL ps, by rw [trimL_natOf, hpn], canon_trimL _, by have := trimL_len ps; omega, _, _, rfl, hL.trim.ext hE3, fun ad e => by cases e; exact hn.lo, hE.trans hE3⟩
end Go.Proofs.Ythhfjagnmhhapaa

namespace Go.Proofs.Ythhfjagnmhhapaa
open Go.W Go.LM

theorem mul_spec {lo lo' k l : Nat} {v1 v2 : Value} {x y : Int} {w : World} (h1 : IntC lo w v1 x) (h2 : IntC lo' w v2 y) (hx : x.natAbs < 4294967296 ^ k) (hy : y.natAbs < 4294967296 ^ l) (hkl : k + l ≤ 17592186044416) :
    CallsR Try.prog 88 #[v1, v2] w (RetZ w (x * y)) := by
  obtain ⟨n1, a1, c1, l1, rfl, hL1, rfl, hc1, _, _⟩ := h1
  obtain ⟨n2, a2, c2, l2, rfl, hL2, rfl, hc2, _, _⟩ := h2
  rw [sgn_natAbs] at hx hy
  refine callsR_of (args := [_, _]) Try.func88 rfl rfl ?_
  refine cw_seq ?_
  refine cw_region rfl ?_
  refine k_boxA rfl (fun g2 w2 hn2 => ⟨fun _ _ => trivial, ?_⟩)
  refine k_boxA rfl (fun g3 w3 hn3 => ⟨fun _ _ => trivial, ?_⟩)
  refine k_alloc (fun g4 w4 hn4 => ⟨fun _ _ => trivial, ?_⟩)
  have hb2 := (hn2.blk.ext hn3.ex).ext hn4.ex
  have hb3 := hn3.blk.ext hn4.ex
  have hb4 : Blk w4 g4 24 (intL false none 0 0) := hn4.blk
  have hE := (hn2.ex.trans hn3.ex).trans hn4.ex
  have l4 := hn4.lo
  have l4' := hn4.hi
  have s3 := (hn2.ex.trans hn3.ex).size
  repeat' (first | (refine then_normal ?_) | (refine cw_seq ?_) | (refine rr_nil ?_))
  refine cw_draw (late := [13]) (plan := [(0, none), (1, none), (2, none), (3, none), (4, none), (5, none), (6, none), (8, none), (9, none), (7, some true), (10, some true), (11, some true), (12, some true), (13, some false)]) (fun w' => Blk w' g2 24 (intL n1 a1 l1.length c1) ∧ Blk w' g3 24 (intL n2 a2 l2.length c2)) mixed (by kernel_rfl) ⟨hb2.drew, hb3.drew⟩ ?_
  repeat' (first | (refine k_loadC rfl (fun _ h => h.1) rfl ?_) | (refine k_loadC rfl (fun _ h => h.2) rfl ?_) | (refine k_fieldAddr rfl ?_) | (refine k_neqB rfl rfl ?_))
  refine k_call ((hL1.ext hE.drew).trim_eq hc1) rfl ?_
  rintro v w5 ⟨rfl, hE5⟩
  refine ⟨fun _ h => ⟨h.1.ext hE5, h.2.ext hE5⟩, ?_⟩
  refine k_call ((hL2.ext (hE.drew.trans hE5)).trim_eq hc2) rfl ?_
  rintro v w6 ⟨rfl, hE6⟩
  refine ⟨fun _ h => ⟨h.1.ext hE6, h.2.ext hE6⟩, ?_⟩
  have hE6' := (hE.drew.trans hE5).trans hE6
  have hk1 := canon_len hc1 hx
  have hk2 := canon_len hc2 hy
  refine k_call (mulNat_spec (hL1.ext hE6') (hL2.ext hE6') (by omega)) rfl ?_
  rintro v w7 ⟨l7, hn7, hcn7, hln7, a7, c7, rfl, hL7, hf7, hE7⟩
  refine ⟨fun _ h => ⟨h.1.ext hE7, h.2.ext hE7⟩, ?_⟩
  refine k_call (build_spec hL7 hcn7 hf7 _) rfl ?_
  rintro v w8 ⟨hI, hE8⟩
  refine ⟨fun _ h => ⟨h.1.ext hE8, h.2.ext hE8⟩, ?_⟩
  obtain ⟨neg, a', c', ls, rfl, hI'⟩ := id hI
  refine k_storeV (n := 2) rfl rfl rfl rfl ((((hb4.drew.ext hE5).ext hE6).ext hE7).ext hE8) rfl (fun w9 hc9 hb9 => ⟨fun h => absurd h (by decide), ?_⟩)
  repeat' (first | (refine then_normal ?_) | (refine rr_nil ?_) | (refine cw_ret ?_))
  have s5 := (hE5.trans hE6).size
  have s4 : w4.drew.heap.size = w4.heap.size := rfl
  refine ret1 rfl (rc rfl rfl hb9) ⟨?_, ((hE6'.trans hE7).trans hE8).chg hc9 (by omega)⟩
  have hr := (hI.chg hc9 (by omega)).mono (lo' := w.heap.size) (by have := hE6'.size; omega)
  rw [hn7] at hr
  have e : sgn (!(n1 == n2)) (natOf l1 * natOf l2) = sgn n1 (natOf l1) * sgn n2 (natOf l2) := by
    unfold sgn; cases n1 <;> cases n2 <;> simp [Int.neg_mul, Int.mul_neg]
  rwa [e] at hr

end Go.Proofs.Ythhfjagnmhhapaa

namespace Go.Proofs.Ythhfjagnmhhapaa
open Go.W Go.PM

/-- what a callback keeps in its block -/
abbrev Keeps (J : List (Int × Nat × Int) → List Value → Prop) (cb Tc : Nat) (es : List (Int × Nat × Int)) (w : World) : Prop := ∃ cs, Blk w cb Tc cs ∧ J es cs

theorem search_spec {n x : Nat} {gens : List (List Int)} {ga : Option Addr} {sds : List SD} {w0 w : World} {fcb cb Tc : Nat} {cap : Array Value} {J : List (Int × Nat × Int) → List Value → Prop} [Fun Try.prog fcb]
    (hg : Lists w0 .i64 ga sds gens) (hG : Gens n gens) (hgl : gens.length ≤ 64) (hn : n ≤ 512) (hx : x < n) (hE0 : Ex w0 w) (hcb : w0.heap.size ≤ cb) (hcb2 : cb < w.heap.size) (hJ : Keeps J cb Tc [] w)
    (hcall : ∀ es (y : Int) (j : Nat) z w1, w.grownBy w1 (some cb) → Keeps J cb Tc es w1 → 0 ≤ y → y < n → CallsR Try.prog fcb (#[Value.int .i64 y, .int .i64 (j : Int), .int .i64 z] ++ cap) w1 fun _ w' => Keeps J cb Tc (es ++ [(y, j, z)]) w' ∧ w1.grownBy w' (some cb)) (gc : Nat) :
    CallsR Try.prog 100 #[.slice ga gens.length gc, .int .i64 (x : Int), .func (.func fcb) #[] cap] w fun v w' =>
      ∃ b c, v = .slice b (bfs gens n x).1.length c ∧ Own w' w.heap.size 3 1 b (bfs gens n x).1.length c (intsL (bfs gens n x).1) ∧ Keeps J cb Tc (bfs gens n x).2 w' ∧ w.grownBy w' (some cb) ∧ Ex w0 w' := by
  refine callsR_of (args := [_, _, _]) Try.func100 rfl rfl ?_
  repeat' (first | (refine k_litI1 rfl (fun gp w1 hn1 => ⟨fun _ _ => trivial, ?_⟩)) | (refine k_build0 (cs := wordsL [0, 0, 0, 0, 0, 0, 0, 0]) ?_) | (refine k_pure rfl ?_) | (refine then_normal ?_) | (refine cw_seq ?_) | (refine cw_region rfl ?_) | (refine rr_nil ?_))
  refine k_call (with_spec setOf_nil _ (by omega) (by omega) _) rfl ?_
  rintro v w2 ⟨ws0, rfl, hS0, hE2⟩
  refine ⟨fun _ _ => trivial, ?_⟩
  refine k_alloc (fun g8 w3 hn3 => ⟨fun _ _ => trivial, ?_⟩)
  have hb8 : Blk w3 g8 119 (wordsL [0, 0, 0, 0, 0, 0, 0, 0]) := hn3.blk
  refine k_storeV (n := 8) rfl rfl (by simp [hS0.len]) (all_one (fun _ => rfl) _) hb8 rfl (fun w4 hc4 hb4 => ⟨fun _ _ => trivial, ?_⟩)
  repeat' (first | (refine k_pure rfl ?_) | (refine then_normal ?_) | (refine cw_seq ?_) | (refine cw_region rfl ?_) | (refine rr_nil ?_) | (refine cw_block ?_))
  have s1 := hn1.ex.size
  have s2 := hE2.size
  have s3 := hn3.lo
  have hgp := hn1.lo
  have hgp2 := hn1.hi
  have hg8 : w.heap.size ≤ g8 := by omega
  have hgb3 : w.grownBy w3 (some cb) := gb_trans (gb_trans (gb_trans ⟨rfl, rfl, rfl, Nat.le_refl _, fun _ _ _ => rfl⟩ (gbE hn1.ex) (by simp)) (gbE hE2) (by simp)) (gbE hn3.ex) (by simp)
  have hgb4 : w.grownBy w4 (some cb) := gb_trans hgb3 (gbC hc4) (by simp; omega)
  have hE4 : Ex w0 w4 := (((hE0.trans hn1.ex).trans hE2).trans hn3.ex).chg hc4 (by have := hE0.size; omega)
  have hO4 : Own w4 w.heap.size 3 1 (some ⟨gp, 0, none⟩) 1 1 (intsL [(x : Int)]) := (((hn1.blk.ext hE2).ext hn3.ex).chg hc4 (by omega)).own rfl (by decide) hgp
  have hJ4 : Keeps J cb Tc [] w4 := by
    obtain ⟨cs, hcs, hj⟩ := hJ
    exact ⟨cs, (((hcs.ext hn1.ex).ext hE2).ext hn3.ex).chg hc4 (by omega), hj⟩
  refine cw_loop (ι := Nat × Fnd × Option Addr × Nat × List Nat) [7, 9, 10, 11, 12, 13, 19, 20, 21, 22, 23, 24, 25, 26, 27, 28, 29, 30, 31, 32, 33, 34, 35, 36, 37, 38, 39, 40, 41, 42, 43, 44, 45, 46, 47, 48, 49, 50, 51, 52, 53, 54, 55, 56] (fun s => [(9, .int .i64 (s.1 : Int)), (7, .slice s.2.2.1 s.2.1.1.length s.2.2.2.1)])
    (fun s w' => s.1 ≤ s.2.1.1.length ∧ Ex w0 w' ∧ w.grownBy w' (some cb) ∧ Own w' w.heap.size 3 1 s.2.2.1 s.2.1.1.length s.2.2.2.1 (intsL s.2.1.1) ∧ (∀ ad, s.2.2.1 = some ad → ad.block ≠ g8) ∧
      Blk w' g8 119 (wordsL s.2.2.2.2) ∧ SetOf s.2.2.2.2 s.2.1.1 ∧ Dist n s.2.1.1 ∧ Keeps J cb Tc s.2.1.2 w' ∧ bfsGo gens (n - s.1) s.1 s.2.1 = bfs gens n x) (fun s => n - s.1)
    (0, ([(x : Int)], []), some ⟨gp, 0, none⟩, 1, ws0) ⟨rfl, rfl, trivial⟩
    ⟨by simp, hE4, hgb4, hO4, by intro ad e; cases e; simp only; omega, hb4, hS0, dist_one (by omega) (by omega), hJ4, rfl⟩ ?_
  rintro ⟨i, st, b, c, ws⟩ ξ w5 ⟨hi, hE, hgb, hO, hbn, hb8, hS, hD, hK, hbfs⟩
  simp only at hi hO hbn hb8 hS hD hK hbfs
  have hlen := hD.length_le
  have hsz := hgb.size
  show CW _ _ _ _ (over [(9, .int .i64 (i : Int)), (7, .slice b st.1.length c)] _) w5
  repeat' (first | (refine k_indexN rfl rfl (hO.sl.plain (by simp; omega)) (by omega) ?_) | (refine k_loadI rfl hO.sl (by omega) ?_) | (refine k_pure rfl ?_) | (refine then_normal ?_) | (refine cw_seq ?_) | (refine cw_region rfl ?_) | (refine rr_nil ?_) | (refine k_len rfl ?_) | (refine cw_cond_dec rfl (fun hc => ?_) (fun hc => ?_)) | (refine cw_block ?_) | (refine cw_exit ?_) | (refine then_exit ?_) | (refine in_exit ?_) | (refine cw_ret ?_) | (refine cw_skip ?_))
  · have hfrom := dist_iff.1 hD |>.1 i (by omega)
    rename_i hilt
    have hgl' := hg.len
    refine cw_loop (ι := Nat × Fnd × Option Addr × Nat × List Nat) [7, 11, 12, 13, 31, 32, 33, 34, 35, 36, 37, 38, 39, 40, 41, 42, 43, 44, 45, 46, 47, 48, 49, 50, 51, 52, 53, 54, 55, 56] (fun s => [(31, .int .i64 (s.1 : Int)), (7, .slice s.2.2.1 s.2.1.1.length s.2.2.2.1)])
      (fun s w' => s.1 ≤ gens.length ∧ Ex w0 w' ∧ w.grownBy w' (some cb) ∧ Own w' w.heap.size 3 1 s.2.2.1 s.2.1.1.length s.2.2.2.1 (intsL s.2.1.1) ∧ (∀ ad, s.2.2.1 = some ad → ad.block ≠ g8) ∧
        Blk w' g8 119 (wordsL s.2.2.2.2) ∧ SetOf s.2.2.2.2 s.2.1.1 ∧ Dist n s.2.1.1 ∧ Keeps J cb Tc s.2.1.2 w' ∧ st.1.length ≤ s.2.1.1.length ∧ scanL (gens.drop s.1) s.1 (st.1.getD i 0) s.2.1 = scanL gens 0 (st.1.getD i 0) st) (fun s => gens.length - s.1)
      (0, st, b, c, ws) ⟨rfl, rfl, trivial⟩ ⟨by simp, hE, hgb, hO, hbn, hb8, hS, hD, hK, by simp, by simp⟩ ?_
    rintro ⟨j, st', b', c', ws'⟩ ξ' w6 ⟨hj, hE6, hgb6, hO6, hbn6, hb86, hS6, hD6, hK6, hle6, hsc⟩
    simp only at hj hO6 hbn6 hb86 hS6 hD6 hK6 hle6 hsc
    have hlen6 := hD6.length_le
    have hsz6 := hgb6.size
    show CW _ _ _ _ (over [(31, .int .i64 (j : Int)), (7, .slice b' st'.1.length c')] _) w6
    repeat' (first | (refine k_indexN rfl rfl (hg.sl.plain (by simp; omega)) (by omega) ?_) | (refine k_loadS rfl (hg.sl.ext hE6) (by omega) ?_) | (refine k_pure rfl ?_) | (refine then_normal ?_) | (refine cw_seq ?_) | (refine cw_region rfl ?_) | (refine rr_nil ?_) | (refine k_addI rfl rfl (by omega) (by omega) ?_) | (refine cw_cond_dec rfl (fun hc => ?_) (fun hc => ?_)) | (refine cw_block ?_) | (refine cw_exit ?_) | (refine then_exit ?_) | (refine in_exit ?_) | (refine in_normal ?_) | (refine cw_skip ?_))
    · obtain ⟨hpe, hpl⟩ := hg.each j (by omega)
      obtain ⟨hp1, hp2⟩ := hG.getD (j := j) (by omega)
      have hlt := hp2.lt (k := (st.1.getD i 0).toNat) (by omega)
      have hvis : scanL (gens.drop (j + 1)) (j + 1) (st.1.getD i 0) (visit (gens.getD j []) j (st.1.getD i 0) st') = scanL gens 0 (st.1.getD i 0) st := by
        rw [← hsc, drop_getD (d := []) (l := gens) (j := j) (by omega)]; rfl
      rw [hpl]
      generalize hp : gens.getD j [] = p at *
      repeat' (first | (refine k_index1 rfl rfl (hpe.plain (by simp; omega)) (by omega) (by omega) ?_) | (refine k_loadI rfl (hpe.ext hE6) (by omega) ?_) | (refine k_loadCA rfl hb86 (by simp [hS6.len]) ?_) | (refine k_pure rfl ?_) | (refine then_normal ?_) | (refine cw_seq ?_) | (refine cw_region rfl ?_) | (refine rr_nil ?_))
      refine k_call (has_spec hS6 _ (by omega) (by omega) _) rfl ?_
      rintro v w7 ⟨rfl, hE7⟩
      refine ⟨fun _ _ => trivial, ?_⟩
      have hb87 := hb86.ext hE7
      repeat' (first | (refine k_loadCA rfl hb87 (by simp [hS6.len]) ?_) | (refine k_pure rfl ?_) | (refine then_normal ?_) | (refine cw_seq ?_) | (refine cw_region rfl ?_) | (refine rr_nil ?_) | (refine k_addI rfl rfl (by omega) (by omega) ?_) | (refine cw_cond_ndec rfl (fun hc => ?_) (fun hc => ?_)) | (refine in_normal ?_) | (refine cw_skip ?_))
      · have hvis' : visit p j (st.1.getD i 0) st' = (st'.1 ++ [p.getD (st.1.getD i 0).toNat 0], st'.2 ++ [(p.getD (st.1.getD i 0).toNat 0, j, st.1.getD i 0)]) := by rw [visit, if_neg hc]
        rw [hvis'] at hvis
        generalize hy : p.getD (st.1.getD i 0).toNat 0 = y at *
        generalize hz : st.1.getD i 0 = z at *
        refine k_call (with_spec hS6 _ (by omega) (by omega) _) rfl ?_
        rintro v w8 ⟨ws2, rfl, hS8, hE8⟩
        refine ⟨fun _ _ => trivial, ?_⟩
        refine k_storeV (n := 8) rfl rfl (by simp [hS8.len]) (all_one (fun _ => rfl) _) (hb87.ext hE8) (by simp [hS6.len]) (fun w9 hc9 hb9 => ⟨fun _ _ => trivial, ?_⟩)
        have s7 := hE7.size
        have s8 := hE8.size
        have s9 := hc9.size
        have hgb9 : w.grownBy w9 (some cb) := gb_trans (gb_trans (gb_trans hgb6 (gbE hE7) (by simp)) (gbE hE8) (by simp)) (gbC hc9) (by simp; omega)
        have hE9 : Ex w0 w9 := ((hE6.trans hE7).trans hE8).chg hc9 (by have := hE0.size; omega)
        have hO9 := ((hO6.ext hE7).ext hE8).chg hc9 hbn6
        repeat' (first | (refine k_pure rfl ?_) | (refine then_normal ?_) | (refine cw_seq ?_) | (refine cw_region rfl ?_) | (refine rr_nil ?_))
        refine k_app1I rfl rfl rfl rfl hO9 (by omega) (by omega) (by omega) (fun gl b2 c2 w10 hO10 hg10 hA => ?_)
        have hr10 : ∀ k, (Value.slice b' st'.1.length c').ownBlock = some k → w.heap.size ≤ k ∧ k ≠ g8 := fun k hk => by
          cases b' with
          | none => simp [Value.ownBlock] at hk
          | some ad => simp only [Value.ownBlock, Option.some.injEq] at hk; have h1 := (hO9.lo ad rfl).1; have h2 := hbn6 ad rfl; omega
        have s10 := hg10.size
        have hgb10 : w.grownBy w10 (some cb) := gb_trans hgb9 hg10 (fun k hk => .inr (hr10 k hk).1)
        have hE10 : Ex w0 w10 := hE9.gb hg10 (fun k hk => by have := (hr10 k hk).1; have := hE0.size; omega)
        have hb10 := hb9.gb hg10 (fun e => (hr10 g8 e).2 rfl)
        have hbn10 : ∀ ad, b2 = some ad → ad.block ≠ g8 := fun ad e => by
          rcases hA with h | h
          · exact hbn6 ad (h ▸ e)
          · have := h ad e; have := hb9.lt; omega
        have hK10 : Keeps J cb Tc st'.2 w10 := by
          obtain ⟨cs, hcs, hj⟩ := hK6
          exact ⟨cs, (((hcs.ext hE7).ext hE8).chg hc9 (by omega)).gb hg10 (fun e => by have := (hr10 cb e).1; omega), hj⟩
        repeat' (first | (refine k_pure rfl ?_) | (refine then_normal ?_) | (refine cw_region rfl ?_) | (refine rr_nil ?_))
        refine k_callV rfl (hcall st'.2 y j z w10 hgb10 hK10 (by omega) (by omega)) rfl ?_
        rintro v w11 ⟨hK11, hg11⟩
        refine ⟨fun _ _ => trivial, ?_⟩
        have hO11 := hO10.gb hg11 (fun ad e e2 => by have := (hO10.lo ad e).1; cases e2; omega)
        have hb11 := hb10.gb hg11 (fun e => by cases e; omega)
        repeat' (first | (refine k_pure rfl ?_) | (refine then_normal ?_) | (refine cw_region rfl ?_) | (refine rr_nil ?_) | (refine k_addI rfl rfl (by omega) (by omega) ?_) | (refine in_normal ?_))
        refine ⟨⟨(j + 1, (st'.1 ++ [y], st'.2 ++ [(y, j, z)]), b2, c2, ws2), ⟨by simp only; omega, hE10.gb hg11 (by simp; omega), gb_trans hgb10 hg11 (by simp), by simpa using hO11, hbn10, hb11, hS8, good_snoc.2 ⟨hD6, by omega, by omega, hc⟩, hK11, by simp; omega, hvis⟩, by simp only; omega, rfl, ?_, trivial⟩, (by (repeat (first | exact agree_mask _ _ _ | refine agree_upd rfl ?_ | refine agree_updO rfl ?_ | refine agree_overIn rfl ?_ | refine agree_maskIn rfl ?_)))⟩
        simp only [List.length_append, List.length_singleton]
        rfl
      · have hvis' : visit p j (st.1.getD i 0) st' = st' := by rw [visit, if_pos hc]
        rw [hvis'] at hvis
        have s7 := hE7.size
        refine ⟨⟨(j + 1, st', b', c', ws'), ⟨by simp only; omega, hE6.trans hE7, gb_trans hgb6 (gbE hE7) (by simp), hO6.ext hE7, hbn6, hb87, hS6, hD6, ?_, hle6, hvis⟩, by simp only; omega, rfl, rfl, trivial⟩, (by (repeat (first | exact agree_mask _ _ _ | refine agree_upd rfl ?_ | refine agree_updO rfl ?_ | refine agree_overIn rfl ?_ | refine agree_maskIn rfl ?_)))⟩
        obtain ⟨cs, hcs, hj⟩ := hK6
        exact ⟨cs, hcs.ext hE7, hj⟩
    · obtain rfl : j = gens.length := by omega
      have hsc' : scanL gens 0 (st.1.getD i 0) st = st' := by rw [← hsc, List.drop_length]; rfl
      refine ⟨⟨(i + 1, st', b', c', ws'), ⟨by simp only; omega, hE6, hgb6, hO6, hbn6, hb86, hS6, hD6, hK6, ?_⟩, by simp only; omega, rfl, rfl, trivial⟩, (by (repeat (first | exact agree_mask _ _ _ | refine agree_upd rfl ?_ | refine agree_updO rfl ?_ | refine agree_overIn rfl ?_ | refine agree_maskIn rfl ?_)))⟩
      simp only
      rw [← hbfs, show n - i = (n - (i + 1)) + 1 by omega, bfsGo, if_pos (by omega), hsc']
  · have hst : bfs gens n x = st := by rw [← hbfs, bfsGo_end (by omega)]
    rw [hst]
    exact ret1 rfl (rt rfl) ⟨b, c, rfl, hO, hK, hgb, hE⟩
end Go.Proofs.Ythhfjagnmhhapaa

namespace Go.Proofs.Ythhfjagnmhhapaa
open Go.W Go.PM

theorem check_spec {n x : Int} {gens : List (List Int)} {ga : Option Addr} {sds : List SD} {w : World} (hg : Lists w .i64 ga sds gens) (gc : Nat) (hgl : gens.length ≤ 9223372036854775807) :
    CallsR Try.prog 71 #[.int .i64 n, .slice ga gens.length gc, .int .i64 x] w fun v w' => v = .int .i64 (errF n gens x) ∧ Ex w w' := by
  refine callsR_of (args := [_, _, _]) Try.func71 rfl rfl ?_
  have hl := hg.len
  repeat' (first | (refine k_pure rfl ?_) | (refine then_normal ?_) | (refine cw_seq ?_) | (refine cw_region rfl ?_) | (refine rr_nil ?_) | (refine k_len rfl ?_) | (refine g_run rfl rfl ?_) | (refine g_skip rfl rfl ?_) | (refine g_dec_f rfl rfl (fun hc => ?_) (fun hc => ?_)) | (refine cw_cond_true rfl ?_) | (refine cw_cond_dec rfl (fun hc => ?_) (fun hc => ?_)) | (refine cw_block ?_) | (refine cw_ret ?_) | (refine then_ret ?_) | (refine cw_skip ?_))
  all_goals first | (refine ret1 rfl (rt rfl) ⟨?_, Ex.refl _⟩; show Value.int .i64 1 = _; rw [errF, if_pos (by omega)]; done) | skip
  · refine ret1 rfl (rt rfl) ⟨?_, Ex.refl _⟩
    show Value.int .i64 7 = _
    rw [errF, if_neg (by omega), if_pos (by omega)]
  · have he : errF n gens x = if gensOK n gens then 0 else 3 := by rw [errF, if_neg (by omega), if_neg (by omega)]
    refine cw_loop (ι := Nat) [6, 8, 29, 30, 31, 32, 33, 34, 35, 36, 37, 38, 39, 40, 41, 42] (fun k => [(29, .int .i64 (k : Int))]) (fun k w' => k ≤ gens.length ∧ Ex w w' ∧ gensOK n (gens.take k)) (fun k => gens.length - k)
      0 ⟨rfl, trivial⟩ ⟨by simp, Ex.refl _, by simp [gensOK]⟩ ?_
    rintro k ξ w2 ⟨hk, hE, hK⟩
    repeat' (first | (refine k_indexN rfl rfl (hg.sl.plain (by simp; omega)) (by omega) ?_) | (refine k_loadS rfl (hg.sl.ext hE) (by omega) ?_) | (refine k_pure rfl ?_) | (refine then_normal ?_) | (refine cw_seq ?_) | (refine cw_region rfl ?_) | (refine rr_nil ?_) | (refine k_len rfl ?_) | (refine g_run rfl rfl ?_) | (refine g_skip rfl rfl ?_) | (refine g_dec_f rfl rfl (fun hc => ?_) (fun hc => ?_)) | (refine cw_cond_true rfl ?_) | (refine cw_cond_dec rfl (fun hc => ?_) (fun hc => ?_)) | (refine cw_block ?_) | (refine cw_exit ?_) | (refine then_exit ?_) | (refine in_exit ?_) | (refine cw_ret ?_) | (refine then_ret ?_) | (refine in_ret ?_) | (refine cw_skip ?_))
    · obtain ⟨h1, h2⟩ := hg.each k (by omega)
      rw [h2] at hc
      rw [h2]
      refine k_call (valid_spec (h1.ext hE) _) rfl ?_
      rintro v w3 ⟨rfl, hE3⟩
      refine ⟨fun _ _ => trivial, ?_⟩
      replace hE3 := hE.trans hE3
      have hcl := Decidable.not_not.1 hc
      repeat' (first | (refine k_pure rfl ?_) | (refine then_normal ?_) | (refine cw_seq ?_) | (refine cw_region rfl ?_) | (refine rr_nil ?_) | (refine g_run rfl rfl ?_) | (refine k_addI rfl rfl (by omega) (by omega) ?_) | (refine cw_cond_ndec rfl (fun hc => ?_) (fun hc => ?_)) | (refine in_normal ?_) | (refine cw_ret ?_) | (refine then_ret ?_) | (refine in_ret ?_) | (refine cw_skip ?_))
      · refine ret1 rfl (rt rfl) ⟨?_, hE3⟩
        rw [he, if_neg (not_gensOK (k := k) (by omega) (fun h => hc h.2))]; rfl
      · refine ⟨⟨k + 1, ⟨by omega, hE3, ?_⟩, by omega, rfl, trivial⟩, (by (repeat (first | exact agree_mask _ _ _ | refine agree_upd rfl ?_ | refine agree_updO rfl ?_ | refine agree_overIn rfl ?_ | refine agree_maskIn rfl ?_)))⟩
        rw [take_succ_getD gens [] (by omega), gensOK_snoc]
        exact ⟨hK, hcl, hc⟩
    · obtain ⟨h1, h2⟩ := hg.each k (by omega)
      rw [h2] at hc
      refine ret1 rfl (rt rfl) ⟨?_, hE⟩
      rw [he, if_neg (not_gensOK (k := k) (by omega) (fun h => hc h.1))]; rfl
    · refine ret1 rfl (rt rfl) ⟨?_, hE⟩
      rw [List.take_of_length_le (by omega)] at hK
      rw [he, if_pos hK]; rfl

theorem asc1_spec {x y z : Int} {es : List (Int × Nat × Int)} {j cb : Nat} {w : World} (hJ : Keeps (fun es cs => ∃ ws, cs = wordsL ws ∧ SetOf ws (x :: es.map (·.1))) cb 119 es w) (h0 : 0 ≤ y) (h1 : y < 512) :
    CallsR Try.prog 101 (#[Value.int .i64 y, .int .i64 (j : Int), .int .i64 z] ++ #[.pointer (some ⟨cb, 0, none⟩)]) w fun _ w' =>
      Keeps (fun es cs => ∃ ws, cs = wordsL ws ∧ SetOf ws (x :: es.map (·.1))) cb 119 (es ++ [(y, j, z)]) w' ∧ w.grownBy w' (some cb) := by
  obtain ⟨cs, hb, ws, rfl, hS⟩ := hJ
  show CallsR _ _ #[_, _, _, _] _ _
  refine callsR_of (args := [_, _, _, _]) Try.func101 rfl rfl ?_
  repeat' (first | (refine k_loadCA rfl hb (by simp [hS.len]) ?_) | (refine k_pure rfl ?_) | (refine cw_region rfl ?_))
  refine k_call (with_spec hS _ h0 h1 _) rfl ?_
  rintro v w1 ⟨ws', rfl, hS', hE1⟩
  refine ⟨fun _ _ => trivial, ?_⟩
  refine k_storeV (n := 8) rfl rfl (by simp [hS'.len]) (all_one (fun _ => rfl) _) (hb.ext hE1) (by simp [hS.len]) (fun w2 hc2 hb2 => ⟨fun _ _ => trivial, ?_⟩)
  repeat' (first | (refine rr_nil ?_))
  refine end0 rfl ⟨⟨_, hb2, ws', rfl, by simpa using hS'⟩, gb_trans ⟨hE1.os, hE1.tape, hE1.output, hE1.size, fun k hk _ => hE1.block k hk⟩ (gbC hc2) (by simp)⟩

theorem ascending_spec {n x : Nat} {gens : List (List Int)} {ga : Option Addr} {sds : List SD} {w : World} (hg : Lists w .i64 ga sds gens) (hG : Gens n gens) (hgl : gens.length ≤ 64) (hn : n ≤ 512) (hx : x < n) (gc : Nat) :
    CallsR Try.prog 72 #[.int .i64 (n : Int), .slice ga gens.length gc, .int .i64 (x : Int)] w fun v w' =>
      ∃ b c ws, v = .tuple #[.slice b (sortedL n (bfs gens n x).1).length c, .agg (wordsL ws).toArray] ∧ Own w' w.heap.size 3 1 b (sortedL n (bfs gens n x).1).length c (intsL (sortedL n (bfs gens n x).1)) ∧ SetOf ws (bfs gens n x).1 ∧ Ex w w' := by
  refine callsR_of (args := [_, _, _]) Try.func72 rfl rfl ?_
  repeat' (first | (refine k_alloc (fun g7 w1 hn1 => ⟨fun _ _ => trivial, ?_⟩)) | (refine k_build0 (cs := wordsL [0, 0, 0, 0, 0, 0, 0, 0]) ?_) | (refine k_pure rfl ?_) | (refine then_normal ?_) | (refine cw_seq ?_) | (refine cw_region rfl ?_) | (refine rr_nil ?_))
  refine k_call (with_spec setOf_nil _ (by omega) (by omega) _) rfl ?_
  rintro v w2 ⟨ws0, rfl, hS0, hE2⟩
  refine ⟨fun _ _ => trivial, ?_⟩
  refine k_alloc (fun g8 w3 hn3 => ⟨fun _ _ => trivial, ?_⟩)
  have hb8 : Blk w3 g8 119 (wordsL [0, 0, 0, 0, 0, 0, 0, 0]) := hn3.blk
  refine k_storeV (n := 8) rfl rfl (by simp [hS0.len]) (all_one (fun _ => rfl) _) hb8 rfl (fun w4 hc4 hb4 => ⟨fun _ _ => trivial, ?_⟩)
  repeat' (first | (refine k_mkFunc ?_) | (refine k_pure rfl ?_) | (refine then_normal ?_) | (refine cw_seq ?_) | (refine cw_region rfl ?_) | (refine rr_nil ?_))
  have s1 := hn1.lo
  have s1' := hn1.hi
  have s2 := hE2.size
  have s3 := hn3.lo
  have s4 := hc4.size
  have s5 := hn3.hi
  have hE4 : Ex w w4 := ((hn1.ex.trans hE2).trans hn3.ex).chg hc4 (by omega)
  have hb7 : Blk w4 g7 119 (wordsL [0, 0, 0, 0, 0, 0, 0, 0]) := ((Blk.ext (cs := wordsL [0, 0, 0, 0, 0, 0, 0, 0]) hn1.blk hE2).ext hn3.ex).chg hc4 (by omega)
  refine k_call (search_spec (fcb := 101) (cap := #[.pointer (some ⟨g8, 0, none⟩)]) (cb := g8) (Tc := 119) (J := fun es cs => ∃ ws, cs = wordsL ws ∧ SetOf ws ((x : Int) :: es.map (·.1)))
    hg hG hgl hn hx hE4 (by omega) (by omega) ⟨_, hb4, ws0, rfl, by simpa using hS0⟩ (fun es y j z w _ hk h0 h1 => asc1_spec hk h0 (by omega)) gc) rfl ?_
  rintro v w5 ⟨b5, c5, rfl, hO5, ⟨_, hb5, ws, rfl, hS⟩, hg5, hE5⟩
  refine ⟨fun _ _ => trivial, ?_⟩
  rw [← bfs_points] at hS
  replace hb7 := hb7.gb hg5 (by simp; omega)
  generalize horb : (bfs gens n x).1 = orb at *
  have s6 := hg5.size
  repeat' (first | (refine k_pure rfl ?_) | (refine then_normal ?_) | (refine cw_seq ?_) | (refine cw_region rfl ?_) | (refine rr_nil ?_) | (refine cw_block ?_))
  refine cw_loop (ι := Nat × Option Addr × Nat) [9, 10, 19, 20, 21, 22, 23, 24, 25, 26, 27, 28, 29] (fun s => [(19, .int .i64 (s.1 : Int)), (9, .slice s.2.1 (sortedL s.1 orb).length s.2.2)])
    (fun s w' => s.1 ≤ n ∧ Ex w w' ∧ Ex w5 w' ∧ Own w' w5.heap.size 3 1 s.2.1 (sortedL s.1 orb).length s.2.2 (intsL (sortedL s.1 orb))) (fun s => n - s.1)
    (0, none, 0) ⟨rfl, rfl, trivial⟩ ⟨by simp, hE5, Ex.refl _, Own.nil _ _ _ _⟩ ?_
  rintro ⟨k, b, c⟩ ξ w6 ⟨hk, hE6, hE56, hO6⟩
  simp only at hk hO6
  have hsl := sortedL_len k orb
  show CW _ _ _ _ (over [(19, .int .i64 (k : Int)), (9, .slice b (sortedL k orb).length c)] _) w6
  have hb56 := hb5.ext hE56
  have hb76 := hb7.ext hE56
  repeat' (first | (refine k_loadCA rfl hb56 (by simp [hS.len]) ?_) | (refine k_pure rfl ?_) | (refine then_normal ?_) | (refine cw_seq ?_) | (refine cw_region rfl ?_) | (refine rr_nil ?_) | (refine cw_cond_dec rfl (fun hc => ?_) (fun hc => ?_)) | (refine cw_block ?_) | (refine cw_exit ?_) | (refine then_exit ?_) | (refine in_exit ?_) | (refine cw_skip ?_))
  · refine k_call (has_spec hS _ (by omega) (by omega) _) rfl ?_
    rintro v w7 ⟨rfl, hE7⟩
    refine ⟨fun _ _ => trivial, ?_⟩
    have s7 := hE7.size
    have s8 := hE56.size
    repeat' (first | (refine k_pure rfl ?_) | (refine then_normal ?_) | (refine cw_region rfl ?_) | (refine rr_nil ?_) | (refine k_addI rfl rfl (by omega) (by omega) ?_) | (refine cw_cond_dec rfl (fun hc => ?_) (fun hc => ?_)) | (refine in_normal ?_) | (refine cw_skip ?_))
    · refine k_app1I rfl rfl rfl rfl (hO6.ext hE7) (by omega) (by omega) (by omega) (fun gl b' c' w8 hO8 hg8 _ => ?_)
      have hE8 := (hO6.ext hE7).grow_ex hg8 (hE6.trans hE7) (by omega)
      have hE58 := (hO6.ext hE7).grow_ex hg8 (hE56.trans hE7) (Nat.le_refl _)
      repeat' (first | (refine k_pure rfl ?_) | (refine then_normal ?_) | (refine cw_region rfl ?_) | (refine rr_nil ?_) | (refine k_addI rfl rfl (by omega) (by omega) ?_) | (refine in_normal ?_))
      have e : sortedL (k + 1) orb = sortedL k orb ++ [(k : Int)] := by rw [sortedL_succ, if_pos hc]
      refine ⟨⟨(k + 1, b', c'), ⟨by simp only; omega, hE8, hE58, by simp only [e, List.length_append, List.length_singleton]; exact hO8⟩, by simp only; omega, rfl, ?_, trivial⟩, (by (repeat (first | exact agree_mask _ _ _ | refine agree_upd rfl ?_ | refine agree_updO rfl ?_ | refine agree_overIn rfl ?_ | refine agree_maskIn rfl ?_)))⟩
      simp only [e, List.length_append, List.length_singleton]; rfl
    · have e : sortedL (k + 1) orb = sortedL k orb := by rw [sortedL_succ, if_neg hc, List.append_nil]
      refine ⟨⟨(k + 1, b, c), ⟨by simp only; omega, hE6.trans hE7, hE56.trans hE7, by simp only [e]; exact hO6.ext hE7⟩, by simp only; omega, rfl, ?_, trivial⟩, (by (repeat (first | exact agree_mask _ _ _ | refine agree_upd rfl ?_ | refine agree_updO rfl ?_ | refine agree_overIn rfl ?_ | refine agree_maskIn rfl ?_)))⟩
      simp only [e]; rfl
  · obtain rfl : k = n := by omega
    refine cw_draw (late := [3]) (plan := [(0, none), (1, none), (2, none), (3, some false)]) (fun w' => Blk w' g8 119 (wordsL ws)) mixed (by kernel_rfl) hb56.drew ?_
    repeat' (first | (refine k_loadCA rfl (fun _ h => h) (by simp [hS.len]) ?_) | (refine k_pure rfl ?_))
    refine k_storeV (n := 8) rfl rfl (by simp [hS.len]) (all_one (fun _ => rfl) _) hb76.drew rfl (fun w9 hc9 hb9 => ⟨fun h => absurd h (by decide), ?_⟩)
    repeat' (first | (refine then_normal ?_) | (refine rr_nil ?_) | (refine cw_ret ?_))
    refine ret2 rfl (rt rfl) (rc rfl (by simp [hS.len]) hb9) ⟨b, c, ws, rfl, ?_, hS, hE6.drew.chg hc9 hn1.lo⟩
    exact (hO6.drew.chg hc9 (fun ad e => by have := (hO6.lo ad e).1; omega)).mono (by omega)
end Go.Proofs.Ythhfjagnmhhapaa

namespace Go.Proofs.Ythhfjagnmhhapaa
open Go.W Go.PM Go.LM

/-- the block of a number's limbs -/
def blkS (v : Value) : Option Nat := match v with
  | .slice (some ad) (_ + 1) _ => some ad.block
  | _ => none
def blkOf (v : Value) : Option Nat := match v with
  | .agg cs => (cs[1]?).bind blkS
  | _ => none
def Off (g : Nat) (v : Value) : Prop := blkOf v ≠ some g
theorem IntC.out {lo : Nat} {w : World} {v : Value} {z : Int} (h : IntC lo w v z) : ∃ cs : List Value, v = .agg cs.toArray ∧ cs.length = 2 ∧ cs.all Value.oneCell' = true := by
  obtain ⟨neg, a, c, ls, rfl, _⟩ := h
  exact ⟨_, rfl, rfl, rfl⟩
theorem IntC.lo {lo : Nat} {w : World} {v : Value} {z : Int} (h : IntC lo w v z) {g : Nat} (hg : blkOf v = some g) : lo ≤ g ∧ g < w.heap.size := by
  obtain ⟨neg, a, c, ls, rfl, hl, _, _, _, h6⟩ := h
  cases a with
  | none => simp [blkOf, blkS] at hg
  | some ad => cases ls with
    | nil => simp [blkOf, blkS] at hg
    | cons x t =>
      simp [blkOf, blkS] at hg
      subst hg
      refine ⟨h6 ad rfl, ?_⟩
      have := World.block_lt_of_cell? w _ (hl.sl.get 0 (by simp))
      exact this
theorem IntC.off_lo {lo g : Nat} {w : World} {v : Value} {z : Int} (h : IntC lo w v z) (hg : g < lo) : Off g v := fun e => by have := (h.lo e).1; omega
theorem IntC.off_hi {lo g : Nat} {w : World} {v : Value} {z : Int} (h : IntC lo w v z) (hg : w.heap.size ≤ g) : Off g v := fun e => by have := (h.lo e).2; omega
theorem IntC.chgO {lo g : Nat} {w w' : World} {v : Value} {z : Int} (h : IntC lo w v z) (e : Chg g w w') (hg : Off g v) : IntC lo w' v z := by
  obtain ⟨neg, a, c, ls, rfl, h2, h3, h4, h5, h6⟩ := h
  cases ls with
  | nil => exact ⟨neg, a, c, [], rfl, Limbs.nil _ _ _, h3, h4, h5, h6⟩
  | cons x t => exact ⟨neg, a, c, x :: t, rfl, h2.chg e (fun ad ea => by subst ea; intro e2; exact hg (by simp [blkOf, blkS, e2])), h3, h4, h5, h6⟩
theorem IntC.zero (lo : Nat) (w : World) : IntC lo w (.agg (intL false none 0 0).toArray) 0 := ⟨false, none, 0, [], rfl, Limbs.nil _ _ _, rfl, rfl, by simp, by simp⟩

end Go.Proofs.Ythhfjagnmhhapaa

namespace Go.Proofs.Ythhfjagnmhhapaa
open Go.W Go.PM
theorem chOrder_spec {w : World} {n N0 first : Nat} {G : List Int → Prop} {base : List Int} {c : CH} {ls : List Lv} (hn11 : n ≤ 11) (hC : ChAt w n c ls) (hG : Gd n G base N0 ls) (hN : N0 ≤ 1000000) (hf : first ≤ ls.length) :
    CallsR Try.prog 47 #[.pointer (some ⟨c.cb, 0, none⟩), .int .i64 (first : Int)] w (RetZ w ((prodL (ls.drop first) : Nat) : Int)) := by
  refine callsR_of (args := [_, _]) Try.func47 rfl rfl ?_
  have hstr := hC.str
  unfold chL at hstr
  have hml := hC.mok.1
  have hpl := prod_le hG.links hn11
  have hll := hG.ll
  have hpd : ∀ i, prodL (ls.drop i) ≤ 39916800 ∧ 1 ≤ prodL (ls.drop i) := fun i => ⟨prod_le (hG.links.drop i) hn11, prodL_pos (hG.links.drop i)⟩
  repeat' (first | (refine k_allocA (vs := intL false none 0 0) (fun g4 w1 hn1 => ⟨fun _ _ => trivial, ?_⟩)) | (refine then_normal ?_) | (refine cw_seq ?_) | (refine cw_region rfl ?_) | (refine rr_nil ?_))
  refine k_call (small_spec (z := 1) (by omega) (by omega) _) rfl ?_
  rintro v w2 ⟨hz2, hE2⟩
  refine ⟨fun _ _ => trivial, ?_⟩
  obtain ⟨cs0, rfl, hl0, ho0⟩ := hz2.out
  refine k_allocA (vs := intL false none 0 0) (fun g5 w3 hn3 => ⟨fun _ _ => trivial, ?_⟩)
  refine k_storeV (n := 2) rfl rfl hl0 ho0 hn3.blk rfl (fun w4 hc4 hb4 => ⟨fun _ _ => trivial, ?_⟩)
  have z1 := hn1.lo; have z1' := hn1.hi; have y1 := hn1.ex.size; have y2 := hE2.size; have z3 := hn3.lo; have z3' := hn3.hi; have y3 := hn3.ex.size
  have y4 : w3.heap.size = w4.heap.size := hc4.size.symm
  have hEw4 : Ex w w4 := ((hn1.ex.trans hE2).trans hn3.ex).chg hc4 (by omega)
  have hoff4 : Off g5 (.agg cs0.toArray) := hz2.off_hi hn3.lo
  have hz4 : IntC w1.heap.size w4 (.agg cs0.toArray) 1 := ((hz2.ext hn3.ex).chgO hc4 hoff4).mono (by omega)
  have hb44 := ((hn1.blk.ext hE2).ext hn3.ex).chg hc4 (by omega)
  repeat' (first | (refine k_pure rfl ?_) | (refine then_normal ?_) | (refine cw_seq ?_) | (refine cw_region rfl ?_) | (refine rr_nil ?_) | (refine cw_block ?_))
  refine cw_loop (ι := Nat × List Value × Nat) [6, 9, 10, 11, 12, 13, 14, 15, 16, 17, 18, 19, 20, 21, 22, 23, 24, 25, 26, 27, 28, 29, 30] (fun s => [(6, .int .i64 (s.1 : Int))]) (fun s w' => first ≤ s.1 ∧ s.1 ≤ ls.length ∧ Ex w w' ∧ Blk w' g4 24 (intL false none 0 0) ∧ Blk w' g5 24 s.2.1 ∧ s.2.1.length = 2 ∧ s.2.1.all Value.oneCell' = true ∧ IntC w1.heap.size w' (.agg s.2.1.toArray) (s.2.2 : Int) ∧ Off g5 (.agg s.2.1.toArray) ∧ s.2.2 * prodL (ls.drop s.1) = prodL (ls.drop first)) (fun s => ls.length - s.1)
    (first, cs0, 1) ⟨rfl, trivial⟩ ⟨Nat.le_refl _, hf, hEw4, hb44, hb4, hl0, ho0, hz4, hoff4, by simp⟩ ?_
  rintro ⟨i, cs, P⟩ ξ w5 ⟨hi1, hi2, hE5, hb45, hb5, hcl, hco, hz5, hoff5, hP⟩
  simp only at hi1 hi2 hb5 hcl hco hz5 hoff5 hP
  show CW _ _ _ _ (over [(6, .int .i64 (i : Int))] _) w5
  have hC5 := hC.ext hE5
  have hstr5 := hstr.ext hE5
  have hPb : P ≤ 39916800 := Nat.le_trans (Nat.le_mul_of_pos_right _ (hpd i).2) (by rw [hP]; exact (hpd first).1)
  repeat' (first | (refine k_loadC rfl hstr5 rfl ?_) | (refine k_lenMap mapT rfl hC5.map ?_) | (refine k_pure rfl ?_) | (refine then_normal ?_) | (refine cw_seq ?_) | (refine cw_region rfl ?_) | (refine rr_nil ?_) | (refine k_fieldAddr rfl ?_) | (refine cw_cond_dec rfl (fun hc => ?_) (fun hc => ?_)) | (refine cw_block ?_) | (refine cw_exit ?_) | (refine then_exit ?_) | (refine in_exit ?_) | (refine cw_skip ?_))
  · have hil : i < ls.length := by omega
    obtain ⟨j, hj, hfd, hjm⟩ := hC.mok.find hil
    have hLs := (hC5.lv i hil).str
    have ok := hG.ok hil
    have hol := ok.orb_le
    refine cw_draw (late := [13]) (plan := [(0, none), (1, none), (2, none), (3, none), (4, none), (5, none), (6, none), (7, none), (8, none), (9, none), (10, none), (11, some true), (12, some true), (13, some false)]) (fun w' => Blk w' g5 24 cs ∧ Blk w' c.cb 100 [.int .i64 (n : Int), .map (some c.mb), .slice c.va ls.length c.vc, .int .u64 (c.st : Int)] ∧ MapAt w' c.mb c.m ∧ Blk w' (c.hs i).blk 95 (lvL n (c.hs i) (ls.getD i lv0))) mixed (by kernel_rfl) ⟨hb5.drew, hstr5.drew, hC5.drew.map, hLs.drew⟩ ?_
    repeat' (first | (refine k_loadCA (Tb := 24) rfl (fun _ h => h.1) hcl ?_) | (refine k_loadC (Tb := 100) rfl (fun _ h => h.2.1) rfl ?_) | (refine k_lookup mapT intT rfl rfl (fun _ h => h.2.2.1) hfd ?_) | (refine k_loadC (Tb := 95) rfl (fun _ h => h.2.2.2) rfl ?_) | (refine k_pure rfl ?_) | (refine k_len rfl ?_) | (refine k_fieldAddr rfl ?_))
    refine k_call (small_spec (z := ((ls.getD i lv0).orb.length : Int)) (by omega) (by omega) _) rfl ?_
    rintro v w6 ⟨hz6, hE6⟩
    refine ⟨fun _ h => ⟨h.1.ext hE6, h.2.1.ext hE6, h.2.2.1.ext hE6, h.2.2.2.ext hE6⟩, ?_⟩
    replace hE6 : Ex w5 w6 := (Ex.refl w5).drew.trans hE6
    skip
    refine k_call (mul_spec (k := 1) (l := 1) (hz5.ext hE6) hz6 (by simp only [Int.natAbs_natCast]; omega) (by simp only [Int.natAbs_natCast]; omega) (by omega)) rfl ?_
    rintro v w7 ⟨hz7, hE7⟩
    refine ⟨fun _ h => ⟨h.1.ext hE7, h.2.1.ext hE7, h.2.2.1.ext hE7, h.2.2.2.ext hE7⟩, ?_⟩
    obtain ⟨ps, rfl, hpl7, hpo7⟩ := hz7.out
    have y6 := hE6.size
    have g5l := hb5.lt
    have y5 := hE5.size
    have hoff7 : Off g5 (.agg ps.toArray) := hz7.off_lo (by omega)
    repeat' (first | (refine k_storeV (n := 2) rfl rfl hpl7 hpo7 ((hb5.ext hE6).ext hE7) hcl (fun w8 hc8 hb8 => ⟨fun h => (nomatch h), ?_⟩)) | (refine k_pure rfl ?_) | (refine then_normal ?_) | (refine cw_region rfl ?_) | (refine rr_nil ?_) | (refine k_addI rfl rfl (by omega) (by omega) ?_) | (refine in_normal ?_))
    refine ⟨⟨(i + 1, ps, P * (ls.getD i lv0).orb.length), ⟨by simp only; omega, by simp only; omega, ((hE5.trans hE6).trans hE7).chg hc8 (by omega), ((hb45.ext hE6).ext hE7).chg hc8 (by omega), hb8, hpl7, hpo7, ?_, hoff7, ?_⟩, by simp only; omega, rfl, trivial⟩, (by (repeat (first | exact agree_mask _ _ _ | refine agree_upd rfl ?_ | refine agree_updO rfl ?_ | refine agree_overIn rfl ?_ | refine agree_maskIn rfl ?_)))⟩
    · simp only
      rw [Int.natCast_mul]
      exact (hz7.chgO hc8 hoff7).mono (by omega)
    · simp only
      rw [← hP, drop_cons hil, prodL, Nat.mul_assoc]
  · obtain rfl : i = ls.length := by omega
    have hPe : P = prodL (ls.drop first) := by rw [← hP]; simp [prodL]
    repeat' (first | (refine k_loadCA rfl hb5 hcl ?_))
    refine k_storeV (n := 2) rfl rfl hcl hco hb45 rfl (fun w6 hc6 hb6 => ⟨fun _ _ => trivial, ?_⟩)
    repeat' (first | (refine then_normal ?_) | (refine rr_nil ?_) | (refine cw_ret ?_))
    refine ret1 rfl (rc rfl hcl hb6) ⟨?_, hE5.chg hc6 (by omega)⟩
    rw [← hPe]
    exact (hz5.chgO hc6 (fun e => by have := (hz5.lo e).1; omega)).mono y1
end Go.Proofs.Ythhfjagnmhhapaa

namespace Go.Proofs.Ythhfjagnmhhapaa
open Go.W Go.PM
def permsB (n : Int) (l : List (List Int)) : Bool := l.all fun p => decide ((p.length : Int) = n) && decide (IsPerm p)
theorem permsB_iff {n : Nat} {l : List (List Int)} : permsB n l = true ↔ GensN n l := by
  unfold permsB GensN PermN
  rw [List.all_eq_true]
  constructor
  · intro h g hg
    have := h g hg
    simp only [Bool.and_eq_true, decide_eq_true_eq] at this
    exact ⟨this.2, by omega⟩
  · intro h g hg
    have := h g hg
    simp only [Bool.and_eq_true, decide_eq_true_eq]
    exact ⟨by omega, this.1⟩
def errS (n : Int) (gens : List (List Int)) : Int := if n < 1 ∨ 512 < n then 1 else if 64 < gens.length then 7 else if permsB n gens then 0 else 3
theorem take_all {l : List (List Int)} {f : List Int → Bool} {i : Nat} (hi : i < l.length) (h : (l.take i).all f = true) : (l.take (i + 1)).all f = f (l.getD i []) := by
  rw [take_succ_getD l [] hi, List.all_append, h]; simp
theorem perms_spec {n : Int} {l : List (List Int)} {a : Option Addr} {sds : List SD} {cap : Nat} {w : World} (hL : Lists w .i64 a sds l) (hl : l.length ≤ 1000000) :
    CallsR Try.prog 53 #[.int .i64 n, .slice a l.length cap] w fun v w' => v = .bool (permsB n l) ∧ Ex w w' := by
  refine callsR_of (args := [_, _]) Try.func53 rfl rfl ?_
  have hsl := hL.len
  repeat' (first | (refine k_pure rfl ?_) | (refine then_normal ?_) | (refine cw_seq ?_) | (refine cw_region rfl ?_) | (refine rr_nil ?_) | (refine k_len rfl ?_) | (refine cw_block ?_))
  refine cw_loop (ι := Nat) [4, 6, 9, 10, 11, 12, 13, 14, 15, 16, 17, 18, 19, 20, 21, 22] (fun s => [(9, .int .i64 (s : Int))]) (fun s w' => s ≤ l.length ∧ Ex w w' ∧ permsB n (l.take s) = true) (fun s => l.length - s)
    0 ⟨rfl, trivial⟩ ⟨Nat.zero_le _, Ex.refl _, rfl⟩ ?_
  rintro k ξ w1 ⟨hk, hE1, hp⟩
  show CW _ _ _ _ (over [(9, .int .i64 (k : Int))] _) w1
  have hL1 := hL.ext hE1
  have hLs := hL1.sl
  obtain ⟨⟨ua, ul, uc⟩, hud⟩ : ∃ s, sds.getD k sd0 = s := ⟨_, rfl⟩
  have hno : ∀ (hkl : k < l.length), (decide (((l.getD k []).length : Int) = n) && decide (IsPerm (l.getD k []))) = false → permsB n l = false := fun hkl h => by
    have := getD_mem (d := []) hkl
    cases hb : permsB n l with
    | false => rfl
    | true =>
      unfold permsB at hb
      rw [List.all_eq_true] at hb
      have := hb _ this
      rw [h] at this; cases this
  have hyes : ∀ (hkl : k < l.length), (decide (((l.getD k []).length : Int) = n) && decide (IsPerm (l.getD k []))) = true → permsB n (l.take (k + 1)) = true := fun hkl h => by
    unfold permsB at hp ⊢
    rw [take_all hkl hp]; exact h
  repeat' (first | (refine k_indexN (j := k) rfl rfl (hLs.plain (by simp; omega)) (by omega) ?_) | (refine k_loadSd (j := k) rfl hLs (by omega) hud ?_) | (refine k_pure rfl ?_) | (refine then_normal ?_) | (refine cw_seq ?_) | (refine cw_region rfl ?_) | (refine rr_nil ?_) | (refine k_len rfl ?_) | (refine g_run rfl rfl ?_) | (refine g_skip rfl rfl ?_) | (refine g_dec_f rfl rfl (fun hc => ?_) (fun hc => ?_)) | (refine cw_cond_true rfl ?_) | (refine cw_cond_dec rfl (fun hc => ?_) (fun hc => ?_)) | (refine cw_block ?_) | (refine cw_exit ?_) | (refine then_exit ?_) | (refine in_exit ?_) | (refine cw_ret ?_) | (refine then_ret ?_) | (refine in_ret ?_) | (refine cw_skip ?_))
  · have hkl : k < l.length := by omega
    have hei := hL1.each k hkl
    rw [hud] at hei
    simp only at hei
    have hln : ((l.getD k []).length : Int) = n := by omega
    refine k_call (valid_spec hei.1 uc) (by rw [← hei.2]; rfl) ?_
    rintro v w2 ⟨rfl, hE2⟩
    refine ⟨fun _ _ => trivial, ?_⟩
    by_cases hv : IsPerm (l.getD k [])
    · rw [decide_eq_true hv]
      repeat' (first | (refine k_pure rfl ?_) | (refine then_normal ?_) | (refine cw_region rfl ?_) | (refine rr_nil ?_) | (refine g_run rfl rfl ?_) | (refine k_addI rfl rfl (by omega) (by omega) ?_) | (refine cw_cond_false rfl ?_) | (refine in_normal ?_) | (refine cw_skip ?_))
      refine ⟨⟨k + 1, ⟨by omega, hE1.trans hE2, hyes hkl (by rw [decide_eq_true hln, decide_eq_true hv]; rfl)⟩, by omega, rfl, trivial⟩, (by (repeat (first | exact agree_mask _ _ _ | refine agree_upd rfl ?_ | refine agree_updO rfl ?_ | refine agree_overIn rfl ?_ | refine agree_maskIn rfl ?_)))⟩
    · rw [decide_eq_false hv]
      repeat' (first | (refine k_pure rfl ?_) | (refine then_normal ?_) | (refine cw_seq ?_) | (refine cw_region rfl ?_) | (refine rr_nil ?_) | (refine g_run rfl rfl ?_) | (refine cw_cond_true rfl ?_) | (refine cw_ret ?_) | (refine then_ret ?_) | (refine in_ret ?_))
      refine ret1 rfl (rt rfl) ⟨?_, hE1.trans hE2⟩
      rw [hno hkl (by rw [decide_eq_false hv, Bool.and_false])]; rfl
  · have hkl : k < l.length := by omega
    have hei := (hL1.each k hkl).2
    rw [hud] at hei
    simp only at hei
    refine ret1 rfl (rt rfl) ⟨?_, hE1⟩
    rw [hno hkl (by rw [decide_eq_false (p := ((l.getD k []).length : Int) = n) (by omega)]; rfl)]; rfl
  · obtain rfl : k = l.length := by omega
    rw [List.take_length] at hp
    refine ret1 rfl (rt rfl) ⟨by rw [hp]; rfl, hE1⟩
theorem chkS_spec {n : Int} {l : List (List Int)} {a : Option Addr} {sds : List SD} {cap : Nat} {w : World} (hL : Lists w .i64 a sds l) (hl : l.length ≤ 1000000) :
    CallsR Try.prog 45 #[.int .i64 n, .slice a l.length cap] w fun v w' => v = .int .i64 (errS n l) ∧ Ex w w' := by
  refine callsR_of (args := [_, _]) Try.func45 rfl rfl ?_
  repeat' (first | (refine k_pure rfl ?_) | (refine then_normal ?_) | (refine cw_seq ?_) | (refine cw_region rfl ?_) | (refine rr_nil ?_) | (refine k_len rfl ?_) | (refine g_run rfl rfl ?_) | (refine g_skip rfl rfl ?_) | (refine g_dec_f rfl rfl (fun hc => ?_) (fun hc => ?_)) | (refine cw_cond_true rfl ?_) | (refine cw_cond_dec rfl (fun hc => ?_) (fun hc => ?_)) | (refine cw_ret ?_) | (refine then_ret ?_) | (refine cw_skip ?_))
  · refine ret1 rfl (rt rfl) ⟨?_, Ex.refl _⟩
    rw [errS, if_pos (.inr (by omega))]; rfl
  · refine ret1 rfl (rt rfl) ⟨?_, Ex.refl _⟩
    rw [errS, if_neg (by omega), if_pos (by omega)]; rfl
  · refine k_call (perms_spec hL hl) rfl ?_
    rintro v w1 ⟨rfl, hE1⟩
    refine ⟨fun _ _ => trivial, ?_⟩
    cases hb : permsB n l with
    | true =>
      repeat' (first | (refine k_pure rfl ?_) | (refine then_normal ?_) | (refine cw_seq ?_) | (refine cw_region rfl ?_) | (refine rr_nil ?_) | (refine cw_cond_false rfl ?_) | (refine cw_ret ?_) | (refine cw_skip ?_))
      refine ret1 rfl (rt rfl) ⟨?_, hE1⟩
      rw [errS, if_neg (by omega), if_neg (by omega), if_pos hb]; rfl
    | false =>
      repeat' (first | (refine k_pure rfl ?_) | (refine then_normal ?_) | (refine cw_seq ?_) | (refine cw_region rfl ?_) | (refine rr_nil ?_) | (refine cw_cond_true rfl ?_) | (refine cw_ret ?_) | (refine then_ret ?_))
      refine ret1 rfl (rt rfl) ⟨?_, hE1⟩
      rw [errS, if_neg (by omega), if_neg (by omega), hb]; rfl
  · refine ret1 rfl (rt rfl) ⟨?_, Ex.refl _⟩
    rw [errS, if_pos (.inl (by omega))]; rfl
theorem errS_zero {n : Int} {gens : List (List Int)} (h : errS n gens = 0) : ∃ m : Nat, n = (m : Int) ∧ 1 ≤ m ∧ m ≤ 512 ∧ gens.length ≤ 64 ∧ GensN m gens := by
  unfold errS at h
  split at h
  · cases h
  · rename_i h1
    split at h
    · cases h
    · rename_i h2
      split at h
      · rename_i h3
        refine ⟨n.toNat, by omega, by omega, by omega, by omega, ?_⟩
        rw [← permsB_iff, show ((n.toNat : Nat) : Int) = n by omega]; exact h3
      · cases h
theorem sOrder_spec {n : Int} {gens : List (List Int)} {a : Option Addr} {sds : List SD} {cap : Nat} {w : World} (hL : Lists w .i64 a sds gens) (hl : gens.length ≤ 1000000) (h11 : errS n gens = 0 → n ≤ 11) :
    CallsR Try.prog 15 #[.int .i64 n, .slice a gens.length cap] w fun v w' => ∃ z, v = .tuple #[z, .int .i64 (errS n gens)] ∧ Ex w w' ∧ (errS n gens ≠ 0 → IntC w.heap.size w' z 0) ∧ (errS n gens = 0 → ∃ k : Nat, Card (Gen n.toNat gens) k ∧ IntC w.heap.size w' z (k : Int)) := by
  refine callsR_of (args := [_, _]) Try.func15 rfl rfl ?_
  repeat' (first | (refine k_allocA (vs := intL false none 0 0) (fun g4 w1 hn1 => ⟨fun _ _ => trivial, ?_⟩)) | (refine k_pure rfl ?_) | (refine then_normal ?_) | (refine cw_seq ?_) | (refine cw_region rfl ?_) | (refine rr_nil ?_))
  have z1 := hn1.lo; have z1' := hn1.hi
  refine k_call (chkS_spec (hL.ext hn1.ex) hl) rfl ?_
  rintro v w2 ⟨rfl, hE2⟩
  refine ⟨fun _ _ => trivial, ?_⟩
  have y2 := hE2.size
  have hEw2 := hn1.ex.trans hE2
  have hb2 := hn1.blk.ext hE2
  repeat' (first | (refine k_pure rfl ?_) | (refine then_normal ?_) | (refine cw_seq ?_) | (refine cw_region rfl ?_) | (refine rr_nil ?_) | (refine cw_cond_dec rfl (fun hc => ?_) (fun hc => ?_)) | (refine cw_skip ?_))
  · refine k_build (cs := intL false none 0 0) rfl ?_
    repeat' (first | (refine k_pure rfl ?_))
    refine k_storeV (n := 2) rfl rfl rfl rfl hb2 rfl (fun w3 hc3 hb3 => ⟨fun _ _ => trivial, ?_⟩)
    repeat' (first | (refine k_pure rfl ?_) | (refine then_normal ?_) | (refine rr_nil ?_) | (refine cw_ret ?_) | (refine then_ret ?_))
    refine ret2 rfl (rc rfl rfl hb3) (rt rfl) ⟨_, rfl, hEw2.chg hc3 (by omega), fun _ => IntC.zero _ _, fun h => absurd h hc⟩
  · have h0 : errS n gens = 0 := by omega
    obtain ⟨m, rfl, hm1, hm2, hgl, hgn⟩ := errS_zero h0
    have hm11 : m ≤ 11 := by have := h11 h0; omega
    refine k_call (chBuild_spec (base := []) (b := none) (bc := 0) ⟨hm1, hm2⟩ hm11 hgn (hL.ext hEw2) (by omega) (Sl.nil _ _) (by simp) (fun i hi => absurd hi (by simp))) rfl ?_
    rintro v w3 ⟨hE3, c, ls, rfl, hC, hG, hF⟩
    refine ⟨fun _ _ => trivial, ?_⟩
    have y3 := hE3.size
    refine k_call (chOrder_spec (first := 0) hm11 hC hG (by simp; omega) (Nat.zero_le _)) rfl ?_
    rintro v w4 ⟨hz4, hE4⟩
    refine ⟨fun _ _ => trivial, ?_⟩
    obtain ⟨cs, rfl, hcl, hco⟩ := hz4.out
    have hb4 := (hb2.ext hE3).ext hE4
    refine k_storeV (n := 2) rfl rfl hcl hco hb4 rfl (fun w5 hc5 hb5 => ⟨fun _ _ => trivial, ?_⟩)
    repeat' (first | (refine k_pure rfl ?_) | (refine then_normal ?_) | (refine rr_nil ?_) | (refine cw_ret ?_))
    have hz5 := (hz4.chgO hc5 (hz4.off_lo (by omega))).mono (lo' := w.heap.size) (by omega)
    rw [List.drop_zero] at hz5
    refine ret2 rfl (rc rfl hcl hb5) (rt rfl) ⟨_, by rw [h0]; rfl, ((hEw2.trans hE3).trans hE4).chg hc5 (by omega), fun h => absurd h0 h, fun _ => ⟨prodL ls, ?_, hz5⟩⟩
    rw [Int.toNat_natCast]
    exact (full_card hG.links hF).congr hG.grp
end Go.Proofs.Ythhfjagnmhhapaa

