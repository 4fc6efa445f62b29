
import Derived.Test.YthhfjagnmhhapaaGreatE01
import Derived.Test.YthhfjagnmhhapaaGreatE02
import Derived.Test.YthhfjagnmhhapaaGreatE03
import Derived.Test.YthhfjagnmhhapaaGreatE04
import Derived.Test.YthhfjagnmhhapaaGreatE05
import Derived.Test.YthhfjagnmhhapaaGreatE06
import Derived.Test.YthhfjagnmhhapaaGreatE07
import Derived.Test.YthhfjagnmhhapaaGreatE10

namespace Go.Proofs.YthhfjagnmhhapaaGreat
open Go.W Go.PM
def hs0 : Nat → LH := fun _ => ⟨0, 0, 0, 0, 0, 0, [], 0, 0, none, 0, [], []⟩
set_option maxHeartbeats 1000000 in
theorem chBuild_spec {w : World} {n : Nat} {gens : List (List Int)} {base : List Int} {a b : Option Addr} {sds : List SD} {cap bc : Nat} (n1 : 1 ≤ n ∧ n ≤ 512) (hn11 : n ≤ 11) (gn : GensN n gens) (hL : Lists w .i64 a sds gens) (hgl : gens.length ≤ 1000) (hb : Sl w b (intsL base)) (hbl : base.length ≤ 1000) (hbr : ∀ i, i < base.length → 0 ≤ base.getD i 0 ∧ base.getD i 0 < n) :
    CallsR Tryz.prog 20 #[.int .i64 (n : Int), .slice a gens.length cap, .slice b base.length bc] w fun v w' => Ex w w' ∧ ∃ c ls, v = .pointer (some ⟨c.cb, 0, none⟩) ∧ ChAt w' n c ls ∧ Gd n (Gen n gens) base (gens.length + base.length + 2) ls ∧ Full n ls := by
  refine callsR_of (args := [_, _, _]) Tryz.func20 rfl rfl ?_
  have hsl := hL.len
  repeat' (first | (refine k_makeMap (fun mb w1 hE1 hmb hm1 => ⟨fun _ _ => trivial, ?_⟩)) | (refine k_pure rfl ?_) | (refine then_normal ?_) | (refine cw_seq ?_) | (refine cw_region rfl ?_) | (refine rr_nil ?_))
  refine k_build (cs := [.int .i64 (n : Int), .map (some mb), .slice none 0 0, .int .u64 88172645463325252]) rfl ?_
  repeat' (first | (refine k_boxA rfl (fun cb w2 hn2 => ⟨fun _ _ => trivial, ?_⟩)) | (refine k_pure rfl ?_) | (refine then_normal ?_) | (refine cw_seq ?_) | (refine cw_region rfl ?_) | (refine rr_nil ?_) | (refine k_len rfl ?_) | (refine cw_block ?_))
  have hE2 : Ex w w2 := hE1.trans hn2.ex
  have z1 := hE1.size
  have z2 := hn2.lo; have z2' := hn2.hi
  have hmbl := hm1.lt
  have hm2 := hm1.ext hn2.ex
  have hb2 := hn2.blk
  refine cw_loop (ι := Nat × Option Addr × Nat × List SD × List Nat × List (List Int)) [8, 10, 11, 21, 22, 23, 24, 25, 26, 27, 28, 29, 30, 31, 32, 33, 34] (fun s => [(21, .int .i64 (s.1 : Int)), (8, .slice s.2.1 s.2.2.2.2.2.length s.2.2.1)]) (fun s w' => s.1 ≤ gens.length ∧ Ex w2 w' ∧ Own w' w2.heap.size 55 1 s.2.1 s.2.2.2.2.2.length s.2.2.1 (s.2.2.2.1.map SD.val) ∧ PsAt w' n s.2.2.2.2.1 s.2.2.2.1 s.2.2.2.2.2 ∧ (∀ q, q ∈ s.2.2.2.2.1 → w2.heap.size ≤ q ∧ q < w'.heap.size) ∧ (∀ ad, s.2.1 = some ad → ad.block ∉ s.2.2.2.2.1) ∧ s.2.2.2.2.2.length ≤ s.1 ∧ (∀ g ∈ s.2.2.2.2.2, g ∈ gens ∧ g ≠ idList n) ∧ ∀ j, j < s.1 → gens.getD j [] = idList n ∨ gens.getD j [] ∈ s.2.2.2.2.2) (fun s => gens.length - s.1)
    (0, none, 0, [], [], []) ⟨rfl, rfl, trivial⟩ ⟨Nat.zero_le _, Ex.refl _, Own.nil _ _ _ _, ⟨rfl, fun i hi => absurd hi (by simp), fun i hi => absurd hi (by simp), fun i hi => absurd hi (by simp)⟩, by simp, by rintro _ ⟨⟩, Nat.le_refl _, by simp, fun j hj => absurd hj (by simp)⟩ ?_
  rintro ⟨i, ga, gc, gs, im, group⟩ ξ w3 ⟨hi, hE3, hO3, hP3, him3, hOd3, hgl3, hg3, hj3⟩
  simp only at hi hO3 hP3 him3 hOd3 hgl3 hg3 hj3
  show CW _ _ _ _ (over [(21, .int .i64 (i : Int)), (8, .slice ga group.length gc)] _) w3
  have hL3 := hL.ext (hE2.trans hE3)
  have hLs3 := hL3.sl
  obtain ⟨⟨ua, ul, uc⟩, hud⟩ : ∃ s, sds.getD i sd0 = s := ⟨_, rfl⟩
  have z3 := hE3.size
  repeat' (first | (refine k_indexN (j := i) rfl rfl (hLs3.plain (by simp; omega)) (by omega) ?_) | (refine k_loadSd (j := i) rfl hLs3 (by omega) hud ?_) | (refine k_pure rfl ?_) | (refine then_normal ?_) | (refine cw_seq ?_) | (refine cw_region rfl ?_) | (refine rr_nil ?_) | (refine cw_cond_dec rfl (fun hc => ?_) (fun hc => ?_)) | (refine cw_block ?_) | (refine cw_exit ?_) | (refine then_exit ?_) | (refine in_exit ?_) | (refine cw_skip ?_))
  · have hil : i < gens.length := by omega
    have hgm := getD_mem (d := []) hil
    have pg := gn _ hgm
    have hei := hL3.each i hil
    rw [hud] at hei
    simp only at hei
    obtain ⟨hes, hel⟩ := hei
    refine k_call (toPerm_spec (xs := gens.getD i []) hes uc (fun k hk => by have := pg.1.lt hk; have := pg.2; omega) (by rw [pg.2]; omega)) (by rw [← hel]; rfl) ?_
    rintro v w4 ⟨g, rfl, hg, hb4, hE4⟩
    refine ⟨fun _ _ => trivial, ?_⟩
    rw [pg.2]
    obtain ⟨x, hx⟩ : ∃ x, x = gens.getD i [] := ⟨_, rfl⟩
    rw [← hx] at hb4 hgm pg
    have z4 := hE4.size
    have g4 := hb4.lt
    repeat' (first | (refine k_pure rfl ?_) | (refine then_normal ?_) | (refine cw_seq ?_) | (refine cw_region rfl ?_) | (refine rr_nil ?_))
    refine k_call (moved_spec (xs := x) hb4.sl n (fun k hk => by have := pg.1.lt hk; have := pg.2; omega) (by rw [pg.2]; omega)) (by rw [pg.2]; rfl) ?_
    rintro v w5 ⟨mv, rfl, hmv, hE5⟩
    refine ⟨fun _ _ => trivial, ?_⟩
    have hE35 := hE4.trans hE5
    have z5 := hE5.size
    have hO5 := hO3.ext hE35
    have hP5 := hP3.ext hE35
    repeat' (first | (refine k_pure rfl ?_) | (refine then_normal ?_) | (refine cw_region rfl ?_) | (refine rr_nil ?_) | (refine k_addI rfl rfl (by omega) (by omega) ?_) | (refine cw_cond_dec rfl (fun hc => ?_) (fun hc => ?_)) | (refine in_normal ?_) | (refine cw_skip ?_))
    · have hne : x ≠ idList n := fun e => by have := hmv.neg.2 (by rw [pg.2]; exact e); omega
      refine k_app1S rfl rfl rfl rfl hO5 (by omega) (by omega) (by omega) (fun gx a6 c6 w6 ho6 hg6 hA6 => ?_)
      have hown : ∀ q, (Value.slice ga group.length gc).ownBlock = some q → ∃ ad, ga = some ad ∧ ad.block = q := fun q e => by
        cases ha : ga with
        | none => rw [ha] at e; simp [Value.ownBlock] at e
        | some ad => rw [ha] at e; simp [Value.ownBlock] at e; exact ⟨ad, rfl, e⟩
      have f6 := grown_fr hg6 hown
      have z6 := f6.size
      obtain ⟨b6, rfl⟩ := Own.ba ho6
      have hlo6 := (ho6.lo _ rfl)
      simp only at hlo6
      have hE6 : Ex w2 w6 := Fr.ex (hE3.trans hE35) f6 (fun q ⟨ad, e, e2⟩ => by rw [← e2]; exact (hO3.lo ad e).1)
      have hP6 := ((hP5.fr f6 (fun q hq ⟨ad, e, e2⟩ => hOd3 ad e (by rw [e2]; exact hq))).mono (im' := g :: im) fun q hq => List.mem_cons_of_mem _ hq).snoc (s := ⟨ba g, n, n⟩) (p := x) ((hb4.ext hE5).sl.fr f6 (by rintro _ ⟨⟩ ⟨ad, e, e2⟩; have := (hO3.lo ad e).2; simp only at e2; omega)) rfl (by rintro _ ⟨⟩; simp)
      have hb6 : b6 ∉ g :: im := by
        rw [List.mem_cons, not_or]
        rcases hA6 with e | e
        · have h2 := (hO3.lo _ e.symm).2
          simp only at h2
          exact ⟨by omega, hOd3 _ e.symm⟩
        · have h1 := e _ rfl
          simp only at h1
          exact ⟨by omega, fun h => by have := (him3 _ h).2; omega⟩
      repeat' (first | (refine k_pure rfl ?_) | (refine then_normal ?_) | (refine cw_region rfl ?_) | (refine rr_nil ?_) | (refine k_addI rfl rfl (by omega) (by omega) ?_) | (refine in_normal ?_))
      refine ⟨⟨(i + 1, ba b6, c6, gs ++ [⟨ba g, n, n⟩], g :: im, group ++ [x]), ⟨by simp only; omega, hE6, by simp only [List.length_append, List.length_singleton]; exact ho6, hP6, fun q hq => ?_, by rintro _ ⟨⟩; exact hb6, by simp only [List.length_append, List.length_singleton]; omega, fun y hy => ?_, fun j hj => ?_⟩, by simp only; omega, rfl, by simp only [List.length_append, List.length_singleton]; rfl, trivial⟩, (by (repeat (first | exact agree_mask _ _ _ | refine agree_upd rfl ?_ | refine agree_updO rfl ?_ | refine agree_overIn rfl ?_ | refine agree_maskIn rfl ?_)))⟩
      · rcases List.mem_cons.1 hq with rfl | hq
        · exact ⟨by omega, by omega⟩
        · have := him3 q hq; exact ⟨this.1, by omega⟩
      · rcases List.mem_append.1 hy with hy | hy
        · exact hg3 y hy
        · rw [List.mem_singleton] at hy; subst hy; exact ⟨hgm, hne⟩
      · simp only at hj ⊢
        by_cases e : j = i
        · subst e; right; rw [← hx]; simp
        · rcases hj3 j (by omega) with h | h
          · exact .inl h
          · exact .inr (List.mem_append_left _ h)
    · have hxe : x = idList n := by have := hmv.neg.1 (by omega); rw [pg.2] at this; exact this
      refine ⟨⟨(i + 1, ga, gc, gs, im, group), ⟨by simp only; omega, hE3.trans hE35, hO5, hP5, fun q hq => ⟨(him3 q hq).1, by have := (him3 q hq).2; omega⟩, hOd3, by simp only; omega, hg3, fun j hj => ?_⟩, by simp only; omega, rfl, rfl, trivial⟩, (by (repeat (first | exact agree_mask _ _ _ | refine agree_upd rfl ?_ | refine agree_updO rfl ?_ | refine agree_overIn rfl ?_ | refine agree_maskIn rfl ?_)))⟩
      simp only at hj ⊢
      by_cases e : j = i
      · subst e; left; rw [← hx]; exact hxe
      · exact hj3 j (by omega)
  · obtain rfl : i = gens.length := by omega
    have hE3w : Ex w w3 := hE2.trans hE3
    have hgn3 : GensN n group := fun g hg => gn g (hg3 g hg).1
    obtain ⟨imz, himz⟩ : ∃ l : List Nat, (∀ ad, ga = some ad → ad.block ∈ l) ∧ (∀ q, q ∈ im → q ∈ l) ∧ ∀ q, q ∈ l → w2.heap.size ≤ q ∧ q < w3.heap.size := by
      cases ha : ga with
      | none => exact ⟨im, by rintro _ ⟨⟩, fun _ h => h, him3⟩
      | some ad =>
        refine ⟨ad.block :: im, by rintro _ ⟨⟩; simp, fun q hq => List.mem_cons_of_mem _ hq, fun q hq => ?_⟩
        rcases List.mem_cons.1 hq with rfl | hq
        · exact hO3.lo ad ha
        · exact him3 q hq
    have hGeq : ∀ p, Gen n group p ↔ Gen n gens p := gen_congr n1 hgn3 gn (fun g hg => gen_self gn (hg3 g hg).1) (fun g hg => by
      obtain ⟨j, hj, e⟩ := List.getElem_of_mem hg
      have e' : gens.getD j [] = g := by rw [List.getD_eq_getElem?_getD, List.getElem?_eq_getElem hj, Option.getD_some, e]
      rcases hj3 j hj with h | h
      · rw [e'] at h; subst h; exact .one
      · rw [e'] at h; exact gen_self hgn3 h)
    have hJ0 : BJ w n gens base 0 ga gc gs imz group ⟨cb, mb, none, 0, [], hs0, 88172645463325252⟩ [] w3 := by
      refine ⟨⟨hb2.ext hE3, show (88172645463325252 : Nat) < 18446744073709551616 by decide, hm2.ext hE3, ⟨rfl, by simp, fun i hi => absurd hi (by simp), by simp⟩, Own.nil _ _ _ _, fun i hi => absurd hi (by simp), by simp only; omega, by rintro _ ⟨⟩, fun i hi => absurd hi (by simp), fun i j hi => absurd hi (by simp), fun i j hi => absurd hi (by simp)⟩, rfl, ⟨hO3.sl, hP3.mono himz.2.1, himz.1, fun q hq => (himz.2.2 q hq).2, hO3.capLe⟩, hE3w, fun q hq => ?_, fun q hq hf => ?_, n1, hgn3, fun g hg => (hg3 g hg).2, by omega, fun j hj => absurd hj (by simp), fun j _ hj => absurd hj (by simp), fun j _ hj => absurd hj (by simp), fun _ => hGeq, fun h => absurd h (by omega), fun z hz => by simp at hz, by simp⟩
      · rcases hq with (hq | hq | ⟨ad, h1, _⟩) | ⟨j, hj, _⟩
        · simp only at hq; omega
        · simp only at hq; omega
        · cases h1
        · simp at hj
      · have := (himz.2.2 q hq).1
        rcases hf with (hq | hq | ⟨ad, h1, _⟩) | ⟨j, hj, _⟩
        · simp only at hq; omega
        · simp only at hq; omega
        · cases h1
        · simp at hj
    have hgb := hb.ext hE3w
    skip
    refine cw_loop (ι := Nat × Option Addr × Nat × List SD × List Nat × List (List Int) × CH × List Lv) [8, 12, 13, 14, 35, 36, 37, 38, 39, 40, 41, 42, 43, 44, 45, 46, 47, 48, 49, 50, 51, 52, 53, 54, 55, 56, 57, 58, 59, 60, 61, 62, 63, 64, 65, 66, 67, 68] (fun s => [(12, .int .i64 (s.1 : Int)), (8, .slice s.2.1 s.2.2.2.2.2.1.length s.2.2.1)]) (fun s w' => BJ w n gens base s.1 s.2.1 s.2.2.1 s.2.2.2.1 s.2.2.2.2.1 s.2.2.2.2.2.1 s.2.2.2.2.2.2.1 s.2.2.2.2.2.2.2 w' ∧ s.2.2.2.2.2.2.1.cb = cb) (fun s => (base.length - s.1) + (39916801 - prodL s.2.2.2.2.2.2.2))
      (0, ga, gc, gs, imz, group, ⟨cb, mb, none, 0, [], hs0, 88172645463325252⟩, []) ⟨rfl, rfl, trivial⟩ ⟨hJ0, rfl⟩ ?_
    rintro ⟨i, ga1, gc1, gs1, im1, group1, c1, ls1⟩ ξ2 w4 ⟨hJ, hcb1⟩
    simp only at hJ hcb1
    show CW _ _ _ _ (over [(12, .int .i64 (i : Int)), (8, .slice ga1 group1.length gc1)] _) w4
    have hlen1 := hJ.len
    have hgl1 := hJ.gl
    have hpl1 := prod_le hJ.links hn11
    have hb4 := hb.ext hJ.ex
    have hll1 := hJ.ll
    have hllb : ls1.length ≤ 40000000 := by omega
    subst hlen1
    repeat' (first | (refine k_pure rfl ?_) | (refine then_normal ?_) | (refine cw_seq ?_) | (refine cw_region rfl ?_) | (refine rr_nil ?_) | (refine k_len rfl ?_) | (refine g_run rfl rfl ?_) | (refine g_skip rfl rfl ?_) | (refine g_dec_f rfl rfl (fun hc => ?_) (fun hc => ?_)) | (refine cw_cond_true rfl ?_) | (refine cw_cond_dec rfl (fun hc => ?_) (fun hc => ?_)) | (refine cw_block ?_) | (refine cw_exit ?_) | (refine then_exit ?_) | (refine in_exit ?_) | (refine cw_skip ?_))
    · omega
    · have hg0 : 0 < group1.length := by omega
      have hgs4 := hJ.gsa
      have hgsl4 := hgs4.ps.len
      obtain ⟨⟨xa, xl, xc⟩, hxd⟩ : ∃ s, gs1.getD 0 sd0 = s := ⟨_, rfl⟩
      have hxs := hgs4.ps.sl 0 hg0
      have hxn := hgs4.ps.n 0 hg0
      rw [hxd] at hxs hxn
      simp only at hxs hxn
      replace hxn := hxn.symm
      subst hxn
      have hgm0 := getD_mem (d := []) hg0
      have px := hJ.gn _ hgm0
      have hxne := hJ.gne _ hgm0
      repeat' (first | (refine k_indexN (j := 0) rfl rfl (hgs4.sl.plain (by simp; omega)) (by omega) ?_) | (refine k_loadSd (j := 0) rfl hgs4.sl (by omega) hxd ?_))
      refine k_call (moved_spec (xs := group1.getD 0 []) hxs xc (fun k hk => by have := px.1.lt hk; have := px.2; omega) (by rw [px.2]; omega)) (by rw [px.2]; rfl) ?_
      rintro v w5 ⟨mv, rfl, hmv, hE45⟩
      refine ⟨fun _ _ => trivial, ?_⟩
      obtain ⟨pt, rfl, hptn, hptm⟩ : ∃ pt : Nat, mv = (pt : Int) ∧ pt < n ∧ ap (group1.getD 0 []) pt ≠ pt := by
        rcases hmv with ⟨_, h⟩ | ⟨a1, a2, a3⟩
        · rw [px.2] at h; exact absurd h hxne
        · rw [px.2] at a2
          exact ⟨mv.toNat, by omega, by omega, by rw [Int.toNat_of_nonneg a1]; exact a3⟩
      have hpts : ls1.length < base.length → (pt : Int) = base.getD ls1.length 0 := fun h => absurd h (by omega)
      have htwo : base.length ≤ ls1.length → ∃ g ∈ group1, ap g pt ≠ pt := fun _ => ⟨_, hgm0, hptm⟩
      have z45 := hE45.size
      have hgs5 := hJ.gsa.fr (F := fun _ => False) hE45.fr (fun _ _ h => h)
      repeat' (first | (refine k_pure rfl ?_) | (refine then_normal ?_) | (refine cw_seq ?_) | (refine cw_region rfl ?_) | (refine rr_nil ?_))
      refine k_call (newLv_spec (pt := pt) n1 hptn hJ.gn hgs5.sl hgs5.ps hgs5.gim hgs5.imlt hgs5.cap (by omega)) rfl ?_
      rintro v w6 ⟨h', l', rfl, hL', ok', hpt', hg', hd', hE6, hF', hI', _, _, _⟩
      refine ⟨fun _ _ => trivial, ?_⟩
      have hE46 := hE45.trans hE6
      have hC4 := hJ.ch
      have hfit : Fits c1 ls1.length ls1.length h' := by
        refine ⟨fun q hq ho => ?_, fun j hj _ q hq => ?_, fun j hj _ q hq hq' => ?_⟩
        · have hlt := hC4.footlt (.inl ho)
          rcases hq with hq | hq
          · have := hF' q hq; omega
          · rcases hI' q hq with h | h
            · exact hJ.imf q h (.inl ho)
            · omega
        · have := hF' q hq
          exact ⟨fun hq' => by have := (hC4.lv j hj).lt q hq'; omega, fun hq' => by have := (hC4.lv j hj).imlt q hq'; omega⟩
        · have := (hC4.lv j hj).lt q hq
          rcases hI' q hq' with h | h
          · exact hJ.imf q h (.inr ⟨j, hj, hq⟩)
          · omega
      repeat' (first | (refine k_pure rfl ?_) | (refine then_normal ?_) | (refine cw_seq ?_) | (refine cw_region rfl ?_) | (refine rr_nil ?_))
      refine k_call (put_spec (i := ls1.length) (hC4.but ls1.length (F := fun _ => False) hE46.fr (fun _ _ h => h) (fun _ _ _ _ _ h => h)) (Nat.le_refl _) hL' hfit (by omega)) (by rw [hcb1]; rfl) ?_
      rintro v w7 ⟨rfl, va', vc', m', hC7, f7, hva⟩
      refine ⟨fun _ _ => trivial, ?_⟩
      rw [putL_end] at hC7
      have hget : (ls1 ++ [l']).getD ls1.length lv0 = l' := by simp
      have hlt7 : ls1.length < (ls1 ++ [l']).length := by simp
      repeat' (first | (refine k_pure rfl ?_) | (refine then_normal ?_) | (refine cw_region rfl ?_) | (refine rr_nil ?_))
      refine k_call (fixing_spec (i := ls1.length) hn11 hC7 hlt7 (by rw [hget]; exact ok') (by rw [hget, hg']; omega) (by rw [hget, hg']; exact hJ.gne)) (by
        show _ = #[Value.pointer (some ⟨c1.cb, 0, none⟩), Value.pointer (some ⟨(if ls1.length = ls1.length then h' else c1.hs ls1.length).blk, 0, none⟩)]
        rw [if_pos rfl, hcb1]; rfl) ?_
      rintro v w8 ⟨st', ga', gc', gs', im', group', rfl, hC8, f8, hgs8, him8, himf8, hgl8, hg8⟩
      refine ⟨fun _ _ => trivial, ?_⟩
      rw [hget] at hgl8 hg8
      obtain ⟨hJ', hpr', h2o⟩ := hJ.step (pt := pt) hE46 ok' hpt' hg' hd' (fun q hq => by have := hF' q hq; omega) (fun q hq => (hI' q hq).imp id (fun h => by omega)) f7 hva hC8 f8 hgs8 himf8 (by rw [← hg']; exact hgl8) hg8 hpts htwo
      have hpl' := prod_le hJ'.links hn11
      have hpp := prodL_pos hJ.links
      have hop := ok'.pos
      have hmes : (base.length - (ls1.length + 1)) + (39916801 - prodL (ls1 ++ [l'])) < (base.length - ls1.length) + (39916801 - prodL ls1) := by
        clear htwo
        rw [hpr'] at hpl' ⊢
        by_cases hb' : base.length ≤ ls1.length
        · have h3 : prodL ls1 * 2 ≤ prodL ls1 * l'.orb.length := Nat.mul_le_mul_left _ (h2o hb')
          omega
        · have h3 : prodL ls1 * 1 ≤ prodL ls1 * l'.orb.length := Nat.mul_le_mul_left _ hop
          omega
      repeat' (first | (refine k_pure rfl ?_) | (refine then_normal ?_) | (refine cw_region rfl ?_) | (refine rr_nil ?_) | (refine k_addI rfl rfl (by omega) (by omega) ?_) | (refine in_normal ?_))
      exact ⟨⟨(ls1.length + 1, ga', gc', gs', im', group', _, ls1 ++ [l']), ⟨hJ', hcb1⟩, hmes, rfl, rfl, trivial⟩, (by (repeat (first | exact agree_mask _ _ _ | refine agree_upd rfl ?_ | refine agree_updO rfl ?_ | refine agree_overIn rfl ?_ | refine agree_maskIn rfl ?_)))⟩
    · have hg0 : group1 = [] := List.eq_nil_of_length_eq_zero (by omega)
      subst hg0
      have hGd := hJ.gd (by omega)
      have zw4 := hJ.ex.size
      skip
      refine k_call (fill_spec hn11 (by omega) hJ.ch hGd) (by rw [hcb1]; rfl) ?_
      rintro v w5 ⟨rfl, c5, ls5, hC5, hG5, f5, g5⟩
      refine ⟨fun _ _ => trivial, ?_⟩
      repeat' (first | (refine k_pure rfl ?_) | (refine then_normal ?_) | (refine cw_seq ?_) | (refine cw_region rfl ?_) | (refine rr_nil ?_))
      refine k_call (prove_spec hn11 (by omega) hC5 hG5) (by rw [g5.cb, hcb1]; rfl) ?_
      rintro v w6 ⟨rfl, c6, ls6, hC6, hG6, hF6, f6, g6⟩
      refine ⟨fun _ _ => trivial, ?_⟩
      have hE5 : Ex w w5 := Fr.ex hJ.ex f5 hJ.foot
      have hE6 : Ex w w6 := Fr.ex hE5 f6 (fun q hq => (g5.foot q hq).elim (hJ.foot q) (fun h => by omega))
      repeat' (first | (refine k_pure rfl ?_) | (refine then_normal ?_) | (refine cw_seq ?_) | (refine cw_region rfl ?_) | (refine rr_nil ?_) | (refine cw_ret ?_))
      exact ret1 rfl (rt rfl) ⟨hE6, c6, ls6, by rw [g6.cb, g5.cb, hcb1]; rfl, hC6, hG6, hF6⟩
    · have hil : ls1.length < base.length := by omega
      have hbi := hbr ls1.length hil
      obtain ⟨pt, hpt⟩ : ∃ pt : Nat, base.getD ls1.length 0 = (pt : Int) := ⟨(base.getD ls1.length 0).toNat, by omega⟩
      have hptn : pt < n := by omega
      have hpts : ls1.length < base.length → (pt : Int) = base.getD ls1.length 0 := fun _ => hpt.symm
      have htwo : base.length ≤ ls1.length → ∃ g ∈ group1, ap g pt ≠ pt := fun h => absurd h (by omega)
      have hE45 : Ex w4 w4 := Ex.refl _
      repeat' (first | (refine k_indexN (j := ls1.length) rfl rfl (hb4.plain (by simp; omega)) hil ?_) | (refine k_loadI (j := ls1.length) rfl hb4 hil ?_) | (refine k_pure rfl ?_) | (refine then_normal ?_) | (refine cw_seq ?_) | (refine cw_region rfl ?_) | (refine rr_nil ?_))
      rw [hpt]
      have z45 := hE45.size
      have hgs5 := hJ.gsa.fr (F := fun _ => False) hE45.fr (fun _ _ h => h)
      skip
      refine k_call (newLv_spec (pt := pt) n1 hptn hJ.gn hgs5.sl hgs5.ps hgs5.gim hgs5.imlt hgs5.cap (by omega)) rfl ?_
      rintro v w6 ⟨h', l', rfl, hL', ok', hpt', hg', hd', hE6, hF', hI', _, _, _⟩
      refine ⟨fun _ _ => trivial, ?_⟩
      have hE46 := hE45.trans hE6
      have hC4 := hJ.ch
      have hfit : Fits c1 ls1.length ls1.length h' := by
        refine ⟨fun q hq ho => ?_, fun j hj _ q hq => ?_, fun j hj _ q hq hq' => ?_⟩
        · have hlt := hC4.footlt (.inl ho)
          rcases hq with hq | hq
          · have := hF' q hq; omega
          · rcases hI' q hq with h | h
            · exact hJ.imf q h (.inl ho)
            · omega
        · have := hF' q hq
          exact ⟨fun hq' => by have := (hC4.lv j hj).lt q hq'; omega, fun hq' => by have := (hC4.lv j hj).imlt q hq'; omega⟩
        · have := (hC4.lv j hj).lt q hq
          rcases hI' q hq' with h | h
          · exact hJ.imf q h (.inr ⟨j, hj, hq⟩)
          · omega
      repeat' (first | (refine k_pure rfl ?_) | (refine then_normal ?_) | (refine cw_seq ?_) | (refine cw_region rfl ?_) | (refine rr_nil ?_))
      refine k_call (put_spec (i := ls1.length) (hC4.but ls1.length (F := fun _ => False) hE46.fr (fun _ _ h => h) (fun _ _ _ _ _ h => h)) (Nat.le_refl _) hL' hfit (by omega)) (by rw [hcb1]; rfl) ?_
      rintro v w7 ⟨rfl, va', vc', m', hC7, f7, hva⟩
      refine ⟨fun _ _ => trivial, ?_⟩
      rw [putL_end] at hC7
      have hget : (ls1 ++ [l']).getD ls1.length lv0 = l' := by simp
      have hlt7 : ls1.length < (ls1 ++ [l']).length := by simp
      repeat' (first | (refine k_pure rfl ?_) | (refine then_normal ?_) | (refine cw_region rfl ?_) | (refine rr_nil ?_))
      refine k_call (fixing_spec (i := ls1.length) hn11 hC7 hlt7 (by rw [hget]; exact ok') (by rw [hget, hg']; omega) (by rw [hget, hg']; exact hJ.gne)) (by
        show _ = #[Value.pointer (some ⟨c1.cb, 0, none⟩), Value.pointer (some ⟨(if ls1.length = ls1.length then h' else c1.hs ls1.length).blk, 0, none⟩)]
        rw [if_pos rfl, hcb1]; rfl) ?_
      rintro v w8 ⟨st', ga', gc', gs', im', group', rfl, hC8, f8, hgs8, him8, himf8, hgl8, hg8⟩
      refine ⟨fun _ _ => trivial, ?_⟩
      rw [hget] at hgl8 hg8
      obtain ⟨hJ', hpr', h2o⟩ := hJ.step (pt := pt) hE46 ok' hpt' hg' hd' (fun q hq => by have := hF' q hq; omega) (fun q hq => (hI' q hq).imp id (fun h => by omega)) f7 hva hC8 f8 hgs8 himf8 (by rw [← hg']; exact hgl8) hg8 hpts htwo
      have hpl' := prod_le hJ'.links hn11
      have hpp := prodL_pos hJ.links
      have hop := ok'.pos
      have hmes : (base.length - (ls1.length + 1)) + (39916801 - prodL (ls1 ++ [l'])) < (base.length - ls1.length) + (39916801 - prodL ls1) := by
        clear htwo
        rw [hpr'] at hpl' ⊢
        by_cases hb' : base.length ≤ ls1.length
        · have h3 : prodL ls1 * 2 ≤ prodL ls1 * l'.orb.length := Nat.mul_le_mul_left _ (h2o hb')
          omega
        · have h3 : prodL ls1 * 1 ≤ prodL ls1 * l'.orb.length := Nat.mul_le_mul_left _ hop
          omega
      repeat' (first | (refine k_pure rfl ?_) | (refine then_normal ?_) | (refine cw_region rfl ?_) | (refine rr_nil ?_) | (refine k_addI rfl rfl (by omega) (by omega) ?_) | (refine in_normal ?_))
      exact ⟨⟨(ls1.length + 1, ga', gc', gs', im', group', _, ls1 ++ [l']), ⟨hJ', hcb1⟩, hmes, rfl, rfl, trivial⟩, (by (repeat (first | exact agree_mask _ _ _ | refine agree_upd rfl ?_ | refine agree_updO rfl ?_ | refine agree_overIn rfl ?_ | refine agree_maskIn rfl ?_)))⟩
    all_goals omega
end Go.Proofs.YthhfjagnmhhapaaGreat

/- Natural numbers as lists of 32-bit limbs, the least significant one first. No program in sight. -/
namespace Go.LM
def natOf : List Nat → Nat
  | [] => 0
  | d :: l => d + 4294967296 * natOf l
def Lim (l : List Nat) : Prop := ∀ d ∈ l, d < 4294967296
theorem Lim.getD {l : List Nat} (h : Lim l) (k : Nat) : l.getD k 0 < 4294967296 := by
  by_cases hk : k < l.length
  · rw [List.getD_eq_getElem?_getD, List.getElem?_eq_getElem hk]; exact h _ (List.getElem_mem hk)
  · rw [List.getD_eq_getElem?_getD, List.getElem?_eq_none (by omega)]; decide
theorem Lim.take {l : List Nat} (h : Lim l) (k : Nat) : Lim (l.take k) := fun d hd => h d (List.mem_of_mem_take hd)
theorem natOf_append : ∀ (l m : List Nat), natOf (l ++ m) = natOf l + 4294967296 ^ l.length * natOf m
  | [], m => by simp [natOf]
  | d :: l, m => by
    simp only [List.cons_append, natOf, natOf_append l m, List.length_cons, Nat.pow_succ]
    rw [Nat.mul_add, ← Nat.mul_assoc, Nat.mul_comm 4294967296 (4294967296 ^ l.length), Nat.add_assoc]
theorem natOf_lt : ∀ {l : List Nat}, Lim l → natOf l < 4294967296 ^ l.length
  | [], _ => by simp [natOf]
  | d :: l, h => by
    have h1 := h d (by simp)
    have h2 := natOf_lt (l := l) (fun x hx => h x (by simp [hx]))
    simp only [natOf, List.length_cons, Nat.pow_succ]
    omega
theorem natOf_snoc (l : List Nat) (d : Nat) : natOf (l ++ [d]) = natOf l + 4294967296 ^ l.length * d := by rw [natOf_append]; simp [natOf]
theorem natOf_zeros : ∀ n : Nat, natOf (List.replicate n 0) = 0
  | 0 => rfl
  | n + 1 => by simp [List.replicate_succ, natOf, natOf_zeros n]
/-- without the zeros at the end -/
def trimL : List Nat → List Nat
  | [] => []
  | d :: l => if trimL l = [] ∧ d = 0 then [] else d :: trimL l
theorem trimL_natOf : ∀ l : List Nat, natOf (trimL l) = natOf l
  | [] => rfl
  | d :: l => by
    have ih := trimL_natOf l
    rw [trimL]
    split
    · rename_i h; rw [h.1] at ih; simp only [natOf] at ih ⊢; omega
    · simp only [natOf, ih]
theorem trimL_len : ∀ l : List Nat, (trimL l).length ≤ l.length
  | [] => by simp [trimL]
  | d :: l => by
    have := trimL_len l
    rw [trimL]
    split <;> simp <;> omega
theorem trimL_take : ∀ l : List Nat, trimL l = l.take (trimL l).length
  | [] => rfl
  | d :: l => by
    have ih := trimL_take l
    rw [trimL]
    split
    · rfl
    · simp only [List.length_cons, List.take_succ_cons, ← ih]
theorem trimL_snoc_zero : ∀ l : List Nat, trimL (l ++ [0]) = trimL l
  | [] => rfl
  | d :: l => by simp only [List.cons_append, trimL, trimL_snoc_zero l]
theorem trimL_snoc {d : Nat} (h : d ≠ 0) : ∀ l : List Nat, trimL (l ++ [d]) = l ++ [d]
  | [] => by simp [trimL, h]
  | e :: l => by
    simp only [List.cons_append, trimL, trimL_snoc h l]
    rw [if_neg (by simp)]
def Canon (l : List Nat) : Prop := trimL l = l
theorem canon_trimL : ∀ l : List Nat, Canon (trimL l)
  | [] => rfl
  | d :: l => by
    have ih := canon_trimL l
    unfold Canon at *
    rw [trimL]
    split
    · rfl
    · rename_i h
      rw [trimL, ih, if_neg h]
theorem trimL_zero {l : List Nat} : trimL l = [] ↔ natOf l = 0 := by
  constructor
  · intro h; rw [← trimL_natOf, h]; rfl
  · induction l with
    | nil => intro _; rfl
    | cons d l ih =>
      intro h
      simp only [natOf] at h
      rw [trimL, if_pos ⟨ih (by omega), by omega⟩]
/-- the least number of a length -/
theorem canon_ge {l : List Nat} (h : Canon l) (hne : l ≠ []) : 4294967296 ^ (l.length - 1) ≤ natOf l := by
  obtain ⟨m, d, rfl⟩ : ∃ m d, l = m ++ [d] := ⟨l.dropLast, l.getLast hne, (List.dropLast_concat_getLast hne).symm⟩
  have hd : d ≠ 0 := by
    rintro rfl
    unfold Canon at h
    rw [trimL_snoc_zero] at h
    have := trimL_len m
    rw [h] at this
    simp at this
    omega
  rw [natOf_snoc]
  simp only [List.length_append, List.length_singleton, Nat.add_sub_cancel]
  have : 4294967296 ^ m.length * 1 ≤ 4294967296 ^ m.length * d := Nat.mul_le_mul_left _ (by omega)
  omega
theorem canon_unique {l m : List Nat} (hl : Lim l) (hm : Lim m) (cl : Canon l) (cm : Canon m) (h : natOf l = natOf m) : l = m := by
  induction l generalizing m with
  | nil =>
    have : trimL m = [] := trimL_zero.2 h.symm
    rw [cm] at this; exact this.symm
  | cons d l ih =>
    cases m with
    | nil =>
      have : trimL (d :: l) = [] := trimL_zero.2 h
      rw [cl] at this; cases this
    | cons e m =>
      simp only [natOf] at h
      have h1 := hl d (by simp)
      have h2 := hm e (by simp)
      have hde : d = e := by omega
      subst hde
      have hc : ∀ {l : List Nat} {d : Nat}, Canon (d :: l) → Canon l := fun {l d} hc => by
        unfold Canon at *
        rw [trimL] at hc
        split at hc
        · cases hc
        · exact (List.cons.inj hc).2
      rw [ih (fun x hx => hl x (by simp [hx])) (fun x hx => hm x (by simp [hx])) (hc cl) (hc cm) (by omega)]
/-- the limbs of a number of 64 bits -/
def digs (n : Nat) : List Nat := trimL [n % 4294967296, n / 4294967296]
theorem digs_natOf {n : Nat} : natOf (digs n) = n := by rw [digs, trimL_natOf]; simp [natOf]; omega
theorem digs_len (n : Nat) : (digs n).length ≤ 2 := trimL_len _
theorem digs_canon (n : Nat) : Canon (digs n) := canon_trimL _
end Go.LM

namespace Go.Proofs.YthhfjagnmhhapaaGreat
open Go.W Go.LM

abbrev limbsL (ls : List Nat) : List Value := ls.map fun (n : Nat) => Value.int .u32 n
/-- a slice of limbs that can be read -/
structure Limbs (w : World) (a : Option Addr) (c : Nat) (ls : List Nat) : Prop where
  sl : Sl w a (limbsL ls)
  cap : ls.length ≤ c
  lim : Lim ls
  len : ls.length ≤ 17592186044416
theorem Limbs.ext {w w' : World} {a : Option Addr} {c : Nat} {ls : List Nat} (h : Limbs w a c ls) (e : Ex w w') : Limbs w' a c ls := ⟨h.sl.ext e, h.cap, h.lim, h.len⟩
theorem Limbs.chg {w w' : World} {a : Option Addr} {c g : Nat} {ls : List Nat} (h : Limbs w a c ls) (e : Chg g w w') (hne : ∀ ad, a = some ad → ad.block ≠ g) : Limbs w' a c ls := ⟨h.sl.chg e hne, h.cap, h.lim, h.len⟩
theorem Limbs.take {w : World} {a : Option Addr} {c : Nat} {ls : List Nat} (h : Limbs w a c ls) (k : Nat) : Limbs w a c (ls.take k) :=
  ⟨by have := h.sl.take k; rwa [← List.map_take] at this, by have := h.cap; simp; omega, h.lim.take k, by have := h.len; simp; omega⟩
theorem Limbs.trim {w : World} {a : Option Addr} {c : Nat} {ls : List Nat} (h : Limbs w a c ls) : Limbs w a c (trimL ls) := by rw [trimL_take]; exact h.take _
theorem Limbs.nil (w : World) (a : Option Addr) (c : Nat) : Limbs w a c [] := ⟨Sl.nil _ _, by simp, by intro d hd; simp at hd, by simp⟩

theorem take_pred {ls : List Nat} {k : Nat} (hk : k ≤ ls.length) (h0 : 0 < k) : ls.take k = ls.take (k - 1) ++ [ls.getD (k - 1) 0] := by
  obtain ⟨j, rfl⟩ : ∃ j, k = j + 1 := ⟨k - 1, by omega⟩
  rw [List.take_succ_eq_append_getElem (by omega)]
  simp [List.getD_eq_getElem?_getD, show j < ls.length by omega]

theorem trim_spec {ls : List Nat} {a : Option Addr} {c : Nat} {w : World} (h : Limbs w a c ls) :
    CallsR Tryz.prog 102 #[.slice a ls.length c] w fun v w' => v = .slice a (trimL ls).length c ∧ Ex w w' := by
  have hlen := h.len
  have hcap := h.cap
  refine callsR_of (args := [_]) Tryz.func102 rfl rfl ?_
  repeat' (first | (refine k_pure rfl ?_) | (refine then_normal ?_) | (refine cw_seq ?_) | (refine cw_region rfl ?_) | (refine rr_nil ?_) | (refine cw_block ?_))
  refine cw_loop (ι := Nat) [0, 3, 4, 5, 6, 7, 8, 9, 10, 11, 12, 13, 14, 15, 16, 17, 18, 19] (fun k => [(0, .slice a k c)]) (fun k w' => k ≤ ls.length ∧ w' = w ∧ trimL (ls.take k) = trimL ls) (fun k => k) ls.length ⟨rfl, trivial⟩ ⟨Nat.le_refl _, rfl, by simp⟩ ?_
  rintro k ξ w2 ⟨hk, rfl, hT⟩
  repeat' (first | (refine k_indexN (j := k - 1) rfl (by show Value.int .i64 ((k : Int) - 1) = _; congr 1; omega) (h.sl.plain (by simp; omega)) (by omega) ?_) | (refine k_loadN rfl h.sl (by omega) ?_) | (refine k_pure rfl ?_) | (refine then_normal ?_) | (refine cw_seq ?_) | (refine cw_region rfl ?_) | (refine rr_nil ?_) | (refine k_len rfl ?_) | (refine g_run rfl rfl ?_) | (refine g_skip rfl rfl ?_) | (refine g_dec_t rfl rfl (fun hc => ?_) (fun hc => ?_)) | (refine k_subI rfl rfl (by omega) (by omega) ?_) | (refine cw_cond_false rfl ?_) | (refine cw_cond_dec rfl (fun hc => ?_) (fun hc => ?_)) | (refine cw_block ?_) | (refine cw_exit ?_) | (refine then_exit ?_) | (refine in_exit ?_) | (refine cw_ret ?_) | (refine cw_skip ?_))
  · refine k_sliceTo rfl rfl (by omega) (by omega) ?_
    rw [show ((k : Int) - 1).toNat = k - 1 by omega]
    repeat' (first | (refine k_pure rfl ?_) | (refine then_normal ?_) | (refine rr_nil ?_) | (refine in_normal ?_))
    refine ⟨⟨k - 1, ⟨by omega, rfl, ?_⟩, by omega, rfl, trivial⟩, (by (repeat (first | exact agree_mask _ _ _ | refine agree_upd rfl ?_ | refine agree_updO rfl ?_ | refine agree_overIn rfl ?_ | refine agree_maskIn rfl ?_)))⟩
    rw [← hT, take_pred hk (by omega), show ls.getD (k - 1) 0 = 0 by omega, trimL_snoc_zero]
  · refine ret1 rfl (rt rfl) ⟨?_, Ex.refl _⟩
    rw [← hT, take_pred hk (by omega), trimL_snoc (by omega), ← take_pred hk (by omega)]
    simp only [List.length_take, Nat.min_eq_left hk]; rfl
  · obtain rfl : k = 0 := by omega
    refine ret1 rfl (rt rfl) ⟨?_, Ex.refl _⟩
    rw [← hT]; rfl

/-- new limbs -/
def RetN (w : World) (ls : List Nat) (v : Value) (w' : World) : Prop := ∃ a c, v = .slice a ls.length c ∧ Limbs w' a c ls ∧ (∀ ad, a = some ad → w.heap.size ≤ ad.block) ∧ Ex w w'

theorem fromWord_spec {n : Nat} (hn : n < 18446744073709551616) (w : World) : CallsR Tryz.prog 100 #[.int .u64 (n : Int)] w (RetN w (digs n)) := by
  refine callsR_of (args := [_]) Tryz.func100 rfl rfl ?_
  repeat' (first | (refine k_pure rfl ?_) | (refine then_normal ?_) | (refine cw_seq ?_) | (refine cw_region rfl ?_) | (refine rr_nil ?_))
  refine k_conv rfl ?_
  rw [show IntKind.u32.wrap ((n : Nat) : Int) = ((n % 4294967296 : Nat) : Int) from (wrap_uns rfl).trans (by simp [IntKind.bits])]
  repeat' (first | (refine k_shrN (j := 32) rfl rfl (.inl rfl) ?_) | (refine k_pure rfl ?_))
  rw [Nat.shiftRight_eq_div_pow]
  refine k_convI rfl (wrap_u32 (by omega) (by omega)) ?_
  refine k_lit2 rfl rfl rfl rfl (fun g w1 hn1 => ⟨fun _ _ => trivial, ?_⟩)
  have hL : Limbs w1 (some ⟨g, 0, none⟩) 2 [n % 4294967296, n / 2 ^ 32] := ⟨hn1.blk.sl, by simp, by intro d hd; simp at hd; omega, by simp⟩
  refine k_call (trim_spec hL) rfl ?_
  rintro v w2 ⟨rfl, hE2⟩
  refine ⟨fun _ _ => trivial, ?_⟩
  repeat' (first | (refine k_pure rfl ?_) | (refine then_normal ?_) | (refine rr_nil ?_) | (refine cw_ret ?_))
  exact ret1 rfl (rt rfl) ⟨_, _, rfl, hL.trim.ext hE2, by intro ad e; cases e; exact hn1.lo, hn1.ex.trans hE2⟩

theorem word_spec {ls : List Nat} {a : Option Addr} {c : Nat} {w : World} (h : Limbs w a c ls) (h2 : ls.length ≤ 2) :
    CallsR Tryz.prog 109 #[.slice a ls.length c] w fun v w' => v = .int .u64 ((natOf ls : Nat) : Int) ∧ Ex w w' := by
  refine callsR_of (args := [_]) Tryz.func109 rfl rfl ?_
  repeat' (first | (refine k_pure rfl ?_) | (refine then_normal ?_) | (refine cw_seq ?_) | (refine cw_region rfl ?_) | (refine rr_nil ?_) | (refine k_len rfl ?_) | (refine cw_block ?_))
  refine cw_loop (ι := Nat) [3, 4, 5, 8, 9, 10, 11, 12, 13, 14, 15, 16, 17, 18, 19, 20] (fun k => [(8, .int .i64 (k : Int)), (3, .int .u64 ((natOf (ls.take k) : Nat) : Int))]) (fun k w' => k ≤ ls.length ∧ w' = w) (fun k => ls.length - k) 0 ⟨rfl, rfl, trivial⟩ ⟨by simp, rfl⟩ ?_
  rintro k ξ w2 ⟨hk, rfl⟩
  have hlt := natOf_lt (h.lim.take k)
  have hd := h.lim.getD k
  repeat' (first | (refine k_indexN rfl rfl (h.sl.plain (by simp; omega)) (by omega) ?_) | (refine k_loadN rfl h.sl (by omega) ?_) | (refine k_convI rfl (wrap_u64 (by omega) (by omega)) ?_) | (refine k_mulI rfl rfl (by omega) (by omega) ?_) | (refine k_pure rfl ?_) | (refine then_normal ?_) | (refine cw_seq ?_) | (refine cw_region rfl ?_) | (refine rr_nil ?_) | (refine cw_cond_dec rfl (fun hc => ?_) (fun hc => ?_)) | (refine cw_block ?_) | (refine cw_exit ?_) | (refine then_exit ?_) | (refine in_exit ?_) | (refine cw_ret ?_) | (refine cw_skip ?_))
  · refine k_shlN (j := 32 * k) rfl rfl rfl (by simp only [IntKind.bits]; omega) ?_
    have hkk : k = 0 ∨ k = 1 := by omega
    have hsh : (ls.getD k 0 <<< (32 * k)) % 2 ^ IntKind.u64.bits = ls.getD k 0 <<< (32 * k) := Nat.mod_eq_of_lt (by
      rw [Nat.shiftLeft_eq]; rcases hkk with rfl | rfl <;> simp only [IntKind.bits] <;> omega)
    have hsh2 : ls.getD k 0 <<< (32 * k) < 18446744073709551616 := by rw [Nat.shiftLeft_eq]; rcases hkk with rfl | rfl <;> omega
    have hlt' : natOf (ls.take k) < 2 ^ (32 * k) := by
      simp only [List.length_take, Nat.min_eq_left hk] at hlt
      rcases hkk with rfl | rfl <;> simpa using hlt
    rw [hsh]
    refine k_orN rfl rfl rfl (by simp only [IntKind.bits]; rcases hkk with rfl | rfl <;> omega) hsh2 ?_
    repeat' (first | (refine k_pure rfl ?_) | (refine then_normal ?_) | (refine cw_region rfl ?_) | (refine rr_nil ?_) | (refine k_addI rfl rfl (by omega) (by omega) ?_) | (refine in_normal ?_))
    refine ⟨⟨k + 1, ⟨by omega, rfl⟩, by omega, rfl, ?_, trivial⟩, (by (repeat (first | exact agree_mask _ _ _ | refine agree_upd rfl ?_ | refine agree_updO rfl ?_ | refine agree_overIn rfl ?_ | refine agree_maskIn rfl ?_)))⟩
    show Value.int .u64 _ = _
    congr 2
    have e := take_pred (ls := ls) (k := k + 1) (by omega) (by omega)
    rw [Nat.add_sub_cancel] at e
    rw [e, natOf_snoc, Nat.or_comm, ← Nat.shiftLeft_add_eq_or_of_lt hlt', Nat.shiftLeft_eq]
    simp only [List.length_take, Nat.min_eq_left hk]
    rcases hkk with rfl | rfl <;> omega
  · obtain rfl : k = ls.length := by omega
    refine ret1 rfl (rt rfl) ⟨?_, Ex.refl _⟩
    show Value.int .u64 _ = _
    rw [List.take_length]
end Go.Proofs.YthhfjagnmhhapaaGreat

namespace Go.Proofs.YthhfjagnmhhapaaGreat
open Go.W Go.LM

def sgn (neg : Bool) (n : Nat) : Int := if neg then -(n : Int) else n
abbrev intL (neg : Bool) (a : Option Addr) (n c : Nat) : List Value := [.bool neg, .slice a n c]
/-- .. and is canonical, in memory from block lo on -/
def IntC (lo : Nat) (w : World) (v : Value) (z : Int) : Prop :=
  ∃ neg a c ls, v = .agg (intL neg a ls.length c).toArray ∧ Limbs w a c ls ∧ z = sgn neg (natOf ls) ∧ Canon ls ∧ (neg = true → ls ≠ []) ∧ ∀ ad, a = some ad → lo ≤ ad.block
theorem IntC.ext {lo : Nat} {w w' : World} {v : Value} {z : Int} (h : IntC lo w v z) (e : Ex w w') : IntC lo w' v z := by obtain ⟨neg, a, c, ls, h1, h2, h3⟩ := h; exact ⟨neg, a, c, ls, h1, h2.ext e, h3⟩
theorem IntC.mono {lo lo' : Nat} {w : World} {v : Value} {z : Int} (h : IntC lo w v z) (hl : lo' ≤ lo) : IntC lo' w v z := by
  obtain ⟨neg, a, c, ls, h1, h2, h3, h4, h5, h6⟩ := h; exact ⟨neg, a, c, ls, h1, h2, h3, h4, h5, fun ad e => by have := h6 ad e; omega⟩
theorem IntC.chg {lo g : Nat} {w w' : World} {v : Value} {z : Int} (h : IntC lo w v z) (e : Chg g w w') (hg : g < lo) : IntC lo w' v z := by
  obtain ⟨neg, a, c, ls, h1, h2, h3, h4, h5, h6⟩ := h; exact ⟨neg, a, c, ls, h1, h2.chg e (fun ad ea => by have := h6 ad ea; omega), h3, h4, h5, h6⟩
def RetZ (w : World) (z : Int) (v : Value) (w' : World) : Prop := IntC w.heap.size w' v z ∧ Ex w w'

theorem build_spec {ls : List Nat} {a : Option Addr} {c lo : Nat} {w : World} (h : Limbs w a c ls) (hc : Canon ls) (hlo : ∀ ad, a = some ad → lo ≤ ad.block) (neg : Bool) :
    CallsR Tryz.prog 99 #[.bool neg, .slice a ls.length c] w fun v w' => IntC lo w' v (sgn neg (natOf ls)) ∧ Ex w w' := by
  refine callsR_of (args := [_, _]) Tryz.func99 rfl rfl ?_
  have hcan := hc
  clear hc
  repeat' (first | (refine k_alloc (fun g w1 hn => ⟨fun _ _ => trivial, ?_⟩)) | (refine k_pure rfl ?_) | (refine then_normal ?_) | (refine cw_seq ?_) | (refine cw_region rfl ?_) | (refine rr_nil ?_) | (refine k_len rfl ?_) | (refine cw_cond_dec rfl (fun hc => ?_) (fun hc => ?_)) | (refine cw_skip ?_))
  · have hb : Blk w1 g 30 (intL false none 0 0) := hn.blk
    refine k_build (cs := intL false none 0 0) rfl ?_
    refine k_storeV (n := 2) rfl rfl rfl rfl hb rfl (fun w2 hc2 hb2 => ⟨fun _ _ => trivial, ?_⟩)
    repeat' (first | (refine then_normal ?_) | (refine rr_nil ?_) | (refine cw_ret ?_) | (refine then_ret ?_))
    have hl : ls = [] := List.eq_nil_of_length_eq_zero (by omega)
    subst hl
    refine ret1 rfl (rc rfl rfl hb2) ⟨⟨false, none, 0, [], rfl, Limbs.nil _ _ _, ?_, rfl, by simp, by simp⟩, hn.ex.chg hc2 hn.lo⟩
    cases neg <;> rfl
  · have hb : Blk w1 g 30 (intL false none 0 0) := hn.blk
    refine k_build (cs := intL neg a ls.length c) rfl ?_
    refine k_storeV (n := 2) rfl rfl rfl rfl hb rfl (fun w2 hc2 hb2 => ⟨fun _ _ => trivial, ?_⟩)
    repeat' (first | (refine then_normal ?_) | (refine rr_nil ?_) | (refine cw_ret ?_))
    have hE := hn.ex.chg hc2 hn.lo
    exact ret1 rfl (rc rfl rfl hb2) ⟨⟨neg, a, c, ls, rfl, h.ext hE, rfl, hcan, fun _ e => hc (by rw [e]; rfl), hlo⟩, hE⟩

theorem small_spec {z : Int} (h1 : -9223372036854775808 ≤ z) (h2 : z ≤ 9223372036854775807) (w : World) : CallsR Tryz.prog 85 #[.int .i64 z] w (RetZ w z) := by
  refine callsR_of (args := [_]) Tryz.func85 rfl rfl ?_
  repeat' (first | (refine k_alloc (fun g w1 hn => ⟨fun _ _ => trivial, ?_⟩)) | (refine k_pure rfl ?_) | (refine then_normal ?_) | (refine cw_seq ?_) | (refine cw_region rfl ?_) | (refine rr_nil ?_) | (refine cw_cond_dec rfl (fun hc => ?_) (fun hc => ?_)) | (refine cw_skip ?_))
  · have hb : Blk w1 g 30 (intL false none 0 0) := hn.blk
    refine k_conv rfl ?_
    refine k_negU rfl ?_
    obtain ⟨n, rfl⟩ : ∃ n : Nat, z = -(n : Int) := ⟨(-z).toNat, by omega⟩
    rw [show IntKind.u64.wrap (-IntKind.u64.wrap (-(n : Int))) = ((n : Nat) : Int) by
      rw [wrap_uns rfl, wrap_uns rfl]; simp only [IntKind.bits]; omega]
    refine k_call (fromWord_spec (by omega) _) rfl ?_
    rintro v w2 ⟨a, c, rfl, hL, hf, hE2⟩
    refine ⟨fun _ _ => trivial, ?_⟩
    refine k_call (build_spec hL (digs_canon _) hf true) rfl ?_
    rintro v w3 ⟨hI, hE3⟩
    obtain ⟨neg, a', c', ls, rfl, hI'⟩ := id hI
    refine ⟨fun _ _ => trivial, ?_⟩
    refine k_storeV (n := 2) rfl rfl rfl rfl ((hb.ext hE2).ext hE3) rfl (fun w4 hc4 hb4 => ⟨fun _ _ => trivial, ?_⟩)
    repeat' (first | (refine then_normal ?_) | (refine rr_nil ?_) | (refine cw_ret ?_) | (refine then_ret ?_))
    have hl := hn.lo
    have hh := hn.hi
    refine ret1 rfl (rc rfl rfl hb4) ⟨?_, ((hn.ex.trans hE2).trans hE3).chg hc4 hl⟩
    have := (hI.chg hc4 hh).mono hn.ex.size
    rwa [digs_natOf] at this
  · have hb : Blk w1 g 30 (intL false none 0 0) := hn.blk
    obtain ⟨n, rfl⟩ : ∃ n : Nat, z = (n : Int) := ⟨z.toNat, by omega⟩
    refine k_convI rfl (wrap_u64 (by omega) (by omega)) ?_
    refine k_call (fromWord_spec (by omega) _) rfl ?_
    rintro v w2 ⟨a, c, rfl, hL, hf, hE2⟩
    refine ⟨fun _ _ => trivial, ?_⟩
    refine k_call (build_spec hL (digs_canon _) hf false) rfl ?_
    rintro v w3 ⟨hI, hE3⟩
    obtain ⟨neg, a', c', ls, rfl, hI'⟩ := id hI
    refine ⟨fun _ _ => trivial, ?_⟩
    refine k_storeV (n := 2) rfl rfl rfl rfl ((hb.ext hE2).ext hE3) rfl (fun w4 hc4 hb4 => ⟨fun _ _ => trivial, ?_⟩)
    repeat' (first | (refine then_normal ?_) | (refine rr_nil ?_) | (refine cw_ret ?_))
    have hl := hn.lo
    have hh := hn.hi
    refine ret1 rfl (rc rfl rfl hb4) ⟨?_, ((hn.ex.trans hE2).trans hE3).chg hc4 hl⟩
    have := (hI.chg hc4 hh).mono hn.ex.size
    rwa [digs_natOf] at this
end Go.Proofs.YthhfjagnmhhapaaGreat

namespace Go.Proofs.YthhfjagnmhhapaaGreat
open Go.W Go.LM

def cmpZ (m n : Nat) : Int := if m < n then -1 else if n < m then 1 else 0

theorem natOf_drop {ls : List Nat} {k : Nat} (h : k < ls.length) : natOf (ls.drop k) = ls.getD k 0 + 4294967296 * natOf (ls.drop (k + 1)) := by
  rw [List.drop_eq_getElem_cons h, natOf, List.getD_eq_getElem?_getD, List.getElem?_eq_getElem h]; rfl
theorem natOf_split (ls : List Nat) {k : Nat} (h : k ≤ ls.length) : natOf ls = natOf (ls.take k) + 4294967296 ^ k * natOf (ls.drop k) := by
  conv => lhs; rw [← List.take_append_drop k ls, natOf_append]
  simp [Nat.min_eq_left h]
theorem pow_mono {a b : Nat} (h : a ≤ b) : 4294967296 ^ a ≤ 4294967296 ^ b := Nat.pow_le_pow_right (by decide) h
theorem lt_of_len {a b : List Nat} (ha : Lim a) (hb : Canon b) (h : a.length < b.length) : natOf a < natOf b := by
  have h1 := natOf_lt ha
  have h2 := canon_ge hb (by intro e; rw [e] at h; simp at h)
  have := pow_mono (show a.length ≤ b.length - 1 by omega)
  omega
theorem lt_of_digit {a b : List Nat} {i : Nat} (ha : Lim a) (hl : a.length = b.length) (hi : i < a.length) (he : natOf (a.drop (i + 1)) = natOf (b.drop (i + 1))) (h : a.getD i 0 < b.getD i 0) : natOf a < natOf b := by
  rw [natOf_split a (k := i) (by omega), natOf_split b (k := i) (by omega), natOf_drop (ls := a) hi, natOf_drop (ls := b) (k := i) (by omega), he]
  have h1 := natOf_lt (ha.take i)
  simp only [List.length_take, Nat.min_eq_left (Nat.le_of_lt hi)] at h1
  have h2 : 4294967296 ^ i * (a.getD i 0 + 1) ≤ 4294967296 ^ i * b.getD i 0 := Nat.mul_le_mul_left _ h
  rw [Nat.mul_add, Nat.mul_add]
  rw [Nat.mul_add] at h2
  omega

theorem mulNat_small {la lb : List Nat} {a b : Option Addr} {c d : Nat} {w : World} (ha : Limbs w a c la) (hb : Limbs w b d lb) (h2 : la.length ≤ 1) (h3 : lb.length ≤ 1) :
    CallsR Tryz.prog 101 #[.slice a la.length c, .slice b lb.length d] w (RetN w (digs (natOf la * natOf lb))) := by
  have h64a : natOf la < 4294967296 := by
    have := natOf_lt ha.lim
    have := pow_mono (a := la.length) (b := 1) h2
    omega
  have h64b : natOf lb < 4294967296 := by
    have := natOf_lt hb.lim
    have := pow_mono (a := lb.length) (b := 1) h3
    omega
  have hm : natOf la * natOf lb < 18446744073709551616 := by
    have : natOf la * natOf lb ≤ 4294967295 * 4294967295 := Nat.mul_le_mul (by omega) (by omega)
    omega
  refine callsR_of (args := [_, _]) Tryz.func101 rfl rfl ?_
  repeat' (first | (refine k_pure rfl ?_) | (refine then_normal ?_) | (refine cw_seq ?_) | (refine cw_region rfl ?_) | (refine rr_nil ?_) | (refine k_len rfl ?_) | (refine g_run rfl rfl ?_) | (refine g_skip rfl rfl ?_) | (refine g_dec_t rfl rfl (fun hc => ?_) (fun hc => ?_)) | (refine k_addI rfl rfl (by omega) (by omega) ?_) | (refine cw_cond_false rfl ?_) | (refine cw_cond_dec rfl (fun hc => ?_) (fun hc => ?_)) | (refine cw_skip ?_))
  all_goals try (exfalso; omega)
  refine k_call (word_spec ha (by omega)) rfl ?_
  rintro v w2 ⟨rfl, hE2⟩
  refine ⟨fun _ _ => trivial, ?_⟩
  repeat' (first | (refine k_pure rfl ?_))
  refine k_call (word_spec (hb.ext hE2) (by omega)) rfl ?_
  rintro v w3 ⟨rfl, hE3⟩
  refine ⟨fun _ _ => trivial, ?_⟩
  refine k_mul rfl rfl ?_
  rw [← Int.natCast_mul, wrap_u64 (by omega) (by omega)]
  refine k_call (fromWord_spec hm _) rfl ?_
  rintro v w5 ⟨a5, c5, rfl, hL5, hf5, hE5⟩
  refine ⟨fun _ _ => trivial, ?_⟩
  repeat' (first | (refine k_pure rfl ?_) | (refine then_normal ?_) | (refine rr_nil ?_) | (refine cw_ret ?_) | (refine then_ret ?_))
  have hE := hE2.trans hE3
  have s1 := hE.size
  exact ret1 rfl (rt rfl) ⟨a5, c5, rfl, hL5, fun ad e => by have := hf5 ad e; omega, hE.trans hE5⟩
end Go.Proofs.YthhfjagnmhhapaaGreat

namespace Go.Proofs.YthhfjagnmhhapaaGreat
open Go.W Go.LM

theorem canon_len {ls : List Nat} (hc : Canon ls) {k : Nat} (h : natOf ls < 4294967296 ^ k) : ls.length ≤ k := by
  by_cases hne : ls = []
  · subst hne; simp
  · have h1 := canon_ge hc hne
    rcases Nat.lt_or_ge k ls.length with h2 | h2
    · have := pow_mono (show k ≤ ls.length - 1 by omega); omega
    · exact h2
theorem Limbs.trim_eq {w : World} {a : Option Addr} {c : Nat} {ls : List Nat} (h : Limbs w a c ls) (hc : Canon ls) :
    CallsR Tryz.prog 102 #[.slice a ls.length c] w fun v w' => v = .slice a ls.length c ∧ Ex w w' := by
  have := trim_spec h
  unfold Canon at hc
  rwa [hc] at this
theorem sgn_natAbs (neg : Bool) (n : Nat) : (sgn neg n).natAbs = n := by unfold sgn; split <;> simp

end Go.Proofs.YthhfjagnmhhapaaGreat

/- Arithmetic of lists of limbs. No program in sight. -/
namespace Go.LM
theorem natOf_set : ∀ {l : List Nat} {k v : Nat}, k < l.length → natOf (l.set k v) + l.getD k 0 * 4294967296 ^ k = natOf l + v * 4294967296 ^ k
  | [], k, v, h => by simp at h
  | d :: l, 0, v, _ => by simp [natOf]; omega
  | d :: l, k + 1, v, h => by
    have ih := natOf_set (l := l) (k := k) (v := v) (by simpa using h)
    simp only [List.set_cons_succ, natOf, List.getD_cons_succ, Nat.pow_succ]
    have e1 : l.getD k 0 * (4294967296 ^ k * 4294967296) = 4294967296 * (l.getD k 0 * 4294967296 ^ k) := by rw [← Nat.mul_assoc, Nat.mul_comm]
    have e2 : v * (4294967296 ^ k * 4294967296) = 4294967296 * (v * 4294967296 ^ k) := by rw [← Nat.mul_assoc, Nat.mul_comm]
    rw [e1, e2]
    omega
theorem Lim.set {l : List Nat} (h : Lim l) {k v : Nat} (hv : v < 4294967296) : Lim (l.set k v) := fun d hd => by
  rcases List.mem_or_eq_of_mem_set hd with h' | h'
  · exact h d h'
  · omega
theorem Lim.zeros (n : Nat) : Lim (List.replicate n 0) := fun d hd => by rw [List.eq_of_mem_replicate hd]; decide
theorem getD_set_ne' {l : List Nat} {k j v : Nat} (h : k ≠ j) : (l.set k v).getD j 0 = l.getD j 0 := by simp [List.getD_eq_getElem?_getD, List.getElem?_set_ne h]
theorem take_succ_getD {l : List Nat} {k : Nat} (h : k < l.length) : l.take (k + 1) = l.take k ++ [l.getD k 0] := by
  rw [List.take_succ_eq_append_getElem h, List.getD_eq_getElem?_getD, List.getElem?_eq_getElem h]; rfl
theorem natOf_take_succ {l : List Nat} {k : Nat} (h : k < l.length) : natOf (l.take (k + 1)) = natOf (l.take k) + l.getD k 0 * 4294967296 ^ k := by
  rw [take_succ_getD h, natOf_snoc]
  simp only [List.length_take, Nat.min_eq_left (Nat.le_of_lt h)]
  rw [Nat.mul_comm]
theorem mul_lt_B2 {x y c r : Nat} (hx : x < 4294967296) (hy : y < 4294967296) (hc : c < 4294967296) (hr : r < 4294967296) : c + (x * y + r) < 18446744073709551616 := by
  have : x * y ≤ 4294967295 * 4294967295 := Nat.mul_le_mul (by omega) (by omega)
  omega
/-- one limb of a row of a product -/
theorem row_step {P : List Nat} {k c x y N : Nat} (hk : k < P.length) (h : natOf P + c * 4294967296 ^ k = N) :
    natOf (P.set k ((c + (x * y + P.getD k 0)) % 4294967296)) + (c + (x * y + P.getD k 0)) / 4294967296 * 4294967296 ^ (k + 1) = N + x * y * 4294967296 ^ k := by
  have h1 := natOf_set (l := P) (v := (c + (x * y + P.getD k 0)) % 4294967296) hk
  generalize x * y = m at *
  generalize P.getD k 0 = r at *
  have h2 : (c + (m + r)) % 4294967296 * 4294967296 ^ k + (c + (m + r)) / 4294967296 * 4294967296 ^ (k + 1) = c * 4294967296 ^ k + m * 4294967296 ^ k + r * 4294967296 ^ k := by
    rw [Nat.pow_succ, Nat.mul_comm (4294967296 ^ k) 4294967296, ← Nat.mul_assoc, ← Nat.add_mul, ← Nat.add_mul, ← Nat.add_mul]
    congr 1
    omega
  omega
end Go.LM

namespace Go.Proofs.YthhfjagnmhhapaaGreat
open Go.W Go.LM

theorem Limbs.of_blk {w : World} {g c : Nat} {Tb : Nat} {ls : List Nat} (h : Blk w g Tb (limbsL ls)) (hc : ls.length ≤ c) (hl : Lim ls) (hn : ls.length ≤ 17592186044416) : Limbs w (some ⟨g, 0, none⟩) c ls := ⟨h.sl, hc, hl, hn⟩

set_option maxHeartbeats 1000000 in
theorem mulNat_spec {la lb : List Nat} {a b : Option Addr} {c d : Nat} {w : World} (ha : Limbs w a c la) (hb : Limbs w b d lb) (hlen : la.length + lb.length ≤ 17592186044416) :
    CallsR Tryz.prog 101 #[.slice a la.length c, .slice b lb.length d] w fun v w' => ∃ ls, natOf ls = natOf la * natOf lb ∧ Canon ls ∧ ls.length ≤ la.length + lb.length + 2 ∧ RetN w ls v w' := by
  by_cases hsm : la.length ≤ 1 ∧ lb.length ≤ 1
  · refine (mulNat_small ha hb hsm.1 hsm.2).mono fun v w' h => ⟨_, ?_, digs_canon _, ?_, h⟩
    · rw [digs_natOf]
    · have := digs_len (natOf la * natOf lb); omega
  have hla := ha.len
  have hlb := hb.len
  refine callsR_of (args := [_, _]) Tryz.func101 rfl rfl ?_
  repeat' (first | (refine k_addJ rfl rfl (by omega) ?_) | (refine k_makeN rfl rfl (by omega) (by omega) (fun g w1 hn => ⟨fun _ _ => trivial, ?_⟩)) | (refine k_pure rfl ?_) | (refine then_normal ?_) | (refine cw_seq ?_) | (refine cw_region rfl ?_) | (refine rr_nil ?_) | (refine k_len rfl ?_) | (refine g_run rfl rfl ?_) | (refine g_skip rfl rfl ?_) | (refine g_dec_t rfl rfl (fun hc => ?_) (fun hc => ?_)) | (refine cw_cond_false rfl ?_) | (refine cw_cond_dec rfl (fun hc => ?_) (fun hc => ?_)) | (refine cw_block ?_) | (refine cw_skip ?_))
  all_goals try (exfalso; omega)
  all_goals
    refine cw_loop (ι := Nat × List Nat) [6, 7, 8, 9, 10, 11, 34, 35, 36, 37, 38, 39, 40, 41, 42, 43, 44, 45, 46, 47, 48, 49, 50, 51, 52, 53, 54, 55, 56, 57, 58, 59, 60, 61, 62, 63, 64, 65, 66, 67, 68, 69, 70, 71, 72, 73, 74, 75, 76, 77, 78, 79, 80, 81, 82, 83] (fun s => [(34, .int .i64 (s.1 : Int))])
      (fun s w' => s.1 ≤ la.length ∧ Ex w w' ∧ Blk w' g 103 (limbsL s.2) ∧ s.2.length = la.length + lb.length ∧ Lim s.2 ∧ natOf s.2 = natOf (la.take s.1) * natOf lb ∧ ∀ j, s.1 + lb.length ≤ j → s.2.getD j 0 = 0) (fun s => la.length - s.1)
      (0, List.replicate (la.length + lb.length) 0) ⟨rfl, trivial⟩ ⟨by simp, hn.ex, hn.blk, by simp, Lim.zeros _, by simp [natOf_zeros, natOf], fun j _ => by simp [List.getD_eq_getElem?_getD, List.getElem?_replicate]; split <;> rfl⟩ ?_
    rintro ⟨i, ps⟩ ξ w2 ⟨hi, hE, hbk, hpl, hpL, hpn, hpz⟩
    simp only at hi hbk hpl hpL hpn hpz
    show CW _ _ _ _ (over [(34, .int .i64 (i : Int))] _) w2
    have hxl := ha.lim.getD i
    repeat' (first | (refine k_indexN rfl rfl (ha.sl.plain (by simp; omega)) (by omega) ?_) | (refine k_loadN rfl (ha.sl.ext hE) (by omega) ?_) | (refine k_pure rfl ?_) | (refine then_normal ?_) | (refine cw_seq ?_) | (refine cw_region rfl ?_) | (refine rr_nil ?_) | (refine k_len rfl ?_) | (refine k_addI rfl rfl (by omega) (by omega) ?_) | (refine cw_cond_dec rfl (fun hc => ?_) (fun hc => ?_)) | (refine cw_block ?_) | (refine cw_exit ?_) | (refine then_exit ?_) | (refine in_exit ?_) | (refine cw_skip ?_))
    · have h0 : la.getD i 0 = 0 := by omega
      refine ⟨⟨(i + 1, ps), ⟨by simp only; omega, hE, hbk, hpl, hpL, ?_, fun j hj => hpz j (by simp only at hj; omega)⟩, by simp only; omega, rfl, trivial⟩, (by (repeat (first | exact agree_mask _ _ _ | refine agree_upd rfl ?_ | refine agree_updO rfl ?_ | refine agree_overIn rfl ?_ | refine agree_maskIn rfl ?_)))⟩
      simp only
      rw [hpn, natOf_take_succ (by omega), h0, Nat.zero_mul, Nat.add_zero]
    · refine k_sliceLH (l := i) (h := i + lb.length + 1) rfl rfl (by show Value.int .i64 ((i : Int) + (lb.length : Int) + 1) = _; rfl) (by omega) (by omega) (by omega) ?_
      rw [Nat.zero_add, Nat.mul_one, show i + lb.length + 1 - i = lb.length + 1 by omega]
      repeat' (first | (refine k_pure rfl ?_) | (refine then_normal ?_) | (refine cw_seq ?_) | (refine cw_region rfl ?_) | (refine rr_nil ?_) | (refine k_len rfl ?_) | (refine cw_block ?_))
      refine cw_loop (ι := Nat × List Nat × Nat) [9, 10, 11, 51, 52, 53, 54, 55, 56, 57, 58, 59, 60, 61, 62, 63, 64, 65, 66, 67, 68, 69, 70, 71, 72, 73, 74, 75, 76] (fun s => [(51, .int .i64 (s.1 : Int)), (9, .int .u64 (s.2.2 : Int))])
        (fun s w' => s.1 ≤ lb.length ∧ Ex w w' ∧ Blk w' g 103 (limbsL s.2.1) ∧ s.2.1.length = la.length + lb.length ∧ Lim s.2.1 ∧ s.2.2 < 4294967296 ∧ natOf s.2.1 + s.2.2 * 4294967296 ^ (i + s.1) = natOf ps + la.getD i 0 * natOf (lb.take s.1) * 4294967296 ^ i ∧ ∀ j, i + s.1 ≤ j → s.2.1.getD j 0 = ps.getD j 0) (fun s => lb.length - s.1)
        (0, ps, 0) ⟨rfl, rfl, trivial⟩ ⟨by simp, hE, hbk, hpl, hpL, by simp, by simp [natOf], fun j _ => rfl⟩ ?_
      rintro ⟨j, qs, cy⟩ ξ2 w3 ⟨hj, hE3, hb3, hql, hqL, hcy, hqn, hqz⟩
      simp only at hj hb3 hql hqL hcy hqn hqz
      show CW _ _ _ _ (over [(51, .int .i64 (j : Int)), (9, .int .u64 (cy : Int))] _) w3
      have hyl := hb.lim.getD j
      have hrl := hqL.getD (i + j)
      have hfit := mul_lt_B2 hxl hyl hcy hrl
      repeat' (first | (refine k_indexN rfl rfl (hb.sl.plain (by simp; omega)) (by omega) ?_) | (refine k_loadN rfl (hb.sl.ext hE3) (by omega) ?_) | (refine k_indexN rfl rfl ⟨_, _, rfl⟩ (by omega) ?_) | (refine k_loadNo rfl hb3 (by omega) ?_) | (refine k_up rfl (by assumption) ?_) | (refine k_mulN rfl rfl (by omega) ?_) | (refine k_addN rfl rfl (by omega) ?_) | (refine k_down rfl ?_) | (refine k_shr32 rfl rfl ?_) | (refine k_storeNo rfl rfl hb3 (by omega) (fun w4 hc4 hb4 => ⟨fun _ _ => trivial, ?_⟩)) | (refine k_pure rfl ?_) | (refine then_normal ?_) | (refine cw_seq ?_) | (refine cw_region rfl ?_) | (refine rr_nil ?_) | (refine k_len rfl ?_) | (refine k_addI rfl rfl (by omega) (by omega) ?_) | (refine cw_cond_dec rfl (fun hc => ?_) (fun hc => ?_)) | (refine cw_block ?_) | (refine cw_exit ?_) | (refine then_exit ?_) | (refine in_exit ?_) | (refine in_normal ?_) | (refine cw_skip ?_))
      · refine ⟨⟨(j + 1, qs.set (i + j) ((cy + (la.getD i 0 * lb.getD j 0 + qs.getD (i + j) 0)) % 4294967296), (cy + (la.getD i 0 * lb.getD j 0 + qs.getD (i + j) 0)) / 4294967296), ⟨by simp only; omega, hE3.chg hc4 hn.lo, hb4, by simp [hql], hqL.set (Nat.mod_lt _ (by decide)), by simp only; omega, ?_, ?_⟩, by simp only; omega, rfl, rfl, trivial⟩, (by (repeat (first | exact agree_mask _ _ _ | refine agree_upd rfl ?_ | refine agree_updO rfl ?_ | refine agree_overIn rfl ?_ | refine agree_maskIn rfl ?_)))⟩
        · have := row_step (x := la.getD i 0) (y := lb.getD j 0) (show i + j < qs.length by omega) hqn
          simp only
          rw [show i + (j + 1) = i + j + 1 by omega, this, natOf_take_succ (by omega), Nat.mul_add, Nat.add_mul, Nat.add_assoc, Nat.pow_add]
          congr 2
          rw [← Nat.mul_assoc, Nat.mul_assoc, Nat.mul_comm (4294967296 ^ i), ← Nat.mul_assoc, Nat.mul_assoc (la.getD i 0)]
        · intro k hk
          simp only at hk ⊢
          rw [getD_set_ne' (by omega), hqz k (by omega)]
      · obtain rfl : j = lb.length := by omega
        have hz : qs.getD (i + lb.length) 0 = 0 := by rw [hqz _ (Nat.le_refl _)]; exact hpz _ (Nat.le_refl _)
        skip
        rw [Nat.mod_eq_of_lt hcy] at hb4
        refine ⟨⟨(i + 1, qs.set (i + lb.length) cy), ⟨by simp only; omega, hE3.chg hc4 hn.lo, hb4, by simp [hql], hqL.set hcy, ?_, ?_⟩, by simp only; omega, rfl, trivial⟩, (by (repeat (first | exact agree_mask _ _ _ | refine agree_upd rfl ?_ | refine agree_updO rfl ?_ | refine agree_overIn rfl ?_ | refine agree_maskIn rfl ?_)))⟩
        · have h1 := natOf_set (l := qs) (k := i + lb.length) (v := cy) (by omega)
          rw [hz, Nat.zero_mul, Nat.add_zero] at h1
          simp only
          rw [h1, hqn, hpn, List.take_length, natOf_take_succ (by omega), Nat.add_mul]
          congr 1
          rw [Nat.mul_assoc, Nat.mul_assoc, Nat.mul_comm (natOf lb)]
        · intro k hk
          simp only at hk ⊢
          rw [getD_set_ne' (by omega), hqz k (by omega), hpz k (by omega)]
    · obtain rfl : i = la.length := by omega
      rw [List.take_length] at hpn
      have hL := Limbs.of_blk (c := la.length + lb.length) hbk (by omega) hpL (by omega)
      have hcall := trim_spec hL
      rw [hpl] at hcall
      skip
      refine k_call hcall rfl ?_
      rintro v w3 ⟨rfl, hE3⟩
      refine ⟨fun _ _ => trivial, ?_⟩
      repeat' (first | (refine k_pure rfl ?_) | (refine then_normal ?_) | (refine rr_nil ?_) | (refine cw_ret ?_))
      refine ret1 rfl (rt rfl) ⟨trimL ps, by rw [trimL_natOf, hpn], canon_trimL _, by have := trimL_len ps; omega, _, _, rfl, hL.trim.ext hE3, fun ad e => by cases e; exact hn.lo, hE.trans hE3⟩
end Go.Proofs.YthhfjagnmhhapaaGreat

namespace Go.Proofs.YthhfjagnmhhapaaGreat
open Go.W Go.LM

theorem mul_spec {lo lo' k l : Nat} {v1 v2 : Value} {x y : Int} {w : World} (h1 : IntC lo w v1 x) (h2 : IntC lo' w v2 y) (hx : x.natAbs < 4294967296 ^ k) (hy : y.natAbs < 4294967296 ^ l) (hkl : k + l ≤ 17592186044416) :
    CallsR Tryz.prog 86 #[v1, v2] w (RetZ w (x * y)) := by
  obtain ⟨n1, a1, c1, l1, rfl, hL1, rfl, hc1, _, _⟩ := h1
  obtain ⟨n2, a2, c2, l2, rfl, hL2, rfl, hc2, _, _⟩ := h2
  rw [sgn_natAbs] at hx hy
  refine callsR_of (args := [_, _]) Tryz.func86 rfl rfl ?_
  refine cw_seq ?_
  refine cw_region rfl ?_
  refine k_boxA rfl (fun g2 w2 hn2 => ⟨fun _ _ => trivial, ?_⟩)
  refine k_boxA rfl (fun g3 w3 hn3 => ⟨fun _ _ => trivial, ?_⟩)
  refine k_alloc (fun g4 w4 hn4 => ⟨fun _ _ => trivial, ?_⟩)
  have hb2 := (hn2.blk.ext hn3.ex).ext hn4.ex
  have hb3 := hn3.blk.ext hn4.ex
  have hb4 : Blk w4 g4 30 (intL false none 0 0) := hn4.blk
  have hE := (hn2.ex.trans hn3.ex).trans hn4.ex
  have l4 := hn4.lo
  have l4' := hn4.hi
  have s3 := (hn2.ex.trans hn3.ex).size
  repeat' (first | (refine then_normal ?_) | (refine cw_seq ?_) | (refine rr_nil ?_))
  refine cw_draw (late := [13]) (plan := [(0, none), (1, none), (2, none), (3, none), (4, none), (5, none), (6, none), (8, none), (9, none), (7, some true), (10, some true), (11, some true), (12, some true), (13, some false)]) (fun w' => Blk w' g2 30 (intL n1 a1 l1.length c1) ∧ Blk w' g3 30 (intL n2 a2 l2.length c2)) mixed (by kernel_rfl) ⟨hb2.drew, hb3.drew⟩ ?_
  repeat' (first | (refine k_loadC rfl (fun _ h => h.1) rfl ?_) | (refine k_loadC rfl (fun _ h => h.2) rfl ?_) | (refine k_fieldAddr rfl ?_) | (refine k_neqB rfl rfl ?_))
  refine k_call ((hL1.ext hE.drew).trim_eq hc1) rfl ?_
  rintro v w5 ⟨rfl, hE5⟩
  refine ⟨fun _ h => ⟨h.1.ext hE5, h.2.ext hE5⟩, ?_⟩
  refine k_call ((hL2.ext (hE.drew.trans hE5)).trim_eq hc2) rfl ?_
  rintro v w6 ⟨rfl, hE6⟩
  refine ⟨fun _ h => ⟨h.1.ext hE6, h.2.ext hE6⟩, ?_⟩
  have hE6' := (hE.drew.trans hE5).trans hE6
  have hk1 := canon_len hc1 hx
  have hk2 := canon_len hc2 hy
  refine k_call (mulNat_spec (hL1.ext hE6') (hL2.ext hE6') (by omega)) rfl ?_
  rintro v w7 ⟨l7, hn7, hcn7, hln7, a7, c7, rfl, hL7, hf7, hE7⟩
  refine ⟨fun _ h => ⟨h.1.ext hE7, h.2.ext hE7⟩, ?_⟩
  refine k_call (build_spec hL7 hcn7 hf7 _) rfl ?_
  rintro v w8 ⟨hI, hE8⟩
  refine ⟨fun _ h => ⟨h.1.ext hE8, h.2.ext hE8⟩, ?_⟩
  obtain ⟨neg, a', c', ls, rfl, hI'⟩ := id hI
  refine k_storeV (n := 2) rfl rfl rfl rfl ((((hb4.drew.ext hE5).ext hE6).ext hE7).ext hE8) rfl (fun w9 hc9 hb9 => ⟨fun h => absurd h (by decide), ?_⟩)
  repeat' (first | (refine then_normal ?_) | (refine rr_nil ?_) | (refine cw_ret ?_))
  have s5 := (hE5.trans hE6).size
  have s4 : w4.drew.heap.size = w4.heap.size := rfl
  refine ret1 rfl (rc rfl rfl hb9) ⟨?_, ((hE6'.trans hE7).trans hE8).chg hc9 (by omega)⟩
  have hr := (hI.chg hc9 (by omega)).mono (lo' := w.heap.size) (by have := hE6'.size; omega)
  rw [hn7] at hr
  have e : sgn (!(n1 == n2)) (natOf l1 * natOf l2) = sgn n1 (natOf l1) * sgn n2 (natOf l2) := by
    unfold sgn; cases n1 <;> cases n2 <;> simp [Int.neg_mul, Int.mul_neg]
  rwa [e] at hr

end Go.Proofs.YthhfjagnmhhapaaGreat

namespace Go.Proofs.YthhfjagnmhhapaaGreat
open Go.W Go.PM Go.LM

/-- the block of a number's limbs -/
def blkS (v : Value) : Option Nat := match v with
  | .slice (some ad) (_ + 1) _ => some ad.block
  | _ => none
def blkOf (v : Value) : Option Nat := match v with
  | .agg cs => (cs[1]?).bind blkS
  | _ => none
def Off (g : Nat) (v : Value) : Prop := blkOf v ≠ some g
theorem IntC.out {lo : Nat} {w : World} {v : Value} {z : Int} (h : IntC lo w v z) : ∃ cs : List Value, v = .agg cs.toArray ∧ cs.length = 2 ∧ cs.all Value.oneCell' = true := by
  obtain ⟨neg, a, c, ls, rfl, _⟩ := h
  exact ⟨_, rfl, rfl, rfl⟩
theorem IntC.lo {lo : Nat} {w : World} {v : Value} {z : Int} (h : IntC lo w v z) {g : Nat} (hg : blkOf v = some g) : lo ≤ g ∧ g < w.heap.size := by
  obtain ⟨neg, a, c, ls, rfl, hl, _, _, _, h6⟩ := h
  cases a with
  | none => simp [blkOf, blkS] at hg
  | some ad => cases ls with
    | nil => simp [blkOf, blkS] at hg
    | cons x t =>
      simp [blkOf, blkS] at hg
      subst hg
      refine ⟨h6 ad rfl, ?_⟩
      have := World.block_lt_of_cell? w _ (hl.sl.get 0 (by simp))
      exact this
theorem IntC.off_lo {lo g : Nat} {w : World} {v : Value} {z : Int} (h : IntC lo w v z) (hg : g < lo) : Off g v := fun e => by have := (h.lo e).1; omega
theorem IntC.off_hi {lo g : Nat} {w : World} {v : Value} {z : Int} (h : IntC lo w v z) (hg : w.heap.size ≤ g) : Off g v := fun e => by have := (h.lo e).2; omega
theorem IntC.chgO {lo g : Nat} {w w' : World} {v : Value} {z : Int} (h : IntC lo w v z) (e : Chg g w w') (hg : Off g v) : IntC lo w' v z := by
  obtain ⟨neg, a, c, ls, rfl, h2, h3, h4, h5, h6⟩ := h
  cases ls with
  | nil => exact ⟨neg, a, c, [], rfl, Limbs.nil _ _ _, h3, h4, h5, h6⟩
  | cons x t => exact ⟨neg, a, c, x :: t, rfl, h2.chg e (fun ad ea => by subst ea; intro e2; exact hg (by simp [blkOf, blkS, e2])), h3, h4, h5, h6⟩
theorem IntC.zero (lo : Nat) (w : World) : IntC lo w (.agg (intL false none 0 0).toArray) 0 := ⟨false, none, 0, [], rfl, Limbs.nil _ _ _, rfl, rfl, by simp, by simp⟩

end Go.Proofs.YthhfjagnmhhapaaGreat

namespace Go.Proofs.YthhfjagnmhhapaaGreat
open Go.W Go.PM
theorem chOrder_spec {w : World} {n N0 first : Nat} {G : List Int → Prop} {base : List Int} {c : CH} {ls : List Lv} (hn11 : n ≤ 11) (hC : ChAt w n c ls) (hG : Gd n G base N0 ls) (hN : N0 ≤ 1000000) (hf : first ≤ ls.length) :
    CallsR Tryz.prog 58 #[.pointer (some ⟨c.cb, 0, none⟩), .int .i64 (first : Int)] w (RetZ w ((prodL (ls.drop first) : Nat) : Int)) := by
  refine callsR_of (args := [_, _]) Tryz.func58 rfl rfl ?_
  have hstr := hC.str
  unfold chL at hstr
  have hml := hC.mok.1
  have hpl := prod_le hG.links hn11
  have hll := hG.ll
  have hpd : ∀ i, prodL (ls.drop i) ≤ 39916800 ∧ 1 ≤ prodL (ls.drop i) := fun i => ⟨prod_le (hG.links.drop i) hn11, prodL_pos (hG.links.drop i)⟩
  repeat' (first | (refine k_allocA (vs := intL false none 0 0) (fun g4 w1 hn1 => ⟨fun _ _ => trivial, ?_⟩)) | (refine then_normal ?_) | (refine cw_seq ?_) | (refine cw_region rfl ?_) | (refine rr_nil ?_))
  refine k_call (small_spec (z := 1) (by omega) (by omega) _) rfl ?_
  rintro v w2 ⟨hz2, hE2⟩
  refine ⟨fun _ _ => trivial, ?_⟩
  obtain ⟨cs0, rfl, hl0, ho0⟩ := hz2.out
  refine k_allocA (vs := intL false none 0 0) (fun g5 w3 hn3 => ⟨fun _ _ => trivial, ?_⟩)
  refine k_storeV (n := 2) rfl rfl hl0 ho0 hn3.blk rfl (fun w4 hc4 hb4 => ⟨fun _ _ => trivial, ?_⟩)
  have z1 := hn1.lo; have z1' := hn1.hi; have y1 := hn1.ex.size; have y2 := hE2.size; have z3 := hn3.lo; have z3' := hn3.hi; have y3 := hn3.ex.size
  have y4 : w3.heap.size = w4.heap.size := hc4.size.symm
  have hEw4 : Ex w w4 := ((hn1.ex.trans hE2).trans hn3.ex).chg hc4 (by omega)
  have hoff4 : Off g5 (.agg cs0.toArray) := hz2.off_hi hn3.lo
  have hz4 : IntC w1.heap.size w4 (.agg cs0.toArray) 1 := ((hz2.ext hn3.ex).chgO hc4 hoff4).mono (by omega)
  have hb44 := ((hn1.blk.ext hE2).ext hn3.ex).chg hc4 (by omega)
  repeat' (first | (refine k_pure rfl ?_) | (refine then_normal ?_) | (refine cw_seq ?_) | (refine cw_region rfl ?_) | (refine rr_nil ?_) | (refine cw_block ?_))
  refine cw_loop (ι := Nat × List Value × Nat) [6, 9, 10, 11, 12, 13, 14, 15, 16, 17, 18, 19, 20, 21, 22, 23, 24, 25, 26, 27, 28, 29, 30] (fun s => [(6, .int .i64 (s.1 : Int))]) (fun s w' => first ≤ s.1 ∧ s.1 ≤ ls.length ∧ Ex w w' ∧ Blk w' g4 30 (intL false none 0 0) ∧ Blk w' g5 30 s.2.1 ∧ s.2.1.length = 2 ∧ s.2.1.all Value.oneCell' = true ∧ IntC w1.heap.size w' (.agg s.2.1.toArray) (s.2.2 : Int) ∧ Off g5 (.agg s.2.1.toArray) ∧ s.2.2 * prodL (ls.drop s.1) = prodL (ls.drop first)) (fun s => ls.length - s.1)
    (first, cs0, 1) ⟨rfl, trivial⟩ ⟨Nat.le_refl _, hf, hEw4, hb44, hb4, hl0, ho0, hz4, hoff4, by simp⟩ ?_
  rintro ⟨i, cs, P⟩ ξ w5 ⟨hi1, hi2, hE5, hb45, hb5, hcl, hco, hz5, hoff5, hP⟩
  simp only at hi1 hi2 hb5 hcl hco hz5 hoff5 hP
  show CW _ _ _ _ (over [(6, .int .i64 (i : Int))] _) w5
  have hC5 := hC.ext hE5
  have hstr5 := hstr.ext hE5
  have hPb : P ≤ 39916800 := Nat.le_trans (Nat.le_mul_of_pos_right _ (hpd i).2) (by rw [hP]; exact (hpd first).1)
  repeat' (first | (refine k_loadC rfl hstr5 rfl ?_) | (refine k_lenMap mapT rfl hC5.map ?_) | (refine k_pure rfl ?_) | (refine then_normal ?_) | (refine cw_seq ?_) | (refine cw_region rfl ?_) | (refine rr_nil ?_) | (refine k_fieldAddr rfl ?_) | (refine cw_cond_dec rfl (fun hc => ?_) (fun hc => ?_)) | (refine cw_block ?_) | (refine cw_exit ?_) | (refine then_exit ?_) | (refine in_exit ?_) | (refine cw_skip ?_))
  · have hil : i < ls.length := by omega
    obtain ⟨j, hj, hfd, hjm⟩ := hC.mok.find hil
    have hLs := (hC5.lv i hil).str
    have ok := hG.ok hil
    have hol := ok.orb_le
    refine cw_draw (late := [13]) (plan := [(0, none), (1, none), (2, none), (3, none), (4, none), (5, none), (6, none), (7, none), (8, none), (9, none), (10, none), (11, some true), (12, some true), (13, some false)]) (fun w' => Blk w' g5 30 cs ∧ Blk w' c.cb 62 [.int .i64 (n : Int), .map (some c.mb), .slice c.va ls.length c.vc, .int .u64 (c.st : Int)] ∧ MapAt w' c.mb c.m ∧ Blk w' (c.hs i).blk 64 (lvL n (c.hs i) (ls.getD i lv0))) mixed (by kernel_rfl) ⟨hb5.drew, hstr5.drew, hC5.drew.map, hLs.drew⟩ ?_
    repeat' (first | (refine k_loadCA (Tb := 30) rfl (fun _ h => h.1) hcl ?_) | (refine k_loadC (Tb := 62) rfl (fun _ h => h.2.1) rfl ?_) | (refine k_lookup mapT intT rfl rfl (fun _ h => h.2.2.1) hfd ?_) | (refine k_loadC (Tb := 64) rfl (fun _ h => h.2.2.2) rfl ?_) | (refine k_pure rfl ?_) | (refine k_len rfl ?_) | (refine k_fieldAddr rfl ?_))
    refine k_call (small_spec (z := ((ls.getD i lv0).orb.length : Int)) (by omega) (by omega) _) rfl ?_
    rintro v w6 ⟨hz6, hE6⟩
    refine ⟨fun _ h => ⟨h.1.ext hE6, h.2.1.ext hE6, h.2.2.1.ext hE6, h.2.2.2.ext hE6⟩, ?_⟩
    replace hE6 : Ex w5 w6 := (Ex.refl w5).drew.trans hE6
    skip
    refine k_call (mul_spec (k := 1) (l := 1) (hz5.ext hE6) hz6 (by simp only [Int.natAbs_natCast]; omega) (by simp only [Int.natAbs_natCast]; omega) (by omega)) rfl ?_
    rintro v w7 ⟨hz7, hE7⟩
    refine ⟨fun _ h => ⟨h.1.ext hE7, h.2.1.ext hE7, h.2.2.1.ext hE7, h.2.2.2.ext hE7⟩, ?_⟩
    obtain ⟨ps, rfl, hpl7, hpo7⟩ := hz7.out
    have y6 := hE6.size
    have g5l := hb5.lt
    have y5 := hE5.size
    have hoff7 : Off g5 (.agg ps.toArray) := hz7.off_lo (by omega)
    repeat' (first | (refine k_storeV (n := 2) rfl rfl hpl7 hpo7 ((hb5.ext hE6).ext hE7) hcl (fun w8 hc8 hb8 => ⟨fun h => (nomatch h), ?_⟩)) | (refine k_pure rfl ?_) | (refine then_normal ?_) | (refine cw_region rfl ?_) | (refine rr_nil ?_) | (refine k_addI rfl rfl (by omega) (by omega) ?_) | (refine in_normal ?_))
    refine ⟨⟨(i + 1, ps, P * (ls.getD i lv0).orb.length), ⟨by simp only; omega, by simp only; omega, ((hE5.trans hE6).trans hE7).chg hc8 (by omega), ((hb45.ext hE6).ext hE7).chg hc8 (by omega), hb8, hpl7, hpo7, ?_, hoff7, ?_⟩, by simp only; omega, rfl, trivial⟩, (by (repeat (first | exact agree_mask _ _ _ | refine agree_upd rfl ?_ | refine agree_updO rfl ?_ | refine agree_overIn rfl ?_ | refine agree_maskIn rfl ?_)))⟩
    · simp only
      rw [Int.natCast_mul]
      exact (hz7.chgO hc8 hoff7).mono (by omega)
    · simp only
      rw [← hP, drop_cons hil, prodL, Nat.mul_assoc]
  · obtain rfl : i = ls.length := by omega
    have hPe : P = prodL (ls.drop first) := by rw [← hP]; simp [prodL]
    repeat' (first | (refine k_loadCA rfl hb5 hcl ?_))
    refine k_storeV (n := 2) rfl rfl hcl hco hb45 rfl (fun w6 hc6 hb6 => ⟨fun _ _ => trivial, ?_⟩)
    repeat' (first | (refine then_normal ?_) | (refine rr_nil ?_) | (refine cw_ret ?_))
    refine ret1 rfl (rc rfl hcl hb6) ⟨?_, hE5.chg hc6 (by omega)⟩
    rw [← hPe]
    exact (hz5.chgO hc6 (fun e => by have := (hz5.lo e).1; omega)).mono y1
end Go.Proofs.YthhfjagnmhhapaaGreat

namespace Go.Proofs.YthhfjagnmhhapaaGreat
open Go.W Go.PM
def permsB (n : Int) (l : List (List Int)) : Bool := l.all fun p => decide ((p.length : Int) = n) && decide (IsPerm p)
theorem permsB_iff {n : Nat} {l : List (List Int)} : permsB n l = true ↔ GensN n l := by
  unfold permsB GensN PermN
  rw [List.all_eq_true]
  constructor
  · intro h g hg
    have := h g hg
    simp only [Bool.and_eq_true, decide_eq_true_eq] at this
    exact ⟨this.2, by omega⟩
  · intro h g hg
    have := h g hg
    simp only [Bool.and_eq_true, decide_eq_true_eq]
    exact ⟨by omega, this.1⟩
def errS (n : Int) (gens : List (List Int)) : Int := if n < 1 ∨ 512 < n then 1 else if 64 < gens.length then 7 else if permsB n gens then 0 else 3
theorem take_all {l : List (List Int)} {f : List Int → Bool} {i : Nat} (hi : i < l.length) (h : (l.take i).all f = true) : (l.take (i + 1)).all f = f (l.getD i []) := by
  rw [take_succ_getD l [] hi, List.all_append, h]; simp
theorem perms_spec {n : Int} {l : List (List Int)} {a : Option Addr} {sds : List SD} {cap : Nat} {w : World} (hL : Lists w .i64 a sds l) (hl : l.length ≤ 1000000) :
    CallsR Tryz.prog 46 #[.int .i64 n, .slice a l.length cap] w fun v w' => v = .bool (permsB n l) ∧ Ex w w' := by
  refine callsR_of (args := [_, _]) Tryz.func46 rfl rfl ?_
  have hsl := hL.len
  repeat' (first | (refine k_pure rfl ?_) | (refine then_normal ?_) | (refine cw_seq ?_) | (refine cw_region rfl ?_) | (refine rr_nil ?_) | (refine k_len rfl ?_) | (refine cw_block ?_))
  refine cw_loop (ι := Nat) [4, 6, 9, 10, 11, 12, 13, 14, 15, 16, 17, 18, 19, 20, 21, 22] (fun s => [(9, .int .i64 (s : Int))]) (fun s w' => s ≤ l.length ∧ Ex w w' ∧ permsB n (l.take s) = true) (fun s => l.length - s)
    0 ⟨rfl, trivial⟩ ⟨Nat.zero_le _, Ex.refl _, rfl⟩ ?_
  rintro k ξ w1 ⟨hk, hE1, hp⟩
  show CW _ _ _ _ (over [(9, .int .i64 (k : Int))] _) w1
  have hL1 := hL.ext hE1
  have hLs := hL1.sl
  obtain ⟨⟨ua, ul, uc⟩, hud⟩ : ∃ s, sds.getD k sd0 = s := ⟨_, rfl⟩
  have hno : ∀ (hkl : k < l.length), (decide (((l.getD k []).length : Int) = n) && decide (IsPerm (l.getD k []))) = false → permsB n l = false := fun hkl h => by
    have := getD_mem (d := []) hkl
    cases hb : permsB n l with
    | false => rfl
    | true =>
      unfold permsB at hb
      rw [List.all_eq_true] at hb
      have := hb _ this
      rw [h] at this; cases this
  have hyes : ∀ (hkl : k < l.length), (decide (((l.getD k []).length : Int) = n) && decide (IsPerm (l.getD k []))) = true → permsB n (l.take (k + 1)) = true := fun hkl h => by
    unfold permsB at hp ⊢
    rw [take_all hkl hp]; exact h
  repeat' (first | (refine k_indexN (j := k) rfl rfl (hLs.plain (by simp; omega)) (by omega) ?_) | (refine k_loadSd (j := k) rfl hLs (by omega) hud ?_) | (refine k_pure rfl ?_) | (refine then_normal ?_) | (refine cw_seq ?_) | (refine cw_region rfl ?_) | (refine rr_nil ?_) | (refine k_len rfl ?_) | (refine g_run rfl rfl ?_) | (refine g_skip rfl rfl ?_) | (refine g_dec_f rfl rfl (fun hc => ?_) (fun hc => ?_)) | (refine cw_cond_true rfl ?_) | (refine cw_cond_dec rfl (fun hc => ?_) (fun hc => ?_)) | (refine cw_block ?_) | (refine cw_exit ?_) | (refine then_exit ?_) | (refine in_exit ?_) | (refine cw_ret ?_) | (refine then_ret ?_) | (refine in_ret ?_) | (refine cw_skip ?_))
  · have hkl : k < l.length := by omega
    have hei := hL1.each k hkl
    rw [hud] at hei
    simp only at hei
    have hln : ((l.getD k []).length : Int) = n := by omega
    refine k_call (valid_spec hei.1 uc) (by rw [← hei.2]; rfl) ?_
    rintro v w2 ⟨rfl, hE2⟩
    refine ⟨fun _ _ => trivial, ?_⟩
    by_cases hv : IsPerm (l.getD k [])
    · rw [decide_eq_true hv]
      repeat' (first | (refine k_pure rfl ?_) | (refine then_normal ?_) | (refine cw_region rfl ?_) | (refine rr_nil ?_) | (refine g_run rfl rfl ?_) | (refine k_addI rfl rfl (by omega) (by omega) ?_) | (refine cw_cond_false rfl ?_) | (refine in_normal ?_) | (refine cw_skip ?_))
      refine ⟨⟨k + 1, ⟨by omega, hE1.trans hE2, hyes hkl (by rw [decide_eq_true hln, decide_eq_true hv]; rfl)⟩, by omega, rfl, trivial⟩, (by (repeat (first | exact agree_mask _ _ _ | refine agree_upd rfl ?_ | refine agree_updO rfl ?_ | refine agree_overIn rfl ?_ | refine agree_maskIn rfl ?_)))⟩
    · rw [decide_eq_false hv]
      repeat' (first | (refine k_pure rfl ?_) | (refine then_normal ?_) | (refine cw_seq ?_) | (refine cw_region rfl ?_) | (refine rr_nil ?_) | (refine g_run rfl rfl ?_) | (refine cw_cond_true rfl ?_) | (refine cw_ret ?_) | (refine then_ret ?_) | (refine in_ret ?_))
      refine ret1 rfl (rt rfl) ⟨?_, hE1.trans hE2⟩
      rw [hno hkl (by rw [decide_eq_false hv, Bool.and_false])]; rfl
  · have hkl : k < l.length := by omega
    have hei := (hL1.each k hkl).2
    rw [hud] at hei
    simp only at hei
    refine ret1 rfl (rt rfl) ⟨?_, hE1⟩
    rw [hno hkl (by rw [decide_eq_false (p := ((l.getD k []).length : Int) = n) (by omega)]; rfl)]; rfl
  · obtain rfl : k = l.length := by omega
    rw [List.take_length] at hp
    refine ret1 rfl (rt rfl) ⟨by rw [hp]; rfl, hE1⟩
theorem chkS_spec {n : Int} {l : List (List Int)} {a : Option Addr} {sds : List SD} {cap : Nat} {w : World} (hL : Lists w .i64 a sds l) (hl : l.length ≤ 1000000) :
    CallsR Tryz.prog 19 #[.int .i64 n, .slice a l.length cap] w fun v w' => v = .int .i64 (errS n l) ∧ Ex w w' := by
  refine callsR_of (args := [_, _]) Tryz.func19 rfl rfl ?_
  repeat' (first | (refine k_pure rfl ?_) | (refine then_normal ?_) | (refine cw_seq ?_) | (refine cw_region rfl ?_) | (refine rr_nil ?_) | (refine k_len rfl ?_) | (refine g_run rfl rfl ?_) | (refine g_skip rfl rfl ?_) | (refine g_dec_f rfl rfl (fun hc => ?_) (fun hc => ?_)) | (refine cw_cond_true rfl ?_) | (refine cw_cond_dec rfl (fun hc => ?_) (fun hc => ?_)) | (refine cw_ret ?_) | (refine then_ret ?_) | (refine cw_skip ?_))
  · refine ret1 rfl (rt rfl) ⟨?_, Ex.refl _⟩
    rw [errS, if_pos (.inr (by omega))]; rfl
  · refine ret1 rfl (rt rfl) ⟨?_, Ex.refl _⟩
    rw [errS, if_neg (by omega), if_pos (by omega)]; rfl
  · refine k_call (perms_spec hL hl) rfl ?_
    rintro v w1 ⟨rfl, hE1⟩
    refine ⟨fun _ _ => trivial, ?_⟩
    cases hb : permsB n l with
    | true =>
      repeat' (first | (refine k_pure rfl ?_) | (refine then_normal ?_) | (refine cw_seq ?_) | (refine cw_region rfl ?_) | (refine rr_nil ?_) | (refine cw_cond_false rfl ?_) | (refine cw_ret ?_) | (refine cw_skip ?_))
      refine ret1 rfl (rt rfl) ⟨?_, hE1⟩
      rw [errS, if_neg (by omega), if_neg (by omega), if_pos hb]; rfl
    | false =>
      repeat' (first | (refine k_pure rfl ?_) | (refine then_normal ?_) | (refine cw_seq ?_) | (refine cw_region rfl ?_) | (refine rr_nil ?_) | (refine cw_cond_true rfl ?_) | (refine cw_ret ?_) | (refine then_ret ?_))
      refine ret1 rfl (rt rfl) ⟨?_, hE1⟩
      rw [errS, if_neg (by omega), if_neg (by omega), hb]; rfl
  · refine ret1 rfl (rt rfl) ⟨?_, Ex.refl _⟩
    rw [errS, if_pos (.inl (by omega))]; rfl
theorem errS_zero {n : Int} {gens : List (List Int)} (h : errS n gens = 0) : ∃ m : Nat, n = (m : Int) ∧ 1 ≤ m ∧ m ≤ 512 ∧ gens.length ≤ 64 ∧ GensN m gens := by
  unfold errS at h
  split at h
  · cases h
  · rename_i h1
    split at h
    · cases h
    · rename_i h2
      split at h
      · rename_i h3
        refine ⟨n.toNat, by omega, by omega, by omega, by omega, ?_⟩
        rw [← permsB_iff, show ((n.toNat : Nat) : Int) = n by omega]; exact h3
      · cases h
theorem sOrder_spec {n : Int} {gens : List (List Int)} {a : Option Addr} {sds : List SD} {cap : Nat} {w : World} (hL : Lists w .i64 a sds gens) (hl : gens.length ≤ 1000000) (h11 : errS n gens = 0 → n ≤ 11) :
    CallsR Tryz.prog 31 #[.int .i64 n, .slice a gens.length cap] w fun v w' => ∃ z, v = .tuple #[z, .int .i64 (errS n gens)] ∧ Ex w w' ∧ (errS n gens ≠ 0 → IntC w.heap.size w' z 0) ∧ (errS n gens = 0 → ∃ k : Nat, Card (Gen n.toNat gens) k ∧ IntC w.heap.size w' z (k : Int)) := by
  refine callsR_of (args := [_, _]) Tryz.func31 rfl rfl ?_
  repeat' (first | (refine k_allocA (vs := intL false none 0 0) (fun g4 w1 hn1 => ⟨fun _ _ => trivial, ?_⟩)) | (refine k_pure rfl ?_) | (refine then_normal ?_) | (refine cw_seq ?_) | (refine cw_region rfl ?_) | (refine rr_nil ?_))
  have z1 := hn1.lo; have z1' := hn1.hi
  refine k_call (chkS_spec (hL.ext hn1.ex) hl) rfl ?_
  rintro v w2 ⟨rfl, hE2⟩
  refine ⟨fun _ _ => trivial, ?_⟩
  have y2 := hE2.size
  have hEw2 := hn1.ex.trans hE2
  have hb2 := hn1.blk.ext hE2
  repeat' (first | (refine k_pure rfl ?_) | (refine then_normal ?_) | (refine cw_seq ?_) | (refine cw_region rfl ?_) | (refine rr_nil ?_) | (refine cw_cond_dec rfl (fun hc => ?_) (fun hc => ?_)) | (refine cw_skip ?_))
  · refine k_build (cs := intL false none 0 0) rfl ?_
    repeat' (first | (refine k_pure rfl ?_))
    refine k_storeV (n := 2) rfl rfl rfl rfl hb2 rfl (fun w3 hc3 hb3 => ⟨fun _ _ => trivial, ?_⟩)
    repeat' (first | (refine k_pure rfl ?_) | (refine then_normal ?_) | (refine rr_nil ?_) | (refine cw_ret ?_) | (refine then_ret ?_))
    refine ret2 rfl (rc rfl rfl hb3) (rt rfl) ⟨_, rfl, hEw2.chg hc3 (by omega), fun _ => IntC.zero _ _, fun h => absurd h hc⟩
  · have h0 : errS n gens = 0 := by omega
    obtain ⟨m, rfl, hm1, hm2, hgl, hgn⟩ := errS_zero h0
    have hm11 : m ≤ 11 := by have := h11 h0; omega
    refine k_call (chBuild_spec (base := []) (b := none) (bc := 0) ⟨hm1, hm2⟩ hm11 hgn (hL.ext hEw2) (by omega) (Sl.nil _ _) (by simp) (fun i hi => absurd hi (by simp))) rfl ?_
    rintro v w3 ⟨hE3, c, ls, rfl, hC, hG, hF⟩
    refine ⟨fun _ _ => trivial, ?_⟩
    have y3 := hE3.size
    refine k_call (chOrder_spec (first := 0) hm11 hC hG (by simp; omega) (Nat.zero_le _)) rfl ?_
    rintro v w4 ⟨hz4, hE4⟩
    refine ⟨fun _ _ => trivial, ?_⟩
    obtain ⟨cs, rfl, hcl, hco⟩ := hz4.out
    have hb4 := (hb2.ext hE3).ext hE4
    refine k_storeV (n := 2) rfl rfl hcl hco hb4 rfl (fun w5 hc5 hb5 => ⟨fun _ _ => trivial, ?_⟩)
    repeat' (first | (refine k_pure rfl ?_) | (refine then_normal ?_) | (refine rr_nil ?_) | (refine cw_ret ?_))
    have hz5 := (hz4.chgO hc5 (hz4.off_lo (by omega))).mono (lo' := w.heap.size) (by omega)
    rw [List.drop_zero] at hz5
    refine ret2 rfl (rc rfl hcl hb5) (rt rfl) ⟨_, by rw [h0]; rfl, ((hEw2.trans hE3).trans hE4).chg hc5 (by omega), fun h => absurd h0 h, fun _ => ⟨prodL ls, ?_, hz5⟩⟩
    rw [Int.toNat_natCast]
    exact (full_card hG.links hF).congr hG.grp
end Go.Proofs.YthhfjagnmhhapaaGreat

