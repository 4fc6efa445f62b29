import Derived.Test.YtiejljicpinheaaGreatE02
namespace Go.Proofs.YtiejljicpinheaaGreat
open Go.W Go.LM Go.LA Go.PM
set_option maxHeartbeats 16000000 in
theorem wP {rows cols : Int} (h1 : 0 ≤ rows ∧ rows ≤ 255) (h2 : 0 ≤ cols ∧ cols ≤ 255) {L : List Int} {la : Option Addr} {w : World} (hL : Sl w la (int8L L)) (hI : I8 L) (lc : Nat) {L2 : List Int} {la2 : Option Addr} (hL2 : Sl w la2 (int8L L2)) (hI2 : I8 L2) (lc2 : Nat) :
  CallsR Tryz.prog 7 #[.agg (gridL rows cols la L.length lc).toArray, .slice la2 L2.length lc2] w fun v w' => v = .bool true ∧ Ex w w' := by
 refine aF (args := [_, _]) Tryz.func7 rfl rfl ?_
 refine aj ?_
 refine ah rfl ?_
 refine bH (vs := gridL rows cols la L.length lc) rfl (fun g1 w1 hn1 => ⟨fun _ _ => trivial, ?_⟩)
 have hg1 := hn1.blk
 obtain ⟨r, c, A, hr, hc, hmat⟩ := tV (most := 4) hL hI h1 h2 (by omega) lc
 repeat' (first|refine aR (cs := gridL rows cols la L.length lc) (g := g1) rfl hg1 rfl ?_|refine ai rfl ?_|refine aa ?_|refine aj ?_|refine ah rfl ?_|refine ae ?_)
 refine aw (hmat _ hn1.ex) rfl ?_
 rintro v w2 ⟨g, gs, cp, rfl, hO2, hE2⟩
 refine ⟨fun _ _ => trivial, ?_⟩
 have hE02 := hn1.ex.trans hE2
 repeat' (first|refine ai rfl ?_|refine aa ?_|refine aj ?_|refine ah rfl ?_|refine ae ?_)
 refine aw (wT hO2.mx (by omega) (by omega) (by omega)) rfl ?_
 rintro v w3 ⟨krzz, rfl, hRk, hE3⟩
 refine ⟨fun _ _ => trivial, ?_⟩
 repeat' (first|refine aK rfl rfl ?_|refine ai rfl ?_|refine aa ?_|refine aj ?_|refine ah rfl ?_|refine ae ?_)
 refine aw (nD (hO2.ext hE3).mx (by omega) (by omega) (by omega) (by omega)) rfl ?_
 rintro v w4 ⟨H, U, k, p, H', U', k', p', u, rfl, hC, hF, h0, h1k, hE4⟩
 refine ⟨fun _ _ => trivial, ?_⟩
 obtain rfl : krzz = k := hRk.unique (hF.rk hC)
 have hkc := hF.kc
 have hE24 := hE3.trans hE4
 have hE04 := hE02.trans hE24
 have hO4 := hO2.ext hE24
 repeat' (first|refine aK rfl rfl ?_|refine aD (j := 0) (a := some ⟨g, 0, none⟩) rfl rfl ⟨_, _, rfl⟩ (by omega) ?_|refine aV (j := 0) (a := some ⟨g, 0, none⟩) (n := r) (s := fun x => ⟨some ⟨gs x, 0, none⟩, c, cp x⟩) rfl hO4.top.sl (by omega) rfl ?_|refine ai rfl ?_|refine aa ?_|refine aj ?_|refine ah rfl ?_|refine ae ?_|refine aZ rfl ?_|refine au rfl ?_|refine aE ?_)
 refine aw (wA (n := c) (hL2.ext hE04) hI2 (by omega)) rfl ?_
 rintro v w5 ⟨syzz, hy, rfl, hRy, hEy, hE5⟩
 refine ⟨fun _ _ => trivial, ?_⟩
 generalize colF L2 = Y at hEy
 repeat' (first|refine ai rfl ?_|refine aa ?_|refine aj ?_|refine ah rfl ?_|refine ae ?_)
 refine aw (rO (hO4.ext hE5).mx (wJ hRy hEy) (by omega) (by omega) (by omega)) rfl ?_
 rintro v w6 ⟨sz, hz, rfl, hRz, hEz, hE6⟩
 refine ⟨fun _ _ => trivial, ?_⟩
 have hRy6 := RowG.ext hRy hE6
 have hEy6 : ∀ i, i < c → Ent true 2 w6 (hy i).val (Y i) := fun i hi => (hEy i hi).ext hE6
 have hE26 := (hE24.trans hE5).trans hE6
 have ely := hRy.1
 have elz := hRz.1
 repeat' (first|refine aK rfl rfl ?_|refine ai rfl ?_|refine aa ?_|refine aj ?_|refine ah rfl ?_|refine ae ?_|refine aZ rfl ?_|refine aA ?_)
 rw [elz]
 refine aY (ι := Nat × Bool) [13, 16, 51, 52, 53, 54, 55, 56, 57, 58, 59, 60, 61] (fun t => [(51, .int .i64 (t.1 : Int)), (13, .bool t.2)])
  (fun t w' => t.1 ≤ r ∧ Ex w6 w' ∧ (t.2 = true ↔ ∀ l, l < t.1 → mv c A Y l = 0)) (fun t => r - t.1)
  (0, true) ⟨rfl, rfl, trivial⟩ ⟨Nat.zero_le _, Ex.refl _, ⟨fun _ l h => absurd h (Nat.not_lt_zero _), fun _ => rfl⟩⟩ ?_
 rintro ⟨i0, b0⟩ ξ0 wa0 ⟨hi0, hEa0, hb0⟩
 simp only at hi0 hb0
 show CW _ _ _ _ (over [(51, .int .i64 (i0 : Int)), (13, .bool b0)] _) wa0
 rcases Nat.lt_or_ge i0 r with hin0 | hin0
 ·have hRa := (RowG.ext hRz hEa0).sl
  have hpa : W.plain sz.a := hRa.plain (by rw [bT]; omega)
  repeat' (first|refine bu rfl rfl (show ((i0 : Nat) : Int) < ((r : Nat) : Int) by omega) ?_|refine aT (j := i0) rfl rfl hpa (by omega) ?_|refine bo (j := i0) (n := r) (f := hz) rfl hRa hpa (by omega) ?_|refine aa ?_|refine aj ?_|refine ah rfl ?_|refine ae ?_|refine az rfl ?_|refine aA ?_|refine aE ?_)
  refine aG (fun gx wxzz hnx => ⟨fun _ _ => trivial, ?_⟩)
  refine ax (n := 2) (vs := (hz i0).cells) rfl rfl rfl rfl hnx.blk rfl (fun wyzz hcy hby => ⟨fun _ _ => trivial, ?_⟩)
  have hEy := hnx.ex.chg hcy hnx.lo
  rcases Bool.eq_false_or_eq_true b0 with rfl | rfl
  ·repeat' (first|refine aR (g := gx) (cs := (hz i0).cells) rfl hby rfl ?_|refine ai rfl ?_|refine aa ?_|refine ah rfl ?_|refine ae ?_|refine bz rfl rfl ?_)
   refine aw (cj ((hEz i0 hin0).ext (hEa0.trans hEy)).k) rfl ?_
   rintro v wz ⟨rfl, hEz⟩
   refine ⟨fun _ _ => trivial, ?_⟩
   by_cases hf0 : mv c A Y i0 = 0
   ·repeat' (first|(refine eF rfl rfl (by rw [hf0]; rfl) ?_)|refine ai rfl ?_|refine aa ?_|refine ah rfl ?_|refine ae ?_|refine bz rfl rfl ?_|refine bc rfl rfl (by omega) (by omega) ?_|refine aL ?_)
    exact ⟨⟨(i0 + 1, true), ⟨hin0, (hEa0.trans hEy).trans hEz, ⟨fun _ l hl => by
     by_cases e : l = i0
     ·subst e; exact hf0
     ·exact hb0.1 rfl l (by have : l < i0 + 1 := hl; omega), fun _ => rfl⟩⟩, by simp only; omega, rfl, rfl, trivial⟩, (by (repeat (first|exact aH _ _ _|refine ay rfl ?_|refine av rfl ?_|refine ak rfl ?_|refine ao rfl ?_)))⟩
   ·repeat' (first|refine dU rfl rfl (fun e => hf0 (Int.sign_eq_zero_iff_zero.1 e)) ?_|refine ai rfl ?_|refine aa ?_|refine ah rfl ?_|refine ae ?_|refine bz rfl rfl ?_|refine bc rfl rfl (by omega) (by omega) ?_|refine aL ?_)
    exact ⟨⟨(i0 + 1, false), ⟨hin0, (hEa0.trans hEy).trans hEz, ⟨fun e => (nomatch e), fun h => absurd (h i0 (Nat.lt_succ_self _)) hf0⟩⟩, by simp only; omega, rfl, rfl, trivial⟩, (by (repeat (first|exact aH _ _ _|refine ay rfl ?_|refine av rfl ?_|refine ak rfl ?_|refine ao rfl ?_)))⟩
  ·repeat' (first|refine ai rfl ?_|refine aa ?_|refine ah rfl ?_|refine ae ?_|refine bK rfl rfl ?_|refine bc rfl rfl (by omega) (by omega) ?_|refine aL ?_)
   exact ⟨⟨(i0 + 1, false), ⟨hin0, hEa0.trans hEy, ⟨fun e => (nomatch e), fun h => hb0.2 fun l hl => h l (by show l < i0 + 1; omega)⟩⟩, by simp only; omega, rfl, rfl, trivial⟩, (by (repeat (first|exact aH _ _ _|refine ay rfl ?_|refine av rfl ?_|refine ak rfl ?_|refine ao rfl ?_)))⟩
 obtain rfl : r = i0 := by omega
 repeat' (first|refine bj rfl rfl (Int.le_refl _) ?_|refine ai rfl ?_|refine aa ?_|refine aj ?_|refine ah rfl ?_|refine ae ?_|refine aZ rfl ?_|refine au rfl ?_|refine aA ?_|refine aP ?_|refine aJ ?_|refine aQ ?_)
 rw [ely]
 refine aY (ι := Nat × Bool) [14, 18, 64, 65, 66, 67, 68, 69, 70, 71, 72, 73, 74] (fun t => [(64, .int .i64 (t.1 : Int)), (14, .bool t.2)])
  (fun t w' => t.1 ≤ c ∧ Ex wa0 w' ∧ (t.2 = true ↔ ∀ l, l < t.1 → Y l = 0)) (fun t => c - t.1)
  (0, true) ⟨rfl, rfl, trivial⟩ ⟨Nat.zero_le _, Ex.refl _, ⟨fun _ l h => absurd h (Nat.not_lt_zero _), fun _ => rfl⟩⟩ ?_
 rintro ⟨i1, b1⟩ ξ1 wa1 ⟨hi1, hEa1, hb1⟩
 simp only at hi1 hb1
 show CW _ _ _ _ (over [(64, .int .i64 (i1 : Int)), (14, .bool b1)] _) wa1
 rcases Nat.lt_or_ge i1 c with hin1 | hin1
 ·have hRa := (RowG.ext (RowG.ext hRy6 hEa0) hEa1).sl
  have hpa : W.plain syzz.a := hRa.plain (by rw [bT]; omega)
  repeat' (first|refine bu rfl rfl (show ((i1 : Nat) : Int) < ((c : Nat) : Int) by omega) ?_|refine aT (j := i1) rfl rfl hpa (by omega) ?_|refine bo (j := i1) (n := c) (f := hy) rfl hRa hpa (by omega) ?_|refine aa ?_|refine aj ?_|refine ah rfl ?_|refine ae ?_|refine az rfl ?_|refine aA ?_|refine aE ?_)
  refine aG (fun gx wxzz hnx => ⟨fun _ _ => trivial, ?_⟩)
  refine ax (n := 2) (vs := (hy i1).cells) rfl rfl rfl rfl hnx.blk rfl (fun wyzz hcy hby => ⟨fun _ _ => trivial, ?_⟩)
  have hEy := hnx.ex.chg hcy hnx.lo
  rcases Bool.eq_false_or_eq_true b1 with rfl | rfl
  ·repeat' (first|refine aR (g := gx) (cs := (hy i1).cells) rfl hby rfl ?_|refine ai rfl ?_|refine aa ?_|refine ah rfl ?_|refine ae ?_|refine bz rfl rfl ?_)
   refine aw (cj (((hEy6 i1 hin1).ext hEa0).ext (hEa1.trans hEy)).k) rfl ?_
   rintro v wz ⟨rfl, hEz⟩
   refine ⟨fun _ _ => trivial, ?_⟩
   by_cases hf0 : Y i1 = 0
   ·repeat' (first|(refine eF rfl rfl (by rw [hf0]; rfl) ?_)|refine ai rfl ?_|refine aa ?_|refine ah rfl ?_|refine ae ?_|refine bz rfl rfl ?_|refine bc rfl rfl (by omega) (by omega) ?_|refine aL ?_)
    exact ⟨⟨(i1 + 1, true), ⟨hin1, (hEa1.trans hEy).trans hEz, ⟨fun _ l hl => by
     by_cases e : l = i1
     ·subst e; exact hf0
     ·exact hb1.1 rfl l (by have : l < i1 + 1 := hl; omega), fun _ => rfl⟩⟩, by simp only; omega, rfl, rfl, trivial⟩, (by (repeat (first|exact aH _ _ _|refine ay rfl ?_|refine av rfl ?_|refine ak rfl ?_|refine ao rfl ?_)))⟩
   ·repeat' (first|refine dU rfl rfl (fun e => hf0 (Int.sign_eq_zero_iff_zero.1 e)) ?_|refine ai rfl ?_|refine aa ?_|refine ah rfl ?_|refine ae ?_|refine bz rfl rfl ?_|refine bc rfl rfl (by omega) (by omega) ?_|refine aL ?_)
    exact ⟨⟨(i1 + 1, false), ⟨hin1, (hEa1.trans hEy).trans hEz, ⟨fun e => (nomatch e), fun h => absurd (h i1 (Nat.lt_succ_self _)) hf0⟩⟩, by simp only; omega, rfl, rfl, trivial⟩, (by (repeat (first|exact aH _ _ _|refine ay rfl ?_|refine av rfl ?_|refine ak rfl ?_|refine ao rfl ?_)))⟩
  ·repeat' (first|refine ai rfl ?_|refine aa ?_|refine ah rfl ?_|refine ae ?_|refine bK rfl rfl ?_|refine bc rfl rfl (by omega) (by omega) ?_|refine aL ?_)
   exact ⟨⟨(i1 + 1, false), ⟨hin1, hEa1.trans hEy, ⟨fun e => (nomatch e), fun h => hb1.2 fun l hl => h l (by show l < i1 + 1; omega)⟩⟩, by simp only; omega, rfl, rfl, trivial⟩, (by (repeat (first|exact aH _ _ _|refine ay rfl ?_|refine av rfl ?_|refine ak rfl ?_|refine ao rfl ?_)))⟩
 obtain rfl : c = i1 := by omega
 have hE6a := hEa0.trans hEa1
 have hE2a := hE26.trans hE6a
 have hE4a := (hE5.trans hE6).trans hE6a
 have hE0a := hE02.trans hE2a
 have hOa := hO2.ext hE2a
 rcases Nat.lt_or_ge krzz c with hk | hk
 ·obtain ⟨hC', hF', hk0, hk1⟩ := h1k hk
  have hk' := wY hC.1 hk hC' hF'
  obtain ⟨gkzz, gsk, cpk, rfl, hOk⟩ := hk1 (by omega)
  have hka := hOk.ext hE4a
  have hFk : HF c k' H' k' p' := by rw [← hk'] at hF'; exact hF'
  have hEd := (Ex.refl wa1).drew
  have hzero := wZ hC hF hC' (Nat.le_of_eq hk')
  have hlat : InL c k' H' Y ↔ ∀ l, l < r → mv c A Y l = 0 := by
   rw [hk']
   exact (hC'.inL Y).trans (HF.kernel hC hF Y).symm
  have hkb : ∀ l, l < k' → ∀ i, i < c → Lb (Zb 6000 0 l) (H' i l) := fun l hl i hi => (hOk.mx.lb hi hl).mono (by
   have e1 : Zb 6000 0 0 ≤ Zb 6000 0 l := eh (by omega) (by omega)
   have e2 : Zb 6000 0 0 = 5992 := by decide
   omega)
  have hkm : Zb 6000 0 (2 * k' + 1) ≤ 3072000 := by
   have e1 : Zb 6000 0 (2 * k' + 1) ≤ Zb 6000 0 9 := eh (by omega) (by omega)
   have e2 : Zb 6000 0 9 = 3071992 := by decide
   omega
  clear hk0 hk1 h1k h0 hRk
  repeat' (first|refine bj rfl rfl (Int.le_refl _) ?_|refine dU rfl rfl (show ((c : Nat) : Int) ≠ 0 by omega) ?_|refine ai rfl ?_|refine aa ?_|refine aj ?_|refine ah rfl ?_|refine ae ?_|refine aZ rfl ?_|refine au rfl ?_|refine aP ?_|refine aJ ?_|refine aQ ?_|refine aE ?_)
  refine bi (late := []) (plan := [(0, none), (1, none), (2, none), (3, none), (4, none), (5, none), (6, none), (7, none), (8, none), (9, none), (10, none), (11, none), (12, none), (13, none), (14, none), (15, none), (16, none), (17, none), (18, none), (19, none), (20, none), (21, none), (22, some true), (23, none), (24, none), (25, none), (26, none), (27, none), (28, none), (29, some true), (30, none), (31, none)]) (fun w' => Ex wa1 w') bA (by kernel_rfl) hEd ?_
  repeat' (first|refine aD (j := 0) (a := some ⟨g, 0, none⟩) rfl rfl ⟨_, _, rfl⟩ (by omega) ?_|refine aV (j := 0) (a := some ⟨g, 0, none⟩) (n := r) (s := fun x => ⟨some ⟨gs x, 0, none⟩, c, cp x⟩) rfl (fun _ h => (hOa.ext h).top.sl) (by omega) rfl ?_|refine cN (m := ((c : Nat) : Int)) (m' := ((c : Nat) : Int)) rfl rfl rfl ?_|refine aD (j := 0) (a := some ⟨gkzz, 0, none⟩) rfl rfl ⟨_, _, rfl⟩ (show 0 < c by omega) ?_|refine aV (j := 0) (a := some ⟨gkzz, 0, none⟩) (n := c) (s := fun x => ⟨some ⟨gsk x, 0, none⟩, k', cpk x⟩) rfl (fun _ h => (hka.ext h).top.sl) (by omega) rfl ?_|refine cR rfl rfl (by omega) (by omega) ?_|refine cN (m := ((k' : Nat) : Int)) rfl rfl (by omega) ?_|refine ai rfl ?_|refine aZ rfl ?_|refine bz rfl rfl ?_)
  refine aw (wy (wK (hka.ext hEd))) rfl ?_
  rintro v w7 ⟨t7zz, rfl, ht7, hE7⟩
  refine ⟨fun _ h => h.trans hE7, ?_⟩
  obtain rfl : t7zz = true := ht7.2 ⟨wL (by omega) (by omega), k', p', hFk⟩
  have hF7 := hEd.trans hE7
  repeat' (first|refine ai rfl ?_|refine bz rfl rfl ?_)
  refine aw (pY (Q := 6000) (s := 0) (KM := 3072000) (sx := ⟨syzz.a, c, syzz.cap⟩) (hka.ext hF7).mx (by
   have hx := (wJ hRy6 hEy6).ext (hE6a.trans hF7)
   have hsy : syzz = ⟨syzz.a, c, syzz.cap⟩ := by rw [← ely]
   rw [← hsy]; exact hx) (by omega) (by omega) hkb (by omega) hkm (by omega)) rfl ?_
  rintro v w8 ⟨t8, rfl, ht8, hE8⟩
  refine ⟨fun _ h => h.trans hE8, ?_⟩
  obtain rfl : b0 = t8 := wH hb0 (ht8.trans hlat)
  have hF8 := hF7.trans hE8
  repeat' (first|refine vU rfl rfl ?_|refine ai rfl ?_|refine aa ?_|refine aj ?_|refine ah rfl ?_|refine ae ?_|refine bz rfl rfl ?_|refine au rfl ?_|refine aE ?_)
  refine aw (jM (hOa.ext hF8).mx (hka.ext hF8).mx (by omega) (by omega) (by omega) (by omega)) rfl ?_
  rintro v w9 ⟨g9, gs9, cp9, rfl, hO9, hE9⟩
  refine ⟨fun _ _ => trivial, ?_⟩
  repeat' (first|refine ai rfl ?_|refine aa ?_|refine ae ?_|refine aZ rfl ?_|refine aA ?_)
  refine aY (ι := Nat) [4, 20, 22, 130, 131, 132, 133, 134, 135, 136, 137, 138, 139, 140, 141, 142, 143, 144] (fun t => [(130, .int .i64 (t : Int))]) (fun t w' => t ≤ r ∧ Ex w9 w') (fun t => r - t)
   0 ⟨rfl, trivial⟩ ⟨Nat.zero_le _, Ex.refl _⟩ ?_
  rintro i ξ2 w10 ⟨hi, hE10⟩
  show CW _ _ _ _ (over [(130, .int .i64 (i : Int))] _) w10
  have hE0z := hE0a.trans ((hF8.trans hE9).trans hE10)
  rcases Nat.lt_or_ge i r with hir | hir
  ·have hO10 := hO9.ext hE10
   obtain ⟨hh, hb, hcp, hEn⟩ := hO10.get hir
   repeat' (first|refine bu rfl rfl (show ((i : Nat) : Int) < ((r : Nat) : Int) by omega) ?_|refine aD (j := i) (a := some ⟨g9, 0, none⟩) rfl rfl ⟨_, _, rfl⟩ (by omega) ?_|refine aV (j := i) (a := some ⟨g9, 0, none⟩) (n := r) (s := fun x => ⟨some ⟨gs9 x, 0, none⟩, k', cp9 x⟩) rfl hO10.top.sl (by omega) rfl ?_|refine ai rfl ?_|refine aa ?_|refine aj ?_|refine ah rfl ?_|refine ae ?_|refine aZ rfl ?_|refine az rfl ?_|refine aA ?_|refine aE ?_)
   refine aY (ι := Nat) [4, 22, 136, 137, 138, 139, 140, 141, 142, 143] (fun t => [(136, .int .i64 (t : Int))]) (fun t w' => t ≤ k' ∧ Ex w10 w') (fun t => k' - t)
    0 ⟨rfl, trivial⟩ ⟨Nat.zero_le _, Ex.refl _⟩ ?_
   rintro j ξ3 w11 ⟨hj, hE11⟩
   show CW _ _ _ _ (over [(136, .int .i64 (j : Int))] _) w11
   rcases Nat.lt_or_ge j k' with hjk | hjk
   ·have hb11 := (hb.ext hE11).sl
    repeat' (first|refine bu rfl rfl (show ((j : Nat) : Int) < ((k' : Nat) : Int) by omega) ?_|refine aT (j := j) (a := some ⟨gs9 i, 0, none⟩) rfl rfl ⟨_, _, rfl⟩ (by omega) ?_|refine bo (j := j) (n := cp9 i) (f := hh) (a := some ⟨gs9 i, 0, none⟩) rfl hb11 ⟨_, _, rfl⟩ (by omega) ?_|refine aa ?_|refine aj ?_|refine ah rfl ?_|refine ae ?_|refine az rfl ?_|refine aA ?_|refine aE ?_)
    refine aG (fun gx wxzz hnx => ⟨fun _ _ => trivial, ?_⟩)
    refine ax (n := 2) (vs := (hh j).cells) rfl rfl rfl rfl hnx.blk rfl (fun wyzz hcy hby => ⟨fun _ _ => trivial, ?_⟩)
    have hEy := hnx.ex.chg hcy hnx.lo
    repeat' (first|refine aR (g := gx) (cs := (hh j).cells) rfl hby rfl ?_|refine aa ?_|refine aj ?_|refine ah rfl ?_|refine ae ?_)
    refine aw (cj ((hEn j hjk).ext (hE11.trans hEy)).k) rfl ?_
    rintro v wz ⟨rfl, hEz⟩
    refine ⟨fun _ _ => trivial, ?_⟩
    rw [hzero i j hir hjk]
    repeat' (first|refine cN rfl rfl rfl ?_|refine ai rfl ?_|refine aa ?_|refine ah rfl ?_|refine ae ?_|refine bc rfl rfl (by omega) (by omega) ?_|refine au rfl ?_|refine aL ?_|refine aE ?_)
    exact ⟨⟨j + 1, ⟨hjk, (hE11.trans hEy).trans hEz⟩, by omega, rfl, trivial⟩, (by (repeat (first|exact aH _ _ _|refine ay rfl ?_|refine av rfl ?_|refine ak rfl ?_|refine ao rfl ?_)))⟩
   ·obtain rfl : k' = j := by omega
    repeat' (first|refine bj rfl rfl (Int.le_refl _) ?_|refine ai rfl ?_|refine aa ?_|refine aj ?_|refine ah rfl ?_|refine ae ?_|refine bc rfl rfl (by omega) (by omega) ?_|refine au rfl ?_|refine aP ?_|refine aJ ?_|refine aQ ?_|refine aL ?_)
    exact ⟨⟨i + 1, ⟨hir, hE10.trans hE11⟩, by omega, rfl, trivial⟩, (by (repeat (first|exact aH _ _ _|refine ay rfl ?_|refine av rfl ?_|refine ak rfl ?_|refine ao rfl ?_)))⟩
  ·obtain rfl : r = i := by omega
   repeat' (first|refine bj rfl rfl (Int.le_refl _) ?_|refine aa ?_|refine aj ?_|refine ah rfl ?_|refine ae ?_|refine au rfl ?_|refine aP ?_|refine aJ ?_|refine aQ ?_)
   refine aw (nI _) rfl ?_
   rintro v wz ⟨rfl, hEz⟩
   refine ⟨fun _ _ => trivial, ?_⟩
   repeat' (first|refine ai rfl ?_|refine aa ?_|refine ae ?_|refine aI ?_)
   exact bx rfl (rt rfl) ⟨rfl, hE0z.trans hEz⟩
 ·have hkc2 : krzz = c := by omega
  have hu := h0 hkc2
  subst hu
  have hb01 : b0 = true → b1 = true := fun e => hb1.2 (by
   have h6 := (HF.kernel hC hF Y).1 (hb0.1 e)
   obtain ⟨x, hx⟩ := h6
   intro l hl
   rw [hx l hl, show c - krzz = 0 by omega]; rfl)
  rcases Bool.eq_false_or_eq_true b0 with rfl | rfl
  ·obtain rfl := hb01 rfl
   repeat' (first|refine bj rfl rfl (Int.le_refl _) ?_|refine qI rfl rfl ?_|refine aD (j := 0) (a := some ⟨g, 0, none⟩) rfl rfl ⟨_, _, rfl⟩ (by omega) ?_|refine aV (j := 0) (a := some ⟨g, 0, none⟩) (n := r) (s := fun x => ⟨some ⟨gs x, 0, none⟩, c, cp x⟩) rfl hOa.top.sl (by omega) rfl ?_|refine eF (m := ((krzz : Nat) : Int)) rfl rfl (by omega) ?_|refine ai rfl ?_|refine aa ?_|refine aj ?_|refine ah rfl ?_|refine ae ?_|refine aZ rfl ?_|refine bz rfl rfl ?_|refine az rfl ?_|refine au rfl ?_|refine aP ?_|refine aJ ?_|refine aQ ?_)
   refine aw (nI _) rfl ?_
   rintro v wz ⟨rfl, hEz⟩
   refine ⟨fun _ _ => trivial, ?_⟩
   repeat' (first|refine ai rfl ?_|refine aa ?_|refine ae ?_|refine aI ?_|refine aU ?_)
   exact bx rfl (rt rfl) ⟨rfl, hE0a.trans hEz⟩
  ·repeat' (first|refine bj rfl rfl (Int.le_refl _) ?_|refine qI rfl rfl ?_|refine aD (j := 0) (a := some ⟨g, 0, none⟩) rfl rfl ⟨_, _, rfl⟩ (by omega) ?_|refine aV (j := 0) (a := some ⟨g, 0, none⟩) (n := r) (s := fun x => ⟨some ⟨gs x, 0, none⟩, c, cp x⟩) rfl hOa.top.sl (by omega) rfl ?_|refine eF (m := ((krzz : Nat) : Int)) rfl rfl (by omega) ?_|refine ai rfl ?_|refine aa ?_|refine aj ?_|refine ah rfl ?_|refine ae ?_|refine aZ rfl ?_|refine bz rfl rfl ?_|refine bK rfl rfl ?_|refine az rfl ?_|refine au rfl ?_|refine aP ?_|refine aJ ?_|refine aQ ?_)
   refine aw (nI _) rfl ?_
   rintro v wz ⟨rfl, hEz⟩
   refine ⟨fun _ _ => trivial, ?_⟩
   repeat' (first|refine ai rfl ?_|refine aa ?_|refine ae ?_|refine aI ?_|refine aU ?_)
   exact bx rfl (rt rfl) ⟨rfl, hE0a.trans hEz⟩
end Go.Proofs.YtiejljicpinheaaGreat
