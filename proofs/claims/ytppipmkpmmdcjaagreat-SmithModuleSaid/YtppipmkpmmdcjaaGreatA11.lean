import Derived.Test.YtppipmkpmmdcjaaGreatA10
namespace Go.Proofs.YtppipmkpmmdcjaaGreat
open Go.W Go.LM Go.LA
theorem oN {w w' : World} {r : Option Nat} (h : Ex w w') : w.grownBy w' r := ⟨(lA h).os, (lA h).tape, (lA h).output, (lA h).size, fun k hk _ => (lA h).block k hk (by simp)⟩
set_option maxHeartbeats 1000000 in
theorem k7 {c1 c2 c4 : Bool} {K K4 n R i j row g tc : Nat} {w : World} {s : Nat → SD} {vd : Value} {d : Int} {fi fj : Nat → Int} (hT : Blk w g 27 (topC n s)) (hi : i < n) (hj : j < n) (hR0 : 1 ≤ R) (hR : R ≤ 32) (hrow : row < R)
  (hXj : RX c1 K w (s j) R fj) (hXi : RX c2 K w (s i) R fi) (hd : Ent c4 K4 w vd d) (_hd0 : d ≠ 0) (hK : K + K + 1 < 17592186044415) (hK4 : K4 < 17592186044415) {K' : Nat} (hlb : ∀ r, r < R → Lb K' ((fi row * fj r + (- fj row) * fi r) / d)) :
  CallsR Tryz.prog 94 #[.slice (some ⟨g, 0, none⟩) n tc, .int .i64 j, .int .i64 i, .int .i64 row, vd] w fun _ w' => ∃ g3, w.heap.size ≤ g3 ∧ w.grownBy w' (some g) ∧ Blk w' g 27 (topC n (setF s j ⟨some ⟨g3, 0, none⟩, R, R⟩)) ∧ RO true K' w' w.heap.size g3 R R (fun r => (fi row * fj r + (- fj row) * fi r) / d) := by
 obtain ⟨xd, rfl⟩ := hd.ih
 obtain ⟨pi', di, hhi, ei, _, hpi, hSi, hEi⟩ := hXi.get (by omega)
 obtain ⟨pj, dj, hhj, ej, _, hpj, hSj, hEj⟩ := hXj.get (by omega)
 refine aH (args := [_, _, _, _, _]) Tryz.func94 rfl rfl ?_
 refine aj ?_
 refine ah rfl ?_
 refine bH (vs := xd.cells) rfl (fun g1 w1 hn1 => ⟨fun _ _ => trivial, ?_⟩)
 have hb1 := hn1.blk
 have hE1 := hn1.ex
 have lo1 := hn1.lo
 have lg := hT.lt
 have hT1 := hT.ext hE1
 repeat' (first|refine aa ?_|refine aj ?_|refine ae ?_)
 refine bi (late := [22]) (plan := [(0, none), (1, none), (2, none), (3, none), (4, none), (5, none), (6, none), (7, none), (8, none), (9, none), (10, none), (11, none), (12, none), (13, none), (14, none), (15, none), (16, none), (17, none), (18, none), (19, some true), (20, some true), (21, none), (22, some false)]) (fun w' => Ex w1 w') bB (by kernel_rfl) (Ex.refl w1).drew ?_
 repeat' (first|refine aC (j := i) (a := some ⟨g, 0, none⟩) rfl rfl ⟨_, _, rfl⟩ (by omega) ?_|refine aC (j := j) (a := some ⟨g, 0, none⟩) rfl rfl ⟨_, _, rfl⟩ (by omega) ?_|refine aU (j := i) (a := some ⟨g, 0, none⟩) (n := n) (s := s) rfl (fun _ h => (hT1.ext h).sl) (by omega) ei ?_|refine aU (j := j) (a := some ⟨g, 0, none⟩) (n := n) (s := s) rfl (fun _ h => (hT1.ext h).sl) (by omega) ej ?_|refine aT (j := row) (a := pi') rfl rfl hpi (by omega) ?_|refine aT (j := row) (a := pj) rfl rfl hpj (by omega) ?_|refine bu (j := row) (a := pi') rfl (fun _ h => hSi.ext (hE1.trans h)) hpi (by omega) ?_|refine bu (j := row) (a := pj) rfl (fun _ h => hSj.ext (hE1.trans h)) hpj (by omega) ?_|refine ai rfl ?_)
 have hE1d := hE1.drew
 refine av (dy ((hEj row hrow).ext hE1d).k) rfl ?_
 rintro v w2 ⟨hI2, hE2⟩
 refine ⟨fun _ h => h.trans hE2, ?_⟩
 have hE12 : Ex w1 w2 := (Ex.refl w1).drew.trans hE2
 have hE02 := hE1.trans hE12
 have hneg : Ent true K w2 v (-(fj row)) := Ent.of hI2 (hEj row hrow).lb.neg
 refine av (ed (K' := K + K + 1) (hT.sl.ext hE02) hj hi hR0 hR (hXj.ext hE02) (hXi.ext hE02) ((hEi row hrow).ext hE02) hneg (by omega) (by omega) (fun r hr => ((hEi row hrow).lb.mul (hEj r hr).lb).add ((hEj row hrow).lb.neg.mul (hEi r hr).lb))) rfl ?_
 rintro v w3 ⟨g3, rfl, hO3, hE3⟩
 refine ⟨fun _ h => h.trans hE3, ?_⟩
 have hE13 := hE12.trans hE3
 repeat' (first|refine aC (j := j) (a := some ⟨g, 0, none⟩) rfl rfl ⟨_, _, rfl⟩ (by omega) ?_)
 refine ci (j := j) (u := ⟨some ⟨g3, 0, none⟩, R, R⟩) rfl rfl (hT1.ext hE13) (by omega) (fun w4 hc4 hT4 => ⟨fun h => (nomatch h), ?_⟩)
 have s2 := hE02.size
 have lo3 := hO3.low
 have hne3 : g3 ≠ g := by omega
 have hO4 := (hO3.gbN (hT1.ext hE13) (bZ _ _) (bG hc4) hne3).mono s2
 have hG4 : w.grownBy w4 (some g) := bL (oN (hE1.trans hE13)) (bG hc4) (fun k e => .inl e)
 have hb14 : Blk w4 g1 33 xd.cells := (hb1.ext hE13).chg hc4 (by omega)
 have hd4 : Ent false K4 w4 xd.val d := (hd.ext (hE1.trans hE13)).weak'.gbN (hT1.ext hE13) (bZ _ _) (bG hc4)
 obtain ⟨h0, hb4, hEn4⟩ := hO4.ex
 have s4 := hc4.size
 have s3 := hE3.size
 have l3 := hO3.lt
 have hne13 : g1 ≠ g3 := by have := hb1.lt; have := hE12.size; omega
 repeat' (first|refine aC (j := j) (a := some ⟨g, 0, none⟩) rfl rfl ⟨_, _, rfl⟩ (by omega) ?_|refine aU (j := j) (a1 := some ⟨g3, 0, none⟩) (l1 := R) (c1 := R) rfl hT4.sl (by omega) (by simp [setF]) ?_|refine ai rfl ?_|refine aa ?_|refine aj ?_|refine ah rfl ?_|refine ae ?_|refine bh rfl ?_|refine aA ?_)
 refine aY (ι := Nat × (Nat → IH)) [10, 11, 39, 40, 41, 42, 43, 44, 45, 46, 47, 48, 49, 50, 51, 52, 53, 54, 55, 56, 57] (fun t => [(39, .int .i64 (t.1 : Int))])
  (fun t w' => (t.1 ≤ R ∧ w4.grownBy w' (some g3)) ∧ Blk w' g3 33 (rowC R t.2) ∧ (∀ r, r < t.1 → Ent true K' w' (t.2 r).val ((fi row * fj r + (- fj row) * fi r) / d)) ∧ ∀ r, t.1 ≤ r → r < R → Ent true (K + K + 1) w' (t.2 r).val (fi row * fj r + (- fj row) * fi r)) (fun t => R - t.1)
  (0, h0) ⟨rfl, trivial⟩ ⟨⟨by omega, bG (Chg.refl _ _)⟩, hb4, fun i hi => by simp only at hi; omega, fun r _ hr => hEn4 r hr⟩ ?_
 clear hEn4
 rintro ⟨r, h⟩ ξ w5 ⟨⟨hr, hG5⟩, hb5, hEn5, hEo5⟩
 simp only at hr hb5 hEn5 hEo5
 show CW _ _ _ _ (over [(39, .int .i64 (r : Int))] _) w5
 have hT5 := hT4.gb hG5 (fun e => hne3 (by cases e; rfl))
 have hb15 := hb14.gb hG5 (fun e => hne13 (by cases e; rfl))
 have hd5 := hd4.gbN hb4 (bF _ _) hG5
 rcases Nat.lt_or_ge r R with hrR | hrR
 ·have hor := hEo5 r (Nat.le_refl _) hrR
  repeat' (first|refine bC rfl rfl (by omega) ?_|refine aa ?_|refine aj ?_|refine ah rfl ?_|refine ae ?_|refine aD rfl ?_|refine aF ?_)
  refine aA ?_
  repeat' (first|refine aT (j := r) (a := some ⟨g3, 0, none⟩) rfl rfl ⟨_, _, rfl⟩ (by omega) ?_|refine bu (j := r) (a := some ⟨g3, 0, none⟩) rfl hb5.sl ⟨_, _, rfl⟩ (by omega) ?_|refine ai rfl ?_|refine aj ?_|refine ah rfl ?_)
  refine aB (fun g6 w6 hn6 => ⟨fun _ _ => trivial, ?_⟩)
  have hb6 : Blk w6 g6 33 (intL false none 0 0) := hn6.blk
  repeat' (first|refine ai rfl ?_)
  refine ax (n := 2) (vs := (h r).cells) rfl rfl rfl rfl hb6 rfl (fun w7 hc7 hb7 => ⟨fun _ _ => trivial, ?_⟩)
  have hE57 : Ex w5 w7 := hn6.ex.chg hc7 hn6.lo
  repeat' (first|refine aa ?_|refine ae ?_)
  refine bi (late := [13]) (plan := [(0, none), (1, none), (2, none), (3, none), (4, none), (5, none), (6, none), (7, some true), (8, none), (9, none), (10, none), (11, none), (12, none), (13, some false)]) (fun w' => Ex w7 w') bB (by kernel_rfl) (Ex.refl w7).drew ?_
  repeat' (first|refine aC (j := j) (a := some ⟨g, 0, none⟩) rfl rfl ⟨_, _, rfl⟩ (by omega) ?_|refine aU (j := j) (a := some ⟨g, 0, none⟩) (a1 := some ⟨g3, 0, none⟩) (l1 := R) (c1 := R) rfl (fun _ h => (hT5.ext (hE57.trans h)).sl) (by omega) (by simp [setF]) ?_|refine aN (g := g6) rfl (fun _ h => hb7.ext h) rfl ?_|refine aN (g := g1) rfl (fun _ h => hb15.ext (hE57.trans h)) rfl ?_|refine ai rfl ?_)
  have hE57d := hE57.drew
  refine av (bn (hor.ext hE57d).k (hd5.ext hE57d).k (by omega) (by omega)) rfl ?_
  rintro v w8 ⟨q, rm, rfl, hq, hrm, hE8⟩
  refine ⟨fun _ h => h.trans hE8, ?_⟩
  obtain ⟨u, rfl⟩ := hq.ih
  have hE58 := hE57d.trans hE8
  repeat' (first|refine aS rfl rfl ?_|refine aT (j := r) (a := some ⟨g3, 0, none⟩) rfl rfl ⟨_, _, rfl⟩ (by omega) ?_|refine ai rfl ?_)
  refine ch (j := r) (u := u) rfl rfl (hb5.ext hE58) (by omega) (fun w9 hc9 hb9 => ⟨fun h => (nomatch h), ?_⟩)
  repeat' (first|refine ai rfl ?_|refine aa ?_|refine ah rfl ?_|refine ae ?_|refine aZ rfl rfl (by omega) (by omega) ?_|refine aK ?_)
  refine ⟨⟨(r + 1, setF h r u), ⟨⟨hrR, bL (bL hG5 (lA hE58) (fun k e => (nomatch e))) (bG hc9) (fun k e => .inl e)⟩, hb9, RO.fill (f := fun r => (fi row * fj r + (- fj row) * fi r) / d) (fun k hk => (hEn5 k hk).ext hE58) (hb5.ext hE58) (Ent.of hq (hlb r hrR)) hc9, fun k hk1 hk2 => ?_⟩, by simp only; omega, rfl, trivial⟩, (by (repeat (first|exact aE _ _ _|refine aw rfl ?_|refine au rfl ?_|refine ak rfl ?_|refine ao rfl ?_)))⟩
  simp only at hk1 ⊢
  rw [aO _ _ (by omega)]
  exact ((hEo5 k (by omega) hk2).ext hE58).gbN (hb5.ext hE58) (bF _ _) (bG hc9)
 ·have erR : R = r := by omega
  subst erR
  repeat' (first|refine bA rfl rfl (by omega) ?_|refine aa ?_|refine aj ?_|refine ah rfl ?_|refine ae ?_|refine ay rfl ?_|refine aV ?_|refine aL ?_|refine aW ?_)
  exact jq rfl ⟨g3, by omega, bL hG4 hG5 (fun k e => .inr (by cases e; omega)), hT5, ⟨by omega, Nat.le_refl _, h, hb5, hEn5⟩⟩
set_option maxHeartbeats 1000000 in
theorem fy {cn c4 : Bool} {K K4 n R j first g cp lo tc : Nat} {w : World} {at' : Option Addr} {s : Nat → SD} {vm : Value} {m : Int} {f : Nat → Int} (hT : Sl w at' (topC n s)) (hj : j < n) (hR0 : 1 ≤ R) (hR : R ≤ 32) (hne : ∀ ad, at' = some ad → ad.block ≠ g)
  (hs : s j = ⟨some ⟨g, 0, none⟩, R, cp⟩) (hO : RO cn K w lo g cp R f) (hm : Ent c4 K4 w vm m) (hm0 : m ≠ 0) (hK : K < 17592186044415) (hK4 : K4 ≤ K) (hf : first ≤ R) :
  CallsR Tryz.prog 97 #[.slice at' n tc, .int .i64 j, .int .i64 first, vm] w fun _ w' => w.grownBy w' (some g) ∧ RO cn K w' lo g cp R (fun r => if first ≤ r then f r % m else f r) := by
 obtain ⟨xm, rfl⟩ := hm.ih
 obtain ⟨h0, hb0, hEn0⟩ := hO.ex
 have hcp := hO.le
 have hpt := hT.plain (by rw [b9]; omega)
 refine aH (args := [_, _, _, _]) Tryz.func97 rfl rfl ?_
 refine aj ?_
 refine ah rfl ?_
 refine bH (vs := xm.cells) rfl (fun g1 w1 hn1 => ⟨fun _ _ => trivial, ?_⟩)
 have hb1 := hn1.blk
 have hE1 := hn1.ex
 have lo1 := hn1.lo
 have lg := hb0.lt
 repeat' (first|refine ai rfl ?_|refine aa ?_|refine aj ?_|refine ah rfl ?_|refine ae ?_|refine aA ?_)
 refine aY (ι := Nat × (Nat → IH)) [8, 10, 11, 12, 13, 14, 15, 16, 17, 18, 19, 20, 21, 22, 23, 24, 25, 26, 27, 28, 29, 30, 31, 32, 33, 34, 35, 36, 37] (fun t => [(8, .int .i64 (t.1 : Int))])
  (fun t w' => (first ≤ t.1 ∧ t.1 ≤ R ∧ w1.grownBy w' (some g)) ∧ Blk w' g 33 (rowC cp t.2) ∧ ∀ r, r < R → Ent cn K w' (t.2 r).val (if first ≤ r ∧ r < t.1 then f r % m else f r)) (fun t => R - t.1)
  (first, h0) ⟨rfl, trivial⟩ ⟨⟨Nat.le_refl _, hf, bG (Chg.refl _ _)⟩, hb0.ext hE1, fun r hr => by simp only; rw [if_neg (by omega)]; exact (hEn0 r hr).ext hE1⟩ ?_
 rintro ⟨r, h⟩ ξ w2 ⟨⟨hfr, hr, hG2⟩, hb2, hEn2⟩
 simp only at hfr hr hb2 hEn2
 show CW _ _ _ _ (over [(8, .int .i64 (r : Int))] _) w2
 have hT2 : Sl w2 at' (topC n s) := (hT.ext hE1).gb hG2 (fun ad e he => hne ad e (by cases he; rfl))
 have hb12 := hb1.gb hG2 (fun e => by cases e; omega)
 have hm2 := (hm.ext hE1).gbN (hb0.ext hE1) (bF _ _) hG2
 rcases Nat.lt_or_ge r R with hrR | hrR
 ·have her := hEn2 r hrR
  rw [if_neg (by omega)] at her
  repeat' (first|refine aC (j := j) (a := at') rfl rfl hpt (by omega) ?_|refine aU (j := j) (a := at') rfl hT2 (by omega) hs ?_|refine bC rfl rfl (by omega) ?_|refine ai rfl ?_|refine aa ?_|refine aj ?_|refine ah rfl ?_|refine ae ?_|refine bh rfl ?_|refine aD rfl ?_|refine aF ?_)
  refine aA ?_
  skip
  refine bi (late := [19]) (plan := [(0, none), (1, none), (2, none), (3, none), (4, none), (5, none), (6, none), (7, none), (8, none), (9, none), (10, none), (11, none), (12, none), (13, some true), (14, none), (15, none), (16, none), (17, none), (18, none), (19, some false)]) (fun w' => Ex w2 w') bB (by kernel_rfl) (Ex.refl w2).drew ?_
  repeat' (first|refine aC (j := j) (a := at') rfl rfl hpt (by omega) ?_|refine aU (j := j) (a := at') rfl (fun _ h => hT2.ext h) (by omega) hs ?_|refine aT (j := r) (a := some ⟨g, 0, none⟩) rfl rfl ⟨_, _, rfl⟩ (by omega) ?_|refine bu (j := r) (n := cp) (a := some ⟨g, 0, none⟩) rfl (fun _ h => (hb2.ext h).sl) ⟨_, _, rfl⟩ (by omega) ?_|refine aN (g := g1) rfl (fun _ h => hb12.ext h) rfl ?_|refine ai rfl ?_)
  have hEd := (Ex.refl w2).drew
  refine av (bn (her.ext hEd).k (hm2.ext hEd).k (by omega) (by omega)) rfl ?_
  rintro v w3 ⟨q, rm, rfl, hq, hrm, hE3⟩
  refine ⟨fun _ h => h.trans hE3, ?_⟩
  rw [if_neg hm0] at hrm
  obtain ⟨u, rfl⟩ := hrm.ih
  have hE23 := hEd.trans hE3
  repeat' (first|refine aS rfl rfl ?_|refine aT (j := r) (a := some ⟨g, 0, none⟩) rfl rfl ⟨_, _, rfl⟩ (by omega) ?_|refine ai rfl ?_)
  refine ch (j := r) (n := cp) (u := u) rfl rfl (hb2.ext hE23) (by omega) (fun w4 hc4 hb4 => ⟨fun h => (nomatch h), ?_⟩)
  repeat' (first|refine ai rfl ?_|refine aa ?_|refine ah rfl ?_|refine ae ?_|refine aZ rfl rfl (by omega) (by omega) ?_|refine aK ?_)
  refine ⟨⟨(r + 1, setF h r u), ⟨⟨by simp only; omega, hrR, bL (bL hG2 (lA hE23) (fun k e => (nomatch e))) (bG hc4) (fun k e => .inl e)⟩, hb4, fun k hk => ?_⟩, by simp only; omega, rfl, trivial⟩, (by (repeat (first|exact aE _ _ _|refine aw rfl ?_|refine au rfl ?_|refine ak rfl ?_|refine ao rfl ?_)))⟩
  simp only
  by_cases hkr : k = r
  ·subst hkr
   rw [aJ, if_pos ⟨hfr, Nat.lt_succ_self _⟩]
   exact (Ent.of hrm ((hm.lb.mono hK4).mod _ hm0)).gbN (hb2.ext hE23) (bF _ _) (bG hc4)
  ·rw [aO _ _ hkr]
   have := ((hEn2 k hk).ext hE23).gbN (hb2.ext hE23) (bF _ _) (bG hc4)
   by_cases hfk : first ≤ k ∧ k < r
   ·rw [if_pos hfk] at this; rw [if_pos (by omega)]; exact this
   ·rw [if_neg hfk] at this; rw [if_neg (by omega)]; exact this
 ·have erR : R = r := by omega
  subst erR
  repeat' (first|refine aC (j := j) (a := at') rfl rfl hpt (by omega) ?_|refine aU (j := j) (a := at') rfl hT2 (by omega) hs ?_|refine bA rfl rfl (by omega) ?_|refine ai rfl ?_|refine aa ?_|refine aj ?_|refine ah rfl ?_|refine ae ?_|refine bh rfl ?_|refine ay rfl ?_|refine aV ?_|refine aL ?_|refine aW ?_)
  refine jq rfl ⟨bL (oN hE1) hG2 (fun k e => .inl e), hO.low, hcp, h, hb2, fun k hk => ?_⟩
  have := hEn2 k hk
  by_cases hfk : first ≤ k
  ·rw [if_pos ⟨hfk, hk⟩] at this; rw [if_pos hfk]; exact this
  ·rw [if_neg (by omega)] at this; rw [if_neg hfk]; exact this
end Go.Proofs.YtppipmkpmmdcjaaGreat
namespace Go.Proofs.YtppipmkpmmdcjaaGreat
open Go.W Go.LM Go.LA
abbrev natsL (xs : List Nat) : List Value := xs.map fun (m : Nat) => Value.int .i64 m
set_option maxHeartbeats 1000000 in
theorem qN {cn : Bool} {K n R tc lc : Nat} {w : World} {at' la : Option Addr} {s : Nat → SD} {C : Nat → Nat → Int} {xs : List Nat} (hT : Sl w at' (topC n s)) (hX : ∀ j, j < n → RX cn K w (s j) R (C j)) (hl : Sl w la (natsL xs)) (hn0 : 1 ≤ n) (hn : n ≤ 16) (hxl : xs.length ≤ 32) (hxs : ∀ i, i < xs.length → xs.getD i 0 < R) :
  CallsR Tryz.prog 45 #[.slice at' n tc, .slice la xs.length lc] w (RetMO K w xs.length n fun i j => C j (xs.getD i 0)) := by
 have hpt := hT.plain (by rw [b9]; omega)
 obtain ⟨L, hL⟩ : ∃ L, xs.length = L := ⟨_, rfl⟩
 refine aH (args := [_, _]) Tryz.func45 rfl rfl ?_
 rw [hL] at hxl hxs ⊢
 repeat' (first|refine et (n := L) rfl rfl (by omega) (by omega) (fun g w1 hn1 => ⟨fun _ _ => trivial, ?_⟩)|refine ai rfl ?_|refine aa ?_|refine aj ?_|refine ah rfl ?_|refine ae ?_|refine bh rfl ?_|refine aA ?_)
 refine aY (ι := Nat × (Nat → Nat) × (Nat → Nat)) [6, 7, 8, 14, 15, 16, 17, 18, 19, 20, 21, 22, 23, 24, 25, 26, 27, 28, 29, 30, 31, 32, 33, 34, 35, 36, 37, 38, 39, 40, 41, 42, 43, 44, 45] (fun t => [(14, .int .i64 (t.1 : Int))])
  (fun t w' => t.1 ≤ L ∧ Ex w w' ∧ MP true K w' w.heap.size g L n t.1 t.2.1 t.2.2 (fun i j => C j (xs.getD i 0))) (fun t => L - t.1)
  (0, fun _ => 0, fun _ => 0) ⟨rfl, trivial⟩ ⟨by omega, hn1.ex, MP.start hn1.blk hn1.lo⟩ ?_
 rintro ⟨i, gs, cp⟩ ξ w2 ⟨hi, hE2, hP2⟩
 simp only at hi hP2
 show CW _ _ _ _ (over [(14, .int .i64 (i : Int))] _) w2
 rcases Nat.lt_or_ge i L with hiL | hiL
 ·have hrow := hxs i hiL
  have hpl := hl.plain (by rw [List.length_map]; omega)
  repeat' (first|refine bC rfl rfl (by omega) ?_|refine aC (j := i) (a := la) rfl rfl hpl (by omega) ?_|refine bI (j := i) (a := la) (xs := xs) rfl (hl.ext hE2) (by omega) ?_|refine ep (n := n) rfl rfl (by omega) (by omega) (fun g3 w3 hn3 => ⟨fun _ _ => trivial, ?_⟩)|refine aC (j := i) (a := some ⟨g, 0, none⟩) rfl rfl ⟨_, _, rfl⟩ (by omega) ?_|refine ai rfl ?_|refine aa ?_|refine aj ?_|refine ah rfl ?_|refine ae ?_|refine bh rfl ?_|refine aD rfl ?_|refine aA ?_|refine aF ?_)
  refine ci (j := i) (u := ⟨some ⟨g3, 0, none⟩, n, n⟩) rfl rfl (hP2.top.ext hn3.ex) (by omega) (fun w4 hc4 hT4 => ⟨fun _ _ => trivial, ?_⟩)
  have s2 := hE2.size
  have lo3 := hn3.lo
  have low := hP2.low
  obtain ⟨hb4, hne3, hT4', hnext⟩ := hP2.snoc hn3 hc4 hT4 (by omega)
  have hE4 := (hE2.trans hn3.ex).chg hc4 low
  repeat' (first|refine ai rfl ?_|refine aa ?_|refine aj ?_|refine ah rfl ?_|refine ae ?_|refine bh rfl ?_|refine aA ?_)
  refine aY (ι := Nat × (Nat → IH)) [8, 27, 28, 29, 30, 31, 32, 33, 34, 35, 36, 37, 38, 39, 40, 41, 42, 43, 44] (fun t => [(27, .int .i64 (t.1 : Int))])
   (fun t w' => (t.1 ≤ n ∧ w4.grownBy w' (some g3)) ∧ Blk w' g3 33 (rowC n t.2) ∧ ∀ j, j < t.1 → Ent true K w' (t.2 j).val (C j (xs.getD i 0))) (fun t => n - t.1)
   (0, fun _ => ih0) ⟨rfl, trivial⟩ ⟨⟨by omega, bG (Chg.refl _ _)⟩, hb4, fun i hi => by simp only at hi; omega⟩ ?_
  rintro ⟨j, h⟩ ξ2 w5 ⟨⟨hj, hG5⟩, hb5, hEn5⟩
  simp only at hj hb5 hEn5
  show CW _ _ _ _ (over [(27, .int .i64 (j : Int))] _) w5
  have hE5 : Ex w w5 := hE4.gb hG5 (fun k e => by cases e; omega)
  obtain ⟨hT5, hfin⟩ := hnext w5 hG5
  rcases Nat.lt_or_ge j n with hjn | hjn
  ·obtain ⟨p, d, hh, e1, e2, hp, hS, hEn⟩ := ((hX j hjn).ext hE5).get (by omega)
   repeat' (first|refine bC rfl rfl (by omega) ?_|refine aa ?_|refine aj ?_|refine ah rfl ?_|refine ae ?_|refine aD rfl ?_|refine aF ?_)
   refine aA ?_
   repeat' (first|refine ai rfl ?_|refine aa ?_|refine aj ?_|refine ah rfl ?_|refine ae ?_)
   refine bi (late := [14]) (plan := [(0, none), (1, none), (2, none), (3, none), (4, none), (5, none), (6, none), (7, none), (8, none), (9, none), (10, none), (11, none), (12, some true), (13, none), (14, some false)]) (fun w' => Ex w5 w') bB (by kernel_rfl) (Ex.refl w5).drew ?_
   repeat' (first|refine aC (j := i) (a := some ⟨g, 0, none⟩) rfl rfl ⟨_, _, rfl⟩ (by omega) ?_|refine aU (j := i) (a := some ⟨g, 0, none⟩) (a1 := some ⟨g3, 0, none⟩) (l1 := n) (c1 := n) rfl (fun _ h => (hT5.ext h).sl) (by omega) (by simp [setF]) ?_|refine aC (j := j) (a := at') rfl rfl hpt (by omega) ?_|refine aU (j := j) (a := at') rfl (fun _ h => hT.ext (hE5.trans h)) (by omega) e1 ?_|refine aT (j := xs.getD i 0) (a := p) rfl rfl hp (by omega) ?_|refine bu (j := xs.getD i 0) (a := p) rfl (fun _ h => hS.ext h) hp (by omega) ?_|refine ai rfl ?_)
   refine av (dQ ((hEn _ hrow).ext (Ex.refl w5).drew).k) rfl ?_
   rintro v w6 ⟨hI6, hE6⟩
   refine ⟨fun _ h => h.trans hE6, ?_⟩
   obtain ⟨u, rfl⟩ := hI6.ih
   have hE56 : Ex w5 w6 := (Ex.refl w5).drew.trans hE6
   repeat' (first|refine aT (j := j) (a := some ⟨g3, 0, none⟩) rfl rfl ⟨_, _, rfl⟩ (by omega) ?_)
   refine ch (j := j) (u := u) rfl rfl (hb5.ext hE56) (by omega) (fun w7 hc7 hb7 => ⟨fun h => (nomatch h), ?_⟩)
   repeat' (first|refine ai rfl ?_|refine aa ?_|refine ah rfl ?_|refine ae ?_|refine aZ rfl rfl (by omega) (by omega) ?_|refine aK ?_)
   exact ⟨⟨(j + 1, setF h j u), ⟨⟨hjn, bL (bL hG5 (lA hE56) (fun k e => (nomatch e))) (bG hc7) (fun k e => .inl e)⟩, hb7, RO.fill (f := fun j => C j (xs.getD i 0)) (fun k hk => (hEn5 k hk).ext hE56) (hb5.ext hE56) (Ent.of hI6 (hEn _ hrow).lb) hc7⟩, by simp only; omega, rfl, trivial⟩, (by (repeat (first|exact aE _ _ _|refine aw rfl ?_|refine au rfl ?_|refine ak rfl ?_|refine ao rfl ?_)))⟩
  ·have ejn : n = j := by omega
   repeat' (first|refine bA rfl rfl (by omega) ?_|refine ai rfl ?_|refine aa ?_|refine aj ?_|refine ah rfl ?_|refine ae ?_|refine aZ rfl rfl (by omega) (by omega) ?_|refine ay rfl ?_|refine aV ?_|refine aL ?_|refine aW ?_|refine aK ?_)
   exact ⟨⟨(i + 1, setF gs i g3, setF cp i n), ⟨hiL, hE5, hfin ⟨by omega, Nat.le_refl _, h, hb5, fun k hk => hEn5 k (by omega)⟩⟩, by simp only; omega, rfl, trivial⟩, (by (repeat (first|exact aE _ _ _|refine aw rfl ?_|refine au rfl ?_|refine ak rfl ?_|refine ao rfl ?_)))⟩
 ·have eiL : L = i := by omega
  subst eiL
  repeat' (first|refine bA rfl rfl (by omega) ?_|refine ai rfl ?_|refine aa ?_|refine aj ?_|refine ah rfl ?_|refine ae ?_|refine ay rfl ?_|refine aV ?_|refine aL ?_|refine aW ?_|refine aR ?_)
  exact bK rfl (rt rfl) ⟨g, gs, cp, rfl, hP2.fin, hE2⟩
end Go.Proofs.YtppipmkpmmdcjaaGreat
namespace Go.Proofs.YtppipmkpmmdcjaaGreat
open Go.W Go.LM Go.LA
set_option maxHeartbeats 2000000 in
theorem py {cn c2 : Bool} {K1 K2 n R g tc uc : Nat} {w : World} {ua : Option Addr} {s su : Nat → SD} {C U : Nat → Nat → Int} (hT : Blk w g 27 (topC n s)) (hX : ∀ j, j < n → RX cn K1 w (s j) R (C j)) (hU : MX c2 K2 w ua n n su U)
  (hn : 1 ≤ n ∧ n ≤ 16) (hR0 : 1 ≤ R) (hR : R ≤ 32) (hK : K1 + K2 + 1 < 17592186044416) :
  CallsR Tryz.prog 76 #[.slice (some ⟨g, 0, none⟩) n tc, .slice ua n uc] w fun _ w' => ∃ gs cp : Nat → Nat, w.grownBy w' (some g) ∧ Blk w' g 27 (topC n fun j => ⟨some ⟨gs j, 0, none⟩, R, cp j⟩) ∧ ∀ j, j < n → RO true (K1 + K2 + 1) w' w.heap.size (gs j) (cp j) R (fun i => sm n fun k => C k i * U k j) := by
 have hpu := hU.plain (by omega)
 have lg := hT.lt
 have hsum : ∀ m i j, m ≤ n → i < R → j < n → Lb (K1 + K2 + 1) (sm m fun k => C k i * U k j) := fun m i j hm hi hj => kg (fun k hk => (hX k (by omega)).ent hi) (fun k hk => hU.lb (by omega) hj) (by omega)
 refine aH (args := [_, _]) Tryz.func76 rfl rfl ?_
 repeat' (first|refine et (n := n) rfl rfl (by omega) (by omega) (fun g1 w1 hn1 => ⟨fun _ _ => trivial, ?_⟩)|refine ai rfl ?_|refine aa ?_|refine aj ?_|refine ah rfl ?_|refine ae ?_|refine bh rfl ?_|refine aA ?_)
 have lo1 := hn1.lo
 refine aY (ι := Nat × (Nat → Nat) × (Nat → Nat)) [5, 6, 7, 8, 14, 15, 16, 17, 18, 19, 20, 21, 22, 23, 24, 25, 26, 27, 28, 29, 30, 31, 32, 33, 34, 35, 36, 37, 38, 39, 40, 41, 42, 43, 44, 45, 46, 47, 48, 49, 50, 51, 52, 53, 54, 55, 56, 57, 58, 59, 60, 61, 62, 63, 64, 65, 66, 67, 68, 69, 70, 71] (fun t => [(14, .int .i64 (t.1 : Int))])
  (fun t w' => t.1 ≤ n ∧ Ex w w' ∧ MP true (K1 + K2 + 1) w' w.heap.size g1 n R t.1 t.2.1 t.2.2 (fun j i => sm n fun k => C k i * U k j)) (fun t => n - t.1)
  (0, fun _ => 0, fun _ => 0) ⟨rfl, trivial⟩ ⟨by omega, hn1.ex, MP.start hn1.blk hn1.lo⟩ ?_
 rintro ⟨j, gs, cp⟩ ξ w2 ⟨hj, hE2, hP2⟩
 simp only at hj hP2
 show CW _ _ _ _ (over [(14, .int .i64 (j : Int))] _) w2
 rcases Nat.lt_or_ge j n with hjn | hjn
 ·obtain ⟨p0, d0, hh0, e0, _, hp0, _, _⟩ := ((hX j hjn).ext hE2).get (by omega)
  repeat' (first|refine bC rfl rfl (by omega) ?_|refine aC (j := j) (a := some ⟨g, 0, none⟩) rfl rfl ⟨_, _, rfl⟩ (by omega) ?_|refine aU (j := j) (a := some ⟨g, 0, none⟩) (s := s) (n := n) rfl (hT.ext hE2).sl (by omega) e0 ?_|refine ep (n := R) rfl rfl (by omega) (by omega) (fun g3 w3 hn3 => ⟨fun _ _ => trivial, ?_⟩)|refine aC (j := j) (a := some ⟨g1, 0, none⟩) rfl rfl ⟨_, _, rfl⟩ (by omega) ?_|refine ai rfl ?_|refine aa ?_|refine aj ?_|refine ah rfl ?_|refine ae ?_|refine bh rfl ?_|refine aD rfl ?_|refine aA ?_|refine aF ?_)
  refine ci (j := j) (u := ⟨some ⟨g3, 0, none⟩, R, R⟩) rfl rfl (hP2.top.ext hn3.ex) (by omega) (fun w4 hc4 hT4 => ⟨fun _ _ => trivial, ?_⟩)
  have s2 := hE2.size
  have lo3 := hn3.lo
  have low := hP2.low
  obtain ⟨hb4, hne3, hT4', hnext⟩ := hP2.snoc hn3 hc4 hT4 (by omega)
  have hE4 := (hE2.trans hn3.ex).chg hc4 low
  repeat' (first|refine aC (j := j) (a := some ⟨g1, 0, none⟩) rfl rfl ⟨_, _, rfl⟩ (by omega) ?_|refine aU (j := j) (a := some ⟨g1, 0, none⟩) (a1 := some ⟨g3, 0, none⟩) (l1 := R) (c1 := R) rfl hT4'.sl (by omega) (by simp [setF]) ?_|refine ai rfl ?_|refine aa ?_|refine aj ?_|refine ah rfl ?_|refine ae ?_|refine bh rfl ?_|refine aA ?_)
  refine aY (ι := Nat × (Nat → IH)) [6, 7, 8, 31, 32, 33, 34, 35, 36, 37, 38, 39, 40, 41, 42, 43, 44, 45, 46, 47, 48, 49, 50, 51, 52, 53, 54, 55, 56, 57, 58, 59, 60, 61, 62, 63, 64, 65, 66, 67, 68, 69, 70] (fun t => [(31, .int .i64 (t.1 : Int))])
   (fun t w' => (t.1 ≤ R ∧ w4.grownBy w' (some g3)) ∧ Blk w' g3 33 (rowC R t.2) ∧ (∀ i, i < t.1 → Ent true (K1 + K2 + 1) w' (t.2 i).val (sm n fun k => C k i * U k j)) ∧ ∀ i, t.1 ≤ i → t.2 i = ih0) (fun t => R - t.1)
   (0, fun _ => ih0) ⟨rfl, trivial⟩ ⟨⟨by omega, bG (Chg.refl _ _)⟩, hb4, fun i hi => by simp only at hi; omega, fun i _ => rfl⟩ ?_
  rintro ⟨i, h⟩ ξ2 w5 ⟨⟨hi, hG5⟩, hb5, hEn5, hz5⟩
  simp only at hi hb5 hEn5 hz5
  show CW _ _ _ _ (over [(31, .int .i64 (i : Int))] _) w5
  have hE5 : Ex w w5 := hE4.gb hG5 (fun k e => by cases e; omega)
  obtain ⟨hT5, hfin⟩ := hnext w5 hG5
  rcases Nat.lt_or_ge i R with hiR | hiR
  ·repeat' (first|refine bC rfl rfl (by omega) ?_|refine ai rfl ?_|refine aa ?_|refine aj ?_|refine ah rfl ?_|refine ae ?_|refine bh rfl ?_|refine aD rfl ?_|refine aA ?_|refine aF ?_)
   refine aY (ι := Nat × (Nat → IH)) [7, 8, 36, 37, 38, 39, 40, 41, 42, 43, 44, 45, 46, 47, 48, 49, 50, 51, 52, 53, 54, 55, 56, 57, 58, 59, 60, 61, 62, 63, 64, 65, 66, 67, 68, 69] (fun t => [(36, .int .i64 (t.1 : Int))])
    (fun t w' => (t.1 ≤ n ∧ w4.grownBy w' (some g3)) ∧ Blk w' g3 33 (rowC R t.2) ∧ (∀ i', i' < i → Ent true (K1 + K2 + 1) w' (t.2 i').val (sm n fun k => C k i' * U k j)) ∧ (∀ i', i + 1 ≤ i' → t.2 i' = ih0) ∧ Ent true (K1 + K2 + 1) w' (t.2 i).val (sm t.1 fun k => C k i * U k j)) (fun t => n - t.1)
    (0, h) ⟨rfl, trivial⟩ ⟨⟨by omega, hG5⟩, hb5, hEn5, fun i' hi' => hz5 i' (by omega), by simp only; rw [hz5 i (Nat.le_refl _)]; exact kU _⟩ ?_
   clear hb5 hEn5 hz5 hG5 hE5 hT5 hfin
   rintro ⟨k, h⟩ ξ3 w5 ⟨⟨hk, hG5⟩, hb5, hEn5, hz5, hcur⟩
   simp only at hk hb5 hEn5 hz5 hcur
   show CW _ _ _ _ (over [(36, .int .i64 (k : Int))] _) w5
   have hE5 : Ex w w5 := hE4.gb hG5 (fun k e => by cases e; omega)
   obtain ⟨hT5, hfin⟩ := hnext w5 hG5
   rcases Nat.lt_or_ge k n with hkn | hkn
   ·obtain ⟨p, d, hh, e1, e2, hp, hS, hEn⟩ := ((hX k hkn).ext hE5).get (by omega)
    obtain ⟨p', d', hh', e1', e2', hp', hS', hEn'⟩ := (hU.ext hE5).get hkn (by omega)
    have n1 := hEn i hiR
    have n2 := hEn' j hjn
    repeat' (first|refine bC rfl rfl (by omega) ?_|refine aa ?_|refine aj ?_|refine ah rfl ?_|refine ae ?_|refine aD rfl ?_|refine aF ?_)
    refine aA ?_
    repeat' (first|refine ai rfl ?_|refine aa ?_|refine aj ?_|refine ah rfl ?_|refine ae ?_)
    refine cD (ι := Nat × IH) [8, 39, 40, 41, 42, 43, 44, 45, 46, 47, 48, 49, 50, 51, 52, 53] (fun t => [(8, .pointer (some ⟨t.1, 0, none⟩))])
     (fun t w' => Ex w5 w' ∧ w5.heap.size ≤ t.1 ∧ Blk w' t.1 33 t.2.cells ∧ IntC 0 w' t.2.val (C k i * U k j)) ?_ ?_
    ·have hEx : Ex w5 w5.drew := (Ex.refl _).drew
     refine dN (fun w' => Ex w5 w') bB hEx ?_
     refine bp (fuel := 3) (by kernel_rfl) (by kernel_rfl) [0, 1, 2, 3, 4, 5, 6, 7, 8, 9, 10, 11, 12, 13] _ _ (by kernel_rfl) ?_
     repeat' (first|refine aC (j := k) (a := some ⟨g, 0, none⟩) rfl rfl ⟨_, _, rfl⟩ (by omega) ?_|refine aU (j := k) (a := some ⟨g, 0, none⟩) (n := n) (s := s) rfl (fun _ h => (hT.ext (hE5.trans h)).sl) (by omega) e1 ?_|refine aT (j := i) (a := p) rfl rfl hp (by omega) ?_|refine bu (j := i) (a := p) rfl (fun _ h => hS.ext h) hp (by omega) ?_|refine aC (j := k) (a := ua) rfl rfl hpu (by omega) ?_|refine aU (j := k) (a := ua) rfl (fun _ h => (hU.ext (hE5.trans h)).top) (by omega) e1' ?_|refine aT (j := j) (a := p') rfl rfl hp' (by omega) ?_|refine bu (j := j) (a := p') rfl (fun _ h => hS'.ext h) hp' (by omega) ?_|refine ai rfl ?_|refine ae ?_)
     refine az (fuel := 2) (rs := [14, 15]) (by kernel_rfl) (by kernel_rfl) rfl ?_
     simp only [List.forall_mem_cons, List.not_mem_nil, false_implies, implies_true, and_true]
     refine ⟨?_, ?_⟩
     ·refine av (cK (n1.ext hEx).k (n2.ext hEx).k (by omega)) rfl ?_
      rintro v14 w14 ⟨hI14, hE14⟩
      refine ⟨fun _ h => h.trans hE14, ?_⟩
      obtain ⟨y, rfl⟩ := hI14.ih
      replace hI14 := hI14.mono (Nat.zero_le _)
      replace hEx := hEx.trans hE14
      try replace hb15 := hb15.ext hE14
      refine ae ?_
      refine az (fuel := 1) (rs := [15]) (by kernel_rfl) (by kernel_rfl) rfl ?_
      rw [List.forall_mem_singleton]
      refine aB (fun g15 w15 hn15 => ⟨fun _ h => h.trans hn15.ex, ?_⟩)
      have hb15 : Blk w15 g15 33 (intL false none 0 0) := hn15.blk
      have lo15 : w5.heap.size ≤ g15 := Nat.le_trans hEx.size hn15.lo
      replace hEx := hEx.trans hn15.ex
      try replace hI14 := hI14.ext hn15.ex
      refine ae ?_
      refine az (fuel := 0) (rs := [16]) (by kernel_rfl) (by kernel_rfl) rfl ?_
      rw [List.forall_mem_singleton]
      refine ax (n := 2) (vs := y.cells) rfl rfl rfl rfl hb15 rfl (fun w16 hc16 hb16 => ⟨fun _ h => h.chg hc16 lo15, ?_⟩)
      replace hEx := hEx.chg hc16 lo15
      replace hI14 := hI14.gbN hb15 (aI _ _ _ _) (bG hc16)
      refine ae ?_
      refine bw (by kernel_rfl) ?_
      refine aa ?_
      exact ⟨⟨(_, y), ⟨hEx, lo15, hb16, hI14⟩, rfl, trivial⟩, (by (repeat (first|exact aM _ _|refine aw rfl ?_|refine au rfl ?_|refine ak rfl ?_|refine ao rfl ?_)))⟩
     ·refine aB (fun g15 w15 hn15 => ⟨fun _ h => h.trans hn15.ex, ?_⟩)
      have hb15 : Blk w15 g15 33 (intL false none 0 0) := hn15.blk
      have lo15 : w5.heap.size ≤ g15 := Nat.le_trans hEx.size hn15.lo
      replace hEx := hEx.trans hn15.ex
      try replace hI14 := hI14.ext hn15.ex
      refine ae ?_
      refine az (fuel := 1) (rs := [14]) (by kernel_rfl) (by kernel_rfl) rfl ?_
      rw [List.forall_mem_singleton]
      refine av (cK (n1.ext hEx).k (n2.ext hEx).k (by omega)) rfl ?_
      rintro v14 w14 ⟨hI14, hE14⟩
      refine ⟨fun _ h => h.trans hE14, ?_⟩
      obtain ⟨y, rfl⟩ := hI14.ih
      replace hI14 := hI14.mono (Nat.zero_le _)
      replace hEx := hEx.trans hE14
      try replace hb15 := hb15.ext hE14
      refine ae ?_
      refine az (fuel := 0) (rs := [16]) (by kernel_rfl) (by kernel_rfl) rfl ?_
      rw [List.forall_mem_singleton]
      refine ax (n := 2) (vs := y.cells) rfl rfl rfl rfl hb15 rfl (fun w16 hc16 hb16 => ⟨fun _ h => h.chg hc16 lo15, ?_⟩)
      replace hEx := hEx.chg hc16 lo15
      replace hI14 := hI14.gbN hb15 (aI _ _ _ _) (bG hc16)
      refine ae ?_
      refine bw (by kernel_rfl) ?_
      refine aa ?_
      exact ⟨⟨(_, y), ⟨hEx, lo15, hb16, hI14⟩, rfl, trivial⟩, (by (repeat (first|exact aM _ _|refine aw rfl ?_|refine au rfl ?_|refine ak rfl ?_|refine ao rfl ?_)))⟩
    ·rintro ⟨g6, y⟩ ξ4 w6 ⟨hE56, hlo6, hb6, hI6⟩
     simp only at hlo6 hb6 hI6
     show CW _ _ _ _ (over [(8, .pointer (some ⟨g6, 0, none⟩))] _) w6
     skip
     refine bi (late := [15]) (plan := [(0, none), (1, none), (2, none), (3, none), (4, none), (5, none), (6, none), (7, none), (8, none), (9, none), (10, none), (11, none), (12, none), (13, some true), (14, none), (15, some false)]) (fun w' => Ex w6 w') bB (by kernel_rfl) (Ex.refl w6).drew ?_
     repeat' (first|refine aC (j := j) (a := some ⟨g1, 0, none⟩) rfl rfl ⟨_, _, rfl⟩ (by omega) ?_|refine aU (j := j) (a := some ⟨g1, 0, none⟩) (a1 := some ⟨g3, 0, none⟩) (l1 := R) (c1 := R) rfl (fun _ h => (hT5.ext (hE56.trans h)).sl) (by omega) (by simp [setF]) ?_|refine aT (j := i) (a := some ⟨g3, 0, none⟩) rfl rfl ⟨_, _, rfl⟩ (by omega) ?_|refine bu (j := i) (n := R) (a := some ⟨g3, 0, none⟩) rfl (fun _ h => (hb5.ext (hE56.trans h)).sl) ⟨_, _, rfl⟩ (by omega) ?_|refine aN (g := g6) rfl (fun _ h => hb6.ext h) rfl ?_|refine ai rfl ?_)
     have hEd := (Ex.refl w6).drew
     have l1 := n1.lb.mul n2.lb
     refine av (eg ((hcur.ext hE56).ext hEd).k ((hI6.ext hEd).k l1) (by omega) (by omega)) rfl ?_
     rintro v w7 ⟨hI7, hE7⟩
     refine ⟨fun _ h => h.trans hE7, ?_⟩
     obtain ⟨u, rfl⟩ := hI7.ih
     have hE57 : Ex w5 w7 := hE56.trans (hEd.trans hE7)
     repeat' (first|refine aT (j := i) (a := some ⟨g3, 0, none⟩) rfl rfl ⟨_, _, rfl⟩ (by omega) ?_)
     refine ch (j := i) (u := u) rfl rfl (hb5.ext hE57) (by omega) (fun w8 hc8 hb8 => ⟨fun h => (nomatch h), ?_⟩)
     repeat' (first|refine ai rfl ?_|refine aa ?_|refine ah rfl ?_|refine ae ?_|refine aZ rfl rfl (by omega) (by omega) ?_|refine aK ?_)
     refine ⟨⟨(k + 1, setF h i u), ⟨⟨hkn, bL (bL hG5 (lA hE57) (fun k e => (nomatch e))) (bG hc8) (fun k e => .inl e)⟩, hb8, fun i' hi' => ?_, fun i' hi' => ?_, ?_⟩, by simp only; omega, rfl, trivial⟩, (by (repeat (first|exact aE _ _ _|refine aw rfl ?_|refine au rfl ?_|refine ak rfl ?_|refine ao rfl ?_)))⟩
     ·simp only; rw [aO _ _ (by omega)]; exact ((hEn5 i' hi').ext hE57).gbN (hb5.ext hE57) (bF _ _) (bG hc8)
     ·simp only; rw [aO _ _ (by omega)]; exact hz5 i' hi'
     ·simp only; rw [aJ]; exact (Ent.of hI7 (hsum (k + 1) i j hkn hiR hjn)).gbN (hb5.ext hE57) (bF _ _) (bG hc8)
   ·have ekn : n = k := by omega
    subst ekn
    repeat' (first|refine bA rfl rfl (by omega) ?_|refine ai rfl ?_|refine aa ?_|refine aj ?_|refine ah rfl ?_|refine ae ?_|refine aZ rfl rfl (by omega) (by omega) ?_|refine ay rfl ?_|refine aV ?_|refine aL ?_|refine aW ?_|refine aK ?_)
    refine ⟨⟨(i + 1, h), ⟨⟨hiR, hG5⟩, hb5, fun i' hi' => ?_, hz5⟩, by simp only; omega, rfl, trivial⟩, (by (repeat (first|exact aE _ _ _|refine aw rfl ?_|refine au rfl ?_|refine ak rfl ?_|refine ao rfl ?_)))⟩
    simp only at hi'
    by_cases hii : i' = i
    ·subst hii; exact hcur
    ·exact hEn5 i' (by omega)
  ·have eiR : R = i := by omega
   repeat' (first|refine bA rfl rfl (by omega) ?_|refine ai rfl ?_|refine aa ?_|refine aj ?_|refine ah rfl ?_|refine ae ?_|refine aZ rfl rfl (by omega) (by omega) ?_|refine ay rfl ?_|refine aV ?_|refine aL ?_|refine aW ?_|refine aK ?_)
   exact ⟨⟨(j + 1, setF gs j g3, setF cp j R), ⟨hjn, hE5, hfin ⟨by omega, Nat.le_refl _, h, hb5, fun k hk => hEn5 k (by omega)⟩⟩, by simp only; omega, rfl, trivial⟩, (by (repeat (first|exact aE _ _ _|refine aw rfl ?_|refine au rfl ?_|refine ak rfl ?_|refine ao rfl ?_)))⟩
 ·have ejn : n = j := by omega
  subst ejn
  repeat' (first|refine bA rfl rfl (by omega) ?_|refine ai rfl ?_|refine aa ?_|refine aj ?_|refine ah rfl ?_|refine ae ?_|refine ay rfl ?_|refine aV ?_|refine aL ?_|refine aW ?_)
  have hO := hP2.fin
  have hTw := hT.ext hE2
  refine kd (s := 1) rfl rfl ⟨_, _, rfl⟩ hTw hO.top.sl (by rw [b9]; omega) (by rw [b9, b9]; exact Nat.le_refl _) (nZ _ _) (fun w3 hc3 hb3 => ⟨fun _ _ => trivial, ?_⟩)
  repeat' (first|refine ae ?_)
  rw [List.drop_eq_nil_of_le (by rw [b9, b9]; exact Nat.le_refl _), List.append_nil] at hb3
  exact jq rfl ⟨gs, cp, bL (oN hE2) (bG hc3) (fun k e => .inl e), hb3, fun k hk => (hO.row k hk).gbN hTw (bZ _ _) (bG hc3) (by have := (hO.row k hk).low; omega)⟩
end Go.Proofs.YtppipmkpmmdcjaaGreat
namespace Go.Proofs.YtppipmkpmmdcjaaGreat
open Go.W Go.LM Go.LA
theorem RO.weak' {cn : Bool} {K n lo g cap : Nat} {w : World} {f : Nat → Int} (h : RO cn K w lo g cap n f) : RO false K w lo g cap n f := by
 obtain ⟨hh, h1, h2⟩ := h.ex; exact ⟨h.low, h.le, hh, h1, fun i hi => (h2 i hi).weak'⟩
def withId (r : Nat) (F : Mat) : Mat := fun x b => if x < r then F x b else idM (x - r) b
theorem ov (a : Value) (m : Int) (ha : ∃ x l c, a = .slice x l c := by exact ⟨_, _, _, rfl⟩) : NoI [a, .int .i64 m] := fun v hv m' e => by
 obtain ⟨x, l, c, rfl⟩ := ha
 simp only [List.mem_cons, List.not_mem_nil, or_false] at hv
 rcases hv with rfl | rfl <;> cases e
abbrev pairL (g n r : Nat) : List Value := [.slice (some ⟨g, 0, none⟩) n n, .int .i64 r]
set_option maxHeartbeats 2000000 in
theorem nf {cn : Bool} {K r c cap : Nat} {w : World} {a : Option Addr} {s : Nat → SD} {F : Nat → Nat → Int} (hM : MX cn K w a r c s F) (hr : 1 ≤ r ∧ r ≤ 16) (hc : 1 ≤ c ∧ c ≤ 16) (hK1 : 1 ≤ K) :
  CallsR Tryz.prog 43 #[.slice a r cap] w fun v w' => ∃ g s', v = .agg (pairL g c r).toArray ∧ w.heap.size ≤ g ∧ Blk w' g 27 (topC c s') ∧ (∀ j, j < c → RX false K w' (s' j) (r + c) (fun i => withId r F i j)) ∧ Ex w w' := by
 refine aH (args := [_]) Tryz.func43 rfl rfl ?_
 refine aj ?_
 refine ah rfl ?_
 refine aB (fun g0 w0 hn0 => ⟨fun _ _ => trivial, ?_⟩)
 have hb0 : Blk w0 g0 81 [.slice none 0 0, .int .i64 0] := hn0.blk
 repeat' (first|refine ai rfl ?_|refine aa ?_|refine aj ?_|refine ah rfl ?_|refine ae ?_)
 refine av (gW (hM.ext hn0.ex) hr hc) rfl ?_
 rintro v w1 ⟨g, gs, rfl, hO1, hE1⟩
 refine ⟨fun _ _ => trivial, ?_⟩
 have hpa := hM.plain (by omega)
 obtain ⟨p0, d0, hh0, e0, _, _, _, _⟩ := hM.get (i := 0) (by omega) (by omega)
 repeat' (first|refine cL (cs := pairL g c r) rfl ?_|refine ai rfl ?_|refine bh rfl ?_)
 refine aB (fun g3 w2 hn2 => ⟨fun _ _ => trivial, ?_⟩)
 have hb2 : Blk w2 g3 81 [.slice none 0 0, .int .i64 0] := hn2.blk
 refine ax (n := 2) (vs := pairL g c r) rfl rfl rfl rfl hb2 rfl (fun w3 hc3 hb3 => ⟨fun _ _ => trivial, ?_⟩)
 have lo0 := hn0.lo
 have s0 := hn0.ex.size
 have wL := hO1.low
 have lg := hO1.lt
 have s1 := hE1.size
 have lo2 := hn2.lo
 have hE03 : Ex w w3 := ((hn0.ex.trans hE1).trans hn2.ex).chg hc3 (by omega)
 have hg3 : g3 ≠ g := by omega
 have hg0 : g0 ≠ g := by have := hb0.lt; omega
 have hgs3 : ∀ k, k < c → gs k ≠ g3 := fun k hk => by have := (hO1.row k hk).lt; omega
 have hgs0 : ∀ k, k < c → gs k ≠ g0 := fun k hk => by have := (hO1.row k hk).low; have := hb0.lt; omega
 have hg03 : g0 ≠ g3 := by have := hb0.lt; omega
 have hb03 := ((hb0.ext hE1).ext hn2.ex).chg hc3 hg03
 have hO3 := (hO1.ext hn2.ex).gbN hb2 (ov _ _) (bG hc3) (Ne.symm hg3) hgs3
 have s3 := hc3.size
 have s2 := hn2.ex.size
 have lgs : ∀ k, k < c → gs k < w1.heap.size := fun k hk => (hO1.row k hk).lt
 repeat' (first|refine aQ (g := g3) rfl hb3 rfl ?_|refine ai rfl ?_|refine aa ?_|refine aj ?_|refine ah rfl ?_|refine ae ?_|refine bh rfl ?_|refine aG rfl ?_|refine aA ?_)
 refine aY (ι := Nat × (Nat → SD)) [4, 5, 6, 15, 16, 17, 18, 19, 20, 21, 22, 23, 24, 25, 26, 27, 28, 29, 30, 31, 32, 33, 34, 35, 36] (fun t => [(15, .int .i64 (t.1 : Int))])
  (fun t w' => (t.1 ≤ c ∧ Ex w w' ∧ w3.heap.size ≤ w'.heap.size) ∧ Blk w' g 27 (topC c t.2) ∧ Blk w' g3 81 (pairL g c r) ∧ Blk w' g0 81 [.slice none 0 0, .int .i64 0] ∧
   (∀ k, k < t.1 → RX false K w' (t.2 k) (r + c) (fun i => withId r F i k) ∧ ∀ ad, (t.2 k).a = some ad → ad.block = gs k ∨ w3.heap.size ≤ ad.block) ∧ ∀ k, t.1 ≤ k → k < c → t.2 k = ⟨some ⟨gs k, 0, none⟩, r, r⟩ ∧ RO false K w' w0.heap.size (gs k) r r (fun i => F i k)) (fun t => c - t.1)
  (0, fun k => ⟨some ⟨gs k, 0, none⟩, r, r⟩) ⟨rfl, trivial⟩ ⟨⟨by omega, hE03, Nat.le_refl _⟩, hO3.top, hb3, hb03, fun k hk => by simp only at hk; omega, fun k _ hk => ⟨rfl, (hO3.row k hk).weak'⟩⟩ ?_
 rintro ⟨j, s'⟩ ξ w4 ⟨⟨hj, hE4, hs4⟩, hT4, hb34, hb04, hdone, htodo⟩
 simp only at hj hT4 hdone htodo
 show CW _ _ _ _ (over [(15, .int .i64 (j : Int))] _) w4
 rcases Nat.lt_or_ge j c with hjc | hjc
 ·obtain ⟨ej, hRj⟩ := htodo j (Nat.le_refl _) hjc
  repeat' (first|refine bC rfl rfl (by omega) ?_|refine aC (j := j) (a := some ⟨g, 0, none⟩) rfl rfl ⟨_, _, rfl⟩ (by omega) ?_|refine aU (j := j) (a := some ⟨g, 0, none⟩) rfl hT4.sl (by omega) ej ?_|refine aC (j := 0) (a := a) rfl rfl hpa (by omega) ?_|refine aU (j := 0) (a := a) rfl (hM.ext hE4).top (by omega) e0 ?_|refine ep (n := c) rfl rfl (by omega) (by omega) (fun g5 w5 hn5 => ⟨fun _ _ => trivial, ?_⟩)|refine ai rfl ?_|refine aa ?_|refine aj ?_|refine ah rfl ?_|refine ae ?_|refine bh rfl ?_|refine aD rfl ?_|refine aA ?_|refine aF ?_)
  refine av (cG (z := 1) (by omega) (by omega) _) rfl ?_
  rintro v w6 ⟨hI6, hE6⟩
  refine ⟨fun _ _ => trivial, ?_⟩
  obtain ⟨x, rfl⟩ := hI6.ih
  have hb5 := hn5.blk.ext hE6
  repeat' (first|refine aT (j := j) (a := some ⟨g5, 0, none⟩) rfl rfl ⟨_, _, rfl⟩ (by omega) ?_)
  refine ch (j := j) (u := x) rfl rfl hb5 (by omega) (fun w7 hc7 hb7 => ⟨fun _ _ => trivial, ?_⟩)
  have lo5 := hn5.lo
  have s5 := hn5.ex.size
  have s6 := hE6.size
  have s7 := hc7.size
  have hE47 : Ex w4 w7 := (hn5.ex.trans hE6).chg hc7 lo5
  have hE47d : Ex w4 w7.drew := hE47.drew
  have hRj7 := hRj.ext hE47d
  obtain ⟨hh, hbj, hEj⟩ := hRj7.ex
  have hu7 : ∀ i, i < c → Ent false K w7.drew (setF (fun _ => ih0) j x i).val (idM i j) := fun i hi => by
   by_cases hij : i = j
   ·subst hij
    rw [aJ, bE]
    exact ((Ent.of hI6 (bM (e := K) (by decide) hK1)).gbN hb5 (bF _ _) (bG hc7)).ext (Ex.refl w7).drew
   ·rw [aO _ _ hij, bN hij]
    exact kU _
  have hown : Own w7.drew w0.heap.size 33 2 (some ⟨gs j, 0, none⟩) r r (rowC r hh) := hbj.own (bW _ _) (by simp only [maxLen]; omega) hRj.low
  have hg3j := hgs3 j hjc
  have hg0j := hgs0 j hjc
  have hgj : gs j ≠ g := hO1.off j hjc
  have lgj := lgs j hjc
  repeat' (first|refine aa ?_|refine ae ?_)
  refine bi (late := [7]) (plan := [(0, none), (1, none), (2, none), (3, none), (4, none), (5, some true), (6, none), (7, some false)]) (fun w' => Blk w' g3 81 (pairL g c r)) bB (by kernel_rfl) (hb34.ext hE47d) ?_
  repeat' (first|refine aQ (g := g3) rfl (fun _ h => h) rfl ?_|refine ai rfl ?_|refine aG rfl ?_)
  refine gI (E := 33) (s := 2) (z := .agg #[.bool false, .slice none 0 0]) (m := c) (c := c) (lo := w0.heap.size) (vs := rowC r hh) (news := rowC c (setF (fun _ => ih0) j x)) rfl rfl rfl rfl hown hb7.drew.sl ⟨_, _, rfl⟩ (bW _ _) (kS _ _) (by omega) (by omega) (by have := hE4.size; have : w7.drew.heap.size = w7.heap.size := rfl; omega) ?_
  intro a' cap' w8 ho8 hg8 hA8
  have hg8' : w7.drew.grownBy w8 (some (gs j)) := hg8
  refine ⟨fun _ h => h.gb hg8' (fun e => hg3j (by cases e; rfl)), ?_⟩
  have hT8 := (hT4.ext hE47d).gb hg8' (fun e => hgj (by cases e; rfl))
  have hb38 := (hb34.ext hE47d).gb hg8' (fun e => hg3j (by cases e; rfl))
  have hb08 := (hb04.ext hE47d).gb hg8' (fun e => hg0j (by cases e; rfl))
  repeat' (first|refine aC (j := j) (a := some ⟨g, 0, none⟩) rfl rfl ⟨_, _, rfl⟩ (by omega) ?_)
  refine ci (j := j) (u := ⟨a', r + c, cap'⟩) rfl rfl hT8 (by omega) (fun w9 hc9 hT9 => ⟨fun h => (nomatch h), ?_⟩)
  repeat' (first|refine ai rfl ?_|refine aa ?_|refine ah rfl ?_|refine ae ?_|refine aZ rfl rfl (by omega) (by omega) ?_|refine aK ?_)
  have hwsz : w7.drew.heap.size = w7.heap.size := rfl
  have s8 := hg8'.size
  have hE9 : Ex w w9 := ((hE4.trans hE47d).gb hg8' (fun k e => by cases e; have := hRj.low; omega)).chg hc9 (by omega)
  have hcat := eI (n := r) (m := c) (f := hh) (g := setF (fun _ => ih0) j x)
  have hX8 : RX false K w8 ⟨a', r + c, cap'⟩ (r + c) (fun i => withId r F i j) := by
   refine ⟨rfl, ho8.cap, _, by rw [← hcat]; exact ho8.sl, fun i hi => ?_⟩
   simp only [withId]
   by_cases hir : i < r
   ·rw [if_pos hir, if_pos hir]; exact (hEj i hir).gbN hbj (bF _ _) hg8'
   ·rw [if_neg hir, if_neg hir]; exact (hu7 (i - r) (by omega)).gbN hbj (bF _ _) hg8'
  have hfr : ∀ ad, a' = some ad → ad.block = gs j ∨ w3.heap.size ≤ ad.block := fun ad e => by
   rcases hA8 with h | h
   ·rw [h] at e; cases e; exact .inl rfl
   ·exact .inr (by have := h ad e; omega)
  refine ⟨⟨(j + 1, setF s' j ⟨a', r + c, cap'⟩), ⟨⟨hjc, hE9, by have := hc9.size; omega⟩, hT9, hb38.chg hc9 hg3, hb08.chg hc9 hg0, fun k hk => ?_, fun k hk hkc => ?_⟩, by simp only; omega, rfl, trivial⟩, (by (repeat (first|exact aE _ _ _|refine aw rfl ?_|refine au rfl ?_|refine ak rfl ?_|refine ao rfl ?_)))⟩
  ·simp only at hk ⊢
   by_cases hkj : k = j
   ·subst hkj
    rw [aJ]
    exact ⟨hX8.gbT hT8 (bG hc9), hfr⟩
   ·rw [aO _ _ hkj]
    obtain ⟨h1, h2⟩ := hdone k (by omega)
    refine ⟨((h1.ext hE47d).gbN hbj (bF _ _) hg8' (fun ad e => ?_)).gbT hT8 (bG hc9), h2⟩
    rcases h2 ad e with h | h
    ·rw [h]; exact fun e => hkj (hO1.inj k j (by omega) hjc e)
    ·omega
  ·simp only at hk ⊢
   rw [aO _ _ (by omega)]
   obtain ⟨h1, h2⟩ := htodo k (by omega) hkc
   exact ⟨h1, ((h2.ext hE47d).gbN hbj (bF _ _) hg8' (fun e => by have := hO1.inj k j hkc hjc e; omega)).gbN hT8 (bZ _ _) (bG hc9) (hO1.off k hkc)⟩
 ·have ejc : c = j := by omega
  subst ejc
  repeat' (first|refine bA rfl rfl (by omega) ?_|refine aN (g := g3) rfl hb34 rfl ?_|refine aa ?_|refine aj ?_|refine ah rfl ?_|refine ae ?_|refine ay rfl ?_|refine aV ?_|refine aL ?_|refine aW ?_)
  refine ax (n := 2) (vs := pairL g c r) rfl rfl rfl rfl hb04 rfl (fun w5 hc5 hb5 => ⟨fun _ _ => trivial, ?_⟩)
  repeat' (first|refine aa ?_|refine ae ?_|refine aR ?_)
  refine bK rfl (rc rfl rfl hb5) ⟨g, s', rfl, by omega, hT4.chg hc5 (Ne.symm hg0), fun k hk => ?_, hE4.chg hc5 lo0⟩
  obtain ⟨h1, h2⟩ := hdone k hk
  refine h1.gbN hb04 (ov _ _) (bG hc5) (fun ad e => ?_)
  rcases h2 ad e with h | h
  ·rw [h]; exact hgs0 k hk
  ·have := hb0.lt; omega
end Go.Proofs.YtppipmkpmmdcjaaGreat
namespace Go.W
def natC (n : Nat) (f : Nat → Nat) : List Value := (List.range n).map fun i => Value.int .i64 (f i : Int)
theorem mz (n : Nat) (f : Nat → Nat) : natC (n + 1) f = natC n f ++ [.int .i64 (f n : Int)] := by unfold natC; rw [List.range_succ, List.map_append]; rfl
theorem jg (n : Nat) (f : Nat → Nat) : (natC n f).length = n := by simp [natC]
theorem iI {n : Nat} {f f' : Nat → Nat} (e : ∀ i, i < n → f i = f' i) : natC n f = natC n f' := List.map_congr_left fun i hi => by rw [e i (List.mem_range.1 hi)]
theorem ow {n : Nat} {f : Nat → Nat} {i : Nat} (hi : i < n) : (natC n f)[i]? = some (.int .i64 (f i : Int)) := by simp [natC, hi]
theorem mA {n m : Nat} {f : Nat → Nat} (hm : n ≤ m) : (natC m f).take n = natC n f := by
 unfold natC; rw [← List.map_take, List.take_range, Nat.min_eq_left hm]
theorem fz {n m : Nat} {f g : Nat → Nat} : natC n f ++ natC m g = natC (n + m) fun i => if i < n then f i else g (i - n) := by
 induction m with
 | zero => rw [show natC 0 g = [] from rfl, List.append_nil, Nat.add_zero]; exact iI fun i hi => by rw [if_pos hi]
 | succ m ih => rw [← Nat.add_assoc, mz, mz, ← ih, List.append_assoc, if_neg (by omega), Nat.add_sub_cancel_left]
theorem pz (n : Nat) : (Builtin.zeroCells (Value.cells (.int .i64 0)) n).toList = natC n fun _ => 0 := by
 simp [Builtin.zeroCells, natC, Value.cells, Nat.mod_one]
def NatG (w : World) (lo E n : Nat) (s : SD) (f : Nat → Nat) : Prop :=
 s.len = n ∧ ((s = sd0 ∧ n = 0) ∨ ∃ g, s.a = some ⟨g, 0, none⟩ ∧ lo ≤ g ∧ n ≤ s.cap ∧ s.cap ≤ maxLen ∧ Blk w g E (natC s.cap f))
theorem NatG.nil (w : World) (lo E : Nat) (f : Nat → Nat) : NatG w lo E 0 sd0 f := ⟨rfl, .inl ⟨rfl, rfl⟩⟩
theorem NatG.gb {w w' : World} {lo E n : Nat} {s : SD} {f : Nat → Nat} {r : Option Nat} (hR : NatG w lo E n s f) (hg : w.grownBy w' r) (hne : ∀ ad, s.a = some ad → r ≠ some ad.block) : NatG w' lo E n s f := by
 refine ⟨hR.1, ?_⟩
 rcases hR.2 with h0 | ⟨g, h1, h2, h3, h4, h5⟩
 ·exact .inl h0
 ·exact .inr ⟨g, h1, h2, h3, h4, h5.gb hg (hne _ h1)⟩
theorem NatG.ext {w w' : World} {lo E n : Nat} {s : SD} {f : Nat → Nat} (hR : NatG w lo E n s f) (e : Ex w w') : NatG w' lo E n s f := hR.gb (lA e) (fun _ _ h => by cases h)
theorem NatG.lo {w : World} {lo E n : Nat} {s : SD} {f : Nat → Nat} (hR : NatG w lo E n s f) : ∀ ad, s.a = some ad → lo ≤ ad.block ∧ ad.block < w.heap.size := by
 intro ad e
 rcases hR.2 with ⟨h0, _⟩ | ⟨g, h1, h2, h3, h4, h5⟩
 ·rw [h0] at e; cases e
 ·rw [h1] at e; cases e; exact ⟨h2, h5.lt⟩
theorem NatG.sl {w : World} {lo E n : Nat} {s : SD} {f : Nat → Nat} (hR : NatG w lo E n s f) : Sl w s.a (natC n f) := by
 rcases hR.2 with ⟨h0, rfl⟩ | ⟨g, h1, h2, h3, h4, h5⟩
 ·exact Sl.nil _ _
 ·rw [h1, ← mA h3]; exact h5.sl.take _
theorem NatG.blk {w : World} {lo E n : Nat} {s : SD} {f : Nat → Nat} (hR : NatG w lo E n s f) : ∀ g, (Value.slice s.a s.len s.cap).ownBlock = some g → lo ≤ g ∧ Blk w g E (natC s.cap f) := by
 intro g e
 rcases hR.2 with ⟨h0, _⟩ | ⟨g', h1, h2, h3, h4, h5⟩
 ·rw [h0] at e; cases e
 ·rw [h1] at e; cases e; exact ⟨h2, h5⟩
theorem ox {P : Program} {w : World} {lo E y t ty n x : Nat} {s : SD} {f : Nat → Nat} {i0 : TypeInfo} {ga : Nat} (ht : P.underlying t = some (.slice E)) (hi : P.info? E = some i0) (hz : i0.zero = some (.int .i64 0)) (hsz : i0.size = 1) (hby : i0.bytes = y)
  (hR : NatG w lo E n s f) (hx : Sl w (some ⟨ga, 0, none⟩) [.int .i64 (x : Int)]) (hm : n + 1 ≤ 9223372036854775807) (hb : (n + 1) * y ≤ 140737488355328) (hlo : lo ≤ w.heap.size) :
  ∃ s' w' f', (Builtin.append_ #[t, t] ty #[.slice s.a s.len s.cap, .slice (some ⟨ga, 0, none⟩) 1 1]).run P w = .ok (.slice s'.a s'.len s'.cap) w' ∧ NatG w' lo E (n + 1) s' f' ∧ (∀ i, i < n → f' i = f i) ∧ f' n = x ∧
   w.grownBy w' (Value.slice s.a s.len s.cap).ownBlock ∧ (s'.a = s.a ∨ ∀ ad, s'.a = some ad → w.heap.size ≤ ad.block) := by
 have e : ∀ n, (⟨ga, 0, none⟩ : Addr).add n = ⟨ga, 0 + n, none⟩ := fun n => by unfold Addr.add; split <;> simp_all
 have hnews : ∀ j u, ([.int .i64 (x : Int)] : List Value)[j]? = some u → w.cell? ((⟨ga, 0, none⟩ : Addr).add j) = some u := fun j u hu => by
  have hj : j < ([.int .i64 (x : Int)] : List Value).length := (List.getElem?_eq_some_iff.1 hu).1
  have := hx.get j hj
  rw [e]
  simp only [elt] at this
  rw [this, List.getD_eq_getElem?_getD, hu]; rfl
 have hl : ([.int .i64 (x : Int)] : List Value).length = 1 * i0.size := by rw [hsz]; rfl
 have hmax : ∀ old, grownCap w (n + 1) old E ≤ maxLen := fun old => grownCap_le_maxLen w (n + 1) old E hm
 have hge : ∀ old, n + 1 ≤ grownCap w (n + 1) old E := fun old => grownCap_ge w (n + 1) old E
 have hnew : ∀ (k : Nat), n + 1 ≤ k → (natC n f ++ [.int .i64 (x : Int)] ++ (Builtin.zeroCells (Value.cells (.int .i64 0)) (k - (n + 1))).toList) = natC k (fun i => if i < n then f i else if i = n then x else 0) := fun k hk => by
  rw [pz, show ([.int .i64 (x : Int)] : List Value) = natC 1 (fun _ => x) from rfl, fz, fz]
  rw [show n + 1 + (k - (n + 1)) = k by omega]
  refine iI fun i _ => ?_
  by_cases h1 : i < n
  ·rw [if_pos (by omega), if_pos h1, if_pos h1]
  ·by_cases h2 : i = n
   ·subst h2; rw [if_pos (by omega), if_neg (by omega), if_neg (by omega), if_pos rfl]
   ·rw [if_neg (by omega), if_neg h1, if_neg h2]
 have hgr : ∀ (o : Obj) {row : Option Nat}, w.grownBy (w.drew.alloc o) row := fun o _ => ⟨rfl, rfl, rfl, by simp, fun k hk _ => heap_alloc_old w.drew o hk⟩
 have hbl : ∀ (xs zs : List Value) (k : Nat), xs ++ zs = natC k (fun i => if i < n then f i else if i = n then x else 0) → ∀ cs : Array Value, cs.toList = xs ++ zs → Blk (w.drew.alloc (.cells cs E)) w.heap.size E (natC k (fun i => if i < n then f i else if i = n then x else 0)) := fun xs zs k e cs hcs => by
  have : cs = (natC k (fun i => if i < n then f i else if i = n then x else 0)).toArray := by rw [← e, ← hcs]
  rw [this]
  exact heap_alloc_new w.drew _
 obtain ⟨hlen, hcase⟩ := hR
 rcases hcase with ⟨rfl, rfl⟩ | ⟨g, h1, h2, h3, h4, h5⟩
 ·have hr := run_append_nil (P := P) w t ty E i0 _ ht hi hz ⟨ga, 0, none⟩ 1 1 ([.int .i64 (x : Int)] : List Value) hl hnews (by omega) (by omega) (by rw [hby]; omega)
  refine ⟨⟨some ⟨w.heap.size, 0, none⟩, 1, grownCap w 1 0 E⟩, _, fun i => if i < 0 then f i else if i = 0 then x else 0, hr, ⟨rfl, .inr ⟨_, rfl, hlo, hge 0, hmax 0, ?_⟩⟩, fun i hi => by omega, rfl, hgr _, .inr fun ad e => by cases e; exact Nat.le_refl _⟩
  have := hnew (grownCap w 1 0 E) (hge 0)
  rw [show natC 0 f = [] from rfl, List.nil_append] at this
  exact hbl _ _ _ this _ (by simp)
 ·obtain ⟨sa, sl, sc⟩ := s
  simp only at h1 hlen h3 h4 h5
  subst h1; subst hlen
  by_cases hroom : sl + 1 ≤ sc
  ·have hr := run_append_room (P := P) w t ty E i0 ht hi g sl sc _ h5 ⟨ga, 0, none⟩ 1 1 ([.int .i64 (x : Int)] : List Value) hl hnews (fun u hu => by
    simp only [List.mem_cons, List.not_mem_nil, or_false] at hu
    rw [hu]; rfl) hroom (by
    rw [hsz, List.size_toArray, jg]
    simp only [List.length_cons, List.length_nil]
    omega)
   refine ⟨⟨some ⟨g, 0, none⟩, sl + 1, sc⟩, _, fun i => if i = sl then x else f i, hr, ⟨rfl, .inr ⟨g, rfl, h2, hroom, h4, ?_⟩⟩, fun i hi => if_neg (by omega), if_pos rfl, ⟨rfl, rfl, rfl, by simp, fun k _ hk => setRow_other w g k _ (fun e => hk (by simp [Value.ownBlock, e]))⟩, .inl rfl⟩
   have hset : natC sc (fun i => if i = sl then x else f i) = (natC sc f).take sl ++ ([.int .i64 (x : Int)] : List Value) ++ (natC sc f).drop (sl + 1) := by
    rw [mA (by omega)]
    obtain ⟨d, hd⟩ : ∃ d, sc = sl + 1 + d := ⟨sc - (sl + 1), by omega⟩
    have hdrop : (natC sc f).drop (sl + 1) = natC d fun i => f (sl + 1 + i) := by
     refine List.ext_getElem? fun i => ?_
     rw [List.getElem?_drop]
     by_cases hi : i < d
     ·rw [ow (by omega), ow hi]
     ·rw [List.getElem?_eq_none (by rw [jg]; omega), List.getElem?_eq_none (by rw [jg]; omega)]
    rw [hdrop, show ([.int .i64 (x : Int)] : List Value) = natC 1 (fun _ => x) from rfl, fz, fz, hd]
    refine iI fun i hi => ?_
    by_cases h1 : i < sl
    ·rw [if_neg (by omega), if_pos (by omega), if_pos h1]
    ·by_cases h2 : i = sl
     ·rw [if_pos h2, if_pos (by omega), if_neg h1]
     ·rw [if_neg h2, if_neg (by omega), show sl + 1 + (i - (sl + 1)) = i by omega]
   have := setRow_heap w g (natC sc f).toArray ((natC sc f).toArray.toList.take (sl * i0.size) ++ ([.int .i64 (x : Int)] : List Value) ++ (natC sc f).toArray.toList.drop (sl * i0.size + ([.int .i64 (x : Int)] : List Value).length)).toArray E (0, 0) h5
   rw [hsz, Nat.mul_one] at this ⊢
   rw [hset]
   exact this
  ·have hcap : sc = sl := by omega
   subst hcap
   have holds : ∀ j u, (natC sc f)[j]? = some u → w.cell? ((⟨g, 0, none⟩ : Addr).add j) = some u := fun j u hu => by
    have e' : ∀ n, (⟨g, 0, none⟩ : Addr).add n = ⟨g, n, none⟩ := fun n => by unfold Addr.add; split <;> simp_all
    rw [e', h5.at]; exact hu
   have hr := run_append_grow (P := P) w t ty E i0 _ ht hi hz ⟨g, 0, none⟩ sc sc (natC sc f) (by rw [hsz, jg, Nat.mul_one]) holds ⟨ga, 0, none⟩ 1 1 ([.int .i64 (x : Int)] : List Value) hl hnews (by omega) (Int.ofNat_le.2 hm) (by rw [hby]; exact growslice_fits (by omega) hb)
   refine ⟨⟨some ⟨w.heap.size, 0, none⟩, sc + 1, grownCap w (sc + 1) sc E⟩, _, fun i => if i < sc then f i else if i = sc then x else 0, hr, ⟨rfl, .inr ⟨_, rfl, hlo, hge sc, hmax sc, ?_⟩⟩, fun i hi => if_pos hi, (if_neg (Nat.lt_irrefl _)).trans (if_pos rfl), hgr _, .inr fun ad e => by cases e; exact Nat.le_refl _⟩
   exact hbl _ _ _ (hnew (grownCap w (sc + 1) sc E) (hge sc)) _ (by simp)
section
variable {P : Program} {S : World → Prop} {ops : List Oper} {K : Env → World → Prop} {rest : List (Oper × Option Bool)} {ρ : Env} {w : World} {b : Option Bool} {kf : Bool} {d : Nat} {dst : Option Nat} {T T' : TypeId} {pos : String} {af : Array Edge}
theorem nh {T1 E y n d1 t lo u : Nat} {x : Operand} {s : SD} {f : Nat → Nat} {T2 : TypeId} {pos2 : String} {af2 : Array Edge} [hT : Slc P T1 E 1 y] [hz : Zro P E (.int .i64 0)]
  (hs : ρ t = .slice s.a s.len s.cap) (hx : ev ρ x = .int .i64 (u : Int)) (htd : Nat.beq t d1 = false)
  (hR : NatG w lo E n s f) (hm : n + 1 ≤ 9223372036854775807) (hb : (n + 1) * y ≤ 140737488355328) (hlo : lo ≤ w.heap.size)
  (h : ∀ g s' f' w', NatG w' lo E (n + 1) s' f' → (∀ i, i < n → f' i = f i) → f' n = u → w.grownBy w' (Value.slice s.a s.len s.cap).ownBlock → (s'.a = s.a ∨ ∀ x, s'.a = some x → w.heap.size ≤ x.block) →
   RR P (fun _ => True) ops K rest (upd (upd ρ d1 (.slice (some ⟨g, 0, none⟩) 1 1)) d (.slice s'.a s'.len s'.cap)) w') :
  RR P (fun _ => True) ops K ((⟨some d1, .buildSlice T1 1 #[(0, x)], T2, pos2, af2, none⟩, some false) :: (⟨some d, .call ⟨.builtin .append, #[.tmp t, .tmp d1], #[T1, T1]⟩, T, pos, af, none⟩, some false) :: rest) ρ w := by
 refine pR (E := E) (k := IntKind.i64) (u := (u : Int)) hx (fun g w1 hn => ⟨fun _ _ => trivial, ?_⟩)
 refine dA rfl ?_
 unfold OpW
 obtain ⟨i0, hi0, hzz⟩ := Option.map_eq_some_iff.1 hT.sz
 simp only [Prod.mk.injEq] at hzz
 obtain ⟨i1, hi1, hz1⟩ := Option.map_eq_some_iff.1 hz.ok
 rw [hi0] at hi1
 simp only [Option.some.injEq] at hi1
 subst hi1
 have hsz := hn.ex.size
 obtain ⟨s', w', f', hr, h1, h2, h3, h4, h5⟩ := ox (P := P) (ty := T) hT.un hi0 hz1 hzz.1 hzz.2 (hR.ext hn.ex) hn.blk.sl hm hb (by omega)
 have e1 : ev (upd ρ d1 (.slice (some ⟨g, 0, none⟩) 1 1)) (.tmp t) = .slice s.a s.len s.cap := by
  show upd ρ d1 _ t = _
  simp only [upd, htd, cond_false, hs]
 have e2 : ev (upd ρ d1 (.slice (some ⟨g, 0, none⟩) 1 1)) (.tmp d1) = .slice (some ⟨g, 0, none⟩) 1 1 := by
  show upd ρ d1 _ d1 = _
  rw [eV]
 have : (execOp (ev (upd ρ d1 (.slice (some ⟨g, 0, none⟩) 1 1))) ⟨some d, .call ⟨.builtin .append, #[.tmp t, .tmp d1], #[T1, T1]⟩, T, pos, af, none⟩).run P w1 = .ok (.value (.slice s'.a s'.len s'.cap)) w' := by
  simp [execOp, resolve, invoke, builtin, e1, e2, hr]
 rw [this]
 refine ⟨fun _ _ => trivial, h g s' f' w' h1 h2 h3 ?_ (h5.imp id fun hh x hx => by have := hh x hx; omega)⟩
 exact ⟨h4.os.trans hn.ex.os, h4.tape.trans hn.ex.tape, h4.output.trans hn.ex.output, by have := h4.size; omega,
  fun k hk hne => (h4.block k (by omega) hne).trans (hn.ex.block k hk)⟩
end
end Go.W
namespace Go.LA
theorem InJ.congr {R c x0 k : Nat} {P V : Mat} {l l' : Nat → Nat} (h : InJ R c P x0 k l V) (he : ∀ a, a < k → l' a = l a) : InJ R c P x0 k l' V := by
 refine ⟨h.kc, h.uni, fun a ha => by rw [he a ha]; exact h.lt a ha, fun a b hab hb => by rw [he a (by omega), he b hb]; exact h.mono a b hab hb, ?_, fun x hx => ?_⟩
 ·rw [bo (M' := fun a b => nT c V P a (l b)) fun a b _ hb => by rw [he b hb]]; exact h.nz
 ·rcases h.dep x hx with ⟨a, ha, e⟩ | ⟨kx, h1, h2, h3, d, co, h4, h5⟩
  ·exact .inl ⟨a, ha, by rw [he a ha, e]⟩
  ·refine .inr ⟨kx, h1, fun a ha => by rw [he a (by omega)]; exact h2 a ha, fun a ha hk => by rw [he a hk]; exact h3 a ha hk, d, co, h4, fun b hb => ?_⟩
   rw [h5 b hb]
   exact aX fun a ha => by rw [he a (by omega)]
def Perm (c : Nat) (V P : Mat) : Prop := ∀ j, j < c → ∃ b, b < c ∧ ∀ x, nT c V P j x = P x b
theorem tL (c : Nat) (P : Mat) : Perm c idM P := fun j hj => ⟨j, hj, fun x => by
 unfold nT
 rw [bV hj fun k _ hne => by rw [bN (fun e => hne e.symm), Int.zero_mul], bE, Int.one_mul]⟩
theorem Perm.swap {c p q : Nat} {V P : Mat} (h : Perm c V P) (hp : p < c) (hq : q < c) : Perm c (swp V p q) P := fun j hj => by
 have hlt : (if j = q then p else if j = p then q else j) < c := by split; exact hp; split; exact hq; exact hj
 obtain ⟨b, hb, h1⟩ := h _ hlt
 exact ⟨b, hb, fun x => by rw [jf]; exact h1 x⟩
theorem wH {c k K R j x : Nat} {V P : Mat} {l : Nat → Nat} (hP : Perm c V P) (hl : ∀ x b, x < R → b < c → Lb K (P x b)) (hk : k < c) (hj : j < c) (hx : x < R) (hc : c ≤ 16) (hll : ∀ a, a < k → l a < R) : Lb (16 * K + 17) (bl (nT c V P) l k j x) := by
 unfold bl
 refine (Lb.det (e := K) (fun a b ha hb => ?_) (by omega)).mono ?_
 ·have h1 : (if a < k then a else j) < c := by split <;> omega
  have h2 : (if b < k then l b else x) < R := by split; exact hll b (by assumption); exact hx
  obtain ⟨b', hb', e⟩ := hP _ h1
  rw [e]; exact hl _ _ h2 hb'
 ·have : (K + 1) * (k + 1) ≤ (K + 1) * 16 := Nat.mul_le_mul_left _ (by omega)
  omega
theorem tM {c j x : Nat} {P : Mat} {l : Nat → Nat} (hj : j < c) : bl (nT c idM P) l 0 j x = P x j := by
 unfold bl
 rw [ik]
 simp only [Nat.not_lt_zero, if_false]
 unfold nT
 rw [bV hj fun k _ hne => by rw [bN (fun e => hne e.symm), Int.zero_mul], bE, Int.one_mul]
theorem uY {N : Mat} {l l' : Nat → Nat} {k j x : Nat} (he : ∀ a, a < k → l' a = l a) : bl N l' k j x = bl N l k j x := by
 unfold bl
 refine bo fun a b _ _ => ?_
 by_cases h : b < k
 ·rw [if_pos h, if_pos h, he b h]
 ·rw [if_neg h, if_neg h]
end Go.LA
namespace Go.Proofs.YtppipmkpmmdcjaaGreat
open Go.W Go.LM Go.LA
structure WkJ (w : World) (K R c k gw g5 : Nat) (N : Mat) (f : Nat → Nat) (li : SD) (s : Nat → SD) : Prop where
 top : Blk w gw 27 (topC c s)
 col : ∀ j, k ≤ j → j < c → RX false K w (s j) R (fun x => bl N f k j x)
 off : ∀ j, k ≤ j → j < c → ∀ ad, (s j).a = some ad → ad.block ≠ g5 ∧ (Value.slice li.a li.len li.cap).ownBlock ≠ some ad.block ∧ ad.block < w.heap.size
end Go.Proofs.YtppipmkpmmdcjaaGreat
