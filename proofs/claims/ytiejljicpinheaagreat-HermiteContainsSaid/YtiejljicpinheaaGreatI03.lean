import Derived.Test.YtiejljicpinheaaGreatI02
namespace Go.Proofs.YtiejljicpinheaaGreat
open Go.W Go.LM Go.LA Go.PM
theorem wr {w : World} {lo lo' E n : Nat} {s : SD} {h : Nat → IH} (hR : RowG w lo E n s h) (hl : lo' ≤ lo) : RowG w lo' E n s h := by
 refine ⟨hR.1, ?_⟩
 rcases hR.2 with h0 | ⟨g, h1, h2, h3⟩
 ·exact .inl h0
 ·exact .inr ⟨g, h1, Nat.le_trans hl h2, h3⟩
theorem wJ {cn : Bool} {K : Nat} {w : World} {lo E n : Nat} {s : SD} {h : Nat → IH} {f : Nat → Int} (hR : RowG w lo E n s h) (he : ∀ i, i < n → Ent cn K w (h i).val (f i)) : RX cn K w s n f := by
 refine ⟨hR.1, ?_, h, hR.sl, he⟩
 rcases hR.2 with ⟨_, rfl⟩ | ⟨g, h1, h2, h3, _⟩
 ·exact Nat.zero_le _
 ·exact h3
def colF (L : List Int) : Vec := fun i => L.getD i 0
theorem wt {L : List Int} (h : I8 L) (i : Nat) : -128 ≤ colF L i ∧ colF L i ≤ 127 := h.getD _
set_option maxHeartbeats 2000000 in
theorem wu {n : Nat} {L : List Int} {la : Option Addr} {lc : Nat} {w : World} (hL : Sl w la (int8L L)) (hI : I8 L) (hn : n ≤ 1000) :
  CallsR Tryz.prog 73 #[.slice la L.length lc, .int .i64 (n : Int)] w fun v w' => ∃ g, v = .slice (some ⟨g, 0, none⟩) n n ∧ w.heap.size ≤ g ∧ Blk w' g 2 (intC n (colF L)) ∧ Ex w w' := by
 refine aF (args := [_, _]) Tryz.func73 rfl rfl ?_
 repeat' (first|refine cf (cs := tapeL la L.length lc 0) rfl ?_|refine ai rfl ?_|refine aa ?_|refine aj ?_|refine ah rfl ?_|refine ae ?_)
 refine bH (vs := tapeL la L.length lc 0) rfl (fun g5 w1 hn1 => ⟨fun _ _ => trivial, ?_⟩)
 repeat' (first|refine rK (n := n) rfl rfl (by omega) (by omega) (fun g w2 hn2 => ⟨fun _ _ => trivial, ?_⟩)|refine ai rfl ?_|refine aa ?_|refine aj ?_|refine ah rfl ?_|refine ae ?_|refine aZ rfl ?_|refine aA ?_)
 have l1 := hn1.lo
 have l2 := hn2.lo
 have s1 := hn1.ex.size
 have lb1 := hn1.blk.lt
 have hne : 0 < L.length → ∀ ad, la = some ad → ad.block ≠ g5 := fun h ad e => by have := hL.lt (by simpa using h) ad e; omega
 have hE02 := hn1.ex.trans hn2.ex
 refine aY (ι := Nat × (Nat → Int)) [7, 15, 16, 17, 18, 19, 20, 21, 22, 23] (fun t => [(15, .int .i64 (t.1 : Int))])
  (fun t w' => (t.1 ≤ n ∧ Ex w w') ∧ Blk w' g5 39 (tapeL la L.length lc (min t.1 L.length)) ∧ Blk w' g 2 (intC n t.2) ∧ ∀ l, l < t.1 → t.2 l = colF L l) (fun t => n - t.1)
  (0, fun _ => 0) ⟨rfl, trivial⟩ ⟨⟨by simp only; omega, hE02⟩, by simp only; rw [Nat.min_eq_left (Nat.zero_le _)]; exact hn1.blk.ext hn2.ex, hn2.blk, fun l h => by simp only at h; omega⟩ ?_
 rintro ⟨j, f⟩ ξ w3 ⟨⟨hj, hE3⟩, hT3, hR3, hf3⟩
 simp only at hj hT3 hR3 hf3
 show CW _ _ _ _ (over [(15, .int .i64 (j : Int))] _) w3
 rcases Nat.lt_or_ge j n with hjn | hjn
 ·repeat' (first|refine bu rfl rfl (by omega) ?_|refine ai rfl ?_|refine aa ?_|refine aj ?_|refine ah rfl ?_|refine ae ?_|refine az rfl ?_|refine aA ?_|refine aE ?_)
  refine aw (lh hT3 (hL.ext hE3) hI hne (Nat.min_le_right _ _)) rfl ?_
  rintro v w4 ⟨rfl, hc4, hT4⟩
  refine ⟨fun _ _ => trivial, ?_⟩
  have hR4 := hR3.chg hc4 (by omega)
  rw [nJ.1]
  rw [nJ.2] at hT4
  repeat' (first|refine aD (j := j) rfl rfl ⟨_, _, rfl⟩ hjn ?_|refine p6 (j := j) rfl rfl hR4 hjn (fun w5 hc5 hR5 => ⟨fun _ _ => trivial, ?_⟩)|refine ai rfl ?_|refine aa ?_|refine ah rfl ?_|refine ae ?_|refine bc rfl rfl (by omega) (by omega) ?_|refine aL ?_)
  refine ⟨⟨(j + 1, setF f j (L.getD j 0)), ⟨⟨hjn, (hE3.chg hc4 (by omega)).chg hc5 (by omega)⟩, hT4.chg hc5 (by omega), hR5, fun l hl => ?_⟩, by simp only; omega, rfl, trivial⟩, (by (repeat (first|exact aH _ _ _|refine ay rfl ?_|refine av rfl ?_|refine ak rfl ?_|refine ao rfl ?_)))⟩
  replace hl : l < j + 1 := hl
  show setF f j (L.getD j 0) l = _
  by_cases e : l = j
  ·subst e; rw [aS]; rfl
  ·rw [aX _ _ e]; exact hf3 l (by omega)
 ·obtain rfl : n = j := by omega
  repeat' (first|refine bj rfl rfl (by omega) ?_|refine ai rfl ?_|refine aa ?_|refine aj ?_|refine ah rfl ?_|refine ae ?_|refine au rfl ?_|refine aP ?_|refine aJ ?_|refine aQ ?_|refine aI ?_)
  exact bx rfl (rt rfl) ⟨g, rfl, by omega, by rw [← oD hf3]; exact hR3, hE3⟩
set_option maxHeartbeats 2000000 in
theorem wA {n : Nat} {L : List Int} {la : Option Addr} {lc : Nat} {w : World} (hL : Sl w la (int8L L)) (hI : I8 L) (hn : n ≤ 1000) :
  CallsR Tryz.prog 30 #[.slice la L.length lc, .int .i64 (n : Int)] w fun v w' => ∃ (sd : SD) (h : Nat → IH), v = .slice sd.a sd.len sd.cap ∧ RowG w' w.heap.size 43 n sd h ∧ (∀ i, i < n → Ent true 2 w' (h i).val (colF L i)) ∧ Ex w w' := by
 refine aF (args := [_, _]) Tryz.func30 rfl rfl ?_
 repeat' (first|refine ai rfl ?_|refine aa ?_|refine aj ?_|refine ah rfl ?_|refine ae ?_)
 refine aw (wu hL hI hn) rfl ?_
 rintro v w1 ⟨g, rfl, hlo, hb1, hE1⟩
 refine ⟨fun _ _ => trivial, ?_⟩
 have s1 := hE1.size
 repeat' (first|refine ai rfl ?_|refine aa ?_|refine ae ?_|refine aZ rfl ?_|refine aA ?_)
 refine aY (ι := Nat × SD × (Nat → IH)) [5, 7, 12, 13, 14, 15, 16, 17, 18, 19, 20, 21] (fun t => [(12, .int .i64 (t.1 : Int)), (5, .slice t.2.1.a t.2.1.len t.2.1.cap)])
  (fun t w' => (t.1 ≤ n ∧ Ex w w' ∧ Ex w1 w') ∧ RowG w' w1.heap.size 43 t.1 t.2.1 t.2.2 ∧ ∀ i, i < t.1 → Ent true 2 w' (t.2.2 i).val (colF L i)) (fun t => n - t.1)
  (0, sd0, fun _ => ih0) ⟨rfl, rfl, trivial⟩ ⟨⟨by simp only; omega, hE1, Ex.refl _⟩, RowG.nil _ _ _ _, fun i h => by simp only at h; omega⟩ ?_
 rintro ⟨i, sd, h⟩ ξ w2 ⟨⟨hi, hE2, hE12⟩, hR2, hEn2⟩
 simp only at hi hR2 hEn2
 show CW _ _ _ _ (over [(12, .int .i64 (i : Int)), (5, .slice sd.a sd.len sd.cap)] _) w2
 rcases Nat.lt_or_ge i n with hin | hin
 ·repeat' (first|refine bu rfl rfl (by omega) ?_|refine aD (j := i) (a := some ⟨g, 0, none⟩) rfl rfl ⟨_, _, rfl⟩ (by omega) ?_|refine rJ (j := i) (n := n) (f := colF L) rfl (hb1.ext hE12).sl hin ?_|refine ai rfl ?_|refine aa ?_|refine aj ?_|refine ah rfl ?_|refine ae ?_|refine az rfl ?_|refine aA ?_|refine aE ?_)
  have hfit := wt hI i
  refine aw (cT (by omega) (by omega) _) rfl ?_
  rintro v w3 ⟨hI3, hE3⟩
  refine ⟨fun _ _ => trivial, ?_⟩
  obtain ⟨u, rfl⟩ := hI3.ih
  have hR3 := RowG.ext hR2 hE3
  have hE13 := hE12.trans hE3
  have hE03 := hE2.trans hE3
  skip
  refine q9 (E := 43) rfl rfl rfl hR3 (by omega) (by omega) (by have := hE13.size; omega) ?_
  intro gt sd' h' w4 hR4 hf1 hf2 hG4 hA4
  repeat' (first|refine ai rfl ?_|refine aa ?_|refine ah rfl ?_|refine ae ?_|refine bc rfl rfl (by omega) (by omega) ?_|refine aL ?_)
  have own : ∀ q, (Value.slice sd.a sd.len sd.cap).ownBlock = some q → w1.heap.size ≤ q := fun q e => (RowG.bk hR3 q e).1
  refine ⟨⟨(i + 1, sd', h'), ⟨⟨hin, hE03.gb hG4 (fun q e => by have := own q e; omega), hE13.gb hG4 own⟩, hR4, fun k hk => ?_⟩, by simp only; omega, rfl, rfl, trivial⟩, (by (repeat (first|exact aH _ _ _|refine ay rfl ?_|refine av rfl ?_|refine ak rfl ?_|refine ao rfl ?_)))⟩
  simp only at hk ⊢
  by_cases e : k = i
  ·subst e; rw [hf2]; exact (Ent.of hI3 (by have e2 : (4294967296 : Nat) ^ 2 = 18446744073709551616 := rfl; omega)).gbR hR3 hG4
  ·rw [hf1 k (by omega)]; exact ((hEn2 k (by omega)).ext hE3).gbR hR3 hG4
 ·obtain rfl : n = i := by omega
  repeat' (first|refine bj rfl rfl (by omega) ?_|refine ai rfl ?_|refine aa ?_|refine aj ?_|refine ah rfl ?_|refine ae ?_|refine au rfl ?_|refine aP ?_|refine aJ ?_|refine aQ ?_|refine aI ?_)
  exact bx rfl (rt rfl) ⟨sd, h, rfl, wr hR2 s1, hEn2, hE2⟩
end Go.Proofs.YtiejljicpinheaaGreat
namespace Go.Proofs.YtiejljicpinheaaGreat
open Go.W Go.LM Go.LA Go.PM
set_option maxRecDepth 20000 in
set_option maxHeartbeats 8000000 in
theorem xo {rows cols : Int} (h1 : 0 ≤ rows ∧ rows ≤ 255) (h2 : 0 ≤ cols ∧ cols ≤ 255) {L : List Int} {la : Option Addr} {w : World} (hL : Sl w la (int8L L)) (hI : I8 L) (lc : Nat) {L2 : List Int} {la2 : Option Addr} (hL2 : Sl w la2 (int8L L2)) (hI2 : I8 L2) (lc2 : Nat) {n : Nat} {a : Option Addr} {s : Nat → SD} {h : Nat → Nat → IH} {La : Nat → Nat → List Nat} (hM : RawM w a n s h La) (cap : Nat) {sb : SD} {hb : Nat → IH} {Lb_ : Nat → List Nat} (hR : RawR w sb hb Lb_) :
  CallsR Tryz.prog 11 #[.agg (gridL rows cols la L.length lc).toArray, .slice la2 L2.length lc2, .slice a n cap, .slice sb.a sb.len sb.cap] w fun v w' => v = .bool true ∧ Ex w w' := by
 refine aF (args := [_, _, _, _]) Tryz.func11 rfl rfl ?_
 refine aj ?_
 refine ah rfl ?_
 refine bH (vs := gridL rows cols la L.length lc) rfl (fun g1 w1 hn1 => ⟨fun _ _ => trivial, ?_⟩)
 have hg1 := hn1.blk
 repeat' (first|refine ai rfl ?_|refine aa ?_|refine aj ?_|refine ah rfl ?_|refine ae ?_)
 refine aw (we (hM.ext hn1.ex)) rfl ?_
 rintro v w2 ⟨t1, rfl, hl, hE2⟩
 refine ⟨fun _ _ => trivial, ?_⟩
 have hE02 := hn1.ex.trans hE2
 rcases Bool.eq_false_or_eq_true t1 with rfl | rfl
 ·repeat' (first|refine ai rfl ?_|refine aa ?_|refine aj ?_|refine ah rfl ?_|refine ae ?_|refine bK rfl rfl ?_|refine az rfl ?_)
  refine aw (nI _) rfl ?_
  rintro v wz ⟨rfl, hEz⟩
  refine ⟨fun _ _ => trivial, ?_⟩
  repeat' (first|refine ai rfl ?_|refine aa ?_|refine ae ?_|refine aI ?_|refine aU ?_)
  exact bx rfl (rt rfl) ⟨rfl, hE02.trans hEz⟩
 obtain ⟨hA, hn60, hs60, hsz⟩ := wl hM (hl rfl)
 clear hl
 generalize valF h La = A at *
 have hbm := hR.max
 rcases Nat.lt_or_ge 20 sb.len with h20 | h20
 ·repeat' (first|refine kh rfl rfl (show (20 : Int) < ((sb.len : Nat) : Int) by omega) ?_|refine ai rfl ?_|refine aa ?_|refine aj ?_|refine ah rfl ?_|refine ae ?_|refine aZ rfl ?_|refine bz rfl rfl ?_|refine az rfl ?_)
  refine aw (nI _) rfl ?_
  rintro v wz ⟨rfl, hEz⟩
  refine ⟨fun _ _ => trivial, ?_⟩
  repeat' (first|refine ai rfl ?_|refine aa ?_|refine ae ?_|refine aI ?_|refine aU ?_)
  exact bx rfl (rt rfl) ⟨rfl, hE02.trans hEz⟩
 repeat' (first|refine gI rfl rfl (show ((sb.len : Nat) : Int) ≤ 20 by omega) ?_|refine ai rfl ?_|refine aa ?_|refine aj ?_|refine ah rfl ?_|refine ae ?_|refine aZ rfl ?_|refine bz rfl rfl ?_|refine au rfl ?_|refine aA ?_|refine aE ?_)
 refine aY (ι := Nat) [8, 10, 22, 23, 24, 25, 26, 27, 28, 29, 30, 31] (fun t => [(22, .int .i64 (t : Int))])
  (fun t w' => t ≤ sb.len ∧ Ex w2 w' ∧ ∀ j, j < t → (hb j).sd.len ≤ 4) (fun t => sb.len - t)
  0 ⟨rfl, trivial⟩ ⟨Nat.zero_le _, Ex.refl _, fun j h => absurd h (Nat.not_lt_zero _)⟩ ?_
 rintro j ξ w3 ⟨hj, hE3, h4⟩
 show CW _ _ _ _ (over [(22, .int .i64 (j : Int))] _) w3
 have hR3 := (hR.ext hE02).ext hE3
 have hE03 := hE02.trans hE3
 rcases Nat.lt_or_ge j sb.len with hjl | hjl
 ·have hpb : W.plain sb.a := hR3.sl.plain (by rw [bT]; omega)
  repeat' (first|refine bu rfl rfl (show ((j : Nat) : Int) < ((sb.len : Nat) : Int) by omega) ?_|refine aT (j := j) rfl rfl hpb (by omega) ?_|refine bo (j := j) (n := sb.len) (f := hb) rfl hR3.sl hpb (by omega) ?_|refine aa ?_|refine aj ?_|refine ah rfl ?_|refine ae ?_|refine az rfl ?_|refine aA ?_|refine aE ?_)
  refine aG (fun g4 w4 hn4 => ⟨fun _ _ => trivial, ?_⟩)
  refine ax (n := 2) (vs := (hb j).cells) rfl rfl rfl rfl hn4.blk rfl (fun w5 hc5 hb5 => ⟨fun _ _ => trivial, ?_⟩)
  have hE35 := hn4.ex.chg hc5 hn4.lo
  have hm5 := (hR3.ent j hjl).max
  rcases Nat.lt_or_ge 4 (hb j).sd.len with hl4 | hl4
  ·repeat' (first|refine aW (g := g4) rfl hb5 rfl ?_|(refine kh rfl rfl (show (4 : Int) < (((hb j).sd.len : Nat) : Int) by omega) ?_)|refine aa ?_|refine aj ?_|refine ah rfl ?_|refine ae ?_|refine aZ rfl ?_|refine aN rfl ?_|refine az rfl ?_)
   refine aw (nI _) rfl ?_
   rintro v wz ⟨rfl, hEz⟩
   refine ⟨fun _ _ => trivial, ?_⟩
   repeat' (first|refine ai rfl ?_|refine aa ?_|refine ae ?_|refine aI ?_|refine aU ?_|refine bQ ?_)
   exact bx rfl (rt rfl) ⟨rfl, (hE03.trans hE35).trans hEz⟩
  ·repeat' (first|refine aW (g := g4) rfl hb5 rfl ?_|(refine gI rfl rfl (show (((hb j).sd.len : Nat) : Int) ≤ 4 by omega) ?_)|refine ai rfl ?_|refine aa ?_|refine aj ?_|refine ah rfl ?_|refine ae ?_|refine aZ rfl ?_|refine bc rfl rfl (by omega) (by omega) ?_|refine aN rfl ?_|refine au rfl ?_|refine aL ?_|refine aE ?_)
   refine ⟨⟨j + 1, ⟨hjl, hE3.trans hE35, fun m hm => ?_⟩, by omega, rfl, trivial⟩, (by (repeat (first|exact aH _ _ _|refine ay rfl ?_|refine av rfl ?_|refine ak rfl ?_|refine ao rfl ?_)))⟩
   by_cases e : m = j
   ·subst e; exact hl4
   ·exact h4 m (by omega)
 ·obtain rfl : j = sb.len := by omega
  have hX3 : RX false 4 w3 sb sb.len (fun j => sgn (hb j).neg (natOf (Lb_ j))) := by
   refine ⟨rfl, hR.cap, hb, hR3.sl, fun j hj => ⟨⟨(hb j).neg, (hb j).sd.a, (hb j).sd.cap, Lb_ j, ?_, ⟨(hR3.ent j hj).sl, (hR3.ent j hj).cap, (hR3.ent j hj).lim, ?_⟩, rfl, ?_⟩, fun e => nomatch e⟩⟩
   ·rw [← (hR3.ent j hj).len]; rfl
   ·have h6 := h4 j hj; rw [(hR3.ent j hj).len] at h6; omega
   ·have h6 := h4 j hj; rw [(hR3.ent j hj).len] at h6; omega
  have hg3 := (hg1.ext hE2).ext hE3
  obtain ⟨r, k, B, hr, hc, hmat⟩ := tV (most := 4) hL hI h1 h2 (by omega) lc
  repeat' (first|refine bj rfl rfl (show ((sb.len : Nat) : Int) ≤ ((sb.len : Nat) : Int) by omega) ?_|refine aR (cs := gridL rows cols la L.length lc) (g := g1) rfl hg3 rfl ?_|refine aa ?_|refine aj ?_|refine ah rfl ?_|refine ae ?_|refine au rfl ?_|refine aP ?_|refine aJ ?_|refine aQ ?_)
  refine aw (hmat _ hE03) rfl ?_
  rintro v w4 ⟨g4, gs4, cp4, rfl, hO4, hE4⟩
  refine ⟨fun _ _ => trivial, ?_⟩
  have hE04 := hE03.trans hE4
  repeat' (first|refine ai rfl ?_|refine aa ?_|refine aj ?_|refine ah rfl ?_|refine ae ?_|refine aZ rfl ?_)
  refine aw (wA (n := r) (hL2.ext hE04) hI2 (by omega)) rfl ?_
  rintro v w5 ⟨s5, x5, rfl, hR5, he5, hE5⟩
  refine ⟨fun _ _ => trivial, ?_⟩
  rw [hR5.1]
  skip
  refine aw (wC (AM.up60 (wK (hO4.ext hE5)) (by omega)) (wJ hR5 he5) (by omega)) rfl ?_
  rintro v w6 ⟨t6, rfl, ht6, hE6⟩
  refine ⟨fun _ _ => trivial, ?_⟩
  have hE46 := hE5.trans hE6
  repeat' (first|refine ai rfl ?_|refine aZ rfl ?_)
  refine aw (wA (n := r) (hL2.ext (hE04.trans hE46)) hI2 (by omega)) rfl ?_
  rintro v w7 ⟨s7, x7, rfl, hR7, he7, hE7⟩
  refine ⟨fun _ _ => trivial, ?_⟩
  rw [hR7.1]
  skip
  refine aw (wv (AM.up60 (wK (hO4.ext (hE46.trans hE7))) (by omega)) (wJ hR7 he7) (by omega)) rfl ?_
  rintro v w8 ⟨t8, rfl, ht8, hE8⟩
  refine ⟨fun _ _ => trivial, ?_⟩
  obtain rfl := wH ht6 ht8
  have hE38 := hE4.trans (hE46.trans (hE7.trans hE8))
  repeat' (first|refine vT rfl rfl ?_|refine ai rfl ?_|refine bz rfl rfl ?_)
  refine aw (wC (hA.ext (hn1.ex.trans (hE2.trans (hE3.trans hE38)))) (hX3.ext hE38) (by omega)) rfl ?_
  rintro v w9 ⟨t9zz, rfl, ht9, hE9⟩
  refine ⟨fun _ _ => trivial, ?_⟩
  have hE39 := hE38.trans hE9
  repeat' (first|refine ai rfl ?_|refine bz rfl rfl ?_)
  refine aw (wv (hA.ext (hn1.ex.trans (hE2.trans (hE3.trans hE39)))) (hX3.ext hE39) (by omega)) rfl ?_
  rintro v w10 ⟨t10, rfl, ht10, hE10⟩
  refine ⟨fun _ _ => trivial, ?_⟩
  obtain rfl := wH ht9 ht10
  repeat' (first|refine vT rfl rfl ?_|refine ai rfl ?_|refine bz rfl rfl ?_)
  refine aw (nI _) rfl ?_
  rintro v wz ⟨rfl, hEz⟩
  refine ⟨fun _ _ => trivial, ?_⟩
  repeat' (first|refine ai rfl ?_|refine aa ?_|refine ae ?_|refine aI ?_)
  exact bx rfl (rt rfl) ⟨rfl, (hE03.trans (hE39.trans hE10)).trans hEz⟩
end Go.Proofs.YtiejljicpinheaaGreat
