import Derived.Test.YtppipmkpmmdcjaaGreatA11
namespace Go.Proofs.YtppipmkpmmdcjaaGreat
open Go.W Go.LM Go.LA
theorem qg (n : Nat) (f : Nat → Nat) : NoI (natC n f) := fun v hv m e => by
 simp only [natC, List.mem_map] at hv
 obtain ⟨i, _, rfl⟩ := hv; cases e
theorem oy {w w' : World} (h : w.grownBy w' none) : Ex w w' := (Ex.refl w).gb h (fun _k e => (nomatch e))
theorem RX.gbL {cn : Bool} {K n lo E k : Nat} {w w' : World} {s li : SD} {f : Nat → Int} {l : Nat → Nat} (h : RX cn K w s n f) (hN : NatG w lo E k li l) (hg : w.grownBy w' (Value.slice li.a li.len li.cap).ownBlock) (hne : ∀ ad, s.a = some ad → (Value.slice li.a li.len li.cap).ownBlock ≠ some ad.block) : RX cn K w' s n f := by
 cases ho : (Value.slice li.a li.len li.cap).ownBlock with
 | none => rw [ho] at hg; exact h.ext (oy hg)
 | some g =>
  obtain ⟨_, hb⟩ := hN.blk g ho
  rw [ho] at hg
  exact h.gbN hb (qg _ _) hg (fun ad e => fun h' => hne ad e (by rw [ho, h']))
theorem Ent.gbL {cn : Bool} {K lo E k : Nat} {w w' : World} {li : SD} {v : Value} {z : Int} {l : Nat → Nat} (h : Ent cn K w v z) (hN : NatG w lo E k li l) (hg : w.grownBy w' (Value.slice li.a li.len li.cap).ownBlock) : Ent cn K w' v z := by
 cases ho : (Value.slice li.a li.len li.cap).ownBlock with
 | none => rw [ho] at hg; exact h.ext (oy hg)
 | some g =>
  obtain ⟨_, hb⟩ := hN.blk g ho
  rw [ho] at hg
  exact h.gbN hb (qg _ _) hg
theorem NatG.mono {w : World} {lo lo' E n : Nat} {s : SD} {f : Nat → Nat} (h : NatG w lo E n s f) (hl : lo' ≤ lo) : NatG w lo' E n s f := by
 refine ⟨h.1, ?_⟩
 rcases h.2 with h0 | ⟨g, h1, h2, h3⟩
 ·exact .inl h0
 ·exact .inr ⟨g, h1, by omega, h3⟩
theorem NatG.gbB {w w' : World} {lo E n g : Nat} {s : SD} {f : Nat → Nat} (h : NatG w lo E n s f) (hg : w.grownBy w' (some g)) (hlt : g < lo) : NatG w' lo E n s f :=
 h.gb hg (fun ad e he => by have := (h.lo ad e).1; cases he; omega)
theorem WkJ.ext {w w' : World} {K R c k gw g5 : Nat} {N : Mat} {f : Nat → Nat} {li : SD} {s : Nat → SD} (h : WkJ w K R c k gw g5 N f li s) (e : Ex w w') : WkJ w' K R c k gw g5 N f li s :=
 ⟨h.top.ext e, fun j h1 h2 => (h.col j h1 h2).ext e, fun j h1 h2 ad h3 => by obtain ⟨a, b, c⟩ := h.off j h1 h2 ad h3; exact ⟨a, b, Nat.lt_of_lt_of_le c e.size⟩⟩
theorem InJ.skips {R c x0 k : Nat} {P V : Mat} {l : Nat → Nat} (h : InJ R c P x0 k l V) (hk : k = c) : ∀ m, InJ R c P (x0 + m) k l V
 | 0 => h
 | m + 1 => InJ.skip (InJ.skips h hk m) (fun j h1 h2 => by omega)
set_option maxHeartbeats 4000000 in
theorem jz {K r c gp : Nat} {w : World} {s0 : Nat → SD} {P : Mat} (hT : Blk w gp 27 (topC c s0)) (hX : ∀ j, j < c → RX false K w (s0 j) (r + c) (fun x => P x j)) (hr : 1 ≤ r ∧ r ≤ 16) (hc : 1 ≤ c ∧ c ≤ 16) (hK1 : 1 ≤ K) (hK : 32 * K + 40 < 17592186044415)
  (hP : ∀ j b, j < c → b < c → P (r + j) b = idM j b) :
  CallsR Tryz.prog 72 #[.agg (pairL gp c r).toArray] w fun v w' => ∃ (sd : SD) (f : Nat → Nat) (V : Mat), v = .slice sd.a sd.len sd.cap ∧ NatG w' w.heap.size 3 c sd f ∧ InJ (r + c) c P (r + c) c f V ∧ Ex w w' := by
 have hPl : ∀ x b, x < r + c → b < c → Lb K (P x b) := fun x b hx hb => (hX b hb).ent hx
 refine aH (args := [_]) Tryz.func72 rfl rfl ?_
 refine aj ?_
 refine ah rfl ?_
 refine bH (vs := pairL gp c r) rfl (fun g1 w1 hn1 => ⟨fun _ _ => trivial, ?_⟩)
 have hb1 := hn1.blk
 repeat' (first|refine ai rfl ?_|refine aa ?_|refine aj ?_|refine ae ?_)
 refine cD (ι := Nat × Nat) [3, 10, 11, 12, 13, 14, 15, 16] (fun t => [(3, .pointer (some ⟨t.2, 0, none⟩))])
  (fun t w' => Ex w w' ∧ w.heap.size ≤ t.1 ∧ w.heap.size ≤ t.2 ∧ t.1 ≠ t.2 ∧ Blk w' t.1 27 (topC c fun _ => sd0) ∧ Blk w' t.2 81 (pairL t.1 c r) ∧ Blk w' g1 81 (pairL gp c r)) ?_ ?_
 ·have hEx : Ex w1 w1.drew := (Ex.refl _).drew
  have lo1 := hn1.lo
  have s1 := hn1.ex.size
  refine dN (fun w' => Ex w1 w') bB hEx ?_
  refine bp (fuel := 4) (by kernel_rfl) (by kernel_rfl) [0, 1, 2, 4, 5] _ _ (by kernel_rfl) ?_
  repeat' (first|refine aQ (g := g1) rfl (fun _ h => hb1.ext h) rfl ?_|refine ae ?_|refine bh rfl ?_|refine aG rfl ?_)
  refine az (fuel := 3) (rs := [3, 7]) (by kernel_rfl) (by kernel_rfl) rfl ?_
  simp only [List.forall_mem_cons, List.not_mem_nil, false_implies, implies_true, and_true]
  refine ⟨?_, ?_⟩
  ·refine et (n := c) rfl rfl (by omega) (by omega) (fun gw w3 hn3 => ⟨fun _ h => h.trans hn3.ex, ?_⟩)
   have hbw := hn3.blk
   have lo3 : w1.heap.size ≤ gw := Nat.le_trans hEx.size hn3.lo
   replace hEx := hEx.trans hn3.ex
   refine ae ?_
   refine bp (fuel := 2) (by kernel_rfl) (by kernel_rfl) [6] _ _ (by kernel_rfl) ?_
   repeat' (first|refine cL (cs := pairL gw c r) rfl ?_|refine ae ?_)
   refine az (fuel := 1) (rs := [7]) (by kernel_rfl) (by kernel_rfl) rfl ?_
   rw [List.forall_mem_singleton]
   refine aB (fun g7 w7 hn7 => ⟨fun _ h => h.trans hn7.ex, ?_⟩)
   have hb7 : Blk w7 g7 81 [.slice none 0 0, .int .i64 0] := hn7.blk
   have lo7 : w1.heap.size ≤ g7 := Nat.le_trans hEx.size hn7.lo
   have hne : gw ≠ g7 := (by have := hbw.lt; have := hn7.lo; omega)
   replace hEx := hEx.trans hn7.ex
   replace hbw := hbw.ext hn7.ex
   refine ae ?_
   refine az (fuel := 0) (rs := [8]) (by kernel_rfl) (by kernel_rfl) rfl ?_
   rw [List.forall_mem_singleton]
   refine ax (n := 2) (vs := pairL gw c r) rfl rfl rfl rfl hb7 rfl (fun w8 hc8 hb8 => ⟨fun _ h => h.chg hc8 lo7, ?_⟩)
   replace hEx := hEx.chg hc8 lo7
   replace hbw := hbw.chg hc8 hne
   refine ae ?_
   refine bw (by kernel_rfl) ?_
   refine aa ?_
   exact ⟨⟨(gw, g7), ⟨hn1.ex.trans hEx, by simp only; omega, by simp only; omega, hne, hbw, hb8, hb1.ext hEx⟩, rfl, trivial⟩, (by (repeat (first|exact aM _ _|refine aw rfl ?_|refine au rfl ?_|refine ak rfl ?_|refine ao rfl ?_)))⟩
  ·refine aB (fun g7 w7 hn7 => ⟨fun _ h => h.trans hn7.ex, ?_⟩)
   have hb7 : Blk w7 g7 81 [.slice none 0 0, .int .i64 0] := hn7.blk
   have lo7 : w1.heap.size ≤ g7 := Nat.le_trans hEx.size hn7.lo
   replace hEx := hEx.trans hn7.ex
   refine ae ?_
   refine az (fuel := 2) (rs := [3]) (by kernel_rfl) (by kernel_rfl) rfl ?_
   rw [List.forall_mem_singleton]
   refine et (n := c) rfl rfl (by omega) (by omega) (fun gw w3 hn3 => ⟨fun _ h => h.trans hn3.ex, ?_⟩)
   have hbw := hn3.blk
   have lo3 : w1.heap.size ≤ gw := Nat.le_trans hEx.size hn3.lo
   have hne : gw ≠ g7 := (by have := hb7.lt; have := hn3.lo; omega)
   replace hEx := hEx.trans hn3.ex
   replace hb7 := hb7.ext hn3.ex
   refine ae ?_
   refine bp (fuel := 1) (by kernel_rfl) (by kernel_rfl) [6] _ _ (by kernel_rfl) ?_
   repeat' (first|refine cL (cs := pairL gw c r) rfl ?_|refine ae ?_)
   refine az (fuel := 0) (rs := [8]) (by kernel_rfl) (by kernel_rfl) rfl ?_
   rw [List.forall_mem_singleton]
   refine ax (n := 2) (vs := pairL gw c r) rfl rfl rfl rfl hb7 rfl (fun w8 hc8 hb8 => ⟨fun _ h => h.chg hc8 lo7, ?_⟩)
   replace hEx := hEx.chg hc8 lo7
   replace hbw := hbw.chg hc8 hne
   refine ae ?_
   refine bw (by kernel_rfl) ?_
   refine aa ?_
   exact ⟨⟨(gw, g7), ⟨hn1.ex.trans hEx, by simp only; omega, by simp only; omega, hne, hbw, hb8, hb1.ext hEx⟩, rfl, trivial⟩, (by (repeat (first|exact aM _ _|refine aw rfl ?_|refine au rfl ?_|refine ak rfl ?_|refine ao rfl ?_)))⟩
 ·rintro ⟨gw, g3⟩ ξ w2 ⟨hE2, lw, l3, hne, hbw2, hb32, hb12⟩
  simp only at lw l3 hne hbw2 hb32
  show CW _ _ _ _ (over [(3, .pointer (some ⟨g3, 0, none⟩))] _) w2
  repeat' (first|refine aQ (g := g3) rfl hb32 rfl ?_|refine aQ (g := g1) rfl hb12 rfl ?_|refine aj ?_|refine ah rfl ?_|refine aG rfl ?_)
  refine kd (s := 1) rfl rfl ⟨_, _, rfl⟩ hbw2 (hT.ext hE2).sl (by rw [b9]; omega) (by rw [b9, b9]; exact Nat.le_refl _) (nZ _ _) (fun w3 hc3 hb3 => ⟨fun _ _ => trivial, ?_⟩)
  rw [List.drop_eq_nil_of_le (by rw [b9, b9]; exact Nat.le_refl _), List.append_nil] at hb3
  have hE3 := hE2.chg hc3 lw
  have hb33 := hb32.chg hc3 (Ne.symm hne)
  repeat' (first|refine ai rfl ?_|refine aa ?_|refine aj ?_|refine ah rfl ?_|refine ae ?_)
  refine av (cG (z := 1) (by omega) (by omega) _) rfl ?_
  rintro v w4 ⟨hI4, hE4⟩
  refine ⟨fun _ _ => trivial, ?_⟩
  obtain ⟨x4, rfl⟩ := hI4.ih
  refine aB (fun g5 w5 hn5 => ⟨fun _ _ => trivial, ?_⟩)
  have hb5 : Blk w5 g5 33 (intL false none 0 0) := hn5.blk
  refine ax (n := 2) (vs := x4.cells) rfl rfl rfl rfl hb5 rfl (fun w6 hc6 hb6 => ⟨fun _ _ => trivial, ?_⟩)
  have hE36 : Ex w3 w6 := (hE4.trans hn5.ex).chg hc6 (by have := hn5.lo; have := hE4.size; omega)
  have hE6 := hE3.trans hE36
  have s3 := hE3.size
  have s4 := hE4.size
  have lo5 := hn5.lo
  have hi5 := hn5.hi
  have s6 := hc6.size
  have hbw6 := hb3.ext hE36
  have hb36 := hb33.ext hE36
  have lw3 := hb3.lt
  have l33 := hb33.lt
  have hx6 : Ent false (16 * K + 17) w6 x4.val 1 := ((Ent.of hI4 (bM (e := 16 * K + 17) (by decide) (by omega))).ext hn5.ex).gbN hb5 (aI _ _ _ _) (bG hc6)
  have hW6 : WkJ w6 (16 * K + 17) (r + c) c 0 gw g5 (nT c idM P) (fun _ => 0) sd0 s0 := by
   refine ⟨hbw6, fun j _ hj => (((hX j hj).ext hE6).congr (fun x _ => tM hj)).up (by omega), fun j _ hj ad e => ?_⟩
   have := (hX j hj).lt (by omega) ad e
   exact ⟨by omega, fun h => (nomatch h), by have := hE6.size; omega⟩
  have hw6 : w6.heap.size = w5.heap.size := hc6.size
  repeat' (first|refine ai rfl ?_|refine aa ?_|refine aj ?_|refine ah rfl ?_|refine ae ?_|refine aA ?_)
  refine aY (ι := Nat × Nat × (Nat → Nat) × Mat × (Nat → SD) × SD × IH × Int) [4, 6, 7, 8, 9, 23, 24, 25, 26, 27, 28, 29, 30, 31, 32, 33, 34, 35, 36, 37, 38, 39, 40, 41, 42, 43, 44, 45, 46, 47, 48, 49, 50, 51, 52, 53, 54, 55, 56, 57, 58, 59, 60, 61, 62, 63, 64, 65, 66, 67, 68, 69, 70, 71, 72, 73, 74, 75, 76, 77, 78, 79, 80, 81, 82, 83, 84, 85, 86, 87, 88, 89, 90] (fun t => [(6, .int .i64 (t.1 : Int)), (4, .slice t.2.2.2.2.2.1.a t.2.1 t.2.2.2.2.2.1.cap)])
   (fun t w' => (t.1 ≤ r + c ∧ Ex w w' ∧ w6.heap.size ≤ w'.heap.size) ∧ InJ (r + c) c P t.1 t.2.1 t.2.2.1 t.2.2.2.1 ∧ Perm c t.2.2.2.1 P ∧ WkJ w' (16 * K + 17) (r + c) c t.2.1 gw g5 (nT c t.2.2.2.1 P) t.2.2.1 t.2.2.2.2.2.1 t.2.2.2.2.1 ∧ NatG w' w6.heap.size 3 t.2.1 t.2.2.2.2.2.1 t.2.2.1 ∧
    Blk w' g5 33 t.2.2.2.2.2.2.1.cells ∧ Ent false (16 * K + 17) w' t.2.2.2.2.2.2.1.val t.2.2.2.2.2.2.2 ∧ t.2.2.2.2.2.2.2 = det t.2.1 (fun a b => nT c t.2.2.2.1 P a (t.2.2.1 b)) ∧ Blk w' g3 81 (pairL gw c r)) (fun t => r + c - t.1)
   (0, 0, fun _ => 0, idM, s0, sd0, x4, 1) ⟨rfl, rfl, trivial⟩ ⟨⟨by omega, hE6, Nat.le_refl _⟩, qK _ _ _ _, tL c P, hW6, NatG.nil _ _ _ _, hb6, hx6, (d9 _).symm, hb36⟩ ?_
  clear hW6 hbw6 hb6 hx6 hb36 hb33 hb3 hE36
  rintro ⟨x0, k, f, V, s, li, x, d⟩ ξ2 w7 ⟨⟨hx0, hE7, hs7⟩, hJ, hPm, hW, hN, hb5', hxe, hd, hb3'⟩
  simp only at hx0 hJ hPm hW hN hb5' hxe hd
  show CW _ _ _ _ (over [(6, .int .i64 (x0 : Int)), (4, .slice li.a k li.cap)] _) w7
  have hll : li.len = k := hN.1
  have hd0 : d ≠ 0 := by rw [hd]; exact hJ.nz
  rcases Nat.lt_or_ge k c with hkc | hkc
  ·have hxlt : x0 < r + c := by
    rcases Nat.lt_or_ge x0 (r + c) with h | h
    ·exact h
    ·exfalso
     have e : x0 = r + c := by omega
     subst e
     have := hJ.ends hP
     omega
   have hlt := hJ.lt
   repeat' (first|refine aQ (g := g3) rfl hb3' rfl ?_|refine bC rfl rfl (by omega) ?_|refine ai rfl ?_|refine aa ?_|refine aj ?_|refine ah rfl ?_|refine ae ?_|refine bh rfl ?_|refine aG rfl ?_|refine aD rfl ?_|refine aF ?_)
   refine aA ?_
   repeat' (first|refine ai rfl ?_|refine aa ?_|refine aj ?_|refine ah rfl ?_|refine ae ?_|refine bh rfl ?_)
   refine cD (ι := Nat) [8, 34, 35, 36, 37, 38, 39, 40, 41, 42, 43, 44, 45, 46, 47, 48, 49, 50, 51, 52] (fun j => [(8, .int .i64 (j : Int))])
    (fun j w' => Ex w7 w' ∧ k ≤ j ∧ j ≤ c ∧ (∀ m, k ≤ m → m < j → bl (nT c V P) f k m x0 = 0) ∧ (j < c → bl (nT c V P) f k j x0 ≠ 0)) ?_ ?_
   ·refine aA ?_
    refine aY (ι := Nat) [8, 34, 35, 36, 37, 38, 39, 40, 41, 42, 43, 44, 45, 46, 47, 48, 49, 50, 51, 52] (fun j => [(8, .int .i64 (j : Int))]) (fun j w' => Ex w7 w' ∧ k ≤ j ∧ j ≤ c ∧ (∀ m, k ≤ m → m < j → bl (nT c V P) f k m x0 = 0)) (fun j => c - j)
     k ⟨rfl, trivial⟩ ⟨Ex.refl _, Nat.le_refl _, by omega, fun q h1 h2 => by omega⟩ ?_
    rintro j ξ3 w8 ⟨hE8, hkj, hjc, hz⟩
    show CW _ _ _ _ (over [(8, .int .i64 (j : Int))] _) w8
    rcases Nat.lt_or_ge j c with hj | hj
    ·obtain ⟨p, dd, hh, e1, _, hp, hS, hEn⟩ := ((hW.col j hkj hj).ext hE8).get (by omega)
     repeat' (first|refine aQ (g := g3) rfl (hb3'.ext hE8) rfl ?_|refine bC rfl rfl (by omega) ?_|refine aC (j := j) (a := some ⟨gw, 0, none⟩) rfl rfl ⟨_, _, rfl⟩ (by omega) ?_|refine aU (j := j) (a := some ⟨gw, 0, none⟩) rfl (hW.top.ext hE8).sl (by omega) e1 ?_|refine aT (j := x0) (a := p) rfl rfl hp (by omega) ?_|refine bu (j := x0) (a := p) rfl hS hp (by omega) ?_|refine ai rfl ?_|refine aj ?_|refine ah rfl ?_|refine bh rfl ?_|refine bR rfl rfl ?_|refine aG rfl ?_)
     refine av (bP (hEn x0 hxlt).k) rfl ?_
     rintro v w9 ⟨rfl, hE9⟩
     refine ⟨fun _ _ => trivial, ?_⟩
     repeat' (first|refine ai rfl ?_|refine aa ?_|refine ah rfl ?_|refine ae ?_|refine bR rfl rfl ?_|refine aZ rfl rfl (by omega) (by omega) ?_|refine aP rfl (fun hc => ?_) (fun hc => ?_)|refine aA ?_|refine aV ?_|refine aL ?_|refine aW ?_|refine aK ?_|refine aF ?_)
     ·refine ⟨⟨j + 1, ⟨hE8.trans hE9, by omega, hj, fun q h1 h2 => ?_⟩, by omega, rfl, trivial⟩, (by (repeat (first|exact aE _ _ _|refine aw rfl ?_|refine au rfl ?_|refine ak rfl ?_|refine ao rfl ?_)))⟩
      by_cases hqp : q = j
      ·subst hqp; exact Int.sign_eq_zero_iff_zero.1 (by assumption)
      ·exact hz q h1 (by omega)
     ·exact ⟨⟨j, ⟨hE8.trans hE9, hkj, hjc, hz, fun _ e => absurd (show (bl (nT c V P) f k j x0).sign = 0 by rw [e]; rfl) (by assumption)⟩, rfl, trivial⟩, (by (repeat (first|exact aM _ _|refine aw rfl ?_|refine au rfl ?_|refine ak rfl ?_|refine ao rfl ?_)))⟩
    ·repeat' (first|refine aQ (g := g3) rfl (hb3'.ext hE8) rfl ?_|refine bA rfl rfl (by omega) ?_|refine ai rfl ?_|refine aa ?_|refine aj ?_|refine ah rfl ?_|refine ae ?_|refine bh rfl ?_|refine cB rfl rfl ?_|refine aG rfl ?_|refine ay rfl ?_|refine aV ?_|refine aL ?_|refine aW ?_)
     exact ⟨⟨j, ⟨hE8, hkj, hjc, hz, fun h => by omega⟩, rfl, trivial⟩, (by (repeat (first|exact aM _ _|refine aw rfl ?_|refine au rfl ?_|refine ak rfl ?_|refine ao rfl ?_)))⟩
   ·rintro j ξ3 w8 ⟨hE8, hkj, hjc, hz, hnz⟩
    show CW _ _ _ _ (over [(8, .int .i64 (j : Int))] _) w8
    rcases Nat.lt_or_ge j c with hj | hj
    ·have hc0 := (hW.ext hE8)
     repeat' (first|refine aQ (g := g3) rfl (hb3'.ext hE8) rfl ?_|refine gq rfl rfl (by omega) ?_|refine ai rfl ?_|refine aa ?_|refine aj ?_|refine ah rfl ?_|refine ae ?_|refine bh rfl ?_|refine aG rfl ?_|refine ay rfl ?_|refine aF ?_)
     refine av (lE hc0.top hkc hj) rfl ?_
     rintro v w9 ⟨hc9, hT9⟩
     refine ⟨fun _ _ => trivial, ?_⟩
     have hG9 := bG hc9
     have hJ' := hJ.swap (p := j) (q := k) hkj (Nat.le_refl _) hj hkc
     have hPm' := hPm.swap hj hkc
     have hX9 : ∀ i, k ≤ i → i < c → RX false (16 * K + 17) w9 (s (swp2 k j i)) (r + c) (fun x => bl (nT c (swp V j k) P) f k i x) ∧ ∀ ad, (s (swp2 k j i)).a = some ad → ad.block ≠ g5 ∧ (Value.slice li.a li.len li.cap).ownBlock ≠ some ad.block ∧ ad.block < w9.heap.size := fun i hi hic => by
      have hlt2 : swp2 k j i < c := du hkc hj hic
      have hle2 : k ≤ swp2 k j i := by unfold swp2; split; omega; split <;> omega
      refine ⟨((hc0.col _ hle2 hlt2).gbT hc0.top hG9).congr (fun x _ => ?_), fun ad e => ?_⟩
      ·rw [qf V P f hkj (Nat.le_refl _)]; rfl
      ·obtain ⟨q1, q2, q3⟩ := hc0.off _ hle2 hlt2 ad e
       exact ⟨q1, q2, by have := hc9.size; omega⟩
     have hN9 := NatG.gbB (hN.ext hE8) hG9 (by omega)
     have hb59 := (hb5'.ext hE8).chg hc9 (by omega)
     have hxe9 := (hxe.ext hE8).gbN hc0.top (bZ _ _) hG9
     have hb39 := (hb3'.ext hE8).chg hc9 (Ne.symm hne)
     have hE9 : Ex w w9 := (hE7.trans hE8).chg hc9 lw
     have hd9 : d = det k (fun a b => nT c (swp V j k) P a (f b)) := by
      rw [hd]; exact bo fun a b ha _ => by rw [jf, if_neg (by omega), if_neg (by omega)]
     have hpiv : bl (nT c (swp V j k) P) f k k x0 ≠ 0 := by
      rw [qf V P f hkj (Nat.le_refl _), if_pos rfl]; exact hnz hj
     have hs9 : w6.heap.size ≤ w9.heap.size := by have := hE8.size; have := hc9.size; omega
     generalize hV' : swp V j k = V' at *
     generalize hsv : (fun i => s (swp2 k j i)) = s9 at *
     have hX9' : ∀ i, k ≤ i → i < c → RX false (16 * K + 17) w9 (s9 i) (r + c) (fun x => bl (nT c V' P) f k i x) ∧ ∀ ad, (s9 i).a = some ad → ad.block ≠ g5 ∧ (Value.slice li.a li.len li.cap).ownBlock ≠ some ad.block ∧ ad.block < w9.heap.size := by rw [← hsv]; exact hX9
     clear hX9 hc0 hG9 hJ hPm hW hN hb5' hxe hb3' hd hE7 hE8 hz hnz hc9
     have hnz' : (det k fun a b => nT c V' P a (f b)) ≠ 0 := by rw [← hd9]; exact hd0
     have hstep : ∀ i x, (bl (nT c V' P) f k k x0 * bl (nT c V' P) f k i x + (-(bl (nT c V' P) f k i x0)) * bl (nT c V' P) f k k x) / d = bl (nT c V' P) (ext f k x0) (k + 1) i x := fun i x => by
      have := tK hnz' x0 i x
      rw [← hd9] at this
      rw [show bl (nT c V' P) f k k x0 * bl (nT c V' P) f k i x + (-(bl (nT c V' P) f k i x0)) * bl (nT c V' P) f k k x = bl (nT c V' P) (ext f k x0) (k + 1) i x * d by rw [this, Int.neg_mul]; omega]
      exact Int.mul_ediv_cancel _ hd0
     have hJ2 := hJ'.take hkc hpiv
     repeat' (first|refine ai rfl ?_|refine aa ?_|refine aj ?_|refine ah rfl ?_|refine ae ?_|refine aZ rfl rfl (by omega) (by omega) ?_|refine aA ?_)
     have ek1 : Value.int .i64 ((k : Int) + 1) = .int .i64 ((k + 1 : Nat) : Int) := rfl
     refine aY (ι := Nat × (Nat → SD)) [9, 65, 66, 67, 68, 69, 70, 71, 72, 73, 74, 75, 76, 77, 78] (fun t => [(9, .int .i64 (t.1 : Int))])
      (fun t w' => (k + 1 ≤ t.1 ∧ t.1 ≤ c ∧ Ex w w' ∧ w6.heap.size ≤ w'.heap.size) ∧ Blk w' gw 27 (topC c t.2) ∧ RX false (16 * K + 17) w' (t.2 k) (r + c) (fun x => bl (nT c V' P) f k k x) ∧ (∀ i, k < i → i < t.1 → RX false (16 * K + 17) w' (t.2 i) (r + c) (fun x => bl (nT c V' P) (ext f k x0) (k + 1) i x)) ∧ (∀ i, t.1 ≤ i → i < c → RX false (16 * K + 17) w' (t.2 i) (r + c) (fun x => bl (nT c V' P) f k i x)) ∧
       (∀ i, k ≤ i → i < c → ∀ ad, (t.2 i).a = some ad → ad.block ≠ g5 ∧ (Value.slice li.a li.len li.cap).ownBlock ≠ some ad.block ∧ ad.block < w'.heap.size) ∧ NatG w' w6.heap.size 3 k li f ∧ Blk w' g5 33 x.cells ∧ Ent false (16 * K + 17) w' x.val d ∧ Blk w' g3 81 (pairL gw c r)) (fun t => c - t.1)
      (k + 1, s9) ⟨ek1, trivial⟩ ⟨⟨Nat.le_refl _, hkc, hE9, hs9⟩, hT9, (hX9' k (Nat.le_refl _) hkc).1, fun i h1 h2 => by simp only at h2; omega, fun i h1 h2 => (hX9' i (by simp only at h1; omega) h2).1, fun i h1 h2 => (hX9' i h1 h2).2, hN9, hb59, hxe9, hb39⟩ ?_
     clear hX9' hT9 hN9 hb59 hxe9 hb39 hE9 hs9
     rintro ⟨m, s⟩ ξ4 w10 ⟨⟨hkm, hmc, hE10, hs10⟩, hT10, hXk, hXn, hXo, hoff, hN10, hb510, hxe10, hb310⟩
     simp only at hkm hmc hT10 hXk hXn hXo hoff
     show CW _ _ _ _ (over [(9, .int .i64 (m : Int))] _) w10
     rcases Nat.lt_or_ge m c with hm | hm
     ·have hxm := hXo m (Nat.le_refl _) hm
      repeat' (first|refine aQ (g := g3) rfl hb310 rfl ?_|refine bC rfl rfl (by omega) ?_|refine aN (g := g5) rfl hb510 rfl ?_|refine ai rfl ?_|refine aa ?_|refine aj ?_|refine ah rfl ?_|refine ae ?_|refine bh rfl ?_|refine aG rfl ?_|refine aD rfl ?_|refine aA ?_|refine aF ?_)
      have hlbn : ∀ x, x < r + c → Lb (16 * K + 17) (bl (nT c V' P) (ext f k x0) (k + 1) m x) := fun y hy => wH hPm' hPl (by omega) hm hy hc.2 (fun a ha => by
       unfold ext; split
       ·have := hJ'.lt a (by assumption); omega
       ·exact hxlt)
      refine av (k7 (K' := 16 * K + 17) hT10 hkc hm (by omega) (by omega) hxlt hxm hXk hxe10 hd0 (by omega) (by omega) (fun y hy => by rw [hstep m y]; exact hlbn y hy)) rfl ?_
      rintro v w11 ⟨g6, hlo6, hG11, hT11, hO11⟩
      refine ⟨fun _ _ => trivial, ?_⟩
      repeat' (first|refine ai rfl ?_|refine aa ?_|refine ah rfl ?_|refine ae ?_|refine aZ rfl rfl (by omega) (by omega) ?_|refine aK ?_)
      have hlg6 := hO11.lt
      have s11 := hG11.size
      refine ⟨⟨(m + 1, setF s m ⟨some ⟨g6, 0, none⟩, r + c, r + c⟩), ⟨⟨by omega, hm, hE10.gb hG11 (fun k e => by cases e; exact lw), by omega⟩, hT11, ?_, fun i h1 h2 => ?_, fun i h1 h2 => ?_, fun i h1 h2 ad e => ?_, NatG.gbB hN10 hG11 (by omega), hb510.gb hG11 (fun e => by cases e; omega), hxe10.gbN hT10 (bZ _ _) hG11, hb310.gb hG11 (fun e => by cases e; exact hne rfl)⟩, by simp only; omega, rfl, trivial⟩, (by (repeat (first|exact aE _ _ _|refine aw rfl ?_|refine au rfl ?_|refine ak rfl ?_|refine ao rfl ?_)))⟩
      ·simp only; rw [aO _ _ (by omega)]; exact hXk.gbT hT10 hG11
      ·simp only at h2 ⊢
       by_cases him : i = m
       ·subst him; rw [aJ]; exact (hO11.rx.weak').congr (fun y _ => (hstep i y).symm)
       ·rw [aO _ _ him]; exact (hXn i h1 (by omega)).gbT hT10 hG11
      ·simp only at h1 ⊢; rw [aO _ _ (by omega)]; exact (hXo i (by omega) h2).gbT hT10 hG11
      ·simp only at e
       by_cases him : i = m
       ·subst him
        rw [aJ] at e
        cases e
        have hg5 := hb510.lt
        refine ⟨by simp only; omega, fun h => ?_, hlg6⟩
        cases hla : li.a with
        | none => rw [hla] at h; cases h
        | some a1 => rw [hla] at h; have := (hN10.lo a1 hla).2; simp [Value.ownBlock] at h; omega
       ·rw [aO _ _ him] at e
        obtain ⟨q1, q2, q3⟩ := hoff i h1 h2 ad e
        exact ⟨q1, q2, by omega⟩
     ·have emc : c = m := by omega
      subst emc
      obtain ⟨p, dd, hh, e1, _, hp, hS, hEn⟩ := hXk.get (by omega)
      repeat' (first|refine aQ (g := g3) rfl hb310 rfl ?_|refine bA rfl rfl (by omega) ?_|refine aC (j := k) (a := some ⟨gw, 0, none⟩) rfl rfl ⟨_, _, rfl⟩ (by omega) ?_|refine aU (j := k) (a := some ⟨gw, 0, none⟩) rfl hT10.sl (by omega) e1 ?_|refine aT (j := x0) (a := p) rfl rfl hp (by omega) ?_|refine bu (j := x0) (a := p) rfl hS hp (by omega) ?_|refine ai rfl ?_|refine aa ?_|refine aj ?_|refine ah rfl ?_|refine ae ?_|refine bh rfl ?_|refine aG rfl ?_|refine ay rfl ?_|refine aV ?_|refine aL ?_|refine aW ?_)
      refine ax (n := 2) (vs := (hh x0).cells) rfl rfl rfl rfl hb510 rfl (fun w11 hc11 hb11 => ⟨fun _ _ => trivial, ?_⟩)
      have hG11 := bG hc11
      have s11 := hc11.size
      have hpe := (hEn x0 hxlt).gbN hb510 (aI _ _ _ _) hG11
      have hN11 := NatG.gbB hN10 hG11 (by omega)
      have hT11 := hT10.chg hc11 (by omega)
      have hb311 := hb310.chg hc11 (by omega)
      have hX11 : ∀ i, k + 1 ≤ i → i < c → RX false (16 * K + 17) w11 (s i) (r + c) (fun x => bl (nT c V' P) (ext f k x0) (k + 1) i x) := fun i h1 h2 => (hXn i (by omega) h2).gbN hb510 (aI _ _ _ _) hG11 (fun ad e => (hoff i (by omega) h2 ad e).1)
      have hE11 := hE10.chg hc11 (by omega)
      repeat' (first|refine ai rfl ?_|refine aa ?_|refine ah rfl ?_|refine ae ?_)
      refine nh (E := 3) (lo := w6.heap.size) (u := x0) (by show Value.slice li.a k li.cap = _; rw [hll]) rfl rfl hN11 (by omega) (by omega) (by omega) ?_
      intro gt li' f' w12 hN12 hf1 hf2 hG12 hA12
      repeat' (first|refine ai rfl ?_|refine aa ?_|refine ah rfl ?_|refine ae ?_|refine aZ rfl rfl (by omega) (by omega) ?_|refine aK ?_)
      have s12 := hG12.size
      have hlb2 : ∀ q, (Value.slice li.a li.len li.cap).ownBlock = some q → w6.heap.size ≤ q := fun q e => (hN11.blk q e).1
      have hlt2 : ∀ q, (Value.slice li.a li.len li.cap).ownBlock = some q → q < w11.heap.size := fun q e => (hN11.blk q e).2.lt
      have hE12 : Ex w w12 := hE11.gb hG12 (fun q e => by have := hlb2 q e; have := hE6.size; omega)
      have hfe : ∀ a, a < k + 1 → f' a = ext f k x0 a := fun a ha => by
       unfold ext; by_cases h : a < k
       ·rw [if_pos h]; exact hf1 a h
       ·rw [if_neg h, show a = k by omega]; exact hf2
      have hlen' : li'.len = k + 1 := hN12.1
      refine ⟨⟨(x0 + 1, k + 1, f', V', s, li', hh x0, bl (nT c V' P) f k k x0), ⟨⟨hxlt, hE12, by omega⟩, hJ2.congr hfe, hPm', ⟨hT11.gb hG12 (fun e => by have := hlb2 _ e; omega), fun i h1 h2 => ((hX11 i h1 h2).gbL hN11 hG12 (fun ad e => (hoff i (Nat.le_of_succ_le h1) h2 ad e).2.1)).congr (fun y _ => uY hfe), fun i h1 h2 ad e => ?_⟩, hN12, hb11.gb hG12 (fun e => by have := hlb2 _ e; omega), hpe.gbL hN11 hG12, ?_, hb311.gb hG12 (fun e => by have := hlb2 _ e; omega)⟩, by simp only; omega, rfl, ?_, trivial⟩, (by (repeat (first|exact aE _ _ _|refine aw rfl ?_|refine au rfl ?_|refine ak rfl ?_|refine ao rfl ?_)))⟩
      ·obtain ⟨q1, q2, q3⟩ := hoff i (Nat.le_of_succ_le h1) h2 ad e
       refine ⟨q1, fun h => ?_, by omega⟩
       cases hla : li'.a with
       | none => rw [hla] at h; cases h
       | some a1 =>
        rcases hA12 with h3 | h3
        ·refine q2 ?_
         rw [← h3, hla]; rw [hla] at h; simpa [Value.ownBlock] using h
        ·have := h3 a1 hla; rw [hla] at h; simp [Value.ownBlock] at h; omega
      ·show bl (nT c V' P) f k k x0 = det (k + 1) fun a b => nT c V' P a (f' b)
       rw [qe]; exact bo fun a b _ hb => by rw [hfe b hb]
      ·show Value.slice li'.a li'.len li'.cap = Value.slice li'.a (k + 1) li'.cap
       rw [hlen']
    ·have ejc : c = j := by omega
     subst ejc
     repeat' (first|refine aQ (g := g3) rfl (hb3'.ext hE8) rfl ?_|refine jJ rfl rfl rfl ?_|refine ai rfl ?_|refine aa ?_|refine aj ?_|refine ah rfl ?_|refine ae ?_|refine bh rfl ?_|refine aZ rfl rfl (by omega) (by omega) ?_|refine aG rfl ?_|refine aD rfl ?_|refine aV ?_|refine aL ?_|refine aW ?_)
     refine ⟨⟨(x0 + 1, k, f, V, s, li, x, d), ⟨⟨hxlt, hE7.trans hE8, by have := hE8.size; omega⟩, hJ.skip (fun i h1 h2 => hz i h1 h2), hPm, hW.ext hE8, hN.ext hE8, hb5'.ext hE8, hxe.ext hE8, hd, hb3'.ext hE8⟩, by simp only; omega, rfl, rfl, trivial⟩, (by (repeat (first|exact aE _ _ _|refine aw rfl ?_|refine au rfl ?_|refine ak rfl ?_|refine ao rfl ?_)))⟩
  ·have hkc' : k = c := by have := hJ.kc; omega
   repeat' (first|refine aQ (g := g3) rfl hb3' rfl ?_|refine bA rfl rfl (by omega) ?_|refine ai rfl ?_|refine aa ?_|refine aj ?_|refine ah rfl ?_|refine ae ?_|refine bh rfl ?_|refine aG rfl ?_|refine ay rfl ?_|refine aV ?_|refine aL ?_|refine aW ?_|refine aR ?_)
   have hfin := InJ.skips hJ hkc' (r + c - x0)
   rw [show x0 + (r + c - x0) = r + c by omega, hkc'] at hfin
   rw [hkc'] at hN
   exact bK rfl (rt (v := .slice li.a k li.cap) rfl) ⟨li, f, V, by rw [hll], NatG.mono hN (by have := hE6.size; omega), hfin, hE7⟩
end Go.Proofs.YtppipmkpmmdcjaaGreat
namespace Go.Proofs.YtppipmkpmmdcjaaGreat
open Go.W Go.LM Go.LA
structure Cel (cn : Bool) (w : World) (lo K n : Nat) (g : Nat → Nat) (x : Nat → IH) (z : Nat → Int) : Prop where
 blk : ∀ i, i < n → Blk w (g i) 33 (x i).cells
 ent : ∀ i, i < n → Ent cn K w (x i).val (z i)
 low : ∀ i, i < n → lo ≤ g i
 inj : ∀ i j, i < n → j < n → g i = g j → i = j
section
variable {cn : Bool} {w w' : World} {lo K n : Nat} {g : Nat → Nat} {x : Nat → IH} {z : Nat → Int}
theorem Cel.nil (cn : Bool) (w : World) (lo K : Nat) (g : Nat → Nat) (x : Nat → IH) (z : Nat → Int) : Cel cn w lo K 0 g x z := ⟨fun i h => by omega, fun i h => by omega, fun i h => by omega, fun i j h => by omega⟩
theorem Cel.ext (h : Cel cn w lo K n g x z) (e : Ex w w') : Cel cn w' lo K n g x z := ⟨fun i hi => (h.blk i hi).ext e, fun i hi => (h.ent i hi).ext e, h.low, h.inj⟩
theorem Cel.put {i : Nat} {u : IH} {v : Int} (h : Cel cn w lo K n g x z) (hi : i < n) (hu : Ent cn K w u.val v) (hc : Chg (g i) w w') (hb : Blk w' (g i) 33 u.cells) : Cel cn w' lo K n g (setF x i u) (setF z i v) := by
 have hne : ∀ j, j < n → j ≠ i → g j ≠ g i := fun j hj hne e => hne (h.inj j i hj hi e)
 refine ⟨fun j hj => ?_, fun j hj => ?_, h.low, h.inj⟩
 ·by_cases hji : j = i
  ·subst hji; rw [aJ]; exact hb
  ·rw [aO _ _ hji]; exact (h.blk j hj).chg hc (hne j hj hji)
 ·by_cases hji : j = i
  ·subst hji; rw [aJ, aJ]; exact hu.gbN (h.blk j hj) (aI _ _ _ _) (bG hc)
  ·rw [aO _ _ hji, aO _ _ hji]; exact (h.ent j hj).gbN (h.blk i hi) (aI _ _ _ _) (bG hc)
theorem Cel.snoc {gn : Nat} (h : Cel cn w lo K n g x z) (hn : New w w' gn 33 (intL false none 0 0)) (hlo : lo ≤ gn) : Cel cn w' lo K (n + 1) (setF g n gn) (setF x n ih0) (setF z n 0) := by
 have hlt : ∀ i, i < n → g i ≠ gn := fun i hi => by have := (h.blk i hi).lt; have := hn.lo; omega
 refine ⟨fun j hj => ?_, fun j hj => ?_, fun j hj => ?_, fun i j hi hj e => ?_⟩
 ·by_cases hji : j = n
  ·subst hji; rw [aJ, aJ]; exact hn.blk
  ·rw [aO _ _ hji, aO _ _ hji]; exact (h.blk j (by omega)).ext hn.ex
 ·by_cases hji : j = n
  ·subst hji; rw [aJ, aJ]; exact kU _
  ·rw [aO _ _ hji, aO _ _ hji]; exact (h.ent j (by omega)).ext hn.ex
 ·by_cases hji : j = n
  ·subst hji; rw [aJ]; exact hlo
  ·rw [aO _ _ hji]; exact h.low j (by omega)
 ·by_cases hi' : i = n
  ·by_cases hj' : j = n
   ·omega
   ·subst hi'; rw [aJ, aO _ _ hj'] at e; exact absurd e.symm (hlt j (by omega))
  ·by_cases hj' : j = n
   ·subst hj'; rw [aJ, aO _ _ hi'] at e; exact absurd e (hlt i (by omega))
   ·rw [aO _ _ hi', aO _ _ hj'] at e; exact h.inj i j (by omega) (by omega) e
theorem Cel.box {gn : Nat} {u : IH} {v : Int} (h : Cel cn w lo K n g x z) (hn : New w w' gn 33 u.cells) (hlo : lo ≤ gn) (hu : Ent cn K w u.val v) : Cel cn w' lo K (n + 1) (setF g n gn) (setF x n u) (setF z n v) := by
 have hlt : ∀ i, i < n → g i ≠ gn := fun i hi => by have := (h.blk i hi).lt; have := hn.lo; omega
 refine ⟨fun j hj => ?_, fun j hj => ?_, fun j hj => ?_, fun i j hi hj e => ?_⟩
 ·by_cases hji : j = n
  ·subst hji; rw [aJ, aJ]; exact hn.blk
  ·rw [aO _ _ hji, aO _ _ hji]; exact (h.blk j (by omega)).ext hn.ex
 ·by_cases hji : j = n
  ·subst hji; rw [aJ, aJ]; exact hu.ext hn.ex
  ·rw [aO _ _ hji, aO _ _ hji]; exact (h.ent j (by omega)).ext hn.ex
 ·by_cases hji : j = n
  ·subst hji; rw [aJ]; exact hlo
  ·rw [aO _ _ hji]; exact h.low j (by omega)
 ·by_cases hi' : i = n
  ·by_cases hj' : j = n
   ·omega
   ·subst hi'; rw [aJ, aO _ _ hj'] at e; exact absurd e.symm (hlt j (by omega))
  ·by_cases hj' : j = n
   ·subst hj'; rw [aJ, aO _ _ hi'] at e; exact absurd e (hlt i (by omega))
   ·rw [aO _ _ hi', aO _ _ hj'] at e; exact h.inj i j (by omega) (by omega) e
theorem Cel.cut {m : Nat} {g' : Nat → Nat} (h : Cel cn w lo K n g x z) (hm : m ≤ n) (hg : ∀ i, i < m → g i = g' i) : Cel cn w lo K m g' x z :=
 ⟨fun i hi => by rw [← hg i hi]; exact h.blk i (by omega), fun i hi => h.ent i (by omega), fun i hi => by rw [← hg i hi]; exact h.low i (by omega), fun i j hi hj e => h.inj i j (by omega) (by omega) (by rw [hg i hi, hg j hj]; exact e)⟩
end
theorem sr {K : Nat} {z y : Int} (h : (z.natAbs : Int) ≤ y + 1) (hy : Lb K y) (h0 : 0 ≤ y) : Lb (K + 1) z := by
 unfold Lb at *
 have hp : 0 < 4294967296 ^ K := Nat.pow_pos (by decide)
 rw [Nat.pow_succ]; omega
set_option maxHeartbeats 4000000 in
theorem bY {cn : Bool} {K : Nat} {w : World} {v1 v2 : Value} {x0 y0 : Int} (h1 : Ent cn K w v1 x0) (h2 : Ent cn K w v2 y0) (hx0 : 0 ≤ x0) (hy0 : 0 ≤ y0) (hK1 : 1 ≤ K) (hK : 2 * K + 10 < 17592186044415) :
  CallsR Tryz.prog 99 #[v1, v2] w fun v w' => ∃ u1 u2 u3 d a b, v = .tuple #[u1, u2, u3] ∧ Ent cn (K + 1) w' u1 d ∧ Lb K d ∧ Ent cn (K + 1) w' u2 a ∧ Ent cn (K + 1) w' u3 b ∧ 0 ≤ d ∧ a * x0 + b * y0 = d ∧ d ∣ x0 ∧ d ∣ y0 ∧ (d = 0 → x0 = 0 ∧ y0 = 0) ∧ Ex w w' := by
 obtain ⟨xa, rfl⟩ := h1.ih
 obtain ⟨xb, rfl⟩ := h2.ih
 refine aH (args := [_, _]) Tryz.func99 rfl rfl ?_
 refine aj ?_
 refine ah rfl ?_
 have hC0 := Cel.nil cn w w.heap.size (K + 1) (fun _ => 0) (fun _ => ih0) (fun _ => 0)
 refine bH (vs := xa.cells) rfl (fun g2 w2 hn2 => ⟨fun _ _ => trivial, ?_⟩)
 have hC1 := hC0.box hn2 hn2.lo (h1.up (by omega))
 have e2 := hn2.ex
 refine bH (vs := xb.cells) rfl (fun g3 w3 hn3 => ⟨fun _ _ => trivial, ?_⟩)
 have hC2 := hC1.box hn3 (by have := hn3.lo; have := e2.size; omega) ((h2.ext e2).up (by omega))
 have e3 := e2.trans hn3.ex
 refine aB (fun g4 w4 hn4 => ⟨fun _ _ => trivial, ?_⟩)
 have hC3 := hC2.snoc (show New w3 w4 g4 33 (intL false none 0 0) from hn4) (by have := hn4.lo; have := e3.size; omega)
 have e4 := e3.trans hn4.ex
 refine aB (fun g5 w5 hn5 => ⟨fun _ _ => trivial, ?_⟩)
 have hC4 := hC3.snoc (show New w4 w5 g5 33 (intL false none 0 0) from hn5) (by have := hn5.lo; have := e4.size; omega)
 have e5 := e4.trans hn5.ex
 refine aB (fun g6 w6 hn6 => ⟨fun _ _ => trivial, ?_⟩)
 have hC5 := hC4.snoc (show New w5 w6 g6 33 (intL false none 0 0) from hn6) (by have := hn6.lo; have := e5.size; omega)
 have e6 := e5.trans hn6.ex
 repeat' (first|refine aa ?_|refine aj ?_|refine ah rfl ?_|refine ae ?_)
 refine av (cG (z := 1) (by omega) (by omega) _) rfl ?_
 rintro v w7 ⟨hI7, hE7⟩
 refine ⟨fun _ _ => trivial, ?_⟩
 obtain ⟨o1, rfl⟩ := hI7.ih
 have n7 : Ent cn (K + 1) w7 o1.val 1 := Ent.of hI7 (bM (e := K + 1) (by decide) (by omega))
 repeat' (first|refine cL (cs := intL false none 0 0) rfl ?_)
 refine ax (n := 2) (vs := o1.cells) rfl rfl rfl rfl ((hC5.ext hE7).blk 3 (by omega)) rfl (fun w8 hc8 hb8 => ⟨fun _ _ => trivial, ?_⟩)
 have hC8 := (hC5.ext hE7).put (i := 3) (by omega) n7 hc8 hb8
 refine ax (n := 2) (vs := ih0.cells) rfl rfl rfl rfl (hC8.blk 4 (by omega)) rfl (fun w9 hc9 hb9 => ⟨fun _ _ => trivial, ?_⟩)
 have hC9 := hC8.put (i := 4) (by omega) (kU _) hc9 hb9
 have e9 : Ex w w9 := ((e6.trans hE7).chg hc8 (hC5.low 3 (by omega))).chg hc9 (hC5.low 4 (by omega))
 repeat' (first|refine cL (cs := intL false none 0 0) rfl ?_|refine aa ?_|refine aj ?_|refine ah rfl ?_|refine ae ?_)
 refine av (cG (z := 1) (by omega) (by omega) _) rfl ?_
 rintro v w10 ⟨hI10, hE10⟩
 refine ⟨fun _ _ => trivial, ?_⟩
 obtain ⟨o2, rfl⟩ := hI10.ih
 have n10 : Ent cn (K + 1) w10 o2.val 1 := Ent.of hI10 (bM (e := K + 1) (by decide) (by omega))
 have e10 := e9.trans hE10
 refine aB (fun g7 w11 hn11 => ⟨fun _ _ => trivial, ?_⟩)
 have hC11 := (hC9.ext hE10).snoc (show New w10 w11 g7 33 (intL false none 0 0) from hn11) (by have := hn11.lo; have := e10.size; omega)
 have e11 := e10.trans hn11.ex
 refine aB (fun g8 w12 hn12 => ⟨fun _ _ => trivial, ?_⟩)
 have hC12 := hC11.snoc (show New w11 w12 g8 33 (intL false none 0 0) from hn12) (by have := hn12.lo; have := e11.size; omega)
 have e12 := e11.trans hn12.ex
 refine ax (n := 2) (vs := ih0.cells) rfl rfl rfl rfl (hC12.blk 5 (by omega)) rfl (fun w13 hc13 hb13 => ⟨fun _ _ => trivial, ?_⟩)
 have hC13 := hC12.put (i := 5) (by omega) (kU _) hc13 hb13
 have n13 := ((n10.ext hn11.ex).ext hn12.ex).gbN (hC12.blk 5 (by omega)) (aI _ _ _ _) (bG hc13)
 refine ax (n := 2) (vs := o2.cells) rfl rfl rfl rfl (hC13.blk 6 (by omega)) rfl (fun w14 hc14 hb14 => ⟨fun _ _ => trivial, ?_⟩)
 have hC14 := hC13.put (i := 6) (by omega) n13 hc14 hb14
 have e14 : Ex w w14 := (e12.chg hc13 (hC12.low 5 (by omega))).chg hc14 (hC12.low 6 (by omega))
 clear hC0 hC1 hC2 hC3 hC4 hC5 hC8 hC9 hC11 hC12 hC13 hc8 hc9 hc13 hc14 hb8 hb9 hb13 hb14 e2 e3 e4 e5 e6 e9 e10 e11 e12 n7 n10 n13 hI7 hI10
 repeat' (first|refine aa ?_|refine aj ?_|refine ae ?_|refine aA ?_)
 refine aY (ι := (Nat → IH) × (Nat → Int)) [9, 10, 11, 16, 17, 18, 19, 20, 21, 22, 23, 24, 25, 26, 27, 28, 29, 30, 31, 32, 33, 34, 35, 36, 37, 38, 39] (fun _ => [])
  (fun t w' => Ex w w' ∧ Cel cn w' w.heap.size (K + 1) 7 (setF (setF (setF (setF (setF (setF (setF (fun _ => 0) 0 g2) 1 g3) 2 g4) 3 g5) 4 g6) 5 g7) 6 g8) t.1 t.2 ∧ Lb K (t.2 0) ∧ Lb K (t.2 1) ∧ BzJ x0 y0 (t.2 0) (t.2 1) (t.2 3) (t.2 4) (t.2 5) (t.2 6)) (fun t => (t.2 1).natAbs)
  (_, _) trivial ⟨e14, hC14, h1.lb, h2.lb, sn hx0 hy0⟩ ?_
 clear hC14 e14
 rintro ⟨X, Z⟩ ξ w15 ⟨hE15, hC, hl0, hl1, hB⟩
 simp only at hC hl0 hl1 hB
 show CW _ _ _ _ (over [] _) w15
 generalize hG : setF (setF (setF (setF (setF (setF (setF (fun _ => 0) 0 g2) 1 g3) 2 g4) 3 g5) 4 g6) 5 g7) 6 g8 = G at hC ⊢
 obtain ⟨q0, q1, q2, q3, q4, q5, q6⟩ : G 0 = g2 ∧ G 1 = g3 ∧ G 2 = g4 ∧ G 3 = g5 ∧ G 4 = g6 ∧ G 5 = g7 ∧ G 6 = g8 := by
  rw [← hG]; exact ⟨rfl, rfl, rfl, rfl, rfl, rfl, rfl⟩
 subst q0 q1 q2 q3 q4 q5 q6
 repeat' (first|refine aN (g := G 1) rfl (hC.blk 1 (by omega)) rfl ?_|refine aj ?_|refine ah rfl ?_)
 refine av (bP (hC.ent 1 (by omega)).k) rfl ?_
 rintro v w16 ⟨rfl, hE16⟩
 refine ⟨fun _ _ => trivial, ?_⟩
 replace hC := hC.ext hE16
 have hE16' := hE15.trans hE16
 by_cases hz : Z 1 = 0
 ·rw [hz] at hB
  obtain ⟨d1, d2, d3, d4⟩ := hB.done
  have n02 : G 0 ≠ G 2 := fun e => by have := hC.inj 0 2 (by omega) (by omega) e; omega
  have n32 : G 3 ≠ G 2 := fun e => by have := hC.inj 3 2 (by omega) (by omega) e; omega
  have n42 : G 4 ≠ G 2 := fun e => by have := hC.inj 4 2 (by omega) (by omega) e; omega
  have n43 : G 4 ≠ G 3 := fun e => by have := hC.inj 4 3 (by omega) (by omega) e; omega
  have n03 : G 0 ≠ G 3 := fun e => by have := hC.inj 0 3 (by omega) (by omega) e; omega
  have n04 : G 0 ≠ G 4 := fun e => by have := hC.inj 0 4 (by omega) (by omega) e; omega
  have hCd := hC.ext (Ex.refl w16).drew
  repeat' (first|(refine fd rfl rfl (by rw [hz]; rfl) ?_)|refine aa ?_|refine aj ?_|refine ae ?_|refine ay rfl ?_|refine aV ?_|refine aL ?_|refine aW ?_)
  refine bi (late := [5]) (plan := [(0, none), (1, none), (2, none), (3, some true), (4, some true), (5, some false)]) (fun w' => Blk w' (G 0) 33 (X 0).cells ∧ Blk w' (G 3) 33 (X 3).cells ∧ Blk w' (G 4) 33 (X 4).cells) bB (by kernel_rfl) ⟨hCd.blk 0 (by omega), hCd.blk 3 (by omega), hCd.blk 4 (by omega)⟩ ?_
  repeat' (first|refine aN (g := G 0) rfl (fun _ h => h.1) rfl ?_|refine aN (g := G 3) rfl (fun _ h => h.2.1) rfl ?_|refine aN (g := G 4) rfl (fun _ h => h.2.2) rfl ?_)
  refine ax (n := 2) (vs := (X 0).cells) rfl rfl rfl rfl (hCd.blk 2 (by omega)) rfl (fun w17 hc17 hb17 => ⟨fun _ h => ⟨h.1.chg hc17 n02, h.2.1.chg hc17 n32, h.2.2.chg hc17 n42⟩, ?_⟩)
  have hC17 := hCd.put (i := 2) (by omega) (hCd.ent 0 (by omega)) hc17 hb17
  skip
  refine ax (n := 2) (vs := (X 3).cells) rfl rfl rfl rfl (hC17.blk 3 (by omega)) rfl (fun w18 hc18 hb18 => ⟨fun _ h => ⟨h.1.chg hc18 n03, hb18, h.2.2.chg hc18 n43⟩, ?_⟩)
  have hC18 := hC17.put (i := 3) (by omega) (hC17.ent 3 (by omega)) hc18 hb18
  skip
  refine ax (n := 2) (vs := (X 4).cells) rfl rfl rfl rfl (hC18.blk 4 (by omega)) rfl (fun w19 hc19 hb19 => ⟨fun _ h => ⟨h.1.chg hc19 n04, h.2.1.chg hc19 (Ne.symm n43), hb19⟩, ?_⟩)
  have hC19 := hC18.put (i := 4) (by omega) (hC18.ent 4 (by omega)) hc19 hb19
  repeat' (first|refine aa ?_|refine ae ?_|refine aR ?_)
  refine fM rfl (rc rfl rfl (hC19.blk 2 (by omega))) (rc rfl rfl (hC19.blk 3 (by omega))) (rc rfl rfl (hC19.blk 4 (by omega))) ⟨_, _, _, Z 0, Z 3, Z 4, rfl, hC19.ent 2 (by omega), hl0, hC19.ent 3 (by omega), hC19.ent 4 (by omega), hB.hx, d1, d2, d3, d4, ((hE16'.drew.chg hc17 (hC.low 2 (by omega))).chg hc18 (hC.low 3 (by omega))).chg hc19 (hC.low 4 (by omega))⟩
 ·have hst := hB.step hx0 hy0 hz
  have hsg : (Z 1).sign ≠ 0 := fun e => hz (Int.sign_eq_zero_iff_zero.1 e)
  repeat' (first|refine aN (g := G 0) rfl (hC.blk 0 (by omega)) rfl ?_|refine aN (g := G 1) rfl (hC.blk 1 (by omega)) rfl ?_|refine ai rfl ?_|refine aa ?_|refine aj ?_|refine ah rfl ?_|refine ae ?_|refine aP rfl (fun hc => ?_) (fun hc => ?_)|refine aA ?_|refine aV ?_|refine aL ?_|refine aW ?_|refine aF ?_)
  all_goals try (exact absurd hsg (by assumption))
  refine av (bn (hC.ent 0 (by omega)).k (hC.ent 1 (by omega)).k (by omega) (by omega)) rfl ?_
  rintro v w17 ⟨q, rm, rfl, hq, hrm, hE17⟩
  refine ⟨fun _ _ => trivial, ?_⟩
  rw [if_neg hz] at hrm
  obtain ⟨xq, rfl⟩ := hq.ih
  obtain ⟨xr, rfl⟩ := hrm.ih
  have eq : Ent cn (K + 1) w17 xq.val (Z 0 / Z 1) := Ent.of hq ((hl0.div _).mono (by omega))
  have er : Ent cn (K + 1) w17 xr.val (Z 0 % Z 1) := Ent.of hrm ((hl1.mod _ hz).mono (by omega))
  have e17 := hE16'.trans hE17
  repeat' (first|refine aS rfl rfl ?_|refine ai rfl ?_)
  refine aB (fun g9 w18 hn18 => ⟨fun _ _ => trivial, ?_⟩)
  have hCa := (hC.ext hE17).snoc (show New w17 w18 g9 33 (intL false none 0 0) from hn18) (by have := hn18.lo; have := e17.size; omega)
  have e18 := e17.trans hn18.ex
  refine aB (fun g10 w19 hn19 => ⟨fun _ _ => trivial, ?_⟩)
  have hCb := hCa.snoc (show New w18 w19 g10 33 (intL false none 0 0) from hn19) (by have := hn19.lo; have := e18.size; omega)
  have e19 := e18.trans hn19.ex
  have eq' := (eq.ext hn18.ex).ext hn19.ex
  have er' := (er.ext hn18.ex).ext hn19.ex
  have f7 : ∀ i, i < 7 → setF (setF G 7 g9) (7 + 1) g10 i = G i := fun i hi => by rw [aO _ _ (by omega), aO _ _ (by omega)]
  generalize hH : setF (setF G 7 g9) (7 + 1) g10 = H at hCb f7
  have h9 : H 7 = g9 := by rw [← hH]; rfl
  have h10 : H 8 = g10 := by rw [← hH]; rfl
  subst h9 h10
  obtain ⟨q0, q1, q2, q3, q4, q5, q6⟩ : H 0 = G 0 ∧ H 1 = G 1 ∧ H 2 = G 2 ∧ H 3 = G 3 ∧ H 4 = G 4 ∧ H 5 = G 5 ∧ H 6 = G 6 := ⟨f7 0 (by omega), f7 1 (by omega), f7 2 (by omega), f7 3 (by omega), f7 4 (by omega), f7 5 (by omega), f7 6 (by omega)⟩
  rw [← q0, ← q1, ← q2, ← q3, ← q4, ← q5, ← q6]
  refine ax (n := 2) (vs := xq.cells) rfl rfl rfl rfl (hCb.blk 7 (by omega)) rfl (fun w20 hc20 hb20 => ⟨fun _ _ => trivial, ?_⟩)
  have hC20 := hCb.put (i := 7) (by omega) eq' hc20 hb20
  have er'' := er'.gbN (hCb.blk 7 (by omega)) (aI _ _ _ _) (bG hc20)
  refine ax (n := 2) (vs := xr.cells) rfl rfl rfl rfl (hC20.blk 8 (by omega)) rfl (fun w21 hc21 hb21 => ⟨fun _ _ => trivial, ?_⟩)
  have hC21 := hC20.put (i := 8) (by omega) er'' hc21 hb21
  have lo7 := hCb.low 7 (by omega)
  have lo8 := hCb.low 8 (by omega)
  have e21 : Ex w w21 := (e19.chg hc20 lo7).chg hc21 lo8
  obtain ⟨X1, Z1, hC1, z0, z1, z3, z4, z5, z6, z7, z8⟩ : ∃ X1 Z1, Cel cn w21 w.heap.size (K + 1) 9 H X1 Z1 ∧ Z1 0 = Z 0 ∧ Z1 1 = Z 1 ∧ Z1 3 = Z 3 ∧ Z1 4 = Z 4 ∧ Z1 5 = Z 5 ∧ Z1 6 = Z 6 ∧ Z1 7 = Z 0 / Z 1 ∧ Z1 8 = Z 0 % Z 1 := ⟨_, _, hC21, rfl, rfl, rfl, rfl, rfl, rfl, rfl, rfl⟩
  clear hCa hCb hC20 hC21 eq eq' er er' er'' hc20 hc21 hb20 hb21 hq hrm
  have ne : ∀ i j, i < 9 → j < 9 → i ≠ j → H i ≠ H j := fun i j hi hj h e => h (hC1.inj i j hi hj e)
  have hCd := hC1.ext (Ex.refl w21).drew
  repeat' (first|refine ai rfl ?_|refine aa ?_|refine aj ?_|refine ae ?_)
  refine bi (late := [3]) (plan := [(0, none), (1, none), (2, some true), (3, some false)]) (fun w' => Blk w' (H 1) 33 (X1 1).cells ∧ Blk w' (H 8) 33 (X1 8).cells) bB (by kernel_rfl) ⟨hCd.blk 1 (by omega), hCd.blk 8 (by omega)⟩ ?_
  repeat' (first|refine aN (g := H 1) rfl (fun _ h => h.1) rfl ?_|refine aN (g := H 8) rfl (fun _ h => h.2) rfl ?_)
  refine ax (n := 2) (vs := (X1 1).cells) rfl rfl rfl rfl (hCd.blk 0 (by omega)) rfl (fun w22 hc22 hb22 => ⟨fun _ h => ⟨h.1.chg hc22 (ne 1 0 (by omega) (by omega) (by omega)), h.2.chg hc22 (ne 8 0 (by omega) (by omega) (by omega))⟩, ?_⟩)
  have hC22 := hCd.put (i := 0) (by omega) (hCd.ent 1 (by omega)) hc22 hb22
  skip
  refine ax (n := 2) (vs := (X1 8).cells) rfl rfl rfl rfl (hC22.blk 1 (by omega)) rfl (fun w23 hc23 hb23 => ⟨fun h => (nomatch h), ?_⟩)
  have hC23 := hC22.put (i := 1) (by omega) (hC22.ent 8 (by omega)) hc23 hb23
  have lo0 := hC1.low 0 (by omega)
  have lo1 := hC1.low 1 (by omega)
  have lo3 := hC1.low 3 (by omega)
  have lo4 := hC1.low 4 (by omega)
  have lo5 := hC1.low 5 (by omega)
  have lo6 := hC1.low 6 (by omega)
  have e23 : Ex w w23 := (e21.drew.chg hc22 lo0).chg hc23 lo1
  obtain ⟨X2, Z2, hC2, y0', y1', y3, y4, y5, y6, y7⟩ : ∃ X2 Z2, Cel cn w23 w.heap.size (K + 1) 9 H X2 Z2 ∧ Z2 0 = Z 1 ∧ Z2 1 = Z 0 % Z 1 ∧ Z2 3 = Z 3 ∧ Z2 4 = Z 4 ∧ Z2 5 = Z 5 ∧ Z2 6 = Z 6 ∧ Z2 7 = Z 0 / Z 1 := ⟨_, _, hC23, z1, z8, z3, z4, z5, z6, z7⟩
  clear hCd hC1 hC22 hC23 hc22 hc23 hb22 hb23
  have n3 : Lb (K + 1) (Z 3 - Z 0 / Z 1 * Z 5) := sr hst.la.2 h2.lb hy0
  have n4 : Lb (K + 1) (Z 4 - Z 0 / Z 1 * Z 6) := sr hst.lb.2 h1.lb hx0
  have hEd := (Ex.refl w23).drew
  have hCd := hC2.ext hEd
  repeat' (first|refine aa ?_|refine aj ?_|refine ae ?_)
  refine kt (late := [6, 7]) (plan := [(0, none), (1, none), (2, none), (3, none), (4, some true), (5, some true), (6, some false), (7, some false)]) (fun w' => Ex w23 w') bB (by kernel_rfl) hEd ?_
  repeat' (first|refine aN (g := H 5) rfl (fun _ h => (hC2.ext h).blk 5 (by omega)) rfl ?_|refine aN (g := H 3) rfl (fun _ h => (hC2.ext h).blk 3 (by omega)) rfl ?_|refine aN (g := H 7) rfl (fun _ h => (hC2.ext h).blk 7 (by omega)) rfl ?_)
  have m1 := (hCd.ent 7 (by omega)).lb.mul (hCd.ent 5 (by omega)).lb
  refine av (cK (hCd.ent 7 (by omega)).k (hCd.ent 5 (by omega)).k (by omega)) rfl ?_
  rintro v w24 ⟨hI24, hE24⟩
  refine ⟨fun _ h => h.trans hE24, ?_⟩
  refine av (eh ((hCd.ent 3 (by omega)).ext hE24).k (hI24.k m1) (by omega) (by omega)) rfl ?_
  rintro v w25 ⟨hI25, hE25⟩
  refine ⟨fun _ h => h.trans hE25, ?_⟩
  obtain ⟨u1, rfl⟩ := hI25.ih
  rw [y3, y7, y5] at hI25
  have hE2325 := (hEd.trans hE24).trans hE25
  have hC25 := hC2.ext hE2325
  have nu1 : Ent cn (K + 1) w25 u1.val (Z 3 - Z 0 / Z 1 * Z 5) := Ent.of hI25 n3
  refine ax (n := 2) (vs := (X2 5).cells) rfl rfl rfl rfl (hC25.blk 3 (by omega)) rfl (fun w26 hc26 hb26 => ⟨fun h => (nomatch h), ?_⟩)
  have hC26 := hC25.put (i := 3) (by omega) (hC25.ent 5 (by omega)) hc26 hb26
  refine ax (n := 2) (vs := u1.cells) rfl rfl rfl rfl (hC26.blk 5 (by omega)) rfl (fun w27 hc27 hb27 => ⟨fun h => (nomatch h), ?_⟩)
  have hC27 := hC26.put (i := 5) (by omega) (nu1.gbN (hC25.blk 3 (by omega)) (aI _ _ _ _) (bG hc26)) hc27 hb27
  have e27 : Ex w w27 := ((e23.trans hE2325).chg hc26 lo3).chg hc27 lo5
  obtain ⟨X3, Z3, hC3, x0', x1', x3, x4, x5, x6, x7⟩ : ∃ X3 Z3, Cel cn w27 w.heap.size (K + 1) 9 H X3 Z3 ∧ Z3 0 = Z 1 ∧ Z3 1 = Z 0 % Z 1 ∧ Z3 3 = Z 5 ∧ Z3 4 = Z 4 ∧ Z3 5 = Z 3 - Z 0 / Z 1 * Z 5 ∧ Z3 6 = Z 6 ∧ Z3 7 = Z 0 / Z 1 := ⟨_, _, hC27, y0', y1', y5, y4, rfl, y6, y7⟩
  clear hCd hC2 hC25 hC26 hC27 hc26 hc27 hb26 hb27 hI24 hI25 nu1 hEd m1
  have hEd := (Ex.refl w27).drew
  have hCd := hC3.ext hEd
  repeat' (first|refine aa ?_|refine ae ?_)
  refine kt (late := [6, 7]) (plan := [(0, none), (1, none), (2, none), (3, none), (4, some true), (5, some true), (6, some false), (7, some false)]) (fun w' => Ex w27 w') bB (by kernel_rfl) hEd ?_
  repeat' (first|refine aN (g := H 6) rfl (fun _ h => (hC3.ext h).blk 6 (by omega)) rfl ?_|refine aN (g := H 4) rfl (fun _ h => (hC3.ext h).blk 4 (by omega)) rfl ?_|refine aN (g := H 7) rfl (fun _ h => (hC3.ext h).blk 7 (by omega)) rfl ?_)
  have m1 := (hCd.ent 7 (by omega)).lb.mul (hCd.ent 6 (by omega)).lb
  refine av (cK (hCd.ent 7 (by omega)).k (hCd.ent 6 (by omega)).k (by omega)) rfl ?_
  rintro v w28 ⟨hI28, hE28⟩
  refine ⟨fun _ h => h.trans hE28, ?_⟩
  refine av (eh ((hCd.ent 4 (by omega)).ext hE28).k (hI28.k m1) (by omega) (by omega)) rfl ?_
  rintro v w29 ⟨hI29, hE29⟩
  refine ⟨fun _ h => h.trans hE29, ?_⟩
  obtain ⟨u2, rfl⟩ := hI29.ih
  rw [x4, x7, x6] at hI29
  have hE2729 := (hEd.trans hE28).trans hE29
  have hC29 := hC3.ext hE2729
  have nu2 : Ent cn (K + 1) w29 u2.val (Z 4 - Z 0 / Z 1 * Z 6) := Ent.of hI29 n4
  refine ax (n := 2) (vs := (X3 6).cells) rfl rfl rfl rfl (hC29.blk 4 (by omega)) rfl (fun w30 hc30 hb30 => ⟨fun h => (nomatch h), ?_⟩)
  have hC30 := hC29.put (i := 4) (by omega) (hC29.ent 6 (by omega)) hc30 hb30
  refine ax (n := 2) (vs := u2.cells) rfl rfl rfl rfl (hC30.blk 6 (by omega)) rfl (fun w31 hc31 hb31 => ⟨fun h => (nomatch h), ?_⟩)
  have hC31 := hC30.put (i := 6) (by omega) (nu2.gbN (hC29.blk 4 (by omega)) (aI _ _ _ _) (bG hc30)) hc31 hb31
  have e31 : Ex w w31 := ((e27.trans hE2729).chg hc30 lo4).chg hc31 lo6
  obtain ⟨X4, Z4, hC4, v0', v1', v3', v4', v5', v6'⟩ : ∃ X4 Z4, Cel cn w31 w.heap.size (K + 1) 9 H X4 Z4 ∧ Z4 0 = Z 1 ∧ Z4 1 = Z 0 % Z 1 ∧ Z4 3 = Z 5 ∧ Z4 4 = Z 6 ∧ Z4 5 = Z 3 - Z 0 / Z 1 * Z 5 ∧ Z4 6 = Z 4 - Z 0 / Z 1 * Z 6 := ⟨_, _, hC31, x0', x1', x3, x6, x5, rfl⟩
  repeat' (first|refine aa ?_|refine ae ?_|refine aK ?_)
  have hmod := Int.emod_lt (Z 0) hz
  have hmod0 := Int.emod_nonneg (Z 0) hz
  refine ⟨⟨(X4, Z4), ⟨e31, hC4.cut (by omega) f7, by show Lb K (Z4 0); rw [v0']; exact hl1, by show Lb K (Z4 1); rw [v1']; exact hl1.mod _ hz, by show BzJ x0 y0 (Z4 0) (Z4 1) (Z4 3) (Z4 4) (Z4 5) (Z4 6); rw [v0', v1', v3', v4', v5', v6']; exact hst⟩, ?_, trivial⟩, (by (repeat (first|exact aE _ _ _|refine aw rfl ?_|refine au rfl ?_|refine ak rfl ?_|refine ao rfl ?_)))⟩
  show (Z4 1).natAbs < (Z 1).natAbs
  rw [v1']; omega
end Go.Proofs.YtppipmkpmmdcjaaGreat
namespace Go.Proofs.YtppipmkpmmdcjaaGreat
open Go.W Go.LM Go.LA
theorem RO.sharp {K K' n lo g cap : Nat} {w : World} {f : Nat → Int} (h : RO true K w lo g cap n f) (hb : ∀ i, i < n → Lb K' (f i)) : RO true K' w lo g cap n f := by
 obtain ⟨hh, h1, h2⟩ := h.ex
 exact ⟨h.low, h.le, hh, h1, fun j hj => (h2 j hj).sharp (hb j hj)⟩
theorem MO.two {cn : Bool} {K n R lo g i j ga gb ca cb : Nat} {w : World} {gs cap : Nat → Nat} {F : Nat → Nat → Int} {fa fb : Nat → Int} (hij : i ≠ j) (hlo : lo ≤ g)
  (hT : Blk w g 27 (topC n (setF (setF (fun k => (⟨some ⟨gs k, 0, none⟩, R, cap k⟩ : SD)) i ⟨some ⟨ga, 0, none⟩, R, ca⟩) j ⟨some ⟨gb, 0, none⟩, R, cb⟩)))
  (hr : ∀ k, k < n → k ≠ i → k ≠ j → RO cn K w lo (gs k) (cap k) R (F k) ∧ gs k ≠ g ∧ gs k ≠ ga ∧ gs k ≠ gb) (hinj : ∀ k l, k < n → l < n → gs k = gs l → k = l)
  (ha : RO cn K w lo ga ca R fa) (hb : RO cn K w lo gb cb R fb) (hag : ga ≠ g) (hbg : gb ≠ g) (hab : ga ≠ gb) :
  MO cn K w lo g n R (setF (setF gs i ga) j gb) (setF (setF cap i ca) j cb) (setF (setF F i fa) j fb) := by
 refine ⟨hlo, ?_, fun k hk => ?_, fun k hk => ?_, fun k l hk hl he => ?_⟩
 ·rw [cv (s' := setF (setF (fun k => (⟨some ⟨gs k, 0, none⟩, R, cap k⟩ : SD)) i ⟨some ⟨ga, 0, none⟩, R, ca⟩) j ⟨some ⟨gb, 0, none⟩, R, cb⟩) (fun k _ => ?_)]
  ·exact hT
  ·unfold setF
   by_cases h1 : k = j
   ·simp [h1]
   ·by_cases h2 : k = i
    ·simp [h2, hij]
    ·simp [h1, h2]
 ·by_cases h1 : k = j
  ·subst h1; rw [aJ, aJ, aJ]; exact hb
  ·rw [aO _ _ h1, aO _ _ h1, aO _ _ h1]
   by_cases h2 : k = i
   ·subst h2; rw [aJ, aJ, aJ]; exact ha
   ·rw [aO _ _ h2, aO _ _ h2, aO _ _ h2]; exact (hr k hk h2 h1).1
 ·by_cases h1 : k = j
  ·subst h1; rw [aJ]; exact hbg
  ·rw [aO _ _ h1]
   by_cases h2 : k = i
   ·subst h2; rw [aJ]; exact hag
   ·rw [aO _ _ h2]; exact (hr k hk h2 h1).2.1
 ·have e : ∀ k, k < n → (k = j ∧ setF (setF gs i ga) j gb k = gb) ∨ (k = i ∧ setF (setF gs i ga) j gb k = ga) ∨ (k ≠ i ∧ k ≠ j ∧ setF (setF gs i ga) j gb k = gs k) := fun k _ => by
   by_cases h1 : k = j
   ·subst h1; exact .inl ⟨rfl, aJ _ _ _⟩
   ·by_cases h2 : k = i
    ·subst h2; exact .inr (.inl ⟨rfl, by rw [aO _ _ h1, aJ]⟩)
    ·exact .inr (.inr ⟨h2, h1, by rw [aO _ _ h1, aO _ _ h2]⟩)
  rcases e k hk with ⟨h1, e1⟩ | ⟨h1, e1⟩ | ⟨h1, h1', e1⟩ <;> rcases e l hl with ⟨h2, e2⟩ | ⟨h2, e2⟩ | ⟨h2, h2', e2⟩ <;> rw [e1, e2] at he
  ·omega
  ·exact absurd he (Ne.symm hab)
  ·exact absurd he.symm (hr l hl h2 h2').2.2.2
  ·exact absurd he hab
  ·omega
  ·exact absurd he.symm (hr l hl h2 h2').2.2.1
  ·exact absurd he (hr k hk h1 h1').2.2.2
  ·exact absurd he (hr k hk h1 h1').2.2.1
  ·exact hinj k l hk hl he
theorem uZ {a b d p q : Int} (hd : d ≠ 0) (h : a * p + b * q = d) (hp : d ∣ p) (hq : d ∣ q) : a * (p / d) + b * (q / d) = 1 ∧ p / d * q - q / d * p = 0 := by
 obtain ⟨p', rfl⟩ := hp
 obtain ⟨q', rfl⟩ := hq
 rw [Int.mul_ediv_cancel_left _ hd, Int.mul_ediv_cancel_left _ hd]
 refine ⟨?_, by grind⟩
 have : d * (a * p' + b * q') = d * 1 := by grind
 exact Int.eq_of_mul_eq_mul_left hd this
set_option maxHeartbeats 4000000 in
theorem pA {cn : Bool} {K n i j g tc lo : Nat} {w : World} {gs cap : Nat → Nat} {F : Nat → Nat → Int} {vm : Value} {m : Int} (hO : MO cn K w lo g n n gs cap F) (hlo : lo ≤ w.heap.size) (hi : i < j) (hj : j < n) (hn : n ≤ 16) {c4 : Bool} (hm : Ent c4 K w vm m) (hm0 : 0 < m) (hK1 : 1 ≤ K) (hK : 4 * K + 40 < 17592186044415)
  (hp : 0 ≤ F i i ∧ 0 ≤ F j i) (hz : ∀ r, r < i → F i r = 0 ∧ F j r = 0) :
  CallsR Tryz.prog 98 #[.slice (some ⟨g, 0, none⟩) n tc, .int .i64 i, .int .i64 j, vm] w fun _ w' => ∃ (gs' cap' : Nat → Nat) (F' T : Nat → Nat → Int) (a b x y : Int), w.grownBy w' (some g) ∧ MO cn K w' lo g n n gs' cap' F' ∧ a * x + b * y = 1 ∧
   (∀ r, r < n → F' i r = a * F i r + b * F j r + if i ≤ r then m * T i r else 0) ∧ (∀ r, r < n → F' j r = x * F j r - y * F i r + if i ≤ r then m * T j r else 0) ∧ (∀ k r, k < n → r < n → k ≠ i → k ≠ j → F' k r = F k r) ∧ F' j i = 0 ∧ 0 ≤ F' i i ∧ ∀ k, k < n → gs' k = gs k ∨ w.heap.size ≤ gs' k := by
 obtain ⟨xm, rfl⟩ := hm.ih
 have hin : i < n := by omega
 obtain ⟨hhi, hbi, hci, hEi⟩ := hO.get hin
 obtain ⟨hhj, hbj, hcj, hEj⟩ := hO.get hj
 refine aH (args := [_, _, _, _]) Tryz.func98 rfl rfl ?_
 refine aj ?_
 refine ah rfl ?_
 refine bH (vs := xm.cells) rfl (fun g1 w1 hn1 => ⟨fun _ _ => trivial, ?_⟩)
 have hb1 := hn1.blk
 have hE1 := hn1.ex
 repeat' (first|refine aa ?_|refine aj ?_|refine ae ?_)
 refine cD (ι := Nat × Nat) [8, 9, 13, 14, 15, 16, 17, 18, 19, 20, 21, 22, 23, 24, 25, 26] (fun t => [(8, .pointer (some ⟨t.1, 0, none⟩)), (9, .pointer (some ⟨t.2, 0, none⟩))])
  (fun t w' => Ex w1 w' ∧ w1.heap.size ≤ t.1 ∧ w1.heap.size ≤ t.2 ∧ t.1 ≠ t.2 ∧ Blk w' t.1 33 (hhi i).cells ∧ Blk w' t.2 33 (hhj i).cells) ?_ ?_
 ·have hEx : Ex w1 w1.drew := (Ex.refl _).drew
  refine dN (fun w' => Ex w1 w') bB hEx ?_
  refine bp (fuel := 4) (by kernel_rfl) (by kernel_rfl) [0, 1, 2, 3, 4, 5, 6, 7, 8, 9, 10, 11, 12, 13] _ _ (by kernel_rfl) ?_
  repeat' (first|refine aC (j := i) (a := some ⟨g, 0, none⟩) rfl rfl ⟨_, _, rfl⟩ (by omega) ?_|refine aC (j := j) (a := some ⟨g, 0, none⟩) rfl rfl ⟨_, _, rfl⟩ (by omega) ?_|refine aU (j := i) (a := some ⟨g, 0, none⟩) (n := n) (s := fun k => ⟨some ⟨gs k, 0, none⟩, n, cap k⟩) rfl (fun _ h => (hO.ext (hE1.trans h)).top.sl) (by omega) rfl ?_|refine aU (j := j) (a := some ⟨g, 0, none⟩) (n := n) (s := fun k => ⟨some ⟨gs k, 0, none⟩, n, cap k⟩) rfl (fun _ h => (hO.ext (hE1.trans h)).top.sl) (by omega) rfl ?_|refine aT (j := i) (a := some ⟨gs i, 0, none⟩) rfl rfl ⟨_, _, rfl⟩ (by omega) ?_|refine aT (j := i) (a := some ⟨gs j, 0, none⟩) rfl rfl ⟨_, _, rfl⟩ (by omega) ?_|refine bu (j := i) (n := cap i) (a := some ⟨gs i, 0, none⟩) rfl (fun _ h => (hbi.ext (hE1.trans h)).sl) ⟨_, _, rfl⟩ (by omega) ?_|refine bu (j := i) (n := cap j) (a := some ⟨gs j, 0, none⟩) rfl (fun _ h => (hbj.ext (hE1.trans h)).sl) ⟨_, _, rfl⟩ (by omega) ?_|refine ai rfl ?_|refine ae ?_)
  refine az (fuel := 3) (rs := [14, 15]) (by kernel_rfl) (by kernel_rfl) rfl ?_
  simp only [List.forall_mem_cons, List.not_mem_nil, false_implies, implies_true, and_true]
  refine ⟨?_, ?_⟩
  ·refine aB (fun g8 w8 hn8 => ⟨fun _ h => h.trans hn8.ex, ?_⟩)
   have hb8 : Blk w8 g8 33 (intL false none 0 0) := hn8.blk
   have lo8 : w1.heap.size ≤ g8 := Nat.le_trans hEx.size hn8.lo
   replace hEx := hEx.trans hn8.ex
   refine ae ?_
   refine az (fuel := 2) (rs := [15]) (by kernel_rfl) (by kernel_rfl) rfl ?_
   rw [List.forall_mem_singleton]
   refine aB (fun g9 w9 hn9 => ⟨fun _ h => h.trans hn9.ex, ?_⟩)
   have hb9 : Blk w9 g9 33 (intL false none 0 0) := hn9.blk
   have lo9 : w1.heap.size ≤ g9 := Nat.le_trans hEx.size hn9.lo
   have ne89 : g8 ≠ g9 := (by have := hb8.lt; have := hn9.lo; omega)
   replace hEx := hEx.trans hn9.ex
   replace hb8 := hb8.ext hn9.ex
   refine ae ?_
   refine az (fuel := 1) (rs := [16]) (by kernel_rfl) (by kernel_rfl) rfl ?_
   rw [List.forall_mem_singleton]
   refine ax (n := 2) (vs := (hhi i).cells) rfl rfl rfl rfl hb8 rfl (fun w16 hc16 hb16 => ⟨fun _ h => h.chg hc16 lo8, ?_⟩)
   replace hEx := hEx.chg hc16 lo8
   replace hb9 := hb9.chg hc16 (Ne.symm ne89)
   refine ae ?_
   refine az (fuel := 0) (rs := [17]) (by kernel_rfl) (by kernel_rfl) rfl ?_
   rw [List.forall_mem_singleton]
   refine ax (n := 2) (vs := (hhj i).cells) rfl rfl rfl rfl hb9 rfl (fun w17 hc17 hb17 => ⟨fun _ h => h.chg hc17 lo9, ?_⟩)
   replace hEx := hEx.chg hc17 lo9
   replace hb16 := hb16.chg hc17 ne89
   refine ae ?_
   refine bw (by kernel_rfl) ?_
   refine aa ?_
   exact ⟨⟨(_, _), ⟨hEx, lo8, lo9, ne89, hb16, hb17⟩, rfl, rfl, trivial⟩, (by (repeat (first|exact aM _ _|refine aw rfl ?_|refine au rfl ?_|refine ak rfl ?_|refine ao rfl ?_)))⟩
  ·refine aB (fun g9 w9 hn9 => ⟨fun _ h => h.trans hn9.ex, ?_⟩)
   have hb9 : Blk w9 g9 33 (intL false none 0 0) := hn9.blk
   have lo9 : w1.heap.size ≤ g9 := Nat.le_trans hEx.size hn9.lo
   replace hEx := hEx.trans hn9.ex
   refine ae ?_
   refine az (fuel := 2) (rs := [14]) (by kernel_rfl) (by kernel_rfl) rfl ?_
   rw [List.forall_mem_singleton]
   refine aB (fun g8 w8 hn8 => ⟨fun _ h => h.trans hn8.ex, ?_⟩)
   have hb8 : Blk w8 g8 33 (intL false none 0 0) := hn8.blk
   have lo8 : w1.heap.size ≤ g8 := Nat.le_trans hEx.size hn8.lo
   have ne89 : g8 ≠ g9 := (by have := hb9.lt; have := hn8.lo; omega)
   replace hEx := hEx.trans hn8.ex
   replace hb9 := hb9.ext hn8.ex
   refine ae ?_
   refine az (fuel := 1) (rs := [16]) (by kernel_rfl) (by kernel_rfl) rfl ?_
   rw [List.forall_mem_singleton]
   refine ax (n := 2) (vs := (hhi i).cells) rfl rfl rfl rfl hb8 rfl (fun w16 hc16 hb16 => ⟨fun _ h => h.chg hc16 lo8, ?_⟩)
   replace hEx := hEx.chg hc16 lo8
   replace hb9 := hb9.chg hc16 (Ne.symm ne89)
   refine ae ?_
   refine az (fuel := 0) (rs := [17]) (by kernel_rfl) (by kernel_rfl) rfl ?_
   rw [List.forall_mem_singleton]
   refine ax (n := 2) (vs := (hhj i).cells) rfl rfl rfl rfl hb9 rfl (fun w17 hc17 hb17 => ⟨fun _ h => h.chg hc17 lo9, ?_⟩)
   replace hEx := hEx.chg hc17 lo9
   replace hb16 := hb16.chg hc17 ne89
   refine ae ?_
   refine bw (by kernel_rfl) ?_
   refine aa ?_
   exact ⟨⟨(_, _), ⟨hEx, lo8, lo9, ne89, hb16, hb17⟩, rfl, rfl, trivial⟩, (by (repeat (first|exact aM _ _|refine aw rfl ?_|refine au rfl ?_|refine ak rfl ?_|refine ao rfl ?_)))⟩
 ·rintro ⟨g8, g9⟩ ξ w2 ⟨hE12, lo8, lo9, ne89, hb8, hb9⟩
  simp only at lo8 lo9 ne89 hb8 hb9
  show CW _ _ _ _ (over [(8, .pointer (some ⟨g8, 0, none⟩)), (9, .pointer (some ⟨g9, 0, none⟩))] _) w2
  have hE2 := hE1.trans hE12
  have hO2 := hO.ext hE2
  have hCel : Cel cn w2 w1.heap.size (K + 1) 2 (setF (setF (fun _ => 0) 0 g8) 1 g9) (setF (setF (fun _ => ih0) 0 (hhi i)) 1 (hhj i)) (setF (setF (fun _ => 0) 0 (F i i)) 1 (F j i)) := by
   refine ⟨fun k hk => ?_, fun k hk => ?_, fun k hk => ?_, fun k l hk hl e => ?_⟩
   ·rcases (show k = 0 ∨ k = 1 by omega) with rfl | rfl
    ·exact hb8
    ·exact hb9
   ·rcases (show k = 0 ∨ k = 1 by omega) with rfl | rfl
    ·exact ((hEi i hin).ext hE2).up (by omega)
    ·exact ((hEj i hin).ext hE2).up (by omega)
   ·rcases (show k = 0 ∨ k = 1 by omega) with rfl | rfl
    ·exact lo8
    ·exact lo9
   ·rcases (show k = 0 ∨ k = 1 by omega) with rfl | rfl <;> rcases (show l = 0 ∨ l = 1 by omega) with rfl | rfl
    ·rfl
    ·exact absurd e ne89
    ·exact absurd e (Ne.symm ne89)
    ·rfl
  repeat' (first|refine aN (g := g9) rfl hb9 rfl ?_|refine aj ?_|refine ah rfl ?_)
  refine av (bP ((hEj i hin).ext hE2).k) rfl ?_
  rintro v w3 ⟨rfl, hE3⟩
  refine ⟨fun _ _ => trivial, ?_⟩
  by_cases hy : F j i = 0
  ·repeat' (first|(refine jJ rfl rfl (by rw [hy]; rfl) ?_)|refine aa ?_|refine ae ?_|refine aD rfl ?_|refine aR ?_|refine bv ?_)
   refine wq rfl ⟨gs, cap, F, fun _ _ => 0, 1, 0, 1, 0, oN (hE2.trans hE3), hO2.ext hE3, by omega, fun r _ => ?_, fun r _ => ?_, fun _ _ _ _ _ _ => rfl, hy, hp.1, fun k _ => .inl rfl⟩
   ·rw [Int.mul_zero, ite_self]; omega
   ·rw [Int.mul_zero, ite_self]; omega
  ·have hsg : ¬ (F j i).sign = 0 := fun e => hy (Int.sign_eq_zero_iff_zero.1 e)
   repeat' (first|refine gq rfl rfl hsg ?_|refine aN (g := g8) rfl (hb8.ext hE3) rfl ?_|refine aN (g := g9) rfl (hb9.ext hE3) rfl ?_|refine aa ?_|refine aj ?_|refine ah rfl ?_|refine ae ?_|refine ay rfl ?_|refine aF ?_)
   refine av (bY (((hEi i hin).ext hE2).ext hE3) (((hEj i hin).ext hE2).ext hE3) hp.1 hp.2 hK1 (by omega)) rfl ?_
   rintro v w4 ⟨_, _, _, d, a, b, rfl, eu1, ld, eu2, eu3, hd0, hab, hdx, hdy, hdz, hE4⟩
   refine ⟨fun _ _ => trivial, ?_⟩
   obtain ⟨u1, rfl⟩ := eu1.ih
   obtain ⟨u2, rfl⟩ := eu2.ih
   obtain ⟨u3, rfl⟩ := eu3.ih
   have s1 := hE1.size
   have s12 := hE12.size
   have hE24 := hE3.trans hE4
   have hd1 : d ≠ 0 := fun e => hy (hdz e).2
   repeat' (first|refine aS rfl rfl ?_|refine ai rfl ?_)
   refine aB (fun g10 w5 hn5 => ⟨fun _ _ => trivial, ?_⟩)
   have hC5 := (hCel.ext hE24).snoc (show New w4 w5 g10 33 (intL false none 0 0) from hn5) (by have := hn5.lo; have := hE24.size; omega)
   refine aB (fun g11 w6 hn6 => ⟨fun _ _ => trivial, ?_⟩)
   have hC6 := hC5.snoc (show New w5 w6 g11 33 (intL false none 0 0) from hn6) (by have := hn6.lo; have := hE24.size; have := hn5.ex.size; omega)
   refine aB (fun g12 w7 hn7 => ⟨fun _ _ => trivial, ?_⟩)
   have hC7 := hC6.snoc (show New w6 w7 g12 33 (intL false none 0 0) from hn7) (by have := hn7.lo; have := hE24.size; have := hn5.ex.size; have := hn6.ex.size; omega)
   have e47 : Ex w4 w7 := (hn5.ex.trans hn6.ex).trans hn7.ex
   refine ax (n := 2) (vs := u1.cells) rfl rfl rfl rfl (hC7.blk 2 (by omega)) rfl (fun w8 hc8 hb8' => ⟨fun _ _ => trivial, ?_⟩)
   have hC8 := hC7.put (i := 2) (by omega) (eu1.ext e47) hc8 hb8'
   refine ax (n := 2) (vs := u2.cells) rfl rfl rfl rfl (hC8.blk 3 (by omega)) rfl (fun w9 hc9 hb9' => ⟨fun _ _ => trivial, ?_⟩)
   have hC9 := hC8.put (i := 3) (by omega) ((eu2.ext e47).gbN (hC7.blk 2 (by omega)) (aI _ _ _ _) (bG hc8)) hc9 hb9'
   refine ax (n := 2) (vs := u3.cells) rfl rfl rfl rfl (hC9.blk 4 (by omega)) rfl (fun w10 hc10 hb10' => ⟨fun _ _ => trivial, ?_⟩)
   have hC10 := hC9.put (i := 4) (by omega) (((eu3.ext e47).gbN (hC7.blk 2 (by omega)) (aI _ _ _ _) (bG hc8)).gbN (hC8.blk 3 (by omega)) (aI _ _ _ _) (bG hc9)) hc10 hb10'
   have eA : Ex w1 w10 := ((((hE12.trans hE24).trans e47).chg hc8 (hC7.low 2 (by omega))).chg hc9 (hC7.low 3 (by omega))).chg hc10 (hC7.low 4 (by omega))
   obtain ⟨G, X, Z, hG, hC, r0, r1, r2, r3, r4, z0, z1, z2, z3, z4⟩ : ∃ G X Z, G = setF (setF (setF (setF (setF (fun _ => 0) 0 g8) 1 g9) 2 g10) (2 + 1) g11) (2 + 1 + 1) g12 ∧ Cel cn w10 w1.heap.size (K + 1) 5 G X Z ∧ G 0 = g8 ∧ G 1 = g9 ∧ G 2 = g10 ∧ G 3 = g11 ∧ G 4 = g12 ∧ Z 0 = F i i ∧ Z 1 = F j i ∧ Z 2 = d ∧ Z 3 = a ∧ Z 4 = b :=
    ⟨_, _, _, rfl, hC10, rfl, rfl, rfl, rfl, rfl, rfl, rfl, rfl, rfl, rfl⟩
   clear hC5 hC6 hC7 hC8 hC9 hC10 hc8 hc9 hc10 hb8' hb9' hb10' hG hCel
   subst r0 r1 r2 r3 r4
   repeat' (first|refine aN (g := G 0) rfl (hC.blk 0 (by omega)) rfl ?_|refine aN (g := G 2) rfl (hC.blk 2 (by omega)) rfl ?_|refine aa ?_|refine aj ?_|refine ah rfl ?_|refine ae ?_)
   refine av (bn (hC.ent 0 (by omega)).k (hC.ent 2 (by omega)).k (by omega) (by omega)) rfl ?_
   rintro v w11 ⟨q, rm, rfl, hq, hrm, hE11⟩
   refine ⟨fun _ _ => trivial, ?_⟩
   obtain ⟨x1, rfl⟩ := hq.ih
   have lq := (hC.ent 0 (by omega)).lb.div (Z 2)
   repeat' (first|refine aS rfl rfl ?_|refine ai rfl ?_)
   refine ax (n := 2) (vs := x1.cells) rfl rfl rfl rfl ((hC.ext hE11).blk 0 (by omega)) rfl (fun w12 hc12 hb12 => ⟨fun _ _ => trivial, ?_⟩)
   have hC12 := (hC.ext hE11).put (i := 0) (by omega) (Ent.of hq lq) hc12 hb12
   have lo0 := hC.low 0 (by omega)
   have lo1 := hC.low 1 (by omega)
   repeat' (first|refine aN (g := G 1) rfl (hC12.blk 1 (by omega)) rfl ?_|refine aN (g := G 2) rfl (hC12.blk 2 (by omega)) rfl ?_|refine aa ?_|refine aj ?_|refine ah rfl ?_|refine ae ?_)
   refine av (bn (hC12.ent 1 (by omega)).k (hC12.ent 2 (by omega)).k (by omega) (by omega)) rfl ?_
   rintro v w13 ⟨q', rm', rfl, hq', hrm', hE13⟩
   refine ⟨fun _ _ => trivial, ?_⟩
   obtain ⟨x2, rfl⟩ := hq'.ih
   have lq' := (hC12.ent 1 (by omega)).lb.div (setF Z 0 (Z 0 / Z 2) 2)
   repeat' (first|refine aS rfl rfl ?_|refine ai rfl ?_)
   refine ax (n := 2) (vs := x2.cells) rfl rfl rfl rfl ((hC12.ext hE13).blk 1 (by omega)) rfl (fun w14 hc14 hb14 => ⟨fun _ _ => trivial, ?_⟩)
   have hC14 := (hC12.ext hE13).put (i := 1) (by omega) (Ent.of hq' lq') hc14 hb14
   have eB : Ex w1 w14 := (((eA.trans hE11).chg hc12 lo0).trans hE13).chg hc14 lo1
   obtain ⟨X2, Z2, hD, d0, d1', d3, d4⟩ : ∃ X2 Z2, Cel cn w14 w1.heap.size (K + 1) 5 G X2 Z2 ∧ Z2 0 = F i i / d ∧ Z2 1 = F j i / d ∧ Z2 3 = a ∧ Z2 4 = b :=
    ⟨_, _, hC14, by show Z 0 / Z 2 = _; rw [z0, z2], by show Z 1 / Z 2 = _; rw [z1, z2], z3, z4⟩
   clear hC hC12 hC14 hc12 hc14 hb12 hb14 hq hq' hrm hrm' lq lq' z0 z1 z2 z3 z4
   have eW := hE1.trans eB
   have hOw := hO.ext eW
   have hEd := (Ex.refl w14).drew
   have hDd := hD.ext hEd
   have hOd := hOw.ext hEd
   have lbc : ∀ (p q : Int) (f1 f2 : Int), Lb (K + 1) p → Lb (K + 1) q → Lb K f1 → Lb K f2 → Lb (2 * K + 2) (p * f1 + q * f2) := fun p q f1 f2 h1 h2 h3 h4 => by
    have := (h1.mul h3).add (h2.mul h4)
    rwa [show K + 1 + K + 1 = 2 * K + 2 by omega] at this
   repeat' (first|refine aa ?_|refine aj ?_|refine ae ?_)
   refine kt (late := [16, 18, 20]) (plan := [(0, none), (1, none), (2, none), (3, none), (4, none), (5, none), (6, none), (7, none), (8, none), (10, none), (11, none), (12, none), (13, none), (14, none), (9, some true), (15, some true), (16, some false), (17, none), (18, some false), (19, none), (20, some false)]) (fun w' => Ex w14 w') bB (by kernel_rfl) hEd ?_
   repeat' (first|refine aN (g := G 3) rfl (fun _ h => (hD.ext h).blk 3 (by omega)) rfl ?_|refine aN (g := G 4) rfl (fun _ h => (hD.ext h).blk 4 (by omega)) rfl ?_|refine aN (g := G 0) rfl (fun _ h => (hD.ext h).blk 0 (by omega)) rfl ?_|refine aN (g := G 1) rfl (fun _ h => (hD.ext h).blk 1 (by omega)) rfl ?_|refine ai rfl ?_)
   refine av (ed (n := n) (s := fun k => ⟨some ⟨gs k, 0, none⟩, n, cap k⟩) (K' := 2 * K + 2) hOd.top.sl hin hj (by omega) (by omega) (hOd.row i hin).rx (hOd.row j hj).rx (hDd.ent 3 (by omega)) (hDd.ent 4 (by omega)) (by omega) (by omega) (fun r hr => lbc _ _ _ _ (hDd.ent 3 (by omega)).lb (hDd.ent 4 (by omega)).lb (hO.mx.lb hin hr) (hO.mx.lb hj hr))) rfl ?_
   rintro v w15 ⟨ga, rfl, hRa, hE15⟩
   refine ⟨fun _ h => h.trans hE15, ?_⟩
   have hE1415 := hEd.trans hE15
   refine av (dy ((hDd.ent 1 (by omega)).ext hE15).k) rfl ?_
   rintro v w16 ⟨hI16, hE16⟩
   refine ⟨fun _ h => h.trans hE16, ?_⟩
   have nn : Ent true (K + 1) w16 v (-Z2 1) := Ent.of hI16 (hDd.ent 1 (by omega)).lb.neg
   have hE1416 := hE1415.trans hE16
   have hO16 := hOw.ext hE1416
   have hD16 := hD.ext hE1416
   refine av (ed (n := n) (s := fun k => ⟨some ⟨gs k, 0, none⟩, n, cap k⟩) (K' := 2 * K + 2) hO16.top.sl hj hin (by omega) (by omega) (hO16.row j hj).rx (hO16.row i hin).rx (hD16.ent 0 (by omega)) nn (by omega) (by omega) (fun r hr => lbc _ _ _ _ (hD16.ent 0 (by omega)).lb nn.lb (hO.mx.lb hj hr) (hO.mx.lb hin hr))) rfl ?_
   rintro v w17 ⟨gb, rfl, hRb, hE17⟩
   refine ⟨fun _ h => h.trans hE17, ?_⟩
   have hE1417 := hE1416.trans hE17
   have hO17 := hOw.ext hE1417
   have hRa17 := (hRa.ext hE16).ext hE17
   repeat' (first|refine aC (j := i) (a := some ⟨g, 0, none⟩) rfl rfl ⟨_, _, rfl⟩ (by omega) ?_)
   refine ci (j := i) (u := ⟨some ⟨ga, 0, none⟩, n, n⟩) rfl rfl hO17.top (by omega) (fun w18 hc18 hT18 => ⟨fun h => (nomatch h), ?_⟩)
   repeat' (first|refine aC (j := j) (a := some ⟨g, 0, none⟩) rfl rfl ⟨_, _, rfl⟩ (by omega) ?_)
   refine ci (j := j) (u := ⟨some ⟨gb, 0, none⟩, n, n⟩) rfl rfl hT18 (by omega) (fun w19 hc19 hT19 => ⟨fun h => (nomatch h), ?_⟩)
   repeat' (first|(refine aN (g := g1) rfl (((hb1.ext (eB.trans hE1417)).chg hc18 (by have := hn1.lo; have := hO.lt; omega)).chg hc19 (by have := hn1.lo; have := hO.lt; omega)) rfl ?_)|refine ai rfl ?_|refine aa ?_|refine aj ?_|refine ah rfl ?_|refine ae ?_)
   have gl := hO.lt
   have sB := eB.size
   have s0 := hE1.size
   have s17 := hE1417.size
   have lga := hRa.low
   have lgb := hRb.low
   have hw14 : w14.drew.heap.size = w14.heap.size := rfl
   have s15 := hE15.size
   have s16 := hE16.size
   have ltA := hRa.lt
   have neA : ga ≠ g := by omega
   have neB : gb ≠ g := by omega
   have neAB : ga ≠ gb := by omega
   have hRa19 := (hRa17.gbN hO17.top (bZ _ _) (bG hc18) neA).gbN hT18 (bZ _ _) (bG hc19) neA
   have hRb19 := (hRb.gbN hO17.top (bZ _ _) (bG hc18) neB).gbN hT18 (bZ _ _) (bG hc19) neB
   have hm19 := (((hm.ext hE1).ext (eB.trans hE1417)).gbN hO17.top (bZ _ _) (bG hc18)).gbN hT18 (bZ _ _) (bG hc19)
   have hb119 := ((hb1.ext (eB.trans hE1417)).chg hc18 (by have := hn1.lo; omega)).chg hc19 (by have := hn1.lo; omega)
   have hji : j ≠ i := by omega
   refine av (fy hT19.sl hin (by omega) (by omega) (fun ad e => by cases e; exact Ne.symm neA) (by rw [aO _ _ (Ne.symm hji), aJ]) hRa19 hm19 (by omega) (by omega) (by omega) (by omega)) rfl ?_
   rintro v w20 ⟨hG20, hRa20⟩
   refine ⟨fun _ _ => trivial, ?_⟩
   obtain ⟨hha, hba19, _⟩ := hRa19.ex
   have hT20 := hT19.gb hG20 (fun e => neA (by cases e; rfl))
   have hRb20 := hRb19.gbN hba19 (bF _ _) hG20 (Ne.symm neAB)
   have hm20 := hm19.gbN hba19 (bF _ _) hG20
   have hb120 := hb119.gb hG20 (fun e => by cases e; have := hb1.lt; omega)
   repeat' (first|refine aN (g := g1) rfl hb120 rfl ?_|refine ai rfl ?_|refine aa ?_|refine ah rfl ?_|refine ae ?_)
   refine av (fy hT20.sl hj (by omega) (by omega) (fun ad e => by cases e; exact Ne.symm neB) (by rw [aJ]) hRb20 hm20 (by omega) (by omega) (by omega) (by omega)) rfl ?_
   rintro v w21 ⟨hG21, hRb21⟩
   refine ⟨fun _ _ => trivial, ?_⟩
   repeat' (first|refine ae ?_)
   have E17 : Ex w w17 := hE1.trans (eB.trans hE1417)
   obtain ⟨hhb, hbb20, _⟩ := hRb20.ex
   have hRa21 := hRa20.gbN hbb20 (bF _ _) hG21 neAB
   have hT21 := hT20.gb hG21 (fun e => neB (by cases e; rfl))
   have hm0' : m ≠ 0 := by omega
   have hij : i ≠ j := by omega
   have hG : w.grownBy w21 (some g) := bL (bL (bL (bL (oN E17) (bG hc18) (fun k e => .inl e)) (bG hc19) (fun k e => .inl e)) hG20 (fun k e => .inr (by cases e; omega))) hG21 (fun k e => .inr (by cases e; omega))
   obtain ⟨exy, e0⟩ := uZ hd1 hab hdx hdy
   have lm : ∀ u v : Int, ∀ r, (¬ i ≤ r → u = 0) → v = u → Lb K (if i ≤ r then v % m else v) := fun u v r hu hv => by
    by_cases h : i ≤ r
    ·rw [if_pos h]; exact hm.lb.mod _ hm0'
    ·rw [if_neg h, hv, hu h]; exact cc
   have la := (hRa21.mono (lo' := lo) (by omega)).sharp (K' := K) (fun r _ => lm _ _ r (fun h => by rw [(hz r (by omega)).1, (hz r (by omega)).2]; omega) rfl)
   have lb := (hRb21.mono (lo' := lo) (by omega)).sharp (K' := K) (fun r _ => lm _ _ r (fun h => by rw [(hz r (by omega)).1, (hz r (by omega)).2]; omega) rfl)
   have hMO := MO.two (F := F) (by omega) hO.low hT21 (fun k hk h1 h2 => by
    have hl := (hO.row k hk).lt
    refine ⟨?_, hO.off k hk, by omega, by omega⟩
    exact ((((hO17.row k hk).gbN hO17.top (bZ _ _) (bG hc18) (hO.off k hk)).gbN hT18 (bZ _ _) (bG hc19) (hO.off k hk)).gbN hba19 (bF _ _) hG20 (by omega)).gbN hbb20 (bF _ _) hG21 (by omega)) hO.inj la.weak lb.weak neA neB neAB
   have hmod : ∀ (v : Int) (r : Nat), (if i ≤ r then v % m else v) = v + if i ≤ r then m * -(v / m) else 0 := fun v r => by
    by_cases h : i ≤ r
    ·rw [if_pos h, if_pos h, Int.emod_def, Int.mul_neg]; omega
    ·rw [if_neg h, if_neg h]; omega
   refine jq rfl ⟨_, _, _, fun k r => if k = i then -((a * F i r + b * F j r) / m) else -((F i i / d * F j r + -(F j i / d) * F i r) / m), a, b, F i i / d, F j i / d, hG, hMO, exy, fun r hr => ?_, fun r hr => ?_, fun k r _ _ h1 h2 => ?_, ?_, ?_, fun k _ => ?_⟩
   ·rw [aO _ _ hij, aJ, hmod, d3, d4]; simp only [reduceIte]
   ·rw [aJ, hmod, d0, d1']; simp only [if_neg hji]; rw [Int.neg_mul, ← Int.sub_eq_add_neg]
   ·rw [aO _ _ h2, aO _ _ h1]
   ·rw [aJ, if_pos (Nat.le_refl _), d0, d1', Int.neg_mul, ← Int.sub_eq_add_neg, e0, Int.zero_emod]
   ·rw [aO _ _ hij, aJ, if_pos (Nat.le_refl _)]; exact Int.emod_nonneg _ hm0'
   ·by_cases h1 : k = j
    ·subst h1; rw [aJ]; exact .inr (by omega)
    ·rw [aO _ _ h1]
     by_cases h2 : k = i
     ·subst h2; rw [aJ]; exact .inr (by omega)
     ·rw [aO _ _ h2]; exact .inl rfl
end Go.Proofs.YtppipmkpmmdcjaaGreat
namespace Go.Proofs.YtppipmkpmmdcjaaGreat
open Go.W Go.LM Go.LA
section
variable {cn : Bool} {K n R lo g i : Nat} {w w1 w' : World} {gs cap : Nat → Nat} {F : Nat → Nat → Int} {f : Nat → Int}
theorem MO.row1 {g3 c3 : Nat} (h : MO cn K w lo g n R gs cap F) (hi : i < n) (hR : RO cn K w lo g3 c3 R f) (hne : g3 ≠ g) (hns : ∀ k, k < n → k ≠ i → gs k ≠ g3) (hc : Chg g w w')
  (hT : Blk w' g 27 (topC n (setF (fun k => (⟨some ⟨gs k, 0, none⟩, R, cap k⟩ : SD)) i ⟨some ⟨g3, 0, none⟩, R, c3⟩))) :
  MO cn K w' lo g n R (setF gs i g3) (setF cap i c3) (setF F i f) := by
 refine ⟨h.low, ?_, fun k hk => ?_, fun k hk => ?_, fun k l hk hl he => ?_⟩
 ·rw [cv (s' := setF (fun k => (⟨some ⟨gs k, 0, none⟩, R, cap k⟩ : SD)) i ⟨some ⟨g3, 0, none⟩, R, c3⟩) (fun k _ => ?_)]
  ·exact hT
  ·unfold setF
   by_cases h2 : k = i
   ·simp [h2]
   ·simp [h2]
 ·by_cases h2 : k = i
  ·subst h2; rw [aJ, aJ, aJ]; exact hR.gbN h.top (bZ _ _) (bG hc) hne
  ·rw [aO _ _ h2, aO _ _ h2, aO _ _ h2]; exact (h.row k hk).gbN h.top (bZ _ _) (bG hc) (h.off k hk)
 ·by_cases h2 : k = i
  ·subst h2; rw [aJ]; exact hne
  ·rw [aO _ _ h2]; exact h.off k hk
 ·by_cases h1 : k = i
  ·by_cases h2 : l = i
   ·omega
   ·subst h1; rw [aJ, aO _ _ h2] at he; exact absurd he.symm (hns l hl h2)
  ·by_cases h2 : l = i
   ·subst h2; rw [aJ, aO _ _ h1] at he; exact absurd he (hns k hk h1)
   ·rw [aO _ _ h1, aO _ _ h2] at he; exact h.inj k l hk hl he
theorem MO.rowIn (h : MO cn K w lo g n R gs cap F) (hi : i < n) (hG : w.grownBy w' (some (gs i))) (hR : RO cn K w' lo (gs i) (cap i) R f) : MO cn K w' lo g n R gs cap (setF F i f) := by
 obtain ⟨hh, hb, _⟩ := (h.row i hi).ex
 refine ⟨h.low, h.top.gb hG (fun e => h.off i hi (by cases e; rfl)), fun k hk => ?_, h.off, h.inj⟩
 by_cases h2 : k = i
 ·subst h2; rw [aJ]; exact hR
 ·rw [aO _ _ h2]; exact (h.row k hk).gbN hb (bF _ _) hG (fun e => h2 (h.inj k i hk hi e))
end
end Go.Proofs.YtppipmkpmmdcjaaGreat
