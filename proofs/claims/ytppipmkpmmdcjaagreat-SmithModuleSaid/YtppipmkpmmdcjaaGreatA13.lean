import Derived.Test.YtppipmkpmmdcjaaGreatA12
namespace Go.Proofs.YtppipmkpmmdcjaaGreat
open Go.W Go.LM Go.LA
structure TS (K K0 : Nat) (w : World) (lo n g gm : Nat) (gs cap : Nat → Nat) (F : Nat → Nat → Int) (xm : IH) (m : Int) : Prop where
 mo : MO true K w lo g n n gs cap F
 blk : Blk w gm 33 xm.cells
 ent : Ent true K0 w xm.val m
 lom : lo ≤ gm
 ne : gm ≠ g
 nes : ∀ k, k < n → gs k ≠ gm
section
variable {K K' K0 n lo g gm i : Nat} {w w1 w' : World} {gs cap gs' cap' : Nat → Nat} {F F' : Nat → Nat → Int} {f : Nat → Int} {xm xm' : IH} {m m' : Int}
theorem TS.ext (h : TS K K0 w lo n g gm gs cap F xm m) (e : Ex w w') : TS K K0 w' lo n g gm gs cap F xm m := ⟨h.mo.ext e, h.blk.ext e, h.ent.ext e, h.lom, h.ne, h.nes⟩
theorem TS.up (h : TS K K0 w lo n g gm gs cap F xm m) (e : K ≤ K') : TS K' K0 w lo n g gm gs cap F xm m := ⟨h.mo.up e, h.blk, h.ent, h.lom, h.ne, h.nes⟩
theorem TS.sharp (h : TS K K0 w lo n g gm gs cap F xm m) (e : ∀ i j, i < n → j < n → Lb K' (F i j)) : TS K' K0 w lo n g gm gs cap F xm m := ⟨h.mo.sharp e, h.blk, h.ent, h.lom, h.ne, h.nes⟩
theorem TS.congr (h : TS K K0 w lo n g gm gs cap F xm m) (e : ∀ i j, i < n → j < n → F' i j = F i j) : TS K K0 w lo n g gm gs cap F' xm m := ⟨h.mo.congr e, h.blk, h.ent, h.lom, h.ne, h.nes⟩
theorem TS.reduce (h : TS K K0 w lo n g gm gs cap F xm m) (hi : i < n) (hG : w.grownBy w' (some (gs i))) (hR : RO true K w' lo (gs i) (cap i) n f) : TS K K0 w' lo n g gm gs cap (setF F i f) xm m := by
 obtain ⟨hh, hb, _⟩ := (h.mo.row i hi).ex
 exact ⟨h.mo.rowIn hi hG hR, h.blk.gb hG (fun e => h.nes i hi (by cases e; rfl)), h.ent.gbN hb (bF _ _) hG, h.lom, h.ne, h.nes⟩
theorem TS.clear (h : TS K K0 w lo n g gm gs cap F xm m) (hG : w.grownBy w' (some g)) (hM : MO true K w' lo g n n gs' cap' F') (hs : ∀ k, k < n → gs' k = gs k ∨ w.heap.size ≤ gs' k) : TS K K0 w' lo n g gm gs' cap' F' xm m :=
 ⟨hM, h.blk.gb hG (fun e => h.ne (by cases e; rfl)), h.ent.gbN h.mo.top (bZ _ _) hG, h.lom, h.ne, fun k hk => by
  rcases hs k hk with e | e
  ·rw [e]; exact h.nes k hk
  ·have := h.blk.lt; omega⟩
theorem TS.row1 {g3 c3 : Nat} (h : TS K K0 w lo n g gm gs cap F xm m) (hi : i < n) (hR : RO true K w w1.heap.size g3 c3 n f) (_hE : Ex w1 w) (h1 : TS K K0 w1 lo n g gm gs cap F xm m) (hl : lo ≤ w1.heap.size) (hc : Chg g w w')
  (hT : Blk w' g 27 (topC n (setF (fun k => (⟨some ⟨gs k, 0, none⟩, n, cap k⟩ : SD)) i ⟨some ⟨g3, 0, none⟩, n, c3⟩))) :
  TS K K0 w' lo n g gm (setF gs i g3) (setF cap i c3) (setF F i f) xm m := by
 have l3 := hR.low
 have lg := h1.mo.lt
 have lm := h1.blk.lt
 have hns : ∀ k, k < n → k ≠ i → gs k ≠ g3 := fun k hk _ => by have := (h1.mo.row k hk).lt; omega
 refine ⟨h.mo.row1 hi (hR.mono hl) (by omega) hns hc hT, h.blk.chg hc h.ne, h.ent.gbN h.mo.top (bZ _ _) (bG hc), h.lom, h.ne, fun k hk => ?_⟩
 by_cases e : k = i
 ·subst e; rw [aJ]; omega
 ·rw [aO _ _ e]; exact h.nes k hk
theorem TS.setm (h : TS K K0 w lo n g gm gs cap F xm m) (hc : Chg gm w w') (hb : Blk w' gm 33 xm'.cells) (he : Ent true K0 w xm'.val m') : TS K K0 w' lo n g gm gs cap F xm' m' := by
 have hn := aI xm.neg xm.sd.a xm.sd.len xm.sd.cap
 exact ⟨h.mo.gbN h.blk hn (bG hc) (fun e => h.ne e.symm) h.nes, hb, he.gbN h.blk hn (bG hc), h.lom, h.ne, h.nes⟩
theorem TS.cell {j : Nat} {hh : Nat → IH} {u : IH} {z : Int} (h : TS K K0 w lo n g gm gs cap F xm m) (hi : i < n) (hb : Blk w (gs i) 33 (rowC (cap i) hh)) (he : ∀ j, j < n → Ent true K w (hh j).val (F i j)) (hu : Ent true K w u.val z)
  (hg : Chg (gs i) w w') (hb' : Blk w' (gs i) 33 (rowC (cap i) (setF hh j u))) : TS K K0 w' lo n g gm gs cap (setM F i j z) xm m :=
 ⟨h.mo.put hi hb he hu hg hb', h.blk.chg hg (Ne.symm (h.nes i hi)), h.ent.gbN hb (bF _ _) (bG hg), h.lom, h.ne, h.nes⟩
end
theorem gc {cn : Bool} {K n R tc lc L : Nat} {w : World} {at' la : Option Addr} {s : Nat → SD} {C : Nat → Nat → Int} {xs : List Nat} (hL : xs.length = L) (hT : Sl w at' (topC n s)) (hX : ∀ j, j < n → RX cn K w (s j) R (C j)) (hl : Sl w la (natsL xs)) (hn0 : 1 ≤ n) (hn : n ≤ 16) (hxl : L ≤ 32) (hxs : ∀ i, i < L → xs.getD i 0 < R) :
  CallsR Tryz.prog 45 #[.slice at' n tc, .slice la L lc] w (RetMO K w L n fun i j => C j (xs.getD i 0)) := by
 subst hL; exact qN hT hX hl hn0 hn hxl hxs
theorem cW {x : Int} : x.sign < 0 ↔ x < 0 := by
 rcases Int.lt_trichotomy x 0 with h | h | h
 ·rw [Int.sign_eq_neg_one_of_neg h]; omega
 ·rw [h]; decide
 ·rw [Int.sign_eq_one_of_pos h]; omega
set_option maxHeartbeats 4000000 in
theorem j5 {K n cap : Nat} {w : World} {a : Option Addr} {s : Nat → SD} {W : Mat} {vd : Value} (hM : MX true K w a n n s W) (hn : 1 ≤ n ∧ n ≤ 16) (hd : Ent true K w vd (det n W)) (hd0 : det n W ≠ 0) (hK1 : 1 ≤ K) (hK : 12 * K + 100 < 17592186044415) :
  CallsR Tryz.prog 75 #[.slice a n cap, vd] w fun v w' => ∃ H, TH n W H ∧ RetMO K w n n H v w' := by
 obtain ⟨xd, rfl⟩ := hd.ih
 obtain ⟨H, hH⟩ := qI hd0
 have hm0 := hH.tl_det
 have hmp : ∀ i, i ≤ n → 0 < tl n H i := fun i hi => hH.tl_pos (n - i) i (by omega)
 have hlm : Lb K (tl n H 0) := by rw [hm0]; exact hd.lb.le (by simp)
 refine aH (args := [_, _]) Tryz.func75 rfl rfl ?_
 refine aj ?_
 refine ah rfl ?_
 refine bH (vs := xd.cells) rfl (fun g1 w1 hn1 => ⟨fun _ _ => trivial, ?_⟩)
 have hb1 := hn1.blk
 repeat' (first|refine ai rfl ?_|refine aa ?_|refine aj ?_|refine ah rfl ?_|refine ae ?_|refine bh rfl ?_)
 refine av (gW (hM.ext hn1.ex) hn hn) rfl ?_
 rintro v w2 ⟨g, gs, rfl, hO2, hE2⟩
 refine ⟨fun _ _ => trivial, ?_⟩
 repeat' (first|refine aN (g := g1) rfl (hb1.ext hE2) rfl ?_|refine ai rfl ?_|refine aa ?_|refine aj ?_|refine ah rfl ?_|refine ae ?_)
 refine aB (fun gm w3 hn3 => ⟨fun _ _ => trivial, ?_⟩)
 have hb3 : Blk w3 gm 33 (intL false none 0 0) := hn3.blk
 refine ax (n := 2) (vs := xd.cells) rfl rfl rfl rfl hb3 rfl (fun w4 hc4 hb4 => ⟨fun _ _ => trivial, ?_⟩)
 have s1 := hn1.ex.size
 have s2 := hE2.size
 have l3 := hn3.lo
 have E13 : Ex w w3 := (hn1.ex.trans hE2).trans hn3.ex
 have E14 : Ex w w4 := E13.chg hc4 (by omega)
 have hT4 : TS K K w4 w.heap.size n g gm gs (fun _ => n) (fun k r => W r k) xd (det n W) :=
  ⟨((hO2.mono s1).ext hn3.ex).gbN hb3 (aI _ _ _ _) (bG hc4) (by have := hO2.lt; omega) (fun k hk => by have := (hO2.row k hk).lt; omega), hb4, (((hd.ext ((hn1.ex.trans hE2).trans hn3.ex)).gbN hb3 (aI _ _ _ _) (bG hc4))), by omega, by have := hO2.lt; omega, fun k hk => by have := (hO2.row k hk).lt; omega⟩
 have hb14 : Blk w4 g1 33 xd.cells := ((hb1.ext hE2).ext hn3.ex).chg hc4 (by have := hb1.lt; omega)
 repeat' (first|refine aN (g := g1) rfl hb14 rfl ?_|refine aa ?_|refine aj ?_|refine ah rfl ?_|refine ae ?_)
 refine av (bP hT4.ent.k) rfl ?_
 rintro v w5 ⟨rfl, hE5⟩
 refine ⟨fun _ _ => trivial, ?_⟩
 repeat' (first|refine ai rfl ?_|refine aa ?_|refine ae ?_)
 refine cD (ι := IH) [29, 30] (fun _ => []) (fun x w' => Ex w w' ∧ TS K K w' w.heap.size n g gm gs (fun _ => n) (fun k r => W r k) x (tl n H 0)) ?_ ?_
 ·refine aP rfl (fun hc => ?_) (fun hc => ?_)
  ·have hneg := cW.1 hc
   repeat' (first|refine aN (g := g1) rfl (hb14.ext hE5) rfl ?_|refine ah rfl ?_)
   refine av (dy (hd.ext ((E14.trans hE5))).k) rfl ?_
   rintro v w6 ⟨hI6, hE6⟩
   refine ⟨fun _ _ => trivial, ?_⟩
   obtain ⟨u, rfl⟩ := hI6.ih
   have hT6 := (hT4.ext hE5).ext hE6
   refine ax (n := 2) (vs := u.cells) rfl rfl rfl rfl hT6.blk rfl (fun w7 hc7 hb7 => ⟨fun _ _ => trivial, ?_⟩)
   repeat' (first|refine aa ?_|refine ae ?_)
   refine ⟨⟨u, ⟨((E14.trans hE5).trans hE6).chg hc7 hT6.lom, ?_⟩, trivial⟩, (by (repeat (first|exact aM _ _|refine aw rfl ?_|refine au rfl ?_|refine ak rfl ?_|refine ao rfl ?_)))⟩
   have e : tl n H 0 = - det n W := by rw [hm0]; omega
   rw [e]
   exact hT6.setm hc7 hb7 (Ent.of hI6 hd.lb.neg)
  ·have hneg : ¬ det n W < 0 := fun e => hc (cW.2 e)
   repeat' (first|refine aa ?_|refine aF ?_)
   refine ⟨⟨xd, ⟨E14.trans hE5, ?_⟩, trivial⟩, (by (repeat (first|exact aM _ _|refine aw rfl ?_|refine au rfl ?_|refine ak rfl ?_|refine ao rfl ?_)))⟩
   have e : tl n H 0 = det n W := by rw [hm0]; omega
   rw [e]
   exact hT4.ext hE5
 clear hb14 hT4 hb4 hc4 hb3 hO2 hE5 E14
 rintro xm ξ w5 ⟨hE5, hT5⟩
 show CW _ _ _ _ (over [] _) w5
 have hWl : ∀ k r, k < n → r < n → Lb K (W r k) := fun k r hk hr => hM.lb hr hk
 repeat' (first|refine ai rfl ?_|refine aa ?_|refine aj ?_|refine ah rfl ?_|refine ae ?_|refine aA ?_)
 refine aY (ι := Nat) [8, 32, 33, 34, 35, 36, 37, 38, 39] (fun j => [(32, .int .i64 (j : Int))])
  (fun j w' => j ≤ n ∧ Ex w w' ∧ TS K K w' w.heap.size n g gm gs (fun _ => n) (fun k r => if k < j then W r k % tl n H 0 else W r k) xm (tl n H 0)) (fun j => n - j)
  0 ⟨rfl, trivial⟩ ⟨by omega, hE5, hT5.congr fun k r _ _ => if_neg (by omega)⟩ ?_
 clear hT5 hE5
 rintro j ξ w6 ⟨hj, hE6, hT6⟩
 show CW _ _ _ _ (over [(32, .int .i64 (j : Int))] _) w6
 have hm00 := hmp 0 (by omega)
 rcases Nat.lt_or_ge j n with hjn | hjn
 ·repeat' (first|refine bC rfl rfl (by omega) ?_|refine aN (g := gm) rfl hT6.blk rfl ?_|refine ai rfl ?_|refine aa ?_|refine aj ?_|refine ah rfl ?_|refine ae ?_|refine aD rfl ?_|refine aA ?_|refine aF ?_)
  refine av (fy hT6.mo.top.sl hjn (by omega) (by omega) (fun ad e => by cases e; exact Ne.symm (hT6.mo.off j hjn)) rfl (hT6.mo.row j hjn) hT6.ent (by omega) (by omega) (Nat.le_refl _) (Nat.zero_le _)) rfl ?_
  rintro v w7 ⟨hG7, hR7⟩
  refine ⟨fun _ _ => trivial, ?_⟩
  repeat' (first|refine ai rfl ?_|refine aa ?_|refine ah rfl ?_|refine ae ?_|refine aZ rfl rfl (by omega) (by omega) ?_|refine aK ?_)
  refine ⟨⟨j + 1, ⟨hjn, hE6.gb hG7 (fun k e => by cases e; exact (hT6.mo.row j hjn).low), (hT6.reduce hjn hG7 hR7).congr fun k r _ _ => ?_⟩, by omega, rfl, trivial⟩, (by (repeat (first|exact aE _ _ _|refine aw rfl ?_|refine au rfl ?_|refine ak rfl ?_|refine ao rfl ?_)))⟩
  by_cases e : k = j
  ·subst e; rw [aJ, if_pos (Nat.lt_succ_self _), if_pos (Nat.zero_le _), if_neg (Nat.lt_irrefl _)]
  ·rw [aO _ _ e]
   by_cases h : k < j
   ·rw [if_pos h, if_pos (by omega)]
   ·rw [if_neg h, if_neg (by omega)]
 ·have ejn : n = j := by omega
  subst ejn
  repeat' (first|refine bA rfl rfl (by omega) ?_|refine ai rfl ?_|refine aa ?_|refine aj ?_|refine ah rfl ?_|refine ae ?_|refine ay rfl ?_|refine aA ?_|refine aV ?_|refine aL ?_|refine aW ?_)
  have hst : TrJ n 0 H (tl n H 0) (fun r k => W r k % tl n H 0) := qJ hH (fun r k => -(W r k / tl n H 0)) fun r k _ _ => by rw [Int.emod_def, Int.mul_neg]; omega
  refine aY (ι := Nat × (Nat → Nat) × (Nat → Nat) × Mat × IH) [9, 10, 11, 12, 13, 14, 15, 16, 17, 18, 41, 42, 43, 44, 45, 46, 47, 48, 49, 50, 51, 52, 53, 54, 55, 56, 57, 58, 59, 60, 61, 62, 63, 64, 65, 66, 67, 68, 69, 70, 71, 72, 73, 74, 75, 76, 77, 78, 79, 80, 81, 82, 83, 84, 85, 86, 87, 88, 89, 90, 91, 92, 93, 94, 95, 96, 97, 98, 99, 100, 101, 102, 103, 104, 105, 106, 107, 108, 109, 110, 111, 112, 113, 114, 115, 116, 117, 118, 119, 120, 121, 122, 123, 124, 125, 126, 127, 128, 129, 130, 131] (fun t => [(41, .int .i64 (t.1 : Int))])
   (fun t w' => t.1 ≤ n ∧ Ex w w' ∧ TS K K w' w.heap.size n g gm t.2.1 t.2.2.1 t.2.2.2.1 t.2.2.2.2 (tl n H t.1) ∧ TrJ n t.1 H (tl n H t.1) (fun r k => t.2.2.2.1 k r) ∧ ∀ k r, k < n → t.1 ≤ r → r < n → 0 ≤ t.2.2.2.1 k r) (fun t => n - t.1)
   (0, gs, fun _ => n, fun k r => W r k % tl n H 0, xm) ⟨rfl, trivial⟩ ⟨by simp only; omega, hE6, hT6.congr fun k r hk _ => by rw [if_pos hk], hst, fun k r _ _ _ => Int.emod_nonneg _ (by omega)⟩ ?_
  clear hst hT6 hE6
  rintro ⟨i, gs, cp, F, xm⟩ ξ2 w7 ⟨hi, hE7, hT7, hJ7, hp7⟩
  simp only at hi hT7 hJ7 hp7
  show CW _ _ _ _ (over [(41, .int .i64 (i : Int))] _) w7
  rcases Nat.lt_or_ge i n with hin | hin
  ·have hmi := hmp i (by omega)
   have hlmi : Lb K (tl n H i) := hT7.ent.lb
   repeat' (first|refine bC rfl rfl (by omega) ?_|refine ai rfl ?_|refine aa ?_|refine aj ?_|refine ah rfl ?_|refine ae ?_|refine aZ rfl rfl (by omega) (by omega) ?_|refine aD rfl ?_|refine aA ?_|refine aF ?_)
   refine aY (ι := Nat × (Nat → Nat) × (Nat → Nat) × Mat) [10, 46, 47, 48, 49, 50, 51, 52, 53, 54, 55] (fun t => [(10, .int .i64 (t.1 : Int))])
    (fun t w' => (i < t.1 ∧ t.1 ≤ n) ∧ Ex w w' ∧ TS K K w' w.heap.size n g gm t.2.1 t.2.2.1 t.2.2.2 xm (tl n H i) ∧ TrJ n i H (tl n H i) (fun r k => t.2.2.2 k r) ∧ (∀ k, i < k → k < t.1 → t.2.2.2 k i = 0) ∧ ∀ k, k < n → k ≤ i ∨ t.1 ≤ k → 0 ≤ t.2.2.2 k i) (fun t => n - t.1)
    (i + 1, gs, cp, F) ⟨rfl, trivial⟩ ⟨⟨by simp only; omega, by simp only; omega⟩, hE7, hT7, hJ7, fun k h1 h2 => by simp only at h2; omega, fun k hk _ => hp7 k i hk (Nat.le_refl _) hin⟩ ?_
   clear hT7 hJ7 hp7 hE7
   rintro ⟨j, gs, cp, F⟩ ξ3 w8 ⟨⟨hij, hj⟩, hE8, hT8, hJ8, hz8, hp8⟩
   simp only at hij hj hT8 hJ8 hz8 hp8
   show CW _ _ _ _ (over [(10, .int .i64 (j : Int))] _) w8
   rcases Nat.lt_or_ge j n with hjn | hjn
   ·repeat' (first|refine bC rfl rfl (by omega) ?_|refine aN (g := gm) rfl hT8.blk rfl ?_|refine ai rfl ?_|refine aa ?_|refine aj ?_|refine ah rfl ?_|refine ae ?_|refine aD rfl ?_|refine aA ?_|refine aF ?_)
    refine av (pA hT8.mo hE8.size hij hjn hn.2 hT8.ent hmi hK1 (by omega) ⟨hp8 i hin (.inl (Nat.le_refl _)), hp8 j hjn (.inr (Nat.le_refl _))⟩ (fun r hr => ⟨hJ8.top i (Nat.le_refl _) hin r hr, hJ8.top j (by omega) hjn r hr⟩)) rfl ?_
    rintro v w9 ⟨gs', cp', F', T, a, b, x, y, hG9, hM9, hab, e1, e2, e3, e4, e5, hgs9⟩
    refine ⟨fun _ _ => trivial, ?_⟩
    repeat' (first|refine ai rfl ?_|refine aa ?_|refine ah rfl ?_|refine ae ?_|refine aZ rfl rfl (by omega) (by omega) ?_|refine aK ?_)
    have hcl := hJ8.clear (C' := fun r k => if k = i then a * F i r + b * F j r else if k = j then x * F j r - y * F i r else F k r) hij hjn hab (fun r _ => if_pos rfl) (fun r _ => by rw [if_neg (by omega), if_pos rfl]) (fun r k _ _ h1 h2 => by rw [if_neg h1, if_neg h2])
    have hre := hcl.reduce (C' := fun r k => F' k r) hH (by omega) (fun r k => if k = i then T i r else if k = j then T j r else 0) (fun r k hr hk => by
     by_cases h1 : k = i
     ·subst h1; rw [if_pos rfl, e1 r (by omega), if_neg (by omega), Int.add_zero]
     ·rw [if_neg h1]
      by_cases h2 : k = j
      ·subst h2; rw [if_pos rfl, e2 r (by omega), if_neg (by omega), Int.add_zero]
      ·rw [if_neg h2, e3 k r hk (by omega) h1 h2]) (fun r k hr hrn hk => by
     by_cases h1 : k = i
     ·subst h1; rw [if_pos rfl, if_pos rfl, e1 r hrn, if_pos hr]
     ·rw [if_neg h1, if_neg h1]
      by_cases h2 : k = j
      ·subst h2; rw [if_pos rfl, if_pos rfl, e2 r hrn, if_pos hr]
      ·rw [if_neg h2, if_neg h2, e3 k r hk hrn h1 h2, Int.mul_zero, Int.add_zero])
    refine ⟨⟨(j + 1, gs', cp', F'), ⟨⟨by simp only; omega, hjn⟩, hE8.gb hG9 (fun k e => by cases e; exact hT8.mo.low), hT8.clear hG9 hM9 hgs9, hre, fun k h1 h2 => ?_, fun k hk h => ?_⟩, by simp only; omega, rfl, trivial⟩, (by (repeat (first|exact aE _ _ _|refine aw rfl ?_|refine au rfl ?_|refine ak rfl ?_|refine ao rfl ?_)))⟩
    ·simp only at h2 ⊢
     by_cases h : k = j
     ·subst h; exact e4
     ·rw [e3 k i (by omega) hin (by omega) h]; exact hz8 k h1 (by omega)
    ·simp only at h ⊢
     by_cases h' : k = i
     ·subst h'; exact e5
     ·rw [e3 k i hk hin h' (by omega)]; exact hp8 k hk (by omega)
   ·have ejn : n = j := by omega
    subst ejn
    repeat' (first|refine bA rfl rfl (by omega) ?_|refine ai rfl ?_|refine aa ?_|refine aj ?_|refine ah rfl ?_|refine ae ?_|refine ay rfl ?_|refine aV ?_|refine aL ?_|refine aW ?_)
    obtain ⟨hhi, hbi, hci, hEi⟩ := hT8.mo.get hin
    have pii := hp8 i hin (.inl (Nat.le_refl _))
    refine cD (ι := (Nat × Nat × IH × IH) × Int × Int × Int) [11, 12, 13, 56, 57, 58, 59, 60, 61, 62, 63, 64, 65, 66, 67, 68] (fun t => [(11, .pointer (some ⟨t.1.1, 0, none⟩)), (12, .pointer (some ⟨t.1.2.1, 0, none⟩))])
     (fun t w' => Ex w8 w' ∧ w8.heap.size ≤ t.1.1 ∧ w8.heap.size ≤ t.1.2.1 ∧ t.1.1 ≠ t.1.2.1 ∧ Blk w' t.1.1 33 t.1.2.2.1.cells ∧ Blk w' t.1.2.1 33 t.1.2.2.2.cells ∧ Ent true (K + 1) w' t.1.2.2.1.val t.2.1 ∧ Lb K t.2.1 ∧ Ent true (K + 1) w' t.1.2.2.2.val t.2.2.1 ∧ 0 ≤ t.2.1 ∧ t.2.2.1 * F i i + t.2.2.2 * tl n H i = t.2.1 ∧ t.2.1 ∣ F i i ∧ t.2.1 ∣ tl n H i) ?_ ?_
    ·have hEx : Ex w8 w8.drew := (Ex.refl _).drew
     refine dN (fun w' => Ex w8 w') bB hEx ?_
     refine bp (fuel := 11) (by kernel_rfl) (by kernel_rfl) [0, 1, 2, 3, 4, 5, 6, 7] _ _ (by kernel_rfl) ?_
     repeat' (first|refine aC (j := i) (a := some ⟨g, 0, none⟩) rfl rfl ⟨_, _, rfl⟩ (by omega) ?_|refine aU (j := i) (a := some ⟨g, 0, none⟩) (n := n) (s := fun k => ⟨some ⟨gs k, 0, none⟩, n, cp k⟩) rfl (fun _ h => (hT8.mo.ext h).top.sl) (by omega) rfl ?_|refine aT (j := i) (a := some ⟨gs i, 0, none⟩) rfl rfl ⟨_, _, rfl⟩ (by omega) ?_|refine bu (j := i) (n := cp i) (a := some ⟨gs i, 0, none⟩) rfl (fun _ h => (hbi.ext h).sl) ⟨_, _, rfl⟩ (by omega) ?_|refine aN (g := gm) rfl (fun _ h => hT8.blk.ext h) rfl ?_|refine ai rfl ?_|refine ae ?_)
     refine az (fuel := 10) (rs := [8, 13, 14, 15]) (by kernel_rfl) (by kernel_rfl) rfl ?_
     simp only [List.forall_mem_cons, List.not_mem_nil, false_implies, implies_true, and_true]
     refine ⟨?_, ?_, ?_, ?_⟩
     focus
      refine av (bY (K := K) ((hEi i hin).ext hEx) (hT8.ent.ext hEx) pii (by omega) hK1 (by omega)) rfl ?_
      rintro v w9 ⟨u1, u2, u3, d, a, b, rfl, eu1, ld, eu2, eu3, hd0', hab, hdx, hdy, _, hE9⟩
      refine ⟨fun _ h => h.trans hE9, ?_⟩
      obtain ⟨u1, rfl⟩ := eu1.ih
      obtain ⟨u2, rfl⟩ := eu2.ih
      obtain ⟨u3, rfl⟩ := eu3.ih
      replace hEx := hEx.trans hE9
      refine ae ?_
      refine bp (fuel := 6) (by kernel_rfl) (by kernel_rfl) [9, 10, 11, 12] _ _ (by kernel_rfl) ?_
      repeat' (first|refine aS rfl rfl ?_|refine ai rfl ?_|refine ae ?_)
      refine az (fuel := 5) (rs := [13, 14, 15]) (by kernel_rfl) (by kernel_rfl) rfl ?_
      simp only [List.forall_mem_cons, List.not_mem_nil, false_implies, implies_true, and_true]
      refine ⟨?_, ?_, ?_⟩
      focus
       refine aB (fun g11 w11 hn11 => ⟨fun _ h => h.trans hn11.ex, ?_⟩)
       have hb11 : Blk w11 g11 33 (intL false none 0 0) := hn11.blk
       have lo11 : w8.heap.size ≤ g11 := Nat.le_trans hEx.size hn11.lo
       replace hEx := hEx.trans hn11.ex
       replace eu1 := eu1.ext hn11.ex
       replace eu2 := eu2.ext hn11.ex
       refine ae ?_
       refine az (fuel := 4) (rs := [14, 15]) (by kernel_rfl) (by kernel_rfl) rfl ?_
       simp only [List.forall_mem_cons, List.not_mem_nil, false_implies, implies_true, and_true]
       refine ⟨?_, ?_⟩
       focus
        refine aB (fun g12 w12 hn12 => ⟨fun _ h => h.trans hn12.ex, ?_⟩)
        have hb12 : Blk w12 g12 33 (intL false none 0 0) := hn12.blk
        have lo12 : w8.heap.size ≤ g12 := Nat.le_trans hEx.size hn12.lo
        have ne12 : g11 ≠ g12 := (by have := hb11.lt; have := hn12.lo; omega)
        replace hEx := hEx.trans hn12.ex
        replace hb11 := hb11.ext hn12.ex
        replace eu1 := eu1.ext hn12.ex
        replace eu2 := eu2.ext hn12.ex
        refine ae ?_
        refine az (fuel := 3) (rs := [15]) (by kernel_rfl) (by kernel_rfl) rfl ?_
        rw [List.forall_mem_singleton]
        refine aB (fun g13 w13 hn13 => ⟨fun _ h => h.trans hn13.ex, ?_⟩)
        have hb13 : Blk w13 g13 33 (intL false none 0 0) := hn13.blk
        have lo13 : w8.heap.size ≤ g13 := Nat.le_trans hEx.size hn13.lo
        have ne13 : g11 ≠ g13 := (by have := hb11.lt; have := hn13.lo; omega)
        have ne23 : g12 ≠ g13 := (by have := hb12.lt; have := hn13.lo; omega)
        replace hEx := hEx.trans hn13.ex
        replace hb11 := hb11.ext hn13.ex
        replace hb12 := hb12.ext hn13.ex
        replace eu1 := eu1.ext hn13.ex
        replace eu2 := eu2.ext hn13.ex
        refine ae ?_
       rotate_left 1
       focus
        refine aB (fun g13 w13 hn13 => ⟨fun _ h => h.trans hn13.ex, ?_⟩)
        have hb13 : Blk w13 g13 33 (intL false none 0 0) := hn13.blk
        have lo13 : w8.heap.size ≤ g13 := Nat.le_trans hEx.size hn13.lo
        have ne13 : g11 ≠ g13 := (by have := hb11.lt; have := hn13.lo; omega)
        replace hEx := hEx.trans hn13.ex
        replace hb11 := hb11.ext hn13.ex
        replace eu1 := eu1.ext hn13.ex
        replace eu2 := eu2.ext hn13.ex
        refine ae ?_
        refine az (fuel := 3) (rs := [14]) (by kernel_rfl) (by kernel_rfl) rfl ?_
        rw [List.forall_mem_singleton]
        refine aB (fun g12 w12 hn12 => ⟨fun _ h => h.trans hn12.ex, ?_⟩)
        have hb12 : Blk w12 g12 33 (intL false none 0 0) := hn12.blk
        have lo12 : w8.heap.size ≤ g12 := Nat.le_trans hEx.size hn12.lo
        have ne12 : g11 ≠ g12 := (by have := hb11.lt; have := hn12.lo; omega)
        have ne23 : g12 ≠ g13 := (by have := hb13.lt; have := hn12.lo; omega)
        replace hEx := hEx.trans hn12.ex
        replace hb11 := hb11.ext hn12.ex
        replace hb13 := hb13.ext hn12.ex
        replace eu1 := eu1.ext hn12.ex
        replace eu2 := eu2.ext hn12.ex
        refine ae ?_
       rotate_left 1
      rotate_left 2
      focus
       refine aB (fun g12 w12 hn12 => ⟨fun _ h => h.trans hn12.ex, ?_⟩)
       have hb12 : Blk w12 g12 33 (intL false none 0 0) := hn12.blk
       have lo12 : w8.heap.size ≤ g12 := Nat.le_trans hEx.size hn12.lo
       replace hEx := hEx.trans hn12.ex
       replace eu1 := eu1.ext hn12.ex
       replace eu2 := eu2.ext hn12.ex
       refine ae ?_
       refine az (fuel := 4) (rs := [13, 15]) (by kernel_rfl) (by kernel_rfl) rfl ?_
       simp only [List.forall_mem_cons, List.not_mem_nil, false_implies, implies_true, and_true]
       refine ⟨?_, ?_⟩
       focus
        refine aB (fun g11 w11 hn11 => ⟨fun _ h => h.trans hn11.ex, ?_⟩)
        have hb11 : Blk w11 g11 33 (intL false none 0 0) := hn11.blk
        have lo11 : w8.heap.size ≤ g11 := Nat.le_trans hEx.size hn11.lo
        have ne12 : g11 ≠ g12 := (by have := hb12.lt; have := hn11.lo; omega)
        replace hEx := hEx.trans hn11.ex
        replace hb12 := hb12.ext hn11.ex
        replace eu1 := eu1.ext hn11.ex
        replace eu2 := eu2.ext hn11.ex
        refine ae ?_
        refine az (fuel := 3) (rs := [15]) (by kernel_rfl) (by kernel_rfl) rfl ?_
        rw [List.forall_mem_singleton]
        refine aB (fun g13 w13 hn13 => ⟨fun _ h => h.trans hn13.ex, ?_⟩)
        have hb13 : Blk w13 g13 33 (intL false none 0 0) := hn13.blk
        have lo13 : w8.heap.size ≤ g13 := Nat.le_trans hEx.size hn13.lo
        have ne13 : g11 ≠ g13 := (by have := hb11.lt; have := hn13.lo; omega)
        have ne23 : g12 ≠ g13 := (by have := hb12.lt; have := hn13.lo; omega)
        replace hEx := hEx.trans hn13.ex
        replace hb11 := hb11.ext hn13.ex
        replace hb12 := hb12.ext hn13.ex
        replace eu1 := eu1.ext hn13.ex
        replace eu2 := eu2.ext hn13.ex
        refine ae ?_
       rotate_left 1
       focus
        refine aB (fun g13 w13 hn13 => ⟨fun _ h => h.trans hn13.ex, ?_⟩)
        have hb13 : Blk w13 g13 33 (intL false none 0 0) := hn13.blk
        have lo13 : w8.heap.size ≤ g13 := Nat.le_trans hEx.size hn13.lo
        have ne23 : g12 ≠ g13 := (by have := hb12.lt; have := hn13.lo; omega)
        replace hEx := hEx.trans hn13.ex
        replace hb12 := hb12.ext hn13.ex
        replace eu1 := eu1.ext hn13.ex
        replace eu2 := eu2.ext hn13.ex
        refine ae ?_
        refine az (fuel := 3) (rs := [13]) (by kernel_rfl) (by kernel_rfl) rfl ?_
        rw [List.forall_mem_singleton]
        refine aB (fun g11 w11 hn11 => ⟨fun _ h => h.trans hn11.ex, ?_⟩)
        have hb11 : Blk w11 g11 33 (intL false none 0 0) := hn11.blk
        have lo11 : w8.heap.size ≤ g11 := Nat.le_trans hEx.size hn11.lo
        have ne12 : g11 ≠ g12 := (by have := hb12.lt; have := hn11.lo; omega)
        have ne13 : g11 ≠ g13 := (by have := hb13.lt; have := hn11.lo; omega)
        replace hEx := hEx.trans hn11.ex
        replace hb12 := hb12.ext hn11.ex
        replace hb13 := hb13.ext hn11.ex
        replace eu1 := eu1.ext hn11.ex
        replace eu2 := eu2.ext hn11.ex
        refine ae ?_
       rotate_left 1
      rotate_left 2
      focus
       refine aB (fun g13 w13 hn13 => ⟨fun _ h => h.trans hn13.ex, ?_⟩)
       have hb13 : Blk w13 g13 33 (intL false none 0 0) := hn13.blk
       have lo13 : w8.heap.size ≤ g13 := Nat.le_trans hEx.size hn13.lo
       replace hEx := hEx.trans hn13.ex
       replace eu1 := eu1.ext hn13.ex
       replace eu2 := eu2.ext hn13.ex
       refine ae ?_
       refine az (fuel := 4) (rs := [13, 14]) (by kernel_rfl) (by kernel_rfl) rfl ?_
       simp only [List.forall_mem_cons, List.not_mem_nil, false_implies, implies_true, and_true]
       refine ⟨?_, ?_⟩
       focus
        refine aB (fun g11 w11 hn11 => ⟨fun _ h => h.trans hn11.ex, ?_⟩)
        have hb11 : Blk w11 g11 33 (intL false none 0 0) := hn11.blk
        have lo11 : w8.heap.size ≤ g11 := Nat.le_trans hEx.size hn11.lo
        have ne13 : g11 ≠ g13 := (by have := hb13.lt; have := hn11.lo; omega)
        replace hEx := hEx.trans hn11.ex
        replace hb13 := hb13.ext hn11.ex
        replace eu1 := eu1.ext hn11.ex
        replace eu2 := eu2.ext hn11.ex
        refine ae ?_
        refine az (fuel := 3) (rs := [14]) (by kernel_rfl) (by kernel_rfl) rfl ?_
        rw [List.forall_mem_singleton]
        refine aB (fun g12 w12 hn12 => ⟨fun _ h => h.trans hn12.ex, ?_⟩)
        have hb12 : Blk w12 g12 33 (intL false none 0 0) := hn12.blk
        have lo12 : w8.heap.size ≤ g12 := Nat.le_trans hEx.size hn12.lo
        have ne12 : g11 ≠ g12 := (by have := hb11.lt; have := hn12.lo; omega)
        have ne23 : g12 ≠ g13 := (by have := hb13.lt; have := hn12.lo; omega)
        replace hEx := hEx.trans hn12.ex
        replace hb11 := hb11.ext hn12.ex
        replace hb13 := hb13.ext hn12.ex
        replace eu1 := eu1.ext hn12.ex
        replace eu2 := eu2.ext hn12.ex
        refine ae ?_
       rotate_left 1
       focus
        refine aB (fun g12 w12 hn12 => ⟨fun _ h => h.trans hn12.ex, ?_⟩)
        have hb12 : Blk w12 g12 33 (intL false none 0 0) := hn12.blk
        have lo12 : w8.heap.size ≤ g12 := Nat.le_trans hEx.size hn12.lo
        have ne23 : g12 ≠ g13 := (by have := hb13.lt; have := hn12.lo; omega)
        replace hEx := hEx.trans hn12.ex
        replace hb13 := hb13.ext hn12.ex
        replace eu1 := eu1.ext hn12.ex
        replace eu2 := eu2.ext hn12.ex
        refine ae ?_
        refine az (fuel := 3) (rs := [13]) (by kernel_rfl) (by kernel_rfl) rfl ?_
        rw [List.forall_mem_singleton]
        refine aB (fun g11 w11 hn11 => ⟨fun _ h => h.trans hn11.ex, ?_⟩)
        have hb11 : Blk w11 g11 33 (intL false none 0 0) := hn11.blk
        have lo11 : w8.heap.size ≤ g11 := Nat.le_trans hEx.size hn11.lo
        have ne12 : g11 ≠ g12 := (by have := hb12.lt; have := hn11.lo; omega)
        have ne13 : g11 ≠ g13 := (by have := hb13.lt; have := hn11.lo; omega)
        replace hEx := hEx.trans hn11.ex
        replace hb12 := hb12.ext hn11.ex
        replace hb13 := hb13.ext hn11.ex
        replace eu1 := eu1.ext hn11.ex
        replace eu2 := eu2.ext hn11.ex
        refine ae ?_
       rotate_left 1
      rotate_left 2
     rotate_left 6
     focus
      refine aB (fun g11 w11 hn11 => ⟨fun _ h => h.trans hn11.ex, ?_⟩)
      have hb11 : Blk w11 g11 33 (intL false none 0 0) := hn11.blk
      have lo11 : w8.heap.size ≤ g11 := Nat.le_trans hEx.size hn11.lo
      replace hEx := hEx.trans hn11.ex
      refine ae ?_
      refine az (fuel := 9) (rs := [8, 14, 15]) (by kernel_rfl) (by kernel_rfl) rfl ?_
      simp only [List.forall_mem_cons, List.not_mem_nil, false_implies, implies_true, and_true]
      refine ⟨?_, ?_, ?_⟩
      focus
       refine av (bY (K := K) ((hEi i hin).ext hEx) (hT8.ent.ext hEx) pii (by omega) hK1 (by omega)) rfl ?_
       rintro v w9 ⟨u1, u2, u3, d, a, b, rfl, eu1, ld, eu2, eu3, hd0', hab, hdx, hdy, _, hE9⟩
       refine ⟨fun _ h => h.trans hE9, ?_⟩
       obtain ⟨u1, rfl⟩ := eu1.ih
       obtain ⟨u2, rfl⟩ := eu2.ih
       obtain ⟨u3, rfl⟩ := eu3.ih
       replace hEx := hEx.trans hE9
       replace hb11 := hb11.ext hE9
       refine ae ?_
       refine bp (fuel := 5) (by kernel_rfl) (by kernel_rfl) [9, 10, 11, 12] _ _ (by kernel_rfl) ?_
       repeat' (first|refine aS rfl rfl ?_|refine ai rfl ?_|refine ae ?_)
       refine az (fuel := 4) (rs := [14, 15]) (by kernel_rfl) (by kernel_rfl) rfl ?_
       simp only [List.forall_mem_cons, List.not_mem_nil, false_implies, implies_true, and_true]
       refine ⟨?_, ?_⟩
       focus
        refine aB (fun g12 w12 hn12 => ⟨fun _ h => h.trans hn12.ex, ?_⟩)
        have hb12 : Blk w12 g12 33 (intL false none 0 0) := hn12.blk
        have lo12 : w8.heap.size ≤ g12 := Nat.le_trans hEx.size hn12.lo
        have ne12 : g11 ≠ g12 := (by have := hb11.lt; have := hn12.lo; omega)
        replace hEx := hEx.trans hn12.ex
        replace hb11 := hb11.ext hn12.ex
        replace eu1 := eu1.ext hn12.ex
        replace eu2 := eu2.ext hn12.ex
        refine ae ?_
        refine az (fuel := 3) (rs := [15]) (by kernel_rfl) (by kernel_rfl) rfl ?_
        rw [List.forall_mem_singleton]
        refine aB (fun g13 w13 hn13 => ⟨fun _ h => h.trans hn13.ex, ?_⟩)
        have hb13 : Blk w13 g13 33 (intL false none 0 0) := hn13.blk
        have lo13 : w8.heap.size ≤ g13 := Nat.le_trans hEx.size hn13.lo
        have ne13 : g11 ≠ g13 := (by have := hb11.lt; have := hn13.lo; omega)
        have ne23 : g12 ≠ g13 := (by have := hb12.lt; have := hn13.lo; omega)
        replace hEx := hEx.trans hn13.ex
        replace hb11 := hb11.ext hn13.ex
        replace hb12 := hb12.ext hn13.ex
        replace eu1 := eu1.ext hn13.ex
        replace eu2 := eu2.ext hn13.ex
        refine ae ?_
       rotate_left 1
       focus
        refine aB (fun g13 w13 hn13 => ⟨fun _ h => h.trans hn13.ex, ?_⟩)
        have hb13 : Blk w13 g13 33 (intL false none 0 0) := hn13.blk
        have lo13 : w8.heap.size ≤ g13 := Nat.le_trans hEx.size hn13.lo
        have ne13 : g11 ≠ g13 := (by have := hb11.lt; have := hn13.lo; omega)
        replace hEx := hEx.trans hn13.ex
        replace hb11 := hb11.ext hn13.ex
        replace eu1 := eu1.ext hn13.ex
        replace eu2 := eu2.ext hn13.ex
        refine ae ?_
        refine az (fuel := 3) (rs := [14]) (by kernel_rfl) (by kernel_rfl) rfl ?_
        rw [List.forall_mem_singleton]
        refine aB (fun g12 w12 hn12 => ⟨fun _ h => h.trans hn12.ex, ?_⟩)
        have hb12 : Blk w12 g12 33 (intL false none 0 0) := hn12.blk
        have lo12 : w8.heap.size ≤ g12 := Nat.le_trans hEx.size hn12.lo
        have ne12 : g11 ≠ g12 := (by have := hb11.lt; have := hn12.lo; omega)
        have ne23 : g12 ≠ g13 := (by have := hb13.lt; have := hn12.lo; omega)
        replace hEx := hEx.trans hn12.ex
        replace hb11 := hb11.ext hn12.ex
        replace hb13 := hb13.ext hn12.ex
        replace eu1 := eu1.ext hn12.ex
        replace eu2 := eu2.ext hn12.ex
        refine ae ?_
       rotate_left 1
      rotate_left 2
      focus
       refine aB (fun g12 w12 hn12 => ⟨fun _ h => h.trans hn12.ex, ?_⟩)
       have hb12 : Blk w12 g12 33 (intL false none 0 0) := hn12.blk
       have lo12 : w8.heap.size ≤ g12 := Nat.le_trans hEx.size hn12.lo
       have ne12 : g11 ≠ g12 := (by have := hb11.lt; have := hn12.lo; omega)
       replace hEx := hEx.trans hn12.ex
       replace hb11 := hb11.ext hn12.ex
       refine ae ?_
       refine az (fuel := 8) (rs := [8, 15]) (by kernel_rfl) (by kernel_rfl) rfl ?_
       simp only [List.forall_mem_cons, List.not_mem_nil, false_implies, implies_true, and_true]
       refine ⟨?_, ?_⟩
       focus
        refine av (bY (K := K) ((hEi i hin).ext hEx) (hT8.ent.ext hEx) pii (by omega) hK1 (by omega)) rfl ?_
        rintro v w9 ⟨u1, u2, u3, d, a, b, rfl, eu1, ld, eu2, eu3, hd0', hab, hdx, hdy, _, hE9⟩
        refine ⟨fun _ h => h.trans hE9, ?_⟩
        obtain ⟨u1, rfl⟩ := eu1.ih
        obtain ⟨u2, rfl⟩ := eu2.ih
        obtain ⟨u3, rfl⟩ := eu3.ih
        replace hEx := hEx.trans hE9
        replace hb11 := hb11.ext hE9
        replace hb12 := hb12.ext hE9
        refine ae ?_
        refine bp (fuel := 4) (by kernel_rfl) (by kernel_rfl) [9, 10, 11, 12] _ _ (by kernel_rfl) ?_
        repeat' (first|refine aS rfl rfl ?_|refine ai rfl ?_|refine ae ?_)
        refine az (fuel := 3) (rs := [15]) (by kernel_rfl) (by kernel_rfl) rfl ?_
        rw [List.forall_mem_singleton]
        refine aB (fun g13 w13 hn13 => ⟨fun _ h => h.trans hn13.ex, ?_⟩)
        have hb13 : Blk w13 g13 33 (intL false none 0 0) := hn13.blk
        have lo13 : w8.heap.size ≤ g13 := Nat.le_trans hEx.size hn13.lo
        have ne13 : g11 ≠ g13 := (by have := hb11.lt; have := hn13.lo; omega)
        have ne23 : g12 ≠ g13 := (by have := hb12.lt; have := hn13.lo; omega)
        replace hEx := hEx.trans hn13.ex
        replace hb11 := hb11.ext hn13.ex
        replace hb12 := hb12.ext hn13.ex
        replace eu1 := eu1.ext hn13.ex
        replace eu2 := eu2.ext hn13.ex
        refine ae ?_
       rotate_left 1
       focus
        refine aB (fun g13 w13 hn13 => ⟨fun _ h => h.trans hn13.ex, ?_⟩)
        have hb13 : Blk w13 g13 33 (intL false none 0 0) := hn13.blk
        have lo13 : w8.heap.size ≤ g13 := Nat.le_trans hEx.size hn13.lo
        have ne13 : g11 ≠ g13 := (by have := hb11.lt; have := hn13.lo; omega)
        have ne23 : g12 ≠ g13 := (by have := hb12.lt; have := hn13.lo; omega)
        replace hEx := hEx.trans hn13.ex
        replace hb11 := hb11.ext hn13.ex
        replace hb12 := hb12.ext hn13.ex
        refine ae ?_
        refine az (fuel := 7) (rs := [8]) (by kernel_rfl) (by kernel_rfl) rfl ?_
        rw [List.forall_mem_singleton]
        refine av (bY (K := K) ((hEi i hin).ext hEx) (hT8.ent.ext hEx) pii (by omega) hK1 (by omega)) rfl ?_
        rintro v w9 ⟨u1, u2, u3, d, a, b, rfl, eu1, ld, eu2, eu3, hd0', hab, hdx, hdy, _, hE9⟩
        refine ⟨fun _ h => h.trans hE9, ?_⟩
        obtain ⟨u1, rfl⟩ := eu1.ih
        obtain ⟨u2, rfl⟩ := eu2.ih
        obtain ⟨u3, rfl⟩ := eu3.ih
        replace hEx := hEx.trans hE9
        replace hb11 := hb11.ext hE9
        replace hb12 := hb12.ext hE9
        replace hb13 := hb13.ext hE9
        refine ae ?_
        refine bp (fuel := 3) (by kernel_rfl) (by kernel_rfl) [9, 10, 11, 12] _ _ (by kernel_rfl) ?_
        repeat' (first|refine aS rfl rfl ?_|refine ai rfl ?_|refine ae ?_)
       rotate_left 1
      rotate_left 2
      focus
       refine aB (fun g13 w13 hn13 => ⟨fun _ h => h.trans hn13.ex, ?_⟩)
       have hb13 : Blk w13 g13 33 (intL false none 0 0) := hn13.blk
       have lo13 : w8.heap.size ≤ g13 := Nat.le_trans hEx.size hn13.lo
       have ne13 : g11 ≠ g13 := (by have := hb11.lt; have := hn13.lo; omega)
       replace hEx := hEx.trans hn13.ex
       replace hb11 := hb11.ext hn13.ex
       refine ae ?_
       refine az (fuel := 8) (rs := [8, 14]) (by kernel_rfl) (by kernel_rfl) rfl ?_
       simp only [List.forall_mem_cons, List.not_mem_nil, false_implies, implies_true, and_true]
       refine ⟨?_, ?_⟩
       focus
        refine av (bY (K := K) ((hEi i hin).ext hEx) (hT8.ent.ext hEx) pii (by omega) hK1 (by omega)) rfl ?_
        rintro v w9 ⟨u1, u2, u3, d, a, b, rfl, eu1, ld, eu2, eu3, hd0', hab, hdx, hdy, _, hE9⟩
        refine ⟨fun _ h => h.trans hE9, ?_⟩
        obtain ⟨u1, rfl⟩ := eu1.ih
        obtain ⟨u2, rfl⟩ := eu2.ih
        obtain ⟨u3, rfl⟩ := eu3.ih
        replace hEx := hEx.trans hE9
        replace hb11 := hb11.ext hE9
        replace hb13 := hb13.ext hE9
        refine ae ?_
        refine bp (fuel := 4) (by kernel_rfl) (by kernel_rfl) [9, 10, 11, 12] _ _ (by kernel_rfl) ?_
        repeat' (first|refine aS rfl rfl ?_|refine ai rfl ?_|refine ae ?_)
        refine az (fuel := 3) (rs := [14]) (by kernel_rfl) (by kernel_rfl) rfl ?_
        rw [List.forall_mem_singleton]
        refine aB (fun g12 w12 hn12 => ⟨fun _ h => h.trans hn12.ex, ?_⟩)
        have hb12 : Blk w12 g12 33 (intL false none 0 0) := hn12.blk
        have lo12 : w8.heap.size ≤ g12 := Nat.le_trans hEx.size hn12.lo
        have ne12 : g11 ≠ g12 := (by have := hb11.lt; have := hn12.lo; omega)
        have ne23 : g12 ≠ g13 := (by have := hb13.lt; have := hn12.lo; omega)
        replace hEx := hEx.trans hn12.ex
        replace hb11 := hb11.ext hn12.ex
        replace hb13 := hb13.ext hn12.ex
        replace eu1 := eu1.ext hn12.ex
        replace eu2 := eu2.ext hn12.ex
        refine ae ?_
       rotate_left 1
       focus
        refine aB (fun g12 w12 hn12 => ⟨fun _ h => h.trans hn12.ex, ?_⟩)
        have hb12 : Blk w12 g12 33 (intL false none 0 0) := hn12.blk
        have lo12 : w8.heap.size ≤ g12 := Nat.le_trans hEx.size hn12.lo
        have ne12 : g11 ≠ g12 := (by have := hb11.lt; have := hn12.lo; omega)
        have ne23 : g12 ≠ g13 := (by have := hb13.lt; have := hn12.lo; omega)
        replace hEx := hEx.trans hn12.ex
        replace hb11 := hb11.ext hn12.ex
        replace hb13 := hb13.ext hn12.ex
        refine ae ?_
        refine az (fuel := 7) (rs := [8]) (by kernel_rfl) (by kernel_rfl) rfl ?_
        rw [List.forall_mem_singleton]
        refine av (bY (K := K) ((hEi i hin).ext hEx) (hT8.ent.ext hEx) pii (by omega) hK1 (by omega)) rfl ?_
        rintro v w9 ⟨u1, u2, u3, d, a, b, rfl, eu1, ld, eu2, eu3, hd0', hab, hdx, hdy, _, hE9⟩
        refine ⟨fun _ h => h.trans hE9, ?_⟩
        obtain ⟨u1, rfl⟩ := eu1.ih
        obtain ⟨u2, rfl⟩ := eu2.ih
        obtain ⟨u3, rfl⟩ := eu3.ih
        replace hEx := hEx.trans hE9
        replace hb11 := hb11.ext hE9
        replace hb12 := hb12.ext hE9
        replace hb13 := hb13.ext hE9
        refine ae ?_
        refine bp (fuel := 3) (by kernel_rfl) (by kernel_rfl) [9, 10, 11, 12] _ _ (by kernel_rfl) ?_
        repeat' (first|refine aS rfl rfl ?_|refine ai rfl ?_|refine ae ?_)
       rotate_left 1
      rotate_left 2
     rotate_left 6
     focus
      refine aB (fun g12 w12 hn12 => ⟨fun _ h => h.trans hn12.ex, ?_⟩)
      have hb12 : Blk w12 g12 33 (intL false none 0 0) := hn12.blk
      have lo12 : w8.heap.size ≤ g12 := Nat.le_trans hEx.size hn12.lo
      replace hEx := hEx.trans hn12.ex
      refine ae ?_
      refine az (fuel := 9) (rs := [8, 13, 15]) (by kernel_rfl) (by kernel_rfl) rfl ?_
      simp only [List.forall_mem_cons, List.not_mem_nil, false_implies, implies_true, and_true]
      refine ⟨?_, ?_, ?_⟩
      focus
       refine av (bY (K := K) ((hEi i hin).ext hEx) (hT8.ent.ext hEx) pii (by omega) hK1 (by omega)) rfl ?_
       rintro v w9 ⟨u1, u2, u3, d, a, b, rfl, eu1, ld, eu2, eu3, hd0', hab, hdx, hdy, _, hE9⟩
       refine ⟨fun _ h => h.trans hE9, ?_⟩
       obtain ⟨u1, rfl⟩ := eu1.ih
       obtain ⟨u2, rfl⟩ := eu2.ih
       obtain ⟨u3, rfl⟩ := eu3.ih
       replace hEx := hEx.trans hE9
       replace hb12 := hb12.ext hE9
       refine ae ?_
       refine bp (fuel := 5) (by kernel_rfl) (by kernel_rfl) [9, 10, 11, 12] _ _ (by kernel_rfl) ?_
       repeat' (first|refine aS rfl rfl ?_|refine ai rfl ?_|refine ae ?_)
       refine az (fuel := 4) (rs := [13, 15]) (by kernel_rfl) (by kernel_rfl) rfl ?_
       simp only [List.forall_mem_cons, List.not_mem_nil, false_implies, implies_true, and_true]
       refine ⟨?_, ?_⟩
       focus
        refine aB (fun g11 w11 hn11 => ⟨fun _ h => h.trans hn11.ex, ?_⟩)
        have hb11 : Blk w11 g11 33 (intL false none 0 0) := hn11.blk
        have lo11 : w8.heap.size ≤ g11 := Nat.le_trans hEx.size hn11.lo
        have ne12 : g11 ≠ g12 := (by have := hb12.lt; have := hn11.lo; omega)
        replace hEx := hEx.trans hn11.ex
        replace hb12 := hb12.ext hn11.ex
        replace eu1 := eu1.ext hn11.ex
        replace eu2 := eu2.ext hn11.ex
        refine ae ?_
        refine az (fuel := 3) (rs := [15]) (by kernel_rfl) (by kernel_rfl) rfl ?_
        rw [List.forall_mem_singleton]
        refine aB (fun g13 w13 hn13 => ⟨fun _ h => h.trans hn13.ex, ?_⟩)
        have hb13 : Blk w13 g13 33 (intL false none 0 0) := hn13.blk
        have lo13 : w8.heap.size ≤ g13 := Nat.le_trans hEx.size hn13.lo
        have ne13 : g11 ≠ g13 := (by have := hb11.lt; have := hn13.lo; omega)
        have ne23 : g12 ≠ g13 := (by have := hb12.lt; have := hn13.lo; omega)
        replace hEx := hEx.trans hn13.ex
        replace hb11 := hb11.ext hn13.ex
        replace hb12 := hb12.ext hn13.ex
        replace eu1 := eu1.ext hn13.ex
        replace eu2 := eu2.ext hn13.ex
        refine ae ?_
       rotate_left 1
       focus
        refine aB (fun g13 w13 hn13 => ⟨fun _ h => h.trans hn13.ex, ?_⟩)
        have hb13 : Blk w13 g13 33 (intL false none 0 0) := hn13.blk
        have lo13 : w8.heap.size ≤ g13 := Nat.le_trans hEx.size hn13.lo
        have ne23 : g12 ≠ g13 := (by have := hb12.lt; have := hn13.lo; omega)
        replace hEx := hEx.trans hn13.ex
        replace hb12 := hb12.ext hn13.ex
        replace eu1 := eu1.ext hn13.ex
        replace eu2 := eu2.ext hn13.ex
        refine ae ?_
        refine az (fuel := 3) (rs := [13]) (by kernel_rfl) (by kernel_rfl) rfl ?_
        rw [List.forall_mem_singleton]
        refine aB (fun g11 w11 hn11 => ⟨fun _ h => h.trans hn11.ex, ?_⟩)
        have hb11 : Blk w11 g11 33 (intL false none 0 0) := hn11.blk
        have lo11 : w8.heap.size ≤ g11 := Nat.le_trans hEx.size hn11.lo
        have ne12 : g11 ≠ g12 := (by have := hb12.lt; have := hn11.lo; omega)
        have ne13 : g11 ≠ g13 := (by have := hb13.lt; have := hn11.lo; omega)
        replace hEx := hEx.trans hn11.ex
        replace hb12 := hb12.ext hn11.ex
        replace hb13 := hb13.ext hn11.ex
        replace eu1 := eu1.ext hn11.ex
        replace eu2 := eu2.ext hn11.ex
        refine ae ?_
       rotate_left 1
      rotate_left 2
      focus
       refine aB (fun g11 w11 hn11 => ⟨fun _ h => h.trans hn11.ex, ?_⟩)
       have hb11 : Blk w11 g11 33 (intL false none 0 0) := hn11.blk
       have lo11 : w8.heap.size ≤ g11 := Nat.le_trans hEx.size hn11.lo
       have ne12 : g11 ≠ g12 := (by have := hb12.lt; have := hn11.lo; omega)
       replace hEx := hEx.trans hn11.ex
       replace hb12 := hb12.ext hn11.ex
       refine ae ?_
       refine az (fuel := 8) (rs := [8, 15]) (by kernel_rfl) (by kernel_rfl) rfl ?_
       simp only [List.forall_mem_cons, List.not_mem_nil, false_implies, implies_true, and_true]
       refine ⟨?_, ?_⟩
       focus
        refine av (bY (K := K) ((hEi i hin).ext hEx) (hT8.ent.ext hEx) pii (by omega) hK1 (by omega)) rfl ?_
        rintro v w9 ⟨u1, u2, u3, d, a, b, rfl, eu1, ld, eu2, eu3, hd0', hab, hdx, hdy, _, hE9⟩
        refine ⟨fun _ h => h.trans hE9, ?_⟩
        obtain ⟨u1, rfl⟩ := eu1.ih
        obtain ⟨u2, rfl⟩ := eu2.ih
        obtain ⟨u3, rfl⟩ := eu3.ih
        replace hEx := hEx.trans hE9
        replace hb11 := hb11.ext hE9
        replace hb12 := hb12.ext hE9
        refine ae ?_
        refine bp (fuel := 4) (by kernel_rfl) (by kernel_rfl) [9, 10, 11, 12] _ _ (by kernel_rfl) ?_
        repeat' (first|refine aS rfl rfl ?_|refine ai rfl ?_|refine ae ?_)
        refine az (fuel := 3) (rs := [15]) (by kernel_rfl) (by kernel_rfl) rfl ?_
        rw [List.forall_mem_singleton]
        refine aB (fun g13 w13 hn13 => ⟨fun _ h => h.trans hn13.ex, ?_⟩)
        have hb13 : Blk w13 g13 33 (intL false none 0 0) := hn13.blk
        have lo13 : w8.heap.size ≤ g13 := Nat.le_trans hEx.size hn13.lo
        have ne13 : g11 ≠ g13 := (by have := hb11.lt; have := hn13.lo; omega)
        have ne23 : g12 ≠ g13 := (by have := hb12.lt; have := hn13.lo; omega)
        replace hEx := hEx.trans hn13.ex
        replace hb11 := hb11.ext hn13.ex
        replace hb12 := hb12.ext hn13.ex
        replace eu1 := eu1.ext hn13.ex
        replace eu2 := eu2.ext hn13.ex
        refine ae ?_
       rotate_left 1
       focus
        refine aB (fun g13 w13 hn13 => ⟨fun _ h => h.trans hn13.ex, ?_⟩)
        have hb13 : Blk w13 g13 33 (intL false none 0 0) := hn13.blk
        have lo13 : w8.heap.size ≤ g13 := Nat.le_trans hEx.size hn13.lo
        have ne13 : g11 ≠ g13 := (by have := hb11.lt; have := hn13.lo; omega)
        have ne23 : g12 ≠ g13 := (by have := hb12.lt; have := hn13.lo; omega)
        replace hEx := hEx.trans hn13.ex
        replace hb11 := hb11.ext hn13.ex
        replace hb12 := hb12.ext hn13.ex
        refine ae ?_
        refine az (fuel := 7) (rs := [8]) (by kernel_rfl) (by kernel_rfl) rfl ?_
        rw [List.forall_mem_singleton]
        refine av (bY (K := K) ((hEi i hin).ext hEx) (hT8.ent.ext hEx) pii (by omega) hK1 (by omega)) rfl ?_
        rintro v w9 ⟨u1, u2, u3, d, a, b, rfl, eu1, ld, eu2, eu3, hd0', hab, hdx, hdy, _, hE9⟩
        refine ⟨fun _ h => h.trans hE9, ?_⟩
        obtain ⟨u1, rfl⟩ := eu1.ih
        obtain ⟨u2, rfl⟩ := eu2.ih
        obtain ⟨u3, rfl⟩ := eu3.ih
        replace hEx := hEx.trans hE9
        replace hb11 := hb11.ext hE9
        replace hb12 := hb12.ext hE9
        replace hb13 := hb13.ext hE9
        refine ae ?_
        refine bp (fuel := 3) (by kernel_rfl) (by kernel_rfl) [9, 10, 11, 12] _ _ (by kernel_rfl) ?_
        repeat' (first|refine aS rfl rfl ?_|refine ai rfl ?_|refine ae ?_)
       rotate_left 1
      rotate_left 2
      focus
       refine aB (fun g13 w13 hn13 => ⟨fun _ h => h.trans hn13.ex, ?_⟩)
       have hb13 : Blk w13 g13 33 (intL false none 0 0) := hn13.blk
       have lo13 : w8.heap.size ≤ g13 := Nat.le_trans hEx.size hn13.lo
       have ne23 : g12 ≠ g13 := (by have := hb12.lt; have := hn13.lo; omega)
       replace hEx := hEx.trans hn13.ex
       replace hb12 := hb12.ext hn13.ex
       refine ae ?_
       refine az (fuel := 8) (rs := [8, 13]) (by kernel_rfl) (by kernel_rfl) rfl ?_
       simp only [List.forall_mem_cons, List.not_mem_nil, false_implies, implies_true, and_true]
       refine ⟨?_, ?_⟩
       focus
        refine av (bY (K := K) ((hEi i hin).ext hEx) (hT8.ent.ext hEx) pii (by omega) hK1 (by omega)) rfl ?_
        rintro v w9 ⟨u1, u2, u3, d, a, b, rfl, eu1, ld, eu2, eu3, hd0', hab, hdx, hdy, _, hE9⟩
        refine ⟨fun _ h => h.trans hE9, ?_⟩
        obtain ⟨u1, rfl⟩ := eu1.ih
        obtain ⟨u2, rfl⟩ := eu2.ih
        obtain ⟨u3, rfl⟩ := eu3.ih
        replace hEx := hEx.trans hE9
        replace hb12 := hb12.ext hE9
        replace hb13 := hb13.ext hE9
        refine ae ?_
        refine bp (fuel := 4) (by kernel_rfl) (by kernel_rfl) [9, 10, 11, 12] _ _ (by kernel_rfl) ?_
        repeat' (first|refine aS rfl rfl ?_|refine ai rfl ?_|refine ae ?_)
        refine az (fuel := 3) (rs := [13]) (by kernel_rfl) (by kernel_rfl) rfl ?_
        rw [List.forall_mem_singleton]
        refine aB (fun g11 w11 hn11 => ⟨fun _ h => h.trans hn11.ex, ?_⟩)
        have hb11 : Blk w11 g11 33 (intL false none 0 0) := hn11.blk
        have lo11 : w8.heap.size ≤ g11 := Nat.le_trans hEx.size hn11.lo
        have ne12 : g11 ≠ g12 := (by have := hb12.lt; have := hn11.lo; omega)
        have ne13 : g11 ≠ g13 := (by have := hb13.lt; have := hn11.lo; omega)
        replace hEx := hEx.trans hn11.ex
        replace hb12 := hb12.ext hn11.ex
        replace hb13 := hb13.ext hn11.ex
        replace eu1 := eu1.ext hn11.ex
        replace eu2 := eu2.ext hn11.ex
        refine ae ?_
       rotate_left 1
       focus
        refine aB (fun g11 w11 hn11 => ⟨fun _ h => h.trans hn11.ex, ?_⟩)
        have hb11 : Blk w11 g11 33 (intL false none 0 0) := hn11.blk
        have lo11 : w8.heap.size ≤ g11 := Nat.le_trans hEx.size hn11.lo
        have ne12 : g11 ≠ g12 := (by have := hb12.lt; have := hn11.lo; omega)
        have ne13 : g11 ≠ g13 := (by have := hb13.lt; have := hn11.lo; omega)
        replace hEx := hEx.trans hn11.ex
        replace hb12 := hb12.ext hn11.ex
        replace hb13 := hb13.ext hn11.ex
        refine ae ?_
        refine az (fuel := 7) (rs := [8]) (by kernel_rfl) (by kernel_rfl) rfl ?_
        rw [List.forall_mem_singleton]
        refine av (bY (K := K) ((hEi i hin).ext hEx) (hT8.ent.ext hEx) pii (by omega) hK1 (by omega)) rfl ?_
        rintro v w9 ⟨u1, u2, u3, d, a, b, rfl, eu1, ld, eu2, eu3, hd0', hab, hdx, hdy, _, hE9⟩
        refine ⟨fun _ h => h.trans hE9, ?_⟩
        obtain ⟨u1, rfl⟩ := eu1.ih
        obtain ⟨u2, rfl⟩ := eu2.ih
        obtain ⟨u3, rfl⟩ := eu3.ih
        replace hEx := hEx.trans hE9
        replace hb11 := hb11.ext hE9
        replace hb12 := hb12.ext hE9
        replace hb13 := hb13.ext hE9
        refine ae ?_
        refine bp (fuel := 3) (by kernel_rfl) (by kernel_rfl) [9, 10, 11, 12] _ _ (by kernel_rfl) ?_
        repeat' (first|refine aS rfl rfl ?_|refine ai rfl ?_|refine ae ?_)
       rotate_left 1
      rotate_left 2
     rotate_left 6
     focus
      refine aB (fun g13 w13 hn13 => ⟨fun _ h => h.trans hn13.ex, ?_⟩)
      have hb13 : Blk w13 g13 33 (intL false none 0 0) := hn13.blk
      have lo13 : w8.heap.size ≤ g13 := Nat.le_trans hEx.size hn13.lo
      replace hEx := hEx.trans hn13.ex
      refine ae ?_
      refine az (fuel := 9) (rs := [8, 13, 14]) (by kernel_rfl) (by kernel_rfl) rfl ?_
      simp only [List.forall_mem_cons, List.not_mem_nil, false_implies, implies_true, and_true]
      refine ⟨?_, ?_, ?_⟩
      focus
       refine av (bY (K := K) ((hEi i hin).ext hEx) (hT8.ent.ext hEx) pii (by omega) hK1 (by omega)) rfl ?_
       rintro v w9 ⟨u1, u2, u3, d, a, b, rfl, eu1, ld, eu2, eu3, hd0', hab, hdx, hdy, _, hE9⟩
       refine ⟨fun _ h => h.trans hE9, ?_⟩
       obtain ⟨u1, rfl⟩ := eu1.ih
       obtain ⟨u2, rfl⟩ := eu2.ih
       obtain ⟨u3, rfl⟩ := eu3.ih
       replace hEx := hEx.trans hE9
       replace hb13 := hb13.ext hE9
       refine ae ?_
       refine bp (fuel := 5) (by kernel_rfl) (by kernel_rfl) [9, 10, 11, 12] _ _ (by kernel_rfl) ?_
       repeat' (first|refine aS rfl rfl ?_|refine ai rfl ?_|refine ae ?_)
       refine az (fuel := 4) (rs := [13, 14]) (by kernel_rfl) (by kernel_rfl) rfl ?_
       simp only [List.forall_mem_cons, List.not_mem_nil, false_implies, implies_true, and_true]
       refine ⟨?_, ?_⟩
       focus
        refine aB (fun g11 w11 hn11 => ⟨fun _ h => h.trans hn11.ex, ?_⟩)
        have hb11 : Blk w11 g11 33 (intL false none 0 0) := hn11.blk
        have lo11 : w8.heap.size ≤ g11 := Nat.le_trans hEx.size hn11.lo
        have ne13 : g11 ≠ g13 := (by have := hb13.lt; have := hn11.lo; omega)
        replace hEx := hEx.trans hn11.ex
        replace hb13 := hb13.ext hn11.ex
        replace eu1 := eu1.ext hn11.ex
        replace eu2 := eu2.ext hn11.ex
        refine ae ?_
        refine az (fuel := 3) (rs := [14]) (by kernel_rfl) (by kernel_rfl) rfl ?_
        rw [List.forall_mem_singleton]
        refine aB (fun g12 w12 hn12 => ⟨fun _ h => h.trans hn12.ex, ?_⟩)
        have hb12 : Blk w12 g12 33 (intL false none 0 0) := hn12.blk
        have lo12 : w8.heap.size ≤ g12 := Nat.le_trans hEx.size hn12.lo
        have ne12 : g11 ≠ g12 := (by have := hb11.lt; have := hn12.lo; omega)
        have ne23 : g12 ≠ g13 := (by have := hb13.lt; have := hn12.lo; omega)
        replace hEx := hEx.trans hn12.ex
        replace hb11 := hb11.ext hn12.ex
        replace hb13 := hb13.ext hn12.ex
        replace eu1 := eu1.ext hn12.ex
        replace eu2 := eu2.ext hn12.ex
        refine ae ?_
       rotate_left 1
       focus
        refine aB (fun g12 w12 hn12 => ⟨fun _ h => h.trans hn12.ex, ?_⟩)
        have hb12 : Blk w12 g12 33 (intL false none 0 0) := hn12.blk
        have lo12 : w8.heap.size ≤ g12 := Nat.le_trans hEx.size hn12.lo
        have ne23 : g12 ≠ g13 := (by have := hb13.lt; have := hn12.lo; omega)
        replace hEx := hEx.trans hn12.ex
        replace hb13 := hb13.ext hn12.ex
        replace eu1 := eu1.ext hn12.ex
        replace eu2 := eu2.ext hn12.ex
        refine ae ?_
        refine az (fuel := 3) (rs := [13]) (by kernel_rfl) (by kernel_rfl) rfl ?_
        rw [List.forall_mem_singleton]
        refine aB (fun g11 w11 hn11 => ⟨fun _ h => h.trans hn11.ex, ?_⟩)
        have hb11 : Blk w11 g11 33 (intL false none 0 0) := hn11.blk
        have lo11 : w8.heap.size ≤ g11 := Nat.le_trans hEx.size hn11.lo
        have ne12 : g11 ≠ g12 := (by have := hb12.lt; have := hn11.lo; omega)
        have ne13 : g11 ≠ g13 := (by have := hb13.lt; have := hn11.lo; omega)
        replace hEx := hEx.trans hn11.ex
        replace hb12 := hb12.ext hn11.ex
        replace hb13 := hb13.ext hn11.ex
        replace eu1 := eu1.ext hn11.ex
        replace eu2 := eu2.ext hn11.ex
        refine ae ?_
       rotate_left 1
      rotate_left 2
      focus
       refine aB (fun g11 w11 hn11 => ⟨fun _ h => h.trans hn11.ex, ?_⟩)
       have hb11 : Blk w11 g11 33 (intL false none 0 0) := hn11.blk
       have lo11 : w8.heap.size ≤ g11 := Nat.le_trans hEx.size hn11.lo
       have ne13 : g11 ≠ g13 := (by have := hb13.lt; have := hn11.lo; omega)
       replace hEx := hEx.trans hn11.ex
       replace hb13 := hb13.ext hn11.ex
       refine ae ?_
       refine az (fuel := 8) (rs := [8, 14]) (by kernel_rfl) (by kernel_rfl) rfl ?_
       simp only [List.forall_mem_cons, List.not_mem_nil, false_implies, implies_true, and_true]
       refine ⟨?_, ?_⟩
       focus
        refine av (bY (K := K) ((hEi i hin).ext hEx) (hT8.ent.ext hEx) pii (by omega) hK1 (by omega)) rfl ?_
        rintro v w9 ⟨u1, u2, u3, d, a, b, rfl, eu1, ld, eu2, eu3, hd0', hab, hdx, hdy, _, hE9⟩
        refine ⟨fun _ h => h.trans hE9, ?_⟩
        obtain ⟨u1, rfl⟩ := eu1.ih
        obtain ⟨u2, rfl⟩ := eu2.ih
        obtain ⟨u3, rfl⟩ := eu3.ih
        replace hEx := hEx.trans hE9
        replace hb11 := hb11.ext hE9
        replace hb13 := hb13.ext hE9
        refine ae ?_
        refine bp (fuel := 4) (by kernel_rfl) (by kernel_rfl) [9, 10, 11, 12] _ _ (by kernel_rfl) ?_
        repeat' (first|refine aS rfl rfl ?_|refine ai rfl ?_|refine ae ?_)
        refine az (fuel := 3) (rs := [14]) (by kernel_rfl) (by kernel_rfl) rfl ?_
        rw [List.forall_mem_singleton]
        refine aB (fun g12 w12 hn12 => ⟨fun _ h => h.trans hn12.ex, ?_⟩)
        have hb12 : Blk w12 g12 33 (intL false none 0 0) := hn12.blk
        have lo12 : w8.heap.size ≤ g12 := Nat.le_trans hEx.size hn12.lo
        have ne12 : g11 ≠ g12 := (by have := hb11.lt; have := hn12.lo; omega)
        have ne23 : g12 ≠ g13 := (by have := hb13.lt; have := hn12.lo; omega)
        replace hEx := hEx.trans hn12.ex
        replace hb11 := hb11.ext hn12.ex
        replace hb13 := hb13.ext hn12.ex
        replace eu1 := eu1.ext hn12.ex
        replace eu2 := eu2.ext hn12.ex
        refine ae ?_
       rotate_left 1
       focus
        refine aB (fun g12 w12 hn12 => ⟨fun _ h => h.trans hn12.ex, ?_⟩)
        have hb12 : Blk w12 g12 33 (intL false none 0 0) := hn12.blk
        have lo12 : w8.heap.size ≤ g12 := Nat.le_trans hEx.size hn12.lo
        have ne12 : g11 ≠ g12 := (by have := hb11.lt; have := hn12.lo; omega)
        have ne23 : g12 ≠ g13 := (by have := hb13.lt; have := hn12.lo; omega)
        replace hEx := hEx.trans hn12.ex
        replace hb11 := hb11.ext hn12.ex
        replace hb13 := hb13.ext hn12.ex
        refine ae ?_
        refine az (fuel := 7) (rs := [8]) (by kernel_rfl) (by kernel_rfl) rfl ?_
        rw [List.forall_mem_singleton]
        refine av (bY (K := K) ((hEi i hin).ext hEx) (hT8.ent.ext hEx) pii (by omega) hK1 (by omega)) rfl ?_
        rintro v w9 ⟨u1, u2, u3, d, a, b, rfl, eu1, ld, eu2, eu3, hd0', hab, hdx, hdy, _, hE9⟩
        refine ⟨fun _ h => h.trans hE9, ?_⟩
        obtain ⟨u1, rfl⟩ := eu1.ih
        obtain ⟨u2, rfl⟩ := eu2.ih
        obtain ⟨u3, rfl⟩ := eu3.ih
        replace hEx := hEx.trans hE9
        replace hb11 := hb11.ext hE9
        replace hb12 := hb12.ext hE9
        replace hb13 := hb13.ext hE9
        refine ae ?_
        refine bp (fuel := 3) (by kernel_rfl) (by kernel_rfl) [9, 10, 11, 12] _ _ (by kernel_rfl) ?_
        repeat' (first|refine aS rfl rfl ?_|refine ai rfl ?_|refine ae ?_)
       rotate_left 1
      rotate_left 2
      focus
       refine aB (fun g12 w12 hn12 => ⟨fun _ h => h.trans hn12.ex, ?_⟩)
       have hb12 : Blk w12 g12 33 (intL false none 0 0) := hn12.blk
       have lo12 : w8.heap.size ≤ g12 := Nat.le_trans hEx.size hn12.lo
       have ne23 : g12 ≠ g13 := (by have := hb13.lt; have := hn12.lo; omega)
       replace hEx := hEx.trans hn12.ex
       replace hb13 := hb13.ext hn12.ex
       refine ae ?_
       refine az (fuel := 8) (rs := [8, 13]) (by kernel_rfl) (by kernel_rfl) rfl ?_
       simp only [List.forall_mem_cons, List.not_mem_nil, false_implies, implies_true, and_true]
       refine ⟨?_, ?_⟩
       focus
        refine av (bY (K := K) ((hEi i hin).ext hEx) (hT8.ent.ext hEx) pii (by omega) hK1 (by omega)) rfl ?_
        rintro v w9 ⟨u1, u2, u3, d, a, b, rfl, eu1, ld, eu2, eu3, hd0', hab, hdx, hdy, _, hE9⟩
        refine ⟨fun _ h => h.trans hE9, ?_⟩
        obtain ⟨u1, rfl⟩ := eu1.ih
        obtain ⟨u2, rfl⟩ := eu2.ih
        obtain ⟨u3, rfl⟩ := eu3.ih
        replace hEx := hEx.trans hE9
        replace hb12 := hb12.ext hE9
        replace hb13 := hb13.ext hE9
        refine ae ?_
        refine bp (fuel := 4) (by kernel_rfl) (by kernel_rfl) [9, 10, 11, 12] _ _ (by kernel_rfl) ?_
        repeat' (first|refine aS rfl rfl ?_|refine ai rfl ?_|refine ae ?_)
        refine az (fuel := 3) (rs := [13]) (by kernel_rfl) (by kernel_rfl) rfl ?_
        rw [List.forall_mem_singleton]
        refine aB (fun g11 w11 hn11 => ⟨fun _ h => h.trans hn11.ex, ?_⟩)
        have hb11 : Blk w11 g11 33 (intL false none 0 0) := hn11.blk
        have lo11 : w8.heap.size ≤ g11 := Nat.le_trans hEx.size hn11.lo
        have ne12 : g11 ≠ g12 := (by have := hb12.lt; have := hn11.lo; omega)
        have ne13 : g11 ≠ g13 := (by have := hb13.lt; have := hn11.lo; omega)
        replace hEx := hEx.trans hn11.ex
        replace hb12 := hb12.ext hn11.ex
        replace hb13 := hb13.ext hn11.ex
        replace eu1 := eu1.ext hn11.ex
        replace eu2 := eu2.ext hn11.ex
        refine ae ?_
       rotate_left 1
       focus
        refine aB (fun g11 w11 hn11 => ⟨fun _ h => h.trans hn11.ex, ?_⟩)
        have hb11 : Blk w11 g11 33 (intL false none 0 0) := hn11.blk
        have lo11 : w8.heap.size ≤ g11 := Nat.le_trans hEx.size hn11.lo
        have ne12 : g11 ≠ g12 := (by have := hb12.lt; have := hn11.lo; omega)
        have ne13 : g11 ≠ g13 := (by have := hb13.lt; have := hn11.lo; omega)
        replace hEx := hEx.trans hn11.ex
        replace hb12 := hb12.ext hn11.ex
        replace hb13 := hb13.ext hn11.ex
        refine ae ?_
        refine az (fuel := 7) (rs := [8]) (by kernel_rfl) (by kernel_rfl) rfl ?_
        rw [List.forall_mem_singleton]
        refine av (bY (K := K) ((hEi i hin).ext hEx) (hT8.ent.ext hEx) pii (by omega) hK1 (by omega)) rfl ?_
        rintro v w9 ⟨u1, u2, u3, d, a, b, rfl, eu1, ld, eu2, eu3, hd0', hab, hdx, hdy, _, hE9⟩
        refine ⟨fun _ h => h.trans hE9, ?_⟩
        obtain ⟨u1, rfl⟩ := eu1.ih
        obtain ⟨u2, rfl⟩ := eu2.ih
        obtain ⟨u3, rfl⟩ := eu3.ih
        replace hEx := hEx.trans hE9
        replace hb11 := hb11.ext hE9
        replace hb12 := hb12.ext hE9
        replace hb13 := hb13.ext hE9
        refine ae ?_
        refine bp (fuel := 3) (by kernel_rfl) (by kernel_rfl) [9, 10, 11, 12] _ _ (by kernel_rfl) ?_
        repeat' (first|refine aS rfl rfl ?_|refine ai rfl ?_|refine ae ?_)
       rotate_left 1
      rotate_left 2
     rotate_left 6
     all_goals
      refine az (fuel := 2) (rs := [16]) (by kernel_rfl) (by kernel_rfl) rfl ?_
      rw [List.forall_mem_singleton]
      refine ax (n := 2) (vs := u1.cells) rfl rfl rfl rfl hb11 rfl (fun w16 hc16 hb16 => ⟨fun _ h => h.chg hc16 lo11, ?_⟩)
      replace hEx := hEx.chg hc16 lo11
      replace hb12 := hb12.chg hc16 (Ne.symm ne12)
      replace hb13 := hb13.chg hc16 (Ne.symm ne13)
      replace eu1 := eu1.gbN hb11 (aI _ _ _ _) (bG hc16)
      replace eu2 := eu2.gbN hb11 (aI _ _ _ _) (bG hc16)
      refine ae ?_
      refine az (fuel := 1) (rs := [17]) (by kernel_rfl) (by kernel_rfl) rfl ?_
      rw [List.forall_mem_singleton]
      refine ax (n := 2) (vs := u2.cells) rfl rfl rfl rfl hb12 rfl (fun w17 hc17 hb17 => ⟨fun _ h => h.chg hc17 lo12, ?_⟩)
      replace hEx := hEx.chg hc17 lo12
      replace hb16 := hb16.chg hc17 ne12
      replace hb13 := hb13.chg hc17 (Ne.symm ne23)
      replace eu1 := eu1.gbN hb12 (aI _ _ _ _) (bG hc17)
      replace eu2 := eu2.gbN hb12 (aI _ _ _ _) (bG hc17)
      refine ae ?_
      refine az (fuel := 0) (rs := [18]) (by kernel_rfl) (by kernel_rfl) rfl ?_
      rw [List.forall_mem_singleton]
      refine ax (n := 2) (vs := u3.cells) rfl rfl rfl rfl hb13 rfl (fun w18 hc18 hb18 => ⟨fun _ h => h.chg hc18 lo13, ?_⟩)
      refine ae ?_
      refine bw (by kernel_rfl) ?_
      refine aa ?_
      exact ⟨⟨((_, _, u1, u2), d, a, b), ⟨hEx.chg hc18 lo13, lo11, lo12, ne12, hb16.chg hc18 ne13, hb17.chg hc18 ne23, eu1.gbN hb13 (aI _ _ _ _) (bG hc18), ld, eu2.gbN hb13 (aI _ _ _ _) (bG hc18), hd0', hab, hdx, hdy⟩, rfl, rfl, trivial⟩, (by (repeat (first|exact aM _ _|refine aw rfl ?_|refine au rfl ?_|refine ak rfl ?_|refine ao rfl ?_)))⟩
    ·rintro ⟨⟨g11, g12, u1, u2⟩, d, a, b⟩ ξ4 w9 ⟨hE9, lo11, lo12, ne12, hb11, hb12, eu1, ld, eu2, hd0', hab, hdx, hdy⟩
     simp only at lo11 lo12 ne12 hb11 hb12 eu1 ld eu2 hd0' hab hdx hdy
     show CW _ _ _ _ (over [(11, .pointer (some ⟨g11, 0, none⟩)), (12, .pointer (some ⟨g12, 0, none⟩))] _) w9
     have hdp : 0 < d := by
      rcases Int.lt_or_eq_of_le hd0' with h | h
      ·exact h
      ·rw [← h] at hdy; have := Int.zero_dvd.1 hdy; omega
     have hpv := hJ8.pivot hH hin (fun k h1 h2 => hz8 k h1 h2) hdp hab hdx hdy
     subst hpv
     have s8 := hE8.size
     have hT9 := hT8.ext hE9
     obtain ⟨K2, hK2⟩ : ∃ K2, K2 = 3 * K + 6 := ⟨_, rfl⟩
     have lF : ∀ k r, k < n → r < n → Lb K (F k r) := fun k r hk hr => hT8.mo.mx.lb hk hr
     have lc : ∀ r, r < n → Lb (2 * K + 1) (a * F i r) := fun r hr => (eu2.lb.mul (lF i r hin hr)).mono (by omega)
     repeat' (first|refine aN (g := g12) rfl hb12 rfl ?_|refine cL (cs := intL false none 0 0) rfl ?_|refine ai rfl ?_|refine aj ?_|refine ah rfl ?_)
     refine av (ed (n := n) (s := fun k => ⟨some ⟨gs k, 0, none⟩, n, cp k⟩) (K' := K2) hT9.mo.top.sl hin hin (by omega) (by omega) (hT9.mo.row i hin).rx (hT9.mo.row i hin).rx eu2 (kU (cn := true) (K := 0) _) (by omega) (by omega) (fun r hr => by rw [Int.zero_mul, Int.add_zero]; exact (lc r hr).mono (by omega))) rfl ?_
     rintro v w10 ⟨g3, rfl, hR10, hE10⟩
     refine ⟨fun _ _ => trivial, ?_⟩
     have hT10 := (hT9.ext hE10).up (K' := K2) (by omega)
     repeat' (first|refine aC (j := i) (a := some ⟨g, 0, none⟩) rfl rfl ⟨_, _, rfl⟩ (by omega) ?_)
     refine ci (j := i) (u := ⟨some ⟨g3, 0, none⟩, n, n⟩) rfl rfl hT10.mo.top (by omega) (fun w11 hc11 hb' => ⟨fun _ _ => trivial, ?_⟩)
     have gl := hT8.mo.lt
     have s9 := hE9.size
     have hE11 : Ex w w11 := ((hE8.trans hE9).trans hE10).chg hc11 hT8.mo.low
     have ngm : gm < w8.heap.size := hT8.blk.lt
     obtain ⟨gs1, cp1, F1, hT11, hF1, hF1', hg1⟩ : ∃ gs1 cp1 F1, TS K2 K w11 w.heap.size n g gm gs1 cp1 F1 xm (tl n H i) ∧ (∀ r, F1 i r = a * F i r) ∧ (∀ k, k ≠ i → F1 k = F k) ∧ ∀ k, k < n → gs1 k ≠ g11 :=
      ⟨_, _, _, hT10.row1 hin hR10 hE10 (hT9.up (by omega)) (by omega) hc11 hb', fun r => by rw [aJ, Int.zero_mul, Int.add_zero], fun k hk => aO _ _ hk, fun k hk => by
       by_cases h : k = i
       ·subst h; rw [aJ]; have := hb11.lt; have := hR10.low; omega
       ·rw [aO _ _ h]; have := (hT8.mo.row k hk).lt; omega⟩
     have hb11' := (hb11.ext hE10).chg hc11 (by omega)
     have eu1' := (eu1.ext hE10).gbN hT10.mo.top (bZ _ _) (bG hc11)
     clear hT8 hT9 hT10 hb' hR10 hc11 hb12 hb11 eu1 eu2 hbi hEi
     obtain ⟨hh1, hbr, hcr, hEr⟩ := hT11.mo.get hin
     have gml : gm ≠ g11 := by have := hT11.lom; have := ngm; omega
     repeat' (first|refine aa ?_|refine aj ?_|refine ae ?_)
     refine bi (late := [7]) (plan := [(0, none), (1, none), (2, none), (3, none), (4, none), (5, none), (6, none), (7, some false)]) (fun w' => Ex w11 w') bB (by kernel_rfl) (Ex.refl w11).drew ?_
     repeat' (first|refine aC (j := i) (a := some ⟨g, 0, none⟩) rfl rfl ⟨_, _, rfl⟩ (by omega) ?_|refine aU (j := i) (a := some ⟨g, 0, none⟩) (n := n) (s := fun k => ⟨some ⟨gs1 k, 0, none⟩, n, cp1 k⟩) rfl (fun _ h => (hT11.mo.ext h).top.sl) (by omega) rfl ?_|refine aN (g := g11) rfl (fun _ h => hb11'.ext h) rfl ?_|refine aT (j := i) (a := some ⟨gs1 i, 0, none⟩) rfl rfl ⟨_, _, rfl⟩ (by omega) ?_|refine ai rfl ?_)
     have hEd := (Ex.refl w11).drew
     refine ch (j := i) (n := cp1 i) (u := u1) rfl rfl (hbr.ext hEd) (by omega) (fun w12 hc12 hbr12 => ⟨fun h => (nomatch h), ?_⟩)
     have lgi := (hT11.mo.row i hin).low
     have hE12 : Ex w w12 := (hE11.trans hEd).chg hc12 lgi
     have lH : Lb K (H i i) := ld
     obtain ⟨F2, hT12, hF2, hF2'⟩ : ∃ F2, TS K2 K w12 w.heap.size n g gm gs1 cp1 F2 xm (tl n H i) ∧ (∀ r, F2 i r = if r = i then H i i else a * F i r) ∧ (∀ k, k ≠ i → F2 k = F k) :=
      ⟨_, (hT11.ext hEd).cell hin (hbr.ext hEd) (fun j hj => (hEr j hj).ext hEd) ((eu1'.ext hEd).up (by omega)) hc12 hbr12, fun r => by
       rw [oh]
       by_cases h : r = i
       ·subst h; rw [aJ, if_pos rfl]
       ·rw [aO _ _ h, if_neg h, hF1], fun k hk => by rw [p8 _ _ _ hk, hF1' k hk]⟩
     have hb12 := (hb11'.ext hEd).chg hc12 (Ne.symm (hg1 i hin))
     have eu12 := (eu1'.ext hEd).gbN (hbr.ext hEd) (bF _ _) (bG hc12)
     have lF2 : ∀ r, r < n → Lb (2 * K + 1) (F2 i r) := fun r hr => by
      rw [hF2]; split
      ·exact lH.mono (by omega)
      ·exact lc r hr
     clear hT11 hbr hEr hc12 hbr12 hb11' eu1' hF1 hF1'
     repeat' (first|refine ai rfl ?_|refine aa ?_|refine aj ?_|refine ah rfl ?_|refine ae ?_|refine aA ?_)
     refine aY (ι := Nat × (Nat → Nat) × (Nat → Nat)) [14, 15, 16, 17, 86, 87, 88, 89, 90, 91, 92, 93, 94, 95, 96, 97, 98, 99, 100, 101, 102, 103, 104, 105, 106, 107, 108, 109, 110, 111, 112] (fun t => [(86, .int .i64 (t.1 : Int))])
      (fun t w' => t.1 ≤ i ∧ Ex w w' ∧ TS K2 K w' w.heap.size n g gm t.2.1 t.2.2 (fun k r => if k < t.1 then F2 k r - F2 k i / H i i * F2 i r else F2 k r) xm (tl n H i) ∧ Blk w' g11 33 u1.cells ∧ Ent true (K + 1) w' u1.val (H i i) ∧ ∀ k, k < n → t.2.1 k ≠ g11) (fun t => i - t.1)
      (0, gs1, cp1) ⟨rfl, trivial⟩ ⟨by simp only; omega, hE12, hT12.congr fun k r _ _ => if_neg (by simp only; omega), hb12, eu12, hg1⟩ ?_
     clear hT12 hE12 hb12 eu12 hg1
     rintro ⟨j, gs2, cp2⟩ ξ5 w13 ⟨hji, hE13, hT13, hb13, eu13, hg2⟩
     simp only at hji hT13 hg2
     show CW _ _ _ _ (over [(86, .int .i64 (j : Int))] _) w13
     rcases Nat.lt_or_ge j i with hjl | hjl
     ·have hjn : j < n := by omega
      obtain ⟨hhj, hbj, hcj, hEj⟩ := hT13.mo.get hjn
      have eij := hEj i hin
      rw [if_neg (by omega), hF2' j (by omega)] at eij
      repeat' (first|refine bC rfl rfl (by omega) ?_|refine aa ?_|refine aj ?_|refine ah rfl ?_|refine ae ?_|refine aD rfl ?_|refine aF ?_)
      refine aA ?_
      repeat' (first|refine ai rfl ?_|refine aa ?_|refine aj ?_|refine ah rfl ?_|refine ae ?_)
      refine cD (ι := Nat × IH) [15, 16, 17, 89, 90, 91, 92, 93, 94, 95, 96, 97, 98, 99, 100, 101] (fun t => [(15, .pointer (some ⟨t.1, 0, none⟩))])
       (fun t w' => Ex w13 w' ∧ w13.heap.size ≤ t.1 ∧ Blk w' t.1 33 t.2.cells ∧ Ent true K w' t.2.val (F j i / H i i)) ?_ ?_
      ·have hEx : Ex w13 w13.drew := (Ex.refl _).drew
       refine dN (fun w' => Ex w13 w') bB hEx ?_
       refine bp (fuel := 10) (by kernel_rfl) (by kernel_rfl) [0, 1, 2, 3, 4, 5, 6, 7] _ _ (by kernel_rfl) ?_
       repeat' (first|refine aC (j := j) (a := some ⟨g, 0, none⟩) rfl rfl ⟨_, _, rfl⟩ (by omega) ?_|refine aU (j := j) (a := some ⟨g, 0, none⟩) (n := n) (s := fun k => ⟨some ⟨gs2 k, 0, none⟩, n, cp2 k⟩) rfl (fun _ h => (hT13.mo.ext h).top.sl) (by omega) rfl ?_|refine aT (j := i) (a := some ⟨gs2 j, 0, none⟩) rfl rfl ⟨_, _, rfl⟩ (by omega) ?_|refine bu (j := i) (n := cp2 j) (a := some ⟨gs2 j, 0, none⟩) rfl (fun _ h => (hbj.ext h).sl) ⟨_, _, rfl⟩ (by omega) ?_|refine aN (g := g11) rfl (fun _ h => hb13.ext h) rfl ?_|refine ai rfl ?_|refine ae ?_)
       refine az (fuel := 9) (rs := [8, 13, 14]) (by kernel_rfl) (by kernel_rfl) rfl ?_
       simp only [List.forall_mem_cons, List.not_mem_nil, false_implies, implies_true, and_true]
       refine ⟨?_, ?_, ?_⟩
       focus
        refine av (bn (eij.ext hEx).k (eu13.ext hEx).k (by omega) (by omega)) rfl ?_
        rintro v w14 ⟨q, rm, rfl, hq, hrm, hE14⟩
        refine ⟨fun _ h => h.trans hE14, ?_⟩
        obtain ⟨xq, rfl⟩ := hq.ih
        obtain ⟨xr, rfl⟩ := hrm.ih
        have eq : Ent true K w14 xq.val (F j i / H i i) := Ent.of hq ((lF j i hjn hin).div _)
        replace hEx := hEx.trans hE14
        refine ae ?_
        refine bp (fuel := 5) (by kernel_rfl) (by kernel_rfl) [9, 10, 11, 12] _ _ (by kernel_rfl) ?_
        repeat' (first|refine aS rfl rfl ?_|refine ai rfl ?_|refine ae ?_)
        refine az (fuel := 4) (rs := [13, 14]) (by kernel_rfl) (by kernel_rfl) rfl ?_
        simp only [List.forall_mem_cons, List.not_mem_nil, false_implies, implies_true, and_true]
        refine ⟨?_, ?_⟩
        focus
         refine aB (fun g15 w15 hn15 => ⟨fun _ h => h.trans hn15.ex, ?_⟩)
         have hb15 : Blk w15 g15 33 (intL false none 0 0) := hn15.blk
         have lo15 : w13.heap.size ≤ g15 := Nat.le_trans hEx.size hn15.lo
         replace hEx := hEx.trans hn15.ex
         replace eq := eq.ext hn15.ex
         refine ae ?_
         refine az (fuel := 3) (rs := [14]) (by kernel_rfl) (by kernel_rfl) rfl ?_
         rw [List.forall_mem_singleton]
         refine aB (fun g16 w16 hn16 => ⟨fun _ h => h.trans hn16.ex, ?_⟩)
         have hb16 : Blk w16 g16 33 (intL false none 0 0) := hn16.blk
         have lo16 : w13.heap.size ≤ g16 := Nat.le_trans hEx.size hn16.lo
         have ne56 : g15 ≠ g16 := (by have := hb15.lt; have := hn16.lo; omega)
         replace hEx := hEx.trans hn16.ex
         replace hb15 := hb15.ext hn16.ex
         replace eq := eq.ext hn16.ex
         refine ae ?_
        rotate_left 1
        focus
         refine aB (fun g16 w16 hn16 => ⟨fun _ h => h.trans hn16.ex, ?_⟩)
         have hb16 : Blk w16 g16 33 (intL false none 0 0) := hn16.blk
         have lo16 : w13.heap.size ≤ g16 := Nat.le_trans hEx.size hn16.lo
         replace hEx := hEx.trans hn16.ex
         replace eq := eq.ext hn16.ex
         refine ae ?_
         refine az (fuel := 3) (rs := [13]) (by kernel_rfl) (by kernel_rfl) rfl ?_
         rw [List.forall_mem_singleton]
         refine aB (fun g15 w15 hn15 => ⟨fun _ h => h.trans hn15.ex, ?_⟩)
         have hb15 : Blk w15 g15 33 (intL false none 0 0) := hn15.blk
         have lo15 : w13.heap.size ≤ g15 := Nat.le_trans hEx.size hn15.lo
         have ne56 : g15 ≠ g16 := (by have := hb16.lt; have := hn15.lo; omega)
         replace hEx := hEx.trans hn15.ex
         replace hb16 := hb16.ext hn15.ex
         replace eq := eq.ext hn15.ex
         refine ae ?_
        rotate_left 1
       rotate_left 2
       focus
        refine aB (fun g15 w15 hn15 => ⟨fun _ h => h.trans hn15.ex, ?_⟩)
        have hb15 : Blk w15 g15 33 (intL false none 0 0) := hn15.blk
        have lo15 : w13.heap.size ≤ g15 := Nat.le_trans hEx.size hn15.lo
        replace hEx := hEx.trans hn15.ex
        refine ae ?_
        refine az (fuel := 8) (rs := [8, 14]) (by kernel_rfl) (by kernel_rfl) rfl ?_
        simp only [List.forall_mem_cons, List.not_mem_nil, false_implies, implies_true, and_true]
        refine ⟨?_, ?_⟩
        focus
         refine av (bn (eij.ext hEx).k (eu13.ext hEx).k (by omega) (by omega)) rfl ?_
         rintro v w14 ⟨q, rm, rfl, hq, hrm, hE14⟩
         refine ⟨fun _ h => h.trans hE14, ?_⟩
         obtain ⟨xq, rfl⟩ := hq.ih
         obtain ⟨xr, rfl⟩ := hrm.ih
         have eq : Ent true K w14 xq.val (F j i / H i i) := Ent.of hq ((lF j i hjn hin).div _)
         replace hEx := hEx.trans hE14
         replace hb15 := hb15.ext hE14
         refine ae ?_
         refine bp (fuel := 4) (by kernel_rfl) (by kernel_rfl) [9, 10, 11, 12] _ _ (by kernel_rfl) ?_
         repeat' (first|refine aS rfl rfl ?_|refine ai rfl ?_|refine ae ?_)
         refine az (fuel := 3) (rs := [14]) (by kernel_rfl) (by kernel_rfl) rfl ?_
         rw [List.forall_mem_singleton]
         refine aB (fun g16 w16 hn16 => ⟨fun _ h => h.trans hn16.ex, ?_⟩)
         have hb16 : Blk w16 g16 33 (intL false none 0 0) := hn16.blk
         have lo16 : w13.heap.size ≤ g16 := Nat.le_trans hEx.size hn16.lo
         have ne56 : g15 ≠ g16 := (by have := hb15.lt; have := hn16.lo; omega)
         replace hEx := hEx.trans hn16.ex
         replace hb15 := hb15.ext hn16.ex
         replace eq := eq.ext hn16.ex
         refine ae ?_
        rotate_left 1
        focus
         refine aB (fun g16 w16 hn16 => ⟨fun _ h => h.trans hn16.ex, ?_⟩)
         have hb16 : Blk w16 g16 33 (intL false none 0 0) := hn16.blk
         have lo16 : w13.heap.size ≤ g16 := Nat.le_trans hEx.size hn16.lo
         have ne56 : g15 ≠ g16 := (by have := hb15.lt; have := hn16.lo; omega)
         replace hEx := hEx.trans hn16.ex
         replace hb15 := hb15.ext hn16.ex
         refine ae ?_
         refine az (fuel := 7) (rs := [8]) (by kernel_rfl) (by kernel_rfl) rfl ?_
         rw [List.forall_mem_singleton]
         refine av (bn (eij.ext hEx).k (eu13.ext hEx).k (by omega) (by omega)) rfl ?_
         rintro v w14 ⟨q, rm, rfl, hq, hrm, hE14⟩
         refine ⟨fun _ h => h.trans hE14, ?_⟩
         obtain ⟨xq, rfl⟩ := hq.ih
         obtain ⟨xr, rfl⟩ := hrm.ih
         have eq : Ent true K w14 xq.val (F j i / H i i) := Ent.of hq ((lF j i hjn hin).div _)
         replace hEx := hEx.trans hE14
         replace hb15 := hb15.ext hE14
         replace hb16 := hb16.ext hE14
         refine ae ?_
         refine bp (fuel := 3) (by kernel_rfl) (by kernel_rfl) [9, 10, 11, 12] _ _ (by kernel_rfl) ?_
         repeat' (first|refine aS rfl rfl ?_|refine ai rfl ?_|refine ae ?_)
        rotate_left 1
       rotate_left 2
       focus
        refine aB (fun g16 w16 hn16 => ⟨fun _ h => h.trans hn16.ex, ?_⟩)
        have hb16 : Blk w16 g16 33 (intL false none 0 0) := hn16.blk
        have lo16 : w13.heap.size ≤ g16 := Nat.le_trans hEx.size hn16.lo
        replace hEx := hEx.trans hn16.ex
        refine ae ?_
        refine az (fuel := 8) (rs := [8, 13]) (by kernel_rfl) (by kernel_rfl) rfl ?_
        simp only [List.forall_mem_cons, List.not_mem_nil, false_implies, implies_true, and_true]
        refine ⟨?_, ?_⟩
        focus
         refine av (bn (eij.ext hEx).k (eu13.ext hEx).k (by omega) (by omega)) rfl ?_
         rintro v w14 ⟨q, rm, rfl, hq, hrm, hE14⟩
         refine ⟨fun _ h => h.trans hE14, ?_⟩
         obtain ⟨xq, rfl⟩ := hq.ih
         obtain ⟨xr, rfl⟩ := hrm.ih
         have eq : Ent true K w14 xq.val (F j i / H i i) := Ent.of hq ((lF j i hjn hin).div _)
         replace hEx := hEx.trans hE14
         replace hb16 := hb16.ext hE14
         refine ae ?_
         refine bp (fuel := 4) (by kernel_rfl) (by kernel_rfl) [9, 10, 11, 12] _ _ (by kernel_rfl) ?_
         repeat' (first|refine aS rfl rfl ?_|refine ai rfl ?_|refine ae ?_)
         refine az (fuel := 3) (rs := [13]) (by kernel_rfl) (by kernel_rfl) rfl ?_
         rw [List.forall_mem_singleton]
         refine aB (fun g15 w15 hn15 => ⟨fun _ h => h.trans hn15.ex, ?_⟩)
         have hb15 : Blk w15 g15 33 (intL false none 0 0) := hn15.blk
         have lo15 : w13.heap.size ≤ g15 := Nat.le_trans hEx.size hn15.lo
         have ne56 : g15 ≠ g16 := (by have := hb16.lt; have := hn15.lo; omega)
         replace hEx := hEx.trans hn15.ex
         replace hb16 := hb16.ext hn15.ex
         replace eq := eq.ext hn15.ex
         refine ae ?_
        rotate_left 1
        focus
         refine aB (fun g15 w15 hn15 => ⟨fun _ h => h.trans hn15.ex, ?_⟩)
         have hb15 : Blk w15 g15 33 (intL false none 0 0) := hn15.blk
         have lo15 : w13.heap.size ≤ g15 := Nat.le_trans hEx.size hn15.lo
         have ne56 : g15 ≠ g16 := (by have := hb16.lt; have := hn15.lo; omega)
         replace hEx := hEx.trans hn15.ex
         replace hb16 := hb16.ext hn15.ex
         refine ae ?_
         refine az (fuel := 7) (rs := [8]) (by kernel_rfl) (by kernel_rfl) rfl ?_
         rw [List.forall_mem_singleton]
         refine av (bn (eij.ext hEx).k (eu13.ext hEx).k (by omega) (by omega)) rfl ?_
         rintro v w14 ⟨q, rm, rfl, hq, hrm, hE14⟩
         refine ⟨fun _ h => h.trans hE14, ?_⟩
         obtain ⟨xq, rfl⟩ := hq.ih
         obtain ⟨xr, rfl⟩ := hrm.ih
         have eq : Ent true K w14 xq.val (F j i / H i i) := Ent.of hq ((lF j i hjn hin).div _)
         replace hEx := hEx.trans hE14
         replace hb15 := hb15.ext hE14
         replace hb16 := hb16.ext hE14
         refine ae ?_
         refine bp (fuel := 3) (by kernel_rfl) (by kernel_rfl) [9, 10, 11, 12] _ _ (by kernel_rfl) ?_
         repeat' (first|refine aS rfl rfl ?_|refine ai rfl ?_|refine ae ?_)
        rotate_left 1
       rotate_left 2
       all_goals
        refine az (fuel := 2) (rs := [15]) (by kernel_rfl) (by kernel_rfl) rfl ?_
        rw [List.forall_mem_singleton]
        refine ax (n := 2) (vs := xq.cells) rfl rfl rfl rfl hb15 rfl (fun w17 hc17 hb17 => ⟨fun _ h => h.chg hc17 lo15, ?_⟩)
        replace hEx := hEx.chg hc17 lo15
        replace hb16 := hb16.chg hc17 (Ne.symm ne56)
        replace eq := eq.gbN hb15 (aI _ _ _ _) (bG hc17)
        refine ae ?_
        refine az (fuel := 1) (rs := [16]) (by kernel_rfl) (by kernel_rfl) rfl ?_
        rw [List.forall_mem_singleton]
        refine ax (n := 2) (vs := xr.cells) rfl rfl rfl rfl hb16 rfl (fun w18 hc18 hb18 => ⟨fun _ h => h.chg hc18 lo16, ?_⟩)
        replace hEx := hEx.chg hc18 lo16
        replace hb17 := hb17.chg hc18 ne56
        replace eq := eq.gbN hb16 (aI _ _ _ _) (bG hc18)
        refine ae ?_
        refine bp (fuel := 0) (by kernel_rfl) (by kernel_rfl) [17] _ _ (by kernel_rfl) ?_
        repeat' (first|refine ai rfl ?_|refine ae ?_)
        refine bw (by kernel_rfl) ?_
        refine aa ?_
        exact ⟨⟨(_, xq), ⟨hEx, lo15, hb17, eq⟩, rfl, trivial⟩, (by (repeat (first|exact aM _ _|refine aw rfl ?_|refine au rfl ?_|refine ak rfl ?_|refine ao rfl ?_)))⟩
      ·rintro ⟨g15, xq⟩ ξ6 w14 ⟨hE14, lo15, hb15, eq⟩
       simp only at lo15 hb15 eq
       show CW _ _ _ _ (over [(15, .pointer (some ⟨g15, 0, none⟩))] _) w14
       skip
       refine bi (late := [7, 10]) (plan := [(0, none), (1, none), (2, none), (3, none), (5, none), (6, none), (4, some true), (7, some false), (8, some true), (9, none), (10, some false)]) (fun w' => Ex w14 w') bB (by kernel_rfl) (Ex.refl w14).drew ?_
       repeat' (first|refine aN (g := g15) rfl (fun _ h => hb15.ext h) rfl ?_|refine ai rfl ?_)
       refine av (cG (z := 1) (by omega) (by omega) _) rfl ?_
       rintro v w15 ⟨hI15, hE15⟩
       refine ⟨fun _ h => h.trans hE15, ?_⟩
       obtain ⟨o1, rfl⟩ := hI15.ih
       have n1 : Ent true 1 w15 o1.val 1 := Ent.of hI15 (bM (by decide) (by omega))
       skip
       have hEd := (Ex.refl w14).drew.trans hE15
       refine av (dy (eq.ext hEd).k) rfl ?_
       rintro v w16 ⟨hI16, hE16⟩
       refine ⟨fun _ h => h.trans hE16, ?_⟩
       have nq : Ent true K w16 v (-(F j i / H i i)) := Ent.of hI16 eq.lb.neg
       have hE1416 := hEd.trans hE16
       have hT16 := hT13.ext (hE14.trans hE1416)
       have rj : RX true K2 w16 ⟨some ⟨gs2 j, 0, none⟩, n, cp2 j⟩ n (F j) := (hT16.mo.row j hjn).rx.congr fun r _ => by
        show _ = if j < j then _ else F2 j r
        rw [if_neg (Nat.lt_irrefl j), hF2' j (by omega)]
       have ri : RX true K2 w16 ⟨some ⟨gs2 i, 0, none⟩, n, cp2 i⟩ n (F2 i) := (hT16.mo.row i hin).rx.congr fun r _ => by
        show _ = if i < j then _ else F2 i r
        rw [if_neg (by omega)]
       have hlb : ∀ r, r < n → Lb K2 (1 * F j r + -(F j i / H i i) * F2 i r) := fun r hr => by
        rw [Int.one_mul]
        exact (((lF j r hjn hr).mono (show K ≤ 3 * K + 3 by omega)).add ((nq.lb.mul (lF2 r hr)).mono (show K + (2 * K + 1) ≤ 3 * K + 3 by omega))).mono (by omega)
       skip
       refine av (ed (n := n) (s := fun k => ⟨some ⟨gs2 k, 0, none⟩, n, cp2 k⟩) (K' := K2) hT16.mo.top.sl hjn hin (by omega) (by omega) rj ri (n1.ext hE16) nq (by omega) (by omega) hlb) rfl ?_
       rintro v w17 ⟨g3', rfl, hR17, hE17⟩
       refine ⟨fun _ h => h.trans hE17, ?_⟩
       have hT17 := hT16.ext hE17
       repeat' (first|refine aC (j := j) (a := some ⟨g, 0, none⟩) rfl rfl ⟨_, _, rfl⟩ (by omega) ?_)
       refine ci (j := j) (u := ⟨some ⟨g3', 0, none⟩, n, n⟩) rfl rfl hT17.mo.top (by omega) (fun w18 hc18 hb' => ⟨fun h => (nomatch h), ?_⟩)
       repeat' (first|refine ai rfl ?_|refine aa ?_|refine ah rfl ?_|refine ae ?_|refine aZ rfl rfl (by omega) (by omega) ?_|refine aK ?_)
       have s13 := hE13.size
       have s14 := hE14.size
       have s16 := hE1416.size
       have l11 := hb13.lt
       have l3' := hR17.low
       have hE1317 := hE14.trans (hE1416.trans hE17)
       refine ⟨⟨(j + 1, setF gs2 j g3', setF cp2 j n), ⟨hjl, (hE13.trans hE1317).chg hc18 hT13.mo.low, (hT17.row1 hjn hR17 hE17 hT16 (by omega) hc18 hb').congr fun k r hk hr => ?_, (hb13.ext hE1317).chg hc18 (by omega), (eu13.ext hE1317).gbN hT17.mo.top (bZ _ _) (bG hc18), fun k hk => ?_⟩, by simp only; omega, rfl, trivial⟩, (by (repeat (first|exact aE _ _ _|refine aw rfl ?_|refine au rfl ?_|refine ak rfl ?_|refine ao rfl ?_)))⟩
       ·simp only
        by_cases h : k = j
        ·subst h; rw [aJ, if_pos (by omega), hF2' k (by omega)]; grind
        ·rw [aO _ _ h]
         by_cases h' : k < j
         ·rw [if_pos h', if_pos (by omega)]
         ·rw [if_neg h', if_neg (by omega)]
       ·simp only
        by_cases h : k = j
        ·subst h; rw [aJ]; omega
        ·rw [aO _ _ h]; exact hg2 k hk
     ·have eji : i = j := by omega
      subst eji
      repeat' (first|refine bA rfl rfl (by omega) ?_|refine aN (g := gm) rfl hT13.blk rfl ?_|refine aN (g := g11) rfl hb13 rfl ?_|refine aa ?_|refine aj ?_|refine ah rfl ?_|refine ae ?_|refine ay rfl ?_|refine aV ?_|refine aL ?_|refine aW ?_)
      refine av (bn hT13.ent.k eu13.k (by omega) (by omega)) rfl ?_
      rintro v w14 ⟨q, rm, rfl, hq, hrm, hE14⟩
      refine ⟨fun _ _ => trivial, ?_⟩
      obtain ⟨xq, rfl⟩ := hq.ih
      have hHi := hH.pos i hin
      have htl : tl n H i / H i i = tl n H (i + 1) := by rw [ki H hin, Int.mul_ediv_cancel_left _ (by omega)]
      rw [htl] at hq
      have hT14 := hT13.ext hE14
      repeat' (first|refine aS rfl rfl ?_|refine ai rfl ?_)
      refine ax (n := 2) (vs := xq.cells) rfl rfl rfl rfl hT14.blk rfl (fun w15 hc15 hb15 => ⟨fun _ _ => trivial, ?_⟩)
      have hmi1 := hmp (i + 1) (by omega)
      have hlm1 : Lb K (tl n H (i + 1)) := by rw [← htl]; exact hT13.ent.lb.div _
      have hT15 := hT14.setm hc15 hb15 (Ent.of hq hlm1)
      have hE15 := (hE13.trans hE14).chg hc15 hT13.lom
      have hnx := hJ8.next (C' := fun r k => if k < i then F2 k r - F2 k i / H i i * F2 i r else F2 k r) hH hin (fun k h1 h2 => hz8 k h1 h2) hab (fun r _ => by rw [if_neg (Nat.lt_irrefl i), hF2]) (fun r k _ hk => by rw [if_pos hk, if_neg (Nat.lt_irrefl i), hF2' k (by omega)]) (fun r k _ h1 _ => by rw [if_neg (by omega), hF2' k (by omega)])
      have lF3 : ∀ k r, k < n → r < n → ¬ i + 1 ≤ r → Lb K (if k < i then F2 k r - F2 k i / H i i * F2 i r else F2 k r) := fun k r hk hr h => by
       by_cases hki : k < i
       ·rw [if_pos hki, hF2' k (by omega)]
        by_cases hri : r = i
        ·subst hri
         rw [hF2, if_pos rfl, Int.mul_comm, ← Int.emod_def]
         exact lH.mod _ (by omega)
        ·have := hJ8.top i (Nat.le_refl _) hin r (by omega)
         rw [hF2, if_neg hri, this, Int.mul_zero, Int.mul_zero, Int.sub_zero]; exact lF k r hk hr
       ·rw [if_neg hki]
        by_cases hki' : k = i
        ·subst hki'
         rw [hF2]
         by_cases hri : r = k
         ·rw [if_pos hri]; exact lH
         ·have := hJ8.top k (Nat.le_refl _) hin r (by omega)
          rw [if_neg hri, this, Int.mul_zero]; exact cc
        ·rw [hF2' k hki']; exact lF k r hk hr
      generalize hF3 : (fun k r => if k < i then F2 k r - F2 k i / H i i * F2 i r else F2 k r) = F3 at hT15
      replace hnx := hnx.congr (C' := fun r k => F3 k r) (by omega) (fun r k _ _ => by rw [← hF3])
      replace lF3 : ∀ k r, k < n → r < n → ¬ i + 1 ≤ r → Lb K (F3 k r) := fun k r hk hr h => by rw [← hF3]; exact lF3 k r hk hr h
      clear hF3 hT13 hT14 hb13 hb15 hc15 eu13 hE13
      repeat' (first|refine ai rfl ?_|refine aa ?_|refine aj ?_|refine ah rfl ?_|refine ae ?_|refine aA ?_)
      refine aY (ι := Nat) [18, 121, 122, 123, 124, 125, 126, 127, 128, 129, 130] (fun j => [(121, .int .i64 (j : Int))])
       (fun j w' => j ≤ n ∧ Ex w w' ∧ TS K2 K w' w.heap.size n g gm gs2 cp2 (fun k r => if k < j ∧ i + 1 ≤ r then F3 k r % tl n H (i + 1) else F3 k r) xq (tl n H (i + 1))) (fun j => n - j)
       0 ⟨rfl, trivial⟩ ⟨by omega, hE15, hT15.congr fun k r _ _ => if_neg (by omega)⟩ ?_
      clear hT15 hE15
      rintro j ξ6 w16 ⟨hj, hE16, hT16⟩
      show CW _ _ _ _ (over [(121, .int .i64 (j : Int))] _) w16
      rcases Nat.lt_or_ge j n with hjn | hjn
      ·repeat' (first|refine bC rfl rfl (by omega) ?_|refine aN (g := gm) rfl hT16.blk rfl ?_|refine ai rfl ?_|refine aa ?_|refine aj ?_|refine ah rfl ?_|refine ae ?_|refine aZ rfl rfl (by omega) (by omega) ?_|refine aD rfl ?_|refine aA ?_|refine aF ?_)
       refine av (fy (first := i + 1) hT16.mo.top.sl hjn (by omega) (by omega) (fun ad e => by cases e; exact Ne.symm (hT16.mo.off j hjn)) rfl (hT16.mo.row j hjn) hT16.ent (by omega) (by omega) (by omega) (by omega)) rfl ?_
       rintro v w17 ⟨hG17, hR17⟩
       refine ⟨fun _ _ => trivial, ?_⟩
       repeat' (first|refine ai rfl ?_|refine aa ?_|refine ah rfl ?_|refine ae ?_|refine aZ rfl rfl (by omega) (by omega) ?_|refine aK ?_)
       refine ⟨⟨j + 1, ⟨hjn, hE16.gb hG17 (fun k e => by cases e; exact (hT16.mo.row j hjn).low), (hT16.reduce hjn hG17 hR17).congr fun k r _ _ => ?_⟩, by omega, rfl, trivial⟩, (by (repeat (first|exact aE _ _ _|refine aw rfl ?_|refine au rfl ?_|refine ak rfl ?_|refine ao rfl ?_)))⟩
       by_cases e : k = j
       ·subst e; rw [aJ, if_neg (show ¬ (k < k ∧ i + 1 ≤ r) by omega)]
        by_cases h : i + 1 ≤ r
        ·rw [if_pos ⟨by omega, h⟩, if_pos h]
        ·rw [if_neg (by omega), if_neg h]
       ·rw [aO _ _ e]
        by_cases h : k < j ∧ i + 1 ≤ r
        ·rw [if_pos h, if_pos (by omega)]
        ·rw [if_neg h, if_neg (by omega)]
      ·have ejn : n = j := by omega
       subst ejn
       repeat' (first|refine bA rfl rfl (by omega) ?_|refine ai rfl ?_|refine aa ?_|refine aj ?_|refine ah rfl ?_|refine ae ?_|refine aZ rfl rfl (by omega) (by omega) ?_|refine ay rfl ?_|refine aV ?_|refine aL ?_|refine aW ?_|refine aK ?_)
       refine ⟨⟨(i + 1, gs2, cp2, fun k r => if i + 1 ≤ r then F3 k r % tl n H (i + 1) else F3 k r, xq), ⟨hin, hE16, (hT16.congr fun k r hk _ => ?_).sharp fun k r hk hr => ?_, ?_, fun k r hk h1 h2 => ?_⟩, by simp only; omega, rfl, trivial⟩, (by (repeat (first|exact aE _ _ _|refine aw rfl ?_|refine au rfl ?_|refine ak rfl ?_|refine ao rfl ?_)))⟩
       ·show (if i + 1 ≤ r then _ else F3 k r) = if k < n ∧ i + 1 ≤ r then _ else F3 k r
        by_cases h : i + 1 ≤ r
        ·rw [if_pos h, if_pos ⟨hk, h⟩]
        ·rw [if_neg h, if_neg (by omega)]
       ·simp only
        split
        ·exact hlm1.mod _ (by omega)
        ·exact lF3 k r hk hr (by assumption)
       ·have hr2 : TrJ n (i + 1) H (tl n H (i + 1)) (fun r k => if i + 1 ≤ r then F3 k r % tl n H (i + 1) else F3 k r) := hnx.reduce (C' := fun r k => if i + 1 ≤ r then F3 k r % tl n H (i + 1) else F3 k r) hH (by omega) (fun r k => -(F3 k r / tl n H (i + 1))) (fun r k hr _ => if_neg (by omega)) (fun r k hr _ _ => by rw [if_pos hr, Int.emod_def, Int.mul_neg]; omega)
        exact hr2
       ·simp only at h1 ⊢
        rw [if_pos h1]; exact Int.emod_nonneg _ (by omega)
  ·have ein : n = i := by omega
   subst ein
   repeat' (first|refine bA rfl rfl (by omega) ?_|refine eM rfl rfl (by omega) (by omega) (fun ga w8 hn8 => ⟨fun _ _ => trivial, ?_⟩)|refine ai rfl ?_|refine aa ?_|refine aj ?_|refine ah rfl ?_|refine ae ?_|refine bh rfl ?_|refine ay rfl ?_|refine aA ?_|refine aV ?_|refine aL ?_|refine aW ?_)
   have s7 := hE7.size
   have hfin : ∀ k r, k < n → r < n → F k r = H r k := fun k r hk hr => hJ7.final hH hr hk
   refine aY (ι := Nat × List Nat) [20, 136, 137, 138, 139, 140, 141, 142, 143] (fun t => [(136, .int .i64 (t.1 : Int))])
    (fun t w' => t.1 ≤ n ∧ Ex w7 w' ∧ Blk w' ga 3 (natsL t.2) ∧ t.2.length = n ∧ ∀ j, j < t.1 → t.2.getD j 0 = j) (fun t => n - t.1)
    (0, List.replicate n 0) ⟨rfl, trivial⟩ ⟨by simp only; omega, hn8.ex, hn8.blk, by simp, fun j hj => by simp only at hj; omega⟩ ?_
   rintro ⟨i, xs⟩ ξ3 w9 ⟨hi, hE9, hb9, hxl, hxs⟩
   simp only at hi hb9 hxl hxs
   show CW _ _ _ _ (over [(136, .int .i64 (i : Int))] _) w9
   rcases Nat.lt_or_ge i n with hin | hin
   ·repeat' (first|refine bC rfl rfl (by omega) ?_|refine aC (j := i) rfl rfl ⟨_, _, rfl⟩ (by omega) ?_|refine dC rfl rfl hb9 (by omega) (fun w10 hc10 hb10 => ⟨fun _ _ => trivial, ?_⟩)|refine ai rfl ?_|refine aa ?_|refine aj ?_|refine ah rfl ?_|refine ae ?_|refine aZ rfl rfl (by omega) (by omega) ?_|refine aD rfl ?_|refine aA ?_|refine aK ?_|refine aF ?_)
    refine ⟨⟨(i + 1, xs.set i i), ⟨hin, hE9.chg hc10 hn8.lo, hb10, by simp [hxl], fun j hj => ?_⟩, by simp only; omega, rfl, trivial⟩, (by (repeat (first|exact aE _ _ _|refine aw rfl ?_|refine au rfl ?_|refine ak rfl ?_|refine ao rfl ?_)))⟩
    simp only at hj ⊢
    by_cases h : j = i
    ·subst h; simp [List.getD_eq_getElem?_getD, hxl, hin]
    ·rw [ct (by omega)]; exact hxs j (by omega)
   ·have ein : n = i := by omega
    subst ein
    repeat' (first|refine bA rfl rfl (by omega) ?_|refine ai rfl ?_|refine aa ?_|refine aj ?_|refine ah rfl ?_|refine ae ?_|refine ay rfl ?_|refine aV ?_|refine aL ?_|refine aW ?_)
    have hT9 := hT7.ext hE9
    refine av (gc hxl hT9.mo.top.sl (fun j hj => (hT9.mo.row j hj).rx) hb9.sl hn.1 hn.2 (by omega) (fun i hi => by rw [hxs i hi]; exact hi)) rfl ?_
    rintro v w10 ⟨g', gs', cp', rfl, hO10, hE10⟩
    refine ⟨fun _ _ => trivial, ?_⟩
    repeat' (first|refine ai rfl ?_|refine aa ?_|refine ae ?_|refine aR ?_)
    refine bK rfl (rt rfl) ⟨H, hH, g', gs', cp', rfl, (hO10.mono (by have := hE9.size; omega)).congr fun i j hi hj => ?_, (hE7.trans hE9).trans hE10⟩
    rw [hxs i hi, hfin j i hj hi]
end Go.Proofs.YtppipmkpmmdcjaaGreat
