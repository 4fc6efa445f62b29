/- The extended Euclidean algorithm: its numbers stay small. -/
import Derived.Test.YtppipmkpmmdcjaaA10
import Derived.Test.YtppipmkpmmdcjaaA11
namespace Go.LA
structure BzJ (x0 y0 x y a b na nb : Int) : Prop where
 hx : 0 ≤ x
 hy : 0 ≤ y
 ea : a * x0 + b * y0 = x
 en : na * x0 + nb * y0 = y
 pa : (a.natAbs : Int) * y + (na.natAbs : Int) * x = y0
 pb : (b.natAbs : Int) * y + (nb.natAbs : Int) * x = x0
 sa : a * na ≤ 0
 sb : b * nb ≤ 0
 la : (a.natAbs : Int) ≤ y0 + 1 ∧ (na.natAbs : Int) ≤ y0 + 1
 lb : (b.natAbs : Int) ≤ x0 + 1 ∧ (nb.natAbs : Int) ≤ x0 + 1
 dv : ∀ d, (d ∣ x ∧ d ∣ y) ↔ (d ∣ x0 ∧ d ∣ y0)
theorem pD {x0 y0 : Int} (hx : 0 ≤ x0) (hy : 0 ≤ y0) : BzJ x0 y0 x0 y0 1 0 0 1 := by
 refine ⟨hx, hy, by omega, by omega, ?_, ?_, by omega, by omega, ⟨?_, ?_⟩, ⟨?_, ?_⟩, fun d => Iff.rfl⟩ <;> simp <;> omega
theorem jF {a n q : Int} (hs : a * n ≤ 0) (hq : 0 ≤ q) : ((a - q * n).natAbs : Int) = (a.natAbs : Int) + q * (n.natAbs : Int) ∧ n * (a - q * n) ≤ 0 := by
 rcases Int.lt_trichotomy n 0 with h | h | h
 ·have ha : 0 ≤ a := by
   refine Classical.byContradiction fun hc => ?_
   have : 0 < a * n := Int.mul_pos_of_neg_of_neg (by omega) h
   omega
  have hqn : 0 ≤ q * (-n) := Int.mul_nonneg hq (by omega)
  have e1 : q * (-n) = -(q * n) := by grind
  have e2 : (n.natAbs : Int) = -n := by omega
  have h1 : 0 ≤ a - q * n := by omega
  refine ⟨by rw [e2, e1]; omega, ?_⟩
  have := Int.mul_nonneg (a := -n) (b := a - q * n) (by omega) h1
  have e3 : -n * (a - q * n) = -(n * (a - q * n)) := by grind
  omega
 ·subst h
  simp
 ·have ha : a ≤ 0 := by
   refine Classical.byContradiction fun hc => ?_
   have : 0 < a * n := Int.mul_pos (by omega) h
   omega
  have hqn : 0 ≤ q * n := Int.mul_nonneg hq (by omega)
  have e2 : (n.natAbs : Int) = n := by omega
  have h1 : a - q * n ≤ 0 := by omega
  refine ⟨by rw [e2]; omega, ?_⟩
  have := Int.mul_nonneg (a := n) (b := -(a - q * n)) (by omega) (by omega)
  have e3 : n * -(a - q * n) = -(n * (a - q * n)) := by grind
  omega
theorem BzJ.step {x0 y0 x y a b na nb : Int} (h : BzJ x0 y0 x y a b na nb) (_hx0 : 0 ≤ x0) (_hy0 : 0 ≤ y0) (hne : y ≠ 0) : BzJ x0 y0 y (x % y) na nb (a - x / y * na) (b - x / y * nb) := by
 have hy := h.hy
 have hx := h.hx
 have hq : 0 ≤ x / y := Int.ediv_nonneg hx hy
 have hr : 0 ≤ x % y := Int.emod_nonneg _ hne
 have hdm := Int.emod_add_mul_ediv x y
 obtain ⟨a1, a2⟩ := jF h.sa hq
 obtain ⟨b1, b2⟩ := jF h.sb hq
 have pa := h.pa
 have pb := h.pb
 generalize x / y = q at *
 generalize x % y = r at *
 have pa' : (na.natAbs : Int) * r + ((a - q * na).natAbs : Int) * y = y0 := by rw [a1, ← pa, ← hdm]; grind
 have pb' : (nb.natAbs : Int) * r + ((b - q * nb).natAbs : Int) * y = x0 := by rw [b1, ← pb, ← hdm]; grind
 have le1 : ∀ u v z : Int, 0 ≤ u → 0 ≤ v → u * r + v * y = z → v ≤ z := fun u v z hu hv e => by
  have h1 : 0 ≤ u * r := Int.mul_nonneg hu hr
  have h2 : v * 1 ≤ v * y := Int.mul_le_mul_of_nonneg_left (by omega) hv
  omega
 refine ⟨hy, hr, h.en, ?_, pa', pb', a2, b2, ⟨h.la.2, ?_⟩, ⟨h.lb.2, ?_⟩, fun d => ?_⟩
 ·have e1 := h.ea
  have e2 := h.en
  rw [← hdm] at e1
  grind
 ·have := le1 _ _ _ (by omega) (by omega) pa'; omega
 ·have := le1 _ _ _ (by omega) (by omega) pb'; omega
 ·rw [← h.dv d]
  constructor
  ·rintro ⟨h1, h2⟩
   refine ⟨?_, h1⟩
   rw [← hdm]
   exact Int.dvd_add h2 (Int.dvd_mul_of_dvd_left h1)
  ·rintro ⟨h1, h2⟩
   refine ⟨h2, ?_⟩
   have e : r = x - y * q := by omega
   rw [e]
   exact Int.dvd_sub h1 (Int.dvd_mul_of_dvd_left h2)
theorem BzJ.done {x0 y0 x a b na nb : Int} (h : BzJ x0 y0 x 0 a b na nb) : a * x0 + b * y0 = x ∧ x ∣ x0 ∧ x ∣ y0 ∧ (x = 0 → x0 = 0 ∧ y0 = 0) := by
 have hd := (h.dv x).1 ⟨Int.dvd_refl _, Int.dvd_zero _⟩
 refine ⟨h.ea, hd.1, hd.2, fun e => ?_⟩
 subst e
 have pa := h.pa
 have pb := h.pb
 rw [Int.mul_zero, Int.mul_zero] at pa pb
 omega
end Go.LA
namespace Go.Proofs.Ytppipmkpmmdcjaa
open Go.W Go.LM Go.LA
theorem jG {cn : Bool} {K n cap : Nat} {w : World} {a : Option Addr} {s : Nat → SD} {A : Mat} (hM : MX cn K w a n n s A) (hn : 1 ≤ n ∧ n ≤ 16) (hK : 17 * K + 70 ≤ 4398046511104) :
  CallsR Try.prog 48 #[.slice a n cap] w fun v w' => ∃ u, v = .tuple #[u, .bool true] ∧ RetMO (16 * K + 64) w n n (fun i j => Go.LA.sgn (n + 1) * flP n A (n - 1) i j) u w' := by
 refine aJ (args := [_]) Try.func48 rfl rfl ?_
 repeat' (first|refine ai rfl ?_|refine aa ?_|refine ao ?_|refine ah rfl ?_|refine ae ?_)
 refine ax (dm hM.top) rfl ?_
 rintro v w2 ⟨rfl, hE2⟩
 refine ⟨fun _ _ => trivial, ?_⟩
 rw [dY hM hn hn]
 repeat' (first|refine gN rfl rfl rfl ?_|refine ai rfl ?_|refine aa ?_|refine ao ?_|refine ah rfl ?_|refine ae ?_|refine bB rfl rfl ?_|refine aA rfl ?_|refine aI ?_)
 refine ax (jS (hM.ext hE2) hn hK) rfl ?_
 rintro v w3 ⟨g, gs, cp, rfl, hO, hE3⟩
 refine ⟨fun _ _ => trivial, ?_⟩
 repeat' (first|refine ai rfl ?_|refine aa ?_|refine ae ?_|refine aT ?_)
 exact fv rfl (rt rfl) (rt rfl) ⟨_, rfl, g, gs, cp, rfl, hO.mono hE2.size, hE2.trans hE3⟩
end Go.Proofs.Ytppipmkpmmdcjaa
namespace Go.Proofs.Ytppipmkpmmdcjaa
open Go.W Go.LM Go.LA
theorem RO.fill {cn : Bool} {K n j g : Nat} {w w' : World} {hh : Nat → IH} {u : IH} {f : Nat → Int} (he : ∀ i, i < j → Ent cn K w (hh i).val (f i)) (hb : Blk w g 27 (rowC n hh)) (hu : Ent cn K w u.val (f j)) (hg : Chg g w w') :
  ∀ i, i < j + 1 → Ent cn K w' (setF hh j u i).val (f i) := fun i hi => by
 by_cases h : i = j
 ·subst h; rw [aK]; exact hu.gbN hb (bx _ _) (bc hg)
 ·rw [aN _ _ h]; exact (he i (by omega)).gbN hb (bx _ _) (bc hg)
theorem mM {α : Type} (x : α) (j : Nat) : setF (fun _ => x) j x = fun _ => x := by funext k; simp [setF]
set_option maxHeartbeats 1000000 in
theorem fO {cn : Bool} {K r c cap : Nat} {w : World} {a : Option Addr} {s : Nat → SD} {F : Nat → Nat → Int} (hM : MX cn K w a r c s F) (hr : 1 ≤ r ∧ r ≤ 16) (hc : 1 ≤ c ∧ c ≤ 16) :
  CallsR Try.prog 46 #[.slice a r cap] w fun v w' => ∃ (g : Nat) (gs : Nat → Nat), v = .slice (some ⟨g, 0, none⟩) c c ∧ MO cn K w' w.heap.size g c r gs (fun _ => r) (fun j i => F i j) ∧ Ex w w' := by
 refine aJ (args := [_]) Try.func46 rfl rfl ?_
 have hpa := hM.plain (by omega)
 obtain ⟨p0, d0, hh0, e0, _, _, _, _⟩ := hM.get (i := 0) (by omega) (by omega)
 repeat' (first|refine aB (j := 0) (a := a) rfl rfl hpa (by omega) ?_|refine aS (j := 0) (a := a) rfl hM.top (by omega) e0 ?_|refine ep (n := c) rfl rfl (by omega) (by omega) (fun g w1 hn1 => ⟨fun _ _ => trivial, ?_⟩)|refine ai rfl ?_|refine aa ?_|refine ao ?_|refine ah rfl ?_|refine ae ?_|refine bn rfl ?_|refine aC ?_)
 refine bh (ι := Nat × (Nat → Nat)) [4, 5, 6, 14, 15, 16, 17, 18, 19, 20, 21, 22, 23, 24, 25, 26, 27, 28, 29, 30, 31, 32, 33, 34, 35, 36, 37, 38, 39, 40, 41] (fun t => [(14, .int .i64 (t.1 : Int))])
  (fun t w' => t.1 ≤ c ∧ Ex w w' ∧ MP cn K w' w.heap.size g c r t.1 t.2 (fun _ => r) (fun j i => F i j)) (fun t => c - t.1)
  (0, fun _ => 0) ⟨rfl, trivial⟩ ⟨by omega, hn1.ex, MP.start hn1.blk hn1.lo⟩ ?_
 rintro ⟨j, gs⟩ ξ w2 ⟨hj, hE2, hP2⟩
 simp only at hj hP2
 show CW _ _ _ _ (over [(14, .int .i64 (j : Int))] _) w2
 rcases Nat.lt_or_ge j c with hjc | hjc
 ·repeat' (first|refine bA rfl rfl (by omega) ?_|refine dS (n := r) rfl rfl (by omega) (by omega) (fun g3 w3 hn3 => ⟨fun _ _ => trivial, ?_⟩)|refine aB (j := j) (a := some ⟨g, 0, none⟩) rfl rfl ⟨_, _, rfl⟩ (by omega) ?_|refine ai rfl ?_|refine aa ?_|refine ao ?_|refine ah rfl ?_|refine ae ?_|refine bn rfl ?_|refine aE rfl ?_|refine aC ?_|refine aI ?_)
  refine bY (j := j) (u := ⟨some ⟨g3, 0, none⟩, r, r⟩) rfl rfl (hP2.top.ext hn3.ex) (by omega) (fun w4 hc4 hT4 => ⟨fun _ _ => trivial, ?_⟩)
  have s2 := hE2.size
  have lo3 := hn3.lo
  have low := hP2.low
  obtain ⟨hb4, hne3, hT4', hnext⟩ := hP2.snoc hn3 hc4 hT4 (by omega)
  have hE4 := (hE2.trans hn3.ex).chg hc4 low
  have l34 := hb4.lt
  repeat' (first|refine ai rfl ?_|refine aa ?_|refine ao ?_|refine ah rfl ?_|refine ae ?_|refine bn rfl ?_|refine aC ?_)
  refine bh (ι := Nat × (Nat → IH)) [5, 6, 25, 26, 27, 28, 29, 30, 31, 32, 33, 34, 35, 36, 37, 38, 39, 40] (fun t => [(25, .int .i64 (t.1 : Int))])
   (fun t w' => (t.1 ≤ r ∧ w4.grownBy w' (some g3)) ∧ Blk w' g3 27 (rowC r t.2) ∧ ∀ i, i < t.1 → Ent cn K w' (t.2 i).val (F i j)) (fun t => r - t.1)
   (0, fun _ => ih0) ⟨rfl, trivial⟩ ⟨⟨by omega, bc (Chg.refl _ _)⟩, hb4, fun i hi => by simp only at hi; omega⟩ ?_
  rintro ⟨i, h⟩ ξ2 w5 ⟨⟨hi, hG5⟩, hb5, hEn5⟩
  simp only at hi hb5 hEn5
  show CW _ _ _ _ (over [(25, .int .i64 (i : Int))] _) w5
  have hE5 : Ex w w5 := hE4.gb hG5 (fun k e => by cases e; omega)
  obtain ⟨hT5, hfin⟩ := hnext w5 hG5
  rcases Nat.lt_or_ge i r with hir | hir
  ·obtain ⟨p, d, hh, e1, e2, hp, hS, hEn⟩ := (hM.ext hE5).get hir (by omega)
   repeat' (first|refine bA rfl rfl (by omega) ?_|refine aa ?_|refine ao ?_|refine ah rfl ?_|refine ae ?_|refine aE rfl ?_|refine aI ?_)
   refine aC ?_
   repeat' (first|refine aB (j := i) (a := a) rfl rfl hpa (by omega) ?_|refine aS (j := i) (a := a) rfl (hM.ext hE5).top (by omega) e1 ?_|refine ai rfl ?_|refine aa ?_|refine ao ?_|refine ah rfl ?_|refine ae ?_)
   refine aZ (late := [10]) (plan := [(0, none), (1, none), (2, none), (3, none), (4, none), (5, none), (6, none), (7, none), (8, none), (9, none), (10, some false)]) (fun w' => Ex w5 w') bt (by kernel_rfl) (Ex.refl w5).drew ?_
   repeat' (first|refine aB (j := j) (a := some ⟨g, 0, none⟩) rfl rfl ⟨_, _, rfl⟩ (by omega) ?_|refine aS (j := j) (a1 := some ⟨g3, 0, none⟩) (l1 := r) (c1 := r) rfl (fun _ h => (hT5.ext h).sl) (by omega) (by simp [setF]) ?_|refine aU (j := j) (a := p) rfl rfl hp (by omega) ?_|refine bp (j := j) (a := p) rfl (fun _ h => hS.ext h) hp (by omega) ?_|refine aU (j := i) (a := some ⟨g3, 0, none⟩) rfl rfl ⟨_, _, rfl⟩ (by omega) ?_|refine ai rfl ?_)
   refine bP (j := i) (u := hh j) rfl rfl hb5.drew (by omega) (fun w6 hc6 hb6 => ⟨fun h => (nomatch h), ?_⟩)
   repeat' (first|refine ai rfl ?_|refine aa ?_|refine ah rfl ?_|refine ae ?_|refine bi rfl rfl (by omega) (by omega) ?_|refine aM ?_)
   exact ⟨⟨(i + 1, setF h i (hh j)), ⟨⟨hir, bC (pX hG5) (bc hc6) (fun k e => .inl e)⟩, hb6, RO.fill (f := fun i => F i j) (fun k hk => (hEn5 k hk).ext (Ex.refl w5).drew) hb5.drew ((hEn j hjc).ext (Ex.refl w5).drew) hc6⟩, by simp only; omega, rfl, trivial⟩, (by (repeat (first|exact aF _ _ _|refine ay rfl ?_|refine av rfl ?_|refine aj rfl ?_|refine ak rfl ?_)))⟩
  ·have eir : r = i := by omega
   repeat' (first|refine bz rfl rfl (by omega) ?_|refine ai rfl ?_|refine aa ?_|refine ao ?_|refine ah rfl ?_|refine ae ?_|refine bi rfl rfl (by omega) (by omega) ?_|refine aA rfl ?_|refine aW ?_|refine aO ?_|refine aX ?_|refine aM ?_)
   have hf := hfin ⟨by omega, Nat.le_refl _, h, hb5, fun k hk => hEn5 k (by omega)⟩
   rw [mM] at hf
   refine ⟨⟨(j + 1, setF gs j g3), ⟨hjc, hE5, hf⟩, by simp only; omega, rfl, trivial⟩, (by (repeat (first|exact aF _ _ _|refine ay rfl ?_|refine av rfl ?_|refine aj rfl ?_|refine ak rfl ?_)))⟩
 ·have ejc : c = j := by omega
  subst ejc
  repeat' (first|refine bz rfl rfl (by omega) ?_|refine ai rfl ?_|refine aa ?_|refine ao ?_|refine ah rfl ?_|refine ae ?_|refine aA rfl ?_|refine aW ?_|refine aO ?_|refine aX ?_|refine aT ?_)
  exact bF rfl (rt rfl) ⟨g, gs, rfl, hP2.fin, hE2⟩
end Go.Proofs.Ytppipmkpmmdcjaa
namespace Go.Proofs.Ytppipmkpmmdcjaa
open Go.W Go.LM Go.LA
theorem od {n i j : Nat} {s : Nat → SD} : topC n (setF (setF s i (s j)) j (s i)) = topC n (fun k => s (swp2 i j k)) := cg fun k _ => by
 unfold swp2 setF
 by_cases a : k = j
 ·subst a; by_cases b : k = i
  ·subst b; simp
  ·simp [b]
 ·by_cases b : k = i
  ·subst b; simp [a]
  ·simp [a, b]
theorem jT {n i j g cap : Nat} {w : World} {s : Nat → SD} (hT : Blk w g 29 (topC n s)) (hi : i < n) (hj : j < n) :
  CallsR Try.prog 61 #[.slice (some ⟨g, 0, none⟩) n cap, .int .i64 i, .int .i64 j] w fun _ w' => Chg g w w' ∧ Blk w' g 29 (topC n fun k => s (swp2 i j k)) := by
 refine aJ (args := [_, _, _]) Try.func61 rfl rfl ?_
 skip
 refine aZ (late := [13, 15]) (plan := [(0, none), (1, none), (2, none), (3, none), (4, none), (5, none), (6, none), (7, none), (8, none), (9, none), (10, none), (11, none), (12, none), (13, some false), (14, none), (15, some false)]) (fun w' => Ex w w') bt (by kernel_rfl) (Ex.refl w).drew ?_
 repeat' (first|refine aB (j := i) (a := some ⟨g, 0, none⟩) rfl rfl ⟨_, _, rfl⟩ (by omega) ?_|refine aB (j := j) (a := some ⟨g, 0, none⟩) rfl rfl ⟨_, _, rfl⟩ (by omega) ?_|refine dG (j := j) (a := some ⟨g, 0, none⟩) (n := n) (s := s) rfl (fun _ h => (hT.ext h).sl) (by omega) ?_|refine dG (j := i) (a := some ⟨g, 0, none⟩) (n := n) (s := s) rfl (fun _ h => (hT.ext h).sl) (by omega) ?_|refine ai rfl ?_)
 refine bY (j := i) (u := s j) rfl rfl hT.drew (by omega) (fun w1 hc1 hT1 => ⟨fun h => (nomatch h), ?_⟩)
 repeat' (first|refine aB (j := j) (a := some ⟨g, 0, none⟩) rfl rfl ⟨_, _, rfl⟩ (by omega) ?_)
 refine bY (j := j) (u := s i) rfl rfl hT1 (by omega) (fun w2 hc2 hT2 => ⟨fun h => (nomatch h), ?_⟩)
 repeat' (first|refine ae ?_)
 rw [od] at hT2
 have hc0 : Chg g w w.drew := (Chg.refl g w).drew
 exact im rfl ⟨(hc0.trans hc1).trans hc2, hT2⟩
theorem RX.get {cn : Bool} {K n : Nat} {w : World} {s : SD} {f : Nat → Int} (h : RX cn K w s n f) (hn : 0 < n) :
  ∃ (p : Option Addr) (d : Nat) (hh : Nat → IH), s = ⟨p, n, d⟩ ∧ n ≤ d ∧ W.plain p ∧ Sl w p (rowC n hh) ∧ ∀ j, j < n → Ent cn K w (hh j).val (f j) := by
 obtain ⟨hh, h1, h2⟩ := h.ex
 have hl := h.len
 have hc' := h.cap
 have hp := h.plain hn
 refine ⟨s.a, s.cap, hh, ?_, hc', hp, h1, h2⟩
 cases s with
 | mk a l c' => simp only at hl; rw [hl]
set_option maxHeartbeats 1000000 in
theorem dz {c1 c2 c3 c4 : Bool} {K1 K2 K3 K4 n R i j tc : Nat} {w : World} {at' : Option Addr} {s : Nat → SD} {va vb : Value} {x y : Int} {f1 f2 : Nat → Int} (hT : Sl w at' (topC n s)) (hi : i < n) (hj : j < n) (hR0 : 1 ≤ R) (hR : R ≤ 32)
  (hX1 : RX c1 K1 w (s i) R f1) (hX2 : RX c2 K2 w (s j) R f2) (ha : Ent c3 K3 w va x) (hb : Ent c4 K4 w vb y) (hK1 : K1 + K3 < 17592186044416) (hK2 : K2 + K4 < 17592186044416) {K' : Nat} (hlb : ∀ r, r < R → Lb K' (x * f1 r + y * f2 r)) :
  CallsR Try.prog 68 #[.slice at' n tc, .int .i64 i, va, .int .i64 j, vb] w fun v w' => ∃ g3, v = .slice (some ⟨g3, 0, none⟩) R R ∧ RO true K' w' w.heap.size g3 R R (fun r => x * f1 r + y * f2 r) ∧ Ex w w' := by
 obtain ⟨xa, rfl⟩ := ha.ih
 obtain ⟨xb, rfl⟩ := hb.ih
 obtain ⟨p1, d1, hh1, e1, _, hp1, hS1, hEn1⟩ := hX1.get (by omega)
 obtain ⟨p2, d2, hh2, e2, _, hp2, hS2, hEn2⟩ := hX2.get (by omega)
 have hpt := hT.plain (by rw [bJ]; omega)
 refine aJ (args := [_, _, _, _, _]) Try.func68 rfl rfl ?_
 refine ao ?_
 refine ah rfl ?_
 refine bM (vs := xa.cells) rfl (fun g1 w1 hn1 => ⟨fun _ _ => trivial, ?_⟩)
 refine bM (vs := xb.cells) rfl (fun g2 w2 hn2 => ⟨fun _ _ => trivial, ?_⟩)
 have hb1 := hn1.blk.ext hn2.ex
 have hb2 := hn2.blk
 have hE2 := hn1.ex.trans hn2.ex
 repeat' (first|refine aB (j := i) (a := at') rfl rfl hpt (by omega) ?_|refine aS (j := i) (a := at') rfl (hT.ext hE2) (by omega) e1 ?_|refine dS (n := R) rfl rfl (by omega) (by omega) (fun g3 w3 hn3 => ⟨fun _ _ => trivial, ?_⟩)|refine ai rfl ?_|refine aa ?_|refine ao ?_|refine ah rfl ?_|refine ae ?_|refine bn rfl ?_|refine aC ?_)
 have hE3 := hE2.trans hn3.ex
 have lo3 := hn3.lo
 have s2 := hE2.size
 refine bh (ι := Nat × (Nat → IH)) [12, 21, 22, 23, 24, 25, 26, 27, 28, 29, 30, 31, 32, 33, 34, 35, 36, 37, 38, 39, 40, 41, 42, 43, 44, 45, 46] (fun t => [(21, .int .i64 (t.1 : Int))])
  (fun t w' => (t.1 ≤ R ∧ w3.grownBy w' (some g3)) ∧ Blk w' g3 27 (rowC R t.2) ∧ ∀ r, r < t.1 → Ent true K' w' (t.2 r).val (x * f1 r + y * f2 r)) (fun t => R - t.1)
  (0, fun _ => ih0) ⟨rfl, trivial⟩ ⟨⟨by omega, bc (Chg.refl _ _)⟩, hn3.blk, fun i hi => by simp only at hi; omega⟩ ?_
 rintro ⟨r, h⟩ ξ w4 ⟨⟨hr, hG4⟩, hb4, hEn4⟩
 simp only at hr hb4 hEn4
 show CW _ _ _ _ (over [(21, .int .i64 (r : Int))] _) w4
 have hE24 : Ex w2 w4 := hn3.ex.gb hG4 (fun k e => by cases e; omega)
 have hE4 : Ex w w4 := hE2.trans hE24
 rcases Nat.lt_or_ge r R with hrR | hrR
 ·repeat' (first|refine bA rfl rfl (by omega) ?_|refine aa ?_|refine ao ?_|refine ah rfl ?_|refine ae ?_|refine aE rfl ?_|refine aI ?_)
  refine aC ?_
  repeat' (first|refine ai rfl ?_|refine aa ?_|refine ao ?_|refine ah rfl ?_|refine ae ?_)
  refine aZ (late := [22]) (plan := [(0, none), (1, none), (2, none), (3, none), (4, none), (5, none), (6, none), (7, none), (8, none), (9, none), (11, none), (12, none), (13, none), (14, none), (15, none), (16, none), (17, none), (18, none), (10, some true), (19, some true), (20, some true), (21, none), (22, some false)]) (fun w' => Ex w4 w') bt (by kernel_rfl) (Ex.refl w4).drew ?_
  repeat' (first|refine aP (g := g1) rfl (fun _ h => (hb1.ext hE24).ext h) rfl ?_|refine aP (g := g2) rfl (fun _ h => (hb2.ext hE24).ext h) rfl ?_|refine aB (j := i) (a := at') rfl rfl hpt (by omega) ?_|refine aB (j := j) (a := at') rfl rfl hpt (by omega) ?_|refine aS (j := i) (a := at') rfl (fun _ h => hT.ext (hE4.trans h)) (by omega) e1 ?_|refine aS (j := j) (a := at') rfl (fun _ h => hT.ext (hE4.trans h)) (by omega) e2 ?_|refine aU (j := r) (a := p1) rfl rfl hp1 (by omega) ?_|refine aU (j := r) (a := p2) rfl rfl hp2 (by omega) ?_|refine bp (j := r) (a := p1) rfl (fun _ h => hS1.ext (hE4.trans h)) hp1 (by omega) ?_|refine bp (j := r) (a := p2) rfl (fun _ h => hS2.ext (hE4.trans h)) hp2 (by omega) ?_|refine ai rfl ?_)
  have hE4d := hE4.drew
  refine ax (ci (ha.ext hE4d).k ((hEn1 r hrR).ext hE4d).k (by omega)) rfl ?_
  rintro v w5 ⟨hI5, hE5⟩
  refine ⟨fun _ h => h.trans hE5, ?_⟩
  refine ax (ci (hb.ext (hE4d.trans hE5)).k ((hEn2 r hrR).ext (hE4d.trans hE5)).k (by omega)) rfl ?_
  rintro v w6 ⟨hI6, hE6⟩
  refine ⟨fun _ h => h.trans hE6, ?_⟩
  refine ax (dF ((hI5.ext hE6).k (ha.lb.mul (hEn1 r hrR).lb)) (hI6.k (hb.lb.mul (hEn2 r hrR).lb)) (by omega) (by omega)) rfl ?_
  rintro v w7 ⟨hI7, hE7⟩
  refine ⟨fun _ h => h.trans hE7, ?_⟩
  obtain ⟨u, rfl⟩ := hI7.ih
  have hE47 : Ex w4 w7 := (((Ex.refl w4).drew.trans hE5).trans hE6).trans hE7
  repeat' (first|refine aU (j := r) (a := some ⟨g3, 0, none⟩) rfl rfl ⟨_, _, rfl⟩ (by omega) ?_)
  refine bP (j := r) (u := u) rfl rfl (hb4.ext hE47) (by omega) (fun w8 hc8 hb8 => ⟨fun h => (nomatch h), ?_⟩)
  repeat' (first|refine ai rfl ?_|refine aa ?_|refine ah rfl ?_|refine ae ?_|refine bi rfl rfl (by omega) (by omega) ?_|refine aM ?_)
  exact ⟨⟨(r + 1, setF h r u), ⟨⟨hrR, bC (bC hG4 (jO hE47) (fun k e => (nomatch e))) (bc hc8) (fun k e => .inl e)⟩, hb8, RO.fill (f := fun r => x * f1 r + y * f2 r) (fun k hk => (hEn4 k hk).ext hE47) (hb4.ext hE47) (Ent.of hI7 (hlb r hrR)) hc8⟩, by simp only; omega, rfl, trivial⟩, (by (repeat (first|exact aF _ _ _|refine ay rfl ?_|refine av rfl ?_|refine aj rfl ?_|refine ak rfl ?_)))⟩
 ·have erR : R = r := by omega
  subst erR
  repeat' (first|refine bz rfl rfl (by omega) ?_|refine ai rfl ?_|refine aa ?_|refine ao ?_|refine ah rfl ?_|refine ae ?_|refine aA rfl ?_|refine aW ?_|refine aO ?_|refine aX ?_|refine aT ?_)
  exact bF rfl (rt rfl) ⟨g3, rfl, ⟨by have := hn1.ex.size; omega, Nat.le_refl _, h, hb4, hEn4⟩, hE4⟩
end Go.Proofs.Ytppipmkpmmdcjaa
namespace Go.Proofs.Ytppipmkpmmdcjaa
open Go.W Go.LM Go.LA
theorem qJ {w w' : World} {r : Option Nat} (h : Ex w w') : w.grownBy w' r := ⟨(jO h).os, (jO h).tape, (jO h).output, (jO h).size, fun k hk _ => (jO h).block k hk (by simp)⟩
set_option maxHeartbeats 1000000 in
theorem jH {c1 c2 c4 : Bool} {K K4 n R i j row g tc : Nat} {w : World} {s : Nat → SD} {vd : Value} {d : Int} {fi fj : Nat → Int} (hT : Blk w g 29 (topC n s)) (hi : i < n) (hj : j < n) (hR0 : 1 ≤ R) (hR : R ≤ 32) (hrow : row < R)
  (hXj : RX c1 K w (s j) R fj) (hXi : RX c2 K w (s i) R fi) (hd : Ent c4 K4 w vd d) (_hd0 : d ≠ 0) (hK : K + K + 1 < 17592186044415) (hK4 : K4 < 17592186044415) {K' : Nat} (hlb : ∀ r, r < R → Lb K' ((fi row * fj r + (- fj row) * fi r) / d)) :
  CallsR Try.prog 62 #[.slice (some ⟨g, 0, none⟩) n tc, .int .i64 j, .int .i64 i, .int .i64 row, vd] w fun _ w' => ∃ g3, w.heap.size ≤ g3 ∧ w.grownBy w' (some g) ∧ Blk w' g 29 (topC n (setF s j ⟨some ⟨g3, 0, none⟩, R, R⟩)) ∧ RO true K' w' w.heap.size g3 R R (fun r => (fi row * fj r + (- fj row) * fi r) / d) := by
 obtain ⟨xd, rfl⟩ := hd.ih
 obtain ⟨pi', di, hhi, ei, _, hpi, hSi, hEi⟩ := hXi.get (by omega)
 obtain ⟨pj, dj, hhj, ej, _, hpj, hSj, hEj⟩ := hXj.get (by omega)
 refine aJ (args := [_, _, _, _, _]) Try.func62 rfl rfl ?_
 refine ao ?_
 refine ah rfl ?_
 refine bM (vs := xd.cells) rfl (fun g1 w1 hn1 => ⟨fun _ _ => trivial, ?_⟩)
 have hb1 := hn1.blk
 have hE1 := hn1.ex
 have lo1 := hn1.lo
 have lg := hT.lt
 have hT1 := hT.ext hE1
 repeat' (first|refine aa ?_|refine ao ?_|refine ae ?_)
 refine aZ (late := [22]) (plan := [(0, none), (1, none), (2, none), (3, none), (4, none), (5, none), (6, none), (7, none), (8, none), (9, none), (10, none), (11, none), (12, none), (13, none), (14, none), (15, none), (16, none), (17, none), (18, none), (19, some true), (20, some true), (21, none), (22, some false)]) (fun w' => Ex w1 w') bt (by kernel_rfl) (Ex.refl w1).drew ?_
 repeat' (first|refine aB (j := i) (a := some ⟨g, 0, none⟩) rfl rfl ⟨_, _, rfl⟩ (by omega) ?_|refine aB (j := j) (a := some ⟨g, 0, none⟩) rfl rfl ⟨_, _, rfl⟩ (by omega) ?_|refine aS (j := i) (a := some ⟨g, 0, none⟩) (n := n) (s := s) rfl (fun _ h => (hT1.ext h).sl) (by omega) ei ?_|refine aS (j := j) (a := some ⟨g, 0, none⟩) (n := n) (s := s) rfl (fun _ h => (hT1.ext h).sl) (by omega) ej ?_|refine aU (j := row) (a := pi') rfl rfl hpi (by omega) ?_|refine aU (j := row) (a := pj) rfl rfl hpj (by omega) ?_|refine bp (j := row) (a := pi') rfl (fun _ h => hSi.ext (hE1.trans h)) hpi (by omega) ?_|refine bp (j := row) (a := pj) rfl (fun _ h => hSj.ext (hE1.trans h)) hpj (by omega) ?_|refine ai rfl ?_)
 have hE1d := hE1.drew
 refine ax (cN ((hEj row hrow).ext hE1d).k) rfl ?_
 rintro v w2 ⟨hI2, hE2⟩
 refine ⟨fun _ h => h.trans hE2, ?_⟩
 have hE12 : Ex w1 w2 := (Ex.refl w1).drew.trans hE2
 have hE02 := hE1.trans hE12
 have hneg : Ent true K w2 v (-(fj row)) := Ent.of hI2 (hEj row hrow).lb.neg
 refine ax (dz (K' := K + K + 1) (hT.sl.ext hE02) hj hi hR0 hR (hXj.ext hE02) (hXi.ext hE02) ((hEi row hrow).ext hE02) hneg (by omega) (by omega) (fun r hr => ((hEi row hrow).lb.mul (hEj r hr).lb).add ((hEj row hrow).lb.neg.mul (hEi r hr).lb))) rfl ?_
 rintro v w3 ⟨g3, rfl, hO3, hE3⟩
 refine ⟨fun _ h => h.trans hE3, ?_⟩
 have hE13 := hE12.trans hE3
 repeat' (first|refine aB (j := j) (a := some ⟨g, 0, none⟩) rfl rfl ⟨_, _, rfl⟩ (by omega) ?_)
 refine bY (j := j) (u := ⟨some ⟨g3, 0, none⟩, R, R⟩) rfl rfl (hT1.ext hE13) (by omega) (fun w4 hc4 hT4 => ⟨fun h => (nomatch h), ?_⟩)
 have s2 := hE02.size
 have lo3 := hO3.low
 have hne3 : g3 ≠ g := by omega
 have hO4 := (hO3.gbN (hT1.ext hE13) (bQ _ _) (bc hc4) hne3).mono s2
 have hG4 : w.grownBy w4 (some g) := bC (qJ (hE1.trans hE13)) (bc hc4) (fun k e => .inl e)
 have hb14 : Blk w4 g1 27 xd.cells := (hb1.ext hE13).chg hc4 (by omega)
 have hd4 : Ent false K4 w4 xd.val d := (hd.ext (hE1.trans hE13)).weak'.gbN (hT1.ext hE13) (bQ _ _) (bc hc4)
 obtain ⟨h0, hb4, hEn4⟩ := hO4.ex
 have s4 := hc4.size
 have s3 := hE3.size
 have l3 := hO3.lt
 have hne13 : g1 ≠ g3 := by have := hb1.lt; have := hE12.size; omega
 repeat' (first|refine aB (j := j) (a := some ⟨g, 0, none⟩) rfl rfl ⟨_, _, rfl⟩ (by omega) ?_|refine aS (j := j) (a1 := some ⟨g3, 0, none⟩) (l1 := R) (c1 := R) rfl hT4.sl (by omega) (by simp [setF]) ?_|refine ai rfl ?_|refine aa ?_|refine ao ?_|refine ah rfl ?_|refine ae ?_|refine bn rfl ?_|refine aC ?_)
 refine bh (ι := Nat × (Nat → IH)) [10, 11, 39, 40, 41, 42, 43, 44, 45, 46, 47, 48, 49, 50, 51, 52, 53, 54, 55, 56, 57] (fun t => [(39, .int .i64 (t.1 : Int))])
  (fun t w' => (t.1 ≤ R ∧ w4.grownBy w' (some g3)) ∧ Blk w' g3 27 (rowC R t.2) ∧ (∀ r, r < t.1 → Ent true K' w' (t.2 r).val ((fi row * fj r + (- fj row) * fi r) / d)) ∧ ∀ r, t.1 ≤ r → r < R → Ent true (K + K + 1) w' (t.2 r).val (fi row * fj r + (- fj row) * fi r)) (fun t => R - t.1)
  (0, h0) ⟨rfl, trivial⟩ ⟨⟨by omega, bc (Chg.refl _ _)⟩, hb4, fun i hi => by simp only at hi; omega, fun r _ hr => hEn4 r hr⟩ ?_
 clear hEn4
 rintro ⟨r, h⟩ ξ w5 ⟨⟨hr, hG5⟩, hb5, hEn5, hEo5⟩
 simp only at hr hb5 hEn5 hEo5
 show CW _ _ _ _ (over [(39, .int .i64 (r : Int))] _) w5
 have hT5 := hT4.gb hG5 (fun e => hne3 (by cases e; rfl))
 have hb15 := hb14.gb hG5 (fun e => hne13 (by cases e; rfl))
 have hd5 := hd4.gbN hb4 (bx _ _) hG5
 rcases Nat.lt_or_ge r R with hrR | hrR
 ·have hor := hEo5 r (Nat.le_refl _) hrR
  repeat' (first|refine bA rfl rfl (by omega) ?_|refine aa ?_|refine ao ?_|refine ah rfl ?_|refine ae ?_|refine aE rfl ?_|refine aI ?_)
  refine aC ?_
  repeat' (first|refine aU (j := r) (a := some ⟨g3, 0, none⟩) rfl rfl ⟨_, _, rfl⟩ (by omega) ?_|refine bp (j := r) (a := some ⟨g3, 0, none⟩) rfl hb5.sl ⟨_, _, rfl⟩ (by omega) ?_|refine ai rfl ?_|refine ao ?_|refine ah rfl ?_)
  refine aD (fun g6 w6 hn6 => ⟨fun _ _ => trivial, ?_⟩)
  have hb6 : Blk w6 g6 27 (intL false none 0 0) := hn6.blk
  repeat' (first|refine ai rfl ?_)
  refine aw (n := 2) (vs := (h r).cells) rfl rfl rfl rfl hb6 rfl (fun w7 hc7 hb7 => ⟨fun _ _ => trivial, ?_⟩)
  have hE57 : Ex w5 w7 := hn6.ex.chg hc7 hn6.lo
  repeat' (first|refine aa ?_|refine ae ?_)
  refine aZ (late := [13]) (plan := [(0, none), (1, none), (2, none), (3, none), (4, none), (5, none), (6, none), (7, some true), (8, none), (9, none), (10, none), (11, none), (12, none), (13, some false)]) (fun w' => Ex w7 w') bt (by kernel_rfl) (Ex.refl w7).drew ?_
  repeat' (first|refine aB (j := j) (a := some ⟨g, 0, none⟩) rfl rfl ⟨_, _, rfl⟩ (by omega) ?_|refine aS (j := j) (a := some ⟨g, 0, none⟩) (a1 := some ⟨g3, 0, none⟩) (l1 := R) (c1 := R) rfl (fun _ h => (hT5.ext (hE57.trans h)).sl) (by omega) (by simp [setF]) ?_|refine aP (g := g6) rfl (fun _ h => hb7.ext h) rfl ?_|refine aP (g := g1) rfl (fun _ h => hb15.ext (hE57.trans h)) rfl ?_|refine ai rfl ?_)
  have hE57d := hE57.drew
  refine ax (bf (hor.ext hE57d).k (hd5.ext hE57d).k (by omega) (by omega)) rfl ?_
  rintro v w8 ⟨q, rm, rfl, hq, hrm, hE8⟩
  refine ⟨fun _ h => h.trans hE8, ?_⟩
  obtain ⟨u, rfl⟩ := hq.ih
  have hE58 := hE57d.trans hE8
  repeat' (first|refine aH rfl rfl ?_|refine aU (j := r) (a := some ⟨g3, 0, none⟩) rfl rfl ⟨_, _, rfl⟩ (by omega) ?_|refine ai rfl ?_)
  refine bP (j := r) (u := u) rfl rfl (hb5.ext hE58) (by omega) (fun w9 hc9 hb9 => ⟨fun h => (nomatch h), ?_⟩)
  repeat' (first|refine ai rfl ?_|refine aa ?_|refine ah rfl ?_|refine ae ?_|refine bi rfl rfl (by omega) (by omega) ?_|refine aM ?_)
  refine ⟨⟨(r + 1, setF h r u), ⟨⟨hrR, bC (bC hG5 (jO hE58) (fun k e => (nomatch e))) (bc hc9) (fun k e => .inl e)⟩, hb9, RO.fill (f := fun r => (fi row * fj r + (- fj row) * fi r) / d) (fun k hk => (hEn5 k hk).ext hE58) (hb5.ext hE58) (Ent.of hq (hlb r hrR)) hc9, fun k hk1 hk2 => ?_⟩, by simp only; omega, rfl, trivial⟩, (by (repeat (first|exact aF _ _ _|refine ay rfl ?_|refine av rfl ?_|refine aj rfl ?_|refine ak rfl ?_)))⟩
  simp only at hk1 ⊢
  rw [aN _ _ (by omega)]
  exact ((hEo5 k (by omega) hk2).ext hE58).gbN (hb5.ext hE58) (bx _ _) (bc hc9)
 ·have erR : R = r := by omega
  subst erR
  repeat' (first|refine bz rfl rfl (by omega) ?_|refine aa ?_|refine ao ?_|refine ah rfl ?_|refine ae ?_|refine aA rfl ?_|refine aW ?_|refine aO ?_|refine aX ?_)
  exact im rfl ⟨g3, by omega, bC hG4 hG5 (fun k e => .inr (by cases e; omega)), hT5, ⟨by omega, Nat.le_refl _, h, hb5, hEn5⟩⟩
set_option maxHeartbeats 1000000 in
theorem ez {cn c4 : Bool} {K K4 n R j first g cp lo tc : Nat} {w : World} {at' : Option Addr} {s : Nat → SD} {vm : Value} {m : Int} {f : Nat → Int} (hT : Sl w at' (topC n s)) (hj : j < n) (hR0 : 1 ≤ R) (hR : R ≤ 32) (hne : ∀ ad, at' = some ad → ad.block ≠ g)
  (hs : s j = ⟨some ⟨g, 0, none⟩, R, cp⟩) (hO : RO cn K w lo g cp R f) (hm : Ent c4 K4 w vm m) (hm0 : m ≠ 0) (hK : K < 17592186044415) (hK4 : K4 ≤ K) (hf : first ≤ R) :
  CallsR Try.prog 65 #[.slice at' n tc, .int .i64 j, .int .i64 first, vm] w fun _ w' => w.grownBy w' (some g) ∧ RO cn K w' lo g cp R (fun r => if first ≤ r then f r % m else f r) := by
 obtain ⟨xm, rfl⟩ := hm.ih
 obtain ⟨h0, hb0, hEn0⟩ := hO.ex
 have hcp := hO.le
 have hpt := hT.plain (by rw [bJ]; omega)
 refine aJ (args := [_, _, _, _]) Try.func65 rfl rfl ?_
 refine ao ?_
 refine ah rfl ?_
 refine bM (vs := xm.cells) rfl (fun g1 w1 hn1 => ⟨fun _ _ => trivial, ?_⟩)
 have hb1 := hn1.blk
 have hE1 := hn1.ex
 have lo1 := hn1.lo
 have lg := hb0.lt
 repeat' (first|refine ai rfl ?_|refine aa ?_|refine ao ?_|refine ah rfl ?_|refine ae ?_|refine aC ?_)
 refine bh (ι := Nat × (Nat → IH)) [8, 10, 11, 12, 13, 14, 15, 16, 17, 18, 19, 20, 21, 22, 23, 24, 25, 26, 27, 28, 29, 30, 31, 32, 33, 34, 35, 36, 37] (fun t => [(8, .int .i64 (t.1 : Int))])
  (fun t w' => (first ≤ t.1 ∧ t.1 ≤ R ∧ w1.grownBy w' (some g)) ∧ Blk w' g 27 (rowC cp t.2) ∧ ∀ r, r < R → Ent cn K w' (t.2 r).val (if first ≤ r ∧ r < t.1 then f r % m else f r)) (fun t => R - t.1)
  (first, h0) ⟨rfl, trivial⟩ ⟨⟨Nat.le_refl _, hf, bc (Chg.refl _ _)⟩, hb0.ext hE1, fun r hr => by simp only; rw [if_neg (by omega)]; exact (hEn0 r hr).ext hE1⟩ ?_
 rintro ⟨r, h⟩ ξ w2 ⟨⟨hfr, hr, hG2⟩, hb2, hEn2⟩
 simp only at hfr hr hb2 hEn2
 show CW _ _ _ _ (over [(8, .int .i64 (r : Int))] _) w2
 have hT2 : Sl w2 at' (topC n s) := (hT.ext hE1).gb hG2 (fun ad e he => hne ad e (by cases he; rfl))
 have hb12 := hb1.gb hG2 (fun e => by cases e; omega)
 have hm2 := (hm.ext hE1).gbN (hb0.ext hE1) (bx _ _) hG2
 rcases Nat.lt_or_ge r R with hrR | hrR
 ·have her := hEn2 r hrR
  rw [if_neg (by omega)] at her
  repeat' (first|refine aB (j := j) (a := at') rfl rfl hpt (by omega) ?_|refine aS (j := j) (a := at') rfl hT2 (by omega) hs ?_|refine bA rfl rfl (by omega) ?_|refine ai rfl ?_|refine aa ?_|refine ao ?_|refine ah rfl ?_|refine ae ?_|refine bn rfl ?_|refine aE rfl ?_|refine aI ?_)
  refine aC ?_
  skip
  refine aZ (late := [19]) (plan := [(0, none), (1, none), (2, none), (3, none), (4, none), (5, none), (6, none), (7, none), (8, none), (9, none), (10, none), (11, none), (12, none), (13, some true), (14, none), (15, none), (16, none), (17, none), (18, none), (19, some false)]) (fun w' => Ex w2 w') bt (by kernel_rfl) (Ex.refl w2).drew ?_
  repeat' (first|refine aB (j := j) (a := at') rfl rfl hpt (by omega) ?_|refine aS (j := j) (a := at') rfl (fun _ h => hT2.ext h) (by omega) hs ?_|refine aU (j := r) (a := some ⟨g, 0, none⟩) rfl rfl ⟨_, _, rfl⟩ (by omega) ?_|refine bp (j := r) (n := cp) (a := some ⟨g, 0, none⟩) rfl (fun _ h => (hb2.ext h).sl) ⟨_, _, rfl⟩ (by omega) ?_|refine aP (g := g1) rfl (fun _ h => hb12.ext h) rfl ?_|refine ai rfl ?_)
  have hEd := (Ex.refl w2).drew
  refine ax (bf (her.ext hEd).k (hm2.ext hEd).k (by omega) (by omega)) rfl ?_
  rintro v w3 ⟨q, rm, rfl, hq, hrm, hE3⟩
  refine ⟨fun _ h => h.trans hE3, ?_⟩
  rw [if_neg hm0] at hrm
  obtain ⟨u, rfl⟩ := hrm.ih
  have hE23 := hEd.trans hE3
  repeat' (first|refine aH rfl rfl ?_|refine aU (j := r) (a := some ⟨g, 0, none⟩) rfl rfl ⟨_, _, rfl⟩ (by omega) ?_|refine ai rfl ?_)
  refine bP (j := r) (n := cp) (u := u) rfl rfl (hb2.ext hE23) (by omega) (fun w4 hc4 hb4 => ⟨fun h => (nomatch h), ?_⟩)
  repeat' (first|refine ai rfl ?_|refine aa ?_|refine ah rfl ?_|refine ae ?_|refine bi rfl rfl (by omega) (by omega) ?_|refine aM ?_)
  refine ⟨⟨(r + 1, setF h r u), ⟨⟨by simp only; omega, hrR, bC (bC hG2 (jO hE23) (fun k e => (nomatch e))) (bc hc4) (fun k e => .inl e)⟩, hb4, fun k hk => ?_⟩, by simp only; omega, rfl, trivial⟩, (by (repeat (first|exact aF _ _ _|refine ay rfl ?_|refine av rfl ?_|refine aj rfl ?_|refine ak rfl ?_)))⟩
  simp only
  by_cases hkr : k = r
  ·subst hkr
   rw [aK, if_pos ⟨hfr, Nat.lt_succ_self _⟩]
   exact (Ent.of hrm ((hm.lb.mono hK4).mod _ hm0)).gbN (hb2.ext hE23) (bx _ _) (bc hc4)
  ·rw [aN _ _ hkr]
   have := ((hEn2 k hk).ext hE23).gbN (hb2.ext hE23) (bx _ _) (bc hc4)
   by_cases hfk : first ≤ k ∧ k < r
   ·rw [if_pos hfk] at this; rw [if_pos (by omega)]; exact this
   ·rw [if_neg hfk] at this; rw [if_neg (by omega)]; exact this
 ·have erR : R = r := by omega
  subst erR
  repeat' (first|refine aB (j := j) (a := at') rfl rfl hpt (by omega) ?_|refine aS (j := j) (a := at') rfl hT2 (by omega) hs ?_|refine bz rfl rfl (by omega) ?_|refine ai rfl ?_|refine aa ?_|refine ao ?_|refine ah rfl ?_|refine ae ?_|refine bn rfl ?_|refine aA rfl ?_|refine aW ?_|refine aO ?_|refine aX ?_)
  refine im rfl ⟨bC (qJ hE1) hG2 (fun k e => .inl e), hO.low, hcp, h, hb2, fun k hk => ?_⟩
  have := hEn2 k hk
  by_cases hfk : first ≤ k
  ·rw [if_pos ⟨hfk, hk⟩] at this; rw [if_pos hfk]; exact this
  ·rw [if_neg (by omega)] at this; rw [if_neg hfk]; exact this
end Go.Proofs.Ytppipmkpmmdcjaa
namespace Go.Proofs.Ytppipmkpmmdcjaa
open Go.W Go.LM Go.LA
abbrev natsL (xs : List Nat) : List Value := xs.map fun (m : Nat) => Value.int .i64 m
set_option maxHeartbeats 1000000 in
theorem oe {cn : Bool} {K n R tc lc : Nat} {w : World} {at' la : Option Addr} {s : Nat → SD} {C : Nat → Nat → Int} {xs : List Nat} (hT : Sl w at' (topC n s)) (hX : ∀ j, j < n → RX cn K w (s j) R (C j)) (hl : Sl w la (natsL xs)) (hn0 : 1 ≤ n) (hn : n ≤ 16) (hxl : xs.length ≤ 32) (hxs : ∀ i, i < xs.length → xs.getD i 0 < R) :
  CallsR Try.prog 33 #[.slice at' n tc, .slice la xs.length lc] w (RetMO K w xs.length n fun i j => C j (xs.getD i 0)) := by
 have hpt := hT.plain (by rw [bJ]; omega)
 obtain ⟨L, hL⟩ : ∃ L, xs.length = L := ⟨_, rfl⟩
 refine aJ (args := [_, _]) Try.func33 rfl rfl ?_
 rw [hL] at hxl hxs ⊢
 repeat' (first|refine ep (n := L) rfl rfl (by omega) (by omega) (fun g w1 hn1 => ⟨fun _ _ => trivial, ?_⟩)|refine ai rfl ?_|refine aa ?_|refine ao ?_|refine ah rfl ?_|refine ae ?_|refine bn rfl ?_|refine aC ?_)
 refine bh (ι := Nat × (Nat → Nat) × (Nat → Nat)) [6, 7, 8, 14, 15, 16, 17, 18, 19, 20, 21, 22, 23, 24, 25, 26, 27, 28, 29, 30, 31, 32, 33, 34, 35, 36, 37, 38, 39, 40, 41, 42, 43, 44, 45] (fun t => [(14, .int .i64 (t.1 : Int))])
  (fun t w' => t.1 ≤ L ∧ Ex w w' ∧ MP true K w' w.heap.size g L n t.1 t.2.1 t.2.2 (fun i j => C j (xs.getD i 0))) (fun t => L - t.1)
  (0, fun _ => 0, fun _ => 0) ⟨rfl, trivial⟩ ⟨by omega, hn1.ex, MP.start hn1.blk hn1.lo⟩ ?_
 rintro ⟨i, gs, cp⟩ ξ w2 ⟨hi, hE2, hP2⟩
 simp only at hi hP2
 show CW _ _ _ _ (over [(14, .int .i64 (i : Int))] _) w2
 rcases Nat.lt_or_ge i L with hiL | hiL
 ·have hrow := hxs i hiL
  have hpl := hl.plain (by rw [List.length_map]; omega)
  repeat' (first|refine bA rfl rfl (by omega) ?_|refine aB (j := i) (a := la) rfl rfl hpl (by omega) ?_|refine bO (j := i) (a := la) (xs := xs) rfl (hl.ext hE2) (by omega) ?_|refine dS (n := n) rfl rfl (by omega) (by omega) (fun g3 w3 hn3 => ⟨fun _ _ => trivial, ?_⟩)|refine aB (j := i) (a := some ⟨g, 0, none⟩) rfl rfl ⟨_, _, rfl⟩ (by omega) ?_|refine ai rfl ?_|refine aa ?_|refine ao ?_|refine ah rfl ?_|refine ae ?_|refine bn rfl ?_|refine aE rfl ?_|refine aC ?_|refine aI ?_)
  refine bY (j := i) (u := ⟨some ⟨g3, 0, none⟩, n, n⟩) rfl rfl (hP2.top.ext hn3.ex) (by omega) (fun w4 hc4 hT4 => ⟨fun _ _ => trivial, ?_⟩)
  have s2 := hE2.size
  have lo3 := hn3.lo
  have low := hP2.low
  obtain ⟨hb4, hne3, hT4', hnext⟩ := hP2.snoc hn3 hc4 hT4 (by omega)
  have hE4 := (hE2.trans hn3.ex).chg hc4 low
  repeat' (first|refine ai rfl ?_|refine aa ?_|refine ao ?_|refine ah rfl ?_|refine ae ?_|refine bn rfl ?_|refine aC ?_)
  refine bh (ι := Nat × (Nat → IH)) [8, 27, 28, 29, 30, 31, 32, 33, 34, 35, 36, 37, 38, 39, 40, 41, 42, 43, 44] (fun t => [(27, .int .i64 (t.1 : Int))])
   (fun t w' => (t.1 ≤ n ∧ w4.grownBy w' (some g3)) ∧ Blk w' g3 27 (rowC n t.2) ∧ ∀ j, j < t.1 → Ent true K w' (t.2 j).val (C j (xs.getD i 0))) (fun t => n - t.1)
   (0, fun _ => ih0) ⟨rfl, trivial⟩ ⟨⟨by omega, bc (Chg.refl _ _)⟩, hb4, fun i hi => by simp only at hi; omega⟩ ?_
  rintro ⟨j, h⟩ ξ2 w5 ⟨⟨hj, hG5⟩, hb5, hEn5⟩
  simp only at hj hb5 hEn5
  show CW _ _ _ _ (over [(27, .int .i64 (j : Int))] _) w5
  have hE5 : Ex w w5 := hE4.gb hG5 (fun k e => by cases e; omega)
  obtain ⟨hT5, hfin⟩ := hnext w5 hG5
  rcases Nat.lt_or_ge j n with hjn | hjn
  ·obtain ⟨p, d, hh, e1, e2, hp, hS, hEn⟩ := ((hX j hjn).ext hE5).get (by omega)
   repeat' (first|refine bA rfl rfl (by omega) ?_|refine aa ?_|refine ao ?_|refine ah rfl ?_|refine ae ?_|refine aE rfl ?_|refine aI ?_)
   refine aC ?_
   repeat' (first|refine ai rfl ?_|refine aa ?_|refine ao ?_|refine ah rfl ?_|refine ae ?_)
   refine aZ (late := [14]) (plan := [(0, none), (1, none), (2, none), (3, none), (4, none), (5, none), (6, none), (7, none), (8, none), (9, none), (10, none), (11, none), (12, some true), (13, none), (14, some false)]) (fun w' => Ex w5 w') bt (by kernel_rfl) (Ex.refl w5).drew ?_
   repeat' (first|refine aB (j := i) (a := some ⟨g, 0, none⟩) rfl rfl ⟨_, _, rfl⟩ (by omega) ?_|refine aS (j := i) (a := some ⟨g, 0, none⟩) (a1 := some ⟨g3, 0, none⟩) (l1 := n) (c1 := n) rfl (fun _ h => (hT5.ext h).sl) (by omega) (by simp [setF]) ?_|refine aB (j := j) (a := at') rfl rfl hpt (by omega) ?_|refine aS (j := j) (a := at') rfl (fun _ h => hT.ext (hE5.trans h)) (by omega) e1 ?_|refine aU (j := xs.getD i 0) (a := p) rfl rfl hp (by omega) ?_|refine bp (j := xs.getD i 0) (a := p) rfl (fun _ h => hS.ext h) hp (by omega) ?_|refine ai rfl ?_)
   refine ax (df ((hEn _ hrow).ext (Ex.refl w5).drew).k) rfl ?_
   rintro v w6 ⟨hI6, hE6⟩
   refine ⟨fun _ h => h.trans hE6, ?_⟩
   obtain ⟨u, rfl⟩ := hI6.ih
   have hE56 : Ex w5 w6 := (Ex.refl w5).drew.trans hE6
   repeat' (first|refine aU (j := j) (a := some ⟨g3, 0, none⟩) rfl rfl ⟨_, _, rfl⟩ (by omega) ?_)
   refine bP (j := j) (u := u) rfl rfl (hb5.ext hE56) (by omega) (fun w7 hc7 hb7 => ⟨fun h => (nomatch h), ?_⟩)
   repeat' (first|refine ai rfl ?_|refine aa ?_|refine ah rfl ?_|refine ae ?_|refine bi rfl rfl (by omega) (by omega) ?_|refine aM ?_)
   exact ⟨⟨(j + 1, setF h j u), ⟨⟨hjn, bC (bC hG5 (jO hE56) (fun k e => (nomatch e))) (bc hc7) (fun k e => .inl e)⟩, hb7, RO.fill (f := fun j => C j (xs.getD i 0)) (fun k hk => (hEn5 k hk).ext hE56) (hb5.ext hE56) (Ent.of hI6 (hEn _ hrow).lb) hc7⟩, by simp only; omega, rfl, trivial⟩, (by (repeat (first|exact aF _ _ _|refine ay rfl ?_|refine av rfl ?_|refine aj rfl ?_|refine ak rfl ?_)))⟩
  ·have ejn : n = j := by omega
   repeat' (first|refine bz rfl rfl (by omega) ?_|refine ai rfl ?_|refine aa ?_|refine ao ?_|refine ah rfl ?_|refine ae ?_|refine bi rfl rfl (by omega) (by omega) ?_|refine aA rfl ?_|refine aW ?_|refine aO ?_|refine aX ?_|refine aM ?_)
   exact ⟨⟨(i + 1, setF gs i g3, setF cp i n), ⟨hiL, hE5, hfin ⟨by omega, Nat.le_refl _, h, hb5, fun k hk => hEn5 k (by omega)⟩⟩, by simp only; omega, rfl, trivial⟩, (by (repeat (first|exact aF _ _ _|refine ay rfl ?_|refine av rfl ?_|refine aj rfl ?_|refine ak rfl ?_)))⟩
 ·have eiL : L = i := by omega
  subst eiL
  repeat' (first|refine bz rfl rfl (by omega) ?_|refine ai rfl ?_|refine aa ?_|refine ao ?_|refine ah rfl ?_|refine ae ?_|refine aA rfl ?_|refine aW ?_|refine aO ?_|refine aX ?_|refine aT ?_)
  exact bF rfl (rt rfl) ⟨g, gs, cp, rfl, hP2.fin, hE2⟩
end Go.Proofs.Ytppipmkpmmdcjaa
namespace Go.Proofs.Ytppipmkpmmdcjaa
open Go.W Go.LM Go.LA
set_option maxHeartbeats 2000000 in
theorem mN {cn c2 : Bool} {K1 K2 n R g tc uc : Nat} {w : World} {ua : Option Addr} {s su : Nat → SD} {C U : Nat → Nat → Int} (hT : Blk w g 29 (topC n s)) (hX : ∀ j, j < n → RX cn K1 w (s j) R (C j)) (hU : MX c2 K2 w ua n n su U)
  (hn : 1 ≤ n ∧ n ≤ 16) (hR0 : 1 ≤ R) (hR : R ≤ 32) (hK : K1 + K2 + 1 < 17592186044416) :
  CallsR Try.prog 52 #[.slice (some ⟨g, 0, none⟩) n tc, .slice ua n uc] w fun _ w' => ∃ gs cp : Nat → Nat, w.grownBy w' (some g) ∧ Blk w' g 29 (topC n fun j => ⟨some ⟨gs j, 0, none⟩, R, cp j⟩) ∧ ∀ j, j < n → RO true (K1 + K2 + 1) w' w.heap.size (gs j) (cp j) R (fun i => sm n fun k => C k i * U k j) := by
 have hpu := hU.plain (by omega)
 have lg := hT.lt
 have hsum : ∀ m i j, m ≤ n → i < R → j < n → Lb (K1 + K2 + 1) (sm m fun k => C k i * U k j) := fun m i j hm hi hj => iX (fun k hk => (hX k (by omega)).ent hi) (fun k hk => hU.lb (by omega) hj) (by omega)
 refine aJ (args := [_, _]) Try.func52 rfl rfl ?_
 repeat' (first|refine ep (n := n) rfl rfl (by omega) (by omega) (fun g1 w1 hn1 => ⟨fun _ _ => trivial, ?_⟩)|refine ai rfl ?_|refine aa ?_|refine ao ?_|refine ah rfl ?_|refine ae ?_|refine bn rfl ?_|refine aC ?_)
 have lo1 := hn1.lo
 refine bh (ι := Nat × (Nat → Nat) × (Nat → Nat)) [5, 6, 7, 8, 14, 15, 16, 17, 18, 19, 20, 21, 22, 23, 24, 25, 26, 27, 28, 29, 30, 31, 32, 33, 34, 35, 36, 37, 38, 39, 40, 41, 42, 43, 44, 45, 46, 47, 48, 49, 50, 51, 52, 53, 54, 55, 56, 57, 58, 59, 60, 61, 62, 63, 64, 65, 66, 67, 68, 69, 70, 71] (fun t => [(14, .int .i64 (t.1 : Int))])
  (fun t w' => t.1 ≤ n ∧ Ex w w' ∧ MP true (K1 + K2 + 1) w' w.heap.size g1 n R t.1 t.2.1 t.2.2 (fun j i => sm n fun k => C k i * U k j)) (fun t => n - t.1)
  (0, fun _ => 0, fun _ => 0) ⟨rfl, trivial⟩ ⟨by omega, hn1.ex, MP.start hn1.blk hn1.lo⟩ ?_
 rintro ⟨j, gs, cp⟩ ξ w2 ⟨hj, hE2, hP2⟩
 simp only at hj hP2
 show CW _ _ _ _ (over [(14, .int .i64 (j : Int))] _) w2
 rcases Nat.lt_or_ge j n with hjn | hjn
 ·obtain ⟨p0, d0, hh0, e0, _, hp0, _, _⟩ := ((hX j hjn).ext hE2).get (by omega)
  repeat' (first|refine bA rfl rfl (by omega) ?_|refine aB (j := j) (a := some ⟨g, 0, none⟩) rfl rfl ⟨_, _, rfl⟩ (by omega) ?_|refine aS (j := j) (a := some ⟨g, 0, none⟩) (s := s) (n := n) rfl (hT.ext hE2).sl (by omega) e0 ?_|refine dS (n := R) rfl rfl (by omega) (by omega) (fun g3 w3 hn3 => ⟨fun _ _ => trivial, ?_⟩)|refine aB (j := j) (a := some ⟨g1, 0, none⟩) rfl rfl ⟨_, _, rfl⟩ (by omega) ?_|refine ai rfl ?_|refine aa ?_|refine ao ?_|refine ah rfl ?_|refine ae ?_|refine bn rfl ?_|refine aE rfl ?_|refine aC ?_|refine aI ?_)
  refine bY (j := j) (u := ⟨some ⟨g3, 0, none⟩, R, R⟩) rfl rfl (hP2.top.ext hn3.ex) (by omega) (fun w4 hc4 hT4 => ⟨fun _ _ => trivial, ?_⟩)
  have s2 := hE2.size
  have lo3 := hn3.lo
  have low := hP2.low
  obtain ⟨hb4, hne3, hT4', hnext⟩ := hP2.snoc hn3 hc4 hT4 (by omega)
  have hE4 := (hE2.trans hn3.ex).chg hc4 low
  repeat' (first|refine aB (j := j) (a := some ⟨g1, 0, none⟩) rfl rfl ⟨_, _, rfl⟩ (by omega) ?_|refine aS (j := j) (a := some ⟨g1, 0, none⟩) (a1 := some ⟨g3, 0, none⟩) (l1 := R) (c1 := R) rfl hT4'.sl (by omega) (by simp [setF]) ?_|refine ai rfl ?_|refine aa ?_|refine ao ?_|refine ah rfl ?_|refine ae ?_|refine bn rfl ?_|refine aC ?_)
  refine bh (ι := Nat × (Nat → IH)) [6, 7, 8, 31, 32, 33, 34, 35, 36, 37, 38, 39, 40, 41, 42, 43, 44, 45, 46, 47, 48, 49, 50, 51, 52, 53, 54, 55, 56, 57, 58, 59, 60, 61, 62, 63, 64, 65, 66, 67, 68, 69, 70] (fun t => [(31, .int .i64 (t.1 : Int))])
   (fun t w' => (t.1 ≤ R ∧ w4.grownBy w' (some g3)) ∧ Blk w' g3 27 (rowC R t.2) ∧ (∀ i, i < t.1 → Ent true (K1 + K2 + 1) w' (t.2 i).val (sm n fun k => C k i * U k j)) ∧ ∀ i, t.1 ≤ i → t.2 i = ih0) (fun t => R - t.1)
   (0, fun _ => ih0) ⟨rfl, trivial⟩ ⟨⟨by omega, bc (Chg.refl _ _)⟩, hb4, fun i hi => by simp only at hi; omega, fun i _ => rfl⟩ ?_
  rintro ⟨i, h⟩ ξ2 w5 ⟨⟨hi, hG5⟩, hb5, hEn5, hz5⟩
  simp only at hi hb5 hEn5 hz5
  show CW _ _ _ _ (over [(31, .int .i64 (i : Int))] _) w5
  have hE5 : Ex w w5 := hE4.gb hG5 (fun k e => by cases e; omega)
  obtain ⟨hT5, hfin⟩ := hnext w5 hG5
  rcases Nat.lt_or_ge i R with hiR | hiR
  ·repeat' (first|refine bA rfl rfl (by omega) ?_|refine ai rfl ?_|refine aa ?_|refine ao ?_|refine ah rfl ?_|refine ae ?_|refine bn rfl ?_|refine aE rfl ?_|refine aC ?_|refine aI ?_)
   refine bh (ι := Nat × (Nat → IH)) [7, 8, 36, 37, 38, 39, 40, 41, 42, 43, 44, 45, 46, 47, 48, 49, 50, 51, 52, 53, 54, 55, 56, 57, 58, 59, 60, 61, 62, 63, 64, 65, 66, 67, 68, 69] (fun t => [(36, .int .i64 (t.1 : Int))])
    (fun t w' => (t.1 ≤ n ∧ w4.grownBy w' (some g3)) ∧ Blk w' g3 27 (rowC R t.2) ∧ (∀ i', i' < i → Ent true (K1 + K2 + 1) w' (t.2 i').val (sm n fun k => C k i' * U k j)) ∧ (∀ i', i + 1 ≤ i' → t.2 i' = ih0) ∧ Ent true (K1 + K2 + 1) w' (t.2 i).val (sm t.1 fun k => C k i * U k j)) (fun t => n - t.1)
    (0, h) ⟨rfl, trivial⟩ ⟨⟨by omega, hG5⟩, hb5, hEn5, fun i' hi' => hz5 i' (by omega), by simp only; rw [hz5 i (Nat.le_refl _)]; exact jQ _⟩ ?_
   clear hb5 hEn5 hz5 hG5 hE5 hT5 hfin
   rintro ⟨k, h⟩ ξ3 w5 ⟨⟨hk, hG5⟩, hb5, hEn5, hz5, hcur⟩
   simp only at hk hb5 hEn5 hz5 hcur
   show CW _ _ _ _ (over [(36, .int .i64 (k : Int))] _) w5
   have hE5 : Ex w w5 := hE4.gb hG5 (fun k e => by cases e; omega)
   obtain ⟨hT5, hfin⟩ := hnext w5 hG5
   rcases Nat.lt_or_ge k n with hkn | hkn
   ·obtain ⟨p, d, hh, e1, e2, hp, hS, hEn⟩ := ((hX k hkn).ext hE5).get (by omega)
    obtain ⟨p', d', hh', e1', e2', hp', hS', hEn'⟩ := (hU.ext hE5).get hkn (by omega)
    have n1 := hEn i hiR
    have n2 := hEn' j hjn
    repeat' (first|refine bA rfl rfl (by omega) ?_|refine aa ?_|refine ao ?_|refine ah rfl ?_|refine ae ?_|refine aE rfl ?_|refine aI ?_)
    refine aC ?_
    repeat' (first|refine ai rfl ?_|refine aa ?_|refine ao ?_|refine ah rfl ?_|refine ae ?_)
    refine cz (ι := Nat × IH) [8, 39, 40, 41, 42, 43, 44, 45, 46, 47, 48, 49, 50, 51, 52, 53] (fun t => [(8, .pointer (some ⟨t.1, 0, none⟩))])
     (fun t w' => Ex w5 w' ∧ w5.heap.size ≤ t.1 ∧ Blk w' t.1 27 t.2.cells ∧ IntC 0 w' t.2.val (C k i * U k j)) ?_ ?_
    ·have hEx : Ex w5 w5.drew := (Ex.refl _).drew
     refine dQ (fun w' => Ex w5 w') bt hEx ?_
     refine bj (fuel := 3) (by kernel_rfl) (by kernel_rfl) [0, 1, 2, 3, 4, 5, 6, 7, 8, 9, 10, 11, 12, 13] _ _ (by kernel_rfl) ?_
     repeat' (first|refine aB (j := k) (a := some ⟨g, 0, none⟩) rfl rfl ⟨_, _, rfl⟩ (by omega) ?_|refine aS (j := k) (a := some ⟨g, 0, none⟩) (n := n) (s := s) rfl (fun _ h => (hT.ext (hE5.trans h)).sl) (by omega) e1 ?_|refine aU (j := i) (a := p) rfl rfl hp (by omega) ?_|refine bp (j := i) (a := p) rfl (fun _ h => hS.ext h) hp (by omega) ?_|refine aB (j := k) (a := ua) rfl rfl hpu (by omega) ?_|refine aS (j := k) (a := ua) rfl (fun _ h => (hU.ext (hE5.trans h)).top) (by omega) e1' ?_|refine aU (j := j) (a := p') rfl rfl hp' (by omega) ?_|refine bp (j := j) (a := p') rfl (fun _ h => hS'.ext h) hp' (by omega) ?_|refine ai rfl ?_|refine ae ?_)
     refine az (fuel := 2) (rs := [14, 15]) (by kernel_rfl) (by kernel_rfl) rfl ?_
     simp only [List.forall_mem_cons, List.not_mem_nil, false_implies, implies_true, and_true]
     refine ⟨?_, ?_⟩
     ·refine ax (ci (n1.ext hEx).k (n2.ext hEx).k (by omega)) rfl ?_
      rintro v14 w14 ⟨hI14, hE14⟩
      refine ⟨fun _ h => h.trans hE14, ?_⟩
      obtain ⟨y, rfl⟩ := hI14.ih
      replace hI14 := hI14.mono (Nat.zero_le _)
      replace hEx := hEx.trans hE14
      try replace hb15 := hb15.ext hE14
      refine ae ?_
      refine az (fuel := 1) (rs := [15]) (by kernel_rfl) (by kernel_rfl) rfl ?_
      rw [List.forall_mem_singleton]
      refine aD (fun g15 w15 hn15 => ⟨fun _ h => h.trans hn15.ex, ?_⟩)
      have hb15 : Blk w15 g15 27 (intL false none 0 0) := hn15.blk
      have lo15 : w5.heap.size ≤ g15 := Nat.le_trans hEx.size hn15.lo
      replace hEx := hEx.trans hn15.ex
      try replace hI14 := hI14.ext hn15.ex
      refine ae ?_
      refine az (fuel := 0) (rs := [16]) (by kernel_rfl) (by kernel_rfl) rfl ?_
      rw [List.forall_mem_singleton]
      refine aw (n := 2) (vs := y.cells) rfl rfl rfl rfl hb15 rfl (fun w16 hc16 hb16 => ⟨fun _ h => h.chg hc16 lo15, ?_⟩)
      replace hEx := hEx.chg hc16 lo15
      replace hI14 := hI14.gbN hb15 (au _ _ _ _) (bc hc16)
      refine ae ?_
      refine bo (by kernel_rfl) ?_
      refine aa ?_
      exact ⟨⟨(_, y), ⟨hEx, lo15, hb16, hI14⟩, rfl, trivial⟩, (by (repeat (first|exact aG _ _|refine ay rfl ?_|refine av rfl ?_|refine aj rfl ?_|refine ak rfl ?_)))⟩
     ·refine aD (fun g15 w15 hn15 => ⟨fun _ h => h.trans hn15.ex, ?_⟩)
      have hb15 : Blk w15 g15 27 (intL false none 0 0) := hn15.blk
      have lo15 : w5.heap.size ≤ g15 := Nat.le_trans hEx.size hn15.lo
      replace hEx := hEx.trans hn15.ex
      try replace hI14 := hI14.ext hn15.ex
      refine ae ?_
      refine az (fuel := 1) (rs := [14]) (by kernel_rfl) (by kernel_rfl) rfl ?_
      rw [List.forall_mem_singleton]
      refine ax (ci (n1.ext hEx).k (n2.ext hEx).k (by omega)) rfl ?_
      rintro v14 w14 ⟨hI14, hE14⟩
      refine ⟨fun _ h => h.trans hE14, ?_⟩
      obtain ⟨y, rfl⟩ := hI14.ih
      replace hI14 := hI14.mono (Nat.zero_le _)
      replace hEx := hEx.trans hE14
      try replace hb15 := hb15.ext hE14
      refine ae ?_
      refine az (fuel := 0) (rs := [16]) (by kernel_rfl) (by kernel_rfl) rfl ?_
      rw [List.forall_mem_singleton]
      refine aw (n := 2) (vs := y.cells) rfl rfl rfl rfl hb15 rfl (fun w16 hc16 hb16 => ⟨fun _ h => h.chg hc16 lo15, ?_⟩)
      replace hEx := hEx.chg hc16 lo15
      replace hI14 := hI14.gbN hb15 (au _ _ _ _) (bc hc16)
      refine ae ?_
      refine bo (by kernel_rfl) ?_
      refine aa ?_
      exact ⟨⟨(_, y), ⟨hEx, lo15, hb16, hI14⟩, rfl, trivial⟩, (by (repeat (first|exact aG _ _|refine ay rfl ?_|refine av rfl ?_|refine aj rfl ?_|refine ak rfl ?_)))⟩
    ·rintro ⟨g6, y⟩ ξ4 w6 ⟨hE56, hlo6, hb6, hI6⟩
     simp only at hlo6 hb6 hI6
     show CW _ _ _ _ (over [(8, .pointer (some ⟨g6, 0, none⟩))] _) w6
     skip
     refine aZ (late := [15]) (plan := [(0, none), (1, none), (2, none), (3, none), (4, none), (5, none), (6, none), (7, none), (8, none), (9, none), (10, none), (11, none), (12, none), (13, some true), (14, none), (15, some false)]) (fun w' => Ex w6 w') bt (by kernel_rfl) (Ex.refl w6).drew ?_
     repeat' (first|refine aB (j := j) (a := some ⟨g1, 0, none⟩) rfl rfl ⟨_, _, rfl⟩ (by omega) ?_|refine aS (j := j) (a := some ⟨g1, 0, none⟩) (a1 := some ⟨g3, 0, none⟩) (l1 := R) (c1 := R) rfl (fun _ h => (hT5.ext (hE56.trans h)).sl) (by omega) (by simp [setF]) ?_|refine aU (j := i) (a := some ⟨g3, 0, none⟩) rfl rfl ⟨_, _, rfl⟩ (by omega) ?_|refine bp (j := i) (n := R) (a := some ⟨g3, 0, none⟩) rfl (fun _ h => (hb5.ext (hE56.trans h)).sl) ⟨_, _, rfl⟩ (by omega) ?_|refine aP (g := g6) rfl (fun _ h => hb6.ext h) rfl ?_|refine ai rfl ?_)
     have hEd := (Ex.refl w6).drew
     have l1 := n1.lb.mul n2.lb
     refine ax (dF ((hcur.ext hE56).ext hEd).k ((hI6.ext hEd).k l1) (by omega) (by omega)) rfl ?_
     rintro v w7 ⟨hI7, hE7⟩
     refine ⟨fun _ h => h.trans hE7, ?_⟩
     obtain ⟨u, rfl⟩ := hI7.ih
     have hE57 : Ex w5 w7 := hE56.trans (hEd.trans hE7)
     repeat' (first|refine aU (j := i) (a := some ⟨g3, 0, none⟩) rfl rfl ⟨_, _, rfl⟩ (by omega) ?_)
     refine bP (j := i) (u := u) rfl rfl (hb5.ext hE57) (by omega) (fun w8 hc8 hb8 => ⟨fun h => (nomatch h), ?_⟩)
     repeat' (first|refine ai rfl ?_|refine aa ?_|refine ah rfl ?_|refine ae ?_|refine bi rfl rfl (by omega) (by omega) ?_|refine aM ?_)
     refine ⟨⟨(k + 1, setF h i u), ⟨⟨hkn, bC (bC hG5 (jO hE57) (fun k e => (nomatch e))) (bc hc8) (fun k e => .inl e)⟩, hb8, fun i' hi' => ?_, fun i' hi' => ?_, ?_⟩, by simp only; omega, rfl, trivial⟩, (by (repeat (first|exact aF _ _ _|refine ay rfl ?_|refine av rfl ?_|refine aj rfl ?_|refine ak rfl ?_)))⟩
     ·simp only; rw [aN _ _ (by omega)]; exact ((hEn5 i' hi').ext hE57).gbN (hb5.ext hE57) (bx _ _) (bc hc8)
     ·simp only; rw [aN _ _ (by omega)]; exact hz5 i' hi'
     ·simp only; rw [aK]; exact (Ent.of hI7 (hsum (k + 1) i j hkn hiR hjn)).gbN (hb5.ext hE57) (bx _ _) (bc hc8)
   ·have ekn : n = k := by omega
    subst ekn
    repeat' (first|refine bz rfl rfl (by omega) ?_|refine ai rfl ?_|refine aa ?_|refine ao ?_|refine ah rfl ?_|refine ae ?_|refine bi rfl rfl (by omega) (by omega) ?_|refine aA rfl ?_|refine aW ?_|refine aO ?_|refine aX ?_|refine aM ?_)
    refine ⟨⟨(i + 1, h), ⟨⟨hiR, hG5⟩, hb5, fun i' hi' => ?_, hz5⟩, by simp only; omega, rfl, trivial⟩, (by (repeat (first|exact aF _ _ _|refine ay rfl ?_|refine av rfl ?_|refine aj rfl ?_|refine ak rfl ?_)))⟩
    simp only at hi'
    by_cases hii : i' = i
    ·subst hii; exact hcur
    ·exact hEn5 i' (by omega)
  ·have eiR : R = i := by omega
   repeat' (first|refine bz rfl rfl (by omega) ?_|refine ai rfl ?_|refine aa ?_|refine ao ?_|refine ah rfl ?_|refine ae ?_|refine bi rfl rfl (by omega) (by omega) ?_|refine aA rfl ?_|refine aW ?_|refine aO ?_|refine aX ?_|refine aM ?_)
   exact ⟨⟨(j + 1, setF gs j g3, setF cp j R), ⟨hjn, hE5, hfin ⟨by omega, Nat.le_refl _, h, hb5, fun k hk => hEn5 k (by omega)⟩⟩, by simp only; omega, rfl, trivial⟩, (by (repeat (first|exact aF _ _ _|refine ay rfl ?_|refine av rfl ?_|refine aj rfl ?_|refine ak rfl ?_)))⟩
 ·have ejn : n = j := by omega
  subst ejn
  repeat' (first|refine bz rfl rfl (by omega) ?_|refine ai rfl ?_|refine aa ?_|refine ao ?_|refine ah rfl ?_|refine ae ?_|refine aA rfl ?_|refine aW ?_|refine aO ?_|refine aX ?_)
  have hO := hP2.fin
  have hTw := hT.ext hE2
  refine kF (s := 1) rfl rfl ⟨_, _, rfl⟩ hTw hO.top.sl (by rw [bJ]; omega) (by rw [bJ, bJ]; exact Nat.le_refl _) (lz _ _) (fun w3 hc3 hb3 => ⟨fun _ _ => trivial, ?_⟩)
  repeat' (first|refine ae ?_)
  rw [List.drop_eq_nil_of_le (by rw [bJ, bJ]; exact Nat.le_refl _), List.append_nil] at hb3
  exact im rfl ⟨gs, cp, bC (qJ hE2) (bc hc3) (fun k e => .inl e), hb3, fun k hk => (hO.row k hk).gbN hTw (bQ _ _) (bc hc3) (by have := (hO.row k hk).low; omega)⟩
end Go.Proofs.Ytppipmkpmmdcjaa
