import Derived.Lib.SmallJoins
import Derived.Deep.SlicePairs
import Derived.Test.YtpfhfldehaiokaaGreatA26
set_option maxHeartbeats 16000000
namespace Go.Proofs.YtpfhfldehaiokaaGreat
open Go.W Go.LM Go.LA Go.PM
theorem MIO.fits {w : World} {lo g r c : Nat} {gs : Nat → Nat} {F : Mat} (h : MIO w lo g r c gs F) {b : Nat} (hb : b ≤ 100000000) (hf : ∀ i j, i < r → j < c → (F i j).natAbs ≤ b) : MI w (some ⟨g, 0, none⟩) r c (fun i => ⟨some ⟨gs i, 0, none⟩, c, c⟩) F :=
 h.mi fun i j hi hj => by have := hf i j hi hj; omega
theorem GenP.abs {n : Nat} {F : Mat} (h : GenP n n 0 F) : ∀ i j, i < n → j < n → (F i j).natAbs ≤ 9 := fun i j hi hj => by
 rcases Nat.lt_trichotomy i j with e | e | e
 ·have := h.2 j i e (.inl hj) hj; omega
 ·subst e; have := h.1 i hi; omega
 ·have := h.2 i j e (.inl hi) hi; omega
theorem GenP.g3 {n : Nat} {F : Mat} (h : GenP n n 0 F) (hn : 1 ≤ n ∧ n ≤ 3) (hP : PosM n F) : G3 n F 1 :=
 G3.start hn hP.1.all (fun k hk => by
  rcases Nat.eq_zero_or_pos k with e | e
  ·subst e; rw [cA]; decide
  ·have := hP.2 (k - 1) (by omega); rwa [show k - 1 + 1 = k by omega] at this) h.1 (fun i j hj hi => (h.2 i j hj (.inl hi) hi).2)
theorem DiagP.gen {n m : Nat} {F : Mat} (h : DiagP n m n F) (hm : m ≤ 9) : GenP n n 0 F :=
 ⟨fun a ha => by have := h.1 a ha; omega, fun a b hab _ hn => by rw [h.2 a b hn (by omega) (by omega), h.2 b a (by omega) hn (by omega)]; exact ⟨rfl, by decide⟩⟩
theorem DiagP.pos {n m : Nat} {F : Mat} (h : DiagP n m n F) (hn : n ≤ 3) : PosM n F := by
 refine ⟨fun i j hj hi => by rw [h.2 i j hi (by omega) (by omega), h.2 j i (by omega) hi (by omega)], fun i hi => ?_⟩
 have p : ∀ a, a < n → 0 < F a a := fun a ha => by have := h.1 a ha; omega
 have z : ∀ a b, a < n → b < n → a ≠ b → F a b = 0 := h.2
 obtain rfl | rfl | rfl : i = 0 ∨ i = 1 ∨ i = 2 := by omega
 ·rw [eE]; exact p 0 (by omega)
 ·rw [iW, z 0 1 (by omega) (by omega) (by decide)]
  have := Int.mul_pos (p 0 (by omega)) (p 1 (by omega)); omega
 ·rw [nK, z 0 1 (by omega) (by omega) (by decide), z 0 2 (by omega) (by omega) (by decide), z 1 2 (by omega) (by omega) (by decide)]
  have := Int.mul_pos (p 0 (by omega)) (Int.mul_pos (p 1 (by omega)) (p 2 (by omega)))
  simp only [Int.zero_mul, Int.sub_zero, Int.add_zero]; exact this
theorem ta {n lo g : Nat} {gs : Nat → Nat} {F : Mat} {w : World} (hO : MIO w lo g n n gs F) (hn : 1 ≤ n ∧ n ≤ 8) (hf : ∀ i j, i < n → j < n → (F i j).natAbs ≤ 100) :
  CallsR Tryz.prog 47 #[.slice (some ⟨g, 0, none⟩) n n] w fun v w' => ∃ t : Bool, v = .bool t ∧ (t = true ↔ PosM n F ∧ det n F ≤ 10000) ∧ Ex w w' := by
 refine aE (args := [_]) Tryz.func47 rfl rfl ?_
 repeat' (first|refine aj rfl ?_|refine aa ?_|refine ak ?_|refine ai rfl ?_|refine ah ?_)
 refine au (jw (hO.fits (by decide) hf) (by omega) (by omega)) rfl ?_
 rintro v w1 ⟨g1, gs1, cp1, rfl, hO1, hE1⟩
 refine tvv ?_
 repeat' (first|refine aj rfl ?_|refine aa ?_|refine ak ?_|refine ai rfl ?_|refine ah ?_)
 refine au (gO hO1.mx (by omega) (by decide)) rfl ?_
 rintro v w2 ⟨e, rfl, he, hE2⟩
 refine tvv ?_
 have hE12 := hE1.trans hE2
 by_cases hP : PosM n F
 ·obtain rfl : e = 0 := he.2 hP
  repeat' (first|refine aj rfl ?_|refine bJ rfl rfl ?_)
  refine au (cZ (hO1.ext hE2).mx (by omega) (by decide)) rfl ?_
  rintro v w3 ⟨hI3, hE3⟩
  refine tvv ?_
  obtain ⟨u3, rfl⟩ := hI3.ih
  repeat' (first|refine bJ rfl rfl ?_)
  refine au (bV (z := 10000) (by omega) (by omega) _) rfl ?_
  rintro v w4 ⟨hI4, hE4⟩
  refine tvv ?_
  obtain ⟨u4, rfl⟩ := hI4.ih
  repeat' (first|refine bJ rfl rfl ?_)
  refine au (eB (hI3.ext hE4).k (hI4.k (k := 1) (by decide))) rfl ?_
  rintro v w5 ⟨rfl, hE5⟩
  refine tvv ?_
  have hE15 := ((hE12.trans hE3).trans hE4).trans hE5
  by_cases h : det n F ≤ 10000
  ·repeat' (first|refine fz rfl rfl (lj.2 (by omega)) ?_|refine aj rfl ?_|refine aa ?_|refine ah ?_|refine bJ rfl rfl ?_|refine aK ?_)
   exact bo rfl (rt rfl) ⟨true, rfl, ⟨fun _ => ⟨hP, h⟩, fun _ => rfl⟩, hE15⟩
  ·repeat' (first|(refine fd rfl rfl (by rw [Int.sign_eq_one_of_pos (by omega)]; omega) ?_)|refine aj rfl ?_|refine aa ?_|refine ah ?_|refine bJ rfl rfl ?_|refine aK ?_)
   exact bo rfl (rt rfl) ⟨false, rfl, ⟨fun h => (nomatch h), fun h' => absurd h'.2 h⟩, hE15⟩
 ·have hne : e ≠ 0 := fun e0 => hP (he.1 e0)
  repeat' (first|refine eH rfl rfl hne ?_|refine aj rfl ?_|refine aa ?_|refine ah ?_|refine bY rfl rfl ?_|refine aK ?_)
  exact bo rfl (rt rfl) ⟨false, rfl, ⟨fun h => (nomatch h), fun h' => absurd h'.1 hP⟩, hE12⟩
abbrev latL (d k : Int) (la : Option Addr) (n lc : Nat) (lb : Option Addr) (m lc' : Nat) : List Value := [.int .u8 d, .int .u8 k, .slice la n lc, .slice lb m lc']
abbrev ldim (d : Int) : Nat := 1 + (d % 3).toNat
theorem GenP.add {n a : Nat} {F : Mat} {x : Int} (h : ChP n n F) (_ha : a < n) (hx : 0 ≤ x ∧ x ≤ 7) : GenP n n 0 (setM F a a (2 + x)) := by
 unfold setM
 refine ⟨fun b hb => ?_, fun b c hbc _ hn => ?_⟩
 ·by_cases e : b = a
  ·simp only [e, and_self, if_true]; omega
  ·simp only [if_neg (show ¬ (b = a ∧ b = a) from fun h => e h.1)]; rw [h.1 b hb]; omega
 ·simp only [if_neg (show ¬ (b = a ∧ c = a) by omega), if_neg (show ¬ (c = a ∧ b = a) by omega)]
  exact h.2.1 b c hbc hn
theorem tc {d k : Int} {L : List Int} {la lb : Option Addr} {lc m lc' : Nat} {w : World} (hL : Sl w la (int8L L)) (hI : I8 L) (hd : 0 ≤ d ∧ d ≤ 255) (hk : 0 ≤ k ∧ k ≤ 255) :
  CallsR Tryz.prog 15 #[.agg (latL d k la L.length lc lb m lc').toArray, .int .i64 3] w fun v w' => ∃ g gs F, v = .slice (some ⟨g, 0, none⟩) (ldim d) (ldim d) ∧ MIO w' w.heap.size g (ldim d) (ldim d) gs F ∧ GenP (ldim d) (ldim d) 0 F ∧ PosM (ldim d) F ∧ Ex w w' := by
 refine aE (args := [_, _]) Tryz.func15 rfl rfl ?_
 refine ak ?_
 refine ai rfl ?_
 refine bC (vs := latL d k la L.length lc lb m lc') rfl (fun g2 w1 hn1 => tvv ?_)
 have hb1 := hn1.blk
 repeat' (first|refine aP (g := g2) rfl hb1 rfl ?_|refine da (cs := tapeL la L.length lc 0) rfl ?_|refine aj rfl ?_|refine aa ?_|refine ak ?_|refine ai rfl ?_|refine ah ?_|refine aM rfl ?_)
 refine bC (vs := tapeL la L.length lc 0) rfl (fun tb w2 hn2 => tvv ?_)
 have hb12 := hb1.ext hn2.ex
 obtain ⟨n, hn⟩ : ∃ n : Nat, 1 + d % 3 = (n : Int) := ⟨(1 + d % 3).toNat, by omega⟩
 have en : ldim d = n := by show 1 + (d % 3).toNat = n; omega
 have hn3 : 1 ≤ n ∧ n ≤ 3 := by omega
 rw [en]
 have hT2 : TpJ L la lc w2 tb := ⟨0, Nat.zero_le _, hn2.blk⟩
 have hE2 := hn1.ex.trans hn2.ex
 have htb : w.heap.size ≤ tb := by have := hn1.ex.size; have := hn2.lo; omega
 have s2 := hE2.size
 obtain ⟨q, hq⟩ : ∃ q : Int, k % 8 = q := ⟨_, rfl⟩
 have hq8 : 0 ≤ q ∧ q < 8 := by omega
 repeat' (first|refine aP (g := g2) rfl hb12 rfl ?_|refine cF rfl (cK (by omega) (by omega)) ?_|refine jC rfl rfl (by omega) (by omega) ?_|refine aV rfl rfl (by omega) (by omega) ?_|refine aj rfl ?_|refine aa ?_|refine ak ?_|refine ai rfl ?_|refine ah ?_|refine aM rfl ?_)
 rw [hn, hq]
 have htl := hT2.lt
 refine dy (ι := Nat × (Nat → Nat) × Mat) [7, 21, 22, 23, 24, 25, 26, 27, 28, 29, 30, 31, 32, 33, 34, 35, 36, 37, 38, 39, 40, 41, 42, 43, 44, 45, 46, 47, 48, 49, 50, 51, 52, 53, 54, 55, 56, 57, 58, 59, 60, 61, 62, 63, 64, 65, 66] (fun t => [(7, .slice (some ⟨t.1, 0, none⟩) n n)])
  (fun t w' => MIO w' w2.heap.size t.1 n n t.2.1 t.2.2 ∧ GenP n n 0 t.2.2 ∧ TpJ L la lc w' tb ∧ Ex w w') ?_ ?_
 ·refine ay ?_
  have hqs : (q = 0 ∨ q = 1 ∨ q = 2 ∨ q = 3) ∨ q = 4 ∨ q = 5 ∨ q = 6 ∨ q = 7 := by omega
  rcases hqs with h | rfl | rfl | rfl | rfl
  ·rcases h with rfl | rfl | rfl | rfl
   all_goals
    repeat' (first|refine eV rfl rfl rfl ?_|refine eH rfl rfl (by decide) ?_|refine aj rfl ?_|refine aa ?_|refine ak ?_|refine ai rfl ?_|refine ah ?_|refine aA rfl ?_|refine ao rfl ?_|refine aC ?_)
    refine au (oK hE2 hL hI htb hT2 (n := n) (by omega)) rfl ?_
    rintro v w3 ⟨g, gs, F, rfl, hO3, hG3, hT3, hE3⟩
    refine tvv ?_
    repeat' (first|refine aj rfl ?_|refine aa ?_|refine ah ?_|refine aJ ?_)
    exact ⟨⟨(g, gs, F), ⟨hO3, hG3, hT3, hE3⟩, rfl, trivial⟩, (by (repeat (first|exact aX _ _|refine aB rfl ?_|refine ax rfl ?_|refine av rfl ?_|refine aw rfl ?_)))⟩
  ·repeat' (first|refine eV rfl rfl rfl ?_|refine eH rfl rfl (by decide) ?_|refine aj rfl ?_|refine aa ?_|refine ak ?_|refine ai rfl ?_|refine ah ?_|refine aA rfl ?_|refine ao rfl ?_)
   refine au (mD (n := n) (f := false) hn3) rfl ?_
   rintro v w3 ⟨g, gs, F, rfl, hO3, hC3, hE3⟩
   refine tvv ?_
   repeat' (first|refine aj rfl ?_|refine aa ?_|refine ah ?_)
   have hP3 := hO3.mip
   refine bn (late := [9]) (plan := [(0, none), (1, none), (2, none), (3, none), (4, none), (5, none), (6, some true), (7, none), (8, none), (9, some false)]) (fun w' => MIP w' w2.heap.size g n n n gs F) bD (by kernel_rfl) (hP3.ext (Ex.refl _).drew) ?_
   have hEd := (Ex.refl w3).drew
   have h0n : 0 < n := by omega
   repeat' (first|refine az (j := 0) (a := some ⟨g, 0, none⟩) rfl rfl ⟨_, _, rfl⟩ (by omega) ?_|refine aZ (j := 0) (a := some ⟨g, 0, none⟩) rfl (fun _ h => h.top.sl) h0n (hP3.hd h0n) ?_|refine az (j := 0) (a := some ⟨gs 0, 0, none⟩) rfl rfl ⟨_, _, rfl⟩ (by omega) ?_|refine bu (j := 0) (n := n) (f := F 0) (a := some ⟨gs 0, 0, none⟩) rfl (fun _ h => (h.row 0 h0n).2.sl) h0n ?_|refine aj rfl ?_)
   rw [hC3.1 0 h0n]
   refine au (oJ ((hE2.trans hE3).trans hEd) hL hI htb ((hT2.ext hE3).ext hEd) (m := 3) (by omega)) rfl ?_
   rintro v w4 ⟨x, rfl, hx0, hx1, hT4, hc4⟩
   refine ⟨fun _ h => h.chg hc4 htl, ?_⟩
   have hP4 := (hP3.ext hEd).chg hc4 htl
   repeat' (first|refine aV rfl rfl (by omega) (by omega) ?_|refine az (j := 0) rfl rfl ⟨_, _, rfl⟩ (by omega) ?_)
   refine cT (j := 0) (n := n) (u := 2 + x) rfl rfl (hP4.row 0 h0n).2 h0n (fun w5 hc5 hb5 => ⟨fun h => (nomatch h), ?_⟩)
   have hP5 := hP4.put h0n hc5 hb5
   have hlo5 := (hP4.row 0 h0n).1
   repeat' (first|refine aa ?_|refine ah ?_|refine aJ ?_)
   exact ⟨⟨(g, gs, setM F 0 0 (2 + x)), ⟨hP5.fin, GenP.add hC3 h0n (by omega), hT4.chg hc5 (by omega), (((hE2.trans hE3).trans hEd).chg hc4 htb).chg hc5 (by omega)⟩, rfl, trivial⟩, (by (repeat (first|exact aX _ _|refine aB rfl ?_|refine ax rfl ?_|refine av rfl ?_|refine aw rfl ?_)))⟩
  ·repeat' (first|refine eV rfl rfl rfl ?_|refine eH rfl rfl (by decide) ?_|refine aj rfl ?_|refine aa ?_|refine ak ?_|refine ai rfl ?_|refine ah ?_|refine aA rfl ?_|refine ao rfl ?_)
   refine au (mD (n := n) (f := true) hn3) rfl ?_
   rintro v w3 ⟨g, gs, F, rfl, hO3, hC3, hE3⟩
   refine tvv ?_
   repeat' (first|refine aj rfl ?_|refine aa ?_|refine ah ?_)
   have hP3 := hO3.mip
   obtain ⟨p, rfl⟩ : ∃ p, n = p + 1 := ⟨n - 1, by omega⟩
   have ep : ∀ {v : Int}, v = ((p + 1 : Nat) : Int) - 1 → Value.int .i64 v = Value.int .i64 (p : Int) := fun e => by rw [e]; congr 1; omega
   refine bn (late := [13]) (plan := [(0, none), (1, none), (2, none), (3, none), (4, none), (5, none), (6, none), (7, none), (8, none), (9, none), (10, some true), (11, none), (12, none), (13, some false)]) (fun w' => MIP w' w2.heap.size g (p + 1) (p + 1) (p + 1) gs F) bD (by kernel_rfl) (hP3.ext (Ex.refl _).drew) ?_
   have hEd := (Ex.refl w3).drew
   have h0n : p < p + 1 := by omega
   repeat' (first|refine az (j := p) (a := some ⟨g, 0, none⟩) rfl (ep rfl) ⟨_, _, rfl⟩ (by omega) ?_|refine aZ (j := p) (a := some ⟨g, 0, none⟩) rfl (fun _ h => h.top.sl) h0n (hP3.hd h0n) ?_|refine az (j := p) (a := some ⟨gs p, 0, none⟩) rfl (ep rfl) ⟨_, _, rfl⟩ (by omega) ?_|refine bu (j := p) (n := p + 1) (f := F p) (a := some ⟨gs p, 0, none⟩) rfl (fun _ h => (h.row p h0n).2.sl) h0n ?_|refine aj rfl ?_|refine bK rfl rfl (by omega) (by omega) ?_)
   rw [hC3.1 p h0n]
   refine au (oJ ((hE2.trans hE3).trans hEd) hL hI htb ((hT2.ext hE3).ext hEd) (m := 2) (by omega)) rfl ?_
   rintro v w4 ⟨x, rfl, hx0, hx1, hT4, hc4⟩
   refine ⟨fun _ h => h.chg hc4 htl, ?_⟩
   have hP4 := (hP3.ext hEd).chg hc4 htl
   repeat' (first|refine aV rfl rfl (by omega) (by omega) ?_|refine az (j := p) rfl (ep rfl) ⟨_, _, rfl⟩ (by omega) ?_)
   refine cT (j := p) (n := p + 1) (u := 2 + x) rfl rfl (hP4.row p h0n).2 h0n (fun w5 hc5 hb5 => ⟨fun h => (nomatch h), ?_⟩)
   have hP5 := hP4.put h0n hc5 hb5
   have hlo5 := (hP4.row p h0n).1
   repeat' (first|refine aa ?_|refine ah ?_|refine aJ ?_)
   exact ⟨⟨(g, gs, setM F p p (2 + x)), ⟨hP5.fin, GenP.add hC3 h0n (by omega), hT4.chg hc5 (by omega), (((hE2.trans hE3).trans hEd).chg hc4 htb).chg hc5 (by omega)⟩, rfl, trivial⟩, (by (repeat (first|exact aX _ _|refine aB rfl ?_|refine ax rfl ?_|refine av rfl ?_|refine aw rfl ?_)))⟩
  ·repeat' (first|refine eV rfl rfl rfl ?_|refine eH rfl rfl (by decide) ?_|refine aj rfl ?_|refine aa ?_|refine ak ?_|refine ai rfl ?_|refine ah ?_|refine aA rfl ?_|refine ao rfl ?_)
   refine au (eQ (m := 9) hE2 hL hI htb hT2 (n := n) (by omega) (by omega)) rfl ?_
   rintro v w3 ⟨g, gs, F, rfl, hO3, hG3, hT3, hE3⟩
   refine tvv ?_
   repeat' (first|refine aj rfl ?_|refine aa ?_|refine ah ?_|refine aJ ?_)
   exact ⟨⟨(g, gs, F), ⟨hO3, hG3.gen (by omega), hT3, hE3⟩, rfl, trivial⟩, (by (repeat (first|exact aX _ _|refine aB rfl ?_|refine ax rfl ?_|refine av rfl ?_|refine aw rfl ?_)))⟩
  ·repeat' (first|refine eH rfl rfl (by decide) ?_|refine aj rfl ?_|refine aa ?_|refine ak ?_|refine ai rfl ?_|refine ah ?_|refine ao rfl ?_)
   refine au (eQ (m := 1) hE2 hL hI htb hT2 (n := n) (by omega) (by omega)) rfl ?_
   rintro v w3 ⟨g, gs, F, rfl, hO3, hG3, hT3, hE3⟩
   refine tvv ?_
   repeat' (first|refine aj rfl ?_|refine aa ?_|refine ah ?_|refine aJ ?_)
   exact ⟨⟨(g, gs, F), ⟨hO3, hG3.gen (by omega), hT3, hE3⟩, rfl, trivial⟩, (by (repeat (first|exact aX _ _|refine aB rfl ?_|refine ax rfl ?_|refine av rfl ?_|refine aw rfl ?_)))⟩
 ·rintro ⟨g, gs, F⟩ ξ w3 ⟨hO3, hG3, hT3, hE3⟩
  simp only at hO3 hG3
  show CW _ _ _ _ (over [(7, .slice (some ⟨g, 0, none⟩) n n)] _) w3
  repeat' (first|refine aj rfl ?_|refine ak ?_|refine ai rfl ?_)
  refine au (ta hO3 (by omega) (fun i j hi hj => by have := hG3.abs i j hi hj; omega)) rfl ?_
  rintro v w4 ⟨t, rfl, ht, hE4⟩
  refine tvv ?_
  have hE34 := hE3.trans hE4
  cases t
  ·repeat' (first|refine aj rfl ?_|refine aa ?_|refine ak ?_|refine ai rfl ?_|refine ah ?_|refine aA rfl ?_)
   refine au (eQ (m := 2) hE34 hL hI htb (hT3.ext hE4) (n := n) (by omega) (by omega)) rfl ?_
   rintro v w5 ⟨g', gs', F', rfl, hO5, hD5, hT5, hE5⟩
   refine tvv ?_
   repeat' (first|refine aj rfl ?_|refine aa ?_|refine ah ?_|refine aK ?_|refine bf ?_)
   exact bo rfl (rt rfl) ⟨g', gs', F', rfl, hO5.lower hE34.size, hD5.gen (by omega), hD5.pos (by omega), hE5⟩
  ·repeat' (first|refine aj rfl ?_|refine aa ?_|refine ak ?_|refine ai rfl ?_|refine ah ?_|refine ao rfl ?_|refine aK ?_|refine aC ?_)
   exact bo rfl (rt rfl) ⟨g, gs, F, rfl, (MIO.ext hO3 hE4).lower s2, hG3, (ht.1 rfl).1, hE34⟩
open Go.W Go.LM Go.LA Go.PM Go.ChangeShapes Go.WideShapes Go.ChangeAt Go.RowKit
theorem qa {H : Type} {enc : TypeId × Value → H} {P : Program} {W : World} {t e : TypeId} {fuel : Nat} {v : Value} {x : DataW H × List MemPlace} (ht : P.underlying t = some (.slice e)) (he : P.underlying e = some (.int .i8)) (hc : P.cellsOf e = 1)
  (hf : DataW.trod enc P W 0 (fun _ => true) true fuel t [v] = some x) :
  ∃ (a : Option Addr) (xs : List Int) (c : Nat), v = .slice a xs.length c ∧ Sl W a (int8L xs) ∧ I8 xs := by
 rcases open_ints ht he hc hf with ⟨hcs, hx⟩ | ⟨a, len', cap', zs, hcs, _, hl, hm, hz, hx, hcell, hwz⟩
 ·simp only [List.cons.injEq, and_true] at hcs
  subst hcs
  exact ⟨none, [], 0, rfl, Sl.nil _ _, by simp, by simp⟩
 ·simp only [List.cons.injEq, and_true] at hcs
  subst hcs
  simp only [if_true] at hz
  have hlen : (zs.take len').length = len' := by simp; omega
  refine ⟨some a, zs.take len', cap', by rw [hlen], ⟨fun hne => ?_, fun j hj => ?_⟩, by rw [hlen]; unfold maxLen at hm; omega, fun x hx => yU (hwz x (List.mem_of_mem_take hx))⟩
  ·have h0 : 0 < zs.length := by
    rcases Nat.eq_zero_or_pos zs.length with h | h
    ·exact absurd (by rw [List.eq_nil_of_length_eq_zero h]; simp) hne
    ·exact h
   obtain ⟨b, off, spot⟩ := a
   have hspot : spot = none := by simpa [Addr.add] using World.cell?_spot (hcell 0 h0)
   subst hspot
   exact ⟨b, off, rfl⟩
  ·simp only [List.length_map, hlen] at hj
   have h0 : j < zs.length := by omega
   obtain ⟨b, off, spot⟩ := a
   have hspot : spot = none := by simpa [Addr.add] using World.cell?_spot (hcell 0 (by omega))
   subst hspot
   have := hcell j h0
   have e : (⟨b, off, none⟩ : Addr).add j = ⟨b, off + j, none⟩ := by unfold Addr.add; split <;> simp_all
   rw [e] at this
   simp only [elt]
   rw [this]
   simp [List.getD_eq_getElem?_getD, h0, hj]
set_option maxRecDepth 100000 in
theorem uY {H : Type} {enc : TypeId × Value → H} {W : World} {v : Value} {d : DataW H} {ps : List MemPlace} {r : Reach} {b0 : Nat} (hval : Value.okWide Tryz.prog W r b0 24 v) (h : DataW.Trod enc Tryz.prog W 0 (fun _ => true) true 24 v d ps) :
  ∃ (dim kind : Int) (a : Option Addr) (L : List Int) (c : Nat) (a2 : Option Addr) (n2 c2 : Nat), v = .agg (latL dim kind a L.length c a2 n2 c2).toArray ∧ (0 ≤ dim ∧ dim ≤ 255) ∧ (0 ≤ kind ∧ kind ≤ 255) ∧ Sl W a (int8L L) ∧ I8 L := by
 obtain ⟨f0, f1, f2, f3, hs, h0, h1, h2, h3⟩ : ∃ f0 f1 f2 f3, Tryz.prog.underlying 24 = some (.struct #[f0, f1, f2, f3]) ∧ f0.type = 5 ∧ f1.type = 5 ∧ f2.type = 22 ∧ f3.type = 22 :=
  ⟨(Tryz.prog.fieldsOf 24)[0]!, (Tryz.prog.fieldsOf 24)[1]!, (Tryz.prog.fieldsOf 24)[2]!, (Tryz.prog.fieldsOf 24)[3]!, by kernel_rfl, by kernel_rfl, by kernel_rfl, by kernel_rfl, by kernel_rfl⟩
 have hone : Deep.oneCellFields Tryz.prog #[f0, f1, f2, f3] = true := by
  have e : Tryz.prog.underlying 24 = some (.struct (Tryz.prog.fieldsOf 24)) := by kernel_rfl
  rw [hs] at e
  simp only [Option.some.injEq, TypeDesc.struct.injEq] at e
  have hk : Deep.oneCellFields Tryz.prog (Tryz.prog.fieldsOf 24) = true := by kernel_rfl
  rw [e]; exact hk
 obtain ⟨c0, c1, c2, c3, y0, y1, y2, y3, m, rfl, rfl, rfl, q0, q1, q2, q3⟩ := Joins.open_agg4 hs hone (by kernel_rfl) hval h
 rw [h0] at q0
 rw [h1] at q1
 rw [h2] at q2
 rw [h3] at q3
 obtain ⟨n, hn, _, hw⟩ := DataW.trod_int (k := .u8) (by kernel_rfl) q0
 obtain ⟨n', hn', _, hw'⟩ := DataW.trod_int (k := .u8) (by kernel_rfl) q1
 obtain ⟨a, L, c, rfl, hL, hI⟩ := qa (e := 160) (by kernel_rfl) (by kernel_rfl) (by kernel_rfl) q2
 obtain ⟨a2, L2, cc2, rfl, _, _⟩ := qa (e := 160) (by kernel_rfl) (by kernel_rfl) (by kernel_rfl) q3
 simp only [List.cons.injEq, and_true] at hn hn'
 subst hn; subst hn'
 exact ⟨n, n', a, L, c, a2, L2.length, cc2, rfl, rE hw, rE hw', hL, hI⟩
end Go.Proofs.YtpfhfldehaiokaaGreat
namespace Go.Proofs.YtpfhfldehaiokaaGreat
open Go.W Go.LM Go.LA Go.PM
theorem oL {d k : Int} {L : List Int} {la lb : Option Addr} {lc m lc' : Nat} {w : World} (hL : Sl w la (int8L L)) (hI : I8 L) (hd : 0 ≤ d ∧ d ≤ 255) (hk : 0 ≤ k ∧ k ≤ 255) :
  CallsR Tryz.prog 4 #[.agg (latL d k la L.length lc lb m lc').toArray, .int .i64 3] w fun v w' => ∃ g gs H, v = .slice (some ⟨g, 0, none⟩) (ldim d) (ldim d) ∧ MIO w' w.heap.size g (ldim d) (ldim d) gs H ∧ Rd (ldim d) H ∧ Ex w w' := by
 refine aE (args := [_, _]) Tryz.func4 rfl rfl ?_
 refine ak ?_
 refine ai rfl ?_
 refine bC (vs := latL d k la L.length lc lb m lc') rfl (fun g2 w1 hn1 => tvv ?_)
 have hb1 := hn1.blk
 have hn3 : 1 ≤ ldim d ∧ ldim d ≤ 3 := by
  show 1 ≤ 1 + (d % 3).toNat ∧ 1 + (d % 3).toNat ≤ 3; omega
 repeat' (first|refine aY (cs := latL d k la L.length lc lb m lc') (g := g2) rfl hb1 rfl ?_|refine aj rfl ?_|refine aa ?_|refine ak ?_|refine ai rfl ?_|refine ah ?_)
 refine au (tc (hL.ext hn1.ex) hI hd hk) rfl ?_
 rintro v w2 ⟨g, gs, F, rfl, hO2, hG2, hP2, hE2⟩
 refine tvv ?_
 generalize ldim d = n at *
 have hE02 := hn1.ex.trans hE2
 skip
 refine au (jw (hO2.fits (b := 9) (by decide) hG2.abs) (by omega) (by omega)) rfl ?_
 rintro v w3 ⟨g3, gs3, cp3, rfl, hO3, hE3⟩
 refine tvv ?_
 skip
 refine au (mC hO3.mx (hG2.g3 hn3 hP2) hP2) rfl ?_
 rintro v w4 ⟨g4, gs4, H, u, rfl, hR, hD, hO4, hE4⟩
 refine tvv ?_
 have hE03 := hE02.trans hE3
 repeat' (first|refine aR rfl rfl ?_|refine aj rfl ?_|refine aa ?_|refine ak ?_|refine ai rfl ?_|refine ah ?_|refine aK ?_)
 exact bo rfl (rt rfl) ⟨g4, gs4, H, rfl, hO4.lower hE03.size, hR, hE03.trans hE4⟩
end Go.Proofs.YtpfhfldehaiokaaGreat
namespace Go.W
section
variable {P : Program} {S : World → Prop} {ops : List Oper} {K : Env → World → Prop} {rest : List (Oper × Option Bool)} {ρ : Env} {w : World} {b : Option Bool} {kf : Bool} {d : Nat} {dst : Option Nat} {T T' : TypeId} {pos : String} {af : Array Edge}
theorem qX {x lo hi mx : Operand} {g o len cap E s y l h m : Nat} {k k' k'' : IntKind} [hT : Slc P T' E s y] (hx : ev ρ x = .slice (some ⟨g, o, none⟩) len cap) (hlo : ev ρ lo = .int k (l : Int)) (hhi : ev ρ hi = .int k' (h : Int)) (hmx : ev ρ mx = .int k'' (m : Int))
  (h1 : l ≤ h) (h2 : h ≤ m) (h4 : m ≤ cap) (h3 : l < m) (hh : RR P S ops K rest (upd ρ d (.slice (some ⟨g, o + l * s, none⟩) (h - l) (m - l))) w) :
  RR P S ops K ((⟨some d, .slice T' x (some lo) (some hi) (some mx), T, pos, af, none⟩, b) :: rest) ρ w := by
 refine ci rfl (fun w' => ?_) hh
 obtain ⟨i0, hi0, hz⟩ := Option.map_eq_some_iff.1 hT.sz
 simp only [Prod.mk.injEq] at hz
 have e : ∀ n, (⟨g, o, none⟩ : Addr).add n = ⟨g, o + n, none⟩ := fun n => by unfold Addr.add; split <;> simp_all
 have h3' : ¬ m = l := by omega
 simp [execOp, Instr.sliceAt, Instr.slice, Instr.sliceBounds, Instr.sliceBound, hx, hlo, hhi, hmx, asIntOf, underlying, hT.un, sizeOf, typeInfo, hi0, hz.1, h1, h2, h3', h4, e]
theorem Blk.rowPart {g Tb n i c : Nat} {h : Nat → IH} (hb : Blk w g Tb (rowC n h)) (hi : i + c ≤ n) : Sl w (some ⟨g, 0 + i * 2, none⟩) (rowC c fun j => h (i + j)) := by
 refine ⟨fun _ => ⟨g, _, rfl⟩, fun j hj => ?_⟩
 rw [cN] at hj
 show w.cell? ⟨g, 0 + i * 2 + j, none⟩ = _
 have hj2 : j / 2 < c := by omega
 rw [hb.cell (by rw [cN]; omega)]
 have g1 := gH (h := h) (show i + j / 2 < n by omega)
 have g2 := gH (h := fun j => h (i + j)) hj2
 congr 1
 rw [List.getD_eq_getElem?_getD, List.getD_eq_getElem?_getD]
 rcases Nat.mod_two_eq_zero_or_one j with e | e
 ·rw [show 0 + i * 2 + j = (i + j / 2) * 2 by omega, g1.1, show j = j / 2 * 2 by omega, Nat.mul_div_cancel _ (by decide), g2.1]
 ·rw [show 0 + i * 2 + j = (i + j / 2) * 2 + 1 by omega, g1.2]
  conv => rhs; rw [show j = j / 2 * 2 + 1 by omega]
  rw [g2.2]
end
end Go.W
namespace Go.Proofs.YtpfhfldehaiokaaGreat
open Go.W Go.LM Go.LA
def RetMX (K : Nat) (w : World) (r c : Nat) (F : Mat) (v : Value) (w' : World) : Prop := ∃ g s, v = .slice (some ⟨g, 0, none⟩) r r ∧ MX true K w' (some ⟨g, 0, none⟩) r c s F ∧ Ex w w' ∧ w.heap.size ≤ g ∧ ∀ i, i < r → ∀ ad, (s i).a = some ad → w.heap.size ≤ ad.block
theorem mE {K r c fid : Nat} {first cap : Array Value} {F : Mat} {w : World} (hf : Fun Tryz.prog fid) (hr : 1 ≤ r ∧ r ≤ 16) (hc : 1 ≤ c ∧ c ≤ 16) (hbd : ∀ i j, i < r → j < c → Lb K (F i j))
  (hcall : ∀ (i j : Nat) (w1 : World), i < r → j < c → Ex w w1 → CallsR Tryz.prog fid (first ++ #[.int .i64 i, .int .i64 j] ++ cap) w1 fun v w2 => (∃ lo, IntC lo w2 v (F i j)) ∧ Ex w1 w2) :
  CallsR Tryz.prog 123 #[.int .i64 r, .int .i64 c, .func (.func fid) first cap] w (RetMX K w r c F) := by
 refine aE (args := [_, _, _]) Tryz.func123 rfl rfl ?_
 have hrc : r * c ≤ 16 * 16 := Nat.mul_le_mul hr.2 hc.2
 have erc : (r : Int) * (c : Int) = ((r * c : Nat) : Int) := (Int.natCast_mul r c).symm
 repeat' (first|refine cP rfl rfl (by omega) (by omega) ?_|refine aj rfl ?_|refine aa ?_|refine ak ?_|refine ai rfl ?_|refine ah ?_)
 rw [erc]
 repeat' (first|refine k5 (n := r * c) rfl rfl (by omega) (by omega) (fun ge w1 hn1 => tvv ?_)|refine aj rfl ?_|refine aa ?_|refine ak ?_|refine ai rfl ?_|refine ah ?_)
 refine eC (n := r) rfl rfl (by omega) (by omega) (fun g w2 hn2 => tvv ?_)
 have lo1 := hn1.lo
 have s1 := hn1.ex.size
 have lo2 := hn2.lo
 have hE2 := hn1.ex.trans hn2.ex
 have lge := hn1.hi
 have hne : ge ≠ g := by omega
 repeat' (first|refine aj rfl ?_|refine aa ?_|refine ak ?_|refine ai rfl ?_|refine ah ?_|refine bc rfl ?_|refine ay ?_)
 refine aW (ι := Nat × (Nat → IH)) [9, 10, 19, 20, 21, 22, 23, 24, 25, 26, 27, 28, 29, 30, 31, 32, 33, 34, 35, 36, 37, 38, 39, 40, 41, 42, 43, 44, 45, 46, 47, 48, 49, 50, 51, 52, 53, 54, 55, 56, 57] (fun t => [(19, .int .i64 (t.1 : Int))])
  (fun t w' => (t.1 ≤ r ∧ Ex w w') ∧ Blk w' g 50 (topC r fun k => if k < t.1 then ⟨some ⟨ge, 0 + k * c * 2, none⟩, c, c⟩ else sd0) ∧ Blk w' ge 34 (rowC (r * c) t.2) ∧ ∀ a b, a < t.1 → b < c → Ent true K w' (t.2 (a * c + b)).val (F a b)) (fun t => r - t.1)
  (0, fun _ => ih0) ⟨rfl, trivial⟩ ⟨⟨by simp only; omega, hE2⟩, by rw [bF (s' := fun _ => sd0) (fun k _ => if_neg (Nat.not_lt_zero k))]; exact hn2.blk, hn1.blk.ext hn2.ex, fun a b h => by simp only at h; omega⟩ ?_
 rintro ⟨i, h⟩ ξ w3 ⟨⟨hi, hE3⟩, hT3, hB3, hEn3⟩
 simp only at hi hT3 hB3 hEn3
 show CW _ _ _ _ (over [(19, .int .i64 (i : Int))] _) w3
 rcases Nat.lt_or_ge i r with hir | hir
 ·have hic : (i + 1) * c ≤ r * c := Nat.mul_le_mul_right _ hir
  have hi1 : (i + 1) * c = i * c + c := Nat.succ_mul i c
  have e1 : (i : Int) * (c : Int) = ((i * c : Nat) : Int) := (Int.natCast_mul i c).symm
  have e2 : ((i : Int) + 1) * (c : Int) = (((i + 1) * c : Nat) : Int) := by rw [Int.natCast_mul]; rfl
  have b1 : (i : Int) * (c : Int) ≤ 256 ∧ 0 ≤ (i : Int) * (c : Int) := by rw [e1]; omega
  have b2 : ((i : Int) + 1) * (c : Int) ≤ 256 ∧ 0 ≤ ((i : Int) + 1) * (c : Int) := by rw [e2]; omega
  repeat' (first|refine bq rfl rfl (by omega) ?_|refine cP rfl rfl (by omega) (by omega) ?_|refine qX (s := 2) (l := i * c) (h := (i + 1) * c) (m := (i + 1) * c) rfl (congrArg (Value.int .i64) e1) (congrArg (Value.int .i64) e2) (congrArg (Value.int .i64) e2) (by omega) (Nat.le_refl _) (by omega) (by omega) ?_|refine aj rfl ?_|refine aa ?_|refine ak ?_|refine ai rfl ?_|refine ah ?_|refine aV rfl rfl (by omega) (by omega) ?_|refine aA rfl ?_|refine ay ?_|refine aC ?_)
  rw [show (i + 1) * c - i * c = c by omega]
  repeat' (first|refine az (j := i) rfl rfl ⟨_, _, rfl⟩ (by omega) ?_)
  refine di (j := i) (u := ⟨some ⟨ge, 0 + i * c * 2, none⟩, c, c⟩) rfl rfl hT3 hir (fun w4 hc4 hT4 => tvv ?_)
  have hTe : topC r (setF (fun k => if k < i then (⟨some ⟨ge, 0 + k * c * 2, none⟩, c, c⟩ : SD) else sd0) i ⟨some ⟨ge, 0 + i * c * 2, none⟩, c, c⟩) = topC r (fun k => if k < i + 1 then (⟨some ⟨ge, 0 + k * c * 2, none⟩, c, c⟩ : SD) else sd0) := bF fun k _ => by
   by_cases h : k = i
   ·subst h; rw [aI, if_pos (by omega)]
   ·rw [aN _ _ h]
    by_cases h' : k < i
    ·rw [if_pos h', if_pos (by omega)]
    ·rw [if_neg h', if_neg (by omega)]
  rw [hTe] at hT4
  have hB4 := hB3.chg hc4 hne
  have hE4 := hE3.chg hc4 (by omega)
  have hEn4 : ∀ a b, a < i → b < c → Ent true K w4 (h (a * c + b)).val (F a b) := fun a b ha hb => (hEn3 a b ha hb).gbN hT3 (dI _ _) (dx hc4)
  have hi0 : (fun k => if k < i + 1 then (⟨some ⟨ge, 0 + k * c * 2, none⟩, c, c⟩ : SD) else sd0) i = ⟨some ⟨ge, 0 + i * c * 2, none⟩, c, c⟩ := if_pos (Nat.lt_succ_self i)
  repeat' (first|refine az (j := i) rfl rfl ⟨_, _, rfl⟩ (by omega) ?_|refine aZ (j := i) rfl hT4.sl hir hi0 ?_|refine aj rfl ?_|refine aa ?_|refine ak ?_|refine ai rfl ?_|refine ah ?_|refine bc rfl ?_|refine ay ?_)
  refine aW (ι := Nat × (Nat → IH)) [10, 43, 44, 45, 46, 47, 48, 49, 50, 51, 52, 53, 54, 55, 56] (fun t => [(43, .int .i64 (t.1 : Int))])
   (fun t w' => (t.1 ≤ c ∧ Ex w w') ∧ Blk w' g 50 (topC r fun k => if k < i + 1 then ⟨some ⟨ge, 0 + k * c * 2, none⟩, c, c⟩ else sd0) ∧ Blk w' ge 34 (rowC (r * c) t.2) ∧ (∀ a b, a < i → b < c → Ent true K w' (t.2 (a * c + b)).val (F a b)) ∧ ∀ b, b < t.1 → Ent true K w' (t.2 (i * c + b)).val (F i b)) (fun t => c - t.1)
   (0, h) ⟨rfl, trivial⟩ ⟨⟨by simp only; omega, hE4⟩, hT4, hB4, hEn4, fun b hb => by simp only at hb; omega⟩ ?_
  clear hB4 hEn4 hT4 hE4 hB3 hEn3 hT3 hE3 hc4
  rintro ⟨j, h⟩ ξ2 w5 ⟨⟨hj, hE5⟩, hT5, hB5, hEn5, hRow5⟩
  simp only at hj hB5 hEn5 hRow5
  show CW _ _ _ _ (over [(43, .int .i64 (j : Int))] _) w5
  haveI := hf
  rcases Nat.lt_or_ge j c with hjc | hjc
  ·have hpos : ∀ a b, a < i → b < c → a * c + b ≠ i * c + j := fun a b ha hb => by
    have : (a + 1) * c ≤ i * c := Nat.mul_le_mul_right _ ha
    have : (a + 1) * c = a * c + c := Nat.succ_mul a c
    omega
   repeat' (first|refine bq rfl rfl (by omega) ?_|refine aa ?_|refine ak ?_|refine ai rfl ?_|refine ah ?_|refine aA rfl ?_|refine aC ?_)
   refine ay ?_
   repeat' (first|refine aj rfl ?_|refine aa ?_|refine ak ?_|refine ai rfl ?_|refine ah ?_)
   refine bn (late := [10]) (plan := [(0, none), (1, none), (2, none), (3, none), (4, none), (5, none), (6, none), (7, none), (8, some true), (9, none), (10, some false)]) (fun w' => Ex w5 w') bD (by kernel_rfl) (Ex.refl w5).drew ?_
   have hEd := (Ex.refl w5).drew
   repeat' (first|refine az (j := i) rfl rfl ⟨_, _, rfl⟩ (by omega) ?_|refine aZ (j := i) rfl (fun _ h => (hT5.ext h).sl) hir hi0 ?_|refine aj rfl ?_)
   refine fh rfl (hcall i j _ hir hjc (hE5.trans hEd)) rfl ?_
   rintro v w6 ⟨⟨lo, hI⟩, hE6⟩
   refine ⟨fun _ h => h.trans hE6, ?_⟩
   have hE56 := hEd.trans hE6
   obtain ⟨x, rfl⟩ := hI.ih
   have hB6 := hB5.ext hE56
   repeat' (first|refine bE (j := j) rfl rfl ⟨_, _, rfl⟩ (by omega) ?_)
   refine eD (j := i * c + j) (n := r * c) (u := x) (congrArg Value.pointer (congrArg some (show (⟨ge, 0 + i * c * 2 + j * 2, none⟩ : Addr) = ⟨ge, 0 + (i * c + j) * 2, none⟩ by congr 1; omega))) rfl hB6 (by omega) (fun w7 hc7 hb7 => ⟨fun h => (nomatch h), ?_⟩)
   have hE7 := (hE5.trans hE56).chg hc7 lo1
   repeat' (first|refine aj rfl ?_|refine aa ?_|refine ai rfl ?_|refine ah ?_|refine aV rfl rfl (by omega) (by omega) ?_|refine aJ ?_)
   refine ⟨⟨(j + 1, setF h (i * c + j) x), ⟨⟨hjc, hE7⟩, (hT5.ext hE56).chg hc7 (Ne.symm hne), hb7, fun a b ha hb => ?_, fun b hb => ?_⟩, by simp only; omega, rfl, trivial⟩, (by (repeat (first|exact aG _ _ _|refine aB rfl ?_|refine ax rfl ?_|refine av rfl ?_|refine aw rfl ?_)))⟩
   ·simp only
    rw [aN _ _ (hpos a b ha hb)]; exact ((hEn5 a b ha hb).ext hE56).gbN hB6 (cU _ _) (dx hc7)
   ·simp only at hb ⊢
    by_cases e : b = j
    ·subst e; rw [aI]; exact (Ent.of hI (hbd i b hir hjc)).gbN hB6 (cU _ _) (dx hc7)
    ·rw [aN _ _ (by omega)]; exact ((hRow5 b (by omega)).ext hE56).gbN hB6 (cU _ _) (dx hc7)
  ·obtain rfl : c = j := by omega
   repeat' (first|refine bp rfl rfl (by omega) ?_|refine aj rfl ?_|refine aa ?_|refine ak ?_|refine ai rfl ?_|refine ah ?_|refine aV rfl rfl (by omega) (by omega) ?_|refine ao rfl ?_|refine aT ?_|refine aO ?_|refine aU ?_|refine aJ ?_)
   refine ⟨⟨(i + 1, h), ⟨⟨hir, hE5⟩, hT5, hB5, fun a b ha hb => ?_⟩, by simp only; omega, rfl, trivial⟩, (by (repeat (first|exact aG _ _ _|refine aB rfl ?_|refine ax rfl ?_|refine av rfl ?_|refine aw rfl ?_)))⟩
   simp only at ha ⊢
   by_cases e : a = i
   ·subst e; exact hRow5 b hb
   ·exact hEn5 a b (by omega) hb
 ·obtain rfl : r = i := by omega
  repeat' (first|refine bp rfl rfl (by omega) ?_|refine aj rfl ?_|refine aa ?_|refine ak ?_|refine ai rfl ?_|refine ah ?_|refine ao rfl ?_|refine aT ?_|refine aO ?_|refine aU ?_|refine aK ?_)
  refine bo rfl (rt rfl) ⟨g, fun k => if k < r then ⟨some ⟨ge, 0 + k * c * 2, none⟩, c, c⟩ else sd0, rfl, ⟨hT3.sl, fun k hk => ⟨by rw [if_pos hk], by rw [if_pos hk]; exact Nat.le_refl _, _, ?_, fun b hb => hEn3 k b hk hb⟩⟩, hE3, by omega, fun i hi ad e => by simp only [if_pos hi] at e; cases e; exact lo1⟩
  rw [if_pos hk]
  have : (k + 1) * c ≤ r * c := Nat.mul_le_mul_right _ hk
  have : (k + 1) * c = k * c + c := Nat.succ_mul k c
  exact hB3.rowPart (by omega)
end Go.Proofs.YtpfhfldehaiokaaGreat
