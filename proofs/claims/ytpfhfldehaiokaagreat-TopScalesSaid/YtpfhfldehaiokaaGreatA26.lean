import Derived.Test.YtpfhfldehaiokaaGreatA25
set_option maxHeartbeats 8000000
namespace Go.Proofs.YtpfhfldehaiokaaGreat
open Go.W Go.LM Go.LA Go.PM
structure MIP (w : World) (lo g r c i : Nat) (gs : Nat → Nat) (F : Mat) : Prop where
 low : lo ≤ g
 le : i ≤ r
 top : Blk w g 58 (topC r fun k => if k < i then ⟨some ⟨gs k, 0, none⟩, c, c⟩ else sd0)
 row : ∀ k, k < i → lo ≤ gs k ∧ Blk w (gs k) 2 (intC c (F k))
 off : ∀ k, k < i → gs k ≠ g
 inj : ∀ k l, k < i → l < i → gs k = gs l → k = l
section
variable {w w' : World} {lo g r c i : Nat} {gs : Nat → Nat} {F : Mat}
theorem MIP.ext (h : MIP w lo g r c i gs F) (e : Ex w w') : MIP w' lo g r c i gs F := ⟨h.low, h.le, h.top.ext e, fun k hk => ⟨(h.row k hk).1, (h.row k hk).2.ext e⟩, h.off, h.inj⟩
theorem MIP.chg {b : Nat} (h : MIP w lo g r c i gs F) (hc : Chg b w w') (hb : b < lo) : MIP w' lo g r c i gs F :=
 ⟨h.low, h.le, h.top.chg hc (by have := h.low; omega), fun k hk => ⟨(h.row k hk).1, (h.row k hk).2.chg hc (by have := (h.row k hk).1; omega)⟩, h.off, h.inj⟩
theorem MIP.start {F : Mat} {gs : Nat → Nat} (hn : New w w' g 58 (topC r fun _ => sd0)) (hl : lo ≤ w.heap.size) : MIP w' lo g r c 0 gs F :=
 ⟨Nat.le_trans hl hn.lo, Nat.zero_le _, by rw [bF (s' := fun _ => sd0) (fun k _ => if_neg (Nat.not_lt_zero k))]; exact hn.blk, fun k h => by omega, fun k h => by omega, fun k l h => by omega⟩
theorem MIP.hd (_ : MIP w lo g r c i gs F) {k : Nat} (hk : k < i) : (fun k => if k < i then (⟨some ⟨gs k, 0, none⟩, c, c⟩ : SD) else sd0) k = ⟨some ⟨gs k, 0, none⟩, c, c⟩ := if_pos hk
theorem MIP.snoc {w1 : World} {gr : Nat} {f : Nat → Int} (h : MIP w lo g r c i gs F) (hi : i < r) (hn : New w w1 gr 2 (intC c f)) (hl : lo ≤ w.heap.size) (hc : Chg g w1 w') (hb : Blk w' g 58 (topC r (setF (fun k => if k < i then ⟨some ⟨gs k, 0, none⟩, c, c⟩ else sd0) i ⟨some ⟨gr, 0, none⟩, c, c⟩))) :
  MIP w' lo g r c (i + 1) (setF gs i gr) (fun a b => if a = i then f b else F a b) := by
 have hlo := hn.lo
 have hg := h.top.lt
 refine ⟨h.low, hi, ?_, fun k hk => ?_, fun k hk => ?_, fun k l hk hl => ?_⟩
 ·rw [bF (s' := setF (fun k => if k < i then (⟨some ⟨gs k, 0, none⟩, c, c⟩ : SD) else sd0) i ⟨some ⟨gr, 0, none⟩, c, c⟩) (fun k _ => ?_)]
  ·exact hb
  ·by_cases e : k = i
   ·subst e; rw [if_pos (by omega), aI, aI]
   ·rw [aN _ _ e, aN _ _ e]
    by_cases h' : k < i
    ·rw [if_pos h', if_pos (by omega)]
    ·rw [if_neg h', if_neg (by omega)]
 ·by_cases e : k = i
  ·subst e; rw [aI]; simp only [if_true]
   exact ⟨by omega, hn.blk.chg hc (by omega)⟩
  ·rw [aN _ _ e]; simp only [if_neg e]
   have hr := h.row k (by omega)
   exact ⟨hr.1, (hr.2.ext hn.ex).chg hc (h.off k (by omega))⟩
 ·by_cases e : k = i
  ·subst e; rw [aI]; omega
  ·rw [aN _ _ e]; exact h.off k (by omega)
 ·have old : ∀ m, m < i → gs m < w.heap.size := fun m hm => (h.row m hm).2.lt
  by_cases e : k = i
  ·by_cases e' : l = i
   ·intro _; omega
   ·rw [e, aI, aN _ _ e']; intro he; have := old l (by omega); omega
  ·by_cases e' : l = i
   ·rw [e', aI, aN _ _ e]; intro he; have := old k (by omega); omega
   ·rw [aN _ _ e, aN _ _ e']; exact h.inj k l (by omega) (by omega)
theorem MIP.put {k j : Nat} {u : Int} (h : MIP w lo g r c i gs F) (hk : k < i) (hc : Chg (gs k) w w') (hb : Blk w' (gs k) 2 (intC c (setF (F k) j u))) : MIP w' lo g r c i gs (setM F k j u) := by
 refine ⟨h.low, h.le, h.top.chg hc (fun e => h.off k hk e.symm), fun l hl => ⟨(h.row l hl).1, ?_⟩, h.off, h.inj⟩
 by_cases e : l = k
 ·subst e; rw [pU]; exact hb
 ·rw [rS _ _ _ e]; exact (h.row l hl).2.chg hc fun he => e (h.inj l k hl hk he)
theorem MIP.fin (h : MIP w lo g r c r gs F) : MIO w lo g r c gs F :=
 ⟨h.low, by rw [bF (s' := fun k => if k < r then (⟨some ⟨gs k, 0, none⟩, c, c⟩ : SD) else sd0) (fun k hk => (if_pos hk).symm)]; exact h.top, h.row, h.off, h.inj⟩
theorem MIO.mip (h : MIO w lo g r c gs F) : MIP w lo g r c r gs F :=
 ⟨h.low, Nat.le_refl _, by rw [bF (s' := fun k => (⟨some ⟨gs k, 0, none⟩, c, c⟩ : SD)) (fun k hk => if_pos hk)]; exact h.top, h.row, h.off, h.inj⟩
end
def TpJ (L : List Int) (la : Option Addr) (lc : Nat) (w : World) (tb : Nat) : Prop := ∃ k, k ≤ L.length ∧ Blk w tb 76 (tapeL la L.length lc k)
theorem TpJ.ext {L : List Int} {la : Option Addr} {lc tb : Nat} {w w' : World} (h : TpJ L la lc w tb) (e : Ex w w') : TpJ L la lc w' tb := by obtain ⟨k, h1, h2⟩ := h; exact ⟨k, h1, h2.ext e⟩
theorem TpJ.chg {L : List Int} {la : Option Addr} {lc tb g : Nat} {w w' : World} (h : TpJ L la lc w tb) (hc : Chg g w w') (hne : tb ≠ g) : TpJ L la lc w' tb := by obtain ⟨k, h1, h2⟩ := h; exact ⟨k, h1, h2.chg hc hne⟩
theorem TpJ.lt {L : List Int} {la : Option Addr} {lc tb : Nat} {w : World} (h : TpJ L la lc w tb) : tb < w.heap.size := by obtain ⟨k, h1, h2⟩ := h; exact h2.lt
theorem qy (L : List Int) {k : Nat} (h : k ≤ L.length) : tAt L k ≤ L.length := by unfold tAt; split <;> omega
section
variable {L : List Int} {la : Option Addr} {lc tb : Nat} {w0 w : World}
theorem rZ (hL : Sl w0 la (int8L L)) (htb : w0.heap.size ≤ tb) : 0 < L.length → ∀ ad, la = some ad → ad.block ≠ tb := fun h ad e => by
 have := hL.lt (by simpa using h) ad e; omega
theorem xK (hE : Ex w0 w) (hL : Sl w0 la (int8L L)) (hI : I8 L) (htb : w0.heap.size ≤ tb) (hT : TpJ L la lc w tb) :
  CallsR Tryz.prog 86 #[.pointer (some ⟨tb, 0, none⟩)] w fun v w' => ∃ x : Int, v = .int .i64 x ∧ -128 ≤ x ∧ x ≤ 127 ∧ TpJ L la lc w' tb ∧ Chg tb w w' := by
 obtain ⟨k, hk, hb⟩ := hT
 refine (nu hb (hL.ext hE) hI (rZ hL htb) hk).mono fun v w' ⟨e, hc, hb'⟩ => ?_
 have := hI.getD k
 exact ⟨_, e, this.1, this.2, ⟨_, qy L hk, hb'⟩, hc⟩
theorem oJ (hE : Ex w0 w) (hL : Sl w0 la (int8L L)) (hI : I8 L) (htb : w0.heap.size ≤ tb) (hT : TpJ L la lc w tb) {m : Int} (hm : 0 < m) :
  CallsR Tryz.prog 45 #[.pointer (some ⟨tb, 0, none⟩), .int .i64 m] w fun v w' => ∃ x : Int, v = .int .i64 x ∧ 0 ≤ x ∧ x < m ∧ TpJ L la lc w' tb ∧ Chg tb w w' := by
 obtain ⟨k, hk, hb⟩ := hT
 refine (qz hb (hL.ext hE) hI (rZ hL htb) hk m hm).mono fun v w' ⟨e, hc, hb'⟩ => ?_
 exact ⟨_, e, Int.emod_nonneg _ (by omega), Int.emod_lt_of_pos _ hm, ⟨_, qy L hk, hb'⟩, hc⟩
end
def DiagP (n m i : Nat) (F : Mat) : Prop := (∀ a, a < i → 1 ≤ F a a ∧ F a a ≤ m) ∧ ∀ a b, a < i → b < n → a ≠ b → F a b = 0
section
variable {L : List Int} {la : Option Addr} {lc tb n : Nat} {w0 w : World}
theorem eQ {m : Nat} (hE : Ex w0 w) (hL : Sl w0 la (int8L L)) (hI : I8 L) (htb : w0.heap.size ≤ tb) (hT : TpJ L la lc w tb) (hn : 1 ≤ n ∧ n ≤ 16) (hm : 1 ≤ m ∧ m ≤ 100) :
  CallsR Tryz.prog 46 #[.pointer (some ⟨tb, 0, none⟩), .int .i64 (n : Int), .int .i64 (m : Int)] w fun v w' => ∃ g gs F, v = .slice (some ⟨g, 0, none⟩) n n ∧ MIO w' w.heap.size g n n gs F ∧ DiagP n m n F ∧ TpJ L la lc w' tb ∧ Ex w0 w' := by
 refine aE (args := [_, _, _]) Tryz.func46 rfl rfl ?_
 have ht0 := hT.lt
 repeat' (first|refine eC (n := n) rfl rfl (by omega) (by omega) (fun g w1 hn1 => tvv ?_)|refine aj rfl ?_|refine aa ?_|refine ak ?_|refine ai rfl ?_|refine ah ?_|refine bc rfl ?_|refine ay ?_)
 refine aW (ι := Nat × (Nat → Nat) × Mat) [8, 13, 14, 15, 16, 17, 18, 19, 20, 21, 22, 23, 24, 25, 26, 27, 28, 29, 30, 31] (fun t => [(13, .int .i64 (t.1 : Int))])
  (fun t w' => (w.heap.size ≤ w'.heap.size ∧ Ex w0 w') ∧ MIP w' w.heap.size g n n t.1 t.2.1 t.2.2 ∧ DiagP n m t.1 t.2.2 ∧ TpJ L la lc w' tb) (fun t => n - t.1)
  (0, fun _ => 0, fun _ _ => 0) ⟨rfl, trivial⟩ ⟨⟨hn1.ex.size, hE.trans hn1.ex⟩, MIP.start hn1 (Nat.le_refl _), ⟨fun a h => by simp only at h; omega, fun a b h => by simp only at h; omega⟩, hT.ext hn1.ex⟩ ?_
 rintro ⟨i, gs, F⟩ ξ w4 ⟨⟨hs4, hE4⟩, hP4, hD4, hT4⟩
 simp only at hP4 hD4
 show CW _ _ _ _ (over [(13, .int .i64 (i : Int))] _) w4
 have hi := hP4.le
 rcases Nat.lt_or_ge i n with hin | hin
 ·repeat' (first|refine bq rfl rfl (by omega) ?_|refine aj rfl ?_|refine aa ?_|refine ak ?_|refine ai rfl ?_|refine ah ?_|refine aA rfl ?_|refine ay ?_|refine aC ?_)
  refine eF (n := n) rfl rfl (by omega) (by omega) (fun gr w5 hn5 => tvv ?_)
  repeat' (first|refine az (j := i) rfl rfl ⟨_, _, rfl⟩ (by omega) ?_)
  refine di (j := i) (u := ⟨some ⟨gr, 0, none⟩, n, n⟩) rfl rfl (hP4.top.ext hn5.ex) hin (fun w6 hc6 hG6 => tvv ?_)
  have hP6 := hP4.snoc hin hn5 hs4 hc6 hG6
  have low := hP4.low
  have s0 := hE.size
  have hE6 := (hE4.trans hn5.ex).chg hc6 (by omega)
  have hT6 := (hT4.ext hn5.ex).chg hc6 (by omega)
  have s5 := hn5.ex.size
  have s6 := hc6.size
  repeat' (first|refine aa ?_|refine ah ?_)
  refine bn (late := [10]) (plan := [(0, none), (1, none), (2, none), (3, none), (4, none), (5, none), (6, none), (7, some true), (8, none), (9, none), (10, some false)]) (fun w' => MIP w' w.heap.size g n n (i + 1) (setF gs i gr) (fun a b => if a = i then 0 else F a b)) bD (by kernel_rfl) (hP6.ext (Ex.refl _).drew) ?_
  have hEd := (Ex.refl w6).drew
  repeat' (first|refine az (j := i) (a := some ⟨g, 0, none⟩) rfl rfl ⟨_, _, rfl⟩ (by omega) ?_|refine aZ (j := i) (a := some ⟨g, 0, none⟩) rfl (fun _ h => h.top.sl) hin (hP6.hd (Nat.lt_succ_self i)) ?_|refine aj rfl ?_)
  refine au (oJ (hE6.trans hEd) hL hI htb (hT6.ext hEd) (m := (m : Int)) (by omega)) rfl ?_
  rintro v w7 ⟨x, rfl, hx0, hxm, hT7, hc7⟩
  refine ⟨fun _ h => h.chg hc7 (by omega), ?_⟩
  have hP7 := (hP6.ext hEd).chg hc7 ht0
  repeat' (first|refine aV rfl rfl (by omega) (by omega) ?_|refine az (j := i) rfl rfl ⟨_, _, rfl⟩ (by omega) ?_)
  refine cT (j := i) (n := n) (u := 1 + x) rfl rfl (hP7.row i (Nat.lt_succ_self i)).2 hin (fun w8 hc8 hb8 => ⟨fun h => (nomatch h), ?_⟩)
  have hP8 := hP7.put (Nat.lt_succ_self i) hc8 hb8
  have hlo8 := (hP7.row i (Nat.lt_succ_self i)).1
  have s7 := hc7.size
  have s8 := hc8.size
  have sd : w6.drew.heap.size = w6.heap.size := rfl
  repeat' (first|refine aj rfl ?_|refine aa ?_|refine ai rfl ?_|refine ah ?_|refine aV rfl rfl (by omega) (by omega) ?_|refine aJ ?_)
  refine ⟨⟨(i + 1, setF gs i gr, setM (fun a b => if a = i then 0 else F a b) i i (1 + x)), ⟨⟨by omega, ((hE6.trans hEd).chg hc7 htb).chg hc8 (by omega)⟩, hP8, ⟨fun a ha => ?_, fun a b ha hb hab => ?_⟩, hT7.chg hc8 (by omega)⟩, by simp only; omega, rfl, trivial⟩, (by (repeat (first|exact aG _ _ _|refine aB rfl ?_|refine ax rfl ?_|refine av rfl ?_|refine aw rfl ?_)))⟩
  ·simp only at ha ⊢
   unfold setM
   by_cases e : a = i
   ·rw [if_pos ⟨e, e⟩]; omega
   ·rw [if_neg (fun h => e h.1)]; simp only [if_neg e]; exact hD4.1 a (by omega)
  ·simp only at ha ⊢
   unfold setM
   rw [if_neg (fun h => hab (h.1.trans h.2.symm))]
   by_cases e : a = i
   ·simp only [if_pos e]
   ·simp only [if_neg e]; exact hD4.2 a b (by omega) hb hab
 ·obtain rfl : n = i := by omega
  repeat' (first|refine bp rfl rfl (by omega) ?_|refine aj rfl ?_|refine aa ?_|refine ak ?_|refine ai rfl ?_|refine ah ?_|refine ao rfl ?_|refine aT ?_|refine aO ?_|refine aU ?_|refine aK ?_)
  exact bo rfl (rt rfl) ⟨g, gs, F, rfl, hP4.fin, hD4, hT4, hE4⟩
def GenP (n i j : Nat) (F : Mat) : Prop := (∀ a, a < n → 1 ≤ F a a ∧ F a a ≤ 9) ∧ (∀ a b, b < a → (a < i ∨ a = i ∧ b < j) → a < n → F a b = F b a ∧ (F a b).natAbs ≤ 2)
theorem xL (x : Int) : -2 ≤ x.tmod 3 ∧ x.tmod 3 ≤ 2 := by
 rcases Int.le_total 0 x with h | h
 ·rw [Int.tmod_eq_emod_of_nonneg h]; omega
 ·have e : x.tmod 3 = -((-x).tmod 3) := by rw [Int.neg_tmod, Int.neg_neg]
  rw [e, Int.tmod_eq_emod_of_nonneg (by omega)]; omega
theorem oK (hE : Ex w0 w) (hL : Sl w0 la (int8L L)) (hI : I8 L) (htb : w0.heap.size ≤ tb) (hT : TpJ L la lc w tb) (hn : 1 ≤ n ∧ n ≤ 16) :
  CallsR Tryz.prog 43 #[.pointer (some ⟨tb, 0, none⟩), .int .i64 (n : Int)] w fun v w' => ∃ g gs F, v = .slice (some ⟨g, 0, none⟩) n n ∧ MIO w' w.heap.size g n n gs F ∧ GenP n n 0 F ∧ TpJ L la lc w' tb ∧ Ex w0 w' := by
 refine aE (args := [_, _]) Tryz.func43 rfl rfl ?_
 have ht0 := hT.lt
 have s0 := hE.size
 repeat' (first|refine aj rfl ?_|refine aa ?_|refine ak ?_|refine ai rfl ?_|refine ah ?_)
 refine au (eQ (m := 6) hE hL hI htb hT hn (by omega)) rfl ?_
 rintro v w1 ⟨g, gs, F0, rfl, hO1, hD1, hT1, hE1⟩
 refine tvv ?_
 repeat' (first|refine aj rfl ?_|refine aa ?_|refine ak ?_|refine ai rfl ?_|refine ah ?_|refine bc rfl ?_|refine ay ?_)
 refine aW (ι := Nat × Mat) [6, 7, 13, 14, 15, 16, 17, 18, 19, 20, 21, 22, 23, 24, 25, 26, 27, 28, 29, 30, 31, 32, 33, 34, 35, 36, 37, 38, 39, 40, 41, 42, 43] (fun t => [(13, .int .i64 (t.1 : Int))])
  (fun t w' => (t.1 ≤ n ∧ Ex w0 w') ∧ MIP w' w.heap.size g n n n gs t.2 ∧ GenP n t.1 0 t.2 ∧ TpJ L la lc w' tb) (fun t => n - t.1)
  (0, F0) ⟨rfl, trivial⟩ ⟨⟨by simp only; omega, hE1⟩, hO1.mip, ⟨fun a ha => by have := hD1.1 a ha; simp only; omega, fun a b h h' => by simp only at h'; omega⟩, hT1⟩ ?_
 rintro ⟨i, F⟩ ξ w2 ⟨⟨hi, hE2⟩, hP2, hG2, hT2⟩
 simp only at hi hP2 hG2
 show CW _ _ _ _ (over [(13, .int .i64 (i : Int))] _) w2
 rcases Nat.lt_or_ge i n with hin | hin
 ·repeat' (first|refine bq rfl rfl (by omega) ?_|refine aj rfl ?_|refine aa ?_|refine ak ?_|refine ai rfl ?_|refine ah ?_|refine aA rfl ?_|refine ay ?_|refine aC ?_)
  refine aW (ι := Nat × Mat) [7, 16, 17, 18, 19, 20, 21, 22, 23, 24, 25, 26, 27, 28, 29, 30, 31, 32, 33, 34, 35, 36, 37, 38, 39, 40, 41, 42] (fun t => [(7, .int .i64 (t.1 : Int))])
   (fun t w' => (t.1 ≤ i ∧ Ex w0 w') ∧ MIP w' w.heap.size g n n n gs t.2 ∧ GenP n i t.1 t.2 ∧ TpJ L la lc w' tb) (fun t => i - t.1)
   (0, F) ⟨rfl, trivial⟩ ⟨⟨by simp only; omega, hE2⟩, hP2, hG2, hT2⟩ ?_
  clear hP2 hG2 hT2
  rintro ⟨j, F⟩ ξ2 w3 ⟨⟨hj, hE3⟩, hP3, hG3, hT3⟩
  simp only at hj hP3 hG3
  show CW _ _ _ _ (over [(7, .int .i64 (j : Int))] _) w3
  rcases Nat.lt_or_ge j i with hji | hji
  ·have hjn : j < n := by omega
   repeat' (first|refine bq rfl rfl (by omega) ?_|refine aj rfl ?_|refine aa ?_|refine ak ?_|refine ai rfl ?_|refine ah ?_|refine aA rfl ?_|refine aC ?_)
   refine ay ?_
   repeat' (first|refine ak ?_)
   refine bn (late := [9]) (plan := [(0, none), (1, none), (2, none), (3, none), (4, none), (5, none), (6, some true), (7, none), (8, none), (9, some false)]) (fun w' => MIP w' w.heap.size g n n n gs F) bD (by kernel_rfl) (hP3.ext (Ex.refl _).drew) ?_
   have hEd := (Ex.refl w3).drew
   repeat' (first|refine az (j := i) (a := some ⟨g, 0, none⟩) rfl rfl ⟨_, _, rfl⟩ (by omega) ?_|refine aZ (j := i) (a := some ⟨g, 0, none⟩) rfl (fun _ h => h.top.sl) hin (hP3.hd hin) ?_|refine aj rfl ?_)
   refine au (xK (hE3.trans hEd) hL hI htb (hT3.ext hEd)) rfl ?_
   rintro v w4 ⟨x, rfl, hx0, hx1, hT4, hc4⟩
   refine ⟨fun _ h => h.chg hc4 ht0, ?_⟩
   have hP4 := (hP3.ext hEd).chg hc4 ht0
   have hE4 := (hE3.trans hEd).chg hc4 htb
   have hx3 := xL x
   repeat' (first|refine lD rfl rfl (by omega) ?_|refine az (j := j) rfl rfl ⟨_, _, rfl⟩ (by omega) ?_)
   refine cT (j := j) (n := n) (u := x.tmod 3) rfl rfl (hP4.row i hin).2 hjn (fun w5 hc5 hb5 => ⟨fun h => (nomatch h), ?_⟩)
   have hP5 := hP4.put hin hc5 hb5
   have hlo5 := (hP4.row i hin).1
   have hE5 := hE4.chg hc5 (by omega)
   have hT5 := hT4.chg hc5 (by omega)
   repeat' (first|refine aa ?_|refine ah ?_)
   refine bn (late := [13]) (plan := [(0, none), (1, none), (2, none), (3, none), (4, none), (5, none), (6, none), (7, none), (8, none), (9, none), (10, none), (11, none), (12, none), (13, some false)]) (fun w' => MIP w' w.heap.size g n n n gs (setM F i j (x.tmod 3))) bD (by kernel_rfl) (hP5.ext (Ex.refl _).drew) ?_
   have hEd5 := (Ex.refl w5).drew
   have hPd := hP5.ext hEd5
   repeat' (first|refine az (j := j) (a := some ⟨g, 0, none⟩) rfl rfl ⟨_, _, rfl⟩ (by omega) ?_|refine aZ (j := j) (a := some ⟨g, 0, none⟩) rfl (fun _ h => h.top.sl) hjn (hP5.hd hjn) ?_|refine az (j := i) (a := some ⟨g, 0, none⟩) rfl rfl ⟨_, _, rfl⟩ (by omega) ?_|refine aZ (j := i) (a := some ⟨g, 0, none⟩) rfl (fun _ h => h.top.sl) hin (hP5.hd hin) ?_|refine az (j := j) (a := some ⟨gs i, 0, none⟩) rfl rfl ⟨_, _, rfl⟩ (by omega) ?_|refine bu (j := j) (n := n) (a := some ⟨gs i, 0, none⟩) rfl (fun _ h => (h.row i hin).2.sl) hjn ?_|refine az (j := i) (a := some ⟨gs j, 0, none⟩) rfl rfl ⟨_, _, rfl⟩ (by omega) ?_|refine aj rfl ?_)
   have eij : setM F i j (x.tmod 3) i j = x.tmod 3 := by unfold setM; rw [if_pos ⟨rfl, rfl⟩]
   rw [eij]
   refine cT (j := i) (n := n) (u := x.tmod 3) rfl rfl (hPd.row j hjn).2 hin (fun w6 hc6 hb6 => ⟨fun h => (nomatch h), ?_⟩)
   have hP6 := hPd.put hjn hc6 hb6
   have hlo6 := (hPd.row j hjn).1
   repeat' (first|refine aj rfl ?_|refine aa ?_|refine ai rfl ?_|refine ah ?_|refine aV rfl rfl (by omega) (by omega) ?_|refine aJ ?_)
   refine ⟨⟨(j + 1, setM (setM F i j (x.tmod 3)) j i (x.tmod 3)), ⟨⟨hji, (hE5.trans hEd5).chg hc6 (by omega)⟩, hP6, ⟨fun a ha => ?_, fun a b hab h hn' => ?_⟩, (hT5.ext hEd5).chg hc6 (by omega)⟩, by simp only; omega, rfl, trivial⟩, (by (repeat (first|exact aG _ _ _|refine aB rfl ?_|refine ax rfl ?_|refine av rfl ?_|refine aw rfl ?_)))⟩
   ·simp only
    unfold setM
    rw [if_neg (by omega), if_neg (by omega)]; exact hG3.1 a ha
   ·simp only at h ⊢
    unfold setM
    rw [if_neg (show ¬ (a = j ∧ b = i) by omega), if_neg (show ¬ (b = i ∧ a = j) by omega)]
    by_cases e : a = i ∧ b = j
    ·rw [if_pos e, if_pos (show b = j ∧ a = i from ⟨e.2, e.1⟩)]; exact ⟨rfl, by omega⟩
    ·rw [if_neg e, if_neg (show ¬ (b = j ∧ a = i) from fun h' => e ⟨h'.2, h'.1⟩)]; exact hG3.2 a b hab (by omega) hn'
  ·obtain rfl : i = j := by omega
   repeat' (first|refine bp rfl rfl (by omega) ?_|refine aj rfl ?_|refine aa ?_|refine ak ?_|refine ai rfl ?_|refine ah ?_|refine aV rfl rfl (by omega) (by omega) ?_|refine ao rfl ?_|refine aT ?_|refine aO ?_|refine aU ?_|refine aJ ?_)
   exact ⟨⟨(i + 1, F), ⟨⟨hin, hE3⟩, hP3, ⟨hG3.1, fun a b hab h hn' => hG3.2 a b hab (by simp only at h; omega) hn'⟩, hT3⟩, by simp only; omega, rfl, trivial⟩, (by (repeat (first|exact aG _ _ _|refine aB rfl ?_|refine ax rfl ?_|refine av rfl ?_|refine aw rfl ?_)))⟩
 ·obtain rfl : n = i := by omega
  repeat' (first|refine bp rfl rfl (by omega) ?_|refine aj rfl ?_|refine aa ?_|refine ak ?_|refine ai rfl ?_|refine ah ?_|refine ao rfl ?_|refine aT ?_|refine aO ?_|refine aU ?_|refine aK ?_)
  exact bo rfl (rt rfl) ⟨g, gs, F, rfl, hP2.fin, hG2, hT2, hE2⟩
end
def ChP (n i : Nat) (F : Mat) : Prop := (∀ a, a < i → F a a = 2) ∧ (∀ a b, b < a → a < i → F a b = F b a ∧ (F a b).natAbs ≤ 2) ∧ ∀ a b, a < i → i ≤ b → b < n → F a b = 0
theorem ChP.row0 {n : Nat} {F : Mat} (_h : ChP n 0 F) (G : Mat) (h0 : G 0 0 = 2) (hz : ∀ b, 0 < b → b < n → G 0 b = 0) : ChP n 1 G :=
 ⟨fun a ha => by obtain rfl : a = 0 := by omega
                 exact h0, fun a b hab ha => by omega, fun a b ha hb hbn => by obtain rfl : a = 0 := by omega
                                                                               exact hz b (by omega) hbn⟩
theorem ChP.step {n k : Nat} {F : Mat} (h : ChP n (k + 1) F) (hk : k + 1 < n) :
  ChP n (k + 2) (setM (setM (setM (fun a b => if a = k + 1 then 0 else F a b) (k + 1) (k + 1) 2) (k + 1) k (-1)) k (k + 1) (-1)) := by
 obtain ⟨h1, h2, h3⟩ := h
 unfold setM
 refine ⟨fun a ha => ?_, fun a b hab ha => ?_, fun a b ha hb hbn => ?_⟩
 ·simp only
  rw [if_neg (by omega), if_neg (by omega)]
  by_cases e : a = k + 1
  ·rw [if_pos ⟨e, e⟩]
  ·rw [if_neg (by omega), if_neg e]; exact h1 a (by omega)
 ·simp only
  by_cases e : a = k + 1
  ·subst e
   by_cases e2 : b = k
   ·subst e2; simp
   ·rw [if_neg (show ¬ (k + 1 = k ∧ b = k + 1) by omega), if_neg (show ¬ (k + 1 = k + 1 ∧ b = k) by omega), if_neg (show ¬ (k + 1 = k + 1 ∧ b = k + 1) by omega), if_pos rfl,
     if_neg (show ¬ (b = k ∧ k + 1 = k + 1) by omega), if_neg (show ¬ (b = k + 1 ∧ k + 1 = k) by omega), if_neg (show ¬ (b = k + 1 ∧ k + 1 = k + 1) by omega), if_neg (show ¬ b = k + 1 by omega), h3 b (k + 1) (by omega) (by omega) (by omega)]
    exact ⟨rfl, by decide⟩
  ·rw [if_neg (show ¬ (a = k ∧ b = k + 1) by omega), if_neg (show ¬ (a = k + 1 ∧ b = k) by omega), if_neg (show ¬ (a = k + 1 ∧ b = k + 1) by omega), if_neg e,
    if_neg (show ¬ (b = k ∧ a = k + 1) by omega), if_neg (show ¬ (b = k + 1 ∧ a = k) by omega), if_neg (show ¬ (b = k + 1 ∧ a = k + 1) by omega), if_neg (show ¬ b = k + 1 by omega)]
   exact h2 a b hab (by omega)
 ·simp only
  rw [if_neg (by omega), if_neg (by omega), if_neg (by omega)]
  by_cases e : a = k + 1
  ·rw [if_pos e]
  ·rw [if_neg e]; exact h3 a b (by omega) (by omega) hbn
theorem mD {n : Nat} {f : Bool} {w : World} (hn : 1 ≤ n ∧ n ≤ 3) :
  CallsR Tryz.prog 44 #[.int .i64 (n : Int), .bool f] w fun v w' => ∃ g gs F, v = .slice (some ⟨g, 0, none⟩) n n ∧ MIO w' w.heap.size g n n gs F ∧ ChP n n F ∧ Ex w w' := by
 refine aE (args := [_, _]) Tryz.func44 rfl rfl ?_
 repeat' (first|refine eC (n := n) rfl rfl (by omega) (by omega) (fun g w1 hn1 => tvv ?_)|refine aj rfl ?_|refine aa ?_|refine ak ?_|refine ai rfl ?_|refine ah ?_|refine bc rfl ?_|refine ay ?_)
 refine aW (ι := Nat × (Nat → Nat) × Mat) [6, 7, 12, 13, 14, 15, 16, 17, 18, 19, 20, 21, 22, 23, 24, 25, 26, 27, 28, 29, 30, 31, 32, 33, 34, 35, 36, 37, 38, 39, 40, 41, 42, 43, 44, 45, 46, 47, 48, 49, 50, 51, 52, 53, 54, 55] (fun t => [(12, .int .i64 (t.1 : Int))])
  (fun t w' => Ex w w' ∧ MIP w' w.heap.size g n n t.1 t.2.1 t.2.2 ∧ ChP n t.1 t.2.2) (fun t => n - t.1)
  (0, fun _ => 0, fun _ _ => 0) ⟨rfl, trivial⟩ ⟨hn1.ex, MIP.start hn1 (Nat.le_refl _), ⟨fun a h => by simp only at h; omega, fun a b _ h => by simp only at h; omega, fun a b h => by simp only at h; omega⟩⟩ ?_
 rintro ⟨i, gs, F⟩ ξ w4 ⟨hE4, hP4, hD4⟩
 simp only at hP4 hD4
 show CW _ _ _ _ (over [(12, .int .i64 (i : Int))] _) w4
 have hi := hP4.le
 have s4 := hE4.size
 rcases Nat.lt_or_ge i n with hin | hin
 ·repeat' (first|refine bq rfl rfl (by omega) ?_|refine aj rfl ?_|refine aa ?_|refine ak ?_|refine ai rfl ?_|refine ah ?_|refine aA rfl ?_|refine ay ?_|refine aC ?_)
  refine eF (n := n) rfl rfl (by omega) (by omega) (fun gr w5 hn5 => tvv ?_)
  repeat' (first|refine az (j := i) rfl rfl ⟨_, _, rfl⟩ (by omega) ?_)
  refine di (j := i) (u := ⟨some ⟨gr, 0, none⟩, n, n⟩) rfl rfl (hP4.top.ext hn5.ex) hin (fun w6 hc6 hG6 => tvv ?_)
  have hP6 := hP4.snoc hin hn5 s4 hc6 hG6
  have low := hP4.low
  have hE6 := (hE4.trans hn5.ex).chg hc6 low
  repeat' (first|refine az (j := i) rfl rfl ⟨_, _, rfl⟩ (by omega) ?_|refine aZ (j := i) (a := some ⟨g, 0, none⟩) rfl hP6.top.sl hin (hP6.hd (Nat.lt_succ_self i)) ?_|refine aj rfl ?_|refine aa ?_|refine ak ?_|refine ai rfl ?_|refine ah ?_)
  refine cT (j := i) (n := n) (u := 2) rfl rfl (hP6.row i (Nat.lt_succ_self i)).2 hin (fun w7 hc7 hb7 => tvv ?_)
  have hP7 := hP6.put (Nat.lt_succ_self i) hc7 hb7
  have hlo7 := (hP6.row i (Nat.lt_succ_self i)).1
  have hE7 := hE6.chg hc7 hlo7
  obtain rfl | ⟨k, rfl⟩ : i = 0 ∨ ∃ k, i = k + 1 := by
   rcases Nat.eq_zero_or_pos i with h | h
   ·exact .inl h
   ·exact .inr ⟨i - 1, by omega⟩
  ·have hD5 : ChP n 1 (setM (fun a b => if a = 0 then 0 else F a b) 0 0 2) := hD4.row0 _ (by unfold setM; rw [if_pos ⟨rfl, rfl⟩]) (fun b hb hbn => by unfold setM; rw [if_neg (by omega)]; simp)
   cases f
   ·repeat' (first|refine ee rfl rfl (by omega) ?_|refine aj rfl ?_|refine aa ?_|refine ak ?_|refine ai rfl ?_|refine ah ?_|refine bY rfl rfl ?_|refine aV rfl rfl (by omega) (by omega) ?_|refine bK rfl rfl (by omega) (by omega) ?_|refine ao rfl ?_|refine aJ ?_|refine aC ?_)
    exact ⟨⟨(1, setF gs 0 gr, setM (fun a b => if a = 0 then 0 else F a b) 0 0 2), ⟨hE7, hP7, hD5⟩, by simp only; omega, rfl, trivial⟩, (by (repeat (first|exact aG _ _ _|refine aB rfl ?_|refine ax rfl ?_|refine av rfl ?_|refine aw rfl ?_)))⟩
   ·by_cases hz : n = 1
    ·repeat' (first|refine eV rfl rfl (by omega) ?_|refine cW rfl rfl (by omega) ?_|refine ee rfl rfl (by omega) ?_|refine aj rfl ?_|refine aa ?_|refine ak ?_|refine ai rfl ?_|refine ah ?_|refine bJ rfl rfl ?_|refine aV rfl rfl (by omega) (by omega) ?_|refine bK rfl rfl (by omega) (by omega) ?_|refine ao rfl ?_|refine aJ ?_|refine aC ?_)
     exact ⟨⟨(1, setF gs 0 gr, setM (fun a b => if a = 0 then 0 else F a b) 0 0 2), ⟨hE7, hP7, hD5⟩, by simp only; omega, rfl, trivial⟩, (by (repeat (first|exact aG _ _ _|refine aB rfl ?_|refine ax rfl ?_|refine av rfl ?_|refine aw rfl ?_)))⟩
    ·repeat' (first|refine eH rfl rfl (by omega) ?_|refine ee rfl rfl (by omega) ?_|refine aj rfl ?_|refine aa ?_|refine ak ?_|refine ai rfl ?_|refine ah ?_|refine bJ rfl rfl ?_|refine bY rfl rfl ?_|refine aV rfl rfl (by omega) (by omega) ?_|refine bK rfl rfl (by omega) (by omega) ?_|refine ao rfl ?_|refine aJ ?_|refine aC ?_)
     exact ⟨⟨(1, setF gs 0 gr, setM (fun a b => if a = 0 then 0 else F a b) 0 0 2), ⟨hE7, hP7, hD5⟩, by simp only; omega, rfl, trivial⟩, (by (repeat (first|exact aG _ _ _|refine aB rfl ?_|refine ax rfl ?_|refine av rfl ?_|refine aw rfl ?_)))⟩
  ·have hD5 := hD4.step hin
   have hk1 : k < n := by omega
   have hkk : k < k + 1 + 1 := by omega
   have ek : ∀ {v : Int}, v = ((k + 1 : Nat) : Int) - 1 → Value.int .i64 v = Value.int .i64 (k : Int) := fun e => by rw [e]; congr 1; omega
   have cases3 : f = false ∨ (f = true ∧ k + 2 = n) ∨ (f = true ∧ k + 2 ≠ n) := by
    cases f
    ·exact .inl rfl
    ·by_cases h : k + 2 = n
     ·exact .inr (.inl ⟨rfl, h⟩)
     ·exact .inr (.inr ⟨rfl, h⟩)
   rcases cases3 with rfl | ⟨rfl, hz⟩ | ⟨rfl, hz⟩
   all_goals
    repeat' (first|refine eV rfl rfl (by omega) ?_|refine eH rfl rfl (by omega) ?_|refine cW rfl rfl (by omega) ?_|refine iL rfl rfl (by omega) ?_|refine aj rfl ?_|refine aa ?_|refine ak ?_|refine ai rfl ?_|refine ah ?_|refine bJ rfl rfl ?_|refine bY rfl rfl ?_|refine bK rfl rfl (by omega) (by omega) ?_|refine aA rfl ?_|refine ao rfl ?_|refine aC ?_)
    refine eZ (late := [11, 13]) (plan := [(0, none), (1, none), (2, none), (3, none), (4, none), (5, none), (6, none), (7, none), (8, none), (9, none), (10, none), (11, some false), (12, none), (13, some false)]) (fun w' => MIP w' w.heap.size g n n (k + 1 + 1) (setF gs (k + 1) gr) (setM (fun a b => if a = k + 1 then 0 else F a b) (k + 1) (k + 1) 2)) bD (by kernel_rfl) (hP7.ext (Ex.refl _).drew) ?_
    have hEd := (Ex.refl w7).drew
    have hPd := hP7.ext hEd
    repeat' (first|refine az (j := k + 1) (a := some ⟨g, 0, none⟩) rfl rfl ⟨_, _, rfl⟩ (by omega) ?_|refine aZ (j := k + 1) (a := some ⟨g, 0, none⟩) rfl (fun _ h => h.top.sl) hin (hP7.hd (Nat.lt_succ_self _)) ?_|refine az (j := k) (a := some ⟨g, 0, none⟩) rfl (ek rfl) ⟨_, _, rfl⟩ (by omega) ?_|refine aZ (j := k) (a := some ⟨g, 0, none⟩) rfl (fun _ h => h.top.sl) hk1 (hP7.hd hkk) ?_|refine az (j := k) rfl (ek rfl) ⟨_, _, rfl⟩ (by omega) ?_|refine aj rfl ?_)
    refine cT (j := k) (n := n) (u := -1) rfl rfl (hPd.row (k + 1) (Nat.lt_succ_self _)).2 hk1 (fun w8 hc8 hb8 => ⟨fun h => (nomatch h), ?_⟩)
    have hP8 := hPd.put (Nat.lt_succ_self _) hc8 hb8
    have hlo8 := (hPd.row (k + 1) (Nat.lt_succ_self _)).1
    repeat' (first|refine az (j := k + 1) rfl rfl ⟨_, _, rfl⟩ (by omega) ?_)
    refine cT (j := k + 1) (n := n) (u := -1) rfl rfl (hP8.row k hkk).2 hin (fun w9 hc9 hb9 => ⟨fun h => (nomatch h), ?_⟩)
    have hP9 := hP8.put hkk hc9 hb9
    have hlo9 := (hP8.row k hkk).1
    repeat' (first|refine aj rfl ?_|refine aa ?_|refine ai rfl ?_|refine ah ?_|refine aV rfl rfl (by omega) (by omega) ?_|refine aJ ?_)
    exact ⟨⟨(k + 2, setF gs (k + 1) gr, _), ⟨((hE7.trans hEd).chg hc8 hlo8).chg hc9 hlo9, hP9, hD5⟩, by simp only; omega, rfl, trivial⟩, (by (repeat (first|exact aG _ _ _|refine aB rfl ?_|refine ax rfl ?_|refine av rfl ?_|refine aw rfl ?_)))⟩
 ·obtain rfl : n = i := by omega
  repeat' (first|refine bp rfl rfl (by omega) ?_|refine aj rfl ?_|refine aa ?_|refine ak ?_|refine ai rfl ?_|refine ah ?_|refine ao rfl ?_|refine aT ?_|refine aO ?_|refine aU ?_|refine aK ?_)
  exact bo rfl (rt rfl) ⟨g, gs, F, rfl, hP4.fin, hD4, hE4⟩
end Go.Proofs.YtpfhfldehaiokaaGreat
