import Derived.Lib.SmallJoins
import Derived.Test.YtiejljicpinheaaA19
namespace Go.Proofs.Ytiejljicpinheaa
open Go.W Go.LM Go.LA Go.PM
theorem MIO.congr {w : World} {lo g r c : Nat} {gs : Nat → Nat} {F F' : Mat} (h : MIO w lo g r c gs F) (e : ∀ i j, i < r → j < c → F' i j = F i j) : MIO w lo g r c gs F' :=
 ⟨h.low, h.top, fun i hi => ⟨(h.row i hi).1, by rw [dJ (fun j hj => e i j hi hj)]; exact (h.row i hi).2⟩, h.off, h.inj⟩
theorem MIO.put {w w' : World} {lo g r c i : Nat} {gs : Nat → Nat} {F F' : Mat} {f : Nat → Int} (h : MIO w lo g r c gs F) (hi : i < r) (hg : Chg (gs i) w w') (hb : Blk w' (gs i) 2 (intC c f))
  (e : ∀ j, j < c → F' i j = f j) (e' : ∀ x j, x < r → j < c → x ≠ i → F' x j = F x j) : MIO w' lo g r c gs F' := by
 refine ⟨h.low, h.top.chg hg (fun e => h.off i hi e.symm), fun x hx => ⟨(h.row x hx).1, ?_⟩, h.off, h.inj⟩
 by_cases hxi : x = i
 ·subst hxi; rw [dJ (fun j hj => e j hj)]; exact hb
 ·rw [dJ (fun j hj => e' x j hx hj hxi)]; exact (h.row x hx).2.chg hg fun he => hxi (h.inj _ _ hx hi he)
theorem MIO.chg {w w' : World} {lo g r c b : Nat} {gs : Nat → Nat} {F : Mat} (h : MIO w lo g r c gs F) (hg : Chg b w w') (hb : b ≠ g) (hb' : ∀ i, i < r → b ≠ gs i) : MIO w' lo g r c gs F :=
 ⟨h.low, h.top.chg hg (fun e => hb e.symm), fun x hx => ⟨(h.row x hx).1, (h.row x hx).2.chg hg fun e => hb' x hx e.symm⟩, h.off, h.inj⟩
theorem MIO.lt {w : World} {lo g r c : Nat} {gs : Nat → Nat} {F : Mat} (h : MIO w lo g r c gs F) : g < w.heap.size ∧ ∀ i, i < r → gs i < w.heap.size := ⟨h.top.lt, fun i hi => (h.row i hi).2.lt⟩
theorem og {w w' : World} {lo g n t : Nat} {gs : Nat → Nat} {F G : Mat} {f : Nat → Int} (hO : MIO w lo g n n gs (fun x y => if x < t then G x y else F x y)) (ht : t < n) (hc : Chg (gs t) w w') (hb : Blk w' (gs t) 2 (intC n f)) (e : ∀ y, y < n → G t y = f y) :
  MIO w' lo g n n gs (fun x y => if x < t + 1 then G x y else F x y) :=
 hO.put (f := f) ht hc hb (fun y hy => by show (if t < t + 1 then _ else _) = _; rw [if_pos (Nat.lt_succ_self t)]; exact e y hy) (fun x y _ _ hx => by
  show (if x < t + 1 then G x y else F x y) = if x < t then G x y else F x y
  by_cases h : x < t
  ·rw [if_pos h, if_pos (by omega)]
  ·rw [if_neg h, if_neg (by omega)])
theorem uU (x : Int) : -2 ≤ x.tmod 3 ∧ x.tmod 3 ≤ 2 := by
 rcases Int.le_total 0 x with h | h
 ·rw [Int.tmod_eq_emod_of_nonneg h]; omega
 ·have e : x.tmod 3 = -((-x).tmod 3) := by rw [Int.neg_tmod, Int.neg_neg]
  rw [e, Int.tmod_eq_emod_of_nonneg (by omega)]; omega
def RetUm (n : Nat) (w : World) (v : Value) (w' : World) : Prop := ∃ g gs F, v = .slice (some ⟨g, 0, none⟩) n n ∧ MIO w' w.heap.size g n n gs F ∧ Uni n F ∧ UmB n F 531441 ∧ Ex w w'
set_option maxHeartbeats 8000000 in
theorem ni {n : Nat} {L : List Int} {la : Option Addr} {lc : Nat} {w : World} (hL : Sl w la (int8L L)) (hI : I8 L) (hn : 1 ≤ n ∧ n ≤ 16) :
  CallsR Try.prog 8 #[.slice la L.length lc, .int .i64 (n : Int)] w (RetUm n w) := by
 have hlt := hI.1
 refine aG (args := [_, _]) Try.func8 rfl rfl ?_
 repeat' (first|refine dE (n := n) rfl rfl (by omega) (by omega) (fun g w1 hn1 => ⟨fun _ _ => trivial, ?_⟩)|refine ai rfl ?_|refine aa ?_|refine aj ?_|refine ah rfl ?_|refine ae ?_|refine aY rfl ?_|refine aB ?_)
 have l1 := hn1.lo
 have s1 := hn1.ex.size
 have lb1 := hn1.blk.lt
 refine aW (ι := Nat × (Nat → Nat)) [6, 17, 18, 19, 20, 21, 22, 23, 24, 25, 26, 27, 28, 29, 30, 31] (fun t => [(17, .int .i64 (t.1 : Int))])
  (fun t w' => (t.1 ≤ n ∧ Ex w w' ∧ w1.heap.size ≤ w'.heap.size) ∧ Blk w' g 54 (topC n fun k => if k < t.1 then ⟨some ⟨t.2 k, 0, none⟩, n, n⟩ else sd0) ∧
   (∀ k, k < t.1 → w1.heap.size ≤ t.2 k ∧ Blk w' (t.2 k) 2 (intC n (idM k))) ∧ ∀ k l, k < t.1 → l < t.1 → t.2 k = t.2 l → k = l) (fun t => n - t.1)
  (0, fun _ => 0) ⟨rfl, trivial⟩ ⟨⟨by simp only; omega, hn1.ex, Nat.le_refl _⟩, hn1.blk, fun k h => by simp only at h; omega, fun k l h => by simp only at h; omega⟩ ?_
 rintro ⟨i, gs⟩ ξ w4 ⟨⟨hi, hE4, hs4⟩, hG4, hrow, hinj⟩
 simp only at hi hG4 hrow hinj
 show CW _ _ _ _ (over [(17, .int .i64 (i : Int))] _) w4
 rcases Nat.lt_or_ge i n with hir | hir
 ·repeat' (first|refine bv rfl rfl (by omega) ?_|refine ai rfl ?_|refine aa ?_|refine aj ?_|refine ah rfl ?_|refine ae ?_|refine aC rfl ?_|refine aB ?_|refine aF ?_)
  refine kq (n := n) rfl rfl (by omega) (by omega) (fun gr w5 hn5 => ⟨fun _ _ => trivial, ?_⟩)
  have l5 := hn5.lo
  have s5 := hn5.ex.size
  have hG5 := hG4.ext hn5.ex
  repeat' (first|refine aD (j := i) rfl rfl ⟨_, _, rfl⟩ (by omega) ?_|refine cg (j := i) (u := ⟨some ⟨gr, 0, none⟩, n, n⟩) rfl rfl hG5 hir (fun w6 hc6 hG6 => ⟨fun _ _ => trivial, ?_⟩)|refine ai rfl ?_|refine aa ?_|refine ah rfl ?_|refine ae ?_)
  have hR6 := hn5.blk.chg hc6 (by omega)
  have hE6 := (hE4.trans hn5.ex).chg hc6 (by omega)
  have s6 := hc6.size
  have hi0 : setF (fun k => if k < i then (⟨some ⟨gs k, 0, none⟩, n, n⟩ : SD) else sd0) i ⟨some ⟨gr, 0, none⟩, n, n⟩ i = ⟨some ⟨gr, 0, none⟩, n, n⟩ := aN _ _ _
  repeat' (first|refine aD (j := i) rfl rfl ⟨_, _, rfl⟩ (by omega) ?_|refine aZ (j := i) rfl hG6.sl hir hi0 ?_|refine dW (j := i) (u := 1) rfl rfl hR6 hir (fun w7 hc7 hR7 => ⟨fun _ _ => trivial, ?_⟩)|refine ai rfl ?_|refine aa ?_|refine ah rfl ?_|refine ae ?_|refine bi rfl rfl (by omega) (by omega) ?_|refine aJ ?_)
  have hold : ∀ k, k < i → gs k < w4.heap.size := fun k hk => (hrow k hk).2.lt
  refine ⟨⟨(i + 1, setF gs i gr), ⟨⟨hir, hE6.chg hc7 (by omega), by have := hc7.size; omega⟩, ?_, fun k hk => ?_, fun k l hk hl e => ?_⟩, by simp only; omega, rfl, trivial⟩, (by (repeat (first|exact aH _ _ _|refine ax rfl ?_|refine av rfl ?_|refine ak rfl ?_|refine ao rfl ?_)))⟩
  ·rw [bV (s' := setF (fun k => if k < i then (⟨some ⟨gs k, 0, none⟩, n, n⟩ : SD) else sd0) i ⟨some ⟨gr, 0, none⟩, n, n⟩) (fun k _ => ?_)]
   ·exact hG6.chg hc7 (by omega)
   ·by_cases e : k = i
    ·subst e; simp [setF]
    ·simp only [setF, if_neg e]
     by_cases h : k < i
     ·rw [if_pos h, if_pos (by omega)]
     ·rw [if_neg h, if_neg (by omega)]
  ·simp only at hk ⊢
   by_cases e : k = i
   ·subst e; rw [aN]
    refine ⟨by omega, ?_⟩
    rw [dJ (g := setF (fun _ => 0) k 1) (fun j _ => ?_)]
    ·exact hR7
    ·by_cases e : j = k
     ·subst e; rw [aN, bA]
     ·rw [aQ _ _ e, bF (Ne.symm e)]
   ·rw [aQ _ _ e]
    have h1 := hrow k (by omega)
    exact ⟨h1.1, ((h1.2.ext hn5.ex).chg hc6 (by have := hn1.hi; omega)).chg hc7 (by have := hold k (by omega); omega)⟩
  ·simp only at hk hl e
   by_cases e1 : k = i
   ·by_cases e2 : l = i
    ·omega
    ·rw [e1, aN, aQ _ _ e2] at e
     have := hold l (by omega)
     omega
   ·by_cases e2 : l = i
    ·rw [e2, aN, aQ _ _ e1] at e
     have := hold k (by omega)
     omega
    ·rw [aQ _ _ e1, aQ _ _ e2] at e
     exact hinj k l (by omega) (by omega) e
 ·obtain rfl : i = n := by omega
  have hO4 : MIO w4 w.heap.size g i i gs idM := ⟨l1, by rw [bV (s' := fun k => if k < i then (⟨some ⟨gs k, 0, none⟩, i, i⟩ : SD) else sd0) (fun k hk => (if_pos hk).symm)]; exact hG4, fun k hk => ⟨by have := (hrow k hk).1; omega, (hrow k hk).2⟩, fun k hk e => by have := (hrow k hk).1; have := hn1.hi; omega, hinj⟩
  clear hG4 hrow hinj
  repeat' (first|refine bu rfl rfl (by omega) ?_|refine cC (cs := tapeL la L.length lc 0) rfl ?_|refine ai rfl ?_|refine aa ?_|refine aj ?_|refine ah rfl ?_|refine ae ?_|refine ay rfl ?_|refine aS ?_|refine aL ?_|refine aT ?_)
  refine bH (vs := tapeL la L.length lc 0) rfl (fun g5 w5 hn5 => ⟨fun _ _ => trivial, ?_⟩)
  repeat' (first|refine ai rfl ?_|refine aa ?_|refine aj ?_|refine ah rfl ?_|refine ae ?_|refine aB ?_)
  have l5 := hn5.lo
  have hlt4 := hO4.lt
  have hne : 0 < L.length → ∀ ad, la = some ad → ad.block ≠ g5 := fun h ad e => by have := (hL.ext hE4).lt (by simpa using h) ad e; omega
  have h5g : g5 ≠ g := by omega
  have h5gs : ∀ k, k < i → g5 ≠ gs k := fun k hk => by have := hlt4.2 k hk; omega
  have hlo5 : w.heap.size ≤ g5 := by have := hE4.size; omega
  refine aW (ι := Nat × Nat × Mat) [8, 9, 10, 11, 12, 35, 36, 37, 38, 39, 40, 41, 42, 43, 44, 45, 46, 47, 48, 49, 50, 51, 52, 53, 54, 55, 56, 57, 58, 59, 60, 61, 62, 63, 64, 65, 66, 67, 68, 69, 70, 71, 72, 73, 74, 75, 76, 77, 78, 79, 80, 81, 82, 83, 84, 85, 86, 87, 88, 89, 90, 91, 92, 93, 94, 95, 96, 97, 98, 99, 100, 101, 102, 103, 104, 105, 106, 107, 108, 109, 110, 111, 112, 113, 114, 115, 116, 117, 118, 119, 120, 121, 122, 123, 124, 125, 126, 127, 128, 129, 130, 131, 132, 133, 134, 135, 136, 137, 138, 139, 140, 141, 142, 143] (fun t => [(8, .int .i64 (t.1 : Int))])
   (fun t w' => (t.1 ≤ 12 ∧ t.2.1 ≤ L.length ∧ Ex w w') ∧ Blk w' g5 57 (tapeL la L.length lc t.2.1) ∧ MIO w' w.heap.size g i i gs t.2.2 ∧ Uni i t.2.2 ∧ UmB i t.2.2 (3 ^ t.1)) (fun t => 12 - t.1)
   (0, 0, idM) ⟨rfl, trivial⟩ ⟨⟨Nat.zero_le _, Nat.zero_le _, hE4.trans hn5.ex⟩, hn5.blk, hO4.ext hn5.ex, nx i, fun x y _ _ => by
    by_cases e : x = y
    ·subst e; show (idM x x).natAbs ≤ 1; rw [bA]; decide
    ·show (idM x y).natAbs ≤ 1; rw [bF e]; decide⟩ ?_
  clear hO4 hlt4
  rintro ⟨k, p, F⟩ ξ2 w6 ⟨⟨hk, hp, hE6⟩, hT6, hO6, hU6, hB6⟩
  simp only at hk hp hT6 hO6 hU6 hB6
  show CW _ _ _ _ (over [(8, .int .i64 (k : Int))] _) w6
  repeat' (first|refine aj ?_)
  refine bn (late := []) (plan := [(0, none), (1, none), (2, none), (3, none), (4, none), (5, none), (6, none), (7, none), (8, none), (9, none), (10, none), (11, none), (12, none), (13, none)]) (fun w' => Ex w6 w') bC (by kernel_rfl) (Ex.refl w6).drew ?_
  rcases Nat.lt_or_ge k 12 with hk12 | hk12
  ·rcases Nat.lt_or_ge p L.length with hpL | hpL
   ·repeat' (first|refine bv rfl rfl (show ((k : Nat) : Int) < 12 by omega) ?_|refine jF rfl ?_|refine aU (g := g5) rfl (fun _ h => hT6.ext h) rfl ?_|refine bv rfl rfl (show ((p : Nat) : Int) < ((L.length : Nat) : Int) by omega) ?_|refine ai rfl ?_|refine aa ?_|refine aj ?_|refine ah rfl ?_|refine ae ?_|refine aY rfl ?_|refine bG rfl rfl ?_|refine aP rfl ?_|refine aC rfl ?_|refine aB ?_|refine aF ?_)
    refine aw (jS hT6.drew (hL.ext hE6.drew) hI hne hp (i : Int) (by omega)) rfl ?_
    rintro v w7 ⟨rfl, hc7, hT7⟩
    refine ⟨fun _ _ => trivial, ?_⟩
    obtain ⟨a, ha⟩ : ∃ a : Nat, L.getD p 0 % 256 % (i : Int) = (a : Int) := ⟨(L.getD p 0 % 256 % (i : Int)).toNat, by have := Int.emod_nonneg (L.getD p 0 % 256) (b := (i : Int)) (by omega); omega⟩
    have hai : a < i := by have := Int.emod_lt_of_pos (L.getD p 0 % 256) (b := (i : Int)) (by omega); omega
    rw [ha]
    have hp1 := nG hp
    have hO7 := hO6.ext ((Ex.refl w6).drew)
    replace hO7 := hO7.chg hc7 h5g h5gs
    have hE7 := hE6.drew.chg hc7 hlo5
    repeat' (first|refine ai rfl ?_)
    refine aw (jS hT7 (hL.ext hE7) hI hne hp1 (i : Int) (by omega)) rfl ?_
    rintro v w8 ⟨rfl, hc8, hT8⟩
    refine ⟨fun _ _ => trivial, ?_⟩
    obtain ⟨b, hb⟩ : ∃ b : Nat, L.getD (tAt L p) 0 % 256 % (i : Int) = (b : Int) := ⟨(L.getD (tAt L p) 0 % 256 % (i : Int)).toNat, by have := Int.emod_nonneg (L.getD (tAt L p) 0 % 256) (b := (i : Int)) (by omega); omega⟩
    have hbi : b < i := by have := Int.emod_lt_of_pos (L.getD (tAt L p) 0 % 256) (b := (i : Int)) (by omega); omega
    rw [hb]
    have hp2 := nG hp1
    have hO8 := hO7.chg hc8 h5g h5gs
    have hE8 := hE7.chg hc8 hlo5
    repeat' (first|refine ai rfl ?_|refine aa ?_|refine aj ?_|refine ah rfl ?_|refine ae ?_)
    refine aw (gL hT8 (hL.ext hE8) hI hne hp2) rfl ?_
    rintro v w9 ⟨rfl, hc9, hT9⟩
    refine ⟨fun _ _ => trivial, ?_⟩
    have hp3 := nG hp2
    have hO9 := hO8.chg hc9 h5g h5gs
    have hE9 := hE8.chg hc9 hlo5
    have hcr : -2 ≤ (L.getD (tAt L (tAt L p)) 0).tmod 3 ∧ (L.getD (tAt L (tAt L p)) 0).tmod 3 ≤ 2 := uU _
    repeat' (first|refine sA rfl rfl (by decide) ?_|refine ai rfl ?_|refine aa ?_|refine aj ?_|refine ah rfl ?_|refine ae ?_|refine aY rfl ?_|refine aB ?_)
    generalize (L.getD (tAt L (tAt L p)) 0).tmod 3 = c at hcr
    generalize tAt L (tAt L (tAt L p)) = p3 at *
    have hUm := hU6.um c hai hbi
    have hBm := UmB.um hB6 hcr hai hbi
    have hF3 : (3 : Nat) ^ k ≤ 531441 := Nat.le_trans (Nat.pow_le_pow_right (by decide) hk) (by decide)
    clear hO7 hO8 hT7 hT8 hc7 hc8 hc9 ha hb hT6 hO6
    refine aW (ι := Nat) [12, 62, 63, 64, 65, 66, 67, 68, 69, 70, 71, 72, 73, 74, 75, 76, 77, 78, 79, 80, 81, 82, 83, 84, 85, 86, 87, 88, 89, 90, 91, 92, 93, 94, 95, 96, 97, 98, 99, 100, 101, 102, 103, 104, 105, 106, 107, 108, 109, 110, 111, 112, 113, 114, 115, 116, 117, 118, 119, 120, 121, 122, 123, 124, 125, 126, 127, 128, 129, 130, 131, 132, 133, 134, 135, 136, 137, 138, 139, 140, 141, 142, 143] (fun t => [(62, .int .i64 (t : Int))])
     (fun t w' => t ≤ i ∧ Ex w w' ∧ Blk w' g5 57 (tapeL la L.length lc p3) ∧ MIO w' w.heap.size g i i gs (fun x y => if x < t then umF F a b c x y else F x y)) (fun t => i - t)
     0 ⟨rfl, trivial⟩ ⟨Nat.zero_le _, hE9, hT9, hO9.congr fun x y _ _ => if_neg (by omega)⟩ ?_
    clear hO9 hT9
    rintro t ξ3 w10 ⟨ht, hE10, hT10, hO10⟩
    show CW _ _ _ _ (over [(62, .int .i64 (t : Int))] _) w10
    rcases Nat.lt_or_ge t i with hti | hti
    ·have hr10 : Blk w10 (gs t) 2 (intC i (F t)) := by rw [← dJ (f := fun y => if t < t then umF F a b c t y else F t y) (fun y _ => if_neg (Nat.lt_irrefl t))]; exact (hO10.row t hti).2
     have hgt := (hO10.row t hti).1
     have h5t := h5gs t hti
     have hFa := hB6 t a hti hai
     have hFb := hB6 t b hti hbi
     have hEd := (Ex.refl w10).drew
     by_cases hab : a = b
     ·subst hab
      by_cases hc0 : c < 0
      ·repeat' (first|refine bv rfl rfl (show ((t : Nat) : Int) < ((i : Nat) : Int) by omega) ?_|refine aa ?_|refine aj ?_|refine ah rfl ?_|refine ae ?_|refine aC rfl ?_|refine aF ?_)
       refine aB ?_
       repeat' (first|refine ai rfl ?_|refine aa ?_|refine aj ?_|refine ah rfl ?_|refine ae ?_)
       refine aB ?_
       repeat' (first|refine gQ rfl rfl rfl ?_|refine bv rfl rfl hc0 ?_|refine ai rfl ?_|refine aa ?_|refine aj ?_|refine ah rfl ?_|refine ae ?_|refine bG rfl rfl ?_|refine aC rfl ?_)
       refine bn (late := [14]) (plan := [(0, none), (1, none), (2, none), (3, none), (4, none), (5, none), (6, none), (7, none), (8, none), (9, none), (10, none), (11, none), (12, none), (13, none), (14, some false)]) (fun w' => Ex w10 w') bC (by kernel_rfl) hEd ?_
       repeat' (first|refine aD (j := t) (a := some ⟨g, 0, none⟩) rfl rfl ⟨_, _, rfl⟩ (by omega) ?_|refine aZ (j := t) (a := some ⟨g, 0, none⟩) (n := i) (s := fun k => ⟨some ⟨gs k, 0, none⟩, i, i⟩) rfl (fun _ h => (hO10.ext h).top.sl) (by omega) rfl ?_|refine aD (j := a) (a := some ⟨gs t, 0, none⟩) rfl rfl ⟨_, _, rfl⟩ (by omega) ?_|refine eT (j := a) (a := some ⟨gs t, 0, none⟩) (n := i) (f := F t) rfl (fun _ h => (hr10.ext h).sl) (by omega) ?_|refine oK (m := F t a) (m' := -F t a) rfl rfl (by omega) (by omega) ?_|refine ai rfl ?_)
       refine dW (j := a) rfl rfl (hr10.ext hEd) (by omega) (fun w11 hc11 hb11 => ⟨fun h => (nomatch h), ?_⟩)
       repeat' (first|refine ai rfl ?_|refine aa ?_|refine ah rfl ?_|refine ae ?_|refine bi rfl rfl (by omega) (by omega) ?_|refine aJ ?_)
       refine ⟨⟨t + 1, ⟨hti, (hE10.trans hEd).chg hc11 hgt, (hT10.ext hEd).chg hc11 h5t, og (hO10.ext hEd) hti hc11 hb11 fun y hy => ?_⟩, by omega, rfl, trivial⟩, (by (repeat (first|exact aH _ _ _|refine ax rfl ?_|refine av rfl ?_|refine ak rfl ?_|refine ao rfl ?_)))⟩
       unfold umF setF Go.LA.cneg
       rw [if_pos rfl, if_pos hc0]
      ·repeat' (first|refine bv rfl rfl (show ((t : Nat) : Int) < ((i : Nat) : Int) by omega) ?_|refine gQ rfl rfl rfl ?_|refine bu rfl rfl (show (0 : Int) ≤ c by omega) ?_|refine dq rfl rfl rfl ?_|refine ai rfl ?_|refine aa ?_|refine aj ?_|refine ah rfl ?_|refine ae ?_|refine bG rfl rfl ?_|refine bP rfl rfl ?_|refine bi rfl rfl (by omega) (by omega) ?_|refine aC rfl ?_|refine ay rfl ?_|refine aB ?_|refine aJ ?_|refine aF ?_)
       refine ⟨⟨t + 1, ⟨hti, hE10, hT10, hO10.congr fun x y _ _ => ?_⟩, by omega, rfl, trivial⟩, (by (repeat (first|exact aH _ _ _|refine ax rfl ?_|refine av rfl ?_|refine ak rfl ?_|refine ao rfl ?_)))⟩
       by_cases e : x < t
       ·rw [if_pos e, if_pos (by omega)]
       ·rw [if_neg e]
        by_cases e' : x < t + 1
        ·rw [if_pos e']; unfold umF; rw [if_pos rfl, if_neg hc0]
        ·rw [if_neg e']
     ·have habi : ((a : Nat) : Int) ≠ ((b : Nat) : Int) := by omega
      by_cases hc0 : c = 0
      ·subst hc0
       repeat' (first|refine bv rfl rfl (show ((t : Nat) : Int) < ((i : Nat) : Int) by omega) ?_|refine aa ?_|refine aj ?_|refine ah rfl ?_|refine ae ?_|refine aC rfl ?_|refine aF ?_)
       refine aB ?_
       repeat' (first|refine ai rfl ?_|refine aa ?_|refine aj ?_|refine ah rfl ?_|refine ae ?_)
       refine aB ?_
       repeat' (first|refine fz rfl rfl habi ?_|refine eQ rfl rfl habi ?_|refine gQ rfl rfl rfl ?_|refine ai rfl ?_|refine aa ?_|refine aj ?_|refine ah rfl ?_|refine ae ?_|refine bG rfl rfl ?_|refine bP rfl rfl ?_|refine aC rfl ?_|refine ay rfl ?_)
       refine bn (late := [25, 27]) (plan := [(0, none), (1, none), (2, none), (3, none), (4, none), (5, none), (6, none), (7, none), (8, none), (9, none), (10, none), (11, none), (12, none), (13, none), (14, none), (15, none), (16, none), (17, none), (18, none), (19, none), (20, none), (21, none), (22, none), (23, none), (24, none), (25, some false), (26, none), (27, some false)]) (fun w' => Ex w10 w') bC (by kernel_rfl) hEd ?_
       repeat' (first|refine aD (j := t) (a := some ⟨g, 0, none⟩) rfl rfl ⟨_, _, rfl⟩ (by omega) ?_|refine aZ (j := t) (a := some ⟨g, 0, none⟩) (n := i) (s := fun k => ⟨some ⟨gs k, 0, none⟩, i, i⟩) rfl (fun _ h => (hO10.ext h).top.sl) (by omega) rfl ?_|refine aD (j := a) (a := some ⟨gs t, 0, none⟩) rfl rfl ⟨_, _, rfl⟩ (by omega) ?_|refine aD (j := b) (a := some ⟨gs t, 0, none⟩) rfl rfl ⟨_, _, rfl⟩ (by omega) ?_|refine eT (j := a) (a := some ⟨gs t, 0, none⟩) (n := i) (f := F t) rfl (fun _ h => (hr10.ext h).sl) (by omega) ?_|refine eT (j := b) (a := some ⟨gs t, 0, none⟩) (n := i) (f := F t) rfl (fun _ h => (hr10.ext h).sl) (by omega) ?_|refine ai rfl ?_)
       refine dW (j := a) rfl rfl (hr10.ext hEd) (by omega) (fun w11 hc11 hb11 => ⟨fun h => (nomatch h), ?_⟩)
       repeat' (first|refine aD (j := b) (a := some ⟨gs t, 0, none⟩) rfl rfl ⟨_, _, rfl⟩ (by omega) ?_)
       refine dW (j := b) rfl rfl hb11 (by omega) (fun w12 hc12 hb12 => ⟨fun h => (nomatch h), ?_⟩)
       repeat' (first|refine ai rfl ?_|refine aa ?_|refine ah rfl ?_|refine ae ?_|refine bi rfl rfl (by omega) (by omega) ?_|refine aJ ?_)
       refine ⟨⟨t + 1, ⟨hti, ((hE10.trans hEd).chg hc11 hgt).chg hc12 hgt, ((hT10.ext hEd).chg hc11 h5t).chg hc12 h5t, og (hO10.ext hEd) hti (hc11.trans hc12) hb12 fun y hy => ?_⟩, by omega, rfl, trivial⟩, (by (repeat (first|exact aH _ _ _|refine ax rfl ?_|refine av rfl ?_|refine ak rfl ?_|refine ao rfl ?_)))⟩
       unfold umF setF Go.LA.cswp
       rw [if_neg hab, if_pos rfl]
       by_cases e : y = b
       ·subst e; rw [if_pos rfl, if_neg (Ne.symm hab), if_pos rfl]
       ·rw [if_neg e]
        by_cases e' : y = a
        ·subst e'; rw [if_pos rfl, if_pos rfl, if_neg e]
        ·rw [if_neg e', if_neg e', if_neg e]
      ·repeat' (first|refine bv rfl rfl (show ((t : Nat) : Int) < ((i : Nat) : Int) by omega) ?_|refine aa ?_|refine aj ?_|refine ah rfl ?_|refine ae ?_|refine aC rfl ?_|refine aF ?_)
       refine aB ?_
       repeat' (first|refine ai rfl ?_|refine aa ?_|refine aj ?_|refine ah rfl ?_|refine ae ?_)
       refine aB ?_
       repeat' (first|refine fz rfl rfl habi ?_|refine eQ rfl rfl habi ?_|refine fz rfl rfl hc0 ?_|refine ai rfl ?_|refine aa ?_|refine aj ?_|refine ah rfl ?_|refine ae ?_|refine bG rfl rfl ?_|refine bP rfl rfl ?_|refine aC rfl ?_|refine ay rfl ?_)
       have hm1 : (c * F t b).natAbs ≤ 2 * 531441 := by
        rw [Int.natAbs_mul]; exact Nat.mul_le_mul (by omega) (by omega)
       refine bn (late := [18]) (plan := [(0, none), (1, none), (2, none), (3, none), (4, none), (5, none), (6, none), (7, none), (8, none), (9, none), (10, none), (11, none), (12, none), (13, none), (14, none), (15, none), (16, none), (17, none), (18, some false)]) (fun w' => Ex w10 w') bC (by kernel_rfl) hEd ?_
       repeat' (first|refine aD (j := t) (a := some ⟨g, 0, none⟩) rfl rfl ⟨_, _, rfl⟩ (by omega) ?_|refine aZ (j := t) (a := some ⟨g, 0, none⟩) (n := i) (s := fun k => ⟨some ⟨gs k, 0, none⟩, i, i⟩) rfl (fun _ h => (hO10.ext h).top.sl) (by omega) rfl ?_|refine aD (j := a) (a := some ⟨gs t, 0, none⟩) rfl rfl ⟨_, _, rfl⟩ (by omega) ?_|refine aD (j := b) (a := some ⟨gs t, 0, none⟩) rfl rfl ⟨_, _, rfl⟩ (by omega) ?_|refine eT (j := a) (a := some ⟨gs t, 0, none⟩) (n := i) (f := F t) rfl (fun _ h => (hr10.ext h).sl) (by omega) ?_|refine eT (j := b) (a := some ⟨gs t, 0, none⟩) (n := i) (f := F t) rfl (fun _ h => (hr10.ext h).sl) (by omega) ?_|refine jG rfl rfl (by omega) (by omega) ?_|refine bi rfl rfl (by omega) (by omega) ?_|refine ai rfl ?_)
       refine dW (j := a) rfl rfl (hr10.ext hEd) (by omega) (fun w11 hc11 hb11 => ⟨fun h => (nomatch h), ?_⟩)
       repeat' (first|refine ai rfl ?_|refine aa ?_|refine ah rfl ?_|refine ae ?_|refine bi rfl rfl (by omega) (by omega) ?_|refine aJ ?_)
       refine ⟨⟨t + 1, ⟨hti, (hE10.trans hEd).chg hc11 hgt, (hT10.ext hEd).chg hc11 h5t, og (hO10.ext hEd) hti hc11 hb11 fun y hy => ?_⟩, by omega, rfl, trivial⟩, (by (repeat (first|exact aH _ _ _|refine ax rfl ?_|refine av rfl ?_|refine ak rfl ?_|refine ao rfl ?_)))⟩
       unfold umF setF cadd
       rw [if_neg hab, if_neg hc0]
    ·obtain rfl : t = i := by omega
     repeat' (first|refine bu rfl rfl (show ((t : Nat) : Int) ≤ ((t : Nat) : Int) by omega) ?_|refine ai rfl ?_|refine aa ?_|refine aj ?_|refine ah rfl ?_|refine ae ?_|refine bi rfl rfl (by omega) (by omega) ?_|refine ay rfl ?_|refine aS ?_|refine aL ?_|refine aT ?_|refine aJ ?_)
     exact ⟨⟨(k + 1, p3, umF F a b c), ⟨⟨hk12, hp3, hE10⟩, hT10, hO10.congr fun x y hx _ => (if_pos hx).symm, hUm, hBm.mono (by rw [Nat.pow_succ]; omega)⟩, by simp only; omega, rfl, trivial⟩, (by (repeat (first|exact aH _ _ _|refine ax rfl ?_|refine av rfl ?_|refine ak rfl ?_|refine ao rfl ?_)))⟩
   ·obtain rfl : p = L.length := by omega
    repeat' (first|refine bv rfl rfl (show ((k : Nat) : Int) < 12 by omega) ?_|refine jF rfl ?_|refine aU (g := g5) rfl (fun _ h => hT6.ext h) rfl ?_|refine bu rfl rfl (Int.le_refl _) ?_|refine ai rfl ?_|refine aa ?_|refine aj ?_|refine ah rfl ?_|refine ae ?_|refine aY rfl ?_|refine bG rfl rfl ?_|refine aP rfl ?_|refine ay rfl ?_|refine aS ?_|refine aL ?_|refine aT ?_|refine aK ?_)
    exact bB rfl (rt rfl) ⟨g, gs, F, rfl, hO6.ext (Ex.refl w6).drew, hU6, hB6.mono (Nat.le_trans (Nat.pow_le_pow_right (by decide) hk) (by decide)), hE6.drew⟩
  ·repeat' (first|refine bu rfl rfl (show (12 : Int) ≤ ((k : Nat) : Int) by omega) ?_|refine ai rfl ?_|refine aa ?_|refine aj ?_|refine ah rfl ?_|refine ae ?_|refine bP rfl rfl ?_|refine ay rfl ?_|refine aS ?_|refine aL ?_|refine aT ?_|refine aK ?_)
   exact bB rfl (rt rfl) ⟨g, gs, F, rfl, hO6.ext (Ex.refl w6).drew, hU6, hB6.mono (Nat.le_trans (Nat.pow_le_pow_right (by decide) hk) (by decide)), hE6.drew⟩
end Go.Proofs.Ytiejljicpinheaa
namespace Go.Proofs.Ytiejljicpinheaa
open Go.W Go.LM Go.LA Go.PM
set_option maxHeartbeats 8000000 in
theorem me {rows cols : Int} (h1 : 0 ≤ rows ∧ rows ≤ 255) (h2 : 0 ≤ cols ∧ cols ≤ 255) {L : List Int} {la : Option Addr} {w : World} (hL : Sl w la (int8L L)) (hI : I8 L) (lc : Nat) {L2 : List Int} {la2 : Option Addr} (hL2 : Sl w la2 (int8L L2)) (hI2 : I8 L2) (lc2 : Nat) :
  CallsR Try.prog 3 #[.agg (gridL rows cols la L.length lc).toArray, .slice la2 L2.length lc2] w fun v w' => v = .bool true ∧ Ex w w' := by
 refine aG (args := [_, _]) Try.func3 rfl rfl ?_
 refine aj ?_
 refine ah rfl ?_
 refine bH (vs := gridL rows cols la L.length lc) rfl (fun g1 w1 hn1 => ⟨fun _ _ => trivial, ?_⟩)
 obtain ⟨r, c, A, hr, hc, hmat⟩ := od (most := 5) hL hI h1 h2 (by omega) lc
 repeat' (first|refine aR (cs := gridL rows cols la L.length lc) (g := g1) rfl hn1.blk rfl ?_|refine ai rfl ?_|refine aa ?_|refine aj ?_|refine ah rfl ?_|refine ae ?_)
 refine aw (hmat _ hn1.ex) rfl ?_
 rintro v w2 ⟨g2, gs2, cp2, rfl, hO2, hE2⟩
 refine ⟨fun _ _ => trivial, ?_⟩
 have hE02 := hn1.ex.trans hE2
 repeat' (first|refine aD (j := 0) (a := some ⟨g2, 0, none⟩) rfl rfl ⟨_, _, rfl⟩ (by omega) ?_|refine aZ (j := 0) (a := some ⟨g2, 0, none⟩) (n := r) (s := fun k => ⟨some ⟨gs2 k, 0, none⟩, c, cp2 k⟩) rfl hO2.top.sl (by omega) rfl ?_|refine ai rfl ?_|refine aa ?_|refine aj ?_|refine ah rfl ?_|refine ae ?_|refine aY rfl ?_)
 refine aw (ni (n := c) (hL2.ext hE02) hI2 (by omega)) rfl ?_
 rintro v w3 ⟨g3, gs3, U, rfl, hO3, hU3, hB3, hE3⟩
 refine ⟨fun _ _ => trivial, ?_⟩
 skip
 refine aw (dK (hO3.mi fun i j hi hj => by have := hB3 i j hi hj; omega) (by omega) (by omega)) rfl ?_
 rintro v w4 ⟨g4, gs4, cp4, rfl, hO4, hE4⟩
 refine ⟨fun _ _ => trivial, ?_⟩
 have hE24 := hE3.trans hE4
 have hE04 := hE02.trans hE24
 have hA4 := hO2.ext hE24
 repeat' (first|refine ai rfl ?_|refine aa ?_|refine aj ?_|refine ah rfl ?_|refine ae ?_)
 refine aw (dy hA4.mx (by omega) (by omega) (by omega) (by omega)) rfl ?_
 rintro v w5 ⟨g5, g5', gs5, cp5, gs5', cp5', H5, U5, k5zz, p5, rfl, hF5, hE5⟩
 refine ⟨fun _ _ => trivial, ?_⟩
 repeat' (first|refine aO rfl rfl ?_|refine ai rfl ?_|refine aa ?_|refine aj ?_|refine ah rfl ?_|refine ae ?_)
 refine aw (jr (hA4.ext hE5).mx (hO4.ext hE5).mx (by omega) (by omega) (by omega) (by omega)) rfl ?_
 rintro v w6 ⟨g6, gs6, cp6, rfl, hO6, hE6⟩
 refine ⟨fun _ _ => trivial, ?_⟩
 skip
 refine aw (dy hO6.mx (by omega) (by omega) (by omega) (by omega)) rfl ?_
 rintro v w7 ⟨g7, g7', gs7, cp7, gs7', cp7', H7, U7, k7zz, p7zz, rfl, hF7, hE7⟩
 refine ⟨fun _ _ => trivial, ?_⟩
 have hE57 := hE6.trans hE7
 repeat' (first|refine aO rfl rfl ?_|refine ai rfl ?_|refine aa ?_|refine aj ?_|refine ah rfl ?_|refine ae ?_)
 refine aw (dy (hF5.h.ext hE57).mx (by omega) (by omega) (by omega) (by omega)) rfl ?_
 rintro v w8 ⟨g8, g8', gs8, cp8, gs8', cp8', H8, U8, k8zz, p8zz, rfl, hF8, hE8⟩
 refine ⟨fun _ _ => trivial, ?_⟩
 have hE58 := hE57.trans hE8
 have hE08 := (hE04.trans hE5).trans hE58
 have same57 : ∀ i j, i < r → j < c → H5 i j = H7 i j := HF.unique' hF5.hf hF7.hf fun v =>
  (hF5.ceq.inL v).trans (((hF7.ceq.inL v).trans (InL.uni hU3 (fun _ _ _ _ => rfl) v)).symm)
 have same58 : ∀ i j, i < r → j < c → H5 i j = H8 i j := HF.unique' hF5.hf hF8.hf fun v => (hF8.ceq.inL v).symm
 repeat' (first|refine aO rfl rfl ?_|refine qk rfl rfl ?_|refine ai rfl ?_|refine aa ?_|refine aj ?_|refine ah rfl ?_|refine ae ?_|refine aY rfl ?_|refine bG rfl rfl ?_)
 refine aw (d6 ((hF5.h.ext hE58).mx.ac (by omega)) ((hF7.h.ext hE8).mx.ac (by omega)) (by omega)) rfl ?_
 rintro v w9 ⟨t9zz, rfl, ht9, hE9⟩
 refine ⟨fun _ _ => trivial, ?_⟩
 obtain rfl : t9zz = true := ht9.2 ⟨rfl, fun i hi => ⟨rfl, fun j hj => same57 i j hi hj⟩⟩
 repeat' (first|refine ai rfl ?_|refine bG rfl rfl ?_)
 refine aw (d6 ((hF5.h.ext (hE58.trans hE9)).mx.ac (by omega)) ((hF8.h.ext hE9).mx.ac (by omega)) (by omega)) rfl ?_
 rintro v w10 ⟨t10, rfl, ht10, hE10⟩
 refine ⟨fun _ _ => trivial, ?_⟩
 obtain rfl : t10 = true := ht10.2 ⟨rfl, fun i hi => ⟨rfl, fun j hj => same58 i j hi hj⟩⟩
 have hE810 := hE9.trans hE10
 repeat' (first|refine ai rfl ?_|refine bG rfl rfl ?_)
 refine aw (pH (uR (hF5.h.ext (hE58.trans hE810))) (by decide)) rfl ?_
 rintro v w11 ⟨t11, rfl, ht11, hE11⟩
 refine ⟨fun _ _ => trivial, ?_⟩
 obtain rfl : t11 = true := ht11.2 ⟨uS (by omega) (by omega), k5zz, p5, hF5.hf⟩
 repeat' (first|refine ai rfl ?_|refine bG rfl rfl ?_)
 refine aw (nf _) rfl ?_
 rintro v wz ⟨rfl, hEz⟩
 refine ⟨fun _ _ => trivial, ?_⟩
 repeat' (first|refine ai rfl ?_|refine aa ?_|refine ae ?_|refine aK ?_)
 exact bB rfl (rt rfl) ⟨rfl, (hE08.trans hE810).trans (hE11.trans hEz)⟩
end Go.Proofs.Ytiejljicpinheaa
namespace Go.Proofs.Ytiejljicpinheaa
open Go.W Go.LM Go.LA Go.PM Go.ChangeShapes Go.WideShapes Go.ChangeAt Go.RowKit
theorem oh {H : Type} {enc : TypeId × Value → H} {P : Program} {W : World} {t e : TypeId} {fuel : Nat} {v : Value} {x : DataW H × List MemPlace} (ht : P.underlying t = some (.slice e)) (he : P.underlying e = some (.int .i8)) (hc : P.cellsOf e = 1)
  (hf : DataW.trod enc P W 0 (fun _ => true) true fuel t [v] = some x) :
  ∃ (a : Option Addr) (xs : List Int) (c : Nat), v = .slice a xs.length c ∧ Sl W a (int8L xs) ∧ I8 xs := by
 rcases open_ints ht he hc hf with ⟨hcs, hx⟩ | ⟨a, len, cap, zs, hcs, _, hl, hm, hz, hx, hcell, hwz⟩
 ·simp only [List.cons.injEq, and_true] at hcs
  subst hcs
  exact ⟨none, [], 0, rfl, Sl.nil _ _, by simp, by simp⟩
 ·simp only [List.cons.injEq, and_true] at hcs
  subst hcs
  simp only [if_true] at hz
  unfold maxLen at hm
  refine ⟨some a, (List.range len).map fun c => zs.getD c 0, cap, by simp, ?_, by simp; omega, fun x hx => ?_⟩
  ·rw [int8L, List.map_map]
   refine mb (fun e => nomatch e) fun a' e c hc' => ?_
   cases e
   exact hcell c (by omega)
  ·rw [List.mem_map] at hx
   obtain ⟨c, hc', rfl⟩ := hx
   have := List.mem_range.1 hc'
   exact si (hwz _ (by rw [List.getD_eq_getElem?_getD, List.getElem?_eq_getElem (show c < zs.length by omega)]; exact List.getElem_mem _))
set_option maxRecDepth 100000 in
theorem pI {H : Type} {enc : TypeId × Value → H} {W : World} {v : Value} {d : DataW H} {ps : List MemPlace} {r : Reach} {b0 : Nat} (hval : Value.okWide Try.prog W r b0 24 v) (h : DataW.Trod enc Try.prog W 0 (fun _ => true) true 24 v d ps) :
  ∃ (rows cols : Int) (a : Option Addr) (L : List Int) (c : Nat), v = .agg (gridL rows cols a L.length c).toArray ∧ (0 ≤ rows ∧ rows ≤ 255) ∧ (0 ≤ cols ∧ cols ≤ 255) ∧ Sl W a (int8L L) ∧ I8 L := by
 obtain ⟨f0, f1, f2, hs, h0, h1, h2⟩ : ∃ f0 f1 f2, Try.prog.underlying 24 = some (.struct #[f0, f1, f2]) ∧ f0.type = 5 ∧ f1.type = 5 ∧ f2.type = 22 :=
  ⟨(Try.prog.fieldsOf 24)[0]!, (Try.prog.fieldsOf 24)[1]!, (Try.prog.fieldsOf 24)[2]!, by kernel_rfl, by kernel_rfl, by kernel_rfl, by kernel_rfl⟩
 have hone : Deep.oneCellFields Try.prog #[f0, f1, f2] = true := by
  have e : Try.prog.underlying 24 = some (.struct (Try.prog.fieldsOf 24)) := by kernel_rfl
  rw [hs] at e
  simp only [Option.some.injEq, TypeDesc.struct.injEq] at e
  have hk : Deep.oneCellFields Try.prog (Try.prog.fieldsOf 24) = true := by kernel_rfl
  rw [e]; exact hk
 obtain ⟨c0, c1, c2, y0, y1, y2, m, rfl, rfl, rfl, q0, q1, q2⟩ := Joins.open_agg3 hs hone (by kernel_rfl) hval h
 rw [h0] at q0
 rw [h1] at q1
 rw [h2] at q2
 obtain ⟨n, hn, _, hw⟩ := DataW.trod_int (k := .u8) (by kernel_rfl) q0
 obtain ⟨n', hn', _, hw'⟩ := DataW.trod_int (k := .u8) (by kernel_rfl) q1
 obtain ⟨a, L, c, rfl, hL, hI⟩ := oh (e := 83) (by kernel_rfl) (by kernel_rfl) (by kernel_rfl) q2
 simp only [List.cons.injEq, and_true] at hn hn'
 subst hn; subst hn'
 exact ⟨n, n', a, L, c, rfl, sg hw, sg hw', hL, hI⟩
end Go.Proofs.Ytiejljicpinheaa
