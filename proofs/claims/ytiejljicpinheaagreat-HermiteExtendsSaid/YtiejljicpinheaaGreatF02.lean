import Derived.Test.YtiejljicpinheaaGreatF01
namespace Go.Proofs.YtiejljicpinheaaGreat
open Go.W Go.LM Go.LA
theorem wg {P : Program} {S : World → Prop} {ops : List Oper} {K : Env → World → Prop} {rest : List (Oper × Option Bool)} {ρ : Env} {w : World} {b : Option Bool} {d : Nat} {T : TypeId} {pos : String} {af : Array Edge} {x : Operand} {T1 : TypeId} {g o j n : Nat} {f : Nat → IH} [Scal P T1] (hx : ev ρ x = .pointer (some ⟨g, o + j * 2 + 1, none⟩)) (hs : Rd b S w fun w' => Sl w' (some ⟨g, o, none⟩) (rowC n f)) (hj : j < n)
  (h : RR P S ops K rest (upd ρ d (.slice (f j).sd.a (f j).sd.len (f j).sd.cap)) w) : RR P S ops K ((⟨some d, .load T1 x, T, pos, af, none⟩, b) :: rest) ρ w :=
 gD hx (hs.imp fun w' hs => by
  have := hs.get (j * 2 + 1) (by rw [bT]; omega)
  rw [List.getD_eq_getElem?_getD, (kE hj).2] at this
  exact this) h
def nsm : Nat → (Nat → Nat) → Nat
 | 0, _ => 0
 | n + 1, f => nsm n f + f n
theorem wk {n : Nat} {f : Nat → Nat} : ∀ {m : Nat}, m ≤ n → nsm m f ≤ nsm n f := by
 induction n with
 | zero => intro m h; obtain rfl : m = 0 := by omega
           exact Nat.le_refl _
 | succ n ih =>
  intro m h
  rcases Nat.lt_or_ge n m with h1 | h1
  ·obtain rfl : m = n + 1 := by omega
   exact Nat.le_refl _
  ·exact Nat.le_trans (ih h1) (Nat.le_add_right _ _)
theorem v9 {n i : Nat} {f : Nat → Nat} (h : i < n) : f i ≤ nsm n f := by
 have := wk (f := f) (show i + 1 ≤ n by omega)
 have e : nsm (i + 1) f = nsm i f + f i := rfl
 omega
theorem wh {n c : Nat} {f : Nat → Nat} (h : ∀ i, i < n → f i = c) : nsm n f = n * c := by
 induction n with
 | zero => simp [nsm]
 | succ n ih => rw [nsm, ih fun i hi => h i (by omega), h n (by omega), Nat.succ_mul]
theorem wj (n : Nat) (f g : Nat → Nat) : nsm n (fun i => f i + g i) = nsm n f + nsm n g := by
 induction n with
 | zero => rfl
 | succ n ih => simp only [nsm]; rw [ih]; omega
def lgN (s : Nat → SD) (L : Nat → Nat → List Nat) (n i : Nat) : Nat := n + nsm i fun k => (s k).len + nsm (s k).len fun j => (L k j).length
def valF (h : Nat → Nat → IH) (L : Nat → Nat → List Nat) : Mat := fun i j => sgn (h i j).neg (natOf (L i j))
set_option maxRecDepth 10000 in
set_option maxHeartbeats 4000000 in
theorem we {n cap : Nat} {w : World} {a : Option Addr} {s : Nat → SD} {h : Nat → Nat → IH} {L : Nat → Nat → List Nat} (hM : RawM w a n s h L) :
  CallsR Tryz.prog 20 #[.slice a n cap] w fun v w' => ∃ t : Bool, v = .bool t ∧ (t = false → lgN s L n n ≤ 60) ∧ Ex w w' := by
 refine aF (args := [_]) Tryz.func20 rfl rfl ?_
 repeat' (first|refine ai rfl ?_|refine aa ?_|refine aj ?_|refine ah rfl ?_|refine ae ?_|refine aZ rfl ?_|refine aA ?_)
 have hmx := hM.max
 refine aY (ι := Nat × Nat) [3, 4, 5, 8, 9, 10, 11, 12, 13, 14, 15, 16, 17, 18, 19, 20, 21, 22, 23, 24, 25, 26, 27, 28, 29, 30, 31, 32, 33, 34, 35, 36, 37, 38, 39, 40, 41, 42, 43, 44, 45, 46, 47, 48] (fun t => [(4, .int .i64 (t.1 : Int)), (3, .int .i64 (t.2 : Int))])
  (fun t w' => t.1 ≤ n ∧ Ex w w' ∧ t.2 ≤ 422212465065984 ∧ (t.2 < 1000 → t.2 = lgN s L n t.1)) (fun t => n - t.1)
  (0, n) ⟨rfl, rfl, trivial⟩ ⟨Nat.zero_le _, Ex.refl _, Nat.le_trans hmx (by omega), fun _ => (Nat.add_zero n).symm⟩ ?_
 rintro ⟨i, m⟩ ξ w1 ⟨hi, hE1, hm, hl⟩
 simp only at hi hm hl
 show CW _ _ _ _ (over [(4, .int .i64 (i : Int)), (3, .int .i64 (m : Int))] _) w1
 have hM1 := hM.ext hE1
 have hpt : 0 < n → W.plain a := fun h0 => hM.top.plain (by rw [bP]; exact h0)
 rcases Nat.lt_or_ge i n with hin | hin
 ·rcases Nat.lt_or_ge m 1000 with hm1 | hm1
  ·have hR := hM1.row i hin
   have hmR := hR.max
   have hlm := hl hm1
   repeat' (first|refine bu rfl rfl (show ((i : Nat) : Int) < ((n : Nat) : Int) by omega) ?_|refine bu rfl rfl (show ((m : Nat) : Int) < 1000 by omega) ?_|refine aD (j := i) rfl rfl (hpt (by omega)) (by omega) ?_|refine cG (j := i) rfl hM1.top (by omega) ?_|refine ai rfl ?_|refine aa ?_|refine aj ?_|refine ah rfl ?_|refine ae ?_|refine aZ rfl ?_|refine bz rfl rfl ?_|refine bc rfl rfl (by omega) (by omega) ?_|refine az rfl ?_|refine aA ?_|refine aE ?_)
   refine aY (ι := Nat × Nat) [3, 5, 25, 26, 27, 28, 29, 30, 31, 32, 33, 34, 35, 36, 37, 38, 39, 40, 41, 42, 43, 44, 45, 46, 47, 48] (fun t => [(5, .int .i64 (t.1 : Int)), (3, .int .i64 (t.2 : Int))])
    (fun t w' => t.1 ≤ (s i).len ∧ Ex w1 w' ∧ t.2 ≤ 140737488360000 ∧ (t.2 < 1000 → t.2 = lgN s L n i + (s i).len + nsm t.1 fun j => (L i j).length)) (fun t => (s i).len - t.1)
    (0, m + (s i).len) ⟨rfl, by show Value.int .i64 ((m : Int) + ((s i).len : Int)) = _; congr 1, trivial⟩ ⟨Nat.zero_le _, Ex.refl _, show m + (s i).len ≤ 140737488360000 by omega, fun _ => by rw [hlm]; rfl⟩ ?_
   rintro ⟨j, m2⟩ ξ2 w2 ⟨hj, hE2, hm2, hl2⟩
   simp only at hj hm2 hl2
   show CW _ _ _ _ (over [(5, .int .i64 (j : Int)), (3, .int .i64 (m2 : Int))] _) w2
   have hM2 := hM1.ext hE2
   have hR2 := hR.ext hE2
   rcases Nat.lt_or_ge j (s i).len with hjl | hjl
   ·have hI := hR2.ent j hjl
    have hmI := hI.max
    have hpr : W.plain (s i).a := hR2.sl.plain (by rw [bT]; omega)
    obtain ⟨pgzz, pozz, hpe⟩ := hpr
    have hsi : s i = ⟨some ⟨pgzz, pozz, none⟩, (s i).len, (s i).cap⟩ := by rw [← hpe]
    have hsl : Sl w2 (some ⟨pgzz, pozz, none⟩) (rowC (s i).len (h i)) := by rw [← hpe]; exact hR2.sl
    rcases Nat.lt_or_ge m2 1000 with hm21 | hm21
    ·repeat' (first|refine aD (j := i) rfl rfl (hpt (by omega)) (by omega) ?_|refine aV (j := i) rfl hM2.top (by omega) hsi ?_|(refine bu rfl rfl (show ((j : Nat) : Int) < (((s i).len : Nat) : Int) by omega) ?_)|refine bu rfl rfl (show ((m2 : Nat) : Int) < 1000 by omega) ?_|refine aT (j := j) (a := some ⟨pgzz, pozz, none⟩) rfl rfl ⟨_, _, rfl⟩ (by omega) ?_|refine wg (j := j) rfl hsl hjl ?_|refine ai rfl ?_|refine aa ?_|refine aj ?_|refine ah rfl ?_|refine ae ?_|refine aZ rfl ?_|refine bz rfl rfl ?_|refine bc rfl rfl (by omega) (by omega) ?_|refine aN rfl ?_|refine az rfl ?_|refine aA ?_|refine aL ?_|refine aE ?_)
     refine ⟨⟨(j + 1, m2 + (h i j).sd.len), ⟨hjl, hE2, show m2 + (h i j).sd.len ≤ 140737488360000 by omega, fun _ => ?_⟩, by simp only; omega, rfl, rfl, trivial⟩, (by (repeat (first|exact aH _ _ _|refine ay rfl ?_|refine av rfl ?_|refine ak rfl ?_|refine ao rfl ?_)))⟩
     show m2 + (h i j).sd.len = _ + (nsm j _ + (L i j).length)
     rw [hl2 hm21, hI.len]; omega
    ·repeat' (first|refine aD (j := i) rfl rfl (hpt (by omega)) (by omega) ?_|refine cG (j := i) rfl hM2.top (by omega) ?_|(refine bu rfl rfl (show ((j : Nat) : Int) < (((s i).len : Nat) : Int) by omega) ?_)|refine bj rfl rfl (show (1000 : Int) ≤ ((m2 : Nat) : Int) by omega) ?_|refine ai rfl ?_|refine aa ?_|refine aj ?_|refine ah rfl ?_|refine ae ?_|refine aZ rfl ?_|refine bz rfl rfl ?_|refine bc rfl rfl (by omega) (by omega) ?_|refine au rfl ?_|refine aP ?_|refine aJ ?_|refine aQ ?_|refine aL ?_)
     exact ⟨⟨(i + 1, m2), ⟨hin, hE1.trans hE2, show m2 ≤ 422212465065984 by omega, fun h => absurd h (show ¬ m2 < 1000 by omega)⟩, by simp only; omega, rfl, rfl, trivial⟩, (by (repeat (first|exact aH _ _ _|refine ay rfl ?_|refine av rfl ?_|refine ak rfl ?_|refine ao rfl ?_)))⟩
   ·repeat' (first|refine aD (j := i) rfl rfl (hpt (by omega)) (by omega) ?_|refine cG (j := i) rfl hM2.top (by omega) ?_|(refine bj rfl rfl (show (((s i).len : Nat) : Int) ≤ ((j : Nat) : Int) by omega) ?_)|refine ai rfl ?_|refine aa ?_|refine aj ?_|refine ah rfl ?_|refine ae ?_|refine aZ rfl ?_|refine bK rfl rfl ?_|refine bc rfl rfl (by omega) (by omega) ?_|refine au rfl ?_|refine aP ?_|refine aJ ?_|refine aQ ?_|refine aL ?_)
    refine ⟨⟨(i + 1, m2), ⟨hin, hE1.trans hE2, show m2 ≤ 422212465065984 by omega, fun h => ?_⟩, by simp only; omega, rfl, rfl, trivial⟩, (by (repeat (first|exact aH _ _ _|refine ay rfl ?_|refine av rfl ?_|refine ak rfl ?_|refine ao rfl ?_)))⟩
    show m2 = n + (nsm i _ + ((s i).len + nsm (s i).len fun j => (L i j).length))
    rw [hl2 h, show j = (s i).len by omega]
    unfold lgN
    omega
  ·repeat' (first|refine bu rfl rfl (show ((i : Nat) : Int) < ((n : Nat) : Int) by omega) ?_|refine bj rfl rfl (show (1000 : Int) ≤ ((m : Nat) : Int) by omega) ?_|refine kh rfl rfl (show (60 : Int) < ((m : Nat) : Int) by omega) ?_|refine ai rfl ?_|refine aa ?_|refine aj ?_|refine ah rfl ?_|refine ae ?_|refine aZ rfl ?_|refine bz rfl rfl ?_|refine au rfl ?_|refine aP ?_|refine aJ ?_|refine aQ ?_|refine aI ?_)
   exact bx rfl (rt rfl) ⟨true, rfl, fun e => (nomatch e), hE1⟩
 ·obtain rfl : i = n := by omega
  rcases Nat.lt_or_ge 60 m with h60 | h60
  ·repeat' (first|refine bj rfl rfl (show ((i : Nat) : Int) ≤ ((i : Nat) : Int) by omega) ?_|refine kh rfl rfl (show (60 : Int) < ((m : Nat) : Int) by omega) ?_|refine ai rfl ?_|refine aa ?_|refine aj ?_|refine ah rfl ?_|refine ae ?_|refine aZ rfl ?_|refine bK rfl rfl ?_|refine au rfl ?_|refine aP ?_|refine aJ ?_|refine aQ ?_|refine aI ?_)
   exact bx rfl (rt rfl) ⟨true, rfl, fun e => (nomatch e), hE1⟩
  ·repeat' (first|refine bj rfl rfl (show ((i : Nat) : Int) ≤ ((i : Nat) : Int) by omega) ?_|refine gI rfl rfl (show ((m : Nat) : Int) ≤ (60 : Int) by omega) ?_|refine ai rfl ?_|refine aa ?_|refine aj ?_|refine ah rfl ?_|refine ae ?_|refine aZ rfl ?_|refine bK rfl rfl ?_|refine au rfl ?_|refine aP ?_|refine aJ ?_|refine aQ ?_|refine aI ?_)
   exact bx rfl (rt rfl) ⟨false, rfl, fun _ => by rw [← hl (show m < 1000 by omega)]; exact h60, hE1⟩
theorem wl {n : Nat} {w : World} {a : Option Addr} {s : Nat → SD} {h : Nat → Nat → IH} {L : Nat → Nat → List Nat} (hM : RawM w a n s h L) (hl : lgN s L n n ≤ 60) :
  AM 60 w a n s (valF h L) ∧ n ≤ 60 ∧ (∀ i, i < n → (s i).len ≤ 60) ∧ (okS n s → n * (s 0).len + n ≤ 60) := by
 have hf : ∀ i, i < n → ((s i).len + nsm (s i).len fun j => (L i j).length) ≤ 60 - n ∧ n ≤ 60 := fun i hi => by
  have h1 := v9 (f := fun k => (s k).len + nsm (s k).len fun j => (L k j).length) hi
  unfold lgN at hl
  omega
 refine ⟨⟨hM.top, fun i hi => ?_⟩, by unfold lgN at hl; omega, fun i hi => by have := hf i hi; omega, fun ok => ?_⟩
 ·have hR := hM.row i hi
  refine ⟨rfl, hR.cap, h i, hR.sl, fun j hj => ⟨⟨(h i j).neg, (h i j).sd.a, (h i j).sd.cap, L i j, ?_, ⟨(hR.ent j hj).sl, (hR.ent j hj).cap, (hR.ent j hj).lim, ?_⟩, rfl, ?_⟩, fun e => nomatch e⟩⟩
  ·rw [← (hR.ent j hj).len]; rfl
  ·have h1 := v9 (f := fun j => (L i j).length) hj
   have h2 := hf i hi
   omega
  ·have h1 := v9 (f := fun j => (L i j).length) hj
   have h2 := hf i hi
   omega
 ·have h1 : nsm n (fun k => (s k).len) ≤ nsm n fun k => (s k).len + nsm (s k).len fun j => (L k j).length := by
   rw [wj n (fun k => (s k).len)]; omega
  rw [wh (f := fun k => (s k).len) (c := (s 0).len) (fun i hi => ok.2.2.2.2 i hi)] at h1
  unfold lgN at hl
  omega
end Go.Proofs.YtiejljicpinheaaGreat
namespace Go.LA
end Go.LA
namespace Go.Proofs.YtiejljicpinheaaGreat
open Go.W Go.LM Go.LA Go.PM
theorem wK {K r c lo g : Nat} {w : World} {gs cp : Nat → Nat} {F : Mat} (h : MO true K w lo g r c gs cp F) : AM K w (some ⟨g, 0, none⟩) r (fun i => ⟨some ⟨gs i, 0, none⟩, c, cp i⟩) F := h.mx.am
theorem AM.up60 {K n : Nat} {w : World} {a : Option Addr} {s : Nat → SD} {F : Mat} (h : AM K w a n s F) (hK : K ≤ 60) : AM 60 w a n s F := ⟨h.top, fun i hi => (h.row i hi).up hK⟩
theorem wq {n : Nat} {w : World} {a : Option Addr} {s : Nat → SD} {A : Mat} (h : AM 60 w a n s A) (ok : okS n s) : ∀ i j, i < n → j < (s 0).len → Lb 60 (A i j) := fun _ _ hi hj => (h.mx ok).lb hi hj
end Go.Proofs.YtiejljicpinheaaGreat
namespace Go.LA
theorem Uni.add {n i j : Nat} {F : Mat} (h : Uni n F) (c : Int) (hne : i ≠ j) (hi : i < n) (hj : j < n) : Uni n (cadd F i j c) := (CEq.add h.ceq c hne hi hj).1
theorem Uni.cswap {n i j : Nat} {F : Mat} (h : Uni n F) (hne : i ≠ j) (hi : i < n) (hj : j < n) : Uni n (cswp F i j) := (CEq.swap h.ceq hne hi hj).1
theorem Uni.cneg {n i : Nat} {F : Mat} (h : Uni n F) (hi : i < n) : Uni n (Go.LA.cneg F i) := (CEq.neg h.ceq hi).1
def umF (F : Mat) (i j : Nat) (c : Int) : Mat := if i = j then (if c < 0 then cneg F i else F) else if c = 0 then cswp F i j else cadd F i j c
def UmB (n : Nat) (F : Mat) (b : Nat) : Prop := ∀ x y, x < n → y < n → (F x y).natAbs ≤ b
theorem UmB.mono {n b b' : Nat} {F : Mat} (h : UmB n F b) (hb : b ≤ b') : UmB n F b' := fun x y hx hy => Nat.le_trans (h x y hx hy) hb
theorem Uni.um {n i j : Nat} {F : Mat} (h : Uni n F) (c : Int) (hi : i < n) (hj : j < n) : Uni n (umF F i j c) := by
 unfold umF
 by_cases e : i = j
 ·rw [if_pos e]; split
  ·exact h.cneg hi
  ·exact h
 ·rw [if_neg e]; split
  ·exact h.cswap e hi hj
  ·exact h.add c e hi hj
theorem UmB.um {n b i j : Nat} {F : Mat} {c : Int} (h : UmB n F b) (hc : -2 ≤ c ∧ c ≤ 2) (hi : i < n) (hj : j < n) : UmB n (umF F i j c) (3 * b) := by
 intro x y hx hy
 have h1 := h x y hx hy
 unfold umF
 by_cases e : i = j
 ·rw [if_pos e]; split
  ·unfold Go.LA.cneg; split
   ·rename_i hy'; subst hy'; omega
   ·omega
  ·omega
 ·rw [if_neg e]; split
  ·unfold cswp
   have h2 := h x (if y = i then j else if y = j then i else y) hx (by split; exact hj; split <;> omega)
   omega
  ·unfold cadd; split
   ·rename_i hy'; subst hy'
    have h3 := h x j hx hj
    have h4 : (c * F x j).natAbs ≤ 2 * b := by
     rw [Int.natAbs_mul]
     exact Nat.mul_le_mul (by omega) h3
    omega
   ·omega
end Go.LA
namespace Go.Proofs.YtiejljicpinheaaGreat
open Go.W Go.LM Go.LA Go.PM
theorem MIO.congr {w : World} {lo g r c : Nat} {gs : Nat → Nat} {F F' : Mat} (h : MIO w lo g r c gs F) (e : ∀ i j, i < r → j < c → F' i j = F i j) : MIO w lo g r c gs F' :=
 ⟨h.low, h.top, fun i hi => ⟨(h.row i hi).1, by rw [oD (fun j hj => e i j hi hj)]; exact (h.row i hi).2⟩, h.off, h.inj⟩
theorem MIO.put {w w' : World} {lo g r c i : Nat} {gs : Nat → Nat} {F F' : Mat} {f : Nat → Int} (h : MIO w lo g r c gs F) (hi : i < r) (hg : Chg (gs i) w w') (hb : Blk w' (gs i) 2 (intC c f))
  (e : ∀ j, j < c → F' i j = f j) (e' : ∀ x j, x < r → j < c → x ≠ i → F' x j = F x j) : MIO w' lo g r c gs F' := by
 refine ⟨h.low, h.top.chg hg (fun e => h.off i hi e.symm), fun x hx => ⟨(h.row x hx).1, ?_⟩, h.off, h.inj⟩
 by_cases hxi : x = i
 ·subst hxi; rw [oD (fun j hj => e j hj)]; exact hb
 ·rw [oD (fun j hj => e' x j hx hj hxi)]; exact (h.row x hx).2.chg hg fun he => hxi (h.inj _ _ hx hi he)
theorem MIO.chg {w w' : World} {lo g r c b : Nat} {gs : Nat → Nat} {F : Mat} (h : MIO w lo g r c gs F) (hg : Chg b w w') (hb : b ≠ g) (hb' : ∀ i, i < r → b ≠ gs i) : MIO w' lo g r c gs F :=
 ⟨h.low, h.top.chg hg (fun e => hb e.symm), fun x hx => ⟨(h.row x hx).1, (h.row x hx).2.chg hg fun e => hb' x hx e.symm⟩, h.off, h.inj⟩
theorem MIO.lt {w : World} {lo g r c : Nat} {gs : Nat → Nat} {F : Mat} (h : MIO w lo g r c gs F) : g < w.heap.size ∧ ∀ i, i < r → gs i < w.heap.size := ⟨h.top.lt, fun i hi => (h.row i hi).2.lt⟩
theorem wn {w w' : World} {lo g n t : Nat} {gs : Nat → Nat} {F G : Mat} {f : Nat → Int} (hO : MIO w lo g n n gs (fun x y => if x < t then G x y else F x y)) (ht : t < n) (hc : Chg (gs t) w w') (hb : Blk w' (gs t) 2 (intC n f)) (e : ∀ y, y < n → G t y = f y) :
  MIO w' lo g n n gs (fun x y => if x < t + 1 then G x y else F x y) :=
 hO.put (f := f) ht hc hb (fun y hy => by show (if t < t + 1 then _ else _) = _; rw [if_pos (Nat.lt_succ_self t)]; exact e y hy) (fun x y _ _ hx => by
  show (if x < t + 1 then G x y else F x y) = if x < t then G x y else F x y
  by_cases h : x < t
  ·rw [if_pos h, if_pos (by omega)]
  ·rw [if_neg h, if_neg (by omega)])
theorem wI (x : Int) : -2 ≤ x.tmod 3 ∧ x.tmod 3 ≤ 2 := by
 rcases Int.le_total 0 x with h | h
 ·rw [Int.tmod_eq_emod_of_nonneg h]; omega
 ·have e : x.tmod 3 = -((-x).tmod 3) := by rw [Int.neg_tmod, Int.neg_neg]
  rw [e, Int.tmod_eq_emod_of_nonneg (by omega)]; omega
def RetUm (n : Nat) (w : World) (v : Value) (w' : World) : Prop := ∃ g gs F, v = .slice (some ⟨g, 0, none⟩) n n ∧ MIO w' w.heap.size g n n gs F ∧ Uni n F ∧ UmB n F 531441 ∧ Ex w w'
set_option maxHeartbeats 8000000 in
theorem wB {n : Nat} {L : List Int} {la : Option Addr} {lc : Nat} {w : World} (hL : Sl w la (int8L L)) (hI : I8 L) (hn : 1 ≤ n ∧ n ≤ 16) :
  CallsR Tryz.prog 36 #[.slice la L.length lc, .int .i64 (n : Int)] w (RetUm n w) := by
 have hlt := hI.1
 refine aF (args := [_, _]) Tryz.func36 rfl rfl ?_
 repeat' (first|refine d8 (n := n) rfl rfl (by omega) (by omega) (fun g w1 hn1 => ⟨fun _ _ => trivial, ?_⟩)|refine ai rfl ?_|refine aa ?_|refine aj ?_|refine ah rfl ?_|refine ae ?_|refine aZ rfl ?_|refine aA ?_)
 have l1 := hn1.lo
 have s1 := hn1.ex.size
 have lb1 := hn1.blk.lt
 refine aY (ι := Nat × (Nat → Nat)) [6, 17, 18, 19, 20, 21, 22, 23, 24, 25, 26, 27, 28, 29, 30, 31] (fun t => [(17, .int .i64 (t.1 : Int))])
  (fun t w' => (t.1 ≤ n ∧ Ex w w' ∧ w1.heap.size ≤ w'.heap.size) ∧ Blk w' g 89 (topC n fun k => if k < t.1 then ⟨some ⟨t.2 k, 0, none⟩, n, n⟩ else sd0) ∧
   (∀ k, k < t.1 → w1.heap.size ≤ t.2 k ∧ Blk w' (t.2 k) 2 (intC n (idM k))) ∧ ∀ k l, k < t.1 → l < t.1 → t.2 k = t.2 l → k = l) (fun t => n - t.1)
  (0, fun _ => 0) ⟨rfl, trivial⟩ ⟨⟨by simp only; omega, hn1.ex, Nat.le_refl _⟩, hn1.blk, fun k h => by simp only at h; omega, fun k l h => by simp only at h; omega⟩ ?_
 rintro ⟨i, gs⟩ ξ w4 ⟨⟨hi, hE4, hs4⟩, hG4, hrow, hinj⟩
 simp only at hi hG4 hrow hinj
 show CW _ _ _ _ (over [(17, .int .i64 (i : Int))] _) w4
 rcases Nat.lt_or_ge i n with hir | hir
 ·repeat' (first|refine bu rfl rfl (by omega) ?_|refine ai rfl ?_|refine aa ?_|refine aj ?_|refine ah rfl ?_|refine ae ?_|refine az rfl ?_|refine aA ?_|refine aE ?_)
  refine rK (n := n) rfl rfl (by omega) (by omega) (fun gr w5 hn5 => ⟨fun _ _ => trivial, ?_⟩)
  have l5 := hn5.lo
  have s5 := hn5.ex.size
  have hG5 := hG4.ext hn5.ex
  repeat' (first|refine aD (j := i) rfl rfl ⟨_, _, rfl⟩ (by omega) ?_|refine ch (j := i) (u := ⟨some ⟨gr, 0, none⟩, n, n⟩) rfl rfl hG5 hir (fun w6 hc6 hG6 => ⟨fun _ _ => trivial, ?_⟩)|refine ai rfl ?_|refine aa ?_|refine ah rfl ?_|refine ae ?_)
  have hR6 := hn5.blk.chg hc6 (by omega)
  have hE6 := (hE4.trans hn5.ex).chg hc6 (by omega)
  have s6 := hc6.size
  have hi0 : setF (fun k => if k < i then (⟨some ⟨gs k, 0, none⟩, n, n⟩ : SD) else sd0) i ⟨some ⟨gr, 0, none⟩, n, n⟩ i = ⟨some ⟨gr, 0, none⟩, n, n⟩ := aS _ _ _
  repeat' (first|refine aD (j := i) rfl rfl ⟨_, _, rfl⟩ (by omega) ?_|refine aV (j := i) rfl hG6.sl hir hi0 ?_|refine p6 (j := i) (u := 1) rfl rfl hR6 hir (fun w7 hc7 hR7 => ⟨fun _ _ => trivial, ?_⟩)|refine ai rfl ?_|refine aa ?_|refine ah rfl ?_|refine ae ?_|refine bc rfl rfl (by omega) (by omega) ?_|refine aL ?_)
  have hold : ∀ k, k < i → gs k < w4.heap.size := fun k hk => (hrow k hk).2.lt
  refine ⟨⟨(i + 1, setF gs i gr), ⟨⟨hir, hE6.chg hc7 (by omega), by have := hc7.size; omega⟩, ?_, fun k hk => ?_, fun k l hk hl e => ?_⟩, by simp only; omega, rfl, trivial⟩, (by (repeat (first|exact aH _ _ _|refine ay rfl ?_|refine av rfl ?_|refine ak rfl ?_|refine ao rfl ?_)))⟩
  ·rw [bY (s' := setF (fun k => if k < i then (⟨some ⟨gs k, 0, none⟩, n, n⟩ : SD) else sd0) i ⟨some ⟨gr, 0, none⟩, n, n⟩) (fun k _ => ?_)]
   ·exact hG6.chg hc7 (by omega)
   ·by_cases e : k = i
    ·subst e; simp [setF]
    ·simp only [setF, if_neg e]
     by_cases h : k < i
     ·rw [if_pos h, if_pos (by omega)]
     ·rw [if_neg h, if_neg (by omega)]
  ·simp only at hk ⊢
   by_cases e : k = i
   ·subst e; rw [aS]
    refine ⟨by omega, ?_⟩
    rw [oD (g := setF (fun _ => 0) k 1) (fun j _ => ?_)]
    ·exact hR7
    ·by_cases e : j = k
     ·subst e; rw [aS, bF]
     ·rw [aX _ _ e, bI (Ne.symm e)]
   ·rw [aX _ _ e]
    have h1 := hrow k (by omega)
    exact ⟨h1.1, ((h1.2.ext hn5.ex).chg hc6 (by have := hn1.hi; omega)).chg hc7 (by have := hold k (by omega); omega)⟩
  ·simp only at hk hl e
   by_cases e1 : k = i
   ·by_cases e2 : l = i
    ·omega
    ·rw [e1, aS, aX _ _ e2] at e
     have := hold l (by omega)
     omega
   ·by_cases e2 : l = i
    ·rw [e2, aS, aX _ _ e1] at e
     have := hold k (by omega)
     omega
    ·rw [aX _ _ e1, aX _ _ e2] at e
     exact hinj k l (by omega) (by omega) e
 ·obtain rfl : i = n := by omega
  have hO4 : MIO w4 w.heap.size g i i gs idM := ⟨l1, by rw [bY (s' := fun k => if k < i then (⟨some ⟨gs k, 0, none⟩, i, i⟩ : SD) else sd0) (fun k hk => (if_pos hk).symm)]; exact hG4, fun k hk => ⟨by have := (hrow k hk).1; omega, (hrow k hk).2⟩, fun k hk e => by have := (hrow k hk).1; have := hn1.hi; omega, hinj⟩
  clear hG4 hrow hinj
  repeat' (first|refine bj rfl rfl (by omega) ?_|refine cf (cs := tapeL la L.length lc 0) rfl ?_|refine ai rfl ?_|refine aa ?_|refine aj ?_|refine ah rfl ?_|refine ae ?_|refine au rfl ?_|refine aP ?_|refine aJ ?_|refine aQ ?_)
  refine bH (vs := tapeL la L.length lc 0) rfl (fun g5 w5 hn5 => ⟨fun _ _ => trivial, ?_⟩)
  repeat' (first|refine ai rfl ?_|refine aa ?_|refine aj ?_|refine ah rfl ?_|refine ae ?_|refine aA ?_)
  have l5 := hn5.lo
  have hlt4 := hO4.lt
  have hne : 0 < L.length → ∀ ad, la = some ad → ad.block ≠ g5 := fun h ad e => by have := (hL.ext hE4).lt (by simpa using h) ad e; omega
  have h5g : g5 ≠ g := by omega
  have h5gs : ∀ k, k < i → g5 ≠ gs k := fun k hk => by have := hlt4.2 k hk; omega
  have hlo5 : w.heap.size ≤ g5 := by have := hE4.size; omega
  refine aY (ι := Nat × Nat × Mat) [8, 9, 10, 11, 12, 35, 36, 37, 38, 39, 40, 41, 42, 43, 44, 45, 46, 47, 48, 49, 50, 51, 52, 53, 54, 55, 56, 57, 58, 59, 60, 61, 62, 63, 64, 65, 66, 67, 68, 69, 70, 71, 72, 73, 74, 75, 76, 77, 78, 79, 80, 81, 82, 83, 84, 85, 86, 87, 88, 89, 90, 91, 92, 93, 94, 95, 96, 97, 98, 99, 100, 101, 102, 103, 104, 105, 106, 107, 108, 109, 110, 111, 112, 113, 114, 115, 116, 117, 118, 119, 120, 121, 122, 123, 124, 125, 126, 127, 128, 129, 130, 131, 132, 133, 134, 135, 136, 137, 138, 139, 140, 141, 142, 143] (fun t => [(8, .int .i64 (t.1 : Int))])
   (fun t w' => (t.1 ≤ 12 ∧ t.2.1 ≤ L.length ∧ Ex w w') ∧ Blk w' g5 39 (tapeL la L.length lc t.2.1) ∧ MIO w' w.heap.size g i i gs t.2.2 ∧ Uni i t.2.2 ∧ UmB i t.2.2 (3 ^ t.1)) (fun t => 12 - t.1)
   (0, 0, idM) ⟨rfl, trivial⟩ ⟨⟨Nat.zero_le _, Nat.zero_le _, hE4.trans hn5.ex⟩, hn5.blk, hO4.ext hn5.ex, qB i, fun x y _ _ => by
    by_cases e : x = y
    ·subst e; show (idM x x).natAbs ≤ 1; rw [bF]; decide
    ·show (idM x y).natAbs ≤ 1; rw [bI e]; decide⟩ ?_
  clear hO4 hlt4
  rintro ⟨k, p, F⟩ ξ2 w6 ⟨⟨hk, hp, hE6⟩, hT6, hO6, hU6, hB6⟩
  simp only at hk hp hT6 hO6 hU6 hB6
  show CW _ _ _ _ (over [(8, .int .i64 (k : Int))] _) w6
  repeat' (first|refine aj ?_)
  refine bi (late := []) (plan := [(0, none), (1, none), (2, none), (3, none), (4, none), (5, none), (6, none), (7, none), (8, none), (9, none), (10, none), (11, none), (12, none), (13, none)]) (fun w' => Ex w6 w') bA (by kernel_rfl) (Ex.refl w6).drew ?_
  rcases Nat.lt_or_ge k 12 with hk12 | hk12
  ·rcases Nat.lt_or_ge p L.length with hpL | hpL
   ·repeat' (first|refine bu rfl rfl (show ((k : Nat) : Int) < 12 by omega) ?_|refine tj rfl ?_|refine aW (g := g5) rfl (fun _ h => hT6.ext h) rfl ?_|refine bu rfl rfl (show ((p : Nat) : Int) < ((L.length : Nat) : Int) by omega) ?_|refine ai rfl ?_|refine aa ?_|refine aj ?_|refine ah rfl ?_|refine ae ?_|refine aZ rfl ?_|refine bz rfl rfl ?_|refine aN rfl ?_|refine az rfl ?_|refine aA ?_|refine aE ?_)
    refine aw (tA hT6.drew (hL.ext hE6.drew) hI hne hp (i : Int) (by omega)) rfl ?_
    rintro v w7 ⟨rfl, hc7, hT7⟩
    refine ⟨fun _ _ => trivial, ?_⟩
    obtain ⟨a, ha⟩ : ∃ a : Nat, L.getD p 0 % 256 % (i : Int) = (a : Int) := ⟨(L.getD p 0 % 256 % (i : Int)).toNat, by have := Int.emod_nonneg (L.getD p 0 % 256) (b := (i : Int)) (by omega); omega⟩
    have hai : a < i := by have := Int.emod_lt_of_pos (L.getD p 0 % 256) (b := (i : Int)) (by omega); omega
    rw [ha]
    have hp1 := vX hp
    have hO7 := hO6.ext ((Ex.refl w6).drew)
    replace hO7 := hO7.chg hc7 h5g h5gs
    have hE7 := hE6.drew.chg hc7 hlo5
    repeat' (first|refine ai rfl ?_)
    refine aw (tA hT7 (hL.ext hE7) hI hne hp1 (i : Int) (by omega)) rfl ?_
    rintro v w8 ⟨rfl, hc8, hT8⟩
    refine ⟨fun _ _ => trivial, ?_⟩
    obtain ⟨b, hb⟩ : ∃ b : Nat, L.getD (tAt L p) 0 % 256 % (i : Int) = (b : Int) := ⟨(L.getD (tAt L p) 0 % 256 % (i : Int)).toNat, by have := Int.emod_nonneg (L.getD (tAt L p) 0 % 256) (b := (i : Int)) (by omega); omega⟩
    have hbi : b < i := by have := Int.emod_lt_of_pos (L.getD (tAt L p) 0 % 256) (b := (i : Int)) (by omega); omega
    rw [hb]
    have hp2 := vX hp1
    have hO8 := hO7.chg hc8 h5g h5gs
    have hE8 := hE7.chg hc8 hlo5
    repeat' (first|refine ai rfl ?_|refine aa ?_|refine aj ?_|refine ah rfl ?_|refine ae ?_)
    refine aw (lh hT8 (hL.ext hE8) hI hne hp2) rfl ?_
    rintro v w9 ⟨rfl, hc9, hT9⟩
    refine ⟨fun _ _ => trivial, ?_⟩
    have hp3 := vX hp2
    have hO9 := hO8.chg hc9 h5g h5gs
    have hE9 := hE8.chg hc9 hlo5
    have hcr : -2 ≤ (L.getD (tAt L (tAt L p)) 0).tmod 3 ∧ (L.getD (tAt L (tAt L p)) 0).tmod 3 ≤ 2 := wI _
    repeat' (first|refine vP rfl rfl (by decide) ?_|refine ai rfl ?_|refine aa ?_|refine aj ?_|refine ah rfl ?_|refine ae ?_|refine aZ rfl ?_|refine aA ?_)
    generalize (L.getD (tAt L (tAt L p)) 0).tmod 3 = c at hcr
    generalize tAt L (tAt L (tAt L p)) = p3 at *
    have hUm := hU6.um c hai hbi
    have hBm := UmB.um hB6 hcr hai hbi
    have hF3 : (3 : Nat) ^ k ≤ 531441 := Nat.le_trans (Nat.pow_le_pow_right (by decide) hk) (by decide)
    clear hO7 hO8 hT7 hT8 hc7 hc8 hc9 ha hb hT6 hO6
    refine aY (ι := Nat) [12, 62, 63, 64, 65, 66, 67, 68, 69, 70, 71, 72, 73, 74, 75, 76, 77, 78, 79, 80, 81, 82, 83, 84, 85, 86, 87, 88, 89, 90, 91, 92, 93, 94, 95, 96, 97, 98, 99, 100, 101, 102, 103, 104, 105, 106, 107, 108, 109, 110, 111, 112, 113, 114, 115, 116, 117, 118, 119, 120, 121, 122, 123, 124, 125, 126, 127, 128, 129, 130, 131, 132, 133, 134, 135, 136, 137, 138, 139, 140, 141, 142, 143] (fun t => [(62, .int .i64 (t : Int))])
     (fun t w' => t ≤ i ∧ Ex w w' ∧ Blk w' g5 39 (tapeL la L.length lc p3) ∧ MIO w' w.heap.size g i i gs (fun x y => if x < t then umF F a b c x y else F x y)) (fun t => i - t)
     0 ⟨rfl, trivial⟩ ⟨Nat.zero_le _, hE9, hT9, hO9.congr fun x y _ _ => if_neg (by omega)⟩ ?_
    clear hO9 hT9
    rintro t ξ3 w10 ⟨ht, hE10, hT10, hO10⟩
    show CW _ _ _ _ (over [(62, .int .i64 (t : Int))] _) w10
    rcases Nat.lt_or_ge t i with hti | hti
    ·have hr10 : Blk w10 (gs t) 2 (intC i (F t)) := by rw [← oD (f := fun y => if t < t then umF F a b c t y else F t y) (fun y _ => if_neg (Nat.lt_irrefl t))]; exact (hO10.row t hti).2
     have hgt := (hO10.row t hti).1
     have h5t := h5gs t hti
     have hFa := hB6 t a hti hai
     have hFb := hB6 t b hti hbi
     have hEd := (Ex.refl w10).drew
     by_cases hab : a = b
     ·subst hab
      by_cases hc0 : c < 0
      ·repeat' (first|refine bu rfl rfl (show ((t : Nat) : Int) < ((i : Nat) : Int) by omega) ?_|refine aa ?_|refine aj ?_|refine ah rfl ?_|refine ae ?_|refine az rfl ?_|refine aE ?_)
       refine aA ?_
       repeat' (first|refine ai rfl ?_|refine aa ?_|refine aj ?_|refine ah rfl ?_|refine ae ?_)
       refine aA ?_
       repeat' (first|refine eF rfl rfl rfl ?_|refine bu rfl rfl hc0 ?_|refine ai rfl ?_|refine aa ?_|refine aj ?_|refine ah rfl ?_|refine ae ?_|refine bz rfl rfl ?_|refine az rfl ?_)
       refine bi (late := [14]) (plan := [(0, none), (1, none), (2, none), (3, none), (4, none), (5, none), (6, none), (7, none), (8, none), (9, none), (10, none), (11, none), (12, none), (13, none), (14, some false)]) (fun w' => Ex w10 w') bA (by kernel_rfl) hEd ?_
       repeat' (first|refine aD (j := t) (a := some ⟨g, 0, none⟩) rfl rfl ⟨_, _, rfl⟩ (by omega) ?_|refine aV (j := t) (a := some ⟨g, 0, none⟩) (n := i) (s := fun k => ⟨some ⟨gs k, 0, none⟩, i, i⟩) rfl (fun _ h => (hO10.ext h).top.sl) (by omega) rfl ?_|refine aD (j := a) (a := some ⟨gs t, 0, none⟩) rfl rfl ⟨_, _, rfl⟩ (by omega) ?_|refine rJ (j := a) (a := some ⟨gs t, 0, none⟩) (n := i) (f := F t) rfl (fun _ h => (hr10.ext h).sl) (by omega) ?_|refine sC (m := F t a) (m' := -F t a) rfl rfl (by omega) (by omega) ?_|refine ai rfl ?_)
       refine p6 (j := a) rfl rfl (hr10.ext hEd) (by omega) (fun w11 hc11 hb11 => ⟨fun h => (nomatch h), ?_⟩)
       repeat' (first|refine ai rfl ?_|refine aa ?_|refine ah rfl ?_|refine ae ?_|refine bc rfl rfl (by omega) (by omega) ?_|refine aL ?_)
       refine ⟨⟨t + 1, ⟨hti, (hE10.trans hEd).chg hc11 hgt, (hT10.ext hEd).chg hc11 h5t, wn (hO10.ext hEd) hti hc11 hb11 fun y hy => ?_⟩, by omega, rfl, trivial⟩, (by (repeat (first|exact aH _ _ _|refine ay rfl ?_|refine av rfl ?_|refine ak rfl ?_|refine ao rfl ?_)))⟩
       unfold umF setF Go.LA.cneg
       rw [if_pos rfl, if_pos hc0]
      ·repeat' (first|refine bu rfl rfl (show ((t : Nat) : Int) < ((i : Nat) : Int) by omega) ?_|refine eF rfl rfl rfl ?_|refine bj rfl rfl (show (0 : Int) ≤ c by omega) ?_|refine cN rfl rfl rfl ?_|refine ai rfl ?_|refine aa ?_|refine aj ?_|refine ah rfl ?_|refine ae ?_|refine bz rfl rfl ?_|refine bK rfl rfl ?_|refine bc rfl rfl (by omega) (by omega) ?_|refine az rfl ?_|refine au rfl ?_|refine aA ?_|refine aL ?_|refine aE ?_)
       refine ⟨⟨t + 1, ⟨hti, hE10, hT10, hO10.congr fun x y _ _ => ?_⟩, by omega, rfl, trivial⟩, (by (repeat (first|exact aH _ _ _|refine ay rfl ?_|refine av rfl ?_|refine ak rfl ?_|refine ao rfl ?_)))⟩
       by_cases e : x < t
       ·rw [if_pos e, if_pos (by omega)]
       ·rw [if_neg e]
        by_cases e' : x < t + 1
        ·rw [if_pos e']; unfold umF; rw [if_pos rfl, if_neg hc0]
        ·rw [if_neg e']
     ·have habi : ((a : Nat) : Int) ≠ ((b : Nat) : Int) := by omega
      by_cases hc0 : c = 0
      ·subst hc0
       repeat' (first|refine bu rfl rfl (show ((t : Nat) : Int) < ((i : Nat) : Int) by omega) ?_|refine aa ?_|refine aj ?_|refine ah rfl ?_|refine ae ?_|refine az rfl ?_|refine aE ?_)
       refine aA ?_
       repeat' (first|refine ai rfl ?_|refine aa ?_|refine aj ?_|refine ah rfl ?_|refine ae ?_)
       refine aA ?_
       repeat' (first|refine dU rfl rfl habi ?_|refine df rfl rfl habi ?_|refine eF rfl rfl rfl ?_|refine ai rfl ?_|refine aa ?_|refine aj ?_|refine ah rfl ?_|refine ae ?_|refine bz rfl rfl ?_|refine bK rfl rfl ?_|refine az rfl ?_|refine au rfl ?_)
       refine bi (late := [25, 27]) (plan := [(0, none), (1, none), (2, none), (3, none), (4, none), (5, none), (6, none), (7, none), (8, none), (9, none), (10, none), (11, none), (12, none), (13, none), (14, none), (15, none), (16, none), (17, none), (18, none), (19, none), (20, none), (21, none), (22, none), (23, none), (24, none), (25, some false), (26, none), (27, some false)]) (fun w' => Ex w10 w') bA (by kernel_rfl) hEd ?_
       repeat' (first|refine aD (j := t) (a := some ⟨g, 0, none⟩) rfl rfl ⟨_, _, rfl⟩ (by omega) ?_|refine aV (j := t) (a := some ⟨g, 0, none⟩) (n := i) (s := fun k => ⟨some ⟨gs k, 0, none⟩, i, i⟩) rfl (fun _ h => (hO10.ext h).top.sl) (by omega) rfl ?_|refine aD (j := a) (a := some ⟨gs t, 0, none⟩) rfl rfl ⟨_, _, rfl⟩ (by omega) ?_|refine aD (j := b) (a := some ⟨gs t, 0, none⟩) rfl rfl ⟨_, _, rfl⟩ (by omega) ?_|refine rJ (j := a) (a := some ⟨gs t, 0, none⟩) (n := i) (f := F t) rfl (fun _ h => (hr10.ext h).sl) (by omega) ?_|refine rJ (j := b) (a := some ⟨gs t, 0, none⟩) (n := i) (f := F t) rfl (fun _ h => (hr10.ext h).sl) (by omega) ?_|refine ai rfl ?_)
       refine p6 (j := a) rfl rfl (hr10.ext hEd) (by omega) (fun w11 hc11 hb11 => ⟨fun h => (nomatch h), ?_⟩)
       repeat' (first|refine aD (j := b) (a := some ⟨gs t, 0, none⟩) rfl rfl ⟨_, _, rfl⟩ (by omega) ?_)
       refine p6 (j := b) rfl rfl hb11 (by omega) (fun w12 hc12 hb12 => ⟨fun h => (nomatch h), ?_⟩)
       repeat' (first|refine ai rfl ?_|refine aa ?_|refine ah rfl ?_|refine ae ?_|refine bc rfl rfl (by omega) (by omega) ?_|refine aL ?_)
       refine ⟨⟨t + 1, ⟨hti, ((hE10.trans hEd).chg hc11 hgt).chg hc12 hgt, ((hT10.ext hEd).chg hc11 h5t).chg hc12 h5t, wn (hO10.ext hEd) hti (hc11.trans hc12) hb12 fun y hy => ?_⟩, by omega, rfl, trivial⟩, (by (repeat (first|exact aH _ _ _|refine ay rfl ?_|refine av rfl ?_|refine ak rfl ?_|refine ao rfl ?_)))⟩
       unfold umF setF Go.LA.cswp
       rw [if_neg hab, if_pos rfl]
       by_cases e : y = b
       ·subst e; rw [if_pos rfl, if_neg (Ne.symm hab), if_pos rfl]
       ·rw [if_neg e]
        by_cases e' : y = a
        ·subst e'; rw [if_pos rfl, if_pos rfl, if_neg e]
        ·rw [if_neg e', if_neg e', if_neg e]
      ·repeat' (first|refine bu rfl rfl (show ((t : Nat) : Int) < ((i : Nat) : Int) by omega) ?_|refine aa ?_|refine aj ?_|refine ah rfl ?_|refine ae ?_|refine az rfl ?_|refine aE ?_)
       refine aA ?_
       repeat' (first|refine ai rfl ?_|refine aa ?_|refine aj ?_|refine ah rfl ?_|refine ae ?_)
       refine aA ?_
       repeat' (first|refine dU rfl rfl habi ?_|refine df rfl rfl habi ?_|refine dU rfl rfl hc0 ?_|refine ai rfl ?_|refine aa ?_|refine aj ?_|refine ah rfl ?_|refine ae ?_|refine bz rfl rfl ?_|refine bK rfl rfl ?_|refine az rfl ?_|refine au rfl ?_)
       have hm1 : (c * F t b).natAbs ≤ 2 * 531441 := by
        rw [Int.natAbs_mul]; exact Nat.mul_le_mul (by omega) (by omega)
       refine bi (late := [18]) (plan := [(0, none), (1, none), (2, none), (3, none), (4, none), (5, none), (6, none), (7, none), (8, none), (9, none), (10, none), (11, none), (12, none), (13, none), (14, none), (15, none), (16, none), (17, none), (18, some false)]) (fun w' => Ex w10 w') bA (by kernel_rfl) hEd ?_
       repeat' (first|refine aD (j := t) (a := some ⟨g, 0, none⟩) rfl rfl ⟨_, _, rfl⟩ (by omega) ?_|refine aV (j := t) (a := some ⟨g, 0, none⟩) (n := i) (s := fun k => ⟨some ⟨gs k, 0, none⟩, i, i⟩) rfl (fun _ h => (hO10.ext h).top.sl) (by omega) rfl ?_|refine aD (j := a) (a := some ⟨gs t, 0, none⟩) rfl rfl ⟨_, _, rfl⟩ (by omega) ?_|refine aD (j := b) (a := some ⟨gs t, 0, none⟩) rfl rfl ⟨_, _, rfl⟩ (by omega) ?_|refine rJ (j := a) (a := some ⟨gs t, 0, none⟩) (n := i) (f := F t) rfl (fun _ h => (hr10.ext h).sl) (by omega) ?_|refine rJ (j := b) (a := some ⟨gs t, 0, none⟩) (n := i) (f := F t) rfl (fun _ h => (hr10.ext h).sl) (by omega) ?_|refine j3 rfl rfl (by omega) (by omega) ?_|refine bc rfl rfl (by omega) (by omega) ?_|refine ai rfl ?_)
       refine p6 (j := a) rfl rfl (hr10.ext hEd) (by omega) (fun w11 hc11 hb11 => ⟨fun h => (nomatch h), ?_⟩)
       repeat' (first|refine ai rfl ?_|refine aa ?_|refine ah rfl ?_|refine ae ?_|refine bc rfl rfl (by omega) (by omega) ?_|refine aL ?_)
       refine ⟨⟨t + 1, ⟨hti, (hE10.trans hEd).chg hc11 hgt, (hT10.ext hEd).chg hc11 h5t, wn (hO10.ext hEd) hti hc11 hb11 fun y hy => ?_⟩, by omega, rfl, trivial⟩, (by (repeat (first|exact aH _ _ _|refine ay rfl ?_|refine av rfl ?_|refine ak rfl ?_|refine ao rfl ?_)))⟩
       unfold umF setF cadd
       rw [if_neg hab, if_neg hc0]
    ·obtain rfl : t = i := by omega
     repeat' (first|refine bj rfl rfl (show ((t : Nat) : Int) ≤ ((t : Nat) : Int) by omega) ?_|refine ai rfl ?_|refine aa ?_|refine aj ?_|refine ah rfl ?_|refine ae ?_|refine bc rfl rfl (by omega) (by omega) ?_|refine au rfl ?_|refine aP ?_|refine aJ ?_|refine aQ ?_|refine aL ?_)
     exact ⟨⟨(k + 1, p3, umF F a b c), ⟨⟨hk12, hp3, hE10⟩, hT10, hO10.congr fun x y hx _ => (if_pos hx).symm, hUm, hBm.mono (by rw [Nat.pow_succ]; omega)⟩, by simp only; omega, rfl, trivial⟩, (by (repeat (first|exact aH _ _ _|refine ay rfl ?_|refine av rfl ?_|refine ak rfl ?_|refine ao rfl ?_)))⟩
   ·obtain rfl : p = L.length := by omega
    repeat' (first|refine bu rfl rfl (show ((k : Nat) : Int) < 12 by omega) ?_|refine tj rfl ?_|refine aW (g := g5) rfl (fun _ h => hT6.ext h) rfl ?_|refine bj rfl rfl (Int.le_refl _) ?_|refine ai rfl ?_|refine aa ?_|refine aj ?_|refine ah rfl ?_|refine ae ?_|refine aZ rfl ?_|refine bz rfl rfl ?_|refine aN rfl ?_|refine au rfl ?_|refine aP ?_|refine aJ ?_|refine aQ ?_|refine aI ?_)
    exact bx rfl (rt rfl) ⟨g, gs, F, rfl, hO6.ext (Ex.refl w6).drew, hU6, hB6.mono (Nat.le_trans (Nat.pow_le_pow_right (by decide) hk) (by decide)), hE6.drew⟩
  ·repeat' (first|refine bj rfl rfl (show (12 : Int) ≤ ((k : Nat) : Int) by omega) ?_|refine ai rfl ?_|refine aa ?_|refine aj ?_|refine ah rfl ?_|refine ae ?_|refine bK rfl rfl ?_|refine au rfl ?_|refine aP ?_|refine aJ ?_|refine aQ ?_|refine aI ?_)
   exact bx rfl (rt rfl) ⟨g, gs, F, rfl, hO6.ext (Ex.refl w6).drew, hU6, hB6.mono (Nat.le_trans (Nat.pow_le_pow_right (by decide) hk) (by decide)), hE6.drew⟩
end Go.Proofs.YtiejljicpinheaaGreat
namespace Go.LA
theorem xj {c r k : Nat} {H : Mat} {p : Nat → Nat} (h : HF c r H k p) (hcr : c ≤ r) (h1 : ∀ i, i < c → H i i = 1) : ∀ j i, j < c → i < r → H j i = idM j i := by
 have hk : k = c := by
  have hd := h.diag.1
  rcases Nat.lt_or_ge k c with hlt | hge
  ·have := h.rest k (Nat.le_refl _) (by omega) k hlt
   have := h1 k hlt
   omega
  ·omega
 subst hk
 have hp := h.diag.2 rfl
 intro j i hj hi
 by_cases e : i = j
 ·subst e; rw [h1 i hj, bF]
 ·rw [bI (Ne.symm e)]
  rcases Nat.lt_or_ge i j with hij | hij
  ·have := h.red j hj i hij
   rw [hp j hj, h1 j hj] at this
   omega
  ·rcases Nat.lt_or_ge i k with hik | hik
   ·exact h.zero i hik j (by rw [hp i hik]; omega)
   ·exact h.rest i hik hi j hj
theorem xk {c r k : Nat} {A H U R : Mat} {p : Nat → Nat} (hC : CEq c r (fun i j => A j i) H U) (h : HF c r H k p) (hcr : c ≤ r) (h1 : ∀ i, i < c → H i i = 1) (hR : ∀ i j, i < r → j < r → mm r (fun i j => U j i) R i j = idM i j) :
  Uni r R ∧ ∀ i j, i < r → j < c → A i j = R i j := by
 have hV : Uni r (fun i j => U j i) := tv hR
 have hdet := dL r (fun i j => U j i) R
 rw [bv (M' := idM) hR, io] at hdet
 constructor
 ·rcases hV with e | e
  ·rw [e] at hdet; left; omega
  ·rw [e] at hdet; right; omega
 ·intro i j hi hj
  have hx : ∀ x, x < r → (sm r fun l => (fun i j => U j i : Mat) x l * (A l j - R l j)) = 0 := fun x hx => by
   have e1 : (sm r fun l => U l x * A l j) = idM j x := by
    rw [← xj h hcr h1 j x hj hx, hC.2 j x hj hx]
    exact bf fun l _ => Int.mul_comm _ _
   have e2 : (sm r fun l => U l x * R l j) = idM x j := hR x j hx (by omega)
   have e3 : (sm r fun l => U l x * (A l j - R l j)) = (sm r fun l => U l x * A l j) - sm r fun l => U l x * R l j := by
    rw [← im]; exact bf fun l _ => Int.mul_sub _ _ _
   show (sm r fun l => U l x * (A l j - R l j)) = 0
   rw [e3, e1, e2]
   have : idM j x = idM x j := by
    by_cases e : j = x
    ·subst e; rfl
    ·rw [bI e, bI (Ne.symm e)]
   omega
  have := oO (n := r) (M := fun i j => U j i) hV.ne (x := fun l => A l j - R l j) hx hi
  omega
end Go.LA
namespace Go.Proofs.YtiejljicpinheaaGreat
open Go.W Go.LM Go.LA Go.PM
set_option maxHeartbeats 8000000 in
theorem xh {n cap : Nat} {w : World} {a : Option Addr} {s : Nat → SD} {A : Mat} (hA : AM 60 w a n s A) (hn6 : n ≤ 6) :
  CallsR Tryz.prog 37 #[.slice a n cap] w fun v w' => v = .bool true ∧ Ex w w' := by
 refine aF (args := [_]) Tryz.func37 rfl rfl ?_
 by_cases ok : okS n s
 ·have hr := iy ok
  have hc := gQ ok
  have hX : MX false 60 w a n (s 0).len s A := hA.mx ok
  have hAl := wq hA ok
  generalize (s 0).len = c at *
  have hz : 16 * Zb 100 0 (n + c) + 17 ≤ 4398046511104 := by
   have h1 : Zb 100 0 (n + c) ≤ Zb 100 0 24 := eh (by omega) (by omega)
   have h2 : Zb 100 0 24 = 1677721592 := by decide
   omega
  have hzl : ∀ l, l < n → ∀ i, i < c → Lb (Zb 100 0 l) (A l i) := fun l hl i hi => (hAl l i hl hi).mono (Nat.le_trans (by omega) (vq l))
  rcases Nat.lt_or_ge n c with hnc | hnc
  ·repeat' (first|refine ai rfl ?_|refine aa ?_|refine aj ?_|refine ah rfl ?_|refine ae ?_)
   refine aw (tf hX hr hc hnc) rfl ?_
   rintro v w1 ⟨rfl, hE1⟩
   refine ⟨fun _ _ => trivial, ?_⟩
   repeat' (first|refine aK rfl rfl ?_|refine qI rfl rfl ?_|refine ai rfl ?_|refine aa ?_|refine aj ?_|refine ah rfl ?_|refine ae ?_|refine aZ rfl ?_|refine bz rfl rfl ?_|refine az rfl ?_)
   refine aw (qc (Q := 100) (s := 0) (KM := KMz) (hX.ext hE1) hr hc hzl (by omega) (tX (by omega)) (by decide) hz) rfl ?_
   rintro v w2 ⟨t2, rfl, _, ht2, hE2⟩
   refine ⟨fun _ _ => trivial, ?_⟩
   obtain rfl : t2 = false := ht2 hnc
   repeat' (first|refine ai rfl ?_|refine aa ?_|refine ae ?_|refine bz rfl rfl ?_|refine aI ?_|refine aU ?_)
   exact bx rfl (rt rfl) ⟨rfl, hE1.trans hE2⟩
  ·repeat' (first|refine ai rfl ?_|refine aa ?_|refine aj ?_|refine ah rfl ?_|refine ae ?_)
   refine aw (nE hX hr hc hnc (by omega) (by omega)) rfl ?_
   rintro v w1 ⟨H, U, k, p, hC, hF, hcase, hE1⟩
   refine ⟨fun _ _ => trivial, ?_⟩
   rcases hcase with ⟨h1, u, R, rfl, ⟨g, gs, cp, rfl, hO1, _⟩, hR⟩ | ⟨h1, rfl⟩
   ·obtain ⟨hUR, hcols⟩ := xk hC hF hnc h1 hR
    repeat' (first|refine aK rfl rfl ?_|refine ai rfl ?_|refine aa ?_|refine aj ?_|refine ah rfl ?_|refine ae ?_|refine au rfl ?_|refine aE ?_)
    refine aw (qc (Q := 100) (s := 0) (KM := KMz) (hX.ext hE1) hr hc hzl (by omega) (tX (by omega)) (by decide) hz) rfl ?_
    rintro v w2 ⟨t2, rfl, ht2, _, hE2⟩
    refine ⟨fun _ _ => trivial, ?_⟩
    obtain ⟨H', U', k', p', hC', hF', ht'⟩ := ht2 hnc
    obtain rfl : t2 = true := ht'.2 fun i hi => by rw [← (jd hC hF hC' hF').2 i i hi (by omega)]; exact h1 i hi
    repeat' (first|refine cN rfl rfl rfl ?_|refine ai rfl ?_|refine aZ rfl ?_|refine bz rfl rfl ?_)
    refine aw (iz (hO1.ext hE2).mx (by omega) (by omega) (by omega)) rfl ?_
    rintro v w3 ⟨t3, rfl, ht3, hE3⟩
    refine ⟨fun _ _ => trivial, ?_⟩
    obtain rfl : t3 = true := ht3.2 ⟨rfl, hUR⟩
    have hE13 := hE2.trans hE3
    have hE03 := hE1.trans hE13
    have hX3 := hX.ext hE03
    have hO3 := hO1.ext hE13
    have hpt := hX.plain (by omega)
    repeat' (first|refine ai rfl ?_|refine aa ?_|refine aj ?_|refine ah rfl ?_|refine ae ?_|refine aZ rfl ?_|refine bz rfl rfl ?_|refine au rfl ?_|refine aA ?_|refine aE ?_)
    refine aY (ι := Nat) [2, 5, 6, 39, 40, 41, 42, 43, 44, 45, 46, 47, 48, 49, 50, 51, 52, 53, 54, 55, 56, 57, 58, 59, 60, 61, 62, 63, 64, 65, 66, 67] (fun i => [(39, .int .i64 (i : Int))]) (fun i w' => i ≤ n ∧ Ex w3 w') (fun i => n - i)
     0 ⟨rfl, trivial⟩ ⟨Nat.zero_le _, Ex.refl _⟩ ?_
    rintro i ξ w4 ⟨hi, hE4⟩
    show CW _ _ _ _ (over [(39, .int .i64 (i : Int))] _) w4
    rcases Nat.lt_or_ge i n with hin | hin
    ·obtain ⟨pa, d, hh, e1, e2, hpp, hS, hEn⟩ := (hX3.ext hE4).get hin (by omega)
     repeat' (first|refine bu rfl rfl (show ((i : Nat) : Int) < ((n : Nat) : Int) by omega) ?_|refine aD (j := i) (a := a) rfl rfl hpt (by omega) ?_|refine aV (j := i) (a := a) (n := n) (s := s) rfl (hX3.ext hE4).top (by omega) e1 ?_|refine ai rfl ?_|refine aa ?_|refine aj ?_|refine ah rfl ?_|refine ae ?_|refine aZ rfl ?_|refine az rfl ?_|refine aA ?_|refine aE ?_)
     refine aY (ι := Nat) [2, 6, 47, 48, 49, 50, 51, 52, 53, 54, 55, 56, 57, 58, 59, 60, 61, 62, 63, 64, 65, 66] (fun j => [(47, .int .i64 (j : Int))]) (fun j w' => j ≤ c ∧ Ex w4 w') (fun j => c - j)
      0 ⟨rfl, trivial⟩ ⟨Nat.zero_le _, Ex.refl _⟩ ?_
     rintro j ξ2 w5 ⟨hj, hE5⟩
     show CW _ _ _ _ (over [(47, .int .i64 (j : Int))] _) w5
     rcases Nat.lt_or_ge j c with hjc | hjc
     ·have hX5 := (hX3.ext hE4).ext hE5
      have hO5 := (hO3.ext hE4).ext hE5
      obtain ⟨h2, hb2, hc2, hE2'⟩ := hO5.get hin
      have hEd := (Ex.refl w5).drew
      have hS5 := hS.ext hE5
      repeat' (first|refine bu rfl rfl (show ((j : Nat) : Int) < ((c : Nat) : Int) by omega) ?_|refine aa ?_|refine aj ?_|refine ah rfl ?_|refine ae ?_|refine az rfl ?_|refine aE ?_)
      refine aA ?_
      repeat' (first|refine ai rfl ?_|refine aa ?_|refine aj ?_|refine ah rfl ?_|refine ae ?_)
      refine bi (late := []) (plan := [(0, none), (1, none), (2, none), (3, none), (4, none), (5, none), (6, none), (7, none), (8, none), (9, none), (10, none), (11, none), (12, none), (13, none), (14, some true), (15, none)]) (fun w' => Ex w5 w') bA (by kernel_rfl) hEd ?_
      repeat' (first|refine aD (j := i) (a := a) rfl rfl hpt (by omega) ?_|refine aV (j := i) (a := a) (n := n) (s := s) rfl (fun _ h => (hX5.ext h).top) (by omega) e1 ?_|refine aT (j := j) (a := pa) rfl rfl hpp (by omega) ?_|refine bo (j := j) (a := pa) (n := c) (f := hh) rfl (fun _ h => hS5.ext h) hpp (by omega) ?_|refine aD (j := i) (a := some ⟨g, 0, none⟩) rfl rfl ⟨_, _, rfl⟩ (by omega) ?_|refine aV (j := i) (a := some ⟨g, 0, none⟩) (n := n) (s := fun k => ⟨some ⟨gs k, 0, none⟩, n, cp k⟩) rfl (fun _ h => (hO5.ext h).top.sl) (by omega) rfl ?_|refine aT (j := j) (a := some ⟨gs i, 0, none⟩) rfl rfl ⟨_, _, rfl⟩ (by omega) ?_|refine bo (j := j) (n := cp i) (a := some ⟨gs i, 0, none⟩) rfl (fun _ h => (hb2.ext h).sl) ⟨_, _, rfl⟩ (by omega) ?_|refine ai rfl ?_)
      refine aw (eM (((hEn j hjc).ext hE5).ext hEd).k ((hE2' j (by omega)).ext hEd).k) rfl ?_
      rintro v w6 ⟨rfl, hE6⟩
      refine ⟨fun _ h => h.trans hE6, ?_⟩
      rw [show A i j - R i j = 0 by rw [hcols i j hin hjc]; omega]
      repeat' (first|refine cN rfl rfl rfl ?_|refine ai rfl ?_|refine aa ?_|refine ah rfl ?_|refine ae ?_|refine bc rfl rfl (by omega) (by omega) ?_|refine au rfl ?_|refine aL ?_|refine aE ?_)
      exact ⟨⟨j + 1, ⟨hjc, (hE5.trans hEd).trans hE6⟩, by omega, rfl, trivial⟩, (by (repeat (first|exact aH _ _ _|refine ay rfl ?_|refine av rfl ?_|refine ak rfl ?_|refine ao rfl ?_)))⟩
     ·obtain rfl : c = j := by omega
      repeat' (first|refine bj rfl rfl (show ((c : Nat) : Int) ≤ ((c : Nat) : Int) by omega) ?_|refine ai rfl ?_|refine aa ?_|refine aj ?_|refine ah rfl ?_|refine ae ?_|refine bc rfl rfl (by omega) (by omega) ?_|refine au rfl ?_|refine aP ?_|refine aJ ?_|refine aQ ?_|refine aL ?_)
      exact ⟨⟨i + 1, ⟨hin, hE4.trans hE5⟩, by omega, rfl, trivial⟩, (by (repeat (first|exact aH _ _ _|refine ay rfl ?_|refine av rfl ?_|refine ak rfl ?_|refine ao rfl ?_)))⟩
    ·obtain rfl : i = n := by omega
     repeat' (first|refine bj rfl rfl (show ((i : Nat) : Int) ≤ ((i : Nat) : Int) by omega) ?_|refine ai rfl ?_|refine aa ?_|refine aj ?_|refine ah rfl ?_|refine ae ?_|refine au rfl ?_|refine aP ?_|refine aJ ?_|refine aQ ?_|refine aI ?_)
     exact bx rfl (rt rfl) ⟨rfl, hE03.trans hE4⟩
   ·repeat' (first|refine aK rfl rfl ?_|refine qI rfl rfl ?_|refine ai rfl ?_|refine aa ?_|refine aj ?_|refine ah rfl ?_|refine ae ?_|refine aZ rfl ?_|refine bz rfl rfl ?_|refine az rfl ?_)
    refine aw (qc (Q := 100) (s := 0) (KM := KMz) (hX.ext hE1) hr hc hzl (by omega) (tX (by omega)) (by decide) hz) rfl ?_
    rintro v w2 ⟨t2, rfl, ht2, _, hE2⟩
    refine ⟨fun _ _ => trivial, ?_⟩
    obtain ⟨H', U', k', p', hC', hF', ht'⟩ := ht2 hnc
    obtain rfl : t2 = false := by
     cases t2
     ·rfl
     ·exact absurd (fun i hi => by rw [(jd hC hF hC' hF').2 i i hi (by omega)]; exact ht'.1 rfl i hi) h1
    repeat' (first|refine ai rfl ?_|refine aa ?_|refine ae ?_|refine bz rfl rfl ?_|refine aI ?_|refine aU ?_)
    exact bx rfl (rt rfl) ⟨rfl, hE1.trans hE2⟩
 ·repeat' (first|refine ai rfl ?_|refine aa ?_|refine aj ?_|refine ah rfl ?_|refine ae ?_)
  refine aw (uI hA.top ok) rfl ?_
  rintro v w1 ⟨rfl, hE1⟩
  refine ⟨fun _ _ => trivial, ?_⟩
  repeat' (first|refine aK rfl rfl ?_|refine qI rfl rfl ?_|refine ai rfl ?_|refine aa ?_|refine aj ?_|refine ah rfl ?_|refine ae ?_|refine aZ rfl ?_|refine bz rfl rfl ?_|refine az rfl ?_)
  refine aw (rP (hA.ext hE1).top ok) rfl ?_
  rintro v w2 ⟨rfl, hE2⟩
  refine ⟨fun _ _ => trivial, ?_⟩
  repeat' (first|refine ai rfl ?_|refine aa ?_|refine ae ?_|refine bz rfl rfl ?_|refine aI ?_|refine aU ?_)
  exact bx rfl (rt rfl) ⟨rfl, hE1.trans hE2⟩
set_option maxRecDepth 20000 in
set_option maxHeartbeats 8000000 in
theorem xi {rows cols : Int} (h1 : 0 ≤ rows ∧ rows ≤ 255) (h2 : 0 ≤ cols ∧ cols ≤ 255) {L : List Int} {la : Option Addr} {w : World} (hL : Sl w la (int8L L)) (hI : I8 L) (lc : Nat) {L2 : List Int} {la2 : Option Addr} (hL2 : Sl w la2 (int8L L2)) (hI2 : I8 L2) (lc2 : Nat) {cut : Int} (hcut : 0 ≤ cut ∧ cut ≤ 255) {n : Nat} {a : Option Addr} {s : Nat → SD} {h : Nat → Nat → IH} {La : Nat → Nat → List Nat} (hM : RawM w a n s h La) (cap : Nat) :
  CallsR Tryz.prog 8 #[.agg (gridL rows cols la L.length lc).toArray, .slice la2 L2.length lc2, .int .u8 cut, .slice a n cap] w fun v w' => v = .bool true ∧ Ex w w' := by
 refine aF (args := [_, _, _, _]) Tryz.func8 rfl rfl ?_
 refine aj ?_
 refine ah rfl ?_
 refine bH (vs := gridL rows cols la L.length lc) rfl (fun g1 w1 hn1 => ⟨fun _ _ => trivial, ?_⟩)
 have hg1 := hn1.blk
 repeat' (first|refine ai rfl ?_|refine aa ?_|refine aj ?_|refine ah rfl ?_|refine ae ?_)
 refine aw (we (hM.ext hn1.ex)) rfl ?_
 rintro v w2 ⟨t1, rfl, hl, hE2⟩
 refine ⟨fun _ _ => trivial, ?_⟩
 have hE02 := hn1.ex.trans hE2
 rcases Bool.eq_false_or_eq_true t1 with rfl | rfl
 ·repeat' (first|refine ai rfl ?_|refine aa ?_|refine aj ?_|refine ah rfl ?_|refine ae ?_|refine bK rfl rfl ?_|refine az rfl ?_)
  refine aw (nI _) rfl ?_
  rintro v wz ⟨rfl, hEz⟩
  refine ⟨fun _ _ => trivial, ?_⟩
  repeat' (first|refine ai rfl ?_|refine aa ?_|refine ae ?_|refine aI ?_|refine aU ?_)
  exact bx rfl (rt rfl) ⟨rfl, hE02.trans hEz⟩
 obtain ⟨hA, hn60, hs60, hsz⟩ := wl hM (hl rfl)
 clear hl
 generalize valF h La = A at *
 rcases Nat.lt_or_ge 6 n with h6 | h6
 ·repeat' (first|refine kh rfl rfl (show (6 : Int) < ((n : Nat) : Int) by omega) ?_|refine ai rfl ?_|refine aa ?_|refine aj ?_|refine ah rfl ?_|refine ae ?_|refine aZ rfl ?_|refine bz rfl rfl ?_|refine az rfl ?_)
  refine aw (nI _) rfl ?_
  rintro v wz ⟨rfl, hEz⟩
  refine ⟨fun _ _ => trivial, ?_⟩
  repeat' (first|refine ai rfl ?_|refine aa ?_|refine ae ?_|refine aI ?_|refine aU ?_)
  exact bx rfl (rt rfl) ⟨rfl, hE02.trans hEz⟩
 obtain ⟨m, hm⟩ : ∃ m : Nat, 1 + rows % 5 = (m : Int) := ⟨(1 + rows % 5).toNat, by omega⟩
 have hm5 : 1 ≤ m ∧ m ≤ 5 := by omega
 obtain ⟨k, hk⟩ : ∃ k : Nat, 1 + cut % (m : Int) = (k : Int) := ⟨(1 + cut % (m : Int)).toNat, by have := Int.emod_nonneg cut (b := (m : Int)) (by omega); omega⟩
 have hkm : 1 ≤ k ∧ k ≤ m := by have h1 := Int.emod_nonneg cut (b := (m : Int)) (by omega); have h2 := Int.emod_lt_of_pos cut (b := (m : Int)) (by omega); omega
 repeat' (first|refine gI rfl rfl (show ((n : Nat) : Int) ≤ 6 by omega) ?_|refine aW (g := g1) rfl (hg1.ext hE2) rfl ?_|refine dE rfl (dy (by omega) (by omega)) ?_|refine iC rfl rfl (by omega) (by omega) ?_|refine bc rfl rfl (by omega) (by omega) ?_|refine ai rfl ?_|refine aa ?_|refine aj ?_|refine ah rfl ?_|refine ae ?_|refine aZ rfl ?_|refine bz rfl rfl ?_|refine aN rfl ?_|refine au rfl ?_|refine aE ?_)
 rw [hm]
 refine aw (wB (n := m) (hL2.ext hE02) hI2 (by omega)) rfl ?_
 rintro v w3 ⟨g3, gs3, U, rfl, hO3, hU3, hB3, hE3⟩
 refine ⟨fun _ _ => trivial, ?_⟩
 skip
 refine aw (ee (hO3.mi fun i j hi hj => by have := hB3 i j hi hj; omega) (by omega) (by omega)) rfl ?_
 rintro v w4 ⟨g, gs, cp, rfl, hO4, hE4⟩
 refine ⟨fun _ _ => trivial, ?_⟩
 have hE24 := hE3.trans hE4
 have hE04 := hE02.trans hE24
 have s3 := hE3.size
 have s02 := hE02.size
 have s2 := hE2.size
 have l1 := hn1.hi
 have lg := hO4.low
 have hg14 := (hg1.ext hE2).ext hE24
 repeat' (first|refine dE rfl (dy (by omega) (by omega)) ?_|refine iC rfl rfl (by omega) (by omega) ?_|refine bc rfl rfl (by omega) (by omega) ?_|refine ai rfl ?_|refine aa ?_|refine aj ?_|refine ah rfl ?_|refine ae ?_|refine aZ rfl ?_|refine aA ?_)
 rw [hk]
 refine aY (ι := Nat) [11, 36, 37, 38, 39, 40, 41, 42, 43, 44, 45, 46, 47, 48] (fun i => [(36, .int .i64 (i : Int))])
  (fun i w' => (i ≤ m ∧ Ex w w') ∧ Blk w' g1 24 (gridL rows cols la L.length lc) ∧ Blk w' g 31 (topC m fun x => ⟨some ⟨gs x, 0, none⟩, if x < i then k else m, cp x⟩) ∧ ∀ x, x < m → RO true 2 w' w3.heap.size (gs x) (cp x) m (U x)) (fun i => m - i)
  0 ⟨rfl, trivial⟩ ⟨⟨Nat.zero_le _, hE04⟩, hg14, hO4.top, hO4.row⟩ ?_
 rintro i ξ w5 ⟨⟨hi, hE5⟩, hg5, hT5, hR5⟩
 show CW _ _ _ _ (over [(36, .int .i64 (i : Int))] _) w5
 rcases Nat.lt_or_ge i m with him | him
 ·have hle := (hR5 i him).le
  repeat' (first|refine bu rfl rfl (show ((i : Nat) : Int) < ((m : Nat) : Int) by omega) ?_|refine aD (j := i) (a := some ⟨g, 0, none⟩) rfl rfl ⟨_, _, rfl⟩ (by omega) ?_|refine aV (j := i) (a := some ⟨g, 0, none⟩) rfl hT5.sl (by omega) rfl ?_|refine fO rfl rfl (by omega) (by omega) ?_|refine ai rfl ?_|refine aa ?_|refine aj ?_|refine ah rfl ?_|refine ae ?_|refine az rfl ?_|refine aA ?_|refine aE ?_)
  rw [Int.toNat_natCast]
  refine ch (j := i) (u := ⟨some ⟨gs i, 0, none⟩, k, cp i⟩) rfl rfl hT5 him (fun w6 hc6 hT6 => ⟨fun _ _ => trivial, ?_⟩)
  repeat' (first|refine ai rfl ?_|refine aa ?_|refine ah rfl ?_|refine ae ?_|refine bc rfl rfl (by omega) (by omega) ?_|refine aL ?_)
  refine ⟨⟨i + 1, ⟨⟨him, hE5.chg hc6 (by omega)⟩, hg5.chg hc6 (by omega), ?_, fun x hx => (hR5 x hx).gbN hT5 (bW _ _) (bw hc6) (hO4.off x hx)⟩, by omega, rfl, trivial⟩, (by (repeat (first|exact aH _ _ _|refine ay rfl ?_|refine av rfl ?_|refine ak rfl ?_|refine ao rfl ?_)))⟩
  rw [bY (s' := setF (fun x => (⟨some ⟨gs x, 0, none⟩, if x < i then k else m, cp x⟩ : SD)) i ⟨some ⟨gs i, 0, none⟩, k, cp i⟩) (fun x _ => ?_)]
  ·exact hT6
  ·by_cases e : x = i
   ·subst e; rw [aS, if_pos (Nat.lt_succ_self _)]
   ·rw [aX _ _ e]
    by_cases e' : x < i
    ·rw [if_pos e', if_pos (by omega)]
    ·rw [if_neg e', if_neg (by omega)]
 ·obtain rfl : i = m := by omega
  have hV5 : AM 60 w5 (some ⟨g, 0, none⟩) i (fun x => ⟨some ⟨gs x, 0, none⟩, k, cp x⟩) U := by
   refine ⟨by rw [bY (s' := fun x => (⟨some ⟨gs x, 0, none⟩, if x < i then k else i, cp x⟩ : SD)) (fun x hx => by rw [if_pos hx])]; exact hT5.sl, fun x hx => ?_⟩
   obtain ⟨hh, hb, he⟩ := (hR5 x hx).ex
   have hle := (hR5 x hx).le
   exact ⟨rfl, show k ≤ cp x by omega, hh, hb.sl.row (show k ≤ cp x by omega), fun j hj => ⟨(he j (show j < i by have : j < k := hj; omega)).k.mono (by omega), fun e => nomatch e⟩⟩
  obtain ⟨r, c, B, hr, hc, hmat⟩ := tV (most := 4) hL hI h1 h2 (by omega) lc
  repeat' (first|refine bj rfl rfl (show ((i : Nat) : Int) ≤ ((i : Nat) : Int) by omega) ?_|refine ai rfl ?_|refine aa ?_|refine aj ?_|refine ah rfl ?_|refine ae ?_|refine au rfl ?_|refine aP ?_|refine aJ ?_|refine aQ ?_)
  refine aw (xh hV5 (by omega)) rfl ?_
  rintro v w6 ⟨rfl, hE6⟩
  refine ⟨fun _ _ => trivial, ?_⟩
  have hE06 := hE5.trans hE6
  repeat' (first|refine aR (cs := gridL rows cols la L.length lc) (g := g1) rfl (hg5.ext hE6) rfl ?_|refine ai rfl ?_|refine bz rfl rfl ?_)
  refine aw (hmat _ hE06) rfl ?_
  rintro v w7 ⟨g7, gs7, cp7, rfl, hO7, hE7⟩
  refine ⟨fun _ _ => trivial, ?_⟩
  repeat' (first|refine bz rfl rfl ?_)
  refine aw (xh (AM.up60 (wK hO7) (by omega)) (by omega)) rfl ?_
  rintro v w8 ⟨rfl, hE8⟩
  refine ⟨fun _ _ => trivial, ?_⟩
  have hE08 := hE06.trans (hE7.trans hE8)
  repeat' (first|refine ai rfl ?_|refine bz rfl rfl ?_)
  refine aw (xh (hA.ext hE08) h6) rfl ?_
  rintro v w9 ⟨rfl, hE9⟩
  refine ⟨fun _ _ => trivial, ?_⟩
  repeat' (first|refine ai rfl ?_|refine bz rfl rfl ?_)
  refine aw (nI _) rfl ?_
  rintro v wz ⟨rfl, hEz⟩
  refine ⟨fun _ _ => trivial, ?_⟩
  repeat' (first|refine ai rfl ?_|refine aa ?_|refine ae ?_|refine aI ?_)
  exact bx rfl (rt rfl) ⟨rfl, (hE08.trans hE9).trans hEz⟩
end Go.Proofs.YtiejljicpinheaaGreat
