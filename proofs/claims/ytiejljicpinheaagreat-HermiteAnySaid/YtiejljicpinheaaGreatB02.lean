import Derived.Test.YtiejljicpinheaaGreatA01
import Derived.Test.YtiejljicpinheaaGreatA02
import Derived.Test.YtiejljicpinheaaGreatA03
import Derived.Test.YtiejljicpinheaaGreatA04
import Derived.Test.YtiejljicpinheaaGreatA05
import Derived.Test.YtiejljicpinheaaGreatA06
import Derived.Test.YtiejljicpinheaaGreatA12
import Derived.Test.YtiejljicpinheaaGreatA13
import Derived.Test.YtiejljicpinheaaGreatA14
import Derived.Test.YtiejljicpinheaaGreatA24
import Derived.Test.YtiejljicpinheaaGreatA25
import Derived.Test.YtiejljicpinheaaGreatA26
import Derived.Test.YtiejljicpinheaaGreatA27
import Derived.Test.YtiejljicpinheaaGreatA28
import Derived.Test.YtiejljicpinheaaGreatA29
import Derived.Test.YtiejljicpinheaaGreatB01
namespace Go.Proofs.YtiejljicpinheaaGreat
open Go.W Go.LM Go.LA
theorem wg {P : Program} {S : World → Prop} {ops : List Oper} {K : Env → World → Prop} {rest : List (Oper × Option Bool)} {ρ : Env} {w : World} {b : Option Bool} {d : Nat} {T : TypeId} {pos : String} {af : Array Edge} {x : Operand} {T1 : TypeId} {g o j n : Nat} {f : Nat → IH} [Scal P T1] (hx : ev ρ x = .pointer (some ⟨g, o + j * 2 + 1, none⟩)) (hs : Rd b S w fun w' => Sl w' (some ⟨g, o, none⟩) (rowC n f)) (hj : j < n)
  (h : RR P S ops K rest (upd ρ d (.slice (f j).sd.a (f j).sd.len (f j).sd.cap)) w) : RR P S ops K ((⟨some d, .load T1 x, T, pos, af, none⟩, b) :: rest) ρ w :=
 gD hx (hs.imp fun w' hs => by
  have := hs.get (j * 2 + 1) (by rw [bT]; omega)
  rw [List.getD_eq_getElem?_getD, (kE hj).2] at this
  exact this) h
def nsm : Nat → (Nat → Nat) → Nat
 | 0, _ => 0
 | n + 1, f => nsm n f + f n
theorem wk {n : Nat} {f : Nat → Nat} : ∀ {m : Nat}, m ≤ n → nsm m f ≤ nsm n f := by
 induction n with
 | zero => intro m h; obtain rfl : m = 0 := by omega
           exact Nat.le_refl _
 | succ n ih =>
  intro m h
  rcases Nat.lt_or_ge n m with h1 | h1
  ·obtain rfl : m = n + 1 := by omega
   exact Nat.le_refl _
  ·exact Nat.le_trans (ih h1) (Nat.le_add_right _ _)
theorem v9 {n i : Nat} {f : Nat → Nat} (h : i < n) : f i ≤ nsm n f := by
 have := wk (f := f) (show i + 1 ≤ n by omega)
 have e : nsm (i + 1) f = nsm i f + f i := rfl
 omega
theorem wh {n c : Nat} {f : Nat → Nat} (h : ∀ i, i < n → f i = c) : nsm n f = n * c := by
 induction n with
 | zero => simp [nsm]
 | succ n ih => rw [nsm, ih fun i hi => h i (by omega), h n (by omega), Nat.succ_mul]
theorem wj (n : Nat) (f g : Nat → Nat) : nsm n (fun i => f i + g i) = nsm n f + nsm n g := by
 induction n with
 | zero => rfl
 | succ n ih => simp only [nsm]; rw [ih]; omega
def lgN (s : Nat → SD) (L : Nat → Nat → List Nat) (n i : Nat) : Nat := n + nsm i fun k => (s k).len + nsm (s k).len fun j => (L k j).length
def valF (h : Nat → Nat → IH) (L : Nat → Nat → List Nat) : Mat := fun i j => sgn (h i j).neg (natOf (L i j))
set_option maxRecDepth 10000 in
set_option maxHeartbeats 4000000 in
theorem we {n cap : Nat} {w : World} {a : Option Addr} {s : Nat → SD} {h : Nat → Nat → IH} {L : Nat → Nat → List Nat} (hM : RawM w a n s h L) :
  CallsR Tryz.prog 20 #[.slice a n cap] w fun v w' => ∃ t : Bool, v = .bool t ∧ (t = false → lgN s L n n ≤ 60) ∧ Ex w w' := by
 refine aF (args := [_]) Tryz.func20 rfl rfl ?_
 repeat' (first|refine ai rfl ?_|refine aa ?_|refine aj ?_|refine ah rfl ?_|refine ae ?_|refine aZ rfl ?_|refine aA ?_)
 have hmx := hM.max
 refine aY (ι := Nat × Nat) [3, 4, 5, 8, 9, 10, 11, 12, 13, 14, 15, 16, 17, 18, 19, 20, 21, 22, 23, 24, 25, 26, 27, 28, 29, 30, 31, 32, 33, 34, 35, 36, 37, 38, 39, 40, 41, 42, 43, 44, 45, 46, 47, 48] (fun t => [(4, .int .i64 (t.1 : Int)), (3, .int .i64 (t.2 : Int))])
  (fun t w' => t.1 ≤ n ∧ Ex w w' ∧ t.2 ≤ 422212465065984 ∧ (t.2 < 1000 → t.2 = lgN s L n t.1)) (fun t => n - t.1)
  (0, n) ⟨rfl, rfl, trivial⟩ ⟨Nat.zero_le _, Ex.refl _, Nat.le_trans hmx (by omega), fun _ => (Nat.add_zero n).symm⟩ ?_
 rintro ⟨i, m⟩ ξ w1 ⟨hi, hE1, hm, hl⟩
 simp only at hi hm hl
 show CW _ _ _ _ (over [(4, .int .i64 (i : Int)), (3, .int .i64 (m : Int))] _) w1
 have hM1 := hM.ext hE1
 have hpt : 0 < n → W.plain a := fun h0 => hM.top.plain (by rw [bP]; exact h0)
 rcases Nat.lt_or_ge i n with hin | hin
 ·rcases Nat.lt_or_ge m 1000 with hm1 | hm1
  ·have hR := hM1.row i hin
   have hmR := hR.max
   have hlm := hl hm1
   repeat' (first|refine bu rfl rfl (show ((i : Nat) : Int) < ((n : Nat) : Int) by omega) ?_|refine bu rfl rfl (show ((m : Nat) : Int) < 1000 by omega) ?_|refine aD (j := i) rfl rfl (hpt (by omega)) (by omega) ?_|refine cG (j := i) rfl hM1.top (by omega) ?_|refine ai rfl ?_|refine aa ?_|refine aj ?_|refine ah rfl ?_|refine ae ?_|refine aZ rfl ?_|refine bz rfl rfl ?_|refine bc rfl rfl (by omega) (by omega) ?_|refine az rfl ?_|refine aA ?_|refine aE ?_)
   refine aY (ι := Nat × Nat) [3, 5, 25, 26, 27, 28, 29, 30, 31, 32, 33, 34, 35, 36, 37, 38, 39, 40, 41, 42, 43, 44, 45, 46, 47, 48] (fun t => [(5, .int .i64 (t.1 : Int)), (3, .int .i64 (t.2 : Int))])
    (fun t w' => t.1 ≤ (s i).len ∧ Ex w1 w' ∧ t.2 ≤ 140737488360000 ∧ (t.2 < 1000 → t.2 = lgN s L n i + (s i).len + nsm t.1 fun j => (L i j).length)) (fun t => (s i).len - t.1)
    (0, m + (s i).len) ⟨rfl, by show Value.int .i64 ((m : Int) + ((s i).len : Int)) = _; congr 1, trivial⟩ ⟨Nat.zero_le _, Ex.refl _, show m + (s i).len ≤ 140737488360000 by omega, fun _ => by rw [hlm]; rfl⟩ ?_
   rintro ⟨j, m2⟩ ξ2 w2 ⟨hj, hE2, hm2, hl2⟩
   simp only at hj hm2 hl2
   show CW _ _ _ _ (over [(5, .int .i64 (j : Int)), (3, .int .i64 (m2 : Int))] _) w2
   have hM2 := hM1.ext hE2
   have hR2 := hR.ext hE2
   rcases Nat.lt_or_ge j (s i).len with hjl | hjl
   ·have hI := hR2.ent j hjl
    have hmI := hI.max
    have hpr : W.plain (s i).a := hR2.sl.plain (by rw [bT]; omega)
    obtain ⟨pgzz, pozz, hpe⟩ := hpr
    have hsi : s i = ⟨some ⟨pgzz, pozz, none⟩, (s i).len, (s i).cap⟩ := by rw [← hpe]
    have hsl : Sl w2 (some ⟨pgzz, pozz, none⟩) (rowC (s i).len (h i)) := by rw [← hpe]; exact hR2.sl
    rcases Nat.lt_or_ge m2 1000 with hm21 | hm21
    ·repeat' (first|refine aD (j := i) rfl rfl (hpt (by omega)) (by omega) ?_|refine aV (j := i) rfl hM2.top (by omega) hsi ?_|(refine bu rfl rfl (show ((j : Nat) : Int) < (((s i).len : Nat) : Int) by omega) ?_)|refine bu rfl rfl (show ((m2 : Nat) : Int) < 1000 by omega) ?_|refine aT (j := j) (a := some ⟨pgzz, pozz, none⟩) rfl rfl ⟨_, _, rfl⟩ (by omega) ?_|refine wg (j := j) rfl hsl hjl ?_|refine ai rfl ?_|refine aa ?_|refine aj ?_|refine ah rfl ?_|refine ae ?_|refine aZ rfl ?_|refine bz rfl rfl ?_|refine bc rfl rfl (by omega) (by omega) ?_|refine aN rfl ?_|refine az rfl ?_|refine aA ?_|refine aL ?_|refine aE ?_)
     refine ⟨⟨(j + 1, m2 + (h i j).sd.len), ⟨hjl, hE2, show m2 + (h i j).sd.len ≤ 140737488360000 by omega, fun _ => ?_⟩, by simp only; omega, rfl, rfl, trivial⟩, (by (repeat (first|exact aH _ _ _|refine ay rfl ?_|refine av rfl ?_|refine ak rfl ?_|refine ao rfl ?_)))⟩
     show m2 + (h i j).sd.len = _ + (nsm j _ + (L i j).length)
     rw [hl2 hm21, hI.len]; omega
    ·repeat' (first|refine aD (j := i) rfl rfl (hpt (by omega)) (by omega) ?_|refine cG (j := i) rfl hM2.top (by omega) ?_|(refine bu rfl rfl (show ((j : Nat) : Int) < (((s i).len : Nat) : Int) by omega) ?_)|refine bj rfl rfl (show (1000 : Int) ≤ ((m2 : Nat) : Int) by omega) ?_|refine ai rfl ?_|refine aa ?_|refine aj ?_|refine ah rfl ?_|refine ae ?_|refine aZ rfl ?_|refine bz rfl rfl ?_|refine bc rfl rfl (by omega) (by omega) ?_|refine au rfl ?_|refine aP ?_|refine aJ ?_|refine aQ ?_|refine aL ?_)
     exact ⟨⟨(i + 1, m2), ⟨hin, hE1.trans hE2, show m2 ≤ 422212465065984 by omega, fun h => absurd h (show ¬ m2 < 1000 by omega)⟩, by simp only; omega, rfl, rfl, trivial⟩, (by (repeat (first|exact aH _ _ _|refine ay rfl ?_|refine av rfl ?_|refine ak rfl ?_|refine ao rfl ?_)))⟩
   ·repeat' (first|refine aD (j := i) rfl rfl (hpt (by omega)) (by omega) ?_|refine cG (j := i) rfl hM2.top (by omega) ?_|(refine bj rfl rfl (show (((s i).len : Nat) : Int) ≤ ((j : Nat) : Int) by omega) ?_)|refine ai rfl ?_|refine aa ?_|refine aj ?_|refine ah rfl ?_|refine ae ?_|refine aZ rfl ?_|refine bK rfl rfl ?_|refine bc rfl rfl (by omega) (by omega) ?_|refine au rfl ?_|refine aP ?_|refine aJ ?_|refine aQ ?_|refine aL ?_)
    refine ⟨⟨(i + 1, m2), ⟨hin, hE1.trans hE2, show m2 ≤ 422212465065984 by omega, fun h => ?_⟩, by simp only; omega, rfl, rfl, trivial⟩, (by (repeat (first|exact aH _ _ _|refine ay rfl ?_|refine av rfl ?_|refine ak rfl ?_|refine ao rfl ?_)))⟩
    show m2 = n + (nsm i _ + ((s i).len + nsm (s i).len fun j => (L i j).length))
    rw [hl2 h, show j = (s i).len by omega]
    unfold lgN
    omega
  ·repeat' (first|refine bu rfl rfl (show ((i : Nat) : Int) < ((n : Nat) : Int) by omega) ?_|refine bj rfl rfl (show (1000 : Int) ≤ ((m : Nat) : Int) by omega) ?_|refine kh rfl rfl (show (60 : Int) < ((m : Nat) : Int) by omega) ?_|refine ai rfl ?_|refine aa ?_|refine aj ?_|refine ah rfl ?_|refine ae ?_|refine aZ rfl ?_|refine bz rfl rfl ?_|refine au rfl ?_|refine aP ?_|refine aJ ?_|refine aQ ?_|refine aI ?_)
   exact bx rfl (rt rfl) ⟨true, rfl, fun e => (nomatch e), hE1⟩
 ·obtain rfl : i = n := by omega
  rcases Nat.lt_or_ge 60 m with h60 | h60
  ·repeat' (first|refine bj rfl rfl (show ((i : Nat) : Int) ≤ ((i : Nat) : Int) by omega) ?_|refine kh rfl rfl (show (60 : Int) < ((m : Nat) : Int) by omega) ?_|refine ai rfl ?_|refine aa ?_|refine aj ?_|refine ah rfl ?_|refine ae ?_|refine aZ rfl ?_|refine bK rfl rfl ?_|refine au rfl ?_|refine aP ?_|refine aJ ?_|refine aQ ?_|refine aI ?_)
   exact bx rfl (rt rfl) ⟨true, rfl, fun e => (nomatch e), hE1⟩
  ·repeat' (first|refine bj rfl rfl (show ((i : Nat) : Int) ≤ ((i : Nat) : Int) by omega) ?_|refine gI rfl rfl (show ((m : Nat) : Int) ≤ (60 : Int) by omega) ?_|refine ai rfl ?_|refine aa ?_|refine aj ?_|refine ah rfl ?_|refine ae ?_|refine aZ rfl ?_|refine bK rfl rfl ?_|refine au rfl ?_|refine aP ?_|refine aJ ?_|refine aQ ?_|refine aI ?_)
   exact bx rfl (rt rfl) ⟨false, rfl, fun _ => by rw [← hl (show m < 1000 by omega)]; exact h60, hE1⟩
theorem wl {n : Nat} {w : World} {a : Option Addr} {s : Nat → SD} {h : Nat → Nat → IH} {L : Nat → Nat → List Nat} (hM : RawM w a n s h L) (hl : lgN s L n n ≤ 60) :
  AM 60 w a n s (valF h L) ∧ n ≤ 60 ∧ (∀ i, i < n → (s i).len ≤ 60) ∧ (okS n s → n * (s 0).len + n ≤ 60) := by
 have hf : ∀ i, i < n → ((s i).len + nsm (s i).len fun j => (L i j).length) ≤ 60 - n ∧ n ≤ 60 := fun i hi => by
  have h1 := v9 (f := fun k => (s k).len + nsm (s k).len fun j => (L k j).length) hi
  unfold lgN at hl
  omega
 refine ⟨⟨hM.top, fun i hi => ?_⟩, by unfold lgN at hl; omega, fun i hi => by have := hf i hi; omega, fun ok => ?_⟩
 ·have hR := hM.row i hi
  refine ⟨rfl, hR.cap, h i, hR.sl, fun j hj => ⟨⟨(h i j).neg, (h i j).sd.a, (h i j).sd.cap, L i j, ?_, ⟨(hR.ent j hj).sl, (hR.ent j hj).cap, (hR.ent j hj).lim, ?_⟩, rfl, ?_⟩, fun e => nomatch e⟩⟩
  ·rw [← (hR.ent j hj).len]; rfl
  ·have h1 := v9 (f := fun j => (L i j).length) hj
   have h2 := hf i hi
   omega
  ·have h1 := v9 (f := fun j => (L i j).length) hj
   have h2 := hf i hi
   omega
 ·have h1 : nsm n (fun k => (s k).len) ≤ nsm n fun k => (s k).len + nsm (s k).len fun j => (L k j).length := by
   rw [wj n (fun k => (s k).len)]; omega
  rw [wh (f := fun k => (s k).len) (c := (s 0).len) (fun i hi => ok.2.2.2.2 i hi)] at h1
  unfold lgN at hl
  omega
end Go.Proofs.YtiejljicpinheaaGreat
namespace Go.Proofs.YtiejljicpinheaaGreat
open Go.W Go.LM Go.LA Go.PM
set_option maxHeartbeats 8000000 in
theorem wi {n : Nat} {w : World} {a : Option Addr} {s : Nat → SD} {h : Nat → Nat → IH} {L : Nat → Nat → List Nat} (hM : RawM w a n s h L) (cap : Nat) :
  CallsR Tryz.prog 4 #[.slice a n cap] w fun v w' => v = .bool true ∧ Ex w w' := by
 refine aF (args := [_]) Tryz.func4 rfl rfl ?_
 repeat' (first|refine ai rfl ?_|refine aa ?_|refine aj ?_|refine ah rfl ?_|refine ae ?_)
 refine aw (we hM) rfl ?_
 rintro v w1 ⟨t1, rfl, hl, hE1⟩
 refine ⟨fun _ _ => trivial, ?_⟩
 rcases Bool.eq_false_or_eq_true t1 with rfl | rfl
 ·repeat' (first|refine aa ?_|refine aj ?_|refine ah rfl ?_|refine ae ?_|refine az rfl ?_)
  refine aw (nI _) rfl ?_
  rintro v w2 ⟨rfl, hE2⟩
  refine ⟨fun _ _ => trivial, ?_⟩
  repeat' (first|refine ai rfl ?_|refine aa ?_|refine ae ?_|refine aI ?_|refine aU ?_)
  exact bx rfl (rt rfl) ⟨rfl, hE1.trans hE2⟩
 obtain ⟨hA, hn60, _, hsz⟩ := wl hM (hl rfl)
 generalize valF h L = A at *
 clear hM hl
 by_cases ok : okS n s
 ·have hr := iy ok
  have hc := gQ ok
  have hX : MX false 60 w a n (s 0).len s A := hA.mx ok
  generalize (s 0).len = c at *
  repeat' (first|refine ai rfl ?_|refine aa ?_|refine aj ?_|refine ah rfl ?_|refine ae ?_|refine au rfl ?_|refine aE ?_)
  refine aw (dV (hX.ext hE1) (by omega) (by omega) (by omega) (by omega)) rfl ?_
  rintro v w3 ⟨g3, g3', gs3, cp3, gs3', cp3', H, U, k, p, rfl, hF3, hE3⟩
  refine ⟨fun _ _ => trivial, ?_⟩
  have hE13 := hE1.trans hE3
  have hAl : ∀ i j, i < n → j < c → Lb 60 (A i j) := fun i j hi hj => hX.lb hi hj
  repeat' (first|refine aK rfl rfl ?_|refine ai rfl ?_|refine aa ?_|refine aj ?_|refine ah rfl ?_|refine ae ?_)
  refine aw (gi (Q := 100) (s := 0) (KM := KMz) (hX.ext hE13) (by omega) (by omega) (v7 hAl (by omega)) (by omega) (tX (by omega)) (by decide)) rfl ?_
  rintro v w4 ⟨g4, g4', gs4, cp4, gs4', cp4', H', U', k', p', rfl, hF4, _, _, _, hE4⟩
  refine ⟨fun _ _ => trivial, ?_⟩
  have hE14 := hE13.trans hE4
  repeat' (first|refine aK rfl rfl ?_|refine ai rfl ?_|refine aa ?_|refine aj ?_|refine ah rfl ?_|refine ae ?_)
  refine aw (gg (hX.ext hE14) (by omega) (by omega) (by omega) (by omega)) rfl ?_
  intro v w5 hB5
  obtain ⟨H5, U5, k5zz, p5, u5zz, s5, rfl, hC5, hF5, hA5, hu5, h05, h15, hE5⟩ := hB5.ac hr hc.2
  refine ⟨fun _ _ => trivial, ?_⟩
  have hE15 := hE14.trans hE5
  repeat' (first|refine aK rfl rfl ?_|refine ai rfl ?_|refine aa ?_|refine aj ?_|refine ah rfl ?_|refine ae ?_)
  refine aw (cV (Q := 100) (s := 0) (KM := KMz) (hX.ext hE15) (by omega) (by omega) (v7 hAl (by omega)) (by omega) (tX (by omega)) (by decide)) rfl ?_
  intro v w6 hB6
  obtain ⟨H6, U6, k6zz, p6zz, u6zz, s6, rfl, hC6, hF6, hA6, hu6, h06, h16, hE6⟩ := (hB6.basis (KM := KMz) (by omega) (tX (by omega))).ac hr hc.2
  refine ⟨fun _ _ => trivial, ?_⟩
  have hE46 := hE5.trans hE6
  have hsame := (jd hF3.ceq hF3.hf hF4.ceq hF4.hf).2
  have hlat := (pU hF5 hF6 hr.1 (fun e => h05 e) (fun e => h15 e) (fun e => h06 e) (fun e => h16 e)).2 (fun v => (hC5.inL v).trans (hC6.inL v).symm)
  repeat' (first|refine aK rfl rfl ?_|refine vU rfl rfl ?_|refine ai rfl ?_|refine aa ?_|refine aj ?_|refine ah rfl ?_|refine ae ?_|refine bz rfl rfl ?_)
  refine aw (dK ((hF3.h.ext (hE4.trans hE46)).mx.ac (by omega)) ((hF4.h.ext hE46).mx.ac (by omega)) (by omega)) rfl ?_
  rintro v w7 ⟨t7zz, rfl, ht7, hE7⟩
  refine ⟨fun _ _ => trivial, ?_⟩
  obtain rfl : t7zz = true := ht7.2 ⟨rfl, fun i hi => ⟨rfl, fun j hj => hsame i j hi hj⟩⟩
  repeat' (first|refine ai rfl ?_|refine bz rfl rfl ?_)
  refine aw (dK (hA5.ext (hE6.trans hE7)) (hA6.ext hE7) (by omega)) rfl ?_
  rintro v w8 ⟨t8, rfl, ht8, hE8⟩
  refine ⟨fun _ _ => trivial, ?_⟩
  obtain rfl : t8 = true := ht8.2 hlat
  have hE38 := ((hE4.trans hE46).trans hE7).trans hE8
  repeat' (first|refine ai rfl ?_|refine aa ?_|refine aj ?_|refine ah rfl ?_|refine ae ?_|refine bz rfl rfl ?_|refine au rfl ?_|refine aE ?_)
  refine aw (iz (hF3.u.ext hE38).mx (by omega) (by omega) (by omega)) rfl ?_
  rintro v w9 ⟨t9zz, rfl, ht9, hE9⟩
  refine ⟨fun _ _ => trivial, ?_⟩
  obtain rfl : t9zz = true := ht9.2 ⟨rfl, hF3.ceq.1⟩
  have hE39 := hE38.trans hE9
  repeat' (first|refine ai rfl ?_|refine bz rfl rfl ?_)
  refine aw (jM (hX.ext (hE13.trans hE39)) (hF3.u.ext hE39).mx (by omega) (by omega) (by omega) (by omega)) rfl ?_
  rintro v w10 ⟨g10, gs10, cp10, rfl, hO10, hE10⟩
  refine ⟨fun _ _ => trivial, ?_⟩
  repeat' (first|refine ai rfl ?_|refine bz rfl rfl ?_)
  refine aw (rH hO10.mx (hF3.h.ext (hE39.trans hE10)).mx (by omega) (by omega) (by omega) (by omega)) rfl ?_
  rintro v w11 ⟨t11, rfl, ht11, hE11⟩
  refine ⟨fun _ _ => trivial, ?_⟩
  obtain rfl : t11 = true := ht11.2 ⟨rfl, rfl, fun i j hi hj => (hF3.ceq.2 i j hi hj).symm⟩
  repeat' (first|refine ai rfl ?_|refine bz rfl rfl ?_)
  refine aw (nI _) rfl ?_
  rintro v w12 ⟨rfl, hE12⟩
  refine ⟨fun _ _ => trivial, ?_⟩
  repeat' (first|refine ai rfl ?_|refine aa ?_|refine ae ?_|refine aI ?_)
  exact bx rfl (rt rfl) ⟨rfl, ((hE13.trans hE39).trans hE10).trans (hE11.trans hE12)⟩
 ·repeat' (first|refine ai rfl ?_|refine aa ?_|refine aj ?_|refine ah rfl ?_|refine ae ?_|refine au rfl ?_|refine aE ?_)
  refine aw (jY (hA.ext hE1).top ok) rfl ?_
  rintro v w3 ⟨rfl, hE3⟩
  refine ⟨fun _ _ => trivial, ?_⟩
  have hE13 := hE1.trans hE3
  repeat' (first|refine aK rfl rfl ?_|refine ai rfl ?_|refine aa ?_|refine aj ?_|refine ah rfl ?_|refine ae ?_)
  refine aw (kU (hA.ext hE13).top ok) rfl ?_
  rintro v w4 ⟨rfl, hE4⟩
  refine ⟨fun _ _ => trivial, ?_⟩
  have hE14 := hE13.trans hE4
  repeat' (first|refine aK rfl rfl ?_|refine ai rfl ?_|refine aa ?_|refine aj ?_|refine ah rfl ?_|refine ae ?_)
  refine aw (kP (hA.ext hE14).top ok) rfl ?_
  rintro v w5 ⟨rfl, hE5⟩
  refine ⟨fun _ _ => trivial, ?_⟩
  have hE15 := hE14.trans hE5
  repeat' (first|refine aK rfl rfl ?_|refine ai rfl ?_|refine aa ?_|refine aj ?_|refine ah rfl ?_|refine ae ?_)
  refine aw (eD (hA.ext hE15).top ok) rfl ?_
  rintro v w6 ⟨rfl, hE6⟩
  refine ⟨fun _ _ => trivial, ?_⟩
  have hE16 := hE15.trans hE6
  repeat' (first|refine aK rfl rfl ?_|refine vU rfl rfl ?_|refine ai rfl ?_|refine aa ?_|refine aj ?_|refine ah rfl ?_|refine ae ?_|refine bz rfl rfl ?_)
  refine aw (dK (AC.nil 0 _ none (fun _ => sd0) A) (AC.nil 0 _ none (fun _ => sd0) A) (by omega)) rfl ?_
  rintro v w7 ⟨t7zz, rfl, ht7, hE7⟩
  refine ⟨fun _ _ => trivial, ?_⟩
  obtain rfl : t7zz = true := ht7.2 ⟨rfl, fun i hi => absurd hi (Nat.not_lt_zero _)⟩
  repeat' (first|refine ai rfl ?_|refine bz rfl rfl ?_)
  refine aw (dK (AC.nil 0 _ none (fun _ => sd0) A) (AC.nil 0 _ none (fun _ => sd0) A) (by omega)) rfl ?_
  rintro v w8 ⟨t8, rfl, ht8, hE8⟩
  refine ⟨fun _ _ => trivial, ?_⟩
  obtain rfl : t8 = true := ht8.2 ⟨rfl, fun i hi => absurd hi (Nat.not_lt_zero _)⟩
  repeat' (first|refine ai rfl ?_|refine aa ?_|refine aj ?_|refine ah rfl ?_|refine ae ?_|refine aZ rfl ?_|refine bz rfl rfl ?_|refine az rfl ?_|refine au rfl ?_|refine aE ?_)
  refine aw (nI _) rfl ?_
  rintro v w9 ⟨rfl, hE9⟩
  refine ⟨fun _ _ => trivial, ?_⟩
  repeat' (first|refine ai rfl ?_|refine aa ?_|refine ae ?_|refine aI ?_|refine aU ?_)
  exact bx rfl (rt rfl) ⟨rfl, (hE16.trans hE7).trans (hE8.trans hE9)⟩
end Go.Proofs.YtiejljicpinheaaGreat
