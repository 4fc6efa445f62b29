import Derived.Test.YtiejljicpinheaaGreatA01
import Derived.Test.YtiejljicpinheaaGreatA02
import Derived.Test.YtiejljicpinheaaGreatA03
import Derived.Test.YtiejljicpinheaaGreatA04
import Derived.Test.YtiejljicpinheaaGreatA05
import Derived.Test.YtiejljicpinheaaGreatA06
import Derived.Test.YtiejljicpinheaaGreatA07
import Derived.Test.YtiejljicpinheaaGreatA12
import Derived.Test.YtiejljicpinheaaGreatA13
import Derived.Test.YtiejljicpinheaaGreatA14
import Derived.Test.YtiejljicpinheaaGreatA24
import Derived.Test.YtiejljicpinheaaGreatA26
import Derived.Test.YtiejljicpinheaaGreatA28
import Derived.Test.YtiejljicpinheaaGreatA29
import Derived.Test.YtiejljicpinheaaGreatH01
namespace Go.Proofs.YtiejljicpinheaaGreat
open Go.W Go.LM Go.LA
theorem wg {P : Program} {S : World → Prop} {ops : List Oper} {K : Env → World → Prop} {rest : List (Oper × Option Bool)} {ρ : Env} {w : World} {b : Option Bool} {d : Nat} {T : TypeId} {pos : String} {af : Array Edge} {x : Operand} {T1 : TypeId} {g o j n : Nat} {f : Nat → IH} [Scal P T1] (hx : ev ρ x = .pointer (some ⟨g, o + j * 2 + 1, none⟩)) (hs : Rd b S w fun w' => Sl w' (some ⟨g, o, none⟩) (rowC n f)) (hj : j < n)
  (h : RR P S ops K rest (upd ρ d (.slice (f j).sd.a (f j).sd.len (f j).sd.cap)) w) : RR P S ops K ((⟨some d, .load T1 x, T, pos, af, none⟩, b) :: rest) ρ w :=
 gD hx (hs.imp fun w' hs => by
  have := hs.get (j * 2 + 1) (by rw [bT]; omega)
  rw [List.getD_eq_getElem?_getD, (kE hj).2] at this
  exact this) h
def nsm : Nat → (Nat → Nat) → Nat
 | 0, _ => 0
 | n + 1, f => nsm n f + f n
theorem wk {n : Nat} {f : Nat → Nat} : ∀ {m : Nat}, m ≤ n → nsm m f ≤ nsm n f := by
 induction n with
 | zero => intro m h; obtain rfl : m = 0 := by omega
           exact Nat.le_refl _
 | succ n ih =>
  intro m h
  rcases Nat.lt_or_ge n m with h1 | h1
  ·obtain rfl : m = n + 1 := by omega
   exact Nat.le_refl _
  ·exact Nat.le_trans (ih h1) (Nat.le_add_right _ _)
theorem v9 {n i : Nat} {f : Nat → Nat} (h : i < n) : f i ≤ nsm n f := by
 have := wk (f := f) (show i + 1 ≤ n by omega)
 have e : nsm (i + 1) f = nsm i f + f i := rfl
 omega
theorem wh {n c : Nat} {f : Nat → Nat} (h : ∀ i, i < n → f i = c) : nsm n f = n * c := by
 induction n with
 | zero => simp [nsm]
 | succ n ih => rw [nsm, ih fun i hi => h i (by omega), h n (by omega), Nat.succ_mul]
theorem wj (n : Nat) (f g : Nat → Nat) : nsm n (fun i => f i + g i) = nsm n f + nsm n g := by
 induction n with
 | zero => rfl
 | succ n ih => simp only [nsm]; rw [ih]; omega
def lgN (s : Nat → SD) (L : Nat → Nat → List Nat) (n i : Nat) : Nat := n + nsm i fun k => (s k).len + nsm (s k).len fun j => (L k j).length
def valF (h : Nat → Nat → IH) (L : Nat → Nat → List Nat) : Mat := fun i j => sgn (h i j).neg (natOf (L i j))
set_option maxRecDepth 10000 in
set_option maxHeartbeats 4000000 in
theorem we {n cap : Nat} {w : World} {a : Option Addr} {s : Nat → SD} {h : Nat → Nat → IH} {L : Nat → Nat → List Nat} (hM : RawM w a n s h L) :
  CallsR Tryz.prog 20 #[.slice a n cap] w fun v w' => ∃ t : Bool, v = .bool t ∧ (t = false → lgN s L n n ≤ 60) ∧ Ex w w' := by
 refine aF (args := [_]) Tryz.func20 rfl rfl ?_
 repeat' (first|refine ai rfl ?_|refine aa ?_|refine aj ?_|refine ah rfl ?_|refine ae ?_|refine aZ rfl ?_|refine aA ?_)
 have hmx := hM.max
 refine aY (ι := Nat × Nat) [3, 4, 5, 8, 9, 10, 11, 12, 13, 14, 15, 16, 17, 18, 19, 20, 21, 22, 23, 24, 25, 26, 27, 28, 29, 30, 31, 32, 33, 34, 35, 36, 37, 38, 39, 40, 41, 42, 43, 44, 45, 46, 47, 48] (fun t => [(4, .int .i64 (t.1 : Int)), (3, .int .i64 (t.2 : Int))])
  (fun t w' => t.1 ≤ n ∧ Ex w w' ∧ t.2 ≤ 422212465065984 ∧ (t.2 < 1000 → t.2 = lgN s L n t.1)) (fun t => n - t.1)
  (0, n) ⟨rfl, rfl, trivial⟩ ⟨Nat.zero_le _, Ex.refl _, Nat.le_trans hmx (by omega), fun _ => (Nat.add_zero n).symm⟩ ?_
 rintro ⟨i, m⟩ ξ w1 ⟨hi, hE1, hm, hl⟩
 simp only at hi hm hl
 show CW _ _ _ _ (over [(4, .int .i64 (i : Int)), (3, .int .i64 (m : Int))] _) w1
 have hM1 := hM.ext hE1
 have hpt : 0 < n → W.plain a := fun h0 => hM.top.plain (by rw [bP]; exact h0)
 rcases Nat.lt_or_ge i n with hin | hin
 ·rcases Nat.lt_or_ge m 1000 with hm1 | hm1
  ·have hR := hM1.row i hin
   have hmR := hR.max
   have hlm := hl hm1
   repeat' (first|refine bu rfl rfl (show ((i : Nat) : Int) < ((n : Nat) : Int) by omega) ?_|refine bu rfl rfl (show ((m : Nat) : Int) < 1000 by omega) ?_|refine aD (j := i) rfl rfl (hpt (by omega)) (by omega) ?_|refine cG (j := i) rfl hM1.top (by omega) ?_|refine ai rfl ?_|refine aa ?_|refine aj ?_|refine ah rfl ?_|refine ae ?_|refine aZ rfl ?_|refine bz rfl rfl ?_|refine bc rfl rfl (by omega) (by omega) ?_|refine az rfl ?_|refine aA ?_|refine aE ?_)
   refine aY (ι := Nat × Nat) [3, 5, 25, 26, 27, 28, 29, 30, 31, 32, 33, 34, 35, 36, 37, 38, 39, 40, 41, 42, 43, 44, 45, 46, 47, 48] (fun t => [(5, .int .i64 (t.1 : Int)), (3, .int .i64 (t.2 : Int))])
    (fun t w' => t.1 ≤ (s i).len ∧ Ex w1 w' ∧ t.2 ≤ 140737488360000 ∧ (t.2 < 1000 → t.2 = lgN s L n i + (s i).len + nsm t.1 fun j => (L i j).length)) (fun t => (s i).len - t.1)
    (0, m + (s i).len) ⟨rfl, by show Value.int .i64 ((m : Int) + ((s i).len : Int)) = _; congr 1, trivial⟩ ⟨Nat.zero_le _, Ex.refl _, show m + (s i).len ≤ 140737488360000 by omega, fun _ => by rw [hlm]; rfl⟩ ?_
   rintro ⟨j, m2⟩ ξ2 w2 ⟨hj, hE2, hm2, hl2⟩
   simp only at hj hm2 hl2
   show CW _ _ _ _ (over [(5, .int .i64 (j : Int)), (3, .int .i64 (m2 : Int))] _) w2
   have hM2 := hM1.ext hE2
   have hR2 := hR.ext hE2
   rcases Nat.lt_or_ge j (s i).len with hjl | hjl
   ·have hI := hR2.ent j hjl
    have hmI := hI.max
    have hpr : W.plain (s i).a := hR2.sl.plain (by rw [bT]; omega)
    obtain ⟨pgzz, pozz, hpe⟩ := hpr
    have hsi : s i = ⟨some ⟨pgzz, pozz, none⟩, (s i).len, (s i).cap⟩ := by rw [← hpe]
    have hsl : Sl w2 (some ⟨pgzz, pozz, none⟩) (rowC (s i).len (h i)) := by rw [← hpe]; exact hR2.sl
    rcases Nat.lt_or_ge m2 1000 with hm21 | hm21
    ·repeat' (first|refine aD (j := i) rfl rfl (hpt (by omega)) (by omega) ?_|refine aV (j := i) rfl hM2.top (by omega) hsi ?_|(refine bu rfl rfl (show ((j : Nat) : Int) < (((s i).len : Nat) : Int) by omega) ?_)|refine bu rfl rfl (show ((m2 : Nat) : Int) < 1000 by omega) ?_|refine aT (j := j) (a := some ⟨pgzz, pozz, none⟩) rfl rfl ⟨_, _, rfl⟩ (by omega) ?_|refine wg (j := j) rfl hsl hjl ?_|refine ai rfl ?_|refine aa ?_|refine aj ?_|refine ah rfl ?_|refine ae ?_|refine aZ rfl ?_|refine bz rfl rfl ?_|refine bc rfl rfl (by omega) (by omega) ?_|refine aN rfl ?_|refine az rfl ?_|refine aA ?_|refine aL ?_|refine aE ?_)
     refine ⟨⟨(j + 1, m2 + (h i j).sd.len), ⟨hjl, hE2, show m2 + (h i j).sd.len ≤ 140737488360000 by omega, fun _ => ?_⟩, by simp only; omega, rfl, rfl, trivial⟩, (by (repeat (first|exact aH _ _ _|refine ay rfl ?_|refine av rfl ?_|refine ak rfl ?_|refine ao rfl ?_)))⟩
     show m2 + (h i j).sd.len = _ + (nsm j _ + (L i j).length)
     rw [hl2 hm21, hI.len]; omega
    ·repeat' (first|refine aD (j := i) rfl rfl (hpt (by omega)) (by omega) ?_|refine cG (j := i) rfl hM2.top (by omega) ?_|(refine bu rfl rfl (show ((j : Nat) : Int) < (((s i).len : Nat) : Int) by omega) ?_)|refine bj rfl rfl (show (1000 : Int) ≤ ((m2 : Nat) : Int) by omega) ?_|refine ai rfl ?_|refine aa ?_|refine aj ?_|refine ah rfl ?_|refine ae ?_|refine aZ rfl ?_|refine bz rfl rfl ?_|refine bc rfl rfl (by omega) (by omega) ?_|refine au rfl ?_|refine aP ?_|refine aJ ?_|refine aQ ?_|refine aL ?_)
     exact ⟨⟨(i + 1, m2), ⟨hin, hE1.trans hE2, show m2 ≤ 422212465065984 by omega, fun h => absurd h (show ¬ m2 < 1000 by omega)⟩, by simp only; omega, rfl, rfl, trivial⟩, (by (repeat (first|exact aH _ _ _|refine ay rfl ?_|refine av rfl ?_|refine ak rfl ?_|refine ao rfl ?_)))⟩
   ·repeat' (first|refine aD (j := i) rfl rfl (hpt (by omega)) (by omega) ?_|refine cG (j := i) rfl hM2.top (by omega) ?_|(refine bj rfl rfl (show (((s i).len : Nat) : Int) ≤ ((j : Nat) : Int) by omega) ?_)|refine ai rfl ?_|refine aa ?_|refine aj ?_|refine ah rfl ?_|refine ae ?_|refine aZ rfl ?_|refine bK rfl rfl ?_|refine bc rfl rfl (by omega) (by omega) ?_|refine au rfl ?_|refine aP ?_|refine aJ ?_|refine aQ ?_|refine aL ?_)
    refine ⟨⟨(i + 1, m2), ⟨hin, hE1.trans hE2, show m2 ≤ 422212465065984 by omega, fun h => ?_⟩, by simp only; omega, rfl, rfl, trivial⟩, (by (repeat (first|exact aH _ _ _|refine ay rfl ?_|refine av rfl ?_|refine ak rfl ?_|refine ao rfl ?_)))⟩
    show m2 = n + (nsm i _ + ((s i).len + nsm (s i).len fun j => (L i j).length))
    rw [hl2 h, show j = (s i).len by omega]
    unfold lgN
    omega
  ·repeat' (first|refine bu rfl rfl (show ((i : Nat) : Int) < ((n : Nat) : Int) by omega) ?_|refine bj rfl rfl (show (1000 : Int) ≤ ((m : Nat) : Int) by omega) ?_|refine kh rfl rfl (show (60 : Int) < ((m : Nat) : Int) by omega) ?_|refine ai rfl ?_|refine aa ?_|refine aj ?_|refine ah rfl ?_|refine ae ?_|refine aZ rfl ?_|refine bz rfl rfl ?_|refine au rfl ?_|refine aP ?_|refine aJ ?_|refine aQ ?_|refine aI ?_)
   exact bx rfl (rt rfl) ⟨true, rfl, fun e => (nomatch e), hE1⟩
 ·obtain rfl : i = n := by omega
  rcases Nat.lt_or_ge 60 m with h60 | h60
  ·repeat' (first|refine bj rfl rfl (show ((i : Nat) : Int) ≤ ((i : Nat) : Int) by omega) ?_|refine kh rfl rfl (show (60 : Int) < ((m : Nat) : Int) by omega) ?_|refine ai rfl ?_|refine aa ?_|refine aj ?_|refine ah rfl ?_|refine ae ?_|refine aZ rfl ?_|refine bK rfl rfl ?_|refine au rfl ?_|refine aP ?_|refine aJ ?_|refine aQ ?_|refine aI ?_)
   exact bx rfl (rt rfl) ⟨true, rfl, fun e => (nomatch e), hE1⟩
  ·repeat' (first|refine bj rfl rfl (show ((i : Nat) : Int) ≤ ((i : Nat) : Int) by omega) ?_|refine gI rfl rfl (show ((m : Nat) : Int) ≤ (60 : Int) by omega) ?_|refine ai rfl ?_|refine aa ?_|refine aj ?_|refine ah rfl ?_|refine ae ?_|refine aZ rfl ?_|refine bK rfl rfl ?_|refine au rfl ?_|refine aP ?_|refine aJ ?_|refine aQ ?_|refine aI ?_)
   exact bx rfl (rt rfl) ⟨false, rfl, fun _ => by rw [← hl (show m < 1000 by omega)]; exact h60, hE1⟩
theorem wl {n : Nat} {w : World} {a : Option Addr} {s : Nat → SD} {h : Nat → Nat → IH} {L : Nat → Nat → List Nat} (hM : RawM w a n s h L) (hl : lgN s L n n ≤ 60) :
  AM 60 w a n s (valF h L) ∧ n ≤ 60 ∧ (∀ i, i < n → (s i).len ≤ 60) ∧ (okS n s → n * (s 0).len + n ≤ 60) := by
 have hf : ∀ i, i < n → ((s i).len + nsm (s i).len fun j => (L i j).length) ≤ 60 - n ∧ n ≤ 60 := fun i hi => by
  have h1 := v9 (f := fun k => (s k).len + nsm (s k).len fun j => (L k j).length) hi
  unfold lgN at hl
  omega
 refine ⟨⟨hM.top, fun i hi => ?_⟩, by unfold lgN at hl; omega, fun i hi => by have := hf i hi; omega, fun ok => ?_⟩
 ·have hR := hM.row i hi
  refine ⟨rfl, hR.cap, h i, hR.sl, fun j hj => ⟨⟨(h i j).neg, (h i j).sd.a, (h i j).sd.cap, L i j, ?_, ⟨(hR.ent j hj).sl, (hR.ent j hj).cap, (hR.ent j hj).lim, ?_⟩, rfl, ?_⟩, fun e => nomatch e⟩⟩
  ·rw [← (hR.ent j hj).len]; rfl
  ·have h1 := v9 (f := fun j => (L i j).length) hj
   have h2 := hf i hi
   omega
  ·have h1 := v9 (f := fun j => (L i j).length) hj
   have h2 := hf i hi
   omega
 ·have h1 : nsm n (fun k => (s k).len) ≤ nsm n fun k => (s k).len + nsm (s k).len fun j => (L k j).length := by
   rw [wj n (fun k => (s k).len)]; omega
  rw [wh (f := fun k => (s k).len) (c := (s 0).len) (fun i hi => ok.2.2.2.2 i hi)] at h1
  unfold lgN at hl
  omega
end Go.Proofs.YtiejljicpinheaaGreat
namespace Go.LA
theorem wG {n : Nat} {f g : Nat → Int} (h : ∀ i, i < n → f i = g i) : pr n f = pr n g := by
 induction n with
 | zero => rfl
 | succ n ih => show pr n f * f n = pr n g * g n; rw [ih fun i hi => h i (by omega), h n (by omega)]
end Go.LA
namespace Go.Proofs.YtiejljicpinheaaGreat
open Go.W Go.LM Go.LA Go.PM
theorem wK {K r c lo g : Nat} {w : World} {gs cp : Nat → Nat} {F : Mat} (h : MO true K w lo g r c gs cp F) : AM K w (some ⟨g, 0, none⟩) r (fun i => ⟨some ⟨gs i, 0, none⟩, c, cp i⟩) F := h.mx.am
theorem wL {r c : Nat} {gs cp : Nat → Nat} (hr : 1 ≤ r ∧ r ≤ 16) (hc : 1 ≤ c ∧ c ≤ 16) : okS r (fun i => (⟨some ⟨gs i, 0, none⟩, c, cp i⟩ : SD)) := ⟨hr.1, hr.2, hc.1, hc.2, fun _ _ => rfl⟩
theorem AM.up60 {K n : Nat} {w : World} {a : Option Addr} {s : Nat → SD} {F : Mat} (h : AM K w a n s F) (hK : K ≤ 60) : AM 60 w a n s F := ⟨h.top, fun i hi => (h.row i hi).up hK⟩
theorem wq {n : Nat} {w : World} {a : Option Addr} {s : Nat → SD} {A : Mat} (h : AM 60 w a n s A) (ok : okS n s) : ∀ i j, i < n → j < (s 0).len → Lb 60 (A i j) := fun _ _ hi hj => (h.mx ok).lb hi hj
def IdxF (n : Nat) (s : Nat → SD) (A : Mat) (t : Bool) (z : Int) : Prop :=
 (¬ okS n s → t = false ∧ z = 0) ∧ (okS n s → ∃ (H U : Mat) (k : Nat) (p : Nat → Nat), CEq n (s 0).len A H U ∧ HF n (s 0).len H k p ∧ t = decide (k = n) ∧ z = if k = n then pr n fun i => H i i else 0)
theorem IdxF.same {n : Nat} {s : Nat → SD} {A : Mat} {t t' : Bool} {z z' : Int} (h : IdxF n s A t z) (h' : IdxF n s A t' z') : t = t' ∧ z = z' := by
 by_cases ok : okS n s
 ·obtain ⟨H, U, k, p, h1, h2, rfl, rfl⟩ := h.2 ok
  obtain ⟨H', U', k', p', h1', h2', rfl, rfl⟩ := h'.2 ok
  obtain ⟨rfl, hs⟩ := jd h1 h2 h1' h2'
  refine ⟨rfl, ?_⟩
  by_cases e : k = n
  ·rw [if_pos e, if_pos e]
   have hkc := h2.kc
   exact wG fun i hi => hs i i hi (by omega)
  ·rw [if_neg e, if_neg e]
 ·rw [(h.1 ok).1, (h.1 ok).2, (h'.1 ok).1, (h'.1 ok).2]; exact ⟨rfl, rfl⟩
def IdxOut (n : Nat) (s : Nat → SD) (A : Mat) (w : World) (v : Value) (w' : World) : Prop := ∃ (K : Nat) (u : Value) (t : Bool) (z : Int), v = .tuple #[u, .bool t] ∧ Ent true K w' u z ∧ IdxF n s A t z ∧ Ex w w'
theorem wE {n cap : Nat} {w : World} {a : Option Addr} {s : Nat → SD} {A : Mat} (hA : AM 60 w a n s A) : CallsR Tryz.prog 39 #[.slice a n cap] w (IdxOut n s A w) := by
 by_cases ok : okS n s
 ·refine (tS (hA.mx ok) (iy ok) (gQ ok) (by omega) (by omega)).mono fun v w' h => ?_
  obtain ⟨H, U, k, p, u, rfl, hC, hF, he, hE⟩ := h
  exact ⟨_, u, _, _, rfl, he, ⟨fun h => absurd ok h, fun _ => ⟨H, U, k, p, hC, hF, rfl, rfl⟩⟩, hE⟩
 ·refine (vo hA.top ok).mono fun v w' h => ?_
  obtain ⟨rfl, hE⟩ := h
  exact ⟨0, ih0.val, false, 0, rfl, iv _, ⟨fun _ => ⟨rfl, rfl⟩, fun h => absurd h ok⟩, hE⟩
theorem wx {n cap : Nat} {w : World} {a : Option Addr} {s : Nat → SD} {A : Mat} (hA : AM 60 w a n s A) (hs : okS n s → (s 0).len + n ≤ 24) : CallsR Tryz.prog 40 #[.slice a n cap] w (IdxOut n s A w) := by
 by_cases ok : okS n s
 ·have hz : 16 * Zb 100 0 ((s 0).len + n) + 17 ≤ 4398046511104 := by
   have h1 : Zb 100 0 ((s 0).len + n) ≤ Zb 100 0 24 := eh (by omega) (hs ok)
   have h2 : Zb 100 0 24 = 1677721592 := by decide
   omega
  refine (kZ (Q := 100) (s := 0) (KM := KMz) (hA.mx ok) (iy ok) (gQ ok) (v7 (wq hA ok) (by omega)) (by omega) (tX (gQ ok).2) (by decide) hz).mono fun v w' h => ?_
  obtain ⟨H, U, k, p, u, rfl, hC, hF, he, hE⟩ := h
  exact ⟨_, u.val, _, _, rfl, he, ⟨fun h => absurd ok h, fun _ => ⟨H, U, k, p, hC, hF, rfl, rfl⟩⟩, hE⟩
 ·refine (ti hA.top ok).mono fun v w' h => ?_
  obtain ⟨rfl, hE⟩ := h
  exact ⟨0, ih0.val, false, 0, rfl, iv _, ⟨fun _ => ⟨rfl, rfl⟩, fun h => absurd h ok⟩, hE⟩
end Go.Proofs.YtiejljicpinheaaGreat
namespace Go.Proofs.YtiejljicpinheaaGreat
open Go.W Go.LM Go.LA Go.PM
set_option maxHeartbeats 8000000 in
theorem xn {rows cols : Int} (h1 : 0 ≤ rows ∧ rows ≤ 255) (h2 : 0 ≤ cols ∧ cols ≤ 255) {L : List Int} {la : Option Addr} {w : World} (hL : Sl w la (int8L L)) (hI : I8 L) (lc : Nat) {n : Nat} {a : Option Addr} {s : Nat → SD} {h : Nat → Nat → IH} {La : Nat → Nat → List Nat} (hM : RawM w a n s h La) (cap : Nat) :
  CallsR Tryz.prog 10 #[.agg (gridL rows cols la L.length lc).toArray, .slice a n cap] w fun v w' => v = .bool true ∧ Ex w w' := by
 refine aF (args := [_, _]) Tryz.func10 rfl rfl ?_
 refine aj ?_
 refine ah rfl ?_
 refine bH (vs := gridL rows cols la L.length lc) rfl (fun g1 w1 hn1 => ⟨fun _ _ => trivial, ?_⟩)
 have hg1 := hn1.blk
 repeat' (first|refine ai rfl ?_|refine aa ?_|refine aj ?_|refine ah rfl ?_|refine ae ?_)
 refine aw (we (hM.ext hn1.ex)) rfl ?_
 rintro v w2 ⟨t1, rfl, hl, hE2⟩
 refine ⟨fun _ _ => trivial, ?_⟩
 have hE02 := hn1.ex.trans hE2
 rcases Bool.eq_false_or_eq_true t1 with rfl | rfl
 ·repeat' (first|refine aa ?_|refine aj ?_|refine ah rfl ?_|refine ae ?_|refine az rfl ?_)
  refine aw (nI _) rfl ?_
  rintro v wz ⟨rfl, hEz⟩
  refine ⟨fun _ _ => trivial, ?_⟩
  repeat' (first|refine ai rfl ?_|refine aa ?_|refine ae ?_|refine aI ?_|refine aU ?_)
  exact bx rfl (rt rfl) ⟨rfl, hE02.trans hEz⟩
 obtain ⟨hA, hn60, hs60, hsz⟩ := wl hM (hl rfl)
 clear hl
 generalize valF h La = A at *
 have hsz' : okS n s → (s 0).len + n ≤ 24 := fun ok => by
  have h3 := hsz ok
  have hr := iy ok
  have hc := gQ ok
  rcases Nat.lt_or_ge n 4 with hn4 | hn4
  ·omega
  ·rcases Nat.lt_or_ge n 8 with hn8 | hn8
   ·have : 4 * (s 0).len ≤ n * (s 0).len := Nat.mul_le_mul_right _ hn4
    omega
   ·have : 8 * (s 0).len ≤ n * (s 0).len := Nat.mul_le_mul_right _ hn8
    omega
 obtain ⟨r, k, B, hr, hc, hmat⟩ := tV (most := 4) hL hI h1 h2 (by omega) lc
 obtain ⟨r', B', hr', hsq⟩ := tW (most := 5) hL hI h1 h2 (by omega) lc
 repeat' (first|refine aR (cs := gridL rows cols la L.length lc) (g := g1) rfl (hg1.ext (hE2)) rfl ?_|refine aa ?_|refine aj ?_|refine ah rfl ?_|refine ae ?_|refine au rfl ?_|refine aE ?_)
 refine aw (hmat _ (hn1.ex.trans (hE2))) rfl ?_
 rintro v wmA ⟨gmA, gsmA, cpmA, rfl, hOmA, hEmA⟩
 refine ⟨fun _ _ => trivial, ?_⟩
 refine aw (wE (AM.up60 (wK hOmA) (by omega))) rfl ?_
 rintro v wvA ⟨KA, uAzz, tAzz, zA, rfl, heA, hFA, hEA⟩
 refine ⟨fun _ _ => trivial, ?_⟩
 obtain ⟨xA, rfl⟩ := heA.ih
 repeat' (first|refine aK rfl rfl ?_|refine ai rfl ?_)
 refine aG (fun gbA waA naA => ⟨fun _ _ => trivial, ?_⟩)
 refine ax (n := 2) (vs := xA.cells) rfl rfl rfl rfl naA.blk rfl (fun wbA hcbA hbA => ⟨fun _ _ => trivial, ?_⟩)
 have hEbA := naA.ex.chg hcbA naA.lo
 replace heA := heA.ext hEbA
 have hE0A := (((hE2.trans hEmA)).trans hEA).trans hEbA
 have hSA := hEA.trans hEbA
 repeat' (first|refine aR (cs := gridL rows cols la L.length lc) (g := g1) rfl (hg1.ext (hE0A)) rfl ?_|refine ai rfl ?_|refine aa ?_|refine aj ?_|refine ah rfl ?_|refine ae ?_)
 refine aw (hmat _ (hn1.ex.trans (hE0A))) rfl ?_
 rintro v wmB ⟨gmB, gsmB, cpmB, rfl, hOmB, hEmB⟩
 refine ⟨fun _ _ => trivial, ?_⟩
 refine aw (wx (AM.up60 (wK hOmB) (by omega)) (fun _ => by show k + r ≤ 24; omega)) rfl ?_
 rintro v wvB ⟨KB, uBzz, tBzz, zB, rfl, heB, hFB, hEB⟩
 refine ⟨fun _ _ => trivial, ?_⟩
 obtain ⟨xB, rfl⟩ := heB.ih
 repeat' (first|refine aK rfl rfl ?_|refine ai rfl ?_)
 refine aG (fun gbB waB naB => ⟨fun _ _ => trivial, ?_⟩)
 refine ax (n := 2) (vs := xB.cells) rfl rfl rfl rfl naB.blk rfl (fun wbB hcbB hbB => ⟨fun _ _ => trivial, ?_⟩)
 have hEbB := naB.ex.chg hcbB naB.lo
 replace heB := heB.ext hEbB
 have hE0B := (((hE0A.trans hEmB)).trans hEB).trans hEbB
 have hSB := (hEmB.trans hEB).trans hEbB
 repeat' (first|refine ai rfl ?_|refine aa ?_|refine aj ?_|refine ah rfl ?_|refine ae ?_)
 refine aw (wE (hA.ext (hn1.ex.trans hE0B))) rfl ?_
 rintro v wvC ⟨KC, uCzz, tCzz, zC, rfl, heC, hFC, hEC⟩
 refine ⟨fun _ _ => trivial, ?_⟩
 obtain ⟨xC, rfl⟩ := heC.ih
 repeat' (first|refine aK rfl rfl ?_|refine ai rfl ?_)
 refine aG (fun bw waC naC => ⟨fun _ _ => trivial, ?_⟩)
 refine ax (n := 2) (vs := xC.cells) rfl rfl rfl rfl naC.blk rfl (fun wbC hcbC hbC => ⟨fun _ _ => trivial, ?_⟩)
 have hEbC := naC.ex.chg hcbC naC.lo
 replace heC := heC.ext hEbC
 have hE0C := ((hE0B).trans hEC).trans hEbC
 have hSC := hEC.trans hEbC
 repeat' (first|refine ai rfl ?_|refine aa ?_|refine aj ?_|refine ah rfl ?_|refine ae ?_)
 refine aw (wx (hA.ext (hn1.ex.trans hE0C)) hsz') rfl ?_
 rintro v wvD ⟨KD, uDzz, tDzz, zD, rfl, heD, hFD, hED⟩
 refine ⟨fun _ _ => trivial, ?_⟩
 obtain ⟨xD, rfl⟩ := heD.ih
 repeat' (first|refine aK rfl rfl ?_|refine ai rfl ?_)
 refine aG (fun gbD waD naD => ⟨fun _ _ => trivial, ?_⟩)
 refine ax (n := 2) (vs := xD.cells) rfl rfl rfl rfl naD.blk rfl (fun wbD hcbD hbD => ⟨fun _ _ => trivial, ?_⟩)
 have hEbD := naD.ex.chg hcbD naD.lo
 replace heD := heD.ext hEbD
 have hE0D := ((hE0C).trans hED).trans hEbD
 have hSD := hED.trans hEbD
 repeat' (first|refine aR (cs := gridL rows cols la L.length lc) (g := g1) rfl (hg1.ext (hE0D)) rfl ?_|refine ai rfl ?_|refine aa ?_|refine aj ?_|refine ah rfl ?_|refine ae ?_)
 refine aw (hsq _ (hn1.ex.trans (hE0D))) rfl ?_
 rintro v wmE ⟨gmE, gsmE, cpmE, rfl, hOmE, hEmE⟩
 refine ⟨fun _ _ => trivial, ?_⟩
 refine aw (wE (AM.up60 (wK hOmE) (by omega))) rfl ?_
 rintro v wvE ⟨KE, uEzz, tEzz, zE, rfl, heE, hFE, hEE⟩
 refine ⟨fun _ _ => trivial, ?_⟩
 obtain ⟨xE, rfl⟩ := heE.ih
 repeat' (first|refine aK rfl rfl ?_|refine ai rfl ?_)
 refine aG (fun k5 waE naE => ⟨fun _ _ => trivial, ?_⟩)
 refine ax (n := 2) (vs := xE.cells) rfl rfl rfl rfl naE.blk rfl (fun wbE hcbE hbE => ⟨fun _ _ => trivial, ?_⟩)
 have hEbE := naE.ex.chg hcbE naE.lo
 replace heE := heE.ext hEbE
 have hE0E := (((hE0D.trans hEmE)).trans hEE).trans hEbE
 have hSE := (hEmE.trans hEE).trans hEbE
 repeat' (first|refine aR (cs := gridL rows cols la L.length lc) (g := g1) rfl (hg1.ext (hE0E)) rfl ?_|refine ai rfl ?_|refine aa ?_|refine aj ?_|refine ah rfl ?_|refine ae ?_)
 refine aw (hsq _ (hn1.ex.trans (hE0E))) rfl ?_
 rintro v wmF ⟨gmF, gsmF, cpmF, rfl, hOmF, hEmF⟩
 refine ⟨fun _ _ => trivial, ?_⟩
 refine aw (eI hOmF.mx (by omega) (by omega)) rfl ?_
 rintro v wd ⟨hd, hEd⟩
 refine ⟨fun _ _ => trivial, ?_⟩
 refine aw (iR hd.k) rfl ?_
 rintro v wezz ⟨hIF, hEF⟩
 refine ⟨fun _ _ => trivial, ?_⟩
 obtain ⟨xF, rfl⟩ := hIF.ih
 have heF : Ent true (16 * 2 + 17) wezz xF.val (((det r' B').natAbs : Nat) : Int) := Ent.of hIF (by have := hd.lb; unfold Lb at this; omega)
 refine aG (fun gbF waF naF => ⟨fun _ _ => trivial, ?_⟩)
 refine ax (n := 2) (vs := xF.cells) rfl rfl rfl rfl naF.blk rfl (fun wbF hcbF hbF => ⟨fun _ _ => trivial, ?_⟩)
 have hEbF := naF.ex.chg hcbF naF.lo
 replace heF := heF.ext hEbF
 have hE0F := ((((hE0E.trans hEmF).trans hEd)).trans hEF).trans hEbF
 have hSF := ((hEmF.trans hEd).trans hEF).trans hEbF
 have hSEF := hSE.trans hSF
 have hSDF := hSD.trans hSEF
 have hSCF := hSC.trans hSDF
 have hSBF := hSB.trans hSCF
 obtain ⟨HA, UA, kAzz, pAzz, cAzz, fAzz, rfl, rfl⟩ := hFA.2 (wL (by omega) (by omega))
 obtain ⟨HB, UB, kBzz, pBzz, cBzz, fBzz, rfl, rfl⟩ := hFB.2 (wL (by omega) (by omega))
 obtain ⟨HE, UE, kEzz, pEzz, cEzz, fEzz, rfl, rfl⟩ := hFE.2 (wL (by omega) (by omega))
 obtain ⟨rfl, hsAB⟩ := jd cAzz fAzz cBzz fBzz
 obtain ⟨rfl, rfl⟩ := hFC.same hFD
 have hkA := fAzz.kc
 have hzAB : (if kAzz = r then pr r fun i => HA i i else 0) = if kAzz = r then pr r fun i => HB i i else 0 := by
  by_cases e : kAzz = r
  ·rw [if_pos e, if_pos e]; exact wG fun i hi => hsAB i i hi (by show i < k; have : kAzz ≤ k := hkA; omega)
  ·rw [if_neg e, if_neg e]
 have hzE : ((det r' B').natAbs : Int) = if kEzz = r' then pr r' fun c => HE c c else 0 := HF.det cEzz fEzz
 have hpos : kEzz = r' → 0 < pr r' fun i => HE i i := fun e => by subst e; exact (pV fEzz).2
 clear hFA hFB hFC hFD hFE hM hmat hsq
 repeat' (first|refine vT rfl rfl ?_|refine aR (g := gbA) (cs := xA.cells) rfl (hbA.ext hSBF) rfl ?_|refine aR (g := gbB) (cs := xB.cells) rfl (hbB.ext hSCF) rfl ?_|refine ai rfl ?_|refine aa ?_|refine aj ?_|refine ah rfl ?_|refine ae ?_|refine bz rfl rfl ?_)
 refine aw (mn ((heA.ext hSBF).c rfl) ((heB.ext hSCF).c rfl)) rfl ?_
 rintro v wf ⟨rfl, hEf⟩
 refine ⟨fun _ _ => trivial, ?_⟩
 rw [decide_eq_true hzAB]
 repeat' (first|refine vT rfl rfl ?_|refine aR (g := bw) (cs := xC.cells) rfl (hbC.ext (hSDF.trans hEf)) rfl ?_|refine aR (g := gbD) (cs := xD.cells) rfl (hbD.ext (hSEF.trans hEf)) rfl ?_|refine ai rfl ?_|refine bz rfl rfl ?_)
 refine aw (mn ((heC.ext (hSDF.trans hEf)).c rfl) ((heD.ext (hSEF.trans hEf)).c rfl)) rfl ?_
 rintro v wgzz ⟨rfl, hEg⟩
 refine ⟨fun _ _ => trivial, ?_⟩
 rw [decide_eq_true (p := zC = zC) rfl]
 have hEfg := hEf.trans hEg
 repeat' (first|refine aR (g := gbF) (cs := xF.cells) rfl (hbF.ext hEfg) rfl ?_|refine ai rfl ?_|refine bz rfl rfl ?_)
 refine aw (cj (heF.ext hEfg).k) rfl ?_
 rintro v whzz ⟨rfl, hEh⟩
 refine ⟨fun _ _ => trivial, ?_⟩
 have hEfh := hEfg.trans hEh
 by_cases hk0 : kEzz = r'
 ·have hp0 := hpos hk0
  rw [if_pos hk0] at hzE
  have hs1 : ((((det r' B').natAbs : Nat) : Int)).sign = 1 := by rw [hzE]; exact Int.sign_eq_one_of_pos hp0
  rw [hs1, decide_eq_true hk0]
  rw [if_pos hk0] at heE
  repeat' (first|refine df rfl rfl (by decide) ?_|refine vT rfl rfl ?_|refine aR (g := k5) (cs := xE.cells) rfl (hbE.ext (hSF.trans hEfh)) rfl ?_|refine aR (g := gbF) (cs := xF.cells) rfl (hbF.ext hEfh) rfl ?_|refine ai rfl ?_|refine bz rfl rfl ?_)
  refine aw (mn ((heE.ext (hSF.trans hEfh)).c rfl) ((heF.ext hEfh).c rfl)) rfl ?_
  rintro v wizz ⟨rfl, hEi⟩
  refine ⟨fun _ _ => trivial, ?_⟩
  rw [decide_eq_true hzE.symm]
  repeat' (first|refine ai rfl ?_|refine bz rfl rfl ?_)
  refine aw (nI _) rfl ?_
  rintro v wz ⟨rfl, hEz⟩
  refine ⟨fun _ _ => trivial, ?_⟩
  repeat' (first|refine ai rfl ?_|refine aa ?_|refine ae ?_|refine aI ?_)
  exact bx rfl (rt rfl) ⟨rfl, ((hn1.ex.trans hE0F).trans (hEfh.trans hEi)).trans hEz⟩
 ·rw [if_neg hk0] at hzE
  have hs1 : ((((det r' B').natAbs : Nat) : Int)).sign = 0 := by rw [hzE]; rfl
  rw [hs1, decide_eq_false hk0]
  rw [if_neg hk0] at heE
  repeat' (first|refine cN rfl rfl rfl ?_|refine vT rfl rfl ?_|refine aR (g := k5) (cs := xE.cells) rfl (hbE.ext (hSF.trans hEfh)) rfl ?_|refine aR (g := gbF) (cs := xF.cells) rfl (hbF.ext hEfh) rfl ?_|refine ai rfl ?_|refine bz rfl rfl ?_)
  refine aw (mn ((heE.ext (hSF.trans hEfh)).c rfl) ((heF.ext hEfh).c rfl)) rfl ?_
  rintro v wizz ⟨rfl, hEi⟩
  refine ⟨fun _ _ => trivial, ?_⟩
  rw [decide_eq_true hzE.symm]
  repeat' (first|refine ai rfl ?_|refine bz rfl rfl ?_)
  refine aw (nI _) rfl ?_
  rintro v wz ⟨rfl, hEz⟩
  refine ⟨fun _ _ => trivial, ?_⟩
  repeat' (first|refine ai rfl ?_|refine aa ?_|refine ae ?_|refine aI ?_)
  exact bx rfl (rt rfl) ⟨rfl, ((hn1.ex.trans hE0F).trans (hEfh.trans hEi)).trans hEz⟩
end Go.Proofs.YtiejljicpinheaaGreat
