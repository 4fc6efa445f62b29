import Derived.Test.YtppipmkpmmdcjaaA06
namespace Go.Proofs.Ytppipmkpmmdcjaa
open Go.W Go.LM
def okS (n : Nat) (s : Nat → SD) : Prop := 1 ≤ n ∧ n ≤ 16 ∧ 1 ≤ (s 0).len ∧ (s 0).len ≤ 16 ∧ ∀ i, i < n → (s i).len = (s 0).len
instance (n : Nat) (s : Nat → SD) : Decidable (okS n s) := inferInstanceAs (Decidable (_ ∧ _ ∧ _ ∧ _ ∧ _))
def shapeV (n : Nat) (s : Nat → SD) : Value := if okS n s then .tuple #[.int .i64 n, .int .i64 (s 0).len, .bool true] else .tuple #[.int .i64 0, .int .i64 0, .bool false]
theorem fX {n : Nat} {s : Nat → SD} (h : ¬ okS n s) : shapeV n s = .tuple #[.int .i64 0, .int .i64 0, .bool false] := if_neg h
theorem dm {n c : Nat} {a : Option Addr} {s : Nat → SD} {w : World} (h : Sl w a (topC n s)) :
  CallsR Try.prog 18 #[.slice a n c] w fun v w' => v = shapeV n s ∧ Ex w w' := by
 refine aJ (args := [_]) Try.func18 rfl rfl ?_
 have no : ∀ {v : Value}, ¬ okS n s → v = .tuple #[.int .i64 0, .int .i64 0, .bool false] → v = shapeV n s := fun h1 e => by rw [fX h1, e]
 by_cases h1 : 1 ≤ n ∧ n ≤ 16
 ·have hp := h.plain (by rw [bJ]; omega)
  repeat' (first|refine aB (j := 0) rfl rfl hp (by omega) ?_|refine dG (j := 0) rfl h (by omega) ?_|refine ai rfl ?_|refine aa ?_|refine ao ?_|refine ah rfl ?_|refine ae ?_|refine bn rfl ?_|refine bB rfl rfl ?_|refine bS rfl rfl ?_|refine ko rfl rfl (fun hc => ?_) (fun hc => ?_)|refine aE rfl ?_|refine aR rfl (fun hc => ?_) (fun hc => ?_)|refine aC ?_|refine aT ?_|refine bw ?_|refine aI ?_)
  all_goals try (exfalso; omega)
  ·exact gj rfl (rt rfl) (rt rfl) (rt rfl) ⟨no (fun hk => by unfold okS at hk; omega) rfl, Ex.refl _⟩
  ·refine bh (ι := Nat) [2, 3, 4, 7, 28, 29, 30, 31, 32, 33, 34, 35, 36] (fun i => [(28, .int .i64 (i : Int))]) (fun i w' => (i ≤ n ∧ ∀ k, k < i → (s k).len = (s 0).len) ∧ w' = w) (fun i => n - i) 0 ⟨rfl, trivial⟩ ⟨⟨by omega, fun k hk => by omega⟩, rfl⟩ ?_
   rintro i ξ w2 ⟨⟨hi, hI⟩, rfl⟩
   show CW _ _ _ _ (over [(28, .int .i64 (i : Int))] _) w2
   repeat' (first|refine aB (j := i) rfl rfl hp (by omega) ?_|refine dG (j := i) rfl h (by omega) ?_|refine ai rfl ?_|refine aa ?_|refine ao ?_|refine ah rfl ?_|refine ae ?_|refine bn rfl ?_|refine bi rfl rfl (by omega) (by omega) ?_|refine aR rfl (fun hc => ?_) (fun hc => ?_)|refine aC ?_|refine aW ?_|refine aO ?_|refine aX ?_|refine aM ?_|refine aT ?_|refine bw ?_|refine du ?_|refine aI ?_)
   ·exact gj rfl (rt rfl) (rt rfl) (rt rfl) ⟨no (fun hk => by have := hk.2.2.2.2 i (by omega); omega) rfl, Ex.refl _⟩
   ·refine ⟨⟨i + 1, ⟨⟨by omega, fun k hk => ?_⟩, rfl⟩, by omega, rfl, trivial⟩, (by (repeat (first|exact aF _ _ _|refine ay rfl ?_|refine av rfl ?_|refine aj rfl ?_|refine ak rfl ?_)))⟩
    by_cases hk' : k < i
    ·exact hI k hk'
    ·obtain rfl : k = i := by omega
     omega
   ·obtain rfl : i = n := by omega
    refine gj rfl (rt rfl) (rt rfl) (rt rfl) ⟨?_, Ex.refl _⟩
    unfold shapeV
    rw [if_pos ⟨h1.1, h1.2, by omega, by omega, hI⟩]; rfl
  ·exact gj rfl (rt rfl) (rt rfl) (rt rfl) ⟨no (fun hk => by unfold okS at hk; omega) rfl, Ex.refl _⟩
 ·repeat' (first|refine ai rfl ?_|refine aa ?_|refine ao ?_|refine ah rfl ?_|refine ae ?_|refine bn rfl ?_|refine bB rfl rfl ?_|refine bS rfl rfl ?_|refine ko rfl rfl (fun hc => ?_) (fun hc => ?_)|refine aE rfl ?_|refine aR rfl (fun hc => ?_) (fun hc => ?_)|refine aT ?_|refine bw ?_|refine aI ?_)
  all_goals try (exfalso; omega)
  all_goals exact gj rfl (rt rfl) (rt rfl) (rt rfl) ⟨no (fun hk => h1 ⟨hk.1, hk.2.1⟩) rfl, Ex.refl _⟩
theorem eG {n c : Nat} {a : Option Addr} {s : Nat → SD} {w : World} (h : Sl w a (topC n s)) :
  CallsR Try.prog 11 #[.slice a n c] w fun v w' => v = shapeV n s ∧ Ex w w' := by
 refine aJ (args := [_]) Try.func11 rfl rfl ?_
 repeat' (first|refine ai rfl ?_|refine aa ?_|refine ao ?_|refine ah rfl ?_|refine ae ?_)
 refine ax (dm h) rfl ?_
 rintro v w2 ⟨rfl, hE⟩
 refine ⟨fun _ _ => trivial, ?_⟩
 unfold shapeV
 split
 ·repeat' (first|refine ai rfl ?_|refine aa ?_|refine ae ?_|refine aT ?_)
  exact gj rfl (rt rfl) (rt rfl) (rt rfl) ⟨rfl, hE⟩
 ·repeat' (first|refine ai rfl ?_|refine aa ?_|refine ae ?_|refine aT ?_)
  exact gj rfl (rt rfl) (rt rfl) (rt rfl) ⟨rfl, hE⟩
theorem qY {cn : Bool} {K r c : Nat} {w : World} {a : Option Addr} {s : Nat → SD} {F : Nat → Nat → Int} (h : MX cn K w a r c s F) (hr : 1 ≤ r ∧ r ≤ 16) (hc : 1 ≤ c ∧ c ≤ 16) : okS r s := by
 have h0 := (h.row 0 (by omega)).len
 exact ⟨hr.1, hr.2, by omega, by omega, fun i hi => by rw [(h.row i hi).len, h0]⟩
theorem dY {cn : Bool} {K r c : Nat} {w : World} {a : Option Addr} {s : Nat → SD} {F : Nat → Nat → Int} (h : MX cn K w a r c s F) (hr : 1 ≤ r ∧ r ≤ 16) (hc : 1 ≤ c ∧ c ≤ 16) : shapeV r s = .tuple #[.int .i64 r, .int .i64 c, .bool true] := by
 unfold shapeV; rw [if_pos (qY h hr hc), (h.row 0 (by omega)).len]
set_option maxHeartbeats 1000000 in
theorem et {K r c fid : Nat} {first cap : Array Value} {F : Nat → Nat → Int} {w : World} (hf : Fun Try.prog fid) (hr : r ≤ 16) (hc : c ≤ 16) (hb : ∀ i j, i < r → j < c → (F i j).natAbs < 4294967296 ^ K)
  (hcall : ∀ (i j : Nat) (w1 : World), i < r → j < c → Ex w w1 → CallsR Try.prog fid (first ++ #[.int .i64 i, .int .i64 j] ++ cap) w1 fun v w2 => (∃ lo, IntC lo w2 v (F i j)) ∧ Ex w1 w2) :
  CallsR Try.prog 34 #[.int .i64 r, .int .i64 c, .func (.func fid) first cap] w (RetMO K w r c F) := by
 refine aJ (args := [_, _, _]) Try.func34 rfl rfl ?_
 repeat' (first|refine ep (n := r) rfl rfl (by omega) (by omega) (fun g w1 hn1 => ⟨fun _ _ => trivial, ?_⟩)|refine ai rfl ?_|refine aa ?_|refine ao ?_|refine ah rfl ?_|refine ae ?_|refine bn rfl ?_|refine aC ?_)
 refine bh (ι := Nat × (Nat → Nat)) [8, 9, 14, 15, 16, 17, 18, 19, 20, 21, 22, 23, 24, 25, 26, 27, 28, 29, 30, 31, 32, 33, 34, 35, 36, 37, 38, 39, 40, 41] (fun t => [(14, .int .i64 (t.1 : Int))])
  (fun t w' => (t.1 ≤ r ∧ Ex w w' ∧ g < w'.heap.size) ∧ Blk w' g 29 (topC r fun i => if i < t.1 then ⟨some ⟨t.2 i, 0, none⟩, c, c⟩ else sd0) ∧ (∀ i, i < t.1 → RO true K w' w.heap.size (t.2 i) c c (F i)) ∧ (∀ i, i < t.1 → t.2 i ≠ g) ∧ ∀ i j, i < t.1 → j < t.1 → t.2 i = t.2 j → i = j) (fun t => r - t.1)
  (0, fun _ => 0) ⟨rfl, trivial⟩ ⟨⟨by omega, hn1.ex, hn1.hi⟩, hn1.blk, fun i hi => by simp only at hi; omega, fun i hi => by simp only at hi; omega, fun i j hi => by simp only at hi; omega⟩ ?_
 rintro ⟨i, gs⟩ ξ w2 ⟨⟨hi, hE2, hg2⟩, hT2, hR2, hO2, hI2⟩
 simp only at hi hT2 hR2 hO2 hI2
 have hlo := hn1.lo
 show CW _ _ _ _ (over [(14, .int .i64 (i : Int))] _) w2
 repeat' (first|refine dS (n := c) rfl rfl (by omega) (by omega) (fun g3 w3 hn3 => ⟨fun _ _ => trivial, ?_⟩)|refine aB (j := i) rfl rfl ⟨_, _, rfl⟩ (by omega) ?_|refine ai rfl ?_|refine aa ?_|refine ao ?_|refine ah rfl ?_|refine ae ?_|refine aR rfl (fun hc => ?_) (fun hc => ?_)|refine aC ?_|refine aW ?_|refine aO ?_|refine aX ?_|refine aT ?_|refine aI ?_)
 ·have hT3 := hT2.ext hn3.ex
  refine bY (j := i) (u := ⟨some ⟨g3, 0, none⟩, c, c⟩) rfl rfl hT3 (by omega) (fun w4 hc4 hT4 => ⟨fun _ _ => trivial, ?_⟩)
  have l3 := hn3.lo
  have hne3 : g3 ≠ g := by omega
  have hb3 := hn3.blk.chg hc4 hne3
  have hE4 := (hE2.trans hn3.ex).chg hc4 hlo
  have hTe : topC r (setF (fun k => if k < i then (⟨some ⟨gs k, 0, none⟩, c, c⟩ : SD) else sd0) i ⟨some ⟨g3, 0, none⟩, c, c⟩) = topC r (fun k => if k < i + 1 then (⟨some ⟨setF gs i g3 k, 0, none⟩, c, c⟩ : SD) else sd0) := cg fun k _ => by
   by_cases h : k = i
   ·subst h; simp [setF]
   ·by_cases h' : k < i
    ·rw [aN _ _ h, if_pos h', if_pos (by omega), aN _ _ h]
    ·rw [aN _ _ h, if_neg h', if_neg (by omega)]
  rw [hTe] at hT4
  have hR4 : ∀ k, k < i → RO true K w4 w.heap.size (gs k) c c (F k) := fun k hk => ((hR2 k hk).ext hn3.ex).gbN hT3 (bQ _ _) (bc hc4) (hO2 k hk)
  have hgk : ∀ k, k < i → gs k ≠ g3 := fun k hk => by have := (hR2 k hk).lt; omega
  have s4 := hc4.size
  have l34 := hb3.lt
  repeat' (first|refine aB (j := i) rfl rfl ⟨_, _, rfl⟩ (by omega) ?_|refine aS (j := i) (a1 := some ⟨g3, 0, none⟩) (l1 := c) (c1 := c) rfl hT4.sl (by omega) (by simp [setF]) ?_|refine ai rfl ?_|refine aa ?_|refine ao ?_|refine ah rfl ?_|refine ae ?_|refine bn rfl ?_|refine aC ?_)
  refine bh (ι := Nat × (Nat → IH)) [9, 27, 28, 29, 30, 31, 32, 33, 34, 35, 36, 37, 38, 39, 40] (fun t => [(27, .int .i64 (t.1 : Int))])
   (fun t w' => (t.1 ≤ c ∧ w4.grownBy w' (some g3)) ∧ Blk w' g3 27 (rowC c t.2) ∧ ∀ j, j < t.1 → Ent true K w' (t.2 j).val (F i j)) (fun t => c - t.1)
   (0, fun _ => ih0) ⟨rfl, trivial⟩ ⟨⟨by omega, bc (Chg.refl _ _)⟩, hb3, fun j hj => by simp only at hj; omega⟩ ?_
  rintro ⟨j, h⟩ ξ2 w5 ⟨⟨hj, hG5⟩, hb5, hEn5⟩
  simp only at hj hb5 hEn5
  show CW _ _ _ _ (over [(27, .int .i64 (j : Int))] _) w5
  have hE5 : Ex w w5 := hE4.gb hG5 (fun k e => by cases e; have := hE2.size; omega)
  have hT5 := hT4.gb hG5 (fun e => hne3 (by cases e; rfl))
  haveI := hf
  repeat' (first|refine ai rfl ?_|refine aa ?_|refine ao ?_|refine ah rfl ?_|refine ae ?_|refine bi rfl rfl (by omega) (by omega) ?_|refine aR rfl (fun hc => ?_) (fun hc => ?_)|refine aC ?_|refine aW ?_|refine aO ?_|refine aX ?_|refine aM ?_|refine aI ?_)
  ·have hEd : Ex w5 w5.drew := (Ex.refl _).drew
   refine aZ (late := [10]) (plan := [(0, none), (1, none), (2, none), (3, none), (4, none), (5, none), (6, none), (7, none), (8, some true), (9, none), (10, some false)]) (fun w' => Ex w5 w') bt (by kernel_rfl) hEd ?_
   repeat' (first|refine aB (j := i) rfl rfl ⟨_, _, rfl⟩ (by omega) ?_|refine aS (j := i) (a1 := some ⟨g3, 0, none⟩) (l1 := c) (c1 := c) rfl (fun _ h => (hT5.ext h).sl) (by omega) (by simp [setF]) ?_|refine ai rfl ?_)
   refine pY rfl (hcall i j _ (by omega) (by omega) hE5.drew) rfl ?_
   rintro v w6 ⟨⟨lo, hI⟩, hE6⟩
   refine ⟨fun _ h => h.trans hE6, ?_⟩
   have hE56 := hEd.trans hE6
   obtain ⟨x, rfl⟩ := hI.ih
   repeat' (first|refine aU (j := j) rfl rfl ⟨_, _, rfl⟩ (by omega) ?_|refine bP (j := j) (u := x) rfl rfl (hb5.ext hE56) (by omega) (fun w7 hc7 hb7 => ⟨fun h => (nomatch h), ?_⟩)|refine ai rfl ?_|refine aa ?_|refine ah rfl ?_|refine ae ?_|refine bi rfl rfl (by omega) (by omega) ?_|refine aM ?_)
   refine ⟨⟨(j + 1, setF h j x), ⟨⟨by simp only; omega, bC (bC hG5 (jO hE56) (fun k e => (nomatch e))) (bc hc7) (fun k e => .inl e)⟩, hb7, fun k hk => ?_⟩, by simp only; omega, rfl, trivial⟩, (by (repeat (first|exact aF _ _ _|refine ay rfl ?_|refine av rfl ?_|refine aj rfl ?_|refine ak rfl ?_)))⟩
   simp only at hk
   by_cases hkj : k = j
   ·subst hkj
    simp only [aK]
    exact (Ent.of hI (hb i k (by omega) (by omega))).gbN (hb5.ext hE56) (bx _ _) (bc hc7)
   ·simp only [aN _ _ hkj]
    exact ((hEn5 k (by omega)).ext hE56).gbN (hb5.ext hE56) (bx _ _) (bc hc7)
  ·obtain rfl : j = c := by omega
   refine ⟨⟨(i + 1, setF gs i g3), ⟨⟨by simp only; omega, hE5, by have := hG5.size; omega⟩, hT5, fun k hk => ?_, fun k hk => ?_, fun k k' hk hk' he => ?_⟩, by simp only; omega, rfl, trivial⟩, (by (repeat (first|exact aF _ _ _|refine ay rfl ?_|refine av rfl ?_|refine aj rfl ?_|refine ak rfl ?_)))⟩
   ·simp only at hk ⊢
    by_cases hki : k = i
    ·subst hki
     rw [aK]
     exact ⟨by omega, Nat.le_refl _, h, hb5, hEn5⟩
    ·rw [aN _ _ hki]
     exact (hR4 k (by omega)).gbN hb3 (bx _ _) hG5 (hgk k (by omega))
   ·simp only at hk ⊢
    by_cases hki : k = i
    ·subst hki; rw [aK]; exact hne3
    ·rw [aN _ _ hki]; exact hO2 k (by omega)
   ·simp only at hk hk' he
    by_cases hki : k = i
    ·by_cases hki' : k' = i
     ·omega
     ·subst hki; rw [aK, aN _ _ hki'] at he; exact absurd he.symm (hgk k' (by omega))
    ·by_cases hki' : k' = i
     ·subst hki'; rw [aK, aN _ _ hki] at he; exact absurd he (hgk k (by omega))
     ·rw [aN _ _ hki, aN _ _ hki'] at he; exact hI2 k k' (by omega) (by omega) he
 ·obtain rfl : i = r := by omega
  refine bF rfl (rt rfl) ⟨g, gs, fun _ => c, rfl, ⟨hlo, ?_, hR2, hO2, hI2⟩, hE2⟩
  rw [cg (s' := fun k => if k < i then ⟨some ⟨gs k, 0, none⟩, c, c⟩ else sd0) (fun k hk => by rw [if_pos hk])]
  exact hT2
end Go.Proofs.Ytppipmkpmmdcjaa
namespace Go.LA
abbrev Mat := Nat → Nat → Int
abbrev Vec := Nat → Int
def sm : Nat → (Nat → Int) → Int
 | 0, _ => 0
 | n + 1, f => sm n f + f n
theorem iV (f : Nat → Int) : sm 0 f = 0 := rfl
theorem bG (n : Nat) (f : Nat → Int) : sm (n + 1) f = sm n f + f n := rfl
theorem aQ {n : Nat} {f g : Nat → Int} (h : ∀ i, i < n → f i = g i) : sm n f = sm n g := by
 induction n with
 | zero => rfl
 | succ n ih => rw [bG, bG, ih (fun i hi => h i (by omega)), h n (by omega)]
theorem dq (n : Nat) (f g : Nat → Int) : sm n (fun i => f i + g i) = sm n f + sm n g := by
 induction n with
 | zero => rfl
 | succ n ih => rw [bG, bG, bG, ih]; omega
theorem bR (n : Nat) (a : Int) (f : Nat → Int) : sm n (fun i => a * f i) = a * sm n f := by
 induction n with
 | zero => simp [sm]
 | succ n ih => rw [bG, bG, ih, Int.mul_add]
theorem ew (n : Nat) (a : Int) (f : Nat → Int) : sm n (fun i => f i * a) = sm n f * a := by
 induction n with
 | zero => simp [sm]
 | succ n ih => rw [bG, bG, ih, Int.add_mul]
theorem kG (n : Nat) (f : Nat → Int) : sm n (fun i => - f i) = - sm n f := by
 induction n with
 | zero => rfl
 | succ n ih => rw [bG, bG, ih]; omega
theorem gA (n : Nat) (f g : Nat → Int) : sm n (fun i => f i - g i) = sm n f - sm n g := by
 induction n with
 | zero => rfl
 | succ n ih => rw [bG, bG, bG, ih]; omega
theorem eI {n : Nat} {f : Nat → Int} (h : ∀ i, i < n → f i = 0) : sm n f = 0 := by
 induction n with
 | zero => rfl
 | succ n ih => rw [bG, ih (fun i hi => h i (by omega)), h n (by omega)]; rfl
theorem bW {n k : Nat} {f : Nat → Int} (hk : k < n) (h : ∀ i, i < n → i ≠ k → f i = 0) : sm n f = f k := by
 induction n with
 | zero => omega
 | succ n ih =>
  rw [bG]
  by_cases e : k = n
  ·subst e; rw [eI (fun i hi => h i (by omega) (by omega))]; omega
  ·rw [ih (by omega) (fun i hi => h i (by omega)), h n (by omega) (by omega)]; omega
theorem lA (n : Nat) (f : Nat → Int) : sm (n + 1) f = f 0 + sm n (fun i => f (i + 1)) := by
 induction n with
 | zero => simp [sm]
 | succ n ih => rw [bG, ih, bG]; omega
theorem fk (n m : Nat) (f : Nat → Nat → Int) : sm n (fun i => sm m (fun j => f i j)) = sm m (fun j => sm n (fun i => f i j)) := by
 induction n with
 | zero => simp only [iV]; rw [eI (fun _ _ => rfl)]
 | succ n ih => rw [bG, ih, ← dq]; exact aQ fun i _ => by rw [bG]
theorem eX (n m : Nat) (f : Nat → Int) : sm (n + m) f = sm n f + sm m (fun i => f (n + i)) := by
 induction m with
 | zero => simp [sm]
 | succ m ih => rw [← Nat.add_assoc, bG, ih, bG]; omega
def sgn (j : Nat) : Int := if j % 2 = 0 then 1 else -1
theorem cX : sgn 0 = 1 := rfl
theorem dw (j : Nat) : sgn (j + 1) = - sgn j := by
 unfold sgn
 by_cases h : j % 2 = 0
 ·rw [if_pos h, if_neg (by omega)]
 ·rw [if_neg h, if_pos (by omega)]; rfl
theorem oZ (j : Nat) : sgn j * sgn j = 1 := by unfold sgn; split <;> rfl
def sk (i k : Nat) : Nat := if k < i then k else k + 1
theorem o3 (i k : Nat) : sk i k ≠ i := by unfold sk; split <;> omega
theorem lB {i k n : Nat} (h : k < n) : sk i k < n + 1 := by unfold sk; split <;> omega
theorem nk (k : Nat) : sk 0 k = k + 1 := by unfold sk; simp
theorem qh {j k : Nat} (h : j ≤ k) (c : Nat) : sk j (sk k c) = sk (k + 1) (sk j c) := by
 unfold sk
 by_cases h1 : c < k <;> by_cases h2 : c < j <;> simp only [h1, h2, if_true, if_false] <;> (repeat' split) <;> omega
theorem o5 {j k : Nat} (h : j ≤ k) : sk (k + 1) j = j := by unfold sk; rw [if_pos (by omega)]
theorem nl {j k : Nat} (h : j ≤ k) : sk j k = k + 1 := by unfold sk; rw [if_neg (by omega)]
def det : Nat → Mat → Int
 | 0, _ => 1
 | n + 1, M => sm (n + 1) fun j => sgn j * M 0 j * det n (fun r c => M (r + 1) (sk j c))
theorem dx (M : Mat) : det 0 M = 1 := rfl
theorem bK (n : Nat) (M : Mat) : det (n + 1) M = sm (n + 1) fun j => sgn j * M 0 j * det n (fun r c => M (r + 1) (sk j c)) := rfl
theorem fY (M : Mat) : det 1 M = M 0 0 := by rw [bK, bG, iV, dx, cX]; omega
theorem aY : ∀ {n : Nat} {M M' : Mat}, (∀ r c, r < n → c < n → M r c = M' r c) → det n M = det n M'
 | 0, _, _, _ => rfl
 | n + 1, M, M', h => by
  rw [bK, bK]
  exact aQ fun j hj => by rw [h 0 j (by omega) hj, aY (M' := fun r c => M' (r + 1) (sk j c)) fun r c hr hc => h (r + 1) (sk j c) (by omega) (lB hc)]
def rw' (M : Mat) (r : Nat) (v : Vec) : Mat := fun i c => if i = r then v c else M i c
theorem ch (M : Mat) (r : Nat) (v : Vec) (c : Nat) : rw' M r v r c = v c := by unfold rw'; rw [if_pos rfl]
theorem cJ (M : Mat) {r i : Nat} (v : Vec) (c : Nat) (h : i ≠ r) : rw' M r v i c = M i c := by unfold rw'; rw [if_neg h]
structure Alt (n m : Nat) (f : Mat → Int) : Prop where
 congr : ∀ M M' : Mat, (∀ r c, r < n → c < m → M r c = M' r c) → f M = f M'
 lin : ∀ (M : Mat) (r : Nat) (a b : Int) (u v : Vec), r < n → f (rw' M r fun c => a * u c + b * v c) = a * f (rw' M r u) + b * f (rw' M r v)
 alt : ∀ (M : Mat) (r r' : Nat), r < r' → r' < n → (∀ c, c < m → M r c = M r' c) → f M = 0
theorem Alt.self {n m : Nat} {f : Mat → Int} (h : Alt n m f) (M : Mat) (r : Nat) {v : Vec} (hv : ∀ c, c < m → v c = M r c) : f (rw' M r v) = f M :=
 h.congr _ _ fun i c _ hc => by
  by_cases e : i = r
  ·subst e; rw [ch, hv c hc]
  ·rw [cJ _ _ _ e]
theorem Alt.add {n m : Nat} {f : Mat → Int} (h : Alt n m f) (M : Mat) {r : Nat} (hr : r < n) (u v : Vec) : f (rw' M r fun c => u c + v c) = f (rw' M r u) + f (rw' M r v) := by
 have := h.lin M r 1 1 u v hr
 simp only [Int.one_mul] at this
 exact this
theorem Alt.smul {n m : Nat} {f : Mat → Int} (h : Alt n m f) (M : Mat) {r : Nat} (hr : r < n) (a : Int) (u : Vec) : f (rw' M r fun c => a * u c) = a * f (rw' M r u) := by
 have := h.lin M r a 0 u u hr
 simp only [Int.zero_mul, Int.add_zero] at this
 exact this
theorem fZ (M : Mat) {r r' : Nat} (h : r ≠ r') (u v : Vec) : rw' (rw' M r u) r' v = rw' (rw' M r' v) r u := by
 funext i c
 unfold rw'
 by_cases e : i = r <;> by_cases e' : i = r'
 ·omega
 ·rw [if_neg e', if_pos e, if_pos e]
 ·rw [if_pos e', if_neg e, if_pos e']
 ·rw [if_neg e', if_neg e, if_neg e, if_neg e']
theorem kH (M : Mat) (r : Nat) : rw' M r (M r) = M := by
 funext i c
 unfold rw'
 split
 ·rename_i e; rw [e]
 ·rfl
def swp (M : Mat) (r r' : Nat) : Mat := rw' (rw' M r (M r')) r' (M r)
theorem Alt.eqrows {n m : Nat} {f : Mat → Int} (h : Alt n m f) {M : Mat} {r r' : Nat} (hne : r ≠ r') (hr : r < n) (hr' : r' < n) (he : ∀ c, c < m → M r c = M r' c) : f M = 0 := by
 rcases Nat.lt_or_gt_of_ne hne with hlt | hlt
 ·exact h.alt M r r' hlt hr' he
 ·exact h.alt M r' r hlt hr fun c hc => (he c hc).symm
theorem Alt.two {n m : Nat} {f : Mat → Int} (h : Alt n m f) (M : Mat) {r r' : Nat} (hne : r ≠ r') (hr : r < n) (hr' : r' < n) (u v : Vec) : f (rw' (rw' M r u) r' v) = - f (rw' (rw' M r v) r' u) := by
 have h0 : f (rw' (rw' M r fun c => u c + v c) r' fun c => u c + v c) = 0 := h.eqrows hne hr hr' fun c _ => by rw [ch, cJ _ _ _ hne, ch]
 have hz : ∀ x : Vec, f (rw' (rw' M r x) r' x) = 0 := fun x => h.eqrows hne hr hr' fun c _ => by rw [ch, cJ _ _ _ hne, ch]
 rw [h.add _ hr', fZ M hne, h.add _ hr, fZ M hne, h.add _ hr, ← fZ M hne, ← fZ M hne, ← fZ M hne, ← fZ M hne, hz u, hz v] at h0
 omega
theorem Alt.swap {n m : Nat} {f : Mat → Int} (h : Alt n m f) (M : Mat) {r r' : Nat} (hne : r ≠ r') (hr : r < n) (hr' : r' < n) : f (swp M r r') = - f M := by
 unfold swp
 rw [h.two M hne hr hr', kH, kH]
theorem Alt.addrow {n m : Nat} {f : Mat → Int} (h : Alt n m f) (M : Mat) {r r' : Nat} (hne : r ≠ r') (hr : r < n) (hr' : r' < n) (a : Int) : f (rw' M r fun c => M r c + a * M r' c) = f M := by
 rw [h.add _ hr, h.smul _ hr, kH, h.eqrows (M := rw' M r (M r')) hne hr hr' fun c _ => by rw [ch, cJ _ _ _ (Ne.symm hne)]]
 omega
theorem Alt.sum {n m : Nat} {f : Mat → Int} (h : Alt n m f) (M : Mat) {r : Nat} (hr : r < n) (a : Nat → Int) (u : Nat → Vec) : ∀ k, f (rw' M r fun c => sm k fun j => a j * u j c) = sm k fun j => a j * f (rw' M r (u j))
 | 0 => by
  have := h.smul M hr 0 (fun _ => 0)
  simp only [Int.zero_mul] at this
  simpa [sm] using this
 | k + 1 => by
  simp only [bG]
  rw [h.add M hr, h.sum M hr a u k, h.smul M hr]
theorem nm : ∀ (n : Nat) (M : Mat) (r : Nat) (a b : Int) (u v : Vec), r < n → det n (rw' M r fun c => a * u c + b * v c) = a * det n (rw' M r u) + b * det n (rw' M r v)
 | 0, _, _, _, _, _, _, h => by omega
 | n + 1, M, 0, a, b, u, v, _ => by
  rw [bK, bK, bK, ← bR, ← bR, ← dq]
  refine aQ fun j _ => ?_
  simp only [ch]
  have e : ∀ x : Vec, (fun r c => rw' M 0 x (r + 1) (sk j c)) = fun r c => M (r + 1) (sk j c) := fun x => by funext r c; rw [cJ _ _ _ (by omega)]
  rw [e, e, e]
  grind
 | n + 1, M, r + 1, a, b, u, v, h => by
  rw [bK, bK, bK, ← bR, ← bR, ← dq]
  refine aQ fun j _ => ?_
  have e : ∀ x : Vec, (fun i c => rw' M (r + 1) x (i + 1) (sk j c)) = rw' (fun i c => M (i + 1) (sk j c)) r fun c => x (sk j c) := fun x => by
   funext i c
   unfold rw'
   by_cases e : i = r
   ·rw [if_pos e, if_pos (by omega)]
   ·rw [if_neg e, if_neg (by omega)]
  rw [e, e, e, nm n _ r a b (fun c => u (sk j c)) (fun c => v (sk j c)) (by omega), cJ _ _ _ (by omega), cJ _ _ _ (by omega), cJ _ _ _ (by omega)]
  grind
theorem o6 (T : Nat → Nat → Int) : ∀ N, sm (N + 1) (fun j => sm N fun k => T j k) = sm N fun k => sm (k + 1) fun j => T j k + T (k + 1) j
 | 0 => by simp [sm]
 | N + 1 => by
  rw [bG N, ← o6 T N, bG (N + 1), dq (N + 1) (fun j => T j N) (fun j => T (N + 1) j)]
  have : sm (N + 1) (fun j => sm (N + 1) fun k => T j k) = sm (N + 1) (fun j => sm N fun k => T j k) + sm (N + 1) fun j => T j N := by rw [← dq]; rfl
  rw [this]
  omega
theorem ka (n : Nat) (M : Mat) (h : ∀ c, c < n + 2 → M 0 c = M 1 c) : det (n + 2) M = 0 := by
 have e : det (n + 2) M = sm (n + 2) fun j => sm (n + 1) fun k => sgn j * M 0 j * (sgn k * M 1 (sk j k) * det n fun r c => M (r + 2) (sk j (sk k c))) := by
  rw [bK]
  exact aQ fun j _ => by rw [bK, ← bR]
 rw [e, o6]
 refine eI fun k hk => eI fun j hj => ?_
 have hj' : j ≤ k := by omega
 rw [o5 hj', nl hj', dw, ← h j (by omega), ← h (k + 1) (by omega)]
 have e2 : (fun r c => M (r + 2) (sk j (sk k c))) = fun r c => M (r + 2) (sk (k + 1) (sk j c)) := by funext r c; rw [qh hj']
 rw [e2]
 grind
theorem cG : ∀ n, Alt n n (det n)
 | 0 => ⟨fun _ _ _ => rfl, fun _ _ _ _ _ _ h => by omega, fun _ _ _ _ h => by omega⟩
 | n + 1 => by
  have ih := cG n
  have hge : ∀ (M : Mat) (r r' : Nat), r < r' → r' < n → (∀ c, c < n + 1 → M (r + 1) c = M (r' + 1) c) → det (n + 1) M = 0 := fun M r r' h1 h2 h3 => by
   rw [bK]
   refine eI fun j _ => ?_
   rw [ih.alt _ r r' h1 h2 fun c hc => h3 _ (lB hc)]
   omega
  have hsw : ∀ (M : Mat) (r r' : Nat), r ≠ r' → r < n → r' < n → det (n + 1) (swp M (r + 1) (r' + 1)) = - det (n + 1) M := fun M r r' h1 h2 h3 => by
   rw [bK, bK, ← kG]
   refine aQ fun j _ => ?_
   have e : (fun i c => swp M (r + 1) (r' + 1) (i + 1) (sk j c)) = swp (fun i c => M (i + 1) (sk j c)) r r' := by
    funext i c
    unfold swp rw'
    by_cases e1 : i = r' <;> by_cases e2 : i = r
    ·simp [e1]
    ·simp [e1]
    ·simp [e2, h1]
    ·simp [e1, e2]
   rw [e, ih.swap _ h1 h2 h3]
   have e0 : swp M (r + 1) (r' + 1) 0 j = M 0 j := by unfold swp rw'; rw [if_neg (by omega), if_neg (by omega)]
   rw [e0]
   grind
  refine ⟨fun M M' h => aY h, nm (n + 1), fun M r r' h1 h2 h3 => ?_⟩
  cases r with
  | succ r =>
   cases r' with
   | zero => omega
   | succ r' => exact hge M r r' (by omega) (by omega) h3
  | zero =>
   cases r' with
   | zero => omega
   | succ r' =>
    cases n with
    | zero => omega
    | succ n =>
     by_cases e : r' = 0
     ·subst e; exact ka n M h3
     ·have := hsw M 0 r' (by omega) (by omega) (by omega)
      rw [ka n (swp M (0 + 1) (r' + 1)) fun c hc => ?_] at this
      ·omega
      ·show swp M 1 (r' + 1) 0 c = swp M 1 (r' + 1) 1 c
       unfold swp rw'
       rw [if_neg (by omega), if_neg (by omega), if_neg (by omega), if_pos rfl]
       exact h3 c hc
def idM : Mat := fun i j => if i = j then 1 else 0
theorem bq (i : Nat) : idM i i = 1 := if_pos rfl
theorem bv {i j : Nat} (h : i ≠ j) : idM i j = 0 := if_neg h
def emb (j : Nat) (A : Mat) : Mat := fun i c => match i with
 | 0 => idM j c
 | i + 1 => if c = j then 0 else A i (if c < j then c else c - 1)
theorem qZ (j : Nat) (A : Mat) (i : Nat) : emb j A (i + 1) j = 0 := if_pos rfl
theorem q8 (j : Nat) (A : Mat) (r : Nat) (v : Vec) : emb j (rw' A r v) = rw' (emb j A) (r + 1) fun c => if c = j then 0 else v (if c < j then c else c - 1) := by
 funext i c
 cases i with
 | zero => rw [cJ _ _ _ (by omega)]; rfl
 | succ i =>
  by_cases e : i = r
  ·subst e; rw [ch]; show (if c = j then 0 else rw' A i v i _) = _; rw [ch]
  ·rw [cJ _ _ _ (by omega)]; show (if c = j then 0 else rw' A r v i _) = _; rw [cJ _ _ _ e]; rfl
theorem qi {n j : Nat} {f : Mat → Int} (hj : j < n + 1) (h : Alt (n + 1) (n + 1) f) : Alt n n fun A => f (emb j A) := by
 have hcol : ∀ c, c < n + 1 → c ≠ j → (if c < j then c else c - 1) < n := fun c hc hne => by split <;> omega
 refine ⟨fun M M' hM => h.congr _ _ fun r c hr hc => ?_, fun M r a b u v hr => ?_, fun M r r' h1 h2 h3 => ?_⟩
 ·cases r with
  | zero => rfl
  | succ r =>
   show (if c = j then 0 else M r _) = if c = j then 0 else M' r _
   by_cases e : c = j
   ·rw [if_pos e, if_pos e]
   ·rw [if_neg e, if_neg e, hM r _ (by omega) (hcol c hc e)]
 ·simp only [q8]
  rw [← h.lin _ _ a b _ _ (by omega)]
  congr 2
  funext c
  by_cases e : c = j
  ·simp [e]
  ·simp [e]
 ·refine h.alt _ (r + 1) (r' + 1) (by omega) (by omega) fun c hc => ?_
  show (if c = j then 0 else M r _) = if c = j then 0 else M r' _
  by_cases e : c = j
  ·rw [if_pos e, if_pos e]
  ·rw [if_neg e, if_neg e, h3 _ (hcol c hc e)]
theorem o7 {n : Nat} {f : Mat → Int} (h : Alt (n + 1) (n + 1) f) : ∀ j, j < n + 1 → f (emb j idM) = sgn j * f idM
 | 0, _ => by
  rw [cX, Int.one_mul]
  refine h.congr _ _ fun r c _ _ => ?_
  cases r with
  | zero => rfl
  | succ r =>
   show (if c = 0 then 0 else idM r _) = _
   by_cases e : c = 0
   ·rw [if_pos e, bv (by omega)]
   ·rw [if_neg e, if_neg (by omega)]
    by_cases e' : r + 1 = c
    ·subst e'; rw [bq]; exact bq _
    ·rw [bv e', bv (by omega)]
 | j + 1, hj => by
  have := h.swap (emb j idM) (r := 0) (r' := j + 1) (by omega) (by omega) hj
  rw [o7 h j (by omega)] at this
  rw [dw, Int.neg_mul, ← this]
  refine h.congr _ _ fun r c _ _ => ?_
  unfold swp rw'
  cases r with
  | zero =>
   rw [if_neg (by omega), if_pos rfl]
   show idM (j + 1) c = if c = j then 0 else idM j (if c < j then c else c - 1)
   by_cases e : c = j
   ·rw [if_pos e, bv (by omega)]
   ·rw [if_neg e]
    by_cases e' : j + 1 = c
    ·subst e'; rw [if_neg (by omega), bq]; exact (bq _).symm
    ·rw [bv e', bv (by split <;> omega)]
  | succ r =>
   by_cases e : r = j
   ·subst e
    rw [if_pos rfl]
    show (if c = r + 1 then 0 else idM r (if c < r + 1 then c else c - 1)) = idM r c
    by_cases e1 : c = r + 1
    ·rw [if_pos e1, bv (by omega)]
    ·rw [if_neg e1]
     by_cases e2 : c < r + 1
     ·rw [if_pos e2]
     ·rw [if_neg e2, bv (by omega), bv (by omega)]
   ·rw [if_neg (by omega), if_neg (by omega)]
    show (if c = j + 1 then 0 else idM r (if c < j + 1 then c else c - 1)) = if c = j then 0 else idM r (if c < j then c else c - 1)
    by_cases e1 : c = j
    ·subst e1
     rw [if_neg (by omega), if_pos rfl, if_pos (by omega), bv e]
    ·by_cases e2 : c = j + 1
     ·subst e2
      rw [if_pos rfl, if_neg (by omega), if_neg (by omega), bv (by omega)]
     ·rw [if_neg e1, if_neg e2]
      congr 1
      by_cases e3 : c < j
      ·rw [if_pos e3, if_pos (by omega)]
      ·rw [if_neg e3, if_neg (by omega)]
theorem Alt.unique : ∀ {n : Nat} {f : Mat → Int}, Alt n n f → ∀ M, f M = det n M * f idM
 | 0, f, h, M => by rw [dx, Int.one_mul]; exact h.congr _ _ fun r c hr => by omega
 | n + 1, f, h, M => by
  have h1 : f M = sm (n + 1) fun j => M 0 j * f (rw' M 0 (idM j)) := by
   rw [← h.sum M (by omega)]
   symm
   refine h.self M 0 fun c hc => ?_
   rw [bW hc fun i hi hne => by rw [bv hne]; omega]
   rw [bq, Int.mul_one]
  have h2 : ∀ j, j < n + 1 → f (rw' M 0 (idM j)) = f (emb j fun r c => M (r + 1) (sk j c)) := fun j hj => by
   have key : ∀ k, k ≤ n → f (rw' M 0 (idM j)) = f (fun r c => if r = 0 then idM j c else if r ≤ k ∧ c = j then 0 else M r c) := fun k => by
    induction k with
    | zero =>
     intro _
     refine h.congr _ _ fun r c _ _ => ?_
     unfold rw'
     by_cases e : r = 0
     ·rw [if_pos e, if_pos e]
     ·rw [if_neg e, if_neg e, if_neg (by omega)]
    | succ k ih =>
     intro hk
     rw [ih (by omega), ← h.addrow _ (r := k + 1) (r' := 0) (by omega) (by omega) (by omega) (-(M (k + 1) j))]
     refine h.congr _ _ fun r c _ _ => ?_
     by_cases e : r = k + 1
     ·subst e
      rw [ch]
      simp only [if_neg (show k + 1 ≠ 0 by omega), if_true]
      rw [if_neg (by omega)]
      by_cases e' : c = j
      ·subst e'; rw [bq, if_pos ⟨Nat.le_refl _, rfl⟩]; omega
      ·rw [bv (Ne.symm e'), if_neg (fun h => e' h.2)]; omega
     ·rw [cJ _ _ _ e]
      by_cases e0 : r = 0
      ·rw [if_pos e0, if_pos e0]
      ·rw [if_neg e0, if_neg e0]
       by_cases e' : r ≤ k ∧ c = j
       ·rw [if_pos e', if_pos ⟨by omega, e'.2⟩]
       ·rw [if_neg e', if_neg (fun h => e' ⟨by omega, h.2⟩)]
   rw [key n (Nat.le_refl _)]
   refine h.congr _ _ fun r c hr hc => ?_
   cases r with
   | zero => rfl
   | succ r =>
    rw [if_neg (by omega)]
    by_cases e : c = j
    ·subst e; rw [if_pos ⟨by omega, rfl⟩, qZ]
    ·rw [if_neg (fun h => e h.2)]
     show _ = if c = j then 0 else M (r + 1) (sk j (if c < j then c else c - 1))
     rw [if_neg e]
     congr 1
     unfold sk
     by_cases e' : c < j
     ·rw [if_pos e', if_pos e']
     ·rw [if_neg e', if_neg (by omega)]; omega
  rw [h1, bK, ← ew]
  refine aQ fun j hj => ?_
  rw [h2 j hj, (qi hj h).unique, o7 h j hj]
  grind
theorem gB : ∀ n, det n idM = 1
 | 0 => rfl
 | n + 1 => by
  rw [bK, bW (k := 0) (by omega) fun i _ hne => by rw [bv (Ne.symm hne)]; omega]
  rw [cX, bq]
  have : det n (fun r c => idM (r + 1) (sk 0 c)) = det n idM := aY fun r c _ _ => by
   rw [nk]
   by_cases e : r = c
   ·rw [e, bq, bq]
   ·rw [bv e, bv (by omega)]
  rw [this, gB n]; rfl
def mm (n : Nat) (A B : Mat) : Mat := fun i j => sm n fun k => A i k * B k j
theorem tn (n : Nat) (A B : Mat) (r : Nat) (v : Vec) : mm n (rw' A r v) B = rw' (mm n A B) r fun j => sm n fun k => v k * B k j := by
 funext i j
 unfold mm
 by_cases e : i = r
 ·subst e; rw [ch]; exact aQ fun k _ => by rw [ch]
 ·rw [cJ _ _ _ e]; exact aQ fun k _ => by rw [cJ _ _ _ e]
theorem o8 {n : Nat} (A : Mat) (i j : Nat) (hj : j < n) : mm n A idM i j = A i j := by
 unfold mm
 rw [bW hj fun k _ hne => by rw [bv hne]; omega]
 rw [bq, Int.mul_one]
theorem lC {n : Nat} (A : Mat) (i j : Nat) (hi : i < n) : mm n idM A i j = A i j := by
 unfold mm
 rw [bW hi fun k _ hne => by rw [bv (Ne.symm hne)]; omega]
 rw [bq, Int.one_mul]
theorem gW (n m : Nat) (A B C : Mat) (i j : Nat) : mm m (mm n A B) C i j = mm n A (mm m B C) i j := by
 unfold mm
 have h1 : (sm m fun k => (sm n fun l => A i l * B l k) * C k j) = sm m fun k => sm n fun l => A i l * B l k * C k j := aQ fun k _ => by rw [← ew]
 have h2 : (sm n fun l => A i l * sm m fun k => B l k * C k j) = sm n fun l => sm m fun k => A i l * B l k * C k j := aQ fun l _ => by rw [← bR]; exact aQ fun k _ => by rw [Int.mul_assoc]
 rw [h1, h2, fk]
theorem dy {n : Nat} {A A' B B' : Mat} {i j : Nat} (h : ∀ k, k < n → A i k = A' i k) (h' : ∀ k, k < n → B k j = B' k j) : mm n A B i j = mm n A' B' i j := aQ fun k hk => by rw [h k hk, h' k hk]
theorem dg (n : Nat) (A B : Mat) : det n (mm n A B) = det n A * det n B := by
 have hd := cG n
 have h : Alt n n fun A => det n (mm n A B) := by
  refine ⟨fun M M' hM => aY fun r c hr _ => aQ fun k hk => by rw [hM r k hr hk], fun M r a b u v hr => ?_, fun M r r' h1 h2 h3 => ?_⟩
  ·simp only [tn]
   rw [← hd.lin _ _ a b _ _ hr]
   congr 2
   funext c
   rw [← bR, ← bR, ← dq]
   exact aQ fun k _ => by grind
  ·exact hd.alt _ r r' h1 h2 fun c _ => aQ fun k hk => by rw [h3 k hk]
 rw [h.unique A]
 congr 1
 exact aY fun r c hr _ => lC B r c hr
theorem jA : ∀ {n : Nat} {M : Mat}, (∀ r, r < n → M (r + 1) 0 = 0) → det (n + 1) M = M 0 0 * det n fun r c => M (r + 1) (c + 1)
 | 0, M, _ => by rw [fY, dx, Int.mul_one]
 | n + 1, M, h => by
  rw [bK, bW (k := 0) (by omega)]
  ·rw [cX, Int.one_mul]
   congr 1
  ·intro j hj hne
   have e : det (n + 1) (fun r c => M (r + 1) (sk j c)) = 0 := by
    rw [jA (M := fun r c => M (r + 1) (sk j c))]
    ·have : sk j 0 = 0 := by unfold sk; rw [if_pos (by omega)]
     rw [this, h 0 (by omega), Int.zero_mul]
    ·intro r hr
     have : sk j 0 = 0 := by unfold sk; rw [if_pos (by omega)]
     rw [this]; exact h (r + 1) (by omega)
   rw [e]; omega
theorem o9 {n : Nat} {M : Mat} (hn : 0 < n) (h : ∀ r, r < n → M r 0 = 0) : det n M = 0 := by
 cases n with
 | zero => omega
 | succ n => rw [jA fun r hr => h (r + 1) (by omega), h 0 (by omega), Int.zero_mul]
theorem lD {n : Nat} {M : Mat} (h : ∀ c, c < n → M 0 (c + 1) = 0) : det (n + 1) M = M 0 0 * det n fun r c => M (r + 1) (c + 1) := by
 rw [bK, bW (k := 0) (by omega)]
 ·rw [cX, Int.one_mul]
  congr 1
 ·intro j hj hne
  obtain ⟨j, rfl⟩ : ∃ k, j = k + 1 := ⟨j - 1, by omega⟩
  rw [h j (by omega)]; omega
def pr : Nat → (Nat → Int) → Int
 | 0, _ => 1
 | n + 1, f => pr n f * f n
theorem jB (n : Nat) (f : Nat → Int) : pr (n + 1) f = f 0 * pr n fun i => f (i + 1) := by
 induction n with
 | zero => simp [pr]
 | succ n ih => rw [pr, ih, pr]; grind
theorem cU : ∀ {n : Nat} {M : Mat}, (∀ r c, c < n → r < c → M r c = 0) → det n M = pr n fun i => M i i
 | 0, _, _ => rfl
 | n + 1, M, h => by
  rw [lD fun c hc => h 0 (c + 1) (by omega) (by omega), cU fun r c hc hr => h (r + 1) (c + 1) (by omega) (by omega), jB]
theorem iz : ∀ {n : Nat} {M : Mat}, (∀ r c, r < n → c < r → M r c = 0) → det n M = pr n fun i => M i i
 | 0, _, _ => rfl
 | n + 1, M, h => by
  rw [jA fun r hr => h (r + 1) 0 (by omega) (by omega), iz fun r c hr hc => h (r + 1) (c + 1) (by omega) (by omega), jB]
theorem nW {k m : Nat} {M : Mat} (h : ∀ r c, r < k → k ≤ c → c < k + m → M r c = 0) : det (k + m) M = det k M * det m fun r c => M (k + r) (k + c) := by
 have hd := cG (k + m)
 have hf : Alt k k fun A => det (k + m) fun r c => if r < k then (if c < k then A r c else 0) else M r c := by
  have e : ∀ (A : Mat) (r : Nat) (v : Vec), r < k → (fun i c => if i < k then (if c < k then rw' A r v i c else 0) else M i c) = rw' (fun i c => if i < k then (if c < k then A i c else 0) else M i c) r fun c => if c < k then v c else 0 := fun A r v hr => by
   funext i c
   by_cases e : i = r
   ·subst e; rw [ch, if_pos hr, ch]
   ·rw [cJ _ _ _ e, cJ _ _ _ e]
  refine ⟨fun A A' hA => aY fun r c _ _ => ?_, fun A r a b u v hr => ?_, fun A r r' h1 h2 h3 => ?_⟩
  ·by_cases e1 : r < k
   ·rw [if_pos e1, if_pos e1]
    by_cases e2 : c < k
    ·rw [if_pos e2, if_pos e2, hA r c e1 e2]
    ·rw [if_neg e2, if_neg e2]
   ·rw [if_neg e1, if_neg e1]
  ·simp only [e _ _ _ hr]
   rw [← hd.lin _ _ a b _ _ (by omega)]
   congr 2
   funext c
   by_cases e2 : c < k
   ·simp only [if_pos e2]
   ·simp only [if_neg e2]; omega
  ·refine hd.alt _ r r' h1 (by omega) fun c _ => ?_
   rw [if_pos (by omega), if_pos h2]
   by_cases e2 : c < k
   ·rw [if_pos e2, if_pos e2, h3 c e2]
   ·rw [if_neg e2, if_neg e2]
 have h1 : det (k + m) M = det (k + m) fun r c => if r < k then (if c < k then M r c else 0) else M r c := aY fun r c hr hc => by
  by_cases e1 : r < k
  ·rw [if_pos e1]
   by_cases e2 : c < k
   ·rw [if_pos e2]
   ·rw [if_neg e2, h r c e1 (by omega) hc]
  ·rw [if_neg e1]
 rw [h1, hf.unique M]
 congr 1
 have key : ∀ (k : Nat) (M : Mat), det (k + m) (fun r c => if r < k then (if c < k then idM r c else 0) else M r c) = det m fun r c => M (k + r) (k + c) := by
  intro k
  induction k with
  | zero => intro M; rw [Nat.zero_add]; exact aY fun r c _ _ => by rw [if_neg (by omega), Nat.zero_add, Nat.zero_add]
  | succ k ih =>
   intro M
   rw [show k + 1 + m = (k + m) + 1 by omega, lD fun c hc => by
    rw [if_pos (by omega)]
    by_cases e : c + 1 < k + 1
    ·rw [if_pos e, bv (by omega)]
    ·rw [if_neg e]]
   rw [if_pos (by omega), if_pos (by omega), bq, Int.one_mul]
   have := ih fun r c => M (r + 1) (c + 1)
   rw [show (fun r c => M (k + 1 + r) (k + 1 + c)) = fun r c => M (k + r + 1) (k + c + 1) by funext r c; rw [show k + 1 + r = k + r + 1 by omega, show k + 1 + c = k + c + 1 by omega], ← this]
   refine aY fun r c _ _ => ?_
   by_cases e1 : r < k
   ·rw [if_pos e1, if_pos (by omega)]
    by_cases e2 : c < k
    ·rw [if_pos e2, if_pos (by omega)]
     by_cases e3 : r = c
     ·rw [e3, bq, bq]
     ·rw [bv e3, bv (by omega)]
    ·rw [if_neg e2, if_neg (by omega)]
   ·rw [if_neg e1, if_neg (by omega)]
 exact key k M
end Go.LA
namespace Go.LA
def mnr (M : Mat) (i j : Nat) : Mat := fun r c => M (sk i r) (sk j c)
def topr (M : Mat) (i : Nat) : Mat := fun r c => match r with
 | 0 => M i c
 | r + 1 => M (sk i r) c
theorem lE {n : Nat} (M : Mat) : ∀ i, i < n → det n (topr M i) = sgn i * det n M
 | 0, _ => by
  rw [cX, Int.one_mul]
  refine aY fun r c _ _ => ?_
  cases r with
  | zero => rfl
  | succ r => show M (sk 0 r) c = _; rw [nk]
 | i + 1, hi => by
  have := (cG n).swap (topr M i) (r := 0) (r' := i + 1) (by omega) (by omega) hi
  rw [lE M i (by omega)] at this
  rw [dw, Int.neg_mul, ← this]
  refine aY fun r c _ _ => ?_
  unfold swp rw'
  cases r with
  | zero =>
   rw [if_neg (by omega), if_pos rfl]
   show M (i + 1) c = M (sk i i) c
   rw [nl (Nat.le_refl _)]
  | succ r =>
   by_cases e : r = i
   ·subst e
    rw [if_pos rfl]
    show M (sk (r + 1) r) c = M r c
    rw [o5 (Nat.le_refl _)]
   ·rw [if_neg (by omega), if_neg (by omega)]
    show M (sk (i + 1) r) c = M (sk i r) c
    congr 1
    unfold sk
    by_cases e' : r < i
    ·rw [if_pos e', if_pos (by omega)]
    ·rw [if_neg e', if_neg (by omega)]
theorem np (i : Nat) : ∀ j, sgn (i + j) = sgn i * sgn j
 | 0 => by rw [cX, Int.mul_one]; rfl
 | j + 1 => by rw [← Nat.add_assoc, dw, np i j, dw]; grind
theorem kI {n : Nat} (M : Mat) {i : Nat} (hi : i < n + 1) : det (n + 1) M = sm (n + 1) fun j => M i j * (sgn (i + j) * det n (mnr M i j)) := by
 have h := lE M i hi
 have h2 : det (n + 1) M = sgn i * det (n + 1) (topr M i) := by rw [h, ← Int.mul_assoc, oZ, Int.one_mul]
 rw [h2, bK, ← bR]
 refine aQ fun j _ => ?_
 have e : sgn (i + j) = sgn i * sgn j := np i j
 show sgn i * (sgn j * M i j * det n (fun r c => M (sk i r) (sk j c))) = _
 rw [e]
 unfold mnr
 grind
def adj (n : Nat) (M : Mat) : Mat := fun j i => sgn (i + j) * det (n - 1) (mnr M i j)
theorem eJ {n : Nat} (M : Mat) {i k : Nat} (hi : i < n) (hk : k < n) : mm n M (adj n M) i k = det n M * idM i k := by
 obtain ⟨n, rfl⟩ : ∃ m, n = m + 1 := ⟨n - 1, by omega⟩
 unfold mm adj
 rw [Nat.add_sub_cancel]
 by_cases e : i = k
 ·subst e; rw [bq, Int.mul_one, kI M hi]
 ·rw [bv e, Int.mul_zero]
  have h0 : det (n + 1) (rw' M k (M i)) = 0 := (cG (n + 1)).eqrows (r := k) (r' := i) (Ne.symm e) hk hi fun c _ => by rw [ch, cJ _ _ _ e]
  rw [kI _ hk] at h0
  rw [← h0]
  refine aQ fun j _ => ?_
  rw [ch]
  congr 2
  refine aY fun r c _ _ => ?_
  unfold mnr
  rw [cJ _ _ _ (o3 _ _)]
theorem Alt.zrow {n m : Nat} {f : Mat → Int} (h : Alt n m f) {M : Mat} {r : Nat} (hr : r < n) (hz : ∀ c, c < m → M r c = 0) : f M = 0 := by
 have := h.smul M hr 0 (M r)
 rw [h.self M r fun c hc => by rw [hz c hc]; omega] at this
 omega
theorem fm {n j : Nat} {M : Mat} (hj : j < n) (h : ∀ r, r < n → M r j = 0) : det n M = 0 := by
 have h1 : det n (mm n M (rw' idM j fun _ => 0)) = 0 := by
  rw [dg, (cG n).zrow hj fun c _ => ch _ _ _ _]; omega
 rw [← h1]
 refine aY fun r c hr hc => ?_
 unfold mm
 by_cases e : c = j
 ·subst e
  rw [h r hr, eI fun k _ => ?_]
  by_cases e' : k = c
  ·subst e'; rw [ch]; omega
  ·rw [cJ _ _ _ e', bv e']; omega
 ·rw [bW hc fun k _ hne => ?_]
  ·rw [cJ _ _ _ e, bq, Int.mul_one]
  ·by_cases e' : k = j
   ·subst e'; rw [ch]; omega
   ·rw [cJ _ _ _ e', bv hne]; omega
theorem kJ {n j : Nat} (hj : j < n) (x : Vec) : det n (fun a b => if b = j then x a else idM a b) = x j := by
 have hd := cG n
 have h1 : ∀ k, k ≤ n → det n (fun a b => if b = j then x a else idM a b) = x j * det n (fun a b => if a = j then idM j b else if b = j then (if a < k then 0 else x a) else idM a b) := by
  intro k
  induction k with
  | zero =>
   intro _
   rw [← kH (fun a b => if a = j then idM j b else if b = j then (if a < 0 then 0 else x a) else idM a b) j, ← hd.smul _ hj]
   refine aY fun a b _ _ => ?_
   by_cases e : a = j
   ·subst e
    rw [ch]
    by_cases e' : b = a
    ·subst e'; rw [if_pos rfl, if_pos rfl, bq, Int.mul_one]
    ·rw [if_neg e', if_pos rfl, bv (Ne.symm e')]; omega
   ·rw [cJ _ _ _ e, if_neg e]
    simp
  | succ k ih =>
   intro hk
   rw [ih (by omega)]
   by_cases e : k = j
   ·subst e
    congr 1
    refine aY fun a b _ _ => ?_
    by_cases ea : a = k
    ·rw [if_pos ea, if_pos ea]
    ·rw [if_neg ea, if_neg ea]
     by_cases eb : b = k
     ·rw [if_pos eb, if_pos eb]
      by_cases el : a < k
      ·rw [if_pos el, if_pos (by omega)]
      ·rw [if_neg el, if_neg (by omega)]
     ·rw [if_neg eb, if_neg eb]
   ·congr 1
    rw [← hd.addrow _ (r := k) (r' := j) e (by omega) hj (-(x k))]
    refine aY fun a b _ _ => ?_
    by_cases ea : a = k
    ·subst ea
     rw [ch, if_neg e, if_pos rfl, if_neg e]
     by_cases eb : b = j
     ·subst eb; rw [if_pos rfl, if_neg (by omega), bq, if_pos rfl, if_pos (by omega)]; omega
     ·rw [if_neg eb, bv (Ne.symm eb), if_neg eb]; omega
    ·rw [cJ _ _ _ ea]
     by_cases ea' : a = j
     ·rw [if_pos ea', if_pos ea']
     ·rw [if_neg ea', if_neg ea']
      by_cases eb : b = j
      ·rw [if_pos eb, if_pos eb]
       by_cases el : a < k
       ·rw [if_pos el, if_pos (by omega)]
       ·rw [if_neg el, if_neg (by omega)]
      ·rw [if_neg eb, if_neg eb]
 rw [h1 n (Nat.le_refl _)]
 have : det n (fun a b => if a = j then idM j b else if b = j then (if a < n then 0 else x a) else idM a b) = det n idM := aY fun a b ha _ => by
  by_cases ea : a = j
  ·rw [if_pos ea, ea]
  ·rw [if_neg ea]
   by_cases eb : b = j
   ·rw [if_pos eb, if_pos ha, eb, bv ea]
   ·rw [if_neg eb]
 rw [this, gB, Int.mul_one]
theorem ns {n : Nat} {M : Mat} (hd : det n M ≠ 0) {x : Vec} (hx : ∀ r, r < n → (sm n fun l => M r l * x l) = 0) {j : Nat} (hj : j < n) : x j = 0 := by
 have key := dg n M (fun a b => if b = j then x a else idM a b)
 rw [fm hj fun r hr => ?_, kJ hj x] at key
 ·rcases Int.mul_eq_zero.1 key.symm with h | h
  ·exact absurd h hd
  ·exact h
 ·rw [← hx r hr]; unfold mm; exact aQ fun l _ => by simp only [if_true]
theorem q9 {n : Nat} {M : Mat} (hd : det n M ≠ 0) {i k : Nat} (hi : i < n) (hk : k < n) : mm n (adj n M) M i k = det n M * idM i k := by
 have h1 : ∀ j, j < n → mm n M (mm n (adj n M) M) j k = det n M * M j k := fun j hj => by
  rw [← gW]
  have : mm n (mm n M (adj n M)) M j k = mm n (fun i k => det n M * idM i k) M j k := dy (fun l hl => eJ M hj hl) (fun _ _ => rfl)
  rw [this]
  unfold mm
  have : (sm n fun l => det n M * idM j l * M l k) = sm n fun l => det n M * (idM j l * M l k) := aQ fun l _ => by rw [Int.mul_assoc]
  rw [this, bR]
  congr 1
  exact lC M j k hj
 have h5 := ns hd (x := fun a => mm n (adj n M) M a k - det n M * idM a k) (fun j hj => by
  have : (sm n fun l => M j l * (mm n (adj n M) M l k - det n M * idM l k)) = (sm n fun l => M j l * mm n (adj n M) M l k) - sm n fun l => det n M * (M j l * idM l k) := by
   rw [← gA]; exact aQ fun l _ => by grind
  rw [this, bR]
  have e1 : (sm n fun l => M j l * mm n (adj n M) M l k) = det n M * M j k := h1 j hj
  have e2 : (sm n fun l => M j l * idM l k) = M j k := o8 M j k hk
  rw [e1, e2]; omega) hi
 have h6 : mm n (adj n M) M i k - det n M * idM i k = 0 := h5
 omega
def brd (M : Mat) (k i j : Nat) : Mat := fun r c => M (if r < k then r else i) (if c < k then c else j)
def bm (M : Mat) (k i j : Nat) : Int := det (k + 1) (brd M k i j)
theorem qj (M : Mat) (i j : Nat) : bm M 0 i j = M i j := by unfold bm; rw [fY]; rfl
theorem fN (n : Nat) (a : Int) {f : Nat → Int} (h : ∀ i, i < n → f i = a) : pr n f = a ^ n := by
 induction n with
 | zero => simp [pr]
 | succ n ih => rw [pr, ih fun i hi => h i (by omega), h n (by omega), Int.pow_succ]
theorem pc (k m : Nat) (f : Nat → Int) : pr (k + m) f = pr k f * pr m fun i => f (k + i) := by
 induction m with
 | zero => simp [pr]
 | succ m ih => rw [← Nat.add_assoc, pr, ih, pr, Int.mul_assoc]
def sch (k : Nat) (M : Mat) : Mat := fun i j => det k M * M i j - sm k fun a => sm k fun b => M i a * (adj k M a b * M b j)
theorem pd (k m : Nat) (M : Mat) : det (k + m) M * det k M ^ m = det k M * det m fun r c => sch k M (k + r) (k + c) := by
 have h1 := dg (k + m) M (fun r c => if c < k then idM r c else if r < k then - sm k (fun b => adj k M r b * M b c) else det k M * idM r c)
 generalize hX : (fun r c => if c < k then idM r c else if r < k then - sm k (fun b => adj k M r b * M b c) else det k M * idM r c : Mat) = X at h1
 have x1 : ∀ r c, c < k → X r c = idM r c := fun r c hc => by rw [← hX]; simp only [hc, if_true]
 have x2 : ∀ r c, k ≤ c → r < k → X r c = - sm k (fun b => adj k M r b * M b c) := fun r c hc hr => by rw [← hX]; simp only [show ¬ c < k by omega, hr, if_true, if_false]
 have x3 : ∀ r c, k ≤ c → k ≤ r → X r c = det k M * idM r c := fun r c hc hr => by rw [← hX]; simp only [show ¬ c < k by omega, show ¬ r < k by omega, if_false]
 have h2 : det (k + m) X = det k M ^ m := by
  rw [iz fun r c hr hc => by
   by_cases e : c < k
   ·rw [x1 r c e, bv (by omega)]
   ·rw [x3 r c (by omega) (by omega), bv (by omega), Int.mul_zero]]
  rw [pc, fN k 1 fun a ha => by rw [x1 a a ha, bq], fN m (det k M) fun a _ => by rw [x3 _ _ (by omega) (by omega), bq, Int.mul_one]]
  rw [Int.one_pow, Int.one_mul]
 have e1 : ∀ r c, c < k → mm (k + m) M X r c = M r c := fun r c hc => by
  unfold mm
  rw [bW (show c < k + m by omega) fun a _ hne => by rw [x1 a c hc, bv hne, Int.mul_zero]]
  rw [x1 c c hc, bq, Int.mul_one]
 have e2 : ∀ r c, k ≤ c → c < k + m → mm (k + m) M X r c = sch k M r c := fun r c hc hc' => by
  unfold mm sch
  rw [eX, aQ (n := k) (g := fun a => - sm k fun b => M r a * (adj k M a b * M b c)) fun a ha => by rw [x2 a c hc ha, bR]; grind]
  rw [kG, bW (n := m) (k := c - k) (by omega) fun a _ hne => by rw [x3 _ c hc (by omega), bv (by omega), Int.mul_zero, Int.mul_zero]]
  rw [show k + (c - k) = c by omega, x3 c c hc hc, bq]
  grind
 rw [h2, nW fun r c hr hc hc' => ?_] at h1
 ·rw [← h1]
  congr 1
  ·exact aY fun r c hr hc => e1 r c hc
  ·exact aY fun r c hr hc => e2 _ _ (by omega) (by omega)
 ·rw [e2 r c hc hc']
  unfold sch
  have : (sm k fun a => sm k fun b => M r a * (adj k M a b * M b c)) = sm k fun b => mm k M (adj k M) r b * M b c := by
   rw [fk]
   refine aQ fun b _ => ?_
   unfold mm
   rw [← ew]
   exact aQ fun a _ => by rw [Int.mul_assoc]
  rw [this, bW hr fun b hb hne => by rw [eJ M hr hb, bv (Ne.symm hne), Int.mul_zero, Int.zero_mul]]
  rw [eJ M hr hr, bq, Int.mul_one]
  omega
theorem nX {k : Nat} {M M' : Mat} (h : ∀ r c, r < k → c < k → M r c = M' r c) {a b : Nat} (_ha : a < k) (hb : b < k) : adj k M a b = adj k M' a b := by
 unfold adj mnr
 congr 1
 exact aY fun r c hr hc => h _ _ (by have := lB (i := b) hr; omega) (by have := lB (i := a) hc; omega)
theorem qk (M : Mat) (k i j : Nat) : det k (brd M k i j) = det k M := aY fun r c hr hc => by unfold brd; rw [if_pos hr, if_pos hc]
theorem pf {k : Nat} {M N : Mat} {i j i' j' : Nat} (h : ∀ r c, r < k → c < k → N r c = M r c) (hr : ∀ c, c < k → N i' c = M i c) (hc : ∀ r, r < k → N r j' = M r j) (hij : N i' j' = M i j) : sch k N i' j' = sch k M i j := by
 unfold sch
 rw [aY (M' := M) h, hij]
 congr 1
 exact aQ fun a ha => aQ fun b hb => by rw [hr a ha, hc b hb, nX h ha hb]
theorem mE {k : Nat} {M : Mat} (hz : det k M ≠ 0) (i j : Nat) : bm M k i j = sch k M i j := by
 have h := pd k 1 (brd M k i j)
 rw [qk, fY, Int.pow_succ, Int.pow_zero, Int.one_mul] at h
 have e : sch k (brd M k i j) (k + 0) (k + 0) = sch k M i j := by
  refine pf (fun r c hr hc => ?_) (fun c hc => ?_) (fun r hr => ?_) ?_ <;> unfold brd
  ·rw [if_pos hr, if_pos hc]
  ·rw [if_neg (by omega), if_pos hc]
  ·rw [if_pos hr, if_neg (by omega)]
  ·rw [if_neg (by omega), if_neg (by omega)]
 rw [e, Int.mul_comm (det k M)] at h
 exact Int.eq_of_mul_eq_mul_right hz h
theorem pg {k m : Nat} {M : Mat} (hz : det k M ≠ 0) : det (k + m) M * det k M ^ m = det k M * det m fun r c => bm M k (k + r) (k + c) := by
 rw [pd]
 congr 1
 exact aY fun r c _ _ => (mE hz _ _).symm
theorem mF {a : Int} (h : a ≠ 0) : ∀ n : Nat, a ^ n ≠ 0
 | 0 => by rw [Int.pow_zero]; omega
 | n + 1 => fun e => by
  rw [Int.pow_succ] at e
  rcases Int.mul_eq_zero.1 e with h' | h'
  ·exact mF h n h'
  ·exact h h'
theorem qm (M : Mat) : det 2 M = M 0 0 * M 1 1 - M 0 1 * M 1 0 := by
 rw [bK, bG, bG, iV, fY, fY, cX, dw, cX]
 have e1 : sk 0 0 = 1 := rfl
 have e2 : sk 1 0 = 0 := rfl
 simp only [e1, e2, Nat.zero_add]
 grind
theorem kK {k : Nat} {M : Mat} (hz : det k M ≠ 0) (i j : Nat) : bm M (k + 1) i j * det k M = bm M k k k * bm M k i j - bm M k i k * bm M k k j := by
 have h := pd k 2 (brd M (k + 1) i j)
 have e0 : det k (brd M (k + 1) i j) = det k M := aY fun r c hr hc => by unfold brd; rw [if_pos (by omega), if_pos (by omega)]
 rw [e0, qm] at h
 have hN : ∀ r c, r < k → c < k → brd M (k + 1) i j r c = M r c := fun r c hr hc => by unfold brd; rw [if_pos (by omega), if_pos (by omega)]
 have g : ∀ x y, x < 2 → y < 2 → sch k (brd M (k + 1) i j) (k + x) (k + y) = bm M k (if x = 0 then k else i) (if y = 0 then k else j) := fun x y hx hy => by
  rw [mE hz]
  refine pf hN (fun c hc => ?_) (fun r hr => ?_) ?_ <;> unfold brd
  ·rw [if_pos (show c < k + 1 by omega)]
   by_cases e : x = 0
   ·subst e; rw [if_pos (by omega), if_pos rfl]; rfl
   ·rw [if_neg (by omega), if_neg e]
  ·rw [if_pos (show r < k + 1 by omega)]
   by_cases e : y = 0
   ·subst e; rw [if_pos (by omega), if_pos rfl]; rfl
   ·rw [if_neg (by omega), if_neg e]
  ·by_cases e : x = 0 <;> by_cases e' : y = 0
   ·subst e; subst e'; rw [if_pos (by omega), if_pos (by omega), if_pos rfl]; rfl
   ·subst e; rw [if_pos (by omega), if_neg (by omega), if_pos rfl, if_neg e']; rfl
   ·subst e'; rw [if_neg (by omega), if_pos (by omega), if_neg e, if_pos rfl]; rfl
   ·rw [if_neg (by omega), if_neg (by omega), if_neg e, if_neg e']
 rw [g 0 0 (by omega) (by omega), g 1 1 (by omega) (by omega), g 0 1 (by omega) (by omega), g 1 0 (by omega) (by omega)] at h
 simp only [if_true, show ¬ (1 = 0) by omega, if_false] at h
 have h' : (bm M (k + 1) i j * det k M) * det k M = (bm M k k k * bm M k i j - bm M k i k * bm M k k j) * det k M := by
  have e : det (k + 2) (brd M (k + 1) i j) = bm M (k + 1) i j := rfl
  rw [e] at h
  have e2 : det k M ^ 2 = det k M * det k M := by rw [show (2 : Nat) = 1 + 1 from rfl, Int.pow_succ, Int.pow_succ, Int.pow_zero, Int.one_mul]
  rw [e2] at h
  grind
 exact Int.eq_of_mul_eq_mul_right hz h'
theorem qn (M : Mat) (k : Nat) : bm M k k k = det (k + 1) M := aY fun r c hr hc => by
 unfold brd
 by_cases e : r < k <;> by_cases e' : c < k
 ·rw [if_pos e, if_pos e']
 ·rw [if_pos e, if_neg e', show c = k by omega]
 ·rw [if_neg e, if_pos e', show r = k by omega]
 ·rw [if_neg e, if_neg e', show r = k by omega, show c = k by omega]
theorem lG {n k : Nat} {M : Mat} (hk : k < n) (hz : det k M ≠ 0) (h : ∀ i, k ≤ i → i < n → bm M k i k = 0) : det n M = 0 := by
 obtain ⟨m, rfl⟩ : ∃ m, n = k + m := ⟨n - k, by omega⟩
 have h1 := pg (m := m) hz
 rw [o9 (M := fun r c => bm M k (k + r) (k + c)) (by omega) fun r hr => h _ (by omega) (by omega), Int.mul_zero] at h1
 rcases Int.mul_eq_zero.1 h1 with h | h
 ·exact h
 ·exact absurd h (mF hz m)
end Go.LA
namespace Go.LA
def BdJ (n : Nat) (A : Mat) (k : Nat) (s : Int) (W : Mat) (last : Int) : Prop :=
 ∃ N : Mat, k ≤ n ∧ (s = 1 ∨ s = -1) ∧ det n N = s * det n A ∧ det k N = last ∧ last ≠ 0 ∧ (∀ r, r < n → ∃ r', r' < n ∧ ∀ c, N r c = A r' c) ∧ ∀ i j, k ≤ i → i < n → k ≤ j → j < n → W i j = bm N k i j
theorem nY (n : Nat) {A W : Mat} (h : ∀ i j, i < n → j < n → W i j = A i j) : BdJ n A 0 1 W 1 :=
 ⟨A, Nat.zero_le _, .inl rfl, by omega, rfl, by omega, fun r hr => ⟨r, hr, fun _ => rfl⟩, fun i j _ hi _ hj => by rw [qj]; exact h i j hi hj⟩
theorem BdJ.swap {n k p : Nat} {A W W' : Mat} {s last : Int} (h : BdJ n A k s W last) (hp : k < p) (hpn : p < n) (hW : ∀ i j, i < n → j < n → W' i j = W (if i = k then p else if i = p then k else i) j) : BdJ n A k (-s) W' last := by
 obtain ⟨N, h1, h2, h3, h4, h5, h6, h7⟩ := h
 have hsw : ∀ i j, swp N k p i j = N (if i = k then p else if i = p then k else i) j := fun i j => by
  unfold swp rw'
  by_cases e1 : i = p
  ·subst e1; rw [if_pos rfl, if_neg (by omega), if_pos rfl]
  ·rw [if_neg e1]
   by_cases e2 : i = k
   ·rw [if_pos e2, if_pos e2]
   ·rw [if_neg e2, if_neg e2, if_neg e1]
 refine ⟨swp N k p, h1, by omega, ?_, ?_, h5, fun r hr => ?_, fun i j hi hin hj hjn => ?_⟩
 ·rw [(cG n).swap N (by omega) (by omega) hpn, h3, Int.neg_mul]
 ·rw [← h4]; exact aY fun r c hr _ => by rw [hsw, if_neg (by omega), if_neg (by omega)]
 ·obtain ⟨r', h8, h9⟩ := h6 (if r = k then p else if r = p then k else r) (by split; omega; split <;> omega)
  exact ⟨r', h8, fun c => by rw [hsw]; exact h9 c⟩
 ·have hlt : (if i = k then p else if i = p then k else i) < n ∧ k ≤ (if i = k then p else if i = p then k else i) := by split; omega; split <;> omega
  rw [hW i j hin hjn, h7 _ j hlt.2 hlt.1 hj hjn]
  unfold bm
  refine aY fun r c hr hc => ?_
  unfold brd
  by_cases e : r < k
  ·rw [if_pos e, if_pos e, hsw, if_neg (show ¬ r = k by omega), if_neg (show ¬ r = p by omega)]
  ·rw [if_neg e, if_neg e, hsw]
theorem BdJ.step {n k : Nat} {A W W' : Mat} {s last : Int} (h : BdJ n A k s W last) (hk : k < n) (hz : W k k ≠ 0) (hW : ∀ i j, k < i → i < n → k < j → j < n → W' i j = (W k k * W i j - W i k * W k j) / last) : BdJ n A (k + 1) s W' (W k k) := by
 obtain ⟨N, h1, h2, h3, h4, h5, h6, h7⟩ := h
 have hkk := h7 k k (Nat.le_refl _) hk (Nat.le_refl _) hk
 refine ⟨N, hk, h2, h3, by rw [hkk, qn], hz, h6, fun i j hi hin hj hjn => ?_⟩
 rw [hW i j (by omega) hin (by omega) hjn, hkk, h7 i j (by omega) hin (by omega) hjn, h7 i k (by omega) hin (Nat.le_refl _) hk, h7 k j (Nat.le_refl _) hk (by omega) hjn]
 have := kK (M := N) (k := k) (by rw [h4]; exact h5) i j
 rw [h4] at this
 rw [← this, Int.mul_ediv_cancel _ h5]
theorem BdJ.none {n k : Nat} {A W : Mat} {s last : Int} (h : BdJ n A k s W last) (hk : k < n) (hz : ∀ i, k ≤ i → i < n → W i k = 0) : det n A = 0 := by
 obtain ⟨N, h1, h2, h3, h4, h5, h6, h7⟩ := h
 have h0 := lG (M := N) hk (by rw [h4]; exact h5) fun i hi hin => by rw [← h7 i k hi hin (Nat.le_refl _) hk]; exact hz i hi hin
 rw [h0] at h3
 rcases h2 with e | e <;> rw [e] at h3 <;> omega
theorem BdJ.fin {n : Nat} {A W : Mat} {s last : Int} (h : BdJ n A n s W last) : det n A = s * last := by
 obtain ⟨N, h1, h2, h3, h4, h5, h6, h7⟩ := h
 rw [h4] at h3
 rcases h2 with e | e <;> rw [e] at h3 ⊢ <;> omega
theorem BdJ.ne {n k : Nat} {A W : Mat} {s last : Int} (h : BdJ n A k s W last) : last ≠ 0 := by obtain ⟨N, _, _, _, _, h5, _⟩ := h; exact h5
theorem pi {n : Nat} {f : Nat → Int} {b : Nat} (h : ∀ i, i < n → (f i).natAbs ≤ b) : (sm n f).natAbs ≤ n * b := by
 induction n with
 | zero => simp [sm]
 | succ n ih =>
  rw [bG, Nat.succ_mul]
  have h1 := ih fun i hi => h i (by omega)
  have h2 := h n (by omega)
  omega
theorem iW : ∀ {n b : Nat} {M : Mat}, (∀ r c, r < n → c < n → (M r c).natAbs ≤ b) → (det n M).natAbs ≤ (n * b) ^ n
 | 0, _, _, _ => by rw [dx]; simp
 | n + 1, b, M, h => by
  rw [bK]
  have h1 : ∀ j, j < n + 1 → (sgn j * M 0 j * det n (fun r c => M (r + 1) (sk j c))).natAbs ≤ b * (n * b) ^ n := fun j hj => by
   rw [Int.natAbs_mul, Int.natAbs_mul]
   have hs : (sgn j).natAbs = 1 := by unfold sgn; split <;> rfl
   rw [hs, Nat.one_mul]
   exact Nat.mul_le_mul (h 0 j (Nat.succ_pos n) hj) (iW (n := n) (b := b) fun r c hr hc => h (r + 1) (sk j c) (show r + 1 < n + 1 by omega) (lB hc))
  refine Nat.le_trans (pi h1) ?_
  have e : (n * b) ^ n ≤ ((n + 1) * b) ^ n := Nat.pow_le_pow_left (Nat.mul_le_mul_right b (Nat.le_succ n)) n
  rw [← Nat.mul_assoc, Nat.pow_succ, Nat.mul_comm (((n + 1) * b) ^ n)]
  exact Nat.mul_le_mul_left _ e
theorem BdJ.abs {n k b : Nat} {A W : Mat} {s last : Int} (h : BdJ n A k s W last) (hb : ∀ r c, r < n → c < n → (A r c).natAbs ≤ b) : (∀ i j, k ≤ i → i < n → k ≤ j → j < n → (W i j).natAbs ≤ ((k + 1) * b) ^ (k + 1)) ∧ last.natAbs ≤ (k * b) ^ k := by
 obtain ⟨N, h1, h2, h3, h4, h5, h6, h7⟩ := h
 have hN : ∀ r c, r < n → c < n → (N r c).natAbs ≤ b := fun r c hr hc => by
  obtain ⟨r', e1, e2⟩ := h6 r hr
  rw [e2]; exact hb r' c e1 hc
 refine ⟨fun i j hi hin hj hjn => ?_, ?_⟩
 ·rw [h7 i j hi hin hj hjn]
  refine iW fun r c hr hc => ?_
  unfold brd
  exact hN _ _ (by split <;> omega) (by split <;> omega)
 ·rw [← h4]
  exact iW fun r c hr hc => hN r c (by omega) (by omega)
end Go.LA
