import Derived.Test.YtpfhfldehaiokaaGreatA16
set_option maxHeartbeats 1000000
namespace Go.Proofs.YtpfhfldehaiokaaGreat
open Go.W Go.LM
def okS (n : Nat) (s : Nat → SD) : Prop := 1 ≤ n ∧ n ≤ 16 ∧ 1 ≤ (s 0).len ∧ (s 0).len ≤ 16 ∧ ∀ i, i < n → (s i).len = (s 0).len
instance (n : Nat) (s : Nat → SD) : Decidable (okS n s) := inferInstanceAs (Decidable (_ ∧ _ ∧ _ ∧ _ ∧ _))
def shapeV (n : Nat) (s : Nat → SD) : Value := if okS n s then .tuple #[.int .i64 n, .int .i64 (s 0).len, .bool true] else .tuple #[.int .i64 0, .int .i64 0, .bool false]
theorem gN {n : Nat} {s : Nat → SD} (h : ¬ okS n s) : shapeV n s = .tuple #[.int .i64 0, .int .i64 0, .bool false] := if_neg h
theorem ms {n c : Nat} {a : Option Addr} {s : Nat → SD} {w : World} (h : Sl w a (topC n s)) :
  CallsR Tryz.prog 87 #[.slice a n c] w fun v w' => v = shapeV n s ∧ Ex w w' := by
 refine aE (args := [_]) Tryz.func87 rfl rfl ?_
 have no : ∀ {v : Value}, ¬ okS n s → v = .tuple #[.int .i64 0, .int .i64 0, .bool false] → v = shapeV n s := fun h1 e => by rw [gN h1, e]
 by_cases h1 : 1 ≤ n ∧ n ≤ 16
 ·have hp := h.plain (by rw [cv]; omega)
  repeat' (first|refine az (j := 0) rfl rfl hp (by omega) ?_|refine df (j := 0) rfl h (by omega) ?_|refine aj rfl ?_|refine aa ?_|refine ak ?_|refine ai rfl ?_|refine ah ?_|refine bc rfl ?_|refine bJ rfl rfl ?_|refine bY rfl rfl ?_|refine gW rfl rfl (fun hc => ?_) (fun hc => ?_)|refine aA rfl ?_|refine aQ rfl (fun hc => ?_) (fun hc => ?_)|refine ay ?_|refine aK ?_|refine bf ?_|refine aC ?_)
  all_goals try (exfalso; omega)
  ·exact eJ rfl (rt rfl) (rt rfl) (rt rfl) ⟨no (fun hk => by unfold okS at hk; omega) rfl, Ex.refl _⟩
  ·refine aW (ι := Nat) [2, 3, 4, 7, 28, 29, 30, 31, 32, 33, 34, 35, 36] (fun i => [(28, .int .i64 (i : Int))]) (fun i w' => (i ≤ n ∧ ∀ k, k < i → (s k).len = (s 0).len) ∧ w' = w) (fun i => n - i) 0 ⟨rfl, trivial⟩ ⟨⟨by omega, fun k hk => by omega⟩, rfl⟩ ?_
   rintro i ξ w2 ⟨⟨hi, hI⟩, rfl⟩
   show CW _ _ _ _ (over [(28, .int .i64 (i : Int))] _) w2
   repeat' (first|refine az (j := i) rfl rfl hp (by omega) ?_|refine df (j := i) rfl h (by omega) ?_|refine aj rfl ?_|refine aa ?_|refine ak ?_|refine ai rfl ?_|refine ah ?_|refine bc rfl ?_|refine aV rfl rfl (by omega) (by omega) ?_|refine aQ rfl (fun hc => ?_) (fun hc => ?_)|refine ay ?_|refine aT ?_|refine aO ?_|refine aU ?_|refine aJ ?_|refine aK ?_|refine bf ?_|refine cj ?_|refine aC ?_)
   ·exact eJ rfl (rt rfl) (rt rfl) (rt rfl) ⟨no (fun hk => by have := hk.2.2.2.2 i (by omega); omega) rfl, Ex.refl _⟩
   ·refine ⟨⟨i + 1, ⟨⟨by omega, fun k hk => ?_⟩, rfl⟩, by omega, rfl, trivial⟩, (by (repeat (first|exact aG _ _ _|refine aB rfl ?_|refine ax rfl ?_|refine av rfl ?_|refine aw rfl ?_)))⟩
    by_cases hk' : k < i
    ·exact hI k hk'
    ·obtain rfl : k = i := by omega
     omega
   ·obtain rfl : i = n := by omega
    refine eJ rfl (rt rfl) (rt rfl) (rt rfl) ⟨?_, Ex.refl _⟩
    unfold shapeV
    rw [if_pos ⟨h1.1, h1.2, by omega, by omega, hI⟩]; rfl
  ·exact eJ rfl (rt rfl) (rt rfl) (rt rfl) ⟨no (fun hk => by unfold okS at hk; omega) rfl, Ex.refl _⟩
 ·repeat' (first|refine aj rfl ?_|refine aa ?_|refine ak ?_|refine ai rfl ?_|refine ah ?_|refine bc rfl ?_|refine bJ rfl rfl ?_|refine bY rfl rfl ?_|refine gW rfl rfl (fun hc => ?_) (fun hc => ?_)|refine aA rfl ?_|refine aQ rfl (fun hc => ?_) (fun hc => ?_)|refine aK ?_|refine bf ?_|refine aC ?_)
  all_goals try (exfalso; omega)
  all_goals exact eJ rfl (rt rfl) (rt rfl) (rt rfl) ⟨no (fun hk => h1 ⟨hk.1, hk.2.1⟩) rfl, Ex.refl _⟩
theorem jf {n c : Nat} {a : Option Addr} {s : Nat → SD} {w : World} (h : Sl w a (topC n s)) :
  CallsR Tryz.prog 48 #[.slice a n c] w fun v w' => v = shapeV n s ∧ Ex w w' := by
 refine aE (args := [_]) Tryz.func48 rfl rfl ?_
 repeat' (first|refine aj rfl ?_|refine aa ?_|refine ak ?_|refine ai rfl ?_|refine ah ?_)
 refine au (ms h) rfl ?_
 rintro v w2 ⟨rfl, hE⟩
 refine tvv ?_
 unfold shapeV
 split
 ·repeat' (first|refine aj rfl ?_|refine aa ?_|refine ah ?_|refine aK ?_)
  exact eJ rfl (rt rfl) (rt rfl) (rt rfl) ⟨rfl, hE⟩
 ·repeat' (first|refine aj rfl ?_|refine aa ?_|refine ah ?_|refine aK ?_)
  exact eJ rfl (rt rfl) (rt rfl) (rt rfl) ⟨rfl, hE⟩
theorem xx {cn : Bool} {K r c : Nat} {w : World} {a : Option Addr} {s : Nat → SD} {F : Nat → Nat → Int} (h : MX cn K w a r c s F) (hr : 1 ≤ r ∧ r ≤ 16) (hc : 1 ≤ c ∧ c ≤ 16) : okS r s := by
 have h0 := (h.row 0 (by omega)).len
 exact ⟨hr.1, hr.2, by omega, by omega, fun i hi => by rw [(h.row i hi).len, h0]⟩
theorem eK {cn : Bool} {K r c : Nat} {w : World} {a : Option Addr} {s : Nat → SD} {F : Nat → Nat → Int} (h : MX cn K w a r c s F) (hr : 1 ≤ r ∧ r ≤ 16) (hc : 1 ≤ c ∧ c ≤ 16) : shapeV r s = .tuple #[.int .i64 r, .int .i64 c, .bool true] := by
 unfold shapeV; rw [if_pos (xx h hr hc), (h.row 0 (by omega)).len]
theorem pT {K r c fid : Nat} {first cap : Array Value} {F : Nat → Nat → Int} {w : World} (hf : Fun Tryz.prog fid) (hr : r ≤ 16) (hc : c ≤ 16) (hb : ∀ i j, i < r → j < c → (F i j).natAbs < 4294967296 ^ K)
  (hcall : ∀ (i j : Nat) (w1 : World), i < r → j < c → Ex w w1 → CallsR Tryz.prog fid (first ++ #[.int .i64 i, .int .i64 j] ++ cap) w1 fun v w2 => (∃ lo, IntC lo w2 v (F i j)) ∧ Ex w1 w2) :
  CallsR Tryz.prog 140 #[.int .i64 r, .int .i64 c, .func (.func fid) first cap] w (RetMO K w r c F) := by
 refine aE (args := [_, _, _]) Tryz.func140 rfl rfl ?_
 repeat' (first|refine eC (n := r) rfl rfl (by omega) (by omega) (fun g w1 hn1 => tvv ?_)|refine aj rfl ?_|refine aa ?_|refine ak ?_|refine ai rfl ?_|refine ah ?_|refine bc rfl ?_|refine ay ?_)
 refine aW (ι := Nat × (Nat → Nat)) [8, 9, 14, 15, 16, 17, 18, 19, 20, 21, 22, 23, 24, 25, 26, 27, 28, 29, 30, 31, 32, 33, 34, 35, 36, 37, 38, 39, 40, 41] (fun t => [(14, .int .i64 (t.1 : Int))])
  (fun t w' => (t.1 ≤ r ∧ Ex w w' ∧ g < w'.heap.size) ∧ Blk w' g 50 (topC r fun i => if i < t.1 then ⟨some ⟨t.2 i, 0, none⟩, c, c⟩ else sd0) ∧ (∀ i, i < t.1 → RO true K w' w.heap.size (t.2 i) c c (F i)) ∧ (∀ i, i < t.1 → t.2 i ≠ g) ∧ ∀ i j, i < t.1 → j < t.1 → t.2 i = t.2 j → i = j) (fun t => r - t.1)
  (0, fun _ => 0) ⟨rfl, trivial⟩ ⟨⟨by omega, hn1.ex, hn1.hi⟩, hn1.blk, fun i hi => by simp only at hi; omega, fun i hi => by simp only at hi; omega, fun i j hi => by simp only at hi; omega⟩ ?_
 rintro ⟨i, gs⟩ ξ w2 ⟨⟨hi, hE2, hg2⟩, hT2, hR2, hO2, hI2⟩
 simp only at hi hT2 hR2 hO2 hI2
 have hlo := hn1.lo
 show CW _ _ _ _ (over [(14, .int .i64 (i : Int))] _) w2
 repeat' (first|refine k5 (n := c) rfl rfl (by omega) (by omega) (fun g3 w3 hn3 => tvv ?_)|refine az (j := i) rfl rfl ⟨_, _, rfl⟩ (by omega) ?_|refine aj rfl ?_|refine aa ?_|refine ak ?_|refine ai rfl ?_|refine ah ?_|refine aQ rfl (fun hc => ?_) (fun hc => ?_)|refine ay ?_|refine aT ?_|refine aO ?_|refine aU ?_|refine aK ?_|refine aC ?_)
 ·have hT3 := hT2.ext hn3.ex
  refine di (j := i) (u := ⟨some ⟨g3, 0, none⟩, c, c⟩) rfl rfl hT3 (by omega) (fun w4 hc4 hT4 => tvv ?_)
  have l3 := hn3.lo
  have hne3 : g3 ≠ g := by omega
  have hb3 := hn3.blk.chg hc4 hne3
  have hE4 := (hE2.trans hn3.ex).chg hc4 hlo
  have hTe : topC r (setF (fun k => if k < i then (⟨some ⟨gs k, 0, none⟩, c, c⟩ : SD) else sd0) i ⟨some ⟨g3, 0, none⟩, c, c⟩) = topC r (fun k => if k < i + 1 then (⟨some ⟨setF gs i g3 k, 0, none⟩, c, c⟩ : SD) else sd0) := bF fun k _ => by
   by_cases h : k = i
   ·subst h; simp [setF]
   ·by_cases h' : k < i
    ·rw [aN _ _ h, if_pos h', if_pos (by omega), aN _ _ h]
    ·rw [aN _ _ h, if_neg h', if_neg (by omega)]
  rw [hTe] at hT4
  have hR4 : ∀ k, k < i → RO true K w4 w.heap.size (gs k) c c (F k) := fun k hk => ((hR2 k hk).ext hn3.ex).gbN hT3 (dI _ _) (dx hc4) (hO2 k hk)
  have hgk : ∀ k, k < i → gs k ≠ g3 := fun k hk => by have := (hR2 k hk).lt; omega
  have s4 := hc4.size
  have l34 := hb3.lt
  repeat' (first|refine az (j := i) rfl rfl ⟨_, _, rfl⟩ (by omega) ?_|refine aZ (j := i) (a1 := some ⟨g3, 0, none⟩) (l1 := c) (c1 := c) rfl hT4.sl (by omega) (by simp [setF]) ?_|refine aj rfl ?_|refine aa ?_|refine ak ?_|refine ai rfl ?_|refine ah ?_|refine bc rfl ?_|refine ay ?_)
  refine aW (ι := Nat × (Nat → IH)) [9, 27, 28, 29, 30, 31, 32, 33, 34, 35, 36, 37, 38, 39, 40] (fun t => [(27, .int .i64 (t.1 : Int))])
   (fun t w' => (t.1 ≤ c ∧ w4.grownBy w' (some g3)) ∧ Blk w' g3 34 (rowC c t.2) ∧ ∀ j, j < t.1 → Ent true K w' (t.2 j).val (F i j)) (fun t => c - t.1)
   (0, fun _ => ih0) ⟨rfl, trivial⟩ ⟨⟨by omega, dx (Chg.refl _ _)⟩, hb3, fun j hj => by simp only at hj; omega⟩ ?_
  rintro ⟨j, h⟩ ξ2 w5 ⟨⟨hj, hG5⟩, hb5, hEn5⟩
  simp only at hj hb5 hEn5
  show CW _ _ _ _ (over [(27, .int .i64 (j : Int))] _) w5
  have hE5 : Ex w w5 := hE4.gb hG5 (fun k e => by cases e; have := hE2.size; omega)
  have hT5 := hT4.gb hG5 (fun e => hne3 (by cases e; rfl))
  haveI := hf
  repeat' (first|refine aj rfl ?_|refine aa ?_|refine ak ?_|refine ai rfl ?_|refine ah ?_|refine aV rfl rfl (by omega) (by omega) ?_|refine aQ rfl (fun hc => ?_) (fun hc => ?_)|refine ay ?_|refine aT ?_|refine aO ?_|refine aU ?_|refine aJ ?_|refine aC ?_)
  ·have hEd : Ex w5 w5.drew := (Ex.refl _).drew
   refine bn (late := [10]) (plan := [(0, none), (1, none), (2, none), (3, none), (4, none), (5, none), (6, none), (7, none), (8, some true), (9, none), (10, some false)]) (fun w' => Ex w5 w') bD (by kernel_rfl) hEd ?_
   repeat' (first|refine az (j := i) rfl rfl ⟨_, _, rfl⟩ (by omega) ?_|refine aZ (j := i) (a1 := some ⟨g3, 0, none⟩) (l1 := c) (c1 := c) rfl (fun _ h => (hT5.ext h).sl) (by omega) (by simp [setF]) ?_|refine aj rfl ?_)
   refine fh rfl (hcall i j _ (by omega) (by omega) hE5.drew) rfl ?_
   rintro v w6 ⟨⟨lo, hI⟩, hE6⟩
   refine ⟨fun _ h => h.trans hE6, ?_⟩
   have hE56 := hEd.trans hE6
   obtain ⟨x, rfl⟩ := hI.ih
   repeat' (first|refine bE (j := j) rfl rfl ⟨_, _, rfl⟩ (by omega) ?_|refine eD (j := j) (u := x) rfl rfl (hb5.ext hE56) (by omega) (fun w7 hc7 hb7 => ⟨fun h => (nomatch h), ?_⟩)|refine aj rfl ?_|refine aa ?_|refine ai rfl ?_|refine ah ?_|refine aV rfl rfl (by omega) (by omega) ?_|refine aJ ?_)
   refine ⟨⟨(j + 1, setF h j x), ⟨⟨by simp only; omega, dQ (dQ hG5 (kz hE56) (fun k e => (nomatch e))) (dx hc7) (fun k e => .inl e)⟩, hb7, fun k hk => ?_⟩, by simp only; omega, rfl, trivial⟩, (by (repeat (first|exact aG _ _ _|refine aB rfl ?_|refine ax rfl ?_|refine av rfl ?_|refine aw rfl ?_)))⟩
   simp only at hk
   by_cases hkj : k = j
   ·subst hkj
    simp only [aI]
    exact (Ent.of hI (hb i k (by omega) (by omega))).gbN (hb5.ext hE56) (cU _ _) (dx hc7)
   ·simp only [aN _ _ hkj]
    exact ((hEn5 k (by omega)).ext hE56).gbN (hb5.ext hE56) (cU _ _) (dx hc7)
  ·obtain rfl : j = c := by omega
   refine ⟨⟨(i + 1, setF gs i g3), ⟨⟨by simp only; omega, hE5, by have := hG5.size; omega⟩, hT5, fun k hk => ?_, fun k hk => ?_, fun k k' hk hk' he => ?_⟩, by simp only; omega, rfl, trivial⟩, (by (repeat (first|exact aG _ _ _|refine aB rfl ?_|refine ax rfl ?_|refine av rfl ?_|refine aw rfl ?_)))⟩
   ·simp only at hk ⊢
    by_cases hki : k = i
    ·subst hki
     rw [aI]
     exact ⟨by omega, Nat.le_refl _, h, hb5, hEn5⟩
    ·rw [aN _ _ hki]
     exact (hR4 k (by omega)).gbN hb3 (cU _ _) hG5 (hgk k (by omega))
   ·simp only at hk ⊢
    by_cases hki : k = i
    ·subst hki; rw [aI]; exact hne3
    ·rw [aN _ _ hki]; exact hO2 k (by omega)
   ·simp only at hk hk' he
    by_cases hki : k = i
    ·by_cases hki' : k' = i
     ·omega
     ·subst hki; rw [aI, aN _ _ hki'] at he; exact absurd he.symm (hgk k' (by omega))
    ·by_cases hki' : k' = i
     ·subst hki'; rw [aI, aN _ _ hki] at he; exact absurd he (hgk k (by omega))
     ·rw [aN _ _ hki, aN _ _ hki'] at he; exact hI2 k k' (by omega) (by omega) he
 ·obtain rfl : i = r := by omega
  refine bo rfl (rt rfl) ⟨g, gs, fun _ => c, rfl, ⟨hlo, ?_, hR2, hO2, hI2⟩, hE2⟩
  rw [bF (s' := fun k => if k < i then ⟨some ⟨gs k, 0, none⟩, c, c⟩ else sd0) (fun k hk => by rw [if_pos hk])]
  exact hT2
open Go.W Go.LM Go.LA
theorem Ent.lb {cn : Bool} {K : Nat} {w : World} {v : Value} {z : Int} (h : Ent cn K w v z) : Lb K z := h.k.lt
theorem RX.ent {cn : Bool} {K n j : Nat} {w : World} {s : SD} {f : Nat → Int} (h : RX cn K w s n f) (hj : j < n) : Lb K (f j) := by
 obtain ⟨hh, _, h2⟩ := h.ex; exact (h2 j hj).lb
theorem MX.lb {cn : Bool} {K r c i j : Nat} {w : World} {a : Option Addr} {s : Nat → SD} {F : Nat → Nat → Int} (h : MX cn K w a r c s F) (hi : i < r) (hj : j < c) : Lb K (F i j) := (h.row i hi).ent hj
theorem MX.get {cn : Bool} {K r c i : Nat} {w : World} {a : Option Addr} {s : Nat → SD} {F : Nat → Nat → Int} (h : MX cn K w a r c s F) (hi : i < r) (hc : 0 < c) :
  ∃ (p : Option Addr) (d : Nat) (hh : Nat → IH), s i = ⟨p, c, d⟩ ∧ c ≤ d ∧ W.plain p ∧ Sl w p (rowC c hh) ∧ ∀ j, j < c → Ent cn K w (hh j).val (F i j) := by
 have hr := h.row i hi
 obtain ⟨hh, h1, h2⟩ := hr.ex
 have hl := hr.len
 have hc' := hr.cap
 have hp := hr.plain hc
 refine ⟨(s i).a, (s i).cap, hh, ?_, hc', hp, h1, h2⟩
 cases hs : s i with
 | mk a l c' => rw [hs] at hl; simp only at hl; rw [hl]
def setM (F : Nat → Nat → Int) (i j : Nat) (z : Int) : Nat → Nat → Int := fun a b => if a = i ∧ b = j then z else F a b
theorem pU (F : Nat → Nat → Int) (i j : Nat) (z : Int) : setM F i j z i = setF (F i) j z := by funext b; simp [setM, setF]
theorem rS (F : Nat → Nat → Int) {i k : Nat} (j : Nat) (z : Int) (h : k ≠ i) : setM F i j z k = F k := by funext b; simp [setM, h]
theorem sS (lo : Nat) (w : World) : IntC lo w ih0.val 0 :=
 ⟨false, none, 0, [], rfl, ⟨Sl.nil _ _, Nat.le_refl _, fun d hd => by simp at hd, by simp⟩, rfl, rfl, fun e => (nomatch e), fun ad e => (nomatch e)⟩
structure MP (cn : Bool) (K : Nat) (w : World) (lo g r c i : Nat) (gs cap : Nat → Nat) (F : Nat → Nat → Int) : Prop where
 low : lo ≤ g
 top : Blk w g 50 (topC r fun k => if k < i then ⟨some ⟨gs k, 0, none⟩, c, cap k⟩ else sd0)
 row : ∀ k, k < i → RO cn K w lo (gs k) (cap k) c (F k)
 off : ∀ k, k < i → gs k ≠ g
 inj : ∀ k l, k < i → l < i → gs k = gs l → k = l
section
variable {cn : Bool} {K r c lo g i : Nat} {w w' : World} {gs cap : Nat → Nat} {F F' : Nat → Nat → Int}
theorem MP.start (hn : Blk w g 50 (topC r fun _ => sd0)) (hlo : lo ≤ g) : MP cn K w lo g r c 0 gs cap F :=
 ⟨hlo, hn, fun k hk => by omega, fun k hk => by omega, fun k l hk => by omega⟩
theorem MP.lt (h : MP cn K w lo g r c i gs cap F) : g < w.heap.size := h.top.lt
theorem MP.fin (h : MP cn K w lo g r c r gs cap F) : MO cn K w lo g r c gs cap F :=
 ⟨h.low, by rw [bF (s' := fun k => if k < r then ⟨some ⟨gs k, 0, none⟩, c, cap k⟩ else sd0) (fun k hk => by rw [if_pos hk])]; exact h.top, h.row, h.off, h.inj⟩
theorem MP.snoc {w2 w3 w4 : World} {g3 cp : Nat} {f0 : Nat → IH} (h : MP cn K w2 lo g r c i gs cap F) (hn : New w2 w3 g3 34 (rowC cp f0)) (hc : Chg g w3 w4)
  (hT : Blk w4 g 50 (topC r (setF (fun k => if k < i then ⟨some ⟨gs k, 0, none⟩, c, cap k⟩ else sd0) i ⟨some ⟨g3, 0, none⟩, c, cp⟩))) (hlo : lo ≤ g3) :
  Blk w4 g3 34 (rowC cp f0) ∧ g3 ≠ g ∧ Blk w4 g 50 (topC r fun k => if k < i + 1 then ⟨some ⟨setF gs i g3 k, 0, none⟩, c, setF cap i cp k⟩ else sd0) ∧
   ∀ w5, w4.grownBy w5 (some g3) → Blk w5 g 50 (topC r fun k => if k < i + 1 then ⟨some ⟨setF gs i g3 k, 0, none⟩, c, setF cap i cp k⟩ else sd0) ∧ (RO cn K w5 lo g3 cp c (F i) → MP cn K w5 lo g r c (i + 1) (setF gs i g3) (setF cap i cp) F) := by
 have l3 := hn.lo
 have lg := h.lt
 have hne : g3 ≠ g := by omega
 have hb := hn.blk.chg hc hne
 have hTe : topC r (setF (fun k => if k < i then (⟨some ⟨gs k, 0, none⟩, c, cap k⟩ : SD) else sd0) i ⟨some ⟨g3, 0, none⟩, c, cp⟩) = topC r (fun k => if k < i + 1 then (⟨some ⟨setF gs i g3 k, 0, none⟩, c, setF cap i cp k⟩ : SD) else sd0) := bF fun k _ => by
  by_cases hk : k = i
  ·subst hk; simp [setF]
  ·by_cases h' : k < i
   ·rw [aN _ _ hk, if_pos h', if_pos (by omega), aN _ _ hk, aN _ _ hk]
   ·rw [aN _ _ hk, if_neg h', if_neg (by omega)]
 rw [hTe] at hT
 have hT3 := h.top.ext hn.ex
 have hgk : ∀ k, k < i → gs k ≠ g3 := fun k hk => by have := (h.row k hk).lt; omega
 have hR4 : ∀ k, k < i → RO cn K w4 lo (gs k) (cap k) c (F k) := fun k hk => ((h.row k hk).ext hn.ex).gbN hT3 (dI _ _) (dx hc) (h.off k hk)
 refine ⟨hb, hne, hT, fun w5 hG => ?_⟩
 have hT5 := hT.gb hG (fun e => hne (by cases e; rfl))
 refine ⟨hT5, fun hR => ⟨h.low, hT5, fun k hk => ?_, fun k hk => ?_, fun k k' hk hk' he => ?_⟩⟩
 ·by_cases hki : k = i
  ·subst hki; rw [aI, aI]; exact hR
  ·rw [aN _ _ hki, aN _ _ hki]
   exact (hR4 k (by omega)).gbN hb (cU _ _) hG (hgk k (by omega))
 ·by_cases hki : k = i
  ·subst hki; rw [aI]; exact hne
  ·rw [aN _ _ hki]; exact h.off k (by omega)
 ·by_cases hki : k = i
  ·by_cases hki' : k' = i
   ·omega
   ·subst hki; rw [aI, aN _ _ hki'] at he; exact absurd he.symm (hgk k' (by omega))
  ·by_cases hki' : k' = i
   ·subst hki'; rw [aI, aN _ _ hki] at he; exact absurd he (hgk k (by omega))
   ·rw [aN _ _ hki, aN _ _ hki'] at he; exact h.inj k k' (by omega) (by omega) he
theorem MO.put {j : Nat} {hh : Nat → IH} {u : IH} {z : Int} (h : MO cn K w lo g r c gs cap F) (hi : i < r) (hb : Blk w (gs i) 34 (rowC (cap i) hh)) (he : ∀ j, j < c → Ent cn K w (hh j).val (F i j)) (hu : Ent cn K w u.val z)
  (hg : Chg (gs i) w w') (hb' : Blk w' (gs i) 34 (rowC (cap i) (setF hh j u))) : MO cn K w' lo g r c gs cap (setM F i j z) := by
 refine ⟨h.low, h.top.chg hg (fun e => h.off i hi e.symm), fun k hk => ?_, h.off, h.inj⟩
 by_cases hki : k = i
 ·subst hki; rw [pU]; exact RO.put (h.row k hk).low (h.row k hk).le hb he hu hg hb'
 ·rw [rS _ _ _ hki]; exact (h.row k hk).gbN hb (cU _ _) (dx hg) (fun e => hki (h.inj k i hk hi e))
theorem MO.get {k : Nat} (h : MO cn K w lo g r c gs cap F) (hk : k < r) : ∃ hh : Nat → IH, Blk w (gs k) 34 (rowC (cap k) hh) ∧ c ≤ cap k ∧ ∀ j, j < c → Ent cn K w (hh j).val (F k j) := by
 obtain ⟨hh, h1, h2⟩ := (h.row k hk).ex; exact ⟨hh, h1, (h.row k hk).le, h2⟩
def swp2 (i j k : Nat) : Nat := if k = i then j else if k = j then i else k
theorem iY {i j k n : Nat} (hi : i < n) (hj : j < n) (hk : k < n) : swp2 i j k < n := by unfold swp2; split; omega; split <;> omega
theorem uD {i j k l : Nat} (h : swp2 i j k = swp2 i j l) : k = l := by
 have inv : ∀ m, swp2 i j (swp2 i j m) = m := fun m => by
  unfold swp2
  by_cases a : m = i
  ·rw [if_pos a]
   by_cases b : j = i
   ·rw [if_pos b]; omega
   ·rw [if_neg b, if_pos rfl]; omega
  ·rw [if_neg a]
   by_cases b : m = j
   ·rw [if_pos b, if_pos rfl]; omega
   ·rw [if_neg b, if_neg a, if_neg b]
 rw [← inv k, h, inv]
theorem MO.swap {j : Nat} {w1 : World} (h : MO cn K w lo g r c gs cap F) (hi : i < r) (hj : j < r) (h1 : Chg g w w1) (h2 : Chg g w1 w')
  (hb : Blk w' g 50 (topC r (setF (setF (fun k => (⟨some ⟨gs k, 0, none⟩, c, cap k⟩ : SD)) i ⟨some ⟨gs j, 0, none⟩, c, cap j⟩) j ⟨some ⟨gs i, 0, none⟩, c, cap i⟩))) :
  MO cn K w' lo g r c (fun k => gs (swp2 i j k)) (fun k => cap (swp2 i j k)) (fun k => F (swp2 i j k)) := by
 refine ⟨h.low, ?_, fun k hk => ?_, fun k hk => h.off _ (iY hi hj hk), fun k l hk hl he => uD (h.inj _ _ (iY hi hj hk) (iY hi hj hl) he)⟩
 ·rw [bF (s' := setF (setF (fun k => (⟨some ⟨gs k, 0, none⟩, c, cap k⟩ : SD)) i ⟨some ⟨gs j, 0, none⟩, c, cap j⟩) j ⟨some ⟨gs i, 0, none⟩, c, cap i⟩) (fun k hk => ?_)]
  ·exact hb
  ·unfold swp2 setF
   by_cases a : k = j
   ·subst a; by_cases b : k = i
    ·subst b; simp
    ·simp [b]
   ·by_cases b : k = i
    ·subst b; simp [a]
    ·simp [a, b]
 ·exact (h.row _ (iY hi hj hk)).gbN h.top (dI _ _) (dQ (dx h1) (dx h2) (fun _ e => .inl e)) (h.off _ (iY hi hj hk))
end
theorem Ent.up {cn : Bool} {K K' : Nat} {w : World} {v : Value} {z : Int} (h : Ent cn K w v z) (hK : K ≤ K') : Ent cn K' w v z := ⟨h.k.mono hK, h.c⟩
theorem RO.up {cn : Bool} {K K' lo g cap n : Nat} {w : World} {f : Nat → Int} (h : RO cn K w lo g cap n f) (hK : K ≤ K') : RO cn K' w lo g cap n f := by
 obtain ⟨hh, h1, h2⟩ := h.ex; exact ⟨h.low, h.le, hh, h1, fun i hi => (h2 i hi).up hK⟩
theorem RX.up {cn : Bool} {K K' n : Nat} {w : World} {s : SD} {f : Nat → Int} (h : RX cn K w s n f) (hK : K ≤ K') : RX cn K' w s n f := by
 obtain ⟨hh, h1, h2⟩ := h.ex; exact ⟨h.len, h.cap, hh, h1, fun i hi => (h2 i hi).up hK⟩
theorem MO.up {cn : Bool} {K K' r c lo g : Nat} {w : World} {gs cap : Nat → Nat} {F : Nat → Nat → Int} (h : MO cn K w lo g r c gs cap F) (hK : K ≤ K') : MO cn K' w lo g r c gs cap F := ⟨h.low, h.top, fun i hi => (h.row i hi).up hK, h.off, h.inj⟩
theorem MX.up {cn : Bool} {K K' r c : Nat} {w : World} {a : Option Addr} {s : Nat → SD} {F : Nat → Nat → Int} (h : MX cn K w a r c s F) (hK : K ≤ K') : MX cn K' w a r c s F := ⟨h.top, fun i hi => (h.row i hi).up hK⟩
theorem BdJ.lb {n k K : Nat} {A W : Mat} {s last : Int} (h : BdJ n A k s W last) (hb : ∀ r c, r < n → c < n → Lb K (A r c)) (hn : n ≤ 16) : (∀ i j, k ≤ i → i < n → k ≤ j → j < n → Lb (16 * K + 17) (W i j)) ∧ Lb (16 * K + 17) last := by
 obtain ⟨h1, h2⟩ := h.abs (b := 4294967296 ^ K) (fun r c hr hc => Nat.le_of_lt (hb r c hr hc))
 have hk : k ≤ n := by obtain ⟨N, hN⟩ := h; exact hN.1
 have key : ∀ m, m ≤ 16 → ∀ z : Int, z.natAbs ≤ (m * 4294967296 ^ K) ^ m → Lb (16 * K + 17) z := fun m hm z hz => by
  unfold Lb
  refine Nat.lt_of_le_of_lt hz ?_
  have e1 : m * 4294967296 ^ K ≤ 4294967296 ^ (K + 1) := by rw [Nat.pow_succ, Nat.mul_comm]; exact Nat.mul_le_mul_left _ (by omega)
  have e2 := Nat.pow_le_pow_left e1 m
  rw [← Nat.pow_mul] at e2
  refine Nat.lt_of_le_of_lt e2 (Nat.pow_lt_pow_right (by decide) ?_)
  have : (K + 1) * m ≤ (K + 1) * 16 := Nat.mul_le_mul_left _ hm
  omega
 refine ⟨fun i j hi hin hj hjn => key (k + 1) (by omega) _ (h1 i j hi hin hj hjn), key k (by omega) _ h2⟩
def elm (F : Mat) (last : Int) (k i j : Nat) : Mat := fun a b => if k < b ∧ (k < a ∧ a < i ∨ a = i ∧ b < j) then (F k k * F a b - F a k * F k b) / last else F a b
theorem sT (F : Mat) (last : Int) (k : Nat) (a b : Nat) : elm F last k (k + 1) (k + 1) a b = F a b := by
 unfold elm; rw [if_neg (by omega)]
theorem wj (F : Mat) (last : Int) {k i n : Nat} (hk : k < i) {a b : Nat} (hb : b < n) : elm F last k (i + 1) (k + 1) a b = elm F last k i n a b := by
 unfold elm
 by_cases h : k < b ∧ (k < a ∧ a < i ∨ a = i ∧ b < n)
 ·rw [if_pos h, if_pos (by omega)]
 ·rw [if_neg h, if_neg (by omega)]
theorem wl (F : Mat) (last : Int) {k i j : Nat} (hi : k < i) (hj : k < j) (a b : Nat) : setM (elm F last k i j) i j ((F k k * F i j - F i k * F k j) / last) a b = elm F last k i (j + 1) a b := by
 unfold setM elm
 by_cases h : a = i ∧ b = j
 ·obtain ⟨rfl, rfl⟩ := h
  rw [if_pos ⟨rfl, rfl⟩, if_pos (by omega)]
 ·rw [if_neg h]
  by_cases h' : k < b ∧ (k < a ∧ a < i ∨ a = i ∧ b < j)
  ·rw [if_pos h', if_pos (by omega)]
  ·rw [if_neg h', if_neg (by omega)]
theorem jP (F : Mat) (last : Int) {k i j a b : Nat} (h : ¬ (k < b ∧ (k < a ∧ a < i ∨ a = i ∧ b < j))) : elm F last k i j a b = F a b := if_neg h
theorem rT (F : Mat) (last : Int) {k n a b : Nat} (ha : k < a) (han : a < n) (hb : k < b) : elm F last k n (k + 1) a b = (F k k * F a b - F a k * F k b) / last := if_pos ⟨hb, .inl ⟨ha, han⟩⟩
theorem Ent.sharp {K K' : Nat} {w : World} {v : Value} {z : Int} (h : Ent true K w v z) (hz : Lb K' z) : Ent true K' w v z := Ent.of (h.c rfl) hz
theorem MO.sharp {K K' lo g r c : Nat} {w : World} {gs cap : Nat → Nat} {F : Nat → Nat → Int} (h : MO true K w lo g r c gs cap F) (hb : ∀ i j, i < r → j < c → Lb K' (F i j)) : MO true K' w lo g r c gs cap F := by
 refine ⟨h.low, h.top, fun i hi => ?_, h.off, h.inj⟩
 obtain ⟨hh, h1, h2⟩ := (h.row i hi).ex
 exact ⟨(h.row i hi).low, (h.row i hi).le, hh, h1, fun j hj => (h2 j hj).sharp (hb i j hi hj)⟩
end Go.Proofs.YtpfhfldehaiokaaGreat
namespace Go.LA
def tl (n : Nat) (H : Mat) (i : Nat) : Int := pr (n - i) fun k => H (i + k) (i + k)
def nT (c : Nat) (V P : Mat) : Mat := fun j x => sm c fun b => V j b * P x b
def bl (N : Mat) (l : Nat → Nat) (k j x : Nat) : Int := det (k + 1) fun a b => N (if a < k then a else j) (if b < k then l b else x)
def ext (l : Nat → Nat) (k ρ : Nat) : Nat → Nat := fun a => if a < k then l a else ρ
end Go.LA
namespace Go.Proofs.YtpfhfldehaiokaaGreat
open Go.W Go.LM Go.LA
theorem RX.get {cn : Bool} {K n : Nat} {w : World} {s : SD} {f : Nat → Int} (h : RX cn K w s n f) (hn : 0 < n) :
  ∃ (p : Option Addr) (d : Nat) (hh : Nat → IH), s = ⟨p, n, d⟩ ∧ n ≤ d ∧ W.plain p ∧ Sl w p (rowC n hh) ∧ ∀ j, j < n → Ent cn K w (hh j).val (f j) := by
 obtain ⟨hh, h1, h2⟩ := h.ex
 have hl := h.len
 have hc' := h.cap
 have hp := h.plain hn
 refine ⟨s.a, s.cap, hh, ?_, hc', hp, h1, h2⟩
 cases s with
 | mk a l c' => simp only at hl; rw [hl]
theorem yu {w w' : World} {r : Option Nat} (h : Ex w w') : w.grownBy w' r := ⟨(kz h).os, (kz h).tape, (kz h).output, (kz h).size, fun k hk _ => (kz h).block k hk (by simp)⟩
abbrev natsL (xs : List Nat) : List Value := xs.map fun (m : Nat) => Value.int .i64 m
end Go.Proofs.YtpfhfldehaiokaaGreat
namespace Go.W
def natC (n : Nat) (f : Nat → Nat) : List Value := (List.range n).map fun i => Value.int .i64 (f i : Int)
theorem nL (n : Nat) (f : Nat → Nat) : natC (n + 1) f = natC n f ++ [.int .i64 (f n : Int)] := by unfold natC; rw [List.range_succ, List.map_append]; rfl
theorem jU (n : Nat) (f : Nat → Nat) : (natC n f).length = n := by simp [natC]
theorem jv {n : Nat} {f f' : Nat → Nat} (e : ∀ i, i < n → f i = f' i) : natC n f = natC n f' := List.map_congr_left fun i hi => by rw [e i (List.mem_range.1 hi)]
theorem pZ {n : Nat} {f : Nat → Nat} {i : Nat} (hi : i < n) : (natC n f)[i]? = some (.int .i64 (f i : Int)) := by simp [natC, hi]
theorem nM {n m : Nat} {f : Nat → Nat} (hm : n ≤ m) : (natC m f).take n = natC n f := by
 unfold natC; rw [← List.map_take, List.take_range, Nat.min_eq_left hm]
theorem f4 {n m : Nat} {f g : Nat → Nat} : natC n f ++ natC m g = natC (n + m) fun i => if i < n then f i else g (i - n) := by
 induction m with
 | zero => rw [show natC 0 g = [] from rfl, List.append_nil, Nat.add_zero]; exact jv fun i hi => by rw [if_pos hi]
 | succ m ih => rw [← Nat.add_assoc, nL, nL, ← ih, List.append_assoc, if_neg (by omega), Nat.add_sub_cancel_left]
theorem qR (n : Nat) : (Builtin.zeroCells (Value.cells (.int .i64 0)) n).toList = natC n fun _ => 0 := by
 simp [Builtin.zeroCells, natC, Value.cells, Nat.mod_one]
def NatG (w : World) (lo E n : Nat) (s : SD) (f : Nat → Nat) : Prop :=
 s.len = n ∧ ((s = sd0 ∧ n = 0) ∨ ∃ g, s.a = some ⟨g, 0, none⟩ ∧ lo ≤ g ∧ n ≤ s.cap ∧ s.cap ≤ maxLen ∧ Blk w g E (natC s.cap f))
theorem NatG.nil (w : World) (lo E : Nat) (f : Nat → Nat) : NatG w lo E 0 sd0 f := ⟨rfl, .inl ⟨rfl, rfl⟩⟩
theorem NatG.gb {w w' : World} {lo E n : Nat} {s : SD} {f : Nat → Nat} {r : Option Nat} (hR : NatG w lo E n s f) (hg : w.grownBy w' r) (hne : ∀ ad, s.a = some ad → r ≠ some ad.block) : NatG w' lo E n s f := by
 refine ⟨hR.1, ?_⟩
 rcases hR.2 with h0 | ⟨g, h1, h2, h3, h4, h5⟩
 ·exact .inl h0
 ·exact .inr ⟨g, h1, h2, h3, h4, h5.gb hg (hne _ h1)⟩
theorem NatG.ext {w w' : World} {lo E n : Nat} {s : SD} {f : Nat → Nat} (hR : NatG w lo E n s f) (e : Ex w w') : NatG w' lo E n s f := hR.gb (kz e) (fun _ _ h => by cases h)
theorem NatG.lo {w : World} {lo E n : Nat} {s : SD} {f : Nat → Nat} (hR : NatG w lo E n s f) : ∀ ad, s.a = some ad → lo ≤ ad.block ∧ ad.block < w.heap.size := by
 intro ad e
 rcases hR.2 with ⟨h0, _⟩ | ⟨g, h1, h2, h3, h4, h5⟩
 ·rw [h0] at e; cases e
 ·rw [h1] at e; cases e; exact ⟨h2, h5.lt⟩
theorem NatG.sl {w : World} {lo E n : Nat} {s : SD} {f : Nat → Nat} (hR : NatG w lo E n s f) : Sl w s.a (natC n f) := by
 rcases hR.2 with ⟨h0, rfl⟩ | ⟨g, h1, h2, h3, h4, h5⟩
 ·exact Sl.nil _ _
 ·rw [h1, ← nM h3]; exact h5.sl.take _
theorem NatG.blk {w : World} {lo E n : Nat} {s : SD} {f : Nat → Nat} (hR : NatG w lo E n s f) : ∀ g, (Value.slice s.a s.len s.cap).ownBlock = some g → lo ≤ g ∧ Blk w g E (natC s.cap f) := by
 intro g e
 rcases hR.2 with ⟨h0, _⟩ | ⟨g', h1, h2, h3, h4, h5⟩
 ·rw [h0] at e; cases e
 ·rw [h1] at e; cases e; exact ⟨h2, h5⟩
theorem p6 {P : Program} {w : World} {lo E y t ty n x : Nat} {s : SD} {f : Nat → Nat} {i0 : TypeInfo} {ga : Nat} (ht : P.underlying t = some (.slice E)) (hi : P.info? E = some i0) (hz : i0.zero = some (.int .i64 0)) (hsz : i0.size = 1) (hby : i0.bytes = y)
  (hR : NatG w lo E n s f) (hx : Sl w (some ⟨ga, 0, none⟩) [.int .i64 (x : Int)]) (hm : n + 1 ≤ 9223372036854775807) (hb : (n + 1) * y ≤ 140737488355328) (hlo : lo ≤ w.heap.size) :
  ∃ s' w' f', (Builtin.append_ #[t, t] ty #[.slice s.a s.len s.cap, .slice (some ⟨ga, 0, none⟩) 1 1]).run P w = .ok (.slice s'.a s'.len s'.cap) w' ∧ NatG w' lo E (n + 1) s' f' ∧ (∀ i, i < n → f' i = f i) ∧ f' n = x ∧
   w.grownBy w' (Value.slice s.a s.len s.cap).ownBlock ∧ (s'.a = s.a ∨ ∀ ad, s'.a = some ad → w.heap.size ≤ ad.block) := by
 have e : ∀ n, (⟨ga, 0, none⟩ : Addr).add n = ⟨ga, 0 + n, none⟩ := fun n => by unfold Addr.add; split <;> simp_all
 have hnews : ∀ j u, ([.int .i64 (x : Int)] : List Value)[j]? = some u → w.cell? ((⟨ga, 0, none⟩ : Addr).add j) = some u := fun j u hu => by
  have hj : j < ([.int .i64 (x : Int)] : List Value).length := (List.getElem?_eq_some_iff.1 hu).1
  have := hx.get j hj
  rw [e]
  simp only [elt] at this
  rw [this, List.getD_eq_getElem?_getD, hu]; rfl
 have hl : ([.int .i64 (x : Int)] : List Value).length = 1 * i0.size := by rw [hsz]; rfl
 have hmax : ∀ old, grownCap w (n + 1) old E ≤ maxLen := fun old => grownCap_le_maxLen w (n + 1) old E hm
 have hge : ∀ old, n + 1 ≤ grownCap w (n + 1) old E := fun old => grownCap_ge w (n + 1) old E
 have hnew : ∀ (k : Nat), n + 1 ≤ k → (natC n f ++ [.int .i64 (x : Int)] ++ (Builtin.zeroCells (Value.cells (.int .i64 0)) (k - (n + 1))).toList) = natC k (fun i => if i < n then f i else if i = n then x else 0) := fun k hk => by
  rw [qR, show ([.int .i64 (x : Int)] : List Value) = natC 1 (fun _ => x) from rfl, f4, f4]
  rw [show n + 1 + (k - (n + 1)) = k by omega]
  refine jv fun i _ => ?_
  by_cases h1 : i < n
  ·rw [if_pos (by omega), if_pos h1, if_pos h1]
  ·by_cases h2 : i = n
   ·subst h2; rw [if_pos (by omega), if_neg (by omega), if_neg (by omega), if_pos rfl]
   ·rw [if_neg (by omega), if_neg h1, if_neg h2]
 have hgr : ∀ (o : Obj) {row : Option Nat}, w.grownBy (w.drew.alloc o) row := fun o _ => ⟨rfl, rfl, rfl, by simp, fun k hk _ => heap_alloc_old w.drew o hk⟩
 have hbl : ∀ (xs zs : List Value) (k : Nat), xs ++ zs = natC k (fun i => if i < n then f i else if i = n then x else 0) → ∀ cs : Array Value, cs.toList = xs ++ zs → Blk (w.drew.alloc (.cells cs E)) w.heap.size E (natC k (fun i => if i < n then f i else if i = n then x else 0)) := fun xs zs k e cs hcs => by
  have : cs = (natC k (fun i => if i < n then f i else if i = n then x else 0)).toArray := by rw [← e, ← hcs]
  rw [this]
  exact heap_alloc_new w.drew _
 obtain ⟨hlen, hcase⟩ := hR
 rcases hcase with ⟨rfl, rfl⟩ | ⟨g, h1, h2, h3, h4, h5⟩
 ·have hr := run_append_nil (P := P) w t ty E i0 _ ht hi hz ⟨ga, 0, none⟩ 1 1 ([.int .i64 (x : Int)] : List Value) hl hnews (by omega) (by omega) (by rw [hby]; omega)
  refine ⟨⟨some ⟨w.heap.size, 0, none⟩, 1, grownCap w 1 0 E⟩, _, fun i => if i < 0 then f i else if i = 0 then x else 0, hr, ⟨rfl, .inr ⟨_, rfl, hlo, hge 0, hmax 0, ?_⟩⟩, fun i hi => by omega, rfl, hgr _, .inr fun ad e => by cases e; exact Nat.le_refl _⟩
  have := hnew (grownCap w 1 0 E) (hge 0)
  rw [show natC 0 f = [] from rfl, List.nil_append] at this
  exact hbl _ _ _ this _ (by simp)
 ·obtain ⟨sa, sl, sc⟩ := s
  simp only at h1 hlen h3 h4 h5
  subst h1; subst hlen
  by_cases hroom : sl + 1 ≤ sc
  ·have hr := run_append_room (P := P) w t ty E i0 ht hi g sl sc _ h5 ⟨ga, 0, none⟩ 1 1 ([.int .i64 (x : Int)] : List Value) hl hnews (fun u hu => by
    simp only [List.mem_cons, List.not_mem_nil, or_false] at hu
    rw [hu]; rfl) hroom (by
    rw [hsz, List.size_toArray, jU]
    simp only [List.length_cons, List.length_nil]
    omega)
   refine ⟨⟨some ⟨g, 0, none⟩, sl + 1, sc⟩, _, fun i => if i = sl then x else f i, hr, ⟨rfl, .inr ⟨g, rfl, h2, hroom, h4, ?_⟩⟩, fun i hi => if_neg (by omega), if_pos rfl, ⟨rfl, rfl, rfl, by simp, fun k _ hk => setRow_other w g k _ (fun e => hk (by simp [Value.ownBlock, e]))⟩, .inl rfl⟩
   have hset : natC sc (fun i => if i = sl then x else f i) = (natC sc f).take sl ++ ([.int .i64 (x : Int)] : List Value) ++ (natC sc f).drop (sl + 1) := by
    rw [nM (by omega)]
    obtain ⟨d, hd⟩ : ∃ d, sc = sl + 1 + d := ⟨sc - (sl + 1), by omega⟩
    have hdrop : (natC sc f).drop (sl + 1) = natC d fun i => f (sl + 1 + i) := by
     refine List.ext_getElem? fun i => ?_
     rw [List.getElem?_drop]
     by_cases hi : i < d
     ·rw [pZ (by omega), pZ hi]
     ·rw [List.getElem?_eq_none (by rw [jU]; omega), List.getElem?_eq_none (by rw [jU]; omega)]
    rw [hdrop, show ([.int .i64 (x : Int)] : List Value) = natC 1 (fun _ => x) from rfl, f4, f4, hd]
    refine jv fun i hi => ?_
    by_cases h1 : i < sl
    ·rw [if_neg (by omega), if_pos (by omega), if_pos h1]
    ·by_cases h2 : i = sl
     ·rw [if_pos h2, if_pos (by omega), if_neg h1]
     ·rw [if_neg h2, if_neg (by omega), show sl + 1 + (i - (sl + 1)) = i by omega]
   have := setRow_heap w g (natC sc f).toArray ((natC sc f).toArray.toList.take (sl * i0.size) ++ ([.int .i64 (x : Int)] : List Value) ++ (natC sc f).toArray.toList.drop (sl * i0.size + ([.int .i64 (x : Int)] : List Value).length)).toArray E (0, 0) h5
   rw [hsz, Nat.mul_one] at this ⊢
   rw [hset]
   exact this
  ·have hcap : sc = sl := by omega
   subst hcap
   have holds : ∀ j u, (natC sc f)[j]? = some u → w.cell? ((⟨g, 0, none⟩ : Addr).add j) = some u := fun j u hu => by
    have e' : ∀ n, (⟨g, 0, none⟩ : Addr).add n = ⟨g, n, none⟩ := fun n => by unfold Addr.add; split <;> simp_all
    rw [e', h5.at]; exact hu
   have hr := run_append_grow (P := P) w t ty E i0 _ ht hi hz ⟨g, 0, none⟩ sc sc (natC sc f) (by rw [hsz, jU, Nat.mul_one]) holds ⟨ga, 0, none⟩ 1 1 ([.int .i64 (x : Int)] : List Value) hl hnews (by omega) (Int.ofNat_le.2 hm) (by rw [hby]; exact growslice_fits (by omega) hb)
   refine ⟨⟨some ⟨w.heap.size, 0, none⟩, sc + 1, grownCap w (sc + 1) sc E⟩, _, fun i => if i < sc then f i else if i = sc then x else 0, hr, ⟨rfl, .inr ⟨_, rfl, hlo, hge sc, hmax sc, ?_⟩⟩, fun i hi => if_pos hi, (if_neg (Nat.lt_irrefl _)).trans (if_pos rfl), hgr _, .inr fun ad e => by cases e; exact Nat.le_refl _⟩
   exact hbl _ _ _ (hnew (grownCap w (sc + 1) sc E) (hge sc)) _ (by simp)
section
variable {P : Program} {S : World → Prop} {ops : List Oper} {K : Env → World → Prop} {rest : List (Oper × Option Bool)} {ρ : Env} {w : World} {b : Option Bool} {kf : Bool} {d : Nat} {dst : Option Nat} {T T' : TypeId} {pos : String} {af : Array Edge}
theorem kj {T1 E y n d1 t lo u : Nat} {x : Operand} {s : SD} {f : Nat → Nat} {T2 : TypeId} {pos2 : String} {af2 : Array Edge} [hT : Slc P T1 E 1 y] [hz : Zro P E (.int .i64 0)]
  (hs : ρ t = .slice s.a s.len s.cap) (hx : ev ρ x = .int .i64 (u : Int)) (htd : Nat.beq t d1 = false)
  (hR : NatG w lo E n s f) (hm : n + 1 ≤ 9223372036854775807) (hb : (n + 1) * y ≤ 140737488355328) (hlo : lo ≤ w.heap.size)
  (h : ∀ g s' f' w', NatG w' lo E (n + 1) s' f' → (∀ i, i < n → f' i = f i) → f' n = u → w.grownBy w' (Value.slice s.a s.len s.cap).ownBlock → (s'.a = s.a ∨ ∀ x, s'.a = some x → w.heap.size ≤ x.block) →
   RR P (fun _ => True) ops K rest (upd (upd ρ d1 (.slice (some ⟨g, 0, none⟩) 1 1)) d (.slice s'.a s'.len s'.cap)) w') :
  RR P (fun _ => True) ops K ((⟨some d1, .buildSlice T1 1 #[(0, x)], T2, pos2, af2, none⟩, some false) :: (⟨some d, .call ⟨.builtin .append, #[.tmp t, .tmp d1], #[T1, T1]⟩, T, pos, af, none⟩, some false) :: rest) ρ w := by
 refine gX (E := E) (k := IntKind.i64) (u := (u : Int)) hx (fun g w1 hn => tvv ?_)
 refine dq rfl ?_
 unfold OpW
 obtain ⟨i0, hi0, hzz⟩ := Option.map_eq_some_iff.1 hT.sz
 simp only [Prod.mk.injEq] at hzz
 obtain ⟨i1, hi1, hz1⟩ := Option.map_eq_some_iff.1 hz.ok
 rw [hi0] at hi1
 simp only [Option.some.injEq] at hi1
 subst hi1
 have hsz := hn.ex.size
 obtain ⟨s', w', f', hr, h1, h2, h3, h4, h5⟩ := p6 (P := P) (ty := T) hT.un hi0 hz1 hzz.1 hzz.2 (hR.ext hn.ex) hn.blk.sl hm hb (by omega)
 have e1 : ev (upd ρ d1 (.slice (some ⟨g, 0, none⟩) 1 1)) (.tmp t) = .slice s.a s.len s.cap := by
  show upd ρ d1 _ t = _
  simp only [upd, htd, cond_false, hs]
 have e2 : ev (upd ρ d1 (.slice (some ⟨g, 0, none⟩) 1 1)) (.tmp d1) = .slice (some ⟨g, 0, none⟩) 1 1 := by
  show upd ρ d1 _ d1 = _
  rw [eR]
 have : (execOp (ev (upd ρ d1 (.slice (some ⟨g, 0, none⟩) 1 1))) ⟨some d, .call ⟨.builtin .append, #[.tmp t, .tmp d1], #[T1, T1]⟩, T, pos, af, none⟩).run P w1 = .ok (.value (.slice s'.a s'.len s'.cap)) w' := by
  simp [execOp, resolve, invoke, builtin, e1, e2, hr]
 rw [this]
 refine ⟨fun _ _ => trivial, h g s' f' w' h1 h2 h3 ?_ (h5.imp id fun hh x hx => by have := hh x hx; omega)⟩
 exact ⟨h4.os.trans hn.ex.os, h4.tape.trans hn.ex.tape, h4.output.trans hn.ex.output, by have := h4.size; omega,
  fun k hk hne => (h4.block k (by omega) hne).trans (hn.ex.block k hk)⟩
end
end Go.W
namespace Go.LA
def Perm (c : Nat) (V P : Mat) : Prop := ∀ j, j < c → ∃ b, b < c ∧ ∀ x, nT c V P j x = P x b
end Go.LA
namespace Go.Proofs.YtpfhfldehaiokaaGreat
open Go.W Go.LM Go.LA
end Go.Proofs.YtpfhfldehaiokaaGreat
namespace Go.W
theorem fo {ops : Array Oper} {listed : Array Bool} {k i : Nat} (hd : Down ops listed) (hks : k < ops.size) (hk : listed.getD k false = true) (hw : waits ops k i = true) : listed.getD i false = true := by
 have hok : ops[k]? = some ops[k] := Array.getElem?_eq_getElem hks
 simp only [waits, hok, Array.any_eq_true', Bool.and_eq_true, beq_iff_eq] at hw
 obtain ⟨e, he, hb, rfl⟩ := hw
 exact hd k _ hok hk e he hb
section
variable {P : Program} {n : Nat} {Q : Exit → Env → World → Prop} {ρ : Env} {w : World}
end
end Go.W
namespace Go.Proofs.YtpfhfldehaiokaaGreat
open Go.W Go.LM Go.LA
theorem sV (n : Nat) (f : Nat → Nat) : natC n f = natsL ((List.range n).map f) := by simp [natC, Function.comp_def]
theorem nN {n i : Nat} (f : Nat → Nat) (h : i < n) : ((List.range n).map f).getD i 0 = f i := by simp [List.getD_eq_getElem?_getD, h]
end Go.Proofs.YtpfhfldehaiokaaGreat
namespace Go.LA
end Go.LA
namespace Go.Proofs.YtpfhfldehaiokaaGreat
open Go.W Go.LM Go.LA
theorem qT {P : Program} {S : World → Prop} {ops : List Oper} {K : Env → World → Prop} {rest : List (Oper × Option Bool)} {ρ : Env} {w : World} {b : Option Bool} {d : Nat} {T T' : TypeId} {pos : String} {af : Array Edge} {x y : Operand} {k : IntKind} {m m' : Int} {T'' : TypeId}
  (hx : ev ρ x = .int k m) (hy : ev ρ y = .int k m') (hd : m ≠ m') (h : RR P S ops K rest (upd ρ d (.bool true)) w) : RR P S ops K ((⟨some d, .binOp .neq T' x y T'', T, pos, af, none⟩, b) :: rest) ρ w :=
 pm hx hy (by rw [decide_eq_true hd]; exact h)
end Go.Proofs.YtpfhfldehaiokaaGreat
