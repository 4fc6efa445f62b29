import Derived.Test.YtiejljicpinheaaA08
namespace Go.Proofs.Ytiejljicpinheaa
open Go.W Go.LM
def okS (n : Nat) (s : Nat → SD) : Prop := 1 ≤ n ∧ n ≤ 16 ∧ 1 ≤ (s 0).len ∧ (s 0).len ≤ 16 ∧ ∀ i, i < n → (s i).len = (s 0).len
instance (n : Nat) (s : Nat → SD) : Decidable (okS n s) := inferInstanceAs (Decidable (_ ∧ _ ∧ _ ∧ _ ∧ _))
def shapeV (n : Nat) (s : Nat → SD) : Value := if okS n s then .tuple #[.int .i64 n, .int .i64 (s 0).len, .bool true] else .tuple #[.int .i64 0, .int .i64 0, .bool false]
theorem eD {n : Nat} {s : Nat → SD} (h : ¬ okS n s) : shapeV n s = .tuple #[.int .i64 0, .int .i64 0, .bool false] := if_neg h
theorem cW {n c : Nat} {a : Option Addr} {s : Nat → SD} {w : World} (h : Sl w a (topC n s)) :
  CallsR Try.prog 50 #[.slice a n c] w fun v w' => v = shapeV n s ∧ Ex w w' := by
 refine aG (args := [_]) Try.func50 rfl rfl ?_
 have no : ∀ {v : Value}, ¬ okS n s → v = .tuple #[.int .i64 0, .int .i64 0, .bool false] → v = shapeV n s := fun h1 e => by rw [eD h1, e]
 by_cases h1 : 1 ≤ n ∧ n ≤ 16
 ·have hp := h.plain (by rw [bO]; omega)
  repeat' (first|refine aD (j := 0) rfl rfl hp (by omega) ?_|refine cw (j := 0) rfl h (by omega) ?_|refine ai rfl ?_|refine aa ?_|refine aj ?_|refine ah rfl ?_|refine ae ?_|refine aY rfl ?_|refine bG rfl rfl ?_|refine bP rfl rfl ?_|refine gF rfl rfl (fun hc => ?_) (fun hc => ?_)|refine aC rfl ?_|refine aM rfl (fun hc => ?_) (fun hc => ?_)|refine aB ?_|refine aK ?_|refine aX ?_|refine aF ?_)
  all_goals try (exfalso; omega)
  ·exact eI rfl (rt rfl) (rt rfl) (rt rfl) ⟨no (fun hk => by unfold okS at hk; omega) rfl, Ex.refl _⟩
  ·refine aW (ι := Nat) [2, 3, 4, 7, 28, 29, 30, 31, 32, 33, 34, 35, 36] (fun i => [(28, .int .i64 (i : Int))]) (fun i w' => (i ≤ n ∧ ∀ k, k < i → (s k).len = (s 0).len) ∧ w' = w) (fun i => n - i) 0 ⟨rfl, trivial⟩ ⟨⟨by omega, fun k hk => by omega⟩, rfl⟩ ?_
   rintro i ξ w2 ⟨⟨hi, hI⟩, rfl⟩
   show CW _ _ _ _ (over [(28, .int .i64 (i : Int))] _) w2
   repeat' (first|refine aD (j := i) rfl rfl hp (by omega) ?_|refine cw (j := i) rfl h (by omega) ?_|refine ai rfl ?_|refine aa ?_|refine aj ?_|refine ah rfl ?_|refine ae ?_|refine aY rfl ?_|refine bi rfl rfl (by omega) (by omega) ?_|refine aM rfl (fun hc => ?_) (fun hc => ?_)|refine aB ?_|refine aS ?_|refine aL ?_|refine aT ?_|refine aJ ?_|refine aK ?_|refine aX ?_|refine b6 ?_|refine aF ?_)
   ·exact eI rfl (rt rfl) (rt rfl) (rt rfl) ⟨no (fun hk => by have := hk.2.2.2.2 i (by omega); omega) rfl, Ex.refl _⟩
   ·refine ⟨⟨i + 1, ⟨⟨by omega, fun k hk => ?_⟩, rfl⟩, by omega, rfl, trivial⟩, (by (repeat (first|exact aH _ _ _|refine ax rfl ?_|refine av rfl ?_|refine ak rfl ?_|refine ao rfl ?_)))⟩
    by_cases hk' : k < i
    ·exact hI k hk'
    ·obtain rfl : k = i := by omega
     omega
   ·obtain rfl : i = n := by omega
    refine eI rfl (rt rfl) (rt rfl) (rt rfl) ⟨?_, Ex.refl _⟩
    unfold shapeV
    rw [if_pos ⟨h1.1, h1.2, by omega, by omega, hI⟩]; rfl
  ·exact eI rfl (rt rfl) (rt rfl) (rt rfl) ⟨no (fun hk => by unfold okS at hk; omega) rfl, Ex.refl _⟩
 ·repeat' (first|refine ai rfl ?_|refine aa ?_|refine aj ?_|refine ah rfl ?_|refine ae ?_|refine aY rfl ?_|refine bG rfl rfl ?_|refine bP rfl rfl ?_|refine gF rfl rfl (fun hc => ?_) (fun hc => ?_)|refine aC rfl ?_|refine aM rfl (fun hc => ?_) (fun hc => ?_)|refine aK ?_|refine aX ?_|refine aF ?_)
  all_goals try (exfalso; omega)
  all_goals exact eI rfl (rt rfl) (rt rfl) (rt rfl) ⟨no (fun hk => h1 ⟨hk.1, hk.2.1⟩) rfl, Ex.refl _⟩
theorem dZ {n c : Nat} {a : Option Addr} {s : Nat → SD} {w : World} (h : Sl w a (topC n s)) :
  CallsR Try.prog 25 #[.slice a n c] w fun v w' => v = shapeV n s ∧ Ex w w' := by
 refine aG (args := [_]) Try.func25 rfl rfl ?_
 repeat' (first|refine ai rfl ?_|refine aa ?_|refine aj ?_|refine ah rfl ?_|refine ae ?_)
 refine aw (cW h) rfl ?_
 rintro v w2 ⟨rfl, hE⟩
 refine ⟨fun _ _ => trivial, ?_⟩
 unfold shapeV
 split
 ·repeat' (first|refine ai rfl ?_|refine aa ?_|refine ae ?_|refine aK ?_)
  exact eI rfl (rt rfl) (rt rfl) (rt rfl) ⟨rfl, hE⟩
 ·repeat' (first|refine ai rfl ?_|refine aa ?_|refine ae ?_|refine aK ?_)
  exact eI rfl (rt rfl) (rt rfl) (rt rfl) ⟨rfl, hE⟩
theorem sV {cn : Bool} {K r c : Nat} {w : World} {a : Option Addr} {s : Nat → SD} {F : Nat → Nat → Int} (h : MX cn K w a r c s F) (hr : 1 ≤ r ∧ r ≤ 16) (hc : 1 ≤ c ∧ c ≤ 16) : okS r s := by
 have h0 := (h.row 0 (by omega)).len
 exact ⟨hr.1, hr.2, by omega, by omega, fun i hi => by rw [(h.row i hi).len, h0]⟩
theorem cK {cn : Bool} {K r c : Nat} {w : World} {a : Option Addr} {s : Nat → SD} {F : Nat → Nat → Int} (h : MX cn K w a r c s F) (hr : 1 ≤ r ∧ r ≤ 16) (hc : 1 ≤ c ∧ c ≤ 16) : shapeV r s = .tuple #[.int .i64 r, .int .i64 c, .bool true] := by
 unfold shapeV; rw [if_pos (sV h hr hc), (h.row 0 (by omega)).len]
set_option maxHeartbeats 1000000 in
theorem e8 {K r c fid : Nat} {first cap : Array Value} {F : Nat → Nat → Int} {w : World} (hf : Fun Try.prog fid) (hr : r ≤ 16) (hc : c ≤ 16) (hb : ∀ i j, i < r → j < c → (F i j).natAbs < 4294967296 ^ K)
  (hcall : ∀ (i j : Nat) (w1 : World), i < r → j < c → Ex w w1 → CallsR Try.prog fid (first ++ #[.int .i64 i, .int .i64 j] ++ cap) w1 fun v w2 => (∃ lo, IntC lo w2 v (F i j)) ∧ Ex w1 w2) :
  CallsR Try.prog 83 #[.int .i64 r, .int .i64 c, .func (.func fid) first cap] w (RetMO K w r c F) := by
 refine aG (args := [_, _, _]) Try.func83 rfl rfl ?_
 repeat' (first|refine dE (n := r) rfl rfl (by omega) (by omega) (fun g w1 hn1 => ⟨fun _ _ => trivial, ?_⟩)|refine ai rfl ?_|refine aa ?_|refine aj ?_|refine ah rfl ?_|refine ae ?_|refine aY rfl ?_|refine aB ?_)
 refine aW (ι := Nat × (Nat → Nat)) [8, 9, 14, 15, 16, 17, 18, 19, 20, 21, 22, 23, 24, 25, 26, 27, 28, 29, 30, 31, 32, 33, 34, 35, 36, 37, 38, 39, 40, 41] (fun t => [(14, .int .i64 (t.1 : Int))])
  (fun t w' => (t.1 ≤ r ∧ Ex w w' ∧ g < w'.heap.size) ∧ Blk w' g 30 (topC r fun i => if i < t.1 then ⟨some ⟨t.2 i, 0, none⟩, c, c⟩ else sd0) ∧ (∀ i, i < t.1 → RO true K w' w.heap.size (t.2 i) c c (F i)) ∧ (∀ i, i < t.1 → t.2 i ≠ g) ∧ ∀ i j, i < t.1 → j < t.1 → t.2 i = t.2 j → i = j) (fun t => r - t.1)
  (0, fun _ => 0) ⟨rfl, trivial⟩ ⟨⟨by omega, hn1.ex, hn1.hi⟩, hn1.blk, fun i hi => by simp only at hi; omega, fun i hi => by simp only at hi; omega, fun i j hi => by simp only at hi; omega⟩ ?_
 rintro ⟨i, gs⟩ ξ w2 ⟨⟨hi, hE2, hg2⟩, hT2, hR2, hO2, hI2⟩
 simp only at hi hT2 hR2 hO2 hI2
 have hlo := hn1.lo
 show CW _ _ _ _ (over [(14, .int .i64 (i : Int))] _) w2
 repeat' (first|refine et (n := c) rfl rfl (by omega) (by omega) (fun g3 w3 hn3 => ⟨fun _ _ => trivial, ?_⟩)|refine aD (j := i) rfl rfl ⟨_, _, rfl⟩ (by omega) ?_|refine ai rfl ?_|refine aa ?_|refine aj ?_|refine ah rfl ?_|refine ae ?_|refine aM rfl (fun hc => ?_) (fun hc => ?_)|refine aB ?_|refine aS ?_|refine aL ?_|refine aT ?_|refine aK ?_|refine aF ?_)
 ·have hT3 := hT2.ext hn3.ex
  refine cg (j := i) (u := ⟨some ⟨g3, 0, none⟩, c, c⟩) rfl rfl hT3 (by omega) (fun w4 hc4 hT4 => ⟨fun _ _ => trivial, ?_⟩)
  have l3 := hn3.lo
  have hne3 : g3 ≠ g := by omega
  have hb3 := hn3.blk.chg hc4 hne3
  have hE4 := (hE2.trans hn3.ex).chg hc4 hlo
  have hTe : topC r (setF (fun k => if k < i then (⟨some ⟨gs k, 0, none⟩, c, c⟩ : SD) else sd0) i ⟨some ⟨g3, 0, none⟩, c, c⟩) = topC r (fun k => if k < i + 1 then (⟨some ⟨setF gs i g3 k, 0, none⟩, c, c⟩ : SD) else sd0) := bV fun k _ => by
   by_cases h : k = i
   ·subst h; simp [setF]
   ·by_cases h' : k < i
    ·rw [aQ _ _ h, if_pos h', if_pos (by omega), aQ _ _ h]
    ·rw [aQ _ _ h, if_neg h', if_neg (by omega)]
  rw [hTe] at hT4
  have hR4 : ∀ k, k < i → RO true K w4 w.heap.size (gs k) c c (F k) := fun k hk => ((hR2 k hk).ext hn3.ex).gbN hT3 (bW _ _) (bp hc4) (hO2 k hk)
  have hgk : ∀ k, k < i → gs k ≠ g3 := fun k hk => by have := (hR2 k hk).lt; omega
  have s4 := hc4.size
  have l34 := hb3.lt
  repeat' (first|refine aD (j := i) rfl rfl ⟨_, _, rfl⟩ (by omega) ?_|refine aZ (j := i) (a1 := some ⟨g3, 0, none⟩) (l1 := c) (c1 := c) rfl hT4.sl (by omega) (by simp [setF]) ?_|refine ai rfl ?_|refine aa ?_|refine aj ?_|refine ah rfl ?_|refine ae ?_|refine aY rfl ?_|refine aB ?_)
  refine aW (ι := Nat × (Nat → IH)) [9, 27, 28, 29, 30, 31, 32, 33, 34, 35, 36, 37, 38, 39, 40] (fun t => [(27, .int .i64 (t.1 : Int))])
   (fun t w' => (t.1 ≤ c ∧ w4.grownBy w' (some g3)) ∧ Blk w' g3 49 (rowC c t.2) ∧ ∀ j, j < t.1 → Ent true K w' (t.2 j).val (F i j)) (fun t => c - t.1)
   (0, fun _ => ih0) ⟨rfl, trivial⟩ ⟨⟨by omega, bp (Chg.refl _ _)⟩, hb3, fun j hj => by simp only at hj; omega⟩ ?_
  rintro ⟨j, h⟩ ξ2 w5 ⟨⟨hj, hG5⟩, hb5, hEn5⟩
  simp only at hj hb5 hEn5
  show CW _ _ _ _ (over [(27, .int .i64 (j : Int))] _) w5
  have hE5 : Ex w w5 := hE4.gb hG5 (fun k e => by cases e; have := hE2.size; omega)
  have hT5 := hT4.gb hG5 (fun e => hne3 (by cases e; rfl))
  haveI := hf
  repeat' (first|refine ai rfl ?_|refine aa ?_|refine aj ?_|refine ah rfl ?_|refine ae ?_|refine bi rfl rfl (by omega) (by omega) ?_|refine aM rfl (fun hc => ?_) (fun hc => ?_)|refine aB ?_|refine aS ?_|refine aL ?_|refine aT ?_|refine aJ ?_|refine aF ?_)
  ·have hEd : Ex w5 w5.drew := (Ex.refl _).drew
   refine bn (late := [10]) (plan := [(0, none), (1, none), (2, none), (3, none), (4, none), (5, none), (6, none), (7, none), (8, some true), (9, none), (10, some false)]) (fun w' => Ex w5 w') bC (by kernel_rfl) hEd ?_
   repeat' (first|refine aD (j := i) rfl rfl ⟨_, _, rfl⟩ (by omega) ?_|refine aZ (j := i) (a1 := some ⟨g3, 0, none⟩) (l1 := c) (c1 := c) rfl (fun _ h => (hT5.ext h).sl) (by omega) (by simp [setF]) ?_|refine ai rfl ?_)
   refine rn rfl (hcall i j _ (by omega) (by omega) hE5.drew) rfl ?_
   rintro v w6 ⟨⟨lo, hI⟩, hE6⟩
   refine ⟨fun _ h => h.trans hE6, ?_⟩
   have hE56 := hEd.trans hE6
   obtain ⟨x, rfl⟩ := hI.ih
   repeat' (first|refine bj (j := j) rfl rfl ⟨_, _, rfl⟩ (by omega) ?_|refine cF (j := j) (u := x) rfl rfl (hb5.ext hE56) (by omega) (fun w7 hc7 hb7 => ⟨fun h => (nomatch h), ?_⟩)|refine ai rfl ?_|refine aa ?_|refine ah rfl ?_|refine ae ?_|refine bi rfl rfl (by omega) (by omega) ?_|refine aJ ?_)
   refine ⟨⟨(j + 1, setF h j x), ⟨⟨by simp only; omega, bJ (bJ hG5 (kA hE56) (fun k e => (nomatch e))) (bp hc7) (fun k e => .inl e)⟩, hb7, fun k hk => ?_⟩, by simp only; omega, rfl, trivial⟩, (by (repeat (first|exact aH _ _ _|refine ax rfl ?_|refine av rfl ?_|refine ak rfl ?_|refine ao rfl ?_)))⟩
   simp only at hk
   by_cases hkj : k = j
   ·subst hkj
    simp only [aN]
    exact (Ent.of hI (hb i k (by omega) (by omega))).gbN (hb5.ext hE56) (bI _ _) (bp hc7)
   ·simp only [aQ _ _ hkj]
    exact ((hEn5 k (by omega)).ext hE56).gbN (hb5.ext hE56) (bI _ _) (bp hc7)
  ·obtain rfl : j = c := by omega
   refine ⟨⟨(i + 1, setF gs i g3), ⟨⟨by simp only; omega, hE5, by have := hG5.size; omega⟩, hT5, fun k hk => ?_, fun k hk => ?_, fun k k' hk hk' he => ?_⟩, by simp only; omega, rfl, trivial⟩, (by (repeat (first|exact aH _ _ _|refine ax rfl ?_|refine av rfl ?_|refine ak rfl ?_|refine ao rfl ?_)))⟩
   ·simp only at hk ⊢
    by_cases hki : k = i
    ·subst hki
     rw [aN]
     exact ⟨by omega, Nat.le_refl _, h, hb5, hEn5⟩
    ·rw [aQ _ _ hki]
     exact (hR4 k (by omega)).gbN hb3 (bI _ _) hG5 (hgk k (by omega))
   ·simp only at hk ⊢
    by_cases hki : k = i
    ·subst hki; rw [aN]; exact hne3
    ·rw [aQ _ _ hki]; exact hO2 k (by omega)
   ·simp only at hk hk' he
    by_cases hki : k = i
    ·by_cases hki' : k' = i
     ·omega
     ·subst hki; rw [aN, aQ _ _ hki'] at he; exact absurd he.symm (hgk k' (by omega))
    ·by_cases hki' : k' = i
     ·subst hki'; rw [aN, aQ _ _ hki] at he; exact absurd he (hgk k (by omega))
     ·rw [aQ _ _ hki, aQ _ _ hki'] at he; exact hI2 k k' (by omega) (by omega) he
 ·obtain rfl : i = r := by omega
  refine bB rfl (rt rfl) ⟨g, gs, fun _ => c, rfl, ⟨hlo, ?_, hR2, hO2, hI2⟩, hE2⟩
  rw [bV (s' := fun k => if k < i then ⟨some ⟨gs k, 0, none⟩, c, c⟩ else sd0) (fun k hk => by rw [if_pos hk])]
  exact hT2
end Go.Proofs.Ytiejljicpinheaa
namespace Go.LA
def BdJ (n : Nat) (A : Mat) (k : Nat) (s : Int) (W : Mat) (last : Int) : Prop :=
 ∃ N : Mat, k ≤ n ∧ (s = 1 ∨ s = -1) ∧ det n N = s * det n A ∧ det k N = last ∧ last ≠ 0 ∧ (∀ r, r < n → ∃ r', r' < n ∧ ∀ c, N r c = A r' c) ∧ ∀ i j, k ≤ i → i < n → k ≤ j → j < n → W i j = bm N k i j
theorem pf (n : Nat) {A W : Mat} (h : ∀ i j, i < n → j < n → W i j = A i j) : BdJ n A 0 1 W 1 :=
 ⟨A, Nat.zero_le _, .inl rfl, by omega, rfl, by omega, fun r hr => ⟨r, hr, fun _ => rfl⟩, fun i j _ hi _ hj => by rw [ry]; exact h i j hi hj⟩
theorem BdJ.swap {n k p : Nat} {A W W' : Mat} {s last : Int} (h : BdJ n A k s W last) (hp : k < p) (hpn : p < n) (hW : ∀ i j, i < n → j < n → W' i j = W (if i = k then p else if i = p then k else i) j) : BdJ n A k (-s) W' last := by
 obtain ⟨N, h1, h2, h3, h4, h5, h6, h7⟩ := h
 have hsw : ∀ i j, swp N k p i j = N (if i = k then p else if i = p then k else i) j := fun i j => by
  unfold swp rw'
  by_cases e1 : i = p
  ·subst e1; rw [if_pos rfl, if_neg (by omega), if_pos rfl]
  ·rw [if_neg e1]
   by_cases e2 : i = k
   ·rw [if_pos e2, if_pos e2]
   ·rw [if_neg e2, if_neg e2, if_neg e1]
 refine ⟨swp N k p, h1, by omega, ?_, ?_, h5, fun r hr => ?_, fun i j hi hin hj hjn => ?_⟩
 ·rw [(cO n).swap N (by omega) (by omega) hpn, h3, Int.neg_mul]
 ·rw [← h4]; exact bo fun r c hr _ => by rw [hsw, if_neg (by omega), if_neg (by omega)]
 ·obtain ⟨r', h8, h9⟩ := h6 (if r = k then p else if r = p then k else r) (by split; omega; split <;> omega)
  exact ⟨r', h8, fun c => by rw [hsw]; exact h9 c⟩
 ·have hlt : (if i = k then p else if i = p then k else i) < n ∧ k ≤ (if i = k then p else if i = p then k else i) := by split; omega; split <;> omega
  rw [hW i j hin hjn, h7 _ j hlt.2 hlt.1 hj hjn]
  unfold bm
  refine bo fun r c hr hc => ?_
  unfold brd
  by_cases e : r < k
  ·rw [if_pos e, if_pos e, hsw, if_neg (show ¬ r = k by omega), if_neg (show ¬ r = p by omega)]
  ·rw [if_neg e, if_neg e, hsw]
theorem BdJ.step {n k : Nat} {A W W' : Mat} {s last : Int} (h : BdJ n A k s W last) (hk : k < n) (hz : W k k ≠ 0) (hW : ∀ i j, k < i → i < n → k < j → j < n → W' i j = (W k k * W i j - W i k * W k j) / last) : BdJ n A (k + 1) s W' (W k k) := by
 obtain ⟨N, h1, h2, h3, h4, h5, h6, h7⟩ := h
 have hkk := h7 k k (Nat.le_refl _) hk (Nat.le_refl _) hk
 refine ⟨N, hk, h2, h3, by rw [hkk, rB], hz, h6, fun i j hi hin hj hjn => ?_⟩
 rw [hW i j (by omega) hin (by omega) hjn, hkk, h7 i j (by omega) hin (by omega) hjn, h7 i k (by omega) hin (Nat.le_refl _) hk, h7 k j (Nat.le_refl _) hk (by omega) hjn]
 have := ly (M := N) (k := k) (by rw [h4]; exact h5) i j
 rw [h4] at this
 rw [← this, Int.mul_ediv_cancel _ h5]
theorem BdJ.none {n k : Nat} {A W : Mat} {s last : Int} (h : BdJ n A k s W last) (hk : k < n) (hz : ∀ i, k ≤ i → i < n → W i k = 0) : det n A = 0 := by
 obtain ⟨N, h1, h2, h3, h4, h5, h6, h7⟩ := h
 have h0 := mw (M := N) hk (by rw [h4]; exact h5) fun i hi hin => by rw [← h7 i k hi hin (Nat.le_refl _) hk]; exact hz i hi hin
 rw [h0] at h3
 rcases h2 with e | e <;> rw [e] at h3 <;> omega
theorem BdJ.fin {n : Nat} {A W : Mat} {s last : Int} (h : BdJ n A n s W last) : det n A = s * last := by
 obtain ⟨N, h1, h2, h3, h4, h5, h6, h7⟩ := h
 rw [h4] at h3
 rcases h2 with e | e <;> rw [e] at h3 ⊢ <;> omega
theorem BdJ.ne {n k : Nat} {A W : Mat} {s last : Int} (h : BdJ n A k s W last) : last ≠ 0 := by obtain ⟨N, _, _, _, _, h5, _⟩ := h; exact h5
theorem qH {n : Nat} {f : Nat → Int} {b : Nat} (h : ∀ i, i < n → (f i).natAbs ≤ b) : (sm n f).natAbs ≤ n * b := by
 induction n with
 | zero => simp [sm]
 | succ n ih =>
  rw [bR, Nat.succ_mul]
  have h1 := ih fun i hi => h i (by omega)
  have h2 := h n (by omega)
  omega
theorem jy : ∀ {n b : Nat} {M : Mat}, (∀ r c, r < n → c < n → (M r c).natAbs ≤ b) → (det n M).natAbs ≤ (n * b) ^ n
 | 0, _, _, _ => by rw [dO]; simp
 | n + 1, b, M, h => by
  rw [bU]
  have h1 : ∀ j, j < n + 1 → (sgn j * M 0 j * det n (fun r c => M (r + 1) (sk j c))).natAbs ≤ b * (n * b) ^ n := fun j hj => by
   rw [Int.natAbs_mul, Int.natAbs_mul]
   have hs : (sgn j).natAbs = 1 := by unfold sgn; split <;> rfl
   rw [hs, Nat.one_mul]
   exact Nat.mul_le_mul (h 0 j (Nat.succ_pos n) hj) (jy (n := n) (b := b) fun r c hr hc => h (r + 1) (sk j c) (show r + 1 < n + 1 by omega) (mq hc))
  refine Nat.le_trans (qH h1) ?_
  have e : (n * b) ^ n ≤ ((n + 1) * b) ^ n := Nat.pow_le_pow_left (Nat.mul_le_mul_right b (Nat.le_succ n)) n
  rw [← Nat.mul_assoc, Nat.pow_succ, Nat.mul_comm (((n + 1) * b) ^ n)]
  exact Nat.mul_le_mul_left _ e
theorem BdJ.abs {n k b : Nat} {A W : Mat} {s last : Int} (h : BdJ n A k s W last) (hb : ∀ r c, r < n → c < n → (A r c).natAbs ≤ b) : (∀ i j, k ≤ i → i < n → k ≤ j → j < n → (W i j).natAbs ≤ ((k + 1) * b) ^ (k + 1)) ∧ last.natAbs ≤ (k * b) ^ k := by
 obtain ⟨N, h1, h2, h3, h4, h5, h6, h7⟩ := h
 have hN : ∀ r c, r < n → c < n → (N r c).natAbs ≤ b := fun r c hr hc => by
  obtain ⟨r', e1, e2⟩ := h6 r hr
  rw [e2]; exact hb r' c e1 hc
 refine ⟨fun i j hi hin hj hjn => ?_, ?_⟩
 ·rw [h7 i j hi hin hj hjn]
  refine jy fun r c hr hc => ?_
  unfold brd
  exact hN _ _ (by split <;> omega) (by split <;> omega)
 ·rw [← h4]
  exact jy fun r c hr hc => hN r c (by omega) (by omega)
end Go.LA
namespace Go.LA
def Lb (e : Nat) (z : Int) : Prop := z.natAbs < 4294967296 ^ e
section
variable {e e' n : Nat} {x y : Int}
theorem Lb.mono (h : Lb e x) (he : e ≤ e') : Lb e' x := Nat.lt_of_lt_of_le h (Nat.pow_le_pow_right (by decide) he)
theorem jz : Lb e 0 := Nat.pow_pos (by decide)
theorem ch (h : x.natAbs < 4294967296) (he : 1 ≤ e) : Lb e x := Nat.lt_of_lt_of_le h (by rw [show (4294967296 : Nat) = 4294967296 ^ 1 from rfl]; exact Nat.pow_le_pow_right (by decide) he)
theorem Lb.neg (h : Lb e x) : Lb e (-x) := by unfold Lb; rw [Int.natAbs_neg]; exact h
theorem Lb.mul (h : Lb e x) (h' : Lb e' y) : Lb (e + e') (x * y) := by
 unfold Lb at *
 rw [Int.natAbs_mul, Nat.pow_add]
 exact Nat.mul_lt_mul'' h h'
theorem Lb.add (h : Lb e x) (h' : Lb e y) : Lb (e + 1) (x + y) := by
 unfold Lb at *
 have := Int.natAbs_add_le x y
 rw [Nat.pow_succ]; omega
theorem Lb.sub (h : Lb e x) (h' : Lb e y) : Lb (e + 1) (x - y) := by rw [Int.sub_eq_add_neg]; exact h.add h'.neg
theorem oF {x : Int} {m : Nat} (hx : x ≤ 0) : x / ((m : Int) + 1) ≤ 0 := by
 by_cases h : x / ((m : Int) + 1) ≤ 0
 ·exact h
 ·exfalso
  have h1 := Int.ediv_mul_le x (b := (m : Int) + 1) (by omega)
  have h2 : 1 * ((m : Int) + 1) ≤ x / ((m : Int) + 1) * ((m : Int) + 1) := Int.mul_le_mul_of_nonneg_right (by omega) (by omega)
  omega
theorem eN (x y : Int) : (x / y).natAbs ≤ x.natAbs := by
 rcases Int.lt_trichotomy y 0 with h | h | h
 ·obtain ⟨m, rfl⟩ : ∃ m : Nat, y = -((m : Int) + 1) := ⟨(-y - 1).toNat, by omega⟩
  rw [Int.ediv_neg, Int.natAbs_neg]
  rcases Int.le_total 0 x with hx | hx
  ·obtain ⟨k, rfl⟩ := Int.eq_ofNat_of_zero_le hx
   have : ((k : Int) / ((m : Int) + 1)) = ((k / (m + 1) : Nat) : Int) := by simp
   rw [this, Int.natAbs_natCast, Int.natAbs_natCast]; exact Nat.div_le_self _ _
  ·have h1 : x / ((m : Int) + 1) ≤ 0 := oF hx
   have h2 : x ≤ x / ((m : Int) + 1) := by
    have := Int.ediv_mul_le x (b := (m : Int) + 1) (by omega)
    have h3 := Int.lt_ediv_add_one_mul_self x (b := (m : Int) + 1) (by omega)
    by_cases h4 : x ≤ x / ((m : Int) + 1)
    ·exact h4
    ·exfalso
     have h5 : x / ((m : Int) + 1) + 1 ≤ x := by omega
     have h6 : (x / ((m : Int) + 1) + 1) * ((m : Int) + 1) ≤ (x / ((m : Int) + 1) + 1) * 1 := Int.mul_le_mul_of_nonpos_left (by omega) (by omega)
     omega
   omega
 ·subst h; simp
 ·obtain ⟨m, rfl⟩ : ∃ m : Nat, y = ((m : Int) + 1) := ⟨(y - 1).toNat, by omega⟩
  rcases Int.le_total 0 x with hx | hx
  ·obtain ⟨k, rfl⟩ := Int.eq_ofNat_of_zero_le hx
   have : ((k : Int) / ((m : Int) + 1)) = ((k / (m + 1) : Nat) : Int) := by simp
   rw [this, Int.natAbs_natCast, Int.natAbs_natCast]; exact Nat.div_le_self _ _
  ·have h1 : x / ((m : Int) + 1) ≤ 0 := oF hx
   have h2 : x ≤ x / ((m : Int) + 1) := by
    have h3 := Int.lt_ediv_add_one_mul_self x (b := (m : Int) + 1) (by omega)
    by_cases h4 : x ≤ x / ((m : Int) + 1)
    ·exact h4
    ·exfalso
     have h5 : x / ((m : Int) + 1) + 1 ≤ x := by omega
     have h6 : (x / ((m : Int) + 1) + 1) * ((m : Int) + 1) ≤ (x / ((m : Int) + 1) + 1) * 1 := Int.mul_le_mul_of_nonpos_left (by omega) (by omega)
     omega
   omega
theorem Lb.div (h : Lb e x) (y : Int) : Lb e (x / y) := Nat.lt_of_le_of_lt (eN x y) h
theorem Lb.mod (h : Lb e y) (x : Int) (h0 : y ≠ 0) : Lb e (x % y) := by
 unfold Lb at *
 have h1 := Int.emod_nonneg x h0
 have h2 := Int.emod_lt x h0
 omega
theorem Lb.le (h : Lb e y) (hx : x.natAbs ≤ y.natAbs) : Lb e x := Nat.lt_of_le_of_lt hx h
theorem Lb.sm {f : Nat → Int} (h : ∀ i, i < n → Lb e (f i)) (hn : n ≤ 4294967296) : Lb (e + 1) (sm n f) := by
 rcases Nat.eq_zero_or_pos n with rfl | h0
 ·exact jz
 ·have := qH (n := n) (f := f) (b := 4294967296 ^ e - 1) (fun i hi => by have := h i hi; unfold Lb at this; omega)
  unfold Lb
  have hp : 0 < 4294967296 ^ e := Nat.pow_pos (by decide)
  refine Nat.lt_of_le_of_lt this ?_
  rw [Nat.pow_succ, Nat.mul_comm]
  refine Nat.lt_of_lt_of_le (Nat.mul_lt_mul_of_pos_right (show 4294967296 ^ e - 1 < 4294967296 ^ e by omega) h0) (Nat.mul_le_mul_left _ hn)
theorem Lb.det {M : Mat} (h : ∀ r c, r < n → c < n → Lb e (M r c)) (hn : n ≤ 4294967296) : Lb ((e + 1) * n + 1) (det n M) := by
 have := jy (n := n) (b := 4294967296 ^ e) (M := M) (fun r c hr hc => Nat.le_of_lt (h r c hr hc))
 unfold Lb
 refine Nat.lt_of_le_of_lt this ?_
 have h1 : n * 4294967296 ^ e ≤ 4294967296 ^ (e + 1) := by rw [Nat.pow_succ, Nat.mul_comm]; exact Nat.mul_le_mul_left _ hn
 have h2 := Nat.pow_le_pow_left h1 n
 rw [← Nat.pow_mul] at h2
 refine Nat.lt_of_le_of_lt h2 ?_
 exact Nat.pow_lt_pow_right (by decide) (by omega)
theorem fP {f g : Nat → Int} (h : ∀ i, i < n → Lb e (f i)) (h' : ∀ i, i < n → Lb e' (g i)) (hn : n ≤ 4294967296) : Lb (e + e' + 1) (Go.LA.sm n fun i => f i * g i) := Lb.sm (fun i hi => (h i hi).mul (h' i hi)) hn
end
end Go.LA
namespace Go.Proofs.Ytiejljicpinheaa
open Go.W Go.LM Go.LA
theorem Ent.lb {cn : Bool} {K : Nat} {w : World} {v : Value} {z : Int} (h : Ent cn K w v z) : Lb K z := h.k.lt
theorem RX.ent {cn : Bool} {K n j : Nat} {w : World} {s : SD} {f : Nat → Int} (h : RX cn K w s n f) (hj : j < n) : Lb K (f j) := by
 obtain ⟨hh, _, h2⟩ := h.ex; exact (h2 j hj).lb
theorem MX.lb {cn : Bool} {K r c i j : Nat} {w : World} {a : Option Addr} {s : Nat → SD} {F : Nat → Nat → Int} (h : MX cn K w a r c s F) (hi : i < r) (hj : j < c) : Lb K (F i j) := (h.row i hi).ent hj
theorem MX.get {cn : Bool} {K r c i : Nat} {w : World} {a : Option Addr} {s : Nat → SD} {F : Nat → Nat → Int} (h : MX cn K w a r c s F) (hi : i < r) (hc : 0 < c) :
  ∃ (p : Option Addr) (d : Nat) (hh : Nat → IH), s i = ⟨p, c, d⟩ ∧ c ≤ d ∧ W.plain p ∧ Sl w p (rowC c hh) ∧ ∀ j, j < c → Ent cn K w (hh j).val (F i j) := by
 have hr := h.row i hi
 obtain ⟨hh, h1, h2⟩ := hr.ex
 have hl := hr.len
 have hc' := hr.cap
 have hp := hr.plain hc
 refine ⟨(s i).a, (s i).cap, hh, ?_, hc', hp, h1, h2⟩
 cases hs : s i with
 | mk a l c' => rw [hs] at hl; simp only at hl; rw [hl]
theorem jp {cn : Bool} {K r c i j cap gm Tm : Nat} {w : World} {a : Option Addr} {s : Nat → SD} {F : Nat → Nat → Int} (hM : MX cn K w a r c s F) (hb : Blk w gm Tm [.slice a r cap]) (hi : i < c) (hj : j < r) :
  CallsR Try.prog 94 #[.int .i64 i, .int .i64 j, .pointer (some ⟨gm, 0, none⟩)] w fun v w' => (∃ lo, IntC lo w' v (F j i)) ∧ Ex w w' := by
 obtain ⟨p, d, hh, e1, e2, hp, hS, hEn⟩ := hM.get hj (by omega)
 refine aG (args := [_, _, _]) Try.func94 rfl rfl ?_
 repeat' (first|refine aE (fun g1 w1 hn1 => ⟨fun _ _ => trivial, ?_⟩)|refine aU (g := gm) rfl (hb.ext hn1.ex) rfl ?_|refine aD (j := j) rfl rfl (hM.plain (by omega)) (by omega) ?_|refine aZ (j := j) rfl ((hM.ext hn1.ex).top) (by omega) e1 ?_|refine bj (j := i) rfl rfl hp hi ?_|refine bD (j := i) rfl (hS.ext hn1.ex) hp hi ?_|refine ai rfl ?_|refine aa ?_|refine aj ?_|refine ah rfl ?_|refine ae ?_)
 refine aw (cY ((hEn i hi).ext hn1.ex).k) rfl ?_
 rintro v w2 ⟨hI, hE2⟩
 refine ⟨fun _ _ => trivial, ?_⟩
 obtain ⟨x, rfl⟩ := hI.ih
 have hb1 : Blk w1 g1 49 (intL false none 0 0) := hn1.blk
 refine au (n := 2) (vs := x.cells) rfl rfl rfl rfl (hb1.ext hE2) rfl (fun w3 hc3 hb3 => ⟨fun _ _ => trivial, ?_⟩)
 repeat' (first|refine aa ?_|refine ae ?_|refine aK ?_)
 exact bB rfl (rc rfl rfl hb3) ⟨⟨_, hI.gbN (hb1.ext hE2) (aA _ _ _ _) (bp hc3)⟩, (hn1.ex.trans hE2).chg hc3 hn1.lo⟩
theorem eO {cn : Bool} {K r c cap : Nat} {w : World} {a : Option Addr} {s : Nat → SD} {F : Nat → Nat → Int} (hM : MX cn K w a r c s F) (hr : 1 ≤ r ∧ r ≤ 16) (hc : 1 ≤ c ∧ c ≤ 16) :
  CallsR Try.prog 63 #[.slice a r cap] w fun v w' => ∃ u, v = .tuple #[u, .bool true] ∧ RetMO K w c r (fun i j => F j i) u w' := by
 refine aG (args := [_]) Try.func63 rfl rfl ?_
 repeat' (first|refine jI rfl rfl (fun g1 w1 hn1 => ⟨fun _ _ => trivial, ?_⟩)|refine aU rfl hn1.blk rfl ?_|refine ai rfl ?_|refine aa ?_|refine aj ?_|refine ah rfl ?_|refine ae ?_)
 refine aw (cW (hM.ext hn1.ex).top) rfl ?_
 rintro v w2 ⟨rfl, hE2⟩
 refine ⟨fun _ _ => trivial, ?_⟩
 rw [cK hM hr hc]
 have hE := hn1.ex.trans hE2
 repeat' (first|refine ig ?_|refine ai rfl ?_|refine aa ?_|refine aj ?_|refine ah rfl ?_|refine ae ?_|refine ay rfl ?_|refine aF ?_)
 have hb2 := hn1.blk.ext hE2
 refine aw (e8 (K := K) (fid := 94) (first := #[]) (cap := #[.pointer (some ⟨g1, 0, none⟩)]) (F := fun i j => F j i) inferInstance (by omega) (by omega) (fun i j hi hj => hM.lb hj hi)
  (fun i j w1 hi hj hEx => jp (hM.ext (hE.trans hEx)) (hb2.ext hEx) hi hj)) rfl ?_
 rintro v w3 ⟨g, gs, cp, rfl, hO, hE3⟩
 refine ⟨fun _ _ => trivial, ?_⟩
 repeat' (first|refine ai rfl ?_|refine aa ?_|refine ae ?_|refine aK ?_)
 exact cR rfl (rt rfl) (rt rfl) ⟨_, rfl, g, gs, cp, rfl, hO.mono hE.size, hE.trans hE3⟩
end Go.Proofs.Ytiejljicpinheaa
namespace Go.Proofs.Ytiejljicpinheaa
open Go.W Go.LM Go.LA
theorem pg {cn cn' : Bool} {K1 K2 r n c i j ca cb gn ga gb Tn Ta Tb : Nat} {w : World} {a b : Option Addr} {s s' : Nat → SD} {A B : Nat → Nat → Int} (hA : MX cn K1 w a r n s A) (hB : MX cn' K2 w b n c s' B)
  (hn : Blk w gn Tn [.int .i64 n]) (ha : Blk w ga Ta [.slice a r ca]) (hb : Blk w gb Tb [.slice b n cb]) (hn16 : n ≤ 16) (hK : K1 + K2 + 1 < 17592186044416) (hi : i < r) (hj : j < c) :
  CallsR Try.prog 84 #[.int .i64 i, .int .i64 j, .pointer (some ⟨gn, 0, none⟩), .pointer (some ⟨ga, 0, none⟩), .pointer (some ⟨gb, 0, none⟩)] w fun v w' => (∃ lo, IntC lo w' v (mm n A B i j)) ∧ Ex w w' := by
 refine aG (args := [_, _, _, _, _]) Try.func84 rfl rfl ?_
 refine aj ?_
 refine ah rfl ?_
 refine aE (fun g1 w1 hn1 => ⟨fun _ _ => trivial, ?_⟩)
 repeat' (first|refine cC (cs := intL false none 0 0) rfl ?_|refine aa ?_|refine aj ?_|refine ah rfl ?_|refine ae ?_)
 refine aE (fun g2 w2 hn2 => ⟨fun _ _ => trivial, ?_⟩)
 have hb1 : Blk w1 g1 49 (intL false none 0 0) := hn1.blk
 have hb2 : Blk w2 g2 49 (intL false none 0 0) := hn2.blk
 have hE2 := hn1.ex.trans hn2.ex
 have lo1 := hn1.lo
 have hi1 := hn1.hi
 have lo2 := hn2.lo
 have s2 := hE2.size
 refine au (n := 2) (vs := ih0.cells) rfl rfl rfl rfl hb2 rfl (fun w3 hc3 hb3 => ⟨fun _ _ => trivial, ?_⟩)
 have hE3 := hE2.chg hc3 (by have := hn1.ex.size; omega)
 have hb13 := (hb1.ext hn2.ex).chg hc3 (by omega)
 repeat' (first|refine aU (g := gn) rfl (hn.ext hE3) rfl ?_|refine ai rfl ?_|refine aa ?_|refine aj ?_|refine ah rfl ?_|refine ae ?_|refine aB ?_)
 refine aW (ι := Nat × IH) [9, 12, 13, 14, 15, 16, 17, 18, 19, 20, 21, 22, 23, 24, 25, 26, 27, 28, 29, 30, 31, 32] (fun t => [(12, .int .i64 (t.1 : Int))])
  (fun t w' => t.1 ≤ n ∧ Blk w' g2 49 t.2.cells ∧ Ent true (K1 + K2 + 1) w' t.2.val (sm t.1 fun k => A i k * B k j) ∧ Ex w w' ∧ Blk w' g1 49 (intL false none 0 0)) (fun t => n - t.1)
  (0, ih0) ⟨rfl, trivial⟩ ⟨by omega, hb3, kt _, hE3, hb13⟩ ?_
 rintro ⟨k, x⟩ ξ w4 ⟨hk, hb4, hx, hE4, hb14⟩
 simp only at hk hb4 hx
 show CW _ _ _ _ (over [(12, .int .i64 (k : Int))] _) w4
 repeat' (first|refine ai rfl ?_|refine aa ?_|refine aj ?_|refine ah rfl ?_|refine ae ?_|refine aM rfl (fun hc => ?_) (fun hc => ?_)|refine aB ?_|refine aS ?_|refine aL ?_|refine aT ?_|refine aF ?_)
 ·obtain ⟨pa, da, fa, e1, _, hpa, hSa, hEa⟩ := hA.get hi (by omega)
  obtain ⟨pb, db, fb, e1', _, hpb, hSb, hEb⟩ := hB.get (i := k) (by omega) (by omega)
  have hEd : Ex w4 w4.drew := (Ex.refl _).drew
  have hkn : k < n := by omega
  refine bn (late := [17]) (plan := [(0, none), (1, none), (2, none), (3, none), (4, none), (5, none), (6, none), (7, none), (8, none), (9, none), (10, none), (11, none), (12, none), (13, none), (14, none), (15, some true), (16, some true), (17, some false)]) (fun w' => Ex w4 w') bC (by kernel_rfl) hEd ?_
  repeat' (first|refine aR (g := g2) rfl (fun _ h => hb4.ext h) rfl ?_|refine aU (g := ga) rfl (fun _ h => (ha.ext hE4).ext h) rfl ?_|refine aU (g := gb) rfl (fun _ h => (hb.ext hE4).ext h) rfl ?_|refine aD (j := i) rfl rfl (hA.plain (by omega)) (by omega) ?_|refine aD (j := k) rfl rfl (hB.plain (by omega)) (by omega) ?_|refine aZ (j := i) rfl (fun _ h => ((hA.ext hE4).ext h).top) (by omega) e1 ?_|refine aZ (j := k) rfl (fun _ h => ((hB.ext hE4).ext h).top) (by omega) e1' ?_|refine bj (j := k) rfl rfl hpa hkn ?_|refine bj (j := j) rfl rfl hpb hj ?_|refine bD (j := k) rfl (fun _ h => (hSa.ext hE4).ext h) hpa hkn ?_|refine bD (j := j) rfl (fun _ h => (hSb.ext hE4).ext h) hpb hj ?_|refine ai rfl ?_)
  refine aw (cI ((hEa k hkn).ext hE4.drew).k ((hEb j hj).ext hE4.drew).k (by omega)) rfl ?_
  rintro v w5 ⟨hI5, hE5⟩
  refine ⟨fun _ h => h.trans hE5, ?_⟩
  have l5 := ((hEa k hkn).lb).mul ((hEb j hj).lb)
  refine aw (fB ((hx.ext hEd).ext hE5).k (hI5.k l5) (by omega) (by omega)) rfl ?_
  rintro v w6 ⟨hI6, hE6⟩
  refine ⟨fun _ h => h.trans hE6, ?_⟩
  obtain ⟨y, rfl⟩ := hI6.ih
  have hE46 := (hEd.trans hE5).trans hE6
  have hb6 := hb4.ext hE46
  refine au (n := 2) (vs := y.cells) rfl rfl rfl rfl hb6 rfl (fun w7 hc7 hb7 => ⟨fun h => (nomatch h), ?_⟩)
  repeat' (first|refine ai rfl ?_|refine aa ?_|refine ah rfl ?_|refine ae ?_|refine bi rfl rfl (by omega) (by omega) ?_|refine aJ ?_)
  have ls : Lb (K1 + K2 + 1) (sm (k + 1) fun k => A i k * B k j) := fP (fun m hm => hA.lb hi (by omega)) (fun m hm => hB.lb (by omega) hj) (by omega)
  have s1' := hE46.size
  refine ⟨⟨(k + 1, y), ⟨by simp only; omega, hb7, (Ent.of hI6 ls).gbN hb6 (aA _ _ _ _) (bp hc7), (hE4.trans hE46).chg hc7 (by have := hn1.ex.size; omega), (hb14.ext hE46).chg hc7 (by omega)⟩, by simp only; omega, rfl, trivial⟩, (by (repeat (first|exact aH _ _ _|refine ax rfl ?_|refine av rfl ?_|refine ak rfl ?_|refine ao rfl ?_)))⟩
 ·obtain rfl : k = n := by omega
  refine aR (g := g2) rfl hb4 rfl ?_
  refine au (n := 2) (vs := x.cells) rfl rfl rfl rfl hb14 rfl (fun w7 hc7 hb7 => ⟨fun _ _ => trivial, ?_⟩)
  repeat' (first|refine aa ?_|refine ae ?_|refine aK ?_)
  exact bB rfl (rc rfl rfl hb7) ⟨⟨0, (hx.c rfl).gbN hb14 (aA _ _ _ _) (bp hc7)⟩, hE4.chg hc7 hn1.lo⟩
theorem kR {cn cn' : Bool} {K1 K2 r n c ca cb : Nat} {w : World} {a b : Option Addr} {s s' : Nat → SD} {A B : Nat → Nat → Int} (hA : MX cn K1 w a r n s A) (hB : MX cn' K2 w b n c s' B)
  (hr : 1 ≤ r ∧ r ≤ 16) (hn : 1 ≤ n ∧ n ≤ 16) (hc : 1 ≤ c ∧ c ≤ 16) (hK : K1 + K2 + 1 < 17592186044416) :
  CallsR Try.prog 56 #[.slice a r ca, .slice b n cb] w fun v w' => ∃ u, v = .tuple #[u, .bool true] ∧ RetMO (K1 + K2 + 1) w r c (mm n A B) u w' := by
 refine aG (args := [_, _]) Try.func56 rfl rfl ?_
 refine aj ?_
 refine ah rfl ?_
 refine jI rfl rfl (fun g1 w1 hn1 => ⟨fun _ _ => trivial, ?_⟩)
 refine jI rfl rfl (fun g2 w2 hn2 => ⟨fun _ _ => trivial, ?_⟩)
 have hb1 := hn1.blk.ext hn2.ex
 have hb2 := hn2.blk
 have hE2 := hn1.ex.trans hn2.ex
 repeat' (first|refine aU (g := g1) rfl hb1 rfl ?_|refine ai rfl ?_|refine aa ?_|refine aj ?_|refine ah rfl ?_|refine ae ?_)
 refine aw (cW (hA.ext hE2).top) rfl ?_
 rintro v w3 ⟨rfl, hE3⟩
 refine ⟨fun _ _ => trivial, ?_⟩
 rw [cK hA hr hn]
 repeat' (first|refine ai rfl ?_)
 refine aE (fun g4 w4 hn4 => ⟨fun _ _ => trivial, ?_⟩)
 have hb4 : Blk w4 g4 3 [.int .i64 0] := hn4.blk
 repeat' (first|refine mn (g := g4) rfl rfl rfl hb4 rfl (fun w5 hc5 hb5 => ⟨fun _ _ => trivial, ?_⟩)|refine ai rfl ?_|refine aa ?_|refine aj ?_|refine ah rfl ?_|refine ae ?_)
 have s1 := hn1.ex.size
 have lo4 := hn4.lo
 have s3 := hE3.size
 have l1 := hb1.lt
 have l2 := hb2.lt
 have hE5 := ((hE2.trans hE3).trans hn4.ex).chg hc5 (by have := hE2.size; omega)
 have hb15 := ((hb1.ext hE3).ext hn4.ex).chg hc5 (by omega)
 have hb25 := ((hb2.ext hE3).ext hn4.ex).chg hc5 (by omega)
 refine aU (g := g2) rfl hb25 rfl ?_
 refine aw (cW (hB.ext hE5).top) rfl ?_
 rintro v w6 ⟨rfl, hE6⟩
 refine ⟨fun _ _ => trivial, ?_⟩
 rw [cK hB hn hc]
 repeat' (first|refine aU (g := g4) rfl (hb5.ext hE6) rfl ?_|refine dq rfl rfl rfl ?_|refine ig ?_|refine ai rfl ?_|refine aa ?_|refine aj ?_|refine ah rfl ?_|refine ae ?_|refine bG rfl rfl ?_|refine ay rfl ?_|refine aF ?_)
 have hE := hE5.trans hE6
 have b1 := hb15.ext hE6
 have b2 := hb25.ext hE6
 have b5 : Blk w6 g4 3 [.int .i64 n] := hb5.ext hE6
 refine aw (e8 (K := K1 + K2 + 1) (fid := 84) (first := #[]) (cap := #[.pointer (some ⟨g4, 0, none⟩), .pointer (some ⟨g1, 0, none⟩), .pointer (some ⟨g2, 0, none⟩)]) (F := mm n A B) inferInstance (by omega) (by omega)
  (fun i j hi hj => fP (fun m hm => hA.lb hi hm) (fun m hm => hB.lb hm hj) (by omega))
  (fun i j w1 hi hj hEx => pg (hA.ext (hE.trans hEx)) (hB.ext (hE.trans hEx)) (b5.ext hEx) (b1.ext hEx) (b2.ext hEx) hn.2 hK hi hj)) rfl ?_
 rintro v w7 ⟨g, gs, cp, rfl, hO, hE7⟩
 refine ⟨fun _ _ => trivial, ?_⟩
 repeat' (first|refine ai rfl ?_|refine aa ?_|refine ae ?_|refine aK ?_)
 exact cR rfl (rt rfl) (rt rfl) ⟨_, rfl, g, gs, cp, rfl, hO.mono hE.size, hE.trans hE7⟩
end Go.Proofs.Ytiejljicpinheaa
namespace Go.Proofs.Ytiejljicpinheaa
open Go.W Go.LM Go.LA
theorem lJ {K i j gm Tm : Nat} {w : World} {x : IH} {z : Int} (hx : IntK K w x.val z) (hb : Blk w gm Tm x.cells) :
  CallsR Try.prog 112 #[.int .i64 i, .int .i64 j, .pointer (some ⟨gm, 0, none⟩)] w fun v w' => (∃ lo, IntC lo w' v (if i = j then z else 0)) ∧ Ex w w' := by
 refine aG (args := [_, _, _]) Try.func112 rfl rfl ?_
 repeat' (first|refine aE (fun g1 w1 hn1 => ⟨fun _ _ => trivial, ?_⟩)|refine aR (g := gm) rfl (hb.ext hn1.ex) rfl ?_|refine cC (cs := intL false none 0 0) rfl ?_|refine ai rfl ?_|refine aa ?_|refine aj ?_|refine ah rfl ?_|refine ae ?_|refine aM rfl (fun hc => ?_) (fun hc => ?_)|refine aF ?_)
 ·have hb1 : Blk w1 g1 49 (intL false none 0 0) := hn1.blk
  have hij : i = j := by omega
  refine aw (cY (hx.ext hn1.ex)) rfl ?_
  rintro v w2 ⟨hI, hE2⟩
  refine ⟨fun _ _ => trivial, ?_⟩
  obtain ⟨y, rfl⟩ := hI.ih
  refine au (n := 2) (vs := y.cells) rfl rfl rfl rfl (hb1.ext hE2) rfl (fun w3 hc3 hb3 => ⟨fun _ _ => trivial, ?_⟩)
  repeat' (first|refine aa ?_|refine ae ?_|refine aK ?_|refine aX ?_)
  refine bB rfl (rc rfl rfl hb3) ⟨⟨w1.heap.size, ?_⟩, (hn1.ex.trans hE2).chg hc3 hn1.lo⟩
  rw [if_pos hij]
  exact hI.gbN (hb1.ext hE2) (aA _ _ _ _) (bp hc3)
 ·have hb1 : Blk w1 g1 49 (intL false none 0 0) := hn1.blk
  have hij : ¬ i = j := by omega
  refine au (n := 2) (vs := ih0.cells) rfl rfl rfl rfl hb1 rfl (fun w3 hc3 hb3 => ⟨fun _ _ => trivial, ?_⟩)
  repeat' (first|refine aa ?_|refine ae ?_|refine aK ?_)
  refine bB rfl (rc rfl rfl hb3) ⟨⟨0, ?_⟩, hn1.ex.chg hc3 hn1.lo⟩
  rw [if_neg hij]
  exact (kt (cn := true) (K := 0) w3).c rfl
theorem mW {K n : Nat} {w : World} {v : Value} {z : Int} (hz : IntK K w v z) (hn : n ≤ 16) :
  CallsR Try.prog 107 #[.int .i64 n, v] w (RetMO K w n n fun i j => if i = j then z else 0) := by
 have hlt := hz.lt
 obtain ⟨x, rfl⟩ : ∃ x : IH, v = x.val := by
  obtain ⟨neg, a, c, ls, rfl, _⟩ := hz
  exact ⟨⟨neg, ⟨a, ls.length, c⟩⟩, rfl⟩
 refine aG (args := [_, _]) Try.func107 rfl rfl ?_
 repeat' (first|refine bH (vs := x.cells) rfl (fun g1 w1 hn1 => ⟨fun _ _ => trivial, ?_⟩)|refine ig ?_|refine ai rfl ?_|refine aa ?_|refine aj ?_|refine ah rfl ?_|refine ae ?_)
 refine aw (e8 (K := K) (fid := 112) (first := #[]) (cap := #[.pointer (some ⟨g1, 0, none⟩)]) (F := fun i j => if i = j then z else 0) inferInstance (by omega) (by omega)
  (fun i j hi hj => by split; exact hlt; exact Nat.pow_pos (by decide))
  (fun i j w1' hi hj hEx => lJ (hz.ext (hn1.ex.trans hEx)) (hn1.blk.ext hEx))) rfl ?_
 rintro v w7 ⟨g, gs, cp, rfl, hO, hE7⟩
 refine ⟨fun _ _ => trivial, ?_⟩
 repeat' (first|refine ai rfl ?_|refine aa ?_|refine ae ?_|refine aK ?_)
 exact bB rfl (rt rfl) ⟨g, gs, cp, rfl, hO.mono hn1.ex.size, hn1.ex.trans hE7⟩
theorem ku {cn : Bool} {K r c i j cap gm Tm : Nat} {w : World} {a : Option Addr} {s : Nat → SD} {F : Nat → Nat → Int} (hM : MX cn K w a r c s F) (hb : Blk w gm Tm [.slice a r cap]) (hi : i < r) (hj : j < c) :
  CallsR Try.prog 108 #[.int .i64 i, .int .i64 j, .pointer (some ⟨gm, 0, none⟩)] w fun v w' => (∃ lo, IntC lo w' v (- F i j)) ∧ Ex w w' := by
 obtain ⟨p, d, hh, e1, e2, hp, hS, hEn⟩ := hM.get hi (by omega)
 refine aG (args := [_, _, _]) Try.func108 rfl rfl ?_
 repeat' (first|refine aE (fun g1 w1 hn1 => ⟨fun _ _ => trivial, ?_⟩)|refine aU (g := gm) rfl (hb.ext hn1.ex) rfl ?_|refine aD (j := i) rfl rfl (hM.plain (by omega)) (by omega) ?_|refine aZ (j := i) rfl ((hM.ext hn1.ex).top) (by omega) e1 ?_|refine bj (j := j) rfl rfl hp hj ?_|refine bD (j := j) rfl (hS.ext hn1.ex) hp hj ?_|refine ai rfl ?_|refine aa ?_|refine aj ?_|refine ah rfl ?_|refine ae ?_)
 refine aw (eC ((hEn j hj).ext hn1.ex).k) rfl ?_
 rintro v w2 ⟨hI, hE2⟩
 refine ⟨fun _ _ => trivial, ?_⟩
 obtain ⟨x, rfl⟩ := hI.ih
 have hb1 : Blk w1 g1 49 (intL false none 0 0) := hn1.blk
 refine au (n := 2) (vs := x.cells) rfl rfl rfl rfl (hb1.ext hE2) rfl (fun w3 hc3 hb3 => ⟨fun _ _ => trivial, ?_⟩)
 repeat' (first|refine aa ?_|refine ae ?_|refine aK ?_)
 exact bB rfl (rc rfl rfl hb3) ⟨⟨_, hI.gbN (hb1.ext hE2) (aA _ _ _ _) (bp hc3)⟩, (hn1.ex.trans hE2).chg hc3 hn1.lo⟩
theorem iy {cn : Bool} {K r c cap : Nat} {w : World} {a : Option Addr} {s : Nat → SD} {F : Nat → Nat → Int} (hM : MX cn K w a r c s F) (hr : 1 ≤ r ∧ r ≤ 16) (hc : 1 ≤ c ∧ c ≤ 16) :
  CallsR Try.prog 96 #[.slice a r cap] w (RetMO K w r c fun i j => - F i j) := by
 obtain ⟨p, d, hh, e1, e2, hp, hS, hEn⟩ := hM.get (i := 0) (by omega) (by omega)
 refine aG (args := [_]) Try.func96 rfl rfl ?_
 repeat' (first|refine jI rfl rfl (fun g1 w1 hn1 => ⟨fun _ _ => trivial, ?_⟩)|refine ai rfl ?_|refine aa ?_|refine aj ?_|refine ah rfl ?_|refine ae ?_)
 refine bn (late := []) (plan := [(0, none), (1, none), (2, none), (3, none), (4, none), (5, none), (6, none), (7, some true), (8, none)]) (fun w' => Ex w1 w') bC (by kernel_rfl) ((Ex.refl w1).drew) ?_
 repeat' (first|refine aU (g := g1) rfl (fun _ h => hn1.blk.ext h) rfl ?_|refine aD (j := 0) rfl rfl (hM.plain (by omega)) (by omega) ?_|refine aZ (j := 0) rfl (fun _ h => ((hM.ext hn1.ex).ext h).top) (by omega) e1 ?_|refine ig ?_|refine aY rfl ?_)
 have hE := hn1.ex.drew
 have hb := hn1.blk.drew
 refine aw (e8 (K := K) (fid := 108) (first := #[]) (cap := #[.pointer (some ⟨g1, 0, none⟩)]) (F := fun i j => - F i j) inferInstance (by omega) (by omega)
  (fun i j hi hj => (hM.lb hi hj).neg)
  (fun i j w1' hi hj hEx => ku (hM.ext (hE.trans hEx)) (hb.ext hEx) hi hj)) rfl ?_
 rintro v w7 ⟨g, gs, cp, rfl, hO, hE7⟩
 refine ⟨fun _ h => h.trans hE7, ?_⟩
 repeat' (first|refine ai rfl ?_|refine aa ?_|refine ae ?_|refine aK ?_)
 exact bB rfl (rt rfl) ⟨g, gs, cp, rfl, hO.mono hE.size, hE.trans hE7⟩
end Go.Proofs.Ytiejljicpinheaa
namespace Go.Proofs.Ytiejljicpinheaa
open Go.W Go.LM Go.LA
def setM (F : Nat → Nat → Int) (i j : Nat) (z : Int) : Nat → Nat → Int := fun a b => if a = i ∧ b = j then z else F a b
theorem mX (F : Nat → Nat → Int) (i j : Nat) (z : Int) : setM F i j z i = setF (F i) j z := by funext b; simp [setM, setF]
theorem oG (F : Nat → Nat → Int) {i k : Nat} (j : Nat) (z : Int) (h : k ≠ i) : setM F i j z k = F k := by funext b; simp [setM, h]
theorem iX (lo : Nat) (w : World) : IntC lo w ih0.val 0 :=
 ⟨false, none, 0, [], rfl, ⟨Sl.nil _ _, Nat.le_refl _, fun d hd => by simp at hd, by simp⟩, rfl, rfl, fun e => (nomatch e), fun ad e => (nomatch e)⟩
structure MP (cn : Bool) (K : Nat) (w : World) (lo g r c i : Nat) (gs cap : Nat → Nat) (F : Nat → Nat → Int) : Prop where
 low : lo ≤ g
 top : Blk w g 30 (topC r fun k => if k < i then ⟨some ⟨gs k, 0, none⟩, c, cap k⟩ else sd0)
 row : ∀ k, k < i → RO cn K w lo (gs k) (cap k) c (F k)
 off : ∀ k, k < i → gs k ≠ g
 inj : ∀ k l, k < i → l < i → gs k = gs l → k = l
section
variable {cn : Bool} {K r c lo g i : Nat} {w w' : World} {gs cap : Nat → Nat} {F F' : Nat → Nat → Int}
theorem MP.start (hn : Blk w g 30 (topC r fun _ => sd0)) (hlo : lo ≤ g) : MP cn K w lo g r c 0 gs cap F :=
 ⟨hlo, hn, fun k hk => by omega, fun k hk => by omega, fun k l hk => by omega⟩
theorem MP.lt (h : MP cn K w lo g r c i gs cap F) : g < w.heap.size := h.top.lt
theorem MP.fin (h : MP cn K w lo g r c r gs cap F) : MO cn K w lo g r c gs cap F :=
 ⟨h.low, by rw [bV (s' := fun k => if k < r then ⟨some ⟨gs k, 0, none⟩, c, cap k⟩ else sd0) (fun k hk => by rw [if_pos hk])]; exact h.top, h.row, h.off, h.inj⟩
theorem MP.snoc {w2 w3 w4 : World} {g3 cp : Nat} {f0 : Nat → IH} (h : MP cn K w2 lo g r c i gs cap F) (hn : New w2 w3 g3 49 (rowC cp f0)) (hc : Chg g w3 w4)
  (hT : Blk w4 g 30 (topC r (setF (fun k => if k < i then ⟨some ⟨gs k, 0, none⟩, c, cap k⟩ else sd0) i ⟨some ⟨g3, 0, none⟩, c, cp⟩))) (hlo : lo ≤ g3) :
  Blk w4 g3 49 (rowC cp f0) ∧ g3 ≠ g ∧ Blk w4 g 30 (topC r fun k => if k < i + 1 then ⟨some ⟨setF gs i g3 k, 0, none⟩, c, setF cap i cp k⟩ else sd0) ∧
   ∀ w5, w4.grownBy w5 (some g3) → Blk w5 g 30 (topC r fun k => if k < i + 1 then ⟨some ⟨setF gs i g3 k, 0, none⟩, c, setF cap i cp k⟩ else sd0) ∧ (RO cn K w5 lo g3 cp c (F i) → MP cn K w5 lo g r c (i + 1) (setF gs i g3) (setF cap i cp) F) := by
 have l3 := hn.lo
 have lg := h.lt
 have hne : g3 ≠ g := by omega
 have hb := hn.blk.chg hc hne
 have hTe : topC r (setF (fun k => if k < i then (⟨some ⟨gs k, 0, none⟩, c, cap k⟩ : SD) else sd0) i ⟨some ⟨g3, 0, none⟩, c, cp⟩) = topC r (fun k => if k < i + 1 then (⟨some ⟨setF gs i g3 k, 0, none⟩, c, setF cap i cp k⟩ : SD) else sd0) := bV fun k _ => by
  by_cases hk : k = i
  ·subst hk; simp [setF]
  ·by_cases h' : k < i
   ·rw [aQ _ _ hk, if_pos h', if_pos (by omega), aQ _ _ hk, aQ _ _ hk]
   ·rw [aQ _ _ hk, if_neg h', if_neg (by omega)]
 rw [hTe] at hT
 have hT3 := h.top.ext hn.ex
 have hgk : ∀ k, k < i → gs k ≠ g3 := fun k hk => by have := (h.row k hk).lt; omega
 have hR4 : ∀ k, k < i → RO cn K w4 lo (gs k) (cap k) c (F k) := fun k hk => ((h.row k hk).ext hn.ex).gbN hT3 (bW _ _) (bp hc) (h.off k hk)
 refine ⟨hb, hne, hT, fun w5 hG => ?_⟩
 have hT5 := hT.gb hG (fun e => hne (by cases e; rfl))
 refine ⟨hT5, fun hR => ⟨h.low, hT5, fun k hk => ?_, fun k hk => ?_, fun k k' hk hk' he => ?_⟩⟩
 ·by_cases hki : k = i
  ·subst hki; rw [aN, aN]; exact hR
  ·rw [aQ _ _ hki, aQ _ _ hki]
   exact (hR4 k (by omega)).gbN hb (bI _ _) hG (hgk k (by omega))
 ·by_cases hki : k = i
  ·subst hki; rw [aN]; exact hne
  ·rw [aQ _ _ hki]; exact h.off k (by omega)
 ·by_cases hki : k = i
  ·by_cases hki' : k' = i
   ·omega
   ·subst hki; rw [aN, aQ _ _ hki'] at he; exact absurd he.symm (hgk k' (by omega))
  ·by_cases hki' : k' = i
   ·subst hki'; rw [aN, aQ _ _ hki] at he; exact absurd he (hgk k (by omega))
   ·rw [aQ _ _ hki, aQ _ _ hki'] at he; exact h.inj k k' (by omega) (by omega) he
theorem MO.put {j : Nat} {hh : Nat → IH} {u : IH} {z : Int} (h : MO cn K w lo g r c gs cap F) (hi : i < r) (hb : Blk w (gs i) 49 (rowC (cap i) hh)) (he : ∀ j, j < c → Ent cn K w (hh j).val (F i j)) (hu : Ent cn K w u.val z)
  (hg : Chg (gs i) w w') (hb' : Blk w' (gs i) 49 (rowC (cap i) (setF hh j u))) : MO cn K w' lo g r c gs cap (setM F i j z) := by
 refine ⟨h.low, h.top.chg hg (fun e => h.off i hi e.symm), fun k hk => ?_, h.off, h.inj⟩
 by_cases hki : k = i
 ·subst hki; rw [mX]; exact RO.put (h.row k hk).low (h.row k hk).le hb he hu hg hb'
 ·rw [oG _ _ _ hki]; exact (h.row k hk).gbN hb (bI _ _) (bp hg) (fun e => hki (h.inj k i hk hi e))
theorem MO.get {k : Nat} (h : MO cn K w lo g r c gs cap F) (hk : k < r) : ∃ hh : Nat → IH, Blk w (gs k) 49 (rowC (cap k) hh) ∧ c ≤ cap k ∧ ∀ j, j < c → Ent cn K w (hh j).val (F k j) := by
 obtain ⟨hh, h1, h2⟩ := (h.row k hk).ex; exact ⟨hh, h1, (h.row k hk).le, h2⟩
def swp2 (i j k : Nat) : Nat := if k = i then j else if k = j then i else k
theorem fQ {i j k n : Nat} (hi : i < n) (hj : j < n) (hk : k < n) : swp2 i j k < n := by unfold swp2; split; omega; split <;> omega
theorem qI {i j k l : Nat} (h : swp2 i j k = swp2 i j l) : k = l := by
 have inv : ∀ m, swp2 i j (swp2 i j m) = m := fun m => by
  unfold swp2
  by_cases a : m = i
  ·rw [if_pos a]
   by_cases b : j = i
   ·rw [if_pos b]; omega
   ·rw [if_neg b, if_pos rfl]; omega
  ·rw [if_neg a]
   by_cases b : m = j
   ·rw [if_pos b, if_pos rfl]; omega
   ·rw [if_neg b, if_neg a, if_neg b]
 rw [← inv k, h, inv]
theorem MO.swap {j : Nat} {w1 : World} (h : MO cn K w lo g r c gs cap F) (hi : i < r) (hj : j < r) (h1 : Chg g w w1) (h2 : Chg g w1 w')
  (hb : Blk w' g 30 (topC r (setF (setF (fun k => (⟨some ⟨gs k, 0, none⟩, c, cap k⟩ : SD)) i ⟨some ⟨gs j, 0, none⟩, c, cap j⟩) j ⟨some ⟨gs i, 0, none⟩, c, cap i⟩))) :
  MO cn K w' lo g r c (fun k => gs (swp2 i j k)) (fun k => cap (swp2 i j k)) (fun k => F (swp2 i j k)) := by
 refine ⟨h.low, ?_, fun k hk => ?_, fun k hk => h.off _ (fQ hi hj hk), fun k l hk hl he => qI (h.inj _ _ (fQ hi hj hk) (fQ hi hj hl) he)⟩
 ·rw [bV (s' := setF (setF (fun k => (⟨some ⟨gs k, 0, none⟩, c, cap k⟩ : SD)) i ⟨some ⟨gs j, 0, none⟩, c, cap j⟩) j ⟨some ⟨gs i, 0, none⟩, c, cap i⟩) (fun k hk => ?_)]
  ·exact hb
  ·unfold swp2 setF
   by_cases a : k = j
   ·subst a; by_cases b : k = i
    ·subst b; simp
    ·simp [b]
   ·by_cases b : k = i
    ·subst b; simp [a]
    ·simp [a, b]
 ·exact (h.row _ (fQ hi hj hk)).gbN h.top (bW _ _) (bJ (bp h1) (bp h2) (fun _ e => .inl e)) (h.off _ (fQ hi hj hk))
end
theorem Ent.up {cn : Bool} {K K' : Nat} {w : World} {v : Value} {z : Int} (h : Ent cn K w v z) (hK : K ≤ K') : Ent cn K' w v z := ⟨h.k.mono hK, h.c⟩
theorem RO.up {cn : Bool} {K K' lo g cap n : Nat} {w : World} {f : Nat → Int} (h : RO cn K w lo g cap n f) (hK : K ≤ K') : RO cn K' w lo g cap n f := by
 obtain ⟨hh, h1, h2⟩ := h.ex; exact ⟨h.low, h.le, hh, h1, fun i hi => (h2 i hi).up hK⟩
theorem RX.up {cn : Bool} {K K' n : Nat} {w : World} {s : SD} {f : Nat → Int} (h : RX cn K w s n f) (hK : K ≤ K') : RX cn K' w s n f := by
 obtain ⟨hh, h1, h2⟩ := h.ex; exact ⟨h.len, h.cap, hh, h1, fun i hi => (h2 i hi).up hK⟩
theorem MO.up {cn : Bool} {K K' r c lo g : Nat} {w : World} {gs cap : Nat → Nat} {F : Nat → Nat → Int} (h : MO cn K w lo g r c gs cap F) (hK : K ≤ K') : MO cn K' w lo g r c gs cap F := ⟨h.low, h.top, fun i hi => (h.row i hi).up hK, h.off, h.inj⟩
theorem MX.up {cn : Bool} {K K' r c : Nat} {w : World} {a : Option Addr} {s : Nat → SD} {F : Nat → Nat → Int} (h : MX cn K w a r c s F) (hK : K ≤ K') : MX cn K' w a r c s F := ⟨h.top, fun i hi => (h.row i hi).up hK⟩
theorem BdJ.lb {n k K : Nat} {A W : Mat} {s last : Int} (h : BdJ n A k s W last) (hb : ∀ r c, r < n → c < n → Lb K (A r c)) (hn : n ≤ 16) : (∀ i j, k ≤ i → i < n → k ≤ j → j < n → Lb (16 * K + 17) (W i j)) ∧ Lb (16 * K + 17) last := by
 obtain ⟨h1, h2⟩ := h.abs (b := 4294967296 ^ K) (fun r c hr hc => Nat.le_of_lt (hb r c hr hc))
 have hk : k ≤ n := by obtain ⟨N, hN⟩ := h; exact hN.1
 have key : ∀ m, m ≤ 16 → ∀ z : Int, z.natAbs ≤ (m * 4294967296 ^ K) ^ m → Lb (16 * K + 17) z := fun m hm z hz => by
  unfold Lb
  refine Nat.lt_of_le_of_lt hz ?_
  have e1 : m * 4294967296 ^ K ≤ 4294967296 ^ (K + 1) := by rw [Nat.pow_succ, Nat.mul_comm]; exact Nat.mul_le_mul_left _ (by omega)
  have e2 := Nat.pow_le_pow_left e1 m
  rw [← Nat.pow_mul] at e2
  refine Nat.lt_of_le_of_lt e2 (Nat.pow_lt_pow_right (by decide) ?_)
  have : (K + 1) * m ≤ (K + 1) * 16 := Nat.mul_le_mul_left _ hm
  omega
 refine ⟨fun i j hi hin hj hjn => key (k + 1) (by omega) _ (h1 i j hi hin hj hjn), key k (by omega) _ h2⟩
end Go.Proofs.Ytiejljicpinheaa
