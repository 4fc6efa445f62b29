import Derived.Test.YtppipmkpmmdcjaaA07
namespace Go.LA
def mv (n : Nat) (A : Mat) (x : Vec) : Vec := fun r => sm n fun j => A r j * x j
theorem cL {n : Nat} {A A' : Mat} {x x' : Vec} {r : Nat} (h : ∀ j, j < n → A r j = A' r j) (h' : ∀ j, j < n → x j = x' j) : mv n A x r = mv n A' x' r := aQ fun j hj => by rw [h j hj, h' j hj]
theorem jD (n m : Nat) (A B : Mat) (x : Vec) (r : Nat) : mv m (mm n A B) x r = mv n A (mv m B x) r := by
 have := gW n m A B (fun i _ => x i) r 0
 exact this
def InL (rows cols : Nat) (H : Mat) (v : Vec) : Prop := ∃ x : Vec, ∀ r, r < rows → v r = mv cols H x r
theorem InL.col {rows cols : Nat} (H : Mat) {c : Nat} (hc : c < cols) : InL rows cols H fun r => H r c := by
 refine ⟨fun j => idM j c, fun r _ => ?_⟩
 show H r c = sm cols fun j => H r j * idM j c
 rw [bW hc fun j _ hne => by rw [bv hne, Int.mul_zero]]
 rw [bq, Int.mul_one]
theorem InL.sub {rows cols : Nat} {H : Mat} {v v' : Vec} (h : InL rows cols H v) (h' : InL rows cols H v') : InL rows cols H fun r => v r - v' r := by
 obtain ⟨x, hx⟩ := h
 obtain ⟨y, hy⟩ := h'
 refine ⟨fun j => x j - y j, fun r hr => ?_⟩
 show v r - v' r = _
 rw [hx r hr, hy r hr]
 unfold mv
 rw [← gA]
 exact aQ fun j _ => by grind
theorem InL.comb {rows cols : Nat} {H : Mat} {v v' : Vec} (h : InL rows cols H v) (h' : InL rows cols H v') (a b : Int) : InL rows cols H fun r => a * v r + b * v' r := by
 obtain ⟨x, hx⟩ := h
 obtain ⟨y, hy⟩ := h'
 refine ⟨fun j => a * x j + b * y j, fun r hr => ?_⟩
 show a * v r + b * v' r = _
 rw [hx r hr, hy r hr]
 unfold mv
 rw [← bR, ← bR, ← dq]
 exact aQ fun j _ => by grind
theorem InL.congr {rows cols : Nat} {H : Mat} {v v' : Vec} (h : InL rows cols H v) (he : ∀ r, r < rows → v' r = v r) : InL rows cols H v' := by
 obtain ⟨x, hx⟩ := h
 exact ⟨x, fun r hr => by rw [he r hr, hx r hr]⟩
def Uni (n : Nat) (U : Mat) : Prop := det n U = 1 ∨ det n U = -1
theorem Uni.sq {n : Nat} {U : Mat} (h : Uni n U) : det n U * det n U = 1 := by rcases h with h | h <;> rw [h] <;> rfl
theorem Uni.ne {n : Nat} {U : Mat} (h : Uni n U) : det n U ≠ 0 := by rcases h with h | h <;> rw [h] <;> omega
theorem mH (n : Nat) : Uni n idM := .inl (gB n)
theorem Uni.mul {n : Nat} {U V : Mat} (h : Uni n U) (h' : Uni n V) : Uni n (mm n U V) := by
 unfold Uni
 rw [dg]
 rcases h with h | h <;> rcases h' with h' | h' <;> rw [h, h'] <;> simp
theorem Uni.congr {n : Nat} {U V : Mat} (h : Uni n U) (he : ∀ r c, r < n → c < n → U r c = V r c) : Uni n V := by unfold Uni; rw [← aY he]; exact h
def uinv (n : Nat) (U : Mat) : Mat := fun i j => det n U * adj n U i j
theorem Uni.mul_inv {n : Nat} {U : Mat} (h : Uni n U) {i j : Nat} (hi : i < n) (hj : j < n) : mm n U (uinv n U) i j = idM i j := by
 have e : mm n U (uinv n U) i j = det n U * mm n U (adj n U) i j := by
  unfold mm uinv
  rw [← bR]
  exact aQ fun k _ => by grind
 rw [e, eJ U hi hj, ← Int.mul_assoc, h.sq, Int.one_mul]
theorem Uni.inv_mul {n : Nat} {U : Mat} (h : Uni n U) {i j : Nat} (hi : i < n) (hj : j < n) : mm n (uinv n U) U i j = idM i j := by
 have e : mm n (uinv n U) U i j = det n U * mm n (adj n U) U i j := by
  unfold mm uinv
  rw [← bR]
  exact aQ fun k _ => by grind
 rw [e, q9 h.ne hi hj, ← Int.mul_assoc, h.sq, Int.one_mul]
theorem InL.uni {rows cols : Nat} {A H U : Mat} (hU : Uni cols U) (hH : ∀ r c, r < rows → c < cols → H r c = mm cols A U r c) (v : Vec) : InL rows cols H v ↔ InL rows cols A v := by
 constructor
 ·rintro ⟨x, hx⟩
  refine ⟨mv cols U x, fun r hr => ?_⟩
  rw [hx r hr, cL (A' := mm cols A U) (fun j hj => hH r j hr hj) fun _ _ => rfl, jD]
 ·rintro ⟨x, hx⟩
  refine ⟨mv cols (uinv cols U) x, fun r hr => ?_⟩
  rw [hx r hr, cL (A := H) (A' := mm cols A U) (fun j hj => hH r j hr hj) fun _ _ => rfl, jD]
  refine cL (fun _ _ => rfl) fun j hj => ?_
  rw [← jD, cL (A' := idM) (fun k hk => hU.mul_inv hj hk) fun _ _ => rfl]
  unfold mv
  rw [bW hj fun k _ hne => by rw [bv (Ne.symm hne), Int.zero_mul]]
  rw [bq, Int.one_mul]
structure HF (rows cols : Nat) (H : Mat) (k : Nat) (p : Nat → Nat) : Prop where
 kc : k ≤ cols
 lt : ∀ c, c < k → p c < rows
 mono : ∀ c c', c < c' → c' < k → p c < p c'
 zero : ∀ c, c < k → ∀ r, r < p c → H r c = 0
 pos : ∀ c, c < k → 0 < H (p c) c
 red : ∀ c, c < k → ∀ j, j < c → 0 ≤ H (p c) j ∧ H (p c) j < H (p c) c
 rest : ∀ c, k ≤ c → c < cols → ∀ r, r < rows → H r c = 0
theorem HF.congr {rows cols k : Nat} {H H' : Mat} {p : Nat → Nat} (h : HF rows cols H k p) (he : ∀ r c, r < rows → c < cols → H' r c = H r c) : HF rows cols H' k p := by
 have hk := h.kc
 refine ⟨h.kc, h.lt, h.mono, fun c hc r hr => ?_, fun c hc => ?_, fun c hc j hj => ?_, fun c hc hc' r hr => ?_⟩
 ·have := h.lt c hc; rw [he r c (by omega) (by omega)]; exact h.zero c hc r hr
 ·rw [he _ c (h.lt c hc) (by omega)]; exact h.pos c hc
 ·rw [he _ c (h.lt c hc) (by omega), he _ j (h.lt c hc) (by omega)]; exact h.red c hc j hj
 ·rw [he r c hr hc']; exact h.rest c hc hc' r hr
theorem lO (k : Nat) (x : Vec) : (∀ j, j < k → x j = 0) ∨ ∃ c, c < k ∧ x c ≠ 0 ∧ ∀ j, j < c → x j = 0 := by
 induction k with
 | zero => exact .inl fun j hj => by omega
 | succ k ih =>
  rcases ih with h | ⟨c, h1, h2, h3⟩
  ·by_cases e : x k = 0
   ·exact .inl fun j hj => by
     by_cases e' : j = k
     ·rw [e', e]
     ·exact h j (by omega)
   ·exact .inr ⟨k, by omega, e, h⟩
  ·exact .inr ⟨c, by omega, h2, h3⟩
theorem HF.mvk {rows cols k : Nat} {H : Mat} {p : Nat → Nat} (h : HF rows cols H k p) (x : Vec) {r : Nat} (hr : r < rows) : mv cols H x r = mv k H x r := by
 obtain ⟨m, rfl⟩ : ∃ m, cols = k + m := ⟨cols - k, by have := h.kc; omega⟩
 unfold mv
 rw [eX, eI (n := m) fun i hi => by rw [h.rest (k + i) (by omega) (by omega) r hr, Int.zero_mul]]
 omega
theorem HF.begins {rows cols k : Nat} {H : Mat} {p : Nat → Nat} (h : HF rows cols H k p) {x : Vec} {c : Nat} (hc : c < k) (hx : ∀ j, j < c → x j = 0) : (∀ r, r < p c → mv cols H x r = 0) ∧ mv cols H x (p c) = x c * H (p c) c := by
 have hlt := h.lt c hc
 constructor
 ·intro r hr
  rw [h.mvk x (by omega)]
  refine eI fun j hj => ?_
  by_cases e : j < c
  ·rw [hx j e, Int.mul_zero]
  ·rw [h.zero j hj r, Int.zero_mul]
   by_cases e' : j = c
   ·rw [e']; exact hr
   ·have := h.mono c j (by omega) hj; omega
 ·rw [h.mvk x hlt]
  unfold mv
  rw [bW hc fun j hj hne => ?_]
  ·rw [Int.mul_comm]
  ·by_cases e : j < c
   ·rw [hx j e, Int.mul_zero]
   ·rw [h.zero j hj (p c) (h.mono c j (by omega) hj), Int.zero_mul]
theorem HF.lead {rows cols k : Nat} {H : Mat} {p : Nat → Nat} (h : HF rows cols H k p) {v : Vec} (hv : InL rows cols H v) (hne : ∃ r, r < rows ∧ v r ≠ 0) :
  ∃ c, c < k ∧ (∀ r, r < p c → v r = 0) ∧ v (p c) ≠ 0 ∧ H (p c) c ∣ v (p c) := by
 obtain ⟨x, hx⟩ := hv
 rcases lO k x with h0 | ⟨c, hc, hxc, hl⟩
 ·obtain ⟨r, hr, hv⟩ := hne
  refine absurd ?_ hv
  rw [hx r hr, h.mvk x hr]
  exact eI fun j hj => by rw [h0 j hj, Int.mul_zero]
 ·obtain ⟨h1, h2⟩ := h.begins hc hl
  have hlt := h.lt c hc
  refine ⟨c, hc, fun r hr => by rw [hx r (by omega)]; exact h1 r hr, ?_, ?_⟩
  ·rw [hx _ hlt, h2]
   intro e
   rcases Int.mul_eq_zero.1 e with e | e
   ·exact hxc e
   ·have := h.pos c hc; omega
  ·rw [hx _ hlt, h2]; exact ⟨x c, Int.mul_comm _ _⟩
theorem HF.begin_col {rows cols k : Nat} {H : Mat} {p : Nat → Nat} (h : HF rows cols H k p) {c : Nat} (hc : c < k) {cols' k' : Nat} {H' : Mat} {p' : Nat → Nat} (h' : HF rows cols' H' k' p') (hL : ∀ v, InL rows cols H v → InL rows cols' H' v) : ∃ c', c' < k' ∧ p' c' = p c ∧ H' (p c) c' ∣ H (p c) c := by
 have hk := h.kc
 have hlt := h.lt c hc
 have hpos := h.pos c hc
 obtain ⟨c', h1, h2, h3, h4⟩ := h'.lead (hL _ (InL.col H (show c < cols by omega))) ⟨p c, hlt, by omega⟩
 have e : p' c' = p c := by
  rcases Nat.lt_trichotomy (p' c') (p c) with hh | hh | hh
  ·exact absurd (h.zero c hc _ hh) h3
  ·exact hh
  ·have := h2 _ hh; omega
 refine ⟨c', h1, e, ?_⟩
 rw [e] at h4; exact h4
theorem HF.unique {rows cols cols' k k' : Nat} {H H' : Mat} {p p' : Nat → Nat} (h : HF rows cols H k p) (h' : HF rows cols' H' k' p') (hL : ∀ v, InL rows cols H v ↔ InL rows cols' H' v) :
  k = k' ∧ (∀ c, c < k → p c = p' c) ∧ ∀ c, c < k → ∀ r, r < rows → H r c = H' r c := by
 have hk := h.kc
 have hk' := h'.kc
 have mle : ∀ {rows cols k : Nat} {H : Mat} {p : Nat → Nat}, HF rows cols H k p → ∀ c c', c ≤ c' → c' < k → p c ≤ p c' := fun h c c' hc hc' => by
  by_cases e : c = c'
  ·rw [e]; exact Nat.le_refl _
  ·exact Nat.le_of_lt (h.mono c c' (by omega) hc')
 have key : ∀ c, (c < k → c < k' ∧ p c = p' c) ∧ (c < k' → c < k ∧ p c = p' c) := by
  intro c
  induction c using Nat.strongRecOn with
  | _ c ih =>
   have one : c < k → ∃ e, c ≤ e ∧ e < k' ∧ p' e = p c := fun hc => by
    obtain ⟨e, he, hp, _⟩ := h.begin_col hc h' (fun v hv => (hL v).1 hv)
    refine ⟨e, ?_, he, hp⟩
    rcases Nat.lt_or_ge e c with hlt | hge
    ·have h1 := (ih e hlt).2 he
     have h2 := h.mono e c hlt hc
     omega
    ·exact hge
   have two : c < k' → ∃ e, c ≤ e ∧ e < k ∧ p e = p' c := fun hc => by
    obtain ⟨e, he, hp, _⟩ := h'.begin_col hc h (fun v hv => (hL v).2 hv)
    refine ⟨e, ?_, he, hp⟩
    rcases Nat.lt_or_ge e c with hlt | hge
    ·have h1 := (ih e hlt).1 he
     have h2 := h'.mono e c hlt hc
     omega
    ·exact hge
   have both : c < k → c < k' → p c = p' c := fun hc hc' => by
    obtain ⟨e, h1, h2, h3⟩ := one hc
    obtain ⟨f, g1, g2, g3⟩ := two hc'
    have := mle h' c e h1 h2
    have := mle h c f g1 g2
    omega
   constructor
   ·intro hc
    obtain ⟨e, h1, h2, h3⟩ := one hc
    exact ⟨by omega, both hc (by omega)⟩
   ·intro hc
    obtain ⟨e, h1, h2, h3⟩ := two hc
    exact ⟨by omega, both (by omega) hc⟩
 have hkk : k = k' := by
  rcases Nat.lt_trichotomy k k' with hlt | he | hlt
  ·have := ((key k).2 hlt).1; omega
  ·exact he
  ·have := ((key k').1 hlt).1; omega
 subst hkk
 have hp : ∀ c, c < k → p c = p' c := fun c hc => ((key c).1 hc).2
 have hpiv : ∀ c, c < k → H (p c) c = H' (p c) c := fun c hc => by
  obtain ⟨e, he, hpe, hd⟩ := h.begin_col hc h' (fun v hv => (hL v).1 hv)
  obtain ⟨f, hf, hpf, hd'⟩ := h'.begin_col hc h (fun v hv => (hL v).2 hv)
  have inj : ∀ a b, a < k → b < k → p' a = p' b → a = b := fun a b ha hb e => by
   rcases Nat.lt_trichotomy a b with hlt | h0 | hlt
   ·have := h'.mono a b hlt hb; omega
   ·exact h0
   ·have := h'.mono b a hlt ha; omega
  have e1 : e = c := inj e c he hc (by rw [hpe, hp c hc])
  have e2 : f = c := inj f c hf hc (by rw [← hp f hf, hpf])
  subst e1
  subst e2
  rw [← hp f hf] at hd'
  have a1 := h.pos f hc
  have a2 := h'.pos f hc
  rw [← hp f hc] at a2
  exact Int.le_antisymm (Int.le_of_dvd a2 hd') (Int.le_of_dvd a1 hd)
 refine ⟨rfl, hp, fun c hc r hr => ?_⟩
 refine Classical.byContradiction fun hne => ?_
 have hcol := (InL.col (rows := rows) H (show c < cols by omega)).sub ((hL _).2 (InL.col (rows := rows) H' (show c < cols' by omega)))
 obtain ⟨e, he, h1, h2, h3⟩ := h.lead hcol ⟨r, hr, by omega⟩
 have hlt := h.lt e he
 have h1 : ∀ r, r < p e → H r c - H' r c = 0 := h1
 have h2 : H (p e) c - H' (p e) c ≠ 0 := h2
 have h3 : H (p e) e ∣ H (p e) c - H' (p e) c := h3
 have hec : c < e := by
  rcases Nat.lt_trichotomy c e with hh | hh | hh
  ·exact hh
  ·subst hh; rw [hpiv c hc] at h2; omega
  ·have hm := h.mono e c hh hc
   have z1 := h.zero c hc _ hm
   have z2 := h'.zero c hc (p e) (by rw [← hp c hc]; exact hm)
   omega
 have r1 := h.red e he c hec
 have r2 := h'.red e he c hec
 rw [← hp e he, ← hpiv e he] at r2
 obtain ⟨q, hq⟩ := h3
 have hpos := h.pos e he
 have : q = 0 := by
  rcases Int.lt_trichotomy q 0 with hh | hh | hh
  ·have : H (p e) e * q ≤ H (p e) e * (-1) := Int.mul_le_mul_of_nonneg_left (by omega) (by omega)
   omega
  ·exact hh
  ·have : H (p e) e * 1 ≤ H (p e) e * q := Int.mul_le_mul_of_nonneg_left (by omega) (by omega)
   omega
 subst this
 omega
end Go.LA
namespace Go.LA
def eadd (i j : Nat) (q : Int) : Mat := fun a b => idM a b + (if a = j ∧ b = i then q else 0)
def cadd (M : Mat) (i j : Nat) (q : Int) : Mat := fun r c => if c = i then M r i + q * M r j else M r c
def cswp (M : Mat) (i j : Nat) : Mat := fun r c => M r (if c = i then j else if c = j then i else c)
def cneg (M : Mat) (i : Nat) : Mat := fun r c => if c = i then - M r i else M r c
theorem nA {n i j : Nat} (M : Mat) (q : Int) (_hi : i < n) (hj : j < n) (r c : Nat) (hc : c < n) : mm n M (eadd i j q) r c = cadd M i j q r c := by
 unfold mm eadd
 have : (sm n fun k => M r k * (idM k c + if k = j ∧ c = i then q else 0)) = (sm n fun k => M r k * idM k c) + sm n fun k => M r k * (if k = j ∧ c = i then q else 0) := by
  rw [← dq]; exact aQ fun k _ => by rw [Int.mul_add]
 rw [this, show (sm n fun k => M r k * idM k c) = M r c from o8 M r c hc, bW hj fun k _ hne => by rw [if_neg (fun h => hne h.1), Int.mul_zero]]
 unfold cadd
 by_cases e : c = i
 ·rw [if_pos ⟨rfl, e⟩, if_pos e, e]; grind
 ·rw [if_neg (fun h => e h.2), if_neg e, Int.mul_zero, Int.add_zero]
theorem pw {n i j : Nat} (hne : i ≠ j) (q : Int) : det n (eadd i j q) = 1 := by
 have hd : ∀ a, eadd i j q a a = 1 := fun a => by unfold eadd; rw [bq, if_neg (fun h => hne (h.2.symm.trans h.1))]; rfl
 rcases Nat.lt_or_gt_of_ne hne with h | h
 ·rw [cU fun r c _ hr => by unfold eadd; rw [bv (by omega), if_neg (by omega)]; rfl]
  rw [fN n 1 fun a _ => hd a, Int.one_pow]
 ·rw [iz fun r c _ hc => by unfold eadd; rw [bv (by omega), if_neg (by omega)]; rfl]
  rw [fN n 1 fun a _ => hd a, Int.one_pow]
theorem py {n i j : Nat} (M : Mat) (hi : i < n) (hj : j < n) (r c : Nat) (hc : c < n) : mm n M (swp idM i j) r c = cswp M i j r c := by
 unfold mm cswp
 have hlt : (if c = i then j else if c = j then i else c) < n := by split; exact hj; split; exact hi; exact hc
 rw [bW hlt]
 ·have : swp idM i j (if c = i then j else if c = j then i else c) c = 1 := by
   unfold swp rw'
   by_cases e1 : c = i
   ·rw [if_pos e1, if_pos rfl, e1, bq]
   ·rw [if_neg e1]
    by_cases e2 : c = j
    ·rw [if_pos e2]
     by_cases e3 : i = j
     ·omega
     ·rw [if_neg e3, if_pos rfl, e2, bq]
    ·rw [if_neg e2, if_neg e2, if_neg e1, bq]
  rw [this, Int.mul_one]
 ·intro k hk hne
  have : swp idM i j k c = 0 := by
   unfold swp rw'
   by_cases e1 : k = j
   ·rw [if_pos e1]
    exact bv fun h => hne (by rw [if_pos h.symm, e1])
   ·rw [if_neg e1]
    by_cases e2 : k = i
    ·rw [if_pos e2]
     exact bv fun h => by
      by_cases e3 : c = i
      ·omega
      ·exact hne (by rw [if_neg e3, if_pos h.symm, e2])
    ·rw [if_neg e2]
     refine bv fun h => ?_
     subst h
     exact hne (by rw [if_neg e2, if_neg e1])
  rw [this, Int.mul_zero]
theorem qu {n i j : Nat} (hne : i ≠ j) (hi : i < n) (hj : j < n) : det n (swp idM i j) = -1 := by rw [(cG n).swap idM hne hi hj, gB]
def eneg (i : Nat) : Mat := fun a b => if a = b then (if a = i then -1 else 1) else 0
theorem nB {n i : Nat} (M : Mat) (r c : Nat) (hc : c < n) : mm n M (eneg i) r c = cneg M i r c := by
 unfold mm
 rw [bW hc fun k _ hne => by unfold eneg; rw [if_neg hne, Int.mul_zero]]
 unfold eneg cneg
 rw [if_pos rfl]
 by_cases e : c = i
 ·rw [if_pos e, if_pos e, e]; omega
 ·rw [if_neg e, if_neg e, Int.mul_one]
theorem pz {n i : Nat} (hi : i < n) : det n (eneg i) = -1 := by
 rw [cU fun r c _ hr => by unfold eneg; rw [if_neg (by omega)]]
 have : ∀ m, pr m (fun a => eneg i a a) = if i < m then -1 else 1 := by
  intro m
  induction m with
  | zero => rfl
  | succ m ih =>
   rw [pr, ih]
   unfold eneg
   rw [if_pos rfl]
   by_cases e : m = i
   ·rw [if_pos e, if_neg (by omega), if_pos (by omega)]; rfl
   ·rw [if_neg e]
    by_cases e' : i < m
    ·rw [if_pos e', if_pos (by omega)]; rfl
    ·rw [if_neg e', if_neg (by omega)]; rfl
 rw [this, if_pos hi]
def CEq (rows cols : Nat) (A H U : Mat) : Prop := Uni cols U ∧ ∀ r c, r < rows → c < cols → H r c = mm cols A U r c
theorem jE (rows cols : Nat) (A : Mat) : CEq rows cols A A idM := ⟨mH cols, fun r c _ hc => (o8 A r c hc).symm⟩
theorem CEq.congr {rows cols : Nat} {A H H' U U' : Mat} (h : CEq rows cols A H U) (hH : ∀ r c, r < rows → c < cols → H' r c = H r c) (hU : ∀ r c, r < cols → c < cols → U' r c = U r c) : CEq rows cols A H' U' :=
 ⟨h.1.congr fun r c hr hc => (hU r c hr hc).symm, fun r c hr hc => by rw [hH r c hr hc, h.2 r c hr hc]; exact dy (fun _ _ => rfl) fun k hk => (hU k c hk hc).symm⟩
theorem CEq.step {rows cols : Nat} {A H U E : Mat} (h : CEq rows cols A H U) (hE : Uni cols E) : CEq rows cols A (mm cols H E) (mm cols U E) :=
 ⟨h.1.mul hE, fun r c hr _ => by rw [← gW]; exact dy (fun k hk => h.2 r k hr hk) fun _ _ => rfl⟩
theorem CEq.add {rows cols i j : Nat} {A H U : Mat} (h : CEq rows cols A H U) (q : Int) (hne : i ≠ j) (hi : i < cols) (hj : j < cols) : CEq rows cols A (cadd H i j q) (cadd U i j q) :=
 (h.step (E := eadd i j q) (.inl (pw hne q))).congr (fun r c _ hc => (nA H q hi hj r c hc).symm) fun r c _ hc => (nA U q hi hj r c hc).symm
theorem CEq.swap {rows cols i j : Nat} {A H U : Mat} (h : CEq rows cols A H U) (hne : i ≠ j) (hi : i < cols) (hj : j < cols) : CEq rows cols A (cswp H i j) (cswp U i j) :=
 (h.step (E := swp idM i j) (.inr (qu hne hi hj))).congr (fun r c _ hc => (py H hi hj r c hc).symm) fun r c _ hc => (py U hi hj r c hc).symm
theorem CEq.neg {rows cols i : Nat} {A H U : Mat} (h : CEq rows cols A H U) (hi : i < cols) : CEq rows cols A (cneg H i) (cneg U i) :=
 (h.step (E := eneg i) (.inr (pz hi))).congr (fun r c _ hc => (nB H r c hc).symm) fun r c _ hc => (nB U r c hc).symm
theorem CEq.inL {rows cols : Nat} {A H U : Mat} (h : CEq rows cols A H U) (v : Vec) : InL rows cols H v ↔ InL rows cols A v := InL.uni h.1 h.2 v
theorem HF.unique' {rows cols k k' : Nat} {H H' : Mat} {p p' : Nat → Nat} (h : HF rows cols H k p) (h' : HF rows cols H' k' p') (hL : ∀ v, InL rows cols H v ↔ InL rows cols H' v) : ∀ r c, r < rows → c < cols → H r c = H' r c := fun r c hr hc => by
 obtain ⟨rfl, _, h3⟩ := h.unique h' hL
 rcases Nat.lt_or_ge c k with hk | hk
 ·exact h3 c hk r hr
 ·rw [h.rest c hk hc r hr, h'.rest c hk hc r hr]
theorem lP {rows cols k j r : Nat} {A : Mat} (hj : k < j) (hjc : j < cols) : ∀ (m : Nat) (H U : Mat), (H r j).natAbs = m → CEq rows cols A H U →
  ∃ H' U', CEq rows cols A H' U' ∧ H' r j = 0 ∧ (∀ c, c ≠ k → c ≠ j → ∀ x, H' x c = H x c) ∧ ∀ x, H x k = 0 → H x j = 0 → H' x k = 0 ∧ H' x j = 0 := by
 intro m
 induction m using Nat.strongRecOn with
 | _ m ih =>
  intro H U hm h
  by_cases h0 : H r j = 0
  ·exact ⟨H, U, h, h0, fun _ _ _ _ => rfl, fun x h1 h2 => ⟨h1, h2⟩⟩
  ·have h1 := (h.add (i := k) (j := j) (-(H r k / H r j)) (by omega) (by omega) hjc).swap (i := k) (j := j) (by omega) (by omega) hjc
   have e1 : cswp (cadd H k j (-(H r k / H r j))) k j r j = H r k % H r j := by
    show cadd H k j _ r (if j = k then j else if j = j then k else j) = _
    rw [if_neg (by omega), if_pos rfl]
    unfold cadd
    rw [if_pos rfl]
    have := Int.emod_add_mul_ediv (H r k) (H r j)
    grind
   have hlt : (H r k % H r j).natAbs < m := by
    have a1 := Int.emod_nonneg (H r k) h0
    have a2 := Int.emod_lt (H r k) h0
    omega
   obtain ⟨H', U', g1, g2, g3, g4⟩ := ih _ hlt _ _ (by rw [e1]) h1
   refine ⟨H', U', g1, g2, fun c hk hjj x => ?_, fun x hx hy => ?_⟩
   ·rw [g3 c hk hjj x]
    unfold cswp cadd
    rw [if_neg hk, if_neg hjj, if_neg hk]
   ·refine g4 x ?_ ?_
    ·unfold cswp cadd
     rw [if_pos rfl, if_neg (by omega)]; exact hy
    ·show cadd H k j _ x (if j = k then j else if j = j then k else j) = 0
     rw [if_neg (show j ≠ k by omega), if_pos rfl]
     unfold cadd
     rw [if_pos rfl, hx, hy]; omega
theorem mI {rows cols k r : Nat} {A : Mat} : ∀ (m : Nat), k + 1 + m ≤ cols → ∀ (H U : Mat), CEq rows cols A H U →
  ∃ H' U', CEq rows cols A H' U' ∧ (∀ c, k < c → c < k + 1 + m → H' r c = 0) ∧ (∀ c, c < k ∨ k + 1 + m ≤ c → ∀ x, H' x c = H x c) ∧ ∀ x, (∀ c, k ≤ c → c < cols → H x c = 0) → ∀ c, k ≤ c → c < cols → H' x c = 0 := by
 intro m
 induction m with
 | zero => intro _ H U h; exact ⟨H, U, h, fun c h1 h2 => by omega, fun _ _ _ => rfl, fun x hx => hx⟩
 | succ m ih =>
  intro hm H U h
  obtain ⟨H1, U1, a1, a2, a3, a4⟩ := ih (by omega) H U h
  obtain ⟨H2, U2, b1, b2, b3, b4⟩ := lP (r := r) (show k < k + 1 + m by omega) (by omega) _ H1 U1 rfl a1
  refine ⟨H2, U2, b1, fun c h1 h2 => ?_, fun c hc x => ?_, fun x hx c h1 h2 => ?_⟩
  ·by_cases e : c = k + 1 + m
   ·rw [e]; exact b2
   ·rw [b3 c (by omega) e]; exact a2 c h1 (by omega)
  ·rw [b3 c (by omega) (by omega), a3 c (by omega)]
  ·have z := a4 x hx
   by_cases e1 : c = k
   ·rw [e1]; exact (b4 x (z k (by omega) (by omega)) (z _ (by omega) (by omega))).1
   ·by_cases e2 : c = k + 1 + m
    ·rw [e2]; exact (b4 x (z k (by omega) (by omega)) (z _ (by omega) (by omega))).2
    ·rw [b3 c e1 e2]; exact z c h1 h2
theorem mJ {rows cols k r : Nat} {A : Mat} (hk : k < cols) : ∀ (m : Nat), m ≤ k → ∀ (H U : Mat), CEq rows cols A H U → 0 < H r k →
  ∃ H' U', CEq rows cols A H' U' ∧ (∀ c, k ≤ c → ∀ x, H' x c = H x c) ∧ (∀ c, c < m → 0 ≤ H' r c ∧ H' r c < H r k) ∧ ∀ x, H x k = 0 → ∀ c, H' x c = H x c := by
 intro m
 induction m with
 | zero => intro _ H U h _; exact ⟨H, U, h, fun _ _ _ => rfl, fun c hc => by omega, fun _ _ _ => rfl⟩
 | succ m ih =>
  intro hm H U h hp
  obtain ⟨H1, U1, a1, a2, a3, a4⟩ := ih (by omega) H U h hp
  have hp1 : H1 r k = H r k := a2 k (Nat.le_refl _) r
  have a5 : H1 r m % H r k = H1 r m + -(H1 r m / H r k) * H1 r k := by
   have := Int.emod_add_mul_ediv (H1 r m) (H r k)
   rw [hp1]; grind
  refine ⟨_, _, a1.add (i := m) (j := k) (-(H1 r m / H r k)) (by omega) (by omega) hk, fun c hc x => ?_, fun c hc => ?_, fun x hx c => ?_⟩
  ·unfold cadd; rw [if_neg (by omega)]; exact a2 c hc x
  ·unfold cadd
   by_cases e : c = m
   ·rw [if_pos e, ← a5]
    exact ⟨Int.emod_nonneg _ (by omega), Int.emod_lt_of_pos _ hp⟩
   ·rw [if_neg e]; exact a3 c (by omega)
  ·unfold cadd
   by_cases e : c = m
   ·rw [if_pos e, a2 k (Nat.le_refl _) x, hx, Int.mul_zero, Int.add_zero, e]; exact a4 x hx m
   ·rw [if_neg e]; exact a4 x hx c
theorem HF.more {cols k r : Nat} {H : Mat} {p : Nat → Nat} (h : HF r cols H k p) (hz : ∀ c, k ≤ c → c < cols → H r c = 0) : HF (r + 1) cols H k p :=
 ⟨h.kc, fun c hc => by have := h.lt c hc; omega, h.mono, h.zero, h.pos, h.red, fun c hc hc' x hx => by
  by_cases e : x = r
  ·rw [e]; exact hz c hc hc'
  ·exact h.rest c hc hc' x (by omega)⟩
theorem HF.pivot {cols k r : Nat} {H : Mat} {p : Nat → Nat} (h : HF r cols H k p) (hk : k < cols) (hp : 0 < H r k) (hz : ∀ c, k < c → c < cols → H r c = 0) (hr : ∀ c, c < k → 0 ≤ H r c ∧ H r c < H r k) : HF (r + 1) cols H (k + 1) (fun c => if c = k then r else p c) := by
 have hpl : ∀ c, c < k → p c < r := h.lt
 refine ⟨hk, fun c hc => ?_, fun c c' h1 h2 => ?_, fun c hc x hx => ?_, fun c hc => ?_, fun c hc j hj => ?_, fun c hc hc' x hx => ?_⟩
 ·show (if c = k then r else p c) < r + 1
  split
  ·omega
  ·have := hpl c (by omega); omega
 ·show (if c = k then r else p c) < if c' = k then r else p c'
  rw [if_neg (by omega)]
  split
  ·exact hpl c (by omega)
  ·exact h.mono c c' h1 (by omega)
 ·have hx' : x < if c = k then r else p c := hx
  split at hx'
  ·rename_i e; rw [e]; exact h.rest k (Nat.le_refl _) hk x hx'
  ·exact h.zero c (by omega) x hx'
 ·show 0 < H (if c = k then r else p c) c
  split
  ·rename_i e; rw [e]; exact hp
  ·exact h.pos c (by omega)
 ·show 0 ≤ H (if c = k then r else p c) j ∧ H (if c = k then r else p c) j < H (if c = k then r else p c) c
  split
  ·rename_i e; rw [e]; exact hr j (by omega)
  ·exact h.red c (by omega) j hj
 ·by_cases e : x = r
  ·rw [e]; exact hz c (by omega) hc'
  ·exact h.rest c (by omega) hc' x (by omega)
theorem n9 (rows cols : Nat) (A : Mat) : ∃ H U k p, CEq rows cols A H U ∧ HF rows cols H k p := by
 have key : ∀ r, r ≤ rows → ∃ H U k p, CEq rows cols A H U ∧ HF r cols H k p := by
  intro r
  induction r with
  | zero => intro _; exact ⟨A, idM, 0, fun _ => 0, jE _ _ _, ⟨Nat.zero_le _, fun c hc => by omega, fun c c' _ h => by omega, fun c hc => by omega, fun c hc => by omega, fun c hc => by omega, fun c _ _ x hx => by omega⟩⟩
  | succ r ih =>
   intro hr
   obtain ⟨H, U, k, p, hC, hF⟩ := ih (by omega)
   by_cases hk : k < cols
   ·obtain ⟨H1, U1, a1, a2, a3, a4⟩ := mI (rows := rows) (cols := cols) (k := k) (r := r) (A := A) (cols - (k + 1)) (by omega) H U hC
    have hF1 : HF r cols H1 k p := hF.congr fun x c hx hc => by
     rcases Nat.lt_or_ge c k with h | h
     ·exact a3 c (.inl h) x
     ·rw [a4 x (fun c h1 h2 => hF.rest c h1 h2 x hx) c h hc, hF.rest c h hc x hx]
    by_cases h0 : H1 r k = 0
    ·refine ⟨H1, U1, k, p, a1, hF1.more fun c h1 h2 => ?_⟩
     by_cases e : c = k
     ·rw [e]; exact h0
     ·exact a2 c (by omega) (by omega)
    ·
     obtain ⟨H2, U2, b1, b2, b3, b4⟩ : ∃ H2 U2, CEq rows cols A H2 U2 ∧ HF r cols H2 k p ∧ 0 < H2 r k ∧ ∀ c, k < c → c < cols → H2 r c = 0 := by
      by_cases hpos : 0 < H1 r k
      ·exact ⟨H1, U1, a1, hF1, hpos, fun c h1 h2 => a2 c h1 (by omega)⟩
      ·refine ⟨cneg H1 k, cneg U1 k, a1.neg hk, hF1.congr fun x c hx hc => ?_, ?_, fun c h1 h2 => ?_⟩
       ·unfold cneg
        by_cases e : c = k
        ·rw [if_pos e, e, hF1.rest k (Nat.le_refl _) hk x hx]; rfl
        ·rw [if_neg e]
       ·unfold cneg; rw [if_pos rfl]; omega
       ·unfold cneg; rw [if_neg (by omega)]; exact a2 c h1 (by omega)
     obtain ⟨H3, U3, c1, c2, c3, c4⟩ := mJ (r := r) hk k (Nat.le_refl _) H2 U2 b1 b3
     have hF3 : HF r cols H3 k p := b2.congr fun x c hx _ => c4 x (b2.rest k (Nat.le_refl _) hk x hx) c
     refine ⟨H3, U3, k + 1, _, c1, hF3.pivot hk ?_ (fun c h1 h2 => ?_) (fun c hc => ?_)⟩
     ·rw [c2 k (Nat.le_refl _) r]; exact b3
     ·rw [c2 c (by omega) r]; exact b4 c h1 h2
     ·rw [c2 k (Nat.le_refl _) r]; exact c3 c hc
   ·exact ⟨H, U, k, p, hC, hF.more fun c h1 h2 => by omega⟩
 exact key rows (Nat.le_refl _)
end Go.LA
namespace Go.LA
structure TH (n : Nat) (W H : Mat) : Prop where
 zero : ∀ r c, r < c → c < n → H r c = 0
 pos : ∀ i, i < n → 0 < H i i
 red : ∀ i, i < n → ∀ j, j < i → 0 ≤ H i j ∧ H i j < H i i
 ceq : ∃ U, CEq n n W H U
theorem oa {n : Nat} {W : Mat} (hd : det n W ≠ 0) : ∃ H, TH n W H := by
 obtain ⟨H, U, k, p, hC, hF⟩ := n9 n n W
 have hdH : det n H ≠ 0 := by
  rw [aY (M' := mm n W U) fun r c hr hc => hC.2 r c hr hc, dg]
  intro e
  rcases Int.mul_eq_zero.1 e with e | e
  ·exact hd e
  ·exact hC.1.ne e
 have hk : k = n := by
  have := hF.kc
  rcases Nat.lt_or_ge k n with h | h
  ·exact absurd (fm h fun r hr => hF.rest k (Nat.le_refl _) h r hr) hdH
  ·omega
 subst hk
 have hge : ∀ c, c < k → c ≤ p c := by
  intro c
  induction c with
  | zero => intro _; exact Nat.zero_le _
  | succ c ih => intro hc; have := ih (by omega); have := hF.mono c (c + 1) (by omega) hc; omega
 have hle : ∀ d c, c + d + 1 = k → p c ≤ c := by
  intro d
  induction d with
  | zero => intro c hc; have := hF.lt c (by omega); omega
  | succ d ih => intro c hc; have := ih (c + 1) (by omega); have := hF.mono c (c + 1) (by omega) (by omega); omega
 have hp : ∀ c, c < k → p c = c := fun c hc => Nat.le_antisymm (hle (k - 1 - c) c (by omega)) (hge c hc)
 refine ⟨H, fun r c hr hc => hF.zero c hc r (by rw [hp c hc]; exact hr), fun i hi => ?_, fun i hi j hj => ?_, U, hC⟩
 ·have := hF.pos i hi; rw [hp i hi] at this; exact this
 ·have := hF.red i hi j hj; rw [hp i hi] at this; exact this
def tl (n : Nat) (H : Mat) (i : Nat) : Int := pr (n - i) fun k => H (i + k) (i + k)
theorem re (n : Nat) (H : Mat) : tl n H n = 1 := by unfold tl; rw [Nat.sub_self]; rfl
theorem iZ {n i : Nat} (H : Mat) (hi : i < n) : tl n H i = H i i * tl n H (i + 1) := by
 unfold tl
 rw [show n - i = (n - (i + 1)) + 1 by omega, jB]
 congr 1
 rw [show (fun k => H (i + (k + 1)) (i + (k + 1))) = fun k => H (i + 1 + k) (i + 1 + k) by funext k; rw [show i + (k + 1) = i + 1 + k by omega]]
theorem TH.tl_pos {n : Nat} {W H : Mat} (h : TH n W H) : ∀ d i, i + d = n → 0 < tl n H i := by
 intro d
 induction d with
 | zero => intro i hi; obtain rfl : i = n := by omega
           rw [re]; omega
 | succ d ih => intro i hi; rw [iZ H (by omega)]; exact Int.mul_pos (h.pos i (by omega)) (ih (i + 1) (by omega))
theorem TH.tl_det {n : Nat} {W H : Mat} (h : TH n W H) : tl n H 0 = ((det n W).natAbs : Int) := by
 obtain ⟨U, hU⟩ := h.ceq
 have h1 : det n H = det n W * det n U := by rw [aY (M' := mm n W U) fun r c hr hc => hU.2 r c hr hc, dg]
 have h2 : det n H = tl n H 0 := by
  rw [cU fun r c hc hr => h.zero r c hr hc]
  unfold tl
  rw [Nat.sub_zero]
  congr 1
  funext i; rw [Nat.zero_add]
 have h3 := h.tl_pos n 0 (by omega)
 rcases hU.1 with e | e
 ·rw [e] at h1; omega
 ·rw [e] at h1; omega
theorem TH.units {n : Nat} {W H : Mat} (h : TH n W H) {i : Nat} (hi : i ≤ n) (t : Vec) : InL n n H fun r => if i ≤ r then tl n H i * t r else 0 := by
 have hdet : det (n - i) (fun a b => H (i + a) (i + b)) = tl n H i := by
  rw [cU fun r c hc hr => h.zero _ _ (by omega) (by omega)]
  rfl
 obtain ⟨d, rfl⟩ : ∃ d, n = i + d := ⟨n - i, by omega⟩
 rw [Nat.add_sub_cancel_left] at hdet
 generalize hB : (fun a b => H (i + a) (i + b) : Mat) = B at hdet
 have hBB : ∀ a b, B a b = H (i + a) (i + b) := fun a b => by rw [← hB]
 generalize hy : mv d (adj d B) (fun k => t (i + k)) = y
 refine ⟨fun j => if j < i then 0 else y (j - i), fun r hr => ?_⟩
 have hs : mv (i + d) H (fun j => if j < i then 0 else y (j - i)) r = sm d fun b => H r (i + b) * y b := by
  show sm (i + d) (fun j => H r j * if j < i then 0 else y (j - i)) = _
  rw [eX, eI fun j hj => by rw [if_pos hj, Int.mul_zero], Int.zero_add]
  refine aQ fun b hb => ?_
  rw [if_neg (by omega), show i + b - i = b by omega]
 rw [hs]
 show (if i ≤ r then tl (i + d) H i * t r else 0) = _
 by_cases e : i ≤ r
 ·rw [if_pos e]
  have e2 : (sm d fun b => H r (i + b) * y b) = mv d B y (r - i) := aQ fun b _ => by rw [hBB, show i + (r - i) = r by omega]
  rw [e2, ← hy, ← jD]
  show _ = sm d fun j => mm d B (adj d B) (r - i) j * t (i + j)
  rw [bW (show r - i < d by omega) fun j hj hne => by rw [eJ B (by omega) hj, bv (Ne.symm hne), Int.mul_zero, Int.zero_mul]]
  rw [eJ B (by omega) (by omega), bq, hdet, Int.mul_one, show i + (r - i) = r by omega]
 ·rw [if_neg e, eI fun b hb => by rw [h.zero r (i + b) (by omega) (by omega), Int.zero_mul]]
theorem TH.dvd {n : Nat} {W H : Mat} (h : TH n W H) {i : Nat} (hi : i < n) {v : Vec} (hv : InL n n H v) (hz : ∀ r, r < i → v r = 0) : H i i ∣ v i := by
 obtain ⟨x, hx⟩ := hv
 have hrow : ∀ j, j < n → (∀ c, c < j → x c = 0) → v j = H j j * x j := fun j hj h0 => by
  rw [hx j hj]
  unfold mv
  rw [bW hj fun c hc hne => ?_]
  rcases Nat.lt_or_ge c j with hlt | hge
  ·rw [h0 c hlt, Int.mul_zero]
  ·rw [h.zero j c (by omega) hc, Int.zero_mul]
 have key : ∀ j, j < i → x j = 0 := fun j => by
  induction j using Nat.strongRecOn with
  | _ j ih =>
   intro hj
   have := hrow j (by omega) fun c hc => ih c hc (by omega)
   rw [hz j hj] at this
   rcases Int.mul_eq_zero.1 this.symm with e | e
   ·have := h.pos j (by omega); omega
   ·exact e
 exact ⟨x i, hrow i hi key⟩
structure TrJ (n i : Nat) (H : Mat) (m : Int) (C : Mat) : Prop where
 inl : ∀ j, j < n → InL n n H fun r => C r j
 top : ∀ j, i ≤ j → j < n → ∀ r, r < i → C r j = 0
 low : ∀ j, j < i → (∀ r, r < j → C r j = 0) ∧ C j j = H j j ∧ ∀ e, j < e → e < i → 0 ≤ C e j ∧ C e j < H e e
 gen : ∀ v, InL n n H v → (∀ r, r < i → v r = 0) → ∃ x y : Vec, ∀ r, r < n → v r = (sm n fun j => if i ≤ j then C r j * x j else 0) + (if i ≤ r then m * y r else 0)
 mod : m = tl n H i
theorem TrJ.congr {n i : Nat} {H C C' : Mat} {m : Int} (h : TrJ n i H m C) (hi : i ≤ n) (he : ∀ r j, r < n → j < n → C' r j = C r j) : TrJ n i H m C' := by
 refine ⟨fun j hj => (h.inl j hj).congr fun r hr => he r j hr hj, fun j h1 h2 r hr => ?_, fun j hj => ⟨fun r hr => ?_, ?_, fun e h1 h2 => ?_⟩, fun v hv hz => ?_, h.mod⟩
 ·rw [he r j (by omega) h2]; exact h.top j h1 h2 r hr
 ·rw [he r j (by omega) (by omega)]; exact (h.low j hj).1 r hr
 ·rw [he j j (by omega) (by omega)]; exact (h.low j hj).2.1
 ·rw [he e j (by omega) (by omega)]; exact (h.low j hj).2.2 e h1 h2
 ·obtain ⟨x, y, hxy⟩ := h.gen v hv hz
  refine ⟨x, y, fun r hr => ?_⟩
  rw [hxy r hr]
  congr 1
  exact aQ fun j hj => by rw [he r j hr hj]
theorem TrJ.reduce {n i : Nat} {W H C C' : Mat} {m : Int} (hH : TH n W H) (h : TrJ n i H m C) (hi : i ≤ n) (t : Mat) (h1 : ∀ r j, r < i → j < n → C' r j = C r j) (h2 : ∀ r j, i ≤ r → r < n → j < n → C' r j = C r j + m * t r j) : TrJ n i H m C' := by
 refine ⟨fun j hj => ?_, fun j a b r hr => ?_, fun j hj => ⟨fun r hr => ?_, ?_, fun e a b => ?_⟩, fun v hv hz => ?_, h.mod⟩
 ·refine ((h.inl j hj).comb (hH.units hi fun r => t r j) 1 1).congr fun r hr => ?_
  rw [← h.mod]
  by_cases e : i ≤ r
  ·rw [h2 r j e hr hj, if_pos e]; omega
  ·rw [h1 r j (by omega) hj, if_neg e]; omega
 ·rw [h1 r j hr b]; exact h.top j a b r hr
 ·rw [h1 r j (by omega) (by omega)]; exact (h.low j hj).1 r hr
 ·rw [h1 j j hj (by omega)]; exact (h.low j hj).2.1
 ·rw [h1 e j b (by omega)]; exact (h.low j hj).2.2 e a b
 ·obtain ⟨x, y, hxy⟩ := h.gen v hv hz
  refine ⟨x, fun r => y r - sm n fun j => if i ≤ j then t r j * x j else 0, fun r hr => ?_⟩
  rw [hxy r hr]
  by_cases e : i ≤ r
  ·rw [if_pos e, if_pos e]
   have : (sm n fun j => if i ≤ j then C' r j * x j else 0) = (sm n fun j => if i ≤ j then C r j * x j else 0) + m * sm n fun j => if i ≤ j then t r j * x j else 0 := by
    rw [← bR, ← dq]
    refine aQ fun j hj => ?_
    by_cases e' : i ≤ j
    ·rw [if_pos e', if_pos e', if_pos e', h2 r j e hr hj]; grind
    ·rw [if_neg e', if_neg e', if_neg e']; omega
   rw [this, Int.mul_sub]; omega
  ·rw [if_neg e, if_neg e]
   congr 1
   exact aQ fun j hj => by rw [h1 r j (by omega) hj]
theorem rf {n i j : Nat} {f g : Nat → Int} (hij : i ≠ j) (hi : i < n) (hj : j < n) (h : ∀ k, k < n → k ≠ i → k ≠ j → f k = g k) : sm n f = sm n g + ((f i - g i) + (f j - g j)) := by
 have h1 : sm n (fun k => f k - g k) = sm n fun k => idM k i * (f i - g i) + idM k j * (f j - g j) := aQ fun k hk => by
  by_cases e1 : k = i
  ·subst e1; rw [bq, bv hij]; omega
  ·by_cases e2 : k = j
   ·subst e2; rw [bq, bv e1]; omega
   ·rw [bv e1, bv e2, h k hk e1 e2]; omega
 rw [gA, dq, bW (f := fun k => idM k i * (f i - g i)) hi fun k _ hne => by rw [bv hne, Int.zero_mul], bW (f := fun k => idM k j * (f j - g j)) hj fun k _ hne => by rw [bv hne, Int.zero_mul], bq, bq] at h1
 omega
theorem TrJ.clear {n i jj : Nat} {H C C' : Mat} {m a b x y : Int} (h : TrJ n i H m C) (hi : i < jj) (hj : jj < n) (hab : a * x + b * y = 1) (h1 : ∀ r, r < n → C' r i = a * C r i + b * C r jj) (h2 : ∀ r, r < n → C' r jj = x * C r jj - y * C r i)
  (h3 : ∀ r j, r < n → j < n → j ≠ i → j ≠ jj → C' r j = C r j) : TrJ n i H m C' := by
 refine ⟨fun j hj' => ?_, fun j a1 a2 r hr => ?_, fun j hj' => ⟨fun r hr => ?_, ?_, fun e a1 a2 => ?_⟩, fun v hv hz => ?_, h.mod⟩
 ·by_cases e1 : j = i
  ·subst e1
   exact ((h.inl j hj').comb (h.inl jj hj) a b).congr fun r hr => h1 r hr
  ·by_cases e2 : j = jj
   ·subst e2
    exact ((h.inl j hj').comb (h.inl i (by omega)) x (-y)).congr fun r hr => by rw [h2 r hr]; grind
   ·exact (h.inl j hj').congr fun r hr => h3 r j hr hj' e1 e2
 ·by_cases e1 : j = i
  ·subst e1; rw [h1 r (by omega), h.top j a1 a2 r hr, h.top jj (by omega) hj r hr]; omega
  ·by_cases e2 : j = jj
   ·subst e2; rw [h2 r (by omega), h.top j a1 a2 r hr, h.top i (by omega) (by omega) r hr]; omega
   ·rw [h3 r j (by omega) a2 e1 e2]; exact h.top j a1 a2 r hr
 ·rw [h3 r j (by omega) (by omega) (by omega) (by omega)]; exact (h.low j hj').1 r hr
 ·rw [h3 j j (by omega) (by omega) (by omega) (by omega)]; exact (h.low j hj').2.1
 ·rw [h3 e j (by omega) (by omega) (by omega) (by omega)]; exact (h.low j hj').2.2 e a1 a2
 ·obtain ⟨X, Y, hxy⟩ := h.gen v hv hz
  refine ⟨fun j => if j = i then x * X i + y * X jj else if j = jj then a * X jj - b * X i else X j, Y, fun r hr => ?_⟩
  rw [hxy r hr]
  congr 1
  rw [rf (f := fun j => if i ≤ j then C r j * X j else 0) (g := fun j => if i ≤ j then C' r j * (if j = i then x * X i + y * X jj else if j = jj then a * X jj - b * X i else X j) else 0) (show i ≠ jj by omega) (by omega) hj fun k hk e1 e2 => by
   simp only [e1, e2, if_false]
   rw [h3 r k hr hk e1 e2]]
  simp only [Nat.le_refl, if_true, show i ≤ jj by omega, show ¬ jj = i by omega, if_false]
  rw [h1 r hr, h2 r hr]
  have : C r i * X i + C r jj * X jj = (a * C r i + b * C r jj) * (x * X i + y * X jj) + (x * C r jj - y * C r i) * (a * X jj - b * X i) := by
   have e1 : (a * C r i + b * C r jj) * (x * X i + y * X jj) + (x * C r jj - y * C r i) * (a * X jj - b * X i) = (a * x + b * y) * (C r i * X i + C r jj * X jj) := by grind
   rw [e1, hab, Int.one_mul]
  omega
theorem TrJ.pivot {n i : Nat} {W H C : Mat} {m a b g : Int} (hH : TH n W H) (h : TrJ n i H m C) (hi : i < n) (hz : ∀ j, i < j → j < n → C i j = 0) (hg : 0 < g) (hab : a * C i i + b * m = g) (hx : g ∣ C i i) (hm : g ∣ m) : g = H i i := by
 have hpos := hH.pos i hi
 refine Int.le_antisymm (Int.le_of_dvd hpos ?_) (Int.le_of_dvd hg ?_)
 ·obtain ⟨x, y, hxy⟩ := h.gen (fun r => H r i) (InL.col H hi) fun r hr => hH.zero r i hr hi
  have := hxy i hi
  rw [if_pos (Nat.le_refl _), bW hi fun j hj hne => ?_, if_pos (Nat.le_refl _)] at this
  ·rw [this]
   exact Int.dvd_add (Int.dvd_mul_of_dvd_left hx) (Int.dvd_mul_of_dvd_left hm)
  ·rcases Nat.lt_or_ge j i with hlt | hge
   ·rw [if_neg (by omega)]
   ·rw [if_pos hge, hz j (by omega) hj, Int.zero_mul]
 ·have h1 : H i i ∣ C i i := hH.dvd (v := fun r => C r i) hi (h.inl i hi) fun r hr => h.top i (Nat.le_refl _) hi r hr
  have h2 : H i i ∣ m := by rw [h.mod, iZ H hi]; exact ⟨_, rfl⟩
  rw [← hab]
  exact Int.dvd_add (Int.dvd_mul_of_dvd_right h1) (Int.dvd_mul_of_dvd_right h2)
theorem TrJ.next {n i : Nat} {W H C C' : Mat} {m a b : Int} (hH : TH n W H) (h : TrJ n i H m C) (hi : i < n) (hz : ∀ j, i < j → j < n → C i j = 0) (hab : a * C i i + b * m = H i i)
  (h1 : ∀ r, r < n → C' r i = if r = i then H i i else a * C r i) (h2 : ∀ r j, r < n → j < i → C' r j = C r j - (C i j / H i i) * C' r i) (h3 : ∀ r j, r < n → i < j → j < n → C' r j = C r j) : TrJ n (i + 1) H (tl n H (i + 1)) C' := by
 have hpos := hH.pos i hi
 have hm := h.mod
 rw [iZ H hi] at hm
 have hL : InL n n H fun r => C' r i := by
  refine ((h.inl i hi).comb (hH.units (i := i) (by omega) fun r => if r = i then b else 0) a 1).congr fun r hr => ?_
  rw [h1 r hr, ← h.mod]
  by_cases e : r = i
  ·subst e; rw [if_pos rfl, if_pos (Nat.le_refl _), if_pos rfl, ← hab]; grind
  ·rw [if_neg e, if_neg e]
   split <;> omega
 have hz' : ∀ r, r < i → C' r i = 0 := fun r hr => by rw [h1 r (by omega), if_neg (by omega), h.top i (Nat.le_refl _) hi r hr, Int.mul_zero]
 refine ⟨fun j hj => ?_, fun j a1 a2 r hr => ?_, fun j hj => ⟨fun r hr => ?_, ?_, fun e a1 a2 => ?_⟩, fun v hv hvz => ?_, rfl⟩
 ·rcases Nat.lt_trichotomy j i with hlt | he | hgt
  ·exact ((h.inl j hj).comb hL 1 (-(C i j / H i i))).congr fun r hr => by rw [h2 r j hr hlt]; grind
  ·subst he; exact hL
  ·exact (h.inl j hj).congr fun r hr => h3 r j hr hgt hj
 ·rw [h3 r j (by omega) (by omega) a2]
  by_cases e : r = i
  ·rw [e]; exact hz j (by omega) a2
  ·exact h.top j (by omega) a2 r (by omega)
 ·by_cases e : j = i
  ·subst e; exact hz' r hr
  ·rw [h2 r j (by omega) (by omega), hz' r (by omega), (h.low j (by omega)).1 r hr]; omega
 ·by_cases e : j = i
  ·subst e; rw [h1 j hi, if_pos rfl]
  ·rw [h2 j j (by omega) (by omega), hz' j (by omega), (h.low j (by omega)).2.1]; omega
 ·by_cases e' : j = i
  ·omega
  ·rw [h2 e j (by omega) (by omega)]
   by_cases e2 : e = i
   ·subst e2
    rw [h1 e hi, if_pos rfl]
    have := Int.emod_add_mul_ediv (C e j) (H e e)
    have h5 : C e j - C e j / H e e * H e e = C e j % H e e := by grind
    rw [h5]
    exact ⟨Int.emod_nonneg _ (by omega), Int.emod_lt_of_pos _ hpos⟩
   ·rw [hz' e (by omega), Int.mul_zero, Int.sub_zero]
    exact (h.low j (by omega)).2.2 e a1 (by omega)
 ·obtain ⟨x, y, hxy⟩ := h.gen v hv fun r hr => hvz r (by omega)
  have hrow := hxy i hi
  rw [hvz i (by omega), bW hi fun j hj hne => ?_, if_pos (Nat.le_refl _), if_pos (Nat.le_refl _)] at hrow
  ·obtain ⟨al, hal⟩ : H i i ∣ C i i := hH.dvd (v := fun r => C r i) hi (h.inl i hi) fun r hr => h.top i (Nat.le_refl _) hi r hr
   have hco : a * al + b * tl n H (i + 1) = 1 := by
    have : H i i * (a * al + b * tl n H (i + 1)) = H i i * 1 := by rw [Int.mul_one]; conv => rhs; rw [← hab, hal, hm]
                                                                   grind
    exact Int.eq_of_mul_eq_mul_left (by omega) this
   have hxi : x i = tl n H (i + 1) * (b * x i - a * y i) := by
    have e1 : al * x i + tl n H (i + 1) * y i = 0 := by
     have : H i i * (al * x i + tl n H (i + 1) * y i) = H i i * 0 := by rw [Int.mul_zero, hrow, hal, hm]; grind
     exact Int.eq_of_mul_eq_mul_left (by omega) this
    have e2 : x i = (a * al + b * tl n H (i + 1)) * x i := by rw [hco, Int.one_mul]
    rw [e2]
    grind
   refine ⟨x, fun r => C r i * (b * x i - a * y i) + H i i * y r, fun r hr => ?_⟩
   rw [hxy r hr]
   have hsum : (sm n fun j => if i ≤ j then C r j * x j else 0) = (sm n fun j => if i + 1 ≤ j then C' r j * x j else 0) + C r i * x i := by
    have e1 : (sm n fun j => if i ≤ j then C r j * x j else 0) = sm n fun j => (if i + 1 ≤ j then C' r j * x j else 0) + (if j = i then C r i * x i else 0) := aQ fun j hj => by
     by_cases e : j = i
     ·subst e; rw [if_pos (Nat.le_refl _), if_neg (by omega), if_pos rfl]; omega
     ·rw [if_neg e]
      by_cases e' : i ≤ j
      ·rw [if_pos e', if_pos (by omega), h3 r j hr (by omega) hj]; omega
      ·rw [if_neg e', if_neg (by omega)]; rfl
    rw [e1, dq, bW (f := fun j => if j = i then C r i * x i else 0) hi fun j _ hne => if_neg hne]
    rw [if_pos rfl]
   rw [hsum]
   by_cases e : i + 1 ≤ r
   ·rw [if_pos e, if_pos (by omega), hm]
    have : C r i * x i = C r i * (tl n H (i + 1) * (b * x i - a * y i)) := by rw [← hxi]
    rw [this]
    grind
   ·rw [if_neg e]
    by_cases e2 : r = i
    ·subst e2; rw [if_pos (Nat.le_refl _)]; omega
    ·rw [if_neg (by omega), h.top i (Nat.le_refl _) hi r (by omega)]; omega
  ·rcases Nat.lt_or_ge j i with hlt | hge
   ·rw [if_neg (by omega)]
   ·rw [if_pos hge, hz j (by omega) hj, Int.zero_mul]
theorem TrJ.final {n : Nat} {W H C : Mat} {m : Int} (hH : TH n W H) (h : TrJ n n H m C) {r j : Nat} (hr : r < n) (hj : j < n) : C r j = H r j := by
 rcases lO n (fun r => C r j - H r j) with h0 | ⟨e, he, h1, h2⟩
 ·have : C r j - H r j = 0 := h0 r hr
  omega
 ·exfalso
  have hd := hH.dvd he ((h.inl j hj).sub (InL.col H hj)) fun r hr => h2 r hr
  have h1 : C e j - H e j ≠ 0 := h1
  have hd : H e e ∣ C e j - H e j := hd
  have hl := h.low j hj
  rcases Nat.lt_trichotomy e j with hlt | heq | hgt
  ·rw [hl.1 e hlt, hH.zero e j hlt hj] at h1; omega
  ·subst heq; rw [hl.2.1] at h1; omega
  ·have r1 := hl.2.2 e hgt he
   have r2 := hH.red e he j hgt
   obtain ⟨q, hq⟩ := hd
   have hpos := hH.pos e he
   have : q = 0 := by
    rcases Int.lt_trichotomy q 0 with hh | hh | hh
    ·have : H e e * q ≤ H e e * (-1) := Int.mul_le_mul_of_nonneg_left (by omega) (by omega)
     omega
    ·exact hh
    ·have : H e e * 1 ≤ H e e * q := Int.mul_le_mul_of_nonneg_left (by omega) (by omega)
     omega
   subst this
   omega
theorem ob {n : Nat} {W H C : Mat} (hH : TH n W H) (t : Mat) (h : ∀ r j, r < n → j < n → C r j = W r j + tl n H 0 * t r j) : TrJ n 0 H (tl n H 0) C := by
 obtain ⟨U, hU⟩ := hH.ceq
 have h0 : TrJ n 0 H (tl n H 0) W := by
  refine ⟨fun j hj => (hU.inL _).2 (InL.col W hj), fun j _ _ r hr => by omega, fun j hj => by omega, fun v hv _ => ?_, rfl⟩
  obtain ⟨x, hx⟩ := (hU.inL v).1 hv
  refine ⟨x, fun _ => 0, fun r hr => ?_⟩
  rw [hx r hr, if_pos (Nat.zero_le _), Int.mul_zero, Int.add_zero]
  exact aQ fun j _ => by rw [if_pos (Nat.zero_le _)]
 exact h0.reduce hH (Nat.zero_le _) t (fun r j hr => by omega) fun r j _ hr hj => h r j hr hj
end Go.LA
namespace Go.LA
def nT (c : Nat) (V P : Mat) : Mat := fun j x => sm c fun b => V j b * P x b
def bl (N : Mat) (l : Nat → Nat) (k j x : Nat) : Int := det (k + 1) fun a b => N (if a < k then a else j) (if b < k then l b else x)
def ext (l : Nat → Nat) (k ρ : Nat) : Nat → Nat := fun a => if a < k then l a else ρ
theorem pA {N N' : Mat} {l l' : Nat → Nat} {k j j' x : Nat} (hl : ∀ a, a < k → l a = l' a) (h : ∀ a y, a < k → N a y = N' a y) (hj : ∀ y, N j y = N' j' y) : bl N l k j x = bl N' l' k j' x := by
 unfold bl
 refine aY fun a b ha hb => ?_
 have e : (if b < k then l b else x) = if b < k then l' b else x := by
  by_cases e : b < k
  ·rw [if_pos e, if_pos e, hl b e]
  ·rw [if_neg e, if_neg e]
 rw [e]
 by_cases e1 : a < k
 ·rw [if_pos e1, if_pos e1]; exact h a _ e1
 ·rw [if_neg e1, if_neg e1]; exact hj _
theorem nC (N : Mat) (l : Nat → Nat) (k x : Nat) : bl N l k k x = det (k + 1) fun a b => N a (ext l k x b) := by
 unfold bl ext
 refine aY fun a b ha hb => ?_
 have e : (if a < k then a else k) = a := by split <;> omega
 rw [e]
theorem qv {N : Mat} {l : Nat → Nat} {k : Nat} (hz : (det k fun a b => N a (l b)) ≠ 0) (ρ j x : Nat) :
  bl N (ext l k ρ) (k + 1) j x * (det k fun a b => N a (l b)) = bl N l k k ρ * bl N l k j x - bl N l k j ρ * bl N l k k x := by
 generalize hM : (fun a b => N a (if b < k then l b else if b = k then ρ else x) : Mat) = M
 have hMv : ∀ a b, M a b = N a (if b < k then l b else if b = k then ρ else x) := fun a b => by rw [← hM]
 have hd : det k M = det k fun a b => N a (l b) := aY fun a b _ hb => by rw [hMv, if_pos hb]
 have h := kK (M := M) (k := k) (by rw [hd]; exact hz) j (k + 1)
 have k0 : ¬ k < k := by omega
 have k1 : ¬ k + 1 < k := by omega
 have k2 : ¬ k + 1 = k := by omega
 have k3 : ¬ k + 1 < k + 1 := by omega
 have b1 : ∀ i, bm M k i k = bl N l k i ρ := fun i => aY fun a b _ hb => by
  unfold brd
  rw [hMv]
  by_cases e : b < k
  ·simp only [e, if_true]
  ·simp only [e, if_false, k0, if_true]
 have b2 : ∀ i, bm M k i (k + 1) = bl N l k i x := fun i => aY fun a b _ hb => by
  unfold brd
  rw [hMv]
  by_cases e : b < k
  ·simp only [e, if_true]
  ·simp only [e, if_false, k1, k2]
 have b3 : bm M (k + 1) j (k + 1) = bl N (ext l k ρ) (k + 1) j x := aY fun a b _ hb => by
  unfold brd ext
  rw [hMv]
  by_cases e : b < k
  ·have e1 : b < k + 1 := by omega
   simp only [e, e1, if_true]
  ·by_cases e' : b = k
   ·have e1 : b < k + 1 := by omega
    simp only [e', if_true, k0, if_false, show k < k + 1 by omega]
   ·have e1 : ¬ b < k + 1 := by omega
    simp only [e1, if_false, k1, k2]
 rw [b3, hd, b1, b2, b1, b2] at h
 exact h
theorem rg {N : Mat} {l : Nat → Nat} {c k x : Nat} (hz : (det k fun a b => N a (l b)) ≠ 0) (h0 : ∀ j, k ≤ j → j < c → bl N l k j x = 0) :
  ∃ co : Vec, ∀ j, j < c → (det k fun a b => N a (l b)) * N j x = sm k fun a => co a * N j (l a) := by
 generalize hM : (fun a b => N a (if b < k then l b else x) : Mat) = M
 have hMv : ∀ a b, M a b = N a (if b < k then l b else x) := fun a b => by rw [← hM]
 have hd : det k M = det k fun a b => N a (l b) := aY fun a b _ hb => by rw [hMv, if_pos hb]
 refine ⟨fun a => sm k fun b => adj k M a b * N b x, fun j hj => ?_⟩
 have hs : sch k M j k = 0 := by
  rcases Nat.lt_or_ge j k with h | h
  ·unfold sch
   have : (sm k fun a => sm k fun b => M j a * (adj k M a b * M b k)) = sm k fun b => mm k M (adj k M) j b * M b k := by
    rw [fk]
    refine aQ fun b _ => ?_
    unfold mm
    rw [← ew]
    exact aQ fun a _ => by rw [Int.mul_assoc]
   rw [this, bW h fun b hb hne => by rw [eJ M h hb, bv (Ne.symm hne), Int.mul_zero, Int.zero_mul]]
   rw [eJ M h h, bq, Int.mul_one]
   omega
  ·rw [← mE (by rw [hd]; exact hz)]
   rw [← h0 j h hj]
   exact aY fun a b _ hb => by
    unfold brd
    rw [hMv]
    by_cases e : b < k
    ·simp only [e, if_true]
    ·simp only [e, if_false, show ¬ k < k by omega]
 unfold sch at hs
 rw [hd, hMv j k, if_neg (by omega)] at hs
 have : (sm k fun a => sm k fun b => M j a * (adj k M a b * M b k)) = sm k fun a => (sm k fun b => adj k M a b * N b x) * N j (l a) := aQ fun a ha => by
  rw [← ew]
  exact aQ fun b hb => by rw [hMv j a, hMv b k, if_pos ha, if_neg (by omega)]; grind
 rw [this] at hs
 show _ = sm k fun a => (sm k fun b => adj k M a b * N b x) * N j (l a)
 omega
theorem pB {c : Nat} {V P : Mat} (hV : Uni c V) (x : Nat) {i : Nat} (hi : i < c) : (sm c fun j => uinv c V i j * nT c V P j x) = P x i := by
 have h : mv c (mm c (uinv c V) V) (fun b => P x b) i = mv c (uinv c V) (mv c V fun b => P x b) i := jD c c _ _ _ i
 have e : mv c (uinv c V) (mv c V fun b => P x b) i = sm c fun j => uinv c V i j * nT c V P j x := rfl
 rw [← e, ← h, cL (A' := idM) (fun j hj => hV.inv_mul hi hj) fun _ _ => rfl]
 show (sm c fun j => idM i j * P x j) = _
 rw [bW hi fun j _ hne => by rw [bv (Ne.symm hne), Int.zero_mul]]
 rw [bq, Int.one_mul]
def Dep (c : Nat) (P : Mat) (l : Nat → Nat) (k x : Nat) : Prop := ∃ (d : Int) (co : Vec), d ≠ 0 ∧ ∀ b, b < c → d * P x b = sm k fun a => co a * P (l a) b
theorem rh {c : Nat} {V P : Mat} {l : Nat → Nat} {k x : Nat} (hV : Uni c V) (hz : (det k fun a b => nT c V P a (l b)) ≠ 0) (h0 : ∀ j, k ≤ j → j < c → bl (nT c V P) l k j x = 0) : Dep c P l k x := by
 obtain ⟨co, hco⟩ := rg hz h0
 refine ⟨_, co, hz, fun i hi => ?_⟩
 generalize (det k fun a b => nT c V P a (l b)) = d at *
 rw [← pB (P := P) hV x hi, ← bR]
 have e1 : (sm c fun j => d * (uinv c V i j * nT c V P j x)) = sm c fun j => sm k fun a => co a * (uinv c V i j * nT c V P j (l a)) := aQ fun j hj => by
  have := hco j hj
  have e : d * (uinv c V i j * nT c V P j x) = uinv c V i j * (d * nT c V P j x) := by grind
  rw [e, this, ← bR]
  exact aQ fun a _ => by grind
 rw [e1, fk]
 refine aQ fun a _ => ?_
 rw [bR, pB hV (l a) hi]
structure InJ (R c : Nat) (P : Mat) (x0 k : Nat) (l : Nat → Nat) (V : Mat) : Prop where
 kc : k ≤ c
 uni : Uni c V
 lt : ∀ a, a < k → l a < x0
 mono : ∀ a b, a < b → b < k → l a < l b
 nz : (det k fun a b => nT c V P a (l b)) ≠ 0
 dep : ∀ x, x < x0 → (∃ a, a < k ∧ l a = x) ∨ ∃ kx, kx ≤ k ∧ (∀ a, a < kx → l a < x) ∧ (∀ a, kx ≤ a → a < k → x < l a) ∧ Dep c P l kx x
theorem oc (R c : Nat) (P : Mat) (l : Nat → Nat) : InJ R c P 0 0 l idM := ⟨Nat.zero_le _, mH c, fun a h => by omega, fun a b _ h => by omega, by rw [dx]; omega, fun x hx => by omega⟩
theorem InJ.skip {R c x0 k : Nat} {P V : Mat} {l : Nat → Nat} (h : InJ R c P x0 k l V) (h0 : ∀ j, k ≤ j → j < c → bl (nT c V P) l k j x0 = 0) : InJ R c P (x0 + 1) k l V :=
 ⟨h.kc, h.uni, fun a ha => by have := h.lt a ha; omega, h.mono, h.nz, fun x hx => by
  by_cases e : x = x0
  ·subst e; exact .inr ⟨k, Nat.le_refl _, h.lt, fun a h1 h2 => by omega, rh h.uni h.nz h0⟩
  ·exact h.dep x (by omega)⟩
theorem ib {c p q : Nat} (V P : Mat) (j x : Nat) : nT c (swp V p q) P j x = nT c V P (if j = q then p else if j = p then q else j) x := by
 unfold nT
 refine aQ fun b _ => ?_
 congr 1
 unfold swp rw'
 by_cases e1 : j = q
 ·rw [if_pos e1, if_pos e1]
 ·rw [if_neg e1, if_neg e1]
  by_cases e2 : j = p
  ·rw [if_pos e2, if_pos e2]
  ·rw [if_neg e2, if_neg e2]
theorem Uni.swap {c p q : Nat} {V : Mat} (h : Uni c V) (hp : p < c) (hq : q < c) : Uni c (swp V p q) := by
 by_cases e : p = q
 ·subst e
  exact h.congr fun r s _ _ => by
   unfold swp rw'
   by_cases e : r = p
   ·rw [if_pos e, e]
   ·rw [if_neg e, if_neg e]
 ·unfold Uni
  rw [(cG c).swap V e hp hq]
  rcases h with h | h <;> rw [h] <;> simp
theorem nD {c p q k : Nat} (V P : Mat) (l : Nat → Nat) (hp : k ≤ p) (hq : k ≤ q) (j x : Nat) : bl (nT c (swp V p q) P) l k j x = bl (nT c V P) l k (if j = q then p else if j = p then q else j) x :=
 pA (fun _ _ => rfl) (fun a y ha => by rw [ib, if_neg (by omega), if_neg (by omega)]) fun y => ib V P j y
theorem InJ.swap {R c x0 k p q : Nat} {P V : Mat} {l : Nat → Nat} (h : InJ R c P x0 k l V) (hp : k ≤ p) (hq : k ≤ q) (hpc : p < c) (hqc : q < c) : InJ R c P x0 k l (swp V p q) :=
 ⟨h.kc, h.uni.swap hpc hqc, h.lt, h.mono, by rw [aY (M' := fun a b => nT c V P a (l b)) fun a b ha _ => by rw [ib, if_neg (by omega), if_neg (by omega)]]; exact h.nz, h.dep⟩
theorem InJ.take {R c x0 k : Nat} {P V : Mat} {l : Nat → Nat} (h : InJ R c P x0 k l V) (hk : k < c) (hz : bl (nT c V P) l k k x0 ≠ 0) : InJ R c P (x0 + 1) (k + 1) (ext l k x0) V := by
 have hl : ∀ a, a < k → ext l k x0 a = l a := fun a ha => if_pos ha
 have hd : ∀ {kx x : Nat}, kx ≤ k → Dep c P l kx x → Dep c P (ext l k x0) kx x := fun hkx ⟨d, co, h1, h2⟩ => ⟨d, co, h1, fun b hb => by rw [h2 b hb]; exact aQ fun a ha => by rw [hl a (by omega)]⟩
 refine ⟨hk, h.uni, fun a ha => ?_, fun a b h1 h2 => ?_, by rw [← nC]; exact hz, fun x hx => ?_⟩
 ·unfold ext; split
  ·have := h.lt a (by assumption); omega
  ·omega
 ·rw [hl a (by omega)]
  unfold ext; split
  ·exact h.mono a b h1 (by assumption)
  ·exact h.lt a (by omega)
 ·by_cases e : x = x0
  ·exact .inl ⟨k, by omega, by unfold ext; rw [if_neg (by omega), e]⟩
  ·rcases h.dep x (by omega) with ⟨a, ha, e1⟩ | ⟨kx, h1, h2, h3, h4⟩
   ·exact .inl ⟨a, by omega, by rw [hl a ha, e1]⟩
   ·refine .inr ⟨kx, by omega, fun a ha => by rw [hl a (by omega)]; exact h2 a ha, fun a g1 g2 => ?_, hd h1 h4⟩
    by_cases e2 : a < k
    ·rw [hl a e2]; exact h3 a g1 e2
    ·unfold ext; rw [if_neg e2]; omega
theorem InJ.ends {rows c k : Nat} {P V : Mat} {l : Nat → Nat} (h : InJ (rows + c) c P (rows + c) k l V) (hP : ∀ j b, j < c → b < c → P (rows + j) b = idM j b) : k = c := by
 have hkc := h.kc
 rcases Nat.lt_or_ge k c with hk | hk
 ·exfalso
  have key : ∀ j, j < c → ∃ (d : Int) (co : Vec), d ≠ 0 ∧ ∀ b, b < c → d * idM j b = sm k fun a => co a * P (l a) b := fun j hj => by
   rcases h.dep (rows + j) (by omega) with ⟨a, ha, e⟩ | ⟨kx, h1, h2, h3, d, co, hd, hco⟩
   ·refine ⟨1, fun i => idM i a, by omega, fun b hb => ?_⟩
    show _ = sm k fun i => idM i a * P (l i) b
    rw [bW ha fun i _ hne => by rw [bv hne, Int.zero_mul]]
    rw [bq, e, hP j b hj hb]
   ·refine ⟨d, fun i => if i < kx then co i else 0, hd, fun b hb => ?_⟩
    show _ = sm k fun i => (if i < kx then co i else 0) * P (l i) b
    rw [← hP j b hj hb, hco b hb]
    obtain ⟨m, rfl⟩ : ∃ m, k = kx + m := ⟨k - kx, by omega⟩
    rw [eX, eI (n := m) fun i _ => by rw [if_neg (by omega), Int.zero_mul]]
    rw [Int.add_zero]
    exact aQ fun i hi => by rw [if_pos hi]
  let d : Nat → Int := fun j => if hj : j < c then Classical.choose (key j hj) else 1
  let co : Nat → Vec := fun j => if hj : j < c then Classical.choose (Classical.choose_spec (key j hj)) else fun _ => 0
  have hk2 : ∀ j, j < c → d j ≠ 0 ∧ ∀ b, b < c → d j * idM j b = sm k fun a => co j a * P (l a) b := fun j hj => by
   have := Classical.choose_spec (Classical.choose_spec (key j hj))
   simp only [d, co, dif_pos hj]
   exact this
  have hm : ∀ j b, j < c → b < c → mm c (fun j a => if a < k then co j a else 0) (fun a b => if a < k then P (l a) b else 0) j b = d j * idM j b := fun j b hj hb => by
   rw [(hk2 j hj).2 b hb]
   show sm c (fun i => (if i < k then co j i else 0) * (if i < k then P (l i) b else 0)) = _
   obtain ⟨m, rfl⟩ : ∃ m, c = k + m := ⟨c - k, by omega⟩
   rw [eX, eI (n := m) fun i _ => by rw [if_neg (by omega), Int.zero_mul], Int.add_zero]
   exact aQ fun i hi => by rw [if_pos hi, if_pos hi]
  have h1 := dg c (fun j a => if a < k then co j a else 0) (fun a b => if a < k then P (l a) b else 0)
  rw [(cG c).zrow (M := fun a b => if a < k then P (l a) b else 0) hk fun b _ => if_neg (by omega), Int.mul_zero, aY (M' := fun j b => d j * idM j b) hm, cU fun r b _ hr => by rw [bv (by omega), Int.mul_zero]] at h1
  have hpr : ∀ n, n ≤ c → pr n (fun i => d i * idM i i) ≠ 0 := by
   intro n
   induction n with
   | zero => intro _; show (1 : Int) ≠ 0; omega
   | succ n ih =>
    intro hn e
    rw [pr] at e
    rcases Int.mul_eq_zero.1 e with e | e
    ·exact ih (by omega) e
    ·rw [bq, Int.mul_one] at e
     exact (hk2 n (by omega)).1 e
  exact hpr c (Nat.le_refl _) h1
 ·omega
theorem mK {n : Nat} {A : Mat} (h : det n (fun a b => A b a) ≠ 0) : det n A ≠ 0 := by
 intro h0
 generalize hB : (fun a b => A b a : Mat) = B at h
 have hBv : ∀ a b, B a b = A b a := fun a b => by rw [← hB]
 have h1 : ∀ i j, i < n → j < n → mm n (fun a b => adj n B b a) A i j = det n B * idM i j := fun i j hi hj => by
  have := eJ B hj hi
  have e : mm n (fun a b => adj n B b a) A i j = mm n B (adj n B) j i := aQ fun k _ => by rw [hBv, Int.mul_comm]
  rw [e, this]
  by_cases e' : i = j
  ·rw [e']
  ·rw [bv e', bv (Ne.symm e')]
 have h2 := dg n (fun a b => adj n B b a) A
 rw [h0, Int.mul_zero, aY (M' := fun i j => det n B * idM i j) h1, cU fun r c _ hr => by rw [bv (by omega), Int.mul_zero], fN n (det n B) fun i _ => by rw [bq, Int.mul_one]] at h2
 exact mF h n h2
theorem InJ.det {R c x0 : Nat} {P V : Mat} {l : Nat → Nat} (h : InJ R c P x0 c l V) : Go.LA.det c (fun a b => P (l a) b) ≠ 0 := by
 refine mK fun e => h.nz ?_
 have : Go.LA.det c (fun a b => nT c V P a (l b)) = Go.LA.det c (mm c V fun a b => P (l b) a) := aY fun a b _ _ => rfl
 rw [this, dg, e, Int.mul_zero]
theorem InJ.hf {R c : Nat} {P V : Mat} {l : Nat → Nat} {H U : Mat} (h : InJ R c P R c l V) (hH : TH c (fun a b => P (l a) b) H) (hU : CEq c c (fun a b => P (l a) b) H U) : HF R c (mm c P U) c l := by
 have hrow : ∀ a b, a < c → b < c → mm c P U (l a) b = H a b := fun a b ha hb => (hU.2 a b ha hb).symm
 refine ⟨Nat.le_refl _, h.lt, h.mono, fun a ha x hx => ?_, fun a ha => ?_, fun a ha j hj => ?_, fun a h1 h2 => by omega⟩
 ·rcases h.dep x (by have := h.lt a ha; omega) with ⟨a', ha', e⟩ | ⟨kx, h1, h2, h3, d, co, hd, hco⟩
  ·subst e
   have hlt : a' < a := by
    rcases Nat.lt_trichotomy a' a with g | g | g
    ·exact g
    ·subst g; omega
    ·have := h.mono a a' g ha'; omega
   rw [hrow a' a ha' ha]; exact hH.zero a' a hlt ha
  ·have hka : kx ≤ a := by
    rcases Nat.lt_or_ge a kx with g | g
    ·have := h2 a g; omega
    ·exact g
   have : d * mm c P U x a = 0 := by
    unfold mm
    rw [← bR, aQ (g := fun b => sm kx fun a' => co a' * (P (l a') b * U b a)) fun b hb => by
     rw [← Int.mul_assoc, hco b hb, ← ew]
     exact aQ fun a' _ => by rw [Int.mul_assoc]]
    rw [fk]
    refine eI fun a' ha' => ?_
    rw [bR]
    have : (sm c fun b => P (l a') b * U b a) = H a' a := hrow a' a (by omega) ha
    rw [this, hH.zero a' a (by omega) ha, Int.mul_zero]
   rcases Int.mul_eq_zero.1 this with e | e
   ·exact absurd e hd
   ·exact e
 ·rw [hrow a a ha ha]; exact hH.pos a ha
 ·rw [hrow a a ha ha, hrow a j ha (by omega)]; exact hH.red a ha j hj
theorem HF.cut {R rows cols k : Nat} {H : Mat} {p : Nat → Nat} (h : HF R cols H k p) (hr : rows ≤ R) : ∃ k', k' ≤ k ∧ (∀ a, a < k → (p a < rows ↔ a < k')) ∧ HF rows cols H k' p := by
 have : ∃ k', k' ≤ k ∧ ∀ a, a < k → (p a < rows ↔ a < k') := by
  have hi : ∀ n, n ≤ k → ∃ k', k' ≤ n ∧ ∀ a, a < n → (p a < rows ↔ a < k') := by
   intro n
   induction n with
   | zero => intro _; exact ⟨0, by omega, fun a h => by omega⟩
   | succ n ih =>
    intro hn
    obtain ⟨k', h1, h2⟩ := ih (by omega)
    by_cases e : p n < rows
    ·refine ⟨n + 1, Nat.le_refl _, fun a ha => ⟨fun _ => ha, fun _ => ?_⟩⟩
     by_cases e' : a = n
     ·rw [e']; exact e
     ·have := h.mono a n (by omega) (by omega); omega
    ·refine ⟨k', by omega, fun a ha => ?_⟩
     by_cases e' : a = n
     ·subst e'; exact ⟨fun h => absurd h e, fun h => by omega⟩
     ·exact h2 a (by omega)
  exact hi k (Nat.le_refl _)
 obtain ⟨k', h1, h2⟩ := this
 have hkc := h.kc
 refine ⟨k', h1, h2, by omega, fun c hc => (h2 c (by omega)).2 hc, fun c c' a b => h.mono c c' a (by omega), fun c hc => h.zero c (by omega), fun c hc => h.pos c (by omega), fun c hc => h.red c (by omega), fun c hc hc' r hr' => ?_⟩
 rcases Nat.lt_or_ge c k with g | g
 ·have : ¬ p c < rows := fun e => by have := (h2 c g).1 e; omega
  exact h.zero c g r (by omega)
 ·exact h.rest c g hc' r (by omega)
end Go.LA
