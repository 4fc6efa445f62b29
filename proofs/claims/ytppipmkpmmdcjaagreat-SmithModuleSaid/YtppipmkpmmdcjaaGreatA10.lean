import Derived.Test.YtppipmkpmmdcjaaGreatA09
namespace Go.LA
def eadd (i j : Nat) (q : Int) : Mat := fun a b => idM a b + (if a = j ∧ b = i then q else 0)
def cadd (M : Mat) (i j : Nat) (q : Int) : Mat := fun r c => if c = i then M r i + q * M r j else M r c
def cswp (M : Mat) (i j : Nat) : Mat := fun r c => M r (if c = i then j else if c = j then i else c)
def cneg (M : Mat) (i : Nat) : Mat := fun r c => if c = i then - M r i else M r c
theorem nc {n i j : Nat} (M : Mat) (q : Int) (_hi : i < n) (hj : j < n) (r c : Nat) (hc : c < n) : mm n M (eadd i j q) r c = cadd M i j q r c := by
 unfold mm eadd
 have : (sm n fun k => M r k * (idM k c + if k = j ∧ c = i then q else 0)) = (sm n fun k => M r k * idM k c) + sm n fun k => M r k * (if k = j ∧ c = i then q else 0) := by
  rw [← dH]; exact aX fun k _ => by rw [Int.mul_add]
 rw [this, show (sm n fun k => M r k * idM k c) = M r c from mp M r c hc, bV hj fun k _ hne => by rw [if_neg (fun h => hne h.1), Int.mul_zero]]
 unfold cadd
 by_cases e : c = i
 ·rw [if_pos ⟨rfl, e⟩, if_pos e, e]; grind
 ·rw [if_neg (fun h => e h.2), if_neg e, Int.mul_zero, Int.add_zero]
theorem je {n i j : Nat} (hne : i ≠ j) (q : Int) : det n (eadd i j q) = 1 := by
 have hd : ∀ a, eadd i j q a a = 1 := fun a => by unfold eadd; rw [bE, if_neg (fun h => hne (h.2.symm.trans h.1))]; rfl
 rcases Nat.lt_or_gt_of_ne hne with h | h
 ·rw [dG fun r c _ hr => by unfold eadd; rw [bN (by omega), if_neg (by omega)]; rfl]
  rw [gV n 1 fun a _ => hd a, Int.one_pow]
 ·rw [im fun r c _ hc => by unfold eadd; rw [bN (by omega), if_neg (by omega)]; rfl]
  rw [gV n 1 fun a _ => hd a, Int.one_pow]
theorem po {n i j : Nat} (M : Mat) (hi : i < n) (hj : j < n) (r c : Nat) (hc : c < n) : mm n M (swp idM i j) r c = cswp M i j r c := by
 unfold mm cswp
 have hlt : (if c = i then j else if c = j then i else c) < n := by split; exact hj; split; exact hi; exact hc
 rw [bV hlt]
 ·have : swp idM i j (if c = i then j else if c = j then i else c) c = 1 := by
   unfold swp rw'
   by_cases e1 : c = i
   ·rw [if_pos e1, if_pos rfl, e1, bE]
   ·rw [if_neg e1]
    by_cases e2 : c = j
    ·rw [if_pos e2]
     by_cases e3 : i = j
     ·omega
     ·rw [if_neg e3, if_pos rfl, e2, bE]
    ·rw [if_neg e2, if_neg e2, if_neg e1, bE]
  rw [this, Int.mul_one]
 ·intro k hk hne
  have : swp idM i j k c = 0 := by
   unfold swp rw'
   by_cases e1 : k = j
   ·rw [if_pos e1]
    exact bN fun h => hne (by rw [if_pos h.symm, e1])
   ·rw [if_neg e1]
    by_cases e2 : k = i
    ·rw [if_pos e2]
     exact bN fun h => by
      by_cases e3 : c = i
      ·omega
      ·exact hne (by rw [if_neg e3, if_pos h.symm, e2])
    ·rw [if_neg e2]
     refine bN fun h => ?_
     subst h
     exact hne (by rw [if_neg e2, if_neg e1])
  rw [this, Int.mul_zero]
theorem nd {n i j : Nat} (hne : i ≠ j) (hi : i < n) (hj : j < n) : det n (swp idM i j) = -1 := by rw [(dg n).swap idM hne hi hj, iH]
def eneg (i : Nat) : Mat := fun a b => if a = b then (if a = i then -1 else 1) else 0
theorem qd {n i : Nat} (M : Mat) (r c : Nat) (hc : c < n) : mm n M (eneg i) r c = cneg M i r c := by
 unfold mm
 rw [bV hc fun k _ hne => by unfold eneg; rw [if_neg hne, Int.mul_zero]]
 unfold eneg cneg
 rw [if_pos rfl]
 by_cases e : c = i
 ·rw [if_pos e, if_pos e, e]; omega
 ·rw [if_neg e, if_neg e, Int.mul_one]
theorem ot {n i : Nat} (hi : i < n) : det n (eneg i) = -1 := by
 rw [dG fun r c _ hr => by unfold eneg; rw [if_neg (by omega)]]
 have : ∀ m, pr m (fun a => eneg i a a) = if i < m then -1 else 1 := by
  intro m
  induction m with
  | zero => rfl
  | succ m ih =>
   rw [pr, ih]
   unfold eneg
   rw [if_pos rfl]
   by_cases e : m = i
   ·rw [if_pos e, if_neg (by omega), if_pos (by omega)]; rfl
   ·rw [if_neg e]
    by_cases e' : i < m
    ·rw [if_pos e', if_pos (by omega)]; rfl
    ·rw [if_neg e', if_neg (by omega)]; rfl
 rw [this, if_pos hi]
def CEq (rows cols : Nat) (A H U : Mat) : Prop := Uni cols U ∧ ∀ r c, r < rows → c < cols → H r c = mm cols A U r c
theorem kZ (rows cols : Nat) (A : Mat) : CEq rows cols A A idM := ⟨kY cols, fun r c _ hc => (mp A r c hc).symm⟩
theorem CEq.congr {rows cols : Nat} {A H H' U U' : Mat} (h : CEq rows cols A H U) (hH : ∀ r c, r < rows → c < cols → H' r c = H r c) (hU : ∀ r c, r < cols → c < cols → U' r c = U r c) : CEq rows cols A H' U' :=
 ⟨h.1.congr fun r c hr hc => (hU r c hr hc).symm, fun r c hr hc => by rw [hH r c hr hc, h.2 r c hr hc]; exact cC (fun _ _ => rfl) fun k hk => (hU k c hk hc).symm⟩
theorem CEq.step {rows cols : Nat} {A H U E : Mat} (h : CEq rows cols A H U) (hE : Uni cols E) : CEq rows cols A (mm cols H E) (mm cols U E) :=
 ⟨h.1.mul hE, fun r c hr _ => by rw [← cM]; exact cC (fun k hk => h.2 r k hr hk) fun _ _ => rfl⟩
theorem CEq.add {rows cols i j : Nat} {A H U : Mat} (h : CEq rows cols A H U) (q : Int) (hne : i ≠ j) (hi : i < cols) (hj : j < cols) : CEq rows cols A (cadd H i j q) (cadd U i j q) :=
 (h.step (E := eadd i j q) (.inl (je hne q))).congr (fun r c _ hc => (nc H q hi hj r c hc).symm) fun r c _ hc => (nc U q hi hj r c hc).symm
theorem CEq.swap {rows cols i j : Nat} {A H U : Mat} (h : CEq rows cols A H U) (hne : i ≠ j) (hi : i < cols) (hj : j < cols) : CEq rows cols A (cswp H i j) (cswp U i j) :=
 (h.step (E := swp idM i j) (.inr (nd hne hi hj))).congr (fun r c _ hc => (po H hi hj r c hc).symm) fun r c _ hc => (po U hi hj r c hc).symm
theorem CEq.neg {rows cols i : Nat} {A H U : Mat} (h : CEq rows cols A H U) (hi : i < cols) : CEq rows cols A (cneg H i) (cneg U i) :=
 (h.step (E := eneg i) (.inr (ot hi))).congr (fun r c _ hc => (qd H r c hc).symm) fun r c _ hc => (qd U r c hc).symm
theorem CEq.inL {rows cols : Nat} {A H U : Mat} (h : CEq rows cols A H U) (v : Vec) : InL rows cols H v ↔ InL rows cols A v := InL.uni h.1 h.2 v
theorem HF.unique' {rows cols k k' : Nat} {H H' : Mat} {p p' : Nat → Nat} (h : HF rows cols H k p) (h' : HF rows cols H' k' p') (hL : ∀ v, InL rows cols H v ↔ InL rows cols H' v) : ∀ r c, r < rows → c < cols → H r c = H' r c := fun r c hr hc => by
 obtain ⟨rfl, _, h3⟩ := h.unique h' hL
 rcases Nat.lt_or_ge c k with hk | hk
 ·exact h3 c hk r hr
 ·rw [h.rest c hk hc r hr, h'.rest c hk hc r hr]
theorem ou {rows cols k j r : Nat} {A : Mat} (hj : k < j) (hjc : j < cols) : ∀ (m : Nat) (H U : Mat), (H r j).natAbs = m → CEq rows cols A H U →
  ∃ H' U', CEq rows cols A H' U' ∧ H' r j = 0 ∧ (∀ c, c ≠ k → c ≠ j → ∀ x, H' x c = H x c) ∧ ∀ x, H x k = 0 → H x j = 0 → H' x k = 0 ∧ H' x j = 0 := by
 intro m
 induction m using Nat.strongRecOn with
 | _ m ih =>
  intro H U hm h
  by_cases h0 : H r j = 0
  ·exact ⟨H, U, h, h0, fun _ _ _ _ => rfl, fun x h1 h2 => ⟨h1, h2⟩⟩
  ·have h1 := (h.add (i := k) (j := j) (-(H r k / H r j)) (by omega) (by omega) hjc).swap (i := k) (j := j) (by omega) (by omega) hjc
   have e1 : cswp (cadd H k j (-(H r k / H r j))) k j r j = H r k % H r j := by
    show cadd H k j _ r (if j = k then j else if j = j then k else j) = _
    rw [if_neg (by omega), if_pos rfl]
    unfold cadd
    rw [if_pos rfl]
    have := Int.emod_add_mul_ediv (H r k) (H r j)
    grind
   have hlt : (H r k % H r j).natAbs < m := by
    have a1 := Int.emod_nonneg (H r k) h0
    have a2 := Int.emod_lt (H r k) h0
    omega
   obtain ⟨H', U', g1, g2, g3, g4⟩ := ih _ hlt _ _ (by rw [e1]) h1
   refine ⟨H', U', g1, g2, fun c hk hjj x => ?_, fun x hx hy => ?_⟩
   ·rw [g3 c hk hjj x]
    unfold cswp cadd
    rw [if_neg hk, if_neg hjj, if_neg hk]
   ·refine g4 x ?_ ?_
    ·unfold cswp cadd
     rw [if_pos rfl, if_neg (by omega)]; exact hy
    ·show cadd H k j _ x (if j = k then j else if j = j then k else j) = 0
     rw [if_neg (show j ≠ k by omega), if_pos rfl]
     unfold cadd
     rw [if_pos rfl, hx, hy]; omega
theorem pq {rows cols k r : Nat} {A : Mat} : ∀ (m : Nat), k + 1 + m ≤ cols → ∀ (H U : Mat), CEq rows cols A H U →
  ∃ H' U', CEq rows cols A H' U' ∧ (∀ c, k < c → c < k + 1 + m → H' r c = 0) ∧ (∀ c, c < k ∨ k + 1 + m ≤ c → ∀ x, H' x c = H x c) ∧ ∀ x, (∀ c, k ≤ c → c < cols → H x c = 0) → ∀ c, k ≤ c → c < cols → H' x c = 0 := by
 intro m
 induction m with
 | zero => intro _ H U h; exact ⟨H, U, h, fun c h1 h2 => by omega, fun _ _ _ => rfl, fun x hx => hx⟩
 | succ m ih =>
  intro hm H U h
  obtain ⟨H1, U1, a1, a2, a3, a4⟩ := ih (by omega) H U h
  obtain ⟨H2, U2, b1, b2, b3, b4⟩ := ou (r := r) (show k < k + 1 + m by omega) (by omega) _ H1 U1 rfl a1
  refine ⟨H2, U2, b1, fun c h1 h2 => ?_, fun c hc x => ?_, fun x hx c h1 h2 => ?_⟩
  ·by_cases e : c = k + 1 + m
   ·rw [e]; exact b2
   ·rw [b3 c (by omega) e]; exact a2 c h1 (by omega)
  ·rw [b3 c (by omega) (by omega), a3 c (by omega)]
  ·have z := a4 x hx
   by_cases e1 : c = k
   ·rw [e1]; exact (b4 x (z k (by omega) (by omega)) (z _ (by omega) (by omega))).1
   ·by_cases e2 : c = k + 1 + m
    ·rw [e2]; exact (b4 x (z k (by omega) (by omega)) (z _ (by omega) (by omega))).2
    ·rw [b3 c e1 e2]; exact z c h1 h2
theorem pt {rows cols k r : Nat} {A : Mat} (hk : k < cols) : ∀ (m : Nat), m ≤ k → ∀ (H U : Mat), CEq rows cols A H U → 0 < H r k →
  ∃ H' U', CEq rows cols A H' U' ∧ (∀ c, k ≤ c → ∀ x, H' x c = H x c) ∧ (∀ c, c < m → 0 ≤ H' r c ∧ H' r c < H r k) ∧ ∀ x, H x k = 0 → ∀ c, H' x c = H x c := by
 intro m
 induction m with
 | zero => intro _ H U h _; exact ⟨H, U, h, fun _ _ _ => rfl, fun c hc => by omega, fun _ _ _ => rfl⟩
 | succ m ih =>
  intro hm H U h hp
  obtain ⟨H1, U1, a1, a2, a3, a4⟩ := ih (by omega) H U h hp
  have hp1 : H1 r k = H r k := a2 k (Nat.le_refl _) r
  have a5 : H1 r m % H r k = H1 r m + -(H1 r m / H r k) * H1 r k := by
   have := Int.emod_add_mul_ediv (H1 r m) (H r k)
   rw [hp1]; grind
  refine ⟨_, _, a1.add (i := m) (j := k) (-(H1 r m / H r k)) (by omega) (by omega) hk, fun c hc x => ?_, fun c hc => ?_, fun x hx c => ?_⟩
  ·unfold cadd; rw [if_neg (by omega)]; exact a2 c hc x
  ·unfold cadd
   by_cases e : c = m
   ·rw [if_pos e, ← a5]
    exact ⟨Int.emod_nonneg _ (by omega), Int.emod_lt_of_pos _ hp⟩
   ·rw [if_neg e]; exact a3 c (by omega)
  ·unfold cadd
   by_cases e : c = m
   ·rw [if_pos e, a2 k (Nat.le_refl _) x, hx, Int.mul_zero, Int.add_zero, e]; exact a4 x hx m
   ·rw [if_neg e]; exact a4 x hx c
theorem HF.more {cols k r : Nat} {H : Mat} {p : Nat → Nat} (h : HF r cols H k p) (hz : ∀ c, k ≤ c → c < cols → H r c = 0) : HF (r + 1) cols H k p :=
 ⟨h.kc, fun c hc => by have := h.lt c hc; omega, h.mono, h.zero, h.pos, h.red, fun c hc hc' x hx => by
  by_cases e : x = r
  ·rw [e]; exact hz c hc hc'
  ·exact h.rest c hc hc' x (by omega)⟩
theorem HF.pivot {cols k r : Nat} {H : Mat} {p : Nat → Nat} (h : HF r cols H k p) (hk : k < cols) (hp : 0 < H r k) (hz : ∀ c, k < c → c < cols → H r c = 0) (hr : ∀ c, c < k → 0 ≤ H r c ∧ H r c < H r k) : HF (r + 1) cols H (k + 1) (fun c => if c = k then r else p c) := by
 have hpl : ∀ c, c < k → p c < r := h.lt
 refine ⟨hk, fun c hc => ?_, fun c c' h1 h2 => ?_, fun c hc x hx => ?_, fun c hc => ?_, fun c hc j hj => ?_, fun c hc hc' x hx => ?_⟩
 ·show (if c = k then r else p c) < r + 1
  split
  ·omega
  ·have := hpl c (by omega); omega
 ·show (if c = k then r else p c) < if c' = k then r else p c'
  rw [if_neg (by omega)]
  split
  ·exact hpl c (by omega)
  ·exact h.mono c c' h1 (by omega)
 ·have hx' : x < if c = k then r else p c := hx
  split at hx'
  ·rename_i e; rw [e]; exact h.rest k (Nat.le_refl _) hk x hx'
  ·exact h.zero c (by omega) x hx'
 ·show 0 < H (if c = k then r else p c) c
  split
  ·rename_i e; rw [e]; exact hp
  ·exact h.pos c (by omega)
 ·show 0 ≤ H (if c = k then r else p c) j ∧ H (if c = k then r else p c) j < H (if c = k then r else p c) c
  split
  ·rename_i e; rw [e]; exact hr j (by omega)
  ·exact h.red c (by omega) j hj
 ·by_cases e : x = r
  ·rw [e]; exact hz c (by omega) hc'
  ·exact h.rest c (by omega) hc' x (by omega)
theorem qH (rows cols : Nat) (A : Mat) : ∃ H U k p, CEq rows cols A H U ∧ HF rows cols H k p := by
 have key : ∀ r, r ≤ rows → ∃ H U k p, CEq rows cols A H U ∧ HF r cols H k p := by
  intro r
  induction r with
  | zero => intro _; exact ⟨A, idM, 0, fun _ => 0, kZ _ _ _, ⟨Nat.zero_le _, fun c hc => by omega, fun c c' _ h => by omega, fun c hc => by omega, fun c hc => by omega, fun c hc => by omega, fun c _ _ x hx => by omega⟩⟩
  | succ r ih =>
   intro hr
   obtain ⟨H, U, k, p, hC, hF⟩ := ih (by omega)
   by_cases hk : k < cols
   ·obtain ⟨H1, U1, a1, a2, a3, a4⟩ := pq (rows := rows) (cols := cols) (k := k) (r := r) (A := A) (cols - (k + 1)) (by omega) H U hC
    have hF1 : HF r cols H1 k p := hF.congr fun x c hx hc => by
     rcases Nat.lt_or_ge c k with h | h
     ·exact a3 c (.inl h) x
     ·rw [a4 x (fun c h1 h2 => hF.rest c h1 h2 x hx) c h hc, hF.rest c h hc x hx]
    by_cases h0 : H1 r k = 0
    ·refine ⟨H1, U1, k, p, a1, hF1.more fun c h1 h2 => ?_⟩
     by_cases e : c = k
     ·rw [e]; exact h0
     ·exact a2 c (by omega) (by omega)
    ·
     obtain ⟨H2, U2, b1, b2, b3, b4⟩ : ∃ H2 U2, CEq rows cols A H2 U2 ∧ HF r cols H2 k p ∧ 0 < H2 r k ∧ ∀ c, k < c → c < cols → H2 r c = 0 := by
      by_cases hpos : 0 < H1 r k
      ·exact ⟨H1, U1, a1, hF1, hpos, fun c h1 h2 => a2 c h1 (by omega)⟩
      ·refine ⟨cneg H1 k, cneg U1 k, a1.neg hk, hF1.congr fun x c hx hc => ?_, ?_, fun c h1 h2 => ?_⟩
       ·unfold cneg
        by_cases e : c = k
        ·rw [if_pos e, e, hF1.rest k (Nat.le_refl _) hk x hx]; rfl
        ·rw [if_neg e]
       ·unfold cneg; rw [if_pos rfl]; omega
       ·unfold cneg; rw [if_neg (by omega)]; exact a2 c h1 (by omega)
     obtain ⟨H3, U3, c1, c2, c3, c4⟩ := pt (r := r) hk k (Nat.le_refl _) H2 U2 b1 b3
     have hF3 : HF r cols H3 k p := b2.congr fun x c hx _ => c4 x (b2.rest k (Nat.le_refl _) hk x hx) c
     refine ⟨H3, U3, k + 1, _, c1, hF3.pivot hk ?_ (fun c h1 h2 => ?_) (fun c hc => ?_)⟩
     ·rw [c2 k (Nat.le_refl _) r]; exact b3
     ·rw [c2 c (by omega) r]; exact b4 c h1 h2
     ·rw [c2 k (Nat.le_refl _) r]; exact c3 c hc
   ·exact ⟨H, U, k, p, hC, hF.more fun c h1 h2 => by omega⟩
 exact key rows (Nat.le_refl _)
end Go.LA
namespace Go.LA
structure TH (n : Nat) (W H : Mat) : Prop where
 zero : ∀ r c, r < c → c < n → H r c = 0
 pos : ∀ i, i < n → 0 < H i i
 red : ∀ i, i < n → ∀ j, j < i → 0 ≤ H i j ∧ H i j < H i i
 ceq : ∃ U, CEq n n W H U
theorem qI {n : Nat} {W : Mat} (hd : det n W ≠ 0) : ∃ H, TH n W H := by
 obtain ⟨H, U, k, p, hC, hF⟩ := qH n n W
 have hdH : det n H ≠ 0 := by
  rw [bo (M' := mm n W U) fun r c hr hc => hC.2 r c hr hc, dr]
  intro e
  rcases Int.mul_eq_zero.1 e with e | e
  ·exact hd e
  ·exact hC.1.ne e
 have hk : k = n := by
  have := hF.kc
  rcases Nat.lt_or_ge k n with h | h
  ·exact absurd (eR h fun r hr => hF.rest k (Nat.le_refl _) h r hr) hdH
  ·omega
 subst hk
 have hge : ∀ c, c < k → c ≤ p c := by
  intro c
  induction c with
  | zero => intro _; exact Nat.zero_le _
  | succ c ih => intro hc; have := ih (by omega); have := hF.mono c (c + 1) (by omega) hc; omega
 have hle : ∀ d c, c + d + 1 = k → p c ≤ c := by
  intro d
  induction d with
  | zero => intro c hc; have := hF.lt c (by omega); omega
  | succ d ih => intro c hc; have := ih (c + 1) (by omega); have := hF.mono c (c + 1) (by omega) (by omega); omega
 have hp : ∀ c, c < k → p c = c := fun c hc => Nat.le_antisymm (hle (k - 1 - c) c (by omega)) (hge c hc)
 refine ⟨H, fun r c hr hc => hF.zero c hc r (by rw [hp c hc]; exact hr), fun i hi => ?_, fun i hi j hj => ?_, U, hC⟩
 ·have := hF.pos i hi; rw [hp i hi] at this; exact this
 ·have := hF.red i hi j hj; rw [hp i hi] at this; exact this
def tl (n : Nat) (H : Mat) (i : Nat) : Int := pr (n - i) fun k => H (i + k) (i + k)
theorem uU (n : Nat) (H : Mat) : tl n H n = 1 := by unfold tl; rw [Nat.sub_self]; rfl
theorem ki {n i : Nat} (H : Mat) (hi : i < n) : tl n H i = H i i * tl n H (i + 1) := by
 unfold tl
 rw [show n - i = (n - (i + 1)) + 1 by omega, kW]
 congr 1
 rw [show (fun k => H (i + (k + 1)) (i + (k + 1))) = fun k => H (i + 1 + k) (i + 1 + k) by funext k; rw [show i + (k + 1) = i + 1 + k by omega]]
theorem TH.tl_pos {n : Nat} {W H : Mat} (h : TH n W H) : ∀ d i, i + d = n → 0 < tl n H i := by
 intro d
 induction d with
 | zero => intro i hi; obtain rfl : i = n := by omega
           rw [uU]; omega
 | succ d ih => intro i hi; rw [ki H (by omega)]; exact Int.mul_pos (h.pos i (by omega)) (ih (i + 1) (by omega))
theorem TH.tl_det {n : Nat} {W H : Mat} (h : TH n W H) : tl n H 0 = ((det n W).natAbs : Int) := by
 obtain ⟨U, hU⟩ := h.ceq
 have h1 : det n H = det n W * det n U := by rw [bo (M' := mm n W U) fun r c hr hc => hU.2 r c hr hc, dr]
 have h2 : det n H = tl n H 0 := by
  rw [dG fun r c hc hr => h.zero r c hr hc]
  unfold tl
  rw [Nat.sub_zero]
  congr 1
  funext i; rw [Nat.zero_add]
 have h3 := h.tl_pos n 0 (by omega)
 rcases hU.1 with e | e
 ·rw [e] at h1; omega
 ·rw [e] at h1; omega
theorem TH.units {n : Nat} {W H : Mat} (h : TH n W H) {i : Nat} (hi : i ≤ n) (t : Vec) : InL n n H fun r => if i ≤ r then tl n H i * t r else 0 := by
 have hdet : det (n - i) (fun a b => H (i + a) (i + b)) = tl n H i := by
  rw [dG fun r c hc hr => h.zero _ _ (by omega) (by omega)]
  rfl
 obtain ⟨d, rfl⟩ : ∃ d, n = i + d := ⟨n - i, by omega⟩
 rw [Nat.add_sub_cancel_left] at hdet
 generalize hB : (fun a b => H (i + a) (i + b) : Mat) = B at hdet
 have hBB : ∀ a b, B a b = H (i + a) (i + b) := fun a b => by rw [← hB]
 generalize hy : mv d (adj d B) (fun k => t (i + k)) = y
 refine ⟨fun j => if j < i then 0 else y (j - i), fun r hr => ?_⟩
 have hs : mv (i + d) H (fun j => if j < i then 0 else y (j - i)) r = sm d fun b => H r (i + b) * y b := by
  show sm (i + d) (fun j => H r j * if j < i then 0 else y (j - i)) = _
  rw [fS, eQ fun j hj => by rw [if_pos hj, Int.mul_zero], Int.zero_add]
  refine aX fun b hb => ?_
  rw [if_neg (by omega), show i + b - i = b by omega]
 rw [hs]
 show (if i ≤ r then tl (i + d) H i * t r else 0) = _
 by_cases e : i ≤ r
 ·rw [if_pos e]
  have e2 : (sm d fun b => H r (i + b) * y b) = mv d B y (r - i) := aX fun b _ => by rw [hBB, show i + (r - i) = r by omega]
  rw [e2, ← hy, ← jd]
  show _ = sm d fun j => mm d B (adj d B) (r - i) j * t (i + j)
  rw [bV (show r - i < d by omega) fun j hj hne => by rw [fF B (by omega) hj, bN (Ne.symm hne), Int.mul_zero, Int.zero_mul]]
  rw [fF B (by omega) (by omega), bE, hdet, Int.mul_one, show i + (r - i) = r by omega]
 ·rw [if_neg e, eQ fun b hb => by rw [h.zero r (i + b) (by omega) (by omega), Int.zero_mul]]
theorem TH.dvd {n : Nat} {W H : Mat} (h : TH n W H) {i : Nat} (hi : i < n) {v : Vec} (hv : InL n n H v) (hz : ∀ r, r < i → v r = 0) : H i i ∣ v i := by
 obtain ⟨x, hx⟩ := hv
 have hrow : ∀ j, j < n → (∀ c, c < j → x c = 0) → v j = H j j * x j := fun j hj h0 => by
  rw [hx j hj]
  unfold mv
  rw [bV hj fun c hc hne => ?_]
  rcases Nat.lt_or_ge c j with hlt | hge
  ·rw [h0 c hlt, Int.mul_zero]
  ·rw [h.zero j c (by omega) hc, Int.zero_mul]
 have key : ∀ j, j < i → x j = 0 := fun j => by
  induction j using Nat.strongRecOn with
  | _ j ih =>
   intro hj
   have := hrow j (by omega) fun c hc => ih c hc (by omega)
   rw [hz j hj] at this
   rcases Int.mul_eq_zero.1 this.symm with e | e
   ·have := h.pos j (by omega); omega
   ·exact e
 exact ⟨x i, hrow i hi key⟩
structure TrJ (n i : Nat) (H : Mat) (m : Int) (C : Mat) : Prop where
 inl : ∀ j, j < n → InL n n H fun r => C r j
 top : ∀ j, i ≤ j → j < n → ∀ r, r < i → C r j = 0
 low : ∀ j, j < i → (∀ r, r < j → C r j = 0) ∧ C j j = H j j ∧ ∀ e, j < e → e < i → 0 ≤ C e j ∧ C e j < H e e
 gen : ∀ v, InL n n H v → (∀ r, r < i → v r = 0) → ∃ x y : Vec, ∀ r, r < n → v r = (sm n fun j => if i ≤ j then C r j * x j else 0) + (if i ≤ r then m * y r else 0)
 mod : m = tl n H i
theorem TrJ.congr {n i : Nat} {H C C' : Mat} {m : Int} (h : TrJ n i H m C) (hi : i ≤ n) (he : ∀ r j, r < n → j < n → C' r j = C r j) : TrJ n i H m C' := by
 refine ⟨fun j hj => (h.inl j hj).congr fun r hr => he r j hr hj, fun j h1 h2 r hr => ?_, fun j hj => ⟨fun r hr => ?_, ?_, fun e h1 h2 => ?_⟩, fun v hv hz => ?_, h.mod⟩
 ·rw [he r j (by omega) h2]; exact h.top j h1 h2 r hr
 ·rw [he r j (by omega) (by omega)]; exact (h.low j hj).1 r hr
 ·rw [he j j (by omega) (by omega)]; exact (h.low j hj).2.1
 ·rw [he e j (by omega) (by omega)]; exact (h.low j hj).2.2 e h1 h2
 ·obtain ⟨x, y, hxy⟩ := h.gen v hv hz
  refine ⟨x, y, fun r hr => ?_⟩
  rw [hxy r hr]
  congr 1
  exact aX fun j hj => by rw [he r j hr hj]
theorem TrJ.reduce {n i : Nat} {W H C C' : Mat} {m : Int} (hH : TH n W H) (h : TrJ n i H m C) (hi : i ≤ n) (t : Mat) (h1 : ∀ r j, r < i → j < n → C' r j = C r j) (h2 : ∀ r j, i ≤ r → r < n → j < n → C' r j = C r j + m * t r j) : TrJ n i H m C' := by
 refine ⟨fun j hj => ?_, fun j a b r hr => ?_, fun j hj => ⟨fun r hr => ?_, ?_, fun e a b => ?_⟩, fun v hv hz => ?_, h.mod⟩
 ·refine ((h.inl j hj).comb (hH.units hi fun r => t r j) 1 1).congr fun r hr => ?_
  rw [← h.mod]
  by_cases e : i ≤ r
  ·rw [h2 r j e hr hj, if_pos e]; omega
  ·rw [h1 r j (by omega) hj, if_neg e]; omega
 ·rw [h1 r j hr b]; exact h.top j a b r hr
 ·rw [h1 r j (by omega) (by omega)]; exact (h.low j hj).1 r hr
 ·rw [h1 j j hj (by omega)]; exact (h.low j hj).2.1
 ·rw [h1 e j b (by omega)]; exact (h.low j hj).2.2 e a b
 ·obtain ⟨x, y, hxy⟩ := h.gen v hv hz
  refine ⟨x, fun r => y r - sm n fun j => if i ≤ j then t r j * x j else 0, fun r hr => ?_⟩
  rw [hxy r hr]
  by_cases e : i ≤ r
  ·rw [if_pos e, if_pos e]
   have : (sm n fun j => if i ≤ j then C' r j * x j else 0) = (sm n fun j => if i ≤ j then C r j * x j else 0) + m * sm n fun j => if i ≤ j then t r j * x j else 0 := by
    rw [← cj, ← dH]
    refine aX fun j hj => ?_
    by_cases e' : i ≤ j
    ·rw [if_pos e', if_pos e', if_pos e', h2 r j e hr hj]; grind
    ·rw [if_neg e', if_neg e', if_neg e']; omega
   rw [this, Int.mul_sub]; omega
  ·rw [if_neg e, if_neg e]
   congr 1
   exact aX fun j hj => by rw [h1 r j (by omega) hj]
theorem uV {n i j : Nat} {f g : Nat → Int} (hij : i ≠ j) (hi : i < n) (hj : j < n) (h : ∀ k, k < n → k ≠ i → k ≠ j → f k = g k) : sm n f = sm n g + ((f i - g i) + (f j - g j)) := by
 have h1 : sm n (fun k => f k - g k) = sm n fun k => idM k i * (f i - g i) + idM k j * (f j - g j) := aX fun k hk => by
  by_cases e1 : k = i
  ·subst e1; rw [bE, bN hij]; omega
  ·by_cases e2 : k = j
   ·subst e2; rw [bE, bN e1]; omega
   ·rw [bN e1, bN e2, h k hk e1 e2]; omega
 rw [gU, dH, bV (f := fun k => idM k i * (f i - g i)) hi fun k _ hne => by rw [bN hne, Int.zero_mul], bV (f := fun k => idM k j * (f j - g j)) hj fun k _ hne => by rw [bN hne, Int.zero_mul], bE, bE] at h1
 omega
theorem TrJ.clear {n i jj : Nat} {H C C' : Mat} {m a b x y : Int} (h : TrJ n i H m C) (hi : i < jj) (hj : jj < n) (hab : a * x + b * y = 1) (h1 : ∀ r, r < n → C' r i = a * C r i + b * C r jj) (h2 : ∀ r, r < n → C' r jj = x * C r jj - y * C r i)
  (h3 : ∀ r j, r < n → j < n → j ≠ i → j ≠ jj → C' r j = C r j) : TrJ n i H m C' := by
 refine ⟨fun j hj' => ?_, fun j a1 a2 r hr => ?_, fun j hj' => ⟨fun r hr => ?_, ?_, fun e a1 a2 => ?_⟩, fun v hv hz => ?_, h.mod⟩
 ·by_cases e1 : j = i
  ·subst e1
   exact ((h.inl j hj').comb (h.inl jj hj) a b).congr fun r hr => h1 r hr
  ·by_cases e2 : j = jj
   ·subst e2
    exact ((h.inl j hj').comb (h.inl i (by omega)) x (-y)).congr fun r hr => by rw [h2 r hr]; grind
   ·exact (h.inl j hj').congr fun r hr => h3 r j hr hj' e1 e2
 ·by_cases e1 : j = i
  ·subst e1; rw [h1 r (by omega), h.top j a1 a2 r hr, h.top jj (by omega) hj r hr]; omega
  ·by_cases e2 : j = jj
   ·subst e2; rw [h2 r (by omega), h.top j a1 a2 r hr, h.top i (by omega) (by omega) r hr]; omega
   ·rw [h3 r j (by omega) a2 e1 e2]; exact h.top j a1 a2 r hr
 ·rw [h3 r j (by omega) (by omega) (by omega) (by omega)]; exact (h.low j hj').1 r hr
 ·rw [h3 j j (by omega) (by omega) (by omega) (by omega)]; exact (h.low j hj').2.1
 ·rw [h3 e j (by omega) (by omega) (by omega) (by omega)]; exact (h.low j hj').2.2 e a1 a2
 ·obtain ⟨X, Y, hxy⟩ := h.gen v hv hz
  refine ⟨fun j => if j = i then x * X i + y * X jj else if j = jj then a * X jj - b * X i else X j, Y, fun r hr => ?_⟩
  rw [hxy r hr]
  congr 1
  rw [uV (f := fun j => if i ≤ j then C r j * X j else 0) (g := fun j => if i ≤ j then C' r j * (if j = i then x * X i + y * X jj else if j = jj then a * X jj - b * X i else X j) else 0) (show i ≠ jj by omega) (by omega) hj fun k hk e1 e2 => by
   simp only [e1, e2, if_false]
   rw [h3 r k hr hk e1 e2]]
  simp only [Nat.le_refl, if_true, show i ≤ jj by omega, show ¬ jj = i by omega, if_false]
  rw [h1 r hr, h2 r hr]
  have : C r i * X i + C r jj * X jj = (a * C r i + b * C r jj) * (x * X i + y * X jj) + (x * C r jj - y * C r i) * (a * X jj - b * X i) := by
   have e1 : (a * C r i + b * C r jj) * (x * X i + y * X jj) + (x * C r jj - y * C r i) * (a * X jj - b * X i) = (a * x + b * y) * (C r i * X i + C r jj * X jj) := by grind
   rw [e1, hab, Int.one_mul]
  omega
theorem TrJ.pivot {n i : Nat} {W H C : Mat} {m a b g : Int} (hH : TH n W H) (h : TrJ n i H m C) (hi : i < n) (hz : ∀ j, i < j → j < n → C i j = 0) (hg : 0 < g) (hab : a * C i i + b * m = g) (hx : g ∣ C i i) (hm : g ∣ m) : g = H i i := by
 have hpos := hH.pos i hi
 refine Int.le_antisymm (Int.le_of_dvd hpos ?_) (Int.le_of_dvd hg ?_)
 ·obtain ⟨x, y, hxy⟩ := h.gen (fun r => H r i) (InL.col H hi) fun r hr => hH.zero r i hr hi
  have := hxy i hi
  rw [if_pos (Nat.le_refl _), bV hi fun j hj hne => ?_, if_pos (Nat.le_refl _)] at this
  ·rw [this]
   exact Int.dvd_add (Int.dvd_mul_of_dvd_left hx) (Int.dvd_mul_of_dvd_left hm)
  ·rcases Nat.lt_or_ge j i with hlt | hge
   ·rw [if_neg (by omega)]
   ·rw [if_pos hge, hz j (by omega) hj, Int.zero_mul]
 ·have h1 : H i i ∣ C i i := hH.dvd (v := fun r => C r i) hi (h.inl i hi) fun r hr => h.top i (Nat.le_refl _) hi r hr
  have h2 : H i i ∣ m := by rw [h.mod, ki H hi]; exact ⟨_, rfl⟩
  rw [← hab]
  exact Int.dvd_add (Int.dvd_mul_of_dvd_right h1) (Int.dvd_mul_of_dvd_right h2)
theorem TrJ.next {n i : Nat} {W H C C' : Mat} {m a b : Int} (hH : TH n W H) (h : TrJ n i H m C) (hi : i < n) (hz : ∀ j, i < j → j < n → C i j = 0) (hab : a * C i i + b * m = H i i)
  (h1 : ∀ r, r < n → C' r i = if r = i then H i i else a * C r i) (h2 : ∀ r j, r < n → j < i → C' r j = C r j - (C i j / H i i) * C' r i) (h3 : ∀ r j, r < n → i < j → j < n → C' r j = C r j) : TrJ n (i + 1) H (tl n H (i + 1)) C' := by
 have hpos := hH.pos i hi
 have hm := h.mod
 rw [ki H hi] at hm
 have hL : InL n n H fun r => C' r i := by
  refine ((h.inl i hi).comb (hH.units (i := i) (by omega) fun r => if r = i then b else 0) a 1).congr fun r hr => ?_
  rw [h1 r hr, ← h.mod]
  by_cases e : r = i
  ·subst e; rw [if_pos rfl, if_pos (Nat.le_refl _), if_pos rfl, ← hab]; grind
  ·rw [if_neg e, if_neg e]
   split <;> omega
 have hz' : ∀ r, r < i → C' r i = 0 := fun r hr => by rw [h1 r (by omega), if_neg (by omega), h.top i (Nat.le_refl _) hi r hr, Int.mul_zero]
 refine ⟨fun j hj => ?_, fun j a1 a2 r hr => ?_, fun j hj => ⟨fun r hr => ?_, ?_, fun e a1 a2 => ?_⟩, fun v hv hvz => ?_, rfl⟩
 ·rcases Nat.lt_trichotomy j i with hlt | he | hgt
  ·exact ((h.inl j hj).comb hL 1 (-(C i j / H i i))).congr fun r hr => by rw [h2 r j hr hlt]; grind
  ·subst he; exact hL
  ·exact (h.inl j hj).congr fun r hr => h3 r j hr hgt hj
 ·rw [h3 r j (by omega) (by omega) a2]
  by_cases e : r = i
  ·rw [e]; exact hz j (by omega) a2
  ·exact h.top j (by omega) a2 r (by omega)
 ·by_cases e : j = i
  ·subst e; exact hz' r hr
  ·rw [h2 r j (by omega) (by omega), hz' r (by omega), (h.low j (by omega)).1 r hr]; omega
 ·by_cases e : j = i
  ·subst e; rw [h1 j hi, if_pos rfl]
  ·rw [h2 j j (by omega) (by omega), hz' j (by omega), (h.low j (by omega)).2.1]; omega
 ·by_cases e' : j = i
  ·omega
  ·rw [h2 e j (by omega) (by omega)]
   by_cases e2 : e = i
   ·subst e2
    rw [h1 e hi, if_pos rfl]
    have := Int.emod_add_mul_ediv (C e j) (H e e)
    have h5 : C e j - C e j / H e e * H e e = C e j % H e e := by grind
    rw [h5]
    exact ⟨Int.emod_nonneg _ (by omega), Int.emod_lt_of_pos _ hpos⟩
   ·rw [hz' e (by omega), Int.mul_zero, Int.sub_zero]
    exact (h.low j (by omega)).2.2 e a1 (by omega)
 ·obtain ⟨x, y, hxy⟩ := h.gen v hv fun r hr => hvz r (by omega)
  have hrow := hxy i hi
  rw [hvz i (by omega), bV hi fun j hj hne => ?_, if_pos (Nat.le_refl _), if_pos (Nat.le_refl _)] at hrow
  ·obtain ⟨al, hal⟩ : H i i ∣ C i i := hH.dvd (v := fun r => C r i) hi (h.inl i hi) fun r hr => h.top i (Nat.le_refl _) hi r hr
   have hco : a * al + b * tl n H (i + 1) = 1 := by
    have : H i i * (a * al + b * tl n H (i + 1)) = H i i * 1 := by rw [Int.mul_one]; conv => rhs; rw [← hab, hal, hm]
                                                                   grind
    exact Int.eq_of_mul_eq_mul_left (by omega) this
   have hxi : x i = tl n H (i + 1) * (b * x i - a * y i) := by
    have e1 : al * x i + tl n H (i + 1) * y i = 0 := by
     have : H i i * (al * x i + tl n H (i + 1) * y i) = H i i * 0 := by rw [Int.mul_zero, hrow, hal, hm]; grind
     exact Int.eq_of_mul_eq_mul_left (by omega) this
    have e2 : x i = (a * al + b * tl n H (i + 1)) * x i := by rw [hco, Int.one_mul]
    rw [e2]
    grind
   refine ⟨x, fun r => C r i * (b * x i - a * y i) + H i i * y r, fun r hr => ?_⟩
   rw [hxy r hr]
   have hsum : (sm n fun j => if i ≤ j then C r j * x j else 0) = (sm n fun j => if i + 1 ≤ j then C' r j * x j else 0) + C r i * x i := by
    have e1 : (sm n fun j => if i ≤ j then C r j * x j else 0) = sm n fun j => (if i + 1 ≤ j then C' r j * x j else 0) + (if j = i then C r i * x i else 0) := aX fun j hj => by
     by_cases e : j = i
     ·subst e; rw [if_pos (Nat.le_refl _), if_neg (by omega), if_pos rfl]; omega
     ·rw [if_neg e]
      by_cases e' : i ≤ j
      ·rw [if_pos e', if_pos (by omega), h3 r j hr (by omega) hj]; omega
      ·rw [if_neg e', if_neg (by omega)]; rfl
    rw [e1, dH, bV (f := fun j => if j = i then C r i * x i else 0) hi fun j _ hne => if_neg hne]
    rw [if_pos rfl]
   rw [hsum]
   by_cases e : i + 1 ≤ r
   ·rw [if_pos e, if_pos (by omega), hm]
    have : C r i * x i = C r i * (tl n H (i + 1) * (b * x i - a * y i)) := by rw [← hxi]
    rw [this]
    grind
   ·rw [if_neg e]
    by_cases e2 : r = i
    ·subst e2; rw [if_pos (Nat.le_refl _)]; omega
    ·rw [if_neg (by omega), h.top i (Nat.le_refl _) hi r (by omega)]; omega
  ·rcases Nat.lt_or_ge j i with hlt | hge
   ·rw [if_neg (by omega)]
   ·rw [if_pos hge, hz j (by omega) hj, Int.zero_mul]
theorem TrJ.final {n : Nat} {W H C : Mat} {m : Int} (hH : TH n W H) (h : TrJ n n H m C) {r j : Nat} (hr : r < n) (hj : j < n) : C r j = H r j := by
 rcases oq n (fun r => C r j - H r j) with h0 | ⟨e, he, h1, h2⟩
 ·have : C r j - H r j = 0 := h0 r hr
  omega
 ·exfalso
  have hd := hH.dvd he ((h.inl j hj).sub (InL.col H hj)) fun r hr => h2 r hr
  have h1 : C e j - H e j ≠ 0 := h1
  have hd : H e e ∣ C e j - H e j := hd
  have hl := h.low j hj
  rcases Nat.lt_trichotomy e j with hlt | heq | hgt
  ·rw [hl.1 e hlt, hH.zero e j hlt hj] at h1; omega
  ·subst heq; rw [hl.2.1] at h1; omega
  ·have r1 := hl.2.2 e hgt he
   have r2 := hH.red e he j hgt
   obtain ⟨q, hq⟩ := hd
   have hpos := hH.pos e he
   have : q = 0 := by
    rcases Int.lt_trichotomy q 0 with hh | hh | hh
    ·have : H e e * q ≤ H e e * (-1) := Int.mul_le_mul_of_nonneg_left (by omega) (by omega)
     omega
    ·exact hh
    ·have : H e e * 1 ≤ H e e * q := Int.mul_le_mul_of_nonneg_left (by omega) (by omega)
     omega
   subst this
   omega
theorem qJ {n : Nat} {W H C : Mat} (hH : TH n W H) (t : Mat) (h : ∀ r j, r < n → j < n → C r j = W r j + tl n H 0 * t r j) : TrJ n 0 H (tl n H 0) C := by
 obtain ⟨U, hU⟩ := hH.ceq
 have h0 : TrJ n 0 H (tl n H 0) W := by
  refine ⟨fun j hj => (hU.inL _).2 (InL.col W hj), fun j _ _ r hr => by omega, fun j hj => by omega, fun v hv _ => ?_, rfl⟩
  obtain ⟨x, hx⟩ := (hU.inL v).1 hv
  refine ⟨x, fun _ => 0, fun r hr => ?_⟩
  rw [hx r hr, if_pos (Nat.zero_le _), Int.mul_zero, Int.add_zero]
  exact aX fun j _ => by rw [if_pos (Nat.zero_le _)]
 exact h0.reduce hH (Nat.zero_le _) t (fun r j hr => by omega) fun r j _ hr hj => h r j hr hj
end Go.LA
namespace Go.LA
def nT (c : Nat) (V P : Mat) : Mat := fun j x => sm c fun b => V j b * P x b
def bl (N : Mat) (l : Nat → Nat) (k j x : Nat) : Int := det (k + 1) fun a b => N (if a < k then a else j) (if b < k then l b else x)
def ext (l : Nat → Nat) (k ρ : Nat) : Nat → Nat := fun a => if a < k then l a else ρ
theorem sh {N N' : Mat} {l l' : Nat → Nat} {k j j' x : Nat} (hl : ∀ a, a < k → l a = l' a) (h : ∀ a y, a < k → N a y = N' a y) (hj : ∀ y, N j y = N' j' y) : bl N l k j x = bl N' l' k j' x := by
 unfold bl
 refine bo fun a b ha hb => ?_
 have e : (if b < k then l b else x) = if b < k then l' b else x := by
  by_cases e : b < k
  ·rw [if_pos e, if_pos e, hl b e]
  ·rw [if_neg e, if_neg e]
 rw [e]
 by_cases e1 : a < k
 ·rw [if_pos e1, if_pos e1]; exact h a _ e1
 ·rw [if_neg e1, if_neg e1]; exact hj _
theorem qe (N : Mat) (l : Nat → Nat) (k x : Nat) : bl N l k k x = det (k + 1) fun a b => N a (ext l k x b) := by
 unfold bl ext
 refine bo fun a b ha hb => ?_
 have e : (if a < k then a else k) = a := by split <;> omega
 rw [e]
theorem tK {N : Mat} {l : Nat → Nat} {k : Nat} (hz : (det k fun a b => N a (l b)) ≠ 0) (ρ j x : Nat) :
  bl N (ext l k ρ) (k + 1) j x * (det k fun a b => N a (l b)) = bl N l k k ρ * bl N l k j x - bl N l k j ρ * bl N l k k x := by
 generalize hM : (fun a b => N a (if b < k then l b else if b = k then ρ else x) : Mat) = M
 have hMv : ∀ a b, M a b = N a (if b < k then l b else if b = k then ρ else x) := fun a b => by rw [← hM]
 have hd : det k M = det k fun a b => N a (l b) := bo fun a b _ hb => by rw [hMv, if_pos hb]
 have h := m5 (M := M) (k := k) (by rw [hd]; exact hz) j (k + 1)
 have k0 : ¬ k < k := by omega
 have k1 : ¬ k + 1 < k := by omega
 have k2 : ¬ k + 1 = k := by omega
 have k3 : ¬ k + 1 < k + 1 := by omega
 have b1 : ∀ i, bm M k i k = bl N l k i ρ := fun i => bo fun a b _ hb => by
  unfold brd
  rw [hMv]
  by_cases e : b < k
  ·simp only [e, if_true]
  ·simp only [e, if_false, k0, if_true]
 have b2 : ∀ i, bm M k i (k + 1) = bl N l k i x := fun i => bo fun a b _ hb => by
  unfold brd
  rw [hMv]
  by_cases e : b < k
  ·simp only [e, if_true]
  ·simp only [e, if_false, k1, k2]
 have b3 : bm M (k + 1) j (k + 1) = bl N (ext l k ρ) (k + 1) j x := bo fun a b _ hb => by
  unfold brd ext
  rw [hMv]
  by_cases e : b < k
  ·have e1 : b < k + 1 := by omega
   simp only [e, e1, if_true]
  ·by_cases e' : b = k
   ·have e1 : b < k + 1 := by omega
    simp only [e', if_true, k0, if_false, show k < k + 1 by omega]
   ·have e1 : ¬ b < k + 1 := by omega
    simp only [e1, if_false, k1, k2]
 rw [b3, hd, b1, b2, b1, b2] at h
 exact h
theorem uW {N : Mat} {l : Nat → Nat} {c k x : Nat} (hz : (det k fun a b => N a (l b)) ≠ 0) (h0 : ∀ j, k ≤ j → j < c → bl N l k j x = 0) :
  ∃ co : Vec, ∀ j, j < c → (det k fun a b => N a (l b)) * N j x = sm k fun a => co a * N j (l a) := by
 generalize hM : (fun a b => N a (if b < k then l b else x) : Mat) = M
 have hMv : ∀ a b, M a b = N a (if b < k then l b else x) := fun a b => by rw [← hM]
 have hd : det k M = det k fun a b => N a (l b) := bo fun a b _ hb => by rw [hMv, if_pos hb]
 refine ⟨fun a => sm k fun b => adj k M a b * N b x, fun j hj => ?_⟩
 have hs : sch k M j k = 0 := by
  rcases Nat.lt_or_ge j k with h | h
  ·unfold sch
   have : (sm k fun a => sm k fun b => M j a * (adj k M a b * M b k)) = sm k fun b => mm k M (adj k M) j b * M b k := by
    rw [f9]
    refine aX fun b _ => ?_
    unfold mm
    rw [← fw]
    exact aX fun a _ => by rw [Int.mul_assoc]
   rw [this, bV h fun b hb hne => by rw [fF M h hb, bN (Ne.symm hne), Int.mul_zero, Int.zero_mul]]
   rw [fF M h h, bE, Int.mul_one]
   omega
  ·rw [← pk (by rw [hd]; exact hz)]
   rw [← h0 j h hj]
   exact bo fun a b _ hb => by
    unfold brd
    rw [hMv]
    by_cases e : b < k
    ·simp only [e, if_true]
    ·simp only [e, if_false, show ¬ k < k by omega]
 unfold sch at hs
 rw [hd, hMv j k, if_neg (by omega)] at hs
 have : (sm k fun a => sm k fun b => M j a * (adj k M a b * M b k)) = sm k fun a => (sm k fun b => adj k M a b * N b x) * N j (l a) := aX fun a ha => by
  rw [← fw]
  exact aX fun b hb => by rw [hMv j a, hMv b k, if_pos ha, if_neg (by omega)]; grind
 rw [this] at hs
 show _ = sm k fun a => (sm k fun b => adj k M a b * N b x) * N j (l a)
 omega
theorem si {c : Nat} {V P : Mat} (hV : Uni c V) (x : Nat) {i : Nat} (hi : i < c) : (sm c fun j => uinv c V i j * nT c V P j x) = P x i := by
 have h : mv c (mm c (uinv c V) V) (fun b => P x b) i = mv c (uinv c V) (mv c V fun b => P x b) i := jd c c _ _ _ i
 have e : mv c (uinv c V) (mv c V fun b => P x b) i = sm c fun j => uinv c V i j * nT c V P j x := rfl
 rw [← e, ← h, dh (A' := idM) (fun j hj => hV.inv_mul hi hj) fun _ _ => rfl]
 show (sm c fun j => idM i j * P x j) = _
 rw [bV hi fun j _ hne => by rw [bN (Ne.symm hne), Int.zero_mul]]
 rw [bE, Int.one_mul]
def Dep (c : Nat) (P : Mat) (l : Nat → Nat) (k x : Nat) : Prop := ∃ (d : Int) (co : Vec), d ≠ 0 ∧ ∀ b, b < c → d * P x b = sm k fun a => co a * P (l a) b
theorem uX {c : Nat} {V P : Mat} {l : Nat → Nat} {k x : Nat} (hV : Uni c V) (hz : (det k fun a b => nT c V P a (l b)) ≠ 0) (h0 : ∀ j, k ≤ j → j < c → bl (nT c V P) l k j x = 0) : Dep c P l k x := by
 obtain ⟨co, hco⟩ := uW hz h0
 refine ⟨_, co, hz, fun i hi => ?_⟩
 generalize (det k fun a b => nT c V P a (l b)) = d at *
 rw [← si (P := P) hV x hi, ← cj]
 have e1 : (sm c fun j => d * (uinv c V i j * nT c V P j x)) = sm c fun j => sm k fun a => co a * (uinv c V i j * nT c V P j (l a)) := aX fun j hj => by
  have := hco j hj
  have e : d * (uinv c V i j * nT c V P j x) = uinv c V i j * (d * nT c V P j x) := by grind
  rw [e, this, ← cj]
  exact aX fun a _ => by grind
 rw [e1, f9]
 refine aX fun a _ => ?_
 rw [cj, si hV (l a) hi]
structure InJ (R c : Nat) (P : Mat) (x0 k : Nat) (l : Nat → Nat) (V : Mat) : Prop where
 kc : k ≤ c
 uni : Uni c V
 lt : ∀ a, a < k → l a < x0
 mono : ∀ a b, a < b → b < k → l a < l b
 nz : (det k fun a b => nT c V P a (l b)) ≠ 0
 dep : ∀ x, x < x0 → (∃ a, a < k ∧ l a = x) ∨ ∃ kx, kx ≤ k ∧ (∀ a, a < kx → l a < x) ∧ (∀ a, kx ≤ a → a < k → x < l a) ∧ Dep c P l kx x
theorem qK (R c : Nat) (P : Mat) (l : Nat → Nat) : InJ R c P 0 0 l idM := ⟨Nat.zero_le _, kY c, fun a h => by omega, fun a b _ h => by omega, by rw [d9]; omega, fun x hx => by omega⟩
theorem InJ.skip {R c x0 k : Nat} {P V : Mat} {l : Nat → Nat} (h : InJ R c P x0 k l V) (h0 : ∀ j, k ≤ j → j < c → bl (nT c V P) l k j x0 = 0) : InJ R c P (x0 + 1) k l V :=
 ⟨h.kc, h.uni, fun a ha => by have := h.lt a ha; omega, h.mono, h.nz, fun x hx => by
  by_cases e : x = x0
  ·subst e; exact .inr ⟨k, Nat.le_refl _, h.lt, fun a h1 h2 => by omega, uX h.uni h.nz h0⟩
  ·exact h.dep x (by omega)⟩
theorem jf {c p q : Nat} (V P : Mat) (j x : Nat) : nT c (swp V p q) P j x = nT c V P (if j = q then p else if j = p then q else j) x := by
 unfold nT
 refine aX fun b _ => ?_
 congr 1
 unfold swp rw'
 by_cases e1 : j = q
 ·rw [if_pos e1, if_pos e1]
 ·rw [if_neg e1, if_neg e1]
  by_cases e2 : j = p
  ·rw [if_pos e2, if_pos e2]
  ·rw [if_neg e2, if_neg e2]
theorem Uni.swap {c p q : Nat} {V : Mat} (h : Uni c V) (hp : p < c) (hq : q < c) : Uni c (swp V p q) := by
 by_cases e : p = q
 ·subst e
  exact h.congr fun r s _ _ => by
   unfold swp rw'
   by_cases e : r = p
   ·rw [if_pos e, e]
   ·rw [if_neg e, if_neg e]
 ·unfold Uni
  rw [(dg c).swap V e hp hq]
  rcases h with h | h <;> rw [h] <;> simp
theorem qf {c p q k : Nat} (V P : Mat) (l : Nat → Nat) (hp : k ≤ p) (hq : k ≤ q) (j x : Nat) : bl (nT c (swp V p q) P) l k j x = bl (nT c V P) l k (if j = q then p else if j = p then q else j) x :=
 sh (fun _ _ => rfl) (fun a y ha => by rw [jf, if_neg (by omega), if_neg (by omega)]) fun y => jf V P j y
theorem InJ.swap {R c x0 k p q : Nat} {P V : Mat} {l : Nat → Nat} (h : InJ R c P x0 k l V) (hp : k ≤ p) (hq : k ≤ q) (hpc : p < c) (hqc : q < c) : InJ R c P x0 k l (swp V p q) :=
 ⟨h.kc, h.uni.swap hpc hqc, h.lt, h.mono, by rw [bo (M' := fun a b => nT c V P a (l b)) fun a b ha _ => by rw [jf, if_neg (by omega), if_neg (by omega)]]; exact h.nz, h.dep⟩
theorem InJ.take {R c x0 k : Nat} {P V : Mat} {l : Nat → Nat} (h : InJ R c P x0 k l V) (hk : k < c) (hz : bl (nT c V P) l k k x0 ≠ 0) : InJ R c P (x0 + 1) (k + 1) (ext l k x0) V := by
 have hl : ∀ a, a < k → ext l k x0 a = l a := fun a ha => if_pos ha
 have hd : ∀ {kx x : Nat}, kx ≤ k → Dep c P l kx x → Dep c P (ext l k x0) kx x := fun hkx ⟨d, co, h1, h2⟩ => ⟨d, co, h1, fun b hb => by rw [h2 b hb]; exact aX fun a ha => by rw [hl a (by omega)]⟩
 refine ⟨hk, h.uni, fun a ha => ?_, fun a b h1 h2 => ?_, by rw [← qe]; exact hz, fun x hx => ?_⟩
 ·unfold ext; split
  ·have := h.lt a (by assumption); omega
  ·omega
 ·rw [hl a (by omega)]
  unfold ext; split
  ·exact h.mono a b h1 (by assumption)
  ·exact h.lt a (by omega)
 ·by_cases e : x = x0
  ·exact .inl ⟨k, by omega, by unfold ext; rw [if_neg (by omega), e]⟩
  ·rcases h.dep x (by omega) with ⟨a, ha, e1⟩ | ⟨kx, h1, h2, h3, h4⟩
   ·exact .inl ⟨a, by omega, by rw [hl a ha, e1]⟩
   ·refine .inr ⟨kx, by omega, fun a ha => by rw [hl a (by omega)]; exact h2 a ha, fun a g1 g2 => ?_, hd h1 h4⟩
    by_cases e2 : a < k
    ·rw [hl a e2]; exact h3 a g1 e2
    ·unfold ext; rw [if_neg e2]; omega
theorem InJ.ends {rows c k : Nat} {P V : Mat} {l : Nat → Nat} (h : InJ (rows + c) c P (rows + c) k l V) (hP : ∀ j b, j < c → b < c → P (rows + j) b = idM j b) : k = c := by
 have hkc := h.kc
 rcases Nat.lt_or_ge k c with hk | hk
 ·exfalso
  have key : ∀ j, j < c → ∃ (d : Int) (co : Vec), d ≠ 0 ∧ ∀ b, b < c → d * idM j b = sm k fun a => co a * P (l a) b := fun j hj => by
   rcases h.dep (rows + j) (by omega) with ⟨a, ha, e⟩ | ⟨kx, h1, h2, h3, d, co, hd, hco⟩
   ·refine ⟨1, fun i => idM i a, by omega, fun b hb => ?_⟩
    show _ = sm k fun i => idM i a * P (l i) b
    rw [bV ha fun i _ hne => by rw [bN hne, Int.zero_mul]]
    rw [bE, e, hP j b hj hb]
   ·refine ⟨d, fun i => if i < kx then co i else 0, hd, fun b hb => ?_⟩
    show _ = sm k fun i => (if i < kx then co i else 0) * P (l i) b
    rw [← hP j b hj hb, hco b hb]
    obtain ⟨m, rfl⟩ : ∃ m, k = kx + m := ⟨k - kx, by omega⟩
    rw [fS, eQ (n := m) fun i _ => by rw [if_neg (by omega), Int.zero_mul]]
    rw [Int.add_zero]
    exact aX fun i hi => by rw [if_pos hi]
  let d : Nat → Int := fun j => if hj : j < c then Classical.choose (key j hj) else 1
  let co : Nat → Vec := fun j => if hj : j < c then Classical.choose (Classical.choose_spec (key j hj)) else fun _ => 0
  have hk2 : ∀ j, j < c → d j ≠ 0 ∧ ∀ b, b < c → d j * idM j b = sm k fun a => co j a * P (l a) b := fun j hj => by
   have := Classical.choose_spec (Classical.choose_spec (key j hj))
   simp only [d, co, dif_pos hj]
   exact this
  have hm : ∀ j b, j < c → b < c → mm c (fun j a => if a < k then co j a else 0) (fun a b => if a < k then P (l a) b else 0) j b = d j * idM j b := fun j b hj hb => by
   rw [(hk2 j hj).2 b hb]
   show sm c (fun i => (if i < k then co j i else 0) * (if i < k then P (l i) b else 0)) = _
   obtain ⟨m, rfl⟩ : ∃ m, c = k + m := ⟨c - k, by omega⟩
   rw [fS, eQ (n := m) fun i _ => by rw [if_neg (by omega), Int.zero_mul], Int.add_zero]
   exact aX fun i hi => by rw [if_pos hi, if_pos hi]
  have h1 := dr c (fun j a => if a < k then co j a else 0) (fun a b => if a < k then P (l a) b else 0)
  rw [(dg c).zrow (M := fun a b => if a < k then P (l a) b else 0) hk fun b _ => if_neg (by omega), Int.mul_zero, bo (M' := fun j b => d j * idM j b) hm, dG fun r b _ hr => by rw [bN (by omega), Int.mul_zero]] at h1
  have hpr : ∀ n, n ≤ c → pr n (fun i => d i * idM i i) ≠ 0 := by
   intro n
   induction n with
   | zero => intro _; show (1 : Int) ≠ 0; omega
   | succ n ih =>
    intro hn e
    rw [pr] at e
    rcases Int.mul_eq_zero.1 e with e | e
    ·exact ih (by omega) e
    ·rw [bE, Int.mul_one] at e
     exact (hk2 n (by omega)).1 e
  exact hpr c (Nat.le_refl _) h1
 ·omega
theorem k4 {n : Nat} {A : Mat} (h : det n (fun a b => A b a) ≠ 0) : det n A ≠ 0 := by
 intro h0
 generalize hB : (fun a b => A b a : Mat) = B at h
 have hBv : ∀ a b, B a b = A b a := fun a b => by rw [← hB]
 have h1 : ∀ i j, i < n → j < n → mm n (fun a b => adj n B b a) A i j = det n B * idM i j := fun i j hi hj => by
  have := fF B hj hi
  have e : mm n (fun a b => adj n B b a) A i j = mm n B (adj n B) j i := aX fun k _ => by rw [hBv, Int.mul_comm]
  rw [e, this]
  by_cases e' : i = j
  ·rw [e']
  ·rw [bN e', bN (Ne.symm e')]
 have h2 := dr n (fun a b => adj n B b a) A
 rw [h0, Int.mul_zero, bo (M' := fun i j => det n B * idM i j) h1, dG fun r c _ hr => by rw [bN (by omega), Int.mul_zero], gV n (det n B) fun i _ => by rw [bE, Int.mul_one]] at h2
 exact pm h n h2
theorem InJ.det {R c x0 : Nat} {P V : Mat} {l : Nat → Nat} (h : InJ R c P x0 c l V) : Go.LA.det c (fun a b => P (l a) b) ≠ 0 := by
 refine k4 fun e => h.nz ?_
 have : Go.LA.det c (fun a b => nT c V P a (l b)) = Go.LA.det c (mm c V fun a b => P (l b) a) := bo fun a b _ _ => rfl
 rw [this, dr, e, Int.mul_zero]
theorem InJ.hf {R c : Nat} {P V : Mat} {l : Nat → Nat} {H U : Mat} (h : InJ R c P R c l V) (hH : TH c (fun a b => P (l a) b) H) (hU : CEq c c (fun a b => P (l a) b) H U) : HF R c (mm c P U) c l := by
 have hrow : ∀ a b, a < c → b < c → mm c P U (l a) b = H a b := fun a b ha hb => (hU.2 a b ha hb).symm
 refine ⟨Nat.le_refl _, h.lt, h.mono, fun a ha x hx => ?_, fun a ha => ?_, fun a ha j hj => ?_, fun a h1 h2 => by omega⟩
 ·rcases h.dep x (by have := h.lt a ha; omega) with ⟨a', ha', e⟩ | ⟨kx, h1, h2, h3, d, co, hd, hco⟩
  ·subst e
   have hlt : a' < a := by
    rcases Nat.lt_trichotomy a' a with g | g | g
    ·exact g
    ·subst g; omega
    ·have := h.mono a a' g ha'; omega
   rw [hrow a' a ha' ha]; exact hH.zero a' a hlt ha
  ·have hka : kx ≤ a := by
    rcases Nat.lt_or_ge a kx with g | g
    ·have := h2 a g; omega
    ·exact g
   have : d * mm c P U x a = 0 := by
    unfold mm
    rw [← cj, aX (g := fun b => sm kx fun a' => co a' * (P (l a') b * U b a)) fun b hb => by
     rw [← Int.mul_assoc, hco b hb, ← fw]
     exact aX fun a' _ => by rw [Int.mul_assoc]]
    rw [f9]
    refine eQ fun a' ha' => ?_
    rw [cj]
    have : (sm c fun b => P (l a') b * U b a) = H a' a := hrow a' a (by omega) ha
    rw [this, hH.zero a' a (by omega) ha, Int.mul_zero]
   rcases Int.mul_eq_zero.1 this with e | e
   ·exact absurd e hd
   ·exact e
 ·rw [hrow a a ha ha]; exact hH.pos a ha
 ·rw [hrow a a ha ha, hrow a j ha (by omega)]; exact hH.red a ha j hj
theorem HF.cut {R rows cols k : Nat} {H : Mat} {p : Nat → Nat} (h : HF R cols H k p) (hr : rows ≤ R) : ∃ k', k' ≤ k ∧ (∀ a, a < k → (p a < rows ↔ a < k')) ∧ HF rows cols H k' p := by
 have : ∃ k', k' ≤ k ∧ ∀ a, a < k → (p a < rows ↔ a < k') := by
  have hi : ∀ n, n ≤ k → ∃ k', k' ≤ n ∧ ∀ a, a < n → (p a < rows ↔ a < k') := by
   intro n
   induction n with
   | zero => intro _; exact ⟨0, by omega, fun a h => by omega⟩
   | succ n ih =>
    intro hn
    obtain ⟨k', h1, h2⟩ := ih (by omega)
    by_cases e : p n < rows
    ·refine ⟨n + 1, Nat.le_refl _, fun a ha => ⟨fun _ => ha, fun _ => ?_⟩⟩
     by_cases e' : a = n
     ·rw [e']; exact e
     ·have := h.mono a n (by omega) (by omega); omega
    ·refine ⟨k', by omega, fun a ha => ?_⟩
     by_cases e' : a = n
     ·subst e'; exact ⟨fun h => absurd h e, fun h => by omega⟩
     ·exact h2 a (by omega)
  exact hi k (Nat.le_refl _)
 obtain ⟨k', h1, h2⟩ := this
 have hkc := h.kc
 refine ⟨k', h1, h2, by omega, fun c hc => (h2 c (by omega)).2 hc, fun c c' a b => h.mono c c' a (by omega), fun c hc => h.zero c (by omega), fun c hc => h.pos c (by omega), fun c hc => h.red c (by omega), fun c hc hc' r hr' => ?_⟩
 rcases Nat.lt_or_ge c k with g | g
 ·have : ¬ p c < rows := fun e => by have := (h2 c g).1 e; omega
  exact h.zero c g r (by omega)
 ·exact h.rest c g hc' r (by omega)
end Go.LA
namespace Go.LA
theorem HF.coeff {rows cols k : Nat} {H : Mat} {p : Nat → Nat} (h : HF rows cols H k p) {x : Vec} {c : Nat} (hc : c ≤ k) (hz : ∀ j, j < c → mv cols H x (p j) = 0) : ∀ j, j < c → x j = 0 := fun j => by
 induction j using Nat.strongRecOn with
 | _ j ih =>
  intro hj
  have h1 := (h.begins (x := x) (c := j) (by omega) fun i hi => ih i hi (by omega)).2
  rw [hz j hj] at h1
  rcases Int.mul_eq_zero.1 h1.symm with e | e
  ·exact e
  ·have := h.pos j (by omega); omega
structure CtJ (rows cols k : Nat) (H : Mat) (p : Nat → Nat) (v : Vec) (c : Nat) (r : Vec) : Prop where
 comb : ∃ x : Vec, (∀ j, c ≤ j → x j = 0) ∧ ∀ i, i < rows → v i = r i + mv cols H x i
 zero : ∀ j, j < c → r (p j) = 0
theorem qL {rows cols k : Nat} {H : Mat} {p : Nat → Nat} (v : Vec) : CtJ rows cols k H p v 0 v :=
 ⟨⟨fun _ => 0, fun _ _ => rfl, fun i _ => by unfold mv; rw [eQ fun j _ => Int.mul_zero _]; omega⟩, fun j hj => by omega⟩
theorem pu (n : Nat) (A : Mat) (x y : Vec) (r : Nat) : mv n A (fun j => x j + y j) r = mv n A x r + mv n A y r := by
 unfold mv; rw [← dH]; exact aX fun j _ => by rw [Int.mul_add]
theorem sj {n c : Nat} (A : Mat) (q : Int) (hc : c < n) (r : Nat) : mv n A (fun j => if j = c then q else 0) r = q * A r c := by
 show (sm n fun j => A r j * if j = c then q else 0) = _
 rw [bV hc fun j _ hne => by rw [if_neg hne, Int.mul_zero]]
 rw [if_pos rfl, Int.mul_comm]
theorem CtJ.step {rows cols k : Nat} {H : Mat} {p : Nat → Nat} {v r r' : Vec} {c : Nat} (hF : HF rows cols H k p) (h : CtJ rows cols k H p v c r) (hc : c < k) (hd : H (p c) c ∣ r (p c)) (hr : ∀ i, i < rows → r' i = r i - r (p c) / H (p c) c * H i c) : CtJ rows cols k H p v (c + 1) r' := by
 have hkc := hF.kc
 obtain ⟨x, hx0, hx⟩ := h.comb
 refine ⟨⟨fun j => x j + if j = c then r (p c) / H (p c) c else 0, fun j hj => ?_, fun i hi => ?_⟩, fun j hj => ?_⟩
 ·show x j + _ = 0
  rw [hx0 j (by omega), if_neg (by omega)]; rfl
 ·rw [pu, sj H _ (show c < cols by omega), hr i hi, hx i hi]; omega
 ·rw [hr _ (hF.lt j (by omega))]
  by_cases e : j = c
  ·subst e
   rw [Int.ediv_mul_cancel hd]; omega
  ·rw [h.zero j (by omega), hF.zero c hc _ (hF.mono j c (by omega) hc)]; omega
theorem CtJ.inL {rows cols k : Nat} {H : Mat} {p : Nat → Nat} {v r : Vec} {c : Nat} (h : CtJ rows cols k H p v c r) : InL rows cols H v ↔ InL rows cols H r := by
 obtain ⟨x, _, hx⟩ := h.comb
 constructor
 ·rintro ⟨y, hy⟩
  refine ⟨fun j => y j - x j, fun i hi => ?_⟩
  have e : mv cols H (fun j => y j - x j) i = mv cols H y i - mv cols H x i := by unfold mv; rw [← gU]; exact aX fun j _ => by rw [Int.mul_sub]
  rw [e, ← hy i hi, hx i hi]; omega
 ·rintro ⟨y, hy⟩
  exact ⟨fun j => y j + x j, fun i hi => by rw [pu, ← hy i hi, hx i hi]⟩
theorem CtJ.fail {rows cols k : Nat} {H : Mat} {p : Nat → Nat} {v r : Vec} {c : Nat} (hF : HF rows cols H k p) (h : CtJ rows cols k H p v c r) (hc : c < k) (hn : ¬ H (p c) c ∣ r (p c)) : ¬ InL rows cols H v := fun hv => by
 obtain ⟨y, hy⟩ := h.inL.1 hv
 have h0 := hF.coeff (x := y) (c := c) (by omega) fun j hj => by rw [← hy _ (hF.lt j (by omega)), h.zero j hj]
 have := (hF.begins hc h0).2
 rw [← hy _ (hF.lt c hc)] at this
 exact hn ⟨y c, by rw [this, Int.mul_comm]⟩
theorem CtJ.done {rows cols k : Nat} {H : Mat} {p : Nat → Nat} {v r : Vec} (hF : HF rows cols H k p) (h : CtJ rows cols k H p v k r) : InL rows cols H v ↔ ∀ i, i < rows → r i = 0 := by
 rw [h.inL]
 constructor
 ·intro hr i hi
  refine Classical.byContradiction fun hne => ?_
  obtain ⟨c, hc, _, h2, _⟩ := hF.lead hr ⟨i, hi, hne⟩
  exact h2 (h.zero c hc)
 ·intro hz
  exact (InL.zero rows cols H).congr hz
theorem HF.diag {rows cols k : Nat} {H : Mat} {p : Nat → Nat} (hF : HF rows cols H k p) : k ≤ rows ∧ (k = rows → ∀ c, c < rows → p c = c) := by
 have hge : ∀ c, c < k → c ≤ p c := by
  intro c
  induction c with
  | zero => intro _; exact Nat.zero_le _
  | succ c ih => intro hc; have := ih (by omega); have := hF.mono c (c + 1) (by omega) hc; omega
 have hkr : k ≤ rows := by
  rcases Nat.eq_zero_or_pos k with h | h
  ·omega
  ·have h1 := hge (k - 1) (by omega); have h2 := hF.lt (k - 1) (by omega); omega
 refine ⟨hkr, fun e => ?_⟩
 subst e
 have hle : ∀ d c, c + d + 1 = k → p c ≤ c := by
  intro d
  induction d with
  | zero => intro c hc; have := hF.lt c (by omega); omega
  | succ d ih => intro c hc; have := ih (c + 1) (by omega); have := hF.mono c (c + 1) (by omega) (by omega); omega
 exact fun c hc => Nat.le_antisymm (hle (k - 1 - c) c (by omega)) (hge c hc)
theorem HF.det {n k : Nat} {A H U : Mat} {p : Nat → Nat} (hC : CEq n n A H U) (hF : HF n n H k p) : ((Go.LA.det n A).natAbs : Int) = if k = n then pr n fun c => H c c else 0 := by
 have h1 : Go.LA.det n H = Go.LA.det n A * Go.LA.det n U := by rw [bo (M' := mm n A U) fun r c hr hc => hC.2 r c hr hc, dr]
 have h2 : ((Go.LA.det n A).natAbs : Int) = ((Go.LA.det n H).natAbs : Int) := by
  rcases hC.1 with e | e
  ·rw [e] at h1; rw [h1]; congr 2; omega
  ·rw [e] at h1; rw [h1]; omega
 by_cases e : k = n
 ·subst e
  have hp := hF.diag.2 rfl
  have hl : Go.LA.det k H = pr k fun c => H c c := dG fun r c hc hr => hF.zero c hc r (by rw [hp c hc]; exact hr)
  have hpos : ∀ m, m ≤ k → 0 < pr m fun c => H c c := by
   intro m
   induction m with
   | zero => intro _; show (0 : Int) < 1; omega
   | succ m ih =>
    intro hm
    have := hF.pos m (by omega)
    rw [hp m (by omega)] at this
    exact Int.mul_pos (ih (by omega)) this
  rw [if_pos rfl, h2, hl]
  have := hpos k (Nat.le_refl _)
  omega
 ·have := hF.kc
  rw [if_neg e, h2, eR (j := k) (by omega) fun r hr => hF.rest k (Nat.le_refl _) (by omega) r hr]
  rfl
end Go.LA
namespace Go.LA
structure BzJ (x0 y0 x y a b na nb : Int) : Prop where
 hx : 0 ≤ x
 hy : 0 ≤ y
 ea : a * x0 + b * y0 = x
 en : na * x0 + nb * y0 = y
 pa : (a.natAbs : Int) * y + (na.natAbs : Int) * x = y0
 pb : (b.natAbs : Int) * y + (nb.natAbs : Int) * x = x0
 sa : a * na ≤ 0
 sb : b * nb ≤ 0
 la : (a.natAbs : Int) ≤ y0 + 1 ∧ (na.natAbs : Int) ≤ y0 + 1
 lb : (b.natAbs : Int) ≤ x0 + 1 ∧ (nb.natAbs : Int) ≤ x0 + 1
 dv : ∀ d, (d ∣ x ∧ d ∣ y) ↔ (d ∣ x0 ∧ d ∣ y0)
theorem sn {x0 y0 : Int} (hx : 0 ≤ x0) (hy : 0 ≤ y0) : BzJ x0 y0 x0 y0 1 0 0 1 := by
 refine ⟨hx, hy, by omega, by omega, ?_, ?_, by omega, by omega, ⟨?_, ?_⟩, ⟨?_, ?_⟩, fun d => Iff.rfl⟩ <;> simp <;> omega
theorem k5 {a n q : Int} (hs : a * n ≤ 0) (hq : 0 ≤ q) : ((a - q * n).natAbs : Int) = (a.natAbs : Int) + q * (n.natAbs : Int) ∧ n * (a - q * n) ≤ 0 := by
 rcases Int.lt_trichotomy n 0 with h | h | h
 ·have ha : 0 ≤ a := by
   refine Classical.byContradiction fun hc => ?_
   have : 0 < a * n := Int.mul_pos_of_neg_of_neg (by omega) h
   omega
  have hqn : 0 ≤ q * (-n) := Int.mul_nonneg hq (by omega)
  have e1 : q * (-n) = -(q * n) := by grind
  have e2 : (n.natAbs : Int) = -n := by omega
  have h1 : 0 ≤ a - q * n := by omega
  refine ⟨by rw [e2, e1]; omega, ?_⟩
  have := Int.mul_nonneg (a := -n) (b := a - q * n) (by omega) h1
  have e3 : -n * (a - q * n) = -(n * (a - q * n)) := by grind
  omega
 ·subst h
  simp
 ·have ha : a ≤ 0 := by
   refine Classical.byContradiction fun hc => ?_
   have : 0 < a * n := Int.mul_pos (by omega) h
   omega
  have hqn : 0 ≤ q * n := Int.mul_nonneg hq (by omega)
  have e2 : (n.natAbs : Int) = n := by omega
  have h1 : a - q * n ≤ 0 := by omega
  refine ⟨by rw [e2]; omega, ?_⟩
  have := Int.mul_nonneg (a := n) (b := -(a - q * n)) (by omega) (by omega)
  have e3 : n * -(a - q * n) = -(n * (a - q * n)) := by grind
  omega
theorem BzJ.step {x0 y0 x y a b na nb : Int} (h : BzJ x0 y0 x y a b na nb) (_hx0 : 0 ≤ x0) (_hy0 : 0 ≤ y0) (hne : y ≠ 0) : BzJ x0 y0 y (x % y) na nb (a - x / y * na) (b - x / y * nb) := by
 have hy := h.hy
 have hx := h.hx
 have hq : 0 ≤ x / y := Int.ediv_nonneg hx hy
 have hr : 0 ≤ x % y := Int.emod_nonneg _ hne
 have hdm := Int.emod_add_mul_ediv x y
 obtain ⟨a1, a2⟩ := k5 h.sa hq
 obtain ⟨b1, b2⟩ := k5 h.sb hq
 have pa := h.pa
 have pb := h.pb
 generalize x / y = q at *
 generalize x % y = r at *
 have pa' : (na.natAbs : Int) * r + ((a - q * na).natAbs : Int) * y = y0 := by rw [a1, ← pa, ← hdm]; grind
 have pb' : (nb.natAbs : Int) * r + ((b - q * nb).natAbs : Int) * y = x0 := by rw [b1, ← pb, ← hdm]; grind
 have le1 : ∀ u v z : Int, 0 ≤ u → 0 ≤ v → u * r + v * y = z → v ≤ z := fun u v z hu hv e => by
  have h1 : 0 ≤ u * r := Int.mul_nonneg hu hr
  have h2 : v * 1 ≤ v * y := Int.mul_le_mul_of_nonneg_left (by omega) hv
  omega
 refine ⟨hy, hr, h.en, ?_, pa', pb', a2, b2, ⟨h.la.2, ?_⟩, ⟨h.lb.2, ?_⟩, fun d => ?_⟩
 ·have e1 := h.ea
  have e2 := h.en
  rw [← hdm] at e1
  grind
 ·have := le1 _ _ _ (by omega) (by omega) pa'; omega
 ·have := le1 _ _ _ (by omega) (by omega) pb'; omega
 ·rw [← h.dv d]
  constructor
  ·rintro ⟨h1, h2⟩
   refine ⟨?_, h1⟩
   rw [← hdm]
   exact Int.dvd_add h2 (Int.dvd_mul_of_dvd_left h1)
  ·rintro ⟨h1, h2⟩
   refine ⟨h2, ?_⟩
   have e : r = x - y * q := by omega
   rw [e]
   exact Int.dvd_sub h1 (Int.dvd_mul_of_dvd_left h2)
theorem BzJ.done {x0 y0 x a b na nb : Int} (h : BzJ x0 y0 x 0 a b na nb) : a * x0 + b * y0 = x ∧ x ∣ x0 ∧ x ∣ y0 ∧ (x = 0 → x0 = 0 ∧ y0 = 0) := by
 have hd := (h.dv x).1 ⟨Int.dvd_refl _, Int.dvd_zero _⟩
 refine ⟨h.ea, hd.1, hd.2, fun e => ?_⟩
 subst e
 have pa := h.pa
 have pb := h.pb
 rw [Int.mul_zero, Int.mul_zero] at pa pb
 omega
end Go.LA
namespace Go.Proofs.YtppipmkpmmdcjaaGreat
open Go.W Go.LM Go.LA
theorem k6 {cn : Bool} {K n cap : Nat} {w : World} {a : Option Addr} {s : Nat → SD} {A : Mat} (hM : MX cn K w a n n s A) (hn : 1 ≤ n ∧ n ≤ 16) (hK : 17 * K + 70 ≤ 4398046511104) :
  CallsR Tryz.prog 73 #[.slice a n cap] w fun v w' => ∃ u, v = .tuple #[u, .bool true] ∧ RetMO (16 * K + 64) w n n (fun i j => Go.LA.sgn (n + 1) * flP n A (n - 1) i j) u w' := by
 refine aH (args := [_]) Tryz.func73 rfl rfl ?_
 repeat' (first|refine ai rfl ?_|refine aa ?_|refine aj ?_|refine ah rfl ?_|refine ae ?_)
 refine av (dV hM.top) rfl ?_
 rintro v w2 ⟨rfl, hE2⟩
 refine ⟨fun _ _ => trivial, ?_⟩
 rw [em hM hn hn]
 repeat' (first|refine fd rfl rfl rfl ?_|refine ai rfl ?_|refine aa ?_|refine aj ?_|refine ah rfl ?_|refine ae ?_|refine bR rfl rfl ?_|refine ay rfl ?_|refine aF ?_)
 refine av (lD (hM.ext hE2) hn hK) rfl ?_
 rintro v w3 ⟨g, gs, cp, rfl, hO, hE3⟩
 refine ⟨fun _ _ => trivial, ?_⟩
 repeat' (first|refine ai rfl ?_|refine aa ?_|refine ae ?_|refine aR ?_)
 exact eN rfl (rt rfl) (rt rfl) ⟨_, rfl, g, gs, cp, rfl, hO.mono hE2.size, hE2.trans hE3⟩
end Go.Proofs.YtppipmkpmmdcjaaGreat
namespace Go.Proofs.YtppipmkpmmdcjaaGreat
open Go.W Go.LM Go.LA
theorem RO.fill {cn : Bool} {K n j g : Nat} {w w' : World} {hh : Nat → IH} {u : IH} {f : Nat → Int} (he : ∀ i, i < j → Ent cn K w (hh i).val (f i)) (hb : Blk w g 33 (rowC n hh)) (hu : Ent cn K w u.val (f j)) (hg : Chg g w w') :
  ∀ i, i < j + 1 → Ent cn K w' (setF hh j u i).val (f i) := fun i hi => by
 by_cases h : i = j
 ·subst h; rw [aJ]; exact hu.gbN hb (bF _ _) (bG hg)
 ·rw [aO _ _ h]; exact (he i (by omega)).gbN hb (bF _ _) (bG hg)
theorem pw {α : Type} (x : α) (j : Nat) : setF (fun _ => x) j x = fun _ => x := by funext k; simp [setF]
set_option maxHeartbeats 1000000 in
theorem gW {cn : Bool} {K r c cap : Nat} {w : World} {a : Option Addr} {s : Nat → SD} {F : Nat → Nat → Int} (hM : MX cn K w a r c s F) (hr : 1 ≤ r ∧ r ≤ 16) (hc : 1 ≤ c ∧ c ≤ 16) :
  CallsR Tryz.prog 71 #[.slice a r cap] w fun v w' => ∃ (g : Nat) (gs : Nat → Nat), v = .slice (some ⟨g, 0, none⟩) c c ∧ MO cn K w' w.heap.size g c r gs (fun _ => r) (fun j i => F i j) ∧ Ex w w' := by
 refine aH (args := [_]) Tryz.func71 rfl rfl ?_
 have hpa := hM.plain (by omega)
 obtain ⟨p0, d0, hh0, e0, _, _, _, _⟩ := hM.get (i := 0) (by omega) (by omega)
 repeat' (first|refine aC (j := 0) (a := a) rfl rfl hpa (by omega) ?_|refine aU (j := 0) (a := a) rfl hM.top (by omega) e0 ?_|refine et (n := c) rfl rfl (by omega) (by omega) (fun g w1 hn1 => ⟨fun _ _ => trivial, ?_⟩)|refine ai rfl ?_|refine aa ?_|refine aj ?_|refine ah rfl ?_|refine ae ?_|refine bh rfl ?_|refine aA ?_)
 refine aY (ι := Nat × (Nat → Nat)) [4, 5, 6, 14, 15, 16, 17, 18, 19, 20, 21, 22, 23, 24, 25, 26, 27, 28, 29, 30, 31, 32, 33, 34, 35, 36, 37, 38, 39, 40, 41] (fun t => [(14, .int .i64 (t.1 : Int))])
  (fun t w' => t.1 ≤ c ∧ Ex w w' ∧ MP cn K w' w.heap.size g c r t.1 t.2 (fun _ => r) (fun j i => F i j)) (fun t => c - t.1)
  (0, fun _ => 0) ⟨rfl, trivial⟩ ⟨by omega, hn1.ex, MP.start hn1.blk hn1.lo⟩ ?_
 rintro ⟨j, gs⟩ ξ w2 ⟨hj, hE2, hP2⟩
 simp only at hj hP2
 show CW _ _ _ _ (over [(14, .int .i64 (j : Int))] _) w2
 rcases Nat.lt_or_ge j c with hjc | hjc
 ·repeat' (first|refine bC rfl rfl (by omega) ?_|refine ep (n := r) rfl rfl (by omega) (by omega) (fun g3 w3 hn3 => ⟨fun _ _ => trivial, ?_⟩)|refine aC (j := j) (a := some ⟨g, 0, none⟩) rfl rfl ⟨_, _, rfl⟩ (by omega) ?_|refine ai rfl ?_|refine aa ?_|refine aj ?_|refine ah rfl ?_|refine ae ?_|refine bh rfl ?_|refine aD rfl ?_|refine aA ?_|refine aF ?_)
  refine ci (j := j) (u := ⟨some ⟨g3, 0, none⟩, r, r⟩) rfl rfl (hP2.top.ext hn3.ex) (by omega) (fun w4 hc4 hT4 => ⟨fun _ _ => trivial, ?_⟩)
  have s2 := hE2.size
  have lo3 := hn3.lo
  have low := hP2.low
  obtain ⟨hb4, hne3, hT4', hnext⟩ := hP2.snoc hn3 hc4 hT4 (by omega)
  have hE4 := (hE2.trans hn3.ex).chg hc4 low
  have l34 := hb4.lt
  repeat' (first|refine ai rfl ?_|refine aa ?_|refine aj ?_|refine ah rfl ?_|refine ae ?_|refine bh rfl ?_|refine aA ?_)
  refine aY (ι := Nat × (Nat → IH)) [5, 6, 25, 26, 27, 28, 29, 30, 31, 32, 33, 34, 35, 36, 37, 38, 39, 40] (fun t => [(25, .int .i64 (t.1 : Int))])
   (fun t w' => (t.1 ≤ r ∧ w4.grownBy w' (some g3)) ∧ Blk w' g3 33 (rowC r t.2) ∧ ∀ i, i < t.1 → Ent cn K w' (t.2 i).val (F i j)) (fun t => r - t.1)
   (0, fun _ => ih0) ⟨rfl, trivial⟩ ⟨⟨by omega, bG (Chg.refl _ _)⟩, hb4, fun i hi => by simp only at hi; omega⟩ ?_
  rintro ⟨i, h⟩ ξ2 w5 ⟨⟨hi, hG5⟩, hb5, hEn5⟩
  simp only at hi hb5 hEn5
  show CW _ _ _ _ (over [(25, .int .i64 (i : Int))] _) w5
  have hE5 : Ex w w5 := hE4.gb hG5 (fun k e => by cases e; omega)
  obtain ⟨hT5, hfin⟩ := hnext w5 hG5
  rcases Nat.lt_or_ge i r with hir | hir
  ·obtain ⟨p, d, hh, e1, e2, hp, hS, hEn⟩ := (hM.ext hE5).get hir (by omega)
   repeat' (first|refine bC rfl rfl (by omega) ?_|refine aa ?_|refine aj ?_|refine ah rfl ?_|refine ae ?_|refine aD rfl ?_|refine aF ?_)
   refine aA ?_
   repeat' (first|refine aC (j := i) (a := a) rfl rfl hpa (by omega) ?_|refine aU (j := i) (a := a) rfl (hM.ext hE5).top (by omega) e1 ?_|refine ai rfl ?_|refine aa ?_|refine aj ?_|refine ah rfl ?_|refine ae ?_)
   refine bi (late := [10]) (plan := [(0, none), (1, none), (2, none), (3, none), (4, none), (5, none), (6, none), (7, none), (8, none), (9, none), (10, some false)]) (fun w' => Ex w5 w') bB (by kernel_rfl) (Ex.refl w5).drew ?_
   repeat' (first|refine aC (j := j) (a := some ⟨g, 0, none⟩) rfl rfl ⟨_, _, rfl⟩ (by omega) ?_|refine aU (j := j) (a1 := some ⟨g3, 0, none⟩) (l1 := r) (c1 := r) rfl (fun _ h => (hT5.ext h).sl) (by omega) (by simp [setF]) ?_|refine aT (j := j) (a := p) rfl rfl hp (by omega) ?_|refine bu (j := j) (a := p) rfl (fun _ h => hS.ext h) hp (by omega) ?_|refine aT (j := i) (a := some ⟨g3, 0, none⟩) rfl rfl ⟨_, _, rfl⟩ (by omega) ?_|refine ai rfl ?_)
   refine ch (j := i) (u := hh j) rfl rfl hb5.drew (by omega) (fun w6 hc6 hb6 => ⟨fun h => (nomatch h), ?_⟩)
   repeat' (first|refine ai rfl ?_|refine aa ?_|refine ah rfl ?_|refine ae ?_|refine aZ rfl rfl (by omega) (by omega) ?_|refine aK ?_)
   exact ⟨⟨(i + 1, setF h i (hh j)), ⟨⟨hir, bL (pQ hG5) (bG hc6) (fun k e => .inl e)⟩, hb6, RO.fill (f := fun i => F i j) (fun k hk => (hEn5 k hk).ext (Ex.refl w5).drew) hb5.drew ((hEn j hjc).ext (Ex.refl w5).drew) hc6⟩, by simp only; omega, rfl, trivial⟩, (by (repeat (first|exact aE _ _ _|refine aw rfl ?_|refine au rfl ?_|refine ak rfl ?_|refine ao rfl ?_)))⟩
  ·have eir : r = i := by omega
   repeat' (first|refine bA rfl rfl (by omega) ?_|refine ai rfl ?_|refine aa ?_|refine aj ?_|refine ah rfl ?_|refine ae ?_|refine aZ rfl rfl (by omega) (by omega) ?_|refine ay rfl ?_|refine aV ?_|refine aL ?_|refine aW ?_|refine aK ?_)
   have hf := hfin ⟨by omega, Nat.le_refl _, h, hb5, fun k hk => hEn5 k (by omega)⟩
   rw [pw] at hf
   refine ⟨⟨(j + 1, setF gs j g3), ⟨hjc, hE5, hf⟩, by simp only; omega, rfl, trivial⟩, (by (repeat (first|exact aE _ _ _|refine aw rfl ?_|refine au rfl ?_|refine ak rfl ?_|refine ao rfl ?_)))⟩
 ·have ejc : c = j := by omega
  subst ejc
  repeat' (first|refine bA rfl rfl (by omega) ?_|refine ai rfl ?_|refine aa ?_|refine aj ?_|refine ah rfl ?_|refine ae ?_|refine ay rfl ?_|refine aV ?_|refine aL ?_|refine aW ?_|refine aR ?_)
  exact bK rfl (rt rfl) ⟨g, gs, rfl, hP2.fin, hE2⟩
end Go.Proofs.YtppipmkpmmdcjaaGreat
namespace Go.Proofs.YtppipmkpmmdcjaaGreat
open Go.W Go.LM Go.LA
theorem qM {n i j : Nat} {s : Nat → SD} : topC n (setF (setF s i (s j)) j (s i)) = topC n (fun k => s (swp2 i j k)) := cv fun k _ => by
 unfold swp2 setF
 by_cases a : k = j
 ·subst a; by_cases b : k = i
  ·subst b; simp
  ·simp [b]
 ·by_cases b : k = i
  ·subst b; simp [a]
  ·simp [a, b]
theorem lE {n i j g cap : Nat} {w : World} {s : Nat → SD} (hT : Blk w g 27 (topC n s)) (hi : i < n) (hj : j < n) :
  CallsR Tryz.prog 93 #[.slice (some ⟨g, 0, none⟩) n cap, .int .i64 i, .int .i64 j] w fun _ w' => Chg g w w' ∧ Blk w' g 27 (topC n fun k => s (swp2 i j k)) := by
 refine aH (args := [_, _, _]) Tryz.func93 rfl rfl ?_
 skip
 refine bi (late := [13, 15]) (plan := [(0, none), (1, none), (2, none), (3, none), (4, none), (5, none), (6, none), (7, none), (8, none), (9, none), (10, none), (11, none), (12, none), (13, some false), (14, none), (15, some false)]) (fun w' => Ex w w') bB (by kernel_rfl) (Ex.refl w).drew ?_
 repeat' (first|refine aC (j := i) (a := some ⟨g, 0, none⟩) rfl rfl ⟨_, _, rfl⟩ (by omega) ?_|refine aC (j := j) (a := some ⟨g, 0, none⟩) rfl rfl ⟨_, _, rfl⟩ (by omega) ?_|refine ew (j := j) (a := some ⟨g, 0, none⟩) (n := n) (s := s) rfl (fun _ h => (hT.ext h).sl) (by omega) ?_|refine ew (j := i) (a := some ⟨g, 0, none⟩) (n := n) (s := s) rfl (fun _ h => (hT.ext h).sl) (by omega) ?_|refine ai rfl ?_)
 refine ci (j := i) (u := s j) rfl rfl hT.drew (by omega) (fun w1 hc1 hT1 => ⟨fun h => (nomatch h), ?_⟩)
 repeat' (first|refine aC (j := j) (a := some ⟨g, 0, none⟩) rfl rfl ⟨_, _, rfl⟩ (by omega) ?_)
 refine ci (j := j) (u := s i) rfl rfl hT1 (by omega) (fun w2 hc2 hT2 => ⟨fun h => (nomatch h), ?_⟩)
 repeat' (first|refine ae ?_)
 rw [qM] at hT2
 have hc0 : Chg g w w.drew := (Chg.refl g w).drew
 exact jq rfl ⟨(hc0.trans hc1).trans hc2, hT2⟩
theorem RX.get {cn : Bool} {K n : Nat} {w : World} {s : SD} {f : Nat → Int} (h : RX cn K w s n f) (hn : 0 < n) :
  ∃ (p : Option Addr) (d : Nat) (hh : Nat → IH), s = ⟨p, n, d⟩ ∧ n ≤ d ∧ W.plain p ∧ Sl w p (rowC n hh) ∧ ∀ j, j < n → Ent cn K w (hh j).val (f j) := by
 obtain ⟨hh, h1, h2⟩ := h.ex
 have hl := h.len
 have hc' := h.cap
 have hp := h.plain hn
 refine ⟨s.a, s.cap, hh, ?_, hc', hp, h1, h2⟩
 cases s with
 | mk a l c' => simp only at hl; rw [hl]
set_option maxHeartbeats 1000000 in
theorem ed {c1 c2 c3 c4 : Bool} {K1 K2 K3 K4 n R i j tc : Nat} {w : World} {at' : Option Addr} {s : Nat → SD} {va vb : Value} {x y : Int} {f1 f2 : Nat → Int} (hT : Sl w at' (topC n s)) (hi : i < n) (hj : j < n) (hR0 : 1 ≤ R) (hR : R ≤ 32)
  (hX1 : RX c1 K1 w (s i) R f1) (hX2 : RX c2 K2 w (s j) R f2) (ha : Ent c3 K3 w va x) (hb : Ent c4 K4 w vb y) (hK1 : K1 + K3 < 17592186044416) (hK2 : K2 + K4 < 17592186044416) {K' : Nat} (hlb : ∀ r, r < R → Lb K' (x * f1 r + y * f2 r)) :
  CallsR Tryz.prog 100 #[.slice at' n tc, .int .i64 i, va, .int .i64 j, vb] w fun v w' => ∃ g3, v = .slice (some ⟨g3, 0, none⟩) R R ∧ RO true K' w' w.heap.size g3 R R (fun r => x * f1 r + y * f2 r) ∧ Ex w w' := by
 obtain ⟨xa, rfl⟩ := ha.ih
 obtain ⟨xb, rfl⟩ := hb.ih
 obtain ⟨p1, d1, hh1, e1, _, hp1, hS1, hEn1⟩ := hX1.get (by omega)
 obtain ⟨p2, d2, hh2, e2, _, hp2, hS2, hEn2⟩ := hX2.get (by omega)
 have hpt := hT.plain (by rw [b9]; omega)
 refine aH (args := [_, _, _, _, _]) Tryz.func100 rfl rfl ?_
 refine aj ?_
 refine ah rfl ?_
 refine bH (vs := xa.cells) rfl (fun g1 w1 hn1 => ⟨fun _ _ => trivial, ?_⟩)
 refine bH (vs := xb.cells) rfl (fun g2 w2 hn2 => ⟨fun _ _ => trivial, ?_⟩)
 have hb1 := hn1.blk.ext hn2.ex
 have hb2 := hn2.blk
 have hE2 := hn1.ex.trans hn2.ex
 repeat' (first|refine aC (j := i) (a := at') rfl rfl hpt (by omega) ?_|refine aU (j := i) (a := at') rfl (hT.ext hE2) (by omega) e1 ?_|refine ep (n := R) rfl rfl (by omega) (by omega) (fun g3 w3 hn3 => ⟨fun _ _ => trivial, ?_⟩)|refine ai rfl ?_|refine aa ?_|refine aj ?_|refine ah rfl ?_|refine ae ?_|refine bh rfl ?_|refine aA ?_)
 have hE3 := hE2.trans hn3.ex
 have lo3 := hn3.lo
 have s2 := hE2.size
 refine aY (ι := Nat × (Nat → IH)) [12, 21, 22, 23, 24, 25, 26, 27, 28, 29, 30, 31, 32, 33, 34, 35, 36, 37, 38, 39, 40, 41, 42, 43, 44, 45, 46] (fun t => [(21, .int .i64 (t.1 : Int))])
  (fun t w' => (t.1 ≤ R ∧ w3.grownBy w' (some g3)) ∧ Blk w' g3 33 (rowC R t.2) ∧ ∀ r, r < t.1 → Ent true K' w' (t.2 r).val (x * f1 r + y * f2 r)) (fun t => R - t.1)
  (0, fun _ => ih0) ⟨rfl, trivial⟩ ⟨⟨by omega, bG (Chg.refl _ _)⟩, hn3.blk, fun i hi => by simp only at hi; omega⟩ ?_
 rintro ⟨r, h⟩ ξ w4 ⟨⟨hr, hG4⟩, hb4, hEn4⟩
 simp only at hr hb4 hEn4
 show CW _ _ _ _ (over [(21, .int .i64 (r : Int))] _) w4
 have hE24 : Ex w2 w4 := hn3.ex.gb hG4 (fun k e => by cases e; omega)
 have hE4 : Ex w w4 := hE2.trans hE24
 rcases Nat.lt_or_ge r R with hrR | hrR
 ·repeat' (first|refine bC rfl rfl (by omega) ?_|refine aa ?_|refine aj ?_|refine ah rfl ?_|refine ae ?_|refine aD rfl ?_|refine aF ?_)
  refine aA ?_
  repeat' (first|refine ai rfl ?_|refine aa ?_|refine aj ?_|refine ah rfl ?_|refine ae ?_)
  refine bi (late := [22]) (plan := [(0, none), (1, none), (2, none), (3, none), (4, none), (5, none), (6, none), (7, none), (8, none), (9, none), (11, none), (12, none), (13, none), (14, none), (15, none), (16, none), (17, none), (18, none), (10, some true), (19, some true), (20, some true), (21, none), (22, some false)]) (fun w' => Ex w4 w') bB (by kernel_rfl) (Ex.refl w4).drew ?_
  repeat' (first|refine aN (g := g1) rfl (fun _ h => (hb1.ext hE24).ext h) rfl ?_|refine aN (g := g2) rfl (fun _ h => (hb2.ext hE24).ext h) rfl ?_|refine aC (j := i) (a := at') rfl rfl hpt (by omega) ?_|refine aC (j := j) (a := at') rfl rfl hpt (by omega) ?_|refine aU (j := i) (a := at') rfl (fun _ h => hT.ext (hE4.trans h)) (by omega) e1 ?_|refine aU (j := j) (a := at') rfl (fun _ h => hT.ext (hE4.trans h)) (by omega) e2 ?_|refine aT (j := r) (a := p1) rfl rfl hp1 (by omega) ?_|refine aT (j := r) (a := p2) rfl rfl hp2 (by omega) ?_|refine bu (j := r) (a := p1) rfl (fun _ h => hS1.ext (hE4.trans h)) hp1 (by omega) ?_|refine bu (j := r) (a := p2) rfl (fun _ h => hS2.ext (hE4.trans h)) hp2 (by omega) ?_|refine ai rfl ?_)
  have hE4d := hE4.drew
  refine av (cK (ha.ext hE4d).k ((hEn1 r hrR).ext hE4d).k (by omega)) rfl ?_
  rintro v w5 ⟨hI5, hE5⟩
  refine ⟨fun _ h => h.trans hE5, ?_⟩
  refine av (cK (hb.ext (hE4d.trans hE5)).k ((hEn2 r hrR).ext (hE4d.trans hE5)).k (by omega)) rfl ?_
  rintro v w6 ⟨hI6, hE6⟩
  refine ⟨fun _ h => h.trans hE6, ?_⟩
  refine av (eg ((hI5.ext hE6).k (ha.lb.mul (hEn1 r hrR).lb)) (hI6.k (hb.lb.mul (hEn2 r hrR).lb)) (by omega) (by omega)) rfl ?_
  rintro v w7 ⟨hI7, hE7⟩
  refine ⟨fun _ h => h.trans hE7, ?_⟩
  obtain ⟨u, rfl⟩ := hI7.ih
  have hE47 : Ex w4 w7 := (((Ex.refl w4).drew.trans hE5).trans hE6).trans hE7
  repeat' (first|refine aT (j := r) (a := some ⟨g3, 0, none⟩) rfl rfl ⟨_, _, rfl⟩ (by omega) ?_)
  refine ch (j := r) (u := u) rfl rfl (hb4.ext hE47) (by omega) (fun w8 hc8 hb8 => ⟨fun h => (nomatch h), ?_⟩)
  repeat' (first|refine ai rfl ?_|refine aa ?_|refine ah rfl ?_|refine ae ?_|refine aZ rfl rfl (by omega) (by omega) ?_|refine aK ?_)
  exact ⟨⟨(r + 1, setF h r u), ⟨⟨hrR, bL (bL hG4 (lA hE47) (fun k e => (nomatch e))) (bG hc8) (fun k e => .inl e)⟩, hb8, RO.fill (f := fun r => x * f1 r + y * f2 r) (fun k hk => (hEn4 k hk).ext hE47) (hb4.ext hE47) (Ent.of hI7 (hlb r hrR)) hc8⟩, by simp only; omega, rfl, trivial⟩, (by (repeat (first|exact aE _ _ _|refine aw rfl ?_|refine au rfl ?_|refine ak rfl ?_|refine ao rfl ?_)))⟩
 ·have erR : R = r := by omega
  subst erR
  repeat' (first|refine bA rfl rfl (by omega) ?_|refine ai rfl ?_|refine aa ?_|refine aj ?_|refine ah rfl ?_|refine ae ?_|refine ay rfl ?_|refine aV ?_|refine aL ?_|refine aW ?_|refine aR ?_)
  exact bK rfl (rt rfl) ⟨g3, rfl, ⟨by have := hn1.ex.size; omega, Nat.le_refl _, h, hb4, hEn4⟩, hE4⟩
end Go.Proofs.YtppipmkpmmdcjaaGreat
