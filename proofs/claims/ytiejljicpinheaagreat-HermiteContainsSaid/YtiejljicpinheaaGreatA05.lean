import Derived.Test.YtiejljicpinheaaGreatA04
namespace Go.LA
def eadd (i j : Nat) (q : Int) : Mat := fun a b => idM a b + (if a = j ∧ b = i then q else 0)
def cadd (M : Mat) (i j : Nat) (q : Int) : Mat := fun r c => if c = i then M r i + q * M r j else M r c
def cswp (M : Mat) (i j : Nat) : Mat := fun r c => M r (if c = i then j else if c = j then i else c)
def cneg (M : Mat) (i : Nat) : Mat := fun r c => if c = i then - M r i else M r c
theorem oP {n i j : Nat} (M : Mat) (q : Int) (_hi : i < n) (hj : j < n) (r c : Nat) (hc : c < n) : mm n M (eadd i j q) r c = cadd M i j q r c := by
 unfold mm eadd
 have : (sm n fun k => M r k * (idM k c + if k = j ∧ c = i then q else 0)) = (sm n fun k => M r k * idM k c) + sm n fun k => M r k * (if k = j ∧ c = i then q else 0) := by
  rw [← dP]; exact bf fun k _ => by rw [Int.mul_add]
 rw [this, show (sm n fun k => M r k * idM k c) = M r c from qv M r c hc, cw hj fun k _ hne => by rw [if_neg (fun h => hne h.1), Int.mul_zero]]
 unfold cadd
 by_cases e : c = i
 ·rw [if_pos ⟨rfl, e⟩, if_pos e, e]; grind
 ·rw [if_neg (fun h => e h.2), if_neg e, Int.mul_zero, Int.add_zero]
theorem qC {n i j : Nat} (hne : i ≠ j) (q : Int) : det n (eadd i j q) = 1 := by
 have hd : ∀ a, eadd i j q a a = 1 := fun a => by unfold eadd; rw [bF, if_neg (fun h => hne (h.2.symm.trans h.1))]; rfl
 rcases Nat.lt_or_gt_of_ne hne with h | h
 ·rw [dF fun r c _ hr => by unfold eadd; rw [bI (by omega), if_neg (by omega)]; rfl]
  rw [gG n 1 fun a _ => hd a, Int.one_pow]
 ·rw [jc fun r c _ hc => by unfold eadd; rw [bI (by omega), if_neg (by omega)]; rfl]
  rw [gG n 1 fun a _ => hd a, Int.one_pow]
theorem qD {n i j : Nat} (M : Mat) (hi : i < n) (hj : j < n) (r c : Nat) (hc : c < n) : mm n M (swp idM i j) r c = cswp M i j r c := by
 unfold mm cswp
 have hlt : (if c = i then j else if c = j then i else c) < n := by split; exact hj; split; exact hi; exact hc
 rw [cw hlt]
 ·have : swp idM i j (if c = i then j else if c = j then i else c) c = 1 := by
   unfold swp rw'
   by_cases e1 : c = i
   ·rw [if_pos e1, if_pos rfl, e1, bF]
   ·rw [if_neg e1]
    by_cases e2 : c = j
    ·rw [if_pos e2]
     by_cases e3 : i = j
     ·omega
     ·rw [if_neg e3, if_pos rfl, e2, bF]
    ·rw [if_neg e2, if_neg e2, if_neg e1, bF]
  rw [this, Int.mul_one]
 ·intro k hk hne
  have : swp idM i j k c = 0 := by
   unfold swp rw'
   by_cases e1 : k = j
   ·rw [if_pos e1]
    exact bI fun h => hne (by rw [if_pos h.symm, e1])
   ·rw [if_neg e1]
    by_cases e2 : k = i
    ·rw [if_pos e2]
     exact bI fun h => by
      by_cases e3 : c = i
      ·omega
      ·exact hne (by rw [if_neg e3, if_pos h.symm, e2])
    ·rw [if_neg e2]
     refine bI fun h => ?_
     subst h
     exact hne (by rw [if_neg e2, if_neg e1])
  rw [this, Int.mul_zero]
theorem r8 {n i j : Nat} (hne : i ≠ j) (hi : i < n) (hj : j < n) : det n (swp idM i j) = -1 := by rw [(cW n).swap idM hne hi hj, io]
def eneg (i : Nat) : Mat := fun a b => if a = b then (if a = i then -1 else 1) else 0
theorem oQ {n i : Nat} (M : Mat) (r c : Nat) (hc : c < n) : mm n M (eneg i) r c = cneg M i r c := by
 unfold mm
 rw [cw hc fun k _ hne => by unfold eneg; rw [if_neg hne, Int.mul_zero]]
 unfold eneg cneg
 rw [if_pos rfl]
 by_cases e : c = i
 ·rw [if_pos e, if_pos e, e]; omega
 ·rw [if_neg e, if_neg e, Int.mul_one]
theorem qE {n i : Nat} (hi : i < n) : det n (eneg i) = -1 := by
 rw [dF fun r c _ hr => by unfold eneg; rw [if_neg (by omega)]]
 have : ∀ m, pr m (fun a => eneg i a a) = if i < m then -1 else 1 := by
  intro m
  induction m with
  | zero => rfl
  | succ m ih =>
   rw [pr, ih]
   unfold eneg
   rw [if_pos rfl]
   by_cases e : m = i
   ·rw [if_pos e, if_neg (by omega), if_pos (by omega)]; rfl
   ·rw [if_neg e]
    by_cases e' : i < m
    ·rw [if_pos e', if_pos (by omega)]; rfl
    ·rw [if_neg e', if_neg (by omega)]; rfl
 rw [this, if_pos hi]
def CEq (rows cols : Nat) (A H U : Mat) : Prop := Uni cols U ∧ ∀ r c, r < rows → c < cols → H r c = mm cols A U r c
theorem qF (rows cols : Nat) (A : Mat) : CEq rows cols A A idM := ⟨qB cols, fun r c _ hc => (qv A r c hc).symm⟩
theorem CEq.congr {rows cols : Nat} {A H H' U U' : Mat} (h : CEq rows cols A H U) (hH : ∀ r c, r < rows → c < cols → H' r c = H r c) (hU : ∀ r c, r < cols → c < cols → U' r c = U r c) : CEq rows cols A H' U' :=
 ⟨h.1.congr fun r c hr hc => (hU r c hr hc).symm, fun r c hr hc => by rw [hH r c hr hc, h.2 r c hr hc]; exact ep (fun _ _ => rfl) fun k hk => (hU k c hk hc).symm⟩
theorem CEq.step {rows cols : Nat} {A H U E : Mat} (h : CEq rows cols A H U) (hE : Uni cols E) : CEq rows cols A (mm cols H E) (mm cols U E) :=
 ⟨h.1.mul hE, fun r c hr _ => by rw [← iH]; exact ep (fun k hk => h.2 r k hr hk) fun _ _ => rfl⟩
theorem CEq.add {rows cols i j : Nat} {A H U : Mat} (h : CEq rows cols A H U) (q : Int) (hne : i ≠ j) (hi : i < cols) (hj : j < cols) : CEq rows cols A (cadd H i j q) (cadd U i j q) :=
 (h.step (E := eadd i j q) (.inl (qC hne q))).congr (fun r c _ hc => (oP H q hi hj r c hc).symm) fun r c _ hc => (oP U q hi hj r c hc).symm
theorem CEq.swap {rows cols i j : Nat} {A H U : Mat} (h : CEq rows cols A H U) (hne : i ≠ j) (hi : i < cols) (hj : j < cols) : CEq rows cols A (cswp H i j) (cswp U i j) :=
 (h.step (E := swp idM i j) (.inr (r8 hne hi hj))).congr (fun r c _ hc => (qD H hi hj r c hc).symm) fun r c _ hc => (qD U hi hj r c hc).symm
theorem CEq.neg {rows cols i : Nat} {A H U : Mat} (h : CEq rows cols A H U) (hi : i < cols) : CEq rows cols A (cneg H i) (cneg U i) :=
 (h.step (E := eneg i) (.inr (qE hi))).congr (fun r c _ hc => (oQ H r c hc).symm) fun r c _ hc => (oQ U r c hc).symm
theorem CEq.inL {rows cols : Nat} {A H U : Mat} (h : CEq rows cols A H U) (v : Vec) : InL rows cols H v ↔ InL rows cols A v := InL.uni h.1 h.2 v
theorem HF.unique' {rows cols k k' : Nat} {H H' : Mat} {p p' : Nat → Nat} (h : HF rows cols H k p) (h' : HF rows cols H' k' p') (hL : ∀ v, InL rows cols H v ↔ InL rows cols H' v) : ∀ r c, r < rows → c < cols → H r c = H' r c := fun r c hr hc => by
 obtain ⟨rfl, _, h3⟩ := h.unique h' hL
 rcases Nat.lt_or_ge c k with hk | hk
 ·exact h3 c hk r hr
 ·rw [h.rest c hk hc r hr, h'.rest c hk hc r hr]
theorem mW {rows cols k j r : Nat} {A : Mat} (hj : k < j) (hjc : j < cols) : ∀ (m : Nat) (H U : Mat), (H r j).natAbs = m → CEq rows cols A H U →
  ∃ H' U', CEq rows cols A H' U' ∧ H' r j = 0 ∧ (∀ c, c ≠ k → c ≠ j → ∀ x, H' x c = H x c) ∧ ∀ x, H x k = 0 → H x j = 0 → H' x k = 0 ∧ H' x j = 0 := by
 intro m
 induction m using Nat.strongRecOn with
 | _ m ih =>
  intro H U hm h
  by_cases h0 : H r j = 0
  ·exact ⟨H, U, h, h0, fun _ _ _ _ => rfl, fun x h1 h2 => ⟨h1, h2⟩⟩
  ·have h1 := (h.add (i := k) (j := j) (-(H r k / H r j)) (by omega) (by omega) hjc).swap (i := k) (j := j) (by omega) (by omega) hjc
   have e1 : cswp (cadd H k j (-(H r k / H r j))) k j r j = H r k % H r j := by
    show cadd H k j _ r (if j = k then j else if j = j then k else j) = _
    rw [if_neg (by omega), if_pos rfl]
    unfold cadd
    rw [if_pos rfl]
    have := Int.emod_add_mul_ediv (H r k) (H r j)
    grind
   have hlt : (H r k % H r j).natAbs < m := by
    have a1 := Int.emod_nonneg (H r k) h0
    have a2 := Int.emod_lt (H r k) h0
    omega
   obtain ⟨H', U', g1, g2, g3, g4⟩ := ih _ hlt _ _ (by rw [e1]) h1
   refine ⟨H', U', g1, g2, fun c hk hjj x => ?_, fun x hx hy => ?_⟩
   ·rw [g3 c hk hjj x]
    unfold cswp cadd
    rw [if_neg hk, if_neg hjj, if_neg hk]
   ·refine g4 x ?_ ?_
    ·unfold cswp cadd
     rw [if_pos rfl, if_neg (by omega)]; exact hy
    ·show cadd H k j _ x (if j = k then j else if j = j then k else j) = 0
     rw [if_neg (show j ≠ k by omega), if_pos rfl]
     unfold cadd
     rw [if_pos rfl, hx, hy]; omega
theorem nW {rows cols k r : Nat} {A : Mat} : ∀ (m : Nat), k + 1 + m ≤ cols → ∀ (H U : Mat), CEq rows cols A H U →
  ∃ H' U', CEq rows cols A H' U' ∧ (∀ c, k < c → c < k + 1 + m → H' r c = 0) ∧ (∀ c, c < k ∨ k + 1 + m ≤ c → ∀ x, H' x c = H x c) ∧ ∀ x, (∀ c, k ≤ c → c < cols → H x c = 0) → ∀ c, k ≤ c → c < cols → H' x c = 0 := by
 intro m
 induction m with
 | zero => intro _ H U h; exact ⟨H, U, h, fun c h1 h2 => by omega, fun _ _ _ => rfl, fun x hx => hx⟩
 | succ m ih =>
  intro hm H U h
  obtain ⟨H1, U1, a1, a2, a3, a4⟩ := ih (by omega) H U h
  obtain ⟨H2, U2, b1, b2, b3, b4⟩ := mW (r := r) (show k < k + 1 + m by omega) (by omega) _ H1 U1 rfl a1
  refine ⟨H2, U2, b1, fun c h1 h2 => ?_, fun c hc x => ?_, fun x hx c h1 h2 => ?_⟩
  ·by_cases e : c = k + 1 + m
   ·rw [e]; exact b2
   ·rw [b3 c (by omega) e]; exact a2 c h1 (by omega)
  ·rw [b3 c (by omega) (by omega), a3 c (by omega)]
  ·have z := a4 x hx
   by_cases e1 : c = k
   ·rw [e1]; exact (b4 x (z k (by omega) (by omega)) (z _ (by omega) (by omega))).1
   ·by_cases e2 : c = k + 1 + m
    ·rw [e2]; exact (b4 x (z k (by omega) (by omega)) (z _ (by omega) (by omega))).2
    ·rw [b3 c e1 e2]; exact z c h1 h2
theorem nX {rows cols k r : Nat} {A : Mat} (hk : k < cols) : ∀ (m : Nat), m ≤ k → ∀ (H U : Mat), CEq rows cols A H U → 0 < H r k →
  ∃ H' U', CEq rows cols A H' U' ∧ (∀ c, k ≤ c → ∀ x, H' x c = H x c) ∧ (∀ c, c < m → 0 ≤ H' r c ∧ H' r c < H r k) ∧ ∀ x, H x k = 0 → ∀ c, H' x c = H x c := by
 intro m
 induction m with
 | zero => intro _ H U h _; exact ⟨H, U, h, fun _ _ _ => rfl, fun c hc => by omega, fun _ _ _ => rfl⟩
 | succ m ih =>
  intro hm H U h hp
  obtain ⟨H1, U1, a1, a2, a3, a4⟩ := ih (by omega) H U h hp
  have hp1 : H1 r k = H r k := a2 k (Nat.le_refl _) r
  have a5 : H1 r m % H r k = H1 r m + -(H1 r m / H r k) * H1 r k := by
   have := Int.emod_add_mul_ediv (H1 r m) (H r k)
   rw [hp1]; grind
  refine ⟨_, _, a1.add (i := m) (j := k) (-(H1 r m / H r k)) (by omega) (by omega) hk, fun c hc x => ?_, fun c hc => ?_, fun x hx c => ?_⟩
  ·unfold cadd; rw [if_neg (by omega)]; exact a2 c hc x
  ·unfold cadd
   by_cases e : c = m
   ·rw [if_pos e, ← a5]
    exact ⟨Int.emod_nonneg _ (by omega), Int.emod_lt_of_pos _ hp⟩
   ·rw [if_neg e]; exact a3 c (by omega)
  ·unfold cadd
   by_cases e : c = m
   ·rw [if_pos e, a2 k (Nat.le_refl _) x, hx, Int.mul_zero, Int.add_zero, e]; exact a4 x hx m
   ·rw [if_neg e]; exact a4 x hx c
theorem HF.more {cols k r : Nat} {H : Mat} {p : Nat → Nat} (h : HF r cols H k p) (hz : ∀ c, k ≤ c → c < cols → H r c = 0) : HF (r + 1) cols H k p :=
 ⟨h.kc, fun c hc => by have := h.lt c hc; omega, h.mono, h.zero, h.pos, h.red, fun c hc hc' x hx => by
  by_cases e : x = r
  ·rw [e]; exact hz c hc hc'
  ·exact h.rest c hc hc' x (by omega)⟩
theorem HF.pivot {cols k r : Nat} {H : Mat} {p : Nat → Nat} (h : HF r cols H k p) (hk : k < cols) (hp : 0 < H r k) (hz : ∀ c, k < c → c < cols → H r c = 0) (hr : ∀ c, c < k → 0 ≤ H r c ∧ H r c < H r k) : HF (r + 1) cols H (k + 1) (fun c => if c = k then r else p c) := by
 have hpl : ∀ c, c < k → p c < r := h.lt
 refine ⟨hk, fun c hc => ?_, fun c c' h1 h2 => ?_, fun c hc x hx => ?_, fun c hc => ?_, fun c hc j hj => ?_, fun c hc hc' x hx => ?_⟩
 ·show (if c = k then r else p c) < r + 1
  split
  ·omega
  ·have := hpl c (by omega); omega
 ·show (if c = k then r else p c) < if c' = k then r else p c'
  rw [if_neg (by omega)]
  split
  ·exact hpl c (by omega)
  ·exact h.mono c c' h1 (by omega)
 ·have hx' : x < if c = k then r else p c := hx
  split at hx'
  ·rename_i e; rw [e]; exact h.rest k (Nat.le_refl _) hk x hx'
  ·exact h.zero c (by omega) x hx'
 ·show 0 < H (if c = k then r else p c) c
  split
  ·rename_i e; rw [e]; exact hp
  ·exact h.pos c (by omega)
 ·show 0 ≤ H (if c = k then r else p c) j ∧ H (if c = k then r else p c) j < H (if c = k then r else p c) c
  split
  ·rename_i e; rw [e]; exact hr j (by omega)
  ·exact h.red c (by omega) j hj
 ·by_cases e : x = r
  ·rw [e]; exact hz c (by omega) hc'
  ·exact h.rest c (by omega) hc' x (by omega)
theorem pk (rows cols : Nat) (A : Mat) : ∃ H U k p, CEq rows cols A H U ∧ HF rows cols H k p := by
 have key : ∀ r, r ≤ rows → ∃ H U k p, CEq rows cols A H U ∧ HF r cols H k p := by
  intro r
  induction r with
  | zero => intro _; exact ⟨A, idM, 0, fun _ => 0, qF _ _ _, ⟨Nat.zero_le _, fun c hc => by omega, fun c c' _ h => by omega, fun c hc => by omega, fun c hc => by omega, fun c hc => by omega, fun c _ _ x hx => by omega⟩⟩
  | succ r ih =>
   intro hr
   obtain ⟨H, U, k, p, hC, hF⟩ := ih (by omega)
   by_cases hk : k < cols
   ·obtain ⟨H1, U1, a1, a2, a3, a4⟩ := nW (rows := rows) (cols := cols) (k := k) (r := r) (A := A) (cols - (k + 1)) (by omega) H U hC
    have hF1 : HF r cols H1 k p := hF.congr fun x c hx hc => by
     rcases Nat.lt_or_ge c k with h | h
     ·exact a3 c (.inl h) x
     ·rw [a4 x (fun c h1 h2 => hF.rest c h1 h2 x hx) c h hc, hF.rest c h hc x hx]
    by_cases h0 : H1 r k = 0
    ·refine ⟨H1, U1, k, p, a1, hF1.more fun c h1 h2 => ?_⟩
     by_cases e : c = k
     ·rw [e]; exact h0
     ·exact a2 c (by omega) (by omega)
    ·
     obtain ⟨H2, U2, b1, b2, b3, b4⟩ : ∃ H2 U2, CEq rows cols A H2 U2 ∧ HF r cols H2 k p ∧ 0 < H2 r k ∧ ∀ c, k < c → c < cols → H2 r c = 0 := by
      by_cases hpos : 0 < H1 r k
      ·exact ⟨H1, U1, a1, hF1, hpos, fun c h1 h2 => a2 c h1 (by omega)⟩
      ·refine ⟨cneg H1 k, cneg U1 k, a1.neg hk, hF1.congr fun x c hx hc => ?_, ?_, fun c h1 h2 => ?_⟩
       ·unfold cneg
        by_cases e : c = k
        ·rw [if_pos e, e, hF1.rest k (Nat.le_refl _) hk x hx]; rfl
        ·rw [if_neg e]
       ·unfold cneg; rw [if_pos rfl]; omega
       ·unfold cneg; rw [if_neg (by omega)]; exact a2 c h1 (by omega)
     obtain ⟨H3, U3, c1, c2, c3, c4⟩ := nX (r := r) hk k (Nat.le_refl _) H2 U2 b1 b3
     have hF3 : HF r cols H3 k p := b2.congr fun x c hx _ => c4 x (b2.rest k (Nat.le_refl _) hk x hx) c
     refine ⟨H3, U3, k + 1, _, c1, hF3.pivot hk ?_ (fun c h1 h2 => ?_) (fun c hc => ?_)⟩
     ·rw [c2 k (Nat.le_refl _) r]; exact b3
     ·rw [c2 c (by omega) r]; exact b4 c h1 h2
     ·rw [c2 k (Nat.le_refl _) r]; exact c3 c hc
   ·exact ⟨H, U, k, p, hC, hF.more fun c h1 h2 => by omega⟩
 exact key rows (Nat.le_refl _)
end Go.LA
namespace Go.LA
theorem HF.coeff {rows cols k : Nat} {H : Mat} {p : Nat → Nat} (h : HF rows cols H k p) {x : Vec} {c : Nat} (hc : c ≤ k) (hz : ∀ j, j < c → mv cols H x (p j) = 0) : ∀ j, j < c → x j = 0 := fun j => by
 induction j using Nat.strongRecOn with
 | _ j ih =>
  intro hj
  have h1 := (h.begins (x := x) (c := j) (by omega) fun i hi => ih i hi (by omega)).2
  rw [hz j hj] at h1
  rcases Int.mul_eq_zero.1 h1.symm with e | e
  ·exact e
  ·have := h.pos j (by omega); omega
theorem HF.kernel {rows cols k : Nat} {A H U : Mat} {p : Nat → Nat} (hC : CEq rows cols A H U) (hF : HF rows cols H k p) (x : Vec) : (∀ r, r < rows → mv cols A x r = 0) ↔ InL cols (cols - k) (fun r j => U r (k + j)) x := by
 have hk := hF.kc
 have hmv : ∀ y r, r < rows → mv cols H y r = mv cols A (mv cols U y) r := fun y r hr => by
  rw [← kb]; exact dq (fun j hj => hC.2 r j hr hj) fun _ _ => rfl
 have hsplit : ∀ (y : Vec) r, (∀ j, j < k → y j = 0) → mv cols U y r = mv (cols - k) (fun r j => U r (k + j)) (fun j => y (k + j)) r := fun y r hy => by
  unfold mv
  conv => lhs; rw [show cols = k + (cols - k) by omega]
  rw [fP, fE fun j hj => by rw [hy j hj, Int.mul_zero], Int.zero_add]
 constructor
 ·intro hx
  generalize hy : mv cols (uinv cols U) x = y
  have hUy : ∀ r, r < cols → mv cols U y r = x r := fun r hr => by
   rw [← hy, ← kb, dq (A' := idM) (fun j hj => hC.1.mul_inv hr hj) fun _ _ => rfl]
   unfold mv
   rw [cw hr fun j _ hne => by rw [bI (Ne.symm hne), Int.zero_mul]]
   rw [bF, Int.one_mul]
  have hHy : ∀ r, r < rows → mv cols H y r = 0 := fun r hr => by
   rw [hmv y r hr, ← hx r hr]; exact dq (fun _ _ => rfl) fun j hj => hUy j hj
  have h0 := hF.coeff (x := y) (Nat.le_refl k) fun j hj => hHy _ (hF.lt j hj)
  exact ⟨fun j => y (k + j), fun r hr => by rw [← hsplit y r h0, hUy r hr]⟩
 ·rintro ⟨z, hz⟩ r hr
  have h0 : ∀ j, j < k → (fun j => if j < k then 0 else z (j - k) : Vec) j = 0 := fun j hj => if_pos hj
  have e1 : mv cols A x r = mv cols H (fun j => if j < k then 0 else z (j - k)) r := by
   rw [hmv _ r hr]
   refine dq (fun _ _ => rfl) fun j hj => ?_
   rw [hz j hj, hsplit _ j h0]
   refine dq (fun _ _ => rfl) fun i _ => ?_
   show z i = if k + i < k then 0 else z (k + i - k)
   rw [if_neg (by omega), Nat.add_sub_cancel_left]
  rw [e1, hF.mvk _ hr]
  exact fE fun j hj => by show H r j * (if j < k then 0 else z (j - k)) = 0; rw [if_pos hj, Int.mul_zero]
end Go.LA
namespace Go.LA
def litF (L : List (List Int)) : Mat := fun i j => (L.getD i []).getD j 0
theorem jd {r c k k' : Nat} {A H U H' U' : Mat} {p p' : Nat → Nat} (h : CEq r c A H U) (hF : HF r c H k p) (h' : CEq r c A H' U') (hF' : HF r c H' k' p') : k = k' ∧ ∀ i j, i < r → j < c → H i j = H' i j := by
 have hL : ∀ v, InL r c H v ↔ InL r c H' v := fun v => (h.inL v).trans (h'.inL v).symm
 exact ⟨(hF.unique hF' hL).1, hF.unique' hF' hL⟩
theorem k7 {p : Nat → Prop} (h0 : p 0) (h1 : p 1) : ∀ i, i < 2 → p i := fun i hi => by
 match i, hi with
 | 0, _ => exact h0
 | 1, _ => exact h1
theorem nZ {H U : Mat} {k : Nat} {p : Nat → Nat} (h : CEq 2 2 (litF [[2, 1], [0, 3]]) H U) (hF : HF 2 2 H k p) : ∀ i j, i < 2 → j < 2 → H i j = litF [[1, 0], [3, 6]] i j := by
 have hc : CEq 2 2 (litF [[2, 1], [0, 3]]) (litF [[1, 0], [3, 6]]) (litF [[0, -1], [1, 2]]) := by
  refine ⟨Or.inl (by decide), fun i j hi hj => ?_⟩
  rcases (show i = 0 ∨ i = 1 by omega) with rfl | rfl <;> rcases (show j = 0 ∨ j = 1 by omega) with rfl | rfl <;> decide
 have hf : HF 2 2 (litF [[1, 0], [3, 6]]) 2 id := by
  refine ⟨Nat.le_refl _, fun c hc => hc, fun c c' h _ => h, fun c hc r hr => ?_, fun c hc => ?_, fun c hc j hj => ?_, fun c hc hc' => by omega⟩
  ·obtain rfl : c = 1 := by simp only [id] at hr; omega
   obtain rfl : r = 0 := by simp only [id] at hr; omega
   decide
  ·exact k7 (p := fun c => 0 < litF [[1, 0], [3, 6]] (id c) c) (by decide) (by decide) c hc
  ·obtain rfl : c = 1 := by omega
   obtain rfl : j = 0 := by omega
   decide
 exact (jd h hF hc hf).2
theorem pn {H U H' U' : Mat} {k k' : Nat} {p p' : Nat → Nat} (h : CEq 1 2 (litF [[2, 3]]) H U) (hF : HF 1 2 H k p) (h' : k < 2 → CEq 2 (2 - k) (fun i j => U i (k + j)) H' U' ∧ HF 2 (2 - k) H' k' p') :
  k = 1 ∧ k' = 1 ∧ ∀ i j, i < 2 → j < 1 → H' i j = litF [[3], [-2]] i j := by
 have hc : CEq 1 2 (litF [[2, 3]]) (litF [[1, 0]]) (litF [[-1, 3], [1, -2]]) := by
  refine ⟨Or.inr (by decide), fun i j hi hj => ?_⟩
  obtain rfl : i = 0 := by omega
  exact k7 (p := fun j => litF _ 0 j = mm 2 _ _ 0 j) (by decide) (by decide) j hj
 have hf : HF 1 2 (litF [[1, 0]]) 1 id := by
  refine ⟨by omega, fun c hc => hc, fun c c' h _ => h, fun c hc r hr => by simp only [id] at hr; omega, fun c hc => ?_, fun c hc j hj => by omega, fun c hc hc' r hr => ?_⟩
  ·obtain rfl : c = 0 := by omega
   decide
  ·obtain rfl : c = 1 := by omega
   obtain rfl : r = 0 := by omega
   decide
 obtain ⟨rfl, _⟩ := jd h hF hc hf
 obtain ⟨h1, h2⟩ := h' (by omega)
 have hk : HF 2 1 (litF [[3], [-2]]) 1 id := by
  refine ⟨by omega, fun c hc => by show c < 2; omega, fun c c' h _ => h, fun c hc r hr => by simp only [id] at hr; omega, fun c hc => ?_, fun c hc j hj => by omega, fun c hc hc' => by omega⟩
  obtain rfl : c = 0 := by omega
  decide
 have hL : ∀ v, InL 2 1 H' v ↔ InL 2 1 (litF [[3], [-2]]) v := fun v => by
  rw [h1.inL v, ← HF.kernel h hF v]
  constructor
  ·intro hv
   have := hv 0 (by omega)
   have e : 2 * v 0 + 3 * v 1 = 0 := by
    have e2 : mv 2 (litF [[2, 3]]) v 0 = 0 + 2 * v 0 + 3 * v 1 := rfl
    omega
   refine ⟨fun _ => v 0 / 3, fun r hr => ?_⟩
   have e3 : mv 1 (litF [[3], [-2]]) (fun _ => v 0 / 3) r = 0 + litF [[3], [-2]] r 0 * (v 0 / 3) := rfl
   rw [e3]
   match r, hr with
   | 0, _ => show v 0 = 0 + 3 * (v 0 / 3); omega
   | 1, _ => show v 1 = 0 + -2 * (v 0 / 3); omega
  ·rintro ⟨x, hx⟩ r hr
   obtain rfl : r = 0 := by omega
   have e0 : v 0 = 0 + 3 * x 0 := hx 0 (by omega)
   have e1 : v 1 = 0 + -2 * x 0 := hx 1 (by omega)
   show 0 + 2 * v 0 + 3 * v 1 = 0
   omega
 exact ⟨rfl, (h2.unique hk hL).1, h2.unique' hk hL⟩
theorem po {H U : Mat} {k : Nat} {p : Nat → Nat} (h : CEq 1 2 (fun i j => litF [[2], [4]] j i) H U) (_hF : HF 1 2 H k p) : ¬ ∀ i, i < 1 → H i i = 1 := by
 intro h1
 have h0 := h1 0 (by omega)
 have e := h.2 0 0 (by omega) (by omega)
 have e2 : mm 2 (fun i j => litF [[2], [4]] j i) U 0 0 = 0 + 2 * U 0 0 + 4 * U 1 0 := rfl
 omega
end Go.LA
namespace Go.LM
def natOf : List Nat → Nat
 | [] => 0
 | d :: l => d + 4294967296 * natOf l
def Lim (l : List Nat) : Prop := ∀ d ∈ l, d < 4294967296
theorem Lim.getD {l : List Nat} (h : Lim l) (k : Nat) : l.getD k 0 < 4294967296 := by
 by_cases hk : k < l.length
 ·rw [List.getD_eq_getElem?_getD, List.getElem?_eq_getElem hk]; exact h _ (List.getElem_mem hk)
 ·rw [List.getD_eq_getElem?_getD, List.getElem?_eq_none (by omega)]; decide
theorem Lim.take {l : List Nat} (h : Lim l) (k : Nat) : Lim (l.take k) := fun d hd => h d (List.mem_of_mem_take hd)
theorem cM : ∀ (l m : List Nat), natOf (l ++ m) = natOf l + 4294967296 ^ l.length * natOf m
 | [], m => by simp [natOf]
 | d :: l, m => by
  simp only [List.cons_append, natOf, cM l m, List.length_cons, Nat.pow_succ]
  rw [Nat.mul_add, ← Nat.mul_assoc, Nat.mul_comm 4294967296 (4294967296 ^ l.length), Nat.add_assoc]
theorem bM : ∀ {l : List Nat}, Lim l → natOf l < 4294967296 ^ l.length
 | [], _ => by simp [natOf]
 | d :: l, h => by
  have h1 := h d (by simp)
  have h2 := bM (l := l) (fun x hx => h x (by simp [hx]))
  simp only [natOf, List.length_cons, Nat.pow_succ]
  omega
theorem dk (l : List Nat) (d : Nat) : natOf (l ++ [d]) = natOf l + 4294967296 ^ l.length * d := by rw [cM]; simp [natOf]
theorem cQ : ∀ n : Nat, natOf (List.replicate n 0) = 0
 | 0 => rfl
 | n + 1 => by simp [List.replicate_succ, natOf, cQ n]
def trimL : List Nat → List Nat
 | [] => []
 | d :: l => if trimL l = [] ∧ d = 0 then [] else d :: trimL l
theorem bh : ∀ l : List Nat, natOf (trimL l) = natOf l
 | [] => rfl
 | d :: l => by
  have ih := bh l
  rw [trimL]
  split
  ·rename_i h; rw [h.1] at ih; simp only [natOf] at ih ⊢; omega
  ·simp only [natOf, ih]
theorem cF : ∀ l : List Nat, (trimL l).length ≤ l.length
 | [] => by simp [trimL]
 | d :: l => by
  have := cF l
  rw [trimL]
  split <;> simp <;> omega
theorem ip : ∀ l : List Nat, trimL l = l.take (trimL l).length
 | [] => rfl
 | d :: l => by
  have ih := ip l
  rw [trimL]
  split
  ·rfl
  ·simp only [List.length_cons, List.take_succ_cons, ← ih]
theorem dM : ∀ l : List Nat, trimL (l ++ [0]) = trimL l
 | [] => rfl
 | d :: l => by simp only [List.cons_append, trimL, dM l]
theorem iq {d : Nat} (h : d ≠ 0) : ∀ l : List Nat, trimL (l ++ [d]) = l ++ [d]
 | [] => by simp [trimL, h]
 | e :: l => by
  simp only [List.cons_append, trimL, iq h l]
  rw [if_neg (by simp)]
def Canon (l : List Nat) : Prop := trimL l = l
theorem bB : ∀ l : List Nat, Canon (trimL l)
 | [] => rfl
 | d :: l => by
  have ih := bB l
  unfold Canon at *
  rw [trimL]
  split
  ·rfl
  ·rename_i h
   rw [trimL, ih, if_neg h]
theorem Lim.trim {l : List Nat} (h : Lim l) : Lim (trimL l) := by rw [ip]; exact h.take _
theorem cC {l : List Nat} : trimL l = [] ↔ natOf l = 0 := by
 constructor
 ·intro h; rw [← bh, h]; rfl
 ·induction l with
  | nil => intro _; rfl
  | cons d l ih =>
   intro h
   simp only [natOf] at h
   rw [trimL, if_pos ⟨ih (by omega), by omega⟩]
theorem iI {l : List Nat} (h : Canon l) (hne : l ≠ []) : 4294967296 ^ (l.length - 1) ≤ natOf l := by
 obtain ⟨m, d, rfl⟩ : ∃ m d, l = m ++ [d] := ⟨l.dropLast, l.getLast hne, (List.dropLast_concat_getLast hne).symm⟩
 have hd : d ≠ 0 := by
  rintro rfl
  unfold Canon at h
  rw [dM] at h
  have := cF m
  rw [h] at this
  simp at this
  omega
 rw [dk]
 simp only [List.length_append, List.length_singleton, Nat.add_sub_cancel]
 have : 4294967296 ^ m.length * 1 ≤ 4294967296 ^ m.length * d := Nat.mul_le_mul_left _ (by omega)
 omega
theorem ml {l m : List Nat} (hl : Lim l) (hm : Lim m) (cl : Canon l) (cm : Canon m) (h : natOf l = natOf m) : l = m := by
 induction l generalizing m with
 | nil =>
  have : trimL m = [] := cC.2 h.symm
  rw [cm] at this; exact this.symm
 | cons d l ih =>
  cases m with
  | nil =>
   have : trimL (d :: l) = [] := cC.2 h
   rw [cl] at this; cases this
  | cons e m =>
   simp only [natOf] at h
   have h1 := hl d (by simp)
   have h2 := hm e (by simp)
   have hde : d = e := by omega
   subst hde
   have hc : ∀ {l : List Nat} {d : Nat}, Canon (d :: l) → Canon l := fun {l d} hc => by
    unfold Canon at *
    rw [trimL] at hc
    split at hc
    ·cases hc
    ·exact (List.cons.inj hc).2
   rw [ih (fun x hx => hl x (by simp [hx])) (fun x hx => hm x (by simp [hx])) (hc cl) (hc cm) (by omega)]
def digs (n : Nat) : List Nat := trimL [n % 4294967296, n / 4294967296]
theorem dB {n : Nat} : natOf (digs n) = n := by rw [digs, bh]; simp [natOf]; omega
theorem qH (n : Nat) : (digs n).length ≤ 2 := cF _
theorem dl (n : Nat) : Canon (digs n) := bB _
end Go.LM
namespace Go.Proofs.YtiejljicpinheaaGreat
open Go.W Go.LM
abbrev limbsL (ls : List Nat) : List Value := ls.map fun (n : Nat) => Value.int .u32 n
structure Limbs (w : World) (a : Option Addr) (c : Nat) (ls : List Nat) : Prop where
 sl : Sl w a (limbsL ls)
 cap : ls.length ≤ c
 lim : Lim ls
 len : ls.length ≤ 17592186044416
theorem Limbs.ext {w w' : World} {a : Option Addr} {c : Nat} {ls : List Nat} (h : Limbs w a c ls) (e : Ex w w') : Limbs w' a c ls := ⟨h.sl.ext e, h.cap, h.lim, h.len⟩
theorem Limbs.chg {w w' : World} {a : Option Addr} {c g : Nat} {ls : List Nat} (h : Limbs w a c ls) (e : Chg g w w') (hne : ∀ ad, a = some ad → ad.block ≠ g) : Limbs w' a c ls := ⟨h.sl.chg e hne, h.cap, h.lim, h.len⟩
theorem Limbs.drew {w : World} {a : Option Addr} {c : Nat} {ls : List Nat} (h : Limbs w a c ls) : Limbs w.drew a c ls := ⟨h.sl.drew, h.cap, h.lim, h.len⟩
theorem Limbs.take {w : World} {a : Option Addr} {c : Nat} {ls : List Nat} (h : Limbs w a c ls) (k : Nat) : Limbs w a c (ls.take k) :=
 ⟨by have := h.sl.take k; rwa [← List.map_take] at this, by have := h.cap; simp; omega, h.lim.take k, by have := h.len; simp; omega⟩
theorem Limbs.trim {w : World} {a : Option Addr} {c : Nat} {ls : List Nat} (h : Limbs w a c ls) : Limbs w a c (trimL ls) := by rw [ip]; exact h.take _
theorem Limbs.nil (w : World) (a : Option Addr) (c : Nat) : Limbs w a c [] := ⟨Sl.nil _ _, by simp, by intro d hd; simp at hd, by simp⟩
theorem dS {ls : List Nat} {k : Nat} (hk : k ≤ ls.length) (h0 : 0 < k) : ls.take k = ls.take (k - 1) ++ [ls.getD (k - 1) 0] := by
 obtain ⟨j, rfl⟩ : ∃ j, k = j + 1 := ⟨k - 1, by omega⟩
 rw [List.take_succ_eq_append_getElem (by omega)]
 simp [List.getD_eq_getElem?_getD, show j < ls.length by omega]
theorem bV {ls : List Nat} {a : Option Addr} {c : Nat} {w : World} (h : Limbs w a c ls) :
  CallsR Tryz.prog 110 #[.slice a ls.length c] w fun v w' => v = .slice a (trimL ls).length c ∧ Ex w w' := by
 have hlen := h.len
 have hcap := h.cap
 refine aF (args := [_]) Tryz.func110 rfl rfl ?_
 repeat' (first|refine ai rfl ?_|refine aa ?_|refine aj ?_|refine ah rfl ?_|refine ae ?_|refine aA ?_)
 refine aY (ι := Nat) [0, 3, 4, 5, 6, 7, 8, 9, 10, 11, 12, 13, 14, 15, 16, 17, 18, 19] (fun k => [(0, .slice a k c)]) (fun k w' => k ≤ ls.length ∧ w' = w ∧ trimL (ls.take k) = trimL ls) (fun k => k) ls.length ⟨rfl, trivial⟩ ⟨Nat.le_refl _, rfl, by simp⟩ ?_
 rintro k ξ w2 ⟨hk, rfl, hT⟩
 repeat' (first|(refine aD (j := k - 1) rfl (by show Value.int .i64 ((k : Int) - 1) = _; congr 1; omega) (h.sl.plain (by simp; omega)) (by omega) ?_)|refine bG rfl h.sl (by omega) ?_|refine ai rfl ?_|refine aa ?_|refine aj ?_|refine ah rfl ?_|refine ae ?_|refine aZ rfl ?_|refine bz rfl rfl ?_|refine bK rfl rfl ?_|refine eJ rfl rfl (fun hc => ?_) (fun hc => ?_)|refine cR rfl rfl (by omega) (by omega) ?_|refine au rfl ?_|refine aO rfl (fun hc => ?_) (fun hc => ?_)|refine aA ?_|refine aP ?_|refine aJ ?_|refine aQ ?_|refine aI ?_|refine aE ?_)
 ·refine fO rfl rfl (by omega) (by omega) ?_
  rw [show ((k : Int) - 1).toNat = k - 1 by omega]
  repeat' (first|refine ai rfl ?_|refine aa ?_|refine ae ?_|refine aL ?_)
  refine ⟨⟨k - 1, ⟨by omega, rfl, ?_⟩, by omega, rfl, trivial⟩, (by (repeat (first|exact aH _ _ _|refine ay rfl ?_|refine av rfl ?_|refine ak rfl ?_|refine ao rfl ?_)))⟩
  rw [← hT, dS hk (by omega), show ls.getD (k - 1) 0 = 0 by omega, dM]
 ·refine bx rfl (rt rfl) ⟨?_, Ex.refl _⟩
  rw [← hT, dS hk (by omega), iq (by omega), ← dS hk (by omega)]
  simp only [List.length_take, Nat.min_eq_left hk]; rfl
 ·obtain rfl : k = 0 := by omega
  refine bx rfl (rt rfl) ⟨?_, Ex.refl _⟩
  rw [← hT]; rfl
def RetN (w : World) (ls : List Nat) (v : Value) (w' : World) : Prop := ∃ a c, v = .slice a ls.length c ∧ Limbs w' a c ls ∧ (∀ ad, a = some ad → w.heap.size ≤ ad.block) ∧ Ex w w'
theorem du {n : Nat} (hn : n < 18446744073709551616) (w : World) : CallsR Tryz.prog 108 #[.int .u64 (n : Int)] w (RetN w (digs n)) := by
 refine aF (args := [_]) Tryz.func108 rfl rfl ?_
 repeat' (first|refine ai rfl ?_|refine aa ?_|refine aj ?_|refine ah rfl ?_|refine ae ?_)
 refine il rfl ?_
 rw [show IntKind.u32.wrap ((n : Nat) : Int) = ((n % 4294967296 : Nat) : Int) from (cK rfl).trans (by simp [IntKind.bits])]
 repeat' (first|refine fY (j := 32) rfl rfl (.inl rfl) ?_|refine ai rfl ?_)
 rw [Nat.shiftRight_eq_div_pow]
 refine dE rfl (qm (by omega) (by omega)) ?_
 refine qp rfl rfl rfl rfl (fun g w1 hn1 => ⟨fun _ _ => trivial, ?_⟩)
 have hL : Limbs w1 (some ⟨g, 0, none⟩) 2 [n % 4294967296, n / 2 ^ 32] := ⟨hn1.blk.sl, by simp, by intro d hd; simp at hd; omega, by simp⟩
 refine aw (bV hL) rfl ?_
 rintro v w2 ⟨rfl, hE2⟩
 refine ⟨fun _ _ => trivial, ?_⟩
 repeat' (first|refine ai rfl ?_|refine aa ?_|refine ae ?_|refine aI ?_)
 exact bx rfl (rt rfl) ⟨_, _, rfl, hL.trim.ext hE2, by intro ad e; cases e; exact hn1.lo, hn1.ex.trans hE2⟩
theorem fQ {ls : List Nat} {a : Option Addr} {c : Nat} {w : World} (h : Limbs w a c ls) (h2 : ls.length ≤ 2) :
  CallsR Tryz.prog 135 #[.slice a ls.length c] w fun v w' => v = .int .u64 ((natOf ls : Nat) : Int) ∧ Ex w w' := by
 refine aF (args := [_]) Tryz.func135 rfl rfl ?_
 repeat' (first|refine ai rfl ?_|refine aa ?_|refine aj ?_|refine ah rfl ?_|refine ae ?_|refine aZ rfl ?_|refine aA ?_)
 refine aY (ι := Nat) [3, 4, 5, 8, 9, 10, 11, 12, 13, 14, 15, 16, 17, 18, 19, 20] (fun k => [(8, .int .i64 (k : Int)), (3, .int .u64 ((natOf (ls.take k) : Nat) : Int))]) (fun k w' => k ≤ ls.length ∧ w' = w) (fun k => ls.length - k) 0 ⟨rfl, rfl, trivial⟩ ⟨by simp, rfl⟩ ?_
 rintro k ξ w2 ⟨hk, rfl⟩
 have hlt := bM (h.lim.take k)
 have hd := h.lim.getD k
 repeat' (first|(refine aD rfl rfl (h.sl.plain (by simp; omega)) (by omega) ?_)|refine bG rfl h.sl (by omega) ?_|refine dE rfl (dz (by omega) (by omega)) ?_|refine j3 rfl rfl (by omega) (by omega) ?_|refine ai rfl ?_|refine aa ?_|refine aj ?_|refine ah rfl ?_|refine ae ?_|refine aO rfl (fun hc => ?_) (fun hc => ?_)|refine aA ?_|refine aP ?_|refine aJ ?_|refine aQ ?_|refine aI ?_|refine aE ?_)
 ·refine jb (j := 32 * k) rfl rfl rfl (by simp only [IntKind.bits]; omega) ?_
  have hkk : k = 0 ∨ k = 1 := by omega
  have hsh : (ls.getD k 0 <<< (32 * k)) % 2 ^ IntKind.u64.bits = ls.getD k 0 <<< (32 * k) := Nat.mod_eq_of_lt (by
   rw [Nat.shiftLeft_eq]; rcases hkk with rfl | rfl <;> simp only [IntKind.bits] <;> omega)
  have hsh2 : ls.getD k 0 <<< (32 * k) < 18446744073709551616 := by rw [Nat.shiftLeft_eq]; rcases hkk with rfl | rfl <;> omega
  have hlt' : natOf (ls.take k) < 2 ^ (32 * k) := by
   simp only [List.length_take, Nat.min_eq_left hk] at hlt
   rcases hkk with rfl | rfl <;> simpa using hlt
  rw [hsh]
  refine j4 rfl rfl rfl (by simp only [IntKind.bits]; rcases hkk with rfl | rfl <;> omega) hsh2 ?_
  repeat' (first|refine ai rfl ?_|refine aa ?_|refine ah rfl ?_|refine ae ?_|refine bc rfl rfl (by omega) (by omega) ?_|refine aL ?_)
  refine ⟨⟨k + 1, ⟨by omega, rfl⟩, by omega, rfl, ?_, trivial⟩, (by (repeat (first|exact aH _ _ _|refine ay rfl ?_|refine av rfl ?_|refine ak rfl ?_|refine ao rfl ?_)))⟩
  show Value.int .u64 _ = _
  congr 2
  have e := dS (ls := ls) (k := k + 1) (by omega) (by omega)
  rw [Nat.add_sub_cancel] at e
  rw [e, dk, Nat.or_comm, ← Nat.shiftLeft_add_eq_or_of_lt hlt', Nat.shiftLeft_eq]
  simp only [List.length_take, Nat.min_eq_left hk]
  rcases hkk with rfl | rfl <;> omega
 ·obtain rfl : k = ls.length := by omega
  refine bx rfl (rt rfl) ⟨?_, Ex.refl _⟩
  show Value.int .u64 _ = _
  rw [List.take_length]
end Go.Proofs.YtiejljicpinheaaGreat
namespace Go.Proofs.YtiejljicpinheaaGreat
open Go.W Go.LM
def sgn (neg : Bool) (n : Nat) : Int := if neg then -(n : Int) else n
abbrev intL (neg : Bool) (a : Option Addr) (n c : Nat) : List Value := [.bool neg, .slice a n c]
def IntC (lo : Nat) (w : World) (v : Value) (z : Int) : Prop :=
 ∃ neg a c ls, v = .agg (intL neg a ls.length c).toArray ∧ Limbs w a c ls ∧ z = sgn neg (natOf ls) ∧ Canon ls ∧ (neg = true → ls ≠ []) ∧ ∀ ad, a = some ad → lo ≤ ad.block
theorem IntC.ext {lo : Nat} {w w' : World} {v : Value} {z : Int} (h : IntC lo w v z) (e : Ex w w') : IntC lo w' v z := by obtain ⟨neg, a, c, ls, h1, h2, h3⟩ := h; exact ⟨neg, a, c, ls, h1, h2.ext e, h3⟩
theorem IntC.mono {lo lo' : Nat} {w : World} {v : Value} {z : Int} (h : IntC lo w v z) (hl : lo' ≤ lo) : IntC lo' w v z := by
 obtain ⟨neg, a, c, ls, h1, h2, h3, h4, h5, h6⟩ := h; exact ⟨neg, a, c, ls, h1, h2, h3, h4, h5, fun ad e => by have := h6 ad e; omega⟩
theorem IntC.chg {lo g : Nat} {w w' : World} {v : Value} {z : Int} (h : IntC lo w v z) (e : Chg g w w') (hg : g < lo) : IntC lo w' v z := by
 obtain ⟨neg, a, c, ls, h1, h2, h3, h4, h5, h6⟩ := h; exact ⟨neg, a, c, ls, h1, h2.chg e (fun ad ea => by have := h6 ad ea; omega), h3, h4, h5, h6⟩
def RetZ (w : World) (z : Int) (v : Value) (w' : World) : Prop := IntC w.heap.size w' v z ∧ Ex w w'
theorem cD {ls : List Nat} {a : Option Addr} {c lo : Nat} {w : World} (h : Limbs w a c ls) (hc : Canon ls) (hlo : ∀ ad, a = some ad → lo ≤ ad.block) (neg : Bool) :
  CallsR Tryz.prog 107 #[.bool neg, .slice a ls.length c] w fun v w' => IntC lo w' v (sgn neg (natOf ls)) ∧ Ex w w' := by
 refine aF (args := [_, _]) Tryz.func107 rfl rfl ?_
 have hcan := hc
 clear hc
 repeat' (first|refine aG (fun g w1 hn => ⟨fun _ _ => trivial, ?_⟩)|refine ai rfl ?_|refine aa ?_|refine aj ?_|refine ah rfl ?_|refine ae ?_|refine aZ rfl ?_|refine aO rfl (fun hc => ?_) (fun hc => ?_)|refine aE ?_)
 ·have hb : Blk w1 g 43 (intL false none 0 0) := hn.blk
  refine cf (cs := intL false none 0 0) rfl ?_
  refine ax (n := 2) rfl rfl rfl rfl hb rfl (fun w2 hc2 hb2 => ⟨fun _ _ => trivial, ?_⟩)
  repeat' (first|refine aa ?_|refine ae ?_|refine aI ?_|refine aU ?_)
  have hl : ls = [] := List.eq_nil_of_length_eq_zero (by omega)
  subst hl
  refine bx rfl (rc rfl rfl hb2) ⟨⟨false, none, 0, [], rfl, Limbs.nil _ _ _, ?_, rfl, by simp, by simp⟩, hn.ex.chg hc2 hn.lo⟩
  cases neg <;> rfl
 ·have hb : Blk w1 g 43 (intL false none 0 0) := hn.blk
  refine cf (cs := intL neg a ls.length c) rfl ?_
  refine ax (n := 2) rfl rfl rfl rfl hb rfl (fun w2 hc2 hb2 => ⟨fun _ _ => trivial, ?_⟩)
  repeat' (first|refine aa ?_|refine ae ?_|refine aI ?_)
  have hE := hn.ex.chg hc2 hn.lo
  exact bx rfl (rc rfl rfl hb2) ⟨⟨neg, a, c, ls, rfl, h.ext hE, rfl, hcan, fun _ e => hc (by rw [e]; rfl), hlo⟩, hE⟩
theorem cE {z : Int} (h1 : -9223372036854775808 ≤ z) (h2 : z ≤ 9223372036854775807) (w : World) : CallsR Tryz.prog 79 #[.int .i64 z] w (RetZ w z) := by
 refine aF (args := [_]) Tryz.func79 rfl rfl ?_
 repeat' (first|refine aG (fun g w1 hn => ⟨fun _ _ => trivial, ?_⟩)|refine ai rfl ?_|refine aa ?_|refine aj ?_|refine ah rfl ?_|refine ae ?_|refine aO rfl (fun hc => ?_) (fun hc => ?_)|refine aE ?_)
 ·have hb : Blk w1 g 43 (intL false none 0 0) := hn.blk
  refine il rfl ?_
  refine lX rfl ?_
  obtain ⟨n, rfl⟩ : ∃ n : Nat, z = -(n : Int) := ⟨(-z).toNat, by omega⟩
  rw [show IntKind.u64.wrap (-IntKind.u64.wrap (-(n : Int))) = ((n : Nat) : Int) by
   rw [cK rfl, cK rfl]; simp only [IntKind.bits]; omega]
  refine aw (du (by omega) _) rfl ?_
  rintro v w2 ⟨a, c, rfl, hL, hf, hE2⟩
  refine ⟨fun _ _ => trivial, ?_⟩
  refine aw (cD hL (dl _) hf true) rfl ?_
  rintro v w3 ⟨hI, hE3⟩
  obtain ⟨neg, a', c', ls, rfl, hI'⟩ := id hI
  refine ⟨fun _ _ => trivial, ?_⟩
  refine ax (n := 2) rfl rfl rfl rfl ((hb.ext hE2).ext hE3) rfl (fun w4 hc4 hb4 => ⟨fun _ _ => trivial, ?_⟩)
  repeat' (first|refine aa ?_|refine ae ?_|refine aI ?_|refine aU ?_)
  have hl := hn.lo
  have hh := hn.hi
  refine bx rfl (rc rfl rfl hb4) ⟨?_, ((hn.ex.trans hE2).trans hE3).chg hc4 hl⟩
  have := (hI.chg hc4 hh).mono hn.ex.size
  rwa [dB] at this
 ·have hb : Blk w1 g 43 (intL false none 0 0) := hn.blk
  obtain ⟨n, rfl⟩ : ∃ n : Nat, z = (n : Int) := ⟨z.toNat, by omega⟩
  refine dE rfl (dz (by omega) (by omega)) ?_
  refine aw (du (by omega) _) rfl ?_
  rintro v w2 ⟨a, c, rfl, hL, hf, hE2⟩
  refine ⟨fun _ _ => trivial, ?_⟩
  refine aw (cD hL (dl _) hf false) rfl ?_
  rintro v w3 ⟨hI, hE3⟩
  obtain ⟨neg, a', c', ls, rfl, hI'⟩ := id hI
  refine ⟨fun _ _ => trivial, ?_⟩
  refine ax (n := 2) rfl rfl rfl rfl ((hb.ext hE2).ext hE3) rfl (fun w4 hc4 hb4 => ⟨fun _ _ => trivial, ?_⟩)
  repeat' (first|refine aa ?_|refine ae ?_|refine aI ?_)
  have hl := hn.lo
  have hh := hn.hi
  refine bx rfl (rc rfl rfl hb4) ⟨?_, ((hn.ex.trans hE2).trans hE3).chg hc4 hl⟩
  have := (hI.chg hc4 hh).mono hn.ex.size
  rwa [dB] at this
end Go.Proofs.YtiejljicpinheaaGreat
namespace Go.Proofs.YtiejljicpinheaaGreat
open Go.W Go.LM
def cmpZ (m n : Nat) : Int := if m < n then -1 else if n < m then 1 else 0
theorem cP {ls : List Nat} {k : Nat} (h : k < ls.length) : natOf (ls.drop k) = ls.getD k 0 + 4294967296 * natOf (ls.drop (k + 1)) := by
 rw [List.drop_eq_getElem_cons h, natOf, List.getD_eq_getElem?_getD, List.getElem?_eq_getElem h]; rfl
theorem dh (ls : List Nat) {k : Nat} (h : k ≤ ls.length) : natOf ls = natOf (ls.take k) + 4294967296 ^ k * natOf (ls.drop k) := by
 conv => lhs; rw [← List.take_append_drop k ls, cM]
 simp [Nat.min_eq_left h]
theorem dZ {a b : Nat} (h : a ≤ b) : 4294967296 ^ a ≤ 4294967296 ^ b := Nat.pow_le_pow_right (by decide) h
theorem eQ {a b : List Nat} (ha : Lim a) (hb : Canon b) (h : a.length < b.length) : natOf a < natOf b := by
 have h1 := bM ha
 have h2 := iI hb (by intro e; rw [e] at h; simp at h)
 have := dZ (show a.length ≤ b.length - 1 by omega)
 omega
theorem fo {a b : List Nat} {i : Nat} (ha : Lim a) (hl : a.length = b.length) (hi : i < a.length) (he : natOf (a.drop (i + 1)) = natOf (b.drop (i + 1))) (h : a.getD i 0 < b.getD i 0) : natOf a < natOf b := by
 rw [dh a (k := i) (by omega), dh b (k := i) (by omega), cP (ls := a) hi, cP (ls := b) (k := i) (by omega), he]
 have h1 := bM (ha.take i)
 simp only [List.length_take, Nat.min_eq_left (Nat.le_of_lt hi)] at h1
 have h2 : 4294967296 ^ i * (a.getD i 0 + 1) ≤ 4294967296 ^ i * b.getD i 0 := Nat.mul_le_mul_left _ h
 rw [Nat.mul_add, Nat.mul_add]
 rw [Nat.mul_add] at h2
 omega
theorem dN {la lb : List Nat} {a b : Option Addr} {c d : Nat} {w : World} (ha : Limbs w a c la) (hb : Limbs w b d lb) (ca : Canon la) (cb : Canon lb) :
  CallsR Tryz.prog 130 #[.slice a la.length c, .slice b lb.length d] w fun v w' => v = .int .i64 (cmpZ (natOf la) (natOf lb)) ∧ Ex w w' := by
 have hla := ha.len
 refine aF (args := [_, _]) Tryz.func130 rfl rfl ?_
 repeat' (first|refine ai rfl ?_|refine aa ?_|refine aj ?_|refine ah rfl ?_|refine ae ?_|refine aZ rfl ?_|refine cR rfl rfl (by omega) (by omega) ?_|refine aO rfl (fun hc => ?_) (fun hc => ?_)|refine aA ?_|refine aL ?_|refine aI ?_|refine aU ?_|refine bQ ?_|refine aE ?_)
 ·refine bx rfl (rt rfl) ⟨?_, Ex.refl _⟩
  rw [cmpZ, if_pos (eQ ha.lim cb (by omega))]; rfl
 ·refine bx rfl (rt rfl) ⟨?_, Ex.refl _⟩
  have := eQ hb.lim ca (by omega)
  rw [cmpZ, if_neg (by omega), if_pos this]; rfl
 ·have hl : la.length = lb.length := by omega
  refine aY (ι := Nat) [4, 5, 21, 22, 23, 24, 25, 26, 27, 28, 29, 30, 31, 32, 33, 34, 35, 36, 37, 38, 39, 40, 41, 42, 43, 44] (fun k => [(5, .int .i64 ((k : Int) - 1))]) (fun k w' => k ≤ la.length ∧ Ex w w' ∧ natOf (la.drop k) = natOf (lb.drop k)) (fun k => k) la.length ⟨rfl, trivial⟩
   ⟨Nat.le_refl _, Ex.refl _, by rw [List.drop_length, hl, List.drop_length]⟩ ?_
  rintro k ξ w2 ⟨hk, hE, hT⟩
  repeat' (first|refine ai rfl ?_|refine aa ?_|refine aj ?_|refine ah rfl ?_|refine ae ?_|refine aO rfl (fun hc => ?_) (fun hc => ?_)|refine aA ?_|refine aP ?_|refine aJ ?_|refine aQ ?_|refine aI ?_|refine aE ?_)
  ·obtain ⟨j, rfl⟩ : ∃ j, k = j + 1 := ⟨k - 1, by omega⟩
   rw [show ((j + 1 : Nat) : Int) - 1 = (j : Int) by omega]
   refine bi (late := []) (plan := [(0, none), (1, none), (2, none), (3, none), (4, none), (5, none), (6, none), (7, none), (8, none), (9, none)]) (fun w' => Ex w w') bA (by kernel_rfl) hE.drew ?_
   repeat' (first|(refine aD (j := j) rfl rfl (ha.sl.plain (by simp; omega)) (by omega) ?_)|(refine aD (j := j) rfl rfl (hb.sl.plain (by simp; omega)) (by omega) ?_)|refine bG rfl (fun _ h => ha.sl.ext h) (by omega) ?_|refine bG rfl (fun _ h => hb.sl.ext h) (by omega) ?_|refine ai rfl ?_|refine aa ?_|refine aj ?_|refine ah rfl ?_|refine ae ?_|refine aO rfl (fun hc => ?_) (fun hc => ?_)|refine aI ?_|refine aU ?_|refine bQ ?_)
   ·refine bx rfl (rt rfl) ⟨?_, hE.drew⟩
    rw [cmpZ, if_pos (fo (i := j) ha.lim hl (by omega) hT (by omega))]; rfl
   ·refine bi (late := []) (plan := [(0, none), (1, none), (2, none), (3, none), (4, none), (5, none), (6, none), (7, none), (8, none), (9, none)]) (fun w' => Ex w w') bA (by kernel_rfl) hE.drew.drew ?_
    repeat' (first|(refine aD (j := j) rfl rfl (ha.sl.plain (by simp; omega)) (by omega) ?_)|(refine aD (j := j) rfl rfl (hb.sl.plain (by simp; omega)) (by omega) ?_)|refine bG rfl (fun _ h => ha.sl.ext h) (by omega) ?_|refine bG rfl (fun _ h => hb.sl.ext h) (by omega) ?_|refine ai rfl ?_|refine aa ?_|refine aj ?_|refine ah rfl ?_|refine ae ?_|refine cR rfl rfl (by omega) (by omega) ?_|refine aO rfl (fun hc => ?_) (fun hc => ?_)|refine aL ?_|refine aI ?_|refine aU ?_|refine bQ ?_|refine aE ?_)
    ·refine bx rfl (rt rfl) ⟨?_, hE.drew.drew⟩
     have := fo (i := j) hb.lim hl.symm (by omega) hT.symm (by omega)
     rw [cmpZ, if_neg (by omega), if_pos this]; rfl
    ·refine ⟨⟨j, ⟨by omega, hE.drew.drew, ?_⟩, by omega, rfl, trivial⟩, (by (repeat (first|exact aH _ _ _|refine ay rfl ?_|refine av rfl ?_|refine ak rfl ?_|refine ao rfl ?_)))⟩
     rw [cP (ls := la) (k := j) (by omega), cP (ls := lb) (k := j) (by omega), hT, show la.getD j 0 = lb.getD j 0 by omega]
  ·obtain rfl : k = 0 := by omega
   simp only [List.drop_zero] at hT
   refine bx rfl (rt rfl) ⟨?_, hE⟩
   rw [cmpZ, if_neg (by omega), if_neg (by omega)]; rfl
theorem iJ {la lb : List Nat} {a b : Option Addr} {c d : Nat} {w : World} (ha : Limbs w a c la) (hb : Limbs w b d lb) (ca : Canon la) (cb : Canon lb) (h2 : la.length ≤ 2) (hpos : 0 < natOf lb) (hge : natOf lb ≤ natOf la) :
  CallsR Tryz.prog 111 #[.slice a la.length c, .slice b lb.length d] w fun v w' => ∃ a1 c1 a2 c2, v = .tuple #[.slice a1 (digs (natOf la / natOf lb)).length c1, .slice a2 (digs (natOf la % natOf lb)).length c2] ∧
   Limbs w' a1 c1 (digs (natOf la / natOf lb)) ∧ Limbs w' a2 c2 (digs (natOf la % natOf lb)) ∧ (∀ ad, a1 = some ad → w.heap.size ≤ ad.block) ∧ (∀ ad, a2 = some ad → w.heap.size ≤ ad.block) ∧ Ex w w' := by
 have hlb : lb.length ≤ la.length := by
  rcases Nat.lt_or_ge la.length lb.length with h | h
  ·have := eQ ha.lim cb h; omega
  ·exact h
 have hlt := bM ha.lim
 have h64 : natOf la < 18446744073709551616 := by
  have := dZ (a := la.length) (b := 2) h2
  omega
 refine aF (args := [_, _]) Tryz.func111 rfl rfl ?_
 repeat' (first|refine ai rfl ?_|refine aa ?_|refine aj ?_|refine ah rfl ?_|refine ae ?_|refine aA ?_)
 refine aw (dN ha hb ca cb) rfl ?_
 rintro v w1 ⟨rfl, hE1⟩
 refine ⟨fun _ _ => trivial, ?_⟩
 have hcz : 0 ≤ cmpZ (natOf la) (natOf lb) := by unfold cmpZ; rw [if_neg (by omega)]; split <;> omega
 repeat' (first|refine ai rfl ?_|refine aa ?_|refine aj ?_|refine ah rfl ?_|refine ae ?_|refine aZ rfl ?_|refine cR rfl rfl (by omega) (by omega) ?_|refine aO rfl (fun hc => ?_) (fun hc => ?_)|refine aL ?_|refine aE ?_)
 all_goals try (exfalso; omega)
 ·refine aw (fQ (ha.ext hE1) h2) rfl ?_
  rintro v w2 ⟨rfl, hE2⟩
  refine ⟨fun _ _ => trivial, ?_⟩
  repeat' (first|refine ai rfl ?_)
  refine aw (fQ ((hb.ext hE1).ext hE2) (by omega)) rfl ?_
  rintro v w3 ⟨rfl, hE3⟩
  refine ⟨fun _ _ => trivial, ?_⟩
  repeat' (first|refine ai rfl ?_|refine aa ?_|refine aj ?_|refine ae ?_)
  have hE := ((hE1.trans hE2).trans hE3)
  refine bi (late := [3, 7]) (plan := [(0, none), (1, none), (2, none), (4, none), (5, none), (6, none), (3, some false), (7, some false), (8, none), (9, none)]) (fun w' => Ex w w') bA (by kernel_rfl) hE.drew ?_
  repeat' (first|refine nQ rfl rfl (by omega) (by omega) (by omega) ?_|refine iC rfl rfl (by omega) (by omega) ?_|refine ai rfl ?_)
  refine aw (du (n := natOf la / natOf lb) (Nat.lt_of_le_of_lt (Nat.div_le_self _ _) h64) _) rfl ?_
  rintro v w4 ⟨a1, c1, rfl, hL1, hf1, hE4⟩
  refine ⟨fun _ h => h.trans hE4, ?_⟩
  refine aw (du (n := natOf la % natOf lb) (Nat.lt_of_le_of_lt (Nat.mod_le _ _) h64) _) rfl ?_
  rintro v w5 ⟨a2, c2, rfl, hL2, hf2, hE5⟩
  refine ⟨fun _ h => h.trans hE5, ?_⟩
  repeat' (first|refine ai rfl ?_|refine aa ?_|refine ae ?_|refine aI ?_|refine aU ?_|refine bQ ?_)
  have s1 := hE.size
  have s2 : w3.drew.heap.size = w3.heap.size := rfl
  have s3 := hE4.size
  exact cA rfl (rt rfl) (rt rfl) ⟨a1, c1, a2, c2, rfl, hL1.ext hE5, hL2, fun ad e => by have := hf1 ad e; omega, fun ad e => by have := hf2 ad e; omega, (hE.drew.trans hE4).trans hE5⟩
theorem iK {la lb : List Nat} {a b : Option Addr} {c d : Nat} {w : World} (ha : Limbs w a c la) (hb : Limbs w b d lb) (h2 : la.length ≤ 1) (h3 : lb.length ≤ 1) :
  CallsR Tryz.prog 109 #[.slice a la.length c, .slice b lb.length d] w (RetN w (digs (natOf la * natOf lb))) := by
 have h64a : natOf la < 4294967296 := by
  have := bM ha.lim
  have := dZ (a := la.length) (b := 1) h2
  omega
 have h64b : natOf lb < 4294967296 := by
  have := bM hb.lim
  have := dZ (a := lb.length) (b := 1) h3
  omega
 have hm : natOf la * natOf lb < 18446744073709551616 := by
  have : natOf la * natOf lb ≤ 4294967295 * 4294967295 := Nat.mul_le_mul (by omega) (by omega)
  omega
 refine aF (args := [_, _]) Tryz.func109 rfl rfl ?_
 repeat' (first|refine ai rfl ?_|refine aa ?_|refine aj ?_|refine ah rfl ?_|refine ae ?_|refine aZ rfl ?_|refine bz rfl rfl ?_|refine bK rfl rfl ?_|refine eJ rfl rfl (fun hc => ?_) (fun hc => ?_)|refine bc rfl rfl (by omega) (by omega) ?_|refine au rfl ?_|refine aO rfl (fun hc => ?_) (fun hc => ?_)|refine aE ?_)
 all_goals try (exfalso; omega)
 refine aw (fQ ha (by omega)) rfl ?_
 rintro v w2 ⟨rfl, hE2⟩
 refine ⟨fun _ _ => trivial, ?_⟩
 repeat' (first|refine ai rfl ?_)
 refine aw (fQ (hb.ext hE2) (by omega)) rfl ?_
 rintro v w3 ⟨rfl, hE3⟩
 refine ⟨fun _ _ => trivial, ?_⟩
 refine oH rfl rfl ?_
 rw [← Int.natCast_mul, dz (by omega) (by omega)]
 refine aw (du hm _) rfl ?_
 rintro v w5 ⟨a5, c5, rfl, hL5, hf5, hE5⟩
 refine ⟨fun _ _ => trivial, ?_⟩
 repeat' (first|refine ai rfl ?_|refine aa ?_|refine ae ?_|refine aI ?_|refine aU ?_)
 have hE := hE2.trans hE3
 have s1 := hE.size
 exact bx rfl (rt rfl) ⟨a5, c5, rfl, hL5, fun ad e => by have := hf5 ad e; omega, hE.trans hE5⟩
end Go.Proofs.YtiejljicpinheaaGreat
namespace Go.Proofs.YtiejljicpinheaaGreat
open Go.W Go.LM
theorem cO {ls : List Nat} (hc : Canon ls) {k : Nat} (h : natOf ls < 4294967296 ^ k) : ls.length ≤ k := by
 by_cases hne : ls = []
 ·subst hne; simp
 ·have h1 := iI hc hne
  rcases Nat.lt_or_ge k ls.length with h2 | h2
  ·have := dZ (show k ≤ ls.length - 1 by omega); omega
  ·exact h2
theorem cS (neg : Bool) (n : Nat) : (sgn neg n).natAbs = n := by unfold sgn; split <;> simp
end Go.Proofs.YtiejljicpinheaaGreat
