import Derived.Test.YtiejljicpinheaaA03
namespace Go.LA
def eadd (i j : Nat) (q : Int) : Mat := fun a b => idM a b + (if a = j ∧ b = i then q else 0)
def cadd (M : Mat) (i j : Nat) (q : Int) : Mat := fun r c => if c = i then M r i + q * M r j else M r c
def cswp (M : Mat) (i j : Nat) : Mat := fun r c => M r (if c = i then j else if c = j then i else c)
def cneg (M : Mat) (i : Nat) : Mat := fun r c => if c = i then - M r i else M r c
theorem oy {n i j : Nat} (M : Mat) (q : Int) (_hi : i < n) (hj : j < n) (r c : Nat) (hc : c < n) : mm n M (eadd i j q) r c = cadd M i j q r c := by
 unfold mm eadd
 have : (sm n fun k => M r k * (idM k c + if k = j ∧ c = i then q else 0)) = (sm n fun k => M r k * idM k c) + sm n fun k => M r k * (if k = j ∧ c = i then q else 0) := by
  rw [← dG]; exact aV fun k _ => by rw [Int.mul_add]
 rw [this, show (sm n fun k => M r k * idM k c) = M r c from p6 M r c hc, cf hj fun k _ hne => by rw [if_neg (fun h => hne h.1), Int.mul_zero]]
 unfold cadd
 by_cases e : c = i
 ·rw [if_pos ⟨rfl, e⟩, if_pos e, e]; grind
 ·rw [if_neg (fun h => e h.2), if_neg e, Int.mul_zero, Int.add_zero]
theorem qf {n i j : Nat} (hne : i ≠ j) (q : Int) : det n (eadd i j q) = 1 := by
 have hd : ∀ a, eadd i j q a a = 1 := fun a => by unfold eadd; rw [bA, if_neg (fun h => hne (h.2.symm.trans h.1))]; rfl
 rcases Nat.lt_or_gt_of_ne hne with h | h
 ·rw [dw fun r c _ hr => by unfold eadd; rw [bF (by omega), if_neg (by omega)]; rfl]
  rw [gc n 1 fun a _ => hd a, Int.one_pow]
 ·rw [iN fun r c _ hc => by unfold eadd; rw [bF (by omega), if_neg (by omega)]; rfl]
  rw [gc n 1 fun a _ => hd a, Int.one_pow]
theorem qg {n i j : Nat} (M : Mat) (hi : i < n) (hj : j < n) (r c : Nat) (hc : c < n) : mm n M (swp idM i j) r c = cswp M i j r c := by
 unfold mm cswp
 have hlt : (if c = i then j else if c = j then i else c) < n := by split; exact hj; split; exact hi; exact hc
 rw [cf hlt]
 ·have : swp idM i j (if c = i then j else if c = j then i else c) c = 1 := by
   unfold swp rw'
   by_cases e1 : c = i
   ·rw [if_pos e1, if_pos rfl, e1, bA]
   ·rw [if_neg e1]
    by_cases e2 : c = j
    ·rw [if_pos e2]
     by_cases e3 : i = j
     ·omega
     ·rw [if_neg e3, if_pos rfl, e2, bA]
    ·rw [if_neg e2, if_neg e2, if_neg e1, bA]
  rw [this, Int.mul_one]
 ·intro k hk hne
  have : swp idM i j k c = 0 := by
   unfold swp rw'
   by_cases e1 : k = j
   ·rw [if_pos e1]
    exact bF fun h => hne (by rw [if_pos h.symm, e1])
   ·rw [if_neg e1]
    by_cases e2 : k = i
    ·rw [if_pos e2]
     exact bF fun h => by
      by_cases e3 : c = i
      ·omega
      ·exact hne (by rw [if_neg e3, if_pos h.symm, e2])
    ·rw [if_neg e2]
     refine bF fun h => ?_
     subst h
     exact hne (by rw [if_neg e2, if_neg e1])
  rw [this, Int.mul_zero]
theorem rC {n i j : Nat} (hne : i ≠ j) (hi : i < n) (hj : j < n) : det n (swp idM i j) = -1 := by rw [(cO n).swap idM hne hi hj, gV]
def eneg (i : Nat) : Mat := fun a b => if a = b then (if a = i then -1 else 1) else 0
theorem oz {n i : Nat} (M : Mat) (r c : Nat) (hc : c < n) : mm n M (eneg i) r c = cneg M i r c := by
 unfold mm
 rw [cf hc fun k _ hne => by unfold eneg; rw [if_neg hne, Int.mul_zero]]
 unfold eneg cneg
 rw [if_pos rfl]
 by_cases e : c = i
 ·rw [if_pos e, if_pos e, e]; omega
 ·rw [if_neg e, if_neg e, Int.mul_one]
theorem qh {n i : Nat} (hi : i < n) : det n (eneg i) = -1 := by
 rw [dw fun r c _ hr => by unfold eneg; rw [if_neg (by omega)]]
 have : ∀ m, pr m (fun a => eneg i a a) = if i < m then -1 else 1 := by
  intro m
  induction m with
  | zero => rfl
  | succ m ih =>
   rw [pr, ih]
   unfold eneg
   rw [if_pos rfl]
   by_cases e : m = i
   ·rw [if_pos e, if_neg (by omega), if_pos (by omega)]; rfl
   ·rw [if_neg e]
    by_cases e' : i < m
    ·rw [if_pos e', if_pos (by omega)]; rfl
    ·rw [if_neg e', if_neg (by omega)]; rfl
 rw [this, if_pos hi]
def CEq (rows cols : Nat) (A H U : Mat) : Prop := Uni cols U ∧ ∀ r c, r < rows → c < cols → H r c = mm cols A U r c
theorem sI (rows cols : Nat) (A : Mat) : CEq rows cols A A idM := ⟨nx cols, fun r c _ hc => (p6 A r c hc).symm⟩
theorem CEq.congr {rows cols : Nat} {A H H' U U' : Mat} (h : CEq rows cols A H U) (hH : ∀ r c, r < rows → c < cols → H' r c = H r c) (hU : ∀ r c, r < cols → c < cols → U' r c = U r c) : CEq rows cols A H' U' :=
 ⟨h.1.congr fun r c hr hc => (hU r c hr hc).symm, fun r c hr hc => by rw [hH r c hr hc, h.2 r c hr hc]; exact d9 (fun _ _ => rfl) fun k hk => (hU k c hk hc).symm⟩
theorem CEq.step {rows cols : Nat} {A H U E : Mat} (h : CEq rows cols A H U) (hE : Uni cols E) : CEq rows cols A (mm cols H E) (mm cols U E) :=
 ⟨h.1.mul hE, fun r c hr _ => by rw [← ij]; exact d9 (fun k hk => h.2 r k hr hk) fun _ _ => rfl⟩
theorem CEq.add {rows cols i j : Nat} {A H U : Mat} (h : CEq rows cols A H U) (q : Int) (hne : i ≠ j) (hi : i < cols) (hj : j < cols) : CEq rows cols A (cadd H i j q) (cadd U i j q) :=
 (h.step (E := eadd i j q) (.inl (qf hne q))).congr (fun r c _ hc => (oy H q hi hj r c hc).symm) fun r c _ hc => (oy U q hi hj r c hc).symm
theorem CEq.swap {rows cols i j : Nat} {A H U : Mat} (h : CEq rows cols A H U) (hne : i ≠ j) (hi : i < cols) (hj : j < cols) : CEq rows cols A (cswp H i j) (cswp U i j) :=
 (h.step (E := swp idM i j) (.inr (rC hne hi hj))).congr (fun r c _ hc => (qg H hi hj r c hc).symm) fun r c _ hc => (qg U hi hj r c hc).symm
theorem CEq.neg {rows cols i : Nat} {A H U : Mat} (h : CEq rows cols A H U) (hi : i < cols) : CEq rows cols A (cneg H i) (cneg U i) :=
 (h.step (E := eneg i) (.inr (qh hi))).congr (fun r c _ hc => (oz H r c hc).symm) fun r c _ hc => (oz U r c hc).symm
theorem CEq.inL {rows cols : Nat} {A H U : Mat} (h : CEq rows cols A H U) (v : Vec) : InL rows cols H v ↔ InL rows cols A v := InL.uni h.1 h.2 v
theorem HF.unique' {rows cols k k' : Nat} {H H' : Mat} {p p' : Nat → Nat} (h : HF rows cols H k p) (h' : HF rows cols H' k' p') (hL : ∀ v, InL rows cols H v ↔ InL rows cols H' v) : ∀ r c, r < rows → c < cols → H r c = H' r c := fun r c hr hc => by
 obtain ⟨rfl, _, h3⟩ := h.unique h' hL
 rcases Nat.lt_or_ge c k with hk | hk
 ·exact h3 c hk r hr
 ·rw [h.rest c hk hc r hr, h'.rest c hk hc r hr]
theorem mz {rows cols k j r : Nat} {A : Mat} (hj : k < j) (hjc : j < cols) : ∀ (m : Nat) (H U : Mat), (H r j).natAbs = m → CEq rows cols A H U →
  ∃ H' U', CEq rows cols A H' U' ∧ H' r j = 0 ∧ (∀ c, c ≠ k → c ≠ j → ∀ x, H' x c = H x c) ∧ ∀ x, H x k = 0 → H x j = 0 → H' x k = 0 ∧ H' x j = 0 := by
 intro m
 induction m using Nat.strongRecOn with
 | _ m ih =>
  intro H U hm h
  by_cases h0 : H r j = 0
  ·exact ⟨H, U, h, h0, fun _ _ _ _ => rfl, fun x h1 h2 => ⟨h1, h2⟩⟩
  ·have h1 := (h.add (i := k) (j := j) (-(H r k / H r j)) (by omega) (by omega) hjc).swap (i := k) (j := j) (by omega) (by omega) hjc
   have e1 : cswp (cadd H k j (-(H r k / H r j))) k j r j = H r k % H r j := by
    show cadd H k j _ r (if j = k then j else if j = j then k else j) = _
    rw [if_neg (by omega), if_pos rfl]
    unfold cadd
    rw [if_pos rfl]
    have := Int.emod_add_mul_ediv (H r k) (H r j)
    grind
   have hlt : (H r k % H r j).natAbs < m := by
    have a1 := Int.emod_nonneg (H r k) h0
    have a2 := Int.emod_lt (H r k) h0
    omega
   obtain ⟨H', U', g1, g2, g3, g4⟩ := ih _ hlt _ _ (by rw [e1]) h1
   refine ⟨H', U', g1, g2, fun c hk hjj x => ?_, fun x hx hy => ?_⟩
   ·rw [g3 c hk hjj x]
    unfold cswp cadd
    rw [if_neg hk, if_neg hjj, if_neg hk]
   ·refine g4 x ?_ ?_
    ·unfold cswp cadd
     rw [if_pos rfl, if_neg (by omega)]; exact hy
    ·show cadd H k j _ x (if j = k then j else if j = j then k else j) = 0
     rw [if_neg (show j ≠ k by omega), if_pos rfl]
     unfold cadd
     rw [if_pos rfl, hx, hy]; omega
theorem ny {rows cols k r : Nat} {A : Mat} : ∀ (m : Nat), k + 1 + m ≤ cols → ∀ (H U : Mat), CEq rows cols A H U →
  ∃ H' U', CEq rows cols A H' U' ∧ (∀ c, k < c → c < k + 1 + m → H' r c = 0) ∧ (∀ c, c < k ∨ k + 1 + m ≤ c → ∀ x, H' x c = H x c) ∧ ∀ x, (∀ c, k ≤ c → c < cols → H x c = 0) → ∀ c, k ≤ c → c < cols → H' x c = 0 := by
 intro m
 induction m with
 | zero => intro _ H U h; exact ⟨H, U, h, fun c h1 h2 => by omega, fun _ _ _ => rfl, fun x hx => hx⟩
 | succ m ih =>
  intro hm H U h
  obtain ⟨H1, U1, a1, a2, a3, a4⟩ := ih (by omega) H U h
  obtain ⟨H2, U2, b1, b2, b3, b4⟩ := mz (r := r) (show k < k + 1 + m by omega) (by omega) _ H1 U1 rfl a1
  refine ⟨H2, U2, b1, fun c h1 h2 => ?_, fun c hc x => ?_, fun x hx c h1 h2 => ?_⟩
  ·by_cases e : c = k + 1 + m
   ·rw [e]; exact b2
   ·rw [b3 c (by omega) e]; exact a2 c h1 (by omega)
  ·rw [b3 c (by omega) (by omega), a3 c (by omega)]
  ·have z := a4 x hx
   by_cases e1 : c = k
   ·rw [e1]; exact (b4 x (z k (by omega) (by omega)) (z _ (by omega) (by omega))).1
   ·by_cases e2 : c = k + 1 + m
    ·rw [e2]; exact (b4 x (z k (by omega) (by omega)) (z _ (by omega) (by omega))).2
    ·rw [b3 c e1 e2]; exact z c h1 h2
theorem nA {rows cols k r : Nat} {A : Mat} (hk : k < cols) : ∀ (m : Nat), m ≤ k → ∀ (H U : Mat), CEq rows cols A H U → 0 < H r k →
  ∃ H' U', CEq rows cols A H' U' ∧ (∀ c, k ≤ c → ∀ x, H' x c = H x c) ∧ (∀ c, c < m → 0 ≤ H' r c ∧ H' r c < H r k) ∧ ∀ x, H x k = 0 → ∀ c, H' x c = H x c := by
 intro m
 induction m with
 | zero => intro _ H U h _; exact ⟨H, U, h, fun _ _ _ => rfl, fun c hc => by omega, fun _ _ _ => rfl⟩
 | succ m ih =>
  intro hm H U h hp
  obtain ⟨H1, U1, a1, a2, a3, a4⟩ := ih (by omega) H U h hp
  have hp1 : H1 r k = H r k := a2 k (Nat.le_refl _) r
  have a5 : H1 r m % H r k = H1 r m + -(H1 r m / H r k) * H1 r k := by
   have := Int.emod_add_mul_ediv (H1 r m) (H r k)
   rw [hp1]; grind
  refine ⟨_, _, a1.add (i := m) (j := k) (-(H1 r m / H r k)) (by omega) (by omega) hk, fun c hc x => ?_, fun c hc => ?_, fun x hx c => ?_⟩
  ·unfold cadd; rw [if_neg (by omega)]; exact a2 c hc x
  ·unfold cadd
   by_cases e : c = m
   ·rw [if_pos e, ← a5]
    exact ⟨Int.emod_nonneg _ (by omega), Int.emod_lt_of_pos _ hp⟩
   ·rw [if_neg e]; exact a3 c (by omega)
  ·unfold cadd
   by_cases e : c = m
   ·rw [if_pos e, a2 k (Nat.le_refl _) x, hx, Int.mul_zero, Int.add_zero, e]; exact a4 x hx m
   ·rw [if_neg e]; exact a4 x hx c
theorem HF.more {cols k r : Nat} {H : Mat} {p : Nat → Nat} (h : HF r cols H k p) (hz : ∀ c, k ≤ c → c < cols → H r c = 0) : HF (r + 1) cols H k p :=
 ⟨h.kc, fun c hc => by have := h.lt c hc; omega, h.mono, h.zero, h.pos, h.red, fun c hc hc' x hx => by
  by_cases e : x = r
  ·rw [e]; exact hz c hc hc'
  ·exact h.rest c hc hc' x (by omega)⟩
theorem HF.pivot {cols k r : Nat} {H : Mat} {p : Nat → Nat} (h : HF r cols H k p) (hk : k < cols) (hp : 0 < H r k) (hz : ∀ c, k < c → c < cols → H r c = 0) (hr : ∀ c, c < k → 0 ≤ H r c ∧ H r c < H r k) : HF (r + 1) cols H (k + 1) (fun c => if c = k then r else p c) := by
 have hpl : ∀ c, c < k → p c < r := h.lt
 refine ⟨hk, fun c hc => ?_, fun c c' h1 h2 => ?_, fun c hc x hx => ?_, fun c hc => ?_, fun c hc j hj => ?_, fun c hc hc' x hx => ?_⟩
 ·show (if c = k then r else p c) < r + 1
  split
  ·omega
  ·have := hpl c (by omega); omega
 ·show (if c = k then r else p c) < if c' = k then r else p c'
  rw [if_neg (by omega)]
  split
  ·exact hpl c (by omega)
  ·exact h.mono c c' h1 (by omega)
 ·have hx' : x < if c = k then r else p c := hx
  split at hx'
  ·rename_i e; rw [e]; exact h.rest k (Nat.le_refl _) hk x hx'
  ·exact h.zero c (by omega) x hx'
 ·show 0 < H (if c = k then r else p c) c
  split
  ·rename_i e; rw [e]; exact hp
  ·exact h.pos c (by omega)
 ·show 0 ≤ H (if c = k then r else p c) j ∧ H (if c = k then r else p c) j < H (if c = k then r else p c) c
  split
  ·rename_i e; rw [e]; exact hr j (by omega)
  ·exact h.red c (by omega) j hj
 ·by_cases e : x = r
  ·rw [e]; exact hz c (by omega) hc'
  ·exact h.rest c (by omega) hc' x (by omega)
theorem oS (rows cols : Nat) (A : Mat) : ∃ H U k p, CEq rows cols A H U ∧ HF rows cols H k p := by
 have key : ∀ r, r ≤ rows → ∃ H U k p, CEq rows cols A H U ∧ HF r cols H k p := by
  intro r
  induction r with
  | zero => intro _; exact ⟨A, idM, 0, fun _ => 0, sI _ _ _, ⟨Nat.zero_le _, fun c hc => by omega, fun c c' _ h => by omega, fun c hc => by omega, fun c hc => by omega, fun c hc => by omega, fun c _ _ x hx => by omega⟩⟩
  | succ r ih =>
   intro hr
   obtain ⟨H, U, k, p, hC, hF⟩ := ih (by omega)
   by_cases hk : k < cols
   ·obtain ⟨H1, U1, a1, a2, a3, a4⟩ := ny (rows := rows) (cols := cols) (k := k) (r := r) (A := A) (cols - (k + 1)) (by omega) H U hC
    have hF1 : HF r cols H1 k p := hF.congr fun x c hx hc => by
     rcases Nat.lt_or_ge c k with h | h
     ·exact a3 c (.inl h) x
     ·rw [a4 x (fun c h1 h2 => hF.rest c h1 h2 x hx) c h hc, hF.rest c h hc x hx]
    by_cases h0 : H1 r k = 0
    ·refine ⟨H1, U1, k, p, a1, hF1.more fun c h1 h2 => ?_⟩
     by_cases e : c = k
     ·rw [e]; exact h0
     ·exact a2 c (by omega) (by omega)
    ·
     obtain ⟨H2, U2, b1, b2, b3, b4⟩ : ∃ H2 U2, CEq rows cols A H2 U2 ∧ HF r cols H2 k p ∧ 0 < H2 r k ∧ ∀ c, k < c → c < cols → H2 r c = 0 := by
      by_cases hpos : 0 < H1 r k
      ·exact ⟨H1, U1, a1, hF1, hpos, fun c h1 h2 => a2 c h1 (by omega)⟩
      ·refine ⟨cneg H1 k, cneg U1 k, a1.neg hk, hF1.congr fun x c hx hc => ?_, ?_, fun c h1 h2 => ?_⟩
       ·unfold cneg
        by_cases e : c = k
        ·rw [if_pos e, e, hF1.rest k (Nat.le_refl _) hk x hx]; rfl
        ·rw [if_neg e]
       ·unfold cneg; rw [if_pos rfl]; omega
       ·unfold cneg; rw [if_neg (by omega)]; exact a2 c h1 (by omega)
     obtain ⟨H3, U3, c1, c2, c3, c4⟩ := nA (r := r) hk k (Nat.le_refl _) H2 U2 b1 b3
     have hF3 : HF r cols H3 k p := b2.congr fun x c hx _ => c4 x (b2.rest k (Nat.le_refl _) hk x hx) c
     refine ⟨H3, U3, k + 1, _, c1, hF3.pivot hk ?_ (fun c h1 h2 => ?_) (fun c hc => ?_)⟩
     ·rw [c2 k (Nat.le_refl _) r]; exact b3
     ·rw [c2 c (by omega) r]; exact b4 c h1 h2
     ·rw [c2 k (Nat.le_refl _) r]; exact c3 c hc
   ·exact ⟨H, U, k, p, hC, hF.more fun c h1 h2 => by omega⟩
 exact key rows (Nat.le_refl _)
end Go.LA
namespace Go.LA
theorem HF.coeff {rows cols k : Nat} {H : Mat} {p : Nat → Nat} (h : HF rows cols H k p) {x : Vec} {c : Nat} (hc : c ≤ k) (hz : ∀ j, j < c → mv cols H x (p j) = 0) : ∀ j, j < c → x j = 0 := fun j => by
 induction j using Nat.strongRecOn with
 | _ j ih =>
  intro hj
  have h1 := (h.begins (x := x) (c := j) (by omega) fun i hi => ih i hi (by omega)).2
  rw [hz j hj] at h1
  rcases Int.mul_eq_zero.1 h1.symm with e | e
  ·exact e
  ·have := h.pos j (by omega); omega
theorem HF.kernel {rows cols k : Nat} {A H U : Mat} {p : Nat → Nat} (hC : CEq rows cols A H U) (hF : HF rows cols H k p) (x : Vec) : (∀ r, r < rows → mv cols A x r = 0) ↔ InL cols (cols - k) (fun r j => U r (k + j)) x := by
 have hk := hF.kc
 have hmv : ∀ y r, r < rows → mv cols H y r = mv cols A (mv cols U y) r := fun y r hr => by
  rw [← jN]; exact cX (fun j hj => hC.2 r j hr hj) fun _ _ => rfl
 have hsplit : ∀ (y : Vec) r, (∀ j, j < k → y j = 0) → mv cols U y r = mv (cols - k) (fun r j => U r (k + j)) (fun j => y (k + j)) r := fun y r hy => by
  unfold mv
  conv => lhs; rw [show cols = k + (cols - k) by omega]
  rw [fx, fg fun j hj => by rw [hy j hj, Int.mul_zero], Int.zero_add]
 constructor
 ·intro hx
  generalize hy : mv cols (uinv cols U) x = y
  have hUy : ∀ r, r < cols → mv cols U y r = x r := fun r hr => by
   rw [← hy, ← jN, cX (A' := idM) (fun j hj => hC.1.mul_inv hr hj) fun _ _ => rfl]
   unfold mv
   rw [cf hr fun j _ hne => by rw [bF (Ne.symm hne), Int.zero_mul]]
   rw [bA, Int.one_mul]
  have hHy : ∀ r, r < rows → mv cols H y r = 0 := fun r hr => by
   rw [hmv y r hr, ← hx r hr]; exact cX (fun _ _ => rfl) fun j hj => hUy j hj
  have h0 := hF.coeff (x := y) (Nat.le_refl k) fun j hj => hHy _ (hF.lt j hj)
  exact ⟨fun j => y (k + j), fun r hr => by rw [← hsplit y r h0, hUy r hr]⟩
 ·rintro ⟨z, hz⟩ r hr
  have h0 : ∀ j, j < k → (fun j => if j < k then 0 else z (j - k) : Vec) j = 0 := fun j hj => if_pos hj
  have e1 : mv cols A x r = mv cols H (fun j => if j < k then 0 else z (j - k)) r := by
   rw [hmv _ r hr]
   refine cX (fun _ _ => rfl) fun j hj => ?_
   rw [hz j hj, hsplit _ j h0]
   refine cX (fun _ _ => rfl) fun i _ => ?_
   show z i = if k + i < k then 0 else z (k + i - k)
   rw [if_neg (by omega), Nat.add_sub_cancel_left]
  rw [e1, hF.mvk _ hr]
  exact fg fun j hj => by show H r j * (if j < k then 0 else z (j - k)) = 0; rw [if_pos hj, Int.mul_zero]
end Go.LA
namespace Go.LA
def litF (L : List (List Int)) : Mat := fun i j => (L.getD i []).getD j 0
theorem iO {r c k k' : Nat} {A H U H' U' : Mat} {p p' : Nat → Nat} (h : CEq r c A H U) (hF : HF r c H k p) (h' : CEq r c A H' U') (hF' : HF r c H' k' p') : k = k' ∧ ∀ i j, i < r → j < c → H i j = H' i j := by
 have hL : ∀ v, InL r c H v ↔ InL r c H' v := fun v => (h.inL v).trans (h'.inL v).symm
 exact ⟨(hF.unique hF' hL).1, hF.unique' hF' hL⟩
theorem kC {p : Nat → Prop} (h0 : p 0) (h1 : p 1) : ∀ i, i < 2 → p i := fun i hi => by
 match i, hi with
 | 0, _ => exact h0
 | 1, _ => exact h1
theorem nC {H U : Mat} {k : Nat} {p : Nat → Nat} (h : CEq 2 2 (litF [[2, 1], [0, 3]]) H U) (hF : HF 2 2 H k p) : ∀ i j, i < 2 → j < 2 → H i j = litF [[1, 0], [3, 6]] i j := by
 have hc : CEq 2 2 (litF [[2, 1], [0, 3]]) (litF [[1, 0], [3, 6]]) (litF [[0, -1], [1, 2]]) := by
  refine ⟨Or.inl (by decide), fun i j hi hj => ?_⟩
  rcases (show i = 0 ∨ i = 1 by omega) with rfl | rfl <;> rcases (show j = 0 ∨ j = 1 by omega) with rfl | rfl <;> decide
 have hf : HF 2 2 (litF [[1, 0], [3, 6]]) 2 id := by
  refine ⟨Nat.le_refl _, fun c hc => hc, fun c c' h _ => h, fun c hc r hr => ?_, fun c hc => ?_, fun c hc j hj => ?_, fun c hc hc' => by omega⟩
  ·obtain rfl : c = 1 := by simp only [id] at hr; omega
   obtain rfl : r = 0 := by simp only [id] at hr; omega
   decide
  ·exact kC (p := fun c => 0 < litF [[1, 0], [3, 6]] (id c) c) (by decide) (by decide) c hc
  ·obtain rfl : c = 1 := by omega
   obtain rfl : j = 0 := by omega
   decide
 exact (iO h hF hc hf).2
theorem oU {H U H' U' : Mat} {k k' : Nat} {p p' : Nat → Nat} (h : CEq 1 2 (litF [[2, 3]]) H U) (hF : HF 1 2 H k p) (h' : k < 2 → CEq 2 (2 - k) (fun i j => U i (k + j)) H' U' ∧ HF 2 (2 - k) H' k' p') :
  k = 1 ∧ k' = 1 ∧ ∀ i j, i < 2 → j < 1 → H' i j = litF [[3], [-2]] i j := by
 have hc : CEq 1 2 (litF [[2, 3]]) (litF [[1, 0]]) (litF [[-1, 3], [1, -2]]) := by
  refine ⟨Or.inr (by decide), fun i j hi hj => ?_⟩
  obtain rfl : i = 0 := by omega
  exact kC (p := fun j => litF _ 0 j = mm 2 _ _ 0 j) (by decide) (by decide) j hj
 have hf : HF 1 2 (litF [[1, 0]]) 1 id := by
  refine ⟨by omega, fun c hc => hc, fun c c' h _ => h, fun c hc r hr => by simp only [id] at hr; omega, fun c hc => ?_, fun c hc j hj => by omega, fun c hc hc' r hr => ?_⟩
  ·obtain rfl : c = 0 := by omega
   decide
  ·obtain rfl : c = 1 := by omega
   obtain rfl : r = 0 := by omega
   decide
 obtain ⟨rfl, _⟩ := iO h hF hc hf
 obtain ⟨h1, h2⟩ := h' (by omega)
 have hk : HF 2 1 (litF [[3], [-2]]) 1 id := by
  refine ⟨by omega, fun c hc => by show c < 2; omega, fun c c' h _ => h, fun c hc r hr => by simp only [id] at hr; omega, fun c hc => ?_, fun c hc j hj => by omega, fun c hc hc' => by omega⟩
  obtain rfl : c = 0 := by omega
  decide
 have hL : ∀ v, InL 2 1 H' v ↔ InL 2 1 (litF [[3], [-2]]) v := fun v => by
  rw [h1.inL v, ← HF.kernel h hF v]
  constructor
  ·intro hv
   have := hv 0 (by omega)
   have e : 2 * v 0 + 3 * v 1 = 0 := by
    have e2 : mv 2 (litF [[2, 3]]) v 0 = 0 + 2 * v 0 + 3 * v 1 := rfl
    omega
   refine ⟨fun _ => v 0 / 3, fun r hr => ?_⟩
   have e3 : mv 1 (litF [[3], [-2]]) (fun _ => v 0 / 3) r = 0 + litF [[3], [-2]] r 0 * (v 0 / 3) := rfl
   rw [e3]
   match r, hr with
   | 0, _ => show v 0 = 0 + 3 * (v 0 / 3); omega
   | 1, _ => show v 1 = 0 + -2 * (v 0 / 3); omega
  ·rintro ⟨x, hx⟩ r hr
   obtain rfl : r = 0 := by omega
   have e0 : v 0 = 0 + 3 * x 0 := hx 0 (by omega)
   have e1 : v 1 = 0 + -2 * x 0 := hx 1 (by omega)
   show 0 + 2 * v 0 + 3 * v 1 = 0
   omega
 exact ⟨rfl, (h2.unique hk hL).1, h2.unique' hk hL⟩
theorem oV {H U : Mat} {k : Nat} {p : Nat → Nat} (h : CEq 1 2 (fun i j => litF [[2], [4]] j i) H U) (_hF : HF 1 2 H k p) : ¬ ∀ i, i < 1 → H i i = 1 := by
 intro h1
 have h0 := h1 0 (by omega)
 have e := h.2 0 0 (by omega) (by omega)
 have e2 : mm 2 (fun i j => litF [[2], [4]] j i) U 0 0 = 0 + 2 * U 0 0 + 4 * U 1 0 := rfl
 omega
theorem Uni.ceq {n : Nat} {F : Mat} (h : Uni n F) : CEq n n idM F F := ⟨h, fun i j hi _ => (mr F i j hi).symm⟩
end Go.LA
namespace Go.LM
def natOf : List Nat → Nat
 | [] => 0
 | d :: l => d + 4294967296 * natOf l
def Lim (l : List Nat) : Prop := ∀ d ∈ l, d < 4294967296
theorem Lim.getD {l : List Nat} (h : Lim l) (k : Nat) : l.getD k 0 < 4294967296 := by
 by_cases hk : k < l.length
 ·rw [List.getD_eq_getElem?_getD, List.getElem?_eq_getElem hk]; exact h _ (List.getElem_mem hk)
 ·rw [List.getD_eq_getElem?_getD, List.getElem?_eq_none (by omega)]; decide
theorem Lim.take {l : List Nat} (h : Lim l) (k : Nat) : Lim (l.take k) := fun d hd => h d (List.mem_of_mem_take hd)
theorem cG : ∀ (l m : List Nat), natOf (l ++ m) = natOf l + 4294967296 ^ l.length * natOf m
 | [], m => by simp [natOf]
 | d :: l, m => by
  simp only [List.cons_append, natOf, cG l m, List.length_cons, Nat.pow_succ]
  rw [Nat.mul_add, ← Nat.mul_assoc, Nat.mul_comm 4294967296 (4294967296 ^ l.length), Nat.add_assoc]
theorem bL : ∀ {l : List Nat}, Lim l → natOf l < 4294967296 ^ l.length
 | [], _ => by simp [natOf]
 | d :: l, h => by
  have h1 := h d (by simp)
  have h2 := bL (l := l) (fun x hx => h x (by simp [hx]))
  simp only [natOf, List.length_cons, Nat.pow_succ]
  omega
theorem cU (l : List Nat) (d : Nat) : natOf (l ++ [d]) = natOf l + 4294967296 ^ l.length * d := by rw [cG]; simp [natOf]
theorem cL : ∀ n : Nat, natOf (List.replicate n 0) = 0
 | 0 => rfl
 | n + 1 => by simp [List.replicate_succ, natOf, cL n]
def trimL : List Nat → List Nat
 | [] => []
 | d :: l => if trimL l = [] ∧ d = 0 then [] else d :: trimL l
theorem bc : ∀ l : List Nat, natOf (trimL l) = natOf l
 | [] => rfl
 | d :: l => by
  have ih := bc l
  rw [trimL]
  split
  ·rename_i h; rw [h.1] at ih; simp only [natOf] at ih ⊢; omega
  ·simp only [natOf, ih]
theorem cv : ∀ l : List Nat, (trimL l).length ≤ l.length
 | [] => by simp [trimL]
 | d :: l => by
  have := cv l
  rw [trimL]
  split <;> simp <;> omega
theorem gW : ∀ l : List Nat, trimL l = l.take (trimL l).length
 | [] => rfl
 | d :: l => by
  have ih := gW l
  rw [trimL]
  split
  ·rfl
  ·simp only [List.length_cons, List.take_succ_cons, ← ih]
theorem dC : ∀ l : List Nat, trimL (l ++ [0]) = trimL l
 | [] => rfl
 | d :: l => by simp only [List.cons_append, trimL, dC l]
theorem gX {d : Nat} (h : d ≠ 0) : ∀ l : List Nat, trimL (l ++ [d]) = l ++ [d]
 | [] => by simp [trimL, h]
 | e :: l => by
  simp only [List.cons_append, trimL, gX h l]
  rw [if_neg (by simp)]
def Canon (l : List Nat) : Prop := trimL l = l
theorem bz : ∀ l : List Nat, Canon (trimL l)
 | [] => rfl
 | d :: l => by
  have ih := bz l
  unfold Canon at *
  rw [trimL]
  split
  ·rfl
  ·rename_i h
   rw [trimL, ih, if_neg h]
theorem Lim.trim {l : List Nat} (h : Lim l) : Lim (trimL l) := by rw [gW]; exact h.take _
theorem cj {l : List Nat} : trimL l = [] ↔ natOf l = 0 := by
 constructor
 ·intro h; rw [← bc, h]; rfl
 ·induction l with
  | nil => intro _; rfl
  | cons d l ih =>
   intro h
   simp only [natOf] at h
   rw [trimL, if_pos ⟨ih (by omega), by omega⟩]
theorem ik {l : List Nat} (h : Canon l) (hne : l ≠ []) : 4294967296 ^ (l.length - 1) ≤ natOf l := by
 obtain ⟨m, d, rfl⟩ : ∃ m d, l = m ++ [d] := ⟨l.dropLast, l.getLast hne, (List.dropLast_concat_getLast hne).symm⟩
 have hd : d ≠ 0 := by
  rintro rfl
  unfold Canon at h
  rw [dC] at h
  have := cv m
  rw [h] at this
  simp at this
  omega
 rw [cU]
 simp only [List.length_append, List.length_singleton, Nat.add_sub_cancel]
 have : 4294967296 ^ m.length * 1 ≤ 4294967296 ^ m.length * d := Nat.mul_le_mul_left _ (by omega)
 omega
theorem lz {l m : List Nat} (hl : Lim l) (hm : Lim m) (cl : Canon l) (cm : Canon m) (h : natOf l = natOf m) : l = m := by
 induction l generalizing m with
 | nil =>
  have : trimL m = [] := cj.2 h.symm
  rw [cm] at this; exact this.symm
 | cons d l ih =>
  cases m with
  | nil =>
   have : trimL (d :: l) = [] := cj.2 h
   rw [cl] at this; cases this
  | cons e m =>
   simp only [natOf] at h
   have h1 := hl d (by simp)
   have h2 := hm e (by simp)
   have hde : d = e := by omega
   subst hde
   have hc : ∀ {l : List Nat} {d : Nat}, Canon (d :: l) → Canon l := fun {l d} hc => by
    unfold Canon at *
    rw [trimL] at hc
    split at hc
    ·cases hc
    ·exact (List.cons.inj hc).2
   rw [ih (fun x hx => hl x (by simp [hx])) (fun x hx => hm x (by simp [hx])) (hc cl) (hc cm) (by omega)]
def digs (n : Nat) : List Nat := trimL [n % 4294967296, n / 4294967296]
theorem dl {n : Nat} : natOf (digs n) = n := by rw [digs, bc]; simp [natOf]; omega
theorem qj (n : Nat) : (digs n).length ≤ 2 := cv _
theorem cV (n : Nat) : Canon (digs n) := bz _
end Go.LM
namespace Go.Proofs.Ytiejljicpinheaa
open Go.W Go.LM
abbrev limbsL (ls : List Nat) : List Value := ls.map fun (n : Nat) => Value.int .u32 n
structure Limbs (w : World) (a : Option Addr) (c : Nat) (ls : List Nat) : Prop where
 sl : Sl w a (limbsL ls)
 cap : ls.length ≤ c
 lim : Lim ls
 len : ls.length ≤ 17592186044416
theorem Limbs.ext {w w' : World} {a : Option Addr} {c : Nat} {ls : List Nat} (h : Limbs w a c ls) (e : Ex w w') : Limbs w' a c ls := ⟨h.sl.ext e, h.cap, h.lim, h.len⟩
theorem Limbs.chg {w w' : World} {a : Option Addr} {c g : Nat} {ls : List Nat} (h : Limbs w a c ls) (e : Chg g w w') (hne : ∀ ad, a = some ad → ad.block ≠ g) : Limbs w' a c ls := ⟨h.sl.chg e hne, h.cap, h.lim, h.len⟩
theorem Limbs.take {w : World} {a : Option Addr} {c : Nat} {ls : List Nat} (h : Limbs w a c ls) (k : Nat) : Limbs w a c (ls.take k) :=
 ⟨by have := h.sl.take k; rwa [← List.map_take] at this, by have := h.cap; simp; omega, h.lim.take k, by have := h.len; simp; omega⟩
theorem Limbs.trim {w : World} {a : Option Addr} {c : Nat} {ls : List Nat} (h : Limbs w a c ls) : Limbs w a c (trimL ls) := by rw [gW]; exact h.take _
theorem Limbs.nil (w : World) (a : Option Addr) (c : Nat) : Limbs w a c [] := ⟨Sl.nil _ _, by simp, by intro d hd; simp at hd, by simp⟩
theorem dL {ls : List Nat} {k : Nat} (hk : k ≤ ls.length) (h0 : 0 < k) : ls.take k = ls.take (k - 1) ++ [ls.getD (k - 1) 0] := by
 obtain ⟨j, rfl⟩ : ∃ j, k = j + 1 := ⟨k - 1, by omega⟩
 rw [List.take_succ_eq_append_getElem (by omega)]
 simp [List.getD_eq_getElem?_getD, show j < ls.length by omega]
theorem bT {ls : List Nat} {a : Option Addr} {c : Nat} {w : World} (h : Limbs w a c ls) :
  CallsR Try.prog 71 #[.slice a ls.length c] w fun v w' => v = .slice a (trimL ls).length c ∧ Ex w w' := by
 have hlen := h.len
 have hcap := h.cap
 refine aG (args := [_]) Try.func71 rfl rfl ?_
 repeat' (first|refine ai rfl ?_|refine aa ?_|refine aj ?_|refine ah rfl ?_|refine ae ?_|refine aB ?_)
 refine aW (ι := Nat) [0, 3, 4, 5, 6, 7, 8, 9, 10, 11, 12, 13, 14, 15, 16, 17, 18, 19] (fun k => [(0, .slice a k c)]) (fun k w' => k ≤ ls.length ∧ w' = w ∧ trimL (ls.take k) = trimL ls) (fun k => k) ls.length ⟨rfl, trivial⟩ ⟨Nat.le_refl _, rfl, by simp⟩ ?_
 rintro k ξ w2 ⟨hk, rfl, hT⟩
 repeat' (first|(refine aD (j := k - 1) rfl (by show Value.int .i64 ((k : Int) - 1) = _; congr 1; omega) (h.sl.plain (by simp; omega)) (by omega) ?_)|refine bE rfl h.sl (by omega) ?_|refine ai rfl ?_|refine aa ?_|refine aj ?_|refine ah rfl ?_|refine ae ?_|refine aY rfl ?_|refine bG rfl rfl ?_|refine bP rfl rfl ?_|refine em rfl rfl (fun hc => ?_) (fun hc => ?_)|refine cM rfl rfl (by omega) (by omega) ?_|refine ay rfl ?_|refine aM rfl (fun hc => ?_) (fun hc => ?_)|refine aB ?_|refine aS ?_|refine aL ?_|refine aT ?_|refine aK ?_|refine aF ?_)
 ·refine gG rfl rfl (by omega) (by omega) ?_
  rw [show ((k : Int) - 1).toNat = k - 1 by omega]
  repeat' (first|refine ai rfl ?_|refine aa ?_|refine ae ?_|refine aJ ?_)
  refine ⟨⟨k - 1, ⟨by omega, rfl, ?_⟩, by omega, rfl, trivial⟩, (by (repeat (first|exact aH _ _ _|refine ax rfl ?_|refine av rfl ?_|refine ak rfl ?_|refine ao rfl ?_)))⟩
  rw [← hT, dL hk (by omega), show ls.getD (k - 1) 0 = 0 by omega, dC]
 ·refine bB rfl (rt rfl) ⟨?_, Ex.refl _⟩
  rw [← hT, dL hk (by omega), gX (by omega), ← dL hk (by omega)]
  simp only [List.length_take, Nat.min_eq_left hk]; rfl
 ·obtain rfl : k = 0 := by omega
  refine bB rfl (rt rfl) ⟨?_, Ex.refl _⟩
  rw [← hT]; rfl
def RetN (w : World) (ls : List Nat) (v : Value) (w' : World) : Prop := ∃ a c, v = .slice a ls.length c ∧ Limbs w' a c ls ∧ (∀ ad, a = some ad → w.heap.size ≤ ad.block) ∧ Ex w w'
theorem cZ {n : Nat} (hn : n < 18446744073709551616) (w : World) : CallsR Try.prog 78 #[.int .u64 (n : Int)] w (RetN w (digs n)) := by
 refine aG (args := [_]) Try.func78 rfl rfl ?_
 repeat' (first|refine ai rfl ?_|refine aa ?_|refine aj ?_|refine ah rfl ?_|refine ae ?_)
 refine gT rfl ?_
 rw [show IntKind.u32.wrap ((n : Nat) : Int) = ((n % 4294967296 : Nat) : Int) from (cE rfl).trans (by simp [IntKind.bits])]
 repeat' (first|refine fH (j := 32) rfl rfl (.inl rfl) ?_|refine ai rfl ?_)
 rw [Nat.shiftRight_eq_div_pow]
 refine du rfl (pS (by omega) (by omega)) ?_
 refine pV rfl rfl rfl rfl (fun g w1 hn1 => ⟨fun _ _ => trivial, ?_⟩)
 have hL : Limbs w1 (some ⟨g, 0, none⟩) 2 [n % 4294967296, n / 2 ^ 32] := ⟨hn1.blk.sl, by simp, by intro d hd; simp at hd; omega, by simp⟩
 refine aw (bT hL) rfl ?_
 rintro v w2 ⟨rfl, hE2⟩
 refine ⟨fun _ _ => trivial, ?_⟩
 repeat' (first|refine ai rfl ?_|refine aa ?_|refine ae ?_|refine aK ?_)
 exact bB rfl (rt rfl) ⟨_, _, rfl, hL.trim.ext hE2, by intro ad e; cases e; exact hn1.lo, hn1.ex.trans hE2⟩
theorem fy {ls : List Nat} {a : Option Addr} {c : Nat} {w : World} (h : Limbs w a c ls) (h2 : ls.length ≤ 2) :
  CallsR Try.prog 101 #[.slice a ls.length c] w fun v w' => v = .int .u64 ((natOf ls : Nat) : Int) ∧ Ex w w' := by
 refine aG (args := [_]) Try.func101 rfl rfl ?_
 repeat' (first|refine ai rfl ?_|refine aa ?_|refine aj ?_|refine ah rfl ?_|refine ae ?_|refine aY rfl ?_|refine aB ?_)
 refine aW (ι := Nat) [3, 4, 5, 8, 9, 10, 11, 12, 13, 14, 15, 16, 17, 18, 19, 20] (fun k => [(8, .int .i64 (k : Int)), (3, .int .u64 ((natOf (ls.take k) : Nat) : Int))]) (fun k w' => k ≤ ls.length ∧ w' = w) (fun k => ls.length - k) 0 ⟨rfl, rfl, trivial⟩ ⟨by simp, rfl⟩ ?_
 rintro k ξ w2 ⟨hk, rfl⟩
 have hlt := bL (h.lim.take k)
 have hd := h.lim.getD k
 repeat' (first|(refine aD rfl rfl (h.sl.plain (by simp; omega)) (by omega) ?_)|refine bE rfl h.sl (by omega) ?_|refine du rfl (dh (by omega) (by omega)) ?_|refine jG rfl rfl (by omega) (by omega) ?_|refine ai rfl ?_|refine aa ?_|refine aj ?_|refine ah rfl ?_|refine ae ?_|refine aM rfl (fun hc => ?_) (fun hc => ?_)|refine aB ?_|refine aS ?_|refine aL ?_|refine aT ?_|refine aK ?_|refine aF ?_)
 ·refine iM (j := 32 * k) rfl rfl rfl (by simp only [IntKind.bits]; omega) ?_
  have hkk : k = 0 ∨ k = 1 := by omega
  have hsh : (ls.getD k 0 <<< (32 * k)) % 2 ^ IntKind.u64.bits = ls.getD k 0 <<< (32 * k) := Nat.mod_eq_of_lt (by
   rw [Nat.shiftLeft_eq]; rcases hkk with rfl | rfl <;> simp only [IntKind.bits] <;> omega)
  have hsh2 : ls.getD k 0 <<< (32 * k) < 18446744073709551616 := by rw [Nat.shiftLeft_eq]; rcases hkk with rfl | rfl <;> omega
  have hlt' : natOf (ls.take k) < 2 ^ (32 * k) := by
   simp only [List.length_take, Nat.min_eq_left hk] at hlt
   rcases hkk with rfl | rfl <;> simpa using hlt
  rw [hsh]
  refine jH rfl rfl rfl (by simp only [IntKind.bits]; rcases hkk with rfl | rfl <;> omega) hsh2 ?_
  repeat' (first|refine ai rfl ?_|refine aa ?_|refine ah rfl ?_|refine ae ?_|refine bi rfl rfl (by omega) (by omega) ?_|refine aJ ?_)
  refine ⟨⟨k + 1, ⟨by omega, rfl⟩, by omega, rfl, ?_, trivial⟩, (by (repeat (first|exact aH _ _ _|refine ax rfl ?_|refine av rfl ?_|refine ak rfl ?_|refine ao rfl ?_)))⟩
  show Value.int .u64 _ = _
  congr 2
  have e := dL (ls := ls) (k := k + 1) (by omega) (by omega)
  rw [Nat.add_sub_cancel] at e
  rw [e, cU, Nat.or_comm, ← Nat.shiftLeft_add_eq_or_of_lt hlt', Nat.shiftLeft_eq]
  simp only [List.length_take, Nat.min_eq_left hk]
  rcases hkk with rfl | rfl <;> omega
 ·obtain rfl : k = ls.length := by omega
  refine bB rfl (rt rfl) ⟨?_, Ex.refl _⟩
  show Value.int .u64 _ = _
  rw [List.take_length]
end Go.Proofs.Ytiejljicpinheaa
namespace Go.Proofs.Ytiejljicpinheaa
open Go.W Go.LM
def sgn (neg : Bool) (n : Nat) : Int := if neg then -(n : Int) else n
abbrev intL (neg : Bool) (a : Option Addr) (n c : Nat) : List Value := [.bool neg, .slice a n c]
def IntC (lo : Nat) (w : World) (v : Value) (z : Int) : Prop :=
 ∃ neg a c ls, v = .agg (intL neg a ls.length c).toArray ∧ Limbs w a c ls ∧ z = sgn neg (natOf ls) ∧ Canon ls ∧ (neg = true → ls ≠ []) ∧ ∀ ad, a = some ad → lo ≤ ad.block
theorem IntC.ext {lo : Nat} {w w' : World} {v : Value} {z : Int} (h : IntC lo w v z) (e : Ex w w') : IntC lo w' v z := by obtain ⟨neg, a, c, ls, h1, h2, h3⟩ := h; exact ⟨neg, a, c, ls, h1, h2.ext e, h3⟩
theorem IntC.mono {lo lo' : Nat} {w : World} {v : Value} {z : Int} (h : IntC lo w v z) (hl : lo' ≤ lo) : IntC lo' w v z := by
 obtain ⟨neg, a, c, ls, h1, h2, h3, h4, h5, h6⟩ := h; exact ⟨neg, a, c, ls, h1, h2, h3, h4, h5, fun ad e => by have := h6 ad e; omega⟩
theorem IntC.chg {lo g : Nat} {w w' : World} {v : Value} {z : Int} (h : IntC lo w v z) (e : Chg g w w') (hg : g < lo) : IntC lo w' v z := by
 obtain ⟨neg, a, c, ls, h1, h2, h3, h4, h5, h6⟩ := h; exact ⟨neg, a, c, ls, h1, h2.chg e (fun ad ea => by have := h6 ad ea; omega), h3, h4, h5, h6⟩
def RetZ (w : World) (z : Int) (v : Value) (w' : World) : Prop := IntC w.heap.size w' v z ∧ Ex w w'
theorem ct {ls : List Nat} {a : Option Addr} {c lo : Nat} {w : World} (h : Limbs w a c ls) (hc : Canon ls) (hlo : ∀ ad, a = some ad → lo ≤ ad.block) (neg : Bool) :
  CallsR Try.prog 75 #[.bool neg, .slice a ls.length c] w fun v w' => IntC lo w' v (sgn neg (natOf ls)) ∧ Ex w w' := by
 refine aG (args := [_, _]) Try.func75 rfl rfl ?_
 have hcan := hc
 clear hc
 repeat' (first|refine aE (fun g w1 hn => ⟨fun _ _ => trivial, ?_⟩)|refine ai rfl ?_|refine aa ?_|refine aj ?_|refine ah rfl ?_|refine ae ?_|refine aY rfl ?_|refine aM rfl (fun hc => ?_) (fun hc => ?_)|refine aF ?_)
 ·have hb : Blk w1 g 49 (intL false none 0 0) := hn.blk
  refine cC (cs := intL false none 0 0) rfl ?_
  refine au (n := 2) rfl rfl rfl rfl hb rfl (fun w2 hc2 hb2 => ⟨fun _ _ => trivial, ?_⟩)
  repeat' (first|refine aa ?_|refine ae ?_|refine aK ?_|refine aX ?_)
  have hl : ls = [] := List.eq_nil_of_length_eq_zero (by omega)
  subst hl
  refine bB rfl (rc rfl rfl hb2) ⟨⟨false, none, 0, [], rfl, Limbs.nil _ _ _, ?_, rfl, by simp, by simp⟩, hn.ex.chg hc2 hn.lo⟩
  cases neg <;> rfl
 ·have hb : Blk w1 g 49 (intL false none 0 0) := hn.blk
  refine cC (cs := intL neg a ls.length c) rfl ?_
  refine au (n := 2) rfl rfl rfl rfl hb rfl (fun w2 hc2 hb2 => ⟨fun _ _ => trivial, ?_⟩)
  repeat' (first|refine aa ?_|refine ae ?_|refine aK ?_)
  have hE := hn.ex.chg hc2 hn.lo
  exact bB rfl (rc rfl rfl hb2) ⟨⟨neg, a, c, ls, rfl, h.ext hE, rfl, hcan, fun _ e => hc (by rw [e]; rfl), hlo⟩, hE⟩
theorem cz {z : Int} (h1 : -9223372036854775808 ≤ z) (h2 : z ≤ 9223372036854775807) (w : World) : CallsR Try.prog 52 #[.int .i64 z] w (RetZ w z) := by
 refine aG (args := [_]) Try.func52 rfl rfl ?_
 repeat' (first|refine aE (fun g w1 hn => ⟨fun _ _ => trivial, ?_⟩)|refine ai rfl ?_|refine aa ?_|refine aj ?_|refine ah rfl ?_|refine ae ?_|refine aM rfl (fun hc => ?_) (fun hc => ?_)|refine aF ?_)
 ·have hb : Blk w1 g 49 (intL false none 0 0) := hn.blk
  refine gT rfl ?_
  refine kY rfl ?_
  obtain ⟨n, rfl⟩ : ∃ n : Nat, z = -(n : Int) := ⟨(-z).toNat, by omega⟩
  rw [show IntKind.u64.wrap (-IntKind.u64.wrap (-(n : Int))) = ((n : Nat) : Int) by
   rw [cE rfl, cE rfl]; simp only [IntKind.bits]; omega]
  refine aw (cZ (by omega) _) rfl ?_
  rintro v w2 ⟨a, c, rfl, hL, hf, hE2⟩
  refine ⟨fun _ _ => trivial, ?_⟩
  refine aw (ct hL (cV _) hf true) rfl ?_
  rintro v w3 ⟨hI, hE3⟩
  obtain ⟨neg, a', c', ls, rfl, hI'⟩ := id hI
  refine ⟨fun _ _ => trivial, ?_⟩
  refine au (n := 2) rfl rfl rfl rfl ((hb.ext hE2).ext hE3) rfl (fun w4 hc4 hb4 => ⟨fun _ _ => trivial, ?_⟩)
  repeat' (first|refine aa ?_|refine ae ?_|refine aK ?_|refine aX ?_)
  have hl := hn.lo
  have hh := hn.hi
  refine bB rfl (rc rfl rfl hb4) ⟨?_, ((hn.ex.trans hE2).trans hE3).chg hc4 hl⟩
  have := (hI.chg hc4 hh).mono hn.ex.size
  rwa [dl] at this
 ·have hb : Blk w1 g 49 (intL false none 0 0) := hn.blk
  obtain ⟨n, rfl⟩ : ∃ n : Nat, z = (n : Int) := ⟨z.toNat, by omega⟩
  refine du rfl (dh (by omega) (by omega)) ?_
  refine aw (cZ (by omega) _) rfl ?_
  rintro v w2 ⟨a, c, rfl, hL, hf, hE2⟩
  refine ⟨fun _ _ => trivial, ?_⟩
  refine aw (ct hL (cV _) hf false) rfl ?_
  rintro v w3 ⟨hI, hE3⟩
  obtain ⟨neg, a', c', ls, rfl, hI'⟩ := id hI
  refine ⟨fun _ _ => trivial, ?_⟩
  refine au (n := 2) rfl rfl rfl rfl ((hb.ext hE2).ext hE3) rfl (fun w4 hc4 hb4 => ⟨fun _ _ => trivial, ?_⟩)
  repeat' (first|refine aa ?_|refine ae ?_|refine aK ?_)
  have hl := hn.lo
  have hh := hn.hi
  refine bB rfl (rc rfl rfl hb4) ⟨?_, ((hn.ex.trans hE2).trans hE3).chg hc4 hl⟩
  have := (hI.chg hc4 hh).mono hn.ex.size
  rwa [dl] at this
end Go.Proofs.Ytiejljicpinheaa
namespace Go.Proofs.Ytiejljicpinheaa
open Go.W Go.LM
def cmpZ (m n : Nat) : Int := if m < n then -1 else if n < m then 1 else 0
theorem cJ {ls : List Nat} {k : Nat} (h : k < ls.length) : natOf (ls.drop k) = ls.getD k 0 + 4294967296 * natOf (ls.drop (k + 1)) := by
 rw [List.drop_eq_getElem_cons h, natOf, List.getD_eq_getElem?_getD, List.getElem?_eq_getElem h]; rfl
theorem cT (ls : List Nat) {k : Nat} (h : k ≤ ls.length) : natOf ls = natOf (ls.take k) + 4294967296 ^ k * natOf (ls.drop k) := by
 conv => lhs; rw [← List.take_append_drop k ls, cG]
 simp [Nat.min_eq_left h]
theorem dP {a b : Nat} (h : a ≤ b) : 4294967296 ^ a ≤ 4294967296 ^ b := Nat.pow_le_pow_right (by decide) h
theorem ez {a b : List Nat} (ha : Lim a) (hb : Canon b) (h : a.length < b.length) : natOf a < natOf b := by
 have h1 := bL ha
 have h2 := ik hb (by intro e; rw [e] at h; simp at h)
 have := dP (show a.length ≤ b.length - 1 by omega)
 omega
theorem eY {a b : List Nat} {i : Nat} (ha : Lim a) (hl : a.length = b.length) (hi : i < a.length) (he : natOf (a.drop (i + 1)) = natOf (b.drop (i + 1))) (h : a.getD i 0 < b.getD i 0) : natOf a < natOf b := by
 rw [cT a (k := i) (by omega), cT b (k := i) (by omega), cJ (ls := a) hi, cJ (ls := b) (k := i) (by omega), he]
 have h1 := bL (ha.take i)
 simp only [List.length_take, Nat.min_eq_left (Nat.le_of_lt hi)] at h1
 have h2 : 4294967296 ^ i * (a.getD i 0 + 1) ≤ 4294967296 ^ i * b.getD i 0 := Nat.mul_le_mul_left _ h
 rw [Nat.mul_add, Nat.mul_add]
 rw [Nat.mul_add] at h2
 omega
theorem dD {la lb : List Nat} {a b : Option Addr} {c d : Nat} {w : World} (ha : Limbs w a c la) (hb : Limbs w b d lb) (ca : Canon la) (cb : Canon lb) :
  CallsR Try.prog 93 #[.slice a la.length c, .slice b lb.length d] w fun v w' => v = .int .i64 (cmpZ (natOf la) (natOf lb)) ∧ Ex w w' := by
 have hla := ha.len
 refine aG (args := [_, _]) Try.func93 rfl rfl ?_
 repeat' (first|refine ai rfl ?_|refine aa ?_|refine aj ?_|refine ah rfl ?_|refine ae ?_|refine aY rfl ?_|refine cM rfl rfl (by omega) (by omega) ?_|refine aM rfl (fun hc => ?_) (fun hc => ?_)|refine aB ?_|refine aJ ?_|refine aK ?_|refine aX ?_|refine b6 ?_|refine aF ?_)
 ·refine bB rfl (rt rfl) ⟨?_, Ex.refl _⟩
  rw [cmpZ, if_pos (ez ha.lim cb (by omega))]; rfl
 ·refine bB rfl (rt rfl) ⟨?_, Ex.refl _⟩
  have := ez hb.lim ca (by omega)
  rw [cmpZ, if_neg (by omega), if_pos this]; rfl
 ·have hl : la.length = lb.length := by omega
  refine aW (ι := Nat) [4, 5, 21, 22, 23, 24, 25, 26, 27, 28, 29, 30, 31, 32, 33, 34, 35, 36, 37, 38, 39, 40, 41, 42, 43, 44] (fun k => [(5, .int .i64 ((k : Int) - 1))]) (fun k w' => k ≤ la.length ∧ Ex w w' ∧ natOf (la.drop k) = natOf (lb.drop k)) (fun k => k) la.length ⟨rfl, trivial⟩
   ⟨Nat.le_refl _, Ex.refl _, by rw [List.drop_length, hl, List.drop_length]⟩ ?_
  rintro k ξ w2 ⟨hk, hE, hT⟩
  repeat' (first|refine ai rfl ?_|refine aa ?_|refine aj ?_|refine ah rfl ?_|refine ae ?_|refine aM rfl (fun hc => ?_) (fun hc => ?_)|refine aB ?_|refine aS ?_|refine aL ?_|refine aT ?_|refine aK ?_|refine aF ?_)
  ·obtain ⟨j, rfl⟩ : ∃ j, k = j + 1 := ⟨k - 1, by omega⟩
   rw [show ((j + 1 : Nat) : Int) - 1 = (j : Int) by omega]
   refine bn (late := []) (plan := [(0, none), (1, none), (2, none), (3, none), (4, none), (5, none), (6, none), (7, none), (8, none), (9, none)]) (fun w' => Ex w w') bC (by kernel_rfl) hE.drew ?_
   repeat' (first|(refine aD (j := j) rfl rfl (ha.sl.plain (by simp; omega)) (by omega) ?_)|(refine aD (j := j) rfl rfl (hb.sl.plain (by simp; omega)) (by omega) ?_)|refine bE rfl (fun _ h => ha.sl.ext h) (by omega) ?_|refine bE rfl (fun _ h => hb.sl.ext h) (by omega) ?_|refine ai rfl ?_|refine aa ?_|refine aj ?_|refine ah rfl ?_|refine ae ?_|refine aM rfl (fun hc => ?_) (fun hc => ?_)|refine aK ?_|refine aX ?_|refine b6 ?_)
   ·refine bB rfl (rt rfl) ⟨?_, hE.drew⟩
    rw [cmpZ, if_pos (eY (i := j) ha.lim hl (by omega) hT (by omega))]; rfl
   ·refine bn (late := []) (plan := [(0, none), (1, none), (2, none), (3, none), (4, none), (5, none), (6, none), (7, none), (8, none), (9, none)]) (fun w' => Ex w w') bC (by kernel_rfl) hE.drew.drew ?_
    repeat' (first|(refine aD (j := j) rfl rfl (ha.sl.plain (by simp; omega)) (by omega) ?_)|(refine aD (j := j) rfl rfl (hb.sl.plain (by simp; omega)) (by omega) ?_)|refine bE rfl (fun _ h => ha.sl.ext h) (by omega) ?_|refine bE rfl (fun _ h => hb.sl.ext h) (by omega) ?_|refine ai rfl ?_|refine aa ?_|refine aj ?_|refine ah rfl ?_|refine ae ?_|refine cM rfl rfl (by omega) (by omega) ?_|refine aM rfl (fun hc => ?_) (fun hc => ?_)|refine aJ ?_|refine aK ?_|refine aX ?_|refine b6 ?_|refine aF ?_)
    ·refine bB rfl (rt rfl) ⟨?_, hE.drew.drew⟩
     have := eY (i := j) hb.lim hl.symm (by omega) hT.symm (by omega)
     rw [cmpZ, if_neg (by omega), if_pos this]; rfl
    ·refine ⟨⟨j, ⟨by omega, hE.drew.drew, ?_⟩, by omega, rfl, trivial⟩, (by (repeat (first|exact aH _ _ _|refine ax rfl ?_|refine av rfl ?_|refine ak rfl ?_|refine ao rfl ?_)))⟩
     rw [cJ (ls := la) (k := j) (by omega), cJ (ls := lb) (k := j) (by omega), hT, show la.getD j 0 = lb.getD j 0 by omega]
  ·obtain rfl : k = 0 := by omega
   simp only [List.drop_zero] at hT
   refine bB rfl (rt rfl) ⟨?_, hE⟩
   rw [cmpZ, if_neg (by omega), if_neg (by omega)]; rfl
theorem il {la lb : List Nat} {a b : Option Addr} {c d : Nat} {w : World} (ha : Limbs w a c la) (hb : Limbs w b d lb) (ca : Canon la) (cb : Canon lb) (h2 : la.length ≤ 2) (hpos : 0 < natOf lb) (hge : natOf lb ≤ natOf la) :
  CallsR Try.prog 72 #[.slice a la.length c, .slice b lb.length d] w fun v w' => ∃ a1 c1 a2 c2, v = .tuple #[.slice a1 (digs (natOf la / natOf lb)).length c1, .slice a2 (digs (natOf la % natOf lb)).length c2] ∧
   Limbs w' a1 c1 (digs (natOf la / natOf lb)) ∧ Limbs w' a2 c2 (digs (natOf la % natOf lb)) ∧ (∀ ad, a1 = some ad → w.heap.size ≤ ad.block) ∧ (∀ ad, a2 = some ad → w.heap.size ≤ ad.block) ∧ Ex w w' := by
 have hlb : lb.length ≤ la.length := by
  rcases Nat.lt_or_ge la.length lb.length with h | h
  ·have := ez ha.lim cb h; omega
  ·exact h
 have hlt := bL ha.lim
 have h64 : natOf la < 18446744073709551616 := by
  have := dP (a := la.length) (b := 2) h2
  omega
 refine aG (args := [_, _]) Try.func72 rfl rfl ?_
 repeat' (first|refine ai rfl ?_|refine aa ?_|refine aj ?_|refine ah rfl ?_|refine ae ?_|refine aB ?_)
 refine aw (dD ha hb ca cb) rfl ?_
 rintro v w1 ⟨rfl, hE1⟩
 refine ⟨fun _ _ => trivial, ?_⟩
 have hcz : 0 ≤ cmpZ (natOf la) (natOf lb) := by unfold cmpZ; rw [if_neg (by omega)]; split <;> omega
 repeat' (first|refine ai rfl ?_|refine aa ?_|refine aj ?_|refine ah rfl ?_|refine ae ?_|refine aY rfl ?_|refine cM rfl rfl (by omega) (by omega) ?_|refine aM rfl (fun hc => ?_) (fun hc => ?_)|refine aJ ?_|refine aF ?_)
 all_goals try (exfalso; omega)
 ·refine aw (fy (ha.ext hE1) h2) rfl ?_
  rintro v w2 ⟨rfl, hE2⟩
  refine ⟨fun _ _ => trivial, ?_⟩
  repeat' (first|refine ai rfl ?_)
  refine aw (fy ((hb.ext hE1).ext hE2) (by omega)) rfl ?_
  rintro v w3 ⟨rfl, hE3⟩
  refine ⟨fun _ _ => trivial, ?_⟩
  repeat' (first|refine ai rfl ?_|refine aa ?_|refine aj ?_|refine ae ?_)
  have hE := ((hE1.trans hE2).trans hE3)
  refine bn (late := [3, 7]) (plan := [(0, none), (1, none), (2, none), (4, none), (5, none), (6, none), (3, some false), (7, some false), (8, none), (9, none)]) (fun w' => Ex w w') bC (by kernel_rfl) hE.drew ?_
  repeat' (first|refine nm rfl rfl (by omega) (by omega) (by omega) ?_|refine ib rfl rfl (by omega) (by omega) ?_|refine ai rfl ?_)
  refine aw (cZ (n := natOf la / natOf lb) (Nat.lt_of_le_of_lt (Nat.div_le_self _ _) h64) _) rfl ?_
  rintro v w4 ⟨a1, c1, rfl, hL1, hf1, hE4⟩
  refine ⟨fun _ h => h.trans hE4, ?_⟩
  refine aw (cZ (n := natOf la % natOf lb) (Nat.lt_of_le_of_lt (Nat.mod_le _ _) h64) _) rfl ?_
  rintro v w5 ⟨a2, c2, rfl, hL2, hf2, hE5⟩
  refine ⟨fun _ h => h.trans hE5, ?_⟩
  repeat' (first|refine ai rfl ?_|refine aa ?_|refine ae ?_|refine aK ?_|refine aX ?_|refine b6 ?_)
  have s1 := hE.size
  have s2 : w3.drew.heap.size = w3.heap.size := rfl
  have s3 := hE4.size
  exact cR rfl (rt rfl) (rt rfl) ⟨a1, c1, a2, c2, rfl, hL1.ext hE5, hL2, fun ad e => by have := hf1 ad e; omega, fun ad e => by have := hf2 ad e; omega, (hE.drew.trans hE4).trans hE5⟩
theorem im {la lb : List Nat} {a b : Option Addr} {c d : Nat} {w : World} (ha : Limbs w a c la) (hb : Limbs w b d lb) (h2 : la.length ≤ 1) (h3 : lb.length ≤ 1) :
  CallsR Try.prog 77 #[.slice a la.length c, .slice b lb.length d] w (RetN w (digs (natOf la * natOf lb))) := by
 have h64a : natOf la < 4294967296 := by
  have := bL ha.lim
  have := dP (a := la.length) (b := 1) h2
  omega
 have h64b : natOf lb < 4294967296 := by
  have := bL hb.lim
  have := dP (a := lb.length) (b := 1) h3
  omega
 have hm : natOf la * natOf lb < 18446744073709551616 := by
  have : natOf la * natOf lb ≤ 4294967295 * 4294967295 := Nat.mul_le_mul (by omega) (by omega)
  omega
 refine aG (args := [_, _]) Try.func77 rfl rfl ?_
 repeat' (first|refine ai rfl ?_|refine aa ?_|refine aj ?_|refine ah rfl ?_|refine ae ?_|refine aY rfl ?_|refine bG rfl rfl ?_|refine bP rfl rfl ?_|refine em rfl rfl (fun hc => ?_) (fun hc => ?_)|refine bi rfl rfl (by omega) (by omega) ?_|refine ay rfl ?_|refine aM rfl (fun hc => ?_) (fun hc => ?_)|refine aF ?_)
 all_goals try (exfalso; omega)
 refine aw (fy ha (by omega)) rfl ?_
 rintro v w2 ⟨rfl, hE2⟩
 refine ⟨fun _ _ => trivial, ?_⟩
 repeat' (first|refine ai rfl ?_)
 refine aw (fy (hb.ext hE2) (by omega)) rfl ?_
 rintro v w3 ⟨rfl, hE3⟩
 refine ⟨fun _ _ => trivial, ?_⟩
 refine om rfl rfl ?_
 rw [← Int.natCast_mul, dh (by omega) (by omega)]
 refine aw (cZ hm _) rfl ?_
 rintro v w5 ⟨a5, c5, rfl, hL5, hf5, hE5⟩
 refine ⟨fun _ _ => trivial, ?_⟩
 repeat' (first|refine ai rfl ?_|refine aa ?_|refine ae ?_|refine aK ?_|refine aX ?_)
 have hE := hE2.trans hE3
 have s1 := hE.size
 exact bB rfl (rt rfl) ⟨a5, c5, rfl, hL5, fun ad e => by have := hf5 ad e; omega, hE.trans hE5⟩
end Go.Proofs.Ytiejljicpinheaa
namespace Go.Proofs.Ytiejljicpinheaa
open Go.W Go.LM
theorem cH {ls : List Nat} (hc : Canon ls) {k : Nat} (h : natOf ls < 4294967296 ^ k) : ls.length ≤ k := by
 by_cases hne : ls = []
 ·subst hne; simp
 ·have h1 := ik hc hne
  rcases Nat.lt_or_ge k ls.length with h2 | h2
  ·have := dP (show k ≤ ls.length - 1 by omega); omega
  ·exact h2
theorem dU (neg : Bool) (n : Nat) : (sgn neg n).natAbs = n := by unfold sgn; split <;> simp
end Go.Proofs.Ytiejljicpinheaa
namespace Go.W
structure Joined {ι : Type} (M : List Nat) (vals : ι → List (Nat × Value)) (J : ι → World → Prop) (ρ0 : Env) (ρ : Env) (w : World) : Prop where
 next : ∃ s, J s w ∧ Has ρ (vals s)
 agree : Agree M ρ ρ0
theorem cD {ι : Type} {P : Program} {n : Nat} {Q : Exit → Env → World → Prop} {next : Env → World → Prop} {ρ : Env} {w : World} {x : Code} (M : List Nat) (vals : ι → List (Nat × Value)) (J : ι → World → Prop)
  (h1 : CW P n x (thenE (Joined M vals J ρ) Q) ρ w) (h2 : ∀ s ξ w', J s w' → next (over (vals s) (mask M ρ ξ)) w') : CW P n x (thenE next Q) ρ w := by
 refine h1.mono fun e ρ' w' q => ?_
 cases e <;> unfold thenE at q ⊢
 case normal =>
  obtain ⟨⟨s, hJ, hH⟩, hA⟩ := q
  have := h2 s ρ' w' hJ
  rwa [jE hA, jD hH] at this
 all_goals exact q
section
variable {P : Program} {S : World → Prop} {ops : List Oper} {K : Env → World → Prop} {rest : List (Oper × Option Bool)} {ρ : Env} {w : World} {b : Option Bool} {kf : Bool} {d : Nat} {dst : Option Nat} {T T' : TypeId} {pos : String} {af : Array Edge}
theorem iP {x lo hi : Operand} {g o len cap E s y l h : Nat} {k k' : IntKind} [hT : Slc P T' E s y] (hx : ev ρ x = .slice (some ⟨g, o, none⟩) len cap) (hlo : ev ρ lo = .int k (l : Int)) (hhi : ev ρ hi = .int k' (h : Int))
  (h1 : l ≤ h) (h2 : h ≤ cap) (h3 : l < cap) (hh : RR P S ops K rest (upd ρ d (.slice (some ⟨g, o + l * s, none⟩) (h - l) (cap - l))) w) :
  RR P S ops K ((⟨some d, .slice T' x (some lo) (some hi) none, T, pos, af, none⟩, b) :: rest) ρ w := by
 refine bY rfl (fun w' => ?_) hh
 obtain ⟨i0, hi0, hz⟩ := Option.map_eq_some_iff.1 hT.sz
 simp only [Prod.mk.injEq] at hz
 have e : ∀ n, (⟨g, o, none⟩ : Addr).add n = ⟨g, o + n, none⟩ := fun n => by unfold Addr.add; split <;> simp_all
 have h3' : ¬ cap = l := by omega
 simp [execOp, Instr.sliceAt, Instr.slice, Instr.sliceBounds, Instr.sliceBound, hx, hlo, hhi, asIntOf, underlying, hT.un, sizeOf, typeInfo, hi0, hz.1, h1, h2, h3', e]
theorem kD {x y : Operand} {T1 : TypeId} {g o j Tb : Nat} {k : IntKind} {u : Nat} {xs : List Nat} [hT : Scal P T1] (hx : ev ρ x = .pointer (some (elt (some ⟨g, o, none⟩) j))) (hy : ev ρ y = .int k (u : Int))
  (hb : Blk w g Tb (xs.map fun (n : Nat) => Value.int k n)) (ho : o + j < xs.length) (h : ∀ w', Chg g w w' → Blk w' g Tb ((xs.set (o + j) u).map fun (n : Nat) => Value.int k n) → (kf = true → S w → S w') ∧ RR P S ops K rest ρ w') :
  RR P S ops K ((⟨none, .store T1 x y, T, pos, af, none⟩, some kf) :: rest) ρ w :=
 lh (o := o + j) (by rw [hx]; rfl) hy rfl hb (by simpa using ho) (by rw [List.map_set] at h; exact h)
theorem mA {x : Operand} {T1 : TypeId} {g o j Tb : Nat} {k : IntKind} {xs : List Nat} [Scal P T1] (hx : ev ρ x = .pointer (some (elt (some ⟨g, o, none⟩) j))) (hs : Rd b S w fun w' => Blk w' g Tb (xs.map fun (n : Nat) => Value.int k n))
  (hj : o + j < xs.length) (h : RR P S ops K rest (upd ρ d (.int k ((xs.getD (o + j) 0 : Nat) : Int))) w) : RR P S ops K ((⟨some d, .load T1 x, T, pos, af, none⟩, b) :: rest) ρ w :=
 fI hx (hs.imp fun w' hs => by
  have := hs.cell (j := o + j) (by simpa using hj)
  simp only [elt]
  rw [this]
  simp [List.getD_eq_getElem?_getD, hj]) h
theorem fk {x y : Operand} {m m' : Nat} {T'' : TypeId} (hx : ev ρ x = .int .u64 (m : Int)) (hy : ev ρ y = .int .u64 (m' : Int)) (h2 : m + m' < 18446744073709551616)
  (h : RR P S ops K rest (upd ρ d (.int .u64 ((m + m' : Nat) : Int))) w) : RR P S ops K ((⟨some d, .binOp .add T' x y T'', T, pos, af, none⟩, b) :: rest) ρ w :=
 sy hx hy (by omega) (by omega) (by rw [← Int.natCast_add]; exact h)
theorem jO {x y : Operand} {m m' : Nat} {T'' : TypeId} (hx : ev ρ x = .int .u64 (m : Int)) (hy : ev ρ y = .int .u64 (m' : Int)) (h2 : m * m' < 18446744073709551616)
  (h : RR P S ops K rest (upd ρ d (.int .u64 ((m * m' : Nat) : Int))) w) : RR P S ops K ((⟨some d, .binOp .mul T' x y T'', T, pos, af, none⟩, b) :: rest) ρ w :=
 om hx hy (by rw [← Int.natCast_mul, dh (by omega) (by omega)]; exact h)
theorem gf {x : Operand} {m : Nat} {T1 T2 : TypeId} [h1 : IntT P T1 .u32] [h2 : IntT P T2 .u64] (hx : ev ρ x = .int .u32 (m : Int)) (hm : m < 4294967296) (h : RR P S ops K rest (upd ρ d (.int .u64 (m : Int))) w) :
  RR P S ops K ((⟨some d, .convert T1 T2 x, T, pos, af, none⟩, b) :: rest) ρ w :=
 du hx (dh (by omega) (by omega)) h
theorem dm {x : Operand} {m : Nat} {T1 T2 : TypeId} [h1 : IntT P T1 .u64] [h2 : IntT P T2 .u32] (hx : ev ρ x = .int .u64 (m : Int)) (h : RR P S ops K rest (upd ρ d (.int .u32 ((m % 4294967296 : Nat) : Int))) w) :
  RR P S ops K ((⟨some d, .convert T1 T2 x, T, pos, af, none⟩, b) :: rest) ρ w :=
 gT hx (by
  rw [show IntKind.u32.wrap ((m : Nat) : Int) = ((m % 4294967296 : Nat) : Int) from (cE rfl).trans (by simp [IntKind.bits])]
  exact h)
theorem dQ {x y : Operand} {k' : IntKind} {m : Nat} {T'' : TypeId} (hx : ev ρ x = .int .u64 (m : Int)) (hy : ev ρ y = .int k' 32)
  (h : RR P S ops K rest (upd ρ d (.int .u64 ((m / 4294967296 : Nat) : Int))) w) : RR P S ops K ((⟨some d, .binOp .shr T' x y T'', T, pos, af, none⟩, b) :: rest) ρ w :=
 fH (j := 32) hx hy (.inl rfl) (by rw [Nat.shiftRight_eq_div_pow]; exact h)
theorem fm {x y : Operand} {m m' : Nat} {T'' : TypeId} (hx : ev ρ x = .int .i64 (m : Int)) (hy : ev ρ y = .int .i64 (m' : Int)) (h2 : m + m' ≤ 9223372036854775807)
  (h : RR P S ops K rest (upd ρ d (.int .i64 ((m + m' : Nat) : Int))) w) : RR P S ops K ((⟨some d, .binOp .add T' x y T'', T, pos, af, none⟩, b) :: rest) ρ w :=
 bi hx hy (by omega) (by omega) (by rw [← Int.natCast_add]; exact h)
end
end Go.W
namespace Go.W
section
variable {P : Program} {S : World → Prop} {ops : List Oper} {K : Env → World → Prop} {rest : List (Oper × Option Bool)} {ρ : Env} {w : World} {b : Option Bool} {kf : Bool} {d : Nat} {dst : Option Nat} {T T' : TypeId} {pos : String} {af : Array Edge}
theorem kE {T1 E s y n cap c : Nat} {x1 x2 : Operand} {a ad : Option Addr} [hT : Slc P T1 E s y] (h1 : ev ρ x1 = .slice a n cap) (h2 : ev ρ x2 = .slice ad 0 c) (hn : n ≤ cap)
  (h : RR P S ops K rest (upd ρ d (.slice a n cap)) w) :
  RR P S ops K ((⟨some d, .call ⟨.builtin .append, #[x1, x2], #[T1, T1]⟩, T, pos, af, none⟩, some kf) :: rest) ρ w := by
 refine df rfl ?_
 unfold OpW
 obtain ⟨i0, hi0, hzz⟩ := Option.map_eq_some_iff.1 hT.sz
 have : (execOp (ev ρ) ⟨some d, .call ⟨.builtin .append, #[x1, x2], #[T1, T1]⟩, T, pos, af, none⟩).run P w = .ok (.value (.slice a n cap)) w := by
  simp [execOp, resolve, invoke, builtin, h1, h2, Builtin.append_, run_underlying hT.un, sizeOf, typeInfo, hi0, Builtin.lenOf, Builtin.firstCells, loadCells, loadCellsFrom]
  cases ad <;> cases a <;> simp [hn, storeCells]
 rw [this]
 exact ⟨fun _ h => h, h⟩
theorem sJ {T1 E y m c : Nat} {x1 x2 : Operand} {ad : Option Addr} {news : List Value} {z : Value} [hT : Slc P T1 E 1 y] [hz : Zro P E z] (h1 : ev ρ x1 = .slice none 0 0) (h2 : ev ρ x2 = .slice ad m c)
  (hzs : (Nat.beq z.cells.size 1) = true) (hnews : Sl w ad news) (hl : news.length = m) (ho : news.all Value.oneCell' = true) (hm : m ≤ 9223372036854775807) (hb : m * y ≤ 140737488355328)
  (h : ∀ a' cap' w', Own w' w.heap.size E 1 a' m cap' news → Ex w w' → (kf = true → S w → S w') ∧ RR P S ops K rest (upd ρ d (.slice a' m cap')) w') :
  RR P S ops K ((⟨some d, .call ⟨.builtin .append, #[x1, x2], #[T1, T1]⟩, T, pos, af, none⟩, some kf) :: rest) ρ w := by
 by_cases h0 : m = 0
 ·subst h0
  have hn : news = [] := List.eq_nil_of_length_eq_zero hl
  subst hn
  exact kE h1 h2 (Nat.le_refl _) (h none 0 w (Own.nil _ _ _ _) (Ex.refl _)).2
 ·refine f8 (z := z) (s := 1) (c := c) (hzs := Nat.eq_of_beq_eq_true hzs) (hs := rfl) (news := news) (vs := []) (lo := w.heap.size) (h1 := h1) (h2 := h2) (hown := Own.nil _ _ _ _) (hnews := hnews) (hp := hnews.plain (by omega)) (hl := by simp [hl]) (ho := ho) (hm := by omega) (hb := by simpa using hb) (hlo := Nat.le_refl _) ?_
  intro a' cap' w' ho' hg hA
  rw [Nat.zero_add] at ho' ⊢
  exact h a' cap' w' (by simpa using ho') (ic hg (Ex.refl _) (by simp))
end
end Go.W
namespace Go.W
end Go.W
namespace Go.W
section
variable {P : Program} {S : World → Prop} {ops : List Oper} {K : Env → World → Prop} {rest : List (Oper × Option Bool)} {ρ : Env} {w : World} {b : Option Bool} {kf : Bool} {d : Nat} {dst : Option Nat} {T T' : TypeId} {pos : String} {af : Array Edge}
theorem qk {x y : Operand} {k : IntKind} {m : Int} {T'' : TypeId} (hx : ev ρ x = .int k m) (hy : ev ρ y = .int k m) (h : RR P S ops K rest (upd ρ d (.bool true)) w) : RR P S ops K ((⟨some d, .binOp .eql T' x y T'', T, pos, af, none⟩, b) :: rest) ρ w :=
 pO hx hy (by rw [decide_eq_true rfl]; exact h)
end
theorem sg {n : Int} (h : (Lit.int .u8 n).wf = true) : 0 ≤ n ∧ n ≤ 255 := by simpa [Lit.wf, IntKind.min, IntKind.max, IntKind.signed, IntKind.bits] using h
theorem si {n : Int} (h : (Lit.int .i8 n).wf = true) : -128 ≤ n ∧ n ≤ 127 := by simpa [Lit.wf, IntKind.min, IntKind.max, IntKind.signed, IntKind.bits] using h
end Go.W
namespace Go.LM
abbrev B : Nat := 4294967296
theorem cA : ∀ {l : List Nat} {k v : Nat}, k < l.length → natOf (l.set k v) + l.getD k 0 * 4294967296 ^ k = natOf l + v * 4294967296 ^ k
 | [], k, v, h => by simp at h
 | d :: l, 0, v, _ => by simp [natOf]; omega
 | d :: l, k + 1, v, h => by
  have ih := cA (l := l) (k := k) (v := v) (by simpa using h)
  simp only [List.set_cons_succ, natOf, List.getD_cons_succ, Nat.pow_succ]
  have e1 : l.getD k 0 * (4294967296 ^ k * 4294967296) = 4294967296 * (l.getD k 0 * 4294967296 ^ k) := by rw [← Nat.mul_assoc, Nat.mul_comm]
  have e2 : v * (4294967296 ^ k * 4294967296) = 4294967296 * (v * 4294967296 ^ k) := by rw [← Nat.mul_assoc, Nat.mul_comm]
  rw [e1, e2]
  omega
theorem Lim.set {l : List Nat} (h : Lim l) {k v : Nat} (hv : v < 4294967296) : Lim (l.set k v) := fun d hd => by
 rcases List.mem_or_eq_of_mem_set hd with h' | h'
 ·exact h d h'
 ·omega
theorem Lim.zeros (n : Nat) : Lim (List.replicate n 0) := fun d hd => by rw [List.eq_of_mem_replicate hd]; decide
theorem bZ {l : List Nat} {k j v : Nat} (h : k ≠ j) : (l.set k v).getD j 0 = l.getD j 0 := by simp [List.getD_eq_getElem?_getD, List.getElem?_set_ne h]
theorem jb {l : List Nat} {k v : Nat} (h : k < l.length) : (l.set k v).getD k 0 = v := by simp [List.getD_eq_getElem?_getD, h]
theorem cP {l : List Nat} {k : Nat} (h : k < l.length) : l.take (k + 1) = l.take k ++ [l.getD k 0] := by
 rw [List.take_succ_eq_append_getElem h, List.getD_eq_getElem?_getD, List.getElem?_eq_getElem h]; rfl
theorem bM {l : List Nat} {k : Nat} (h : k < l.length) : natOf (l.take (k + 1)) = natOf (l.take k) + l.getD k 0 * 4294967296 ^ k := by
 rw [cP h, cU]
 simp only [List.length_take, Nat.min_eq_left (Nat.le_of_lt h)]
 rw [Nat.mul_comm]
theorem iQ {x y c r : Nat} (hx : x < 4294967296) (hy : y < 4294967296) (hc : c < 4294967296) (hr : r < 4294967296) : c + (x * y + r) < 18446744073709551616 := by
 have : x * y ≤ 4294967295 * 4294967295 := Nat.mul_le_mul (by omega) (by omega)
 omega
theorem jP {P : List Nat} {k c x y N : Nat} (hk : k < P.length) (h : natOf P + c * 4294967296 ^ k = N) :
  natOf (P.set k ((c + (x * y + P.getD k 0)) % 4294967296)) + (c + (x * y + P.getD k 0)) / 4294967296 * 4294967296 ^ (k + 1) = N + x * y * 4294967296 ^ k := by
 have h1 := cA (l := P) (v := (c + (x * y + P.getD k 0)) % 4294967296) hk
 generalize x * y = m at *
 generalize P.getD k 0 = r at *
 have h2 : (c + (m + r)) % 4294967296 * 4294967296 ^ k + (c + (m + r)) / 4294967296 * 4294967296 ^ (k + 1) = c * 4294967296 ^ k + m * 4294967296 ^ k + r * 4294967296 ^ k := by
  rw [Nat.pow_succ, Nat.mul_comm (4294967296 ^ k) 4294967296, ← Nat.mul_assoc, ← Nat.add_mul, ← Nat.add_mul, ← Nat.add_mul]
  congr 1
  omega
 omega
end Go.LM
