/- Determinants of integer matrices in plain Lean: alternating functions, products, triangular matrices. No program in sight. -/
import Derived.Test.YtppipmkpmmdcjaaGreatA06
namespace Go.LA
abbrev Mat := Nat → Nat → Int
abbrev Vec := Nat → Int
def sm : Nat → (Nat → Int) → Int
 | 0, _ => 0
 | n + 1, f => sm n f + f n
theorem eC (f : Nat → Int) : sm 0 f = 0 := rfl
theorem bJ (n : Nat) (f : Nat → Int) : sm (n + 1) f = sm n f + f n := rfl
theorem aX {n : Nat} {f g : Nat → Int} (h : ∀ i, i < n → f i = g i) : sm n f = sm n g := by
 induction n with
 | zero => rfl
 | succ n ih => rw [bJ, bJ, ih (fun i hi => h i (by omega)), h n (by omega)]
theorem dH (n : Nat) (f g : Nat → Int) : sm n (fun i => f i + g i) = sm n f + sm n g := by
 induction n with
 | zero => rfl
 | succ n ih => rw [bJ, bJ, bJ, ih]; omega
theorem cj (n : Nat) (a : Int) (f : Nat → Int) : sm n (fun i => a * f i) = a * sm n f := by
 induction n with
 | zero => simp [sm]
 | succ n ih => rw [bJ, bJ, ih, Int.mul_add]
theorem fw (n : Nat) (a : Int) (f : Nat → Int) : sm n (fun i => f i * a) = sm n f * a := by
 induction n with
 | zero => simp [sm]
 | succ n ih => rw [bJ, bJ, ih, Int.add_mul]
theorem mX (n : Nat) (f : Nat → Int) : sm n (fun i => - f i) = - sm n f := by
 induction n with
 | zero => rfl
 | succ n ih => rw [bJ, bJ, ih]; omega
theorem gU (n : Nat) (f g : Nat → Int) : sm n (fun i => f i - g i) = sm n f - sm n g := by
 induction n with
 | zero => rfl
 | succ n ih => rw [bJ, bJ, bJ, ih]; omega
theorem eQ {n : Nat} {f : Nat → Int} (h : ∀ i, i < n → f i = 0) : sm n f = 0 := by
 induction n with
 | zero => rfl
 | succ n ih => rw [bJ, ih (fun i hi => h i (by omega)), h n (by omega)]; rfl
theorem bV {n k : Nat} {f : Nat → Int} (hk : k < n) (h : ∀ i, i < n → i ≠ k → f i = 0) : sm n f = f k := by
 induction n with
 | zero => omega
 | succ n ih =>
  rw [bJ]
  by_cases e : k = n
  ·subst e; rw [eQ (fun i hi => h i (by omega) (by omega))]; omega
  ·rw [ih (by omega) (fun i hi => h i (by omega)), h n (by omega) (by omega)]; omega
theorem n5 (n : Nat) (f : Nat → Int) : sm (n + 1) f = f 0 + sm n (fun i => f (i + 1)) := by
 induction n with
 | zero => simp [sm]
 | succ n ih => rw [bJ, ih, bJ]; omega
theorem f9 (n m : Nat) (f : Nat → Nat → Int) : sm n (fun i => sm m (fun j => f i j)) = sm m (fun j => sm n (fun i => f i j)) := by
 induction n with
 | zero => simp only [eC]; rw [eQ (fun _ _ => rfl)]
 | succ n ih => rw [bJ, ih, ← dH]; exact aX fun i _ => by rw [bJ]
theorem fS (n m : Nat) (f : Nat → Int) : sm (n + m) f = sm n f + sm m (fun i => f (n + i)) := by
 induction m with
 | zero => simp [sm]
 | succ m ih => rw [← Nat.add_assoc, bJ, ih, bJ]; omega
def sgn (j : Nat) : Int := if j % 2 = 0 then 1 else -1
theorem dM : sgn 0 = 1 := rfl
theorem d8 (j : Nat) : sgn (j + 1) = - sgn j := by
 unfold sgn
 by_cases h : j % 2 = 0
 ·rw [if_pos h, if_neg (by omega)]
 ·rw [if_neg h, if_pos (by omega)]; rfl
theorem rP (j : Nat) : sgn j * sgn j = 1 := by unfold sgn; split <;> rfl
def sk (i k : Nat) : Nat := if k < i then k else k + 1
theorem rQ (i k : Nat) : sk i k ≠ i := by unfold sk; split <;> omega
theorem n9 {i k n : Nat} (h : k < n) : sk i k < n + 1 := by unfold sk; split <;> omega
theorem pX (k : Nat) : sk 0 k = k + 1 := by unfold sk; simp
theorem tB {j k : Nat} (h : j ≤ k) (c : Nat) : sk j (sk k c) = sk (k + 1) (sk j c) := by
 unfold sk
 by_cases h1 : c < k <;> by_cases h2 : c < j <;> simp only [h1, h2, if_true, if_false] <;> (repeat' split) <;> omega
theorem rR {j k : Nat} (h : j ≤ k) : sk (k + 1) j = j := by unfold sk; rw [if_pos (by omega)]
theorem pY {j k : Nat} (h : j ≤ k) : sk j k = k + 1 := by unfold sk; rw [if_neg (by omega)]
def det : Nat → Mat → Int
 | 0, _ => 1
 | n + 1, M => sm (n + 1) fun j => sgn j * M 0 j * det n (fun r c => M (r + 1) (sk j c))
theorem d9 (M : Mat) : det 0 M = 1 := rfl
theorem bX (n : Nat) (M : Mat) : det (n + 1) M = sm (n + 1) fun j => sgn j * M 0 j * det n (fun r c => M (r + 1) (sk j c)) := rfl
theorem ik (M : Mat) : det 1 M = M 0 0 := by rw [bX, bJ, eC, d9, dM]; omega
theorem bo : ∀ {n : Nat} {M M' : Mat}, (∀ r c, r < n → c < n → M r c = M' r c) → det n M = det n M'
 | 0, _, _, _ => rfl
 | n + 1, M, M', h => by
  rw [bX, bX]
  exact aX fun j hj => by rw [h 0 j (by omega) hj, bo (M' := fun r c => M' (r + 1) (sk j c)) fun r c hr hc => h (r + 1) (sk j c) (by omega) (n9 hc)]
def rw' (M : Mat) (r : Nat) (v : Vec) : Mat := fun i c => if i = r then v c else M i c
theorem cH (M : Mat) (r : Nat) (v : Vec) (c : Nat) : rw' M r v r c = v c := by unfold rw'; rw [if_pos rfl]
theorem dl (M : Mat) {r i : Nat} (v : Vec) (c : Nat) (h : i ≠ r) : rw' M r v i c = M i c := by unfold rw'; rw [if_neg h]
structure Alt (n m : Nat) (f : Mat → Int) : Prop where
 congr : ∀ M M' : Mat, (∀ r c, r < n → c < m → M r c = M' r c) → f M = f M'
 lin : ∀ (M : Mat) (r : Nat) (a b : Int) (u v : Vec), r < n → f (rw' M r fun c => a * u c + b * v c) = a * f (rw' M r u) + b * f (rw' M r v)
 alt : ∀ (M : Mat) (r r' : Nat), r < r' → r' < n → (∀ c, c < m → M r c = M r' c) → f M = 0
theorem Alt.self {n m : Nat} {f : Mat → Int} (h : Alt n m f) (M : Mat) (r : Nat) {v : Vec} (hv : ∀ c, c < m → v c = M r c) : f (rw' M r v) = f M :=
 h.congr _ _ fun i c _ hc => by
  by_cases e : i = r
  ·subst e; rw [cH, hv c hc]
  ·rw [dl _ _ _ e]
theorem Alt.add {n m : Nat} {f : Mat → Int} (h : Alt n m f) (M : Mat) {r : Nat} (hr : r < n) (u v : Vec) : f (rw' M r fun c => u c + v c) = f (rw' M r u) + f (rw' M r v) := by
 have := h.lin M r 1 1 u v hr
 simp only [Int.one_mul] at this
 exact this
theorem Alt.smul {n m : Nat} {f : Mat → Int} (h : Alt n m f) (M : Mat) {r : Nat} (hr : r < n) (a : Int) (u : Vec) : f (rw' M r fun c => a * u c) = a * f (rw' M r u) := by
 have := h.lin M r a 0 u u hr
 simp only [Int.zero_mul, Int.add_zero] at this
 exact this
theorem il (M : Mat) {r r' : Nat} (h : r ≠ r') (u v : Vec) : rw' (rw' M r u) r' v = rw' (rw' M r' v) r u := by
 funext i c
 unfold rw'
 by_cases e : i = r <;> by_cases e' : i = r'
 ·omega
 ·rw [if_neg e', if_pos e, if_pos e]
 ·rw [if_pos e', if_neg e, if_pos e']
 ·rw [if_neg e', if_neg e, if_neg e, if_neg e']
theorem mY (M : Mat) (r : Nat) : rw' M r (M r) = M := by
 funext i c
 unfold rw'
 split
 ·rename_i e; rw [e]
 ·rfl
def swp (M : Mat) (r r' : Nat) : Mat := rw' (rw' M r (M r')) r' (M r)
theorem Alt.eqrows {n m : Nat} {f : Mat → Int} (h : Alt n m f) {M : Mat} {r r' : Nat} (hne : r ≠ r') (hr : r < n) (hr' : r' < n) (he : ∀ c, c < m → M r c = M r' c) : f M = 0 := by
 rcases Nat.lt_or_gt_of_ne hne with hlt | hlt
 ·exact h.alt M r r' hlt hr' he
 ·exact h.alt M r' r hlt hr fun c hc => (he c hc).symm
theorem Alt.two {n m : Nat} {f : Mat → Int} (h : Alt n m f) (M : Mat) {r r' : Nat} (hne : r ≠ r') (hr : r < n) (hr' : r' < n) (u v : Vec) : f (rw' (rw' M r u) r' v) = - f (rw' (rw' M r v) r' u) := by
 have h0 : f (rw' (rw' M r fun c => u c + v c) r' fun c => u c + v c) = 0 := h.eqrows hne hr hr' fun c _ => by rw [cH, dl _ _ _ hne, cH]
 have hz : ∀ x : Vec, f (rw' (rw' M r x) r' x) = 0 := fun x => h.eqrows hne hr hr' fun c _ => by rw [cH, dl _ _ _ hne, cH]
 rw [h.add _ hr', il M hne, h.add _ hr, il M hne, h.add _ hr, ← il M hne, ← il M hne, ← il M hne, ← il M hne, hz u, hz v] at h0
 omega
theorem Alt.swap {n m : Nat} {f : Mat → Int} (h : Alt n m f) (M : Mat) {r r' : Nat} (hne : r ≠ r') (hr : r < n) (hr' : r' < n) : f (swp M r r') = - f M := by
 unfold swp
 rw [h.two M hne hr hr', mY, mY]
theorem Alt.addrow {n m : Nat} {f : Mat → Int} (h : Alt n m f) (M : Mat) {r r' : Nat} (hne : r ≠ r') (hr : r < n) (hr' : r' < n) (a : Int) : f (rw' M r fun c => M r c + a * M r' c) = f M := by
 rw [h.add _ hr, h.smul _ hr, mY, h.eqrows (M := rw' M r (M r')) hne hr hr' fun c _ => by rw [cH, dl _ _ _ (Ne.symm hne)]]
 omega
theorem Alt.sum {n m : Nat} {f : Mat → Int} (h : Alt n m f) (M : Mat) {r : Nat} (hr : r < n) (a : Nat → Int) (u : Nat → Vec) : ∀ k, f (rw' M r fun c => sm k fun j => a j * u j c) = sm k fun j => a j * f (rw' M r (u j))
 | 0 => by
  have := h.smul M hr 0 (fun _ => 0)
  simp only [Int.zero_mul] at this
  simpa [sm] using this
 | k + 1 => by
  simp only [bJ]
  rw [h.add M hr, h.sum M hr a u k, h.smul M hr]
theorem pZ : ∀ (n : Nat) (M : Mat) (r : Nat) (a b : Int) (u v : Vec), r < n → det n (rw' M r fun c => a * u c + b * v c) = a * det n (rw' M r u) + b * det n (rw' M r v)
 | 0, _, _, _, _, _, _, h => by omega
 | n + 1, M, 0, a, b, u, v, _ => by
  rw [bX, bX, bX, ← cj, ← cj, ← dH]
  refine aX fun j _ => ?_
  simp only [cH]
  have e : ∀ x : Vec, (fun r c => rw' M 0 x (r + 1) (sk j c)) = fun r c => M (r + 1) (sk j c) := fun x => by funext r c; rw [dl _ _ _ (by omega)]
  rw [e, e, e]
  grind
 | n + 1, M, r + 1, a, b, u, v, h => by
  rw [bX, bX, bX, ← cj, ← cj, ← dH]
  refine aX fun j _ => ?_
  have e : ∀ x : Vec, (fun i c => rw' M (r + 1) x (i + 1) (sk j c)) = rw' (fun i c => M (i + 1) (sk j c)) r fun c => x (sk j c) := fun x => by
   funext i c
   unfold rw'
   by_cases e : i = r
   ·rw [if_pos e, if_pos (by omega)]
   ·rw [if_neg e, if_neg (by omega)]
  rw [e, e, e, pZ n _ r a b (fun c => u (sk j c)) (fun c => v (sk j c)) (by omega), dl _ _ _ (by omega), dl _ _ _ (by omega), dl _ _ _ (by omega)]
  grind
theorem rS (T : Nat → Nat → Int) : ∀ N, sm (N + 1) (fun j => sm N fun k => T j k) = sm N fun k => sm (k + 1) fun j => T j k + T (k + 1) j
 | 0 => by simp [sm]
 | N + 1 => by
  rw [bJ N, ← rS T N, bJ (N + 1), dH (N + 1) (fun j => T j N) (fun j => T (N + 1) j)]
  have : sm (N + 1) (fun j => sm (N + 1) fun k => T j k) = sm (N + 1) (fun j => sm N fun k => T j k) + sm (N + 1) fun j => T j N := by rw [← dH]; rfl
  rw [this]
  omega
theorem ml (n : Nat) (M : Mat) (h : ∀ c, c < n + 2 → M 0 c = M 1 c) : det (n + 2) M = 0 := by
 have e : det (n + 2) M = sm (n + 2) fun j => sm (n + 1) fun k => sgn j * M 0 j * (sgn k * M 1 (sk j k) * det n fun r c => M (r + 2) (sk j (sk k c))) := by
  rw [bX]
  exact aX fun j _ => by rw [bX, ← cj]
 rw [e, rS]
 refine eQ fun k hk => eQ fun j hj => ?_
 have hj' : j ≤ k := by omega
 rw [rR hj', pY hj', d8, ← h j (by omega), ← h (k + 1) (by omega)]
 have e2 : (fun r c => M (r + 2) (sk j (sk k c))) = fun r c => M (r + 2) (sk (k + 1) (sk j c)) := by funext r c; rw [tB hj']
 rw [e2]
 grind
theorem dg : ∀ n, Alt n n (det n)
 | 0 => ⟨fun _ _ _ => rfl, fun _ _ _ _ _ _ h => by omega, fun _ _ _ _ h => by omega⟩
 | n + 1 => by
  have ih := dg n
  have hge : ∀ (M : Mat) (r r' : Nat), r < r' → r' < n → (∀ c, c < n + 1 → M (r + 1) c = M (r' + 1) c) → det (n + 1) M = 0 := fun M r r' h1 h2 h3 => by
   rw [bX]
   refine eQ fun j _ => ?_
   rw [ih.alt _ r r' h1 h2 fun c hc => h3 _ (n9 hc)]
   omega
  have hsw : ∀ (M : Mat) (r r' : Nat), r ≠ r' → r < n → r' < n → det (n + 1) (swp M (r + 1) (r' + 1)) = - det (n + 1) M := fun M r r' h1 h2 h3 => by
   rw [bX, bX, ← mX]
   refine aX fun j _ => ?_
   have e : (fun i c => swp M (r + 1) (r' + 1) (i + 1) (sk j c)) = swp (fun i c => M (i + 1) (sk j c)) r r' := by
    funext i c
    unfold swp rw'
    by_cases e1 : i = r' <;> by_cases e2 : i = r
    ·simp [e1]
    ·simp [e1]
    ·simp [e2, h1]
    ·simp [e1, e2]
   rw [e, ih.swap _ h1 h2 h3]
   have e0 : swp M (r + 1) (r' + 1) 0 j = M 0 j := by unfold swp rw'; rw [if_neg (by omega), if_neg (by omega)]
   rw [e0]
   grind
  refine ⟨fun M M' h => bo h, pZ (n + 1), fun M r r' h1 h2 h3 => ?_⟩
  cases r with
  | succ r =>
   cases r' with
   | zero => omega
   | succ r' => exact hge M r r' (by omega) (by omega) h3
  | zero =>
   cases r' with
   | zero => omega
   | succ r' =>
    cases n with
    | zero => omega
    | succ n =>
     by_cases e : r' = 0
     ·subst e; exact ml n M h3
     ·have := hsw M 0 r' (by omega) (by omega) (by omega)
      rw [ml n (swp M (0 + 1) (r' + 1)) fun c hc => ?_] at this
      ·omega
      ·show swp M 1 (r' + 1) 0 c = swp M 1 (r' + 1) 1 c
       unfold swp rw'
       rw [if_neg (by omega), if_neg (by omega), if_neg (by omega), if_pos rfl]
       exact h3 c hc
def idM : Mat := fun i j => if i = j then 1 else 0
theorem bE (i : Nat) : idM i i = 1 := if_pos rfl
theorem bN {i j : Nat} (h : i ≠ j) : idM i j = 0 := if_neg h
def emb (j : Nat) (A : Mat) : Mat := fun i c => match i with
 | 0 => idM j c
 | i + 1 => if c = j then 0 else A i (if c < j then c else c - 1)
theorem uP (j : Nat) (A : Mat) (i : Nat) : emb j A (i + 1) j = 0 := if_pos rfl
theorem uQ (j : Nat) (A : Mat) (r : Nat) (v : Vec) : emb j (rw' A r v) = rw' (emb j A) (r + 1) fun c => if c = j then 0 else v (if c < j then c else c - 1) := by
 funext i c
 cases i with
 | zero => rw [dl _ _ _ (by omega)]; rfl
 | succ i =>
  by_cases e : i = r
  ·subst e; rw [cH]; show (if c = j then 0 else rw' A i v i _) = _; rw [cH]
  ·rw [dl _ _ _ (by omega)]; show (if c = j then 0 else rw' A r v i _) = _; rw [dl _ _ _ e]; rfl
theorem tC {n j : Nat} {f : Mat → Int} (hj : j < n + 1) (h : Alt (n + 1) (n + 1) f) : Alt n n fun A => f (emb j A) := by
 have hcol : ∀ c, c < n + 1 → c ≠ j → (if c < j then c else c - 1) < n := fun c hc hne => by split <;> omega
 refine ⟨fun M M' hM => h.congr _ _ fun r c hr hc => ?_, fun M r a b u v hr => ?_, fun M r r' h1 h2 h3 => ?_⟩
 ·cases r with
  | zero => rfl
  | succ r =>
   show (if c = j then 0 else M r _) = if c = j then 0 else M' r _
   by_cases e : c = j
   ·rw [if_pos e, if_pos e]
   ·rw [if_neg e, if_neg e, hM r _ (by omega) (hcol c hc e)]
 ·simp only [uQ]
  rw [← h.lin _ _ a b _ _ (by omega)]
  congr 2
  funext c
  by_cases e : c = j
  ·simp [e]
  ·simp [e]
 ·refine h.alt _ (r + 1) (r' + 1) (by omega) (by omega) fun c hc => ?_
  show (if c = j then 0 else M r _) = if c = j then 0 else M r' _
  by_cases e : c = j
  ·rw [if_pos e, if_pos e]
  ·rw [if_neg e, if_neg e, h3 _ (hcol c hc e)]
theorem rT {n : Nat} {f : Mat → Int} (h : Alt (n + 1) (n + 1) f) : ∀ j, j < n + 1 → f (emb j idM) = sgn j * f idM
 | 0, _ => by
  rw [dM, Int.one_mul]
  refine h.congr _ _ fun r c _ _ => ?_
  cases r with
  | zero => rfl
  | succ r =>
   show (if c = 0 then 0 else idM r _) = _
   by_cases e : c = 0
   ·rw [if_pos e, bN (by omega)]
   ·rw [if_neg e, if_neg (by omega)]
    by_cases e' : r + 1 = c
    ·subst e'; rw [bE]; exact bE _
    ·rw [bN e', bN (by omega)]
 | j + 1, hj => by
  have := h.swap (emb j idM) (r := 0) (r' := j + 1) (by omega) (by omega) hj
  rw [rT h j (by omega)] at this
  rw [d8, Int.neg_mul, ← this]
  refine h.congr _ _ fun r c _ _ => ?_
  unfold swp rw'
  cases r with
  | zero =>
   rw [if_neg (by omega), if_pos rfl]
   show idM (j + 1) c = if c = j then 0 else idM j (if c < j then c else c - 1)
   by_cases e : c = j
   ·rw [if_pos e, bN (by omega)]
   ·rw [if_neg e]
    by_cases e' : j + 1 = c
    ·subst e'; rw [if_neg (by omega), bE]; exact (bE _).symm
    ·rw [bN e', bN (by split <;> omega)]
  | succ r =>
   by_cases e : r = j
   ·subst e
    rw [if_pos rfl]
    show (if c = r + 1 then 0 else idM r (if c < r + 1 then c else c - 1)) = idM r c
    by_cases e1 : c = r + 1
    ·rw [if_pos e1, bN (by omega)]
    ·rw [if_neg e1]
     by_cases e2 : c < r + 1
     ·rw [if_pos e2]
     ·rw [if_neg e2, bN (by omega), bN (by omega)]
   ·rw [if_neg (by omega), if_neg (by omega)]
    show (if c = j + 1 then 0 else idM r (if c < j + 1 then c else c - 1)) = if c = j then 0 else idM r (if c < j then c else c - 1)
    by_cases e1 : c = j
    ·subst e1
     rw [if_neg (by omega), if_pos rfl, if_pos (by omega), bN e]
    ·by_cases e2 : c = j + 1
     ·subst e2
      rw [if_pos rfl, if_neg (by omega), if_neg (by omega), bN (by omega)]
     ·rw [if_neg e1, if_neg e2]
      congr 1
      by_cases e3 : c < j
      ·rw [if_pos e3, if_pos (by omega)]
      ·rw [if_neg e3, if_neg (by omega)]
theorem Alt.unique : ∀ {n : Nat} {f : Mat → Int}, Alt n n f → ∀ M, f M = det n M * f idM
 | 0, f, h, M => by rw [d9, Int.one_mul]; exact h.congr _ _ fun r c hr => by omega
 | n + 1, f, h, M => by
  have h1 : f M = sm (n + 1) fun j => M 0 j * f (rw' M 0 (idM j)) := by
   rw [← h.sum M (by omega)]
   symm
   refine h.self M 0 fun c hc => ?_
   rw [bV hc fun i hi hne => by rw [bN hne]; omega]
   rw [bE, Int.mul_one]
  have h2 : ∀ j, j < n + 1 → f (rw' M 0 (idM j)) = f (emb j fun r c => M (r + 1) (sk j c)) := fun j hj => by
   have key : ∀ k, k ≤ n → f (rw' M 0 (idM j)) = f (fun r c => if r = 0 then idM j c else if r ≤ k ∧ c = j then 0 else M r c) := fun k => by
    induction k with
    | zero =>
     intro _
     refine h.congr _ _ fun r c _ _ => ?_
     unfold rw'
     by_cases e : r = 0
     ·rw [if_pos e, if_pos e]
     ·rw [if_neg e, if_neg e, if_neg (by omega)]
    | succ k ih =>
     intro hk
     rw [ih (by omega), ← h.addrow _ (r := k + 1) (r' := 0) (by omega) (by omega) (by omega) (-(M (k + 1) j))]
     refine h.congr _ _ fun r c _ _ => ?_
     by_cases e : r = k + 1
     ·subst e
      rw [cH]
      simp only [if_neg (show k + 1 ≠ 0 by omega), if_true]
      rw [if_neg (by omega)]
      by_cases e' : c = j
      ·subst e'; rw [bE, if_pos ⟨Nat.le_refl _, rfl⟩]; omega
      ·rw [bN (Ne.symm e'), if_neg (fun h => e' h.2)]; omega
     ·rw [dl _ _ _ e]
      by_cases e0 : r = 0
      ·rw [if_pos e0, if_pos e0]
      ·rw [if_neg e0, if_neg e0]
       by_cases e' : r ≤ k ∧ c = j
       ·rw [if_pos e', if_pos ⟨by omega, e'.2⟩]
       ·rw [if_neg e', if_neg (fun h => e' ⟨by omega, h.2⟩)]
   rw [key n (Nat.le_refl _)]
   refine h.congr _ _ fun r c hr hc => ?_
   cases r with
   | zero => rfl
   | succ r =>
    rw [if_neg (by omega)]
    by_cases e : c = j
    ·subst e; rw [if_pos ⟨by omega, rfl⟩, uP]
    ·rw [if_neg (fun h => e h.2)]
     show _ = if c = j then 0 else M (r + 1) (sk j (if c < j then c else c - 1))
     rw [if_neg e]
     congr 1
     unfold sk
     by_cases e' : c < j
     ·rw [if_pos e', if_pos e']
     ·rw [if_neg e', if_neg (by omega)]; omega
  rw [h1, bX, ← fw]
  refine aX fun j hj => ?_
  rw [h2 j hj, (tC hj h).unique, rT h j hj]
  grind
theorem iH : ∀ n, det n idM = 1
 | 0 => rfl
 | n + 1 => by
  rw [bX, bV (k := 0) (by omega) fun i _ hne => by rw [bN (Ne.symm hne)]; omega]
  rw [dM, bE]
  have : det n (fun r c => idM (r + 1) (sk 0 c)) = det n idM := bo fun r c _ _ => by
   rw [pX]
   by_cases e : r = c
   ·rw [e, bE, bE]
   ·rw [bN e, bN (by omega)]
  rw [this, iH n]; rfl
def mm (n : Nat) (A B : Mat) : Mat := fun i j => sm n fun k => A i k * B k j
theorem wF (n : Nat) (A B : Mat) (r : Nat) (v : Vec) : mm n (rw' A r v) B = rw' (mm n A B) r fun j => sm n fun k => v k * B k j := by
 funext i j
 unfold mm
 by_cases e : i = r
 ·subst e; rw [cH]; exact aX fun k _ => by rw [cH]
 ·rw [dl _ _ _ e]; exact aX fun k _ => by rw [dl _ _ _ e]
theorem mp {n : Nat} (A : Mat) (i j : Nat) (hj : j < n) : mm n A idM i j = A i j := by
 unfold mm
 rw [bV hj fun k _ hne => by rw [bN hne]; omega]
 rw [bE, Int.mul_one]
theorem oa {n : Nat} (A : Mat) (i j : Nat) (hi : i < n) : mm n idM A i j = A i j := by
 unfold mm
 rw [bV hi fun k _ hne => by rw [bN (Ne.symm hne)]; omega]
 rw [bE, Int.one_mul]
theorem cM (n m : Nat) (A B C : Mat) (i j : Nat) : mm m (mm n A B) C i j = mm n A (mm m B C) i j := by
 unfold mm
 have h1 : (sm m fun k => (sm n fun l => A i l * B l k) * C k j) = sm m fun k => sm n fun l => A i l * B l k * C k j := aX fun k _ => by rw [← fw]
 have h2 : (sm n fun l => A i l * sm m fun k => B l k * C k j) = sm n fun l => sm m fun k => A i l * B l k * C k j := aX fun l _ => by rw [← cj]; exact aX fun k _ => by rw [Int.mul_assoc]
 rw [h1, h2, f9]
theorem cC {n : Nat} {A A' B B' : Mat} {i j : Nat} (h : ∀ k, k < n → A i k = A' i k) (h' : ∀ k, k < n → B k j = B' k j) : mm n A B i j = mm n A' B' i j := aX fun k hk => by rw [h k hk, h' k hk]
theorem dr (n : Nat) (A B : Mat) : det n (mm n A B) = det n A * det n B := by
 have hd := dg n
 have h : Alt n n fun A => det n (mm n A B) := by
  refine ⟨fun M M' hM => bo fun r c hr _ => aX fun k hk => by rw [hM r k hr hk], fun M r a b u v hr => ?_, fun M r r' h1 h2 h3 => ?_⟩
  ·simp only [wF]
   rw [← hd.lin _ _ a b _ _ hr]
   congr 2
   funext c
   rw [← cj, ← cj, ← dH]
   exact aX fun k _ => by grind
  ·exact hd.alt _ r r' h1 h2 fun c _ => aX fun k hk => by rw [h3 k hk]
 rw [h.unique A]
 congr 1
 exact bo fun r c hr _ => oa B r c hr
theorem kV : ∀ {n : Nat} {M : Mat}, (∀ r, r < n → M (r + 1) 0 = 0) → det (n + 1) M = M 0 0 * det n fun r c => M (r + 1) (c + 1)
 | 0, M, _ => by rw [ik, d9, Int.mul_one]
 | n + 1, M, h => by
  rw [bX, bV (k := 0) (by omega)]
  ·rw [dM, Int.one_mul]
   congr 1
  ·intro j hj hne
   have e : det (n + 1) (fun r c => M (r + 1) (sk j c)) = 0 := by
    rw [kV (M := fun r c => M (r + 1) (sk j c))]
    ·have : sk j 0 = 0 := by unfold sk; rw [if_pos (by omega)]
     rw [this, h 0 (by omega), Int.zero_mul]
    ·intro r hr
     have : sk j 0 = 0 := by unfold sk; rw [if_pos (by omega)]
     rw [this]; exact h (r + 1) (by omega)
   rw [e]; omega
theorem ob {n : Nat} {M : Mat} (hn : 0 < n) (h : ∀ r, r < n → M r 0 = 0) : det n M = 0 := by
 cases n with
 | zero => omega
 | succ n => rw [kV fun r hr => h (r + 1) (by omega), h 0 (by omega), Int.zero_mul]
theorem oc {n : Nat} {M : Mat} (h : ∀ c, c < n → M 0 (c + 1) = 0) : det (n + 1) M = M 0 0 * det n fun r c => M (r + 1) (c + 1) := by
 rw [bX, bV (k := 0) (by omega)]
 ·rw [dM, Int.one_mul]
  congr 1
 ·intro j hj hne
  obtain ⟨j, rfl⟩ : ∃ k, j = k + 1 := ⟨j - 1, by omega⟩
  rw [h j (by omega)]; omega
def pr : Nat → (Nat → Int) → Int
 | 0, _ => 1
 | n + 1, f => pr n f * f n
theorem kW (n : Nat) (f : Nat → Int) : pr (n + 1) f = f 0 * pr n fun i => f (i + 1) := by
 induction n with
 | zero => simp [pr]
 | succ n ih => rw [pr, ih, pr]; grind
theorem dG : ∀ {n : Nat} {M : Mat}, (∀ r c, c < n → r < c → M r c = 0) → det n M = pr n fun i => M i i
 | 0, _, _ => rfl
 | n + 1, M, h => by
  rw [oc fun c hc => h 0 (c + 1) (by omega) (by omega), dG fun r c hc hr => h (r + 1) (c + 1) (by omega) (by omega), kW]
theorem im : ∀ {n : Nat} {M : Mat}, (∀ r c, r < n → c < r → M r c = 0) → det n M = pr n fun i => M i i
 | 0, _, _ => rfl
 | n + 1, M, h => by
  rw [kV fun r hr => h (r + 1) 0 (by omega) (by omega), im fun r c hr hc => h (r + 1) (c + 1) (by omega) (by omega), kW]
theorem qE {k m : Nat} {M : Mat} (h : ∀ r c, r < k → k ≤ c → c < k + m → M r c = 0) : det (k + m) M = det k M * det m fun r c => M (k + r) (k + c) := by
 have hd := dg (k + m)
 have hf : Alt k k fun A => det (k + m) fun r c => if r < k then (if c < k then A r c else 0) else M r c := by
  have e : ∀ (A : Mat) (r : Nat) (v : Vec), r < k → (fun i c => if i < k then (if c < k then rw' A r v i c else 0) else M i c) = rw' (fun i c => if i < k then (if c < k then A i c else 0) else M i c) r fun c => if c < k then v c else 0 := fun A r v hr => by
   funext i c
   by_cases e : i = r
   ·subst e; rw [cH, if_pos hr, cH]
   ·rw [dl _ _ _ e, dl _ _ _ e]
  refine ⟨fun A A' hA => bo fun r c _ _ => ?_, fun A r a b u v hr => ?_, fun A r r' h1 h2 h3 => ?_⟩
  ·by_cases e1 : r < k
   ·rw [if_pos e1, if_pos e1]
    by_cases e2 : c < k
    ·rw [if_pos e2, if_pos e2, hA r c e1 e2]
    ·rw [if_neg e2, if_neg e2]
   ·rw [if_neg e1, if_neg e1]
  ·simp only [e _ _ _ hr]
   rw [← hd.lin _ _ a b _ _ (by omega)]
   congr 2
   funext c
   by_cases e2 : c < k
   ·simp only [if_pos e2]
   ·simp only [if_neg e2]; omega
  ·refine hd.alt _ r r' h1 (by omega) fun c _ => ?_
   rw [if_pos (by omega), if_pos h2]
   by_cases e2 : c < k
   ·rw [if_pos e2, if_pos e2, h3 c e2]
   ·rw [if_neg e2, if_neg e2]
 have h1 : det (k + m) M = det (k + m) fun r c => if r < k then (if c < k then M r c else 0) else M r c := bo fun r c hr hc => by
  by_cases e1 : r < k
  ·rw [if_pos e1]
   by_cases e2 : c < k
   ·rw [if_pos e2]
   ·rw [if_neg e2, h r c e1 (by omega) hc]
  ·rw [if_neg e1]
 rw [h1, hf.unique M]
 congr 1
 have key : ∀ (k : Nat) (M : Mat), det (k + m) (fun r c => if r < k then (if c < k then idM r c else 0) else M r c) = det m fun r c => M (k + r) (k + c) := by
  intro k
  induction k with
  | zero => intro M; rw [Nat.zero_add]; exact bo fun r c _ _ => by rw [if_neg (by omega), Nat.zero_add, Nat.zero_add]
  | succ k ih =>
   intro M
   rw [show k + 1 + m = (k + m) + 1 by omega, oc fun c hc => by
    rw [if_pos (by omega)]
    by_cases e : c + 1 < k + 1
    ·rw [if_pos e, bN (by omega)]
    ·rw [if_neg e]]
   rw [if_pos (by omega), if_pos (by omega), bE, Int.one_mul]
   have := ih fun r c => M (r + 1) (c + 1)
   rw [show (fun r c => M (k + 1 + r) (k + 1 + c)) = fun r c => M (k + r + 1) (k + c + 1) by funext r c; rw [show k + 1 + r = k + r + 1 by omega, show k + 1 + c = k + c + 1 by omega], ← this]
   refine bo fun r c _ _ => ?_
   by_cases e1 : r < k
   ·rw [if_pos e1, if_pos (by omega)]
    by_cases e2 : c < k
    ·rw [if_pos e2, if_pos (by omega)]
     by_cases e3 : r = c
     ·rw [e3, bE, bE]
     ·rw [bN e3, bN (by omega)]
    ·rw [if_neg e2, if_neg (by omega)]
   ·rw [if_neg e1, if_neg (by omega)]
 exact key k M
end Go.LA
namespace Go.LA
def mnr (M : Mat) (i j : Nat) : Mat := fun r c => M (sk i r) (sk j c)
def topr (M : Mat) (i : Nat) : Mat := fun r c => match r with
 | 0 => M i c
 | r + 1 => M (sk i r) c
theorem od {n : Nat} (M : Mat) : ∀ i, i < n → det n (topr M i) = sgn i * det n M
 | 0, _ => by
  rw [dM, Int.one_mul]
  refine bo fun r c _ _ => ?_
  cases r with
  | zero => rfl
  | succ r => show M (sk 0 r) c = _; rw [pX]
 | i + 1, hi => by
  have := (dg n).swap (topr M i) (r := 0) (r' := i + 1) (by omega) (by omega) hi
  rw [od M i (by omega)] at this
  rw [d8, Int.neg_mul, ← this]
  refine bo fun r c _ _ => ?_
  unfold swp rw'
  cases r with
  | zero =>
   rw [if_neg (by omega), if_pos rfl]
   show M (i + 1) c = M (sk i i) c
   rw [pY (Nat.le_refl _)]
  | succ r =>
   by_cases e : r = i
   ·subst e
    rw [if_pos rfl]
    show M (sk (r + 1) r) c = M r c
    rw [rR (Nat.le_refl _)]
   ·rw [if_neg (by omega), if_neg (by omega)]
    show M (sk (i + 1) r) c = M (sk i r) c
    congr 1
    unfold sk
    by_cases e' : r < i
    ·rw [if_pos e', if_pos (by omega)]
    ·rw [if_neg e', if_neg (by omega)]
theorem p6 (i : Nat) : ∀ j, sgn (i + j) = sgn i * sgn j
 | 0 => by rw [dM, Int.mul_one]; rfl
 | j + 1 => by rw [← Nat.add_assoc, d8, p6 i j, d8]; grind
theorem mZ {n : Nat} (M : Mat) {i : Nat} (hi : i < n + 1) : det (n + 1) M = sm (n + 1) fun j => M i j * (sgn (i + j) * det n (mnr M i j)) := by
 have h := od M i hi
 have h2 : det (n + 1) M = sgn i * det (n + 1) (topr M i) := by rw [h, ← Int.mul_assoc, rP, Int.one_mul]
 rw [h2, bX, ← cj]
 refine aX fun j _ => ?_
 have e : sgn (i + j) = sgn i * sgn j := p6 i j
 show sgn i * (sgn j * M i j * det n (fun r c => M (sk i r) (sk j c))) = _
 rw [e]
 unfold mnr
 grind
def adj (n : Nat) (M : Mat) : Mat := fun j i => sgn (i + j) * det (n - 1) (mnr M i j)
theorem fF {n : Nat} (M : Mat) {i k : Nat} (hi : i < n) (hk : k < n) : mm n M (adj n M) i k = det n M * idM i k := by
 obtain ⟨n, rfl⟩ : ∃ m, n = m + 1 := ⟨n - 1, by omega⟩
 unfold mm adj
 rw [Nat.add_sub_cancel]
 by_cases e : i = k
 ·subst e; rw [bE, Int.mul_one, mZ M hi]
 ·rw [bN e, Int.mul_zero]
  have h0 : det (n + 1) (rw' M k (M i)) = 0 := (dg (n + 1)).eqrows (r := k) (r' := i) (Ne.symm e) hk hi fun c _ => by rw [cH, dl _ _ _ e]
  rw [mZ _ hk] at h0
  rw [← h0]
  refine aX fun j _ => ?_
  rw [cH]
  congr 2
  refine bo fun r c _ _ => ?_
  unfold mnr
  rw [dl _ _ _ (rQ _ _)]
theorem Alt.zrow {n m : Nat} {f : Mat → Int} (h : Alt n m f) {M : Mat} {r : Nat} (hr : r < n) (hz : ∀ c, c < m → M r c = 0) : f M = 0 := by
 have := h.smul M hr 0 (M r)
 rw [h.self M r fun c hc => by rw [hz c hc]; omega] at this
 omega
theorem eR {n j : Nat} {M : Mat} (hj : j < n) (h : ∀ r, r < n → M r j = 0) : det n M = 0 := by
 have h1 : det n (mm n M (rw' idM j fun _ => 0)) = 0 := by
  rw [dr, (dg n).zrow hj fun c _ => cH _ _ _ _]; omega
 rw [← h1]
 refine bo fun r c hr hc => ?_
 unfold mm
 by_cases e : c = j
 ·subst e
  rw [h r hr, eQ fun k _ => ?_]
  by_cases e' : k = c
  ·subst e'; rw [cH]; omega
  ·rw [dl _ _ _ e', bN e']; omega
 ·rw [bV hc fun k _ hne => ?_]
  ·rw [dl _ _ _ e, bE, Int.mul_one]
  ·by_cases e' : k = j
   ·subst e'; rw [cH]; omega
   ·rw [dl _ _ _ e', bN hne]; omega
theorem m3 {n j : Nat} (hj : j < n) (x : Vec) : det n (fun a b => if b = j then x a else idM a b) = x j := by
 have hd := dg n
 have h1 : ∀ k, k ≤ n → det n (fun a b => if b = j then x a else idM a b) = x j * det n (fun a b => if a = j then idM j b else if b = j then (if a < k then 0 else x a) else idM a b) := by
  intro k
  induction k with
  | zero =>
   intro _
   rw [← mY (fun a b => if a = j then idM j b else if b = j then (if a < 0 then 0 else x a) else idM a b) j, ← hd.smul _ hj]
   refine bo fun a b _ _ => ?_
   by_cases e : a = j
   ·subst e
    rw [cH]
    by_cases e' : b = a
    ·subst e'; rw [if_pos rfl, if_pos rfl, bE, Int.mul_one]
    ·rw [if_neg e', if_pos rfl, bN (Ne.symm e')]; omega
   ·rw [dl _ _ _ e, if_neg e]
    simp
  | succ k ih =>
   intro hk
   rw [ih (by omega)]
   by_cases e : k = j
   ·subst e
    congr 1
    refine bo fun a b _ _ => ?_
    by_cases ea : a = k
    ·rw [if_pos ea, if_pos ea]
    ·rw [if_neg ea, if_neg ea]
     by_cases eb : b = k
     ·rw [if_pos eb, if_pos eb]
      by_cases el : a < k
      ·rw [if_pos el, if_pos (by omega)]
      ·rw [if_neg el, if_neg (by omega)]
     ·rw [if_neg eb, if_neg eb]
   ·congr 1
    rw [← hd.addrow _ (r := k) (r' := j) e (by omega) hj (-(x k))]
    refine bo fun a b _ _ => ?_
    by_cases ea : a = k
    ·subst ea
     rw [cH, if_neg e, if_pos rfl, if_neg e]
     by_cases eb : b = j
     ·subst eb; rw [if_pos rfl, if_neg (by omega), bE, if_pos rfl, if_pos (by omega)]; omega
     ·rw [if_neg eb, bN (Ne.symm eb), if_neg eb]; omega
    ·rw [dl _ _ _ ea]
     by_cases ea' : a = j
     ·rw [if_pos ea', if_pos ea']
     ·rw [if_neg ea', if_neg ea']
      by_cases eb : b = j
      ·rw [if_pos eb, if_pos eb]
       by_cases el : a < k
       ·rw [if_pos el, if_pos (by omega)]
       ·rw [if_neg el, if_neg (by omega)]
      ·rw [if_neg eb, if_neg eb]
 rw [h1 n (Nat.le_refl _)]
 have : det n (fun a b => if a = j then idM j b else if b = j then (if a < n then 0 else x a) else idM a b) = det n idM := bo fun a b ha _ => by
  by_cases ea : a = j
  ·rw [if_pos ea, ea]
  ·rw [if_neg ea]
   by_cases eb : b = j
   ·rw [if_pos eb, if_pos ha, eb, bN ea]
   ·rw [if_neg eb]
 rw [this, iH, Int.mul_one]
theorem m4 {n : Nat} {M : Mat} (hd : det n M ≠ 0) {x : Vec} (hx : ∀ r, r < n → (sm n fun l => M r l * x l) = 0) {j : Nat} (hj : j < n) : x j = 0 := by
 have key := dr n M (fun a b => if b = j then x a else idM a b)
 rw [eR hj fun r hr => ?_, m3 hj x] at key
 ·rcases Int.mul_eq_zero.1 key.symm with h | h
  ·exact absurd h hd
  ·exact h
 ·rw [← hx r hr]; unfold mm; exact aX fun l _ => by simp only [if_true]
theorem uR {n : Nat} {M : Mat} (hd : det n M ≠ 0) {i k : Nat} (hi : i < n) (hk : k < n) : mm n (adj n M) M i k = det n M * idM i k := by
 have h1 : ∀ j, j < n → mm n M (mm n (adj n M) M) j k = det n M * M j k := fun j hj => by
  rw [← cM]
  have : mm n (mm n M (adj n M)) M j k = mm n (fun i k => det n M * idM i k) M j k := cC (fun l hl => fF M hj hl) (fun _ _ => rfl)
  rw [this]
  unfold mm
  have : (sm n fun l => det n M * idM j l * M l k) = sm n fun l => det n M * (idM j l * M l k) := aX fun l _ => by rw [Int.mul_assoc]
  rw [this, cj]
  congr 1
  exact oa M j k hj
 have h5 := m4 hd (x := fun a => mm n (adj n M) M a k - det n M * idM a k) (fun j hj => by
  have : (sm n fun l => M j l * (mm n (adj n M) M l k - det n M * idM l k)) = (sm n fun l => M j l * mm n (adj n M) M l k) - sm n fun l => det n M * (M j l * idM l k) := by
   rw [← gU]; exact aX fun l _ => by grind
  rw [this, cj]
  have e1 : (sm n fun l => M j l * mm n (adj n M) M l k) = det n M * M j k := h1 j hj
  have e2 : (sm n fun l => M j l * idM l k) = M j k := mp M j k hk
  rw [e1, e2]; omega) hi
 have h6 : mm n (adj n M) M i k - det n M * idM i k = 0 := h5
 omega
def brd (M : Mat) (k i j : Nat) : Mat := fun r c => M (if r < k then r else i) (if c < k then c else j)
def bm (M : Mat) (k i j : Nat) : Int := det (k + 1) (brd M k i j)
theorem tD (M : Mat) (i j : Nat) : bm M 0 i j = M i j := by unfold bm; rw [ik]; rfl
theorem gV (n : Nat) (a : Int) {f : Nat → Int} (h : ∀ i, i < n → f i = a) : pr n f = a ^ n := by
 induction n with
 | zero => simp [pr]
 | succ n ih => rw [pr, ih fun i hi => h i (by omega), h n (by omega), Int.pow_succ]
theorem rU (k m : Nat) (f : Nat → Int) : pr (k + m) f = pr k f * pr m fun i => f (k + i) := by
 induction m with
 | zero => simp [pr]
 | succ m ih => rw [← Nat.add_assoc, pr, ih, pr, Int.mul_assoc]
def sch (k : Nat) (M : Mat) : Mat := fun i j => det k M * M i j - sm k fun a => sm k fun b => M i a * (adj k M a b * M b j)
theorem rV (k m : Nat) (M : Mat) : det (k + m) M * det k M ^ m = det k M * det m fun r c => sch k M (k + r) (k + c) := by
 have h1 := dr (k + m) M (fun r c => if c < k then idM r c else if r < k then - sm k (fun b => adj k M r b * M b c) else det k M * idM r c)
 generalize hX : (fun r c => if c < k then idM r c else if r < k then - sm k (fun b => adj k M r b * M b c) else det k M * idM r c : Mat) = X at h1
 have x1 : ∀ r c, c < k → X r c = idM r c := fun r c hc => by rw [← hX]; simp only [hc, if_true]
 have x2 : ∀ r c, k ≤ c → r < k → X r c = - sm k (fun b => adj k M r b * M b c) := fun r c hc hr => by rw [← hX]; simp only [show ¬ c < k by omega, hr, if_true, if_false]
 have x3 : ∀ r c, k ≤ c → k ≤ r → X r c = det k M * idM r c := fun r c hc hr => by rw [← hX]; simp only [show ¬ c < k by omega, show ¬ r < k by omega, if_false]
 have h2 : det (k + m) X = det k M ^ m := by
  rw [im fun r c hr hc => by
   by_cases e : c < k
   ·rw [x1 r c e, bN (by omega)]
   ·rw [x3 r c (by omega) (by omega), bN (by omega), Int.mul_zero]]
  rw [rU, gV k 1 fun a ha => by rw [x1 a a ha, bE], gV m (det k M) fun a _ => by rw [x3 _ _ (by omega) (by omega), bE, Int.mul_one]]
  rw [Int.one_pow, Int.one_mul]
 have e1 : ∀ r c, c < k → mm (k + m) M X r c = M r c := fun r c hc => by
  unfold mm
  rw [bV (show c < k + m by omega) fun a _ hne => by rw [x1 a c hc, bN hne, Int.mul_zero]]
  rw [x1 c c hc, bE, Int.mul_one]
 have e2 : ∀ r c, k ≤ c → c < k + m → mm (k + m) M X r c = sch k M r c := fun r c hc hc' => by
  unfold mm sch
  rw [fS, aX (n := k) (g := fun a => - sm k fun b => M r a * (adj k M a b * M b c)) fun a ha => by rw [x2 a c hc ha, cj]; grind]
  rw [mX, bV (n := m) (k := c - k) (by omega) fun a _ hne => by rw [x3 _ c hc (by omega), bN (by omega), Int.mul_zero, Int.mul_zero]]
  rw [show k + (c - k) = c by omega, x3 c c hc hc, bE]
  grind
 rw [h2, qE fun r c hr hc hc' => ?_] at h1
 ·rw [← h1]
  congr 1
  ·exact bo fun r c hr hc => e1 r c hc
  ·exact bo fun r c hr hc => e2 _ _ (by omega) (by omega)
 ·rw [e2 r c hc hc']
  unfold sch
  have : (sm k fun a => sm k fun b => M r a * (adj k M a b * M b c)) = sm k fun b => mm k M (adj k M) r b * M b c := by
   rw [f9]
   refine aX fun b _ => ?_
   unfold mm
   rw [← fw]
   exact aX fun a _ => by rw [Int.mul_assoc]
  rw [this, bV hr fun b hb hne => by rw [fF M hr hb, bN (Ne.symm hne), Int.mul_zero, Int.zero_mul]]
  rw [fF M hr hr, bE, Int.mul_one]
  omega
theorem qF {k : Nat} {M M' : Mat} (h : ∀ r c, r < k → c < k → M r c = M' r c) {a b : Nat} (_ha : a < k) (hb : b < k) : adj k M a b = adj k M' a b := by
 unfold adj mnr
 congr 1
 exact bo fun r c hr hc => h _ _ (by have := n9 (i := b) hr; omega) (by have := n9 (i := a) hc; omega)
theorem tE (M : Mat) (k i j : Nat) : det k (brd M k i j) = det k M := bo fun r c hr hc => by unfold brd; rw [if_pos hr, if_pos hc]
theorem rW {k : Nat} {M N : Mat} {i j i' j' : Nat} (h : ∀ r c, r < k → c < k → N r c = M r c) (hr : ∀ c, c < k → N i' c = M i c) (hc : ∀ r, r < k → N r j' = M r j) (hij : N i' j' = M i j) : sch k N i' j' = sch k M i j := by
 unfold sch
 rw [bo (M' := M) h, hij]
 congr 1
 exact aX fun a ha => aX fun b hb => by rw [hr a ha, hc b hb, qF h ha hb]
theorem pk {k : Nat} {M : Mat} (hz : det k M ≠ 0) (i j : Nat) : bm M k i j = sch k M i j := by
 have h := rV k 1 (brd M k i j)
 rw [tE, ik, Int.pow_succ, Int.pow_zero, Int.one_mul] at h
 have e : sch k (brd M k i j) (k + 0) (k + 0) = sch k M i j := by
  refine rW (fun r c hr hc => ?_) (fun c hc => ?_) (fun r hr => ?_) ?_ <;> unfold brd
  ·rw [if_pos hr, if_pos hc]
  ·rw [if_neg (by omega), if_pos hc]
  ·rw [if_pos hr, if_neg (by omega)]
  ·rw [if_neg (by omega), if_neg (by omega)]
 rw [e, Int.mul_comm (det k M)] at h
 exact Int.eq_of_mul_eq_mul_right hz h
theorem rX {k m : Nat} {M : Mat} (hz : det k M ≠ 0) : det (k + m) M * det k M ^ m = det k M * det m fun r c => bm M k (k + r) (k + c) := by
 rw [rV]
 congr 1
 exact bo fun r c _ _ => (pk hz _ _).symm
theorem pm {a : Int} (h : a ≠ 0) : ∀ n : Nat, a ^ n ≠ 0
 | 0 => by rw [Int.pow_zero]; omega
 | n + 1 => fun e => by
  rw [Int.pow_succ] at e
  rcases Int.mul_eq_zero.1 e with h' | h'
  ·exact pm h n h'
  ·exact h h'
theorem io (M : Mat) : det 2 M = M 0 0 * M 1 1 - M 0 1 * M 1 0 := by
 rw [bX, bJ, bJ, eC, ik, ik, dM, d8, dM]
 have e1 : sk 0 0 = 1 := rfl
 have e2 : sk 1 0 = 0 := rfl
 simp only [e1, e2, Nat.zero_add]
 grind
theorem m5 {k : Nat} {M : Mat} (hz : det k M ≠ 0) (i j : Nat) : bm M (k + 1) i j * det k M = bm M k k k * bm M k i j - bm M k i k * bm M k k j := by
 have h := rV k 2 (brd M (k + 1) i j)
 have e0 : det k (brd M (k + 1) i j) = det k M := bo fun r c hr hc => by unfold brd; rw [if_pos (by omega), if_pos (by omega)]
 rw [e0, io] at h
 have hN : ∀ r c, r < k → c < k → brd M (k + 1) i j r c = M r c := fun r c hr hc => by unfold brd; rw [if_pos (by omega), if_pos (by omega)]
 have g : ∀ x y, x < 2 → y < 2 → sch k (brd M (k + 1) i j) (k + x) (k + y) = bm M k (if x = 0 then k else i) (if y = 0 then k else j) := fun x y hx hy => by
  rw [pk hz]
  refine rW hN (fun c hc => ?_) (fun r hr => ?_) ?_ <;> unfold brd
  ·rw [if_pos (show c < k + 1 by omega)]
   by_cases e : x = 0
   ·subst e; rw [if_pos (by omega), if_pos rfl]; rfl
   ·rw [if_neg (by omega), if_neg e]
  ·rw [if_pos (show r < k + 1 by omega)]
   by_cases e : y = 0
   ·subst e; rw [if_pos (by omega), if_pos rfl]; rfl
   ·rw [if_neg (by omega), if_neg e]
  ·by_cases e : x = 0 <;> by_cases e' : y = 0
   ·subst e; subst e'; rw [if_pos (by omega), if_pos (by omega), if_pos rfl]; rfl
   ·subst e; rw [if_pos (by omega), if_neg (by omega), if_pos rfl, if_neg e']; rfl
   ·subst e'; rw [if_neg (by omega), if_pos (by omega), if_neg e, if_pos rfl]; rfl
   ·rw [if_neg (by omega), if_neg (by omega), if_neg e, if_neg e']
 rw [g 0 0 (by omega) (by omega), g 1 1 (by omega) (by omega), g 0 1 (by omega) (by omega), g 1 0 (by omega) (by omega)] at h
 simp only [if_true, show ¬ (1 = 0) by omega, if_false] at h
 have h' : (bm M (k + 1) i j * det k M) * det k M = (bm M k k k * bm M k i j - bm M k i k * bm M k k j) * det k M := by
  have e : det (k + 2) (brd M (k + 1) i j) = bm M (k + 1) i j := rfl
  rw [e] at h
  have e2 : det k M ^ 2 = det k M * det k M := by rw [show (2 : Nat) = 1 + 1 from rfl, Int.pow_succ, Int.pow_succ, Int.pow_zero, Int.one_mul]
  rw [e2] at h
  grind
 exact Int.eq_of_mul_eq_mul_right hz h'
theorem tF (M : Mat) (k : Nat) : bm M k k k = det (k + 1) M := bo fun r c hr hc => by
 unfold brd
 by_cases e : r < k <;> by_cases e' : c < k
 ·rw [if_pos e, if_pos e']
 ·rw [if_pos e, if_neg e', show c = k by omega]
 ·rw [if_neg e, if_pos e', show r = k by omega]
 ·rw [if_neg e, if_neg e', show r = k by omega, show c = k by omega]
theorem oe {n k : Nat} {M : Mat} (hk : k < n) (hz : det k M ≠ 0) (h : ∀ i, k ≤ i → i < n → bm M k i k = 0) : det n M = 0 := by
 obtain ⟨m, rfl⟩ : ∃ m, n = k + m := ⟨n - k, by omega⟩
 have h1 := rX (m := m) hz
 rw [ob (M := fun r c => bm M k (k + r) (k + c)) (by omega) fun r hr => h _ (by omega) (by omega), Int.mul_zero] at h1
 rcases Int.mul_eq_zero.1 h1 with h | h
 ·exact h
 ·exact absurd h (pm hz m)
end Go.LA
namespace Go.LA
def BdJ (n : Nat) (A : Mat) (k : Nat) (s : Int) (W : Mat) (last : Int) : Prop :=
 ∃ N : Mat, k ≤ n ∧ (s = 1 ∨ s = -1) ∧ det n N = s * det n A ∧ det k N = last ∧ last ≠ 0 ∧ (∀ r, r < n → ∃ r', r' < n ∧ ∀ c, N r c = A r' c) ∧ ∀ i j, k ≤ i → i < n → k ≤ j → j < n → W i j = bm N k i j
theorem mq (n : Nat) {A W : Mat} (h : ∀ i j, i < n → j < n → W i j = A i j) : BdJ n A 0 1 W 1 :=
 ⟨A, Nat.zero_le _, .inl rfl, by omega, rfl, by omega, fun r hr => ⟨r, hr, fun _ => rfl⟩, fun i j _ hi _ hj => by rw [tD]; exact h i j hi hj⟩
theorem BdJ.swap {n k p : Nat} {A W W' : Mat} {s last : Int} (h : BdJ n A k s W last) (hp : k < p) (hpn : p < n) (hW : ∀ i j, i < n → j < n → W' i j = W (if i = k then p else if i = p then k else i) j) : BdJ n A k (-s) W' last := by
 obtain ⟨N, h1, h2, h3, h4, h5, h6, h7⟩ := h
 have hsw : ∀ i j, swp N k p i j = N (if i = k then p else if i = p then k else i) j := fun i j => by
  unfold swp rw'
  by_cases e1 : i = p
  ·subst e1; rw [if_pos rfl, if_neg (by omega), if_pos rfl]
  ·rw [if_neg e1]
   by_cases e2 : i = k
   ·rw [if_pos e2, if_pos e2]
   ·rw [if_neg e2, if_neg e2, if_neg e1]
 refine ⟨swp N k p, h1, by omega, ?_, ?_, h5, fun r hr => ?_, fun i j hi hin hj hjn => ?_⟩
 ·rw [(dg n).swap N (by omega) (by omega) hpn, h3, Int.neg_mul]
 ·rw [← h4]; exact bo fun r c hr _ => by rw [hsw, if_neg (by omega), if_neg (by omega)]
 ·obtain ⟨r', h8, h9⟩ := h6 (if r = k then p else if r = p then k else r) (by split; omega; split <;> omega)
  exact ⟨r', h8, fun c => by rw [hsw]; exact h9 c⟩
 ·have hlt : (if i = k then p else if i = p then k else i) < n ∧ k ≤ (if i = k then p else if i = p then k else i) := by split; omega; split <;> omega
  rw [hW i j hin hjn, h7 _ j hlt.2 hlt.1 hj hjn]
  unfold bm
  refine bo fun r c hr hc => ?_
  unfold brd
  by_cases e : r < k
  ·rw [if_pos e, if_pos e, hsw, if_neg (show ¬ r = k by omega), if_neg (show ¬ r = p by omega)]
  ·rw [if_neg e, if_neg e, hsw]
theorem BdJ.step {n k : Nat} {A W W' : Mat} {s last : Int} (h : BdJ n A k s W last) (hk : k < n) (hz : W k k ≠ 0) (hW : ∀ i j, k < i → i < n → k < j → j < n → W' i j = (W k k * W i j - W i k * W k j) / last) : BdJ n A (k + 1) s W' (W k k) := by
 obtain ⟨N, h1, h2, h3, h4, h5, h6, h7⟩ := h
 have hkk := h7 k k (Nat.le_refl _) hk (Nat.le_refl _) hk
 refine ⟨N, hk, h2, h3, by rw [hkk, tF], hz, h6, fun i j hi hin hj hjn => ?_⟩
 rw [hW i j (by omega) hin (by omega) hjn, hkk, h7 i j (by omega) hin (by omega) hjn, h7 i k (by omega) hin (Nat.le_refl _) hk, h7 k j (Nat.le_refl _) hk (by omega) hjn]
 have := m5 (M := N) (k := k) (by rw [h4]; exact h5) i j
 rw [h4] at this
 rw [← this, Int.mul_ediv_cancel _ h5]
theorem BdJ.none {n k : Nat} {A W : Mat} {s last : Int} (h : BdJ n A k s W last) (hk : k < n) (hz : ∀ i, k ≤ i → i < n → W i k = 0) : det n A = 0 := by
 obtain ⟨N, h1, h2, h3, h4, h5, h6, h7⟩ := h
 have h0 := oe (M := N) hk (by rw [h4]; exact h5) fun i hi hin => by rw [← h7 i k hi hin (Nat.le_refl _) hk]; exact hz i hi hin
 rw [h0] at h3
 rcases h2 with e | e <;> rw [e] at h3 <;> omega
theorem BdJ.fin {n : Nat} {A W : Mat} {s last : Int} (h : BdJ n A n s W last) : det n A = s * last := by
 obtain ⟨N, h1, h2, h3, h4, h5, h6, h7⟩ := h
 rw [h4] at h3
 rcases h2 with e | e <;> rw [e] at h3 ⊢ <;> omega
theorem BdJ.ne {n k : Nat} {A W : Mat} {s last : Int} (h : BdJ n A k s W last) : last ≠ 0 := by obtain ⟨N, _, _, _, _, h5, _⟩ := h; exact h5
theorem rY {n : Nat} {f : Nat → Int} {b : Nat} (h : ∀ i, i < n → (f i).natAbs ≤ b) : (sm n f).natAbs ≤ n * b := by
 induction n with
 | zero => simp [sm]
 | succ n ih =>
  rw [bJ, Nat.succ_mul]
  have h1 := ih fun i hi => h i (by omega)
  have h2 := h n (by omega)
  omega
theorem ke : ∀ {n b : Nat} {M : Mat}, (∀ r c, r < n → c < n → (M r c).natAbs ≤ b) → (det n M).natAbs ≤ (n * b) ^ n
 | 0, _, _, _ => by rw [d9]; simp
 | n + 1, b, M, h => by
  rw [bX]
  have h1 : ∀ j, j < n + 1 → (sgn j * M 0 j * det n (fun r c => M (r + 1) (sk j c))).natAbs ≤ b * (n * b) ^ n := fun j hj => by
   rw [Int.natAbs_mul, Int.natAbs_mul]
   have hs : (sgn j).natAbs = 1 := by unfold sgn; split <;> rfl
   rw [hs, Nat.one_mul]
   exact Nat.mul_le_mul (h 0 j (Nat.succ_pos n) hj) (ke (n := n) (b := b) fun r c hr hc => h (r + 1) (sk j c) (show r + 1 < n + 1 by omega) (n9 hc))
  refine Nat.le_trans (rY h1) ?_
  have e : (n * b) ^ n ≤ ((n + 1) * b) ^ n := Nat.pow_le_pow_left (Nat.mul_le_mul_right b (Nat.le_succ n)) n
  rw [← Nat.mul_assoc, Nat.pow_succ, Nat.mul_comm (((n + 1) * b) ^ n)]
  exact Nat.mul_le_mul_left _ e
theorem BdJ.abs {n k b : Nat} {A W : Mat} {s last : Int} (h : BdJ n A k s W last) (hb : ∀ r c, r < n → c < n → (A r c).natAbs ≤ b) : (∀ i j, k ≤ i → i < n → k ≤ j → j < n → (W i j).natAbs ≤ ((k + 1) * b) ^ (k + 1)) ∧ last.natAbs ≤ (k * b) ^ k := by
 obtain ⟨N, h1, h2, h3, h4, h5, h6, h7⟩ := h
 have hN : ∀ r c, r < n → c < n → (N r c).natAbs ≤ b := fun r c hr hc => by
  obtain ⟨r', e1, e2⟩ := h6 r hr
  rw [e2]; exact hb r' c e1 hc
 refine ⟨fun i j hi hin hj hjn => ?_, ?_⟩
 ·rw [h7 i j hi hin hj hjn]
  refine ke fun r c hr hc => ?_
  unfold brd
  exact hN _ _ (by split <;> omega) (by split <;> omega)
 ·rw [← h4]
  exact ke fun r c hr hc => hN r c (by omega) (by omega)
end Go.LA
namespace Go.LA
def Lb (e : Nat) (z : Int) : Prop := z.natAbs < 4294967296 ^ e
section
variable {e e' n : Nat} {x y : Int}
theorem Lb.mono (h : Lb e x) (he : e ≤ e') : Lb e' x := Nat.lt_of_lt_of_le h (Nat.pow_le_pow_right (by decide) he)
theorem cc : Lb e 0 := Nat.pow_pos (by decide)
theorem bM (h : x.natAbs < 4294967296) (he : 1 ≤ e) : Lb e x := Nat.lt_of_lt_of_le h (by rw [show (4294967296 : Nat) = 4294967296 ^ 1 from rfl]; exact Nat.pow_le_pow_right (by decide) he)
theorem Lb.neg (h : Lb e x) : Lb e (-x) := by unfold Lb; rw [Int.natAbs_neg]; exact h
theorem Lb.mul (h : Lb e x) (h' : Lb e' y) : Lb (e + e') (x * y) := by
 unfold Lb at *
 rw [Int.natAbs_mul, Nat.pow_add]
 exact Nat.mul_lt_mul'' h h'
theorem Lb.add (h : Lb e x) (h' : Lb e y) : Lb (e + 1) (x + y) := by
 unfold Lb at *
 have := Int.natAbs_add_le x y
 rw [Nat.pow_succ]; omega
theorem Lb.sub (h : Lb e x) (h' : Lb e y) : Lb (e + 1) (x - y) := by rw [Int.sub_eq_add_neg]; exact h.add h'.neg
theorem p7 {x : Int} {m : Nat} (hx : x ≤ 0) : x / ((m : Int) + 1) ≤ 0 := by
 by_cases h : x / ((m : Int) + 1) ≤ 0
 ·exact h
 ·exfalso
  have h1 := Int.ediv_mul_le x (b := (m : Int) + 1) (by omega)
  have h2 : 1 * ((m : Int) + 1) ≤ x / ((m : Int) + 1) * ((m : Int) + 1) := Int.mul_le_mul_of_nonneg_right (by omega) (by omega)
  omega
theorem fh (x y : Int) : (x / y).natAbs ≤ x.natAbs := by
 rcases Int.lt_trichotomy y 0 with h | h | h
 ·obtain ⟨m, rfl⟩ : ∃ m : Nat, y = -((m : Int) + 1) := ⟨(-y - 1).toNat, by omega⟩
  rw [Int.ediv_neg, Int.natAbs_neg]
  rcases Int.le_total 0 x with hx | hx
  ·obtain ⟨k, rfl⟩ := Int.eq_ofNat_of_zero_le hx
   have : ((k : Int) / ((m : Int) + 1)) = ((k / (m + 1) : Nat) : Int) := by simp
   rw [this, Int.natAbs_natCast, Int.natAbs_natCast]; exact Nat.div_le_self _ _
  ·have h1 : x / ((m : Int) + 1) ≤ 0 := p7 hx
   have h2 : x ≤ x / ((m : Int) + 1) := by
    have := Int.ediv_mul_le x (b := (m : Int) + 1) (by omega)
    have h3 := Int.lt_ediv_add_one_mul_self x (b := (m : Int) + 1) (by omega)
    by_cases h4 : x ≤ x / ((m : Int) + 1)
    ·exact h4
    ·exfalso
     have h5 : x / ((m : Int) + 1) + 1 ≤ x := by omega
     have h6 : (x / ((m : Int) + 1) + 1) * ((m : Int) + 1) ≤ (x / ((m : Int) + 1) + 1) * 1 := Int.mul_le_mul_of_nonpos_left (by omega) (by omega)
     omega
   omega
 ·subst h; simp
 ·obtain ⟨m, rfl⟩ : ∃ m : Nat, y = ((m : Int) + 1) := ⟨(y - 1).toNat, by omega⟩
  rcases Int.le_total 0 x with hx | hx
  ·obtain ⟨k, rfl⟩ := Int.eq_ofNat_of_zero_le hx
   have : ((k : Int) / ((m : Int) + 1)) = ((k / (m + 1) : Nat) : Int) := by simp
   rw [this, Int.natAbs_natCast, Int.natAbs_natCast]; exact Nat.div_le_self _ _
  ·have h1 : x / ((m : Int) + 1) ≤ 0 := p7 hx
   have h2 : x ≤ x / ((m : Int) + 1) := by
    have h3 := Int.lt_ediv_add_one_mul_self x (b := (m : Int) + 1) (by omega)
    by_cases h4 : x ≤ x / ((m : Int) + 1)
    ·exact h4
    ·exfalso
     have h5 : x / ((m : Int) + 1) + 1 ≤ x := by omega
     have h6 : (x / ((m : Int) + 1) + 1) * ((m : Int) + 1) ≤ (x / ((m : Int) + 1) + 1) * 1 := Int.mul_le_mul_of_nonpos_left (by omega) (by omega)
     omega
   omega
theorem Lb.div (h : Lb e x) (y : Int) : Lb e (x / y) := Nat.lt_of_le_of_lt (fh x y) h
theorem Lb.mod (h : Lb e y) (x : Int) (h0 : y ≠ 0) : Lb e (x % y) := by
 unfold Lb at *
 have h1 := Int.emod_nonneg x h0
 have h2 := Int.emod_lt x h0
 omega
theorem Lb.le (h : Lb e y) (hx : x.natAbs ≤ y.natAbs) : Lb e x := Nat.lt_of_le_of_lt hx h
theorem Lb.sm {f : Nat → Int} (h : ∀ i, i < n → Lb e (f i)) (hn : n ≤ 4294967296) : Lb (e + 1) (sm n f) := by
 rcases Nat.eq_zero_or_pos n with rfl | h0
 ·exact cc
 ·have := rY (n := n) (f := f) (b := 4294967296 ^ e - 1) (fun i hi => by have := h i hi; unfold Lb at this; omega)
  unfold Lb
  have hp : 0 < 4294967296 ^ e := Nat.pow_pos (by decide)
  refine Nat.lt_of_le_of_lt this ?_
  rw [Nat.pow_succ, Nat.mul_comm]
  refine Nat.lt_of_lt_of_le (Nat.mul_lt_mul_of_pos_right (show 4294967296 ^ e - 1 < 4294967296 ^ e by omega) h0) (Nat.mul_le_mul_left _ hn)
theorem Lb.det {M : Mat} (h : ∀ r c, r < n → c < n → Lb e (M r c)) (hn : n ≤ 4294967296) : Lb ((e + 1) * n + 1) (det n M) := by
 have := ke (n := n) (b := 4294967296 ^ e) (M := M) (fun r c hr hc => Nat.le_of_lt (h r c hr hc))
 unfold Lb
 refine Nat.lt_of_le_of_lt this ?_
 have h1 : n * 4294967296 ^ e ≤ 4294967296 ^ (e + 1) := by rw [Nat.pow_succ, Nat.mul_comm]; exact Nat.mul_le_mul_left _ hn
 have h2 := Nat.pow_le_pow_left h1 n
 rw [← Nat.pow_mul] at h2
 refine Nat.lt_of_le_of_lt h2 ?_
 exact Nat.pow_lt_pow_right (by decide) (by omega)
theorem kg {f g : Nat → Int} (h : ∀ i, i < n → Lb e (f i)) (h' : ∀ i, i < n → Lb e' (g i)) (hn : n ≤ 4294967296) : Lb (e + e' + 1) (Go.LA.sm n fun i => f i * g i) := Lb.sm (fun i hi => (h i hi).mul (h' i hi)) hn
end
end Go.LA
namespace Go.Proofs.YtppipmkpmmdcjaaGreat
open Go.W Go.LM Go.LA
theorem Ent.lb {cn : Bool} {K : Nat} {w : World} {v : Value} {z : Int} (h : Ent cn K w v z) : Lb K z := h.k.lt
theorem RX.ent {cn : Bool} {K n j : Nat} {w : World} {s : SD} {f : Nat → Int} (h : RX cn K w s n f) (hj : j < n) : Lb K (f j) := by
 obtain ⟨hh, _, h2⟩ := h.ex; exact (h2 j hj).lb
theorem MX.lb {cn : Bool} {K r c i j : Nat} {w : World} {a : Option Addr} {s : Nat → SD} {F : Nat → Nat → Int} (h : MX cn K w a r c s F) (hi : i < r) (hj : j < c) : Lb K (F i j) := (h.row i hi).ent hj
theorem MX.get {cn : Bool} {K r c i : Nat} {w : World} {a : Option Addr} {s : Nat → SD} {F : Nat → Nat → Int} (h : MX cn K w a r c s F) (hi : i < r) (hc : 0 < c) :
  ∃ (p : Option Addr) (d : Nat) (hh : Nat → IH), s i = ⟨p, c, d⟩ ∧ c ≤ d ∧ W.plain p ∧ Sl w p (rowC c hh) ∧ ∀ j, j < c → Ent cn K w (hh j).val (F i j) := by
 have hr := h.row i hi
 obtain ⟨hh, h1, h2⟩ := hr.ex
 have hl := hr.len
 have hc' := hr.cap
 have hp := hr.plain hc
 refine ⟨(s i).a, (s i).cap, hh, ?_, hc', hp, h1, h2⟩
 cases hs : s i with
 | mk a l c' => rw [hs] at hl; simp only at hl; rw [hl]
theorem j4 {cn : Bool} {K r c i j cap gm Tm : Nat} {w : World} {a : Option Addr} {s : Nat → SD} {F : Nat → Nat → Int} (hM : MX cn K w a r c s F) (hb : Blk w gm Tm [.slice a r cap]) (hi : i < c) (hj : j < r) :
  CallsR Tryz.prog 56 #[.int .i64 i, .int .i64 j, .pointer (some ⟨gm, 0, none⟩)] w fun v w' => (∃ lo, IntC lo w' v (F j i)) ∧ Ex w w' := by
 obtain ⟨p, d, hh, e1, e2, hp, hS, hEn⟩ := hM.get hj (by omega)
 refine aH (args := [_, _, _]) Tryz.func56 rfl rfl ?_
 repeat' (first|refine aB (fun g1 w1 hn1 => ⟨fun _ _ => trivial, ?_⟩)|refine aQ (g := gm) rfl (hb.ext hn1.ex) rfl ?_|refine aC (j := j) rfl rfl (hM.plain (by omega)) (by omega) ?_|refine aU (j := j) rfl ((hM.ext hn1.ex).top) (by omega) e1 ?_|refine aT (j := i) rfl rfl hp hi ?_|refine bu (j := i) rfl (hS.ext hn1.ex) hp hi ?_|refine ai rfl ?_|refine aa ?_|refine aj ?_|refine ah rfl ?_|refine ae ?_)
 refine av (dQ ((hEn i hi).ext hn1.ex).k) rfl ?_
 rintro v w2 ⟨hI, hE2⟩
 refine ⟨fun _ _ => trivial, ?_⟩
 obtain ⟨x, rfl⟩ := hI.ih
 have hb1 : Blk w1 g1 33 (intL false none 0 0) := hn1.blk
 refine ax (n := 2) (vs := x.cells) rfl rfl rfl rfl (hb1.ext hE2) rfl (fun w3 hc3 hb3 => ⟨fun _ _ => trivial, ?_⟩)
 repeat' (first|refine aa ?_|refine ae ?_|refine aR ?_)
 exact bK rfl (rc rfl rfl hb3) ⟨⟨_, hI.gbN (hb1.ext hE2) (aI _ _ _ _) (bG hc3)⟩, (hn1.ex.trans hE2).chg hc3 hn1.lo⟩
theorem fk {cn : Bool} {K r c cap : Nat} {w : World} {a : Option Addr} {s : Nat → SD} {F : Nat → Nat → Int} (hM : MX cn K w a r c s F) (hr : 1 ≤ r ∧ r ≤ 16) (hc : 1 ≤ c ∧ c ≤ 16) :
  CallsR Tryz.prog 32 #[.slice a r cap] w fun v w' => ∃ u, v = .tuple #[u, .bool true] ∧ RetMO K w c r (fun i j => F j i) u w' := by
 refine aH (args := [_]) Tryz.func32 rfl rfl ?_
 repeat' (first|refine kp rfl rfl (fun g1 w1 hn1 => ⟨fun _ _ => trivial, ?_⟩)|refine aQ rfl hn1.blk rfl ?_|refine ai rfl ?_|refine aa ?_|refine aj ?_|refine ah rfl ?_|refine ae ?_)
 refine av (dV (hM.ext hn1.ex).top) rfl ?_
 rintro v w2 ⟨rfl, hE2⟩
 refine ⟨fun _ _ => trivial, ?_⟩
 rw [em hM hr hc]
 have hE := hn1.ex.trans hE2
 repeat' (first|refine iR ?_|refine ai rfl ?_|refine aa ?_|refine aj ?_|refine ah rfl ?_|refine ae ?_|refine ay rfl ?_|refine aF ?_)
 have hb2 := hn1.blk.ext hE2
 refine av (fv (K := K) (fid := 56) (first := #[]) (cap := #[.pointer (some ⟨g1, 0, none⟩)]) (F := fun i j => F j i) inferInstance (by omega) (by omega) (fun i j hi hj => hM.lb hj hi)
  (fun i j w1 hi hj hEx => j4 (hM.ext (hE.trans hEx)) (hb2.ext hEx) hi hj)) rfl ?_
 rintro v w3 ⟨g, gs, cp, rfl, hO, hE3⟩
 refine ⟨fun _ _ => trivial, ?_⟩
 repeat' (first|refine ai rfl ?_|refine aa ?_|refine ae ?_|refine aR ?_)
 exact eN rfl (rt rfl) (rt rfl) ⟨_, rfl, g, gs, cp, rfl, hO.mono hE.size, hE.trans hE3⟩
end Go.Proofs.YtppipmkpmmdcjaaGreat
namespace Go.Proofs.YtppipmkpmmdcjaaGreat
open Go.W Go.LM Go.LA
theorem qG {cn cn' : Bool} {K1 K2 r n c i j ca cb gn ga gb Tn Ta Tb : Nat} {w : World} {a b : Option Addr} {s s' : Nat → SD} {A B : Nat → Nat → Int} (hA : MX cn K1 w a r n s A) (hB : MX cn' K2 w b n c s' B)
  (hn : Blk w gn Tn [.int .i64 n]) (ha : Blk w ga Ta [.slice a r ca]) (hb : Blk w gb Tb [.slice b n cb]) (hn16 : n ≤ 16) (hK : K1 + K2 + 1 < 17592186044416) (hi : i < r) (hj : j < c) :
  CallsR Tryz.prog 96 #[.int .i64 i, .int .i64 j, .pointer (some ⟨gn, 0, none⟩), .pointer (some ⟨ga, 0, none⟩), .pointer (some ⟨gb, 0, none⟩)] w fun v w' => (∃ lo, IntC lo w' v (mm n A B i j)) ∧ Ex w w' := by
 refine aH (args := [_, _, _, _, _]) Tryz.func96 rfl rfl ?_
 refine aj ?_
 refine ah rfl ?_
 refine aB (fun g1 w1 hn1 => ⟨fun _ _ => trivial, ?_⟩)
 repeat' (first|refine cL (cs := intL false none 0 0) rfl ?_|refine aa ?_|refine aj ?_|refine ah rfl ?_|refine ae ?_)
 refine aB (fun g2 w2 hn2 => ⟨fun _ _ => trivial, ?_⟩)
 have hb1 : Blk w1 g1 33 (intL false none 0 0) := hn1.blk
 have hb2 : Blk w2 g2 33 (intL false none 0 0) := hn2.blk
 have hE2 := hn1.ex.trans hn2.ex
 have lo1 := hn1.lo
 have hi1 := hn1.hi
 have lo2 := hn2.lo
 have s2 := hE2.size
 refine ax (n := 2) (vs := ih0.cells) rfl rfl rfl rfl hb2 rfl (fun w3 hc3 hb3 => ⟨fun _ _ => trivial, ?_⟩)
 have hE3 := hE2.chg hc3 (by have := hn1.ex.size; omega)
 have hb13 := (hb1.ext hn2.ex).chg hc3 (by omega)
 repeat' (first|refine aQ (g := gn) rfl (hn.ext hE3) rfl ?_|refine ai rfl ?_|refine aa ?_|refine aj ?_|refine ah rfl ?_|refine ae ?_|refine aA ?_)
 refine aY (ι := Nat × IH) [9, 12, 13, 14, 15, 16, 17, 18, 19, 20, 21, 22, 23, 24, 25, 26, 27, 28, 29, 30, 31, 32] (fun t => [(12, .int .i64 (t.1 : Int))])
  (fun t w' => t.1 ≤ n ∧ Blk w' g2 33 t.2.cells ∧ Ent true (K1 + K2 + 1) w' t.2.val (sm t.1 fun k => A i k * B k j) ∧ Ex w w' ∧ Blk w' g1 33 (intL false none 0 0)) (fun t => n - t.1)
  (0, ih0) ⟨rfl, trivial⟩ ⟨by omega, hb3, kU _, hE3, hb13⟩ ?_
 rintro ⟨k, x⟩ ξ w4 ⟨hk, hb4, hx, hE4, hb14⟩
 simp only at hk hb4 hx
 show CW _ _ _ _ (over [(12, .int .i64 (k : Int))] _) w4
 repeat' (first|refine ai rfl ?_|refine aa ?_|refine aj ?_|refine ah rfl ?_|refine ae ?_|refine aP rfl (fun hc => ?_) (fun hc => ?_)|refine aA ?_|refine aV ?_|refine aL ?_|refine aW ?_|refine aF ?_)
 ·obtain ⟨pa, da, fa, e1, _, hpa, hSa, hEa⟩ := hA.get hi (by omega)
  obtain ⟨pb, db, fb, e1', _, hpb, hSb, hEb⟩ := hB.get (i := k) (by omega) (by omega)
  have hEd : Ex w4 w4.drew := (Ex.refl _).drew
  have hkn : k < n := by omega
  refine bi (late := [17]) (plan := [(0, none), (1, none), (2, none), (3, none), (4, none), (5, none), (6, none), (7, none), (8, none), (9, none), (10, none), (11, none), (12, none), (13, none), (14, none), (15, some true), (16, some true), (17, some false)]) (fun w' => Ex w4 w') bB (by kernel_rfl) hEd ?_
  repeat' (first|refine aN (g := g2) rfl (fun _ h => hb4.ext h) rfl ?_|refine aQ (g := ga) rfl (fun _ h => (ha.ext hE4).ext h) rfl ?_|refine aQ (g := gb) rfl (fun _ h => (hb.ext hE4).ext h) rfl ?_|refine aC (j := i) rfl rfl (hA.plain (by omega)) (by omega) ?_|refine aC (j := k) rfl rfl (hB.plain (by omega)) (by omega) ?_|refine aU (j := i) rfl (fun _ h => ((hA.ext hE4).ext h).top) (by omega) e1 ?_|refine aU (j := k) rfl (fun _ h => ((hB.ext hE4).ext h).top) (by omega) e1' ?_|refine aT (j := k) rfl rfl hpa hkn ?_|refine aT (j := j) rfl rfl hpb hj ?_|refine bu (j := k) rfl (fun _ h => (hSa.ext hE4).ext h) hpa hkn ?_|refine bu (j := j) rfl (fun _ h => (hSb.ext hE4).ext h) hpb hj ?_|refine ai rfl ?_)
  refine av (cK ((hEa k hkn).ext hE4.drew).k ((hEb j hj).ext hE4.drew).k (by omega)) rfl ?_
  rintro v w5 ⟨hI5, hE5⟩
  refine ⟨fun _ h => h.trans hE5, ?_⟩
  have l5 := ((hEa k hkn).lb).mul ((hEb j hj).lb)
  refine av (eg ((hx.ext hEd).ext hE5).k (hI5.k l5) (by omega) (by omega)) rfl ?_
  rintro v w6 ⟨hI6, hE6⟩
  refine ⟨fun _ h => h.trans hE6, ?_⟩
  obtain ⟨y, rfl⟩ := hI6.ih
  have hE46 := (hEd.trans hE5).trans hE6
  have hb6 := hb4.ext hE46
  refine ax (n := 2) (vs := y.cells) rfl rfl rfl rfl hb6 rfl (fun w7 hc7 hb7 => ⟨fun h => (nomatch h), ?_⟩)
  repeat' (first|refine ai rfl ?_|refine aa ?_|refine ah rfl ?_|refine ae ?_|refine aZ rfl rfl (by omega) (by omega) ?_|refine aK ?_)
  have ls : Lb (K1 + K2 + 1) (sm (k + 1) fun k => A i k * B k j) := kg (fun m hm => hA.lb hi (by omega)) (fun m hm => hB.lb (by omega) hj) (by omega)
  have s1' := hE46.size
  refine ⟨⟨(k + 1, y), ⟨by simp only; omega, hb7, (Ent.of hI6 ls).gbN hb6 (aI _ _ _ _) (bG hc7), (hE4.trans hE46).chg hc7 (by have := hn1.ex.size; omega), (hb14.ext hE46).chg hc7 (by omega)⟩, by simp only; omega, rfl, trivial⟩, (by (repeat (first|exact aE _ _ _|refine aw rfl ?_|refine au rfl ?_|refine ak rfl ?_|refine ao rfl ?_)))⟩
 ·obtain rfl : k = n := by omega
  refine aN (g := g2) rfl hb4 rfl ?_
  refine ax (n := 2) (vs := x.cells) rfl rfl rfl rfl hb14 rfl (fun w7 hc7 hb7 => ⟨fun _ _ => trivial, ?_⟩)
  repeat' (first|refine aa ?_|refine ae ?_|refine aR ?_)
  exact bK rfl (rc rfl rfl hb7) ⟨⟨0, (hx.c rfl).gbN hb14 (aI _ _ _ _) (bG hc7)⟩, hE4.chg hc7 hn1.lo⟩
theorem mr {cn cn' : Bool} {K1 K2 r n c ca cb : Nat} {w : World} {a b : Option Addr} {s s' : Nat → SD} {A B : Nat → Nat → Int} (hA : MX cn K1 w a r n s A) (hB : MX cn' K2 w b n c s' B)
  (hr : 1 ≤ r ∧ r ≤ 16) (hn : 1 ≤ n ∧ n ≤ 16) (hc : 1 ≤ c ∧ c ≤ 16) (hK : K1 + K2 + 1 < 17592186044416) :
  CallsR Tryz.prog 74 #[.slice a r ca, .slice b n cb] w fun v w' => ∃ u, v = .tuple #[u, .bool true] ∧ RetMO (K1 + K2 + 1) w r c (mm n A B) u w' := by
 refine aH (args := [_, _]) Tryz.func74 rfl rfl ?_
 refine aj ?_
 refine ah rfl ?_
 refine kp rfl rfl (fun g1 w1 hn1 => ⟨fun _ _ => trivial, ?_⟩)
 refine kp rfl rfl (fun g2 w2 hn2 => ⟨fun _ _ => trivial, ?_⟩)
 have hb1 := hn1.blk.ext hn2.ex
 have hb2 := hn2.blk
 have hE2 := hn1.ex.trans hn2.ex
 repeat' (first|refine aQ (g := g1) rfl hb1 rfl ?_|refine ai rfl ?_|refine aa ?_|refine aj ?_|refine ah rfl ?_|refine ae ?_)
 refine av (dV (hA.ext hE2).top) rfl ?_
 rintro v w3 ⟨rfl, hE3⟩
 refine ⟨fun _ _ => trivial, ?_⟩
 rw [em hA hr hn]
 repeat' (first|refine ai rfl ?_)
 refine aB (fun g4 w4 hn4 => ⟨fun _ _ => trivial, ?_⟩)
 have hb4 : Blk w4 g4 3 [.int .i64 0] := hn4.blk
 repeat' (first|refine kr (g := g4) rfl rfl rfl hb4 rfl (fun w5 hc5 hb5 => ⟨fun _ _ => trivial, ?_⟩)|refine ai rfl ?_|refine aa ?_|refine aj ?_|refine ah rfl ?_|refine ae ?_)
 have s1 := hn1.ex.size
 have lo4 := hn4.lo
 have s3 := hE3.size
 have l1 := hb1.lt
 have l2 := hb2.lt
 have hE5 := ((hE2.trans hE3).trans hn4.ex).chg hc5 (by have := hE2.size; omega)
 have hb15 := ((hb1.ext hE3).ext hn4.ex).chg hc5 (by omega)
 have hb25 := ((hb2.ext hE3).ext hn4.ex).chg hc5 (by omega)
 refine aQ (g := g2) rfl hb25 rfl ?_
 refine av (dV (hB.ext hE5).top) rfl ?_
 rintro v w6 ⟨rfl, hE6⟩
 refine ⟨fun _ _ => trivial, ?_⟩
 rw [em hB hn hc]
 repeat' (first|refine aQ (g := g4) rfl (hb5.ext hE6) rfl ?_|refine fd rfl rfl rfl ?_|refine iR ?_|refine ai rfl ?_|refine aa ?_|refine aj ?_|refine ah rfl ?_|refine ae ?_|refine bR rfl rfl ?_|refine ay rfl ?_|refine aF ?_)
 have hE := hE5.trans hE6
 have b1 := hb15.ext hE6
 have b2 := hb25.ext hE6
 have b5 : Blk w6 g4 3 [.int .i64 n] := hb5.ext hE6
 refine av (fv (K := K1 + K2 + 1) (fid := 96) (first := #[]) (cap := #[.pointer (some ⟨g4, 0, none⟩), .pointer (some ⟨g1, 0, none⟩), .pointer (some ⟨g2, 0, none⟩)]) (F := mm n A B) inferInstance (by omega) (by omega)
  (fun i j hi hj => kg (fun m hm => hA.lb hi hm) (fun m hm => hB.lb hm hj) (by omega))
  (fun i j w1 hi hj hEx => qG (hA.ext (hE.trans hEx)) (hB.ext (hE.trans hEx)) (b5.ext hEx) (b1.ext hEx) (b2.ext hEx) hn.2 hK hi hj)) rfl ?_
 rintro v w7 ⟨g, gs, cp, rfl, hO, hE7⟩
 refine ⟨fun _ _ => trivial, ?_⟩
 repeat' (first|refine ai rfl ?_|refine aa ?_|refine ae ?_|refine aR ?_)
 exact eN rfl (rt rfl) (rt rfl) ⟨_, rfl, g, gs, cp, rfl, hO.mono hE.size, hE.trans hE7⟩
end Go.Proofs.YtppipmkpmmdcjaaGreat
namespace Go.Proofs.YtppipmkpmmdcjaaGreat
open Go.W Go.LM Go.LA
theorem m6 {K i j gm Tm : Nat} {w : World} {x : IH} {z : Int} (hx : IntK K w x.val z) (hb : Blk w gm Tm x.cells) :
  CallsR Tryz.prog 104 #[.int .i64 i, .int .i64 j, .pointer (some ⟨gm, 0, none⟩)] w fun v w' => (∃ lo, IntC lo w' v (if i = j then z else 0)) ∧ Ex w w' := by
 refine aH (args := [_, _, _]) Tryz.func104 rfl rfl ?_
 repeat' (first|refine aB (fun g1 w1 hn1 => ⟨fun _ _ => trivial, ?_⟩)|refine aN (g := gm) rfl (hb.ext hn1.ex) rfl ?_|refine cL (cs := intL false none 0 0) rfl ?_|refine ai rfl ?_|refine aa ?_|refine aj ?_|refine ah rfl ?_|refine ae ?_|refine aP rfl (fun hc => ?_) (fun hc => ?_)|refine aF ?_)
 ·have hb1 : Blk w1 g1 33 (intL false none 0 0) := hn1.blk
  have hij : i = j := by omega
  refine av (dQ (hx.ext hn1.ex)) rfl ?_
  rintro v w2 ⟨hI, hE2⟩
  refine ⟨fun _ _ => trivial, ?_⟩
  obtain ⟨y, rfl⟩ := hI.ih
  refine ax (n := 2) (vs := y.cells) rfl rfl rfl rfl (hb1.ext hE2) rfl (fun w3 hc3 hb3 => ⟨fun _ _ => trivial, ?_⟩)
  repeat' (first|refine aa ?_|refine ae ?_|refine aR ?_|refine bv ?_)
  refine bK rfl (rc rfl rfl hb3) ⟨⟨w1.heap.size, ?_⟩, (hn1.ex.trans hE2).chg hc3 hn1.lo⟩
  rw [if_pos hij]
  exact hI.gbN (hb1.ext hE2) (aI _ _ _ _) (bG hc3)
 ·have hb1 : Blk w1 g1 33 (intL false none 0 0) := hn1.blk
  have hij : ¬ i = j := by omega
  refine ax (n := 2) (vs := ih0.cells) rfl rfl rfl rfl hb1 rfl (fun w3 hc3 hb3 => ⟨fun _ _ => trivial, ?_⟩)
  repeat' (first|refine aa ?_|refine ae ?_|refine aR ?_)
  refine bK rfl (rc rfl rfl hb3) ⟨⟨0, ?_⟩, hn1.ex.chg hc3 hn1.lo⟩
  rw [if_neg hij]
  exact (kU (cn := true) (K := 0) w3).c rfl
theorem og {K n : Nat} {w : World} {v : Value} {z : Int} (hz : IntK K w v z) (hn : n ≤ 16) :
  CallsR Tryz.prog 102 #[.int .i64 n, v] w (RetMO K w n n fun i j => if i = j then z else 0) := by
 have hlt := hz.lt
 obtain ⟨x, rfl⟩ : ∃ x : IH, v = x.val := by
  obtain ⟨neg, a, c, ls, rfl, _⟩ := hz
  exact ⟨⟨neg, ⟨a, ls.length, c⟩⟩, rfl⟩
 refine aH (args := [_, _]) Tryz.func102 rfl rfl ?_
 repeat' (first|refine bH (vs := x.cells) rfl (fun g1 w1 hn1 => ⟨fun _ _ => trivial, ?_⟩)|refine iR ?_|refine ai rfl ?_|refine aa ?_|refine aj ?_|refine ah rfl ?_|refine ae ?_)
 refine av (fv (K := K) (fid := 104) (first := #[]) (cap := #[.pointer (some ⟨g1, 0, none⟩)]) (F := fun i j => if i = j then z else 0) inferInstance (by omega) (by omega)
  (fun i j hi hj => by split; exact hlt; exact Nat.pow_pos (by decide))
  (fun i j w1' hi hj hEx => m6 (hz.ext (hn1.ex.trans hEx)) (hn1.blk.ext hEx))) rfl ?_
 rintro v w7 ⟨g, gs, cp, rfl, hO, hE7⟩
 refine ⟨fun _ _ => trivial, ?_⟩
 repeat' (first|refine ai rfl ?_|refine aa ?_|refine ae ?_|refine aR ?_)
 exact bK rfl (rt rfl) ⟨g, gs, cp, rfl, hO.mono hn1.ex.size, hn1.ex.trans hE7⟩
theorem lC {cn : Bool} {K r c i j cap gm Tm : Nat} {w : World} {a : Option Addr} {s : Nat → SD} {F : Nat → Nat → Int} (hM : MX cn K w a r c s F) (hb : Blk w gm Tm [.slice a r cap]) (hi : i < r) (hj : j < c) :
  CallsR Tryz.prog 105 #[.int .i64 i, .int .i64 j, .pointer (some ⟨gm, 0, none⟩)] w fun v w' => (∃ lo, IntC lo w' v (- F i j)) ∧ Ex w w' := by
 obtain ⟨p, d, hh, e1, e2, hp, hS, hEn⟩ := hM.get hi (by omega)
 refine aH (args := [_, _, _]) Tryz.func105 rfl rfl ?_
 repeat' (first|refine aB (fun g1 w1 hn1 => ⟨fun _ _ => trivial, ?_⟩)|refine aQ (g := gm) rfl (hb.ext hn1.ex) rfl ?_|refine aC (j := i) rfl rfl (hM.plain (by omega)) (by omega) ?_|refine aU (j := i) rfl ((hM.ext hn1.ex).top) (by omega) e1 ?_|refine aT (j := j) rfl rfl hp hj ?_|refine bu (j := j) rfl (hS.ext hn1.ex) hp hj ?_|refine ai rfl ?_|refine aa ?_|refine aj ?_|refine ah rfl ?_|refine ae ?_)
 refine av (dy ((hEn j hj).ext hn1.ex).k) rfl ?_
 rintro v w2 ⟨hI, hE2⟩
 refine ⟨fun _ _ => trivial, ?_⟩
 obtain ⟨x, rfl⟩ := hI.ih
 have hb1 : Blk w1 g1 33 (intL false none 0 0) := hn1.blk
 refine ax (n := 2) (vs := x.cells) rfl rfl rfl rfl (hb1.ext hE2) rfl (fun w3 hc3 hb3 => ⟨fun _ _ => trivial, ?_⟩)
 repeat' (first|refine aa ?_|refine ae ?_|refine aR ?_)
 exact bK rfl (rc rfl rfl hb3) ⟨⟨_, hI.gbN (hb1.ext hE2) (aI _ _ _ _) (bG hc3)⟩, (hn1.ex.trans hE2).chg hc3 hn1.lo⟩
theorem m7 {cn : Bool} {K r c cap : Nat} {w : World} {a : Option Addr} {s : Nat → SD} {F : Nat → Nat → Int} (hM : MX cn K w a r c s F) (hr : 1 ≤ r ∧ r ≤ 16) (hc : 1 ≤ c ∧ c ≤ 16) :
  CallsR Tryz.prog 103 #[.slice a r cap] w (RetMO K w r c fun i j => - F i j) := by
 obtain ⟨p, d, hh, e1, e2, hp, hS, hEn⟩ := hM.get (i := 0) (by omega) (by omega)
 refine aH (args := [_]) Tryz.func103 rfl rfl ?_
 repeat' (first|refine kp rfl rfl (fun g1 w1 hn1 => ⟨fun _ _ => trivial, ?_⟩)|refine ai rfl ?_|refine aa ?_|refine aj ?_|refine ah rfl ?_|refine ae ?_)
 refine bi (late := []) (plan := [(0, none), (1, none), (2, none), (3, none), (4, none), (5, none), (6, none), (7, some true), (8, none)]) (fun w' => Ex w1 w') bB (by kernel_rfl) ((Ex.refl w1).drew) ?_
 repeat' (first|refine aQ (g := g1) rfl (fun _ h => hn1.blk.ext h) rfl ?_|refine aC (j := 0) rfl rfl (hM.plain (by omega)) (by omega) ?_|refine aU (j := 0) rfl (fun _ h => ((hM.ext hn1.ex).ext h).top) (by omega) e1 ?_|refine iR ?_|refine bh rfl ?_)
 have hE := hn1.ex.drew
 have hb := hn1.blk.drew
 refine av (fv (K := K) (fid := 105) (first := #[]) (cap := #[.pointer (some ⟨g1, 0, none⟩)]) (F := fun i j => - F i j) inferInstance (by omega) (by omega)
  (fun i j hi hj => (hM.lb hi hj).neg)
  (fun i j w1' hi hj hEx => lC (hM.ext (hE.trans hEx)) (hb.ext hEx) hi hj)) rfl ?_
 rintro v w7 ⟨g, gs, cp, rfl, hO, hE7⟩
 refine ⟨fun _ h => h.trans hE7, ?_⟩
 repeat' (first|refine ai rfl ?_|refine aa ?_|refine ae ?_|refine aR ?_)
 exact bK rfl (rt rfl) ⟨g, gs, cp, rfl, hO.mono hE.size, hE.trans hE7⟩
end Go.Proofs.YtppipmkpmmdcjaaGreat
namespace Go.Proofs.YtppipmkpmmdcjaaGreat
open Go.W Go.LM Go.LA
def setM (F : Nat → Nat → Int) (i j : Nat) (z : Int) : Nat → Nat → Int := fun a b => if a = i ∧ b = j then z else F a b
theorem oh (F : Nat → Nat → Int) (i j : Nat) (z : Int) : setM F i j z i = setF (F i) j z := by funext b; simp [setM, setF]
theorem p8 (F : Nat → Nat → Int) {i k : Nat} (j : Nat) (z : Int) (h : k ≠ i) : setM F i j z k = F k := by funext b; simp [setM, h]
theorem ms (lo : Nat) (w : World) : IntC lo w ih0.val 0 :=
 ⟨false, none, 0, [], rfl, ⟨Sl.nil _ _, Nat.le_refl _, fun d hd => by simp at hd, by simp⟩, rfl, rfl, fun e => (nomatch e), fun ad e => (nomatch e)⟩
structure MP (cn : Bool) (K : Nat) (w : World) (lo g r c i : Nat) (gs cap : Nat → Nat) (F : Nat → Nat → Int) : Prop where
 low : lo ≤ g
 top : Blk w g 27 (topC r fun k => if k < i then ⟨some ⟨gs k, 0, none⟩, c, cap k⟩ else sd0)
 row : ∀ k, k < i → RO cn K w lo (gs k) (cap k) c (F k)
 off : ∀ k, k < i → gs k ≠ g
 inj : ∀ k l, k < i → l < i → gs k = gs l → k = l
section
variable {cn : Bool} {K r c lo g i : Nat} {w w' : World} {gs cap : Nat → Nat} {F F' : Nat → Nat → Int}
theorem MP.start (hn : Blk w g 27 (topC r fun _ => sd0)) (hlo : lo ≤ g) : MP cn K w lo g r c 0 gs cap F :=
 ⟨hlo, hn, fun k hk => by omega, fun k hk => by omega, fun k l hk => by omega⟩
theorem MP.lt (h : MP cn K w lo g r c i gs cap F) : g < w.heap.size := h.top.lt
theorem MP.fin (h : MP cn K w lo g r c r gs cap F) : MO cn K w lo g r c gs cap F :=
 ⟨h.low, by rw [cv (s' := fun k => if k < r then ⟨some ⟨gs k, 0, none⟩, c, cap k⟩ else sd0) (fun k hk => by rw [if_pos hk])]; exact h.top, h.row, h.off, h.inj⟩
theorem MP.snoc {w2 w3 w4 : World} {g3 cp : Nat} {f0 : Nat → IH} (h : MP cn K w2 lo g r c i gs cap F) (hn : New w2 w3 g3 33 (rowC cp f0)) (hc : Chg g w3 w4)
  (hT : Blk w4 g 27 (topC r (setF (fun k => if k < i then ⟨some ⟨gs k, 0, none⟩, c, cap k⟩ else sd0) i ⟨some ⟨g3, 0, none⟩, c, cp⟩))) (hlo : lo ≤ g3) :
  Blk w4 g3 33 (rowC cp f0) ∧ g3 ≠ g ∧ Blk w4 g 27 (topC r fun k => if k < i + 1 then ⟨some ⟨setF gs i g3 k, 0, none⟩, c, setF cap i cp k⟩ else sd0) ∧
   ∀ w5, w4.grownBy w5 (some g3) → Blk w5 g 27 (topC r fun k => if k < i + 1 then ⟨some ⟨setF gs i g3 k, 0, none⟩, c, setF cap i cp k⟩ else sd0) ∧ (RO cn K w5 lo g3 cp c (F i) → MP cn K w5 lo g r c (i + 1) (setF gs i g3) (setF cap i cp) F) := by
 have l3 := hn.lo
 have lg := h.lt
 have hne : g3 ≠ g := by omega
 have hb := hn.blk.chg hc hne
 have hTe : topC r (setF (fun k => if k < i then (⟨some ⟨gs k, 0, none⟩, c, cap k⟩ : SD) else sd0) i ⟨some ⟨g3, 0, none⟩, c, cp⟩) = topC r (fun k => if k < i + 1 then (⟨some ⟨setF gs i g3 k, 0, none⟩, c, setF cap i cp k⟩ : SD) else sd0) := cv fun k _ => by
  by_cases hk : k = i
  ·subst hk; simp [setF]
  ·by_cases h' : k < i
   ·rw [aO _ _ hk, if_pos h', if_pos (by omega), aO _ _ hk, aO _ _ hk]
   ·rw [aO _ _ hk, if_neg h', if_neg (by omega)]
 rw [hTe] at hT
 have hT3 := h.top.ext hn.ex
 have hgk : ∀ k, k < i → gs k ≠ g3 := fun k hk => by have := (h.row k hk).lt; omega
 have hR4 : ∀ k, k < i → RO cn K w4 lo (gs k) (cap k) c (F k) := fun k hk => ((h.row k hk).ext hn.ex).gbN hT3 (bZ _ _) (bG hc) (h.off k hk)
 refine ⟨hb, hne, hT, fun w5 hG => ?_⟩
 have hT5 := hT.gb hG (fun e => hne (by cases e; rfl))
 refine ⟨hT5, fun hR => ⟨h.low, hT5, fun k hk => ?_, fun k hk => ?_, fun k k' hk hk' he => ?_⟩⟩
 ·by_cases hki : k = i
  ·subst hki; rw [aJ, aJ]; exact hR
  ·rw [aO _ _ hki, aO _ _ hki]
   exact (hR4 k (by omega)).gbN hb (bF _ _) hG (hgk k (by omega))
 ·by_cases hki : k = i
  ·subst hki; rw [aJ]; exact hne
  ·rw [aO _ _ hki]; exact h.off k (by omega)
 ·by_cases hki : k = i
  ·by_cases hki' : k' = i
   ·omega
   ·subst hki; rw [aJ, aO _ _ hki'] at he; exact absurd he.symm (hgk k' (by omega))
  ·by_cases hki' : k' = i
   ·subst hki'; rw [aJ, aO _ _ hki] at he; exact absurd he (hgk k (by omega))
   ·rw [aO _ _ hki, aO _ _ hki'] at he; exact h.inj k k' (by omega) (by omega) he
theorem MO.put {j : Nat} {hh : Nat → IH} {u : IH} {z : Int} (h : MO cn K w lo g r c gs cap F) (hi : i < r) (hb : Blk w (gs i) 33 (rowC (cap i) hh)) (he : ∀ j, j < c → Ent cn K w (hh j).val (F i j)) (hu : Ent cn K w u.val z)
  (hg : Chg (gs i) w w') (hb' : Blk w' (gs i) 33 (rowC (cap i) (setF hh j u))) : MO cn K w' lo g r c gs cap (setM F i j z) := by
 refine ⟨h.low, h.top.chg hg (fun e => h.off i hi e.symm), fun k hk => ?_, h.off, h.inj⟩
 by_cases hki : k = i
 ·subst hki; rw [oh]; exact RO.put (h.row k hk).low (h.row k hk).le hb he hu hg hb'
 ·rw [p8 _ _ _ hki]; exact (h.row k hk).gbN hb (bF _ _) (bG hg) (fun e => hki (h.inj k i hk hi e))
theorem MO.get {k : Nat} (h : MO cn K w lo g r c gs cap F) (hk : k < r) : ∃ hh : Nat → IH, Blk w (gs k) 33 (rowC (cap k) hh) ∧ c ≤ cap k ∧ ∀ j, j < c → Ent cn K w (hh j).val (F k j) := by
 obtain ⟨hh, h1, h2⟩ := (h.row k hk).ex; exact ⟨hh, h1, (h.row k hk).le, h2⟩
def swp2 (i j k : Nat) : Nat := if k = i then j else if k = j then i else k
theorem du {i j k n : Nat} (hi : i < n) (hj : j < n) (hk : k < n) : swp2 i j k < n := by unfold swp2; split; omega; split <;> omega
theorem ol {i j k l : Nat} (h : swp2 i j k = swp2 i j l) : k = l := by
 have inv : ∀ m, swp2 i j (swp2 i j m) = m := fun m => by
  unfold swp2
  by_cases a : m = i
  ·rw [if_pos a]
   by_cases b : j = i
   ·rw [if_pos b]; omega
   ·rw [if_neg b, if_pos rfl]; omega
  ·rw [if_neg a]
   by_cases b : m = j
   ·rw [if_pos b, if_pos rfl]; omega
   ·rw [if_neg b, if_neg a, if_neg b]
 rw [← inv k, h, inv]
theorem MO.swap {j : Nat} {w1 : World} (h : MO cn K w lo g r c gs cap F) (hi : i < r) (hj : j < r) (h1 : Chg g w w1) (h2 : Chg g w1 w')
  (hb : Blk w' g 27 (topC r (setF (setF (fun k => (⟨some ⟨gs k, 0, none⟩, c, cap k⟩ : SD)) i ⟨some ⟨gs j, 0, none⟩, c, cap j⟩) j ⟨some ⟨gs i, 0, none⟩, c, cap i⟩))) :
  MO cn K w' lo g r c (fun k => gs (swp2 i j k)) (fun k => cap (swp2 i j k)) (fun k => F (swp2 i j k)) := by
 refine ⟨h.low, ?_, fun k hk => ?_, fun k hk => h.off _ (du hi hj hk), fun k l hk hl he => ol (h.inj _ _ (du hi hj hk) (du hi hj hl) he)⟩
 ·rw [cv (s' := setF (setF (fun k => (⟨some ⟨gs k, 0, none⟩, c, cap k⟩ : SD)) i ⟨some ⟨gs j, 0, none⟩, c, cap j⟩) j ⟨some ⟨gs i, 0, none⟩, c, cap i⟩) (fun k hk => ?_)]
  ·exact hb
  ·unfold swp2 setF
   by_cases a : k = j
   ·subst a; by_cases b : k = i
    ·subst b; simp
    ·simp [b]
   ·by_cases b : k = i
    ·subst b; simp [a]
    ·simp [a, b]
 ·exact (h.row _ (du hi hj hk)).gbN h.top (bZ _ _) (bL (bG h1) (bG h2) (fun _ e => .inl e)) (h.off _ (du hi hj hk))
end
theorem Ent.up {cn : Bool} {K K' : Nat} {w : World} {v : Value} {z : Int} (h : Ent cn K w v z) (hK : K ≤ K') : Ent cn K' w v z := ⟨h.k.mono hK, h.c⟩
theorem RO.up {cn : Bool} {K K' lo g cap n : Nat} {w : World} {f : Nat → Int} (h : RO cn K w lo g cap n f) (hK : K ≤ K') : RO cn K' w lo g cap n f := by
 obtain ⟨hh, h1, h2⟩ := h.ex; exact ⟨h.low, h.le, hh, h1, fun i hi => (h2 i hi).up hK⟩
theorem RX.up {cn : Bool} {K K' n : Nat} {w : World} {s : SD} {f : Nat → Int} (h : RX cn K w s n f) (hK : K ≤ K') : RX cn K' w s n f := by
 obtain ⟨hh, h1, h2⟩ := h.ex; exact ⟨h.len, h.cap, hh, h1, fun i hi => (h2 i hi).up hK⟩
theorem MO.up {cn : Bool} {K K' r c lo g : Nat} {w : World} {gs cap : Nat → Nat} {F : Nat → Nat → Int} (h : MO cn K w lo g r c gs cap F) (hK : K ≤ K') : MO cn K' w lo g r c gs cap F := ⟨h.low, h.top, fun i hi => (h.row i hi).up hK, h.off, h.inj⟩
theorem MX.up {cn : Bool} {K K' r c : Nat} {w : World} {a : Option Addr} {s : Nat → SD} {F : Nat → Nat → Int} (h : MX cn K w a r c s F) (hK : K ≤ K') : MX cn K' w a r c s F := ⟨h.top, fun i hi => (h.row i hi).up hK⟩
theorem BdJ.lb {n k K : Nat} {A W : Mat} {s last : Int} (h : BdJ n A k s W last) (hb : ∀ r c, r < n → c < n → Lb K (A r c)) (hn : n ≤ 16) : (∀ i j, k ≤ i → i < n → k ≤ j → j < n → Lb (16 * K + 17) (W i j)) ∧ Lb (16 * K + 17) last := by
 obtain ⟨h1, h2⟩ := h.abs (b := 4294967296 ^ K) (fun r c hr hc => Nat.le_of_lt (hb r c hr hc))
 have hk : k ≤ n := by obtain ⟨N, hN⟩ := h; exact hN.1
 have key : ∀ m, m ≤ 16 → ∀ z : Int, z.natAbs ≤ (m * 4294967296 ^ K) ^ m → Lb (16 * K + 17) z := fun m hm z hz => by
  unfold Lb
  refine Nat.lt_of_le_of_lt hz ?_
  have e1 : m * 4294967296 ^ K ≤ 4294967296 ^ (K + 1) := by rw [Nat.pow_succ, Nat.mul_comm]; exact Nat.mul_le_mul_left _ (by omega)
  have e2 := Nat.pow_le_pow_left e1 m
  rw [← Nat.pow_mul] at e2
  refine Nat.lt_of_le_of_lt e2 (Nat.pow_lt_pow_right (by decide) ?_)
  have : (K + 1) * m ≤ (K + 1) * 16 := Nat.mul_le_mul_left _ hm
  omega
 refine ⟨fun i j hi hin hj hjn => key (k + 1) (by omega) _ (h1 i j hi hin hj hjn), key k (by omega) _ h2⟩
end Go.Proofs.YtppipmkpmmdcjaaGreat
