/- Determinants of integer matrices in plain Lean: alternating functions, products, triangular matrices. No program in sight. -/
import Derived.Test.YtpfhfldehaiokaaGreatA05
namespace Go.LA
abbrev Mat := Nat → Nat → Int
abbrev Vec := Nat → Int
def sm : Nat → (Nat → Int) → Int
 | 0, _ => 0
 | n + 1, f => sm n f + f n
theorem dm (f : Nat → Int) : sm 0 f = 0 := rfl
theorem bG (n : Nat) (f : Nat → Int) : sm (n + 1) f = sm n f + f n := rfl
theorem aS {n : Nat} {f g : Nat → Int} (h : ∀ i, i < n → f i = g i) : sm n f = sm n g := by
 induction n with
 | zero => rfl
 | succ n ih => rw [bG, bG, ih (fun i hi => h i (by omega)), h n (by omega)]
theorem dU (n : Nat) (f g : Nat → Int) : sm n (fun i => f i + g i) = sm n f + sm n g := by
 induction n with
 | zero => rfl
 | succ n ih => rw [bG, bG, bG, ih]; omega
theorem bN (n : Nat) (a : Int) (f : Nat → Int) : sm n (fun i => a * f i) = a * sm n f := by
 induction n with
 | zero => simp [sm]
 | succ n ih => rw [bG, bG, ih, Int.mul_add]
theorem eM (n : Nat) (a : Int) (f : Nat → Int) : sm n (fun i => f i * a) = sm n f * a := by
 induction n with
 | zero => simp [sm]
 | succ n ih => rw [bG, bG, ih, Int.add_mul]
theorem ou (n : Nat) (f : Nat → Int) : sm n (fun i => - f i) = - sm n f := by
 induction n with
 | zero => rfl
 | succ n ih => rw [bG, bG, ih]; omega
theorem fe {n : Nat} {f : Nat → Int} (h : ∀ i, i < n → f i = 0) : sm n f = 0 := by
 induction n with
 | zero => rfl
 | succ n ih => rw [bG, ih (fun i hi => h i (by omega)), h n (by omega)]; rfl
theorem cz {n k : Nat} {f : Nat → Int} (hk : k < n) (h : ∀ i, i < n → i ≠ k → f i = 0) : sm n f = f k := by
 induction n with
 | zero => omega
 | succ n ih =>
  rw [bG]
  by_cases e : k = n
  ·subst e; rw [fe (fun i hi => h i (by omega) (by omega))]; omega
  ·rw [ih (by omega) (fun i hi => h i (by omega)), h n (by omega) (by omega)]; omega
theorem iF (n : Nat) (f : Nat → Int) : sm (n + 1) f = f 0 + sm n (fun i => f (i + 1)) := by
 induction n with
 | zero => simp [sm]
 | succ n ih => rw [bG, ih, bG]; omega
theorem fY (n m : Nat) (f : Nat → Nat → Int) : sm n (fun i => sm m (fun j => f i j)) = sm m (fun j => sm n (fun i => f i j)) := by
 induction n with
 | zero => simp only [dm]; rw [fe (fun _ _ => rfl)]
 | succ n ih => rw [bG, ih, ← dU]; exact aS fun i _ => by rw [bG]
theorem fH (n m : Nat) (f : Nat → Int) : sm (n + m) f = sm n f + sm m (fun i => f (n + i)) := by
 induction m with
 | zero => simp [sm]
 | succ m ih => rw [← Nat.add_assoc, bG, ih, bG]; omega
def sgn (j : Nat) : Int := if j % 2 = 0 then 1 else -1
theorem d5 : sgn 0 = 1 := rfl
theorem e7 (j : Nat) : sgn (j + 1) = - sgn j := by
 unfold sgn
 by_cases h : j % 2 = 0
 ·rw [if_pos h, if_neg (by omega)]
 ·rw [if_neg h, if_pos (by omega)]; rfl
theorem uf (j : Nat) : sgn j * sgn j = 1 := by unfold sgn; split <;> rfl
def sk (i k : Nat) : Nat := if k < i then k else k + 1
theorem ug (i k : Nat) : sk i k ≠ i := by unfold sk; split <;> omega
theorem pK {i k n : Nat} (h : k < n) : sk i k < n + 1 := by unfold sk; split <;> omega
theorem rJ (k : Nat) : sk 0 k = k + 1 := by unfold sk; simp
theorem vW {j k : Nat} (h : j ≤ k) (c : Nat) : sk j (sk k c) = sk (k + 1) (sk j c) := by
 unfold sk
 by_cases h1 : c < k <;> by_cases h2 : c < j <;> simp only [h1, h2, if_true, if_false] <;> (repeat' split) <;> omega
theorem uh {j k : Nat} (h : j ≤ k) : sk (k + 1) j = j := by unfold sk; rw [if_pos (by omega)]
theorem rK {j k : Nat} (h : j ≤ k) : sk j k = k + 1 := by unfold sk; rw [if_neg (by omega)]
def det : Nat → Mat → Int
 | 0, _ => 1
 | n + 1, M => sm (n + 1) fun j => sgn j * M 0 j * det n (fun r c => M (r + 1) (sk j c))
theorem cA (M : Mat) : det 0 M = 1 := rfl
theorem cd (n : Nat) (M : Mat) : det (n + 1) M = sm (n + 1) fun j => sgn j * M 0 j * det n (fun r c => M (r + 1) (sk j c)) := rfl
theorem eE (M : Mat) : det 1 M = M 0 0 := by rw [cd, bG, dm, cA, d5]; omega
theorem bj : ∀ {n : Nat} {M M' : Mat}, (∀ r c, r < n → c < n → M r c = M' r c) → det n M = det n M'
 | 0, _, _, _ => rfl
 | n + 1, M, M', h => by
  rw [cd, cd]
  exact aS fun j hj => by rw [h 0 j (by omega) hj, bj (M' := fun r c => M' (r + 1) (sk j c)) fun r c hr hc => h (r + 1) (sk j c) (by omega) (pK hc)]
def rw' (M : Mat) (r : Nat) (v : Vec) : Mat := fun i c => if i = r then v c else M i c
theorem cO (M : Mat) (r : Nat) (v : Vec) (c : Nat) : rw' M r v r c = v c := by unfold rw'; rw [if_pos rfl]
theorem dE (M : Mat) {r i : Nat} (v : Vec) (c : Nat) (h : i ≠ r) : rw' M r v i c = M i c := by unfold rw'; rw [if_neg h]
structure Alt (n m : Nat) (f : Mat → Int) : Prop where
 congr : ∀ M M' : Mat, (∀ r c, r < n → c < m → M r c = M' r c) → f M = f M'
 lin : ∀ (M : Mat) (r : Nat) (a b : Int) (u v : Vec), r < n → f (rw' M r fun c => a * u c + b * v c) = a * f (rw' M r u) + b * f (rw' M r v)
 alt : ∀ (M : Mat) (r r' : Nat), r < r' → r' < n → (∀ c, c < m → M r c = M r' c) → f M = 0
theorem Alt.self {n m : Nat} {f : Mat → Int} (h : Alt n m f) (M : Mat) (r : Nat) {v : Vec} (hv : ∀ c, c < m → v c = M r c) : f (rw' M r v) = f M :=
 h.congr _ _ fun i c _ hc => by
  by_cases e : i = r
  ·subst e; rw [cO, hv c hc]
  ·rw [dE _ _ _ e]
theorem Alt.add {n m : Nat} {f : Mat → Int} (h : Alt n m f) (M : Mat) {r : Nat} (hr : r < n) (u v : Vec) : f (rw' M r fun c => u c + v c) = f (rw' M r u) + f (rw' M r v) := by
 have := h.lin M r 1 1 u v hr
 simp only [Int.one_mul] at this
 exact this
theorem Alt.smul {n m : Nat} {f : Mat → Int} (h : Alt n m f) (M : Mat) {r : Nat} (hr : r < n) (a : Int) (u : Vec) : f (rw' M r fun c => a * u c) = a * f (rw' M r u) := by
 have := h.lin M r a 0 u u hr
 simp only [Int.zero_mul, Int.add_zero] at this
 exact this
theorem iV (M : Mat) {r r' : Nat} (h : r ≠ r') (u v : Vec) : rw' (rw' M r u) r' v = rw' (rw' M r' v) r u := by
 funext i c
 unfold rw'
 by_cases e : i = r <;> by_cases e' : i = r'
 ·omega
 ·rw [if_neg e', if_pos e, if_pos e]
 ·rw [if_pos e', if_neg e, if_pos e']
 ·rw [if_neg e', if_neg e, if_neg e, if_neg e']
theorem ov (M : Mat) (r : Nat) : rw' M r (M r) = M := by
 funext i c
 unfold rw'
 split
 ·rename_i e; rw [e]
 ·rfl
def swp (M : Mat) (r r' : Nat) : Mat := rw' (rw' M r (M r')) r' (M r)
theorem Alt.eqrows {n m : Nat} {f : Mat → Int} (h : Alt n m f) {M : Mat} {r r' : Nat} (hne : r ≠ r') (hr : r < n) (hr' : r' < n) (he : ∀ c, c < m → M r c = M r' c) : f M = 0 := by
 rcases Nat.lt_or_gt_of_ne hne with hlt | hlt
 ·exact h.alt M r r' hlt hr' he
 ·exact h.alt M r' r hlt hr fun c hc => (he c hc).symm
theorem Alt.two {n m : Nat} {f : Mat → Int} (h : Alt n m f) (M : Mat) {r r' : Nat} (hne : r ≠ r') (hr : r < n) (hr' : r' < n) (u v : Vec) : f (rw' (rw' M r u) r' v) = - f (rw' (rw' M r v) r' u) := by
 have h0 : f (rw' (rw' M r fun c => u c + v c) r' fun c => u c + v c) = 0 := h.eqrows hne hr hr' fun c _ => by rw [cO, dE _ _ _ hne, cO]
 have hz : ∀ x : Vec, f (rw' (rw' M r x) r' x) = 0 := fun x => h.eqrows hne hr hr' fun c _ => by rw [cO, dE _ _ _ hne, cO]
 rw [h.add _ hr', iV M hne, h.add _ hr, iV M hne, h.add _ hr, ← iV M hne, ← iV M hne, ← iV M hne, ← iV M hne, hz u, hz v] at h0
 omega
theorem Alt.swap {n m : Nat} {f : Mat → Int} (h : Alt n m f) (M : Mat) {r r' : Nat} (hne : r ≠ r') (hr : r < n) (hr' : r' < n) : f (swp M r r') = - f M := by
 unfold swp
 rw [h.two M hne hr hr', ov, ov]
theorem Alt.addrow {n m : Nat} {f : Mat → Int} (h : Alt n m f) (M : Mat) {r r' : Nat} (hne : r ≠ r') (hr : r < n) (hr' : r' < n) (a : Int) : f (rw' M r fun c => M r c + a * M r' c) = f M := by
 rw [h.add _ hr, h.smul _ hr, ov, h.eqrows (M := rw' M r (M r')) hne hr hr' fun c _ => by rw [cO, dE _ _ _ (Ne.symm hne)]]
 omega
theorem Alt.sum {n m : Nat} {f : Mat → Int} (h : Alt n m f) (M : Mat) {r : Nat} (hr : r < n) (a : Nat → Int) (u : Nat → Vec) : ∀ k, f (rw' M r fun c => sm k fun j => a j * u j c) = sm k fun j => a j * f (rw' M r (u j))
 | 0 => by
  have := h.smul M hr 0 (fun _ => 0)
  simp only [Int.zero_mul] at this
  simpa [sm] using this
 | k + 1 => by
  simp only [bG]
  rw [h.add M hr, h.sum M hr a u k, h.smul M hr]
theorem rL : ∀ (n : Nat) (M : Mat) (r : Nat) (a b : Int) (u v : Vec), r < n → det n (rw' M r fun c => a * u c + b * v c) = a * det n (rw' M r u) + b * det n (rw' M r v)
 | 0, _, _, _, _, _, _, h => by omega
 | n + 1, M, 0, a, b, u, v, _ => by
  rw [cd, cd, cd, ← bN, ← bN, ← dU]
  refine aS fun j _ => ?_
  simp only [cO]
  have e : ∀ x : Vec, (fun r c => rw' M 0 x (r + 1) (sk j c)) = fun r c => M (r + 1) (sk j c) := fun x => by funext r c; rw [dE _ _ _ (by omega)]
  rw [e, e, e]
  grind
 | n + 1, M, r + 1, a, b, u, v, h => by
  rw [cd, cd, cd, ← bN, ← bN, ← dU]
  refine aS fun j _ => ?_
  have e : ∀ x : Vec, (fun i c => rw' M (r + 1) x (i + 1) (sk j c)) = rw' (fun i c => M (i + 1) (sk j c)) r fun c => x (sk j c) := fun x => by
   funext i c
   unfold rw'
   by_cases e : i = r
   ·rw [if_pos e, if_pos (by omega)]
   ·rw [if_neg e, if_neg (by omega)]
  rw [e, e, e, rL n _ r a b (fun c => u (sk j c)) (fun c => v (sk j c)) (by omega), dE _ _ _ (by omega), dE _ _ _ (by omega), dE _ _ _ (by omega)]
  grind
theorem ui (T : Nat → Nat → Int) : ∀ N, sm (N + 1) (fun j => sm N fun k => T j k) = sm N fun k => sm (k + 1) fun j => T j k + T (k + 1) j
 | 0 => by simp [sm]
 | N + 1 => by
  rw [bG N, ← ui T N, bG (N + 1), dU (N + 1) (fun j => T j N) (fun j => T (N + 1) j)]
  have : sm (N + 1) (fun j => sm (N + 1) fun k => T j k) = sm (N + 1) (fun j => sm N fun k => T j k) + sm (N + 1) fun j => T j N := by rw [← dU]; rfl
  rw [this]
  omega
theorem nJ (n : Nat) (M : Mat) (h : ∀ c, c < n + 2 → M 0 c = M 1 c) : det (n + 2) M = 0 := by
 have e : det (n + 2) M = sm (n + 2) fun j => sm (n + 1) fun k => sgn j * M 0 j * (sgn k * M 1 (sk j k) * det n fun r c => M (r + 2) (sk j (sk k c))) := by
  rw [cd]
  exact aS fun j _ => by rw [cd, ← bN]
 rw [e, ui]
 refine fe fun k hk => fe fun j hj => ?_
 have hj' : j ≤ k := by omega
 rw [uh hj', rK hj', e7, ← h j (by omega), ← h (k + 1) (by omega)]
 have e2 : (fun r c => M (r + 2) (sk j (sk k c))) = fun r c => M (r + 2) (sk (k + 1) (sk j c)) := by funext r c; rw [vW hj']
 rw [e2]
 grind
theorem dB : ∀ n, Alt n n (det n)
 | 0 => ⟨fun _ _ _ => rfl, fun _ _ _ _ _ _ h => by omega, fun _ _ _ _ h => by omega⟩
 | n + 1 => by
  have ih := dB n
  have hge : ∀ (M : Mat) (r r' : Nat), r < r' → r' < n → (∀ c, c < n + 1 → M (r + 1) c = M (r' + 1) c) → det (n + 1) M = 0 := fun M r r' h1 h2 h3 => by
   rw [cd]
   refine fe fun j _ => ?_
   rw [ih.alt _ r r' h1 h2 fun c hc => h3 _ (pK hc)]
   omega
  have hsw : ∀ (M : Mat) (r r' : Nat), r ≠ r' → r < n → r' < n → det (n + 1) (swp M (r + 1) (r' + 1)) = - det (n + 1) M := fun M r r' h1 h2 h3 => by
   rw [cd, cd, ← ou]
   refine aS fun j _ => ?_
   have e : (fun i c => swp M (r + 1) (r' + 1) (i + 1) (sk j c)) = swp (fun i c => M (i + 1) (sk j c)) r r' := by
    funext i c
    unfold swp rw'
    by_cases e1 : i = r' <;> by_cases e2 : i = r
    ·simp [e1]
    ·simp [e1]
    ·simp [e2, h1]
    ·simp [e1, e2]
   rw [e, ih.swap _ h1 h2 h3]
   have e0 : swp M (r + 1) (r' + 1) 0 j = M 0 j := by unfold swp rw'; rw [if_neg (by omega), if_neg (by omega)]
   rw [e0]
   grind
  refine ⟨fun M M' h => bj h, rL (n + 1), fun M r r' h1 h2 h3 => ?_⟩
  cases r with
  | succ r =>
   cases r' with
   | zero => omega
   | succ r' => exact hge M r r' (by omega) (by omega) h3
  | zero =>
   cases r' with
   | zero => omega
   | succ r' =>
    cases n with
    | zero => omega
    | succ n =>
     by_cases e : r' = 0
     ·subst e; exact nJ n M h3
     ·have := hsw M 0 r' (by omega) (by omega) (by omega)
      rw [nJ n (swp M (0 + 1) (r' + 1)) fun c hc => ?_] at this
      ·omega
      ·show swp M 1 (r' + 1) 0 c = swp M 1 (r' + 1) 1 c
       unfold swp rw'
       rw [if_neg (by omega), if_neg (by omega), if_neg (by omega), if_pos rfl]
       exact h3 c hc
def idM : Mat := fun i j => if i = j then 1 else 0
theorem bB (i : Nat) : idM i i = 1 := if_pos rfl
theorem bH {i j : Nat} (h : i ≠ j) : idM i j = 0 := if_neg h
def emb (j : Nat) (A : Mat) : Mat := fun i c => match i with
 | 0 => idM j c
 | i + 1 => if c = j then 0 else A i (if c < j then c else c - 1)
theorem xq (j : Nat) (A : Mat) (i : Nat) : emb j A (i + 1) j = 0 := if_pos rfl
theorem xr (j : Nat) (A : Mat) (r : Nat) (v : Vec) : emb j (rw' A r v) = rw' (emb j A) (r + 1) fun c => if c = j then 0 else v (if c < j then c else c - 1) := by
 funext i c
 cases i with
 | zero => rw [dE _ _ _ (by omega)]; rfl
 | succ i =>
  by_cases e : i = r
  ·subst e; rw [cO]; show (if c = j then 0 else rw' A i v i _) = _; rw [cO]
  ·rw [dE _ _ _ (by omega)]; show (if c = j then 0 else rw' A r v i _) = _; rw [dE _ _ _ e]; rfl
theorem vX {n j : Nat} {f : Mat → Int} (hj : j < n + 1) (h : Alt (n + 1) (n + 1) f) : Alt n n fun A => f (emb j A) := by
 have hcol : ∀ c, c < n + 1 → c ≠ j → (if c < j then c else c - 1) < n := fun c hc hne => by split <;> omega
 refine ⟨fun M M' hM => h.congr _ _ fun r c hr hc => ?_, fun M r a b u v hr => ?_, fun M r r' h1 h2 h3 => ?_⟩
 ·cases r with
  | zero => rfl
  | succ r =>
   show (if c = j then 0 else M r _) = if c = j then 0 else M' r _
   by_cases e : c = j
   ·rw [if_pos e, if_pos e]
   ·rw [if_neg e, if_neg e, hM r _ (by omega) (hcol c hc e)]
 ·simp only [xr]
  rw [← h.lin _ _ a b _ _ (by omega)]
  congr 2
  funext c
  by_cases e : c = j
  ·simp [e]
  ·simp [e]
 ·refine h.alt _ (r + 1) (r' + 1) (by omega) (by omega) fun c hc => ?_
  show (if c = j then 0 else M r _) = if c = j then 0 else M r' _
  by_cases e : c = j
  ·rw [if_pos e, if_pos e]
  ·rw [if_neg e, if_neg e, h3 _ (hcol c hc e)]
theorem ul {n : Nat} {f : Mat → Int} (h : Alt (n + 1) (n + 1) f) : ∀ j, j < n + 1 → f (emb j idM) = sgn j * f idM
 | 0, _ => by
  rw [d5, Int.one_mul]
  refine h.congr _ _ fun r c _ _ => ?_
  cases r with
  | zero => rfl
  | succ r =>
   show (if c = 0 then 0 else idM r _) = _
   by_cases e : c = 0
   ·rw [if_pos e, bH (by omega)]
   ·rw [if_neg e, if_neg (by omega)]
    by_cases e' : r + 1 = c
    ·subst e'; rw [bB]; exact bB _
    ·rw [bH e', bH (by omega)]
 | j + 1, hj => by
  have := h.swap (emb j idM) (r := 0) (r' := j + 1) (by omega) (by omega) hj
  rw [ul h j (by omega)] at this
  rw [e7, Int.neg_mul, ← this]
  refine h.congr _ _ fun r c _ _ => ?_
  unfold swp rw'
  cases r with
  | zero =>
   rw [if_neg (by omega), if_pos rfl]
   show idM (j + 1) c = if c = j then 0 else idM j (if c < j then c else c - 1)
   by_cases e : c = j
   ·rw [if_pos e, bH (by omega)]
   ·rw [if_neg e]
    by_cases e' : j + 1 = c
    ·subst e'; rw [if_neg (by omega), bB]; exact (bB _).symm
    ·rw [bH e', bH (by split <;> omega)]
  | succ r =>
   by_cases e : r = j
   ·subst e
    rw [if_pos rfl]
    show (if c = r + 1 then 0 else idM r (if c < r + 1 then c else c - 1)) = idM r c
    by_cases e1 : c = r + 1
    ·rw [if_pos e1, bH (by omega)]
    ·rw [if_neg e1]
     by_cases e2 : c < r + 1
     ·rw [if_pos e2]
     ·rw [if_neg e2, bH (by omega), bH (by omega)]
   ·rw [if_neg (by omega), if_neg (by omega)]
    show (if c = j + 1 then 0 else idM r (if c < j + 1 then c else c - 1)) = if c = j then 0 else idM r (if c < j then c else c - 1)
    by_cases e1 : c = j
    ·subst e1
     rw [if_neg (by omega), if_pos rfl, if_pos (by omega), bH e]
    ·by_cases e2 : c = j + 1
     ·subst e2
      rw [if_pos rfl, if_neg (by omega), if_neg (by omega), bH (by omega)]
     ·rw [if_neg e1, if_neg e2]
      congr 1
      by_cases e3 : c < j
      ·rw [if_pos e3, if_pos (by omega)]
      ·rw [if_neg e3, if_neg (by omega)]
theorem Alt.unique : ∀ {n : Nat} {f : Mat → Int}, Alt n n f → ∀ M, f M = det n M * f idM
 | 0, f, h, M => by rw [cA, Int.one_mul]; exact h.congr _ _ fun r c hr => by omega
 | n + 1, f, h, M => by
  have h1 : f M = sm (n + 1) fun j => M 0 j * f (rw' M 0 (idM j)) := by
   rw [← h.sum M (by omega)]
   symm
   refine h.self M 0 fun c hc => ?_
   rw [cz hc fun i hi hne => by rw [bH hne]; omega]
   rw [bB, Int.mul_one]
  have h2 : ∀ j, j < n + 1 → f (rw' M 0 (idM j)) = f (emb j fun r c => M (r + 1) (sk j c)) := fun j hj => by
   have key : ∀ k, k ≤ n → f (rw' M 0 (idM j)) = f (fun r c => if r = 0 then idM j c else if r ≤ k ∧ c = j then 0 else M r c) := fun k => by
    induction k with
    | zero =>
     intro _
     refine h.congr _ _ fun r c _ _ => ?_
     unfold rw'
     by_cases e : r = 0
     ·rw [if_pos e, if_pos e]
     ·rw [if_neg e, if_neg e, if_neg (by omega)]
    | succ k ih =>
     intro hk
     rw [ih (by omega), ← h.addrow _ (r := k + 1) (r' := 0) (by omega) (by omega) (by omega) (-(M (k + 1) j))]
     refine h.congr _ _ fun r c _ _ => ?_
     by_cases e : r = k + 1
     ·subst e
      rw [cO]
      simp only [if_neg (show k + 1 ≠ 0 by omega), if_true]
      rw [if_neg (by omega)]
      by_cases e' : c = j
      ·subst e'; rw [bB, if_pos ⟨Nat.le_refl _, rfl⟩]; omega
      ·rw [bH (Ne.symm e'), if_neg (fun h => e' h.2)]; omega
     ·rw [dE _ _ _ e]
      by_cases e0 : r = 0
      ·rw [if_pos e0, if_pos e0]
      ·rw [if_neg e0, if_neg e0]
       by_cases e' : r ≤ k ∧ c = j
       ·rw [if_pos e', if_pos ⟨by omega, e'.2⟩]
       ·rw [if_neg e', if_neg (fun h => e' ⟨by omega, h.2⟩)]
   rw [key n (Nat.le_refl _)]
   refine h.congr _ _ fun r c hr hc => ?_
   cases r with
   | zero => rfl
   | succ r =>
    rw [if_neg (by omega)]
    by_cases e : c = j
    ·subst e; rw [if_pos ⟨by omega, rfl⟩, xq]
    ·rw [if_neg (fun h => e h.2)]
     show _ = if c = j then 0 else M (r + 1) (sk j (if c < j then c else c - 1))
     rw [if_neg e]
     congr 1
     unfold sk
     by_cases e' : c < j
     ·rw [if_pos e', if_pos e']
     ·rw [if_neg e', if_neg (by omega)]; omega
  rw [h1, cd, ← eM]
  refine aS fun j hj => ?_
  rw [h2 j hj, (vX hj h).unique, ul h j hj]
  grind
def mm (n : Nat) (A B : Mat) : Mat := fun i j => sm n fun k => A i k * B k j
theorem zf (n : Nat) (A B : Mat) (r : Nat) (v : Vec) : mm n (rw' A r v) B = rw' (mm n A B) r fun j => sm n fun k => v k * B k j := by
 funext i j
 unfold mm
 by_cases e : i = r
 ·subst e; rw [cO]; exact aS fun k _ => by rw [cO]
 ·rw [dE _ _ _ e]; exact aS fun k _ => by rw [dE _ _ _ e]
theorem um {n : Nat} (A : Mat) (i j : Nat) (hi : i < n) : mm n idM A i j = A i j := by
 unfold mm
 rw [cz hi fun k _ hne => by rw [bH (Ne.symm hne)]; omega]
 rw [bB, Int.one_mul]
theorem dN (n : Nat) (A B : Mat) : det n (mm n A B) = det n A * det n B := by
 have hd := dB n
 have h : Alt n n fun A => det n (mm n A B) := by
  refine ⟨fun M M' hM => bj fun r c hr _ => aS fun k hk => by rw [hM r k hr hk], fun M r a b u v hr => ?_, fun M r r' h1 h2 h3 => ?_⟩
  ·simp only [zf]
   rw [← hd.lin _ _ a b _ _ hr]
   congr 2
   funext c
   rw [← bN, ← bN, ← dU]
   exact aS fun k _ => by grind
  ·exact hd.alt _ r r' h1 h2 fun c _ => aS fun k hk => by rw [h3 k hk]
 rw [h.unique A]
 congr 1
 exact bj fun r c hr _ => um B r c hr
theorem ml : ∀ {n : Nat} {M : Mat}, (∀ r, r < n → M (r + 1) 0 = 0) → det (n + 1) M = M 0 0 * det n fun r c => M (r + 1) (c + 1)
 | 0, M, _ => by rw [eE, cA, Int.mul_one]
 | n + 1, M, h => by
  rw [cd, cz (k := 0) (by omega)]
  ·rw [d5, Int.one_mul]
   congr 1
  ·intro j hj hne
   have e : det (n + 1) (fun r c => M (r + 1) (sk j c)) = 0 := by
    rw [ml (M := fun r c => M (r + 1) (sk j c))]
    ·have : sk j 0 = 0 := by unfold sk; rw [if_pos (by omega)]
     rw [this, h 0 (by omega), Int.zero_mul]
    ·intro r hr
     have : sk j 0 = 0 := by unfold sk; rw [if_pos (by omega)]
     rw [this]; exact h (r + 1) (by omega)
   rw [e]; omega
theorem ut {n : Nat} {M : Mat} (hn : 0 < n) (h : ∀ r, r < n → M r 0 = 0) : det n M = 0 := by
 cases n with
 | zero => omega
 | succ n => rw [ml fun r hr => h (r + 1) (by omega), h 0 (by omega), Int.zero_mul]
theorem pL {n : Nat} {M : Mat} (h : ∀ c, c < n → M 0 (c + 1) = 0) : det (n + 1) M = M 0 0 * det n fun r c => M (r + 1) (c + 1) := by
 rw [cd, cz (k := 0) (by omega)]
 ·rw [d5, Int.one_mul]
  congr 1
 ·intro j hj hne
  obtain ⟨j, rfl⟩ : ∃ k, j = k + 1 := ⟨j - 1, by omega⟩
  rw [h j (by omega)]; omega
def pr : Nat → (Nat → Int) → Int
 | 0, _ => 1
 | n + 1, f => pr n f * f n
theorem mp (n : Nat) (f : Nat → Int) : pr (n + 1) f = f 0 * pr n fun i => f (i + 1) := by
 induction n with
 | zero => simp [pr]
 | succ n ih => rw [pr, ih, pr]; grind
theorem dC : ∀ {n : Nat} {M : Mat}, (∀ r c, c < n → r < c → M r c = 0) → det n M = pr n fun i => M i i
 | 0, _, _ => rfl
 | n + 1, M, h => by
  rw [pL fun c hc => h 0 (c + 1) (by omega) (by omega), dC fun r c hc hr => h (r + 1) (c + 1) (by omega) (by omega), mp]
theorem kg : ∀ {n : Nat} {M : Mat}, (∀ r c, r < n → c < r → M r c = 0) → det n M = pr n fun i => M i i
 | 0, _, _ => rfl
 | n + 1, M, h => by
  rw [ml fun r hr => h (r + 1) 0 (by omega) (by omega), kg fun r c hr hc => h (r + 1) (c + 1) (by omega) (by omega), mp]
theorem sL {k m : Nat} {M : Mat} (h : ∀ r c, r < k → k ≤ c → c < k + m → M r c = 0) : det (k + m) M = det k M * det m fun r c => M (k + r) (k + c) := by
 have hd := dB (k + m)
 have hf : Alt k k fun A => det (k + m) fun r c => if r < k then (if c < k then A r c else 0) else M r c := by
  have e : ∀ (A : Mat) (r : Nat) (v : Vec), r < k → (fun i c => if i < k then (if c < k then rw' A r v i c else 0) else M i c) = rw' (fun i c => if i < k then (if c < k then A i c else 0) else M i c) r fun c => if c < k then v c else 0 := fun A r v hr => by
   funext i c
   by_cases e : i = r
   ·subst e; rw [cO, if_pos hr, cO]
   ·rw [dE _ _ _ e, dE _ _ _ e]
  refine ⟨fun A A' hA => bj fun r c _ _ => ?_, fun A r a b u v hr => ?_, fun A r r' h1 h2 h3 => ?_⟩
  ·by_cases e1 : r < k
   ·rw [if_pos e1, if_pos e1]
    by_cases e2 : c < k
    ·rw [if_pos e2, if_pos e2, hA r c e1 e2]
    ·rw [if_neg e2, if_neg e2]
   ·rw [if_neg e1, if_neg e1]
  ·simp only [e _ _ _ hr]
   rw [← hd.lin _ _ a b _ _ (by omega)]
   congr 2
   funext c
   by_cases e2 : c < k
   ·simp only [if_pos e2]
   ·simp only [if_neg e2]; omega
  ·refine hd.alt _ r r' h1 (by omega) fun c _ => ?_
   rw [if_pos (by omega), if_pos h2]
   by_cases e2 : c < k
   ·rw [if_pos e2, if_pos e2, h3 c e2]
   ·rw [if_neg e2, if_neg e2]
 have h1 : det (k + m) M = det (k + m) fun r c => if r < k then (if c < k then M r c else 0) else M r c := bj fun r c hr hc => by
  by_cases e1 : r < k
  ·rw [if_pos e1]
   by_cases e2 : c < k
   ·rw [if_pos e2]
   ·rw [if_neg e2, h r c e1 (by omega) hc]
  ·rw [if_neg e1]
 rw [h1, hf.unique M]
 congr 1
 have key : ∀ (k : Nat) (M : Mat), det (k + m) (fun r c => if r < k then (if c < k then idM r c else 0) else M r c) = det m fun r c => M (k + r) (k + c) := by
  intro k
  induction k with
  | zero => intro M; rw [Nat.zero_add]; exact bj fun r c _ _ => by rw [if_neg (by omega), Nat.zero_add, Nat.zero_add]
  | succ k ih =>
   intro M
   rw [show k + 1 + m = (k + m) + 1 by omega, pL fun c hc => by
    rw [if_pos (by omega)]
    by_cases e : c + 1 < k + 1
    ·rw [if_pos e, bH (by omega)]
    ·rw [if_neg e]]
   rw [if_pos (by omega), if_pos (by omega), bB, Int.one_mul]
   have := ih fun r c => M (r + 1) (c + 1)
   rw [show (fun r c => M (k + 1 + r) (k + 1 + c)) = fun r c => M (k + r + 1) (k + c + 1) by funext r c; rw [show k + 1 + r = k + r + 1 by omega, show k + 1 + c = k + c + 1 by omega], ← this]
   refine bj fun r c _ _ => ?_
   by_cases e1 : r < k
   ·rw [if_pos e1, if_pos (by omega)]
    by_cases e2 : c < k
    ·rw [if_pos e2, if_pos (by omega)]
     by_cases e3 : r = c
     ·rw [e3, bB, bB]
     ·rw [bH e3, bH (by omega)]
    ·rw [if_neg e2, if_neg (by omega)]
   ·rw [if_neg e1, if_neg (by omega)]
 exact key k M
def mnr (M : Mat) (i j : Nat) : Mat := fun r c => M (sk i r) (sk j c)
def topr (M : Mat) (i : Nat) : Mat := fun r c => match r with
 | 0 => M i c
 | r + 1 => M (sk i r) c
theorem pM {n : Nat} (M : Mat) : ∀ i, i < n → det n (topr M i) = sgn i * det n M
 | 0, _ => by
  rw [d5, Int.one_mul]
  refine bj fun r c _ _ => ?_
  cases r with
  | zero => rfl
  | succ r => show M (sk 0 r) c = _; rw [rJ]
 | i + 1, hi => by
  have := (dB n).swap (topr M i) (r := 0) (r' := i + 1) (by omega) (by omega) hi
  rw [pM M i (by omega)] at this
  rw [e7, Int.neg_mul, ← this]
  refine bj fun r c _ _ => ?_
  unfold swp rw'
  cases r with
  | zero =>
   rw [if_neg (by omega), if_pos rfl]
   show M (i + 1) c = M (sk i i) c
   rw [rK (Nat.le_refl _)]
  | succ r =>
   by_cases e : r = i
   ·subst e
    rw [if_pos rfl]
    show M (sk (r + 1) r) c = M r c
    rw [uh (Nat.le_refl _)]
   ·rw [if_neg (by omega), if_neg (by omega)]
    show M (sk (i + 1) r) c = M (sk i r) c
    congr 1
    unfold sk
    by_cases e' : r < i
    ·rw [if_pos e', if_pos (by omega)]
    ·rw [if_neg e', if_neg (by omega)]
theorem rN (i : Nat) : ∀ j, sgn (i + j) = sgn i * sgn j
 | 0 => by rw [d5, Int.mul_one]; rfl
 | j + 1 => by rw [← Nat.add_assoc, e7, rN i j, e7]; grind
theorem ow {n : Nat} (M : Mat) {i : Nat} (hi : i < n + 1) : det (n + 1) M = sm (n + 1) fun j => M i j * (sgn (i + j) * det n (mnr M i j)) := by
 have h := pM M i hi
 have h2 : det (n + 1) M = sgn i * det (n + 1) (topr M i) := by rw [h, ← Int.mul_assoc, uf, Int.one_mul]
 rw [h2, cd, ← bN]
 refine aS fun j _ => ?_
 have e : sgn (i + j) = sgn i * sgn j := rN i j
 show sgn i * (sgn j * M i j * det n (fun r c => M (sk i r) (sk j c))) = _
 rw [e]
 unfold mnr
 grind
def adj (n : Nat) (M : Mat) : Mat := fun j i => sgn (i + j) * det (n - 1) (mnr M i j)
theorem gA {n : Nat} (M : Mat) {i k : Nat} (hi : i < n) (hk : k < n) : mm n M (adj n M) i k = det n M * idM i k := by
 obtain ⟨n, rfl⟩ : ∃ m, n = m + 1 := ⟨n - 1, by omega⟩
 unfold mm adj
 rw [Nat.add_sub_cancel]
 by_cases e : i = k
 ·subst e; rw [bB, Int.mul_one, ow M hi]
 ·rw [bH e, Int.mul_zero]
  have h0 : det (n + 1) (rw' M k (M i)) = 0 := (dB (n + 1)).eqrows (r := k) (r' := i) (Ne.symm e) hk hi fun c _ => by rw [cO, dE _ _ _ e]
  rw [ow _ hk] at h0
  rw [← h0]
  refine aS fun j _ => ?_
  rw [cO]
  congr 2
  refine bj fun r c _ _ => ?_
  unfold mnr
  rw [dE _ _ _ (ug _ _)]
def brd (M : Mat) (k i j : Nat) : Mat := fun r c => M (if r < k then r else i) (if c < k then c else j)
def bm (M : Mat) (k i j : Nat) : Int := det (k + 1) (brd M k i j)
theorem dO (M : Mat) (i j : Nat) : bm M 0 i j = M i j := by unfold bm; rw [eE]; rfl
theorem gJ (n : Nat) (a : Int) {f : Nat → Int} (h : ∀ i, i < n → f i = a) : pr n f = a ^ n := by
 induction n with
 | zero => simp [pr]
 | succ n ih => rw [pr, ih fun i hi => h i (by omega), h n (by omega), Int.pow_succ]
theorem uu (k m : Nat) (f : Nat → Int) : pr (k + m) f = pr k f * pr m fun i => f (k + i) := by
 induction m with
 | zero => simp [pr]
 | succ m ih => rw [← Nat.add_assoc, pr, ih, pr, Int.mul_assoc]
def sch (k : Nat) (M : Mat) : Mat := fun i j => det k M * M i j - sm k fun a => sm k fun b => M i a * (adj k M a b * M b j)
theorem uv (k m : Nat) (M : Mat) : det (k + m) M * det k M ^ m = det k M * det m fun r c => sch k M (k + r) (k + c) := by
 have h1 := dN (k + m) M (fun r c => if c < k then idM r c else if r < k then - sm k (fun b => adj k M r b * M b c) else det k M * idM r c)
 generalize hX : (fun r c => if c < k then idM r c else if r < k then - sm k (fun b => adj k M r b * M b c) else det k M * idM r c : Mat) = X at h1
 have x1 : ∀ r c, c < k → X r c = idM r c := fun r c hc => by rw [← hX]; simp only [hc, if_true]
 have x2 : ∀ r c, k ≤ c → r < k → X r c = - sm k (fun b => adj k M r b * M b c) := fun r c hc hr => by rw [← hX]; simp only [show ¬ c < k by omega, hr, if_true, if_false]
 have x3 : ∀ r c, k ≤ c → k ≤ r → X r c = det k M * idM r c := fun r c hc hr => by rw [← hX]; simp only [show ¬ c < k by omega, show ¬ r < k by omega, if_false]
 have h2 : det (k + m) X = det k M ^ m := by
  rw [kg fun r c hr hc => by
   by_cases e : c < k
   ·rw [x1 r c e, bH (by omega)]
   ·rw [x3 r c (by omega) (by omega), bH (by omega), Int.mul_zero]]
  rw [uu, gJ k 1 fun a ha => by rw [x1 a a ha, bB], gJ m (det k M) fun a _ => by rw [x3 _ _ (by omega) (by omega), bB, Int.mul_one]]
  rw [Int.one_pow, Int.one_mul]
 have e1 : ∀ r c, c < k → mm (k + m) M X r c = M r c := fun r c hc => by
  unfold mm
  rw [cz (show c < k + m by omega) fun a _ hne => by rw [x1 a c hc, bH hne, Int.mul_zero]]
  rw [x1 c c hc, bB, Int.mul_one]
 have e2 : ∀ r c, k ≤ c → c < k + m → mm (k + m) M X r c = sch k M r c := fun r c hc hc' => by
  unfold mm sch
  rw [fH, aS (n := k) (g := fun a => - sm k fun b => M r a * (adj k M a b * M b c)) fun a ha => by rw [x2 a c hc ha, bN]; grind]
  rw [ou, cz (n := m) (k := c - k) (by omega) fun a _ hne => by rw [x3 _ c hc (by omega), bH (by omega), Int.mul_zero, Int.mul_zero]]
  rw [show k + (c - k) = c by omega, x3 c c hc hc, bB]
  grind
 rw [h2, sL fun r c hr hc hc' => ?_] at h1
 ·rw [← h1]
  congr 1
  ·exact bj fun r c hr hc => e1 r c hc
  ·exact bj fun r c hr hc => e2 _ _ (by omega) (by omega)
 ·rw [e2 r c hc hc']
  unfold sch
  have : (sm k fun a => sm k fun b => M r a * (adj k M a b * M b c)) = sm k fun b => mm k M (adj k M) r b * M b c := by
   rw [fY]
   refine aS fun b _ => ?_
   unfold mm
   rw [← eM]
   exact aS fun a _ => by rw [Int.mul_assoc]
  rw [this, cz hr fun b hb hne => by rw [gA M hr hb, bH (Ne.symm hne), Int.mul_zero, Int.zero_mul]]
  rw [gA M hr hr, bB, Int.mul_one]
  omega
theorem sM {k : Nat} {M M' : Mat} (h : ∀ r c, r < k → c < k → M r c = M' r c) {a b : Nat} (_ha : a < k) (hb : b < k) : adj k M a b = adj k M' a b := by
 unfold adj mnr
 congr 1
 exact bj fun r c hr hc => h _ _ (by have := pK (i := b) hr; omega) (by have := pK (i := a) hc; omega)
theorem vY (M : Mat) (k i j : Nat) : det k (brd M k i j) = det k M := bj fun r c hr hc => by unfold brd; rw [if_pos hr, if_pos hc]
theorem uw {k : Nat} {M N : Mat} {i j i' j' : Nat} (h : ∀ r c, r < k → c < k → N r c = M r c) (hr : ∀ c, c < k → N i' c = M i c) (hc : ∀ r, r < k → N r j' = M r j) (hij : N i' j' = M i j) : sch k N i' j' = sch k M i j := by
 unfold sch
 rw [bj (M' := M) h, hij]
 congr 1
 exact aS fun a ha => aS fun b hb => by rw [hr a ha, hc b hb, sM h ha hb]
theorem qL {k : Nat} {M : Mat} (hz : det k M ≠ 0) (i j : Nat) : bm M k i j = sch k M i j := by
 have h := uv k 1 (brd M k i j)
 rw [vY, eE, Int.pow_succ, Int.pow_zero, Int.one_mul] at h
 have e : sch k (brd M k i j) (k + 0) (k + 0) = sch k M i j := by
  refine uw (fun r c hr hc => ?_) (fun c hc => ?_) (fun r hr => ?_) ?_ <;> unfold brd
  ·rw [if_pos hr, if_pos hc]
  ·rw [if_neg (by omega), if_pos hc]
  ·rw [if_pos hr, if_neg (by omega)]
  ·rw [if_neg (by omega), if_neg (by omega)]
 rw [e, Int.mul_comm (det k M)] at h
 exact Int.eq_of_mul_eq_mul_right hz h
theorem ux {k m : Nat} {M : Mat} (hz : det k M ≠ 0) : det (k + m) M * det k M ^ m = det k M * det m fun r c => bm M k (k + r) (k + c) := by
 rw [uv]
 congr 1
 exact bj fun r c _ _ => (qL hz _ _).symm
theorem oy {a : Int} (h : a ≠ 0) : ∀ n : Nat, a ^ n ≠ 0
 | 0 => by rw [Int.pow_zero]; omega
 | n + 1 => fun e => by
  rw [Int.pow_succ] at e
  rcases Int.mul_eq_zero.1 e with h' | h'
  ·exact oy h n h'
  ·exact h h'
theorem iW (M : Mat) : det 2 M = M 0 0 * M 1 1 - M 0 1 * M 1 0 := by
 rw [cd, bG, bG, dm, eE, eE, d5, e7, d5]
 have e1 : sk 0 0 = 1 := rfl
 have e2 : sk 1 0 = 0 := rfl
 simp only [e1, e2, Nat.zero_add]
 grind
theorem d8 {k : Nat} {M : Mat} (hz : det k M ≠ 0) (i j : Nat) : bm M (k + 1) i j * det k M = bm M k k k * bm M k i j - bm M k i k * bm M k k j := by
 have h := uv k 2 (brd M (k + 1) i j)
 have e0 : det k (brd M (k + 1) i j) = det k M := bj fun r c hr hc => by unfold brd; rw [if_pos (by omega), if_pos (by omega)]
 rw [e0, iW] at h
 have hN : ∀ r c, r < k → c < k → brd M (k + 1) i j r c = M r c := fun r c hr hc => by unfold brd; rw [if_pos (by omega), if_pos (by omega)]
 have g : ∀ x y, x < 2 → y < 2 → sch k (brd M (k + 1) i j) (k + x) (k + y) = bm M k (if x = 0 then k else i) (if y = 0 then k else j) := fun x y hx hy => by
  rw [qL hz]
  refine uw hN (fun c hc => ?_) (fun r hr => ?_) ?_ <;> unfold brd
  ·rw [if_pos (show c < k + 1 by omega)]
   by_cases e : x = 0
   ·subst e; rw [if_pos (by omega), if_pos rfl]; rfl
   ·rw [if_neg (by omega), if_neg e]
  ·rw [if_pos (show r < k + 1 by omega)]
   by_cases e : y = 0
   ·subst e; rw [if_pos (by omega), if_pos rfl]; rfl
   ·rw [if_neg (by omega), if_neg e]
  ·by_cases e : x = 0 <;> by_cases e' : y = 0
   ·subst e; subst e'; rw [if_pos (by omega), if_pos (by omega), if_pos rfl]; rfl
   ·subst e; rw [if_pos (by omega), if_neg (by omega), if_pos rfl, if_neg e']; rfl
   ·subst e'; rw [if_neg (by omega), if_pos (by omega), if_neg e, if_pos rfl]; rfl
   ·rw [if_neg (by omega), if_neg (by omega), if_neg e, if_neg e']
 rw [g 0 0 (by omega) (by omega), g 1 1 (by omega) (by omega), g 0 1 (by omega) (by omega), g 1 0 (by omega) (by omega)] at h
 simp only [if_true, show ¬ (1 = 0) by omega, if_false] at h
 have h' : (bm M (k + 1) i j * det k M) * det k M = (bm M k k k * bm M k i j - bm M k i k * bm M k k j) * det k M := by
  have e : det (k + 2) (brd M (k + 1) i j) = bm M (k + 1) i j := rfl
  rw [e] at h
  have e2 : det k M ^ 2 = det k M * det k M := by rw [show (2 : Nat) = 1 + 1 from rfl, Int.pow_succ, Int.pow_succ, Int.pow_zero, Int.one_mul]
  rw [e2] at h
  grind
 exact Int.eq_of_mul_eq_mul_right hz h'
theorem d9 (M : Mat) (k : Nat) : bm M k k k = det (k + 1) M := bj fun r c hr hc => by
 unfold brd
 by_cases e : r < k <;> by_cases e' : c < k
 ·rw [if_pos e, if_pos e']
 ·rw [if_pos e, if_neg e', show c = k by omega]
 ·rw [if_neg e, if_pos e', show r = k by omega]
 ·rw [if_neg e, if_neg e', show r = k by omega, show c = k by omega]
theorem pN {n k : Nat} {M : Mat} (hk : k < n) (hz : det k M ≠ 0) (h : ∀ i, k ≤ i → i < n → bm M k i k = 0) : det n M = 0 := by
 obtain ⟨m, rfl⟩ : ∃ m, n = k + m := ⟨n - k, by omega⟩
 have h1 := ux (m := m) hz
 rw [ut (M := fun r c => bm M k (k + r) (k + c)) (by omega) fun r hr => h _ (by omega) (by omega), Int.mul_zero] at h1
 rcases Int.mul_eq_zero.1 h1 with h | h
 ·exact h
 ·exact absurd h (oy hz m)
def BdJ (n : Nat) (A : Mat) (k : Nat) (s : Int) (W : Mat) (last : Int) : Prop :=
 ∃ N : Mat, k ≤ n ∧ (s = 1 ∨ s = -1) ∧ det n N = s * det n A ∧ det k N = last ∧ last ≠ 0 ∧ (∀ r, r < n → ∃ r', r' < n ∧ ∀ c, N r c = A r' c) ∧ ∀ i j, k ≤ i → i < n → k ≤ j → j < n → W i j = bm N k i j
theorem sN (n : Nat) {A W : Mat} (h : ∀ i j, i < n → j < n → W i j = A i j) : BdJ n A 0 1 W 1 :=
 ⟨A, Nat.zero_le _, .inl rfl, by omega, rfl, by omega, fun r hr => ⟨r, hr, fun _ => rfl⟩, fun i j _ hi _ hj => by rw [dO]; exact h i j hi hj⟩
theorem BdJ.swap {n k p : Nat} {A W W' : Mat} {s last : Int} (h : BdJ n A k s W last) (hp : k < p) (hpn : p < n) (hW : ∀ i j, i < n → j < n → W' i j = W (if i = k then p else if i = p then k else i) j) : BdJ n A k (-s) W' last := by
 obtain ⟨N, h1, h2, h3, h4, h5, h6, h7⟩ := h
 have hsw : ∀ i j, swp N k p i j = N (if i = k then p else if i = p then k else i) j := fun i j => by
  unfold swp rw'
  by_cases e1 : i = p
  ·subst e1; rw [if_pos rfl, if_neg (by omega), if_pos rfl]
  ·rw [if_neg e1]
   by_cases e2 : i = k
   ·rw [if_pos e2, if_pos e2]
   ·rw [if_neg e2, if_neg e2, if_neg e1]
 refine ⟨swp N k p, h1, by omega, ?_, ?_, h5, fun r hr => ?_, fun i j hi hin hj hjn => ?_⟩
 ·rw [(dB n).swap N (by omega) (by omega) hpn, h3, Int.neg_mul]
 ·rw [← h4]; exact bj fun r c hr _ => by rw [hsw, if_neg (by omega), if_neg (by omega)]
 ·obtain ⟨r', h8, h9⟩ := h6 (if r = k then p else if r = p then k else r) (by split; omega; split <;> omega)
  exact ⟨r', h8, fun c => by rw [hsw]; exact h9 c⟩
 ·have hlt : (if i = k then p else if i = p then k else i) < n ∧ k ≤ (if i = k then p else if i = p then k else i) := by split; omega; split <;> omega
  rw [hW i j hin hjn, h7 _ j hlt.2 hlt.1 hj hjn]
  unfold bm
  refine bj fun r c hr hc => ?_
  unfold brd
  by_cases e : r < k
  ·rw [if_pos e, if_pos e, hsw, if_neg (show ¬ r = k by omega), if_neg (show ¬ r = p by omega)]
  ·rw [if_neg e, if_neg e, hsw]
theorem BdJ.step {n k : Nat} {A W W' : Mat} {s last : Int} (h : BdJ n A k s W last) (hk : k < n) (hz : W k k ≠ 0) (hW : ∀ i j, k < i → i < n → k < j → j < n → W' i j = (W k k * W i j - W i k * W k j) / last) : BdJ n A (k + 1) s W' (W k k) := by
 obtain ⟨N, h1, h2, h3, h4, h5, h6, h7⟩ := h
 have hkk := h7 k k (Nat.le_refl _) hk (Nat.le_refl _) hk
 refine ⟨N, hk, h2, h3, by rw [hkk, d9], hz, h6, fun i j hi hin hj hjn => ?_⟩
 rw [hW i j (by omega) hin (by omega) hjn, hkk, h7 i j (by omega) hin (by omega) hjn, h7 i k (by omega) hin (Nat.le_refl _) hk, h7 k j (Nat.le_refl _) hk (by omega) hjn]
 have := d8 (M := N) (k := k) (by rw [h4]; exact h5) i j
 rw [h4] at this
 rw [← this, Int.mul_ediv_cancel _ h5]
theorem BdJ.none {n k : Nat} {A W : Mat} {s last : Int} (h : BdJ n A k s W last) (hk : k < n) (hz : ∀ i, k ≤ i → i < n → W i k = 0) : det n A = 0 := by
 obtain ⟨N, h1, h2, h3, h4, h5, h6, h7⟩ := h
 have h0 := pN (M := N) hk (by rw [h4]; exact h5) fun i hi hin => by rw [← h7 i k hi hin (Nat.le_refl _) hk]; exact hz i hi hin
 rw [h0] at h3
 rcases h2 with e | e <;> rw [e] at h3 <;> omega
theorem BdJ.fin {n : Nat} {A W : Mat} {s last : Int} (h : BdJ n A n s W last) : det n A = s * last := by
 obtain ⟨N, h1, h2, h3, h4, h5, h6, h7⟩ := h
 rw [h4] at h3
 rcases h2 with e | e <;> rw [e] at h3 ⊢ <;> omega
theorem BdJ.ne {n k : Nat} {A W : Mat} {s last : Int} (h : BdJ n A k s W last) : last ≠ 0 := by obtain ⟨N, _, _, _, _, h5, _⟩ := h; exact h5
theorem uy {n : Nat} {f : Nat → Int} {b : Nat} (h : ∀ i, i < n → (f i).natAbs ≤ b) : (sm n f).natAbs ≤ n * b := by
 induction n with
 | zero => simp [sm]
 | succ n ih =>
  rw [bG, Nat.succ_mul]
  have h1 := ih fun i hi => h i (by omega)
  have h2 := h n (by omega)
  omega
theorem k6 : ∀ {n b : Nat} {M : Mat}, (∀ r c, r < n → c < n → (M r c).natAbs ≤ b) → (det n M).natAbs ≤ (n * b) ^ n
 | 0, _, _, _ => by rw [cA]; simp
 | n + 1, b, M, h => by
  rw [cd]
  have h1 : ∀ j, j < n + 1 → (sgn j * M 0 j * det n (fun r c => M (r + 1) (sk j c))).natAbs ≤ b * (n * b) ^ n := fun j hj => by
   rw [Int.natAbs_mul, Int.natAbs_mul]
   have hs : (sgn j).natAbs = 1 := by unfold sgn; split <;> rfl
   rw [hs, Nat.one_mul]
   exact Nat.mul_le_mul (h 0 j (Nat.succ_pos n) hj) (k6 (n := n) (b := b) fun r c hr hc => h (r + 1) (sk j c) (show r + 1 < n + 1 by omega) (pK hc))
  refine Nat.le_trans (uy h1) ?_
  have e : (n * b) ^ n ≤ ((n + 1) * b) ^ n := Nat.pow_le_pow_left (Nat.mul_le_mul_right b (Nat.le_succ n)) n
  rw [← Nat.mul_assoc, Nat.pow_succ, Nat.mul_comm (((n + 1) * b) ^ n)]
  exact Nat.mul_le_mul_left _ e
theorem BdJ.abs {n k b : Nat} {A W : Mat} {s last : Int} (h : BdJ n A k s W last) (hb : ∀ r c, r < n → c < n → (A r c).natAbs ≤ b) : (∀ i j, k ≤ i → i < n → k ≤ j → j < n → (W i j).natAbs ≤ ((k + 1) * b) ^ (k + 1)) ∧ last.natAbs ≤ (k * b) ^ k := by
 obtain ⟨N, h1, h2, h3, h4, h5, h6, h7⟩ := h
 have hN : ∀ r c, r < n → c < n → (N r c).natAbs ≤ b := fun r c hr hc => by
  obtain ⟨r', e1, e2⟩ := h6 r hr
  rw [e2]; exact hb r' c e1 hc
 refine ⟨fun i j hi hin hj hjn => ?_, ?_⟩
 ·rw [h7 i j hi hin hj hjn]
  refine k6 fun r c hr hc => ?_
  unfold brd
  exact hN _ _ (by split <;> omega) (by split <;> omega)
 ·rw [← h4]
  exact k6 fun r c hr hc => hN r c (by omega) (by omega)
end Go.LA
