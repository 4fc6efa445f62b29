/- Determinants of integer matrices in plain Lean: alternating functions, products, triangular matrices. No program in sight. -/
import Derived.Test.YtiejljicpinheaaA02
namespace Go.LA
abbrev Mat := Nat → Nat → Int
abbrev Vec := Nat → Int
def sm : Nat → (Nat → Int) → Int
 | 0, _ => 0
 | n + 1, f => sm n f + f n
theorem ju (f : Nat → Int) : sm 0 f = 0 := rfl
theorem bR (n : Nat) (f : Nat → Int) : sm (n + 1) f = sm n f + f n := rfl
theorem aV {n : Nat} {f g : Nat → Int} (h : ∀ i, i < n → f i = g i) : sm n f = sm n g := by
 induction n with
 | zero => rfl
 | succ n ih => rw [bR, bR, ih (fun i hi => h i (by omega)), h n (by omega)]
theorem dG (n : Nat) (f g : Nat → Int) : sm n (fun i => f i + g i) = sm n f + sm n g := by
 induction n with
 | zero => rfl
 | succ n ih => rw [bR, bR, bR, ih]; omega
theorem bX (n : Nat) (a : Int) (f : Nat → Int) : sm n (fun i => a * f i) = a * sm n f := by
 induction n with
 | zero => simp [sm]
 | succ n ih => rw [bR, bR, ih, Int.mul_add]
theorem eX (n : Nat) (a : Int) (f : Nat → Int) : sm n (fun i => f i * a) = sm n f * a := by
 induction n with
 | zero => simp [sm]
 | succ n ih => rw [bR, bR, ih, Int.add_mul]
theorem jK (n : Nat) (f : Nat → Int) : sm n (fun i => - f i) = - sm n f := by
 induction n with
 | zero => rfl
 | succ n ih => rw [bR, bR, ih]; omega
theorem gU (n : Nat) (f g : Nat → Int) : sm n (fun i => f i - g i) = sm n f - sm n g := by
 induction n with
 | zero => rfl
 | succ n ih => rw [bR, bR, bR, ih]; omega
theorem fg {n : Nat} {f : Nat → Int} (h : ∀ i, i < n → f i = 0) : sm n f = 0 := by
 induction n with
 | zero => rfl
 | succ n ih => rw [bR, ih (fun i hi => h i (by omega)), h n (by omega)]; rfl
theorem cf {n k : Nat} {f : Nat → Int} (hk : k < n) (h : ∀ i, i < n → i ≠ k → f i = 0) : sm n f = f k := by
 induction n with
 | zero => omega
 | succ n ih =>
  rw [bR]
  by_cases e : k = n
  ·subst e; rw [fg (fun i hi => h i (by omega) (by omega))]; omega
  ·rw [ih (by omega) (fun i hi => h i (by omega)), h n (by omega) (by omega)]; omega
theorem mp (n : Nat) (f : Nat → Int) : sm (n + 1) f = f 0 + sm n (fun i => f (i + 1)) := by
 induction n with
 | zero => simp [sm]
 | succ n ih => rw [bR, ih, bR]; omega
theorem fJ (n m : Nat) (f : Nat → Nat → Int) : sm n (fun i => sm m (fun j => f i j)) = sm m (fun j => sm n (fun i => f i j)) := by
 induction n with
 | zero => simp only [ju]; rw [fg (fun _ _ => rfl)]
 | succ n ih => rw [bR, ih, ← dG]; exact aV fun i _ => by rw [bR]
theorem fx (n m : Nat) (f : Nat → Int) : sm (n + m) f = sm n f + sm m (fun i => f (n + i)) := by
 induction m with
 | zero => simp [sm]
 | succ m ih => rw [← Nat.add_assoc, bR, ih, bR]; omega
def sgn (j : Nat) : Int := if j % 2 = 0 then 1 else -1
theorem dA : sgn 0 = 1 := rfl
theorem dN (j : Nat) : sgn (j + 1) = - sgn j := by
 unfold sgn
 by_cases h : j % 2 = 0
 ·rw [if_pos h, if_neg (by omega)]
 ·rw [if_neg h, if_pos (by omega)]; rfl
theorem nt (j : Nat) : sgn j * sgn j = 1 := by unfold sgn; split <;> rfl
def sk (i k : Nat) : Nat := if k < i then k else k + 1
theorem pW (i k : Nat) : sk i k ≠ i := by unfold sk; split <;> omega
theorem mq {i k n : Nat} (h : k < n) : sk i k < n + 1 := by unfold sk; split <;> omega
theorem ot (k : Nat) : sk 0 k = k + 1 := by unfold sk; simp
theorem ru {j k : Nat} (h : j ≤ k) (c : Nat) : sk j (sk k c) = sk (k + 1) (sk j c) := by
 unfold sk
 by_cases h1 : c < k <;> by_cases h2 : c < j <;> simp only [h1, h2, if_true, if_false] <;> (repeat' split) <;> omega
theorem pX {j k : Nat} (h : j ≤ k) : sk (k + 1) j = j := by unfold sk; rw [if_pos (by omega)]
theorem ou {j k : Nat} (h : j ≤ k) : sk j k = k + 1 := by unfold sk; rw [if_neg (by omega)]
def det : Nat → Mat → Int
 | 0, _ => 1
 | n + 1, M => sm (n + 1) fun j => sgn j * M 0 j * det n (fun r c => M (r + 1) (sk j c))
theorem dO (M : Mat) : det 0 M = 1 := rfl
theorem bU (n : Nat) (M : Mat) : det (n + 1) M = sm (n + 1) fun j => sgn j * M 0 j * det n (fun r c => M (r + 1) (sk j c)) := rfl
theorem gI (M : Mat) : det 1 M = M 0 0 := by rw [bU, bR, ju, dO, dA]; omega
theorem bo : ∀ {n : Nat} {M M' : Mat}, (∀ r c, r < n → c < n → M r c = M' r c) → det n M = det n M'
 | 0, _, _, _ => rfl
 | n + 1, M, M', h => by
  rw [bU, bU]
  exact aV fun j hj => by rw [h 0 j (by omega) hj, bo (M' := fun r c => M' (r + 1) (sk j c)) fun r c hr hc => h (r + 1) (sk j c) (by omega) (mq hc)]
def rw' (M : Mat) (r : Nat) (v : Vec) : Mat := fun i c => if i = r then v c else M i c
theorem ci (M : Mat) (r : Nat) (v : Vec) (c : Nat) : rw' M r v r c = v c := by unfold rw'; rw [if_pos rfl]
theorem cS (M : Mat) {r i : Nat} (v : Vec) (c : Nat) (h : i ≠ r) : rw' M r v i c = M i c := by unfold rw'; rw [if_neg h]
structure Alt (n m : Nat) (f : Mat → Int) : Prop where
 congr : ∀ M M' : Mat, (∀ r c, r < n → c < m → M r c = M' r c) → f M = f M'
 lin : ∀ (M : Mat) (r : Nat) (a b : Int) (u v : Vec), r < n → f (rw' M r fun c => a * u c + b * v c) = a * f (rw' M r u) + b * f (rw' M r v)
 alt : ∀ (M : Mat) (r r' : Nat), r < r' → r' < n → (∀ c, c < m → M r c = M r' c) → f M = 0
theorem Alt.self {n m : Nat} {f : Mat → Int} (h : Alt n m f) (M : Mat) (r : Nat) {v : Vec} (hv : ∀ c, c < m → v c = M r c) : f (rw' M r v) = f M :=
 h.congr _ _ fun i c _ hc => by
  by_cases e : i = r
  ·subst e; rw [ci, hv c hc]
  ·rw [cS _ _ _ e]
theorem Alt.add {n m : Nat} {f : Mat → Int} (h : Alt n m f) (M : Mat) {r : Nat} (hr : r < n) (u v : Vec) : f (rw' M r fun c => u c + v c) = f (rw' M r u) + f (rw' M r v) := by
 have := h.lin M r 1 1 u v hr
 simp only [Int.one_mul] at this
 exact this
theorem Alt.smul {n m : Nat} {f : Mat → Int} (h : Alt n m f) (M : Mat) {r : Nat} (hr : r < n) (a : Int) (u : Vec) : f (rw' M r fun c => a * u c) = a * f (rw' M r u) := by
 have := h.lin M r a 0 u u hr
 simp only [Int.zero_mul, Int.add_zero] at this
 exact this
theorem gJ (M : Mat) {r r' : Nat} (h : r ≠ r') (u v : Vec) : rw' (rw' M r u) r' v = rw' (rw' M r' v) r u := by
 funext i c
 unfold rw'
 by_cases e : i = r <;> by_cases e' : i = r'
 ·omega
 ·rw [if_neg e', if_pos e, if_pos e]
 ·rw [if_pos e', if_neg e, if_pos e']
 ·rw [if_neg e', if_neg e, if_neg e, if_neg e']
theorem ln (M : Mat) (r : Nat) : rw' M r (M r) = M := by
 funext i c
 unfold rw'
 split
 ·rename_i e; rw [e]
 ·rfl
def swp (M : Mat) (r r' : Nat) : Mat := rw' (rw' M r (M r')) r' (M r)
theorem Alt.eqrows {n m : Nat} {f : Mat → Int} (h : Alt n m f) {M : Mat} {r r' : Nat} (hne : r ≠ r') (hr : r < n) (hr' : r' < n) (he : ∀ c, c < m → M r c = M r' c) : f M = 0 := by
 rcases Nat.lt_or_gt_of_ne hne with hlt | hlt
 ·exact h.alt M r r' hlt hr' he
 ·exact h.alt M r' r hlt hr fun c hc => (he c hc).symm
theorem Alt.two {n m : Nat} {f : Mat → Int} (h : Alt n m f) (M : Mat) {r r' : Nat} (hne : r ≠ r') (hr : r < n) (hr' : r' < n) (u v : Vec) : f (rw' (rw' M r u) r' v) = - f (rw' (rw' M r v) r' u) := by
 have h0 : f (rw' (rw' M r fun c => u c + v c) r' fun c => u c + v c) = 0 := h.eqrows hne hr hr' fun c _ => by rw [ci, cS _ _ _ hne, ci]
 have hz : ∀ x : Vec, f (rw' (rw' M r x) r' x) = 0 := fun x => h.eqrows hne hr hr' fun c _ => by rw [ci, cS _ _ _ hne, ci]
 rw [h.add _ hr', gJ M hne, h.add _ hr, gJ M hne, h.add _ hr, ← gJ M hne, ← gJ M hne, ← gJ M hne, ← gJ M hne, hz u, hz v] at h0
 omega
theorem Alt.swap {n m : Nat} {f : Mat → Int} (h : Alt n m f) (M : Mat) {r r' : Nat} (hne : r ≠ r') (hr : r < n) (hr' : r' < n) : f (swp M r r') = - f M := by
 unfold swp
 rw [h.two M hne hr hr', ln, ln]
theorem Alt.addrow {n m : Nat} {f : Mat → Int} (h : Alt n m f) (M : Mat) {r r' : Nat} (hne : r ≠ r') (hr : r < n) (hr' : r' < n) (a : Int) : f (rw' M r fun c => M r c + a * M r' c) = f M := by
 rw [h.add _ hr, h.smul _ hr, ln, h.eqrows (M := rw' M r (M r')) hne hr hr' fun c _ => by rw [ci, cS _ _ _ (Ne.symm hne)]]
 omega
theorem Alt.sum {n m : Nat} {f : Mat → Int} (h : Alt n m f) (M : Mat) {r : Nat} (hr : r < n) (a : Nat → Int) (u : Nat → Vec) : ∀ k, f (rw' M r fun c => sm k fun j => a j * u j c) = sm k fun j => a j * f (rw' M r (u j))
 | 0 => by
  have := h.smul M hr 0 (fun _ => 0)
  simp only [Int.zero_mul] at this
  simpa [sm] using this
 | k + 1 => by
  simp only [bR]
  rw [h.add M hr, h.sum M hr a u k, h.smul M hr]
theorem ov : ∀ (n : Nat) (M : Mat) (r : Nat) (a b : Int) (u v : Vec), r < n → det n (rw' M r fun c => a * u c + b * v c) = a * det n (rw' M r u) + b * det n (rw' M r v)
 | 0, _, _, _, _, _, _, h => by omega
 | n + 1, M, 0, a, b, u, v, _ => by
  rw [bU, bU, bU, ← bX, ← bX, ← dG]
  refine aV fun j _ => ?_
  simp only [ci]
  have e : ∀ x : Vec, (fun r c => rw' M 0 x (r + 1) (sk j c)) = fun r c => M (r + 1) (sk j c) := fun x => by funext r c; rw [cS _ _ _ (by omega)]
  rw [e, e, e]
  grind
 | n + 1, M, r + 1, a, b, u, v, h => by
  rw [bU, bU, bU, ← bX, ← bX, ← dG]
  refine aV fun j _ => ?_
  have e : ∀ x : Vec, (fun i c => rw' M (r + 1) x (i + 1) (sk j c)) = rw' (fun i c => M (i + 1) (sk j c)) r fun c => x (sk j c) := fun x => by
   funext i c
   unfold rw'
   by_cases e : i = r
   ·rw [if_pos e, if_pos (by omega)]
   ·rw [if_neg e, if_neg (by omega)]
  rw [e, e, e, ov n _ r a b (fun c => u (sk j c)) (fun c => v (sk j c)) (by omega), cS _ _ _ (by omega), cS _ _ _ (by omega), cS _ _ _ (by omega)]
  grind
theorem pY (T : Nat → Nat → Int) : ∀ N, sm (N + 1) (fun j => sm N fun k => T j k) = sm N fun k => sm (k + 1) fun j => T j k + T (k + 1) j
 | 0 => by simp [sm]
 | N + 1 => by
  rw [bR N, ← pY T N, bR (N + 1), dG (N + 1) (fun j => T j N) (fun j => T (N + 1) j)]
  have : sm (N + 1) (fun j => sm (N + 1) fun k => T j k) = sm (N + 1) (fun j => sm N fun k => T j k) + sm (N + 1) fun j => T j N := by rw [← dG]; rfl
  rw [this]
  omega
theorem kB (n : Nat) (M : Mat) (h : ∀ c, c < n + 2 → M 0 c = M 1 c) : det (n + 2) M = 0 := by
 have e : det (n + 2) M = sm (n + 2) fun j => sm (n + 1) fun k => sgn j * M 0 j * (sgn k * M 1 (sk j k) * det n fun r c => M (r + 2) (sk j (sk k c))) := by
  rw [bU]
  exact aV fun j _ => by rw [bU, ← bX]
 rw [e, pY]
 refine fg fun k hk => fg fun j hj => ?_
 have hj' : j ≤ k := by omega
 rw [pX hj', ou hj', dN, ← h j (by omega), ← h (k + 1) (by omega)]
 have e2 : (fun r c => M (r + 2) (sk j (sk k c))) = fun r c => M (r + 2) (sk (k + 1) (sk j c)) := by funext r c; rw [ru hj']
 rw [e2]
 grind
theorem cO : ∀ n, Alt n n (det n)
 | 0 => ⟨fun _ _ _ => rfl, fun _ _ _ _ _ _ h => by omega, fun _ _ _ _ h => by omega⟩
 | n + 1 => by
  have ih := cO n
  have hge : ∀ (M : Mat) (r r' : Nat), r < r' → r' < n → (∀ c, c < n + 1 → M (r + 1) c = M (r' + 1) c) → det (n + 1) M = 0 := fun M r r' h1 h2 h3 => by
   rw [bU]
   refine fg fun j _ => ?_
   rw [ih.alt _ r r' h1 h2 fun c hc => h3 _ (mq hc)]
   omega
  have hsw : ∀ (M : Mat) (r r' : Nat), r ≠ r' → r < n → r' < n → det (n + 1) (swp M (r + 1) (r' + 1)) = - det (n + 1) M := fun M r r' h1 h2 h3 => by
   rw [bU, bU, ← jK]
   refine aV fun j _ => ?_
   have e : (fun i c => swp M (r + 1) (r' + 1) (i + 1) (sk j c)) = swp (fun i c => M (i + 1) (sk j c)) r r' := by
    funext i c
    unfold swp rw'
    by_cases e1 : i = r' <;> by_cases e2 : i = r
    ·simp [e1]
    ·simp [e1]
    ·simp [e2, h1]
    ·simp [e1, e2]
   rw [e, ih.swap _ h1 h2 h3]
   have e0 : swp M (r + 1) (r' + 1) 0 j = M 0 j := by unfold swp rw'; rw [if_neg (by omega), if_neg (by omega)]
   rw [e0]
   grind
  refine ⟨fun M M' h => bo h, ov (n + 1), fun M r r' h1 h2 h3 => ?_⟩
  cases r with
  | succ r =>
   cases r' with
   | zero => omega
   | succ r' => exact hge M r r' (by omega) (by omega) h3
  | zero =>
   cases r' with
   | zero => omega
   | succ r' =>
    cases n with
    | zero => omega
    | succ n =>
     by_cases e : r' = 0
     ·subst e; exact kB n M h3
     ·have := hsw M 0 r' (by omega) (by omega) (by omega)
      rw [kB n (swp M (0 + 1) (r' + 1)) fun c hc => ?_] at this
      ·omega
      ·show swp M 1 (r' + 1) 0 c = swp M 1 (r' + 1) 1 c
       unfold swp rw'
       rw [if_neg (by omega), if_neg (by omega), if_neg (by omega), if_pos rfl]
       exact h3 c hc
def idM : Mat := fun i j => if i = j then 1 else 0
theorem bA (i : Nat) : idM i i = 1 := if_pos rfl
theorem bF {i j : Nat} (h : i ≠ j) : idM i j = 0 := if_neg h
def emb (j : Nat) (A : Mat) : Mat := fun i c => match i with
 | 0 => idM j c
 | i + 1 => if c = j then 0 else A i (if c < j then c else c - 1)
theorem sD (j : Nat) (A : Mat) (i : Nat) : emb j A (i + 1) j = 0 := if_pos rfl
theorem sF (j : Nat) (A : Mat) (r : Nat) (v : Vec) : emb j (rw' A r v) = rw' (emb j A) (r + 1) fun c => if c = j then 0 else v (if c < j then c else c - 1) := by
 funext i c
 cases i with
 | zero => rw [cS _ _ _ (by omega)]; rfl
 | succ i =>
  by_cases e : i = r
  ·subst e; rw [ci]; show (if c = j then 0 else rw' A i v i _) = _; rw [ci]
  ·rw [cS _ _ _ (by omega)]; show (if c = j then 0 else rw' A r v i _) = _; rw [cS _ _ _ e]; rfl
theorem rv {n j : Nat} {f : Mat → Int} (hj : j < n + 1) (h : Alt (n + 1) (n + 1) f) : Alt n n fun A => f (emb j A) := by
 have hcol : ∀ c, c < n + 1 → c ≠ j → (if c < j then c else c - 1) < n := fun c hc hne => by split <;> omega
 refine ⟨fun M M' hM => h.congr _ _ fun r c hr hc => ?_, fun M r a b u v hr => ?_, fun M r r' h1 h2 h3 => ?_⟩
 ·cases r with
  | zero => rfl
  | succ r =>
   show (if c = j then 0 else M r _) = if c = j then 0 else M' r _
   by_cases e : c = j
   ·rw [if_pos e, if_pos e]
   ·rw [if_neg e, if_neg e, hM r _ (by omega) (hcol c hc e)]
 ·simp only [sF]
  rw [← h.lin _ _ a b _ _ (by omega)]
  congr 2
  funext c
  by_cases e : c = j
  ·simp [e]
  ·simp [e]
 ·refine h.alt _ (r + 1) (r' + 1) (by omega) (by omega) fun c hc => ?_
  show (if c = j then 0 else M r _) = if c = j then 0 else M r' _
  by_cases e : c = j
  ·rw [if_pos e, if_pos e]
  ·rw [if_neg e, if_neg e, h3 _ (hcol c hc e)]
theorem pZ {n : Nat} {f : Mat → Int} (h : Alt (n + 1) (n + 1) f) : ∀ j, j < n + 1 → f (emb j idM) = sgn j * f idM
 | 0, _ => by
  rw [dA, Int.one_mul]
  refine h.congr _ _ fun r c _ _ => ?_
  cases r with
  | zero => rfl
  | succ r =>
   show (if c = 0 then 0 else idM r _) = _
   by_cases e : c = 0
   ·rw [if_pos e, bF (by omega)]
   ·rw [if_neg e, if_neg (by omega)]
    by_cases e' : r + 1 = c
    ·subst e'; rw [bA]; exact bA _
    ·rw [bF e', bF (by omega)]
 | j + 1, hj => by
  have := h.swap (emb j idM) (r := 0) (r' := j + 1) (by omega) (by omega) hj
  rw [pZ h j (by omega)] at this
  rw [dN, Int.neg_mul, ← this]
  refine h.congr _ _ fun r c _ _ => ?_
  unfold swp rw'
  cases r with
  | zero =>
   rw [if_neg (by omega), if_pos rfl]
   show idM (j + 1) c = if c = j then 0 else idM j (if c < j then c else c - 1)
   by_cases e : c = j
   ·rw [if_pos e, bF (by omega)]
   ·rw [if_neg e]
    by_cases e' : j + 1 = c
    ·subst e'; rw [if_neg (by omega), bA]; exact (bA _).symm
    ·rw [bF e', bF (by split <;> omega)]
  | succ r =>
   by_cases e : r = j
   ·subst e
    rw [if_pos rfl]
    show (if c = r + 1 then 0 else idM r (if c < r + 1 then c else c - 1)) = idM r c
    by_cases e1 : c = r + 1
    ·rw [if_pos e1, bF (by omega)]
    ·rw [if_neg e1]
     by_cases e2 : c < r + 1
     ·rw [if_pos e2]
     ·rw [if_neg e2, bF (by omega), bF (by omega)]
   ·rw [if_neg (by omega), if_neg (by omega)]
    show (if c = j + 1 then 0 else idM r (if c < j + 1 then c else c - 1)) = if c = j then 0 else idM r (if c < j then c else c - 1)
    by_cases e1 : c = j
    ·subst e1
     rw [if_neg (by omega), if_pos rfl, if_pos (by omega), bF e]
    ·by_cases e2 : c = j + 1
     ·subst e2
      rw [if_pos rfl, if_neg (by omega), if_neg (by omega), bF (by omega)]
     ·rw [if_neg e1, if_neg e2]
      congr 1
      by_cases e3 : c < j
      ·rw [if_pos e3, if_pos (by omega)]
      ·rw [if_neg e3, if_neg (by omega)]
theorem Alt.unique : ∀ {n : Nat} {f : Mat → Int}, Alt n n f → ∀ M, f M = det n M * f idM
 | 0, f, h, M => by rw [dO, Int.one_mul]; exact h.congr _ _ fun r c hr => by omega
 | n + 1, f, h, M => by
  have h1 : f M = sm (n + 1) fun j => M 0 j * f (rw' M 0 (idM j)) := by
   rw [← h.sum M (by omega)]
   symm
   refine h.self M 0 fun c hc => ?_
   rw [cf hc fun i hi hne => by rw [bF hne]; omega]
   rw [bA, Int.mul_one]
  have h2 : ∀ j, j < n + 1 → f (rw' M 0 (idM j)) = f (emb j fun r c => M (r + 1) (sk j c)) := fun j hj => by
   have key : ∀ k, k ≤ n → f (rw' M 0 (idM j)) = f (fun r c => if r = 0 then idM j c else if r ≤ k ∧ c = j then 0 else M r c) := fun k => by
    induction k with
    | zero =>
     intro _
     refine h.congr _ _ fun r c _ _ => ?_
     unfold rw'
     by_cases e : r = 0
     ·rw [if_pos e, if_pos e]
     ·rw [if_neg e, if_neg e, if_neg (by omega)]
    | succ k ih =>
     intro hk
     rw [ih (by omega), ← h.addrow _ (r := k + 1) (r' := 0) (by omega) (by omega) (by omega) (-(M (k + 1) j))]
     refine h.congr _ _ fun r c _ _ => ?_
     by_cases e : r = k + 1
     ·subst e
      rw [ci]
      simp only [if_neg (show k + 1 ≠ 0 by omega), if_true]
      rw [if_neg (by omega)]
      by_cases e' : c = j
      ·subst e'; rw [bA, if_pos ⟨Nat.le_refl _, rfl⟩]; omega
      ·rw [bF (Ne.symm e'), if_neg (fun h => e' h.2)]; omega
     ·rw [cS _ _ _ e]
      by_cases e0 : r = 0
      ·rw [if_pos e0, if_pos e0]
      ·rw [if_neg e0, if_neg e0]
       by_cases e' : r ≤ k ∧ c = j
       ·rw [if_pos e', if_pos ⟨by omega, e'.2⟩]
       ·rw [if_neg e', if_neg (fun h => e' ⟨by omega, h.2⟩)]
   rw [key n (Nat.le_refl _)]
   refine h.congr _ _ fun r c hr hc => ?_
   cases r with
   | zero => rfl
   | succ r =>
    rw [if_neg (by omega)]
    by_cases e : c = j
    ·subst e; rw [if_pos ⟨by omega, rfl⟩, sD]
    ·rw [if_neg (fun h => e h.2)]
     show _ = if c = j then 0 else M (r + 1) (sk j (if c < j then c else c - 1))
     rw [if_neg e]
     congr 1
     unfold sk
     by_cases e' : c < j
     ·rw [if_pos e', if_pos e']
     ·rw [if_neg e', if_neg (by omega)]; omega
  rw [h1, bU, ← eX]
  refine aV fun j hj => ?_
  rw [h2 j hj, (rv hj h).unique, pZ h j hj]
  grind
theorem gV : ∀ n, det n idM = 1
 | 0 => rfl
 | n + 1 => by
  rw [bU, cf (k := 0) (by omega) fun i _ hne => by rw [bF (Ne.symm hne)]; omega]
  rw [dA, bA]
  have : det n (fun r c => idM (r + 1) (sk 0 c)) = det n idM := bo fun r c _ _ => by
   rw [ot]
   by_cases e : r = c
   ·rw [e, bA, bA]
   ·rw [bF e, bF (by omega)]
  rw [this, gV n]; rfl
def mm (n : Nat) (A B : Mat) : Mat := fun i j => sm n fun k => A i k * B k j
theorem ux (n : Nat) (A B : Mat) (r : Nat) (v : Vec) : mm n (rw' A r v) B = rw' (mm n A B) r fun j => sm n fun k => v k * B k j := by
 funext i j
 unfold mm
 by_cases e : i = r
 ·subst e; rw [ci]; exact aV fun k _ => by rw [ci]
 ·rw [cS _ _ _ e]; exact aV fun k _ => by rw [cS _ _ _ e]
theorem p6 {n : Nat} (A : Mat) (i j : Nat) (hj : j < n) : mm n A idM i j = A i j := by
 unfold mm
 rw [cf hj fun k _ hne => by rw [bF hne]; omega]
 rw [bA, Int.mul_one]
theorem mr {n : Nat} (A : Mat) (i j : Nat) (hi : i < n) : mm n idM A i j = A i j := by
 unfold mm
 rw [cf hi fun k _ hne => by rw [bF (Ne.symm hne)]; omega]
 rw [bA, Int.one_mul]
theorem ij (n m : Nat) (A B C : Mat) (i j : Nat) : mm m (mm n A B) C i j = mm n A (mm m B C) i j := by
 unfold mm
 have h1 : (sm m fun k => (sm n fun l => A i l * B l k) * C k j) = sm m fun k => sm n fun l => A i l * B l k * C k j := aV fun k _ => by rw [← eX]
 have h2 : (sm n fun l => A i l * sm m fun k => B l k * C k j) = sm n fun l => sm m fun k => A i l * B l k * C k j := aV fun l _ => by rw [← bX]; exact aV fun k _ => by rw [Int.mul_assoc]
 rw [h1, h2, fJ]
theorem d9 {n : Nat} {A A' B B' : Mat} {i j : Nat} (h : ∀ k, k < n → A i k = A' i k) (h' : ∀ k, k < n → B k j = B' k j) : mm n A B i j = mm n A' B' i j := aV fun k hk => by rw [h k hk, h' k hk]
theorem dB (n : Nat) (A B : Mat) : det n (mm n A B) = det n A * det n B := by
 have hd := cO n
 have h : Alt n n fun A => det n (mm n A B) := by
  refine ⟨fun M M' hM => bo fun r c hr _ => aV fun k hk => by rw [hM r k hr hk], fun M r a b u v hr => ?_, fun M r r' h1 h2 h3 => ?_⟩
  ·simp only [ux]
   rw [← hd.lin _ _ a b _ _ hr]
   congr 2
   funext c
   rw [← bX, ← bX, ← dG]
   exact aV fun k _ => by grind
  ·exact hd.alt _ r r' h1 h2 fun c _ => aV fun k hk => by rw [h3 k hk]
 rw [h.unique A]
 congr 1
 exact bo fun r c hr _ => mr B r c hr
theorem jL : ∀ {n : Nat} {M : Mat}, (∀ r, r < n → M (r + 1) 0 = 0) → det (n + 1) M = M 0 0 * det n fun r c => M (r + 1) (c + 1)
 | 0, M, _ => by rw [gI, dO, Int.mul_one]
 | n + 1, M, h => by
  rw [bU, cf (k := 0) (by omega)]
  ·rw [dA, Int.one_mul]
   congr 1
  ·intro j hj hne
   have e : det (n + 1) (fun r c => M (r + 1) (sk j c)) = 0 := by
    rw [jL (M := fun r c => M (r + 1) (sk j c))]
    ·have : sk j 0 = 0 := by unfold sk; rw [if_pos (by omega)]
     rw [this, h 0 (by omega), Int.zero_mul]
    ·intro r hr
     have : sk j 0 = 0 := by unfold sk; rw [if_pos (by omega)]
     rw [this]; exact h (r + 1) (by omega)
   rw [e]; omega
theorem qa {n : Nat} {M : Mat} (hn : 0 < n) (h : ∀ r, r < n → M r 0 = 0) : det n M = 0 := by
 cases n with
 | zero => omega
 | succ n => rw [jL fun r hr => h (r + 1) (by omega), h 0 (by omega), Int.zero_mul]
theorem ms {n : Nat} {M : Mat} (h : ∀ c, c < n → M 0 (c + 1) = 0) : det (n + 1) M = M 0 0 * det n fun r c => M (r + 1) (c + 1) := by
 rw [bU, cf (k := 0) (by omega)]
 ·rw [dA, Int.one_mul]
  congr 1
 ·intro j hj hne
  obtain ⟨j, rfl⟩ : ∃ k, j = k + 1 := ⟨j - 1, by omega⟩
  rw [h j (by omega)]; omega
def pr : Nat → (Nat → Int) → Int
 | 0, _ => 1
 | n + 1, f => pr n f * f n
theorem jM (n : Nat) (f : Nat → Int) : pr (n + 1) f = f 0 * pr n fun i => f (i + 1) := by
 induction n with
 | zero => simp [pr]
 | succ n ih => rw [pr, ih, pr]; grind
theorem dw : ∀ {n : Nat} {M : Mat}, (∀ r c, c < n → r < c → M r c = 0) → det n M = pr n fun i => M i i
 | 0, _, _ => rfl
 | n + 1, M, h => by
  rw [ms fun c hc => h 0 (c + 1) (by omega) (by omega), dw fun r c hc hr => h (r + 1) (c + 1) (by omega) (by omega), jM]
theorem iN : ∀ {n : Nat} {M : Mat}, (∀ r c, r < n → c < r → M r c = 0) → det n M = pr n fun i => M i i
 | 0, _, _ => rfl
 | n + 1, M, h => by
  rw [jL fun r hr => h (r + 1) 0 (by omega) (by omega), iN fun r c hr hc => h (r + 1) (c + 1) (by omega) (by omega), jM]
theorem oQ {k m : Nat} {M : Mat} (h : ∀ r c, r < k → k ≤ c → c < k + m → M r c = 0) : det (k + m) M = det k M * det m fun r c => M (k + r) (k + c) := by
 have hd := cO (k + m)
 have hf : Alt k k fun A => det (k + m) fun r c => if r < k then (if c < k then A r c else 0) else M r c := by
  have e : ∀ (A : Mat) (r : Nat) (v : Vec), r < k → (fun i c => if i < k then (if c < k then rw' A r v i c else 0) else M i c) = rw' (fun i c => if i < k then (if c < k then A i c else 0) else M i c) r fun c => if c < k then v c else 0 := fun A r v hr => by
   funext i c
   by_cases e : i = r
   ·subst e; rw [ci, if_pos hr, ci]
   ·rw [cS _ _ _ e, cS _ _ _ e]
  refine ⟨fun A A' hA => bo fun r c _ _ => ?_, fun A r a b u v hr => ?_, fun A r r' h1 h2 h3 => ?_⟩
  ·by_cases e1 : r < k
   ·rw [if_pos e1, if_pos e1]
    by_cases e2 : c < k
    ·rw [if_pos e2, if_pos e2, hA r c e1 e2]
    ·rw [if_neg e2, if_neg e2]
   ·rw [if_neg e1, if_neg e1]
  ·simp only [e _ _ _ hr]
   rw [← hd.lin _ _ a b _ _ (by omega)]
   congr 2
   funext c
   by_cases e2 : c < k
   ·simp only [if_pos e2]
   ·simp only [if_neg e2]; omega
  ·refine hd.alt _ r r' h1 (by omega) fun c _ => ?_
   rw [if_pos (by omega), if_pos h2]
   by_cases e2 : c < k
   ·rw [if_pos e2, if_pos e2, h3 c e2]
   ·rw [if_neg e2, if_neg e2]
 have h1 : det (k + m) M = det (k + m) fun r c => if r < k then (if c < k then M r c else 0) else M r c := bo fun r c hr hc => by
  by_cases e1 : r < k
  ·rw [if_pos e1]
   by_cases e2 : c < k
   ·rw [if_pos e2]
   ·rw [if_neg e2, h r c e1 (by omega) hc]
  ·rw [if_neg e1]
 rw [h1, hf.unique M]
 congr 1
 have key : ∀ (k : Nat) (M : Mat), det (k + m) (fun r c => if r < k then (if c < k then idM r c else 0) else M r c) = det m fun r c => M (k + r) (k + c) := by
  intro k
  induction k with
  | zero => intro M; rw [Nat.zero_add]; exact bo fun r c _ _ => by rw [if_neg (by omega), Nat.zero_add, Nat.zero_add]
  | succ k ih =>
   intro M
   rw [show k + 1 + m = (k + m) + 1 by omega, ms fun c hc => by
    rw [if_pos (by omega)]
    by_cases e : c + 1 < k + 1
    ·rw [if_pos e, bF (by omega)]
    ·rw [if_neg e]]
   rw [if_pos (by omega), if_pos (by omega), bA, Int.one_mul]
   have := ih fun r c => M (r + 1) (c + 1)
   rw [show (fun r c => M (k + 1 + r) (k + 1 + c)) = fun r c => M (k + r + 1) (k + c + 1) by funext r c; rw [show k + 1 + r = k + r + 1 by omega, show k + 1 + c = k + c + 1 by omega], ← this]
   refine bo fun r c _ _ => ?_
   by_cases e1 : r < k
   ·rw [if_pos e1, if_pos (by omega)]
    by_cases e2 : c < k
    ·rw [if_pos e2, if_pos (by omega)]
     by_cases e3 : r = c
     ·rw [e3, bA, bA]
     ·rw [bF e3, bF (by omega)]
    ·rw [if_neg e2, if_neg (by omega)]
   ·rw [if_neg e1, if_neg (by omega)]
 exact key k M
end Go.LA
namespace Go.LA
def mnr (M : Mat) (i j : Nat) : Mat := fun r c => M (sk i r) (sk j c)
def topr (M : Mat) (i : Nat) : Mat := fun r c => match r with
 | 0 => M i c
 | r + 1 => M (sk i r) c
theorem mu {n : Nat} (M : Mat) : ∀ i, i < n → det n (topr M i) = sgn i * det n M
 | 0, _ => by
  rw [dA, Int.one_mul]
  refine bo fun r c _ _ => ?_
  cases r with
  | zero => rfl
  | succ r => show M (sk 0 r) c = _; rw [ot]
 | i + 1, hi => by
  have := (cO n).swap (topr M i) (r := 0) (r' := i + 1) (by omega) (by omega) hi
  rw [mu M i (by omega)] at this
  rw [dN, Int.neg_mul, ← this]
  refine bo fun r c _ _ => ?_
  unfold swp rw'
  cases r with
  | zero =>
   rw [if_neg (by omega), if_pos rfl]
   show M (i + 1) c = M (sk i i) c
   rw [ou (Nat.le_refl _)]
  | succ r =>
   by_cases e : r = i
   ·subst e
    rw [if_pos rfl]
    show M (sk (r + 1) r) c = M r c
    rw [pX (Nat.le_refl _)]
   ·rw [if_neg (by omega), if_neg (by omega)]
    show M (sk (i + 1) r) c = M (sk i r) c
    congr 1
    unfold sk
    by_cases e' : r < i
    ·rw [if_pos e', if_pos (by omega)]
    ·rw [if_neg e', if_neg (by omega)]
theorem ow (i : Nat) : ∀ j, sgn (i + j) = sgn i * sgn j
 | 0 => by rw [dA, Int.mul_one]; rfl
 | j + 1 => by rw [← Nat.add_assoc, dN, ow i j, dN]; grind
theorem lv {n : Nat} (M : Mat) {i : Nat} (hi : i < n + 1) : det (n + 1) M = sm (n + 1) fun j => M i j * (sgn (i + j) * det n (mnr M i j)) := by
 have h := mu M i hi
 have h2 : det (n + 1) M = sgn i * det (n + 1) (topr M i) := by rw [h, ← Int.mul_assoc, nt, Int.one_mul]
 rw [h2, bU, ← bX]
 refine aV fun j _ => ?_
 have e : sgn (i + j) = sgn i * sgn j := ow i j
 show sgn i * (sgn j * M i j * det n (fun r c => M (sk i r) (sk j c))) = _
 rw [e]
 unfold mnr
 grind
def adj (n : Nat) (M : Mat) : Mat := fun j i => sgn (i + j) * det (n - 1) (mnr M i j)
theorem fh {n : Nat} (M : Mat) {i k : Nat} (hi : i < n) (hk : k < n) : mm n M (adj n M) i k = det n M * idM i k := by
 obtain ⟨n, rfl⟩ : ∃ m, n = m + 1 := ⟨n - 1, by omega⟩
 unfold mm adj
 rw [Nat.add_sub_cancel]
 by_cases e : i = k
 ·subst e; rw [bA, Int.mul_one, lv M hi]
 ·rw [bF e, Int.mul_zero]
  have h0 : det (n + 1) (rw' M k (M i)) = 0 := (cO (n + 1)).eqrows (r := k) (r' := i) (Ne.symm e) hk hi fun c _ => by rw [ci, cS _ _ _ e]
  rw [lv _ hk] at h0
  rw [← h0]
  refine aV fun j _ => ?_
  rw [ci]
  congr 2
  refine bo fun r c _ _ => ?_
  unfold mnr
  rw [cS _ _ _ (pW _ _)]
theorem Alt.zrow {n m : Nat} {f : Mat → Int} (h : Alt n m f) {M : Mat} {r : Nat} (hr : r < n) (hz : ∀ c, c < m → M r c = 0) : f M = 0 := by
 have := h.smul M hr 0 (M r)
 rw [h.self M r fun c hc => by rw [hz c hc]; omega] at this
 omega
theorem fK {n j : Nat} {M : Mat} (hj : j < n) (h : ∀ r, r < n → M r j = 0) : det n M = 0 := by
 have h1 : det n (mm n M (rw' idM j fun _ => 0)) = 0 := by
  rw [dB, (cO n).zrow hj fun c _ => ci _ _ _ _]; omega
 rw [← h1]
 refine bo fun r c hr hc => ?_
 unfold mm
 by_cases e : c = j
 ·subst e
  rw [h r hr, fg fun k _ => ?_]
  by_cases e' : k = c
  ·subst e'; rw [ci]; omega
  ·rw [cS _ _ _ e', bF e']; omega
 ·rw [cf hc fun k _ hne => ?_]
  ·rw [cS _ _ _ e, bA, Int.mul_one]
  ·by_cases e' : k = j
   ·subst e'; rw [ci]; omega
   ·rw [cS _ _ _ e', bF hne]; omega
theorem lx {n j : Nat} (hj : j < n) (x : Vec) : det n (fun a b => if b = j then x a else idM a b) = x j := by
 have hd := cO n
 have h1 : ∀ k, k ≤ n → det n (fun a b => if b = j then x a else idM a b) = x j * det n (fun a b => if a = j then idM j b else if b = j then (if a < k then 0 else x a) else idM a b) := by
  intro k
  induction k with
  | zero =>
   intro _
   rw [← ln (fun a b => if a = j then idM j b else if b = j then (if a < 0 then 0 else x a) else idM a b) j, ← hd.smul _ hj]
   refine bo fun a b _ _ => ?_
   by_cases e : a = j
   ·subst e
    rw [ci]
    by_cases e' : b = a
    ·subst e'; rw [if_pos rfl, if_pos rfl, bA, Int.mul_one]
    ·rw [if_neg e', if_pos rfl, bF (Ne.symm e')]; omega
   ·rw [cS _ _ _ e, if_neg e]
    simp
  | succ k ih =>
   intro hk
   rw [ih (by omega)]
   by_cases e : k = j
   ·subst e
    congr 1
    refine bo fun a b _ _ => ?_
    by_cases ea : a = k
    ·rw [if_pos ea, if_pos ea]
    ·rw [if_neg ea, if_neg ea]
     by_cases eb : b = k
     ·rw [if_pos eb, if_pos eb]
      by_cases el : a < k
      ·rw [if_pos el, if_pos (by omega)]
      ·rw [if_neg el, if_neg (by omega)]
     ·rw [if_neg eb, if_neg eb]
   ·congr 1
    rw [← hd.addrow _ (r := k) (r' := j) e (by omega) hj (-(x k))]
    refine bo fun a b _ _ => ?_
    by_cases ea : a = k
    ·subst ea
     rw [ci, if_neg e, if_pos rfl, if_neg e]
     by_cases eb : b = j
     ·subst eb; rw [if_pos rfl, if_neg (by omega), bA, if_pos rfl, if_pos (by omega)]; omega
     ·rw [if_neg eb, bF (Ne.symm eb), if_neg eb]; omega
    ·rw [cS _ _ _ ea]
     by_cases ea' : a = j
     ·rw [if_pos ea', if_pos ea']
     ·rw [if_neg ea', if_neg ea']
      by_cases eb : b = j
      ·rw [if_pos eb, if_pos eb]
       by_cases el : a < k
       ·rw [if_pos el, if_pos (by omega)]
       ·rw [if_neg el, if_neg (by omega)]
      ·rw [if_neg eb, if_neg eb]
 rw [h1 n (Nat.le_refl _)]
 have : det n (fun a b => if a = j then idM j b else if b = j then (if a < n then 0 else x a) else idM a b) = det n idM := bo fun a b ha _ => by
  by_cases ea : a = j
  ·rw [if_pos ea, ea]
  ·rw [if_neg ea]
   by_cases eb : b = j
   ·rw [if_pos eb, if_pos ha, eb, bF ea]
   ·rw [if_neg eb]
 rw [this, gV, Int.mul_one]
theorem ox {n : Nat} {M : Mat} (hd : det n M ≠ 0) {x : Vec} (hx : ∀ r, r < n → (sm n fun l => M r l * x l) = 0) {j : Nat} (hj : j < n) : x j = 0 := by
 have key := dB n M (fun a b => if b = j then x a else idM a b)
 rw [fK hj fun r hr => ?_, lx hj x] at key
 ·rcases Int.mul_eq_zero.1 key.symm with h | h
  ·exact absurd h hd
  ·exact h
 ·rw [← hx r hr]; unfold mm; exact aV fun l _ => by simp only [if_true]
theorem sG {n : Nat} {M : Mat} (hd : det n M ≠ 0) {i k : Nat} (hi : i < n) (hk : k < n) : mm n (adj n M) M i k = det n M * idM i k := by
 have h1 : ∀ j, j < n → mm n M (mm n (adj n M) M) j k = det n M * M j k := fun j hj => by
  rw [← ij]
  have : mm n (mm n M (adj n M)) M j k = mm n (fun i k => det n M * idM i k) M j k := d9 (fun l hl => fh M hj hl) (fun _ _ => rfl)
  rw [this]
  unfold mm
  have : (sm n fun l => det n M * idM j l * M l k) = sm n fun l => det n M * (idM j l * M l k) := aV fun l _ => by rw [Int.mul_assoc]
  rw [this, bX]
  congr 1
  exact mr M j k hj
 have h5 := ox hd (x := fun a => mm n (adj n M) M a k - det n M * idM a k) (fun j hj => by
  have : (sm n fun l => M j l * (mm n (adj n M) M l k - det n M * idM l k)) = (sm n fun l => M j l * mm n (adj n M) M l k) - sm n fun l => det n M * (M j l * idM l k) := by
   rw [← gU]; exact aV fun l _ => by grind
  rw [this, bX]
  have e1 : (sm n fun l => M j l * mm n (adj n M) M l k) = det n M * M j k := h1 j hj
  have e2 : (sm n fun l => M j l * idM l k) = M j k := p6 M j k hk
  rw [e1, e2]; omega) hi
 have h6 : mm n (adj n M) M i k - det n M * idM i k = 0 := h5
 omega
def brd (M : Mat) (k i j : Nat) : Mat := fun r c => M (if r < k then r else i) (if c < k then c else j)
def bm (M : Mat) (k i j : Nat) : Int := det (k + 1) (brd M k i j)
theorem ry (M : Mat) (i j : Nat) : bm M 0 i j = M i j := by unfold bm; rw [gI]; rfl
theorem gc (n : Nat) (a : Int) {f : Nat → Int} (h : ∀ i, i < n → f i = a) : pr n f = a ^ n := by
 induction n with
 | zero => simp [pr]
 | succ n ih => rw [pr, ih fun i hi => h i (by omega), h n (by omega), Int.pow_succ]
theorem qb (k m : Nat) (f : Nat → Int) : pr (k + m) f = pr k f * pr m fun i => f (k + i) := by
 induction m with
 | zero => simp [pr]
 | succ m ih => rw [← Nat.add_assoc, pr, ih, pr, Int.mul_assoc]
def sch (k : Nat) (M : Mat) : Mat := fun i j => det k M * M i j - sm k fun a => sm k fun b => M i a * (adj k M a b * M b j)
theorem qc (k m : Nat) (M : Mat) : det (k + m) M * det k M ^ m = det k M * det m fun r c => sch k M (k + r) (k + c) := by
 have h1 := dB (k + m) M (fun r c => if c < k then idM r c else if r < k then - sm k (fun b => adj k M r b * M b c) else det k M * idM r c)
 generalize hX : (fun r c => if c < k then idM r c else if r < k then - sm k (fun b => adj k M r b * M b c) else det k M * idM r c : Mat) = X at h1
 have x1 : ∀ r c, c < k → X r c = idM r c := fun r c hc => by rw [← hX]; simp only [hc, if_true]
 have x2 : ∀ r c, k ≤ c → r < k → X r c = - sm k (fun b => adj k M r b * M b c) := fun r c hc hr => by rw [← hX]; simp only [show ¬ c < k by omega, hr, if_true, if_false]
 have x3 : ∀ r c, k ≤ c → k ≤ r → X r c = det k M * idM r c := fun r c hc hr => by rw [← hX]; simp only [show ¬ c < k by omega, show ¬ r < k by omega, if_false]
 have h2 : det (k + m) X = det k M ^ m := by
  rw [iN fun r c hr hc => by
   by_cases e : c < k
   ·rw [x1 r c e, bF (by omega)]
   ·rw [x3 r c (by omega) (by omega), bF (by omega), Int.mul_zero]]
  rw [qb, gc k 1 fun a ha => by rw [x1 a a ha, bA], gc m (det k M) fun a _ => by rw [x3 _ _ (by omega) (by omega), bA, Int.mul_one]]
  rw [Int.one_pow, Int.one_mul]
 have e1 : ∀ r c, c < k → mm (k + m) M X r c = M r c := fun r c hc => by
  unfold mm
  rw [cf (show c < k + m by omega) fun a _ hne => by rw [x1 a c hc, bF hne, Int.mul_zero]]
  rw [x1 c c hc, bA, Int.mul_one]
 have e2 : ∀ r c, k ≤ c → c < k + m → mm (k + m) M X r c = sch k M r c := fun r c hc hc' => by
  unfold mm sch
  rw [fx, aV (n := k) (g := fun a => - sm k fun b => M r a * (adj k M a b * M b c)) fun a ha => by rw [x2 a c hc ha, bX]; grind]
  rw [jK, cf (n := m) (k := c - k) (by omega) fun a _ hne => by rw [x3 _ c hc (by omega), bF (by omega), Int.mul_zero, Int.mul_zero]]
  rw [show k + (c - k) = c by omega, x3 c c hc hc, bA]
  grind
 rw [h2, oQ fun r c hr hc hc' => ?_] at h1
 ·rw [← h1]
  congr 1
  ·exact bo fun r c hr hc => e1 r c hc
  ·exact bo fun r c hr hc => e2 _ _ (by omega) (by omega)
 ·rw [e2 r c hc hc']
  unfold sch
  have : (sm k fun a => sm k fun b => M r a * (adj k M a b * M b c)) = sm k fun b => mm k M (adj k M) r b * M b c := by
   rw [fJ]
   refine aV fun b _ => ?_
   unfold mm
   rw [← eX]
   exact aV fun a _ => by rw [Int.mul_assoc]
  rw [this, cf hr fun b hb hne => by rw [fh M hr hb, bF (Ne.symm hne), Int.mul_zero, Int.zero_mul]]
  rw [fh M hr hr, bA, Int.mul_one]
  omega
theorem oR {k : Nat} {M M' : Mat} (h : ∀ r c, r < k → c < k → M r c = M' r c) {a b : Nat} (_ha : a < k) (hb : b < k) : adj k M a b = adj k M' a b := by
 unfold adj mnr
 congr 1
 exact bo fun r c hr hc => h _ _ (by have := mq (i := b) hr; omega) (by have := mq (i := a) hc; omega)
theorem rz (M : Mat) (k i j : Nat) : det k (brd M k i j) = det k M := bo fun r c hr hc => by unfold brd; rw [if_pos hr, if_pos hc]
theorem qd {k : Nat} {M N : Mat} {i j i' j' : Nat} (h : ∀ r c, r < k → c < k → N r c = M r c) (hr : ∀ c, c < k → N i' c = M i c) (hc : ∀ r, r < k → N r j' = M r j) (hij : N i' j' = M i j) : sch k N i' j' = sch k M i j := by
 unfold sch
 rw [bo (M' := M) h, hij]
 congr 1
 exact aV fun a ha => aV fun b hb => by rw [hr a ha, hc b hb, oR h ha hb]
theorem nu {k : Nat} {M : Mat} (hz : det k M ≠ 0) (i j : Nat) : bm M k i j = sch k M i j := by
 have h := qc k 1 (brd M k i j)
 rw [rz, gI, Int.pow_succ, Int.pow_zero, Int.one_mul] at h
 have e : sch k (brd M k i j) (k + 0) (k + 0) = sch k M i j := by
  refine qd (fun r c hr hc => ?_) (fun c hc => ?_) (fun r hr => ?_) ?_ <;> unfold brd
  ·rw [if_pos hr, if_pos hc]
  ·rw [if_neg (by omega), if_pos hc]
  ·rw [if_pos hr, if_neg (by omega)]
  ·rw [if_neg (by omega), if_neg (by omega)]
 rw [e, Int.mul_comm (det k M)] at h
 exact Int.eq_of_mul_eq_mul_right hz h
theorem qe {k m : Nat} {M : Mat} (hz : det k M ≠ 0) : det (k + m) M * det k M ^ m = det k M * det m fun r c => bm M k (k + r) (k + c) := by
 rw [qc]
 congr 1
 exact bo fun r c _ _ => (nu hz _ _).symm
theorem nw {a : Int} (h : a ≠ 0) : ∀ n : Nat, a ^ n ≠ 0
 | 0 => by rw [Int.pow_zero]; omega
 | n + 1 => fun e => by
  rw [Int.pow_succ] at e
  rcases Int.mul_eq_zero.1 e with h' | h'
  ·exact nw h n h'
  ·exact h h'
theorem rA (M : Mat) : det 2 M = M 0 0 * M 1 1 - M 0 1 * M 1 0 := by
 rw [bU, bR, bR, ju, gI, gI, dA, dN, dA]
 have e1 : sk 0 0 = 1 := rfl
 have e2 : sk 1 0 = 0 := rfl
 simp only [e1, e2, Nat.zero_add]
 grind
theorem ly {k : Nat} {M : Mat} (hz : det k M ≠ 0) (i j : Nat) : bm M (k + 1) i j * det k M = bm M k k k * bm M k i j - bm M k i k * bm M k k j := by
 have h := qc k 2 (brd M (k + 1) i j)
 have e0 : det k (brd M (k + 1) i j) = det k M := bo fun r c hr hc => by unfold brd; rw [if_pos (by omega), if_pos (by omega)]
 rw [e0, rA] at h
 have hN : ∀ r c, r < k → c < k → brd M (k + 1) i j r c = M r c := fun r c hr hc => by unfold brd; rw [if_pos (by omega), if_pos (by omega)]
 have g : ∀ x y, x < 2 → y < 2 → sch k (brd M (k + 1) i j) (k + x) (k + y) = bm M k (if x = 0 then k else i) (if y = 0 then k else j) := fun x y hx hy => by
  rw [nu hz]
  refine qd hN (fun c hc => ?_) (fun r hr => ?_) ?_ <;> unfold brd
  ·rw [if_pos (show c < k + 1 by omega)]
   by_cases e : x = 0
   ·subst e; rw [if_pos (by omega), if_pos rfl]; rfl
   ·rw [if_neg (by omega), if_neg e]
  ·rw [if_pos (show r < k + 1 by omega)]
   by_cases e : y = 0
   ·subst e; rw [if_pos (by omega), if_pos rfl]; rfl
   ·rw [if_neg (by omega), if_neg e]
  ·by_cases e : x = 0 <;> by_cases e' : y = 0
   ·subst e; subst e'; rw [if_pos (by omega), if_pos (by omega), if_pos rfl]; rfl
   ·subst e; rw [if_pos (by omega), if_neg (by omega), if_pos rfl, if_neg e']; rfl
   ·subst e'; rw [if_neg (by omega), if_pos (by omega), if_neg e, if_pos rfl]; rfl
   ·rw [if_neg (by omega), if_neg (by omega), if_neg e, if_neg e']
 rw [g 0 0 (by omega) (by omega), g 1 1 (by omega) (by omega), g 0 1 (by omega) (by omega), g 1 0 (by omega) (by omega)] at h
 simp only [if_true, show ¬ (1 = 0) by omega, if_false] at h
 have h' : (bm M (k + 1) i j * det k M) * det k M = (bm M k k k * bm M k i j - bm M k i k * bm M k k j) * det k M := by
  have e : det (k + 2) (brd M (k + 1) i j) = bm M (k + 1) i j := rfl
  rw [e] at h
  have e2 : det k M ^ 2 = det k M * det k M := by rw [show (2 : Nat) = 1 + 1 from rfl, Int.pow_succ, Int.pow_succ, Int.pow_zero, Int.one_mul]
  rw [e2] at h
  grind
 exact Int.eq_of_mul_eq_mul_right hz h'
theorem rB (M : Mat) (k : Nat) : bm M k k k = det (k + 1) M := bo fun r c hr hc => by
 unfold brd
 by_cases e : r < k <;> by_cases e' : c < k
 ·rw [if_pos e, if_pos e']
 ·rw [if_pos e, if_neg e', show c = k by omega]
 ·rw [if_neg e, if_pos e', show r = k by omega]
 ·rw [if_neg e, if_neg e', show r = k by omega, show c = k by omega]
theorem mw {n k : Nat} {M : Mat} (hk : k < n) (hz : det k M ≠ 0) (h : ∀ i, k ≤ i → i < n → bm M k i k = 0) : det n M = 0 := by
 obtain ⟨m, rfl⟩ : ∃ m, n = k + m := ⟨n - k, by omega⟩
 have h1 := qe (m := m) hz
 rw [qa (M := fun r c => bm M k (k + r) (k + c)) (by omega) fun r hr => h _ (by omega) (by omega), Int.mul_zero] at h1
 rcases Int.mul_eq_zero.1 h1 with h | h
 ·exact h
 ·exact absurd h (nw hz m)
end Go.LA
namespace Go.LA
def mv (n : Nat) (A : Mat) (x : Vec) : Vec := fun r => sm n fun j => A r j * x j
theorem cX {n : Nat} {A A' : Mat} {x x' : Vec} {r : Nat} (h : ∀ j, j < n → A r j = A' r j) (h' : ∀ j, j < n → x j = x' j) : mv n A x r = mv n A' x' r := aV fun j hj => by rw [h j hj, h' j hj]
theorem jN (n m : Nat) (A B : Mat) (x : Vec) (r : Nat) : mv m (mm n A B) x r = mv n A (mv m B x) r := by
 have := ij n m A B (fun i _ => x i) r 0
 exact this
def InL (rows cols : Nat) (H : Mat) (v : Vec) : Prop := ∃ x : Vec, ∀ r, r < rows → v r = mv cols H x r
theorem InL.col {rows cols : Nat} (H : Mat) {c : Nat} (hc : c < cols) : InL rows cols H fun r => H r c := by
 refine ⟨fun j => idM j c, fun r _ => ?_⟩
 show H r c = sm cols fun j => H r j * idM j c
 rw [cf hc fun j _ hne => by rw [bF hne, Int.mul_zero]]
 rw [bA, Int.mul_one]
theorem InL.sub {rows cols : Nat} {H : Mat} {v v' : Vec} (h : InL rows cols H v) (h' : InL rows cols H v') : InL rows cols H fun r => v r - v' r := by
 obtain ⟨x, hx⟩ := h
 obtain ⟨y, hy⟩ := h'
 refine ⟨fun j => x j - y j, fun r hr => ?_⟩
 show v r - v' r = _
 rw [hx r hr, hy r hr]
 unfold mv
 rw [← gU]
 exact aV fun j _ => by grind
theorem InL.comb {rows cols : Nat} {H : Mat} {v v' : Vec} (h : InL rows cols H v) (h' : InL rows cols H v') (a b : Int) : InL rows cols H fun r => a * v r + b * v' r := by
 obtain ⟨x, hx⟩ := h
 obtain ⟨y, hy⟩ := h'
 refine ⟨fun j => a * x j + b * y j, fun r hr => ?_⟩
 show a * v r + b * v' r = _
 rw [hx r hr, hy r hr]
 unfold mv
 rw [← bX, ← bX, ← dG]
 exact aV fun j _ => by grind
theorem InL.congr {rows cols : Nat} {H : Mat} {v v' : Vec} (h : InL rows cols H v) (he : ∀ r, r < rows → v' r = v r) : InL rows cols H v' := by
 obtain ⟨x, hx⟩ := h
 exact ⟨x, fun r hr => by rw [he r hr, hx r hr]⟩
def Uni (n : Nat) (U : Mat) : Prop := det n U = 1 ∨ det n U = -1
theorem Uni.sq {n : Nat} {U : Mat} (h : Uni n U) : det n U * det n U = 1 := by rcases h with h | h <;> rw [h] <;> rfl
theorem Uni.ne {n : Nat} {U : Mat} (h : Uni n U) : det n U ≠ 0 := by rcases h with h | h <;> rw [h] <;> omega
theorem nx (n : Nat) : Uni n idM := .inl (gV n)
theorem Uni.mul {n : Nat} {U V : Mat} (h : Uni n U) (h' : Uni n V) : Uni n (mm n U V) := by
 unfold Uni
 rw [dB]
 rcases h with h | h <;> rcases h' with h' | h' <;> rw [h, h'] <;> simp
theorem Uni.congr {n : Nat} {U V : Mat} (h : Uni n U) (he : ∀ r c, r < n → c < n → U r c = V r c) : Uni n V := by unfold Uni; rw [← bo he]; exact h
def uinv (n : Nat) (U : Mat) : Mat := fun i j => det n U * adj n U i j
theorem Uni.mul_inv {n : Nat} {U : Mat} (h : Uni n U) {i j : Nat} (hi : i < n) (hj : j < n) : mm n U (uinv n U) i j = idM i j := by
 have e : mm n U (uinv n U) i j = det n U * mm n U (adj n U) i j := by
  unfold mm uinv
  rw [← bX]
  exact aV fun k _ => by grind
 rw [e, fh U hi hj, ← Int.mul_assoc, h.sq, Int.one_mul]
theorem Uni.inv_mul {n : Nat} {U : Mat} (h : Uni n U) {i j : Nat} (hi : i < n) (hj : j < n) : mm n (uinv n U) U i j = idM i j := by
 have e : mm n (uinv n U) U i j = det n U * mm n (adj n U) U i j := by
  unfold mm uinv
  rw [← bX]
  exact aV fun k _ => by grind
 rw [e, sG h.ne hi hj, ← Int.mul_assoc, h.sq, Int.one_mul]
theorem sH {n : Nat} {U V : Mat} (h : ∀ i j, i < n → j < n → mm n U V i j = idM i j) : Uni n U := by
 have := dB n U V
 rw [bo (M' := idM) h, gV] at this
 have hd : det n U ∣ 1 := ⟨_, this⟩
 have := Int.natAbs_dvd_natAbs.2 hd
 have h1 : (det n U).natAbs = 1 := Nat.dvd_one.1 this
 unfold Uni
 omega
theorem InL.uni {rows cols : Nat} {A H U : Mat} (hU : Uni cols U) (hH : ∀ r c, r < rows → c < cols → H r c = mm cols A U r c) (v : Vec) : InL rows cols H v ↔ InL rows cols A v := by
 constructor
 ·rintro ⟨x, hx⟩
  refine ⟨mv cols U x, fun r hr => ?_⟩
  rw [hx r hr, cX (A' := mm cols A U) (fun j hj => hH r j hr hj) fun _ _ => rfl, jN]
 ·rintro ⟨x, hx⟩
  refine ⟨mv cols (uinv cols U) x, fun r hr => ?_⟩
  rw [hx r hr, cX (A := H) (A' := mm cols A U) (fun j hj => hH r j hr hj) fun _ _ => rfl, jN]
  refine cX (fun _ _ => rfl) fun j hj => ?_
  rw [← jN, cX (A' := idM) (fun k hk => hU.mul_inv hj hk) fun _ _ => rfl]
  unfold mv
  rw [cf hj fun k _ hne => by rw [bF (Ne.symm hne), Int.zero_mul]]
  rw [bA, Int.one_mul]
structure HF (rows cols : Nat) (H : Mat) (k : Nat) (p : Nat → Nat) : Prop where
 kc : k ≤ cols
 lt : ∀ c, c < k → p c < rows
 mono : ∀ c c', c < c' → c' < k → p c < p c'
 zero : ∀ c, c < k → ∀ r, r < p c → H r c = 0
 pos : ∀ c, c < k → 0 < H (p c) c
 red : ∀ c, c < k → ∀ j, j < c → 0 ≤ H (p c) j ∧ H (p c) j < H (p c) c
 rest : ∀ c, k ≤ c → c < cols → ∀ r, r < rows → H r c = 0
theorem HF.congr {rows cols k : Nat} {H H' : Mat} {p : Nat → Nat} (h : HF rows cols H k p) (he : ∀ r c, r < rows → c < cols → H' r c = H r c) : HF rows cols H' k p := by
 have hk := h.kc
 refine ⟨h.kc, h.lt, h.mono, fun c hc r hr => ?_, fun c hc => ?_, fun c hc j hj => ?_, fun c hc hc' r hr => ?_⟩
 ·have := h.lt c hc; rw [he r c (by omega) (by omega)]; exact h.zero c hc r hr
 ·rw [he _ c (h.lt c hc) (by omega)]; exact h.pos c hc
 ·rw [he _ c (h.lt c hc) (by omega), he _ j (h.lt c hc) (by omega)]; exact h.red c hc j hj
 ·rw [he r c hr hc']; exact h.rest c hc hc' r hr
theorem my (k : Nat) (x : Vec) : (∀ j, j < k → x j = 0) ∨ ∃ c, c < k ∧ x c ≠ 0 ∧ ∀ j, j < c → x j = 0 := by
 induction k with
 | zero => exact .inl fun j hj => by omega
 | succ k ih =>
  rcases ih with h | ⟨c, h1, h2, h3⟩
  ·by_cases e : x k = 0
   ·exact .inl fun j hj => by
     by_cases e' : j = k
     ·rw [e', e]
     ·exact h j (by omega)
   ·exact .inr ⟨k, by omega, e, h⟩
  ·exact .inr ⟨c, by omega, h2, h3⟩
theorem HF.mvk {rows cols k : Nat} {H : Mat} {p : Nat → Nat} (h : HF rows cols H k p) (x : Vec) {r : Nat} (hr : r < rows) : mv cols H x r = mv k H x r := by
 obtain ⟨m, rfl⟩ : ∃ m, cols = k + m := ⟨cols - k, by have := h.kc; omega⟩
 unfold mv
 rw [fx, fg (n := m) fun i hi => by rw [h.rest (k + i) (by omega) (by omega) r hr, Int.zero_mul]]
 omega
theorem HF.begins {rows cols k : Nat} {H : Mat} {p : Nat → Nat} (h : HF rows cols H k p) {x : Vec} {c : Nat} (hc : c < k) (hx : ∀ j, j < c → x j = 0) : (∀ r, r < p c → mv cols H x r = 0) ∧ mv cols H x (p c) = x c * H (p c) c := by
 have hlt := h.lt c hc
 constructor
 ·intro r hr
  rw [h.mvk x (by omega)]
  refine fg fun j hj => ?_
  by_cases e : j < c
  ·rw [hx j e, Int.mul_zero]
  ·rw [h.zero j hj r, Int.zero_mul]
   by_cases e' : j = c
   ·rw [e']; exact hr
   ·have := h.mono c j (by omega) hj; omega
 ·rw [h.mvk x hlt]
  unfold mv
  rw [cf hc fun j hj hne => ?_]
  ·rw [Int.mul_comm]
  ·by_cases e : j < c
   ·rw [hx j e, Int.mul_zero]
   ·rw [h.zero j hj (p c) (h.mono c j (by omega) hj), Int.zero_mul]
theorem HF.lead {rows cols k : Nat} {H : Mat} {p : Nat → Nat} (h : HF rows cols H k p) {v : Vec} (hv : InL rows cols H v) (hne : ∃ r, r < rows ∧ v r ≠ 0) :
  ∃ c, c < k ∧ (∀ r, r < p c → v r = 0) ∧ v (p c) ≠ 0 ∧ H (p c) c ∣ v (p c) := by
 obtain ⟨x, hx⟩ := hv
 rcases my k x with h0 | ⟨c, hc, hxc, hl⟩
 ·obtain ⟨r, hr, hv⟩ := hne
  refine absurd ?_ hv
  rw [hx r hr, h.mvk x hr]
  exact fg fun j hj => by rw [h0 j hj, Int.mul_zero]
 ·obtain ⟨h1, h2⟩ := h.begins hc hl
  have hlt := h.lt c hc
  refine ⟨c, hc, fun r hr => by rw [hx r (by omega)]; exact h1 r hr, ?_, ?_⟩
  ·rw [hx _ hlt, h2]
   intro e
   rcases Int.mul_eq_zero.1 e with e | e
   ·exact hxc e
   ·have := h.pos c hc; omega
  ·rw [hx _ hlt, h2]; exact ⟨x c, Int.mul_comm _ _⟩
theorem HF.begin_col {rows cols k : Nat} {H : Mat} {p : Nat → Nat} (h : HF rows cols H k p) {c : Nat} (hc : c < k) {cols' k' : Nat} {H' : Mat} {p' : Nat → Nat} (h' : HF rows cols' H' k' p') (hL : ∀ v, InL rows cols H v → InL rows cols' H' v) : ∃ c', c' < k' ∧ p' c' = p c ∧ H' (p c) c' ∣ H (p c) c := by
 have hk := h.kc
 have hlt := h.lt c hc
 have hpos := h.pos c hc
 obtain ⟨c', h1, h2, h3, h4⟩ := h'.lead (hL _ (InL.col H (show c < cols by omega))) ⟨p c, hlt, by omega⟩
 have e : p' c' = p c := by
  rcases Nat.lt_trichotomy (p' c') (p c) with hh | hh | hh
  ·exact absurd (h.zero c hc _ hh) h3
  ·exact hh
  ·have := h2 _ hh; omega
 refine ⟨c', h1, e, ?_⟩
 rw [e] at h4; exact h4
theorem HF.unique {rows cols cols' k k' : Nat} {H H' : Mat} {p p' : Nat → Nat} (h : HF rows cols H k p) (h' : HF rows cols' H' k' p') (hL : ∀ v, InL rows cols H v ↔ InL rows cols' H' v) :
  k = k' ∧ (∀ c, c < k → p c = p' c) ∧ ∀ c, c < k → ∀ r, r < rows → H r c = H' r c := by
 have hk := h.kc
 have hk' := h'.kc
 have mle : ∀ {rows cols k : Nat} {H : Mat} {p : Nat → Nat}, HF rows cols H k p → ∀ c c', c ≤ c' → c' < k → p c ≤ p c' := fun h c c' hc hc' => by
  by_cases e : c = c'
  ·rw [e]; exact Nat.le_refl _
  ·exact Nat.le_of_lt (h.mono c c' (by omega) hc')
 have key : ∀ c, (c < k → c < k' ∧ p c = p' c) ∧ (c < k' → c < k ∧ p c = p' c) := by
  intro c
  induction c using Nat.strongRecOn with
  | _ c ih =>
   have one : c < k → ∃ e, c ≤ e ∧ e < k' ∧ p' e = p c := fun hc => by
    obtain ⟨e, he, hp, _⟩ := h.begin_col hc h' (fun v hv => (hL v).1 hv)
    refine ⟨e, ?_, he, hp⟩
    rcases Nat.lt_or_ge e c with hlt | hge
    ·have h1 := (ih e hlt).2 he
     have h2 := h.mono e c hlt hc
     omega
    ·exact hge
   have two : c < k' → ∃ e, c ≤ e ∧ e < k ∧ p e = p' c := fun hc => by
    obtain ⟨e, he, hp, _⟩ := h'.begin_col hc h (fun v hv => (hL v).2 hv)
    refine ⟨e, ?_, he, hp⟩
    rcases Nat.lt_or_ge e c with hlt | hge
    ·have h1 := (ih e hlt).1 he
     have h2 := h'.mono e c hlt hc
     omega
    ·exact hge
   have both : c < k → c < k' → p c = p' c := fun hc hc' => by
    obtain ⟨e, h1, h2, h3⟩ := one hc
    obtain ⟨f, g1, g2, g3⟩ := two hc'
    have := mle h' c e h1 h2
    have := mle h c f g1 g2
    omega
   constructor
   ·intro hc
    obtain ⟨e, h1, h2, h3⟩ := one hc
    exact ⟨by omega, both hc (by omega)⟩
   ·intro hc
    obtain ⟨e, h1, h2, h3⟩ := two hc
    exact ⟨by omega, both (by omega) hc⟩
 have hkk : k = k' := by
  rcases Nat.lt_trichotomy k k' with hlt | he | hlt
  ·have := ((key k).2 hlt).1; omega
  ·exact he
  ·have := ((key k').1 hlt).1; omega
 subst hkk
 have hp : ∀ c, c < k → p c = p' c := fun c hc => ((key c).1 hc).2
 have hpiv : ∀ c, c < k → H (p c) c = H' (p c) c := fun c hc => by
  obtain ⟨e, he, hpe, hd⟩ := h.begin_col hc h' (fun v hv => (hL v).1 hv)
  obtain ⟨f, hf, hpf, hd'⟩ := h'.begin_col hc h (fun v hv => (hL v).2 hv)
  have inj : ∀ a b, a < k → b < k → p' a = p' b → a = b := fun a b ha hb e => by
   rcases Nat.lt_trichotomy a b with hlt | h0 | hlt
   ·have := h'.mono a b hlt hb; omega
   ·exact h0
   ·have := h'.mono b a hlt ha; omega
  have e1 : e = c := inj e c he hc (by rw [hpe, hp c hc])
  have e2 : f = c := inj f c hf hc (by rw [← hp f hf, hpf])
  subst e1
  subst e2
  rw [← hp f hf] at hd'
  have a1 := h.pos f hc
  have a2 := h'.pos f hc
  rw [← hp f hc] at a2
  exact Int.le_antisymm (Int.le_of_dvd a2 hd') (Int.le_of_dvd a1 hd)
 refine ⟨rfl, hp, fun c hc r hr => ?_⟩
 refine Classical.byContradiction fun hne => ?_
 have hcol := (InL.col (rows := rows) H (show c < cols by omega)).sub ((hL _).2 (InL.col (rows := rows) H' (show c < cols' by omega)))
 obtain ⟨e, he, h1, h2, h3⟩ := h.lead hcol ⟨r, hr, by omega⟩
 have hlt := h.lt e he
 have h1 : ∀ r, r < p e → H r c - H' r c = 0 := h1
 have h2 : H (p e) c - H' (p e) c ≠ 0 := h2
 have h3 : H (p e) e ∣ H (p e) c - H' (p e) c := h3
 have hec : c < e := by
  rcases Nat.lt_trichotomy c e with hh | hh | hh
  ·exact hh
  ·subst hh; rw [hpiv c hc] at h2; omega
  ·have hm := h.mono e c hh hc
   have z1 := h.zero c hc _ hm
   have z2 := h'.zero c hc (p e) (by rw [← hp c hc]; exact hm)
   omega
 have r1 := h.red e he c hec
 have r2 := h'.red e he c hec
 rw [← hp e he, ← hpiv e he] at r2
 obtain ⟨q, hq⟩ := h3
 have hpos := h.pos e he
 have : q = 0 := by
  rcases Int.lt_trichotomy q 0 with hh | hh | hh
  ·have : H (p e) e * q ≤ H (p e) e * (-1) := Int.mul_le_mul_of_nonneg_left (by omega) (by omega)
   omega
  ·exact hh
  ·have : H (p e) e * 1 ≤ H (p e) e * q := Int.mul_le_mul_of_nonneg_left (by omega) (by omega)
   omega
 subst this
 omega
end Go.LA
