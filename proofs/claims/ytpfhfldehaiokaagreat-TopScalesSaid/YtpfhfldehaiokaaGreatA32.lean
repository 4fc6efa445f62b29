import Derived.Test.YtpfhfldehaiokaaGreatA31
set_option maxHeartbeats 2000000
namespace Go.LA
open Go.W
def rg (lo hi : Int) : List Int := (List.range (hi + 1 - lo).toNat).map fun (i : Nat) => lo + (i : Int)
theorem fN {lo hi c : Int} : c ∈ rg lo hi ↔ lo ≤ c ∧ c ≤ hi := by
 unfold rg
 rw [List.mem_map]
 constructor
 ·rintro ⟨i, hi', rfl⟩
  have := List.mem_range.1 hi'
  omega
 ·intro h
  exact ⟨(c - lo).toNat, List.mem_range.2 (by omega), by omega⟩
theorem q5 {lo hi : Int} (h : hi < lo) : rg lo hi = [] := by
 unfold rg; rw [show (hi + 1 - lo).toNat = 0 by omega]; rfl
theorem jW {lo c : Int} (h : lo ≤ c) : rg lo c = rg lo (c - 1) ++ [c] := by
 unfold rg
 rw [show (c + 1 - lo).toNat = (c - 1 + 1 - lo).toNat + 1 by omega, List.range_succ, List.map_append]
 congr 1
 rw [List.map_cons, List.map_nil]
 congr 1
 omega
theorem q6 (lo hi : Int) : (rg lo hi).length = (hi + 1 - lo).toNat := by unfold rg; simp
def evs (n : Nat) (A : Mat) (C : Int) : Nat → Vec → List (Nat × Int)
 | 0, x => [(n, cntV n A C 0 x)]
 | k + 1, x => (n - (k + 1), cntV n A C (k + 1) x) :: (rg (loV n A C (k + 1) x) (hiV n A C (k + 1) x)).flatMap fun c => evs n A C k (setF x (k + 1) c)
def tot (l : List (Nat × Int)) : Int := (l.map Prod.snd).sum
def stp (m : Nat) (l : List (Nat × Int)) : Int := tot (l.filter fun e => e.1 == m)
theorem oS : tot [] = 0 := rfl
theorem gR (e : Nat × Int) (l : List (Nat × Int)) : tot (e :: l) = e.2 + tot l := by simp [tot]
theorem fO (l m : List (Nat × Int)) : tot (l ++ m) = tot l + tot m := by simp [tot]
theorem ic (j : Nat) (l m : List (Nat × Int)) : stp j (l ++ m) = stp j l + stp j m := by simp [stp, fO]
theorem oT (j : Nat) (e : Nat × Int) : stp j [e] = if e.1 = j then e.2 else 0 := by
 unfold stp
 by_cases h : e.1 = j
 ·rw [if_pos h, List.filter_cons_of_pos (by simpa using h)]; simp [tot]
 ·rw [if_neg h, List.filter_cons_of_neg (by simpa using h)]; rfl
theorem qf (j : Nat) (e : Nat × Int) (l : List (Nat × Int)) : stp j (e :: l) = (if e.1 = j then e.2 else 0) + stp j l := by
 rw [← oT, ← ic]; rfl
theorem q7 {l : List (Nat × Int)} (h : ∀ e ∈ l, 0 ≤ e.2) : 0 ≤ tot l := by
 induction l with
 | nil => exact Int.le_refl _
 | cons e l ih =>
  rw [gR]
  have := h e (List.mem_cons_self ..)
  have := ih fun e he => h e (List.mem_cons_of_mem _ he)
  omega
theorem oU {j : Nat} {l : List (Nat × Int)} (h : ∀ e ∈ l, 0 ≤ e.2) : 0 ≤ stp j l := q7 fun e he => h e (List.mem_filter.1 he).1
theorem ve {j : Nat} {l : List (Nat × Int)} (h : ∀ e ∈ l, 0 ≤ e.2) : stp j l ≤ tot l := by
 induction l with
 | nil => exact Int.le_refl _
 | cons e l ih =>
  have h1 := h e (List.mem_cons_self ..)
  have h2 := ih fun e he => h e (List.mem_cons_of_mem _ he)
  rw [qf, gR]
  split <;> omega
theorem vf {α : Type} {f : α → List (Nat × Int)} {M : Int} {l : List α} (h : ∀ x ∈ l, tot (f x) ≤ M) : tot (l.flatMap f) ≤ M * l.length := by
 induction l with
 | nil => simp [tot]
 | cons x l ih =>
  rw [List.flatMap_cons, fO, List.length_cons, Int.natCast_succ, Int.mul_add]
  have := h x (List.mem_cons_self ..)
  have := ih fun x hx => h x (List.mem_cons_of_mem _ hx)
  omega
section
variable {n : Nat} {A : Mat} {C : Int}
theorem Wk.down (h : Wk n A C) {k : Nat} (hk : k < n) {x : Vec} (hr : 0 ≤ rs n A C (k + 1) x) {c : Int} (hc : loV n A C k x ≤ c ∧ c ≤ hiV n A C k x) : 0 ≤ rs n A C k (setF x k c) :=
 (h.in_iff hk hr fun j hj _ => aN _ _ (by omega)).2 (by rw [aI]; exact hc)
theorem Wk.ev_mem (h : Wk n A C) : ∀ (k : Nat) (x : Vec), k < n → 0 ≤ rs n A C (k + 1) x → ∀ e ∈ evs n A C k x, (1 ≤ e.1 ∧ e.1 ≤ n) ∧ 0 ≤ e.2 ∧ e.2 ≤ 19
 | 0, x, hk, hr, e, he => by
  unfold evs at he
  rw [List.mem_singleton] at he
  subst he
  exact ⟨⟨h.hn.1, Nat.le_refl _⟩, h.cnt0 hk x, h.cnt19 hk hr⟩
 | k + 1, x, hk, hr, e, he => by
  unfold evs at he
  rcases List.mem_cons.1 he with rfl | he
  ·exact ⟨⟨by show 1 ≤ n - (k + 1); omega, Nat.sub_le _ _⟩, h.cnt0 hk x, h.cnt19 hk hr⟩
  ·obtain ⟨c, hc, he⟩ := List.mem_flatMap.1 he
   exact Wk.ev_mem h k _ (by omega) (h.down hk hr (fN.1 hc)) e he
theorem Wk.rg19 (h : Wk n A C) {k : Nat} (hk : k < n) {x : Vec} (hr : 0 ≤ rs n A C (k + 1) x) : ((rg (loV n A C k x) (hiV n A C k x)).length : Int) ≤ 19 := by
 rw [q6]
 have := h.cnt19 hk hr
 have := h.cnt0 hk x
 unfold cntV at *
 omega
theorem Wk.tot0 (h : Wk n A C) {x : Vec} (hk : 0 < n) (hr : 0 ≤ rs n A C 1 x) : tot (evs n A C 0 x) ≤ 19 := by
 unfold evs
 rw [gR, oS]
 have := h.cnt19 hk hr
 show cntV n A C 0 x + 0 ≤ 19
 omega
theorem Wk.totS (h : Wk n A C) {k : Nat} {M : Int} (hM : 0 ≤ M) (hk : k + 1 < n) (ih : ∀ x, 0 ≤ rs n A C (k + 1) x → tot (evs n A C k x) ≤ M) {x : Vec} (hr : 0 ≤ rs n A C (k + 2) x) : tot (evs n A C (k + 1) x) ≤ 19 + M * 19 := by
 unfold evs
 rw [gR]
 have h1 := h.cnt19 hk hr
 have h2 : tot ((rg (loV n A C (k + 1) x) (hiV n A C (k + 1) x)).flatMap fun c => evs n A C k (setF x (k + 1) c)) ≤ M * _ := vf fun c hc => ih _ (h.down hk hr (fN.1 hc))
 have h3 := Int.mul_le_mul_of_nonneg_left (h.rg19 hk hr) hM
 show cntV n A C (k + 1) x + _ ≤ _
 omega
theorem Wk.tot_le (h : Wk n A C) {k : Nat} (hk : k < n) {x : Vec} (hr : 0 ≤ rs n A C (k + 1) x) : tot (evs n A C k x) ≤ 7239 := by
 have hn := h.hn
 have h0 : ∀ x, 0 ≤ rs n A C (0 + 1) x → tot (evs n A C 0 x) ≤ 19 := fun x hr => h.tot0 (by omega) hr
 obtain rfl | rfl | rfl : k = 0 ∨ k = 1 ∨ k = 2 := by omega
 ·have := h0 x hr; omega
 ·have h1 : tot (evs n A C 1 x) ≤ 19 + 19 * 19 := h.totS (by decide) hk h0 hr
  omega
 ·have h1 : ∀ x, 0 ≤ rs n A C (1 + 1) x → tot (evs n A C 1 x) ≤ 380 := fun x hr => by
   have h2 : tot (evs n A C 1 x) ≤ 19 + 19 * 19 := h.totS (by decide) (show 0 + 1 < n by omega) h0 hr
   omega
  have h3 : tot (evs n A C 2 x) ≤ 19 + 380 * 19 := h.totS (by decide) hk h1 hr
  omega
theorem ww {k : Nat} {x : Vec} (hx : ∀ j, k ≤ j → j < n → x j = 0) : qn n A k x = 0 :=
 fe fun i hi => fe fun j hj => by rw [hx (k + i) (by omega) (by omega)]; grind
theorem Wk.rs0 (h : Wk n A C) {k : Nat} (hk : k ≤ n) {x : Vec} (hx : ∀ j, k ≤ j → j < n → x j = 0) : 0 ≤ rs n A C k x := by
 unfold rs
 rw [ww hx]
 have := Int.mul_nonneg (Int.le_of_lt (h.pos k hk)) h.hC.1
 omega
theorem Wk.in0 (h : Wk n A C) {k : Nat} (hk : k < n) {x : Vec} (hx : ∀ j, k < j → j < n → x j = 0) : loV n A C k x ≤ 0 ∧ 0 ≤ hiV n A C k x := by
 have h1 := h.rs0 (k := k + 1) (by omega) fun j hj hjn => hx j (by omega) hjn
 have h2 := (h.in_iff hk h1 (y := setF x k 0) fun j hj _ => aN _ _ (by omega)).1 (h.rs0 (by omega) fun j hj hjn => by
  by_cases e : j = k
  ·subst e; exact aI _ _ _
  ·rw [aN _ _ e]; exact hx j (by omega) hjn)
 rwa [aI] at h2
theorem Wk.stp1 (h : Wk n A C) : ∀ (k : Nat) (x : Vec), k < n → (∀ j, k < j → j < n → x j = 0) → ∀ m, n - k ≤ m → m ≤ n → 1 ≤ stp m (evs n A C k x)
 | 0, x, hk, hx, m, h1, h2 => by
  unfold evs
  rw [oT, if_pos (by show n = m; omega)]
  have := h.in0 hk hx
  show 1 ≤ cntV n A C 0 x
  unfold cntV; omega
 | k + 1, x, hk, hx, m, h1, h2 => by
  have hr := h.rs0 (k := k + 2) (x := x) (by omega) fun j hj hjn => hx j (by omega) hjn
  have hin := h.in0 hk hx
  unfold evs
  rw [qf]
  have hmem : ∀ e ∈ (rg (loV n A C (k + 1) x) (hiV n A C (k + 1) x)).flatMap (fun c => evs n A C k (setF x (k + 1) c)), 0 ≤ e.2 := fun e he => by
   obtain ⟨c, hc, he⟩ := List.mem_flatMap.1 he
   exact (h.ev_mem k _ (by omega) (h.down hk hr (fN.1 hc)) e he).2.1
  by_cases e : n - (k + 1) = m
  ·rw [if_pos e]
   have := oU (j := m) hmem
   show 1 ≤ cntV n A C (k + 1) x + _
   unfold cntV; omega
  ·rw [if_neg e]
   obtain ⟨l1, l2, e3⟩ := List.append_of_mem (fN.2 hin)
   have ih := Wk.stp1 h k (setF x (k + 1) 0) (by omega) (fun j hj hjn => by
    by_cases e : j = k + 1
    ·subst e; exact aI _ _ _
    ·rw [aN _ _ e]; exact hx j (by omega) hjn) m (by omega) h2
   rw [e3, List.flatMap_append, List.flatMap_cons] at hmem ⊢
   rw [ic, ic]
   have a1 := oU (j := m) fun e he => hmem e (List.mem_append_left _ he)
   have a2 := oU (j := m) fun e he => hmem e (List.mem_append_right _ (List.mem_append_right _ he))
   omega
def cols (n : Nat) (A : Mat) (C : Int) : Nat → Vec → Bool → List (List Int)
 | 0, x, z => (rg (if z then 0 else loV n A C 0 x) (hiV n A C 0 x)).flatMap fun c => if (z && c == 0) = true then [] else [(List.range n).map (setF x 0 c)]
 | k + 1, x, z => (rg (if z then 0 else loV n A C (k + 1) x) (hiV n A C (k + 1) x)).flatMap fun c => cols n A C k (setF x (k + 1) c) (z && c == 0)
end
theorem vh {s u : Int} (hs : 0 ≤ s) : u ≤ rtI s ↔ u ≤ 0 ∨ u * u ≤ s := by
 have h1 := kp s
 have h2 := lu (u := u) hs
 constructor
 ·intro h
  rcases Int.lt_or_le 0 u with h3 | h3
  ·exact .inr (h2.2 ⟨by omega, h⟩)
  ·exact .inl h3
 ·rintro (h | h)
  ·omega
  ·exact (h2.1 h).2
theorem vi {q s u : Int} (hq : 0 < q) (hs : 0 ≤ s) : q * u ≤ rtI (q * q * s) ↔ u ≤ rtI s := by
 have hqq : 0 < q * q := Int.mul_pos hq hq
 rw [vh hs, vh (Int.mul_nonneg (Int.le_of_lt hqq) hs)]
 have e1 : q * u ≤ 0 ↔ u ≤ 0 := by
  constructor
  ·intro h
   exact Int.not_lt.1 fun hlt => by have := Int.mul_pos hq hlt; omega
  ·intro h; exact Int.mul_nonpos_of_nonneg_of_nonpos (Int.le_of_lt hq) h
 have e2 : q * u * (q * u) ≤ q * q * s ↔ u * u ≤ s := by
  rw [show q * u * (q * u) = q * q * (u * u) by grind]
  exact ⟨fun h => Int.le_of_mul_le_mul_left h hqq, fun h => Int.mul_le_mul_of_nonneg_left h (Int.le_of_lt hqq)⟩
 rw [e1, e2]
section
variable {n : Nat} {H : Mat} {B m : Int}
theorem vj (k : Nat) (x : Vec) : shv n (scM m H) k x = m ^ (k + 1) * shv n H k x := by
 unfold shv
 rw [← bN]
 exact aS fun j _ => by rw [oQ, Int.mul_assoc]
theorem zu (k : Nat) (x : Vec) : qn n (scM m H) k x = m ^ (k + 1) * qn n H k x := by
 unfold qn
 rw [← bN]
 refine aS fun i _ => ?_
 rw [← bN]
 exact aS fun j _ => by rw [oQ, Int.mul_assoc]
theorem zv (k : Nat) (x : Vec) : rs n (scM m H) (m * B) k x = m ^ (k + 1) * rs n H B k x := by
 unfold rs
 rw [zu, dY, Int.pow_succ]
 grind
theorem vk (k : Nat) (x : Vec) : sqv n (scM m H) (m * B) k x = m ^ (k + 1) * m ^ (k + 1) * sqv n H B k x := by
 unfold sqv
 rw [zv, dY, Int.pow_succ, Int.pow_succ]
 grind
theorem r7 (h : Wk n H B) (h' : Wk n (scM m H) (m * B)) (hm : 1 ≤ m) {k : Nat} (hk : k < n) {x : Vec} (hr : 0 ≤ rs n H B (k + 1) x) : hiV n (scM m H) (m * B) k x = hiV n H B k x := by
 have key : ∀ c, c ≤ hiV n (scM m H) (m * B) k x ↔ c ≤ hiV n H B k x := fun c => by
  rw [h'.hi_iff hk, h.hi_iff hk, vk, vj, dY, show m ^ (k + 1) * det (k + 1) H * c + m ^ (k + 1) * shv n H k x = m ^ (k + 1) * (det (k + 1) H * c + shv n H k x) by grind]
  exact vi (jV hm _) (h.sq_nn hk hr)
 exact Int.le_antisymm ((key _).1 (Int.le_refl _)) ((key _).2 (Int.le_refl _))
theorem r8 (h : Wk n H B) (h' : Wk n (scM m H) (m * B)) (hm : 1 ≤ m) {k : Nat} (hk : k < n) {x : Vec} (hr : 0 ≤ rs n H B (k + 1) x) : loV n (scM m H) (m * B) k x = loV n H B k x := by
 have key : ∀ c, loV n (scM m H) (m * B) k x ≤ c ↔ loV n H B k x ≤ c := fun c => by
  rw [h'.lo_iff hk, h.lo_iff hk, vk, vj, dY, show -(m ^ (k + 1) * det (k + 1) H * c + m ^ (k + 1) * shv n H k x) = m ^ (k + 1) * -(det (k + 1) H * c + shv n H k x) by grind]
  exact vi (jV hm _) (h.sq_nn hk hr)
 exact Int.le_antisymm ((key _).2 (Int.le_refl _)) ((key _).1 (Int.le_refl _))
theorem fP {α β : Type} {f g : α → List β} {l : List α} (h : ∀ x ∈ l, f x = g x) : l.flatMap f = l.flatMap g := by
 induction l with
 | nil => rfl
 | cons x l ih =>
  rw [List.flatMap_cons, List.flatMap_cons, h x (List.mem_cons_self ..), ih fun x hx => h x (List.mem_cons_of_mem _ hx)]
theorem vl (h : Wk n H B) (h' : Wk n (scM m H) (m * B)) (hm : 1 ≤ m) : ∀ (k : Nat) (x : Vec), k < n → 0 ≤ rs n H B (k + 1) x → evs n (scM m H) (m * B) k x = evs n H B k x
 | 0, x, hk, hr => by
  unfold evs cntV
  rw [r7 h h' hm hk hr, r8 h h' hm hk hr]
 | k + 1, x, hk, hr => by
  unfold evs cntV
  rw [r7 h h' hm hk hr, r8 h h' hm hk hr]
  congr 1
  exact fP fun c hc => vl h h' hm k _ (by omega) (h.down hk hr (fN.1 hc))
theorem r9 (h : Wk n H B) (h' : Wk n (scM m H) (m * B)) (hm : 1 ≤ m) : ∀ (k : Nat) (x : Vec) (z : Bool), k < n → 0 ≤ rs n H B (k + 1) x → (z = true → ∀ j, k < j → j < n → x j = 0) → cols n (scM m H) (m * B) k x z = cols n H B k x z
 | 0, x, z, hk, hr, hz => by
  unfold cols
  rw [r7 h h' hm hk hr, r8 h h' hm hk hr]
 | k + 1, x, z, hk, hr, hz => by
  unfold cols
  rw [r7 h h' hm hk hr, r8 h h' hm hk hr]
  refine fP fun c hc => ?_
  have hin : loV n H B (k + 1) x ≤ c ∧ c ≤ hiV n H B (k + 1) x := by
   have h1 := fN.1 hc
   refine ⟨?_, h1.2⟩
   cases z with
   | false => exact h1.1
   | true => have := (h.in0 hk (hz rfl)).1; have h2 : 0 ≤ c := h1.1; omega
  refine r9 h h' hm k _ _ (by omega) (h.down hk hr hin) fun e j hj hjn => ?_
  simp only [Bool.and_eq_true, beq_iff_eq] at e
  by_cases e1 : j = k + 1
  ·subst e1; rw [aI]; exact e.2
  ·rw [aN _ _ e1]; exact hz e.1 j (by omega) hjn
end
theorem Rd.dd {n : Nat} {H : Mat} (h : Rd n H) : ∀ k, k < n → det k H ≤ 4 * det (k + 1) H := by
 have hn := h.hn
 have step : ∀ t, t + 1 < n → det (t + 1) H * det (t + 1) H ≤ 2 * (det t H * det (t + 2) H) := fun t ht => by
  have h1 := (h.ok (t + 1) ht).1 t (by omega)
  have h2 := (h.ok (t + 1) ht).2 (by omega)
  unfold Sizd at h1
  unfold Lovz at h2
  rw [show t + 1 - 1 = t from rfl, show t + 1 + 1 = t + 2 from rfl] at h2
  have hp := h.pos (t + 1) (by omega)
  have h3 : (2 * bm H t (t + 1) t).natAbs ≤ (det (t + 1) H).natAbs := by omega
  have h4 := Nat.mul_le_mul h3 h3
  have h5 : (2 * bm H t (t + 1) t) * (2 * bm H t (t + 1) t) ≤ det (t + 1) H * det (t + 1) H := by
   rw [← Int.natAbs_mul_self' (2 * bm H t (t + 1) t), ← Int.natAbs_mul_self' (det (t + 1) H)]
   exact Int.ofNat_le.2 h4
  grind
 intro k hk
 have p1 := h.pos 1 hn.1
 obtain rfl | rfl | rfl : k = 0 ∨ k = 1 ∨ k = 2 := by omega
 ·rw [cA]
  show 1 ≤ 4 * det 1 H
  omega
 ·have := step 0 hk
  rw [cA] at this
  have h1 := Int.mul_le_mul_of_nonneg_right (show 1 ≤ det 1 H by omega) (Int.le_of_lt p1)
  have h2 := h.pos 2 (by omega)
  show det 1 H ≤ 4 * det 2 H
  rw [show det (0 + 1) H = det 1 H from rfl, show det (0 + 2) H = det 2 H from rfl] at this
  omega
 ·have s0 := step 0 (by omega)
  have s1 := step 1 hk
  rw [cA] at s0
  have p2 := h.pos 2 (by omega)
  have p3 := h.pos 3 (by omega)
  have h1 := Int.mul_le_mul_of_nonneg_right (show 1 ≤ det 1 H by omega) (Int.le_of_lt p1)
  have e1 : det (0 + 1) H = det 1 H := rfl
  have e2 : det (0 + 2) H = det 2 H := rfl
  have e3 : det (1 + 1) H = det 2 H := rfl
  have e4 : det (1 + 2) H = det 3 H := rfl
  rw [e1, e2] at s0
  rw [e3, e4] at s1
  have h2 : det 1 H * det 3 H ≤ 2 * det 2 H * det 3 H := Int.mul_le_mul_of_nonneg_right (by omega) (Int.le_of_lt p3)
  have h3 : det 2 H * det 2 H ≤ det 2 H * (4 * det 3 H) := by grind
  exact Int.le_of_mul_le_mul_left h3 p2
theorem Rd.wk {n : Nat} {H : Mat} {m B : Int} (h : Rd n H) (hm : 1 ≤ m ∧ m ≤ 4) (hB : 0 ≤ B ∧ B ≤ 5) : Wk n (scM m H) (m * B) := by
 have hsym := h.symk (k := m)
 have hpos : ∀ k, k ≤ n → 0 < det k (scM m H) := fun k hk => h.dpos hm hk
 refine ⟨h.hn, hsym, hpos, fun k hk => h.dlt hm hk, fun t i ht hi => ?_, ?_, fun k hk => ?_⟩
 ·have := h.short hm ht hi
  rwa [wV hsym (fun k hk => by have := hpos k hk; omega) t (by omega) i t hi (by omega)] at this
 ·have : m = 1 ∨ m = 2 ∨ m = 3 ∨ m = 4 := by omega
  rcases this with rfl | rfl | rfl | rfl <;> omega
 ·have h1 := h.dd k hk
  have p := jV hm.1 (k + 1)
  have p0 := h.pos k (by omega)
  have p1 := h.pos (k + 1) (by omega)
  have h2 : det k H * B ≤ 20 * det (k + 1) H := by
   have a1 := Int.mul_le_mul_of_nonneg_right h1 hB.1
   have a2 := Int.mul_le_mul_of_nonneg_left hB.2 (show 0 ≤ 4 * det (k + 1) H by omega)
   omega
  have h3 := Int.mul_le_mul_of_nonneg_left h2 (Int.le_of_lt p)
  rw [dY, dY]
  rw [Int.pow_succ] at h3 ⊢
  grind
theorem ly (H : Mat) : scM 1 H = H := by funext i j; exact Int.one_mul _
end Go.LA
namespace Go.W
section
variable {P : Program} {S : World → Prop} {ops : List Oper} {K : Env → World → Prop} {rest : List (Oper × Option Bool)} {ρ : Env} {w : World} {b : Option Bool} {d : Nat} {T T' T'' : TypeId} {pos : String} {af : Array Edge} {x y : Operand}
theorem nS {a b : Int} (hb : 0 < b) : (if a.tmod b < 0 then a.tdiv b - 1 else a.tdiv b) = a / b := by
 have h1 := Int.mul_tdiv_add_tmod a b
 have h2 := Int.tmod_lt_of_pos a hb
 have h4 : -b < a.tmod b := by
  have := Int.tmod_lt_of_pos (-a) hb
  rw [Int.neg_tmod] at this
  omega
 have h3 : ∀ q : Int, b * q ≤ a → a < b * (q + 1) → q = a / b := fun q h1 h2 => by
  rw [Int.mul_comm] at h1 h2
  have := (Int.le_ediv_iff_mul_le hb).2 h1
  have := (Int.ediv_lt_iff_lt_mul hb).2 h2
  omega
 split
 ·exact h3 _ (by rw [Int.mul_sub]; omega) (by rw [Int.mul_add, Int.mul_sub]; omega)
 ·exact h3 _ (by omega) (by rw [Int.mul_add]; omega)
theorem oV {m m' : Int} (hx : ev ρ x = .int .i64 m) (hy : ev ρ y = .int .i64 m') (h2 : 0 < m') (h3 : -9223372036854775807 ≤ m ∧ m ≤ 9223372036854775807)
  (h : RR P S ops K rest (upd ρ d (.int .i64 (m.tdiv m'))) w) : RR P S ops K ((⟨some d, .binOp .quo T' x y T'', T, pos, af, none⟩, b) :: rest) ρ w :=
 eG hx hy (by
  have h0 : m' ≠ 0 := by omega
  have h1 : (m.tdiv m').natAbs ≤ m.natAbs := Int.natAbs_tdiv_le_natAbs m m'
  simp [binOp, Op.intDiv, h0, cK (m := m.tdiv m') (by omega) (by omega)]) h
theorem vm {j : Nat} {k' : IntKind} (hx : ev ρ x = .int .i64 1) (hy : ev ρ y = .int k' (j : Int)) (hj : j ≤ 62)
  (h : RR P S ops K rest (upd ρ d (.int .i64 ((2 ^ j : Nat) : Int))) w) : RR P S ops K ((⟨some d, .binOp .shl T' x y T'', T, pos, af, none⟩, b) :: rest) ρ w := by
 have h1 : 2 ^ j ≤ 2 ^ 62 := Nat.pow_le_pow_right (by decide) hj
 refine wO hx hy (by omega) (by show (j : Int) ≤ ((64 : Nat) : Int); omega) ?_
 rw [Int.toNat_natCast, Int.one_mul, show ((2 : Int) ^ j) = ((2 ^ j : Nat) : Int) by rw [Int.natCast_pow]; rfl]
 have h2 : (2 : Nat) ^ 62 = 4611686018427387904 := by decide
 rw [h2] at h1
 generalize 2 ^ j = q at h1 h ⊢
 rw [cK (by omega) (by omega)]
 exact h
end
end Go.W
namespace Go.LA
theorem nU {a r : Nat} (hr : 0 < r) : isq a ≤ (r + a / r) / 2 := by
 have h1 := iQ a
 have h2 : 2 * isq a - r ≤ a / r := by
  rw [Nat.le_div_iff_mul_le hr]
  rcases Nat.lt_or_ge (2 * isq a) r with h | h
  ·rw [Nat.sub_eq_zero_of_le (by omega), Nat.zero_mul]; exact Nat.zero_le _
  ·obtain ⟨d, hd⟩ : ∃ d, 2 * isq a = r + d := ⟨2 * isq a - r, by omega⟩
   rw [show 2 * isq a - r = d by omega]
   have h3 : 4 * (isq a * isq a) = (r + d) * (r + d) := by rw [← hd]; grind
   have h4 : 4 * (d * r) ≤ (r + d) * (r + d) := by
    rcases Nat.le_total d r with h5 | h5
    ·obtain ⟨e, rfl⟩ := Nat.exists_eq_add_of_le h5
     have : (d + e + d) * (d + e + d) = 4 * (d * (d + e)) + e * e := by grind
     omega
    ·obtain ⟨e, rfl⟩ := Nat.exists_eq_add_of_le h5
     have : (r + (r + e)) * (r + (r + e)) = 4 * ((r + e) * r) + e * e := by grind
     omega
   omega
 omega
theorem mH {a r : Nat} (hr : 0 < r) (h : r ≤ (r + a / r) / 2) : r ≤ isq a := by
 have h1 : r ≤ a / r := by omega
 exact mG ((Nat.le_div_iff_mul_le hr).1 h1)
end Go.LA
namespace Go.Proofs.YtpfhfldehaiokaaGreat
open Go.W Go.LM Go.LA
theorem mI {x : Nat} (hx : x < 18446744073709551616) (w : World) : CallsR Tryz.prog 114 #[.int .u64 (x : Int)] w fun v w' => v = .int .i64 (bitL x : Int) ∧ w' = w := by
 refine aE (args := [_]) Tryz.func114 rfl rfl ?_
 repeat' (first|refine aj rfl ?_|refine aa ?_|refine ak ?_|refine ai rfl ?_|refine ah ?_)
 refine dy (ι := Nat × Nat) [0, 2, 5, 6] (fun s => [(0, .int .u64 (s.1 : Int)), (2, .int .i64 (s.2 : Int))])
  (fun s w' => w' = w ∧ s.1 < 4294967296 ∧ s.2 ≤ 32 ∧ bitL s.1 + s.2 = bitL x) ?_ ?_
 ·repeat' (first|refine dP (j := 32) rfl rfl (.inl rfl) ?_|refine aj rfl ?_|refine aa ?_|refine ak ?_|refine ai rfl ?_|refine ah ?_|refine aQ rfl (fun hc => ?_) (fun hc => ?_)|refine aC ?_)
  ·refine ⟨⟨(x >>> 32, 32), ⟨rfl, by simp only [Nat.shiftRight_eq_div_pow]; omega, by simp, by simp only [Nat.shiftRight_eq_div_pow]; exact fD (by omega)⟩, rfl, rfl, trivial⟩, (by (repeat (first|exact aX _ _|refine aB rfl ?_|refine ax rfl ?_|refine av rfl ?_|refine aw rfl ?_)))⟩
  ·refine ⟨⟨(x, 0), ⟨rfl, by simp only; omega, by simp, rfl⟩, rfl, rfl, trivial⟩, (by (repeat (first|exact aX _ _|refine aB rfl ?_|refine ax rfl ?_|refine av rfl ?_|refine aw rfl ?_)))⟩
 rintro ⟨y, n⟩ ξ w1 ⟨rfl, hy, hn, he⟩
 simp only at hy hn he
 show CW _ _ _ _ (over [(0, .int .u64 (y : Int)), (2, .int .i64 (n : Int))] _) w1
 repeat' (first|refine aj rfl ?_|refine aa ?_|refine ak ?_|refine ai rfl ?_|refine ah ?_)
 refine dy (ι := Nat × Nat) [0, 2, 9, 10, 11, 12] (fun s => [(0, .int .u64 (s.1 : Int)), (2, .int .i64 (s.2 : Int))])
  (fun s w' => w' = w1 ∧ s.1 < 65536 ∧ s.2 ≤ 48 ∧ bitL s.1 + s.2 = bitL x) ?_ ?_
 ·repeat' (first|refine dP (j := 16) rfl rfl (.inl rfl) ?_|refine dM (m := n) (m' := 16) rfl rfl (by omega) ?_|refine aj rfl ?_|refine aa ?_|refine ak ?_|refine ai rfl ?_|refine ah ?_|refine aQ rfl (fun hc => ?_) (fun hc => ?_)|refine aC ?_)
  ·refine ⟨⟨(y >>> 16, n + 16), ⟨rfl, by simp only [Nat.shiftRight_eq_div_pow]; omega, by simp only; omega, ?_⟩, rfl, rfl, trivial⟩, (by (repeat (first|exact aX _ _|refine aB rfl ?_|refine ax rfl ?_|refine av rfl ?_|refine aw rfl ?_)))⟩
   simp only [Nat.shiftRight_eq_div_pow]
   have := fD (x := y) (k := 16) (by omega)
   omega
  ·refine ⟨⟨(y, n), ⟨rfl, by simp only; omega, by simp only; omega, he⟩, rfl, rfl, trivial⟩, (by (repeat (first|exact aX _ _|refine aB rfl ?_|refine ax rfl ?_|refine av rfl ?_|refine aw rfl ?_)))⟩
 clear hy hn he
 rintro ⟨y, n⟩ ξ2 w2 ⟨rfl, hy, hn, he⟩
 simp only at hy hn he
 show CW _ _ _ _ (over [(0, .int .u64 (y : Int)), (2, .int .i64 (n : Int))] _) w2
 repeat' (first|refine aj rfl ?_|refine aa ?_|refine ak ?_|refine ai rfl ?_|refine ah ?_)
 refine dy (ι := Nat × Nat) [0, 2, 15, 16, 17, 18] (fun s => [(0, .int .u64 (s.1 : Int)), (2, .int .i64 (s.2 : Int))])
  (fun s w' => w' = w2 ∧ s.1 < 256 ∧ s.2 ≤ 56 ∧ bitL s.1 + s.2 = bitL x) ?_ ?_
 ·repeat' (first|refine dP (j := 8) rfl rfl (.inl rfl) ?_|refine dM (m := n) (m' := 8) rfl rfl (by omega) ?_|refine aj rfl ?_|refine aa ?_|refine ak ?_|refine ai rfl ?_|refine ah ?_|refine aQ rfl (fun hc => ?_) (fun hc => ?_)|refine aC ?_)
  ·refine ⟨⟨(y >>> 8, n + 8), ⟨rfl, by simp only [Nat.shiftRight_eq_div_pow]; omega, by simp only; omega, ?_⟩, rfl, rfl, trivial⟩, (by (repeat (first|exact aX _ _|refine aB rfl ?_|refine ax rfl ?_|refine av rfl ?_|refine aw rfl ?_)))⟩
   simp only [Nat.shiftRight_eq_div_pow]
   have := fD (x := y) (k := 8) (by omega)
   omega
  ·refine ⟨⟨(y, n), ⟨rfl, by simp only; omega, by simp only; omega, he⟩, rfl, rfl, trivial⟩, (by (repeat (first|exact aX _ _|refine aB rfl ?_|refine ax rfl ?_|refine av rfl ?_|refine aw rfl ?_)))⟩
 clear hy hn he
 rintro ⟨y, n⟩ ξ3 w3 ⟨rfl, hy, hn, he⟩
 simp only at hy hn he
 show CW _ _ _ _ (over [(0, .int .u64 (y : Int)), (2, .int .i64 (n : Int))] _) w3
 have hb : bitL y ≤ 8 := by
  unfold bitL
  split
  ·omega
  ·have := (Nat.log2_lt (n := y) (k := 8) (by omega)).2 hy; omega
 repeat' (first|refine cF rfl (rD (by omega) (by omega)) ?_|refine aj rfl ?_|refine ak ?_|refine ai rfl ?_)
 refine mg (j := y) (m := bitL y) (by kernel_rfl) rfl rfl ?_ ?_
 ·revert hy
  clear he hn hb
  revert y
  decide +kernel
 repeat' (first|refine cF rfl (cK (by omega) (by omega)) ?_|refine dM (m := n) (m' := bitL y) rfl rfl (by omega) ?_|refine aj rfl ?_|refine aa ?_|refine ah ?_|refine aK ?_)
 refine bo rfl (rt rfl) ⟨?_, rfl⟩
 show Value.int .i64 _ = _
 rw [← he, Nat.add_comm]
theorem se {a : Nat} (h : 0 < a) : a < 2 ^ ((bitL a + 1) / 2) * 2 ^ ((bitL a + 1) / 2) := by
 obtain ⟨_, h2, _⟩ := iU h
 rw [← Nat.pow_add]
 exact Nat.lt_of_lt_of_le h2 (Nat.pow_le_pow_right (by decide) (by omega))
theorem sf {a j : Nat} (h : a < 2 ^ j) : bitL a ≤ j := by
 unfold bitL
 split
 ·omega
 ·have := (Nat.log2_lt (n := a) (k := j) (by omega)).2 h; omega
theorem nV {a : Nat} (ha : a < 1152921504606846976) (w : World) : CallsR Tryz.prog 99 #[.int .i64 (a : Int)] w fun v w' => v = .int .i64 (isq a : Int) ∧ w' = w := by
 refine aE (args := [_]) Tryz.func99 rfl rfl ?_
 repeat' (first|refine aj rfl ?_|refine aa ?_|refine ak ?_|refine ai rfl ?_|refine ah ?_|refine aQ rfl (fun hc => ?_) (fun hc => ?_)|refine aK ?_|refine bf ?_|refine aC ?_)
 ·have : a = 0 := by omega
  subst this
  exact bo rfl (rt rfl) ⟨rfl, rfl⟩
 have h0 : 0 < a := by omega
 refine cF rfl (cV (by omega) (by omega)) ?_
 refine au (mI (show a < 18446744073709551616 by omega) w) rfl ?_
 rintro v w2 ⟨rfl, rfl⟩
 refine tvv ?_
 have hL : bitL a ≤ 60 := sf ha
 have e2 : ((bitL a : Int) + 1) / 2 = (((bitL a + 1) / 2 : Nat) : Int) := by omega
 obtain ⟨j, hj⟩ : ∃ j, (bitL a + 1) / 2 = j := ⟨_, rfl⟩
 have hj30 : j ≤ 30 := by omega
 rw [hj] at e2
 repeat' (first|refine et rfl rfl (by omega) (by omega) (by omega) ?_|refine vm (j := j) rfl (congrArg (Value.int .i64) e2) (by omega) ?_|refine aj rfl ?_|refine aa ?_|refine ah ?_|refine aV rfl rfl (by omega) (by omega) ?_|refine ay ?_)
 have hs := se h0
 rw [hj] at hs
 have hp : 0 < 2 ^ j := Nat.two_pow_pos j
 have hp2 : 2 ^ j ≤ 2 ^ 30 := Nat.pow_le_pow_right (by decide) hj30
 have hge : isq a ≤ 2 ^ j := by
  have := iQ a
  have : isq a * isq a ≤ 2 ^ j * 2 ^ j := by omega
  exact qe this
 refine aW (ι := Nat) [2, 3, 4, 13, 14, 15, 16, 17, 18, 19, 20, 21, 22, 23] (fun r => [(3, .int .i64 (r : Int))])
  (fun r w' => w' = w2 ∧ 0 < r ∧ r ≤ 1073741824 ∧ isq a ≤ r) (fun r => r) (2 ^ j) ⟨rfl, trivial⟩ ⟨rfl, hp, hp2, hge⟩ ?_
 rintro r ξ w3 ⟨rfl, h1, h2, h3⟩
 show CW _ _ _ _ (over [(3, .int .i64 (r : Int))] _) w3
 have hd : a / r ≤ a := Nat.div_le_self a r
 have e3 : (a : Int) / (r : Int) = ((a / r : Nat) : Int) := (Int.natCast_ediv a r).symm
 have e4 : ((r : Int) + (a : Int) / (r : Int)) / 2 = (((r + a / r) / 2 : Nat) : Int) := by rw [e3]; omega
 have n1 := nU (a := a) h1
 have hadd : (r : Int) + (a : Int) / (r : Int) ≤ 9223372036854775807 := by rw [e3]; omega
 have hadd0 : 0 ≤ (r : Int) + (a : Int) / (r : Int) := by rw [e3]; omega
 by_cases hc : r ≤ (r + a / r) / 2
 ·have n2 := mH h1 hc
  repeat' (first|refine et (m := (a : Int)) (m' := (r : Int)) rfl rfl (by omega) (by omega) (by omega) ?_|refine aV rfl rfl (by omega) hadd ?_|refine et rfl rfl hadd0 (by omega) hadd ?_|(refine iL rfl rfl (by rw [e4]; omega) ?_)|refine aj rfl ?_|refine aa ?_|refine ak ?_|refine ai rfl ?_|refine ah ?_|refine aA rfl ?_|refine ay ?_|refine aK ?_|refine bf ?_|refine cj ?_)
  exact bo rfl (rt rfl) ⟨congrArg (fun n : Nat => Value.int .i64 (n : Int)) (by omega), rfl⟩
 ·repeat' (first|refine et (m := (a : Int)) (m' := (r : Int)) rfl rfl (by omega) (by omega) (by omega) ?_|refine aV rfl rfl (by omega) hadd ?_|refine et rfl rfl hadd0 (by omega) hadd ?_|(refine ee rfl rfl (by rw [e4]; omega) ?_)|refine aj rfl ?_|refine aa ?_|refine ak ?_|refine ai rfl ?_|refine ah ?_|refine ao rfl ?_|refine ay ?_|refine aJ ?_|refine aC ?_)
  refine ⟨⟨(r + a / r) / 2, ⟨rfl, ?_, by omega, n1⟩, by omega, congrArg (Value.int .i64) e4, trivial⟩, (by (repeat (first|exact aG _ _ _|refine aB rfl ?_|refine ax rfl ?_|refine av rfl ?_|refine aw rfl ?_)))⟩
  have : 0 < isq a := by
   have := mG (s := a) (r := 1) (by omega)
   omega
  omega
theorem mJ {a b : Int} (hb : 0 < b) (ha : -4611686018427387904 ≤ a ∧ a ≤ 4611686018427387904) (w : World) : CallsR Tryz.prog 131 #[.int .i64 a, .int .i64 b] w fun v w' => v = .int .i64 (a / b) ∧ w' = w := by
 refine aE (args := [_, _]) Tryz.func131 rfl rfl ?_
 have h0 : b ≠ 0 := by omega
 have h1 : (a.tdiv b).natAbs ≤ a.natAbs := Int.natAbs_tdiv_le_natAbs a b
 have hf := nS (a := a) hb
 by_cases hc : a.tmod b < 0
 ·rw [if_pos hc] at hf
  repeat' (first|refine oV rfl rfl hb (by omega) ?_|refine lD rfl rfl h0 ?_|refine bq rfl rfl hc ?_|refine bK rfl rfl (by omega) (by omega) ?_|refine aj rfl ?_|refine aa ?_|refine ak ?_|refine ai rfl ?_|refine ah ?_|refine aA rfl ?_|refine aK ?_)
  exact bo rfl (rt rfl) ⟨congrArg (Value.int .i64) hf, rfl⟩
 ·rw [if_neg hc] at hf
  repeat' (first|refine oV rfl rfl hb (by omega) ?_|refine lD rfl rfl h0 ?_|refine bp rfl rfl (by omega) ?_|refine aj rfl ?_|refine aa ?_|refine ak ?_|refine ai rfl ?_|refine ah ?_|refine ao rfl ?_|refine aK ?_|refine aC ?_)
  exact bo rfl (rt rfl) ⟨congrArg (Value.int .i64) hf, rfl⟩
theorem q8 {a : Nat} (ha : a < 1152921504606846976) (w : World) : CallsR Tryz.prog 70 #[.int .i64 (a : Int)] w fun v w' => v = .int .i64 (isq a : Int) ∧ w' = w := by
 refine aE (args := [_]) Tryz.func70 rfl rfl ?_
 repeat' (first|refine aj rfl ?_|refine aa ?_|refine ak ?_|refine ai rfl ?_|refine ah ?_|refine aQ rfl (fun hc => ?_) (fun hc => ?_)|refine aK ?_|refine bf ?_|refine aC ?_)
 ·have : a = 0 := by omega
  subst this
  exact bo rfl (rt rfl) ⟨rfl, rfl⟩
 have h0 : 0 < a := by omega
 refine cF rfl (cV (by omega) (by omega)) ?_
 refine au (mI (show a < 18446744073709551616 by omega) w) rfl ?_
 rintro v w2 ⟨rfl, rfl⟩
 refine tvv ?_
 have hL : bitL a ≤ 60 := sf ha
 have e2 : ((bitL a : Int) + 1) / 2 = (((bitL a + 1) / 2 : Nat) : Int) := by omega
 obtain ⟨j, hj⟩ : ∃ j, (bitL a + 1) / 2 = j := ⟨_, rfl⟩
 have hj30 : j ≤ 30 := by omega
 rw [hj] at e2
 repeat' (first|refine et rfl rfl (by omega) (by omega) (by omega) ?_|refine vm (j := j) rfl (congrArg (Value.int .i64) e2) (by omega) ?_|refine aj rfl ?_|refine aa ?_|refine ah ?_|refine aV rfl rfl (by omega) (by omega) ?_|refine ay ?_)
 have hs := se h0
 rw [hj] at hs
 have hp : 0 < 2 ^ j := Nat.two_pow_pos j
 have hp2 : 2 ^ j ≤ 2 ^ 30 := Nat.pow_le_pow_right (by decide) hj30
 have hge : isq a ≤ 2 ^ j := by
  have := iQ a
  have : isq a * isq a ≤ 2 ^ j * 2 ^ j := by omega
  exact qe this
 refine aW (ι := Nat) [2, 3, 4, 13, 14, 15, 16, 17, 18, 19, 20, 21, 22, 23] (fun r => [(3, .int .i64 (r : Int))])
  (fun r w' => w' = w2 ∧ 0 < r ∧ r ≤ 1073741824 ∧ isq a ≤ r) (fun r => r) (2 ^ j) ⟨rfl, trivial⟩ ⟨rfl, hp, hp2, hge⟩ ?_
 rintro r ξ w3 ⟨rfl, h1, h2, h3⟩
 show CW _ _ _ _ (over [(3, .int .i64 (r : Int))] _) w3
 have hd : a / r ≤ a := Nat.div_le_self a r
 have e3 : (a : Int) / (r : Int) = ((a / r : Nat) : Int) := (Int.natCast_ediv a r).symm
 have e4 : ((r : Int) + (a : Int) / (r : Int)) / 2 = (((r + a / r) / 2 : Nat) : Int) := by rw [e3]; omega
 have n1 := nU (a := a) h1
 have hadd : (r : Int) + (a : Int) / (r : Int) ≤ 9223372036854775807 := by rw [e3]; omega
 have hadd0 : 0 ≤ (r : Int) + (a : Int) / (r : Int) := by rw [e3]; omega
 by_cases hc : r ≤ (r + a / r) / 2
 ·have n2 := mH h1 hc
  repeat' (first|refine et (m := (a : Int)) (m' := (r : Int)) rfl rfl (by omega) (by omega) (by omega) ?_|refine aV rfl rfl (by omega) hadd ?_|refine et rfl rfl hadd0 (by omega) hadd ?_|(refine iL rfl rfl (by rw [e4]; omega) ?_)|refine aj rfl ?_|refine aa ?_|refine ak ?_|refine ai rfl ?_|refine ah ?_|refine aA rfl ?_|refine ay ?_|refine aK ?_|refine bf ?_|refine cj ?_)
  exact bo rfl (rt rfl) ⟨congrArg (fun n : Nat => Value.int .i64 (n : Int)) (by omega), rfl⟩
 ·repeat' (first|refine et (m := (a : Int)) (m' := (r : Int)) rfl rfl (by omega) (by omega) (by omega) ?_|refine aV rfl rfl (by omega) hadd ?_|refine et rfl rfl hadd0 (by omega) hadd ?_|(refine ee rfl rfl (by rw [e4]; omega) ?_)|refine aj rfl ?_|refine aa ?_|refine ak ?_|refine ai rfl ?_|refine ah ?_|refine ao rfl ?_|refine ay ?_|refine aJ ?_|refine aC ?_)
  refine ⟨⟨(r + a / r) / 2, ⟨rfl, ?_, by omega, n1⟩, by omega, congrArg (Value.int .i64) e4, trivial⟩, (by (repeat (first|exact aG _ _ _|refine aB rfl ?_|refine ax rfl ?_|refine av rfl ?_|refine aw rfl ?_)))⟩
  have : 0 < isq a := by
   have := mG (s := a) (r := 1) (by omega)
   omega
  omega
theorem kL {a b : Int} (hb : 0 < b) (ha : -4611686018427387904 ≤ a ∧ a ≤ 4611686018427387904) (w : World) : CallsR Tryz.prog 71 #[.int .i64 a, .int .i64 b] w fun v w' => v = .int .i64 (a / b) ∧ w' = w := by
 refine aE (args := [_, _]) Tryz.func71 rfl rfl ?_
 have h0 : b ≠ 0 := by omega
 have h1 : (a.tdiv b).natAbs ≤ a.natAbs := Int.natAbs_tdiv_le_natAbs a b
 have hf := nS (a := a) hb
 by_cases hc : a.tmod b < 0
 ·rw [if_pos hc] at hf
  repeat' (first|refine oV rfl rfl hb (by omega) ?_|refine lD rfl rfl h0 ?_|refine bq rfl rfl hc ?_|refine bK rfl rfl (by omega) (by omega) ?_|refine aj rfl ?_|refine aa ?_|refine ak ?_|refine ai rfl ?_|refine ah ?_|refine aA rfl ?_|refine aK ?_)
  exact bo rfl (rt rfl) ⟨congrArg (Value.int .i64) hf, rfl⟩
 ·rw [if_neg hc] at hf
  repeat' (first|refine oV rfl rfl hb (by omega) ?_|refine lD rfl rfl h0 ?_|refine bp rfl rfl (by omega) ?_|refine aj rfl ?_|refine aa ?_|refine ak ?_|refine ai rfl ?_|refine ah ?_|refine ao rfl ?_|refine aK ?_|refine aC ?_)
  exact bo rfl (rt rfl) ⟨congrArg (Value.int .i64) hf, rfl⟩
end Go.Proofs.YtpfhfldehaiokaaGreat
