
import Derived.Test.YthhfjagnmhhapaaA04
import Derived.Test.YthhfjagnmhhapaaA05

/- Even and odd permutations: inversions, swaps and cycles. No program in sight. -/
namespace Go.PM
/-- the parity of the inversions of place x with the first k places -/
def invRow (p : List Int) (x : Nat) : Nat → Bool
  | 0 => false
  | k + 1 => invRow p x k ^^ decide (p.getD x 0 < p.getD k 0)
def invT (p : List Int) : Nat → Bool
  | 0 => false
  | k + 1 => invT p k ^^ invRow p k k
def evTo (l : List (List Int)) : Nat → Bool
  | 0 => true
  | k + 1 => if (l.getD k []).length % 2 = 0 then !(evTo l k) else evTo l k
def evenF (p : List Int) : Bool := evTo (cyclesF p) (cyclesF p).length
def evenR (p : List Int) : Bool := !invT p p.length

theorem invRow_congr {p q : List Int} {x y : Nat} (hv : p.getD x 0 = q.getD y 0) : ∀ k, (∀ i, i < k → p.getD i 0 = q.getD i 0) → invRow p x k = invRow q y k
  | 0, _ => rfl
  | k + 1, h => by rw [invRow, invRow, invRow_congr hv k (fun i hi => h i (by omega)), hv, h k (by omega)]
theorem invT_congr {p q : List Int} : ∀ k, (∀ i, i < k → p.getD i 0 = q.getD i 0) → invT p k = invT q k
  | 0, _ => rfl
  | k + 1, h => by rw [invT, invT, invT_congr k (fun i hi => h i (by omega)), invRow_congr (h k (by omega)) k (fun i hi => h i (by omega))]
/-- two places next to each other are exchanged -/
theorem invT_adj {l : List Int} {i : Nat} (hi : i + 1 < l.length) (hne : l.getD i 0 ≠ l.getD (i + 1) 0) : ∀ n, i + 1 < n → n ≤ l.length → invT (swapL l i (i + 1)) n = !(invT l n) := by
  have hg := fun k => swapL_getD (l := l) (i := i) (j := i + 1) (by omega) hi k
  have hlow : ∀ k, k < i → (swapL l i (i + 1)).getD k 0 = l.getD k 0 := fun k hk => by rw [hg, if_neg (by omega), if_neg (by omega)]
  have h1 : (swapL l i (i + 1)).getD i 0 = l.getD (i + 1) 0 := by rw [hg, if_neg (by omega), if_pos rfl]
  have h2 : (swapL l i (i + 1)).getD (i + 1) 0 = l.getD i 0 := by rw [hg, if_pos rfl]
  intro n
  induction n with
  | zero => intro h; omega
  | succ n ih =>
    intro hn hl
    by_cases hni : n = i + 1
    · subst hni
      simp only [invT, invRow]
      rw [invT_congr i hlow, invRow_congr (y := i + 1) h1 i hlow, invRow_congr (y := i) h2 i hlow, h1, h2]
      have hx : (decide (l.getD i 0 < l.getD (i + 1) 0)) = !(decide (l.getD (i + 1) 0 < l.getD i 0)) := by
        by_cases h : l.getD i 0 < l.getD (i + 1) 0
        · rw [decide_eq_true h, decide_eq_false (by omega)]; rfl
        · rw [decide_eq_false h, decide_eq_true (by omega)]; rfl
      rw [hx]
      generalize invT l i = a
      generalize invRow l i i = b
      generalize invRow l (i + 1) i = c
      generalize decide (l.getD (i + 1) 0 < l.getD i 0) = d
      revert a b c d; decide
    · rw [invT, invT, ih (by omega) (by omega)]
      have hn' : (swapL l i (i + 1)).getD n 0 = l.getD n 0 := by rw [hg, if_neg (by omega), if_neg (by omega)]
      have hrow : ∀ k, i + 1 < k → k ≤ n → invRow (swapL l i (i + 1)) n k = invRow l n k := by
        intro k
        induction k with
        | zero => intro h; omega
        | succ k ihk =>
          intro hk hkn
          by_cases hki : k = i + 1
          · subst hki
            simp only [invRow]
            rw [invRow_congr (y := n) hn' i hlow, hn', h1, h2]
            generalize invRow l n i = a
            generalize decide (l.getD n 0 < l.getD (i + 1) 0) = b
            generalize decide (l.getD n 0 < l.getD i 0) = c
            revert a b c; decide
          · rw [invRow, invRow, ihk (by omega) (by omega), hn', hg k, if_neg (by omega), if_neg (by omega)]
      rw [hrow n (by omega) (Nat.le_refl _)]
      simp
theorem swapL_comm {l : List Int} {i j : Nat} (hij : i ≠ j) : swapL l i j = swapL l j i := by
  unfold swapL
  rw [List.set_comm _ _ hij]
theorem swapL_three {l : List Int} {i j : Nat} (hij : i < j) (hj : j + 1 < l.length) : swapL l i (j + 1) = swapL (swapL (swapL l j (j + 1)) i j) j (j + 1) := by
  apply ext_getD (by simp [swapL_length])
  intro k hk
  rw [swapL_getD (by omega) hj, swapL_getD (by simp [swapL_length]; omega) (by simp [swapL_length]; omega)]
  simp only [swapL_getD (l := swapL l j (j + 1)) (i := i) (j := j) (by rw [swapL_length]; omega) (by rw [swapL_length]; omega), swapL_getD (l := l) (i := j) (j := j + 1) (by omega) hj]
  have n1 : ¬ i = j + 1 := by omega
  have n2 : ¬ i = j := by omega
  have n3 : ¬ j = i := by omega
  have n4 : ¬ j + 1 = i := by omega
  by_cases h1 : k = j + 1
  · subst h1; simp [n1, n2]
  · by_cases h2 : k = j
    · subst h2; simp [n3, n4]
    · by_cases h3 : k = i
      · subst h3; simp [n1, n2]
      · simp [h1, h2, h3]
theorem invT_swap_lt {n : Nat} : ∀ (m : Nat) {l : List Int} {i j : Nat}, j - i = m + 1 → j < l.length → Dist n l → invT (swapL l i j) l.length = !(invT l l.length)
  | 0, l, i, j, hm, hj, hd => by
    obtain rfl : j = i + 1 := by omega
    exact invT_adj hj (nodup_iff.1 hd.2 i (i + 1) (by omega) hj) l.length hj (Nat.le_refl _)
  | m + 1, l, i, j, hm, hj, hd => by
    obtain ⟨j, rfl⟩ : ∃ j', j = j' + 1 := ⟨j - 1, by omega⟩
    rw [swapL_three (by omega) hj]
    have d1 := swapL_dist (i := j) (j := j + 1) (by omega) hj hd
    have d2 := swapL_dist (i := i) (j := j) (by rw [swapL_length]; omega) (by rw [swapL_length]; omega) d1
    have a1 := invT_adj hj (nodup_iff.1 hd.2 j (j + 1) (by omega) hj) l.length hj (Nat.le_refl _)
    have a2 := invT_swap_lt m (l := swapL l j (j + 1)) (i := i) (j := j) (by omega) (by rw [swapL_length]; omega) d1
    have a3 := invT_adj (l := swapL (swapL l j (j + 1)) i j) (i := j) (by simp only [swapL_length]; exact hj) (nodup_iff.1 d2.2 j (j + 1) (by omega) (by simp only [swapL_length]; exact hj)) l.length hj (by simp only [swapL_length]; exact Nat.le_refl _)
    rw [swapL_length] at a2
    rw [a3, a2, a1]
    simp
theorem invT_swap {n : Nat} {l : List Int} {i j : Nat} (hij : i ≠ j) (hi : i < l.length) (hj : j < l.length) (hd : Dist n l) : invT (swapL l i j) l.length = !(invT l l.length) := by
  rcases Nat.lt_or_gt_of_ne hij with h | h
  · exact invT_swap_lt (j - i - 1) (by omega) hj hd
  · rw [swapL_comm hij]; exact invT_swap_lt (i - j - 1) (by omega) hi hd
/-- k exchanges of two places each -/
inductive Sw (l : List Int) : Nat → List Int → Prop
  | nil : Sw l 0 l
  | cons {k : Nat} {q : List Int} (i j : Nat) (h : Sw l k q) (hij : i ≠ j) (hi : i < q.length) (hj : j < q.length) : Sw l (k + 1) (swapL q i j)
theorem Sw.len {l q : List Int} {k : Nat} (h : Sw l k q) : q.length = l.length := by
  induction h with
  | nil => rfl
  | cons i j h _ _ _ ih => rw [swapL_length, ih]
theorem Sw.dist {n : Nat} {l q : List Int} {k : Nat} (h : Sw l k q) (hd : Dist n l) : Dist n q := by
  induction h with
  | nil => exact hd
  | cons i j h _ hi hj ih => exact swapL_dist hi hj ih
theorem Sw.inv {n : Nat} {l q : List Int} {k : Nat} (h : Sw l k q) (hd : Dist n l) : invT q l.length = (invT l l.length ^^ decide (k % 2 = 1)) := by
  induction h with
  | nil => simp
  | @cons k q i j h hij hi hj ih =>
    have := invT_swap hij hi hj (h.dist hd)
    rw [h.len] at this
    rw [this, ih]
    have e : decide ((k + 1) % 2 = 1) = !(decide (k % 2 = 1)) := by
      by_cases hk : k % 2 = 1
      · simp [hk]; omega
      · simp [hk]; omega
    rw [e]
    simp
theorem mulP_getD {p q : List Int} {k : Nat} (h : k < p.length) : (mulP p q).getD k 0 = q.getD (p.getD k 0).toNat 0 := by simp [mulP, List.getD_eq_getElem?_getD, h]
theorem mulP_swap {p q : List Int} {i j : Nat} (hi : i < p.length) (hj : j < p.length) : mulP (swapL p i j) q = swapL (mulP p q) i j := by
  apply ext_getD (by simp [mulP_length, swapL_length])
  intro k hk
  rw [mulP_length, swapL_length] at hk
  rw [mulP_getD (by rw [swapL_length]; exact hk), swapL_getD hi hj, swapL_getD (by rw [mulP_length]; exact hi) (by rw [mulP_length]; exact hj), mulP_getD hi, mulP_getD hj, mulP_getD hk]
  split
  · rfl
  · split <;> rfl
theorem Sw.mul {l p q : List Int} {k : Nat} (h : Sw l k p) : Sw (mulP l q) k (mulP p q) := by
  induction h with
  | nil => exact .nil
  | cons i j h hij hi hj ih => rw [mulP_swap hi hj]; exact .cons i j ih hij (by rw [mulP_length]; exact hi) (by rw [mulP_length]; exact hj)
theorem Sw.trans {a b c : List Int} {k m : Nat} (h1 : Sw a k b) (h2 : Sw b m c) : Sw a (k + m) c := by
  induction h2 with
  | nil => exact h1
  | cons i j h hij hi hj ih => exact .cons i j ih hij hi hj
theorem mulP_id {n : Nat} {q : List Int} (h : q.length = n) : mulP (idList n) q = q := by
  apply ext_getD (by simp [mulP_length, idList_length, h])
  intro k hk
  rw [mulP_length, idList_length] at hk
  rw [mulP_getD (by rw [idList_length]; exact hk), idList_getD hk]; simp
theorem inv_id (n : Nat) : ∀ k, k ≤ n → invT (idList n) k = false
  | 0, _ => rfl
  | k + 1, hk => by
    rw [invT, inv_id n k (by omega)]
    have : ∀ m, m ≤ k → invRow (idList n) k m = false := by
      intro m
      induction m with
      | zero => intro _; rfl
      | succ m ih =>
        intro hm
        rw [invRow, ih (by omega), idList_getD (by omega), idList_getD (by omega)]
        simp; omega
    rw [this k (Nat.le_refl _)]; rfl
/-! a cycle as a product of exchanges -/
def cycSw (p : List Int) (x : Int) : Nat → List Int → List Int
  | 0, q => q
  | t + 1, q => swapL (cycSw p x t q) (it p t x).toNat (it p (t + 1) x).toNat
theorem cycSw_len (p : List Int) (x : Int) (q : List Int) : ∀ t, (cycSw p x t q).length = q.length
  | 0 => rfl
  | t + 1 => by rw [cycSw, swapL_length, cycSw_len p x q t]
theorem cycSw_spec {p : List Int} (hp : IsPerm p) {x : Int} (hx : In p x) {q : List Int} (hq : q.length = p.length) (hfix : ∀ k, k < per p x → q.getD (it p k x).toNat 0 = it p k x) :
    ∀ t, t < per p x → Sw q t (cycSw p x t q) ∧ (∀ k, k < t → (cycSw p x t q).getD (it p k x).toNat 0 = it p (k + 1) x) ∧ (cycSw p x t q).getD (it p t x).toNat 0 = x ∧
      (∀ k, t < k → k < per p x → (cycSw p x t q).getD (it p k x).toNat 0 = it p k x) ∧ ∀ y : Nat, (∀ k, k < per p x → it p k x ≠ y) → (cycSw p x t q).getD y 0 = q.getD y 0 := by
  obtain ⟨c1, c2, c3, c4, c5⟩ := cyc_spec hp hx
  have hin := fun k => it_in hp hx k
  unfold In at hin
  have hne : ∀ i j, i < per p x → j < per p x → i ≠ j → (it p i x).toNat ≠ (it p j x).toNat := fun i j hi hj hij e => by
    have h1 := hin i
    have h2 := hin j
    have e2 : it p i x = it p j x := by omega
    rcases Nat.lt_or_gt_of_ne hij with h | h
    · have := nodup_iff.1 c5 i j h (by rw [itL_length]; exact hj)
      rw [itL_getD hi, itL_getD hj] at this
      exact this e2
    · have := nodup_iff.1 c5 j i h (by rw [itL_length]; exact hi)
      rw [itL_getD hi, itL_getD hj] at this
      exact this e2.symm
  intro t
  induction t with
  | zero =>
    intro h
    exact ⟨.nil, fun k hk => by omega, by have := hfix 0 h; simpa [cycSw, it] using this, fun k _ hk => hfix k hk, fun y _ => rfl⟩
  | succ t ih =>
    intro h
    obtain ⟨i1, i2, i3, i4, i5⟩ := ih (by omega)
    have hl := cycSw_len p x q t
    have a1 : (it p t x).toNat < (cycSw p x t q).length := by have := hin t; omega
    have a2 : (it p (t + 1) x).toNat < (cycSw p x t q).length := by have := hin (t + 1); omega
    have hg := fun k => swapL_getD a1 a2 k
    refine ⟨.cons _ _ i1 (hne t (t + 1) (by omega) h (by omega)) a1 a2, fun k hk => ?_, ?_, fun k hk hk2 => ?_, fun y hy => ?_⟩
    · rw [cycSw, hg]
      by_cases hkt : k = t
      · subst hkt
        rw [if_neg (hne k (k + 1) (by omega) h (by omega)), if_pos rfl, i4 (k + 1) (by omega) h]
      · rw [if_neg (hne k (t + 1) (by omega) h (by omega)), if_neg (hne k t (by omega) (by omega) hkt), i2 k (by omega)]
    · rw [cycSw, hg, if_pos rfl, i3]
    · rw [cycSw, hg, if_neg (hne k (t + 1) hk2 h (by omega)), if_neg (hne k t hk2 (by omega) (by omega)), i4 k (by omega) hk2]
    · rw [cycSw, hg]
      have b1 := hy t (by omega)
      have b2 := hy (t + 1) h
      have h1 := hin t
      have h2 := hin (t + 1)
      rw [if_neg (by omega), if_neg (by omega), i5 y hy]
/-- the permutation is made of its cycles -/
theorem perm_sw {p : List Int} (hp : IsPerm p) : ∀ k, k ≤ p.length → ∃ q s, Sw (idList p.length) s q ∧ (decide (s % 2 = 0) = evTo (cycGo p k).2 (cycGo p k).2.length) ∧
    (∀ y : Nat, (y : Int) ∈ (cycGo p k).1 → q.getD y 0 = p.getD y 0) ∧ ∀ y : Nat, y < p.length → ¬ (y : Int) ∈ (cycGo p k).1 → q.getD y 0 = y
  | 0, _ => ⟨idList p.length, 0, .nil, rfl, by simp [cycGo], fun y hy _ => idList_getD hy⟩
  | k + 1, hk => by
    obtain ⟨q, s, h1, h2, h3, h4⟩ := perm_sw hp k (by omega)
    have hin : In p (k : Int) := by unfold In; omega
    rw [cycGo]
    split
    · exact ⟨q, s, h1, h2, h3, h4⟩
    · rename_i hnot
      rw [not_or] at hnot
      obtain ⟨c1, c2, c3, c4, c5⟩ := cyc_spec hp hin
      have hql : q.length = p.length := by rw [h1.len, idList_length]
      have hseen := mem_seen hp k (by omega)
      have hns : ∀ j, ¬ it p j k ∈ (cycGo p k).1 := fun j hj => by
        apply hnot.1
        rw [hseen] at hj ⊢
        obtain ⟨i, hi, e1, e2⟩ := hj
        have hi' : In p (i : Int) := by unfold In; omega
        exact ⟨i, hi, e1, cyc_trans hp hi' e2 (cyc_symm hp hin ((mem_cyc hp hin).2 ⟨j, rfl⟩))⟩
      have hfix : ∀ j, j < per p k → q.getD (it p j k).toNat 0 = it p j k := fun j _ => by
        have hj := it_in hp hin j
        unfold In at hj
        have := h4 (it p j k).toNat (by omega) (by rw [Int.toNat_of_nonneg hj.1]; exact hns j)
        rw [this, Int.toNat_of_nonneg hj.1]
      obtain ⟨s1, s2, s3, s4, s5⟩ := cycSw_spec hp hin hql hfix (per p k - 1) (by omega)
      refine ⟨cycSw p k (per p k - 1) q, s + (per p k - 1), h1.trans s1, ?_, fun y hy => ?_, fun y hy hny => ?_⟩
      · rw [List.length_append, List.length_singleton, evTo]
        have e1 : ((cycGo p k).2 ++ [cyc p k]).getD (cycGo p k).2.length [] = cyc p k := by simp [List.getD_eq_getElem?_getD]
        have e2 : ∀ m, m ≤ (cycGo p k).2.length → evTo ((cycGo p k).2 ++ [cyc p k]) m = evTo (cycGo p k).2 m := by
          intro m
          induction m with
          | zero => intro _; rfl
          | succ m ih =>
            intro hm
            rw [evTo, evTo, ih (by omega)]
            have : ((cycGo p k).2 ++ [cyc p k]).getD m [] = (cycGo p k).2.getD m [] := by simp [List.getD_eq_getElem?_getD, List.getElem?_append_left (show m < (cycGo p k).2.length by omega)]
            rw [this]
        rw [e1, e2 _ (Nat.le_refl _), ← h2]
        change _ = if per p k % 2 = 0 then _ else _
        by_cases hpar : per p k % 2 = 0
        · rw [if_pos hpar]
          by_cases hs2 : s % 2 = 0
          · simp [hs2]; omega
          · simp [hs2]; omega
        · rw [if_neg hpar]
          by_cases hs2 : s % 2 = 0
          · simp [hs2]; omega
          · simp [hs2]; omega
      · rcases List.mem_append.1 hy with h | h
        · rw [s5 y (fun j _ e => hns j (by rw [e]; exact h))]
          exact h3 y h
        · rw [c3] at h
          obtain ⟨j, hj, e⟩ := mem_itL.1 h
          have e' : (it p j k).toNat = y := by omega
          by_cases hjl : j = per p k - 1
          · have hs3 := s3
            rw [← hjl] at hs3
            rw [e', ] at hs3
            rw [hjl] at hs3
            have hs3' := s3
            rw [← hjl, e'] at hs3'
            rw [hjl] at hs3'
            rw [hs3']
            have : it p (per p k) k = ap p (it p j k) := by rw [show per p k = j + 1 by omega]; rfl
            rw [c4, e] at this
            rw [this]; unfold ap; simp
          · have := s2 j (by omega)
            rw [e'] at this
            rw [this]
            show ap p (it p j k) = _
            rw [e]; unfold ap; simp
      · rw [List.mem_append, not_or] at hny
        rw [s5 y (fun j hj e => hny.2 (by rw [c3]; exact mem_itL.2 ⟨j, hj, e⟩))]
        exact h4 y hy hny.1
theorem even_sw {p : List Int} (hp : IsPerm p) : ∃ s, Sw (idList p.length) s p ∧ decide (s % 2 = 0) = evenF p := by
  obtain ⟨q, s, h1, h2, h3, h4⟩ := perm_sw hp p.length (Nat.le_refl _)
  have hq : q = p := by
    apply ext_getD (by rw [h1.len, idList_length])
    intro y hy
    rw [h1.len, idList_length] at hy
    by_cases hs : (y : Int) ∈ (cycGo p p.length).1
    · exact h3 y hs
    · rw [h4 y hy hs]
      have hin : In p (y : Int) := by unfold In; omega
      rw [mem_seen hp _ (Nat.le_refl _)] at hs
      by_cases hap : ap p y = y
      · unfold ap at hap; simpa using hap.symm
      · exact absurd ⟨y, hy, hap, cyc_self hp hin⟩ hs
  subst hq
  exact ⟨s, h1, by rw [h2, evenF, cyclesF, if_pos hp]⟩
theorem even_eq {p : List Int} (hp : IsPerm p) : evenF p = evenR p := by
  obtain ⟨s, h1, h2⟩ := even_sw hp
  have := h1.inv (idList_dist p.length)
  rw [idList_length, inv_id _ _ (Nat.le_refl _)] at this
  rw [← h2, evenR, this]
  by_cases hs : s % 2 = 0
  · simp [hs]
  · simp [hs]; omega
theorem even_mul {p q : List Int} (hp : IsPerm p) (hq : IsPerm q) (hl : p.length = q.length) (hpq : IsPerm (mulP p q)) : evenF (mulP p q) = (evenF p == evenF q) := by
  obtain ⟨s, h1, h2⟩ := even_sw hp
  have h3 := (h1.mul (q := q)).inv (n := q.length) (by rw [mulP_id hl.symm]; exact hq.2.2)
  rw [mulP_id hl.symm] at h3
  rw [even_eq hpq, even_eq hq, ← h2, evenR, evenR, mulP_length, hl, h3]
  by_cases hs : s % 2 = 0
  · simp [hs]
  · have : s % 2 = 1 := by omega
    simp [this]
end Go.PM

/- Products and powers of permutations, and their orders. No program in sight. -/
namespace Go.PM
theorem mulP_perm {p q : List Int} (hp : IsPerm p) (hq : IsPerm q) (hl : p.length = q.length) : IsPerm (mulP p q) := by
  refine ⟨by rw [mulP_length]; exact hp.1, by rw [mulP_length]; exact hp.2.1, ?_⟩
  rw [mulP_length, dist_iff, mulP_length]
  refine ⟨fun k hk => ?_, fun i j hij hj => ?_⟩
  · rw [mulP_getD hk]
    have h1 := hp.lt hk
    have := hq.lt (k := (p.getD k 0).toNat) (by omega)
    omega
  · rw [mulP_getD (by omega), mulP_getD hj]
    have h1 := hp.lt (k := i) (by omega)
    have h2 := hp.lt hj
    have h3 := nodup_iff.1 hp.2.2.2 i j hij hj
    intro e
    have := ap_inj hq (x := p.getD i 0) (y := p.getD j 0) (by unfold In; omega) (by unfold In; omega) e
    exact h3 this
/-- powers -/
def powL (p : List Int) (k : Nat) : List Int := (idList p.length).map fun y => it p k y
theorem powL_len (p : List Int) (k : Nat) : (powL p k).length = p.length := by simp [powL, idList_length]
theorem powL_getD {p : List Int} {k y : Nat} (h : y < p.length) : (powL p k).getD y 0 = it p k y := by
  have : y < (idList p.length).length := by rw [idList_length]; exact h
  have e := idList_getD h
  simp only [List.getD_eq_getElem?_getD] at e
  simp only [powL, List.getD_eq_getElem?_getD, List.getElem?_map]
  rw [List.getElem?_eq_getElem this] at e ⊢
  simp at e ⊢
  rw [e]
theorem powL_zero (p : List Int) : powL p 0 = idList p.length := by simp [powL, it]
theorem powL_perm {p : List Int} (hp : IsPerm p) (k : Nat) : IsPerm (powL p k) := by
  refine ⟨by rw [powL_len]; exact hp.1, by rw [powL_len]; exact hp.2.1, ?_⟩
  rw [powL_len, dist_iff, powL_len]
  refine ⟨fun y hy => ?_, fun i j hij hj => ?_⟩
  · rw [powL_getD hy]; exact it_in hp (by unfold In; omega) k
  · rw [powL_getD (by omega), powL_getD hj]
    intro e
    have := it_inj hp (x := (i : Int)) (y := (j : Int)) (by unfold In; omega) (by unfold In; omega) k e
    omega
theorem powL_succ (p : List Int) (_hp : IsPerm p) (k : Nat) : mulP (powL p k) p = powL p (k + 1) := by
  apply ext_getD (by rw [mulP_length, powL_len, powL_len])
  intro y hy
  rw [mulP_length, powL_len] at hy
  rw [mulP_getD (by rw [powL_len]; exact hy), powL_getD hy, powL_getD hy]; rfl
theorem lcm_step (a b : Nat) (_hb : 0 < b) : a * (b / Nat.gcd a b) = Nat.lcm a b := by
  rw [Nat.lcm, Nat.mul_div_assoc _ (Nat.gcd_dvd_right a b)]
theorem ordTo_dvd {l : List (List Int)} (m : Nat) : ∀ k, k ≤ l.length → (∀ i, i < l.length → 1 ≤ (l.getD i []).length) → (ordTo l k ∣ m ↔ ∀ i, i < k → (l.getD i []).length ∣ m)
  | 0, _, _ => by simp [ordTo]
  | k + 1, hk, hne => by
    have ih := ordTo_dvd m k (by omega) hne
    rw [ordTo, lcm_step _ _ (hne k (by omega))]
    constructor
    · intro h i hi
      by_cases hik : i = k
      · subst hik; exact Nat.dvd_trans (Nat.dvd_lcm_right _ _) h
      · exact ih.1 (Nat.dvd_trans (Nat.dvd_lcm_left _ _) h) i (by omega)
    · intro h
      exact Nat.lcm_dvd (ih.2 (fun i hi => h i (by omega))) (h k (by omega))
theorem ordTo_pos {l : List (List Int)} : ∀ k, k ≤ l.length → (∀ i, i < l.length → 1 ≤ (l.getD i []).length) → 1 ≤ ordTo l k
  | 0, _, _ => Nat.le_refl _
  | k + 1, hk, hne => by
    have ih := ordTo_pos (l := l) k (by omega) hne
    rw [ordTo, lcm_step _ _ (hne k (by omega))]
    exact Nat.lcm_pos (by omega) (hne k (by omega))
theorem order_dvd {p : List Int} (hp : IsPerm p) (m : Nat) : orderF p ∣ m ↔ ∀ y : Nat, y < p.length → it p m y = y := by
  rw [orderF, ordTo_dvd m _ (Nat.le_refl _) cycles_ne]
  constructor
  · intro h y hy
    have hin : In p (y : Int) := by unfold In; omega
    by_cases hap : ap p y = y
    · have h1 := (per_one hp hin).2 hap
      have h2 := (cyc_spec hp hin).1
      exact (it_eq_iff hp hin m).2 (by rw [show per p y = 1 by omega]; exact Nat.one_dvd m)
    · have hs : (y : Int) ∈ (cycGo p p.length).1 := (mem_seen hp _ (Nat.le_refl _) y).2 ⟨y, hy, hap, cyc_self hp hin⟩
      obtain ⟨_, hfl, hcy⟩ := cycGo_dist hp p.length (Nat.le_refl _)
      have e : cyclesF p = (cycGo p p.length).2 := by rw [cyclesF, if_pos hp]
      rw [hfl, List.mem_flatten] at hs
      obtain ⟨c, hc, hyc⟩ := hs
      obtain ⟨j, hj, _, rfl⟩ := hcy c hc
      have hj' : In p (j : Int) := by unfold In; omega
      obtain ⟨i, hi, hci⟩ := List.mem_iff_getElem.1 hc
      have hd := h i (by rw [e]; exact hi)
      rw [e, show (cycGo p p.length).2.getD i [] = cyc p j by rw [List.getD_eq_getElem?_getD, List.getElem?_eq_getElem hi, hci]; rfl] at hd
      have hjm := (it_eq_iff hp hj' m).2 hd
      obtain ⟨r, hr⟩ := (mem_cyc hp hj').1 hyc
      rw [← hr, ← it_add, Nat.add_comm, it_add, hjm]
  · intro h i hi
    obtain ⟨_, j, hj, _, hc⟩ := cycles_mem i hi
    rw [hc]
    have hj' : In p (j : Int) := by unfold In; omega
    exact (it_eq_iff hp hj' m).1 (h j hj)
theorem pow_id {p : List Int} (hp : IsPerm p) (k : Nat) : powL p k = idList p.length ↔ orderF p ∣ k := by
  rw [order_dvd hp]
  constructor
  · intro h y hy
    have := powL_getD (p := p) (k := k) hy
    rw [h, idList_getD hy] at this
    exact this.symm
  · intro h
    apply ext_getD (by rw [powL_len, idList_length])
    intro y hy
    rw [powL_len] at hy
    rw [powL_getD hy, idList_getD hy, h y hy]
theorem order_pos (p : List Int) : 1 ≤ orderF p := ordTo_pos _ (Nat.le_refl _) cycles_ne
end Go.PM

/- Orbits: what the breadth-first search finds. No program in sight. -/
namespace Go.PM
inductive Reach (gens : List (List Int)) (x : Int) : Int → Prop
  | refl : Reach gens x x
  | step {y : Int} (p : List Int) (hp : p ∈ gens) (h : Reach gens x y) : Reach gens x (ap p y)
theorem Gens.ap_in {n : Nat} {gens : List (List Int)} (hG : Gens n gens) {p : List Int} (hp : p ∈ gens) {x : Int} (hx : 0 ≤ x ∧ x < n) : 0 ≤ ap p x ∧ ap p x < n := by
  obtain ⟨h1, h2⟩ := hG p hp
  have := PM.ap_in h2 (x := x) (by unfold In; omega)
  unfold In at this; omega
theorem Reach.in {n : Nat} {gens : List (List Int)} (hG : Gens n gens) {x y : Int} (hx : 0 ≤ x ∧ x < n) (h : Reach gens x y) : 0 ≤ y ∧ y < n := by
  induction h with
  | refl => exact hx
  | step p hp _ ih => exact hG.ap_in hp ih
/-! soundness -/
theorem visit_sound {gens : List (List Int)} {x z : Int} {p : List Int} {j : Nat} {st : Fnd} (hp : p ∈ gens) (hz : Reach gens x z) (h : ∀ y ∈ st.1, Reach gens x y) : ∀ y ∈ (visit p j z st).1, Reach gens x y := by
  unfold visit
  split
  · exact h
  · intro y hy
    rcases List.mem_append.1 hy with h' | h'
    · exact h y h'
    · simp only [List.mem_singleton] at h'
      subst h'
      exact .step p hp hz
theorem scanL_sound {gens : List (List Int)} {x z : Int} : ∀ (l : List (List Int)) (j : Nat) (st : Fnd), (∀ p ∈ l, p ∈ gens) → Reach gens x z → (∀ y ∈ st.1, Reach gens x y) → ∀ y ∈ (scanL l j z st).1, Reach gens x y
  | [], _, _, _, _, h => h
  | p :: l, j, _, hl, hz, h => scanL_sound l (j + 1) _ (fun q hq => hl q (by simp [hq])) hz (visit_sound (hl p (by simp)) hz h)
theorem bfsGo_sound {gens : List (List Int)} {x : Int} : ∀ (f i : Nat) (st : Fnd), (∀ y ∈ st.1, Reach gens x y) → ∀ y ∈ (bfsGo gens f i st).1, Reach gens x y
  | 0, _, _, h => h
  | f + 1, i, st, h => by
    rw [bfsGo]
    split
    · rename_i hi
      exact bfsGo_sound f (i + 1) _ (scanL_sound gens 0 st (fun _ h => h) (h _ (getD_mem hi)) h)
    · exact h
/-! completeness -/
theorem visit_keeps {p : List Int} {j : Nat} {z y : Int} {st : Fnd} (h : y ∈ st.1) : y ∈ (visit p j z st).1 := by
  unfold visit; split
  · exact h
  · simp [h]
theorem visit_image (p : List Int) (j : Nat) (z : Int) (st : Fnd) : ap p z ∈ (visit p j z st).1 := by
  unfold visit; split
  · rename_i h; exact h
  · simp [ap]
theorem scanL_keeps {z y : Int} : ∀ (l : List (List Int)) (j : Nat) (st : Fnd), y ∈ st.1 → y ∈ (scanL l j z st).1
  | [], _, _, h => h
  | _p :: l, j, _, h => scanL_keeps l (j + 1) _ (visit_keeps h)
theorem scanL_image {z : Int} : ∀ (l : List (List Int)) (j : Nat) (st : Fnd) (p : List Int), p ∈ l → ap p z ∈ (scanL l j z st).1
  | [], _, _, _, h => by simp at h
  | q :: l, j, st, p, h => by
    rw [scanL]
    rcases List.mem_cons.1 h with rfl | h'
    · exact scanL_keeps l (j + 1) _ (visit_image _ _ _ _)
    · exact scanL_image l (j + 1) _ p h'
theorem scanL_len {z : Int} : ∀ (l : List (List Int)) (j : Nat) (st : Fnd), st.1.length ≤ (scanL l j z st).1.length ∧ ∀ k, k < st.1.length → (scanL l j z st).1.getD k 0 = st.1.getD k 0
  | [], _, _ => ⟨Nat.le_refl _, fun _ _ => rfl⟩
  | p :: l, j, st => by
    obtain ⟨h1, h2⟩ := visit_len p j z st
    obtain ⟨h3, h4⟩ := scanL_len (z := z) l (j + 1) (visit p j z st)
    exact ⟨by rw [scanL]; omega, fun k hk => by rw [scanL, h4 k (by omega), h2 k hk]⟩
theorem bfsGo_closed {n : Nat} {gens : List (List Int)} (hG : Gens n gens) : ∀ (f i : Nat) (st : Fnd), Dist n st.1 → i ≤ st.1.length → n ≤ i + f → (∀ k, k < i → ∀ p ∈ gens, ap p (st.1.getD k 0) ∈ st.1) →
    ∀ y ∈ (bfsGo gens f i st).1, ∀ p ∈ gens, ap p y ∈ (bfsGo gens f i st).1
  | 0, i, st, hd, hi, hn, h => by
    intro y hy p hp
    rw [bfsGo] at hy ⊢
    obtain ⟨k, hk, rfl⟩ := mem_iff_getD.1 hy
    have := hd.length_le
    exact h k (by omega) p hp
  | f + 1, i, st, hd, hi, hn, h => by
    rw [bfsGo]
    split
    · rename_i hlt
      have hz := dist_iff.1 hd |>.1 i hlt
      obtain ⟨h1, h2⟩ := scanL_len (z := st.1.getD i 0) gens 0 st
      refine bfsGo_closed hG f (i + 1) _ (scanL_dist gens 0 _ st hG hz hd) (by omega) (by omega) ?_
      intro k hk p hp
      by_cases hki : k = i
      · subst hki
        rw [h2 k hlt]
        exact scanL_image gens 0 st p hp
      · rw [h2 k (by omega)]
        exact scanL_keeps gens 0 st (h k (by omega) p hp)
    · intro y hy p hp
      obtain ⟨k, hk, rfl⟩ := mem_iff_getD.1 hy
      exact h k (by omega) p hp
theorem mem_bfs {n : Nat} {gens : List (List Int)} (hG : Gens n gens) {x : Int} (hx : 0 ≤ x ∧ x < n) (y : Int) : y ∈ (bfs gens n x).1 ↔ Reach gens x y := by
  have hd := dist_one (n := n) hx.1 hx.2
  constructor
  · exact bfsGo_sound n 0 ([x], []) (by intro z hz; simp only [List.mem_singleton] at hz; subst hz; exact .refl) y
  · intro h
    have hcl := bfsGo_closed hG n 0 ([x], []) hd (by simp) (by omega) (by intro k hk; omega)
    induction h with
    | refl => rw [bfs_points]; simp
    | step p hp _ ih => exact hcl _ ih p hp
/-! orbits as sets -/
theorem sortedL_mem {n : Nat} {l : List Int} (hl : ∀ y ∈ l, 0 ≤ y ∧ y < n) (y : Int) : y ∈ sortedL n l ↔ y ∈ l := by
  unfold sortedL
  rw [List.mem_filter]
  simp only [decide_eq_true_eq]
  constructor
  · exact fun h => h.2
  · intro h
    refine ⟨?_, h⟩
    obtain ⟨h0, h1⟩ := hl y h
    rw [mem_iff_getD]
    exact ⟨y.toNat, by rw [idList_length]; omega, by rw [idList_getD (by omega)]; omega⟩
def orbL (gens : List (List Int)) (n : Nat) (x : Int) : List Int := sortedL n (bfs gens n x).1
theorem mem_orbL {n : Nat} {gens : List (List Int)} (hG : Gens n gens) {x : Int} (hx : 0 ≤ x ∧ x < n) (y : Int) : y ∈ orbL gens n x ↔ Reach gens x y := by
  unfold orbL
  rw [sortedL_mem (fun z hz => ((mem_bfs hG hx z).1 hz).in hG hx), mem_bfs hG hx]
/-! errors and results -/
def grpF (n : Int) (gens : List (List Int)) : Int := if n < 1 ∨ 512 < n then 1 else if 64 < gens.length then 7 else if gensOK n gens then 0 else 3
theorem errF_grp (n : Int) (gens : List (List Int)) (x : Int) : errF n gens x = if n < 1 ∨ 512 < n ∨ x < 0 ∨ n ≤ x then 1 else grpF n gens := by
  unfold errF grpF
  split
  · rfl
  · rename_i h
    have h' : ¬ (n < 1 ∨ 512 < n) := by omega
    rw [if_neg h']
def orbitF (n : Int) (gens : List (List Int)) (x : Int) : List Int := if errF n gens x = 0 then orbL gens n.toNat x else []
theorem orbitF_len (n : Int) (gens : List (List Int)) (x : Int) : (orbitF n gens x).length ≤ 512 := by
  unfold orbitF
  split
  · rename_i h
    have := errF_zero h
    have h2 := sortedL_len n.toNat (bfs gens n.toNat x).1
    unfold orbL; omega
  · simp
/-! edges -/
end Go.PM

/- Groups of permutations in plain Lean: products, inverses, orbits, stabilizers, numbers of elements. No program in sight. -/
namespace Go.PM
/-- p is a permutation of n points -/
def PermN (n : Nat) (p : List Int) : Prop := IsPerm p ∧ p.length = n
theorem PermN.in {n : Nat} {p : List Int} (h : PermN n p) {x : Int} : In p x ↔ 0 ≤ x ∧ x < n := by unfold In; rw [h.2]
theorem PermN.ap {n : Nat} {p : List Int} (h : PermN n p) {x : Int} (hx : 0 ≤ x ∧ x < n) : 0 ≤ PM.ap p x ∧ PM.ap p x < n := h.in.1 (ap_in h.1 (h.in.2 hx))
theorem PermN.inj {n : Nat} {p : List Int} (h : PermN n p) {x y : Int} (hx : 0 ≤ x ∧ x < n) (hy : 0 ≤ y ∧ y < n) (he : PM.ap p x = PM.ap p y) : x = y := ap_inj h.1 (h.in.2 hx) (h.in.2 hy) he
theorem PermN.n1 {n : Nat} {p : List Int} (h : PermN n p) : 1 ≤ n ∧ n ≤ 512 := by have := h.1.1; have := h.1.2.1; rw [h.2] at *; omega
theorem PermN.mul {n : Nat} {p q : List Int} (hp : PermN n p) (hq : PermN n q) : PermN n (mulP p q) := ⟨mulP_perm hp.1 hq.1 (by rw [hp.2, hq.2]), by rw [mulP_length, hp.2]⟩
theorem permN_id {n : Nat} (h : 1 ≤ n ∧ n ≤ 512) : PermN n (idList n) := ⟨⟨by rw [idList_length]; omega, by rw [idList_length]; omega, by rw [idList_length]; exact idList_dist n⟩, idList_length n⟩
theorem ap_id {n : Nat} {x : Int} (hx : 0 ≤ x ∧ x < n) : ap (idList n) x = x := by
  unfold ap; rw [idList_getD (by omega)]; omega
theorem ap_mul {n : Nat} {p q : List Int} (hp : PermN n p) {x : Int} (hx : 0 ≤ x ∧ x < n) : ap (mulP p q) x = ap q (ap p x) := by
  unfold ap; rw [mulP_getD (by rw [hp.2]; omega)]
theorem perm_ext {n : Nat} {p q : List Int} (hp : p.length = n) (hq : q.length = n) (h : ∀ x : Int, 0 ≤ x → x < n → ap p x = ap q x) : p = q := by
  apply ext_getD (by rw [hp, hq])
  intro k hk
  have := h (k : Int) (by omega) (by omega)
  simpa only [ap, Int.toNat_natCast] using this
theorem mul_assoc {n : Nat} {p q r : List Int} (hp : PermN n p) (hq : PermN n q) : mulP (mulP p q) r = mulP p (mulP q r) := by
  apply perm_ext (n := n) (by rw [mulP_length, mulP_length, hp.2]) (by rw [mulP_length, hp.2])
  intro x h0 h1
  rw [ap_mul (hp.mul hq) ⟨h0, h1⟩, ap_mul hp ⟨h0, h1⟩, ap_mul hp ⟨h0, h1⟩, ap_mul hq (hp.ap ⟨h0, h1⟩)]
theorem one_mul {n : Nat} {p : List Int} (hp : PermN n p) : mulP (idList n) p = p := mulP_id hp.2
theorem mul_one {n : Nat} {p : List Int} (hp : PermN n p) : mulP p (idList n) = p := by
  apply perm_ext (n := n) (by rw [mulP_length, hp.2]) hp.2
  intro x h0 h1
  rw [ap_mul hp ⟨h0, h1⟩, ap_id (hp.ap ⟨h0, h1⟩)]
/-- the inverse -/
def inv (p : List Int) : List Int := powL p (orderF p - 1)
theorem PermN.inv {n : Nat} {p : List Int} (h : PermN n p) : PermN n (inv p) := ⟨powL_perm h.1 _, by unfold PM.inv; rw [powL_len, h.2]⟩
theorem inv_mul {n : Nat} {p : List Int} (h : PermN n p) : mulP (inv p) p = idList n := by
  unfold inv
  rw [powL_succ p h.1, Nat.sub_add_cancel (order_pos p), (pow_id h.1 _).2 (Nat.dvd_refl _), h.2]
theorem mul_inv {n : Nat} {p : List Int} (h : PermN n p) : mulP p (inv p) = idList n := by
  apply perm_ext (n := n) (by rw [mulP_length, h.2]) (idList_length n)
  intro x h0 h1
  rw [ap_mul h ⟨h0, h1⟩, ap_id ⟨h0, h1⟩]
  have hy := h.ap ⟨h0, h1⟩
  have := h.inv.ap hy
  apply h.inj this ⟨h0, h1⟩
  rw [← ap_mul h.inv hy, inv_mul h, ap_id hy]
theorem ap_inv {n : Nat} {p : List Int} (h : PermN n p) {x : Int} (hx : 0 ≤ x ∧ x < n) : ap (inv p) (ap p x) = x := by rw [← ap_mul h hx, mul_inv h, ap_id hx]
theorem ap_inv' {n : Nat} {p : List Int} (h : PermN n p) {x : Int} (hx : 0 ≤ x ∧ x < n) : ap p (ap (inv p) x) = x := by rw [← ap_mul h.inv hx, inv_mul h, ap_id hx]
theorem mul_cancel {n : Nat} {p q r : List Int} (hp : PermN n p) (hq : PermN n q) (hr : PermN n r) (h : mulP p r = mulP q r) : p = q := by
  have e : ∀ s, PermN n s → mulP (mulP s r) (inv r) = s := fun s hs => by rw [mul_assoc hs hr, mul_inv hr, mul_one hs]
  rw [← e p hp, h, e q hq]
theorem eq_inv {n : Nat} {p q : List Int} (hp : PermN n p) (hq : PermN n q) (h : mulP p q = idList n) : q = inv p := by
  rw [← one_mul hq, ← inv_mul hp, mul_assoc hp.inv hp, h, mul_one hp.inv]
theorem inv_of_ap {n : Nat} {p q : List Int} (hp : PermN n p) (hq : q.length = n) (h : ∀ x : Int, 0 ≤ x → x < n → ap q (ap p x) = x) : q = inv p := by
  apply perm_ext hq hp.inv.2
  intro x h0 h1
  have hy := hp.inv.ap ⟨h0, h1⟩
  rw [← h _ hy.1 hy.2, ap_inv' hp ⟨h0, h1⟩]
theorem inv_inv {n : Nat} {p : List Int} (h : PermN n p) : inv (inv p) = p := (eq_inv h.inv h (inv_mul h)).symm
theorem inv_one {n : Nat} (h : 1 ≤ n ∧ n ≤ 512) : inv (idList n) = idList n := (eq_inv (permN_id h) (permN_id h) (one_mul (permN_id h))).symm
/-- the point is moved: the first moved point, or -1 -/
theorem id_iff {n : Nat} {p : List Int} (h : PermN n p) : p = idList n ↔ ∀ x : Int, 0 ≤ x → x < n → ap p x = x := by
  constructor
  · rintro rfl x h0 h1; exact ap_id ⟨h0, h1⟩
  · intro h'; exact perm_ext h.2 (idList_length n) fun x h0 h1 => by rw [h' x h0 h1, ap_id ⟨h0, h1⟩]

/-- a group of permutations of n points, as the set of its elements -/
structure Grp (n : Nat) (H : List Int → Prop) : Prop where
  perm : ∀ p, H p → PermN n p
  one : H (idList n)
  mul : ∀ p q, H p → H q → H (mulP p q)
theorem Grp.n1 {n : Nat} {H : List Int → Prop} (h : Grp n H) : 1 ≤ n ∧ n ≤ 512 := (h.perm _ h.one).n1
theorem Grp.pow {n : Nat} {H : List Int → Prop} (h : Grp n H) {p : List Int} (hp : H p) : ∀ k, H (powL p k)
  | 0 => by rw [powL_zero, (h.perm p hp).2]; exact h.one
  | k + 1 => by rw [← powL_succ p (h.perm p hp).1]; exact h.mul _ _ (h.pow hp k) hp
theorem Grp.inv {n : Nat} {H : List Int → Prop} (h : Grp n H) {p : List Int} (hp : H p) : H (inv p) := h.pow hp _
theorem Grp.mul_right {n : Nat} {H : List Int → Prop} (h : Grp n H) {p q : List Int} (hp : PermN n p) (hq : H q) : H (mulP p q) ↔ H p := by
  constructor
  · intro hm
    have := h.mul _ _ hm (h.inv hq)
    rwa [mul_assoc hp (h.perm q hq), mul_inv (h.perm q hq), mul_one hp] at this
  · intro h'; exact h.mul _ _ h' hq
/-- the group that the list generates -/
inductive Gen (n : Nat) (gens : List (List Int)) : List Int → Prop
  | one : Gen n gens (idList n)
  | mul {p g : List Int} (h : Gen n gens p) (hg : g ∈ gens) : Gen n gens (mulP p g)
def GensN (n : Nat) (gens : List (List Int)) : Prop := ∀ g ∈ gens, PermN n g
theorem GensN.gens {n : Nat} {gens : List (List Int)} (h : GensN n gens) : Gens n gens := fun p hp => ⟨(h p hp).2, (h p hp).1⟩
theorem Gens.n {n : Nat} {gens : List (List Int)} (h : Gens n gens) : GensN n gens := fun p hp => ⟨(h p hp).2, (h p hp).1⟩
theorem Gen.perm {n : Nat} {gens : List (List Int)} (h1 : 1 ≤ n ∧ n ≤ 512) (hg : GensN n gens) {p : List Int} (h : Gen n gens p) : PermN n p := by
  induction h with
  | one => exact permN_id h1
  | mul _ hm ih => exact ih.mul (hg _ hm)
theorem gen_grp {n : Nat} {gens : List (List Int)} (h1 : 1 ≤ n ∧ n ≤ 512) (hg : GensN n gens) : Grp n (Gen n gens) where
  perm := fun _ h => h.perm h1 hg
  one := .one
  mul := fun p q hp hq => by
    induction hq with
    | one => rw [mul_one (hp.perm h1 hg)]; exact hp
    | mul hq' hm ih => rw [← mul_assoc (hp.perm h1 hg) (hq'.perm h1 hg)]; exact .mul ih hm
theorem gen_self {n : Nat} {gens : List (List Int)} (hg : GensN n gens) {g : List Int} (h : g ∈ gens) : Gen n gens g := by
  have := Gen.mul (Gen.one (n := n) (gens := gens)) h
  rwa [one_mul (hg g h)] at this
theorem gen_le {n : Nat} {gens : List (List Int)} {H : List Int → Prop} (hH : Grp n H) (h : ∀ g ∈ gens, H g) {p : List Int} (hp : Gen n gens p) : H p := by
  induction hp with
  | one => exact hH.one
  | mul _ hm ih => exact hH.mul _ _ ih (h _ hm)
theorem gen_mono {n : Nat} {gens gens' : List (List Int)} (h : ∀ g ∈ gens, g ∈ gens') {p : List Int} (hp : Gen n gens p) : Gen n gens' p := by
  induction hp with
  | one => exact .one
  | mul _ hm ih => exact .mul ih (h _ hm)
theorem gen_congr {n : Nat} {gens gens' : List (List Int)} (h1 : 1 ≤ n ∧ n ≤ 512) (hg : GensN n gens) (hg' : GensN n gens') (h : ∀ g ∈ gens, Gen n gens' g) (h' : ∀ g ∈ gens', Gen n gens g) (p : List Int) : Gen n gens p ↔ Gen n gens' p :=
  ⟨gen_le (gen_grp h1 hg') h, gen_le (gen_grp h1 hg) h'⟩
theorem gen_nil {n : Nat} {p : List Int} : Gen n [] p ↔ p = idList n := by
  constructor
  · intro h; cases h with
    | one => rfl
    | mul _ hm => simp at hm
  · rintro rfl; exact .one
/-- orbits -/
theorem gen_reach {n : Nat} {gens : List (List Int)} (h1 : 1 ≤ n ∧ n ≤ 512) (hg : GensN n gens) {x : Int} (hx : 0 ≤ x ∧ x < n) (y : Int) : Reach gens x y ↔ ∃ p, Gen n gens p ∧ ap p x = y := by
  constructor
  · intro h
    induction h with
    | refl => exact ⟨_, .one, ap_id hx⟩
    | step p hp _ ih =>
      obtain ⟨q, hq, rfl⟩ := ih
      exact ⟨_, .mul hq hp, ap_mul (hq.perm h1 hg) hx⟩
  · rintro ⟨p, hp, rfl⟩
    induction hp with
    | one => rw [ap_id hx]; exact .refl
    | mul hq hm ih => rw [ap_mul (hq.perm h1 hg) hx]; exact .step _ hm ih
def Stab (H : List Int → Prop) (x : Int) (p : List Int) : Prop := H p ∧ ap p x = x
theorem stab_grp {n : Nat} {H : List Int → Prop} (h : Grp n H) {x : Int} (hx : 0 ≤ x ∧ x < n) : Grp n (Stab H x) where
  perm := fun p hp => h.perm p hp.1
  one := ⟨h.one, ap_id hx⟩
  mul := fun p q hp hq => ⟨h.mul _ _ hp.1 hq.1, by rw [ap_mul (h.perm p hp.1) hx, hp.2, hq.2]⟩

/-- numbers of elements -/
theorem nodup_le {α : Type} : ∀ {l m : List α}, l.Nodup → (∀ x ∈ l, x ∈ m) → l.length ≤ m.length
  | [], m, _, _ => by simp
  | x :: l, m, hn, hs => by
    classical
    have hx : x ∈ m := hs x (by simp)
    have := nodup_le (l := l) (m := m.erase x) (List.nodup_cons.1 hn).2 (fun y hy => by
      have hne : y ≠ x := by rintro rfl; exact (List.nodup_cons.1 hn).1 hy
      exact (List.mem_erase_of_ne hne).2 (hs y (by simp [hy])))
    rw [List.length_erase_of_mem hx] at this
    have := List.length_pos_of_mem hx
    simp only [List.length_cons]; omega
theorem nodup_eq {α : Type} {l m : List α} (hl : l.Nodup) (hs : ∀ x ∈ l, x ∈ m) (he : m.length ≤ l.length) : ∀ x ∈ m, x ∈ l := by
  intro x hx
  refine Classical.byContradiction fun hc => ?_
  have := nodup_le (l := x :: l) (m := m) (List.nodup_cons.2 ⟨hc, hl⟩) (fun y hy => by
    rcases List.mem_cons.1 hy with rfl | h
    · exact hx
    · exact hs y h)
  simp only [List.length_cons] at this; omega
def Card (H : List Int → Prop) (k : Nat) : Prop := ∃ L : List (List Int), L.Nodup ∧ (∀ p, p ∈ L ↔ H p) ∧ L.length = k
theorem Card.le {H H' : List Int → Prop} {k k' : Nat} (h : Card H k) (h' : Card H' k') (hs : ∀ p, H p → H' p) : k ≤ k' := by
  obtain ⟨L, hn, hm, rfl⟩ := h; obtain ⟨L', hn', hm', rfl⟩ := h'
  exact nodup_le hn fun x hx => (hm' x).2 (hs x ((hm x).1 hx))
theorem Card.unique {H : List Int → Prop} {k k' : Nat} (h : Card H k) (h' : Card H k') : k = k' := Nat.le_antisymm (h.le h' fun _ h => h) (h'.le h fun _ h => h)
theorem Card.congr {H H' : List Int → Prop} {k : Nat} (h : Card H k) (he : ∀ p, H p ↔ H' p) : Card H' k := by
  obtain ⟨L, hn, hm, rfl⟩ := h
  exact ⟨L, hn, fun p => (hm p).trans (he p), rfl⟩
theorem Card.eq {H H' : List Int → Prop} {k k' : Nat} (h : Card H k) (h' : Card H' k') (hs : ∀ p, H p → H' p) (hk : k' ≤ k) : ∀ p, H' p → H p := by
  obtain ⟨L, hn, hm, rfl⟩ := h; obtain ⟨L', hn', hm', rfl⟩ := h'
  intro p hp
  exact (hm p).1 (nodup_eq hn (fun x hx => (hm' x).2 (hs x ((hm x).1 hx))) hk p ((hm' p).2 hp))
theorem Card.pos {n : Nat} {H : List Int → Prop} {k : Nat} (hH : Grp n H) (h : Card H k) : 1 ≤ k := by
  obtain ⟨L, hn, hm, rfl⟩ := h
  exact List.length_pos_of_mem ((hm _).2 hH.one)
theorem card_id (n : Nat) : Card (fun p => p = idList n) 1 := ⟨[idList n], by simp, by simp, rfl⟩
/-- all lists of length k with entries from 0 to n - 1 -/
def allL (n : Nat) : Nat → List (List Int)
  | 0 => [[]]
  | k + 1 => (allL n k).flatMap fun l => (idList n).map fun x => l ++ [x]
theorem mem_allL {n : Nat} : ∀ {k : Nat} {l : List Int}, l.length = k → (∀ y ∈ l, 0 ≤ y ∧ y < n) → l ∈ allL n k
  | 0, l, hl, _ => by simp [allL, List.length_eq_zero_iff.1 hl]
  | k + 1, l, hl, h => by
    obtain ⟨l', x, rfl⟩ : ∃ l' x, l = l' ++ [x] := ⟨l.dropLast, l.getLast (by intro hc; simp [hc] at hl), (List.dropLast_concat_getLast _).symm⟩
    simp only [List.length_append, List.length_cons, List.length_nil] at hl
    have := mem_allL (n := n) (k := k) (l := l') (by omega) (fun y hy => h y (by simp [hy]))
    simp only [allL, List.mem_flatMap, List.mem_map]
    have hx := h x (by simp)
    refine ⟨l', this, x, ?_, rfl⟩
    simp only [idList, List.mem_map, List.mem_range]
    exact ⟨x.toNat, by omega, by omega⟩
theorem nodup_of {α : Type} (L : List α) : ∃ M : List α, M.Nodup ∧ ∀ x, x ∈ M ↔ x ∈ L := by
  induction L with
  | nil => exact ⟨[], by simp, by simp⟩
  | cons a L ih =>
    obtain ⟨M, hn, hm⟩ := ih
    by_cases ha : a ∈ L
    · exact ⟨M, hn, fun x => by rw [hm]; constructor
                                · intro h; simp [h]
                                · intro h; rcases List.mem_cons.1 h with rfl | h
                                  · exact ha
                                  · exact h⟩
    · exact ⟨a :: M, List.nodup_cons.2 ⟨by rw [hm]; exact ha, hn⟩, fun x => by simp [hm]⟩
theorem card_of_list {H : List Int → Prop} (L : List (List Int)) (h : ∀ p, H p → p ∈ L) : ∃ k, Card H k := by
  classical
  obtain ⟨M, hn, hm⟩ := nodup_of (L.filter fun p => decide (H p))
  refine ⟨M.length, M, hn, fun p => ?_, rfl⟩
  rw [hm, List.mem_filter]
  constructor
  · rintro ⟨_, h'⟩; exact of_decide_eq_true h'
  · intro h'; exact ⟨h p h', decide_eq_true h'⟩
theorem Grp.card {n : Nat} {H : List Int → Prop} (h : Grp n H) : ∃ k, Card H k :=
  card_of_list (allL n n) fun p hp => mem_allL (h.perm p hp).2 fun y hy => by
    have := (h.perm p hp).1.2.2.1 y hy; rw [(h.perm p hp).2] at this; exact this
theorem nodup_flat {α β : Type} (f : α → List β) : ∀ {l : List α}, l.Nodup → (∀ x ∈ l, (f x).Nodup) → (∀ x ∈ l, ∀ y ∈ l, x ≠ y → ∀ z, z ∈ f x → z ∉ f y) → (l.flatMap f).Nodup
  | [], _, _, _ => by simp
  | a :: l, hn, h1, h2 => by
    rw [List.flatMap_cons, List.nodup_append]
    have hn' := List.nodup_cons.1 hn
    refine ⟨h1 a (by simp), nodup_flat f hn'.2 (fun x hx => h1 x (by simp [hx])) (fun x hx y hy => h2 x (by simp [hx]) y (by simp [hy])), ?_⟩
    intro z hz z' hz' he
    subst he
    obtain ⟨y, hy, hzy⟩ := List.mem_flatMap.1 hz'
    exact h2 a (by simp) y (by simp [hy]) (by rintro rfl; exact hn'.1 hy) z hz hzy
theorem length_flat {α β : Type} (f : α → List β) (k : Nat) : ∀ {l : List α}, (∀ x ∈ l, (f x).length = k) → (l.flatMap f).length = l.length * k
  | [], _ => by simp
  | a :: l, h => by
    rw [List.flatMap_cons, List.length_append, h a (by simp), length_flat f k (fun x hx => h x (by simp [hx])), List.length_cons, Nat.succ_mul, Nat.add_comm]
theorem nodup_map {α β : Type} (f : α → β) : ∀ {l : List α}, l.Nodup → (∀ x ∈ l, ∀ y ∈ l, f x = f y → x = y) → (l.map f).Nodup
  | [], _, _ => by simp
  | a :: l, hn, h => by
    have hn' := List.nodup_cons.1 hn
    rw [List.map_cons, List.nodup_cons]
    refine ⟨?_, nodup_map f hn'.2 fun x hx y hy => h x (by simp [hx]) y (by simp [hy])⟩
    intro hm
    obtain ⟨y, hy, he⟩ := List.mem_map.1 hm
    have := h y (by simp [hy]) a (by simp) he
    subst this; exact hn'.1 hy
/-- the number of elements is the length of an orbit times the number of elements that fix its point -/
theorem orbit_stab {n : Nat} {H : List Int → Prop} (hH : Grp n H) {x : Int} (hx : 0 ≤ x ∧ x < n) {orb : List Int} (hn : orb.Nodup) (ho : ∀ y, y ∈ orb ↔ ∃ p, H p ∧ ap p x = y) {k : Nat} (hk : Card (Stab H x) k) :
    Card H (orb.length * k) := by
  classical
  obtain ⟨S, hS, hm, rfl⟩ := hk
  have hu : ∀ y : Int, ∃ u : List Int, y ∈ orb → H u ∧ ap u x = y := fun y => by
    by_cases hy : y ∈ orb
    · obtain ⟨p, hp⟩ := (ho y).1 hy; exact ⟨p, fun _ => hp⟩
    · exact ⟨[], fun h => absurd h hy⟩
  let u : Int → List Int := fun y => Classical.choose (hu y)
  have hu : ∀ y ∈ orb, H (u y) ∧ ap (u y) x = y := fun y => Classical.choose_spec (hu y)
  refine ⟨orb.flatMap fun y => S.map fun s => mulP s (u y), ?_, ?_, ?_⟩
  · apply nodup_flat _ hn
    · intro y hy
      apply nodup_map _ hS
      intro s hs t ht he
      exact mul_cancel (hH.perm s ((hm s).1 hs).1) (hH.perm t ((hm t).1 ht).1) (hH.perm _ (hu y hy).1) he
    · intro y hy y' hy' hne z hz hz'
      obtain ⟨s, hs, rfl⟩ := List.mem_map.1 hz
      obtain ⟨t, ht, he⟩ := List.mem_map.1 hz'
      have hs := (hm s).1 hs; have ht := (hm t).1 ht
      have e1 := ap_mul (q := u y) (hH.perm s hs.1) hx
      have e2 := ap_mul (q := u y') (hH.perm t ht.1) hx
      rw [hs.2, (hu y hy).2] at e1
      rw [ht.2, (hu y' hy').2, he, e1] at e2
      exact hne e2
  · intro p
    rw [List.mem_flatMap]
    constructor
    · rintro ⟨y, hy, hp⟩
      obtain ⟨s, hs, rfl⟩ := List.mem_map.1 hp
      exact hH.mul _ _ ((hm s).1 hs).1 (hu y hy).1
    · intro hp
      have hy : ap p x ∈ orb := (ho _).2 ⟨p, hp, rfl⟩
      have hu' := hu _ hy
      have pu := hH.perm _ hu'.1
      have pp := hH.perm p hp
      refine ⟨ap p x, hy, List.mem_map.2 ⟨mulP p (inv (u (ap p x))), (hm _).2 ⟨hH.mul _ _ hp (hH.inv hu'.1), ?_⟩, ?_⟩⟩
      · rw [ap_mul pp hx]
        have := ap_inv pu hx
        rwa [hu'.2] at this
      · rw [mul_assoc pp pu.inv, inv_mul pu, mul_one pp]
  · exact length_flat _ _ fun y _ => by simp
end Go.PM

