import Derived.Test.YtmedmmginnfjgaaOrd
/- Even and odd permutations: inversions, swaps and cycles. No program in sight. -/
namespace Go.PM
/-- the parity of the inversions of place x with the first k places -/
def invRow (p : List Int) (x : Nat) : Nat → Bool
  | 0 => false
  | k + 1 => invRow p x k ^^ decide (p.getD x 0 < p.getD k 0)
def invT (p : List Int) : Nat → Bool
  | 0 => false
  | k + 1 => invT p k ^^ invRow p k k
def evTo (l : List (List Int)) : Nat → Bool
  | 0 => true
  | k + 1 => if (l.getD k []).length % 2 = 0 then !(evTo l k) else evTo l k
def evenF (p : List Int) : Bool := evTo (cyclesF p) (cyclesF p).length
def evenR (p : List Int) : Bool := !invT p p.length

theorem invRow_congr {p q : List Int} {x y : Nat} (hv : p.getD x 0 = q.getD y 0) : ∀ k, (∀ i, i < k → p.getD i 0 = q.getD i 0) → invRow p x k = invRow q y k
  | 0, _ => rfl
  | k + 1, h => by rw [invRow, invRow, invRow_congr hv k (fun i hi => h i (by omega)), hv, h k (by omega)]
theorem invT_congr {p q : List Int} : ∀ k, (∀ i, i < k → p.getD i 0 = q.getD i 0) → invT p k = invT q k
  | 0, _ => rfl
  | k + 1, h => by rw [invT, invT, invT_congr k (fun i hi => h i (by omega)), invRow_congr (h k (by omega)) k (fun i hi => h i (by omega))]
/-- two places next to each other are exchanged -/
theorem invT_adj {l : List Int} {i : Nat} (hi : i + 1 < l.length) (hne : l.getD i 0 ≠ l.getD (i + 1) 0) : ∀ n, i + 1 < n → n ≤ l.length → invT (swapL l i (i + 1)) n = !(invT l n) := by
  have hg := fun k => swapL_getD (l := l) (i := i) (j := i + 1) (by omega) hi k
  have hlow : ∀ k, k < i → (swapL l i (i + 1)).getD k 0 = l.getD k 0 := fun k hk => by rw [hg, if_neg (by omega), if_neg (by omega)]
  have h1 : (swapL l i (i + 1)).getD i 0 = l.getD (i + 1) 0 := by rw [hg, if_neg (by omega), if_pos rfl]
  have h2 : (swapL l i (i + 1)).getD (i + 1) 0 = l.getD i 0 := by rw [hg, if_pos rfl]
  intro n
  induction n with
  | zero => intro h; omega
  | succ n ih =>
    intro hn hl
    by_cases hni : n = i + 1
    · subst hni
      simp only [invT, invRow]
      rw [invT_congr i hlow, invRow_congr (y := i + 1) h1 i hlow, invRow_congr (y := i) h2 i hlow, h1, h2]
      have hx : (decide (l.getD i 0 < l.getD (i + 1) 0)) = !(decide (l.getD (i + 1) 0 < l.getD i 0)) := by
        by_cases h : l.getD i 0 < l.getD (i + 1) 0
        · rw [decide_eq_true h, decide_eq_false (by omega)]; rfl
        · rw [decide_eq_false h, decide_eq_true (by omega)]; rfl
      rw [hx]
      generalize invT l i = a
      generalize invRow l i i = b
      generalize invRow l (i + 1) i = c
      generalize decide (l.getD (i + 1) 0 < l.getD i 0) = d
      revert a b c d; decide
    · rw [invT, invT, ih (by omega) (by omega)]
      have hn' : (swapL l i (i + 1)).getD n 0 = l.getD n 0 := by rw [hg, if_neg (by omega), if_neg (by omega)]
      have hrow : ∀ k, i + 1 < k → k ≤ n → invRow (swapL l i (i + 1)) n k = invRow l n k := by
        intro k
        induction k with
        | zero => intro h; omega
        | succ k ihk =>
          intro hk hkn
          by_cases hki : k = i + 1
          · subst hki
            simp only [invRow]
            rw [invRow_congr (y := n) hn' i hlow, hn', h1, h2]
            generalize invRow l n i = a
            generalize decide (l.getD n 0 < l.getD (i + 1) 0) = b
            generalize decide (l.getD n 0 < l.getD i 0) = c
            revert a b c; decide
          · rw [invRow, invRow, ihk (by omega) (by omega), hn', hg k, if_neg (by omega), if_neg (by omega)]
      rw [hrow n (by omega) (Nat.le_refl _)]
      simp
theorem swapL_comm {l : List Int} {i j : Nat} (hij : i ≠ j) : swapL l i j = swapL l j i := by
  unfold swapL
  rw [List.set_comm _ _ hij]
theorem swapL_three {l : List Int} {i j : Nat} (hij : i < j) (hj : j + 1 < l.length) : swapL l i (j + 1) = swapL (swapL (swapL l j (j + 1)) i j) j (j + 1) := by
  apply ext_getD (by simp [swapL_length])
  intro k hk
  rw [swapL_getD (by omega) hj, swapL_getD (by simp [swapL_length]; omega) (by simp [swapL_length]; omega)]
  simp only [swapL_getD (l := swapL l j (j + 1)) (i := i) (j := j) (by rw [swapL_length]; omega) (by rw [swapL_length]; omega), swapL_getD (l := l) (i := j) (j := j + 1) (by omega) hj]
  have n1 : ¬ i = j + 1 := by omega
  have n2 : ¬ i = j := by omega
  have n3 : ¬ j = i := by omega
  have n4 : ¬ j + 1 = i := by omega
  by_cases h1 : k = j + 1
  · subst h1; simp [n1, n2]
  · by_cases h2 : k = j
    · subst h2; simp [n1, n2, n3, n4]
    · by_cases h3 : k = i
      · subst h3; simp [n1, n2]
      · simp [h1, h2, h3]
theorem invT_swap_lt {n : Nat} : ∀ (m : Nat) {l : List Int} {i j : Nat}, j - i = m + 1 → j < l.length → Dist n l → invT (swapL l i j) l.length = !(invT l l.length)
  | 0, l, i, j, hm, hj, hd => by
    obtain rfl : j = i + 1 := by omega
    exact invT_adj hj (nodup_iff.1 hd.2 i (i + 1) (by omega) hj) l.length hj (Nat.le_refl _)
  | m + 1, l, i, j, hm, hj, hd => by
    obtain ⟨j, rfl⟩ : ∃ j', j = j' + 1 := ⟨j - 1, by omega⟩
    rw [swapL_three (by omega) hj]
    have d1 := swapL_dist (i := j) (j := j + 1) (by omega) hj hd
    have d2 := swapL_dist (i := i) (j := j) (by rw [swapL_length]; omega) (by rw [swapL_length]; omega) d1
    have a1 := invT_adj hj (nodup_iff.1 hd.2 j (j + 1) (by omega) hj) l.length hj (Nat.le_refl _)
    have a2 := invT_swap_lt m (l := swapL l j (j + 1)) (i := i) (j := j) (by omega) (by rw [swapL_length]; omega) d1
    have a3 := invT_adj (l := swapL (swapL l j (j + 1)) i j) (i := j) (by simp only [swapL_length]; exact hj) (nodup_iff.1 d2.2 j (j + 1) (by omega) (by simp only [swapL_length]; exact hj)) l.length hj (by simp only [swapL_length]; exact Nat.le_refl _)
    rw [swapL_length] at a2
    rw [a3, a2, a1]
    simp
theorem invT_swap {n : Nat} {l : List Int} {i j : Nat} (hij : i ≠ j) (hi : i < l.length) (hj : j < l.length) (hd : Dist n l) : invT (swapL l i j) l.length = !(invT l l.length) := by
  rcases Nat.lt_or_gt_of_ne hij with h | h
  · exact invT_swap_lt (j - i - 1) (by omega) hj hd
  · rw [swapL_comm hij]; exact invT_swap_lt (i - j - 1) (by omega) hi hd
/-- k exchanges of two places each -/
inductive Sw (l : List Int) : Nat → List Int → Prop
  | nil : Sw l 0 l
  | cons {k : Nat} {q : List Int} (i j : Nat) (h : Sw l k q) (hij : i ≠ j) (hi : i < q.length) (hj : j < q.length) : Sw l (k + 1) (swapL q i j)
theorem Sw.len {l q : List Int} {k : Nat} (h : Sw l k q) : q.length = l.length := by
  induction h with
  | nil => rfl
  | cons i j h _ _ _ ih => rw [swapL_length, ih]
theorem Sw.dist {n : Nat} {l q : List Int} {k : Nat} (h : Sw l k q) (hd : Dist n l) : Dist n q := by
  induction h with
  | nil => exact hd
  | cons i j h _ hi hj ih => exact swapL_dist hi hj ih
theorem Sw.inv {n : Nat} {l q : List Int} {k : Nat} (h : Sw l k q) (hd : Dist n l) : invT q l.length = (invT l l.length ^^ decide (k % 2 = 1)) := by
  induction h with
  | nil => simp
  | @cons k q i j h hij hi hj ih =>
    have := invT_swap hij hi hj (h.dist hd)
    rw [h.len] at this
    rw [this, ih]
    have e : decide ((k + 1) % 2 = 1) = !(decide (k % 2 = 1)) := by
      by_cases hk : k % 2 = 1
      · simp [hk]; omega
      · simp [hk]; omega
    rw [e]
    simp
theorem mulP_getD {p q : List Int} {k : Nat} (h : k < p.length) : (mulP p q).getD k 0 = q.getD (p.getD k 0).toNat 0 := by simp [mulP, List.getD_eq_getElem?_getD, h]
theorem mulP_swap {p q : List Int} {i j : Nat} (hi : i < p.length) (hj : j < p.length) : mulP (swapL p i j) q = swapL (mulP p q) i j := by
  apply ext_getD (by simp [mulP_length, swapL_length])
  intro k hk
  rw [mulP_length, swapL_length] at hk
  rw [mulP_getD (by rw [swapL_length]; exact hk), swapL_getD hi hj, swapL_getD (by rw [mulP_length]; exact hi) (by rw [mulP_length]; exact hj), mulP_getD hi, mulP_getD hj, mulP_getD hk]
  split
  · rfl
  · split <;> rfl
theorem Sw.mul {l p q : List Int} {k : Nat} (h : Sw l k p) : Sw (mulP l q) k (mulP p q) := by
  induction h with
  | nil => exact .nil
  | cons i j h hij hi hj ih => rw [mulP_swap hi hj]; exact .cons i j ih hij (by rw [mulP_length]; exact hi) (by rw [mulP_length]; exact hj)
theorem Sw.trans {a b c : List Int} {k m : Nat} (h1 : Sw a k b) (h2 : Sw b m c) : Sw a (k + m) c := by
  induction h2 with
  | nil => exact h1
  | cons i j h hij hi hj ih => exact .cons i j ih hij hi hj
theorem mulP_id {n : Nat} {q : List Int} (h : q.length = n) : mulP (idList n) q = q := by
  apply ext_getD (by simp [mulP_length, idList_length, h])
  intro k hk
  rw [mulP_length, idList_length] at hk
  rw [mulP_getD (by rw [idList_length]; exact hk), idList_getD hk]; simp
theorem inv_id (n : Nat) : ∀ k, k ≤ n → invT (idList n) k = false
  | 0, _ => rfl
  | k + 1, hk => by
    rw [invT, inv_id n k (by omega)]
    have : ∀ m, m ≤ k → invRow (idList n) k m = false := by
      intro m
      induction m with
      | zero => intro _; rfl
      | succ m ih =>
        intro hm
        rw [invRow, ih (by omega), idList_getD (by omega), idList_getD (by omega)]
        simp; omega
    rw [this k (Nat.le_refl _)]; rfl
/-! a cycle as a product of exchanges -/
def cycSw (p : List Int) (x : Int) : Nat → List Int → List Int
  | 0, q => q
  | t + 1, q => swapL (cycSw p x t q) (it p t x).toNat (it p (t + 1) x).toNat
theorem cycSw_len (p : List Int) (x : Int) (q : List Int) : ∀ t, (cycSw p x t q).length = q.length
  | 0 => rfl
  | t + 1 => by rw [cycSw, swapL_length, cycSw_len p x q t]
theorem cycSw_spec {p : List Int} (hp : IsPerm p) {x : Int} (hx : In p x) {q : List Int} (hq : q.length = p.length) (hfix : ∀ k, k < per p x → q.getD (it p k x).toNat 0 = it p k x) :
    ∀ t, t < per p x → Sw q t (cycSw p x t q) ∧ (∀ k, k < t → (cycSw p x t q).getD (it p k x).toNat 0 = it p (k + 1) x) ∧ (cycSw p x t q).getD (it p t x).toNat 0 = x ∧
      (∀ k, t < k → k < per p x → (cycSw p x t q).getD (it p k x).toNat 0 = it p k x) ∧ ∀ y : Nat, (∀ k, k < per p x → it p k x ≠ y) → (cycSw p x t q).getD y 0 = q.getD y 0 := by
  obtain ⟨c1, c2, c3, c4, c5⟩ := cyc_spec hp hx
  have hin := fun k => it_in hp hx k
  unfold In at hin
  have hne : ∀ i j, i < per p x → j < per p x → i ≠ j → (it p i x).toNat ≠ (it p j x).toNat := fun i j hi hj hij e => by
    have h1 := hin i
    have h2 := hin j
    have e2 : it p i x = it p j x := by omega
    rcases Nat.lt_or_gt_of_ne hij with h | h
    · have := nodup_iff.1 c5 i j h (by rw [itL_length]; exact hj)
      rw [itL_getD hi, itL_getD hj] at this
      exact this e2
    · have := nodup_iff.1 c5 j i h (by rw [itL_length]; exact hi)
      rw [itL_getD hi, itL_getD hj] at this
      exact this e2.symm
  intro t
  induction t with
  | zero =>
    intro h
    exact ⟨.nil, fun k hk => by omega, by have := hfix 0 h; simpa [cycSw, it] using this, fun k _ hk => hfix k hk, fun y _ => rfl⟩
  | succ t ih =>
    intro h
    obtain ⟨i1, i2, i3, i4, i5⟩ := ih (by omega)
    have hl := cycSw_len p x q t
    have a1 : (it p t x).toNat < (cycSw p x t q).length := by have := hin t; omega
    have a2 : (it p (t + 1) x).toNat < (cycSw p x t q).length := by have := hin (t + 1); omega
    have hg := fun k => swapL_getD a1 a2 k
    refine ⟨.cons _ _ i1 (hne t (t + 1) (by omega) h (by omega)) a1 a2, fun k hk => ?_, ?_, fun k hk hk2 => ?_, fun y hy => ?_⟩
    · rw [cycSw, hg]
      by_cases hkt : k = t
      · subst hkt
        rw [if_neg (hne k (k + 1) (by omega) h (by omega)), if_pos rfl, i4 (k + 1) (by omega) h]
      · rw [if_neg (hne k (t + 1) (by omega) h (by omega)), if_neg (hne k t (by omega) (by omega) hkt), i2 k (by omega)]
    · rw [cycSw, hg, if_pos rfl, i3]
    · rw [cycSw, hg, if_neg (hne k (t + 1) hk2 h (by omega)), if_neg (hne k t hk2 (by omega) (by omega)), i4 k (by omega) hk2]
    · rw [cycSw, hg]
      have b1 := hy t (by omega)
      have b2 := hy (t + 1) h
      have h1 := hin t
      have h2 := hin (t + 1)
      rw [if_neg (by omega), if_neg (by omega), i5 y hy]
/-- the permutation is made of its cycles -/
theorem perm_sw {p : List Int} (hp : IsPerm p) : ∀ k, k ≤ p.length → ∃ q s, Sw (idList p.length) s q ∧ (decide (s % 2 = 0) = evTo (cycGo p k).2 (cycGo p k).2.length) ∧
    (∀ y : Nat, (y : Int) ∈ (cycGo p k).1 → q.getD y 0 = p.getD y 0) ∧ ∀ y : Nat, y < p.length → ¬ (y : Int) ∈ (cycGo p k).1 → q.getD y 0 = y
  | 0, _ => ⟨idList p.length, 0, .nil, rfl, by simp [cycGo], fun y hy _ => idList_getD hy⟩
  | k + 1, hk => by
    obtain ⟨q, s, h1, h2, h3, h4⟩ := perm_sw hp k (by omega)
    have hin : In p (k : Int) := by unfold In; omega
    rw [cycGo]
    split
    · exact ⟨q, s, h1, h2, h3, h4⟩
    · rename_i hnot
      rw [not_or] at hnot
      obtain ⟨c1, c2, c3, c4, c5⟩ := cyc_spec hp hin
      have hql : q.length = p.length := by rw [h1.len, idList_length]
      have hseen := mem_seen hp k (by omega)
      have hns : ∀ j, ¬ it p j k ∈ (cycGo p k).1 := fun j hj => by
        apply hnot.1
        rw [hseen] at hj ⊢
        obtain ⟨i, hi, e1, e2⟩ := hj
        have hi' : In p (i : Int) := by unfold In; omega
        exact ⟨i, hi, e1, cyc_trans hp hi' e2 (cyc_symm hp hin ((mem_cyc hp hin).2 ⟨j, rfl⟩))⟩
      have hfix : ∀ j, j < per p k → q.getD (it p j k).toNat 0 = it p j k := fun j _ => by
        have hj := it_in hp hin j
        unfold In at hj
        have := h4 (it p j k).toNat (by omega) (by rw [Int.toNat_of_nonneg hj.1]; exact hns j)
        rw [this, Int.toNat_of_nonneg hj.1]
      obtain ⟨s1, s2, s3, s4, s5⟩ := cycSw_spec hp hin hql hfix (per p k - 1) (by omega)
      refine ⟨cycSw p k (per p k - 1) q, s + (per p k - 1), h1.trans s1, ?_, fun y hy => ?_, fun y hy hny => ?_⟩
      · rw [List.length_append, List.length_singleton, evTo]
        have e1 : ((cycGo p k).2 ++ [cyc p k]).getD (cycGo p k).2.length [] = cyc p k := by simp [List.getD_eq_getElem?_getD]
        have e2 : ∀ m, m ≤ (cycGo p k).2.length → evTo ((cycGo p k).2 ++ [cyc p k]) m = evTo (cycGo p k).2 m := by
          intro m
          induction m with
          | zero => intro _; rfl
          | succ m ih =>
            intro hm
            rw [evTo, evTo, ih (by omega)]
            have : ((cycGo p k).2 ++ [cyc p k]).getD m [] = (cycGo p k).2.getD m [] := by simp [List.getD_eq_getElem?_getD, List.getElem?_append_left (show m < (cycGo p k).2.length by omega)]
            rw [this]
        rw [e1, e2 _ (Nat.le_refl _), ← h2]
        change _ = if per p k % 2 = 0 then _ else _
        by_cases hpar : per p k % 2 = 0
        · rw [if_pos hpar]
          by_cases hs2 : s % 2 = 0
          · simp [hs2]; omega
          · simp [hs2]; omega
        · rw [if_neg hpar]
          by_cases hs2 : s % 2 = 0
          · simp [hs2]; omega
          · simp [hs2]; omega
      · rcases List.mem_append.1 hy with h | h
        · rw [s5 y (fun j _ e => hns j (by rw [e]; exact h))]
          exact h3 y h
        · rw [c3] at h
          obtain ⟨j, hj, e⟩ := mem_itL.1 h
          have e' : (it p j k).toNat = y := by omega
          by_cases hjl : j = per p k - 1
          · have hs3 := s3
            rw [← hjl] at hs3
            rw [e', ] at hs3
            rw [hjl] at hs3
            have hs3' := s3
            rw [← hjl, e'] at hs3'
            rw [hjl] at hs3'
            rw [hs3']
            have : it p (per p k) k = ap p (it p j k) := by rw [show per p k = j + 1 by omega]; rfl
            rw [c4, e] at this
            rw [this]; unfold ap; simp
          · have := s2 j (by omega)
            rw [e'] at this
            rw [this]
            show ap p (it p j k) = _
            rw [e]; unfold ap; simp
      · rw [List.mem_append, not_or] at hny
        rw [s5 y (fun j hj e => hny.2 (by rw [c3]; exact mem_itL.2 ⟨j, hj, e⟩))]
        exact h4 y hy hny.1
theorem even_sw {p : List Int} (hp : IsPerm p) : ∃ s, Sw (idList p.length) s p ∧ decide (s % 2 = 0) = evenF p := by
  obtain ⟨q, s, h1, h2, h3, h4⟩ := perm_sw hp p.length (Nat.le_refl _)
  have hq : q = p := by
    apply ext_getD (by rw [h1.len, idList_length])
    intro y hy
    rw [h1.len, idList_length] at hy
    by_cases hs : (y : Int) ∈ (cycGo p p.length).1
    · exact h3 y hs
    · rw [h4 y hy hs]
      have hin : In p (y : Int) := by unfold In; omega
      rw [mem_seen hp _ (Nat.le_refl _)] at hs
      by_cases hap : ap p y = y
      · unfold ap at hap; simpa using hap.symm
      · exact absurd ⟨y, hy, hap, cyc_self hp hin⟩ hs
  subst hq
  exact ⟨s, h1, by rw [h2, evenF, cyclesF, if_pos hp]⟩
theorem even_eq {p : List Int} (hp : IsPerm p) : evenF p = evenR p := by
  obtain ⟨s, h1, h2⟩ := even_sw hp
  have := h1.inv (idList_dist p.length)
  rw [idList_length, inv_id _ _ (Nat.le_refl _)] at this
  rw [← h2, evenR, this]
  by_cases hs : s % 2 = 0
  · simp [hs]
  · simp [hs]; omega
theorem even_mul {p q : List Int} (hp : IsPerm p) (hq : IsPerm q) (hl : p.length = q.length) (hpq : IsPerm (mulP p q)) : evenF (mulP p q) = (evenF p == evenF q) := by
  obtain ⟨s, h1, h2⟩ := even_sw hp
  have h3 := (h1.mul (q := q)).inv (n := q.length) (by rw [mulP_id hl.symm]; exact hq.2.2)
  rw [mulP_id hl.symm] at h3
  rw [even_eq hpq, even_eq hq, ← h2, evenR, evenR, mulP_length, hl, h3]
  by_cases hs : s % 2 = 0
  · simp [hs]
  · have : s % 2 = 1 := by omega
    simp [this]
end Go.PM
