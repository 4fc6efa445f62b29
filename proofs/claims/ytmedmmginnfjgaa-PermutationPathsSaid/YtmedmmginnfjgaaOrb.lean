import Derived.Test.YtmedmmginnfjgaaOrd
/- Orbits: what the breadth-first search finds. No program in sight. -/
namespace Go.PM
inductive Reach (gens : List (List Int)) (x : Int) : Int → Prop
  | refl : Reach gens x x
  | step {y : Int} (p : List Int) (hp : p ∈ gens) (h : Reach gens x y) : Reach gens x (ap p y)
theorem Reach.trans {gens : List (List Int)} {x y z : Int} (h1 : Reach gens x y) (h2 : Reach gens y z) : Reach gens x z := by
  induction h2 with
  | refl => exact h1
  | step p hp _ ih => exact .step p hp ih
theorem Gens.ap_in {n : Nat} {gens : List (List Int)} (hG : Gens n gens) {p : List Int} (hp : p ∈ gens) {x : Int} (hx : 0 ≤ x ∧ x < n) : 0 ≤ ap p x ∧ ap p x < n := by
  obtain ⟨h1, h2⟩ := hG p hp
  have := PM.ap_in h2 (x := x) (by unfold In; omega)
  unfold In at this; omega
theorem Reach.in {n : Nat} {gens : List (List Int)} (hG : Gens n gens) {x y : Int} (hx : 0 ≤ x ∧ x < n) (h : Reach gens x y) : 0 ≤ y ∧ y < n := by
  induction h with
  | refl => exact hx
  | step p hp _ ih => exact hG.ap_in hp ih
theorem reach_it {gens : List (List Int)} {p : List Int} (hp : p ∈ gens) (x : Int) : ∀ k, Reach gens x (it p k x)
  | 0 => .refl
  | k + 1 => .step p hp (reach_it hp x k)
theorem Reach.symm {n : Nat} {gens : List (List Int)} (hG : Gens n gens) {x y : Int} (hx : 0 ≤ x ∧ x < n) (h : Reach gens x y) : Reach gens y x := by
  induction h with
  | refl => exact .refl
  | @step y p hp h ih =>
    refine Reach.trans ?_ ih
    obtain ⟨h1, h2⟩ := hG p hp
    have hy := h.in hG hx
    have hin : In p y := by unfold In; omega
    obtain ⟨c1, _, _, c4, _⟩ := cyc_spec h2 hin
    have := reach_it (gens := gens) hp (ap p y) (per p y - 1)
    rw [← it_succ, show per p y - 1 + 1 = per p y by omega, c4] at this
    exact this
/-! soundness -/
theorem visit_sound {gens : List (List Int)} {x z : Int} {p : List Int} {j : Nat} {st : Fnd} (hp : p ∈ gens) (hz : Reach gens x z) (h : ∀ y ∈ st.1, Reach gens x y) : ∀ y ∈ (visit p j z st).1, Reach gens x y := by
  unfold visit
  split
  · exact h
  · intro y hy
    rcases List.mem_append.1 hy with h' | h'
    · exact h y h'
    · simp only [List.mem_singleton] at h'
      subst h'
      exact .step p hp hz
theorem scanL_sound {gens : List (List Int)} {x z : Int} : ∀ (l : List (List Int)) (j : Nat) (st : Fnd), (∀ p ∈ l, p ∈ gens) → Reach gens x z → (∀ y ∈ st.1, Reach gens x y) → ∀ y ∈ (scanL l j z st).1, Reach gens x y
  | [], _, _, _, _, h => h
  | p :: l, j, _, hl, hz, h => scanL_sound l (j + 1) _ (fun q hq => hl q (by simp [hq])) hz (visit_sound (hl p (by simp)) hz h)
theorem bfsGo_sound {gens : List (List Int)} {x : Int} : ∀ (f i : Nat) (st : Fnd), (∀ y ∈ st.1, Reach gens x y) → ∀ y ∈ (bfsGo gens f i st).1, Reach gens x y
  | 0, _, _, h => h
  | f + 1, i, st, h => by
    rw [bfsGo]
    split
    · rename_i hi
      exact bfsGo_sound f (i + 1) _ (scanL_sound gens 0 st (fun _ h => h) (h _ (getD_mem hi)) h)
    · exact h
/-! completeness -/
theorem visit_keeps {p : List Int} {j : Nat} {z y : Int} {st : Fnd} (h : y ∈ st.1) : y ∈ (visit p j z st).1 := by
  unfold visit; split
  · exact h
  · simp [h]
theorem visit_image (p : List Int) (j : Nat) (z : Int) (st : Fnd) : ap p z ∈ (visit p j z st).1 := by
  unfold visit; split
  · rename_i h; exact h
  · simp [ap]
theorem scanL_keeps {z y : Int} : ∀ (l : List (List Int)) (j : Nat) (st : Fnd), y ∈ st.1 → y ∈ (scanL l j z st).1
  | [], _, _, h => h
  | p :: l, j, _, h => scanL_keeps l (j + 1) _ (visit_keeps h)
theorem scanL_image {z : Int} : ∀ (l : List (List Int)) (j : Nat) (st : Fnd) (p : List Int), p ∈ l → ap p z ∈ (scanL l j z st).1
  | [], _, _, _, h => by simp at h
  | q :: l, j, st, p, h => by
    rw [scanL]
    rcases List.mem_cons.1 h with rfl | h'
    · exact scanL_keeps l (j + 1) _ (visit_image _ _ _ _)
    · exact scanL_image l (j + 1) _ p h'
theorem scanL_len {z : Int} : ∀ (l : List (List Int)) (j : Nat) (st : Fnd), st.1.length ≤ (scanL l j z st).1.length ∧ ∀ k, k < st.1.length → (scanL l j z st).1.getD k 0 = st.1.getD k 0
  | [], _, _ => ⟨Nat.le_refl _, fun _ _ => rfl⟩
  | p :: l, j, st => by
    obtain ⟨h1, h2⟩ := visit_len p j z st
    obtain ⟨h3, h4⟩ := scanL_len (z := z) l (j + 1) (visit p j z st)
    exact ⟨by rw [scanL]; omega, fun k hk => by rw [scanL, h4 k (by omega), h2 k hk]⟩
theorem bfsGo_closed {n : Nat} {gens : List (List Int)} (hG : Gens n gens) : ∀ (f i : Nat) (st : Fnd), Dist n st.1 → i ≤ st.1.length → n ≤ i + f → (∀ k, k < i → ∀ p ∈ gens, ap p (st.1.getD k 0) ∈ st.1) →
    ∀ y ∈ (bfsGo gens f i st).1, ∀ p ∈ gens, ap p y ∈ (bfsGo gens f i st).1
  | 0, i, st, hd, hi, hn, h => by
    intro y hy p hp
    rw [bfsGo] at hy ⊢
    obtain ⟨k, hk, rfl⟩ := mem_iff_getD.1 hy
    have := hd.length_le
    exact h k (by omega) p hp
  | f + 1, i, st, hd, hi, hn, h => by
    rw [bfsGo]
    split
    · rename_i hlt
      have hz := dist_iff.1 hd |>.1 i hlt
      obtain ⟨h1, h2⟩ := scanL_len (z := st.1.getD i 0) gens 0 st
      refine bfsGo_closed hG f (i + 1) _ (scanL_dist gens 0 _ st hG hz hd) (by omega) (by omega) ?_
      intro k hk p hp
      by_cases hki : k = i
      · subst hki
        rw [h2 k hlt]
        exact scanL_image gens 0 st p hp
      · rw [h2 k (by omega)]
        exact scanL_keeps gens 0 st (h k (by omega) p hp)
    · intro y hy p hp
      obtain ⟨k, hk, rfl⟩ := mem_iff_getD.1 hy
      exact h k (by omega) p hp
theorem mem_bfs {n : Nat} {gens : List (List Int)} (hG : Gens n gens) {x : Int} (hx : 0 ≤ x ∧ x < n) (y : Int) : y ∈ (bfs gens n x).1 ↔ Reach gens x y := by
  have hd := dist_one (n := n) hx.1 hx.2
  constructor
  · exact bfsGo_sound n 0 ([x], []) (by intro z hz; simp only [List.mem_singleton] at hz; subst hz; exact .refl) y
  · intro h
    have hcl := bfsGo_closed hG n 0 ([x], []) hd (by simp) (by omega) (by intro k hk; omega)
    induction h with
    | refl => rw [bfs_points]; simp
    | step p hp _ ih => exact hcl _ ih p hp
/-! orbits as sets -/
theorem sortedL_mem {n : Nat} {l : List Int} (hl : ∀ y ∈ l, 0 ≤ y ∧ y < n) (y : Int) : y ∈ sortedL n l ↔ y ∈ l := by
  unfold sortedL
  rw [List.mem_filter]
  simp only [decide_eq_true_eq]
  constructor
  · exact fun h => h.2
  · intro h
    refine ⟨?_, h⟩
    obtain ⟨h0, h1⟩ := hl y h
    rw [mem_iff_getD]
    exact ⟨y.toNat, by rw [idList_length]; omega, by rw [idList_getD (by omega)]; omega⟩
theorem idList_pw (n : Nat) : (idList n).Pairwise (· < ·) := by
  unfold idList
  rw [List.pairwise_map]
  exact List.pairwise_lt_range.imp (fun h => by omega)
theorem sortedL_pw (n : Nat) (l : List Int) : (sortedL n l).Pairwise (· < ·) := (idList_pw n).sublist List.filter_sublist
theorem sortedL_head {n : Nat} {l : List Int} {x : Int} (hx : x ∈ sortedL n l) : (sortedL n l).getD 0 0 ≤ x ∧ (sortedL n l).getD 0 0 ∈ sortedL n l := by
  have hp := sortedL_pw n l
  cases hs : sortedL n l with
  | nil => rw [hs] at hx; simp at hx
  | cons a m =>
    rw [hs] at hx hp
    refine ⟨?_, by simp⟩
    simp only [List.getD_cons_zero]
    rcases List.mem_cons.1 hx with rfl | h
    · exact Int.le_refl _
    · have := (List.pairwise_cons.1 hp).1 x h; omega
theorem sortedL_congr {n : Nat} {l l' : List Int} (h : ∀ y, y ∈ l ↔ y ∈ l') : sortedL n l = sortedL n l' := by
  unfold sortedL
  apply List.filter_congr
  intro y _
  simp only [h y]
def orbL (gens : List (List Int)) (n : Nat) (x : Int) : List Int := sortedL n (bfs gens n x).1
theorem mem_orbL {n : Nat} {gens : List (List Int)} (hG : Gens n gens) {x : Int} (hx : 0 ≤ x ∧ x < n) (y : Int) : y ∈ orbL gens n x ↔ Reach gens x y := by
  unfold orbL
  rw [sortedL_mem (fun z hz => ((mem_bfs hG hx z).1 hz).in hG hx), mem_bfs hG hx]
theorem orbL_eq {n : Nat} {gens : List (List Int)} (hG : Gens n gens) {x y : Int} (hx : 0 ≤ x ∧ x < n) (h : Reach gens x y) : orbL gens n y = orbL gens n x := by
  have hy := h.in hG hx
  unfold orbL
  refine sortedL_congr fun z => ?_
  rw [mem_bfs hG hy, mem_bfs hG hx]
  exact ⟨fun h' => h.trans h', fun h' => (h.symm hG hx).trans h'⟩
/-- the points seen ahead of point k -/
theorem mem_seenO {n : Nat} {gens : List (List Int)} (hG : Gens n gens) : ∀ k, k ≤ n → ∀ y, y ∈ (orbitsGo gens n k).1 ↔ ∃ j : Nat, j < k ∧ Reach gens j y
  | 0, _, y => by simp [orbitsGo]
  | k + 1, hk, y => by
    have ih := mem_seenO hG k (by omega)
    have hkin : (0 : Int) ≤ (k : Int) ∧ (k : Int) < n := by omega
    rw [orbitsGo]
    split
    · rename_i h
      rw [ih y]
      constructor
      · rintro ⟨j, hj, h1⟩; exact ⟨j, by omega, h1⟩
      · rintro ⟨j, hj, h1⟩
        by_cases hjk : j = k
        · subst hjk
          obtain ⟨i, hi, h3⟩ := (ih _).1 h
          exact ⟨i, hi, h3.trans h1⟩
        · exact ⟨j, by omega, h1⟩
    · simp only [List.mem_append, ih y, mem_bfs hG hkin]
      constructor
      · rintro (⟨j, hj, h1⟩ | h2)
        · exact ⟨j, by omega, h1⟩
        · exact ⟨k, by omega, h2⟩
      · rintro ⟨j, hj, h1⟩
        by_cases hjk : j = k
        · subst hjk; exact .inr h1
        · exact .inl ⟨j, by omega, h1⟩
theorem orb_head {n : Nat} {gens : List (List Int)} (hG : Gens n gens) {k : Nat} (hk : k < n) : (orbL gens n k).getD 0 0 = k ↔ ¬ (k : Int) ∈ (orbitsGo gens n k).1 := by
  have hkin : (0 : Int) ≤ (k : Int) ∧ (k : Int) < n := by omega
  rw [mem_seenO hG k (by omega)]
  have hself : (k : Int) ∈ orbL gens n k := (mem_orbL hG hkin k).2 .refl
  obtain ⟨h1, h2⟩ := sortedL_head hself
  have h3 : Reach gens k ((orbL gens n k).getD 0 0) := (mem_orbL hG hkin _).1 h2
  have h4 := h3.in hG hkin
  change (orbL gens n k).getD 0 0 ≤ k at h1
  constructor
  · rintro he ⟨j, hj, hr⟩
    have hjin : (0 : Int) ≤ (j : Int) ∧ (j : Int) < n := by omega
    have := (sortedL_head ((mem_orbL hG hkin j).2 (hr.symm hG hjin))).1
    change (orbL gens n k).getD 0 0 ≤ j at this
    omega
  · intro hn
    rcases Int.lt_or_le ((orbL gens n k).getD 0 0) k with h | h
    · exfalso
      obtain ⟨j, hj⟩ := Int.eq_ofNat_of_zero_le h4.1
      rw [hj] at h3 h
      exact hn ⟨j, by omega, h3.symm hG hkin⟩
    · omega
/-- all orbits, as the reference finds them -/
def orbR (gens : List (List Int)) (n : Nat) : Nat → List (List Int)
  | 0 => []
  | k + 1 => if (orbL gens n k).getD 0 0 = k then orbR gens n k ++ [orbL gens n k] else orbR gens n k
theorem orbR_eq {n : Nat} {gens : List (List Int)} (hG : Gens n gens) : ∀ k, k ≤ n → orbR gens n k = (orbitsGo gens n k).2
  | 0, _ => rfl
  | k + 1, hk => by
    rw [orbR, orbitsGo, orbR_eq hG k (by omega)]
    have := orb_head hG (k := k) (by omega)
    by_cases h : (k : Int) ∈ (orbitsGo gens n k).1
    · rw [if_pos h, if_neg (fun e => this.1 e h)]
    · rw [if_neg h, if_pos (this.2 h)]; rfl
/-! errors and results -/
def grpF (n : Int) (gens : List (List Int)) : Int := if n < 1 ∨ 512 < n then 1 else if 64 < gens.length then 7 else if gensOK n gens then 0 else 3
theorem errF_grp (n : Int) (gens : List (List Int)) (x : Int) : errF n gens x = if n < 1 ∨ 512 < n ∨ x < 0 ∨ n ≤ x then 1 else grpF n gens := by
  unfold errF grpF
  split
  · rfl
  · rename_i h
    have h' : ¬ (n < 1 ∨ 512 < n) := by omega
    rw [if_neg h']
theorem errF_zero_grp (n : Int) (gens : List (List Int)) : errF n gens 0 = grpF n gens := by
  unfold errF grpF
  by_cases h : n < 1 ∨ 512 < n
  · rw [if_pos (by omega), if_pos h]
  · rw [if_neg (by omega), if_neg h]
def orbitF (n : Int) (gens : List (List Int)) (x : Int) : List Int := if errF n gens x = 0 then orbL gens n.toNat x else []
theorem orbitF_len (n : Int) (gens : List (List Int)) (x : Int) : (orbitF n gens x).length ≤ 512 := by
  unfold orbitF
  split
  · rename_i h
    have := errF_zero h
    have h2 := sortedL_len n.toNat (bfs gens n.toNat x).1
    unfold orbL; omega
  · simp
theorem orbitsF_len (n : Int) (gens : List (List Int)) : (orbitsF n gens).length ≤ 512 ∧ ∀ i, ((orbitsF n gens).getD i []).length ≤ 512 := by
  unfold orbitsF
  split
  · rename_i h
    have := errF_zero h
    obtain ⟨h1, h2⟩ := orbitsGo_len gens n.toNat n.toNat
    exact ⟨by omega, fun i => by have := h2 i; omega⟩
  · simp
/-! edges -/
def edgesTo (n : Nat) (es : List (Int × Nat × Int)) : List (Int × Int) := es.foldl (fun acc e => acc.set e.1.toNat ((e.2.1 : Int), e.2.2)) (List.replicate n (-1, -1))
theorem edgesTo_snoc (n : Nat) (es : List (Int × Nat × Int)) (e : Int × Nat × Int) : edgesTo n (es ++ [e]) = (edgesTo n es).set e.1.toNat ((e.2.1 : Int), e.2.2) := by simp [edgesTo]
theorem edgesTo_len (n : Nat) (es : List (Int × Nat × Int)) : (edgesTo n es).length = n := by
  unfold edgesTo
  suffices H : ∀ (es : List (Int × Nat × Int)) (acc : List (Int × Int)), (es.foldl (fun acc e => acc.set e.1.toNat ((e.2.1 : Int), e.2.2)) acc).length = acc.length by rw [H]; simp
  intro es
  induction es with
  | nil => intro acc; rfl
  | cons e es ih => intro acc; rw [List.foldl_cons, ih]; simp
def treeF (n : Int) (gens : List (List Int)) (x : Int) : List (Int × Int) := if errF n gens x = 0 then edgesTo n.toNat (bfs gens n.toNat x).2 else []
theorem treeF_len (n : Int) (gens : List (List Int)) (x : Int) : (treeF n gens x).length ≤ 512 := by
  unfold treeF
  split
  · rename_i h
    have := errF_zero h
    rw [edgesTo_len]; omega
  · simp
end Go.PM
