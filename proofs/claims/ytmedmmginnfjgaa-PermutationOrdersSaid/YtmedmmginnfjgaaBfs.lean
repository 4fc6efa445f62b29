import Derived.Test.YtmedmmginnfjgaaPure
/- Breadth-first search over the images of a point under permutations, in plain mathematics. -/
namespace Go.PM

theorem length_le_of_subset {m l : List Int} (hl : l.Nodup) (h : ∀ x ∈ l, x ∈ m) : l.length ≤ m.length := by
  induction l generalizing m with
  | nil => simp
  | cons x l ih =>
    have hx := h x (by simp)
    rw [List.nodup_cons] at hl
    have := ih (m := m.erase x) hl.2 (fun y hy => by
      have hne : y ≠ x := fun e => hl.1 (e ▸ hy)
      exact (List.mem_erase_of_ne hne).2 (h y (by simp [hy])))
    rw [List.length_erase_of_mem hx] at this
    have := List.length_pos_of_mem hx
    simp only [List.length_cons]; omega
theorem Dist.length_le {n : Nat} {l : List Int} (h : Dist n l) : l.length ≤ n := by
  have := length_le_of_subset (m := idList n) h.2 (fun x hx => by
    obtain ⟨h0, h1⟩ := h.1 x hx
    rw [mem_iff_getD]
    exact ⟨x.toNat, by rw [idList_length]; omega, by rw [idList_getD (by omega)]; omega⟩)
  rwa [idList_length] at this

theorem dist_one {n : Nat} {x : Int} (h0 : 0 ≤ x) (h1 : x < n) : Dist n [x] := ⟨by simp; omega, by simp⟩
abbrev Fnd := List Int × List (Int × Nat × Int)
def visit (p : List Int) (j : Nat) (x : Int) (st : Fnd) : Fnd :=
  if p.getD x.toNat 0 ∈ st.1 then st else (st.1 ++ [p.getD x.toNat 0], st.2 ++ [(p.getD x.toNat 0, j, x)])
def scanL : List (List Int) → Nat → Int → Fnd → Fnd
  | [], _, _, st => st
  | p :: l, j, x, st => scanL l (j + 1) x (visit p j x st)
def bfsGo (gens : List (List Int)) : Nat → Nat → Fnd → Fnd
  | 0, _, st => st
  | f + 1, i, st => if i < st.1.length then bfsGo gens f (i + 1) (scanL gens 0 (st.1.getD i 0) st) else st
def bfs (gens : List (List Int)) (n : Nat) (x : Int) : Fnd := bfsGo gens n 0 ([x], [])
/-- the generators are permutations of n points -/
def Gens (n : Nat) (gens : List (List Int)) : Prop := ∀ p ∈ gens, p.length = n ∧ IsPerm p
theorem Gens.getD {n : Nat} {gens : List (List Int)} (h : Gens n gens) {j : Nat} (hj : j < gens.length) : (gens.getD j []).length = n ∧ IsPerm (gens.getD j []) := h _ (getD_mem hj)
theorem drop_getD {α : Type} {l : List α} {j : Nat} {d : α} (h : j < l.length) : l.drop j = l.getD j d :: l.drop (j + 1) := by
  rw [List.drop_eq_getElem_cons h, List.getD_eq_getElem?_getD, List.getElem?_eq_getElem h]; rfl
theorem visit_dist {n : Nat} {p : List Int} {j : Nat} {x : Int} {st : Fnd} (hp : p.length = n ∧ IsPerm p) (hx : 0 ≤ x ∧ x < n) (h : Dist n st.1) : Dist n (visit p j x st).1 := by
  unfold visit
  split
  · exact h
  · rename_i hn
    have := hp.2.lt (k := x.toNat) (by omega)
    exact good_snoc.2 ⟨h, this.1, by omega, hn⟩
theorem visit_len (p : List Int) (j : Nat) (x : Int) (st : Fnd) : st.1.length ≤ (visit p j x st).1.length ∧ ∀ k, k < st.1.length → (visit p j x st).1.getD k 0 = st.1.getD k 0 := by
  unfold visit
  split
  · exact ⟨Nat.le_refl _, fun _ _ => rfl⟩
  · exact ⟨by simp, fun k hk => by simp [List.getD_eq_getElem?_getD, List.getElem?_append_left hk]⟩
theorem bfsGo_end {gens : List (List Int)} {f i : Nat} {st : Fnd} (h : ¬ i < st.1.length) : bfsGo gens f i st = st := by
  cases f with
  | zero => rfl
  | succ f => rw [bfsGo, if_neg h]
/-- the points of an orbit in ascending order -/
def sortedL (n : Nat) (l : List Int) : List Int := (idList n).filter (fun x => decide (x ∈ l))
theorem sortedL_succ (n : Nat) (l : List Int) : sortedL (n + 1) l = sortedL n l ++ (if (n : Int) ∈ l then [(n : Int)] else []) := by
  unfold sortedL
  rw [idList_succ, List.filter_append]
  congr 1
  simp only [List.filter_cons, List.filter_nil, decide_eq_true_eq]
end Go.PM
namespace Go.PM
theorem visit_points {p : List Int} {j : Nat} {z x : Int} {st : Fnd} (h : st.1 = x :: st.2.map (·.1)) : (visit p j z st).1 = x :: (visit p j z st).2.map (·.1) := by
  unfold visit
  split
  · exact h
  · simp [h]
theorem scanL_points {x : Int} : ∀ (l : List (List Int)) (j : Nat) (z : Int) (st : Fnd), st.1 = x :: st.2.map (·.1) → (scanL l j z st).1 = x :: (scanL l j z st).2.map (·.1)
  | [], _, _, _, h => h
  | _ :: l, j, z, _, h => scanL_points l (j + 1) z _ (visit_points h)
theorem bfsGo_points {gens : List (List Int)} {x : Int} : ∀ (f i : Nat) (st : Fnd), st.1 = x :: st.2.map (·.1) → (bfsGo gens f i st).1 = x :: (bfsGo gens f i st).2.map (·.1)
  | 0, _, _, h => h
  | f + 1, i, st, h => by
    rw [bfsGo]
    split
    · exact bfsGo_points f (i + 1) _ (scanL_points gens 0 _ st h)
    · exact h
theorem bfs_points (gens : List (List Int)) (n : Nat) (x : Int) : (bfs gens n x).1 = x :: (bfs gens n x).2.map (·.1) := bfsGo_points n 0 _ rfl
theorem scanL_dist {n : Nat} : ∀ (l : List (List Int)) (j : Nat) (z : Int) (st : Fnd), Gens n l → 0 ≤ z ∧ z < n → Dist n st.1 → Dist n (scanL l j z st).1
  | [], _, _, _, _, _, h => h
  | p :: l, j, z, _, hG, hz, h => scanL_dist l (j + 1) z _ (fun q hq => hG q (by simp [hq])) hz (visit_dist (hG p (by simp)) hz h)
theorem bfsGo_dist {n : Nat} {gens : List (List Int)} (hG : Gens n gens) : ∀ (f i : Nat) (st : Fnd), Dist n st.1 → Dist n (bfsGo gens f i st).1
  | 0, _, _, h => h
  | f + 1, i, st, h => by
    rw [bfsGo]
    split
    · rename_i hi
      exact bfsGo_dist hG f (i + 1) _ (scanL_dist gens 0 _ st hG (dist_iff.1 h |>.1 i hi) h)
    · exact h
theorem bfs_dist {n : Nat} {gens : List (List Int)} (hG : Gens n gens) {x : Int} (h0 : 0 ≤ x) (h1 : x < n) : Dist n (bfs gens n x).1 := bfsGo_dist hG n 0 _ (dist_one h0 h1)
theorem sortedL_len (n : Nat) (l : List Int) : (sortedL n l).length ≤ n := by
  unfold sortedL
  exact Nat.le_trans (List.length_filter_le _ _) (by rw [idList_length]; exact Nat.le_refl _)
/-- the error of the arguments of Orbit -/
def gensOK (n : Int) (gens : List (List Int)) : Prop := ∀ p ∈ gens, (p.length : Int) = n ∧ IsPerm p
instance (n : Int) (gens : List (List Int)) : Decidable (gensOK n gens) := by unfold gensOK; infer_instance
def errF (n : Int) (gens : List (List Int)) (x : Int) : Int :=
  if n < 1 ∨ 512 < n ∨ x < 0 ∨ n ≤ x then 1 else if 64 < gens.length then 7 else if gensOK n gens then 0 else 3
theorem gensOK_snoc {n : Int} {l : List (List Int)} {p : List Int} : gensOK n (l ++ [p]) ↔ gensOK n l ∧ (p.length : Int) = n ∧ IsPerm p := by
  unfold gensOK
  simp only [List.mem_append, List.mem_singleton]
  constructor
  · intro h; exact ⟨fun q hq => h q (.inl hq), h p (.inr rfl)⟩
  · rintro ⟨h1, h2⟩ q (hq | rfl)
    · exact h1 q hq
    · exact h2
theorem not_gensOK {n : Int} {l : List (List Int)} {k : Nat} (hk : k < l.length) (h : ¬ (((l.getD k []).length : Int) = n ∧ IsPerm (l.getD k []))) : ¬ gensOK n l := fun hg => h (hg _ (getD_mem hk))
end Go.PM
namespace Go.PM
/-! sets joined word by word -/
def orTo (ws vs : List Nat) (k : Nat) : List Nat := (List.range 8).map fun i => if i < k then ws.getD i 0 ||| vs.getD i 0 else ws.getD i 0
theorem orTo_getD (ws vs : List Nat) (k : Nat) {i : Nat} (h : i < 8) : (orTo ws vs k).getD i 0 = if i < k then ws.getD i 0 ||| vs.getD i 0 else ws.getD i 0 := by
  simp only [orTo, List.getD_eq_getElem?_getD, List.getElem?_map, List.getElem?_range h, Option.map_some, Option.getD_some]
theorem orTo_zero {ws vs : List Nat} (h : ws.length = 8) : orTo ws vs 0 = ws := by
  apply List.ext_getElem
  · simp [orTo, h]
  · intro i h1 h2
    simp [orTo, List.getD_eq_getElem?_getD, h2]
theorem orTo_succ {ws vs : List Nat} {k : Nat} (h : k < 8) : (orTo ws vs k).set k (ws.getD k 0 ||| vs.getD k 0) = orTo ws vs (k + 1) := by
  apply List.ext_getElem
  · simp [orTo]
  · intro i h1 h2
    simp only [orTo, List.length_set, List.length_map, List.length_range] at h1
    rw [List.getElem_set]
    simp only [orTo, List.getElem_map, List.getElem_range]
    by_cases e : k = i
    · subst e; simp
    · rw [if_neg e]
      by_cases h3 : i < k
      · rw [if_pos h3, if_pos (by omega)]
      · rw [if_neg h3, if_neg (by omega)]
theorem setOf_or {ws vs : List Nat} {l l' : List Int} (h : SetOf ws l) (h' : SetOf vs l') : SetOf (orTo ws vs 8) (l ++ l') := by
  refine ⟨by simp [orTo], fun j => ?_, fun x hx => ?_⟩
  · by_cases hj : j < 8
    · rw [orTo_getD _ _ _ hj, if_pos hj]
      exact Nat.or_lt_two_pow (n := 64) (h.lt j) (h'.lt j)
    · rw [List.getD_eq_getElem?_getD, List.getElem?_eq_none (by simp [orTo]; omega)]; simp
  · rw [List.mem_append, ← h.mem x hx, ← h'.mem x hx]
    unfold bit
    rw [orTo_getD _ _ _ (by omega), if_pos (by omega), Nat.testBit_or, Bool.or_eq_true]
/-! all orbits -/
def orbitsGo (gens : List (List Int)) (n : Nat) : Nat → List Int × List (List Int)
  | 0 => ([], [])
  | k + 1 => if (k : Int) ∈ (orbitsGo gens n k).1 then orbitsGo gens n k
      else ((orbitsGo gens n k).1 ++ (bfs gens n k).1, (orbitsGo gens n k).2 ++ [sortedL n (bfs gens n k).1])
theorem orbitsGo_len (gens : List (List Int)) (n : Nat) : ∀ k, (orbitsGo gens n k).2.length ≤ k ∧ ∀ i, ((orbitsGo gens n k).2.getD i []).length ≤ n
  | 0 => by simp [orbitsGo]
  | k + 1 => by
    have ih := orbitsGo_len gens n k
    rw [orbitsGo]
    split
    · exact ⟨by omega, ih.2⟩
    · refine ⟨by simp; omega, fun i => ?_⟩
      simp only [List.getD_eq_getElem?_getD, List.getElem?_append]
      split
      · have := ih.2 i; simpa [List.getD_eq_getElem?_getD] using this
      · rename_i h
        cases h2 : i - (orbitsGo gens n k).2.length with
        | zero => simpa using sortedL_len n _
        | succ m => simp
def orbitsF (n : Int) (gens : List (List Int)) : List (List Int) := if errF n gens 0 = 0 then (orbitsGo gens n.toNat n.toNat).2 else []
theorem errF_zero {n : Int} {gens : List (List Int)} {x : Int} (h : errF n gens x = 0) : 1 ≤ n ∧ n ≤ 512 ∧ 0 ≤ x ∧ x < n ∧ gens.length ≤ 64 ∧ Gens n.toNat gens := by
  unfold errF at h
  split at h
  · omega
  · split at h
    · omega
    · split at h
      · rename_i h1 h2 h3
        exact ⟨by omega, by omega, by omega, by omega, by omega, fun p hp => ⟨by have := (h3 p hp).1; omega, (h3 p hp).2⟩⟩
      · omega
end Go.PM
