import Derived.Test.YtmedmmginnfjgaaOrb
/- The edges of the search lead back to its first point. No program in sight. -/
namespace Go.PM
/-- each edge ends at the next point and begins at an earlier one -/
structure EdgesOK (gens : List (List Int)) (x : Int) (st : Fnd) : Prop where
  pts : st.1 = x :: st.2.map (·.1)
  ok : ∀ k, k < st.2.length → (st.2.getD k (0, 0, 0)).2.1 < gens.length ∧ ap (gens.getD (st.2.getD k (0, 0, 0)).2.1 []) (st.2.getD k (0, 0, 0)).2.2 = (st.2.getD k (0, 0, 0)).1 ∧ ∃ m, m ≤ k ∧ st.1.getD m 0 = (st.2.getD k (0, 0, 0)).2.2
theorem visit_ok {gens : List (List Int)} {x z : Int} {j i : Nat} {st : Fnd} (h : EdgesOK gens x st) (hj : j < gens.length) (hi : i < st.1.length) (hz : st.1.getD i 0 = z) : EdgesOK gens x (visit (gens.getD j []) j z st) := by
  unfold visit
  split
  · exact h
  · refine ⟨by simp [h.pts], fun k hk => ?_⟩
    simp only [List.length_append, List.length_singleton] at hk
    have hl : st.1.length = st.2.length + 1 := by rw [h.pts]; simp
    by_cases hk2 : k < st.2.length
    · have e : (st.2 ++ [((gens.getD j []).getD z.toNat 0, j, z)]).getD k (0, 0, 0) = st.2.getD k (0, 0, 0) := by simp [List.getD_eq_getElem?_getD, List.getElem?_append_left hk2]
      simp only [e]
      obtain ⟨h1, h2, m, h3, h4⟩ := h.ok k hk2
      refine ⟨h1, h2, m, h3, ?_⟩
      rw [← h4, List.getD_eq_getElem?_getD, List.getD_eq_getElem?_getD, List.getElem?_append_left (by omega), ← List.getD_eq_getElem?_getD]
    · obtain rfl : k = st.2.length := by omega
      have e : (st.2 ++ [((gens.getD j []).getD z.toNat 0, j, z)]).getD st.2.length (0, 0, 0) = ((gens.getD j []).getD z.toNat 0, j, z) := by simp [List.getD_eq_getElem?_getD]
      simp only [e]
      refine ⟨hj, rfl, i, by omega, ?_⟩
      rw [← hz, List.getD_eq_getElem?_getD, List.getD_eq_getElem?_getD, List.getElem?_append_left hi, ← List.getD_eq_getElem?_getD]
theorem scanL_ok {gens : List (List Int)} {x z : Int} {i : Nat} : ∀ (m j : Nat) (st : Fnd), j + m = gens.length → EdgesOK gens x st → i < st.1.length → st.1.getD i 0 = z → EdgesOK gens x (scanL (gens.drop j) j z st)
  | 0, j, st, hj, h, _, _ => by rw [List.drop_of_length_le (by omega)]; exact h
  | m + 1, j, st, hj, h, hi, hz => by
    rw [drop_getD (d := []) (by omega), scanL]
    obtain ⟨v1, v2⟩ := visit_len (gens.getD j []) j z st
    exact scanL_ok (i := i) m (j + 1) _ (by omega) (visit_ok h (by omega) hi hz) (by omega) (by rw [v2 i hi]; exact hz)
theorem bfsGo_ok {gens : List (List Int)} {x : Int} : ∀ (f i : Nat) (st : Fnd), EdgesOK gens x st → EdgesOK gens x (bfsGo gens f i st)
  | 0, _, _, h => h
  | f + 1, i, st, h => by
    rw [bfsGo]
    split
    · rename_i hi
      have := scanL_ok (z := st.1.getD i 0) gens.length 0 st (by omega) h hi rfl
      exact bfsGo_ok f (i + 1) _ (by simpa using this)
    · exact h
theorem bfs_ok (gens : List (List Int)) (n : Nat) (x : Int) : EdgesOK gens x (bfs gens n x) := bfsGo_ok n 0 _ ⟨rfl, fun k hk => by simp at hk⟩
/-! the list of the edges -/
theorem edgesTo_take {n : Nat} {es : List (Int × Nat × Int)} (hd : Dist n (es.map (·.1))) : ∀ k, k ≤ es.length → ∀ y : Nat, y < n →
    (∀ j, j < k → (es.getD j (0, 0, 0)).1 = y → (edgesTo n (es.take k)).getD y (0, 0) = (((es.getD j (0, 0, 0)).2.1 : Int), (es.getD j (0, 0, 0)).2.2)) ∧ ((∀ j, j < k → (es.getD j (0, 0, 0)).1 ≠ y) → (edgesTo n (es.take k)).getD y (0, 0) = (-1, -1))
  | 0, _, y, hy => ⟨fun j hj => by omega, fun _ => by simp [edgesTo, List.getD_eq_getElem?_getD, hy]⟩
  | k + 1, hk, y, hy => by
    obtain ⟨i1, i2⟩ := edgesTo_take hd k (by omega) y hy
    have hg : ∀ j, j < es.length → (es.map (·.1)).getD j 0 = (es.getD j (0, 0, 0)).1 := fun j hj => by simp [List.getD_eq_getElem?_getD, hj]
    have hr := dist_iff.1 hd
    simp only [List.length_map] at hr
    have hkr := hr.1 k (by omega)
    rw [hg k (by omega)] at hkr
    have hl := edgesTo_len n (es.take k)
    rw [take_succ_getD es (0, 0, 0) (by omega), edgesTo_snoc]
    have hset : ∀ v : Int × Int, ((edgesTo n (es.take k)).set (es.getD k (0, 0, 0)).1.toNat v).getD y (0, 0) = if (es.getD k (0, 0, 0)).1 = y then v else (edgesTo n (es.take k)).getD y (0, 0) := fun v => by
      simp only [List.getD_eq_getElem?_getD, List.getElem?_set]
      simp only [List.getD_eq_getElem?_getD] at hkr hl
      by_cases e : (es[k]?.getD (0, 0, 0)).1 = y
      · rw [if_pos (by omega), if_pos (by omega), if_pos e]; rfl
      · rw [if_neg (by omega), if_neg e]
    rw [hset]
    refine ⟨fun j hj he => ?_, fun h => ?_⟩
    · by_cases hjk : j = k
      · subst hjk; rw [if_pos he]
      · rw [if_neg (fun e => ?_)]
        · exact i1 j (by omega) he
        · have := hr.2 j k (by omega) (by omega)
          rw [hg j (by omega), hg k (by omega), he, e] at this
          exact this rfl
    · rw [if_neg (h k (by omega))]
      exact i2 (fun j hj => h j (by omega))
section
variable {n x : Nat} {gens : List (List Int)} (hG : Gens n gens) (hx : x < n)
include hG hx
theorem es_dist : Dist n ((bfs gens n x).2.map (·.1)) ∧ ¬ (x : Int) ∈ (bfs gens n x).2.map (·.1) := by
  have hd := bfs_dist hG (x := (x : Int)) (by omega) (by omega)
  rw [bfs_points] at hd
  exact ⟨⟨fun y hy => hd.1 y (List.mem_cons_of_mem _ hy), (List.nodup_cons.1 hd.2).2⟩, (List.nodup_cons.1 hd.2).1⟩
/-- points without an edge -/
theorem edge_none {y : Nat} (hy : y < n) (h : y = x ∨ ¬ Reach gens x y) : (edgesTo n (bfs gens n x).2).getD y (0, 0) = (-1, -1) := by
  obtain ⟨h1, h2⟩ := es_dist hG hx
  have := (edgesTo_take h1 (bfs gens n x).2.length (Nat.le_refl _) y hy).2 (fun j hj e => by
    have hm : (y : Int) ∈ (bfs gens n x).2.map (·.1) := by
      rw [← e, mem_iff_getD]
      exact ⟨j, by simpa using hj, by simp [List.getD_eq_getElem?_getD, hj]⟩
    rcases h with h | h
    · subst h; exact h2 hm
    · exact h ((mem_bfs hG (x := (x : Int)) (by omega) y).1 (by rw [bfs_points]; exact List.mem_cons_of_mem _ hm)))
  rwa [List.take_length] at this
/-- the place of a point in the order of the search -/
theorem edge_some {m : Nat} (hm : m < (bfs gens n x).1.length) (h0 : 0 < m) : ∃ (y j : Nat) (z : Nat) (m' : Nat), (bfs gens n x).1.getD m 0 = y ∧ y < n ∧ (edgesTo n (bfs gens n x).2).getD y (0, 0) = ((j : Int), (z : Int)) ∧ j < gens.length ∧ z < n ∧ (gens.getD j []).getD z 0 = y ∧
    m' < m ∧ (bfs gens n x).1.getD m' 0 = z := by
  obtain ⟨h1, h2⟩ := es_dist hG hx
  have hok := bfs_ok gens n x
  have hd := bfs_dist hG (x := (x : Int)) (by omega) (by omega)
  have hl : (bfs gens n x).1.length = (bfs gens n x).2.length + 1 := by rw [hok.pts]; simp
  obtain ⟨k, rfl⟩ : ∃ k, m = k + 1 := ⟨m - 1, by omega⟩
  obtain ⟨a1, a2, m', a3, a4⟩ := hok.ok k (by omega)
  have hpk : (bfs gens n x).1.getD (k + 1) 0 = ((bfs gens n x).2.getD k (0, 0, 0)).1 := by
    rw [hok.pts]
    simp [List.getD_eq_getElem?_getD, show k < (bfs gens n x).2.length by omega]
  have hyr := dist_iff.1 hd |>.1 (k + 1) hm
  have hzr := dist_iff.1 hd |>.1 m' (by omega)
  rw [a4] at hzr
  rw [hpk] at hyr
  obtain ⟨y, hy⟩ := Int.eq_ofNat_of_zero_le hyr.1
  obtain ⟨z, hz⟩ := Int.eq_ofNat_of_zero_le hzr.1
  have he := (edgesTo_take h1 (bfs gens n x).2.length (Nat.le_refl _) y (by omega)).1 k (by omega) hy
  rw [List.take_length, hz] at he
  refine ⟨y, _, z, m', by rw [hpk, hy], by omega, he, a1, by omega, ?_, by omega, by rw [a4, hz]⟩
  rw [hz, hy] at a2
  unfold ap at a2
  simpa using a2
end
end Go.PM
