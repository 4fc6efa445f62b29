import Derived.Test.YtmedmmginnfjgaaOrb
/- The orbits are a partition of the points that the generators keep. No program in sight. -/
namespace Go.PM
theorem orbR_spec {n : Nat} {gens : List (List Int)} : ∀ k, (∀ c ∈ orbR gens n k, ∃ j : Nat, j < k ∧ c = orbL gens n j ∧ c.getD 0 0 = j) ∧ (orbR gens n k).Pairwise (fun a b => a.getD 0 0 < b.getD 0 0) ∧ ∀ j : Nat, j < k → (orbL gens n j).getD 0 0 = j → orbL gens n j ∈ orbR gens n k
  | 0 => by simp [orbR]
  | k + 1 => by
    obtain ⟨h1, h2, h3⟩ := orbR_spec (n := n) (gens := gens) k
    rw [orbR]
    split
    · rename_i hk
      refine ⟨fun c hc => ?_, ?_, fun j hj hh => ?_⟩
      · rcases List.mem_append.1 hc with h | h
        · obtain ⟨j, hj, e⟩ := h1 c h; exact ⟨j, by omega, e⟩
        · simp only [List.mem_singleton] at h; subst h; exact ⟨k, by omega, rfl, hk⟩
      · rw [List.pairwise_append]
        refine ⟨h2, by simp, fun a ha b hb => ?_⟩
        simp only [List.mem_singleton] at hb
        subst hb
        obtain ⟨j, hj, _, e⟩ := h1 a ha
        rw [e, hk]; omega
      · by_cases hjk : j = k
        · subst hjk; simp
        · exact List.mem_append_left _ (h3 j (by omega) hh)
    · rename_i hk
      refine ⟨fun c hc => by obtain ⟨j, hj, e⟩ := h1 c hc; exact ⟨j, by omega, e⟩, h2, fun j hj hh => ?_⟩
      by_cases hjk : j = k
      · subst hjk; exact absurd hh hk
      · exact h3 j (by omega) hh
section
variable {n : Nat} {gens : List (List Int)} (hG : Gens n gens)
include hG
theorem orbs_eq {c d : List Int} {y : Int} (hc : c ∈ orbR gens n n) (hd : d ∈ orbR gens n n) (h1 : y ∈ c) (h2 : y ∈ d) : c = d := by
  obtain ⟨i, hi, rfl, _⟩ := (orbR_spec n).1 c hc
  obtain ⟨j, hj, rfl, _⟩ := (orbR_spec n).1 d hd
  have a1 := (mem_orbL hG (by omega) y).1 h1
  have a2 := (mem_orbL hG (by omega) y).1 h2
  rw [← orbL_eq hG (by omega) a1, ← orbL_eq hG (by omega) a2]
theorem orbs_closed {c p : List Int} {y : Int} (hc : c ∈ orbR gens n n) (hp : p ∈ gens) (hy : 0 ≤ y ∧ y < n) : y ∈ c ↔ ap p y ∈ c := by
  obtain ⟨i, hi, rfl, _⟩ := (orbR_spec n).1 c hc
  rw [mem_orbL hG (by omega), mem_orbL hG (by omega)]
  constructor
  · exact fun h => .step p hp h
  · intro h
    have h2 : Reach gens y (ap p y) := .step p hp .refl
    exact h.trans (h2.symm hG hy)
theorem orbs_cover {y : Nat} (hy : y < n) : ∃ c ∈ orbR gens n n, (y : Int) ∈ c := by
  have hin : (0 : Int) ≤ (y : Int) ∧ (y : Int) < n := by omega
  have hself : (y : Int) ∈ orbL gens n y := (mem_orbL hG hin y).2 .refl
  obtain ⟨h1, h2⟩ := sortedL_head hself
  change (orbL gens n y).getD 0 0 ≤ y at h1
  have h3 : Reach gens y ((orbL gens n y).getD 0 0) := (mem_orbL hG hin _).1 h2
  have h4 := h3.in hG hin
  obtain ⟨j, hj⟩ := Int.eq_ofNat_of_zero_le h4.1
  have he := orbL_eq hG hin h3
  rw [hj] at he
  refine ⟨orbL gens n j, (orbR_spec n).2.2 j (by omega) (by rw [he, hj]), by rw [he]; exact hself⟩
theorem orbs_range {c : List Int} (hc : c ∈ orbR gens n n) : (∀ y ∈ c, 0 ≤ y ∧ y < n) ∧ 0 < c.length ∧ c.Pairwise (· < ·) := by
  obtain ⟨i, hi, rfl, _⟩ := (orbR_spec n).1 c hc
  refine ⟨fun y hy => ((mem_orbL hG (by omega) y).1 hy).in hG (by omega), List.length_pos_of_mem ((mem_orbL hG (by omega) i).2 .refl), sortedL_pw _ _⟩
theorem orbs_flat : Dist n (orbR gens n n).flatten ∧ (orbR gens n n).flatten.length = n := by
  have hd : Dist n (orbR gens n n).flatten := by
    refine ⟨fun y hy => ?_, ?_⟩
    · obtain ⟨c, hc, hyc⟩ := List.mem_flatten.1 hy
      exact (orbs_range hG hc).1 y hyc
    · unfold List.Nodup
      rw [List.pairwise_flatten]
      refine ⟨fun c hc => (orbs_range hG hc).2.2.imp (fun h e => by omega), ?_⟩
      have hpw := (orbR_spec (n := n) (gens := gens) n).2.1
      refine hpw.imp_of_mem ?_
      intro c d hc hd hlt x hx y hy e
      subst e
      have := orbs_eq hG hc hd hx hy
      subst this
      omega
  refine ⟨hd, Nat.le_antisymm hd.length_le ?_⟩
  have := length_le_of_subset (m := (orbR gens n n).flatten) (idList_dist n).2 (fun y hy => by
    obtain ⟨k, hk, e⟩ := mem_iff_getD.1 hy
    rw [idList_length] at hk
    rw [idList_getD hk] at e
    obtain ⟨c, hc, hyc⟩ := orbs_cover hG hk
    rw [← e]
    exact List.mem_flatten.2 ⟨c, hc, hyc⟩)
  rwa [idList_length] at this
end
theorem pw_getD {l : List Int} (h : l.Pairwise (· < ·)) {a b : Nat} (hab : a < b) (hb : b < l.length) : l.getD a 0 < l.getD b 0 := by
  have := List.pairwise_iff_getElem.1 h a b (by omega) hb hab
  simpa [List.getD_eq_getElem?_getD, hb, show a < l.length by omega] using this
/-- the number of the list that contains a point, plus 1 -/
def labTo (O : List (List Int)) : Nat → Int → Int
  | 0, _ => 0
  | i + 1, y => if y ∈ O.getD i [] then (i : Int) + 1 else labTo O i y
theorem labTo_zero {O : List (List Int)} {y : Int} : ∀ i, (∀ j, j < i → ¬ y ∈ O.getD j []) → labTo O i y = 0
  | 0, _ => rfl
  | i + 1, h => by rw [labTo, if_neg (h i (by omega)), labTo_zero i (fun j hj => h j (by omega))]
theorem labTo_congr {O : List (List Int)} {y z : Int} : ∀ i, (∀ j, j < i → (y ∈ O.getD j [] ↔ z ∈ O.getD j [])) → labTo O i y = labTo O i z
  | 0, _ => rfl
  | i + 1, h => by
    rw [labTo, labTo, labTo_congr i (fun j hj => h j (by omega))]
    by_cases hy : y ∈ O.getD i []
    · rw [if_pos hy, if_pos ((h i (by omega)).1 hy)]
    · rw [if_neg hy, if_neg (fun hz => hy ((h i (by omega)).2 hz))]
/-- what has been written while the k-th point of the i-th list comes -/
def labAt (O : List (List Int)) (i k : Nat) (y : Int) : Int := if y ∈ (O.getD i []).take k then (i : Int) + 1 else labTo O i y
theorem labAt_zero (O : List (List Int)) (i : Nat) (y : Int) : labAt O i 0 y = labTo O i y := by simp [labAt]
theorem labAt_end (O : List (List Int)) (i : Nat) (y : Int) : labAt O i (O.getD i []).length y = labTo O (i + 1) y := by simp [labAt, labTo]
theorem labAt_succ {O : List (List Int)} {i k : Nat} (hk : k < (O.getD i []).length) (y : Int) : labAt O i (k + 1) y = if y = (O.getD i []).getD k 0 then (i : Int) + 1 else labAt O i k y := by
  unfold labAt
  have hm : y ∈ (O.getD i []).take (k + 1) ↔ y ∈ (O.getD i []).take k ∨ y = (O.getD i []).getD k 0 := by rw [take_succ_getD _ 0 hk, List.mem_append, List.mem_singleton]
  by_cases h1 : y = (O.getD i []).getD k 0
  · rw [if_pos (hm.2 (.inr h1)), if_pos h1]
  · rw [if_neg h1]
    by_cases h2 : y ∈ (O.getD i []).take k
    · rw [if_pos (hm.2 (.inl h2)), if_pos h2]
    · rw [if_neg (fun h => (hm.1 h).elim h2 h1), if_neg h2]
end Go.PM
