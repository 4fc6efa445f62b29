import Derived.Test.YtmedmmginnfjgaaCyc
/- The order of a permutation, in plain mathematics. -/
namespace Go.PM
def ordTo (l : List (List Int)) : Nat → Nat
  | 0 => 1
  | k + 1 => ordTo l k * ((l.getD k []).length / Nat.gcd (ordTo l k) (l.getD k []).length)
def orderF (p : List Int) : Nat := ordTo (cyclesF p) (cyclesF p).length
def prodTo (l : List (List Int)) : Nat → Nat
  | 0 => 1
  | k + 1 => prodTo l k * (l.getD k []).length
def sumTo (l : List (List Int)) : Nat → Nat
  | 0 => 0
  | k + 1 => sumTo l k + (l.getD k []).length
/-- the cycles are parts of the points, and none is empty -/
theorem cycGo_dist {p : List Int} (hp : IsPerm p) : ∀ k, k ≤ p.length → Dist p.length (cycGo p k).1 ∧ (cycGo p k).1 = (cycGo p k).2.flatten ∧ ∀ c ∈ (cycGo p k).2, ∃ j : Nat, j < k ∧ ap p j ≠ j ∧ c = cyc p j
  | 0, _ => by simp [cycGo, good_nil]
  | k + 1, hk => by
    obtain ⟨h1, h2, h3⟩ := cycGo_dist hp k (by omega)
    rw [cycGo]
    split
    · exact ⟨h1, h2, fun c hc => by obtain ⟨j, hj, h4⟩ := h3 c hc; exact ⟨j, by omega, h4⟩⟩
    · rename_i h
      rw [not_or] at h
      have hin : In p (k : Int) := by unfold In; omega
      obtain ⟨c1, c2, c3, c4, c5⟩ := cyc_spec hp hin
      have hd := itL_dist hp hin c5
      rw [← c3] at hd
      refine ⟨⟨fun y hy => ?_, ?_⟩, ?_, fun c hc => ?_⟩
      · rcases List.mem_append.1 hy with h' | h'
        · exact h1.1 y h'
        · exact hd.1 y h'
      · rw [List.nodup_append]
        refine ⟨h1.2, hd.2, fun a ha b hb e => ?_⟩
        subst e
        apply h.1
        rw [mem_seen hp k (by omega)] at ha ⊢
        obtain ⟨j, hj, h4, h5⟩ := ha
        have hj' : In p (j : Int) := by unfold In; omega
        exact ⟨j, hj, h4, cyc_trans hp hj' h5 (cyc_symm hp hin hb)⟩
      · rw [List.flatten_append, ← h2]; simp
      · rcases List.mem_append.1 hc with h' | h'
        · obtain ⟨j, hj, h4⟩ := h3 c h'; exact ⟨j, by omega, h4⟩
        · simp only [List.mem_singleton] at h'
          exact ⟨k, by omega, fun e => h.2 (by unfold ap at e; simpa using e), h'⟩
theorem sumTo_take (l : List (List Int)) : ∀ k, k ≤ l.length → sumTo l k = (l.take k).flatten.length
  | 0, _ => rfl
  | k + 1, hk => by rw [sumTo, sumTo_take l k (by omega), take_succ_getD l [] (by omega)]; simp
theorem cube_le : ∀ m : Nat, m * m * m ≤ 3 ^ m
  | 0 => by decide
  | 1 => by decide
  | 2 => by decide
  | 3 => by decide
  | m + 4 => by
    have ih := cube_le (m + 3)
    rw [Nat.pow_succ]
    have hx : 3 ≤ m + 3 := by omega
    show (m + 3 + 1) * (m + 3 + 1) * (m + 3 + 1) ≤ 3 ^ (m + 3) * 3
    generalize m + 3 = x at *
    have e1 : (x + 1) * (x + 1) = x * x + 2 * x + 1 := by rw [Nat.mul_add, Nat.add_mul]; omega
    have e2 : (x * x + 2 * x + 1) * (x + 1) = x * x * x + 3 * (x * x) + 3 * x + 1 := by
      rw [Nat.mul_add, Nat.add_mul, Nat.add_mul, Nat.mul_assoc 2 x x]; omega
    rw [e1, e2]
    have h1 : 3 * x ≤ x * x := Nat.mul_le_mul_right _ hx
    have h2 : 3 * (x * x) ≤ x * x * x := by rw [Nat.mul_comm (x * x) x]; exact Nat.mul_le_mul_right _ hx
    omega
theorem prod_cube (l : List (List Int)) : ∀ k, prodTo l k * prodTo l k * prodTo l k ≤ 3 ^ sumTo l k
  | 0 => by simp [prodTo, sumTo]
  | k + 1 => by
    have ih := prod_cube l k
    have h := cube_le (l.getD k []).length
    rw [prodTo, sumTo, Nat.pow_add]
    generalize prodTo l k = a at *
    generalize (l.getD k []).length = b at *
    have e : a * b * (a * b) * (a * b) = a * a * a * (b * b * b) := by
      simp only [Nat.mul_assoc, Nat.mul_left_comm, Nat.mul_comm]
    rw [e]
    exact Nat.mul_le_mul ih h
theorem ordTo_le (l : List (List Int)) : ∀ k, ordTo l k ≤ prodTo l k
  | 0 => Nat.le_refl _
  | k + 1 => Nat.mul_le_mul (ordTo_le l k) (Nat.div_le_self _ _)
theorem lt_of_cube {a b : Nat} (h : a * a * a < b * b * b) : a < b := by
  rcases Nat.lt_or_ge a b with h' | h'
  · exact h'
  · have := Nat.mul_le_mul (Nat.mul_le_mul h' h') h'; omega
theorem sumTo_le {p : List Int} (hp : IsPerm p) (k : Nat) (hk : k ≤ (cyclesF p).length) : sumTo (cyclesF p) k ≤ p.length := by
  have e : cyclesF p = (cycGo p p.length).2 := by rw [cyclesF, if_pos hp]
  obtain ⟨h1, h2, _⟩ := cycGo_dist hp p.length (Nat.le_refl _)
  have h3 := h1.length_le
  rw [h2, ← e] at h3
  rw [sumTo_take _ k hk]
  have : ((cyclesF p).take k).flatten.length ≤ (cyclesF p).flatten.length := by
    conv => rhs; rw [← List.take_append_drop k (cyclesF p), List.flatten_append, List.length_append]
    omega
  omega
theorem ordTo_zero (l : List (List Int)) : ∀ j, ordTo l (l.length + j + 1) = 0
  | 0 => by rw [Nat.add_zero, ordTo, List.getD_eq_getElem?_getD, List.getElem?_eq_none (Nat.le_refl _)]; simp
  | j + 1 => by rw [show l.length + (j + 1) + 1 = (l.length + j + 1) + 1 by omega, ordTo, ordTo_zero l j, Nat.zero_mul]
theorem ordTo_bound {p : List Int} {b : Nat} (h0 : 0 < b) (hb : 3 ^ p.length < b * b * b) (k : Nat) : ordTo (cyclesF p) k < b := by
  by_cases hk : k ≤ (cyclesF p).length
  · by_cases hp : IsPerm p
    · refine Nat.lt_of_le_of_lt (ordTo_le _ k) (lt_of_cube ?_)
      have h1 := prod_cube (cyclesF p) k
      have h2 : 3 ^ sumTo (cyclesF p) k ≤ 3 ^ p.length := Nat.pow_le_pow_right (by decide) (sumTo_le hp k hk)
      omega
    · have e : cyclesF p = [] := by rw [cyclesF, if_neg hp]
      rw [e] at hk ⊢
      simp at hk
      subst hk
      show 1 < b
      rcases Nat.lt_or_ge 1 b with h | h
      · exact h
      · have : b = 1 := by omega
        subst this
        have := Nat.pow_pos (n := p.length) (show 0 < 3 by decide)
        omega
  · obtain ⟨j, rfl⟩ : ∃ j, k = (cyclesF p).length + j + 1 := ⟨k - (cyclesF p).length - 1, by omega⟩
    rw [ordTo_zero]; exact h0
theorem ordTo_64 {p : List Int} (h : p.length ≤ 100) (k : Nat) : ordTo (cyclesF p) k < 18446744073709551616 := by
  refine ordTo_bound (by decide) ?_ k
  have : 3 ^ p.length ≤ 3 ^ 100 := Nat.pow_le_pow_right (by decide) h
  have h2 : 3 ^ 100 < 18446744073709551616 * 18446744073709551616 * 18446744073709551616 := by decide
  omega
theorem cycles_mem {p : List Int} (k : Nat) (hk : k < (cyclesF p).length) : IsPerm p ∧ ∃ j : Nat, j < p.length ∧ ap p j ≠ j ∧ (cyclesF p).getD k [] = cyc p j := by
  by_cases hp : IsPerm p
  · have e : cyclesF p = (cycGo p p.length).2 := by rw [cyclesF, if_pos hp]
    obtain ⟨_, _, h3⟩ := cycGo_dist hp p.length (Nat.le_refl _)
    rw [e] at hk ⊢
    exact ⟨hp, h3 _ (getD_mem hk)⟩
  · rw [cyclesF, if_neg hp] at hk; simp at hk
theorem cycles_ne {p : List Int} (k : Nat) (hk : k < (cyclesF p).length) : 1 ≤ ((cyclesF p).getD k []).length := by
  obtain ⟨hp, j, hj, h1, h2⟩ := cycles_mem k hk
  rw [h2]
  exact (cyc_spec hp (x := (j : Int)) (by unfold In; omega)).1
end Go.PM
