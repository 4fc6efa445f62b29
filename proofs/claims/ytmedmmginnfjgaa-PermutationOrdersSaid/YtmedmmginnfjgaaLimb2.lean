import Derived.Test.YtmedmmginnfjgaaLimb
/- Arithmetic of lists of limbs. No program in sight. -/
namespace Go.LM
abbrev B : Nat := 4294967296
theorem natOf_set : ∀ {l : List Nat} {k v : Nat}, k < l.length → natOf (l.set k v) + l.getD k 0 * 4294967296 ^ k = natOf l + v * 4294967296 ^ k
  | [], k, v, h => by simp at h
  | d :: l, 0, v, _ => by simp [natOf]; omega
  | d :: l, k + 1, v, h => by
    have ih := natOf_set (l := l) (k := k) (v := v) (by simpa using h)
    simp only [List.set_cons_succ, natOf, List.getD_cons_succ, Nat.pow_succ]
    have e1 : l.getD k 0 * (4294967296 ^ k * 4294967296) = 4294967296 * (l.getD k 0 * 4294967296 ^ k) := by rw [← Nat.mul_assoc, Nat.mul_comm]
    have e2 : v * (4294967296 ^ k * 4294967296) = 4294967296 * (v * 4294967296 ^ k) := by rw [← Nat.mul_assoc, Nat.mul_comm]
    rw [e1, e2]
    omega
theorem Lim.set {l : List Nat} (h : Lim l) {k v : Nat} (hv : v < 4294967296) : Lim (l.set k v) := fun d hd => by
  rcases List.mem_or_eq_of_mem_set hd with h' | h'
  · exact h d h'
  · omega
theorem Lim.zeros (n : Nat) : Lim (List.replicate n 0) := fun d hd => by rw [List.eq_of_mem_replicate hd]; decide
theorem getD_set_ne' {l : List Nat} {k j v : Nat} (h : k ≠ j) : (l.set k v).getD j 0 = l.getD j 0 := by simp [List.getD_eq_getElem?_getD, List.getElem?_set_ne h]
theorem getD_set_eq {l : List Nat} {k v : Nat} (h : k < l.length) : (l.set k v).getD k 0 = v := by simp [List.getD_eq_getElem?_getD, h]
theorem take_succ_getD {l : List Nat} {k : Nat} (h : k < l.length) : l.take (k + 1) = l.take k ++ [l.getD k 0] := by
  rw [List.take_succ_eq_append_getElem h, List.getD_eq_getElem?_getD, List.getElem?_eq_getElem h]; rfl
theorem natOf_take_succ {l : List Nat} {k : Nat} (h : k < l.length) : natOf (l.take (k + 1)) = natOf (l.take k) + l.getD k 0 * 4294967296 ^ k := by
  rw [take_succ_getD h, natOf_snoc]
  simp only [List.length_take, Nat.min_eq_left (Nat.le_of_lt h)]
  rw [Nat.mul_comm]
theorem mul_lt_B2 {x y c r : Nat} (hx : x < 4294967296) (hy : y < 4294967296) (hc : c < 4294967296) (hr : r < 4294967296) : c + (x * y + r) < 18446744073709551616 := by
  have : x * y ≤ 4294967295 * 4294967295 := Nat.mul_le_mul (by omega) (by omega)
  omega
/-- one limb of a row of a product -/
theorem row_step {P : List Nat} {k c x y N : Nat} (hk : k < P.length) (h : natOf P + c * 4294967296 ^ k = N) :
    natOf (P.set k ((c + (x * y + P.getD k 0)) % 4294967296)) + (c + (x * y + P.getD k 0)) / 4294967296 * 4294967296 ^ (k + 1) = N + x * y * 4294967296 ^ k := by
  have h1 := natOf_set (l := P) (v := (c + (x * y + P.getD k 0)) % 4294967296) hk
  generalize x * y = m at *
  generalize P.getD k 0 = r at *
  have h2 : (c + (m + r)) % 4294967296 * 4294967296 ^ k + (c + (m + r)) / 4294967296 * 4294967296 ^ (k + 1) = c * 4294967296 ^ k + m * 4294967296 ^ k + r * 4294967296 ^ k := by
    rw [Nat.pow_succ, Nat.mul_comm (4294967296 ^ k) 4294967296, ← Nat.mul_assoc, ← Nat.add_mul, ← Nat.add_mul, ← Nat.add_mul]
    congr 1
    omega
  omega
theorem natOf_zero_above {l : List Nat} {k : Nat} (hk : k ≤ l.length) (h : ∀ j, k ≤ j → l.getD j 0 = 0) : natOf l = natOf (l.take k) := by
  have : natOf (l.drop k) = 0 := by
    have hz : ∀ m : List Nat, (∀ j, m.getD j 0 = 0) → natOf m = 0 := by
      intro m
      induction m with
      | nil => intro _; rfl
      | cons d m ih =>
        intro hm
        have h0 := hm 0
        have := ih (fun j => by have := hm (j + 1); simpa using this)
        simp at h0
        simp [natOf, h0, this]
    exact hz _ (fun j => by have := h (k + j) (by omega); simpa [List.getD_eq_getElem?_getD] using this)
  conv => lhs; rw [← List.take_append_drop k l, natOf_append, this]
  simp
end Go.LM
