/- Natural numbers as lists of 32-bit limbs, the least significant one first. No program in sight. -/
namespace Go.LM
def natOf : List Nat → Nat
  | [] => 0
  | d :: l => d + 4294967296 * natOf l
def Lim (l : List Nat) : Prop := ∀ d ∈ l, d < 4294967296
theorem Lim.getD {l : List Nat} (h : Lim l) (k : Nat) : l.getD k 0 < 4294967296 := by
  by_cases hk : k < l.length
  · rw [List.getD_eq_getElem?_getD, List.getElem?_eq_getElem hk]; exact h _ (List.getElem_mem hk)
  · rw [List.getD_eq_getElem?_getD, List.getElem?_eq_none (by omega)]; decide
theorem Lim.take {l : List Nat} (h : Lim l) (k : Nat) : Lim (l.take k) := fun d hd => h d (List.mem_of_mem_take hd)
theorem natOf_append : ∀ (l m : List Nat), natOf (l ++ m) = natOf l + 4294967296 ^ l.length * natOf m
  | [], m => by simp [natOf]
  | d :: l, m => by
    simp only [List.cons_append, natOf, natOf_append l m, List.length_cons, Nat.pow_succ]
    rw [Nat.mul_add, ← Nat.mul_assoc, Nat.mul_comm 4294967296 (4294967296 ^ l.length), Nat.add_assoc]
theorem natOf_lt : ∀ {l : List Nat}, Lim l → natOf l < 4294967296 ^ l.length
  | [], _ => by simp [natOf]
  | d :: l, h => by
    have h1 := h d (by simp)
    have h2 := natOf_lt (l := l) (fun x hx => h x (by simp [hx]))
    simp only [natOf, List.length_cons, Nat.pow_succ]
    omega
theorem natOf_snoc (l : List Nat) (d : Nat) : natOf (l ++ [d]) = natOf l + 4294967296 ^ l.length * d := by rw [natOf_append]; simp [natOf]
theorem natOf_zeros : ∀ n : Nat, natOf (List.replicate n 0) = 0
  | 0 => rfl
  | n + 1 => by simp [List.replicate_succ, natOf, natOf_zeros n]
/-- without the zeros at the end -/
def trimL : List Nat → List Nat
  | [] => []
  | d :: l => if trimL l = [] ∧ d = 0 then [] else d :: trimL l
theorem trimL_natOf : ∀ l : List Nat, natOf (trimL l) = natOf l
  | [] => rfl
  | d :: l => by
    have ih := trimL_natOf l
    rw [trimL]
    split
    · rename_i h; rw [h.1] at ih; simp only [natOf] at ih ⊢; omega
    · simp only [natOf, ih]
theorem trimL_len : ∀ l : List Nat, (trimL l).length ≤ l.length
  | [] => by simp [trimL]
  | d :: l => by
    have := trimL_len l
    rw [trimL]
    split <;> simp <;> omega
theorem trimL_take : ∀ l : List Nat, trimL l = l.take (trimL l).length
  | [] => rfl
  | d :: l => by
    have ih := trimL_take l
    rw [trimL]
    split
    · rfl
    · simp only [List.length_cons, List.take_succ_cons, ← ih]
theorem trimL_snoc_zero : ∀ l : List Nat, trimL (l ++ [0]) = trimL l
  | [] => rfl
  | d :: l => by simp only [List.cons_append, trimL, trimL_snoc_zero l]
theorem trimL_snoc {d : Nat} (h : d ≠ 0) : ∀ l : List Nat, trimL (l ++ [d]) = l ++ [d]
  | [] => by simp [trimL, h]
  | e :: l => by
    simp only [List.cons_append, trimL, trimL_snoc h l]
    rw [if_neg (by simp)]
def Canon (l : List Nat) : Prop := trimL l = l
theorem canon_trimL : ∀ l : List Nat, Canon (trimL l)
  | [] => rfl
  | d :: l => by
    have ih := canon_trimL l
    unfold Canon at *
    rw [trimL]
    split
    · rfl
    · rename_i h
      rw [trimL, ih, if_neg h]
theorem Lim.trim {l : List Nat} (h : Lim l) : Lim (trimL l) := by rw [trimL_take]; exact h.take _
theorem trimL_zero {l : List Nat} : trimL l = [] ↔ natOf l = 0 := by
  constructor
  · intro h; rw [← trimL_natOf, h]; rfl
  · induction l with
    | nil => intro _; rfl
    | cons d l ih =>
      intro h
      simp only [natOf] at h
      rw [trimL, if_pos ⟨ih (by omega), by omega⟩]
/-- the least number of a length -/
theorem canon_ge {l : List Nat} (h : Canon l) (hne : l ≠ []) : 4294967296 ^ (l.length - 1) ≤ natOf l := by
  obtain ⟨m, d, rfl⟩ : ∃ m d, l = m ++ [d] := ⟨l.dropLast, l.getLast hne, (List.dropLast_concat_getLast hne).symm⟩
  have hd : d ≠ 0 := by
    rintro rfl
    unfold Canon at h
    rw [trimL_snoc_zero] at h
    have := trimL_len m
    rw [h] at this
    simp at this
    omega
  rw [natOf_snoc]
  simp only [List.length_append, List.length_singleton, Nat.add_sub_cancel]
  have : 4294967296 ^ m.length * 1 ≤ 4294967296 ^ m.length * d := Nat.mul_le_mul_left _ (by omega)
  omega
theorem canon_unique {l m : List Nat} (hl : Lim l) (hm : Lim m) (cl : Canon l) (cm : Canon m) (h : natOf l = natOf m) : l = m := by
  induction l generalizing m with
  | nil =>
    have : trimL m = [] := trimL_zero.2 h.symm
    rw [cm] at this; exact this.symm
  | cons d l ih =>
    cases m with
    | nil =>
      have : trimL (d :: l) = [] := trimL_zero.2 h
      rw [cl] at this; cases this
    | cons e m =>
      simp only [natOf] at h
      have h1 := hl d (by simp)
      have h2 := hm e (by simp)
      have hde : d = e := by omega
      subst hde
      have hc : ∀ {l : List Nat} {d : Nat}, Canon (d :: l) → Canon l := fun {l d} hc => by
        unfold Canon at *
        rw [trimL] at hc
        split at hc
        · cases hc
        · exact (List.cons.inj hc).2
      rw [ih (fun x hx => hl x (by simp [hx])) (fun x hx => hm x (by simp [hx])) (hc cl) (hc cm) (by omega)]
/-- the limbs of a number of 64 bits -/
def digs (n : Nat) : List Nat := trimL [n % 4294967296, n / 4294967296]
theorem digs_natOf {n : Nat} : natOf (digs n) = n := by rw [digs, trimL_natOf]; simp [natOf]; omega
theorem digs_lim {n : Nat} (h : n < 18446744073709551616) : Lim (digs n) := Lim.trim (by intro d hd; simp at hd; omega)
theorem digs_len (n : Nat) : (digs n).length ≤ 2 := trimL_len _
theorem digs_canon (n : Nat) : Canon (digs n) := canon_trimL _
end Go.LM
