/- Plain mathematics for the layer 16: sets as words, permutations as lists. No program in sight. -/
namespace Go.PM

/-- the words of a set -/
def bit (ws : List Nat) (x : Nat) : Bool := (ws.getD (x / 64) 0).testBit (x % 64)
structure SetOf (ws : List Nat) (l : List Int) : Prop where
  len : ws.length = 8
  lt : ∀ j, ws.getD j 0 < 18446744073709551616
  mem : ∀ x : Nat, x < 512 → (bit ws x = true ↔ (x : Int) ∈ l)
theorem setOf_nil : SetOf [0, 0, 0, 0, 0, 0, 0, 0] [] := by
  refine ⟨rfl, fun j => ?_, fun x hx => ?_⟩
  · rcases j with _ | _ | _ | _ | _ | _ | _ | _ | j <;> simp
  · have : x / 64 < 8 := by omega
    unfold bit
    generalize x / 64 = q at *
    rcases q with _ | _ | _ | _ | _ | _ | _ | _ | q <;> first | (simp; done) | omega
theorem bit_eq (ws : List Nat) (x : Nat) : (((ws.getD (x / 64) 0) >>> (x % 64) &&& 1 : Nat) : Int) = 1 ↔ bit ws x = true := by
  unfold bit Nat.testBit
  rw [Nat.and_comm]
  simp only [bne_iff_ne, ne_eq]
  have h : 1 &&& (ws.getD (x / 64) 0) >>> (x % 64) < 2 := by rw [Nat.and_comm, Nat.and_one_is_mod]; omega
  omega
theorem setOf_with {ws : List Nat} {l : List Int} (h : SetOf ws l) {x : Nat} (hx : x < 512) : SetOf (ws.set (x / 64) (ws.getD (x / 64) 0 ||| 1 <<< (x % 64))) (l ++ [(x : Int)]) := by
  have h8 : x / 64 < ws.length := by rw [h.len]; omega
  have hp : 1 <<< (x % 64) < 18446744073709551616 := by
    rw [Nat.one_shiftLeft]
    have : 2 ^ (x % 64) < 2 ^ 64 := Nat.pow_lt_pow_right (by omega) (by omega)
    omega
  refine ⟨by simp [h.len], fun j => ?_, fun y hy => ?_⟩
  · simp only [List.getD_eq_getElem?_getD, List.getElem?_set]
    split
    · have h1 := h.lt (x / 64)
      simp only [List.getD_eq_getElem?_getD] at h1
      exact Nat.or_lt_two_pow (n := 64) h1 hp
    · have := h.lt j; simpa [List.getD_eq_getElem?_getD] using this
  · rw [List.mem_append, ← h.mem y hy]
    unfold bit
    simp only [List.getD_eq_getElem?_getD, List.getElem?_set]
    split
    · rename_i e
      rw [e]
      simp only [Option.getD_some, Nat.testBit_or, Nat.one_shiftLeft, Nat.testBit_two_pow, Bool.or_eq_true, decide_eq_true_eq, List.mem_singleton]
      have : (x % 64 = y % 64) ↔ ((y : Int) = x) := by omega
      rw [this]
    · rename_i e
      constructor
      · exact .inl
      · rintro (h | h)
        · exact h
        · simp only [List.mem_singleton] at h; omega

/-- lists that are permutations -/
def Dist (n : Nat) (l : List Int) : Prop := (∀ y ∈ l, 0 ≤ y ∧ y < n) ∧ l.Nodup
def IsPerm (p : List Int) : Prop := 1 ≤ p.length ∧ p.length ≤ 512 ∧ Dist p.length p
instance (n : Nat) (l : List Int) : Decidable (Dist n l) := by unfold Dist; infer_instance
instance (p : List Int) : Decidable (IsPerm p) := by unfold IsPerm; infer_instance
theorem good_nil (n : Nat) : Dist n [] := ⟨by simp, by simp⟩
theorem take_succ_getD {α : Type} (l : List α) (d : α) {k : Nat} (h : k < l.length) : l.take (k + 1) = l.take k ++ [l.getD k d] := by
  rw [List.take_succ_eq_append_getElem h, List.getD_eq_getElem?_getD, List.getElem?_eq_getElem h]; rfl
theorem good_snoc {n : Nat} {l : List Int} {y : Int} : Dist n (l ++ [y]) ↔ Dist n l ∧ 0 ≤ y ∧ y < n ∧ y ∉ l := by
  unfold Dist
  simp only [List.mem_append, List.mem_singleton, List.nodup_append]
  constructor
  · rintro ⟨h1, h2, _, h3⟩
    exact ⟨⟨fun z hz => h1 z (.inl hz), h2⟩, (h1 y (.inr rfl)).1, (h1 y (.inr rfl)).2, fun hy => h3 y hy y rfl rfl⟩
  · rintro ⟨⟨h1, h2⟩, h3, h4, h5⟩
    refine ⟨?_, h2, by simp, fun a ha b hb => ?_⟩
    · rintro z (hz | rfl)
      · exact h1 z hz
      · exact ⟨h3, h4⟩
    · subst hb; exact fun e => h5 (e ▸ ha)
theorem good_take {n : Nat} {l : List Int} (h : Dist n l) (k : Nat) : Dist n (l.take k) :=
  ⟨fun y hy => h.1 y (List.mem_of_mem_take hy), h.2.sublist (List.take_sublist k l)⟩
end Go.PM
namespace Go.PM
theorem take_set_succ {α : Type} {l : List α} {k : Nat} {u : α} (h : k < l.length) : (l.set k u).take (k + 1) = l.take k ++ [u] := by
  rw [List.take_succ_eq_append_getElem (by simpa using h), List.take_set_of_le (Nat.le_refl k)]
  simp
theorem getD_mem {α : Type} {l : List α} {k : Nat} {d : α} (h : k < l.length) : l.getD k d ∈ l := by
  rw [List.getD_eq_getElem?_getD, List.getElem?_eq_getElem h]; exact List.getElem_mem h
theorem IsPerm.lt {p : List Int} (h : IsPerm p) {k : Nat} (hk : k < p.length) : 0 ≤ p.getD k 0 ∧ p.getD k 0 < p.length := h.2.2.1 _ (getD_mem hk)
/-- first p, then q -/
def mulP (p q : List Int) : List Int := p.map fun y => q.getD y.toNat 0
theorem mulP_length (p q : List Int) : (mulP p q).length = p.length := by simp [mulP]
theorem mulP_snoc {p q : List Int} {k : Nat} (h : k < p.length) : mulP (p.take (k + 1)) q = mulP (p.take k) q ++ [q.getD (p.getD k 0).toNat 0] := by
  rw [take_succ_getD p 0 h, mulP, List.map_append]; rfl
def composeF (p q : List Int) : List Int × Bool := if p.length = q.length ∧ IsPerm p ∧ IsPerm q then (mulP p q, true) else ([], false)
end Go.PM
namespace Go.PM
/-! making permutations -/
def idList (n : Nat) : List Int := (List.range n).map fun (k : Nat) => (k : Int)
theorem idList_length (n : Nat) : (idList n).length = n := by simp [idList]
theorem idList_succ (n : Nat) : idList (n + 1) = idList n ++ [(n : Int)] := by simp [idList, List.range_succ]
theorem idList_getD {n k : Nat} (h : k < n) : (idList n).getD k 0 = k := by simp [idList, List.getD_eq_getElem?_getD, h]
theorem nodup_iff {l : List Int} : l.Nodup ↔ ∀ i j, i < j → j < l.length → l.getD i 0 ≠ l.getD j 0 := by
  unfold List.Nodup
  rw [List.pairwise_iff_getElem]
  constructor
  · intro h i j hij hj
    have := h i j (by omega) hj hij
    simpa [List.getD_eq_getElem?_getD, hj, show i < l.length by omega] using this
  · intro h i j hi hj hij
    have := h i j hij hj
    simpa [List.getD_eq_getElem?_getD, hj, hi] using this
theorem mem_iff_getD {l : List Int} {y : Int} : y ∈ l ↔ ∃ k, k < l.length ∧ l.getD k 0 = y := by
  rw [List.mem_iff_getElem]
  constructor
  · rintro ⟨k, hk, rfl⟩; exact ⟨k, hk, by simp [List.getD_eq_getElem?_getD, hk]⟩
  · rintro ⟨k, hk, rfl⟩; exact ⟨k, hk, by simp [List.getD_eq_getElem?_getD, hk]⟩
theorem dist_iff {n : Nat} {l : List Int} : Dist n l ↔ (∀ k, k < l.length → 0 ≤ l.getD k 0 ∧ l.getD k 0 < n) ∧ ∀ i j, i < j → j < l.length → l.getD i 0 ≠ l.getD j 0 := by
  unfold Dist
  rw [nodup_iff]
  constructor
  · rintro ⟨h1, h2⟩; exact ⟨fun k hk => h1 _ (getD_mem hk), h2⟩
  · rintro ⟨h1, h2⟩
    refine ⟨fun y hy => ?_, h2⟩
    obtain ⟨k, hk, rfl⟩ := mem_iff_getD.1 hy
    exact h1 k hk
theorem ext_getD {l l' : List Int} (h : l.length = l'.length) (he : ∀ k, k < l.length → l.getD k 0 = l'.getD k 0) : l = l' := by
  apply List.ext_getElem h
  intro k h1 h2
  have := he k h1
  simpa [List.getD_eq_getElem?_getD, h1, h2] using this
def swapL (l : List Int) (i j : Nat) : List Int := (l.set i (l.getD j 0)).set j (l.getD i 0)
theorem swapL_length (l : List Int) (i j : Nat) : (swapL l i j).length = l.length := by simp [swapL]
theorem swapL_getD {l : List Int} {i j : Nat} (hi : i < l.length) (hj : j < l.length) (k : Nat) : (swapL l i j).getD k 0 = if k = j then l.getD i 0 else if k = i then l.getD j 0 else l.getD k 0 := by
  simp only [swapL, List.getD_eq_getElem?_getD, List.getElem?_set, List.length_set]
  by_cases h1 : k = j
  · subst h1; simp [hj]
  · rw [if_neg (Ne.symm h1), if_neg h1]
    by_cases h2 : k = i
    · subst h2; simp [hi]
    · rw [if_neg (Ne.symm h2), if_neg h2]
theorem swapL_dist {n : Nat} {l : List Int} {i j : Nat} (hi : i < l.length) (hj : j < l.length) (h : Dist n l) : Dist n (swapL l i j) := by
  rw [dist_iff] at *
  simp only [swapL_length, swapL_getD hi hj]
  obtain ⟨h1, h2⟩ := h
  have h2' : ∀ a b, a < l.length → b < l.length → a ≠ b → l.getD a 0 ≠ l.getD b 0 := fun a b ha hb hab => by
    rcases Nat.lt_or_gt_of_ne hab with h | h
    · exact h2 a b h hb
    · exact (h2 b a h ha).symm
  refine ⟨fun k hk => ?_, fun a b hab hb => ?_⟩
  · split
    · exact h1 i hi
    · split
      · exact h1 j hj
      · exact h1 k hk
  · split <;> split <;> (try split) <;> (try split) <;> first | omega | (apply h2' <;> omega)
theorem idList_dist (n : Nat) : Dist n (idList n) := by
  rw [dist_iff]
  simp only [idList_length]
  exact ⟨fun k hk => by rw [idList_getD hk]; omega, fun i j hij hj => by rw [idList_getD hj, idList_getD (by omega)]; omega⟩
/-- where a tape stands behind a Next -/
def tAt (L : List Int) (k : Nat) : Nat := if k < L.length then k + 1 else k
theorem tAt_le {L : List Int} {k : Nat} (h : k ≤ L.length) : tAt L k ≤ L.length := by unfold tAt; split <;> omega
def shuffle (L : List Int) : Nat → Nat → List Int → List Int
  | 0, _, out => out
  | i + 1, k, out => shuffle L i (tAt L k) (swapL out (i + 1) (i + 1 - (L.getD k 0 % 256 % ((i : Int) + 2)).toNat))
def permF (L : List Int) (n : Nat) : List Int := shuffle L (n - 1) 0 (idList n)
theorem shuffle_dist {L : List Int} {n : Nat} : ∀ (i k : Nat) (out : List Int), i < out.length → Dist n out → Dist n (shuffle L i k out) ∧ (shuffle L i k out).length = out.length
  | 0, _, out, _, h => ⟨h, rfl⟩
  | i + 1, k, out, hi, h => by
    have := shuffle_dist (L := L) (n := n) i (tAt L k) (swapL out (i + 1) (i + 1 - (L.getD k 0 % 256 % ((i : Int) + 2)).toNat)) (by rw [swapL_length]; omega) (swapL_dist hi (by omega) h)
    rw [swapL_length] at this
    exact this
theorem permF_length (L : List Int) {n : Nat} (h : 1 ≤ n) : (permF L n).length = n := by
  have := (shuffle_dist (L := L) (n := n) (n - 1) 0 (idList n) (by rw [idList_length]; omega) (idList_dist n)).2
  rw [idList_length] at this; exact this
theorem permF_isPerm (L : List Int) {n : Nat} (h : 1 ≤ n) (h2 : n ≤ 512) : IsPerm (permF L n) := by
  have := (shuffle_dist (L := L) (n := n) (n - 1) 0 (idList n) (by rw [idList_length]; omega) (idList_dist n)).1
  unfold IsPerm
  rw [permF_length L h]
  exact ⟨h, h2, this⟩
end Go.PM
