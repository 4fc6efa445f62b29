import Derived.Test.YtmedmmginnfjgaaBfs
/- Iterates and cycles of a permutation, in plain mathematics. -/
namespace Go.PM
def In (p : List Int) (x : Int) : Prop := 0 ≤ x ∧ x < p.length
def ap (p : List Int) (x : Int) : Int := p.getD x.toNat 0
def it (p : List Int) : Nat → Int → Int
  | 0, x => x
  | k + 1, x => ap p (it p k x)
theorem ap_in {p : List Int} (hp : IsPerm p) {x : Int} (h : In p x) : In p (ap p x) := hp.lt (k := x.toNat) (by unfold In at h; omega)
theorem ap_inj {p : List Int} (hp : IsPerm p) {x y : Int} (hx : In p x) (hy : In p y) (h : ap p x = ap p y) : x = y := by
  have hn := nodup_iff.1 hp.2.2.2
  unfold In at hx hy
  rcases Int.lt_trichotomy x y with h' | h' | h'
  · exact absurd h (hn x.toNat y.toNat (by omega) (by omega))
  · exact h'
  · exact absurd h.symm (hn y.toNat x.toNat (by omega) (by omega))
theorem it_in {p : List Int} (hp : IsPerm p) {x : Int} (h : In p x) : ∀ k, In p (it p k x)
  | 0 => h
  | k + 1 => ap_in hp (it_in hp h k)
theorem it_add (p : List Int) (a : Nat) (x : Int) : ∀ b, it p (b + a) x = it p b (it p a x)
  | 0 => by rw [Nat.zero_add]; rfl
  | b + 1 => by rw [show b + 1 + a = (b + a) + 1 by omega]; simp only [it]; rw [it_add p a x b]
theorem it_succ (p : List Int) (k : Nat) (x : Int) : it p (k + 1) x = it p k (ap p x) := it_add p 1 x k
theorem it_inj {p : List Int} (hp : IsPerm p) {x y : Int} (hx : In p x) (hy : In p y) : ∀ k, it p k x = it p k y → x = y
  | 0, h => h
  | k + 1, h => it_inj hp hx hy k (ap_inj hp (it_in hp hx k) (it_in hp hy k) h)
def itL (p : List Int) (x : Int) (L : Nat) : List Int := (List.range L).map fun k => it p k x
theorem itL_length (p : List Int) (x : Int) (L : Nat) : (itL p x L).length = L := by simp [itL]
theorem itL_succ (p : List Int) (x : Int) (L : Nat) : itL p x (L + 1) = itL p x L ++ [it p L x] := by simp [itL, List.range_succ]
theorem itL_getD {p : List Int} {x : Int} {L k : Nat} (h : k < L) : (itL p x L).getD k 0 = it p k x := by simp [itL, List.getD_eq_getElem?_getD, h]
theorem mem_itL {p : List Int} {x y : Int} {L : Nat} : y ∈ itL p x L ↔ ∃ k, k < L ∧ it p k x = y := by simp [itL]
theorem itL_dist {p : List Int} (hp : IsPerm p) {x : Int} (hx : In p x) {L : Nat} (h : (itL p x L).Nodup) : Dist p.length (itL p x L) :=
  ⟨fun y hy => by obtain ⟨k, _, rfl⟩ := mem_itL.1 hy; exact it_in hp hx k, h⟩
/-- the first iterate that comes a second time is the point itself -/
theorem first_back {p : List Int} (hp : IsPerm p) {x : Int} (hx : In p x) {k : Nat} (hn : (itL p x k).Nodup) : it p k x ∈ itL p x k ↔ 0 < k ∧ it p k x = x := by
  constructor
  · intro h
    obtain ⟨j, hj, e⟩ := mem_itL.1 h
    refine ⟨by omega, ?_⟩
    cases j with
    | zero => exact e.symm
    | succ j =>
      exfalso
      obtain ⟨k, rfl⟩ : ∃ k', k = k' + 1 := ⟨k - 1, by omega⟩
      have := ap_inj hp (it_in hp hx j) (it_in hp hx k) e
      have hn' := nodup_iff.1 hn j k (by omega) (by rw [itL_length]; omega)
      rw [itL_getD (by omega), itL_getD (by omega)] at hn'
      exact hn' this
  · rintro ⟨h0, e⟩
    exact mem_itL.2 ⟨0, h0, e.symm⟩
def followC (p : List Int) : Nat → Int → List Int → List Int
  | 0, _, acc => acc
  | f + 1, y, acc => if y ∈ acc then acc else followC p f (p.getD y.toNat 0) (acc ++ [y])
def cyc (p : List Int) (x : Int) : List Int := followC p (p.length + 1) x []
theorem follow_spec {p : List Int} (hp : IsPerm p) {x : Int} (hx : In p x) : ∀ (f k : Nat), k + f = p.length + 1 → (itL p x k).Nodup →
    ∃ L, 1 ≤ L ∧ L ≤ p.length ∧ followC p f (it p k x) (itL p x k) = itL p x L ∧ it p L x = x ∧ (itL p x L).Nodup
  | 0, k, hk, hn => by
    have := (itL_dist hp hx hn).length_le
    rw [itL_length] at this; omega
  | f + 1, k, hk, hn => by
    rw [followC]
    by_cases h : it p k x ∈ itL p x k
    · have hl := (itL_dist hp hx hn).length_le
      rw [itL_length] at hl
      obtain ⟨h0, h1⟩ := (first_back hp hx hn).1 h
      exact ⟨k, h0, hl, by rw [if_pos h], h1, hn⟩
    · rw [if_neg h, ← itL_succ]
      refine follow_spec hp hx f (k + 1) (by omega) ?_
      rw [itL_succ, List.nodup_append]
      exact ⟨hn, by simp, fun a ha b hb e => by simp only [List.mem_singleton] at hb; subst hb; subst e; exact h ha⟩
def per (p : List Int) (x : Int) : Nat := (cyc p x).length
theorem cyc_spec {p : List Int} (hp : IsPerm p) {x : Int} (hx : In p x) : 1 ≤ per p x ∧ per p x ≤ p.length ∧ cyc p x = itL p x (per p x) ∧ it p (per p x) x = x ∧ (itL p x (per p x)).Nodup := by
  obtain ⟨L, h1, h2, h3, h4, h5⟩ := follow_spec hp hx (p.length + 1) 0 (by omega) (by simp [itL])
  have e : per p x = L := by
    unfold per cyc
    rw [show followC p (p.length + 1) x [] = itL p x L from h3, itL_length]
  rw [e]
  exact ⟨h1, h2, h3, h4, h5⟩
theorem it_mul {p : List Int} {x : Int} {L : Nat} (h : it p L x = x) : ∀ m, it p (m * L) x = x
  | 0 => by rw [Nat.zero_mul]; rfl
  | m + 1 => by rw [Nat.succ_mul, it_add, h, it_mul h m]
theorem it_mod {p : List Int} {x : Int} {L : Nat} (h : it p L x = x) (k : Nat) : it p k x = it p (k % L) x := by
  conv => lhs; rw [← Nat.mod_add_div k L, Nat.mul_comm L, it_add, it_mul h]
theorem it_eq_iff {p : List Int} (hp : IsPerm p) {x : Int} (hx : In p x) (k : Nat) : it p k x = x ↔ per p x ∣ k := by
  obtain ⟨h1, h2, h3, h4, h5⟩ := cyc_spec hp hx
  constructor
  · intro h
    rw [it_mod h4] at h
    rcases Nat.eq_zero_or_pos (k % per p x) with h0 | h0
    · exact Nat.dvd_of_mod_eq_zero h0
    · exfalso
      have := nodup_iff.1 h5 0 (k % per p x) h0 (by rw [itL_length]; exact Nat.mod_lt _ (by omega))
      rw [itL_getD (by omega), itL_getD (Nat.mod_lt _ (by omega))] at this
      exact this h.symm
  · rintro ⟨m, rfl⟩
    rw [Nat.mul_comm]; exact it_mul h4 m
theorem mem_cyc {p : List Int} (hp : IsPerm p) {x y : Int} (hx : In p x) : y ∈ cyc p x ↔ ∃ k, it p k x = y := by
  obtain ⟨h1, h2, h3, h4, h5⟩ := cyc_spec hp hx
  rw [h3, mem_itL]
  constructor
  · rintro ⟨k, _, e⟩; exact ⟨k, e⟩
  · rintro ⟨k, e⟩; exact ⟨k % per p x, Nat.mod_lt _ (by omega), by rw [← it_mod h4]; exact e⟩
theorem cyc_self {p : List Int} (hp : IsPerm p) {x : Int} (hx : In p x) : x ∈ cyc p x := (mem_cyc hp hx).2 ⟨0, rfl⟩
theorem cyc_in {p : List Int} (hp : IsPerm p) {x y : Int} (hx : In p x) (h : y ∈ cyc p x) : In p y := by obtain ⟨k, rfl⟩ := (mem_cyc hp hx).1 h; exact it_in hp hx k
theorem cyc_symm {p : List Int} (hp : IsPerm p) {x y : Int} (hx : In p x) (h : y ∈ cyc p x) : x ∈ cyc p y := by
  have hy := cyc_in hp hx h
  obtain ⟨h1, h2, h3, h4, h5⟩ := cyc_spec hp hx
  rw [h3] at h
  obtain ⟨k, hk, rfl⟩ := mem_itL.1 h
  exact (mem_cyc hp hy).2 ⟨per p x - k, by rw [← it_add, show per p x - k + k = per p x by omega, h4]⟩
theorem cyc_trans {p : List Int} (hp : IsPerm p) {x y z : Int} (hx : In p x) (h : y ∈ cyc p x) (h' : z ∈ cyc p y) : z ∈ cyc p x := by
  have hy := cyc_in hp hx h
  obtain ⟨k, rfl⟩ := (mem_cyc hp hx).1 h
  obtain ⟨m, rfl⟩ := (mem_cyc hp hy).1 h'
  exact (mem_cyc hp hx).2 ⟨m + k, it_add p k x m⟩
theorem per_one {p : List Int} (hp : IsPerm p) {x : Int} (hx : In p x) : per p x ≤ 1 ↔ ap p x = x := by
  have h := (cyc_spec hp hx).1
  have hi := it_eq_iff hp hx 1
  constructor
  · intro h'; exact hi.2 ⟨1, by omega⟩
  · intro h'; exact Nat.le_of_dvd (by omega) (hi.1 h')
/-! the list of the cycles, as the program finds them -/
def cycGo (p : List Int) : Nat → List Int × List (List Int)
  | 0 => ([], [])
  | k + 1 => if (k : Int) ∈ (cycGo p k).1 ∨ p.getD k 0 = k then cycGo p k else ((cycGo p k).1 ++ cyc p k, (cycGo p k).2 ++ [cyc p k])
def cyclesF (p : List Int) : List (List Int) := if IsPerm p then (cycGo p p.length).2 else []
theorem cyc_dist {p : List Int} (hp : IsPerm p) : ∀ (f : Nat) (y : Int) (acc : List Int), 0 ≤ y → y < p.length → Dist p.length acc → Dist p.length (followC p f y acc)
  | 0, _, _, _, _, h => h
  | f + 1, y, acc, h0, h1, h => by
    rw [followC]
    split
    · exact h
    · rename_i hn
      have := hp.lt (k := y.toNat) (by omega)
      exact cyc_dist hp f _ _ this.1 this.2 (good_snoc.2 ⟨h, h0, h1, hn⟩)
theorem cycGo_len {p : List Int} (hp : IsPerm p) : ∀ k, k ≤ p.length → (cycGo p k).2.length ≤ k ∧ ∀ i, ((cycGo p k).2.getD i []).length ≤ p.length
  | 0, _ => by simp [cycGo]
  | k + 1, hk => by
    have ih := cycGo_len hp k (by omega)
    rw [cycGo]
    split
    · exact ⟨by omega, ih.2⟩
    · refine ⟨by simp; omega, fun i => ?_⟩
      have hd := (cyc_dist hp (p.length + 1) k [] (by omega) (by omega) (good_nil _)).length_le
      simp only [List.getD_eq_getElem?_getD, List.getElem?_append]
      split
      · have := ih.2 i; simpa [List.getD_eq_getElem?_getD] using this
      · cases h2 : i - (cycGo p k).2.length with
        | zero => simpa [cyc] using hd
        | succ m => simp
/-! the same list, as the reference finds it -/
def leastB (l : List Int) : Bool := l.all fun y => decide (l.getD 0 0 ≤ y)
def cycSel (p : List Int) (k : Nat) : Bool := decide (1 < (cyc p k).length) && leastB (cyc p k)
def cycR (p : List Int) : Nat → List (List Int)
  | 0 => []
  | k + 1 => if cycSel p k then cycR p k ++ [cyc p k] else cycR p k
theorem cyc_head {p : List Int} (hp : IsPerm p) {x : Int} (hx : In p x) : (cyc p x).getD 0 0 = x := by
  obtain ⟨h1, h2, h3, h4, h5⟩ := cyc_spec hp hx
  rw [h3, itL_getD (by omega)]; rfl
theorem least_iff {p : List Int} (hp : IsPerm p) {x : Int} (hx : In p x) : leastB (cyc p x) = true ↔ ∀ y ∈ cyc p x, x ≤ y := by
  unfold leastB
  rw [cyc_head hp hx, List.all_eq_true]
  simp
/-- what is seen ahead of point k: the points of cycles with a point below k that moves -/
theorem mem_seen {p : List Int} (hp : IsPerm p) : ∀ k, k ≤ p.length → ∀ y, y ∈ (cycGo p k).1 ↔ ∃ j : Nat, j < k ∧ ap p j ≠ j ∧ y ∈ cyc p j
  | 0, _, y => by simp [cycGo]
  | k + 1, hk, y => by
    have ih := mem_seen hp k (by omega)
    have hkin : In p (k : Int) := by unfold In; omega
    rw [cycGo]
    split
    · rename_i h
      rw [ih y]
      constructor
      · rintro ⟨j, hj, h1, h2⟩; exact ⟨j, by omega, h1, h2⟩
      · rintro ⟨j, hj, h1, h2⟩
        by_cases hjk : j = k
        · subst hjk
          rcases h with h | h
          · obtain ⟨i, hi, h3, h4⟩ := (ih _).1 h
            have hin : In p (i : Int) := by unfold In; omega
            exact ⟨i, hi, h3, cyc_trans hp hin h4 h2⟩
          · exact absurd (by unfold ap; simpa using h) h1
        · exact ⟨j, by omega, h1, h2⟩
    · rename_i h
      simp only [List.mem_append, ih y]
      constructor
      · rintro (⟨j, hj, h1, h2⟩ | h2)
        · exact ⟨j, by omega, h1, h2⟩
        · exact ⟨k, by omega, fun e => h (.inr (by unfold ap at e; simpa using e)), h2⟩
      · rintro ⟨j, hj, h1, h2⟩
        by_cases hjk : j = k
        · subst hjk; exact .inr h2
        · exact .inl ⟨j, by omega, h1, h2⟩
theorem cycSel_iff {p : List Int} (hp : IsPerm p) {k : Nat} (hk : k < p.length) : cycSel p k = true ↔ ¬ ((k : Int) ∈ (cycGo p k).1 ∨ p.getD k 0 = k) := by
  have hin : In p (k : Int) := by unfold In; omega
  have h1 := per_one hp hin
  have e : ap p (k : Int) = p.getD k 0 := by unfold ap; simp
  rw [e] at h1
  unfold cycSel
  rw [Bool.and_eq_true, decide_eq_true_eq, least_iff hp hin, mem_seen hp k (by omega)]
  show 1 < per p k ∧ _ ↔ _
  constructor
  · rintro ⟨h2, h3⟩ (⟨j, hj, h4, h5⟩ | h4)
    · have hj' : In p (j : Int) := by unfold In; omega
      have := h3 j (cyc_symm hp hj' h5)
      omega
    · have := h1.2 h4; omega
  · intro h
    rw [not_or] at h
    have h2 : 1 < per p k := by
      rcases Nat.lt_or_ge 1 (per p k) with h' | h'
      · exact h'
      · exact absurd (h1.1 h') h.2
    refine ⟨h2, fun y hy => ?_⟩
    rcases Int.lt_or_le y k with hlt | hle
    · exfalso
      have hy' := cyc_in hp hin hy
      obtain ⟨j, rfl⟩ := Int.eq_ofNat_of_zero_le hy'.1
      have hc := cyc_symm hp hin hy
      refine h.1 ⟨j, by omega, fun e2 => ?_, hc⟩
      have h3 := (per_one hp hy').2 e2
      obtain ⟨m, hm⟩ := (mem_cyc hp hy').1 hc
      have h4 := (cyc_spec hp hy').1
      have : per p (j : Int) = 1 := by omega
      have h5 := (it_eq_iff hp hy' m).2 (by rw [this]; exact Nat.one_dvd m)
      rw [h5] at hm
      omega
    · exact hle
theorem cycR_eq {p : List Int} (hp : IsPerm p) : ∀ k, k ≤ p.length → cycR p k = (cycGo p k).2
  | 0, _ => rfl
  | k + 1, hk => by
    rw [cycR, cycGo, cycR_eq hp k (by omega)]
    by_cases h : cycSel p k = true
    · rw [if_pos h, if_neg ((cycSel_iff hp (by omega)).1 h)]
    · rw [if_neg h, if_pos (by
        by_cases h2 : ((k : Int) ∈ (cycGo p k).1 ∨ p.getD k 0 = k)
        · exact h2
        · exact absurd ((cycSel_iff hp (by omega)).2 h2) h)]
end Go.PM
