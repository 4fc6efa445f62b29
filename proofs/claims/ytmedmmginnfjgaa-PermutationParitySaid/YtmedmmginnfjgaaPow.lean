import Derived.Test.YtmedmmginnfjgaaPar
import Derived.Test.YtmedmmginnfjgaaX
/- Products and powers of permutations, and their orders. No program in sight. -/
namespace Go.PM
theorem mulP_perm {p q : List Int} (hp : IsPerm p) (hq : IsPerm q) (hl : p.length = q.length) : IsPerm (mulP p q) := by
  refine ⟨by rw [mulP_length]; exact hp.1, by rw [mulP_length]; exact hp.2.1, ?_⟩
  rw [mulP_length, dist_iff, mulP_length]
  refine ⟨fun k hk => ?_, fun i j hij hj => ?_⟩
  · rw [mulP_getD hk]
    have h1 := hp.lt hk
    have := hq.lt (k := (p.getD k 0).toNat) (by omega)
    omega
  · rw [mulP_getD (by omega), mulP_getD hj]
    have h1 := hp.lt (k := i) (by omega)
    have h2 := hp.lt hj
    have h3 := nodup_iff.1 hp.2.2.2 i j hij hj
    intro e
    have := ap_inj hq (x := p.getD i 0) (y := p.getD j 0) (by unfold In; omega) (by unfold In; omega) e
    exact h3 this
theorem composeF_perm {p q : List Int} (hp : IsPerm p) (hq : IsPerm q) (hl : p.length = q.length) : composeF p q = (mulP p q, true) := by rw [composeF, if_pos ⟨hl, hp, hq⟩]
/-- powers -/
def powL (p : List Int) (k : Nat) : List Int := (idList p.length).map fun y => it p k y
theorem powL_len (p : List Int) (k : Nat) : (powL p k).length = p.length := by simp [powL, idList_length]
theorem powL_getD {p : List Int} {k y : Nat} (h : y < p.length) : (powL p k).getD y 0 = it p k y := by
  have : y < (idList p.length).length := by rw [idList_length]; exact h
  have e := idList_getD h
  simp only [List.getD_eq_getElem?_getD] at e
  simp only [powL, List.getD_eq_getElem?_getD, List.getElem?_map]
  rw [List.getElem?_eq_getElem this] at e ⊢
  simp at e ⊢
  rw [e]
theorem powL_zero (p : List Int) : powL p 0 = idList p.length := by simp [powL, it]
theorem powL_perm {p : List Int} (hp : IsPerm p) (k : Nat) : IsPerm (powL p k) := by
  refine ⟨by rw [powL_len]; exact hp.1, by rw [powL_len]; exact hp.2.1, ?_⟩
  rw [powL_len, dist_iff, powL_len]
  refine ⟨fun y hy => ?_, fun i j hij hj => ?_⟩
  · rw [powL_getD hy]; exact it_in hp (by unfold In; omega) k
  · rw [powL_getD (by omega), powL_getD hj]
    intro e
    have := it_inj hp (x := (i : Int)) (y := (j : Int)) (by unfold In; omega) (by unfold In; omega) k e
    omega
theorem powL_succ (p : List Int) (hp : IsPerm p) (k : Nat) : mulP (powL p k) p = powL p (k + 1) := by
  apply ext_getD (by rw [mulP_length, powL_len, powL_len])
  intro y hy
  rw [mulP_length, powL_len] at hy
  rw [mulP_getD (by rw [powL_len]; exact hy), powL_getD hy, powL_getD hy]; rfl
theorem lcm_step (a b : Nat) (hb : 0 < b) : a * (b / Nat.gcd a b) = Nat.lcm a b := by
  rw [Nat.lcm, Nat.mul_div_assoc _ (Nat.gcd_dvd_right a b)]
theorem ordTo_dvd {l : List (List Int)} (m : Nat) : ∀ k, k ≤ l.length → (∀ i, i < l.length → 1 ≤ (l.getD i []).length) → (ordTo l k ∣ m ↔ ∀ i, i < k → (l.getD i []).length ∣ m)
  | 0, _, _ => by simp [ordTo]
  | k + 1, hk, hne => by
    have ih := ordTo_dvd m k (by omega) hne
    rw [ordTo, lcm_step _ _ (hne k (by omega))]
    constructor
    · intro h i hi
      by_cases hik : i = k
      · subst hik; exact Nat.dvd_trans (Nat.dvd_lcm_right _ _) h
      · exact ih.1 (Nat.dvd_trans (Nat.dvd_lcm_left _ _) h) i (by omega)
    · intro h
      exact Nat.lcm_dvd (ih.2 (fun i hi => h i (by omega))) (h k (by omega))
theorem ordTo_pos {l : List (List Int)} : ∀ k, k ≤ l.length → (∀ i, i < l.length → 1 ≤ (l.getD i []).length) → 1 ≤ ordTo l k
  | 0, _, _ => Nat.le_refl _
  | k + 1, hk, hne => by
    have ih := ordTo_pos (l := l) k (by omega) hne
    rw [ordTo, lcm_step _ _ (hne k (by omega))]
    exact Nat.lcm_pos (by omega) (hne k (by omega))
theorem order_dvd {p : List Int} (hp : IsPerm p) (m : Nat) : orderF p ∣ m ↔ ∀ y : Nat, y < p.length → it p m y = y := by
  rw [orderF, ordTo_dvd m _ (Nat.le_refl _) cycles_ne]
  constructor
  · intro h y hy
    have hin : In p (y : Int) := by unfold In; omega
    by_cases hap : ap p y = y
    · have h1 := (per_one hp hin).2 hap
      have h2 := (cyc_spec hp hin).1
      exact (it_eq_iff hp hin m).2 (by rw [show per p y = 1 by omega]; exact Nat.one_dvd m)
    · have hs : (y : Int) ∈ (cycGo p p.length).1 := (mem_seen hp _ (Nat.le_refl _) y).2 ⟨y, hy, hap, cyc_self hp hin⟩
      obtain ⟨_, hfl, hcy⟩ := cycGo_dist hp p.length (Nat.le_refl _)
      have e : cyclesF p = (cycGo p p.length).2 := by rw [cyclesF, if_pos hp]
      rw [hfl, List.mem_flatten] at hs
      obtain ⟨c, hc, hyc⟩ := hs
      obtain ⟨j, hj, _, rfl⟩ := hcy c hc
      have hj' : In p (j : Int) := by unfold In; omega
      obtain ⟨i, hi, hci⟩ := List.mem_iff_getElem.1 hc
      have hd := h i (by rw [e]; exact hi)
      rw [e, show (cycGo p p.length).2.getD i [] = cyc p j by rw [List.getD_eq_getElem?_getD, List.getElem?_eq_getElem hi, hci]; rfl] at hd
      have hjm := (it_eq_iff hp hj' m).2 hd
      obtain ⟨r, hr⟩ := (mem_cyc hp hj').1 hyc
      rw [← hr, ← it_add, Nat.add_comm, it_add, hjm]
  · intro h i hi
    obtain ⟨_, j, hj, _, hc⟩ := cycles_mem i hi
    rw [hc]
    have hj' : In p (j : Int) := by unfold In; omega
    exact (it_eq_iff hp hj' m).1 (h j hj)
theorem pow_id {p : List Int} (hp : IsPerm p) (k : Nat) : powL p k = idList p.length ↔ orderF p ∣ k := by
  rw [order_dvd hp]
  constructor
  · intro h y hy
    have := powL_getD (p := p) (k := k) hy
    rw [h, idList_getD hy] at this
    exact this.symm
  · intro h
    apply ext_getD (by rw [powL_len, idList_length])
    intro y hy
    rw [powL_len] at hy
    rw [powL_getD hy, idList_getD hy, h y hy]
theorem order_small {p : List Int} (h : p.length ≤ 9) : orderF p ≤ 27 := by
  have := ordTo_bound (p := p) (b := 28) (by decide) (by
    have : 3 ^ p.length ≤ 3 ^ 9 := Nat.pow_le_pow_right (by decide) h
    omega) (cyclesF p).length
  unfold orderF; omega
theorem order_pos (p : List Int) : 1 ≤ orderF p := ordTo_pos _ (Nat.le_refl _) cycles_ne
end Go.PM
