
import Derived.Test.YthhfjagnmhhapaaGreatE01
import Derived.Test.YthhfjagnmhhapaaGreatE02
import Derived.Test.YthhfjagnmhhapaaGreatE03

/- Products and powers of permutations, and their orders. No program in sight. -/
namespace Go.PM
theorem mulP_perm {p q : List Int} (hp : IsPerm p) (hq : IsPerm q) (hl : p.length = q.length) : IsPerm (mulP p q) := by
  refine ⟨by rw [mulP_length]; exact hp.1, by rw [mulP_length]; exact hp.2.1, ?_⟩
  rw [mulP_length, dist_iff, mulP_length]
  refine ⟨fun k hk => ?_, fun i j hij hj => ?_⟩
  · rw [mulP_getD hk]
    have h1 := hp.lt hk
    have := hq.lt (k := (p.getD k 0).toNat) (by omega)
    omega
  · rw [mulP_getD (by omega), mulP_getD hj]
    have h1 := hp.lt (k := i) (by omega)
    have h2 := hp.lt hj
    have h3 := nodup_iff.1 hp.2.2.2 i j hij hj
    intro e
    have := ap_inj hq (x := p.getD i 0) (y := p.getD j 0) (by unfold In; omega) (by unfold In; omega) e
    exact h3 this
/-- powers -/
def powL (p : List Int) (k : Nat) : List Int := (idList p.length).map fun y => it p k y
theorem powL_len (p : List Int) (k : Nat) : (powL p k).length = p.length := by simp [powL, idList_length]
theorem powL_getD {p : List Int} {k y : Nat} (h : y < p.length) : (powL p k).getD y 0 = it p k y := by
  have : y < (idList p.length).length := by rw [idList_length]; exact h
  have e := idList_getD h
  simp only [List.getD_eq_getElem?_getD] at e
  simp only [powL, List.getD_eq_getElem?_getD, List.getElem?_map]
  rw [List.getElem?_eq_getElem this] at e ⊢
  simp at e ⊢
  rw [e]
theorem powL_zero (p : List Int) : powL p 0 = idList p.length := by simp [powL, it]
theorem powL_perm {p : List Int} (hp : IsPerm p) (k : Nat) : IsPerm (powL p k) := by
  refine ⟨by rw [powL_len]; exact hp.1, by rw [powL_len]; exact hp.2.1, ?_⟩
  rw [powL_len, dist_iff, powL_len]
  refine ⟨fun y hy => ?_, fun i j hij hj => ?_⟩
  · rw [powL_getD hy]; exact it_in hp (by unfold In; omega) k
  · rw [powL_getD (by omega), powL_getD hj]
    intro e
    have := it_inj hp (x := (i : Int)) (y := (j : Int)) (by unfold In; omega) (by unfold In; omega) k e
    omega
theorem powL_succ (p : List Int) (_hp : IsPerm p) (k : Nat) : mulP (powL p k) p = powL p (k + 1) := by
  apply ext_getD (by rw [mulP_length, powL_len, powL_len])
  intro y hy
  rw [mulP_length, powL_len] at hy
  rw [mulP_getD (by rw [powL_len]; exact hy), powL_getD hy, powL_getD hy]; rfl
theorem lcm_step (a b : Nat) (_hb : 0 < b) : a * (b / Nat.gcd a b) = Nat.lcm a b := by
  rw [Nat.lcm, Nat.mul_div_assoc _ (Nat.gcd_dvd_right a b)]
theorem ordTo_dvd {l : List (List Int)} (m : Nat) : ∀ k, k ≤ l.length → (∀ i, i < l.length → 1 ≤ (l.getD i []).length) → (ordTo l k ∣ m ↔ ∀ i, i < k → (l.getD i []).length ∣ m)
  | 0, _, _ => by simp [ordTo]
  | k + 1, hk, hne => by
    have ih := ordTo_dvd m k (by omega) hne
    rw [ordTo, lcm_step _ _ (hne k (by omega))]
    constructor
    · intro h i hi
      by_cases hik : i = k
      · subst hik; exact Nat.dvd_trans (Nat.dvd_lcm_right _ _) h
      · exact ih.1 (Nat.dvd_trans (Nat.dvd_lcm_left _ _) h) i (by omega)
    · intro h
      exact Nat.lcm_dvd (ih.2 (fun i hi => h i (by omega))) (h k (by omega))
theorem ordTo_pos {l : List (List Int)} : ∀ k, k ≤ l.length → (∀ i, i < l.length → 1 ≤ (l.getD i []).length) → 1 ≤ ordTo l k
  | 0, _, _ => Nat.le_refl _
  | k + 1, hk, hne => by
    have ih := ordTo_pos (l := l) k (by omega) hne
    rw [ordTo, lcm_step _ _ (hne k (by omega))]
    exact Nat.lcm_pos (by omega) (hne k (by omega))
theorem order_dvd {p : List Int} (hp : IsPerm p) (m : Nat) : orderF p ∣ m ↔ ∀ y : Nat, y < p.length → it p m y = y := by
  rw [orderF, ordTo_dvd m _ (Nat.le_refl _) cycles_ne]
  constructor
  · intro h y hy
    have hin : In p (y : Int) := by unfold In; omega
    by_cases hap : ap p y = y
    · have h1 := (per_one hp hin).2 hap
      have h2 := (cyc_spec hp hin).1
      exact (it_eq_iff hp hin m).2 (by rw [show per p y = 1 by omega]; exact Nat.one_dvd m)
    · have hs : (y : Int) ∈ (cycGo p p.length).1 := (mem_seen hp _ (Nat.le_refl _) y).2 ⟨y, hy, hap, cyc_self hp hin⟩
      obtain ⟨_, hfl, hcy⟩ := cycGo_dist hp p.length (Nat.le_refl _)
      have e : cyclesF p = (cycGo p p.length).2 := by rw [cyclesF, if_pos hp]
      rw [hfl, List.mem_flatten] at hs
      obtain ⟨c, hc, hyc⟩ := hs
      obtain ⟨j, hj, _, rfl⟩ := hcy c hc
      have hj' : In p (j : Int) := by unfold In; omega
      obtain ⟨i, hi, hci⟩ := List.mem_iff_getElem.1 hc
      have hd := h i (by rw [e]; exact hi)
      rw [e, show (cycGo p p.length).2.getD i [] = cyc p j by rw [List.getD_eq_getElem?_getD, List.getElem?_eq_getElem hi, hci]; rfl] at hd
      have hjm := (it_eq_iff hp hj' m).2 hd
      obtain ⟨r, hr⟩ := (mem_cyc hp hj').1 hyc
      rw [← hr, ← it_add, Nat.add_comm, it_add, hjm]
  · intro h i hi
    obtain ⟨_, j, hj, _, hc⟩ := cycles_mem i hi
    rw [hc]
    have hj' : In p (j : Int) := by unfold In; omega
    exact (it_eq_iff hp hj' m).1 (h j hj)
theorem pow_id {p : List Int} (hp : IsPerm p) (k : Nat) : powL p k = idList p.length ↔ orderF p ∣ k := by
  rw [order_dvd hp]
  constructor
  · intro h y hy
    have := powL_getD (p := p) (k := k) hy
    rw [h, idList_getD hy] at this
    exact this.symm
  · intro h
    apply ext_getD (by rw [powL_len, idList_length])
    intro y hy
    rw [powL_len] at hy
    rw [powL_getD hy, idList_getD hy, h y hy]
theorem order_pos (p : List Int) : 1 ≤ orderF p := ordTo_pos _ (Nat.le_refl _) cycles_ne
end Go.PM

/- Orbits: what the breadth-first search finds. No program in sight. -/
namespace Go.PM
inductive Reach (gens : List (List Int)) (x : Int) : Int → Prop
  | refl : Reach gens x x
  | step {y : Int} (p : List Int) (hp : p ∈ gens) (h : Reach gens x y) : Reach gens x (ap p y)
theorem Gens.ap_in {n : Nat} {gens : List (List Int)} (hG : Gens n gens) {p : List Int} (hp : p ∈ gens) {x : Int} (hx : 0 ≤ x ∧ x < n) : 0 ≤ ap p x ∧ ap p x < n := by
  obtain ⟨h1, h2⟩ := hG p hp
  have := PM.ap_in h2 (x := x) (by unfold In; omega)
  unfold In at this; omega
theorem Reach.in {n : Nat} {gens : List (List Int)} (hG : Gens n gens) {x y : Int} (hx : 0 ≤ x ∧ x < n) (h : Reach gens x y) : 0 ≤ y ∧ y < n := by
  induction h with
  | refl => exact hx
  | step p hp _ ih => exact hG.ap_in hp ih
/-! soundness -/
/-! completeness -/
/-! orbits as sets -/
/-! errors and results -/
def grpF (n : Int) (gens : List (List Int)) : Int := if n < 1 ∨ 512 < n then 1 else if 64 < gens.length then 7 else if gensOK n gens then 0 else 3
/-! edges -/
end Go.PM

/- Groups of permutations in plain Lean: products, inverses, orbits, stabilizers, numbers of elements. No program in sight. -/
namespace Go.PM
/-- p is a permutation of n points -/
def PermN (n : Nat) (p : List Int) : Prop := IsPerm p ∧ p.length = n
theorem PermN.in {n : Nat} {p : List Int} (h : PermN n p) {x : Int} : In p x ↔ 0 ≤ x ∧ x < n := by unfold In; rw [h.2]
theorem PermN.ap {n : Nat} {p : List Int} (h : PermN n p) {x : Int} (hx : 0 ≤ x ∧ x < n) : 0 ≤ PM.ap p x ∧ PM.ap p x < n := h.in.1 (ap_in h.1 (h.in.2 hx))
theorem PermN.inj {n : Nat} {p : List Int} (h : PermN n p) {x y : Int} (hx : 0 ≤ x ∧ x < n) (hy : 0 ≤ y ∧ y < n) (he : PM.ap p x = PM.ap p y) : x = y := ap_inj h.1 (h.in.2 hx) (h.in.2 hy) he
theorem PermN.n1 {n : Nat} {p : List Int} (h : PermN n p) : 1 ≤ n ∧ n ≤ 512 := by have := h.1.1; have := h.1.2.1; rw [h.2] at *; omega
theorem PermN.mul {n : Nat} {p q : List Int} (hp : PermN n p) (hq : PermN n q) : PermN n (mulP p q) := ⟨mulP_perm hp.1 hq.1 (by rw [hp.2, hq.2]), by rw [mulP_length, hp.2]⟩
theorem permN_id {n : Nat} (h : 1 ≤ n ∧ n ≤ 512) : PermN n (idList n) := ⟨⟨by rw [idList_length]; omega, by rw [idList_length]; omega, by rw [idList_length]; exact idList_dist n⟩, idList_length n⟩
theorem ap_id {n : Nat} {x : Int} (hx : 0 ≤ x ∧ x < n) : ap (idList n) x = x := by
  unfold ap; rw [idList_getD (by omega)]; omega
theorem ap_mul {n : Nat} {p q : List Int} (hp : PermN n p) {x : Int} (hx : 0 ≤ x ∧ x < n) : ap (mulP p q) x = ap q (ap p x) := by
  unfold ap; rw [mulP_getD (by rw [hp.2]; omega)]
theorem perm_ext {n : Nat} {p q : List Int} (hp : p.length = n) (hq : q.length = n) (h : ∀ x : Int, 0 ≤ x → x < n → ap p x = ap q x) : p = q := by
  apply ext_getD (by rw [hp, hq])
  intro k hk
  have := h (k : Int) (by omega) (by omega)
  simpa only [ap, Int.toNat_natCast] using this
theorem mul_assoc {n : Nat} {p q r : List Int} (hp : PermN n p) (hq : PermN n q) : mulP (mulP p q) r = mulP p (mulP q r) := by
  apply perm_ext (n := n) (by rw [mulP_length, mulP_length, hp.2]) (by rw [mulP_length, hp.2])
  intro x h0 h1
  rw [ap_mul (hp.mul hq) ⟨h0, h1⟩, ap_mul hp ⟨h0, h1⟩, ap_mul hp ⟨h0, h1⟩, ap_mul hq (hp.ap ⟨h0, h1⟩)]
theorem one_mul {n : Nat} {p : List Int} (hp : PermN n p) : mulP (idList n) p = p := mulP_id hp.2
theorem mul_one {n : Nat} {p : List Int} (hp : PermN n p) : mulP p (idList n) = p := by
  apply perm_ext (n := n) (by rw [mulP_length, hp.2]) hp.2
  intro x h0 h1
  rw [ap_mul hp ⟨h0, h1⟩, ap_id (hp.ap ⟨h0, h1⟩)]
/-- the inverse -/
def inv (p : List Int) : List Int := powL p (orderF p - 1)
theorem PermN.inv {n : Nat} {p : List Int} (h : PermN n p) : PermN n (inv p) := ⟨powL_perm h.1 _, by unfold PM.inv; rw [powL_len, h.2]⟩
theorem inv_mul {n : Nat} {p : List Int} (h : PermN n p) : mulP (inv p) p = idList n := by
  unfold inv
  rw [powL_succ p h.1, Nat.sub_add_cancel (order_pos p), (pow_id h.1 _).2 (Nat.dvd_refl _), h.2]
theorem mul_inv {n : Nat} {p : List Int} (h : PermN n p) : mulP p (inv p) = idList n := by
  apply perm_ext (n := n) (by rw [mulP_length, h.2]) (idList_length n)
  intro x h0 h1
  rw [ap_mul h ⟨h0, h1⟩, ap_id ⟨h0, h1⟩]
  have hy := h.ap ⟨h0, h1⟩
  have := h.inv.ap hy
  apply h.inj this ⟨h0, h1⟩
  rw [← ap_mul h.inv hy, inv_mul h, ap_id hy]
theorem ap_inv {n : Nat} {p : List Int} (h : PermN n p) {x : Int} (hx : 0 ≤ x ∧ x < n) : ap (inv p) (ap p x) = x := by rw [← ap_mul h hx, mul_inv h, ap_id hx]
theorem ap_inv' {n : Nat} {p : List Int} (h : PermN n p) {x : Int} (hx : 0 ≤ x ∧ x < n) : ap p (ap (inv p) x) = x := by rw [← ap_mul h.inv hx, inv_mul h, ap_id hx]
theorem mul_cancel {n : Nat} {p q r : List Int} (hp : PermN n p) (hq : PermN n q) (hr : PermN n r) (h : mulP p r = mulP q r) : p = q := by
  have e : ∀ s, PermN n s → mulP (mulP s r) (inv r) = s := fun s hs => by rw [mul_assoc hs hr, mul_inv hr, mul_one hs]
  rw [← e p hp, h, e q hq]
theorem eq_inv {n : Nat} {p q : List Int} (hp : PermN n p) (hq : PermN n q) (h : mulP p q = idList n) : q = inv p := by
  rw [← one_mul hq, ← inv_mul hp, mul_assoc hp.inv hp, h, mul_one hp.inv]
theorem inv_of_ap {n : Nat} {p q : List Int} (hp : PermN n p) (hq : q.length = n) (h : ∀ x : Int, 0 ≤ x → x < n → ap q (ap p x) = x) : q = inv p := by
  apply perm_ext hq hp.inv.2
  intro x h0 h1
  have hy := hp.inv.ap ⟨h0, h1⟩
  rw [← h _ hy.1 hy.2, ap_inv' hp ⟨h0, h1⟩]
theorem inv_inv {n : Nat} {p : List Int} (h : PermN n p) : inv (inv p) = p := (eq_inv h.inv h (inv_mul h)).symm
theorem inv_one {n : Nat} (h : 1 ≤ n ∧ n ≤ 512) : inv (idList n) = idList n := (eq_inv (permN_id h) (permN_id h) (one_mul (permN_id h))).symm
/-- the point is moved: the first moved point, or -1 -/
theorem id_iff {n : Nat} {p : List Int} (h : PermN n p) : p = idList n ↔ ∀ x : Int, 0 ≤ x → x < n → ap p x = x := by
  constructor
  · rintro rfl x h0 h1; exact ap_id ⟨h0, h1⟩
  · intro h'; exact perm_ext h.2 (idList_length n) fun x h0 h1 => by rw [h' x h0 h1, ap_id ⟨h0, h1⟩]

/-- a group of permutations of n points, as the set of its elements -/
structure Grp (n : Nat) (H : List Int → Prop) : Prop where
  perm : ∀ p, H p → PermN n p
  one : H (idList n)
  mul : ∀ p q, H p → H q → H (mulP p q)
theorem Grp.n1 {n : Nat} {H : List Int → Prop} (h : Grp n H) : 1 ≤ n ∧ n ≤ 512 := (h.perm _ h.one).n1
theorem Grp.pow {n : Nat} {H : List Int → Prop} (h : Grp n H) {p : List Int} (hp : H p) : ∀ k, H (powL p k)
  | 0 => by rw [powL_zero, (h.perm p hp).2]; exact h.one
  | k + 1 => by rw [← powL_succ p (h.perm p hp).1]; exact h.mul _ _ (h.pow hp k) hp
theorem Grp.inv {n : Nat} {H : List Int → Prop} (h : Grp n H) {p : List Int} (hp : H p) : H (inv p) := h.pow hp _
theorem Grp.mul_right {n : Nat} {H : List Int → Prop} (h : Grp n H) {p q : List Int} (hp : PermN n p) (hq : H q) : H (mulP p q) ↔ H p := by
  constructor
  · intro hm
    have := h.mul _ _ hm (h.inv hq)
    rwa [mul_assoc hp (h.perm q hq), mul_inv (h.perm q hq), mul_one hp] at this
  · intro h'; exact h.mul _ _ h' hq
/-- the group that the list generates -/
inductive Gen (n : Nat) (gens : List (List Int)) : List Int → Prop
  | one : Gen n gens (idList n)
  | mul {p g : List Int} (h : Gen n gens p) (hg : g ∈ gens) : Gen n gens (mulP p g)
def GensN (n : Nat) (gens : List (List Int)) : Prop := ∀ g ∈ gens, PermN n g
theorem GensN.gens {n : Nat} {gens : List (List Int)} (h : GensN n gens) : Gens n gens := fun p hp => ⟨(h p hp).2, (h p hp).1⟩
theorem Gens.n {n : Nat} {gens : List (List Int)} (h : Gens n gens) : GensN n gens := fun p hp => ⟨(h p hp).2, (h p hp).1⟩
theorem Gen.perm {n : Nat} {gens : List (List Int)} (h1 : 1 ≤ n ∧ n ≤ 512) (hg : GensN n gens) {p : List Int} (h : Gen n gens p) : PermN n p := by
  induction h with
  | one => exact permN_id h1
  | mul _ hm ih => exact ih.mul (hg _ hm)
theorem gen_grp {n : Nat} {gens : List (List Int)} (h1 : 1 ≤ n ∧ n ≤ 512) (hg : GensN n gens) : Grp n (Gen n gens) where
  perm := fun _ h => h.perm h1 hg
  one := .one
  mul := fun p q hp hq => by
    induction hq with
    | one => rw [mul_one (hp.perm h1 hg)]; exact hp
    | mul hq' hm ih => rw [← mul_assoc (hp.perm h1 hg) (hq'.perm h1 hg)]; exact .mul ih hm
theorem gen_self {n : Nat} {gens : List (List Int)} (hg : GensN n gens) {g : List Int} (h : g ∈ gens) : Gen n gens g := by
  have := Gen.mul (Gen.one (n := n) (gens := gens)) h
  rwa [one_mul (hg g h)] at this
theorem gen_le {n : Nat} {gens : List (List Int)} {H : List Int → Prop} (hH : Grp n H) (h : ∀ g ∈ gens, H g) {p : List Int} (hp : Gen n gens p) : H p := by
  induction hp with
  | one => exact hH.one
  | mul _ hm ih => exact hH.mul _ _ ih (h _ hm)
theorem gen_mono {n : Nat} {gens gens' : List (List Int)} (h : ∀ g ∈ gens, g ∈ gens') {p : List Int} (hp : Gen n gens p) : Gen n gens' p := by
  induction hp with
  | one => exact .one
  | mul _ hm ih => exact .mul ih (h _ hm)
theorem gen_congr {n : Nat} {gens gens' : List (List Int)} (h1 : 1 ≤ n ∧ n ≤ 512) (hg : GensN n gens) (hg' : GensN n gens') (h : ∀ g ∈ gens, Gen n gens' g) (h' : ∀ g ∈ gens', Gen n gens g) (p : List Int) : Gen n gens p ↔ Gen n gens' p :=
  ⟨gen_le (gen_grp h1 hg') h, gen_le (gen_grp h1 hg) h'⟩
theorem gen_nil {n : Nat} {p : List Int} : Gen n [] p ↔ p = idList n := by
  constructor
  · intro h; cases h with
    | one => rfl
    | mul _ hm => simp at hm
  · rintro rfl; exact .one
/-- orbits -/
theorem gen_reach {n : Nat} {gens : List (List Int)} (h1 : 1 ≤ n ∧ n ≤ 512) (hg : GensN n gens) {x : Int} (hx : 0 ≤ x ∧ x < n) (y : Int) : Reach gens x y ↔ ∃ p, Gen n gens p ∧ ap p x = y := by
  constructor
  · intro h
    induction h with
    | refl => exact ⟨_, .one, ap_id hx⟩
    | step p hp _ ih =>
      obtain ⟨q, hq, rfl⟩ := ih
      exact ⟨_, .mul hq hp, ap_mul (hq.perm h1 hg) hx⟩
  · rintro ⟨p, hp, rfl⟩
    induction hp with
    | one => rw [ap_id hx]; exact .refl
    | mul hq hm ih => rw [ap_mul (hq.perm h1 hg) hx]; exact .step _ hm ih
def Stab (H : List Int → Prop) (x : Int) (p : List Int) : Prop := H p ∧ ap p x = x
theorem stab_grp {n : Nat} {H : List Int → Prop} (h : Grp n H) {x : Int} (hx : 0 ≤ x ∧ x < n) : Grp n (Stab H x) where
  perm := fun p hp => h.perm p hp.1
  one := ⟨h.one, ap_id hx⟩
  mul := fun p q hp hq => ⟨h.mul _ _ hp.1 hq.1, by rw [ap_mul (h.perm p hp.1) hx, hp.2, hq.2]⟩

/-- numbers of elements -/
theorem nodup_le {α : Type} : ∀ {l m : List α}, l.Nodup → (∀ x ∈ l, x ∈ m) → l.length ≤ m.length
  | [], m, _, _ => by simp
  | x :: l, m, hn, hs => by
    classical
    have hx : x ∈ m := hs x (by simp)
    have := nodup_le (l := l) (m := m.erase x) (List.nodup_cons.1 hn).2 (fun y hy => by
      have hne : y ≠ x := by rintro rfl; exact (List.nodup_cons.1 hn).1 hy
      exact (List.mem_erase_of_ne hne).2 (hs y (by simp [hy])))
    rw [List.length_erase_of_mem hx] at this
    have := List.length_pos_of_mem hx
    simp only [List.length_cons]; omega
theorem nodup_eq {α : Type} {l m : List α} (hl : l.Nodup) (hs : ∀ x ∈ l, x ∈ m) (he : m.length ≤ l.length) : ∀ x ∈ m, x ∈ l := by
  intro x hx
  refine Classical.byContradiction fun hc => ?_
  have := nodup_le (l := x :: l) (m := m) (List.nodup_cons.2 ⟨hc, hl⟩) (fun y hy => by
    rcases List.mem_cons.1 hy with rfl | h
    · exact hx
    · exact hs y h)
  simp only [List.length_cons] at this; omega
def Card (H : List Int → Prop) (k : Nat) : Prop := ∃ L : List (List Int), L.Nodup ∧ (∀ p, p ∈ L ↔ H p) ∧ L.length = k
theorem Card.le {H H' : List Int → Prop} {k k' : Nat} (h : Card H k) (h' : Card H' k') (hs : ∀ p, H p → H' p) : k ≤ k' := by
  obtain ⟨L, hn, hm, rfl⟩ := h; obtain ⟨L', hn', hm', rfl⟩ := h'
  exact nodup_le hn fun x hx => (hm' x).2 (hs x ((hm x).1 hx))
theorem Card.unique {H : List Int → Prop} {k k' : Nat} (h : Card H k) (h' : Card H k') : k = k' := Nat.le_antisymm (h.le h' fun _ h => h) (h'.le h fun _ h => h)
theorem Card.congr {H H' : List Int → Prop} {k : Nat} (h : Card H k) (he : ∀ p, H p ↔ H' p) : Card H' k := by
  obtain ⟨L, hn, hm, rfl⟩ := h
  exact ⟨L, hn, fun p => (hm p).trans (he p), rfl⟩
theorem Card.eq {H H' : List Int → Prop} {k k' : Nat} (h : Card H k) (h' : Card H' k') (hs : ∀ p, H p → H' p) (hk : k' ≤ k) : ∀ p, H' p → H p := by
  obtain ⟨L, hn, hm, rfl⟩ := h; obtain ⟨L', hn', hm', rfl⟩ := h'
  intro p hp
  exact (hm p).1 (nodup_eq hn (fun x hx => (hm' x).2 (hs x ((hm x).1 hx))) hk p ((hm' p).2 hp))
theorem card_id (n : Nat) : Card (fun p => p = idList n) 1 := ⟨[idList n], by simp, by simp, rfl⟩
/-- all lists of length k with entries from 0 to n - 1 -/
def allL (n : Nat) : Nat → List (List Int)
  | 0 => [[]]
  | k + 1 => (allL n k).flatMap fun l => (idList n).map fun x => l ++ [x]
theorem mem_allL {n : Nat} : ∀ {k : Nat} {l : List Int}, l.length = k → (∀ y ∈ l, 0 ≤ y ∧ y < n) → l ∈ allL n k
  | 0, l, hl, _ => by simp [allL, List.length_eq_zero_iff.1 hl]
  | k + 1, l, hl, h => by
    obtain ⟨l', x, rfl⟩ : ∃ l' x, l = l' ++ [x] := ⟨l.dropLast, l.getLast (by intro hc; simp [hc] at hl), (List.dropLast_concat_getLast _).symm⟩
    simp only [List.length_append, List.length_cons, List.length_nil] at hl
    have := mem_allL (n := n) (k := k) (l := l') (by omega) (fun y hy => h y (by simp [hy]))
    simp only [allL, List.mem_flatMap, List.mem_map]
    have hx := h x (by simp)
    refine ⟨l', this, x, ?_, rfl⟩
    simp only [idList, List.mem_map, List.mem_range]
    exact ⟨x.toNat, by omega, by omega⟩
theorem nodup_of {α : Type} (L : List α) : ∃ M : List α, M.Nodup ∧ ∀ x, x ∈ M ↔ x ∈ L := by
  induction L with
  | nil => exact ⟨[], by simp, by simp⟩
  | cons a L ih =>
    obtain ⟨M, hn, hm⟩ := ih
    by_cases ha : a ∈ L
    · exact ⟨M, hn, fun x => by rw [hm]; constructor
                                · intro h; simp [h]
                                · intro h; rcases List.mem_cons.1 h with rfl | h
                                  · exact ha
                                  · exact h⟩
    · exact ⟨a :: M, List.nodup_cons.2 ⟨by rw [hm]; exact ha, hn⟩, fun x => by simp [hm]⟩
theorem card_of_list {H : List Int → Prop} (L : List (List Int)) (h : ∀ p, H p → p ∈ L) : ∃ k, Card H k := by
  classical
  obtain ⟨M, hn, hm⟩ := nodup_of (L.filter fun p => decide (H p))
  refine ⟨M.length, M, hn, fun p => ?_, rfl⟩
  rw [hm, List.mem_filter]
  constructor
  · rintro ⟨_, h'⟩; exact of_decide_eq_true h'
  · intro h'; exact ⟨h p h', decide_eq_true h'⟩
theorem Grp.card {n : Nat} {H : List Int → Prop} (h : Grp n H) : ∃ k, Card H k :=
  card_of_list (allL n n) fun p hp => mem_allL (h.perm p hp).2 fun y hy => by
    have := (h.perm p hp).1.2.2.1 y hy; rw [(h.perm p hp).2] at this; exact this
theorem nodup_flat {α β : Type} (f : α → List β) : ∀ {l : List α}, l.Nodup → (∀ x ∈ l, (f x).Nodup) → (∀ x ∈ l, ∀ y ∈ l, x ≠ y → ∀ z, z ∈ f x → z ∉ f y) → (l.flatMap f).Nodup
  | [], _, _, _ => by simp
  | a :: l, hn, h1, h2 => by
    rw [List.flatMap_cons, List.nodup_append]
    have hn' := List.nodup_cons.1 hn
    refine ⟨h1 a (by simp), nodup_flat f hn'.2 (fun x hx => h1 x (by simp [hx])) (fun x hx y hy => h2 x (by simp [hx]) y (by simp [hy])), ?_⟩
    intro z hz z' hz' he
    subst he
    obtain ⟨y, hy, hzy⟩ := List.mem_flatMap.1 hz'
    exact h2 a (by simp) y (by simp [hy]) (by rintro rfl; exact hn'.1 hy) z hz hzy
theorem length_flat {α β : Type} (f : α → List β) (k : Nat) : ∀ {l : List α}, (∀ x ∈ l, (f x).length = k) → (l.flatMap f).length = l.length * k
  | [], _ => by simp
  | a :: l, h => by
    rw [List.flatMap_cons, List.length_append, h a (by simp), length_flat f k (fun x hx => h x (by simp [hx])), List.length_cons, Nat.succ_mul, Nat.add_comm]
theorem nodup_map {α β : Type} (f : α → β) : ∀ {l : List α}, l.Nodup → (∀ x ∈ l, ∀ y ∈ l, f x = f y → x = y) → (l.map f).Nodup
  | [], _, _ => by simp
  | a :: l, hn, h => by
    have hn' := List.nodup_cons.1 hn
    rw [List.map_cons, List.nodup_cons]
    refine ⟨?_, nodup_map f hn'.2 fun x hx y hy => h x (by simp [hx]) y (by simp [hy])⟩
    intro hm
    obtain ⟨y, hy, he⟩ := List.mem_map.1 hm
    have := h y (by simp [hy]) a (by simp) he
    subst this; exact hn'.1 hy
/-- the number of elements is the length of an orbit times the number of elements that fix its point -/
theorem orbit_stab {n : Nat} {H : List Int → Prop} (hH : Grp n H) {x : Int} (hx : 0 ≤ x ∧ x < n) {orb : List Int} (hn : orb.Nodup) (ho : ∀ y, y ∈ orb ↔ ∃ p, H p ∧ ap p x = y) {k : Nat} (hk : Card (Stab H x) k) :
    Card H (orb.length * k) := by
  classical
  obtain ⟨S, hS, hm, rfl⟩ := hk
  have hu : ∀ y : Int, ∃ u : List Int, y ∈ orb → H u ∧ ap u x = y := fun y => by
    by_cases hy : y ∈ orb
    · obtain ⟨p, hp⟩ := (ho y).1 hy; exact ⟨p, fun _ => hp⟩
    · exact ⟨[], fun h => absurd h hy⟩
  let u : Int → List Int := fun y => Classical.choose (hu y)
  have hu : ∀ y ∈ orb, H (u y) ∧ ap (u y) x = y := fun y => Classical.choose_spec (hu y)
  refine ⟨orb.flatMap fun y => S.map fun s => mulP s (u y), ?_, ?_, ?_⟩
  · apply nodup_flat _ hn
    · intro y hy
      apply nodup_map _ hS
      intro s hs t ht he
      exact mul_cancel (hH.perm s ((hm s).1 hs).1) (hH.perm t ((hm t).1 ht).1) (hH.perm _ (hu y hy).1) he
    · intro y hy y' hy' hne z hz hz'
      obtain ⟨s, hs, rfl⟩ := List.mem_map.1 hz
      obtain ⟨t, ht, he⟩ := List.mem_map.1 hz'
      have hs := (hm s).1 hs; have ht := (hm t).1 ht
      have e1 := ap_mul (q := u y) (hH.perm s hs.1) hx
      have e2 := ap_mul (q := u y') (hH.perm t ht.1) hx
      rw [hs.2, (hu y hy).2] at e1
      rw [ht.2, (hu y' hy').2, he, e1] at e2
      exact hne e2
  · intro p
    rw [List.mem_flatMap]
    constructor
    · rintro ⟨y, hy, hp⟩
      obtain ⟨s, hs, rfl⟩ := List.mem_map.1 hp
      exact hH.mul _ _ ((hm s).1 hs).1 (hu y hy).1
    · intro hp
      have hy : ap p x ∈ orb := (ho _).2 ⟨p, hp, rfl⟩
      have hu' := hu _ hy
      have pu := hH.perm _ hu'.1
      have pp := hH.perm p hp
      refine ⟨ap p x, hy, List.mem_map.2 ⟨mulP p (inv (u (ap p x))), (hm _).2 ⟨hH.mul _ _ hp (hH.inv hu'.1), ?_⟩, ?_⟩⟩
      · rw [ap_mul pp hx]
        have := ap_inv pu hx
        rwa [hu'.2] at this
      · rw [mul_assoc pp pu.inv, inv_mul pu, mul_one pp]
  · exact length_flat _ _ fun y _ => by simp
end Go.PM

/- Chains of stabilizers in plain Lean: what a complete chain is, sifting, Schreier's elements, and how a chain grows. No program in sight. -/
namespace Go.PM
structure Lv where
  pt : Int
  gens : List (List Int)
  orb : List Int
  back : List (List Int)
  done : List Nat
def Lv.bk (l : Lv) (a : Nat) : List Int := l.back.getD a []
structure LvOK (n : Nat) (l : Lv) : Prop where
  n1 : 1 ≤ n ∧ n ≤ 512
  pt : 0 ≤ l.pt ∧ l.pt < n
  gens : GensN n l.gens
  nd : l.orb.Nodup
  len : l.back.length = l.orb.length
  dlen : l.done.length = l.orb.length
  pos : 0 < l.orb.length
  head : l.orb.getD 0 0 = l.pt
  mem : ∀ y, y ∈ l.orb ↔ Reach l.gens l.pt y
  bin : ∀ a, a < l.orb.length → Gen n l.gens (l.bk a)
  bap : ∀ a, a < l.orb.length → ap (l.bk a) (l.orb.getD a 0) = l.pt
  b0 : l.bk 0 = idList n
theorem LvOK.grp {n : Nat} {l : Lv} (h : LvOK n l) : Grp n (Gen n l.gens) := gen_grp h.n1 h.gens
theorem LvOK.orb_in {n : Nat} {l : Lv} (h : LvOK n l) {y : Int} (hy : y ∈ l.orb) : 0 ≤ y ∧ y < n := ((h.mem y).1 hy).in h.gens.gens h.pt
theorem LvOK.orb_le {n : Nat} {l : Lv} (h : LvOK n l) : l.orb.length ≤ n := Dist.length_le ⟨fun _ hy => h.orb_in hy, h.nd⟩
theorem LvOK.mem' {n : Nat} {l : Lv} (h : LvOK n l) (y : Int) : y ∈ l.orb ↔ ∃ p, Gen n l.gens p ∧ ap p l.pt = y := (h.mem y).trans (gen_reach h.n1 h.gens h.pt y)
theorem idxOf_lt {l : List Int} {y : Int} (h : y ∈ l) : l.idxOf y < l.length := List.idxOf_lt_length_of_mem h
theorem idxOf_getD {l : List Int} {y : Int} (h : y ∈ l) : l.getD (l.idxOf y) 0 = y := by
  rw [List.getD_eq_getElem?_getD, List.getElem?_eq_getElem (idxOf_lt h)]; simp
theorem idxOf_nd {l : List Int} (hn : l.Nodup) {a : Nat} (ha : a < l.length) : l.idxOf (l.getD a 0) = a := by
  have hm : l.getD a 0 ∈ l := getD_mem ha
  have h1 := idxOf_lt hm
  have h2 := idxOf_getD hm
  rw [nodup_iff] at hn
  rcases Nat.lt_trichotomy (l.idxOf (l.getD a 0)) a with h | h | h
  · exact absurd h2 (hn _ _ h ha)
  · exact h
  · exact absurd h2.symm (hn _ _ h h1)
/-- the element that takes y back to the level's point -/
def Lv.to (l : Lv) (y : Int) : List Int := l.bk (l.orb.idxOf y)
theorem LvOK.to_in {n : Nat} {l : Lv} (h : LvOK n l) {y : Int} (hy : y ∈ l.orb) : Gen n l.gens (l.to y) := h.bin _ (idxOf_lt hy)
theorem LvOK.to_ap {n : Nat} {l : Lv} (h : LvOK n l) {y : Int} (hy : y ∈ l.orb) : ap (l.to y) y = l.pt := by
  have := h.bap _ (idxOf_lt hy)
  rwa [idxOf_getD hy] at this
theorem LvOK.to_pt {n : Nat} {l : Lv} (h : LvOK n l) : l.to l.pt = idList n := by
  have := idxOf_nd h.nd h.pos
  unfold Lv.to
  rw [← h.head, this, h.b0]
theorem LvOK.pt_mem {n : Nat} {l : Lv} (h : LvOK n l) : l.pt ∈ l.orb := by rw [h.mem]; exact .refl
/-- Schreier's element of a point of the orbit and a generator -/
def Lv.schr (l : Lv) (a k : Nat) : List Int := mulP (mulP (inv (l.bk a)) (l.gens.getD k [])) (l.to (ap (l.gens.getD k []) (l.orb.getD a 0)))
/-- the group of a chain -/
def grpOf (n : Nat) : List Lv → List Int → Prop
  | [] => fun p => p = idList n
  | l :: _ => Gen n l.gens
def DoneOK (n : Nat) (l : Lv) (ls : List Lv) : Prop := ∀ a, a < l.orb.length → l.done.getD a 0 ≤ l.gens.length ∧ ∀ k, k < l.done.getD a 0 → grpOf n ls (l.schr a k)
def Links (n : Nat) : List Lv → Prop
  | [] => 1 ≤ n ∧ n ≤ 512
  | l :: ls => LvOK n l ∧ (∀ p, grpOf n ls p → Gen n l.gens p ∧ ap p l.pt = l.pt) ∧ DoneOK n l ls ∧ Links n ls
def Full (n : Nat) : List Lv → Prop
  | [] => True
  | l :: ls => (∀ p, Gen n l.gens p → ap p l.pt = l.pt → grpOf n ls p) ∧ Full n ls
def prodL : List Lv → Nat
  | [] => 1
  | l :: ls => l.orb.length * prodL ls
theorem Links.n1 {n : Nat} : ∀ {ls : List Lv}, Links n ls → 1 ≤ n ∧ n ≤ 512
  | [], h => h
  | _ :: _, h => h.1.n1
theorem id_grp {n : Nat} (h : 1 ≤ n ∧ n ≤ 512) : Grp n (fun p => p = idList n) where
  perm := by rintro _ rfl; exact permN_id h
  one := rfl
  mul := by rintro _ _ rfl rfl; exact one_mul (permN_id h)
theorem Links.grp {n : Nat} : ∀ {ls : List Lv}, Links n ls → Grp n (grpOf n ls)
  | [], h => id_grp h
  | _ :: _, h => h.1.grp
theorem Links.tail {n : Nat} {l : Lv} {ls : List Lv} (h : Links n (l :: ls)) : Links n ls := h.2.2.2
theorem prodL_pos {n : Nat} : ∀ {ls : List Lv}, Links n ls → 1 ≤ prodL ls
  | [], _ => by simp [prodL]
  | l :: ls, h => by have := prodL_pos h.tail; have := h.1.pos; exact Nat.mul_pos ‹_› ‹_›
theorem stab_card {n : Nat} {l : Lv} (h : LvOK n l) {k : Nat} (hk : Card (Stab (Gen n l.gens) l.pt) k) : Card (Gen n l.gens) (l.orb.length * k) := orbit_stab h.grp h.pt h.nd h.mem' hk
theorem links_le {n : Nat} : ∀ {ls : List Lv}, Links n ls → ∀ k, Card (grpOf n ls) k → prodL ls ≤ k
  | [], _, k, hk => by rw [hk.unique (card_id n)]; exact Nat.le_refl _
  | l :: ls, h, k, hk => by
    obtain ⟨m, hm⟩ := (stab_grp h.1.grp h.1.pt).card
    obtain ⟨r, hr⟩ := h.tail.grp.card
    have e := (stab_card h.1 hm).unique hk
    have h1 := links_le h.tail r hr
    have h2 := hr.le hm h.2.1
    rw [← e, prodL]
    exact Nat.mul_le_mul_left _ (Nat.le_trans h1 h2)
theorem full_card {n : Nat} : ∀ {ls : List Lv}, Links n ls → Full n ls → Card (grpOf n ls) (prodL ls)
  | [], _, _ => card_id n
  | _ :: _, h, hf => stab_card h.1 ((full_card h.tail hf.2).congr fun p => ⟨h.2.1 p, fun hp => hf.1 p hp.1 hp.2⟩)
theorem card_full {n : Nat} : ∀ {ls : List Lv}, Links n ls → ∀ k, Card (grpOf n ls) k → k ≤ prodL ls → Full n ls
  | [], _, _, _, _ => trivial
  | l :: ls, h, k, hk, hle => by
    obtain ⟨m, hm⟩ := (stab_grp h.1.grp h.1.pt).card
    obtain ⟨r, hr⟩ := h.tail.grp.card
    have e := (stab_card h.1 hm).unique hk
    have h1 := links_le h.tail r hr
    have h2 := hr.le hm h.2.1
    rw [← e, prodL] at hle
    have h3 := Nat.le_of_mul_le_mul_left hle h.1.pos
    exact ⟨fun p hp hf => hr.eq hm h.2.1 (by omega) p ⟨hp, hf⟩, card_full h.tail r hr (by omega)⟩
/-- Schreier: a level is full if the next group has all of its Schreier elements -/
theorem schreier {n : Nat} {l : Lv} {ls : List Lv} (h : Links n (l :: ls)) (hs : ∀ a, a < l.orb.length → ∀ k, k < l.gens.length → grpOf n ls (l.schr a k)) :
    ∀ p, Gen n l.gens p → ap p l.pt = l.pt → grpOf n ls p := by
  have hg := h.tail.grp
  have key : ∀ p, Gen n l.gens p → grpOf n ls (mulP p (l.to (ap p l.pt))) := by
    intro p hp
    induction hp with
    | one => rw [ap_id h.1.pt, h.1.to_pt, one_mul (permN_id h.1.n1)]; exact hg.one
    | mul hp hm ih =>
      rename_i p g
      have pp := h.1.grp.perm p hp
      have pg := h.1.gens g hm
      obtain ⟨k, hk, rfl⟩ := List.getElem_of_mem hm
      have hy : ap p l.pt ∈ l.orb := (h.1.mem' _).2 ⟨p, hp, rfl⟩
      have hsch := hs _ (idxOf_lt hy) k hk
      have e : l.gens.getD k [] = l.gens[k] := by simp [List.getD_eq_getElem?_getD, hk]
      unfold Lv.schr at hsch
      rw [idxOf_getD hy, e] at hsch
      have pt1 := h.1.grp.perm _ (h.1.to_in hy)
      have hy2 : ap l.gens[k] (ap p l.pt) ∈ l.orb := (h.1.mem' _).2 ⟨_, .mul hp hm, ap_mul pp h.1.pt⟩
      have pt2 := h.1.grp.perm _ (h.1.to_in hy2)
      have := hg.mul _ _ ih hsch
      rw [ap_mul pp h.1.pt]
      have e2 : mulP (mulP p (l.to (ap p l.pt))) (mulP (mulP (inv (l.bk (l.orb.idxOf (ap p l.pt)))) l.gens[k]) (l.to (ap l.gens[k] (ap p l.pt)))) = mulP (mulP p l.gens[k]) (l.to (ap l.gens[k] (ap p l.pt))) := by
        show mulP (mulP p (l.to (ap p l.pt))) (mulP (mulP (inv (l.to (ap p l.pt))) l.gens[k]) _) = _
        rw [mul_assoc pt1.inv pg, mul_assoc pp pt1, ← mul_assoc pt1 pt1.inv, mul_inv pt1, one_mul (pg.mul pt2), ← mul_assoc pp pg]
      rwa [e2] at this
  intro p hp hf
  have := key p hp
  rwa [hf, h.1.to_pt, mul_one (h.1.grp.perm p hp)] at this
theorem done_full {n : Nat} {l : Lv} {ls : List Lv} (h : Links n (l :: ls)) (hd : ∀ a, a < l.orb.length → l.done.getD a 0 = l.gens.length) (hf : Full n ls) : Full n (l :: ls) :=
  ⟨schreier h fun a ha k hk => (h.2.2.1 a ha).2 k (by rw [hd a ha]; exact hk), hf⟩
/-- sifting -/
def siftL : List Lv → List Int → List Int × Nat
  | [], p => (p, 0)
  | l :: ls, p => if ap p l.pt ∈ l.orb then ((siftL ls (mulP p (l.to (ap p l.pt)))).1, (siftL ls (mulP p (l.to (ap p l.pt)))).2 + 1) else (p, 0)
def FixTo (ls : List Lv) (k : Nat) (p : List Int) : Prop := ∀ j, j < k → ∀ l, ls[j]? = some l → ap p l.pt = l.pt
theorem sift_spec {n : Nat} : ∀ {ls : List Lv}, Links n ls → ∀ {p : List Int}, PermN n p →
    PermN n (siftL ls p).1 ∧ (siftL ls p).2 ≤ ls.length ∧ (∃ u, grpOf n ls u ∧ (siftL ls p).1 = mulP p u) ∧ FixTo ls (siftL ls p).2 (siftL ls p).1 ∧
    (∀ l, ls[(siftL ls p).2]? = some l → ap (siftL ls p).1 l.pt ∉ l.orb)
  | [], h, p, hp => ⟨hp, Nat.le_refl _, ⟨_, rfl, (mul_one hp).symm⟩, fun j hj => absurd hj (by simp [siftL]), fun l hl => by simp [siftL] at hl⟩
  | l :: ls, h, p, hp => by
    by_cases hm : ap p l.pt ∈ l.orb
    · have hu := h.1.to_in hm
      have pu := h.1.grp.perm _ hu
      obtain ⟨h1, h2, ⟨u, hu', e⟩, h4, h5⟩ := sift_spec h.tail (hp.mul pu)
      have e1 : siftL (l :: ls) p = ((siftL ls (mulP p (l.to (ap p l.pt)))).1, (siftL ls (mulP p (l.to (ap p l.pt)))).2 + 1) := by rw [siftL, if_pos hm]
      rw [e1]
      have hul := h.2.1 u hu'
      refine ⟨h1, by simp only [List.length_cons]; omega, ⟨mulP (l.to (ap p l.pt)) u, h.1.grp.mul _ _ hu hul.1, by simp only; rw [e, mul_assoc hp pu]⟩, ?_, ?_⟩
      · intro j hj l' hl'
        simp only at hj ⊢
        cases j with
        | zero =>
          simp only [List.getElem?_cons_zero, Option.some.injEq] at hl'
          subst hl'
          rw [e, ap_mul (hp.mul pu) h.1.pt, ap_mul hp h.1.pt, h.1.to_ap hm, hul.2]
        | succ j => exact h4 j (by omega) l' (by simpa using hl')
      · intro l' hl'; exact h5 l' (by simpa using hl')
    · have e1 : siftL (l :: ls) p = (p, 0) := by rw [siftL, if_neg hm]
      rw [e1]
      refine ⟨hp, by simp, ⟨idList n, .one, (mul_one hp).symm⟩, fun j hj => absurd hj (by simp), fun l' hl' => ?_⟩
      simp only [List.getElem?_cons_zero, Option.some.injEq] at hl'
      subst hl'; exact hm
theorem sift_full {n : Nat} : ∀ {ls : List Lv}, Links n ls → Full n ls → ∀ {p : List Int}, grpOf n ls p → (siftL ls p).1 = idList n
  | [], _, _, p, hp => hp
  | l :: ls, h, hf, p, hp => by
    have hm : ap p l.pt ∈ l.orb := (h.1.mem' _).2 ⟨p, hp, rfl⟩
    rw [siftL, if_pos hm]
    have hu := h.1.to_in hm
    exact sift_full h.tail hf.2 (hf.1 _ (h.1.grp.mul _ _ hp hu) (by rw [ap_mul (h.1.grp.perm p hp) h.1.pt, h.1.to_ap hm]))
theorem sift_grp {n : Nat} {ls : List Lv} (h : Links n ls) {p : List Int} (hp : PermN n p) : grpOf n ls (siftL ls p).1 ↔ grpOf n ls p := by
  obtain ⟨_, _, ⟨u, hu, e⟩, _⟩ := sift_spec h hp
  rw [e]; exact h.grp.mul_right hp hu
theorem sift_iff {n : Nat} {ls : List Lv} (h : Links n ls) (hf : Full n ls) {p : List Int} (hp : PermN n p) : (siftL ls p).1 = idList n ↔ grpOf n ls p := by
  constructor
  · intro e; rw [← sift_grp h hp, e]; exact h.grp.one
  · exact sift_full h hf
/-- growing -/
structure LvExt (n : Nat) (g : List Int) (l l' : Lv) : Prop where
  ok : LvOK n l'
  pt : l'.pt = l.pt
  gens : l'.gens = l.gens ++ [g]
  le : l.orb.length ≤ l'.orb.length
  orb : ∀ a, a < l.orb.length → l'.orb.getD a 0 = l.orb.getD a 0
  back : ∀ a, a < l.orb.length → l'.bk a = l.bk a
  done : ∀ a, a < l.orb.length → l'.done.getD a 0 = l.done.getD a 0
  new : ∀ a, l.orb.length ≤ a → l'.done.getD a 0 = 0
structure LvNew (n : Nat) (g : List Int) (l' : Lv) : Prop where
  ok : LvOK n l'
  gens : l'.gens = [g]
  pt : ap g l'.pt ≠ l'.pt
  new : ∀ a, l'.done.getD a 0 = 0
inductive Ins (n : Nat) (p : List Int) : Nat → List Lv → List Lv → Prop
  | new {l' : Lv} (h : LvNew n p l') : Ins n p 0 [] [l']
  | last {l l' : Lv} {ls : List Lv} (h : LvExt n p l l') : Ins n p 0 (l :: ls) (l' :: ls)
  | cons {k : Nat} {l l' : Lv} {ls ls' : List Lv} (h : LvExt n p l l') (hr : Ins n p k ls ls') : Ins n p (k + 1) (l :: ls) (l' :: ls')
theorem LvExt.sub {n : Nat} {g : List Int} {l l' : Lv} (h : LvExt n g l l') {p : List Int} (hp : Gen n l.gens p) : Gen n l'.gens p := gen_mono (fun q hq => by rw [h.gens]; simp [hq]) hp
theorem LvExt.to_eq {n : Nat} {g : List Int} {l l' : Lv} (h : LvExt n g l l') (_hl : LvOK n l) {y : Int} (hy : y ∈ l.orb) : l'.to y = l.to y := by
  have h1 := idxOf_lt hy
  have h2 := h.orb _ h1
  rw [idxOf_getD hy] at h2
  have h3 := idxOf_nd h.ok.nd (a := l.orb.idxOf y) (by have := h.le; omega)
  rw [h2] at h3
  unfold Lv.to
  rw [h3, h.back _ h1]
theorem LvExt.schr_eq {n : Nat} {g : List Int} {l l' : Lv} (h : LvExt n g l l') (hl : LvOK n l) {a k : Nat} (ha : a < l.orb.length) (hk : k < l.gens.length) : l'.schr a k = l.schr a k := by
  have e : l'.gens.getD k [] = l.gens.getD k [] := by rw [h.gens]; simp [List.getD_eq_getElem?_getD, List.getElem?_append_left hk]
  unfold Lv.schr
  rw [e, h.back a ha, h.orb a ha, h.to_eq hl]
  rw [hl.mem]
  exact .step _ (getD_mem hk) ((hl.mem _).1 (getD_mem ha))
theorem LvExt.doneOK {n : Nat} {g : List Int} {l l' : Lv} {ls ls' : List Lv} (h : LvExt n g l l') (hl : LvOK n l) (hd : DoneOK n l ls) (hs : ∀ p, grpOf n ls p → grpOf n ls' p) : DoneOK n l' ls' := by
  intro a ha
  by_cases h' : a < l.orb.length
  · rw [h.done a h', h.gens]
    have := hd a h'
    refine ⟨by rw [List.length_append]; omega, fun k hk => ?_⟩
    rw [h.schr_eq hl h' (by omega)]
    exact hs _ (this.2 k hk)
  · rw [h.new a (by omega)]
    exact ⟨Nat.zero_le _, fun k hk => absurd hk (by omega)⟩
theorem ins_links {n : Nat} {p : List Int} {k : Nat} {ls ls' : List Lv} (hi : Ins n p k ls ls') : Links n ls → PermN n p → FixTo ls k p →
    Links n ls' ∧ (∀ q, grpOf n ls q → grpOf n ls' q) ∧ grpOf n ls' p ∧ ∀ H : List Int → Prop, Grp n H → (∀ q, grpOf n ls q → H q) → H p → ∀ q, grpOf n ls' q → H q := by
  induction hi with
  | new h =>
    intro h1 hp _
    rename_i l'
    refine ⟨⟨h.ok, ?_, ?_, h1⟩, ?_, ?_, ?_⟩
    · rintro q rfl; exact ⟨.one, ap_id h.ok.pt⟩
    · intro a _; rw [h.new a]; exact ⟨Nat.zero_le _, fun k hk => absurd hk (by omega)⟩
    · rintro q rfl; exact .one
    · exact gen_self h.ok.gens (by rw [h.gens]; simp)
    · intro H hH _ hHp q hq; exact gen_le hH (by rw [h.gens]; simpa using hHp) hq
  | last h =>
    intro h1 hp hf
    rename_i l l' ls
    refine ⟨⟨h.ok, ?_, h.doneOK h1.1 h1.2.2.1 fun _ hq => hq, h1.tail⟩, fun q hq => h.sub hq, gen_self h.ok.gens (by rw [h.gens]; simp), ?_⟩
    · intro q hq; rw [h.pt]; exact ⟨h.sub (h1.2.1 q hq).1, (h1.2.1 q hq).2⟩
    · intro H hH hs hHp q hq
      refine gen_le hH (fun g hg => ?_) hq
      rw [h.gens, List.mem_append] at hg
      rcases hg with hg | hg
      · exact hs _ (gen_self h1.1.gens hg)
      · simp only [List.mem_singleton] at hg; rw [hg]; exact hHp
  | cons h hr ih =>
    intro h1 hp hf
    rename_i k l l' ls ls'
    obtain ⟨i1, i2, i3, i4⟩ := ih h1.tail hp (fun j hj l'' hl'' => hf (j + 1) (by omega) l'' (by simpa using hl''))
    have hfp : ap p l.pt = l.pt := hf 0 (by omega) l (by simp)
    refine ⟨⟨h.ok, ?_, h.doneOK h1.1 h1.2.2.1 i2, i1⟩, fun q hq => h.sub hq, gen_self h.ok.gens (by rw [h.gens]; simp), ?_⟩
    · have := i4 (Stab (Gen n l'.gens) l'.pt) (stab_grp h.ok.grp h.ok.pt) (fun q hq => by rw [h.pt]; exact ⟨h.sub (h1.2.1 q hq).1, (h1.2.1 q hq).2⟩)
        ⟨gen_self h.ok.gens (by rw [h.gens]; simp), by rw [h.pt]; exact hfp⟩
      exact this
    · intro H hH hs hHp q hq
      refine gen_le hH (fun g hg => ?_) hq
      rw [h.gens, List.mem_append] at hg
      rcases hg with hg | hg
      · exact hs _ (gen_self h1.1.gens hg)
      · simp only [List.mem_singleton] at hg; rw [hg]; exact hHp
theorem ins_prod {n : Nat} {p : List Int} {k : Nat} {ls ls' : List Lv} (hi : Ins n p k ls ls') : Links n ls → (∀ l, ls[k]? = some l → ap p l.pt ∉ l.orb) → prodL ls < prodL ls' := by
  induction hi with
  | @new l' h =>
    intro _ _
    have h1 : 2 ≤ l'.orb.length := by
      have hm : ap p l'.pt ∈ l'.orb := (h.ok.mem' _).2 ⟨p, gen_self h.ok.gens (by rw [h.gens]; simp), rfl⟩
      exact nodup_le (l := [ap p l'.pt, l'.pt]) (m := l'.orb) (by simp [h.pt]) (by simp [hm, h.ok.pt_mem])
    simp only [prodL]; omega
  | last h =>
    intro h1 hne
    rename_i l l' ls
    have hne := hne l (by simp)
    have hm : ap p l.pt ∈ l'.orb := by rw [← h.pt]; exact (h.ok.mem' _).2 ⟨p, gen_self h.ok.gens (by rw [h.gens]; simp), rfl⟩
    have hlt : l.orb.length < l'.orb.length := by
      refine nodup_le (l := ap p l.pt :: l.orb) (m := l'.orb) (List.nodup_cons.2 ⟨hne, h1.1.nd⟩) (fun y hy => ?_)
      rcases List.mem_cons.1 hy with rfl | hy
      · exact hm
      · rw [h.ok.mem', h.pt]; obtain ⟨q, hq, e⟩ := (h1.1.mem' y).1 hy; exact ⟨q, h.sub hq, e⟩
    exact Nat.mul_lt_mul_of_pos_right hlt (prodL_pos h1.tail)
  | cons h hr ih =>
    intro h1 hne
    rename_i k l l' ls ls'
    have := ih h1.tail (fun l'' hl'' => hne l'' (by simpa using hl''))
    simp only [prodL]
    have h2 := h1.1.pos
    have h3 := h.le
    exact Nat.lt_of_lt_of_le (Nat.mul_lt_mul_of_pos_left this h2) (Nat.mul_le_mul_right _ h3)
end Go.PM

/- The number of permutations that keep the classes of a partition. No program in sight. -/
namespace Go.PM
def prodR (f : Nat → Nat) : Nat → Nat
  | 0 => 1
  | k + 1 => prodR f k * f k
theorem prodR_congr {f g : Nat → Nat} : ∀ n, (∀ r, r < n → f r = g r) → prodR f n = prodR g n
  | 0, _ => rfl
  | n + 1, h => by rw [prodR, prodR, prodR_congr n (fun r hr => h r (by omega)), h n (by omega)]
theorem prodR_one {f : Nat → Nat} (n : Nat) (h : ∀ r, r < n → f r = 1) : prodR f n = 1 := by
  induction n with
  | zero => rfl
  | succ n ih => rw [prodR, ih (fun r hr => h r (by omega)), h n (by omega)]
theorem prodR_at {f g : Nat → Nat} {t r0 : Nat} : ∀ n, r0 < n → (∀ r, r ≠ r0 → f r = g r) → f r0 = t * g r0 → prodR f n = t * prodR g n
  | 0, h, _, _ => absurd h (by omega)
  | n + 1, h, h1, h2 => by
    rw [prodR, prodR]
    by_cases hr : r0 = n
    · subst hr
      rw [h2, prodR_congr r0 (g := g) (fun r hr => h1 r (by omega)), ← Nat.mul_assoc, Nat.mul_comm (prodR g r0) t, Nat.mul_assoc]
    · rw [prodR_at n (by omega) h1 h2, h1 n (Ne.symm hr), Nat.mul_assoc]
def fac : Nat → Nat
  | 0 => 1
  | k + 1 => (k + 1) * fac k
/-- how many of the points from k to k + d - 1 lie in class r -/
def cntF (c : Nat → Nat) (r k : Nat) : Nat → Nat
  | 0 => 0
  | d + 1 => (if c k = r then 1 else 0) + cntF c r (k + 1) d
def listF (c : Nat → Nat) (r k : Nat) : Nat → List Int
  | 0 => []
  | d + 1 => (if c k = r then [(k : Int)] else []) ++ listF c r (k + 1) d
theorem listF_len (c : Nat → Nat) (r : Nat) : ∀ d k, (listF c r k d).length = cntF c r k d
  | 0, _ => rfl
  | d + 1, k => by simp only [listF, cntF, List.length_append, listF_len c r d (k + 1)]; split <;> simp
theorem mem_listF (c : Nat → Nat) (r : Nat) : ∀ d k x, k ≤ x → x < k + d → c x = r → (x : Int) ∈ listF c r k d
  | 0, k, x, h1, h2, _ => by omega
  | d + 1, k, x, h1, h2, h3 => by
    simp only [listF, List.mem_append]
    by_cases hx : x = k
    · subst hx; left; rw [if_pos h3]; simp
    · right; exact mem_listF c r d (k + 1) x (by omega) (by omega) h3
/-- permutations that keep all classes and fix the points ahead of k -/
def Keep (n : Nat) (c : Nat → Nat) (k : Nat) (p : List Int) : Prop := PermN n p ∧ (∀ x : Nat, x < n → c (ap p x).toNat = c x) ∧ ∀ x : Nat, x < k → x < n → ap p x = x
theorem keep_grp {n : Nat} (h1 : 1 ≤ n ∧ n ≤ 512) (c : Nat → Nat) (k : Nat) : Grp n (Keep n c k) where
  perm := fun _ h => h.1
  one := ⟨permN_id h1, fun x hx => by rw [ap_id (by omega)]; simp, fun x _ hx => ap_id (by omega)⟩
  mul := fun p q hp hq => ⟨hp.1.mul hq.1, fun x hx => by
    have := hp.1.ap (x := (x : Int)) (by omega)
    rw [ap_mul hp.1 (by omega)]
    have h2 := hq.2.1 (ap p x).toNat (by omega)
    rw [Int.toNat_of_nonneg this.1] at h2
    rw [h2, hp.2.1 x hx], fun x hk hx => by rw [ap_mul hp.1 (by omega), hp.2.2 x hk hx, hq.2.2 x hk hx]⟩
def prodG (c : Nat → Nat) (n : Nat) : Nat → Nat
  | 0 => 1
  | d + 1 => prodG c n d * cntF c (c (n - (d + 1))) (n - (d + 1)) (d + 1)
theorem keep_card {n : Nat} (h1 : 1 ≤ n ∧ n ≤ 512) (c : Nat → Nat) : ∀ d k m, d + k = n → Card (Keep n c k) m → m ≤ prodG c n d
  | 0, k, m, h, hm => by
    have : Card (Keep n c k) 1 := (card_id n).congr fun p => by
      constructor
      · rintro rfl; exact (keep_grp h1 c k).one
      · intro hp; rw [id_iff hp.1]; intro x h0 hx
        have := hp.2.2 x.toNat (by omega) (by omega)
        rwa [Int.toNat_of_nonneg h0] at this
    rw [hm.unique this, prodG]; exact Nat.le_refl _
  | d + 1, k, m, h, hm => by
    have hG := keep_grp h1 c k
    have hk : 0 ≤ (k : Int) ∧ (k : Int) < n := by omega
    obtain ⟨s, hs⟩ := (keep_grp h1 c (k + 1)).card
    have ih := keep_card h1 c d (k + 1) s (by omega) hs
    have hst : Card (Stab (Keep n c k) k) s := hs.congr fun p => by
      constructor
      · intro hp; exact ⟨⟨hp.1, hp.2.1, fun x hx hn => hp.2.2 x (by omega) hn⟩, hp.2.2 k (by omega) (by omega)⟩
      · rintro ⟨hp, hf⟩
        refine ⟨hp.1, hp.2.1, fun x hx hn => ?_⟩
        by_cases hxk : x = k
        · subst hxk; exact hf
        · exact hp.2.2 x (by omega) hn
    classical
    obtain ⟨orb, hn, ho⟩ := nodup_of ((idList n).filter fun y => decide (∃ p, Keep n c k p ∧ ap p k = y))
    have ho : ∀ y, y ∈ orb ↔ ∃ p, Keep n c k p ∧ ap p k = y := fun y => by
      rw [ho, List.mem_filter, decide_eq_true_eq]
      constructor
      · rintro ⟨_, h'⟩; exact h'
      · intro h'
        refine ⟨?_, h'⟩
        obtain ⟨p, hp, rfl⟩ := h'
        have := hp.1.ap hk
        simp only [idList, List.mem_map, List.mem_range]
        exact ⟨(ap p k).toNat, by omega, by omega⟩
    have e := (orbit_stab hG hk hn ho hst).unique hm
    have hle : orb.length ≤ cntF c (c k) k (d + 1) := by
      rw [← listF_len]
      refine nodup_le hn fun y hy => ?_
      obtain ⟨p, hp, rfl⟩ := (ho y).1 hy
      have hy := hp.1.ap hk
      have hc := hp.2.1 k (by omega)
      have hge : k ≤ (ap p k).toNat := by
        refine Nat.le_of_not_lt fun hlt => ?_
        have hf := hp.2.2 (ap p k).toNat hlt (by omega)
        have := hp.1.inj (x := ((ap p k).toNat : Int)) (y := (k : Int)) (by omega) hk (by rw [hf]; omega)
        omega
      have := mem_listF c (c k) (d + 1) k (ap p k).toNat hge (by omega) hc
      rwa [Int.toNat_of_nonneg hy.1] at this
    rw [← e, prodG]
    have hk' : n - (d + 1) = k := by omega
    rw [hk', Nat.mul_comm]
    exact Nat.mul_le_mul ih hle
theorem prodG_eq {n : Nat} {c : Nat → Nat} (hc : ∀ x, x < n → c x < n) : ∀ d k, d + k = n → prodG c n d = prodR (fun r => fac (cntF c r k d)) n
  | 0, k, _ => by rw [prodG, prodR_one n (fun r _ => by simp [cntF, fac])]
  | d + 1, k, h => by
    have hk' : n - (d + 1) = k := by omega
    rw [prodG, hk', prodG_eq hc d (k + 1) (by omega), Nat.mul_comm]
    symm
    refine prodR_at n (hc k (by omega)) (fun r hr => ?_) ?_
    · simp only [cntF]; rw [if_neg (Ne.symm hr), Nat.zero_add]
    · simp only [cntF, if_true]; rw [Nat.add_comm 1, fac]
/-- the number of permutations that keep the classes is at most the product of the factorials of their sizes -/
theorem keep_le {n : Nat} (h1 : 1 ≤ n ∧ n ≤ 512) {c : Nat → Nat} (hc : ∀ x, x < n → c x < n) {m : Nat} (hm : Card (Keep n c 0) m) : m ≤ prodR (fun r => fac (cntF c r 0 n)) n := by
  rw [← prodG_eq hc n 0 (by omega)]; exact keep_card h1 c n 0 m (by omega) hm
end Go.PM

/- Signs of permutations on the classes of a partition, spans modulo 2, and the bound on the number of elements of a group. No program in sight. -/
namespace Go.PM
/-- p on the class r, the identity elsewhere -/
def restr (n : Nat) (c : Nat → Nat) (r : Nat) (p : List Int) : List Int := (idList n).map fun x => if c x.toNat = r then ap p x else x
theorem restr_len (n : Nat) (c : Nat → Nat) (r : Nat) (p : List Int) : (restr n c r p).length = n := by simp [restr, idList_length]
theorem restr_getD {n : Nat} (c : Nat → Nat) (r : Nat) (p : List Int) {x : Nat} (hx : x < n) : (restr n c r p).getD x 0 = if c x = r then ap p x else x := by
  have h1 : x < (idList n).length := by rw [idList_length]; exact hx
  have e := idList_getD hx
  unfold restr
  rw [List.getD_eq_getElem?_getD, List.getElem?_eq_getElem h1] at e
  simp only [Option.getD_some] at e
  rw [List.getD_eq_getElem?_getD, List.getElem?_map, List.getElem?_eq_getElem h1]
  simp only [Option.map_some, Option.getD_some, e, Int.toNat_natCast]
theorem ap_restr {n : Nat} (c : Nat → Nat) (r : Nat) (p : List Int) {x : Int} (hx : 0 ≤ x ∧ x < n) : ap (restr n c r p) x = if c x.toNat = r then ap p x else x := by
  have := restr_getD c r p (x := x.toNat) (n := n) (by omega)
  unfold ap; unfold ap at this
  rw [this, Int.toNat_of_nonneg hx.1]
theorem restr_perm {n : Nat} {c : Nat → Nat} {p : List Int} (h : Keep n c 0 p) (r : Nat) : PermN n (restr n c r p) := by
  have hn := h.1.n1
  refine ⟨⟨by rw [restr_len]; omega, by rw [restr_len]; omega, ?_⟩, restr_len ..⟩
  rw [restr_len, dist_iff, restr_len]
  refine ⟨fun k hk => ?_, fun i j hij hj => ?_⟩
  · rw [restr_getD c r p hk]
    split
    · exact h.1.ap (by omega)
    · omega
  · rw [restr_getD c r p (by omega), restr_getD c r p hj]
    have ci := h.2.1 i (by omega); have cj := h.2.1 j hj
    intro he
    split at he <;> split at he
    · have := h.1.inj (x := (i : Int)) (y := (j : Int)) (by omega) (by omega) he; omega
    · rename_i h1 h2; rw [he] at ci; simp only [Int.toNat_natCast] at ci; omega
    · rename_i h1 h2; rw [← he] at cj; simp only [Int.toNat_natCast] at cj; omega
    · omega
theorem restr_mul {n : Nat} {c : Nat → Nat} {p q : List Int} (hp : Keep n c 0 p) (_hq : Keep n c 0 q) (r : Nat) : restr n c r (mulP p q) = mulP (restr n c r p) (restr n c r q) := by
  apply perm_ext (n := n) (restr_len ..) (by rw [mulP_length, restr_len])
  intro x h0 h1
  have cx := hp.2.1 x.toNat (by omega)
  rw [Int.toNat_of_nonneg h0] at cx
  rw [ap_mul (restr_perm hp r) ⟨h0, h1⟩, ap_restr c r _ ⟨h0, h1⟩, ap_restr c r p ⟨h0, h1⟩]
  split
  · rename_i h; rw [ap_restr c r q (hp.1.ap ⟨h0, h1⟩), if_pos (by rw [cx, h]), ap_mul hp.1 ⟨h0, h1⟩]
  · rename_i h; rw [ap_restr c r q ⟨h0, h1⟩, if_neg h]
def sg (n : Nat) (c : Nat → Nat) (p : List Int) (r : Nat) : Bool := !evenF (restr n c r p)
theorem sg_mul {n : Nat} {c : Nat → Nat} {p q : List Int} (hp : Keep n c 0 p) (hq : Keep n c 0 q) (r : Nat) : sg n c (mulP p q) r = (sg n c p r ^^ sg n c q r) := by
  have hp' := restr_perm hp r; have hq' := restr_perm hq r
  unfold sg
  rw [restr_mul hp hq, even_mul hp'.1 hq'.1 (by rw [hp'.2, hq'.2]) (hp'.mul hq').1]
  cases evenF (restr n c r p) <;> cases evenF (restr n c r q) <;> rfl
theorem even_id {n : Nat} (h : 1 ≤ n ∧ n ≤ 512) : evenF (idList n) = true := by
  rw [even_eq (permN_id h).1, evenR, idList_length, inv_id n n (Nat.le_refl _)]; rfl
theorem restr_id {n : Nat} (c : Nat → Nat) (r : Nat) {p : List Int} (h : ∀ x : Nat, x < n → c x = r → ap p x = x) : restr n c r p = idList n := by
  apply perm_ext (n := n) (restr_len ..) (idList_length n)
  intro x h0 h1
  rw [ap_restr c r p ⟨h0, h1⟩, ap_id ⟨h0, h1⟩]
  split
  · rename_i hc; have := h x.toNat (by omega) hc; rwa [Int.toNat_of_nonneg h0] at this
  · rfl
theorem sg_one {n : Nat} (h : 1 ≤ n ∧ n ≤ 512) (c : Nat → Nat) (r : Nat) : sg n c (idList n) r = false := by
  unfold sg; rw [restr_id c r (fun x hx _ => ap_id (by omega)), even_id h]; rfl
/-- a transposition of two points of a class -/
theorem swap_keep {n : Nat} (h1 : 1 ≤ n ∧ n ≤ 512) {c : Nat → Nat} {a b : Nat} (hab : a < b) (hb : b < n) (hc : c a = c b) :
    Keep n c 0 (swapL (idList n) a b) ∧ ∀ r, sg n c (swapL (idList n) a b) r = decide (r = c a) := by
  have hl : a < (idList n).length ∧ b < (idList n).length := by rw [idList_length]; omega
  have hp : PermN n (swapL (idList n) a b) := by
    refine ⟨⟨?_, ?_, ?_⟩, ?_⟩
    · rw [swapL_length, idList_length]; omega
    · rw [swapL_length, idList_length]; omega
    · rw [swapL_length, idList_length]; exact swapL_dist hl.1 hl.2 (idList_dist n)
    · rw [swapL_length, idList_length]
  have hap : ∀ x : Nat, x < n → ap (swapL (idList n) a b) x = if x = b then (a : Int) else if x = a then (b : Int) else x := fun x hx => by
    unfold ap; rw [Int.toNat_natCast, swapL_getD hl.1 hl.2, idList_getD (by omega), idList_getD (by omega), idList_getD hx]
  have hk : Keep n c 0 (swapL (idList n) a b) := by
    refine ⟨hp, fun x hx => ?_, fun x hx => absurd hx (by omega)⟩
    rw [hap x hx]
    split
    · rename_i h; subst h; rw [Int.toNat_natCast, hc]
    · split
      · rename_i h; subst h; rw [Int.toNat_natCast, hc]
      · rw [Int.toNat_natCast]
  refine ⟨hk, fun r => ?_⟩
  by_cases hr : r = c a
  · subst hr
    have e : restr n c (c a) (swapL (idList n) a b) = swapL (idList n) a b := by
      apply perm_ext (n := n) (restr_len ..) hp.2
      intro x h0 hx
      rw [ap_restr c _ _ ⟨h0, hx⟩]
      split
      · rfl
      · rename_i h
        have := hap x.toNat (by omega)
        rw [Int.toNat_of_nonneg h0] at this
        rw [this, if_neg (by rintro rfl; exact h hc.symm), if_neg (by rintro rfl; exact h rfl)]
    unfold sg
    rw [e, even_eq hp.1, evenR, swapL_length, invT_swap (by omega) hl.1 hl.2 (idList_dist n), idList_length, inv_id n n (Nat.le_refl _)]
    simp
  · unfold sg
    rw [restr_id c r (fun x hx hcx => ?_), even_id h1]
    · simp [hr]
    · rw [hap x hx, if_neg (by rintro rfl; exact hr (by omega)), if_neg (by rintro rfl; exact hr (by omega))]
theorem cnt_one {c : Nat → Nat} {r : Nat} : ∀ d k, 1 ≤ cntF c r k d → ∃ a, k ≤ a ∧ a < k + d ∧ c a = r
  | 0, k, h => by simp [cntF] at h
  | d + 1, k, h => by
    rw [cntF] at h
    by_cases hc : c k = r
    · exact ⟨k, by omega, by omega, hc⟩
    · rw [if_neg hc] at h
      obtain ⟨a, h1, h2, h3⟩ := cnt_one (c := c) (r := r) d (k + 1) (by omega)
      exact ⟨a, by omega, by omega, h3⟩
theorem cnt_two {c : Nat → Nat} {r : Nat} : ∀ d k, 2 ≤ cntF c r k d → ∃ a b, a < b ∧ b < k + d ∧ c a = r ∧ c b = r
  | 0, k, h => by simp [cntF] at h
  | d + 1, k, h => by
    rw [cntF] at h
    by_cases hc : c k = r
    · rw [if_pos hc] at h
      obtain ⟨a, h1, h2, h3⟩ := cnt_one (c := c) (r := r) d (k + 1) (by omega)
      exact ⟨k, a, by omega, by omega, hc, h3⟩
    · rw [if_neg hc] at h
      obtain ⟨a, b, h1, h2, h3⟩ := cnt_two (c := c) (r := r) d (k + 1) (by omega)
      exact ⟨a, b, h1, by omega, h3⟩
/-- vectors modulo 2 -/
def Lead (v : Nat → Bool) (i : Nat) : Prop := v i = true ∧ ∀ j, i < j → v j = false
theorem Lead.unique {v : Nat → Bool} {i j : Nat} (h : Lead v i) (h' : Lead v j) : i = j := by
  rcases Nat.lt_trichotomy i j with hl | hl | hl
  · have := h.2 j hl; rw [h'.1] at this; cases this
  · exact hl
  · have := h'.2 i hl; rw [h.1] at this; cases this
def vx (v u : Nat → Bool) : Nat → Bool := fun x => v x ^^ u x
theorem vx_assoc (a b c : Nat → Bool) : vx (vx a b) c = vx a (vx b c) := by funext x; simp only [vx]; cases a x <;> cases b x <;> cases c x <;> rfl
theorem vx_comm (a b : Nat → Bool) : vx a b = vx b a := by funext x; simp only [vx]; cases a x <;> cases b x <;> rfl
def v0 : Nat → Bool := fun _ => false
theorem vx_v0 (a : Nat → Bool) : vx a v0 = a := by funext x; simp only [vx, v0]; cases a x <;> rfl
theorem vx_self (a : Nat → Bool) : vx a a = v0 := by funext x; simp only [vx, v0]; cases a x <;> rfl
inductive Sp (B : List (Nat → Bool)) : (Nat → Bool) → Prop
  | zero : Sp B v0
  | add {v b : Nat → Bool} (h : Sp B v) (hb : b ∈ B) : Sp B (vx v b)
theorem Sp.xor {B : List (Nat → Bool)} {v u : Nat → Bool} (hv : Sp B v) (hu : Sp B u) : Sp B (vx v u) := by
  induction hu with
  | zero => rw [vx_v0]; exact hv
  | add _ hb ih => rw [← vx_assoc]; exact .add ih hb
theorem Sp.self {B : List (Nat → Bool)} {b : Nat → Bool} (h : b ∈ B) : Sp B b := by
  have := Sp.add (Sp.zero (B := B)) h
  rwa [vx_comm, vx_v0] at this
theorem Sp.mono {B B' : List (Nat → Bool)} (h : ∀ b ∈ B, b ∈ B') {v : Nat → Bool} (hv : Sp B v) : Sp B' v := by
  induction hv with
  | zero => exact .zero
  | add _ hb ih => exact .add ih (h _ hb)
theorem sp_cons {B : List (Nat → Bool)} {b v : Nat → Bool} (h : Sp (b :: B) v) : Sp B v ∨ ∃ u, Sp B u ∧ v = vx u b := by
  induction h with
  | zero => exact .inl .zero
  | @add v' b' _ hb ih =>
    rcases List.mem_cons.1 hb with rfl | hb
    · rcases ih with h | ⟨u, hu, rfl⟩
      · exact .inr ⟨v', h, rfl⟩
      · left; rw [vx_assoc, vx_self, vx_v0]; exact hu
    · rcases ih with h | ⟨u, hu, rfl⟩
      · exact .inl (.add h hb)
      · right; exact ⟨vx u b', .add hu hb, by rw [vx_assoc, vx_assoc, vx_comm b b']⟩
def Ech (B : List (Nat → Bool)) : Prop := ∀ v, Sp B v → v = v0 ∨ ∃ b ∈ B, ∃ i, Lead v i ∧ Lead b i
theorem ech_nil : Ech [] := fun v h => by
  cases h with
  | zero => exact .inl rfl
  | add _ hb => simp at hb
theorem Ech.cons {B : List (Nat → Bool)} (h : Ech B) {b : Nat → Bool} {i : Nat} (hb : Lead b i) (hn : ∀ b' ∈ B, ¬ Lead b' i) : Ech (b :: B) := by
  intro v hv
  rcases sp_cons hv with hv | ⟨u, hu, rfl⟩
  · rcases h v hv with h | ⟨b', hb', k, h1, h2⟩
    · exact .inl h
    · exact .inr ⟨b', by simp [hb'], k, h1, h2⟩
  · right
    rcases h u hu with rfl | ⟨b', hb', k, h1, h2⟩
    · rw [vx_comm, vx_v0]; exact ⟨b, by simp, i, hb, hb⟩
    · rcases Nat.lt_trichotomy i k with hl | hl | hl
      · refine ⟨b', by simp [hb'], k, ⟨?_, fun j hj => ?_⟩, h2⟩
        · simp only [vx, h1.1, hb.2 k hl]; rfl
        · simp only [vx, h1.2 j hj, hb.2 j (by omega)]; rfl
      · subst hl; exact absurd h2 (hn b' hb')
      · refine ⟨b, by simp, i, ⟨?_, fun j hj => ?_⟩, hb⟩
        · simp only [vx, h1.2 i hl, hb.1]; rfl
        · simp only [vx, h1.2 j (by omega), hb.2 j hj]; rfl
/-- the signs of p on the classes rep 0, rep 1, .. -/
def vec (n : Nat) (c : Nat → Nat) (m : Nat) (rep : Nat → Nat) (p : List Int) : Nat → Bool := fun o => decide (o < m) && sg n c p (rep o)
theorem vec_mul {n : Nat} {c : Nat → Nat} {m : Nat} {rep : Nat → Nat} {p q : List Int} (hp : Keep n c 0 p) (hq : Keep n c 0 q) : vec n c m rep (mulP p q) = vx (vec n c m rep p) (vec n c m rep q) := by
  funext o; simp only [vec, vx, sg_mul hp hq]; cases decide (o < m) <;> simp
theorem vec_one {n : Nat} (h : 1 ≤ n ∧ n ≤ 512) (c : Nat → Nat) (m : Nat) (rep : Nat → Nat) : vec n c m rep (idList n) = v0 := by
  funext o; simp only [vec, v0, sg_one h]; simp
theorem gen_vec {n : Nat} (h1 : 1 ≤ n ∧ n ≤ 512) {c : Nat → Nat} {m : Nat} {rep : Nat → Nat} {gens : List (List Int)} {B : List (Nat → Bool)} (hk : ∀ g ∈ gens, Keep n c 0 g) (hB : ∀ g ∈ gens, Sp B (vec n c m rep g)) {p : List Int} (hp : Gen n gens p) :
    Keep n c 0 p ∧ Sp B (vec n c m rep p) := by
  induction hp with
  | one => exact ⟨(keep_grp h1 c 0).one, by rw [vec_one h1]; exact .zero⟩
  | mul _ hm ih => exact ⟨(keep_grp h1 c 0).mul _ _ ih.1 (hk _ hm), by rw [vec_mul ih.1 (hk _ hm)]; exact ih.2.xor (hB _ hm)⟩
theorem double {n : Nat} (h1 : 1 ≤ n ∧ n ≤ 512) {gens : List (List Int)} (hg : GensN n gens) {t : List Int} (ht : PermN n t) (hn : ¬ Gen n gens t) {k k' : Nat} (hk : Card (Gen n gens) k) (hk' : Card (Gen n (t :: gens)) k') : 2 * k ≤ k' := by
  obtain ⟨L, hL, hm, rfl⟩ := hk
  obtain ⟨L', hL', hm', rfl⟩ := hk'
  have hG := gen_grp h1 hg
  have hg' : GensN n (t :: gens) := fun g h => by
    rcases List.mem_cons.1 h with rfl | h
    · exact ht
    · exact hg g h
  have hG' := gen_grp h1 hg'
  have hsub : ∀ p, Gen n gens p → Gen n (t :: gens) p := fun p hp => gen_mono (fun g h => by simp [h]) hp
  have := nodup_le (l := L ++ L.map fun s => mulP s t) (m := L') (by
    rw [List.nodup_append]
    refine ⟨hL, nodup_map _ hL fun s hs u hu he => mul_cancel (hG.perm s ((hm s).1 hs)) (hG.perm u ((hm u).1 hu)) ht he, ?_⟩
    intro a ha b hb he
    subst he
    obtain ⟨s, hs, rfl⟩ := List.mem_map.1 hb
    have hs := (hm s).1 hs
    have := hG.mul _ _ (hG.inv hs) ((hm _).1 ha)
    rw [← mul_assoc (hG.perm s hs).inv (hG.perm s hs), inv_mul (hG.perm s hs), one_mul ht] at this
    exact hn this) (by
    intro p hp
    rw [hm']
    rcases List.mem_append.1 hp with hp | hp
    · exact hsub p ((hm p).1 hp)
    · obtain ⟨s, hs, rfl⟩ := List.mem_map.1 hp
      exact hG'.mul _ _ (hsub s ((hm s).1 hs)) (gen_self hg' (by simp)))
  simp only [List.length_append, List.length_map] at this
  omega
def unit (o : Nat) : Nat → Bool := fun x => decide (x = o)
theorem unit_lead (o : Nat) : Lead (unit o) o := ⟨by simp [unit], fun j hj => by simp [unit]; omega⟩
theorem doubles {n : Nat} (h1 : 1 ≤ n ∧ n ≤ 512) {c : Nat → Nat} {m : Nat} {rep : Nat → Nat} (hr : ∀ o, o < m → 2 ≤ cntF c (rep o) 0 n) (hi : ∀ o o', o < m → o' < m → rep o = rep o' → o = o') {M : Nat} (hM : Card (Keep n c 0) M) :
    ∀ (O : List Nat) (gens : List (List Int)) (B : List (Nat → Bool)) (k : Nat), O.Nodup → (∀ o ∈ O, o < m ∧ ∀ b ∈ B, ¬ Lead b o) → (∀ g ∈ gens, Keep n c 0 g) → (∀ g ∈ gens, Sp B (vec n c m rep g)) → Ech B → Card (Gen n gens) k → 2 ^ O.length * k ≤ M
  | [], gens, B, k, _, _, hk, hB, _, hc => by
    rw [List.length_nil, Nat.pow_zero, Nat.one_mul]
    exact hc.le hM fun p hp => (gen_vec (m := m) (rep := rep) h1 hk hB hp).1
  | o :: O, gens, B, k, hn, ho, hk, hB, hE, hc => by
    have ho' := ho o (by simp)
    obtain ⟨a, b, hab, hb, ca, cb⟩ := cnt_two n 0 (hr o ho'.1)
    obtain ⟨tk, ts⟩ := swap_keep h1 (c := c) hab (by omega) (by rw [ca, cb])
    have tv : vec n c m rep (swapL (idList n) a b) = unit o := by
      funext x
      simp only [vec, unit, ts, ca]
      by_cases hx : x = o
      · subst hx; simp [ho'.1]
      · by_cases hxm : x < m
        · have : rep x ≠ rep o := fun h => hx (hi x o hxm ho'.1 h)
          simp [this, hx]
        · simp [hxm, hx]
    have hnot : ¬ Gen n gens (swapL (idList n) a b) := fun hg => by
      have := (gen_vec (m := m) (rep := rep) h1 hk hB hg).2
      rw [tv] at this
      rcases hE _ this with h | ⟨b', hb', i, h2, h3⟩
      · have := congrFun h o; simp [unit, v0] at this
      · rw [h2.unique (unit_lead o)] at h3; exact ho'.2 b' hb' h3
    have hg : GensN n gens := fun g h => (hk g h).1
    have hg' : GensN n (swapL (idList n) a b :: gens) := fun g h => by
      rcases List.mem_cons.1 h with rfl | h
      · exact tk.1
      · exact hg g h
    obtain ⟨k', hk'⟩ := (gen_grp h1 hg').card
    have hd := double h1 hg tk.1 hnot hc hk'
    have hn' := List.nodup_cons.1 hn
    have := doubles h1 hr hi hM O (swapL (idList n) a b :: gens) (unit o :: B) k' hn'.2 (fun x hx => by
        refine ⟨(ho x (by simp [hx])).1, fun b' hb' hl => ?_⟩
        rcases List.mem_cons.1 hb' with rfl | hb'
        · have := hl.unique (unit_lead o); subst this; exact hn'.1 hx
        · exact (ho x (by simp [hx])).2 b' hb' hl)
      (fun g h => by
        rcases List.mem_cons.1 h with rfl | h
        · exact tk
        · exact hk g h)
      (fun g h => by
        rcases List.mem_cons.1 h with rfl | h
        · rw [tv]; exact .self (by simp)
        · exact (hB g h).mono fun b hb => by simp [hb])
      (hE.cons (unit_lead o) ho'.2) hk'
    rw [List.length_cons, Nat.pow_succ, Nat.mul_assoc]
    exact Nat.le_trans (Nat.mul_le_mul_left _ hd) this
/-- the bound on the number of elements -/
theorem bound_le {n : Nat} (h1 : 1 ≤ n ∧ n ≤ 512) {c : Nat → Nat} (hc : ∀ x, x < n → c x < n) {m : Nat} {rep : Nat → Nat} (hr : ∀ o, o < m → 2 ≤ cntF c (rep o) 0 n) (hi : ∀ o o', o < m → o' < m → rep o = rep o' → o = o')
    {gens : List (List Int)} (hk : ∀ g ∈ gens, Keep n c 0 g) {B : List (Nat × (Nat → Bool))} (hl : ∀ b ∈ B, Lead b.2 b.1) (hB : ∀ g ∈ gens, Sp (B.map (·.2)) (vec n c m rep g)) (hE : Ech (B.map (·.2))) {k : Nat} (hcard : Card (Gen n gens) k) :
    2 ^ m * k ≤ 2 ^ B.length * prodR (fun r => fac (cntF c r 0 n)) n := by
  obtain ⟨M, hM⟩ := (keep_grp h1 c 0).card
  have hle := keep_le h1 hc hM
  let O := (List.range m).filter fun o => decide (o ∉ B.map (·.1))
  have hO : ∀ o ∈ O, o < m ∧ ∀ b ∈ B.map (·.2), ¬ Lead b o := fun o ho => by
    rw [List.mem_filter, List.mem_range, decide_eq_true_eq] at ho
    refine ⟨ho.1, fun b hb hlead => ho.2 ?_⟩
    obtain ⟨b', hb', rfl⟩ := List.mem_map.1 hb
    exact List.mem_map.2 ⟨b', hb', ((hl b' hb').unique hlead)⟩
  have h2 := doubles h1 hr hi hM O gens _ k (List.nodup_range.sublist List.filter_sublist) hO hk hB hE hcard
  have h3 : m ≤ O.length + B.length := by
    have := nodup_le (l := List.range m) (m := O ++ B.map (·.1)) List.nodup_range (fun o ho => by
      rw [List.mem_append]
      by_cases h : o ∈ B.map (·.1)
      · exact .inr h
      · exact .inl (List.mem_filter.2 ⟨ho, decide_eq_true h⟩))
    simpa using this
  calc 2 ^ m * k ≤ 2 ^ (O.length + B.length) * k := Nat.mul_le_mul_right _ (Nat.pow_le_pow_right (by decide) h3)
    _ = 2 ^ B.length * (2 ^ O.length * k) := by rw [Nat.pow_add, Nat.mul_comm (2 ^ O.length), Nat.mul_assoc]
    _ ≤ _ := Nat.mul_le_mul_left _ (Nat.le_trans h2 hle)
end Go.PM

namespace Go.Proofs.YthhfjagnmhhapaaGreat
open Go.W Go.PM
abbrev u16L (xs : List Int) : List Value := xs.map (Value.int .u16)
/-- a new permutation of the program's own kind -/
def NewP (w : World) (xs : List Int) (v : Value) (w' : World) : Prop := ∃ g, v = .slice (some ⟨g, 0, none⟩) xs.length xs.length ∧ w.heap.size ≤ g ∧ Blk w' g 70 (u16L xs) ∧ Ex w w'
theorem toPerm_spec {xs : List Int} {a : Option Addr} {w : World} (hx : Sl w a (intsL xs)) (cap : Nat) (hr : ∀ k, k < xs.length → 0 ≤ xs.getD k 0 ∧ xs.getD k 0 ≤ 65535) (hl : xs.length ≤ 512) :
    CallsR Tryz.prog 47 #[.slice a xs.length cap] w (NewP w xs) := by
  refine callsR_of (args := [_]) Tryz.func47 rfl rfl ?_
  repeat' (first | (refine k_makeI rfl rfl (by omega) (by omega) (fun g w1 hn1 => ⟨fun _ _ => trivial, ?_⟩)) | (refine k_pure rfl ?_) | (refine then_normal ?_) | (refine cw_seq ?_) | (refine cw_region rfl ?_) | (refine rr_nil ?_) | (refine k_len rfl ?_) | (refine cw_block ?_))
  refine cw_loop (ι := Nat × List Int) [4, 5, 11, 12, 13, 14, 15, 16, 17, 18, 19, 20, 21] (fun s => [(11, .int .i64 (s.1 : Int))]) (fun s w' => s.1 ≤ xs.length ∧ Ex w w' ∧ Blk w' g 70 (u16L s.2) ∧ s.2.length = xs.length ∧ s.2.take s.1 = xs.take s.1) (fun s => xs.length - s.1)
    (0, List.replicate xs.length 0) ⟨rfl, trivial⟩ ⟨by simp, hn1.ex, hn1.blk, by simp, rfl⟩ ?_
  rintro ⟨k, rs⟩ ξ w2 ⟨hk, hE, hb, hl2, hT⟩
  simp only at hk hb hl2 hT
  show CW _ _ _ _ (over [(11, .int .i64 (k : Int))] _) w2
  have hx2 := hx.ext hE
  repeat' (first | (refine k_indexN rfl rfl ⟨_, _, rfl⟩ (by omega) ?_) | (refine k_indexN rfl rfl (hx2.plain (by simp; omega)) (by omega) ?_) | (refine k_loadI rfl hx2 (by omega) ?_) | (refine k_convI rfl (wrap_u16 (hr k (by omega)).1 (hr k (by omega)).2) ?_) | (refine k_storeI rfl rfl hb (by omega) (fun w3 hc3 hb3 => ⟨fun _ _ => trivial, ?_⟩)) | (refine k_pure rfl ?_) | (refine then_normal ?_) | (refine cw_seq ?_) | (refine cw_region rfl ?_) | (refine rr_nil ?_) | (refine k_addI rfl rfl (by omega) (by omega) ?_) | (refine cw_cond_dec rfl (fun hc => ?_) (fun hc => ?_)) | (refine cw_block ?_) | (refine cw_exit ?_) | (refine then_exit ?_) | (refine in_exit ?_) | (refine in_normal ?_) | (refine cw_ret ?_) | (refine cw_skip ?_))
  · refine ⟨⟨(k + 1, rs.set k (xs.getD k 0)), ⟨by simp only; omega, hE.chg hc3 hn1.lo, hb3, by simp [hl2], ?_⟩, by simp only; omega, rfl, trivial⟩, (by (repeat (first | exact agree_mask _ _ _ | refine agree_upd rfl ?_ | refine agree_updO rfl ?_ | refine agree_overIn rfl ?_ | refine agree_maskIn rfl ?_)))⟩
    simp only
    rw [take_set_succ (by omega), hT, take_succ_getD xs 0 (by omega)]
  · obtain rfl : k = xs.length := by omega
    rw [List.take_of_length_le (by omega), List.take_of_length_le (by omega)] at hT
    subst hT
    exact ret1 rfl (rt rfl) ⟨g, rfl, hn1.lo, hb, hE⟩
theorem toInts_spec {xs : List Int} {a : Option Addr} {w : World} (hx : Sl w a (u16L xs)) (cap : Nat) (hr : ∀ k, k < xs.length → 0 ≤ xs.getD k 0 ∧ xs.getD k 0 ≤ 65535) (hl : xs.length ≤ 512) :
    CallsR Tryz.prog 26 #[.slice a xs.length cap] w (fun v w' => ∃ g, v = .slice (some ⟨g, 0, none⟩) xs.length xs.length ∧ w.heap.size ≤ g ∧ Blk w' g 3 (intsL xs) ∧ Ex w w') := by
  refine callsR_of (args := [_]) Tryz.func26 rfl rfl ?_
  repeat' (first | (refine k_makeI rfl rfl (by omega) (by omega) (fun g w1 hn1 => ⟨fun _ _ => trivial, ?_⟩)) | (refine k_pure rfl ?_) | (refine then_normal ?_) | (refine cw_seq ?_) | (refine cw_region rfl ?_) | (refine rr_nil ?_) | (refine k_len rfl ?_) | (refine cw_block ?_))
  refine cw_loop (ι := Nat × List Int) [4, 5, 11, 12, 13, 14, 15, 16, 17, 18, 19, 20, 21] (fun s => [(11, .int .i64 (s.1 : Int))]) (fun s w' => s.1 ≤ xs.length ∧ Ex w w' ∧ Blk w' g 3 (intsL s.2) ∧ s.2.length = xs.length ∧ s.2.take s.1 = xs.take s.1) (fun s => xs.length - s.1)
    (0, List.replicate xs.length 0) ⟨rfl, trivial⟩ ⟨by simp, hn1.ex, hn1.blk, by simp, rfl⟩ ?_
  rintro ⟨k, rs⟩ ξ w2 ⟨hk, hE, hb, hl2, hT⟩
  simp only at hk hb hl2 hT
  show CW _ _ _ _ (over [(11, .int .i64 (k : Int))] _) w2
  have hx2 := hx.ext hE
  repeat' (first | (refine k_indexN rfl rfl ⟨_, _, rfl⟩ (by omega) ?_) | (refine k_indexN rfl rfl (hx2.plain (by simp; omega)) (by omega) ?_) | (refine k_loadI rfl hx2 (by omega) ?_) | (refine k_convI rfl (wrap_i64 (by have := hr k (by omega); omega) (by have := hr k (by omega); omega)) ?_) | (refine k_storeI rfl rfl hb (by omega) (fun w3 hc3 hb3 => ⟨fun _ _ => trivial, ?_⟩)) | (refine k_pure rfl ?_) | (refine then_normal ?_) | (refine cw_seq ?_) | (refine cw_region rfl ?_) | (refine rr_nil ?_) | (refine k_addI rfl rfl (by omega) (by omega) ?_) | (refine cw_cond_dec rfl (fun hc => ?_) (fun hc => ?_)) | (refine cw_block ?_) | (refine cw_exit ?_) | (refine then_exit ?_) | (refine in_exit ?_) | (refine in_normal ?_) | (refine cw_ret ?_) | (refine cw_skip ?_))
  · refine ⟨⟨(k + 1, rs.set k (xs.getD k 0)), ⟨by simp only; omega, hE.chg hc3 hn1.lo, hb3, by simp [hl2], ?_⟩, by simp only; omega, rfl, trivial⟩, (by (repeat (first | exact agree_mask _ _ _ | refine agree_upd rfl ?_ | refine agree_updO rfl ?_ | refine agree_overIn rfl ?_ | refine agree_maskIn rfl ?_)))⟩
    simp only
    rw [take_set_succ (by omega), hT, take_succ_getD xs 0 (by omega)]
  · obtain rfl : k = xs.length := by omega
    rw [List.take_of_length_le (by omega), List.take_of_length_le (by omega)] at hT
    subst hT
    exact ret1 rfl (rt rfl) ⟨g, rfl, hn1.lo, hb, hE⟩
theorem ident_spec {n : Nat} (h : n ≤ 512) (w : World) : CallsR Tryz.prog 21 #[.int .i64 (n : Int)] w (NewP w (idList n)) := by
  refine callsR_of (args := [_]) Tryz.func21 rfl rfl ?_
  repeat' (first | (refine k_makeI rfl rfl (by omega) (by omega) (fun g w1 hn1 => ⟨fun _ _ => trivial, ?_⟩)) | (refine k_pure rfl ?_) | (refine then_normal ?_) | (refine cw_seq ?_) | (refine cw_region rfl ?_) | (refine rr_nil ?_) | (refine k_len rfl ?_) | (refine cw_block ?_))
  refine cw_loop (ι := Nat × List Int) [4, 9, 10, 11, 12, 13, 14, 15, 16, 17] (fun s => [(9, .int .i64 (s.1 : Int))]) (fun s w' => s.1 ≤ n ∧ Ex w w' ∧ Blk w' g 70 (u16L s.2) ∧ s.2.length = n ∧ s.2.take s.1 = idList s.1) (fun s => n - s.1)
    (0, List.replicate n 0) ⟨rfl, trivial⟩ ⟨by simp, hn1.ex, hn1.blk, by simp, rfl⟩ ?_
  rintro ⟨k, rs⟩ ξ w2 ⟨hk, hE, hb, hl2, hT⟩
  simp only at hk hb hl2 hT
  show CW _ _ _ _ (over [(9, .int .i64 (k : Int))] _) w2
  repeat' (first | (refine k_indexN rfl rfl ⟨_, _, rfl⟩ (by omega) ?_) | (refine k_convI rfl (wrap_u16 (by omega) (by omega)) ?_) | (refine k_storeI rfl rfl hb (by omega) (fun w3 hc3 hb3 => ⟨fun _ _ => trivial, ?_⟩)) | (refine k_pure rfl ?_) | (refine then_normal ?_) | (refine cw_seq ?_) | (refine cw_region rfl ?_) | (refine rr_nil ?_) | (refine k_addI rfl rfl (by omega) (by omega) ?_) | (refine cw_cond_dec rfl (fun hc => ?_) (fun hc => ?_)) | (refine cw_block ?_) | (refine cw_exit ?_) | (refine then_exit ?_) | (refine in_exit ?_) | (refine in_normal ?_) | (refine cw_ret ?_) | (refine cw_skip ?_))
  · refine ⟨⟨(k + 1, rs.set k (k : Int)), ⟨by simp only; omega, hE.chg hc3 hn1.lo, hb3, by simp [hl2], ?_⟩, by simp only; omega, rfl, trivial⟩, (by (repeat (first | exact agree_mask _ _ _ | refine agree_upd rfl ?_ | refine agree_updO rfl ?_ | refine agree_overIn rfl ?_ | refine agree_maskIn rfl ?_)))⟩
    simp only
    rw [take_set_succ (by omega), hT, idList_succ]
  · obtain rfl : k = n := by omega
    rw [List.take_of_length_le (by omega)] at hT
    subst hT
    exact ret1 rfl (rt rfl) ⟨g, by rw [idList_length]; rfl, hn1.lo, hb, hE⟩
/-- m is the first moved point, -1 if there is none -/
def Moved (p : List Int) (m : Int) : Prop := (m = -1 ∧ p = idList p.length) ∨ (0 ≤ m ∧ m < p.length ∧ ap p m ≠ m)
theorem Moved.neg {p : List Int} {m : Int} (h : Moved p m) : m < 0 ↔ p = idList p.length := by
  rcases h with ⟨h1, h2⟩ | ⟨h1, h2, h3⟩
  · exact ⟨fun _ => h2, fun _ => by omega⟩
  · refine ⟨fun h => by omega, fun h => absurd ?_ h3⟩
    rw [h]; exact ap_id ⟨h1, h2⟩
theorem moved_spec {xs : List Int} {a : Option Addr} {w : World} (hx : Sl w a (u16L xs)) (cap : Nat) (hr : ∀ k, k < xs.length → 0 ≤ xs.getD k 0 ∧ xs.getD k 0 ≤ 65535) (hl : xs.length ≤ 512) :
    CallsR Tryz.prog 48 #[.slice a xs.length cap] w (fun v w' => ∃ m, v = .int .i64 m ∧ Moved xs m ∧ Ex w w') := by
  refine callsR_of (args := [_]) Tryz.func48 rfl rfl ?_
  repeat' (first | (refine k_pure rfl ?_) | (refine then_normal ?_) | (refine cw_seq ?_) | (refine cw_region rfl ?_) | (refine rr_nil ?_) | (refine k_len rfl ?_) | (refine cw_block ?_))
  refine cw_loop (ι := Nat) [2, 3, 4, 7, 8, 9, 10, 11, 12, 13, 14, 15, 16, 17] (fun s => [(7, .int .i64 (s : Int))]) (fun s w' => s ≤ xs.length ∧ Ex w w' ∧ xs.take s = idList s) (fun s => xs.length - s)
    0 ⟨rfl, trivial⟩ ⟨by simp, Ex.refl _, rfl⟩ ?_
  rintro k ξ w2 ⟨hk, hE, hT⟩
  show CW _ _ _ _ (over [(7, .int .i64 (k : Int))] _) w2
  have hx2 := hx.ext hE
  repeat' (first | (refine k_indexN rfl rfl (hx2.plain (by simp; omega)) (by omega) ?_) | (refine k_loadI rfl hx2 (by omega) ?_) | (refine k_convI rfl (wrap_i64 (by have := hr k (by omega); omega) (by have := hr k (by omega); omega)) ?_) | (refine k_pure rfl ?_) | (refine then_normal ?_) | (refine cw_seq ?_) | (refine cw_region rfl ?_) | (refine rr_nil ?_) | (refine k_addI rfl rfl (by omega) (by omega) ?_) | (refine cw_cond_dec rfl (fun hc => ?_) (fun hc => ?_)) | (refine cw_block ?_) | (refine cw_exit ?_) | (refine then_exit ?_) | (refine in_exit ?_) | (refine in_normal ?_) | (refine cw_ret ?_) | (refine then_ret ?_) | (refine in_ret ?_) | (refine cw_skip ?_))
  · exact ret1 rfl (rt rfl) ⟨_, rfl, .inr ⟨by omega, by omega, by unfold ap; rw [Int.toNat_natCast]; assumption⟩, hE⟩
  · refine ⟨⟨k + 1, ⟨by omega, hE, ?_⟩, by omega, rfl, trivial⟩, (by (repeat (first | exact agree_mask _ _ _ | refine agree_upd rfl ?_ | refine agree_updO rfl ?_ | refine agree_overIn rfl ?_ | refine agree_maskIn rfl ?_)))⟩
    have e : xs.getD k 0 = (k : Int) := by omega
    rw [take_succ_getD xs 0 (by omega), hT, idList_succ, e]
  · obtain rfl : k = xs.length := by omega
    rw [List.take_of_length_le (by omega)] at hT
    exact ret1 rfl (rt rfl) ⟨_, rfl, .inl ⟨rfl, hT⟩, hE⟩
theorem times_spec {xs ys : List Int} {a b : Option Addr} {w : World} (hx : Sl w a (u16L xs)) (hy : Sl w b (u16L ys)) (c1 c2 : Nat) (hr : ∀ k, k < xs.length → 0 ≤ xs.getD k 0 ∧ xs.getD k 0 < ys.length) (hl : xs.length ≤ 512) :
    CallsR Tryz.prog 23 #[.slice a xs.length c1, .slice b ys.length c2] w (NewP w (mulP xs ys)) := by
  refine callsR_of (args := [_, _]) Tryz.func23 rfl rfl ?_
  repeat' (first | (refine k_makeI rfl rfl (by omega) (by omega) (fun g w1 hn1 => ⟨fun _ _ => trivial, ?_⟩)) | (refine k_pure rfl ?_) | (refine then_normal ?_) | (refine cw_seq ?_) | (refine cw_region rfl ?_) | (refine rr_nil ?_) | (refine k_len rfl ?_) | (refine cw_block ?_))
  refine cw_loop (ι := Nat × List Int) [6, 7, 13, 14, 15, 16, 17, 18, 19, 20, 21, 22, 23, 24, 25] (fun s => [(13, .int .i64 (s.1 : Int))]) (fun s w' => s.1 ≤ xs.length ∧ Ex w w' ∧ Blk w' g 70 (u16L s.2) ∧ s.2.length = xs.length ∧ s.2.take s.1 = mulP (xs.take s.1) ys) (fun s => xs.length - s.1)
    (0, List.replicate xs.length 0) ⟨rfl, trivial⟩ ⟨by simp, hn1.ex, hn1.blk, by simp, rfl⟩ ?_
  rintro ⟨k, rs⟩ ξ w2 ⟨hk, hE, hb, hl2, hT⟩
  simp only at hk hb hl2 hT
  show CW _ _ _ _ (over [(13, .int .i64 (k : Int))] _) w2
  have hx2 := hx.ext hE
  have hy2 := hy.ext hE
  repeat' (first | (refine k_indexN rfl rfl ⟨_, _, rfl⟩ (by omega) ?_) | (refine k_indexN rfl rfl (hx2.plain (by simp; omega)) (by omega) ?_) | (refine k_index1 rfl rfl (hy2.plain (by have := hr k (by omega); simp; omega)) (hr k (by omega)).1 (hr k (by omega)).2 ?_) | (refine k_loadI rfl hx2 (by omega) ?_) | (refine k_loadI rfl hy2 (by have := hr k (by omega); omega) ?_) | (refine k_storeI rfl rfl hb (by omega) (fun w3 hc3 hb3 => ⟨fun _ _ => trivial, ?_⟩)) | (refine k_pure rfl ?_) | (refine then_normal ?_) | (refine cw_seq ?_) | (refine cw_region rfl ?_) | (refine rr_nil ?_) | (refine k_addI rfl rfl (by omega) (by omega) ?_) | (refine cw_cond_dec rfl (fun hc => ?_) (fun hc => ?_)) | (refine cw_block ?_) | (refine cw_exit ?_) | (refine then_exit ?_) | (refine in_exit ?_) | (refine in_normal ?_) | (refine cw_ret ?_) | (refine cw_skip ?_))
  · refine ⟨⟨(k + 1, rs.set k (ys.getD (xs.getD k 0).toNat 0)), ⟨by simp only; omega, hE.chg hc3 hn1.lo, hb3, by simp [hl2], ?_⟩, by simp only; omega, rfl, trivial⟩, (by (repeat (first | exact agree_mask _ _ _ | refine agree_upd rfl ?_ | refine agree_updO rfl ?_ | refine agree_overIn rfl ?_ | refine agree_maskIn rfl ?_)))⟩
    simp only
    rw [take_set_succ (by omega), hT, mulP_snoc (by omega)]
  · obtain rfl : k = xs.length := by omega
    rw [List.take_of_length_le (by omega), List.take_of_length_le (by omega)] at hT
    subst hT
    exact ret1 rfl (rt rfl) ⟨g, by rw [mulP_length]; rfl, hn1.lo, hb, hE⟩
theorem invTo_getD {p : List Int} (hp : IsPerm p) : ∀ k, k ≤ p.length → ∀ j, j < k → (invTo p k).getD (p.getD j 0).toNat 0 = j
  | 0, _, j, hj => by omega
  | k + 1, hk, j, hj => by
    have h1 := hp.lt (k := j) (by omega); have h2 := hp.lt (k := k) (by omega)
    rw [invTo, List.getD_eq_getElem?_getD, List.getElem?_set, invTo_len]
    by_cases hjk : j = k
    · subst hjk; rw [if_pos rfl, if_pos (by omega)]; rfl
    · have hne : p.getD j 0 ≠ p.getD k 0 := (dist_iff.1 hp.2.2).2 j k (by omega) (by omega)
      rw [if_neg (by omega), ← List.getD_eq_getElem?_getD]
      exact invTo_getD hp k (by omega) j (by omega)
theorem invTo_inv {n : Nat} {p : List Int} (hp : PermN n p) : invTo p p.length = inv p := by
  refine inv_of_ap hp (by rw [invTo_len, hp.2]) fun x h0 h1 => ?_
  have := invTo_getD hp.1 p.length (Nat.le_refl _) x.toNat (by rw [hp.2]; omega)
  unfold ap; rw [this]; omega
theorem pinv_spec {n : Nat} {xs : List Int} {a : Option Addr} {w : World} (hx : Sl w a (u16L xs)) (cap : Nat) (hp : PermN n xs) :
    CallsR Tryz.prog 22 #[.slice a xs.length cap] w (NewP w (inv xs)) := by
  refine callsR_of (args := [_]) Tryz.func22 rfl rfl ?_
  have hl : xs.length ≤ 512 := hp.1.2.1
  repeat' (first | (refine k_makeI rfl rfl (by omega) (by omega) (fun g w1 hn1 => ⟨fun _ _ => trivial, ?_⟩)) | (refine k_pure rfl ?_) | (refine then_normal ?_) | (refine cw_seq ?_) | (refine cw_region rfl ?_) | (refine rr_nil ?_) | (refine k_len rfl ?_) | (refine cw_block ?_))
  refine cw_loop (ι := Nat) [4, 5, 11, 12, 13, 14, 15, 16, 17, 18, 19, 20, 21] (fun s => [(11, .int .i64 (s : Int))]) (fun s w' => s ≤ xs.length ∧ Ex w w' ∧ Blk w' g 70 (u16L (invTo xs s))) (fun s => xs.length - s)
    0 ⟨rfl, trivial⟩ ⟨by simp, hn1.ex, hn1.blk⟩ ?_
  rintro k ξ w2 ⟨hk, hE, hb⟩
  show CW _ _ _ _ (over [(11, .int .i64 (k : Int))] _) w2
  have hx2 := hx.ext hE
  have hr : k < xs.length → 0 ≤ xs.getD k 0 ∧ xs.getD k 0 < xs.length := fun h => hp.1.lt h
  obtain ⟨j, hj⟩ : ∃ j : Nat, k < xs.length → xs.getD k 0 = (j : Int) := ⟨(xs.getD k 0).toNat, fun h => by have := hr h; omega⟩
  repeat' (first | (refine k_indexN rfl rfl (hx2.plain (by simp; omega)) (by omega) ?_) | (refine k_loadI rfl hx2 (by omega) ?_) | (refine k_indexN rfl (congrArg _ (hj (by omega))) ⟨_, _, rfl⟩ (by have := hr (by omega); have := hj (by omega); omega) ?_) | (refine k_convI rfl (wrap_u16 (by omega) (by omega)) ?_) | (refine k_storeI rfl rfl hb (by rw [invTo_len]; have := hr (by omega); have := hj (by omega); omega) (fun w3 hc3 hb3 => ⟨fun _ _ => trivial, ?_⟩)) | (refine k_pure rfl ?_) | (refine then_normal ?_) | (refine cw_seq ?_) | (refine cw_region rfl ?_) | (refine rr_nil ?_) | (refine k_addI rfl rfl (by omega) (by omega) ?_) | (refine cw_cond_dec rfl (fun hc => ?_) (fun hc => ?_)) | (refine cw_block ?_) | (refine cw_exit ?_) | (refine then_exit ?_) | (refine in_exit ?_) | (refine in_normal ?_) | (refine cw_ret ?_) | (refine cw_skip ?_))
  · refine ⟨⟨k + 1, ⟨by omega, hE.chg hc3 hn1.lo, ?_⟩, by omega, rfl, trivial⟩, (by (repeat (first | exact agree_mask _ _ _ | refine agree_upd rfl ?_ | refine agree_updO rfl ?_ | refine agree_overIn rfl ?_ | refine agree_maskIn rfl ?_)))⟩
    have e : (xs.getD k 0).toNat = j := by have := hj (by omega); omega
    rw [invTo, e]; exact hb3
  · obtain rfl : k = xs.length := by omega
    rw [invTo_inv hp] at hb
    exact ret1 rfl (rt rfl) ⟨g, by rw [hp.inv.2, hp.2]; rfl, hn1.lo, hb, hE⟩
end Go.Proofs.YthhfjagnmhhapaaGreat

/- Worlds in which only the blocks of a set may have changed. -/
namespace Go.W
open Go.RowKit (Below)
structure Fr (F : Nat → Prop) (w w' : World) : Prop where
  os : w'.os = w.os
  tape : w'.tape = w.tape
  output : w'.output = w.output
  size : w.heap.size ≤ w'.heap.size
  block : ∀ k, k < w.heap.size → ¬ F k → w'.heap[k]? = w.heap[k]?
theorem Fr.refl (F : Nat → Prop) (w : World) : Fr F w w := ⟨rfl, rfl, rfl, Nat.le_refl _, fun _ _ _ => rfl⟩
theorem Fr.trans {F : Nat → Prop} {w w1 w2 : World} (h : Fr F w w1) (k : Fr F w1 w2) : Fr F w w2 :=
  ⟨k.os.trans h.os, k.tape.trans h.tape, k.output.trans h.output, Nat.le_trans h.size k.size, fun i hi hn => (k.block i (Nat.lt_of_lt_of_le hi h.size) hn).trans (h.block i hi hn)⟩
theorem Fr.mono {F G : Nat → Prop} {w w1 : World} (h : Fr F w w1) (hs : ∀ k, k < w.heap.size → F k → G k) : Fr G w w1 :=
  ⟨h.os, h.tape, h.output, h.size, fun i hi hn => h.block i hi fun hf => hn (hs i hi hf)⟩
/-- a second change, of blocks that are in F or new -/
theorem Fr.then {F G : Nat → Prop} {w w1 w2 : World} (h : Fr F w w1) (k : Fr G w1 w2) (hs : ∀ i, i < w.heap.size → G i → F i) : Fr F w w2 :=
  ⟨k.os.trans h.os, k.tape.trans h.tape, k.output.trans h.output, Nat.le_trans h.size k.size, fun i hi hn => (k.block i (Nat.lt_of_lt_of_le hi h.size) fun hg => hn (hs i hi hg)).trans (h.block i hi hn)⟩
theorem Ex.fr {F : Nat → Prop} {w w' : World} (h : Ex w w') : Fr F w w' := ⟨h.os, h.tape, h.output, h.size, fun k hk _ => h.block k hk⟩
theorem Chg.fr {F : Nat → Prop} {w w' : World} {g : Nat} (h : Chg g w w') (hg : F g) : Fr F w w' := ⟨h.os, h.tape, h.output, Nat.le_of_eq h.size.symm, fun k _ hn => h.block k (by rintro rfl; exact hn hg)⟩
theorem Fr.ex {F : Nat → Prop} {w0 w w' : World} (e : Ex w0 w) (h : Fr F w w') (hF : ∀ k, F k → w0.heap.size ≤ k) : Ex w0 w' :=
  Below.trans e ⟨h.os, h.tape, h.output, h.size, fun k hk => h.block k (Nat.lt_of_lt_of_le hk e.size) fun hf => absurd (hF k hf) (Nat.not_le_of_lt hk)⟩
theorem Blk.fr {F : Nat → Prop} {w w' : World} {g T : Nat} {cs : List Value} (hb : Blk w g T cs) (h : Fr F w w') (hn : ¬ F g) : Blk w' g T cs := (h.block g hb.lt hn).trans hb
theorem Sl.fr {F : Nat → Prop} {w w' : World} {a : Option Addr} {vs : List Value} (hs : Sl w a vs) (h : Fr F w w') (hn : ∀ ad, a = some ad → ¬ F ad.block) : Sl w' a vs := by
  refine ⟨hs.ok, fun j hj => ?_⟩
  have hlt := World.block_lt_of_cell? w _ (hs.get j hj)
  obtain ⟨b, o, rfl⟩ := hs.plain (by omega)
  rw [World.cell?_of_block (w := w) (a := elt (some ⟨b, o, none⟩) j) (h.block b hlt (hn _ rfl))]; exact hs.get j hj
theorem grown_fr {F : Nat → Prop} {w w' : World} {r : Option Nat} (h : w.grownBy w' r) (hF : ∀ k, r = some k → F k) : Fr F w w' :=
  ⟨h.os, h.tape, h.output, h.size, fun k hk hn => h.block k hk (by intro e; exact hn (hF k e.symm))⟩
end Go.W

