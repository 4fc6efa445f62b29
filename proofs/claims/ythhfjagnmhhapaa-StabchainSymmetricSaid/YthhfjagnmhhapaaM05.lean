
import Derived.Test.YthhfjagnmhhapaaM01
import Derived.Test.YthhfjagnmhhapaaM02
import Derived.Test.YthhfjagnmhhapaaM03
import Derived.Test.YthhfjagnmhhapaaM04

/- Signs of permutations on the classes of a partition, spans modulo 2, and the bound on the number of elements of a group. No program in sight. -/
namespace Go.PM
/-- p on the class r, the identity elsewhere -/
def restr (n : Nat) (c : Nat → Nat) (r : Nat) (p : List Int) : List Int := (idList n).map fun x => if c x.toNat = r then ap p x else x
theorem restr_len (n : Nat) (c : Nat → Nat) (r : Nat) (p : List Int) : (restr n c r p).length = n := by simp [restr, idList_length]
theorem restr_getD {n : Nat} (c : Nat → Nat) (r : Nat) (p : List Int) {x : Nat} (hx : x < n) : (restr n c r p).getD x 0 = if c x = r then ap p x else x := by
  have h1 : x < (idList n).length := by rw [idList_length]; exact hx
  have e := idList_getD hx
  unfold restr
  rw [List.getD_eq_getElem?_getD, List.getElem?_eq_getElem h1] at e
  simp only [Option.getD_some] at e
  rw [List.getD_eq_getElem?_getD, List.getElem?_map, List.getElem?_eq_getElem h1]
  simp only [Option.map_some, Option.getD_some, e, Int.toNat_natCast]
theorem ap_restr {n : Nat} (c : Nat → Nat) (r : Nat) (p : List Int) {x : Int} (hx : 0 ≤ x ∧ x < n) : ap (restr n c r p) x = if c x.toNat = r then ap p x else x := by
  have := restr_getD c r p (x := x.toNat) (n := n) (by omega)
  unfold ap; unfold ap at this
  rw [this, Int.toNat_of_nonneg hx.1]
theorem restr_perm {n : Nat} {c : Nat → Nat} {p : List Int} (h : Keep n c 0 p) (r : Nat) : PermN n (restr n c r p) := by
  have hn := h.1.n1
  refine ⟨⟨by rw [restr_len]; omega, by rw [restr_len]; omega, ?_⟩, restr_len ..⟩
  rw [restr_len, dist_iff, restr_len]
  refine ⟨fun k hk => ?_, fun i j hij hj => ?_⟩
  · rw [restr_getD c r p hk]
    split
    · exact h.1.ap (by omega)
    · omega
  · rw [restr_getD c r p (by omega), restr_getD c r p hj]
    have ci := h.2.1 i (by omega); have cj := h.2.1 j hj
    intro he
    split at he <;> split at he
    · have := h.1.inj (x := (i : Int)) (y := (j : Int)) (by omega) (by omega) he; omega
    · rename_i h1 h2; rw [he] at ci; simp only [Int.toNat_natCast] at ci; omega
    · rename_i h1 h2; rw [← he] at cj; simp only [Int.toNat_natCast] at cj; omega
    · omega
theorem restr_mul {n : Nat} {c : Nat → Nat} {p q : List Int} (hp : Keep n c 0 p) (_hq : Keep n c 0 q) (r : Nat) : restr n c r (mulP p q) = mulP (restr n c r p) (restr n c r q) := by
  apply perm_ext (n := n) (restr_len ..) (by rw [mulP_length, restr_len])
  intro x h0 h1
  have cx := hp.2.1 x.toNat (by omega)
  rw [Int.toNat_of_nonneg h0] at cx
  rw [ap_mul (restr_perm hp r) ⟨h0, h1⟩, ap_restr c r _ ⟨h0, h1⟩, ap_restr c r p ⟨h0, h1⟩]
  split
  · rename_i h; rw [ap_restr c r q (hp.1.ap ⟨h0, h1⟩), if_pos (by rw [cx, h]), ap_mul hp.1 ⟨h0, h1⟩]
  · rename_i h; rw [ap_restr c r q ⟨h0, h1⟩, if_neg h]
def sg (n : Nat) (c : Nat → Nat) (p : List Int) (r : Nat) : Bool := !evenF (restr n c r p)
theorem sg_mul {n : Nat} {c : Nat → Nat} {p q : List Int} (hp : Keep n c 0 p) (hq : Keep n c 0 q) (r : Nat) : sg n c (mulP p q) r = (sg n c p r ^^ sg n c q r) := by
  have hp' := restr_perm hp r; have hq' := restr_perm hq r
  unfold sg
  rw [restr_mul hp hq, even_mul hp'.1 hq'.1 (by rw [hp'.2, hq'.2]) (hp'.mul hq').1]
  cases evenF (restr n c r p) <;> cases evenF (restr n c r q) <;> rfl
theorem even_id {n : Nat} (h : 1 ≤ n ∧ n ≤ 512) : evenF (idList n) = true := by
  rw [even_eq (permN_id h).1, evenR, idList_length, inv_id n n (Nat.le_refl _)]; rfl
theorem restr_id {n : Nat} (c : Nat → Nat) (r : Nat) {p : List Int} (h : ∀ x : Nat, x < n → c x = r → ap p x = x) : restr n c r p = idList n := by
  apply perm_ext (n := n) (restr_len ..) (idList_length n)
  intro x h0 h1
  rw [ap_restr c r p ⟨h0, h1⟩, ap_id ⟨h0, h1⟩]
  split
  · rename_i hc; have := h x.toNat (by omega) hc; rwa [Int.toNat_of_nonneg h0] at this
  · rfl
theorem sg_one {n : Nat} (h : 1 ≤ n ∧ n ≤ 512) (c : Nat → Nat) (r : Nat) : sg n c (idList n) r = false := by
  unfold sg; rw [restr_id c r (fun x hx _ => ap_id (by omega)), even_id h]; rfl
/-- a transposition of two points of a class -/
theorem swap_keep {n : Nat} (h1 : 1 ≤ n ∧ n ≤ 512) {c : Nat → Nat} {a b : Nat} (hab : a < b) (hb : b < n) (hc : c a = c b) :
    Keep n c 0 (swapL (idList n) a b) ∧ ∀ r, sg n c (swapL (idList n) a b) r = decide (r = c a) := by
  have hl : a < (idList n).length ∧ b < (idList n).length := by rw [idList_length]; omega
  have hp : PermN n (swapL (idList n) a b) := by
    refine ⟨⟨?_, ?_, ?_⟩, ?_⟩
    · rw [swapL_length, idList_length]; omega
    · rw [swapL_length, idList_length]; omega
    · rw [swapL_length, idList_length]; exact swapL_dist hl.1 hl.2 (idList_dist n)
    · rw [swapL_length, idList_length]
  have hap : ∀ x : Nat, x < n → ap (swapL (idList n) a b) x = if x = b then (a : Int) else if x = a then (b : Int) else x := fun x hx => by
    unfold ap; rw [Int.toNat_natCast, swapL_getD hl.1 hl.2, idList_getD (by omega), idList_getD (by omega), idList_getD hx]
  have hk : Keep n c 0 (swapL (idList n) a b) := by
    refine ⟨hp, fun x hx => ?_, fun x hx => absurd hx (by omega)⟩
    rw [hap x hx]
    split
    · rename_i h; subst h; rw [Int.toNat_natCast, hc]
    · split
      · rename_i h; subst h; rw [Int.toNat_natCast, hc]
      · rw [Int.toNat_natCast]
  refine ⟨hk, fun r => ?_⟩
  by_cases hr : r = c a
  · subst hr
    have e : restr n c (c a) (swapL (idList n) a b) = swapL (idList n) a b := by
      apply perm_ext (n := n) (restr_len ..) hp.2
      intro x h0 hx
      rw [ap_restr c _ _ ⟨h0, hx⟩]
      split
      · rfl
      · rename_i h
        have := hap x.toNat (by omega)
        rw [Int.toNat_of_nonneg h0] at this
        rw [this, if_neg (by rintro rfl; exact h hc.symm), if_neg (by rintro rfl; exact h rfl)]
    unfold sg
    rw [e, even_eq hp.1, evenR, swapL_length, invT_swap (by omega) hl.1 hl.2 (idList_dist n), idList_length, inv_id n n (Nat.le_refl _)]
    simp
  · unfold sg
    rw [restr_id c r (fun x hx hcx => ?_), even_id h1]
    · simp [hr]
    · rw [hap x hx, if_neg (by rintro rfl; exact hr (by omega)), if_neg (by rintro rfl; exact hr (by omega))]
theorem cnt_one {c : Nat → Nat} {r : Nat} : ∀ d k, 1 ≤ cntF c r k d → ∃ a, k ≤ a ∧ a < k + d ∧ c a = r
  | 0, k, h => by simp [cntF] at h
  | d + 1, k, h => by
    rw [cntF] at h
    by_cases hc : c k = r
    · exact ⟨k, by omega, by omega, hc⟩
    · rw [if_neg hc] at h
      obtain ⟨a, h1, h2, h3⟩ := cnt_one (c := c) (r := r) d (k + 1) (by omega)
      exact ⟨a, by omega, by omega, h3⟩
theorem cnt_two {c : Nat → Nat} {r : Nat} : ∀ d k, 2 ≤ cntF c r k d → ∃ a b, a < b ∧ b < k + d ∧ c a = r ∧ c b = r
  | 0, k, h => by simp [cntF] at h
  | d + 1, k, h => by
    rw [cntF] at h
    by_cases hc : c k = r
    · rw [if_pos hc] at h
      obtain ⟨a, h1, h2, h3⟩ := cnt_one (c := c) (r := r) d (k + 1) (by omega)
      exact ⟨k, a, by omega, by omega, hc, h3⟩
    · rw [if_neg hc] at h
      obtain ⟨a, b, h1, h2, h3⟩ := cnt_two (c := c) (r := r) d (k + 1) (by omega)
      exact ⟨a, b, h1, by omega, h3⟩
/-- vectors modulo 2 -/
def Lead (v : Nat → Bool) (i : Nat) : Prop := v i = true ∧ ∀ j, i < j → v j = false
theorem Lead.unique {v : Nat → Bool} {i j : Nat} (h : Lead v i) (h' : Lead v j) : i = j := by
  rcases Nat.lt_trichotomy i j with hl | hl | hl
  · have := h.2 j hl; rw [h'.1] at this; cases this
  · exact hl
  · have := h'.2 i hl; rw [h.1] at this; cases this
def vx (v u : Nat → Bool) : Nat → Bool := fun x => v x ^^ u x
theorem vx_assoc (a b c : Nat → Bool) : vx (vx a b) c = vx a (vx b c) := by funext x; simp only [vx]; cases a x <;> cases b x <;> cases c x <;> rfl
theorem vx_comm (a b : Nat → Bool) : vx a b = vx b a := by funext x; simp only [vx]; cases a x <;> cases b x <;> rfl
def v0 : Nat → Bool := fun _ => false
theorem vx_v0 (a : Nat → Bool) : vx a v0 = a := by funext x; simp only [vx, v0]; cases a x <;> rfl
theorem vx_self (a : Nat → Bool) : vx a a = v0 := by funext x; simp only [vx, v0]; cases a x <;> rfl
inductive Sp (B : List (Nat → Bool)) : (Nat → Bool) → Prop
  | zero : Sp B v0
  | add {v b : Nat → Bool} (h : Sp B v) (hb : b ∈ B) : Sp B (vx v b)
theorem Sp.xor {B : List (Nat → Bool)} {v u : Nat → Bool} (hv : Sp B v) (hu : Sp B u) : Sp B (vx v u) := by
  induction hu with
  | zero => rw [vx_v0]; exact hv
  | add _ hb ih => rw [← vx_assoc]; exact .add ih hb
theorem Sp.self {B : List (Nat → Bool)} {b : Nat → Bool} (h : b ∈ B) : Sp B b := by
  have := Sp.add (Sp.zero (B := B)) h
  rwa [vx_comm, vx_v0] at this
theorem Sp.mono {B B' : List (Nat → Bool)} (h : ∀ b ∈ B, b ∈ B') {v : Nat → Bool} (hv : Sp B v) : Sp B' v := by
  induction hv with
  | zero => exact .zero
  | add _ hb ih => exact .add ih (h _ hb)
theorem sp_cons {B : List (Nat → Bool)} {b v : Nat → Bool} (h : Sp (b :: B) v) : Sp B v ∨ ∃ u, Sp B u ∧ v = vx u b := by
  induction h with
  | zero => exact .inl .zero
  | @add v' b' _ hb ih =>
    rcases List.mem_cons.1 hb with rfl | hb
    · rcases ih with h | ⟨u, hu, rfl⟩
      · exact .inr ⟨v', h, rfl⟩
      · left; rw [vx_assoc, vx_self, vx_v0]; exact hu
    · rcases ih with h | ⟨u, hu, rfl⟩
      · exact .inl (.add h hb)
      · right; exact ⟨vx u b', .add hu hb, by rw [vx_assoc, vx_assoc, vx_comm b b']⟩
def Ech (B : List (Nat → Bool)) : Prop := ∀ v, Sp B v → v = v0 ∨ ∃ b ∈ B, ∃ i, Lead v i ∧ Lead b i
theorem ech_nil : Ech [] := fun v h => by
  cases h with
  | zero => exact .inl rfl
  | add _ hb => simp at hb
theorem Ech.cons {B : List (Nat → Bool)} (h : Ech B) {b : Nat → Bool} {i : Nat} (hb : Lead b i) (hn : ∀ b' ∈ B, ¬ Lead b' i) : Ech (b :: B) := by
  intro v hv
  rcases sp_cons hv with hv | ⟨u, hu, rfl⟩
  · rcases h v hv with h | ⟨b', hb', k, h1, h2⟩
    · exact .inl h
    · exact .inr ⟨b', by simp [hb'], k, h1, h2⟩
  · right
    rcases h u hu with rfl | ⟨b', hb', k, h1, h2⟩
    · rw [vx_comm, vx_v0]; exact ⟨b, by simp, i, hb, hb⟩
    · rcases Nat.lt_trichotomy i k with hl | hl | hl
      · refine ⟨b', by simp [hb'], k, ⟨?_, fun j hj => ?_⟩, h2⟩
        · simp only [vx, h1.1, hb.2 k hl]; rfl
        · simp only [vx, h1.2 j hj, hb.2 j (by omega)]; rfl
      · subst hl; exact absurd h2 (hn b' hb')
      · refine ⟨b, by simp, i, ⟨?_, fun j hj => ?_⟩, hb⟩
        · simp only [vx, h1.2 i hl, hb.1]; rfl
        · simp only [vx, h1.2 j (by omega), hb.2 j hj]; rfl
/-- the signs of p on the classes rep 0, rep 1, .. -/
def vec (n : Nat) (c : Nat → Nat) (m : Nat) (rep : Nat → Nat) (p : List Int) : Nat → Bool := fun o => decide (o < m) && sg n c p (rep o)
theorem vec_mul {n : Nat} {c : Nat → Nat} {m : Nat} {rep : Nat → Nat} {p q : List Int} (hp : Keep n c 0 p) (hq : Keep n c 0 q) : vec n c m rep (mulP p q) = vx (vec n c m rep p) (vec n c m rep q) := by
  funext o; simp only [vec, vx, sg_mul hp hq]; cases decide (o < m) <;> simp
theorem vec_one {n : Nat} (h : 1 ≤ n ∧ n ≤ 512) (c : Nat → Nat) (m : Nat) (rep : Nat → Nat) : vec n c m rep (idList n) = v0 := by
  funext o; simp only [vec, v0, sg_one h]; simp
theorem gen_vec {n : Nat} (h1 : 1 ≤ n ∧ n ≤ 512) {c : Nat → Nat} {m : Nat} {rep : Nat → Nat} {gens : List (List Int)} {B : List (Nat → Bool)} (hk : ∀ g ∈ gens, Keep n c 0 g) (hB : ∀ g ∈ gens, Sp B (vec n c m rep g)) {p : List Int} (hp : Gen n gens p) :
    Keep n c 0 p ∧ Sp B (vec n c m rep p) := by
  induction hp with
  | one => exact ⟨(keep_grp h1 c 0).one, by rw [vec_one h1]; exact .zero⟩
  | mul _ hm ih => exact ⟨(keep_grp h1 c 0).mul _ _ ih.1 (hk _ hm), by rw [vec_mul ih.1 (hk _ hm)]; exact ih.2.xor (hB _ hm)⟩
theorem double {n : Nat} (h1 : 1 ≤ n ∧ n ≤ 512) {gens : List (List Int)} (hg : GensN n gens) {t : List Int} (ht : PermN n t) (hn : ¬ Gen n gens t) {k k' : Nat} (hk : Card (Gen n gens) k) (hk' : Card (Gen n (t :: gens)) k') : 2 * k ≤ k' := by
  obtain ⟨L, hL, hm, rfl⟩ := hk
  obtain ⟨L', hL', hm', rfl⟩ := hk'
  have hG := gen_grp h1 hg
  have hg' : GensN n (t :: gens) := fun g h => by
    rcases List.mem_cons.1 h with rfl | h
    · exact ht
    · exact hg g h
  have hG' := gen_grp h1 hg'
  have hsub : ∀ p, Gen n gens p → Gen n (t :: gens) p := fun p hp => gen_mono (fun g h => by simp [h]) hp
  have := nodup_le (l := L ++ L.map fun s => mulP s t) (m := L') (by
    rw [List.nodup_append]
    refine ⟨hL, nodup_map _ hL fun s hs u hu he => mul_cancel (hG.perm s ((hm s).1 hs)) (hG.perm u ((hm u).1 hu)) ht he, ?_⟩
    intro a ha b hb he
    subst he
    obtain ⟨s, hs, rfl⟩ := List.mem_map.1 hb
    have hs := (hm s).1 hs
    have := hG.mul _ _ (hG.inv hs) ((hm _).1 ha)
    rw [← mul_assoc (hG.perm s hs).inv (hG.perm s hs), inv_mul (hG.perm s hs), one_mul ht] at this
    exact hn this) (by
    intro p hp
    rw [hm']
    rcases List.mem_append.1 hp with hp | hp
    · exact hsub p ((hm p).1 hp)
    · obtain ⟨s, hs, rfl⟩ := List.mem_map.1 hp
      exact hG'.mul _ _ (hsub s ((hm s).1 hs)) (gen_self hg' (by simp)))
  simp only [List.length_append, List.length_map] at this
  omega
def unit (o : Nat) : Nat → Bool := fun x => decide (x = o)
theorem unit_lead (o : Nat) : Lead (unit o) o := ⟨by simp [unit], fun j hj => by simp [unit]; omega⟩
theorem doubles {n : Nat} (h1 : 1 ≤ n ∧ n ≤ 512) {c : Nat → Nat} {m : Nat} {rep : Nat → Nat} (hr : ∀ o, o < m → 2 ≤ cntF c (rep o) 0 n) (hi : ∀ o o', o < m → o' < m → rep o = rep o' → o = o') {M : Nat} (hM : Card (Keep n c 0) M) :
    ∀ (O : List Nat) (gens : List (List Int)) (B : List (Nat → Bool)) (k : Nat), O.Nodup → (∀ o ∈ O, o < m ∧ ∀ b ∈ B, ¬ Lead b o) → (∀ g ∈ gens, Keep n c 0 g) → (∀ g ∈ gens, Sp B (vec n c m rep g)) → Ech B → Card (Gen n gens) k → 2 ^ O.length * k ≤ M
  | [], gens, B, k, _, _, hk, hB, _, hc => by
    rw [List.length_nil, Nat.pow_zero, Nat.one_mul]
    exact hc.le hM fun p hp => (gen_vec (m := m) (rep := rep) h1 hk hB hp).1
  | o :: O, gens, B, k, hn, ho, hk, hB, hE, hc => by
    have ho' := ho o (by simp)
    obtain ⟨a, b, hab, hb, ca, cb⟩ := cnt_two n 0 (hr o ho'.1)
    obtain ⟨tk, ts⟩ := swap_keep h1 (c := c) hab (by omega) (by rw [ca, cb])
    have tv : vec n c m rep (swapL (idList n) a b) = unit o := by
      funext x
      simp only [vec, unit, ts, ca]
      by_cases hx : x = o
      · subst hx; simp [ho'.1]
      · by_cases hxm : x < m
        · have : rep x ≠ rep o := fun h => hx (hi x o hxm ho'.1 h)
          simp [this, hx]
        · simp [hxm, hx]
    have hnot : ¬ Gen n gens (swapL (idList n) a b) := fun hg => by
      have := (gen_vec (m := m) (rep := rep) h1 hk hB hg).2
      rw [tv] at this
      rcases hE _ this with h | ⟨b', hb', i, h2, h3⟩
      · have := congrFun h o; simp [unit, v0] at this
      · rw [h2.unique (unit_lead o)] at h3; exact ho'.2 b' hb' h3
    have hg : GensN n gens := fun g h => (hk g h).1
    have hg' : GensN n (swapL (idList n) a b :: gens) := fun g h => by
      rcases List.mem_cons.1 h with rfl | h
      · exact tk.1
      · exact hg g h
    obtain ⟨k', hk'⟩ := (gen_grp h1 hg').card
    have hd := double h1 hg tk.1 hnot hc hk'
    have hn' := List.nodup_cons.1 hn
    have := doubles h1 hr hi hM O (swapL (idList n) a b :: gens) (unit o :: B) k' hn'.2 (fun x hx => by
        refine ⟨(ho x (by simp [hx])).1, fun b' hb' hl => ?_⟩
        rcases List.mem_cons.1 hb' with rfl | hb'
        · have := hl.unique (unit_lead o); subst this; exact hn'.1 hx
        · exact (ho x (by simp [hx])).2 b' hb' hl)
      (fun g h => by
        rcases List.mem_cons.1 h with rfl | h
        · exact tk
        · exact hk g h)
      (fun g h => by
        rcases List.mem_cons.1 h with rfl | h
        · rw [tv]; exact .self (by simp)
        · exact (hB g h).mono fun b hb => by simp [hb])
      (hE.cons (unit_lead o) ho'.2) hk'
    rw [List.length_cons, Nat.pow_succ, Nat.mul_assoc]
    exact Nat.le_trans (Nat.mul_le_mul_left _ hd) this
/-- the bound on the number of elements -/
theorem bound_le {n : Nat} (h1 : 1 ≤ n ∧ n ≤ 512) {c : Nat → Nat} (hc : ∀ x, x < n → c x < n) {m : Nat} {rep : Nat → Nat} (hr : ∀ o, o < m → 2 ≤ cntF c (rep o) 0 n) (hi : ∀ o o', o < m → o' < m → rep o = rep o' → o = o')
    {gens : List (List Int)} (hk : ∀ g ∈ gens, Keep n c 0 g) {B : List (Nat × (Nat → Bool))} (hl : ∀ b ∈ B, Lead b.2 b.1) (hB : ∀ g ∈ gens, Sp (B.map (·.2)) (vec n c m rep g)) (hE : Ech (B.map (·.2))) {k : Nat} (hcard : Card (Gen n gens) k) :
    2 ^ m * k ≤ 2 ^ B.length * prodR (fun r => fac (cntF c r 0 n)) n := by
  obtain ⟨M, hM⟩ := (keep_grp h1 c 0).card
  have hle := keep_le h1 hc hM
  let O := (List.range m).filter fun o => decide (o ∉ B.map (·.1))
  have hO : ∀ o ∈ O, o < m ∧ ∀ b ∈ B.map (·.2), ¬ Lead b o := fun o ho => by
    rw [List.mem_filter, List.mem_range, decide_eq_true_eq] at ho
    refine ⟨ho.1, fun b hb hlead => ho.2 ?_⟩
    obtain ⟨b', hb', rfl⟩ := List.mem_map.1 hb
    exact List.mem_map.2 ⟨b', hb', ((hl b' hb').unique hlead)⟩
  have h2 := doubles h1 hr hi hM O gens _ k (List.nodup_range.sublist List.filter_sublist) hO hk hB hE hcard
  have h3 : m ≤ O.length + B.length := by
    have := nodup_le (l := List.range m) (m := O ++ B.map (·.1)) List.nodup_range (fun o ho => by
      rw [List.mem_append]
      by_cases h : o ∈ B.map (·.1)
      · exact .inr h
      · exact .inl (List.mem_filter.2 ⟨ho, decide_eq_true h⟩))
    simpa using this
  calc 2 ^ m * k ≤ 2 ^ (O.length + B.length) * k := Nat.mul_le_mul_right _ (Nat.pow_le_pow_right (by decide) h3)
    _ = 2 ^ B.length * (2 ^ O.length * k) := by rw [Nat.pow_add, Nat.mul_comm (2 ^ O.length), Nat.mul_assoc]
    _ ≤ _ := Nat.mul_le_mul_left _ (Nat.le_trans h2 hle)
end Go.PM

namespace Go.Proofs.Ythhfjagnmhhapaa
open Go.W Go.PM
abbrev u16L (xs : List Int) : List Value := xs.map (Value.int .u16)
/-- a new permutation of the program's own kind -/
def NewP (w : World) (xs : List Int) (v : Value) (w' : World) : Prop := ∃ g, v = .slice (some ⟨g, 0, none⟩) xs.length xs.length ∧ w.heap.size ≤ g ∧ Blk w' g 129 (u16L xs) ∧ Ex w w'
theorem toPerm_spec {xs : List Int} {a : Option Addr} {w : World} (hx : Sl w a (intsL xs)) (cap : Nat) (hr : ∀ k, k < xs.length → 0 ≤ xs.getD k 0 ∧ xs.getD k 0 ≤ 65535) (hl : xs.length ≤ 512) :
    CallsR Try.prog 65 #[.slice a xs.length cap] w (NewP w xs) := by
  refine callsR_of (args := [_]) Try.func65 rfl rfl ?_
  repeat' (first | (refine k_makeI rfl rfl (by omega) (by omega) (fun g w1 hn1 => ⟨fun _ _ => trivial, ?_⟩)) | (refine k_pure rfl ?_) | (refine then_normal ?_) | (refine cw_seq ?_) | (refine cw_region rfl ?_) | (refine rr_nil ?_) | (refine k_len rfl ?_) | (refine g_run rfl rfl ?_) | (refine g_skip rfl rfl ?_) | (refine g_dec_f rfl rfl (fun hc => ?_) (fun hc => ?_)) | (refine g_dec_t rfl rfl (fun hc => ?_) (fun hc => ?_)) | (refine g_ndec_f rfl rfl (fun hc => ?_) (fun hc => ?_)) | (refine g_ndec_t rfl rfl (fun hc => ?_) (fun hc => ?_)) | (refine g_split rfl rfl (fun hc => ?_) (fun hc => ?_)) | (refine k_addI rfl rfl (by omega) (by omega) ?_) | (refine k_subI rfl rfl (by omega) (by omega) ?_) | (refine k_fieldAddr rfl ?_) | (refine k_eqlB rfl rfl ?_) | (refine k_neqB rfl rfl ?_) | (refine cw_cond_true rfl ?_) | (refine cw_cond_false rfl ?_) | (refine cw_cond_dec rfl (fun hc => ?_) (fun hc => ?_)) | (refine cw_cond_ndec rfl (fun hc => ?_) (fun hc => ?_)) | (refine cw_cond rfl (fun hc => ?_) (fun hc => ?_)) | (refine cw_block ?_) | (refine cw_exit ?_) | (refine then_exit ?_) | (refine in_exit ?_) | (refine in_exit_ne rfl ?_) | (refine in_normal ?_) | (refine cw_ret ?_) | (refine then_ret ?_) | (refine in_ret ?_) | (refine cw_skip ?_))
  refine cw_loop (ι := Nat × List Int) [4, 5, 11, 12, 13, 14, 15, 16, 17, 18, 19, 20, 21] (fun s => [(11, .int .i64 (s.1 : Int))]) (fun s w' => s.1 ≤ xs.length ∧ Ex w w' ∧ Blk w' g 129 (u16L s.2) ∧ s.2.length = xs.length ∧ s.2.take s.1 = xs.take s.1) (fun s => xs.length - s.1)
    (0, List.replicate xs.length 0) ⟨rfl, trivial⟩ ⟨by simp, hn1.ex, hn1.blk, by simp, rfl⟩ ?_
  rintro ⟨k, rs⟩ ξ w2 ⟨hk, hE, hb, hl2, hT⟩
  simp only at hk hb hl2 hT
  show CW _ _ _ _ (over [(11, .int .i64 (k : Int))] _) w2
  have hx2 := hx.ext hE
  repeat' (first | (refine k_indexN rfl rfl ⟨_, _, rfl⟩ (by omega) ?_) | (refine k_indexN rfl rfl (hx2.plain (by simp; omega)) (by omega) ?_) | (refine k_loadI rfl hx2 (by omega) ?_) | (refine k_convI rfl (wrap_u16 (hr k (by omega)).1 (hr k (by omega)).2) ?_) | (refine k_storeI rfl rfl hb (by omega) (fun w3 hc3 hb3 => ⟨fun _ _ => trivial, ?_⟩)) | (refine k_pure rfl ?_) | (refine then_normal ?_) | (refine cw_seq ?_) | (refine cw_region rfl ?_) | (refine rr_nil ?_) | (refine k_len rfl ?_) | (refine g_run rfl rfl ?_) | (refine g_skip rfl rfl ?_) | (refine g_dec_f rfl rfl (fun hc => ?_) (fun hc => ?_)) | (refine g_dec_t rfl rfl (fun hc => ?_) (fun hc => ?_)) | (refine g_ndec_f rfl rfl (fun hc => ?_) (fun hc => ?_)) | (refine g_ndec_t rfl rfl (fun hc => ?_) (fun hc => ?_)) | (refine g_split rfl rfl (fun hc => ?_) (fun hc => ?_)) | (refine k_addI rfl rfl (by omega) (by omega) ?_) | (refine k_subI rfl rfl (by omega) (by omega) ?_) | (refine k_fieldAddr rfl ?_) | (refine k_eqlB rfl rfl ?_) | (refine k_neqB rfl rfl ?_) | (refine cw_cond_true rfl ?_) | (refine cw_cond_false rfl ?_) | (refine cw_cond_dec rfl (fun hc => ?_) (fun hc => ?_)) | (refine cw_cond_ndec rfl (fun hc => ?_) (fun hc => ?_)) | (refine cw_cond rfl (fun hc => ?_) (fun hc => ?_)) | (refine cw_block ?_) | (refine cw_exit ?_) | (refine then_exit ?_) | (refine in_exit ?_) | (refine in_exit_ne rfl ?_) | (refine in_normal ?_) | (refine cw_ret ?_) | (refine then_ret ?_) | (refine in_ret ?_) | (refine cw_skip ?_))
  · refine ⟨⟨(k + 1, rs.set k (xs.getD k 0)), ⟨by simp only; omega, hE.chg hc3 hn1.lo, hb3, by simp [hl2], ?_⟩, by simp only; omega, rfl, trivial⟩, (by (repeat (first | exact agree_mask _ _ _ | refine agree_upd rfl ?_ | refine agree_updO rfl ?_ | refine agree_overIn rfl ?_ | refine agree_maskIn rfl ?_)))⟩
    simp only
    rw [take_set_succ (by omega), hT, take_succ_getD xs 0 (by omega)]
  · obtain rfl : k = xs.length := by omega
    rw [List.take_of_length_le (by omega), List.take_of_length_le (by omega)] at hT
    subst hT
    exact ret1 rfl (rt rfl) ⟨g, rfl, hn1.lo, hb, hE⟩
theorem ident_spec {n : Nat} (h : n ≤ 512) (w : World) : CallsR Try.prog 77 #[.int .i64 (n : Int)] w (NewP w (idList n)) := by
  refine callsR_of (args := [_]) Try.func77 rfl rfl ?_
  repeat' (first | (refine k_makeI rfl rfl (by omega) (by omega) (fun g w1 hn1 => ⟨fun _ _ => trivial, ?_⟩)) | (refine k_pure rfl ?_) | (refine then_normal ?_) | (refine cw_seq ?_) | (refine cw_region rfl ?_) | (refine rr_nil ?_) | (refine k_len rfl ?_) | (refine g_run rfl rfl ?_) | (refine g_skip rfl rfl ?_) | (refine g_dec_f rfl rfl (fun hc => ?_) (fun hc => ?_)) | (refine g_dec_t rfl rfl (fun hc => ?_) (fun hc => ?_)) | (refine g_ndec_f rfl rfl (fun hc => ?_) (fun hc => ?_)) | (refine g_ndec_t rfl rfl (fun hc => ?_) (fun hc => ?_)) | (refine g_split rfl rfl (fun hc => ?_) (fun hc => ?_)) | (refine k_addI rfl rfl (by omega) (by omega) ?_) | (refine k_subI rfl rfl (by omega) (by omega) ?_) | (refine k_fieldAddr rfl ?_) | (refine k_eqlB rfl rfl ?_) | (refine k_neqB rfl rfl ?_) | (refine cw_cond_true rfl ?_) | (refine cw_cond_false rfl ?_) | (refine cw_cond_dec rfl (fun hc => ?_) (fun hc => ?_)) | (refine cw_cond_ndec rfl (fun hc => ?_) (fun hc => ?_)) | (refine cw_cond rfl (fun hc => ?_) (fun hc => ?_)) | (refine cw_block ?_) | (refine cw_exit ?_) | (refine then_exit ?_) | (refine in_exit ?_) | (refine in_exit_ne rfl ?_) | (refine in_normal ?_) | (refine cw_ret ?_) | (refine then_ret ?_) | (refine in_ret ?_) | (refine cw_skip ?_))
  refine cw_loop (ι := Nat × List Int) [4, 9, 10, 11, 12, 13, 14, 15, 16, 17] (fun s => [(9, .int .i64 (s.1 : Int))]) (fun s w' => s.1 ≤ n ∧ Ex w w' ∧ Blk w' g 129 (u16L s.2) ∧ s.2.length = n ∧ s.2.take s.1 = idList s.1) (fun s => n - s.1)
    (0, List.replicate n 0) ⟨rfl, trivial⟩ ⟨by simp, hn1.ex, hn1.blk, by simp, rfl⟩ ?_
  rintro ⟨k, rs⟩ ξ w2 ⟨hk, hE, hb, hl2, hT⟩
  simp only at hk hb hl2 hT
  show CW _ _ _ _ (over [(9, .int .i64 (k : Int))] _) w2
  repeat' (first | (refine k_indexN rfl rfl ⟨_, _, rfl⟩ (by omega) ?_) | (refine k_convI rfl (wrap_u16 (by omega) (by omega)) ?_) | (refine k_storeI rfl rfl hb (by omega) (fun w3 hc3 hb3 => ⟨fun _ _ => trivial, ?_⟩)) | (refine k_pure rfl ?_) | (refine then_normal ?_) | (refine cw_seq ?_) | (refine cw_region rfl ?_) | (refine rr_nil ?_) | (refine k_len rfl ?_) | (refine g_run rfl rfl ?_) | (refine g_skip rfl rfl ?_) | (refine g_dec_f rfl rfl (fun hc => ?_) (fun hc => ?_)) | (refine g_dec_t rfl rfl (fun hc => ?_) (fun hc => ?_)) | (refine g_ndec_f rfl rfl (fun hc => ?_) (fun hc => ?_)) | (refine g_ndec_t rfl rfl (fun hc => ?_) (fun hc => ?_)) | (refine g_split rfl rfl (fun hc => ?_) (fun hc => ?_)) | (refine k_addI rfl rfl (by omega) (by omega) ?_) | (refine k_subI rfl rfl (by omega) (by omega) ?_) | (refine k_fieldAddr rfl ?_) | (refine k_eqlB rfl rfl ?_) | (refine k_neqB rfl rfl ?_) | (refine cw_cond_true rfl ?_) | (refine cw_cond_false rfl ?_) | (refine cw_cond_dec rfl (fun hc => ?_) (fun hc => ?_)) | (refine cw_cond_ndec rfl (fun hc => ?_) (fun hc => ?_)) | (refine cw_cond rfl (fun hc => ?_) (fun hc => ?_)) | (refine cw_block ?_) | (refine cw_exit ?_) | (refine then_exit ?_) | (refine in_exit ?_) | (refine in_exit_ne rfl ?_) | (refine in_normal ?_) | (refine cw_ret ?_) | (refine then_ret ?_) | (refine in_ret ?_) | (refine cw_skip ?_))
  · refine ⟨⟨(k + 1, rs.set k (k : Int)), ⟨by simp only; omega, hE.chg hc3 hn1.lo, hb3, by simp [hl2], ?_⟩, by simp only; omega, rfl, trivial⟩, (by (repeat (first | exact agree_mask _ _ _ | refine agree_upd rfl ?_ | refine agree_updO rfl ?_ | refine agree_overIn rfl ?_ | refine agree_maskIn rfl ?_)))⟩
    simp only
    rw [take_set_succ (by omega), hT, idList_succ]
  · obtain rfl : k = n := by omega
    rw [List.take_of_length_le (by omega)] at hT
    subst hT
    exact ret1 rfl (rt rfl) ⟨g, by rw [idList_length]; rfl, hn1.lo, hb, hE⟩
/-- m is the first moved point, -1 if there is none -/
def Moved (p : List Int) (m : Int) : Prop := (m = -1 ∧ p = idList p.length) ∨ (0 ≤ m ∧ m < p.length ∧ ap p m ≠ m)
theorem Moved.neg {p : List Int} {m : Int} (h : Moved p m) : m < 0 ↔ p = idList p.length := by
  rcases h with ⟨h1, h2⟩ | ⟨h1, h2, h3⟩
  · exact ⟨fun _ => h2, fun _ => by omega⟩
  · refine ⟨fun h => by omega, fun h => absurd ?_ h3⟩
    rw [h]; exact ap_id ⟨h1, h2⟩
theorem moved_spec {xs : List Int} {a : Option Addr} {w : World} (hx : Sl w a (u16L xs)) (cap : Nat) (hr : ∀ k, k < xs.length → 0 ≤ xs.getD k 0 ∧ xs.getD k 0 ≤ 65535) (hl : xs.length ≤ 512) :
    CallsR Try.prog 81 #[.slice a xs.length cap] w (fun v w' => ∃ m, v = .int .i64 m ∧ Moved xs m ∧ Ex w w') := by
  refine callsR_of (args := [_]) Try.func81 rfl rfl ?_
  repeat' (first | (refine k_pure rfl ?_) | (refine then_normal ?_) | (refine cw_seq ?_) | (refine cw_region rfl ?_) | (refine rr_nil ?_) | (refine k_len rfl ?_) | (refine g_run rfl rfl ?_) | (refine g_skip rfl rfl ?_) | (refine g_dec_f rfl rfl (fun hc => ?_) (fun hc => ?_)) | (refine g_dec_t rfl rfl (fun hc => ?_) (fun hc => ?_)) | (refine g_ndec_f rfl rfl (fun hc => ?_) (fun hc => ?_)) | (refine g_ndec_t rfl rfl (fun hc => ?_) (fun hc => ?_)) | (refine g_split rfl rfl (fun hc => ?_) (fun hc => ?_)) | (refine k_addI rfl rfl (by omega) (by omega) ?_) | (refine k_subI rfl rfl (by omega) (by omega) ?_) | (refine k_fieldAddr rfl ?_) | (refine k_eqlB rfl rfl ?_) | (refine k_neqB rfl rfl ?_) | (refine cw_cond_true rfl ?_) | (refine cw_cond_false rfl ?_) | (refine cw_cond_dec rfl (fun hc => ?_) (fun hc => ?_)) | (refine cw_cond_ndec rfl (fun hc => ?_) (fun hc => ?_)) | (refine cw_cond rfl (fun hc => ?_) (fun hc => ?_)) | (refine cw_block ?_) | (refine cw_exit ?_) | (refine then_exit ?_) | (refine in_exit ?_) | (refine in_exit_ne rfl ?_) | (refine in_normal ?_) | (refine cw_ret ?_) | (refine then_ret ?_) | (refine in_ret ?_) | (refine cw_skip ?_))
  refine cw_loop (ι := Nat) [2, 3, 4, 7, 8, 9, 10, 11, 12, 13, 14, 15, 16, 17] (fun s => [(7, .int .i64 (s : Int))]) (fun s w' => s ≤ xs.length ∧ Ex w w' ∧ xs.take s = idList s) (fun s => xs.length - s)
    0 ⟨rfl, trivial⟩ ⟨by simp, Ex.refl _, rfl⟩ ?_
  rintro k ξ w2 ⟨hk, hE, hT⟩
  show CW _ _ _ _ (over [(7, .int .i64 (k : Int))] _) w2
  have hx2 := hx.ext hE
  repeat' (first | (refine k_indexN rfl rfl (hx2.plain (by simp; omega)) (by omega) ?_) | (refine k_loadI rfl hx2 (by omega) ?_) | (refine k_convI rfl (wrap_i64 (by have := hr k (by omega); omega) (by have := hr k (by omega); omega)) ?_) | (refine k_pure rfl ?_) | (refine then_normal ?_) | (refine cw_seq ?_) | (refine cw_region rfl ?_) | (refine rr_nil ?_) | (refine k_len rfl ?_) | (refine g_run rfl rfl ?_) | (refine g_skip rfl rfl ?_) | (refine g_dec_f rfl rfl (fun hc => ?_) (fun hc => ?_)) | (refine g_dec_t rfl rfl (fun hc => ?_) (fun hc => ?_)) | (refine g_ndec_f rfl rfl (fun hc => ?_) (fun hc => ?_)) | (refine g_ndec_t rfl rfl (fun hc => ?_) (fun hc => ?_)) | (refine g_split rfl rfl (fun hc => ?_) (fun hc => ?_)) | (refine k_addI rfl rfl (by omega) (by omega) ?_) | (refine k_subI rfl rfl (by omega) (by omega) ?_) | (refine k_fieldAddr rfl ?_) | (refine k_eqlB rfl rfl ?_) | (refine k_neqB rfl rfl ?_) | (refine cw_cond_true rfl ?_) | (refine cw_cond_false rfl ?_) | (refine cw_cond_dec rfl (fun hc => ?_) (fun hc => ?_)) | (refine cw_cond_ndec rfl (fun hc => ?_) (fun hc => ?_)) | (refine cw_cond rfl (fun hc => ?_) (fun hc => ?_)) | (refine cw_block ?_) | (refine cw_exit ?_) | (refine then_exit ?_) | (refine in_exit ?_) | (refine in_exit_ne rfl ?_) | (refine in_normal ?_) | (refine cw_ret ?_) | (refine then_ret ?_) | (refine in_ret ?_) | (refine cw_skip ?_))
  · exact ret1 rfl (rt rfl) ⟨_, rfl, .inr ⟨by omega, by omega, by unfold ap; rw [Int.toNat_natCast]; assumption⟩, hE⟩
  · refine ⟨⟨k + 1, ⟨by omega, hE, ?_⟩, by omega, rfl, trivial⟩, (by (repeat (first | exact agree_mask _ _ _ | refine agree_upd rfl ?_ | refine agree_updO rfl ?_ | refine agree_overIn rfl ?_ | refine agree_maskIn rfl ?_)))⟩
    have e : xs.getD k 0 = (k : Int) := by omega
    rw [take_succ_getD xs 0 (by omega), hT, idList_succ, e]
  · obtain rfl : k = xs.length := by omega
    rw [List.take_of_length_le (by omega)] at hT
    exact ret1 rfl (rt rfl) ⟨_, rfl, .inl ⟨rfl, hT⟩, hE⟩
theorem times_spec {xs ys : List Int} {a b : Option Addr} {w : World} (hx : Sl w a (u16L xs)) (hy : Sl w b (u16L ys)) (c1 c2 : Nat) (hr : ∀ k, k < xs.length → 0 ≤ xs.getD k 0 ∧ xs.getD k 0 < ys.length) (hl : xs.length ≤ 512) :
    CallsR Try.prog 78 #[.slice a xs.length c1, .slice b ys.length c2] w (NewP w (mulP xs ys)) := by
  refine callsR_of (args := [_, _]) Try.func78 rfl rfl ?_
  repeat' (first | (refine k_makeI rfl rfl (by omega) (by omega) (fun g w1 hn1 => ⟨fun _ _ => trivial, ?_⟩)) | (refine k_pure rfl ?_) | (refine then_normal ?_) | (refine cw_seq ?_) | (refine cw_region rfl ?_) | (refine rr_nil ?_) | (refine k_len rfl ?_) | (refine g_run rfl rfl ?_) | (refine g_skip rfl rfl ?_) | (refine g_dec_f rfl rfl (fun hc => ?_) (fun hc => ?_)) | (refine g_dec_t rfl rfl (fun hc => ?_) (fun hc => ?_)) | (refine g_ndec_f rfl rfl (fun hc => ?_) (fun hc => ?_)) | (refine g_ndec_t rfl rfl (fun hc => ?_) (fun hc => ?_)) | (refine g_split rfl rfl (fun hc => ?_) (fun hc => ?_)) | (refine k_addI rfl rfl (by omega) (by omega) ?_) | (refine k_subI rfl rfl (by omega) (by omega) ?_) | (refine k_fieldAddr rfl ?_) | (refine k_eqlB rfl rfl ?_) | (refine k_neqB rfl rfl ?_) | (refine cw_cond_true rfl ?_) | (refine cw_cond_false rfl ?_) | (refine cw_cond_dec rfl (fun hc => ?_) (fun hc => ?_)) | (refine cw_cond_ndec rfl (fun hc => ?_) (fun hc => ?_)) | (refine cw_cond rfl (fun hc => ?_) (fun hc => ?_)) | (refine cw_block ?_) | (refine cw_exit ?_) | (refine then_exit ?_) | (refine in_exit ?_) | (refine in_exit_ne rfl ?_) | (refine in_normal ?_) | (refine cw_ret ?_) | (refine then_ret ?_) | (refine in_ret ?_) | (refine cw_skip ?_))
  refine cw_loop (ι := Nat × List Int) [6, 7, 13, 14, 15, 16, 17, 18, 19, 20, 21, 22, 23, 24, 25] (fun s => [(13, .int .i64 (s.1 : Int))]) (fun s w' => s.1 ≤ xs.length ∧ Ex w w' ∧ Blk w' g 129 (u16L s.2) ∧ s.2.length = xs.length ∧ s.2.take s.1 = mulP (xs.take s.1) ys) (fun s => xs.length - s.1)
    (0, List.replicate xs.length 0) ⟨rfl, trivial⟩ ⟨by simp, hn1.ex, hn1.blk, by simp, rfl⟩ ?_
  rintro ⟨k, rs⟩ ξ w2 ⟨hk, hE, hb, hl2, hT⟩
  simp only at hk hb hl2 hT
  show CW _ _ _ _ (over [(13, .int .i64 (k : Int))] _) w2
  have hx2 := hx.ext hE
  have hy2 := hy.ext hE
  repeat' (first | (refine k_indexN rfl rfl ⟨_, _, rfl⟩ (by omega) ?_) | (refine k_indexN rfl rfl (hx2.plain (by simp; omega)) (by omega) ?_) | (refine k_index1 rfl rfl (hy2.plain (by have := hr k (by omega); simp; omega)) (hr k (by omega)).1 (hr k (by omega)).2 ?_) | (refine k_loadI rfl hx2 (by omega) ?_) | (refine k_loadI rfl hy2 (by have := hr k (by omega); omega) ?_) | (refine k_storeI rfl rfl hb (by omega) (fun w3 hc3 hb3 => ⟨fun _ _ => trivial, ?_⟩)) | (refine k_pure rfl ?_) | (refine then_normal ?_) | (refine cw_seq ?_) | (refine cw_region rfl ?_) | (refine rr_nil ?_) | (refine k_len rfl ?_) | (refine g_run rfl rfl ?_) | (refine g_skip rfl rfl ?_) | (refine g_dec_f rfl rfl (fun hc => ?_) (fun hc => ?_)) | (refine g_dec_t rfl rfl (fun hc => ?_) (fun hc => ?_)) | (refine g_ndec_f rfl rfl (fun hc => ?_) (fun hc => ?_)) | (refine g_ndec_t rfl rfl (fun hc => ?_) (fun hc => ?_)) | (refine g_split rfl rfl (fun hc => ?_) (fun hc => ?_)) | (refine k_addI rfl rfl (by omega) (by omega) ?_) | (refine k_subI rfl rfl (by omega) (by omega) ?_) | (refine k_fieldAddr rfl ?_) | (refine k_eqlB rfl rfl ?_) | (refine k_neqB rfl rfl ?_) | (refine cw_cond_true rfl ?_) | (refine cw_cond_false rfl ?_) | (refine cw_cond_dec rfl (fun hc => ?_) (fun hc => ?_)) | (refine cw_cond_ndec rfl (fun hc => ?_) (fun hc => ?_)) | (refine cw_cond rfl (fun hc => ?_) (fun hc => ?_)) | (refine cw_block ?_) | (refine cw_exit ?_) | (refine then_exit ?_) | (refine in_exit ?_) | (refine in_exit_ne rfl ?_) | (refine in_normal ?_) | (refine cw_ret ?_) | (refine then_ret ?_) | (refine in_ret ?_) | (refine cw_skip ?_))
  · refine ⟨⟨(k + 1, rs.set k (ys.getD (xs.getD k 0).toNat 0)), ⟨by simp only; omega, hE.chg hc3 hn1.lo, hb3, by simp [hl2], ?_⟩, by simp only; omega, rfl, trivial⟩, (by (repeat (first | exact agree_mask _ _ _ | refine agree_upd rfl ?_ | refine agree_updO rfl ?_ | refine agree_overIn rfl ?_ | refine agree_maskIn rfl ?_)))⟩
    simp only
    rw [take_set_succ (by omega), hT, mulP_snoc (by omega)]
  · obtain rfl : k = xs.length := by omega
    rw [List.take_of_length_le (by omega), List.take_of_length_le (by omega)] at hT
    subst hT
    exact ret1 rfl (rt rfl) ⟨g, by rw [mulP_length]; rfl, hn1.lo, hb, hE⟩
theorem invTo_getD {p : List Int} (hp : IsPerm p) : ∀ k, k ≤ p.length → ∀ j, j < k → (invTo p k).getD (p.getD j 0).toNat 0 = j
  | 0, _, j, hj => by omega
  | k + 1, hk, j, hj => by
    have h1 := hp.lt (k := j) (by omega); have h2 := hp.lt (k := k) (by omega)
    rw [invTo, List.getD_eq_getElem?_getD, List.getElem?_set, invTo_len]
    by_cases hjk : j = k
    · subst hjk; rw [if_pos rfl, if_pos (by omega)]; rfl
    · have hne : p.getD j 0 ≠ p.getD k 0 := (dist_iff.1 hp.2.2).2 j k (by omega) (by omega)
      rw [if_neg (by omega), ← List.getD_eq_getElem?_getD]
      exact invTo_getD hp k (by omega) j (by omega)
theorem invTo_inv {n : Nat} {p : List Int} (hp : PermN n p) : invTo p p.length = inv p := by
  refine inv_of_ap hp (by rw [invTo_len, hp.2]) fun x h0 h1 => ?_
  have := invTo_getD hp.1 p.length (Nat.le_refl _) x.toNat (by rw [hp.2]; omega)
  unfold ap; rw [this]; omega
theorem pinv_spec {n : Nat} {xs : List Int} {a : Option Addr} {w : World} (hx : Sl w a (u16L xs)) (cap : Nat) (hp : PermN n xs) :
    CallsR Try.prog 74 #[.slice a xs.length cap] w (NewP w (inv xs)) := by
  refine callsR_of (args := [_]) Try.func74 rfl rfl ?_
  have hl : xs.length ≤ 512 := hp.1.2.1
  repeat' (first | (refine k_makeI rfl rfl (by omega) (by omega) (fun g w1 hn1 => ⟨fun _ _ => trivial, ?_⟩)) | (refine k_pure rfl ?_) | (refine then_normal ?_) | (refine cw_seq ?_) | (refine cw_region rfl ?_) | (refine rr_nil ?_) | (refine k_len rfl ?_) | (refine g_run rfl rfl ?_) | (refine g_skip rfl rfl ?_) | (refine g_dec_f rfl rfl (fun hc => ?_) (fun hc => ?_)) | (refine g_dec_t rfl rfl (fun hc => ?_) (fun hc => ?_)) | (refine g_ndec_f rfl rfl (fun hc => ?_) (fun hc => ?_)) | (refine g_ndec_t rfl rfl (fun hc => ?_) (fun hc => ?_)) | (refine g_split rfl rfl (fun hc => ?_) (fun hc => ?_)) | (refine k_addI rfl rfl (by omega) (by omega) ?_) | (refine k_subI rfl rfl (by omega) (by omega) ?_) | (refine k_fieldAddr rfl ?_) | (refine k_eqlB rfl rfl ?_) | (refine k_neqB rfl rfl ?_) | (refine cw_cond_true rfl ?_) | (refine cw_cond_false rfl ?_) | (refine cw_cond_dec rfl (fun hc => ?_) (fun hc => ?_)) | (refine cw_cond_ndec rfl (fun hc => ?_) (fun hc => ?_)) | (refine cw_cond rfl (fun hc => ?_) (fun hc => ?_)) | (refine cw_block ?_) | (refine cw_exit ?_) | (refine then_exit ?_) | (refine in_exit ?_) | (refine in_exit_ne rfl ?_) | (refine in_normal ?_) | (refine cw_ret ?_) | (refine then_ret ?_) | (refine in_ret ?_) | (refine cw_skip ?_))
  refine cw_loop (ι := Nat) [4, 5, 11, 12, 13, 14, 15, 16, 17, 18, 19, 20, 21] (fun s => [(11, .int .i64 (s : Int))]) (fun s w' => s ≤ xs.length ∧ Ex w w' ∧ Blk w' g 129 (u16L (invTo xs s))) (fun s => xs.length - s)
    0 ⟨rfl, trivial⟩ ⟨by simp, hn1.ex, hn1.blk⟩ ?_
  rintro k ξ w2 ⟨hk, hE, hb⟩
  show CW _ _ _ _ (over [(11, .int .i64 (k : Int))] _) w2
  have hx2 := hx.ext hE
  have hr : k < xs.length → 0 ≤ xs.getD k 0 ∧ xs.getD k 0 < xs.length := fun h => hp.1.lt h
  obtain ⟨j, hj⟩ : ∃ j : Nat, k < xs.length → xs.getD k 0 = (j : Int) := ⟨(xs.getD k 0).toNat, fun h => by have := hr h; omega⟩
  repeat' (first | (refine k_indexN rfl rfl (hx2.plain (by simp; omega)) (by omega) ?_) | (refine k_loadI rfl hx2 (by omega) ?_) | (refine k_indexN rfl (congrArg _ (hj (by omega))) ⟨_, _, rfl⟩ (by have := hr (by omega); have := hj (by omega); omega) ?_) | (refine k_convI rfl (wrap_u16 (by omega) (by omega)) ?_) | (refine k_storeI rfl rfl hb (by rw [invTo_len]; have := hr (by omega); have := hj (by omega); omega) (fun w3 hc3 hb3 => ⟨fun _ _ => trivial, ?_⟩)) | (refine k_pure rfl ?_) | (refine then_normal ?_) | (refine cw_seq ?_) | (refine cw_region rfl ?_) | (refine rr_nil ?_) | (refine k_len rfl ?_) | (refine g_run rfl rfl ?_) | (refine g_skip rfl rfl ?_) | (refine g_dec_f rfl rfl (fun hc => ?_) (fun hc => ?_)) | (refine g_dec_t rfl rfl (fun hc => ?_) (fun hc => ?_)) | (refine g_ndec_f rfl rfl (fun hc => ?_) (fun hc => ?_)) | (refine g_ndec_t rfl rfl (fun hc => ?_) (fun hc => ?_)) | (refine g_split rfl rfl (fun hc => ?_) (fun hc => ?_)) | (refine k_addI rfl rfl (by omega) (by omega) ?_) | (refine k_subI rfl rfl (by omega) (by omega) ?_) | (refine k_fieldAddr rfl ?_) | (refine k_eqlB rfl rfl ?_) | (refine k_neqB rfl rfl ?_) | (refine cw_cond_true rfl ?_) | (refine cw_cond_false rfl ?_) | (refine cw_cond_dec rfl (fun hc => ?_) (fun hc => ?_)) | (refine cw_cond_ndec rfl (fun hc => ?_) (fun hc => ?_)) | (refine cw_cond rfl (fun hc => ?_) (fun hc => ?_)) | (refine cw_block ?_) | (refine cw_exit ?_) | (refine then_exit ?_) | (refine in_exit ?_) | (refine in_exit_ne rfl ?_) | (refine in_normal ?_) | (refine cw_ret ?_) | (refine then_ret ?_) | (refine in_ret ?_) | (refine cw_skip ?_))
  · refine ⟨⟨k + 1, ⟨by omega, hE.chg hc3 hn1.lo, ?_⟩, by omega, rfl, trivial⟩, (by (repeat (first | exact agree_mask _ _ _ | refine agree_upd rfl ?_ | refine agree_updO rfl ?_ | refine agree_overIn rfl ?_ | refine agree_maskIn rfl ?_)))⟩
    have e : (xs.getD k 0).toNat = j := by have := hj (by omega); omega
    rw [invTo, e]; exact hb3
  · obtain rfl : k = xs.length := by omega
    rw [invTo_inv hp] at hb
    exact ret1 rfl (rt rfl) ⟨g, by rw [hp.inv.2, hp.2]; rfl, hn1.lo, hb, hE⟩
end Go.Proofs.Ythhfjagnmhhapaa

/- Worlds in which only the blocks of a set may have changed. -/
namespace Go.W
open Go.RowKit (Below)
structure Fr (F : Nat → Prop) (w w' : World) : Prop where
  os : w'.os = w.os
  tape : w'.tape = w.tape
  output : w'.output = w.output
  size : w.heap.size ≤ w'.heap.size
  block : ∀ k, k < w.heap.size → ¬ F k → w'.heap[k]? = w.heap[k]?
theorem Fr.refl (F : Nat → Prop) (w : World) : Fr F w w := ⟨rfl, rfl, rfl, Nat.le_refl _, fun _ _ _ => rfl⟩
theorem Fr.trans {F : Nat → Prop} {w w1 w2 : World} (h : Fr F w w1) (k : Fr F w1 w2) : Fr F w w2 :=
  ⟨k.os.trans h.os, k.tape.trans h.tape, k.output.trans h.output, Nat.le_trans h.size k.size, fun i hi hn => (k.block i (Nat.lt_of_lt_of_le hi h.size) hn).trans (h.block i hi hn)⟩
theorem Fr.mono {F G : Nat → Prop} {w w1 : World} (h : Fr F w w1) (hs : ∀ k, k < w.heap.size → F k → G k) : Fr G w w1 :=
  ⟨h.os, h.tape, h.output, h.size, fun i hi hn => h.block i hi fun hf => hn (hs i hi hf)⟩
/-- a second change, of blocks that are in F or new -/
theorem Fr.then {F G : Nat → Prop} {w w1 w2 : World} (h : Fr F w w1) (k : Fr G w1 w2) (hs : ∀ i, i < w.heap.size → G i → F i) : Fr F w w2 :=
  ⟨k.os.trans h.os, k.tape.trans h.tape, k.output.trans h.output, Nat.le_trans h.size k.size, fun i hi hn => (k.block i (Nat.lt_of_lt_of_le hi h.size) fun hg => hn (hs i hi hg)).trans (h.block i hi hn)⟩
theorem Ex.fr {F : Nat → Prop} {w w' : World} (h : Ex w w') : Fr F w w' := ⟨h.os, h.tape, h.output, h.size, fun k hk _ => h.block k hk⟩
theorem Chg.fr {F : Nat → Prop} {w w' : World} {g : Nat} (h : Chg g w w') (hg : F g) : Fr F w w' := ⟨h.os, h.tape, h.output, Nat.le_of_eq h.size.symm, fun k _ hn => h.block k (by rintro rfl; exact hn hg)⟩
theorem Fr.ex {F : Nat → Prop} {w0 w w' : World} (e : Ex w0 w) (h : Fr F w w') (hF : ∀ k, F k → w0.heap.size ≤ k) : Ex w0 w' :=
  Below.trans e ⟨h.os, h.tape, h.output, h.size, fun k hk => h.block k (Nat.lt_of_lt_of_le hk e.size) fun hf => absurd (hF k hf) (Nat.not_le_of_lt hk)⟩
theorem Blk.fr {F : Nat → Prop} {w w' : World} {g T : Nat} {cs : List Value} (hb : Blk w g T cs) (h : Fr F w w') (hn : ¬ F g) : Blk w' g T cs := (h.block g hb.lt hn).trans hb
theorem Sl.fr {F : Nat → Prop} {w w' : World} {a : Option Addr} {vs : List Value} (hs : Sl w a vs) (h : Fr F w w') (hn : ∀ ad, a = some ad → ¬ F ad.block) : Sl w' a vs := by
  refine ⟨hs.ok, fun j hj => ?_⟩
  have hlt := World.block_lt_of_cell? w _ (hs.get j hj)
  obtain ⟨b, o, rfl⟩ := hs.plain (by omega)
  rw [World.cell?_of_block (w := w) (a := elt (some ⟨b, o, none⟩) j) (h.block b hlt (hn _ rfl))]; exact hs.get j hj
theorem grown_fr {F : Nat → Prop} {w w' : World} {r : Option Nat} (h : w.grownBy w' r) (hF : ∀ k, r = some k → F k) : Fr F w w' :=
  ⟨h.os, h.tape, h.output, h.size, fun k hk hn => h.block k hk (by intro e; exact hn (hF k e.symm))⟩
end Go.W

namespace Go.Proofs.Ythhfjagnmhhapaa
open Go.W Go.PM
abbrev srcL (pool prod : Value) (cb o : Nat) : List Value := [pool, prod, .pointer (some ⟨cb, o, none⟩)]
theorem choose_spec {sb cb o Tc st n : Nat} {pool prod : Value} {cs : List Value} {w : World} (hs : Blk w sb 174 (srcL pool prod cb o)) (hc : Blk w cb Tc cs) (ho : cs[o]? = some (.int .u64 (st : Int))) (hne : sb ≠ cb) (hst : st < 18446744073709551616)
    (hn : 1 ≤ n ∧ n ≤ 1000000000000) :
    CallsR Try.prog 132 #[.pointer (some ⟨sb, 0, none⟩), .int .i64 (n : Int)] w fun v w' =>
      ∃ r st' : Nat, v = .int .i64 (r : Int) ∧ r < n ∧ st' < 18446744073709551616 ∧ Chg cb w w' ∧ Blk w' cb Tc (cs.set o (.int .u64 (st' : Int))) := by
  refine callsR_of (args := [_, _]) Try.func132 rfl rfl ?_
  have hol : o < cs.length := (List.getElem?_eq_some_iff.1 ho).1
  have hob : Nat.blt o cs.length = true := by simpa [Nat.blt_eq] using hol
  repeat' (first | (refine k_pure rfl ?_) | (refine then_normal ?_) | (refine cw_seq ?_) | (refine cw_region rfl ?_) | (refine rr_nil ?_) | (refine k_len rfl ?_) | (refine g_run rfl rfl ?_) | (refine g_skip rfl rfl ?_) | (refine g_dec_f rfl rfl (fun hc => ?_) (fun hc => ?_)) | (refine g_dec_t rfl rfl (fun hc => ?_) (fun hc => ?_)) | (refine g_ndec_f rfl rfl (fun hc => ?_) (fun hc => ?_)) | (refine g_ndec_t rfl rfl (fun hc => ?_) (fun hc => ?_)) | (refine g_split rfl rfl (fun hc => ?_) (fun hc => ?_)) | (refine k_addI rfl rfl (by omega) (by omega) ?_) | (refine k_subI rfl rfl (by omega) (by omega) ?_) | (refine k_fieldAddr rfl ?_) | (refine k_eqlB rfl rfl ?_) | (refine k_neqB rfl rfl ?_) | (refine cw_cond_true rfl ?_) | (refine cw_cond_false rfl ?_) | (refine cw_cond_dec rfl (fun hc => ?_) (fun hc => ?_)) | (refine cw_cond_ndec rfl (fun hc => ?_) (fun hc => ?_)) | (refine cw_cond rfl (fun hc => ?_) (fun hc => ?_)) | (refine cw_block ?_) | (refine cw_exit ?_) | (refine then_exit ?_) | (refine in_exit ?_) | (refine in_exit_ne rfl ?_) | (refine in_normal ?_) | (refine cw_ret ?_) | (refine then_ret ?_) | (refine in_ret ?_) | (refine cw_skip ?_))
  refine cw_draw (late := [15]) (plan := [(0, none), (1, none), (2, none), (3, none), (4, none), (5, none), (6, none), (7, none), (8, none), (9, none), (10, none), (11, none), (12, none), (13, none), (14, none), (15, some false)]) (fun w' => Blk w' sb 174 (srcL pool prod cb o) ∧ Blk w' cb Tc cs) mixed (by kernel_rfl) ⟨hs.drew, hc.drew⟩ ?_
  repeat' (first | (refine k_loadC rfl (fun _ h => h.1) rfl ?_) | (refine k_loadC rfl (fun _ h => h.2) ho ?_) | (refine k_shlN (j := 13) rfl rfl rfl (by decide) ?_) | (refine k_xorN rfl rfl rfl hst (Nat.mod_lt _ (by decide)) ?_) | (refine k_storeC rfl rfl rfl hc.drew hob (fun w1 hc1 hb1 => ⟨fun h => (nomatch h), ?_⟩)) | (refine k_pure rfl ?_) | (refine then_normal ?_) | (refine cw_seq ?_) | (refine cw_region rfl ?_) | (refine rr_nil ?_) | (refine k_len rfl ?_) | (refine g_run rfl rfl ?_) | (refine g_skip rfl rfl ?_) | (refine g_dec_f rfl rfl (fun hc => ?_) (fun hc => ?_)) | (refine g_dec_t rfl rfl (fun hc => ?_) (fun hc => ?_)) | (refine g_ndec_f rfl rfl (fun hc => ?_) (fun hc => ?_)) | (refine g_ndec_t rfl rfl (fun hc => ?_) (fun hc => ?_)) | (refine g_split rfl rfl (fun hc => ?_) (fun hc => ?_)) | (refine k_addI rfl rfl (by omega) (by omega) ?_) | (refine k_subI rfl rfl (by omega) (by omega) ?_) | (refine k_fieldAddr rfl ?_) | (refine k_eqlB rfl rfl ?_) | (refine k_neqB rfl rfl ?_) | (refine cw_cond_true rfl ?_) | (refine cw_cond_false rfl ?_) | (refine cw_cond_dec rfl (fun hc => ?_) (fun hc => ?_)) | (refine cw_cond_ndec rfl (fun hc => ?_) (fun hc => ?_)) | (refine cw_cond rfl (fun hc => ?_) (fun hc => ?_)) | (refine cw_block ?_) | (refine cw_exit ?_) | (refine then_exit ?_) | (refine in_exit ?_) | (refine in_exit_ne rfl ?_) | (refine in_normal ?_) | (refine cw_ret ?_) | (refine then_ret ?_) | (refine in_ret ?_) | (refine cw_skip ?_))
  have hst1 : (st ^^^ st <<< 13 % 2 ^ IntKind.u64.bits) < 2 ^ IntKind.u64.bits := Nat.xor_lt_two_pow hst (Nat.mod_lt _ (by decide))
  generalize (st ^^^ st <<< 13 % 2 ^ IntKind.u64.bits) = st1 at *
  have hs1 := hs.drew.chg hc1 hne
  refine cw_draw (late := [15]) (plan := [(0, none), (1, none), (2, none), (3, none), (4, none), (5, none), (6, none), (7, none), (8, none), (9, none), (10, none), (11, none), (12, none), (13, none), (14, none), (15, some false)]) (fun w' => Blk w' sb 174 (srcL pool prod cb o) ∧ Blk w' cb Tc (cs.set o (.int .u64 (st1 : Int)))) mixed (by kernel_rfl) ⟨hs1.drew, hb1.drew⟩ ?_
  have ho1 : (cs.set o (.int .u64 (st1 : Int)))[o]? = some (.int .u64 (st1 : Int)) := by rw [List.getElem?_set_self hol]
  repeat' (first | (refine k_loadC rfl (fun _ h => h.1) rfl ?_) | (refine k_loadC rfl (fun _ h => h.2) ho1 ?_) | (refine k_shrN (j := 7) rfl rfl (.inl rfl) ?_) | (refine k_xorN rfl rfl rfl hst1 (Nat.lt_of_le_of_lt (Nat.shiftRight_le ..) hst1) ?_) | (refine k_storeC rfl rfl rfl hb1.drew (by rw [List.length_set]; exact hob) (fun w2 hc2 hb2 => ⟨fun h => (nomatch h), ?_⟩)) | (refine k_pure rfl ?_) | (refine then_normal ?_) | (refine cw_seq ?_) | (refine cw_region rfl ?_) | (refine rr_nil ?_) | (refine k_len rfl ?_) | (refine g_run rfl rfl ?_) | (refine g_skip rfl rfl ?_) | (refine g_dec_f rfl rfl (fun hc => ?_) (fun hc => ?_)) | (refine g_dec_t rfl rfl (fun hc => ?_) (fun hc => ?_)) | (refine g_ndec_f rfl rfl (fun hc => ?_) (fun hc => ?_)) | (refine g_ndec_t rfl rfl (fun hc => ?_) (fun hc => ?_)) | (refine g_split rfl rfl (fun hc => ?_) (fun hc => ?_)) | (refine k_addI rfl rfl (by omega) (by omega) ?_) | (refine k_subI rfl rfl (by omega) (by omega) ?_) | (refine k_fieldAddr rfl ?_) | (refine k_eqlB rfl rfl ?_) | (refine k_neqB rfl rfl ?_) | (refine cw_cond_true rfl ?_) | (refine cw_cond_false rfl ?_) | (refine cw_cond_dec rfl (fun hc => ?_) (fun hc => ?_)) | (refine cw_cond_ndec rfl (fun hc => ?_) (fun hc => ?_)) | (refine cw_cond rfl (fun hc => ?_) (fun hc => ?_)) | (refine cw_block ?_) | (refine cw_exit ?_) | (refine then_exit ?_) | (refine in_exit ?_) | (refine in_exit_ne rfl ?_) | (refine in_normal ?_) | (refine cw_ret ?_) | (refine then_ret ?_) | (refine in_ret ?_) | (refine cw_skip ?_))
  have hst2 : (st1 ^^^ st1 >>> 7) < 2 ^ IntKind.u64.bits := Nat.xor_lt_two_pow hst1 (Nat.lt_of_le_of_lt (Nat.shiftRight_le ..) hst1)
  generalize (st1 ^^^ st1 >>> 7) = st2 at *
  rw [List.set_set] at hb2
  have hs2 := hs1.drew.chg hc2 hne
  refine cw_draw (late := [15]) (plan := [(0, none), (1, none), (2, none), (3, none), (4, none), (5, none), (6, none), (7, none), (8, none), (9, none), (10, none), (11, none), (12, none), (13, none), (14, none), (15, some false)]) (fun w' => Blk w' sb 174 (srcL pool prod cb o) ∧ Blk w' cb Tc (cs.set o (.int .u64 (st2 : Int)))) mixed (by kernel_rfl) ⟨hs2.drew, hb2.drew⟩ ?_
  have ho2 : (cs.set o (.int .u64 (st2 : Int)))[o]? = some (.int .u64 (st2 : Int)) := by rw [List.getElem?_set_self hol]
  repeat' (first | (refine k_loadC rfl (fun _ h => h.1) rfl ?_) | (refine k_loadC rfl (fun _ h => h.2) ho2 ?_) | (refine k_shlN (j := 17) rfl rfl rfl (by decide) ?_) | (refine k_xorN rfl rfl rfl hst2 (Nat.mod_lt _ (by decide)) ?_) | (refine k_storeC rfl rfl rfl hb2.drew (by rw [List.length_set]; exact hob) (fun w3 hc3 hb3 => ⟨fun h => (nomatch h), ?_⟩)) | (refine k_pure rfl ?_) | (refine then_normal ?_) | (refine cw_seq ?_) | (refine cw_region rfl ?_) | (refine rr_nil ?_) | (refine k_len rfl ?_) | (refine g_run rfl rfl ?_) | (refine g_skip rfl rfl ?_) | (refine g_dec_f rfl rfl (fun hc => ?_) (fun hc => ?_)) | (refine g_dec_t rfl rfl (fun hc => ?_) (fun hc => ?_)) | (refine g_ndec_f rfl rfl (fun hc => ?_) (fun hc => ?_)) | (refine g_ndec_t rfl rfl (fun hc => ?_) (fun hc => ?_)) | (refine g_split rfl rfl (fun hc => ?_) (fun hc => ?_)) | (refine k_addI rfl rfl (by omega) (by omega) ?_) | (refine k_subI rfl rfl (by omega) (by omega) ?_) | (refine k_fieldAddr rfl ?_) | (refine k_eqlB rfl rfl ?_) | (refine k_neqB rfl rfl ?_) | (refine cw_cond_true rfl ?_) | (refine cw_cond_false rfl ?_) | (refine cw_cond_dec rfl (fun hc => ?_) (fun hc => ?_)) | (refine cw_cond_ndec rfl (fun hc => ?_) (fun hc => ?_)) | (refine cw_cond rfl (fun hc => ?_) (fun hc => ?_)) | (refine cw_block ?_) | (refine cw_exit ?_) | (refine then_exit ?_) | (refine in_exit ?_) | (refine in_exit_ne rfl ?_) | (refine in_normal ?_) | (refine cw_ret ?_) | (refine then_ret ?_) | (refine in_ret ?_) | (refine cw_skip ?_))
  have hst3 : (st2 ^^^ st2 <<< 17 % 2 ^ IntKind.u64.bits) < 2 ^ IntKind.u64.bits := Nat.xor_lt_two_pow hst2 (Nat.mod_lt _ (by decide))
  generalize (st2 ^^^ st2 <<< 17 % 2 ^ IntKind.u64.bits) = st3 at *
  rw [List.set_set] at hb3
  have hs3 := hs2.drew.chg hc3 hne
  have ho3 : (cs.set o (.int .u64 (st3 : Int)))[o]? = some (.int .u64 (st3 : Int)) := by rw [List.getElem?_set_self hol]
  have hm1 := Int.emod_nonneg ((st3 >>> 20 : Nat) : Int) (show (n : Int) ≠ 0 by omega)
  have hm2 := Int.emod_lt_of_pos ((st3 >>> 20 : Nat) : Int) (show 0 < (n : Int) by omega)
  repeat' (first | (refine k_loadC rfl hs3 rfl ?_) | (refine k_loadC rfl hb3 ho3 ?_) | (refine k_shrN (j := 20) rfl rfl (.inl rfl) ?_) | (refine k_convI rfl (wrap_u64 (by omega) (by omega)) ?_) | (refine k_rem rfl rfl (by omega) (by omega) ?_) | (refine k_convI rfl (wrap_i64 (by omega) (by omega)) ?_) | (refine k_pure rfl ?_) | (refine then_normal ?_) | (refine cw_seq ?_) | (refine cw_region rfl ?_) | (refine rr_nil ?_) | (refine k_len rfl ?_) | (refine g_run rfl rfl ?_) | (refine g_skip rfl rfl ?_) | (refine g_dec_f rfl rfl (fun hc => ?_) (fun hc => ?_)) | (refine g_dec_t rfl rfl (fun hc => ?_) (fun hc => ?_)) | (refine g_ndec_f rfl rfl (fun hc => ?_) (fun hc => ?_)) | (refine g_ndec_t rfl rfl (fun hc => ?_) (fun hc => ?_)) | (refine g_split rfl rfl (fun hc => ?_) (fun hc => ?_)) | (refine k_addI rfl rfl (by omega) (by omega) ?_) | (refine k_subI rfl rfl (by omega) (by omega) ?_) | (refine k_fieldAddr rfl ?_) | (refine k_eqlB rfl rfl ?_) | (refine k_neqB rfl rfl ?_) | (refine cw_cond_true rfl ?_) | (refine cw_cond_false rfl ?_) | (refine cw_cond_dec rfl (fun hc => ?_) (fun hc => ?_)) | (refine cw_cond_ndec rfl (fun hc => ?_) (fun hc => ?_)) | (refine cw_cond rfl (fun hc => ?_) (fun hc => ?_)) | (refine cw_block ?_) | (refine cw_exit ?_) | (refine then_exit ?_) | (refine in_exit ?_) | (refine in_exit_ne rfl ?_) | (refine in_normal ?_) | (refine cw_ret ?_) | (refine then_ret ?_) | (refine in_ret ?_) | (refine cw_skip ?_))
  refine ret1 rfl (rt rfl) ⟨(st3 >>> 20) % n, st3, by show Value.int .i64 (((st3 >>> 20 : Nat) : Int) % (n : Int)) = _; rw [Int.natCast_emod], Nat.mod_lt _ (by omega), hst3, ?_, hb3⟩
  exact ((Chg.refl cb w).drew.trans hc1).drew.trans (hc2.drew.trans hc3)
end Go.Proofs.Ythhfjagnmhhapaa

/- Maps with int keys. -/
namespace Go.W
open Go.RowKit (Below)
variable {P : Program} {S : World → Prop} {ops : List Oper} {K : Env → World → Prop} {rest : List (Oper × Option Bool)} {ρ : Env} {w : World} {b : Option Bool} {kf : Bool} {d : Nat} {T T' : TypeId} {pos : String} {af : Array Edge}
/-- block r is a map with these keys and values, the oldest first -/
def MapAt (w : World) (r : Nat) (l : List (Int × Value)) : Prop := ∃ es clock, w.heap[r]? = some (.map es clock) ∧ es.toList.map (fun e => (e.key, e.val)) = l.map fun p => (Value.int .i64 p.1, p.2)
theorem MapAt.lt {r : Nat} {l : List (Int × Value)} (h : MapAt w r l) : r < w.heap.size := by
  obtain ⟨es, c, h, _⟩ := h; exact (Array.getElem?_eq_some_iff.1 h).1
theorem MapAt.of_block {w' : World} {r : Nat} {l : List (Int × Value)} (h : MapAt w r l) (hb : w'.heap[r]? = w.heap[r]?) : MapAt w' r l := by
  obtain ⟨es, c, h, e⟩ := h; exact ⟨es, c, hb.trans h, e⟩
theorem MapAt.ext {w' : World} {r : Nat} {l : List (Int × Value)} (h : MapAt w r l) (e : Ex w w') : MapAt w' r l := h.of_block (e.block r h.lt)
theorem MapAt.chg {w' : World} {r g : Nat} {l : List (Int × Value)} (h : MapAt w r l) (c : Chg g w w') (hne : r ≠ g) : MapAt w' r l := h.of_block (c.block r hne)
theorem MapAt.fr {F : Nat → Prop} {w' : World} {r : Nat} {l : List (Int × Value)} (h : MapAt w r l) (c : Fr F w w') (hne : ¬ F r) : MapAt w' r l := h.of_block (c.block r h.lt hne)
def findK (k : Int) : List (Int × Value) → Nat → Option (Nat × Value)
  | [], _ => none
  | p :: l, i => if p.1 = k then some (i, p.2) else findK k l (i + 1)
theorem findNow_eq {k : Int} : ∀ {es : List MapEntry} {l : List (Int × Value)} (i : Nat), es.map (fun e => (e.key, e.val)) = l.map (fun p => (Value.int .i64 p.1, p.2)) →
    Instr.findNow (.int .i64) (.int .i64 k) es i = some (findK k l i)
  | [], [], _, _ => rfl
  | [], _ :: _, _, h => by simp at h
  | _ :: _, [], _, h => by simp at h
  | e :: es, p :: l, i, h => by
    simp only [List.map_cons, List.cons.injEq, Prod.mk.injEq] at h
    rw [Instr.findNow, h.1.1, findK]
    by_cases hk : p.1 = k
    · subst hk; simp [Instr.sameNow, h.1.2]
    · have : (k == p.1) = false := by simp; omega
      simp [Instr.sameNow, this, hk, findNow_eq (i + 1) h.2]
theorem run_getObj' {w : World} {r : Nat} {es : Array MapEntry} {c : Nat} (h : w.heap[r]? = some (.map es c)) : (getObj r).run P w = .ok (.map es c) w := by
  simp [getObj, Sem.run, h]
theorem run_setObj' {w : World} {r : Nat} {es : Array MapEntry} {c : Nat} (o : Obj) (h : w.heap[r]? = some (.map es c)) : (setObj r o).run P w = .ok () { w with heap := w.heap.setIfInBounds r o } := by
  simp [setObj, Sem.run, h]
theorem run_checkKeyN {w : World} {e : Bool} {n : Nat} {Kt : TypeId} {k : Int} (hk : P.underlying Kt = some (.int .i64)) : (Instr.checkKey e (n + 1) Kt (.int .i64 k)).run P w = .ok () w := by
  rw [Instr.checkKey]; simp [run_underlying hk]
theorem run_checkKey {w : World} {e : Bool} {Kt : TypeId} {k : Int} (hk : P.underlying Kt = some (.int .i64)) : (Instr.checkKey e 10000 Kt (.int .i64 k)).run P w = .ok () w := run_checkKeyN (n := 9999) hk
theorem run_findKey {w : World} {Kt : TypeId} {k : Int} {es : List MapEntry} {l : List (Int × Value)} (hk : P.underlying Kt = some (.int .i64)) (he : es.map (fun e => (e.key, e.val)) = l.map (fun p => (Value.int .i64 p.1, p.2))) :
    (Instr.findKey Kt (.int .i64 k) es).run P w = .ok (findK k l 0) w := by
  simp [Instr.findKey, run_underlying hk, findNow_eq 0 he]
theorem k_lookup {x y : Operand} {Kt E r i : Nat} {k : Int} {l : List (Int × Value)} {v : Value} (hm : P.underlying T' = some (.map Kt E)) (hk : P.underlying Kt = some (.int .i64)) (hx : ev ρ x = .map (some r)) (hy : ev ρ y = .int .i64 k)
    (hs : Rd b S w fun w' => MapAt w' r l) (hf : findK k l 0 = some (i, v)) (h : RR P S ops K rest (upd ρ d v) w) :
    RR P S ops K ((⟨some d, .lookup T' x y false, T, pos, af, none⟩, b) :: rest) ρ w := by
  refine rr_read rfl rfl (hs.imp fun w' hw => ?_) h
  obtain ⟨es, c, hb, he⟩ := hw
  have h1 := run_findKey (w := w') (P := P) (k := k) hk he
  have h2 := run_checkKey (w := w') (P := P) (k := k) (e := es.isEmpty) hk
  simp [execOp, Instr.lookup, hx, hy, run_underlying hm, run_getObj' hb, h1, h2, hf]
theorem k_lookupOk {x y : Operand} {Kt E r : Nat} {k : Int} {l : List (Int × Value)} {z : Value} [Zro P E z] (hm : P.underlying T' = some (.map Kt E)) (hk : P.underlying Kt = some (.int .i64)) (hx : ev ρ x = .map (some r)) (hy : ev ρ y = .int .i64 k)
    (hs : Rd b S w fun w' => MapAt w' r l) (h : RR P S ops K rest (upd ρ d (match findK k l 0 with | some (_, v) => .tuple #[v, .bool true] | none => .tuple #[z, .bool false])) w) :
    RR P S ops K ((⟨some d, .lookup T' x y true, T, pos, af, none⟩, b) :: rest) ρ w := by
  refine rr_read rfl rfl (hs.imp fun w' hw => ?_) h
  obtain ⟨es, c, hb, he⟩ := hw
  have h1 := run_findKey (w := w') (P := P) (k := k) hk he
  have h2 := run_checkKey (w := w') (P := P) (k := k) (e := es.isEmpty) hk
  have hz := run_zero (P := P) (w := w') (T := E) (v := z)
  cases hf : findK k l 0 with
  | none => simp [execOp, Instr.lookup, hx, hy, run_underlying hm, run_getObj' hb, h1, h2, hf, hz]
  | some q => simp [execOp, Instr.lookup, hx, hy, run_underlying hm, run_getObj' hb, h1, h2, hf]
theorem k_makeMap (h : ∀ r w', Ex w w' → w.heap.size ≤ r → MapAt w' r [] → (kf = true → S w → S w') ∧ RR P S ops K rest (upd ρ d (.map (some r))) w') :
    RR P S ops K ((⟨some d, .makeMap T' none, T, pos, af, none⟩, some kf) :: rest) ρ w := by
  refine rr_eff rfl ?_
  unfold OpW
  have : (execOp (ev ρ) ⟨some d, .makeMap T' none, T, pos, af, none⟩).run P w = .ok (.value (.map (some w.heap.size))) (w.alloc (.map #[] 0)) := by
    simp [execOp, Instr.makeMap]
  rw [this]
  exact h _ _ (Ex.alloc w _) (Nat.le_refl _) ⟨#[], 0, heap_alloc_new w _, rfl⟩
theorem findK_none {k : Int} : ∀ {l : List (Int × Value)} (i : Nat), (∀ p ∈ l, p.1 ≠ k) → findK k l i = none
  | [], _, _ => rfl
  | p :: l, i, h => by rw [findK, if_neg (h p (by simp)), findK_none (i + 1) fun q hq => h q (by simp [hq])]
theorem findK_at {k : Int} : ∀ {l : List (Int × Value)} (i j : Nat) {v : Value}, l[j]? = some (k, v) → (∀ j' p, j' < j → l[j']? = some p → p.1 ≠ k) → findK k l i = some (i + j, v)
  | [], _, j, _, h, _ => by simp at h
  | p :: l, i, 0, v, h, _ => by
    simp only [List.getElem?_cons_zero, Option.some.injEq] at h
    subst h; rw [findK, if_pos rfl]; rfl
  | p :: l, i, j + 1, v, h, hn => by
    rw [findK, if_neg (hn 0 p (by omega) (by simp)), findK_at (i + 1) j (by simpa using h) (fun j' q hj hq => hn (j' + 1) q (by omega) (by simpa using hq))]
    rw [Nat.add_right_comm]; rfl
theorem eraseIdx_map' {α β : Type} (f : α → β) : ∀ (l : List α) (i : Nat), (l.eraseIdx i).map f = (l.map f).eraseIdx i
  | [], _ => by simp
  | _ :: _, 0 => by simp
  | a :: l, i + 1 => by simp [eraseIdx_map' f l i]
theorem set_chg {r : Nat} {o : Obj} : Chg r w { w with heap := w.heap.setIfInBounds r o } :=
  ⟨rfl, rfl, rfl, by simp, fun k hk => by simp [Ne.symm hk]⟩
/-- a new key -/
theorem k_mapNew {x y z : Operand} {Kt E r : Nat} {k : Int} {l : List (Int × Value)} {v : Value} (hm : P.underlying T' = some (.map Kt E)) (hk : P.underlying Kt = some (.int .i64)) (hx : ev ρ x = .map (some r)) (hy : ev ρ y = .int .i64 k) (hz : ev ρ z = v)
    (hs : MapAt w r l) (hf : ∀ p ∈ l, p.1 ≠ k) (h : ∀ w', Chg r w w' → MapAt w' r (l ++ [(k, v)]) → (kf = true → S w → S w') ∧ RR P S ops K rest ρ w') :
    RR P S ops K ((⟨none, .mapUpdate T' x y z, T, pos, af, none⟩, some kf) :: rest) ρ w := by
  refine rr_eff rfl ?_
  unfold OpW
  obtain ⟨es, c, hb, he⟩ := hs
  have h1 := run_findKey (w := w) (P := P) (k := k) hk he
  rw [findK_none 0 hf] at h1
  have h2 := run_checkKey (w := w) (P := P) (k := k) (e := false) hk
  have : (execOp (ev ρ) ⟨none, .mapUpdate T' x y z, T, pos, af, none⟩).run P w = .ok .skip { w with heap := w.heap.setIfInBounds r (.map (es.push ⟨.int .i64 k, v, c⟩) (c + 1)) } := by
    simp [execOp, Instr.mapUpdate, hx, hy, hz, run_underlying hm, run_getObj' hb, h1, h2, run_setObj' _ hb]
  rw [this]
  refine h _ set_chg ⟨es.push ⟨.int .i64 k, v, c⟩, c + 1, ?_, by simp [he]⟩
  have := (Array.getElem?_eq_some_iff.1 hb).1
  simp [this]
theorem k_mapDel {x y : Operand} {Kt E r i : Nat} {T2 : TypeId} {k : Int} {l : List (Int × Value)} {v : Value} (hm : P.underlying T' = some (.map Kt E)) (hk : P.underlying Kt = some (.int .i64)) (hx : ev ρ x = .map (some r)) (hy : ev ρ y = .int .i64 k)
    (hs : MapAt w r l) (hf : findK k l 0 = some (i, v)) (hi : i < l.length) (h : ∀ w', Chg r w w' → MapAt w' r (l.eraseIdx i) → (kf = true → S w → S w') ∧ RR P S ops K rest ρ w') :
    RR P S ops K ((⟨none, .call ⟨.builtin .delete, #[x, y], #[T', T2]⟩, T, pos, af, none⟩, some kf) :: rest) ρ w := by
  refine rr_eff rfl ?_
  unfold OpW
  obtain ⟨es, c, hb, he⟩ := hs
  have h1 := run_findKey (w := w) (P := P) (k := k) hk he
  rw [hf] at h1
  have h2 := run_checkKey (w := w) (P := P) (k := k) (e := es.isEmpty) hk
  have hl : es.size = l.length := by have := congrArg List.length he; simpa using this
  have : (execOp (ev ρ) ⟨none, .call ⟨.builtin .delete, #[x, y], #[T', T2]⟩, T, pos, af, none⟩).run P w = .ok (.value (.tuple #[])) { w with heap := w.heap.setIfInBounds r (.map (es.eraseIdxIfInBounds i) c) } := by
    rw [BigFrame.execOp_builtin]
    simp [BigFrame.builtin_delete, Builtin.delete_, hx, hy, run_underlying hm, run_getObj' hb, h1, h2, run_setObj' _ hb]
  rw [this]
  refine h _ set_chg ⟨es.eraseIdxIfInBounds i, c, ?_, ?_⟩
  · have := (Array.getElem?_eq_some_iff.1 hb).1
    simp [this]
  · rw [Array.eraseIdxIfInBounds, dif_pos (by omega)]
    have e1 : (es.eraseIdx i (by omega)).toList = es.toList.eraseIdx i := by simp
    rw [e1, eraseIdx_map', eraseIdx_map', he]
theorem k_mapDel0 {x y : Operand} {Kt E r : Nat} {T2 : TypeId} {k : Int} {l : List (Int × Value)} (hm : P.underlying T' = some (.map Kt E)) (hk : P.underlying Kt = some (.int .i64)) (hx : ev ρ x = .map (some r)) (hy : ev ρ y = .int .i64 k)
    (hs : MapAt w r l) (hf : ∀ p ∈ l, p.1 ≠ k) (h : ∀ w', Chg r w w' → MapAt w' r l → (kf = true → S w → S w') ∧ RR P S ops K rest ρ w') :
    RR P S ops K ((⟨none, .call ⟨.builtin .delete, #[x, y], #[T', T2]⟩, T, pos, af, none⟩, some kf) :: rest) ρ w := by
  refine rr_eff rfl ?_
  unfold OpW
  obtain ⟨es, c, hb, he⟩ := hs
  have h1 := run_findKey (w := w) (P := P) (k := k) hk he
  rw [findK_none 0 hf] at h1
  have h2 := run_checkKey (w := w) (P := P) (k := k) (e := es.isEmpty) hk
  have : (execOp (ev ρ) ⟨none, .call ⟨.builtin .delete, #[x, y], #[T', T2]⟩, T, pos, af, none⟩).run P w = .ok (.value (.tuple #[])) { w with heap := w.heap.setIfInBounds r (.map es c) } := by
    rw [BigFrame.execOp_builtin]
    simp [BigFrame.builtin_delete, Builtin.delete_, hx, hy, run_underlying hm, run_getObj' hb, h1, h2, run_setObj' _ hb]
  rw [this]
  refine h _ set_chg ⟨es, c, ?_, he⟩
  have := (Array.getElem?_eq_some_iff.1 hb).1
  simp [this]
end Go.W

