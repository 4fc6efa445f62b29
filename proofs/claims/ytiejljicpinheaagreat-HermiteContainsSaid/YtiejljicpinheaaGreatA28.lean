import Derived.Test.YtiejljicpinheaaGreatA27
namespace Go.LA
def Zb (Q s n : Nat) : Nat := Q * 2 ^ (n + s) - 8
theorem j0 {Q s n : Nat} (hQ : 10 ≤ Q) : 2 * Zb Q s n + 2 ≤ Zb Q s (n + 1) ∧ Zb Q s n ≤ Zb Q s (n + 1) := by
 unfold Zb
 have h1 : Q * 2 ^ (n + 1 + s) = 2 * (Q * 2 ^ (n + s)) := by
  rw [show n + 1 + s = n + s + 1 by omega, Nat.pow_succ]; grind
 have h2 : Q * 1 ≤ Q * 2 ^ (n + s) := Nat.mul_le_mul_left _ (Nat.pow_pos (by decide))
 rw [h1]; omega
theorem eh {Q s : Nat} (hQ : 10 ≤ Q) {n m : Nat} (h : n ≤ m) : Zb Q s n ≤ Zb Q s m := by
 induction m with
 | zero => obtain rfl : n = 0 := by omega
           exact Nat.le_refl _
 | succ m ih =>
  by_cases e : n = m + 1
  ·subst e; exact Nat.le_refl _
  ·exact Nat.le_trans (ih (by omega)) (j0 hQ).2
def Cz (r c e : Nat) (H U : Mat) (l : Nat) : Prop := (∀ i, i < r → Lb e (H i l)) ∧ ∀ i, i < c → Lb e (U i l)
theorem Cz.mono {r c e e' : Nat} {H U : Mat} {l : Nat} (h : Cz r c e H U l) (he : e ≤ e') : Cz r c e' H U l := ⟨fun i hi => (h.1 i hi).mono he, fun i hi => (h.2 i hi).mono he⟩
structure GaJ (r c row k s Q : Nat) (A0 H U : Mat) (j : Nat) (H1 U1 : Mat) : Prop where
 ceq : CEq r c A0 H1 U1
 low : ∀ i l, l < k → H1 i l = H i l ∧ U1 i l = U i l
 high : ∀ i l, j ≤ l → H1 i l = H i l ∧ U1 i l = U i l
 zr : ∀ x, (∀ l, k ≤ l → l < c → H x l = 0) → ∀ l, k ≤ l → l < c → H1 x l = 0
 z : ∀ l, k < l → l < j → H1 row l = 0
 same : H1 row k = 0 → ∀ i l, H1 i l = H i l ∧ U1 i l = U i l
 szk : Cz r c (Zb Q s (j + k)) H1 U1 k
 sz : ∀ l, k < l → l < j → Cz r c (Zb Q s (l + 1 + k)) H1 U1 l
theorem pR {r c row k s Q : Nat} {A0 H U : Mat} (hC : CEq r c A0 H U) (hk : Cz r c (Zb Q s (k + k)) H U k) (hQ : 10 ≤ Q) : GaJ r c row k s Q A0 H U (k + 1) H U :=
 ⟨hC, fun _ _ _ => ⟨rfl, rfl⟩, fun _ _ _ => ⟨rfl, rfl⟩, fun _ h => h, fun l h1 h2 => by omega, fun _ _ _ => ⟨rfl, rfl⟩, hk.mono (eh hQ (by omega)), fun l h1 h2 => by omega⟩
structure GiJ (r c row k j : Nat) (A0 H1 U1 H2 U2 : Mat) (al be ga de : Int) : Prop where
 ceq : CEq r c A0 H2 U2
 hk : ∀ i, H2 i k = al * H1 i k + be * H1 i j
 hj : ∀ i, H2 i j = ga * H1 i k + de * H1 i j
 ho : ∀ i l, l ≠ k → l ≠ j → H2 i l = H1 i l
 uk : ∀ i, U2 i k = al * U1 i k + be * U1 i j
 uj : ∀ i, U2 i j = ga * U1 i k + de * U1 i j
 uo : ∀ i l, l ≠ k → l ≠ j → U2 i l = U1 i l
 eu : EuJ (H1 row k) (H1 row j) (H2 row k) (H2 row j) al be ga de
theorem pS {r c row k j : Nat} {A0 H1 U1 : Mat} (hC : CEq r c A0 H1 U1) : GiJ r c row k j A0 H1 U1 H1 U1 1 0 0 1 :=
 ⟨hC, fun i => by omega, fun i => by omega, fun _ _ _ _ => rfl, fun i => by omega, fun i => by omega, fun _ _ _ _ => rfl, pQ _ _⟩
theorem GiJ.step {r c row k j : Nat} {A0 H1 U1 H2 U2 : Mat} {al be ga de : Int} (h : GiJ r c row k j A0 H1 U1 H2 U2 al be ga de) (hkj : k < j) (hj : j < c) (hy : H2 row j ≠ 0) :
  GiJ r c row k j A0 H1 U1 (cswp (cadd H2 k j (-(H2 row k / H2 row j))) k j) (cswp (cadd U2 k j (-(H2 row k / H2 row j))) k j) ga de (al - H2 row k / H2 row j * ga) (be - H2 row k / H2 row j * de) := by
 have hne : k ≠ j := by omega
 have hs := h.eu.step hy
 generalize hq : H2 row k / H2 row j = q at *
 have e1 : ∀ (M : Mat) (i : Nat), cswp (cadd M k j (-q)) k j i k = M i j := fun M i => by unfold cswp cadd; rw [if_pos rfl, if_neg (Ne.symm hne)]
 have e2 : ∀ (M : Mat) (i : Nat), cswp (cadd M k j (-q)) k j i j = M i k + -q * M i j := fun M i => by unfold cswp cadd; rw [if_neg (Ne.symm hne), if_pos rfl, if_pos rfl]
 have e3 : ∀ (M : Mat) (i l : Nat), l ≠ k → l ≠ j → cswp (cadd M k j (-q)) k j i l = M i l := fun M i l h1 h2 => by unfold cswp cadd; rw [if_neg h1, if_neg h2, if_neg h1]
 refine ⟨(h.ceq.add (-q) hne (by omega) hj).swap hne (by omega) hj, fun i => by rw [e1, h.hj], fun i => by rw [e2, h.hj, h.hk]; grind, fun i l h1 h2 => by rw [e3 _ _ _ h1 h2, h.ho i l h1 h2], fun i => by rw [e1, h.uj], fun i => by rw [e2, h.uj, h.uk]; grind, fun i l h1 h2 => by rw [e3 _ _ _ h1 h2, h.uo i l h1 h2], ?_⟩
 have e4 : H2 row k % H2 row j = H2 row k + -q * H2 row j := by rw [Int.emod_def, hq]; grind
 rw [e1, e2, ← e4]; exact hs
theorem GiJ.sub {r c row k j s Q : Nat} {A0 H U H1 U1 H2 U2 : Mat} {al be ga de : Int} (hG : GaJ r c row k s Q A0 H U j H1 U1) (hz : Cz r c (Zb Q s (j + k)) H U j) (h : GiJ r c row k j A0 H1 U1 H2 U2 al be ga de) (hrow : row < r) (hy : H2 row j ≠ 0) (hQ : 10 ≤ Q) :
  (∀ i, i < r → Lb (Zb Q s (j + 1 + k)) (H2 i k - H2 row k / H2 row j * H2 i j)) ∧ ∀ i, i < c → Lb (Zb Q s (j + 1 + k)) (U2 i k - H2 row k / H2 row j * U2 i j) := by
 have hs := h.eu.step hy
 have e0 : 2 * Zb Q s (j + k) + 2 ≤ Zb Q s (j + 1 + k) := by rw [show j + 1 + k = j + k + 1 by omega]; exact (j0 hQ).1
 have a1 := hG.szk.1 row hrow
 have a2 : Lb (Zb Q s (j + k)) (H1 row j) := by rw [(hG.high row j (Nat.le_refl _)).1]; exact hz.1 row hrow
 refine ⟨fun i hi => ?_, fun i hi => ?_⟩
 ·have : H2 i k - H2 row k / H2 row j * H2 i j = (al - H2 row k / H2 row j * ga) * H1 i k + (be - H2 row k / H2 row j * de) * H1 i j := by rw [h.hk, h.hj i]; grind
  rw [this]
  exact (jZ a1 a2 hs.bg hs.bd (hG.szk.1 i hi) (by rw [(hG.high i j (Nat.le_refl _)).1]; exact hz.1 i hi)).mono e0
 ·have : U2 i k - H2 row k / H2 row j * U2 i j = (al - H2 row k / H2 row j * ga) * U1 i k + (be - H2 row k / H2 row j * de) * U1 i j := by rw [h.uk, h.uj i]; grind
  rw [this]
  exact (jZ a1 a2 hs.bg hs.bd (hG.szk.2 i hi) (by rw [(hG.high i j (Nat.le_refl _)).2]; exact hz.2 i hi)).mono e0
theorem GiJ.fin {r c row k j s Q : Nat} {A0 H U H1 U1 H2 U2 : Mat} {al be ga de : Int} (hG : GaJ r c row k s Q A0 H U j H1 U1) (hz : Cz r c (Zb Q s (j + k)) H U j) (h : GiJ r c row k j A0 H1 U1 H2 U2 al be ga de) (hrow : row < r) (hkj : k < j) (hj : j < c) (hy : H2 row j = 0) (hQ : 10 ≤ Q) (hx : H2 row k = 0 → ∀ i l, H2 i l = H1 i l ∧ U2 i l = U1 i l) :
  GaJ r c row k s Q A0 H U (j + 1) H2 U2 := by
 have e0 : 2 * Zb Q s (j + k) + 2 ≤ Zb Q s (j + 1 + k) := by rw [show j + 1 + k = j + k + 1 by omega]; exact (j0 hQ).1
 have a1 := hG.szk.1 row hrow
 have a2 : Lb (Zb Q s (j + k)) (H1 row j) := by rw [(hG.high row j (Nat.le_refl _)).1]; exact hz.1 row hrow
 have ck : ∀ {a b : Int}, (a.natAbs : Int) ≤ 9 * ((H1 row k).natAbs + (H1 row j).natAbs + 1) → (b.natAbs : Int) ≤ 9 * ((H1 row k).natAbs + (H1 row j).natAbs + 1) → (∀ i, i < r → Lb (Zb Q s (j + 1 + k)) (a * H1 i k + b * H1 i j)) ∧ ∀ i, i < c → Lb (Zb Q s (j + 1 + k)) (a * U1 i k + b * U1 i j) := fun ha hb =>
  ⟨fun i hi => (jZ a1 a2 ha hb (hG.szk.1 i hi) (by rw [(hG.high i j (Nat.le_refl _)).1]; exact hz.1 i hi)).mono e0, fun i hi => (jZ a1 a2 ha hb (hG.szk.2 i hi) (by rw [(hG.high i j (Nat.le_refl _)).2]; exact hz.2 i hi)).mono e0⟩
 have c1 := ck h.eu.ba h.eu.bb
 have c2 := ck h.eu.bg h.eu.bd
 refine ⟨h.ceq, fun i l hl => ?_, fun i l hl => ?_, fun x hx0 l h1 h2 => ?_, fun l h1 h2 => ?_, fun hx0 i l => ?_, ⟨fun i hi => by rw [h.hk]; exact c1.1 i hi, fun i hi => by rw [h.uk]; exact c1.2 i hi⟩, fun l h1 h2 => ?_⟩
 ·rw [h.ho i l (by omega) (by omega), h.uo i l (by omega) (by omega)]; exact hG.low i l hl
 ·rw [h.ho i l (by omega) (by omega), h.uo i l (by omega) (by omega)]; exact hG.high i l (by omega)
 ·have z1 := hG.zr x hx0 k (Nat.le_refl _) (by omega)
  have z2 := hG.zr x hx0 j (by omega) hj
  by_cases e1 : l = k
  ·subst e1; rw [h.hk, z1, z2]; omega
  ·by_cases e2 : l = j
   ·subst e2; rw [h.hj, z1, z2]; omega
   ·rw [h.ho x l e1 e2]; exact hG.zr x hx0 l h1 h2
 ·by_cases e : l = j
  ·subst e; exact hy
  ·rw [h.ho row l (by omega) e]; exact hG.z l h1 (by omega)
 ·have := hx hx0
  have h0 : H1 row k = 0 := by rw [← (this row k).1]; exact hx0
  rw [(this i l).1, (this i l).2]; exact hG.same h0 i l
 ·by_cases e : l = j
  ·subst e; exact ⟨fun i hi => by rw [h.hj]; exact c2.1 i hi, fun i hi => by rw [h.uj]; exact c2.2 i hi⟩
  ·refine ⟨fun i hi => ?_, fun i hi => ?_⟩
   ·rw [h.ho i l (by omega) e]; exact (hG.sz l h1 (by omega)).1 i hi
   ·rw [h.uo i l (by omega) e]; exact (hG.sz l h1 (by omega)).2 i hi
theorem GaJ.neg {r c row k s Q j : Nat} {A0 H U H1 U1 : Mat} (h : GaJ r c row k s Q A0 H U j H1 U1) (hk : k < c) (hj : k < j) (hn : H1 row k < 0) : GaJ r c row k s Q A0 H U j (cneg H1 k) (cneg U1 k) := by
 have e0 : ∀ (M : Mat) (i l : Nat), l ≠ k → cneg M k i l = M i l := fun M i l hl => if_neg hl
 have e1 : ∀ (M : Mat) (i : Nat), cneg M k i k = - M i k := fun M i => if_pos rfl
 refine ⟨h.ceq.neg hk, fun i l hl => ?_, fun i l hl => ?_, fun x hx l h1 h2 => ?_, fun l h1 h2 => ?_, fun hx => ?_, ⟨fun i hi => ?_, fun i hi => ?_⟩, fun l h1 h2 => ⟨fun i hi => ?_, fun i hi => ?_⟩⟩
 ·rw [e0 _ _ _ (by omega), e0 _ _ _ (by omega)]; exact h.low i l hl
 ·rw [e0 _ _ _ (by omega), e0 _ _ _ (by omega)]; exact h.high i l hl
 ·have := h.zr x hx l h1 h2
  by_cases e : l = k
  ·subst e; rw [e1, this]; omega
  ·rw [e0 _ _ _ e]; exact this
 ·rw [e0 _ _ _ (by omega)]; exact h.z l h1 h2
 ·rw [e1] at hx; omega
 ·rw [e1]; exact (h.szk.1 i hi).neg
 ·rw [e1]; exact (h.szk.2 i hi).neg
 ·rw [e0 _ _ _ (by omega)]; exact (h.sz l h1 h2).1 i hi
 ·rw [e0 _ _ _ (by omega)]; exact (h.sz l h1 h2).2 i hi
end Go.LA
namespace Go.W
def markC (ops : Array Oper) : List Nat → List Nat → List Nat
 | [], m => m
 | k :: ks, m => markC ops ks (bif m.any (fun i => waits ops k i) then k :: m else m)
def waitsC (ops : Array Oper) (j i : Nat) : Bool := (markC ops (List.range ops.size) [i]).contains j
theorem gR {ops : Array Oper} {i : Nat} : ∀ (ks m : List Nat), (∀ k ∈ m, k = i ∨ (k < ops.size ∧ ∃ l ∈ m, waits ops k l = true)) → (∀ k ∈ ks, k < ops.size) →
  ∀ k ∈ markC ops ks m, k = i ∨ (k < ops.size ∧ ∃ l ∈ markC ops ks m, waits ops k l = true)
 | [], m, h, _ => h
 | k0 :: ks, m, h, hk => by
  unfold markC
  cases hb : m.any (fun i => waits ops k0 i) with
  | false => exact gR ks m h (fun k hk' => hk k (List.mem_cons_of_mem _ hk'))
  | true =>
   refine gR ks (k0 :: m) (fun k hkm => ?_) (fun k hk' => hk k (List.mem_cons_of_mem _ hk'))
   rcases List.mem_cons.1 hkm with rfl | hkm
   ·obtain ⟨l, hl, hw⟩ := List.any_eq_true.1 hb
    exact .inr ⟨hk k (List.mem_cons_self ..), l, List.mem_cons_of_mem _ hl, hw⟩
   ·rcases h k hkm with e | ⟨h1, l, hl, hw⟩
    ·exact .inl e
    ·exact .inr ⟨h1, l, List.mem_cons_of_mem _ hl, hw⟩
theorem mE {ops : Array Oper} {listed : Array Bool} {i : Nat} (hd : Down ops listed) (ks m : List Nat) (h : ∀ k ∈ m, k = i ∨ (k < ops.size ∧ (listed.getD k false = true → listed.getD i false = true))) (hk : ∀ k ∈ ks, k < ops.size) :
  ∀ k ∈ markC ops ks m, k = i ∨ (k < ops.size ∧ (listed.getD k false = true → listed.getD i false = true)) := by
 induction ks generalizing m with
 | nil => exact h
 | cons k0 ks ih =>
  unfold markC
  cases hb : m.any (fun i => waits ops k0 i) with
  | false => exact ih m h (fun k hk' => hk k (List.mem_cons_of_mem _ hk'))
  | true =>
   refine ih (k0 :: m) (fun k hkm => ?_) (fun k hk' => hk k (List.mem_cons_of_mem _ hk'))
   rcases List.mem_cons.1 hkm with rfl | hkm
   ·obtain ⟨l, hl, hw⟩ := List.any_eq_true.1 hb
    have hks := hk k (List.mem_cons_self ..)
    refine .inr ⟨hks, fun hls => ?_⟩
    have hll := eO hd hks hls hw
    rcases h l hl with e | ⟨_, h2⟩
    ·rw [← e]; exact hll
    ·exact h2 hll
   ·exact h k hkm
theorem ig {ops : Array Oper} {listed : Array Bool} {i j : Nat} (hd : Down ops listed) (hi : i ∈ Region.ready .any ops listed) (hj : j ∈ Region.ready .any ops listed) (hji : ¬ j = i) : waitsC ops j i = false := by
 cases hw : waitsC ops j i with
 | false => rfl
 | true =>
  exfalso
  have hm : j ∈ markC ops (List.range ops.size) [i] := by unfold waitsC at hw; simpa using hw
  have h1 := gR (ops := ops) (i := i) (List.range ops.size) [i] (fun k hk => .inl (by simpa using hk)) (fun k hk => List.mem_range.1 hk)
  have h2 := mE hd (List.range ops.size) [i] (fun k hk => .inl (by simpa using hk)) (fun k hk => List.mem_range.1 hk)
  rcases h1 j hm with e | ⟨hjs, l, hl, hwl⟩
  ·exact hji e
  ·obtain ⟨_, oj, hoj, hall⟩ := mem_ready.1 hj
   have h0 := (mem_ready.1 hi).1
   simp only [waits, hoj, Array.any_eq_true', Bool.and_eq_true, beq_iff_eq] at hwl
   obtain ⟨e, he, hb, rfl⟩ := hwl
   have hll := hall e he hb
   have hli : listed.getD i false = true := by
    rcases h2 e.on hl with e' | ⟨_, h3⟩
    ·rw [← e']; exact hll
    ·exact h3 hll
   rcases Nat.lt_or_ge i listed.size with h' | h'
   ·simp [h'] at h0 hli; rw [h0] at hli; cases hli
   ·simp [Array.getElem?_eq_none h'] at hli
section
variable {P : Program} {n : Nat} {Q : Exit → Env → World → Prop} {ρ : Env} {w : World}
theorem oC {ops : Array Oper} {late : Nat → Bool} {Q : Exit → Act → World → Prop} {S : World → Prop} {i : Nat} {oi : Oper} {v : Value} (hi : ops[i]? = some oi)
  (hsel : Region.noSelect ops = true) (hQ : ∀ c a w, Q (.panic c) (a.put oi.dst v) w → Q (.panic c) a w) :
  ∀ (fuel : Nat) (listed : Array Bool) (a : Act) (w : World),
   (∀ j oj, ops[j]? = some oj → j ≠ i → listed.getD j true = false → (∀ e ∈ oj.after, Region.binds .any e = true → e.on ≠ i) → oi.apart ops oj = true) →
   (∀ j, late j = true → waitsC ops j i = true) → Down ops listed →
   i ∈ Region.ready .any ops listed → YieldsIf P ops S oi v a → S w →
   wpL P ops late Q S fuel (listed.setIfInBounds i true) (a.put oi.dst v) w → wpL P ops late Q S (fuel + 1) listed a w := by
 intro fuel
 induction fuel with
 | zero =>
  intro listed a w _ _ _ hr hy hS H
  refine ⟨fun h => (by rw [h] at hr; cases hr), fun j hj => ?_⟩
  by_cases hji : j = i
  ·subst hji; exact hy.wpOp hi hS ⟨fun _ h => h, H⟩
  ·have := ready_mono hj hji
   rw [H.1] at this
   cases this
 | succ fuel ih =>
  intro listed a w hfree hlate hdown hr hy hS H
  refine ⟨fun h => (by rw [h] at hr; cases hr), fun j hj => ?_⟩
  by_cases hji : j = i
  ·subst hji; exact hy.wpOp hi hS ⟨fun _ h => h, H⟩
  ·have hnl : late j = false := by
    cases h : late j with
    | false => rfl
    | true => have := hlate j h; rw [ig hdown hr hj hji] at this; cases this
   have h1 := H.2 j (ready_mono hj hji)
   obtain ⟨hjun, oj, hoj, hall⟩ := mem_ready.1 hj
   have hnot : ∀ e ∈ oj.after, Region.binds .any e = true → e.on ≠ i := fun e he hb heq => by
    have hw := cv hr hj
    simp only [waits, hoj] at hw
    rw [Array.any_eq_false'] at hw
    exact hw e he (by simp [hb, heq])
   have h2 := wpOp_putIf hoj (hfree j oj hoj hji hjun hnot) (fun cs b => Region.noSelect_spec hsel i oi cs b hi) (fun cs b => Region.noSelect_spec hsel j oj cs b hoj) hQ hy h1
   refine wpOp_mono (fun a' w' h3 => ⟨h3.2.1, ih (listed.setIfInBounds j true) a' w' (fun k ok hk hki hun hno => ?_) hlate (hdown.set hj) (ready_mono hr (Ne.symm hji)) h3.1 (h3.2.1 hnl hS) ?_⟩) h2
   ·refine hfree k ok hk hki ?_ hno
    by_cases hjk : j = k
    ·subst hjk; exact hjun
    ·rw [getD_set_ne true hjk] at hun; exact hun
   ·rw [Array.setIfInBounds_comm _ _ hji]
    exact h3.2.2
def planOKC (ops : Array Oper) (late : List Nat) : List (Nat × Option Bool) → Array Bool → Bool
 | [], listed => (Region.ready .any ops listed).isEmpty
 | (i, none) :: rest, listed => (Region.ready .any ops listed).contains i && (Region.free .any ops listed i && ((!rdAt ops i || late.all (fun j => waitsC ops j i)) && planOKC ops late rest (listed.setIfInBounds i true)))
 | (i, some k) :: rest, listed => (Region.ready .any ops listed == [i]) && ((bif k then !late.contains i else (late.contains i && !needP ops rest)) && planOKC ops late rest (listed.setIfInBounds i true))
theorem fh {ops : List Oper} {late : List Nat} {S : World → Prop} (hsel : Region.noSelect ops.toArray = true) (hd : ops.all (dstOK n) = true) :
  ∀ (plan : List (Nat × Option Bool)) (listed : Array Bool) (ρ : Env) (a : Act) (w : World), Rel n a ρ → Down ops.toArray listed → planOKC ops.toArray late plan listed = true → (needP ops.toArray plan = true → S w) →
   RR P S ops (Q .normal) (planOps ops plan) ρ w →
   wpL P ops.toArray (fun j => late.contains j) (lift n Q) S plan.length listed a w
 | [], listed, ρ, a, w, hr, _, hp, _, h => ⟨by simpa [planOKC] using hp, ρ, hr, by simpa only [planOps, RR] using h⟩
 | (i, none) :: rest, listed, ρ, a, w, hr, hdn, hp, hS, h => by
  simp only [planOKC, Bool.and_eq_true] at hp
  obtain ⟨h1, h2, h3, h4⟩ := hp
  have hri : i ∈ Region.ready .any ops.toArray listed := by simpa using h1
  obtain ⟨_, o, ho, _⟩ := mem_ready.1 hri
  have ho' : ops[i]? = some o := by simpa using ho
  have hdo : dstOK n o = true := List.all_eq_true.1 hd o (List.mem_of_getElem? ho')
  simp only [planOps, ho', RR] at h
  have hr3 : rdAt ops.toArray i = isRd o := by simp only [rdAt, ho]
  have en : needP ops.toArray ((i, none) :: rest) = (isRd o || needP ops.toArray rest) := by rw [← hr3]; rfl
  rw [en] at hS
  have hSr : needP ops.toArray rest = true → S w := fun hn => hS (by rw [hn]; simp)
  cases hrd : isRd o with
  | true =>
   have hS' : S w := hS (by rw [hrd]; rfl)
   have key : ∃ v, YieldsIf P ops.toArray S o v a ∧ RR P S ops (Q .normal) (planOps ops rest) (updO ρ o.dst v) w := by
    by_cases hw : wantedE ops ρ o = true
    ·rw [if_pos hw] at h
     obtain ⟨v, hv, h⟩ := h
     exact ⟨v, .inl ⟨by rw [hr.wanted]; exact hw, by rw [hr.ev]; exact fun w' hw' => hv w' (fun _ => hw')⟩, h⟩
    ·rw [if_neg hw] at h
     exact ⟨undef, .inr ⟨by rw [hr.wanted]; simpa using hw, rfl⟩, h⟩
   obtain ⟨v, hy, h⟩ := key
   rw [hr3, hrd] at h3
   simp only [Bool.not_true, Bool.false_or] at h3
   refine oC ho hsel (fun _ _ _ h => h) rest.length listed a w (Region.free_spec ho h2) (fun j hj => List.all_eq_true.1 h3 j (by simpa using hj)) hdn hri hy hS' ?_
   exact fh hsel hd rest _ _ _ w (hr.putO hdo v) (hdn.set hri) h4 hSr h
  | false =>
   have key : ∃ v, Yields P ops.toArray o v a ∧ RR P S ops (Q .normal) (planOps ops rest) (updO ρ o.dst v) w := by
    by_cases hw : wantedE ops ρ o = true
    ·rw [if_pos hw] at h
     obtain ⟨v, hv, h⟩ := h
     exact ⟨v, .inl ⟨by rw [hr.wanted]; exact hw, by rw [hr.ev]; exact fun w' => hv w' (fun hh => by rw [hrd] at hh; cases hh)⟩, h⟩
    ·rw [if_neg hw] at h
     exact ⟨undef, .inr ⟨by rw [hr.wanted]; simpa using hw, rfl⟩, h⟩
   obtain ⟨v, hy, h⟩ := key
   refine eV ho hsel (fun _ _ _ h => h) rest.length listed a w (Region.free_spec ho h2) hri hy ?_
   exact fh hsel hd rest _ _ _ w (hr.putO hdo v) (hdn.set hri) h4 hSr h
 | (i, some k) :: rest, listed, ρ, a, w, hr, hdn, hp, hS, h => by
  simp only [planOKC, Bool.and_eq_true, beq_iff_eq] at hp
  obtain ⟨h1, h2, h3⟩ := hp
  have hri : i ∈ Region.ready .any ops.toArray listed := by rw [h1]; simp
  obtain ⟨_, o, ho, _⟩ := mem_ready.1 hri
  have ho' : ops[i]? = some o := by simpa using ho
  have hdo : dstOK n o = true := List.all_eq_true.1 hd o (List.mem_of_getElem? ho')
  simp only [planOps, ho', RR] at h
  have en : needP ops.toArray ((i, some k) :: rest) = needP ops.toArray rest := rfl
  rw [en] at hS
  refine ⟨fun h0 => absurd (h1.symm.trans h0) (by simp), fun j hj => ?_⟩
  rw [h1] at hj
  simp only [List.mem_singleton] at hj
  subst hj
  unfold wpOp
  simp only [ho]
  rw [hr.wanted]
  have hkl : late.contains j = false → k = true := fun hl => by
   cases k with
   | true => rfl
   | false => simp only [cond_false, Bool.and_eq_true] at h2; rw [hl] at h2; cases h2.1
  have hkn : needP ops.toArray rest = true → k = true := fun hn => by
   cases k with
   | true => rfl
   | false => simp only [cond_false, Bool.and_eq_true] at h2; rw [hn] at h2; cases h2.2
  split
  ·rename_i hw
   rw [if_pos hw] at h
   exact .inl (OpW.wp hr h fun v w' hn => ⟨fun hl hS1 => hn.1 (hkl hl) hS1, fh hsel hd rest _ _ _ w' (hr.putO hdo v) (hdn.set hri) h3 (fun hh => hn.1 (hkn hh) (hS hh)) hn.2⟩)
  ·rename_i hw
   rw [if_neg hw] at h
   exact ⟨fun _ h => h, fh hsel hd rest _ _ _ w (hr.putO hdo undef) (hdn.set hri) h3 hS h⟩
theorem nH {id : Nat} {ops : List Oper} {late : List Nat} {plan : List (Nat × Option Bool)} (S : World → Prop) (hm : P.follows .mixedOrders = true)
  (hc : (Region.noSelect ops.toArray && (ops.all (dstOK n) && (plan.length == ops.length && planOKC ops.toArray late plan (Array.replicate ops.length false)))) = true)
  (hS : S w.drew) (h : RR P S ops (Q .normal) (planOps ops plan) ρ w.drew) : CW P n (.region id ops.toArray true) Q ρ w := by
 unfold CW
 intro a hr
 simp only [Bool.and_eq_true, beq_iff_eq] at hc
 obtain ⟨h1, h2, h3, h4⟩ := hc
 refine wp_region_any hm (dD (late := fun j => late.contains j) (S := S) _ _ _ _ ?_)
 have := fh h1 h2 plan (Array.replicate ops.length false) ρ a w.drew hr (Down.start _ _) h4 (fun _ => hS) h
 rw [h3] at this
 simpa using this
end
end Go.W
namespace Go.Proofs.YtiejljicpinheaaGreat
open Go.W Go.LM Go.LA
def Kept (w w' : World) (lo : Nat) : Prop := (∀ w0 : World, Ex w0 w → w0.heap.size ≤ lo → Ex w0 w') ∧ w.heap.size ≤ w'.heap.size
theorem Kept.refl (w : World) (lo : Nat) : Kept w w lo := ⟨fun _ e _ => e, Nat.le_refl _⟩
theorem Kept.ex {w w1 w2 : World} {lo : Nat} (h : Kept w w1 lo) (e : Ex w1 w2) : Kept w w2 lo := ⟨fun w0 e0 hl => (h.1 w0 e0 hl).trans e, Nat.le_trans h.2 e.size⟩
theorem Kept.trans {w w1 w2 : World} {lo : Nat} (h : Kept w w1 lo) (h' : Kept w1 w2 lo) : Kept w w2 lo := ⟨fun w0 e0 hl => h'.1 w0 (h.1 w0 e0 hl) hl, Nat.le_trans h.2 h'.2⟩
set_option maxHeartbeats 4000000 in
theorem kT {KM lo gp r c g g' row k s Q : Nat} {w : World} {gs cp gs' cp' : Nat → Nat} {H U A0 : Mat} (hP : PR KM w lo gp r c g g' gs cp gs' cp' H U) (hr : r ≤ 1000) (hc : c ≤ 1000) (hrow : row < r) (hk : k < c) (hC : CEq r c A0 H U)
  (hz : ∀ l, k ≤ l → l < c → Cz r c (Zb Q s (l + k)) H U l) (hQ : 10 ≤ Q) (hKM : Zb Q s (2 * c) ≤ KM) (hK : 2 * KM < 17592186044415) :
  CallsR Tryz.prog 56 #[.pointer (some ⟨gp, 0, none⟩), .int .i64 (row : Int), .int .i64 (k : Int)] w fun _ w' => ∃ H1 U1, PR KM w' lo gp r c g g' gs cp gs' cp' H1 U1 ∧ GaJ r c row k s Q A0 H U c H1 U1 ∧ 0 ≤ H1 row k ∧ Kept w w' lo := by
 refine aF (args := [_, _, _]) Tryz.func56 rfl rfl ?_
 repeat' (first|refine bc rfl rfl (by omega) (by omega) ?_|refine ai rfl ?_|refine aa ?_|refine aj ?_|refine ah rfl ?_|refine ae ?_|refine aA ?_)
 refine aY (ι := Nat × Mat × Mat) [6, 9, 10, 11, 12, 13, 14, 15, 16, 17, 18, 19, 20, 21, 22, 23, 24, 25, 26, 27, 28, 29, 30, 31, 32, 33, 34, 35, 36, 37, 38, 39, 40, 41, 42, 43, 44, 45, 46, 47, 48, 49, 50, 51, 52, 53, 54, 55, 56, 57, 58] (fun t => [(6, .int .i64 (t.1 : Int))])
  (fun t w' => (k < t.1 ∧ t.1 ≤ c) ∧ Kept w w' lo ∧ PR KM w' lo gp r c g g' gs cp gs' cp' t.2.1 t.2.2 ∧ GaJ r c row k s Q A0 H U t.1 t.2.1 t.2.2) (fun t => c - t.1)
  (k + 1, H, U) ⟨by show Value.int .i64 ((k : Int) + 1) = _; norm_cast, trivial⟩ ⟨⟨by simp only; omega, by simp only; omega⟩, Kept.refl _ _, hP, pR hC (hz k (Nat.le_refl _) hk) hQ⟩ ?_
 clear hP hC
 rintro ⟨j, H1, U1⟩ ξ w2 ⟨⟨hkj, hjc⟩, hF2, hP2, hG⟩
 simp only at hkj hjc hP2 hG
 show CW _ _ _ _ (over [(6, .int .i64 (j : Int))] _) w2
 rcases Nat.lt_or_ge j c with hj | hj
 ·have hzj := hz j (by omega) hj
  have kle : Zb Q s (j + 1 + k) ≤ KM := Nat.le_trans (eh hQ (by omega)) hKM
  repeat' (first|refine aW (g := gp) (cs := prL g r g' c) rfl hP2.blk rfl ?_|refine bu rfl rfl (by omega) ?_|refine ai rfl ?_|refine aa ?_|refine aj ?_|refine ah rfl ?_|refine ae ?_|refine aZ rfl ?_|refine aN rfl ?_|refine az rfl ?_|refine aE ?_)
  refine aA ?_
  refine aA ?_
  refine aY (ι := (Mat × Mat) × (Int × Int) × Int × Int) [18, 19, 20, 21, 22, 23, 24, 25, 26, 27, 28, 29, 30, 31, 32, 33, 34, 35, 36, 37, 38, 39, 40, 41, 42, 43, 44, 45, 46, 47, 48, 49, 50, 51, 52, 53, 54, 55, 56, 57, 58] (fun _ => [])
   (fun t w' => Kept w w' lo ∧ PR KM w' lo gp r c g g' gs cp gs' cp' t.1.1 t.1.2 ∧ GiJ r c row k j A0 H1 U1 t.1.1 t.1.2 t.2.1.1 t.2.1.2 t.2.2.1 t.2.2.2 ∧ (H1 row j = 0 → t.1.1 = H1 ∧ t.1.2 = U1)) (fun t => (t.1.1 row j).natAbs)
   ((H1, U1), (1, 0), 0, 1) trivial ⟨hF2, hP2, pS hG.ceq, fun _ => ⟨rfl, rfl⟩⟩ ?_
  clear hP2 hF2
  rintro ⟨⟨H2, U2⟩, ⟨al, be⟩, ga, de⟩ ξ2 w3 ⟨hF3, hP3, hI, hsame⟩
  simp only at hP3 hI hsame
  show CW _ _ _ _ (over [] _) w3
  obtain ⟨hh, hbr, hcr, hEr⟩ := hP3.h.get hrow
  repeat' (first|refine aW (g := gp) (cs := prL g r g' c) rfl hP3.blk rfl ?_|refine aD (j := row) (a := some ⟨g, 0, none⟩) rfl rfl ⟨_, _, rfl⟩ (by omega) ?_|refine aV (j := row) (a := some ⟨g, 0, none⟩) (n := r) (s := fun k => ⟨some ⟨gs k, 0, none⟩, c, cp k⟩) rfl hP3.h.top.sl (by omega) rfl ?_|refine aT (j := j) (a := some ⟨gs row, 0, none⟩) rfl rfl ⟨_, _, rfl⟩ (by omega) ?_|refine bo (j := j) (n := cp row) (a := some ⟨gs row, 0, none⟩) rfl hbr.sl ⟨_, _, rfl⟩ (by omega) ?_|refine ai rfl ?_|refine aj ?_|refine ah rfl ?_|refine aN rfl ?_)
  refine aw (cj (hEr j hj).k) rfl ?_
  rintro v w4 ⟨rfl, hE4⟩
  refine ⟨fun _ _ => trivial, ?_⟩
  have hP4 := hP3.ext hE4
  by_cases hy : H2 row j = 0
  ·repeat' (first|(refine cN rfl rfl (by rw [hy]; rfl) ?_)|refine ai rfl ?_|refine aa ?_|refine ah rfl ?_|refine ae ?_|refine bc rfl rfl (by omega) (by omega) ?_|refine au rfl ?_|refine aP ?_|refine aJ ?_|refine aQ ?_|refine aL ?_)
   have hx : H2 row k = 0 → ∀ i l, H2 i l = H1 i l ∧ U2 i l = U1 i l := fun hx i l => by
    obtain ⟨e1, e2⟩ := hsame (hI.eu.nz hy hx).2
    rw [e1, e2]; exact ⟨rfl, rfl⟩
   refine ⟨⟨(j + 1, H2, U2), ⟨⟨by simp only; omega, hj⟩, hF3.ex hE4, hP4, hI.fin hG hzj hrow hkj hj hy hQ hx⟩, by simp only; omega, ?_, trivial⟩, (by (repeat (first|exact aH _ _ _|refine ay rfl ?_|refine av rfl ?_|refine ak rfl ?_|refine ao rfl ?_)))⟩
   rfl
  ·have hsub := hI.sub hG hzj hrow hy hQ
   have hst := hI.step hkj hj hy
   repeat' (first|refine df rfl rfl (fun e => hy (Int.sign_eq_zero_iff_zero.1 e)) ?_|refine aa ?_|refine ae ?_|refine az rfl ?_|refine aE ?_)
   refine aA ?_
   repeat' (first|refine aj ?_)
   refine nH (late := [23, 24]) (plan := [(0, none), (1, none), (2, none), (3, none), (4, none), (5, none), (6, none), (7, none), (8, none), (9, none), (10, none), (11, none), (12, none), (13, none), (14, none), (15, none), (16, none), (17, none), (18, none), (19, none), (20, none), (21, none), (22, none), (23, some false), (24, some false)]) (fun w' => Ex w4 w') bA (by kernel_rfl) (Ex.refl w4).drew ?_
   have hEd := (Ex.refl w4).drew
   have hbr4 := hbr.ext hE4
   repeat' (first|refine aW (g := gp) (cs := prL g r g' c) rfl (fun _ h => hP4.blk.ext h) rfl ?_|refine aD (j := row) (a := some ⟨g, 0, none⟩) rfl rfl ⟨_, _, rfl⟩ (by omega) ?_|refine aV (j := row) (a := some ⟨g, 0, none⟩) (n := r) (s := fun k => ⟨some ⟨gs k, 0, none⟩, c, cp k⟩) rfl (fun _ h => (hP4.h.ext h).top.sl) (by omega) rfl ?_|refine aT (j := j) (a := some ⟨gs row, 0, none⟩) rfl rfl ⟨_, _, rfl⟩ (by omega) ?_|refine bo (j := j) (n := cp row) (a := some ⟨gs row, 0, none⟩) rfl (fun _ h => (hbr4.ext h).sl) ⟨_, _, rfl⟩ (by omega) ?_|refine aT (j := k) (a := some ⟨gs row, 0, none⟩) rfl rfl ⟨_, _, rfl⟩ (by omega) ?_|refine bo (j := k) (n := cp row) (a := some ⟨gs row, 0, none⟩) rfl (fun _ h => (hbr4.ext h).sl) ⟨_, _, rfl⟩ (by omega) ?_|refine ai rfl ?_|refine aN rfl ?_)
   refine aw (d7 (((hEr k hk).ext hE4).ext hEd).k (((hEr j hj).ext hE4).ext hEd).k (by omega) (by omega)) rfl ?_
   rintro v w5 ⟨hI5, hE5⟩
   refine ⟨fun _ h => h.trans hE5, ?_⟩
   have hE45 := hEd.trans hE5
   have hf : Ent true KM w5 v (H2 row k / H2 row j) := Ent.of hI5 ((hEr k hk).lb.div _)
   skip
   refine aw (fg (p := k) (q := j) (hP4.ext hE45) hr hc (by omega) hk hj (by omega) hf (by omega) (fun i hi => (hsub.1 i hi).mono kle) (fun i hi => (hsub.2 i hi).mono kle)) rfl ?_
   rintro v w6 ⟨hP6, hF6⟩
   refine ⟨fun h => (nomatch h), ?_⟩
   repeat' (first|refine ai rfl ?_|refine aa ?_|refine ah rfl ?_|refine ae ?_)
   refine aw (kS (p := k) (q := j) hP6 hr hc (by omega) hk hj) rfl ?_
   rintro v w7 ⟨hP7, hF7⟩
   refine ⟨fun _ _ => trivial, ?_⟩
   repeat' (first|refine aa ?_|refine ae ?_|refine aL ?_)
   refine ⟨⟨((_, _), (_, _), _, _), ⟨((hF3.ex hE4).ex hE45).trans (Kept.trans hF6 hF7), hP7, hst, fun e => ?_⟩, ?_, trivial⟩, (by (repeat (first|exact aH _ _ _|refine ay rfl ?_|refine av rfl ?_|refine ak rfl ?_|refine ao rfl ?_)))⟩
   ·obtain ⟨e1, _⟩ := hsame e
    rw [e1] at hy; exact absurd e hy
   ·have e2 : (H2 row k + -(H2 row k / H2 row j) * H2 row j).natAbs < (H2 row j).natAbs := by
     have e4 : H2 row k % H2 row j = H2 row k + -(H2 row k / H2 row j) * H2 row j := by rw [Int.emod_def]; grind
     rw [← e4]
     clear e4
     have := Int.emod_nonneg (H2 row k) hy
     have := Int.emod_lt (H2 row k) hy
     omega
    show (cswp (cadd H2 k j (-(H2 row k / H2 row j))) k j row j).natAbs < (H2 row j).natAbs
    have e3 : cswp (cadd H2 k j (-(H2 row k / H2 row j))) k j row j = H2 row k + -(H2 row k / H2 row j) * H2 row j := by
     unfold cswp cadd
     rw [if_neg (show ¬ j = k by omega), if_pos rfl, if_pos rfl]
    rw [e3]; exact e2
 ·have ejc : c = j := by omega
  subst ejc
  obtain ⟨hh, hbr, hcr, hEr⟩ := hP2.h.get hrow
  repeat' (first|refine aW (g := gp) (cs := prL g r g' c) rfl hP2.blk rfl ?_|refine bj rfl rfl (by omega) ?_|refine aD (j := row) (a := some ⟨g, 0, none⟩) rfl rfl ⟨_, _, rfl⟩ (by omega) ?_|refine aV (j := row) (a := some ⟨g, 0, none⟩) (n := r) (s := fun k => ⟨some ⟨gs k, 0, none⟩, c, cp k⟩) rfl hP2.h.top.sl (by omega) rfl ?_|refine aT (j := k) (a := some ⟨gs row, 0, none⟩) rfl rfl ⟨_, _, rfl⟩ (by omega) ?_|refine bo (j := k) (n := cp row) (a := some ⟨gs row, 0, none⟩) rfl hbr.sl ⟨_, _, rfl⟩ (by omega) ?_|refine ai rfl ?_|refine aa ?_|refine aj ?_|refine ah rfl ?_|refine ae ?_|refine aZ rfl ?_|refine aN rfl ?_|refine au rfl ?_|refine aP ?_|refine aJ ?_|refine aQ ?_)
  refine aw (cj (hEr k hk).k) rfl ?_
  rintro v w4 ⟨rfl, hE4⟩
  refine ⟨fun _ _ => trivial, ?_⟩
  have hP4 := hP2.ext hE4
  by_cases hn : H1 row k < 0
  ·repeat' (first|refine bu rfl rfl (cL.2 hn) ?_|refine ai rfl ?_|refine aa ?_|refine ah rfl ?_|refine ae ?_|refine az rfl ?_)
   refine aw (jt (p := k) hP4 hr hc (by omega) hk) rfl ?_
   rintro v w5 ⟨hP5, hF5⟩
   refine ⟨fun _ _ => trivial, ?_⟩
   repeat' (first|refine ae ?_)
   refine jG rfl ⟨_, _, hP5, ?_, ?_, (hF2.ex hE4).trans hF5⟩
   ·exact hG.neg hk hkj hn
   ·show 0 ≤ cneg H1 k row k
    unfold cneg; rw [if_pos rfl]; omega
  ·have hns : ¬ (H1 row k).sign < 0 := fun h => hn (cL.1 h)
   repeat' (first|refine bj rfl rfl (by omega) ?_|refine aa ?_|refine ae ?_|refine au rfl ?_|refine aE ?_)
   exact jG rfl ⟨H1, U1, hP4, hG, by omega, hF2.ex hE4⟩
end Go.Proofs.YtiejljicpinheaaGreat
namespace Go.LA
theorem HF.full {rows cols : Nat} {H : Mat} {p : Nat → Nat} : ∀ {r : Nat}, r ≤ rows → HF r cols H cols p → HF rows cols H cols p := by
 induction rows with
 | zero => intro r hr h; obtain rfl : r = 0 := by omega
           exact h
 | succ n ih =>
  intro r hr h
  by_cases e : r = n + 1
  ·subst e; exact h
  ·exact (ih (by omega) h).more fun c h1 h2 => by omega
structure FoJ (r c s Q : Nat) (A : Mat) (row k : Nat) (p : Nat → Nat) (H U : Mat) : Prop where
 ceq : CEq r c A H U
 hf : HF row c H k p
 act : ∀ l, k ≤ l → l < c → Cz r c (Zb Q s (l + k)) H U l
 dn : ∀ l, l < k → Cz r c (Zb Q s (c + k)) H U l
theorem Cz.congr {r c e : Nat} {H U H' U' : Mat} {l : Nat} (h : Cz r c e H U l) (hH : ∀ i, H' i l = H i l) (hU : ∀ i, U' i l = U i l) : Cz r c e H' U' l :=
 ⟨fun i hi => by rw [hH]; exact h.1 i hi, fun i hi => by rw [hU]; exact h.2 i hi⟩
theorem FoJ.skip {r c s Q row k : Nat} {A H U H1 U1 : Mat} {p : Nat → Nat} (h : FoJ r c s Q A row k p H U) (hG : GaJ r c row k s Q A H U c H1 U1) (hx : H1 row k = 0) : FoJ r c s Q A (row + 1) k p H1 U1 := by
 have hs := hG.same hx
 refine ⟨hG.ceq, (h.hf.congr (H' := H1) fun x l _ _ => (hs x l).1).more fun l h1 h2 => ?_, fun l h1 h2 => (h.act l h1 h2).congr (fun i => (hs i l).1) (fun i => (hs i l).2), fun l h1 => (h.dn l h1).congr (fun i => (hs i l).1) (fun i => (hs i l).2)⟩
 by_cases e : l = k
 ·subst e; exact hx
 ·exact hG.z l (by omega) h2
structure RdJ (r c s Q : Nat) (A : Mat) (row k : Nat) (H1 U1 : Mat) (j : Nat) (H2 U2 : Mat) : Prop where
 ceq : CEq r c A H2 U2
 high : ∀ i l, j ≤ l → H2 i l = H1 i l ∧ U2 i l = U1 i l
 up : ∀ x l, x < row → H2 x l = H1 x l
 red : ∀ l, l < j → 0 ≤ H2 row l ∧ H2 row l < H1 row k
 sz : ∀ l, l < j → Cz r c (Zb Q s (c + k + 1)) H2 U2 l
theorem pT {r c s Q row k : Nat} {A H1 U1 : Mat} (hC : CEq r c A H1 U1) : RdJ r c s Q A row k H1 U1 0 H1 U1 :=
 ⟨hC, fun _ _ _ => ⟨rfl, rfl⟩, fun _ _ _ => rfl, fun l h => by omega, fun l h => by omega⟩
theorem RdJ.sub {r c s Q row k j : Nat} {A H1 U1 H2 U2 : Mat} (h : RdJ r c s Q A row k H1 U1 j H2 U2) (hQ : 10 ≤ Q) (hj : j < k) (hrow : row < r) (hd : Cz r c (Zb Q s (c + k)) H1 U1 j) (hk : Cz r c (Zb Q s (c + k)) H1 U1 k) :
  (∀ i, i < r → Lb (Zb Q s (c + k + 1)) (H2 i j - H2 row j / H2 row k * H2 i k)) ∧ ∀ i, i < c → Lb (Zb Q s (c + k + 1)) (U2 i j - H2 row j / H2 row k * U2 i k) := by
 have e0 := (j0 (s := s) (n := c + k) hQ).1
 have hf : Lb (Zb Q s (c + k)) (H2 row j / H2 row k) := by rw [(h.high row j (Nat.le_refl _)).1]; exact (hd.1 row hrow).div _
 have key : ∀ {u v : Int}, Lb (Zb Q s (c + k)) u → Lb (Zb Q s (c + k)) v → Lb (Zb Q s (c + k + 1)) (u - H2 row j / H2 row k * v) := fun hu hv =>
  ((hu.mono (show Zb Q s (c + k) ≤ 2 * Zb Q s (c + k) by omega)).sub ((hf.mul hv).mono (by omega))).mono (by omega)
 exact ⟨fun i hi => key (by rw [(h.high i j (Nat.le_refl _)).1]; exact hd.1 i hi) (by rw [(h.high i k (by omega)).1]; exact hk.1 i hi),
  fun i hi => key (by rw [(h.high i j (Nat.le_refl _)).2]; exact hd.2 i hi) (by rw [(h.high i k (by omega)).2]; exact hk.2 i hi)⟩
theorem RdJ.step {r c s Q row k j : Nat} {A H1 U1 H2 U2 : Mat} (h : RdJ r c s Q A row k H1 U1 j H2 U2) (hQ : 10 ≤ Q) (hj : j < k) (hk : k < c) (hrow : row < r) (hd : Cz r c (Zb Q s (c + k)) H1 U1 j) (hkz : Cz r c (Zb Q s (c + k)) H1 U1 k) (hp : 0 < H1 row k) (hz : ∀ x, x < row → H1 x k = 0) :
  RdJ r c s Q A row k H1 U1 (j + 1) (cadd H2 j k (-(H2 row j / H2 row k))) (cadd U2 j k (-(H2 row j / H2 row k))) := by
 have hs := h.sub hQ hj hrow hd hkz
 have e0 : ∀ (M : Mat) (f : Int) (i l : Nat), l ≠ j → cadd M j k f i l = M i l := fun M f i l hl => if_neg hl
 have e1 : ∀ (M : Mat) (f : Int) (i : Nat), cadd M j k f i j = M i j + f * M i k := fun M f i => if_pos rfl
 have hpk := (h.high row k (by omega)).1
 refine ⟨h.ceq.add _ (by omega) (by omega) hk, fun i l hl => ?_, fun x l hx => ?_, fun l hl => ?_, fun l hl => ?_⟩
 ·rw [e0 _ _ _ _ (by omega), e0 _ _ _ _ (by omega)]; exact h.high i l (by omega)
 ·by_cases e : l = j
  ·subst e; rw [e1, h.up x k hx, hz x hx, Int.mul_zero, Int.add_zero]; exact h.up x l hx
  ·rw [e0 _ _ _ _ e]; exact h.up x l hx
 ·by_cases e : l = j
  ·subst e
   have e4 : H2 row l + -(H2 row l / H2 row k) * H2 row k = H2 row l % H2 row k := by rw [Int.emod_def]; grind
   rw [e1, e4, ← hpk]
   exact ⟨Int.emod_nonneg _ (by omega), Int.emod_lt_of_pos _ (by omega)⟩
  ·rw [e0 _ _ _ _ e]; exact h.red l (by omega)
 ·by_cases e : l = j
  ·subst e
   exact ⟨fun i hi => by rw [e1, Int.neg_mul, ← Int.sub_eq_add_neg]; exact hs.1 i hi, fun i hi => by rw [e1, Int.neg_mul, ← Int.sub_eq_add_neg]; exact hs.2 i hi⟩
  ·exact (h.sz l (by omega)).congr (fun i => e0 _ _ _ _ e) (fun i => e0 _ _ _ _ e)
theorem FoJ.pivot {r c s Q row k : Nat} {A H U H1 U1 H2 U2 : Mat} {p : Nat → Nat} (h : FoJ r c s Q A row k p H U) (hQ : 10 ≤ Q) (hG : GaJ r c row k s Q A H U c H1 U1) (hx : 0 < H1 row k) (hk : k < c) (hR : RdJ r c s Q A row k H1 U1 k H2 U2) : FoJ r c s Q A (row + 1) (k + 1) (fun l => if l = k then row else p l) H2 U2 := by
 have hz : ∀ x, x < row → ∀ l, k ≤ l → l < c → H1 x l = 0 := fun x hx' l h1 h2 => hG.zr x (fun l' h1' h2' => h.hf.rest l' h1' h2' x hx') l h1 h2
 refine ⟨hR.ceq, (h.hf.congr (H' := H2) fun x l hx' hl => ?_).pivot hk (by rw [(hR.high row k (Nat.le_refl _)).1]; exact hx) (fun l h1 h2 => by rw [(hR.high row l (by omega)).1]; exact hG.z l h1 h2) (fun l hl => by rw [(hR.high row k (Nat.le_refl _)).1]; exact hR.red l hl), fun l h1 h2 => ?_, fun l hl => ?_⟩
 ·rw [hR.up x l hx']
  by_cases e : l < k
  ·exact (hG.low x l e).1
  ·rw [hz x hx' l (by omega) hl, h.hf.rest l (by omega) hl x hx']
 ·have := (hG.sz l (by omega) h2).congr (H' := H2) (U' := U2) (fun i => (hR.high i l (by omega)).1) (fun i => (hR.high i l (by omega)).2)
  rwa [show l + 1 + k = l + (k + 1) by omega] at this
 ·by_cases e : l = k
  ·subst e
   exact (hG.szk.congr (H' := H2) (U' := U2) (fun i => (hR.high i l (Nat.le_refl _)).1) (fun i => (hR.high i l (Nat.le_refl _)).2)).mono (eh hQ (by omega))
  ·exact hR.sz l (by omega)
end Go.LA
namespace Go.Proofs.YtiejljicpinheaaGreat
open Go.W Go.LM Go.LA
def RetRForm (KM r c s Q : Nat) (A : Mat) (w : World) (v : Value) (w' : World) : Prop :=
 ∃ g g' gs cp gs' cp' H U k p, v = .tuple #[.slice (some ⟨g, 0, none⟩) r r, .slice (some ⟨g', 0, none⟩) c c, .bool true] ∧ FormR KM r c w.heap.size A w' g g' gs cp gs' cp' H U k p ∧ (∀ i j, i < r → j < c → gs i ≠ g') ∧ (∀ l, k ≤ l → l < c → ∀ i, i < c → Lb (Zb Q s (l + k)) (U i l)) ∧ (∀ l, l < k → ∀ i, i < r → Lb (Zb Q s (c + k)) (H i l)) ∧ Ex w w'
set_option maxHeartbeats 4000000 in
theorem gi {cn : Bool} {K KM r c cap s Q : Nat} {w : World} {a : Option Addr} {sh : Nat → SD} {A : Mat} (hM : MX cn K w a r c sh A) (hr : 1 ≤ r ∧ r ≤ 16) (hc : 1 ≤ c ∧ c ≤ 16) (hA : ∀ l, l < c → ∀ i, i < r → Lb (Zb Q s l) (A i l)) (hQ : 10 ≤ Q) (hKM : Zb Q s (2 * c + 1) ≤ KM) (hK : 2 * KM < 17592186044415) :
  CallsR Tryz.prog 15 #[.slice a r cap] w (RetRForm KM r c s Q A w) := by
 refine aF (args := [_]) Tryz.func15 rfl rfl ?_
 have hZ0 : 1 ≤ Zb Q s 0 := by
  unfold Zb
  have h2 : Q * 1 ≤ Q * 2 ^ (0 + s) := Nat.mul_le_mul_left _ (Nat.pow_pos (by decide))
  omega
 have hZ : ∀ n, n ≤ 2 * c + 1 → Zb Q s n ≤ KM := fun n hn => Nat.le_trans (eh hQ hn) hKM
 have hZ1 : ∀ n, 1 ≤ Zb Q s n := fun n => Nat.le_trans hZ0 (eh hQ (Nat.zero_le _))
 repeat' (first|refine ai rfl ?_|refine aa ?_|refine aj ?_|refine ah rfl ?_|refine ae ?_)
 refine aw (cc hM.top) rfl ?_
 rintro v w1 ⟨rfl, hE1⟩
 refine ⟨fun _ _ => trivial, ?_⟩
 rw [cz hM hr hc]
 repeat' (first|refine aK rfl rfl ?_|refine ai rfl ?_|refine aa ?_|refine aj ?_|refine ah rfl ?_|refine ae ?_|refine au rfl ?_|refine aE ?_)
 refine aw (iZ (n := c) hc) rfl ?_
 rintro v w2 ⟨_, rfl, g', gs', cp', rfl, hO2, hE2⟩
 refine ⟨fun _ _ => trivial, ?_⟩
 have hE02 := hE1.trans hE2
 repeat' (first|refine aK rfl rfl ?_|refine ai rfl ?_|refine aa ?_|refine aj ?_|refine ah rfl ?_|refine ae ?_)
 refine aw (ii (hM.ext hE02) ⟨hr.1, by omega⟩ ⟨hc.1, by omega⟩) rfl ?_
 rintro v w3 ⟨g, gs, cp, rfl, hO3, hE3⟩
 refine ⟨fun _ _ => trivial, ?_⟩
 have hE03 := hE02.trans hE3
 repeat' (first|refine cf (cs := prL g r g' c) rfl ?_|refine ai rfl ?_)
 refine bH (vs := prL g r g' c) rfl (fun gp w4 hn4 => ⟨fun _ _ => trivial, ?_⟩)
 have hb4 := hn4.blk
 have hE04 := hE03.trans hn4.ex
 have s1 := hE1.size
 have s2 := hE02.size
 have s3 := hE3.size
 have l4 := hn4.lo
 have lg := hO3.low
 have lgg := hO3.lt
 have lg' := hO2.lt
 have hP4 : PR KM w4 w.heap.size gp r c g g' gs cp gs' cp' A idM :=
  ⟨hb4, ((hO3.mono (by omega)).ext hn4.ex).sharp fun i j hi hj => (hA j hj i hi).mono (hZ j (by omega)), (((hO2.mono s1).ext hE3).ext hn4.ex).sharp fun i j _ _ => b6 (by unfold idM; split <;> decide) (Nat.le_trans hZ0 (hZ 0 (by omega))),
   fun i hi => by have := (hO3.row i hi).lt; omega, fun i hi => by have := (hO2.row i hi).lt; omega, fun i hi => by have := (hO3.row i hi).low; omega, fun i hi => by have := (hO2.row i hi).lt; omega, fun i j hi hj => by have := (hO3.row i hi).low; have := (hO2.row j hj).lt; omega⟩
 have hF4 : FoJ r c s Q A 0 0 (fun _ => 0) A idM :=
  ⟨qF r c A, ⟨Nat.zero_le _, fun i h => by omega, fun i j _ h => by omega, fun i h => by omega, fun i h => by omega, fun i h => by omega, fun l _ _ x hx => by omega⟩,
   fun l _ hl => ⟨fun i hi => hA l hl i hi, fun i hi => b6 (by unfold idM; split <;> decide) (hZ1 _)⟩, fun l hl => by omega⟩
 clear hO2 hO3
 repeat' (first|refine ai rfl ?_|refine aa ?_|refine aj ?_|refine ah rfl ?_|refine ae ?_|refine aA ?_)
 refine aY (ι := (Nat × Nat) × (Mat × Mat) × (Nat → Nat)) [11, 12, 13, 32, 33, 34, 35, 36, 37, 38, 39, 40, 41, 42, 43, 44, 45, 46, 47, 48, 49, 50, 51, 52, 53, 54, 55, 56, 57, 58, 59, 60, 61, 62, 63, 64, 65, 66, 67, 68, 69, 70, 71, 72, 73, 74, 75, 76, 77, 78, 79, 80, 81, 82, 83, 84, 85, 86, 87, 88, 89, 90] (fun t => [(12, .int .i64 (t.1.1 : Int)), (11, .int .i64 (t.1.2 : Int))])
  (fun t w' => (t.1.1 ≤ r ∧ t.1.2 ≤ c) ∧ Ex w w' ∧ w4.heap.size ≤ w'.heap.size ∧ PR KM w' w.heap.size gp r c g g' gs cp gs' cp' t.2.1.1 t.2.1.2 ∧ FoJ r c s Q A t.1.1 t.1.2 t.2.2 t.2.1.1 t.2.1.2) (fun t => r - t.1.1)
  ((0, 0), (A, idM), fun _ => 0) ⟨rfl, rfl, trivial⟩ ⟨⟨by simp only; omega, by simp only; omega⟩, hE04, Nat.le_refl _, hP4, hF4⟩ ?_
 clear hP4 hF4 hb4
 rintro ⟨⟨row, k⟩, ⟨H, U⟩, p⟩ ξ w5 ⟨⟨hrow, hk⟩, hE5, hs5, hP5, hF5⟩
 simp only at hrow hk hP5 hF5
 show CW _ _ _ _ (over [(12, .int .i64 (row : Int)), (11, .int .i64 (k : Int))] _) w5
 by_cases hgo : row < r ∧ k < c
 ·obtain ⟨hrow', hk'⟩ := hgo
  repeat' (first|refine bu rfl rfl (by omega) ?_|refine ai rfl ?_|refine aa ?_|refine aj ?_|refine ah rfl ?_|refine ae ?_|refine aZ rfl ?_|refine bz rfl rfl ?_|refine az rfl ?_|refine aA ?_|refine aE ?_)
  refine aw (kT (row := row) (k := k) (s := s) (Q := Q) hP5 (by omega) (by omega) hrow' hk' hF5.ceq (fun l h1 h2 => hF5.act l h1 h2) hQ (hZ _ (by omega)) hK) rfl ?_
  rintro v w6 ⟨H1, U1, hP6, hG, hx0, hF6⟩
  refine ⟨fun _ _ => trivial, ?_⟩
  have hE6 := hF6.1 w hE5 (Nat.le_refl _)
  have hs6 := hF6.2
  obtain ⟨hh, hbr, hcr, hEr⟩ := hP6.h.get hrow'
  repeat' (first|refine aW (g := gp) (cs := prL g r g' c) rfl hP6.blk rfl ?_|refine aD (j := row) (a := some ⟨g, 0, none⟩) rfl rfl ⟨_, _, rfl⟩ (by omega) ?_|refine aV (j := row) (a := some ⟨g, 0, none⟩) (n := r) (s := fun k => ⟨some ⟨gs k, 0, none⟩, c, cp k⟩) rfl hP6.h.top.sl (by omega) rfl ?_|refine aT (j := k) (a := some ⟨gs row, 0, none⟩) rfl rfl ⟨_, _, rfl⟩ (by omega) ?_|refine bo (j := k) (n := cp row) (a := some ⟨gs row, 0, none⟩) rfl hbr.sl ⟨_, _, rfl⟩ (by omega) ?_|refine ai rfl ?_|refine aa ?_|refine aj ?_|refine ah rfl ?_|refine ae ?_|refine aN rfl ?_)
  refine aw (cj (hEr k hk').k) rfl ?_
  rintro v w7 ⟨rfl, hE7⟩
  refine ⟨fun _ _ => trivial, ?_⟩
  have hP7 := hP6.ext hE7
  have hE07 := hE6.trans hE7
  by_cases hx : H1 row k = 0
  ·repeat' (first|(refine eF rfl rfl (by rw [hx]; rfl) ?_)|refine ai rfl ?_|refine aa ?_|refine ah rfl ?_|refine ae ?_|refine bc rfl rfl (by omega) (by omega) ?_|refine az rfl ?_|refine aP ?_|refine aJ ?_|refine aQ ?_)
   exact ⟨⟨((row + 1, k), (H1, U1), p), ⟨⟨hrow', hk⟩, hE07, by have := hE7.size; omega, hP7, hF5.skip hG hx⟩, by simp only; omega, rfl, rfl, trivial⟩, (by (repeat (first|exact aH _ _ _|refine ay rfl ?_|refine av rfl ?_|refine ak rfl ?_|refine ao rfl ?_)))⟩
  ·have hxp : 0 < H1 row k := by omega
   repeat' (first|refine dU rfl rfl (fun e => hx (Int.sign_eq_zero_iff_zero.1 e)) ?_|refine ai rfl ?_|refine aa ?_|refine aj ?_|refine ah rfl ?_|refine ae ?_|refine au rfl ?_|refine aA ?_|refine aE ?_)
   have hzr : ∀ x, x < row → H1 x k = 0 := fun x hx' => hG.zr x (fun l h1 h2 => hF5.hf.rest l h1 h2 x hx') k (Nat.le_refl _) hk'
   have hdn : ∀ l, l < k → Cz r c (Zb Q s (c + k)) H1 U1 l := fun l hl => (hF5.dn l hl).congr (fun i => (hG.low i l hl).1) (fun i => (hG.low i l hl).2)
   refine aY (ι := Nat × Mat × Mat) [13, 59, 60, 61, 62, 63, 64, 65, 66, 67, 68, 69, 70, 71, 72, 73, 74, 75, 76, 77, 78, 79, 80, 81, 82, 83, 84, 85, 86, 87, 88] (fun t => [(13, .int .i64 (t.1 : Int))])
    (fun t w' => t.1 ≤ k ∧ Ex w w' ∧ w4.heap.size ≤ w'.heap.size ∧ PR KM w' w.heap.size gp r c g g' gs cp gs' cp' t.2.1 t.2.2 ∧ RdJ r c s Q A row k H1 U1 t.1 t.2.1 t.2.2) (fun t => k - t.1)
    (0, H1, U1) ⟨rfl, trivial⟩ ⟨by simp only; omega, hE07, by have := hE7.size; omega, hP7, pT hG.ceq⟩ ?_
   clear hP7 hP6 hP5 hbr hEr
   rintro ⟨j, H2, U2⟩ ξ2 w8 ⟨hj, hE8, hs8, hP8, hR⟩
   simp only at hj hP8 hR
   show CW _ _ _ _ (over [(13, .int .i64 (j : Int))] _) w8
   rcases Nat.lt_or_ge j k with hjk | hjk
   ·obtain ⟨hh, hbr, hcr, hEr⟩ := hP8.h.get hrow'
    have hsub := hR.sub hQ hjk hrow' (hdn j hjk) hG.szk
    repeat' (first|refine bu rfl rfl (by omega) ?_|refine ai rfl ?_|refine aa ?_|refine aj ?_|refine ah rfl ?_|refine ae ?_|refine az rfl ?_|refine aE ?_)
    refine aA ?_
    skip
    refine nH (late := [23, 24]) (plan := [(0, none), (1, none), (2, none), (3, none), (4, none), (5, none), (6, none), (7, none), (8, none), (9, none), (10, none), (11, none), (12, none), (13, none), (14, none), (15, none), (16, none), (17, none), (18, none), (19, none), (20, none), (21, none), (22, none), (23, some false), (24, some false)]) (fun w' => Ex w8 w') bA (by kernel_rfl) (Ex.refl w8).drew ?_
    have hEd := (Ex.refl w8).drew
    repeat' (first|refine aW (g := gp) (cs := prL g r g' c) rfl (fun _ h => hP8.blk.ext h) rfl ?_|refine aD (j := row) (a := some ⟨g, 0, none⟩) rfl rfl ⟨_, _, rfl⟩ (by omega) ?_|refine aV (j := row) (a := some ⟨g, 0, none⟩) (n := r) (s := fun k => ⟨some ⟨gs k, 0, none⟩, c, cp k⟩) rfl (fun _ h => (hP8.h.ext h).top.sl) (by omega) rfl ?_|refine aT (j := j) (a := some ⟨gs row, 0, none⟩) rfl rfl ⟨_, _, rfl⟩ (by omega) ?_|refine bo (j := j) (n := cp row) (a := some ⟨gs row, 0, none⟩) rfl (fun _ h => (hbr.ext h).sl) ⟨_, _, rfl⟩ (by omega) ?_|refine aT (j := k) (a := some ⟨gs row, 0, none⟩) rfl rfl ⟨_, _, rfl⟩ (by omega) ?_|refine bo (j := k) (n := cp row) (a := some ⟨gs row, 0, none⟩) rfl (fun _ h => (hbr.ext h).sl) ⟨_, _, rfl⟩ (by omega) ?_|refine ai rfl ?_|refine aN rfl ?_)
    refine aw (d7 ((hEr j (by omega)).ext hEd).k ((hEr k hk').ext hEd).k (by omega) (by omega)) rfl ?_
    rintro v w9 ⟨hI9, hE9⟩
    refine ⟨fun _ h => h.trans hE9, ?_⟩
    have hE89 := hEd.trans hE9
    have hf : Ent true KM w9 v (H2 row j / H2 row k) := Ent.of hI9 ((hEr j (by omega)).lb.div _)
    skip
    refine aw (fg (p := j) (q := k) (hP8.ext hE89) (by omega) (by omega) (by omega) (by omega) hk' (by omega) hf (by omega) (fun i hi => (hsub.1 i hi).mono (hZ _ (by omega))) (fun i hi => (hsub.2 i hi).mono (hZ _ (by omega)))) rfl ?_
    rintro v w10 ⟨hP10, hF10⟩
    refine ⟨fun h => (nomatch h), ?_⟩
    repeat' (first|refine ai rfl ?_|refine aa ?_|refine ah rfl ?_|refine ae ?_|refine bc rfl rfl (by omega) (by omega) ?_|refine aL ?_)
    exact ⟨⟨(j + 1, _, _), ⟨hjk, hF10.1 w (hE8.trans hE89) (Nat.le_refl _), by have := hF10.2; have := hE89.size; omega, hP10, hR.step hQ hjk hk' hrow' (hdn j hjk) hG.szk hxp hzr⟩, by simp only; omega, rfl, trivial⟩, (by (repeat (first|exact aH _ _ _|refine ay rfl ?_|refine av rfl ?_|refine ak rfl ?_|refine ao rfl ?_)))⟩
   ·have ejk : k = j := by omega
    subst ejk
    repeat' (first|refine bj rfl rfl (by omega) ?_|refine ai rfl ?_|refine aa ?_|refine aj ?_|refine ah rfl ?_|refine ae ?_|refine bc rfl rfl (by omega) (by omega) ?_|refine au rfl ?_|refine aP ?_|refine aJ ?_|refine aQ ?_|refine aL ?_)
    refine ⟨⟨((row + 1, k + 1), (H2, U2), fun l => if l = k then row else p l), ⟨⟨hrow', hk'⟩, hE8, hs8, hP8, hF5.pivot hQ hG hxp hk' hR⟩, by simp only; omega, ?_, ?_, trivial⟩, (by (repeat (first|exact aH _ _ _|refine ay rfl ?_|refine av rfl ?_|refine ak rfl ?_|refine ao rfl ?_)))⟩
    ·rfl
    ·rfl
 ·have hHF : HF r c H k p := by
   by_cases e : row = r
   ·subst e; exact hF5.hf
   ·obtain rfl : k = c := by omega
    exact hF5.hf.full hrow
  by_cases e : row < r
  ·have ek : c ≤ k := by omega
   repeat' (first|refine bu rfl rfl (by omega) ?_|refine bj rfl rfl (by omega) ?_|refine ai rfl ?_|refine aa ?_|refine aj ?_|refine ah rfl ?_|refine ae ?_|refine aZ rfl ?_|refine bz rfl rfl ?_|refine au rfl ?_|refine aP ?_|refine aJ ?_|refine aQ ?_)
   refine bi (late := []) (plan := [(0, none), (1, none), (2, none), (3, none), (4, none), (5, none), (6, none), (7, none), (8, none), (9, none), (10, none)]) (fun w' => Ex w5 w') bA (by kernel_rfl) (Ex.refl w5).drew ?_
   have hEd := (Ex.refl w5).drew
   repeat' (first|refine aW (g := gp) (cs := prL g r g' c) rfl (fun _ h => hP5.blk.ext h) rfl ?_|refine ai rfl ?_|refine aa ?_|refine ae ?_|refine aN rfl ?_|refine aI ?_)
   exact eo rfl (rt rfl) (rt rfl) (rt rfl) ⟨g, g', gs, cp, gs', cp', H, U, k, p, rfl, ⟨hP5.h.ext hEd, hP5.u.ext hEd, hF5.ceq, hHF⟩, fun i j hi _ => hP5.hu i hi, fun l h1 h2 i hi => (hF5.act l h1 h2).2 i hi, fun l h1 i hi => (hF5.dn l h1).1 i hi, hE5.trans hEd⟩
  ·repeat' (first|refine bj rfl rfl (by omega) ?_|refine ai rfl ?_|refine aa ?_|refine aj ?_|refine ah rfl ?_|refine ae ?_|refine aZ rfl ?_|refine bK rfl rfl ?_|refine au rfl ?_|refine aP ?_|refine aJ ?_|refine aQ ?_)
   refine bi (late := []) (plan := [(0, none), (1, none), (2, none), (3, none), (4, none), (5, none), (6, none), (7, none), (8, none), (9, none), (10, none)]) (fun w' => Ex w5 w') bA (by kernel_rfl) (Ex.refl w5).drew ?_
   have hEd := (Ex.refl w5).drew
   repeat' (first|refine aW (g := gp) (cs := prL g r g' c) rfl (fun _ h => hP5.blk.ext h) rfl ?_|refine ai rfl ?_|refine aa ?_|refine ae ?_|refine aN rfl ?_|refine aI ?_)
   exact eo rfl (rt rfl) (rt rfl) (rt rfl) ⟨g, g', gs, cp, gs', cp', H, U, k, p, rfl, ⟨hP5.h.ext hEd, hP5.u.ext hEd, hF5.ceq, hHF⟩, fun i j hi _ => hP5.hu i hi, fun l h1 h2 i hi => (hF5.act l h1 h2).2 i hi, fun l h1 i hi => (hF5.dn l h1).1 i hi, hE5.trans hEd⟩
end Go.Proofs.YtiejljicpinheaaGreat
