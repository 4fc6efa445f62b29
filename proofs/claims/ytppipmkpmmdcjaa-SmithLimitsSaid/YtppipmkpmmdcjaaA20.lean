import Derived.Test.YtppipmkpmmdcjaaA19
namespace Go.Proofs.Ytppipmkpmmdcjaa
open Go.W Go.LM Go.LA
theorem mX {rows cols : Nat} {A A' H U : Mat} (h : CEq rows cols A H U) (e : ∀ i j, i < rows → j < cols → A' i j = A i j) : CEq rows cols A' H U :=
 ⟨h.1, fun r c hr hc => (h.2 r c hr hc).trans (dy (fun k hk => (e r k hr hk).symm) fun _ _ => rfl)⟩
theorem pJ {r c k p2k : Nat} {A E U E2 U2 : Mat} {p p2 : Nat → Nat} (h1 : CEq r c A E U) (f1 : HF r c E k p) (h2 : CEq c r (fun i j => E j i) E2 U2) (f2 : HF c r E2 p2k p2) : ∀ D, DH r c A D → Eqm r c D (fun i j => E2 j i) := by
 rintro D ⟨H, U', k', p', H2, U2', k2', p2', c1, g1, c2, g2, rfl⟩ i j hi hj
 have e1 := (f6 c1 g1 h1 f1).2
 exact (f6 c2 g2 (mX h2 (fun i j hi hj => e1 j i hj hi)) f2).2 j i hj hi
def limE (k : Int) : Nat → Int := fun i => if i = 0 then (k.natAbs : Int) else 0
theorem nF {k : Int} {r c : Nat} (hr : 1 ≤ r) (hc : 1 ≤ c) : HF r c (dgE (limE k)) (if k = 0 then 0 else 1) (fun _ => 0) := by
 have hz : ∀ i j, ¬ (i = 0 ∧ j = 0) → dgE (limE k) i j = 0 := fun i j h => by
  unfold dgE
  by_cases e : i = j
  ·rw [if_pos e]; unfold limE; rw [if_neg (by omega)]
  ·rw [if_neg e]
 by_cases hk : k = 0
 ·rw [if_pos hk]
  refine ⟨by omega, fun c hc => by omega, fun c c' h h' => by omega, fun c hc => by omega, fun c hc => by omega, fun c hc => by omega, fun j h1 h2 i h3 => ?_⟩
  by_cases e : i = 0 ∧ j = 0
  ·rw [e.1, e.2]; subst hk; rfl
  ·exact hz i j e
 ·rw [if_neg hk]
  refine ⟨hc, fun _ _ => hr, fun c c' h h' => by omega, fun c hc r hr => by omega, fun j hj => ?_, fun c hc j hj => by omega, fun j h1 h2 i h3 => hz i j (by omega)⟩
  obtain rfl : j = 0 := by omega
  show 0 < dgE (limE k) 0 0
  rw [show dgE (limE k) 0 0 = (k.natAbs : Int) from rfl]
  omega
theorem ol {k : Int} {r c : Nat} (hr : 1 ≤ r) (hc : 1 ≤ c) {A : Mat} (hA : ∀ i j, i < r → j < c → A i j = if i = 0 ∧ j = 0 then k else 0) : ∀ D, DH r c A D → Eqm r c D (dgE (limE k)) := by
 have hT : ∀ i j, dgE (limE k) j i = dgE (limE k) i j := fun i j => by
  unfold dgE
  by_cases e : i = j
  ·subst e; rfl
  ·rw [if_neg e, if_neg (fun h => e h.symm)]
 have hEA : ∀ i j, dgE (limE k) i j = if i = 0 ∧ j = 0 then (k.natAbs : Int) else 0 := fun i j => by
  unfold dgE limE
  by_cases e : i = j
  ·subst e
   by_cases h : i = 0
   ·rw [if_pos rfl, if_pos h, if_pos ⟨h, h⟩]
   ·rw [if_pos rfl, if_neg h, if_neg (fun x => h x.1)]
  ·rw [if_neg e, if_neg (by omega)]
 have h1 : ∃ U, CEq r c A (dgE (limE k)) U := by
  by_cases hk : 0 ≤ k
  ·exact ⟨idM, (jE r c A).congr (fun i j hi hj => by
    rw [hEA, hA i j hi hj]
    by_cases e : i = 0 ∧ j = 0
    ·rw [if_pos e, if_pos e]; omega
    ·rw [if_neg e, if_neg e]) (fun _ _ _ _ => rfl)⟩
  ·exact ⟨cneg idM 0, ((jE r c A).neg (i := 0) hc).congr (fun i j hi hj => by
    rw [hEA]
    show _ = if j = 0 then - A i 0 else A i j
    by_cases e2 : j = 0
    ·subst e2
     rw [if_pos rfl, hA i 0 hi hj]
     by_cases e : i = 0
     ·rw [if_pos ⟨e, rfl⟩, if_pos ⟨e, rfl⟩]; omega
     ·rw [if_neg (fun h => e h.1), if_neg (fun h => e h.1)]; rfl
    ·rw [if_neg e2, hA i j hi hj, if_neg (fun h => e2 h.2), if_neg (fun h => e2 h.2)]) (fun _ _ _ _ => rfl)⟩
 obtain ⟨U, hU⟩ := h1
 exact fun D hD => (pJ hU (nF hr hc) ((jE c r (fun i j => dgE (limE k) j i)).congr (fun i j _ _ => (hT i j).symm) (fun _ _ _ _ => rfl)) (nF hc hr) D hD).trans (fun i j _ _ => hT i j)
theorem jM {k : Int} {r c K : Nat} (hr : 1 ≤ r) (hc : 1 ≤ c) (hK : 1 ≤ K) (hk : k.natAbs < 4294967296) {A : Mat} (hA : ∀ i j, i < r → j < c → A i j = if i = 0 ∧ j = 0 then k else 0) :
  RunsA r c K 0 A (fun _ n D => n = 0 ∧ Eqm r c D (dgE (limE k))) :=
 kn (ol hr hc hA) (fun i => by unfold limE; split <;> omega) (fun i j hij => by
  unfold limE
  by_cases h : i = 0
  ·rw [if_pos h]
   by_cases h' : j = 0
   ·rw [if_pos h']; exact Int.dvd_refl _
   ·rw [if_neg h']; exact Int.dvd_zero _
  ·rw [if_neg h, if_neg (by omega)]; exact Int.dvd_refl _) (fun i => by
  unfold limE
  split
  ·exact bD (by simpa using hk) hK
  ·exact f4)
theorem dV {p : Nat → Nat → Prop} (h00 : p 0 0) (h01 : p 0 1) (h10 : p 1 0) (h11 : p 1 1) : ∀ i j, i < 2 → j < 2 → p i j := fun i j hi hj => by
 rcases (show i = 0 ∨ i = 1 by omega) with rfl | rfl <;> rcases (show j = 0 ∨ j = 1 by omega) with rfl | rfl <;> assumption
theorem mY {L : List (List Int)} (h0 : 0 < litF L 0 0) (h1 : 0 < litF L 1 1) (hz : litF L 0 1 = 0) (hr : 0 ≤ litF L 1 0 ∧ litF L 1 0 < litF L 1 1) : HF 2 2 (litF L) 2 id := by
 refine ⟨Nat.le_refl _, fun c hc => hc, fun c c' h _ => h, fun c hc r hr' => ?_, fun c hc => ?_, fun c hc j hj => ?_, fun c hc hc' => by omega⟩
 ·obtain rfl : c = 1 := by simp only [id] at hr'; omega
  obtain rfl : r = 0 := by simp only [id] at hr'; omega
  exact hz
 ·exact eY (p := fun c => 0 < litF L (id c) c) h0 h1 c hc
 ·obtain rfl : c = 1 := by omega
  obtain rfl : j = 0 := by omega
  exact hr
def aw2E : Nat → Int := fun i => if i = 0 then 1 else 3
theorem pK {K : Nat} (hK : 1 ≤ K) : RunsA 2 2 K 0 (litF [[2, 1], [1, 2]]) (fun _ n D => n = 0 ∧ Eqm 2 2 D (dgE aw2E)) := by
 have h1 : CEq 2 2 (litF [[2, 1], [1, 2]]) (litF [[1, 0], [2, 3]]) (litF [[0, -1], [1, 2]]) := ⟨Or.inl (by decide), dV (p := fun i j => litF [[1, 0], [2, 3]] i j = mm 2 _ _ i j) (by decide) (by decide) (by decide) (by decide)⟩
 have h2 : CEq 2 2 (fun i j => litF [[1, 0], [2, 3]] j i) (litF [[1, 0], [0, 3]]) (litF [[1, -2], [0, 1]]) := ⟨Or.inl (by decide), dV (p := fun i j => litF [[1, 0], [0, 3]] i j = mm 2 _ _ i j) (by decide) (by decide) (by decide) (by decide)⟩
 refine kn (fun D hD => (pJ h1 (mY (by decide) (by decide) (by decide) (by decide)) h2 (mY (by decide) (by decide) (by decide) (by decide)) D hD).trans (dV (p := fun i j => litF [[1, 0], [0, 3]] j i = dgE aw2E i j) (by decide) (by decide) (by decide) (by decide))) (fun i => by unfold aw2E; split <;> omega) (fun i j hij => ?_) (fun i => ?_)
 ·unfold aw2E
  by_cases h : i = 0
  ·rw [if_pos h]; exact Int.one_dvd _
  ·rw [if_neg h, if_neg (by omega)]; exact Int.dvd_refl _
 ·unfold aw2E; split <;> exact bD (by decide) hK
def aM0 : Mat := litF [[2, 0], [0, 3]]
def aM1 : Mat := litF [[2, 3], [0, 3]]
def aM2 : Mat := litF [[2, 1], [0, 3]]
def aM3 : Mat := litF [[1, 0], [0, -6]]
def aM4 : Mat := litF [[1, 0], [0, 6]]
def awI (t n : Nat) (D : Mat) : Prop := (t = 0 ∧ ((n = 2 ∧ Eqm 2 2 D aM0) ∨ (n = 1 ∧ Eqm 2 2 D aM1) ∨ (n = 0 ∧ Eqm 2 2 D aM2))) ∨ (t = 1 ∧ n = 0 ∧ Eqm 2 2 D aM3) ∨ (t = 2 ∧ n = 0 ∧ Eqm 2 2 D aM4)
structure Tab (t : Nat) (M : Mat) (p q : Nat) (B R C : Mat) : Prop where
 ht : t < 2
 hp : p < 2
 hq : q < 2
 un : ∀ p' q', p' < 2 → q' < 2 → LeastAt M 2 2 t p' q' → p' = p ∧ q' = q
 b : Eqm 2 2 (stB M t p q) B
 r : Eqm 2 2 (rdiv (stB M t p q) t) R
 c : Eqm 2 2 (stC M t p q) C
theorem Tab.at {t p q p' q' : Nat} {M B R C D : Mat} (h : Tab t M p q B R C) (e : Eqm 2 2 D M) (hL : LeastAt D 2 2 t p' q') : Eqm 2 2 (stB D t p' q') B ∧ Eqm 2 2 (rdiv (stB D t p' q') t) R ∧ Eqm 2 2 (stC D t p' q') C := by
 have hL2 := e.least hL
 obtain ⟨rfl, rfl⟩ := h.un p' q' hL2.2.1 hL2.2.2.2.1 hL2
 have hb := e.stB h.ht h.ht h.hp h.hq
 have hr := hb.rdiv h.ht h.ht
 exact ⟨hb.trans h.b, hr.trans h.r, (hr.cdiv h.ht h.ht).trans h.c⟩
theorem mZ : Tab 0 aM0 0 0 aM0 aM0 aM0 := by
 refine ⟨by decide, by decide, by decide, ?_, dV (by decide) (by decide) (by decide) (by decide), dV (by decide) (by decide) (by decide) (by decide), dV (by decide) (by decide) (by decide) (by decide)⟩
 refine dV (fun _ => ⟨rfl, rfl⟩) (fun h => absurd h.2.2.2.2.1 (by decide)) (fun h => absurd h.2.2.2.2.1 (by decide)) (fun h => absurd (h.2.2.2.2.2 0 0 (by decide) (by decide) (by decide) (by decide) (by decide)) (by decide))
theorem m0 : Tab 0 aM1 0 0 aM1 aM1 aM2 := by
 refine ⟨by decide, by decide, by decide, ?_, dV (by decide) (by decide) (by decide) (by decide), dV (by decide) (by decide) (by decide) (by decide), dV (by decide) (by decide) (by decide) (by decide)⟩
 refine dV (fun _ => ⟨rfl, rfl⟩) (fun h => absurd (h.2.2.2.2.2 0 0 (by decide) (by decide) (by decide) (by decide) (by decide)) (by decide)) (fun h => absurd h.2.2.2.2.1 (by decide)) (fun h => absurd (h.2.2.2.2.2 0 0 (by decide) (by decide) (by decide) (by decide) (by decide)) (by decide))
theorem m3 : Tab 0 aM2 0 1 (litF [[1, 2], [3, 0]]) (litF [[1, 2], [0, -6]]) aM3 := by
 refine ⟨by decide, by decide, by decide, ?_, dV (by decide) (by decide) (by decide) (by decide), dV (by decide) (by decide) (by decide) (by decide), dV (by decide) (by decide) (by decide) (by decide)⟩
 refine dV (fun h => absurd (h.2.2.2.2.2 0 1 (by decide) (by decide) (by decide) (by decide) (by decide)) (by decide)) (fun _ => ⟨rfl, rfl⟩) (fun h => absurd h.2.2.2.2.1 (by decide)) (fun h => absurd (h.2.2.2.2.2 0 1 (by decide) (by decide) (by decide) (by decide) (by decide)) (by decide))
theorem ru : Tab 1 aM3 1 1 aM3 aM3 aM3 := by
 refine ⟨by decide, by decide, by decide, ?_, dV (by decide) (by decide) (by decide) (by decide), dV (by decide) (by decide) (by decide) (by decide), dV (by decide) (by decide) (by decide) (by decide)⟩
 refine dV (fun h => absurd h.1 (by decide)) (fun h => absurd h.1 (by decide)) (fun h => absurd h.2.2.1 (by decide)) (fun _ => ⟨rfl, rfl⟩)
theorem om : ∀ D, DH 2 2 aM0 D → Eqm 2 2 D aM0 := by
 have hf : HF 2 2 aM0 2 id := mY (by decide) (by decide) (by decide) (by decide)
 have h2 : CEq 2 2 (fun i j => aM0 j i) aM0 idM := ⟨mH 2, dV (p := fun i j => aM0 i j = mm 2 _ _ i j) (by decide) (by decide) (by decide) (by decide)⟩
 exact fun D hD => (pJ (jE 2 2 aM0) hf h2 hf D hD).trans (dV (p := fun i j => aM0 j i = aM0 i j) (by decide) (by decide) (by decide) (by decide))
theorem eK {K : Nat} {D M : Mat} (hK : 1 ≤ K) (h : Eqm 2 2 D M) (h00 : (M 0 0).natAbs < 4294967296) (h01 : (M 0 1).natAbs < 4294967296) (h10 : (M 1 0).natAbs < 4294967296) (h11 : (M 1 1).natAbs < 4294967296) : ∀ a b, a < 2 → b < 2 → Lb K (D a b) := fun a b ha hb => by
 rw [h a b ha hb]
 exact bD (dV (p := fun a b => (M a b).natAbs < 4294967296) h00 h01 h10 h11 a b ha hb) hK
theorem pL {K : Nat} (hK : 1 ≤ K) : Runs 2 2 0 K (awI 0) := by
 have split : ∀ n D, awI 0 n D → (n = 2 ∧ Eqm 2 2 D aM0) ∨ (n = 1 ∧ Eqm 2 2 D aM1) ∨ (n = 0 ∧ Eqm 2 2 D aM2) := fun n D h => by
  rcases h with ⟨_, h⟩ | ⟨h, _⟩ | ⟨h, _⟩
  ·exact h
  ·omega
  ·omega
 have one : ∀ x, 0 < x → x < 2 → x = 1 := fun x h1 h2 => by omega
 refine ⟨fun n D h => ?_, fun n D p q h hL => ?_, fun n D p q h hL hx => ?_, fun n D p q h hL _ => ?_, fun n D p q h hL _ hx => ?_, fun n D p q h hL _ hz i h1 h2 => ?_, fun n D p q h hL _ hz i h1 h2 hx => ?_⟩
 ·rcases split n D h with ⟨_, e⟩ | ⟨_, e⟩ | ⟨_, e⟩ <;> exact eK hK e (by decide) (by decide) (by decide) (by decide)
 ·rcases split n D h with ⟨_, e⟩ | ⟨_, e⟩ | ⟨_, e⟩
  ·exact eK hK (mZ.at e hL).2.1 (by decide) (by decide) (by decide) (by decide)
  ·exact eK hK (m0.at e hL).2.1 (by decide) (by decide) (by decide) (by decide)
  ·exact eK hK (m3.at e hL).2.1 (by decide) (by decide) (by decide) (by decide)
 ·obtain ⟨x, x1, x2, hx⟩ := hx
  obtain rfl := one x x1 x2
  rcases split n D h with ⟨_, e⟩ | ⟨_, e⟩ | ⟨_, e⟩
  ·obtain ⟨hb, _, _⟩ := mZ.at e hL
   rw [hb 1 0 (by decide) (by decide), hb 0 0 (by decide) (by decide)] at hx; exact absurd hx (by decide)
  ·obtain ⟨hb, _, _⟩ := m0.at e hL
   rw [hb 1 0 (by decide) (by decide), hb 0 0 (by decide) (by decide)] at hx; exact absurd hx (by decide)
  ·obtain ⟨hb, _, _⟩ := m3.at e hL
   rw [hb 1 0 (by decide) (by decide), hb 0 0 (by decide) (by decide)] at hx; exact absurd hx (by decide)
 ·rcases split n D h with ⟨_, e⟩ | ⟨_, e⟩ | ⟨_, e⟩
  ·exact eK hK (mZ.at e hL).2.2 (by decide) (by decide) (by decide) (by decide)
  ·exact eK hK (m0.at e hL).2.2 (by decide) (by decide) (by decide) (by decide)
  ·exact eK hK (m3.at e hL).2.2 (by decide) (by decide) (by decide) (by decide)
 ·obtain ⟨x, x1, x2, hx⟩ := hx
  obtain rfl := one x x1 x2
  rcases split n D h with ⟨_, e⟩ | ⟨rfl, e⟩ | ⟨_, e⟩
  ·obtain ⟨_, hr, _⟩ := mZ.at e hL
   rw [hr 0 1 (by decide) (by decide), hr 0 0 (by decide) (by decide)] at hx; exact absurd hx (by decide)
  ·exact ⟨0, by decide, .inl ⟨rfl, .inr (.inr ⟨rfl, (m0.at e hL).2.2⟩)⟩⟩
  ·obtain ⟨_, hr, _⟩ := m3.at e hL
   rw [hr 0 1 (by decide) (by decide), hr 0 0 (by decide) (by decide)] at hx; exact absurd hx (by decide)
 ·obtain rfl := one i h1 h2
  rcases split n D h with ⟨_, e⟩ | ⟨_, e⟩ | ⟨_, e⟩
  ·intro b hb
   have hc := (mZ.at e hL).2.2
   rw [hc 0 b (by decide) hb, hc 1 b (by decide) hb]
   exact eY (p := fun b => Lb K (aM0 0 b + 1 * aM0 1 b)) (bD (by decide) hK) (bD (by decide) hK) b hb
  ·obtain ⟨_, hr, _⟩ := m0.at e hL
   have := hz 1 (by decide) (by decide)
   rw [hr 0 1 (by decide) (by decide), hr 0 0 (by decide) (by decide)] at this; exact absurd this (by decide)
  ·intro b hb
   have hc := (m3.at e hL).2.2
   rw [hc 0 b (by decide) hb, hc 1 b (by decide) hb]
   exact eY (p := fun b => Lb K (aM3 0 b + 1 * aM3 1 b)) (bD (by decide) hK) (bD (by decide) hK) b hb
 ·obtain ⟨b, b1, b2, hx⟩ := hx
  obtain rfl := one i h1 h2
  obtain rfl := one b b1 b2
  rcases split n D h with ⟨rfl, e⟩ | ⟨_, e⟩ | ⟨_, e⟩
  ·have hc := (mZ.at e hL).2.2
   exact ⟨1, by decide, .inl ⟨rfl, .inr (.inl ⟨rfl, (hc.radd (t := 0) (i := 1) (by decide) (by decide)).trans (dV (p := fun a b => radd aM0 0 1 a b = aM1 a b) (by decide) (by decide) (by decide) (by decide))⟩)⟩⟩
  ·obtain ⟨_, hr, _⟩ := m0.at e hL
   have := hz 1 (by decide) (by decide)
   rw [hr 0 1 (by decide) (by decide), hr 0 0 (by decide) (by decide)] at this; exact absurd this (by decide)
  ·have hc := (m3.at e hL).2.2
   rw [hc 1 1 (by decide) (by decide), hc 0 0 (by decide) (by decide)] at hx; exact absurd hx (by decide)
theorem pM {K : Nat} (hK : 1 ≤ K) : Runs 2 2 1 K (awI 1) := by
 have split : ∀ n D, awI 1 n D → n = 0 ∧ Eqm 2 2 D aM3 := fun n D h => by
  rcases h with ⟨h, _⟩ | ⟨_, h⟩ | ⟨h, _⟩
  ·omega
  ·exact h
  ·omega
 refine ⟨fun n D h => eK hK (split n D h).2 (by decide) (by decide) (by decide) (by decide), fun n D p q h hL => eK hK (ru.at (split n D h).2 hL).2.1 (by decide) (by decide) (by decide) (by decide), fun n D p q h hL ⟨x, h1, h2, _⟩ => by omega,
  fun n D p q h hL _ => eK hK (ru.at (split n D h).2 hL).2.2 (by decide) (by decide) (by decide) (by decide), fun n D p q h hL _ ⟨x, h1, h2, _⟩ => by omega, fun n D p q h hL _ _ i h1 h2 => by omega, fun n D p q h hL _ _ i h1 h2 => by omega⟩
theorem pN {K : Nat} (hK : 1 ≤ K) : RunsA 2 2 K 2 aM0 awI := by
 refine ⟨fun D hD => ⟨2, Nat.le_refl _, .inl ⟨rfl, .inl ⟨rfl, om D hD⟩⟩⟩, fun t h1 _ => ?_, fun t A' h1 _ hS => ?_⟩
 ·rcases (show t = 0 ∨ t = 1 by omega) with rfl | rfl
  ·exact pL hK
  ·exact pM hK
 ·rcases (show t = 0 ∨ t = 1 by omega) with rfl | rfl
  ·rcases hS with ⟨n, hI, hz⟩ | ⟨n, D, p, q, hI, hL, _, hz, hd, h⟩
   ·have h0 := hz 0 0 (by decide) (by decide) (by decide) (by decide)
    rcases hI with ⟨_, ⟨_, e⟩ | ⟨_, e⟩ | ⟨_, e⟩⟩ | ⟨h, _⟩ | ⟨h, _⟩
    ·rw [e 0 0 (by decide) (by decide)] at h0; exact absurd h0 (by decide)
    ·rw [e 0 0 (by decide) (by decide)] at h0; exact absurd h0 (by decide)
    ·rw [e 0 0 (by decide) (by decide)] at h0; exact absurd h0 (by decide)
    ·omega
    ·omega
   ·rcases hI with ⟨_, ⟨_, e⟩ | ⟨_, e⟩ | ⟨_, e⟩⟩ | ⟨h, _⟩ | ⟨h, _⟩
    ·have hc := (mZ.at e hL).2.2
     have := hd 1 1 (by decide) (by decide) (by decide) (by decide)
     rw [hc 1 1 (by decide) (by decide), hc 0 0 (by decide) (by decide)] at this; exact absurd this (by decide)
    ·obtain ⟨_, hr, _⟩ := m0.at e hL
     have := hz 1 (by decide) (by decide)
     rw [hr 0 1 (by decide) (by decide), hr 0 0 (by decide) (by decide)] at this; exact absurd this (by decide)
    ·have hc := (m3.at e hL).2.2
     rcases h with ⟨rfl, _⟩ | ⟨_, hn⟩
     ·exact ⟨0, by decide, .inr (.inl ⟨rfl, rfl, hc⟩)⟩
     ·rw [hc 0 0 (by decide) (by decide)] at hn; exact absurd hn (by decide)
    ·omega
    ·omega
  ·rcases hS with ⟨n, hI, hz⟩ | ⟨n, D, p, q, hI, hL, _, _, _, h⟩
   ·have h0 := hz 1 1 (by decide) (by decide) (by decide) (by decide)
    rcases hI with ⟨h, _⟩ | ⟨_, _, e⟩ | ⟨h, _⟩
    ·omega
    ·rw [e 1 1 (by decide) (by decide)] at h0; exact absurd h0 (by decide)
    ·omega
   ·rcases hI with ⟨h', _⟩ | ⟨_, _, e⟩ | ⟨h', _⟩
    ·omega
    ·have hc := (ru.at e hL).2.2
     rcases h with ⟨_, hn⟩ | ⟨rfl, _⟩
     ·rw [hc 1 1 (by decide) (by decide)] at hn; exact absurd hn (by decide)
     ·exact ⟨0, by decide, .inr (.inr ⟨rfl, rfl, (hc.rneg (t := 1) (by decide)).trans (dV (p := fun a b => rneg aM3 1 a b = aM4 a b) (by decide) (by decide) (by decide) (by decide))⟩)⟩
    ·omega
end Go.Proofs.Ytppipmkpmmdcjaa
namespace Go.W
def intC (n : Nat) (f : Nat → Int) : List Value := (List.range n).map fun i => Value.int .i64 (f i)
theorem fR (n : Nat) (f : Nat → Int) : (intC n f).length = n := by simp [intC]
theorem ie {n i : Nat} {f : Nat → Int} (h : i < n) : (intC n f)[i]? = some (.int .i64 (f i)) := by simp [intC, h]
structure MI (w : World) (a : Option Addr) (r c : Nat) (s : Nat → SD) (F : Nat → Nat → Int) : Prop where
 top : Sl w a (topC r s)
 row : ∀ i, i < r → (s i).len = c ∧ Sl w (s i).a (intC c (F i))
 fit : ∀ i j, i < r → j < c → -9223372036854775808 ≤ F i j ∧ F i j ≤ 9223372036854775807
theorem MI.ext {w w' : World} {a : Option Addr} {r c : Nat} {s : Nat → SD} {F : Nat → Nat → Int} (h : MI w a r c s F) (e : Ex w w') : MI w' a r c s F := ⟨h.top.ext e, fun i hi => ⟨(h.row i hi).1, (h.row i hi).2.ext e⟩, h.fit⟩
section
variable {P : Program} {S : World → Prop} {ops : List Oper} {K : Env → World → Prop} {rest : List (Oper × Option Bool)} {ρ : Env} {w : World} {b : Option Bool} {d : Nat} {T : TypeId} {pos : String} {af : Array Edge}
theorem pR {x : Operand} {T1 : TypeId} {a : Option Addr} {j n : Nat} {f : Nat → Int} [Scal P T1] (hx : ev ρ x = .pointer (some (elt a j))) (hs : Rd b S w fun w' => Sl w' a (intC n f)) (hj : j < n)
  (h : RR P S ops K rest (upd ρ d (.int .i64 (f j))) w) : RR P S ops K ((⟨some d, .load T1 x, T, pos, af, none⟩, b) :: rest) ρ w :=
 fB hx (hs.imp fun w' hs => by
  have := hs.get j (by rw [fR]; exact hj)
  rw [this, List.getD_eq_getElem?_getD, ie hj]; rfl) h
end
end Go.W
namespace Go.Proofs.Ytppipmkpmmdcjaa
open Go.W Go.LM Go.LA
set_option maxHeartbeats 4000000 in
theorem iE {r c cap : Nat} {w : World} {a : Option Addr} {s : Nat → SD} {F : Mat} (hM : MI w a r c s F) (hr : 1 ≤ r ∧ r ≤ 16) (hc : 1 ≤ c ∧ c ≤ 16) :
  CallsR Try.prog 25 #[.slice a r cap] w fun v w' => ∃ u, v = .tuple #[u, .bool true] ∧ RetMO 2 w r c F u w' := by
 have hpt := hM.top.plain (by rw [bJ]; omega)
 have hlen : ∀ i, i < r → (s i).len = c := fun i hi => (hM.row i hi).1
 have h0 := hlen 0 (by omega)
 have lF : ∀ i j, i < r → j < c → Lb 2 (F i j) := fun i j hi hj => by have := hM.fit i j hi hj; unfold Lb; omega
 refine aJ (args := [_]) Try.func25 rfl rfl ?_
 repeat' (first|refine bz rfl rfl (by omega) ?_|refine ml rfl rfl (by omega) ?_|refine ai rfl ?_|refine aa ?_|refine ao ?_|refine ah rfl ?_|refine ae ?_|refine bn rfl ?_|refine bB rfl rfl ?_|refine aA rfl ?_|refine aC ?_|refine aI ?_)
 refine bh (ι := Nat) [2, 3, 5, 19, 20, 21, 22, 23, 24, 25, 26, 27, 28, 29, 30, 31, 32, 33, 34, 35, 36, 37, 38, 39, 40] (fun i => [(19, .int .i64 (i : Int))]) (fun i w' => i ≤ r ∧ w' = w) (fun i => r - i) 0 ⟨rfl, trivial⟩ ⟨by omega, rfl⟩ ?_
 rintro i ξ w2 ⟨hi, rfl⟩
 show CW _ _ _ _ (over [(19, .int .i64 (i : Int))] _) w2
 rcases Nat.lt_or_ge i r with hir | hir
 ·have hli := hlen i hir
  repeat' (first|refine bA rfl rfl (show ((i : Nat) : Int) < ((r : Nat) : Int) by omega) ?_|refine bz rfl rfl (by omega) ?_|refine ml rfl rfl (by omega) ?_|refine gN rfl rfl (by omega) ?_|refine aB (j := i) rfl rfl hpt (by omega) ?_|refine dG (j := i) rfl hM.top (by omega) ?_|refine aB (j := 0) rfl rfl hpt (by omega) ?_|refine dG (j := 0) rfl hM.top (by omega) ?_|refine ai rfl ?_|refine aa ?_|refine ao ?_|refine ah rfl ?_|refine ae ?_|refine bn rfl ?_|refine bB rfl rfl ?_|refine bi rfl rfl (by omega) (by omega) ?_|refine aE rfl ?_|refine aA rfl ?_|refine aC ?_|refine aM ?_|refine aI ?_)
  exact ⟨⟨i + 1, ⟨hir, rfl⟩, by omega, rfl, trivial⟩, (by (repeat (first|exact aF _ _ _|refine ay rfl ?_|refine av rfl ?_|refine aj rfl ?_|refine ak rfl ?_)))⟩
 ·have eir : r = i := by omega
  subst eir
  repeat' (first|refine bz rfl rfl (by omega) ?_|refine aB (j := 0) rfl rfl hpt (by omega) ?_|refine dG (j := 0) rfl hM.top (by omega) ?_|refine ai rfl ?_|refine aa ?_|refine ao ?_|refine ah rfl ?_|refine ae ?_|refine bn rfl ?_|refine aA rfl ?_|refine aW ?_|refine aO ?_|refine aX ?_)
  rw [h0]
  refine ax (dU (r := r) (c := c) (by omega) (by omega)) rfl ?_
  rintro v w3 ⟨g, gs, cp, rfl, hO3, hE3⟩
  refine ⟨fun _ _ => trivial, ?_⟩
  repeat' (first|refine ai rfl ?_|refine aa ?_|refine ao ?_|refine ah rfl ?_|refine ae ?_|refine bn rfl ?_|refine aC ?_)
  refine bh (ι := Nat) [7, 8, 50, 51, 52, 53, 54, 55, 56, 57, 58, 59, 60, 61, 62, 63, 64, 65, 66, 67, 68, 69, 70, 71, 72, 73, 74, 75, 76] (fun i => [(50, .int .i64 (i : Int))])
   (fun i w' => i ≤ r ∧ Ex w2 w' ∧ MO true 2 w' w2.heap.size g r c gs cp (fun x y => if x < i then F x y else 0)) (fun i => r - i)
   0 ⟨rfl, trivial⟩ ⟨by omega, hE3, (hO3.up (by omega)).congr fun x y _ _ => if_neg (by omega)⟩ ?_
  clear hO3 hE3
  rintro i ξ2 w4 ⟨hi, hE4, hO4⟩
  show CW _ _ _ _ (over [(50, .int .i64 (i : Int))] _) w4
  rcases Nat.lt_or_ge i r with hir | hir
  ·have hli := hlen i hir
   repeat' (first|refine bA rfl rfl (show ((i : Nat) : Int) < ((r : Nat) : Int) by omega) ?_|refine aB (j := i) (a := a) rfl rfl hpt (by omega) ?_|refine dG (j := i) (a := a) (n := r) (s := s) rfl (hM.ext hE4).top (by omega) ?_|refine ai rfl ?_|refine aa ?_|refine ao ?_|refine ah rfl ?_|refine ae ?_|refine bn rfl ?_|refine aE rfl ?_|refine aC ?_|refine aI ?_)
   refine bh (ι := Nat) [8, 58, 59, 60, 61, 62, 63, 64, 65, 66, 67, 68, 69, 70, 71, 72, 73, 74, 75] (fun j => [(58, .int .i64 (j : Int))])
    (fun j w' => j ≤ c ∧ Ex w2 w' ∧ MO true 2 w' w2.heap.size g r c gs cp (fun x y => if x < i ∨ (x = i ∧ y < j) then F x y else 0)) (fun j => c - j)
    0 ⟨rfl, trivial⟩ ⟨by omega, hE4, hO4.congr fun x y _ _ => by
     by_cases h : x < i
     ·rw [if_pos h, if_pos (.inl h)]
     ·rw [if_neg h, if_neg (by omega)]⟩ ?_
   clear hO4 hE4
   rintro j ξ3 w5 ⟨hj, hE5, hO5⟩
   show CW _ _ _ _ (over [(58, .int .i64 (j : Int))] _) w5
   rcases Nat.lt_or_ge j c with hjc | hjc
   ·obtain ⟨hhr, hbr, hcr, hEr⟩ := hO5.get hir
    have hrow := (hM.row i hir).2
    have hprow := hrow.plain (by rw [fR]; omega)
    have hfit := hM.fit i j hir hjc
    repeat' (first|refine bA rfl rfl (by omega) ?_|refine aa ?_|refine ao ?_|refine ah rfl ?_|refine ae ?_|refine aE rfl ?_|refine aI ?_)
    refine aC ?_
    repeat' (first|refine ai rfl ?_|refine aa ?_|refine ao ?_|refine ah rfl ?_|refine ae ?_)
    refine aZ (late := [14]) (plan := [(0, none), (1, none), (2, none), (3, none), (4, none), (5, none), (6, none), (7, none), (8, none), (9, none), (10, none), (11, none), (12, some true), (13, none), (14, some false)]) (fun w' => Ex w5 w') bt (by kernel_rfl) (Ex.refl w5).drew ?_
    have hEd := (Ex.refl w5).drew
    repeat' (first|refine aB (j := i) (a := some ⟨g, 0, none⟩) rfl rfl ⟨_, _, rfl⟩ (by omega) ?_|refine aS (j := i) (a := some ⟨g, 0, none⟩) (n := r) (s := fun k => ⟨some ⟨gs k, 0, none⟩, c, cp k⟩) rfl (fun _ h => (hO5.ext h).top.sl) (by omega) rfl ?_|refine aB (j := i) (a := a) rfl rfl hpt (by omega) ?_|refine dG (j := i) (a := a) (n := r) (s := s) rfl (fun _ h => (hM.ext (hE5.trans h)).top) (by omega) ?_|refine aB (j := j) (a := (s i).a) rfl rfl hprow (by omega) ?_|refine pR (j := j) (a := (s i).a) rfl (fun _ h => hrow.ext (hE5.trans h)) (by omega) ?_|refine ai rfl ?_)
    refine ax (bZ hfit.1 hfit.2 _) rfl ?_
    rintro v w6 ⟨hI6, hE6⟩
    refine ⟨fun _ h => h.trans hE6, ?_⟩
    obtain ⟨u, rfl⟩ := hI6.ih
    have hE56 := hEd.trans hE6
    repeat' (first|refine aU (j := j) (a := some ⟨gs i, 0, none⟩) rfl rfl ⟨_, _, rfl⟩ (by omega) ?_)
    refine bP (j := j) (n := cp i) (u := u) rfl rfl (hbr.ext hE56) (by omega) (fun w7 hc7 hb7 => ⟨fun h => (nomatch h), ?_⟩)
    repeat' (first|refine ai rfl ?_|refine aa ?_|refine ah rfl ?_|refine ae ?_|refine bi rfl rfl (by omega) (by omega) ?_|refine aM ?_)
    refine ⟨⟨j + 1, ⟨hjc, (hE5.trans hE56).chg hc7 (hO5.row i hir).low, ((hO5.ext hE56).put hir (hbr.ext hE56) (fun k hk => (hEr k hk).ext hE56) (Ent.of hI6 (lF i j hir hjc)) hc7 hb7).congr fun x y _ _ => ?_⟩, by omega, rfl, trivial⟩, (by (repeat (first|exact aF _ _ _|refine ay rfl ?_|refine av rfl ?_|refine aj rfl ?_|refine ak rfl ?_)))⟩
    unfold setM
    by_cases h : x = i ∧ y = j
    ·rw [if_pos h, if_pos (by omega), h.1, h.2]
    ·rw [if_neg h]
     show _ = if x < i ∨ (x = i ∧ y < j) then F x y else 0
     by_cases h' : x < i ∨ (x = i ∧ y < j)
     ·rw [if_pos h', if_pos (by omega)]
     ·rw [if_neg h', if_neg (by omega)]
   ·have ejc : c = j := by omega
    subst ejc
    repeat' (first|refine bz rfl rfl (by omega) ?_|refine ai rfl ?_|refine aa ?_|refine ao ?_|refine ah rfl ?_|refine ae ?_|refine bi rfl rfl (by omega) (by omega) ?_|refine aA rfl ?_|refine aW ?_|refine aO ?_|refine aX ?_|refine aM ?_)
    refine ⟨⟨i + 1, ⟨hir, hE5, hO5.congr fun x y _ hy => ?_⟩, by omega, rfl, trivial⟩, (by (repeat (first|exact aF _ _ _|refine ay rfl ?_|refine av rfl ?_|refine aj rfl ?_|refine ak rfl ?_)))⟩
    by_cases h : x < i + 1
    ·rw [if_pos h, if_pos (by omega)]
    ·rw [if_neg h, if_neg (by omega)]
  ·have eir : r = i := by omega
   subst eir
   repeat' (first|refine bz rfl rfl (by omega) ?_|refine ai rfl ?_|refine aa ?_|refine ao ?_|refine ah rfl ?_|refine ae ?_|refine aA rfl ?_|refine aW ?_|refine aO ?_|refine aX ?_|refine aT ?_)
   exact fv rfl (rt rfl) (rt rfl) ⟨_, rfl, g, gs, cp, rfl, hO4.congr fun x y hx _ => by rw [if_pos hx], hE4⟩
theorem jN {r c cap : Nat} {w : World} {a : Option Addr} {s : Nat → SD} {F : Mat} (hM : MI w a r c s F) (hr : 1 ≤ r ∧ r ≤ 16) (hc : 1 ≤ c ∧ c ≤ 16) :
  CallsR Try.prog 15 #[.slice a r cap] w (RetMO 2 w r c F) := by
 refine aJ (args := [_]) Try.func15 rfl rfl ?_
 repeat' (first|refine ai rfl ?_|refine aa ?_|refine ao ?_|refine ah rfl ?_|refine ae ?_)
 refine ax (iE hM hr hc) rfl ?_
 rintro v w1 ⟨_, rfl, g, gs, cp, rfl, hO, hE1⟩
 refine ⟨fun _ _ => trivial, ?_⟩
 repeat' (first|refine aH rfl rfl ?_|refine ai rfl ?_|refine aa ?_|refine ao ?_|refine ah rfl ?_|refine ae ?_|refine aT ?_)
 exact bF rfl (rt rfl) ⟨g, gs, cp, rfl, hO, hE1⟩
end Go.Proofs.Ytppipmkpmmdcjaa
namespace Go.Proofs.Ytppipmkpmmdcjaa
open Go.W Go.LM Go.LA
def litS (g0 g1 c : Nat) : Nat → SD := fun i => ⟨some ⟨if i = 0 then g0 else g1, 0, none⟩, c, c⟩
theorem lZ {L : List (List Int)} (h : ∀ l ∈ L, ∀ x ∈ l, -100 ≤ x ∧ x ≤ 100) (i j : Nat) : -9223372036854775808 ≤ litF L i j ∧ litF L i j ≤ 9223372036854775807 := by
 unfold litF
 by_cases hi : i < L.length
 ·have h1 : L.getD i [] ∈ L := by rw [List.getD_eq_getElem?_getD, List.getElem?_eq_getElem hi]; exact List.getElem_mem _
  by_cases hj : j < (L.getD i []).length
  ·have h2 := h _ h1 ((L.getD i []).getD j 0) (by rw [List.getD_eq_getElem?_getD (l := L.getD i []), List.getElem?_eq_getElem hj]; exact List.getElem_mem _)
   omega
  ·rw [List.getD_eq_getElem?_getD (l := L.getD i []), List.getElem?_eq_none (by omega)]; simp
 ·rw [List.getD_eq_getElem?_getD (l := L), List.getElem?_eq_none (by omega)]; simp
theorem pS {w : World} {t g0 g1 c T0 T1 Tt : Nat} {F : Mat} (h0 : Blk w g0 T0 (intC c (F 0))) (h1 : Blk w g1 T1 (intC c (F 1))) (ht : Blk w t Tt [.slice (some ⟨g0, 0, none⟩) c c, .slice (some ⟨g1, 0, none⟩) c c])
  (hf : ∀ i j, -9223372036854775808 ≤ F i j ∧ F i j ≤ 9223372036854775807) : MI w (some ⟨t, 0, none⟩) 2 c (litS g0 g1 c) F :=
 ⟨ht.sl, fun i hi => ⟨rfl, by
  match i, hi with
  | 0, _ => exact h0.sl
  | 1, _ => exact h1.sl⟩, fun i j _ _ => hf i j⟩
end Go.Proofs.Ytppipmkpmmdcjaa
namespace Go.Proofs.Ytppipmkpmmdcjaa
open Go.W Go.LM Go.LA
set_option maxHeartbeats 4000000 in
theorem cB (w : World) : CallsR Try.prog 9 #[] w fun v w' => v = .bool true ∧ Ex w w' := by
 refine aJ (args := []) Try.func9 rfl rfl ?_
 repeat' (first|refine ai rfl ?_|refine aa ?_|refine ao ?_|refine ah rfl ?_|refine ae ?_)
 refine eP (cs := (intC 2 (litF [[2, 0], [0, 3]] 0)).toArray) rfl (by kernel_rfl) (fun a1 w1 n1 => ⟨fun _ _ => trivial, ?_⟩)
 refine eP (cs := (intC 2 (litF [[2, 0], [0, 3]] 1)).toArray) rfl (by kernel_rfl) (fun b1 w2 n2 => ⟨fun _ _ => trivial, ?_⟩)
 refine eP (cs := #[.slice (some ⟨a1, 0, none⟩) 2 2, .slice (some ⟨b1, 0, none⟩) 2 2]) rfl (by kernel_rfl) (fun c1 w3 n3 => ⟨fun _ _ => trivial, ?_⟩)
 have hI3 : MI w3 (some ⟨c1, 0, none⟩) 2 2 (litS a1 b1 2) (litF [[2, 0], [0, 3]]) := pS ((n1.blk.ext n2.ex).ext n3.ex) (n2.blk.ext n3.ex) n3.blk (lZ (by decide))
 have hE03 : Ex w w3 := (n1.ex.trans n2.ex).trans n3.ex
 refine ax (jN hI3 (by omega) (by omega)) rfl ?_
 rintro v w4 ⟨g4, gs4, cp4, rfl, hO4, hE4⟩
 refine ⟨fun _ _ => trivial, ?_⟩
 refine ax (dA (K := 6000) (KU := 2000000) (W := 24008) hO4.mx (by omega) (by omega) (pN (by decide)) (by decide) (by decide) (by decide) (by decide) (by decide) (by decide) (by decide)) rfl ?_
 rintro v w5 ⟨g5, D, n, rfl, hO5, hn, hI5, hE5⟩
 refine ⟨fun _ _ => trivial, ?_⟩
 rw [show min 2 2 = 2 from rfl] at hO5 hI5 ⊢
 obtain ⟨hh5, hb5, hEn5⟩ := hO5.ex
 have hD5 : Eqm 2 2 D aM4 := by
  rcases hI5 with ⟨h, _⟩ | ⟨h, _⟩ | ⟨_, _, h⟩
  ·omega
  ·omega
  ·exact h
 have hE05 := (hE03.trans hE4).trans hE5
 repeat' (first|refine aH rfl rfl ?_|refine ai rfl ?_|refine aa ?_|refine ao ?_|refine ah rfl ?_|refine ae ?_)
 refine eP (cs := (intC 2 (litF [[2, 1], [1, 2]] 0)).toArray) rfl (by kernel_rfl) (fun a6 w6 n6 => ⟨fun _ _ => trivial, ?_⟩)
 refine eP (cs := (intC 2 (litF [[2, 1], [1, 2]] 1)).toArray) rfl (by kernel_rfl) (fun b6 w7 n7 => ⟨fun _ _ => trivial, ?_⟩)
 refine eP (cs := #[.slice (some ⟨a6, 0, none⟩) 2 2, .slice (some ⟨b6, 0, none⟩) 2 2]) rfl (by kernel_rfl) (fun c6 w8 n8 => ⟨fun _ _ => trivial, ?_⟩)
 have hI8 : MI w8 (some ⟨c6, 0, none⟩) 2 2 (litS a6 b6 2) (litF [[2, 1], [1, 2]]) := pS ((n6.blk.ext n7.ex).ext n8.ex) (n7.blk.ext n8.ex) n8.blk (lZ (by decide))
 refine ax (jN hI8 (by omega) (by omega)) rfl ?_
 rintro v w9 ⟨g9, gs9, cp9, rfl, hO9, hE9⟩
 refine ⟨fun _ _ => trivial, ?_⟩
 refine ax (jU (K := 6000) (KU := 2000000) (W := 24008) hO9.mx (by omega) (by decide) (pK (by decide)) (by decide) (by decide) (by decide) (by decide) (by decide) (by decide) (by decide) (by decide)) rfl ?_
 rintro v w10 ⟨u, D2, m, rfl, hu, _, ⟨_, hD2⟩, hE10⟩
 refine ⟨fun _ _ => trivial, ?_⟩
 obtain ⟨u, rfl⟩ := hu.ih
 repeat' (first|refine aH rfl rfl ?_|refine ai rfl ?_)
 refine aD (fun g11 w11 hn11 => ⟨fun _ _ => trivial, ?_⟩)
 have hb11 : Blk w11 g11 27 (intL false none 0 0) := hn11.blk
 skip
 refine aw (n := 2) (vs := u.cells) rfl rfl rfl rfl hb11 rfl (fun w12 hc12 hb12 => ⟨fun _ _ => trivial, ?_⟩)
 have hE1012 : Ex w10 w12 := hn11.ex.chg hc12 hn11.lo
 have hE512 := ((((n6.ex.trans n7.ex).trans n8.ex).trans hE9).trans hE10).trans hE1012
 have hu12 := hu.ext hE1012
 have f0 := (hEn5 0 (by omega)).ext hE512
 have f1 := (hEn5 1 (by omega)).ext hE512
 rw [hD5 0 0 (by decide) (by decide), show aM4 0 0 = 1 from rfl] at f0
 rw [hD5 1 1 (by decide) (by decide), show aM4 1 1 = 6 from rfl] at f1
 rw [hD2 1 1 (by decide) (by decide), show dgE aw2E 1 1 = 3 from rfl] at hu12
 repeat' (first|refine ai rfl ?_|refine aa ?_|refine ao ?_|refine ae ?_)
 refine aZ (late := []) (plan := [(0, none), (1, none), (2, none), (3, none), (4, none), (5, none), (6, none), (7, none), (8, none), (9, none), (10, none), (11, none), (12, none), (13, some true), (14, some true), (15, none), (16, none), (17, none), (18, none), (19, none), (20, some true), (21, some true), (22, none), (23, none), (24, none), (25, some true), (26, some true), (27, none), (28, none)]) (fun w' => Ex w12 w') bt (by kernel_rfl) (Ex.refl w12).drew ?_
 have hEd := (Ex.refl w12).drew
 repeat' (first|refine eF rfl rfl ?_|refine aU (j := 0) (a := some ⟨g5, 0, none⟩) rfl rfl ⟨_, _, rfl⟩ (by omega) ?_|refine bp (j := 0) (n := 2) (a := some ⟨g5, 0, none⟩) rfl (fun _ h => (hb5.ext (hE512.trans h)).sl) ⟨_, _, rfl⟩ (by omega) ?_|refine ai rfl ?_|refine bn rfl ?_|refine bB rfl rfl ?_)
 refine ax (bZ (z := 1) (by omega) (by omega) _) rfl ?_
 rintro v w13 ⟨hI13, hE13⟩
 refine ⟨fun _ h => h.trans hE13, ?_⟩
 have hE1213 := hEd.trans hE13
 repeat' (first|refine bB rfl rfl ?_)
 refine ax (cT ((f0.ext hE1213).c rfl) hI13) rfl ?_
 rintro v w14 ⟨rfl, hE14⟩
 refine ⟨fun _ h => h.trans hE14, ?_⟩
 have hE1214 := hE1213.trans hE14
 rw [show decide ((1 : Int) = 1) = true from rfl]
 repeat' (first|refine aU (j := 1) (a := some ⟨g5, 0, none⟩) rfl rfl ⟨_, _, rfl⟩ (by omega) ?_|refine bp (j := 1) (n := 2) (a := some ⟨g5, 0, none⟩) rfl (fun _ h => (hb5.ext (hE512.trans h)).sl) ⟨_, _, rfl⟩ (by omega) ?_|refine ai rfl ?_|refine bB rfl rfl ?_)
 refine ax (bZ (z := 6) (by omega) (by omega) _) rfl ?_
 rintro v w15 ⟨hI15, hE15⟩
 refine ⟨fun _ h => h.trans hE15, ?_⟩
 have hE1215 := hE1214.trans hE15
 repeat' (first|refine bB rfl rfl ?_)
 refine ax (cT ((f1.ext hE1215).c rfl) hI15) rfl ?_
 rintro v w16 ⟨rfl, hE16⟩
 refine ⟨fun _ h => h.trans hE16, ?_⟩
 have hE1216 := hE1215.trans hE16
 rw [show decide ((6 : Int) = 6) = true from rfl]
 repeat' (first|refine aP (g := g11) rfl (fun _ h => hb12.ext h) rfl ?_|refine ai rfl ?_|refine bB rfl rfl ?_)
 refine ax (bZ (z := 3) (by omega) (by omega) _) rfl ?_
 rintro v w17 ⟨hI17, hE17⟩
 refine ⟨fun _ h => h.trans hE17, ?_⟩
 have hE1217 := hE1216.trans hE17
 repeat' (first|refine bB rfl rfl ?_)
 refine ax (cT ((hu12.ext hE1217).c rfl) hI17) rfl ?_
 rintro v w18 ⟨rfl, hE18⟩
 refine ⟨fun _ h => h.trans hE18, ?_⟩
 rw [show decide ((3 : Int) = 3) = true from rfl]
 repeat' (first|refine ai rfl ?_|refine aa ?_|refine ae ?_|refine aT ?_)
 exact bF rfl (rt rfl) ⟨rfl, (hE05.trans hE512).trans (hE1217.trans hE18)⟩
end Go.Proofs.Ytppipmkpmmdcjaa
namespace Go.Proofs.Ytppipmkpmmdcjaa
open Go.W Go.LM Go.LA
set_option maxHeartbeats 8000000 in
theorem ig {rows cols k : Int} (h1 : 0 ≤ rows ∧ rows ≤ 255) (h2 : 0 ≤ cols ∧ cols ≤ 255) (hk : -128 ≤ k ∧ k ≤ 127) (w : World) :
  CallsR Try.prog 3 #[.int .u8 rows, .int .u8 cols, .int .i8 k] w fun v w' => v = .bool true ∧ Ex w w' := by
 obtain ⟨r0, hr0⟩ : ∃ r0 : Nat, 1 + rows % 17 = (r0 : Int) := ⟨(1 + rows % 17).toNat, by omega⟩
 obtain ⟨c, hc0⟩ : ∃ c : Nat, 1 + cols % 17 = (c : Int) := ⟨(1 + cols % 17).toNat, by omega⟩
 have hr0b : 1 ≤ r0 ∧ r0 ≤ 17 := by omega
 have hcb : 1 ≤ c ∧ c ≤ 17 := by omega
 refine aJ (args := [_, _, _]) Try.func3 rfl rfl ?_
 repeat' (first|refine cP rfl (cE (by omega) (by omega)) ?_|refine m6 rfl rfl (by omega) (by omega) ?_|refine ai rfl ?_|refine aa ?_|refine ao ?_|refine ah rfl ?_|refine ae ?_|refine bB rfl rfl ?_|refine bS rfl rfl ?_|refine fS rfl rfl (fun hc => ?_) (fun hc => ?_)|refine bi rfl rfl (by omega) (by omega) ?_|refine aA rfl ?_|refine aR rfl (fun hc => ?_) (fun hc => ?_)|refine aI ?_)
 ·obtain ⟨r, hrr⟩ : ∃ r : Nat, r = r0 + 8 := ⟨_, rfl⟩
  rw [show (1 + rows % 17 + 8 : Int) = (r : Int) by omega, show (1 + cols % 17 : Int) = (c : Int) by omega]
  have hbig : 8 < r ∨ 8 < c := by omega
  have hr17 : 1 ≤ r ∧ r ≤ 17 := by omega
  refine ax (dU (r := r) (c := c) (by omega) (by omega)) rfl ?_
  rintro v w1 ⟨g, gs, cp, rfl, hO0, hE1⟩
  refine ⟨fun _ _ => trivial, ?_⟩
  have hO1 := hO0.up (K' := 1) (by omega)
  clear hO0
  obtain ⟨hh, hb1, hc1, hEn1⟩ := hO1.get (k := 0) (by omega)
  repeat' (first|refine ai rfl ?_|refine aa ?_|refine ao ?_|refine ae ?_)
  refine aZ (late := [7]) (plan := [(0, none), (1, none), (2, none), (3, none), (4, none), (5, some true), (6, none), (7, some false)]) (fun w' => Ex w1 w') bt (by kernel_rfl) (Ex.refl w1).drew ?_
  have hEd := (Ex.refl w1).drew
  repeat' (first|refine cP rfl (cE (by omega) (by omega)) ?_|refine aB (j := 0) (a := some ⟨g, 0, none⟩) rfl rfl ⟨_, _, rfl⟩ (by omega) ?_|refine aS (j := 0) (a := some ⟨g, 0, none⟩) (n := r) (s := fun x => ⟨some ⟨gs x, 0, none⟩, c, cp x⟩) rfl (fun _ h => (hO1.ext h).top.sl) (by omega) rfl ?_|refine ai rfl ?_)
  refine ax (bZ (z := k) (by omega) (by omega) _) rfl ?_
  rintro v w2 ⟨hI2, hE2⟩
  refine ⟨fun _ h => h.trans hE2, ?_⟩
  obtain ⟨u, rfl⟩ := hI2.ih
  have hE12 := hEd.trans hE2
  repeat' (first|refine aU (j := 0) (a := some ⟨gs 0, 0, none⟩) rfl rfl ⟨_, _, rfl⟩ (by omega) ?_)
  refine bP (j := 0) (n := cp 0) (u := u) rfl rfl (hb1.ext hE12) (by omega) (fun w3 hc3 hb3 => ⟨fun h => (nomatch h), ?_⟩)
  have hO3 := (hO1.ext hE12).put (j := 0) (by omega) (hb1.ext hE12) (fun j hj => (hEn1 j hj).ext hE12) (Ent.of hI2 (bD (by omega) (Nat.le_refl _))) hc3 hb3
  have hE03 : Ex w w3 := (hE1.trans hE12).chg hc3 (hO1.row 0 (by omega)).low
  have hA : ∀ i j, i < r → j < c → setM (fun _ _ => (0 : Int)) 0 0 k i j = if i = 0 ∧ j = 0 then k else 0 := fun i j _ _ => rfl
  clear hO1 hb1 hEn1 hb3 hc3
  repeat' (first|refine ai rfl ?_|refine aa ?_|refine ao ?_|refine ah rfl ?_|refine ae ?_)
  by_cases hfit : r ≤ 16 ∧ c ≤ 16
  ·refine ax (cH hO3.mx.top (.inr ⟨⟨hr17.1, hfit.1, hcb.1, hfit.2, fun _ _ => rfl⟩, hbig⟩) (by omega)) rfl ?_
   rintro v w4 ⟨rfl, hE4⟩
   refine ⟨fun _ _ => trivial, ?_⟩
   repeat' (first|refine aH rfl rfl ?_|refine ai rfl ?_|refine aa ?_|refine ao ?_|refine ah rfl ?_|refine ae ?_)
   refine ax (dA (K := 5000) (KU := 10000000) (W := r * 5001 + c * 5001 + 4) (hO3.mx.ext hE4) ⟨by omega, hfit.1⟩ ⟨by omega, hfit.2⟩ (jM (K := 5000) (k := k) (by omega) (by omega) (by decide) (by omega) hA) (by decide) (by decide) (by decide) (by decide) rfl (by omega) (by decide)) rfl ?_
   rintro v w5 ⟨g5, D, n, rfl, hO5, _, ⟨_, hD5⟩, hE5⟩
   refine ⟨fun _ _ => trivial, ?_⟩
   obtain ⟨hh5, hb5, hEn5⟩ := hO5.ex
   have f0 := hEn5 0 (by omega)
   rw [hD5 0 0 (by omega) (by omega), show dgE (limE k) 0 0 = (k.natAbs : Int) from rfl] at f0
   repeat' (first|refine aH rfl rfl ?_|refine fd rfl rfl (show ((r : Nat) : Int) ≤ 16 by omega) ?_|refine fd rfl rfl (show ((c : Nat) : Int) ≤ 16 by omega) ?_|refine ai rfl ?_|refine aa ?_|refine ao ?_|refine ah rfl ?_|refine ae ?_|refine bB rfl rfl ?_)
   refine aZ (late := [33]) (plan := [(0, none), (1, none), (2, none), (3, none), (4, none), (5, none), (6, none), (7, none), (8, none), (9, none), (10, none), (11, none), (12, none), (13, none), (14, none), (15, none), (16, none), (17, none), (18, none), (19, none), (20, none), (21, none), (22, none), (23, none), (24, none), (25, none), (26, none), (27, none), (28, none), (29, none), (30, none), (31, none), (32, some true), (33, some false), (34, none), (35, none), (36, none), (37, none), (38, some true), (39, none), (40, none)]) (fun w' => Ex w5 w') bt (by kernel_rfl) (Ex.refl w5).drew ?_
   have hEe := (Ex.refl w5).drew
   have hmx : (if k < -k then -k else k) = (k.natAbs : Int) := by split <;> omega
   repeat' (first|refine eF rfl rfl ?_|refine fc rfl rfl ?_|refine jL rfl rfl ?_|refine cP rfl (cE (by omega) (by omega)) ?_|refine iY (m' := -k) rfl rfl (by omega) (by omega) ?_|refine mU rfl rfl ?_|refine aU (j := 0) (a := some ⟨g5, 0, none⟩) rfl rfl ⟨_, _, rfl⟩ (by omega) ?_|refine bp (j := 0) (n := min r c) (a := some ⟨g5, 0, none⟩) rfl (fun _ h => (hb5.ext h).sl) ⟨_, _, rfl⟩ (by omega) ?_|refine ai rfl ?_|refine bn rfl ?_|refine bB rfl rfl ?_)
   rw [hmx]
   refine ax (bZ (z := (k.natAbs : Int)) (by omega) (by omega) _) rfl ?_
   rintro v w6 ⟨hI6, hE6⟩
   refine ⟨fun _ h => h.trans hE6, ?_⟩
   have hE56 := hEe.trans hE6
   repeat' (first|refine bB rfl rfl ?_)
   refine ax (cT ((f0.ext hE56).c rfl) hI6) rfl ?_
   rintro v w7 ⟨rfl, hE7⟩
   refine ⟨fun _ h => h.trans hE7, ?_⟩
   rw [show decide ((k.natAbs : Int) = (k.natAbs : Int)) = true from decide_eq_true rfl]
   repeat' (first|refine ai rfl ?_|refine bB rfl rfl ?_)
   refine ax (cB _) rfl ?_
   rintro v w8 ⟨rfl, hE8⟩
   refine ⟨fun _ h => h.trans hE8, ?_⟩
   repeat' (first|refine ai rfl ?_|refine aa ?_|refine ae ?_|refine aT ?_)
   exact bF rfl (rt rfl) ⟨rfl, (((hE03.trans hE4).trans hE5).trans (hE56.trans hE7)).trans hE8⟩
  ·have hno : ¬ okS r (fun i => (⟨some ⟨gs i, 0, none⟩, c, cp i⟩ : SD)) := fun h => hfit ⟨h.2.1, h.2.2.2.1⟩
   refine ax (cH hO3.mx.top (.inl hno) (by omega)) rfl ?_
   rintro v w4 ⟨rfl, hE4⟩
   refine ⟨fun _ _ => trivial, ?_⟩
   repeat' (first|refine aH rfl rfl ?_|refine ai rfl ?_|refine aa ?_|refine ao ?_|refine ah rfl ?_|refine ae ?_)
   refine ax (gE (hO3.mx.ext hE4).top hno) rfl ?_
   rintro v w5 ⟨rfl, hE5⟩
   refine ⟨fun _ _ => trivial, ?_⟩
   rcases Nat.lt_or_ge 16 r with h16 | h16
   ·repeat' (first|refine aH rfl rfl ?_|refine iy rfl rfl (show (16 : Int) < ((r : Nat) : Int) by omega) ?_|refine ai rfl ?_|refine aa ?_|refine ao ?_|refine ah rfl ?_|refine ae ?_|refine bS rfl rfl ?_)
    refine aZ (late := [33]) (plan := [(0, none), (1, none), (2, none), (3, none), (4, none), (5, none), (6, none), (7, none), (8, none), (9, none), (10, none), (11, none), (12, none), (13, none), (14, none), (15, none), (16, none), (17, none), (18, none), (19, none), (20, none), (21, none), (22, none), (23, none), (24, none), (25, none), (26, none), (27, none), (28, none), (29, none), (30, none), (31, none), (32, some true), (33, some false), (34, none), (35, none), (36, none), (37, none), (38, some true), (39, none), (40, none)]) (fun w' => Ex w5 w') bt (by kernel_rfl) (Ex.refl w5).drew ?_
    have hEe := (Ex.refl w5).drew
    repeat' (first|refine eF rfl rfl ?_|refine fc rfl rfl ?_|refine ai rfl ?_|refine bn rfl ?_|refine bB rfl rfl ?_|refine bS rfl rfl ?_)
    refine ax (cB _) rfl ?_
    rintro v w8 ⟨rfl, hE8⟩
    refine ⟨fun _ h => h.trans hE8, ?_⟩
    repeat' (first|refine ai rfl ?_|refine aa ?_|refine ae ?_|refine aT ?_)
    exact bF rfl (rt rfl) ⟨rfl, (((hE03.trans hE4).trans hE5).trans hEe).trans hE8⟩
   ·have h16c : 16 < c := by omega
    repeat' (first|refine aH rfl rfl ?_|refine fd rfl rfl (show ((r : Nat) : Int) ≤ 16 by omega) ?_|refine iy rfl rfl (show (16 : Int) < ((c : Nat) : Int) by omega) ?_|refine ai rfl ?_|refine aa ?_|refine ao ?_|refine ah rfl ?_|refine ae ?_|refine bB rfl rfl ?_)
    refine aZ (late := [33]) (plan := [(0, none), (1, none), (2, none), (3, none), (4, none), (5, none), (6, none), (7, none), (8, none), (9, none), (10, none), (11, none), (12, none), (13, none), (14, none), (15, none), (16, none), (17, none), (18, none), (19, none), (20, none), (21, none), (22, none), (23, none), (24, none), (25, none), (26, none), (27, none), (28, none), (29, none), (30, none), (31, none), (32, some true), (33, some false), (34, none), (35, none), (36, none), (37, none), (38, some true), (39, none), (40, none)]) (fun w' => Ex w5 w') bt (by kernel_rfl) (Ex.refl w5).drew ?_
    have hEe := (Ex.refl w5).drew
    repeat' (first|refine eF rfl rfl ?_|refine fc rfl rfl ?_|refine ai rfl ?_|refine bn rfl ?_|refine bB rfl rfl ?_|refine bS rfl rfl ?_)
    refine ax (cB _) rfl ?_
    rintro v w8 ⟨rfl, hE8⟩
    refine ⟨fun _ h => h.trans hE8, ?_⟩
    repeat' (first|refine ai rfl ?_|refine aa ?_|refine ae ?_|refine aT ?_)
    exact bF rfl (rt rfl) ⟨rfl, (((hE03.trans hE4).trans hE5).trans hEe).trans hE8⟩
 ·obtain ⟨r, hrr⟩ : ∃ r : Nat, r = r0 := ⟨_, rfl⟩
  rw [show (1 + rows % 17 : Int) = (r : Int) by omega, show (1 + cols % 17 : Int) = (c : Int) by omega]
  have hbig : 8 < r ∨ 8 < c := by omega
  have hr17 : 1 ≤ r ∧ r ≤ 17 := by omega
  refine ax (dU (r := r) (c := c) (by omega) (by omega)) rfl ?_
  rintro v w1 ⟨g, gs, cp, rfl, hO0, hE1⟩
  refine ⟨fun _ _ => trivial, ?_⟩
  have hO1 := hO0.up (K' := 1) (by omega)
  clear hO0
  obtain ⟨hh, hb1, hc1, hEn1⟩ := hO1.get (k := 0) (by omega)
  repeat' (first|refine ai rfl ?_|refine aa ?_|refine ao ?_|refine ae ?_)
  refine aZ (late := [7]) (plan := [(0, none), (1, none), (2, none), (3, none), (4, none), (5, some true), (6, none), (7, some false)]) (fun w' => Ex w1 w') bt (by kernel_rfl) (Ex.refl w1).drew ?_
  have hEd := (Ex.refl w1).drew
  repeat' (first|refine cP rfl (cE (by omega) (by omega)) ?_|refine aB (j := 0) (a := some ⟨g, 0, none⟩) rfl rfl ⟨_, _, rfl⟩ (by omega) ?_|refine aS (j := 0) (a := some ⟨g, 0, none⟩) (n := r) (s := fun x => ⟨some ⟨gs x, 0, none⟩, c, cp x⟩) rfl (fun _ h => (hO1.ext h).top.sl) (by omega) rfl ?_|refine ai rfl ?_)
  refine ax (bZ (z := k) (by omega) (by omega) _) rfl ?_
  rintro v w2 ⟨hI2, hE2⟩
  refine ⟨fun _ h => h.trans hE2, ?_⟩
  obtain ⟨u, rfl⟩ := hI2.ih
  have hE12 := hEd.trans hE2
  repeat' (first|refine aU (j := 0) (a := some ⟨gs 0, 0, none⟩) rfl rfl ⟨_, _, rfl⟩ (by omega) ?_)
  refine bP (j := 0) (n := cp 0) (u := u) rfl rfl (hb1.ext hE12) (by omega) (fun w3 hc3 hb3 => ⟨fun h => (nomatch h), ?_⟩)
  have hO3 := (hO1.ext hE12).put (j := 0) (by omega) (hb1.ext hE12) (fun j hj => (hEn1 j hj).ext hE12) (Ent.of hI2 (bD (by omega) (Nat.le_refl _))) hc3 hb3
  have hE03 : Ex w w3 := (hE1.trans hE12).chg hc3 (hO1.row 0 (by omega)).low
  have hA : ∀ i j, i < r → j < c → setM (fun _ _ => (0 : Int)) 0 0 k i j = if i = 0 ∧ j = 0 then k else 0 := fun i j _ _ => rfl
  clear hO1 hb1 hEn1 hb3 hc3
  repeat' (first|refine ai rfl ?_|refine aa ?_|refine ao ?_|refine ah rfl ?_|refine ae ?_)
  by_cases hfit : r ≤ 16 ∧ c ≤ 16
  ·refine ax (cH hO3.mx.top (.inr ⟨⟨hr17.1, hfit.1, hcb.1, hfit.2, fun _ _ => rfl⟩, hbig⟩) (by omega)) rfl ?_
   rintro v w4 ⟨rfl, hE4⟩
   refine ⟨fun _ _ => trivial, ?_⟩
   repeat' (first|refine aH rfl rfl ?_|refine ai rfl ?_|refine aa ?_|refine ao ?_|refine ah rfl ?_|refine ae ?_)
   refine ax (dA (K := 5000) (KU := 10000000) (W := r * 5001 + c * 5001 + 4) (hO3.mx.ext hE4) ⟨by omega, hfit.1⟩ ⟨by omega, hfit.2⟩ (jM (K := 5000) (k := k) (by omega) (by omega) (by decide) (by omega) hA) (by decide) (by decide) (by decide) (by decide) rfl (by omega) (by decide)) rfl ?_
   rintro v w5 ⟨g5, D, n, rfl, hO5, _, ⟨_, hD5⟩, hE5⟩
   refine ⟨fun _ _ => trivial, ?_⟩
   obtain ⟨hh5, hb5, hEn5⟩ := hO5.ex
   have f0 := hEn5 0 (by omega)
   rw [hD5 0 0 (by omega) (by omega), show dgE (limE k) 0 0 = (k.natAbs : Int) from rfl] at f0
   repeat' (first|refine aH rfl rfl ?_|refine fd rfl rfl (show ((r : Nat) : Int) ≤ 16 by omega) ?_|refine fd rfl rfl (show ((c : Nat) : Int) ≤ 16 by omega) ?_|refine ai rfl ?_|refine aa ?_|refine ao ?_|refine ah rfl ?_|refine ae ?_|refine bB rfl rfl ?_)
   refine aZ (late := [33]) (plan := [(0, none), (1, none), (2, none), (3, none), (4, none), (5, none), (6, none), (7, none), (8, none), (9, none), (10, none), (11, none), (12, none), (13, none), (14, none), (15, none), (16, none), (17, none), (18, none), (19, none), (20, none), (21, none), (22, none), (23, none), (24, none), (25, none), (26, none), (27, none), (28, none), (29, none), (30, none), (31, none), (32, some true), (33, some false), (34, none), (35, none), (36, none), (37, none), (38, some true), (39, none), (40, none)]) (fun w' => Ex w5 w') bt (by kernel_rfl) (Ex.refl w5).drew ?_
   have hEe := (Ex.refl w5).drew
   have hmx : (if k < -k then -k else k) = (k.natAbs : Int) := by split <;> omega
   repeat' (first|refine eF rfl rfl ?_|refine fc rfl rfl ?_|refine jL rfl rfl ?_|refine cP rfl (cE (by omega) (by omega)) ?_|refine iY (m' := -k) rfl rfl (by omega) (by omega) ?_|refine mU rfl rfl ?_|refine aU (j := 0) (a := some ⟨g5, 0, none⟩) rfl rfl ⟨_, _, rfl⟩ (by omega) ?_|refine bp (j := 0) (n := min r c) (a := some ⟨g5, 0, none⟩) rfl (fun _ h => (hb5.ext h).sl) ⟨_, _, rfl⟩ (by omega) ?_|refine ai rfl ?_|refine bn rfl ?_|refine bB rfl rfl ?_)
   rw [hmx]
   refine ax (bZ (z := (k.natAbs : Int)) (by omega) (by omega) _) rfl ?_
   rintro v w6 ⟨hI6, hE6⟩
   refine ⟨fun _ h => h.trans hE6, ?_⟩
   have hE56 := hEe.trans hE6
   repeat' (first|refine bB rfl rfl ?_)
   refine ax (cT ((f0.ext hE56).c rfl) hI6) rfl ?_
   rintro v w7 ⟨rfl, hE7⟩
   refine ⟨fun _ h => h.trans hE7, ?_⟩
   rw [show decide ((k.natAbs : Int) = (k.natAbs : Int)) = true from decide_eq_true rfl]
   repeat' (first|refine ai rfl ?_|refine bB rfl rfl ?_)
   refine ax (cB _) rfl ?_
   rintro v w8 ⟨rfl, hE8⟩
   refine ⟨fun _ h => h.trans hE8, ?_⟩
   repeat' (first|refine ai rfl ?_|refine aa ?_|refine ae ?_|refine aT ?_)
   exact bF rfl (rt rfl) ⟨rfl, (((hE03.trans hE4).trans hE5).trans (hE56.trans hE7)).trans hE8⟩
  ·have hno : ¬ okS r (fun i => (⟨some ⟨gs i, 0, none⟩, c, cp i⟩ : SD)) := fun h => hfit ⟨h.2.1, h.2.2.2.1⟩
   refine ax (cH hO3.mx.top (.inl hno) (by omega)) rfl ?_
   rintro v w4 ⟨rfl, hE4⟩
   refine ⟨fun _ _ => trivial, ?_⟩
   repeat' (first|refine aH rfl rfl ?_|refine ai rfl ?_|refine aa ?_|refine ao ?_|refine ah rfl ?_|refine ae ?_)
   refine ax (gE (hO3.mx.ext hE4).top hno) rfl ?_
   rintro v w5 ⟨rfl, hE5⟩
   refine ⟨fun _ _ => trivial, ?_⟩
   rcases Nat.lt_or_ge 16 r with h16 | h16
   ·repeat' (first|refine aH rfl rfl ?_|refine iy rfl rfl (show (16 : Int) < ((r : Nat) : Int) by omega) ?_|refine ai rfl ?_|refine aa ?_|refine ao ?_|refine ah rfl ?_|refine ae ?_|refine bS rfl rfl ?_)
    refine aZ (late := [33]) (plan := [(0, none), (1, none), (2, none), (3, none), (4, none), (5, none), (6, none), (7, none), (8, none), (9, none), (10, none), (11, none), (12, none), (13, none), (14, none), (15, none), (16, none), (17, none), (18, none), (19, none), (20, none), (21, none), (22, none), (23, none), (24, none), (25, none), (26, none), (27, none), (28, none), (29, none), (30, none), (31, none), (32, some true), (33, some false), (34, none), (35, none), (36, none), (37, none), (38, some true), (39, none), (40, none)]) (fun w' => Ex w5 w') bt (by kernel_rfl) (Ex.refl w5).drew ?_
    have hEe := (Ex.refl w5).drew
    repeat' (first|refine eF rfl rfl ?_|refine fc rfl rfl ?_|refine ai rfl ?_|refine bn rfl ?_|refine bB rfl rfl ?_|refine bS rfl rfl ?_)
    refine ax (cB _) rfl ?_
    rintro v w8 ⟨rfl, hE8⟩
    refine ⟨fun _ h => h.trans hE8, ?_⟩
    repeat' (first|refine ai rfl ?_|refine aa ?_|refine ae ?_|refine aT ?_)
    exact bF rfl (rt rfl) ⟨rfl, (((hE03.trans hE4).trans hE5).trans hEe).trans hE8⟩
   ·have h16c : 16 < c := by omega
    repeat' (first|refine aH rfl rfl ?_|refine fd rfl rfl (show ((r : Nat) : Int) ≤ 16 by omega) ?_|refine iy rfl rfl (show (16 : Int) < ((c : Nat) : Int) by omega) ?_|refine ai rfl ?_|refine aa ?_|refine ao ?_|refine ah rfl ?_|refine ae ?_|refine bB rfl rfl ?_)
    refine aZ (late := [33]) (plan := [(0, none), (1, none), (2, none), (3, none), (4, none), (5, none), (6, none), (7, none), (8, none), (9, none), (10, none), (11, none), (12, none), (13, none), (14, none), (15, none), (16, none), (17, none), (18, none), (19, none), (20, none), (21, none), (22, none), (23, none), (24, none), (25, none), (26, none), (27, none), (28, none), (29, none), (30, none), (31, none), (32, some true), (33, some false), (34, none), (35, none), (36, none), (37, none), (38, some true), (39, none), (40, none)]) (fun w' => Ex w5 w') bt (by kernel_rfl) (Ex.refl w5).drew ?_
    have hEe := (Ex.refl w5).drew
    repeat' (first|refine eF rfl rfl ?_|refine fc rfl rfl ?_|refine ai rfl ?_|refine bn rfl ?_|refine bB rfl rfl ?_|refine bS rfl rfl ?_)
    refine ax (cB _) rfl ?_
    rintro v w8 ⟨rfl, hE8⟩
    refine ⟨fun _ h => h.trans hE8, ?_⟩
    repeat' (first|refine ai rfl ?_|refine aa ?_|refine ae ?_|refine aT ?_)
    exact bF rfl (rt rfl) ⟨rfl, (((hE03.trans hE4).trans hE5).trans hEe).trans hE8⟩
 ·obtain ⟨r, hrr⟩ : ∃ r : Nat, r = r0 := ⟨_, rfl⟩
  rw [show (1 + rows % 17 : Int) = (r : Int) by omega, show (1 + cols % 17 : Int) = (c : Int) by omega]
  have hbig : 8 < r ∨ 8 < c := by omega
  have hr17 : 1 ≤ r ∧ r ≤ 17 := by omega
  refine ax (dU (r := r) (c := c) (by omega) (by omega)) rfl ?_
  rintro v w1 ⟨g, gs, cp, rfl, hO0, hE1⟩
  refine ⟨fun _ _ => trivial, ?_⟩
  have hO1 := hO0.up (K' := 1) (by omega)
  clear hO0
  obtain ⟨hh, hb1, hc1, hEn1⟩ := hO1.get (k := 0) (by omega)
  repeat' (first|refine ai rfl ?_|refine aa ?_|refine ao ?_|refine ae ?_)
  refine aZ (late := [7]) (plan := [(0, none), (1, none), (2, none), (3, none), (4, none), (5, some true), (6, none), (7, some false)]) (fun w' => Ex w1 w') bt (by kernel_rfl) (Ex.refl w1).drew ?_
  have hEd := (Ex.refl w1).drew
  repeat' (first|refine cP rfl (cE (by omega) (by omega)) ?_|refine aB (j := 0) (a := some ⟨g, 0, none⟩) rfl rfl ⟨_, _, rfl⟩ (by omega) ?_|refine aS (j := 0) (a := some ⟨g, 0, none⟩) (n := r) (s := fun x => ⟨some ⟨gs x, 0, none⟩, c, cp x⟩) rfl (fun _ h => (hO1.ext h).top.sl) (by omega) rfl ?_|refine ai rfl ?_)
  refine ax (bZ (z := k) (by omega) (by omega) _) rfl ?_
  rintro v w2 ⟨hI2, hE2⟩
  refine ⟨fun _ h => h.trans hE2, ?_⟩
  obtain ⟨u, rfl⟩ := hI2.ih
  have hE12 := hEd.trans hE2
  repeat' (first|refine aU (j := 0) (a := some ⟨gs 0, 0, none⟩) rfl rfl ⟨_, _, rfl⟩ (by omega) ?_)
  refine bP (j := 0) (n := cp 0) (u := u) rfl rfl (hb1.ext hE12) (by omega) (fun w3 hc3 hb3 => ⟨fun h => (nomatch h), ?_⟩)
  have hO3 := (hO1.ext hE12).put (j := 0) (by omega) (hb1.ext hE12) (fun j hj => (hEn1 j hj).ext hE12) (Ent.of hI2 (bD (by omega) (Nat.le_refl _))) hc3 hb3
  have hE03 : Ex w w3 := (hE1.trans hE12).chg hc3 (hO1.row 0 (by omega)).low
  have hA : ∀ i j, i < r → j < c → setM (fun _ _ => (0 : Int)) 0 0 k i j = if i = 0 ∧ j = 0 then k else 0 := fun i j _ _ => rfl
  clear hO1 hb1 hEn1 hb3 hc3
  repeat' (first|refine ai rfl ?_|refine aa ?_|refine ao ?_|refine ah rfl ?_|refine ae ?_)
  by_cases hfit : r ≤ 16 ∧ c ≤ 16
  ·refine ax (cH hO3.mx.top (.inr ⟨⟨hr17.1, hfit.1, hcb.1, hfit.2, fun _ _ => rfl⟩, hbig⟩) (by omega)) rfl ?_
   rintro v w4 ⟨rfl, hE4⟩
   refine ⟨fun _ _ => trivial, ?_⟩
   repeat' (first|refine aH rfl rfl ?_|refine ai rfl ?_|refine aa ?_|refine ao ?_|refine ah rfl ?_|refine ae ?_)
   refine ax (dA (K := 5000) (KU := 10000000) (W := r * 5001 + c * 5001 + 4) (hO3.mx.ext hE4) ⟨by omega, hfit.1⟩ ⟨by omega, hfit.2⟩ (jM (K := 5000) (k := k) (by omega) (by omega) (by decide) (by omega) hA) (by decide) (by decide) (by decide) (by decide) rfl (by omega) (by decide)) rfl ?_
   rintro v w5 ⟨g5, D, n, rfl, hO5, _, ⟨_, hD5⟩, hE5⟩
   refine ⟨fun _ _ => trivial, ?_⟩
   obtain ⟨hh5, hb5, hEn5⟩ := hO5.ex
   have f0 := hEn5 0 (by omega)
   rw [hD5 0 0 (by omega) (by omega), show dgE (limE k) 0 0 = (k.natAbs : Int) from rfl] at f0
   repeat' (first|refine aH rfl rfl ?_|refine fd rfl rfl (show ((r : Nat) : Int) ≤ 16 by omega) ?_|refine fd rfl rfl (show ((c : Nat) : Int) ≤ 16 by omega) ?_|refine ai rfl ?_|refine aa ?_|refine ao ?_|refine ah rfl ?_|refine ae ?_|refine bB rfl rfl ?_)
   refine aZ (late := [33]) (plan := [(0, none), (1, none), (2, none), (3, none), (4, none), (5, none), (6, none), (7, none), (8, none), (9, none), (10, none), (11, none), (12, none), (13, none), (14, none), (15, none), (16, none), (17, none), (18, none), (19, none), (20, none), (21, none), (22, none), (23, none), (24, none), (25, none), (26, none), (27, none), (28, none), (29, none), (30, none), (31, none), (32, some true), (33, some false), (34, none), (35, none), (36, none), (37, none), (38, some true), (39, none), (40, none)]) (fun w' => Ex w5 w') bt (by kernel_rfl) (Ex.refl w5).drew ?_
   have hEe := (Ex.refl w5).drew
   have hmx : (if k < -k then -k else k) = (k.natAbs : Int) := by split <;> omega
   repeat' (first|refine eF rfl rfl ?_|refine fc rfl rfl ?_|refine jL rfl rfl ?_|refine cP rfl (cE (by omega) (by omega)) ?_|refine iY (m' := -k) rfl rfl (by omega) (by omega) ?_|refine mU rfl rfl ?_|refine aU (j := 0) (a := some ⟨g5, 0, none⟩) rfl rfl ⟨_, _, rfl⟩ (by omega) ?_|refine bp (j := 0) (n := min r c) (a := some ⟨g5, 0, none⟩) rfl (fun _ h => (hb5.ext h).sl) ⟨_, _, rfl⟩ (by omega) ?_|refine ai rfl ?_|refine bn rfl ?_|refine bB rfl rfl ?_)
   rw [hmx]
   refine ax (bZ (z := (k.natAbs : Int)) (by omega) (by omega) _) rfl ?_
   rintro v w6 ⟨hI6, hE6⟩
   refine ⟨fun _ h => h.trans hE6, ?_⟩
   have hE56 := hEe.trans hE6
   repeat' (first|refine bB rfl rfl ?_)
   refine ax (cT ((f0.ext hE56).c rfl) hI6) rfl ?_
   rintro v w7 ⟨rfl, hE7⟩
   refine ⟨fun _ h => h.trans hE7, ?_⟩
   rw [show decide ((k.natAbs : Int) = (k.natAbs : Int)) = true from decide_eq_true rfl]
   repeat' (first|refine ai rfl ?_|refine bB rfl rfl ?_)
   refine ax (cB _) rfl ?_
   rintro v w8 ⟨rfl, hE8⟩
   refine ⟨fun _ h => h.trans hE8, ?_⟩
   repeat' (first|refine ai rfl ?_|refine aa ?_|refine ae ?_|refine aT ?_)
   exact bF rfl (rt rfl) ⟨rfl, (((hE03.trans hE4).trans hE5).trans (hE56.trans hE7)).trans hE8⟩
  ·have hno : ¬ okS r (fun i => (⟨some ⟨gs i, 0, none⟩, c, cp i⟩ : SD)) := fun h => hfit ⟨h.2.1, h.2.2.2.1⟩
   refine ax (cH hO3.mx.top (.inl hno) (by omega)) rfl ?_
   rintro v w4 ⟨rfl, hE4⟩
   refine ⟨fun _ _ => trivial, ?_⟩
   repeat' (first|refine aH rfl rfl ?_|refine ai rfl ?_|refine aa ?_|refine ao ?_|refine ah rfl ?_|refine ae ?_)
   refine ax (gE (hO3.mx.ext hE4).top hno) rfl ?_
   rintro v w5 ⟨rfl, hE5⟩
   refine ⟨fun _ _ => trivial, ?_⟩
   rcases Nat.lt_or_ge 16 r with h16 | h16
   ·repeat' (first|refine aH rfl rfl ?_|refine iy rfl rfl (show (16 : Int) < ((r : Nat) : Int) by omega) ?_|refine ai rfl ?_|refine aa ?_|refine ao ?_|refine ah rfl ?_|refine ae ?_|refine bS rfl rfl ?_)
    refine aZ (late := [33]) (plan := [(0, none), (1, none), (2, none), (3, none), (4, none), (5, none), (6, none), (7, none), (8, none), (9, none), (10, none), (11, none), (12, none), (13, none), (14, none), (15, none), (16, none), (17, none), (18, none), (19, none), (20, none), (21, none), (22, none), (23, none), (24, none), (25, none), (26, none), (27, none), (28, none), (29, none), (30, none), (31, none), (32, some true), (33, some false), (34, none), (35, none), (36, none), (37, none), (38, some true), (39, none), (40, none)]) (fun w' => Ex w5 w') bt (by kernel_rfl) (Ex.refl w5).drew ?_
    have hEe := (Ex.refl w5).drew
    repeat' (first|refine eF rfl rfl ?_|refine fc rfl rfl ?_|refine ai rfl ?_|refine bn rfl ?_|refine bB rfl rfl ?_|refine bS rfl rfl ?_)
    refine ax (cB _) rfl ?_
    rintro v w8 ⟨rfl, hE8⟩
    refine ⟨fun _ h => h.trans hE8, ?_⟩
    repeat' (first|refine ai rfl ?_|refine aa ?_|refine ae ?_|refine aT ?_)
    exact bF rfl (rt rfl) ⟨rfl, (((hE03.trans hE4).trans hE5).trans hEe).trans hE8⟩
   ·have h16c : 16 < c := by omega
    repeat' (first|refine aH rfl rfl ?_|refine fd rfl rfl (show ((r : Nat) : Int) ≤ 16 by omega) ?_|refine iy rfl rfl (show (16 : Int) < ((c : Nat) : Int) by omega) ?_|refine ai rfl ?_|refine aa ?_|refine ao ?_|refine ah rfl ?_|refine ae ?_|refine bB rfl rfl ?_)
    refine aZ (late := [33]) (plan := [(0, none), (1, none), (2, none), (3, none), (4, none), (5, none), (6, none), (7, none), (8, none), (9, none), (10, none), (11, none), (12, none), (13, none), (14, none), (15, none), (16, none), (17, none), (18, none), (19, none), (20, none), (21, none), (22, none), (23, none), (24, none), (25, none), (26, none), (27, none), (28, none), (29, none), (30, none), (31, none), (32, some true), (33, some false), (34, none), (35, none), (36, none), (37, none), (38, some true), (39, none), (40, none)]) (fun w' => Ex w5 w') bt (by kernel_rfl) (Ex.refl w5).drew ?_
    have hEe := (Ex.refl w5).drew
    repeat' (first|refine eF rfl rfl ?_|refine fc rfl rfl ?_|refine ai rfl ?_|refine bn rfl ?_|refine bB rfl rfl ?_|refine bS rfl rfl ?_)
    refine ax (cB _) rfl ?_
    rintro v w8 ⟨rfl, hE8⟩
    refine ⟨fun _ h => h.trans hE8, ?_⟩
    repeat' (first|refine ai rfl ?_|refine aa ?_|refine ae ?_|refine aT ?_)
    exact bF rfl (rt rfl) ⟨rfl, (((hE03.trans hE4).trans hE5).trans hEe).trans hE8⟩
end Go.Proofs.Ytppipmkpmmdcjaa
