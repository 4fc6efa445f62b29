import Derived.Test.YtppipmkpmmdcjaaGreatRows
import Derived.ChangeCalls
import Derived.Deep.Matrix
import Derived.Deep.SlicePairs
import Derived.Lib.SmallJoins
import Derived.Test.YtppipmkpmmdcjaaGreatA20
namespace Go.Proofs.YtppipmkpmmdcjaaGreat
open Go.W Go.LM Go.LA
theorem pG {rows cols : Nat} {A A' H U : Mat} (h : CEq rows cols A H U) (e : ∀ i j, i < rows → j < cols → A' i j = A i j) : CEq rows cols A' H U :=
 ⟨h.1, fun r c hr hc => (h.2 r c hr hc).trans (cC (fun k hk => (e r k hr hk).symm) fun _ _ => rfl)⟩
theorem sL {r c k p2k : Nat} {A E U E2 U2 : Mat} {p p2 : Nat → Nat} (h1 : CEq r c A E U) (f1 : HF r c E k p) (h2 : CEq c r (fun i j => E j i) E2 U2) (f2 : HF c r E2 p2k p2) : ∀ D, DH r c A D → Eqm r c D (fun i j => E2 j i) := by
 rintro D ⟨H, U', k', p', H2, U2', k2', p2', c1, g1, c2, g2, rfl⟩ i j hi hj
 have e1 := (ir c1 g1 h1 f1).2
 exact (ir c2 g2 (pG h2 (fun i j hi hj => e1 j i hj hi)) f2).2 j i hj hi
theorem eS {p : Nat → Nat → Prop} (h00 : p 0 0) (h01 : p 0 1) (h10 : p 1 0) (h11 : p 1 1) : ∀ i j, i < 2 → j < 2 → p i j := fun i j hi hj => by
 rcases (show i = 0 ∨ i = 1 by omega) with rfl | rfl <;> rcases (show j = 0 ∨ j = 1 by omega) with rfl | rfl <;> assumption
theorem pH {L : List (List Int)} (h0 : 0 < litF L 0 0) (h1 : 0 < litF L 1 1) (hz : litF L 0 1 = 0) (hr : 0 ≤ litF L 1 0 ∧ litF L 1 0 < litF L 1 1) : HF 2 2 (litF L) 2 id := by
 refine ⟨Nat.le_refl _, fun c hc => hc, fun c c' h _ => h, fun c hc r hr' => ?_, fun c hc => ?_, fun c hc j hj => ?_, fun c hc hc' => by omega⟩
 ·obtain rfl : c = 1 := by simp only [id] at hr'; omega
  obtain rfl : r = 0 := by simp only [id] at hr'; omega
  exact hz
 ·exact fT (p := fun c => 0 < litF L (id c) c) h0 h1 c hc
 ·obtain rfl : c = 1 := by omega
  obtain rfl : j = 0 := by omega
  exact hr
def aw2E : Nat → Int := fun i => if i = 0 then 1 else 3
theorem sM {K : Nat} (hK : 1 ≤ K) : RunsA 2 2 K 0 (litF [[2, 1], [1, 2]]) (fun _ n D => n = 0 ∧ Eqm 2 2 D (dgE aw2E)) := by
 have h1 : CEq 2 2 (litF [[2, 1], [1, 2]]) (litF [[1, 0], [2, 3]]) (litF [[0, -1], [1, 2]]) := ⟨Or.inl (by decide), eS (p := fun i j => litF [[1, 0], [2, 3]] i j = mm 2 _ _ i j) (by decide) (by decide) (by decide) (by decide)⟩
 have h2 : CEq 2 2 (fun i j => litF [[1, 0], [2, 3]] j i) (litF [[1, 0], [0, 3]]) (litF [[1, -2], [0, 1]]) := ⟨Or.inl (by decide), eS (p := fun i j => litF [[1, 0], [0, 3]] i j = mm 2 _ _ i j) (by decide) (by decide) (by decide) (by decide)⟩
 refine mE (fun D hD => (sL h1 (pH (by decide) (by decide) (by decide) (by decide)) h2 (pH (by decide) (by decide) (by decide) (by decide)) D hD).trans (eS (p := fun i j => litF [[1, 0], [0, 3]] j i = dgE aw2E i j) (by decide) (by decide) (by decide) (by decide))) (fun i => by unfold aw2E; split <;> omega) (fun i j hij => ?_) (fun i => ?_)
 ·unfold aw2E
  by_cases h : i = 0
  ·rw [if_pos h]; exact Int.one_dvd _
  ·rw [if_neg h, if_neg (by omega)]; exact Int.dvd_refl _
 ·unfold aw2E; split <;> exact bM (by decide) hK
def aM0 : Mat := litF [[2, 0], [0, 3]]
def aM1 : Mat := litF [[2, 3], [0, 3]]
def aM2 : Mat := litF [[2, 1], [0, 3]]
def aM3 : Mat := litF [[1, 0], [0, -6]]
def aM4 : Mat := litF [[1, 0], [0, 6]]
def awI (t n : Nat) (D : Mat) : Prop := (t = 0 ∧ ((n = 2 ∧ Eqm 2 2 D aM0) ∨ (n = 1 ∧ Eqm 2 2 D aM1) ∨ (n = 0 ∧ Eqm 2 2 D aM2))) ∨ (t = 1 ∧ n = 0 ∧ Eqm 2 2 D aM3) ∨ (t = 2 ∧ n = 0 ∧ Eqm 2 2 D aM4)
structure Tab (t : Nat) (M : Mat) (p q : Nat) (B R C : Mat) : Prop where
 ht : t < 2
 hp : p < 2
 hq : q < 2
 un : ∀ p' q', p' < 2 → q' < 2 → LeastAt M 2 2 t p' q' → p' = p ∧ q' = q
 b : Eqm 2 2 (stB M t p q) B
 r : Eqm 2 2 (rdiv (stB M t p q) t) R
 c : Eqm 2 2 (stC M t p q) C
theorem Tab.at {t p q p' q' : Nat} {M B R C D : Mat} (h : Tab t M p q B R C) (e : Eqm 2 2 D M) (hL : LeastAt D 2 2 t p' q') : Eqm 2 2 (stB D t p' q') B ∧ Eqm 2 2 (rdiv (stB D t p' q') t) R ∧ Eqm 2 2 (stC D t p' q') C := by
 have hL2 := e.least hL
 obtain ⟨rfl, rfl⟩ := h.un p' q' hL2.2.1 hL2.2.2.2.1 hL2
 have hb := e.stB h.ht h.ht h.hp h.hq
 have hr := hb.rdiv h.ht h.ht
 exact ⟨hb.trans h.b, hr.trans h.r, (hr.cdiv h.ht h.ht).trans h.c⟩
theorem pI : Tab 0 aM0 0 0 aM0 aM0 aM0 := by
 refine ⟨by decide, by decide, by decide, ?_, eS (by decide) (by decide) (by decide) (by decide), eS (by decide) (by decide) (by decide) (by decide), eS (by decide) (by decide) (by decide) (by decide)⟩
 refine eS (fun _ => ⟨rfl, rfl⟩) (fun h => absurd h.2.2.2.2.1 (by decide)) (fun h => absurd h.2.2.2.2.1 (by decide)) (fun h => absurd (h.2.2.2.2.2.1 0 0 (by decide) (by decide) (by decide) (by decide) (by decide)) (by decide))
theorem pJ : Tab 0 aM1 0 0 aM1 aM1 aM2 := by
 refine ⟨by decide, by decide, by decide, ?_, eS (by decide) (by decide) (by decide) (by decide), eS (by decide) (by decide) (by decide) (by decide), eS (by decide) (by decide) (by decide) (by decide)⟩
 refine eS (fun _ => ⟨rfl, rfl⟩) (fun h => absurd (h.2.2.2.2.2.1 0 0 (by decide) (by decide) (by decide) (by decide) (by decide)) (by decide)) (fun h => absurd h.2.2.2.2.1 (by decide)) (fun h => absurd (h.2.2.2.2.2.1 0 0 (by decide) (by decide) (by decide) (by decide) (by decide)) (by decide))
theorem pK : Tab 0 aM2 0 1 (litF [[1, 2], [3, 0]]) (litF [[1, 2], [0, -6]]) aM3 := by
 refine ⟨by decide, by decide, by decide, ?_, eS (by decide) (by decide) (by decide) (by decide), eS (by decide) (by decide) (by decide) (by decide), eS (by decide) (by decide) (by decide) (by decide)⟩
 refine eS (fun h => absurd (h.2.2.2.2.2.1 0 1 (by decide) (by decide) (by decide) (by decide) (by decide)) (by decide)) (fun _ => ⟨rfl, rfl⟩) (fun h => absurd h.2.2.2.2.1 (by decide)) (fun h => absurd (h.2.2.2.2.2.1 0 1 (by decide) (by decide) (by decide) (by decide) (by decide)) (by decide))
theorem vg : Tab 1 aM3 1 1 aM3 aM3 aM3 := by
 refine ⟨by decide, by decide, by decide, ?_, eS (by decide) (by decide) (by decide) (by decide), eS (by decide) (by decide) (by decide) (by decide), eS (by decide) (by decide) (by decide) (by decide)⟩
 refine eS (fun h => absurd h.1 (by decide)) (fun h => absurd h.1 (by decide)) (fun h => absurd h.2.2.1 (by decide)) (fun _ => ⟨rfl, rfl⟩)
theorem qV : ∀ D, DH 2 2 aM0 D → Eqm 2 2 D aM0 := by
 have hf : HF 2 2 aM0 2 id := pH (by decide) (by decide) (by decide) (by decide)
 have h2 : CEq 2 2 (fun i j => aM0 j i) aM0 idM := ⟨kY 2, eS (p := fun i j => aM0 i j = mm 2 _ _ i j) (by decide) (by decide) (by decide) (by decide)⟩
 exact fun D hD => (sL (kZ 2 2 aM0) hf h2 hf D hD).trans (eS (p := fun i j => aM0 j i = aM0 i j) (by decide) (by decide) (by decide) (by decide))
theorem fG {K : Nat} {D M : Mat} (hK : 1 ≤ K) (h : Eqm 2 2 D M) (h00 : (M 0 0).natAbs < 4294967296) (h01 : (M 0 1).natAbs < 4294967296) (h10 : (M 1 0).natAbs < 4294967296) (h11 : (M 1 1).natAbs < 4294967296) : ∀ a b, a < 2 → b < 2 → Lb K (D a b) := fun a b ha hb => by
 rw [h a b ha hb]
 exact bM (eS (p := fun a b => (M a b).natAbs < 4294967296) h00 h01 h10 h11 a b ha hb) hK
theorem sN {K : Nat} (hK : 1 ≤ K) : Runs 2 2 0 K (awI 0) := by
 have split : ∀ n D, awI 0 n D → (n = 2 ∧ Eqm 2 2 D aM0) ∨ (n = 1 ∧ Eqm 2 2 D aM1) ∨ (n = 0 ∧ Eqm 2 2 D aM2) := fun n D h => by
  rcases h with ⟨_, h⟩ | ⟨h, _⟩ | ⟨h, _⟩
  ·exact h
  ·omega
  ·omega
 have one : ∀ x, 0 < x → x < 2 → x = 1 := fun x h1 h2 => by omega
 refine ⟨fun n D h => ?_, fun n D p q h hL => ?_, fun n D p q h hL hx => ?_, fun n D p q h hL _ => ?_, fun n D p q h hL _ hx => ?_, fun n D p q h hL _ hz i h1 h2 => ?_, fun n D p q h hL _ hz i h1 h2 hx => ?_⟩
 ·rcases split n D h with ⟨_, e⟩ | ⟨_, e⟩ | ⟨_, e⟩ <;> exact fG hK e (by decide) (by decide) (by decide) (by decide)
 ·rcases split n D h with ⟨_, e⟩ | ⟨_, e⟩ | ⟨_, e⟩
  ·exact fG hK (pI.at e hL).2.1 (by decide) (by decide) (by decide) (by decide)
  ·exact fG hK (pJ.at e hL).2.1 (by decide) (by decide) (by decide) (by decide)
  ·exact fG hK (pK.at e hL).2.1 (by decide) (by decide) (by decide) (by decide)
 ·obtain ⟨x, x1, x2, hx⟩ := hx
  obtain rfl := one x x1 x2
  rcases split n D h with ⟨_, e⟩ | ⟨_, e⟩ | ⟨_, e⟩
  ·obtain ⟨hb, _, _⟩ := pI.at e hL
   rw [hb 1 0 (by decide) (by decide), hb 0 0 (by decide) (by decide)] at hx; exact absurd hx (by decide)
  ·obtain ⟨hb, _, _⟩ := pJ.at e hL
   rw [hb 1 0 (by decide) (by decide), hb 0 0 (by decide) (by decide)] at hx; exact absurd hx (by decide)
  ·obtain ⟨hb, _, _⟩ := pK.at e hL
   rw [hb 1 0 (by decide) (by decide), hb 0 0 (by decide) (by decide)] at hx; exact absurd hx (by decide)
 ·rcases split n D h with ⟨_, e⟩ | ⟨_, e⟩ | ⟨_, e⟩
  ·exact fG hK (pI.at e hL).2.2 (by decide) (by decide) (by decide) (by decide)
  ·exact fG hK (pJ.at e hL).2.2 (by decide) (by decide) (by decide) (by decide)
  ·exact fG hK (pK.at e hL).2.2 (by decide) (by decide) (by decide) (by decide)
 ·obtain ⟨x, x1, x2, hx⟩ := hx
  obtain rfl := one x x1 x2
  rcases split n D h with ⟨_, e⟩ | ⟨rfl, e⟩ | ⟨_, e⟩
  ·obtain ⟨_, hr, _⟩ := pI.at e hL
   rw [hr 0 1 (by decide) (by decide), hr 0 0 (by decide) (by decide)] at hx; exact absurd hx (by decide)
  ·exact ⟨0, by decide, .inl ⟨rfl, .inr (.inr ⟨rfl, (pJ.at e hL).2.2⟩)⟩⟩
  ·obtain ⟨_, hr, _⟩ := pK.at e hL
   rw [hr 0 1 (by decide) (by decide), hr 0 0 (by decide) (by decide)] at hx; exact absurd hx (by decide)
 ·obtain rfl := one i h1 h2
  rcases split n D h with ⟨_, e⟩ | ⟨_, e⟩ | ⟨_, e⟩
  ·intro b hb
   have hc := (pI.at e hL).2.2
   rw [hc 0 b (by decide) hb, hc 1 b (by decide) hb]
   exact fT (p := fun b => Lb K (aM0 0 b + 1 * aM0 1 b)) (bM (by decide) hK) (bM (by decide) hK) b hb
  ·obtain ⟨_, hr, _⟩ := pJ.at e hL
   have := hz 1 (by decide) (by decide)
   rw [hr 0 1 (by decide) (by decide), hr 0 0 (by decide) (by decide)] at this; exact absurd this (by decide)
  ·intro b hb
   have hc := (pK.at e hL).2.2
   rw [hc 0 b (by decide) hb, hc 1 b (by decide) hb]
   exact fT (p := fun b => Lb K (aM3 0 b + 1 * aM3 1 b)) (bM (by decide) hK) (bM (by decide) hK) b hb
 ·obtain ⟨b, b1, b2, hx⟩ := hx
  obtain rfl := one i h1 h2
  obtain rfl := one b b1 b2
  rcases split n D h with ⟨rfl, e⟩ | ⟨_, e⟩ | ⟨_, e⟩
  ·have hc := (pI.at e hL).2.2
   exact ⟨1, by decide, .inl ⟨rfl, .inr (.inl ⟨rfl, (hc.radd (t := 0) (i := 1) (by decide) (by decide)).trans (eS (p := fun a b => radd aM0 0 1 a b = aM1 a b) (by decide) (by decide) (by decide) (by decide))⟩)⟩⟩
  ·obtain ⟨_, hr, _⟩ := pJ.at e hL
   have := hz 1 (by decide) (by decide)
   rw [hr 0 1 (by decide) (by decide), hr 0 0 (by decide) (by decide)] at this; exact absurd this (by decide)
  ·have hc := (pK.at e hL).2.2
   rw [hc 1 1 (by decide) (by decide), hc 0 0 (by decide) (by decide)] at hx; exact absurd hx (by decide)
theorem sO {K : Nat} (hK : 1 ≤ K) : Runs 2 2 1 K (awI 1) := by
 have split : ∀ n D, awI 1 n D → n = 0 ∧ Eqm 2 2 D aM3 := fun n D h => by
  rcases h with ⟨h, _⟩ | ⟨_, h⟩ | ⟨h, _⟩
  ·omega
  ·exact h
  ·omega
 refine ⟨fun n D h => fG hK (split n D h).2 (by decide) (by decide) (by decide) (by decide), fun n D p q h hL => fG hK (vg.at (split n D h).2 hL).2.1 (by decide) (by decide) (by decide) (by decide), fun n D p q h hL ⟨x, h1, h2, _⟩ => by omega,
  fun n D p q h hL _ => fG hK (vg.at (split n D h).2 hL).2.2 (by decide) (by decide) (by decide) (by decide), fun n D p q h hL _ ⟨x, h1, h2, _⟩ => by omega, fun n D p q h hL _ _ i h1 h2 => by omega, fun n D p q h hL _ _ i h1 h2 => by omega⟩
theorem sP {K : Nat} (hK : 1 ≤ K) : RunsA 2 2 K 2 aM0 awI := by
 refine ⟨fun D hD => ⟨2, Nat.le_refl _, .inl ⟨rfl, .inl ⟨rfl, qV D hD⟩⟩⟩, fun t h1 _ => ?_, fun t A' h1 _ hS => ?_⟩
 ·rcases (show t = 0 ∨ t = 1 by omega) with rfl | rfl
  ·exact sN hK
  ·exact sO hK
 ·rcases (show t = 0 ∨ t = 1 by omega) with rfl | rfl
  ·rcases hS with ⟨n, hI, hz⟩ | ⟨n, D, p, q, hI, hL, _, hz, hd, h⟩
   ·have h0 := hz 0 0 (by decide) (by decide) (by decide) (by decide)
    rcases hI with ⟨_, ⟨_, e⟩ | ⟨_, e⟩ | ⟨_, e⟩⟩ | ⟨h, _⟩ | ⟨h, _⟩
    ·rw [e 0 0 (by decide) (by decide)] at h0; exact absurd h0 (by decide)
    ·rw [e 0 0 (by decide) (by decide)] at h0; exact absurd h0 (by decide)
    ·rw [e 0 0 (by decide) (by decide)] at h0; exact absurd h0 (by decide)
    ·omega
    ·omega
   ·rcases hI with ⟨_, ⟨_, e⟩ | ⟨_, e⟩ | ⟨_, e⟩⟩ | ⟨h, _⟩ | ⟨h, _⟩
    ·have hc := (pI.at e hL).2.2
     have := hd 1 1 (by decide) (by decide) (by decide) (by decide)
     rw [hc 1 1 (by decide) (by decide), hc 0 0 (by decide) (by decide)] at this; exact absurd this (by decide)
    ·obtain ⟨_, hr, _⟩ := pJ.at e hL
     have := hz 1 (by decide) (by decide)
     rw [hr 0 1 (by decide) (by decide), hr 0 0 (by decide) (by decide)] at this; exact absurd this (by decide)
    ·have hc := (pK.at e hL).2.2
     rcases h with ⟨rfl, _⟩ | ⟨_, hn⟩
     ·exact ⟨0, by decide, .inr (.inl ⟨rfl, rfl, hc⟩)⟩
     ·rw [hc 0 0 (by decide) (by decide)] at hn; exact absurd hn (by decide)
    ·omega
    ·omega
  ·rcases hS with ⟨n, hI, hz⟩ | ⟨n, D, p, q, hI, hL, _, _, _, h⟩
   ·have h0 := hz 1 1 (by decide) (by decide) (by decide) (by decide)
    rcases hI with ⟨h, _⟩ | ⟨_, _, e⟩ | ⟨h, _⟩
    ·omega
    ·rw [e 1 1 (by decide) (by decide)] at h0; exact absurd h0 (by decide)
    ·omega
   ·rcases hI with ⟨h', _⟩ | ⟨_, _, e⟩ | ⟨h', _⟩
    ·omega
    ·have hc := (vg.at e hL).2.2
     rcases h with ⟨_, hn⟩ | ⟨rfl, _⟩
     ·rw [hc 1 1 (by decide) (by decide)] at hn; exact absurd hn (by decide)
     ·exact ⟨0, by decide, .inr (.inr ⟨rfl, rfl, (hc.rneg (t := 1) (by decide)).trans (eS (p := fun a b => rneg aM3 1 a b = aM4 a b) (by decide) (by decide) (by decide) (by decide))⟩)⟩
    ·omega
end Go.Proofs.YtppipmkpmmdcjaaGreat
namespace Go.W
def intC (n : Nat) (f : Nat → Int) : List Value := (List.range n).map fun i => Value.int .i64 (f i)
theorem fU (n : Nat) (f : Nat → Int) : (intC n f).length = n := by simp [intC]
theorem ji {n i : Nat} {f : Nat → Int} (h : i < n) : (intC n f)[i]? = some (.int .i64 (f i)) := by simp [intC, h]
theorem lz {n : Nat} {f g : Nat → Int} (h : ∀ i, i < n → f i = g i) : intC n f = intC n g := List.map_congr_left fun i hi => by rw [h i (List.mem_range.1 hi)]
theorem sR {n i : Nat} {f : Nat → Int} {x : Int} : (intC n f).set i (.int .i64 x) = intC n (setF f i x) := by
 refine List.ext_getElem? fun j => ?_
 by_cases hj : j < n
 ·by_cases h : j = i
  ·subst h; rw [List.getElem?_set_self (by rw [fU]; exact hj), ji hj, aJ]
  ·rw [List.getElem?_set_ne (fun e => h e.symm), ji hj, ji hj, aO _ _ h]
 ·rw [List.getElem?_eq_none (by rw [List.length_set, fU]; omega), List.getElem?_eq_none (by rw [fU]; omega)]
structure MI (w : World) (a : Option Addr) (r c : Nat) (s : Nat → SD) (F : Nat → Nat → Int) : Prop where
 top : Sl w a (topC r s)
 row : ∀ i, i < r → (s i).len = c ∧ Sl w (s i).a (intC c (F i))
 fit : ∀ i j, i < r → j < c → -9223372036854775808 ≤ F i j ∧ F i j ≤ 9223372036854775807
theorem MI.ext {w w' : World} {a : Option Addr} {r c : Nat} {s : Nat → SD} {F : Nat → Nat → Int} (h : MI w a r c s F) (e : Ex w w') : MI w' a r c s F := ⟨h.top.ext e, fun i hi => ⟨(h.row i hi).1, (h.row i hi).2.ext e⟩, h.fit⟩
section
variable {P : Program} {S : World → Prop} {ops : List Oper} {K : Env → World → Prop} {rest : List (Oper × Option Bool)} {ρ : Env} {w : World} {b : Option Bool} {d : Nat} {T : TypeId} {pos : String} {af : Array Edge}
theorem oJ {x : Operand} {T1 : TypeId} {a : Option Addr} {j n : Nat} {f : Nat → Int} [Scal P T1] (hx : ev ρ x = .pointer (some (elt a j))) (hs : Rd b S w fun w' => Sl w' a (intC n f)) (hj : j < n)
  (h : RR P S ops K rest (upd ρ d (.int .i64 (f j))) w) : RR P S ops K ((⟨some d, .load T1 x, T, pos, af, none⟩, b) :: rest) ρ w :=
 gH hx (hs.imp fun w' hs => by
  have := hs.get j (by rw [fU]; exact hj)
  rw [this, List.getD_eq_getElem?_getD, ji hj]; rfl) h
end
end Go.W
namespace Go.Proofs.YtppipmkpmmdcjaaGreat
open Go.W Go.LM Go.LA
set_option maxHeartbeats 4000000 in
theorem jF {r c cap : Nat} {w : World} {a : Option Addr} {s : Nat → SD} {F : Mat} (hM : MI w a r c s F) (hr : 1 ≤ r ∧ r ≤ 16) (hc : 1 ≤ c ∧ c ≤ 16) :
  CallsR Tryz.prog 38 #[.slice a r cap] w fun v w' => ∃ u, v = .tuple #[u, .bool true] ∧ RetMO 2 w r c F u w' := by
 have hpt := hM.top.plain (by rw [b9]; omega)
 have hlen : ∀ i, i < r → (s i).len = c := fun i hi => (hM.row i hi).1
 have h0 := hlen 0 (by omega)
 have lF : ∀ i j, i < r → j < c → Lb 2 (F i j) := fun i j hi hj => by have := hM.fit i j hi hj; unfold Lb; omega
 refine aH (args := [_]) Tryz.func38 rfl rfl ?_
 repeat' (first|refine bA rfl rfl (by omega) ?_|refine rq rfl rfl (by omega) ?_|refine ai rfl ?_|refine aa ?_|refine aj ?_|refine ah rfl ?_|refine ae ?_|refine bh rfl ?_|refine bR rfl rfl ?_|refine ay rfl ?_|refine aA ?_|refine aF ?_)
 refine aY (ι := Nat) [2, 3, 5, 19, 20, 21, 22, 23, 24, 25, 26, 27, 28, 29, 30, 31, 32, 33, 34, 35, 36, 37, 38, 39, 40] (fun i => [(19, .int .i64 (i : Int))]) (fun i w' => i ≤ r ∧ w' = w) (fun i => r - i) 0 ⟨rfl, trivial⟩ ⟨by omega, rfl⟩ ?_
 rintro i ξ w2 ⟨hi, rfl⟩
 show CW _ _ _ _ (over [(19, .int .i64 (i : Int))] _) w2
 rcases Nat.lt_or_ge i r with hir | hir
 ·have hli := hlen i hir
  repeat' (first|refine bC rfl rfl (show ((i : Nat) : Int) < ((r : Nat) : Int) by omega) ?_|refine bA rfl rfl (by omega) ?_|refine rq rfl rfl (by omega) ?_|refine fd rfl rfl (by omega) ?_|refine aC (j := i) rfl rfl hpt (by omega) ?_|refine ew (j := i) rfl hM.top (by omega) ?_|refine aC (j := 0) rfl rfl hpt (by omega) ?_|refine ew (j := 0) rfl hM.top (by omega) ?_|refine ai rfl ?_|refine aa ?_|refine aj ?_|refine ah rfl ?_|refine ae ?_|refine bh rfl ?_|refine bR rfl rfl ?_|refine aZ rfl rfl (by omega) (by omega) ?_|refine aD rfl ?_|refine ay rfl ?_|refine aA ?_|refine aK ?_|refine aF ?_)
  exact ⟨⟨i + 1, ⟨hir, rfl⟩, by omega, rfl, trivial⟩, (by (repeat (first|exact aE _ _ _|refine aw rfl ?_|refine au rfl ?_|refine ak rfl ?_|refine ao rfl ?_)))⟩
 ·have eir : r = i := by omega
  subst eir
  repeat' (first|refine bA rfl rfl (by omega) ?_|refine aC (j := 0) rfl rfl hpt (by omega) ?_|refine ew (j := 0) rfl hM.top (by omega) ?_|refine ai rfl ?_|refine aa ?_|refine aj ?_|refine ah rfl ?_|refine ae ?_|refine bh rfl ?_|refine ay rfl ?_|refine aV ?_|refine aL ?_|refine aW ?_)
  rw [h0]
  refine av (nl (r := r) (c := c) (by omega) (by omega)) rfl ?_
  rintro v w3 ⟨g, gs, cp, rfl, hO3, hE3⟩
  refine ⟨fun _ _ => trivial, ?_⟩
  repeat' (first|refine ai rfl ?_|refine aa ?_|refine aj ?_|refine ah rfl ?_|refine ae ?_|refine bh rfl ?_|refine aA ?_)
  refine aY (ι := Nat) [7, 8, 50, 51, 52, 53, 54, 55, 56, 57, 58, 59, 60, 61, 62, 63, 64, 65, 66, 67, 68, 69, 70, 71, 72, 73, 74, 75, 76] (fun i => [(50, .int .i64 (i : Int))])
   (fun i w' => i ≤ r ∧ Ex w2 w' ∧ MO true 2 w' w2.heap.size g r c gs cp (fun x y => if x < i then F x y else 0)) (fun i => r - i)
   0 ⟨rfl, trivial⟩ ⟨by omega, hE3, (hO3.up (by omega)).congr fun x y _ _ => if_neg (by omega)⟩ ?_
  clear hO3 hE3
  rintro i ξ2 w4 ⟨hi, hE4, hO4⟩
  show CW _ _ _ _ (over [(50, .int .i64 (i : Int))] _) w4
  rcases Nat.lt_or_ge i r with hir | hir
  ·have hli := hlen i hir
   repeat' (first|refine bC rfl rfl (show ((i : Nat) : Int) < ((r : Nat) : Int) by omega) ?_|refine aC (j := i) (a := a) rfl rfl hpt (by omega) ?_|refine ew (j := i) (a := a) (n := r) (s := s) rfl (hM.ext hE4).top (by omega) ?_|refine ai rfl ?_|refine aa ?_|refine aj ?_|refine ah rfl ?_|refine ae ?_|refine bh rfl ?_|refine aD rfl ?_|refine aA ?_|refine aF ?_)
   refine aY (ι := Nat) [8, 58, 59, 60, 61, 62, 63, 64, 65, 66, 67, 68, 69, 70, 71, 72, 73, 74, 75] (fun j => [(58, .int .i64 (j : Int))])
    (fun j w' => j ≤ c ∧ Ex w2 w' ∧ MO true 2 w' w2.heap.size g r c gs cp (fun x y => if x < i ∨ (x = i ∧ y < j) then F x y else 0)) (fun j => c - j)
    0 ⟨rfl, trivial⟩ ⟨by omega, hE4, hO4.congr fun x y _ _ => by
     by_cases h : x < i
     ·rw [if_pos h, if_pos (.inl h)]
     ·rw [if_neg h, if_neg (by omega)]⟩ ?_
   clear hO4 hE4
   rintro j ξ3 w5 ⟨hj, hE5, hO5⟩
   show CW _ _ _ _ (over [(58, .int .i64 (j : Int))] _) w5
   rcases Nat.lt_or_ge j c with hjc | hjc
   ·obtain ⟨hhr, hbr, hcr, hEr⟩ := hO5.get hir
    have hrow := (hM.row i hir).2
    have hprow := hrow.plain (by rw [fU]; omega)
    have hfit := hM.fit i j hir hjc
    repeat' (first|refine bC rfl rfl (by omega) ?_|refine aa ?_|refine aj ?_|refine ah rfl ?_|refine ae ?_|refine aD rfl ?_|refine aF ?_)
    refine aA ?_
    repeat' (first|refine ai rfl ?_|refine aa ?_|refine aj ?_|refine ah rfl ?_|refine ae ?_)
    refine bi (late := [14]) (plan := [(0, none), (1, none), (2, none), (3, none), (4, none), (5, none), (6, none), (7, none), (8, none), (9, none), (10, none), (11, none), (12, some true), (13, none), (14, some false)]) (fun w' => Ex w5 w') bB (by kernel_rfl) (Ex.refl w5).drew ?_
    have hEd := (Ex.refl w5).drew
    repeat' (first|refine aC (j := i) (a := some ⟨g, 0, none⟩) rfl rfl ⟨_, _, rfl⟩ (by omega) ?_|refine aU (j := i) (a := some ⟨g, 0, none⟩) (n := r) (s := fun k => ⟨some ⟨gs k, 0, none⟩, c, cp k⟩) rfl (fun _ h => (hO5.ext h).top.sl) (by omega) rfl ?_|refine aC (j := i) (a := a) rfl rfl hpt (by omega) ?_|refine ew (j := i) (a := a) (n := r) (s := s) rfl (fun _ h => (hM.ext (hE5.trans h)).top) (by omega) ?_|refine aC (j := j) (a := (s i).a) rfl rfl hprow (by omega) ?_|refine oJ (j := j) (a := (s i).a) rfl (fun _ h => hrow.ext (hE5.trans h)) (by omega) ?_|refine ai rfl ?_)
    refine av (cQ hfit.1 hfit.2 _) rfl ?_
    rintro v w6 ⟨hI6, hE6⟩
    refine ⟨fun _ h => h.trans hE6, ?_⟩
    obtain ⟨u, rfl⟩ := hI6.ih
    have hE56 := hEd.trans hE6
    repeat' (first|refine aT (j := j) (a := some ⟨gs i, 0, none⟩) rfl rfl ⟨_, _, rfl⟩ (by omega) ?_)
    refine ch (j := j) (n := cp i) (u := u) rfl rfl (hbr.ext hE56) (by omega) (fun w7 hc7 hb7 => ⟨fun h => (nomatch h), ?_⟩)
    repeat' (first|refine ai rfl ?_|refine aa ?_|refine ah rfl ?_|refine ae ?_|refine aZ rfl rfl (by omega) (by omega) ?_|refine aK ?_)
    refine ⟨⟨j + 1, ⟨hjc, (hE5.trans hE56).chg hc7 (hO5.row i hir).low, ((hO5.ext hE56).put hir (hbr.ext hE56) (fun k hk => (hEr k hk).ext hE56) (Ent.of hI6 (lF i j hir hjc)) hc7 hb7).congr fun x y _ _ => ?_⟩, by omega, rfl, trivial⟩, (by (repeat (first|exact aE _ _ _|refine aw rfl ?_|refine au rfl ?_|refine ak rfl ?_|refine ao rfl ?_)))⟩
    unfold setM
    by_cases h : x = i ∧ y = j
    ·rw [if_pos h, if_pos (by omega), h.1, h.2]
    ·rw [if_neg h]
     show _ = if x < i ∨ (x = i ∧ y < j) then F x y else 0
     by_cases h' : x < i ∨ (x = i ∧ y < j)
     ·rw [if_pos h', if_pos (by omega)]
     ·rw [if_neg h', if_neg (by omega)]
   ·have ejc : c = j := by omega
    subst ejc
    repeat' (first|refine bA rfl rfl (by omega) ?_|refine ai rfl ?_|refine aa ?_|refine aj ?_|refine ah rfl ?_|refine ae ?_|refine aZ rfl rfl (by omega) (by omega) ?_|refine ay rfl ?_|refine aV ?_|refine aL ?_|refine aW ?_|refine aK ?_)
    refine ⟨⟨i + 1, ⟨hir, hE5, hO5.congr fun x y _ hy => ?_⟩, by omega, rfl, trivial⟩, (by (repeat (first|exact aE _ _ _|refine aw rfl ?_|refine au rfl ?_|refine ak rfl ?_|refine ao rfl ?_)))⟩
    by_cases h : x < i + 1
    ·rw [if_pos h, if_pos (by omega)]
    ·rw [if_neg h, if_neg (by omega)]
  ·have eir : r = i := by omega
   subst eir
   repeat' (first|refine bA rfl rfl (by omega) ?_|refine ai rfl ?_|refine aa ?_|refine aj ?_|refine ah rfl ?_|refine ae ?_|refine ay rfl ?_|refine aV ?_|refine aL ?_|refine aW ?_|refine aR ?_)
   exact eN rfl (rt rfl) (rt rfl) ⟨_, rfl, g, gs, cp, rfl, hO4.congr fun x y hx _ => by rw [if_pos hx], hE4⟩
theorem iM {r c cap : Nat} {w : World} {a : Option Addr} {s : Nat → SD} {F : Mat} (hM : MI w a r c s F) (hr : 1 ≤ r ∧ r ≤ 16) (hc : 1 ≤ c ∧ c ≤ 16) :
  CallsR Tryz.prog 20 #[.slice a r cap] w (RetMO 2 w r c F) := by
 refine aH (args := [_]) Tryz.func20 rfl rfl ?_
 repeat' (first|refine ai rfl ?_|refine aa ?_|refine aj ?_|refine ah rfl ?_|refine ae ?_)
 refine av (jF hM hr hc) rfl ?_
 rintro v w1 ⟨_, rfl, g, gs, cp, rfl, hO, hE1⟩
 refine ⟨fun _ _ => trivial, ?_⟩
 repeat' (first|refine aS rfl rfl ?_|refine ai rfl ?_|refine aa ?_|refine aj ?_|refine ah rfl ?_|refine ae ?_|refine aR ?_)
 exact bK rfl (rt rfl) ⟨g, gs, cp, rfl, hO, hE1⟩
end Go.Proofs.YtppipmkpmmdcjaaGreat
namespace Go.Proofs.YtppipmkpmmdcjaaGreat
open Go.W Go.LM Go.LA
def litS (g0 g1 c : Nat) : Nat → SD := fun i => ⟨some ⟨if i = 0 then g0 else g1, 0, none⟩, c, c⟩
theorem oK {L : List (List Int)} (h : ∀ l ∈ L, ∀ x ∈ l, -100 ≤ x ∧ x ≤ 100) (i j : Nat) : -9223372036854775808 ≤ litF L i j ∧ litF L i j ≤ 9223372036854775807 := by
 unfold litF
 by_cases hi : i < L.length
 ·have h1 : L.getD i [] ∈ L := by rw [List.getD_eq_getElem?_getD, List.getElem?_eq_getElem hi]; exact List.getElem_mem _
  by_cases hj : j < (L.getD i []).length
  ·have h2 := h _ h1 ((L.getD i []).getD j 0) (by rw [List.getD_eq_getElem?_getD (l := L.getD i []), List.getElem?_eq_getElem hj]; exact List.getElem_mem _)
   omega
  ·rw [List.getD_eq_getElem?_getD (l := L.getD i []), List.getElem?_eq_none (by omega)]; simp
 ·rw [List.getD_eq_getElem?_getD (l := L), List.getElem?_eq_none (by omega)]; simp
theorem sS {w : World} {t g0 g1 c T0 T1 Tt : Nat} {F : Mat} (h0 : Blk w g0 T0 (intC c (F 0))) (h1 : Blk w g1 T1 (intC c (F 1))) (ht : Blk w t Tt [.slice (some ⟨g0, 0, none⟩) c c, .slice (some ⟨g1, 0, none⟩) c c])
  (hf : ∀ i j, -9223372036854775808 ≤ F i j ∧ F i j ≤ 9223372036854775807) : MI w (some ⟨t, 0, none⟩) 2 c (litS g0 g1 c) F :=
 ⟨ht.sl, fun i hi => ⟨rfl, by
  match i, hi with
  | 0, _ => exact h0.sl
  | 1, _ => exact h1.sl⟩, fun i j _ _ => hf i j⟩
end Go.Proofs.YtppipmkpmmdcjaaGreat
namespace Go.Proofs.YtppipmkpmmdcjaaGreat
open Go.W Go.LM Go.LA
set_option maxHeartbeats 4000000 in
theorem jV (w : World) : CallsR Tryz.prog 8 #[] w fun v w' => v = .bool true ∧ Ex w w' := by
 refine aH (args := []) Tryz.func8 rfl rfl ?_
 repeat' (first|refine ai rfl ?_|refine aa ?_|refine aj ?_|refine ah rfl ?_|refine ae ?_)
 refine fL (cs := (intC 2 (litF [[2, 0], [0, 3]] 0)).toArray) rfl (by kernel_rfl) (fun a1 w1 n1 => ⟨fun _ _ => trivial, ?_⟩)
 refine fL (cs := (intC 2 (litF [[2, 0], [0, 3]] 1)).toArray) rfl (by kernel_rfl) (fun b1 w2 n2 => ⟨fun _ _ => trivial, ?_⟩)
 refine fL (cs := #[.slice (some ⟨a1, 0, none⟩) 2 2, .slice (some ⟨b1, 0, none⟩) 2 2]) rfl (by kernel_rfl) (fun c1 w3 n3 => ⟨fun _ _ => trivial, ?_⟩)
 have hI3 : MI w3 (some ⟨c1, 0, none⟩) 2 2 (litS a1 b1 2) (litF [[2, 0], [0, 3]]) := sS ((n1.blk.ext n2.ex).ext n3.ex) (n2.blk.ext n3.ex) n3.blk (oK (by decide))
 have hE03 : Ex w w3 := (n1.ex.trans n2.ex).trans n3.ex
 refine av (iM hI3 (by omega) (by omega)) rfl ?_
 rintro v w4 ⟨g4, gs4, cp4, rfl, hO4, hE4⟩
 refine ⟨fun _ _ => trivial, ?_⟩
 refine av (gg (K := 6000) (KU := 2000000) (W := 24008) hO4.mx (by omega) (by omega) (sP (by decide)) (by decide) (by decide) (by decide) (by decide) (by decide) (by decide) (by decide)) rfl ?_
 rintro v w5 ⟨g5, D, n, rfl, hO5, hn, hI5, hE5⟩
 refine ⟨fun _ _ => trivial, ?_⟩
 rw [show min 2 2 = 2 from rfl] at hO5 hI5 ⊢
 obtain ⟨hh5, hb5, hEn5⟩ := hO5.ex
 have hD5 : Eqm 2 2 D aM4 := by
  rcases hI5 with ⟨h, _⟩ | ⟨h, _⟩ | ⟨_, _, h⟩
  ·omega
  ·omega
  ·exact h
 have hE05 := (hE03.trans hE4).trans hE5
 repeat' (first|refine aS rfl rfl ?_|refine ai rfl ?_|refine aa ?_|refine aj ?_|refine ah rfl ?_|refine ae ?_)
 refine fL (cs := (intC 2 (litF [[2, 1], [1, 2]] 0)).toArray) rfl (by kernel_rfl) (fun a6 w6 n6 => ⟨fun _ _ => trivial, ?_⟩)
 refine fL (cs := (intC 2 (litF [[2, 1], [1, 2]] 1)).toArray) rfl (by kernel_rfl) (fun b6 w7 n7 => ⟨fun _ _ => trivial, ?_⟩)
 refine fL (cs := #[.slice (some ⟨a6, 0, none⟩) 2 2, .slice (some ⟨b6, 0, none⟩) 2 2]) rfl (by kernel_rfl) (fun c6 w8 n8 => ⟨fun _ _ => trivial, ?_⟩)
 have hI8 : MI w8 (some ⟨c6, 0, none⟩) 2 2 (litS a6 b6 2) (litF [[2, 1], [1, 2]]) := sS ((n6.blk.ext n7.ex).ext n8.ex) (n7.blk.ext n8.ex) n8.blk (oK (by decide))
 refine av (iM hI8 (by omega) (by omega)) rfl ?_
 rintro v w9 ⟨g9, gs9, cp9, rfl, hO9, hE9⟩
 refine ⟨fun _ _ => trivial, ?_⟩
 refine av (lJ (K := 6000) (KU := 2000000) (W := 24008) hO9.mx (by omega) (by decide) (sM (by decide)) (by decide) (by decide) (by decide) (by decide) (by decide) (by decide) (by decide) (by decide)) rfl ?_
 rintro v w10 ⟨u, D2, m, rfl, hu, _, ⟨_, hD2⟩, hE10⟩
 refine ⟨fun _ _ => trivial, ?_⟩
 obtain ⟨u, rfl⟩ := hu.ih
 repeat' (first|refine aS rfl rfl ?_|refine ai rfl ?_)
 refine aB (fun g11 w11 hn11 => ⟨fun _ _ => trivial, ?_⟩)
 have hb11 : Blk w11 g11 33 (intL false none 0 0) := hn11.blk
 skip
 refine ax (n := 2) (vs := u.cells) rfl rfl rfl rfl hb11 rfl (fun w12 hc12 hb12 => ⟨fun _ _ => trivial, ?_⟩)
 have hE1012 : Ex w10 w12 := hn11.ex.chg hc12 hn11.lo
 have hE512 := ((((n6.ex.trans n7.ex).trans n8.ex).trans hE9).trans hE10).trans hE1012
 have hu12 := hu.ext hE1012
 have f0 := (hEn5 0 (by omega)).ext hE512
 have f1 := (hEn5 1 (by omega)).ext hE512
 rw [hD5 0 0 (by decide) (by decide), show aM4 0 0 = 1 from rfl] at f0
 rw [hD5 1 1 (by decide) (by decide), show aM4 1 1 = 6 from rfl] at f1
 rw [hD2 1 1 (by decide) (by decide), show dgE aw2E 1 1 = 3 from rfl] at hu12
 repeat' (first|refine ai rfl ?_|refine aa ?_|refine aj ?_|refine ae ?_)
 refine bi (late := []) (plan := [(0, none), (1, none), (2, none), (3, none), (4, none), (5, none), (6, none), (7, none), (8, none), (9, none), (10, none), (11, none), (12, none), (13, some true), (14, some true), (15, none), (16, none), (17, none), (18, none), (19, none), (20, some true), (21, some true), (22, none), (23, none), (24, none), (25, some true), (26, some true), (27, none), (28, none)]) (fun w' => Ex w12 w') bB (by kernel_rfl) (Ex.refl w12).drew ?_
 have hEd := (Ex.refl w12).drew
 repeat' (first|refine uy rfl rfl ?_|refine aT (j := 0) (a := some ⟨g5, 0, none⟩) rfl rfl ⟨_, _, rfl⟩ (by omega) ?_|refine bu (j := 0) (n := 2) (a := some ⟨g5, 0, none⟩) rfl (fun _ h => (hb5.ext (hE512.trans h)).sl) ⟨_, _, rfl⟩ (by omega) ?_|refine ai rfl ?_|refine bh rfl ?_|refine bR rfl rfl ?_)
 refine av (cQ (z := 1) (by omega) (by omega) _) rfl ?_
 rintro v w13 ⟨hI13, hE13⟩
 refine ⟨fun _ h => h.trans hE13, ?_⟩
 have hE1213 := hEd.trans hE13
 repeat' (first|refine bR rfl rfl ?_)
 refine av (fZ ((f0.ext hE1213).c rfl) hI13) rfl ?_
 rintro v w14 ⟨rfl, hE14⟩
 refine ⟨fun _ h => h.trans hE14, ?_⟩
 have hE1214 := hE1213.trans hE14
 rw [show decide ((1 : Int) = 1) = true from rfl]
 repeat' (first|refine aT (j := 1) (a := some ⟨g5, 0, none⟩) rfl rfl ⟨_, _, rfl⟩ (by omega) ?_|refine bu (j := 1) (n := 2) (a := some ⟨g5, 0, none⟩) rfl (fun _ h => (hb5.ext (hE512.trans h)).sl) ⟨_, _, rfl⟩ (by omega) ?_|refine ai rfl ?_|refine bR rfl rfl ?_)
 refine av (cQ (z := 6) (by omega) (by omega) _) rfl ?_
 rintro v w15 ⟨hI15, hE15⟩
 refine ⟨fun _ h => h.trans hE15, ?_⟩
 have hE1215 := hE1214.trans hE15
 repeat' (first|refine bR rfl rfl ?_)
 refine av (fZ ((f1.ext hE1215).c rfl) hI15) rfl ?_
 rintro v w16 ⟨rfl, hE16⟩
 refine ⟨fun _ h => h.trans hE16, ?_⟩
 have hE1216 := hE1215.trans hE16
 rw [show decide ((6 : Int) = 6) = true from rfl]
 repeat' (first|refine aN (g := g11) rfl (fun _ h => hb12.ext h) rfl ?_|refine ai rfl ?_|refine bR rfl rfl ?_)
 refine av (cQ (z := 3) (by omega) (by omega) _) rfl ?_
 rintro v w17 ⟨hI17, hE17⟩
 refine ⟨fun _ h => h.trans hE17, ?_⟩
 have hE1217 := hE1216.trans hE17
 repeat' (first|refine bR rfl rfl ?_)
 refine av (fZ ((hu12.ext hE1217).c rfl) hI17) rfl ?_
 rintro v w18 ⟨rfl, hE18⟩
 refine ⟨fun _ h => h.trans hE18, ?_⟩
 rw [show decide ((3 : Int) = 3) = true from rfl]
 repeat' (first|refine ai rfl ?_|refine aa ?_|refine ae ?_|refine aR ?_)
 exact bK rfl (rt rfl) ⟨rfl, (hE05.trans hE512).trans (hE1217.trans hE18)⟩
end Go.Proofs.YtppipmkpmmdcjaaGreat
namespace Go.Proofs.YtppipmkpmmdcjaaGreat
open Go.W Go.LM Go.LA Go.PM
section
variable {P : Program} {S : World → Prop} {ops : List Oper} {K : Env → World → Prop} {rest : List (Oper × Option Bool)} {ρ : Env} {w : World} {kf : Bool} {d : Nat} {T : TypeId} {pos : String} {af : Array Edge}
theorem qW (n : Nat) : (List.replicate n (0 : Int)).map (Value.int .i64) = intC n fun _ => 0 := by
 apply List.ext_getElem
 ·simp [intC]
 ·intro i h1 h2; simp [intC]
theorem oL {T1 E y n : Nat} {x1 x2 : Operand} [hT : Slc P T1 E 1 y] [hz : Zro P E (.int .i64 0)] (h1 : ev ρ x1 = .int .i64 n) (h2 : ev ρ x2 = .int .i64 n) (hb : y * n ≤ 281474976710656) (hm : n ≤ 9223372036854775807)
  (h : ∀ g w', New w w' g E (intC n fun _ => 0) → (kf = true → S w → S w') ∧ RR P S ops K rest (upd ρ d (.slice (some ⟨g, 0, none⟩) n n)) w') :
  RR P S ops K ((⟨some d, .makeSlice T1 x1 x2, T, pos, af, none⟩, some kf) :: rest) ρ w :=
 td h1 h2 hb hm (fun g w' hn => h g w' (by rw [← qW]; exact hn))
theorem mH {x y : Operand} {T1 : TypeId} {g j n Tb : Nat} {f : Nat → Int} {u : Int} [hT : Scal P T1] (hx : ev ρ x = .pointer (some (elt (some ⟨g, 0, none⟩) j))) (hy : ev ρ y = .int .i64 u)
  (hb : Blk w g Tb (intC n f)) (hj : j < n)
  (h : ∀ w', Chg g w w' → Blk w' g Tb (intC n (setF f j u)) → (kf = true → S w → S w') ∧ RR P S ops K rest ρ w') :
  RR P S ops K ((⟨none, .store T1 x y, T, pos, af, none⟩, some kf) :: rest) ρ w :=
 eY (v := .int .i64 u) hx hy rfl hb (by rw [fU]; exact hj) (fun w' hc hb' => h w' hc (by rw [← sR]; exact hb'))
end
def gridF (L : List Int) (c : Nat) : Mat := fun i j => L.getD (i * c + j) 0
theorem mI {L : List Int} (h : I8 L) (c i j : Nat) : -128 ≤ gridF L c i j ∧ gridF L c i j ≤ 127 := h.getD _
structure MIO (w : World) (lo g r c : Nat) (gs : Nat → Nat) (F : Mat) : Prop where
 low : lo ≤ g
 top : Blk w g 47 (topC r fun i => ⟨some ⟨gs i, 0, none⟩, c, c⟩)
 row : ∀ i, i < r → lo ≤ gs i ∧ Blk w (gs i) 2 (intC c (F i))
 off : ∀ i, i < r → gs i ≠ g
 inj : ∀ i j, i < r → j < r → gs i = gs j → i = j
theorem MIO.mi {w : World} {lo g r c : Nat} {gs : Nat → Nat} {F : Mat} (h : MIO w lo g r c gs F) (hf : ∀ i j, i < r → j < c → -9223372036854775808 ≤ F i j ∧ F i j ≤ 9223372036854775807) : MI w (some ⟨g, 0, none⟩) r c (fun i => ⟨some ⟨gs i, 0, none⟩, c, c⟩) F :=
 ⟨h.top.sl, fun i hi => ⟨rfl, (h.row i hi).2.sl⟩, hf⟩
abbrev gridL (rows cols : Int) (la : Option Addr) (n lc : Nat) : List Value := [.int .u8 rows, .int .u8 cols, .slice la n lc]
theorem jk {L : List Int} {n : Nat} : L.getD (min n L.length) 0 = L.getD n 0 ∧ tAt L (min n L.length) = min (n + 1) L.length := by
 unfold tAt
 rcases Nat.lt_or_ge n L.length with h | h
 ·rw [Nat.min_eq_left (by omega), if_pos h, Nat.min_eq_left (by omega)]; exact ⟨rfl, rfl⟩
 ·rw [Nat.min_eq_right h, if_neg (by omega), Nat.min_eq_right (by omega)]
  refine ⟨?_, rfl⟩
  rw [List.getD_eq_getElem?_getD, List.getD_eq_getElem?_getD, List.getElem?_eq_none (by omega), List.getElem?_eq_none (by omega)]
set_option maxHeartbeats 4000000 in
theorem qX {rows cols : Int} {L : List Int} {la : Option Addr} {lc most : Nat} {w : World} (hL : Sl w la (int8L L)) (hI : I8 L) (h1 : 0 ≤ rows ∧ rows ≤ 255) (h2 : 0 ≤ cols ∧ cols ≤ 255) (hm : 1 ≤ most ∧ most ≤ 16) :
  CallsR Tryz.prog 31 #[.agg (gridL rows cols la L.length lc).toArray, .int .i64 (most : Int)] w fun v w' => ∃ (g : Nat) (gs : Nat → Nat), v = .slice (some ⟨g, 0, none⟩) (1 + (rows % most).toNat) (1 + (rows % most).toNat) ∧ MIO w' w.heap.size g (1 + (rows % most).toNat) (1 + (cols % most).toNat) gs (gridF L (1 + (cols % most).toNat)) ∧ Ex w w' := by
 refine aH (args := [_, _]) Tryz.func31 rfl rfl ?_
 refine aj ?_
 refine ah rfl ?_
 refine bH (vs := gridL rows cols la L.length lc) rfl (fun g2 w1 hn1 => ⟨fun _ _ => trivial, ?_⟩)
 have hb1 := hn1.blk
 repeat' (first|refine aQ (g := g2) rfl hb1 rfl ?_|refine cL (cs := tapeL la L.length lc 0) rfl ?_|refine ai rfl ?_|refine aa ?_|refine aj ?_|refine ah rfl ?_|refine ae ?_|refine aG rfl ?_)
 refine bH (vs := tapeL la L.length lc 0) rfl (fun g5 w2 hn2 => ⟨fun _ _ => trivial, ?_⟩)
 have hb2 := hn2.blk
 have hb12 := hb1.ext hn2.ex
 obtain ⟨r, hr⟩ : ∃ r : Nat, 1 + rows % most = (r : Int) := ⟨(1 + rows % most).toNat, by have := Int.emod_nonneg rows (b := (most : Int)) (by omega); omega⟩
 obtain ⟨c, hc⟩ : ∃ c : Nat, 1 + cols % most = (c : Int) := ⟨(1 + cols % most).toNat, by have := Int.emod_nonneg cols (b := (most : Int)) (by omega); omega⟩
 have er : 1 + (rows % most).toNat = r := by have := Int.emod_nonneg rows (b := (most : Int)) (by omega); omega
 have ec : 1 + (cols % most).toNat = c := by have := Int.emod_nonneg cols (b := (most : Int)) (by omega); omega
 have hr16 : r ≤ 16 := by have := Int.emod_lt_of_pos rows (b := (most : Int)) (by omega); omega
 have hc16 : c ≤ 16 := by have := Int.emod_lt_of_pos cols (b := (most : Int)) (by omega); omega
 rw [er, ec]
 repeat' (first|refine aQ (g := g2) rfl hb12 rfl ?_|refine d6 rfl (d5 (by omega) (by omega)) ?_|refine jH rfl rfl (by omega) (by omega) ?_|refine aZ rfl rfl (by omega) (by omega) ?_|refine ai rfl ?_|refine aa ?_|refine aj ?_|refine ah rfl ?_|refine ae ?_|refine aG rfl ?_)
 rw [hr]
 repeat' (first|refine et (n := r) rfl rfl (by omega) (by omega) (fun g w3 hn3 => ⟨fun _ _ => trivial, ?_⟩)|refine ai rfl ?_|refine aa ?_|refine aj ?_|refine ah rfl ?_|refine ae ?_|refine bh rfl ?_|refine aA ?_)
 have s1 := hn1.ex.size
 have s2 := hn2.ex.size
 have l1 := hn1.lo
 have l2 := hn2.lo
 have l3 := hn3.lo
 have lb2 := hb2.lt
 have lb1 := hn1.hi
 have lb3 := hn3.hi
 have s3 := hn3.ex.size
 have hE03 := (hn1.ex.trans hn2.ex).trans hn3.ex
 have hne : 0 < L.length → ∀ ad, la = some ad → ad.block ≠ g5 := fun h ad e => by have := hL.lt (by simpa using h) ad e; omega
 refine aY (ι := Nat × (Nat → Nat)) [7, 8, 22, 23, 24, 25, 26, 27, 28, 29, 30, 31, 32, 33, 34, 35, 36, 37, 38, 39, 40, 41, 42, 43, 44, 45, 46, 47, 48, 49, 50, 51, 52] (fun t => [(22, .int .i64 (t.1 : Int))])
  (fun t w' => (t.1 ≤ r ∧ Ex w w' ∧ w3.heap.size ≤ w'.heap.size) ∧ Blk w' g2 24 (gridL rows cols la L.length lc) ∧ Blk w' g5 75 (tapeL la L.length lc (min (t.1 * c) L.length)) ∧ Blk w' g 47 (topC r fun k => if k < t.1 then ⟨some ⟨t.2 k, 0, none⟩, c, c⟩ else sd0) ∧
   (∀ k, k < t.1 → w3.heap.size ≤ t.2 k ∧ Blk w' (t.2 k) 2 (intC c (gridF L c k))) ∧ ∀ k l, k < t.1 → l < t.1 → t.2 k = t.2 l → k = l) (fun t => r - t.1)
  (0, fun _ => 0) ⟨rfl, trivial⟩ ⟨⟨by simp only; omega, hE03, Nat.le_refl _⟩, hb12.ext hn3.ex, by simp only; rw [Nat.zero_mul, Nat.min_eq_left (Nat.zero_le _)]; exact hb2.ext hn3.ex, hn3.blk, fun k h => by simp only at h; omega, fun k l h => by simp only at h; omega⟩ ?_
 rintro ⟨i, gs⟩ ξ w4 ⟨⟨hi, hE4, hs4⟩, hb4, hT4, hG4, hrow, hinj⟩
 simp only at hi hT4 hG4 hrow hinj
 show CW _ _ _ _ (over [(22, .int .i64 (i : Int))] _) w4
 have hgl := hG4.lt
 rcases Nat.lt_or_ge i r with hir | hir
 ·repeat' (first|refine bC rfl rfl (by omega) ?_|refine aQ (g := g2) rfl hb4 rfl ?_|refine d6 rfl (d5 (by omega) (by omega)) ?_|refine jH rfl rfl (by omega) (by omega) ?_|refine aZ rfl rfl (by omega) (by omega) ?_|refine ai rfl ?_|refine aa ?_|refine aj ?_|refine ah rfl ?_|refine ae ?_|refine aG rfl ?_|refine aD rfl ?_|refine aA ?_|refine aF ?_)
  rw [hc]
  refine oL (n := c) rfl rfl (by omega) (by omega) (fun gr w5 hn5 => ⟨fun _ _ => trivial, ?_⟩)
  have l5 := hn5.lo
  have s5 := hn5.ex.size
  have hG5 := hG4.ext hn5.ex
  repeat' (first|refine aC (j := i) rfl rfl ⟨_, _, rfl⟩ (by omega) ?_|refine ci (j := i) (u := ⟨some ⟨gr, 0, none⟩, c, c⟩) rfl rfl hG5 hir (fun w6 hc6 hG6 => ⟨fun _ _ => trivial, ?_⟩)|refine ai rfl ?_|refine aa ?_|refine aj ?_|refine ah rfl ?_|refine ae ?_)
  have hT6 := (hT4.ext hn5.ex).chg hc6 (by omega)
  have hg6 := (hb4.ext hn5.ex).chg hc6 (by omega)
  have hR6 := hn5.blk.chg hc6 (by omega)
  have hE6 := (hE4.trans hn5.ex).chg hc6 (by omega)
  have s6 := hc6.size
  have hrow6 : ∀ k, k < i → w3.heap.size ≤ gs k ∧ Blk w6 (gs k) 2 (intC c (gridF L c k)) := fun k hk => by
   have h1 := hrow k hk
   exact ⟨h1.1, (h1.2.ext hn5.ex).chg hc6 (by omega)⟩
  have hold : ∀ k, k < i → gs k < w4.heap.size := fun k hk => (hrow k hk).2.lt
  have hpl : ∀ j, (setF (fun k => if k < i then (⟨some ⟨gs k, 0, none⟩, c, c⟩ : SD) else sd0) i ⟨some ⟨gr, 0, none⟩, c, c⟩) j = ⟨some ⟨gr, 0, none⟩, c, c⟩ ∨ j ≠ i := fun j => by
   by_cases h : j = i
   ·subst h; exact .inl (aJ _ _ _)
   ·exact .inr h
  have hi0 : setF (fun k => if k < i then (⟨some ⟨gs k, 0, none⟩, c, c⟩ : SD) else sd0) i ⟨some ⟨gr, 0, none⟩, c, c⟩ i = ⟨some ⟨gr, 0, none⟩, c, c⟩ := aJ _ _ _
  repeat' (first|refine aU (j := i) rfl hG6.sl hir hi0 ?_|refine ai rfl ?_|refine aa ?_|refine ae ?_|refine bh rfl ?_|refine aA ?_)
  refine aY (ι := Nat × (Nat → Int)) [8, 40, 41, 42, 43, 44, 45, 46, 47, 48, 49, 50, 51] (fun t => [(40, .int .i64 (t.1 : Int))])
   (fun t w' => (t.1 ≤ c ∧ Ex w w' ∧ w6.heap.size ≤ w'.heap.size) ∧ Blk w' g2 24 (gridL rows cols la L.length lc) ∧ Blk w' g5 75 (tapeL la L.length lc (min (i * c + t.1) L.length)) ∧
    Blk w' g 47 (topC r (setF (fun k => if k < i then ⟨some ⟨gs k, 0, none⟩, c, c⟩ else sd0) i ⟨some ⟨gr, 0, none⟩, c, c⟩)) ∧ (∀ k, k < i → Blk w' (gs k) 2 (intC c (gridF L c k))) ∧ Blk w' gr 2 (intC c t.2) ∧ ∀ l, l < t.1 → t.2 l = gridF L c i l) (fun t => c - t.1)
   (0, fun _ => 0) ⟨rfl, trivial⟩ ⟨⟨by simp only; omega, hE6, Nat.le_refl _⟩, hg6, hT6, hG6, fun k hk => (hrow6 k hk).2, hR6, fun l h => by simp only at h; omega⟩ ?_
  rintro ⟨j, f⟩ ξ2 w7 ⟨⟨hj, hE7, hs7⟩, hb7, hT7, hG7, hrow7, hR7, hf7⟩
  simp only at hj hT7 hR7 hf7
  show CW _ _ _ _ (over [(40, .int .i64 (j : Int))] _) w7
  rcases Nat.lt_or_ge j c with hjc | hjc
  ·repeat' (first|refine bC rfl rfl (by omega) ?_|refine ai rfl ?_|refine aa ?_|refine aj ?_|refine ah rfl ?_|refine ae ?_|refine aD rfl ?_|refine aA ?_|refine aF ?_)
   refine bi (late := [8]) (plan := [(0, none), (1, none), (2, none), (3, none), (4, none), (5, none), (6, some true), (7, none), (8, some false)]) (fun w' => Sl w' (some ⟨g, 0, none⟩) (topC r (setF (fun k => if k < i then ⟨some ⟨gs k, 0, none⟩, c, c⟩ else sd0) i ⟨some ⟨gr, 0, none⟩, c, c⟩))) bB (by kernel_rfl) hG7.drew.sl ?_
   repeat' (first|refine aC (j := i) (a := some ⟨g, 0, none⟩) rfl rfl ⟨_, _, rfl⟩ (by omega) ?_|refine aU (j := i) (a := some ⟨g, 0, none⟩) rfl (fun _ h => h) hir hi0 ?_|refine ai rfl ?_)
   refine av (lQ hT7.drew (hL.ext hE7.drew) hI hne (Nat.min_le_right _ _)) rfl ?_
   rintro v w8 ⟨rfl, hc8, hT8⟩
   have gg5 : g5 ≠ g := by omega
   refine ⟨fun _ h => h.chg hc8 (fun ad e => by cases e; exact Ne.symm gg5), ?_⟩
   rw [jk.1]
   rw [jk.2] at hT8
   have hR8 := hR7.drew.chg hc8 (by omega)
   repeat' (first|refine aC (j := j) (a := some ⟨gr, 0, none⟩) rfl rfl ⟨_, _, rfl⟩ hjc ?_)
   refine mH (j := j) rfl rfl hR8 hjc (fun w9 hc9 hR9 => ⟨fun h => (nomatch h), ?_⟩)
   repeat' (first|refine ai rfl ?_|refine aa ?_|refine ah rfl ?_|refine ae ?_|refine aZ rfl rfl (by omega) (by omega) ?_|refine aK ?_)
   refine ⟨⟨(j + 1, setF f j (L.getD (i * c + j) 0)), ⟨⟨hjc, (hE7.drew.chg hc8 (by omega)).chg hc9 (by omega), ?_⟩, (hb7.drew.chg hc8 (by omega)).chg hc9 (by omega), hT8.chg hc9 (by omega), (hG7.drew.chg hc8 (by omega)).chg hc9 (by omega), fun k hk => ?_, hR9, fun l hl => ?_⟩, by simp only; omega, rfl, trivial⟩, (by (repeat (first|exact aE _ _ _|refine aw rfl ?_|refine au rfl ?_|refine ak rfl ?_|refine ao rfl ?_)))⟩
   ·have e1 := hc8.size
    have e2 := hc9.size
    have e3 : w7.drew.heap.size = w7.heap.size := rfl
    omega
   ·have h1 := hrow6 k hk
    have h2 := hold k hk
    exact ((hrow7 k hk).drew.chg hc8 (by omega)).chg hc9 (by omega)
   ·replace hl : l < j + 1 := hl
    show setF f j (L.getD (i * c + j) 0) l = _
    by_cases e : l = j
    ·subst e; rw [aJ]; rfl
    ·rw [aO _ _ e]; exact hf7 l (by omega)
  ·obtain rfl : j = c := by omega
   repeat' (first|refine bA rfl rfl (by omega) ?_|refine ai rfl ?_|refine aa ?_|refine aj ?_|refine ah rfl ?_|refine ae ?_|refine aZ rfl rfl (by omega) (by omega) ?_|refine ay rfl ?_|refine aV ?_|refine aL ?_|refine aW ?_|refine aK ?_)
   refine ⟨⟨(i + 1, setF gs i gr), ⟨⟨hir, hE7, by omega⟩, hb7, by simp only; rw [Nat.succ_mul]; exact hT7, ?_, fun k hk => ?_, fun k l hk hl e => ?_⟩, by simp only; omega, rfl, trivial⟩, (by (repeat (first|exact aE _ _ _|refine aw rfl ?_|refine au rfl ?_|refine ak rfl ?_|refine ao rfl ?_)))⟩
   ·rw [cv (s' := setF (fun k => if k < i then (⟨some ⟨gs k, 0, none⟩, j, j⟩ : SD) else sd0) i ⟨some ⟨gr, 0, none⟩, j, j⟩) (fun k _ => ?_)]
    ·exact hG7
    ·by_cases e : k = i
     ·subst e; simp [setF]
     ·simp only [setF, if_neg e]
      by_cases h : k < i
      ·rw [if_pos h, if_pos (by omega)]
      ·rw [if_neg h, if_neg (by omega)]
   ·simp only at hk ⊢
    by_cases e : k = i
    ·subst e; rw [aJ]
     exact ⟨by omega, by rw [← lz hf7]; exact hR7⟩
    ·rw [aO _ _ e]; exact ⟨(hrow6 k (by omega)).1, hrow7 k (by omega)⟩
   ·simp only at hk hl e
    by_cases e1 : k = i
    ·by_cases e2 : l = i
     ·omega
     ·rw [e1, aJ, aO _ _ e2] at e
      have := hold l (by omega)
      omega
    ·by_cases e2 : l = i
     ·rw [e2, aJ, aO _ _ e1] at e
      have := hold k (by omega)
      omega
     ·rw [aO _ _ e1, aO _ _ e2] at e
      exact hinj k l (by omega) (by omega) e
 ·obtain rfl : i = r := by omega
  repeat' (first|refine bA rfl rfl (by omega) ?_|refine ai rfl ?_|refine aa ?_|refine aj ?_|refine ah rfl ?_|refine ae ?_|refine ay rfl ?_|refine aV ?_|refine aL ?_|refine aW ?_|refine aR ?_)
  exact bK rfl (rt rfl) ⟨g, gs, rfl, ⟨by omega, by rw [cv (s' := fun k => if k < i then (⟨some ⟨gs k, 0, none⟩, c, c⟩ : SD) else sd0) (fun k hk => (if_pos hk).symm)]; exact hG4, fun k hk => ⟨by have := (hrow k hk).1; omega, (hrow k hk).2⟩, fun k hk e => by have := (hrow k hk).1; omega, hinj⟩, hE4⟩
end Go.Proofs.YtppipmkpmmdcjaaGreat
namespace Go.Proofs.YtppipmkpmmdcjaaGreat
open Go.W Go.LM Go.LA Go.PM
def gd (x : Int) (most : Nat) : Nat := 1 + (x % (most : Int)).toNat
theorem jG {x : Int} {most : Nat} (hm : 1 ≤ most) : 1 ≤ gd x most ∧ gd x most ≤ most := by
 unfold gd
 have h1 := Int.emod_nonneg x (b := (most : Int)) (by omega)
 have h2 := Int.emod_lt_of_pos x (b := (most : Int)) (by omega)
 omega
theorem jW {rows cols : Int} {L : List Int} {la : Option Addr} {lc most : Nat} {w : World} (hL : Sl w la (int8L L)) (hI : I8 L) (h1 : 0 ≤ rows ∧ rows ≤ 255) (h2 : 0 ≤ cols ∧ cols ≤ 255) (hm : 1 ≤ most ∧ most ≤ 16) :
  CallsR Tryz.prog 12 #[.agg (gridL rows cols la L.length lc).toArray, .int .i64 (most : Int)] w (RetMO 2 w (gd rows most) (gd cols most) (gridF L (gd cols most))) := by
 refine aH (args := [_, _]) Tryz.func12 rfl rfl ?_
 refine aj ?_
 refine ah rfl ?_
 refine bH (vs := gridL rows cols la L.length lc) rfl (fun g1 w1 hn1 => ⟨fun _ _ => trivial, ?_⟩)
 repeat' (first|refine aN (cs := gridL rows cols la L.length lc) (g := g1) rfl hn1.blk rfl ?_|refine ai rfl ?_|refine aa ?_|refine aj ?_|refine ah rfl ?_|refine ae ?_)
 refine av (qX (hL.ext hn1.ex) hI h1 h2 hm) rfl ?_
 rintro v w2 ⟨g, gs, rfl, hM, hE2⟩
 refine ⟨fun _ _ => trivial, ?_⟩
 have g1 := jG (x := rows) hm.1
 have g2 := jG (x := cols) hm.1
 refine av (iM (hM.mi (fun i j _ _ => by have := mI hI (1 + (cols % (most : Int)).toNat) i j; omega)) (by unfold gd at g1; omega) (by unfold gd at g2; omega)) rfl ?_
 rintro v w3 ⟨g', gs', cp', rfl, hO, hE3⟩
 refine ⟨fun _ _ => trivial, ?_⟩
 repeat' (first|refine ai rfl ?_|refine aa ?_|refine ae ?_|refine aR ?_)
 exact bK rfl (rt rfl) ⟨g', gs', cp', rfl, hO.mono (by have := hn1.ex.size; have := hE2.size; omega), (hn1.ex.trans hE2).trans hE3⟩
theorem jX {rows cols : Int} {L : List Int} {la : Option Addr} {lc most : Nat} {w : World} (hL : Sl w la (int8L L)) (hI : I8 L) (h1 : 0 ≤ rows ∧ rows ≤ 255) (_h2 : 0 ≤ cols ∧ cols ≤ 255) (hm : 1 ≤ most ∧ most ≤ 16) :
  CallsR Tryz.prog 4 #[.agg (gridL rows cols la L.length lc).toArray, .int .i64 (most : Int)] w (RetMO 2 w (gd rows most) (gd rows most) (gridF L (gd rows most))) := by
 refine aH (args := [_, _]) Tryz.func4 rfl rfl ?_
 refine aj ?_
 refine ah rfl ?_
 refine bH (vs := gridL rows cols la L.length lc) rfl (fun g1 w1 hn1 => ⟨fun _ _ => trivial, ?_⟩)
 have l1 := hn1.lo
 repeat' (first|refine aQ (g := g1) rfl hn1.blk rfl ?_|refine ai rfl ?_|refine aa ?_|refine aj ?_|refine ah rfl ?_|refine ae ?_|refine aG rfl ?_)
 refine kr (o := 1) (v := .int .u8 rows) rfl rfl rfl hn1.blk rfl (fun w2 hc2 hb2 => ⟨fun _ _ => trivial, ?_⟩)
 have hE2 := hn1.ex.chg hc2 l1
 repeat' (first|refine aN (cs := gridL rows rows la L.length lc) (g := g1) rfl hb2 rfl ?_|refine ai rfl ?_|refine aa ?_|refine aj ?_|refine ah rfl ?_|refine ae ?_)
 refine av (jW (hL.ext hE2) hI h1 h1 hm) rfl ?_
 rintro v w3 ⟨g', gs', cp', rfl, hO, hE3⟩
 refine ⟨fun _ _ => trivial, ?_⟩
 repeat' (first|refine ai rfl ?_|refine aa ?_|refine ae ?_|refine aR ?_)
 exact bK rfl (rt rfl) ⟨g', gs', cp', rfl, hO.mono hE2.size, hE2.trans hE3⟩
end Go.Proofs.YtppipmkpmmdcjaaGreat
namespace Go.Proofs.YtppipmkpmmdcjaaGreat
open Go.W Go.LM Go.LA Go.PM
theorem sT {w : World} {lo lo' E n : Nat} {s : SD} {h : Nat → IH} (hR : RowG w lo E n s h) (hl : lo' ≤ lo) : RowG w lo' E n s h := by
 refine ⟨hR.1, ?_⟩
 rcases hR.2 with h0 | ⟨g, h1, h2, h3⟩
 ·exact .inl h0
 ·exact .inr ⟨g, h1, Nat.le_trans hl h2, h3⟩
def colF (L : List Int) : Vec := fun i => L.getD i 0
theorem sU {L : List Int} (h : I8 L) (i : Nat) : -128 ≤ colF L i ∧ colF L i ≤ 127 := h.getD _
set_option maxHeartbeats 2000000 in
theorem sV {n : Nat} {L : List Int} {la : Option Addr} {lc : Nat} {w : World} (hL : Sl w la (int8L L)) (hI : I8 L) (hn : n ≤ 1000) :
  CallsR Tryz.prog 23 #[.slice la L.length lc, .int .i64 (n : Int)] w fun v w' => ∃ g, v = .slice (some ⟨g, 0, none⟩) n n ∧ w.heap.size ≤ g ∧ Blk w' g 2 (intC n (colF L)) ∧ Ex w w' := by
 refine aH (args := [_, _]) Tryz.func23 rfl rfl ?_
 repeat' (first|refine cL (cs := tapeL la L.length lc 0) rfl ?_|refine ai rfl ?_|refine aa ?_|refine aj ?_|refine ah rfl ?_|refine ae ?_)
 refine bH (vs := tapeL la L.length lc 0) rfl (fun g5 w1 hn1 => ⟨fun _ _ => trivial, ?_⟩)
 repeat' (first|refine oL (n := n) rfl rfl (by omega) (by omega) (fun g w2 hn2 => ⟨fun _ _ => trivial, ?_⟩)|refine ai rfl ?_|refine aa ?_|refine aj ?_|refine ah rfl ?_|refine ae ?_|refine bh rfl ?_|refine aA ?_)
 have l1 := hn1.lo
 have l2 := hn2.lo
 have s1 := hn1.ex.size
 have lb1 := hn1.blk.lt
 have hne : 0 < L.length → ∀ ad, la = some ad → ad.block ≠ g5 := fun h ad e => by have := hL.lt (by simpa using h) ad e; omega
 have hE02 := hn1.ex.trans hn2.ex
 refine aY (ι := Nat × (Nat → Int)) [7, 15, 16, 17, 18, 19, 20, 21, 22, 23] (fun t => [(15, .int .i64 (t.1 : Int))])
  (fun t w' => (t.1 ≤ n ∧ Ex w w') ∧ Blk w' g5 75 (tapeL la L.length lc (min t.1 L.length)) ∧ Blk w' g 2 (intC n t.2) ∧ ∀ l, l < t.1 → t.2 l = colF L l) (fun t => n - t.1)
  (0, fun _ => 0) ⟨rfl, trivial⟩ ⟨⟨by simp only; omega, hE02⟩, by simp only; rw [Nat.min_eq_left (Nat.zero_le _)]; exact hn1.blk.ext hn2.ex, hn2.blk, fun l h => by simp only at h; omega⟩ ?_
 rintro ⟨j, f⟩ ξ w3 ⟨⟨hj, hE3⟩, hT3, hR3, hf3⟩
 simp only at hj hT3 hR3 hf3
 show CW _ _ _ _ (over [(15, .int .i64 (j : Int))] _) w3
 rcases Nat.lt_or_ge j n with hjn | hjn
 ·repeat' (first|refine bC rfl rfl (by omega) ?_|refine ai rfl ?_|refine aa ?_|refine aj ?_|refine ah rfl ?_|refine ae ?_|refine aD rfl ?_|refine aA ?_|refine aF ?_)
  refine av (lQ hT3 (hL.ext hE3) hI hne (Nat.min_le_right _ _)) rfl ?_
  rintro v w4 ⟨rfl, hc4, hT4⟩
  refine ⟨fun _ _ => trivial, ?_⟩
  have hR4 := hR3.chg hc4 (by omega)
  rw [jk.1]
  rw [jk.2] at hT4
  repeat' (first|refine aC (j := j) rfl rfl ⟨_, _, rfl⟩ hjn ?_|refine mH (j := j) rfl rfl hR4 hjn (fun w5 hc5 hR5 => ⟨fun _ _ => trivial, ?_⟩)|refine ai rfl ?_|refine aa ?_|refine ah rfl ?_|refine ae ?_|refine aZ rfl rfl (by omega) (by omega) ?_|refine aK ?_)
  refine ⟨⟨(j + 1, setF f j (L.getD j 0)), ⟨⟨hjn, (hE3.chg hc4 (by omega)).chg hc5 (by omega)⟩, hT4.chg hc5 (by omega), hR5, fun l hl => ?_⟩, by simp only; omega, rfl, trivial⟩, (by (repeat (first|exact aE _ _ _|refine aw rfl ?_|refine au rfl ?_|refine ak rfl ?_|refine ao rfl ?_)))⟩
  replace hl : l < j + 1 := hl
  show setF f j (L.getD j 0) l = _
  by_cases e : l = j
  ·subst e; rw [aJ]; rfl
  ·rw [aO _ _ e]; exact hf3 l (by omega)
 ·obtain rfl : n = j := by omega
  repeat' (first|refine bA rfl rfl (by omega) ?_|refine ai rfl ?_|refine aa ?_|refine aj ?_|refine ah rfl ?_|refine ae ?_|refine ay rfl ?_|refine aV ?_|refine aL ?_|refine aW ?_|refine aR ?_)
  exact bK rfl (rt rfl) ⟨g, rfl, by omega, by rw [← lz hf3]; exact hR3, hE3⟩
set_option maxHeartbeats 2000000 in
theorem oM {n : Nat} {L : List Int} {la : Option Addr} {lc : Nat} {w : World} (hL : Sl w la (int8L L)) (hI : I8 L) (hn : n ≤ 1000) :
  CallsR Tryz.prog 9 #[.slice la L.length lc, .int .i64 (n : Int)] w fun v w' => ∃ (sd : SD) (h : Nat → IH), v = .slice sd.a sd.len sd.cap ∧ RowG w' w.heap.size 33 n sd h ∧ (∀ i, i < n → Ent true 2 w' (h i).val (colF L i)) ∧ Ex w w' := by
 refine aH (args := [_, _]) Tryz.func9 rfl rfl ?_
 repeat' (first|refine ai rfl ?_|refine aa ?_|refine aj ?_|refine ah rfl ?_|refine ae ?_)
 refine av (sV hL hI hn) rfl ?_
 rintro v w1 ⟨g, rfl, hlo, hb1, hE1⟩
 refine ⟨fun _ _ => trivial, ?_⟩
 have s1 := hE1.size
 repeat' (first|refine ai rfl ?_|refine aa ?_|refine ae ?_|refine bh rfl ?_|refine aA ?_)
 refine aY (ι := Nat × SD × (Nat → IH)) [5, 7, 12, 13, 14, 15, 16, 17, 18, 19, 20, 21] (fun t => [(12, .int .i64 (t.1 : Int)), (5, .slice t.2.1.a t.2.1.len t.2.1.cap)])
  (fun t w' => (t.1 ≤ n ∧ Ex w w' ∧ Ex w1 w') ∧ RowG w' w1.heap.size 33 t.1 t.2.1 t.2.2 ∧ ∀ i, i < t.1 → Ent true 2 w' (t.2.2 i).val (colF L i)) (fun t => n - t.1)
  (0, sd0, fun _ => ih0) ⟨rfl, rfl, trivial⟩ ⟨⟨by simp only; omega, hE1, Ex.refl _⟩, RowG.nil _ _ _ _, fun i h => by simp only at h; omega⟩ ?_
 rintro ⟨i, sd, h⟩ ξ w2 ⟨⟨hi, hE2, hE12⟩, hR2, hEn2⟩
 simp only at hi hR2 hEn2
 show CW _ _ _ _ (over [(12, .int .i64 (i : Int)), (5, .slice sd.a sd.len sd.cap)] _) w2
 rcases Nat.lt_or_ge i n with hin | hin
 ·repeat' (first|refine bC rfl rfl (by omega) ?_|refine aC (j := i) (a := some ⟨g, 0, none⟩) rfl rfl ⟨_, _, rfl⟩ (by omega) ?_|refine oJ (j := i) (n := n) (f := colF L) rfl (hb1.ext hE12).sl hin ?_|refine ai rfl ?_|refine aa ?_|refine aj ?_|refine ah rfl ?_|refine ae ?_|refine aD rfl ?_|refine aA ?_|refine aF ?_)
  have hfit := sU hI i
  refine av (cQ (by omega) (by omega) _) rfl ?_
  rintro v w3 ⟨hI3, hE3⟩
  refine ⟨fun _ _ => trivial, ?_⟩
  obtain ⟨u, rfl⟩ := hI3.ih
  have hR3 := RowG.ext hR2 hE3
  have hE13 := hE12.trans hE3
  have hE03 := hE2.trans hE3
  skip
  refine uM (E := 33) rfl rfl rfl hR3 (by omega) (by omega) (by have := hE13.size; omega) ?_
  intro gt sd' h' w4 hR4 hf1 hf2 hG4 hA4
  repeat' (first|refine ai rfl ?_|refine aa ?_|refine ah rfl ?_|refine ae ?_|refine aZ rfl rfl (by omega) (by omega) ?_|refine aK ?_)
  have own : ∀ q, (Value.slice sd.a sd.len sd.cap).ownBlock = some q → w1.heap.size ≤ q := fun q e => (RowG.bk hR3 q e).1
  refine ⟨⟨(i + 1, sd', h'), ⟨⟨hin, hE03.gb hG4 (fun q e => by have := own q e; omega), hE13.gb hG4 own⟩, hR4, fun k hk => ?_⟩, by simp only; omega, rfl, rfl, trivial⟩, (by (repeat (first|exact aE _ _ _|refine aw rfl ?_|refine au rfl ?_|refine ak rfl ?_|refine ao rfl ?_)))⟩
  simp only at hk ⊢
  by_cases e : k = i
  ·subst e; rw [hf2]; exact (Ent.of hI3 (by have e2 : (4294967296 : Nat) ^ 2 = 18446744073709551616 := rfl; omega)).gbR hR3 hG4
  ·rw [hf1 k (by omega)]; exact ((hEn2 k (by omega)).ext hE3).gbR hR3 hG4
 ·obtain rfl : n = i := by omega
  repeat' (first|refine bA rfl rfl (by omega) ?_|refine ai rfl ?_|refine aa ?_|refine aj ?_|refine ah rfl ?_|refine ae ?_|refine ay rfl ?_|refine aV ?_|refine aL ?_|refine aW ?_|refine aR ?_)
  exact bK rfl (rt rfl) ⟨sd, h, rfl, sT hR2 s1, hEn2, hE2⟩
end Go.Proofs.YtppipmkpmmdcjaaGreat
namespace Go.Proofs.YtppipmkpmmdcjaaGreat
open Go.W Go.LM Go.LA Go.PM
theorem ent_lb {cn : Bool} {K lo : Nat} {w : World} {v : Value} {z : Int} (h : IntC lo w v z) (hz : Lb K z) : Ent cn K w v z := Ent.of h hz
set_option maxRecDepth 20000 in
set_option maxHeartbeats 8000000 in
theorem jl {rows cols : Int} (h1 : 0 ≤ rows ∧ rows ≤ 255) (h2 : 0 ≤ cols ∧ cols ≤ 255) {L : List Int} {la : Option Addr} {w : World} (hL : Sl w la (int8L L)) (hI : I8 L) (lc : Nat) {L2 : List Int} {la2 : Option Addr} (hL2 : Sl w la2 (int8L L2)) (hI2 : I8 L2) (lc2 : Nat) :
  CallsR Tryz.prog 3 #[.agg (gridL rows cols la L.length lc).toArray, .slice la2 L2.length lc2] w fun v w' => v = .bool true ∧ Ex w w' := by
 refine aH (args := [_, _]) Tryz.func3 rfl rfl ?_
 refine aj ?_
 refine ah rfl ?_
 refine bH (vs := gridL rows cols la L.length lc) rfl (fun g1 w1 hn1 => ⟨fun _ _ => trivial, ?_⟩)
 have hg1 := hn1.blk
 repeat' (first|refine aN (cs := gridL rows cols la L.length lc) (g := g1) rfl hg1 rfl ?_|refine ai rfl ?_|refine aa ?_|refine aj ?_|refine ah rfl ?_|refine ae ?_)
 refine av (jX (hL.ext hn1.ex) hI h1 h2 (most := 3) (by omega)) rfl ?_
 rintro v w2 ⟨g2, gs2, cp2, rfl, hO2, hE2⟩
 refine ⟨fun _ _ => trivial, ?_⟩
 obtain ⟨hN1, hN3⟩ := jG (x := rows) (most := 3) (by omega)
 have hsm : ∀ i j, i < gd rows 3 → j < gd rows 3 → (gridF L (gd rows 3) i j).natAbs ≤ 128 := fun i j _ _ => by have := mI hI (gd rows 3) i j; omega
 generalize gridF L (gd rows 3) = A at hO2 hsm
 generalize gd rows 3 = N at hO2 hsm hN1 hN3
 obtain ⟨I, hRun, hFin⟩ := oI ⟨hN1, hN3⟩ hsm
 have hE02 := hn1.ex.trans hE2
 repeat' (first|refine ai rfl ?_|refine aa ?_|refine aj ?_|refine ah rfl ?_|refine ae ?_)
 refine av (gg (K := 6000) (KU := 6000 + 17 * ((25256071 + 1) * (N * 6001 + N * 6001 + 4))) (W := N * 6001 + N * 6001 + 4) hO2.mx ⟨hN1, by omega⟩ ⟨hN1, by omega⟩ hRun (by decide) (by decide) (by decide) (by decide) rfl (Nat.le_refl _) (by omega)) rfl ?_
 rintro v w3 ⟨g3, D, n, rfl, hO3, hn, hI3, hE3⟩
 refine ⟨fun _ _ => trivial, ?_⟩
 rw [Nat.min_self] at hO3 hI3 ⊢
 have hF := hFin n D hI3
 clear hRun hFin hI3
 obtain ⟨hh3, hb3, hEn3⟩ := hO3.ex
 have hE03 := hE02.trans hE3
 have hO23 := hO2.ext hE3
 repeat' (first|refine aS rfl rfl ?_|refine uz rfl rfl ?_|refine aT (j := N - 1) (a := some ⟨g3, 0, none⟩) rfl (show _ = Value.int .i64 ((N - 1 : Nat) : Int) from congrArg (Value.int .i64) (by omega)) ⟨_, _, rfl⟩ (by omega) ?_|refine bu (j := N - 1) (n := N) (a := some ⟨g3, 0, none⟩) rfl hb3.sl ⟨_, _, rfl⟩ (by omega) ?_|refine ai rfl ?_|refine aa ?_|refine aj ?_|refine ah rfl ?_|refine ae ?_|refine bh rfl ?_|refine bR rfl rfl ?_|refine cO rfl rfl (by omega) (by omega) ?_|refine ay rfl ?_|refine aF ?_)
 refine av (eo (hEn3 (N - 1) (by omega)).k) rfl ?_
 rintro v w4 ⟨rfl, hE4⟩
 refine ⟨fun _ _ => trivial, ?_⟩
 have hE04 := hE03.trans hE4
 have hO24 := hO23.ext hE4
 by_cases hz : D (N - 1) (N - 1) = 0
 ·repeat' (first|(refine jJ rfl rfl (by rw [hz]; rfl) ?_)|refine ai rfl ?_|refine aa ?_|refine aj ?_|refine ah rfl ?_|refine ae ?_|refine aD rfl ?_)
  refine av (iy hO24.mx ⟨hN1, by omega⟩ (by decide)) rfl ?_
  rintro v w5 ⟨hd5, hE5⟩
  refine ⟨fun _ _ => trivial, ?_⟩
  rw [sK hF hN1 hz] at hd5
  skip
  refine av (eo hd5.k) rfl ?_
  rintro v w6 ⟨rfl, hE6⟩
  refine ⟨fun _ _ => trivial, ?_⟩
  repeat' (first|refine jJ rfl rfl rfl ?_|refine ai rfl ?_|refine bR rfl rfl ?_)
  refine av (jV _) rfl ?_
  rintro v wz ⟨rfl, hEz⟩
  refine ⟨fun _ _ => trivial, ?_⟩
  repeat' (first|refine ai rfl ?_|refine aa ?_|refine ae ?_|refine aR ?_|refine bv ?_)
  exact bK rfl (rt rfl) ⟨rfl, hE04.trans (hE5.trans (hE6.trans hEz))⟩
 ·repeat' (first|refine gq rfl rfl (fun e => hz (Int.sign_eq_zero_iff_zero.1 e)) ?_|refine ai rfl ?_|refine aa ?_|refine aj ?_|refine ah rfl ?_|refine ae ?_|refine bh rfl ?_|refine ay rfl ?_|refine aF ?_)
  refine av (oM (n := N) (hL2.ext hE04) hI2 (by omega)) rfl ?_
  rintro v w5 ⟨sy, hy, rfl, hRy, hEy, hE5⟩
  refine ⟨fun _ _ => trivial, ?_⟩
  generalize colF L2 = Y at hEy
  have ely := hRy.1
  rcases hRy.2 with ⟨_, h0⟩ | ⟨gy, hya, hylo, hyc, hym, hyb⟩
  ·omega
  obtain ⟨sya, syl, syc⟩ := sy
  simp only at ely hya hyc hym hyb
  have ely' := ely.symm
  subst ely' hya
  clear hRy
  have hm := (hEn3 (N - 1) (by omega)).ext hE4
  have hb4 := hb3.ext hE4
  have hX := t5 hF hN1
  clear hF hEn3 hO3
  generalize D (N - 1) (N - 1) = m at hm hz hX
  repeat' (first|refine ai rfl ?_|refine aa ?_|refine aj ?_|refine ah rfl ?_|refine ae ?_|refine bh rfl ?_|refine aA ?_)
  refine aY (ι := Nat × (Nat → IH)) [9, 47, 48, 49, 50, 51, 52, 53, 54, 55, 56, 57, 58, 59, 60, 61, 62, 63, 64] (fun t => [(47, .int .i64 (t.1 : Int))])
   (fun t w' => t.1 ≤ N ∧ w5.grownBy w' (some gy) ∧ Blk w' gy 33 (rowC syc t.2) ∧ (∀ i, i < t.1 → Ent true 6002 w' (t.2 i).val (Y i * m)) ∧ ∀ i, t.1 ≤ i → i < N → Ent true 2 w' (t.2 i).val (Y i)) (fun t => N - t.1)
   (0, hy) ⟨rfl, trivial⟩ ⟨Nat.zero_le _, oN (Ex.refl _), hyb, fun i h => absurd h (Nat.not_lt_zero _), fun i _ hi => hEy i hi⟩ ?_
  rintro ⟨i, h⟩ ξ w6 ⟨hi, hG6, hb6, hL6, hH6⟩
  simp only at hi hb6 hL6 hH6
  show CW _ _ _ _ (over [(47, .int .i64 (i : Int))] _) w6
  have hE46 : Ex w4 w6 := hE5.gb hG6 (fun k e => by cases e; omega)
  rcases Nat.lt_or_ge i N with hin | hin
  ·repeat' (first|refine bC rfl rfl (show ((i : Nat) : Int) < ((N : Nat) : Int) by omega) ?_|refine ai rfl ?_|refine aa ?_|refine aj ?_|refine ah rfl ?_|refine ae ?_|refine aD rfl ?_|refine aA ?_|refine aF ?_)
   refine bi (late := [12, 14]) (plan := [(0, none), (1, none), (2, none), (3, none), (4, none), (5, none), (6, none), (7, none), (8, none), (9, none), (10, none), (11, none), (12, some false), (13, none), (14, some false)]) (fun w' => Ex w6 w') bB (by kernel_rfl) (Ex.refl w6).drew ?_
   have hEd := (Ex.refl w6).drew
   have hb36 : ∀ w', Ex w6 w' → Sl w' (some ⟨g3, 0, none⟩) (rowC N hh3) := fun w' e => ((hb4.ext hE46).ext e).sl
   repeat' (first|refine aT (j := i) (a := some ⟨gy, 0, none⟩) rfl rfl ⟨_, _, rfl⟩ (by omega) ?_|refine bu (j := i) (n := syc) (f := h) (a := some ⟨gy, 0, none⟩) rfl (fun _ e => (hb6.ext e).sl) ⟨_, _, rfl⟩ (by omega) ?_|refine aT (j := N - 1) (a := some ⟨g3, 0, none⟩) rfl (show _ = Value.int .i64 ((N - 1 : Nat) : Int) from congrArg (Value.int .i64) (by omega)) ⟨_, _, rfl⟩ (by omega) ?_|refine bu (j := N - 1) (n := N) (f := hh3) (a := some ⟨g3, 0, none⟩) rfl (fun _ e => hb36 _ e) ⟨_, _, rfl⟩ (by omega) ?_|refine ai rfl ?_|refine bh rfl ?_|refine cO rfl rfl (by omega) (by omega) ?_)
   have hm6 := (hm.ext hE46).ext hEd
   have hy6 := (hH6 i (Nat.le_refl _) hin).ext hEd
   refine av (gf hy6.k hm6.k (by decide)) rfl ?_
   rintro v w7 ⟨hI7, hE7⟩
   refine ⟨fun _ e => e.trans hE7, ?_⟩
   obtain ⟨x7, rfl⟩ := hI7.ih
   have hE67 := hEd.trans hE7
   have hb7 := hb6.ext hE67
   have hx7 : Ent true 6002 _ x7.val (Y i * m) := ent_lb hI7 ((hy6.lb.mul hm6.lb).mono (by omega))
   repeat' (first|refine aT (j := i) (a := some ⟨gy, 0, none⟩) rfl rfl ⟨_, _, rfl⟩ (by omega) ?_)
   refine ch (j := i) (n := syc) (u := x7) rfl rfl hb7 (by omega) (fun w8 hc8 hb8 => ⟨fun e => (nomatch e), ?_⟩)
   repeat' (first|refine ai rfl ?_|refine aa ?_|refine ah rfl ?_|refine ae ?_|refine aZ rfl rfl (by omega) (by omega) ?_|refine aK ?_)
   exact ⟨⟨(i + 1, setF h i x7), ⟨hin, bL (bL hG6 (oN hE67) (fun k e => .inl e)) (bG hc8) (fun k e => .inl e), hb8, RO.fill (f := fun i => Y i * m) (fun k hk => (hL6 k hk).ext hE67) hb7 hx7 hc8, fun k hk hkN => by
    have hk' : i + 1 ≤ k := hk
    show Ent true 2 w8 (setF h i x7 k).val (Y k)
    rw [aO _ _ (by omega)]
    exact ((hH6 k (by omega) hkN).ext hE67).gbN hb7 (bF _ _) (bG hc8)⟩, by simp only; omega, rfl, trivial⟩, (by (repeat (first|exact aE _ _ _|refine aw rfl ?_|refine au rfl ?_|refine ak rfl ?_|refine ao rfl ?_)))⟩
  ·obtain rfl : i = N := by omega
   repeat' (first|refine bA rfl rfl (Int.le_refl _) ?_|refine ai rfl ?_|refine aa ?_|refine aj ?_|refine ah rfl ?_|refine ae ?_|refine ay rfl ?_|refine aV ?_|refine aL ?_|refine aW ?_)
   have hX6 : RX true 6002 w6 ⟨some ⟨gy, 0, none⟩, i, syc⟩ i (fun k => Y k * m) := ⟨rfl, hyc, h, hb6.sl.row hyc, hL6⟩
   refine av (lG (hO24.ext hE46).mx hX6 ⟨hN1, by omega⟩ ⟨hN1, by omega⟩ (by omega) (by decide)) rfl ?_
   rintro v w7 ⟨t7, rfl, ht7, hE7⟩
   refine ⟨fun _ _ => trivial, ?_⟩
   obtain rfl : t7 = true := ht7.2 (hX Y)
   repeat' (first|refine ai rfl ?_|refine bR rfl rfl ?_)
   refine av (jV _) rfl ?_
   rintro v wz ⟨rfl, hEz⟩
   refine ⟨fun _ _ => trivial, ?_⟩
   repeat' (first|refine ai rfl ?_|refine aa ?_|refine ae ?_|refine aR ?_)
   exact bK rfl (rt rfl) ⟨rfl, hE04.trans (hE46.trans (hE7.trans hEz))⟩
end Go.Proofs.YtppipmkpmmdcjaaGreat
namespace Go.W
open Go.ChangeShapes Go.WideShapes Go.ChangeAt Go.RowKit
section
variable {H : Type} {enc : TypeId × Value → H} {P : Program} {W W' : World}
theorem iz (hl : laidOutB P = true) (hb : Below W.heap.size W W') {sp : Nat → Bool} : ∀ {ts : List TypeId} {vs : List Value} {ds : List (DataW H)} {ps : List MemPlace},
  ts.all (fun t => P.readableRec t && decide (t < P.types.size)) = true → DataW.TrodAll enc P W 0 (fun _ => true) true ts vs ds ps → (∀ x ∈ ps, x.block < W.heap.size) → (∀ x ∈ ps, sp x.block = true) →
  DataW.TrodAll enc P W' 0 sp true ts vs ds ps
 | [], [], [], _, _, h, _, _ => h
 | t :: ts, v :: vs, d :: ds, _, ht, ⟨p, q, h1, h2, e⟩, hlt, hs => by
  simp only [List.all_cons, Bool.and_eq_true, decide_eq_true_eq] at ht
  exact ⟨p, q, WideElems.Trod_stays hl ht.1.1 ht.1.2 h1 (fun x hx => hb.same (hlt x (by rw [e]; exact List.mem_append_left _ hx))) (fun x hx => hs x (by rw [e]; exact List.mem_append_left _ hx)),
   iz hl hb ht.2 h2 (fun x hx => hlt x (by rw [e]; exact List.mem_append_right _ hx)) (fun x hx => hs x (by rw [e]; exact List.mem_append_right _ hx)), e⟩
theorem sW {f : Func} {s : ChangeSpec} {apart fresh handsOn again : Bool} {args : Array Value} {ds gs : List (DataW H)} {before : List MemPlace} {tb : TypeId}
  (hl : laidOutB P = true) (hrd : f.params.toList.all (fun t => P.readableRec t && decide (t < P.types.size)) = true) (hrt : f.resultTypes = #[tb]) (htb : P.underlying tb = some .bool) (hvars : s.vars = [])
  (hspec : s.fn H (ds ++ gs) = { results := [.lit (.bool true)], args := ds })
  (hW : DataW.Whole enc P f.params.toList s.vars apart W args.toList ds gs before) (hb : Below W.heap.size W W') :
  s.post enc P f apart fresh handsOn again W args (.bool true) W' := by
 have hlt : ∀ p ∈ before, p.block < W.heap.size := fun p hp => hW.lt p hp
 have hW0 := hW
 obtain ⟨pa, pv, hA, hV, hps, hz, hn⟩ := hW
 rw [hvars] at hV
 obtain ⟨rfl, rfl⟩ := trodVars_none hV
 have hps' : before = pa ++ [] := hps
 have hres : ∀ (b : Nat) (sp : Nat → Bool) (hd : Bool), DataW.TrodAll enc P W' b sp hd f.resultTypes.toList ((Value.bool true).resultList f.resultTypes.size) (s.fn H (ds ++ [])).results [] := fun b sp hd => by
  rw [hspec, hrt]; exact trodAll_mk1 (shut_bool htb _)
 have hargs : ∀ sp : Nat → Bool, (∀ p ∈ before, sp p.block = true) → DataW.TrodAll enc P W' 0 sp true f.params.toList args.toList (s.fn H (ds ++ [])).args pa := fun sp hsp => by
  rw [hspec]; exact iz hl hb hrd hA (fun x hx => hlt x (by rw [hps']; simpa using hx)) (fun x hx => hsp x (by rw [hps']; simpa using hx))
 have hvs : ∀ sp : Nat → Bool, (∀ p ∈ before, sp p.block = true) → DataW.TrodVars enc P W' sp s.vars (s.fn H (ds ++ [])).vars [] := fun sp _ => by rw [hspec, hvars]; rfl
 have hok : ∀ (j : Nat) (t : TypeId) (r : Value), f.resultTypes[j]? = some t → ((Value.bool true).resultList f.resultTypes.size)[j]? = some r → Value.okWide P W' .any 0 t r := ok_one hrt rfl (okWide_bool_mk htb _)
 have hold : ∀ p ∈ before, (fun b => decide (b < W.heap.size)) p.block = true := fun p hp => by simpa using hlt p hp
 refine ⟨ds, [], before, [], pa, [], hW0, hres _ _ _, hargs _ hold, hvs _ hold, World.keptBut_mono (fun p hp => ⟨hp, ?_⟩) (hb.frame (· ∈ before)), fun _ => ?_⟩
 ·rw [hps', List.mem_append] at hp
  exact Or.inr hp
 ·refine ⟨hok, _, _, ([] ++ pa) ++ [], ⟨[] ++ pa, [], trodAll_append (hargs _ (fun _ _ => rfl)) (hres _ _ _), hvs _ (fun _ _ => rfl), rfl, ?_, ?_⟩, ?_⟩
  ·intro b off hp
   have hin : MemPlace.cell b off ∈ before := by rw [hps']; simpa using hp
   rw [hb.frozen (hlt _ hin)]
   exact hz b off hin
  ·intro ha
   have := hn ha
   rw [hps'] at this
   simpa using this
  ·intro p hp _
   rw [hps']
   simpa using hp
theorem qY {t e : TypeId} {k : IntKind} {v : Value} {d : DataW H} {ps : List MemPlace} {r : Reach} {b0 : Nat} (ht : P.underlying t = some (.slice e)) (he : P.underlying e = some (.int k)) (hc : P.cellsOf e = 1)
  (hval : Value.okWide P W r b0 t v) (h : DataW.Trod enc P W 0 (fun _ => true) true t v d ps) :
  ∃ (a : Option Addr) (xs : List Int) (c : Nat), v = .slice a xs.length c ∧ Sl W a (xs.map (Value.int k)) ∧ (∀ x ∈ xs, (Lit.int k x).wf = true) ∧ xs.length ≤ c ∧ c ≤ 9223372036854775807 := by
 obtain ⟨a0, len, cap, rfl⟩ := okWide_slice ht hval
 obtain ⟨fuel, hf⟩ := h
 rcases open_ints ht he hc hf with ⟨hcs, hx⟩ | ⟨a, len', cap', zs, hcs, _, hl, hm, hz, hx, hcell, hwz⟩
 ·simp [Value.cells] at hcs
  obtain ⟨rfl, rfl, rfl⟩ := hcs
  exact ⟨none, [], 0, rfl, Sl.nil _ _, by simp, by simp, by decide⟩
 ·simp [Value.cells] at hcs
  obtain ⟨rfl, rfl, rfl⟩ := hcs
  simp only [if_true] at hz
  have hlen : (zs.take len).length = len := by simp; omega
  refine ⟨some a, zs.take len, cap, by rw [hlen], ⟨fun hne => ?_, fun j hj => ?_⟩, fun x hx => hwz x (List.mem_of_mem_take hx), by rw [hlen]; exact hl, by unfold maxLen at hm; omega⟩
  ·have h0 : 0 < zs.length := by
    rcases Nat.eq_zero_or_pos zs.length with h | h
    ·exact absurd (by rw [List.eq_nil_of_length_eq_zero h]; simp) hne
    ·exact h
   obtain ⟨b, off, spot⟩ := a
   have hspot : spot = none := by simpa [Addr.add] using World.cell?_spot (hcell 0 h0)
   subst hspot
   exact ⟨b, off, rfl⟩
  ·simp only [List.length_map, hlen] at hj
   have h0 : j < zs.length := by omega
   obtain ⟨b, off, spot⟩ := a
   have hspot : spot = none := by simpa [Addr.add] using World.cell?_spot (hcell 0 (by omega))
   subst hspot
   have := hcell j h0
   have e : (⟨b, off, none⟩ : Addr).add j = ⟨b, off + j, none⟩ := by unfold Addr.add; split <;> simp_all
   rw [e] at this
   simp only [elt]
   rw [this]
   simp [List.getD_eq_getElem?_getD, h0, hj]
end
end Go.W
namespace Go.Proofs.YtppipmkpmmdcjaaGreat
theorem Tryz.own : ownKnob Tryz.prog.godebug = none := by kernel_rfl
theorem Tryz.laidOut : laidOutB Tryz.prog = true := by kernel_rfl
end Go.Proofs.YtppipmkpmmdcjaaGreat
namespace Go.Proofs.YtppipmkpmmdcjaaGreat
open Go.W Go.ChangeShapes Go.WideShapes Go.ChangeAt Go.RowKit Go.LM
section
variable {H : Type} {enc : TypeId × Value → H} {P : Program} {W W' : World}
theorem ny {a : Option Addr} {n : Nat} {f : Nat → Value} (hn : a = none → n = 0) (hc : ∀ a', a = some a' → ∀ c, c < n → W.cell? (a'.add c) = some (f c)) : Sl W a ((List.range n).map f) := by
 refine ⟨fun hne => ?_, fun j hj => ?_⟩
 ·have h0 : 0 < n := by
   rcases Nat.eq_zero_or_pos n with h | h
   ·subst h; simp at hne
   ·exact h
  cases a with
  | none => have := hn rfl; omega
  | some a =>
   obtain ⟨b, off, spot⟩ := a
   have hspot : spot = none := by simpa [Addr.add] using World.cell?_spot (hc _ rfl 0 (by omega))
   subst hspot
   exact ⟨b, off, rfl⟩
 ·simp only [List.length_map, List.length_range] at hj
  cases a with
  | none => have := hn rfl; omega
  | some a =>
   obtain ⟨b, off, spot⟩ := a
   have hspot : spot = none := by simpa [Addr.add] using World.cell?_spot (hc _ rfl 0 (by omega))
   subst hspot
   have := hc _ rfl j (by omega)
   have e : (⟨b, off, none⟩ : Addr).add j = ⟨b, off + j, none⟩ := by unfold Addr.add; split <;> simp_all
   rw [e] at this
   simp only [elt]
   rw [this]
   simp [List.getD_eq_getElem?_getD, hj]
end
set_option maxRecDepth 100000
end Go.Proofs.YtppipmkpmmdcjaaGreat
namespace Go.Proofs.YtppipmkpmmdcjaaGreat
open Go.W Go.LM Go.LA Go.PM Go.ChangeShapes Go.WideShapes Go.ChangeAt Go.RowKit
theorem pM {H : Type} {enc : TypeId × Value → H} {P : Program} {W : World} {t e : TypeId} {fuel : Nat} {v : Value} {x : DataW H × List MemPlace} (ht : P.underlying t = some (.slice e)) (he : P.underlying e = some (.int .i8)) (hc : P.cellsOf e = 1)
  (hf : DataW.trod enc P W 0 (fun _ => true) true fuel t [v] = some x) :
  ∃ (a : Option Addr) (xs : List Int) (c : Nat), v = .slice a xs.length c ∧ Sl W a (int8L xs) ∧ I8 xs := by
 rcases open_ints ht he hc hf with ⟨hcs, hx⟩ | ⟨a, len, cap, zs, hcs, _, hl, hm, hz, hx, hcell, hwz⟩
 ·simp only [List.cons.injEq, and_true] at hcs
  subst hcs
  exact ⟨none, [], 0, rfl, Sl.nil _ _, by simp, by simp⟩
 ·simp only [List.cons.injEq, and_true] at hcs
  subst hcs
  simp only [if_true] at hz
  unfold maxLen at hm
  refine ⟨some a, (List.range len).map fun c => zs.getD c 0, cap, by simp, ?_, by simp; omega, fun x hx => ?_⟩
  ·rw [int8L, List.map_map]
   refine ny (fun e => nomatch e) fun a' e c hc' => ?_
   cases e
   exact hcell c (by omega)
  ·rw [List.mem_map] at hx
   obtain ⟨c, hc', rfl⟩ := hx
   have := List.mem_range.1 hc'
   exact uh (hwz _ (by rw [List.getD_eq_getElem?_getD, List.getElem?_eq_getElem (show c < zs.length by omega)]; exact List.getElem_mem _))
set_option maxRecDepth 100000 in
theorem qZ {H : Type} {enc : TypeId × Value → H} {W : World} {v : Value} {d : DataW H} {ps : List MemPlace} {r : Reach} {b0 : Nat} (hval : Value.okWide Tryz.prog W r b0 24 v) (h : DataW.Trod enc Tryz.prog W 0 (fun _ => true) true 24 v d ps) :
  ∃ (rows cols : Int) (a : Option Addr) (L : List Int) (c : Nat), v = .agg (gridL rows cols a L.length c).toArray ∧ (0 ≤ rows ∧ rows ≤ 255) ∧ (0 ≤ cols ∧ cols ≤ 255) ∧ Sl W a (int8L L) ∧ I8 L := by
 obtain ⟨f0, f1, f2, hs, h0, h1, h2⟩ : ∃ f0 f1 f2, Tryz.prog.underlying 24 = some (.struct #[f0, f1, f2]) ∧ f0.type = 5 ∧ f1.type = 5 ∧ f2.type = 22 :=
  ⟨(Tryz.prog.fieldsOf 24)[0]!, (Tryz.prog.fieldsOf 24)[1]!, (Tryz.prog.fieldsOf 24)[2]!, by kernel_rfl, by kernel_rfl, by kernel_rfl, by kernel_rfl⟩
 have hone : Deep.oneCellFields Tryz.prog #[f0, f1, f2] = true := by
  have e : Tryz.prog.underlying 24 = some (.struct (Tryz.prog.fieldsOf 24)) := by kernel_rfl
  rw [hs] at e
  simp only [Option.some.injEq, TypeDesc.struct.injEq] at e
  have hk : Deep.oneCellFields Tryz.prog (Tryz.prog.fieldsOf 24) = true := by kernel_rfl
  rw [e]; exact hk
 obtain ⟨c0, c1, c2, y0, y1, y2, m, rfl, rfl, rfl, q0, q1, q2⟩ := Joins.open_agg3 hs hone (by kernel_rfl) hval h
 rw [h0] at q0
 rw [h1] at q1
 rw [h2] at q2
 obtain ⟨n, hn, _, hw⟩ := DataW.trod_int (k := .u8) (by kernel_rfl) q0
 obtain ⟨n', hn', _, hw'⟩ := DataW.trod_int (k := .u8) (by kernel_rfl) q1
 obtain ⟨a, L, c, rfl, hL, hI⟩ := pM (e := 100) (by kernel_rfl) (by kernel_rfl) (by kernel_rfl) q2
 simp only [List.cons.injEq, and_true] at hn hn'
 subst hn; subst hn'
 exact ⟨n, n', a, L, c, rfl, ug hw, ug hw', hL, hI⟩
end Go.Proofs.YtppipmkpmmdcjaaGreat
