import Derived.Test.YtppipmkpmmdcjaaGreatA19
namespace Go.Proofs.YtppipmkpmmdcjaaGreat
open Go.W Go.LM Go.LA
theorem fC (c a : Int) : c - c / a * a = c % a := by rw [Int.emod_def, Int.mul_comm]
def BlkI (Δ LM MT N t : Nat) (A : Mat) (G : (Nat → Int) → Prop) (n : Nat) (D : Mat) : Prop := UE N A D ∧ ∃ g a b c d, G g ∧ Eqm N N D (bm t g a b c d) ∧ S2 Δ LM MT n a b c d
section
variable {Δ LM MT K N t : Nat} {A : Mat} {G : (Nat → Int) → Prop}
theorem oF {g : Nat → Int} {a b c d : Int} {i j : Nat} (hg : ∀ i, i < t → Lb K (g i)) (ha : Lb K a) (hb : Lb K b) (hc : Lb K c) (hd : Lb K d) : Lb K (bm t g a b c d i j) := by
 unfold bm
 split
 ·exact ha
 ·split
  ·exact hb
  ·split
   ·exact hc
   ·split
    ·exact hd
    ·split
     ·rename_i h; exact hg i h.2
     ·exact cc
theorem gi (hΔ : 0 < Δ) (hLM : ∀ x, x ≤ MT → x.log2 ≤ LM) (hN : t + 1 < N) {n p q : Nat} {D : Mat} (hI : BlkI Δ LM MT N t A G n D) (hL : LeastAt D N N t p q) :
  UE N A D ∧ p < N ∧ q < N ∧ ∃ g a b c d, G g ∧ Le2 a b c d ∧ (a * d - b * c).natAbs = Δ ∧ a.natAbs + n * Δ ≤ MT ∧ b.natAbs + n * Δ ≤ MT ∧ c.natAbs + n * Δ ≤ MT ∧ d.natAbs + n * Δ ≤ MT ∧
   (c % a ≠ 0 → ∃ m, m < n ∧ S2 Δ LM MT m a b (c % a) (d - c / a * b)) ∧ (c % a = 0 → b % a ≠ 0 → ∃ m, m < n ∧ S2 Δ LM MT m a (b % a) 0 (d - c / a * b)) ∧
   (c % a = 0 → b % a = 0 → (d - c / a * b) % a ≠ 0 → ∃ m, m < n ∧ S2 Δ LM MT m a (d - c / a * b) 0 (d - c / a * b)) ∧
   Eqm N N (stB D t p q) (bm t g a b c d) ∧ Eqm N N (rdiv (stB D t p q) t) (bm t g a b (c % a) (d - c / a * b)) ∧ (c % a = 0 → Eqm N N (stC D t p q) (bm t g a (b % a) 0 (d - c / a * b))) := by
 obtain ⟨hU, g, a0, b0, c0, d0, hG, hE, hS⟩ := hI
 have htN : t < N := by omega
 have hL2 := hE.least hL
 obtain ⟨hp, hq⟩ := oC hL2
 obtain ⟨⟨a, b, c, d⟩, hB⟩ : ∃ x, x = blkAt t p q a0 b0 c0 d0 := ⟨_, rfl⟩
 obtain ⟨h1, h2, h3, h4, h5, h6, h7, h8, h9⟩ := wO hΔ hLM hS hN hL2 hB.symm
 have hsB := (hE.stB htN htN hL.2.1 hL.2.2.2.1).trans (u9 (n := N) (g := g) hp hq hB.symm)
 have hrB := (hsB.rdiv htN htN).trans tT
 rw [fC] at hrB
 refine ⟨hU, hL.2.1, hL.2.2.2.1, g, a, b, c, d, hG, h1, h2, h3, h4, h5, h6, h7, h8, h9, hsB, hrB, fun hz => ?_⟩
 have hcB := (hrB.cdiv htN htN).trans tU
 rw [hz, Int.mul_zero, Int.sub_zero, fC] at hcB
 exact hcB
theorem oG (hΔ : 0 < Δ) (hLM : ∀ x, x ≤ MT → x.log2 ≤ LM) (hN : t + 1 < N) (hG : ∀ g, G g → ∀ i, i < t → Lb K (g i)) (hMT : ∀ z : Int, z.natAbs ≤ 2 * MT → Lb K z) (hΔM : Δ ≤ MT) : Runs N N t K (BlkI Δ LM MT N t A G) := by
 have htN : t < N := by omega
 have mlb : ∀ {x : Int} {n : Nat}, x.natAbs + n * Δ ≤ MT → Lb K x := fun h => hMT _ (by omega)
 have d1lb : ∀ {a b c d : Int} {n : Nat}, Le2 a b c d → (a * d - b * c).natAbs = Δ → b.natAbs + n * Δ ≤ MT → Lb K (d - c / a * b) := fun {a b c d n} hl hd hb =>
  hMT _ (by have := oD (d1 := d - c / a * b) hl.1 (eD (x := c) hl.1) ((congrArg Int.natAbs (fm a b c d)).trans hd); omega)
 refine ⟨?_, ?_, ?_, ?_, ?_, ?_, ?_⟩
 ·rintro n D ⟨_, g, a, b, c, d, hg, hE, hS⟩ i j hi hj
  rw [hE i j hi hj]
  exact oF (hG g hg) (mlb hS.ba) (mlb hS.bb) (mlb hS.bc) (mlb hS.bd)
 ·intro n D p q hI hL i j hi hj
  obtain ⟨_, _, _, g, a, b, c, d, hg, hl, hd, ha, hb, hc, hdd, _, _, _, _, hr, _⟩ := gi hΔ hLM hN hI hL
  rw [hr i j hi hj]
  have hm := eD (x := c) hl.1
  exact oF (hG g hg) (mlb ha) (mlb hb) (hMT _ (by omega)) (d1lb hl hd hb)
 ·rintro n D p q hI hL ⟨x, h1, h2, h3⟩
  obtain ⟨hU, hpN, hqN, g, a, b, c, d, hg, hl, hd, ha, hb, hc, hdd, g1, _, _, hs, hr, _⟩ := gi hΔ hLM hN hI hL
  rw [hs x t h2 htN, hs t t htN htN, cS] at h3
  by_cases e : x = t + 1
  ·subst e
   rw [dz] at h3
   obtain ⟨m, hm, hS⟩ := g1 h3
   exact ⟨m, hm, (hU.stB htN hpN hqN).rdiv htN, g, _, _, _, _, hg, hr, hS⟩
  ·rw [bO (by omega), if_neg (by omega), Int.zero_emod] at h3
   exact absurd rfl h3
 ·intro n D p q hI hL hz i j hi hj
  obtain ⟨_, _, _, g, a, b, c, d, hg, hl, hd, ha, hb, hc, hdd, _, _, _, hs, hr, hC⟩ := gi hΔ hLM hN hI hL
  have hcz : c % a = 0 := by
   have := hz (t + 1) (by omega) hN
   rwa [hs (t + 1) t hN htN, hs t t htN htN, dz, cS] at this
  rw [hC hcz i j hi hj]
  have hm := eD (x := b) hl.1
  exact oF (hG g hg) (mlb ha) (hMT _ (by omega)) cc (d1lb hl hd hb)
 ·rintro n D p q hI hL hz ⟨x, h1, h2, h3⟩
  obtain ⟨hU, hpN, hqN, g, a, b, c, d, hg, hl, hd, ha, hb, hc, hdd, _, g2, _, hs, hr, hC⟩ := gi hΔ hLM hN hI hL
  have hcz : c % a = 0 := by
   have := hz (t + 1) (by omega) hN
   rwa [hs (t + 1) t hN htN, hs t t htN htN, dz, cS] at this
  rw [hr t x htN h2, hr t t htN htN, cS] at h3
  by_cases e : x = t + 1
  ·subst e
   rw [dI] at h3
   obtain ⟨m, hm, hS⟩ := g2 hcz h3
   exact ⟨m, hm, hU.stC htN hpN hqN, g, _, _, _, _, hg, hC hcz, hS⟩
  ·rw [bO (by omega), if_neg (by omega), Int.zero_emod] at h3
   exact absurd rfl h3
 ·intro n D p q hI hL hz hz2 i h1 h2 j hj
  obtain ⟨hU, hpN, hqN, g, a, b, c, d, hg, hl, hd, ha, hb, hc, hdd, _, _, _, hs, hr, hC⟩ := gi hΔ hLM hN hI hL
  have hcz : c % a = 0 := by
   have := hz (t + 1) (by omega) hN
   rwa [hs (t + 1) t hN htN, hs t t htN htN, dz, cS] at this
  have hbz : b % a = 0 := by
   have := hz2 (t + 1) (by omega) hN
   rwa [hr t (t + 1) htN hN, hr t t htN htN, dI, cS] at this
  rw [hC hcz t j htN hj, hC hcz i j h2 hj, hbz]
  by_cases e1 : j = t
  ·subst e1
   rw [cS, show bm j g a 0 0 (d - c / a * b) i j = 0 by
    by_cases e2 : i = j + 1
    ·rw [e2, dz]
    ·rw [bO (by omega), if_neg (by omega)], Int.mul_zero, Int.add_zero]
   exact mlb ha
  ·by_cases e2 : j = t + 1
   ·subst e2
    rw [dI, Int.zero_add, Int.one_mul]
    by_cases e3 : i = t + 1
    ·rw [e3, dW]; exact d1lb hl hd hb
    ·rw [bO (by omega), if_neg (by omega)]; exact cc
   ·rw [bO (by omega), bO (by omega), if_neg (by omega), if_neg (by omega)]; exact cc
 ·rintro n D p q hI hL hz hz2 i h1 h2 ⟨x, h3, h4, h5⟩
  obtain ⟨hU, hpN, hqN, g, a, b, c, d, hg, hl, hd, ha, hb, hc, hdd, _, _, g3, hs, hr, hC⟩ := gi hΔ hLM hN hI hL
  have hcz : c % a = 0 := by
   have := hz (t + 1) (by omega) hN
   rwa [hs (t + 1) t hN htN, hs t t htN htN, dz, cS] at this
  have hbz : b % a = 0 := by
   have := hz2 (t + 1) (by omega) hN
   rwa [hr t (t + 1) htN hN, hr t t htN htN, dI, cS] at this
  have hC' := hC hcz
  rw [hC' i x h2 h4, hC' t t htN htN, cS] at h5
  by_cases e : i = t + 1 ∧ x = t + 1
  ·obtain ⟨rfl, rfl⟩ := e
   rw [dW] at h5
   obtain ⟨m, hm, hS⟩ := g3 hcz hbz h5
   refine ⟨m, hm, (hU.stC htN hpN hqN).radd (by omega) hN, g, _, _, _, _, hg, ((hC'.radd htN hN).trans tV), ?_⟩
   rw [hbz, Int.mul_zero, Int.add_zero, Int.one_mul, Int.zero_add]
   exact hS
  ·rw [bO (by omega), if_neg (by omega), Int.zero_emod] at h5
   exact absurd rfl h5
theorem qi (hΔ : 0 < Δ) (hLM : ∀ x, x ≤ MT → x.log2 ≤ LM) (hN : t + 1 < N) {A' : Mat} (h : StepR N N t (BlkI Δ LM MT N t A G) A') :
  UE N A A' ∧ ∃ g a d, G g ∧ Eqm N N A' (bm t g a 0 0 d) ∧ 0 < a ∧ d % a = 0 ∧ (a * d).natAbs = Δ := by
 have htN : t < N := by omega
 rcases h with ⟨n, hI, hz⟩ | ⟨n, D, p, q, hI, hL, hrz, hcz2, hdv, h⟩
 ·exfalso
  obtain ⟨_, g, a, b, c, d, _, hE, hS⟩ := hI
  have z00 := hz t t (Nat.le_refl _) htN (Nat.le_refl _) htN
  have z01 := hz t (t + 1) (Nat.le_refl _) htN (by omega) hN
  rw [hE t t htN htN, cS] at z00
  rw [hE t (t + 1) htN hN, dI] at z01
  have := hS.det
  rw [z00, z01] at this
  simp at this
  omega
 ·obtain ⟨hU, hpN, hqN, g, a, b, c, d, hg, hl, hd, _, _, _, _, _, _, _, hs, hr, hC⟩ := gi hΔ hLM hN hI hL
  have hcz : c % a = 0 := by
   have := hrz (t + 1) (by omega) hN
   rwa [hs (t + 1) t hN htN, hs t t htN htN, dz, cS] at this
  have hbz : b % a = 0 := by
   have := hcz2 (t + 1) (by omega) hN
   rwa [hr t (t + 1) htN hN, hr t t htN htN, dI, cS] at this
  have hC' := hC hcz
  rw [hbz] at hC'
  have hdz : (d - c / a * b) % a = 0 := by
   have := hdv (t + 1) (t + 1) (by omega) hN (by omega) hN
   rwa [hC' (t + 1) (t + 1) hN hN, hC' t t htN htN, dW, cS] at this
  have hds := fm a b c d
  rw [hcz, Int.mul_zero, Int.sub_zero] at hds
  have hUC := hU.stC htN hpN hqN
  rcases h with ⟨rfl, hn⟩ | ⟨rfl, hn⟩
  ·rw [hC' t t htN htN, cS] at hn
   exact ⟨hUC, g, a, _, hg, hC', by have := hl.1; omega, hdz, by rw [hds]; exact hd⟩
  ·rw [hC' t t htN htN, cS] at hn
   have hE := (hC'.rneg htN).trans tW
   rw [show (-0 : Int) = 0 from rfl] at hE
   exact ⟨hUC.rneg htN, g, -a, _, hg, hE, by omega, by rw [Int.emod_neg]; exact hdz, by rw [Int.neg_mul, Int.natAbs_neg, hds]; exact hd⟩
end
end Go.Proofs.YtppipmkpmmdcjaaGreat
namespace Go.Proofs.YtppipmkpmmdcjaaGreat
open Go.W Go.LM Go.LA
def mn (D : Mat) (i k j l : Nat) : Int := D i j * D k l - D i l * D k j
theorem dZ (M : Mat) : det 3 M = M 0 0 * (M 1 1 * M 2 2 - M 1 2 * M 2 1) - M 0 1 * (M 1 0 * M 2 2 - M 1 2 * M 2 0) + M 0 2 * (M 1 0 * M 2 1 - M 1 1 * M 2 0) := by
 rw [bX, bJ, bJ, bJ, eC, io, io, io]
 have s0 : Go.LA.sgn 0 = 1 := rfl
 have s1 : Go.LA.sgn 1 = -1 := rfl
 have s2 : Go.LA.sgn 2 = 1 := rfl
 rw [s0, s1, s2]
 have k : sk 0 0 = 1 ∧ sk 0 1 = 2 ∧ sk 1 0 = 0 ∧ sk 1 1 = 2 ∧ sk 2 0 = 0 ∧ sk 2 1 = 1 := by decide
 rw [k.1, k.2.1, k.2.2.1, k.2.2.2.1, k.2.2.2.2.1, k.2.2.2.2.2]
 grind
theorem ee {p : Nat → Prop} (h0 : p 0) (h1 : p 1) (h2 : p 2) : ∀ i, i < 3 → p i := fun i hi => by
 match i, hi with
 | 0, _ => exact h0
 | 1, _ => exact h1
 | 2, _ => exact h2
theorem jE {p : Nat → Nat → Prop} (h00 : p 0 0) (h01 : p 0 1) (h02 : p 0 2) (h10 : p 1 0) (h11 : p 1 1) (h12 : p 1 2) (h20 : p 2 0) (h21 : p 2 1) (h22 : p 2 2) : ∀ i j, i < 3 → j < 3 → p i j := fun i j hi hj =>
 ee (p := fun i => p i j) (ee (p := p 0) h00 h01 h02 j hj) (ee (p := p 1) h10 h11 h12 j hj) (ee (p := p 2) h20 h21 h22 j hj) i hi
structure J3 (e : Nat) (D : Mat) : Prop where
 en : ∀ i j, i < 3 → j < 3 → Lb e (D i j)
 mi : ∀ i k j l, i < 3 → k < 3 → j < 3 → l < 3 → Lb e (mn D i k j l)
 dt : Lb e (det 3 D)
section
variable {e : Nat} {D D' : Mat}
theorem kj (D : Mat) (i k j l : Nat) : mn D k i j l = - mn D i k j l := by unfold mn; grind
theorem qj (D : Mat) (i j l : Nat) : mn D i i j l = 0 := by unfold mn; grind
theorem J3.mono {e' : Nat} (h : J3 e D) (he : e ≤ e') : J3 e' D := ⟨fun i j hi hj => (h.en i j hi hj).mono he, fun i k j l hi hk hj hl => (h.mi i k j l hi hk hj hl).mono he, h.dt.mono he⟩
theorem lp {x y z u : Int} (hx : Lb e x) (hy : Lb e y) (hz : Lb e z) (h : u.natAbs ≤ x.natAbs + y.natAbs + z.natAbs) : Lb (e + 1) u := by
 unfold Lb at *
 rw [Nat.pow_succ]
 omega
theorem lv {P m x y z r s : Int} (hP : P ≠ 0) (hr : r.natAbs ≤ P.natAbs) (hs : s.natAbs ≤ P.natAbs) (h : P * x = m + r * y + s * z) : x.natAbs ≤ m.natAbs + y.natAbs + z.natAbs := by
 rcases Nat.lt_or_ge (m.natAbs + y.natAbs + z.natAbs) x.natAbs with hlt | hge
 ·exfalso
  have h1 : (P * x).natAbs ≤ m.natAbs + (r * y).natAbs + (s * z).natAbs := by omega
  rw [Int.natAbs_mul, Int.natAbs_mul, Int.natAbs_mul] at h1
  have h2 : P.natAbs * (m.natAbs + y.natAbs + z.natAbs + 1) ≤ P.natAbs * x.natAbs := Nat.mul_le_mul_left _ hlt
  have h3 := Nat.mul_le_mul_right y.natAbs hr
  have h4 := Nat.mul_le_mul_right z.natAbs hs
  have h5 : 1 * m.natAbs ≤ P.natAbs * m.natAbs := Nat.mul_le_mul_right _ (by omega)
  rw [Nat.mul_add, Nat.mul_add, Nat.mul_add, Nat.mul_one] at h2
  omega
 ·exact hge
theorem J3.rdiv (h : J3 e D) (hP : D 0 0 ≠ 0) (hd : Lb e (det 3 (rdiv D 0))) : J3 (e + 1) (rdiv D 0) := by
 obtain ⟨f1, hf1⟩ : ∃ f, f = D 1 0 / D 0 0 := ⟨_, rfl⟩
 obtain ⟨f2, hf2⟩ : ∃ f, f = D 2 0 / D 0 0 := ⟨_, rfl⟩
 have r0 : ∀ j, Go.Proofs.YtppipmkpmmdcjaaGreat.rdiv D 0 0 j = D 0 j := fun j => if_neg (by omega)
 have r1 : ∀ j, Go.Proofs.YtppipmkpmmdcjaaGreat.rdiv D 0 1 j = D 1 j - f1 * D 0 j := fun j => by rw [hf1]; exact if_pos (by omega)
 have r2 : ∀ j, Go.Proofs.YtppipmkpmmdcjaaGreat.rdiv D 0 2 j = D 2 j - f2 * D 0 j := fun j => by rw [hf2]; exact if_pos (by omega)
 have m1 : (D 1 0 - f1 * D 0 0).natAbs ≤ (D 0 0).natAbs := by rw [hf1, fC]; exact Nat.le_of_lt (eD hP)
 have m2 : (D 2 0 - f2 * D 0 0).natAbs ≤ (D 0 0).natAbs := by rw [hf2, fC]; exact Nat.le_of_lt (eD hP)
 have z0 : (0 : Int).natAbs ≤ (D 0 0).natAbs := by simp
 have en1 : ∀ j, j < 3 → Lb (e + 1) (D 1 j - f1 * D 0 j) := fun j hj =>
  lp (h.mi 0 1 0 j (by omega) (by omega) (by omega) hj) (h.en 0 j (by omega) hj) cc (lv (z := 0) hP m1 z0 (by unfold mn; grind))
 have en2 : ∀ j, j < 3 → Lb (e + 1) (D 2 j - f2 * D 0 j) := fun j hj =>
  lp (h.mi 0 2 0 j (by omega) (by omega) (by omega) hj) (h.en 0 j (by omega) hj) cc (lv (z := 0) hP m2 z0 (by unfold mn; grind))
 have q01 : ∀ j l, mn (Go.Proofs.YtppipmkpmmdcjaaGreat.rdiv D 0) 0 1 j l = mn D 0 1 j l := fun j l => by unfold mn; rw [r0, r0, r1, r1]; grind
 have q02 : ∀ j l, mn (Go.Proofs.YtppipmkpmmdcjaaGreat.rdiv D 0) 0 2 j l = mn D 0 2 j l := fun j l => by unfold mn; rw [r0, r0, r2, r2]; grind
 have T : ∀ j l, j < 3 → l < 3 → Lb e (D 0 0 * mn D 1 2 j l - D 1 0 * mn D 0 2 j l + D 2 0 * mn D 0 1 j l) := by
  have hdt := h.dt
  rw [dZ] at hdt
  refine jE (p := fun j l => Lb e (D 0 0 * mn D 1 2 j l - D 1 0 * mn D 0 2 j l + D 2 0 * mn D 0 1 j l)) ?_ ?_ ?_ ?_ ?_ ?_ ?_ ?_ ?_
  ·rw [show D 0 0 * mn D 1 2 0 0 - D 1 0 * mn D 0 2 0 0 + D 2 0 * mn D 0 1 0 0 = 0 by unfold mn; grind]; exact cc
  ·rw [show D 0 0 * mn D 1 2 0 1 - D 1 0 * mn D 0 2 0 1 + D 2 0 * mn D 0 1 0 1 = 0 by unfold mn; grind]; exact cc
  ·rw [show D 0 0 * mn D 1 2 0 2 - D 1 0 * mn D 0 2 0 2 + D 2 0 * mn D 0 1 0 2 = 0 by unfold mn; grind]; exact cc
  ·rw [show D 0 0 * mn D 1 2 1 0 - D 1 0 * mn D 0 2 1 0 + D 2 0 * mn D 0 1 1 0 = 0 by unfold mn; grind]; exact cc
  ·rw [show D 0 0 * mn D 1 2 1 1 - D 1 0 * mn D 0 2 1 1 + D 2 0 * mn D 0 1 1 1 = 0 by unfold mn; grind]; exact cc
  ·rw [show D 0 0 * mn D 1 2 1 2 - D 1 0 * mn D 0 2 1 2 + D 2 0 * mn D 0 1 1 2 = D 0 0 * (D 1 1 * D 2 2 - D 1 2 * D 2 1) - D 0 1 * (D 1 0 * D 2 2 - D 1 2 * D 2 0) + D 0 2 * (D 1 0 * D 2 1 - D 1 1 * D 2 0) by unfold mn; grind]; exact hdt
  ·rw [show D 0 0 * mn D 1 2 2 0 - D 1 0 * mn D 0 2 2 0 + D 2 0 * mn D 0 1 2 0 = 0 by unfold mn; grind]; exact cc
  ·rw [show D 0 0 * mn D 1 2 2 1 - D 1 0 * mn D 0 2 2 1 + D 2 0 * mn D 0 1 2 1 = -(D 0 0 * (D 1 1 * D 2 2 - D 1 2 * D 2 1) - D 0 1 * (D 1 0 * D 2 2 - D 1 2 * D 2 0) + D 0 2 * (D 1 0 * D 2 1 - D 1 1 * D 2 0)) by unfold mn; grind]; exact hdt.neg
  ·rw [show D 0 0 * mn D 1 2 2 2 - D 1 0 * mn D 0 2 2 2 + D 2 0 * mn D 0 1 2 2 = 0 by unfold mn; grind]; exact cc
 have q12 : ∀ j l, j < 3 → l < 3 → Lb (e + 1) (mn (Go.Proofs.YtppipmkpmmdcjaaGreat.rdiv D 0) 1 2 j l) := fun j l hj hl => by
  refine lp (T j l hj hl) (h.mi 0 2 j l (by omega) (by omega) hj hl) (h.mi 0 1 j l (by omega) (by omega) hj hl) (lv (r := D 1 0 - f1 * D 0 0) (s := -(D 2 0 - f2 * D 0 0)) hP m1 (by rw [Int.natAbs_neg]; exact m2) ?_)
  unfold mn
  rw [r1, r1, r2, r2]
  grind
 refine ⟨fun i j hi hj => ?_, fun i k j l hi hk hj hl => ?_, hd.mono (by omega)⟩
 ·exact ee (p := fun i => Lb (e + 1) (Go.Proofs.YtppipmkpmmdcjaaGreat.rdiv D 0 i j)) (by rw [r0]; exact (h.en 0 j (by omega) hj).mono (by omega)) (by rw [r1]; exact en1 j hj) (by rw [r2]; exact en2 j hj) i hi
 ·have u01 : Lb (e + 1) (mn (Go.Proofs.YtppipmkpmmdcjaaGreat.rdiv D 0) 0 1 j l) := by rw [q01]; exact (h.mi 0 1 j l (by omega) (by omega) hj hl).mono (by omega)
  have u02 : Lb (e + 1) (mn (Go.Proofs.YtppipmkpmmdcjaaGreat.rdiv D 0) 0 2 j l) := by rw [q02]; exact (h.mi 0 2 j l (by omega) (by omega) hj hl).mono (by omega)
  have u12 := q12 j l hj hl
  have us : ∀ i, Lb (e + 1) (mn (Go.Proofs.YtppipmkpmmdcjaaGreat.rdiv D 0) i i j l) := fun i => by rw [qj]; exact cc
  exact ee (p := fun i => Lb (e + 1) (mn (Go.Proofs.YtppipmkpmmdcjaaGreat.rdiv D 0) i k j l))
   (ee (p := fun k => Lb (e + 1) (mn (Go.Proofs.YtppipmkpmmdcjaaGreat.rdiv D 0) 0 k j l)) (us 0) u01 u02 k hk)
   (ee (p := fun k => Lb (e + 1) (mn (Go.Proofs.YtppipmkpmmdcjaaGreat.rdiv D 0) 1 k j l)) (by rw [kj]; exact u01.neg) (us 1) u12 k hk)
   (ee (p := fun k => Lb (e + 1) (mn (Go.Proofs.YtppipmkpmmdcjaaGreat.rdiv D 0) 2 k j l)) (by rw [kj]; exact u02.neg) (by rw [kj]; exact u12.neg) (us 2) k hk) i hi
def trM (D : Mat) : Mat := fun i j => D j i
theorem qk (D : Mat) : det 3 (trM D) = det 3 D := by rw [dZ, dZ]; unfold trM; grind
theorem J3.tr (h : J3 e D) : J3 e (trM D) := ⟨fun i j hi hj => h.en j i hj hi, fun i k j l hi hk hj hl => by
 have : mn (trM D) i k j l = mn D j l i k := by unfold mn trM; grind
 rw [this]; exact h.mi j l i k hj hl hi hk, by rw [qk]; exact h.dt⟩
theorem J3.cdiv (h : J3 e D) (hP : D 0 0 ≠ 0) (hd : Lb e (det 3 (cdiv D 0))) : J3 (e + 1) (cdiv D 0) := by
 have e1 : Go.Proofs.YtppipmkpmmdcjaaGreat.cdiv D 0 = trM (Go.Proofs.YtppipmkpmmdcjaaGreat.rdiv (trM D) 0) := rfl
 have := h.tr.rdiv (show trM D 0 0 ≠ 0 from hP) (by
  rw [e1, qk] at hd; exact hd)
 rw [e1]
 exact this.tr
theorem J3.stB {p q : Nat} (h : J3 e D) (hp : p < 3) (hq : q < 3) (hd : Lb e (det 3 (stB D 0 p q))) : J3 e (stB D 0 p q) :=
 ⟨fun i j hi hj => h.en _ _ (du (by omega) hp hi) (np (by omega) hq hj), fun i k j l hi hk hj hl => h.mi _ _ _ _ (du (by omega) hp hi) (du (by omega) hp hk) (np (by omega) hq hj) (np (by omega) hq hl), hd⟩
theorem J3.radd {i : Nat} (h : J3 e D) (hi : i < 3) (_hi0 : i ≠ 0) (hd : Lb e (det 3 (radd D 0 i))) : J3 (e + 1) (radd D 0 i) := by
 have a0 : ∀ j, Go.Proofs.YtppipmkpmmdcjaaGreat.radd D 0 i 0 j = D 0 j + D i j := fun j => by unfold Go.Proofs.YtppipmkpmmdcjaaGreat.radd; rw [aJ]; show D 0 j + 1 * D i j = _; rw [Int.one_mul]
 have a1 : ∀ x j, x ≠ 0 → Go.Proofs.YtppipmkpmmdcjaaGreat.radd D 0 i x j = D x j := fun x j hx => by unfold Go.Proofs.YtppipmkpmmdcjaaGreat.radd; rw [aO _ _ hx]
 have m0 : ∀ k j l, k < 3 → k ≠ 0 → j < 3 → l < 3 → Lb (e + 1) (mn (Go.Proofs.YtppipmkpmmdcjaaGreat.radd D 0 i) 0 k j l) := fun k j l hk hk0 hj hl => by
  have : mn (Go.Proofs.YtppipmkpmmdcjaaGreat.radd D 0 i) 0 k j l = mn D 0 k j l + mn D i k j l := by unfold mn; rw [a0, a0, a1 k _ hk0, a1 k _ hk0]; grind
  rw [this]
  exact (h.mi 0 k j l (by omega) hk hj hl).add (h.mi i k j l hi hk hj hl)
 refine ⟨fun x j hx hj => ?_, fun x k j l hx hk hj hl => ?_, hd.mono (by omega)⟩
 ·by_cases e0 : x = 0
  ·rw [e0, a0]; exact (h.en 0 j (by omega) hj).add (h.en i j hi hj)
  ·rw [a1 x j e0]; exact (h.en x j hx hj).mono (by omega)
 ·by_cases e0 : x = 0
  ·by_cases e1 : k = 0
   ·rw [e0, e1, qj]; exact cc
   ·rw [e0]; exact m0 k j l hk e1 hj hl
  ·by_cases e1 : k = 0
   ·rw [e1, kj]; exact (m0 x j l hx e0 hj hl).neg
   ·have : mn (Go.Proofs.YtppipmkpmmdcjaaGreat.radd D 0 i) x k j l = mn D x k j l := by unfold mn; rw [a1 x _ e0, a1 x _ e0, a1 k _ e1, a1 k _ e1]
    rw [this]; exact (h.mi x k j l hx hk hj hl).mono (by omega)
end
end Go.Proofs.YtppipmkpmmdcjaaGreat
namespace Go.Proofs.YtppipmkpmmdcjaaGreat
open Go.W Go.LM Go.LA
def Ms3 (n : Nat) (D : Mat) : Prop := (∃ i j, i < 3 ∧ j < 3 ∧ D i j ≠ 0 ∧ 2 * (D i j).natAbs + 1 ≤ n) ∨ (D 0 0 ≠ 0 ∧ D 1 0 = 0 ∧ D 2 0 = 0 ∧ (∃ j, 0 < j ∧ j < 3 ∧ D 0 j % D 0 0 ≠ 0) ∧ 2 * (D 0 0).natAbs ≤ n)
def FI (e0 n0 : Nat) (A : Mat) (n : Nat) (D : Mat) : Prop := UE 3 A D ∧ n ≤ n0 ∧ J3 (e0 + 3 * (n0 - n)) D ∧ Ms3 n D
theorem lx (D : Mat) (t a b : Nat) : stB D t t t a b = D a b := by
 rw [cY]
 have h1 : swp2 t t a = a := by unfold swp2; split <;> omega
 have h2 : cs2 t t b = b := by unfold cs2; split <;> omega
 rw [h1, h2]
theorem UE.lbdet {n e : Nat} {A D : Mat} (h : UE n A D) (hd : Lb e (Go.LA.det n A)) : Lb e (Go.LA.det n D) := by unfold Lb at *; rw [h.det]; exact hd
section
variable {e0 n0 K n p q : Nat} {A D : Mat}
theorem iL (hdA : Lb e0 (det 3 A)) (hI : FI e0 n0 A n D) (hL : LeastAt D 3 3 0 p q) :
  p < 3 ∧ q < 3 ∧ n ≤ n0 ∧ stB D 0 p q 0 0 ≠ 0 ∧ 2 * (stB D 0 p q 0 0).natAbs ≤ n ∧ (2 * (stB D 0 p q 0 0).natAbs + 1 ≤ n ∨ (stB D 0 p q 1 0 = 0 ∧ stB D 0 p q 2 0 = 0 ∧ ∃ j, 0 < j ∧ j < 3 ∧ stB D 0 p q 0 j % stB D 0 p q 0 0 ≠ 0)) ∧
  UE 3 A (stB D 0 p q) ∧ J3 (e0 + 3 * (n0 - n)) (stB D 0 p q) ∧ J3 (e0 + 3 * (n0 - n) + 1) (rdiv (stB D 0 p q) 0) ∧ J3 (e0 + 3 * (n0 - n) + 1 + 1) (stC D 0 p q) := by
 obtain ⟨hU, hn, hJ, hM⟩ := hI
 obtain ⟨_, hp, _, hq, hne, hle, hfi⟩ := hL
 have hB := hU.stB (t := 0) (by omega) hp hq
 have hR := hB.rdiv (t := 0) (by omega)
 have hC := hR.cdiv (t := 0) (by omega)
 have lbd : ∀ {X : Mat}, UE 3 A X → Lb (e0 + 3 * (n0 - n)) (det 3 X) := fun h => (h.lbdet hdA).mono (by omega)
 have hne' : stB D 0 p q 0 0 ≠ 0 := by rw [nm]; exact hne
 have jB := hJ.stB hp hq (lbd hB)
 have jR := jB.rdiv hne' (lbd hR)
 have jC := jR.cdiv (by unfold rdiv; rw [if_neg (by omega)]; exact hne') ((lbd hC).mono (by omega))
 have hm : 2 * (stB D 0 p q 0 0).natAbs + 1 ≤ n ∨ (2 * (stB D 0 p q 0 0).natAbs ≤ n ∧ stB D 0 p q 1 0 = 0 ∧ stB D 0 p q 2 0 = 0 ∧ ∃ j, 0 < j ∧ j < 3 ∧ stB D 0 p q 0 j % stB D 0 p q 0 0 ≠ 0) := by
  rcases hM with ⟨i, j, hi, hj, h0, h1⟩ | ⟨h0, h1, h2, ⟨j, j1, j2, j3⟩, h4⟩
  ·have := hle i j (by omega) hi (by omega) hj h0
   rw [nm]; exact .inl (by omega)
  ·by_cases e : p = 0 ∧ q = 0
   ·obtain ⟨rfl, rfl⟩ := e
    rw [lx, lx, lx]
    exact .inr ⟨h4, h1, h2, j, j1, j2, by rw [lx]; exact j3⟩
   ·have := hfi 0 0 (Nat.le_refl _) (Nat.le_refl _) (by omega) (by omega) h0
    rw [nm]; exact .inl (by omega)
 refine ⟨hp, hq, hn, hne', ?_, ?_, hB, jB, jR, jC⟩
 ·rcases hm with h | h
  ·omega
  ·exact h.1
 ·rcases hm with h | h
  ·exact .inl h
  ·exact .inr h.2
theorem tX (hdA : Lb e0 (det 3 A)) (hK : e0 + 3 * n0 + 4 ≤ K) : Runs 3 3 0 K (FI e0 n0 A) := by
 have rd0 : ∀ (B : Mat) j, rdiv B 0 0 j = B 0 j := fun B j => if_neg (by omega)
 have rdx : ∀ (B : Mat) x, 0 < x → rdiv B 0 x 0 = B x 0 % B 0 0 := fun B x hx => by unfold rdiv; rw [if_pos hx]; exact fC _ _
 have cd0 : ∀ (R : Mat) i, cdiv R 0 i 0 = R i 0 := fun R i => if_neg (by omega)
 have cdx : ∀ (R : Mat) x, 0 < x → cdiv R 0 0 x = R 0 x % R 0 0 := fun R x hx => by unfold cdiv; rw [if_pos hx]; exact fC _ _
 refine ⟨?_, ?_, ?_, ?_, ?_, ?_, ?_⟩
 ·rintro n D ⟨_, hn, hJ, _⟩ a b ha hb
  exact (hJ.en a b ha hb).mono (by omega)
 ·intro n D p q hI hL a b ha hb
  obtain ⟨_, _, hn, _, _, _, _, _, jR, _⟩ := iL hdA hI hL
  exact (jR.en a b ha hb).mono (by omega)
 ·rintro n D p q hI hL ⟨x, h1, h2, h3⟩
  obtain ⟨hp, hq, hn, hne, hq2, _, hB, jB, jR, _⟩ := iL hdA hI hL
  have hlt := eD (x := stB D 0 p q x 0) hne
  refine ⟨2 * (stB D 0 p q x 0 % stB D 0 p q 0 0).natAbs + 1, by omega, hB.rdiv (by omega), by omega, jR.mono (by omega), .inl ⟨x, 0, h2, by omega, ?_, ?_⟩⟩
  ·rw [rdx _ _ h1]; exact h3
  ·rw [rdx _ _ h1]; exact Nat.le_refl _
 ·intro n D p q hI hL _ a b ha hb
  obtain ⟨_, _, hn, _, _, _, _, _, _, jC⟩ := iL hdA hI hL
  exact (jC.en a b ha hb).mono (by omega)
 ·rintro n D p q hI hL _ ⟨x, h1, h2, h3⟩
  obtain ⟨hp, hq, hn, hne, hq2, _, hB, jB, jR, jC⟩ := iL hdA hI hL
  rw [rd0, rd0] at h3
  have hlt := eD (x := stB D 0 p q 0 x) hne
  have hx : stC D 0 p q 0 x = stB D 0 p q 0 x % stB D 0 p q 0 0 := by unfold stC; rw [cdx _ _ h1, rd0, rd0]
  exact ⟨2 * (stB D 0 p q 0 x % stB D 0 p q 0 0).natAbs + 1, by omega, (hB.rdiv (by omega)).cdiv (by omega), by omega, jC.mono (by omega), .inl ⟨0, x, by omega, h2, by rw [hx]; exact h3, by rw [hx]; exact Nat.le_refl _⟩⟩
 ·intro n D p q hI hL _ _ i h1 h2 b hb
  obtain ⟨_, _, hn, _, _, _, _, _, _, jC⟩ := iL hdA hI hL
  rw [Int.one_mul]
  exact ((jC.en 0 b (by omega) hb).add (jC.en i b h2 hb)).mono (by omega)
 ·rintro n D p q hI hL hz hz2 i h1 h2 ⟨b, h3, h4, h5⟩
  obtain ⟨hp, hq, hn, hne, hq2, hm, hB, jB, jR, jC⟩ := iL hdA hI hL
  have hm' : 2 * (stB D 0 p q 0 0).natAbs + 1 ≤ n := by
   rcases hm with h | ⟨_, _, j, j1, j2, j3⟩
   ·exact h
   ·have := hz2 j j1 j2
    rw [rd0, rd0] at this
    exact absurd this j3
  have hC := (hB.rdiv (t := 0) (by omega)).cdiv (t := 0) (by omega)
  have c00 : stC D 0 p q 0 0 = stB D 0 p q 0 0 := by unfold stC; rw [cd0, rd0]
  have cx0 : ∀ x, 0 < x → x < 3 → stC D 0 p q x 0 = 0 := fun x hx hx3 => by
   unfold stC; rw [cd0, rdx _ _ hx]; exact hz x hx hx3
  have c0x : ∀ x, 0 < x → x < 3 → stC D 0 p q 0 x = 0 := fun x hx hx3 => by
   unfold stC; rw [cdx _ _ hx]; exact hz2 x hx hx3
  have ra0 : ∀ j, radd (stC D 0 p q) 0 i 0 j = stC D 0 p q 0 j + 1 * stC D 0 p q i j := fun j => by unfold radd; rw [aJ]
  have rax : ∀ x j, x ≠ 0 → radd (stC D 0 p q) 0 i x j = stC D 0 p q x j := fun x j hx => by unfold radd; rw [aO _ _ hx]
  have hUR : UE 3 A (radd (stC D 0 p q) 0 i) := UE.radd hC (by omega) h2
  have r00 : radd (stC D 0 p q) 0 i 0 0 = stB D 0 p q 0 0 := by rw [ra0, c00, cx0 i h1 h2]; omega
  refine ⟨2 * (stB D 0 p q 0 0).natAbs, by omega, hUR, by omega, (jC.radd h2 (by omega) ((hUR.lbdet hdA).mono (by omega))).mono (by omega), .inr ⟨by rw [r00]; exact hne, by rw [rax 1 0 (by omega)]; exact cx0 1 (by omega) (by omega), by rw [rax 2 0 (by omega)]; exact cx0 2 (by omega) (by omega), ⟨b, h3, h4, ?_⟩, by rw [r00]; exact Nat.le_refl _⟩⟩
  rw [r00, ra0, c0x b h3 h4, Int.zero_add, Int.one_mul, ← c00]
  exact h5
theorem tY (P a b c d : Int) : det 3 (bm 1 (fun _ => P) a b c d) = P * (a * d - b * c) := by
 rw [dZ]
 have h : ∀ i j, ¬ ((i = 1 ∨ i = 2) ∧ (j = 1 ∨ j = 2)) → bm 1 (fun _ => P) a b c d i j = if i = j ∧ i < 1 then P else 0 := fun i j h => bO h
 rw [show bm 1 (fun _ => P) a b c d 1 1 = a from cS, show bm 1 (fun _ => P) a b c d 1 2 = b from dI, show bm 1 (fun _ => P) a b c d 2 1 = c from dz, show bm 1 (fun _ => P) a b c d 2 2 = d from dW,
  show bm 1 (fun _ => P) a b c d 0 0 = P by rw [h 0 0 (by omega)]; rfl, show bm 1 (fun _ => P) a b c d 0 1 = 0 by rw [h 0 1 (by omega)]; rfl, show bm 1 (fun _ => P) a b c d 0 2 = 0 by rw [h 0 2 (by omega)]; rfl]
 grind
theorem ve (hdA : Lb e0 (det 3 A)) (hd0 : det 3 A ≠ 0) (hK : e0 + 3 * n0 + 4 ≤ K) {A' : Mat} (hS : StepR 3 3 0 (FI e0 n0 A) A') :
  UE 3 A A' ∧ ∃ P a b c d, Eqm 3 3 A' (bm 1 (fun _ => P) a b c d) ∧ 0 < P ∧ P ∣ a ∧ P ∣ b ∧ P ∣ c ∧ P ∣ d ∧ Lb K P ∧ Lb K a ∧ Lb K b ∧ Lb K c ∧ Lb K d ∧ (P * (a * d - b * c)).natAbs = (det 3 A).natAbs := by
 have rd0 : ∀ (B : Mat) j, rdiv B 0 0 j = B 0 j := fun B j => if_neg (by omega)
 have rdx : ∀ (B : Mat) x, 0 < x → rdiv B 0 x 0 = B x 0 % B 0 0 := fun B x hx => by unfold rdiv; rw [if_pos hx]; exact fC _ _
 have cd0 : ∀ (R : Mat) i, cdiv R 0 i 0 = R i 0 := fun R i => if_neg (by omega)
 have cdx : ∀ (R : Mat) x, 0 < x → cdiv R 0 0 x = R 0 x % R 0 0 := fun R x hx => by unfold cdiv; rw [if_pos hx]; exact fC _ _
 rcases hS with ⟨n, hI, hz⟩ | ⟨n, D, p, q, hI, hL, hz, hz2, hdv, h⟩
 ·exfalso
  have h0 : det 3 A' = 0 := ob (by omega) (fun r hr => hz r 0 (by omega) hr (by omega) (by omega))
  have := hI.1.det
  rw [h0] at this
  omega
 ·obtain ⟨hp, hq, hn, hne, _, _, hB, _, _, jC⟩ := iL hdA hI hL
  have hC : UE 3 A (stC D 0 p q) := (hB.rdiv (t := 0) (by omega)).cdiv (t := 0) (by omega)
  have c00 : stC D 0 p q 0 0 ≠ 0 := by unfold stC; rw [cd0, rd0]; exact hne
  have cx0 : ∀ x, 0 < x → x < 3 → stC D 0 p q x 0 = 0 := fun x hx hx3 => by unfold stC; rw [cd0, rdx _ _ hx]; exact hz x hx hx3
  have c0x : ∀ x, 0 < x → x < 3 → stC D 0 p q 0 x = 0 := fun x hx hx3 => by unfold stC; rw [cdx _ _ hx]; exact hz2 x hx hx3
  have lb : ∀ i j, i < 3 → j < 3 → Lb K (stC D 0 p q i j) := fun i j hi hj => (jC.en i j hi hj).mono (by omega)
  have dvd : ∀ i j, 0 < i → i < 3 → 0 < j → j < 3 → stC D 0 p q 0 0 ∣ stC D 0 p q i j := fun i j h1 h2 h3 h4 => Int.dvd_of_emod_eq_zero (hdv i j h1 h2 h3 h4)
  have shape : ∀ (X : Mat) (P : Int), UE 3 A X → X 0 0 = P → (∀ x, 0 < x → x < 3 → X x 0 = 0) → (∀ x, 0 < x → x < 3 → X 0 x = 0) → (∀ i j, 0 < i → 0 < j → X i j = stC D 0 p q i j) → 0 < P → P.natAbs = (stC D 0 p q 0 0).natAbs →
    UE 3 A X ∧ ∃ P a b c d, Eqm 3 3 X (bm 1 (fun _ => P) a b c d) ∧ 0 < P ∧ P ∣ a ∧ P ∣ b ∧ P ∣ c ∧ P ∣ d ∧ Lb K P ∧ Lb K a ∧ Lb K b ∧ Lb K c ∧ Lb K d ∧ (P * (a * d - b * c)).natAbs = (det 3 A).natAbs := by
   intro X P hUX x00 xx0 x0x xr hP hPa
   have hE : Eqm 3 3 X (bm 1 (fun _ => P) (X 1 1) (X 1 2) (X 2 1) (X 2 2)) := fun i j hi hj => by
    refine jE (p := fun i j => X i j = bm 1 (fun _ => P) (X 1 1) (X 1 2) (X 2 1) (X 2 2) i j) ?_ ?_ ?_ ?_ ?_ ?_ ?_ ?_ ?_ i j hi hj
    ·rw [bO (by omega), if_pos (by omega)]; exact x00
    ·rw [bO (by omega), if_neg (by omega)]; exact x0x 1 (by omega) (by omega)
    ·rw [bO (by omega), if_neg (by omega)]; exact x0x 2 (by omega) (by omega)
    ·rw [bO (by omega), if_neg (by omega)]; exact xx0 1 (by omega) (by omega)
    ·exact cS.symm
    ·exact dI.symm
    ·rw [bO (by omega), if_neg (by omega)]; exact xx0 2 (by omega) (by omega)
    ·exact dz.symm
    ·exact dW.symm
   have pd : ∀ i j, 0 < i → i < 3 → 0 < j → j < 3 → P ∣ X i j := fun i j h1 h2 h3 h4 => by
    rw [xr i j h1 h3]
    exact Int.natAbs_dvd_natAbs.1 (by rw [hPa]; exact Int.natAbs_dvd_natAbs.2 (dvd i j h1 h2 h3 h4))
   have pl : ∀ i j, 0 < i → i < 3 → 0 < j → j < 3 → Lb K (X i j) := fun i j h1 h2 h3 h4 => by rw [xr i j h1 h3]; exact lb i j h2 h4
   refine ⟨hUX, P, X 1 1, X 1 2, X 2 1, X 2 2, hE, hP, pd 1 1 (by omega) (by omega) (by omega) (by omega), pd 1 2 (by omega) (by omega) (by omega) (by omega), pd 2 1 (by omega) (by omega) (by omega) (by omega), pd 2 2 (by omega) (by omega) (by omega) (by omega), ?_, pl 1 1 (by omega) (by omega) (by omega) (by omega), pl 1 2 (by omega) (by omega) (by omega) (by omega), pl 2 1 (by omega) (by omega) (by omega) (by omega), pl 2 2 (by omega) (by omega) (by omega) (by omega), ?_⟩
   ·have := lb 0 0 (by omega) (by omega)
    unfold Lb at *; rw [hPa]; exact this
   ·rw [← tY, ← bo (fun r c hr hc => hE r c hr hc)]; exact hUX.det
  rcases h with ⟨rfl, hn0⟩ | ⟨rfl, hn0⟩
  ·exact shape _ _ hC rfl cx0 c0x (fun _ _ _ _ => rfl) (by omega) rfl
  ·have g0 : ∀ j, rneg (stC D 0 p q) 0 0 j = - stC D 0 p q 0 j := fun j => by unfold rneg; rw [aJ]
   have gx : ∀ x j, x ≠ 0 → rneg (stC D 0 p q) 0 x j = stC D 0 p q x j := fun x j hx => by unfold rneg; rw [aO _ _ hx]
   exact shape _ _ (hC.rneg (t := 0) (by omega)) (g0 0) (fun x hx hx3 => by rw [gx x 0 (by omega)]; exact cx0 x hx hx3) (fun x hx hx3 => by rw [g0, c0x x hx hx3]; rfl) (fun i j hi _ => gx i j (by omega)) (by omega) (Int.natAbs_neg _)
end
end Go.Proofs.YtppipmkpmmdcjaaGreat
namespace Go.Proofs.YtppipmkpmmdcjaaGreat
open Go.W Go.LM Go.LA
section
variable {n : Nat} {A D U : Mat}
theorem sH (h : Uni n U) : Uni n (trM U) := sf (V := trM (uinv n U)) (fun i j hi hj => by
 have e : mm n (trM U) (trM (uinv n U)) i j = mm n (uinv n U) U j i := by
  unfold mm trM
  exact aX fun k _ => Int.mul_comm _ _
 rw [e, h.inv_mul hj hi]
 unfold idM
 by_cases q : i = j
 ·rw [if_pos q, if_pos q.symm]
 ·rw [if_neg q, if_neg (fun x => q x.symm)])
theorem ly (h : DH n n A D) : UE n A D := by
 obtain ⟨H, U, k, p, H2, U2, k2, p2, c1, _, c2, _, rfl⟩ := h
 refine ⟨trM U2, U, sH c2.1, c1.1, fun i j hi hj => ?_⟩
 show H2 j i = _
 rw [c2.2 j i hj hi, cM]
 unfold mm trM
 refine aX fun l hl => ?_
 have e := c1.2 l j hl hj
 unfold mm at e
 show H l j * U2 l i = _
 rw [e]
 exact Int.mul_comm _ _
theorem UE.symm (h : UE n A D) : UE n D A := by
 obtain ⟨X, Y, hX, hY, h⟩ := h
 refine ⟨uinv n X, uinv n Y, hX.inv, hY.inv, fun i j hi hj => ?_⟩
 have e1 : ∀ a b, a < n → b < n → mm n (uinv n X) D a b = mm n A Y a b := fun a b ha hb => by
  rw [cC (A' := uinv n X) (B' := mm n X (mm n A Y)) (fun _ _ => rfl) (fun k hk => by rw [h k b hk hb, cM]), ← cM,
   cC (A' := idM) (B' := mm n A Y) (fun k hk => hX.inv_mul ha hk) (fun _ _ => rfl), ln _ _ _ ha]
 rw [cC (A' := mm n A Y) (B' := uinv n Y) (fun k hk => e1 i k hi hk) (fun _ _ => rfl), cM,
  cC (A' := A) (B' := idM) (fun _ _ => rfl) (fun k hk => hY.mul_inv hk hj), mp _ _ _ hj]
theorem UE.trans {C : Mat} (h : UE n A D) (k : UE n D C) : UE n A C := by
 obtain ⟨X, Y, hX, hY, h⟩ := h
 obtain ⟨X', Y', hX', hY', k⟩ := k
 refine ⟨mm n X' X, mm n Y Y', hX'.mul hX, hY.mul hY', fun i j hi hj => ?_⟩
 rw [k i j hi hj, ← cM]
 refine cC (fun l hl => ?_) (fun _ _ => rfl)
 have e : mm n X' D i l = mm n X' (mm n X (mm n A Y)) i l := cC (fun _ _ => rfl) (fun q hq => by rw [h q l hq hl, cM])
 rw [e, ← cM, ← cM]
theorem qm (h : Uni n U) {j : Nat} (hj : j < n) : ∃ i, i < n ∧ U i j ≠ 0 := Classical.byContradiction fun hn =>
 h.ne (eR hj (fun r hr => Classical.byContradiction fun e => hn ⟨r, hr, e⟩))
theorem tZ (h : Uni n U) {i : Nat} (hi : i < n) : ∃ j, j < n ∧ U i j ≠ 0 := qm (sH h) hi
theorem wP {M : Nat} (hn : 0 < n) (hA : ∀ i j, i < n → j < n → (A i j).natAbs ≤ M) (h : UE n A D) (hz : ∀ i j, i < n → j < n → ¬ (i = 0 ∧ j = 0) → D i j = 0) : (D 0 0).natAbs ≤ M := by
 obtain ⟨X, Y, hX, hY, h⟩ := h.symm
 obtain ⟨i, hi, hXi⟩ := qm hX hn
 obtain ⟨j, hj, hYj⟩ := tZ hY hn
 have e : A i j = X i 0 * D 0 0 * Y 0 j := by
  rw [h i j hi hj]
  unfold mm
  rw [bV (k := 0) hn (fun l hl hl0 => by rw [eQ (fun k hk => by rw [hz k l hk hl (fun q => hl0 q.2), Int.mul_zero]), Int.zero_mul]), bV (k := 0) hn (fun k hk hk0 => by rw [hz k 0 hk hn (fun q => hk0 q.1), Int.mul_zero])]
 have h1 := hA i j hi hj
 rw [e, Int.natAbs_mul, Int.natAbs_mul] at h1
 have h2 : 1 * (D 0 0).natAbs ≤ (X i 0).natAbs * (D 0 0).natAbs := Nat.mul_le_mul_right _ (by omega)
 have h3 : (X i 0).natAbs * (D 0 0).natAbs * 1 ≤ (X i 0).natAbs * (D 0 0).natAbs * (Y 0 j).natAbs := Nat.mul_le_mul_left _ (by omega)
 omega
theorem wQ {M : Nat} (hA : ∀ i j, i < 3 → j < 3 → (A i j).natAbs ≤ M) (h : UE 3 A D) (hz : ∀ i j, i < 3 → j < 3 → (2 ≤ i ∨ 2 ≤ j) → D i j = 0) : (D 0 0 * D 1 1 - D 0 1 * D 1 0).natAbs ≤ 2 * (M * M) := by
 obtain ⟨X, Y, hX, hY, h⟩ := h.symm
 have e : ∀ i j, i < 3 → j < 3 → A i j = (X i 0 * D 0 0 + X i 1 * D 1 0) * Y 0 j + (X i 0 * D 0 1 + X i 1 * D 1 1) * Y 1 j := fun i j hi hj => by
  rw [h i j hi hj]
  unfold mm
  rw [bJ, bJ, bJ, eC, bJ, bJ, bJ, eC, bJ, bJ, bJ, eC, bJ, bJ, bJ, eC]
  rw [hz 2 0 (by omega) (by omega) (by omega), hz 2 1 (by omega) (by omega) (by omega), hz 0 2 (by omega) (by omega) (by omega), hz 1 2 (by omega) (by omega) (by omega), hz 2 2 (by omega) (by omega) (by omega)]
  grind
 have mx : ∃ r s, r < 3 ∧ s < 3 ∧ X r 0 * X s 1 - X r 1 * X s 0 ≠ 0 := Classical.byContradiction fun hn => by
  have q : ∀ r s, r < 3 → s < 3 → X r 0 * X s 1 - X r 1 * X s 0 = 0 := fun r s hr hs => Classical.byContradiction fun x => hn ⟨r, s, hr, hs, x⟩
  have q1 := q 0 1 (by omega) (by omega)
  have q2 := q 0 2 (by omega) (by omega)
  have q3 := q 1 2 (by omega) (by omega)
  refine hX.ne ?_
  rw [dZ]
  grind
 have my : ∃ r s, r < 3 ∧ s < 3 ∧ Y 0 r * Y 1 s - Y 1 r * Y 0 s ≠ 0 := Classical.byContradiction fun hn => by
  have q : ∀ r s, r < 3 → s < 3 → Y 0 r * Y 1 s - Y 1 r * Y 0 s = 0 := fun r s hr hs => Classical.byContradiction fun x => hn ⟨r, s, hr, hs, x⟩
  have q1 := q 0 1 (by omega) (by omega)
  have q2 := q 0 2 (by omega) (by omega)
  have q3 := q 1 2 (by omega) (by omega)
  refine hY.ne ?_
  rw [dZ]
  grind
 obtain ⟨r, s, hr, hs, hx⟩ := mx
 obtain ⟨u, v, hu, hv, hy⟩ := my
 have key : A r u * A s v - A r v * A s u = (X r 0 * X s 1 - X r 1 * X s 0) * (D 0 0 * D 1 1 - D 0 1 * D 1 0) * (Y 0 u * Y 1 v - Y 1 u * Y 0 v) := by
  rw [e r u hr hu, e s v hs hv, e r v hr hv, e s u hs hu]
  grind
 have b1 : (A r u * A s v - A r v * A s u).natAbs ≤ 2 * (M * M) := by
  have h1 := Nat.mul_le_mul (hA r u hr hu) (hA s v hs hv)
  have h2 := Nat.mul_le_mul (hA r v hr hv) (hA s u hs hu)
  rw [← Int.natAbs_mul] at h1 h2
  omega
 rw [key, Int.natAbs_mul, Int.natAbs_mul] at b1
 have h2 : 1 * (D 0 0 * D 1 1 - D 0 1 * D 1 0).natAbs ≤ (X r 0 * X s 1 - X r 1 * X s 0).natAbs * (D 0 0 * D 1 1 - D 0 1 * D 1 0).natAbs := Nat.mul_le_mul_right _ (by omega)
 have h3 : (X r 0 * X s 1 - X r 1 * X s 0).natAbs * (D 0 0 * D 1 1 - D 0 1 * D 1 0).natAbs * 1 ≤ (X r 0 * X s 1 - X r 1 * X s 0).natAbs * (D 0 0 * D 1 1 - D 0 1 * D 1 0).natAbs * (Y 0 u * Y 1 v - Y 1 u * Y 0 v).natAbs := Nat.mul_le_mul_left _ (by omega)
 omega
end
end Go.Proofs.YtppipmkpmmdcjaaGreat
namespace Go.LA
theorem sJ {n : Nat} {f : Nat → Int} (h : ∀ i, i < n → 0 < f i) : 0 < pr n f := by
 induction n with
 | zero => show (0 : Int) < 1; decide
 | succ n ih => exact Int.mul_pos (ih fun i hi => h i (by omega)) (h n (by omega))
theorem qS {r c : Nat} {H : Mat} {p : Nat → Nat} (h : HF r c H r p) : det r H = (pr r fun i => H i i) ∧ 0 < pr r fun i => H i i := by
 have hd := h.diag.2 rfl
 refine ⟨dG fun x l hl hx => h.zero l hl x (by rw [hd l hl]; exact hx), sJ fun i hi => ?_⟩
 have := h.pos i hi
 rwa [hd i hi] at this
end Go.LA
namespace Go.Proofs.YtppipmkpmmdcjaaGreat
open Go.W Go.LM Go.LA
end Go.Proofs.YtppipmkpmmdcjaaGreat
namespace Go.Proofs.YtppipmkpmmdcjaaGreat
open Go.W Go.LM Go.LA
section
variable {n : Nat} {A D : Mat}
theorem wR {r c k : Nat} {H : Mat} {p : Nat → Nat} (h : HF r c H k p) : ∀ x, x < k → x ≤ p x := fun x => by
 induction x with
 | zero => intro _; exact Nat.zero_le _
 | succ x ih => intro hx; have h1 := ih (by omega); have := h.mono x (x + 1) (by omega) hx; omega
theorem nu (h : DH n n A D) (hd : det n A ≠ 0) : (∀ i j, i < n → j < i → D i j = 0) ∧ (∀ i, i < n → 0 < D i i) ∧ (∀ i j, i < j → j < n → 0 ≤ D i j ∧ D i j < D j j) := by
 obtain ⟨H, U, k, p, H2, U2, k2, p2, c1, f1, c2, f2, rfl⟩ := h
 have hH : det n H ≠ 0 := by
  rw [bo (M' := mm n A U) (fun r c hr hc => c1.2 r c hr hc), dr]
  intro e
  rcases Int.mul_eq_zero.1 e with e | e
  ·exact hd e
  ·exact c1.1.ne e
 have hT : det n (fun i j => H j i) ≠ 0 := k4 (A := fun i j => H j i) hH
 have hk : k2 = n := Classical.byContradiction fun hne => by
  have := HF.det c2 f2
  rw [if_neg hne] at this
  exact hT (by omega)
 have hp := f2.diag.2 hk
 subst hk
 refine ⟨fun i j hi hj => ?_, fun i hi => ?_, fun i j hij hj => ?_⟩
 ·exact f2.zero i hi j (by rw [hp i hi]; exact hj)
 ·have := f2.pos i hi; rwa [hp i hi] at this
 ·have := f2.red j hj i hij; rwa [hp j hj] at this
theorem pF (h : DH n n A D) (hd : det n A = 0) : ∃ k, k < n ∧ (∀ i j, i < n → j < n → (k ≤ i ∨ k ≤ j) → D i j = 0) ∧ (k ≤ 1 → 0 ≤ D 0 0) ∧
  (k = 2 → D 1 0 = 0 ∧ 0 < D 0 0 ∧ 0 < D 1 1 ∧ 0 ≤ D 0 1 ∧ D 0 1 < D 1 1) := by
 obtain ⟨H, U, k, p, H2, U2, k2, p2, c1, f1, c2, f2, rfl⟩ := h
 have hkn : k < n := Classical.byContradiction fun hge => by
  have hk : k = n := by have := f1.kc; omega
  have e := HF.det c1 f1
  rw [if_pos hk] at e
  subst hk
  have := (qS f1).2
  rw [hd] at e
  simp at e
  omega
 have z1 : ∀ j c, k ≤ j → j < n → c < n → H2 j c = 0 := fun j c hkj hj hc => by
  rw [c2.2 j c hj hc]
  unfold mm
  exact eQ fun l hl => by rw [show (fun i j => H j i) j l = H l j from rfl, f1.rest j hkj hj l hl, Int.zero_mul]
 have hpk : ∀ c, c < k2 → p2 c < k := fun c hc => Classical.byContradiction fun hge => by
  have h1 := f2.pos c hc
  rw [z1 (p2 c) c (by omega) (f2.lt c hc) (by have := f2.kc; omega)] at h1
  omega
 have hk2 : k2 ≤ k := by
  rcases Nat.eq_zero_or_pos k2 with h0 | h0
  ·omega
  ·have h1 := wR f2 (k2 - 1) (by omega)
   have h2 := hpk (k2 - 1) (by omega)
   omega
 refine ⟨k, hkn, fun i j hi hj hij => ?_, fun hk1 => ?_, fun hk => ?_⟩
 ·show H2 j i = 0
  rcases hij with h | h
  ·exact f2.rest i (by omega) hi j hj
  ·exact z1 j i h hj hi
 ·show 0 ≤ H2 0 0
  rcases Nat.eq_zero_or_pos k2 with h0 | h0
  ·rw [f2.rest 0 (by omega) (by omega) 0 (by omega)]; exact Int.le_refl _
  ·have h1 := hpk 0 h0
   have h2 := f2.pos 0 h0
   rw [show p2 0 = 0 by omega] at h2
   omega
 ·
  have hk22 : k2 = 2 := Classical.byContradiction fun hne => by
   have p01 := f1.mono 0 1 (by omega) (by omega)
   have a0 := f1.pos 0 (by omega)
   have a1 := f1.pos 1 (by omega)
   have a2 := f1.zero 1 (by omega) (p 0) p01
   have hE : ∀ l j, l < n → j < n → H l j = H2 j 0 * uinv n U2 0 l := fun l j hl hj => by
    have e1 : mm n H2 (uinv n U2) j l = H l j := by
     rw [cC (A' := mm n (fun i j => H j i) U2) (B' := uinv n U2) (fun k hk => c2.2 j k hj hk) (fun _ _ => rfl), cM, cC (A' := fun i j => H j i) (B' := idM) (fun _ _ => rfl) (fun k hk => c2.1.mul_inv hk hl), mp _ _ _ hl]
    rw [← e1]
    unfold mm
    exact bV (k := 0) (by omega) (fun c hc hc0 => by rw [f2.rest c (by omega) hc j hj, Int.zero_mul])
   have l0 := f1.lt 0 (by omega)
   have l1 := f1.lt 1 (by omega)
   have e00 := hE (p 0) 0 l0 (by omega)
   have e01 := hE (p 0) 1 l0 (by omega)
   have e10 := hE (p 1) 0 l1 (by omega)
   have e11 := hE (p 1) 1 l1 (by omega)
   have : H (p 0) 0 * H (p 1) 1 = H (p 0) 1 * H (p 1) 0 := by rw [e00, e11, e01, e10]; grind
   rw [a2, Int.zero_mul] at this
   have := Int.mul_pos a0 a1
   omega
  have h1 := hpk 1 (by omega)
  have h2 := f2.mono 0 1 (by omega) (by omega)
  have p0 : p2 0 = 0 := by omega
  have p1 : p2 1 = 1 := by omega
  have b0 := f2.pos 0 (by omega)
  have b1 := f2.pos 1 (by omega)
  have b2 := f2.zero 1 (by omega) 0 (by omega)
  have b3 := f2.red 1 (by omega) 0 (by omega)
  rw [p0] at b0
  rw [p1] at b1 b3
  exact ⟨b2, b0, b1, b3.1, b3.2⟩
end
section
variable {N s K : Nat} {I : Nat → Mat → Prop}
def Sgl (N s : Nat) (D : Mat) : Prop := ∀ i j, s ≤ i → i < N → j < N → ¬ (i = s ∧ j = s) → D i j = 0
theorem gj (hs : s < N) {D : Mat} {p q : Nat} (h : Sgl N s D) (hL : LeastAt D N N s p q) : Eqm N N (stB D s p q) D ∧ Eqm N N (rdiv (stB D s p q) s) D ∧ Eqm N N (stC D s p q) D := by
 obtain ⟨h1, h2, h3, h4, h5, _⟩ := hL
 have e : p = s ∧ q = s := Classical.byContradiction fun hn => h5 (h p q h1 h2 h4 hn)
 obtain ⟨rfl, rfl⟩ := e
 have hB : Eqm N N (stB D q q q) D := fun a b _ _ => lx D q a b
 have hR : Eqm N N (rdiv (stB D q q q) q) D := (hB.rdiv hs hs).trans (fun a b ha hb => by
  unfold rdiv
  by_cases e : q < a
  ·rw [if_pos e, h a q (by omega) ha hs (by omega), Int.zero_ediv, Int.zero_mul, Int.sub_zero]
  ·rw [if_neg e])
 exact ⟨hB, hR, (hR.cdiv hs hs).trans (fun a b ha hb => by
  unfold cdiv
  by_cases e : q < b
  ·rw [if_pos e, h q b (Nat.le_refl _) hs hb (by omega), Int.zero_ediv, Int.zero_mul, Int.sub_zero]
  ·rw [if_neg e])⟩
theorem jh (hs : s < N) (hI : ∀ n D, I n D → Sgl N s D ∧ ∀ i j, i < N → j < N → Lb K (D i j)) : Runs N N s K I := by
 refine ⟨fun n D h => (hI n D h).2, fun n D p q h hL a b ha hb => ?_, fun n D p q h hL ⟨x, h1, h2, h3⟩ => ?_, fun n D p q h hL _ a b ha hb => ?_, fun n D p q h hL _ ⟨x, h1, h2, h3⟩ => ?_, fun n D p q h hL _ _ i h1 h2 b hb => ?_, fun n D p q h hL _ _ i h1 h2 ⟨b, h3, h4, h5⟩ => ?_⟩
 ·rw [(gj hs (hI n D h).1 hL).2.1 a b ha hb]; exact (hI n D h).2 a b ha hb
 ·rw [(gj hs (hI n D h).1 hL).1 x s h2 hs, (hI n D h).1 x s (by omega) h2 hs (by omega), Int.zero_emod] at h3
  exact absurd rfl h3
 ·rw [(gj hs (hI n D h).1 hL).2.2 a b ha hb]; exact (hI n D h).2 a b ha hb
 ·rw [(gj hs (hI n D h).1 hL).2.1 s x hs h2, (hI n D h).1 s x (Nat.le_refl _) hs h2 (by omega), Int.zero_emod] at h3
  exact absurd rfl h3
 ·have hC := (gj hs (hI n D h).1 hL).2.2
  rw [hC s b hs hb, hC i b h2 hb]
  rw [(hI n D h).1 i b (by omega) h2 hb (by omega), Int.mul_zero, Int.add_zero]; exact (hI n D h).2 s b hs hb
 ·rw [(gj hs (hI n D h).1 hL).2.2 i b h2 h4, (hI n D h).1 i b (by omega) h2 h4 (by omega), Int.zero_emod] at h5
  exact absurd rfl h5
theorem nw (hs : s < N) (hI : ∀ n D, I n D → Sgl N s D) {A' : Mat} (h : StepR N N s I A') : ∃ n D, I n D ∧ ((Eqm N N A' D ∧ 0 ≤ D s s) ∨ (Eqm N N A' (rneg D s) ∧ D s s < 0)) := by
 rcases h with ⟨n, h, hz⟩ | ⟨n, D, p, q, h, hL, _, _, _, hc⟩
 ·exact ⟨n, A', h, .inl ⟨fun _ _ _ _ => rfl, by rw [hz s s (Nat.le_refl _) hs (Nat.le_refl _) hs]; exact Int.le_refl _⟩⟩
 ·have hC := (gj hs (hI n D h) hL).2.2
  rcases hc with ⟨rfl, hn⟩ | ⟨rfl, hn⟩
  ·exact ⟨n, D, h, .inl ⟨hC, by rw [← hC s s hs hs]; exact hn⟩⟩
  ·exact ⟨n, D, h, .inr ⟨hC.rneg hs, by rw [← hC s s hs hs]; exact hn⟩⟩
end
end Go.Proofs.YtppipmkpmmdcjaaGreat
namespace Go.Proofs.YtppipmkpmmdcjaaGreat
open Go.W Go.LM Go.LA
theorem Runs.ex {r c t K : Nat} {ι : Type} {C : ι → Prop} {J : ι → Nat → Mat → Prop} (h : ∀ i, C i → Runs r c t K (J i)) : Runs r c t K (fun n D => ∃ i, C i ∧ J i n D) :=
 ⟨fun n D ⟨i, hc, hj⟩ => (h i hc).lb n D hj, fun n D p q ⟨i, hc, hj⟩ hL => (h i hc).lb1 n D p q hj hL,
  fun n D p q ⟨i, hc, hj⟩ hL hx => by obtain ⟨m, h1, h2⟩ := (h i hc).go1 n D p q hj hL hx; exact ⟨m, h1, i, hc, h2⟩,
  fun n D p q ⟨i, hc, hj⟩ hL hz => (h i hc).lb2 n D p q hj hL hz,
  fun n D p q ⟨i, hc, hj⟩ hL hz hx => by obtain ⟨m, h1, h2⟩ := (h i hc).go2 n D p q hj hL hz hx; exact ⟨m, h1, i, hc, h2⟩,
  fun n D p q ⟨i, hc, hj⟩ hL hz hz2 => (h i hc).lb3 n D p q hj hL hz hz2,
  fun n D p q ⟨i, hc, hj⟩ hL hz hz2 k h1 h2 hx => by obtain ⟨m, h3, h4⟩ := (h i hc).go3 n D p q hj hL hz hz2 k h1 h2 hx; exact ⟨m, h3, i, hc, h4⟩⟩
theorem StepR.ex {r c t : Nat} {ι : Type} {C : ι → Prop} {J : ι → Nat → Mat → Prop} {A' : Mat} (h : StepR r c t (fun n D => ∃ i, C i ∧ J i n D) A') : ∃ i, C i ∧ StepR r c t (J i) A' := by
 rcases h with ⟨n, ⟨i, hc, hj⟩, hz⟩ | ⟨n, D, p, q, ⟨i, hc, hj⟩, hr⟩
 ·exact ⟨i, hc, .inl ⟨n, hj, hz⟩⟩
 ·exact ⟨i, hc, .inr ⟨n, D, p, q, hj, hr⟩⟩
def FinD (N : Nat) (A D : Mat) : Prop := ∃ e : Nat → Int, Eqm N N D (dgE e) ∧ (∀ i, 0 ≤ e i) ∧ (∀ i j, i ≤ j → j < N → e i ∣ e j) ∧ UE N A D
theorem lb_two {K : Nat} {z : Int} (h : Lb K z) : ∃ M, M = 32 * K ∧ z.natAbs < 2 ^ M := by
 unfold Lb at h; rw [show (4294967296 : Nat) = 2 ^ 32 from rfl, ← Nat.pow_mul] at h; exact ⟨_, rfl, h⟩
theorem wS : ∃ LM MT : Nat, LM ≤ 45120 ∧ (∀ x, x ≤ MT → x.log2 ≤ LM) ∧ (∀ z : Int, z.natAbs ≤ 2 * MT → Lb 6000 z) ∧ (∀ z : Int, Lb 1401 z → z.natAbs + 25256071 * 12582912 ≤ MT) := by
 obtain ⟨L, hL⟩ : ∃ L, L = 45120 := ⟨_, rfl⟩
 refine ⟨L, 2 ^ L, by omega, fun x hx => ?_, fun z hz => ?_, fun z hz => ?_⟩
 ·rcases Nat.eq_zero_or_pos x with h | h
  ·subst h; rw [Nat.log2_zero]; exact Nat.zero_le _
  ·exact (Nat.pow_le_pow_iff_right (by decide : 1 < 2)).1 (Nat.le_trans (Nat.log2_self_le (by omega)) hx)
 ·have key : ∀ K, K = 6000 → Lb K z := fun K hK => by
   unfold Lb
   rw [show (4294967296 : Nat) = 2 ^ 32 from rfl, ← Nat.pow_mul]
   refine Nat.lt_of_le_of_lt hz ?_
   rw [Nat.mul_comm, ← Nat.pow_succ]
   exact Nat.pow_lt_pow_right (by decide) (by omega)
  exact key 6000 rfl
 ·obtain ⟨M, hM, hz⟩ := lb_two hz
  have h1 : 2 ^ 50 ≤ 2 ^ M := Nat.pow_le_pow_right (by decide) (by omega)
  have h2 : 2 ^ (M + 1) ≤ 2 ^ L := Nat.pow_le_pow_right (by decide) (by omega)
  rw [Nat.pow_succ] at h2
  have h3 : 25256071 * 12582912 ≤ 2 ^ 50 := by decide
  omega
theorem UE.dvd {n : Nat} {A D : Mat} {P : Int} (h : UE n A D) (hA : ∀ i j, i < n → j < n → P ∣ A i j) : ∀ i j, i < n → j < n → P ∣ D i j := by
 obtain ⟨X, Y, _, _, h⟩ := h
 have smd : ∀ (m : Nat) (f : Nat → Int), (∀ k, k < m → P ∣ f k) → P ∣ sm m f := fun m f => by
  induction m with
  | zero => intro _; rw [eC]; exact Int.dvd_zero _
  | succ m ih => intro hf; rw [bJ]; exact Int.dvd_add (ih fun k hk => hf k (by omega)) (hf m (by omega))
 intro i j hi hj
 rw [h i j hi hj]
 unfold mm
 exact smd n _ (fun l hl => Int.dvd_mul_of_dvd_left (smd n _ (fun k hk => Int.dvd_mul_of_dvd_right (hA k l hk hl))))
theorem mF {A : Mat} {n : Nat} (hn : n = 2 ∨ n = 3) (hA : ∀ i j, i < n → j < n → (A i j).natAbs ≤ 128) : (det n A).natAbs ≤ 12582912 ∧ (n = 2 → (det n A).natAbs ≤ 32768) := by
 have two : ∀ x y z u : Int, x.natAbs ≤ 128 → y.natAbs ≤ 128 → z.natAbs ≤ 128 → u.natAbs ≤ 128 → (x * y - z * u).natAbs ≤ 32768 := fun x y z u h1 h2 h3 h4 => by
  have a := Nat.mul_le_mul h1 h2
  have b := Nat.mul_le_mul h3 h4
  rw [← Int.natAbs_mul] at a b
  omega
 have three' : ∀ w x : Int, w.natAbs ≤ 128 → x.natAbs ≤ 32768 → (w * x).natAbs ≤ 4194304 := fun w x h1 h2 => by
  have a := Nat.mul_le_mul h1 h2
  rw [← Int.natAbs_mul] at a
  omega
 rcases hn with rfl | rfl
 ·rw [io]
  have := two (A 0 0) (A 1 1) (A 0 1) (A 1 0) (hA 0 0 (by omega) (by omega)) (hA 1 1 (by omega) (by omega)) (hA 0 1 (by omega) (by omega)) (hA 1 0 (by omega) (by omega))
  exact ⟨by omega, fun _ => this⟩
 ·rw [dZ]
  have h : ∀ i j, i < 3 → j < 3 → (A i j).natAbs ≤ 128 := hA
  have a := three' (A 0 0) _ (h 0 0 (by omega) (by omega)) (two (A 1 1) (A 2 2) (A 1 2) (A 2 1) (h 1 1 (by omega) (by omega)) (h 2 2 (by omega) (by omega)) (h 1 2 (by omega) (by omega)) (h 2 1 (by omega) (by omega)))
  have b := three' (A 0 1) _ (h 0 1 (by omega) (by omega)) (two (A 1 0) (A 2 2) (A 1 2) (A 2 0) (h 1 0 (by omega) (by omega)) (h 2 2 (by omega) (by omega)) (h 1 2 (by omega) (by omega)) (h 2 0 (by omega) (by omega)))
  have c := three' (A 0 2) _ (h 0 2 (by omega) (by omega)) (two (A 1 0) (A 2 1) (A 1 1) (A 2 0) (h 1 0 (by omega) (by omega)) (h 2 1 (by omega) (by omega)) (h 1 1 (by omega) (by omega)) (h 2 0 (by omega) (by omega)))
  exact ⟨by omega, fun h => by omega⟩
theorem mG {N : Nat} {A : Mat} (hN : 1 ≤ N ∧ N ≤ 3) (hA : ∀ i j, i < N → j < N → (A i j).natAbs ≤ 128) (hs : ∀ D, DH N N A D → (∀ i j, i < N → j < N → ¬ (i = 0 ∧ j = 0) → D i j = 0) ∧ 0 ≤ D 0 0) :
  ∃ I : Nat → Nat → Mat → Prop, RunsA N N 6000 25256071 A I ∧ ∀ n D, I N n D → FinD N A D := by
 have lb : ∀ D, UE N A D → (∀ i j, i < N → j < N → ¬ (i = 0 ∧ j = 0) → D i j = 0) → ∀ i j, i < N → j < N → Lb 6000 (D i j) := fun D hU hz i j hi hj => by
  by_cases e : i = 0 ∧ j = 0
  ·rw [e.1, e.2]; exact bM (by have := wP (by omega) hA hU hz; omega) (by decide)
  ·rw [hz i j hi hj e]; exact cc
 have sg : ∀ t D, (∀ i j, i < N → j < N → ¬ (i = 0 ∧ j = 0) → D i j = 0) → Sgl N t D := fun t D hz i j h1 h2 h3 h4 => hz i j h2 h3 (by omega)
 refine ⟨fun _ n D => n = 0 ∧ UE N A D ∧ (∀ i j, i < N → j < N → ¬ (i = 0 ∧ j = 0) → D i j = 0) ∧ 0 ≤ D 0 0, ⟨fun D hD => ⟨0, by omega, rfl, ly hD, (hs D hD).1, (hs D hD).2⟩, fun t ht _ => jh ht (fun n D ⟨_, hU, hz, _⟩ => ⟨sg t D hz, lb D hU hz⟩), fun t A' ht _ hS => ?_⟩, fun n D ⟨_, hU, hz, h0⟩ => ?_⟩
 ·have hUS : UE N A A' := by
   rcases hS with ⟨n, h, _⟩ | ⟨n, D, p, q, h, hL, _, _, _, hc⟩
   ·exact h.2.1
   ·have hC := h.2.1.stC ht hL.2.1 hL.2.2.2.1
    rcases hc with ⟨rfl, _⟩ | ⟨rfl, _⟩
    ·exact hC
    ·exact hC.rneg ht
  obtain ⟨n, D, ⟨_, _, hz, h0⟩, hc⟩ := nw ht (fun n D h => sg t D h.2.2.1) hS
  rcases hc with ⟨hE, _⟩ | ⟨_, hn⟩
  ·exact ⟨0, by omega, rfl, hUS, fun i j hi hj hn => by rw [hE i j hi hj]; exact hz i j hi hj hn, by rw [hE 0 0 (by omega) (by omega)]; exact h0⟩
  ·exfalso
   by_cases e : t = 0
   ·subst e; omega
   ·rw [hz t t ht ht (by omega)] at hn; omega
 ·refine ⟨fun i => if i = 0 then D 0 0 else 0, fun i j hi hj => ?_, fun i => by dsimp only; split <;> omega, fun i j hij hj => ?_, hU⟩
  ·unfold dgE
   by_cases e : i = j
   ·subst e
    rw [if_pos rfl]
    dsimp only
    by_cases e0 : i = 0
    ·rw [if_pos e0, e0]
    ·rw [if_neg e0]; exact hz i i hi hi (by omega)
   ·rw [if_neg e]; exact hz i j hi hj (by omega)
  ·dsimp only
   by_cases e : i = 0
   ·by_cases e2 : j = 0
    ·rw [if_pos e, if_pos e2]; exact Int.dvd_refl _
    ·rw [if_neg e2]; exact Int.dvd_zero _
   ·rw [if_neg (show ¬ j = 0 by omega)]; exact Int.dvd_zero _
def ch3 (x y z : Int) : Nat → Int := fun i => if i = 0 then x else if i = 1 then y else if i = 2 then z else 0
theorem qn {x y z : Int} (h1 : x ∣ y) (h2 : y ∣ z) : ∀ i j, i ≤ j → ch3 x y z i ∣ ch3 x y z j := fun i j hij => by
 have e0 : ch3 x y z 0 = x := rfl
 have e1 : ch3 x y z 1 = y := rfl
 have e2 : ch3 x y z 2 = z := rfl
 have e3 : ∀ k, 3 ≤ k → ch3 x y z k = 0 := fun k hk => by unfold ch3; rw [if_neg (by omega), if_neg (by omega), if_neg (by omega)]
 rcases Nat.lt_or_ge j 3 with hj | hj
 ·rcases (show (i = 0 ∧ (j = 0 ∨ j = 1 ∨ j = 2)) ∨ (i = 1 ∧ (j = 1 ∨ j = 2)) ∨ (i = 2 ∧ j = 2) by omega) with ⟨rfl, rfl | rfl | rfl⟩ | ⟨rfl, rfl | rfl⟩ | ⟨rfl, rfl⟩
  ·exact Int.dvd_refl _
  ·rw [e0, e1]; exact h1
  ·rw [e0, e2]; exact Int.dvd_trans h1 h2
  ·exact Int.dvd_refl _
  ·rw [e1, e2]; exact h2
  ·exact Int.dvd_refl _
 ·rw [e3 j hj]; exact Int.dvd_zero _
theorem oH {N : Nat} {A : Mat} (hN : 2 ≤ N ∧ N ≤ 3) (hs : ∀ D, DH N N A D → ∃ a b d : Int, Eqm N N D (bm 0 (fun _ => 0) a b 0 d) ∧ 0 < a ∧ 0 < d ∧ 0 ≤ b ∧ b < d ∧ (a * d).natAbs ≤ 32768) :
  ∃ I : Nat → Nat → Mat → Prop, RunsA N N 6000 25256071 A I ∧ ∀ n D, I N n D → FinD N A D := by
 obtain ⟨LM, MT, hLM45, hLM, hMT, hbig⟩ := wS
 have hle : ∀ a d : Int, (a * d).natAbs ≤ 32768 → a ≠ 0 → d ≠ 0 → a.natAbs ≤ 32768 ∧ d.natAbs ≤ 32768 := fun a d h ha hd => by
  rw [Int.natAbs_mul] at h
  have h1 : a.natAbs * 1 ≤ a.natAbs * d.natAbs := Nat.mul_le_mul_left _ (by omega)
  have h2 : 1 * d.natAbs ≤ a.natAbs * d.natAbs := Nat.mul_le_mul_right _ (by omega)
  omega
 have sgl : ∀ t a d (D : Mat), 1 ≤ t → Eqm N N D (bm 0 (fun _ => 0) a 0 0 d) → Sgl N t D := fun t a d D ht hE i j h1 h2 h3 h4 => by
  rw [hE i j h2 h3]
  by_cases e : (i = 0 ∨ i = 0 + 1) ∧ (j = 0 ∨ j = 0 + 1)
  ·have ei : i = 0 + 1 := by omega
   rcases e.2 with ej | ej
   ·rw [ei, ej, dz]
   ·exfalso; omega
  ·rw [bO e, if_neg (by omega)]
 have lbs : ∀ a d (D : Mat), a.natAbs ≤ 32768 → d.natAbs ≤ 32768 → Eqm N N D (bm 0 (fun _ => 0) a 0 0 d) → ∀ i j, i < N → j < N → Lb 6000 (D i j) := fun a d D h1 h2 hE i j hi hj => by
  rw [hE i j hi hj]
  exact oF (fun _ _ => cc) (bM (by omega) (by decide)) cc cc (bM (by omega) (by decide))
 let I : Nat → Nat → Mat → Prop := fun t => match t with
  | 0 => fun n D => ∃ Δ : Nat, (0 < Δ ∧ Δ ≤ 32768) ∧ BlkI Δ LM MT N 0 A (fun g => g = fun _ => 0) n D
  | 1 => fun n D => n = 0 ∧ UE N A D ∧ ∃ a d : Int, Eqm N N D (bm 0 (fun _ => 0) a 0 0 d) ∧ 0 < a ∧ a ∣ d ∧ a.natAbs ≤ 32768 ∧ d.natAbs ≤ 32768
  | _ => fun n D => n = 0 ∧ UE N A D ∧ ∃ a d : Int, Eqm N N D (bm 0 (fun _ => 0) a 0 0 d) ∧ 0 < a ∧ 0 ≤ d ∧ a ∣ d ∧ a.natAbs ≤ 32768 ∧ d.natAbs ≤ 32768
 have M0 : 32768 ≤ MT := by have := hbig 0 cc; simp at this; omega
 have fin : ∀ n D, (n = 0 ∧ UE N A D ∧ ∃ a d : Int, Eqm N N D (bm 0 (fun _ => 0) a 0 0 d) ∧ 0 < a ∧ 0 ≤ d ∧ a ∣ d ∧ a.natAbs ≤ 32768 ∧ d.natAbs ≤ 32768) → FinD N A D := by
  rintro n D ⟨_, hU, a, d, hE, ha, hd, hdv, _, _⟩
  refine ⟨ch3 a d 0, fun i j hi hj => ?_, fun i => by unfold ch3; split; omega; split; omega; split <;> omega, fun i j hij _ => qn hdv (Int.dvd_zero _) i j hij, hU⟩
  rw [hE i j hi hj]
  refine jE (p := fun i j => bm 0 (fun _ => 0) a 0 0 d i j = dgE (ch3 a d 0) i j) ?_ ?_ ?_ ?_ ?_ ?_ ?_ ?_ ?_ i j (by omega) (by omega)
  ·exact cS
  ·exact dI
  ·rw [bO (by omega)]; rfl
  ·exact dz
  ·exact dW
  ·rw [bO (by omega)]; rfl
  ·rw [bO (by omega)]; rfl
  ·rw [bO (by omega)]; rfl
  ·rw [bO (by omega)]; rfl
 have last : ∀ t A', 1 ≤ t → t < N → ∀ J : Nat → Mat → Prop, (∀ n D, J n D → n = 0 ∧ UE N A D ∧ ∃ a d : Int, Eqm N N D (bm 0 (fun _ => 0) a 0 0 d) ∧ 0 < a ∧ a ∣ d ∧ a.natAbs ≤ 32768 ∧ d.natAbs ≤ 32768 ∧ (t = 1 ∨ 0 ≤ d)) → StepR N N t J A' →
   (0 = 0 ∧ UE N A A' ∧ ∃ a d : Int, Eqm N N A' (bm 0 (fun _ => 0) a 0 0 d) ∧ 0 < a ∧ 0 ≤ d ∧ a ∣ d ∧ a.natAbs ≤ 32768 ∧ d.natAbs ≤ 32768) := by
  intro t A' ht htN J hJ hS
  have hUS : UE N A A' := by
   rcases hS with ⟨n, h, _⟩ | ⟨n, D, p, q, h, hL, _, _, _, hc⟩
   ·exact (hJ n _ h).2.1
   ·have hC := (hJ n D h).2.1.stC htN hL.2.1 hL.2.2.2.1
    rcases hc with ⟨rfl, _⟩ | ⟨rfl, _⟩
    ·exact hC
    ·exact hC.rneg htN
  obtain ⟨n, D, hD, hc⟩ := nw htN (fun n D h => by obtain ⟨_, _, a, d, hE, _⟩ := hJ n D h; exact sgl t a d D ht hE) hS
  obtain ⟨_, _, a, d, hE, ha, hdv, h1, h2, h3⟩ := hJ n D hD
  have htt : D t t = if t = 1 then d else 0 := by
   rw [hE t t htN htN]
   by_cases e : t = 1
   ·subst e; rw [if_pos rfl]; exact dW
   ·rw [if_neg e, bO (by omega), if_neg (by omega)]
  rcases hc with ⟨hE', hn⟩ | ⟨hE', hn⟩
  ·refine ⟨rfl, hUS, a, d, hE'.trans hE, ha, ?_, hdv, h1, h2⟩
   rcases h3 with e | e
   ·rw [htt, if_pos e] at hn; exact hn
   ·exact e
  ·have e : t = 1 := Classical.byContradiction fun e => by rw [htt, if_neg e] at hn; omega
   subst e
   rw [htt, if_pos rfl] at hn
   refine ⟨rfl, hUS, a, -d, hE'.trans (fun i j hi hj => ?_), ha, by omega, (Int.dvd_neg).2 hdv, h1, by rw [Int.natAbs_neg]; exact h2⟩
   unfold rneg
   by_cases e : i = 1
   ·subst e
    rw [aJ]
    show - D 1 j = _
    rw [hE 1 j hi hj]
    by_cases ej : j = 0
    ·subst ej; rw [show bm 0 (fun _ => 0) a 0 0 d 1 0 = 0 from dz, show bm 0 (fun _ => 0) a 0 0 (-d) 1 0 = 0 from dz]; rfl
    ·by_cases ej1 : j = 1
     ·subst ej1; rw [show bm 0 (fun _ => 0) a 0 0 d 1 1 = d from dW, show bm 0 (fun _ => 0) a 0 0 (-d) 1 1 = -d from dW]
     ·rw [bO (by omega), bO (by omega), if_neg (by omega)]; rfl
   ·rw [aO _ _ e, hE i j hi hj]
    by_cases e2 : (i = 0 ∨ i = 0 + 1) ∧ (j = 0 ∨ j = 0 + 1)
    ·have ei : i = 0 := by omega
     subst ei
     rcases e2.2 with ej | ej
     ·rw [ej, cS, cS]
     ·rw [ej, dI, dI]
    ·rw [bO e2, bO e2]
 refine ⟨I, ⟨fun D hD => ?_, fun t ht _ => ?_, fun t A' ht _ hS => ?_⟩, fun n D hI => ?_⟩
 ·obtain ⟨a, b, d, hE, ha, hd, hb, hbd, hΔ⟩ := hs D hD
  have hl := hle a d hΔ (by omega) (by omega)
  have hpos : 0 < (a * d).natAbs := by have := Int.mul_pos ha hd; omega
  have hn : 2 * (a * d).natAbs + 2 * LM + 7 ≤ 25256071 := by omega
  have bd : ∀ x : Int, x.natAbs ≤ 32768 → x.natAbs + (2 * (a * d).natAbs + 2 * LM + 7) * (a * d).natAbs ≤ MT := fun x hx => by
   have h1 := hbig x (bM (by omega) (by decide))
   have h2 := Nat.mul_le_mul hn (show (a * d).natAbs ≤ 12582912 by omega)
   omega
  exact ⟨2 * (a * d).natAbs + 2 * LM + 7, hn, (a * d).natAbs, ⟨hpos, hΔ⟩, ly hD, fun _ => 0, a, b, 0, d, rfl, hE, by rw [Int.mul_zero, Int.sub_zero], bd a hl.1, bd b (by omega), bd 0 (by simp), bd d hl.2, .any (Nat.le_refl _)⟩
 ·rcases (show t = 0 ∨ t = 1 ∨ t = 2 by omega) with rfl | rfl | rfl
  ·show Runs N N 0 6000 (fun n D => ∃ Δ : Nat, (0 < Δ ∧ Δ ≤ 32768) ∧ BlkI Δ LM MT N 0 A (fun g => g = fun _ => 0) n D)
   exact Runs.ex (C := fun Δ => 0 < Δ ∧ Δ ≤ 32768) (fun Δ hΔ => oG hΔ.1 hLM (by omega) (fun g hg i hi => by rw [hg]; exact cc) hMT (by omega))
  ·exact jh ht (fun n D h => by obtain ⟨_, _, a, d, hE, _, _, h1, h2⟩ := h; exact ⟨sgl 1 a d D (Nat.le_refl _) hE, lbs a d D h1 h2 hE⟩)
  ·exact jh ht (fun n D h => by obtain ⟨_, _, a, d, hE, _, _, _, h1, h2⟩ := h; exact ⟨sgl 2 a d D (by omega) hE, lbs a d D h1 h2 hE⟩)
 ·rcases (show t = 0 ∨ t = 1 ∨ t = 2 by omega) with rfl | rfl | rfl
  ·obtain ⟨Δ, hΔ, hS'⟩ := StepR.ex (C := fun Δ => 0 < Δ ∧ Δ ≤ 32768) (J := fun Δ => BlkI Δ LM MT N 0 A (fun g => g = fun _ => 0)) hS
   obtain ⟨hU, g, a, d, rfl, hE, ha, hdv, hdet⟩ := qi hΔ.1 hLM (by omega) hS'
   have hd0 : d ≠ 0 := fun e => by rw [e, Int.mul_zero] at hdet; simp at hdet; omega
   have hl := hle a d (by omega) (by omega) hd0
   exact ⟨0, by omega, rfl, hU, a, d, hE, ha, Int.dvd_of_emod_eq_zero hdv, hl.1, hl.2⟩
  ·exact ⟨0, by omega, last 1 A' (Nat.le_refl _) ht _ (fun n D h => by obtain ⟨h0, hU, a, d, hE, h1, h2, h3, h4⟩ := h; exact ⟨h0, hU, a, d, hE, h1, h2, h3, h4, .inl rfl⟩) hS⟩
  ·exact ⟨0, by omega, last 2 A' (by omega) ht _ (fun n D h => by obtain ⟨h0, hU, a, d, hE, h1, h2, h3, h4, h5⟩ := h; exact ⟨h0, hU, a, d, hE, h1, h3, h4, h5, .inr h2⟩) hS⟩
 ·rcases (show N = 2 ∨ N = 3 by omega) with rfl | rfl
  ·exact fin n D hI
  ·exact fin n D hI
end Go.Proofs.YtppipmkpmmdcjaaGreat
namespace Go.Proofs.YtppipmkpmmdcjaaGreat
open Go.W Go.LM Go.LA
theorem qT {A : Mat} (hA : ∀ i j, i < 3 → j < 3 → (A i j).natAbs ≤ 128) (hd0 : det 3 A ≠ 0) : ∃ I : Nat → Nat → Mat → Prop, RunsA 3 3 6000 25256071 A I ∧ ∀ n D, I 3 n D → FinD 3 A D := by
 obtain ⟨LM, MT, hLM45, hLM, hMT, hbig⟩ := wS
 have hB := (mF (.inr rfl) hA).1
 have hdA : Lb 2 (det 3 A) := bM (by omega) (by decide)
 have hle : ∀ x y : Int, (x * y).natAbs ≤ 12582912 → x ≠ 0 → y ≠ 0 → x.natAbs ≤ 12582912 ∧ y.natAbs ≤ 12582912 := fun a d h ha hd => by
  rw [Int.natAbs_mul] at h
  have h1 : a.natAbs * 1 ≤ a.natAbs * d.natAbs := Nat.mul_le_mul_left _ (by omega)
  have h2 : 1 * d.natAbs ≤ a.natAbs * d.natAbs := Nat.mul_le_mul_right _ (by omega)
  omega
 have sgl : ∀ P a d (D : Mat), Eqm 3 3 D (bm 1 (fun _ => P) a 0 0 d) → Sgl 3 2 D := fun P a d D hE i j h1 h2 h3 h4 => by
  have ei : i = 2 := by omega
  subst ei
  rw [hE 2 j h2 h3]
  rcases (show j = 0 ∨ j = 1 by omega) with rfl | rfl
  ·rw [bO (by omega), if_neg (by omega)]
  ·exact dz
 have lbs : ∀ P a d (D : Mat), P.natAbs ≤ 12582912 → a.natAbs ≤ 12582912 → d.natAbs ≤ 12582912 → Eqm 3 3 D (bm 1 (fun _ => P) a 0 0 d) → ∀ i j, i < 3 → j < 3 → Lb 6000 (D i j) := fun P a d D h0 h1 h2 hE i j hi hj => by
  rw [hE i j hi hj]
  exact oF (fun _ _ => bM (by omega) (by decide)) (bM (by omega) (by decide)) cc cc (bM (by omega) (by decide))
 let C : Int × Nat × Mat → Prop := fun x => UE 3 A x.2.2 ∧ 0 < x.1 ∧ (∀ i j, i < 3 → j < 3 → x.1 ∣ x.2.2 i j) ∧ 0 < x.2.1 ∧ x.2.1 ≤ 12582912 ∧ x.1.natAbs ≤ 12582912
 let J : Int × Nat × Mat → Nat → Mat → Prop := fun x => BlkI x.2.1 LM MT 3 1 x.2.2 (fun g => g = fun _ => x.1)
 let I : Nat → Nat → Mat → Prop := fun t => match t with
  | 0 => FI 2 465 A
  | 1 => fun n D => ∃ x, C x ∧ J x n D
  | 2 => fun n D => n = 0 ∧ UE 3 A D ∧ ∃ P a d : Int, Eqm 3 3 D (bm 1 (fun _ => P) a 0 0 d) ∧ 0 < P ∧ 0 < a ∧ P ∣ a ∧ a ∣ d ∧ P.natAbs ≤ 12582912 ∧ a.natAbs ≤ 12582912 ∧ d.natAbs ≤ 12582912
  | _ => fun n D => n = 0 ∧ UE 3 A D ∧ ∃ P a d : Int, Eqm 3 3 D (bm 1 (fun _ => P) a 0 0 d) ∧ 0 < P ∧ 0 < a ∧ 0 ≤ d ∧ P ∣ a ∧ a ∣ d
 refine ⟨I, ⟨fun D hD => ?_, fun t ht _ => ?_, fun t A' ht _ hS => ?_⟩, fun n D hI => ?_⟩
 ·
  obtain ⟨hlow, hpos, hred⟩ := nu hD hd0
  have hU := ly hD
  have e10 := hlow 1 0 (by omega) (by omega)
  have e20 := hlow 2 0 (by omega) (by omega)
  have e21 := hlow 2 1 (by omega) (by omega)
  have p0 := hpos 0 (by omega)
  have p1 := hpos 1 (by omega)
  have p2 := hpos 2 (by omega)
  have r01 := hred 0 1 (by omega) (by omega)
  have r02 := hred 0 2 (by omega) (by omega)
  have r12 := hred 1 2 (by omega) (by omega)
  have hdet : det 3 D = D 0 0 * D 1 1 * D 2 2 := by rw [dZ, e10, e20, e21]; grind
  have hdn : (D 0 0).natAbs * (D 1 1).natAbs * (D 2 2).natAbs ≤ 12582912 := by
   have := hU.det
   rw [hdet, Int.natAbs_mul, Int.natAbs_mul] at this
   omega
  obtain ⟨x, hx⟩ : ∃ x, x = (D 0 0).natAbs := ⟨_, rfl⟩
  obtain ⟨y, hy⟩ : ∃ y, y = (D 1 1).natAbs := ⟨_, rfl⟩
  obtain ⟨z, hz⟩ : ∃ z, z = (D 2 2).natAbs := ⟨_, rfl⟩
  rw [← hx, ← hy, ← hz] at hdn
  have hx1 : 1 ≤ x := by omega
  have hy1 : 1 ≤ y := by omega
  have hz1 : 1 ≤ z := by omega
  have bx : x ≤ 12582912 := Nat.le_trans (by have h1 : x * 1 ≤ x * y := Nat.mul_le_mul_left _ hy1; have h2 : x * y * 1 ≤ x * y * z := Nat.mul_le_mul_left _ hz1; omega) hdn
  have by' : y ≤ 12582912 := Nat.le_trans (by have h1 : 1 * y ≤ x * y := Nat.mul_le_mul_right _ hx1; have h2 : x * y * 1 ≤ x * y * z := Nat.mul_le_mul_left _ hz1; omega) hdn
  have bz : z ≤ 12582912 := Nat.le_trans (by have h1 : 1 * 1 ≤ x * y := Nat.mul_le_mul hx1 hy1; have h2 : 1 * z ≤ x * y * z := Nat.mul_le_mul_right _ (by omega); omega) hdn
  have hmin : x ≤ 232 ∨ y ≤ 232 ∨ z ≤ 232 := Classical.byContradiction fun hn => by
   have h1 : 233 * 233 ≤ x * y := Nat.mul_le_mul (by omega) (by omega)
   have h2 : 233 * 233 * 233 ≤ x * y * z := Nat.mul_le_mul h1 (by omega)
   omega
  have en : ∀ i j, i < 3 → j < 3 → (D i j).natAbs ≤ 12582912 := jE (by omega) (by omega) (by omega) (by rw [e10]; decide) (by omega) (by omega) (by rw [e20]; decide) (by rw [e21]; decide) (by omega)
  have hJ : J3 2 D := by
   refine ⟨fun i j hi hj => bM (by have := en i j hi hj; omega) (by decide), fun i k j l hi hk hj hl => ?_, hU.lbdet hdA⟩
   have h1 := Nat.mul_le_mul (en i j hi hj) (en k l hk hl)
   have h2 := Nat.mul_le_mul (en i l hi hl) (en k j hk hj)
   rw [← Int.natAbs_mul] at h1 h2
   unfold mn Lb
   have h3 : (4294967296 : Nat) ^ 2 = 18446744073709551616 := by decide
   omega
  have start : ∀ i, i < 3 → (D i i).natAbs ≤ 232 → D i i ≠ 0 → ∃ n, n ≤ 25256071 ∧ FI 2 465 A n D := fun i hi hs hne =>
   ⟨2 * (D i i).natAbs + 1, by omega, hU, by omega, hJ.mono (by omega), .inl ⟨i, i, hi, hi, hne, Nat.le_refl _⟩⟩
  rcases hmin with h | h | h
  ·exact start 0 (by omega) (by omega) (by omega)
  ·exact start 1 (by omega) (by omega) (by omega)
  ·exact start 2 (by omega) (by omega) (by omega)
 ·rcases (show t = 0 ∨ t = 1 ∨ t = 2 by omega) with rfl | rfl | rfl
  ·exact tX hdA (by decide)
  ·show Runs 3 3 1 6000 (fun n D => ∃ x, C x ∧ J x n D)
   refine Runs.ex (fun x hx => oG hx.2.2.2.1 hLM (by omega) (fun g hg i hi => ?_) hMT ?_)
   ·rw [hg]
    show Lb 6000 x.1
    exact bM (by have := hx.2.2.2.2.2; omega) (by decide)
   ·have := hbig 0 cc
    have := hx.2.2.2.2.1
    simp at *
    omega
  ·exact jh ht (fun n D h => by obtain ⟨_, _, P, a, d, hE, _, _, _, _, h0, h1, h2⟩ := h; exact ⟨sgl P a d D hE, lbs P a d D h0 h1 h2 hE⟩)
 ·rcases (show t = 0 ∨ t = 1 ∨ t = 2 by omega) with rfl | rfl | rfl
  ·obtain ⟨hU, P, a, b, c, d, hE, hP, da, db, dc, dd, lP, la, lb, lc, ld, hdet⟩ := ve (K := 1401) hdA hd0 (by decide) hS
   have hne : a * d - b * c ≠ 0 := fun e => by rw [e, Int.mul_zero] at hdet; simp at hdet; omega
   have hl := hle P (a * d - b * c) (by omega) (by omega) hne
   have hn : 2 * (a * d - b * c).natAbs + 2 * LM + 7 ≤ 25256071 := by omega
   have bd : ∀ x : Int, Lb 1401 x → x.natAbs + (2 * (a * d - b * c).natAbs + 2 * LM + 7) * (a * d - b * c).natAbs ≤ MT := fun x hx => by
    have h1 := hbig x hx
    have h2 := Nat.mul_le_mul hn hl.2
    omega
   have dv : ∀ i j, i < 3 → j < 3 → P ∣ A' i j := fun i j hi hj => by
    rw [hE i j hi hj]
    unfold bm
    split
    ·exact da
    ·split
     ·exact db
     ·split
      ·exact dc
      ·split
       ·exact dd
       ·split
        ·exact Int.dvd_refl _
        ·exact Int.dvd_zero _
   exact ⟨2 * (a * d - b * c).natAbs + 2 * LM + 7, hn, (P, (a * d - b * c).natAbs, A'), ⟨hU, hP, dv, by simp only; omega, hl.2, hl.1⟩, UE.refl 3 A', fun _ => P, a, b, c, d, rfl, hE, rfl, bd a la, bd b lb, bd c lc, bd d ld, .any (Nat.le_refl _)⟩
  ·obtain ⟨⟨P, Δ, A1⟩, ⟨hU1, hP, hPd, hΔ, hΔB, hPB⟩, hS'⟩ := StepR.ex hS
   simp only at hU1 hP hPd hΔ hΔB hPB hS'
   obtain ⟨hU, g, a, d, rfl, hE, ha, hdv, hdet⟩ := qi hΔ hLM (by omega) hS'
   have hd0' : d ≠ 0 := fun e => by rw [e, Int.mul_zero] at hdet; simp at hdet; omega
   have hl := hle a d (by omega) (by omega) hd0'
   have hPa : P ∣ a := by
    have := hU.dvd hPd 1 1 (by omega) (by omega)
    rwa [hE 1 1 (by omega) (by omega), cS] at this
   exact ⟨0, by omega, rfl, hU1.trans hU, P, a, d, hE, hP, ha, hPa, Int.dvd_of_emod_eq_zero hdv, hPB, hl.1, hl.2⟩
  ·have hUS : UE 3 A A' := by
    rcases hS with ⟨n, h, _⟩ | ⟨n, D, p, q, h, hL, _, _, _, hc⟩
    ·exact h.2.1
    ·have hC := h.2.1.stC ht hL.2.1 hL.2.2.2.1
     rcases hc with ⟨rfl, _⟩ | ⟨rfl, _⟩
     ·exact hC
     ·exact hC.rneg ht
   obtain ⟨n, D, hD, hc⟩ := nw ht (fun n D h => by obtain ⟨_, _, P, a, d, hE, _⟩ := h; exact sgl P a d D hE) hS
   obtain ⟨_, _, P, a, d, hE, hP, ha, hPa, had, _, _, _⟩ := hD
   have htt : D 2 2 = d := by rw [hE 2 2 (by omega) (by omega)]; exact dW
   rw [htt] at hc
   rcases hc with ⟨hE', hn⟩ | ⟨hE', hn⟩
   ·exact ⟨0, by omega, rfl, hUS, P, a, d, hE'.trans hE, hP, ha, hn, hPa, had⟩
   ·refine ⟨0, by omega, rfl, hUS, P, a, -d, hE'.trans (fun i j hi hj => ?_), hP, ha, by omega, hPa, (Int.dvd_neg).2 had⟩
    unfold rneg
    by_cases e : i = 2
    ·subst e
     rw [aJ]
     show - D 2 j = _
     rw [hE 2 j hi hj]
     rcases (show j = 0 ∨ j = 1 ∨ j = 2 by omega) with rfl | rfl | rfl
     ·rw [bO (by omega), bO (by omega), if_neg (by omega)]; rfl
     ·rw [show bm 1 (fun _ => P) a 0 0 d 2 1 = 0 from dz, show bm 1 (fun _ => P) a 0 0 (-d) 2 1 = 0 from dz]; rfl
     ·rw [show bm 1 (fun _ => P) a 0 0 d 2 2 = d from dW, show bm 1 (fun _ => P) a 0 0 (-d) 2 2 = -d from dW]
    ·rw [aO _ _ e, hE i j hi hj]
     by_cases e2 : (i = 1 ∨ i = 1 + 1) ∧ (j = 1 ∨ j = 1 + 1)
     ·have ei : i = 1 := by omega
      subst ei
      rcases e2.2 with ej | ej
      ·rw [ej, cS, cS]
      ·rw [ej, dI, dI]
     ·rw [bO e2, bO e2]
 ·obtain ⟨_, hU, P, a, d, hE, hP, ha, hd, hPa, had⟩ := hI
  refine ⟨ch3 P a d, fun i j hi hj => ?_, fun i => by unfold ch3; split; omega; split; omega; split <;> omega, fun i j hij _ => qn hPa had i j hij, hU⟩
  rw [hE i j hi hj]
  refine jE (p := fun i j => bm 1 (fun _ => P) a 0 0 d i j = dgE (ch3 P a d) i j) ?_ ?_ ?_ ?_ ?_ ?_ ?_ ?_ ?_ i j hi hj
  ·rw [bO (by omega)]; rfl
  ·rw [bO (by omega)]; rfl
  ·rw [bO (by omega)]; rfl
  ·rw [bO (by omega)]; rfl
  ·exact cS
  ·exact dI
  ·rw [bO (by omega)]; rfl
  ·exact dz
  ·exact dW
theorem oI {N : Nat} {A : Mat} (hN : 1 ≤ N ∧ N ≤ 3) (hA : ∀ i j, i < N → j < N → (A i j).natAbs ≤ 128) : ∃ I : Nat → Nat → Mat → Prop, RunsA N N 6000 25256071 A I ∧ ∀ n D, I N n D → FinD N A D := by
 by_cases hd : det N A = 0
 ·
  by_cases hr : ∀ D, DH N N A D → (∀ i j, i < N → j < N → ¬ (i = 0 ∧ j = 0) → D i j = 0) ∧ 0 ≤ D 0 0
  ·exact mG hN hA hr
  ·have hN3 : N = 3 := Classical.byContradiction fun hne => hr fun D hD => by
    obtain ⟨k, hk, hz, h0, _⟩ := pF hD hd
    exact ⟨fun i j hi hj hn => hz i j hi hj (by omega), h0 (by omega)⟩
   subst hN3
   refine oH ⟨by omega, Nat.le_refl _⟩ (fun D hD => ?_)
   obtain ⟨k, hk, hz, h0, h2⟩ := pF hD hd
   have hk2 : k = 2 := Classical.byContradiction fun hne => hr fun D' hD' => by
    obtain ⟨k', hk', hz', h0', h2'⟩ := pF hD' hd
    by_cases hk1 : k' ≤ 1
    ·exact ⟨fun i j hi hj hn => hz' i j hi hj (by omega), h0' hk1⟩
    ·exfalso
     obtain ⟨b1, b2, b3, _, _⟩ := h2' (by omega)
     have hU := (ly hD).symm.trans (ly hD')
     obtain ⟨X, Y, _, _, e⟩ := hU
     have hr1 : ∀ i j, i < 3 → j < 3 → D' i j = X i 0 * D 0 0 * Y 0 j := fun i j hi hj => by
      rw [e i j hi hj]
      unfold mm
      rw [bV (k := 0) (by omega) (fun l hl hl0 => by rw [eQ (fun m hm => by rw [hz m l hm hl (by omega), Int.mul_zero]), Int.zero_mul]), bV (k := 0) (by omega) (fun m hm hm0 => by rw [hz m 0 hm (by omega) (by omega), Int.mul_zero])]
     have : D' 0 0 * D' 1 1 = D' 0 1 * D' 1 0 := by rw [hr1 0 0 (by omega) (by omega), hr1 1 1 (by omega) (by omega), hr1 0 1 (by omega) (by omega), hr1 1 0 (by omega) (by omega)]; grind
     rw [b1, Int.mul_zero] at this
     have := Int.mul_pos b2 b3
     omega
   obtain ⟨b1, b2, b3, b4, b5⟩ := h2 hk2
   have hm := wQ (M := 128) hA (ly hD) (fun i j hi hj h => hz i j hi hj (by omega))
   rw [b1, Int.mul_zero, Int.sub_zero] at hm
   refine ⟨D 0 0, D 0 1, D 1 1, fun i j hi hj => ?_, b2, b3, b4, b5, by omega⟩
   refine jE (p := fun i j => D i j = bm 0 (fun _ => 0) (D 0 0) (D 0 1) 0 (D 1 1) i j) ?_ ?_ ?_ ?_ ?_ ?_ ?_ ?_ ?_ i j hi hj
   ·exact cS.symm
   ·exact dI.symm
   ·rw [bO (by omega), if_neg (by omega)]; exact hz 0 2 (by omega) (by omega) (by omega)
   ·rw [b1]; exact dz.symm
   ·exact dW.symm
   ·rw [bO (by omega), if_neg (by omega)]; exact hz 1 2 (by omega) (by omega) (by omega)
   ·rw [bO (by omega), if_neg (by omega)]; exact hz 2 0 (by omega) (by omega) (by omega)
   ·rw [bO (by omega), if_neg (by omega)]; exact hz 2 1 (by omega) (by omega) (by omega)
   ·rw [bO (by omega), if_neg (by omega)]; exact hz 2 2 (by omega) (by omega) (by omega)
 ·rcases (show N = 1 ∨ N = 2 ∨ N = 3 by omega) with rfl | rfl | rfl
  ·refine mG hN hA (fun D hD => ⟨fun i j hi hj hn => by omega, ?_⟩)
   have := (nu hD hd).2.1 0 (by omega)
   omega
  ·refine oH ⟨Nat.le_refl _, by omega⟩ (fun D hD => ?_)
   obtain ⟨hlow, hpos, hred⟩ := nu hD hd
   have e10 := hlow 1 0 (by omega) (by omega)
   have r := hred 0 1 (by omega) (by omega)
   have hdet := (ly hD).det
   rw [io, e10, Int.mul_zero, Int.sub_zero] at hdet
   have hs := (mF (.inl rfl) hA).2 rfl
   refine ⟨D 0 0, D 0 1, D 1 1, fun i j hi hj => ?_, hpos 0 (by omega), hpos 1 (by omega), r.1, r.2, by omega⟩
   rcases (show i = 0 ∨ i = 1 by omega) with rfl | rfl <;> rcases (show j = 0 ∨ j = 1 by omega) with rfl | rfl
   ·exact cS.symm
   ·exact dI.symm
   ·rw [e10]; exact dz.symm
   ·exact dW.symm
  ·exact qT hA hd
end Go.Proofs.YtppipmkpmmdcjaaGreat
namespace Go.Proofs.YtppipmkpmmdcjaaGreat
open Go.W Go.LM Go.LA
theorem xT {n k : Nat} {f : Nat → Int} (hk : k < n) (h : f k = 0) : pr n f = 0 := by
 induction n with
 | zero => omega
 | succ n ih =>
  show pr n f * f n = 0
  by_cases e : k = n
  ·subst e; rw [h, Int.mul_zero]
  ·rw [ih (by omega), Int.zero_mul]
theorem sK {N : Nat} {A D : Mat} (h : FinD N A D) (hN : 1 ≤ N) (h0 : D (N - 1) (N - 1) = 0) : det N A = 0 := by
 obtain ⟨e, hD, _, _, hU⟩ := h
 have h1 := hD (N - 1) (N - 1) (by omega) (by omega)
 have h2 := hU.det
 rw [bo (M' := dgE e) hD, im (M := dgE e) (fun r c _ hc => if_neg (by omega)), xT (k := N - 1) (by omega) (by rw [← h1]; exact h0)] at h2
 omega
theorem t5 {N : Nat} {A D : Mat} (h : FinD N A D) (hN : 1 ≤ N) (y : Vec) : InL N N A (fun i => y i * D (N - 1) (N - 1)) := by
 obtain ⟨e, hD, _, hdv, hU⟩ := h
 have h1 : D (N - 1) (N - 1) = e (N - 1) := (hD (N - 1) (N - 1) (by omega) (by omega)).trans (if_pos rfl)
 rw [h1]
 have hE : Exp N (e (N - 1)) D := fun x => by
  refine ⟨fun i => e (N - 1) / e i * x i, fun i hi => ?_⟩
  show e (N - 1) * x i = sm N fun j => D i j * (e (N - 1) / e j * x j)
  rw [bV (k := i) hi (fun j hj hne => by rw [hD i j hi hj, show dgE e i j = 0 from if_neg (fun e => hne e.symm), Int.zero_mul]), hD i i hi hi, show dgE e i i = e i from if_pos rfl, ← Int.mul_assoc, Int.mul_ediv_cancel' (hdv i (N - 1) (by omega) (by omega))]
 exact (hU.exp hE y).congr fun i _ => Int.mul_comm _ _
end Go.Proofs.YtppipmkpmmdcjaaGreat
