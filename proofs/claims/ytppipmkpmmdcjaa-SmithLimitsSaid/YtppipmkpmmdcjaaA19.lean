import Derived.Test.YtppipmkpmmdcjaaA18
namespace Go.Proofs.Ytppipmkpmmdcjaa
open Go.W Go.LM Go.LA
set_option maxHeartbeats 4000000 in
theorem iD {K Ku lo ge r c gd gu gv t : Nat} {w : World} {lab : Nat → Nat} {D : Mat} (hE : EL K Ku w lab lo ge r c gd gu gv D) (hr : r ≤ 1000) (hc : c ≤ 1000) (htr : t < r) (htc : t < c) (hK : K < 17592186044415) :
  CallsR Try.prog 41 #[.pointer (some ⟨ge, 0, none⟩), .int .i64 (t : Int)] w fun v w' => Ex w w' ∧ ((v = .tuple #[.int .i64 0, .bool false] ∧ ∀ a b, t < a → a < r → t < b → b < c → D a b % D t t = 0) ∨
   ∃ i : Nat, v = .tuple #[.int .i64 (i : Int), .bool true] ∧ t < i ∧ i < r ∧ ∃ b, t < b ∧ b < c ∧ D i b % D t t ≠ 0) := by
 obtain ⟨s, cp, hM, hlab⟩ := hE.d
 have hb := hE.blk
 refine aJ (args := [_, _]) Try.func41 rfl rfl ?_
 repeat' (first|refine ai rfl ?_|refine aa ?_|refine ao ?_|refine ah rfl ?_|refine ae ?_|refine bi rfl rfl (by omega) (by omega) ?_|refine aC ?_)
 refine bh (ι := Nat) [4, 5, 6, 7, 10, 11, 12, 13, 14, 15, 16, 17, 18, 19, 20, 21, 22, 23, 24, 25, 26, 27, 28, 29, 30, 31, 32, 33, 34, 35, 36, 37, 38, 39, 40, 41, 42, 43, 44, 45, 46, 47, 48, 49, 50, 51, 52, 53, 54, 55] (fun x => [(6, .int .i64 (x : Int))])
  (fun x w' => (t < x ∧ x ≤ r) ∧ Ex w w' ∧ ∀ a b, t < a → a < x → t < b → b < c → D a b % D t t = 0) (fun x => r - x)
  (t + 1) ⟨rfl, trivial⟩ ⟨⟨by omega, by omega⟩, Ex.refl _, fun a b h1 h2 => by omega⟩ ?_
 rintro i ξ w2 ⟨⟨hti, hir⟩, hE2, hJ⟩
 show CW _ _ _ _ (over [(6, .int .i64 (i : Int))] _) w2
 rcases Nat.lt_or_ge i r with hi | hi
 ·repeat' (first|refine aV (g := ge) (cs := elL gd gu gv r c) rfl (hb.ext hE2) rfl ?_|refine bA rfl rfl (by omega) ?_|refine ai rfl ?_|refine aa ?_|refine ao ?_|refine ah rfl ?_|refine ae ?_|refine bn rfl ?_|refine bi rfl rfl (by omega) (by omega) ?_|refine aL rfl ?_|refine aE rfl ?_|refine aC ?_|refine aI ?_)
  refine bh (ι := Nat) [4, 5, 7, 21, 22, 23, 24, 25, 26, 27, 28, 29, 30, 31, 32, 33, 34, 35, 36, 37, 38, 39, 40, 41, 42, 43, 44, 45, 46, 47, 48, 49, 50, 51, 52, 53, 54, 55] (fun x => [(7, .int .i64 (x : Int))])
   (fun x w' => (t < x ∧ x ≤ c) ∧ Ex w w' ∧ ∀ b, t < b → b < x → D i b % D t t = 0) (fun x => c - x)
   (t + 1) ⟨rfl, trivial⟩ ⟨⟨by omega, by omega⟩, hE2, fun b h1 h2 => by omega⟩ ?_
  clear hE2
  rintro j ξ2 w3 ⟨⟨htj, hjc⟩, hE3, hJ2⟩
  show CW _ _ _ _ (over [(7, .int .i64 (j : Int))] _) w3
  obtain ⟨hh, hbi, hci, hEi⟩ := (hM.ext hE3).get hi
  obtain ⟨hht, hbt, hct, hEt⟩ := (hM.ext hE3).get htr
  have hT3 := (hM.ext hE3).top
  rcases Nat.lt_or_ge j c with hj | hj
  ·repeat' (first|refine aV (g := ge) (cs := elL gd gu gv r c) rfl (hb.ext hE3) rfl ?_|refine aB (j := i) (a := some ⟨gd, 0, none⟩) rfl rfl ⟨_, _, rfl⟩ (by omega) ?_|refine aS (j := i) (a := some ⟨gd, 0, none⟩) (n := r) (s := fun k => ⟨some ⟨s k, 0, none⟩, c, cp k⟩) rfl hT3.sl (by omega) rfl ?_|refine bA rfl rfl (by omega) ?_|refine ai rfl ?_|refine aa ?_|refine ao ?_|refine ah rfl ?_|refine ae ?_|refine bn rfl ?_|refine aL rfl ?_|refine aE rfl ?_|refine aI ?_)
   refine aC ?_
   repeat' (first|refine ao ?_)
   refine aZ (late := []) (plan := [(0, none), (1, none), (2, none), (3, none), (4, none), (5, none), (6, none), (7, none), (8, none), (9, none), (10, none), (11, none), (12, none), (13, none), (14, none), (15, none), (16, none), (17, none), (18, none), (19, none), (20, some true), (21, none)]) (fun w' => Ex w3 w') bt (by kernel_rfl) (Ex.refl w3).drew ?_
   have hEd := (Ex.refl w3).drew
   repeat' (first|refine aV (g := ge) (cs := elL gd gu gv r c) rfl (fun _ h => hb.ext (hE3.trans h)) rfl ?_|refine aB (j := i) (a := some ⟨gd, 0, none⟩) rfl rfl ⟨_, _, rfl⟩ (by omega) ?_|refine aB (j := t) (a := some ⟨gd, 0, none⟩) rfl rfl ⟨_, _, rfl⟩ (by omega) ?_|refine aS (j := i) (a := some ⟨gd, 0, none⟩) (n := r) (s := fun k => ⟨some ⟨s k, 0, none⟩, c, cp k⟩) rfl (fun _ h => (hT3.ext h).sl) (by omega) rfl ?_|refine aS (j := t) (a := some ⟨gd, 0, none⟩) (n := r) (s := fun k => ⟨some ⟨s k, 0, none⟩, c, cp k⟩) rfl (fun _ h => (hT3.ext h).sl) (by omega) rfl ?_|refine aU (j := j) (a := some ⟨s i, 0, none⟩) rfl rfl ⟨_, _, rfl⟩ (by omega) ?_|refine bp (j := j) (n := cp i) (a := some ⟨s i, 0, none⟩) rfl (fun _ h => (hbi.ext h).sl) ⟨_, _, rfl⟩ (by omega) ?_|refine aU (j := t) (a := some ⟨s t, 0, none⟩) rfl rfl ⟨_, _, rfl⟩ (by omega) ?_|refine bp (j := t) (n := cp t) (a := some ⟨s t, 0, none⟩) rfl (fun _ h => (hbt.ext h).sl) ⟨_, _, rfl⟩ (by omega) ?_|refine ai rfl ?_|refine aL rfl ?_)
   refine ax (kR ((hEt t htc).ext hEd) ((hEi j hj).ext hEd) hK hK) rfl ?_
   rintro v w4 ⟨rfl, hE4⟩
   refine ⟨fun _ h => h.trans hE4, ?_⟩
   have hE04 := (hE3.trans hEd).trans hE4
   by_cases h0 : D i j % D t t = 0
   ·rw [show decide (D i j % D t t = 0) = true from decide_eq_true h0]
    repeat' (first|refine ai rfl ?_|refine aa ?_|refine ah rfl ?_|refine ae ?_|refine bi rfl rfl (by omega) (by omega) ?_|refine aA rfl ?_|refine aM ?_|refine aI ?_)
    refine ⟨⟨j + 1, ⟨⟨by omega, hj⟩, hE04, fun b h1 h2 => ?_⟩, by omega, rfl, trivial⟩, (by (repeat (first|exact aF _ _ _|refine ay rfl ?_|refine av rfl ?_|refine aj rfl ?_|refine ak rfl ?_)))⟩
    by_cases e : b = j
    ·rw [e]; exact h0
    ·exact hJ2 b h1 (by omega)
   ·rw [show decide (D i j % D t t = 0) = false from decide_eq_false h0]
    repeat' (first|refine ai rfl ?_|refine aa ?_|refine ao ?_|refine ah rfl ?_|refine ae ?_|refine aE rfl ?_|refine aT ?_|refine bw ?_|refine du ?_)
    exact fv rfl (rt rfl) (rt rfl) ⟨hE04, .inr ⟨i, rfl, hti, hi, j, htj, hj, h0⟩⟩
  ·have exc : j = c := by omega
   repeat' (first|refine aV (g := ge) (cs := elL gd gu gv r c) rfl (hb.ext hE3) rfl ?_|refine aB (j := i) (a := some ⟨gd, 0, none⟩) rfl rfl ⟨_, _, rfl⟩ (by omega) ?_|refine aS (j := i) (a := some ⟨gd, 0, none⟩) (n := r) (s := fun k => ⟨some ⟨s k, 0, none⟩, c, cp k⟩) rfl hT3.sl (by omega) rfl ?_|refine bz rfl rfl (by omega) ?_|refine ai rfl ?_|refine aa ?_|refine ao ?_|refine ah rfl ?_|refine ae ?_|refine bn rfl ?_|refine bi rfl rfl (by omega) (by omega) ?_|refine aL rfl ?_|refine aA rfl ?_|refine aW ?_|refine aO ?_|refine aX ?_|refine aM ?_)
   refine ⟨⟨i + 1, ⟨⟨by omega, hi⟩, hE3, fun a b h1 h2 h3 h4 => ?_⟩, by omega, rfl, trivial⟩, (by (repeat (first|exact aF _ _ _|refine ay rfl ?_|refine av rfl ?_|refine aj rfl ?_|refine ak rfl ?_)))⟩
   by_cases e : a = i
   ·rw [e]; exact hJ2 b h3 (by omega)
   ·exact hJ a b h1 (by omega) h3 h4
 ·have exr : i = r := by omega
  repeat' (first|refine aV (g := ge) (cs := elL gd gu gv r c) rfl (hb.ext hE2) rfl ?_|refine bz rfl rfl (by omega) ?_|refine ai rfl ?_|refine aa ?_|refine ao ?_|refine ah rfl ?_|refine ae ?_|refine bn rfl ?_|refine aL rfl ?_|refine aA rfl ?_|refine aW ?_|refine aO ?_|refine aX ?_|refine aT ?_)
  exact fv rfl (rt rfl) (rt rfl) ⟨hE2, .inl ⟨rfl, fun a b h1 h2 h3 h4 => hJ a b h1 (by omega) h3 h4⟩⟩
end Go.Proofs.Ytppipmkpmmdcjaa
namespace Go.Proofs.Ytppipmkpmmdcjaa
open Go.W Go.LM Go.LA
def stB (A : Mat) (t p q : Nat) : Mat := cswp (fun a b => A (swp2 t p a) b) t q
def stC (A : Mat) (t p q : Nat) : Mat := cdiv (rdiv (stB A t p q) t) t
def radd (D : Mat) (t i : Nat) : Mat := setF D t fun k => D t k + 1 * D i k
def rneg (D : Mat) (t : Nat) : Mat := setF D t fun k => - D t k
def Rz (r t : Nat) (A : Mat) (p q : Nat) : Prop := ∀ x, t < x → x < r → stB A t p q x t % stB A t p q t t = 0
def Cz6 (c t : Nat) (A : Mat) (p q : Nat) : Prop := ∀ x, t < x → x < c → rdiv (stB A t p q) t t x % rdiv (stB A t p q) t t t = 0
structure Runs (r c t K : Nat) (I : Nat → Mat → Prop) : Prop where
 lb : ∀ n A, I n A → ∀ a b, a < r → b < c → Lb K (A a b)
 lb1 : ∀ n A p q, I n A → LeastAt A r c t p q → ∀ a b, a < r → b < c → Lb K (rdiv (stB A t p q) t a b)
 go1 : ∀ n A p q, I n A → LeastAt A r c t p q → (∃ x, t < x ∧ x < r ∧ stB A t p q x t % stB A t p q t t ≠ 0) → ∃ m, m < n ∧ I m (rdiv (stB A t p q) t)
 lb2 : ∀ n A p q, I n A → LeastAt A r c t p q → Rz r t A p q → ∀ a b, a < r → b < c → Lb K (stC A t p q a b)
 go2 : ∀ n A p q, I n A → LeastAt A r c t p q → Rz r t A p q → (∃ x, t < x ∧ x < c ∧ rdiv (stB A t p q) t t x % rdiv (stB A t p q) t t t ≠ 0) → ∃ m, m < n ∧ I m (stC A t p q)
 lb3 : ∀ n A p q, I n A → LeastAt A r c t p q → Rz r t A p q → Cz6 c t A p q → ∀ i, t < i → i < r → ∀ b, b < c → Lb K (stC A t p q t b + 1 * stC A t p q i b)
 go3 : ∀ n A p q, I n A → LeastAt A r c t p q → Rz r t A p q → Cz6 c t A p q → ∀ i, t < i → i < r → (∃ b, t < b ∧ b < c ∧ stC A t p q i b % stC A t p q t t ≠ 0) → ∃ m, m < n ∧ I m (radd (stC A t p q) t i)
def StepR (r c t : Nat) (I : Nat → Mat → Prop) (A' : Mat) : Prop :=
 (∃ n, I n A' ∧ Zreg A' r c t) ∨ ∃ n A p q, I n A ∧ LeastAt A r c t p q ∧ Rz r t A p q ∧ Cz6 c t A p q ∧ (∀ a b, t < a → a < r → t < b → b < c → stC A t p q a b % stC A t p q t t = 0) ∧
  ((A' = stC A t p q ∧ 0 ≤ stC A t p q t t) ∨ (A' = rneg (stC A t p q) t ∧ stC A t p q t t < 0))
theorem ro (A : Mat) (t p q : Nat) : stB A t p q t t = A p q := by
 unfold stB cswp swp2; simp
set_option maxHeartbeats 4000000 in
theorem oh {K KU Ku W lo ge r c gd gu gv t n : Nat} {w : World} {lab : Nat → Nat} {A : Mat} {I : Nat → Mat → Prop} (hR : Runs r c t K I) (hI : I n A) (hE : EL K Ku w lab lo ge r c gd gu gv A) (hr : r ≤ 1000) (hc : c ≤ 1000) (htr : t < r) (htc : t < c)
  (hW : W = r * (K + 1) + c * (K + 1) + 4) (hKn : Ku + (n + 1) * W ≤ KU) (hK1 : 1 ≤ K) (hK : K + K < 17592186044415) (hKU : KU + 1000 * (K + 1) + K + K + 2 < 17592186044415) :
  CallsR Try.prog 24 #[.pointer (some ⟨ge, 0, none⟩), .int .i64 (t : Int)] w fun _ w' => Fe lo w w' ∧ ∃ A', EL K KU w' lab lo ge r c gd gu gv A' ∧ StepR r c t I A' := by
 obtain ⟨X, hX⟩ : ∃ X, X = r * (K + 1) := ⟨_, rfl⟩
 obtain ⟨Y, hY⟩ : ∃ Y, Y = c * (K + 1) := ⟨_, rfl⟩
 rw [← hX, ← hY] at hW
 refine aJ (args := [_, _]) Try.func24 rfl rfl ?_
 refine oD (ι := Nat × Nat × Mat) [4, 5, 6, 7, 8, 9, 10, 11, 12, 13, 14, 15, 16, 17, 18, 19, 20, 21, 22, 23, 24, 25, 26, 27, 28, 29, 30, 31, 32, 33, 34, 35, 36, 37, 38, 39, 40, 41, 42, 43, 44, 45, 46, 47, 48, 49, 50, 51, 52, 53, 54, 55, 56, 57, 58, 59, 60, 61, 62, 63, 64, 65, 66, 67, 68, 69, 70, 71, 72, 73, 74, 75, 76, 77] (fun _ => [])
  (fun s w' => Fe lo w w' ∧ s.2.1 + (s.1 + 1) * W ≤ KU ∧ I s.1 s.2.2 ∧ EL K s.2.1 w' lab lo ge r c gd gu gv s.2.2) (fun s => s.1) (n, Ku, A) trivial ⟨Fe.refl, hKn, hI, hE⟩ ?_
 clear hI hE hKn
 clear A Ku n
 rintro ⟨n, Ku, A⟩ ξ w2 ⟨hF2, hKn, hI, hE2⟩
 simp only at hKn hI hE2
 show CW _ _ _ _ (over [] _) w2
 have hn1 : (n + 1) * W = n * W + W := Nat.succ_mul n W
 have hb1 : Ku + W ≤ KU := by omega
 have hb2 : Ku + 1000 * (K + 1) + K + K + 2 < 17592186044415 := Nat.lt_of_le_of_lt (Nat.add_le_add_right (Nat.add_le_add_right (Nat.add_le_add_right (Nat.add_le_add_right (show Ku ≤ KU by omega) _) _) _) _) hKU
 have hb3 : Ku + X + 1000 * (K + 1) + K + K + 2 < 17592186044415 := Nat.lt_of_le_of_lt (Nat.add_le_add_right (Nat.add_le_add_right (Nat.add_le_add_right (Nat.add_le_add_right (show Ku + X ≤ KU by omega) _) _) _) _) hKU
 have hnext : ∀ m Ku', m < n → Ku' ≤ Ku + W → Ku' + (m + 1) * W ≤ KU := fun m Ku' hm hk => by
  have h1 : (m + 1) * W ≤ n * W := Nat.mul_le_mul_right W hm
  omega
 repeat' (first|refine ai rfl ?_|refine ao ?_|refine ah rfl ?_)
 refine ax (mS hE2 hr hc ⟨by omega, by omega⟩) rfl ?_
 rintro v w3 ⟨hE23, hcase⟩
 refine ⟨fun _ _ => trivial, ?_⟩
 have hE3 := hE2.ext hE23
 have hF3 := hF2.trans (Fe.ex hE23)
 clear hE2 hF2
 rcases hcase with ⟨rfl, hz⟩ | ⟨p, q, rfl, hL⟩
 ·repeat' (first|refine aH rfl rfl ?_|refine ai rfl ?_|refine aa ?_|refine ao ?_|refine ah rfl ?_|refine ae ?_|refine aE rfl ?_|refine aT ?_|refine bw ?_)
  refine nH ?_
  exact sR rfl ⟨hF3, A, hE3.up (Nat.le_refl _) (by omega), .inl ⟨n, hI, hz⟩⟩
 have hL' := hL
 obtain ⟨hp1, hp2, hq1, hq2, hpq, _⟩ := hL'
 repeat' (first|refine aH rfl rfl ?_|refine ai rfl ?_|refine aa ?_|refine ao ?_|refine ah rfl ?_|refine ae ?_|refine aA rfl ?_|refine aI ?_)
 refine ax (jK hE3 hr hc htr hp2 htc hq2) rfl ?_
 rintro v w4 ⟨hF34, hE4⟩
 refine ⟨fun _ _ => trivial, ?_⟩
 have hF4 := hF3.trans hF34
 have hP4 : stB A t p q t t ≠ 0 := by rw [ro]; exact hpq
 change EL K Ku w4 lab lo ge r c gd gu gv (stB A t p q) at hE4
 have hl1 := hR.lb1 n A p q hI hL
 clear hE3 hF3
 repeat' (first|refine ai rfl ?_|refine aa ?_|refine ao ?_|refine ah rfl ?_|refine ae ?_)
 refine ax (iR (K' := K) hE4 hr hc htr htc hP4 (Nat.le_refl _) hK hb2 (fun a b h1 h2 h3 => by have := hl1 a b h2 h3; unfold rdiv at this; rw [if_pos h1] at this; exact this)) rfl ?_
 rintro v w5 ⟨left, rfl, hleft, hF45, hE5⟩
 refine ⟨fun _ _ => trivial, ?_⟩
 rw [← hX] at hE5
 have hF5 := hF4.trans hF45
 clear hE4 hF4
 cases left with
 | true =>
  repeat' (first|refine ai rfl ?_|refine aa ?_|refine ae ?_|refine bS rfl rfl ?_|refine aE rfl ?_)
  obtain ⟨m, hm, hIm⟩ := hR.go1 n A p q hI hL (hleft.1 rfl)
  refine ky ?_
  repeat' (refine gq ?_)
  refine gk ?_
  exact ⟨⟨(m, Ku + X, rdiv (stB A t p q) t), ⟨hF5, hnext m (Ku + X) hm (by omega), hIm, hE5⟩, hm, trivial⟩, (by (repeat (first|exact aF _ _ _|refine ay rfl ?_|refine av rfl ?_|refine aj rfl ?_|refine ak rfl ?_)))⟩
 | false =>
  have hRz : Rz r t A p q := fun x h1 h2 => Decidable.byContradiction fun h => by have := hleft.2 ⟨x, h1, h2, h⟩; cases this
  have hP5 : rdiv (stB A t p q) t t t ≠ 0 := by unfold rdiv; rw [if_neg (by omega)]; exact hP4
  have hl2 := hR.lb2 n A p q hI hL hRz
  repeat' (first|refine ai rfl ?_|refine bB rfl rfl ?_)
  refine ax (gD (K' := K) hE5 hr hc htr htc hP5 (Nat.le_refl _) hK hb3 (fun a b h1 h2 h3 => by have := hl2 a b h1 h3; unfold stC cdiv at this; rw [if_pos h2] at this; exact this)) rfl ?_
  rintro v w6 ⟨left2, rfl, hleft2, hF56, hE6⟩
  refine ⟨fun _ _ => trivial, ?_⟩
  rw [← hY] at hE6
  change EL K (Ku + X + Y) w6 lab lo ge r c gd gu gv (stC A t p q) at hE6
  have hF6 := hF5.trans hF56
  clear hE5 hF5
  cases left2 with
  | true =>
   repeat' (first|refine ai rfl ?_|refine aa ?_|refine ae ?_|refine aE rfl ?_)
   obtain ⟨m, hm, hIm⟩ := hR.go2 n A p q hI hL hRz (hleft2.1 rfl)
   refine ky ?_
   repeat' (refine gq ?_)
   refine gk ?_
   exact ⟨⟨(m, Ku + X + Y, stC A t p q), ⟨hF6, hnext m (Ku + X + Y) hm (by omega), hIm, hE6⟩, hm, trivial⟩, (by (repeat (first|exact aF _ _ _|refine ay rfl ?_|refine av rfl ?_|refine aj rfl ?_|refine ak rfl ?_)))⟩
  | false =>
   have hCz : Cz6 c t A p q := fun x h1 h2 => Decidable.byContradiction fun h => by have := hleft2.2 ⟨x, h1, h2, h⟩; cases this
   repeat' (first|refine ai rfl ?_|refine aa ?_|refine ao ?_|refine ah rfl ?_|refine ae ?_|refine aA rfl ?_|refine aI ?_)
   refine ax (iD hE6 hr hc htr htc (by omega)) rfl ?_
   rintro v w7 ⟨hE67, hcase⟩
   refine ⟨fun _ _ => trivial, ?_⟩
   have hE7 := hE6.ext hE67
   have hF7 := hF6.trans (Fe.ex hE67)
   clear hE6 hF6
   rcases hcase with ⟨rfl, hdv⟩ | ⟨i, rfl, hti, hir, hnd⟩
   ·obtain ⟨s7, cp7, hM7, hl7⟩ := hE7.d
    obtain ⟨hh, hbr, hcr, hEr⟩ := hM7.get htr
    repeat' (first|refine aH rfl rfl ?_|refine aV (g := ge) (cs := elL gd gu gv r c) rfl hE7.blk rfl ?_|refine aB (j := t) (a := some ⟨gd, 0, none⟩) rfl rfl ⟨_, _, rfl⟩ (by omega) ?_|refine aS (j := t) (a := some ⟨gd, 0, none⟩) (n := r) (s := fun k => ⟨some ⟨s7 k, 0, none⟩, c, cp7 k⟩) rfl hM7.top.sl (by omega) rfl ?_|refine aU (j := t) (a := some ⟨s7 t, 0, none⟩) rfl rfl ⟨_, _, rfl⟩ (by omega) ?_|refine bp (j := t) (n := cp7 t) (a := some ⟨s7 t, 0, none⟩) rfl hbr.sl ⟨_, _, rfl⟩ (by omega) ?_|refine ai rfl ?_|refine aa ?_|refine ao ?_|refine ah rfl ?_|refine ae ?_|refine aL rfl ?_|refine aA rfl ?_|refine aI ?_)
    refine ax (bI (hEr t htc).k) rfl ?_
    rintro v w8 ⟨rfl, hE78⟩
    refine ⟨fun _ _ => trivial, ?_⟩
    have hE8 := hE7.ext hE78
    have hF8 := hF7.trans (Fe.ex hE78)
    by_cases hng : stC A t p q t t < 0
    ·repeat' (first|refine bA rfl rfl (dN.2 hng) ?_|refine aV (g := ge) (cs := elL gd gu gv r c) rfl hE8.blk rfl ?_|refine ai rfl ?_|refine aa ?_|refine ao ?_|refine ah rfl ?_|refine ae ?_|refine aL rfl ?_|refine aE rfl ?_)
     have hM8 := hM7.ext hE78
     refine ax (fQ hM8 hr hc htr) rfl ?_
     rintro v w9 ⟨hG9, hM9⟩
     refine ⟨fun _ _ => trivial, ?_⟩
     have hF89 : Fr (fun b => b = s7 t) w8 w9 := eR hG9 (fun k e => (Option.some.inj e).symm)
     have hE9 := hE8.setD (K' := K) (fun b e => hM8.noR b ⟨t, htr, e⟩) hF89 (fun b e => by rw [e]; exact hl7 t htr) ⟨_, _, hM9, hl7⟩
     have hF9 := hF8.trans (Fe.fr hF89 (fun k e => by rw [e]; exact (hM8.row t htr).low))
     obtain ⟨su, cpu, U, hU, hlu⟩ := hE9.u
     repeat' (first|refine aV (g := ge) (cs := elL gd gu gv r c) rfl hE9.blk rfl ?_|refine ai rfl ?_|refine aa ?_|refine ah rfl ?_|refine ae ?_|refine aL rfl ?_)
     refine ax (fQ hU hr hr htr) rfl ?_
     rintro v w10 ⟨hG10, hM10⟩
     refine ⟨fun _ _ => trivial, ?_⟩
     have hF910 : Fr (fun b => b = su t) w9 w10 := eR hG10 (fun k e => (Option.some.inj e).symm)
     have hE10 := hE9.setU (fun b e => hU.noR b ⟨t, htr, e⟩) hF910 (fun b e => by rw [e]; exact hlu t htr) (Nat.le_refl _) ⟨_, _, _, hM10, hlu⟩
     have hF10 := hF9.trans (Fe.fr hF910 (fun k e => by rw [e]; exact (hU.row t htr).low))
     repeat' (first|refine ae ?_)
     refine gM ?_
     exact im rfl ⟨hF10, _, hE10.up (Nat.le_refl _) (by omega), .inr ⟨n, A, p, q, hI, hL, hRz, hCz, hdv, .inr ⟨rfl, hng⟩⟩⟩
    ·have hns : ¬ (stC A t p q t t).sign < 0 := fun e => hng (dN.1 e)
     repeat' (first|refine bz rfl rfl (by omega) ?_|refine aa ?_|refine ae ?_|refine aA rfl ?_|refine aI ?_)
     refine gM ?_
     exact im rfl ⟨hF8, _, hE8.up (Nat.le_refl _) (by omega), .inr ⟨n, A, p, q, hI, hL, hRz, hCz, hdv, .inl ⟨rfl, by omega⟩⟩⟩
   ·repeat' (first|refine aH rfl rfl ?_|refine ai rfl ?_|refine aa ?_|refine ao ?_|refine ah rfl ?_|refine ae ?_|refine aE rfl ?_)
    obtain ⟨s7, cp7, hM7, hl7⟩ := hE7.d
    refine aZ (late := [7]) (plan := [(0, none), (1, none), (2, none), (3, none), (4, none), (5, none), (6, some true), (7, some false)]) (fun w' => Ex w7 w') bt (by kernel_rfl) (Ex.refl w7).drew ?_
    have hEd := (Ex.refl w7).drew
    repeat' (first|refine aV (g := ge) (cs := elL gd gu gv r c) rfl (fun _ h => hE7.blk.ext h) rfl ?_|refine ai rfl ?_|refine aL rfl ?_)
    refine ax (ce (z := 1) (by omega) (by omega) _) rfl ?_
    rintro v w8 ⟨hI8, hE8⟩
    refine ⟨fun _ h => h.trans hE8, ?_⟩
    have hE78 := hEd.trans hE8
    have hM8 := hM7.ext hE78
    skip
    refine ax (eD (cn := true) (K := K) (Kf := 1) (K' := K) (f := 1) hM8 hr hc htr hir (by omega) (Ent.of hI8 (bD (by decide) (by omega))) (by omega) (Nat.le_refl _) (by omega) (hR.lb3 n A p q hI hL hRz hCz i hti hir)) rfl ?_
    rintro v w9 ⟨hG9, hM9⟩
    refine ⟨fun h => (nomatch h), ?_⟩
    have hEL8 := hE7.ext hE78
    have hF89 : Fr (fun b => b = s7 t) w8 w9 := eR hG9 (fun k e => (Option.some.inj e).symm)
    have hE9 := hEL8.setD (K' := K) (fun b e => hM8.noR b ⟨t, htr, e⟩) hF89 (fun b e => by rw [e]; exact hl7 t htr) ⟨_, _, hM9, hl7⟩
    have hF9 := (hF7.trans (Fe.ex hE78)).trans (Fe.fr hF89 (fun k e => by rw [e]; exact (hM8.row t htr).low))
    obtain ⟨su, cpu, U, hU, hlu⟩ := hE9.u
    repeat' (first|refine aa ?_|refine ao ?_|refine ae ?_)
    refine aZ (late := [7]) (plan := [(0, none), (1, none), (2, none), (3, none), (4, none), (5, none), (6, some true), (7, some false)]) (fun w' => Ex w9 w') bt (by kernel_rfl) (Ex.refl w9).drew ?_
    have hEe := (Ex.refl w9).drew
    repeat' (first|refine aV (g := ge) (cs := elL gd gu gv r c) rfl (fun _ h => hE9.blk.ext h) rfl ?_|refine ai rfl ?_|refine aL rfl ?_)
    refine ax (ce (z := 1) (by omega) (by omega) _) rfl ?_
    rintro v w10 ⟨hI10, hE10⟩
    refine ⟨fun _ h => h.trans hE10, ?_⟩
    have hE910 := hEe.trans hE10
    have hU10 := hU.ext hE910
    have lbU : ∀ a b, a < r → b < r → Lb (Ku + X + Y) (U a b) := fun a b ha hb => by obtain ⟨_, _, _, h⟩ := hU.get ha; exact (h b hb).lb
    skip
    refine ax (eD (cn := true) (K := Ku + X + Y) (Kf := 1) (K' := Ku + X + Y + 2) (f := 1) hU10 hr hr htr hir (by omega) (Ent.of hI10 (bD (by decide) (by omega))) (by omega) (by omega) (by omega) (fun k hk => by rw [Int.one_mul]; exact ((lbU t k htr hk).add (lbU i k hir hk)).mono (by omega))) rfl ?_
    rintro v w11 ⟨hG11, hM11⟩
    refine ⟨fun h => (nomatch h), ?_⟩
    have hEL10 := hE9.ext hE910
    have hF1011 : Fr (fun b => b = su t) w10 w11 := eR hG11 (fun k e => (Option.some.inj e).symm)
    have hE11 := hEL10.setU (fun b e => hU10.noR b ⟨t, htr, e⟩) hF1011 (fun b e => by rw [e]; exact hlu t htr) (by omega) ⟨_, _, _, hM11, hlu⟩
    have hF11 := (hF9.trans (Fe.ex hE910)).trans (Fe.fr hF1011 (fun k e => by rw [e]; exact (hU10.row t htr).low))
    obtain ⟨m, hm, hIm⟩ := hR.go3 n A p q hI hL hRz hCz i hti hir hnd
    repeat' (first|refine aa ?_|refine ae ?_)
    refine ky ?_
    repeat' (refine gq ?_)
    refine gk ?_
    exact ⟨⟨(m, Ku + X + Y + 2, radd (stC A t p q) t i), ⟨hF11, hnext m (Ku + X + Y + 2) hm (by omega), hIm, hE11⟩, hm, trivial⟩, (by (repeat (first|exact aF _ _ _|refine ay rfl ?_|refine av rfl ?_|refine aj rfl ?_|refine ak rfl ?_)))⟩
end Go.Proofs.Ytppipmkpmmdcjaa
namespace Go.Proofs.Ytppipmkpmmdcjaa
open Go.W Go.LM Go.LA
theorem tv {P : Program} {fn : Func} {ρ : Env} {w : World} {r1 r2 r3 r4 : ResultVar} {v1 v2 v3 v4 : Value} {R : Value → World → Prop} (h : fn.results = #[r1, r2, r3, r4]) (hv1 : ResV P w ρ r1 v1) (hv2 : ResV P w ρ r2 v2)
  (hv3 : ResV P w ρ r3 v3) (hv4 : ResV P w ρ r4 v4) (hR : R (.tuple #[v1, v2, v3, v4]) w) : fnPost P fn R .ret ρ w := by
 unfold fnPost
 refine ⟨_, fun a hr => ?_, hR⟩
 have h1 := cV hr hv1
 have h2 := cV hr hv2
 have h3 := cV hr hv3
 have h4 := cV hr hv4
 simp only [eZ, h, List.mapM_toArray, List.mapM_cons, List.mapM_nil, bind_assoc, map_eq_pure_bind]
 rw [Sem.run_bind_ok h1, Sem.run_bind_ok h2, Sem.run_bind_ok h3, Sem.run_bind_ok h4]
 simp
section
variable {P : Program} {S : World → Prop} {ops : List Oper} {K : Env → World → Prop} {rest : List (Oper × Option Bool)} {ρ : Env} {w : World} {b : Option Bool} {d : Nat} {T T1 T2 : TypeId} {pos : String} {af : Array Edge} {x y : Operand} {k k' : IntKind} {m m' : Int}
theorem rp (hx : ev ρ x = .int k m) (hy : ev ρ y = .int k' m') (h : RR P S ops K rest (upd ρ d (.int k (if m' < m then m' else m))) w) :
  RR P S ops K ((⟨some d, .call ⟨.builtin .min, #[x, y], #[T1, T2]⟩, T, pos, af, none⟩, b) :: rest) ρ w :=
 bN rfl (fun w' => by simp [execOp, resolve, invoke, builtin, hx, hy, run_min_int2]) h
theorem mU (hx : ev ρ x = .int k m) (hy : ev ρ y = .int k' m') (h : RR P S ops K rest (upd ρ d (.int k (if m < m' then m' else m))) w) :
  RR P S ops K ((⟨some d, .call ⟨.builtin .max, #[x, y], #[T1, T2]⟩, T, pos, af, none⟩, b) :: rest) ρ w :=
 bN rfl (fun w' => by simp [execOp, resolve, invoke, builtin, hx, hy, run_max_int2]) h
theorem jL {p q : Nat} (hx : ev ρ x = .int .i64 (p : Int)) (hy : ev ρ y = .int .i64 (q : Int)) (h : RR P S ops K rest (upd ρ d (.int .i64 ((min p q : Nat) : Int))) w) :
  RR P S ops K ((⟨some d, .call ⟨.builtin .min, #[x, y], #[T1, T2]⟩, T, pos, af, none⟩, b) :: rest) ρ w :=
 rp hx hy (by
  have e : (if (q : Int) < (p : Int) then (q : Int) else (p : Int)) = ((min p q : Nat) : Int) := by split <;> omega
  rw [e]; exact h)
end
def DH (r c : Nat) (A D : Mat) : Prop := ∃ H U k p H2 U2 k2 p2, CEq r c A H U ∧ HF r c H k p ∧ CEq c r (fun i j => H j i) H2 U2 ∧ HF c r H2 k2 p2 ∧ D = fun i j => H2 j i
structure RunsA (r c K N : Nat) (A : Mat) (I : Nat → Nat → Mat → Prop) : Prop where
 start : ∀ D, DH r c A D → ∃ n, n ≤ N ∧ I 0 n D
 run : ∀ t, t < r → t < c → Runs r c t K (I t)
 next : ∀ t A', t < r → t < c → StepR r c t (I t) A' → ∃ n, n ≤ N ∧ I (t + 1) n A'
def RetS (K _KU r c N : Nat) (I : Nat → Nat → Mat → Prop) (w : World) (v : Value) (w' : World) : Prop :=
 ∃ gd gu gv s cp D n, v = .tuple #[.slice (some ⟨gd, 0, none⟩) r r, .slice (some ⟨gu, 0, none⟩) r r, .slice (some ⟨gv, 0, none⟩) c c, .bool true] ∧ MO true K w' w.heap.size gd r c s cp D ∧ n ≤ N ∧ I (min r c) n D ∧ Ex w w'
theorem pI {n cap : Nat} {w : World} {a : Option Addr} {s : Nat → SD} (hS : Sl w a (topC n s)) (hno : ¬ okS n s) :
  CallsR Try.prog 13 #[.slice a n cap] w fun v w' => v = .tuple #[.slice none 0 0, .slice none 0 0, .slice none 0 0, .bool false] ∧ Ex w w' := by
 refine aJ (args := [_]) Try.func13 rfl rfl ?_
 repeat' (first|refine ai rfl ?_|refine aa ?_|refine ao ?_|refine ah rfl ?_|refine ae ?_)
 refine ax (qz hS hno) rfl ?_
 rintro v w1 ⟨rfl, hE1⟩
 refine ⟨fun _ _ => trivial, ?_⟩
 repeat' (first|refine aH rfl rfl ?_|refine ai rfl ?_|refine aa ?_|refine ao ?_|refine ah rfl ?_|refine ae ?_|refine aE rfl ?_|refine aT ?_|refine bw ?_)
 exact tv rfl (rt rfl) (rt rfl) (rt rfl) (rt rfl) ⟨rfl, hE1⟩
set_option maxHeartbeats 4000000 in
theorem mV {cn : Bool} {K0 K KU N W r c cap : Nat} {w : World} {a : Option Addr} {s : Nat → SD} {A : Mat} {I : Nat → Nat → Mat → Prop} (hM : MX cn K0 w a r c s A) (hr : 1 ≤ r ∧ r ≤ 16) (hc : 1 ≤ c ∧ c ≤ 16) (hR : RunsA r c K N A I)
  (hK0 : 1 ≤ K0) (hK1 : 300 * (34 * K0 + 100) + 1000 < 4398046511104) (hKK : 34 * (34 * K0 + 100) + 100 ≤ K) (hK : K + K < 17592186044415) (hW : W = r * (K + 1) + c * (K + 1) + 4) (hKU : K + 17 * ((N + 1) * W) ≤ KU) (hKU2 : KU + 1000 * (K + 1) + K + K + 2 < 17592186044415) :
  CallsR Try.prog 13 #[.slice a r cap] w (RetS K KU r c N I w) := by
 refine aJ (args := [_]) Try.func13 rfl rfl ?_
 repeat' (first|refine ai rfl ?_|refine aa ?_|refine ao ?_|refine ah rfl ?_|refine ae ?_)
 refine ax (kj hM hr hc hK0 (by omega)) rfl ?_
 rintro v w1 ⟨g, gv, gs, cp, gsv, cpv, H, V, k, p, rfl, hF1, hE1⟩
 refine ⟨fun _ _ => trivial, ?_⟩
 repeat' (first|refine aH rfl rfl ?_|refine ai rfl ?_|refine aa ?_|refine ao ?_|refine ah rfl ?_|refine ae ?_|refine aA rfl ?_|refine aI ?_)
 refine ax (ef hF1.h.mx hr hc) rfl ?_
 rintro v w2 ⟨u, rfl, ⟨g2, gs2, cp2, rfl, hT2, hE2⟩⟩
 refine ⟨fun _ _ => trivial, ?_⟩
 repeat' (first|refine aH rfl rfl ?_|refine ai rfl ?_|refine aa ?_|refine ao ?_|refine ah rfl ?_|refine ae ?_)
 refine ax (kj hT2.mx hc hr (by omega) hK1) rfl ?_
 rintro v w3 ⟨g3, gu3, gs3, cp3, gsu3, cpu3, H2, U2, k2, p2, rfl, hF3, hE3⟩
 refine ⟨fun _ _ => trivial, ?_⟩
 repeat' (first|refine aH rfl rfl ?_|refine ai rfl ?_|refine aa ?_|refine ao ?_|refine ah rfl ?_|refine ae ?_)
 refine ax (ef hF3.h.mx hc hr) rfl ?_
 rintro v w4 ⟨u, rfl, ⟨gd, gsd, cpd, rfl, hD4, hE4⟩⟩
 refine ⟨fun _ _ => trivial, ?_⟩
 repeat' (first|refine aH rfl rfl ?_|refine ai rfl ?_|refine aa ?_|refine ao ?_|refine ah rfl ?_|refine ae ?_)
 refine ax (ef (hF3.u.ext hE4).mx hr hr) rfl ?_
 rintro v w5 ⟨u, rfl, ⟨gu, gsu, cpu, rfl, hU5, hE5⟩⟩
 refine ⟨fun _ _ => trivial, ?_⟩
 repeat' (first|refine aH rfl rfl ?_|refine cD (cs := elL gd gu gv r c) rfl ?_|refine ai rfl ?_|refine aa ?_|refine ao ?_|refine ah rfl ?_|refine ae ?_)
 refine aD (fun ge w6' hn6' => ⟨fun _ _ => trivial, ?_⟩)
 have hb6' : Blk w6' ge 58 [.slice none 0 0, .slice none 0 0, .slice none 0 0] := hn6'.blk
 refine aw (n := 3) (vs := elL gd gu gv r c) rfl rfl rfl rfl hb6' rfl (fun w6 hc6 hb6 => ⟨fun _ _ => trivial, ?_⟩)
 have hE56 : Ex w5 w6 := hn6'.ex.chg hc6 hn6'.lo
 have ge5 := hn6'.lo
 have hE13 := hE2.trans hE3
 have hE15 := (hE13.trans hE4).trans hE5
 have hE06 := (hE1.trans hE15).trans hE56
 have hV6 := hF1.u.ext (hE15.trans hE56)
 have hD6 := hD4.ext (hE5.trans hE56)
 have hU6 := hU5.ext hE56
 have z1 := hE13.size
 have z3 := hE4.size
 have z5 := hE5.size
 have z0 := hE1.size
 have gvl := hF1.u.lt
 have gvr : ∀ i, i < c → gsv i < w1.heap.size := fun i hi => (hF1.u.row i hi).lt
 have gdl := hD4.lt
 have gdr : ∀ i, i < r → gsd i < w4.heap.size := fun i hi => (hD4.row i hi).lt
 have gdo := hD4.low
 have gdo' : ∀ i, i < r → w3.heap.size ≤ gsd i := fun i hi => (hD4.row i hi).low
 have gul := hU5.lt
 have gur : ∀ i, i < r → gsu i < w5.heap.size := fun i hi => (hU5.row i hi).lt
 have guo := hU5.low
 have guo' : ∀ i, i < r → w4.heap.size ≤ gsu i := fun i hi => (hU5.row i hi).low
 obtain ⟨lab, hlab⟩ : ∃ lab : Nat → Nat, lab = fun b => if b = ge then 0 else if b < w1.heap.size then 3 else if b < w4.heap.size then 1 else 2 := ⟨_, rfl⟩
 have L3 : ∀ b, b < w1.heap.size → lab b = 3 := fun b hb => by rw [hlab]; show (if b = ge then _ else _) = _; rw [if_neg (by omega), if_pos hb]
 have L1 : ∀ b, w3.heap.size ≤ b → b < w4.heap.size → lab b = 1 := fun b hb hb' => by rw [hlab]; show (if b = ge then _ else _) = _; rw [if_neg (by omega), if_neg (by omega), if_pos hb']
 have L2 : ∀ b, w4.heap.size ≤ b → b < w5.heap.size → lab b = 2 := fun b hb hb' => by rw [hlab]; show (if b = ge then _ else _) = _; rw [if_neg (by omega), if_neg (by omega), if_neg (by omega)]
 have hEL : EL K K w6 lab w.heap.size ge r c gd gu gv (fun i j => H2 j i) :=
  ⟨hb6, ⟨gsd, cpd, (hD6.up (by omega)).mono (by omega), fun i hi => L1 _ (gdo' i hi) (gdr i hi)⟩, ⟨gsu, cpu, _, (hU6.up (by omega)).mono (by omega), fun i hi => L2 _ (guo' i hi) (gur i hi)⟩,
   ⟨gsv, cpv, _, (hV6.up (by omega)).mono (Nat.le_refl _), fun i hi => L3 _ (gvr i hi)⟩, by rw [hlab]; exact if_pos rfl, L1 _ gdo gdl, L2 _ guo gul, L3 _ gvl, by omega⟩
 obtain ⟨n0, hn0, hI0⟩ := hR.start _ ⟨H, V, k, p, H2, U2, k2, p2, hF1.ceq, hF1.hf, hF3.ceq, hF3.hf, rfl⟩
 clear hF1 hF3 hT2 hD4 hU5 hV6 hD6 hU6 gvr gdr gdo' gur guo' L1 L2 L3 hlab
 obtain ⟨Z, hZ⟩ : ∃ Z, Z = (N + 1) * W := ⟨_, rfl⟩
 rw [← hZ] at hKU
 have hFe6 : ∀ w', Fe w.heap.size w6 w' → Ex w w' := fun w' h => h.1 w hE06 (Nat.le_refl _)
 obtain ⟨sd, cd, hMd, _⟩ := hEL.d
 repeat' (first|refine aB (j := 0) (a := some ⟨gd, 0, none⟩) rfl rfl ⟨_, _, rfl⟩ (by omega) ?_|refine aS (j := 0) (a := some ⟨gd, 0, none⟩) (n := r) (s := fun k => ⟨some ⟨sd k, 0, none⟩, c, cd k⟩) rfl hMd.top.sl (by omega) rfl ?_|refine jL rfl rfl ?_|refine ai rfl ?_|refine aa ?_|refine ao ?_|refine ah rfl ?_|refine ae ?_|refine bn rfl ?_|refine aC ?_)
 refine bh (ι := Nat × Nat × Mat) [13, 54, 55, 56, 57, 58, 59] (fun y => [(54, .int .i64 (y.1 : Int))])
  (fun y w' => y.1 ≤ min r c ∧ Fe w.heap.size w6 w' ∧ y.2.1 ≤ N ∧ I y.1 y.2.1 y.2.2 ∧ EL K (K + y.1 * Z) w' lab w.heap.size ge r c gd gu gv y.2.2) (fun y => min r c - y.1)
  (0, n0, _) ⟨rfl, trivial⟩ ⟨Nat.zero_le _, Fe.refl, hn0, hI0, hEL.up (Nat.le_refl _) (Nat.le_add_right _ _)⟩ ?_
 clear hEL hI0 hMd
 rintro ⟨t, n, D⟩ ξ w7 ⟨ht, hF7, hn, hI, hE7⟩
 simp only at ht hn hI hE7
 show CW _ _ _ _ (over [(54, .int .i64 (t : Int))] _) w7
 rcases Nat.lt_or_ge t (min r c) with htm | htm
 ·have hs : (t + 1) * Z = t * Z + Z := Nat.succ_mul t Z
  have hs2 : (t + 1) * Z ≤ 17 * Z := Nat.mul_le_mul_right Z (by omega)
  have hKn : K + t * Z + (n + 1) * W ≤ K + (t + 1) * Z := by
   have : (n + 1) * W ≤ Z := by rw [hZ]; exact Nat.mul_le_mul_right W (by omega)
   omega
  have hKU3 : K + (t + 1) * Z + 1000 * (K + 1) + K + K + 2 < 17592186044415 := Nat.lt_of_le_of_lt (Nat.add_le_add_right (Nat.add_le_add_right (Nat.add_le_add_right (Nat.add_le_add_right (show K + (t + 1) * Z ≤ KU by omega) _) _) _) _) hKU2
  repeat' (first|refine bA rfl rfl (by omega) ?_|refine ai rfl ?_|refine aa ?_|refine ao ?_|refine ah rfl ?_|refine ae ?_|refine aE rfl ?_|refine aC ?_|refine aI ?_)
  refine ax (oh (W := W) (hR.run t (by omega) (by omega)) hI hE7 (by omega) (by omega) (by omega) (by omega) hW hKn (by omega) hK hKU3) rfl ?_
  rintro v w8 ⟨hF8, A', hE8, hS⟩
  refine ⟨fun _ _ => trivial, ?_⟩
  obtain ⟨n', hn', hI'⟩ := hR.next t A' (by omega) (by omega) hS
  repeat' (first|refine ai rfl ?_|refine aa ?_|refine ah rfl ?_|refine ae ?_|refine bi rfl rfl (by omega) (by omega) ?_|refine aM ?_)
  exact ⟨⟨(t + 1, n', A'), ⟨htm, hF7.trans hF8, hn', hI', hE8⟩, by simp only; omega, rfl, trivial⟩, (by (repeat (first|exact aF _ _ _|refine ay rfl ?_|refine av rfl ?_|refine aj rfl ?_|refine ak rfl ?_)))⟩
 ·have etm : t = min r c := by omega
  rw [etm] at hI
  obtain ⟨s9, cp9, hM9, _⟩ := hE7.d
  repeat' (first|refine bz rfl rfl (by omega) ?_|refine aa ?_|refine ao ?_|refine ah rfl ?_|refine ae ?_|refine aA rfl ?_|refine aW ?_|refine aO ?_|refine aX ?_)
  refine aZ (late := []) (plan := [(0, none), (1, none), (2, none), (3, none), (4, none), (5, none), (6, none), (7, none), (8, none), (9, none)]) (fun w' => Ex w7 w') bt (by kernel_rfl) (Ex.refl w7).drew ?_
  have hEd := (Ex.refl w7).drew
  repeat' (first|refine aV (g := ge) (cs := elL gd gu gv r c) rfl (fun _ h => hE7.blk.ext h) rfl ?_|refine ai rfl ?_|refine aa ?_|refine ae ?_|refine aL rfl ?_|refine aT ?_)
  exact tv rfl (rt rfl) (rt rfl) (rt rfl) (rt rfl) ⟨gd, gu, gv, s9, cp9, D, n, rfl, hM9.ext hEd, hn, hI, (hFe6 _ hF7).trans hEd⟩
end Go.Proofs.Ytppipmkpmmdcjaa
namespace Go.Proofs.Ytppipmkpmmdcjaa
open Go.W Go.LM Go.LA
def RetFac (K N r c : Nat) (I : Nat → Nat → Mat → Prop) (w : World) (v : Value) (w' : World) : Prop :=
 ∃ g D n, v = .tuple #[.slice (some ⟨g, 0, none⟩) (min r c) (min r c), .bool true] ∧ RO true K w' w.heap.size g (min r c) (min r c) (fun i => D i i) ∧ n ≤ N ∧ I (min r c) n D ∧ Ex w w'
theorem gE {n cap : Nat} {w : World} {a : Option Addr} {s : Nat → SD} (hS : Sl w a (topC n s)) (hno : ¬ okS n s) :
  CallsR Try.prog 7 #[.slice a n cap] w fun v w' => v = .tuple #[.slice none 0 0, .bool false] ∧ Ex w w' := by
 refine aJ (args := [_]) Try.func7 rfl rfl ?_
 repeat' (first|refine ai rfl ?_|refine aa ?_|refine ao ?_|refine ah rfl ?_|refine ae ?_)
 refine ax (pI hS hno) rfl ?_
 rintro v w1 ⟨rfl, hE1⟩
 refine ⟨fun _ _ => trivial, ?_⟩
 repeat' (first|refine aH rfl rfl ?_|refine ai rfl ?_|refine aa ?_|refine ao ?_|refine ah rfl ?_|refine ae ?_|refine aE rfl ?_|refine aT ?_|refine bw ?_)
 exact fv rfl (rt rfl) (rt rfl) ⟨rfl, hE1⟩
set_option maxHeartbeats 4000000 in
theorem dA {cn : Bool} {K0 K KU N W r c cap : Nat} {w : World} {a : Option Addr} {s : Nat → SD} {A : Mat} {I : Nat → Nat → Mat → Prop} (hM : MX cn K0 w a r c s A) (hr : 1 ≤ r ∧ r ≤ 16) (hc : 1 ≤ c ∧ c ≤ 16) (hR : RunsA r c K N A I)
  (hK0 : 1 ≤ K0) (hK1 : 300 * (34 * K0 + 100) + 1000 < 4398046511104) (hKK : 34 * (34 * K0 + 100) + 100 ≤ K) (hK : K + K < 17592186044415) (hW : W = r * (K + 1) + c * (K + 1) + 4) (hKU : K + 17 * ((N + 1) * W) ≤ KU) (hKU2 : KU + 1000 * (K + 1) + K + K + 2 < 17592186044415) :
  CallsR Try.prog 7 #[.slice a r cap] w (RetFac K N r c I w) := by
 refine aJ (args := [_]) Try.func7 rfl rfl ?_
 repeat' (first|refine ai rfl ?_|refine aa ?_|refine ao ?_|refine ah rfl ?_|refine ae ?_)
 refine ax (mV hM hr hc hR hK0 hK1 hKK hK hW hKU hKU2) rfl ?_
 rintro v w1 ⟨gd, gu, gv, sd, cd, D, n, rfl, hD, hn, hI, hE1⟩
 refine ⟨fun _ _ => trivial, ?_⟩
 clear hR hKU hKU2 hW
 repeat' (first|refine aH rfl rfl ?_|refine aB (j := 0) (a := some ⟨gd, 0, none⟩) rfl rfl ⟨_, _, rfl⟩ (by omega) ?_|refine aS (j := 0) (a := some ⟨gd, 0, none⟩) (n := r) (s := fun k => ⟨some ⟨sd k, 0, none⟩, c, cd k⟩) rfl hD.top.sl (by omega) rfl ?_|refine jL rfl rfl ?_|refine dS (n := min r c) rfl rfl (by omega) (by omega) (fun g w2 hn2 => ⟨fun _ _ => trivial, ?_⟩)|refine ai rfl ?_|refine aa ?_|refine ao ?_|refine ah rfl ?_|refine ae ?_|refine bn rfl ?_|refine aA rfl ?_|refine aC ?_|refine aI ?_)
 have lo2 := hn2.lo
 have s1 := hE1.size
 have hE2 := hE1.trans hn2.ex
 refine bh (ι := Nat × (Nat → IH)) [9, 29, 30, 31, 32, 33, 34, 35, 36, 37, 38, 39, 40, 41, 42] (fun y => [(29, .int .i64 (y.1 : Int))])
  (fun y w' => y.1 ≤ min r c ∧ w2.grownBy w' (some g) ∧ Blk w' g 27 (rowC (min r c) y.2) ∧ ∀ i, i < y.1 → Ent true K w' (y.2 i).val (D i i)) (fun y => min r c - y.1)
  (0, fun _ => ih0) ⟨rfl, trivial⟩ ⟨Nat.zero_le _, bc (Chg.refl _ _), hn2.blk, fun i hi => by simp only at hi; omega⟩ ?_
 rintro ⟨t, h⟩ ξ w3 ⟨ht, hG3, hb3, hEn3⟩
 simp only at ht hb3 hEn3
 show CW _ _ _ _ (over [(29, .int .i64 (t : Int))] _) w3
 have hE13 : Ex w1 w3 := hn2.ex.gb hG3 (fun k e => by cases e; omega)
 rcases Nat.lt_or_ge t (min r c) with htm | htm
 ·have hD3 := hD.ext hE13
  obtain ⟨hh, hbr, hcr, hEr⟩ := hD3.get (k := t) (by omega)
  repeat' (first|refine bA rfl rfl (by omega) ?_|refine aB (j := t) (a := some ⟨gd, 0, none⟩) rfl rfl ⟨_, _, rfl⟩ (by omega) ?_|refine aS (j := t) (a := some ⟨gd, 0, none⟩) (n := r) (s := fun k => ⟨some ⟨sd k, 0, none⟩, c, cd k⟩) rfl hD3.top.sl (by omega) rfl ?_|refine aU (j := t) (a := some ⟨sd t, 0, none⟩) rfl rfl ⟨_, _, rfl⟩ (by omega) ?_|refine bp (j := t) (n := cd t) (a := some ⟨sd t, 0, none⟩) rfl hbr.sl ⟨_, _, rfl⟩ (by omega) ?_|refine aU (j := t) (a := some ⟨g, 0, none⟩) rfl rfl ⟨_, _, rfl⟩ (by omega) ?_|refine ai rfl ?_|refine aa ?_|refine ao ?_|refine ah rfl ?_|refine ae ?_|refine aE rfl ?_|refine aC ?_|refine aI ?_)
  refine bP (j := t) (n := min r c) (u := hh t) rfl rfl hb3 (by omega) (fun w4 hc4 hb4 => ⟨fun _ _ => trivial, ?_⟩)
  repeat' (first|refine ai rfl ?_|refine aa ?_|refine ah rfl ?_|refine ae ?_|refine bi rfl rfl (by omega) (by omega) ?_|refine aM ?_)
  exact ⟨⟨(t + 1, setF h t (hh t)), ⟨htm, bC hG3 (bc hc4) (fun k e => .inl e), hb4, RO.fill (f := fun i => D i i) (fun k hk => hEn3 k hk) hb3 (hEr t (by omega)) hc4⟩, by simp only; omega, rfl, trivial⟩, (by (repeat (first|exact aF _ _ _|refine ay rfl ?_|refine av rfl ?_|refine aj rfl ?_|refine ak rfl ?_)))⟩
 ·have etm : t = min r c := by omega
  subst etm
  repeat' (first|refine bz rfl rfl (by omega) ?_|refine ai rfl ?_|refine aa ?_|refine ao ?_|refine ah rfl ?_|refine ae ?_|refine aA rfl ?_|refine aW ?_|refine aO ?_|refine aX ?_|refine aT ?_)
  exact fv rfl (rt rfl) (rt rfl) ⟨g, D, n, rfl, ⟨by omega, Nat.le_refl _, h, hb3, hEn3⟩, hn, hI, hE1.trans hE13⟩
theorem cH {n cap : Nat} {w : World} {a : Option Addr} {s : Nat → SD} (hS : Sl w a (topC n s)) (hno : ¬ okS n s ∨ (okS n s ∧ (8 < n ∨ 8 < (s 0).len))) (hn : n ≤ 1000) :
  CallsR Try.prog 6 #[.slice a n cap] w fun v w' => v = .tuple #[.slice none 0 0, .bool false] ∧ Ex w w' := by
 refine aJ (args := [_]) Try.func6 rfl rfl ?_
 repeat' (first|refine ai rfl ?_|refine aa ?_|refine ao ?_|refine ah rfl ?_|refine ae ?_)
 refine ax (eG hS) rfl ?_
 rintro v w1 ⟨rfl, hE1⟩
 refine ⟨fun _ _ => trivial, ?_⟩
 rcases hno with hno | ⟨hok, hbig⟩
 ·rw [fX hno]
  repeat' (first|refine aH rfl rfl ?_|refine ai rfl ?_|refine aa ?_|refine ao ?_|refine ah rfl ?_|refine ae ?_|refine bS rfl rfl ?_|refine aE rfl ?_|refine aT ?_|refine bw ?_)
  exact fv rfl (rt rfl) (rt rfl) ⟨rfl, hE1⟩
 ·unfold shapeV
  rw [if_pos hok]
  rcases Nat.lt_or_ge 8 n with h | h
  ·repeat' (first|refine aH rfl rfl ?_|refine oE rfl rfl (by omega) ?_|refine ai rfl ?_|refine aa ?_|refine ao ?_|refine ah rfl ?_|refine ae ?_|refine bB rfl rfl ?_|refine bS rfl rfl ?_|refine aE rfl ?_|refine aT ?_|refine bw ?_)
   exact fv rfl (rt rfl) (rt rfl) ⟨rfl, hE1⟩
  ·have h2 : 8 < (s 0).len := by omega
   repeat' (first|refine aH rfl rfl ?_|refine ml rfl rfl (show ((n : Nat) : Int) ≤ 8 by omega) ?_|(refine oE rfl rfl (show ((8 : Nat) : Int) < (((s 0).len : Nat) : Int) by omega) ?_)|refine ai rfl ?_|refine aa ?_|refine ao ?_|refine ah rfl ?_|refine ae ?_|refine bB rfl rfl ?_|refine aE rfl ?_|refine aT ?_|refine bw ?_)
   exact fv rfl (rt rfl) (rt rfl) ⟨rfl, hE1⟩
set_option maxHeartbeats 4000000 in
theorem jU {cn : Bool} {K0 K KU N W n cap : Nat} {w : World} {a : Option Addr} {s : Nat → SD} {A : Mat} {I : Nat → Nat → Mat → Prop} (hM : MX cn K0 w a n n s A) (hn : 1 ≤ n ∧ n ≤ 16) (hdet : det n A ≠ 0) (hR : RunsA n n K N A I) (hK00 : 16 * K0 + 17 ≤ 4398046511104)
  (hK0 : 1 ≤ K0) (hK1 : 300 * (34 * K0 + 100) + 1000 < 4398046511104) (hKK : 34 * (34 * K0 + 100) + 100 ≤ K) (hK : K + K < 17592186044415) (hW : W = n * (K + 1) + n * (K + 1) + 4) (hKU : K + 17 * ((N + 1) * W) ≤ KU) (hKU2 : KU + 1000 * (K + 1) + K + K + 2 < 17592186044415) :
  CallsR Try.prog 16 #[.slice a n cap] w fun v w' => ∃ u D m, v = .tuple #[u, .bool true] ∧ Ent true K w' u (D (n - 1) (n - 1)) ∧ m ≤ N ∧ I n m D ∧ Ex w w' := by
 refine aJ (args := [_]) Try.func16 rfl rfl ?_
 repeat' (first|refine aD (fun g1 w1 hn1 => ⟨fun _ _ => trivial, ?_⟩)|refine ai rfl ?_|refine aa ?_|refine ao ?_|refine ah rfl ?_|refine ae ?_)
 have hb1 : Blk w1 g1 27 (intL false none 0 0) := hn1.blk
 refine ax (ke (hM.ext hn1.ex) hn hK00) rfl ?_
 rintro v w2 ⟨u, rfl, hI2, hE2⟩
 refine ⟨fun _ _ => trivial, ?_⟩
 obtain ⟨x2, rfl⟩ := hI2.ih
 repeat' (first|refine aH rfl rfl ?_|refine ai rfl ?_)
 refine aD (fun g4 w4 hn4 => ⟨fun _ _ => trivial, ?_⟩)
 have hb4 : Blk w4 g4 27 (intL false none 0 0) := hn4.blk
 skip
 refine aw (n := 2) (vs := x2.cells) rfl rfl rfl rfl hb4 rfl (fun w5 hc5 hb5 => ⟨fun _ _ => trivial, ?_⟩)
 have hE25 : Ex w2 w5 := hn4.ex.chg hc5 hn4.lo
 have hE15 := hE2.trans hE25
 have hd5 : IntC w1.heap.size w5 x2.val (det n A) := hI2.ext hE25
 repeat' (first|refine aP (g := g4) rfl hb5 rfl ?_|refine ai rfl ?_|refine aa ?_|refine ao ?_|refine ah rfl ?_|refine ae ?_|refine bB rfl rfl ?_)
 refine ax (bI (hd5.k (k := 16 * K0 + 17) (Nat.lt_of_lt_of_le (Lb.det (fun r c hr hc => hM.lb hr hc) (by omega)) (Nat.pow_le_pow_right (by decide) (by have : (K0 + 1) * n ≤ (K0 + 1) * 16 := Nat.mul_le_mul_left _ hn.2; omega))))) rfl ?_
 rintro v w6 ⟨rfl, hE6⟩
 refine ⟨fun _ _ => trivial, ?_⟩
 have hE16 := hE15.trans hE6
 have hE06 := hn1.ex.trans hE16
 repeat' (first|refine kZ rfl rfl (fun e => hdet (Int.sign_eq_zero_iff_zero.1 e)) ?_|refine ai rfl ?_|refine aa ?_|refine ao ?_|refine ah rfl ?_|refine ae ?_|refine bB rfl rfl ?_|refine aA rfl ?_|refine aI ?_)
 refine ax (dA (hM.ext hE06) hn hn hR hK0 hK1 hKK hK hW hKU hKU2) rfl ?_
 rintro v w7 ⟨g7, D, m, rfl, hO7, hm, hI7, hE7⟩
 refine ⟨fun _ _ => trivial, ?_⟩
 rw [Nat.min_self] at hO7 hI7 ⊢
 obtain ⟨hh, hb7, hEn7⟩ := hO7.ex
 have hE17 := hE16.trans hE7
 repeat' (first|refine aH rfl rfl ?_|refine aU (j := n - 1) (a := some ⟨g7, 0, none⟩) rfl (show _ = Value.int .i64 ((n - 1 : Nat) : Int) from congrArg (Value.int .i64) (by omega)) ⟨_, _, rfl⟩ (by omega) ?_|refine bp (j := n - 1) (n := n) (a := some ⟨g7, 0, none⟩) rfl hb7.sl ⟨_, _, rfl⟩ (by omega) ?_|refine ai rfl ?_|refine aa ?_|refine ao ?_|refine ah rfl ?_|refine ae ?_|refine bn rfl ?_|refine dh rfl rfl (by omega) (by omega) ?_)
 refine aw (n := 2) (vs := (hh (n - 1)).cells) rfl rfl rfl rfl (hb1.ext hE17) rfl (fun w8 hc8 hb8 => ⟨fun _ _ => trivial, ?_⟩)
 repeat' (first|refine ai rfl ?_|refine aa ?_|refine ae ?_|refine aT ?_)
 exact fv rfl (rc rfl rfl hb8) (rt rfl) ⟨_, D, m, rfl, (hEn7 (n - 1) (by omega)).gbN (hb1.ext hE17) (au _ _ _ _) (bc hc8), hm, hI7, (hn1.ex.trans hE17).chg hc8 hn1.lo⟩
end Go.Proofs.Ytppipmkpmmdcjaa
namespace Go.LA
def litF (L : List (List Int)) : Mat := fun i j => (L.getD i []).getD j 0
theorem f6 {r c k k' : Nat} {A H U H' U' : Mat} {p p' : Nat → Nat} (h : CEq r c A H U) (hF : HF r c H k p) (h' : CEq r c A H' U') (hF' : HF r c H' k' p') : k = k' ∧ ∀ i j, i < r → j < c → H i j = H' i j := by
 have hL : ∀ v, InL r c H v ↔ InL r c H' v := fun v => (h.inL v).trans (h'.inL v).symm
 exact ⟨(hF.unique hF' hL).1, hF.unique' hF' hL⟩
theorem eY {p : Nat → Prop} (h0 : p 0) (h1 : p 1) : ∀ i, i < 2 → p i := fun i hi => by
 match i, hi with
 | 0, _ => exact h0
 | 1, _ => exact h1
end Go.LA
namespace Go.Proofs.Ytppipmkpmmdcjaa
open Go.W Go.LM Go.LA
def Eqm (r c : Nat) (A B : Mat) : Prop := ∀ i j, i < r → j < c → A i j = B i j
def dgE (e : Nat → Int) : Mat := fun i j => if i = j then e i else 0
def cs2 (t q b : Nat) : Nat := if b = t then q else if b = q then t else b
theorem rr {t q b c : Nat} (ht : t < c) (hq : q < c) (hb : b < c) : cs2 t q b < c := by unfold cs2; split; omega; split <;> omega
theorem mW (A : Mat) (t p q a b : Nat) : stB A t p q a b = A (swp2 t p a) (cs2 t q b) := rfl
section
variable {r c t p q i : Nat} {A B : Mat}
theorem Eqm.stB (h : Eqm r c A B) (htr : t < r) (htc : t < c) (hp : p < r) (hq : q < c) : Eqm r c (stB A t p q) (stB B t p q) := fun a b ha hb => by
 rw [mW, mW]; exact h _ _ (dH htr hp ha) (rr htc hq hb)
theorem Eqm.rdiv (h : Eqm r c A B) (htr : t < r) (htc : t < c) : Eqm r c (rdiv A t) (rdiv B t) := fun a b ha hb => by
 unfold Go.Proofs.Ytppipmkpmmdcjaa.rdiv; rw [h a b ha hb, h a t ha htc, h t t htr htc, h t b htr hb]
theorem Eqm.cdiv (h : Eqm r c A B) (htr : t < r) (htc : t < c) : Eqm r c (cdiv A t) (cdiv B t) := fun a b ha hb => by
 unfold Go.Proofs.Ytppipmkpmmdcjaa.cdiv; rw [h a b ha hb, h a t ha htc, h t t htr htc, h t b htr hb]
theorem Eqm.radd (h : Eqm r c A B) (htr : t < r) (hi : i < r) : Eqm r c (radd A t i) (radd B t i) := fun a b ha hb => by
 unfold Go.Proofs.Ytppipmkpmmdcjaa.radd
 by_cases e : a = t
 ·rw [e, aK, aK]; show A t b + 1 * A i b = B t b + 1 * B i b; rw [h t b htr hb, h i b hi hb]
 ·rw [aN _ _ e, aN _ _ e]; exact h a b ha hb
theorem Eqm.rneg (h : Eqm r c A B) (htr : t < r) : Eqm r c (rneg A t) (rneg B t) := fun a b ha hb => by
 unfold Go.Proofs.Ytppipmkpmmdcjaa.rneg
 by_cases e : a = t
 ·rw [e, aK, aK]; show - A t b = - B t b; rw [h t b htr hb]
 ·rw [aN _ _ e, aN _ _ e]; exact h a b ha hb
theorem Eqm.trans {C : Mat} (h : Eqm r c A B) (k : Eqm r c B C) : Eqm r c A C := fun a b ha hb => (h a b ha hb).trans (k a b ha hb)
theorem Eqm.least (h : Eqm r c A B) (hL : LeastAt A r c t p q) : LeastAt B r c t p q := by
 obtain ⟨h1, h2, h3, h4, h5, h6⟩ := hL
 refine ⟨h1, h2, h3, h4, by rw [← h p q h2 h4]; exact h5, fun a b ha har hb hbc hn => ?_⟩
 rw [← h p q h2 h4, ← h a b har hbc]
 exact h6 a b ha har hb hbc (by rw [h a b har hbc]; exact hn)
end
theorem kn {r c K : Nat} {A : Mat} {e : Nat → Int} (hs : ∀ D, DH r c A D → Eqm r c D (dgE e)) (he : ∀ i, 0 ≤ e i) (hd : ∀ i j, i ≤ j → e i ∣ e j) (hK : ∀ i, Lb K (e i)) :
  RunsA r c K 0 A (fun _ n D => n = 0 ∧ Eqm r c D (dgE e)) := by
 have hLb : ∀ a b, Lb K (dgE e a b) := fun a b => by unfold dgE; split; exact hK _; exact f4
 have key : ∀ t p q (D : Mat), Eqm r c D (dgE e) → LeastAt D r c t p q → t < r ∧ t < c ∧ Eqm r c (stB D t p q) (dgE e) ∧ Eqm r c (rdiv (stB D t p q) t) (dgE e) ∧ Eqm r c (stC D t p q) (dgE e) := by
  intro t p q D hE hL
  have hL2 := hE.least hL
  obtain ⟨h1, h2, h3, h4, h5, h6⟩ := hL2
  have htr : t < r := by omega
  have htc : t < c := by omega
  have epq : p = q := Decidable.byContradiction fun hne => h5 (if_neg hne)
  subst epq
  have hep : e p ≠ 0 := fun h => h5 (by unfold dgE; rw [if_pos rfl]; exact h)
  have hdv := hd t p h1
  have het : e t ≠ 0 := fun h => by rw [h] at hdv; exact hep (Int.zero_dvd.1 hdv)
  have hle := h6 t t (Nat.le_refl _) htr (Nat.le_refl _) htc (by unfold dgE; rw [if_pos rfl]; exact het)
  have eeq : e p = e t := by
   unfold dgE at hle
   rw [if_pos rfl, if_pos rfl] at hle
   have h7 := Int.natAbs_dvd_natAbs.2 hdv
   have h8 := Nat.le_of_dvd (by omega) h7
   have := he p
   have := he t
   omega
  have hB : Eqm r c (stB D t p p) (dgE e) := (hE.stB htr htc h2 h4).trans (fun a b ha hb => by
   rw [mW]
   have hcs : cs2 t p b = swp2 t p b := rfl
   rw [hcs]
   unfold dgE
   by_cases hab : a = b
   ·subst hab
    rw [if_pos rfl, if_pos rfl]
    unfold swp2
    by_cases h9 : a = t
    ·rw [if_pos h9, h9]; exact eeq
    ·rw [if_neg h9]
     by_cases h10 : a = p
     ·rw [if_pos h10, h10]; exact eeq.symm
     ·rw [if_neg h10]
   ·rw [if_neg hab, if_neg (fun h => hab (lK h))])
  have hR : Eqm r c (rdiv (stB D t p p) t) (dgE e) := (hB.rdiv htr htc).trans (fun a b ha hb => by
   unfold rdiv
   by_cases h9 : t < a
   ·rw [if_pos h9, show dgE e a t = 0 from if_neg (by omega), Int.zero_ediv, Int.zero_mul, Int.sub_zero]
   ·rw [if_neg h9])
  have hC : Eqm r c (stC D t p p) (dgE e) := (hR.cdiv htr htc).trans (fun a b ha hb => by
   unfold cdiv
   by_cases h9 : t < b
   ·rw [if_pos h9, show dgE e t b = 0 from if_neg (by omega), Int.zero_ediv, Int.zero_mul, Int.sub_zero]
   ·rw [if_neg h9])
  exact ⟨htr, htc, hB, hR, hC⟩
 refine ⟨fun D h => ⟨0, Nat.le_refl _, rfl, hs D h⟩, fun t htr htc => ⟨?_, ?_, ?_, ?_, ?_, ?_, ?_⟩, fun t A' htr htc hS => ?_⟩
 ·rintro n D ⟨rfl, hE⟩ a b ha hb
  rw [hE a b ha hb]; exact hLb a b
 ·rintro n D p q ⟨rfl, hE⟩ hL a b ha hb
  rw [(key t p q D hE hL).2.2.2.1 a b ha hb]; exact hLb a b
 ·rintro n D p q ⟨rfl, hE⟩ hL ⟨x, h1, h2, h3⟩
  obtain ⟨_, _, hB, _, _⟩ := key t p q D hE hL
  rw [hB x t h2 htc, show dgE e x t = 0 from if_neg (by omega)] at h3
  exact absurd (Int.zero_emod _) h3
 ·rintro n D p q ⟨rfl, hE⟩ hL _ a b ha hb
  rw [(key t p q D hE hL).2.2.2.2 a b ha hb]; exact hLb a b
 ·rintro n D p q ⟨rfl, hE⟩ hL _ ⟨x, h1, h2, h3⟩
  obtain ⟨_, _, _, hR, _⟩ := key t p q D hE hL
  rw [hR t x htr h2, show dgE e t x = 0 from if_neg (by omega)] at h3
  exact absurd (Int.zero_emod _) h3
 ·rintro n D p q ⟨rfl, hE⟩ hL _ _ i h1 h2 b hb
  obtain ⟨_, _, _, _, hC⟩ := key t p q D hE hL
  rw [hC t b htr hb, hC i b h2 hb]
  by_cases e1 : t = b
  ·rw [show dgE e i b = 0 from if_neg (by omega), Int.mul_zero, Int.add_zero]; exact hLb _ _
  ·rw [show dgE e t b = 0 from if_neg e1, Int.zero_add, Int.one_mul]; exact hLb _ _
 ·rintro n D p q ⟨rfl, hE⟩ hL _ _ i h1 h2 ⟨b, h3, h4, h5⟩
  obtain ⟨_, _, _, _, hC⟩ := key t p q D hE hL
  rw [hC i b h2 h4, hC t t htr htc] at h5
  refine absurd ?_ h5
  rw [show dgE e t t = e t from if_pos rfl]
  unfold dgE
  by_cases e1 : i = b
  ·rw [if_pos e1]; exact Int.emod_eq_zero_of_dvd (hd t i (by omega))
  ·rw [if_neg e1]; exact Int.zero_emod _
 ·rcases hS with ⟨n, ⟨rfl, hE⟩, _⟩ | ⟨n, D, p, q, ⟨rfl, hE⟩, hL, _, _, _, h⟩
  ·exact ⟨0, Nat.le_refl _, rfl, hE⟩
  ·obtain ⟨_, _, _, _, hC⟩ := key t p q D hE hL
   rcases h with ⟨rfl, _⟩ | ⟨rfl, hng⟩
   ·exact ⟨0, Nat.le_refl _, rfl, hC⟩
   ·rw [hC t t htr htc, show dgE e t t = e t from if_pos rfl] at hng
    have := he t
    omega
end Go.Proofs.Ytppipmkpmmdcjaa
