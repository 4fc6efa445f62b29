import Derived.Test.YtppipmkpmmdcjaaGreatA17
import Derived.Test.YtppipmkpmmdcjaaGreatA18
namespace Go.Proofs.YtppipmkpmmdcjaaGreat
open Go.W Go.LM Go.LA
def stB (A : Mat) (t p q : Nat) : Mat := cswp (fun a b => A (swp2 t p a) b) t q
def stC (A : Mat) (t p q : Nat) : Mat := cdiv (rdiv (stB A t p q) t) t
def radd (D : Mat) (t i : Nat) : Mat := setF D t fun k => D t k + 1 * D i k
def rneg (D : Mat) (t : Nat) : Mat := setF D t fun k => - D t k
def Rz (r t : Nat) (A : Mat) (p q : Nat) : Prop := ∀ x, t < x → x < r → stB A t p q x t % stB A t p q t t = 0
def Cz6 (c t : Nat) (A : Mat) (p q : Nat) : Prop := ∀ x, t < x → x < c → rdiv (stB A t p q) t t x % rdiv (stB A t p q) t t t = 0
structure Runs (r c t K : Nat) (I : Nat → Mat → Prop) : Prop where
 lb : ∀ n A, I n A → ∀ a b, a < r → b < c → Lb K (A a b)
 lb1 : ∀ n A p q, I n A → LeastAt A r c t p q → ∀ a b, a < r → b < c → Lb K (rdiv (stB A t p q) t a b)
 go1 : ∀ n A p q, I n A → LeastAt A r c t p q → (∃ x, t < x ∧ x < r ∧ stB A t p q x t % stB A t p q t t ≠ 0) → ∃ m, m < n ∧ I m (rdiv (stB A t p q) t)
 lb2 : ∀ n A p q, I n A → LeastAt A r c t p q → Rz r t A p q → ∀ a b, a < r → b < c → Lb K (stC A t p q a b)
 go2 : ∀ n A p q, I n A → LeastAt A r c t p q → Rz r t A p q → (∃ x, t < x ∧ x < c ∧ rdiv (stB A t p q) t t x % rdiv (stB A t p q) t t t ≠ 0) → ∃ m, m < n ∧ I m (stC A t p q)
 lb3 : ∀ n A p q, I n A → LeastAt A r c t p q → Rz r t A p q → Cz6 c t A p q → ∀ i, t < i → i < r → ∀ b, b < c → Lb K (stC A t p q t b + 1 * stC A t p q i b)
 go3 : ∀ n A p q, I n A → LeastAt A r c t p q → Rz r t A p q → Cz6 c t A p q → ∀ i, t < i → i < r → (∃ b, t < b ∧ b < c ∧ stC A t p q i b % stC A t p q t t ≠ 0) → ∃ m, m < n ∧ I m (radd (stC A t p q) t i)
def StepR (r c t : Nat) (I : Nat → Mat → Prop) (A' : Mat) : Prop :=
 (∃ n, I n A' ∧ Zreg A' r c t) ∨ ∃ n A p q, I n A ∧ LeastAt A r c t p q ∧ Rz r t A p q ∧ Cz6 c t A p q ∧ (∀ a b, t < a → a < r → t < b → b < c → stC A t p q a b % stC A t p q t t = 0) ∧
  ((A' = stC A t p q ∧ 0 ≤ stC A t p q t t) ∨ (A' = rneg (stC A t p q) t ∧ stC A t p q t t < 0))
theorem nm (A : Mat) (t p q : Nat) : stB A t p q t t = A p q := by
 unfold stB cswp swp2; simp
set_option maxHeartbeats 4000000 in
theorem qP {K KU Ku W lo ge r c gd gu gv t n : Nat} {w : World} {lab : Nat → Nat} {A : Mat} {I : Nat → Mat → Prop} (hR : Runs r c t K I) (hI : I n A) (hE : EL K Ku w lab lo ge r c gd gu gv A) (hr : r ≤ 1000) (hc : c ≤ 1000) (htr : t < r) (htc : t < c)
  (hW : W = r * (K + 1) + c * (K + 1) + 4) (hKn : Ku + (n + 1) * W ≤ KU) (hK1 : 1 ≤ K) (hK : K + K < 17592186044415) (hKU : KU + 1000 * (K + 1) + K + K + 2 < 17592186044415) :
  CallsR Tryz.prog 33 #[.pointer (some ⟨ge, 0, none⟩), .int .i64 (t : Int)] w fun _ w' => Fe lo w w' ∧ ∃ A', EL K KU w' lab lo ge r c gd gu gv A' ∧ StepR r c t I A' := by
 obtain ⟨X, hX⟩ : ∃ X, X = r * (K + 1) := ⟨_, rfl⟩
 obtain ⟨Y, hY⟩ : ∃ Y, Y = c * (K + 1) := ⟨_, rfl⟩
 rw [← hX, ← hY] at hW
 refine aH (args := [_, _]) Tryz.func33 rfl rfl ?_
 refine ro (ι := Nat × Nat × Mat) [4, 5, 6, 7, 8, 9, 10, 11, 12, 13, 14, 15, 16, 17, 18, 19, 20, 21, 22, 23, 24, 25, 26, 27, 28, 29, 30, 31, 32, 33, 34, 35, 36, 37, 38, 39, 40, 41, 42, 43, 44, 45, 46, 47, 48, 49, 50, 51, 52, 53, 54, 55, 56, 57, 58, 59, 60, 61, 62, 63, 64, 65, 66, 67, 68, 69, 70, 71, 72, 73, 74, 75, 76, 77] (fun _ => [])
  (fun s w' => Fe lo w w' ∧ s.2.1 + (s.1 + 1) * W ≤ KU ∧ I s.1 s.2.2 ∧ EL K s.2.1 w' lab lo ge r c gd gu gv s.2.2) (fun s => s.1) (n, Ku, A) trivial ⟨Fe.refl, hKn, hI, hE⟩ ?_
 clear hI hE hKn
 clear A Ku n
 rintro ⟨n, Ku, A⟩ ξ w2 ⟨hF2, hKn, hI, hE2⟩
 simp only at hKn hI hE2
 show CW _ _ _ _ (over [] _) w2
 have hn1 : (n + 1) * W = n * W + W := Nat.succ_mul n W
 have hb1 : Ku + W ≤ KU := by omega
 have hb2 : Ku + 1000 * (K + 1) + K + K + 2 < 17592186044415 := Nat.lt_of_le_of_lt (Nat.add_le_add_right (Nat.add_le_add_right (Nat.add_le_add_right (Nat.add_le_add_right (show Ku ≤ KU by omega) _) _) _) _) hKU
 have hb3 : Ku + X + 1000 * (K + 1) + K + K + 2 < 17592186044415 := Nat.lt_of_le_of_lt (Nat.add_le_add_right (Nat.add_le_add_right (Nat.add_le_add_right (Nat.add_le_add_right (show Ku + X ≤ KU by omega) _) _) _) _) hKU
 have hnext : ∀ m Ku', m < n → Ku' ≤ Ku + W → Ku' + (m + 1) * W ≤ KU := fun m Ku' hm hk => by
  have h1 : (m + 1) * W ≤ n * W := Nat.mul_le_mul_right W hm
  omega
 repeat' (first|refine ai rfl ?_|refine aj ?_|refine ah rfl ?_)
 refine av (pC hE2 hr hc ⟨by omega, by omega⟩) rfl ?_
 rintro v w3 ⟨hE23, hcase⟩
 refine ⟨fun _ _ => trivial, ?_⟩
 have hE3 := hE2.ext hE23
 have hF3 := hF2.trans (Fe.ex hE23)
 clear hE2 hF2
 rcases hcase with ⟨rfl, hz⟩ | ⟨p, q, rfl, hL⟩
 ·repeat' (first|refine aS rfl rfl ?_|refine ai rfl ?_|refine aa ?_|refine aj ?_|refine ah rfl ?_|refine ae ?_|refine aD rfl ?_|refine aR ?_|refine bv ?_)
  refine qq ?_
  exact wq rfl ⟨hF3, A, hE3.up (Nat.le_refl _) (by omega), .inl ⟨n, hI, hz⟩⟩
 have hL' := hL
 obtain ⟨hp1, hp2, hq1, hq2, hpq, _⟩ := hL'
 repeat' (first|refine aS rfl rfl ?_|refine ai rfl ?_|refine aa ?_|refine aj ?_|refine ah rfl ?_|refine ae ?_|refine ay rfl ?_|refine aF ?_)
 refine av (ll hE3 hr hc htr hp2 htc hq2) rfl ?_
 rintro v w4 ⟨hF34, hE4⟩
 refine ⟨fun _ _ => trivial, ?_⟩
 have hF4 := hF3.trans hF34
 have hP4 : stB A t p q t t ≠ 0 := by rw [nm]; exact hpq
 change EL K Ku w4 lab lo ge r c gd gu gv (stB A t p q) at hE4
 have hl1 := hR.lb1 n A p q hI hL
 clear hE3 hF3
 repeat' (first|refine ai rfl ?_|refine aa ?_|refine aj ?_|refine ah rfl ?_|refine ae ?_)
 refine av (j6 (K' := K) hE4 hr hc htr htc hP4 (Nat.le_refl _) hK hb2 (fun a b h1 h2 h3 => by have := hl1 a b h2 h3; unfold rdiv at this; rw [if_pos h1] at this; exact this)) rfl ?_
 rintro v w5 ⟨left, rfl, hleft, hF45, hE5⟩
 refine ⟨fun _ _ => trivial, ?_⟩
 rw [← hX] at hE5
 have hF5 := hF4.trans hF45
 clear hE4 hF4
 cases left with
 | true =>
  repeat' (first|refine ai rfl ?_|refine aa ?_|refine ae ?_|refine cB rfl rfl ?_|refine aD rfl ?_)
  obtain ⟨m, hm, hIm⟩ := hR.go1 n A p q hI hL (hleft.1 rfl)
  refine mS ?_
  repeat' (refine iC ?_)
  refine iB ?_
  exact ⟨⟨(m, Ku + X, rdiv (stB A t p q) t), ⟨hF5, hnext m (Ku + X) hm (by omega), hIm, hE5⟩, hm, trivial⟩, (by (repeat (first|exact aE _ _ _|refine aw rfl ?_|refine au rfl ?_|refine ak rfl ?_|refine ao rfl ?_)))⟩
 | false =>
  have hRz : Rz r t A p q := fun x h1 h2 => Decidable.byContradiction fun h => by have := hleft.2 ⟨x, h1, h2, h⟩; cases this
  have hP5 : rdiv (stB A t p q) t t t ≠ 0 := by unfold rdiv; rw [if_neg (by omega)]; exact hP4
  have hl2 := hR.lb2 n A p q hI hL hRz
  repeat' (first|refine ai rfl ?_|refine bR rfl rfl ?_)
  refine av (iK (K' := K) hE5 hr hc htr htc hP5 (Nat.le_refl _) hK hb3 (fun a b h1 h2 h3 => by have := hl2 a b h1 h3; unfold stC cdiv at this; rw [if_pos h2] at this; exact this)) rfl ?_
  rintro v w6 ⟨left2, rfl, hleft2, hF56, hE6⟩
  refine ⟨fun _ _ => trivial, ?_⟩
  rw [← hY] at hE6
  change EL K (Ku + X + Y) w6 lab lo ge r c gd gu gv (stC A t p q) at hE6
  have hF6 := hF5.trans hF56
  clear hE5 hF5
  cases left2 with
  | true =>
   repeat' (first|refine ai rfl ?_|refine aa ?_|refine ae ?_|refine aD rfl ?_)
   obtain ⟨m, hm, hIm⟩ := hR.go2 n A p q hI hL hRz (hleft2.1 rfl)
   refine mS ?_
   repeat' (refine iC ?_)
   refine iB ?_
   exact ⟨⟨(m, Ku + X + Y, stC A t p q), ⟨hF6, hnext m (Ku + X + Y) hm (by omega), hIm, hE6⟩, hm, trivial⟩, (by (repeat (first|exact aE _ _ _|refine aw rfl ?_|refine au rfl ?_|refine ak rfl ?_|refine ao rfl ?_)))⟩
  | false =>
   have hCz : Cz6 c t A p q := fun x h1 h2 => Decidable.byContradiction fun h => by have := hleft2.2 ⟨x, h1, h2, h⟩; cases this
   repeat' (first|refine ai rfl ?_|refine aa ?_|refine aj ?_|refine ah rfl ?_|refine ae ?_|refine ay rfl ?_|refine aF ?_)
   refine av (jD hE6 hr hc htr htc (by omega)) rfl ?_
   rintro v w7 ⟨hE67, hcase⟩
   refine ⟨fun _ _ => trivial, ?_⟩
   have hE7 := hE6.ext hE67
   have hF7 := hF6.trans (Fe.ex hE67)
   clear hE6 hF6
   rcases hcase with ⟨rfl, hdv⟩ | ⟨i, rfl, hti, hir, hnd⟩
   ·obtain ⟨s7, cp7, hM7, hl7⟩ := hE7.d
    obtain ⟨hh, hbr, hcr, hEr⟩ := hM7.get htr
    repeat' (first|refine aS rfl rfl ?_|refine aQ (g := ge) (cs := elL gd gu gv r c) rfl hE7.blk rfl ?_|refine aC (j := t) (a := some ⟨gd, 0, none⟩) rfl rfl ⟨_, _, rfl⟩ (by omega) ?_|refine aU (j := t) (a := some ⟨gd, 0, none⟩) (n := r) (s := fun k => ⟨some ⟨s7 k, 0, none⟩, c, cp7 k⟩) rfl hM7.top.sl (by omega) rfl ?_|refine aT (j := t) (a := some ⟨s7 t, 0, none⟩) rfl rfl ⟨_, _, rfl⟩ (by omega) ?_|refine bu (j := t) (n := cp7 t) (a := some ⟨s7 t, 0, none⟩) rfl hbr.sl ⟨_, _, rfl⟩ (by omega) ?_|refine ai rfl ?_|refine aa ?_|refine aj ?_|refine ah rfl ?_|refine ae ?_|refine aG rfl ?_|refine ay rfl ?_|refine aF ?_)
    refine av (bP (hEr t htc).k) rfl ?_
    rintro v w8 ⟨rfl, hE78⟩
    refine ⟨fun _ _ => trivial, ?_⟩
    have hE8 := hE7.ext hE78
    have hF8 := hF7.trans (Fe.ex hE78)
    by_cases hng : stC A t p q t t < 0
    ·repeat' (first|refine bC rfl rfl (cW.2 hng) ?_|refine aQ (g := ge) (cs := elL gd gu gv r c) rfl hE8.blk rfl ?_|refine ai rfl ?_|refine aa ?_|refine aj ?_|refine ah rfl ?_|refine ae ?_|refine aG rfl ?_|refine aD rfl ?_)
     have hM8 := hM7.ext hE78
     refine av (gY hM8 hr hc htr) rfl ?_
     rintro v w9 ⟨hG9, hM9⟩
     refine ⟨fun _ _ => trivial, ?_⟩
     have hF89 : Fr (fun b => b = s7 t) w8 w9 := fO hG9 (fun k e => (Option.some.inj e).symm)
     have hE9 := hE8.setD (K' := K) (fun b e => hM8.noR b ⟨t, htr, e⟩) hF89 (fun b e => by rw [e]; exact hl7 t htr) ⟨_, _, hM9, hl7⟩
     have hF9 := hF8.trans (Fe.fr hF89 (fun k e => by rw [e]; exact (hM8.row t htr).low))
     obtain ⟨su, cpu, U, hU, hlu⟩ := hE9.u
     repeat' (first|refine aQ (g := ge) (cs := elL gd gu gv r c) rfl hE9.blk rfl ?_|refine ai rfl ?_|refine aa ?_|refine ah rfl ?_|refine ae ?_|refine aG rfl ?_)
     refine av (gY hU hr hr htr) rfl ?_
     rintro v w10 ⟨hG10, hM10⟩
     refine ⟨fun _ _ => trivial, ?_⟩
     have hF910 : Fr (fun b => b = su t) w9 w10 := fO hG10 (fun k e => (Option.some.inj e).symm)
     have hE10 := hE9.setU (fun b e => hU.noR b ⟨t, htr, e⟩) hF910 (fun b e => by rw [e]; exact hlu t htr) (Nat.le_refl _) ⟨_, _, _, hM10, hlu⟩
     have hF10 := hF9.trans (Fe.fr hF910 (fun k e => by rw [e]; exact (hU.row t htr).low))
     repeat' (first|refine ae ?_)
     refine iT ?_
     exact jq rfl ⟨hF10, _, hE10.up (Nat.le_refl _) (by omega), .inr ⟨n, A, p, q, hI, hL, hRz, hCz, hdv, .inr ⟨rfl, hng⟩⟩⟩
    ·have hns : ¬ (stC A t p q t t).sign < 0 := fun e => hng (cW.1 e)
     repeat' (first|refine bA rfl rfl (by omega) ?_|refine aa ?_|refine ae ?_|refine ay rfl ?_|refine aF ?_)
     refine iT ?_
     exact jq rfl ⟨hF8, _, hE8.up (Nat.le_refl _) (by omega), .inr ⟨n, A, p, q, hI, hL, hRz, hCz, hdv, .inl ⟨rfl, by omega⟩⟩⟩
   ·repeat' (first|refine aS rfl rfl ?_|refine ai rfl ?_|refine aa ?_|refine aj ?_|refine ah rfl ?_|refine ae ?_|refine aD rfl ?_)
    obtain ⟨s7, cp7, hM7, hl7⟩ := hE7.d
    refine bi (late := [7]) (plan := [(0, none), (1, none), (2, none), (3, none), (4, none), (5, none), (6, some true), (7, some false)]) (fun w' => Ex w7 w') bB (by kernel_rfl) (Ex.refl w7).drew ?_
    have hEd := (Ex.refl w7).drew
    repeat' (first|refine aQ (g := ge) (cs := elL gd gu gv r c) rfl (fun _ h => hE7.blk.ext h) rfl ?_|refine ai rfl ?_|refine aG rfl ?_)
    refine av (cG (z := 1) (by omega) (by omega) _) rfl ?_
    rintro v w8 ⟨hI8, hE8⟩
    refine ⟨fun _ h => h.trans hE8, ?_⟩
    have hE78 := hEd.trans hE8
    have hM8 := hM7.ext hE78
    skip
    refine av (fA (cn := true) (K := K) (Kf := 1) (K' := K) (f := 1) hM8 hr hc htr hir (by omega) (Ent.of hI8 (bM (by decide) (by omega))) (by omega) (Nat.le_refl _) (by omega) (hR.lb3 n A p q hI hL hRz hCz i hti hir)) rfl ?_
    rintro v w9 ⟨hG9, hM9⟩
    refine ⟨fun h => (nomatch h), ?_⟩
    have hEL8 := hE7.ext hE78
    have hF89 : Fr (fun b => b = s7 t) w8 w9 := fO hG9 (fun k e => (Option.some.inj e).symm)
    have hE9 := hEL8.setD (K' := K) (fun b e => hM8.noR b ⟨t, htr, e⟩) hF89 (fun b e => by rw [e]; exact hl7 t htr) ⟨_, _, hM9, hl7⟩
    have hF9 := (hF7.trans (Fe.ex hE78)).trans (Fe.fr hF89 (fun k e => by rw [e]; exact (hM8.row t htr).low))
    obtain ⟨su, cpu, U, hU, hlu⟩ := hE9.u
    repeat' (first|refine aa ?_|refine aj ?_|refine ae ?_)
    refine bi (late := [7]) (plan := [(0, none), (1, none), (2, none), (3, none), (4, none), (5, none), (6, some true), (7, some false)]) (fun w' => Ex w9 w') bB (by kernel_rfl) (Ex.refl w9).drew ?_
    have hEe := (Ex.refl w9).drew
    repeat' (first|refine aQ (g := ge) (cs := elL gd gu gv r c) rfl (fun _ h => hE9.blk.ext h) rfl ?_|refine ai rfl ?_|refine aG rfl ?_)
    refine av (cG (z := 1) (by omega) (by omega) _) rfl ?_
    rintro v w10 ⟨hI10, hE10⟩
    refine ⟨fun _ h => h.trans hE10, ?_⟩
    have hE910 := hEe.trans hE10
    have hU10 := hU.ext hE910
    have lbU : ∀ a b, a < r → b < r → Lb (Ku + X + Y) (U a b) := fun a b ha hb => by obtain ⟨_, _, _, h⟩ := hU.get ha; exact (h b hb).lb
    skip
    refine av (fA (cn := true) (K := Ku + X + Y) (Kf := 1) (K' := Ku + X + Y + 2) (f := 1) hU10 hr hr htr hir (by omega) (Ent.of hI10 (bM (by decide) (by omega))) (by omega) (by omega) (by omega) (fun k hk => by rw [Int.one_mul]; exact ((lbU t k htr hk).add (lbU i k hir hk)).mono (by omega))) rfl ?_
    rintro v w11 ⟨hG11, hM11⟩
    refine ⟨fun h => (nomatch h), ?_⟩
    have hEL10 := hE9.ext hE910
    have hF1011 : Fr (fun b => b = su t) w10 w11 := fO hG11 (fun k e => (Option.some.inj e).symm)
    have hE11 := hEL10.setU (fun b e => hU10.noR b ⟨t, htr, e⟩) hF1011 (fun b e => by rw [e]; exact hlu t htr) (by omega) ⟨_, _, _, hM11, hlu⟩
    have hF11 := (hF9.trans (Fe.ex hE910)).trans (Fe.fr hF1011 (fun k e => by rw [e]; exact (hU10.row t htr).low))
    obtain ⟨m, hm, hIm⟩ := hR.go3 n A p q hI hL hRz hCz i hti hir hnd
    repeat' (first|refine aa ?_|refine ae ?_)
    refine mS ?_
    repeat' (refine iC ?_)
    refine iB ?_
    exact ⟨⟨(m, Ku + X + Y + 2, radd (stC A t p q) t i), ⟨hF11, hnext m (Ku + X + Y + 2) hm (by omega), hIm, hE11⟩, hm, trivial⟩, (by (repeat (first|exact aE _ _ _|refine aw rfl ?_|refine au rfl ?_|refine ak rfl ?_|refine ao rfl ?_)))⟩
end Go.Proofs.YtppipmkpmmdcjaaGreat
namespace Go.Proofs.YtppipmkpmmdcjaaGreat
open Go.W Go.LM Go.LA
theorem wJ {P : Program} {fn : Func} {ρ : Env} {w : World} {r1 r2 r3 r4 : ResultVar} {v1 v2 v3 v4 : Value} {R : Value → World → Prop} (h : fn.results = #[r1, r2, r3, r4]) (hv1 : ResV P w ρ r1 v1) (hv2 : ResV P w ρ r2 v2)
  (hv3 : ResV P w ρ r3 v3) (hv4 : ResV P w ρ r4 v4) (hR : R (.tuple #[v1, v2, v3, v4]) w) : fnPost P fn R .ret ρ w := by
 unfold fnPost
 refine ⟨_, fun a hr => ?_, hR⟩
 have h1 := dL hr hv1
 have h2 := dL hr hv2
 have h3 := dL hr hv3
 have h4 := dL hr hv4
 simp only [fW, h, List.mapM_toArray, List.mapM_cons, List.mapM_nil, bind_assoc, map_eq_pure_bind]
 rw [Sem.run_bind_ok h1, Sem.run_bind_ok h2, Sem.run_bind_ok h3, Sem.run_bind_ok h4]
 simp
section
variable {P : Program} {S : World → Prop} {ops : List Oper} {K : Env → World → Prop} {rest : List (Oper × Option Bool)} {ρ : Env} {w : World} {b : Option Bool} {d : Nat} {T T1 T2 : TypeId} {pos : String} {af : Array Edge} {x y : Operand} {k k' : IntKind} {m m' : Int}
theorem u4 (hx : ev ρ x = .int k m) (hy : ev ρ y = .int k' m') (h : RR P S ops K rest (upd ρ d (.int k (if m' < m then m' else m))) w) :
  RR P S ops K ((⟨some d, .call ⟨.builtin .min, #[x, y], #[T1, T2]⟩, T, pos, af, none⟩, b) :: rest) ρ w :=
 cg rfl (fun w' => by simp [execOp, resolve, invoke, builtin, hx, hy, run_min_int2]) h
theorem sD {p q : Nat} (hx : ev ρ x = .int .i64 (p : Int)) (hy : ev ρ y = .int .i64 (q : Int)) (h : RR P S ops K rest (upd ρ d (.int .i64 ((min p q : Nat) : Int))) w) :
  RR P S ops K ((⟨some d, .call ⟨.builtin .min, #[x, y], #[T1, T2]⟩, T, pos, af, none⟩, b) :: rest) ρ w :=
 u4 hx hy (by
  have e : (if (q : Int) < (p : Int) then (q : Int) else (p : Int)) = ((min p q : Nat) : Int) := by split <;> omega
  rw [e]; exact h)
end
def DH (r c : Nat) (A D : Mat) : Prop := ∃ H U k p H2 U2 k2 p2, CEq r c A H U ∧ HF r c H k p ∧ CEq c r (fun i j => H j i) H2 U2 ∧ HF c r H2 k2 p2 ∧ D = fun i j => H2 j i
structure RunsA (r c K N : Nat) (A : Mat) (I : Nat → Nat → Mat → Prop) : Prop where
 start : ∀ D, DH r c A D → ∃ n, n ≤ N ∧ I 0 n D
 run : ∀ t, t < r → t < c → Runs r c t K (I t)
 next : ∀ t A', t < r → t < c → StepR r c t (I t) A' → ∃ n, n ≤ N ∧ I (t + 1) n A'
def RetS (K _KU r c N : Nat) (I : Nat → Nat → Mat → Prop) (w : World) (v : Value) (w' : World) : Prop :=
 ∃ gd gu gv s cp D n, v = .tuple #[.slice (some ⟨gd, 0, none⟩) r r, .slice (some ⟨gu, 0, none⟩) r r, .slice (some ⟨gv, 0, none⟩) c c, .bool true] ∧ MO true K w' w.heap.size gd r c s cp D ∧ n ≤ N ∧ I (min r c) n D ∧ Ex w w'
set_option maxHeartbeats 4000000 in
theorem pE {cn : Bool} {K0 K KU N W r c cap : Nat} {w : World} {a : Option Addr} {s : Nat → SD} {A : Mat} {I : Nat → Nat → Mat → Prop} (hM : MX cn K0 w a r c s A) (hr : 1 ≤ r ∧ r ≤ 16) (hc : 1 ≤ c ∧ c ≤ 16) (hR : RunsA r c K N A I)
  (hK0 : 1 ≤ K0) (hK1 : 300 * (34 * K0 + 100) + 1000 < 4398046511104) (hKK : 34 * (34 * K0 + 100) + 100 ≤ K) (hK : K + K < 17592186044415) (hW : W = r * (K + 1) + c * (K + 1) + 4) (hKU : K + 17 * ((N + 1) * W) ≤ KU) (hKU2 : KU + 1000 * (K + 1) + K + K + 2 < 17592186044415) :
  CallsR Tryz.prog 13 #[.slice a r cap] w (RetS K KU r c N I w) := by
 refine aH (args := [_]) Tryz.func13 rfl rfl ?_
 repeat' (first|refine ai rfl ?_|refine aa ?_|refine aj ?_|refine ah rfl ?_|refine ae ?_)
 refine av (iq hM hr hc hK0 (by omega)) rfl ?_
 rintro v w1 ⟨g, gv, gs, cp, gsv, cpv, H, V, k, p, rfl, hF1, hE1⟩
 refine ⟨fun _ _ => trivial, ?_⟩
 repeat' (first|refine aS rfl rfl ?_|refine ai rfl ?_|refine aa ?_|refine aj ?_|refine ah rfl ?_|refine ae ?_|refine ay rfl ?_|refine aF ?_)
 refine av (fk hF1.h.mx hr hc) rfl ?_
 rintro v w2 ⟨u, rfl, ⟨g2, gs2, cp2, rfl, hT2, hE2⟩⟩
 refine ⟨fun _ _ => trivial, ?_⟩
 repeat' (first|refine aS rfl rfl ?_|refine ai rfl ?_|refine aa ?_|refine aj ?_|refine ah rfl ?_|refine ae ?_)
 refine av (iq hT2.mx hc hr (by omega) hK1) rfl ?_
 rintro v w3 ⟨g3, gu3, gs3, cp3, gsu3, cpu3, H2, U2, k2, p2, rfl, hF3, hE3⟩
 refine ⟨fun _ _ => trivial, ?_⟩
 repeat' (first|refine aS rfl rfl ?_|refine ai rfl ?_|refine aa ?_|refine aj ?_|refine ah rfl ?_|refine ae ?_)
 refine av (fk hF3.h.mx hc hr) rfl ?_
 rintro v w4 ⟨u, rfl, ⟨gd, gsd, cpd, rfl, hD4, hE4⟩⟩
 refine ⟨fun _ _ => trivial, ?_⟩
 repeat' (first|refine aS rfl rfl ?_|refine ai rfl ?_|refine aa ?_|refine aj ?_|refine ah rfl ?_|refine ae ?_)
 refine av (fk (hF3.u.ext hE4).mx hr hr) rfl ?_
 rintro v w5 ⟨u, rfl, ⟨gu, gsu, cpu, rfl, hU5, hE5⟩⟩
 refine ⟨fun _ _ => trivial, ?_⟩
 repeat' (first|refine aS rfl rfl ?_|refine cL (cs := elL gd gu gv r c) rfl ?_|refine ai rfl ?_|refine aa ?_|refine aj ?_|refine ah rfl ?_|refine ae ?_)
 refine aB (fun ge w6' hn6' => ⟨fun _ _ => trivial, ?_⟩)
 have hb6' : Blk w6' ge 68 [.slice none 0 0, .slice none 0 0, .slice none 0 0] := hn6'.blk
 refine ax (n := 3) (vs := elL gd gu gv r c) rfl rfl rfl rfl hb6' rfl (fun w6 hc6 hb6 => ⟨fun _ _ => trivial, ?_⟩)
 have hE56 : Ex w5 w6 := hn6'.ex.chg hc6 hn6'.lo
 have ge5 := hn6'.lo
 have hE13 := hE2.trans hE3
 have hE15 := (hE13.trans hE4).trans hE5
 have hE06 := (hE1.trans hE15).trans hE56
 have hV6 := hF1.u.ext (hE15.trans hE56)
 have hD6 := hD4.ext (hE5.trans hE56)
 have hU6 := hU5.ext hE56
 have z1 := hE13.size
 have z3 := hE4.size
 have z5 := hE5.size
 have z0 := hE1.size
 have gvl := hF1.u.lt
 have gvr : ∀ i, i < c → gsv i < w1.heap.size := fun i hi => (hF1.u.row i hi).lt
 have gdl := hD4.lt
 have gdr : ∀ i, i < r → gsd i < w4.heap.size := fun i hi => (hD4.row i hi).lt
 have gdo := hD4.low
 have gdo' : ∀ i, i < r → w3.heap.size ≤ gsd i := fun i hi => (hD4.row i hi).low
 have gul := hU5.lt
 have gur : ∀ i, i < r → gsu i < w5.heap.size := fun i hi => (hU5.row i hi).lt
 have guo := hU5.low
 have guo' : ∀ i, i < r → w4.heap.size ≤ gsu i := fun i hi => (hU5.row i hi).low
 obtain ⟨lab, hlab⟩ : ∃ lab : Nat → Nat, lab = fun b => if b = ge then 0 else if b < w1.heap.size then 3 else if b < w4.heap.size then 1 else 2 := ⟨_, rfl⟩
 have L3 : ∀ b, b < w1.heap.size → lab b = 3 := fun b hb => by rw [hlab]; show (if b = ge then _ else _) = _; rw [if_neg (by omega), if_pos hb]
 have L1 : ∀ b, w3.heap.size ≤ b → b < w4.heap.size → lab b = 1 := fun b hb hb' => by rw [hlab]; show (if b = ge then _ else _) = _; rw [if_neg (by omega), if_neg (by omega), if_pos hb']
 have L2 : ∀ b, w4.heap.size ≤ b → b < w5.heap.size → lab b = 2 := fun b hb hb' => by rw [hlab]; show (if b = ge then _ else _) = _; rw [if_neg (by omega), if_neg (by omega), if_neg (by omega)]
 have hEL : EL K K w6 lab w.heap.size ge r c gd gu gv (fun i j => H2 j i) :=
  ⟨hb6, ⟨gsd, cpd, (hD6.up (by omega)).mono (by omega), fun i hi => L1 _ (gdo' i hi) (gdr i hi)⟩, ⟨gsu, cpu, _, (hU6.up (by omega)).mono (by omega), fun i hi => L2 _ (guo' i hi) (gur i hi)⟩,
   ⟨gsv, cpv, _, (hV6.up (by omega)).mono (Nat.le_refl _), fun i hi => L3 _ (gvr i hi)⟩, by rw [hlab]; exact if_pos rfl, L1 _ gdo gdl, L2 _ guo gul, L3 _ gvl, by omega⟩
 obtain ⟨n0, hn0, hI0⟩ := hR.start _ ⟨H, V, k, p, H2, U2, k2, p2, hF1.ceq, hF1.hf, hF3.ceq, hF3.hf, rfl⟩
 clear hF1 hF3 hT2 hD4 hU5 hV6 hD6 hU6 gvr gdr gdo' gur guo' L1 L2 L3 hlab
 obtain ⟨Z, hZ⟩ : ∃ Z, Z = (N + 1) * W := ⟨_, rfl⟩
 rw [← hZ] at hKU
 have hFe6 : ∀ w', Fe w.heap.size w6 w' → Ex w w' := fun w' h => h.1 w hE06 (Nat.le_refl _)
 obtain ⟨sd, cd, hMd, _⟩ := hEL.d
 repeat' (first|refine aC (j := 0) (a := some ⟨gd, 0, none⟩) rfl rfl ⟨_, _, rfl⟩ (by omega) ?_|refine aU (j := 0) (a := some ⟨gd, 0, none⟩) (n := r) (s := fun k => ⟨some ⟨sd k, 0, none⟩, c, cd k⟩) rfl hMd.top.sl (by omega) rfl ?_|refine sD rfl rfl ?_|refine ai rfl ?_|refine aa ?_|refine aj ?_|refine ah rfl ?_|refine ae ?_|refine bh rfl ?_|refine aA ?_)
 refine aY (ι := Nat × Nat × Mat) [13, 54, 55, 56, 57, 58, 59] (fun y => [(54, .int .i64 (y.1 : Int))])
  (fun y w' => y.1 ≤ min r c ∧ Fe w.heap.size w6 w' ∧ y.2.1 ≤ N ∧ I y.1 y.2.1 y.2.2 ∧ EL K (K + y.1 * Z) w' lab w.heap.size ge r c gd gu gv y.2.2) (fun y => min r c - y.1)
  (0, n0, _) ⟨rfl, trivial⟩ ⟨Nat.zero_le _, Fe.refl, hn0, hI0, hEL.up (Nat.le_refl _) (Nat.le_add_right _ _)⟩ ?_
 clear hEL hI0 hMd
 rintro ⟨t, n, D⟩ ξ w7 ⟨ht, hF7, hn, hI, hE7⟩
 simp only at ht hn hI hE7
 show CW _ _ _ _ (over [(54, .int .i64 (t : Int))] _) w7
 rcases Nat.lt_or_ge t (min r c) with htm | htm
 ·have hs : (t + 1) * Z = t * Z + Z := Nat.succ_mul t Z
  have hs2 : (t + 1) * Z ≤ 17 * Z := Nat.mul_le_mul_right Z (by omega)
  have hKn : K + t * Z + (n + 1) * W ≤ K + (t + 1) * Z := by
   have : (n + 1) * W ≤ Z := by rw [hZ]; exact Nat.mul_le_mul_right W (by omega)
   omega
  have hKU3 : K + (t + 1) * Z + 1000 * (K + 1) + K + K + 2 < 17592186044415 := Nat.lt_of_le_of_lt (Nat.add_le_add_right (Nat.add_le_add_right (Nat.add_le_add_right (Nat.add_le_add_right (show K + (t + 1) * Z ≤ KU by omega) _) _) _) _) hKU2
  repeat' (first|refine bC rfl rfl (by omega) ?_|refine ai rfl ?_|refine aa ?_|refine aj ?_|refine ah rfl ?_|refine ae ?_|refine aD rfl ?_|refine aA ?_|refine aF ?_)
  refine av (qP (W := W) (hR.run t (by omega) (by omega)) hI hE7 (by omega) (by omega) (by omega) (by omega) hW hKn (by omega) hK hKU3) rfl ?_
  rintro v w8 ⟨hF8, A', hE8, hS⟩
  refine ⟨fun _ _ => trivial, ?_⟩
  obtain ⟨n', hn', hI'⟩ := hR.next t A' (by omega) (by omega) hS
  repeat' (first|refine ai rfl ?_|refine aa ?_|refine ah rfl ?_|refine ae ?_|refine aZ rfl rfl (by omega) (by omega) ?_|refine aK ?_)
  exact ⟨⟨(t + 1, n', A'), ⟨htm, hF7.trans hF8, hn', hI', hE8⟩, by simp only; omega, rfl, trivial⟩, (by (repeat (first|exact aE _ _ _|refine aw rfl ?_|refine au rfl ?_|refine ak rfl ?_|refine ao rfl ?_)))⟩
 ·have etm : t = min r c := by omega
  rw [etm] at hI
  obtain ⟨s9, cp9, hM9, _⟩ := hE7.d
  repeat' (first|refine bA rfl rfl (by omega) ?_|refine aa ?_|refine aj ?_|refine ah rfl ?_|refine ae ?_|refine ay rfl ?_|refine aV ?_|refine aL ?_|refine aW ?_)
  refine bi (late := []) (plan := [(0, none), (1, none), (2, none), (3, none), (4, none), (5, none), (6, none), (7, none), (8, none), (9, none)]) (fun w' => Ex w7 w') bB (by kernel_rfl) (Ex.refl w7).drew ?_
  have hEd := (Ex.refl w7).drew
  repeat' (first|refine aQ (g := ge) (cs := elL gd gu gv r c) rfl (fun _ h => hE7.blk.ext h) rfl ?_|refine ai rfl ?_|refine aa ?_|refine ae ?_|refine aG rfl ?_|refine aR ?_)
  exact wJ rfl (rt rfl) (rt rfl) (rt rfl) (rt rfl) ⟨gd, gu, gv, s9, cp9, D, n, rfl, hM9.ext hEd, hn, hI, (hFe6 _ hF7).trans hEd⟩
end Go.Proofs.YtppipmkpmmdcjaaGreat
namespace Go.Proofs.YtppipmkpmmdcjaaGreat
open Go.W Go.LM Go.LA
def RetFac (K N r c : Nat) (I : Nat → Nat → Mat → Prop) (w : World) (v : Value) (w' : World) : Prop :=
 ∃ g D n, v = .tuple #[.slice (some ⟨g, 0, none⟩) (min r c) (min r c), .bool true] ∧ RO true K w' w.heap.size g (min r c) (min r c) (fun i => D i i) ∧ n ≤ N ∧ I (min r c) n D ∧ Ex w w'
set_option maxHeartbeats 4000000 in
theorem gg {cn : Bool} {K0 K KU N W r c cap : Nat} {w : World} {a : Option Addr} {s : Nat → SD} {A : Mat} {I : Nat → Nat → Mat → Prop} (hM : MX cn K0 w a r c s A) (hr : 1 ≤ r ∧ r ≤ 16) (hc : 1 ≤ c ∧ c ≤ 16) (hR : RunsA r c K N A I)
  (hK0 : 1 ≤ K0) (hK1 : 300 * (34 * K0 + 100) + 1000 < 4398046511104) (hKK : 34 * (34 * K0 + 100) + 100 ≤ K) (hK : K + K < 17592186044415) (hW : W = r * (K + 1) + c * (K + 1) + 4) (hKU : K + 17 * ((N + 1) * W) ≤ KU) (hKU2 : KU + 1000 * (K + 1) + K + K + 2 < 17592186044415) :
  CallsR Tryz.prog 5 #[.slice a r cap] w (RetFac K N r c I w) := by
 refine aH (args := [_]) Tryz.func5 rfl rfl ?_
 repeat' (first|refine ai rfl ?_|refine aa ?_|refine aj ?_|refine ah rfl ?_|refine ae ?_)
 refine av (pE hM hr hc hR hK0 hK1 hKK hK hW hKU hKU2) rfl ?_
 rintro v w1 ⟨gd, gu, gv, sd, cd, D, n, rfl, hD, hn, hI, hE1⟩
 refine ⟨fun _ _ => trivial, ?_⟩
 clear hR hKU hKU2 hW
 repeat' (first|refine aS rfl rfl ?_|refine aC (j := 0) (a := some ⟨gd, 0, none⟩) rfl rfl ⟨_, _, rfl⟩ (by omega) ?_|refine aU (j := 0) (a := some ⟨gd, 0, none⟩) (n := r) (s := fun k => ⟨some ⟨sd k, 0, none⟩, c, cd k⟩) rfl hD.top.sl (by omega) rfl ?_|refine sD rfl rfl ?_|refine ep (n := min r c) rfl rfl (by omega) (by omega) (fun g w2 hn2 => ⟨fun _ _ => trivial, ?_⟩)|refine ai rfl ?_|refine aa ?_|refine aj ?_|refine ah rfl ?_|refine ae ?_|refine bh rfl ?_|refine ay rfl ?_|refine aA ?_|refine aF ?_)
 have lo2 := hn2.lo
 have s1 := hE1.size
 have hE2 := hE1.trans hn2.ex
 refine aY (ι := Nat × (Nat → IH)) [9, 29, 30, 31, 32, 33, 34, 35, 36, 37, 38, 39, 40, 41, 42] (fun y => [(29, .int .i64 (y.1 : Int))])
  (fun y w' => y.1 ≤ min r c ∧ w2.grownBy w' (some g) ∧ Blk w' g 33 (rowC (min r c) y.2) ∧ ∀ i, i < y.1 → Ent true K w' (y.2 i).val (D i i)) (fun y => min r c - y.1)
  (0, fun _ => ih0) ⟨rfl, trivial⟩ ⟨Nat.zero_le _, bG (Chg.refl _ _), hn2.blk, fun i hi => by simp only at hi; omega⟩ ?_
 rintro ⟨t, h⟩ ξ w3 ⟨ht, hG3, hb3, hEn3⟩
 simp only at ht hb3 hEn3
 show CW _ _ _ _ (over [(29, .int .i64 (t : Int))] _) w3
 have hE13 : Ex w1 w3 := hn2.ex.gb hG3 (fun k e => by cases e; omega)
 rcases Nat.lt_or_ge t (min r c) with htm | htm
 ·have hD3 := hD.ext hE13
  obtain ⟨hh, hbr, hcr, hEr⟩ := hD3.get (k := t) (by omega)
  repeat' (first|refine bC rfl rfl (by omega) ?_|refine aC (j := t) (a := some ⟨gd, 0, none⟩) rfl rfl ⟨_, _, rfl⟩ (by omega) ?_|refine aU (j := t) (a := some ⟨gd, 0, none⟩) (n := r) (s := fun k => ⟨some ⟨sd k, 0, none⟩, c, cd k⟩) rfl hD3.top.sl (by omega) rfl ?_|refine aT (j := t) (a := some ⟨sd t, 0, none⟩) rfl rfl ⟨_, _, rfl⟩ (by omega) ?_|refine bu (j := t) (n := cd t) (a := some ⟨sd t, 0, none⟩) rfl hbr.sl ⟨_, _, rfl⟩ (by omega) ?_|refine aT (j := t) (a := some ⟨g, 0, none⟩) rfl rfl ⟨_, _, rfl⟩ (by omega) ?_|refine ai rfl ?_|refine aa ?_|refine aj ?_|refine ah rfl ?_|refine ae ?_|refine aD rfl ?_|refine aA ?_|refine aF ?_)
  refine ch (j := t) (n := min r c) (u := hh t) rfl rfl hb3 (by omega) (fun w4 hc4 hb4 => ⟨fun _ _ => trivial, ?_⟩)
  repeat' (first|refine ai rfl ?_|refine aa ?_|refine ah rfl ?_|refine ae ?_|refine aZ rfl rfl (by omega) (by omega) ?_|refine aK ?_)
  exact ⟨⟨(t + 1, setF h t (hh t)), ⟨htm, bL hG3 (bG hc4) (fun k e => .inl e), hb4, RO.fill (f := fun i => D i i) (fun k hk => hEn3 k hk) hb3 (hEr t (by omega)) hc4⟩, by simp only; omega, rfl, trivial⟩, (by (repeat (first|exact aE _ _ _|refine aw rfl ?_|refine au rfl ?_|refine ak rfl ?_|refine ao rfl ?_)))⟩
 ·have etm : t = min r c := by omega
  subst etm
  repeat' (first|refine bA rfl rfl (by omega) ?_|refine ai rfl ?_|refine aa ?_|refine aj ?_|refine ah rfl ?_|refine ae ?_|refine ay rfl ?_|refine aV ?_|refine aL ?_|refine aW ?_|refine aR ?_)
  exact eN rfl (rt rfl) (rt rfl) ⟨g, D, n, rfl, ⟨by omega, Nat.le_refl _, h, hb3, hEn3⟩, hn, hI, hE1.trans hE13⟩
set_option maxHeartbeats 4000000 in
theorem lJ {cn : Bool} {K0 K KU N W n cap : Nat} {w : World} {a : Option Addr} {s : Nat → SD} {A : Mat} {I : Nat → Nat → Mat → Prop} (hM : MX cn K0 w a n n s A) (hn : 1 ≤ n ∧ n ≤ 16) (hdet : det n A ≠ 0) (hR : RunsA n n K N A I) (hK00 : 16 * K0 + 17 ≤ 4398046511104)
  (hK0 : 1 ≤ K0) (hK1 : 300 * (34 * K0 + 100) + 1000 < 4398046511104) (hKK : 34 * (34 * K0 + 100) + 100 ≤ K) (hK : K + K < 17592186044415) (hW : W = n * (K + 1) + n * (K + 1) + 4) (hKU : K + 17 * ((N + 1) * W) ≤ KU) (hKU2 : KU + 1000 * (K + 1) + K + K + 2 < 17592186044415) :
  CallsR Tryz.prog 21 #[.slice a n cap] w fun v w' => ∃ u D m, v = .tuple #[u, .bool true] ∧ Ent true K w' u (D (n - 1) (n - 1)) ∧ m ≤ N ∧ I n m D ∧ Ex w w' := by
 refine aH (args := [_]) Tryz.func21 rfl rfl ?_
 repeat' (first|refine aB (fun g1 w1 hn1 => ⟨fun _ _ => trivial, ?_⟩)|refine ai rfl ?_|refine aa ?_|refine aj ?_|refine ah rfl ?_|refine ae ?_)
 have hb1 : Blk w1 g1 33 (intL false none 0 0) := hn1.blk
 refine av (mw (hM.ext hn1.ex) hn hK00) rfl ?_
 rintro v w2 ⟨u, rfl, hI2, hE2⟩
 refine ⟨fun _ _ => trivial, ?_⟩
 obtain ⟨x2, rfl⟩ := hI2.ih
 repeat' (first|refine aS rfl rfl ?_|refine ai rfl ?_)
 refine aB (fun g4 w4 hn4 => ⟨fun _ _ => trivial, ?_⟩)
 have hb4 : Blk w4 g4 33 (intL false none 0 0) := hn4.blk
 skip
 refine ax (n := 2) (vs := x2.cells) rfl rfl rfl rfl hb4 rfl (fun w5 hc5 hb5 => ⟨fun _ _ => trivial, ?_⟩)
 have hE25 : Ex w2 w5 := hn4.ex.chg hc5 hn4.lo
 have hE15 := hE2.trans hE25
 have hd5 : IntC w1.heap.size w5 x2.val (det n A) := hI2.ext hE25
 repeat' (first|refine aN (g := g4) rfl hb5 rfl ?_|refine ai rfl ?_|refine aa ?_|refine aj ?_|refine ah rfl ?_|refine ae ?_|refine bR rfl rfl ?_)
 refine av (bP (hd5.k (k := 16 * K0 + 17) (Nat.lt_of_lt_of_le (Lb.det (fun r c hr hc => hM.lb hr hc) (by omega)) (Nat.pow_le_pow_right (by decide) (by have : (K0 + 1) * n ≤ (K0 + 1) * 16 := Nat.mul_le_mul_left _ hn.2; omega))))) rfl ?_
 rintro v w6 ⟨rfl, hE6⟩
 refine ⟨fun _ _ => trivial, ?_⟩
 have hE16 := hE15.trans hE6
 have hE06 := hn1.ex.trans hE16
 repeat' (first|refine gq rfl rfl (fun e => hdet (Int.sign_eq_zero_iff_zero.1 e)) ?_|refine ai rfl ?_|refine aa ?_|refine aj ?_|refine ah rfl ?_|refine ae ?_|refine bR rfl rfl ?_|refine ay rfl ?_|refine aF ?_)
 refine av (gg (hM.ext hE06) hn hn hR hK0 hK1 hKK hK hW hKU hKU2) rfl ?_
 rintro v w7 ⟨g7, D, m, rfl, hO7, hm, hI7, hE7⟩
 refine ⟨fun _ _ => trivial, ?_⟩
 rw [Nat.min_self] at hO7 hI7 ⊢
 obtain ⟨hh, hb7, hEn7⟩ := hO7.ex
 have hE17 := hE16.trans hE7
 repeat' (first|refine aS rfl rfl ?_|refine aT (j := n - 1) (a := some ⟨g7, 0, none⟩) rfl (show _ = Value.int .i64 ((n - 1 : Nat) : Int) from congrArg (Value.int .i64) (by omega)) ⟨_, _, rfl⟩ (by omega) ?_|refine bu (j := n - 1) (n := n) (a := some ⟨g7, 0, none⟩) rfl hb7.sl ⟨_, _, rfl⟩ (by omega) ?_|refine ai rfl ?_|refine aa ?_|refine aj ?_|refine ah rfl ?_|refine ae ?_|refine bh rfl ?_|refine cO rfl rfl (by omega) (by omega) ?_)
 refine ax (n := 2) (vs := (hh (n - 1)).cells) rfl rfl rfl rfl (hb1.ext hE17) rfl (fun w8 hc8 hb8 => ⟨fun _ _ => trivial, ?_⟩)
 repeat' (first|refine ai rfl ?_|refine aa ?_|refine ae ?_|refine aR ?_)
 exact eN rfl (rc rfl rfl hb8) (rt rfl) ⟨_, D, m, rfl, (hEn7 (n - 1) (by omega)).gbN (hb1.ext hE17) (aI _ _ _ _) (bG hc8), hm, hI7, (hn1.ex.trans hE17).chg hc8 hn1.lo⟩
end Go.Proofs.YtppipmkpmmdcjaaGreat
namespace Go.LA
def litF (L : List (List Int)) : Mat := fun i j => (L.getD i []).getD j 0
theorem ir {r c k k' : Nat} {A H U H' U' : Mat} {p p' : Nat → Nat} (h : CEq r c A H U) (hF : HF r c H k p) (h' : CEq r c A H' U') (hF' : HF r c H' k' p') : k = k' ∧ ∀ i j, i < r → j < c → H i j = H' i j := by
 have hL : ∀ v, InL r c H v ↔ InL r c H' v := fun v => (h.inL v).trans (h'.inL v).symm
 exact ⟨(hF.unique hF' hL).1, hF.unique' hF' hL⟩
theorem fT {p : Nat → Prop} (h0 : p 0) (h1 : p 1) : ∀ i, i < 2 → p i := fun i hi => by
 match i, hi with
 | 0, _ => exact h0
 | 1, _ => exact h1
end Go.LA
namespace Go.Proofs.YtppipmkpmmdcjaaGreat
open Go.W Go.LM Go.LA
def Eqm (r c : Nat) (A B : Mat) : Prop := ∀ i j, i < r → j < c → A i j = B i j
def dgE (e : Nat → Int) : Mat := fun i j => if i = j then e i else 0
def cs2 (t q b : Nat) : Nat := if b = t then q else if b = q then t else b
theorem np {t q b c : Nat} (ht : t < c) (hq : q < c) (hb : b < c) : cs2 t q b < c := by unfold cs2; split; omega; split <;> omega
theorem cY (A : Mat) (t p q a b : Nat) : stB A t p q a b = A (swp2 t p a) (cs2 t q b) := rfl
section
variable {r c t p q i : Nat} {A B : Mat}
theorem Eqm.stB (h : Eqm r c A B) (htr : t < r) (htc : t < c) (hp : p < r) (hq : q < c) : Eqm r c (stB A t p q) (stB B t p q) := fun a b ha hb => by
 rw [cY, cY]; exact h _ _ (du htr hp ha) (np htc hq hb)
theorem Eqm.rdiv (h : Eqm r c A B) (htr : t < r) (htc : t < c) : Eqm r c (rdiv A t) (rdiv B t) := fun a b ha hb => by
 unfold Go.Proofs.YtppipmkpmmdcjaaGreat.rdiv; rw [h a b ha hb, h a t ha htc, h t t htr htc, h t b htr hb]
theorem Eqm.cdiv (h : Eqm r c A B) (htr : t < r) (htc : t < c) : Eqm r c (cdiv A t) (cdiv B t) := fun a b ha hb => by
 unfold Go.Proofs.YtppipmkpmmdcjaaGreat.cdiv; rw [h a b ha hb, h a t ha htc, h t t htr htc, h t b htr hb]
theorem Eqm.radd (h : Eqm r c A B) (htr : t < r) (hi : i < r) : Eqm r c (radd A t i) (radd B t i) := fun a b ha hb => by
 unfold Go.Proofs.YtppipmkpmmdcjaaGreat.radd
 by_cases e : a = t
 ·rw [e, aJ, aJ]; show A t b + 1 * A i b = B t b + 1 * B i b; rw [h t b htr hb, h i b hi hb]
 ·rw [aO _ _ e, aO _ _ e]; exact h a b ha hb
theorem Eqm.rneg (h : Eqm r c A B) (htr : t < r) : Eqm r c (rneg A t) (rneg B t) := fun a b ha hb => by
 unfold Go.Proofs.YtppipmkpmmdcjaaGreat.rneg
 by_cases e : a = t
 ·rw [e, aJ, aJ]; show - A t b = - B t b; rw [h t b htr hb]
 ·rw [aO _ _ e, aO _ _ e]; exact h a b ha hb
theorem Eqm.trans {C : Mat} (h : Eqm r c A B) (k : Eqm r c B C) : Eqm r c A C := fun a b ha hb => (h a b ha hb).trans (k a b ha hb)
theorem Eqm.least (h : Eqm r c A B) (hL : LeastAt A r c t p q) : LeastAt B r c t p q := by
 obtain ⟨h1, h2, h3, h4, h5, h6, h7⟩ := hL
 refine ⟨h1, h2, h3, h4, by rw [← h p q h2 h4]; exact h5, fun a b ha har hb hbc hn => ?_, fun a b ha hb hbc hlt hn => ?_⟩
 ·rw [← h p q h2 h4, ← h a b har hbc]
  exact h6 a b ha har hb hbc (by rw [h a b har hbc]; exact hn)
 ·have har : a < r := by omega
  rw [← h p q h2 h4, ← h a b har hbc]
  exact h7 a b ha hb hbc hlt (by rw [h a b har hbc]; exact hn)
end
theorem mE {r c K : Nat} {A : Mat} {e : Nat → Int} (hs : ∀ D, DH r c A D → Eqm r c D (dgE e)) (he : ∀ i, 0 ≤ e i) (hd : ∀ i j, i ≤ j → e i ∣ e j) (hK : ∀ i, Lb K (e i)) :
  RunsA r c K 0 A (fun _ n D => n = 0 ∧ Eqm r c D (dgE e)) := by
 have hLb : ∀ a b, Lb K (dgE e a b) := fun a b => by unfold dgE; split; exact hK _; exact cc
 have key : ∀ t p q (D : Mat), Eqm r c D (dgE e) → LeastAt D r c t p q → t < r ∧ t < c ∧ Eqm r c (stB D t p q) (dgE e) ∧ Eqm r c (rdiv (stB D t p q) t) (dgE e) ∧ Eqm r c (stC D t p q) (dgE e) := by
  intro t p q D hE hL
  have hL2 := hE.least hL
  obtain ⟨h1, h2, h3, h4, h5, h6, _⟩ := hL2
  have htr : t < r := by omega
  have htc : t < c := by omega
  have epq : p = q := Decidable.byContradiction fun hne => h5 (if_neg hne)
  subst epq
  have hep : e p ≠ 0 := fun h => h5 (by unfold dgE; rw [if_pos rfl]; exact h)
  have hdv := hd t p h1
  have het : e t ≠ 0 := fun h => by rw [h] at hdv; exact hep (Int.zero_dvd.1 hdv)
  have hle := h6 t t (Nat.le_refl _) htr (Nat.le_refl _) htc (by unfold dgE; rw [if_pos rfl]; exact het)
  have eeq : e p = e t := by
   unfold dgE at hle
   rw [if_pos rfl, if_pos rfl] at hle
   have h7 := Int.natAbs_dvd_natAbs.2 hdv
   have h8 := Nat.le_of_dvd (by omega) h7
   have := he p
   have := he t
   omega
  have hB : Eqm r c (stB D t p p) (dgE e) := (hE.stB htr htc h2 h4).trans (fun a b ha hb => by
   rw [cY]
   have hcs : cs2 t p b = swp2 t p b := rfl
   rw [hcs]
   unfold dgE
   by_cases hab : a = b
   ·subst hab
    rw [if_pos rfl, if_pos rfl]
    unfold swp2
    by_cases h9 : a = t
    ·rw [if_pos h9, h9]; exact eeq
    ·rw [if_neg h9]
     by_cases h10 : a = p
     ·rw [if_pos h10, h10]; exact eeq.symm
     ·rw [if_neg h10]
   ·rw [if_neg hab, if_neg (fun h => hab (ol h))])
  have hR : Eqm r c (rdiv (stB D t p p) t) (dgE e) := (hB.rdiv htr htc).trans (fun a b ha hb => by
   unfold rdiv
   by_cases h9 : t < a
   ·rw [if_pos h9, show dgE e a t = 0 from if_neg (by omega), Int.zero_ediv, Int.zero_mul, Int.sub_zero]
   ·rw [if_neg h9])
  have hC : Eqm r c (stC D t p p) (dgE e) := (hR.cdiv htr htc).trans (fun a b ha hb => by
   unfold cdiv
   by_cases h9 : t < b
   ·rw [if_pos h9, show dgE e t b = 0 from if_neg (by omega), Int.zero_ediv, Int.zero_mul, Int.sub_zero]
   ·rw [if_neg h9])
  exact ⟨htr, htc, hB, hR, hC⟩
 refine ⟨fun D h => ⟨0, Nat.le_refl _, rfl, hs D h⟩, fun t htr htc => ⟨?_, ?_, ?_, ?_, ?_, ?_, ?_⟩, fun t A' htr htc hS => ?_⟩
 ·rintro n D ⟨rfl, hE⟩ a b ha hb
  rw [hE a b ha hb]; exact hLb a b
 ·rintro n D p q ⟨rfl, hE⟩ hL a b ha hb
  rw [(key t p q D hE hL).2.2.2.1 a b ha hb]; exact hLb a b
 ·rintro n D p q ⟨rfl, hE⟩ hL ⟨x, h1, h2, h3⟩
  obtain ⟨_, _, hB, _, _⟩ := key t p q D hE hL
  rw [hB x t h2 htc, show dgE e x t = 0 from if_neg (by omega)] at h3
  exact absurd (Int.zero_emod _) h3
 ·rintro n D p q ⟨rfl, hE⟩ hL _ a b ha hb
  rw [(key t p q D hE hL).2.2.2.2 a b ha hb]; exact hLb a b
 ·rintro n D p q ⟨rfl, hE⟩ hL _ ⟨x, h1, h2, h3⟩
  obtain ⟨_, _, _, hR, _⟩ := key t p q D hE hL
  rw [hR t x htr h2, show dgE e t x = 0 from if_neg (by omega)] at h3
  exact absurd (Int.zero_emod _) h3
 ·rintro n D p q ⟨rfl, hE⟩ hL _ _ i h1 h2 b hb
  obtain ⟨_, _, _, _, hC⟩ := key t p q D hE hL
  rw [hC t b htr hb, hC i b h2 hb]
  by_cases e1 : t = b
  ·rw [show dgE e i b = 0 from if_neg (by omega), Int.mul_zero, Int.add_zero]; exact hLb _ _
  ·rw [show dgE e t b = 0 from if_neg e1, Int.zero_add, Int.one_mul]; exact hLb _ _
 ·rintro n D p q ⟨rfl, hE⟩ hL _ _ i h1 h2 ⟨b, h3, h4, h5⟩
  obtain ⟨_, _, _, _, hC⟩ := key t p q D hE hL
  rw [hC i b h2 h4, hC t t htr htc] at h5
  refine absurd ?_ h5
  rw [show dgE e t t = e t from if_pos rfl]
  unfold dgE
  by_cases e1 : i = b
  ·rw [if_pos e1]; exact Int.emod_eq_zero_of_dvd (hd t i (by omega))
  ·rw [if_neg e1]; exact Int.zero_emod _
 ·rcases hS with ⟨n, ⟨rfl, hE⟩, _⟩ | ⟨n, D, p, q, ⟨rfl, hE⟩, hL, _, _, _, h⟩
  ·exact ⟨0, Nat.le_refl _, rfl, hE⟩
  ·obtain ⟨_, _, _, _, hC⟩ := key t p q D hE hL
   rcases h with ⟨rfl, _⟩ | ⟨rfl, hng⟩
   ·exact ⟨0, Nat.le_refl _, rfl, hC⟩
   ·rw [hC t t htr htc, show dgE e t t = e t from if_pos rfl] at hng
    have := he t
    omega
end Go.Proofs.YtppipmkpmmdcjaaGreat
namespace Go.Proofs.YtppipmkpmmdcjaaGreat
open Go.W Go.LM Go.LA
def UE (n : Nat) (A D : Mat) : Prop := ∃ X Y, Uni n X ∧ Uni n Y ∧ ∀ i j, i < n → j < n → D i j = mm n (mm n X A) Y i j
section
variable {n : Nat} {A D D' E : Mat}
theorem ln (M : Mat) (i j : Nat) (hi : i < n) : mm n idM M i j = M i j := by
 unfold mm
 rw [bV (k := i) hi (fun k _ hk => by rw [show idM i k = 0 from if_neg (fun e => hk e.symm), Int.zero_mul]), show idM i i = 1 from if_pos rfl, Int.one_mul]
theorem UE.refl (n : Nat) (A : Mat) : UE n A A := ⟨idM, idM, kY n, kY n, fun i j hi hj => by
 rw [mp _ i j hj, ln _ i j hi]⟩
theorem UE.congr (h : UE n A D) (e : ∀ i j, i < n → j < n → D' i j = D i j) : UE n A D' := by
 obtain ⟨X, Y, hX, hY, h⟩ := h; exact ⟨X, Y, hX, hY, fun i j hi hj => (e i j hi hj).trans (h i j hi hj)⟩
theorem UE.col (h : UE n A D) (hE : Uni n E) (e : ∀ i j, i < n → j < n → D' i j = mm n D E i j) : UE n A D' := by
 obtain ⟨X, Y, hX, hY, h⟩ := h
 refine ⟨X, mm n Y E, hX, hY.mul hE, fun i j hi hj => ?_⟩
 rw [e i j hi hj, ← cM]
 exact cC (fun k hk => h i k hi hk) (fun _ _ => rfl)
theorem UE.row (h : UE n A D) (hE : Uni n E) (e : ∀ i j, i < n → j < n → D' i j = mm n E D i j) : UE n A D' := by
 obtain ⟨X, Y, hX, hY, h⟩ := h
 refine ⟨mm n E X, Y, hE.mul hX, hY, fun i j hi hj => ?_⟩
 rw [e i j hi hj, cC (A' := E) (B' := mm n (mm n X A) Y) (fun _ _ => rfl) (fun k hk => h k j hk hj), ← cM]
 exact cC (fun k hk => (cM n n E X A i k).symm) (fun _ _ => rfl)
theorem oB {i j : Nat} (M : Mat) (q : Int) (hi : i < n) (hij : i ≠ j) (a b : Nat) (ha : a < n) : mm n (eadd i j q) M a b = if a = j then M j b + q * M i b else M a b := by
 unfold mm eadd
 by_cases e : a = j
 ·subst e
  rw [if_pos rfl]
  rw [aX (g := fun k => idM a k * M k b + (if k = i then q * M i b else 0)) (fun k _ => by
   by_cases e2 : k = i
   ·subst e2; rw [if_pos ⟨rfl, rfl⟩, if_pos rfl, Int.add_mul]
   ·rw [if_neg (fun h => e2 h.2), if_neg e2, Int.add_zero, Int.add_zero]), dH]
  have h1 : (sm n fun k => idM a k * M k b) = M a b := ln M a b ha
  rw [h1, bV (k := i) hi (fun k _ hk => if_neg hk), if_pos rfl]
 ·rw [if_neg e]
  rw [aX (g := fun k => idM a k * M k b) (fun k _ => by rw [if_neg (fun h => e h.1), Int.add_zero])]
  exact ln M a b ha
theorem tS {i j : Nat} (M : Mat) (hi : i < n) (hj : j < n) (a b : Nat) (ha : a < n) : mm n (swp idM i j) M a b = M (swp2 i j a) b := by
 have h2 : swp2 i j a < n := du hi hj ha
 rw [← ln M _ b h2]
 unfold mm
 refine aX fun k _ => ?_
 congr 1
 unfold swp rw' swp2
 by_cases e1 : a = j
 ·subst e1
  by_cases e2 : a = i
  ·subst e2; simp
  ·simp [e2]
 ·by_cases e2 : a = i
  ·subst e2; simp [e1]
  ·simp [e1, e2]
theorem sG {i : Nat} (M : Mat) (a b : Nat) (ha : a < n) : mm n (eneg i) M a b = if a = i then - M a b else M a b := by
 unfold mm eneg
 rw [bV (k := a) ha (fun k _ hk => by rw [if_neg (fun e => hk e.symm), Int.zero_mul]), if_pos rfl]
 by_cases e : a = i
 ·rw [if_pos e, if_pos e]; omega
 ·rw [if_neg e, if_neg e]; omega
end
section
variable {n t p q i : Nat} {A D : Mat}
theorem UE.stB (h : UE n A D) (ht : t < n) (hp : p < n) (hq : q < n) : UE n A (stB D t p q) := by
 have h1 : UE n A (fun a b => D (swp2 t p a) b) := by
  by_cases e : t = p
  ·subst e
   refine h.congr fun a b _ _ => ?_
   have : swp2 t t a = a := by unfold swp2; split <;> omega
   rw [this]
  ·exact h.row (.inr (nd e ht hp)) (fun a b ha _ => (tS D ht hp a b ha).symm)
 by_cases e : t = q
 ·subst e
  refine h1.congr fun a b _ _ => ?_
  show D (swp2 t p a) (if b = t then t else if b = t then t else b) = _
  by_cases e2 : b = t
  ·rw [if_pos e2, e2]
  ·rw [if_neg e2, if_neg e2]
 ·exact h1.col (.inr (nd e ht hq)) (fun a b _ hb => (po _ ht hq a b hb).symm)
theorem UE.rdiv (h : UE n A D) (ht : t < n) : UE n A (rdiv D t) := by
 have key : ∀ J, J ≤ n → UE n A (fun a b => if t < a ∧ a < J then D a b - (D a t / D t t) * D t b else D a b) := by
  intro J
  induction J with
  | zero => exact fun _ => h.congr fun a b _ _ => if_neg (by omega)
  | succ J ih =>
   intro hJ
   have h0 := ih (by omega)
   by_cases e : t < J
   ·refine h0.row (E := eadd t J (-(D J t / D t t))) (.inl (je (by omega) _)) (fun a b ha _ => ?_)
    rw [oB _ _ ht (by omega) a b ha]
    by_cases e2 : a = J
    ·subst e2
     rw [if_pos ⟨e, by omega⟩, if_pos rfl, if_neg (by omega), if_neg (by omega), Int.neg_mul, ← Int.sub_eq_add_neg]
    ·rw [if_neg e2]
     by_cases e3 : t < a ∧ a < J
     ·rw [if_pos ⟨e3.1, by omega⟩, if_pos e3]
     ·rw [if_neg (by omega), if_neg e3]
   ·exact h0.congr fun a b _ _ => by rw [if_neg (by omega), if_neg (by omega)]
 refine (key n (Nat.le_refl _)).congr fun a b ha _ => ?_
 unfold Go.Proofs.YtppipmkpmmdcjaaGreat.rdiv
 by_cases e : t < a
 ·rw [if_pos e, if_pos ⟨e, ha⟩]
 ·rw [if_neg e, if_neg (fun h => e h.1)]
theorem UE.cdiv (h : UE n A D) (ht : t < n) : UE n A (cdiv D t) := by
 have key : ∀ J, J ≤ n → UE n A (fun a b => if t < b ∧ b < J then D a b - (D t b / D t t) * D a t else D a b) := by
  intro J
  induction J with
  | zero => exact fun _ => h.congr fun a b _ _ => if_neg (by omega)
  | succ J ih =>
   intro hJ
   have h0 := ih (by omega)
   by_cases e : t < J
   ·refine h0.col (E := eadd J t (-(D t J / D t t))) (.inl (je (by omega) _)) (fun a b _ hb => ?_)
    rw [nc _ _ (by omega) ht a b hb]
    unfold cadd
    dsimp only
    by_cases e2 : b = J
    ·subst e2
     rw [if_pos ⟨e, by omega⟩, if_pos rfl, if_neg (by omega), if_neg (by omega), Int.neg_mul, ← Int.sub_eq_add_neg]
    ·rw [if_neg e2]
     by_cases e3 : t < b ∧ b < J
     ·rw [if_pos ⟨e3.1, by omega⟩, if_pos e3]
     ·rw [if_neg (by omega), if_neg e3]
   ·exact h0.congr fun a b _ _ => by rw [if_neg (by omega), if_neg (by omega)]
 refine (key n (Nat.le_refl _)).congr fun a b _ hb => ?_
 unfold Go.Proofs.YtppipmkpmmdcjaaGreat.cdiv
 by_cases e : t < b
 ·rw [if_pos e, if_pos ⟨e, hb⟩]
 ·rw [if_neg e, if_neg (fun h => e h.1)]
theorem UE.stC (h : UE n A D) (ht : t < n) (hp : p < n) (hq : q < n) : UE n A (stC D t p q) := ((h.stB ht hp hq).rdiv ht).cdiv ht
theorem UE.radd (h : UE n A D) (hti : i ≠ t) (hi : i < n) : UE n A (radd D t i) :=
 h.row (E := eadd i t 1) (.inl (je hti 1)) (fun a b ha _ => by
  rw [oB _ _ hi hti a b ha]
  unfold Go.Proofs.YtppipmkpmmdcjaaGreat.radd
  by_cases e : a = t
  ·rw [if_pos e, e, aJ]
  ·rw [if_neg e, aO _ _ e])
theorem UE.rneg (h : UE n A D) (ht : t < n) : UE n A (rneg D t) :=
 h.row (E := eneg t) (.inr (ot ht)) (fun a b ha _ => by
  rw [sG _ a b ha]
  unfold Go.Proofs.YtppipmkpmmdcjaaGreat.rneg
  by_cases e : a = t
  ·rw [if_pos e, e, aJ]
  ·rw [if_neg e, aO _ _ e])
theorem UE.det (h : UE n A D) : (det n D).natAbs = (Go.LA.det n A).natAbs := by
 obtain ⟨X, Y, hX, hY, h⟩ := h
 rw [bo (M' := mm n (mm n X A) Y) (fun r c hr hc => h r c hr hc), dr, dr]
 rcases hX with e | e <;> rcases hY with e' | e' <;> rw [e, e'] <;> simp
def Exp (n : Nat) (m : Int) (M : Mat) : Prop := ∀ y : Vec, InL n n M (fun i => m * y i)
theorem UE.exp {m : Int} (h : UE n A D) (hD : Exp n m D) : Exp n m A := by
 obtain ⟨X, Y, hX, hY, h⟩ := h
 intro y
 obtain ⟨x, hx⟩ := hD (mv n X y)
 refine ⟨mv n Y x, fun r hr => ?_⟩
 have h1 : ∀ i, i < n → (sm n fun l => X i l * (mv n A (mv n Y x) l - m * y l)) = 0 := fun i hi => by
  rw [aX (g := fun l => X i l * mv n A (mv n Y x) l - m * (X i l * y l)) (fun l _ => by grind), gU, cj]
  have h2 : (sm n fun l => X i l * mv n A (mv n Y x) l) = mv n D x i := by
   have e1 : mv n D x i = mv n (mm n (mm n X A) Y) x i := dh (fun j hj => h i j hi hj) (fun _ _ => rfl)
   rw [e1, jd, jd]; rfl
  have h3 : (sm n fun l => X i l * y l) = mv n X y i := rfl
  have h4 : m * mv n X y i = mv n D x i := hx i hi
  rw [h2, h3]; omega
 have h9 : mv n A (mv n Y x) r - m * y r = 0 := m4 (x := fun l => mv n A (mv n Y x) l - m * y l) hX.ne h1 hr
 show m * y r = _
 omega
end
end Go.Proofs.YtppipmkpmmdcjaaGreat
namespace Go.Proofs.YtppipmkpmmdcjaaGreat
open Go.W Go.LM Go.LA
def bm (t : Nat) (g : Nat → Int) (a b c d : Int) : Mat := fun i j =>
 if i = t ∧ j = t then a else if i = t ∧ j = t + 1 then b else if i = t + 1 ∧ j = t then c else if i = t + 1 ∧ j = t + 1 then d else if i = j ∧ i < t then g i else 0
section
variable {t n : Nat} {g : Nat → Int} {a b c d : Int}
theorem cS : bm t g a b c d t t = a := by unfold bm; simp
theorem dI : bm t g a b c d t (t + 1) = b := by unfold bm; simp
theorem dz : bm t g a b c d (t + 1) t = c := by unfold bm; simp
theorem dW : bm t g a b c d (t + 1) (t + 1) = d := by unfold bm; simp
theorem bO {i j : Nat} (h : ¬ ((i = t ∨ i = t + 1) ∧ (j = t ∨ j = t + 1))) : bm t g a b c d i j = if i = j ∧ i < t then g i else 0 := by
 unfold bm
 rw [if_neg (by omega), if_neg (by omega), if_neg (by omega), if_neg (by omega)]
theorem gZ {M : Mat} (h00 : M t t = a) (h01 : M t (t + 1) = b) (h10 : M (t + 1) t = c) (h11 : M (t + 1) (t + 1) = d) (ho : ∀ i j, ¬ ((i = t ∨ i = t + 1) ∧ (j = t ∨ j = t + 1)) → M i j = if i = j ∧ i < t then g i else 0) : Eqm n n M (bm t g a b c d) := fun i j _ _ => by
 by_cases h : (i = t ∨ i = t + 1) ∧ (j = t ∨ j = t + 1)
 ·obtain ⟨h1 | h1, h2 | h2⟩ := h <;> rw [h1, h2]
  ·rw [h00, cS]
  ·rw [h01, dI]
  ·rw [h10, dz]
  ·rw [h11, dW]
 ·rw [ho i j h, bO h]
theorem oC {p q : Nat} (h : LeastAt (bm t g a b c d) n n t p q) : (p = t ∨ p = t + 1) ∧ (q = t ∨ q = t + 1) := by
 obtain ⟨h1, h2, h3, h4, h5, _⟩ := h
 refine Decidable.byContradiction fun hn => h5 ?_
 rw [bO hn, if_neg (by omega)]
theorem dJ (p : Nat) : swp2 t p t = p := by unfold swp2; simp
theorem dK (p : Nat) : swp2 t p p = t := by unfold swp2; split <;> simp_all
def blkAt (t p q : Nat) (a b c d : Int) : Int × Int × Int × Int :=
 if p = t then (if q = t then (a, b, c, d) else (b, a, d, c)) else (if q = t then (c, d, a, b) else (d, c, b, a))
theorem u9 {p q : Nat} (hp : p = t ∨ p = t + 1) (hq : q = t ∨ q = t + 1) {a' b' c' d' : Int} (h : blkAt t p q a b c d = (a', b', c', d')) : Eqm n n (stB (bm t g a b c d) t p q) (bm t g a' b' c' d') := by
 have hs : ∀ k, swp2 t (t + 1) k = if k = t then t + 1 else if k = t + 1 then t else k := fun k => rfl
 have hss : ∀ k, swp2 t t k = k := fun k => by unfold swp2; split <;> omega
 have hcc : ∀ q k, cs2 t q k = swp2 t q k := fun q k => rfl
 have o1 : ∀ i j, ¬ ((i = t ∨ i = t + 1) ∧ (j = t ∨ j = t + 1)) → ¬ ((swp2 t p i = t ∨ swp2 t p i = t + 1) ∧ (swp2 t q j = t ∨ swp2 t q j = t + 1)) := fun i j hn => by
  have key : ∀ p k, (p = t ∨ p = t + 1) → (swp2 t p k = t ∨ swp2 t p k = t + 1) → (k = t ∨ k = t + 1) := fun p k hp hk => by
   rcases hp with rfl | rfl
   ·rw [hss] at hk; exact hk
   ·rw [hs] at hk
    by_cases e : k = t
    ·exact .inl e
    ·rw [if_neg e] at hk
     by_cases e2 : k = t + 1
     ·exact .inr e2
     ·rw [if_neg e2] at hk; exact hk
  exact fun h2 => hn ⟨key p i hp h2.1, key q j hq h2.2⟩
 have o2 : ∀ i j, ¬ ((i = t ∨ i = t + 1) ∧ (j = t ∨ j = t + 1)) → (if swp2 t p i = swp2 t q j ∧ swp2 t p i < t then g (swp2 t p i) else 0) = if i = j ∧ i < t then g i else 0 := fun i j hn => by
  have key : ∀ p k, (p = t ∨ p = t + 1) → (k < t → swp2 t p k = k) ∧ (t + 1 < k → swp2 t p k = k) ∧ (k = t ∨ k = t + 1 → t ≤ swp2 t p k) := fun p k hp => by
   rcases hp with rfl | rfl
   ·rw [hss]; omega
   ·rw [hs]
    refine ⟨fun h => ?_, fun h => ?_, fun h => ?_⟩
    ·rw [if_neg (by omega), if_neg (by omega)]
    ·rw [if_neg (by omega), if_neg (by omega)]
    ·split
     ·omega
     ·split <;> omega
  obtain ⟨k1, k2, k3⟩ := key p i hp
  obtain ⟨l1, l2, l3⟩ := key q j hq
  by_cases e : i = j ∧ i < t
  ·rw [if_pos e, if_pos (by rw [k1 e.2, l1 (by omega)]; exact e), k1 e.2]
  ·rw [if_neg e, if_neg]
   rintro ⟨e1, e2⟩
   have hit : i < t := by
    rcases Nat.lt_or_ge i t with h | h
    ·exact h
    ·exfalso
     rcases (show (i = t ∨ i = t + 1) ∨ t + 1 < i by omega) with h' | h'
     ·have := k3 h'; omega
     ·rw [k2 h'] at e2; omega
   rw [k1 hit] at e1
   have hjt : j < t := by
    rcases Nat.lt_or_ge j t with h | h
    ·exact h
    ·exfalso
     rcases (show (j = t ∨ j = t + 1) ∨ t + 1 < j by omega) with h' | h'
     ·have := l3 h'; omega
     ·rw [l2 h'] at e1; omega
   rw [l1 hjt] at e1
   exact e ⟨e1, hit⟩
 have ho : ∀ i j, ¬ ((i = t ∨ i = t + 1) ∧ (j = t ∨ j = t + 1)) → stB (bm t g a b c d) t p q i j = if i = j ∧ i < t then g i else 0 := fun i j hn => by
  rw [cY, hcc, bO (o1 i j hn), o2 i j hn]
 have e1 : ¬ (t + 1 = t) := by omega
 unfold blkAt at h
 rcases hp with rfl | rfl <;> rcases hq with rfl | rfl
 ·rw [if_pos rfl, if_pos rfl] at h
  simp only [Prod.mk.injEq] at h
  obtain ⟨rfl, rfl, rfl, rfl⟩ := h
  exact gZ (by simp only [cY, hcc, hss, cS]) (by simp only [cY, hcc, hss, dI]) (by simp only [cY, hcc, hss, dz]) (by simp only [cY, hcc, hss, dW]) ho
 ·rw [if_pos rfl, if_neg e1] at h
  simp only [Prod.mk.injEq] at h
  obtain ⟨rfl, rfl, rfl, rfl⟩ := h
  exact gZ (by simp only [cY, hcc, hss, dJ, dI]) (by simp only [cY, hcc, hss, dK, cS]) (by simp only [cY, hcc, hss, dJ, dW]) (by simp only [cY, hcc, hss, dK, dz]) ho
 ·rw [if_neg e1, if_pos rfl] at h
  simp only [Prod.mk.injEq] at h
  obtain ⟨rfl, rfl, rfl, rfl⟩ := h
  exact gZ (by simp only [cY, hcc, hss, dJ, dz]) (by simp only [cY, hcc, hss, dJ, dW]) (by simp only [cY, hcc, hss, dK, cS]) (by simp only [cY, hcc, hss, dK, dI]) ho
 ·rw [if_neg e1, if_neg e1] at h
  simp only [Prod.mk.injEq] at h
  obtain ⟨rfl, rfl, rfl, rfl⟩ := h
  exact gZ (by simp only [cY, hcc, dJ, dW]) (by simp only [cY, hcc, dJ, dK, dz]) (by simp only [cY, hcc, dJ, dK, dI]) (by simp only [cY, hcc, dK, cS]) ho
theorem tT : Eqm n n (rdiv (bm t g a b c d) t) (bm t g a b (c - c / a * a) (d - c / a * b)) := by
 refine gZ ?_ ?_ ?_ ?_ (fun i j hn => ?_)
 ·unfold rdiv; rw [if_neg (by omega), cS]
 ·unfold rdiv; rw [if_neg (by omega), dI]
 ·unfold rdiv; rw [if_pos (by omega), dz, cS]
 ·unfold rdiv; rw [if_pos (by omega), dW, dz, cS, dI]
 ·unfold rdiv
  by_cases h : t < i
  ·rw [if_pos h, cS]
   by_cases h1 : i = t + 1
   ·have hj : ¬ (j = t ∨ j = t + 1) := fun e => hn ⟨.inr h1, e⟩
    rw [bO hn, bO (i := t) (j := j) (fun e => hj e.2), if_neg (by omega), if_neg (by omega), Int.mul_zero, Int.sub_zero]
   ·rw [bO hn, bO (i := i) (j := t) (by omega), if_neg (by omega), if_neg (by omega), Int.zero_ediv, Int.zero_mul, Int.sub_zero]
  ·rw [if_neg h, bO hn]
theorem tU : Eqm n n (cdiv (bm t g a b c d) t) (bm t g a (b - b / a * a) c (d - b / a * c)) := by
 refine gZ ?_ ?_ ?_ ?_ (fun i j hn => ?_)
 ·unfold cdiv; rw [if_neg (by omega), cS]
 ·unfold cdiv; rw [if_pos (by omega), dI, cS]
 ·unfold cdiv; rw [if_neg (by omega), dz]
 ·unfold cdiv; rw [if_pos (by omega), dW, dz, cS, dI]
 ·unfold cdiv
  by_cases h : t < j
  ·rw [if_pos h, cS]
   by_cases h1 : j = t + 1
   ·have hi : ¬ (i = t ∨ i = t + 1) := fun e => hn ⟨e, .inr h1⟩
    rw [bO hn, bO (i := i) (j := t) (fun e => hi e.1), if_neg (by omega), if_neg (by omega), Int.mul_zero, Int.sub_zero]
   ·rw [bO hn, bO (i := t) (j := j) (by omega), if_neg (by omega), if_neg (by omega), Int.zero_ediv, Int.zero_mul, Int.sub_zero]
  ·rw [if_neg h, bO hn]
theorem tV : Eqm n n (radd (bm t g a b c d) t (t + 1)) (bm t g (a + 1 * c) (b + 1 * d) c d) := by
 refine gZ ?_ ?_ ?_ ?_ (fun i j hn => ?_)
 ·unfold radd; rw [aJ]; show bm t g a b c d t t + 1 * bm t g a b c d (t + 1) t = _; rw [cS, dz]
 ·unfold radd; rw [aJ]; show bm t g a b c d t (t + 1) + 1 * bm t g a b c d (t + 1) (t + 1) = _; rw [dI, dW]
 ·unfold radd; rw [aO _ _ (by omega), dz]
 ·unfold radd; rw [aO _ _ (by omega), dW]
 ·unfold radd
  by_cases h : i = t
  ·subst h
   have hj : ¬ (j = i ∨ j = i + 1) := fun e => hn ⟨.inl rfl, e⟩
   rw [aJ]
   show bm i g a b c d i j + 1 * bm i g a b c d (i + 1) j = _
   rw [bO hn, bO (i := i + 1) (j := j) (fun e => hj e.2), if_neg (by omega), if_neg (by omega)]; rfl
  ·rw [aO _ _ h, bO hn]
theorem tW : Eqm n n (rneg (bm t g a b c d) t) (bm t g (-a) (-b) c d) := by
 refine gZ ?_ ?_ ?_ ?_ (fun i j hn => ?_)
 ·unfold rneg; rw [aJ]; show - bm t g a b c d t t = _; rw [cS]
 ·unfold rneg; rw [aJ]; show - bm t g a b c d t (t + 1) = _; rw [dI]
 ·unfold rneg; rw [aO _ _ (by omega), dz]
 ·unfold rneg; rw [aO _ _ (by omega), dW]
 ·unfold rneg
  by_cases h : i = t
  ·subst h
   rw [aJ]
   show - bm i g a b c d i j = _
   rw [bO hn, if_neg (by omega)]; rfl
  ·rw [aO _ _ h, bO hn]
end
end Go.Proofs.YtppipmkpmmdcjaaGreat
namespace Go.Proofs.YtppipmkpmmdcjaaGreat
open Go.W Go.LM Go.LA
def Col2 (Δ : Nat) (a b c d : Int) : Prop := 0 < c ∧ Δ < c.natAbs ∧ c.natAbs < a.natAbs ∧ a.natAbs ≤ b.natAbs ∧ c.natAbs ≤ d.natAbs
inductive Md (Δ LM n : Nat) (a b c d : Int) : Prop
 | any (h : 2 * Δ + 2 * LM + 7 ≤ n)
 | one (h : 2 * Δ + 2 * LM + 5 ≤ n) (hc : Col2 Δ a b c d)
 | col (h : 2 * Δ + 3 + a.natAbs.log2 + c.natAbs.log2 ≤ n) (h0 : 0 < a) (hc : Col2 Δ a b c d)
 | low (h : ∃ x, (x = a ∨ x = b ∨ x = c ∨ x = d) ∧ x ≠ 0 ∧ x.natAbs ≤ Δ ∧ 2 * x.natAbs + 1 ≤ n)
 | row (hc : c = 0) (ha : a ≠ 0) (hb : b % a ≠ 0) (hl : a.natAbs ≤ Δ) (h : 2 * a.natAbs ≤ n)
structure S2 (Δ LM MT n : Nat) (a b c d : Int) : Prop where
 det : (a * d - b * c).natAbs = Δ
 ba : a.natAbs + n * Δ ≤ MT
 bb : b.natAbs + n * Δ ≤ MT
 bc : c.natAbs + n * Δ ≤ MT
 bd : d.natAbs + n * Δ ≤ MT
 md : Md Δ LM n a b c d
def Le2 (a b c d : Int) : Prop := a ≠ 0 ∧ (b ≠ 0 → a.natAbs ≤ b.natAbs) ∧ (c ≠ 0 → a.natAbs ≤ c.natAbs) ∧ (d ≠ 0 → a.natAbs ≤ d.natAbs)
theorem fm (a b c d : Int) : a * (d - c / a * b) - b * (c % a) = a * d - b * c := by
 have h := Int.emod_def c a
 rw [h]; grind
theorem oD {Δ : Nat} {a b r d1 : Int} (_ha : a ≠ 0) (hr : r.natAbs < a.natAbs) (h : (a * d1 - b * r).natAbs = Δ) : d1.natAbs ≤ b.natAbs + Δ := by
 rcases Nat.lt_or_ge (b.natAbs + Δ) d1.natAbs with hlt | hge
 ·exfalso
  have h1 : (a * d1).natAbs ≤ Δ + (b * r).natAbs := by omega
  rw [Int.natAbs_mul, Int.natAbs_mul] at h1
  have h2 : a.natAbs * (b.natAbs + Δ + 1) ≤ a.natAbs * d1.natAbs := Nat.mul_le_mul_left _ hlt
  have h3 : b.natAbs * r.natAbs ≤ b.natAbs * a.natAbs := Nat.mul_le_mul_left _ (Nat.le_of_lt hr)
  have h4 : a.natAbs * (b.natAbs + Δ + 1) = b.natAbs * a.natAbs + a.natAbs * Δ + a.natAbs := by rw [Nat.mul_add, Nat.mul_add, Nat.mul_one, Nat.mul_comm a.natAbs b.natAbs]
  have h5 : 1 * Δ ≤ a.natAbs * Δ := Nat.mul_le_mul_right _ (by omega)
  omega
 ·exact hge
theorem wK {Δ : Nat} {a b r d1 : Int} (hq : Δ < a.natAbs) (hb : a.natAbs ≤ b.natAbs) (h : (a * d1 - b * r).natAbs = Δ) : r.natAbs ≤ d1.natAbs := by
 rcases Nat.lt_or_ge d1.natAbs r.natAbs with hlt | hge
 ·exfalso
  have h1 : (b * r).natAbs ≤ Δ + (a * d1).natAbs := by omega
  rw [Int.natAbs_mul, Int.natAbs_mul] at h1
  have h2 : a.natAbs * r.natAbs ≤ b.natAbs * r.natAbs := Nat.mul_le_mul_right _ hb
  have h3 : a.natAbs * (d1.natAbs + 1) ≤ a.natAbs * r.natAbs := Nat.mul_le_mul_left _ hlt
  rw [Nat.mul_add, Nat.mul_one] at h3
  omega
 ·exact hge
theorem oE {Δ : Nat} {a d1 : Int} (h : (a * d1).natAbs = Δ) (hΔ : 0 < Δ) : a.natAbs ≤ Δ := by
 rw [Int.natAbs_mul] at h
 have hd : d1.natAbs ≠ 0 := fun e => by rw [e, Nat.mul_zero] at h; omega
 have : a.natAbs * 1 ≤ a.natAbs * d1.natAbs := Nat.mul_le_mul_left _ (by omega)
 omega
theorem qQ {x y : Nat} (hx : 0 < x) (h : 2 * x ≤ y) : x.log2 + 1 ≤ y.log2 := by
 have h1 : 2 ^ x.log2 ≤ x := Nat.log2_self_le (by omega)
 have h2 : 2 ^ (x.log2 + 1) ≤ y := by rw [Nat.pow_succ]; omega
 exact (Nat.le_log2 (by omega)).2 h2
section
variable {Δ LM MT n : Nat} {a b c d : Int}
theorem ns {x y : Int} {m : Nat} (h : y.natAbs ≤ x.natAbs + Δ) (hx : x.natAbs + n * Δ ≤ MT) (hm : m < n) : y.natAbs + m * Δ ≤ MT := by
 have : (m + 1) * Δ ≤ n * Δ := Nat.mul_le_mul_right _ hm
 rw [Nat.succ_mul] at this
 omega
theorem keep {x y : Int} {m : Nat} (h : y.natAbs ≤ x.natAbs) (hx : x.natAbs + n * Δ ≤ MT) (hm : m < n) : y.natAbs + m * Δ ≤ MT := by
 have : m * Δ ≤ n * Δ := Nat.mul_le_mul_right _ (Nat.le_of_lt hm)
 omega
theorem eD {x y : Int} (hy : y ≠ 0) : (x % y).natAbs < y.natAbs := by
 have h1 := Int.emod_nonneg x hy
 have h2 := Int.emod_lt x hy
 omega
theorem wL (hd : (a * d - b * c).natAbs = Δ) (hl : Le2 a b c d) (ba : a.natAbs + n * Δ ≤ MT) (bb : b.natAbs + n * Δ ≤ MT) (hn : 2 * a.natAbs + 1 ≤ n) (hq : a.natAbs ≤ Δ) (hr : c % a ≠ 0) : ∃ m, m < n ∧ S2 Δ LM MT m a b (c % a) (d - c / a * b) := by
 have hlt := eD (x := c) hl.1
 have hds := fm a b c d
 have hm : 2 * (c % a).natAbs + 1 < n := by omega
 refine ⟨2 * (c % a).natAbs + 1, hm, by rw [hds]; exact hd, keep (Nat.le_refl _) ba hm, keep (Nat.le_refl _) bb hm, keep (Nat.le_of_lt hlt) ba hm, ns (oD hl.1 hlt (by rw [hds]; exact hd)) bb hm, .low ⟨c % a, .inr (.inr (.inl rfl)), hr, by omega, Nat.le_refl _⟩⟩
theorem wM (hd : (a * d - b * c).natAbs = Δ) (hl : Le2 a b c d) (ba : a.natAbs + n * Δ ≤ MT) (bb : b.natAbs + n * Δ ≤ MT) (hn : 2 * a.natAbs ≤ n) (hq : a.natAbs ≤ Δ) (hz : c % a = 0) (hr : b % a ≠ 0) : ∃ m, m < n ∧ S2 Δ LM MT m a (b % a) 0 (d - c / a * b) := by
 have hlt := eD (x := b) hl.1
 have hds := fm a b c d
 rw [hz, Int.mul_zero] at hds
 have hdd : (a * (d - c / a * b) - b * 0).natAbs = Δ := by rw [Int.mul_zero, hds]; exact hd
 have hm : 2 * (b % a).natAbs + 1 < n := by omega
 refine ⟨2 * (b % a).natAbs + 1, hm, by rw [Int.mul_zero, hds]; exact hd, keep (Nat.le_refl _) ba hm, keep (Nat.le_of_lt hlt) ba hm, keep (by simp) ba hm, ns (oD hl.1 (by have := hl.1; simp; omega) hdd) bb hm, .low ⟨b % a, .inr (.inl rfl), hr, by omega, Nat.le_refl _⟩⟩
theorem xS (hd : (a * d - b * c).natAbs = Δ) (hl : Le2 a b c d) (ba : a.natAbs + n * Δ ≤ MT) (bb : b.natAbs + n * Δ ≤ MT) (hn : 2 * a.natAbs + 1 ≤ n) (hq : a.natAbs ≤ Δ) (hz : c % a = 0) (hr : (d - c / a * b) % a ≠ 0) : ∃ m, m < n ∧ S2 Δ LM MT m a (d - c / a * b) 0 (d - c / a * b) := by
 have hds := fm a b c d
 rw [hz, Int.mul_zero] at hds
 have hdd : (a * (d - c / a * b) - b * 0).natAbs = Δ := by rw [Int.mul_zero, hds]; exact hd
 have hm : 2 * a.natAbs < n := by omega
 have hg := oD hl.1 (by have := hl.1; simp; omega) hdd
 exact ⟨2 * a.natAbs, hm, by rw [Int.mul_zero, hds]; exact hd, keep (Nat.le_refl _) ba hm, ns hg bb hm, keep (by simp) ba hm, ns hg bb hm, .row rfl hl.1 hr hq (Nat.le_refl _)⟩
end
end Go.Proofs.YtppipmkpmmdcjaaGreat
namespace Go.Proofs.YtppipmkpmmdcjaaGreat
open Go.W Go.LM Go.LA
section
variable {Δ LM MT n N t p q : Nat} {g : Nat → Int} {a0 b0 c0 d0 a b c d : Int}
theorem wN (hLM : ∀ x, x ≤ MT → x.log2 ≤ LM) (hd : (a * d - b * c).natAbs = Δ) (hΔ : 0 < Δ) (hl : Le2 a b c d) (ba : a.natAbs + n * Δ ≤ MT) (bb : b.natAbs + n * Δ ≤ MT) (hq : Δ < a.natAbs) (hr : c % a ≠ 0)
  (hn : 2 * Δ + 2 * LM + 7 ≤ n ∨ (0 < a ∧ (2 * Δ + 2 * LM + 5 ≤ n ∨ (2 * Δ + 3 + c.natAbs.log2 + a.natAbs.log2 ≤ n ∧ 0 < c ∧ a.natAbs < c.natAbs)))) :
  ∃ m, m < n ∧ S2 Δ LM MT m a b (c % a) (d - c / a * b) := by
 have hlt := eD (x := c) hl.1
 have hnn := Int.emod_nonneg c hl.1
 have hds := fm a b c d
 have hdd : (a * (d - c / a * b) - b * (c % a)).natAbs = Δ := by rw [hds]; exact hd
 have hg := oD hl.1 hlt hdd
 have fin : ∀ m, m < n → Md Δ LM m a b (c % a) (d - c / a * b) → ∃ m, m < n ∧ S2 Δ LM MT m a b (c % a) (d - c / a * b) := fun m hm hM =>
  ⟨m, hm, hdd, keep (Nat.le_refl _) ba hm, keep (Nat.le_refl _) bb hm, keep (Nat.le_of_lt hlt) ba hm, ns hg bb hm, hM⟩
 rcases Nat.lt_or_ge Δ (c % a).natAbs with hrΔ | hrΔ
 ·have hb0 : b ≠ 0 := fun e => by
   rw [e, Int.zero_mul, Int.sub_zero] at hdd
   have := oE hdd hΔ
   omega
  have hcol : Col2 Δ a b (c % a) (d - c / a * b) := ⟨by omega, hrΔ, hlt, hl.2.1 hb0, wK hq (hl.2.1 hb0) hdd⟩
  have la := hLM a.natAbs (by omega)
  have lr := hLM (c % a).natAbs (by omega)
  rcases hn with hn | ⟨h0, hn | ⟨hn, hc0, hac⟩⟩
  ·exact fin (2 * Δ + 2 * LM + 5) (by omega) (.one (Nat.le_refl _) hcol)
  ·exact fin (2 * Δ + 3 + a.natAbs.log2 + (c % a).natAbs.log2) (by omega) (.col (Nat.le_refl _) h0 hcol)
  ·refine fin (2 * Δ + 3 + a.natAbs.log2 + (c % a).natAbs.log2) ?_ (.col (Nat.le_refl _) h0 hcol)
   have h1 : 2 * (c % a).natAbs ≤ c.natAbs := by
    have e := Int.emod_def c a
    have hpos : 1 ≤ c / a := Int.le_ediv_of_mul_le h0 (by omega)
    have hm : a * 1 ≤ a * (c / a) := Int.mul_le_mul_of_nonneg_left hpos (by omega)
    omega
   have := qQ (by omega) h1
   omega
 ·refine fin (2 * (c % a).natAbs + 1) ?_ (.low ⟨c % a, .inr (.inr (.inl rfl)), hr, hrΔ, Nat.le_refl _⟩)
  rcases hn with hn | ⟨_, hn | ⟨hn, _⟩⟩ <;> omega
theorem wO (hΔ : 0 < Δ) (hLM : ∀ x, x ≤ MT → x.log2 ≤ LM) (hS : S2 Δ LM MT n a0 b0 c0 d0) (hN : t + 1 < N) (hL : LeastAt (bm t g a0 b0 c0 d0) N N t p q) (hB : blkAt t p q a0 b0 c0 d0 = (a, b, c, d)) :
  Le2 a b c d ∧ (a * d - b * c).natAbs = Δ ∧ a.natAbs + n * Δ ≤ MT ∧ b.natAbs + n * Δ ≤ MT ∧ c.natAbs + n * Δ ≤ MT ∧ d.natAbs + n * Δ ≤ MT ∧
  (c % a ≠ 0 → ∃ m, m < n ∧ S2 Δ LM MT m a b (c % a) (d - c / a * b)) ∧ (c % a = 0 → b % a ≠ 0 → ∃ m, m < n ∧ S2 Δ LM MT m a (b % a) 0 (d - c / a * b)) ∧
  (c % a = 0 → b % a = 0 → (d - c / a * b) % a ≠ 0 → ∃ m, m < n ∧ S2 Δ LM MT m a (d - c / a * b) 0 (d - c / a * b)) := by
 obtain ⟨hp, hq⟩ := oC hL
 obtain ⟨_, _, _, _, hne, hle, hfi⟩ := hL
 have l00 := hle t t (Nat.le_refl _) (by omega) (Nat.le_refl _) (by omega)
 have l01 := hle t (t + 1) (Nat.le_refl _) (by omega) (by omega) hN
 have l10 := hle (t + 1) t (by omega) hN (Nat.le_refl _) (by omega)
 have l11 := hle (t + 1) (t + 1) (by omega) hN (by omega) hN
 have f00 := hfi t t (Nat.le_refl _) (Nat.le_refl _) (by omega)
 have f10 := hfi (t + 1) t (by omega) (Nat.le_refl _) (by omega)
 clear hle hfi
 rw [cS] at l00 f00
 rw [dI] at l01
 rw [dz] at l10 f10
 rw [dW] at l11
 obtain ⟨hdet, ba, bb, bc, bd, hmd⟩ := hS
 have e1 : ¬ (t + 1 = t) := by omega
 have main : ∀ v : Int, bm t g a0 b0 c0 d0 p q = v → a = v → Le2 a b c d → (a * d - b * c).natAbs = Δ → a.natAbs + n * Δ ≤ MT → b.natAbs + n * Δ ≤ MT →
   ((p = t ∧ q = t ∧ a = a0 ∧ b = b0 ∧ c = c0 ∧ d = d0) ∨ (¬ (p = t ∧ q = t) ∧ ((p = t + 1 ∧ q = t ∧ a = c0 ∧ c = a0) ∨ (p = t ∧ a = b0) ∨ (p = t + 1 ∧ q = t + 1 ∧ a = d0)))) →
   (c % a ≠ 0 → ∃ m, m < n ∧ S2 Δ LM MT m a b (c % a) (d - c / a * b)) ∧ (c % a = 0 → b % a ≠ 0 → ∃ m, m < n ∧ S2 Δ LM MT m a (b % a) 0 (d - c / a * b)) ∧
   (c % a = 0 → b % a = 0 → (d - c / a * b) % a ≠ 0 → ∃ m, m < n ∧ S2 Δ LM MT m a (d - c / a * b) 0 (d - c / a * b)) := by
  intro v hv hav hl hd ha hb hwh
  rw [hv] at l00 l01 l10 l11 f00 f10
  rw [← hav] at l00 l01 l10 l11 f00 f10
  rcases Nat.lt_or_ge Δ a.natAbs with hbig | hsm
  ·have clean : c % a = 0 → False := fun hz => by
    have hds := fm a b c d
    rw [hz, Int.mul_zero, Int.sub_zero] at hds
    have := oE (a := a) (d1 := d - c / a * b) (by rw [hds]; exact hd) hΔ
    omega
   refine ⟨fun hr => wN hLM hd hΔ hl ha hb hbig hr ?_, fun hz => (clean hz).elim, fun hz => (clean hz).elim⟩
   have colw : Col2 Δ a0 b0 c0 d0 → p = t + 1 ∧ q = t ∧ a = c0 ∧ c = a0 := by
    rintro ⟨h1, h2, h3, h4, h5⟩
    have hc := l10 (by omega)
    rcases hwh with ⟨_, _, e, _⟩ | ⟨_, h | ⟨_, e⟩ | ⟨hp1, hq1, e⟩⟩
    ·rw [e] at hc; omega
    ·exact h
    ·rw [e] at hc; omega
    ·have := f10 (.inr ⟨hp1.symm, by omega⟩) (by omega)
     rw [e] at this; omega
   cases hmd with
   | any h => exact .inl h
   | one h hc => obtain ⟨_, _, e, _⟩ := colw hc; exact .inr ⟨by rw [e]; exact hc.1, .inl h⟩
   | col h h0 hc => obtain ⟨_, _, e, e'⟩ := colw hc; exact .inr ⟨by rw [e]; exact hc.1, .inr ⟨by rw [e, e']; exact h, by rw [e']; exact h0, by rw [e, e']; exact hc.2.2.1⟩⟩
   | low h =>
    obtain ⟨x, hx, h1, h2, _⟩ := h
    rcases hx with rfl | rfl | rfl | rfl
    ·have := l00 h1; omega
    ·have := l01 h1; omega
    ·have := l10 h1; omega
    ·have := l11 h1; omega
   | row hc ha0 _ hl' _ => have := l00 ha0; omega
  ·have hcase : 2 * a.natAbs + 1 ≤ n ∨ (c = 0 ∧ b % a ≠ 0 ∧ 2 * a.natAbs ≤ n) := by
    cases hmd with
    | any h => exact .inl (by omega)
    | one h hc =>
     obtain ⟨h1, h2, h3, h4, h5⟩ := hc
     rcases hwh with ⟨_, _, e, _⟩ | ⟨_, ⟨_, _, e, _⟩ | ⟨_, e⟩ | ⟨_, _, e⟩⟩ <;> rw [e] at hsm <;> omega
    | col h h0 hc =>
     obtain ⟨h1, h2, h3, h4, h5⟩ := hc
     rcases hwh with ⟨_, _, e, _⟩ | ⟨_, ⟨_, _, e, _⟩ | ⟨_, e⟩ | ⟨_, _, e⟩⟩ <;> rw [e] at hsm <;> omega
    | low h =>
     obtain ⟨x, hx, h1, h2, h3⟩ := h
     rcases hx with rfl | rfl | rfl | rfl
     ·have := l00 h1; exact .inl (by omega)
     ·have := l01 h1; exact .inl (by omega)
     ·have := l10 h1; exact .inl (by omega)
     ·have := l11 h1; exact .inl (by omega)
    | row hc ha0 hb0 hl' h =>
     rcases hwh with ⟨_, _, ea, eb, ec, _⟩ | ⟨hnp, _⟩
     ·exact .inr ⟨by rw [ec]; exact hc, by rw [ea, eb]; exact hb0, by rw [ea]; exact h⟩
     ·have := f00 (by omega) ha0
      exact .inl (by omega)
   rcases hcase with hn | ⟨hc, hb0, hn⟩
   ·exact ⟨fun hr => wL hd hl ha hb hn hsm hr, fun hz hr => wM hd hl ha hb (by omega) hsm hz hr, fun hz _ hr => xS hd hl ha hb hn hsm hz hr⟩
   ·exact ⟨fun hr => absurd (by rw [hc]; exact Int.zero_emod _) hr, fun hz hr => wM hd hl ha hb hn hsm hz hr, fun _ hz => absurd hz hb0⟩
 have hneg : ∀ x y : Int, x = -y → y.natAbs = Δ → x.natAbs = Δ := fun x y e h => by rw [e, Int.natAbs_neg]; exact h
 unfold blkAt at hB
 rcases hp with rfl | rfl <;> rcases hq with rfl | rfl
 ·rw [if_pos rfl, if_pos rfl] at hB
  simp only [Prod.mk.injEq] at hB
  obtain ⟨rfl, rfl, rfl, rfl⟩ := hB
  rw [cS] at hne
  have hl : Le2 a0 b0 c0 d0 := ⟨hne, fun h => by have := l01 h; rwa [cS] at this, fun h => by have := l10 h; rwa [cS] at this, fun h => by have := l11 h; rwa [cS] at this⟩
  exact ⟨hl, hdet, ba, bb, bc, bd, main _ cS rfl hl hdet ba bb (.inl ⟨rfl, rfl, rfl, rfl, rfl, rfl⟩)⟩
 ·rw [if_pos rfl, if_neg e1] at hB
  simp only [Prod.mk.injEq] at hB
  obtain ⟨rfl, rfl, rfl, rfl⟩ := hB
  rw [dI] at hne
  have hl : Le2 b0 a0 d0 c0 := ⟨hne, fun h => by have := l00 h; rwa [dI] at this, fun h => by have := l11 h; rwa [dI] at this, fun h => by have := l10 h; rwa [dI] at this⟩
  have hd := hneg (b0 * c0 - a0 * d0) _ (by grind) hdet
  exact ⟨hl, hd, bb, ba, bd, bc, main _ dI rfl hl hd bb ba (.inr ⟨by omega, .inr (.inl ⟨rfl, rfl⟩)⟩)⟩
 ·rw [if_neg e1, if_pos rfl] at hB
  simp only [Prod.mk.injEq] at hB
  obtain ⟨rfl, rfl, rfl, rfl⟩ := hB
  rw [dz] at hne
  have hl : Le2 c0 d0 a0 b0 := ⟨hne, fun h => by have := l11 h; rwa [dz] at this, fun h => by have := l00 h; rwa [dz] at this, fun h => by have := l01 h; rwa [dz] at this⟩
  have hd := hneg (c0 * b0 - d0 * a0) _ (by grind) hdet
  exact ⟨hl, hd, bc, bd, ba, bb, main _ dz rfl hl hd bc bd (.inr ⟨by omega, .inl ⟨rfl, rfl, rfl, rfl⟩⟩)⟩
 ·rw [if_neg e1, if_neg e1] at hB
  simp only [Prod.mk.injEq] at hB
  obtain ⟨rfl, rfl, rfl, rfl⟩ := hB
  rw [dW] at hne
  have hl : Le2 d0 c0 b0 a0 := ⟨hne, fun h => by have := l10 h; rwa [dW] at this, fun h => by have := l01 h; rwa [dW] at this, fun h => by have := l00 h; rwa [dW] at this⟩
  have hd : (d0 * a0 - c0 * b0).natAbs = Δ := by rw [show d0 * a0 - c0 * b0 = a0 * d0 - b0 * c0 by grind]; exact hdet
  exact ⟨hl, hd, bd, bc, bb, ba, main _ dW rfl hl hd bd bc (.inr ⟨by omega, .inr (.inr ⟨rfl, rfl, rfl⟩)⟩)⟩
end
end Go.Proofs.YtppipmkpmmdcjaaGreat
