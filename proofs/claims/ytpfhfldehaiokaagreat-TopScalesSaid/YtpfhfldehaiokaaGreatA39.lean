import Derived.Test.YtpfhfldehaiokaaGreatA34
import Derived.Test.YtpfhfldehaiokaaGreatA36
import Derived.Test.YtpfhfldehaiokaaGreatA38
set_option maxHeartbeats 16000000
namespace Go.LA
open Go.W
theorem m4 {n : Nat} {y : Nat → Int} {j : Nat} (h : j < n) : ((List.range n).map y).getD j 0 = y j := by
 rw [List.getD_eq_getElem?_getD, List.getElem?_map, List.getElem?_range h]; rfl
def LastPos (n k : Nat) (x : Vec) : Prop := ∃ p, k ≤ p ∧ p < n ∧ 0 < x p ∧ ∀ j, p < j → j < n → x j = 0
section
variable {n : Nat} {A : Mat} {C : Int}
theorem LastPos.set {k : Nat} {x : Vec} {z : Bool} {c lo : Int} (hk : k < n) (hz : z = true → ∀ j, k < j → j < n → x j = 0) (hl : z = false → LastPos n (k + 1) x) (hc : (if z then 0 else lo) ≤ c) (hzc : (z && c == 0) = false) : LastPos n k (setF x k c) := by
 cases z with
 | false =>
  obtain ⟨p, h1, h2, h3, h4⟩ := hl rfl
  exact ⟨p, by omega, h2, by rw [aN _ _ (by omega)]; exact h3, fun j hj hjn => by rw [aN _ _ (by omega)]; exact h4 j hj hjn⟩
 | true =>
  simp only [if_true] at hc
  have hc0 : c ≠ 0 := by simpa using hzc
  exact ⟨k, Nat.le_refl _, hk, by rw [aI]; omega, fun j hj hjn => by rw [aN _ _ (by omega)]; exact hz rfl j hj hjn⟩
theorem Wk.cols_mem (h : Wk n A C) : ∀ (k : Nat) (x : Vec) (z : Bool), k < n → 0 ≤ rs n A C (k + 1) x → (z = true → ∀ j, k < j → j < n → x j = 0) → (z = false → LastPos n (k + 1) x) →
  ∀ e ∈ cols n A C k x z, ∃ y, e = (List.range n).map y ∧ 0 ≤ rs n A C 0 y ∧ LastPos n 0 y ∧ ∀ j, k < j → j < n → y j = x j := by
 intro k
 induction k with
 | zero =>
  intro x z hk hr hz hl e he
  rw [gj] at he
  obtain ⟨c, hc, he⟩ := List.mem_flatMap.1 he
  have h5 := fN.1 hc
  have h6 := h.loz hk hr z hz
  have he : e ∈ (if (z && c == 0) = true then [] else [(List.range n).map (setF x 0 c)] : List (List Int)) := he
  by_cases hzc : (z && c == 0) = true
  ·rw [if_pos hzc] at he; cases he
  ·rw [if_neg hzc, List.mem_singleton] at he
   exact ⟨setF x 0 c, he, h.down hk hr ⟨by omega, h5.2⟩, LastPos.set hk hz hl h5.1 (by simpa using hzc), fun j hj hjn => aN _ _ (by omega)⟩
 | succ k ih =>
  intro x z hk hr hz hl e he
  rw [gj] at he
  obtain ⟨c, hc, he⟩ := List.mem_flatMap.1 he
  have h5 := fN.1 hc
  have h6 := h.loz hk hr z hz
  obtain ⟨y, h1, h2, h3, h4⟩ := ih (setF x (k + 1) c) (z && c == 0) (by omega) (h.down hk hr ⟨by omega, h5.2⟩) (h.zstep hz) (fun hzc => LastPos.set hk hz hl h5.1 hzc) e he
  exact ⟨y, h1, h2, h3, fun j hj hjn => by rw [h4 j (by omega) hjn]; exact aN _ _ (by omega)⟩
theorem Wk.colF_mem (h : Wk n A C) {k : Nat} {x : Vec} {z : Bool} (hk : k < n) (hr : 0 ≤ rs n A C (k + 1) x) (hz : z = true → ∀ j, k < j → j < n → x j = 0) (hl : z = false → LastPos n (k + 1) x) {c : Int} (hc : c ∈ rg (loZ n A C k x z) (hiV n A C k x)) {e : List Int} (he : e ∈ colF n A C k x z c) : e.getD k 0 = c := by
 have h5 := fN.1 hc
 have h6 := h.loz hk hr z hz
 cases k with
 | zero =>
  have he : e ∈ (if (z && c == 0) = true then [] else [(List.range n).map (setF x 0 c)] : List (List Int)) := he
  by_cases hzc : (z && c == 0) = true
  ·rw [if_pos hzc] at he; cases he
  ·rw [if_neg hzc, List.mem_singleton] at he
   rw [he, m4 hk, aI]
 | succ k =>
  obtain ⟨y, h1, h2, h3, h4⟩ := h.cols_mem k (setF x (k + 1) c) (z && c == 0) (by omega) (h.down hk hr ⟨by omega, h5.2⟩) (h.zstep hz) (fun hzc => LastPos.set hk hz hl h5.1 hzc) e he
  rw [h1, m4 hk, h4 (k + 1) (by omega) hk, aI]
theorem wY (lo hi : Int) : (rg lo hi).Pairwise (· ≠ ·) := by
 unfold rg
 rw [List.pairwise_map]
 exact List.Pairwise.imp (fun hab => by omega) List.nodup_range
theorem Wk.cols_pw (h : Wk n A C) : ∀ (k : Nat) (x : Vec) (z : Bool), k < n → 0 ≤ rs n A C (k + 1) x → (z = true → ∀ j, k < j → j < n → x j = 0) → (z = false → LastPos n (k + 1) x) → (cols n A C k x z).Pairwise (· ≠ ·) := by
 intro k
 induction k with
 | zero =>
  intro x z hk hr hz hl
  rw [gj, List.pairwise_flatMap]
  refine ⟨fun c hc => ?_, List.Pairwise.imp_of_mem (fun {a b} ha hb hab e he e' he' hee => hab ?_) (wY _ _)⟩
  ·show (if (z && c == 0) = true then [] else [(List.range n).map (setF x 0 c)] : List (List Int)).Pairwise _
   split <;> simp
  ·rw [← h.colF_mem hk hr hz hl ha he, ← h.colF_mem hk hr hz hl hb he', hee]
 | succ k ih =>
  intro x z hk hr hz hl
  rw [gj, List.pairwise_flatMap]
  refine ⟨fun c hc => ?_, List.Pairwise.imp_of_mem (fun {a b} ha hb hab e he e' he' hee => hab ?_) (wY _ _)⟩
  ·have h5 := fN.1 hc
   have h6 := h.loz hk hr z hz
   exact ih (setF x (k + 1) c) (z && c == 0) (by omega) (h.down hk hr ⟨by omega, h5.2⟩) (h.zstep hz) (fun hzc => LastPos.set hk hz hl h5.1 hzc)
  ·rw [← h.colF_mem hk hr hz hl ha he, ← h.colF_mem hk hr hz hl hb he', hee]
def foundL (n : Nat) (A : Mat) (C : Int) : List (List Int) := cols n A C (n - 1) (fun _ => 0) true
def foundV (n : Nat) (A : Mat) (C : Int) (i j : Nat) : Int := ((foundL n A C).getD i []).getD j 0
theorem Wk.found0 (h : Wk n A C) : 0 ≤ rs n A C (n - 1 + 1) fun _ => 0 := h.rs0 (by have := h.hn; omega) fun _ _ _ => rfl
theorem Wk.found_len (h : Wk n A C) : (foundL n A C).length ≤ 6859 := by
 have hn := h.hn
 have h1 := h.cols_len (n - 1) (fun _ => 0) true (by omega) h.found0 fun _ _ _ _ => rfl
 have h2 : 19 ^ (n - 1 + 1) ≤ 19 ^ 3 := Nat.pow_le_pow_right (by decide) (by omega)
 unfold foundL
 omega
theorem Wk.found_mem (h : Wk n A C) {i : Nat} (hi : i < (foundL n A C).length) : ∃ y : Vec, (foundL n A C)[i] = (List.range n).map y ∧ (∀ j, j < n → foundV n A C i j = y j) ∧ (∀ j, j < n → (y j).natAbs ≤ 9) ∧ LastPos n 0 y := by
 have hn := h.hn
 obtain ⟨y, h1, h2, h3, _⟩ := h.cols_mem (n - 1) (fun _ => 0) true (by omega) h.found0 (fun _ _ _ _ => rfl) (fun h => by cases h) _ (List.getElem_mem hi)
 have h1 : (foundL n A C)[i] = (List.range n).map y := h1
 refine ⟨y, h1, fun j hj => ?_, fun j hj => h.cb h2 (Nat.zero_le _) hj, h3⟩
 unfold foundV
 rw [List.getD_eq_getElem?_getD (l := foundL n A C), List.getElem?_eq_getElem hi]
 show ((foundL n A C)[i]).getD j 0 = y j
 rw [h1, m4 hj]
theorem LastPos.congr {k : Nat} {x y : Vec} (h : LastPos n k x) (e : ∀ j, j < n → y j = x j) : LastPos n k y := by
 obtain ⟨p, h1, h2, h3, h4⟩ := h
 exact ⟨p, h1, h2, by rw [e p h2]; exact h3, fun j hj hjn => by rw [e j hjn]; exact h4 j hj hjn⟩
theorem Wk.found_ok (h : Wk n A C) {i : Nat} (hi : i < (foundL n A C).length) : (∀ j, j < n → (foundV n A C i j).natAbs ≤ 9) ∧ LastPos n 0 (foundV n A C i) := by
 obtain ⟨y, h1, h2, h3, h4⟩ := h.found_mem hi
 exact ⟨fun j hj => by rw [h2 j hj]; exact h3 j hj, h4.congr h2⟩
theorem Wk.found_ne (h : Wk n A C) {i j : Nat} (hi : i < (foundL n A C).length) (hj : j < (foundL n A C).length) (hij : i ≠ j) : ¬ ∀ l, l < n → foundV n A C i l = foundV n A C j l := by
 intro he
 have hn := h.hn
 have hp := h.cols_pw (n - 1) (fun _ => 0) true (by omega) h.found0 (fun _ _ _ _ => rfl) (fun h => by cases h)
 have hp := List.pairwise_iff_getElem.1 hp
 obtain ⟨y, a1, a2, _⟩ := h.found_mem hi
 obtain ⟨y', b1, b2, _⟩ := h.found_mem hj
 have hyy : (foundL n A C)[i] = (foundL n A C)[j] := by
  rw [a1, b1]
  exact List.map_congr_left fun l hl => by
   have hl := List.mem_range.1 hl
   rw [← a2 l hl, ← b2 l hl, he l hl]
 rcases Nat.lt_or_gt_of_ne hij with hlt | hlt
 ·exact hp i j hi hj hlt hyy
 ·exact hp j i hj hi hlt hyy.symm
def fnz (f : Vec) : Nat := if f 0 ≠ 0 then 0 else if f 1 ≠ 0 then 1 else 2
theorem xO {f : Vec} (hn : n ≤ 3) (h : LastPos n 0 f) : fnz f < n ∧ f (fnz f) ≠ 0 ∧ ∀ j, j < fnz f → f j = 0 := by
 obtain ⟨p, _, h2, h3, _⟩ := h
 unfold fnz
 have hp : p = 0 ∨ p = 1 ∨ p = 2 := by omega
 by_cases h0 : f 0 ≠ 0
 ·rw [if_pos h0]; exact ⟨by omega, h0, fun j hj => by omega⟩
 ·have h0 : f 0 = 0 := by omega
  rw [if_neg (by omega)]
  by_cases h1 : f 1 ≠ 0
  ·rw [if_pos h1]
   refine ⟨?_, h1, fun j hj => ?_⟩
   ·rcases hp with rfl | rfl | rfl <;> omega
   ·rw [show j = 0 by omega]; exact h0
  ·have h1 : f 1 = 0 := by omega
   rw [if_neg (by omega)]
   have hp2 : p = 2 := by
    rcases hp with rfl | rfl | rfl
    ·omega
    ·omega
    ·rfl
   subst hp2
   refine ⟨h2, by omega, fun j hj => ?_⟩
   have : j = 0 ∨ j = 1 := by omega
   rcases this with rfl | rfl
   ·exact h0
   ·exact h1
theorem LastPos.anti {f g : Vec} (hf : LastPos n 0 f) (hg : LastPos n 0 g) (h : ∀ j, j < n → f j = -g j) : False := by
 obtain ⟨p, _, a2, a3, a4⟩ := hf
 obtain ⟨q, _, b2, b3, b4⟩ := hg
 rcases Nat.lt_trichotomy p q with e | e | e
 ·have := a4 q e b2; have := h q b2; omega
 ·subst e; have := h p a2; omega
 ·have := b4 p e a2; have := h p a2; omega
end
end Go.LA
namespace Go.Proofs.YtpfhfldehaiokaaGreat
open Go.W Go.LM Go.LA
theorem wF {n : Nat} {f g : Nat → Int} {q q' : Nat} (hf : LastPos n 0 f) (hg : LastPos n 0 g) (hn : ¬ ∀ j, j < n → f j = g j) : ¬ ∀ j, j < n → canV q f j = canV q' g j := by
 intro h
 unfold canV at h
 by_cases e1 : f q < 0
 ·by_cases e2 : g q' < 0
  ·exact hn fun j hj => by have := h j hj; rw [if_pos e1, if_pos e2] at this; omega
  ·exact hf.anti hg fun j hj => by have := h j hj; rw [if_pos e1, if_neg e2] at this; omega
 ·by_cases e2 : g q' < 0
  ·exact hf.anti hg fun j hj => by have := h j hj; rw [if_neg e1, if_pos e2] at this; omega
  ·exact hn fun j hj => by have := h j hj; rw [if_neg e1, if_neg e2] at this; exact this
theorem lA {n : Nat} {H : Mat} {m : Int} (x : Nat → Int) : nrmV n (scM m H) x = m * nrmV n H x := by
 unfold nrmV
 rw [← bN]
 refine aS fun i _ => ?_
 have : (sm n fun j => scM m H i j * x j) = m * sm n fun j => H i j * x j := by
  rw [← bN]
  exact aS fun j _ => by show m * H i j * x j = _; rw [Int.mul_assoc]
 rw [this]; grind
theorem xP {m a b : Int} (hm : 1 ≤ m) : cmq (m * a) (m * b) = cmq a b := by
 have h : ∀ a b : Int, m * a < m * b ↔ a < b := fun a b => Int.mul_lt_mul_left (by omega)
 unfold cmq
 simp only [h]
theorem si {n : Nat} {m a b : Int} {f g : Nat → Int} (hm : 1 ≤ m) : cmpK n (m * a) f (m * b) g = cmpK n a f b g := by
 unfold cmpK
 rw [xP hm]
def fcmp (n : Nat) (H : Mat) (B : Int) (i j : Nat) : Int := cmpK n (nrmV n H (foundV n H B i)) (canV (fnz (foundV n H B i)) (foundV n H B i)) (nrmV n H (foundV n H B j)) (canV (fnz (foundV n H B j)) (foundV n H B j))
theorem sj {n : Nat} {H : Mat} {B : Int} (h : Wk n H B) {i j : Nat} (hi : i < (foundL n H B).length) (hj : j < (foundL n H B).length) (hij : i ≠ j) : fcmp n H B i j ≠ 0 := fun h0 =>
 wF (h.found_ok hi).2 (h.found_ok hj).2 (h.found_ne hi hj hij) (n0 h0).2
def Srt (n : Nat) (H : Mat) (B : Int) (p : Nat → Nat) : Prop := ((List.range (foundL n H B).length).map p).Perm (List.range (foundL n H B).length) ∧ ∀ i j, i < j → j < (foundL n H B).length → ¬ fcmp n H B (p j) (p i) < 0
theorem Srt.unique {n : Nat} {H : Mat} {B : Int} (h : Wk n H B) {p p' : Nat → Nat} (hp : Srt n H B p) (hp' : Srt n H B p') {i : Nat} (hi : i < (foundL n H B).length) : p i = p' i := by
 obtain ⟨a1, a2⟩ := hp
 obtain ⟨b1, b2⟩ := hp'
 generalize hN : (foundL n H B).length = N at *
 have key : (List.range N).map p = (List.range N).map p' := by
  have pw : ∀ {p : Nat → Nat}, (∀ i j, i < j → j < N → ¬ fcmp n H B (p j) (p i) < 0) → ((List.range N).map p).Pairwise fun a b => ¬ fcmp n H B b a < 0 := fun {p} hh => by
   rw [List.pairwise_iff_getElem]
   intro i j hi hj hij
   simp only [List.length_map, List.length_range] at hi hj
   simp only [List.getElem_map, List.getElem_range]
   exact hh i j hij hj
  refine List.Perm.eq_of_pairwise (fun a b ha hb h1 h2 => ?_) (pw a2) (pw b2) (a1.trans b1.symm)
  have ha := List.mem_range.1 (a1.mem_iff.1 ha)
  have hb := List.mem_range.1 (b1.mem_iff.1 hb)
  refine Decidable.byContradiction fun hne => ?_
  have h3 := sj h (by rw [hN]; exact ha) (by rw [hN]; exact hb) hne
  have h4 : fcmp n H B b a = -fcmp n H B a b := mX _ _ _ _ _
  omega
 have h1 : ((List.range N).map p)[i]? = ((List.range N).map p')[i]? := by rw [key]
 rw [List.getElem?_map, List.getElem?_map, List.getElem?_range hi] at h1
 simpa using h1
end Go.Proofs.YtpfhfldehaiokaaGreat
namespace Go.LA
open Go.W
theorem wG {C d : Nat} (hd : 0 < d) : isq (d * C) / d = isq (C / d) := by
 have h1 := iQ (d * C)
 have h2 := oR (d * C)
 symm
 refine q4 ?_ ?_
 ·rw [Nat.le_div_iff_mul_le hd]
  have h3 : isq (d * C) / d * d ≤ isq (d * C) := Nat.div_mul_le_self _ _
  have h4 := Nat.mul_le_mul h3 h3
  generalize isq (d * C) / d = q at *
  have e : q * d * (q * d) = d * (q * q * d) := by grind
  rw [e] at h4
  exact Nat.le_of_mul_le_mul_left (Nat.le_trans h4 h1) hd
 ·rw [Nat.div_lt_iff_lt_mul hd]
  have h3 : isq (d * C) < (isq (d * C) / d + 1) * d := by
   have := Nat.lt_mul_div_succ (isq (d * C)) hd
   rwa [Nat.mul_comm d (_ + 1)] at this
  generalize isq (d * C) / d = q at *
  have h4 := Nat.mul_le_mul (show isq (d * C) + 1 ≤ (q + 1) * d by omega) (show isq (d * C) + 1 ≤ (q + 1) * d by omega)
  have e : (q + 1) * d * ((q + 1) * d) = d * ((q + 1) * (q + 1) * d) := by grind
  rw [e] at h4
  exact Nat.lt_of_mul_lt_mul_left (a := d) (by omega)
theorem m7 {n : Nat} {A : Mat} {C : Int} (x : Vec) : rs n A C n x = det n A * C := by
 unfold rs qn
 rw [Nat.sub_self, dm]; omega
theorem wH {A : Mat} {C : Int} (h : Wk 1 A C) (x : Vec) : cntV 1 A C 0 x = 2 * (isq (C / det 1 A).toNat : Int) + 1 := by
 have hd := h.pos 1 (Nat.le_refl _)
 have hC := h.hC.1
 have hs : sqv 1 A C 0 x = det 1 A * C := by
  unfold sqv
  rw [cA, Int.one_mul]; exact m7 x
 have h0 : shv 1 A 0 x = 0 := Wk.s0 rfl x
 unfold cntV hiV loV
 rw [hs, h0, Int.add_zero, Int.sub_zero]
 have key : rtI (det 1 A * C) / det (0 + 1) A = (isq (C / det 1 A).toNat : Int) := by
  show rtI (det 1 A * C) / det 1 A = _
  obtain ⟨d, hd'⟩ : ∃ d : Nat, det 1 A = (d : Int) := ⟨(det 1 A).toNat, by omega⟩
  obtain ⟨c, hc'⟩ : ∃ c : Nat, C = (c : Int) := ⟨C.toNat, by omega⟩
  rw [hd', hc']
  unfold rtI
  rw [← Int.natCast_mul, Int.toNat_natCast, ← Int.natCast_ediv, ← Int.natCast_ediv, Int.toNat_natCast, wG (by omega)]
 rw [key]; omega
end Go.LA
namespace Go.Proofs.YtpfhfldehaiokaaGreat
open Go.W Go.LM Go.LA
theorem ry {n lo up gw gx cm l : Nat} {A : Mat} {C : Int} {am : Option Addr} {sl : SD} {S : Nat → SD} {F0 : Nat → Prop} {J : List (Nat × Int) → World → Prop} {w : World} (hW : Wk n A C)
  (hF : ∀ g, F0 g → g < lo ∨ up ≤ g) (hJ : ∀ pre w w', J pre w → Fr (fun g => g = gx) w w' → J pre w')
  (hY : ∀ pre e w, J pre w → (∃ suf, pre ++ [e] ++ suf = evs n A C (n - 1) fun _ => 0) → ∃ m, YieldAt Fence.wide m Tryz.prog l #[.int .i64 ((e.1 : Nat) : Int), .int .i64 e.2] w fun r w' => r = .returned (.bool true) ∧ (J (pre ++ [e]) w' ∧ Fr F0 w w'))
  (hJ0 : J [] w) (hM : WM w lo up gw gx n A C am cm sl S) (hX : Blk w gx 2 (intC n fun _ => 0)) :
  CallsR Tryz.prog 60 #[.pointer (some ⟨gw, 0, none⟩), .func (.yield l) #[] #[]] w fun _ w' => J (evs n A C (n - 1) fun _ => 0) w' ∧ Fr (fun g => F0 g ∨ g = gx) w w' := by
 have hn := hW.hn
 have hpm : W.plain am := hM.mn.plain (by rw [bU]; omega)
 have hd0 := hW.pos n (Nat.le_refl _)
 have hd1 := hW.lt n (Nat.le_refl _)
 have hC := hW.hC
 refine aE (args := [_, _]) Tryz.func60 rfl rfl ?_
 by_cases h1 : n = 1
 ·subst h1
  have hq0 : 0 ≤ C / det 1 A := Int.ediv_nonneg hC.1 (Int.le_of_lt hd0)
  have hq1 : C / det 1 A ≤ C := Int.ediv_le_self _ hC.1
  have hi := iQ (C / det 1 A).toNat
  have hi2 : isq (C / det 1 A).toNat ≤ 20 := by
   refine Nat.le_of_not_lt fun hlt => ?_
   have := Nat.mul_le_mul (show 21 ≤ isq (C / det 1 A).toNat by omega) (show 21 ≤ isq (C / det 1 A).toNat by omega)
   omega
  repeat' (first|refine bZ rfl ?_|refine aP (g := gw) rfl hM.st rfl ?_|refine eV rfl rfl rfl ?_|refine aj rfl ?_|refine aa ?_|refine ak ?_|refine ai rfl ?_|refine ah ?_|refine bc rfl ?_|refine aM rfl ?_|refine aA rfl ?_)
  refine ni 15 (late := []) (plan := [(0, none), (1, none), (2, none), (3, none), (4, none), (5, none), (6, none), (7, none), (8, none), (9, none), (10, none), (11, none), (12, some true), (13, none), (14, none)]) (fun w' => Ex w w') bD (by rfl) (by rfl) (by rfl) (by kernel_rfl) (by kernel_rfl) (Ex.refl w).drew ?_
  have hEd := (Ex.refl w).drew
  repeat' (first|refine bZ rfl ?_|refine aP (g := gw) rfl (fun _ h => hM.st.ext h) rfl ?_|refine az (j := 1) (a := am) rfl rfl hpm (by omega) ?_|refine bu (j := 1) (n := 2) (f := fun i => det i A) (a := am) rfl (fun _ h => hM.mn.ext h) (by omega) ?_|refine et rfl rfl hC.1 hd0 (by omega) ?_|refine aj rfl ?_|refine aM rfl ?_)
  have harg : (#[Value.int .i64 (C / det 1 A)] : Array Value) = #[.int .i64 (((C / det 1 A).toNat : Nat) : Int)] := by rw [Int.toNat_of_nonneg hq0]
  refine au (nV (a := (C / det 1 A).toNat) (by omega) w.drew) harg ?_
  rintro v w2 ⟨rfl, rfl⟩
  refine ⟨fun _ h => h, ?_⟩
  repeat' (first|refine cP rfl rfl (by omega) (by omega) ?_|refine ah ?_|refine aV rfl rfl (by omega) (by omega) ?_)
  have hFd : Fr (fun g => g = gx) w w.drew := hEd.fr
  obtain ⟨my, hy⟩ := hY [] (1, cntV 1 A C 0 fun _ => 0) w.drew (hJ _ _ _ hJ0 hFd) ⟨[], rfl⟩
  refine ⟨l, my, _, _, _, rfl, ?_, hy, ?_⟩
  ·show #[Value.int .i64 1, Value.int .i64 (2 * (isq (C / det 1 A).toNat : Int) + 1)] = _
   rw [← wH hW fun _ => 0]; rfl
  rintro w6 ⟨hJ6, hF6⟩
  have hF06 : Fr (fun g => F0 g ∨ g = gx) w w6 := hEd.fr.trans (hF6.mono fun g _ h => .inl h)
  repeat' (first|refine aa ?_|refine aK ?_|refine bf ?_)
  exact aak rfl ⟨hJ6, hF06⟩
 ·repeat' (first|refine bZ rfl ?_|refine aP (g := gw) rfl hM.st rfl ?_|refine eH rfl rfl (by omega) ?_|refine aj rfl ?_|refine aa ?_|refine ak ?_|refine ai rfl ?_|refine ah ?_|refine bc rfl ?_|refine aM rfl ?_|refine ao rfl ?_|refine aC ?_)
  have hEd := (Ex.refl w).drew
  have hFs : ∀ g, (F0 g ∨ g = gx) → (g < lo ∨ up ≤ g) ∨ g = gx := fun g hg => hg.imp (hF g) id
  refine bn (late := []) (plan := [(0, none), (1, none), (2, none), (3, none), (4, none), (5, none), (6, none), (7, none), (8, none), (9, none), (10, none), (11, none), (12, none), (13, none), (14, none), (15, none), (16, some true)]) (fun w' => Fr (fun g => F0 g ∨ g = gx) w w') bD (by kernel_rfl) hEd.fr ?_
  obtain ⟨k, rfl⟩ : ∃ k, n = k + 1 := ⟨n - 1, by omega⟩
  have hrC := hW.rb (Nat.le_refl (k + 1)) (fun _ => 0)
  have hr0 := hW.rs0 (Nat.le_refl (k + 1)) (x := fun _ => 0) (fun _ _ _ => rfl)
  rw [m7] at hrC hr0
  repeat' (first|refine bZ rfl ?_|refine aP (g := gw) rfl (fun _ h => (hM.fr h hFs).st) rfl ?_|refine az (j := k + 1) (a := am) rfl rfl hpm (by omega) ?_|refine bu (j := k + 1) (n := k + 1 + 1) (f := fun i => det i A) (a := am) rfl (fun _ h => (hM.fr h hFs).mn) (by omega) ?_|refine cP rfl rfl (by omega) (by omega) ?_|refine aj rfl ?_|refine bK rfl rfl (by omega) (by omega) ?_|refine aM rfl ?_)
  have hFd : Fr (fun g => g = gx) w w.drew := hEd.fr
  have hvis := rf (l := l) hW hF hJ hY k (fun _ => 0) [] w.drew (by omega) (by rw [m7]; exact hr0) ⟨[], by simp⟩ (hJ _ _ _ hJ0 hFd) (hM.fr hFd fun g h => .inr h) (hX.ext hEd)
  refine au hvis (by
   show #[Value.pointer (some ⟨gw, 0, none⟩), Value.int .i64 (((k + 1 : Nat) : Int) - 1), Value.int .i64 (det (k + 1) A * C), Value.func (.yield l) #[] #[]] = _
   rw [m7, show (((k + 1 : Nat) : Int) - 1) = (k : Int) by omega]) ?_
  rintro v w9 ⟨rfl, hJ9, hF9, _⟩
  refine ⟨fun _ h => h.trans hF9, ?_⟩
  repeat' (first|refine ah ?_)
  exact tJ rfl ⟨hJ9, hEd.fr.trans hF9⟩
theorem pf {n cap g o : Nat} {w : World} {s : Nat → SD} {H : Mat} {m B : Int} (hM : MI w (some ⟨g, o, none⟩) n n s (scM m H)) (hR : Rd n H) (hm : 1 ≤ m ∧ m ≤ 4) (hB : 0 ≤ B ∧ B ≤ 5) :
  CallsR Tryz.prog 35 #[.slice (some ⟨g, o, none⟩) n cap, .int .i64 (m * B), .bool false] w fun v w' => ∃ (sd : SD) (S : Nat → SD), v = .slice sd.a sd.len sd.cap ∧ LiS w' w.heap.size n sd S (cols n (scM m H) (m * B) (n - 1) (fun _ => 0) true) ∧ Ex w w' := by
 have hW := hR.wk hm hB
 have hn := hR.hn
 have hent : ∀ i j, i < n → j < n → Lb 2 (scM m H i j) := fun i j hi hj => bO (by have := hR.entk hm hi hj; omega) (by decide)
 have hbm : ∀ k i j, k < n → i < n - k → j < n - k → fits64 (Go.LA.bm (scM m H) k (k + i) (k + j)) := fun k i j hk hi hj => by
  have := hR.bmk hm hk (i := k + i) (j := k + j) (by omega) (by omega)
  unfold fits64; omega
 have hC := hW.hC
 generalize hAe : scM m H = A at *
 generalize hCe : m * B = C at *
 refine aE (args := [_, _, _]) Tryz.func35 rfl rfl ?_
 repeat' (first|refine ak ?_|refine ai rfl ?_)
 refine j4 (v := .bool false) rfl rfl (fun ge w1 hn1 => tvv ?_)
 have hE1 := hn1.ex
 have hb1 := hn1.blk
 have o1 := hn1.lo
 by_cases hn1' : n = 1
 ·subst hn1'
  repeat' (first|refine eV rfl rfl (by omega) ?_|refine aj rfl ?_|refine aa ?_|refine ak ?_|refine ai rfl ?_|refine ah ?_|refine bc rfl ?_|refine aA rfl ?_)
  obtain ⟨p, d, e1, hpp, hS⟩ := (hM.ext hE1).get (i := 0) (by omega) (by omega)
  have hrow : ∀ {w' : World}, Ex w1 w' → Sl w' p (intC 1 (A 0)) := fun he => by have := (((hM.ext hE1).ext he).row 0 (by omega)).2; rw [e1] at this; exact this
  refine bn (late := []) (plan := [(0, none), (1, none), (2, none), (3, none), (4, none), (5, none), (6, none), (7, some true), (8, none)]) (fun w' => Ex w1 w') bD (by kernel_rfl) (Ex.refl w1).drew ?_
  have hEd := (Ex.refl w1).drew
  repeat' (first|refine az (j := 0) (a := some ⟨g, o, none⟩) rfl rfl ⟨_, _, rfl⟩ (by omega) ?_|refine aZ (j := 0) (a := some ⟨g, o, none⟩) (n := 1) (s := s) rfl (fun _ h => ((hM.ext hE1).ext h).top) (by omega) e1 ?_|refine az (j := 0) (a := p) rfl rfl hpp (by omega) ?_|refine bu (j := 0) (n := 1) (f := A 0) (a := p) rfl (fun _ h => hrow h) (by omega) ?_|refine aP (g := ge) rfl (fun _ h => hb1.ext h) rfl ?_|refine aj rfl ?_)
  refine au (mT (w := w1.drew) hW) rfl ?_
  rintro v w2 ⟨sd, S, rfl, hL, hE2⟩
  refine ⟨fun _ h => h.trans hE2, ?_⟩
  repeat' (first|refine aj rfl ?_|refine aa ?_|refine ah ?_|refine aK ?_|refine bf ?_)
  have zd : w1.drew.heap.size = w1.heap.size := rfl
  have z1 := hE1.size
  refine bo rfl (rt rfl) ⟨sd, S, rfl, ⟨TopG.low hL.1 (by omega), fun i hi => ?_⟩, hE1.trans (hEd.trans hE2)⟩
  obtain ⟨r1, vg, r2, r3, r4⟩ := hL.2 i hi
  exact ⟨r1, vg, r2, by omega, r4⟩
 ·repeat' (first|refine eH rfl rfl (by omega) ?_|refine aj rfl ?_|refine aa ?_|refine ak ?_|refine ai rfl ?_|refine ah ?_|refine bc rfl ?_|refine ao rfl ?_|refine aC ?_)
  refine au (oY (cap := cap) (hM.ext hE1) (by omega) hent (fun k hk => by have := hW.pos (k + 1) (by omega); omega) hbm) rfl ?_
  rintro v w2 ⟨am, cm, sl, SS, rfl, hmn, hla, hrw, hE2⟩
  refine tvv ?_
  skip
  refine aH (fun gf w3 hn3 => tvv ?_)
  refine aF (n := 2) (vs := [.slice am ((n + 1 : Nat)) cm, .slice sl.a (n : Nat) sl.cap]) rfl rfl rfl rfl hn3.blk rfl (fun w4 hc4 hb4 => tvv ?_)
  have z2 := hE2.size
  have o3 := hn3.lo
  have b3 := hn3.blk.lt
  have z4 := hc4.size
  have hE24 : Ex w2 w4 := hn3.ex.chg hc4 o3
  have hFM : FM w4 gf n A am cm sl SS := ⟨hb4, hmn.ext hE24, hla.ext hE24, fun k hk => ⟨(hrw k hk).1, (hrw k hk).2.ext hE24⟩⟩
  repeat' (first|refine aj rfl ?_|refine aa ?_|refine ak ?_|refine ai rfl ?_|refine ah ?_)
  refine eF (n := n) rfl rfl (by omega) (by omega) (fun gx w5 hn5 => tvv ?_)
  refine aH (fun gxb w6 hn6 => tvv ?_)
  refine cD (v := .slice (some ⟨gx, 0, none⟩) n n) rfl rfl rfl hn6.blk rfl (fun w7 hc7 hb7 => tvv ?_)
  repeat' (first|refine aa ?_|refine ak ?_|refine ai rfl ?_|refine ah ?_)
  refine aH (fun glb w8 hn8 => tvv ?_)
  repeat' (first|refine aa ?_|refine ak ?_|refine ai rfl ?_|refine ah ?_)
  refine aH (fun gsb w9 hn9 => tvv ?_)
  repeat' (first|refine eU ?_|refine aa ?_|refine ak ?_|refine ai rfl ?_|refine ah ?_)
  refine cD (v := .func (.func 69) #[] #[.pointer (some ⟨gf, 0, none⟩), .pointer (some ⟨gxb, 0, none⟩), .pointer (some ⟨gsb, 0, none⟩), .pointer (some ⟨ge, 0, none⟩), .pointer (some ⟨glb, 0, none⟩)]) rfl rfl rfl hn9.blk rfl (fun w10 hc10 hb10 => tvv ?_)
  have b1 := hb1.lt
  have o5 := hn5.lo
  have o6 := hn6.lo
  have o8 := hn8.lo
  have o9 := hn9.lo
  have b5 := hn5.blk.lt
  have b6 := hn6.blk.lt
  have b8 := hn8.blk.lt
  have b9 := hn9.blk.lt
  have z5 := hn5.ex.size
  have z6 := hn6.ex.size
  have z7 := hc7.size
  have z8 := hn8.ex.size
  have z9 := hn9.ex.size
  have z10 := hc10.size
  have hE57 : Ex w5 w7 := hn6.ex.chg hc7 o6
  have hE47 : Ex w4 w7 := hn5.ex.trans hE57
  have hE8a : Ex w8 w10 := hn9.ex.chg hc10 o9
  have hE7a : Ex w7 w10 := hn8.ex.trans hE8a
  have hE4a : Ex w4 w10 := hE47.trans hE7a
  have hE1a : Ex w1 w10 := hE2.trans (hE24.trans hE4a)
  obtain ⟨x0, hx0⟩ : ∃ x0 : Vec, (fun _ => 0) = x0 := ⟨_, rfl⟩
  have hx0z : ∀ j, x0 j = 0 := fun j => by rw [← hx0]
  have hrn : 0 ≤ rs n A C (n - 1 + 1) x0 := hW.rs0 (by omega) fun _ _ _ => hx0z _
  have hCS : CS w4 w10 w10.heap.size n gf gx gxb gsb ge glb [] x0 := by
   refine ⟨hE4a, Nat.le_refl _, ?_, hb7.ext hE7a, hb10, hb1.ext hE1a, sd0, fun _ => sd0, hn8.blk.ext hE8a, TopG.nil _ _ _ _, fun i hi => absurd hi (Nat.not_lt_zero i)⟩
   rw [← hx0]; exact hn5.blk.ext (hE57.trans hE7a)
  have hN : CN w4 w10.heap.size gx gxb gsb ge glb := ⟨by omega, by omega, by omega, by omega⟩
  have hlen := hW.cols_len (n - 1) x0 true (by omega) hrn fun _ j _ _ => hx0z j
  have hlen2 : (cols n A C (n - 1) x0 true).length ≤ 10000 := by
   have : 19 ^ (n - 1 + 1) ≤ 19 ^ 3 := Nat.pow_le_pow_right (by decide) (by omega)
   omega
  have hrt : rs n A C (n - 1 + 1) x0 = det n A * C := by rw [show n - 1 + 1 = n by omega]; exact m7 x0
  have hrb := hW.rb (k := n - 1 + 1) (by omega) x0
  rw [hrt] at hrb hrn
  rw [hx0]
  repeat' (first|refine aa ?_|refine ak ?_|refine ah ?_)
  have hEd := (Ex.refl w10).drew
  have hrec := rn (LF := cols n A C (n - 1) x0 true) hW hFM hN hlen2 (n - 1) x0 true [] w10.drew (by omega) (by rw [hrt]; exact hrn) (fun _ j _ _ => hx0z j) ⟨[], by simp⟩ (hCS.ext hEd)
  rw [hrt] at hrec
  have hM10 := hFM.ext hE4a
  have hpm : W.plain am := hM10.mn.plain (by rw [bU]; omega)
  refine uU (late := [10]) (plan := [(0, none), (1, none), (2, none), (3, none), (4, none), (5, none), (6, none), (7, none), (8, none), (9, none), (10, some false)]) (fun w' => Ex w10 w') bD (by kernel_rfl) hEd ?_
  repeat' (first|refine aP (g := gsb) rfl (fun _ h => hCS.hsb.ext h) rfl ?_|refine bK rfl rfl (by omega) (by omega) ?_|refine aP (g := gf) rfl (fun _ h => (hM10.ext h).st) rfl ?_|refine az (j := n) (a := am) rfl rfl hpm (by omega) ?_|refine bu (j := n) (n := n + 1) (f := fun i => det i A) (a := am) rfl (fun _ h => (hM10.ext h).mn) (by omega) ?_|refine cP rfl rfl (by omega) (by omega) ?_|refine aj rfl ?_|refine aM rfl ?_)
  refine fh rfl hrec (by
   show #[] ++ #[Value.int .i64 ((n : Int) - 1), Value.int .i64 (det n A * C), Value.bool true] ++ #[.pointer (some ⟨gf, 0, none⟩), .pointer (some ⟨gxb, 0, none⟩), .pointer (some ⟨gsb, 0, none⟩), .pointer (some ⟨ge, 0, none⟩), .pointer (some ⟨glb, 0, none⟩)] = _
   rw [show (n : Int) - 1 = ((n - 1 : Nat) : Int) by omega]) ?_
  rintro v w11 ⟨y, hC11, _⟩
  rw [List.nil_append] at hC11
  refine ⟨fun h => (nomatch h), ?_⟩
  obtain ⟨sd, S, hl1, hl2, hl3⟩ := hC11.li
  repeat' (first|refine aP (g := glb) rfl hl1 rfl ?_|refine aj rfl ?_|refine aa ?_|refine ak ?_|refine ai rfl ?_|refine ah ?_|refine aK ?_)
  have z1 := hE1.size
  refine bo rfl (rt rfl) ⟨sd, S, rfl, ⟨TopG.low hl2 (by omega), fun i hi => ?_⟩, hE1.trans (hE2.trans (hE24.trans hC11.ex))⟩
  obtain ⟨r1, vg, r2, r3, r4⟩ := hl3 i hi
  exact ⟨r1, vg, r2, by omega, r4⟩
end Go.Proofs.YtpfhfldehaiokaaGreat
namespace Go.W
open Go.RowKit (Below)
def CWI (l m : Nat) (P : Program) (n : Nat) (c : Code) (Q : Exit → Env → World → Prop) (ρ : Env) (w : World) : Prop :=
 ∀ a, Rel n a ρ → c.wpIn (Fence.wide.inRound l) m P (lift n Q) a w
section
variable {l m : Nat} {P : Program} {n : Nat} {Q : Exit → Env → World → Prop} {ρ : Env} {w : World}
theorem lB {x y : Code} (h : CWI l m P n x (thenE (CWI l m P n y Q) Q) ρ w) : CWI l m P n (.seq x y) Q ρ w := fun a hr =>
 wpIn_seq (wpIn_mono (h a hr) fun e a w q => by
  cases e <;> simp only [lift, Exit.then] at q ⊢ <;> unfold thenE at q
  case normal => obtain ⟨ρ, hr, q⟩ := q; exact q a hr
  all_goals exact q)
theorem vB (h : Q .normal ρ w) : CWI l m P n .skip Q ρ w := fun _ hr => wpIn_skip ⟨ρ, hr, h⟩
theorem tu {id : Nat} {c : Code} (h : CWI l m P n c (fun e ρ w => e = .normal ∧ Q .normal ρ w) ρ w) : CWI l m P n (.block id c) Q ρ w := fun a hr =>
 wpIn_block (wpIn_mono (h a hr) fun e a w q => by
  cases e <;> simp only [lift, Exit.inBlock] at q ⊢
  case normal => obtain ⟨ρ, hr, q⟩ := q; exact ⟨ρ, hr, q.2⟩
  all_goals (obtain ⟨ρ, hr, q⟩ := q; cases q.1))
theorem m8 {c : Operand} {x y : Code} (hc : ev ρ c = .bool false) (h : CWI l m P n y Q ρ w) : CWI l m P n (.cond c x y) Q ρ w := fun a hr =>
 wpIn_cond_split (t := false) (by rw [hr.ev]; exact hc) (fun h => by cases h) (fun _ => h a hr)
theorem fR {id : Nat} {L : List Oper} (hd : L.all (dstOK n) = true) (h : RR P (fun _ => True) L (Q .normal) (L.map (·, some false)) ρ w) : CWI l m P n (.region id L.toArray false) Q ρ w := fun _a hr =>
 nX (re l) hr.d hd (RR.imp (fun ρ _w hq _a hr => ⟨ρ, hr.rel, hq⟩) h)
end
theorem jz (w : World) (l : Nat) (o : Obj) : Fr (fun g => g = l) w (w.putObj l o) :=
 ⟨rfl, rfl, rfl, by simp, fun _ _ hn => World.putObj_heap_other hn⟩
theorem qp {P : Program} {n l m : Nat} {rec : Loop} {W : World} {vals : Array Value} {ρ' : Env} {R : World → Prop} (hL : W.heap[l]? = some (.loop rec)) (hst : rec.state = .ready) (hpe : rec.pending = none) (hps : vals.size = rec.params.size)
  (hρ : Rel n { tmps := (rec.params.zip vals).foldl (fun t (p, v) => t.setIfInBounds p v) rec.tmps, defers := [] } ρ')
  (h : ∀ busy : Loop, CWI l m P n rec.assign (fun e ρ1 w1 => e = .normal ∧ w1 = W ∧ CWI l m P n rec.body (fun e _ w2 => e = .normal ∧ w2.heap[l]? = some (.loop busy) ∧ R (w2.putObj l (.loop rec))) ρ1 (W.putObj l (.loop busy))) ρ' W) :
  YieldAt Fence.wide m P l vals W fun e w' => e = .returned (.bool true) ∧ R w' := by
 refine ⟨rec.fn, _, rec.assign, rec.body, run_yield hL hps, roundIn_of_wpIn trivial (wpIn_mono (h { rec with state := .busy } _ hρ) fun e a w q => ?_)⟩
 cases e <;> simp only [lift, Exit.then] at q ⊢
 case normal =>
  obtain ⟨ρ1, hr1, _, rfl, hb⟩ := q
  refine ⟨_, run_beginRound hL hst, wpIn_mono (hb a hr1) fun e a w q => ?_⟩
  cases e <;> simp only [lift, roundPost] at q ⊢
  case normal =>
   obtain ⟨ρ2, _, _, hl2, hR⟩ := q
   refine ⟨_, _, run_endRound none hl2, rfl, ?_⟩
   have e : ({ ({ rec with state := .busy } : Loop) with state := if (none : Option Code).isNone then .ready else .done, pending := none } : Loop) = rec := by
    cases rec
    simp only at hst hpe
    subst hst hpe
    rfl
   rw [e]; exact hR
  all_goals (obtain ⟨_, _, q, _⟩ := q; cases q)
 all_goals (obtain ⟨_, _, q, _⟩ := q; cases q)
theorem wI {n : Nat} {a : Act} {ρ : Env} (hr : Rel n a ρ) {p1 p2 : Nat} {v1 v2 : Value} {ps : Array Tmp} {tm : Array Value} (hps : ps = #[p1, p2]) (htm : tm = a.tmps) (h1 : Nat.blt p1 n = true) (h2 : Nat.blt p2 n = true) :
  Rel n { tmps := (ps.zip #[v1, v2]).foldl (fun t (p, v) => t.setIfInBounds p v) tm, defers := [] } (upd (upd ρ p1 v1) p2 v2) := by
 subst hps htm
 have h := (hr.put (Nat.blt_eq ▸ h1 : p1 < n) v1).put (Nat.blt_eq ▸ h2 : p2 < n) v2
 have e : ((#[p1, p2] : Array Tmp).zip #[v1, v2]).foldl (fun t (p, v) => t.setIfInBounds p v) a.tmps = ((a.put (some p1) v1).put (some p2) v2).tmps := by simp [Act.put]
 rw [e]
 exact ⟨h.size, h.get, rfl⟩
theorem wJ {P : Program} {n gf : Nat} [hF : Fun P gf] {g : Operand} {ps : Array Tmp} {assign body : Code} {Q : Exit → Act → World → Prop} {a : Act} {ρ : Env} {w : World} {first cap : Array Value} (hr : Rel n a ρ) (hg : ev ρ g = .func (.func gf) first cap)
  (h : ∀ (rec : Loop) (W1 : World), rec.state = .ready → rec.pending = none → rec.params = ps → rec.assign = assign → rec.body = body → rec.tmps = a.tmps → W1 = (w.alloc (.deferred (some []))).alloc (.loop rec) →
   CallsR P gf (first ++ #[.func (.yield (w.heap.size + 1)) #[] #[]] ++ cap) W1 fun _ w3 => w3.heap[w.heap.size + 1]? = some (.loop rec) ∧ ∀ w4, w4 = w3.putObj (w.heap.size + 1) (.loop { rec with state := .exhausted }) → Q .normal { a with defers := [{ target := .collected w.heap.size, args := #[] }] } w4) :
  (Code.rangeFunc g ps assign body).wp P Q a w := by
 refine (wpIn_wide (n := 0)).1 (wpIn_rangeFunc fun fn _ => ?_)
 have hev : a.eval g = .func (.func gf) first cap := by rw [hr.ev]; exact hg
 obtain ⟨rec, hrec⟩ : ∃ rec : Loop, rec = { state := .ready, pending := none, fn, tmps := a.tmps, params := ps, assign, body, defers := w.heap.size } := ⟨_, rfl⟩
 obtain ⟨W1, hW1⟩ : ∃ W1, (w.alloc (.deferred (some []))).alloc (.loop rec) = W1 := ⟨_, rfl⟩
 refine ⟨w.heap.size + 1, [{ target := .collected w.heap.size, args := #[] }], W1, { target := .fn (.func gf) cap, args := first ++ #[.func (.yield (w.heap.size + 1)) #[] #[]] }, W1, gf,
  first ++ #[.func (.yield (w.heap.size + 1)) #[] #[]] ++ cap, W1, ?_, ?_, fun _ _ => trivial, ?_, fun hd => (by cases hd), ?_⟩
 ·rw [← hW1, hrec]; exact run_enterLoop_outer _ _ _ _ _
 ·simp only [resolve, hev]
  simp [go_sem]
 ·have := fun args w => fg (P := P) (f := gf) (w := w) args
  simp [invoke, go_sem, this]
 ·have hc := h rec W1 (by rw [hrec]) (by rw [hrec]) (by rw [hrec]) (by rw [hrec]) (by rw [hrec]) (by rw [hrec]) hW1.symm
  refine callsIn_wide.2 (Calls.mono hc ?_)
  rintro e w3 ⟨v, rfl, hl, hq⟩
  refine ⟨none, _, by have := run_endLoop (P := P) hl (by rw [hrec]; simp); rw [show rec.pending = none by rw [hrec]] at this; exact this, ?_⟩
  have := hq _ rfl
  have hpe : rec.pending = none := by rw [hrec]
  rw [hpe] at this
  rw [show a.defers = [] from hr.defers]
  exact this
theorem zz {P : Program} {n : Nat} {x y : Code} {Q : Exit → Act → World → Prop} {ρ : Env} {w : World} (h : ∀ a, Rel n a ρ → x.wp P (Exit.then (y.wp P Q) Q) a w) : ∀ a, Rel n a ρ → (Code.seq x y).wp P Q a w := fun a hr => wp_seq (h a hr)
theorem kx {P : Program} {n : Nat} {y : Code} {Q : Exit → Act → World → Prop} {ρ : Env} {w : World} (h : ∀ a, Rel n a ρ → y.wp P Q a w) : KX P n y Q .normal ρ w := ⟨rfl, h⟩
def Cut (I : Env → World → Prop) : Exit → Env → World → Prop := fun e ρ w => e = .normal ∧ I ρ w
theorem cut {I : Env → World → Prop} {ρ : Env} {w : World} (h : I ρ w) : Cut I .normal ρ w := ⟨rfl, h⟩
theorem xQ {P : Program} {n : Nat} {x y : Code} {Q : Exit → Act → World → Prop} {ρ : Env} {w : World} (I : Env → World → Prop) (h1 : CW P n x (Cut I) ρ w) (h2 : ∀ ρ w, I ρ w → ∀ a, Rel n a ρ → y.wp P Q a w) :
  ∀ a, Rel n a ρ → (Code.seq x y).wp P Q a w :=
 kr (CW.mono h1 fun _e ρ w q => ⟨q.1, h2 ρ w q.2⟩)
theorem kU {P : Program} {f : FuncId} {fn : Func} {c : Code} {args : List Value} {w : World} {R : Value → World → Prop}
  (hf : P.funcs[f]? = some fn) (hb : fn.body = some c) (hn : Nat.ble args.length fn.ntmps = true)
  (h : ∀ a, Rel fn.ntmps a (envOf args) → c.wp P (bodyPostM Fence.wide 0 P fn fun e w' => ∃ v, e = .returned v ∧ R v w') a w) : CallsR P f args.toArray w R := by
 have hn' : args.length ≤ fn.ntmps := Nat.le_of_ble_eq_true hn
 refine callsIn_wide.1 (callsIn_of_wp_marks (n := 0) hf hb trivial (wpIn_wide.2 (h _ ⟨by simp; omega, fun t => ?_, rfl⟩)))
 simp only [envOf, Array.getD_eq_getD_getElem?, List.getD_eq_getElem?_getD]
 rw [Array.getElem?_append]
 split
 ·simp
 ·rename_i h
  simp at h
  rw [List.getElem?_eq_none h]
  simp [Array.getElem?_replicate]
  split <;> rfl
theorem rcs {P : Program} {ρ : Env} {w : World} {t T1 g Tb : Nat} {v : Value} [Scal P T1] (hp : ρ t = .pointer (some ⟨g, 0, none⟩)) (hb : Blk w g Tb [v]) : ResV P w ρ (.cell t T1) v := by
 unfold ResV
 simp only [hp, asAddr]
 have := kw (P := P) (T := T1) (hb.cell (j := 0) (by simp))
 simpa using this
theorem tv {P : Program} {fn : Func} {n D : Nat} {ρ : Env} {a : Act} {w : World} {R : Value → World → Prop} (hr : RelD [{ target := .collected D, args := #[] }] n a ρ) (hn : fn.ntmps = n) (hD : w.heap[D]? = some (.deferred (some [])))
  (h : fnPost P fn R .ret ρ (w.putObj D (.deferred none))) : bodyPostM Fence.wide 0 P fn (fun e w' => ∃ v, e = .returned v ∧ R v w') .ret a w := by
 obtain ⟨v, h1, h2⟩ := h
 show LeavesInM _ _ _ _ _ _ a.defers _ _
 rw [hr.2]
 refine ⟨fun e => (by cases e), .inl ⟨D, _, rfl, run_takeDeferred hD, ?_⟩⟩
 exact ⟨v, h1 { a with defers := [] } (hn ▸ hr.1), v, rfl, h2⟩
end Go.W
