import Derived.Test.YtppipmkpmmdcjaaGreatA08
namespace Go.Proofs.YtppipmkpmmdcjaaGreat
open Go.W Go.LM Go.LA
theorem Ent.sharp {K K' : Nat} {w : World} {v : Value} {z : Int} (h : Ent true K w v z) (hz : Lb K' z) : Ent true K' w v z := Ent.of (h.c rfl) hz
theorem MO.sharp {K K' lo g r c : Nat} {w : World} {gs cap : Nat → Nat} {F : Nat → Nat → Int} (h : MO true K w lo g r c gs cap F) (hb : ∀ i j, i < r → j < c → Lb K' (F i j)) : MO true K' w lo g r c gs cap F := by
 refine ⟨h.low, h.top, fun i hi => ?_, h.off, h.inj⟩
 obtain ⟨hh, h1, h2⟩ := (h.row i hi).ex
 exact ⟨(h.row i hi).low, (h.row i hi).le, hh, h1, fun j hj => (h2 j hj).sharp (hb i j hi hj)⟩
theorem tH {P : Program} {S : World → Prop} {ops : List Oper} {K : Env → World → Prop} {rest : List (Oper × Option Bool)} {ρ : Env} {w : World} {b : Option Bool} {d : Nat} {T T' : TypeId} {pos : String} {af : Array Edge} {x : Operand} {m m' : Int} (hx : ev ρ x = .int .i64 m) (hm : m' = -m) (h1 : -9223372036854775807 ≤ m) (h2 : m ≤ 9223372036854775807)
  (h : RR P S ops K rest (upd ρ d (.int .i64 m')) w) : RR P S ops K ((⟨some d, .unOp .neg T' x, T, pos, af, none⟩, b) :: rest) ρ w :=
 oR hx (by rw [d5 (by omega) (by omega), ← hm]; exact h)
def flT (n : Nat) (A : Mat) (k : Nat) : Int := tr n (mm n A (flP n A k))
def flC (n : Nat) (A : Mat) (k : Nat) : Int := flT n A k / (-((k : Int) + 1))
theorem se {n K : Nat} {A : Mat} (hA : ∀ r c, r < n → c < n → Lb K (A r c)) (hn : n ≤ 16) : ∀ k i j, i < n → j < n → Lb (1 + k * (K + 3)) (flP n A k i j)
 | 0, i, j, _, _ => by
  show Lb _ (idM i j)
  unfold idM; split <;> exact bM (by decide) (by omega)
 | k + 1, i, j, hi, hj => by
  have ih := se hA hn k
  have hm : ∀ i j, i < n → j < n → Lb (K + (1 + k * (K + 3)) + 1) (mm n A (flP n A k) i j) := fun i j hi hj => kg (fun l hl => hA i l hi hl) (fun l hl => ih l j hl hj) (by omega)
  have ht : Lb (K + (1 + k * (K + 3)) + 1 + 1) (tr n (mm n A (flP n A k))) := Lb.sm (fun l hl => hm l l hl hl) (by omega)
  have hid : ∀ z : Int, Lb (K + (1 + k * (K + 3)) + 1 + 1) z → Lb (K + (1 + k * (K + 3)) + 1 + 1) (z * idM i j) := fun z hz => by
   unfold idM; split
   ·rwa [Int.mul_one]
   ·rw [Int.mul_zero]; exact cc
  have := ((hm i j hi hj).mono (e' := K + (1 + k * (K + 3)) + 1 + 1) (by omega)).add (hid _ (ht.div (-((k : Int) + 1))))
  refine Lb.mono this ?_
  rw [Nat.succ_mul]; omega
theorem tI {n K : Nat} {A : Mat} (hA : ∀ r c, r < n → c < n → Lb K (A r c)) (hn : n ≤ 16) {k i j : Nat} (hk : k < n) (hi : i < n) (hj : j < n) : Lb (16 * K + 64) (flP n A k i j) := by
 refine (se hA hn k i j hi hj).mono ?_
 have : k * (K + 3) ≤ 15 * (K + 3) := Nat.mul_le_mul_right _ (by omega)
 omega
def dgM (P : Mat) (c : Int) (i : Nat) : Mat := fun a b => if a = b ∧ a < i then P a b + c else P a b
theorem tJ (P : Mat) (c : Int) (i : Nat) (a b : Nat) : setM (dgM P c i) i i (P i i + c) a b = dgM P c (i + 1) a b := by
 unfold setM dgM
 by_cases h : a = i ∧ b = i
 ·obtain ⟨rfl, rfl⟩ := h
  rw [if_pos ⟨rfl, rfl⟩, if_pos ⟨rfl, Nat.lt_succ_self _⟩]
 ·rw [if_neg h]
  by_cases h' : a = b ∧ a < i
  ·rw [if_pos h', if_pos ⟨h'.1, by omega⟩]
  ·rw [if_neg h', if_neg (by omega)]
set_option maxHeartbeats 4000000 in
theorem lD {cn : Bool} {K n cap : Nat} {w : World} {a : Option Addr} {s : Nat → SD} {A : Mat} (hM : MX cn K w a n n s A) (hn : 1 ≤ n ∧ n ≤ 16) (hK : 17 * K + 70 ≤ 4398046511104) :
  CallsR Tryz.prog 95 #[.slice a n cap] w (RetMO (16 * K + 64) w n n fun i j => Go.LA.sgn (n + 1) * flP n A (n - 1) i j) := by
 have hA : ∀ r c, r < n → c < n → Lb K (A r c) := fun r c hr hc => hM.lb hr hc
 refine aH (args := [_]) Tryz.func95 rfl rfl ?_
 repeat' (first|refine ai rfl ?_|refine aa ?_|refine aj ?_|refine ah rfl ?_|refine ae ?_|refine bh rfl ?_)
 refine av (cG (z := 1) (by omega) (by omega) _) rfl ?_
 rintro v w1 ⟨hI1, hE1⟩
 refine ⟨fun _ _ => trivial, ?_⟩
 refine av (og (K := 1) (hI1.k (by decide)) (by omega)) rfl ?_
 rintro v w2 ⟨g, gs, cp, rfl, hO2, hE2⟩
 refine ⟨fun _ _ => trivial, ?_⟩
 have hE02 := hE1.trans hE2
 have hO2' := (hO2.mono hE1.size).up (K' := 16 * K + 64) (by omega)
 repeat' (first|refine ai rfl ?_|refine aa ?_|refine aj ?_|refine ah rfl ?_|refine ae ?_|refine aA ?_)
 refine aY (ι := Nat × Nat × (Nat → Nat) × (Nat → Nat)) [4, 5, 6, 7, 8, 9, 10, 11, 17, 18, 19, 20, 21, 22, 23, 24, 25, 26, 27, 28, 29, 30, 31, 32, 33, 34, 35, 36, 37, 38, 39, 40, 41, 42, 43, 44, 45, 46, 47, 48, 49, 50, 51, 52, 53, 54, 55, 56, 57, 58, 59, 60, 61, 62, 63, 64, 65, 66, 67, 68, 69, 70, 71] (fun t => [(5, .int .i64 ((t.1 + 1 : Nat) : Int)), (4, .slice (some ⟨t.2.1, 0, none⟩) n n)])
  (fun t w' => t.1 < n ∧ Ex w w' ∧ MO true (16 * K + 64) w' w.heap.size t.2.1 n n t.2.2.1 t.2.2.2 (flP n A t.1)) (fun t => n - t.1)
  (0, g, gs, cp) ⟨rfl, rfl, trivial⟩ ⟨by omega, hE02, hO2'⟩ ?_
 clear hO2 hO2' hE2 hI1
 rintro ⟨k, g, gs, cp⟩ ξ w3 ⟨hk, hE3, hO3⟩
 simp only at hk hO3
 show CW _ _ _ _ (over [(5, .int .i64 ((k + 1 : Nat) : Int)), (4, .slice (some ⟨g, 0, none⟩) n n)] _) w3
 rcases Nat.lt_or_ge (k + 1) n with hkn | hkn
 ·repeat' (first|refine bC rfl rfl (by omega) ?_|refine ai rfl ?_|refine aa ?_|refine aj ?_|refine ah rfl ?_|refine ae ?_|refine aD rfl ?_|refine aA ?_|refine aF ?_)
  refine av (mr (hM.ext hE3) hO3.mx hn hn hn (by omega)) rfl ?_
  rintro v w4 ⟨_, rfl, g4, gs4, cp4, rfl, hO4, hE4⟩
  refine ⟨fun _ _ => trivial, ?_⟩
  repeat' (first|refine cL (cs := intL false none 0 0) rfl ?_|refine ai rfl ?_|refine aa ?_|refine aj ?_|refine ah rfl ?_|refine ae ?_)
  refine aB (fun g5 w5 hn5 => ⟨fun _ _ => trivial, ?_⟩)
  have hb5 : Blk w5 g5 33 (intL false none 0 0) := hn5.blk
  refine ax (n := 2) (vs := ih0.cells) rfl rfl rfl rfl hb5 rfl (fun w6 hc6 hb6 => ⟨fun _ _ => trivial, ?_⟩)
  have lo5 := hn5.lo
  have s3 := hE3.size
  have s4 := hE4.size
  have s5 := hn5.ex.size
  have hO6 := ((hO4.mono (lo' := w.heap.size) hE3.size).ext hn5.ex).gbN hb5 (aI _ _ _ _) (bG hc6) (by have := hO4.lt; omega) (fun m hm => by have := (hO4.row m hm).lt; omega)
  have hg5 : ∀ m, m < n → gs4 m ≠ g5 := fun m hm => by have := (hO4.row m hm).lt; omega
  have hE6 := ((hE3.trans hE4).trans hn5.ex).chg hc6 (by omega)
  have hlb : ∀ i j, i < n → j < n → Lb (K + (16 * K + 64) + 1) (mm n A (flP n A k) i j) := fun i j hi hj => hO4.mx.lb hi hj
  repeat' (first|refine ai rfl ?_|refine aa ?_|refine aj ?_|refine ah rfl ?_|refine ae ?_|refine aA ?_)
  have hne4 : g4 ≠ g5 := by have := hO4.lt; omega
  have hnI : NoI ih0.cells := aI _ _ _ _
  have hlb6 : ∀ m, Lb (K + (16 * K + 64) + 1 + 1) (sm (min m n) fun i => mm n A (flP n A k) i i) := fun m => Lb.sm (fun l hl => hlb l l (by omega) (by omega)) (by omega)
  refine aY (ι := Nat × IH) [7, 30, 31, 32, 33, 34, 35, 36, 37, 38, 39, 40, 41, 42] (fun t => [(30, .int .i64 (t.1 : Int))])
   (fun t w' => t.1 ≤ n ∧ w6.grownBy w' (some g5) ∧ Blk w' g5 33 t.2.cells ∧ IntC 0 w' t.2.val (sm t.1 fun i => mm n A (flP n A k) i i)) (fun t => n - t.1)
   (0, ih0) ⟨rfl, trivial⟩ ⟨by omega, bG (Chg.refl _ _), hb6, ms _ _⟩ ?_
  rintro ⟨i, x⟩ ξ2 w7 ⟨hi, hG7, hx7, hI7⟩
  simp only at hi hx7 hI7
  show CW _ _ _ _ (over [(30, .int .i64 (i : Int))] _) w7
  have hO7 := hO6.gbN hb6 hnI hG7 hne4 hg5
  have hE7 : Ex w w7 := hE6.gb hG7 (fun k e => by cases e; omega)
  rcases Nat.lt_or_ge i n with hin | hin
  ·obtain ⟨hh, hbi, hci, hEi⟩ := hO7.get hin
   have hEd : Ex w7 w7.drew := (Ex.refl _).drew
   repeat' (first|refine bC rfl rfl (by omega) ?_|refine aa ?_|refine aj ?_|refine ah rfl ?_|refine ae ?_|refine aD rfl ?_|refine aF ?_)
   refine aA ?_
   repeat' (first|refine ai rfl ?_|refine aa ?_|refine aj ?_|refine ah rfl ?_|refine ae ?_)
   refine bi (late := [9]) (plan := [(0, none), (1, none), (2, none), (3, none), (4, none), (5, none), (6, none), (7, none), (8, some true), (9, some false)]) (fun w' => Ex w7 w') bB (by kernel_rfl) hEd ?_
   repeat' (first|refine aN (g := g5) rfl (fun _ h => hx7.ext h) rfl ?_|refine aC (j := i) (a := some ⟨g4, 0, none⟩) rfl rfl ⟨_, _, rfl⟩ (by omega) ?_|refine aU (j := i) (a := some ⟨g4, 0, none⟩) (n := n) (s := fun k => ⟨some ⟨gs4 k, 0, none⟩, n, cp4 k⟩) rfl (fun _ h => (hO7.ext h).top.sl) (by omega) rfl ?_|refine aT (j := i) (a := some ⟨gs4 i, 0, none⟩) rfl rfl ⟨_, _, rfl⟩ (by omega) ?_|refine bu (j := i) (a := some ⟨gs4 i, 0, none⟩) rfl (fun _ h => (hbi.ext h).sl) ⟨_, _, rfl⟩ (by omega) ?_|refine ai rfl ?_)
   have hlbi := hlb6 i
   rw [Nat.min_eq_left (by omega)] at hlbi
   refine av (eg ((hI7.ext hEd).k hlbi) ((hEi i hin).ext hEd).k (by omega) (by omega)) rfl ?_
   rintro v w8 ⟨hI8, hE8⟩
   refine ⟨fun _ h => h.trans hE8, ?_⟩
   obtain ⟨y, rfl⟩ := hI8.ih
   have hE78 := hEd.trans hE8
   refine ax (n := 2) (vs := y.cells) rfl rfl rfl rfl (hx7.ext hE78) rfl (fun w9 hc9 hb9 => ⟨fun h => (nomatch h), ?_⟩)
   repeat' (first|refine ai rfl ?_|refine aa ?_|refine ah rfl ?_|refine ae ?_|refine aZ rfl rfl (by omega) (by omega) ?_|refine aK ?_)
   exact ⟨⟨(i + 1, y), ⟨hin, bL (bL hG7 (lA hE78) (fun k e => (nomatch e))) (bG hc9) (fun k e => .inl e), hb9, (hI8.gbN (hx7.ext hE78) (aI _ _ _ _) (bG hc9)).mono (Nat.zero_le _)⟩, by simp only; omega, rfl, trivial⟩, (by (repeat (first|exact aE _ _ _|refine aw rfl ?_|refine au rfl ?_|refine ak rfl ?_|refine ao rfl ?_)))⟩
  ·have ein : n = i := by omega
   subst ein
   have hlbn := hlb6 n
   rw [Nat.min_self] at hlbn
   have htr : flT n A k = sm n fun i => mm n A (flP n A k) i i := rfl
   rw [← htr] at hI7 hlbn
   repeat' (first|refine bA rfl rfl (by omega) ?_|refine aa ?_|refine aj ?_|refine ah rfl ?_|refine ae ?_|refine ay rfl ?_|refine aV ?_|refine aL ?_|refine aW ?_)
   refine cD (ι := Nat × IH) [8, 9, 10, 43, 44, 45, 46, 47, 48, 49, 50, 51] (fun t => [(8, .pointer (some ⟨t.1, 0, none⟩))])
    (fun t w' => Ex w7 w' ∧ w7.heap.size ≤ t.1 ∧ Blk w' t.1 33 t.2.cells ∧ IntC 0 w' t.2.val (flC n A k)) ?_ ?_
   ·have hEx : Ex w7 w7.drew := (Ex.refl _).drew
    have q7 : -((k : Int) + 1) = -((k + 1 : Nat) : Int) := by omega
    refine dN (fun w' => Ex w7 w') bB hEx ?_
    refine bp (fuel := 11) (by kernel_rfl) (by kernel_rfl) [0, 1, 2] _ _ (by kernel_rfl) ?_
    repeat' (first|refine aN (g := g5) rfl (fun _ h => hx7.ext h) rfl ?_|refine tH rfl q7 (by omega) (by omega) ?_|refine ai rfl ?_|refine ae ?_)
    refine az (fuel := 10) (rs := [3, 9, 10]) (by kernel_rfl) (by kernel_rfl) rfl ?_
    simp only [List.forall_mem_cons, List.not_mem_nil, false_implies, implies_true, and_true]
    refine ⟨?_, ?_, ?_⟩
    ·refine av (cG (z := -((k : Int) + 1)) (by omega) (by omega) _) rfl ?_
     rintro v3 w3' ⟨hI3, hE3'⟩
     refine ⟨fun _ h => h.trans hE3', ?_⟩
     replace hEx := hEx.trans hE3'
     refine ae ?_
     refine az (fuel := 9) (rs := [4, 9, 10]) (by kernel_rfl) (by kernel_rfl) rfl ?_
     simp only [List.forall_mem_cons, List.not_mem_nil, false_implies, implies_true, and_true]
     refine ⟨?_, ?_, ?_⟩
     ·refine av (bn ((hI7.ext hEx).k hlbn) (hI3.k (bM (e := 1) (by omega) (Nat.le_refl _))) (by omega) (by omega)) rfl ?_
      rintro v4 w4' ⟨q, r, rfl, hq, hr, hE4'⟩
      refine ⟨fun _ h => h.trans hE4', ?_⟩
      obtain ⟨y, rfl⟩ := hq.ih
      obtain ⟨z, rfl⟩ := hr.ih
      replace hq := hq.mono (Nat.zero_le _)
      replace hEx := hEx.trans hE4'
      refine ae ?_
      refine bp (fuel := 5) (by kernel_rfl) (by kernel_rfl) [5, 6, 7, 8] _ _ (by kernel_rfl) ?_
      repeat' (first|refine aS rfl rfl ?_|refine ai rfl ?_|refine ae ?_)
      refine az (fuel := 4) (rs := [9, 10]) (by kernel_rfl) (by kernel_rfl) rfl ?_
      simp only [List.forall_mem_cons, List.not_mem_nil, false_implies, implies_true, and_true]
      refine ⟨?_, ?_⟩
      ·refine aB (fun g9 w9 hn9 => ⟨fun _ h => h.trans hn9.ex, ?_⟩)
       have hb9 : Blk w9 g9 33 (intL false none 0 0) := hn9.blk
       have lo9 : w7.heap.size ≤ g9 := Nat.le_trans hEx.size hn9.lo
       replace hEx := hEx.trans hn9.ex
       replace hq := hq.ext hn9.ex
       refine ae ?_
       refine az (fuel := 3) (rs := [10]) (by kernel_rfl) (by kernel_rfl) rfl ?_
       rw [List.forall_mem_singleton]
       refine aB (fun g10 w10 hn10 => ⟨fun _ h => h.trans hn10.ex, ?_⟩)
       have hb10 : Blk w10 g10 33 (intL false none 0 0) := hn10.blk
       have lo10 : w7.heap.size ≤ g10 := Nat.le_trans hEx.size hn10.lo
       have ne910 : g9 ≠ g10 := (by have := hb9.lt; have := hn10.lo; omega)
       replace hEx := hEx.trans hn10.ex
       replace hq := hq.ext hn10.ex
       replace hb9 := hb9.ext hn10.ex
       refine ae ?_
       refine az (fuel := 2) (rs := [11]) (by kernel_rfl) (by kernel_rfl) rfl ?_
       rw [List.forall_mem_singleton]
       refine ax (n := 2) (vs := y.cells) rfl rfl rfl rfl hb9 rfl (fun w11 hc11 hb11 => ⟨fun _ h => h.chg hc11 lo9, ?_⟩)
       replace hEx := hEx.chg hc11 lo9
       replace hq := hq.gbN hb9 (aI _ _ _ _) (bG hc11)
       replace hb10 := hb10.chg hc11 (Ne.symm ne910)
       refine ae ?_
       refine az (fuel := 1) (rs := [12]) (by kernel_rfl) (by kernel_rfl) rfl ?_
       rw [List.forall_mem_singleton]
       refine ax (n := 2) (vs := z.cells) rfl rfl rfl rfl hb10 rfl (fun w12 hc12 hb12 => ⟨fun _ h => h.chg hc12 lo10, ?_⟩)
       replace hEx := hEx.chg hc12 lo10
       replace hq := hq.gbN hb10 (aI _ _ _ _) (bG hc12)
       replace hb11 := hb11.chg hc12 ne910
       refine ae ?_
       refine bp (fuel := 0) (by kernel_rfl) (by kernel_rfl) [13] _ _ (by kernel_rfl) ?_
       repeat' (first|refine ai rfl ?_|refine ae ?_)
       refine bw (by kernel_rfl) ?_
       refine aa ?_
       exact ⟨⟨(_, y), ⟨hEx, lo9, hb11, hq⟩, rfl, trivial⟩, (by (repeat (first|exact aM _ _|refine aw rfl ?_|refine au rfl ?_|refine ak rfl ?_|refine ao rfl ?_)))⟩
      ·refine aB (fun g10 w10 hn10 => ⟨fun _ h => h.trans hn10.ex, ?_⟩)
       have hb10 : Blk w10 g10 33 (intL false none 0 0) := hn10.blk
       have lo10 : w7.heap.size ≤ g10 := Nat.le_trans hEx.size hn10.lo
       replace hEx := hEx.trans hn10.ex
       replace hq := hq.ext hn10.ex
       refine ae ?_
       refine az (fuel := 3) (rs := [9]) (by kernel_rfl) (by kernel_rfl) rfl ?_
       rw [List.forall_mem_singleton]
       refine aB (fun g9 w9 hn9 => ⟨fun _ h => h.trans hn9.ex, ?_⟩)
       have hb9 : Blk w9 g9 33 (intL false none 0 0) := hn9.blk
       have lo9 : w7.heap.size ≤ g9 := Nat.le_trans hEx.size hn9.lo
       have ne910 : g9 ≠ g10 := (by have := hb10.lt; have := hn9.lo; omega)
       replace hEx := hEx.trans hn9.ex
       replace hq := hq.ext hn9.ex
       replace hb10 := hb10.ext hn9.ex
       refine ae ?_
       refine az (fuel := 2) (rs := [11]) (by kernel_rfl) (by kernel_rfl) rfl ?_
       rw [List.forall_mem_singleton]
       refine ax (n := 2) (vs := y.cells) rfl rfl rfl rfl hb9 rfl (fun w11 hc11 hb11 => ⟨fun _ h => h.chg hc11 lo9, ?_⟩)
       replace hEx := hEx.chg hc11 lo9
       replace hq := hq.gbN hb9 (aI _ _ _ _) (bG hc11)
       replace hb10 := hb10.chg hc11 (Ne.symm ne910)
       refine ae ?_
       refine az (fuel := 1) (rs := [12]) (by kernel_rfl) (by kernel_rfl) rfl ?_
       rw [List.forall_mem_singleton]
       refine ax (n := 2) (vs := z.cells) rfl rfl rfl rfl hb10 rfl (fun w12 hc12 hb12 => ⟨fun _ h => h.chg hc12 lo10, ?_⟩)
       replace hEx := hEx.chg hc12 lo10
       replace hq := hq.gbN hb10 (aI _ _ _ _) (bG hc12)
       replace hb11 := hb11.chg hc12 ne910
       refine ae ?_
       refine bp (fuel := 0) (by kernel_rfl) (by kernel_rfl) [13] _ _ (by kernel_rfl) ?_
       repeat' (first|refine ai rfl ?_|refine ae ?_)
       refine bw (by kernel_rfl) ?_
       refine aa ?_
       exact ⟨⟨(_, y), ⟨hEx, lo9, hb11, hq⟩, rfl, trivial⟩, (by (repeat (first|exact aM _ _|refine aw rfl ?_|refine au rfl ?_|refine ak rfl ?_|refine ao rfl ?_)))⟩
     ·refine aB (fun g9 w9 hn9 => ⟨fun _ h => h.trans hn9.ex, ?_⟩)
      have hb9 : Blk w9 g9 33 (intL false none 0 0) := hn9.blk
      have lo9 : w7.heap.size ≤ g9 := Nat.le_trans hEx.size hn9.lo
      replace hEx := hEx.trans hn9.ex
      replace hI3 := hI3.ext hn9.ex
      refine ae ?_
      refine az (fuel := 8) (rs := [4, 10]) (by kernel_rfl) (by kernel_rfl) rfl ?_
      simp only [List.forall_mem_cons, List.not_mem_nil, false_implies, implies_true, and_true]
      refine ⟨?_, ?_⟩
      ·refine av (bn ((hI7.ext hEx).k hlbn) (hI3.k (bM (e := 1) (by omega) (Nat.le_refl _))) (by omega) (by omega)) rfl ?_
       rintro v4 w4' ⟨q, r, rfl, hq, hr, hE4'⟩
       refine ⟨fun _ h => h.trans hE4', ?_⟩
       obtain ⟨y, rfl⟩ := hq.ih
       obtain ⟨z, rfl⟩ := hr.ih
       replace hq := hq.mono (Nat.zero_le _)
       replace hEx := hEx.trans hE4'
       replace hb9 := hb9.ext hE4'
       refine ae ?_
       refine bp (fuel := 4) (by kernel_rfl) (by kernel_rfl) [5, 6, 7, 8] _ _ (by kernel_rfl) ?_
       repeat' (first|refine aS rfl rfl ?_|refine ai rfl ?_|refine ae ?_)
       refine az (fuel := 3) (rs := [10]) (by kernel_rfl) (by kernel_rfl) rfl ?_
       rw [List.forall_mem_singleton]
       refine aB (fun g10 w10 hn10 => ⟨fun _ h => h.trans hn10.ex, ?_⟩)
       have hb10 : Blk w10 g10 33 (intL false none 0 0) := hn10.blk
       have lo10 : w7.heap.size ≤ g10 := Nat.le_trans hEx.size hn10.lo
       have ne910 : g9 ≠ g10 := (by have := hb9.lt; have := hn10.lo; omega)
       replace hEx := hEx.trans hn10.ex
       replace hq := hq.ext hn10.ex
       replace hb9 := hb9.ext hn10.ex
       refine ae ?_
       refine az (fuel := 2) (rs := [11]) (by kernel_rfl) (by kernel_rfl) rfl ?_
       rw [List.forall_mem_singleton]
       refine ax (n := 2) (vs := y.cells) rfl rfl rfl rfl hb9 rfl (fun w11 hc11 hb11 => ⟨fun _ h => h.chg hc11 lo9, ?_⟩)
       replace hEx := hEx.chg hc11 lo9
       replace hq := hq.gbN hb9 (aI _ _ _ _) (bG hc11)
       replace hb10 := hb10.chg hc11 (Ne.symm ne910)
       refine ae ?_
       refine az (fuel := 1) (rs := [12]) (by kernel_rfl) (by kernel_rfl) rfl ?_
       rw [List.forall_mem_singleton]
       refine ax (n := 2) (vs := z.cells) rfl rfl rfl rfl hb10 rfl (fun w12 hc12 hb12 => ⟨fun _ h => h.chg hc12 lo10, ?_⟩)
       replace hEx := hEx.chg hc12 lo10
       replace hq := hq.gbN hb10 (aI _ _ _ _) (bG hc12)
       replace hb11 := hb11.chg hc12 ne910
       refine ae ?_
       refine bp (fuel := 0) (by kernel_rfl) (by kernel_rfl) [13] _ _ (by kernel_rfl) ?_
       repeat' (first|refine ai rfl ?_|refine ae ?_)
       refine bw (by kernel_rfl) ?_
       refine aa ?_
       exact ⟨⟨(_, y), ⟨hEx, lo9, hb11, hq⟩, rfl, trivial⟩, (by (repeat (first|exact aM _ _|refine aw rfl ?_|refine au rfl ?_|refine ak rfl ?_|refine ao rfl ?_)))⟩
      ·refine aB (fun g10 w10 hn10 => ⟨fun _ h => h.trans hn10.ex, ?_⟩)
       have hb10 : Blk w10 g10 33 (intL false none 0 0) := hn10.blk
       have lo10 : w7.heap.size ≤ g10 := Nat.le_trans hEx.size hn10.lo
       have ne910 : g9 ≠ g10 := (by have := hb9.lt; have := hn10.lo; omega)
       replace hEx := hEx.trans hn10.ex
       replace hI3 := hI3.ext hn10.ex
       replace hb9 := hb9.ext hn10.ex
       refine ae ?_
       refine az (fuel := 7) (rs := [4]) (by kernel_rfl) (by kernel_rfl) rfl ?_
       rw [List.forall_mem_singleton]
       refine av (bn ((hI7.ext hEx).k hlbn) (hI3.k (bM (e := 1) (by omega) (Nat.le_refl _))) (by omega) (by omega)) rfl ?_
       rintro v4 w4' ⟨q, r, rfl, hq, hr, hE4'⟩
       refine ⟨fun _ h => h.trans hE4', ?_⟩
       obtain ⟨y, rfl⟩ := hq.ih
       obtain ⟨z, rfl⟩ := hr.ih
       replace hq := hq.mono (Nat.zero_le _)
       replace hEx := hEx.trans hE4'
       replace hb9 := hb9.ext hE4'
       replace hb10 := hb10.ext hE4'
       refine ae ?_
       refine bp (fuel := 3) (by kernel_rfl) (by kernel_rfl) [5, 6, 7, 8] _ _ (by kernel_rfl) ?_
       repeat' (first|refine aS rfl rfl ?_|refine ai rfl ?_|refine ae ?_)
       refine az (fuel := 2) (rs := [11]) (by kernel_rfl) (by kernel_rfl) rfl ?_
       rw [List.forall_mem_singleton]
       refine ax (n := 2) (vs := y.cells) rfl rfl rfl rfl hb9 rfl (fun w11 hc11 hb11 => ⟨fun _ h => h.chg hc11 lo9, ?_⟩)
       replace hEx := hEx.chg hc11 lo9
       replace hq := hq.gbN hb9 (aI _ _ _ _) (bG hc11)
       replace hb10 := hb10.chg hc11 (Ne.symm ne910)
       refine ae ?_
       refine az (fuel := 1) (rs := [12]) (by kernel_rfl) (by kernel_rfl) rfl ?_
       rw [List.forall_mem_singleton]
       refine ax (n := 2) (vs := z.cells) rfl rfl rfl rfl hb10 rfl (fun w12 hc12 hb12 => ⟨fun _ h => h.chg hc12 lo10, ?_⟩)
       replace hEx := hEx.chg hc12 lo10
       replace hq := hq.gbN hb10 (aI _ _ _ _) (bG hc12)
       replace hb11 := hb11.chg hc12 ne910
       refine ae ?_
       refine bp (fuel := 0) (by kernel_rfl) (by kernel_rfl) [13] _ _ (by kernel_rfl) ?_
       repeat' (first|refine ai rfl ?_|refine ae ?_)
       refine bw (by kernel_rfl) ?_
       refine aa ?_
       exact ⟨⟨(_, y), ⟨hEx, lo9, hb11, hq⟩, rfl, trivial⟩, (by (repeat (first|exact aM _ _|refine aw rfl ?_|refine au rfl ?_|refine ak rfl ?_|refine ao rfl ?_)))⟩
     ·refine aB (fun g10 w10 hn10 => ⟨fun _ h => h.trans hn10.ex, ?_⟩)
      have hb10 : Blk w10 g10 33 (intL false none 0 0) := hn10.blk
      have lo10 : w7.heap.size ≤ g10 := Nat.le_trans hEx.size hn10.lo
      replace hEx := hEx.trans hn10.ex
      replace hI3 := hI3.ext hn10.ex
      refine ae ?_
      refine az (fuel := 8) (rs := [4, 9]) (by kernel_rfl) (by kernel_rfl) rfl ?_
      simp only [List.forall_mem_cons, List.not_mem_nil, false_implies, implies_true, and_true]
      refine ⟨?_, ?_⟩
      ·refine av (bn ((hI7.ext hEx).k hlbn) (hI3.k (bM (e := 1) (by omega) (Nat.le_refl _))) (by omega) (by omega)) rfl ?_
       rintro v4 w4' ⟨q, r, rfl, hq, hr, hE4'⟩
       refine ⟨fun _ h => h.trans hE4', ?_⟩
       obtain ⟨y, rfl⟩ := hq.ih
       obtain ⟨z, rfl⟩ := hr.ih
       replace hq := hq.mono (Nat.zero_le _)
       replace hEx := hEx.trans hE4'
       replace hb10 := hb10.ext hE4'
       refine ae ?_
       refine bp (fuel := 4) (by kernel_rfl) (by kernel_rfl) [5, 6, 7, 8] _ _ (by kernel_rfl) ?_
       repeat' (first|refine aS rfl rfl ?_|refine ai rfl ?_|refine ae ?_)
       refine az (fuel := 3) (rs := [9]) (by kernel_rfl) (by kernel_rfl) rfl ?_
       rw [List.forall_mem_singleton]
       refine aB (fun g9 w9 hn9 => ⟨fun _ h => h.trans hn9.ex, ?_⟩)
       have hb9 : Blk w9 g9 33 (intL false none 0 0) := hn9.blk
       have lo9 : w7.heap.size ≤ g9 := Nat.le_trans hEx.size hn9.lo
       have ne910 : g9 ≠ g10 := (by have := hb10.lt; have := hn9.lo; omega)
       replace hEx := hEx.trans hn9.ex
       replace hq := hq.ext hn9.ex
       replace hb10 := hb10.ext hn9.ex
       refine ae ?_
       refine az (fuel := 2) (rs := [11]) (by kernel_rfl) (by kernel_rfl) rfl ?_
       rw [List.forall_mem_singleton]
       refine ax (n := 2) (vs := y.cells) rfl rfl rfl rfl hb9 rfl (fun w11 hc11 hb11 => ⟨fun _ h => h.chg hc11 lo9, ?_⟩)
       replace hEx := hEx.chg hc11 lo9
       replace hq := hq.gbN hb9 (aI _ _ _ _) (bG hc11)
       replace hb10 := hb10.chg hc11 (Ne.symm ne910)
       refine ae ?_
       refine az (fuel := 1) (rs := [12]) (by kernel_rfl) (by kernel_rfl) rfl ?_
       rw [List.forall_mem_singleton]
       refine ax (n := 2) (vs := z.cells) rfl rfl rfl rfl hb10 rfl (fun w12 hc12 hb12 => ⟨fun _ h => h.chg hc12 lo10, ?_⟩)
       replace hEx := hEx.chg hc12 lo10
       replace hq := hq.gbN hb10 (aI _ _ _ _) (bG hc12)
       replace hb11 := hb11.chg hc12 ne910
       refine ae ?_
       refine bp (fuel := 0) (by kernel_rfl) (by kernel_rfl) [13] _ _ (by kernel_rfl) ?_
       repeat' (first|refine ai rfl ?_|refine ae ?_)
       refine bw (by kernel_rfl) ?_
       refine aa ?_
       exact ⟨⟨(_, y), ⟨hEx, lo9, hb11, hq⟩, rfl, trivial⟩, (by (repeat (first|exact aM _ _|refine aw rfl ?_|refine au rfl ?_|refine ak rfl ?_|refine ao rfl ?_)))⟩
      ·refine aB (fun g9 w9 hn9 => ⟨fun _ h => h.trans hn9.ex, ?_⟩)
       have hb9 : Blk w9 g9 33 (intL false none 0 0) := hn9.blk
       have lo9 : w7.heap.size ≤ g9 := Nat.le_trans hEx.size hn9.lo
       have ne910 : g9 ≠ g10 := (by have := hb10.lt; have := hn9.lo; omega)
       replace hEx := hEx.trans hn9.ex
       replace hI3 := hI3.ext hn9.ex
       replace hb10 := hb10.ext hn9.ex
       refine ae ?_
       refine az (fuel := 7) (rs := [4]) (by kernel_rfl) (by kernel_rfl) rfl ?_
       rw [List.forall_mem_singleton]
       refine av (bn ((hI7.ext hEx).k hlbn) (hI3.k (bM (e := 1) (by omega) (Nat.le_refl _))) (by omega) (by omega)) rfl ?_
       rintro v4 w4' ⟨q, r, rfl, hq, hr, hE4'⟩
       refine ⟨fun _ h => h.trans hE4', ?_⟩
       obtain ⟨y, rfl⟩ := hq.ih
       obtain ⟨z, rfl⟩ := hr.ih
       replace hq := hq.mono (Nat.zero_le _)
       replace hEx := hEx.trans hE4'
       replace hb9 := hb9.ext hE4'
       replace hb10 := hb10.ext hE4'
       refine ae ?_
       refine bp (fuel := 3) (by kernel_rfl) (by kernel_rfl) [5, 6, 7, 8] _ _ (by kernel_rfl) ?_
       repeat' (first|refine aS rfl rfl ?_|refine ai rfl ?_|refine ae ?_)
       refine az (fuel := 2) (rs := [11]) (by kernel_rfl) (by kernel_rfl) rfl ?_
       rw [List.forall_mem_singleton]
       refine ax (n := 2) (vs := y.cells) rfl rfl rfl rfl hb9 rfl (fun w11 hc11 hb11 => ⟨fun _ h => h.chg hc11 lo9, ?_⟩)
       replace hEx := hEx.chg hc11 lo9
       replace hq := hq.gbN hb9 (aI _ _ _ _) (bG hc11)
       replace hb10 := hb10.chg hc11 (Ne.symm ne910)
       refine ae ?_
       refine az (fuel := 1) (rs := [12]) (by kernel_rfl) (by kernel_rfl) rfl ?_
       rw [List.forall_mem_singleton]
       refine ax (n := 2) (vs := z.cells) rfl rfl rfl rfl hb10 rfl (fun w12 hc12 hb12 => ⟨fun _ h => h.chg hc12 lo10, ?_⟩)
       replace hEx := hEx.chg hc12 lo10
       replace hq := hq.gbN hb10 (aI _ _ _ _) (bG hc12)
       replace hb11 := hb11.chg hc12 ne910
       refine ae ?_
       refine bp (fuel := 0) (by kernel_rfl) (by kernel_rfl) [13] _ _ (by kernel_rfl) ?_
       repeat' (first|refine ai rfl ?_|refine ae ?_)
       refine bw (by kernel_rfl) ?_
       refine aa ?_
       exact ⟨⟨(_, y), ⟨hEx, lo9, hb11, hq⟩, rfl, trivial⟩, (by (repeat (first|exact aM _ _|refine aw rfl ?_|refine au rfl ?_|refine ak rfl ?_|refine ao rfl ?_)))⟩
    ·refine aB (fun g9 w9 hn9 => ⟨fun _ h => h.trans hn9.ex, ?_⟩)
     have hb9 : Blk w9 g9 33 (intL false none 0 0) := hn9.blk
     have lo9 : w7.heap.size ≤ g9 := Nat.le_trans hEx.size hn9.lo
     replace hEx := hEx.trans hn9.ex
     refine ae ?_
     refine az (fuel := 9) (rs := [3, 10]) (by kernel_rfl) (by kernel_rfl) rfl ?_
     simp only [List.forall_mem_cons, List.not_mem_nil, false_implies, implies_true, and_true]
     refine ⟨?_, ?_⟩
     ·refine av (cG (z := -((k : Int) + 1)) (by omega) (by omega) _) rfl ?_
      rintro v3 w3' ⟨hI3, hE3'⟩
      refine ⟨fun _ h => h.trans hE3', ?_⟩
      replace hEx := hEx.trans hE3'
      replace hb9 := hb9.ext hE3'
      refine ae ?_
      refine az (fuel := 8) (rs := [4, 10]) (by kernel_rfl) (by kernel_rfl) rfl ?_
      simp only [List.forall_mem_cons, List.not_mem_nil, false_implies, implies_true, and_true]
      refine ⟨?_, ?_⟩
      ·refine av (bn ((hI7.ext hEx).k hlbn) (hI3.k (bM (e := 1) (by omega) (Nat.le_refl _))) (by omega) (by omega)) rfl ?_
       rintro v4 w4' ⟨q, r, rfl, hq, hr, hE4'⟩
       refine ⟨fun _ h => h.trans hE4', ?_⟩
       obtain ⟨y, rfl⟩ := hq.ih
       obtain ⟨z, rfl⟩ := hr.ih
       replace hq := hq.mono (Nat.zero_le _)
       replace hEx := hEx.trans hE4'
       replace hb9 := hb9.ext hE4'
       refine ae ?_
       refine bp (fuel := 4) (by kernel_rfl) (by kernel_rfl) [5, 6, 7, 8] _ _ (by kernel_rfl) ?_
       repeat' (first|refine aS rfl rfl ?_|refine ai rfl ?_|refine ae ?_)
       refine az (fuel := 3) (rs := [10]) (by kernel_rfl) (by kernel_rfl) rfl ?_
       rw [List.forall_mem_singleton]
       refine aB (fun g10 w10 hn10 => ⟨fun _ h => h.trans hn10.ex, ?_⟩)
       have hb10 : Blk w10 g10 33 (intL false none 0 0) := hn10.blk
       have lo10 : w7.heap.size ≤ g10 := Nat.le_trans hEx.size hn10.lo
       have ne910 : g9 ≠ g10 := (by have := hb9.lt; have := hn10.lo; omega)
       replace hEx := hEx.trans hn10.ex
       replace hq := hq.ext hn10.ex
       replace hb9 := hb9.ext hn10.ex
       refine ae ?_
       refine az (fuel := 2) (rs := [11]) (by kernel_rfl) (by kernel_rfl) rfl ?_
       rw [List.forall_mem_singleton]
       refine ax (n := 2) (vs := y.cells) rfl rfl rfl rfl hb9 rfl (fun w11 hc11 hb11 => ⟨fun _ h => h.chg hc11 lo9, ?_⟩)
       replace hEx := hEx.chg hc11 lo9
       replace hq := hq.gbN hb9 (aI _ _ _ _) (bG hc11)
       replace hb10 := hb10.chg hc11 (Ne.symm ne910)
       refine ae ?_
       refine az (fuel := 1) (rs := [12]) (by kernel_rfl) (by kernel_rfl) rfl ?_
       rw [List.forall_mem_singleton]
       refine ax (n := 2) (vs := z.cells) rfl rfl rfl rfl hb10 rfl (fun w12 hc12 hb12 => ⟨fun _ h => h.chg hc12 lo10, ?_⟩)
       replace hEx := hEx.chg hc12 lo10
       replace hq := hq.gbN hb10 (aI _ _ _ _) (bG hc12)
       replace hb11 := hb11.chg hc12 ne910
       refine ae ?_
       refine bp (fuel := 0) (by kernel_rfl) (by kernel_rfl) [13] _ _ (by kernel_rfl) ?_
       repeat' (first|refine ai rfl ?_|refine ae ?_)
       refine bw (by kernel_rfl) ?_
       refine aa ?_
       exact ⟨⟨(_, y), ⟨hEx, lo9, hb11, hq⟩, rfl, trivial⟩, (by (repeat (first|exact aM _ _|refine aw rfl ?_|refine au rfl ?_|refine ak rfl ?_|refine ao rfl ?_)))⟩
      ·refine aB (fun g10 w10 hn10 => ⟨fun _ h => h.trans hn10.ex, ?_⟩)
       have hb10 : Blk w10 g10 33 (intL false none 0 0) := hn10.blk
       have lo10 : w7.heap.size ≤ g10 := Nat.le_trans hEx.size hn10.lo
       have ne910 : g9 ≠ g10 := (by have := hb9.lt; have := hn10.lo; omega)
       replace hEx := hEx.trans hn10.ex
       replace hI3 := hI3.ext hn10.ex
       replace hb9 := hb9.ext hn10.ex
       refine ae ?_
       refine az (fuel := 7) (rs := [4]) (by kernel_rfl) (by kernel_rfl) rfl ?_
       rw [List.forall_mem_singleton]
       refine av (bn ((hI7.ext hEx).k hlbn) (hI3.k (bM (e := 1) (by omega) (Nat.le_refl _))) (by omega) (by omega)) rfl ?_
       rintro v4 w4' ⟨q, r, rfl, hq, hr, hE4'⟩
       refine ⟨fun _ h => h.trans hE4', ?_⟩
       obtain ⟨y, rfl⟩ := hq.ih
       obtain ⟨z, rfl⟩ := hr.ih
       replace hq := hq.mono (Nat.zero_le _)
       replace hEx := hEx.trans hE4'
       replace hb9 := hb9.ext hE4'
       replace hb10 := hb10.ext hE4'
       refine ae ?_
       refine bp (fuel := 3) (by kernel_rfl) (by kernel_rfl) [5, 6, 7, 8] _ _ (by kernel_rfl) ?_
       repeat' (first|refine aS rfl rfl ?_|refine ai rfl ?_|refine ae ?_)
       refine az (fuel := 2) (rs := [11]) (by kernel_rfl) (by kernel_rfl) rfl ?_
       rw [List.forall_mem_singleton]
       refine ax (n := 2) (vs := y.cells) rfl rfl rfl rfl hb9 rfl (fun w11 hc11 hb11 => ⟨fun _ h => h.chg hc11 lo9, ?_⟩)
       replace hEx := hEx.chg hc11 lo9
       replace hq := hq.gbN hb9 (aI _ _ _ _) (bG hc11)
       replace hb10 := hb10.chg hc11 (Ne.symm ne910)
       refine ae ?_
       refine az (fuel := 1) (rs := [12]) (by kernel_rfl) (by kernel_rfl) rfl ?_
       rw [List.forall_mem_singleton]
       refine ax (n := 2) (vs := z.cells) rfl rfl rfl rfl hb10 rfl (fun w12 hc12 hb12 => ⟨fun _ h => h.chg hc12 lo10, ?_⟩)
       replace hEx := hEx.chg hc12 lo10
       replace hq := hq.gbN hb10 (aI _ _ _ _) (bG hc12)
       replace hb11 := hb11.chg hc12 ne910
       refine ae ?_
       refine bp (fuel := 0) (by kernel_rfl) (by kernel_rfl) [13] _ _ (by kernel_rfl) ?_
       repeat' (first|refine ai rfl ?_|refine ae ?_)
       refine bw (by kernel_rfl) ?_
       refine aa ?_
       exact ⟨⟨(_, y), ⟨hEx, lo9, hb11, hq⟩, rfl, trivial⟩, (by (repeat (first|exact aM _ _|refine aw rfl ?_|refine au rfl ?_|refine ak rfl ?_|refine ao rfl ?_)))⟩
     ·refine aB (fun g10 w10 hn10 => ⟨fun _ h => h.trans hn10.ex, ?_⟩)
      have hb10 : Blk w10 g10 33 (intL false none 0 0) := hn10.blk
      have lo10 : w7.heap.size ≤ g10 := Nat.le_trans hEx.size hn10.lo
      have ne910 : g9 ≠ g10 := (by have := hb9.lt; have := hn10.lo; omega)
      replace hEx := hEx.trans hn10.ex
      replace hb9 := hb9.ext hn10.ex
      refine ae ?_
      refine az (fuel := 8) (rs := [3]) (by kernel_rfl) (by kernel_rfl) rfl ?_
      rw [List.forall_mem_singleton]
      refine av (cG (z := -((k : Int) + 1)) (by omega) (by omega) _) rfl ?_
      rintro v3 w3' ⟨hI3, hE3'⟩
      refine ⟨fun _ h => h.trans hE3', ?_⟩
      replace hEx := hEx.trans hE3'
      replace hb9 := hb9.ext hE3'
      replace hb10 := hb10.ext hE3'
      refine ae ?_
      refine az (fuel := 7) (rs := [4]) (by kernel_rfl) (by kernel_rfl) rfl ?_
      rw [List.forall_mem_singleton]
      refine av (bn ((hI7.ext hEx).k hlbn) (hI3.k (bM (e := 1) (by omega) (Nat.le_refl _))) (by omega) (by omega)) rfl ?_
      rintro v4 w4' ⟨q, r, rfl, hq, hr, hE4'⟩
      refine ⟨fun _ h => h.trans hE4', ?_⟩
      obtain ⟨y, rfl⟩ := hq.ih
      obtain ⟨z, rfl⟩ := hr.ih
      replace hq := hq.mono (Nat.zero_le _)
      replace hEx := hEx.trans hE4'
      replace hb9 := hb9.ext hE4'
      replace hb10 := hb10.ext hE4'
      refine ae ?_
      refine bp (fuel := 3) (by kernel_rfl) (by kernel_rfl) [5, 6, 7, 8] _ _ (by kernel_rfl) ?_
      repeat' (first|refine aS rfl rfl ?_|refine ai rfl ?_|refine ae ?_)
      refine az (fuel := 2) (rs := [11]) (by kernel_rfl) (by kernel_rfl) rfl ?_
      rw [List.forall_mem_singleton]
      refine ax (n := 2) (vs := y.cells) rfl rfl rfl rfl hb9 rfl (fun w11 hc11 hb11 => ⟨fun _ h => h.chg hc11 lo9, ?_⟩)
      replace hEx := hEx.chg hc11 lo9
      replace hq := hq.gbN hb9 (aI _ _ _ _) (bG hc11)
      replace hb10 := hb10.chg hc11 (Ne.symm ne910)
      refine ae ?_
      refine az (fuel := 1) (rs := [12]) (by kernel_rfl) (by kernel_rfl) rfl ?_
      rw [List.forall_mem_singleton]
      refine ax (n := 2) (vs := z.cells) rfl rfl rfl rfl hb10 rfl (fun w12 hc12 hb12 => ⟨fun _ h => h.chg hc12 lo10, ?_⟩)
      replace hEx := hEx.chg hc12 lo10
      replace hq := hq.gbN hb10 (aI _ _ _ _) (bG hc12)
      replace hb11 := hb11.chg hc12 ne910
      refine ae ?_
      refine bp (fuel := 0) (by kernel_rfl) (by kernel_rfl) [13] _ _ (by kernel_rfl) ?_
      repeat' (first|refine ai rfl ?_|refine ae ?_)
      refine bw (by kernel_rfl) ?_
      refine aa ?_
      exact ⟨⟨(_, y), ⟨hEx, lo9, hb11, hq⟩, rfl, trivial⟩, (by (repeat (first|exact aM _ _|refine aw rfl ?_|refine au rfl ?_|refine ak rfl ?_|refine ao rfl ?_)))⟩
    ·refine aB (fun g10 w10 hn10 => ⟨fun _ h => h.trans hn10.ex, ?_⟩)
     have hb10 : Blk w10 g10 33 (intL false none 0 0) := hn10.blk
     have lo10 : w7.heap.size ≤ g10 := Nat.le_trans hEx.size hn10.lo
     replace hEx := hEx.trans hn10.ex
     refine ae ?_
     refine az (fuel := 9) (rs := [3, 9]) (by kernel_rfl) (by kernel_rfl) rfl ?_
     simp only [List.forall_mem_cons, List.not_mem_nil, false_implies, implies_true, and_true]
     refine ⟨?_, ?_⟩
     ·refine av (cG (z := -((k : Int) + 1)) (by omega) (by omega) _) rfl ?_
      rintro v3 w3' ⟨hI3, hE3'⟩
      refine ⟨fun _ h => h.trans hE3', ?_⟩
      replace hEx := hEx.trans hE3'
      replace hb10 := hb10.ext hE3'
      refine ae ?_
      refine az (fuel := 8) (rs := [4, 9]) (by kernel_rfl) (by kernel_rfl) rfl ?_
      simp only [List.forall_mem_cons, List.not_mem_nil, false_implies, implies_true, and_true]
      refine ⟨?_, ?_⟩
      ·refine av (bn ((hI7.ext hEx).k hlbn) (hI3.k (bM (e := 1) (by omega) (Nat.le_refl _))) (by omega) (by omega)) rfl ?_
       rintro v4 w4' ⟨q, r, rfl, hq, hr, hE4'⟩
       refine ⟨fun _ h => h.trans hE4', ?_⟩
       obtain ⟨y, rfl⟩ := hq.ih
       obtain ⟨z, rfl⟩ := hr.ih
       replace hq := hq.mono (Nat.zero_le _)
       replace hEx := hEx.trans hE4'
       replace hb10 := hb10.ext hE4'
       refine ae ?_
       refine bp (fuel := 4) (by kernel_rfl) (by kernel_rfl) [5, 6, 7, 8] _ _ (by kernel_rfl) ?_
       repeat' (first|refine aS rfl rfl ?_|refine ai rfl ?_|refine ae ?_)
       refine az (fuel := 3) (rs := [9]) (by kernel_rfl) (by kernel_rfl) rfl ?_
       rw [List.forall_mem_singleton]
       refine aB (fun g9 w9 hn9 => ⟨fun _ h => h.trans hn9.ex, ?_⟩)
       have hb9 : Blk w9 g9 33 (intL false none 0 0) := hn9.blk
       have lo9 : w7.heap.size ≤ g9 := Nat.le_trans hEx.size hn9.lo
       have ne910 : g9 ≠ g10 := (by have := hb10.lt; have := hn9.lo; omega)
       replace hEx := hEx.trans hn9.ex
       replace hq := hq.ext hn9.ex
       replace hb10 := hb10.ext hn9.ex
       refine ae ?_
       refine az (fuel := 2) (rs := [11]) (by kernel_rfl) (by kernel_rfl) rfl ?_
       rw [List.forall_mem_singleton]
       refine ax (n := 2) (vs := y.cells) rfl rfl rfl rfl hb9 rfl (fun w11 hc11 hb11 => ⟨fun _ h => h.chg hc11 lo9, ?_⟩)
       replace hEx := hEx.chg hc11 lo9
       replace hq := hq.gbN hb9 (aI _ _ _ _) (bG hc11)
       replace hb10 := hb10.chg hc11 (Ne.symm ne910)
       refine ae ?_
       refine az (fuel := 1) (rs := [12]) (by kernel_rfl) (by kernel_rfl) rfl ?_
       rw [List.forall_mem_singleton]
       refine ax (n := 2) (vs := z.cells) rfl rfl rfl rfl hb10 rfl (fun w12 hc12 hb12 => ⟨fun _ h => h.chg hc12 lo10, ?_⟩)
       replace hEx := hEx.chg hc12 lo10
       replace hq := hq.gbN hb10 (aI _ _ _ _) (bG hc12)
       replace hb11 := hb11.chg hc12 ne910
       refine ae ?_
       refine bp (fuel := 0) (by kernel_rfl) (by kernel_rfl) [13] _ _ (by kernel_rfl) ?_
       repeat' (first|refine ai rfl ?_|refine ae ?_)
       refine bw (by kernel_rfl) ?_
       refine aa ?_
       exact ⟨⟨(_, y), ⟨hEx, lo9, hb11, hq⟩, rfl, trivial⟩, (by (repeat (first|exact aM _ _|refine aw rfl ?_|refine au rfl ?_|refine ak rfl ?_|refine ao rfl ?_)))⟩
      ·refine aB (fun g9 w9 hn9 => ⟨fun _ h => h.trans hn9.ex, ?_⟩)
       have hb9 : Blk w9 g9 33 (intL false none 0 0) := hn9.blk
       have lo9 : w7.heap.size ≤ g9 := Nat.le_trans hEx.size hn9.lo
       have ne910 : g9 ≠ g10 := (by have := hb10.lt; have := hn9.lo; omega)
       replace hEx := hEx.trans hn9.ex
       replace hI3 := hI3.ext hn9.ex
       replace hb10 := hb10.ext hn9.ex
       refine ae ?_
       refine az (fuel := 7) (rs := [4]) (by kernel_rfl) (by kernel_rfl) rfl ?_
       rw [List.forall_mem_singleton]
       refine av (bn ((hI7.ext hEx).k hlbn) (hI3.k (bM (e := 1) (by omega) (Nat.le_refl _))) (by omega) (by omega)) rfl ?_
       rintro v4 w4' ⟨q, r, rfl, hq, hr, hE4'⟩
       refine ⟨fun _ h => h.trans hE4', ?_⟩
       obtain ⟨y, rfl⟩ := hq.ih
       obtain ⟨z, rfl⟩ := hr.ih
       replace hq := hq.mono (Nat.zero_le _)
       replace hEx := hEx.trans hE4'
       replace hb9 := hb9.ext hE4'
       replace hb10 := hb10.ext hE4'
       refine ae ?_
       refine bp (fuel := 3) (by kernel_rfl) (by kernel_rfl) [5, 6, 7, 8] _ _ (by kernel_rfl) ?_
       repeat' (first|refine aS rfl rfl ?_|refine ai rfl ?_|refine ae ?_)
       refine az (fuel := 2) (rs := [11]) (by kernel_rfl) (by kernel_rfl) rfl ?_
       rw [List.forall_mem_singleton]
       refine ax (n := 2) (vs := y.cells) rfl rfl rfl rfl hb9 rfl (fun w11 hc11 hb11 => ⟨fun _ h => h.chg hc11 lo9, ?_⟩)
       replace hEx := hEx.chg hc11 lo9
       replace hq := hq.gbN hb9 (aI _ _ _ _) (bG hc11)
       replace hb10 := hb10.chg hc11 (Ne.symm ne910)
       refine ae ?_
       refine az (fuel := 1) (rs := [12]) (by kernel_rfl) (by kernel_rfl) rfl ?_
       rw [List.forall_mem_singleton]
       refine ax (n := 2) (vs := z.cells) rfl rfl rfl rfl hb10 rfl (fun w12 hc12 hb12 => ⟨fun _ h => h.chg hc12 lo10, ?_⟩)
       replace hEx := hEx.chg hc12 lo10
       replace hq := hq.gbN hb10 (aI _ _ _ _) (bG hc12)
       replace hb11 := hb11.chg hc12 ne910
       refine ae ?_
       refine bp (fuel := 0) (by kernel_rfl) (by kernel_rfl) [13] _ _ (by kernel_rfl) ?_
       repeat' (first|refine ai rfl ?_|refine ae ?_)
       refine bw (by kernel_rfl) ?_
       refine aa ?_
       exact ⟨⟨(_, y), ⟨hEx, lo9, hb11, hq⟩, rfl, trivial⟩, (by (repeat (first|exact aM _ _|refine aw rfl ?_|refine au rfl ?_|refine ak rfl ?_|refine ao rfl ?_)))⟩
     ·refine aB (fun g9 w9 hn9 => ⟨fun _ h => h.trans hn9.ex, ?_⟩)
      have hb9 : Blk w9 g9 33 (intL false none 0 0) := hn9.blk
      have lo9 : w7.heap.size ≤ g9 := Nat.le_trans hEx.size hn9.lo
      have ne910 : g9 ≠ g10 := (by have := hb10.lt; have := hn9.lo; omega)
      replace hEx := hEx.trans hn9.ex
      replace hb10 := hb10.ext hn9.ex
      refine ae ?_
      refine az (fuel := 8) (rs := [3]) (by kernel_rfl) (by kernel_rfl) rfl ?_
      rw [List.forall_mem_singleton]
      refine av (cG (z := -((k : Int) + 1)) (by omega) (by omega) _) rfl ?_
      rintro v3 w3' ⟨hI3, hE3'⟩
      refine ⟨fun _ h => h.trans hE3', ?_⟩
      replace hEx := hEx.trans hE3'
      replace hb9 := hb9.ext hE3'
      replace hb10 := hb10.ext hE3'
      refine ae ?_
      refine az (fuel := 7) (rs := [4]) (by kernel_rfl) (by kernel_rfl) rfl ?_
      rw [List.forall_mem_singleton]
      refine av (bn ((hI7.ext hEx).k hlbn) (hI3.k (bM (e := 1) (by omega) (Nat.le_refl _))) (by omega) (by omega)) rfl ?_
      rintro v4 w4' ⟨q, r, rfl, hq, hr, hE4'⟩
      refine ⟨fun _ h => h.trans hE4', ?_⟩
      obtain ⟨y, rfl⟩ := hq.ih
      obtain ⟨z, rfl⟩ := hr.ih
      replace hq := hq.mono (Nat.zero_le _)
      replace hEx := hEx.trans hE4'
      replace hb9 := hb9.ext hE4'
      replace hb10 := hb10.ext hE4'
      refine ae ?_
      refine bp (fuel := 3) (by kernel_rfl) (by kernel_rfl) [5, 6, 7, 8] _ _ (by kernel_rfl) ?_
      repeat' (first|refine aS rfl rfl ?_|refine ai rfl ?_|refine ae ?_)
      refine az (fuel := 2) (rs := [11]) (by kernel_rfl) (by kernel_rfl) rfl ?_
      rw [List.forall_mem_singleton]
      refine ax (n := 2) (vs := y.cells) rfl rfl rfl rfl hb9 rfl (fun w11 hc11 hb11 => ⟨fun _ h => h.chg hc11 lo9, ?_⟩)
      replace hEx := hEx.chg hc11 lo9
      replace hq := hq.gbN hb9 (aI _ _ _ _) (bG hc11)
      replace hb10 := hb10.chg hc11 (Ne.symm ne910)
      refine ae ?_
      refine az (fuel := 1) (rs := [12]) (by kernel_rfl) (by kernel_rfl) rfl ?_
      rw [List.forall_mem_singleton]
      refine ax (n := 2) (vs := z.cells) rfl rfl rfl rfl hb10 rfl (fun w12 hc12 hb12 => ⟨fun _ h => h.chg hc12 lo10, ?_⟩)
      replace hEx := hEx.chg hc12 lo10
      replace hq := hq.gbN hb10 (aI _ _ _ _) (bG hc12)
      replace hb11 := hb11.chg hc12 ne910
      refine ae ?_
      refine bp (fuel := 0) (by kernel_rfl) (by kernel_rfl) [13] _ _ (by kernel_rfl) ?_
      repeat' (first|refine ai rfl ?_|refine ae ?_)
      refine bw (by kernel_rfl) ?_
      refine aa ?_
      exact ⟨⟨(_, y), ⟨hEx, lo9, hb11, hq⟩, rfl, trivial⟩, (by (repeat (first|exact aM _ _|refine aw rfl ?_|refine au rfl ?_|refine ak rfl ?_|refine ao rfl ?_)))⟩
   ·rintro ⟨g8, y⟩ ξ3 w8 ⟨hE78, hlo8, hb8, hI8⟩
    simp only at hlo8 hb8 hI8
    show CW _ _ _ _ (over [(8, .pointer (some ⟨g8, 0, none⟩))] _) w8
    have hO8 := hO7.ext hE78
    have hlbC : Lb (K + (16 * K + 64) + 1 + 1) (flC n A k) := Lb.div hlbn _
    have hstep : ∀ i j, flP n A (k + 1) i j = mm n A (flP n A k) i j + flC n A k * idM i j := fun i j => rfl
    have hE8 := hE7.trans hE78
    repeat' (first|refine ai rfl ?_|refine aa ?_|refine aj ?_|refine ah rfl ?_|refine ae ?_|refine aA ?_)
    refine aY (ι := Nat) [11, 53, 54, 55, 56, 57, 58, 59, 60, 61, 62, 63, 64, 65, 66, 67, 68, 69, 70, 71] (fun i => [(53, .int .i64 (i : Int))])
     (fun i w' => i ≤ n ∧ Ex w w' ∧ MO true (K + (16 * K + 64) + 1 + 1 + 1) w' w.heap.size g4 n n gs4 cp4 (dgM (mm n A (flP n A k)) (flC n A k) i) ∧ Blk w' g8 33 y.cells ∧ IntC 0 w' y.val (flC n A k)) (fun i => n - i)
     0 ⟨rfl, trivial⟩ ⟨by omega, hE8, (hO8.up (by omega)).congr (fun a b _ _ => by unfold dgM; rw [if_neg (by omega)]), hb8, hI8⟩ ?_
    have hg8 : ∀ m, m < n → gs4 m ≠ g8 := fun m hm => by have := (hO7.row m hm).lt; omega
    clear hO8 hI8
    rintro i ξ4 w9 ⟨hi, hE9, hO9, hb9, hI9⟩
    show CW _ _ _ _ (over [(53, .int .i64 (i : Int))] _) w9
    rcases Nat.lt_or_ge i n with hin | hin
    ·obtain ⟨hh, hbi, hci, hEi⟩ := hO9.get hin
     have hEd : Ex w9 w9.drew := (Ex.refl _).drew
     repeat' (first|refine bC rfl rfl (by omega) ?_|refine aa ?_|refine aj ?_|refine ah rfl ?_|refine ae ?_|refine aD rfl ?_|refine aF ?_)
     refine aA ?_
     repeat' (first|refine ai rfl ?_|refine aa ?_|refine aj ?_|refine ah rfl ?_|refine ae ?_)
     refine bi (late := [15]) (plan := [(0, none), (1, none), (2, none), (3, none), (4, none), (5, none), (6, none), (7, none), (8, none), (9, none), (10, none), (11, none), (12, none), (13, some true), (14, none), (15, some false)]) (fun w' => Ex w9 w') bB (by kernel_rfl) hEd ?_
     repeat' (first|refine aN (g := g8) rfl (fun _ h => hb9.ext h) rfl ?_|refine aC (j := i) (a := some ⟨g4, 0, none⟩) rfl rfl ⟨_, _, rfl⟩ (by omega) ?_|refine aU (j := i) (a := some ⟨g4, 0, none⟩) (n := n) (s := fun k => ⟨some ⟨gs4 k, 0, none⟩, n, cp4 k⟩) rfl (fun _ h => (hO9.ext h).top.sl) (by omega) rfl ?_|refine aT (j := i) (a := some ⟨gs4 i, 0, none⟩) rfl rfl ⟨_, _, rfl⟩ (by omega) ?_|refine bu (j := i) (a := some ⟨gs4 i, 0, none⟩) rfl (fun _ h => (hbi.ext h).sl) ⟨_, _, rfl⟩ (by omega) ?_|refine ai rfl ?_)
     have hii : dgM (mm n A (flP n A k)) (flC n A k) i i i = mm n A (flP n A k) i i := by unfold dgM; rw [if_neg (by omega)]
     refine av (eg ((hEi i hin).ext hEd).k ((hI9.ext hEd).k hlbC) (by omega) (by omega)) rfl ?_
     rintro v w10 ⟨hI10, hE10⟩
     refine ⟨fun _ h => h.trans hE10, ?_⟩
     rw [hii] at hI10
     obtain ⟨u, rfl⟩ := hI10.ih
     have hE910 := hEd.trans hE10
     repeat' (first|refine aT (j := i) (a := some ⟨gs4 i, 0, none⟩) rfl rfl ⟨_, _, rfl⟩ (by omega) ?_)
     refine ch (j := i) (u := u) rfl rfl (hbi.ext hE910) (by omega) (fun w11 hc11 hb11 => ⟨fun h => (nomatch h), ?_⟩)
     repeat' (first|refine ai rfl ?_|refine aa ?_|refine ah rfl ?_|refine ae ?_|refine aZ rfl rfl (by omega) (by omega) ?_|refine aK ?_)
     have hu : Ent true (K + (16 * K + 64) + 1 + 1 + 1) w10 u.val (mm n A (flP n A k) i i + flC n A k) := Ent.of hI10 (((hlb i i hin hin).mono (e' := K + (16 * K + 64) + 1 + 1) (by omega)).add hlbC)
     have hput := (hO9.ext hE910).put (j := i) hin (hbi.ext hE910) (fun m hm => (hEi m hm).ext hE910) hu hc11 hb11
     have hloi := (hO9.row i hin).low
     have hg8i := hg8 i hin
     exact ⟨⟨i + 1, ⟨hin, (hE9.trans hE910).chg hc11 hloi, hput.congr (fun a b _ _ => (tJ _ _ i a b).symm), (hb9.ext hE910).chg hc11 (Ne.symm hg8i), (hI9.ext hE910).gbN (hbi.ext hE910) (bF _ _) (bG hc11)⟩, by omega, rfl, trivial⟩, (by (repeat (first|exact aE _ _ _|refine aw rfl ?_|refine au rfl ?_|refine ak rfl ?_|refine ao rfl ?_)))⟩
    ·have ein : n = i := by omega
     subst ein
     repeat' (first|refine bA rfl rfl (by omega) ?_|refine aZ rfl rfl (by omega) (by omega) ?_|refine ai rfl ?_|refine aa ?_|refine aj ?_|refine ah rfl ?_|refine ae ?_|refine ay rfl ?_|refine aV ?_|refine aL ?_|refine aW ?_|refine aK ?_)
     have hfin := (hO9.congr (F' := flP n A (k + 1)) (fun a b ha hb => by
      rw [hstep]; unfold dgM idM
      by_cases h : a = b
      ·rw [if_pos h, if_pos ⟨h, ha⟩, Int.mul_one]
      ·rw [if_neg h, if_neg (by omega), Int.mul_zero, Int.add_zero])).sharp (K' := 16 * K + 64) (fun a b ha hb => tI hA hn.2 (by omega) ha hb)
     have hci : Value.int .i64 (((k + 1 : Nat) : Int) + 1) = .int .i64 ((k + 1 + 1 : Nat) : Int) := by rw [show ((k + 1 : Nat) : Int) + 1 = ((k + 1 + 1 : Nat) : Int) by omega]
     refine ⟨⟨(k + 1, g4, gs4, cp4), ⟨hkn, hE9, hfin⟩, ?_, hci, rfl, trivial⟩, (by (repeat (first|exact aE _ _ _|refine aw rfl ?_|refine au rfl ?_|refine ak rfl ?_|refine ao rfl ?_)))⟩
     show n - (k + 1) < n - k
     omega
 ·have ek : k = n - 1 := by omega
  subst ek
  have hs := d8 n
  repeat' (first|refine bA rfl rfl (by omega) ?_|refine jH rfl rfl (by omega) (by omega) ?_|refine ai rfl ?_|refine aa ?_|refine aj ?_|refine ah rfl ?_|refine ae ?_|refine ay rfl ?_|refine aP rfl (fun hc => ?_) (fun hc => ?_)|refine aV ?_|refine aL ?_|refine aW ?_|refine aR ?_|refine aF ?_)
  ·refine av (m7 hO3.mx hn hn) rfl ?_
   rintro v w4 ⟨g4, gs4, cp4, rfl, hO4, hE4⟩
   refine ⟨fun _ _ => trivial, ?_⟩
   repeat' (first|refine ai rfl ?_|refine aa ?_|refine ae ?_|refine aR ?_|refine bv ?_)
   refine bK rfl (rt rfl) ⟨g4, gs4, cp4, rfl, (hO4.mono hE3.size).congr (fun a b _ _ => ?_), hE3.trans hE4⟩
   rw [show Go.LA.sgn (n + 1) = -1 by rw [hs]; unfold Go.LA.sgn; rw [if_pos (by omega)], Int.neg_one_mul]
  ·refine bK rfl (rt rfl) ⟨g, gs, cp, rfl, hO3.congr (fun a b _ _ => ?_), hE3⟩
   rw [show Go.LA.sgn (n + 1) = 1 by rw [hs]; unfold Go.LA.sgn; rw [if_neg (by omega)]; rfl, Int.one_mul]
end Go.Proofs.YtppipmkpmmdcjaaGreat
namespace Go.LA
def mv (n : Nat) (A : Mat) (x : Vec) : Vec := fun r => sm n fun j => A r j * x j
theorem dh {n : Nat} {A A' : Mat} {x x' : Vec} {r : Nat} (h : ∀ j, j < n → A r j = A' r j) (h' : ∀ j, j < n → x j = x' j) : mv n A x r = mv n A' x' r := aX fun j hj => by rw [h j hj, h' j hj]
theorem jd (n m : Nat) (A B : Mat) (x : Vec) (r : Nat) : mv m (mm n A B) x r = mv n A (mv m B x) r := by
 have := cM n m A B (fun i _ => x i) r 0
 exact this
def InL (rows cols : Nat) (H : Mat) (v : Vec) : Prop := ∃ x : Vec, ∀ r, r < rows → v r = mv cols H x r
theorem InL.col {rows cols : Nat} (H : Mat) {c : Nat} (hc : c < cols) : InL rows cols H fun r => H r c := by
 refine ⟨fun j => idM j c, fun r _ => ?_⟩
 show H r c = sm cols fun j => H r j * idM j c
 rw [bV hc fun j _ hne => by rw [bN hne, Int.mul_zero]]
 rw [bE, Int.mul_one]
theorem InL.sub {rows cols : Nat} {H : Mat} {v v' : Vec} (h : InL rows cols H v) (h' : InL rows cols H v') : InL rows cols H fun r => v r - v' r := by
 obtain ⟨x, hx⟩ := h
 obtain ⟨y, hy⟩ := h'
 refine ⟨fun j => x j - y j, fun r hr => ?_⟩
 show v r - v' r = _
 rw [hx r hr, hy r hr]
 unfold mv
 rw [← gU]
 exact aX fun j _ => by grind
theorem InL.comb {rows cols : Nat} {H : Mat} {v v' : Vec} (h : InL rows cols H v) (h' : InL rows cols H v') (a b : Int) : InL rows cols H fun r => a * v r + b * v' r := by
 obtain ⟨x, hx⟩ := h
 obtain ⟨y, hy⟩ := h'
 refine ⟨fun j => a * x j + b * y j, fun r hr => ?_⟩
 show a * v r + b * v' r = _
 rw [hx r hr, hy r hr]
 unfold mv
 rw [← cj, ← cj, ← dH]
 exact aX fun j _ => by grind
theorem InL.congr {rows cols : Nat} {H : Mat} {v v' : Vec} (h : InL rows cols H v) (he : ∀ r, r < rows → v' r = v r) : InL rows cols H v' := by
 obtain ⟨x, hx⟩ := h
 exact ⟨x, fun r hr => by rw [he r hr, hx r hr]⟩
theorem InL.zero (rows cols : Nat) (H : Mat) : InL rows cols H fun _ => 0 := ⟨fun _ => 0, fun r _ => by unfold mv; rw [eQ fun j _ => Int.mul_zero _]⟩
def Uni (n : Nat) (U : Mat) : Prop := det n U = 1 ∨ det n U = -1
theorem Uni.sq {n : Nat} {U : Mat} (h : Uni n U) : det n U * det n U = 1 := by rcases h with h | h <;> rw [h] <;> rfl
theorem Uni.ne {n : Nat} {U : Mat} (h : Uni n U) : det n U ≠ 0 := by rcases h with h | h <;> rw [h] <;> omega
theorem kY (n : Nat) : Uni n idM := .inl (iH n)
theorem Uni.mul {n : Nat} {U V : Mat} (h : Uni n U) (h' : Uni n V) : Uni n (mm n U V) := by
 unfold Uni
 rw [dr]
 rcases h with h | h <;> rcases h' with h' | h' <;> rw [h, h'] <;> simp
theorem Uni.congr {n : Nat} {U V : Mat} (h : Uni n U) (he : ∀ r c, r < n → c < n → U r c = V r c) : Uni n V := by unfold Uni; rw [← bo he]; exact h
def uinv (n : Nat) (U : Mat) : Mat := fun i j => det n U * adj n U i j
theorem Uni.mul_inv {n : Nat} {U : Mat} (h : Uni n U) {i j : Nat} (hi : i < n) (hj : j < n) : mm n U (uinv n U) i j = idM i j := by
 have e : mm n U (uinv n U) i j = det n U * mm n U (adj n U) i j := by
  unfold mm uinv
  rw [← cj]
  exact aX fun k _ => by grind
 rw [e, fF U hi hj, ← Int.mul_assoc, h.sq, Int.one_mul]
theorem Uni.inv_mul {n : Nat} {U : Mat} (h : Uni n U) {i j : Nat} (hi : i < n) (hj : j < n) : mm n (uinv n U) U i j = idM i j := by
 have e : mm n (uinv n U) U i j = det n U * mm n (adj n U) U i j := by
  unfold mm uinv
  rw [← cj]
  exact aX fun k _ => by grind
 rw [e, uR h.ne hi hj, ← Int.mul_assoc, h.sq, Int.one_mul]
theorem Uni.inv {n : Nat} {U : Mat} (h : Uni n U) : Uni n (uinv n U) := by
 have := dr n U (uinv n U)
 rw [bo (M' := idM) fun r c hr hc => h.mul_inv hr hc, iH] at this
 rcases h with h | h
 ·rw [h] at this; left; omega
 ·rw [h] at this; right; omega
theorem sf {n : Nat} {U V : Mat} (h : ∀ i j, i < n → j < n → mm n U V i j = idM i j) : Uni n U := by
 have := dr n U V
 rw [bo (M' := idM) h, iH] at this
 have hd : det n U ∣ 1 := ⟨_, this⟩
 have := Int.natAbs_dvd_natAbs.2 hd
 have h1 : (det n U).natAbs = 1 := Nat.dvd_one.1 this
 unfold Uni
 omega
theorem InL.uni {rows cols : Nat} {A H U : Mat} (hU : Uni cols U) (hH : ∀ r c, r < rows → c < cols → H r c = mm cols A U r c) (v : Vec) : InL rows cols H v ↔ InL rows cols A v := by
 constructor
 ·rintro ⟨x, hx⟩
  refine ⟨mv cols U x, fun r hr => ?_⟩
  rw [hx r hr, dh (A' := mm cols A U) (fun j hj => hH r j hr hj) fun _ _ => rfl, jd]
 ·rintro ⟨x, hx⟩
  refine ⟨mv cols (uinv cols U) x, fun r hr => ?_⟩
  rw [hx r hr, dh (A := H) (A' := mm cols A U) (fun j hj => hH r j hr hj) fun _ _ => rfl, jd]
  refine dh (fun _ _ => rfl) fun j hj => ?_
  rw [← jd, dh (A' := idM) (fun k hk => hU.mul_inv hj hk) fun _ _ => rfl]
  unfold mv
  rw [bV hj fun k _ hne => by rw [bN (Ne.symm hne), Int.zero_mul]]
  rw [bE, Int.one_mul]
structure HF (rows cols : Nat) (H : Mat) (k : Nat) (p : Nat → Nat) : Prop where
 kc : k ≤ cols
 lt : ∀ c, c < k → p c < rows
 mono : ∀ c c', c < c' → c' < k → p c < p c'
 zero : ∀ c, c < k → ∀ r, r < p c → H r c = 0
 pos : ∀ c, c < k → 0 < H (p c) c
 red : ∀ c, c < k → ∀ j, j < c → 0 ≤ H (p c) j ∧ H (p c) j < H (p c) c
 rest : ∀ c, k ≤ c → c < cols → ∀ r, r < rows → H r c = 0
theorem HF.congr {rows cols k : Nat} {H H' : Mat} {p : Nat → Nat} (h : HF rows cols H k p) (he : ∀ r c, r < rows → c < cols → H' r c = H r c) : HF rows cols H' k p := by
 have hk := h.kc
 refine ⟨h.kc, h.lt, h.mono, fun c hc r hr => ?_, fun c hc => ?_, fun c hc j hj => ?_, fun c hc hc' r hr => ?_⟩
 ·have := h.lt c hc; rw [he r c (by omega) (by omega)]; exact h.zero c hc r hr
 ·rw [he _ c (h.lt c hc) (by omega)]; exact h.pos c hc
 ·rw [he _ c (h.lt c hc) (by omega), he _ j (h.lt c hc) (by omega)]; exact h.red c hc j hj
 ·rw [he r c hr hc']; exact h.rest c hc hc' r hr
theorem oq (k : Nat) (x : Vec) : (∀ j, j < k → x j = 0) ∨ ∃ c, c < k ∧ x c ≠ 0 ∧ ∀ j, j < c → x j = 0 := by
 induction k with
 | zero => exact .inl fun j hj => by omega
 | succ k ih =>
  rcases ih with h | ⟨c, h1, h2, h3⟩
  ·by_cases e : x k = 0
   ·exact .inl fun j hj => by
     by_cases e' : j = k
     ·rw [e', e]
     ·exact h j (by omega)
   ·exact .inr ⟨k, by omega, e, h⟩
  ·exact .inr ⟨c, by omega, h2, h3⟩
theorem HF.mvk {rows cols k : Nat} {H : Mat} {p : Nat → Nat} (h : HF rows cols H k p) (x : Vec) {r : Nat} (hr : r < rows) : mv cols H x r = mv k H x r := by
 obtain ⟨m, rfl⟩ : ∃ m, cols = k + m := ⟨cols - k, by have := h.kc; omega⟩
 unfold mv
 rw [fS, eQ (n := m) fun i hi => by rw [h.rest (k + i) (by omega) (by omega) r hr, Int.zero_mul]]
 omega
theorem HF.begins {rows cols k : Nat} {H : Mat} {p : Nat → Nat} (h : HF rows cols H k p) {x : Vec} {c : Nat} (hc : c < k) (hx : ∀ j, j < c → x j = 0) : (∀ r, r < p c → mv cols H x r = 0) ∧ mv cols H x (p c) = x c * H (p c) c := by
 have hlt := h.lt c hc
 constructor
 ·intro r hr
  rw [h.mvk x (by omega)]
  refine eQ fun j hj => ?_
  by_cases e : j < c
  ·rw [hx j e, Int.mul_zero]
  ·rw [h.zero j hj r, Int.zero_mul]
   by_cases e' : j = c
   ·rw [e']; exact hr
   ·have := h.mono c j (by omega) hj; omega
 ·rw [h.mvk x hlt]
  unfold mv
  rw [bV hc fun j hj hne => ?_]
  ·rw [Int.mul_comm]
  ·by_cases e : j < c
   ·rw [hx j e, Int.mul_zero]
   ·rw [h.zero j hj (p c) (h.mono c j (by omega) hj), Int.zero_mul]
theorem HF.lead {rows cols k : Nat} {H : Mat} {p : Nat → Nat} (h : HF rows cols H k p) {v : Vec} (hv : InL rows cols H v) (hne : ∃ r, r < rows ∧ v r ≠ 0) :
  ∃ c, c < k ∧ (∀ r, r < p c → v r = 0) ∧ v (p c) ≠ 0 ∧ H (p c) c ∣ v (p c) := by
 obtain ⟨x, hx⟩ := hv
 rcases oq k x with h0 | ⟨c, hc, hxc, hl⟩
 ·obtain ⟨r, hr, hv⟩ := hne
  refine absurd ?_ hv
  rw [hx r hr, h.mvk x hr]
  exact eQ fun j hj => by rw [h0 j hj, Int.mul_zero]
 ·obtain ⟨h1, h2⟩ := h.begins hc hl
  have hlt := h.lt c hc
  refine ⟨c, hc, fun r hr => by rw [hx r (by omega)]; exact h1 r hr, ?_, ?_⟩
  ·rw [hx _ hlt, h2]
   intro e
   rcases Int.mul_eq_zero.1 e with e | e
   ·exact hxc e
   ·have := h.pos c hc; omega
  ·rw [hx _ hlt, h2]; exact ⟨x c, Int.mul_comm _ _⟩
theorem HF.begin_col {rows cols k : Nat} {H : Mat} {p : Nat → Nat} (h : HF rows cols H k p) {c : Nat} (hc : c < k) {cols' k' : Nat} {H' : Mat} {p' : Nat → Nat} (h' : HF rows cols' H' k' p') (hL : ∀ v, InL rows cols H v → InL rows cols' H' v) : ∃ c', c' < k' ∧ p' c' = p c ∧ H' (p c) c' ∣ H (p c) c := by
 have hk := h.kc
 have hlt := h.lt c hc
 have hpos := h.pos c hc
 obtain ⟨c', h1, h2, h3, h4⟩ := h'.lead (hL _ (InL.col H (show c < cols by omega))) ⟨p c, hlt, by omega⟩
 have e : p' c' = p c := by
  rcases Nat.lt_trichotomy (p' c') (p c) with hh | hh | hh
  ·exact absurd (h.zero c hc _ hh) h3
  ·exact hh
  ·have := h2 _ hh; omega
 refine ⟨c', h1, e, ?_⟩
 rw [e] at h4; exact h4
theorem HF.unique {rows cols cols' k k' : Nat} {H H' : Mat} {p p' : Nat → Nat} (h : HF rows cols H k p) (h' : HF rows cols' H' k' p') (hL : ∀ v, InL rows cols H v ↔ InL rows cols' H' v) :
  k = k' ∧ (∀ c, c < k → p c = p' c) ∧ ∀ c, c < k → ∀ r, r < rows → H r c = H' r c := by
 have hk := h.kc
 have hk' := h'.kc
 have mle : ∀ {rows cols k : Nat} {H : Mat} {p : Nat → Nat}, HF rows cols H k p → ∀ c c', c ≤ c' → c' < k → p c ≤ p c' := fun h c c' hc hc' => by
  by_cases e : c = c'
  ·rw [e]; exact Nat.le_refl _
  ·exact Nat.le_of_lt (h.mono c c' (by omega) hc')
 have key : ∀ c, (c < k → c < k' ∧ p c = p' c) ∧ (c < k' → c < k ∧ p c = p' c) := by
  intro c
  induction c using Nat.strongRecOn with
  | _ c ih =>
   have one : c < k → ∃ e, c ≤ e ∧ e < k' ∧ p' e = p c := fun hc => by
    obtain ⟨e, he, hp, _⟩ := h.begin_col hc h' (fun v hv => (hL v).1 hv)
    refine ⟨e, ?_, he, hp⟩
    rcases Nat.lt_or_ge e c with hlt | hge
    ·have h1 := (ih e hlt).2 he
     have h2 := h.mono e c hlt hc
     omega
    ·exact hge
   have two : c < k' → ∃ e, c ≤ e ∧ e < k ∧ p e = p' c := fun hc => by
    obtain ⟨e, he, hp, _⟩ := h'.begin_col hc h (fun v hv => (hL v).2 hv)
    refine ⟨e, ?_, he, hp⟩
    rcases Nat.lt_or_ge e c with hlt | hge
    ·have h1 := (ih e hlt).1 he
     have h2 := h'.mono e c hlt hc
     omega
    ·exact hge
   have both : c < k → c < k' → p c = p' c := fun hc hc' => by
    obtain ⟨e, h1, h2, h3⟩ := one hc
    obtain ⟨f, g1, g2, g3⟩ := two hc'
    have := mle h' c e h1 h2
    have := mle h c f g1 g2
    omega
   constructor
   ·intro hc
    obtain ⟨e, h1, h2, h3⟩ := one hc
    exact ⟨by omega, both hc (by omega)⟩
   ·intro hc
    obtain ⟨e, h1, h2, h3⟩ := two hc
    exact ⟨by omega, both (by omega) hc⟩
 have hkk : k = k' := by
  rcases Nat.lt_trichotomy k k' with hlt | he | hlt
  ·have := ((key k).2 hlt).1; omega
  ·exact he
  ·have := ((key k').1 hlt).1; omega
 subst hkk
 have hp : ∀ c, c < k → p c = p' c := fun c hc => ((key c).1 hc).2
 have hpiv : ∀ c, c < k → H (p c) c = H' (p c) c := fun c hc => by
  obtain ⟨e, he, hpe, hd⟩ := h.begin_col hc h' (fun v hv => (hL v).1 hv)
  obtain ⟨f, hf, hpf, hd'⟩ := h'.begin_col hc h (fun v hv => (hL v).2 hv)
  have inj : ∀ a b, a < k → b < k → p' a = p' b → a = b := fun a b ha hb e => by
   rcases Nat.lt_trichotomy a b with hlt | h0 | hlt
   ·have := h'.mono a b hlt hb; omega
   ·exact h0
   ·have := h'.mono b a hlt ha; omega
  have e1 : e = c := inj e c he hc (by rw [hpe, hp c hc])
  have e2 : f = c := inj f c hf hc (by rw [← hp f hf, hpf])
  subst e1
  subst e2
  rw [← hp f hf] at hd'
  have a1 := h.pos f hc
  have a2 := h'.pos f hc
  rw [← hp f hc] at a2
  exact Int.le_antisymm (Int.le_of_dvd a2 hd') (Int.le_of_dvd a1 hd)
 refine ⟨rfl, hp, fun c hc r hr => ?_⟩
 refine Classical.byContradiction fun hne => ?_
 have hcol := (InL.col (rows := rows) H (show c < cols by omega)).sub ((hL _).2 (InL.col (rows := rows) H' (show c < cols' by omega)))
 obtain ⟨e, he, h1, h2, h3⟩ := h.lead hcol ⟨r, hr, by omega⟩
 have hlt := h.lt e he
 have h1 : ∀ r, r < p e → H r c - H' r c = 0 := h1
 have h2 : H (p e) c - H' (p e) c ≠ 0 := h2
 have h3 : H (p e) e ∣ H (p e) c - H' (p e) c := h3
 have hec : c < e := by
  rcases Nat.lt_trichotomy c e with hh | hh | hh
  ·exact hh
  ·subst hh; rw [hpiv c hc] at h2; omega
  ·have hm := h.mono e c hh hc
   have z1 := h.zero c hc _ hm
   have z2 := h'.zero c hc (p e) (by rw [← hp c hc]; exact hm)
   omega
 have r1 := h.red e he c hec
 have r2 := h'.red e he c hec
 rw [← hp e he, ← hpiv e he] at r2
 obtain ⟨q, hq⟩ := h3
 have hpos := h.pos e he
 have : q = 0 := by
  rcases Int.lt_trichotomy q 0 with hh | hh | hh
  ·have : H (p e) e * q ≤ H (p e) e * (-1) := Int.mul_le_mul_of_nonneg_left (by omega) (by omega)
   omega
  ·exact hh
  ·have : H (p e) e * 1 ≤ H (p e) e * q := Int.mul_le_mul_of_nonneg_left (by omega) (by omega)
   omega
 subst this
 omega
end Go.LA
