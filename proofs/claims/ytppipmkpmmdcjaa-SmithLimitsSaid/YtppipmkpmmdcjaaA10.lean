import Derived.Test.YtppipmkpmmdcjaaA09
namespace Go.Proofs.Ytppipmkpmmdcjaa
open Go.W Go.LM Go.LA
theorem Ent.sharp {K K' : Nat} {w : World} {v : Value} {z : Int} (h : Ent true K w v z) (hz : Lb K' z) : Ent true K' w v z := Ent.of (h.c rfl) hz
theorem MO.sharp {K K' lo g r c : Nat} {w : World} {gs cap : Nat → Nat} {F : Nat → Nat → Int} (h : MO true K w lo g r c gs cap F) (hb : ∀ i j, i < r → j < c → Lb K' (F i j)) : MO true K' w lo g r c gs cap F := by
 refine ⟨h.low, h.top, fun i hi => ?_, h.off, h.inj⟩
 obtain ⟨hh, h1, h2⟩ := (h.row i hi).ex
 exact ⟨(h.row i hi).low, (h.row i hi).le, hh, h1, fun j hj => (h2 j hj).sharp (hb i j hi hj)⟩
theorem iY {P : Program} {S : World → Prop} {ops : List Oper} {K : Env → World → Prop} {rest : List (Oper × Option Bool)} {ρ : Env} {w : World} {b : Option Bool} {d : Nat} {T T' : TypeId} {pos : String} {af : Array Edge} {x : Operand} {m m' : Int} (hx : ev ρ x = .int .i64 m) (hm : m' = -m) (h1 : -9223372036854775807 ≤ m) (h2 : m ≤ 9223372036854775807)
  (h : RR P S ops K rest (upd ρ d (.int .i64 m')) w) : RR P S ops K ((⟨some d, .unOp .neg T' x, T, pos, af, none⟩, b) :: rest) ρ w :=
 mc hx (by rw [cE (by omega) (by omega), ← hm]; exact h)
def flT (n : Nat) (A : Mat) (k : Nat) : Int := tr n (mm n A (flP n A k))
def flC (n : Nat) (A : Mat) (k : Nat) : Int := flT n A k / (-((k : Int) + 1))
theorem pu {n K : Nat} {A : Mat} (hA : ∀ r c, r < n → c < n → Lb K (A r c)) (hn : n ≤ 16) : ∀ k i j, i < n → j < n → Lb (1 + k * (K + 3)) (flP n A k i j)
 | 0, i, j, _, _ => by
  show Lb _ (idM i j)
  unfold idM; split <;> exact bD (by decide) (by omega)
 | k + 1, i, j, hi, hj => by
  have ih := pu hA hn k
  have hm : ∀ i j, i < n → j < n → Lb (K + (1 + k * (K + 3)) + 1) (mm n A (flP n A k) i j) := fun i j hi hj => iX (fun l hl => hA i l hi hl) (fun l hl => ih l j hl hj) (by omega)
  have ht : Lb (K + (1 + k * (K + 3)) + 1 + 1) (tr n (mm n A (flP n A k))) := Lb.sm (fun l hl => hm l l hl hl) (by omega)
  have hid : ∀ z : Int, Lb (K + (1 + k * (K + 3)) + 1 + 1) z → Lb (K + (1 + k * (K + 3)) + 1 + 1) (z * idM i j) := fun z hz => by
   unfold idM; split
   ·rwa [Int.mul_one]
   ·rw [Int.mul_zero]; exact f4
  have := ((hm i j hi hj).mono (e' := K + (1 + k * (K + 3)) + 1 + 1) (by omega)).add (hid _ (ht.div (-((k : Int) + 1))))
  refine Lb.mono this ?_
  rw [Nat.succ_mul]; omega
theorem qr {n K : Nat} {A : Mat} (hA : ∀ r c, r < n → c < n → Lb K (A r c)) (hn : n ≤ 16) {k i j : Nat} (hk : k < n) (hi : i < n) (hj : j < n) : Lb (16 * K + 64) (flP n A k i j) := by
 refine (pu hA hn k i j hi hj).mono ?_
 have : k * (K + 3) ≤ 15 * (K + 3) := Nat.mul_le_mul_right _ (by omega)
 omega
def dgM (P : Mat) (c : Int) (i : Nat) : Mat := fun a b => if a = b ∧ a < i then P a b + c else P a b
theorem qt (P : Mat) (c : Int) (i : Nat) (a b : Nat) : setM (dgM P c i) i i (P i i + c) a b = dgM P c (i + 1) a b := by
 unfold setM dgM
 by_cases h : a = i ∧ b = i
 ·obtain ⟨rfl, rfl⟩ := h
  rw [if_pos ⟨rfl, rfl⟩, if_pos ⟨rfl, Nat.lt_succ_self _⟩]
 ·rw [if_neg h]
  by_cases h' : a = b ∧ a < i
  ·rw [if_pos h', if_pos ⟨h'.1, by omega⟩]
  ·rw [if_neg h', if_neg (by omega)]
set_option maxHeartbeats 4000000 in
theorem jS {cn : Bool} {K n cap : Nat} {w : World} {a : Option Addr} {s : Nat → SD} {A : Mat} (hM : MX cn K w a n n s A) (hn : 1 ≤ n ∧ n ≤ 16) (hK : 17 * K + 70 ≤ 4398046511104) :
  CallsR Try.prog 63 #[.slice a n cap] w (RetMO (16 * K + 64) w n n fun i j => Go.LA.sgn (n + 1) * flP n A (n - 1) i j) := by
 have hA : ∀ r c, r < n → c < n → Lb K (A r c) := fun r c hr hc => hM.lb hr hc
 refine aJ (args := [_]) Try.func63 rfl rfl ?_
 repeat' (first|refine ai rfl ?_|refine aa ?_|refine ao ?_|refine ah rfl ?_|refine ae ?_|refine bn rfl ?_)
 refine ax (ce (z := 1) (by omega) (by omega) _) rfl ?_
 rintro v w1 ⟨hI1, hE1⟩
 refine ⟨fun _ _ => trivial, ?_⟩
 refine ax (lI (K := 1) (hI1.k (by decide)) (by omega)) rfl ?_
 rintro v w2 ⟨g, gs, cp, rfl, hO2, hE2⟩
 refine ⟨fun _ _ => trivial, ?_⟩
 have hE02 := hE1.trans hE2
 have hO2' := (hO2.mono hE1.size).up (K' := 16 * K + 64) (by omega)
 repeat' (first|refine ai rfl ?_|refine aa ?_|refine ao ?_|refine ah rfl ?_|refine ae ?_|refine aC ?_)
 refine bh (ι := Nat × Nat × (Nat → Nat) × (Nat → Nat)) [4, 5, 6, 7, 8, 9, 10, 11, 17, 18, 19, 20, 21, 22, 23, 24, 25, 26, 27, 28, 29, 30, 31, 32, 33, 34, 35, 36, 37, 38, 39, 40, 41, 42, 43, 44, 45, 46, 47, 48, 49, 50, 51, 52, 53, 54, 55, 56, 57, 58, 59, 60, 61, 62, 63, 64, 65, 66, 67, 68, 69, 70, 71] (fun t => [(5, .int .i64 ((t.1 + 1 : Nat) : Int)), (4, .slice (some ⟨t.2.1, 0, none⟩) n n)])
  (fun t w' => t.1 < n ∧ Ex w w' ∧ MO true (16 * K + 64) w' w.heap.size t.2.1 n n t.2.2.1 t.2.2.2 (flP n A t.1)) (fun t => n - t.1)
  (0, g, gs, cp) ⟨rfl, rfl, trivial⟩ ⟨by omega, hE02, hO2'⟩ ?_
 clear hO2 hO2' hE2 hI1
 rintro ⟨k, g, gs, cp⟩ ξ w3 ⟨hk, hE3, hO3⟩
 simp only at hk hO3
 show CW _ _ _ _ (over [(5, .int .i64 ((k + 1 : Nat) : Int)), (4, .slice (some ⟨g, 0, none⟩) n n)] _) w3
 rcases Nat.lt_or_ge (k + 1) n with hkn | hkn
 ·repeat' (first|refine bA rfl rfl (by omega) ?_|refine ai rfl ?_|refine aa ?_|refine ao ?_|refine ah rfl ?_|refine ae ?_|refine aE rfl ?_|refine aC ?_|refine aI ?_)
  refine ax (kb (hM.ext hE3) hO3.mx hn hn hn (by omega)) rfl ?_
  rintro v w4 ⟨_, rfl, g4, gs4, cp4, rfl, hO4, hE4⟩
  refine ⟨fun _ _ => trivial, ?_⟩
  repeat' (first|refine cD (cs := intL false none 0 0) rfl ?_|refine ai rfl ?_|refine aa ?_|refine ao ?_|refine ah rfl ?_|refine ae ?_)
  refine aD (fun g5 w5 hn5 => ⟨fun _ _ => trivial, ?_⟩)
  have hb5 : Blk w5 g5 27 (intL false none 0 0) := hn5.blk
  refine aw (n := 2) (vs := ih0.cells) rfl rfl rfl rfl hb5 rfl (fun w6 hc6 hb6 => ⟨fun _ _ => trivial, ?_⟩)
  have lo5 := hn5.lo
  have s3 := hE3.size
  have s4 := hE4.size
  have s5 := hn5.ex.size
  have hO6 := ((hO4.mono (lo' := w.heap.size) hE3.size).ext hn5.ex).gbN hb5 (au _ _ _ _) (bc hc6) (by have := hO4.lt; omega) (fun m hm => by have := (hO4.row m hm).lt; omega)
  have hg5 : ∀ m, m < n → gs4 m ≠ g5 := fun m hm => by have := (hO4.row m hm).lt; omega
  have hE6 := ((hE3.trans hE4).trans hn5.ex).chg hc6 (by omega)
  have hlb : ∀ i j, i < n → j < n → Lb (K + (16 * K + 64) + 1) (mm n A (flP n A k) i j) := fun i j hi hj => hO4.mx.lb hi hj
  repeat' (first|refine ai rfl ?_|refine aa ?_|refine ao ?_|refine ah rfl ?_|refine ae ?_|refine aC ?_)
  have hne4 : g4 ≠ g5 := by have := hO4.lt; omega
  have hnI : NoI ih0.cells := au _ _ _ _
  have hlb6 : ∀ m, Lb (K + (16 * K + 64) + 1 + 1) (sm (min m n) fun i => mm n A (flP n A k) i i) := fun m => Lb.sm (fun l hl => hlb l l (by omega) (by omega)) (by omega)
  refine bh (ι := Nat × IH) [7, 30, 31, 32, 33, 34, 35, 36, 37, 38, 39, 40, 41, 42] (fun t => [(30, .int .i64 (t.1 : Int))])
   (fun t w' => t.1 ≤ n ∧ w6.grownBy w' (some g5) ∧ Blk w' g5 27 t.2.cells ∧ IntC 0 w' t.2.val (sm t.1 fun i => mm n A (flP n A k) i i)) (fun t => n - t.1)
   (0, ih0) ⟨rfl, trivial⟩ ⟨by omega, bc (Chg.refl _ _), hb6, kd _ _⟩ ?_
  rintro ⟨i, x⟩ ξ2 w7 ⟨hi, hG7, hx7, hI7⟩
  simp only at hi hx7 hI7
  show CW _ _ _ _ (over [(30, .int .i64 (i : Int))] _) w7
  have hO7 := hO6.gbN hb6 hnI hG7 hne4 hg5
  have hE7 : Ex w w7 := hE6.gb hG7 (fun k e => by cases e; omega)
  rcases Nat.lt_or_ge i n with hin | hin
  ·obtain ⟨hh, hbi, hci, hEi⟩ := hO7.get hin
   have hEd : Ex w7 w7.drew := (Ex.refl _).drew
   repeat' (first|refine bA rfl rfl (by omega) ?_|refine aa ?_|refine ao ?_|refine ah rfl ?_|refine ae ?_|refine aE rfl ?_|refine aI ?_)
   refine aC ?_
   repeat' (first|refine ai rfl ?_|refine aa ?_|refine ao ?_|refine ah rfl ?_|refine ae ?_)
   refine aZ (late := [9]) (plan := [(0, none), (1, none), (2, none), (3, none), (4, none), (5, none), (6, none), (7, none), (8, some true), (9, some false)]) (fun w' => Ex w7 w') bt (by kernel_rfl) hEd ?_
   repeat' (first|refine aP (g := g5) rfl (fun _ h => hx7.ext h) rfl ?_|refine aB (j := i) (a := some ⟨g4, 0, none⟩) rfl rfl ⟨_, _, rfl⟩ (by omega) ?_|refine aS (j := i) (a := some ⟨g4, 0, none⟩) (n := n) (s := fun k => ⟨some ⟨gs4 k, 0, none⟩, n, cp4 k⟩) rfl (fun _ h => (hO7.ext h).top.sl) (by omega) rfl ?_|refine aU (j := i) (a := some ⟨gs4 i, 0, none⟩) rfl rfl ⟨_, _, rfl⟩ (by omega) ?_|refine bp (j := i) (a := some ⟨gs4 i, 0, none⟩) rfl (fun _ h => (hbi.ext h).sl) ⟨_, _, rfl⟩ (by omega) ?_|refine ai rfl ?_)
   have hlbi := hlb6 i
   rw [Nat.min_eq_left (by omega)] at hlbi
   refine ax (dF ((hI7.ext hEd).k hlbi) ((hEi i hin).ext hEd).k (by omega) (by omega)) rfl ?_
   rintro v w8 ⟨hI8, hE8⟩
   refine ⟨fun _ h => h.trans hE8, ?_⟩
   obtain ⟨y, rfl⟩ := hI8.ih
   have hE78 := hEd.trans hE8
   refine aw (n := 2) (vs := y.cells) rfl rfl rfl rfl (hx7.ext hE78) rfl (fun w9 hc9 hb9 => ⟨fun h => (nomatch h), ?_⟩)
   repeat' (first|refine ai rfl ?_|refine aa ?_|refine ah rfl ?_|refine ae ?_|refine bi rfl rfl (by omega) (by omega) ?_|refine aM ?_)
   exact ⟨⟨(i + 1, y), ⟨hin, bC (bC hG7 (jO hE78) (fun k e => (nomatch e))) (bc hc9) (fun k e => .inl e), hb9, (hI8.gbN (hx7.ext hE78) (au _ _ _ _) (bc hc9)).mono (Nat.zero_le _)⟩, by simp only; omega, rfl, trivial⟩, (by (repeat (first|exact aF _ _ _|refine ay rfl ?_|refine av rfl ?_|refine aj rfl ?_|refine ak rfl ?_)))⟩
  ·have ein : n = i := by omega
   subst ein
   have hlbn := hlb6 n
   rw [Nat.min_self] at hlbn
   have htr : flT n A k = sm n fun i => mm n A (flP n A k) i i := rfl
   rw [← htr] at hI7 hlbn
   repeat' (first|refine bz rfl rfl (by omega) ?_|refine aa ?_|refine ao ?_|refine ah rfl ?_|refine ae ?_|refine aA rfl ?_|refine aW ?_|refine aO ?_|refine aX ?_)
   refine cz (ι := Nat × IH) [8, 9, 10, 43, 44, 45, 46, 47, 48, 49, 50, 51] (fun t => [(8, .pointer (some ⟨t.1, 0, none⟩))])
    (fun t w' => Ex w7 w' ∧ w7.heap.size ≤ t.1 ∧ Blk w' t.1 27 t.2.cells ∧ IntC 0 w' t.2.val (flC n A k)) ?_ ?_
   ·have hEx : Ex w7 w7.drew := (Ex.refl _).drew
    have q7 : -((k : Int) + 1) = -((k + 1 : Nat) : Int) := by omega
    refine dQ (fun w' => Ex w7 w') bt hEx ?_
    refine bj (fuel := 11) (by kernel_rfl) (by kernel_rfl) [0, 1, 2] _ _ (by kernel_rfl) ?_
    repeat' (first|refine aP (g := g5) rfl (fun _ h => hx7.ext h) rfl ?_|refine iY rfl q7 (by omega) (by omega) ?_|refine ai rfl ?_|refine ae ?_)
    refine az (fuel := 10) (rs := [3, 9, 10]) (by kernel_rfl) (by kernel_rfl) rfl ?_
    simp only [List.forall_mem_cons, List.not_mem_nil, false_implies, implies_true, and_true]
    refine ⟨?_, ?_, ?_⟩
    ·refine ax (ce (z := -((k : Int) + 1)) (by omega) (by omega) _) rfl ?_
     rintro v3 w3' ⟨hI3, hE3'⟩
     refine ⟨fun _ h => h.trans hE3', ?_⟩
     replace hEx := hEx.trans hE3'
     try replace hb9 := hb9.ext hE3'
     try replace hb10 := hb10.ext hE3'
     refine ae ?_
     refine az (fuel := 9) (rs := [4, 9, 10]) (by kernel_rfl) (by kernel_rfl) rfl ?_
     simp only [List.forall_mem_cons, List.not_mem_nil, false_implies, implies_true, and_true]
     refine ⟨?_, ?_, ?_⟩
     ·refine ax (bf ((hI7.ext hEx).k hlbn) (hI3.k (bD (e := 1) (by omega) (Nat.le_refl _))) (by omega) (by omega)) rfl ?_
      rintro v4 w4' ⟨q, r, rfl, hq, hr, hE4'⟩
      refine ⟨fun _ h => h.trans hE4', ?_⟩
      obtain ⟨y, rfl⟩ := hq.ih
      obtain ⟨z, rfl⟩ := hr.ih
      replace hq := hq.mono (Nat.zero_le _)
      replace hEx := hEx.trans hE4'
      try replace hb9 := hb9.ext hE4'
      try replace hb10 := hb10.ext hE4'
      refine ae ?_
      refine bj (fuel := 5) (by kernel_rfl) (by kernel_rfl) [5, 6, 7, 8] _ _ (by kernel_rfl) ?_
      repeat' (first|refine aH rfl rfl ?_|refine ai rfl ?_|refine ae ?_)
      refine az (fuel := 4) (rs := [9, 10]) (by kernel_rfl) (by kernel_rfl) rfl ?_
      simp only [List.forall_mem_cons, List.not_mem_nil, false_implies, implies_true, and_true]
      refine ⟨?_, ?_⟩
      ·refine aD (fun g9 w9 hn9 => ⟨fun _ h => h.trans hn9.ex, ?_⟩)
       have hb9 : Blk w9 g9 27 (intL false none 0 0) := hn9.blk
       have lo9 : w7.heap.size ≤ g9 := Nat.le_trans hEx.size hn9.lo
       try have ne910 : g9 ≠ g10 := (by have := hb10.lt; have := hn9.lo; omega)
       replace hEx := hEx.trans hn9.ex
       try replace hI3 := hI3.ext hn9.ex
       try replace hq := hq.ext hn9.ex
       try replace hb10 := hb10.ext hn9.ex
       refine ae ?_
       refine az (fuel := 3) (rs := [10]) (by kernel_rfl) (by kernel_rfl) rfl ?_
       rw [List.forall_mem_singleton]
       refine aD (fun g10 w10 hn10 => ⟨fun _ h => h.trans hn10.ex, ?_⟩)
       have hb10 : Blk w10 g10 27 (intL false none 0 0) := hn10.blk
       have lo10 : w7.heap.size ≤ g10 := Nat.le_trans hEx.size hn10.lo
       try have ne910 : g9 ≠ g10 := (by have := hb9.lt; have := hn10.lo; omega)
       replace hEx := hEx.trans hn10.ex
       try replace hI3 := hI3.ext hn10.ex
       try replace hq := hq.ext hn10.ex
       try replace hb9 := hb9.ext hn10.ex
       refine ae ?_
       refine az (fuel := 2) (rs := [11]) (by kernel_rfl) (by kernel_rfl) rfl ?_
       rw [List.forall_mem_singleton]
       refine aw (n := 2) (vs := y.cells) rfl rfl rfl rfl hb9 rfl (fun w11 hc11 hb11 => ⟨fun _ h => h.chg hc11 lo9, ?_⟩)
       replace hEx := hEx.chg hc11 lo9
       replace hq := hq.gbN hb9 (au _ _ _ _) (bc hc11)
       replace hb10 := hb10.chg hc11 (Ne.symm ne910)
       refine ae ?_
       refine az (fuel := 1) (rs := [12]) (by kernel_rfl) (by kernel_rfl) rfl ?_
       rw [List.forall_mem_singleton]
       refine aw (n := 2) (vs := z.cells) rfl rfl rfl rfl hb10 rfl (fun w12 hc12 hb12 => ⟨fun _ h => h.chg hc12 lo10, ?_⟩)
       replace hEx := hEx.chg hc12 lo10
       replace hq := hq.gbN hb10 (au _ _ _ _) (bc hc12)
       replace hb11 := hb11.chg hc12 ne910
       refine ae ?_
       refine bj (fuel := 0) (by kernel_rfl) (by kernel_rfl) [13] _ _ (by kernel_rfl) ?_
       repeat' (first|refine ai rfl ?_|refine ae ?_)
       refine bo (by kernel_rfl) ?_
       refine aa ?_
       exact ⟨⟨(_, y), ⟨hEx, lo9, hb11, hq⟩, rfl, trivial⟩, (by (repeat (first|exact aG _ _|refine ay rfl ?_|refine av rfl ?_|refine aj rfl ?_|refine ak rfl ?_)))⟩
      ·refine aD (fun g10 w10 hn10 => ⟨fun _ h => h.trans hn10.ex, ?_⟩)
       have hb10 : Blk w10 g10 27 (intL false none 0 0) := hn10.blk
       have lo10 : w7.heap.size ≤ g10 := Nat.le_trans hEx.size hn10.lo
       try have ne910 : g9 ≠ g10 := (by have := hb9.lt; have := hn10.lo; omega)
       replace hEx := hEx.trans hn10.ex
       try replace hI3 := hI3.ext hn10.ex
       try replace hq := hq.ext hn10.ex
       try replace hb9 := hb9.ext hn10.ex
       refine ae ?_
       refine az (fuel := 3) (rs := [9]) (by kernel_rfl) (by kernel_rfl) rfl ?_
       rw [List.forall_mem_singleton]
       refine aD (fun g9 w9 hn9 => ⟨fun _ h => h.trans hn9.ex, ?_⟩)
       have hb9 : Blk w9 g9 27 (intL false none 0 0) := hn9.blk
       have lo9 : w7.heap.size ≤ g9 := Nat.le_trans hEx.size hn9.lo
       try have ne910 : g9 ≠ g10 := (by have := hb10.lt; have := hn9.lo; omega)
       replace hEx := hEx.trans hn9.ex
       try replace hI3 := hI3.ext hn9.ex
       try replace hq := hq.ext hn9.ex
       try replace hb10 := hb10.ext hn9.ex
       refine ae ?_
       refine az (fuel := 2) (rs := [11]) (by kernel_rfl) (by kernel_rfl) rfl ?_
       rw [List.forall_mem_singleton]
       refine aw (n := 2) (vs := y.cells) rfl rfl rfl rfl hb9 rfl (fun w11 hc11 hb11 => ⟨fun _ h => h.chg hc11 lo9, ?_⟩)
       replace hEx := hEx.chg hc11 lo9
       replace hq := hq.gbN hb9 (au _ _ _ _) (bc hc11)
       replace hb10 := hb10.chg hc11 (Ne.symm ne910)
       refine ae ?_
       refine az (fuel := 1) (rs := [12]) (by kernel_rfl) (by kernel_rfl) rfl ?_
       rw [List.forall_mem_singleton]
       refine aw (n := 2) (vs := z.cells) rfl rfl rfl rfl hb10 rfl (fun w12 hc12 hb12 => ⟨fun _ h => h.chg hc12 lo10, ?_⟩)
       replace hEx := hEx.chg hc12 lo10
       replace hq := hq.gbN hb10 (au _ _ _ _) (bc hc12)
       replace hb11 := hb11.chg hc12 ne910
       refine ae ?_
       refine bj (fuel := 0) (by kernel_rfl) (by kernel_rfl) [13] _ _ (by kernel_rfl) ?_
       repeat' (first|refine ai rfl ?_|refine ae ?_)
       refine bo (by kernel_rfl) ?_
       refine aa ?_
       exact ⟨⟨(_, y), ⟨hEx, lo9, hb11, hq⟩, rfl, trivial⟩, (by (repeat (first|exact aG _ _|refine ay rfl ?_|refine av rfl ?_|refine aj rfl ?_|refine ak rfl ?_)))⟩
     ·refine aD (fun g9 w9 hn9 => ⟨fun _ h => h.trans hn9.ex, ?_⟩)
      have hb9 : Blk w9 g9 27 (intL false none 0 0) := hn9.blk
      have lo9 : w7.heap.size ≤ g9 := Nat.le_trans hEx.size hn9.lo
      try have ne910 : g9 ≠ g10 := (by have := hb10.lt; have := hn9.lo; omega)
      replace hEx := hEx.trans hn9.ex
      try replace hI3 := hI3.ext hn9.ex
      try replace hq := hq.ext hn9.ex
      try replace hb10 := hb10.ext hn9.ex
      refine ae ?_
      refine az (fuel := 8) (rs := [4, 10]) (by kernel_rfl) (by kernel_rfl) rfl ?_
      simp only [List.forall_mem_cons, List.not_mem_nil, false_implies, implies_true, and_true]
      refine ⟨?_, ?_⟩
      ·refine ax (bf ((hI7.ext hEx).k hlbn) (hI3.k (bD (e := 1) (by omega) (Nat.le_refl _))) (by omega) (by omega)) rfl ?_
       rintro v4 w4' ⟨q, r, rfl, hq, hr, hE4'⟩
       refine ⟨fun _ h => h.trans hE4', ?_⟩
       obtain ⟨y, rfl⟩ := hq.ih
       obtain ⟨z, rfl⟩ := hr.ih
       replace hq := hq.mono (Nat.zero_le _)
       replace hEx := hEx.trans hE4'
       try replace hb9 := hb9.ext hE4'
       try replace hb10 := hb10.ext hE4'
       refine ae ?_
       refine bj (fuel := 4) (by kernel_rfl) (by kernel_rfl) [5, 6, 7, 8] _ _ (by kernel_rfl) ?_
       repeat' (first|refine aH rfl rfl ?_|refine ai rfl ?_|refine ae ?_)
       refine az (fuel := 3) (rs := [10]) (by kernel_rfl) (by kernel_rfl) rfl ?_
       rw [List.forall_mem_singleton]
       refine aD (fun g10 w10 hn10 => ⟨fun _ h => h.trans hn10.ex, ?_⟩)
       have hb10 : Blk w10 g10 27 (intL false none 0 0) := hn10.blk
       have lo10 : w7.heap.size ≤ g10 := Nat.le_trans hEx.size hn10.lo
       try have ne910 : g9 ≠ g10 := (by have := hb9.lt; have := hn10.lo; omega)
       replace hEx := hEx.trans hn10.ex
       try replace hI3 := hI3.ext hn10.ex
       try replace hq := hq.ext hn10.ex
       try replace hb9 := hb9.ext hn10.ex
       refine ae ?_
       refine az (fuel := 2) (rs := [11]) (by kernel_rfl) (by kernel_rfl) rfl ?_
       rw [List.forall_mem_singleton]
       refine aw (n := 2) (vs := y.cells) rfl rfl rfl rfl hb9 rfl (fun w11 hc11 hb11 => ⟨fun _ h => h.chg hc11 lo9, ?_⟩)
       replace hEx := hEx.chg hc11 lo9
       replace hq := hq.gbN hb9 (au _ _ _ _) (bc hc11)
       replace hb10 := hb10.chg hc11 (Ne.symm ne910)
       refine ae ?_
       refine az (fuel := 1) (rs := [12]) (by kernel_rfl) (by kernel_rfl) rfl ?_
       rw [List.forall_mem_singleton]
       refine aw (n := 2) (vs := z.cells) rfl rfl rfl rfl hb10 rfl (fun w12 hc12 hb12 => ⟨fun _ h => h.chg hc12 lo10, ?_⟩)
       replace hEx := hEx.chg hc12 lo10
       replace hq := hq.gbN hb10 (au _ _ _ _) (bc hc12)
       replace hb11 := hb11.chg hc12 ne910
       refine ae ?_
       refine bj (fuel := 0) (by kernel_rfl) (by kernel_rfl) [13] _ _ (by kernel_rfl) ?_
       repeat' (first|refine ai rfl ?_|refine ae ?_)
       refine bo (by kernel_rfl) ?_
       refine aa ?_
       exact ⟨⟨(_, y), ⟨hEx, lo9, hb11, hq⟩, rfl, trivial⟩, (by (repeat (first|exact aG _ _|refine ay rfl ?_|refine av rfl ?_|refine aj rfl ?_|refine ak rfl ?_)))⟩
      ·refine aD (fun g10 w10 hn10 => ⟨fun _ h => h.trans hn10.ex, ?_⟩)
       have hb10 : Blk w10 g10 27 (intL false none 0 0) := hn10.blk
       have lo10 : w7.heap.size ≤ g10 := Nat.le_trans hEx.size hn10.lo
       try have ne910 : g9 ≠ g10 := (by have := hb9.lt; have := hn10.lo; omega)
       replace hEx := hEx.trans hn10.ex
       try replace hI3 := hI3.ext hn10.ex
       try replace hq := hq.ext hn10.ex
       try replace hb9 := hb9.ext hn10.ex
       refine ae ?_
       refine az (fuel := 7) (rs := [4]) (by kernel_rfl) (by kernel_rfl) rfl ?_
       rw [List.forall_mem_singleton]
       refine ax (bf ((hI7.ext hEx).k hlbn) (hI3.k (bD (e := 1) (by omega) (Nat.le_refl _))) (by omega) (by omega)) rfl ?_
       rintro v4 w4' ⟨q, r, rfl, hq, hr, hE4'⟩
       refine ⟨fun _ h => h.trans hE4', ?_⟩
       obtain ⟨y, rfl⟩ := hq.ih
       obtain ⟨z, rfl⟩ := hr.ih
       replace hq := hq.mono (Nat.zero_le _)
       replace hEx := hEx.trans hE4'
       try replace hb9 := hb9.ext hE4'
       try replace hb10 := hb10.ext hE4'
       refine ae ?_
       refine bj (fuel := 3) (by kernel_rfl) (by kernel_rfl) [5, 6, 7, 8] _ _ (by kernel_rfl) ?_
       repeat' (first|refine aH rfl rfl ?_|refine ai rfl ?_|refine ae ?_)
       refine az (fuel := 2) (rs := [11]) (by kernel_rfl) (by kernel_rfl) rfl ?_
       rw [List.forall_mem_singleton]
       refine aw (n := 2) (vs := y.cells) rfl rfl rfl rfl hb9 rfl (fun w11 hc11 hb11 => ⟨fun _ h => h.chg hc11 lo9, ?_⟩)
       replace hEx := hEx.chg hc11 lo9
       replace hq := hq.gbN hb9 (au _ _ _ _) (bc hc11)
       replace hb10 := hb10.chg hc11 (Ne.symm ne910)
       refine ae ?_
       refine az (fuel := 1) (rs := [12]) (by kernel_rfl) (by kernel_rfl) rfl ?_
       rw [List.forall_mem_singleton]
       refine aw (n := 2) (vs := z.cells) rfl rfl rfl rfl hb10 rfl (fun w12 hc12 hb12 => ⟨fun _ h => h.chg hc12 lo10, ?_⟩)
       replace hEx := hEx.chg hc12 lo10
       replace hq := hq.gbN hb10 (au _ _ _ _) (bc hc12)
       replace hb11 := hb11.chg hc12 ne910
       refine ae ?_
       refine bj (fuel := 0) (by kernel_rfl) (by kernel_rfl) [13] _ _ (by kernel_rfl) ?_
       repeat' (first|refine ai rfl ?_|refine ae ?_)
       refine bo (by kernel_rfl) ?_
       refine aa ?_
       exact ⟨⟨(_, y), ⟨hEx, lo9, hb11, hq⟩, rfl, trivial⟩, (by (repeat (first|exact aG _ _|refine ay rfl ?_|refine av rfl ?_|refine aj rfl ?_|refine ak rfl ?_)))⟩
     ·refine aD (fun g10 w10 hn10 => ⟨fun _ h => h.trans hn10.ex, ?_⟩)
      have hb10 : Blk w10 g10 27 (intL false none 0 0) := hn10.blk
      have lo10 : w7.heap.size ≤ g10 := Nat.le_trans hEx.size hn10.lo
      try have ne910 : g9 ≠ g10 := (by have := hb9.lt; have := hn10.lo; omega)
      replace hEx := hEx.trans hn10.ex
      try replace hI3 := hI3.ext hn10.ex
      try replace hq := hq.ext hn10.ex
      try replace hb9 := hb9.ext hn10.ex
      refine ae ?_
      refine az (fuel := 8) (rs := [4, 9]) (by kernel_rfl) (by kernel_rfl) rfl ?_
      simp only [List.forall_mem_cons, List.not_mem_nil, false_implies, implies_true, and_true]
      refine ⟨?_, ?_⟩
      ·refine ax (bf ((hI7.ext hEx).k hlbn) (hI3.k (bD (e := 1) (by omega) (Nat.le_refl _))) (by omega) (by omega)) rfl ?_
       rintro v4 w4' ⟨q, r, rfl, hq, hr, hE4'⟩
       refine ⟨fun _ h => h.trans hE4', ?_⟩
       obtain ⟨y, rfl⟩ := hq.ih
       obtain ⟨z, rfl⟩ := hr.ih
       replace hq := hq.mono (Nat.zero_le _)
       replace hEx := hEx.trans hE4'
       try replace hb9 := hb9.ext hE4'
       try replace hb10 := hb10.ext hE4'
       refine ae ?_
       refine bj (fuel := 4) (by kernel_rfl) (by kernel_rfl) [5, 6, 7, 8] _ _ (by kernel_rfl) ?_
       repeat' (first|refine aH rfl rfl ?_|refine ai rfl ?_|refine ae ?_)
       refine az (fuel := 3) (rs := [9]) (by kernel_rfl) (by kernel_rfl) rfl ?_
       rw [List.forall_mem_singleton]
       refine aD (fun g9 w9 hn9 => ⟨fun _ h => h.trans hn9.ex, ?_⟩)
       have hb9 : Blk w9 g9 27 (intL false none 0 0) := hn9.blk
       have lo9 : w7.heap.size ≤ g9 := Nat.le_trans hEx.size hn9.lo
       try have ne910 : g9 ≠ g10 := (by have := hb10.lt; have := hn9.lo; omega)
       replace hEx := hEx.trans hn9.ex
       try replace hI3 := hI3.ext hn9.ex
       try replace hq := hq.ext hn9.ex
       try replace hb10 := hb10.ext hn9.ex
       refine ae ?_
       refine az (fuel := 2) (rs := [11]) (by kernel_rfl) (by kernel_rfl) rfl ?_
       rw [List.forall_mem_singleton]
       refine aw (n := 2) (vs := y.cells) rfl rfl rfl rfl hb9 rfl (fun w11 hc11 hb11 => ⟨fun _ h => h.chg hc11 lo9, ?_⟩)
       replace hEx := hEx.chg hc11 lo9
       replace hq := hq.gbN hb9 (au _ _ _ _) (bc hc11)
       replace hb10 := hb10.chg hc11 (Ne.symm ne910)
       refine ae ?_
       refine az (fuel := 1) (rs := [12]) (by kernel_rfl) (by kernel_rfl) rfl ?_
       rw [List.forall_mem_singleton]
       refine aw (n := 2) (vs := z.cells) rfl rfl rfl rfl hb10 rfl (fun w12 hc12 hb12 => ⟨fun _ h => h.chg hc12 lo10, ?_⟩)
       replace hEx := hEx.chg hc12 lo10
       replace hq := hq.gbN hb10 (au _ _ _ _) (bc hc12)
       replace hb11 := hb11.chg hc12 ne910
       refine ae ?_
       refine bj (fuel := 0) (by kernel_rfl) (by kernel_rfl) [13] _ _ (by kernel_rfl) ?_
       repeat' (first|refine ai rfl ?_|refine ae ?_)
       refine bo (by kernel_rfl) ?_
       refine aa ?_
       exact ⟨⟨(_, y), ⟨hEx, lo9, hb11, hq⟩, rfl, trivial⟩, (by (repeat (first|exact aG _ _|refine ay rfl ?_|refine av rfl ?_|refine aj rfl ?_|refine ak rfl ?_)))⟩
      ·refine aD (fun g9 w9 hn9 => ⟨fun _ h => h.trans hn9.ex, ?_⟩)
       have hb9 : Blk w9 g9 27 (intL false none 0 0) := hn9.blk
       have lo9 : w7.heap.size ≤ g9 := Nat.le_trans hEx.size hn9.lo
       try have ne910 : g9 ≠ g10 := (by have := hb10.lt; have := hn9.lo; omega)
       replace hEx := hEx.trans hn9.ex
       try replace hI3 := hI3.ext hn9.ex
       try replace hq := hq.ext hn9.ex
       try replace hb10 := hb10.ext hn9.ex
       refine ae ?_
       refine az (fuel := 7) (rs := [4]) (by kernel_rfl) (by kernel_rfl) rfl ?_
       rw [List.forall_mem_singleton]
       refine ax (bf ((hI7.ext hEx).k hlbn) (hI3.k (bD (e := 1) (by omega) (Nat.le_refl _))) (by omega) (by omega)) rfl ?_
       rintro v4 w4' ⟨q, r, rfl, hq, hr, hE4'⟩
       refine ⟨fun _ h => h.trans hE4', ?_⟩
       obtain ⟨y, rfl⟩ := hq.ih
       obtain ⟨z, rfl⟩ := hr.ih
       replace hq := hq.mono (Nat.zero_le _)
       replace hEx := hEx.trans hE4'
       try replace hb9 := hb9.ext hE4'
       try replace hb10 := hb10.ext hE4'
       refine ae ?_
       refine bj (fuel := 3) (by kernel_rfl) (by kernel_rfl) [5, 6, 7, 8] _ _ (by kernel_rfl) ?_
       repeat' (first|refine aH rfl rfl ?_|refine ai rfl ?_|refine ae ?_)
       refine az (fuel := 2) (rs := [11]) (by kernel_rfl) (by kernel_rfl) rfl ?_
       rw [List.forall_mem_singleton]
       refine aw (n := 2) (vs := y.cells) rfl rfl rfl rfl hb9 rfl (fun w11 hc11 hb11 => ⟨fun _ h => h.chg hc11 lo9, ?_⟩)
       replace hEx := hEx.chg hc11 lo9
       replace hq := hq.gbN hb9 (au _ _ _ _) (bc hc11)
       replace hb10 := hb10.chg hc11 (Ne.symm ne910)
       refine ae ?_
       refine az (fuel := 1) (rs := [12]) (by kernel_rfl) (by kernel_rfl) rfl ?_
       rw [List.forall_mem_singleton]
       refine aw (n := 2) (vs := z.cells) rfl rfl rfl rfl hb10 rfl (fun w12 hc12 hb12 => ⟨fun _ h => h.chg hc12 lo10, ?_⟩)
       replace hEx := hEx.chg hc12 lo10
       replace hq := hq.gbN hb10 (au _ _ _ _) (bc hc12)
       replace hb11 := hb11.chg hc12 ne910
       refine ae ?_
       refine bj (fuel := 0) (by kernel_rfl) (by kernel_rfl) [13] _ _ (by kernel_rfl) ?_
       repeat' (first|refine ai rfl ?_|refine ae ?_)
       refine bo (by kernel_rfl) ?_
       refine aa ?_
       exact ⟨⟨(_, y), ⟨hEx, lo9, hb11, hq⟩, rfl, trivial⟩, (by (repeat (first|exact aG _ _|refine ay rfl ?_|refine av rfl ?_|refine aj rfl ?_|refine ak rfl ?_)))⟩
    ·refine aD (fun g9 w9 hn9 => ⟨fun _ h => h.trans hn9.ex, ?_⟩)
     have hb9 : Blk w9 g9 27 (intL false none 0 0) := hn9.blk
     have lo9 : w7.heap.size ≤ g9 := Nat.le_trans hEx.size hn9.lo
     try have ne910 : g9 ≠ g10 := (by have := hb10.lt; have := hn9.lo; omega)
     replace hEx := hEx.trans hn9.ex
     try replace hI3 := hI3.ext hn9.ex
     try replace hq := hq.ext hn9.ex
     try replace hb10 := hb10.ext hn9.ex
     refine ae ?_
     refine az (fuel := 9) (rs := [3, 10]) (by kernel_rfl) (by kernel_rfl) rfl ?_
     simp only [List.forall_mem_cons, List.not_mem_nil, false_implies, implies_true, and_true]
     refine ⟨?_, ?_⟩
     ·refine ax (ce (z := -((k : Int) + 1)) (by omega) (by omega) _) rfl ?_
      rintro v3 w3' ⟨hI3, hE3'⟩
      refine ⟨fun _ h => h.trans hE3', ?_⟩
      replace hEx := hEx.trans hE3'
      try replace hb9 := hb9.ext hE3'
      try replace hb10 := hb10.ext hE3'
      refine ae ?_
      refine az (fuel := 8) (rs := [4, 10]) (by kernel_rfl) (by kernel_rfl) rfl ?_
      simp only [List.forall_mem_cons, List.not_mem_nil, false_implies, implies_true, and_true]
      refine ⟨?_, ?_⟩
      ·refine ax (bf ((hI7.ext hEx).k hlbn) (hI3.k (bD (e := 1) (by omega) (Nat.le_refl _))) (by omega) (by omega)) rfl ?_
       rintro v4 w4' ⟨q, r, rfl, hq, hr, hE4'⟩
       refine ⟨fun _ h => h.trans hE4', ?_⟩
       obtain ⟨y, rfl⟩ := hq.ih
       obtain ⟨z, rfl⟩ := hr.ih
       replace hq := hq.mono (Nat.zero_le _)
       replace hEx := hEx.trans hE4'
       try replace hb9 := hb9.ext hE4'
       try replace hb10 := hb10.ext hE4'
       refine ae ?_
       refine bj (fuel := 4) (by kernel_rfl) (by kernel_rfl) [5, 6, 7, 8] _ _ (by kernel_rfl) ?_
       repeat' (first|refine aH rfl rfl ?_|refine ai rfl ?_|refine ae ?_)
       refine az (fuel := 3) (rs := [10]) (by kernel_rfl) (by kernel_rfl) rfl ?_
       rw [List.forall_mem_singleton]
       refine aD (fun g10 w10 hn10 => ⟨fun _ h => h.trans hn10.ex, ?_⟩)
       have hb10 : Blk w10 g10 27 (intL false none 0 0) := hn10.blk
       have lo10 : w7.heap.size ≤ g10 := Nat.le_trans hEx.size hn10.lo
       try have ne910 : g9 ≠ g10 := (by have := hb9.lt; have := hn10.lo; omega)
       replace hEx := hEx.trans hn10.ex
       try replace hI3 := hI3.ext hn10.ex
       try replace hq := hq.ext hn10.ex
       try replace hb9 := hb9.ext hn10.ex
       refine ae ?_
       refine az (fuel := 2) (rs := [11]) (by kernel_rfl) (by kernel_rfl) rfl ?_
       rw [List.forall_mem_singleton]
       refine aw (n := 2) (vs := y.cells) rfl rfl rfl rfl hb9 rfl (fun w11 hc11 hb11 => ⟨fun _ h => h.chg hc11 lo9, ?_⟩)
       replace hEx := hEx.chg hc11 lo9
       replace hq := hq.gbN hb9 (au _ _ _ _) (bc hc11)
       replace hb10 := hb10.chg hc11 (Ne.symm ne910)
       refine ae ?_
       refine az (fuel := 1) (rs := [12]) (by kernel_rfl) (by kernel_rfl) rfl ?_
       rw [List.forall_mem_singleton]
       refine aw (n := 2) (vs := z.cells) rfl rfl rfl rfl hb10 rfl (fun w12 hc12 hb12 => ⟨fun _ h => h.chg hc12 lo10, ?_⟩)
       replace hEx := hEx.chg hc12 lo10
       replace hq := hq.gbN hb10 (au _ _ _ _) (bc hc12)
       replace hb11 := hb11.chg hc12 ne910
       refine ae ?_
       refine bj (fuel := 0) (by kernel_rfl) (by kernel_rfl) [13] _ _ (by kernel_rfl) ?_
       repeat' (first|refine ai rfl ?_|refine ae ?_)
       refine bo (by kernel_rfl) ?_
       refine aa ?_
       exact ⟨⟨(_, y), ⟨hEx, lo9, hb11, hq⟩, rfl, trivial⟩, (by (repeat (first|exact aG _ _|refine ay rfl ?_|refine av rfl ?_|refine aj rfl ?_|refine ak rfl ?_)))⟩
      ·refine aD (fun g10 w10 hn10 => ⟨fun _ h => h.trans hn10.ex, ?_⟩)
       have hb10 : Blk w10 g10 27 (intL false none 0 0) := hn10.blk
       have lo10 : w7.heap.size ≤ g10 := Nat.le_trans hEx.size hn10.lo
       try have ne910 : g9 ≠ g10 := (by have := hb9.lt; have := hn10.lo; omega)
       replace hEx := hEx.trans hn10.ex
       try replace hI3 := hI3.ext hn10.ex
       try replace hq := hq.ext hn10.ex
       try replace hb9 := hb9.ext hn10.ex
       refine ae ?_
       refine az (fuel := 7) (rs := [4]) (by kernel_rfl) (by kernel_rfl) rfl ?_
       rw [List.forall_mem_singleton]
       refine ax (bf ((hI7.ext hEx).k hlbn) (hI3.k (bD (e := 1) (by omega) (Nat.le_refl _))) (by omega) (by omega)) rfl ?_
       rintro v4 w4' ⟨q, r, rfl, hq, hr, hE4'⟩
       refine ⟨fun _ h => h.trans hE4', ?_⟩
       obtain ⟨y, rfl⟩ := hq.ih
       obtain ⟨z, rfl⟩ := hr.ih
       replace hq := hq.mono (Nat.zero_le _)
       replace hEx := hEx.trans hE4'
       try replace hb9 := hb9.ext hE4'
       try replace hb10 := hb10.ext hE4'
       refine ae ?_
       refine bj (fuel := 3) (by kernel_rfl) (by kernel_rfl) [5, 6, 7, 8] _ _ (by kernel_rfl) ?_
       repeat' (first|refine aH rfl rfl ?_|refine ai rfl ?_|refine ae ?_)
       refine az (fuel := 2) (rs := [11]) (by kernel_rfl) (by kernel_rfl) rfl ?_
       rw [List.forall_mem_singleton]
       refine aw (n := 2) (vs := y.cells) rfl rfl rfl rfl hb9 rfl (fun w11 hc11 hb11 => ⟨fun _ h => h.chg hc11 lo9, ?_⟩)
       replace hEx := hEx.chg hc11 lo9
       replace hq := hq.gbN hb9 (au _ _ _ _) (bc hc11)
       replace hb10 := hb10.chg hc11 (Ne.symm ne910)
       refine ae ?_
       refine az (fuel := 1) (rs := [12]) (by kernel_rfl) (by kernel_rfl) rfl ?_
       rw [List.forall_mem_singleton]
       refine aw (n := 2) (vs := z.cells) rfl rfl rfl rfl hb10 rfl (fun w12 hc12 hb12 => ⟨fun _ h => h.chg hc12 lo10, ?_⟩)
       replace hEx := hEx.chg hc12 lo10
       replace hq := hq.gbN hb10 (au _ _ _ _) (bc hc12)
       replace hb11 := hb11.chg hc12 ne910
       refine ae ?_
       refine bj (fuel := 0) (by kernel_rfl) (by kernel_rfl) [13] _ _ (by kernel_rfl) ?_
       repeat' (first|refine ai rfl ?_|refine ae ?_)
       refine bo (by kernel_rfl) ?_
       refine aa ?_
       exact ⟨⟨(_, y), ⟨hEx, lo9, hb11, hq⟩, rfl, trivial⟩, (by (repeat (first|exact aG _ _|refine ay rfl ?_|refine av rfl ?_|refine aj rfl ?_|refine ak rfl ?_)))⟩
     ·refine aD (fun g10 w10 hn10 => ⟨fun _ h => h.trans hn10.ex, ?_⟩)
      have hb10 : Blk w10 g10 27 (intL false none 0 0) := hn10.blk
      have lo10 : w7.heap.size ≤ g10 := Nat.le_trans hEx.size hn10.lo
      try have ne910 : g9 ≠ g10 := (by have := hb9.lt; have := hn10.lo; omega)
      replace hEx := hEx.trans hn10.ex
      try replace hI3 := hI3.ext hn10.ex
      try replace hq := hq.ext hn10.ex
      try replace hb9 := hb9.ext hn10.ex
      refine ae ?_
      refine az (fuel := 8) (rs := [3]) (by kernel_rfl) (by kernel_rfl) rfl ?_
      rw [List.forall_mem_singleton]
      refine ax (ce (z := -((k : Int) + 1)) (by omega) (by omega) _) rfl ?_
      rintro v3 w3' ⟨hI3, hE3'⟩
      refine ⟨fun _ h => h.trans hE3', ?_⟩
      replace hEx := hEx.trans hE3'
      try replace hb9 := hb9.ext hE3'
      try replace hb10 := hb10.ext hE3'
      refine ae ?_
      refine az (fuel := 7) (rs := [4]) (by kernel_rfl) (by kernel_rfl) rfl ?_
      rw [List.forall_mem_singleton]
      refine ax (bf ((hI7.ext hEx).k hlbn) (hI3.k (bD (e := 1) (by omega) (Nat.le_refl _))) (by omega) (by omega)) rfl ?_
      rintro v4 w4' ⟨q, r, rfl, hq, hr, hE4'⟩
      refine ⟨fun _ h => h.trans hE4', ?_⟩
      obtain ⟨y, rfl⟩ := hq.ih
      obtain ⟨z, rfl⟩ := hr.ih
      replace hq := hq.mono (Nat.zero_le _)
      replace hEx := hEx.trans hE4'
      try replace hb9 := hb9.ext hE4'
      try replace hb10 := hb10.ext hE4'
      refine ae ?_
      refine bj (fuel := 3) (by kernel_rfl) (by kernel_rfl) [5, 6, 7, 8] _ _ (by kernel_rfl) ?_
      repeat' (first|refine aH rfl rfl ?_|refine ai rfl ?_|refine ae ?_)
      refine az (fuel := 2) (rs := [11]) (by kernel_rfl) (by kernel_rfl) rfl ?_
      rw [List.forall_mem_singleton]
      refine aw (n := 2) (vs := y.cells) rfl rfl rfl rfl hb9 rfl (fun w11 hc11 hb11 => ⟨fun _ h => h.chg hc11 lo9, ?_⟩)
      replace hEx := hEx.chg hc11 lo9
      replace hq := hq.gbN hb9 (au _ _ _ _) (bc hc11)
      replace hb10 := hb10.chg hc11 (Ne.symm ne910)
      refine ae ?_
      refine az (fuel := 1) (rs := [12]) (by kernel_rfl) (by kernel_rfl) rfl ?_
      rw [List.forall_mem_singleton]
      refine aw (n := 2) (vs := z.cells) rfl rfl rfl rfl hb10 rfl (fun w12 hc12 hb12 => ⟨fun _ h => h.chg hc12 lo10, ?_⟩)
      replace hEx := hEx.chg hc12 lo10
      replace hq := hq.gbN hb10 (au _ _ _ _) (bc hc12)
      replace hb11 := hb11.chg hc12 ne910
      refine ae ?_
      refine bj (fuel := 0) (by kernel_rfl) (by kernel_rfl) [13] _ _ (by kernel_rfl) ?_
      repeat' (first|refine ai rfl ?_|refine ae ?_)
      refine bo (by kernel_rfl) ?_
      refine aa ?_
      exact ⟨⟨(_, y), ⟨hEx, lo9, hb11, hq⟩, rfl, trivial⟩, (by (repeat (first|exact aG _ _|refine ay rfl ?_|refine av rfl ?_|refine aj rfl ?_|refine ak rfl ?_)))⟩
    ·refine aD (fun g10 w10 hn10 => ⟨fun _ h => h.trans hn10.ex, ?_⟩)
     have hb10 : Blk w10 g10 27 (intL false none 0 0) := hn10.blk
     have lo10 : w7.heap.size ≤ g10 := Nat.le_trans hEx.size hn10.lo
     try have ne910 : g9 ≠ g10 := (by have := hb9.lt; have := hn10.lo; omega)
     replace hEx := hEx.trans hn10.ex
     try replace hI3 := hI3.ext hn10.ex
     try replace hq := hq.ext hn10.ex
     try replace hb9 := hb9.ext hn10.ex
     refine ae ?_
     refine az (fuel := 9) (rs := [3, 9]) (by kernel_rfl) (by kernel_rfl) rfl ?_
     simp only [List.forall_mem_cons, List.not_mem_nil, false_implies, implies_true, and_true]
     refine ⟨?_, ?_⟩
     ·refine ax (ce (z := -((k : Int) + 1)) (by omega) (by omega) _) rfl ?_
      rintro v3 w3' ⟨hI3, hE3'⟩
      refine ⟨fun _ h => h.trans hE3', ?_⟩
      replace hEx := hEx.trans hE3'
      try replace hb9 := hb9.ext hE3'
      try replace hb10 := hb10.ext hE3'
      refine ae ?_
      refine az (fuel := 8) (rs := [4, 9]) (by kernel_rfl) (by kernel_rfl) rfl ?_
      simp only [List.forall_mem_cons, List.not_mem_nil, false_implies, implies_true, and_true]
      refine ⟨?_, ?_⟩
      ·refine ax (bf ((hI7.ext hEx).k hlbn) (hI3.k (bD (e := 1) (by omega) (Nat.le_refl _))) (by omega) (by omega)) rfl ?_
       rintro v4 w4' ⟨q, r, rfl, hq, hr, hE4'⟩
       refine ⟨fun _ h => h.trans hE4', ?_⟩
       obtain ⟨y, rfl⟩ := hq.ih
       obtain ⟨z, rfl⟩ := hr.ih
       replace hq := hq.mono (Nat.zero_le _)
       replace hEx := hEx.trans hE4'
       try replace hb9 := hb9.ext hE4'
       try replace hb10 := hb10.ext hE4'
       refine ae ?_
       refine bj (fuel := 4) (by kernel_rfl) (by kernel_rfl) [5, 6, 7, 8] _ _ (by kernel_rfl) ?_
       repeat' (first|refine aH rfl rfl ?_|refine ai rfl ?_|refine ae ?_)
       refine az (fuel := 3) (rs := [9]) (by kernel_rfl) (by kernel_rfl) rfl ?_
       rw [List.forall_mem_singleton]
       refine aD (fun g9 w9 hn9 => ⟨fun _ h => h.trans hn9.ex, ?_⟩)
       have hb9 : Blk w9 g9 27 (intL false none 0 0) := hn9.blk
       have lo9 : w7.heap.size ≤ g9 := Nat.le_trans hEx.size hn9.lo
       try have ne910 : g9 ≠ g10 := (by have := hb10.lt; have := hn9.lo; omega)
       replace hEx := hEx.trans hn9.ex
       try replace hI3 := hI3.ext hn9.ex
       try replace hq := hq.ext hn9.ex
       try replace hb10 := hb10.ext hn9.ex
       refine ae ?_
       refine az (fuel := 2) (rs := [11]) (by kernel_rfl) (by kernel_rfl) rfl ?_
       rw [List.forall_mem_singleton]
       refine aw (n := 2) (vs := y.cells) rfl rfl rfl rfl hb9 rfl (fun w11 hc11 hb11 => ⟨fun _ h => h.chg hc11 lo9, ?_⟩)
       replace hEx := hEx.chg hc11 lo9
       replace hq := hq.gbN hb9 (au _ _ _ _) (bc hc11)
       replace hb10 := hb10.chg hc11 (Ne.symm ne910)
       refine ae ?_
       refine az (fuel := 1) (rs := [12]) (by kernel_rfl) (by kernel_rfl) rfl ?_
       rw [List.forall_mem_singleton]
       refine aw (n := 2) (vs := z.cells) rfl rfl rfl rfl hb10 rfl (fun w12 hc12 hb12 => ⟨fun _ h => h.chg hc12 lo10, ?_⟩)
       replace hEx := hEx.chg hc12 lo10
       replace hq := hq.gbN hb10 (au _ _ _ _) (bc hc12)
       replace hb11 := hb11.chg hc12 ne910
       refine ae ?_
       refine bj (fuel := 0) (by kernel_rfl) (by kernel_rfl) [13] _ _ (by kernel_rfl) ?_
       repeat' (first|refine ai rfl ?_|refine ae ?_)
       refine bo (by kernel_rfl) ?_
       refine aa ?_
       exact ⟨⟨(_, y), ⟨hEx, lo9, hb11, hq⟩, rfl, trivial⟩, (by (repeat (first|exact aG _ _|refine ay rfl ?_|refine av rfl ?_|refine aj rfl ?_|refine ak rfl ?_)))⟩
      ·refine aD (fun g9 w9 hn9 => ⟨fun _ h => h.trans hn9.ex, ?_⟩)
       have hb9 : Blk w9 g9 27 (intL false none 0 0) := hn9.blk
       have lo9 : w7.heap.size ≤ g9 := Nat.le_trans hEx.size hn9.lo
       try have ne910 : g9 ≠ g10 := (by have := hb10.lt; have := hn9.lo; omega)
       replace hEx := hEx.trans hn9.ex
       try replace hI3 := hI3.ext hn9.ex
       try replace hq := hq.ext hn9.ex
       try replace hb10 := hb10.ext hn9.ex
       refine ae ?_
       refine az (fuel := 7) (rs := [4]) (by kernel_rfl) (by kernel_rfl) rfl ?_
       rw [List.forall_mem_singleton]
       refine ax (bf ((hI7.ext hEx).k hlbn) (hI3.k (bD (e := 1) (by omega) (Nat.le_refl _))) (by omega) (by omega)) rfl ?_
       rintro v4 w4' ⟨q, r, rfl, hq, hr, hE4'⟩
       refine ⟨fun _ h => h.trans hE4', ?_⟩
       obtain ⟨y, rfl⟩ := hq.ih
       obtain ⟨z, rfl⟩ := hr.ih
       replace hq := hq.mono (Nat.zero_le _)
       replace hEx := hEx.trans hE4'
       try replace hb9 := hb9.ext hE4'
       try replace hb10 := hb10.ext hE4'
       refine ae ?_
       refine bj (fuel := 3) (by kernel_rfl) (by kernel_rfl) [5, 6, 7, 8] _ _ (by kernel_rfl) ?_
       repeat' (first|refine aH rfl rfl ?_|refine ai rfl ?_|refine ae ?_)
       refine az (fuel := 2) (rs := [11]) (by kernel_rfl) (by kernel_rfl) rfl ?_
       rw [List.forall_mem_singleton]
       refine aw (n := 2) (vs := y.cells) rfl rfl rfl rfl hb9 rfl (fun w11 hc11 hb11 => ⟨fun _ h => h.chg hc11 lo9, ?_⟩)
       replace hEx := hEx.chg hc11 lo9
       replace hq := hq.gbN hb9 (au _ _ _ _) (bc hc11)
       replace hb10 := hb10.chg hc11 (Ne.symm ne910)
       refine ae ?_
       refine az (fuel := 1) (rs := [12]) (by kernel_rfl) (by kernel_rfl) rfl ?_
       rw [List.forall_mem_singleton]
       refine aw (n := 2) (vs := z.cells) rfl rfl rfl rfl hb10 rfl (fun w12 hc12 hb12 => ⟨fun _ h => h.chg hc12 lo10, ?_⟩)
       replace hEx := hEx.chg hc12 lo10
       replace hq := hq.gbN hb10 (au _ _ _ _) (bc hc12)
       replace hb11 := hb11.chg hc12 ne910
       refine ae ?_
       refine bj (fuel := 0) (by kernel_rfl) (by kernel_rfl) [13] _ _ (by kernel_rfl) ?_
       repeat' (first|refine ai rfl ?_|refine ae ?_)
       refine bo (by kernel_rfl) ?_
       refine aa ?_
       exact ⟨⟨(_, y), ⟨hEx, lo9, hb11, hq⟩, rfl, trivial⟩, (by (repeat (first|exact aG _ _|refine ay rfl ?_|refine av rfl ?_|refine aj rfl ?_|refine ak rfl ?_)))⟩
     ·refine aD (fun g9 w9 hn9 => ⟨fun _ h => h.trans hn9.ex, ?_⟩)
      have hb9 : Blk w9 g9 27 (intL false none 0 0) := hn9.blk
      have lo9 : w7.heap.size ≤ g9 := Nat.le_trans hEx.size hn9.lo
      try have ne910 : g9 ≠ g10 := (by have := hb10.lt; have := hn9.lo; omega)
      replace hEx := hEx.trans hn9.ex
      try replace hI3 := hI3.ext hn9.ex
      try replace hq := hq.ext hn9.ex
      try replace hb10 := hb10.ext hn9.ex
      refine ae ?_
      refine az (fuel := 8) (rs := [3]) (by kernel_rfl) (by kernel_rfl) rfl ?_
      rw [List.forall_mem_singleton]
      refine ax (ce (z := -((k : Int) + 1)) (by omega) (by omega) _) rfl ?_
      rintro v3 w3' ⟨hI3, hE3'⟩
      refine ⟨fun _ h => h.trans hE3', ?_⟩
      replace hEx := hEx.trans hE3'
      try replace hb9 := hb9.ext hE3'
      try replace hb10 := hb10.ext hE3'
      refine ae ?_
      refine az (fuel := 7) (rs := [4]) (by kernel_rfl) (by kernel_rfl) rfl ?_
      rw [List.forall_mem_singleton]
      refine ax (bf ((hI7.ext hEx).k hlbn) (hI3.k (bD (e := 1) (by omega) (Nat.le_refl _))) (by omega) (by omega)) rfl ?_
      rintro v4 w4' ⟨q, r, rfl, hq, hr, hE4'⟩
      refine ⟨fun _ h => h.trans hE4', ?_⟩
      obtain ⟨y, rfl⟩ := hq.ih
      obtain ⟨z, rfl⟩ := hr.ih
      replace hq := hq.mono (Nat.zero_le _)
      replace hEx := hEx.trans hE4'
      try replace hb9 := hb9.ext hE4'
      try replace hb10 := hb10.ext hE4'
      refine ae ?_
      refine bj (fuel := 3) (by kernel_rfl) (by kernel_rfl) [5, 6, 7, 8] _ _ (by kernel_rfl) ?_
      repeat' (first|refine aH rfl rfl ?_|refine ai rfl ?_|refine ae ?_)
      refine az (fuel := 2) (rs := [11]) (by kernel_rfl) (by kernel_rfl) rfl ?_
      rw [List.forall_mem_singleton]
      refine aw (n := 2) (vs := y.cells) rfl rfl rfl rfl hb9 rfl (fun w11 hc11 hb11 => ⟨fun _ h => h.chg hc11 lo9, ?_⟩)
      replace hEx := hEx.chg hc11 lo9
      replace hq := hq.gbN hb9 (au _ _ _ _) (bc hc11)
      replace hb10 := hb10.chg hc11 (Ne.symm ne910)
      refine ae ?_
      refine az (fuel := 1) (rs := [12]) (by kernel_rfl) (by kernel_rfl) rfl ?_
      rw [List.forall_mem_singleton]
      refine aw (n := 2) (vs := z.cells) rfl rfl rfl rfl hb10 rfl (fun w12 hc12 hb12 => ⟨fun _ h => h.chg hc12 lo10, ?_⟩)
      replace hEx := hEx.chg hc12 lo10
      replace hq := hq.gbN hb10 (au _ _ _ _) (bc hc12)
      replace hb11 := hb11.chg hc12 ne910
      refine ae ?_
      refine bj (fuel := 0) (by kernel_rfl) (by kernel_rfl) [13] _ _ (by kernel_rfl) ?_
      repeat' (first|refine ai rfl ?_|refine ae ?_)
      refine bo (by kernel_rfl) ?_
      refine aa ?_
      exact ⟨⟨(_, y), ⟨hEx, lo9, hb11, hq⟩, rfl, trivial⟩, (by (repeat (first|exact aG _ _|refine ay rfl ?_|refine av rfl ?_|refine aj rfl ?_|refine ak rfl ?_)))⟩
   ·rintro ⟨g8, y⟩ ξ3 w8 ⟨hE78, hlo8, hb8, hI8⟩
    simp only at hlo8 hb8 hI8
    show CW _ _ _ _ (over [(8, .pointer (some ⟨g8, 0, none⟩))] _) w8
    have hO8 := hO7.ext hE78
    have hlbC : Lb (K + (16 * K + 64) + 1 + 1) (flC n A k) := Lb.div hlbn _
    have hstep : ∀ i j, flP n A (k + 1) i j = mm n A (flP n A k) i j + flC n A k * idM i j := fun i j => rfl
    have hE8 := hE7.trans hE78
    repeat' (first|refine ai rfl ?_|refine aa ?_|refine ao ?_|refine ah rfl ?_|refine ae ?_|refine aC ?_)
    refine bh (ι := Nat) [11, 53, 54, 55, 56, 57, 58, 59, 60, 61, 62, 63, 64, 65, 66, 67, 68, 69, 70, 71] (fun i => [(53, .int .i64 (i : Int))])
     (fun i w' => i ≤ n ∧ Ex w w' ∧ MO true (K + (16 * K + 64) + 1 + 1 + 1) w' w.heap.size g4 n n gs4 cp4 (dgM (mm n A (flP n A k)) (flC n A k) i) ∧ Blk w' g8 27 y.cells ∧ IntC 0 w' y.val (flC n A k)) (fun i => n - i)
     0 ⟨rfl, trivial⟩ ⟨by omega, hE8, (hO8.up (by omega)).congr (fun a b _ _ => by unfold dgM; rw [if_neg (by omega)]), hb8, hI8⟩ ?_
    have hg8 : ∀ m, m < n → gs4 m ≠ g8 := fun m hm => by have := (hO7.row m hm).lt; omega
    clear hO8 hI8
    rintro i ξ4 w9 ⟨hi, hE9, hO9, hb9, hI9⟩
    show CW _ _ _ _ (over [(53, .int .i64 (i : Int))] _) w9
    rcases Nat.lt_or_ge i n with hin | hin
    ·obtain ⟨hh, hbi, hci, hEi⟩ := hO9.get hin
     have hEd : Ex w9 w9.drew := (Ex.refl _).drew
     repeat' (first|refine bA rfl rfl (by omega) ?_|refine aa ?_|refine ao ?_|refine ah rfl ?_|refine ae ?_|refine aE rfl ?_|refine aI ?_)
     refine aC ?_
     repeat' (first|refine ai rfl ?_|refine aa ?_|refine ao ?_|refine ah rfl ?_|refine ae ?_)
     refine aZ (late := [15]) (plan := [(0, none), (1, none), (2, none), (3, none), (4, none), (5, none), (6, none), (7, none), (8, none), (9, none), (10, none), (11, none), (12, none), (13, some true), (14, none), (15, some false)]) (fun w' => Ex w9 w') bt (by kernel_rfl) hEd ?_
     repeat' (first|refine aP (g := g8) rfl (fun _ h => hb9.ext h) rfl ?_|refine aB (j := i) (a := some ⟨g4, 0, none⟩) rfl rfl ⟨_, _, rfl⟩ (by omega) ?_|refine aS (j := i) (a := some ⟨g4, 0, none⟩) (n := n) (s := fun k => ⟨some ⟨gs4 k, 0, none⟩, n, cp4 k⟩) rfl (fun _ h => (hO9.ext h).top.sl) (by omega) rfl ?_|refine aU (j := i) (a := some ⟨gs4 i, 0, none⟩) rfl rfl ⟨_, _, rfl⟩ (by omega) ?_|refine bp (j := i) (a := some ⟨gs4 i, 0, none⟩) rfl (fun _ h => (hbi.ext h).sl) ⟨_, _, rfl⟩ (by omega) ?_|refine ai rfl ?_)
     have hii : dgM (mm n A (flP n A k)) (flC n A k) i i i = mm n A (flP n A k) i i := by unfold dgM; rw [if_neg (by omega)]
     refine ax (dF ((hEi i hin).ext hEd).k ((hI9.ext hEd).k hlbC) (by omega) (by omega)) rfl ?_
     rintro v w10 ⟨hI10, hE10⟩
     refine ⟨fun _ h => h.trans hE10, ?_⟩
     rw [hii] at hI10
     obtain ⟨u, rfl⟩ := hI10.ih
     have hE910 := hEd.trans hE10
     repeat' (first|refine aU (j := i) (a := some ⟨gs4 i, 0, none⟩) rfl rfl ⟨_, _, rfl⟩ (by omega) ?_)
     refine bP (j := i) (u := u) rfl rfl (hbi.ext hE910) (by omega) (fun w11 hc11 hb11 => ⟨fun h => (nomatch h), ?_⟩)
     repeat' (first|refine ai rfl ?_|refine aa ?_|refine ah rfl ?_|refine ae ?_|refine bi rfl rfl (by omega) (by omega) ?_|refine aM ?_)
     have hu : Ent true (K + (16 * K + 64) + 1 + 1 + 1) w10 u.val (mm n A (flP n A k) i i + flC n A k) := Ent.of hI10 (((hlb i i hin hin).mono (e' := K + (16 * K + 64) + 1 + 1) (by omega)).add hlbC)
     have hput := (hO9.ext hE910).put (j := i) hin (hbi.ext hE910) (fun m hm => (hEi m hm).ext hE910) hu hc11 hb11
     have hloi := (hO9.row i hin).low
     have hg8i := hg8 i hin
     exact ⟨⟨i + 1, ⟨hin, (hE9.trans hE910).chg hc11 hloi, hput.congr (fun a b _ _ => (qt _ _ i a b).symm), (hb9.ext hE910).chg hc11 (Ne.symm hg8i), (hI9.ext hE910).gbN (hbi.ext hE910) (bx _ _) (bc hc11)⟩, by omega, rfl, trivial⟩, (by (repeat (first|exact aF _ _ _|refine ay rfl ?_|refine av rfl ?_|refine aj rfl ?_|refine ak rfl ?_)))⟩
    ·have ein : n = i := by omega
     subst ein
     repeat' (first|refine bz rfl rfl (by omega) ?_|refine bi rfl rfl (by omega) (by omega) ?_|refine ai rfl ?_|refine aa ?_|refine ao ?_|refine ah rfl ?_|refine ae ?_|refine aA rfl ?_|refine aW ?_|refine aO ?_|refine aX ?_|refine aM ?_)
     have hfin := (hO9.congr (F' := flP n A (k + 1)) (fun a b ha hb => by
      rw [hstep]; unfold dgM idM
      by_cases h : a = b
      ·rw [if_pos h, if_pos ⟨h, ha⟩, Int.mul_one]
      ·rw [if_neg h, if_neg (by omega), Int.mul_zero, Int.add_zero])).sharp (K' := 16 * K + 64) (fun a b ha hb => qr hA hn.2 (by omega) ha hb)
     have hci : Value.int .i64 (((k + 1 : Nat) : Int) + 1) = .int .i64 ((k + 1 + 1 : Nat) : Int) := by rw [show ((k + 1 : Nat) : Int) + 1 = ((k + 1 + 1 : Nat) : Int) by omega]
     refine ⟨⟨(k + 1, g4, gs4, cp4), ⟨hkn, hE9, hfin⟩, ?_, hci, rfl, trivial⟩, (by (repeat (first|exact aF _ _ _|refine ay rfl ?_|refine av rfl ?_|refine aj rfl ?_|refine ak rfl ?_)))⟩
     show n - (k + 1) < n - k
     omega
 ·have ek : k = n - 1 := by omega
  subst ek
  have hs := dw n
  repeat' (first|refine bz rfl rfl (by omega) ?_|refine m6 rfl rfl (by omega) (by omega) ?_|refine ai rfl ?_|refine aa ?_|refine ao ?_|refine ah rfl ?_|refine ae ?_|refine aA rfl ?_|refine aR rfl (fun hc => ?_) (fun hc => ?_)|refine aW ?_|refine aO ?_|refine aX ?_|refine aT ?_|refine aI ?_)
  ·refine ax (kM hO3.mx hn hn) rfl ?_
   rintro v w4 ⟨g4, gs4, cp4, rfl, hO4, hE4⟩
   refine ⟨fun _ _ => trivial, ?_⟩
   repeat' (first|refine ai rfl ?_|refine aa ?_|refine ae ?_|refine aT ?_|refine bw ?_)
   refine bF rfl (rt rfl) ⟨g4, gs4, cp4, rfl, (hO4.mono hE3.size).congr (fun a b _ _ => ?_), hE3.trans hE4⟩
   rw [show Go.LA.sgn (n + 1) = -1 by rw [hs]; unfold Go.LA.sgn; rw [if_pos (by omega)], Int.neg_one_mul]
  ·refine bF rfl (rt rfl) ⟨g, gs, cp, rfl, hO3.congr (fun a b _ _ => ?_), hE3⟩
   rw [show Go.LA.sgn (n + 1) = 1 by rw [hs]; unfold Go.LA.sgn; rw [if_neg (by omega)]; rfl, Int.one_mul]
end Go.Proofs.Ytppipmkpmmdcjaa
