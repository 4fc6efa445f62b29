import Derived.Test.YtpfhfldehaiokaaGreatA04
set_option maxHeartbeats 1000000
namespace Go.Proofs.YtpfhfldehaiokaaGreat
open Go.W Go.LM
def sgn (neg : Bool) (n : Nat) : Int := if neg then -(n : Int) else n
abbrev intL (neg : Bool) (a : Option Addr) (n c : Nat) : List Value := [.bool neg, .slice a n c]
def IntC (lo : Nat) (w : World) (v : Value) (z : Int) : Prop :=
 ∃ neg a c ls, v = .agg (intL neg a ls.length c).toArray ∧ Limbs w a c ls ∧ z = sgn neg (natOf ls) ∧ Canon ls ∧ (neg = true → ls ≠ []) ∧ ∀ ad, a = some ad → lo ≤ ad.block
theorem IntC.ext {lo : Nat} {w w' : World} {v : Value} {z : Int} (h : IntC lo w v z) (e : Ex w w') : IntC lo w' v z := by obtain ⟨neg, a, c, ls, h1, h2, h3⟩ := h; exact ⟨neg, a, c, ls, h1, h2.ext e, h3⟩
theorem IntC.mono {lo lo' : Nat} {w : World} {v : Value} {z : Int} (h : IntC lo w v z) (hl : lo' ≤ lo) : IntC lo' w v z := by
 obtain ⟨neg, a, c, ls, h1, h2, h3, h4, h5, h6⟩ := h; exact ⟨neg, a, c, ls, h1, h2, h3, h4, h5, fun ad e => by have := h6 ad e; omega⟩
theorem IntC.chg {lo g : Nat} {w w' : World} {v : Value} {z : Int} (h : IntC lo w v z) (e : Chg g w w') (hg : g < lo) : IntC lo w' v z := by
 obtain ⟨neg, a, c, ls, h1, h2, h3, h4, h5, h6⟩ := h; exact ⟨neg, a, c, ls, h1, h2.chg e (fun ad ea => by have := h6 ad ea; omega), h3, h4, h5, h6⟩
def RetZ (w : World) (z : Int) (v : Value) (w' : World) : Prop := IntC w.heap.size w' v z ∧ Ex w w'
theorem cQ {ls : List Nat} {a : Option Addr} {c lo : Nat} {w : World} (h : Limbs w a c ls) (hc : Canon ls) (hlo : ∀ ad, a = some ad → lo ≤ ad.block) (neg : Bool) :
  CallsR Tryz.prog 52 #[.bool neg, .slice a ls.length c] w fun v w' => IntC lo w' v (sgn neg (natOf ls)) ∧ Ex w w' := by
 refine aE (args := [_, _]) Tryz.func52 rfl rfl ?_
 have hcan := hc
 clear hc
 repeat' (first|refine aH (fun g w1 hn => tvv ?_)|refine aj rfl ?_|refine aa ?_|refine ak ?_|refine ai rfl ?_|refine ah ?_|refine bc rfl ?_|refine aQ rfl (fun hc => ?_) (fun hc => ?_)|refine aC ?_)
 ·have hb : Blk w1 g 34 (intL false none 0 0) := hn.blk
  refine da (cs := intL false none 0 0) rfl ?_
  refine aF (n := 2) rfl rfl rfl rfl hb rfl (fun w2 hc2 hb2 => tvv ?_)
  repeat' (first|refine aa ?_|refine ah ?_|refine aK ?_|refine bf ?_)
  have hl : ls = [] := List.eq_nil_of_length_eq_zero (by omega)
  subst hl
  refine bo rfl (rc rfl rfl hb2) ⟨⟨false, none, 0, [], rfl, Limbs.nil _ _ _, ?_, rfl, by simp, by simp⟩, hn.ex.chg hc2 hn.lo⟩
  cases neg <;> rfl
 ·have hb : Blk w1 g 34 (intL false none 0 0) := hn.blk
  refine da (cs := intL neg a ls.length c) rfl ?_
  refine aF (n := 2) rfl rfl rfl rfl hb rfl (fun w2 hc2 hb2 => tvv ?_)
  repeat' (first|refine aa ?_|refine ah ?_|refine aK ?_)
  have hE := hn.ex.chg hc2 hn.lo
  exact bo rfl (rc rfl rfl hb2) ⟨⟨neg, a, c, ls, rfl, h.ext hE, rfl, hcan, fun _ e => hc (by rw [e]; rfl), hlo⟩, hE⟩
theorem jo {z : Int} (h1 : -9223372036854775808 ≤ z) (h2 : z ≤ 9223372036854775807) (w : World) : CallsR Tryz.prog 126 #[.int .i64 z] w (RetZ w z) := by
 refine aE (args := [_]) Tryz.func126 rfl rfl ?_
 repeat' (first|refine aH (fun g w1 hn => tvv ?_)|refine aj rfl ?_|refine aa ?_|refine ak ?_|refine ai rfl ?_|refine ah ?_|refine aQ rfl (fun hc => ?_) (fun hc => ?_)|refine aC ?_)
 ·have hb : Blk w1 g 34 (intL false none 0 0) := hn.blk
  refine im rfl ?_
  refine jZ rfl ?_
  obtain ⟨n, rfl⟩ : ∃ n : Nat, z = -(n : Int) := ⟨(-z).toNat, by omega⟩
  rw [show IntKind.u64.wrap (-IntKind.u64.wrap (-(n : Int))) = ((n : Nat) : Int) by
   rw [cY rfl, cY rfl]; simp only [IntKind.bits]; omega]
  refine au (dK (by omega) _) rfl ?_
  rintro v w2 ⟨a, c, rfl, hL, hf, hE2⟩
  refine tvv ?_
  refine au (cQ hL (dH _) hf true) rfl ?_
  rintro v w3 ⟨hI, hE3⟩
  obtain ⟨neg, a', c', ls, rfl, hI'⟩ := id hI
  refine tvv ?_
  refine aF (n := 2) rfl rfl rfl rfl ((hb.ext hE2).ext hE3) rfl (fun w4 hc4 hb4 => tvv ?_)
  repeat' (first|refine aa ?_|refine ah ?_|refine aK ?_|refine bf ?_)
  have hl := hn.lo
  have hh := hn.hi
  refine bo rfl (rc rfl rfl hb4) ⟨?_, ((hn.ex.trans hE2).trans hE3).chg hc4 hl⟩
  have := (hI.chg hc4 hh).mono hn.ex.size
  rwa [dS] at this
 ·have hb : Blk w1 g 34 (intL false none 0 0) := hn.blk
  obtain ⟨n, rfl⟩ : ∃ n : Nat, z = (n : Int) := ⟨z.toNat, by omega⟩
  refine cF rfl (cV (by omega) (by omega)) ?_
  refine au (dK (by omega) _) rfl ?_
  rintro v w2 ⟨a, c, rfl, hL, hf, hE2⟩
  refine tvv ?_
  refine au (cQ hL (dH _) hf false) rfl ?_
  rintro v w3 ⟨hI, hE3⟩
  obtain ⟨neg, a', c', ls, rfl, hI'⟩ := id hI
  refine tvv ?_
  refine aF (n := 2) rfl rfl rfl rfl ((hb.ext hE2).ext hE3) rfl (fun w4 hc4 hb4 => tvv ?_)
  repeat' (first|refine aa ?_|refine ah ?_|refine aK ?_)
  have hl := hn.lo
  have hh := hn.hi
  refine bo rfl (rc rfl rfl hb4) ⟨?_, ((hn.ex.trans hE2).trans hE3).chg hc4 hl⟩
  have := (hI.chg hc4 hh).mono hn.ex.size
  rwa [dS] at this
def cmpZ (m n : Nat) : Int := if m < n then -1 else if n < m then 1 else 0
theorem dg {ls : List Nat} {k : Nat} (h : k < ls.length) : natOf (ls.drop k) = ls.getD k 0 + 4294967296 * natOf (ls.drop (k + 1)) := by
 rw [List.drop_eq_getElem_cons h, natOf, List.getD_eq_getElem?_getD, List.getElem?_eq_getElem h]; rfl
theorem dD (ls : List Nat) {k : Nat} (h : k ≤ ls.length) : natOf ls = natOf (ls.take k) + 4294967296 ^ k * natOf (ls.drop k) := by
 conv => lhs; rw [← List.take_append_drop k ls, db]
 simp [Nat.min_eq_left h]
theorem eA {a b : Nat} (h : a ≤ b) : 4294967296 ^ a ≤ 4294967296 ^ b := Nat.pow_le_pow_right (by decide) h
theorem fu {a b : List Nat} (ha : Lim a) (hb : Canon b) (h : a.length < b.length) : natOf a < natOf b := by
 have h1 := bQ ha
 have h2 := jE hb (by intro e; rw [e] at h; simp at h)
 have := eA (show a.length ≤ b.length - 1 by omega)
 omega
theorem fU {a b : List Nat} {i : Nat} (ha : Lim a) (hl : a.length = b.length) (hi : i < a.length) (he : natOf (a.drop (i + 1)) = natOf (b.drop (i + 1))) (h : a.getD i 0 < b.getD i 0) : natOf a < natOf b := by
 rw [dD a (k := i) (by omega), dD b (k := i) (by omega), dg (ls := a) hi, dg (ls := b) (k := i) (by omega), he]
 have h1 := bQ (ha.take i)
 simp only [List.length_take, Nat.min_eq_left (Nat.le_of_lt hi)] at h1
 have h2 : 4294967296 ^ i * (a.getD i 0 + 1) ≤ 4294967296 ^ i * b.getD i 0 := Nat.mul_le_mul_left _ h
 rw [Nat.mul_add, Nat.mul_add]
 rw [Nat.mul_add] at h2
 omega
theorem d7 {la lb : List Nat} {a b : Option Addr} {c d : Nat} {w : World} (ha : Limbs w a c la) (hb : Limbs w b d lb) (ca : Canon la) (cb : Canon lb) :
  CallsR Tryz.prog 88 #[.slice a la.length c, .slice b lb.length d] w fun v w' => v = .int .i64 (cmpZ (natOf la) (natOf lb)) ∧ Ex w w' := by
 have hla := ha.len
 refine aE (args := [_, _]) Tryz.func88 rfl rfl ?_
 repeat' (first|refine aj rfl ?_|refine aa ?_|refine ak ?_|refine ai rfl ?_|refine ah ?_|refine bc rfl ?_|refine bK rfl rfl (by omega) (by omega) ?_|refine aQ rfl (fun hc => ?_) (fun hc => ?_)|refine ay ?_|refine aJ ?_|refine aK ?_|refine bf ?_|refine cj ?_|refine aC ?_)
 ·refine bo rfl (rt rfl) ⟨?_, Ex.refl _⟩
  rw [cmpZ, if_pos (fu ha.lim cb (by omega))]; rfl
 ·refine bo rfl (rt rfl) ⟨?_, Ex.refl _⟩
  have := fu hb.lim ca (by omega)
  rw [cmpZ, if_neg (by omega), if_pos this]; rfl
 ·have hl : la.length = lb.length := by omega
  refine aW (ι := Nat) [4, 5, 21, 22, 23, 24, 25, 26, 27, 28, 29, 30, 31, 32, 33, 34, 35, 36, 37, 38, 39, 40, 41, 42, 43, 44] (fun k => [(5, .int .i64 ((k : Int) - 1))]) (fun k w' => k ≤ la.length ∧ Ex w w' ∧ natOf (la.drop k) = natOf (lb.drop k)) (fun k => k) la.length ⟨rfl, trivial⟩
   ⟨Nat.le_refl _, Ex.refl _, by rw [List.drop_length, hl, List.drop_length]⟩ ?_
  rintro k ξ w2 ⟨hk, hE, hT⟩
  repeat' (first|refine aj rfl ?_|refine aa ?_|refine ak ?_|refine ai rfl ?_|refine ah ?_|refine aQ rfl (fun hc => ?_) (fun hc => ?_)|refine ay ?_|refine aT ?_|refine aO ?_|refine aU ?_|refine aK ?_|refine aC ?_)
  ·obtain ⟨j, rfl⟩ : ∃ j, k = j + 1 := ⟨k - 1, by omega⟩
   rw [show ((j + 1 : Nat) : Int) - 1 = (j : Int) by omega]
   refine bn (late := []) (plan := [(0, none), (1, none), (2, none), (3, none), (4, none), (5, none), (6, none), (7, none), (8, none), (9, none)]) (fun w' => Ex w w') bD (by kernel_rfl) hE.drew ?_
   repeat' (first|(refine az (j := j) rfl rfl (ha.sl.plain (by simp; omega)) (by omega) ?_)|(refine az (j := j) rfl rfl (hb.sl.plain (by simp; omega)) (by omega) ?_)|refine bI rfl (fun _ h => ha.sl.ext h) (by omega) ?_|refine bI rfl (fun _ h => hb.sl.ext h) (by omega) ?_|refine aj rfl ?_|refine aa ?_|refine ak ?_|refine ai rfl ?_|refine ah ?_|refine aQ rfl (fun hc => ?_) (fun hc => ?_)|refine aK ?_|refine bf ?_|refine cj ?_)
   ·refine bo rfl (rt rfl) ⟨?_, hE.drew⟩
    rw [cmpZ, if_pos (fU (i := j) ha.lim hl (by omega) hT (by omega))]; rfl
   ·refine bn (late := []) (plan := [(0, none), (1, none), (2, none), (3, none), (4, none), (5, none), (6, none), (7, none), (8, none), (9, none)]) (fun w' => Ex w w') bD (by kernel_rfl) hE.drew.drew ?_
    repeat' (first|(refine az (j := j) rfl rfl (ha.sl.plain (by simp; omega)) (by omega) ?_)|(refine az (j := j) rfl rfl (hb.sl.plain (by simp; omega)) (by omega) ?_)|refine bI rfl (fun _ h => ha.sl.ext h) (by omega) ?_|refine bI rfl (fun _ h => hb.sl.ext h) (by omega) ?_|refine aj rfl ?_|refine aa ?_|refine ak ?_|refine ai rfl ?_|refine ah ?_|refine bK rfl rfl (by omega) (by omega) ?_|refine aQ rfl (fun hc => ?_) (fun hc => ?_)|refine aJ ?_|refine aK ?_|refine bf ?_|refine cj ?_|refine aC ?_)
    ·refine bo rfl (rt rfl) ⟨?_, hE.drew.drew⟩
     have := fU (i := j) hb.lim hl.symm (by omega) hT.symm (by omega)
     rw [cmpZ, if_neg (by omega), if_pos this]; rfl
    ·refine ⟨⟨j, ⟨by omega, hE.drew.drew, ?_⟩, by omega, rfl, trivial⟩, (by (repeat (first|exact aG _ _ _|refine aB rfl ?_|refine ax rfl ?_|refine av rfl ?_|refine aw rfl ?_)))⟩
     rw [dg (ls := la) (k := j) (by omega), dg (ls := lb) (k := j) (by omega), hT, show la.getD j 0 = lb.getD j 0 by omega]
  ·obtain rfl : k = 0 := by omega
   simp only [List.drop_zero] at hT
   refine bo rfl (rt rfl) ⟨?_, hE⟩
   rw [cmpZ, if_neg (by omega), if_neg (by omega)]; rfl
theorem jF {la lb : List Nat} {a b : Option Addr} {c d : Nat} {w : World} (ha : Limbs w a c la) (hb : Limbs w b d lb) (ca : Canon la) (cb : Canon lb) (h2 : la.length ≤ 2) (hpos : 0 < natOf lb) (hge : natOf lb ≤ natOf la) :
  CallsR Tryz.prog 160 #[.slice a la.length c, .slice b lb.length d] w fun v w' => ∃ a1 c1 a2 c2, v = .tuple #[.slice a1 (digs (natOf la / natOf lb)).length c1, .slice a2 (digs (natOf la % natOf lb)).length c2] ∧
   Limbs w' a1 c1 (digs (natOf la / natOf lb)) ∧ Limbs w' a2 c2 (digs (natOf la % natOf lb)) ∧ (∀ ad, a1 = some ad → w.heap.size ≤ ad.block) ∧ (∀ ad, a2 = some ad → w.heap.size ≤ ad.block) ∧ Ex w w' := by
 have hlb : lb.length ≤ la.length := by
  rcases Nat.lt_or_ge la.length lb.length with h | h
  ·have := fu ha.lim cb h; omega
  ·exact h
 have hlt := bQ ha.lim
 have h64 : natOf la < 18446744073709551616 := by
  have := eA (a := la.length) (b := 2) h2
  omega
 refine aE (args := [_, _]) Tryz.func160 rfl rfl ?_
 repeat' (first|refine aj rfl ?_|refine aa ?_|refine ak ?_|refine ai rfl ?_|refine ah ?_|refine ay ?_)
 refine au (d7 ha hb ca cb) rfl ?_
 rintro v w1 ⟨rfl, hE1⟩
 refine tvv ?_
 have hcz : 0 ≤ cmpZ (natOf la) (natOf lb) := by unfold cmpZ; rw [if_neg (by omega)]; split <;> omega
 repeat' (first|refine aj rfl ?_|refine aa ?_|refine ak ?_|refine ai rfl ?_|refine ah ?_|refine bc rfl ?_|refine bK rfl rfl (by omega) (by omega) ?_|refine aQ rfl (fun hc => ?_) (fun hc => ?_)|refine aJ ?_|refine aC ?_)
 all_goals try (exfalso; omega)
 ·refine au (gE (ha.ext hE1) h2) rfl ?_
  rintro v w2 ⟨rfl, hE2⟩
  refine tvv ?_
  repeat' (first|refine aj rfl ?_)
  refine au (gE ((hb.ext hE1).ext hE2) (by omega)) rfl ?_
  rintro v w3 ⟨rfl, hE3⟩
  refine tvv ?_
  repeat' (first|refine aj rfl ?_|refine aa ?_|refine ak ?_|refine ah ?_)
  have hE := ((hE1.trans hE2).trans hE3)
  refine bn (late := [3, 7]) (plan := [(0, none), (1, none), (2, none), (4, none), (5, none), (6, none), (3, some false), (7, some false), (8, none), (9, none)]) (fun w' => Ex w w') bD (by kernel_rfl) hE.drew ?_
  repeat' (first|refine qu rfl rfl (by omega) (by omega) (by omega) ?_|refine jC rfl rfl (by omega) (by omega) ?_|refine aj rfl ?_)
  refine au (dK (n := natOf la / natOf lb) (Nat.lt_of_le_of_lt (Nat.div_le_self _ _) h64) _) rfl ?_
  rintro v w4 ⟨a1, c1, rfl, hL1, hf1, hE4⟩
  refine ⟨fun _ h => h.trans hE4, ?_⟩
  refine au (dK (n := natOf la % natOf lb) (Nat.lt_of_le_of_lt (Nat.mod_le _ _) h64) _) rfl ?_
  rintro v w5 ⟨a2, c2, rfl, hL2, hf2, hE5⟩
  refine ⟨fun _ h => h.trans hE5, ?_⟩
  repeat' (first|refine aj rfl ?_|refine aa ?_|refine ah ?_|refine aK ?_|refine bf ?_|refine cj ?_)
  have s1 := hE.size
  have s2 : w3.drew.heap.size = w3.heap.size := rfl
  have s3 := hE4.size
  exact dw rfl (rt rfl) (rt rfl) ⟨a1, c1, a2, c2, rfl, hL1.ext hE5, hL2, fun ad e => by have := hf1 ad e; omega, fun ad e => by have := hf2 ad e; omega, (hE.drew.trans hE4).trans hE5⟩
theorem jG {la lb : List Nat} {a b : Option Addr} {c d : Nat} {w : World} (ha : Limbs w a c la) (hb : Limbs w b d lb) (h2 : la.length ≤ 1) (h3 : lb.length ≤ 1) :
  CallsR Tryz.prog 53 #[.slice a la.length c, .slice b lb.length d] w (RetN w (digs (natOf la * natOf lb))) := by
 have h64a : natOf la < 4294967296 := by
  have := bQ ha.lim
  have := eA (a := la.length) (b := 1) h2
  omega
 have h64b : natOf lb < 4294967296 := by
  have := bQ hb.lim
  have := eA (a := lb.length) (b := 1) h3
  omega
 have hm : natOf la * natOf lb < 18446744073709551616 := by
  have : natOf la * natOf lb ≤ 4294967295 * 4294967295 := Nat.mul_le_mul (by omega) (by omega)
  omega
 refine aE (args := [_, _]) Tryz.func53 rfl rfl ?_
 repeat' (first|refine aj rfl ?_|refine aa ?_|refine ak ?_|refine ai rfl ?_|refine ah ?_|refine bc rfl ?_|refine bJ rfl rfl ?_|refine bY rfl rfl ?_|refine gV rfl rfl (fun hc => ?_) (fun hc => ?_)|refine aV rfl rfl (by omega) (by omega) ?_|refine ao rfl ?_|refine aQ rfl (fun hc => ?_) (fun hc => ?_)|refine aC ?_)
 all_goals try (exfalso; omega)
 refine au (gE ha (by omega)) rfl ?_
 rintro v w2 ⟨rfl, hE2⟩
 refine tvv ?_
 repeat' (first|refine aj rfl ?_)
 refine au (gE (hb.ext hE2) (by omega)) rfl ?_
 rintro v w3 ⟨rfl, hE3⟩
 refine tvv ?_
 refine rC rfl rfl ?_
 rw [← Int.natCast_mul, cV (by omega) (by omega)]
 refine au (dK hm _) rfl ?_
 rintro v w5 ⟨a5, c5, rfl, hL5, hf5, hE5⟩
 refine tvv ?_
 repeat' (first|refine aj rfl ?_|refine aa ?_|refine ah ?_|refine aK ?_|refine bf ?_)
 have hE := hE2.trans hE3
 have s1 := hE.size
 exact bo rfl (rt rfl) ⟨a5, c5, rfl, hL5, fun ad e => by have := hf5 ad e; omega, hE.trans hE5⟩
theorem cR {ls : List Nat} (hc : Canon ls) {k : Nat} (h : natOf ls < 4294967296 ^ k) : ls.length ≤ k := by
 by_cases hne : ls = []
 ·subst hne; simp
 ·have h1 := jE hc hne
  rcases Nat.lt_or_ge k ls.length with h2 | h2
  ·have := eA (show k ≤ ls.length - 1 by omega); omega
  ·exact h2
theorem dh (neg : Bool) (n : Nat) : (sgn neg n).natAbs = n := by unfold sgn; split <;> simp
end Go.Proofs.YtpfhfldehaiokaaGreat
namespace Go.LM
abbrev B : Nat := 4294967296
theorem cS : ∀ {l : List Nat} {k v : Nat}, k < l.length → natOf (l.set k v) + l.getD k 0 * 4294967296 ^ k = natOf l + v * 4294967296 ^ k
 | [], k, v, h => by simp at h
 | d :: l, 0, v, _ => by simp [natOf]; omega
 | d :: l, k + 1, v, h => by
  have ih := cS (l := l) (k := k) (v := v) (by simpa using h)
  simp only [List.set_cons_succ, natOf, List.getD_cons_succ, Nat.pow_succ]
  have e1 : l.getD k 0 * (4294967296 ^ k * 4294967296) = 4294967296 * (l.getD k 0 * 4294967296 ^ k) := by rw [← Nat.mul_assoc, Nat.mul_comm]
  have e2 : v * (4294967296 ^ k * 4294967296) = 4294967296 * (v * 4294967296 ^ k) := by rw [← Nat.mul_assoc, Nat.mul_comm]
  rw [e1, e2]
  omega
theorem Lim.set {l : List Nat} (h : Lim l) {k v : Nat} (hv : v < 4294967296) : Lim (l.set k v) := fun d hd => by
 rcases List.mem_or_eq_of_mem_set hd with h' | h'
 ·exact h d h'
 ·omega
theorem Lim.zeros (n : Nat) : Lim (List.replicate n 0) := fun d hd => by rw [List.eq_of_mem_replicate hd]; decide
theorem cG {l : List Nat} {k j v : Nat} (h : k ≠ j) : (l.set k v).getD j 0 = l.getD j 0 := by simp [List.getD_eq_getElem?_getD, List.getElem?_set_ne h]
theorem kA {l : List Nat} {k v : Nat} (h : k < l.length) : (l.set k v).getD k 0 = v := by simp [List.getD_eq_getElem?_getD, h]
theorem dz {l : List Nat} {k : Nat} (h : k < l.length) : l.take (k + 1) = l.take k ++ [l.getD k 0] := by
 rw [List.take_succ_eq_append_getElem h, List.getD_eq_getElem?_getD, List.getElem?_eq_getElem h]; rfl
theorem bR {l : List Nat} {k : Nat} (h : k < l.length) : natOf (l.take (k + 1)) = natOf (l.take k) + l.getD k 0 * 4294967296 ^ k := by
 rw [dz h, dG]
 simp only [List.length_take, Nat.min_eq_left (Nat.le_of_lt h)]
 rw [Nat.mul_comm]
theorem j6 {x y c r : Nat} (hx : x < 4294967296) (hy : y < 4294967296) (hc : c < 4294967296) (hr : r < 4294967296) : c + (x * y + r) < 18446744073709551616 := by
 have : x * y ≤ 4294967295 * 4294967295 := Nat.mul_le_mul (by omega) (by omega)
 omega
theorem lI {P : List Nat} {k c x y N : Nat} (hk : k < P.length) (h : natOf P + c * 4294967296 ^ k = N) :
  natOf (P.set k ((c + (x * y + P.getD k 0)) % 4294967296)) + (c + (x * y + P.getD k 0)) / 4294967296 * 4294967296 ^ (k + 1) = N + x * y * 4294967296 ^ k := by
 have h1 := cS (l := P) (v := (c + (x * y + P.getD k 0)) % 4294967296) hk
 generalize x * y = m at *
 generalize P.getD k 0 = r at *
 have h2 : (c + (m + r)) % 4294967296 * 4294967296 ^ k + (c + (m + r)) / 4294967296 * 4294967296 ^ (k + 1) = c * 4294967296 ^ k + m * 4294967296 ^ k + r * 4294967296 ^ k := by
  rw [Nat.pow_succ, Nat.mul_comm (4294967296 ^ k) 4294967296, ← Nat.mul_assoc, ← Nat.add_mul, ← Nat.add_mul, ← Nat.add_mul]
  congr 1
  omega
 omega
end Go.LM
namespace Go.Proofs.YtpfhfldehaiokaaGreat
open Go.W Go.LM
theorem Limbs.of_blk {w : World} {g c : Nat} {Tb : Nat} {ls : List Nat} (h : Blk w g Tb (limbsL ls)) (hc : ls.length ≤ c) (hl : Lim ls) (hn : ls.length ≤ 17592186044416) : Limbs w (some ⟨g, 0, none⟩) c ls := ⟨h.sl, hc, hl, hn⟩
theorem kB {la lb : List Nat} {a b : Option Addr} {c d : Nat} {w : World} (ha : Limbs w a c la) (hb : Limbs w b d lb) (hlen : la.length + lb.length ≤ 17592186044416) :
  CallsR Tryz.prog 53 #[.slice a la.length c, .slice b lb.length d] w fun v w' => ∃ ls, natOf ls = natOf la * natOf lb ∧ Canon ls ∧ ls.length ≤ la.length + lb.length + 2 ∧ RetN w ls v w' := by
 by_cases hsm : la.length ≤ 1 ∧ lb.length ≤ 1
 ·refine (jG ha hb hsm.1 hsm.2).mono fun v w' h => ⟨_, ?_, dH _, ?_, h⟩
  ·rw [dS]
  ·have := tM (natOf la * natOf lb); omega
 have hla := ha.len
 have hlb := hb.len
 refine aE (args := [_, _]) Tryz.func53 rfl rfl ?_
 repeat' (first|refine dM rfl rfl (by omega) ?_|refine fT rfl rfl (by omega) (by omega) (fun g w1 hn => tvv ?_)|refine aj rfl ?_|refine aa ?_|refine ak ?_|refine ai rfl ?_|refine ah ?_|refine bc rfl ?_|refine bJ rfl rfl ?_|refine bY rfl rfl ?_|refine gV rfl rfl (fun hc => ?_) (fun hc => ?_)|refine ao rfl ?_|refine aQ rfl (fun hc => ?_) (fun hc => ?_)|refine ay ?_|refine aC ?_)
 all_goals try (exfalso; omega)
 all_goals
  refine aW (ι := Nat × List Nat) [6, 7, 8, 9, 10, 11, 34, 35, 36, 37, 38, 39, 40, 41, 42, 43, 44, 45, 46, 47, 48, 49, 50, 51, 52, 53, 54, 55, 56, 57, 58, 59, 60, 61, 62, 63, 64, 65, 66, 67, 68, 69, 70, 71, 72, 73, 74, 75, 76, 77, 78, 79, 80, 81, 82, 83] (fun s => [(34, .int .i64 (s.1 : Int))])
   (fun s w' => s.1 ≤ la.length ∧ Ex w w' ∧ Blk w' g 85 (limbsL s.2) ∧ s.2.length = la.length + lb.length ∧ Lim s.2 ∧ natOf s.2 = natOf (la.take s.1) * natOf lb ∧ ∀ j, s.1 + lb.length ≤ j → s.2.getD j 0 = 0) (fun s => la.length - s.1)
   (0, List.replicate (la.length + lb.length) 0) ⟨rfl, trivial⟩ ⟨by simp, hn.ex, hn.blk, by simp, Lim.zeros _, by simp [dl, natOf], fun j _ => by simp [List.getD_eq_getElem?_getD, List.getElem?_replicate]; split <;> rfl⟩ ?_
  rintro ⟨i, ps⟩ ξ w2 ⟨hi, hE, hbk, hpl, hpL, hpn, hpz⟩
  simp only at hi hbk hpl hpL hpn hpz
  show CW _ _ _ _ (over [(34, .int .i64 (i : Int))] _) w2
  have hxl := ha.lim.getD i
  repeat' (first|(refine az rfl rfl (ha.sl.plain (by simp; omega)) (by omega) ?_)|refine bI rfl (ha.sl.ext hE) (by omega) ?_|refine aj rfl ?_|refine aa ?_|refine ak ?_|refine ai rfl ?_|refine ah ?_|refine bc rfl ?_|refine aV rfl rfl (by omega) (by omega) ?_|refine aQ rfl (fun hc => ?_) (fun hc => ?_)|refine ay ?_|refine aT ?_|refine aO ?_|refine aU ?_|refine aC ?_)
  ·have h0 : la.getD i 0 = 0 := by omega
   refine ⟨⟨(i + 1, ps), ⟨by simp only; omega, hE, hbk, hpl, hpL, ?_, fun j hj => hpz j (by simp only at hj; omega)⟩, by simp only; omega, rfl, trivial⟩, (by (repeat (first|exact aG _ _ _|refine aB rfl ?_|refine ax rfl ?_|refine av rfl ?_|refine aw rfl ?_)))⟩
   simp only
   rw [hpn, bR (by omega), h0, Nat.zero_mul, Nat.add_zero]
  ·refine np (l := i) (h := i + lb.length + 1) rfl rfl (by show Value.int .i64 ((i : Int) + (lb.length : Int) + 1) = _; rfl) (by omega) (by omega) (by omega) ?_
   rw [Nat.zero_add, Nat.mul_one, show i + lb.length + 1 - i = lb.length + 1 by omega]
   repeat' (first|refine aj rfl ?_|refine aa ?_|refine ak ?_|refine ai rfl ?_|refine ah ?_|refine bc rfl ?_|refine ay ?_)
   refine aW (ι := Nat × List Nat × Nat) [9, 10, 11, 51, 52, 53, 54, 55, 56, 57, 58, 59, 60, 61, 62, 63, 64, 65, 66, 67, 68, 69, 70, 71, 72, 73, 74, 75, 76] (fun s => [(51, .int .i64 (s.1 : Int)), (9, .int .u64 (s.2.2 : Int))])
    (fun s w' => s.1 ≤ lb.length ∧ Ex w w' ∧ Blk w' g 85 (limbsL s.2.1) ∧ s.2.1.length = la.length + lb.length ∧ Lim s.2.1 ∧ s.2.2 < 4294967296 ∧ natOf s.2.1 + s.2.2 * 4294967296 ^ (i + s.1) = natOf ps + la.getD i 0 * natOf (lb.take s.1) * 4294967296 ^ i ∧ ∀ j, i + s.1 ≤ j → s.2.1.getD j 0 = ps.getD j 0) (fun s => lb.length - s.1)
    (0, ps, 0) ⟨rfl, rfl, trivial⟩ ⟨by simp, hE, hbk, hpl, hpL, by simp, by simp [natOf], fun j _ => rfl⟩ ?_
   rintro ⟨j, qs, cy⟩ ξ2 w3 ⟨hj, hE3, hb3, hql, hqL, hcy, hqn, hqz⟩
   simp only at hj hb3 hql hqL hcy hqn hqz
   show CW _ _ _ _ (over [(51, .int .i64 (j : Int)), (9, .int .u64 (cy : Int))] _) w3
   have hyl := hb.lim.getD j
   have hrl := hqL.getD (i + j)
   have hfit := j6 hxl hyl hcy hrl
   repeat' (first|(refine az rfl rfl (hb.sl.plain (by simp; omega)) (by omega) ?_)|refine bI rfl (hb.sl.ext hE3) (by omega) ?_|refine az rfl rfl ⟨_, _, rfl⟩ (by omega) ?_|refine pt rfl hb3 (by omega) ?_|refine iw rfl (by assumption) ?_|refine gz rfl rfl (by omega) ?_|refine fc rfl rfl (by omega) ?_|refine dR rfl ?_|refine ez rfl rfl ?_|refine ns rfl rfl hb3 (by omega) (fun w4 hc4 hb4 => tvv ?_)|refine aj rfl ?_|refine aa ?_|refine ak ?_|refine ai rfl ?_|refine ah ?_|refine bc rfl ?_|refine aV rfl rfl (by omega) (by omega) ?_|refine aQ rfl (fun hc => ?_) (fun hc => ?_)|refine ay ?_|refine aT ?_|refine aO ?_|refine aU ?_|refine aJ ?_|refine aC ?_)
   ·refine ⟨⟨(j + 1, qs.set (i + j) ((cy + (la.getD i 0 * lb.getD j 0 + qs.getD (i + j) 0)) % 4294967296), (cy + (la.getD i 0 * lb.getD j 0 + qs.getD (i + j) 0)) / 4294967296), ⟨by simp only; omega, hE3.chg hc4 hn.lo, hb4, by simp [hql], hqL.set (Nat.mod_lt _ (by decide)), by simp only; omega, ?_, ?_⟩, by simp only; omega, rfl, rfl, trivial⟩, (by (repeat (first|exact aG _ _ _|refine aB rfl ?_|refine ax rfl ?_|refine av rfl ?_|refine aw rfl ?_)))⟩
    ·have := lI (x := la.getD i 0) (y := lb.getD j 0) (show i + j < qs.length by omega) hqn
     simp only
     rw [show i + (j + 1) = i + j + 1 by omega, this, bR (by omega), Nat.mul_add, Nat.add_mul, Nat.add_assoc, Nat.pow_add]
     congr 2
     rw [← Nat.mul_assoc, Nat.mul_assoc, Nat.mul_comm (4294967296 ^ i), ← Nat.mul_assoc, Nat.mul_assoc (la.getD i 0)]
    ·intro k hk
     simp only at hk ⊢
     rw [cG (by omega), hqz k (by omega)]
   ·obtain rfl : j = lb.length := by omega
    have hz : qs.getD (i + lb.length) 0 = 0 := by rw [hqz _ (Nat.le_refl _)]; exact hpz _ (Nat.le_refl _)
    skip
    rw [Nat.mod_eq_of_lt hcy] at hb4
    refine ⟨⟨(i + 1, qs.set (i + lb.length) cy), ⟨by simp only; omega, hE3.chg hc4 hn.lo, hb4, by simp [hql], hqL.set hcy, ?_, ?_⟩, by simp only; omega, rfl, trivial⟩, (by (repeat (first|exact aG _ _ _|refine aB rfl ?_|refine ax rfl ?_|refine av rfl ?_|refine aw rfl ?_)))⟩
    ·have h1 := cS (l := qs) (k := i + lb.length) (v := cy) (by omega)
     rw [hz, Nat.zero_mul, Nat.add_zero] at h1
     simp only
     rw [h1, hqn, hpn, List.take_length, bR (by omega), Nat.add_mul]
     congr 1
     rw [Nat.mul_assoc, Nat.mul_assoc, Nat.mul_comm (natOf lb)]
    ·intro k hk
     simp only at hk ⊢
     rw [cG (by omega), hqz k (by omega), hpz k (by omega)]
  ·obtain rfl : i = la.length := by omega
   rw [List.take_length] at hpn
   have hL := Limbs.of_blk (c := la.length + lb.length) hbk (by omega) hpL (by omega)
   have hcall := cw hL
   rw [hpl] at hcall
   skip
   refine au hcall rfl ?_
   rintro v w3 ⟨rfl, hE3⟩
   refine tvv ?_
   repeat' (first|refine aj rfl ?_|refine aa ?_|refine ah ?_|refine aK ?_)
   refine bo rfl (rt rfl) ⟨trimL ps, by rw [bh, hpn], bA _, by have := cX ps; omega, _, _, rfl, hL.trim.ext hE3, fun ad e => by cases e; exact hn.lo, hE.trans hE3⟩
theorem bW {ls : List Nat} {a : Option Addr} {c : Nat} {w : World} (h : Limbs w a c ls) :
  CallsR Tryz.prog 22 #[.slice a ls.length c] w (RetN w (trimL ls)) := by
 have hlen := h.len
 have hcap := h.cap
 refine aE (args := [_]) Tryz.func22 rfl rfl ?_
 repeat' (first|refine aj rfl ?_|refine aa ?_|refine ak ?_|refine ai rfl ?_|refine ah ?_|refine bc rfl ?_|refine ay ?_)
 refine aW (ι := Nat) [3, 6, 7, 8, 9, 10, 11, 12, 13, 14, 15, 16, 17] (fun k => [(3, .int .i64 (k : Int))]) (fun k w' => k ≤ ls.length ∧ w' = w ∧ trimL (ls.take k) = trimL ls) (fun k => k) ls.length ⟨rfl, trivial⟩ ⟨Nat.le_refl _, rfl, by simp⟩ ?_
 rintro k ξ w2 ⟨hk, rfl, hT⟩
 repeat' (first|(refine az (j := k - 1) rfl (by show Value.int .i64 ((k : Int) - 1) = _; congr 1; omega) (h.sl.plain (by simp; omega)) (by omega) ?_)|refine bI rfl h.sl (by omega) ?_|refine aj rfl ?_|refine aa ?_|refine ak ?_|refine ai rfl ?_|refine ah ?_|refine bJ rfl rfl ?_|refine bY rfl rfl ?_|refine gV rfl rfl (fun hc => ?_) (fun hc => ?_)|refine bK rfl rfl (by omega) (by omega) ?_|refine ao rfl ?_|refine aQ rfl (fun hc => ?_) (fun hc => ?_)|refine ay ?_|refine aT ?_|refine aO ?_|refine aU ?_|refine aJ ?_|refine aC ?_)
 ·refine ⟨⟨k - 1, ⟨by omega, rfl, ?_⟩, by omega, ?_, trivial⟩, (by (repeat (first|exact aG _ _ _|refine aB rfl ?_|refine ax rfl ?_|refine av rfl ?_|refine aw rfl ?_)))⟩
  ·rw [← hT, eo hk (by omega), show ls.getD (k - 1) 0 = 0 by omega, d6]
  ·show Value.int .i64 ((k : Int) - 1) = _
   congr 1; omega
 all_goals
  have hkk : trimL ls = ls.take k := by
   rw [← hT]
   rcases Nat.eq_zero_or_pos k with rfl | h0
   ·rfl
   ·rw [eo hk (by omega), jn (by omega), ← eo hk (by omega)]
  refine j5 rfl rfl (by omega) (by omega) ?_
  rw [Int.toNat_natCast]
  have hL := h.take k
  have hkl : (ls.take k).length = k := by simp [Nat.min_eq_left hk]
  refine xd (E := 85) (y := 4) rfl rfl rfl hL.sl (by simp [Nat.min_eq_left hk]) (kX (fun _ => rfl) _) (by omega) (by omega) (fun a' c' w3 hO3 hE3 => tvv ?_)
  repeat' (first|refine aj rfl ?_|refine aa ?_|refine ah ?_|refine aK ?_)
  refine bo rfl (rt rfl) ?_
  rw [hkk]
  refine ⟨a', c', by rw [hkl]; rfl, ⟨hO3.sl, ?_, hL.lim, hL.len⟩, fun ad e => (hO3.lo ad e).1, hE3⟩
  rw [hkl]
  rcases hO3.2 with ⟨hv, hn⟩ | ⟨g, cap2, cur, hv, hbg, hg, hnc, hcm, hcs, htake⟩
  ·simp only [Value.slice.injEq] at hv; omega
  ·simp only [Value.slice.injEq] at hv; omega
theorem bi {ls : List Nat} {a : Option Addr} {c : Nat} {w : World} (h : Limbs w a c ls) (neg : Bool) :
  CallsR Tryz.prog 55 #[.bool neg, .slice a ls.length c] w (RetZ w (sgn neg (natOf ls))) := by
 refine aE (args := [_, _]) Tryz.func55 rfl rfl ?_
 repeat' (first|refine aH (fun g w1 hn => tvv ?_)|refine aj rfl ?_|refine aa ?_|refine ak ?_|refine ai rfl ?_|refine ah ?_)
 refine au (bW (h.ext hn.ex)) rfl ?_
 rintro v w2 ⟨a2, c2, rfl, hL2, hf2, hE2⟩
 refine tvv ?_
 have hb : Blk w2 g 34 (intL false none 0 0) := Blk.ext (cs := intL false none 0 0) hn.blk hE2
 have l1 := hn.lo
 have l2 := hn.hi
 have l3 := hE2.size
 cases neg
 ·repeat' (first|refine aj rfl ?_|refine aa ?_|refine ak ?_|refine ai rfl ?_|refine ah ?_|refine bY rfl rfl ?_)
  refine da (cs := intL false a2 (trimL ls).length c2) rfl ?_
  refine aF (n := 2) rfl rfl rfl rfl hb rfl (fun w3 hc3 hb3 => tvv ?_)
  repeat' (first|refine aa ?_|refine ah ?_|refine aK ?_)
  refine bo rfl (rc rfl rfl hb3) ⟨⟨false, a2, c2, trimL ls, rfl, hL2.chg hc3 (fun ad e => by have := hf2 ad e; omega), by rw [bh], bA _, by simp, fun ad e => by have := hf2 ad e; omega⟩, (hn.ex.trans hE2).chg hc3 (by omega)⟩
 ·repeat' (first|refine aj rfl ?_|refine aa ?_|refine ak ?_|refine ai rfl ?_|refine ah ?_|refine bc rfl ?_|refine bJ rfl rfl ?_)
  refine da (cs := intL (decide ((0 : Int) < ((trimL ls).length : Int))) a2 (trimL ls).length c2) rfl ?_
  refine aF (n := 2) rfl rfl rfl rfl hb rfl (fun w3 hc3 hb3 => tvv ?_)
  repeat' (first|refine aa ?_|refine ah ?_|refine aK ?_)
  refine bo rfl (rc rfl rfl hb3) ⟨⟨_, a2, c2, trimL ls, rfl, hL2.chg hc3 (fun ad e => by have := hf2 ad e; omega), ?_, bA _, ?_, fun ad e => by have := hf2 ad e; omega⟩, (hn.ex.trans hE2).chg hc3 (by omega)⟩
  ·by_cases h0 : trimL ls = []
   ·have := cI.1 h0
    simp [h0, this, sgn, natOf]
   ·have : (0 : Int) < ((trimL ls).length : Int) := by
     have := List.length_pos_iff.2 h0; omega
    rw [decide_eq_true this, bh]
  ·intro hd h0
   rw [h0] at hd; simp at hd
theorem fj {n : Nat} (hn : n < 18446744073709551616) (neg : Bool) (w : World) : CallsR Tryz.prog 20 #[.bool neg, .int .u64 (n : Int)] w (RetZ w (sgn neg n)) := by
 refine aE (args := [_, _]) Tryz.func20 rfl rfl ?_
 repeat' (first|refine aH (fun g w1 hn1 => tvv ?_)|refine dR rfl ?_|refine ez rfl rfl ?_|refine aj rfl ?_|refine aa ?_|refine ak ?_|refine ai rfl ?_|refine ah ?_)
 refine tI rfl rfl rfl rfl (fun g2 w2 hn2 => tvv ?_)
 have hL : Limbs w2 (some ⟨g2, 0, none⟩) 2 [n % 4294967296, n / 4294967296 % 4294967296] := ⟨hn2.blk.sl, by simp, by intro d hd; simp at hd; omega, by simp⟩
 refine au (bi hL neg) rfl ?_
 rintro v w3 ⟨hI, hE3⟩
 obtain ⟨ng, a', c', ls, rfl, hI'⟩ := id hI
 refine tvv ?_
 have hb : Blk w3 g 34 (intL false none 0 0) := Blk.ext (cs := intL false none 0 0) (Blk.ext (cs := intL false none 0 0) hn1.blk hn2.ex) hE3
 have l1 := hn1.lo
 have l2 := hn1.hi
 have l3 := hn2.ex.size
 refine aF (n := 2) rfl rfl rfl rfl hb rfl (fun w4 hc4 hb4 => tvv ?_)
 repeat' (first|refine aa ?_|refine ah ?_|refine aK ?_)
 refine bo rfl (rc rfl rfl hb4) ⟨?_, ((hn1.ex.trans hn2.ex).trans hE3).chg hc4 l1⟩
 have e : natOf [n % 4294967296, n / 4294967296 % 4294967296] = n := by simp [natOf]; omega
 rw [e] at hI
 exact (hI.chg hc4 (by omega)).mono (by omega)
theorem bV {z : Int} (h1 : -9223372036854775808 ≤ z) (h2 : z ≤ 9223372036854775807) (w : World) : CallsR Tryz.prog 7 #[.int .i64 z] w (RetZ w z) := by
 refine aE (args := [_]) Tryz.func7 rfl rfl ?_
 repeat' (first|refine aH (fun g w1 hn => tvv ?_)|refine aj rfl ?_|refine aa ?_|refine ak ?_|refine ai rfl ?_|refine ah ?_|refine aQ rfl (fun hc => ?_) (fun hc => ?_)|refine aC ?_)
 all_goals have hb : Blk w1 g 34 (intL false none 0 0) := hn.blk
 ·refine im rfl ?_
  refine jZ rfl ?_
  obtain ⟨n, rfl⟩ : ∃ n : Nat, z = -(n : Int) := ⟨(-z).toNat, by omega⟩
  rw [show IntKind.u64.wrap (-IntKind.u64.wrap (-(n : Int))) = ((n : Nat) : Int) by
   rw [cY rfl, cY rfl]; simp only [IntKind.bits]; omega]
  refine au (fj (by omega) true _) rfl ?_
  rintro v w3 ⟨hI, hE3⟩
  obtain ⟨neg, a', c', ls, rfl, hI'⟩ := id hI
  refine tvv ?_
  refine aF (n := 2) rfl rfl rfl rfl (hb.ext hE3) rfl (fun w4 hc4 hb4 => tvv ?_)
  repeat' (first|refine aa ?_|refine ah ?_|refine aK ?_|refine bf ?_)
  exact bo rfl (rc rfl rfl hb4) ⟨(hI.chg hc4 hn.hi).mono hn.ex.size, (hn.ex.trans hE3).chg hc4 hn.lo⟩
 ·obtain ⟨n, rfl⟩ : ∃ n : Nat, z = (n : Int) := ⟨z.toNat, by omega⟩
  refine cF rfl (cV (by omega) (by omega)) ?_
  refine au (fj (by omega) false _) rfl ?_
  rintro v w3 ⟨hI, hE3⟩
  obtain ⟨neg, a', c', ls, rfl, hI'⟩ := id hI
  refine tvv ?_
  refine aF (n := 2) rfl rfl rfl rfl (hb.ext hE3) rfl (fun w4 hc4 hb4 => tvv ?_)
  repeat' (first|refine aa ?_|refine ah ?_|refine aK ?_)
  exact bo rfl (rc rfl rfl hb4) ⟨(hI.chg hc4 hn.hi).mono hn.ex.size, (hn.ex.trans hE3).chg hc4 hn.lo⟩
theorem iy {la lb : List Nat} {a b : Option Addr} {c d : Nat} {w : World} (ha : Limbs w a c la) (hb : Limbs w b d lb) (ca : Canon la) (cb : Canon lb) :
  CallsR Tryz.prog 95 #[.slice a la.length c, .slice b lb.length d] w fun v w' => v = .int .i64 (cmpZ (natOf la) (natOf lb)) ∧ Ex w w' := by
 have hla := ha.len
 refine aE (args := [_, _]) Tryz.func95 rfl rfl ?_
 repeat' (first|refine aj rfl ?_|refine aa ?_|refine ak ?_|refine ai rfl ?_|refine ah ?_|refine bc rfl ?_|refine bK rfl rfl (by omega) (by omega) ?_|refine aQ rfl (fun hc => ?_) (fun hc => ?_)|refine ay ?_|refine aK ?_|refine bf ?_|refine aC ?_)
 ·refine bo rfl (rt rfl) ⟨?_, Ex.refl _⟩
  rw [cmpZ, if_pos (fu ha.lim cb (by omega))]; rfl
 ·refine bo rfl (rt rfl) ⟨?_, Ex.refl _⟩
  have := fu hb.lim ca (by omega)
  rw [cmpZ, if_neg (by omega), if_pos this]; rfl
 ·have hl : la.length = lb.length := by omega
  refine aW (ι := Nat) [4, 5, 19, 20, 21, 22, 23, 24, 25, 26, 27, 28, 29, 30, 31, 32, 33, 34, 35, 36, 37, 38, 39, 40] (fun k => [(5, .int .i64 ((k : Int) - 1))]) (fun k w' => k ≤ la.length ∧ Ex w w' ∧ natOf (la.drop k) = natOf (lb.drop k)) (fun k => k) la.length ⟨rfl, trivial⟩
   ⟨Nat.le_refl _, Ex.refl _, by rw [List.drop_length, hl, List.drop_length]⟩ ?_
  rintro k ξ w2 ⟨hk, hE, hT⟩
  repeat' (first|refine aj rfl ?_|refine aa ?_|refine ak ?_|refine ai rfl ?_|refine ah ?_|refine aQ rfl (fun hc => ?_) (fun hc => ?_)|refine ay ?_|refine aT ?_|refine aO ?_|refine aU ?_|refine aK ?_|refine aC ?_)
  ·obtain ⟨j, rfl⟩ : ∃ j, k = j + 1 := ⟨k - 1, by omega⟩
   rw [show ((j + 1 : Nat) : Int) - 1 = (j : Int) by omega]
   refine bn (late := []) (plan := [(0, none), (1, none), (2, none), (3, none), (4, none), (5, none), (6, none), (7, none), (8, none)]) (fun w' => Ex w w') bD (by kernel_rfl) hE.drew ?_
   repeat' (first|(refine az (j := j) rfl rfl (ha.sl.plain (by simp; omega)) (by omega) ?_)|(refine az (j := j) rfl rfl (hb.sl.plain (by simp; omega)) (by omega) ?_)|refine bI rfl (fun _ h => ha.sl.ext h) (by omega) ?_|refine bI rfl (fun _ h => hb.sl.ext h) (by omega) ?_|refine aj rfl ?_|refine aa ?_|refine ak ?_|refine ai rfl ?_|refine ah ?_|refine bK rfl rfl (by omega) (by omega) ?_|refine aQ rfl (fun hc => ?_) (fun hc => ?_)|refine aJ ?_|refine aC ?_)
   ·refine bn (late := []) (plan := [(0, none), (1, none), (2, none), (3, none), (4, none), (5, none), (6, none), (7, none), (8, none)]) (fun w' => Ex w w') bD (by kernel_rfl) hE.drew.drew ?_
    repeat' (first|(refine az (j := j) rfl rfl (ha.sl.plain (by simp; omega)) (by omega) ?_)|(refine az (j := j) rfl rfl (hb.sl.plain (by simp; omega)) (by omega) ?_)|refine bI rfl (fun _ h => ha.sl.ext h) (by omega) ?_|refine bI rfl (fun _ h => hb.sl.ext h) (by omega) ?_|refine aj rfl ?_|refine aa ?_|refine ak ?_|refine ai rfl ?_|refine ah ?_|refine aQ rfl (fun hc => ?_) (fun hc => ?_)|refine aK ?_|refine bf ?_|refine cj ?_|refine aC ?_)
    ·refine bo rfl (rt rfl) ⟨?_, hE.drew.drew⟩
     rw [cmpZ, if_pos (fU (i := j) ha.lim hl (by omega) hT (by omega))]; rfl
    ·refine bo rfl (rt rfl) ⟨?_, hE.drew.drew⟩
     have := fU (i := j) hb.lim hl.symm (by omega) hT.symm (by omega)
     rw [cmpZ, if_neg (by omega), if_pos this]; rfl
   ·refine ⟨⟨j, ⟨by omega, hE.drew, ?_⟩, by omega, ?_, trivial⟩, (by (repeat (first|exact aG _ _ _|refine aB rfl ?_|refine ax rfl ?_|refine av rfl ?_|refine aw rfl ?_)))⟩
    ·rw [dg (ls := la) (k := j) (by omega), dg (ls := lb) (k := j) (by omega), hT, show la.getD j 0 = lb.getD j 0 by omega]
    ·rfl
  ·obtain rfl : k = 0 := by omega
   simp only [List.drop_zero] at hT
   refine bo rfl (rt rfl) ⟨?_, hE⟩
   rw [cmpZ, if_neg (by omega), if_neg (by omega)]; rfl
end Go.Proofs.YtpfhfldehaiokaaGreat
namespace Go.W
section
variable {P : Program} {S : World → Prop} {ops : List Oper} {K : Env → World → Prop} {rest : List (Oper × Option Bool)} {ρ : Env} {w : World} {b : Option Bool} {kf : Bool} {d : Nat} {dst : Option Nat} {T T' : TypeId} {pos : String} {af : Array Edge}
variable {x y : Operand} {k : IntKind} {m m' : Int} {T'' : TypeId}
theorem bq (hx : ev ρ x = .int k m) (hy : ev ρ y = .int k m') (hd : m < m') (h : RR P S ops K rest (upd ρ d (.bool true)) w) : RR P S ops K ((⟨some d, .binOp .lss T' x y T'', T, pos, af, none⟩, b) :: rest) ρ w :=
 wM hx hy (by rw [decide_eq_true hd]; exact h)
theorem fz (hx : ev ρ x = .int k m) (hy : ev ρ y = .int k m') (hd : m ≤ m') (h : RR P S ops K rest (upd ρ d (.bool true)) w) : RR P S ops K ((⟨some d, .binOp .leq T' x y T'', T, pos, af, none⟩, b) :: rest) ρ w :=
 tB hx hy (by rw [decide_eq_true hd]; exact h)
theorem bp (hx : ev ρ x = .int k m) (hy : ev ρ y = .int k m') (hd : m' ≤ m) (h : RR P S ops K rest (upd ρ d (.bool false)) w) : RR P S ops K ((⟨some d, .binOp .lss T' x y T'', T, pos, af, none⟩, b) :: rest) ρ w :=
 wM hx hy (by rw [decide_eq_false (by omega)]; exact h)
theorem ee (hx : ev ρ x = .int k m) (hy : ev ρ y = .int k m') (hd : m < m') (h : RR P S ops K rest (upd ρ d (.bool false)) w) : RR P S ops K ((⟨some d, .binOp .geq T' x y T'', T, pos, af, none⟩, b) :: rest) ρ w :=
 tC hx hy (by rw [decide_eq_false (by omega)]; exact h)
theorem jp (hx : ev ρ x = .int k m) (hy : ev ρ y = .int k m') (hd : m' < m) (h : RR P S ops K rest (upd ρ d (.bool true)) w) : RR P S ops K ((⟨some d, .binOp .gtr T' x y T'', T, pos, af, none⟩, b) :: rest) ρ w :=
 wN hx hy (by rw [decide_eq_true hd]; exact h)
theorem eH (hx : ev ρ x = .int k m) (hy : ev ρ y = .int k m') (hd : m ≠ m') (h : RR P S ops K rest (upd ρ d (.bool false)) w) : RR P S ops K ((⟨some d, .binOp .eql T' x y T'', T, pos, af, none⟩, b) :: rest) ρ w :=
 tD hx hy (by rw [decide_eq_false hd]; exact h)
theorem eI (hx : ev ρ x = .int k m) (hy : ev ρ y = .int k m') (hd : m = m') (h : RR P S ops K rest (upd ρ d (.bool false)) w) : RR P S ops K ((⟨some d, .binOp .neq T' x y T'', T, pos, af, none⟩, b) :: rest) ρ w :=
 pm hx hy (by rw [decide_eq_false (by simpa using hd)]; exact h)
theorem eV (hx : ev ρ x = .int k m) (hy : ev ρ y = .int k m') (hd : m = m') (h : RR P S ops K rest (upd ρ d (.bool true)) w) : RR P S ops K ((⟨some d, .binOp .eql T' x y T'', T, pos, af, none⟩, b) :: rest) ρ w :=
 tD hx hy (by rw [decide_eq_true hd]; exact h)
theorem cW (hx : ev ρ x = .int k m) (hy : ev ρ y = .int k m') (hd : m ≤ m') (h : RR P S ops K rest (upd ρ d (.bool false)) w) : RR P S ops K ((⟨some d, .binOp .gtr T' x y T'', T, pos, af, none⟩, b) :: rest) ρ w :=
 wN hx hy (by rw [decide_eq_false (by omega)]; exact h)
end
theorem rF {P : Program} {S : World → Prop} {ops : List Oper} {K : Env → World → Prop} {rest : List (Oper × Option Bool)} {ρ : Env} {w : World} {b : Option Bool} {d : Nat} {T T' : TypeId} {pos : String} {af : Array Edge}
  {x : Operand} {f ft off : Nat} {cs : List Value} {v : Value} (hf : (match P.underlying T' with | some (.struct fs) => (fs[f]?).map (fun g => (g.type, g.offset)) | _ => none) = some (ft, off)) [Scal P ft]
  (hx : ev ρ x = .agg cs.toArray) (hv : cs[off]? = some v) (h : RR P S ops K rest (upd ρ d v) w) : RR P S ops K ((⟨some d, .field T' x f, T, pos, af, none⟩, b) :: rest) ρ w := by
 refine ci rfl (fun w' => ?_) h
 split at hf
 ·rename_i fs hfs
  obtain ⟨g, hg, e⟩ := Option.map_eq_some_iff.1 hf
  simp only [Prod.mk.injEq] at e
  have ha := ik (P := P) (w := w') (T := ft)
  simp [execOp, Instr.field, hx, underlying, hfs, hg, asAgg, part, e.1, e.2, ha, hv]
 ·cases hf
end Go.W
