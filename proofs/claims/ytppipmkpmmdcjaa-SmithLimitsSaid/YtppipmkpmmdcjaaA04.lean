import Derived.Test.YtppipmkpmmdcjaaA03
namespace Go.Proofs.Ytppipmkpmmdcjaa
open Go.W Go.LM
theorem kA {ls : List Nat} {a : Option Addr} {c : Nat} {w : World} (h : Limbs w a c ls) :
  CallsR Try.prog 28 #[.slice a ls.length c] w (RetN w (trimL ls)) := by
 have hlen := h.len
 have hcap := h.cap
 refine aJ (args := [_]) Try.func28 rfl rfl ?_
 repeat' (first|refine ai rfl ?_|refine aa ?_|refine ao ?_|refine ah rfl ?_|refine ae ?_|refine bn rfl ?_|refine aC ?_)
 refine bh (ι := Nat) [3, 6, 7, 8, 9, 10, 11, 12, 13, 14, 15, 16, 17] (fun k => [(3, .int .i64 (k : Int))]) (fun k w' => k ≤ ls.length ∧ w' = w ∧ trimL (ls.take k) = trimL ls) (fun k => k) ls.length ⟨rfl, trivial⟩ ⟨Nat.le_refl _, rfl, by simp⟩ ?_
 rintro k ξ w2 ⟨hk, rfl, hT⟩
 repeat' (first|(refine aB (j := k - 1) rfl (by show Value.int .i64 ((k : Int) - 1) = _; congr 1; omega) (h.sl.plain (by simp; omega)) (by omega) ?_)|refine bO rfl h.sl (by omega) ?_|refine ai rfl ?_|refine aa ?_|refine ao ?_|refine ah rfl ?_|refine ae ?_|refine bB rfl rfl ?_|refine bS rfl rfl ?_|refine fS rfl rfl (fun hc => ?_) (fun hc => ?_)|refine dh rfl rfl (by omega) (by omega) ?_|refine aA rfl ?_|refine aR rfl (fun hc => ?_) (fun hc => ?_)|refine aC ?_|refine aW ?_|refine aO ?_|refine aX ?_|refine aM ?_|refine aI ?_)
 ·refine ⟨⟨k - 1, ⟨by omega, rfl, ?_⟩, by omega, ?_, trivial⟩, (by (repeat (first|exact aF _ _ _|refine ay rfl ?_|refine av rfl ?_|refine aj rfl ?_|refine ak rfl ?_)))⟩
  ·rw [← hT, dD hk (by omega), show ls.getD (k - 1) 0 = 0 by omega, cY]
  ·show Value.int .i64 ((k : Int) - 1) = _
   congr 1; omega
 all_goals
  have hkk : trimL ls = ls.take k := by
   rw [← hT]
   rcases Nat.eq_zero_or_pos k with rfl | h0
   ·rfl
   ·rw [dD hk (by omega), gx (by omega), ← dD hk (by omega)]
  refine il rfl rfl (by omega) (by omega) ?_
  rw [Int.toNat_natCast]
  have hL := h.take k
  have hkl : (ls.take k).length = k := by simp [Nat.min_eq_left hk]
  refine qM (E := 49) (y := 4) rfl rfl rfl hL.sl (by simp [Nat.min_eq_left hk]) (kr (fun _ => rfl) _) (by omega) (by omega) (fun a' c' w3 hO3 hE3 => ⟨fun _ _ => trivial, ?_⟩)
  repeat' (first|refine ai rfl ?_|refine aa ?_|refine ae ?_|refine aT ?_)
  refine bF rfl (rt rfl) ?_
  rw [hkk]
  refine ⟨a', c', by rw [hkl]; rfl, ⟨hO3.sl, ?_, hL.lim, hL.len⟩, fun ad e => (hO3.lo ad e).1, hE3⟩
  rw [hkl]
  rcases hO3.2 with ⟨hv, hn⟩ | ⟨g, cap2, cur, hv, hbg, hg, hnc, hcm, hcs, htake⟩
  ·simp only [Value.slice.injEq] at hv; omega
  ·simp only [Value.slice.injEq] at hv; omega
theorem kB {ls : List Nat} {a : Option Addr} {c : Nat} {w : World} (h : Limbs w a c ls) (neg : Bool) :
  CallsR Try.prog 17 #[.bool neg, .slice a ls.length c] w (RetZ w (sgn neg (natOf ls))) := by
 refine aJ (args := [_, _]) Try.func17 rfl rfl ?_
 repeat' (first|refine aD (fun g w1 hn => ⟨fun _ _ => trivial, ?_⟩)|refine ai rfl ?_|refine aa ?_|refine ao ?_|refine ah rfl ?_|refine ae ?_)
 refine ax (kA (h.ext hn.ex)) rfl ?_
 rintro v w2 ⟨a2, c2, rfl, hL2, hf2, hE2⟩
 refine ⟨fun _ _ => trivial, ?_⟩
 have hb : Blk w2 g 27 (intL false none 0 0) := Blk.ext (cs := intL false none 0 0) hn.blk hE2
 have l1 := hn.lo
 have l2 := hn.hi
 have l3 := hE2.size
 cases neg
 ·repeat' (first|refine ai rfl ?_|refine aa ?_|refine ao ?_|refine ah rfl ?_|refine ae ?_|refine bS rfl rfl ?_)
  refine cD (cs := intL false a2 (trimL ls).length c2) rfl ?_
  refine aw (n := 2) rfl rfl rfl rfl hb rfl (fun w3 hc3 hb3 => ⟨fun _ _ => trivial, ?_⟩)
  repeat' (first|refine aa ?_|refine ae ?_|refine aT ?_)
  refine bF rfl (rc rfl rfl hb3) ⟨⟨false, a2, c2, trimL ls, rfl, hL2.chg hc3 (fun ad e => by have := hf2 ad e; omega), by rw [bu], bE _, by simp, fun ad e => by have := hf2 ad e; omega⟩, (hn.ex.trans hE2).chg hc3 (by omega)⟩
 ·repeat' (first|refine ai rfl ?_|refine aa ?_|refine ao ?_|refine ah rfl ?_|refine ae ?_|refine bn rfl ?_|refine bB rfl rfl ?_)
  refine cD (cs := intL (decide ((0 : Int) < ((trimL ls).length : Int))) a2 (trimL ls).length c2) rfl ?_
  refine aw (n := 2) rfl rfl rfl rfl hb rfl (fun w3 hc3 hb3 => ⟨fun _ _ => trivial, ?_⟩)
  repeat' (first|refine aa ?_|refine ae ?_|refine aT ?_)
  refine bF rfl (rc rfl rfl hb3) ⟨⟨_, a2, c2, trimL ls, rfl, hL2.chg hc3 (fun ad e => by have := hf2 ad e; omega), ?_, bE _, ?_, fun ad e => by have := hf2 ad e; omega⟩, (hn.ex.trans hE2).chg hc3 (by omega)⟩
  ·by_cases h0 : trimL ls = []
   ·have := cw.1 h0
    simp [h0, this, sgn, natOf]
   ·have : (0 : Int) < ((trimL ls).length : Int) := by
     have := List.length_pos_iff.2 h0; omega
    rw [decide_eq_true this, bu]
  ·intro hd h0
   rw [h0] at hd; simp at hd
theorem gQ {n : Nat} (hn : n < 18446744073709551616) (neg : Bool) (w : World) : CallsR Try.prog 10 #[.bool neg, .int .u64 (n : Int)] w (RetZ w (sgn neg n)) := by
 refine aJ (args := [_, _]) Try.func10 rfl rfl ?_
 repeat' (first|refine aD (fun g w1 hn1 => ⟨fun _ _ => trivial, ?_⟩)|refine dB rfl ?_|refine eh rfl rfl ?_|refine ai rfl ?_|refine aa ?_|refine ao ?_|refine ah rfl ?_|refine ae ?_)
 refine oB rfl rfl rfl rfl (fun g2 w2 hn2 => ⟨fun _ _ => trivial, ?_⟩)
 have hL : Limbs w2 (some ⟨g2, 0, none⟩) 2 [n % 4294967296, n / 4294967296 % 4294967296] := ⟨hn2.blk.sl, by simp, by intro d hd; simp at hd; omega, by simp⟩
 refine ax (kB hL neg) rfl ?_
 rintro v w3 ⟨hI, hE3⟩
 obtain ⟨ng, a', c', ls, rfl, hI'⟩ := id hI
 refine ⟨fun _ _ => trivial, ?_⟩
 have hb : Blk w3 g 27 (intL false none 0 0) := Blk.ext (cs := intL false none 0 0) (Blk.ext (cs := intL false none 0 0) hn1.blk hn2.ex) hE3
 have l1 := hn1.lo
 have l2 := hn1.hi
 have l3 := hn2.ex.size
 refine aw (n := 2) rfl rfl rfl rfl hb rfl (fun w4 hc4 hb4 => ⟨fun _ _ => trivial, ?_⟩)
 repeat' (first|refine aa ?_|refine ae ?_|refine aT ?_)
 refine bF rfl (rc rfl rfl hb4) ⟨?_, ((hn1.ex.trans hn2.ex).trans hE3).chg hc4 l1⟩
 have e : natOf [n % 4294967296, n / 4294967296 % 4294967296] = n := by simp [natOf]; omega
 rw [e] at hI
 exact (hI.chg hc4 (by omega)).mono (by omega)
theorem bZ {z : Int} (h1 : -9223372036854775808 ≤ z) (h2 : z ≤ 9223372036854775807) (w : World) : CallsR Try.prog 5 #[.int .i64 z] w (RetZ w z) := by
 refine aJ (args := [_]) Try.func5 rfl rfl ?_
 repeat' (first|refine aD (fun g w1 hn => ⟨fun _ _ => trivial, ?_⟩)|refine ai rfl ?_|refine aa ?_|refine ao ?_|refine ah rfl ?_|refine ae ?_|refine aR rfl (fun hc => ?_) (fun hc => ?_)|refine aI ?_)
 all_goals have hb : Blk w1 g 27 (intL false none 0 0) := hn.blk
 ·refine i9 rfl ?_
  refine mc rfl ?_
  obtain ⟨n, rfl⟩ : ∃ n : Nat, z = -(n : Int) := ⟨(-z).toNat, by omega⟩
  rw [show IntKind.u64.wrap (-IntKind.u64.wrap (-(n : Int))) = ((n : Nat) : Int) by
   rw [cv rfl, cv rfl]; simp only [IntKind.bits]; omega]
  refine ax (gQ (by omega) true _) rfl ?_
  rintro v w3 ⟨hI, hE3⟩
  obtain ⟨neg, a', c', ls, rfl, hI'⟩ := id hI
  refine ⟨fun _ _ => trivial, ?_⟩
  refine aw (n := 2) rfl rfl rfl rfl (hb.ext hE3) rfl (fun w4 hc4 hb4 => ⟨fun _ _ => trivial, ?_⟩)
  repeat' (first|refine aa ?_|refine ae ?_|refine aT ?_|refine bw ?_)
  exact bF rfl (rc rfl rfl hb4) ⟨(hI.chg hc4 hn.hi).mono hn.ex.size, (hn.ex.trans hE3).chg hc4 hn.lo⟩
 ·obtain ⟨n, rfl⟩ : ∃ n : Nat, z = (n : Int) := ⟨z.toNat, by omega⟩
  refine cP rfl (cW (by omega) (by omega)) ?_
  refine ax (gQ (by omega) false _) rfl ?_
  rintro v w3 ⟨hI, hE3⟩
  obtain ⟨neg, a', c', ls, rfl, hI'⟩ := id hI
  refine ⟨fun _ _ => trivial, ?_⟩
  refine aw (n := 2) rfl rfl rfl rfl (hb.ext hE3) rfl (fun w4 hc4 hb4 => ⟨fun _ _ => trivial, ?_⟩)
  repeat' (first|refine aa ?_|refine ae ?_|refine aT ?_)
  exact bF rfl (rc rfl rfl hb4) ⟨(hI.chg hc4 hn.hi).mono hn.ex.size, (hn.ex.trans hE3).chg hc4 hn.lo⟩
theorem k4 {la lb : List Nat} {a b : Option Addr} {c d : Nat} {w : World} (ha : Limbs w a c la) (hb : Limbs w b d lb) (ca : Canon la) (cb : Canon lb) :
  CallsR Try.prog 14 #[.slice a la.length c, .slice b lb.length d] w fun v w' => v = .int .i64 (cmpZ (natOf la) (natOf lb)) ∧ Ex w w' := by
 have hla := ha.len
 refine aJ (args := [_, _]) Try.func14 rfl rfl ?_
 repeat' (first|refine ai rfl ?_|refine aa ?_|refine ao ?_|refine ah rfl ?_|refine ae ?_|refine bn rfl ?_|refine dh rfl rfl (by omega) (by omega) ?_|refine aR rfl (fun hc => ?_) (fun hc => ?_)|refine aC ?_|refine aT ?_|refine bw ?_|refine aI ?_)
 ·refine bF rfl (rt rfl) ⟨?_, Ex.refl _⟩
  rw [cmpZ, if_pos (dW ha.lim cb (by omega))]; rfl
 ·refine bF rfl (rt rfl) ⟨?_, Ex.refl _⟩
  have := dW hb.lim ca (by omega)
  rw [cmpZ, if_neg (by omega), if_pos this]; rfl
 ·have hl : la.length = lb.length := by omega
  refine bh (ι := Nat) [4, 5, 19, 20, 21, 22, 23, 24, 25, 26, 27, 28, 29, 30, 31, 32, 33, 34, 35, 36, 37, 38, 39, 40] (fun k => [(5, .int .i64 ((k : Int) - 1))]) (fun k w' => k ≤ la.length ∧ Ex w w' ∧ natOf (la.drop k) = natOf (lb.drop k)) (fun k => k) la.length ⟨rfl, trivial⟩
   ⟨Nat.le_refl _, Ex.refl _, by rw [List.drop_length, hl, List.drop_length]⟩ ?_
  rintro k ξ w2 ⟨hk, hE, hT⟩
  repeat' (first|refine ai rfl ?_|refine aa ?_|refine ao ?_|refine ah rfl ?_|refine ae ?_|refine aR rfl (fun hc => ?_) (fun hc => ?_)|refine aC ?_|refine aW ?_|refine aO ?_|refine aX ?_|refine aT ?_|refine aI ?_)
  ·obtain ⟨j, rfl⟩ : ∃ j, k = j + 1 := ⟨k - 1, by omega⟩
   rw [show ((j + 1 : Nat) : Int) - 1 = (j : Int) by omega]
   refine aZ (late := []) (plan := [(0, none), (1, none), (2, none), (3, none), (4, none), (5, none), (6, none), (7, none), (8, none)]) (fun w' => Ex w w') bt (by kernel_rfl) hE.drew ?_
   repeat' (first|(refine aB (j := j) rfl rfl (ha.sl.plain (by simp; omega)) (by omega) ?_)|(refine aB (j := j) rfl rfl (hb.sl.plain (by simp; omega)) (by omega) ?_)|refine bO rfl (fun _ h => ha.sl.ext h) (by omega) ?_|refine bO rfl (fun _ h => hb.sl.ext h) (by omega) ?_|refine ai rfl ?_|refine aa ?_|refine ao ?_|refine ah rfl ?_|refine ae ?_|refine dh rfl rfl (by omega) (by omega) ?_|refine aR rfl (fun hc => ?_) (fun hc => ?_)|refine aM ?_|refine aI ?_)
   ·refine aZ (late := []) (plan := [(0, none), (1, none), (2, none), (3, none), (4, none), (5, none), (6, none), (7, none), (8, none)]) (fun w' => Ex w w') bt (by kernel_rfl) hE.drew.drew ?_
    repeat' (first|(refine aB (j := j) rfl rfl (ha.sl.plain (by simp; omega)) (by omega) ?_)|(refine aB (j := j) rfl rfl (hb.sl.plain (by simp; omega)) (by omega) ?_)|refine bO rfl (fun _ h => ha.sl.ext h) (by omega) ?_|refine bO rfl (fun _ h => hb.sl.ext h) (by omega) ?_|refine ai rfl ?_|refine aa ?_|refine ao ?_|refine ah rfl ?_|refine ae ?_|refine aR rfl (fun hc => ?_) (fun hc => ?_)|refine aT ?_|refine bw ?_|refine du ?_|refine aI ?_)
    ·refine bF rfl (rt rfl) ⟨?_, hE.drew.drew⟩
     rw [cmpZ, if_pos (em (i := j) ha.lim hl (by omega) hT (by omega))]; rfl
    ·refine bF rfl (rt rfl) ⟨?_, hE.drew.drew⟩
     have := em (i := j) hb.lim hl.symm (by omega) hT.symm (by omega)
     rw [cmpZ, if_neg (by omega), if_pos this]; rfl
   ·refine ⟨⟨j, ⟨by omega, hE.drew, ?_⟩, by omega, ?_, trivial⟩, (by (repeat (first|exact aF _ _ _|refine ay rfl ?_|refine av rfl ?_|refine aj rfl ?_|refine ak rfl ?_)))⟩
    ·rw [cx (ls := la) (k := j) (by omega), cx (ls := lb) (k := j) (by omega), hT, show la.getD j 0 = lb.getD j 0 by omega]
    ·rfl
  ·obtain rfl : k = 0 := by omega
   simp only [List.drop_zero] at hT
   refine bF rfl (rt rfl) ⟨?_, hE⟩
   rw [cmpZ, if_neg (by omega), if_neg (by omega)]; rfl
theorem p8 {n1 n2 : Bool} {l1 l2 : List Nat} (c1 : Canon l1) (c2 : Canon l2) (g1 : n1 = true → l1 ≠ []) (g2 : n2 = true → l2 ≠ []) :
  sgn n1 (natOf l1) = sgn n2 (natOf l2) ↔ n1 = n2 ∧ natOf l1 = natOf l2 := by
 have hz : ∀ {l : List Nat}, Canon l → natOf l = 0 → l = [] := fun {l} c h => by have := cw.2 h; rwa [c] at this
 unfold sgn
 cases n1 <;> cases n2 <;> simp
 ·omega
 ·intro h
  have h2 : natOf l2 = 0 := by omega
  exact g2 rfl (hz c2 h2)
 ·intro h
  have h1 : natOf l1 = 0 := by omega
  exact g1 rfl (hz c1 h1)
 ·omega
theorem cT {lo lo' : Nat} {v1 v2 : Value} {x y : Int} {w : World} (h1 : IntC lo w v1 x) (h2 : IntC lo' w v2 y) :
  CallsR Try.prog 8 #[v1, v2] w fun v w' => v = .bool (decide (x = y)) ∧ Ex w w' := by
 obtain ⟨n1, a1, c1, l1, rfl, hL1, rfl, hc1, g1, _⟩ := h1
 obtain ⟨n2, a2, c2, l2, rfl, hL2, rfl, hc2, g2, _⟩ := h2
 have hiff := p8 hc1 hc2 g1 g2
 refine aJ (args := [_, _]) Try.func8 rfl rfl ?_
 refine ao ?_
 refine ah rfl ?_
 refine bM rfl (fun ga w2 hn2 => ⟨fun _ _ => trivial, ?_⟩)
 refine bM rfl (fun gb w3 hn3 => ⟨fun _ _ => trivial, ?_⟩)
 have hb2 := hn2.blk.ext hn3.ex
 have hb3 := hn3.blk
 have hE := hn2.ex.trans hn3.ex
 have hle : natOf l1 = natOf l2 → l1.length = l2.length := fun h => by rw [kz hL1.lim hL2.lim hc1 hc2 h]
 repeat' (first|refine aV rfl hb2 rfl ?_|refine aV rfl hb3 rfl ?_|refine ai rfl ?_|refine aa ?_|refine ao ?_|refine ah rfl ?_|refine ae ?_|refine bn rfl ?_|refine bB rfl rfl ?_|refine bS rfl rfl ?_|refine fS rfl rfl (fun hc => ?_) (fun hc => ?_)|refine aL rfl ?_|refine md rfl rfl ?_|refine aT ?_)
 ·refine ax (k4 (hL1.ext hE) (hL2.ext hE) hc1 hc2) rfl ?_
  rintro v w4 ⟨rfl, hE4⟩
  refine ⟨fun _ _ => trivial, ?_⟩
  repeat' (first|refine ai rfl ?_|refine aa ?_|refine ae ?_|refine bB rfl rfl ?_|refine aT ?_)
  refine bF rfl (rt rfl) ⟨congrArg Value.bool (decide_eq_decide.2 ?_), hE.trans hE4⟩
  rw [hiff]
  unfold cmpZ
  have hn : n1 = n2 := by assumption
  constructor
  ·intro h
   refine ⟨hn, ?_⟩
   split at h
   ·omega
   ·split at h
    ·omega
    ·omega
  ·rintro ⟨_, h⟩
   rw [if_neg (by omega), if_neg (by omega)]
 all_goals
  refine bF rfl (rt rfl) ⟨congrArg Value.bool (Eq.symm (decide_eq_false ?_)), hE⟩
  rw [hiff]
  rintro ⟨h1, h2⟩
  have := hle h2
  first|omega|(subst h1; simp_all; done)
end Go.Proofs.Ytppipmkpmmdcjaa
namespace Go.PM
def bit (ws : List Nat) (x : Nat) : Bool := (ws.getD (x / 64) 0).testBit (x % 64)
theorem cF {α : Type} (l : List α) (d : α) {k : Nat} (h : k < l.length) : l.take (k + 1) = l.take k ++ [l.getD k d] := by
 rw [List.take_succ_eq_append_getElem h, List.getD_eq_getElem?_getD, List.getElem?_eq_getElem h]; rfl
end Go.PM
namespace Go.PM
end Go.PM
namespace Go.PM
end Go.PM
namespace Go.PM
def ap (p : List Int) (x : Int) : Int := p.getD x.toNat 0
def it (p : List Int) : Nat → Int → Int
 | 0, x => x
 | k + 1, x => ap p (it p k x)
end Go.PM
namespace Go.Proofs.Ytppipmkpmmdcjaa
open Go.W Go.PM Go.LM
theorem IntC.out {lo : Nat} {w : World} {v : Value} {z : Int} (h : IntC lo w v z) : ∃ cs : List Value, v = .agg cs.toArray ∧ cs.length = 2 ∧ cs.all Value.oneCell' = true := by
 obtain ⟨neg, a, c, ls, rfl, _⟩ := h
 exact ⟨_, rfl, rfl, rfl⟩
end Go.Proofs.Ytppipmkpmmdcjaa
namespace Go.W
theorem Own.cap {w : World} {lo T s n cap : Nat} {a : Option Addr} {vs : List Value} (h : Own w lo T s a n cap vs) : n ≤ cap := by
 rcases h.2 with ⟨hv, hn⟩ | ⟨g, c, cur, hv, hg, hb, h1, h2, h3, h4⟩
 ·omega
 ·simp only [Value.slice.injEq] at hv; omega
end Go.W
namespace Go.Proofs.Ytppipmkpmmdcjaa
open Go.W Go.PM
end Go.Proofs.Ytppipmkpmmdcjaa
namespace Go.LM
theorem dl (k : Nat) : 4294967296 ^ (k + 1) = 4294967296 ^ k * 4294967296 := Nat.pow_succ _ _
theorem jq {S : List Nat} {k c a b N : Nat} (hk : k < S.length) (h0 : S.getD k 0 = 0) (h : natOf S + c * 4294967296 ^ k = N) :
  natOf (S.set k ((c + (a + b)) % 4294967296)) + (c + (a + b)) / 4294967296 * 4294967296 ^ (k + 1) = N + (a + b) * 4294967296 ^ k := by
 have h1 := cu (v := (c + (a + b)) % 4294967296) hk
 rw [h0, Nat.zero_mul, Nat.add_zero] at h1
 rw [h1, dl]
 have h2 := Nat.mod_add_div (c + (a + b)) 4294967296
 generalize (c + (a + b)) % 4294967296 = r at *
 generalize (c + (a + b)) / 4294967296 = q at *
 generalize 4294967296 ^ k = P at *
 have e : r * P + q * (P * 4294967296) = (c + (a + b)) * P := by rw [← h2]; grind
 have e2 : (c + (a + b)) * P = c * P + (a + b) * P := Nat.add_mul _ _ _
 omega
theorem oN {D : List Nat} {k br a x M N : Nat} (hk : k < D.length) (h0 : D.getD k 0 = 0) (h : natOf D + M = N + br * 4294967296 ^ k) :
  (x + br ≤ a → natOf (D.set k (a - (x + br))) + (M + x * 4294967296 ^ k) = N + a * 4294967296 ^ k) ∧
  (x + br ≤ 4294967296 + a → natOf (D.set k (4294967296 + a - (x + br))) + (M + x * 4294967296 ^ k) = N + a * 4294967296 ^ k + 1 * 4294967296 ^ (k + 1)) := by
 constructor
 ·intro hle
  have h1 := cu (v := a - (x + br)) hk
  rw [h0, Nat.zero_mul, Nat.add_zero] at h1
  rw [h1]
  obtain ⟨d, rfl⟩ : ∃ d, a = x + br + d := ⟨a - (x + br), by omega⟩
  rw [show x + br + d - (x + br) = d by omega]
  generalize 4294967296 ^ k = P at *
  have e : (x + br + d) * P = x * P + br * P + d * P := by grind
  omega
 ·intro hle
  have h1 := cu (v := 4294967296 + a - (x + br)) hk
  rw [h0, Nat.zero_mul, Nat.add_zero] at h1
  rw [h1, dl, Nat.one_mul]
  obtain ⟨d, hd⟩ : ∃ d, 4294967296 + a = x + br + d := ⟨4294967296 + a - (x + br), by omega⟩
  rw [show 4294967296 + a - (x + br) = d by omega]
  generalize 4294967296 ^ k = P at *
  have e : (4294967296 + a) * P = (x + br + d) * P := by rw [hd]
  have e1 : (x + br + d) * P = x * P + br * P + d * P := by grind
  have e2 : (4294967296 + a) * P = P * 4294967296 + a * P := by grind
  omega
theorem j3 {U : List Nat} {k br x M N : Nat} (hk : k < U.length) (h : natOf U + M = N + br * 4294967296 ^ k) :
  (x + br ≤ U.getD k 0 → natOf (U.set k (U.getD k 0 - (x + br))) + (M + x * 4294967296 ^ k) = N) ∧
  (x + br ≤ 4294967296 + U.getD k 0 → natOf (U.set k (4294967296 + U.getD k 0 - (x + br))) + (M + x * 4294967296 ^ k) = N + 1 * 4294967296 ^ (k + 1)) := by
 constructor
 ·intro hle
  have h1 := cu (v := U.getD k 0 - (x + br)) hk
  generalize U.getD k 0 = a at *
  obtain ⟨d, rfl⟩ : ∃ d, a = x + br + d := ⟨a - (x + br), by omega⟩
  rw [show x + br + d - (x + br) = d by omega] at *
  generalize 4294967296 ^ k = P at *
  have e : (x + br + d) * P = x * P + br * P + d * P := by grind
  omega
 ·intro hle
  have h1 := cu (v := 4294967296 + U.getD k 0 - (x + br)) hk
  generalize U.getD k 0 = a at *
  obtain ⟨d, hd⟩ : ∃ d, 4294967296 + a = x + br + d := ⟨4294967296 + a - (x + br), by omega⟩
  rw [show 4294967296 + a - (x + br) = d by omega] at *
  rw [dl, Nat.one_mul]
  generalize 4294967296 ^ k = P at *
  have e : (4294967296 + a) * P = (x + br + d) * P := by rw [hd]
  have e1 : (x + br + d) * P = x * P + br * P + d * P := by grind
  have e2 : (4294967296 + a) * P = P * 4294967296 + a * P := by grind
  omega
theorem j4 {U : List Nat} {k c x N : Nat} (hk : k < U.length) (h : natOf U + c * 4294967296 ^ k = N) :
  natOf (U.set k ((c + (U.getD k 0 + x)) % 4294967296)) + (c + (U.getD k 0 + x)) / 4294967296 * 4294967296 ^ (k + 1) = N + x * 4294967296 ^ k := by
 have h1 := cu (v := (c + (U.getD k 0 + x)) % 4294967296) hk
 have h2 := Nat.mod_add_div (c + (U.getD k 0 + x)) 4294967296
 rw [dl]
 generalize (c + (U.getD k 0 + x)) % 4294967296 = r at *
 generalize (c + (U.getD k 0 + x)) / 4294967296 = q at *
 generalize U.getD k 0 = a at *
 generalize 4294967296 ^ k = P at *
 have e : r * P + q * (P * 4294967296) = (c + (a + x)) * P := by rw [← h2]; grind
 have e2 : (c + (a + x)) * P = c * P + a * P + x * P := by grind
 omega
theorem nN {_q r m X b Q : Nat} (h : b * Q + r = X) (_hb : 0 < b) : b * ((r * 4294967296 + m) / b + 4294967296 * Q) + (r * 4294967296 + m) % b = m + 4294967296 * X := by
 have h2 := Nat.div_add_mod (r * 4294967296 + m) b
 rw [Nat.mul_add, ← h]
 generalize (r * 4294967296 + m) / b = y at *
 generalize (r * 4294967296 + m) % b = z at *
 grind
theorem oO {S : List Nat} {k c m s N : Nat} (hk : k < S.length) (h0 : S.getD k 0 = 0) (h : natOf S + c * 4294967296 ^ k = N) (hc : c < 2 ^ s) :
  natOf (S.set k ((c ||| m <<< s) % 4294967296)) + (c ||| m <<< s) / 4294967296 * 4294967296 ^ (k + 1) = N + m * 2 ^ s * 4294967296 ^ k := by
 have e : c ||| m <<< s = c + (m * 2 ^ s + 0) := by
  rw [Nat.or_comm, ← Nat.shiftLeft_add_eq_or_of_lt hc, Nat.shiftLeft_eq]; omega
 rw [e, jq hk h0 h, Nat.add_zero]
theorem nO {c m s : Nat} (hc : c < 2 ^ s) (hm : m < 4294967296) : (c ||| m <<< s) / 4294967296 < 2 ^ s := by
 have e : c ||| m <<< s = m * 2 ^ s + c := by rw [Nat.or_comm, ← Nat.shiftLeft_add_eq_or_of_lt hc, Nat.shiftLeft_eq]
 rw [e]
 refine (Nat.div_lt_iff_lt_mul (by decide)).2 ?_
 have : (m + 1) * 2 ^ s ≤ 4294967296 * 2 ^ s := Nat.mul_le_mul_right _ hm
 rw [Nat.add_mul, Nat.one_mul] at this
 have h2 := Nat.mul_comm 4294967296 (2 ^ s)
 omega
def shrL (s : Nat) : List Nat → List Nat
 | [] => []
 | d :: ds => (d + 4294967296 * ds.headD 0) / 2 ^ s % 4294967296 :: shrL s ds
theorem jr (s : Nat) : ∀ l, (shrL s l).length = l.length
 | [] => rfl
 | d :: ds => by simp [shrL, jr s ds]
theorem lk (s : Nat) : ∀ l, Lim (shrL s l)
 | [] => fun d hd => by simp [shrL] at hd
 | d :: ds => fun x hx => by
  rcases List.mem_cons.1 hx with e | e
  ·rw [e]; exact Nat.mod_lt _ (by decide)
  ·exact lk s ds x e
theorem js {s : Nat} (hs : s ≤ 32) : ∀ {l : List Nat}, Lim l → natOf (shrL s l) = natOf l / 2 ^ s
 | [], _ => by simp [shrL, natOf]
 | d :: ds, h => by
  have hd : d < 4294967296 := h d (by simp)
  have hds : Lim ds := fun x hx => h x (by simp [hx])
  have ih := js hs hds
  obtain ⟨Y, hY⟩ : ∃ Y, natOf ds = ds.headD 0 + 4294967296 * Y := by
   cases ds with
   | nil => exact ⟨0, rfl⟩
   | cons x xs => exact ⟨natOf xs, rfl⟩
  show (d + 4294967296 * ds.headD 0) / 2 ^ s % 4294967296 + 4294967296 * natOf (shrL s ds) = (d + 4294967296 * natOf ds) / 2 ^ s
  rw [ih]
  have hT : 4294967296 = 2 ^ s * 2 ^ (32 - s) := by rw [← Nat.pow_add, show s + (32 - s) = 32 by omega]
  have hS : 0 < 2 ^ s := Nat.two_pow_pos s
  generalize 2 ^ s = S at *
  generalize 2 ^ (32 - s) = T at *
  generalize ds.headD 0 = x0 at *
  generalize natOf ds = X at *
  have key : ∀ Z, (d + 4294967296 * Z) / S = d / S + T * (Z % S) + 4294967296 * (Z / S) := fun Z => by
   have h1 := Nat.mod_add_div Z S
   have e : d + 4294967296 * Z = d + S * (T * (Z % S) + 4294967296 * (Z / S)) := by
    conv => lhs; rw [← h1]
    rw [hT]; grind
   rw [e, Nat.add_mul_div_left _ _ hS]
   omega
  rw [key x0, key X]
  have hmod : X % S = x0 % S := by
   rw [hY, hT, Nat.mul_assoc, Nat.add_mul_mod_self_left]
  rw [hmod]
  have hlt : d / S + T * (x0 % S) < 4294967296 := by
   have h1 : d / S < T := (Nat.div_lt_iff_lt_mul hS).2 (by rw [Nat.mul_comm, ← hT]; exact hd)
   have h2 : x0 % S < S := Nat.mod_lt _ hS
   have h3 : T * (x0 % S + 1) ≤ T * S := Nat.mul_le_mul_left _ h2
   rw [Nat.mul_add, Nat.mul_one] at h3
   have h4 := Nat.mul_comm T S
   omega
  rw [Nat.add_mul_mod_self_left, Nat.mod_eq_of_lt hlt]
theorem j5 (s : Nat) : ∀ (l : List Nat) (k : Nat), k < l.length → (shrL s l).getD k 0 = (l.getD k 0 + 4294967296 * l.getD (k + 1) 0) / 2 ^ s % 4294967296
 | [], k, h => absurd h (by simp)
 | d :: ds, 0, _ => by
  show (d + 4294967296 * ds.headD 0) / 2 ^ s % 4294967296 = (d + 4294967296 * (d :: ds).getD 1 0) / 2 ^ s % 4294967296
  cases ds <;> rfl
 | d :: ds, k + 1, h => by
  show (shrL s ds).getD k 0 = (ds.getD k 0 + 4294967296 * ds.getD (k + 1) 0) / 2 ^ s % 4294967296
  exact j5 s ds k (by simpa using h)
end Go.LM
namespace Go.LM
theorem cf {l : List Nat} {k : Nat} (h : l.length ≤ k) : natOf (l.take k) = natOf l := by rw [List.take_of_length_le h]
theorem bX (l : List Nat) (k : Nat) : natOf (l.take (k + 1)) = natOf (l.take k) + l.getD k 0 * 4294967296 ^ k := by
 by_cases h : k < l.length
 ·exact bU h
 ·rw [cf (by omega), cf (by omega), List.getD_eq_getElem?_getD, List.getElem?_eq_none (by omega)]; simp
end Go.LM
namespace Go.W
section
variable {P : Program} {S : World → Prop} {ops : List Oper} {K : Env → World → Prop} {rest : List (Oper × Option Bool)} {ρ : Env} {w : World} {b : Option Bool} {kf : Bool} {d : Nat} {dst : Option Nat} {T T' : TypeId} {pos : String} {af : Array Edge}
theorem oP {x y : Operand} {m m' : Nat} {T'' : TypeId} (hx : ev ρ x = .int .u64 (m : Int)) (hy : ev ρ y = .int .u64 (m' : Int)) (h2 : m' ≤ 18446744073709551616)
  (h : RR P S ops K rest (upd ρ d (.int .u64 (((18446744073709551616 + m - m') % 18446744073709551616 : Nat) : Int))) w) : RR P S ops K ((⟨some d, .binOp .sub T' x y T'', T, pos, af, none⟩, b) :: rest) ρ w :=
 ow hx hy (by
  rw [show IntKind.u64.wrap ((m : Int) - (m' : Int)) = (((18446744073709551616 + m - m') % 18446744073709551616 : Nat) : Int) from (cv rfl).trans (by simp only [IntKind.bits]; omega)]
  exact h)
end
end Go.W
namespace Go.Proofs.Ytppipmkpmmdcjaa
open Go.W Go.LM
def IntK (k : Nat) (w : World) (v : Value) (z : Int) : Prop := ∃ neg a c ls, v = .agg (intL neg a ls.length c).toArray ∧ Limbs w a c ls ∧ z = sgn neg (natOf ls) ∧ ls.length ≤ k
theorem IntK.ext {k : Nat} {w w' : World} {v : Value} {z : Int} (h : IntK k w v z) (e : Ex w w') : IntK k w' v z := by obtain ⟨neg, a, c, ls, h1, h2, h3⟩ := h; exact ⟨neg, a, c, ls, h1, h2.ext e, h3⟩
theorem IntK.mono {k k' : Nat} {w : World} {v : Value} {z : Int} (h : IntK k w v z) (e : k ≤ k') : IntK k' w v z := by obtain ⟨neg, a, c, ls, h1, h2, h3, h4⟩ := h; exact ⟨neg, a, c, ls, h1, h2, h3, Nat.le_trans h4 e⟩
theorem IntK.lt {k : Nat} {w : World} {v : Value} {z : Int} (h : IntK k w v z) : z.natAbs < 4294967296 ^ k := by
 obtain ⟨neg, a, c, ls, h1, h2, rfl, h4⟩ := h
 rw [d9]
 exact Nat.lt_of_lt_of_le (b9 h2.lim) (Nat.pow_le_pow_right (by decide) h4)
theorem IntC.k {lo k : Nat} {w : World} {v : Value} {z : Int} (h : IntC lo w v z) (hz : z.natAbs < 4294967296 ^ k) : IntK k w v z := by
 obtain ⟨neg, a, c, ls, h1, h2, rfl, h4, _, _⟩ := h
 rw [d9] at hz
 exact ⟨neg, a, c, ls, h1, h2, rfl, dE h4 hz⟩
end Go.Proofs.Ytppipmkpmmdcjaa
namespace Go.Proofs.Ytppipmkpmmdcjaa
open Go.W Go.LM
set_option maxHeartbeats 2000000 in
theorem iK {la lb : List Nat} {a b : Option Addr} {c d : Nat} {w : World} (ha : Limbs w a c la) (hb : Limbs w b d lb) (hla : la.length < 17592186044416) (hlb : lb.length < 17592186044416) :
  CallsR Try.prog 70 #[.slice a la.length c, .slice b lb.length d] w fun v w' => ∃ ls, natOf ls = natOf la + natOf lb ∧ Canon ls ∧ RetN w ls v w' := by
 refine aJ (args := [_, _]) Try.func70 rfl rfl ?_
 repeat' (first|refine ai rfl ?_|refine aa ?_|refine ao ?_|refine ah rfl ?_|refine ae ?_|refine bn rfl ?_)
 refine cz (ι := (List Nat × Option Addr × Nat) × List Nat × Option Addr × Nat) [0, 1, 14, 15] (fun s => [(0, .slice s.1.2.1 s.1.1.length s.1.2.2), (1, .slice s.2.2.1 s.2.1.length s.2.2.2)])
  (fun s w' => w' = w ∧ Limbs w s.1.2.1 s.1.2.2 s.1.1 ∧ Limbs w s.2.2.1 s.2.2.2 s.2.1 ∧ s.2.1.length ≤ s.1.1.length ∧ s.1.1.length < 17592186044416 ∧ natOf s.1.1 + natOf s.2.1 = natOf la + natOf lb) ?_ ?_
 ·repeat' (first|refine ai rfl ?_|refine aa ?_|refine ah rfl ?_|refine ae ?_|refine aR rfl (fun hc => ?_) (fun hc => ?_)|refine aI ?_)
  ·exact ⟨⟨((lb, b, d), la, a, c), ⟨rfl, hb, ha, by simp only; omega, hlb, Nat.add_comm _ _⟩, rfl, rfl, trivial⟩, (by (repeat (first|exact aG _ _|refine ay rfl ?_|refine av rfl ?_|refine aj rfl ?_|refine ak rfl ?_)))⟩
  ·exact ⟨⟨((la, a, c), lb, b, d), ⟨rfl, ha, hb, by simp only; omega, hla, rfl⟩, rfl, rfl, trivial⟩, (by (repeat (first|exact aG _ _|refine ay rfl ?_|refine av rfl ?_|refine aj rfl ?_|refine ak rfl ?_)))⟩
 clear ha hb hla hlb
 rintro ⟨⟨xa, a', c'⟩, xb, b', d'⟩ ξ w1 ⟨rfl, hxa, hxb, hle, hxl, hsum⟩
 simp only at hxa hxb hle hxl hsum
 show CW _ _ _ _ (over [(0, .slice a' xa.length c'), (1, .slice b' xb.length d')] _) w1
 repeat' (first|refine fF (m := xa.length) (m' := 1) rfl rfl (by omega) ?_|refine fT rfl rfl (by omega) (by omega) (fun g w2 hn2 => ⟨fun _ _ => trivial, ?_⟩)|refine ai rfl ?_|refine aa ?_|refine ao ?_|refine ah rfl ?_|refine ae ?_|refine bn rfl ?_|refine aC ?_)
 have l2 := hn2.lo
 refine bh (ι := Nat × List Nat × Nat) [6, 7, 22, 23, 24, 25, 26, 27, 28, 29, 30, 31, 32, 33, 34, 35, 36, 37, 38, 39, 40, 41, 42, 43, 44, 45] (fun s => [(22, .int .i64 (s.1 : Int)), (6, .int .u64 (s.2.2 : Int))])
  (fun s w' => s.1 ≤ xb.length ∧ Ex w1 w' ∧ Blk w' g 49 (limbsL s.2.1) ∧ s.2.1.length = xa.length + 1 ∧ Lim s.2.1 ∧ s.2.2 ≤ 1 ∧ natOf s.2.1 + s.2.2 * 4294967296 ^ s.1 = natOf (xa.take s.1) + natOf (xb.take s.1) ∧ ∀ j, s.1 ≤ j → s.2.1.getD j 0 = 0) (fun s => xb.length - s.1)
  (0, List.replicate (xa.length + 1) 0, 0) ⟨rfl, rfl, trivial⟩ ⟨by simp, hn2.ex, hn2.blk, by simp, Lim.zeros _, by simp, by simp [dr, natOf], fun j _ => by simp [List.getD_eq_getElem?_getD, List.getElem?_replicate]; split <;> rfl⟩ ?_
 rintro ⟨i, S, cy⟩ ξ2 w3 ⟨hi, hE, hbk, hSl, hSL, hcy, hN, hz⟩
 simp only at hi hbk hSl hSL hcy hN hz
 show CW _ _ _ _ (over [(22, .int .i64 (i : Int)), (6, .int .u64 (cy : Int))] _) w3
 have hya := hxa.lim.getD i
 have hyb := hxb.lim.getD i
 repeat' (first|refine ai rfl ?_|refine aa ?_|refine ao ?_|refine ah rfl ?_|refine ae ?_|refine bn rfl ?_|refine dh rfl rfl (by omega) (by omega) ?_|refine aR rfl (fun hc => ?_) (fun hc => ?_)|refine aC ?_|refine aW ?_|refine aO ?_|refine aX ?_|refine aI ?_)
 ·refine aZ (late := []) (plan := [(0, none), (1, none), (2, none), (3, none), (4, none), (5, none), (6, none), (7, none), (8, none), (9, none), (10, none), (11, none), (12, none), (13, none)]) (fun w' => Ex w1 w') bt (by kernel_rfl) hE.drew ?_
  repeat' (first|(refine aB rfl rfl (hxa.sl.plain (by simp; omega)) (by omega) ?_)|(refine aB rfl rfl (hxb.sl.plain (by simp; omega)) (by omega) ?_)|refine bO rfl (fun _ h => hxa.sl.ext h) (by omega) ?_|refine bO rfl (fun _ h => hxb.sl.ext h) (by omega) ?_|refine ip rfl (by assumption) ?_|refine io rfl rfl (by omega) ?_|refine dB rfl ?_|refine eh rfl rfl ?_|refine aB rfl rfl ⟨_, _, rfl⟩ (by omega) ?_|refine dK rfl rfl hbk.drew (by omega) (fun w4 hc4 hb4 => ⟨fun _ _ => trivial, ?_⟩)|refine ai rfl ?_|refine aa ?_|refine ao ?_|refine ah rfl ?_|refine ae ?_|refine bi rfl rfl (by omega) (by omega) ?_|refine aM ?_)
  refine ⟨⟨(i + 1, S.set i ((cy + (xa.getD i 0 + xb.getD i 0)) % 4294967296), (cy + (xa.getD i 0 + xb.getD i 0)) / 4294967296), ⟨by simp only; omega, hE.drew.chg hc4 l2, hb4, by simp [hSl], hSL.set (Nat.mod_lt _ (by decide)), by simp only; omega, ?_, ?_⟩, by simp only; omega, rfl, rfl, trivial⟩, (by (repeat (first|exact aF _ _ _|refine ay rfl ?_|refine av rfl ?_|refine aj rfl ?_|refine ak rfl ?_)))⟩
  ·have := jq (a := xa.getD i 0) (b := xb.getD i 0) (show i < S.length by omega) (hz i (Nat.le_refl _)) hN
   simp only
   rw [this, bX, bX, Nat.add_mul]
   omega
  ·intro k hk
   simp only at hk ⊢
   rw [ct (by omega), hz k (by omega)]
 ·obtain rfl : i = xb.length := by omega
  refine bh (ι := Nat × List Nat × Nat) [6, 8, 51, 52, 53, 54, 55, 56, 57, 58, 59, 60, 61, 62, 63, 64, 65, 66, 67, 68, 69, 70, 71, 72, 73, 74] (fun s => [(51, .int .i64 (s.1 : Int)), (6, .int .u64 (s.2.2 : Int))])
   (fun s w' => xb.length + s.1 ≤ xa.length ∧ Ex w1 w' ∧ Blk w' g 49 (limbsL s.2.1) ∧ s.2.1.length = xa.length + 1 ∧ Lim s.2.1 ∧ s.2.2 ≤ 1 ∧ natOf s.2.1 + s.2.2 * 4294967296 ^ (xb.length + s.1) = natOf (xa.take (xb.length + s.1)) + natOf xb ∧ ∀ j, xb.length + s.1 ≤ j → s.2.1.getD j 0 = 0) (fun s => xa.length - s.1)
   (0, S, cy) ⟨rfl, rfl, trivial⟩ ⟨by simpa using hle, hE, hbk, hSl, hSL, hcy, by rw [cf (Nat.le_refl _)] at hN; exact hN, hz⟩ ?_
  clear hbk hSl hSL hcy hN hz hE
  rintro ⟨i, S, cy⟩ ξ3 w3 ⟨hi, hE, hbk, hSl, hSL, hcy, hN, hz⟩
  simp only at hi hbk hSl hSL hcy hN hz
  show CW _ _ _ _ (over [(51, .int .i64 (i : Int)), (6, .int .u64 (cy : Int))] _) w3
  have hya := hxa.lim.getD (xb.length + i)
  have hxa3 := hxa.ext hE
  repeat' (first|refine fF (m := xb.length) (m' := i) rfl rfl (by omega) ?_|(refine aB (j := xb.length + i) rfl rfl (hxa.sl.plain (by simp; omega)) (by omega) ?_)|refine bO rfl hxa3.sl (by omega) ?_|refine ip rfl (by assumption) ?_|refine io rfl rfl (by omega) ?_|refine dB rfl ?_|refine eh rfl rfl ?_|refine aB (j := xb.length + i) rfl rfl ⟨_, _, rfl⟩ (by omega) ?_|refine aB (j := xa.length) rfl rfl ⟨_, _, rfl⟩ (by omega) ?_|refine dK rfl rfl hbk (by omega) (fun w4 hc4 hb4 => ⟨fun _ _ => trivial, ?_⟩)|refine ai rfl ?_|refine aa ?_|refine ao ?_|refine ah rfl ?_|refine ae ?_|refine bn rfl ?_|refine bi rfl rfl (by omega) (by omega) ?_|refine aR rfl (fun hc => ?_) (fun hc => ?_)|refine aC ?_|refine aW ?_|refine aO ?_|refine aX ?_|refine aM ?_|refine aI ?_)
  ·refine ⟨⟨(i + 1, S.set (xb.length + i) ((cy + xa.getD (xb.length + i) 0) % 4294967296), (cy + xa.getD (xb.length + i) 0) / 4294967296), ⟨by simp only; omega, hE.chg hc4 l2, hb4, by simp [hSl], hSL.set (Nat.mod_lt _ (by decide)), by simp only; omega, ?_, ?_⟩, by simp only; omega, rfl, rfl, trivial⟩, (by (repeat (first|exact aF _ _ _|refine ay rfl ?_|refine av rfl ?_|refine aj rfl ?_|refine ak rfl ?_)))⟩
   ·have := jq (a := xa.getD (xb.length + i) 0) (b := 0) (show xb.length + i < S.length by omega) (hz _ (Nat.le_refl _)) hN
    rw [Nat.add_zero] at this
    simp only
    rw [← Nat.add_assoc, this, bX xa]
    omega
   ·intro k hk
    simp only at hk ⊢
    rw [ct (by omega), hz k (by omega)]
  ·have hi2 : xb.length + i = xa.length := by omega
   rw [hi2, cf (Nat.le_refl _), hsum] at hN
   rw [Nat.mod_eq_of_lt (by omega)] at hb4
   have hL := Limbs.of_blk (c := xa.length + 1) hb4 (by simp [hSl]) (hSL.set (by omega)) (by simp [hSl]; omega)
   have hcall := bL hL
   rw [List.length_set, hSl] at hcall
   have hset := cu (l := S) (k := xa.length) (v := cy) (by omega)
   rw [hz xa.length (by omega), Nat.zero_mul, Nat.add_zero, hN] at hset
   refine ax hcall rfl ?_
   rintro v w5 ⟨rfl, hE5⟩
   refine ⟨fun _ _ => trivial, ?_⟩
   repeat' (first|refine ai rfl ?_|refine aa ?_|refine ae ?_|refine aT ?_)
   exact bF rfl (rt rfl) ⟨trimL (S.set xa.length cy), by rw [bu, hset], bE _, _, _, rfl, hL.trim.ext hE5, fun ad e => by cases e; exact l2, (hE.chg hc4 l2).trans hE5⟩
end Go.Proofs.Ytppipmkpmmdcjaa
namespace Go.Proofs.Ytppipmkpmmdcjaa
open Go.W Go.LM
set_option maxHeartbeats 2000000 in
theorem fI {la lb : List Nat} {a b : Option Addr} {c d : Nat} {w : World} (ha : Limbs w a c la) (hb : Limbs w b d lb) (hab : natOf lb ≤ natOf la) (cb : Canon lb) :
  CallsR Try.prog 71 #[.slice a la.length c, .slice b lb.length d] w fun v w' => ∃ ls, natOf ls = natOf la - natOf lb ∧ Canon ls ∧ RetN w ls v w' := by
 have hll : lb.length ≤ la.length := dE cb (Nat.lt_of_le_of_lt hab (b9 ha.lim))
 have hlen := ha.len
 refine aJ (args := [_, _]) Try.func71 rfl rfl ?_
 repeat' (first|refine fT rfl rfl (by omega) (by omega) (fun g w2 hn2 => ⟨fun _ _ => trivial, ?_⟩)|refine ai rfl ?_|refine aa ?_|refine ao ?_|refine ah rfl ?_|refine ae ?_|refine bn rfl ?_|refine aC ?_)
 have l2 := hn2.lo
 refine bh (ι := Nat × List Nat × Nat) [6, 7, 8, 14, 15, 16, 17, 18, 19, 20, 21, 22, 23, 24, 25, 26, 27, 28, 29, 30, 31, 32, 33, 34, 35, 36, 37, 38, 39, 40, 41, 42] (fun s => [(14, .int .i64 (s.1 : Int)), (6, .int .u64 (s.2.2 : Int))])
  (fun s w' => s.1 ≤ la.length ∧ Ex w w' ∧ Blk w' g 49 (limbsL s.2.1) ∧ s.2.1.length = la.length ∧ Lim s.2.1 ∧ s.2.2 ≤ 1 ∧ natOf s.2.1 + natOf (lb.take s.1) = natOf (la.take s.1) + s.2.2 * 4294967296 ^ s.1 ∧ ∀ j, s.1 ≤ j → s.2.1.getD j 0 = 0) (fun s => la.length - s.1)
  (0, List.replicate la.length 0, 0) ⟨rfl, rfl, trivial⟩ ⟨by simp, hn2.ex, hn2.blk, by simp, Lim.zeros _, by simp, by simp [dr, natOf], fun j _ => by simp [List.getD_eq_getElem?_getD, List.getElem?_replicate]; split <;> rfl⟩ ?_
 rintro ⟨i, S, br⟩ ξ2 w3 ⟨hi, hE, hbk, hSl, hSL, hbr, hN, hz⟩
 simp only at hi hbk hSl hSL hbr hN hz
 show CW _ _ _ _ (over [(14, .int .i64 (i : Int)), (6, .int .u64 (br : Int))] _) w3
 have hxa := ha.lim.getD i
 have hxb := hb.lim.getD i
 have zb : lb.length ≤ i → lb.getD i 0 = 0 := fun h => by rw [List.getD_eq_getElem?_getD, List.getElem?_eq_none h]; rfl
 have ha3 := ha.ext hE
 have hb3 := hb.ext hE
 have fin : ∀ (v br' : Nat) (w4 : World), i < la.length → (lb.getD i 0 + br ≤ la.getD i 0 ∧ v = la.getD i 0 - (lb.getD i 0 + br) ∧ br' = 0 ∨ la.getD i 0 < lb.getD i 0 + br ∧ v = 4294967296 + la.getD i 0 - (lb.getD i 0 + br) ∧ br' = 1) → Chg g w3 w4 → Blk w4 g 49 (limbsL (S.set i v)) →
   (i + 1 ≤ la.length ∧ Ex w w4 ∧ Blk w4 g 49 (limbsL (S.set i v)) ∧ (S.set i v).length = la.length ∧ Lim (S.set i v) ∧ br' ≤ 1 ∧ natOf (S.set i v) + natOf (lb.take (i + 1)) = natOf (la.take (i + 1)) + br' * 4294967296 ^ (i + 1) ∧ ∀ j, i + 1 ≤ j → (S.set i v).getD j 0 = 0) := by
  intro v br' w4 hii hv hc hb'
  refine ⟨by omega, hE.chg hc l2, hb', by simp [hSl], hSL.set (by omega), by omega, ?_, fun j hj => by rw [ct (by omega)]; exact hz j (by omega)⟩
  rw [bX, bX]
  have hst := oN (a := la.getD i 0) (x := lb.getD i 0) (show i < S.length by omega) (hz i (Nat.le_refl _)) hN
  rcases hv with ⟨h1, rfl, rfl⟩ | ⟨h1, rfl, rfl⟩
  ·rw [hst.1 h1, Nat.zero_mul]; rfl
  ·rw [hst.2 (by omega)]
 repeat' (first|(refine aB rfl rfl (ha3.sl.plain (by simp; omega)) (by omega) ?_)|refine bO rfl ha3.sl (by omega) ?_|(refine aB rfl rfl (hb3.sl.plain (by simp; omega)) (by omega) ?_)|refine bO rfl hb3.sl (by omega) ?_|refine ip rfl (by assumption) ?_|refine oP rfl rfl (by omega) ?_|refine dB rfl ?_|refine gi (j := 63) rfl rfl (.inl rfl) ?_|refine aB rfl rfl ⟨_, _, rfl⟩ (by omega) ?_|refine dK rfl rfl hbk (by omega) (fun w4 hc4 hb4 => ⟨fun _ _ => trivial, ?_⟩)|refine ai rfl ?_|refine aa ?_|refine ao ?_|refine ah rfl ?_|refine ae ?_|refine bn rfl ?_|refine bi rfl rfl (by omega) (by omega) ?_|refine aR rfl (fun hc => ?_) (fun hc => ?_)|refine aC ?_|refine aW ?_|refine aO ?_|refine aX ?_|refine aM ?_|refine aI ?_)
 ·rw [Nat.shiftRight_eq_div_pow]
  exact ⟨⟨(i + 1, _, _), fin _ _ w4 (by omega) (by dsimp only; omega) hc4 hb4, by simp only; omega, rfl, rfl, trivial⟩, (by (repeat (first|exact aF _ _ _|refine ay rfl ?_|refine av rfl ?_|refine aj rfl ?_|refine ak rfl ?_)))⟩
 ·rw [Nat.shiftRight_eq_div_pow]
  have hzb := zb (by omega)
  exact ⟨⟨(i + 1, _, _), fin _ _ w4 (by omega) (by dsimp only; omega) hc4 hb4, by simp only; omega, rfl, rfl, trivial⟩, (by (repeat (first|exact aF _ _ _|refine ay rfl ?_|refine av rfl ?_|refine aj rfl ?_|refine ak rfl ?_)))⟩
 ·have hi2 : i = la.length := by omega
  rw [cf (by omega), cf (by omega)] at hN
  have hlt : natOf S < 4294967296 ^ i := by rw [hi2, ← hSl]; exact b9 hSL
  have hbr0 : br = 0 := by
   rcases Nat.eq_zero_or_pos br with h | h
   ·exact h
   ·have : br = 1 := by omega
    rw [this, Nat.one_mul] at hN
    omega
  rw [hbr0, Nat.zero_mul] at hN
  have hL := Limbs.of_blk (c := la.length) hbk (by omega) hSL (by omega)
  have hcall := bL hL
  rw [hSl] at hcall
  refine ax hcall rfl ?_
  rintro v w5 ⟨rfl, hE5⟩
  refine ⟨fun _ _ => trivial, ?_⟩
  repeat' (first|refine ai rfl ?_|refine aa ?_|refine ae ?_|refine aT ?_)
  exact bF rfl (rt rfl) ⟨trimL S, by rw [bu]; omega, bE _, _, _, rfl, hL.trim.ext hE5, fun ad e => by cases e; exact l2, hE.trans hE5⟩
end Go.Proofs.Ytppipmkpmmdcjaa
namespace Go.Proofs.Ytppipmkpmmdcjaa
open Go.W Go.LM
theorem nh {m n : Nat} : 0 ≤ cmpZ m n ↔ n ≤ m := by
 unfold cmpZ
 split
 ·constructor <;> intro h <;> omega
 ·split
  ·constructor <;> intro h <;> omega
  ·constructor <;> intro h <;> omega
end Go.Proofs.Ytppipmkpmmdcjaa
namespace Go.Proofs.Ytppipmkpmmdcjaa
open Go.W Go.LM
theorem bI {k : Nat} {v : Value} {x : Int} {w : World} (h1 : IntK k w v x) : CallsR Try.prog 27 #[v] w fun r w' => r = .int .i64 x.sign ∧ Ex w w' := by
 obtain ⟨n1, a1, c1, l1, rfl, hL1, rfl, _⟩ := h1
 refine aJ (args := [_]) Try.func27 rfl rfl ?_
 repeat' (first|refine bM rfl (fun g1 w1 hn1 => ⟨fun _ _ => trivial, ?_⟩)|refine aV rfl hn1.blk rfl ?_|refine ai rfl ?_|refine aa ?_|refine ao ?_|refine ah rfl ?_|refine ae ?_|refine aL rfl ?_|refine aC ?_)
 refine ax (bL (hL1.ext hn1.ex)) rfl ?_
 rintro v w2 ⟨rfl, hE2⟩
 refine ⟨fun _ _ => trivial, ?_⟩
 have hb2 := hn1.blk.ext hE2
 have hz : (trimL l1).length = 0 ↔ natOf l1 = 0 := by
  rw [← cw]
  exact List.length_eq_zero_iff
 repeat' (first|refine aV rfl hb2 rfl ?_|refine ai rfl ?_|refine aa ?_|refine ao ?_|refine ah rfl ?_|refine ae ?_|refine bn rfl ?_|refine aL rfl ?_|refine aR rfl (fun hc => ?_) (fun hc => ?_)|refine gF rfl (fun hc => ?_) (fun hc => ?_)|refine aM ?_|refine aT ?_|refine bw ?_|refine du ?_|refine aI ?_)
 ·refine bF rfl (rt rfl) ⟨?_, hn1.ex.trans hE2⟩
  have : natOf l1 = 0 := hz.1 (by omega)
  rw [this]; cases n1 <;> rfl
 ·refine bF rfl (rt rfl) ⟨?_, hn1.ex.trans hE2⟩
  have : natOf l1 ≠ 0 := fun e => by have := hz.2 e; omega
  subst_vars
  show Value.int .i64 (-1) = _
  rw [show (sgn true (natOf l1)).sign = -1 by unfold sgn; rw [if_pos rfl]; exact Int.sign_eq_neg_one_of_neg (by omega)]
 ·refine bF rfl (rt rfl) ⟨?_, hn1.ex.trans hE2⟩
  have : natOf l1 ≠ 0 := fun e => by have := hz.2 e; omega
  subst_vars
  show Value.int .i64 1 = _
  rw [show (sgn false (natOf l1)).sign = 1 by unfold sgn; rw [if_neg (by decide)]; exact Int.sign_eq_one_of_pos (by omega)]
theorem fJ {n1 n2 : Bool} {la lb : List Nat} {a b : Option Addr} {c d : Nat} {w : World} (ha : Limbs w a c la) (hb : Limbs w b d lb) (ca : Canon la) (cb : Canon lb) (hla : la.length < 17592186044416) (hlb : lb.length < 17592186044416) :
  CallsR Try.prog 73 #[.bool n1, .slice a la.length c, .bool n2, .slice b lb.length d] w (RetZ w (sgn n1 (natOf la) + sgn n2 (natOf lb))) := by
 refine aJ (args := [_, _, _, _]) Try.func73 rfl rfl ?_
 refine ao ?_
 refine ah rfl ?_
 refine aD (fun g w1 hn1 => ⟨fun _ _ => trivial, ?_⟩)
 have hb1 : Blk w1 g 27 (intL false none 0 0) := hn1.blk
 have l1 := hn1.lo
 have l1' := hn1.hi
 have ha1 := ha.ext hn1.ex
 have hbb1 := hb.ext hn1.ex
 have s1 := hn1.ex.size
 have fin : ∀ {nn : Bool} {m : Nat} {wa wb wc : World} {v : Value}, Ex w1 wa → IntC w1.heap.size wb v (sgn nn m) → Ex wa wb → Chg g wb wc → sgn nn m = sgn n1 (natOf la) + sgn n2 (natOf lb) → RetZ w (sgn n1 (natOf la) + sgn n2 (natOf lb)) v wc := by
  intro nn m wa wb wc v hEa hI hEb hc he
  refine ⟨?_, ((hn1.ex.trans hEa).trans hEb).chg hc l1⟩
  rw [← he]
  exact (hI.chg hc (by omega)).mono s1
 repeat' (first|refine ai rfl ?_|refine aa ?_|refine ao ?_|refine ah rfl ?_|refine ae ?_|refine md rfl rfl ?_|refine aR rfl (fun hc => ?_) (fun hc => ?_)|refine aC ?_)
 ·refine ax (iK ha1 hbb1 hla hlb) rfl ?_
  rintro v w2 ⟨ls, hv, hcn, a2, c2, rfl, hL2, hf2, hE2⟩
  refine ⟨fun _ _ => trivial, ?_⟩
  refine ax (cc hL2 hcn hf2 _) rfl ?_
  rintro v w3 ⟨hI, hE3⟩
  obtain ⟨vs, rfl, hvl, hvo⟩ := hI.out
  refine ⟨fun _ _ => trivial, ?_⟩
  refine aw (n := 2) rfl rfl hvl hvo (hb1.ext (hE2.trans hE3)) rfl (fun w4 hc4 hb4 => ⟨fun _ _ => trivial, ?_⟩)
  repeat' (first|refine aa ?_|refine ae ?_|refine aT ?_|refine bw ?_|refine du ?_)
  refine bF rfl (rc rfl hvl hb4) (fin hE2 hI hE3 hc4 ?_)
  rw [hv]; subst_vars; unfold sgn; split <;> omega
 ·refine ax (cZ ha1 hbb1 ca cb) rfl ?_
  rintro v w2 ⟨rfl, hE2⟩
  refine ⟨fun _ _ => trivial, ?_⟩
  have hge := nh (m := natOf la) (n := natOf lb)
  repeat' (first|refine ai rfl ?_|refine aa ?_|refine ao ?_|refine ah rfl ?_|refine ae ?_|refine aR rfl (fun hc => ?_) (fun hc => ?_)|refine aM ?_|refine aI ?_)
  ·refine ax (fI (ha1.ext hE2) (hbb1.ext hE2) (by omega) cb) rfl ?_
   rintro v w3 ⟨ls, hv, hcn, a3, c3, rfl, hL3, hf3, hE3⟩
   refine ⟨fun _ _ => trivial, ?_⟩
   refine ax (cc hL3 hcn hf3 _) rfl ?_
   rintro v w4 ⟨hI, hE4⟩
   obtain ⟨vs, rfl, hvl, hvo⟩ := hI.out
   refine ⟨fun _ _ => trivial, ?_⟩
   refine aw (n := 2) rfl rfl hvl hvo (hb1.ext ((hE2.trans hE3).trans hE4)) rfl (fun w5 hc5 hb5 => ⟨fun _ _ => trivial, ?_⟩)
   repeat' (first|refine aa ?_|refine ae ?_|refine aT ?_|refine bw ?_|refine du ?_)
   refine bF rfl (rc rfl hvl hb5) (fin (hE2.trans hE3) (hI.mono hE2.size) hE4 hc5 ?_)
   rw [hv]; unfold sgn; cases n1 <;> cases n2 <;> simp at * <;> omega
  ·refine ax (fI (hbb1.ext hE2) (ha1.ext hE2) (by omega) ca) rfl ?_
   rintro v w3 ⟨ls, hv, hcn, a3, c3, rfl, hL3, hf3, hE3⟩
   refine ⟨fun _ _ => trivial, ?_⟩
   refine ax (cc hL3 hcn hf3 _) rfl ?_
   rintro v w4 ⟨hI, hE4⟩
   obtain ⟨vs, rfl, hvl, hvo⟩ := hI.out
   refine ⟨fun _ _ => trivial, ?_⟩
   refine aw (n := 2) rfl rfl hvl hvo (hb1.ext ((hE2.trans hE3).trans hE4)) rfl (fun w5 hc5 hb5 => ⟨fun _ _ => trivial, ?_⟩)
   repeat' (first|refine aa ?_|refine ae ?_|refine aT ?_)
   refine bF rfl (rc rfl hvl hb5) (fin (hE2.trans hE3) (hI.mono hE2.size) hE4 hc5 ?_)
   rw [hv]; unfold sgn; cases n1 <;> cases n2 <;> simp at * <;> omega
end Go.Proofs.Ytppipmkpmmdcjaa
namespace Go.Proofs.Ytppipmkpmmdcjaa
open Go.W Go.LM
theorem dF {p q : Nat} {v1 v2 : Value} {x y : Int} {w : World} (h1 : IntK p w v1 x) (h2 : IntK q w v2 y) (hp : p < 17592186044416) (hq : q < 17592186044416) :
  CallsR Try.prog 59 #[v1, v2] w (RetZ w (x + y)) := by
 obtain ⟨n1, a1, c1, l1, rfl, hL1, rfl, hp1⟩ := h1
 obtain ⟨n2, a2, c2, l2, rfl, hL2, rfl, hq1⟩ := h2
 have tl1 := cA l1
 have tl2 := cA l2
 refine aJ (args := [_, _]) Try.func59 rfl rfl ?_
 refine ao ?_
 refine ah rfl ?_
 refine bM rfl (fun g2 w2 hn2 => ⟨fun _ _ => trivial, ?_⟩)
 refine bM rfl (fun g3 w3 hn3 => ⟨fun _ _ => trivial, ?_⟩)
 refine aD (fun g4 w4 hn4 => ⟨fun _ _ => trivial, ?_⟩)
 have hb2 := (hn2.blk.ext hn3.ex).ext hn4.ex
 have hb3 := hn3.blk.ext hn4.ex
 have hb4 : Blk w4 g4 27 (intL false none 0 0) := hn4.blk
 have hE := (hn2.ex.trans hn3.ex).trans hn4.ex
 have l4 := hn4.lo
 have l4' := hn4.hi
 have s3 := (hn2.ex.trans hn3.ex).size
 have s4 := hE.size
 repeat' (first|refine aa ?_|refine ao ?_|refine ae ?_)
 have hE4d : Ex w4 w4.drew := (Ex.refl w4).drew
 refine aZ (late := [11]) (plan := [(0, none), (1, none), (2, none), (3, none), (5, none), (6, none), (7, none), (8, none), (4, some true), (9, some true), (10, some true), (11, some false)]) (fun w' => Ex w4 w') bt (by kernel_rfl) hE4d ?_
 repeat' (first|refine aV rfl (fun _ h => hb2.ext h) rfl ?_|refine aV rfl (fun _ h => hb3.ext h) rfl ?_|refine aL rfl ?_)
 refine ax (bL (hL1.ext (hE.trans hE4d))) rfl ?_
 rintro v w6 ⟨rfl, hE6⟩
 refine ⟨fun _ h => h.trans hE6, ?_⟩
 skip
 refine ax (bL (hL2.ext ((hE.trans hE4d).trans hE6))) rfl ?_
 rintro v w7 ⟨rfl, hE7⟩
 refine ⟨fun _ h => h.trans hE7, ?_⟩
 have hE47 : Ex w4 w7 := (hE4d.trans hE6).trans hE7
 skip
 refine ax (fJ ((hL1.ext (hE.trans hE47)).trim) ((hL2.ext (hE.trans hE47)).trim) (bE _) (bE _) (by omega) (by omega)) rfl ?_
 rintro v w8 ⟨hI8, hE8⟩
 obtain ⟨vs8, rfl, hvl8, hvo8⟩ := hI8.out
 refine ⟨fun _ h => h.trans hE8, ?_⟩
 refine aw (n := 2) rfl rfl hvl8 hvo8 (hb4.ext (hE47.trans hE8)) rfl (fun w9 hc9 hb9 => ⟨fun h => (nomatch h), ?_⟩)
 repeat' (first|refine aa ?_|refine ae ?_|refine aT ?_)
 have s7 := hE47.size
 refine bF rfl (rc rfl hvl8 hb9) ⟨?_, (hE.trans (hE47.trans hE8)).chg hc9 (by omega)⟩
 have hr := (hI8.chg hc9 (by omega)).mono (lo' := w.heap.size) (by omega)
 rw [bu, bu] at hr
 exact hr
theorem dX {p q : Nat} {v1 v2 : Value} {x y : Int} {w : World} (h1 : IntK p w v1 x) (h2 : IntK q w v2 y) (hp : p < 17592186044416) (hq : q < 17592186044416) :
  CallsR Try.prog 60 #[v1, v2] w (RetZ w (x - y)) := by
 obtain ⟨n1, a1, c1, l1, rfl, hL1, rfl, hp1⟩ := h1
 obtain ⟨n2, a2, c2, l2, rfl, hL2, rfl, hq1⟩ := h2
 have tl1 := cA l1
 have tl2 := cA l2
 refine aJ (args := [_, _]) Try.func60 rfl rfl ?_
 refine ao ?_
 refine ah rfl ?_
 refine bM rfl (fun g2 w2 hn2 => ⟨fun _ _ => trivial, ?_⟩)
 refine bM rfl (fun g3 w3 hn3 => ⟨fun _ _ => trivial, ?_⟩)
 refine aD (fun g4 w4 hn4 => ⟨fun _ _ => trivial, ?_⟩)
 have hb2 := (hn2.blk.ext hn3.ex).ext hn4.ex
 have hb3 := hn3.blk.ext hn4.ex
 have hb4 : Blk w4 g4 27 (intL false none 0 0) := hn4.blk
 have hE := (hn2.ex.trans hn3.ex).trans hn4.ex
 have l4 := hn4.lo
 have l4' := hn4.hi
 have s3 := (hn2.ex.trans hn3.ex).size
 have s4 := hE.size
 repeat' (first|refine aa ?_|refine ao ?_|refine ae ?_)
 have hE4d : Ex w4 w4.drew := (Ex.refl w4).drew
 refine aZ (late := [12]) (plan := [(0, none), (1, none), (2, none), (3, none), (5, none), (6, none), (7, none), (8, none), (9, none), (4, some true), (10, some true), (11, some true), (12, some false)]) (fun w' => Ex w4 w') bt (by kernel_rfl) hE4d ?_
 repeat' (first|refine qA rfl ?_|refine aV rfl (fun _ h => hb2.ext h) rfl ?_|refine aV rfl (fun _ h => hb3.ext h) rfl ?_|refine aL rfl ?_)
 refine ax (bL (hL1.ext (hE.trans hE4d))) rfl ?_
 rintro v w6 ⟨rfl, hE6⟩
 refine ⟨fun _ h => h.trans hE6, ?_⟩
 skip
 refine ax (bL (hL2.ext ((hE.trans hE4d).trans hE6))) rfl ?_
 rintro v w7 ⟨rfl, hE7⟩
 refine ⟨fun _ h => h.trans hE7, ?_⟩
 have hE47 : Ex w4 w7 := (hE4d.trans hE6).trans hE7
 skip
 refine ax (fJ ((hL1.ext (hE.trans hE47)).trim) ((hL2.ext (hE.trans hE47)).trim) (bE _) (bE _) (by omega) (by omega)) rfl ?_
 rintro v w8 ⟨hI8, hE8⟩
 obtain ⟨vs8, rfl, hvl8, hvo8⟩ := hI8.out
 refine ⟨fun _ h => h.trans hE8, ?_⟩
 refine aw (n := 2) rfl rfl hvl8 hvo8 (hb4.ext (hE47.trans hE8)) rfl (fun w9 hc9 hb9 => ⟨fun h => (nomatch h), ?_⟩)
 repeat' (first|refine aa ?_|refine ae ?_|refine aT ?_)
 have s7 := hE47.size
 refine bF rfl (rc rfl hvl8 hb9) ⟨?_, (hE.trans (hE47.trans hE8)).chg hc9 (by omega)⟩
 have hr := (hI8.chg hc9 (by omega)).mono (lo' := w.heap.size) (by omega)
 rw [bu, bu] at hr
 have e : sgn (!n2) (natOf l2) = -sgn n2 (natOf l2) := by unfold sgn; cases n2 <;> simp
 rw [e, ← Int.sub_eq_add_neg] at hr
 exact hr
end Go.Proofs.Ytppipmkpmmdcjaa
namespace Go.W
section
variable {P : Program} {S : World → Prop} {ops : List Oper} {K : Env → World → Prop} {rest : List (Oper × Option Bool)} {ρ : Env} {w : World} {b : Option Bool} {kf : Bool} {d : Nat} {dst : Option Nat} {T T' : TypeId} {pos : String} {af : Array Edge}
theorem ed {op : BinOp} {t : TypeId} {x y : Operand} {a a' : Option Addr} {l c l' c' : Nat} (w : World) : (eqGuard op t x y (.slice a l c) (.slice a' l' c')).run P w = .ok () w := by
 unfold eqGuard; cases op <;> rfl
theorem iu {T0 E : TypeId} (h : P.underlying T0 = some (.slice E)) (n : Nat) (a : Option Addr) (l c : Nat) (w : World) : (Op.equalIn (n + 1) T0 (.slice a l c) (.slice none 0 0)).run P w = .ok a.isNone w := by
 cases a <;> simp [Op.equalIn, run_underlying h]
theorem fK {T0 E : TypeId} (h : P.underlying T0 = some (.slice E)) (a : Option Addr) (l c : Nat) (w : World) : (Op.equal T0 (.slice a l c) (.slice none 0 0)).run P w = .ok a.isNone w := by
 unfold Op.equal
 exact iu h 9999 a l c w
theorem jt {x y : Operand} {a : Option Addr} {l c E s z : Nat} {T'' : TypeId} [h1 : Slc P T' E s z] (hx : ev ρ x = .slice a l c) (hy : ev ρ y = .slice none 0 0) (h : RR P S ops K rest (upd ρ d (.bool a.isNone)) w) : RR P S ops K ((⟨some d, .binOp .eql T' x y T'', T, pos, af, none⟩, b) :: rest) ρ w :=
 bN rfl (fun w' => by
  simp only [execOp, hx, hy]
  rw [Sem.run_bind_ok (v := .bool a.isNone) (w' := w')]
  ·rfl
  ·rw [Sem.run_bind_ok (ed w')]
   show (do pure (Value.bool (← Op.equal T' (.slice a l c) (.slice none 0 0))) : Sem Value).run P w' = _
   rw [Sem.run_bind_ok (fK h1.un a l c w')]; rfl) h
theorem ni {T1 E y : Nat} {z : Value} [hT : Slc P T1 E 1 y] [hz : Zro P E z] (h : ∀ g w', New w w' g E [] → (kf = true → S w → S w') ∧ RR P S ops K rest (upd ρ d (.slice (some ⟨g, 0, none⟩) 0 0)) w') :
  RR P S ops K ((⟨some d, .buildSlice T1 0 #[], T, pos, af, none⟩, some kf) :: rest) ρ w :=
 eP (E := E) (s := 1) (z := z) (cs := #[]) rfl (by simp [Instr.fill]) h
end
end Go.W
namespace Go.Proofs.Ytppipmkpmmdcjaa
open Go.W Go.LM
theorem fL {ls : List Nat} {a : Option Addr} {c : Nat} {w : World} (h : Limbs w a c ls) : CallsR Try.prog 53 #[.slice a ls.length c] w (RetN w ls) := by
 have hlen := h.len
 refine aJ (args := [_]) Try.func53 rfl rfl ?_
 cases a with
 | none =>
  have hl : ls = [] := by
   rcases Nat.eq_zero_or_pos ls.length with h0 | h0
   ·exact List.eq_nil_of_length_eq_zero h0
   ·obtain ⟨g, o, e⟩ := h.sl.plain (by simpa using h0); cases e
  subst hl
  repeat' (first|refine jt rfl rfl ?_|refine ai rfl ?_|refine aa ?_|refine ao ?_|refine ah rfl ?_|refine ae ?_|refine aE rfl ?_|refine aT ?_|refine bw ?_)
  exact bF rfl (rt rfl) ⟨none, 0, rfl, Limbs.nil _ _ _, fun ad e => (nomatch e), Ex.refl _⟩
 | some ad =>
  repeat' (first|refine jt rfl rfl ?_|refine ni (fun g w1 hn1 => ⟨fun _ _ => trivial, ?_⟩)|refine ai rfl ?_|refine aa ?_|refine ao ?_|refine ah rfl ?_|refine ae ?_|refine aA rfl ?_|refine aI ?_)
  have hs1 := h.sl.ext hn1.ex
  rcases Nat.eq_zero_or_pos ls.length with h0 | h0
  ·have hl : ls = [] := List.eq_nil_of_length_eq_zero h0
   subst hl
   refine jY rfl rfl (Nat.le_refl _) ?_
   repeat' (first|refine ai rfl ?_|refine aa ?_|refine ae ?_|refine aT ?_)
   exact bF rfl (rt rfl) ⟨some ⟨g, 0, none⟩, 0, rfl, Limbs.nil _ _ _, fun ad e => by cases e; exact hn1.lo, hn1.ex⟩
  ·refine fC (z := .int .u32 0) (s := 1) (vs := []) (lo := w.heap.size) (news := limbsL ls) rfl rfl rfl rfl (hn1.blk.own rfl (Nat.zero_le _) hn1.lo) hs1 (h.sl.plain (by simp; omega)) (by simp) (kr (fun _ => rfl) _) (by omega) (by omega) hn1.ex.size ?_
   intro a' c' w2 ho hg hA
   refine ⟨fun _ _ => trivial, ?_⟩
   rw [Nat.zero_add] at ho ⊢
   have hE : Ex w w2 := gI hg hn1.ex (by rintro _ ⟨⟩; exact hn1.lo)
   repeat' (first|refine ai rfl ?_|refine aa ?_|refine ae ?_|refine aT ?_)
   exact bF rfl (rt rfl) ⟨a', c', rfl, ⟨ho.sl, ho.cap, h.lim, h.len⟩, fun ad e => (ho.lo ad e).1, hE⟩
end Go.Proofs.Ytppipmkpmmdcjaa
namespace Go.Proofs.Ytppipmkpmmdcjaa
open Go.W Go.LM
theorem cN {k : Nat} {v : Value} {x : Int} {w : World} (h1 : IntK k w v x) : CallsR Try.prog 56 #[v] w (RetZ w (-x)) := by
 obtain ⟨n1, a1, c1, l1, rfl, hL1, rfl, _⟩ := h1
 refine aJ (args := [_]) Try.func56 rfl rfl ?_
 refine ao ?_
 refine ah rfl ?_
 refine bM rfl (fun g1 w1 hn1 => ⟨fun _ _ => trivial, ?_⟩)
 refine aD (fun g2 w2 hn2 => ⟨fun _ _ => trivial, ?_⟩)
 have hb1 := hn1.blk.ext hn2.ex
 have hb2 : Blk w2 g2 27 (intL false none 0 0) := hn2.blk
 have hE := hn1.ex.trans hn2.ex
 have l2 := hn2.lo
 have l2' := hn2.hi
 have s1 := hn1.ex.size
 repeat' (first|refine aa ?_|refine ao ?_|refine ae ?_)
 have hEd : Ex w2 w2.drew := (Ex.refl w2).drew
 refine aZ (late := [8]) (plan := [(0, none), (1, none), (2, none), (3, none), (4, none), (5, some true), (6, some true), (7, some true), (8, some false)]) (fun w' => Ex w2 w') bt (by kernel_rfl) hEd ?_
 repeat' (first|refine aV rfl (fun _ h => hb1.ext h) rfl ?_|refine qA rfl ?_|refine aL rfl ?_)
 refine ax (bL (hL1.ext (hE.trans hEd))) rfl ?_
 rintro v w3 ⟨rfl, hE3⟩
 refine ⟨fun _ h => h.trans hE3, ?_⟩
 skip
 refine ax (fL ((hL1.ext ((hE.trans hEd).trans hE3)).trim)) rfl ?_
 rintro v w4 ⟨a4, c4, rfl, hL4, hf4, hE4⟩
 refine ⟨fun _ h => h.trans hE4, ?_⟩
 skip
 refine ax (cc hL4 (bE _) hf4 _) rfl ?_
 rintro v w5 ⟨hI, hE5⟩
 obtain ⟨vs, rfl, hvl, hvo⟩ := hI.out
 refine ⟨fun _ h => h.trans hE5, ?_⟩
 have hE25 := ((hEd.trans hE3).trans hE4).trans hE5
 refine aw (n := 2) rfl rfl hvl hvo (hb2.ext hE25) rfl (fun w6 hc6 hb6 => ⟨fun h => (nomatch h), ?_⟩)
 repeat' (first|refine aa ?_|refine ae ?_|refine aT ?_)
 have s3 := (hEd.trans hE3).size
 refine bF rfl (rc rfl hvl hb6) ⟨?_, (hE.trans hE25).chg hc6 (by omega)⟩
 have hr := (hI.chg hc6 (by omega)).mono (lo' := w.heap.size) (by omega)
 rw [bu] at hr
 have e : sgn (!n1) (natOf l1) = -sgn n1 (natOf l1) := by unfold sgn; cases n1 <;> simp
 rwa [e] at hr
theorem df {k : Nat} {v : Value} {x : Int} {w : World} (h1 : IntK k w v x) : CallsR Try.prog 36 #[v] w (RetZ w x) := by
 obtain ⟨n1, a1, c1, l1, rfl, hL1, rfl, _⟩ := h1
 refine aJ (args := [_]) Try.func36 rfl rfl ?_
 refine ao ?_
 refine ah rfl ?_
 refine bM rfl (fun g1 w1 hn1 => ⟨fun _ _ => trivial, ?_⟩)
 refine aD (fun g2 w2 hn2 => ⟨fun _ _ => trivial, ?_⟩)
 have hb1 := hn1.blk.ext hn2.ex
 have hb2 : Blk w2 g2 27 (intL false none 0 0) := hn2.blk
 have hE := hn1.ex.trans hn2.ex
 have l2 := hn2.lo
 have l2' := hn2.hi
 have s1 := hn1.ex.size
 repeat' (first|refine aa ?_|refine ao ?_|refine ae ?_)
 have hEd : Ex w2 w2.drew := (Ex.refl w2).drew
 refine aZ (late := [7]) (plan := [(0, none), (1, none), (2, none), (3, none), (4, some true), (5, some true), (6, some true), (7, some false)]) (fun w' => Ex w2 w') bt (by kernel_rfl) hEd ?_
 repeat' (first|refine aV rfl (fun _ h => hb1.ext h) rfl ?_|refine aL rfl ?_)
 refine ax (bL (hL1.ext (hE.trans hEd))) rfl ?_
 rintro v w3 ⟨rfl, hE3⟩
 refine ⟨fun _ h => h.trans hE3, ?_⟩
 skip
 refine ax (fL ((hL1.ext ((hE.trans hEd).trans hE3)).trim)) rfl ?_
 rintro v w4 ⟨a4, c4, rfl, hL4, hf4, hE4⟩
 refine ⟨fun _ h => h.trans hE4, ?_⟩
 skip
 refine ax (cc hL4 (bE _) hf4 _) rfl ?_
 rintro v w5 ⟨hI, hE5⟩
 obtain ⟨vs, rfl, hvl, hvo⟩ := hI.out
 refine ⟨fun _ h => h.trans hE5, ?_⟩
 have hE25 := ((hEd.trans hE3).trans hE4).trans hE5
 refine aw (n := 2) rfl rfl hvl hvo (hb2.ext hE25) rfl (fun w6 hc6 hb6 => ⟨fun h => (nomatch h), ?_⟩)
 repeat' (first|refine aa ?_|refine ae ?_|refine aT ?_)
 have s3 := (hEd.trans hE3).size
 refine bF rfl (rc rfl hvl hb6) ⟨?_, (hE.trans hE25).chg hc6 (by omega)⟩
 have hr := (hI.chg hc6 (by omega)).mono (lo' := w.heap.size) (by omega)
 rw [bu] at hr
 exact hr
end Go.Proofs.Ytppipmkpmmdcjaa
