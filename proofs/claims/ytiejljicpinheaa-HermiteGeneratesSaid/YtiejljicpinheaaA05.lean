import Derived.Test.YtiejljicpinheaaA04
namespace Go.Proofs.Ytiejljicpinheaa
open Go.W Go.LM
theorem Limbs.of_blk {w : World} {g c : Nat} {Tb : Nat} {ls : List Nat} (h : Blk w g Tb (limbsL ls)) (hc : ls.length ≤ c) (hl : Lim ls) (hn : ls.length ≤ 17592186044416) : Limbs w (some ⟨g, 0, none⟩) c ls := ⟨h.sl, hc, hl, hn⟩
set_option maxHeartbeats 1000000 in
theorem jc {la lb : List Nat} {a b : Option Addr} {c d : Nat} {w : World} (ha : Limbs w a c la) (hb : Limbs w b d lb) (hlen : la.length + lb.length ≤ 17592186044416) :
  CallsR Try.prog 77 #[.slice a la.length c, .slice b lb.length d] w fun v w' => ∃ ls, natOf ls = natOf la * natOf lb ∧ Canon ls ∧ ls.length ≤ la.length + lb.length + 2 ∧ RetN w ls v w' := by
 by_cases hsm : la.length ≤ 1 ∧ lb.length ≤ 1
 ·refine (im ha hb hsm.1 hsm.2).mono fun v w' h => ⟨_, ?_, cV _, ?_, h⟩
  ·rw [dl]
  ·have := qj (natOf la * natOf lb); omega
 have hla := ha.len
 have hlb := hb.len
 refine aG (args := [_, _]) Try.func77 rfl rfl ?_
 repeat' (first|refine fm rfl rfl (by omega) ?_|refine eo rfl rfl (by omega) (by omega) (fun g w1 hn => ⟨fun _ _ => trivial, ?_⟩)|refine ai rfl ?_|refine aa ?_|refine aj ?_|refine ah rfl ?_|refine ae ?_|refine aY rfl ?_|refine bG rfl rfl ?_|refine bP rfl rfl ?_|refine em rfl rfl (fun hc => ?_) (fun hc => ?_)|refine ay rfl ?_|refine aM rfl (fun hc => ?_) (fun hc => ?_)|refine aB ?_|refine aF ?_)
 all_goals try (exfalso; omega)
 all_goals
  refine aW (ι := Nat × List Nat) [6, 7, 8, 9, 10, 11, 34, 35, 36, 37, 38, 39, 40, 41, 42, 43, 44, 45, 46, 47, 48, 49, 50, 51, 52, 53, 54, 55, 56, 57, 58, 59, 60, 61, 62, 63, 64, 65, 66, 67, 68, 69, 70, 71, 72, 73, 74, 75, 76, 77, 78, 79, 80, 81, 82, 83] (fun s => [(34, .int .i64 (s.1 : Int))])
   (fun s w' => s.1 ≤ la.length ∧ Ex w w' ∧ Blk w' g 94 (limbsL s.2) ∧ s.2.length = la.length + lb.length ∧ Lim s.2 ∧ natOf s.2 = natOf (la.take s.1) * natOf lb ∧ ∀ j, s.1 + lb.length ≤ j → s.2.getD j 0 = 0) (fun s => la.length - s.1)
   (0, List.replicate (la.length + lb.length) 0) ⟨rfl, trivial⟩ ⟨by simp, hn.ex, hn.blk, by simp, Lim.zeros _, by simp [cL, natOf], fun j _ => by simp [List.getD_eq_getElem?_getD, List.getElem?_replicate]; split <;> rfl⟩ ?_
  rintro ⟨i, ps⟩ ξ w2 ⟨hi, hE, hbk, hpl, hpL, hpn, hpz⟩
  simp only at hi hbk hpl hpL hpn hpz
  show CW _ _ _ _ (over [(34, .int .i64 (i : Int))] _) w2
  have hxl := ha.lim.getD i
  repeat' (first|(refine aD rfl rfl (ha.sl.plain (by simp; omega)) (by omega) ?_)|refine bE rfl (ha.sl.ext hE) (by omega) ?_|refine ai rfl ?_|refine aa ?_|refine aj ?_|refine ah rfl ?_|refine ae ?_|refine aY rfl ?_|refine bi rfl rfl (by omega) (by omega) ?_|refine aM rfl (fun hc => ?_) (fun hc => ?_)|refine aB ?_|refine aS ?_|refine aL ?_|refine aT ?_|refine aF ?_)
  ·have h0 : la.getD i 0 = 0 := by omega
   refine ⟨⟨(i + 1, ps), ⟨by simp only; omega, hE, hbk, hpl, hpL, ?_, fun j hj => hpz j (by simp only at hj; omega)⟩, by simp only; omega, rfl, trivial⟩, (by (repeat (first|exact aH _ _ _|refine ax rfl ?_|refine av rfl ?_|refine ak rfl ?_|refine ao rfl ?_)))⟩
   simp only
   rw [hpn, bM (by omega), h0, Nat.zero_mul, Nat.add_zero]
  ·refine iP (l := i) (h := i + lb.length + 1) rfl rfl (by show Value.int .i64 ((i : Int) + (lb.length : Int) + 1) = _; rfl) (by omega) (by omega) (by omega) ?_
   rw [Nat.zero_add, Nat.mul_one, show i + lb.length + 1 - i = lb.length + 1 by omega]
   repeat' (first|refine ai rfl ?_|refine aa ?_|refine aj ?_|refine ah rfl ?_|refine ae ?_|refine aY rfl ?_|refine aB ?_)
   refine aW (ι := Nat × List Nat × Nat) [9, 10, 11, 51, 52, 53, 54, 55, 56, 57, 58, 59, 60, 61, 62, 63, 64, 65, 66, 67, 68, 69, 70, 71, 72, 73, 74, 75, 76] (fun s => [(51, .int .i64 (s.1 : Int)), (9, .int .u64 (s.2.2 : Int))])
    (fun s w' => s.1 ≤ lb.length ∧ Ex w w' ∧ Blk w' g 94 (limbsL s.2.1) ∧ s.2.1.length = la.length + lb.length ∧ Lim s.2.1 ∧ s.2.2 < 4294967296 ∧ natOf s.2.1 + s.2.2 * 4294967296 ^ (i + s.1) = natOf ps + la.getD i 0 * natOf (lb.take s.1) * 4294967296 ^ i ∧ ∀ j, i + s.1 ≤ j → s.2.1.getD j 0 = ps.getD j 0) (fun s => lb.length - s.1)
    (0, ps, 0) ⟨rfl, rfl, trivial⟩ ⟨by simp, hE, hbk, hpl, hpL, by simp, by simp [natOf], fun j _ => rfl⟩ ?_
   rintro ⟨j, qs, cy⟩ ξ2 w3 ⟨hj, hE3, hb3, hql, hqL, hcy, hqn, hqz⟩
   simp only at hj hb3 hql hqL hcy hqn hqz
   show CW _ _ _ _ (over [(51, .int .i64 (j : Int)), (9, .int .u64 (cy : Int))] _) w3
   have hyl := hb.lim.getD j
   have hrl := hqL.getD (i + j)
   have hfit := iQ hxl hyl hcy hrl
   repeat' (first|(refine aD rfl rfl (hb.sl.plain (by simp; omega)) (by omega) ?_)|refine bE rfl (hb.sl.ext hE3) (by omega) ?_|refine aD rfl rfl ⟨_, _, rfl⟩ (by omega) ?_|refine mA rfl hb3 (by omega) ?_|refine gf rfl (by assumption) ?_|refine jO rfl rfl (by omega) ?_|refine fk rfl rfl (by omega) ?_|refine dm rfl ?_|refine dQ rfl rfl ?_|refine kD rfl rfl hb3 (by omega) (fun w4 hc4 hb4 => ⟨fun _ _ => trivial, ?_⟩)|refine ai rfl ?_|refine aa ?_|refine aj ?_|refine ah rfl ?_|refine ae ?_|refine aY rfl ?_|refine bi rfl rfl (by omega) (by omega) ?_|refine aM rfl (fun hc => ?_) (fun hc => ?_)|refine aB ?_|refine aS ?_|refine aL ?_|refine aT ?_|refine aJ ?_|refine aF ?_)
   ·refine ⟨⟨(j + 1, qs.set (i + j) ((cy + (la.getD i 0 * lb.getD j 0 + qs.getD (i + j) 0)) % 4294967296), (cy + (la.getD i 0 * lb.getD j 0 + qs.getD (i + j) 0)) / 4294967296), ⟨by simp only; omega, hE3.chg hc4 hn.lo, hb4, by simp [hql], hqL.set (Nat.mod_lt _ (by decide)), by simp only; omega, ?_, ?_⟩, by simp only; omega, rfl, rfl, trivial⟩, (by (repeat (first|exact aH _ _ _|refine ax rfl ?_|refine av rfl ?_|refine ak rfl ?_|refine ao rfl ?_)))⟩
    ·have := jP (x := la.getD i 0) (y := lb.getD j 0) (show i + j < qs.length by omega) hqn
     simp only
     rw [show i + (j + 1) = i + j + 1 by omega, this, bM (by omega), Nat.mul_add, Nat.add_mul, Nat.add_assoc, Nat.pow_add]
     congr 2
     rw [← Nat.mul_assoc, Nat.mul_assoc, Nat.mul_comm (4294967296 ^ i), ← Nat.mul_assoc, Nat.mul_assoc (la.getD i 0)]
    ·intro k hk
     simp only at hk ⊢
     rw [bZ (by omega), hqz k (by omega)]
   ·obtain rfl : j = lb.length := by omega
    have hz : qs.getD (i + lb.length) 0 = 0 := by rw [hqz _ (Nat.le_refl _)]; exact hpz _ (Nat.le_refl _)
    skip
    rw [Nat.mod_eq_of_lt hcy] at hb4
    refine ⟨⟨(i + 1, qs.set (i + lb.length) cy), ⟨by simp only; omega, hE3.chg hc4 hn.lo, hb4, by simp [hql], hqL.set hcy, ?_, ?_⟩, by simp only; omega, rfl, trivial⟩, (by (repeat (first|exact aH _ _ _|refine ax rfl ?_|refine av rfl ?_|refine ak rfl ?_|refine ao rfl ?_)))⟩
    ·have h1 := cA (l := qs) (k := i + lb.length) (v := cy) (by omega)
     rw [hz, Nat.zero_mul, Nat.add_zero] at h1
     simp only
     rw [h1, hqn, hpn, List.take_length, bM (by omega), Nat.add_mul]
     congr 1
     rw [Nat.mul_assoc, Nat.mul_assoc, Nat.mul_comm (natOf lb)]
    ·intro k hk
     simp only at hk ⊢
     rw [bZ (by omega), hqz k (by omega), hpz k (by omega)]
  ·obtain rfl : i = la.length := by omega
   rw [List.take_length] at hpn
   have hL := Limbs.of_blk (c := la.length + lb.length) hbk (by omega) hpL (by omega)
   have hcall := bT hL
   rw [hpl] at hcall
   skip
   refine aw hcall rfl ?_
   rintro v w3 ⟨rfl, hE3⟩
   refine ⟨fun _ _ => trivial, ?_⟩
   repeat' (first|refine ai rfl ?_|refine aa ?_|refine ae ?_|refine aK ?_)
   refine bB rfl (rt rfl) ⟨trimL ps, by rw [bc, hpn], bz _, by have := cv ps; omega, _, _, rfl, hL.trim.ext hE3, fun ad e => by cases e; exact hn.lo, hE.trans hE3⟩
end Go.Proofs.Ytiejljicpinheaa
namespace Go.Proofs.Ytiejljicpinheaa
open Go.W Go.LM
theorem cc {ls : List Nat} {a : Option Addr} {c : Nat} {w : World} (h : Limbs w a c ls) :
  CallsR Try.prog 97 #[.slice a ls.length c] w (RetN w (trimL ls)) := by
 have hlen := h.len
 have hcap := h.cap
 refine aG (args := [_]) Try.func97 rfl rfl ?_
 repeat' (first|refine ai rfl ?_|refine aa ?_|refine aj ?_|refine ah rfl ?_|refine ae ?_|refine aY rfl ?_|refine aB ?_)
 refine aW (ι := Nat) [3, 6, 7, 8, 9, 10, 11, 12, 13, 14, 15, 16, 17] (fun k => [(3, .int .i64 (k : Int))]) (fun k w' => k ≤ ls.length ∧ w' = w ∧ trimL (ls.take k) = trimL ls) (fun k => k) ls.length ⟨rfl, trivial⟩ ⟨Nat.le_refl _, rfl, by simp⟩ ?_
 rintro k ξ w2 ⟨hk, rfl, hT⟩
 repeat' (first|(refine aD (j := k - 1) rfl (by show Value.int .i64 ((k : Int) - 1) = _; congr 1; omega) (h.sl.plain (by simp; omega)) (by omega) ?_)|refine bE rfl h.sl (by omega) ?_|refine ai rfl ?_|refine aa ?_|refine aj ?_|refine ah rfl ?_|refine ae ?_|refine bG rfl rfl ?_|refine bP rfl rfl ?_|refine em rfl rfl (fun hc => ?_) (fun hc => ?_)|refine cM rfl rfl (by omega) (by omega) ?_|refine ay rfl ?_|refine aM rfl (fun hc => ?_) (fun hc => ?_)|refine aB ?_|refine aS ?_|refine aL ?_|refine aT ?_|refine aJ ?_|refine aF ?_)
 ·refine ⟨⟨k - 1, ⟨by omega, rfl, ?_⟩, by omega, ?_, trivial⟩, (by (repeat (first|exact aH _ _ _|refine ax rfl ?_|refine av rfl ?_|refine ak rfl ?_|refine ao rfl ?_)))⟩
  ·rw [← hT, dL hk (by omega), show ls.getD (k - 1) 0 = 0 by omega, dC]
  ·show Value.int .i64 ((k : Int) - 1) = _
   congr 1; omega
 all_goals
  have hkk : trimL ls = ls.take k := by
   rw [← hT]
   rcases Nat.eq_zero_or_pos k with rfl | h0
   ·rfl
   ·rw [dL hk (by omega), gX (by omega), ← dL hk (by omega)]
  refine gG rfl rfl (by omega) (by omega) ?_
  rw [Int.toNat_natCast]
  have hL := h.take k
  have hkl : (ls.take k).length = k := by simp [Nat.min_eq_left hk]
  refine sJ (E := 94) (y := 4) rfl rfl rfl hL.sl (by simp [Nat.min_eq_left hk]) (lf (fun _ => rfl) _) (by omega) (by omega) (fun a' c' w3 hO3 hE3 => ⟨fun _ _ => trivial, ?_⟩)
  repeat' (first|refine ai rfl ?_|refine aa ?_|refine ae ?_|refine aK ?_)
  refine bB rfl (rt rfl) ?_
  rw [hkk]
  refine ⟨a', c', by rw [hkl]; rfl, ⟨hO3.sl, ?_, hL.lim, hL.len⟩, fun ad e => (hO3.lo ad e).1, hE3⟩
  rw [hkl]
  rcases hO3.2 with ⟨hv, hn⟩ | ⟨g, cap2, cur, hv, hbg, hg, hnc, hcm, hcs, htake⟩
  ·simp only [Value.slice.injEq] at hv; omega
  ·simp only [Value.slice.injEq] at hv; omega
theorem bf {ls : List Nat} {a : Option Addr} {c : Nat} {w : World} (h : Limbs w a c ls) (neg : Bool) :
  CallsR Try.prog 70 #[.bool neg, .slice a ls.length c] w (RetZ w (sgn neg (natOf ls))) := by
 refine aG (args := [_, _]) Try.func70 rfl rfl ?_
 repeat' (first|refine aE (fun g w1 hn => ⟨fun _ _ => trivial, ?_⟩)|refine ai rfl ?_|refine aa ?_|refine aj ?_|refine ah rfl ?_|refine ae ?_)
 refine aw (cc (h.ext hn.ex)) rfl ?_
 rintro v w2 ⟨a2, c2, rfl, hL2, hf2, hE2⟩
 refine ⟨fun _ _ => trivial, ?_⟩
 have hb : Blk w2 g 49 (intL false none 0 0) := Blk.ext (cs := intL false none 0 0) hn.blk hE2
 have l1 := hn.lo
 have l2 := hn.hi
 have l3 := hE2.size
 cases neg
 ·repeat' (first|refine ai rfl ?_|refine aa ?_|refine aj ?_|refine ah rfl ?_|refine ae ?_|refine bP rfl rfl ?_)
  refine cC (cs := intL false a2 (trimL ls).length c2) rfl ?_
  refine au (n := 2) rfl rfl rfl rfl hb rfl (fun w3 hc3 hb3 => ⟨fun _ _ => trivial, ?_⟩)
  repeat' (first|refine aa ?_|refine ae ?_|refine aK ?_)
  refine bB rfl (rc rfl rfl hb3) ⟨⟨false, a2, c2, trimL ls, rfl, hL2.chg hc3 (fun ad e => by have := hf2 ad e; omega), by rw [bc], bz _, by simp, fun ad e => by have := hf2 ad e; omega⟩, (hn.ex.trans hE2).chg hc3 (by omega)⟩
 ·repeat' (first|refine ai rfl ?_|refine aa ?_|refine aj ?_|refine ah rfl ?_|refine ae ?_|refine aY rfl ?_|refine bG rfl rfl ?_)
  refine cC (cs := intL (decide ((0 : Int) < ((trimL ls).length : Int))) a2 (trimL ls).length c2) rfl ?_
  refine au (n := 2) rfl rfl rfl rfl hb rfl (fun w3 hc3 hb3 => ⟨fun _ _ => trivial, ?_⟩)
  repeat' (first|refine aa ?_|refine ae ?_|refine aK ?_)
  refine bB rfl (rc rfl rfl hb3) ⟨⟨_, a2, c2, trimL ls, rfl, hL2.chg hc3 (fun ad e => by have := hf2 ad e; omega), ?_, bz _, ?_, fun ad e => by have := hf2 ad e; omega⟩, (hn.ex.trans hE2).chg hc3 (by omega)⟩
  ·by_cases h0 : trimL ls = []
   ·have := cj.1 h0
    simp [h0, this, sgn, natOf]
   ·have : (0 : Int) < ((trimL ls).length : Int) := by
     have := List.length_pos_iff.2 h0; omega
    rw [decide_eq_true this, bc]
  ·intro hd h0
   rw [h0] at hd; simp at hd
theorem ep {n : Nat} (hn : n < 18446744073709551616) (neg : Bool) (w : World) : CallsR Try.prog 65 #[.bool neg, .int .u64 (n : Int)] w (RetZ w (sgn neg n)) := by
 refine aG (args := [_, _]) Try.func65 rfl rfl ?_
 repeat' (first|refine aE (fun g w1 hn1 => ⟨fun _ _ => trivial, ?_⟩)|refine dm rfl ?_|refine dQ rfl rfl ?_|refine ai rfl ?_|refine aa ?_|refine aj ?_|refine ah rfl ?_|refine ae ?_)
 refine pV rfl rfl rfl rfl (fun g2 w2 hn2 => ⟨fun _ _ => trivial, ?_⟩)
 have hL : Limbs w2 (some ⟨g2, 0, none⟩) 2 [n % 4294967296, n / 4294967296 % 4294967296] := ⟨hn2.blk.sl, by simp, by intro d hd; simp at hd; omega, by simp⟩
 refine aw (bf hL neg) rfl ?_
 rintro v w3 ⟨hI, hE3⟩
 obtain ⟨ng, a', c', ls, rfl, hI'⟩ := id hI
 refine ⟨fun _ _ => trivial, ?_⟩
 have hb : Blk w3 g 49 (intL false none 0 0) := Blk.ext (cs := intL false none 0 0) (Blk.ext (cs := intL false none 0 0) hn1.blk hn2.ex) hE3
 have l1 := hn1.lo
 have l2 := hn1.hi
 have l3 := hn2.ex.size
 refine au (n := 2) rfl rfl rfl rfl hb rfl (fun w4 hc4 hb4 => ⟨fun _ _ => trivial, ?_⟩)
 repeat' (first|refine aa ?_|refine ae ?_|refine aK ?_)
 refine bB rfl (rc rfl rfl hb4) ⟨?_, ((hn1.ex.trans hn2.ex).trans hE3).chg hc4 l1⟩
 have e : natOf [n % 4294967296, n / 4294967296 % 4294967296] = n := by simp [natOf]; omega
 rw [e] at hI
 exact (hI.chg hc4 (by omega)).mono (by omega)
theorem dY {z : Int} (h1 : -9223372036854775808 ≤ z) (h2 : z ≤ 9223372036854775807) (w : World) : CallsR Try.prog 35 #[.int .i64 z] w (RetZ w z) := by
 refine aG (args := [_]) Try.func35 rfl rfl ?_
 repeat' (first|refine aE (fun g w1 hn => ⟨fun _ _ => trivial, ?_⟩)|refine ai rfl ?_|refine aa ?_|refine aj ?_|refine ah rfl ?_|refine ae ?_|refine aM rfl (fun hc => ?_) (fun hc => ?_)|refine aF ?_)
 all_goals have hb : Blk w1 g 49 (intL false none 0 0) := hn.blk
 ·refine gT rfl ?_
  refine kY rfl ?_
  obtain ⟨n, rfl⟩ : ∃ n : Nat, z = -(n : Int) := ⟨(-z).toNat, by omega⟩
  rw [show IntKind.u64.wrap (-IntKind.u64.wrap (-(n : Int))) = ((n : Nat) : Int) by
   rw [cE rfl, cE rfl]; simp only [IntKind.bits]; omega]
  refine aw (ep (by omega) true _) rfl ?_
  rintro v w3 ⟨hI, hE3⟩
  obtain ⟨neg, a', c', ls, rfl, hI'⟩ := id hI
  refine ⟨fun _ _ => trivial, ?_⟩
  refine au (n := 2) rfl rfl rfl rfl (hb.ext hE3) rfl (fun w4 hc4 hb4 => ⟨fun _ _ => trivial, ?_⟩)
  repeat' (first|refine aa ?_|refine ae ?_|refine aK ?_|refine aX ?_)
  exact bB rfl (rc rfl rfl hb4) ⟨(hI.chg hc4 hn.hi).mono hn.ex.size, (hn.ex.trans hE3).chg hc4 hn.lo⟩
 ·obtain ⟨n, rfl⟩ : ∃ n : Nat, z = (n : Int) := ⟨z.toNat, by omega⟩
  refine du rfl (dh (by omega) (by omega)) ?_
  refine aw (ep (by omega) false _) rfl ?_
  rintro v w3 ⟨hI, hE3⟩
  obtain ⟨neg, a', c', ls, rfl, hI'⟩ := id hI
  refine ⟨fun _ _ => trivial, ?_⟩
  refine au (n := 2) rfl rfl rfl rfl (hb.ext hE3) rfl (fun w4 hc4 hb4 => ⟨fun _ _ => trivial, ?_⟩)
  repeat' (first|refine aa ?_|refine ae ?_|refine aK ?_)
  exact bB rfl (rc rfl rfl hb4) ⟨(hI.chg hc4 hn.hi).mono hn.ex.size, (hn.ex.trans hE3).chg hc4 hn.lo⟩
theorem gg {la lb : List Nat} {a b : Option Addr} {c d : Nat} {w : World} (ha : Limbs w a c la) (hb : Limbs w b d lb) (ca : Canon la) (cb : Canon lb) :
  CallsR Try.prog 92 #[.slice a la.length c, .slice b lb.length d] w fun v w' => v = .int .i64 (cmpZ (natOf la) (natOf lb)) ∧ Ex w w' := by
 have hla := ha.len
 refine aG (args := [_, _]) Try.func92 rfl rfl ?_
 repeat' (first|refine ai rfl ?_|refine aa ?_|refine aj ?_|refine ah rfl ?_|refine ae ?_|refine aY rfl ?_|refine cM rfl rfl (by omega) (by omega) ?_|refine aM rfl (fun hc => ?_) (fun hc => ?_)|refine aB ?_|refine aK ?_|refine aX ?_|refine aF ?_)
 ·refine bB rfl (rt rfl) ⟨?_, Ex.refl _⟩
  rw [cmpZ, if_pos (ez ha.lim cb (by omega))]; rfl
 ·refine bB rfl (rt rfl) ⟨?_, Ex.refl _⟩
  have := ez hb.lim ca (by omega)
  rw [cmpZ, if_neg (by omega), if_pos this]; rfl
 ·have hl : la.length = lb.length := by omega
  refine aW (ι := Nat) [4, 5, 19, 20, 21, 22, 23, 24, 25, 26, 27, 28, 29, 30, 31, 32, 33, 34, 35, 36, 37, 38, 39, 40] (fun k => [(5, .int .i64 ((k : Int) - 1))]) (fun k w' => k ≤ la.length ∧ Ex w w' ∧ natOf (la.drop k) = natOf (lb.drop k)) (fun k => k) la.length ⟨rfl, trivial⟩
   ⟨Nat.le_refl _, Ex.refl _, by rw [List.drop_length, hl, List.drop_length]⟩ ?_
  rintro k ξ w2 ⟨hk, hE, hT⟩
  repeat' (first|refine ai rfl ?_|refine aa ?_|refine aj ?_|refine ah rfl ?_|refine ae ?_|refine aM rfl (fun hc => ?_) (fun hc => ?_)|refine aB ?_|refine aS ?_|refine aL ?_|refine aT ?_|refine aK ?_|refine aF ?_)
  ·obtain ⟨j, rfl⟩ : ∃ j, k = j + 1 := ⟨k - 1, by omega⟩
   rw [show ((j + 1 : Nat) : Int) - 1 = (j : Int) by omega]
   refine bn (late := []) (plan := [(0, none), (1, none), (2, none), (3, none), (4, none), (5, none), (6, none), (7, none), (8, none)]) (fun w' => Ex w w') bC (by kernel_rfl) hE.drew ?_
   repeat' (first|(refine aD (j := j) rfl rfl (ha.sl.plain (by simp; omega)) (by omega) ?_)|(refine aD (j := j) rfl rfl (hb.sl.plain (by simp; omega)) (by omega) ?_)|refine bE rfl (fun _ h => ha.sl.ext h) (by omega) ?_|refine bE rfl (fun _ h => hb.sl.ext h) (by omega) ?_|refine ai rfl ?_|refine aa ?_|refine aj ?_|refine ah rfl ?_|refine ae ?_|refine cM rfl rfl (by omega) (by omega) ?_|refine aM rfl (fun hc => ?_) (fun hc => ?_)|refine aJ ?_|refine aF ?_)
   ·refine bn (late := []) (plan := [(0, none), (1, none), (2, none), (3, none), (4, none), (5, none), (6, none), (7, none), (8, none)]) (fun w' => Ex w w') bC (by kernel_rfl) hE.drew.drew ?_
    repeat' (first|(refine aD (j := j) rfl rfl (ha.sl.plain (by simp; omega)) (by omega) ?_)|(refine aD (j := j) rfl rfl (hb.sl.plain (by simp; omega)) (by omega) ?_)|refine bE rfl (fun _ h => ha.sl.ext h) (by omega) ?_|refine bE rfl (fun _ h => hb.sl.ext h) (by omega) ?_|refine ai rfl ?_|refine aa ?_|refine aj ?_|refine ah rfl ?_|refine ae ?_|refine aM rfl (fun hc => ?_) (fun hc => ?_)|refine aK ?_|refine aX ?_|refine b6 ?_|refine aF ?_)
    ·refine bB rfl (rt rfl) ⟨?_, hE.drew.drew⟩
     rw [cmpZ, if_pos (eY (i := j) ha.lim hl (by omega) hT (by omega))]; rfl
    ·refine bB rfl (rt rfl) ⟨?_, hE.drew.drew⟩
     have := eY (i := j) hb.lim hl.symm (by omega) hT.symm (by omega)
     rw [cmpZ, if_neg (by omega), if_pos this]; rfl
   ·refine ⟨⟨j, ⟨by omega, hE.drew, ?_⟩, by omega, ?_, trivial⟩, (by (repeat (first|exact aH _ _ _|refine ax rfl ?_|refine av rfl ?_|refine ak rfl ?_|refine ao rfl ?_)))⟩
    ·rw [cJ (ls := la) (k := j) (by omega), cJ (ls := lb) (k := j) (by omega), hT, show la.getD j 0 = lb.getD j 0 by omega]
    ·rfl
  ·obtain rfl : k = 0 := by omega
   simp only [List.drop_zero] at hT
   refine bB rfl (rt rfl) ⟨?_, hE⟩
   rw [cmpZ, if_neg (by omega), if_neg (by omega)]; rfl
theorem rE {n1 n2 : Bool} {l1 l2 : List Nat} (c1 : Canon l1) (c2 : Canon l2) (g1 : n1 = true → l1 ≠ []) (g2 : n2 = true → l2 ≠ []) :
  sgn n1 (natOf l1) = sgn n2 (natOf l2) ↔ n1 = n2 ∧ natOf l1 = natOf l2 := by
 have hz : ∀ {l : List Nat}, Canon l → natOf l = 0 → l = [] := fun {l} c h => by have := cj.2 h; rwa [c] at this
 unfold sgn
 cases n1 <;> cases n2 <;> simp
 ·omega
 ·intro h
  have h2 : natOf l2 = 0 := by omega
  exact g2 rfl (hz c2 h2)
 ·intro h
  have h1 : natOf l1 = 0 := by omega
  exact g1 rfl (hz c1 h1)
 ·omega
theorem lA {lo lo' : Nat} {v1 v2 : Value} {x y : Int} {w : World} (h1 : IntC lo w v1 x) (h2 : IntC lo' w v2 y) :
  CallsR Try.prog 61 #[v1, v2] w fun v w' => v = .bool (decide (x = y)) ∧ Ex w w' := by
 obtain ⟨n1, a1, c1, l1, rfl, hL1, rfl, hc1, g1, _⟩ := h1
 obtain ⟨n2, a2, c2, l2, rfl, hL2, rfl, hc2, g2, _⟩ := h2
 have hiff := rE hc1 hc2 g1 g2
 refine aG (args := [_, _]) Try.func61 rfl rfl ?_
 refine aj ?_
 refine ah rfl ?_
 refine bH rfl (fun ga w2 hn2 => ⟨fun _ _ => trivial, ?_⟩)
 refine bH rfl (fun gb w3 hn3 => ⟨fun _ _ => trivial, ?_⟩)
 have hb2 := hn2.blk.ext hn3.ex
 have hb3 := hn3.blk
 have hE := hn2.ex.trans hn3.ex
 have hle : natOf l1 = natOf l2 → l1.length = l2.length := fun h => by rw [lz hL1.lim hL2.lim hc1 hc2 h]
 repeat' (first|refine aU rfl hb2 rfl ?_|refine aU rfl hb3 rfl ?_|refine ai rfl ?_|refine aa ?_|refine aj ?_|refine ah rfl ?_|refine ae ?_|refine aY rfl ?_|refine bG rfl rfl ?_|refine bP rfl rfl ?_|refine em rfl rfl (fun hc => ?_) (fun hc => ?_)|refine aP rfl ?_|refine kZ rfl rfl ?_|refine aK ?_)
 ·refine aw (gg (hL1.ext hE) (hL2.ext hE) hc1 hc2) rfl ?_
  rintro v w4 ⟨rfl, hE4⟩
  refine ⟨fun _ _ => trivial, ?_⟩
  repeat' (first|refine ai rfl ?_|refine aa ?_|refine ae ?_|refine bG rfl rfl ?_|refine aK ?_)
  refine bB rfl (rt rfl) ⟨congrArg Value.bool (decide_eq_decide.2 ?_), hE.trans hE4⟩
  rw [hiff]
  unfold cmpZ
  have hn : n1 = n2 := by assumption
  constructor
  ·intro h
   refine ⟨hn, ?_⟩
   split at h
   ·omega
   ·split at h
    ·omega
    ·omega
  ·rintro ⟨_, h⟩
   rw [if_neg (by omega), if_neg (by omega)]
 all_goals
  refine bB rfl (rt rfl) ⟨congrArg Value.bool (Eq.symm (decide_eq_false ?_)), hE⟩
  rw [hiff]
  rintro ⟨h1, h2⟩
  have := hle h2
  first|omega|(subst h1; simp_all; done)
end Go.Proofs.Ytiejljicpinheaa
namespace Go.W
section
variable {P : Program} {S : World → Prop} {ops : List Oper} {K : Env → World → Prop} {rest : List (Oper × Option Bool)} {ρ : Env} {w : World} {b : Option Bool} {kf : Bool} {d : Nat} {dst : Option Nat} {T T' : TypeId} {pos : String} {af : Array Edge}
variable {x y : Operand} {k : IntKind} {m m' : Int} {T'' : TypeId}
theorem bv (hx : ev ρ x = .int k m) (hy : ev ρ y = .int k m') (hd : m < m') (h : RR P S ops K rest (upd ρ d (.bool true)) w) : RR P S ops K ((⟨some d, .binOp .lss T' x y T'', T, pos, af, none⟩, b) :: rest) ρ w :=
 r7 hx hy (by rw [decide_eq_true hd]; exact h)
theorem nD (hx : ev ρ x = .int k m) (hy : ev ρ y = .int k m') (hd : m ≤ m') (h : RR P S ops K rest (upd ρ d (.bool true)) w) : RR P S ops K ((⟨some d, .binOp .leq T' x y T'', T, pos, af, none⟩, b) :: rest) ρ w :=
 r8 hx hy (by rw [decide_eq_true hd]; exact h)
theorem bu (hx : ev ρ x = .int k m) (hy : ev ρ y = .int k m') (hd : m' ≤ m) (h : RR P S ops K rest (upd ρ d (.bool false)) w) : RR P S ops K ((⟨some d, .binOp .lss T' x y T'', T, pos, af, none⟩, b) :: rest) ρ w :=
 r7 hx hy (by rw [decide_eq_false (by omega)]; exact h)
theorem sK (hx : ev ρ x = .int k m) (hy : ev ρ y = .int k m') (hd : m < m') (h : RR P S ops K rest (upd ρ d (.bool false)) w) : RR P S ops K ((⟨some d, .binOp .geq T' x y T'', T, pos, af, none⟩, b) :: rest) ρ w :=
 se hx hy (by rw [decide_eq_false (by omega)]; exact h)
theorem qm (hx : ev ρ x = .int k m) (hy : ev ρ y = .int k m') (hd : m' < m) (h : RR P S ops K rest (upd ρ d (.bool true)) w) : RR P S ops K ((⟨some d, .binOp .gtr T' x y T'', T, pos, af, none⟩, b) :: rest) ρ w :=
 r9 hx hy (by rw [decide_eq_true hd]; exact h)
theorem fz (hx : ev ρ x = .int k m) (hy : ev ρ y = .int k m') (hd : m ≠ m') (h : RR P S ops K rest (upd ρ d (.bool false)) w) : RR P S ops K ((⟨some d, .binOp .eql T' x y T'', T, pos, af, none⟩, b) :: rest) ρ w :=
 pO hx hy (by rw [decide_eq_false hd]; exact h)
theorem dq (hx : ev ρ x = .int k m) (hy : ev ρ y = .int k m') (hd : m = m') (h : RR P S ops K rest (upd ρ d (.bool false)) w) : RR P S ops K ((⟨some d, .binOp .neq T' x y T'', T, pos, af, none⟩, b) :: rest) ρ w :=
 pP hx hy (by rw [decide_eq_false (by simpa using hd)]; exact h)
theorem gQ (hx : ev ρ x = .int k m) (hy : ev ρ y = .int k m') (hd : m = m') (h : RR P S ops K rest (upd ρ d (.bool true)) w) : RR P S ops K ((⟨some d, .binOp .eql T' x y T'', T, pos, af, none⟩, b) :: rest) ρ w :=
 pO hx hy (by rw [decide_eq_true hd]; exact h)
theorem jQ (hx : ev ρ x = .int k m) (hy : ev ρ y = .int k m') (hd : m ≤ m') (h : RR P S ops K rest (upd ρ d (.bool false)) w) : RR P S ops K ((⟨some d, .binOp .gtr T' x y T'', T, pos, af, none⟩, b) :: rest) ρ w :=
 r9 hx hy (by rw [decide_eq_false (by omega)]; exact h)
end
end Go.W
namespace Go.W
end Go.W
namespace Go.W
end Go.W
namespace Go.PM
def bit (ws : List Nat) (x : Nat) : Bool := (ws.getD (x / 64) 0).testBit (x % 64)
theorem cP {α : Type} (l : List α) (d : α) {k : Nat} (h : k < l.length) : l.take (k + 1) = l.take k ++ [l.getD k d] := by
 rw [List.take_succ_eq_append_getElem h, List.getD_eq_getElem?_getD, List.getElem?_eq_getElem h]; rfl
end Go.PM
namespace Go.PM
theorem fA {α : Type} {l : List α} {k : Nat} {d : α} (h : k < l.length) : l.getD k d ∈ l := by
 rw [List.getD_eq_getElem?_getD, List.getElem?_eq_getElem h]; exact List.getElem_mem h
end Go.PM
namespace Go.PM
def tAt (L : List Int) (k : Nat) : Nat := if k < L.length then k + 1 else k
theorem nG {L : List Int} {k : Nat} (h : k ≤ L.length) : tAt L k ≤ L.length := by unfold tAt; split <;> omega
end Go.PM
namespace Go.Proofs.Ytiejljicpinheaa
open Go.W Go.PM
abbrev int8L (xs : List Int) : List Value := xs.map (Value.int .i8)
def I8 (L : List Int) : Prop := L.length ≤ 9223372036854775807 ∧ ∀ x ∈ L, -128 ≤ x ∧ x ≤ 127
theorem I8.getD {L : List Int} (h : I8 L) (k : Nat) : -128 ≤ L.getD k 0 ∧ L.getD k 0 ≤ 127 := by
 by_cases hk : k < L.length
 ·exact h.2 _ (fA hk)
 ·rw [List.getD_eq_getElem?_getD, List.getElem?_eq_none (by omega)]; simp
abbrev tapeL (la : Option Addr) (n lc k : Nat) : List Value := [.slice la n lc, .int .i64 (k : Int)]
theorem gL {L : List Int} {k g lc : Nat} {la : Option Addr} {w : World} (hb : Blk w g 57 (tapeL la L.length lc k)) (hL : Sl w la (int8L L)) (hr : I8 L) (hne : 0 < L.length → ∀ ad, la = some ad → ad.block ≠ g)
  (hk : k ≤ L.length) : CallsR Try.prog 24 #[.pointer (some ⟨g, 0, none⟩)] w fun v w' =>
   v = .int .i64 (L.getD k 0) ∧ Chg g w w' ∧ Blk w' g 57 (tapeL la L.length lc (tAt L k)) := by
 have hlen := hr.1
 have hx := hr.getD k
 refine aG (args := [_]) Try.func24 rfl rfl ?_
 repeat' (first|refine ai rfl ?_|refine aa ?_|refine aj ?_|refine ah rfl ?_|refine ae ?_)
 refine bn (late := []) (plan := [(0, none), (1, none), (2, none), (3, none), (4, none), (5, none), (6, none), (7, none), (8, none), (9, none)]) (fun w' => Blk w' g 57 (tapeL la L.length lc k)) bC (by kernel_rfl) hb.drew ?_
 repeat' (first|refine aU rfl (fun _ h => h) rfl ?_|refine ai rfl ?_|refine aa ?_|refine aj ?_|refine ah rfl ?_|refine ae ?_|refine aY rfl ?_|refine aP rfl ?_|refine aM rfl (fun hc => ?_) (fun hc => ?_)|refine aK ?_|refine aX ?_|refine aF ?_)
 ·refine bB rfl (rt rfl) ⟨?_, (Chg.refl g w).drew, ?_⟩
  ·rw [List.getD_eq_getElem?_getD, List.getElem?_eq_none (by omega)]; rfl
  ·rw [tAt, if_neg (by omega)]; exact hb.drew
 ·replace hb := hb.drew
  repeat' (first|refine aU rfl hb rfl ?_|refine mn rfl rfl rfl hb rfl (fun w2 hc2 hb2 => ⟨fun _ _ => trivial, ?_⟩)|refine ai rfl ?_|refine aa ?_|refine aj ?_|refine ae ?_|refine bi rfl rfl (by omega) (by omega) ?_|refine aP rfl ?_)
  have hc2' := (Chg.trans (Chg.drew (Chg.refl g w)) hc2)
  have hL2 := (hL.drew).chg hc2 (hne (by omega))
  refine bn (late := []) (plan := [(0, none), (1, none), (2, none), (3, none), (4, none), (5, none), (6, none), (7, none), (8, none), (9, none), (10, none), (11, none), (12, none)]) (fun w' => Blk w' g 57 [.slice la L.length lc, .int .i64 ((k : Int) + 1)] ∧ Sl w' la (int8L L)) bC (by kernel_rfl) ⟨hb2.drew, hL2.drew⟩ ?_
  repeat' (first|refine aU rfl (fun _ h => h.1) rfl ?_|(refine aD (j := k) rfl (by show Value.int .i64 ((k : Int) + 1 - 1) = _; rw [Int.add_sub_cancel]) (hL.plain (by simp; omega)) (by omega) ?_)|refine rp rfl (fun _ h => h.2) (by omega) ?_|refine du rfl (dg (by omega) (by omega)) ?_|refine ai rfl ?_|refine aa ?_|refine ae ?_|refine cM rfl rfl (by omega) (by omega) ?_|refine aP rfl ?_|refine aK ?_)
  refine bB rfl (rt rfl) ⟨rfl, hc2'.drew, ?_⟩
  rw [tAt, if_pos (by omega)]
  exact hb2.drew
theorem jS {L : List Int} {k g lc : Nat} {la : Option Addr} {w : World} (hb : Blk w g 57 (tapeL la L.length lc k)) (hL : Sl w la (int8L L)) (hr : I8 L) (hne : 0 < L.length → ∀ ad, la = some ad → ad.block ≠ g)
  (hk : k ≤ L.length) (n : Int) (hn : 0 < n) : CallsR Try.prog 23 #[.pointer (some ⟨g, 0, none⟩), .int .i64 n] w fun v w' =>
   v = .int .i64 (L.getD k 0 % 256 % n) ∧ Chg g w w' ∧ Blk w' g 57 (tapeL la L.length lc (tAt L k)) := by
 have hx := hr.getD k
 refine aG (args := [_, _]) Try.func23 rfl rfl ?_
 repeat' (first|refine ai rfl ?_|refine aa ?_|refine aj ?_|refine ah rfl ?_|refine ae ?_)
 refine aw (gL hb hL hr hne hk) rfl ?_
 rintro v w1 ⟨rfl, hc1, hb1⟩
 refine ⟨fun _ _ => trivial, ?_⟩
 refine gT rfl ?_
 rw [show IntKind.u8.wrap (L.getD k 0) = L.getD k 0 % 256 from cE rfl]
 repeat' (first|refine du rfl (dg (by omega) (by omega)) ?_|refine ib rfl rfl (by omega) (by omega) ?_|refine ai rfl ?_|refine aa ?_|refine ae ?_|refine aK ?_)
 exact bB rfl (rt rfl) ⟨rfl, hc1, hb1⟩
end Go.Proofs.Ytiejljicpinheaa
namespace Go.PM
def ap (p : List Int) (x : Int) : Int := p.getD x.toNat 0
def it (p : List Int) : Nat → Int → Int
 | 0, x => x
 | k + 1, x => ap p (it p k x)
end Go.PM
namespace Go.Proofs.Ytiejljicpinheaa
open Go.W Go.PM Go.LM
theorem IntC.out {lo : Nat} {w : World} {v : Value} {z : Int} (h : IntC lo w v z) : ∃ cs : List Value, v = .agg cs.toArray ∧ cs.length = 2 ∧ cs.all Value.oneCell' = true := by
 obtain ⟨neg, a, c, ls, rfl, _⟩ := h
 exact ⟨_, rfl, rfl, rfl⟩
end Go.Proofs.Ytiejljicpinheaa
namespace Go.W
theorem Own.cap {w : World} {lo T s n cap : Nat} {a : Option Addr} {vs : List Value} (h : Own w lo T s a n cap vs) : n ≤ cap := by
 rcases h.2 with ⟨hv, hn⟩ | ⟨g, c, cur, hv, hg, hb, h1, h2, h3, h4⟩
 ·omega
 ·simp only [Value.slice.injEq] at hv; omega
end Go.W
namespace Go.Proofs.Ytiejljicpinheaa
open Go.W Go.PM
end Go.Proofs.Ytiejljicpinheaa
namespace Go.LM
theorem dH (k : Nat) : 4294967296 ^ (k + 1) = 4294967296 ^ k * 4294967296 := Nat.pow_succ _ _
theorem j2 {S : List Nat} {k c a b N : Nat} (hk : k < S.length) (h0 : S.getD k 0 = 0) (h : natOf S + c * 4294967296 ^ k = N) :
  natOf (S.set k ((c + (a + b)) % 4294967296)) + (c + (a + b)) / 4294967296 * 4294967296 ^ (k + 1) = N + (a + b) * 4294967296 ^ k := by
 have h1 := cA (v := (c + (a + b)) % 4294967296) hk
 rw [h0, Nat.zero_mul, Nat.add_zero] at h1
 rw [h1, dH]
 have h2 := Nat.mod_add_div (c + (a + b)) 4294967296
 generalize (c + (a + b)) % 4294967296 = r at *
 generalize (c + (a + b)) / 4294967296 = q at *
 generalize 4294967296 ^ k = P at *
 have e : r * P + q * (P * 4294967296) = (c + (a + b)) * P := by rw [← h2]; grind
 have e2 : (c + (a + b)) * P = c * P + (a + b) * P := Nat.add_mul _ _ _
 omega
theorem qu {D : List Nat} {k br a x M N : Nat} (hk : k < D.length) (h0 : D.getD k 0 = 0) (h : natOf D + M = N + br * 4294967296 ^ k) :
  (x + br ≤ a → natOf (D.set k (a - (x + br))) + (M + x * 4294967296 ^ k) = N + a * 4294967296 ^ k) ∧
  (x + br ≤ 4294967296 + a → natOf (D.set k (4294967296 + a - (x + br))) + (M + x * 4294967296 ^ k) = N + a * 4294967296 ^ k + 1 * 4294967296 ^ (k + 1)) := by
 constructor
 ·intro hle
  have h1 := cA (v := a - (x + br)) hk
  rw [h0, Nat.zero_mul, Nat.add_zero] at h1
  rw [h1]
  obtain ⟨d, rfl⟩ : ∃ d, a = x + br + d := ⟨a - (x + br), by omega⟩
  rw [show x + br + d - (x + br) = d by omega]
  generalize 4294967296 ^ k = P at *
  have e : (x + br + d) * P = x * P + br * P + d * P := by grind
  omega
 ·intro hle
  have h1 := cA (v := 4294967296 + a - (x + br)) hk
  rw [h0, Nat.zero_mul, Nat.add_zero] at h1
  rw [h1, dH, Nat.one_mul]
  obtain ⟨d, hd⟩ : ∃ d, 4294967296 + a = x + br + d := ⟨4294967296 + a - (x + br), by omega⟩
  rw [show 4294967296 + a - (x + br) = d by omega]
  generalize 4294967296 ^ k = P at *
  have e : (4294967296 + a) * P = (x + br + d) * P := by rw [hd]
  have e1 : (x + br + d) * P = x * P + br * P + d * P := by grind
  have e2 : (4294967296 + a) * P = P * 4294967296 + a * P := by grind
  omega
theorem kJ {U : List Nat} {k br x M N : Nat} (hk : k < U.length) (h : natOf U + M = N + br * 4294967296 ^ k) :
  (x + br ≤ U.getD k 0 → natOf (U.set k (U.getD k 0 - (x + br))) + (M + x * 4294967296 ^ k) = N) ∧
  (x + br ≤ 4294967296 + U.getD k 0 → natOf (U.set k (4294967296 + U.getD k 0 - (x + br))) + (M + x * 4294967296 ^ k) = N + 1 * 4294967296 ^ (k + 1)) := by
 constructor
 ·intro hle
  have h1 := cA (v := U.getD k 0 - (x + br)) hk
  generalize U.getD k 0 = a at *
  obtain ⟨d, rfl⟩ : ∃ d, a = x + br + d := ⟨a - (x + br), by omega⟩
  rw [show x + br + d - (x + br) = d by omega] at *
  generalize 4294967296 ^ k = P at *
  have e : (x + br + d) * P = x * P + br * P + d * P := by grind
  omega
 ·intro hle
  have h1 := cA (v := 4294967296 + U.getD k 0 - (x + br)) hk
  generalize U.getD k 0 = a at *
  obtain ⟨d, hd⟩ : ∃ d, 4294967296 + a = x + br + d := ⟨4294967296 + a - (x + br), by omega⟩
  rw [show 4294967296 + a - (x + br) = d by omega] at *
  rw [dH, Nat.one_mul]
  generalize 4294967296 ^ k = P at *
  have e : (4294967296 + a) * P = (x + br + d) * P := by rw [hd]
  have e1 : (x + br + d) * P = x * P + br * P + d * P := by grind
  have e2 : (4294967296 + a) * P = P * 4294967296 + a * P := by grind
  omega
theorem kK {U : List Nat} {k c x N : Nat} (hk : k < U.length) (h : natOf U + c * 4294967296 ^ k = N) :
  natOf (U.set k ((c + (U.getD k 0 + x)) % 4294967296)) + (c + (U.getD k 0 + x)) / 4294967296 * 4294967296 ^ (k + 1) = N + x * 4294967296 ^ k := by
 have h1 := cA (v := (c + (U.getD k 0 + x)) % 4294967296) hk
 have h2 := Nat.mod_add_div (c + (U.getD k 0 + x)) 4294967296
 rw [dH]
 generalize (c + (U.getD k 0 + x)) % 4294967296 = r at *
 generalize (c + (U.getD k 0 + x)) / 4294967296 = q at *
 generalize U.getD k 0 = a at *
 generalize 4294967296 ^ k = P at *
 have e : r * P + q * (P * 4294967296) = (c + (a + x)) * P := by rw [← h2]; grind
 have e2 : (c + (a + x)) * P = c * P + a * P + x * P := by grind
 omega
theorem o3 {_q r m X b Q : Nat} (h : b * Q + r = X) (_hb : 0 < b) : b * ((r * 4294967296 + m) / b + 4294967296 * Q) + (r * 4294967296 + m) % b = m + 4294967296 * X := by
 have h2 := Nat.div_add_mod (r * 4294967296 + m) b
 rw [Nat.mul_add, ← h]
 generalize (r * 4294967296 + m) / b = y at *
 generalize (r * 4294967296 + m) % b = z at *
 grind
theorem qv {S : List Nat} {k c m s N : Nat} (hk : k < S.length) (h0 : S.getD k 0 = 0) (h : natOf S + c * 4294967296 ^ k = N) (hc : c < 2 ^ s) :
  natOf (S.set k ((c ||| m <<< s) % 4294967296)) + (c ||| m <<< s) / 4294967296 * 4294967296 ^ (k + 1) = N + m * 2 ^ s * 4294967296 ^ k := by
 have e : c ||| m <<< s = c + (m * 2 ^ s + 0) := by
  rw [Nat.or_comm, ← Nat.shiftLeft_add_eq_or_of_lt hc, Nat.shiftLeft_eq]; omega
 rw [e, j2 hk h0 h, Nat.add_zero]
theorem o5 {c m s : Nat} (hc : c < 2 ^ s) (hm : m < 4294967296) : (c ||| m <<< s) / 4294967296 < 2 ^ s := by
 have e : c ||| m <<< s = m * 2 ^ s + c := by rw [Nat.or_comm, ← Nat.shiftLeft_add_eq_or_of_lt hc, Nat.shiftLeft_eq]
 rw [e]
 refine (Nat.div_lt_iff_lt_mul (by decide)).2 ?_
 have : (m + 1) * 2 ^ s ≤ 4294967296 * 2 ^ s := Nat.mul_le_mul_right _ hm
 rw [Nat.add_mul, Nat.one_mul] at this
 have h2 := Nat.mul_comm 4294967296 (2 ^ s)
 omega
def shrL (s : Nat) : List Nat → List Nat
 | [] => []
 | d :: ds => (d + 4294967296 * ds.headD 0) / 2 ^ s % 4294967296 :: shrL s ds
theorem j3 (s : Nat) : ∀ l, (shrL s l).length = l.length
 | [] => rfl
 | d :: ds => by simp [shrL, j3 s ds]
theorem mI (s : Nat) : ∀ l, Lim (shrL s l)
 | [] => fun d hd => by simp [shrL] at hd
 | d :: ds => fun x hx => by
  rcases List.mem_cons.1 hx with e | e
  ·rw [e]; exact Nat.mod_lt _ (by decide)
  ·exact mI s ds x e
theorem j4 {s : Nat} (hs : s ≤ 32) : ∀ {l : List Nat}, Lim l → natOf (shrL s l) = natOf l / 2 ^ s
 | [], _ => by simp [shrL, natOf]
 | d :: ds, h => by
  have hd : d < 4294967296 := h d (by simp)
  have hds : Lim ds := fun x hx => h x (by simp [hx])
  have ih := j4 hs hds
  obtain ⟨Y, hY⟩ : ∃ Y, natOf ds = ds.headD 0 + 4294967296 * Y := by
   cases ds with
   | nil => exact ⟨0, rfl⟩
   | cons x xs => exact ⟨natOf xs, rfl⟩
  show (d + 4294967296 * ds.headD 0) / 2 ^ s % 4294967296 + 4294967296 * natOf (shrL s ds) = (d + 4294967296 * natOf ds) / 2 ^ s
  rw [ih]
  have hT : 4294967296 = 2 ^ s * 2 ^ (32 - s) := by rw [← Nat.pow_add, show s + (32 - s) = 32 by omega]
  have hS : 0 < 2 ^ s := Nat.two_pow_pos s
  generalize 2 ^ s = S at *
  generalize 2 ^ (32 - s) = T at *
  generalize ds.headD 0 = x0 at *
  generalize natOf ds = X at *
  have key : ∀ Z, (d + 4294967296 * Z) / S = d / S + T * (Z % S) + 4294967296 * (Z / S) := fun Z => by
   have h1 := Nat.mod_add_div Z S
   have e : d + 4294967296 * Z = d + S * (T * (Z % S) + 4294967296 * (Z / S)) := by
    conv => lhs; rw [← h1]
    rw [hT]; grind
   rw [e, Nat.add_mul_div_left _ _ hS]
   omega
  rw [key x0, key X]
  have hmod : X % S = x0 % S := by
   rw [hY, hT, Nat.mul_assoc, Nat.add_mul_mod_self_left]
  rw [hmod]
  have hlt : d / S + T * (x0 % S) < 4294967296 := by
   have h1 : d / S < T := (Nat.div_lt_iff_lt_mul hS).2 (by rw [Nat.mul_comm, ← hT]; exact hd)
   have h2 : x0 % S < S := Nat.mod_lt _ hS
   have h3 : T * (x0 % S + 1) ≤ T * S := Nat.mul_le_mul_left _ h2
   rw [Nat.mul_add, Nat.mul_one] at h3
   have h4 := Nat.mul_comm T S
   omega
  rw [Nat.add_mul_mod_self_left, Nat.mod_eq_of_lt hlt]
theorem kL (s : Nat) : ∀ (l : List Nat) (k : Nat), k < l.length → (shrL s l).getD k 0 = (l.getD k 0 + 4294967296 * l.getD (k + 1) 0) / 2 ^ s % 4294967296
 | [], k, h => absurd h (by simp)
 | d :: ds, 0, _ => by
  show (d + 4294967296 * ds.headD 0) / 2 ^ s % 4294967296 = (d + 4294967296 * (d :: ds).getD 1 0) / 2 ^ s % 4294967296
  cases ds <;> rfl
 | d :: ds, k + 1, h => by
  show (shrL s ds).getD k 0 = (ds.getD k 0 + 4294967296 * ds.getD (k + 1) 0) / 2 ^ s % 4294967296
  exact kL s ds k (by simpa using h)
end Go.LM
namespace Go.LM
theorem bN {l : List Nat} {k : Nat} (h : l.length ≤ k) : natOf (l.take k) = natOf l := by rw [List.take_of_length_le h]
theorem bK (l : List Nat) (k : Nat) : natOf (l.take (k + 1)) = natOf (l.take k) + l.getD k 0 * 4294967296 ^ k := by
 by_cases h : k < l.length
 ·exact bM h
 ·rw [bN (by omega), bN (by omega), List.getD_eq_getElem?_getD, List.getElem?_eq_none (by omega)]; simp
theorem Lim.snoc {l : List Nat} {d : Nat} (h : Lim l) (hd : d < 4294967296) : Lim (l ++ [d]) := fun x hx => by
 rcases List.mem_append.1 hx with h' | h'
 ·exact h x h'
 ·rw [List.mem_singleton.1 h']; exact hd
theorem kM {S : List Nat} {c t N M : Nat} (h : natOf S + c * 4294967296 ^ S.length = N) (ht : t = c + M) :
  natOf (S ++ [t % 4294967296]) + t / 4294967296 * 4294967296 ^ (S.length + 1) = N + M * 4294967296 ^ S.length := by
 rw [cU, dH]
 have h2 := Nat.mod_add_div t 4294967296
 generalize t % 4294967296 = r at *
 generalize t / 4294967296 = q at *
 generalize 4294967296 ^ S.length = P at *
 have e : P * r + q * (P * 4294967296) = t * P := by rw [← h2]; grind
 have e2 : t * P = c * P + M * P := by rw [ht, Nat.add_mul]
 omega
theorem qw {S : List Nat} {br a x M N : Nat} (h : natOf S + M = N + br * 4294967296 ^ S.length) :
  (x + br ≤ a → natOf (S ++ [a - (x + br)]) + (M + x * 4294967296 ^ S.length) = N + a * 4294967296 ^ S.length) ∧
  (x + br ≤ 4294967296 + a → natOf (S ++ [4294967296 + a - (x + br)]) + (M + x * 4294967296 ^ S.length) = N + a * 4294967296 ^ S.length + 1 * 4294967296 ^ (S.length + 1)) := by
 rw [dH]
 constructor
 ·intro hle
  rw [cU]
  obtain ⟨d, rfl⟩ : ∃ d, a = x + br + d := ⟨a - (x + br), by omega⟩
  rw [show x + br + d - (x + br) = d by omega]
  generalize 4294967296 ^ S.length = P at *
  have e : (x + br + d) * P = x * P + br * P + P * d := by grind
  omega
 ·intro hle
  rw [cU]
  obtain ⟨d, hd⟩ : ∃ d, 4294967296 + a = x + br + d := ⟨4294967296 + a - (x + br), by omega⟩
  rw [show 4294967296 + a - (x + br) = d by omega]
  generalize 4294967296 ^ S.length = P at *
  have e : (4294967296 + a) * P = (x + br + d) * P := by rw [hd]
  have e1 : (x + br + d) * P = x * P + br * P + P * d := by grind
  have e2 : (4294967296 + a) * P = P * 4294967296 + a * P := by grind
  omega
end Go.LM
namespace Go.W
section
variable {P : Program} {S : World → Prop} {ops : List Oper} {K : Env → World → Prop} {rest : List (Oper × Option Bool)} {ρ : Env} {w : World} {b : Option Bool} {kf : Bool} {d : Nat} {dst : Option Nat} {T T' : TypeId} {pos : String} {af : Array Edge}
theorem nN {x y : Operand} {m m' : Nat} {T'' : TypeId} (hx : ev ρ x = .int .u64 (m : Int)) (hy : ev ρ y = .int .u64 (m' : Int)) (h2 : m' ≤ 18446744073709551616)
  (h : RR P S ops K rest (upd ρ d (.int .u64 (((18446744073709551616 + m - m') % 18446744073709551616 : Nat) : Int))) w) : RR P S ops K ((⟨some d, .binOp .sub T' x y T'', T, pos, af, none⟩, b) :: rest) ρ w :=
 pR hx hy (by
  rw [show IntKind.u64.wrap ((m : Int) - (m' : Int)) = (((18446744073709551616 + m - m') % 18446744073709551616 : Nat) : Int) from (cE rfl).trans (by simp only [IntKind.bits]; omega)]
  exact h)
end
end Go.W
namespace Go.Proofs.Ytiejljicpinheaa
open Go.W Go.LM
def IntK (k : Nat) (w : World) (v : Value) (z : Int) : Prop := ∃ neg a c ls, v = .agg (intL neg a ls.length c).toArray ∧ Limbs w a c ls ∧ z = sgn neg (natOf ls) ∧ ls.length ≤ k
theorem IntK.ext {k : Nat} {w w' : World} {v : Value} {z : Int} (h : IntK k w v z) (e : Ex w w') : IntK k w' v z := by obtain ⟨neg, a, c, ls, h1, h2, h3⟩ := h; exact ⟨neg, a, c, ls, h1, h2.ext e, h3⟩
theorem IntK.mono {k k' : Nat} {w : World} {v : Value} {z : Int} (h : IntK k w v z) (e : k ≤ k') : IntK k' w v z := by obtain ⟨neg, a, c, ls, h1, h2, h3, h4⟩ := h; exact ⟨neg, a, c, ls, h1, h2, h3, Nat.le_trans h4 e⟩
theorem IntK.lt {k : Nat} {w : World} {v : Value} {z : Int} (h : IntK k w v z) : z.natAbs < 4294967296 ^ k := by
 obtain ⟨neg, a, c, ls, h1, h2, rfl, h4⟩ := h
 rw [dU]
 exact Nat.lt_of_lt_of_le (bL h2.lim) (Nat.pow_le_pow_right (by decide) h4)
theorem IntC.k {lo k : Nat} {w : World} {v : Value} {z : Int} (h : IntC lo w v z) (hz : z.natAbs < 4294967296 ^ k) : IntK k w v z := by
 obtain ⟨neg, a, c, ls, h1, h2, rfl, h4, _, _⟩ := h
 rw [dU] at hz
 exact ⟨neg, a, c, ls, h1, h2, rfl, cH h4 hz⟩
def RetM (w : World) (p : List Nat → Prop) (v : Value) (w' : World) : Prop := ∃ ls a c, v = .slice a (List.length ls) c ∧ Limbs w' a c ls ∧ p ls ∧ Ex w w'
set_option maxHeartbeats 2000000 in
theorem mJ {la lb : List Nat} {a b : Option Addr} {c d : Nat} {w : World} (ha : Limbs w a c la) (hb : Limbs w b d lb) (hla : la.length < 17592186044416) (hlb : lb.length < 17592186044416) :
  CallsR Try.prog 99 #[.slice a la.length c, .slice b lb.length d] w (RetM w fun ls => natOf ls = natOf la + natOf lb) := by
 refine aG (args := [_, _]) Try.func99 rfl rfl ?_
 repeat' (first|refine ai rfl ?_|refine aa ?_|refine aj ?_|refine ah rfl ?_|refine ae ?_|refine aB ?_)
 refine aW (ι := Nat × List Nat × Nat × Option Addr × Nat) [5, 6, 7, 8, 9, 10, 11, 12, 13, 14, 15, 16, 17, 18, 19, 20, 21, 22, 23, 24, 25, 26, 27, 28, 29, 30, 31, 32, 33, 34, 35, 36, 37, 38, 39, 40, 41, 42, 43, 44, 45, 46, 47, 48] (fun s => [(7, .int .i64 (s.1 : Int)), (5, .slice s.2.2.2.1 s.1 s.2.2.2.2), (6, .int .u64 (s.2.2.1 : Int))])
  (fun s w' => (s.1 ≤ la.length ∨ s.1 ≤ lb.length) ∧ s.2.1.length = s.1 ∧ Own w' w.heap.size 94 1 s.2.2.2.1 s.1 s.2.2.2.2 (limbsL s.2.1) ∧ Lim s.2.1 ∧ s.2.2.1 ≤ 1 ∧ natOf s.2.1 + s.2.2.1 * 4294967296 ^ s.1 = natOf (la.take s.1) + natOf (lb.take s.1) ∧ Ex w w')
  (fun s => la.length + lb.length - s.1) (0, [], 0, none, 0) ⟨rfl, rfl, rfl, trivial⟩ ⟨by simp, rfl, Own.nil _ _ _ _, by intro d hd; simp at hd, by simp, by simp [natOf], Ex.refl _⟩ ?_
 rintro ⟨i, S, cy, o, cap⟩ ξ w1 ⟨hi, hS, hO, hL, hcy, hN, hE⟩
 simp only at hi hS hO hL hcy hN
 show CW _ _ _ _ (over [(7, .int .i64 (i : Int)), (5, .slice o i cap), (6, .int .u64 (cy : Int))] _) w1
 have ha1 := ha.ext hE
 have hb1 := hb.ext hE
 have hxa := ha.lim.getD i
 have hxb := hb.lim.getD i
 have za : la.length ≤ i → la.getD i 0 = 0 := fun h => by rw [List.getD_eq_getElem?_getD, List.getElem?_eq_none h]; rfl
 have zb : lb.length ≤ i → lb.getD i 0 = 0 := fun h => by rw [List.getD_eq_getElem?_getD, List.getElem?_eq_none h]; rfl
 have fin : ∀ (t : Nat) (o' : Option Addr) (cap' : Nat) (w2 : World), (i < la.length ∨ i < lb.length) → t = cy + (la.getD i 0 + lb.getD i 0) → Own w2 w.heap.size 94 1 o' (i + 1) cap' (limbsL (S ++ [t % 4294967296])) → w1.grownBy w2 (Value.slice o i cap).ownBlock →
   ((i + 1 ≤ la.length ∨ i + 1 ≤ lb.length) ∧ (S ++ [t % 4294967296]).length = i + 1 ∧ Own w2 w.heap.size 94 1 o' (i + 1) cap' (limbsL (S ++ [t % 4294967296])) ∧ Lim (S ++ [t % 4294967296]) ∧ t / 4294967296 ≤ 1 ∧ natOf (S ++ [t % 4294967296]) + t / 4294967296 * 4294967296 ^ (i + 1) = natOf (la.take (i + 1)) + natOf (lb.take (i + 1)) ∧ Ex w w2) := by
  intro t o' cap' w2 hii ht hO' hg
  refine ⟨by omega, by simp [hS], hO', hL.snoc (Nat.mod_lt _ (by decide)), by omega, ?_, hO.grow_ex hg hE (Nat.le_refl _)⟩
  subst hS
  rw [kM hN ht, bK, bK, Nat.add_mul]
  omega
 repeat' (first|(refine aD rfl rfl (ha1.sl.plain (by simp; omega)) (by omega) ?_)|refine bE rfl ha1.sl (by omega) ?_|(refine aD rfl rfl (hb1.sl.plain (by simp; omega)) (by omega) ?_)|refine bE rfl hb1.sl (by omega) ?_|refine gf rfl (by assumption) ?_|refine fk rfl rfl (by omega) ?_|refine dm rfl ?_|refine dQ rfl rfl ?_|refine ll rfl rfl rfl rfl hO (by omega) (by omega) hE.size (fun gx o2 c2 w2 hO2 hg2 hA2 => ?_)|refine ai rfl ?_|refine aa ?_|refine aj ?_|refine ah rfl ?_|refine ae ?_|refine aY rfl ?_|refine bG rfl rfl ?_|refine bP rfl rfl ?_|refine gF rfl rfl (fun hc => ?_) (fun hc => ?_)|refine bi rfl rfl (by omega) (by omega) ?_|refine aC rfl ?_|refine aM rfl (fun hc => ?_) (fun hc => ?_)|refine aB ?_|refine aS ?_|refine aL ?_|refine aT ?_|refine aJ ?_|refine aK ?_|refine aF ?_)
 all_goals first
  | (exfalso; omega)
  | (refine ⟨⟨(i + 1, _, _, o2, c2), fin _ o2 c2 w2 (by omega) (by omega) hO2 hg2, by simp only; omega, rfl, rfl, rfl, trivial⟩, (by (repeat (first|exact aH _ _ _|refine ax rfl ?_|refine av rfl ?_|refine ak rfl ?_|refine ao rfl ?_)))⟩; done)
  | skip
 have hla2 := bN (l := la) (k := i) (by omega)
 have hlb2 := bN (l := lb) (k := i) (by omega)
 refine bB rfl (rt rfl) ⟨S ++ [cy % 4294967296], o2, c2, by rw [List.length_append, hS]; rfl, ⟨hO2.sl, by have := hO2.cap; simp; omega, hL.snoc (Nat.mod_lt _ (by decide)), by simp; omega⟩, ?_, hO.grow_ex hg2 hE (Nat.le_refl _)⟩
 show natOf (S ++ [cy % 4294967296]) = _
 rw [cU, hS, Nat.mod_eq_of_lt (by omega), Nat.mul_comm, hN, hla2, hlb2]
set_option maxHeartbeats 2000000 in
theorem dI {la lb : List Nat} {a b : Option Addr} {c d : Nat} {w : World} (ha : Limbs w a c la) (hb : Limbs w b d lb) (hab : natOf lb ≤ natOf la) (cb : Canon lb) (_ca : Canon la) :
  CallsR Try.prog 100 #[.slice a la.length c, .slice b lb.length d] w (RetM w fun ls => natOf ls = natOf la - natOf lb) := by
 have hll : lb.length ≤ la.length := cH cb (Nat.lt_of_le_of_lt hab (bL ha.lim))
 have hlen := ha.len
 refine aG (args := [_, _]) Try.func100 rfl rfl ?_
 repeat' (first|refine ai rfl ?_|refine aa ?_|refine aj ?_|refine ah rfl ?_|refine ae ?_|refine aB ?_)
 refine aW (ι := Nat × List Nat × Nat × Option Addr × Nat) [5, 6, 7, 8, 9, 10, 11, 12, 13, 14, 15, 16, 17, 18, 19, 20, 21, 22, 23, 24, 25, 26, 27, 28, 29, 30, 31, 32, 33, 34, 35, 36, 37, 38, 39, 40, 41, 42, 43, 44] (fun s => [(7, .int .i64 (s.1 : Int)), (5, .slice s.2.2.2.1 s.1 s.2.2.2.2), (6, .int .u64 (s.2.2.1 : Int))])
  (fun s w' => s.1 ≤ la.length ∧ s.2.1.length = s.1 ∧ Own w' w.heap.size 94 1 s.2.2.2.1 s.1 s.2.2.2.2 (limbsL s.2.1) ∧ Lim s.2.1 ∧ s.2.2.1 ≤ 1 ∧ natOf s.2.1 + natOf (lb.take s.1) = natOf (la.take s.1) + s.2.2.1 * 4294967296 ^ s.1 ∧ Ex w w')
  (fun s => la.length - s.1) (0, [], 0, none, 0) ⟨rfl, rfl, rfl, trivial⟩ ⟨by simp, rfl, Own.nil _ _ _ _, by intro d hd; simp at hd, by simp, by simp [natOf], Ex.refl _⟩ ?_
 rintro ⟨i, S, br, o, cap⟩ ξ w1 ⟨hi, hS, hO, hL, hbr, hN, hE⟩
 simp only at hi hS hO hL hbr hN
 show CW _ _ _ _ (over [(7, .int .i64 (i : Int)), (5, .slice o i cap), (6, .int .u64 (br : Int))] _) w1
 have ha1 := ha.ext hE
 have hb1 := hb.ext hE
 have hxa := ha.lim.getD i
 have hxb := hb.lim.getD i
 have zb : lb.length ≤ i → lb.getD i 0 = 0 := fun h => by rw [List.getD_eq_getElem?_getD, List.getElem?_eq_none h]; rfl
 have fin : ∀ (v br' : Nat) (o' : Option Addr) (cap' : Nat) (w2 : World), i < la.length → (lb.getD i 0 + br ≤ la.getD i 0 ∧ v = la.getD i 0 - (lb.getD i 0 + br) ∧ br' = 0 ∨ la.getD i 0 < lb.getD i 0 + br ∧ v = 4294967296 + la.getD i 0 - (lb.getD i 0 + br) ∧ br' = 1) → Own w2 w.heap.size 94 1 o' (i + 1) cap' (limbsL (S ++ [v])) → w1.grownBy w2 (Value.slice o i cap).ownBlock →
   (i + 1 ≤ la.length ∧ (S ++ [v]).length = i + 1 ∧ Own w2 w.heap.size 94 1 o' (i + 1) cap' (limbsL (S ++ [v])) ∧ Lim (S ++ [v]) ∧ br' ≤ 1 ∧ natOf (S ++ [v]) + natOf (lb.take (i + 1)) = natOf (la.take (i + 1)) + br' * 4294967296 ^ (i + 1) ∧ Ex w w2) := by
  intro v br' o' cap' w2 hii hv hO' hg
  refine ⟨by omega, by simp [hS], hO', hL.snoc (by omega), by omega, ?_, hO.grow_ex hg hE (Nat.le_refl _)⟩
  subst hS
  rw [bK, bK]
  have hst := qw (a := la.getD S.length 0) (x := lb.getD S.length 0) hN
  rcases hv with ⟨h1, rfl, rfl⟩ | ⟨h1, rfl, rfl⟩
  ·rw [hst.1 h1, Nat.zero_mul]; rfl
  ·rw [hst.2 (by omega)]
 repeat' (first|(refine aD rfl rfl (ha1.sl.plain (by simp; omega)) (by omega) ?_)|refine bE rfl ha1.sl (by omega) ?_|(refine aD rfl rfl (hb1.sl.plain (by simp; omega)) (by omega) ?_)|refine bE rfl hb1.sl (by omega) ?_|refine gf rfl (by assumption) ?_|refine fk rfl rfl (by omega) ?_|refine dm rfl ?_|refine nN rfl rfl (by omega) ?_|refine ll rfl rfl rfl rfl hO (by omega) (by omega) hE.size (fun gx o2 c2 w2 hO2 hg2 hA2 => ?_)|refine bE rfl (ha.ext (hO.grow_ex hg2 hE (Nat.le_refl _))).sl (by omega) ?_|refine ai rfl ?_|refine aa ?_|refine aj ?_|refine ah rfl ?_|refine ae ?_|refine aY rfl ?_|refine bi rfl rfl (by omega) (by omega) ?_|refine aM rfl (fun hc => ?_) (fun hc => ?_)|refine aB ?_|refine aS ?_|refine aL ?_|refine aT ?_|refine aJ ?_|refine aK ?_|refine aF ?_)
 all_goals first
  | (refine ⟨⟨(i + 1, _, 1, o2, c2), fin _ 1 o2 c2 w2 (by omega) (by omega) hO2 hg2, by simp only; omega, rfl, rfl, rfl, trivial⟩, (by (repeat (first|exact aH _ _ _|refine ax rfl ?_|refine av rfl ?_|refine ak rfl ?_|refine ao rfl ?_)))⟩; done)
  | (refine ⟨⟨(i + 1, _, 0, o2, c2), fin _ 0 o2 c2 w2 (by omega) (by omega) hO2 hg2, by simp only; omega, rfl, rfl, rfl, trivial⟩, (by (repeat (first|exact aH _ _ _|refine ax rfl ?_|refine av rfl ?_|refine ak rfl ?_|refine ao rfl ?_)))⟩; done)
  | skip
 have hla2 := bN (l := la) (k := i) (by omega)
 have hlb2 := bN (l := lb) (k := i) (by omega)
 have hi2 : i = la.length := by omega
 have hlt : natOf S < 4294967296 ^ i := by rw [← hS]; exact bL hL
 rw [hla2, hlb2] at hN
 have hbr0 : br = 0 := by
  rcases Nat.eq_zero_or_pos br with h | h
  ·exact h
  ·have : br = 1 := by omega
   rw [this, Nat.one_mul] at hN
   omega
 rw [hbr0, Nat.zero_mul] at hN
 refine bB rfl (rt rfl) ⟨S, o, cap, by rw [hS]; rfl, ⟨hO.sl, by have := hO.cap; omega, hL, by omega⟩, ?_, hE⟩
 show natOf S = _
 omega
end Go.Proofs.Ytiejljicpinheaa
namespace Go.Proofs.Ytiejljicpinheaa
open Go.W Go.LM
theorem jv {m n : Nat} : 0 ≤ cmpZ m n ↔ n ≤ m := by
 unfold cmpZ
 split
 ·constructor <;> intro h <;> omega
 ·split
  ·constructor <;> intro h <;> omega
  ·constructor <;> intro h <;> omega
theorem e7 {p q : Nat} {v1 v2 : Value} {x y : Int} {w : World} (h1 : IntK p w v1 x) (h2 : IntK q w v2 y) (hp : p < 17592186044416) (hq : q < 17592186044416) :
  CallsR Try.prog 68 #[v1, v2] w (RetZ w (x + y)) := by
 obtain ⟨n1, a1, c1, l1, rfl, hL1, rfl, hp1⟩ := h1
 obtain ⟨n2, a2, c2, l2, rfl, hL2, rfl, hq1⟩ := h2
 have tl1 := cv l1
 have tl2 := cv l2
 refine aG (args := [_, _]) Try.func68 rfl rfl ?_
 refine aj ?_
 refine ah rfl ?_
 refine bH rfl (fun g2 w2 hn2 => ⟨fun _ _ => trivial, ?_⟩)
 refine bH rfl (fun g3 w3 hn3 => ⟨fun _ _ => trivial, ?_⟩)
 refine aE (fun g4 w4 hn4 => ⟨fun _ _ => trivial, ?_⟩)
 have hb2 := (hn2.blk.ext hn3.ex).ext hn4.ex
 have hb3 := hn3.blk.ext hn4.ex
 have hb4 : Blk w4 g4 49 (intL false none 0 0) := hn4.blk
 have hE := (hn2.ex.trans hn3.ex).trans hn4.ex
 have l4 := hn4.lo
 have l4' := hn4.hi
 have s3 := (hn2.ex.trans hn3.ex).size
 have s4 := hE.size
 repeat' (first|refine aa ?_|refine aj ?_|refine ae ?_)
 refine bn (late := []) (plan := [(0, none), (1, none), (3, none), (4, none), (2, some true), (5, some true), (6, none), (7, none)]) (fun w' => Ex w4 w') bC (by kernel_rfl) (Ex.refl w4).drew ?_
 have hE4d : Ex w4 w4.drew := (Ex.refl w4).drew
 repeat' (first|refine aU rfl (fun _ h => hb2.ext h) rfl ?_|refine aU rfl (fun _ h => hb3.ext h) rfl ?_|refine aP rfl ?_)
 refine aw (cc (hL1.ext (hE.trans hE4d))) rfl ?_
 rintro v w6 ⟨a6, c6, rfl, hL6, hf6, hE6⟩
 refine ⟨fun _ h => h.trans hE6, ?_⟩
 refine aw (cc (hL2.ext ((hE.trans hE4d).trans hE6))) rfl ?_
 rintro v w7 ⟨a7, c7, rfl, hL7, hf7, hE7⟩
 refine ⟨fun _ h => h.trans hE7, ?_⟩
 have hE47 : Ex w4 w7 := (hE4d.trans hE6).trans hE7
 have hL67 := hL6.ext hE7
 have hb27 := hb2.ext hE47
 have hb37 := hb3.ext hE47
 have hE7d : Ex w7 w7.drew := (Ex.refl w7).drew
 have hE47d := hE47.trans hE7d
 have fin : ∀ {ng nn : Bool} {ls : List Nat} {m : Nat} {w9 w10 : World} {v : Value}, Ex w7 w9 → IntC w9.heap.size w10 v (sgn nn m) → Ex w9 w10 → ∀ w11, Chg g4 w10 w11 → sgn nn m = sgn n1 (natOf l1) + sgn n2 (natOf l2) → RetZ w (sgn n1 (natOf l1) + sgn n2 (natOf l2)) v w11 := by
  intro ng nn ls m w9 w10 v hE9 hI hE10 w11 hc11 he
  have s9 := (hE47.trans hE9).size
  refine ⟨?_, ((hE.trans hE47).trans (hE9.trans hE10)).chg hc11 (by omega)⟩
  rw [← he]
  exact (hI.chg hc11 (by omega)).mono (by omega)
 repeat' (first|refine aU rfl hb27 rfl ?_|refine aU rfl hb37 rfl ?_|refine ai rfl ?_|refine aa ?_|refine aj ?_|refine ah rfl ?_|refine ae ?_|refine aP rfl ?_|refine kZ rfl rfl ?_|refine aM rfl (fun hc => ?_) (fun hc => ?_)|refine aF ?_)
 ·refine bn (late := [5, 6]) (plan := [(0, none), (1, none), (2, none), (3, none), (4, some true), (5, some false), (6, some false)]) (fun w' => Ex w7 w') bC (by kernel_rfl) hE7d ?_
  repeat' (first|refine aU rfl (fun _ h => hb27.ext h) rfl ?_|refine ai rfl ?_|refine aP rfl ?_)
  refine aw (mJ (hL67.ext hE7d) (hL7.ext hE7d) (by omega) (by omega)) rfl ?_
  rintro v w9 ⟨ls, a9, c9, rfl, hL9, hv9, hE9⟩
  refine ⟨fun _ h => h.trans hE9, ?_⟩
  skip
  refine aw (bf hL9 _) rfl ?_
  rintro v w10 ⟨hI, hE10⟩
  obtain ⟨ng, a', c', ls', rfl, hI'⟩ := id hI
  refine ⟨fun _ h => h.trans hE10, ?_⟩
  refine au (n := 2) rfl rfl rfl rfl (hb4.ext ((hE47d.trans hE9).trans hE10)) rfl (fun w11 hc11 hb11 => ⟨fun h => (nomatch h), ?_⟩)
  repeat' (first|refine aa ?_|refine ae ?_|refine aK ?_|refine aX ?_)
  refine bB rfl (rc rfl rfl hb11) (fin (ng := ng) (ls := ls) (hE7d.trans hE9) hI hE10 w11 hc11 ?_)
  have hv : natOf ls = natOf l1 + natOf l2 := by rw [show natOf ls = _ from hv9, bc, bc]
  rw [hv]; subst_vars; unfold sgn; split <;> omega
 ·refine aw (gg hL67 hL7 (bz _) (bz _)) rfl ?_
  rintro v w8 ⟨rfl, hE8⟩
  refine ⟨fun _ _ => trivial, ?_⟩
  have hE8d := hE8.drew
  have hE48d := hE47.trans hE8d
  rw [bc, bc]
  have hge := jv (m := natOf l1) (n := natOf l2)
  repeat' (first|refine ai rfl ?_|refine aa ?_|refine aj ?_|refine ae ?_|refine aM rfl (fun hc => ?_) (fun hc => ?_)|refine aF ?_)
  ·refine bn (late := [5, 6]) (plan := [(0, none), (1, none), (2, none), (3, none), (4, some true), (5, some false), (6, some false)]) (fun w' => Ex w7 w') bC (by kernel_rfl) hE8d ?_
   repeat' (first|refine aU rfl (fun _ h => hb27.ext h) rfl ?_|refine ai rfl ?_|refine aP rfl ?_)
   refine aw (dI (hL67.ext hE8d) (hL7.ext hE8d) (by rw [bc, bc]; omega) (bz _) (bz _)) rfl ?_
   rintro v w9 ⟨ls, a9, c9, rfl, hL9, hv9, hE9⟩
   refine ⟨fun _ h => h.trans hE9, ?_⟩
   skip
   refine aw (bf hL9 _) rfl ?_
   rintro v w10 ⟨hI, hE10⟩
   obtain ⟨ng, a', c', ls', rfl, hI'⟩ := id hI
   refine ⟨fun _ h => h.trans hE10, ?_⟩
   refine au (n := 2) rfl rfl rfl rfl (hb4.ext ((hE48d.trans hE9).trans hE10)) rfl (fun w11 hc11 hb11 => ⟨fun h => (nomatch h), ?_⟩)
   repeat' (first|refine aa ?_|refine ae ?_|refine aK ?_|refine aX ?_)
   refine bB rfl (rc rfl rfl hb11) (fin (ng := ng) (ls := ls) (hE8d.trans hE9) hI hE10 w11 hc11 ?_)
   have hv : natOf ls = natOf l1 - natOf l2 := by rw [show natOf ls = _ from hv9, bc, bc]
   rw [hv]; unfold sgn; cases n1 <;> cases n2 <;> simp at * <;> omega
  ·refine bn (late := [5, 6]) (plan := [(0, none), (1, none), (2, none), (3, none), (4, some true), (5, some false), (6, some false)]) (fun w' => Ex w7 w') bC (by kernel_rfl) hE8d ?_
   repeat' (first|refine aU rfl (fun _ h => hb37.ext h) rfl ?_|refine ai rfl ?_|refine aP rfl ?_)
   refine aw (dI (hL7.ext hE8d) (hL67.ext hE8d) (by rw [bc, bc]; omega) (bz _) (bz _)) rfl ?_
   rintro v w9 ⟨ls, a9, c9, rfl, hL9, hv9, hE9⟩
   refine ⟨fun _ h => h.trans hE9, ?_⟩
   skip
   refine aw (bf hL9 _) rfl ?_
   rintro v w10 ⟨hI, hE10⟩
   obtain ⟨ng, a', c', ls', rfl, hI'⟩ := id hI
   refine ⟨fun _ h => h.trans hE10, ?_⟩
   refine au (n := 2) rfl rfl rfl rfl (hb4.ext ((hE48d.trans hE9).trans hE10)) rfl (fun w11 hc11 hb11 => ⟨fun h => (nomatch h), ?_⟩)
   repeat' (first|refine aa ?_|refine ae ?_|refine aK ?_)
   refine bB rfl (rc rfl rfl hb11) (fin (ng := ng) (ls := ls) (hE8d.trans hE9) hI hE10 w11 hc11 ?_)
   have hv : natOf ls = natOf l2 - natOf l1 := by rw [show natOf ls = _ from hv9, bc, bc]
   rw [hv]; unfold sgn; cases n1 <;> cases n2 <;> simp at * <;> omega
end Go.Proofs.Ytiejljicpinheaa
