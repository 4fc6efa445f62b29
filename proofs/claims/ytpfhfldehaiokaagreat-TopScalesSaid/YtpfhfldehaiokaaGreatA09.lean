import Derived.Test.YtpfhfldehaiokaaGreatA07
set_option maxHeartbeats 2000000
namespace Go.Proofs.YtpfhfldehaiokaaGreat
open Go.W Go.LM
theorem kF {la lb : List Nat} {a b : Option Addr} {c d : Nat} {w : World} (ha : Limbs w a c la) (hb : Limbs w b d lb) (hla : la.length < 17592186044416) (hlb : lb.length < 17592186044416) :
  CallsR Tryz.prog 161 #[.slice a la.length c, .slice b lb.length d] w fun v w' => ∃ ls, natOf ls = natOf la + natOf lb ∧ Canon ls ∧ RetN w ls v w' := by
 refine aE (args := [_, _]) Tryz.func161 rfl rfl ?_
 repeat' (first|refine aj rfl ?_|refine aa ?_|refine ak ?_|refine ai rfl ?_|refine ah ?_|refine bc rfl ?_)
 refine dy (ι := (List Nat × Option Addr × Nat) × List Nat × Option Addr × Nat) [0, 1, 14, 15] (fun s => [(0, .slice s.1.2.1 s.1.1.length s.1.2.2), (1, .slice s.2.2.1 s.2.1.length s.2.2.2)])
  (fun s w' => w' = w ∧ Limbs w s.1.2.1 s.1.2.2 s.1.1 ∧ Limbs w s.2.2.1 s.2.2.2 s.2.1 ∧ s.2.1.length ≤ s.1.1.length ∧ s.1.1.length < 17592186044416 ∧ natOf s.1.1 + natOf s.2.1 = natOf la + natOf lb) ?_ ?_
 ·repeat' (first|refine aj rfl ?_|refine aa ?_|refine ai rfl ?_|refine ah ?_|refine aQ rfl (fun hc => ?_) (fun hc => ?_)|refine aC ?_)
  ·exact ⟨⟨((lb, b, d), la, a, c), ⟨rfl, hb, ha, by simp only; omega, hlb, Nat.add_comm _ _⟩, rfl, rfl, trivial⟩, (by (repeat (first|exact aX _ _|refine aB rfl ?_|refine ax rfl ?_|refine av rfl ?_|refine aw rfl ?_)))⟩
  ·exact ⟨⟨((la, a, c), lb, b, d), ⟨rfl, ha, hb, by simp only; omega, hla, rfl⟩, rfl, rfl, trivial⟩, (by (repeat (first|exact aX _ _|refine aB rfl ?_|refine ax rfl ?_|refine av rfl ?_|refine aw rfl ?_)))⟩
 clear ha hb hla hlb
 rintro ⟨⟨xa, a', c'⟩, xb, b', d'⟩ ξ w1 ⟨rfl, hxa, hxb, hle, hxl, hsum⟩
 simp only at hxa hxb hle hxl hsum
 show CW _ _ _ _ (over [(0, .slice a' xa.length c'), (1, .slice b' xb.length d')] _) w1
 repeat' (first|refine dM (m := xa.length) (m' := 1) rfl rfl (by omega) ?_|refine fT rfl rfl (by omega) (by omega) (fun g w2 hn2 => tvv ?_)|refine aj rfl ?_|refine aa ?_|refine ak ?_|refine ai rfl ?_|refine ah ?_|refine bc rfl ?_|refine ay ?_)
 have l2 := hn2.lo
 refine aW (ι := Nat × List Nat × Nat) [6, 7, 22, 23, 24, 25, 26, 27, 28, 29, 30, 31, 32, 33, 34, 35, 36, 37, 38, 39, 40, 41, 42, 43, 44, 45] (fun s => [(22, .int .i64 (s.1 : Int)), (6, .int .u64 (s.2.2 : Int))])
  (fun s w' => s.1 ≤ xb.length ∧ Ex w1 w' ∧ Blk w' g 85 (limbsL s.2.1) ∧ s.2.1.length = xa.length + 1 ∧ Lim s.2.1 ∧ s.2.2 ≤ 1 ∧ natOf s.2.1 + s.2.2 * 4294967296 ^ s.1 = natOf (xa.take s.1) + natOf (xb.take s.1) ∧ ∀ j, s.1 ≤ j → s.2.1.getD j 0 = 0) (fun s => xb.length - s.1)
  (0, List.replicate (xa.length + 1) 0, 0) ⟨rfl, rfl, trivial⟩ ⟨by simp, hn2.ex, hn2.blk, by simp, Lim.zeros _, by simp, by simp [dl, natOf], fun j _ => by simp [List.getD_eq_getElem?_getD, List.getElem?_replicate]; split <;> rfl⟩ ?_
 rintro ⟨i, S, cy⟩ ξ2 w3 ⟨hi, hE, hbk, hSl, hSL, hcy, hN, hz⟩
 simp only at hi hbk hSl hSL hcy hN hz
 show CW _ _ _ _ (over [(22, .int .i64 (i : Int)), (6, .int .u64 (cy : Int))] _) w3
 have hya := hxa.lim.getD i
 have hyb := hxb.lim.getD i
 repeat' (first|refine aj rfl ?_|refine aa ?_|refine ak ?_|refine ai rfl ?_|refine ah ?_|refine bc rfl ?_|refine bK rfl rfl (by omega) (by omega) ?_|refine aQ rfl (fun hc => ?_) (fun hc => ?_)|refine ay ?_|refine aT ?_|refine aO ?_|refine aU ?_|refine aC ?_)
 ·refine bn (late := []) (plan := [(0, none), (1, none), (2, none), (3, none), (4, none), (5, none), (6, none), (7, none), (8, none), (9, none), (10, none), (11, none), (12, none), (13, none)]) (fun w' => Ex w1 w') bD (by kernel_rfl) hE.drew ?_
  repeat' (first|(refine az rfl rfl (hxa.sl.plain (by simp; omega)) (by omega) ?_)|(refine az rfl rfl (hxb.sl.plain (by simp; omega)) (by omega) ?_)|refine bI rfl (fun _ h => hxa.sl.ext h) (by omega) ?_|refine bI rfl (fun _ h => hxb.sl.ext h) (by omega) ?_|refine iw rfl (by assumption) ?_|refine fc rfl rfl (by omega) ?_|refine dR rfl ?_|refine ez rfl rfl ?_|refine az rfl rfl ⟨_, _, rfl⟩ (by omega) ?_|refine d4 rfl rfl hbk.drew (by omega) (fun w4 hc4 hb4 => tvv ?_)|refine aj rfl ?_|refine aa ?_|refine ak ?_|refine ai rfl ?_|refine ah ?_|refine aV rfl rfl (by omega) (by omega) ?_|refine aJ ?_)
  refine ⟨⟨(i + 1, S.set i ((cy + (xa.getD i 0 + xb.getD i 0)) % 4294967296), (cy + (xa.getD i 0 + xb.getD i 0)) / 4294967296), ⟨by simp only; omega, hE.drew.chg hc4 l2, hb4, by simp [hSl], hSL.set (Nat.mod_lt _ (by decide)), by simp only; omega, ?_, ?_⟩, by simp only; omega, rfl, rfl, trivial⟩, (by (repeat (first|exact aG _ _ _|refine aB rfl ?_|refine ax rfl ?_|refine av rfl ?_|refine aw rfl ?_)))⟩
  ·have := lZ (a := xa.getD i 0) (b := xb.getD i 0) (show i < S.length by omega) (hz i (Nat.le_refl _)) hN
   simp only
   rw [this, bM, bM, Nat.add_mul]
   omega
  ·intro k hk
   simp only at hk ⊢
   rw [cG (by omega), hz k (by omega)]
 ·obtain rfl : i = xb.length := by omega
  refine aW (ι := Nat × List Nat × Nat) [6, 8, 51, 52, 53, 54, 55, 56, 57, 58, 59, 60, 61, 62, 63, 64, 65, 66, 67, 68, 69, 70, 71, 72, 73, 74] (fun s => [(51, .int .i64 (s.1 : Int)), (6, .int .u64 (s.2.2 : Int))])
   (fun s w' => xb.length + s.1 ≤ xa.length ∧ Ex w1 w' ∧ Blk w' g 85 (limbsL s.2.1) ∧ s.2.1.length = xa.length + 1 ∧ Lim s.2.1 ∧ s.2.2 ≤ 1 ∧ natOf s.2.1 + s.2.2 * 4294967296 ^ (xb.length + s.1) = natOf (xa.take (xb.length + s.1)) + natOf xb ∧ ∀ j, xb.length + s.1 ≤ j → s.2.1.getD j 0 = 0) (fun s => xa.length - s.1)
   (0, S, cy) ⟨rfl, rfl, trivial⟩ ⟨by simpa using hle, hE, hbk, hSl, hSL, hcy, by rw [bS (Nat.le_refl _)] at hN; exact hN, hz⟩ ?_
  clear hbk hSl hSL hcy hN hz hE
  rintro ⟨i, S, cy⟩ ξ3 w3 ⟨hi, hE, hbk, hSl, hSL, hcy, hN, hz⟩
  simp only at hi hbk hSl hSL hcy hN hz
  show CW _ _ _ _ (over [(51, .int .i64 (i : Int)), (6, .int .u64 (cy : Int))] _) w3
  have hya := hxa.lim.getD (xb.length + i)
  have hxa3 := hxa.ext hE
  repeat' (first|refine dM (m := xb.length) (m' := i) rfl rfl (by omega) ?_|(refine az (j := xb.length + i) rfl rfl (hxa.sl.plain (by simp; omega)) (by omega) ?_)|refine bI rfl hxa3.sl (by omega) ?_|refine iw rfl (by assumption) ?_|refine fc rfl rfl (by omega) ?_|refine dR rfl ?_|refine ez rfl rfl ?_|refine az (j := xb.length + i) rfl rfl ⟨_, _, rfl⟩ (by omega) ?_|refine az (j := xa.length) rfl rfl ⟨_, _, rfl⟩ (by omega) ?_|refine d4 rfl rfl hbk (by omega) (fun w4 hc4 hb4 => tvv ?_)|refine aj rfl ?_|refine aa ?_|refine ak ?_|refine ai rfl ?_|refine ah ?_|refine bc rfl ?_|refine aV rfl rfl (by omega) (by omega) ?_|refine aQ rfl (fun hc => ?_) (fun hc => ?_)|refine ay ?_|refine aT ?_|refine aO ?_|refine aU ?_|refine aJ ?_|refine aC ?_)
  ·refine ⟨⟨(i + 1, S.set (xb.length + i) ((cy + xa.getD (xb.length + i) 0) % 4294967296), (cy + xa.getD (xb.length + i) 0) / 4294967296), ⟨by simp only; omega, hE.chg hc4 l2, hb4, by simp [hSl], hSL.set (Nat.mod_lt _ (by decide)), by simp only; omega, ?_, ?_⟩, by simp only; omega, rfl, rfl, trivial⟩, (by (repeat (first|exact aG _ _ _|refine aB rfl ?_|refine ax rfl ?_|refine av rfl ?_|refine aw rfl ?_)))⟩
   ·have := lZ (a := xa.getD (xb.length + i) 0) (b := 0) (show xb.length + i < S.length by omega) (hz _ (Nat.le_refl _)) hN
    rw [Nat.add_zero] at this
    simp only
    rw [← Nat.add_assoc, this, bM xa]
    omega
   ·intro k hk
    simp only at hk ⊢
    rw [cG (by omega), hz k (by omega)]
  ·have hi2 : xb.length + i = xa.length := by omega
   rw [hi2, bS (Nat.le_refl _), hsum] at hN
   rw [Nat.mod_eq_of_lt (by omega)] at hb4
   have hL := Limbs.of_blk (c := xa.length + 1) hb4 (by simp [hSl]) (hSL.set (by omega)) (by simp [hSl]; omega)
   have hcall := cw hL
   rw [List.length_set, hSl] at hcall
   have hset := cS (l := S) (k := xa.length) (v := cy) (by omega)
   rw [hz xa.length (by omega), Nat.zero_mul, Nat.add_zero, hN] at hset
   refine au hcall rfl ?_
   rintro v w5 ⟨rfl, hE5⟩
   refine tvv ?_
   repeat' (first|refine aj rfl ?_|refine aa ?_|refine ah ?_|refine aK ?_)
   exact bo rfl (rt rfl) ⟨trimL (S.set xa.length cy), by rw [bh, hset], bA _, _, _, rfl, hL.trim.ext hE5, fun ad e => by cases e; exact l2, (hE.chg hc4 l2).trans hE5⟩
theorem iC {la lb : List Nat} {a b : Option Addr} {c d : Nat} {w : World} (ha : Limbs w a c la) (hb : Limbs w b d lb) (hab : natOf lb ≤ natOf la) (cb : Canon lb) :
  CallsR Tryz.prog 162 #[.slice a la.length c, .slice b lb.length d] w fun v w' => ∃ ls, natOf ls = natOf la - natOf lb ∧ Canon ls ∧ RetN w ls v w' := by
 have hll : lb.length ≤ la.length := cR cb (Nat.lt_of_le_of_lt hab (bQ ha.lim))
 have hlen := ha.len
 refine aE (args := [_, _]) Tryz.func162 rfl rfl ?_
 repeat' (first|refine fT rfl rfl (by omega) (by omega) (fun g w2 hn2 => tvv ?_)|refine aj rfl ?_|refine aa ?_|refine ak ?_|refine ai rfl ?_|refine ah ?_|refine bc rfl ?_|refine ay ?_)
 have l2 := hn2.lo
 refine aW (ι := Nat × List Nat × Nat) [6, 7, 8, 14, 15, 16, 17, 18, 19, 20, 21, 22, 23, 24, 25, 26, 27, 28, 29, 30, 31, 32, 33, 34, 35, 36, 37, 38, 39, 40, 41, 42] (fun s => [(14, .int .i64 (s.1 : Int)), (6, .int .u64 (s.2.2 : Int))])
  (fun s w' => s.1 ≤ la.length ∧ Ex w w' ∧ Blk w' g 85 (limbsL s.2.1) ∧ s.2.1.length = la.length ∧ Lim s.2.1 ∧ s.2.2 ≤ 1 ∧ natOf s.2.1 + natOf (lb.take s.1) = natOf (la.take s.1) + s.2.2 * 4294967296 ^ s.1 ∧ ∀ j, s.1 ≤ j → s.2.1.getD j 0 = 0) (fun s => la.length - s.1)
  (0, List.replicate la.length 0, 0) ⟨rfl, rfl, trivial⟩ ⟨by simp, hn2.ex, hn2.blk, by simp, Lim.zeros _, by simp, by simp [dl, natOf], fun j _ => by simp [List.getD_eq_getElem?_getD, List.getElem?_replicate]; split <;> rfl⟩ ?_
 rintro ⟨i, S, br⟩ ξ2 w3 ⟨hi, hE, hbk, hSl, hSL, hbr, hN, hz⟩
 simp only at hi hbk hSl hSL hbr hN hz
 show CW _ _ _ _ (over [(14, .int .i64 (i : Int)), (6, .int .u64 (br : Int))] _) w3
 have hxa := ha.lim.getD i
 have hxb := hb.lim.getD i
 have zb : lb.length ≤ i → lb.getD i 0 = 0 := fun h => by rw [List.getD_eq_getElem?_getD, List.getElem?_eq_none h]; rfl
 have ha3 := ha.ext hE
 have hb3 := hb.ext hE
 have fin : ∀ (v br' : Nat) (w4 : World), i < la.length → (lb.getD i 0 + br ≤ la.getD i 0 ∧ v = la.getD i 0 - (lb.getD i 0 + br) ∧ br' = 0 ∨ la.getD i 0 < lb.getD i 0 + br ∧ v = 4294967296 + la.getD i 0 - (lb.getD i 0 + br) ∧ br' = 1) → Chg g w3 w4 → Blk w4 g 85 (limbsL (S.set i v)) →
   (i + 1 ≤ la.length ∧ Ex w w4 ∧ Blk w4 g 85 (limbsL (S.set i v)) ∧ (S.set i v).length = la.length ∧ Lim (S.set i v) ∧ br' ≤ 1 ∧ natOf (S.set i v) + natOf (lb.take (i + 1)) = natOf (la.take (i + 1)) + br' * 4294967296 ^ (i + 1) ∧ ∀ j, i + 1 ≤ j → (S.set i v).getD j 0 = 0) := by
  intro v br' w4 hii hv hc hb'
  refine ⟨by omega, hE.chg hc l2, hb', by simp [hSl], hSL.set (by omega), by omega, ?_, fun j hj => by rw [cG (by omega)]; exact hz j (by omega)⟩
  rw [bM, bM]
  have hst := tU (a := la.getD i 0) (x := lb.getD i 0) (show i < S.length by omega) (hz i (Nat.le_refl _)) hN
  rcases hv with ⟨h1, rfl, rfl⟩ | ⟨h1, rfl, rfl⟩
  ·rw [hst.1 h1, Nat.zero_mul]; rfl
  ·rw [hst.2 (by omega)]
 repeat' (first|(refine az rfl rfl (ha3.sl.plain (by simp; omega)) (by omega) ?_)|refine bI rfl ha3.sl (by omega) ?_|(refine az rfl rfl (hb3.sl.plain (by simp; omega)) (by omega) ?_)|refine bI rfl hb3.sl (by omega) ?_|refine iw rfl (by assumption) ?_|refine qG rfl rfl (by omega) ?_|refine dR rfl ?_|refine dP (j := 63) rfl rfl (.inl rfl) ?_|refine az rfl rfl ⟨_, _, rfl⟩ (by omega) ?_|refine d4 rfl rfl hbk (by omega) (fun w4 hc4 hb4 => tvv ?_)|refine aj rfl ?_|refine aa ?_|refine ak ?_|refine ai rfl ?_|refine ah ?_|refine bc rfl ?_|refine aV rfl rfl (by omega) (by omega) ?_|refine aQ rfl (fun hc => ?_) (fun hc => ?_)|refine ay ?_|refine aT ?_|refine aO ?_|refine aU ?_|refine aJ ?_|refine aC ?_)
 ·rw [Nat.shiftRight_eq_div_pow]
  exact ⟨⟨(i + 1, _, _), fin _ _ w4 (by omega) (by dsimp only; omega) hc4 hb4, by simp only; omega, rfl, rfl, trivial⟩, (by (repeat (first|exact aG _ _ _|refine aB rfl ?_|refine ax rfl ?_|refine av rfl ?_|refine aw rfl ?_)))⟩
 ·rw [Nat.shiftRight_eq_div_pow]
  have hzb := zb (by omega)
  exact ⟨⟨(i + 1, _, _), fin _ _ w4 (by omega) (by dsimp only; omega) hc4 hb4, by simp only; omega, rfl, rfl, trivial⟩, (by (repeat (first|exact aG _ _ _|refine aB rfl ?_|refine ax rfl ?_|refine av rfl ?_|refine aw rfl ?_)))⟩
 ·have hi2 : i = la.length := by omega
  rw [bS (by omega), bS (by omega)] at hN
  have hlt : natOf S < 4294967296 ^ i := by rw [hi2, ← hSl]; exact bQ hSL
  have hbr0 : br = 0 := by
   rcases Nat.eq_zero_or_pos br with h | h
   ·exact h
   ·have : br = 1 := by omega
    rw [this, Nat.one_mul] at hN
    omega
  rw [hbr0, Nat.zero_mul] at hN
  have hL := Limbs.of_blk (c := la.length) hbk (by omega) hSL (by omega)
  have hcall := cw hL
  rw [hSl] at hcall
  refine au hcall rfl ?_
  rintro v w5 ⟨rfl, hE5⟩
  refine tvv ?_
  repeat' (first|refine aj rfl ?_|refine aa ?_|refine ah ?_|refine aK ?_)
  exact bo rfl (rt rfl) ⟨trimL S, by rw [bh]; omega, bA _, _, _, rfl, hL.trim.ext hE5, fun ad e => by cases e; exact l2, hE.trans hE5⟩
theorem fB {k : Nat} {v : Value} {x : Int} {w : World} (h1 : IntK k w v x) : CallsR Tryz.prog 17 #[v] w fun r w' => r = .int .i64 x.sign ∧ Ex w w' := by
 obtain ⟨n1, a1, c1, l1, rfl, hL1, rfl, _⟩ := h1
 refine aE (args := [_]) Tryz.func17 rfl rfl ?_
 repeat' (first|refine bC rfl (fun g1 w1 hn1 => tvv ?_)|refine aP rfl hn1.blk rfl ?_|refine aj rfl ?_|refine aa ?_|refine ak ?_|refine ai rfl ?_|refine ah ?_|refine aM rfl ?_|refine ay ?_)
 refine au (cw (hL1.ext hn1.ex)) rfl ?_
 rintro v w2 ⟨rfl, hE2⟩
 refine tvv ?_
 have hb2 := hn1.blk.ext hE2
 have hz : (trimL l1).length = 0 ↔ natOf l1 = 0 := by
  rw [← cI]
  exact List.length_eq_zero_iff
 repeat' (first|refine aP rfl hb2 rfl ?_|refine aj rfl ?_|refine aa ?_|refine ak ?_|refine ai rfl ?_|refine ah ?_|refine bc rfl ?_|refine aM rfl ?_|refine aQ rfl (fun hc => ?_) (fun hc => ?_)|refine gT rfl (fun hc => ?_) (fun hc => ?_)|refine aJ ?_|refine aK ?_|refine bf ?_|refine cj ?_|refine aC ?_)
 ·refine bo rfl (rt rfl) ⟨?_, hn1.ex.trans hE2⟩
  have : natOf l1 = 0 := hz.1 (by omega)
  rw [this]; cases n1 <;> rfl
 ·refine bo rfl (rt rfl) ⟨?_, hn1.ex.trans hE2⟩
  have : natOf l1 ≠ 0 := fun e => by have := hz.2 e; omega
  subst_vars
  show Value.int .i64 (-1) = _
  rw [show (sgn true (natOf l1)).sign = -1 by unfold sgn; rw [if_pos rfl]; exact Int.sign_eq_neg_one_of_neg (by omega)]
 ·refine bo rfl (rt rfl) ⟨?_, hn1.ex.trans hE2⟩
  have : natOf l1 ≠ 0 := fun e => by have := hz.2 e; omega
  subst_vars
  show Value.int .i64 1 = _
  rw [show (sgn false (natOf l1)).sign = 1 by unfold sgn; rw [if_neg (by decide)]; exact Int.sign_eq_one_of_pos (by omega)]
theorem mf {n1 n2 : Bool} {la lb : List Nat} {a b : Option Addr} {c d : Nat} {w : World} (ha : Limbs w a c la) (hb : Limbs w b d lb) (ca : Canon la) (cb : Canon lb) (hla : la.length < 17592186044416) (hlb : lb.length < 17592186044416) :
  CallsR Tryz.prog 163 #[.bool n1, .slice a la.length c, .bool n2, .slice b lb.length d] w (RetZ w (sgn n1 (natOf la) + sgn n2 (natOf lb))) := by
 refine aE (args := [_, _, _, _]) Tryz.func163 rfl rfl ?_
 refine ak ?_
 refine ai rfl ?_
 refine aH (fun g w1 hn1 => tvv ?_)
 have hb1 : Blk w1 g 34 (intL false none 0 0) := hn1.blk
 have l1 := hn1.lo
 have l1' := hn1.hi
 have ha1 := ha.ext hn1.ex
 have hbb1 := hb.ext hn1.ex
 have s1 := hn1.ex.size
 have fin : ∀ {nn : Bool} {m : Nat} {wa wb wc : World} {v : Value}, Ex w1 wa → IntC w1.heap.size wb v (sgn nn m) → Ex wa wb → Chg g wb wc → sgn nn m = sgn n1 (natOf la) + sgn n2 (natOf lb) → RetZ w (sgn n1 (natOf la) + sgn n2 (natOf lb)) v wc := by
  intro nn m wa wb wc v hEa hI hEb hc he
  refine ⟨?_, ((hn1.ex.trans hEa).trans hEb).chg hc l1⟩
  rw [← he]
  exact (hI.chg hc (by omega)).mono s1
 repeat' (first|refine aj rfl ?_|refine aa ?_|refine ak ?_|refine ai rfl ?_|refine ah ?_|refine qv rfl rfl ?_|refine aQ rfl (fun hc => ?_) (fun hc => ?_)|refine ay ?_)
 ·refine au (kF ha1 hbb1 hla hlb) rfl ?_
  rintro v w2 ⟨ls, hv, hcn, a2, c2, rfl, hL2, hf2, hE2⟩
  refine tvv ?_
  refine au (cQ hL2 hcn hf2 _) rfl ?_
  rintro v w3 ⟨hI, hE3⟩
  obtain ⟨vs, rfl, hvl, hvo⟩ := hI.out
  refine tvv ?_
  refine aF (n := 2) rfl rfl hvl hvo (hb1.ext (hE2.trans hE3)) rfl (fun w4 hc4 hb4 => tvv ?_)
  repeat' (first|refine aa ?_|refine ah ?_|refine aK ?_|refine bf ?_|refine cj ?_)
  refine bo rfl (rc rfl hvl hb4) (fin hE2 hI hE3 hc4 ?_)
  rw [hv]; subst_vars; unfold sgn; split <;> omega
 ·refine au (d7 ha1 hbb1 ca cb) rfl ?_
  rintro v w2 ⟨rfl, hE2⟩
  refine tvv ?_
  have hge := kZ (m := natOf la) (n := natOf lb)
  repeat' (first|refine aj rfl ?_|refine aa ?_|refine ak ?_|refine ai rfl ?_|refine ah ?_|refine aQ rfl (fun hc => ?_) (fun hc => ?_)|refine aJ ?_|refine aC ?_)
  ·refine au (iC (ha1.ext hE2) (hbb1.ext hE2) (by omega) cb) rfl ?_
   rintro v w3 ⟨ls, hv, hcn, a3, c3, rfl, hL3, hf3, hE3⟩
   refine tvv ?_
   refine au (cQ hL3 hcn hf3 _) rfl ?_
   rintro v w4 ⟨hI, hE4⟩
   obtain ⟨vs, rfl, hvl, hvo⟩ := hI.out
   refine tvv ?_
   refine aF (n := 2) rfl rfl hvl hvo (hb1.ext ((hE2.trans hE3).trans hE4)) rfl (fun w5 hc5 hb5 => tvv ?_)
   repeat' (first|refine aa ?_|refine ah ?_|refine aK ?_|refine bf ?_|refine cj ?_)
   refine bo rfl (rc rfl hvl hb5) (fin (hE2.trans hE3) (hI.mono hE2.size) hE4 hc5 ?_)
   rw [hv]; unfold sgn; cases n1 <;> cases n2 <;> simp at * <;> omega
  ·refine au (iC (hbb1.ext hE2) (ha1.ext hE2) (by omega) ca) rfl ?_
   rintro v w3 ⟨ls, hv, hcn, a3, c3, rfl, hL3, hf3, hE3⟩
   refine tvv ?_
   refine au (cQ hL3 hcn hf3 _) rfl ?_
   rintro v w4 ⟨hI, hE4⟩
   obtain ⟨vs, rfl, hvl, hvo⟩ := hI.out
   refine tvv ?_
   refine aF (n := 2) rfl rfl hvl hvo (hb1.ext ((hE2.trans hE3).trans hE4)) rfl (fun w5 hc5 hb5 => tvv ?_)
   repeat' (first|refine aa ?_|refine ah ?_|refine aK ?_)
   refine bo rfl (rc rfl hvl hb5) (fin (hE2.trans hE3) (hI.mono hE2.size) hE4 hc5 ?_)
   rw [hv]; unfold sgn; cases n1 <;> cases n2 <;> simp at * <;> omega
theorem cx {p q : Nat} {v1 v2 : Value} {x y : Int} {w : World} (h1 : IntK p w v1 x) (h2 : IntK q w v2 y) (hp : p < 17592186044416) (hq : q < 17592186044416) :
  CallsR Tryz.prog 148 #[v1, v2] w (RetZ w (x - y)) := by
 obtain ⟨n1, a1, c1, l1, rfl, hL1, rfl, hp1⟩ := h1
 obtain ⟨n2, a2, c2, l2, rfl, hL2, rfl, hq1⟩ := h2
 have tl1 := cX l1
 have tl2 := cX l2
 refine aE (args := [_, _]) Tryz.func148 rfl rfl ?_
 refine ak ?_
 refine ai rfl ?_
 refine bC rfl (fun g2 w2 hn2 => tvv ?_)
 refine bC rfl (fun g3 w3 hn3 => tvv ?_)
 refine aH (fun g4 w4 hn4 => tvv ?_)
 have hb2 := (hn2.blk.ext hn3.ex).ext hn4.ex
 have hb3 := hn3.blk.ext hn4.ex
 have hb4 : Blk w4 g4 34 (intL false none 0 0) := hn4.blk
 have hE := (hn2.ex.trans hn3.ex).trans hn4.ex
 have l4 := hn4.lo
 have l4' := hn4.hi
 have s3 := (hn2.ex.trans hn3.ex).size
 have s4 := hE.size
 repeat' (first|refine aa ?_|refine ak ?_|refine ah ?_)
 have hE4d : Ex w4 w4.drew := (Ex.refl w4).drew
 refine bn (late := [12]) (plan := [(0, none), (1, none), (2, none), (3, none), (5, none), (6, none), (7, none), (8, none), (9, none), (4, some true), (10, some true), (11, some true), (12, some false)]) (fun w' => Ex w4 w') bD (by kernel_rfl) hE4d ?_
 repeat' (first|refine wL rfl ?_|refine aP rfl (fun _ h => hb2.ext h) rfl ?_|refine aP rfl (fun _ h => hb3.ext h) rfl ?_|refine aM rfl ?_)
 refine au (cw (hL1.ext (hE.trans hE4d))) rfl ?_
 rintro v w6 ⟨rfl, hE6⟩
 refine ⟨fun _ h => h.trans hE6, ?_⟩
 skip
 refine au (cw (hL2.ext ((hE.trans hE4d).trans hE6))) rfl ?_
 rintro v w7 ⟨rfl, hE7⟩
 refine ⟨fun _ h => h.trans hE7, ?_⟩
 have hE47 : Ex w4 w7 := (hE4d.trans hE6).trans hE7
 skip
 refine au (mf ((hL1.ext (hE.trans hE47)).trim) ((hL2.ext (hE.trans hE47)).trim) (bA _) (bA _) (by omega) (by omega)) rfl ?_
 rintro v w8 ⟨hI8, hE8⟩
 obtain ⟨vs8, rfl, hvl8, hvo8⟩ := hI8.out
 refine ⟨fun _ h => h.trans hE8, ?_⟩
 refine aF (n := 2) rfl rfl hvl8 hvo8 (hb4.ext (hE47.trans hE8)) rfl (fun w9 hc9 hb9 => ⟨fun h => (nomatch h), ?_⟩)
 repeat' (first|refine aa ?_|refine ah ?_|refine aK ?_)
 have s7 := hE47.size
 refine bo rfl (rc rfl hvl8 hb9) ⟨?_, (hE.trans (hE47.trans hE8)).chg hc9 (by omega)⟩
 have hr := (hI8.chg hc9 (by omega)).mono (lo' := w.heap.size) (by omega)
 rw [bh, bh] at hr
 have e : sgn (!n2) (natOf l2) = -sgn n2 (natOf l2) := by unfold sgn; cases n2 <;> simp
 rw [e, ← Int.sub_eq_add_neg] at hr
 exact hr
end Go.Proofs.YtpfhfldehaiokaaGreat
namespace Go.W
section
variable {P : Program} {S : World → Prop} {ops : List Oper} {K : Env → World → Prop} {rest : List (Oper × Option Bool)} {ρ : Env} {w : World} {b : Option Bool} {kf : Bool} {d : Nat} {dst : Option Nat} {T T' : TypeId} {pos : String} {af : Array Edge}
theorem fC {op : BinOp} {t : TypeId} {x y : Operand} {a a' : Option Addr} {l c l' c' : Nat} (w : World) : (eqGuard op t x y (.slice a l c) (.slice a' l' c')).run P w = .ok () w := by
 unfold eqGuard; cases op <;> rfl
theorem j9 {T0 E : TypeId} (h : P.underlying T0 = some (.slice E)) (n : Nat) (a : Option Addr) (l c : Nat) (w : World) : (Op.equalIn (n + 1) T0 (.slice a l c) (.slice none 0 0)).run P w = .ok a.isNone w := by
 cases a <;> simp [Op.equalIn, run_underlying h]
theorem iD {T0 E : TypeId} (h : P.underlying T0 = some (.slice E)) (a : Option Addr) (l c : Nat) (w : World) : (Op.equal T0 (.slice a l c) (.slice none 0 0)).run P w = .ok a.isNone w := by
 unfold Op.equal
 exact j9 h 9999 a l c w
theorem jL {x y : Operand} {a : Option Addr} {l c E s z : Nat} {T'' : TypeId} [h1 : Slc P T' E s z] (hx : ev ρ x = .slice a l c) (hy : ev ρ y = .slice none 0 0) (h : RR P S ops K rest (upd ρ d (.bool a.isNone)) w) : RR P S ops K ((⟨some d, .binOp .eql T' x y T'', T, pos, af, none⟩, b) :: rest) ρ w :=
 ci rfl (fun w' => by
  simp only [execOp, hx, hy]
  rw [Sem.run_bind_ok (v := .bool a.isNone) (w' := w')]
  ·rfl
  ·rw [Sem.run_bind_ok (fC w')]
   show (do pure (Value.bool (← Op.equal T' (.slice a l c) (.slice none 0 0))) : Sem Value).run P w' = _
   rw [Sem.run_bind_ok (iD h1.un a l c w')]; rfl) h
theorem om {T1 E y : Nat} {z : Value} [hT : Slc P T1 E 1 y] [hz : Zro P E z] (h : ∀ g w', New w w' g E [] → (kf = true → S w → S w') ∧ RR P S ops K rest (upd ρ d (.slice (some ⟨g, 0, none⟩) 0 0)) w') :
  RR P S ops K ((⟨some d, .buildSlice T1 0 #[], T, pos, af, none⟩, some kf) :: rest) ρ w :=
 iv (E := E) (s := 1) (z := z) (cs := #[]) rfl (by simp [Instr.fill]) h
end
end Go.W
namespace Go.Proofs.YtpfhfldehaiokaaGreat
open Go.W Go.LM
theorem kG {ls : List Nat} {a : Option Addr} {c : Nat} {w : World} (h : Limbs w a c ls) : CallsR Tryz.prog 146 #[.slice a ls.length c] w (RetN w ls) := by
 have hlen := h.len
 refine aE (args := [_]) Tryz.func146 rfl rfl ?_
 cases a with
 | none =>
  have hl : ls = [] := by
   rcases Nat.eq_zero_or_pos ls.length with h0 | h0
   ·exact List.eq_nil_of_length_eq_zero h0
   ·obtain ⟨g, o, e⟩ := h.sl.plain (by simpa using h0); cases e
  subst hl
  repeat' (first|refine jL rfl rfl ?_|refine aj rfl ?_|refine aa ?_|refine ak ?_|refine ai rfl ?_|refine ah ?_|refine aA rfl ?_|refine aK ?_|refine bf ?_)
  exact bo rfl (rt rfl) ⟨none, 0, rfl, Limbs.nil _ _ _, fun ad e => (nomatch e), Ex.refl _⟩
 | some ad =>
  repeat' (first|refine jL rfl rfl ?_|refine om (fun g w1 hn1 => tvv ?_)|refine aj rfl ?_|refine aa ?_|refine ak ?_|refine ai rfl ?_|refine ah ?_|refine ao rfl ?_|refine aC ?_)
  have hs1 := h.sl.ext hn1.ex
  rcases Nat.eq_zero_or_pos ls.length with h0 | h0
  ·have hl : ls = [] := List.eq_nil_of_length_eq_zero h0
   subst hl
   refine nt rfl rfl (Nat.le_refl _) ?_
   repeat' (first|refine aj rfl ?_|refine aa ?_|refine ah ?_|refine aK ?_)
   exact bo rfl (rt rfl) ⟨some ⟨g, 0, none⟩, 0, rfl, Limbs.nil _ _ _, fun ad e => by cases e; exact hn1.lo, hn1.ex⟩
  ·refine dZ (z := .int .u32 0) (s := 1) (vs := []) (lo := w.heap.size) (news := limbsL ls) rfl rfl rfl rfl (hn1.blk.own rfl (Nat.zero_le _) hn1.lo) hs1 (h.sl.plain (by simp; omega)) (by simp) (kX (fun _ => rfl) _) (by omega) (by omega) hn1.ex.size ?_
   intro a' c' w2 ho hg hA
   refine tvv ?_
   rw [Nat.zero_add] at ho ⊢
   have hE : Ex w w2 := iu hg hn1.ex (by rintro _ ⟨⟩; exact hn1.lo)
   repeat' (first|refine aj rfl ?_|refine aa ?_|refine ah ?_|refine aK ?_)
   exact bo rfl (rt rfl) ⟨a', c', rfl, ⟨ho.sl, ho.cap, h.lim, h.len⟩, fun ad e => (ho.lo ad e).1, hE⟩
theorem kP {k : Nat} {v : Value} {x : Int} {w : World} (h1 : IntK k w v x) : CallsR Tryz.prog 125 #[v] w (RetZ w x) := by
 obtain ⟨n1, a1, c1, l1, rfl, hL1, rfl, _⟩ := h1
 refine aE (args := [_]) Tryz.func125 rfl rfl ?_
 refine ak ?_
 refine ai rfl ?_
 refine bC rfl (fun g1 w1 hn1 => tvv ?_)
 refine aH (fun g2 w2 hn2 => tvv ?_)
 have hb1 := hn1.blk.ext hn2.ex
 have hb2 : Blk w2 g2 34 (intL false none 0 0) := hn2.blk
 have hE := hn1.ex.trans hn2.ex
 have l2 := hn2.lo
 have l2' := hn2.hi
 have s1 := hn1.ex.size
 repeat' (first|refine aa ?_|refine ak ?_|refine ah ?_)
 have hEd : Ex w2 w2.drew := (Ex.refl w2).drew
 refine bn (late := [7]) (plan := [(0, none), (1, none), (2, none), (3, none), (4, some true), (5, some true), (6, some true), (7, some false)]) (fun w' => Ex w2 w') bD (by kernel_rfl) hEd ?_
 repeat' (first|refine aP rfl (fun _ h => hb1.ext h) rfl ?_|refine aM rfl ?_)
 refine au (cw (hL1.ext (hE.trans hEd))) rfl ?_
 rintro v w3 ⟨rfl, hE3⟩
 refine ⟨fun _ h => h.trans hE3, ?_⟩
 skip
 refine au (kG ((hL1.ext ((hE.trans hEd).trans hE3)).trim)) rfl ?_
 rintro v w4 ⟨a4, c4, rfl, hL4, hf4, hE4⟩
 refine ⟨fun _ h => h.trans hE4, ?_⟩
 skip
 refine au (cQ hL4 (bA _) hf4 _) rfl ?_
 rintro v w5 ⟨hI, hE5⟩
 obtain ⟨vs, rfl, hvl, hvo⟩ := hI.out
 refine ⟨fun _ h => h.trans hE5, ?_⟩
 have hE25 := ((hEd.trans hE3).trans hE4).trans hE5
 refine aF (n := 2) rfl rfl hvl hvo (hb2.ext hE25) rfl (fun w6 hc6 hb6 => ⟨fun h => (nomatch h), ?_⟩)
 repeat' (first|refine aa ?_|refine ah ?_|refine aK ?_)
 have s3 := (hEd.trans hE3).size
 refine bo rfl (rc rfl hvl hb6) ⟨?_, (hE.trans hE25).chg hc6 (by omega)⟩
 have hr := (hI.chg hc6 (by omega)).mono (lo' := w.heap.size) (by omega)
 rw [bh] at hr
 exact hr
theorem vR {n1 n2 : Bool} {m n : Nat} (h : (sgn n1 m).sign = (sgn n2 n).sign) : (sgn n1 m).sign * cmpZ m n = (sgn n1 m - sgn n2 n).sign := by
 have pos : ∀ k : Nat, 0 < k → ((k : Int)).sign = 1 := fun k hk => Int.sign_eq_one_of_pos (by omega)
 have neg : ∀ k : Nat, 0 < k → (-(k : Int)).sign = -1 := fun k hk => Int.sign_eq_neg_one_of_neg (by omega)
 rcases Nat.eq_zero_or_pos m with rfl | hm
 ·have h0 : ∀ b, sgn b 0 = 0 := fun b => by unfold sgn; cases b <;> rfl
  rw [h0] at h ⊢
  have : sgn n2 n = 0 := Int.sign_eq_zero_iff_zero.1 h.symm
  rw [this]; simp
 ·rcases Nat.eq_zero_or_pos n with rfl | hn
  ·have h0 : ∀ b, sgn b 0 = 0 := fun b => by unfold sgn; cases b <;> rfl
   rw [h0] at h
   have : sgn n1 m = 0 := Int.sign_eq_zero_iff_zero.1 h
   exfalso
   unfold sgn at this; split at this <;> omega
  ·cases n1 <;> cases n2 <;> simp only [sgn, if_true, Bool.false_eq_true, if_false] at h ⊢
   ·rw [pos m hm]
    unfold cmpZ
    split
    ·rw [Int.sign_eq_neg_one_of_neg (by omega)]; rfl
    ·split
     ·rw [Int.sign_eq_one_of_pos (by omega)]; rfl
     ·rw [show (m : Int) - n = 0 by omega]; rfl
   ·rw [pos m hm, neg n hn] at h; omega
   ·rw [neg m hm, pos n hn] at h; omega
   ·rw [neg m hm]
    unfold cmpZ
    split
    ·rw [Int.sign_eq_one_of_pos (by omega)]; rfl
    ·split
     ·rw [Int.sign_eq_neg_one_of_neg (by omega)]; rfl
     ·rw [show -(m : Int) - -(n : Int) = 0 by omega]; rfl
theorem rI {x y : Int} (h : x.sign < y.sign) : (x - y).sign = -1 := by
 refine Int.sign_eq_neg_one_of_neg ?_
 rcases Int.lt_trichotomy x 0 with hx | hx | hx
 ·rcases Int.lt_trichotomy y 0 with hy | hy | hy
  ·rw [Int.sign_eq_neg_one_of_neg hx, Int.sign_eq_neg_one_of_neg hy] at h; omega
  ·omega
  ·omega
 ·rw [hx, Int.sign_zero] at h
  have := Int.sign_pos_iff.1 h; omega
 ·rw [Int.sign_eq_one_of_pos hx] at h
  have : y.sign ≤ 1 := by rcases Int.sign_trichotomy y with e | e | e <;> omega
  omega
theorem nF {p q : Nat} {v1 v2 : Value} {x y : Int} {w : World} (h1 : IntK p w v1 x) (h2 : IntK q w v2 y) :
  CallsR Tryz.prog 49 #[v1, v2] w fun r w' => r = .int .i64 (x - y).sign ∧ Ex w w' := by
 have h1s := h1
 have h2s := h2
 obtain ⟨n1, a1, c1, l1, rfl, hL1, rfl, hp1⟩ := h1
 obtain ⟨n2, a2, c2, l2, rfl, hL2, rfl, hq1⟩ := h2
 refine aE (args := [_, _]) Tryz.func49 rfl rfl ?_
 refine ak ?_
 refine ai rfl ?_
 refine bC rfl (fun g2 w2 hn2 => tvv ?_)
 refine bC rfl (fun g3 w3 hn3 => tvv ?_)
 have hb2 := hn2.blk.ext hn3.ex
 have hb3 := hn3.blk
 have hE := hn2.ex.trans hn3.ex
 repeat' (first|refine aj rfl ?_|refine aa ?_|refine ak ?_|refine ah ?_)
 have hEd : Ex w3 w3.drew := (Ex.refl w3).drew
 refine bn (late := []) (plan := [(0, none), (2, none), (1, some true), (3, some true), (4, none), (5, none)]) (fun w' => Ex w3 w') bD (by kernel_rfl) hEd ?_
 repeat' (first|refine aY rfl (fun _ h => hb2.ext h) rfl ?_|refine aY rfl (fun _ h => hb3.ext h) rfl ?_)
 refine au (fB (h1s.ext (hE.trans hEd))) rfl ?_
 rintro v w4 ⟨rfl, hE4⟩
 refine ⟨fun _ h => h.trans hE4, ?_⟩
 skip
 refine au (fB (h2s.ext ((hE.trans hEd).trans hE4))) rfl ?_
 rintro v w5 ⟨rfl, hE5⟩
 refine ⟨fun _ h => h.trans hE5, ?_⟩
 have hE35 := (hEd.trans hE4).trans hE5
 repeat' (first|refine aj rfl ?_|refine aa ?_|refine ak ?_|refine ai rfl ?_|refine ah ?_|refine aQ rfl (fun hc => ?_) (fun hc => ?_)|refine ay ?_|refine aJ ?_|refine aK ?_|refine bf ?_|refine cj ?_|refine aC ?_)
 ·exact bo rfl (rt rfl) ⟨congrArg (Value.int .i64) (rI (by assumption)).symm, hE.trans hE35⟩
 ·refine bo rfl (rt rfl) ⟨?_, hE.trans hE35⟩
  have : (sgn n2 (natOf l2) - sgn n1 (natOf l1)).sign = -1 := rI (by assumption)
  show Value.int .i64 1 = _
  rw [show sgn n1 (natOf l1) - sgn n2 (natOf l2) = -(sgn n2 (natOf l2) - sgn n1 (natOf l1)) by omega, Int.sign_neg, this]; rfl
 ·have heq : (sgn n1 (natOf l1)).sign = (sgn n2 (natOf l2)).sign := by omega
  have hE5d : Ex w3 w5.drew := hE35.drew
  refine bn (late := []) (plan := [(0, none), (1, none), (2, none), (4, none), (5, none), (3, some true), (6, some true), (7, some true), (8, none), (9, none)]) (fun w' => Ex w3 w') bD (by kernel_rfl) hE5d ?_
  repeat' (first|refine aP rfl (fun _ h => hb2.ext h) rfl ?_|refine aP rfl (fun _ h => hb3.ext h) rfl ?_|refine aj rfl ?_|refine aM rfl ?_)
  refine au (cw (hL1.ext (hE.trans hE5d))) rfl ?_
  rintro v w6 ⟨rfl, hE6⟩
  refine ⟨fun _ h => h.trans hE6, ?_⟩
  skip
  refine au (cw (hL2.ext ((hE.trans hE5d).trans hE6))) rfl ?_
  rintro v w7 ⟨rfl, hE7⟩
  refine ⟨fun _ h => h.trans hE7, ?_⟩
  have hE37 := (hE5d.trans hE6).trans hE7
  skip
  refine au (d7 ((hL1.ext (hE.trans hE37)).trim) ((hL2.ext (hE.trans hE37)).trim) (bA _) (bA _)) rfl ?_
  rintro v w8 ⟨rfl, hE8⟩
  refine ⟨fun _ h => h.trans hE8, ?_⟩
  have hc := vR heq
  have hb : -1 ≤ (sgn n1 (natOf l1) - sgn n2 (natOf l2)).sign ∧ (sgn n1 (natOf l1) - sgn n2 (natOf l2)).sign ≤ 1 := by
   rcases Int.sign_trichotomy (sgn n1 (natOf l1) - sgn n2 (natOf l2)) with e | e | e <;> omega
  rw [bh, bh]
  repeat' (first|(refine cP rfl rfl (by rw [hc]; omega) (by rw [hc]; omega) ?_)|refine aj rfl ?_|refine aa ?_|refine ah ?_|refine aK ?_)
  exact bo rfl (rt rfl) ⟨congrArg (Value.int .i64) hc, (hE.trans hE37).trans hE8⟩
theorem cM {p q : Nat} {v1 v2 : Value} {x y : Int} {w : World} (h1 : IntK p w v1 x) (h2 : IntK q w v2 y) (hkl : p + q ≤ 17592186044416) :
  CallsR Tryz.prog 18 #[v1, v2] w (RetZ w (x * y)) := by
 obtain ⟨n1, a1, c1, l1, rfl, hL1, rfl, hp1⟩ := h1
 obtain ⟨n2, a2, c2, l2, rfl, hL2, rfl, hq1⟩ := h2
 have tl1 := cX l1
 have tl2 := cX l2
 refine aE (args := [_, _]) Tryz.func18 rfl rfl ?_
 refine ak ?_
 refine ai rfl ?_
 refine bC rfl (fun g2 w2 hn2 => tvv ?_)
 refine bC rfl (fun g3 w3 hn3 => tvv ?_)
 refine aH (fun g4 w4 hn4 => tvv ?_)
 have hb2 := (hn2.blk.ext hn3.ex).ext hn4.ex
 have hb3 := hn3.blk.ext hn4.ex
 have hb4 : Blk w4 g4 34 (intL false none 0 0) := hn4.blk
 have hE := (hn2.ex.trans hn3.ex).trans hn4.ex
 have l4 := hn4.lo
 have l4' := hn4.hi
 have s3 := (hn2.ex.trans hn3.ex).size
 repeat' (first|refine aa ?_|refine ak ?_|refine ah ?_)
 refine bn (late := [13]) (plan := [(0, none), (1, none), (2, none), (3, none), (4, none), (5, none), (6, none), (8, none), (9, none), (7, some true), (10, some true), (11, some true), (12, some true), (13, some false)]) (fun w' => Blk w' g2 34 (intL n1 a1 l1.length c1) ∧ Blk w' g3 34 (intL n2 a2 l2.length c2)) bD (by kernel_rfl) ⟨hb2.drew, hb3.drew⟩ ?_
 repeat' (first|refine aP rfl (fun _ h => h.1) rfl ?_|refine aP rfl (fun _ h => h.2) rfl ?_|refine aM rfl ?_|refine ip rfl rfl ?_)
 refine au (cw (hL1.ext hE.drew)) rfl ?_
 rintro v w5 ⟨rfl, hE5⟩
 refine ⟨fun _ h => ⟨h.1.ext hE5, h.2.ext hE5⟩, ?_⟩
 refine au (cw (hL2.ext (hE.drew.trans hE5))) rfl ?_
 rintro v w6 ⟨rfl, hE6⟩
 refine ⟨fun _ h => ⟨h.1.ext hE6, h.2.ext hE6⟩, ?_⟩
 have hE6' := (hE.drew.trans hE5).trans hE6
 refine au (kB (hL1.ext hE6').trim (hL2.ext hE6').trim (by omega)) rfl ?_
 rintro v w7 ⟨l7, hn7, hcn7, hln7, a7, c7, rfl, hL7, hf7, hE7⟩
 refine ⟨fun _ h => ⟨h.1.ext hE7, h.2.ext hE7⟩, ?_⟩
 refine au (cQ hL7 hcn7 hf7 _) rfl ?_
 rintro v w8 ⟨hI, hE8⟩
 refine ⟨fun _ h => ⟨h.1.ext hE8, h.2.ext hE8⟩, ?_⟩
 obtain ⟨neg, a', c', ls, rfl, hI'⟩ := id hI
 refine aF (n := 2) rfl rfl rfl rfl ((((hb4.drew.ext hE5).ext hE6).ext hE7).ext hE8) rfl (fun w9 hc9 hb9 => ⟨fun h => absurd h (by decide), ?_⟩)
 repeat' (first|refine aa ?_|refine ah ?_|refine aK ?_)
 have s5 := (hE5.trans hE6).size
 have s4 : w4.drew.heap.size = w4.heap.size := rfl
 refine bo rfl (rc rfl rfl hb9) ⟨?_, ((hE6'.trans hE7).trans hE8).chg hc9 (by omega)⟩
 have hr := (hI.chg hc9 (by omega)).mono (lo' := w.heap.size) (by have := hE6'.size; omega)
 rw [hn7, bh, bh] at hr
 have e : sgn (!(n1 == n2)) (natOf l1 * natOf l2) = sgn n1 (natOf l1) * sgn n2 (natOf l2) := by
  unfold sgn; cases n1 <;> cases n2 <;> simp [Int.neg_mul, Int.mul_neg]
 rwa [e] at hr
end Go.Proofs.YtpfhfldehaiokaaGreat
