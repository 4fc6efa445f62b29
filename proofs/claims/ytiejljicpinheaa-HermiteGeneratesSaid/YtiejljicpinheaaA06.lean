import Derived.Test.YtiejljicpinheaaA05
namespace Go.LM
theorem j5 {N D : Nat} (hD : 0 < D) :
  ((N : Int) / (D : Int) = ((N / D : Nat) : Int) ∧ (N : Int) % (D : Int) = ((N % D : Nat) : Int)) ∧
  ((N : Int) / (-(D : Int)) = -((N / D : Nat) : Int) ∧ (N : Int) % (-(D : Int)) = ((N % D : Nat) : Int)) ∧
  (N % D = 0 → (-(N : Int)) / (D : Int) = -((N / D : Nat) : Int) ∧ (-(N : Int)) % (D : Int) = 0 ∧ (-(N : Int)) / (-(D : Int)) = ((N / D : Nat) : Int) ∧ (-(N : Int)) % (-(D : Int)) = 0) ∧
  (N % D ≠ 0 → (-(N : Int)) / (D : Int) = -((N / D : Nat) : Int) - 1 ∧ (-(N : Int)) % (D : Int) = (D : Int) - ((N % D : Nat) : Int) ∧ (-(N : Int)) / (-(D : Int)) = ((N / D : Nat) : Int) + 1 ∧ (-(N : Int)) % (-(D : Int)) = (D : Int) - ((N % D : Nat) : Int)) := by
 have h1 := Nat.div_add_mod N D
 have h2 := Nat.mod_lt N hD
 have un : ∀ {x y q r : Int}, y ≠ 0 → 0 ≤ r → r < y.natAbs → x = y * q + r → x / y = q ∧ x % y = r := by
  intro x y q r hy h0 hr he
  have hm : x % y = r := by
   rw [he, Int.mul_add_emod_self_left]
   rcases Int.lt_or_lt_of_ne hy with h | h
   ·rw [← Int.emod_neg]; exact Int.emod_eq_of_lt h0 (by omega)
   ·exact Int.emod_eq_of_lt h0 (by omega)
  refine ⟨?_, hm⟩
  have := Int.mul_ediv_add_emod x y
  rw [hm] at this
  have h3 : y * (x / y) = y * q := by omega
  exact Int.eq_of_mul_eq_mul_left hy h3
 generalize N / D = q at *
 generalize N % D = r at *
 have hN : (N : Int) = (D : Int) * q + r := by rw [← h1]; simp
 refine ⟨un (by omega) (by omega) (by omega) hN, un (by omega) (by omega) (by omega) (by rw [hN]; grind), fun h0 => ?_, fun h0 => ?_⟩
 ·subst h0
  have a := un (x := -(N : Int)) (y := (D : Int)) (q := -(q : Int)) (r := 0) (by omega) (by omega) (by omega) (by rw [hN]; grind)
  have b := un (x := -(N : Int)) (y := -(D : Int)) (q := (q : Int)) (r := 0) (by omega) (by omega) (by omega) (by rw [hN]; grind)
  exact ⟨a.1, a.2, b.1, b.2⟩
 ·have a := un (x := -(N : Int)) (y := (D : Int)) (q := -(q : Int) - 1) (r := (D : Int) - r) (by omega) (by omega) (by omega) (by rw [hN]; grind)
  have b := un (x := -(N : Int)) (y := -(D : Int)) (q := (q : Int) + 1) (r := (D : Int) - r) (by omega) (by omega) (by omega) (by rw [hN]; grind)
  exact ⟨a.1, a.2, b.1, b.2⟩
end Go.LM
namespace Go.Proofs.Ytiejljicpinheaa
open Go.W Go.LM
set_option maxHeartbeats 2000000 in
theorem jg {la lb : List Nat} {a b : Option Addr} {c d : Nat} {w : World} (ha : Limbs w a c la) (hb : Limbs w b d lb) (hla : la.length < 17592186044416) (hlb : lb.length < 17592186044416) :
  CallsR Try.prog 73 #[.slice a la.length c, .slice b lb.length d] w fun v w' => ∃ ls, natOf ls = natOf la + natOf lb ∧ Canon ls ∧ RetN w ls v w' := by
 refine aG (args := [_, _]) Try.func73 rfl rfl ?_
 repeat' (first|refine ai rfl ?_|refine aa ?_|refine aj ?_|refine ah rfl ?_|refine ae ?_|refine aY rfl ?_)
 refine cD (ι := (List Nat × Option Addr × Nat) × List Nat × Option Addr × Nat) [0, 1, 14, 15] (fun s => [(0, .slice s.1.2.1 s.1.1.length s.1.2.2), (1, .slice s.2.2.1 s.2.1.length s.2.2.2)])
  (fun s w' => w' = w ∧ Limbs w s.1.2.1 s.1.2.2 s.1.1 ∧ Limbs w s.2.2.1 s.2.2.2 s.2.1 ∧ s.2.1.length ≤ s.1.1.length ∧ s.1.1.length < 17592186044416 ∧ natOf s.1.1 + natOf s.2.1 = natOf la + natOf lb) ?_ ?_
 ·repeat' (first|refine ai rfl ?_|refine aa ?_|refine ah rfl ?_|refine ae ?_|refine aM rfl (fun hc => ?_) (fun hc => ?_)|refine aF ?_)
  ·exact ⟨⟨((lb, b, d), la, a, c), ⟨rfl, hb, ha, by simp only; omega, hlb, Nat.add_comm _ _⟩, rfl, rfl, trivial⟩, (by (repeat (first|exact aI _ _|refine ax rfl ?_|refine av rfl ?_|refine ak rfl ?_|refine ao rfl ?_)))⟩
  ·exact ⟨⟨((la, a, c), lb, b, d), ⟨rfl, ha, hb, by simp only; omega, hla, rfl⟩, rfl, rfl, trivial⟩, (by (repeat (first|exact aI _ _|refine ax rfl ?_|refine av rfl ?_|refine ak rfl ?_|refine ao rfl ?_)))⟩
 clear ha hb hla hlb
 rintro ⟨⟨xa, a', c'⟩, xb, b', d'⟩ ξ w1 ⟨rfl, hxa, hxb, hle, hxl, hsum⟩
 simp only at hxa hxb hle hxl hsum
 show CW _ _ _ _ (over [(0, .slice a' xa.length c'), (1, .slice b' xb.length d')] _) w1
 repeat' (first|refine fm (m := xa.length) (m' := 1) rfl rfl (by omega) ?_|refine eo rfl rfl (by omega) (by omega) (fun g w2 hn2 => ⟨fun _ _ => trivial, ?_⟩)|refine ai rfl ?_|refine aa ?_|refine aj ?_|refine ah rfl ?_|refine ae ?_|refine aY rfl ?_|refine aB ?_)
 have l2 := hn2.lo
 refine aW (ι := Nat × List Nat × Nat) [6, 7, 22, 23, 24, 25, 26, 27, 28, 29, 30, 31, 32, 33, 34, 35, 36, 37, 38, 39, 40, 41, 42, 43, 44, 45] (fun s => [(22, .int .i64 (s.1 : Int)), (6, .int .u64 (s.2.2 : Int))])
  (fun s w' => s.1 ≤ xb.length ∧ Ex w1 w' ∧ Blk w' g 94 (limbsL s.2.1) ∧ s.2.1.length = xa.length + 1 ∧ Lim s.2.1 ∧ s.2.2 ≤ 1 ∧ natOf s.2.1 + s.2.2 * 4294967296 ^ s.1 = natOf (xa.take s.1) + natOf (xb.take s.1) ∧ ∀ j, s.1 ≤ j → s.2.1.getD j 0 = 0) (fun s => xb.length - s.1)
  (0, List.replicate (xa.length + 1) 0, 0) ⟨rfl, rfl, trivial⟩ ⟨by simp, hn2.ex, hn2.blk, by simp, Lim.zeros _, by simp, by simp [cL, natOf], fun j _ => by simp [List.getD_eq_getElem?_getD, List.getElem?_replicate]; split <;> rfl⟩ ?_
 rintro ⟨i, S, cy⟩ ξ2 w3 ⟨hi, hE, hbk, hSl, hSL, hcy, hN, hz⟩
 simp only at hi hbk hSl hSL hcy hN hz
 show CW _ _ _ _ (over [(22, .int .i64 (i : Int)), (6, .int .u64 (cy : Int))] _) w3
 have hya := hxa.lim.getD i
 have hyb := hxb.lim.getD i
 repeat' (first|refine ai rfl ?_|refine aa ?_|refine aj ?_|refine ah rfl ?_|refine ae ?_|refine aY rfl ?_|refine cM rfl rfl (by omega) (by omega) ?_|refine aM rfl (fun hc => ?_) (fun hc => ?_)|refine aB ?_|refine aS ?_|refine aL ?_|refine aT ?_|refine aF ?_)
 ·refine bn (late := []) (plan := [(0, none), (1, none), (2, none), (3, none), (4, none), (5, none), (6, none), (7, none), (8, none), (9, none), (10, none), (11, none), (12, none), (13, none)]) (fun w' => Ex w1 w') bC (by kernel_rfl) hE.drew ?_
  repeat' (first|(refine aD rfl rfl (hxa.sl.plain (by simp; omega)) (by omega) ?_)|(refine aD rfl rfl (hxb.sl.plain (by simp; omega)) (by omega) ?_)|refine bE rfl (fun _ h => hxa.sl.ext h) (by omega) ?_|refine bE rfl (fun _ h => hxb.sl.ext h) (by omega) ?_|refine gf rfl (by assumption) ?_|refine fk rfl rfl (by omega) ?_|refine dm rfl ?_|refine dQ rfl rfl ?_|refine aD rfl rfl ⟨_, _, rfl⟩ (by omega) ?_|refine dk rfl rfl hbk.drew (by omega) (fun w4 hc4 hb4 => ⟨fun _ _ => trivial, ?_⟩)|refine ai rfl ?_|refine aa ?_|refine aj ?_|refine ah rfl ?_|refine ae ?_|refine bi rfl rfl (by omega) (by omega) ?_|refine aJ ?_)
  refine ⟨⟨(i + 1, S.set i ((cy + (xa.getD i 0 + xb.getD i 0)) % 4294967296), (cy + (xa.getD i 0 + xb.getD i 0)) / 4294967296), ⟨by simp only; omega, hE.drew.chg hc4 l2, hb4, by simp [hSl], hSL.set (Nat.mod_lt _ (by decide)), by simp only; omega, ?_, ?_⟩, by simp only; omega, rfl, rfl, trivial⟩, (by (repeat (first|exact aH _ _ _|refine ax rfl ?_|refine av rfl ?_|refine ak rfl ?_|refine ao rfl ?_)))⟩
  ·have := j2 (a := xa.getD i 0) (b := xb.getD i 0) (show i < S.length by omega) (hz i (Nat.le_refl _)) hN
   simp only
   rw [this, bK, bK, Nat.add_mul]
   omega
  ·intro k hk
   simp only at hk ⊢
   rw [bZ (by omega), hz k (by omega)]
 ·obtain rfl : i = xb.length := by omega
  refine aW (ι := Nat × List Nat × Nat) [6, 8, 51, 52, 53, 54, 55, 56, 57, 58, 59, 60, 61, 62, 63, 64, 65, 66, 67, 68, 69, 70, 71, 72, 73, 74] (fun s => [(51, .int .i64 (s.1 : Int)), (6, .int .u64 (s.2.2 : Int))])
   (fun s w' => xb.length + s.1 ≤ xa.length ∧ Ex w1 w' ∧ Blk w' g 94 (limbsL s.2.1) ∧ s.2.1.length = xa.length + 1 ∧ Lim s.2.1 ∧ s.2.2 ≤ 1 ∧ natOf s.2.1 + s.2.2 * 4294967296 ^ (xb.length + s.1) = natOf (xa.take (xb.length + s.1)) + natOf xb ∧ ∀ j, xb.length + s.1 ≤ j → s.2.1.getD j 0 = 0) (fun s => xa.length - s.1)
   (0, S, cy) ⟨rfl, rfl, trivial⟩ ⟨by simpa using hle, hE, hbk, hSl, hSL, hcy, by rw [bN (Nat.le_refl _)] at hN; exact hN, hz⟩ ?_
  clear hbk hSl hSL hcy hN hz hE
  rintro ⟨i, S, cy⟩ ξ3 w3 ⟨hi, hE, hbk, hSl, hSL, hcy, hN, hz⟩
  simp only at hi hbk hSl hSL hcy hN hz
  show CW _ _ _ _ (over [(51, .int .i64 (i : Int)), (6, .int .u64 (cy : Int))] _) w3
  have hya := hxa.lim.getD (xb.length + i)
  have hxa3 := hxa.ext hE
  repeat' (first|refine fm (m := xb.length) (m' := i) rfl rfl (by omega) ?_|(refine aD (j := xb.length + i) rfl rfl (hxa.sl.plain (by simp; omega)) (by omega) ?_)|refine bE rfl hxa3.sl (by omega) ?_|refine gf rfl (by assumption) ?_|refine fk rfl rfl (by omega) ?_|refine dm rfl ?_|refine dQ rfl rfl ?_|refine aD (j := xb.length + i) rfl rfl ⟨_, _, rfl⟩ (by omega) ?_|refine aD (j := xa.length) rfl rfl ⟨_, _, rfl⟩ (by omega) ?_|refine dk rfl rfl hbk (by omega) (fun w4 hc4 hb4 => ⟨fun _ _ => trivial, ?_⟩)|refine ai rfl ?_|refine aa ?_|refine aj ?_|refine ah rfl ?_|refine ae ?_|refine aY rfl ?_|refine bi rfl rfl (by omega) (by omega) ?_|refine aM rfl (fun hc => ?_) (fun hc => ?_)|refine aB ?_|refine aS ?_|refine aL ?_|refine aT ?_|refine aJ ?_|refine aF ?_)
  ·refine ⟨⟨(i + 1, S.set (xb.length + i) ((cy + xa.getD (xb.length + i) 0) % 4294967296), (cy + xa.getD (xb.length + i) 0) / 4294967296), ⟨by simp only; omega, hE.chg hc4 l2, hb4, by simp [hSl], hSL.set (Nat.mod_lt _ (by decide)), by simp only; omega, ?_, ?_⟩, by simp only; omega, rfl, rfl, trivial⟩, (by (repeat (first|exact aH _ _ _|refine ax rfl ?_|refine av rfl ?_|refine ak rfl ?_|refine ao rfl ?_)))⟩
   ·have := j2 (a := xa.getD (xb.length + i) 0) (b := 0) (show xb.length + i < S.length by omega) (hz _ (Nat.le_refl _)) hN
    rw [Nat.add_zero] at this
    simp only
    rw [← Nat.add_assoc, this, bK xa]
    omega
   ·intro k hk
    simp only at hk ⊢
    rw [bZ (by omega), hz k (by omega)]
  ·have hi2 : xb.length + i = xa.length := by omega
   rw [hi2, bN (Nat.le_refl _), hsum] at hN
   rw [Nat.mod_eq_of_lt (by omega)] at hb4
   have hL := Limbs.of_blk (c := xa.length + 1) hb4 (by simp [hSl]) (hSL.set (by omega)) (by simp [hSl]; omega)
   have hcall := bT hL
   rw [List.length_set, hSl] at hcall
   have hset := cA (l := S) (k := xa.length) (v := cy) (by omega)
   rw [hz xa.length (by omega), Nat.zero_mul, Nat.add_zero, hN] at hset
   refine aw hcall rfl ?_
   rintro v w5 ⟨rfl, hE5⟩
   refine ⟨fun _ _ => trivial, ?_⟩
   repeat' (first|refine ai rfl ?_|refine aa ?_|refine ae ?_|refine aK ?_)
   exact bB rfl (rt rfl) ⟨trimL (S.set xa.length cy), by rw [bc, hset], bz _, _, _, rfl, hL.trim.ext hE5, fun ad e => by cases e; exact l2, (hE.chg hc4 l2).trans hE5⟩
end Go.Proofs.Ytiejljicpinheaa
namespace Go.Proofs.Ytiejljicpinheaa
open Go.W Go.LM
set_option maxHeartbeats 2000000 in
theorem gj {la lb : List Nat} {a b : Option Addr} {c d : Nat} {w : World} (ha : Limbs w a c la) (hb : Limbs w b d lb) (hab : natOf lb ≤ natOf la) (cb : Canon lb) :
  CallsR Try.prog 74 #[.slice a la.length c, .slice b lb.length d] w fun v w' => ∃ ls, natOf ls = natOf la - natOf lb ∧ Canon ls ∧ RetN w ls v w' := by
 have hll : lb.length ≤ la.length := cH cb (Nat.lt_of_le_of_lt hab (bL ha.lim))
 have hlen := ha.len
 refine aG (args := [_, _]) Try.func74 rfl rfl ?_
 repeat' (first|refine eo rfl rfl (by omega) (by omega) (fun g w2 hn2 => ⟨fun _ _ => trivial, ?_⟩)|refine ai rfl ?_|refine aa ?_|refine aj ?_|refine ah rfl ?_|refine ae ?_|refine aY rfl ?_|refine aB ?_)
 have l2 := hn2.lo
 refine aW (ι := Nat × List Nat × Nat) [6, 7, 8, 14, 15, 16, 17, 18, 19, 20, 21, 22, 23, 24, 25, 26, 27, 28, 29, 30, 31, 32, 33, 34, 35, 36, 37, 38, 39, 40, 41, 42] (fun s => [(14, .int .i64 (s.1 : Int)), (6, .int .u64 (s.2.2 : Int))])
  (fun s w' => s.1 ≤ la.length ∧ Ex w w' ∧ Blk w' g 94 (limbsL s.2.1) ∧ s.2.1.length = la.length ∧ Lim s.2.1 ∧ s.2.2 ≤ 1 ∧ natOf s.2.1 + natOf (lb.take s.1) = natOf (la.take s.1) + s.2.2 * 4294967296 ^ s.1 ∧ ∀ j, s.1 ≤ j → s.2.1.getD j 0 = 0) (fun s => la.length - s.1)
  (0, List.replicate la.length 0, 0) ⟨rfl, rfl, trivial⟩ ⟨by simp, hn2.ex, hn2.blk, by simp, Lim.zeros _, by simp, by simp [cL, natOf], fun j _ => by simp [List.getD_eq_getElem?_getD, List.getElem?_replicate]; split <;> rfl⟩ ?_
 rintro ⟨i, S, br⟩ ξ2 w3 ⟨hi, hE, hbk, hSl, hSL, hbr, hN, hz⟩
 simp only at hi hbk hSl hSL hbr hN hz
 show CW _ _ _ _ (over [(14, .int .i64 (i : Int)), (6, .int .u64 (br : Int))] _) w3
 have hxa := ha.lim.getD i
 have hxb := hb.lim.getD i
 have zb : lb.length ≤ i → lb.getD i 0 = 0 := fun h => by rw [List.getD_eq_getElem?_getD, List.getElem?_eq_none h]; rfl
 have ha3 := ha.ext hE
 have hb3 := hb.ext hE
 have fin : ∀ (v br' : Nat) (w4 : World), i < la.length → (lb.getD i 0 + br ≤ la.getD i 0 ∧ v = la.getD i 0 - (lb.getD i 0 + br) ∧ br' = 0 ∨ la.getD i 0 < lb.getD i 0 + br ∧ v = 4294967296 + la.getD i 0 - (lb.getD i 0 + br) ∧ br' = 1) → Chg g w3 w4 → Blk w4 g 94 (limbsL (S.set i v)) →
   (i + 1 ≤ la.length ∧ Ex w w4 ∧ Blk w4 g 94 (limbsL (S.set i v)) ∧ (S.set i v).length = la.length ∧ Lim (S.set i v) ∧ br' ≤ 1 ∧ natOf (S.set i v) + natOf (lb.take (i + 1)) = natOf (la.take (i + 1)) + br' * 4294967296 ^ (i + 1) ∧ ∀ j, i + 1 ≤ j → (S.set i v).getD j 0 = 0) := by
  intro v br' w4 hii hv hc hb'
  refine ⟨by omega, hE.chg hc l2, hb', by simp [hSl], hSL.set (by omega), by omega, ?_, fun j hj => by rw [bZ (by omega)]; exact hz j (by omega)⟩
  rw [bK, bK]
  have hst := qu (a := la.getD i 0) (x := lb.getD i 0) (show i < S.length by omega) (hz i (Nat.le_refl _)) hN
  rcases hv with ⟨h1, rfl, rfl⟩ | ⟨h1, rfl, rfl⟩
  ·rw [hst.1 h1, Nat.zero_mul]; rfl
  ·rw [hst.2 (by omega)]
 repeat' (first|(refine aD rfl rfl (ha3.sl.plain (by simp; omega)) (by omega) ?_)|refine bE rfl ha3.sl (by omega) ?_|(refine aD rfl rfl (hb3.sl.plain (by simp; omega)) (by omega) ?_)|refine bE rfl hb3.sl (by omega) ?_|refine gf rfl (by assumption) ?_|refine nN rfl rfl (by omega) ?_|refine dm rfl ?_|refine fH (j := 63) rfl rfl (.inl rfl) ?_|refine aD rfl rfl ⟨_, _, rfl⟩ (by omega) ?_|refine dk rfl rfl hbk (by omega) (fun w4 hc4 hb4 => ⟨fun _ _ => trivial, ?_⟩)|refine ai rfl ?_|refine aa ?_|refine aj ?_|refine ah rfl ?_|refine ae ?_|refine aY rfl ?_|refine bi rfl rfl (by omega) (by omega) ?_|refine aM rfl (fun hc => ?_) (fun hc => ?_)|refine aB ?_|refine aS ?_|refine aL ?_|refine aT ?_|refine aJ ?_|refine aF ?_)
 ·rw [Nat.shiftRight_eq_div_pow]
  exact ⟨⟨(i + 1, _, _), fin _ _ w4 (by omega) (by dsimp only; omega) hc4 hb4, by simp only; omega, rfl, rfl, trivial⟩, (by (repeat (first|exact aH _ _ _|refine ax rfl ?_|refine av rfl ?_|refine ak rfl ?_|refine ao rfl ?_)))⟩
 ·rw [Nat.shiftRight_eq_div_pow]
  have hzb := zb (by omega)
  exact ⟨⟨(i + 1, _, _), fin _ _ w4 (by omega) (by dsimp only; omega) hc4 hb4, by simp only; omega, rfl, rfl, trivial⟩, (by (repeat (first|exact aH _ _ _|refine ax rfl ?_|refine av rfl ?_|refine ak rfl ?_|refine ao rfl ?_)))⟩
 ·have hi2 : i = la.length := by omega
  rw [bN (by omega), bN (by omega)] at hN
  have hlt : natOf S < 4294967296 ^ i := by rw [hi2, ← hSl]; exact bL hSL
  have hbr0 : br = 0 := by
   rcases Nat.eq_zero_or_pos br with h | h
   ·exact h
   ·have : br = 1 := by omega
    rw [this, Nat.one_mul] at hN
    omega
  rw [hbr0, Nat.zero_mul] at hN
  have hL := Limbs.of_blk (c := la.length) hbk (by omega) hSL (by omega)
  have hcall := bT hL
  rw [hSl] at hcall
  refine aw hcall rfl ?_
  rintro v w5 ⟨rfl, hE5⟩
  refine ⟨fun _ _ => trivial, ?_⟩
  repeat' (first|refine ai rfl ?_|refine aa ?_|refine ae ?_|refine aK ?_)
  exact bB rfl (rt rfl) ⟨trimL S, by rw [bc]; omega, bz _, _, _, rfl, hL.trim.ext hE5, fun ad e => by cases e; exact l2, hE.trans hE5⟩
end Go.Proofs.Ytiejljicpinheaa
namespace Go.Proofs.Ytiejljicpinheaa
open Go.W Go.LM
theorem cB {k : Nat} {v : Value} {x : Int} {w : World} (h1 : IntK k w v x) : CallsR Try.prog 46 #[v] w fun r w' => r = .int .i64 x.sign ∧ Ex w w' := by
 obtain ⟨n1, a1, c1, l1, rfl, hL1, rfl, _⟩ := h1
 refine aG (args := [_]) Try.func46 rfl rfl ?_
 repeat' (first|refine bH rfl (fun g1 w1 hn1 => ⟨fun _ _ => trivial, ?_⟩)|refine aU rfl hn1.blk rfl ?_|refine ai rfl ?_|refine aa ?_|refine aj ?_|refine ah rfl ?_|refine ae ?_|refine aP rfl ?_|refine aB ?_)
 refine aw (bT (hL1.ext hn1.ex)) rfl ?_
 rintro v w2 ⟨rfl, hE2⟩
 refine ⟨fun _ _ => trivial, ?_⟩
 have hb2 := hn1.blk.ext hE2
 have hz : (trimL l1).length = 0 ↔ natOf l1 = 0 := by
  rw [← cj]
  exact List.length_eq_zero_iff
 repeat' (first|refine aU rfl hb2 rfl ?_|refine ai rfl ?_|refine aa ?_|refine aj ?_|refine ah rfl ?_|refine ae ?_|refine aY rfl ?_|refine aP rfl ?_|refine aM rfl (fun hc => ?_) (fun hc => ?_)|refine fF rfl (fun hc => ?_) (fun hc => ?_)|refine aJ ?_|refine aK ?_|refine aX ?_|refine b6 ?_|refine aF ?_)
 ·refine bB rfl (rt rfl) ⟨?_, hn1.ex.trans hE2⟩
  have : natOf l1 = 0 := hz.1 (by omega)
  rw [this]; cases n1 <;> rfl
 ·refine bB rfl (rt rfl) ⟨?_, hn1.ex.trans hE2⟩
  have : natOf l1 ≠ 0 := fun e => by have := hz.2 e; omega
  subst_vars
  show Value.int .i64 (-1) = _
  rw [show (sgn true (natOf l1)).sign = -1 by unfold sgn; rw [if_pos rfl]; exact Int.sign_eq_neg_one_of_neg (by omega)]
 ·refine bB rfl (rt rfl) ⟨?_, hn1.ex.trans hE2⟩
  have : natOf l1 ≠ 0 := fun e => by have := hz.2 e; omega
  subst_vars
  show Value.int .i64 1 = _
  rw [show (sgn false (natOf l1)).sign = 1 by unfold sgn; rw [if_neg (by decide)]; exact Int.sign_eq_one_of_pos (by omega)]
theorem gk {n1 n2 : Bool} {la lb : List Nat} {a b : Option Addr} {c d : Nat} {w : World} (ha : Limbs w a c la) (hb : Limbs w b d lb) (ca : Canon la) (cb : Canon lb) (hla : la.length < 17592186044416) (hlb : lb.length < 17592186044416) :
  CallsR Try.prog 76 #[.bool n1, .slice a la.length c, .bool n2, .slice b lb.length d] w (RetZ w (sgn n1 (natOf la) + sgn n2 (natOf lb))) := by
 refine aG (args := [_, _, _, _]) Try.func76 rfl rfl ?_
 refine aj ?_
 refine ah rfl ?_
 refine aE (fun g w1 hn1 => ⟨fun _ _ => trivial, ?_⟩)
 have hb1 : Blk w1 g 49 (intL false none 0 0) := hn1.blk
 have l1 := hn1.lo
 have l1' := hn1.hi
 have ha1 := ha.ext hn1.ex
 have hbb1 := hb.ext hn1.ex
 have s1 := hn1.ex.size
 have fin : ∀ {nn : Bool} {m : Nat} {wa wb wc : World} {v : Value}, Ex w1 wa → IntC w1.heap.size wb v (sgn nn m) → Ex wa wb → Chg g wb wc → sgn nn m = sgn n1 (natOf la) + sgn n2 (natOf lb) → RetZ w (sgn n1 (natOf la) + sgn n2 (natOf lb)) v wc := by
  intro nn m wa wb wc v hEa hI hEb hc he
  refine ⟨?_, ((hn1.ex.trans hEa).trans hEb).chg hc l1⟩
  rw [← he]
  exact (hI.chg hc (by omega)).mono s1
 repeat' (first|refine ai rfl ?_|refine aa ?_|refine aj ?_|refine ah rfl ?_|refine ae ?_|refine kZ rfl rfl ?_|refine aM rfl (fun hc => ?_) (fun hc => ?_)|refine aB ?_)
 ·refine aw (jg ha1 hbb1 hla hlb) rfl ?_
  rintro v w2 ⟨ls, hv, hcn, a2, c2, rfl, hL2, hf2, hE2⟩
  refine ⟨fun _ _ => trivial, ?_⟩
  refine aw (ct hL2 hcn hf2 _) rfl ?_
  rintro v w3 ⟨hI, hE3⟩
  obtain ⟨vs, rfl, hvl, hvo⟩ := hI.out
  refine ⟨fun _ _ => trivial, ?_⟩
  refine au (n := 2) rfl rfl hvl hvo (hb1.ext (hE2.trans hE3)) rfl (fun w4 hc4 hb4 => ⟨fun _ _ => trivial, ?_⟩)
  repeat' (first|refine aa ?_|refine ae ?_|refine aK ?_|refine aX ?_|refine b6 ?_)
  refine bB rfl (rc rfl hvl hb4) (fin hE2 hI hE3 hc4 ?_)
  rw [hv]; subst_vars; unfold sgn; split <;> omega
 ·refine aw (dD ha1 hbb1 ca cb) rfl ?_
  rintro v w2 ⟨rfl, hE2⟩
  refine ⟨fun _ _ => trivial, ?_⟩
  have hge := jv (m := natOf la) (n := natOf lb)
  repeat' (first|refine ai rfl ?_|refine aa ?_|refine aj ?_|refine ah rfl ?_|refine ae ?_|refine aM rfl (fun hc => ?_) (fun hc => ?_)|refine aJ ?_|refine aF ?_)
  ·refine aw (gj (ha1.ext hE2) (hbb1.ext hE2) (by omega) cb) rfl ?_
   rintro v w3 ⟨ls, hv, hcn, a3, c3, rfl, hL3, hf3, hE3⟩
   refine ⟨fun _ _ => trivial, ?_⟩
   refine aw (ct hL3 hcn hf3 _) rfl ?_
   rintro v w4 ⟨hI, hE4⟩
   obtain ⟨vs, rfl, hvl, hvo⟩ := hI.out
   refine ⟨fun _ _ => trivial, ?_⟩
   refine au (n := 2) rfl rfl hvl hvo (hb1.ext ((hE2.trans hE3).trans hE4)) rfl (fun w5 hc5 hb5 => ⟨fun _ _ => trivial, ?_⟩)
   repeat' (first|refine aa ?_|refine ae ?_|refine aK ?_|refine aX ?_|refine b6 ?_)
   refine bB rfl (rc rfl hvl hb5) (fin (hE2.trans hE3) (hI.mono hE2.size) hE4 hc5 ?_)
   rw [hv]; unfold sgn; cases n1 <;> cases n2 <;> simp at * <;> omega
  ·refine aw (gj (hbb1.ext hE2) (ha1.ext hE2) (by omega) ca) rfl ?_
   rintro v w3 ⟨ls, hv, hcn, a3, c3, rfl, hL3, hf3, hE3⟩
   refine ⟨fun _ _ => trivial, ?_⟩
   refine aw (ct hL3 hcn hf3 _) rfl ?_
   rintro v w4 ⟨hI, hE4⟩
   obtain ⟨vs, rfl, hvl, hvo⟩ := hI.out
   refine ⟨fun _ _ => trivial, ?_⟩
   refine au (n := 2) rfl rfl hvl hvo (hb1.ext ((hE2.trans hE3).trans hE4)) rfl (fun w5 hc5 hb5 => ⟨fun _ _ => trivial, ?_⟩)
   repeat' (first|refine aa ?_|refine ae ?_|refine aK ?_)
   refine bB rfl (rc rfl hvl hb5) (fin (hE2.trans hE3) (hI.mono hE2.size) hE4 hc5 ?_)
   rw [hv]; unfold sgn; cases n1 <;> cases n2 <;> simp at * <;> omega
end Go.Proofs.Ytiejljicpinheaa
namespace Go.Proofs.Ytiejljicpinheaa
open Go.W Go.LM
theorem fB {p q : Nat} {v1 v2 : Value} {x y : Int} {w : World} (h1 : IntK p w v1 x) (h2 : IntK q w v2 y) (hp : p < 17592186044416) (hq : q < 17592186044416) :
  CallsR Try.prog 85 #[v1, v2] w (RetZ w (x + y)) := by
 obtain ⟨n1, a1, c1, l1, rfl, hL1, rfl, hp1⟩ := h1
 obtain ⟨n2, a2, c2, l2, rfl, hL2, rfl, hq1⟩ := h2
 have tl1 := cv l1
 have tl2 := cv l2
 refine aG (args := [_, _]) Try.func85 rfl rfl ?_
 refine aj ?_
 refine ah rfl ?_
 refine bH rfl (fun g2 w2 hn2 => ⟨fun _ _ => trivial, ?_⟩)
 refine bH rfl (fun g3 w3 hn3 => ⟨fun _ _ => trivial, ?_⟩)
 refine aE (fun g4 w4 hn4 => ⟨fun _ _ => trivial, ?_⟩)
 have hb2 := (hn2.blk.ext hn3.ex).ext hn4.ex
 have hb3 := hn3.blk.ext hn4.ex
 have hb4 : Blk w4 g4 49 (intL false none 0 0) := hn4.blk
 have hE := (hn2.ex.trans hn3.ex).trans hn4.ex
 have l4 := hn4.lo
 have l4' := hn4.hi
 have s3 := (hn2.ex.trans hn3.ex).size
 have s4 := hE.size
 repeat' (first|refine aa ?_|refine aj ?_|refine ae ?_)
 have hE4d : Ex w4 w4.drew := (Ex.refl w4).drew
 refine bn (late := [11]) (plan := [(0, none), (1, none), (2, none), (3, none), (5, none), (6, none), (7, none), (8, none), (4, some true), (9, some true), (10, some true), (11, some false)]) (fun w' => Ex w4 w') bC (by kernel_rfl) hE4d ?_
 repeat' (first|refine aU rfl (fun _ h => hb2.ext h) rfl ?_|refine aU rfl (fun _ h => hb3.ext h) rfl ?_|refine aP rfl ?_)
 refine aw (bT (hL1.ext (hE.trans hE4d))) rfl ?_
 rintro v w6 ⟨rfl, hE6⟩
 refine ⟨fun _ h => h.trans hE6, ?_⟩
 skip
 refine aw (bT (hL2.ext ((hE.trans hE4d).trans hE6))) rfl ?_
 rintro v w7 ⟨rfl, hE7⟩
 refine ⟨fun _ h => h.trans hE7, ?_⟩
 have hE47 : Ex w4 w7 := (hE4d.trans hE6).trans hE7
 skip
 refine aw (gk ((hL1.ext (hE.trans hE47)).trim) ((hL2.ext (hE.trans hE47)).trim) (bz _) (bz _) (by omega) (by omega)) rfl ?_
 rintro v w8 ⟨hI8, hE8⟩
 obtain ⟨vs8, rfl, hvl8, hvo8⟩ := hI8.out
 refine ⟨fun _ h => h.trans hE8, ?_⟩
 refine au (n := 2) rfl rfl hvl8 hvo8 (hb4.ext (hE47.trans hE8)) rfl (fun w9 hc9 hb9 => ⟨fun h => (nomatch h), ?_⟩)
 repeat' (first|refine aa ?_|refine ae ?_|refine aK ?_)
 have s7 := hE47.size
 refine bB rfl (rc rfl hvl8 hb9) ⟨?_, (hE.trans (hE47.trans hE8)).chg hc9 (by omega)⟩
 have hr := (hI8.chg hc9 (by omega)).mono (lo' := w.heap.size) (by omega)
 rw [bc, bc] at hr
 exact hr
theorem dV {p q : Nat} {v1 v2 : Value} {x y : Int} {w : World} (h1 : IntK p w v1 x) (h2 : IntK q w v2 y) (hp : p < 17592186044416) (hq : q < 17592186044416) :
  CallsR Try.prog 47 #[v1, v2] w (RetZ w (x - y)) := by
 obtain ⟨n1, a1, c1, l1, rfl, hL1, rfl, hp1⟩ := h1
 obtain ⟨n2, a2, c2, l2, rfl, hL2, rfl, hq1⟩ := h2
 have tl1 := cv l1
 have tl2 := cv l2
 refine aG (args := [_, _]) Try.func47 rfl rfl ?_
 refine aj ?_
 refine ah rfl ?_
 refine bH rfl (fun g2 w2 hn2 => ⟨fun _ _ => trivial, ?_⟩)
 refine bH rfl (fun g3 w3 hn3 => ⟨fun _ _ => trivial, ?_⟩)
 refine aE (fun g4 w4 hn4 => ⟨fun _ _ => trivial, ?_⟩)
 have hb2 := (hn2.blk.ext hn3.ex).ext hn4.ex
 have hb3 := hn3.blk.ext hn4.ex
 have hb4 : Blk w4 g4 49 (intL false none 0 0) := hn4.blk
 have hE := (hn2.ex.trans hn3.ex).trans hn4.ex
 have l4 := hn4.lo
 have l4' := hn4.hi
 have s3 := (hn2.ex.trans hn3.ex).size
 have s4 := hE.size
 repeat' (first|refine aa ?_|refine aj ?_|refine ae ?_)
 have hE4d : Ex w4 w4.drew := (Ex.refl w4).drew
 refine bn (late := [12]) (plan := [(0, none), (1, none), (2, none), (3, none), (5, none), (6, none), (7, none), (8, none), (9, none), (4, some true), (10, some true), (11, some true), (12, some false)]) (fun w' => Ex w4 w') bC (by kernel_rfl) hE4d ?_
 repeat' (first|refine pN rfl ?_|refine aU rfl (fun _ h => hb2.ext h) rfl ?_|refine aU rfl (fun _ h => hb3.ext h) rfl ?_|refine aP rfl ?_)
 refine aw (bT (hL1.ext (hE.trans hE4d))) rfl ?_
 rintro v w6 ⟨rfl, hE6⟩
 refine ⟨fun _ h => h.trans hE6, ?_⟩
 skip
 refine aw (bT (hL2.ext ((hE.trans hE4d).trans hE6))) rfl ?_
 rintro v w7 ⟨rfl, hE7⟩
 refine ⟨fun _ h => h.trans hE7, ?_⟩
 have hE47 : Ex w4 w7 := (hE4d.trans hE6).trans hE7
 skip
 refine aw (gk ((hL1.ext (hE.trans hE47)).trim) ((hL2.ext (hE.trans hE47)).trim) (bz _) (bz _) (by omega) (by omega)) rfl ?_
 rintro v w8 ⟨hI8, hE8⟩
 obtain ⟨vs8, rfl, hvl8, hvo8⟩ := hI8.out
 refine ⟨fun _ h => h.trans hE8, ?_⟩
 refine au (n := 2) rfl rfl hvl8 hvo8 (hb4.ext (hE47.trans hE8)) rfl (fun w9 hc9 hb9 => ⟨fun h => (nomatch h), ?_⟩)
 repeat' (first|refine aa ?_|refine ae ?_|refine aK ?_)
 have s7 := hE47.size
 refine bB rfl (rc rfl hvl8 hb9) ⟨?_, (hE.trans (hE47.trans hE8)).chg hc9 (by omega)⟩
 have hr := (hI8.chg hc9 (by omega)).mono (lo' := w.heap.size) (by omega)
 rw [bc, bc] at hr
 have e : sgn (!n2) (natOf l2) = -sgn n2 (natOf l2) := by unfold sgn; cases n2 <;> simp
 rw [e, ← Int.sub_eq_add_neg] at hr
 exact hr
end Go.Proofs.Ytiejljicpinheaa
namespace Go.W
section
variable {P : Program} {S : World → Prop} {ops : List Oper} {K : Env → World → Prop} {rest : List (Oper × Option Bool)} {ρ : Env} {w : World} {b : Option Bool} {kf : Bool} {d : Nat} {dst : Option Nat} {T T' : TypeId} {pos : String} {af : Array Edge}
theorem eK {op : BinOp} {t : TypeId} {x y : Operand} {a a' : Option Addr} {l c l' c' : Nat} (w : World) : (eqGuard op t x y (.slice a l c) (.slice a' l' c')).run P w = .ok () w := by
 unfold eqGuard; cases op <;> rfl
theorem iT {T0 E : TypeId} (h : P.underlying T0 = some (.slice E)) (n : Nat) (a : Option Addr) (l c : Nat) (w : World) : (Op.equalIn (n + 1) T0 (.slice a l c) (.slice none 0 0)).run P w = .ok a.isNone w := by
 cases a <;> simp [Op.equalIn, run_underlying h]
theorem gq {T0 E : TypeId} (h : P.underlying T0 = some (.slice E)) (a : Option Addr) (l c : Nat) (w : World) : (Op.equal T0 (.slice a l c) (.slice none 0 0)).run P w = .ok a.isNone w := by
 unfold Op.equal
 exact iT h 9999 a l c w
theorem dR {x y : Operand} {a : Option Addr} {l c E s z : Nat} {T'' : TypeId} [h1 : Slc P T' E s z] (hx : ev ρ x = .slice a l c) (hy : ev ρ y = .slice none 0 0) (h : RR P S ops K rest (upd ρ d (.bool a.isNone)) w) : RR P S ops K ((⟨some d, .binOp .eql T' x y T'', T, pos, af, none⟩, b) :: rest) ρ w :=
 bY rfl (fun w' => by
  simp only [execOp, hx, hy]
  rw [Sem.run_bind_ok (v := .bool a.isNone) (w' := w')]
  ·rfl
  ·rw [Sem.run_bind_ok (eK w')]
   show (do pure (Value.bool (← Op.equal T' (.slice a l c) (.slice none 0 0))) : Sem Value).run P w' = _
   rw [Sem.run_bind_ok (gq h1.un a l c w')]; rfl) h
theorem oD {T1 E y : Nat} {z : Value} [hT : Slc P T1 E 1 y] [hz : Zro P E z] (h : ∀ g w', New w w' g E [] → (kf = true → S w → S w') ∧ RR P S ops K rest (upd ρ d (.slice (some ⟨g, 0, none⟩) 0 0)) w') :
  RR P S ops K ((⟨some d, .buildSlice T1 0 #[], T, pos, af, none⟩, some kf) :: rest) ρ w :=
 dz (E := E) (s := 1) (z := z) (cs := #[]) rfl (by simp [Instr.fill]) h
end
end Go.W
namespace Go.Proofs.Ytiejljicpinheaa
open Go.W Go.LM
theorem gv {ls : List Nat} {a : Option Addr} {c : Nat} {w : World} (h : Limbs w a c ls) : CallsR Try.prog 91 #[.slice a ls.length c] w (RetN w ls) := by
 have hlen := h.len
 refine aG (args := [_]) Try.func91 rfl rfl ?_
 cases a with
 | none =>
  have hl : ls = [] := by
   rcases Nat.eq_zero_or_pos ls.length with h0 | h0
   ·exact List.eq_nil_of_length_eq_zero h0
   ·obtain ⟨g, o, e⟩ := h.sl.plain (by simpa using h0); cases e
  subst hl
  repeat' (first|refine dR rfl rfl ?_|refine ai rfl ?_|refine aa ?_|refine aj ?_|refine ah rfl ?_|refine ae ?_|refine aC rfl ?_|refine aK ?_|refine aX ?_)
  exact bB rfl (rt rfl) ⟨none, 0, rfl, Limbs.nil _ _ _, fun ad e => (nomatch e), Ex.refl _⟩
 | some ad =>
  repeat' (first|refine dR rfl rfl ?_|refine oD (fun g w1 hn1 => ⟨fun _ _ => trivial, ?_⟩)|refine ai rfl ?_|refine aa ?_|refine aj ?_|refine ah rfl ?_|refine ae ?_|refine ay rfl ?_|refine aF ?_)
  have hs1 := h.sl.ext hn1.ex
  rcases Nat.eq_zero_or_pos ls.length with h0 | h0
  ·have hl : ls = [] := List.eq_nil_of_length_eq_zero h0
   subst hl
   refine kE rfl rfl (Nat.le_refl _) ?_
   repeat' (first|refine ai rfl ?_|refine aa ?_|refine ae ?_|refine aK ?_)
   exact bB rfl (rt rfl) ⟨some ⟨g, 0, none⟩, 0, rfl, Limbs.nil _ _ _, fun ad e => by cases e; exact hn1.lo, hn1.ex⟩
  ·refine f8 (z := .int .u32 0) (s := 1) (vs := []) (lo := w.heap.size) (news := limbsL ls) rfl rfl rfl rfl (hn1.blk.own rfl (Nat.zero_le _) hn1.lo) hs1 (h.sl.plain (by simp; omega)) (by simp) (lf (fun _ => rfl) _) (by omega) (by omega) hn1.ex.size ?_
   intro a' c' w2 ho hg hA
   refine ⟨fun _ _ => trivial, ?_⟩
   rw [Nat.zero_add] at ho ⊢
   have hE : Ex w w2 := ic hg hn1.ex (by rintro _ ⟨⟩; exact hn1.lo)
   repeat' (first|refine ai rfl ?_|refine aa ?_|refine ae ?_|refine aK ?_)
   exact bB rfl (rt rfl) ⟨a', c', rfl, ⟨ho.sl, ho.cap, h.lim, h.len⟩, fun ad e => (ho.lo ad e).1, hE⟩
end Go.Proofs.Ytiejljicpinheaa
namespace Go.Proofs.Ytiejljicpinheaa
open Go.W Go.LM
theorem eC {k : Nat} {v : Value} {x : Int} {w : World} (h1 : IntK k w v x) : CallsR Try.prog 86 #[v] w (RetZ w (-x)) := by
 obtain ⟨n1, a1, c1, l1, rfl, hL1, rfl, _⟩ := h1
 refine aG (args := [_]) Try.func86 rfl rfl ?_
 refine aj ?_
 refine ah rfl ?_
 refine bH rfl (fun g1 w1 hn1 => ⟨fun _ _ => trivial, ?_⟩)
 refine aE (fun g2 w2 hn2 => ⟨fun _ _ => trivial, ?_⟩)
 have hb1 := hn1.blk.ext hn2.ex
 have hb2 : Blk w2 g2 49 (intL false none 0 0) := hn2.blk
 have hE := hn1.ex.trans hn2.ex
 have l2 := hn2.lo
 have l2' := hn2.hi
 have s1 := hn1.ex.size
 repeat' (first|refine aa ?_|refine aj ?_|refine ae ?_)
 have hEd : Ex w2 w2.drew := (Ex.refl w2).drew
 refine bn (late := [8]) (plan := [(0, none), (1, none), (2, none), (3, none), (4, none), (5, some true), (6, some true), (7, some true), (8, some false)]) (fun w' => Ex w2 w') bC (by kernel_rfl) hEd ?_
 repeat' (first|refine aU rfl (fun _ h => hb1.ext h) rfl ?_|refine pN rfl ?_|refine aP rfl ?_)
 refine aw (bT (hL1.ext (hE.trans hEd))) rfl ?_
 rintro v w3 ⟨rfl, hE3⟩
 refine ⟨fun _ h => h.trans hE3, ?_⟩
 skip
 refine aw (gv ((hL1.ext ((hE.trans hEd).trans hE3)).trim)) rfl ?_
 rintro v w4 ⟨a4, c4, rfl, hL4, hf4, hE4⟩
 refine ⟨fun _ h => h.trans hE4, ?_⟩
 skip
 refine aw (ct hL4 (bz _) hf4 _) rfl ?_
 rintro v w5 ⟨hI, hE5⟩
 obtain ⟨vs, rfl, hvl, hvo⟩ := hI.out
 refine ⟨fun _ h => h.trans hE5, ?_⟩
 have hE25 := ((hEd.trans hE3).trans hE4).trans hE5
 refine au (n := 2) rfl rfl hvl hvo (hb2.ext hE25) rfl (fun w6 hc6 hb6 => ⟨fun h => (nomatch h), ?_⟩)
 repeat' (first|refine aa ?_|refine ae ?_|refine aK ?_)
 have s3 := (hEd.trans hE3).size
 refine bB rfl (rc rfl hvl hb6) ⟨?_, (hE.trans hE25).chg hc6 (by omega)⟩
 have hr := (hI.chg hc6 (by omega)).mono (lo' := w.heap.size) (by omega)
 rw [bc] at hr
 have e : sgn (!n1) (natOf l1) = -sgn n1 (natOf l1) := by unfold sgn; cases n1 <;> simp
 rwa [e] at hr
theorem cY {k : Nat} {v : Value} {x : Int} {w : World} (h1 : IntK k w v x) : CallsR Try.prog 59 #[v] w (RetZ w x) := by
 obtain ⟨n1, a1, c1, l1, rfl, hL1, rfl, _⟩ := h1
 refine aG (args := [_]) Try.func59 rfl rfl ?_
 refine aj ?_
 refine ah rfl ?_
 refine bH rfl (fun g1 w1 hn1 => ⟨fun _ _ => trivial, ?_⟩)
 refine aE (fun g2 w2 hn2 => ⟨fun _ _ => trivial, ?_⟩)
 have hb1 := hn1.blk.ext hn2.ex
 have hb2 : Blk w2 g2 49 (intL false none 0 0) := hn2.blk
 have hE := hn1.ex.trans hn2.ex
 have l2 := hn2.lo
 have l2' := hn2.hi
 have s1 := hn1.ex.size
 repeat' (first|refine aa ?_|refine aj ?_|refine ae ?_)
 have hEd : Ex w2 w2.drew := (Ex.refl w2).drew
 refine bn (late := [7]) (plan := [(0, none), (1, none), (2, none), (3, none), (4, some true), (5, some true), (6, some true), (7, some false)]) (fun w' => Ex w2 w') bC (by kernel_rfl) hEd ?_
 repeat' (first|refine aU rfl (fun _ h => hb1.ext h) rfl ?_|refine aP rfl ?_)
 refine aw (bT (hL1.ext (hE.trans hEd))) rfl ?_
 rintro v w3 ⟨rfl, hE3⟩
 refine ⟨fun _ h => h.trans hE3, ?_⟩
 skip
 refine aw (gv ((hL1.ext ((hE.trans hEd).trans hE3)).trim)) rfl ?_
 rintro v w4 ⟨a4, c4, rfl, hL4, hf4, hE4⟩
 refine ⟨fun _ h => h.trans hE4, ?_⟩
 skip
 refine aw (ct hL4 (bz _) hf4 _) rfl ?_
 rintro v w5 ⟨hI, hE5⟩
 obtain ⟨vs, rfl, hvl, hvo⟩ := hI.out
 refine ⟨fun _ h => h.trans hE5, ?_⟩
 have hE25 := ((hEd.trans hE3).trans hE4).trans hE5
 refine au (n := 2) rfl rfl hvl hvo (hb2.ext hE25) rfl (fun w6 hc6 hb6 => ⟨fun h => (nomatch h), ?_⟩)
 repeat' (first|refine aa ?_|refine ae ?_|refine aK ?_)
 have s3 := (hEd.trans hE3).size
 refine bB rfl (rc rfl hvl hb6) ⟨?_, (hE.trans hE25).chg hc6 (by omega)⟩
 have hr := (hI.chg hc6 (by omega)).mono (lo' := w.heap.size) (by omega)
 rw [bc] at hr
 exact hr
end Go.Proofs.Ytiejljicpinheaa
namespace Go.Proofs.Ytiejljicpinheaa
open Go.W Go.LM
theorem rL {n1 n2 : Bool} {m n : Nat} (h : (sgn n1 m).sign = (sgn n2 n).sign) : (sgn n1 m).sign * cmpZ m n = (sgn n1 m - sgn n2 n).sign := by
 have pos : ∀ k : Nat, 0 < k → ((k : Int)).sign = 1 := fun k hk => Int.sign_eq_one_of_pos (by omega)
 have neg : ∀ k : Nat, 0 < k → (-(k : Int)).sign = -1 := fun k hk => Int.sign_eq_neg_one_of_neg (by omega)
 rcases Nat.eq_zero_or_pos m with rfl | hm
 ·have h0 : ∀ b, sgn b 0 = 0 := fun b => by unfold sgn; cases b <;> rfl
  rw [h0] at h ⊢
  have : sgn n2 n = 0 := Int.sign_eq_zero_iff_zero.1 h.symm
  rw [this]; simp
 ·rcases Nat.eq_zero_or_pos n with rfl | hn
  ·have h0 : ∀ b, sgn b 0 = 0 := fun b => by unfold sgn; cases b <;> rfl
   rw [h0] at h
   have : sgn n1 m = 0 := Int.sign_eq_zero_iff_zero.1 h
   exfalso
   unfold sgn at this; split at this <;> omega
  ·cases n1 <;> cases n2 <;> simp only [sgn, if_true, Bool.false_eq_true, if_false] at h ⊢
   ·rw [pos m hm]
    unfold cmpZ
    split
    ·rw [Int.sign_eq_neg_one_of_neg (by omega)]; rfl
    ·split
     ·rw [Int.sign_eq_one_of_pos (by omega)]; rfl
     ·rw [show (m : Int) - n = 0 by omega]; rfl
   ·rw [pos m hm, neg n hn] at h; omega
   ·rw [neg m hm, pos n hn] at h; omega
   ·rw [neg m hm]
    unfold cmpZ
    split
    ·rw [Int.sign_eq_one_of_pos (by omega)]; rfl
    ·split
     ·rw [Int.sign_eq_neg_one_of_neg (by omega)]; rfl
     ·rw [show -(m : Int) - -(n : Int) = 0 by omega]; rfl
theorem oE {x y : Int} (h : x.sign < y.sign) : (x - y).sign = -1 := by
 refine Int.sign_eq_neg_one_of_neg ?_
 rcases Int.lt_trichotomy x 0 with hx | hx | hx
 ·rcases Int.lt_trichotomy y 0 with hy | hy | hy
  ·rw [Int.sign_eq_neg_one_of_neg hx, Int.sign_eq_neg_one_of_neg hy] at h; omega
  ·omega
  ·omega
 ·rw [hx, Int.sign_zero] at h
  have := Int.sign_pos_iff.1 h; omega
 ·rw [Int.sign_eq_one_of_pos hx] at h
  have : y.sign ≤ 1 := by rcases Int.sign_trichotomy y with e | e | e <;> omega
  omega
theorem iU {p q : Nat} {v1 v2 : Value} {x y : Int} {w : World} (h1 : IntK p w v1 x) (h2 : IntK q w v2 y) :
  CallsR Try.prog 62 #[v1, v2] w fun r w' => r = .int .i64 (x - y).sign ∧ Ex w w' := by
 have h1s := h1
 have h2s := h2
 obtain ⟨n1, a1, c1, l1, rfl, hL1, rfl, hp1⟩ := h1
 obtain ⟨n2, a2, c2, l2, rfl, hL2, rfl, hq1⟩ := h2
 refine aG (args := [_, _]) Try.func62 rfl rfl ?_
 refine aj ?_
 refine ah rfl ?_
 refine bH rfl (fun g2 w2 hn2 => ⟨fun _ _ => trivial, ?_⟩)
 refine bH rfl (fun g3 w3 hn3 => ⟨fun _ _ => trivial, ?_⟩)
 have hb2 := hn2.blk.ext hn3.ex
 have hb3 := hn3.blk
 have hE := hn2.ex.trans hn3.ex
 repeat' (first|refine ai rfl ?_|refine aa ?_|refine aj ?_|refine ae ?_)
 have hEd : Ex w3 w3.drew := (Ex.refl w3).drew
 refine bn (late := []) (plan := [(0, none), (2, none), (1, some true), (3, some true), (4, none), (5, none)]) (fun w' => Ex w3 w') bC (by kernel_rfl) hEd ?_
 repeat' (first|refine aR rfl (fun _ h => hb2.ext h) rfl ?_|refine aR rfl (fun _ h => hb3.ext h) rfl ?_)
 refine aw (cB (h1s.ext (hE.trans hEd))) rfl ?_
 rintro v w4 ⟨rfl, hE4⟩
 refine ⟨fun _ h => h.trans hE4, ?_⟩
 skip
 refine aw (cB (h2s.ext ((hE.trans hEd).trans hE4))) rfl ?_
 rintro v w5 ⟨rfl, hE5⟩
 refine ⟨fun _ h => h.trans hE5, ?_⟩
 have hE35 := (hEd.trans hE4).trans hE5
 repeat' (first|refine ai rfl ?_|refine aa ?_|refine aj ?_|refine ah rfl ?_|refine ae ?_|refine aM rfl (fun hc => ?_) (fun hc => ?_)|refine aB ?_|refine aJ ?_|refine aK ?_|refine aX ?_|refine b6 ?_|refine aF ?_)
 ·exact bB rfl (rt rfl) ⟨congrArg (Value.int .i64) (oE (by assumption)).symm, hE.trans hE35⟩
 ·refine bB rfl (rt rfl) ⟨?_, hE.trans hE35⟩
  have : (sgn n2 (natOf l2) - sgn n1 (natOf l1)).sign = -1 := oE (by assumption)
  show Value.int .i64 1 = _
  rw [show sgn n1 (natOf l1) - sgn n2 (natOf l2) = -(sgn n2 (natOf l2) - sgn n1 (natOf l1)) by omega, Int.sign_neg, this]; rfl
 ·have heq : (sgn n1 (natOf l1)).sign = (sgn n2 (natOf l2)).sign := by omega
  have hE5d : Ex w3 w5.drew := hE35.drew
  refine bn (late := []) (plan := [(0, none), (1, none), (2, none), (4, none), (5, none), (3, some true), (6, some true), (7, some true), (8, none), (9, none)]) (fun w' => Ex w3 w') bC (by kernel_rfl) hE5d ?_
  repeat' (first|refine aU rfl (fun _ h => hb2.ext h) rfl ?_|refine aU rfl (fun _ h => hb3.ext h) rfl ?_|refine ai rfl ?_|refine aP rfl ?_)
  refine aw (bT (hL1.ext (hE.trans hE5d))) rfl ?_
  rintro v w6 ⟨rfl, hE6⟩
  refine ⟨fun _ h => h.trans hE6, ?_⟩
  skip
  refine aw (bT (hL2.ext ((hE.trans hE5d).trans hE6))) rfl ?_
  rintro v w7 ⟨rfl, hE7⟩
  refine ⟨fun _ h => h.trans hE7, ?_⟩
  have hE37 := (hE5d.trans hE6).trans hE7
  skip
  refine aw (dD ((hL1.ext (hE.trans hE37)).trim) ((hL2.ext (hE.trans hE37)).trim) (bz _) (bz _)) rfl ?_
  rintro v w8 ⟨rfl, hE8⟩
  refine ⟨fun _ h => h.trans hE8, ?_⟩
  have hc := rL heq
  have hb : -1 ≤ (sgn n1 (natOf l1) - sgn n2 (natOf l2)).sign ∧ (sgn n1 (natOf l1) - sgn n2 (natOf l2)).sign ≤ 1 := by
   rcases Int.sign_trichotomy (sgn n1 (natOf l1) - sgn n2 (natOf l2)) with e | e | e <;> omega
  rw [bc, bc]
  repeat' (first|(refine jG rfl rfl (by rw [hc]; omega) (by rw [hc]; omega) ?_)|refine ai rfl ?_|refine aa ?_|refine ae ?_|refine aK ?_)
  exact bB rfl (rt rfl) ⟨congrArg (Value.int .i64) hc, (hE.trans hE37).trans hE8⟩
end Go.Proofs.Ytiejljicpinheaa
namespace Go.Proofs.Ytiejljicpinheaa
open Go.W Go.LM
theorem cI {p q : Nat} {v1 v2 : Value} {x y : Int} {w : World} (h1 : IntK p w v1 x) (h2 : IntK q w v2 y) (hkl : p + q ≤ 17592186044416) :
  CallsR Try.prog 48 #[v1, v2] w (RetZ w (x * y)) := by
 obtain ⟨n1, a1, c1, l1, rfl, hL1, rfl, hp1⟩ := h1
 obtain ⟨n2, a2, c2, l2, rfl, hL2, rfl, hq1⟩ := h2
 have tl1 := cv l1
 have tl2 := cv l2
 refine aG (args := [_, _]) Try.func48 rfl rfl ?_
 refine aj ?_
 refine ah rfl ?_
 refine bH rfl (fun g2 w2 hn2 => ⟨fun _ _ => trivial, ?_⟩)
 refine bH rfl (fun g3 w3 hn3 => ⟨fun _ _ => trivial, ?_⟩)
 refine aE (fun g4 w4 hn4 => ⟨fun _ _ => trivial, ?_⟩)
 have hb2 := (hn2.blk.ext hn3.ex).ext hn4.ex
 have hb3 := hn3.blk.ext hn4.ex
 have hb4 : Blk w4 g4 49 (intL false none 0 0) := hn4.blk
 have hE := (hn2.ex.trans hn3.ex).trans hn4.ex
 have l4 := hn4.lo
 have l4' := hn4.hi
 have s3 := (hn2.ex.trans hn3.ex).size
 repeat' (first|refine aa ?_|refine aj ?_|refine ae ?_)
 refine bn (late := [13]) (plan := [(0, none), (1, none), (2, none), (3, none), (4, none), (5, none), (6, none), (8, none), (9, none), (7, some true), (10, some true), (11, some true), (12, some true), (13, some false)]) (fun w' => Blk w' g2 49 (intL n1 a1 l1.length c1) ∧ Blk w' g3 49 (intL n2 a2 l2.length c2)) bC (by kernel_rfl) ⟨hb2.drew, hb3.drew⟩ ?_
 repeat' (first|refine aU rfl (fun _ h => h.1) rfl ?_|refine aU rfl (fun _ h => h.2) rfl ?_|refine aP rfl ?_|refine f5 rfl rfl ?_)
 refine aw (bT (hL1.ext hE.drew)) rfl ?_
 rintro v w5 ⟨rfl, hE5⟩
 refine ⟨fun _ h => ⟨h.1.ext hE5, h.2.ext hE5⟩, ?_⟩
 refine aw (bT (hL2.ext (hE.drew.trans hE5))) rfl ?_
 rintro v w6 ⟨rfl, hE6⟩
 refine ⟨fun _ h => ⟨h.1.ext hE6, h.2.ext hE6⟩, ?_⟩
 have hE6' := (hE.drew.trans hE5).trans hE6
 refine aw (jc (hL1.ext hE6').trim (hL2.ext hE6').trim (by omega)) rfl ?_
 rintro v w7 ⟨l7, hn7, hcn7, hln7, a7, c7, rfl, hL7, hf7, hE7⟩
 refine ⟨fun _ h => ⟨h.1.ext hE7, h.2.ext hE7⟩, ?_⟩
 refine aw (ct hL7 hcn7 hf7 _) rfl ?_
 rintro v w8 ⟨hI, hE8⟩
 refine ⟨fun _ h => ⟨h.1.ext hE8, h.2.ext hE8⟩, ?_⟩
 obtain ⟨neg, a', c', ls, rfl, hI'⟩ := id hI
 refine au (n := 2) rfl rfl rfl rfl ((((hb4.drew.ext hE5).ext hE6).ext hE7).ext hE8) rfl (fun w9 hc9 hb9 => ⟨fun h => absurd h (by decide), ?_⟩)
 repeat' (first|refine aa ?_|refine ae ?_|refine aK ?_)
 have s5 := (hE5.trans hE6).size
 have s4 : w4.drew.heap.size = w4.heap.size := rfl
 refine bB rfl (rc rfl rfl hb9) ⟨?_, ((hE6'.trans hE7).trans hE8).chg hc9 (by omega)⟩
 have hr := (hI.chg hc9 (by omega)).mono (lo' := w.heap.size) (by have := hE6'.size; omega)
 rw [hn7, bc, bc] at hr
 have e : sgn (!(n1 == n2)) (natOf l1 * natOf l2) = sgn n1 (natOf l1) * sgn n2 (natOf l2) := by
  unfold sgn; cases n1 <;> cases n2 <;> simp [Int.neg_mul, Int.mul_neg]
 rwa [e] at hr
end Go.Proofs.Ytiejljicpinheaa
namespace Go.W
section
variable {P : Program} {S : World → Prop} {ops : List Oper} {K : Env → World → Prop} {rest : List (Oper × Option Bool)} {ρ : Env} {w : World} {b : Option Bool} {kf : Bool} {d : Nat} {dst : Option Nat} {T T' : TypeId} {pos : String} {af : Array Edge}
theorem nO {x ix : Operand} {s : ByteArray} {j : Nat} {k : IntKind} {m : Nat} (hu : P.underlying T' = some .string) (hx : ev ρ x = .string s) (hi : ev ρ ix = .int k (j : Int)) (hv : (s[j]?).map (·.toNat) = some m)
  (h : RR P S ops K rest (upd ρ d (.int .u8 (m : Int))) w) : RR P S ops K ((⟨some d, .index T' x ix, T, pos, af, none⟩, b) :: rest) ρ w := by
 refine bY rfl (fun w' => ?_) h
 obtain ⟨u, hu2, rfl⟩ := Option.map_eq_some_iff.1 hv
 simp [execOp, Instr.index, hx, hi, asIntOf, underlying, hu, hu2]
end
end Go.W
namespace Go.LM
theorem fW {l : List Nat} {k : Nat} (h : k < l.length) : natOf (l.drop k) = l.getD k 0 + 4294967296 * natOf (l.drop (k + 1)) := by
 rw [List.drop_eq_getElem_cons h]
 simp [natOf, List.getD_eq_getElem?_getD, h]
theorem mP {l : List Nat} {k j v : Nat} (h : k < j) : (l.set k v).drop j = l.drop j := by
 apply List.ext_getElem?
 intro i
 simp [List.getElem?_drop, List.getElem?_set_ne (show k ≠ j + i by omega)]
end Go.LM
namespace Go.Proofs.Ytiejljicpinheaa
open Go.W Go.LM
def bitL (x : Nat) : Nat := if x = 0 then 0 else Nat.log2 x + 1
theorem iV {x : Nat} (h : 0 < x) : 2 ^ (bitL x - 1) ≤ x ∧ x < 2 ^ bitL x ∧ 0 < bitL x := by
 unfold bitL
 rw [if_neg (by omega)]
 exact ⟨by simpa using Nat.log2_self_le (by omega), Nat.lt_log2_self, by omega⟩
theorem j9 {x k : Nat} (h : 2 ^ k ≤ x) : bitL (x / 2 ^ k) + k = bitL x := by
 have hp : 0 < 2 ^ k := Nat.two_pow_pos k
 have h0 : 0 < x / 2 ^ k := Nat.div_pos h hp
 obtain ⟨h1, h2, h3⟩ := iV h0
 obtain ⟨g1, g2, g3⟩ := iV (show 0 < x by omega)
 have e1 : 2 ^ (bitL (x / 2 ^ k) - 1 + k) ≤ x := by
  rw [Nat.pow_add]; exact (Nat.le_div_iff_mul_le hp).1 h1
 have e2 : x < 2 ^ (bitL (x / 2 ^ k) + k) := by
  rw [Nat.pow_add]; exact (Nat.div_lt_iff_lt_mul hp).1 h2
 have a1 : bitL (x / 2 ^ k) - 1 + k < bitL x := (Nat.pow_lt_pow_iff_right (by decide : 1 < 2)).1 (Nat.lt_of_le_of_lt e1 g2)
 have a2 : bitL x - 1 < bitL (x / 2 ^ k) + k := (Nat.pow_lt_pow_iff_right (by decide : 1 < 2)).1 (Nat.lt_of_le_of_lt g1 e2)
 omega
theorem nP {x : Nat} (hx : x < 4294967296) (w : World) : CallsR Try.prog 111 #[.int .u32 (x : Int)] w fun v w' => v = .int .i64 (bitL x : Int) ∧ w' = w := by
 refine aG (args := [_]) Try.func111 rfl rfl ?_
 repeat' (first|refine ai rfl ?_|refine aa ?_|refine aj ?_|refine ah rfl ?_|refine ae ?_)
 refine cD (ι := Nat × Nat) [0, 2, 5, 6] (fun s => [(0, .int .u32 (s.1 : Int)), (2, .int .i64 (s.2 : Int))])
  (fun s w' => w' = w ∧ s.1 < 65536 ∧ s.2 ≤ 16 ∧ bitL s.1 + s.2 = bitL x) ?_ ?_
 ·repeat' (first|refine fH (j := 16) rfl rfl (.inl rfl) ?_|refine ai rfl ?_|refine aa ?_|refine aj ?_|refine ah rfl ?_|refine ae ?_|refine aM rfl (fun hc => ?_) (fun hc => ?_)|refine aF ?_)
  ·refine ⟨⟨(x >>> 16, 16), ⟨rfl, by simp only [Nat.shiftRight_eq_div_pow]; omega, by simp, by simp only [Nat.shiftRight_eq_div_pow]; exact j9 (by omega)⟩, rfl, rfl, trivial⟩, (by (repeat (first|exact aI _ _|refine ax rfl ?_|refine av rfl ?_|refine ak rfl ?_|refine ao rfl ?_)))⟩
  ·refine ⟨⟨(x, 0), ⟨rfl, by simp only; omega, by simp, rfl⟩, rfl, rfl, trivial⟩, (by (repeat (first|exact aI _ _|refine ax rfl ?_|refine av rfl ?_|refine ak rfl ?_|refine ao rfl ?_)))⟩
 rintro ⟨y, n⟩ ξ w1 ⟨rfl, hy, hn, he⟩
 simp only at hy hn he
 show CW _ _ _ _ (over [(0, .int .u32 (y : Int)), (2, .int .i64 (n : Int))] _) w1
 repeat' (first|refine ai rfl ?_|refine aa ?_|refine aj ?_|refine ah rfl ?_|refine ae ?_)
 refine cD (ι := Nat × Nat) [0, 2, 9, 10, 11, 12] (fun s => [(0, .int .u32 (s.1 : Int)), (2, .int .i64 (s.2 : Int))])
  (fun s w' => w' = w1 ∧ s.1 < 256 ∧ s.2 ≤ 24 ∧ bitL s.1 + s.2 = bitL x) ?_ ?_
 ·repeat' (first|refine fH (j := 8) rfl rfl (.inl rfl) ?_|refine fm (m := n) (m' := 8) rfl rfl (by omega) ?_|refine ai rfl ?_|refine aa ?_|refine aj ?_|refine ah rfl ?_|refine ae ?_|refine aM rfl (fun hc => ?_) (fun hc => ?_)|refine aF ?_)
  ·refine ⟨⟨(y >>> 8, n + 8), ⟨rfl, by simp only [Nat.shiftRight_eq_div_pow]; omega, by simp only; omega, ?_⟩, rfl, rfl, trivial⟩, (by (repeat (first|exact aI _ _|refine ax rfl ?_|refine av rfl ?_|refine ak rfl ?_|refine ao rfl ?_)))⟩
   simp only [Nat.shiftRight_eq_div_pow]
   have := j9 (x := y) (k := 8) (by omega)
   omega
  ·refine ⟨⟨(y, n), ⟨rfl, by simp only; omega, by simp only; omega, he⟩, rfl, rfl, trivial⟩, (by (repeat (first|exact aI _ _|refine ax rfl ?_|refine av rfl ?_|refine ak rfl ?_|refine ao rfl ?_)))⟩
 clear hy hn he
 rintro ⟨y, n⟩ ξ2 w2 ⟨rfl, hy, hn, he⟩
 simp only at hy hn he
 show CW _ _ _ _ (over [(0, .int .u32 (y : Int)), (2, .int .i64 (n : Int))] _) w2
 have hb : bitL y ≤ 8 := by
  unfold bitL
  split
  ·omega
  ·have := (Nat.log2_lt (n := y) (k := 8) (by omega)).2 hy; omega
 repeat' (first|refine du rfl (rk (by omega) (by omega)) ?_|refine ai rfl ?_|refine aj ?_|refine ah rfl ?_)
 refine nO (j := y) (m := bitL y) (by kernel_rfl) rfl rfl ?_ ?_
 ·revert hy
  clear he hn hb
  revert y
  decide +kernel
 repeat' (first|refine du rfl (dg (by omega) (by omega)) ?_|refine fm (m := n) (m' := bitL y) rfl rfl (by omega) ?_|refine ai rfl ?_|refine aa ?_|refine ae ?_|refine aK ?_)
 refine bB rfl (rt rfl) ⟨?_, rfl⟩
 show Value.int .i64 _ = _
 rw [← he, Nat.add_comm]
theorem o7 {x : Nat} (hx : x < 4294967296) (h0 : 0 < x) (w : World) : CallsR Try.prog 103 #[.int .u32 (x : Int)] w fun v w' => ∃ s : Nat, v = .int .i64 (s : Int) ∧ w' = w ∧ s ≤ 31 ∧ 2147483648 ≤ x * 2 ^ s ∧ x * 2 ^ s < 4294967296 := by
 refine aG (args := [_]) Try.func103 rfl rfl ?_
 repeat' (first|refine ai rfl ?_|refine aa ?_|refine aj ?_|refine ah rfl ?_|refine ae ?_)
 refine aw (nP hx w) rfl ?_
 rintro v w2 ⟨rfl, rfl⟩
 refine ⟨fun _ _ => trivial, ?_⟩
 obtain ⟨h1, h2, h3⟩ := iV h0
 have hb : bitL x ≤ 32 := by
  have : bitL x - 1 < 32 := (Nat.pow_lt_pow_iff_right (by decide : 1 < 2)).1 (Nat.lt_of_le_of_lt h1 (show x < 2 ^ 32 from hx))
  omega
 repeat' (first|refine ai rfl ?_|refine aa ?_|refine ae ?_|refine cM rfl rfl (by omega) (by omega) ?_|refine aK ?_)
 refine bB rfl (rt rfl) ⟨32 - bitL x, ?_, rfl, by omega, ?_, ?_⟩
 ·show Value.int .i64 ((32 : Int) - (bitL x : Int)) = _
  rw [show ((32 : Int) - (bitL x : Int)) = ((32 - bitL x : Nat) : Int) by omega]
 ·calc 2147483648 = 2 ^ (bitL x - 1) * 2 ^ (32 - bitL x) := by rw [← Nat.pow_add, show bitL x - 1 + (32 - bitL x) = 31 by omega]
   _ ≤ x * 2 ^ (32 - bitL x) := Nat.mul_le_mul_right _ h1
 ·calc x * 2 ^ (32 - bitL x) < 2 ^ bitL x * 2 ^ (32 - bitL x) := Nat.mul_lt_mul_of_pos_right h2 (Nat.two_pow_pos _)
   _ = 4294967296 := by rw [← Nat.pow_add, show bitL x + (32 - bitL x) = 32 by omega]
set_option maxHeartbeats 2000000 in
theorem gy {ls : List Nat} {a : Option Addr} {c s : Nat} {w : World} (h : Limbs w a c ls) (hs : s ≤ 31) (hlen : ls.length < 17592186044416) :
  CallsR Try.prog 104 #[.slice a ls.length c, .int .i64 (s : Int)] w fun v w' => ∃ g S, v = .slice (some ⟨g, 0, none⟩) (ls.length + 1) (ls.length + 1) ∧ w.heap.size ≤ g ∧ Blk w' g 94 (limbsL S) ∧ S.length = ls.length + 1 ∧ Lim S ∧ natOf S = natOf ls * 2 ^ s ∧ S.getD ls.length 0 < 2 ^ s ∧ Ex w w' := by
 have h2s : 2 ^ s ≤ 2147483648 := Nat.pow_le_pow_right (by decide) hs
 have h0s : 0 < 2 ^ s := Nat.two_pow_pos s
 refine aG (args := [_, _]) Try.func104 rfl rfl ?_
 repeat' (first|refine fm (m := ls.length) (m' := 1) rfl rfl (by omega) ?_|refine eo rfl rfl (by omega) (by omega) (fun g w2 hn2 => ⟨fun _ _ => trivial, ?_⟩)|refine ai rfl ?_|refine aa ?_|refine aj ?_|refine ah rfl ?_|refine ae ?_|refine aY rfl ?_|refine aB ?_)
 have l2 := hn2.lo
 refine aW (ι := Nat × List Nat × Nat) [6, 7, 8, 15, 16, 17, 18, 19, 20, 21, 22, 23, 24, 25, 26, 27, 28, 29, 30, 31, 32, 33] (fun s => [(15, .int .i64 (s.1 : Int)), (6, .int .u64 (s.2.2 : Int))])
  (fun t w' => t.1 ≤ ls.length ∧ Ex w w' ∧ Blk w' g 94 (limbsL t.2.1) ∧ t.2.1.length = ls.length + 1 ∧ Lim t.2.1 ∧ t.2.2 < 2 ^ s ∧ natOf t.2.1 + t.2.2 * 4294967296 ^ t.1 = natOf (ls.take t.1) * 2 ^ s ∧ ∀ j, t.1 ≤ j → t.2.1.getD j 0 = 0) (fun s => ls.length - s.1)
  (0, List.replicate (ls.length + 1) 0, 0) ⟨rfl, rfl, trivial⟩ ⟨by simp, hn2.ex, hn2.blk, by simp, Lim.zeros _, h0s, by simp [cL, natOf], fun j _ => by simp [List.getD_eq_getElem?_getD, List.getElem?_replicate]; split <;> rfl⟩ ?_
 rintro ⟨i, S, cy⟩ ξ w3 ⟨hi, hE, hbk, hSl, hSL, hcy, hN, hz⟩
 simp only at hi hbk hSl hSL hcy hN hz
 show CW _ _ _ _ (over [(15, .int .i64 (i : Int)), (6, .int .u64 (cy : Int))] _) w3
 have hx := h.lim.getD i
 have h3 := h.ext hE
 have hsh : (ls.getD i 0 <<< s) % 2 ^ IntKind.u64.bits = ls.getD i 0 <<< s := Nat.mod_eq_of_lt (by
  rw [Nat.shiftLeft_eq]
  have : ls.getD i 0 * 2 ^ s ≤ 4294967296 * 2147483648 := Nat.mul_le_mul (by omega) h2s
  simp only [IntKind.bits]; omega)
 have hsh2 : ls.getD i 0 <<< s < 18446744073709551616 := by
  rw [Nat.shiftLeft_eq]
  have : ls.getD i 0 * 2 ^ s ≤ 4294967296 * 2147483648 := Nat.mul_le_mul (by omega) h2s
  omega
 repeat' (first|(refine aD rfl rfl (h3.sl.plain (by simp; omega)) (by omega) ?_)|refine bE rfl h3.sl (by omega) ?_|refine gf rfl (by assumption) ?_|refine ai rfl ?_|refine aa ?_|refine aj ?_|refine ah rfl ?_|refine ae ?_|refine aY rfl ?_|refine aM rfl (fun hc => ?_) (fun hc => ?_)|refine aB ?_|refine aS ?_|refine aL ?_|refine aT ?_|refine aF ?_)
 ·refine iM (j := s) rfl rfl rfl (by simp only [IntKind.bits]; omega) ?_
  rw [hsh]
  refine jH rfl rfl rfl (by simp only [IntKind.bits]; omega) hsh2 ?_
  repeat' (first|refine dm rfl ?_|refine dQ rfl rfl ?_|refine aD rfl rfl ⟨_, _, rfl⟩ (by omega) ?_|refine dk rfl rfl hbk (by omega) (fun w4 hc4 hb4 => ⟨fun _ _ => trivial, ?_⟩)|refine ai rfl ?_|refine aa ?_|refine aj ?_|refine ah rfl ?_|refine ae ?_|refine bi rfl rfl (by omega) (by omega) ?_|refine aJ ?_)
  refine ⟨⟨(i + 1, S.set i ((cy ||| ls.getD i 0 <<< s) % 4294967296), (cy ||| ls.getD i 0 <<< s) / 4294967296), ⟨by simp only; omega, hE.chg hc4 l2, hb4, by simp [hSl], hSL.set (Nat.mod_lt _ (by decide)), o5 hcy hx, ?_, ?_⟩, by simp only; omega, rfl, rfl, trivial⟩, (by (repeat (first|exact aH _ _ _|refine ax rfl ?_|refine av rfl ?_|refine ak rfl ?_|refine ao rfl ?_)))⟩
  ·have := qv (m := ls.getD i 0) (show i < S.length by omega) (hz i (Nat.le_refl _)) hN hcy
   simp only
   rw [this, bK, Nat.add_mul]
   congr 1
   rw [Nat.mul_assoc, Nat.mul_assoc, Nat.mul_comm (2 ^ s)]
  ·intro k hk
   simp only at hk ⊢
   rw [bZ (by omega), hz k (by omega)]
 ·have hi2 : i = ls.length := by omega
  subst hi2
  rw [bN (Nat.le_refl _)] at hN
  repeat' (first|refine dm rfl ?_|refine aD rfl rfl ⟨_, _, rfl⟩ (by omega) ?_|refine dk rfl rfl hbk (by omega) (fun w4 hc4 hb4 => ⟨fun _ _ => trivial, ?_⟩)|refine ai rfl ?_|refine aa ?_|refine aj ?_|refine ah rfl ?_|refine ae ?_|refine aK ?_)
  rw [Nat.mod_eq_of_lt (by omega)] at hb4
  have hset := cA (l := S) (k := ls.length) (v := cy) (by omega)
  rw [hz ls.length (by omega), Nat.zero_mul, Nat.add_zero, hN] at hset
  refine bB rfl (rt rfl) ⟨g, S.set ls.length cy, rfl, l2, hb4, by simp [hSl], hSL.set (by omega), hset, ?_, hE.chg hc4 l2⟩
  rw [jb (by omega)]; exact hcy
end Go.Proofs.Ytiejljicpinheaa
namespace Go.LM
structure KnD (B E u0 u1 u2 ur v1 v2 vr u v : Nat) : Prop where
 hv : v = (v1 * B + v2) * E + vr
 hu : u = ((u0 * B + u1) * B + u2) * E + ur
 hE : 0 < E
 hvr : vr < E
 hur : ur < E
 hv1 : v1 < B
 hv2 : v2 < B
 hu1 : u1 < B
 hu2 : u2 < B
 hlt : u < v * B
 htop : B ≤ 2 * v1
 hB : 2 ≤ B
section
variable {B E u0 u1 u2 ur v1 v2 vr u v : Nat}
theorem KnD.vpos (h : KnD B E u0 u1 u2 ur v1 v2 vr u v) : B * E ≤ v := by
 have h1 : 1 ≤ v1 := by have := h.htop; have := h.hB; omega
 have h2 : 1 * B ≤ v1 * B := Nat.mul_le_mul_right B h1
 have h3 : B * E ≤ (v1 * B + v2) * E := Nat.mul_le_mul_right E (by omega)
 have := h.hv
 omega
theorem KnD.v0 (h : KnD B E u0 u1 u2 ur v1 v2 vr u v) : 0 < v := Nat.lt_of_lt_of_le (Nat.mul_pos (by have := h.hB; omega) h.hE) h.vpos
theorem KnD.qlt (h : KnD B E u0 u1 u2 ur v1 v2 vr u v) : u / v < B := Nat.div_lt_of_lt_mul h.hlt
theorem KnD.u0_le (h : KnD B E u0 u1 u2 ur v1 v2 vr u v) : u0 ≤ v1 := by
 have hlt := h.hlt
 refine Classical.byContradiction fun hc => ?_
 have h1 : (v1 + 1) * B ≤ u0 * B := Nat.mul_le_mul_right B (by omega)
 have h2 : v1 * B + v2 + 1 ≤ u0 * B + u1 := by have h1' := h1; rw [Nat.add_mul, Nat.one_mul] at h1'; have := h.hv2; omega
 have h3 : (v1 * B + v2 + 1) * B ≤ (u0 * B + u1) * B + u2 := Nat.le_trans (Nat.mul_le_mul_right B h2) (Nat.le_add_right _ _)
 have h4 : (v1 * B + v2 + 1) * B * E ≤ u := by
  have := Nat.mul_le_mul_right E h3
  have := h.hu
  omega
 have h5 : v * B ≤ (v1 * B + v2 + 1) * B * E := by
  have : v ≤ (v1 * B + v2 + 1) * E := by rw [h.hv, Nat.succ_mul]; have := h.hvr; omega
  calc v * B ≤ (v1 * B + v2 + 1) * E * B := Nat.mul_le_mul_right B this
   _ = (v1 * B + v2 + 1) * B * E := by rw [Nat.mul_assoc, Nat.mul_comm E B, Nat.mul_assoc]
 omega
theorem KnD.first (h : KnD B E u0 u1 u2 ur v1 v2 vr u v) : u / v ≤ (u0 * B + u1) / v1 ∧ (u0 * B + u1) / v1 ≤ B + 1 := by
 have hv1 : 0 < v1 := by have := h.htop; have := h.hB; omega
 constructor
 ·rw [Nat.le_div_iff_mul_le hv1]
  refine Classical.byContradiction fun hc => ?_
  have h1 : u0 * B + u1 + 1 ≤ u / v * v1 := by omega
  have h2 : (u0 * B + u1 + 1) * B * E ≤ u / v * v1 * B * E := Nat.mul_le_mul_right E (Nat.mul_le_mul_right B h1)
  have h3 : u / v * v1 * B * E ≤ u / v * v := by
   rw [Nat.mul_assoc, Nat.mul_assoc]
   refine Nat.mul_le_mul_left _ ?_
   rw [h.hv, ← Nat.mul_assoc, Nat.add_mul]
   omega
  have h4 : u / v * v ≤ u := Nat.div_mul_le_self u v
  have h5 : u < (u0 * B + u1 + 1) * B * E := by
   have e1 : (u0 * B + u1 + 1) * B * E = (u0 * B + u1) * B * E + B * E := by rw [Nat.add_mul, Nat.one_mul, Nat.add_mul]
   have e2 : u = (u0 * B + u1) * B * E + u2 * E + ur := by rw [h.hu, Nat.add_mul]
   have e3 : (u2 + 1) * E ≤ B * E := Nat.mul_le_mul_right E h.hu2
   have e4 : (u2 + 1) * E = u2 * E + E := by rw [Nat.add_mul, Nat.one_mul]
   have := h.hur
   omega
  omega
 ·have h1 := h.u0_le
  have h2 : u0 * B ≤ v1 * B := Nat.mul_le_mul_right B h1
  refine Nat.le_of_lt_succ ((Nat.div_lt_iff_lt_mul hv1).2 ?_)
  have e : (B + 1 + 1) * v1 = v1 * B + 2 * v1 := by rw [Nat.add_assoc, Nat.add_mul, Nat.mul_comm B v1]
  rw [Nat.succ_eq_add_one, e]
  have := h.htop; have := h.hu1
  omega
theorem KnD.down (h : KnD B E u0 u1 u2 ur v1 v2 vr u v) {g r : Nat} (hg : g * v1 + r = u0 * B + u1) (hq : u / v ≤ g) (hc : B ≤ g ∨ r * B + u2 < g * v2) : u / v + 1 ≤ g := by
 rcases hc with hc | hc
 ·have := h.qlt; omega
 ·refine Classical.byContradiction fun hn => ?_
  have e : g = u / v := by omega
  have h1 : g * v ≤ u := by rw [e]; exact Nat.div_mul_le_self u v
  have h2 : g * (v1 * B + v2) * E ≤ g * v := by rw [Nat.mul_assoc]; exact Nat.mul_le_mul_left _ (by rw [h.hv]; omega)
  have h3 : g * (v1 * B + v2) * E < ((u0 * B + u1) * B + u2 + 1) * E := by
   have := h.hu; have := h.hur
   rw [Nat.add_mul _ 1, Nat.one_mul]; omega
  have h4 : g * (v1 * B + v2) < (u0 * B + u1) * B + u2 + 1 := Nat.lt_of_mul_lt_mul_right h3
  rw [← hg, Nat.mul_add, ← Nat.mul_assoc, Nat.add_mul] at h4
  omega
theorem KnD.done (h : KnD B E u0 u1 u2 ur v1 v2 vr u v) {g r : Nat} (hg : g * v1 + r = u0 * B + u1) (hgB : g ≤ B) (hc : g * v2 ≤ r * B + u2 ∨ B ≤ r) : g ≤ u / v + 1 := by
 have h1 : g * v2 ≤ r * B + u2 := by
  rcases hc with hc | hc
  ·exact hc
  ·have a1 : g * v2 ≤ B * B := Nat.mul_le_mul hgB (Nat.le_of_lt h.hv2)
   have a2 : B * B ≤ r * B := Nat.mul_le_mul_right B hc
   omega
 have h2 : g * (v1 * B + v2) ≤ (u0 * B + u1) * B + u2 := by rw [← hg, Nat.mul_add, ← Nat.mul_assoc, Nat.add_mul]; omega
 have h3 : g * v ≤ u + v := by
  have a1 : g * v = g * (v1 * B + v2) * E + g * vr := by rw [h.hv, Nat.mul_add, ← Nat.mul_assoc]
  have a2 : g * (v1 * B + v2) * E ≤ ((u0 * B + u1) * B + u2) * E := Nat.mul_le_mul_right E h2
  have a3 : g * vr ≤ B * E := Nat.mul_le_mul hgB (Nat.le_of_lt h.hvr)
  have := h.vpos; have := h.hu
  omega
 cases g with
 | zero => exact Nat.zero_le _
 | succ g =>
  have : g * v ≤ u := by rw [Nat.succ_mul] at h3; omega
  have := (Nat.le_div_iff_mul_le h.v0).2 this
  omega
end
end Go.LM
