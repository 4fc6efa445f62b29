import Derived.Test.YtppipmkpmmdcjaaGreatA04
namespace Go.W
section
variable {P : Program} {S : World → Prop} {ops : List Oper} {K : Env → World → Prop} {rest : List (Oper × Option Bool)} {ρ : Env} {w : World} {b : Option Bool} {kf : Bool} {d : Nat} {dst : Option Nat} {T T' : TypeId} {pos : String} {af : Array Edge}
theorem pc {x ix : Operand} {s : ByteArray} {j : Nat} {k : IntKind} {m : Nat} (hu : P.underlying T' = some .string) (hx : ev ρ x = .string s) (hi : ev ρ ix = .int k (j : Int)) (hv : (s[j]?).map (·.toNat) = some m)
  (h : RR P S ops K rest (upd ρ d (.int .u8 (m : Int))) w) : RR P S ops K ((⟨some d, .index T' x ix, T, pos, af, none⟩, b) :: rest) ρ w := by
 refine cg rfl (fun w' => ?_) h
 obtain ⟨u, hu2, rfl⟩ := Option.map_eq_some_iff.1 hv
 simp [execOp, Instr.index, hx, hi, asIntOf, underlying, hu, hu2]
end
end Go.W
namespace Go.LM
theorem gA {l : List Nat} {k : Nat} (h : k < l.length) : natOf (l.drop k) = l.getD k 0 + 4294967296 * natOf (l.drop (k + 1)) := by
 rw [List.drop_eq_getElem_cons h]
 simp [natOf, List.getD_eq_getElem?_getD, h]
theorem nR {l : List Nat} {k j v : Nat} (h : k < j) : (l.set k v).drop j = l.drop j := by
 apply List.ext_getElem?
 intro i
 simp [List.getElem?_drop, List.getElem?_set_ne (show k ≠ j + i by omega)]
end Go.LM
namespace Go.Proofs.YtppipmkpmmdcjaaGreat
open Go.W Go.LM
def bitL (x : Nat) : Nat := if x = 0 then 0 else Nat.log2 x + 1
theorem jv {x : Nat} (h : 0 < x) : 2 ^ (bitL x - 1) ≤ x ∧ x < 2 ^ bitL x ∧ 0 < bitL x := by
 unfold bitL
 rw [if_neg (by omega)]
 exact ⟨by simpa using Nat.log2_self_le (by omega), Nat.lt_log2_self, by omega⟩
theorem kM {x k : Nat} (h : 2 ^ k ≤ x) : bitL (x / 2 ^ k) + k = bitL x := by
 have hp : 0 < 2 ^ k := Nat.two_pow_pos k
 have h0 : 0 < x / 2 ^ k := Nat.div_pos h hp
 obtain ⟨h1, h2, h3⟩ := jv h0
 obtain ⟨g1, g2, g3⟩ := jv (show 0 < x by omega)
 have e1 : 2 ^ (bitL (x / 2 ^ k) - 1 + k) ≤ x := by
  rw [Nat.pow_add]; exact (Nat.le_div_iff_mul_le hp).1 h1
 have e2 : x < 2 ^ (bitL (x / 2 ^ k) + k) := by
  rw [Nat.pow_add]; exact (Nat.div_lt_iff_lt_mul hp).1 h2
 have a1 : bitL (x / 2 ^ k) - 1 + k < bitL x := (Nat.pow_lt_pow_iff_right (by decide : 1 < 2)).1 (Nat.lt_of_le_of_lt e1 g2)
 have a2 : bitL x - 1 < bitL (x / 2 ^ k) + k := (Nat.pow_lt_pow_iff_right (by decide : 1 < 2)).1 (Nat.lt_of_le_of_lt g1 e2)
 omega
theorem pf {x : Nat} (hx : x < 4294967296) (w : World) : CallsR Tryz.prog 101 #[.int .u32 (x : Int)] w fun v w' => v = .int .i64 (bitL x : Int) ∧ w' = w := by
 refine aH (args := [_]) Tryz.func101 rfl rfl ?_
 repeat' (first|refine ai rfl ?_|refine aa ?_|refine aj ?_|refine ah rfl ?_|refine ae ?_)
 refine cD (ι := Nat × Nat) [0, 2, 5, 6] (fun s => [(0, .int .u32 (s.1 : Int)), (2, .int .i64 (s.2 : Int))])
  (fun s w' => w' = w ∧ s.1 < 65536 ∧ s.2 ≤ 16 ∧ bitL s.1 + s.2 = bitL x) ?_ ?_
 ·repeat' (first|refine fY (j := 16) rfl rfl (.inl rfl) ?_|refine ai rfl ?_|refine aa ?_|refine aj ?_|refine ah rfl ?_|refine ae ?_|refine aP rfl (fun hc => ?_) (fun hc => ?_)|refine aF ?_)
  ·refine ⟨⟨(x >>> 16, 16), ⟨rfl, by simp only [Nat.shiftRight_eq_div_pow]; omega, by simp, by simp only [Nat.shiftRight_eq_div_pow]; exact kM (by omega)⟩, rfl, rfl, trivial⟩, (by (repeat (first|exact aM _ _|refine aw rfl ?_|refine au rfl ?_|refine ak rfl ?_|refine ao rfl ?_)))⟩
  ·refine ⟨⟨(x, 0), ⟨rfl, by simp only; omega, by simp, rfl⟩, rfl, rfl, trivial⟩, (by (repeat (first|exact aM _ _|refine aw rfl ?_|refine au rfl ?_|refine ak rfl ?_|refine ao rfl ?_)))⟩
 rintro ⟨y, n⟩ ξ w1 ⟨rfl, hy, hn, he⟩
 simp only at hy hn he
 show CW _ _ _ _ (over [(0, .int .u32 (y : Int)), (2, .int .i64 (n : Int))] _) w1
 repeat' (first|refine ai rfl ?_|refine aa ?_|refine aj ?_|refine ah rfl ?_|refine ae ?_)
 refine cD (ι := Nat × Nat) [0, 2, 9, 10, 11, 12] (fun s => [(0, .int .u32 (s.1 : Int)), (2, .int .i64 (s.2 : Int))])
  (fun s w' => w' = w1 ∧ s.1 < 256 ∧ s.2 ≤ 24 ∧ bitL s.1 + s.2 = bitL x) ?_ ?_
 ·repeat' (first|refine fY (j := 8) rfl rfl (.inl rfl) ?_|refine fE (m := n) (m' := 8) rfl rfl (by omega) ?_|refine ai rfl ?_|refine aa ?_|refine aj ?_|refine ah rfl ?_|refine ae ?_|refine aP rfl (fun hc => ?_) (fun hc => ?_)|refine aF ?_)
  ·refine ⟨⟨(y >>> 8, n + 8), ⟨rfl, by simp only [Nat.shiftRight_eq_div_pow]; omega, by simp only; omega, ?_⟩, rfl, rfl, trivial⟩, (by (repeat (first|exact aM _ _|refine aw rfl ?_|refine au rfl ?_|refine ak rfl ?_|refine ao rfl ?_)))⟩
   simp only [Nat.shiftRight_eq_div_pow]
   have := kM (x := y) (k := 8) (by omega)
   omega
  ·refine ⟨⟨(y, n), ⟨rfl, by simp only; omega, by simp only; omega, he⟩, rfl, rfl, trivial⟩, (by (repeat (first|exact aM _ _|refine aw rfl ?_|refine au rfl ?_|refine ak rfl ?_|refine ao rfl ?_)))⟩
 clear hy hn he
 rintro ⟨y, n⟩ ξ2 w2 ⟨rfl, hy, hn, he⟩
 simp only at hy hn he
 show CW _ _ _ _ (over [(0, .int .u32 (y : Int)), (2, .int .i64 (n : Int))] _) w2
 have hb : bitL y ≤ 8 := by
  unfold bitL
  split
  ·omega
  ·have := (Nat.log2_lt (n := y) (k := 8) (by omega)).2 hy; omega
 repeat' (first|refine d6 rfl (sZ (by omega) (by omega)) ?_|refine ai rfl ?_|refine aj ?_|refine ah rfl ?_)
 refine pc (j := y) (m := bitL y) (by kernel_rfl) rfl rfl ?_ ?_
 ·revert hy
  clear he hn hb
  revert y
  decide +kernel
 repeat' (first|refine d6 rfl (d5 (by omega) (by omega)) ?_|refine fE (m := n) (m' := bitL y) rfl rfl (by omega) ?_|refine ai rfl ?_|refine aa ?_|refine ae ?_|refine aR ?_)
 refine bK rfl (rt rfl) ⟨?_, rfl⟩
 show Value.int .i64 _ = _
 rw [← he, Nat.add_comm]
theorem qy {x : Nat} (hx : x < 4294967296) (h0 : 0 < x) (w : World) : CallsR Tryz.prog 82 #[.int .u32 (x : Int)] w fun v w' => ∃ s : Nat, v = .int .i64 (s : Int) ∧ w' = w ∧ s ≤ 31 ∧ 2147483648 ≤ x * 2 ^ s ∧ x * 2 ^ s < 4294967296 := by
 refine aH (args := [_]) Tryz.func82 rfl rfl ?_
 repeat' (first|refine ai rfl ?_|refine aa ?_|refine aj ?_|refine ah rfl ?_|refine ae ?_)
 refine av (pf hx w) rfl ?_
 rintro v w2 ⟨rfl, rfl⟩
 refine ⟨fun _ _ => trivial, ?_⟩
 obtain ⟨h1, h2, h3⟩ := jv h0
 have hb : bitL x ≤ 32 := by
  have : bitL x - 1 < 32 := (Nat.pow_lt_pow_iff_right (by decide : 1 < 2)).1 (Nat.lt_of_le_of_lt h1 (show x < 2 ^ 32 from hx))
  omega
 repeat' (first|refine ai rfl ?_|refine aa ?_|refine ae ?_|refine cO rfl rfl (by omega) (by omega) ?_|refine aR ?_)
 refine bK rfl (rt rfl) ⟨32 - bitL x, ?_, rfl, by omega, ?_, ?_⟩
 ·show Value.int .i64 ((32 : Int) - (bitL x : Int)) = _
  rw [show ((32 : Int) - (bitL x : Int)) = ((32 - bitL x : Nat) : Int) by omega]
 ·calc 2147483648 = 2 ^ (bitL x - 1) * 2 ^ (32 - bitL x) := by rw [← Nat.pow_add, show bitL x - 1 + (32 - bitL x) = 31 by omega]
   _ ≤ x * 2 ^ (32 - bitL x) := Nat.mul_le_mul_right _ h1
 ·calc x * 2 ^ (32 - bitL x) < 2 ^ bitL x * 2 ^ (32 - bitL x) := Nat.mul_lt_mul_of_pos_right h2 (Nat.two_pow_pos _)
   _ = 4294967296 := by rw [← Nat.pow_add, show bitL x + (32 - bitL x) = 32 by omega]
set_option maxHeartbeats 2000000 in
theorem gT {ls : List Nat} {a : Option Addr} {c s : Nat} {w : World} (h : Limbs w a c ls) (hs : s ≤ 31) (hlen : ls.length < 17592186044416) :
  CallsR Tryz.prog 83 #[.slice a ls.length c, .int .i64 (s : Int)] w fun v w' => ∃ g S, v = .slice (some ⟨g, 0, none⟩) (ls.length + 1) (ls.length + 1) ∧ w.heap.size ≤ g ∧ Blk w' g 53 (limbsL S) ∧ S.length = ls.length + 1 ∧ Lim S ∧ natOf S = natOf ls * 2 ^ s ∧ S.getD ls.length 0 < 2 ^ s ∧ Ex w w' := by
 have h2s : 2 ^ s ≤ 2147483648 := Nat.pow_le_pow_right (by decide) hs
 have h0s : 0 < 2 ^ s := Nat.two_pow_pos s
 refine aH (args := [_, _]) Tryz.func83 rfl rfl ?_
 repeat' (first|refine fE (m := ls.length) (m' := 1) rfl rfl (by omega) ?_|refine eM rfl rfl (by omega) (by omega) (fun g w2 hn2 => ⟨fun _ _ => trivial, ?_⟩)|refine ai rfl ?_|refine aa ?_|refine aj ?_|refine ah rfl ?_|refine ae ?_|refine bh rfl ?_|refine aA ?_)
 have l2 := hn2.lo
 refine aY (ι := Nat × List Nat × Nat) [6, 7, 8, 15, 16, 17, 18, 19, 20, 21, 22, 23, 24, 25, 26, 27, 28, 29, 30, 31, 32, 33] (fun s => [(15, .int .i64 (s.1 : Int)), (6, .int .u64 (s.2.2 : Int))])
  (fun t w' => t.1 ≤ ls.length ∧ Ex w w' ∧ Blk w' g 53 (limbsL t.2.1) ∧ t.2.1.length = ls.length + 1 ∧ Lim t.2.1 ∧ t.2.2 < 2 ^ s ∧ natOf t.2.1 + t.2.2 * 4294967296 ^ t.1 = natOf (ls.take t.1) * 2 ^ s ∧ ∀ j, t.1 ≤ j → t.2.1.getD j 0 = 0) (fun s => ls.length - s.1)
  (0, List.replicate (ls.length + 1) 0, 0) ⟨rfl, rfl, trivial⟩ ⟨by simp, hn2.ex, hn2.blk, by simp, Lim.zeros _, h0s, by simp [cV, natOf], fun j _ => by simp [List.getD_eq_getElem?_getD, List.getElem?_replicate]; split <;> rfl⟩ ?_
 rintro ⟨i, S, cy⟩ ξ w3 ⟨hi, hE, hbk, hSl, hSL, hcy, hN, hz⟩
 simp only at hi hbk hSl hSL hcy hN hz
 show CW _ _ _ _ (over [(15, .int .i64 (i : Int)), (6, .int .u64 (cy : Int))] _) w3
 have hx := h.lim.getD i
 have h3 := h.ext hE
 have hsh : (ls.getD i 0 <<< s) % 2 ^ IntKind.u64.bits = ls.getD i 0 <<< s := Nat.mod_eq_of_lt (by
  rw [Nat.shiftLeft_eq]
  have : ls.getD i 0 * 2 ^ s ≤ 4294967296 * 2147483648 := Nat.mul_le_mul (by omega) h2s
  simp only [IntKind.bits]; omega)
 have hsh2 : ls.getD i 0 <<< s < 18446744073709551616 := by
  rw [Nat.shiftLeft_eq]
  have : ls.getD i 0 * 2 ^ s ≤ 4294967296 * 2147483648 := Nat.mul_le_mul (by omega) h2s
  omega
 repeat' (first|(refine aC rfl rfl (h3.sl.plain (by simp; omega)) (by omega) ?_)|refine bI rfl h3.sl (by omega) ?_|refine gL rfl (by assumption) ?_|refine ai rfl ?_|refine aa ?_|refine aj ?_|refine ah rfl ?_|refine ae ?_|refine bh rfl ?_|refine aP rfl (fun hc => ?_) (fun hc => ?_)|refine aA ?_|refine aV ?_|refine aL ?_|refine aW ?_|refine aF ?_)
 ·refine jp (j := s) rfl rfl rfl (by simp only [IntKind.bits]; omega) ?_
  rw [hsh]
  refine ko rfl rfl rfl (by simp only [IntKind.bits]; omega) hsh2 ?_
  repeat' (first|refine dD rfl ?_|refine d7 rfl rfl ?_|refine aC rfl rfl ⟨_, _, rfl⟩ (by omega) ?_|refine dC rfl rfl hbk (by omega) (fun w4 hc4 hb4 => ⟨fun _ _ => trivial, ?_⟩)|refine ai rfl ?_|refine aa ?_|refine aj ?_|refine ah rfl ?_|refine ae ?_|refine aZ rfl rfl (by omega) (by omega) ?_|refine aK ?_)
  refine ⟨⟨(i + 1, S.set i ((cy ||| ls.getD i 0 <<< s) % 4294967296), (cy ||| ls.getD i 0 <<< s) / 4294967296), ⟨by simp only; omega, hE.chg hc4 l2, hb4, by simp [hSl], hSL.set (Nat.mod_lt _ (by decide)), qx hcy hx, ?_, ?_⟩, by simp only; omega, rfl, rfl, trivial⟩, (by (repeat (first|exact aE _ _ _|refine aw rfl ?_|refine au rfl ?_|refine ak rfl ?_|refine ao rfl ?_)))⟩
  ·have := rD (m := ls.getD i 0) (show i < S.length by omega) (hz i (Nat.le_refl _)) hN hcy
   simp only
   rw [this, bQ, Nat.add_mul]
   congr 1
   rw [Nat.mul_assoc, Nat.mul_assoc, Nat.mul_comm (2 ^ s)]
  ·intro k hk
   simp only at hk ⊢
   rw [ct (by omega), hz k (by omega)]
 ·have hi2 : i = ls.length := by omega
  subst hi2
  rw [bU (Nat.le_refl _)] at hN
  repeat' (first|refine dD rfl ?_|refine aC rfl rfl ⟨_, _, rfl⟩ (by omega) ?_|refine dC rfl rfl hbk (by omega) (fun w4 hc4 hb4 => ⟨fun _ _ => trivial, ?_⟩)|refine ai rfl ?_|refine aa ?_|refine aj ?_|refine ah rfl ?_|refine ae ?_|refine aR ?_)
  rw [Nat.mod_eq_of_lt (by omega)] at hb4
  have hset := cJ (l := S) (k := ls.length) (v := cy) (by omega)
  rw [hz ls.length (by omega), Nat.zero_mul, Nat.add_zero, hN] at hset
  refine bK rfl (rt rfl) ⟨g, S.set ls.length cy, rfl, l2, hb4, by simp [hSl], hSL.set (by omega), hset, ?_, hE.chg hc4 l2⟩
  rw [jK (by omega)]; exact hcy
end Go.Proofs.YtppipmkpmmdcjaaGreat
namespace Go.LM
structure KnD (B E u0 u1 u2 ur v1 v2 vr u v : Nat) : Prop where
 hv : v = (v1 * B + v2) * E + vr
 hu : u = ((u0 * B + u1) * B + u2) * E + ur
 hE : 0 < E
 hvr : vr < E
 hur : ur < E
 hv1 : v1 < B
 hv2 : v2 < B
 hu1 : u1 < B
 hu2 : u2 < B
 hlt : u < v * B
 htop : B ≤ 2 * v1
 hB : 2 ≤ B
section
variable {B E u0 u1 u2 ur v1 v2 vr u v : Nat}
theorem KnD.vpos (h : KnD B E u0 u1 u2 ur v1 v2 vr u v) : B * E ≤ v := by
 have h1 : 1 ≤ v1 := by have := h.htop; have := h.hB; omega
 have h2 : 1 * B ≤ v1 * B := Nat.mul_le_mul_right B h1
 have h3 : B * E ≤ (v1 * B + v2) * E := Nat.mul_le_mul_right E (by omega)
 have := h.hv
 omega
theorem KnD.v0 (h : KnD B E u0 u1 u2 ur v1 v2 vr u v) : 0 < v := Nat.lt_of_lt_of_le (Nat.mul_pos (by have := h.hB; omega) h.hE) h.vpos
theorem KnD.qlt (h : KnD B E u0 u1 u2 ur v1 v2 vr u v) : u / v < B := Nat.div_lt_of_lt_mul h.hlt
theorem KnD.u0_le (h : KnD B E u0 u1 u2 ur v1 v2 vr u v) : u0 ≤ v1 := by
 have hlt := h.hlt
 refine Classical.byContradiction fun hc => ?_
 have h1 : (v1 + 1) * B ≤ u0 * B := Nat.mul_le_mul_right B (by omega)
 have h2 : v1 * B + v2 + 1 ≤ u0 * B + u1 := by have h1' := h1; rw [Nat.add_mul, Nat.one_mul] at h1'; have := h.hv2; omega
 have h3 : (v1 * B + v2 + 1) * B ≤ (u0 * B + u1) * B + u2 := Nat.le_trans (Nat.mul_le_mul_right B h2) (Nat.le_add_right _ _)
 have h4 : (v1 * B + v2 + 1) * B * E ≤ u := by
  have := Nat.mul_le_mul_right E h3
  have := h.hu
  omega
 have h5 : v * B ≤ (v1 * B + v2 + 1) * B * E := by
  have : v ≤ (v1 * B + v2 + 1) * E := by rw [h.hv, Nat.succ_mul]; have := h.hvr; omega
  calc v * B ≤ (v1 * B + v2 + 1) * E * B := Nat.mul_le_mul_right B this
   _ = (v1 * B + v2 + 1) * B * E := by rw [Nat.mul_assoc, Nat.mul_comm E B, Nat.mul_assoc]
 omega
theorem KnD.first (h : KnD B E u0 u1 u2 ur v1 v2 vr u v) : u / v ≤ (u0 * B + u1) / v1 ∧ (u0 * B + u1) / v1 ≤ B + 1 := by
 have hv1 : 0 < v1 := by have := h.htop; have := h.hB; omega
 constructor
 ·rw [Nat.le_div_iff_mul_le hv1]
  refine Classical.byContradiction fun hc => ?_
  have h1 : u0 * B + u1 + 1 ≤ u / v * v1 := by omega
  have h2 : (u0 * B + u1 + 1) * B * E ≤ u / v * v1 * B * E := Nat.mul_le_mul_right E (Nat.mul_le_mul_right B h1)
  have h3 : u / v * v1 * B * E ≤ u / v * v := by
   rw [Nat.mul_assoc, Nat.mul_assoc]
   refine Nat.mul_le_mul_left _ ?_
   rw [h.hv, ← Nat.mul_assoc, Nat.add_mul]
   omega
  have h4 : u / v * v ≤ u := Nat.div_mul_le_self u v
  have h5 : u < (u0 * B + u1 + 1) * B * E := by
   have e1 : (u0 * B + u1 + 1) * B * E = (u0 * B + u1) * B * E + B * E := by rw [Nat.add_mul, Nat.one_mul, Nat.add_mul]
   have e2 : u = (u0 * B + u1) * B * E + u2 * E + ur := by rw [h.hu, Nat.add_mul]
   have e3 : (u2 + 1) * E ≤ B * E := Nat.mul_le_mul_right E h.hu2
   have e4 : (u2 + 1) * E = u2 * E + E := by rw [Nat.add_mul, Nat.one_mul]
   have := h.hur
   omega
  omega
 ·have h1 := h.u0_le
  have h2 : u0 * B ≤ v1 * B := Nat.mul_le_mul_right B h1
  refine Nat.le_of_lt_succ ((Nat.div_lt_iff_lt_mul hv1).2 ?_)
  have e : (B + 1 + 1) * v1 = v1 * B + 2 * v1 := by rw [Nat.add_assoc, Nat.add_mul, Nat.mul_comm B v1]
  rw [Nat.succ_eq_add_one, e]
  have := h.htop; have := h.hu1
  omega
theorem KnD.down (h : KnD B E u0 u1 u2 ur v1 v2 vr u v) {g r : Nat} (hg : g * v1 + r = u0 * B + u1) (hq : u / v ≤ g) (hc : B ≤ g ∨ r * B + u2 < g * v2) : u / v + 1 ≤ g := by
 rcases hc with hc | hc
 ·have := h.qlt; omega
 ·refine Classical.byContradiction fun hn => ?_
  have e : g = u / v := by omega
  have h1 : g * v ≤ u := by rw [e]; exact Nat.div_mul_le_self u v
  have h2 : g * (v1 * B + v2) * E ≤ g * v := by rw [Nat.mul_assoc]; exact Nat.mul_le_mul_left _ (by rw [h.hv]; omega)
  have h3 : g * (v1 * B + v2) * E < ((u0 * B + u1) * B + u2 + 1) * E := by
   have := h.hu; have := h.hur
   rw [Nat.add_mul _ 1, Nat.one_mul]; omega
  have h4 : g * (v1 * B + v2) < (u0 * B + u1) * B + u2 + 1 := Nat.lt_of_mul_lt_mul_right h3
  rw [← hg, Nat.mul_add, ← Nat.mul_assoc, Nat.add_mul] at h4
  omega
theorem KnD.done (h : KnD B E u0 u1 u2 ur v1 v2 vr u v) {g r : Nat} (hg : g * v1 + r = u0 * B + u1) (hgB : g ≤ B) (hc : g * v2 ≤ r * B + u2 ∨ B ≤ r) : g ≤ u / v + 1 := by
 have h1 : g * v2 ≤ r * B + u2 := by
  rcases hc with hc | hc
  ·exact hc
  ·have a1 : g * v2 ≤ B * B := Nat.mul_le_mul hgB (Nat.le_of_lt h.hv2)
   have a2 : B * B ≤ r * B := Nat.mul_le_mul_right B hc
   omega
 have h2 : g * (v1 * B + v2) ≤ (u0 * B + u1) * B + u2 := by rw [← hg, Nat.mul_add, ← Nat.mul_assoc, Nat.add_mul]; omega
 have h3 : g * v ≤ u + v := by
  have a1 : g * v = g * (v1 * B + v2) * E + g * vr := by rw [h.hv, Nat.mul_add, ← Nat.mul_assoc]
  have a2 : g * (v1 * B + v2) * E ≤ ((u0 * B + u1) * B + u2) * E := Nat.mul_le_mul_right E h2
  have a3 : g * vr ≤ B * E := Nat.mul_le_mul hgB (Nat.le_of_lt h.hvr)
  have := h.vpos; have := h.hu
  omega
 cases g with
 | zero => exact Nat.zero_le _
 | succ g =>
  have : g * v ≤ u := by rw [Nat.succ_mul] at h3; omega
  have := (Nat.le_div_iff_mul_le h.v0).2 this
  omega
end
end Go.LM
namespace Go.W
section
variable {P : Program} {S : World → Prop} {ops : List Oper} {K : Env → World → Prop} {rest : List (Oper × Option Bool)} {ρ : Env} {w : World} {b : Option Bool} {kf : Bool} {d : Nat} {dst : Option Nat} {T T' : TypeId} {pos : String} {af : Array Edge}
theorem kb {x y : Operand} {k' : IntKind} {m : Nat} {T'' : TypeId} (hx : ev ρ x = .int .u64 (m : Int)) (hy : ev ρ y = .int k' 32) (hm : m < 4294967296)
  (h : RR P S ops K rest (upd ρ d (.int .u64 ((m * 4294967296 : Nat) : Int))) w) : RR P S ops K ((⟨some d, .binOp .shl T' x y T'', T, pos, af, none⟩, b) :: rest) ρ w :=
 jp (j := 32) hx hy rfl (by decide) (by
  rw [show (m <<< 32) % 2 ^ IntKind.u64.bits = m * 4294967296 by rw [Nat.shiftLeft_eq]; exact Nat.mod_eq_of_lt (by simp only [IntKind.bits]; omega)]
  exact h)
theorem pg {x y : Operand} {m m' : Nat} {T'' : TypeId} (hx : ev ρ x = .int .u64 ((m * 4294967296 : Nat) : Int)) (hy : ev ρ y = .int .u64 (m' : Int)) (hm : m < 4294967296) (hm' : m' < 4294967296)
  (h : RR P S ops K rest (upd ρ d (.int .u64 ((m * 4294967296 + m' : Nat) : Int))) w) : RR P S ops K ((⟨some d, .binOp .or T' x y T'', T, pos, af, none⟩, b) :: rest) ρ w :=
 ko hx hy rfl (by simp only [IntKind.bits]; omega) (by simp only [IntKind.bits]; omega) (by
  rw [show (m * 4294967296 ||| m') = m * 4294967296 + m' by
   rw [show m * 4294967296 = m <<< 32 by rw [Nat.shiftLeft_eq], ← Nat.shiftLeft_add_eq_or_of_lt (show m' < 2 ^ 32 by omega)]]
  exact h)
theorem uH {x y : Operand} {m m' : Nat} {T'' : TypeId} (hx : ev ρ x = .int .u64 (m' : Int)) (hy : ev ρ y = .int .u64 ((m * 4294967296 : Nat) : Int)) (hm : m < 4294967296) (hm' : m' < 4294967296)
  (h : RR P S ops K rest (upd ρ d (.int .u64 ((m' + 4294967296 * m : Nat) : Int))) w) : RR P S ops K ((⟨some d, .binOp .or T' x y T'', T, pos, af, none⟩, b) :: rest) ρ w :=
 ko hx hy rfl (by simp only [IntKind.bits]; omega) (by simp only [IntKind.bits]; omega) (by
  rw [show (m' ||| m * 4294967296) = m' + 4294967296 * m by
   rw [Nat.or_comm, show m * 4294967296 = m <<< 32 by rw [Nat.shiftLeft_eq], ← Nat.shiftLeft_add_eq_or_of_lt (show m' < 2 ^ 32 by omega), Nat.shiftLeft_eq]; omega]
  exact h)
theorem rG {x y : Operand} {m m' : Nat} {T'' : TypeId} (hx : ev ρ x = .int .u64 (m : Int)) (hy : ev ρ y = .int .u64 (m' : Int)) (h0 : 0 < m') (hm : m < 18446744073709551616)
  (h : RR P S ops K rest (upd ρ d (.int .u64 ((m / m' : Nat) : Int))) w) : RR P S ops K ((⟨some d, .binOp .quo T' x y T'', T, pos, af, none⟩, b) :: rest) ρ w :=
 oS hx hy (by omega) (by omega) (by omega) h
theorem rH {x y : Operand} {m m' : Nat} {T'' : TypeId} (hx : ev ρ x = .int .u64 (m : Int)) (hy : ev ρ y = .int .u64 (m' : Int)) (h0 : 0 < m')
  (h : RR P S ops K rest (upd ρ d (.int .u64 ((m % m' : Nat) : Int))) w) : RR P S ops K ((⟨some d, .binOp .rem T' x y T'', T, pos, af, none⟩, b) :: rest) ρ w :=
 jH hx hy (by omega) (by omega) h
theorem rI {x y : Operand} {m m' : Nat} {T'' : TypeId} (hx : ev ρ x = .int .u64 (m : Int)) (hy : ev ρ y = .int .u64 (m' : Int)) (h1 : m' ≤ m) (hm : m < 18446744073709551616)
  (h : RR P S ops K rest (upd ρ d (.int .u64 ((m - m' : Nat) : Int))) w) : RR P S ops K ((⟨some d, .binOp .sub T' x y T'', T, pos, af, none⟩, b) :: rest) ρ w :=
 rf hx hy (by rw [dB (by omega) (by omega), show (m : Int) - (m' : Int) = ((m - m' : Nat) : Int) by omega]; exact h)
theorem kN {x y : Operand} {m m' : Nat} {T'' : TypeId} (hx : ev ρ x = .int .i64 (m : Int)) (hy : ev ρ y = .int .i64 (m' : Int)) (h1 : m' ≤ m) (h2 : m ≤ 9223372036854775807)
  (h : RR P S ops K rest (upd ρ d (.int .i64 ((m - m' : Nat) : Int))) w) : RR P S ops K ((⟨some d, .binOp .sub T' x y T'', T, pos, af, none⟩, b) :: rest) ρ w :=
 cO hx hy (by omega) (by omega) (by rw [show (m : Int) - (m' : Int) = ((m - m' : Nat) : Int) by omega]; exact h)
theorem rJ {x y : Operand} {m m' : Nat} {T'' : TypeId} (hx : ev ρ x = .int .u32 (m : Int)) (hy : ev ρ y = .int .u32 (m' : Int))
  (h : RR P S ops K rest (upd ρ d (.int .u32 (((m + m') % 4294967296 : Nat) : Int))) w) : RR P S ops K ((⟨some d, .binOp .add T' x y T'', T, pos, af, none⟩, b) :: rest) ρ w :=
 re hx hy (by
  rw [show IntKind.u32.wrap ((m : Int) + (m' : Int)) = (((m + m') % 4294967296 : Nat) : Int) from (cT rfl).trans (by simp [IntKind.bits])]
  exact h)
end
end Go.W
namespace Go.LM
theorem rK {L S H : List Nat} {i : Nat} (h : i < S.length) : (L ++ S ++ H).getD (L.length + i) 0 = S.getD i 0 := by
 simp [List.getD_eq_getElem?_getD, List.getElem?_append, h]
 rw [if_neg (by omega)]; rfl
theorem tv {L S H : List Nat} {i v : Nat} (h : i < S.length) : (L ++ S ++ H).set (L.length + i) v = L ++ S.set i v ++ H := by
 rw [List.append_assoc, List.set_append_right _ _ (by omega), List.set_append_left _ _ (by omega), ← List.append_assoc]
 simp
def tk (A B : List Nat) (i : Nat) : List Nat := A.take i ++ B.drop i
theorem uI {A B : List Nat} {i : Nat} (h : A.length = B.length) (hi : i ≤ B.length) : (tk A B i).length = B.length := by simp [tk]; omega
theorem tw {A B : List Nat} {i k : Nat} (h : A.length = B.length) (hi : i ≤ k) (hk : k < B.length) : (tk A B i).getD k 0 = B.getD k 0 := by
 unfold tk
 rw [List.getD_eq_getElem?_getD, List.getElem?_append_right (by simp; omega), List.getElem?_drop, List.getD_eq_getElem?_getD]
 simp only [List.length_take]
 rw [show i + (k - min i A.length) = k by omega]
theorem uJ {A B : List Nat} {i : Nat} (h : A.length = B.length) (hi : i < B.length) : (tk A B i).set i (A.getD i 0) = tk A B (i + 1) := by
 unfold tk
 have hl : (A.take i).length = i := by simp; omega
 rw [List.set_append_right _ _ (by omega), hl, Nat.sub_self, cZ (by omega), List.append_assoc, List.drop_eq_getElem_cons hi]
 rfl
theorem uK {A B : List Nat} (h : A.length = B.length) : tk A B B.length = A := by unfold tk; rw [← h, List.take_length, h]; simp
theorem tx {A B : List Nat} : tk A B 0 = B := by simp [tk]
theorem uL {S V : List Nat} {n : Nat} (hS : S.length = n + 1) (hV : V.length = n) (hn : 2 ≤ n) (lS : Lim S) (lV : Lim V) (top : 2147483648 ≤ V.getD (n - 1) 0) (hlt : natOf S < natOf V * 4294967296) :
  KnD 4294967296 (4294967296 ^ (n - 2)) (S.getD n 0) (S.getD (n - 1) 0) (S.getD (n - 2) 0) (natOf (S.take (n - 2))) (V.getD (n - 1) 0) (V.getD (n - 2) 0) (natOf (V.take (n - 2))) (natOf S) (natOf V) := by
 obtain ⟨m, rfl⟩ : ∃ m, n = m + 2 := ⟨n - 2, by omega⟩
 simp only [Nat.add_sub_cancel, show m + 2 - 1 = m + 1 by omega] at *
 have tl : ∀ {X : List Nat} {k : Nat}, Lim X → natOf (X.take k) < 4294967296 ^ k := fun {X k} h => by
  have := bT (h.take k)
  refine Nat.lt_of_lt_of_le this (Nat.pow_le_pow_right (by decide) ?_)
  simp; omega
 have p1 : 4294967296 ^ (m + 1) = 4294967296 ^ m * 4294967296 := Nat.pow_succ _ _
 have p2 : 4294967296 ^ (m + 2) = 4294967296 ^ m * 4294967296 * 4294967296 := by rw [show m + 2 = m + 1 + 1 by omega, Nat.pow_succ, p1]
 have hs : natOf S = natOf (S.take m) + S.getD m 0 * 4294967296 ^ m + S.getD (m + 1) 0 * 4294967296 ^ (m + 1) + S.getD (m + 2) 0 * 4294967296 ^ (m + 2) := by
  have : natOf S = natOf (S.take (m + 3)) := by rw [List.take_of_length_le (by omega)]
  rw [this, bS (by omega), bS (by omega), bS (by omega)]
 have hv : natOf V = natOf (V.take m) + V.getD m 0 * 4294967296 ^ m + V.getD (m + 1) 0 * 4294967296 ^ (m + 1) := by
  have : natOf V = natOf (V.take (m + 2)) := by rw [List.take_of_length_le (by omega)]
  rw [this, bS (by omega), bS (by omega)]
 refine ⟨?_, ?_, Nat.pow_pos (by decide), tl lV, tl lS, lV.getD _, lV.getD _, lS.getD _, lS.getD _, hlt, by omega, by decide⟩
 ·rw [hv, p1]; generalize 4294967296 ^ m = E; grind
 ·rw [hs, p1, p2]; generalize 4294967296 ^ m = E; grind
theorem pi {a b d P : Nat} (ha : a < P) (hb : b < P) (h : a + d * P = b + P) : a = b := by
 have hd : d = 1 := by
  rcases Nat.lt_trichotomy d 1 with h1 | h1 | h1
  ·have : d = 0 := by omega
   subst this; omega
  ·exact h1
  ·have : 2 * P ≤ d * P := Nat.mul_le_mul_right P h1
   omega
 subst hd
 omega
end Go.LM
namespace Go.Proofs.YtppipmkpmmdcjaaGreat
open Go.W Go.LM
section
variable {P : Program} {S0 : World → Prop} {ops : List Oper} {K : Env → World → Prop} {rest : List (Oper × Option Bool)} {ρ : Env} {w : World} {b : Option Bool} {kf : Bool} {d : Nat} {T : TypeId} {pos : String} {af : Array Edge}
theorem fQ {x : Operand} {T1 : TypeId} {g j Tb : Nat} {L S H : List Nat} [Scal P T1] (hx : ev ρ x = .pointer (some (elt (some ⟨g, L.length, none⟩) j))) (hs : Rd b S0 w fun w' => Blk w' g Tb (limbsL (L ++ S ++ H)))
  (hj : j < S.length) (h : RR P S0 ops K rest (upd ρ d (.int .u32 ((S.getD j 0 : Nat) : Int))) w) : RR P S0 ops K ((⟨some d, .load T1 x, T, pos, af, none⟩, b) :: rest) ρ w :=
 nG (o := L.length) (j := j) (xs := L ++ S ++ H) hx hs (by simp; omega) (by rw [rK hj]; exact h)
theorem iG {x y : Operand} {T1 : TypeId} {g j Tb u : Nat} {L S H : List Nat} [hT : Scal P T1] (hx : ev ρ x = .pointer (some (elt (some ⟨g, L.length, none⟩) j))) (hy : ev ρ y = .int .u32 (u : Int))
  (hb : Blk w g Tb (limbsL (L ++ S ++ H))) (hj : j < S.length) (h : ∀ w', Chg g w w' → Blk w' g Tb (limbsL (L ++ S.set j u ++ H)) → (kf = true → S0 w → S0 w') ∧ RR P S0 ops K rest ρ w') :
  RR P S0 ops K ((⟨none, .store T1 x y, T, pos, af, none⟩, some kf) :: rest) ρ w :=
 lN (o := L.length) (j := j) (xs := L ++ S ++ H) hx hy hb (by simp; omega) (by rw [tv hj]; exact h)
end
set_option maxHeartbeats 2000000 in
theorem jZ {ls : List Nat} {g c s : Nat} {w : World} (hb : Blk w g 53 (limbsL ls)) (hl : Lim ls) (hs : s ≤ 31) (hlen : ls.length ≤ 17592186044417) :
  CallsR Tryz.prog 85 #[.slice (some ⟨g, 0, none⟩) ls.length c, .int .i64 (s : Int)] w fun _ w' => Chg g w w' ∧ Blk w' g 53 (limbsL (shrL s ls)) := by
 have hsl := kJ s ls
 refine aH (args := [_, _]) Tryz.func85 rfl rfl ?_
 repeat' (first|refine ai rfl ?_|refine aa ?_|refine aj ?_|refine ah rfl ?_|refine ae ?_|refine bh rfl ?_|refine aA ?_)
 refine aY (ι := Nat) [4, 5, 8, 9, 10, 11, 12, 13, 14, 15, 16, 17, 18, 19, 20, 21, 22, 23, 24, 25, 26, 27, 28, 29, 30, 31, 32, 33, 34, 35, 36, 37] (fun i => [(8, .int .i64 (i : Int))])
  (fun i w' => i ≤ ls.length ∧ Chg g w w' ∧ Blk w' g 53 (limbsL (tk (shrL s ls) ls i))) (fun i => ls.length - i)
  0 ⟨rfl, trivial⟩ ⟨by simp, Chg.refl _ _, by rw [tx]; exact hb⟩ ?_
 rintro i ξ w3 ⟨hi, hC, hbk⟩
 have htl := uI hsl hi
 have hx := hl.getD i
 have hy := hl.getD (i + 1)
 have hset : ∀ {v : Nat} (hil : i < ls.length), v = (shrL s ls).getD i 0 → (tk (shrL s ls) ls i).set i v = tk (shrL s ls) ls (i + 1) := fun hil hv => by rw [hv]; exact uJ hsl hil
 have hget := mb s ls i
 repeat' (first|refine aC rfl rfl ⟨_, _, rfl⟩ (by omega) ?_|refine bI rfl hbk.sl (by omega) ?_|((rw [tw hsl (by omega) (by omega)]))|refine gL rfl (by assumption) ?_|refine kb rfl rfl (by assumption) ?_|refine uH rfl rfl (by assumption) (by assumption) ?_|refine fE (m := i) (m' := 1) rfl rfl (by omega) ?_|(refine fY (j := s) rfl rfl (.inr (by simp only [IntKind.bits]; omega)) ?_)|refine dD rfl ?_|refine dC rfl rfl hbk (by omega) (fun w4 hc4 hb4 => ⟨fun _ _ => trivial, ?_⟩)|refine ai rfl ?_|refine aa ?_|refine aj ?_|refine ah rfl ?_|refine ae ?_|refine bh rfl ?_|refine aP rfl (fun hc => ?_) (fun hc => ?_)|refine aA ?_|refine aV ?_|refine aL ?_|refine aW ?_|refine aK ?_|refine aF ?_)
 ·rw [hset (by omega) (by rw [hget (by omega), Nat.shiftRight_eq_div_pow])] at hb4
  exact ⟨⟨i + 1, ⟨by omega, hC.trans hc4, hb4⟩, by omega, rfl, trivial⟩, (by (repeat (first|exact aE _ _ _|refine aw rfl ?_|refine au rfl ?_|refine ak rfl ?_|refine ao rfl ?_)))⟩
 ·rw [hset (by omega) (by rw [hget (by omega), Nat.shiftRight_eq_div_pow, show ls.getD (i + 1) 0 = 0 by rw [List.getD_eq_getElem?_getD, List.getElem?_eq_none (by omega)]; rfl, Nat.mul_zero, Nat.add_zero])] at hb4
  exact ⟨⟨i + 1, ⟨by omega, hC.trans hc4, hb4⟩, by omega, rfl, trivial⟩, (by (repeat (first|exact aE _ _ _|refine aw rfl ?_|refine au rfl ?_|refine ak rfl ?_|refine ao rfl ?_)))⟩
 ·obtain rfl : i = ls.length := by omega
  rw [uK hsl] at hbk
  exact jq rfl ⟨hC, hbk⟩
end Go.Proofs.YtppipmkpmmdcjaaGreat
namespace Go.Proofs.YtppipmkpmmdcjaaGreat
open Go.W Go.LM
theorem nS {w : World} {lo n cap : Nat} {a : Option Addr} {xs : List Nat} {j u : Nat} {T0 s0 : Nat} (h : Own w lo T0 s0 a n cap ((limbsL xs).set j (.int .u32 (u : Int)))) : Own w lo T0 s0 a n cap (limbsL (xs.set j u)) := by
 unfold limbsL at *
 rw [List.map_set]; exact h
set_option maxHeartbeats 2000000 in
theorem i7 {ls : List Nat} {g cap lo b : Nat} {w : World} (ho : Own w lo 53 1 (some ⟨g, 0, none⟩) ls.length cap (limbsL ls)) (hl : Lim ls) (hb0 : 0 < b) (hb : b < 4294967296) (hlen : ls.length ≤ 17592186044416) :
  CallsR Tryz.prog 81 #[.slice (some ⟨g, 0, none⟩) ls.length cap, .int .u32 (b : Int)] w fun v w' => ∃ L, v = .int .u32 ((natOf ls % b : Nat) : Int) ∧ Chg g w w' ∧ Own w' lo 53 1 (some ⟨g, 0, none⟩) ls.length cap (limbsL L) ∧ Lim L ∧ L.length = ls.length ∧ natOf L = natOf ls / b := by
 refine aH (args := [_, _]) Tryz.func81 rfl rfl ?_
 repeat' (first|refine ai rfl ?_|refine aa ?_|refine aj ?_|refine ah rfl ?_|refine ae ?_|refine bh rfl ?_|refine cO rfl rfl (by omega) (by omega) ?_|refine aA ?_)
 refine aY (ι := Nat × Nat × List Nat) [5, 6, 10, 11, 12, 13, 14, 15, 16, 17, 18, 19, 20, 21, 22, 23, 24, 25, 26, 27, 28, 29, 30, 31, 32, 33] (fun s => [(6, .int .i64 ((s.1 : Int) - 1)), (5, .int .u64 (s.2.1 : Int))])
  (fun s w' => s.1 ≤ ls.length ∧ Chg g w w' ∧ Own w' lo 53 1 (some ⟨g, 0, none⟩) ls.length cap (limbsL s.2.2) ∧ Lim s.2.2 ∧ s.2.2.length = ls.length ∧ s.2.1 < b ∧ b * natOf (s.2.2.drop s.1) + s.2.1 = natOf (ls.drop s.1) ∧ ∀ j, j < s.1 → s.2.2.getD j 0 = ls.getD j 0) (fun s => s.1)
  (ls.length, 0, ls) ⟨rfl, rfl, trivial⟩ ⟨by simp, Chg.refl _ _, ho, hl, rfl, hb0, by simp [natOf], fun _ _ => rfl⟩ ?_
 rintro ⟨k, r, L⟩ ξ w1 ⟨hk, hC, hO, hL, hLl, hr, hN, hz⟩
 simp only at hk hO hL hLl hr hN hz
 show CW _ _ _ _ (over [(6, .int .i64 ((k : Int) - 1)), (5, .int .u64 (r : Int))] _) w1
 have hr2 : r < 4294967296 := by omega
 have hm := hL.getD (k - 1)
 have hq : (r * 4294967296 + L.getD (k - 1) 0) / b < 4294967296 := (Nat.div_lt_iff_lt_mul hb0).2 (by
  have : (r + 1) * 4294967296 ≤ b * 4294967296 := Nat.mul_le_mul_right _ hr
  rw [Nat.mul_comm 4294967296 b]; omega)
 repeat' (first|refine ai rfl ?_|refine aa ?_|refine aj ?_|refine ah rfl ?_|refine ae ?_|refine aP rfl (fun hc => ?_) (fun hc => ?_)|refine aA ?_|refine aV ?_|refine aL ?_|refine aW ?_|refine aF ?_)
 ·obtain ⟨i, rfl⟩ : ∃ i, k = i + 1 := ⟨k - 1, by omega⟩
  rw [show ((i + 1 : Nat) : Int) - 1 = (i : Int) by omega] at *
  rw [Nat.add_sub_cancel] at hm hq
  repeat' (first|refine kb rfl rfl (by assumption) ?_|refine aC (j := i) rfl rfl ⟨_, _, rfl⟩ (by omega) ?_|refine bI rfl hO.sl (by omega) ?_|refine gL rfl (by assumption) ?_|refine pg rfl rfl (by assumption) (by assumption) ?_|refine rG rfl rfl hb0 (by omega) ?_|refine rH rfl rfl hb0 ?_|refine dD rfl ?_|(refine oT rfl rfl rfl hO (by simp; omega) (fun g' w4 hg' hlo hc4 hb4 => ⟨fun _ _ => trivial, ?_⟩))|refine ai rfl ?_|refine aa ?_|refine aj ?_|refine ah rfl ?_|refine ae ?_|refine cO rfl rfl (by omega) (by omega) ?_|refine aK ?_)
  cases hg'
  rw [Nat.mod_eq_of_lt hq] at hb4
  have hr4 : (r * 4294967296 + L.getD i 0) % b < b := Nat.mod_lt _ hb0
  refine ⟨⟨(i, (r * 4294967296 + L.getD i 0) % b, L.set i ((r * 4294967296 + L.getD i 0) / b)), ⟨by simp only; omega, hC.trans hc4, nS hb4, hL.set hq, by simp [hLl], hr4, ?_, ?_⟩, by simp only; omega, ?_, rfl, trivial⟩, (by (repeat (first|exact aE _ _ _|refine aw rfl ?_|refine au rfl ?_|refine ak rfl ?_|refine ao rfl ?_)))⟩
  ·simp only
   rw [gA (l := L.set i _) (by simp; omega), jK (by omega), nR (by omega), gA (l := ls) (by omega), ← hz i (by omega)]
   exact qw hN hb0
  ·intro j hj
   simp only at hj ⊢
   rw [ct (by omega)]; exact hz j (by omega)
  ·rfl
 ·obtain rfl : k = 0 := by omega
  simp only [List.drop_zero] at hN
  repeat' (first|refine dD rfl ?_|refine ai rfl ?_|refine aa ?_|refine ae ?_|refine aR ?_)
  refine bK rfl (rt rfl) ⟨L, ?_, hC, hO, hL, hLl, ?_⟩
  ·show Value.int .u32 _ = _
   rw [Nat.mod_eq_of_lt (by omega), ← hN, Nat.mul_add_mod, Nat.mod_eq_of_lt hr]
  ·rw [← hN, Nat.mul_add_div hb0, Nat.div_eq_of_lt hr, Nat.add_zero]
set_option maxHeartbeats 4000000 in
theorem j0 {L S H V : List Nat} {g c n vc : Nat} {va : Option Addr} {w : World} (hb : Blk w g 53 (limbsL (L ++ S ++ H))) (hSl : S.length = n + 1) (lS : Lim S) (hV : Limbs w va vc V) (hVl : V.length = n) (hn : 2 ≤ n)
  (top : 2147483648 ≤ V.getD (n - 1) 0) (hlt : natOf S < natOf V * 4294967296) (hne : ∀ ad, va = some ad → ad.block ≠ g) :
  CallsR Tryz.prog 84 #[.slice (some ⟨g, L.length, none⟩) (n + 1) c, .slice va n vc] w fun v w' => ∃ S', v = .int .u32 ((natOf S / natOf V : Nat) : Int) ∧ Chg g w w' ∧ Blk w' g 53 (limbsL (L ++ S' ++ H)) ∧ S'.length = n + 1 ∧ Lim S' ∧ natOf S' = natOf S % natOf V := by
 have hK := uL hSl hVl hn lS hV.lim top hlt
 have hnl := hV.len
 rw [hVl] at hnl
 have hv0 : 0 < natOf V := hK.v0
 have u0 := lS.getD n
 have u1 := lS.getD (n - 1)
 have u2 := lS.getD (n - 2)
 have v1 := hV.lim.getD (n - 1)
 have v2 := hV.lim.getD (n - 2)
 have hf := hK.first
 have hq := hK.qlt
 have dn := fun {gs r} => hK.down (g := gs) (r := r)
 have de := fun {gs r} => hK.done (g := gs) (r := r)
 generalize hx1 : V.getD (n - 1) 0 = x1 at *
 generalize hx2 : V.getD (n - 2) 0 = x2 at *
 generalize hy0 : S.getD n 0 = y0 at *
 generalize hy1 : S.getD (n - 1) 0 = y1 at *
 generalize hy2 : S.getD (n - 2) 0 = y2 at *
 clear hK
 generalize hqd : natOf S / natOf V = q at *
 have hx0 : 0 < x1 := by omega
 have hVp : W.plain va := hV.sl.plain (by simp; omega)
 refine aH (args := [_, _]) Tryz.func84 rfl rfl ?_
 repeat' (first|refine ai rfl ?_|refine aa ?_|refine aj ?_|refine ah rfl ?_|refine ae ?_|refine bh rfl ?_)
 refine bi (late := []) (plan := [(0, none), (1, none), (2, none), (3, none), (4, none), (5, none), (6, none), (7, none), (8, none), (9, none), (10, none), (11, none), (12, none), (13, none)]) (fun w' => Chg g w w' ∧ Blk w' g 53 (limbsL (L ++ S ++ H))) bB (by kernel_rfl) ⟨(Chg.refl g w).drew, hb.drew⟩ ?_
 repeat' (first|refine kN (m := n) (m' := 1) rfl rfl (by omega) (by omega) ?_|refine aC rfl rfl ⟨_, _, rfl⟩ (by omega) ?_|refine fQ rfl (fun _ h => h.2) (by omega) ?_|(rw [hy0])|(rw [hy1])|refine gL rfl (by assumption) ?_|refine kb rfl rfl (by assumption) ?_|refine pg rfl rfl (by assumption) (by assumption) ?_|refine ai rfl ?_|refine aa ?_|refine aj ?_|refine ae ?_)
 refine bi (late := []) (plan := [(0, none), (1, none), (2, none), (3, none), (4, none), (5, none), (6, none), (7, none), (8, none), (9, none), (10, none), (11, none), (12, none), (13, none), (14, none), (15, none), (16, none), (17, none)]) (fun w' => Chg g w w') bB (by kernel_rfl) ((Chg.refl g w).drew.drew) ?_
 repeat' (first|refine kN (m := n) (m' := 1) rfl rfl (by omega) (by omega) ?_|refine aC rfl rfl hVp (by omega) ?_|refine bI rfl (fun _ h => (hV.chg h hne).sl) (by omega) ?_|(rw [hx1])|refine gL rfl (by assumption) ?_|refine rG rfl rfl hx0 (by omega) ?_|refine rH rfl rfl hx0 ?_|refine ai rfl ?_|refine aa ?_|refine aj ?_|refine ae ?_)
 refine cD (ι := Nat × Nat) [7, 8, 46, 47, 48, 49, 50, 51, 52, 53, 54, 55, 56, 57, 58, 59, 60, 61, 62, 63, 64, 65, 66, 67, 68, 69, 70, 71, 72, 73, 74, 75, 76, 77, 78, 79, 80, 81] (fun s => [(7, .int .u64 (s.1 : Int)), (8, .int .u64 (s.2 : Int))])
  (fun s w' => Chg g w w' ∧ Blk w' g 53 (limbsL (L ++ S ++ H)) ∧ q ≤ s.1 ∧ s.1 ≤ q + 1) ?_ ?_
 ·have hmod := Nat.mod_lt (y0 * 4294967296 + y1) hx0
  refine aA ?_
  refine aY (ι := Nat × Nat) [7, 8, 46, 47, 48, 49, 50, 51, 52, 53, 54, 55, 56, 57, 58, 59, 60, 61, 62, 63, 64, 65, 66, 67, 68, 69, 70, 71, 72, 73, 74, 75, 76, 77, 78, 79, 80, 81] (fun s => [(7, .int .u64 (s.1 : Int)), (8, .int .u64 (s.2 : Int))])
   (fun s w' => Chg g w w' ∧ Blk w' g 53 (limbsL (L ++ S ++ H)) ∧ q ≤ s.1 ∧ s.1 ≤ 4294967297 ∧ s.2 < 4294967296 ∧ s.1 * x1 + s.2 = y0 * 4294967296 + y1) (fun s => s.1)
   ((y0 * 4294967296 + y1) / x1, (y0 * 4294967296 + y1) % x1) ⟨rfl, rfl, trivial⟩ ⟨(Chg.refl g w).drew.drew, hb, hf.1, hf.2, by simp only; omega, by simp only; rw [Nat.mul_comm]; exact Nat.div_add_mod _ _⟩ ?_
  rintro ⟨gs, r⟩ ξ w1 ⟨hC, hbk, h1, h2, h3, h4⟩
  simp only at h1 h2 h3 h4
  show CW _ _ _ _ (over [(7, .int .u64 (gs : Int)), (8, .int .u64 (r : Int))] _) w1
  have hmul : gs < 4294967296 → gs * x2 < 18446744073709551616 := fun h => by
   have : gs * x2 ≤ 4294967295 * 4294967295 := Nat.mul_le_mul (by omega) (by omega)
   omega
  have hC1 := hC.drew
  repeat refine aj ?_
  refine bi (late := []) (plan := [(0, none), (1, none), (2, none), (3, none), (4, none), (5, none), (6, none), (7, none), (8, none), (9, none), (10, none), (11, none), (12, none), (13, none), (14, none), (15, none), (16, none), (17, none), (18, none), (19, none), (20, none), (21, none), (22, none)]) (fun w' => Chg g w w' ∧ Blk w' g 53 (limbsL (L ++ S ++ H))) bB (by kernel_rfl) ⟨hC.drew, hbk.drew⟩ ?_
  have hVc := hV.chg hC1 hne
  have go : (4294967296 ≤ gs ∨ r * 4294967296 + y2 < gs * x2) → q + 1 ≤ gs := fun h => dn h4 h1 h
  have stp : ∀ {r'}, (gs - 1) * x1 + r' = y0 * 4294967296 + y1 → 4294967296 ≤ r' → gs - 1 ≤ q + 1 := fun h h' => de h (by omega) (.inr h')
  have h5 : 0 < gs → (gs - 1) * x1 + (r + x1) = y0 * 4294967296 + y1 := fun h => by
   obtain ⟨m, rfl⟩ : ∃ m, gs = m + 1 := ⟨gs - 1, by omega⟩
   rw [← h4, Nat.add_sub_cancel, Nat.succ_mul]; omega
  repeat' (first|refine d7 rfl rfl ?_|refine kN (m := n) (m' := 2) rfl rfl (by omega) (by omega) ?_|refine kN (m := n) (m' := 1) rfl rfl (by omega) (by omega) ?_|refine aC rfl rfl hVp (by omega) ?_|refine aC rfl rfl ⟨_, _, rfl⟩ (by omega) ?_|refine fQ rfl (fun _ h => h.2) (by omega) ?_|refine bI rfl (fun _ h => (hV.chg h.1 hne).sl) (by omega) ?_|refine bI rfl hVc.sl (by omega) ?_|(rw [hx1])|(rw [hx2])|(rw [hy2])|refine gL rfl (by assumption) ?_|refine ku rfl rfl (hmul (by omega)) ?_|refine kb rfl rfl (by assumption) ?_|refine pg rfl rfl (by assumption) (by assumption) ?_|(refine rI (m' := 1) rfl rfl (Nat.le_trans (Nat.le_add_left 1 _) (by (first|exact go (.inr (Int.ofNat_lt.1 (by assumption)))|exact go (.inl (by omega))))) (by omega) ?_)|refine fD rfl rfl (by omega) ?_|refine ai rfl ?_|refine aa ?_|refine aj ?_|refine ah rfl ?_|refine ae ?_|refine bR rfl rfl ?_|refine cB rfl rfl ?_|refine j8 rfl rfl (fun hc => ?_) (fun hc => ?_)|refine aD rfl ?_|refine aP rfl (fun hc => ?_) (fun hc => ?_)|refine aA ?_|refine aV ?_|refine aL ?_|refine aW ?_|refine fX rfl ?_|refine aK ?_|refine aF ?_)
  all_goals first
   | (refine ⟨⟨(gs, r), ⟨hC1, hbk, h1, de h4 (by omega) (.inl (by first|omega|exact Nat.le_of_not_lt (fun h => absurd (Int.ofNat_lt.2 h) (by assumption))))⟩, rfl, rfl, trivial⟩, (by (repeat (first|exact aM _ _|refine aw rfl ?_|refine au rfl ?_|refine ak rfl ?_|refine ao rfl ?_)))⟩; done)
   | (have hg : q + 1 ≤ gs := by (first|exact go (.inr (Int.ofNat_lt.1 (by assumption)))|exact go (.inl (by omega)))
      refine ⟨⟨(gs - 1, r + x1), ⟨hC1, hbk, by simp only; omega, stp (h5 (by omega)) (by omega)⟩, rfl, rfl, trivial⟩, (by (repeat (first|exact aM _ _|refine aw rfl ?_|refine au rfl ?_|refine ak rfl ?_|refine ao rfl ?_)))⟩; done)
   | (have hg : q + 1 ≤ gs := by (first|exact go (.inr (Int.ofNat_lt.1 (by assumption)))|exact go (.inl (by omega)))
      refine ⟨⟨(gs - 1, r + x1), ⟨hC1, hbk, by simp only; omega, by simp only; omega, by simp only; omega, h5 (by omega)⟩, by simp only; omega, rfl, rfl, trivial⟩, (by (repeat (first|exact aE _ _ _|refine aw rfl ?_|refine au rfl ?_|refine ak rfl ?_|refine ao rfl ?_)))⟩; done)
   | (have hg : q + 1 ≤ gs := by (first|exact go (.inr (Int.ofNat_lt.1 (by assumption)))|exact go (.inl (by omega)))
      refine ⟨⟨(gs - 1, r + x1), ⟨hC1, hbk, by simp only; omega, stp (h5 (by omega)) (by omega)⟩, rfl, rfl, trivial⟩, (by (repeat (first|exact aM _ _|refine aw rfl ?_|refine au rfl ?_|refine ak rfl ?_|refine ao rfl ?_)))⟩; done)
 clear dn de hf
 rintro ⟨gs, r⟩ ξ w1 ⟨hC, hbk, h1, h2⟩
 simp only at hC hbk h1 h2
 show CW _ _ _ _ (over [(7, .int .u64 (gs : Int)), (8, .int .u64 (r : Int))] _) w1
 clear hb
 have hgB : gs ≤ 4294967296 := by omega
 repeat' (first|refine ai rfl ?_|refine aa ?_|refine aj ?_|refine ah rfl ?_|refine ae ?_|refine aA ?_)
 refine aY (ι := Nat × Nat × Nat × Nat × List Nat) [9, 10, 11, 12, 83, 84, 85, 86, 87, 88, 89, 90, 91, 92, 93, 94, 95, 96, 97, 98, 99, 100, 101, 102, 103, 104, 105, 106, 107, 108, 109, 110, 111, 112, 113, 114, 115] (fun s => [(83, .int .i64 (s.1 : Int)), (9, .int .u64 (s.2.1 : Int)), (10, .int .u64 (s.2.2.1 : Int))])
  (fun s w' => s.1 ≤ n ∧ Chg g w w' ∧ Blk w' g 53 (limbsL (L ++ s.2.2.2.2 ++ H)) ∧ s.2.2.2.2.length = n + 1 ∧ Lim s.2.2.2.2 ∧ s.2.1 < 4294967296 ∧ s.2.2.1 ≤ 1 ∧ natOf s.2.2.2.2 + s.2.2.2.1 = natOf S + s.2.2.1 * 4294967296 ^ s.1 ∧ s.2.2.2.1 + s.2.1 * 4294967296 ^ s.1 = gs * natOf (V.take s.1)) (fun s => n - s.1)
  (0, 0, 0, 0, S) ⟨rfl, rfl, rfl, trivial⟩ ⟨by simp, hC, hbk, hSl, lS, by simp, by simp, by simp, by simp [natOf]⟩ ?_
 clear hC hbk
 rintro ⟨i, cy, br, M, U⟩ ξ2 w2 ⟨hi, hC, hbk, hUl, hUL, hcy, hbr, hN, hM⟩
 simp only at hi hC hbk hUl hUL hcy hbr hN hM
 show CW _ _ _ _ (over [(83, .int .i64 (i : Int)), (9, .int .u64 (cy : Int)), (10, .int .u64 (br : Int))] _) w2
 have hvi := hV.lim.getD i
 have hui := hUL.getD i
 have hun := hUL.getD n
 have hVc := hV.chg hC hne
 have hgv : gs * V.getD i 0 ≤ 4294967296 * 4294967295 := Nat.mul_le_mul hgB (by omega)
 repeat' (first|refine aC rfl rfl hVp (by omega) ?_|refine bI rfl hVc.sl (by omega) ?_|(refine gL rfl (by first|assumption | omega) ?_)|refine ku rfl rfl (by omega) ?_|refine fD rfl rfl (by omega) ?_|refine aC rfl rfl ⟨_, _, rfl⟩ (by omega) ?_|refine fQ rfl hbk (by omega) ?_|refine dD rfl ?_|refine o9 rfl rfl (by omega) ?_|refine iG rfl rfl hbk (by omega) (fun w4 hc4 hb4 => ⟨fun _ _ => trivial, ?_⟩)|refine d7 rfl rfl ?_|refine fY (j := 63) rfl rfl (.inl rfl) ?_|refine ai rfl ?_|refine aa ?_|refine aj ?_|refine ah rfl ?_|refine ae ?_|refine aZ rfl rfl (by omega) (by omega) ?_|refine aP rfl (fun hc => ?_) (fun hc => ?_)|refine aA ?_|refine aV ?_|refine aL ?_|refine aW ?_|refine aK ?_|refine aR ?_|refine bv ?_|refine aF ?_)
 ·rw [Nat.shiftRight_eq_div_pow]
  have hst := lZ (x := (cy + gs * V.getD i 0) % 4294967296) (show i < U.length by omega) hN
  have hdm := Nat.mod_add_div (cy + gs * V.getD i 0) 4294967296
  have hM2 : M + (cy + gs * V.getD i 0) % 4294967296 * 4294967296 ^ i + (cy + gs * V.getD i 0) / 4294967296 * 4294967296 ^ (i + 1) = gs * natOf (V.take (i + 1)) := by
   rw [bQ, Nat.mul_add, ← hM, dS]
   generalize (cy + gs * V.getD i 0) % 4294967296 = lo at *
   generalize (cy + gs * V.getD i 0) / 4294967296 = hi' at *
   generalize 4294967296 ^ i = E at *
   have e : (lo + 4294967296 * hi') * E = (cy + gs * V.getD i 0) * E := by rw [hdm]
   grind
  have hlo : (cy + gs * V.getD i 0) % 4294967296 < 4294967296 := Nat.mod_lt _ (by decide)
  have hcy2 : (cy + gs * V.getD i 0) / 4294967296 < 4294967296 := by omega
  generalize (cy + gs * V.getD i 0) % 4294967296 = lo at *
  rcases Nat.lt_or_ge (U.getD i 0) (lo + br) with hlt2 | hge2
  ·have e1 : (18446744073709551616 + (18446744073709551616 + U.getD i 0 - lo) % 18446744073709551616 - br) % 18446744073709551616 % 4294967296 = 4294967296 + U.getD i 0 - (lo + br) := by omega
   have e2 : (18446744073709551616 + (18446744073709551616 + U.getD i 0 - lo) % 18446744073709551616 - br) % 18446744073709551616 / 2 ^ 63 = 1 := by omega
   rw [e1] at hb4
   rw [e2]
   exact ⟨⟨(i + 1, _, 1, M + lo * 4294967296 ^ i, U.set i (4294967296 + U.getD i 0 - (lo + br))), ⟨by simp only; omega, hC.trans hc4, hb4, by simp [hUl], hUL.set (by omega), hcy2, by simp, hst.2 (by omega), hM2⟩, by simp only; omega, rfl, rfl, rfl, trivial⟩, (by (repeat (first|exact aE _ _ _|refine aw rfl ?_|refine au rfl ?_|refine ak rfl ?_|refine ao rfl ?_)))⟩
  ·have e1 : (18446744073709551616 + (18446744073709551616 + U.getD i 0 - lo) % 18446744073709551616 - br) % 18446744073709551616 % 4294967296 = U.getD i 0 - (lo + br) := by omega
   have e2 : (18446744073709551616 + (18446744073709551616 + U.getD i 0 - lo) % 18446744073709551616 - br) % 18446744073709551616 / 2 ^ 63 = 0 := by omega
   rw [e1] at hb4
   rw [e2]
   exact ⟨⟨(i + 1, _, 0, M + lo * 4294967296 ^ i, U.set i (U.getD i 0 - (lo + br))), ⟨by simp only; omega, hC.trans hc4, hb4, by simp [hUl], hUL.set (by omega), hcy2, by simp, by simp only; rw [hst.1 (by omega), Nat.zero_mul, Nat.add_zero], hM2⟩, by simp only; omega, rfl, rfl, rfl, trivial⟩, (by (repeat (first|exact aE _ _ _|refine aw rfl ?_|refine au rfl ?_|refine ak rfl ?_|refine ao rfl ?_)))⟩
 all_goals (
  obtain rfl : i = n := by omega
  rw [Nat.shiftRight_eq_div_pow] at *
  rw [bU (by omega)] at hM
  have hst := lZ (x := cy) (show i < U.length by omega) hN
  rw [hM] at hst)
 ·have hle : cy + br ≤ U.getD i 0 := by omega
  have e1 : (18446744073709551616 + (18446744073709551616 + U.getD i 0 - cy) % 18446744073709551616 - br) % 18446744073709551616 % 4294967296 = U.getD i 0 - (cy + br) := by omega
  rw [e1] at hb4
  have hfin := hst.1 hle
  have hg1 : gs ≤ q := by rw [← hqd]; exact (Nat.le_div_iff_mul_le hv0).2 (by omega)
  have hgq : gs = q := by omega
  subst hgq
  refine bK rfl (rt rfl) ⟨_, ?_, hC.trans hc4, hb4, by simp [hUl], hUL.set (by omega), ?_⟩
  ·show Value.int .u32 _ = _
   rw [Nat.mod_eq_of_lt hq]
  ·have := Nat.div_add_mod (natOf S) (natOf V)
   rw [hqd, Nat.mul_comm] at this
   omega
 ·have hle : U.getD i 0 < cy + br := by omega
  have e1 : (18446744073709551616 + (18446744073709551616 + U.getD i 0 - cy) % 18446744073709551616 - br) % 18446744073709551616 % 4294967296 = 4294967296 + U.getD i 0 - (cy + br) := by omega
  rw [e1] at hb4
  have hfin := hst.2 (by omega)
  have hU1L : Lim (U.set i (4294967296 + U.getD i 0 - (cy + br))) := hUL.set (by omega)
  have hU1l : (U.set i (4294967296 + U.getD i 0 - (cy + br))).length = i + 1 := by simp [hUl]
  generalize U.set i (4294967296 + U.getD i 0 - (cy + br)) = U1 at *
  have hC4 := hC.trans hc4
  have hU1lt := bT hU1L
  rw [hU1l] at hU1lt
  rw [Nat.one_mul] at hfin
  have hgq : gs = q + 1 := by
   rcases Nat.lt_or_ge q gs with h | h
   ·omega
   ·exfalso
    have hgq : gs * natOf V ≤ natOf S := (Nat.le_div_iff_mul_le hv0).1 (by rw [hqd]; exact h)
    omega
  refine aY (ι := Nat × Nat × List Nat) [9, 14, 136, 137, 138, 139, 140, 141, 142, 143, 144, 145, 146, 147, 148, 149, 150, 151, 152, 153, 154, 155, 156, 157, 158, 159] (fun s => [(136, .int .i64 (s.1 : Int)), (9, .int .u64 (s.2.1 : Int))])
   (fun s w' => s.1 ≤ i ∧ Chg g w w' ∧ Blk w' g 53 (limbsL (L ++ s.2.2 ++ H)) ∧ s.2.2.length = i + 1 ∧ Lim s.2.2 ∧ s.2.1 ≤ 1 ∧ natOf s.2.2 + s.2.1 * 4294967296 ^ s.1 = natOf U1 + natOf (V.take s.1)) (fun s => i - s.1)
   (0, 0, U1) ⟨rfl, rfl, trivial⟩ ⟨by simp, hC4, hb4, hU1l, hU1L, by simp, by simp [natOf]⟩ ?_
  clear hC hbk hc4 hb4 hC4 hN hM hst hcy hbr hle e1 hUl hUL hui hun hVc hvi hgv
  rintro ⟨j, cy, W⟩ ξ3 w5 ⟨hj, hC, hbk, hWl, hWL, hcy, hN⟩
  simp only at hj hC hbk hWl hWL hcy hN
  show CW _ _ _ _ (over [(136, .int .i64 (j : Int)), (9, .int .u64 (cy : Int))] _) w5
  have hvj := hV.lim.getD j
  have hwj := hWL.getD j
  have hwn := hWL.getD i
  repeat' (first|refine ai rfl ?_|refine aa ?_|refine aj ?_|refine ah rfl ?_|refine ae ?_|refine aP rfl (fun hc => ?_) (fun hc => ?_)|refine aA ?_|refine aV ?_|refine aL ?_|refine aW ?_|refine aF ?_)
  ·refine bi (late := []) (plan := [(0, none), (1, none), (2, none), (3, none), (4, none), (5, none), (6, none), (7, none), (8, none), (9, none), (10, none), (11, none), (12, none), (13, none)]) (fun w' => Chg g w w' ∧ Blk w' g 53 (limbsL (L ++ W ++ H))) bB (by kernel_rfl) ⟨hC.drew, hbk.drew⟩ ?_
   repeat' (first|refine aC rfl rfl hVp (by omega) ?_|refine bI rfl (fun _ h => (hV.chg h.1 hne).sl) (by omega) ?_|(refine gL rfl (by first|assumption | omega) ?_)|refine aC rfl rfl ⟨_, _, rfl⟩ (by omega) ?_|refine fQ rfl (fun _ h => h.2) (by omega) ?_|refine fD rfl rfl (by omega) ?_|refine dD rfl ?_|refine iG rfl rfl hbk (by omega) (fun w6 hc6 hb6 => ⟨fun _ _ => trivial, ?_⟩)|refine d7 rfl rfl ?_|refine ai rfl ?_|refine aa ?_|refine aj ?_|refine ah rfl ?_|refine ae ?_|refine aZ rfl rfl (by omega) (by omega) ?_|refine aK ?_)
   have hst := ma (x := V.getD j 0) (show j < W.length by omega) hN
   refine ⟨⟨(j + 1, (cy + (W.getD j 0 + V.getD j 0)) / 4294967296, W.set j ((cy + (W.getD j 0 + V.getD j 0)) % 4294967296)), ⟨by simp only; omega, (hC.drew).trans hc6, hb6, by simp [hWl], hWL.set (Nat.mod_lt _ (by decide)), by simp only; omega, ?_⟩, by simp only; omega, rfl, rfl, trivial⟩, (by (repeat (first|exact aE _ _ _|refine aw rfl ?_|refine au rfl ?_|refine ak rfl ?_|refine ao rfl ?_)))⟩
   simp only
   rw [hst, bQ V]
   omega
  ·obtain rfl : j = i := by omega
   rw [bU (by omega)] at hN
   repeat' (first|refine aC rfl rfl ⟨_, _, rfl⟩ (by omega) ?_|refine fQ rfl hbk (by omega) ?_|refine dD rfl ?_|refine rJ rfl rfl ?_|refine iG rfl rfl hbk (by omega) (fun w6 hc6 hb6 => ⟨fun _ _ => trivial, ?_⟩)|refine rI (m' := 1) rfl rfl (by omega) (by omega) ?_|refine ai rfl ?_|refine aa ?_|refine aj ?_|refine ah rfl ?_|refine ae ?_|refine aR ?_)
   rw [Nat.mod_eq_of_lt (show cy < 4294967296 by omega)] at hb6
   have hst := ma (x := 0) (show j < W.length by omega) hN
   rw [Nat.add_zero, Nat.zero_mul, Nat.add_zero, Nat.add_comm cy] at hst
   have hWL2 : Lim (W.set j ((W.getD j 0 + cy) % 4294967296)) := hWL.set (Nat.mod_lt _ (by decide))
   refine bK rfl (rt rfl) ⟨_, ?_, hC.trans hc6, hb6, by simp [hWl], hWL2, ?_⟩
   ·show Value.int .u32 _ = _
    rw [hgq, Nat.add_sub_cancel, Nat.mod_eq_of_lt hq]
   ·have h1 := bT hWL2
    rw [List.length_set, hWl] at h1
    have h3 := Nat.div_add_mod (natOf S) (natOf V)
    rw [hqd] at h3
    have h4 := Nat.mod_lt (natOf S) hv0
    have h5 := bT hV.lim
    rw [hVl] at h5
    have h6 : 4294967296 ^ j ≤ 4294967296 ^ (j + 1) := Nat.pow_le_pow_right (by decide) (by omega)
    rw [hgq, Nat.succ_mul, Nat.mul_comm q] at hfin
    refine pi (d := (W.getD j 0 + cy) / 4294967296) h1 (by omega) ?_
    rw [hst]
    omega
end Go.Proofs.YtppipmkpmmdcjaaGreat
namespace Go.Proofs.YtppipmkpmmdcjaaGreat
open Go.W Go.LM
structure DvJ (N V n m k : Nat) (R Q : List Nat) : Prop where
 rl : R.length = m + 1 + n
 ql : Q.length = m + 1
 lr : Lim R
 lq : Lim Q
 eq : natOf R + V * natOf Q = N
 hi : natOf (R.drop k) < V
 zero : ∀ i, i < k → Q.getD i 0 = 0
 le : k ≤ m + 1
theorem Lim.drop {l : List Nat} (h : Lim l) (k : Nat) : Lim (l.drop k) := fun d hd => h d (List.mem_of_mem_drop hd)
theorem Lim.append {l m : List Nat} (h : Lim l) (h' : Lim m) : Lim (l ++ m) := fun d hd => by
 rcases List.mem_append.1 hd with e | e
 ·exact h d e
 ·exact h' d e
theorem DvJ.pre {N V n m k : Nat} {R Q : List Nat} (h : DvJ N V n m (k + 1) R Q) (hV : V < 4294967296 ^ n) :
  natOf ((R.drop k).take (n + 1)) < V * 4294967296 ∧ natOf (R.drop (k + (n + 1))) = 0 ∧ ((R.drop k).take (n + 1)).length = n + 1 ∧ (R.take k).length = k ∧ R = R.take k ++ (R.drop k).take (n + 1) ++ R.drop (k + (n + 1)) := by
 have h1 := h.rl
 have h2 := h.le
 have e := cU (ls := R) (k := k) (by omega)
 have h3 := h.hi
 have h4 := h.lr.getD k
 have h5 : natOf (R.drop k) < V * 4294967296 := by
  rw [e]
  have : (natOf (R.drop (k + 1)) + 1) * 4294967296 ≤ V * 4294967296 := Nat.mul_le_mul_right _ h3
  omega
 have hd : (R.drop k).length = m + 1 + n - k := by rw [List.length_drop, h1]
 have es := dk (R.drop k) (k := n + 1) (by omega)
 rw [List.drop_drop] at es
 have hz : natOf (R.drop (k + (n + 1))) = 0 := by
  rcases Nat.eq_zero_or_pos (natOf (R.drop (k + (n + 1)))) with h0 | h0
  ·exact h0
  ·exfalso
   have : 4294967296 ^ (n + 1) * 1 ≤ 4294967296 ^ (n + 1) * natOf (R.drop (k + (n + 1))) := Nat.mul_le_mul_left _ h0
   have h6 : V * 4294967296 < 4294967296 ^ n * 4294967296 := Nat.mul_lt_mul_of_pos_right hV (by decide)
   rw [Nat.pow_succ] at this es
   omega
 refine ⟨by rw [es] at h5; omega, hz, by rw [List.length_take, hd]; omega, by rw [List.length_take, h1]; omega, ?_⟩
 rw [List.append_assoc, ← List.drop_drop, List.take_append_drop, List.take_append_drop]
theorem DvJ.step {N V n m k : Nat} {R Q S' : List Nat} (h : DvJ N V n m (k + 1) R Q) (hV : V < 4294967296 ^ n) (h0 : 0 < V) (hl : S'.length = n + 1) (hL : Lim S') (hS : natOf S' = natOf ((R.drop k).take (n + 1)) % V) :
  DvJ N V n m k (R.take k ++ S' ++ R.drop (k + (n + 1))) (Q.set k (natOf ((R.drop k).take (n + 1)) / V)) := by
 obtain ⟨p1, p2, p3, p4, p5⟩ := h.pre hV
 have h1 := h.rl
 have h2 := h.le
 have hq := h.ql
 have heq := h.eq
 have hR : natOf R = natOf (R.take k) + 4294967296 ^ k * natOf ((R.drop k).take (n + 1)) := by
  conv => lhs; rw [p5]
  rw [cP, cP, p2, p4, Nat.mul_zero, Nat.add_zero]
 have hqd : natOf ((R.drop k).take (n + 1)) / V < 4294967296 := (Nat.div_lt_iff_lt_mul h0).2 (by rw [Nat.mul_comm]; exact p1)
 have hdm := Nat.div_add_mod (natOf ((R.drop k).take (n + 1))) V
 generalize (R.drop k).take (n + 1) = S at *
 have hQ := cJ (l := Q) (k := k) (v := natOf S / V) (by omega)
 rw [h.zero k (by omega), Nat.zero_mul, Nat.add_zero] at hQ
 refine ⟨by simp only [List.length_append, p4, hl, List.length_drop]; omega, by simp [hq], Lim.append (Lim.append (h.lr.take k) hL) (Lim.drop h.lr _), h.lq.set hqd, ?_, ?_, fun i hi => ?_, by omega⟩
 ·rw [cP, cP, p2, p4, Nat.mul_zero, Nat.add_zero, hQ, hS, Nat.mul_add]
  rw [hR] at heq
  generalize natOf S / V = q at *
  generalize natOf S % V = r at *
  generalize 4294967296 ^ k = E at *
  have : V * (q * E) + E * r = E * natOf S := by rw [← hdm]; grind
  omega
 ·rw [List.append_assoc, List.drop_append_of_le_length (by omega), List.drop_of_length_le (by omega), List.nil_append, cP, p2, Nat.mul_zero, Nat.add_zero, hS]
  exact Nat.mod_lt _ h0
 ·rw [ct (by omega)]; exact h.zero i (by omega)
theorem DvJ.fin {N V n m : Nat} {R Q : List Nat} (h : DvJ N V n m 0 R Q) : natOf Q = N / V ∧ natOf R = N % V := by
 have h1 := h.hi
 have h2 := h.eq
 simp only [List.drop_zero] at h1
 refine ⟨?_, ?_⟩
 ·rw [← h2, Nat.add_mul_div_left _ _ (by omega), Nat.div_eq_of_lt h1, Nat.zero_add]
 ·rw [← h2, Nat.add_mul_mod_self_left, Nat.mod_eq_of_lt h1]
theorem DvJ.start {A D V n m s : Nat} {R : List Nat} (hR : natOf R = A * 2 ^ s) (_hV : V = D * 2 ^ s) (hl : R.length = m + 1 + n) (lR : Lim R) (hn : 1 ≤ n) (hA : A < 4294967296 ^ (m + n)) (hD : 4294967296 ^ (n - 1) * 2147483648 ≤ V) (hs : s ≤ 31) :
  DvJ (A * 2 ^ s) V n m (m + 1) R (List.replicate (m + 1) 0) := by
 refine ⟨hl, by simp, lR, Lim.zeros _, by rw [cV, hR]; rfl, ?_, fun i hi => ?_, Nat.le_refl _⟩
 ·have e := dk R (k := m + 1) (by omega)
  have hp : (2 : Nat) ^ s ≤ 2147483648 := Nat.le_trans (Nat.pow_le_pow_right (by decide) hs) (by decide)
  rcases Nat.lt_or_ge (natOf (R.drop (m + 1))) V with h | h
  ·exact h
  ·exfalso
   have h1 : 4294967296 ^ (m + 1) * V ≤ 4294967296 ^ (m + 1) * natOf (R.drop (m + 1)) := Nat.mul_le_mul_left _ h
   have h2 : 4294967296 ^ (m + 1) * (4294967296 ^ (n - 1) * 2147483648) ≤ 4294967296 ^ (m + 1) * V := Nat.mul_le_mul_left _ hD
   rw [← Nat.mul_assoc, ← Nat.pow_add, show m + 1 + (n - 1) = m + n by omega] at h2
   have h3 : A * 2 ^ s < 4294967296 ^ (m + n) * 2147483648 := Nat.lt_of_le_of_lt (Nat.mul_le_mul_left _ hp) (Nat.mul_lt_mul_of_pos_right hA (by decide))
   omega
 ·simp [List.getD_eq_getElem?_getD, List.getElem?_replicate]
  split <;> rfl
theorem nU {ls S : List Nat} {s : Nat} (_hc : Canon ls) (hL : Lim ls) (hn : 1 ≤ ls.length) (hS : S.length = ls.length + 1) (lS : Lim S) (hN : natOf S = natOf ls * 2 ^ s) (h1 : 2147483648 ≤ ls.getD (ls.length - 1) 0 * 2 ^ s) (h2 : ls.getD (ls.length - 1) 0 * 2 ^ s < 4294967296) (hs : s ≤ 31) :
  natOf (S.take ls.length) = natOf ls * 2 ^ s ∧ 2147483648 ≤ (S.take ls.length).getD (ls.length - 1) 0 ∧ natOf ls * 2 ^ s < 4294967296 ^ ls.length ∧ 4294967296 ^ (ls.length - 1) * 2147483648 ≤ natOf ls * 2 ^ s := by
 obtain ⟨n, hn'⟩ : ∃ n, ls.length = n + 1 := ⟨ls.length - 1, by omega⟩
 rw [hn'] at hS h1 h2 ⊢
 rw [Nat.add_sub_cancel] at h1 h2 ⊢
 have e := dk ls (k := n) (by omega)
 rw [cU (by omega), List.drop_of_length_le (by omega)] at e
 simp only [natOf, Nat.mul_zero, Nat.add_zero] at e
 have hlow := bT (hL.take n)
 rw [List.length_take, hn', Nat.min_eq_left (by omega)] at hlow
 generalize ls.getD n 0 = x at *
 generalize natOf (ls.take n) = y at *
 have hP : 0 < 2 ^ s := Nat.two_pow_pos s
 have hdiv : (x + 1) * 2 ^ s ≤ 4294967296 := by
  have hb : (4294967296 : Nat) = 2 ^ (32 - s) * 2 ^ s := by rw [← Nat.pow_add, show 32 - s + s = 32 by omega]
  have : x < 2 ^ (32 - s) := Nat.lt_of_mul_lt_mul_right (a := 2 ^ s) (by rw [← hb]; exact h2)
  rw [hb]; exact Nat.mul_le_mul_right _ this
 have g1 : natOf ls * 2 ^ s < 4294967296 ^ (n + 1) := by
  rw [e, Nat.pow_succ]
  have : (y + 4294967296 ^ n * x) + 1 ≤ 4294967296 ^ n * (x + 1) := by rw [Nat.mul_add]; omega
  have h3 := Nat.mul_le_mul_right (2 ^ s) this
  have h4 : 4294967296 ^ n * ((x + 1) * 2 ^ s) ≤ 4294967296 ^ n * 4294967296 := Nat.mul_le_mul_left _ hdiv
  rw [← Nat.mul_assoc] at h4
  rw [Nat.add_mul _ 1] at h3
  omega
 have g2 : 4294967296 ^ n * 2147483648 ≤ natOf ls * 2 ^ s := by
  rw [e]
  have : 4294967296 ^ n * 2147483648 ≤ 4294967296 ^ n * (x * 2 ^ s) := Nat.mul_le_mul_left _ h1
  rw [Nat.add_mul, Nat.mul_assoc]; omega
 have hS0 : natOf S = natOf (S.take (n + 1)) + S.getD (n + 1) 0 * 4294967296 ^ (n + 1) := by
  have := dk S (k := n + 1) (by omega)
  rw [cU (by omega), List.drop_of_length_le (by omega)] at this
  simp only [natOf, Nat.mul_zero, Nat.add_zero] at this
  rw [this, Nat.mul_comm (4294967296 ^ (n + 1))]
 have hz : S.getD (n + 1) 0 = 0 := by
  rcases Nat.eq_zero_or_pos (S.getD (n + 1) 0) with h | h
  ·exact h
  ·exfalso
   have : 1 * 4294967296 ^ (n + 1) ≤ S.getD (n + 1) 0 * 4294967296 ^ (n + 1) := Nat.mul_le_mul_right _ h
   omega
 rw [hz, Nat.zero_mul, Nat.add_zero] at hS0
 refine ⟨by omega, ?_, g1, g2⟩
 have hT : Lim (S.take (n + 1)) := lS.take _
 have e2 := dk (S.take (n + 1)) (k := n) (by rw [List.length_take]; omega)
 rw [cU (by rw [List.length_take]; omega), List.drop_of_length_le (by rw [List.length_take]; omega)] at e2
 simp only [natOf, Nat.mul_zero, Nat.add_zero] at e2
 have hlow2 := bT (hT.take n)
 rw [List.length_take, List.length_take] at hlow2
 rw [show min n (min (n + 1) S.length) = n by omega] at hlow2
 rcases Nat.lt_or_ge ((S.take (n + 1)).getD n 0) 2147483648 with h | h
 ·exfalso
  have : 4294967296 ^ n * ((S.take (n + 1)).getD n 0 + 1) ≤ 4294967296 ^ n * 2147483648 := Nat.mul_le_mul_left _ h
  rw [Nat.mul_add] at this
  omega
 ·exact h
theorem nV {ls : List Nat} {a : Option Addr} {c : Nat} {w : World} (h : Limbs w a c ls) (h0 : 0 < ls.length) : CallsR Tryz.prog 78 #[.slice a ls.length c] w fun v w' =>
  ∃ g c', v = .slice (some ⟨g, 0, none⟩) ls.length c' ∧ Own w' w.heap.size 53 1 (some ⟨g, 0, none⟩) ls.length c' (limbsL ls) ∧ Ex w w' := by
 have hlen := h.len
 obtain ⟨g0, o0, rfl⟩ := h.sl.plain (by simpa using h0)
 refine aH (args := [_]) Tryz.func78 rfl rfl ?_
 repeat' (first|refine kL rfl rfl ?_|refine pV (fun g w1 hn1 => ⟨fun _ _ => trivial, ?_⟩)|refine ai rfl ?_|refine aa ?_|refine aj ?_|refine ah rfl ?_|refine ae ?_|refine ay rfl ?_|refine aF ?_)
 have hs1 := h.sl.ext hn1.ex
 refine gI (z := .int .u32 0) (s := 1) (vs := []) (lo := w.heap.size) (news := limbsL ls) rfl rfl rfl rfl (hn1.blk.own rfl (Nat.zero_le _) hn1.lo) hs1 (h.sl.plain (by simp; omega)) (by simp) (mM (fun _ => rfl) _) (by omega) (by omega) hn1.ex.size ?_
 intro a' c' w2 ho hg hA
 refine ⟨fun _ _ => trivial, ?_⟩
 rw [Nat.zero_add] at ho ⊢
 have hE : Ex w w2 := iP hg hn1.ex (by rintro _ ⟨⟩; exact hn1.lo)
 repeat' (first|refine ai rfl ?_|refine aa ?_|refine ae ?_|refine aR ?_)
 obtain ⟨g', rfl⟩ : ∃ g', a' = some ⟨g', 0, none⟩ := by
  rcases ho.2 with ⟨e, e'⟩ | ⟨g', cp, cur, e, _⟩
  ·omega
  ·cases e; exact ⟨_, rfl⟩
 exact bK rfl (rt rfl) ⟨_, c', rfl, ho, hE⟩
end Go.Proofs.YtppipmkpmmdcjaaGreat
namespace Go.Proofs.YtppipmkpmmdcjaaGreat
open Go.W Go.LM
def RetQR (w : World) (q r : Nat) (v : Value) (w' : World) : Prop := ∃ a1 c1 l1 a2 c2 l2, v = .tuple #[.slice a1 (List.length l1) c1, .slice a2 (List.length l2) c2] ∧ Limbs w' a1 c1 l1 ∧ Limbs w' a2 c2 l2 ∧ Canon l1 ∧ Canon l2 ∧ natOf l1 = q ∧ natOf l2 = r ∧
 (∀ ad, a1 = some ad → w.heap.size ≤ ad.block) ∧ (∀ ad, a2 = some ad → w.heap.size ≤ ad.block) ∧ Ex w w'
theorem kO {la lb : List Nat} (ha : Lim la) (cb : Canon lb) (h : natOf lb ≤ natOf la) : lb.length ≤ la.length := by
 rcases Nat.lt_or_ge la.length lb.length with h' | h'
 ·have := eT ha cb h'; omega
 ·exact h'
set_option maxHeartbeats 2000000 in
theorem nW {la lb : List Nat} {a b : Option Addr} {c d : Nat} {w : World} (ha : Limbs w a c la) (hb : Limbs w b d lb) (ca : Canon la) (cb : Canon lb) (hpos : 0 < natOf lb) (hlen : la.length < 17592186044416) :
  CallsR Tryz.prog 48 #[.slice a la.length c, .slice b lb.length d] w (RetQR w (natOf la / natOf lb) (natOf la % natOf lb)) := by
 by_cases hsm : la.length ≤ 2 ∧ natOf lb ≤ natOf la
 ·refine (iU ha hb ca cb hsm.1 hpos hsm.2).mono fun v w' h => ?_
  obtain ⟨a1, c1, a2, c2, h1, h2, h3, h4, h5, h6⟩ := h
  exact ⟨a1, c1, _, a2, c2, _, h1, h2, h3, dq _, dq _, dE, dE, h4, h5, h6⟩
 refine aH (args := [_, _]) Tryz.func48 rfl rfl ?_
 repeat' (first|refine ai rfl ?_|refine aa ?_|refine aj ?_|refine ah rfl ?_|refine ae ?_|refine aA ?_)
 refine av (dP ha hb ca cb) rfl ?_
 rintro v w1 ⟨rfl, hE1⟩
 refine ⟨fun _ _ => trivial, ?_⟩
 have hcmp : cmpZ (natOf la) (natOf lb) < 0 ↔ natOf la < natOf lb := by
  have := @ka (natOf la) (natOf lb)
  omega
 have ha1 := ha.ext hE1
 have hb1 := hb.ext hE1
 repeat' (first|refine ai rfl ?_|refine aa ?_|refine aj ?_|refine ah rfl ?_|refine ae ?_|refine bh rfl ?_|refine aP rfl (fun hc => ?_) (fun hc => ?_)|refine aK ?_|refine aF ?_)
 ·
  refine av (gS ha1) rfl ?_
  rintro v w2 ⟨a2, c2, rfl, hL2, hf2, hE2⟩
  refine ⟨fun _ _ => trivial, ?_⟩
  repeat' (first|refine ai rfl ?_|refine aa ?_|refine ae ?_|refine aR ?_|refine bv ?_|refine cN ?_)
  have hlt := hcmp.1 (by assumption)
  have s1 := hE1.size
  exact eN rfl (rt rfl) (rt rfl) ⟨none, 0, [], a2, c2, la, rfl, Limbs.nil _ _ _, hL2, rfl, ca, (Nat.div_eq_of_lt hlt).symm, (Nat.mod_eq_of_lt hlt).symm, fun ad e => (nomatch e), fun ad e => by have := hf2 ad e; omega, hE1.trans hE2⟩
 ·have := mt hcmp.2 (by assumption); omega
 all_goals (
  have hge : natOf lb ≤ natOf la := by have := mt hcmp.2 (by assumption); omega
  have hl2 : 2 < la.length := by omega
  have hll := kO ha.lim cb hge
  have hbn : lb ≠ [] := fun e => by rw [e] at hpos; simp [natOf] at hpos
  have hb0 : 1 ≤ lb.length := List.length_pos_iff.2 hbn)
 ·
  have hlb1 : lb.length = 1 := by omega
  refine av (nV ha1 (by omega)) rfl ?_
  rintro v w2 ⟨g2, c2, rfl, hO2, hE2⟩
  refine ⟨fun _ _ => trivial, ?_⟩
  have hbn0 : natOf lb = lb.getD 0 0 := by
   match lb, hlb1 with
   | [x], _ => simp [natOf]
  have hbl := hb.lim.getD 0
  repeat' (first|(refine aC (j := 0) rfl rfl (hb.sl.plain (by simp; omega)) (by omega) ?_)|refine bI rfl ((hb1.ext hE2).sl) (by omega) ?_|refine ai rfl ?_|refine aa ?_|refine aj ?_|refine ah rfl ?_|refine ae ?_)
  have s1 := hE1.size
  refine av (i7 hO2 ha.lim (b := lb.getD 0 0) (by omega) hbl (by omega)) rfl ?_
  rintro v w3 ⟨L, rfl, hC3, hO3, hL3, hLl, hN3⟩
  refine ⟨fun _ _ => trivial, ?_⟩
  repeat' (first|refine ai rfl ?_|refine aa ?_|refine aj ?_|refine ah rfl ?_|refine ae ?_)
  have hg2 := (hO2.lo _ rfl).1
  have hE3 : Ex w w3 := (hE1.trans hE2).chg hC3 (by simp only at hg2; omega)
  have hlimbs : Limbs w3 (some ⟨g2, 0, none⟩) c2 L := ⟨hO3.sl, by rw [hLl]; exact hO3.cap, hL3, by omega⟩
  rw [← hLl]
  refine av (cf hlimbs) rfl ?_
  rintro v w4 ⟨rfl, hE4⟩
  refine ⟨fun _ _ => trivial, ?_⟩
  have hm := Nat.mod_lt (natOf la) (show 0 < lb.getD 0 0 by omega)
  repeat' (first|refine gL rfl (by omega) ?_|refine ai rfl ?_)
  refine av (dw (n := natOf la % lb.getD 0 0) (by omega) _) rfl ?_
  rintro v w5 ⟨a5, c5, rfl, hL5, hf5, hE5⟩
  refine ⟨fun _ _ => trivial, ?_⟩
  repeat' (first|refine ai rfl ?_|refine aa ?_|refine ae ?_|refine aR ?_|refine bv ?_|refine cN ?_)
  have s4 := hE3.size
  have s5 := hE4.size
  refine eN rfl (rt rfl) (rt rfl) ⟨_, c2, trimL L, a5, c5, _, rfl, ((hlimbs.ext hE4).ext hE5).trim, hL5, bD _, dq _, ?_, ?_, fun ad e => ?_, fun ad e => by have := hf5 ad e; omega, (hE3.trans hE4).trans hE5⟩
  ·rw [bf, hN3, hbn0]
  ·rw [dE, hbn0]
  ·cases e; simp only at hg2 ⊢; omega
 ·
  obtain ⟨m, hm⟩ : ∃ m, la.length = m + lb.length := ⟨la.length - lb.length, by omega⟩
  obtain ⟨n, hn⟩ : ∃ n, lb.length = n := ⟨_, rfl⟩
  have hn2 : 2 ≤ n := by
   rcases Nat.lt_or_ge n 2 with h | h
   ·exact absurd (show ((lb.length : Nat) : Int) = 1 by omega) (by assumption)
   ·exact h
  have htop0 : 0 < lb.getD (lb.length - 1) 0 := by
   have h1 := kv cb hbn
   have e := dk lb (k := lb.length - 1) (by omega)
   rw [cU (by omega), List.drop_of_length_le (by omega)] at e
   simp only [natOf, Nat.mul_zero, Nat.add_zero] at e
   have h2 := bT (hb.lim.take (lb.length - 1))
   rw [List.length_take, Nat.min_eq_left (by omega)] at h2
   rcases Nat.eq_zero_or_pos (lb.getD (lb.length - 1) 0) with h | h
   ·rw [h, Nat.mul_zero] at e; omega
   ·exact h
  have htopl := hb.lim.getD (lb.length - 1)
  have hbp := hb.sl.plain (by simp; omega)
  repeat' (first|refine kN (m := lb.length) (m' := 1) rfl rfl (by omega) (by omega) ?_|refine aC (j := lb.length - 1) rfl rfl hbp (by omega) ?_|refine bI rfl hb1.sl (by omega) ?_)
  refine av (qy htopl htop0 _) rfl ?_
  rintro v w2 ⟨s, rfl, rfl, hs, ht1, ht2⟩
  refine ⟨fun _ _ => trivial, ?_⟩
  repeat' (first|refine ai rfl ?_|refine aa ?_|refine aj ?_|refine ah rfl ?_|refine ae ?_)
  refine av (gT hb1 hs (by omega)) rfl ?_
  rintro v w3 ⟨g3, V, rfl, hg3, hB3, hVl, hV, hVN, _, hE3⟩
  refine ⟨fun _ _ => trivial, ?_⟩
  obtain ⟨t1, t2, t3, t4⟩ := nU cb hb.lim hb0 hVl hV hVN ht1 ht2 hs
  repeat' (first|refine ic (n := (lb.length : Int)) rfl rfl (by omega) (by omega) ?_|refine ai rfl ?_|refine aa ?_|refine aj ?_|refine ah rfl ?_|refine ae ?_|refine bh rfl ?_)
  have ha3 := ha1.ext hE3
  refine av (gT ha3 hs (by omega)) rfl ?_
  rintro v w4 ⟨g4, R, rfl, hg4, hB4, hRl, hR, hRN, _, hE4⟩
  refine ⟨fun _ _ => trivial, ?_⟩
  have q1 : ((m + 1 : Nat) : Int) = (la.length : Int) - (lb.length : Int) + 1 := by omega
  have q2 : ((m : Nat) : Int) = (la.length : Int) - (lb.length : Int) := by omega
  repeat' (first|refine cO rfl rfl (by omega) (by omega) ?_|refine aZ rfl rfl (by omega) (by omega) ?_|(rw [← q1])|refine eM (k := .u32) (n := m + 1) rfl rfl (by omega) (by omega) (fun g5 w5 hn5 => ⟨fun _ _ => trivial, ?_⟩)|(rw [← q2])|refine ai rfl ?_|refine aa ?_|refine aj ?_|refine ah rfl ?_|refine ae ?_|refine bh rfl ?_|refine aA ?_)
  have hB5 : Blk w5 g5 53 (limbsL (List.replicate (m + 1) 0)) := hn5.blk
  have s1 := hE1.size
  have s3 := hE3.size
  have s4 := hE4.size
  have s5 := hn5.ex.size
  have l3 := hB3.lt
  have l4 := hB4.lt
  have l5 := hn5.lo
  have d34 : g3 ≠ g4 := by omega
  have d35 : g3 ≠ g5 := by omega
  have d45 : g4 ≠ g5 := by omega
  have hVlt := bT hV
  have hst := DvJ.start (A := natOf la) (D := natOf lb) (V := natOf lb * 2 ^ s) (m := m) (n := lb.length) hRN rfl (by omega) hR hb0 (by rw [← hm]; exact bT ha.lim) t4 hs
  have hV0 : 0 < natOf lb * 2 ^ s := Nat.mul_pos hpos (Nat.two_pow_pos s)
  have hVtl : (V.take lb.length).length = lb.length := by rw [List.length_take]; omega
  refine aY (ι := Nat × List Nat × List Nat) [12, 80, 81, 82, 83, 84, 85, 86, 87, 88, 89, 90, 91, 92, 93, 94, 95, 96] (fun t => [(12, .int .i64 ((t.1 : Int) - 1))])
   (fun t w' => DvJ (natOf la * 2 ^ s) (natOf lb * 2 ^ s) lb.length m t.1 t.2.1 t.2.2 ∧ Blk w' g3 53 (limbsL V) ∧ Blk w' g4 53 (limbsL t.2.1) ∧ Blk w' g5 53 (limbsL t.2.2) ∧ Ex w w') (fun t => t.1)
   (m + 1, R, List.replicate (m + 1) 0) ⟨by show Value.int .i64 (m : Int) = Value.int .i64 (((m + 1 : Nat) : Int) - 1); rw [show ((m + 1 : Nat) : Int) - 1 = (m : Int) by omega], trivial⟩
   ⟨hst, (hB3.ext hE4).ext hn5.ex, hB4.ext hn5.ex, hB5, ((hE1.trans hE3).trans hE4).trans hn5.ex⟩ ?_
  rintro ⟨k, R1, Q1⟩ ξ w6 ⟨hJ, hB3, hB4, hB5, hEx⟩
  simp only at hJ hB4 hB5
  have hkm := hJ.le
  show CW _ _ _ _ (over [(12, .int .i64 ((k : Int) - 1))] _) w6
  repeat' (first|refine ai rfl ?_|refine aa ?_|refine aj ?_|refine ah rfl ?_|refine ae ?_|refine bh rfl ?_|refine aZ rfl rfl (by omega) (by omega) ?_|refine aP rfl (fun hc => ?_) (fun hc => ?_)|refine aA ?_|refine aV ?_|refine aL ?_|refine aW ?_|refine aF ?_)
  ·obtain ⟨j, rfl⟩ : ∃ j, k = j + 1 := ⟨k - 1, by omega⟩
   rw [show ((j + 1 : Nat) : Int) - 1 = (j : Int) by omega]
   obtain ⟨p1, p2, p3, p4, p5⟩ := hJ.pre t3
   have hrl := hJ.rl
   have hVL : Limbs w6 (some ⟨g3, 0, none⟩) (lb.length + 1) (V.take lb.length) := ⟨by unfold limbsL; rw [List.map_take]; exact hB3.sl.take _, by omega, hV.take _, by omega⟩
   repeat' (first|refine lL (l := j) (h := j + lb.length + 1) rfl rfl rfl (by omega) (by omega) (by omega) ?_|refine ai rfl ?_)
   rw [show (0 + j * 1 : Nat) = (R1.take j).length by omega, show j + lb.length + 1 - j = lb.length + 1 by omega]
   refine av (j0 (S := (R1.drop j).take (lb.length + 1)) (H := R1.drop (j + (lb.length + 1))) (by rw [← p5]; exact hB4) p3 ((Lim.drop hJ.lr j).take _) hVL hVtl (by omega) t2 (by rw [t1]; exact p1) (fun ad e => by cases e; exact d34)) rfl ?_
   rintro v w7 ⟨S', rfl, hC7, hB7, hSl, hSL, hSN⟩
   refine ⟨fun _ _ => trivial, ?_⟩
   have hQl := hJ.ql
   rw [t1] at hSN ⊢
   repeat' (first|refine aC (j := j) rfl rfl ⟨_, _, rfl⟩ (by omega) ?_|refine dC rfl rfl (hB5.chg hC7 (Ne.symm d45)) (by omega) (fun w8 hc8 hb8 => ⟨fun _ _ => trivial, ?_⟩)|refine ai rfl ?_|refine aa ?_|refine ah rfl ?_|refine ae ?_|refine cO rfl rfl (by omega) (by omega) ?_|refine aK ?_)
   have sx := hEx.size
   refine ⟨⟨(j, _, _), ⟨hJ.step t3 hV0 hSl hSL hSN, (hB3.chg hC7 d34).chg hc8 d35, hB7.chg hc8 d45, hb8, (hEx.chg hC7 (by omega)).chg hc8 (by omega)⟩, Nat.lt_succ_self j, rfl, trivial⟩, (by (repeat (first|exact aE _ _ _|refine aw rfl ?_|refine au rfl ?_|refine ak rfl ?_|refine ao rfl ?_)))⟩
  ·obtain rfl : k = 0 := by omega
   obtain ⟨f1, f2⟩ := hJ.fin
   rw [Nat.mul_div_mul_right _ _ (Nat.two_pow_pos s)] at f1
   rw [Nat.mul_mod_mul_right] at f2
   have hrl := hJ.rl
   have hql := hJ.ql
   have e4 : la.length + 1 = R1.length := by omega
   rw [e4]
   refine av (jZ hB4 hJ.lr hs (by omega)) rfl ?_
   rintro v w7 ⟨hC7, hB7⟩
   refine ⟨fun _ _ => trivial, ?_⟩
   repeat' (first|refine ai rfl ?_|refine aa ?_|refine aj ?_|refine ah rfl ?_|refine ae ?_)
   have hE7 := hEx.chg hC7 (by omega)
   have hB57 := hB5.chg hC7 (Ne.symm d45)
   have hLQ : Limbs w7 (some ⟨g5, 0, none⟩) (m + 1) Q1 := ⟨hB57.sl, by omega, hJ.lq, by omega⟩
   rw [show m + 1 = Q1.length by omega] at hLQ ⊢
   refine av (cf hLQ) rfl ?_
   rintro v w8 ⟨rfl, hE8⟩
   refine ⟨fun _ _ => trivial, ?_⟩
   have hsl := kJ s R1
   have hLR : Limbs w8 (some ⟨g4, 0, none⟩) R1.length (shrL s R1) := ⟨(hB7.ext hE8).sl, by omega, nO s R1, by omega⟩
   repeat' (first|refine ai rfl ?_)
   rw [← hsl] at hLR ⊢
   refine av (cf hLR) rfl ?_
   rintro v w9 ⟨rfl, hE9⟩
   refine ⟨fun _ _ => trivial, ?_⟩
   repeat' (first|refine ai rfl ?_|refine aa ?_|refine ae ?_|refine aR ?_)
   refine eN rfl (rt rfl) (rt rfl) ⟨_, _, trimL Q1, _, _, trimL (shrL s R1), rfl, ((hLQ.ext hE8).ext hE9).trim, (hLR.ext hE9).trim, bD _, bD _, ?_, ?_, fun ad e => ?_, fun ad e => ?_, (hE7.trans hE8).trans hE9⟩
   ·rw [bf, f1]
   ·rw [bf, kK (by omega) hJ.lr, f2, Nat.mul_div_cancel _ (Nat.two_pow_pos s)]
   ·cases e; simp only; omega
   ·cases e; simp only; omega
end Go.Proofs.YtppipmkpmmdcjaaGreat
namespace Go.LM
theorem rL (j : Nat) : (2 : Nat) ^ (32 * j) = 4294967296 ^ j := by rw [Nat.pow_mul]
theorem nX : ∀ {l : List Nat} {j s : Nat}, Lim l → s < 32 → natOf l / 2 ^ (32 * j + s) % 2 = l.getD j 0 / 2 ^ s % 2
 | [], j, s, _, _ => by simp [natOf]
 | d :: l, 0, s, h, hs => by
  have hT : 4294967296 = 2 ^ s * (2 * 2 ^ (31 - s)) := by rw [← Nat.pow_succ', ← Nat.pow_add, show s + (31 - s + 1) = 32 by omega]
  have hS : 0 < 2 ^ s := Nat.two_pow_pos s
  show (d + 4294967296 * natOf l) / 2 ^ (32 * 0 + s) % 2 = d / 2 ^ s % 2
  rw [show 32 * 0 + s = s by omega]
  generalize 2 ^ s = S at *
  generalize 2 ^ (31 - s) = T at *
  rw [hT, Nat.mul_assoc, Nat.add_mul_div_left _ _ hS, Nat.mul_assoc, Nat.add_mul_mod_self_left]
 | d :: l, j + 1, s, h, hs => by
  have hd : d < 4294967296 := h d (by simp)
  have ih := nX (l := l) (j := j) (s := s) (fun x hx => h x (by simp [hx])) hs
  show (d + 4294967296 * natOf l) / 2 ^ (32 * (j + 1) + s) % 2 = (d :: l).getD (j + 1) 0 / 2 ^ s % 2
  rw [List.getD_cons_succ, ← ih, show 32 * (j + 1) + s = 32 + (32 * j + s) by omega, Nat.pow_add, ← Nat.div_div_eq_div_mul, show (2 : Nat) ^ 32 = 4294967296 from rfl,
   Nat.add_mul_div_left _ _ (by decide), Nat.div_eq_of_lt hd, Nat.zero_add]
theorem nY : ∀ {l : List Nat} {j t : Nat}, Lim l → t ≤ 32 → natOf l % 2 ^ (32 * j + t) = 0 → l.getD j 0 % 2 ^ t = 0
 | [], j, t, _, _, _ => by simp
 | d :: l, 0, t, h, ht, h0 => by
  have hT : 4294967296 = 2 ^ t * 2 ^ (32 - t) := by rw [← Nat.pow_add, show t + (32 - t) = 32 by omega]
  show d % 2 ^ t = 0
  have h1 : (d + 4294967296 * natOf l) % 2 ^ (32 * 0 + t) = 0 := h0
  rw [show 32 * 0 + t = t by omega] at h1
  generalize 2 ^ t = S at *
  rw [hT, Nat.mul_assoc, Nat.add_mul_mod_self_left] at h1
  exact h1
 | d :: l, j + 1, t, h, ht, h0 => by
  have hd : d < 4294967296 := h d (by simp)
  rw [List.getD_cons_succ]
  refine nY (fun x hx => h x (by simp [hx])) ht ?_
  have h1 : (d + 4294967296 * natOf l) % 2 ^ (32 * (j + 1) + t) = 0 := h0
  rw [show 32 * (j + 1) + t = 32 + (32 * j + t) by omega, Nat.pow_add, show (2 : Nat) ^ 32 = 4294967296 from rfl] at h1
  generalize 2 ^ (32 * j + t) = S at *
  obtain ⟨q, hq⟩ := Nat.dvd_of_mod_eq_zero h1
  rw [Nat.mul_assoc] at hq
  have : natOf l = S * q := by omega
  rw [this, Nat.mul_mod_right]
theorem tz {Q : List Nat} {i : Nat} (hL : Lim Q) (hi : i / 32 < Q.length) (h0 : natOf Q % 2 ^ (i + 1) = 0) :
  natOf (Q.set (i / 32) (Q.getD (i / 32) 0 ||| 2 ^ (i % 32))) = natOf Q + 2 ^ i ∧ Q.getD (i / 32) 0 ||| 2 ^ (i % 32) < 4294967296 := by
 have hlt := hL.getD (i / 32)
 have hm : Q.getD (i / 32) 0 % 2 ^ (i % 32 + 1) = 0 := nY hL (by omega) (by rw [show 32 * (i / 32) + (i % 32 + 1) = i + 1 by omega]; exact h0)
 have hor : Q.getD (i / 32) 0 ||| 2 ^ (i % 32) = Q.getD (i / 32) 0 + 2 ^ (i % 32) := by
  obtain ⟨q, hq⟩ := Nat.dvd_of_mod_eq_zero hm
  rw [hq]
  exact (Nat.two_pow_add_eq_or_of_lt (Nat.pow_lt_pow_right (by decide) (by omega)) q).symm
 constructor
 ·have h1 := cJ (l := Q) (v := Q.getD (i / 32) 0 ||| 2 ^ (i % 32)) hi
  rw [hor, Nat.add_mul] at h1
  rw [hor]
  have e : 2 ^ (i % 32) * 4294967296 ^ (i / 32) = 2 ^ i := by rw [← rL, ← Nat.pow_add, show i % 32 + 32 * (i / 32) = i by omega]
  rw [e] at h1
  omega
 ·exact Nat.or_lt_two_pow (n := 32) hlt (Nat.pow_lt_pow_right (by decide) (by omega))
theorem tA {N i d A b : Nat} (hd : 0 < d) (hA : A = N / 2 ^ (i + 1)) (hb : b = N / 2 ^ i % 2) :
  (2 * (A % d) + b < d → N / 2 ^ i % d = 2 * (A % d) + b ∧ N / 2 ^ i / d * 2 ^ i = A / d * 2 ^ (i + 1)) ∧
  (d ≤ 2 * (A % d) + b → N / 2 ^ i % d = 2 * (A % d) + b - d ∧ N / 2 ^ i / d * 2 ^ i = A / d * 2 ^ (i + 1) + 2 ^ i) := by
 have e : N / 2 ^ i = 2 * A + b := by subst hA hb; rw [Nat.pow_succ, ← Nat.div_div_eq_div_mul]; omega
 have hb2 : b < 2 := by omega
 have hr := Nat.mod_lt A hd
 have hq := Nat.div_add_mod A d
 rw [e]
 clear e hA hb
 generalize A % d = r0 at *
 generalize A / d = q at *
 constructor
 ·intro h
  have e2 : 2 * A + b = (2 * r0 + b) + d * (2 * q) := by grind
  rw [e2, Nat.add_mul_mod_self_left, Nat.add_mul_div_left _ _ hd, Nat.mod_eq_of_lt h, Nat.div_eq_of_lt h]
  exact ⟨rfl, by rw [Nat.pow_succ]; grind⟩
 ·intro h
  obtain ⟨t, ht⟩ : ∃ t, 2 * r0 + b = d + t := ⟨2 * r0 + b - d, by omega⟩
  have e2 : 2 * A + b = t + d * (2 * q + 1) := by grind
  have h3 : t < d := by omega
  rw [e2, Nat.add_mul_mod_self_left, Nat.add_mul_div_left _ _ hd, Nat.mod_eq_of_lt h3, Nat.div_eq_of_lt h3, ht]
  exact ⟨by omega, by rw [Nat.pow_succ]; grind⟩
theorem qz {x b : Nat} (hb : b ≤ 1) : ((x <<< 1) % 4294967296 ||| b) = (b + 2 * x) % 4294967296 ∧ x >>> 31 = (b + 2 * x) / 4294967296 := by
 have e : (x <<< 1) % 4294967296 = 2 ^ 1 * (x % 2147483648) := by rw [Nat.shiftLeft_eq]; omega
 rw [e, ← Nat.two_pow_add_eq_or_of_lt (show b < 2 ^ 1 by omega), Nat.shiftRight_eq_div_pow]
 omega
theorem kP {N D : Nat} (hD : 0 < D) :
  ((N : Int) / (D : Int) = ((N / D : Nat) : Int) ∧ (N : Int) % (D : Int) = ((N % D : Nat) : Int)) ∧
  ((N : Int) / (-(D : Int)) = -((N / D : Nat) : Int) ∧ (N : Int) % (-(D : Int)) = ((N % D : Nat) : Int)) ∧
  (N % D = 0 → (-(N : Int)) / (D : Int) = -((N / D : Nat) : Int) ∧ (-(N : Int)) % (D : Int) = 0 ∧ (-(N : Int)) / (-(D : Int)) = ((N / D : Nat) : Int) ∧ (-(N : Int)) % (-(D : Int)) = 0) ∧
  (N % D ≠ 0 → (-(N : Int)) / (D : Int) = -((N / D : Nat) : Int) - 1 ∧ (-(N : Int)) % (D : Int) = (D : Int) - ((N % D : Nat) : Int) ∧ (-(N : Int)) / (-(D : Int)) = ((N / D : Nat) : Int) + 1 ∧ (-(N : Int)) % (-(D : Int)) = (D : Int) - ((N % D : Nat) : Int)) := by
 have h1 := Nat.div_add_mod N D
 have h2 := Nat.mod_lt N hD
 have un : ∀ {x y q r : Int}, y ≠ 0 → 0 ≤ r → r < y.natAbs → x = y * q + r → x / y = q ∧ x % y = r := by
  intro x y q r hy h0 hr he
  have hm : x % y = r := by
   rw [he, Int.mul_add_emod_self_left]
   rcases Int.lt_or_lt_of_ne hy with h | h
   ·rw [← Int.emod_neg]; exact Int.emod_eq_of_lt h0 (by omega)
   ·exact Int.emod_eq_of_lt h0 (by omega)
  refine ⟨?_, hm⟩
  have := Int.mul_ediv_add_emod x y
  rw [hm] at this
  have h3 : y * (x / y) = y * q := by omega
  exact Int.eq_of_mul_eq_mul_left hy h3
 generalize N / D = q at *
 generalize N % D = r at *
 have hN : (N : Int) = (D : Int) * q + r := by rw [← h1]; simp
 refine ⟨un (by omega) (by omega) (by omega) hN, un (by omega) (by omega) (by omega) (by rw [hN]; grind), fun h0 => ?_, fun h0 => ?_⟩
 ·subst h0
  have a := un (x := -(N : Int)) (y := (D : Int)) (q := -(q : Int)) (r := 0) (by omega) (by omega) (by omega) (by rw [hN]; grind)
  have b := un (x := -(N : Int)) (y := -(D : Int)) (q := (q : Int)) (r := 0) (by omega) (by omega) (by omega) (by rw [hN]; grind)
  exact ⟨a.1, a.2, b.1, b.2⟩
 ·have a := un (x := -(N : Int)) (y := (D : Int)) (q := -(q : Int) - 1) (r := (D : Int) - r) (by omega) (by omega) (by omega) (by rw [hN]; grind)
  have b := un (x := -(N : Int)) (y := -(D : Int)) (q := (q : Int) + 1) (r := (D : Int) - r) (by omega) (by omega) (by omega) (by rw [hN]; grind)
  exact ⟨a.1, a.2, b.1, b.2⟩
end Go.LM
