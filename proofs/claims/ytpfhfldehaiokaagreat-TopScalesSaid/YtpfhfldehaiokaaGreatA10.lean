import Derived.Test.YtpfhfldehaiokaaGreatA06
set_option maxHeartbeats 2000000
namespace Go.W
section
variable {P : Program} {S : World → Prop} {ops : List Oper} {K : Env → World → Prop} {rest : List (Oper × Option Bool)} {ρ : Env} {w : World} {b : Option Bool} {kf : Bool} {d : Nat} {dst : Option Nat} {T T' : TypeId} {pos : String} {af : Array Edge}
theorem mg {x ix : Operand} {s : ByteArray} {j : Nat} {k : IntKind} {m : Nat} (hu : P.underlying T' = some .string) (hx : ev ρ x = .string s) (hi : ev ρ ix = .int k (j : Int)) (hv : (s[j]?).map (·.toNat) = some m)
  (h : RR P S ops K rest (upd ρ d (.int .u8 (m : Int))) w) : RR P S ops K ((⟨some d, .index T' x ix, T, pos, af, none⟩, b) :: rest) ρ w := by
 refine ci rfl (fun w' => ?_) h
 obtain ⟨u, hu2, rfl⟩ := Option.map_eq_some_iff.1 hv
 simp [execOp, Instr.index, hx, hi, asIntOf, underlying, hu, hu2]
end
end Go.W
namespace Go.LM
theorem ii {l : List Nat} {k : Nat} (h : k < l.length) : natOf (l.drop k) = l.getD k 0 + 4294967296 * natOf (l.drop (k + 1)) := by
 rw [List.drop_eq_getElem_cons h]
 simp [natOf, List.getD_eq_getElem?_getD, h]
theorem pI {l : List Nat} {k j v : Nat} (h : k < j) : (l.set k v).drop j = l.drop j := by
 apply List.ext_getElem?
 intro i
 simp [List.getElem?_drop, List.getElem?_set_ne (show k ≠ j + i by omega)]
end Go.LM
namespace Go.Proofs.YtpfhfldehaiokaaGreat
open Go.W Go.LM
def bitL (x : Nat) : Nat := if x = 0 then 0 else Nat.log2 x + 1
theorem iU {x : Nat} (h : 0 < x) : 2 ^ (bitL x - 1) ≤ x ∧ x < 2 ^ bitL x ∧ 0 < bitL x := by
 unfold bitL
 rw [if_neg (by omega)]
 exact ⟨by simpa using Nat.log2_self_le (by omega), Nat.lt_log2_self, by omega⟩
theorem fD {x k : Nat} (h : 2 ^ k ≤ x) : bitL (x / 2 ^ k) + k = bitL x := by
 have hp : 0 < 2 ^ k := Nat.two_pow_pos k
 have h0 : 0 < x / 2 ^ k := Nat.div_pos h hp
 obtain ⟨h1, h2, h3⟩ := iU h0
 obtain ⟨g1, g2, g3⟩ := iU (show 0 < x by omega)
 have e1 : 2 ^ (bitL (x / 2 ^ k) - 1 + k) ≤ x := by
  rw [Nat.pow_add]; exact (Nat.le_div_iff_mul_le hp).1 h1
 have e2 : x < 2 ^ (bitL (x / 2 ^ k) + k) := by
  rw [Nat.pow_add]; exact (Nat.div_lt_iff_lt_mul hp).1 h2
 have a1 : bitL (x / 2 ^ k) - 1 + k < bitL x := (Nat.pow_lt_pow_iff_right (by decide : 1 < 2)).1 (Nat.lt_of_le_of_lt e1 g2)
 have a2 : bitL x - 1 < bitL (x / 2 ^ k) + k := (Nat.pow_lt_pow_iff_right (by decide : 1 < 2)).1 (Nat.lt_of_le_of_lt g1 e2)
 omega
theorem qH {x : Nat} (hx : x < 4294967296) (w : World) : CallsR Tryz.prog 157 #[.int .u32 (x : Int)] w fun v w' => v = .int .i64 (bitL x : Int) ∧ w' = w := by
 refine aE (args := [_]) Tryz.func157 rfl rfl ?_
 repeat' (first|refine aj rfl ?_|refine aa ?_|refine ak ?_|refine ai rfl ?_|refine ah ?_)
 refine dy (ι := Nat × Nat) [0, 2, 5, 6] (fun s => [(0, .int .u32 (s.1 : Int)), (2, .int .i64 (s.2 : Int))])
  (fun s w' => w' = w ∧ s.1 < 65536 ∧ s.2 ≤ 16 ∧ bitL s.1 + s.2 = bitL x) ?_ ?_
 ·repeat' (first|refine dP (j := 16) rfl rfl (.inl rfl) ?_|refine aj rfl ?_|refine aa ?_|refine ak ?_|refine ai rfl ?_|refine ah ?_|refine aQ rfl (fun hc => ?_) (fun hc => ?_)|refine aC ?_)
  ·refine ⟨⟨(x >>> 16, 16), ⟨rfl, by simp only [Nat.shiftRight_eq_div_pow]; omega, by simp, by simp only [Nat.shiftRight_eq_div_pow]; exact fD (by omega)⟩, rfl, rfl, trivial⟩, (by (repeat (first|exact aX _ _|refine aB rfl ?_|refine ax rfl ?_|refine av rfl ?_|refine aw rfl ?_)))⟩
  ·refine ⟨⟨(x, 0), ⟨rfl, by simp only; omega, by simp, rfl⟩, rfl, rfl, trivial⟩, (by (repeat (first|exact aX _ _|refine aB rfl ?_|refine ax rfl ?_|refine av rfl ?_|refine aw rfl ?_)))⟩
 rintro ⟨y, n⟩ ξ w1 ⟨rfl, hy, hn, he⟩
 simp only at hy hn he
 show CW _ _ _ _ (over [(0, .int .u32 (y : Int)), (2, .int .i64 (n : Int))] _) w1
 repeat' (first|refine aj rfl ?_|refine aa ?_|refine ak ?_|refine ai rfl ?_|refine ah ?_)
 refine dy (ι := Nat × Nat) [0, 2, 9, 10, 11, 12] (fun s => [(0, .int .u32 (s.1 : Int)), (2, .int .i64 (s.2 : Int))])
  (fun s w' => w' = w1 ∧ s.1 < 256 ∧ s.2 ≤ 24 ∧ bitL s.1 + s.2 = bitL x) ?_ ?_
 ·repeat' (first|refine dP (j := 8) rfl rfl (.inl rfl) ?_|refine dM (m := n) (m' := 8) rfl rfl (by omega) ?_|refine aj rfl ?_|refine aa ?_|refine ak ?_|refine ai rfl ?_|refine ah ?_|refine aQ rfl (fun hc => ?_) (fun hc => ?_)|refine aC ?_)
  ·refine ⟨⟨(y >>> 8, n + 8), ⟨rfl, by simp only [Nat.shiftRight_eq_div_pow]; omega, by simp only; omega, ?_⟩, rfl, rfl, trivial⟩, (by (repeat (first|exact aX _ _|refine aB rfl ?_|refine ax rfl ?_|refine av rfl ?_|refine aw rfl ?_)))⟩
   simp only [Nat.shiftRight_eq_div_pow]
   have := fD (x := y) (k := 8) (by omega)
   omega
  ·refine ⟨⟨(y, n), ⟨rfl, by simp only; omega, by simp only; omega, he⟩, rfl, rfl, trivial⟩, (by (repeat (first|exact aX _ _|refine aB rfl ?_|refine ax rfl ?_|refine av rfl ?_|refine aw rfl ?_)))⟩
 clear hy hn he
 rintro ⟨y, n⟩ ξ2 w2 ⟨rfl, hy, hn, he⟩
 simp only at hy hn he
 show CW _ _ _ _ (over [(0, .int .u32 (y : Int)), (2, .int .i64 (n : Int))] _) w2
 have hb : bitL y ≤ 8 := by
  unfold bitL
  split
  ·omega
  ·have := (Nat.log2_lt (n := y) (k := 8) (by omega)).2 hy; omega
 repeat' (first|refine cF rfl (rD (by omega) (by omega)) ?_|refine aj rfl ?_|refine ak ?_|refine ai rfl ?_)
 refine mg (j := y) (m := bitL y) (by kernel_rfl) rfl rfl ?_ ?_
 ·revert hy
  clear he hn hb
  revert y
  decide +kernel
 repeat' (first|refine cF rfl (cK (by omega) (by omega)) ?_|refine dM (m := n) (m' := bitL y) rfl rfl (by omega) ?_|refine aj rfl ?_|refine aa ?_|refine ah ?_|refine aK ?_)
 refine bo rfl (rt rfl) ⟨?_, rfl⟩
 show Value.int .i64 _ = _
 rw [← he, Nat.add_comm]
theorem sF {x : Nat} (hx : x < 4294967296) (h0 : 0 < x) (w : World) : CallsR Tryz.prog 171 #[.int .u32 (x : Int)] w fun v w' => ∃ s : Nat, v = .int .i64 (s : Int) ∧ w' = w ∧ s ≤ 31 ∧ 2147483648 ≤ x * 2 ^ s ∧ x * 2 ^ s < 4294967296 := by
 refine aE (args := [_]) Tryz.func171 rfl rfl ?_
 repeat' (first|refine aj rfl ?_|refine aa ?_|refine ak ?_|refine ai rfl ?_|refine ah ?_)
 refine au (qH hx w) rfl ?_
 rintro v w2 ⟨rfl, rfl⟩
 refine tvv ?_
 obtain ⟨h1, h2, h3⟩ := iU h0
 have hb : bitL x ≤ 32 := by
  have : bitL x - 1 < 32 := (Nat.pow_lt_pow_iff_right (by decide : 1 < 2)).1 (Nat.lt_of_le_of_lt h1 (show x < 2 ^ 32 from hx))
  omega
 repeat' (first|refine aj rfl ?_|refine aa ?_|refine ah ?_|refine bK rfl rfl (by omega) (by omega) ?_|refine aK ?_)
 refine bo rfl (rt rfl) ⟨32 - bitL x, ?_, rfl, by omega, ?_, ?_⟩
 ·show Value.int .i64 ((32 : Int) - (bitL x : Int)) = _
  rw [show ((32 : Int) - (bitL x : Int)) = ((32 - bitL x : Nat) : Int) by omega]
 ·calc 2147483648 = 2 ^ (bitL x - 1) * 2 ^ (32 - bitL x) := by rw [← Nat.pow_add, show bitL x - 1 + (32 - bitL x) = 31 by omega]
   _ ≤ x * 2 ^ (32 - bitL x) := Nat.mul_le_mul_right _ h1
 ·calc x * 2 ^ (32 - bitL x) < 2 ^ bitL x * 2 ^ (32 - bitL x) := Nat.mul_lt_mul_of_pos_right h2 (Nat.two_pow_pos _)
   _ = 4294967296 := by rw [← Nat.pow_add, show bitL x + (32 - bitL x) = 32 by omega]
theorem iE {ls : List Nat} {a : Option Addr} {c s : Nat} {w : World} (h : Limbs w a c ls) (hs : s ≤ 31) (hlen : ls.length < 17592186044416) :
  CallsR Tryz.prog 172 #[.slice a ls.length c, .int .i64 (s : Int)] w fun v w' => ∃ g S, v = .slice (some ⟨g, 0, none⟩) (ls.length + 1) (ls.length + 1) ∧ w.heap.size ≤ g ∧ Blk w' g 85 (limbsL S) ∧ S.length = ls.length + 1 ∧ Lim S ∧ natOf S = natOf ls * 2 ^ s ∧ S.getD ls.length 0 < 2 ^ s ∧ Ex w w' := by
 have h2s : 2 ^ s ≤ 2147483648 := Nat.pow_le_pow_right (by decide) hs
 have h0s : 0 < 2 ^ s := Nat.two_pow_pos s
 refine aE (args := [_, _]) Tryz.func172 rfl rfl ?_
 repeat' (first|refine dM (m := ls.length) (m' := 1) rfl rfl (by omega) ?_|refine fT rfl rfl (by omega) (by omega) (fun g w2 hn2 => tvv ?_)|refine aj rfl ?_|refine aa ?_|refine ak ?_|refine ai rfl ?_|refine ah ?_|refine bc rfl ?_|refine ay ?_)
 have l2 := hn2.lo
 refine aW (ι := Nat × List Nat × Nat) [6, 7, 8, 15, 16, 17, 18, 19, 20, 21, 22, 23, 24, 25, 26, 27, 28, 29, 30, 31, 32, 33] (fun s => [(15, .int .i64 (s.1 : Int)), (6, .int .u64 (s.2.2 : Int))])
  (fun t w' => t.1 ≤ ls.length ∧ Ex w w' ∧ Blk w' g 85 (limbsL t.2.1) ∧ t.2.1.length = ls.length + 1 ∧ Lim t.2.1 ∧ t.2.2 < 2 ^ s ∧ natOf t.2.1 + t.2.2 * 4294967296 ^ t.1 = natOf (ls.take t.1) * 2 ^ s ∧ ∀ j, t.1 ≤ j → t.2.1.getD j 0 = 0) (fun s => ls.length - s.1)
  (0, List.replicate (ls.length + 1) 0, 0) ⟨rfl, rfl, trivial⟩ ⟨by simp, hn2.ex, hn2.blk, by simp, Lim.zeros _, h0s, by simp [dl, natOf], fun j _ => by simp [List.getD_eq_getElem?_getD, List.getElem?_replicate]; split <;> rfl⟩ ?_
 rintro ⟨i, S, cy⟩ ξ w3 ⟨hi, hE, hbk, hSl, hSL, hcy, hN, hz⟩
 simp only at hi hbk hSl hSL hcy hN hz
 show CW _ _ _ _ (over [(15, .int .i64 (i : Int)), (6, .int .u64 (cy : Int))] _) w3
 have hx := h.lim.getD i
 have h3 := h.ext hE
 have hsh : (ls.getD i 0 <<< s) % 2 ^ IntKind.u64.bits = ls.getD i 0 <<< s := Nat.mod_eq_of_lt (by
  rw [Nat.shiftLeft_eq]
  have : ls.getD i 0 * 2 ^ s ≤ 4294967296 * 2147483648 := Nat.mul_le_mul (by omega) h2s
  simp only [IntKind.bits]; omega)
 have hsh2 : ls.getD i 0 <<< s < 18446744073709551616 := by
  rw [Nat.shiftLeft_eq]
  have : ls.getD i 0 * 2 ^ s ≤ 4294967296 * 2147483648 := Nat.mul_le_mul (by omega) h2s
  omega
 repeat' (first|(refine az rfl rfl (h3.sl.plain (by simp; omega)) (by omega) ?_)|refine bI rfl h3.sl (by omega) ?_|refine iw rfl (by assumption) ?_|refine aj rfl ?_|refine aa ?_|refine ak ?_|refine ai rfl ?_|refine ah ?_|refine bc rfl ?_|refine aQ rfl (fun hc => ?_) (fun hc => ?_)|refine ay ?_|refine aT ?_|refine aO ?_|refine aU ?_|refine aC ?_)
 ·refine j3 (j := s) rfl rfl rfl (by simp only [IntKind.bits]; omega) ?_
  rw [hsh]
  refine lE rfl rfl rfl (by simp only [IntKind.bits]; omega) hsh2 ?_
  repeat' (first|refine dR rfl ?_|refine ez rfl rfl ?_|refine az rfl rfl ⟨_, _, rfl⟩ (by omega) ?_|refine d4 rfl rfl hbk (by omega) (fun w4 hc4 hb4 => tvv ?_)|refine aj rfl ?_|refine aa ?_|refine ak ?_|refine ai rfl ?_|refine ah ?_|refine aV rfl rfl (by omega) (by omega) ?_|refine aJ ?_)
  refine ⟨⟨(i + 1, S.set i ((cy ||| ls.getD i 0 <<< s) % 4294967296), (cy ||| ls.getD i 0 <<< s) / 4294967296), ⟨by simp only; omega, hE.chg hc4 l2, hb4, by simp [hSl], hSL.set (Nat.mod_lt _ (by decide)), sC hcy hx, ?_, ?_⟩, by simp only; omega, rfl, rfl, trivial⟩, (by (repeat (first|exact aG _ _ _|refine aB rfl ?_|refine ax rfl ?_|refine av rfl ?_|refine aw rfl ?_)))⟩
  ·have := tV (m := ls.getD i 0) (show i < S.length by omega) (hz i (Nat.le_refl _)) hN hcy
   simp only
   rw [this, bM, Nat.add_mul]
   congr 1
   rw [Nat.mul_assoc, Nat.mul_assoc, Nat.mul_comm (2 ^ s)]
  ·intro k hk
   simp only at hk ⊢
   rw [cG (by omega), hz k (by omega)]
 ·have hi2 : i = ls.length := by omega
  subst hi2
  rw [bS (Nat.le_refl _)] at hN
  repeat' (first|refine dR rfl ?_|refine az rfl rfl ⟨_, _, rfl⟩ (by omega) ?_|refine d4 rfl rfl hbk (by omega) (fun w4 hc4 hb4 => tvv ?_)|refine aj rfl ?_|refine aa ?_|refine ak ?_|refine ai rfl ?_|refine ah ?_|refine aK ?_)
  rw [Nat.mod_eq_of_lt (by omega)] at hb4
  have hset := cS (l := S) (k := ls.length) (v := cy) (by omega)
  rw [hz ls.length (by omega), Nat.zero_mul, Nat.add_zero, hN] at hset
  refine bo rfl (rt rfl) ⟨g, S.set ls.length cy, rfl, l2, hb4, by simp [hSl], hSL.set (by omega), hset, ?_, hE.chg hc4 l2⟩
  rw [kA (by omega)]; exact hcy
end Go.Proofs.YtpfhfldehaiokaaGreat
namespace Go.LM
structure KnD (B E u0 u1 u2 ur v1 v2 vr u v : Nat) : Prop where
 hv : v = (v1 * B + v2) * E + vr
 hu : u = ((u0 * B + u1) * B + u2) * E + ur
 hE : 0 < E
 hvr : vr < E
 hur : ur < E
 hv1 : v1 < B
 hv2 : v2 < B
 hu1 : u1 < B
 hu2 : u2 < B
 hlt : u < v * B
 htop : B ≤ 2 * v1
 hB : 2 ≤ B
section
variable {B E u0 u1 u2 ur v1 v2 vr u v : Nat}
theorem KnD.vpos (h : KnD B E u0 u1 u2 ur v1 v2 vr u v) : B * E ≤ v := by
 have h1 : 1 ≤ v1 := by have := h.htop; have := h.hB; omega
 have h2 : 1 * B ≤ v1 * B := Nat.mul_le_mul_right B h1
 have h3 : B * E ≤ (v1 * B + v2) * E := Nat.mul_le_mul_right E (by omega)
 have := h.hv
 omega
theorem KnD.v0 (h : KnD B E u0 u1 u2 ur v1 v2 vr u v) : 0 < v := Nat.lt_of_lt_of_le (Nat.mul_pos (by have := h.hB; omega) h.hE) h.vpos
theorem KnD.qlt (h : KnD B E u0 u1 u2 ur v1 v2 vr u v) : u / v < B := Nat.div_lt_of_lt_mul h.hlt
theorem KnD.u0_le (h : KnD B E u0 u1 u2 ur v1 v2 vr u v) : u0 ≤ v1 := by
 have hlt := h.hlt
 refine Classical.byContradiction fun hc => ?_
 have h1 : (v1 + 1) * B ≤ u0 * B := Nat.mul_le_mul_right B (by omega)
 have h2 : v1 * B + v2 + 1 ≤ u0 * B + u1 := by have h1' := h1; rw [Nat.add_mul, Nat.one_mul] at h1'; have := h.hv2; omega
 have h3 : (v1 * B + v2 + 1) * B ≤ (u0 * B + u1) * B + u2 := Nat.le_trans (Nat.mul_le_mul_right B h2) (Nat.le_add_right _ _)
 have h4 : (v1 * B + v2 + 1) * B * E ≤ u := by
  have := Nat.mul_le_mul_right E h3
  have := h.hu
  omega
 have h5 : v * B ≤ (v1 * B + v2 + 1) * B * E := by
  have : v ≤ (v1 * B + v2 + 1) * E := by rw [h.hv, Nat.succ_mul]; have := h.hvr; omega
  calc v * B ≤ (v1 * B + v2 + 1) * E * B := Nat.mul_le_mul_right B this
   _ = (v1 * B + v2 + 1) * B * E := by rw [Nat.mul_assoc, Nat.mul_comm E B, Nat.mul_assoc]
 omega
theorem KnD.first (h : KnD B E u0 u1 u2 ur v1 v2 vr u v) : u / v ≤ (u0 * B + u1) / v1 ∧ (u0 * B + u1) / v1 ≤ B + 1 := by
 have hv1 : 0 < v1 := by have := h.htop; have := h.hB; omega
 constructor
 ·rw [Nat.le_div_iff_mul_le hv1]
  refine Classical.byContradiction fun hc => ?_
  have h1 : u0 * B + u1 + 1 ≤ u / v * v1 := by omega
  have h2 : (u0 * B + u1 + 1) * B * E ≤ u / v * v1 * B * E := Nat.mul_le_mul_right E (Nat.mul_le_mul_right B h1)
  have h3 : u / v * v1 * B * E ≤ u / v * v := by
   rw [Nat.mul_assoc, Nat.mul_assoc]
   refine Nat.mul_le_mul_left _ ?_
   rw [h.hv, ← Nat.mul_assoc, Nat.add_mul]
   omega
  have h4 : u / v * v ≤ u := Nat.div_mul_le_self u v
  have h5 : u < (u0 * B + u1 + 1) * B * E := by
   have e1 : (u0 * B + u1 + 1) * B * E = (u0 * B + u1) * B * E + B * E := by rw [Nat.add_mul, Nat.one_mul, Nat.add_mul]
   have e2 : u = (u0 * B + u1) * B * E + u2 * E + ur := by rw [h.hu, Nat.add_mul]
   have e3 : (u2 + 1) * E ≤ B * E := Nat.mul_le_mul_right E h.hu2
   have e4 : (u2 + 1) * E = u2 * E + E := by rw [Nat.add_mul, Nat.one_mul]
   have := h.hur
   omega
  omega
 ·have h1 := h.u0_le
  have h2 : u0 * B ≤ v1 * B := Nat.mul_le_mul_right B h1
  refine Nat.le_of_lt_succ ((Nat.div_lt_iff_lt_mul hv1).2 ?_)
  have e : (B + 1 + 1) * v1 = v1 * B + 2 * v1 := by rw [Nat.add_assoc, Nat.add_mul, Nat.mul_comm B v1]
  rw [Nat.succ_eq_add_one, e]
  have := h.htop; have := h.hu1
  omega
theorem KnD.down (h : KnD B E u0 u1 u2 ur v1 v2 vr u v) {g r : Nat} (hg : g * v1 + r = u0 * B + u1) (hq : u / v ≤ g) (hc : B ≤ g ∨ r * B + u2 < g * v2) : u / v + 1 ≤ g := by
 rcases hc with hc | hc
 ·have := h.qlt; omega
 ·refine Classical.byContradiction fun hn => ?_
  have e : g = u / v := by omega
  have h1 : g * v ≤ u := by rw [e]; exact Nat.div_mul_le_self u v
  have h2 : g * (v1 * B + v2) * E ≤ g * v := by rw [Nat.mul_assoc]; exact Nat.mul_le_mul_left _ (by rw [h.hv]; omega)
  have h3 : g * (v1 * B + v2) * E < ((u0 * B + u1) * B + u2 + 1) * E := by
   have := h.hu; have := h.hur
   rw [Nat.add_mul _ 1, Nat.one_mul]; omega
  have h4 : g * (v1 * B + v2) < (u0 * B + u1) * B + u2 + 1 := Nat.lt_of_mul_lt_mul_right h3
  rw [← hg, Nat.mul_add, ← Nat.mul_assoc, Nat.add_mul] at h4
  omega
theorem KnD.done (h : KnD B E u0 u1 u2 ur v1 v2 vr u v) {g r : Nat} (hg : g * v1 + r = u0 * B + u1) (hgB : g ≤ B) (hc : g * v2 ≤ r * B + u2 ∨ B ≤ r) : g ≤ u / v + 1 := by
 have h1 : g * v2 ≤ r * B + u2 := by
  rcases hc with hc | hc
  ·exact hc
  ·have a1 : g * v2 ≤ B * B := Nat.mul_le_mul hgB (Nat.le_of_lt h.hv2)
   have a2 : B * B ≤ r * B := Nat.mul_le_mul_right B hc
   omega
 have h2 : g * (v1 * B + v2) ≤ (u0 * B + u1) * B + u2 := by rw [← hg, Nat.mul_add, ← Nat.mul_assoc, Nat.add_mul]; omega
 have h3 : g * v ≤ u + v := by
  have a1 : g * v = g * (v1 * B + v2) * E + g * vr := by rw [h.hv, Nat.mul_add, ← Nat.mul_assoc]
  have a2 : g * (v1 * B + v2) * E ≤ ((u0 * B + u1) * B + u2) * E := Nat.mul_le_mul_right E h2
  have a3 : g * vr ≤ B * E := Nat.mul_le_mul hgB (Nat.le_of_lt h.hvr)
  have := h.vpos; have := h.hu
  omega
 cases g with
 | zero => exact Nat.zero_le _
 | succ g =>
  have : g * v ≤ u := by rw [Nat.succ_mul] at h3; omega
  have := (Nat.le_div_iff_mul_le h.v0).2 this
  omega
end
end Go.LM
namespace Go.W
section
variable {P : Program} {S : World → Prop} {ops : List Oper} {K : Env → World → Prop} {rest : List (Oper × Option Bool)} {ρ : Env} {w : World} {b : Option Bool} {kf : Bool} {d : Nat} {dst : Option Nat} {T T' : TypeId} {pos : String} {af : Array Edge}
theorem k4 {x y : Operand} {k' : IntKind} {m : Nat} {T'' : TypeId} (hx : ev ρ x = .int .u64 (m : Int)) (hy : ev ρ y = .int k' 32) (hm : m < 4294967296)
  (h : RR P S ops K rest (upd ρ d (.int .u64 ((m * 4294967296 : Nat) : Int))) w) : RR P S ops K ((⟨some d, .binOp .shl T' x y T'', T, pos, af, none⟩, b) :: rest) ρ w :=
 j3 (j := 32) hx hy rfl (by decide) (by
  rw [show (m <<< 32) % 2 ^ IntKind.u64.bits = m * 4294967296 by rw [Nat.shiftLeft_eq]; exact Nat.mod_eq_of_lt (by simp only [IntKind.bits]; omega)]
  exact h)
theorem qI {x y : Operand} {m m' : Nat} {T'' : TypeId} (hx : ev ρ x = .int .u64 ((m * 4294967296 : Nat) : Int)) (hy : ev ρ y = .int .u64 (m' : Int)) (hm : m < 4294967296) (hm' : m' < 4294967296)
  (h : RR P S ops K rest (upd ρ d (.int .u64 ((m * 4294967296 + m' : Nat) : Int))) w) : RR P S ops K ((⟨some d, .binOp .or T' x y T'', T, pos, af, none⟩, b) :: rest) ρ w :=
 lE hx hy rfl (by simp only [IntKind.bits]; omega) (by simp only [IntKind.bits]; omega) (by
  rw [show (m * 4294967296 ||| m') = m * 4294967296 + m' by
   rw [show m * 4294967296 = m <<< 32 by rw [Nat.shiftLeft_eq], ← Nat.shiftLeft_add_eq_or_of_lt (show m' < 2 ^ 32 by omega)]]
  exact h)
theorem xk {x y : Operand} {m m' : Nat} {T'' : TypeId} (hx : ev ρ x = .int .u64 (m' : Int)) (hy : ev ρ y = .int .u64 ((m * 4294967296 : Nat) : Int)) (hm : m < 4294967296) (hm' : m' < 4294967296)
  (h : RR P S ops K rest (upd ρ d (.int .u64 ((m' + 4294967296 * m : Nat) : Int))) w) : RR P S ops K ((⟨some d, .binOp .or T' x y T'', T, pos, af, none⟩, b) :: rest) ρ w :=
 lE hx hy rfl (by simp only [IntKind.bits]; omega) (by simp only [IntKind.bits]; omega) (by
  rw [show (m' ||| m * 4294967296) = m' + 4294967296 * m by
   rw [Nat.or_comm, show m * 4294967296 = m <<< 32 by rw [Nat.shiftLeft_eq], ← Nat.shiftLeft_add_eq_or_of_lt (show m' < 2 ^ 32 by omega), Nat.shiftLeft_eq]; omega]
  exact h)
theorem tZ {x y : Operand} {m m' : Nat} {T'' : TypeId} (hx : ev ρ x = .int .u64 (m : Int)) (hy : ev ρ y = .int .u64 (m' : Int)) (h0 : 0 < m') (hm : m < 18446744073709551616)
  (h : RR P S ops K rest (upd ρ d (.int .u64 ((m / m' : Nat) : Int))) w) : RR P S ops K ((⟨some d, .binOp .quo T' x y T'', T, pos, af, none⟩, b) :: rest) ρ w :=
 qu hx hy (by omega) (by omega) (by omega) h
theorem t6 {x y : Operand} {m m' : Nat} {T'' : TypeId} (hx : ev ρ x = .int .u64 (m : Int)) (hy : ev ρ y = .int .u64 (m' : Int)) (h0 : 0 < m')
  (h : RR P S ops K rest (upd ρ d (.int .u64 ((m % m' : Nat) : Int))) w) : RR P S ops K ((⟨some d, .binOp .rem T' x y T'', T, pos, af, none⟩, b) :: rest) ρ w :=
 jC hx hy (by omega) (by omega) h
theorem t7 {x y : Operand} {m m' : Nat} {T'' : TypeId} (hx : ev ρ x = .int .u64 (m : Int)) (hy : ev ρ y = .int .u64 (m' : Int)) (h1 : m' ≤ m) (hm : m < 18446744073709551616)
  (h : RR P S ops K rest (upd ρ d (.int .u64 ((m - m' : Nat) : Int))) w) : RR P S ops K ((⟨some d, .binOp .sub T' x y T'', T, pos, af, none⟩, b) :: rest) ρ w :=
 tF hx hy (by rw [cV (by omega) (by omega), show (m : Int) - (m' : Int) = ((m - m' : Nat) : Int) by omega]; exact h)
theorem ka {x y : Operand} {m m' : Nat} {T'' : TypeId} (hx : ev ρ x = .int .i64 (m : Int)) (hy : ev ρ y = .int .i64 (m' : Int)) (h1 : m' ≤ m) (h2 : m ≤ 9223372036854775807)
  (h : RR P S ops K rest (upd ρ d (.int .i64 ((m - m' : Nat) : Int))) w) : RR P S ops K ((⟨some d, .binOp .sub T' x y T'', T, pos, af, none⟩, b) :: rest) ρ w :=
 bK hx hy (by omega) (by omega) (by rw [show (m : Int) - (m' : Int) = ((m - m' : Nat) : Int) by omega]; exact h)
theorem ua {x y : Operand} {m m' : Nat} {T'' : TypeId} (hx : ev ρ x = .int .u32 (m : Int)) (hy : ev ρ y = .int .u32 (m' : Int))
  (h : RR P S ops K rest (upd ρ d (.int .u32 (((m + m') % 4294967296 : Nat) : Int))) w) : RR P S ops K ((⟨some d, .binOp .add T' x y T'', T, pos, af, none⟩, b) :: rest) ρ w :=
 tE hx hy (by
  rw [show IntKind.u32.wrap ((m : Int) + (m' : Int)) = (((m + m') % 4294967296 : Nat) : Int) from (cY rfl).trans (by simp [IntKind.bits])]
  exact h)
end
end Go.W
namespace Go.LM
theorem uc {L S H : List Nat} {i : Nat} (h : i < S.length) : (L ++ S ++ H).getD (L.length + i) 0 = S.getD i 0 := by
 simp [List.getD_eq_getElem?_getD, List.getElem?_append, h]
 rw [if_neg (by omega)]; rfl
theorem vS {L S H : List Nat} {i v : Nat} (h : i < S.length) : (L ++ S ++ H).set (L.length + i) v = L ++ S.set i v ++ H := by
 rw [List.append_assoc, List.set_append_right _ _ (by omega), List.set_append_left _ _ (by omega), ← List.append_assoc]
 simp
def tk (A B : List Nat) (i : Nat) : List Nat := A.take i ++ B.drop i
theorem xl {A B : List Nat} {i : Nat} (h : A.length = B.length) (hi : i ≤ B.length) : (tk A B i).length = B.length := by simp [tk]; omega
theorem vT {A B : List Nat} {i k : Nat} (h : A.length = B.length) (hi : i ≤ k) (hk : k < B.length) : (tk A B i).getD k 0 = B.getD k 0 := by
 unfold tk
 rw [List.getD_eq_getElem?_getD, List.getElem?_append_right (by simp; omega), List.getElem?_drop, List.getD_eq_getElem?_getD]
 simp only [List.length_take]
 rw [show i + (k - min i A.length) = k by omega]
theorem xn {A B : List Nat} {i : Nat} (h : A.length = B.length) (hi : i < B.length) : (tk A B i).set i (A.getD i 0) = tk A B (i + 1) := by
 unfold tk
 have hl : (A.take i).length = i := by simp; omega
 rw [List.set_append_right _ _ (by omega), hl, Nat.sub_self, dz (by omega), List.append_assoc, List.drop_eq_getElem_cons hi]
 rfl
theorem xo {A B : List Nat} (h : A.length = B.length) : tk A B B.length = A := by unfold tk; rw [← h, List.take_length, h]; simp
theorem vU {A B : List Nat} : tk A B 0 = B := by simp [tk]
theorem xp {S V : List Nat} {n : Nat} (hS : S.length = n + 1) (hV : V.length = n) (hn : 2 ≤ n) (lS : Lim S) (lV : Lim V) (top : 2147483648 ≤ V.getD (n - 1) 0) (hlt : natOf S < natOf V * 4294967296) :
  KnD 4294967296 (4294967296 ^ (n - 2)) (S.getD n 0) (S.getD (n - 1) 0) (S.getD (n - 2) 0) (natOf (S.take (n - 2))) (V.getD (n - 1) 0) (V.getD (n - 2) 0) (natOf (V.take (n - 2))) (natOf S) (natOf V) := by
 obtain ⟨m, rfl⟩ : ∃ m, n = m + 2 := ⟨n - 2, by omega⟩
 simp only [Nat.add_sub_cancel, show m + 2 - 1 = m + 1 by omega] at *
 have tl : ∀ {X : List Nat} {k : Nat}, Lim X → natOf (X.take k) < 4294967296 ^ k := fun {X k} h => by
  have := bQ (h.take k)
  refine Nat.lt_of_lt_of_le this (Nat.pow_le_pow_right (by decide) ?_)
  simp; omega
 have p1 : 4294967296 ^ (m + 1) = 4294967296 ^ m * 4294967296 := Nat.pow_succ _ _
 have p2 : 4294967296 ^ (m + 2) = 4294967296 ^ m * 4294967296 * 4294967296 := by rw [show m + 2 = m + 1 + 1 by omega, Nat.pow_succ, p1]
 have hs : natOf S = natOf (S.take m) + S.getD m 0 * 4294967296 ^ m + S.getD (m + 1) 0 * 4294967296 ^ (m + 1) + S.getD (m + 2) 0 * 4294967296 ^ (m + 2) := by
  have : natOf S = natOf (S.take (m + 3)) := by rw [List.take_of_length_le (by omega)]
  rw [this, bR (by omega), bR (by omega), bR (by omega)]
 have hv : natOf V = natOf (V.take m) + V.getD m 0 * 4294967296 ^ m + V.getD (m + 1) 0 * 4294967296 ^ (m + 1) := by
  have : natOf V = natOf (V.take (m + 2)) := by rw [List.take_of_length_le (by omega)]
  rw [this, bR (by omega), bR (by omega)]
 refine ⟨?_, ?_, Nat.pow_pos (by decide), tl lV, tl lS, lV.getD _, lV.getD _, lS.getD _, lS.getD _, hlt, by omega, by decide⟩
 ·rw [hv, p1]; generalize 4294967296 ^ m = E; grind
 ·rw [hs, p1, p2]; generalize 4294967296 ^ m = E; grind
theorem qJ {a b d P : Nat} (ha : a < P) (hb : b < P) (h : a + d * P = b + P) : a = b := by
 have hd : d = 1 := by
  rcases Nat.lt_trichotomy d 1 with h1 | h1 | h1
  ·have : d = 0 := by omega
   subst this; omega
  ·exact h1
  ·have : 2 * P ≤ d * P := Nat.mul_le_mul_right P h1
   omega
 subst hd
 omega
end Go.LM
namespace Go.Proofs.YtpfhfldehaiokaaGreat
open Go.W Go.LM
section
variable {P : Program} {S0 : World → Prop} {ops : List Oper} {K : Env → World → Prop} {rest : List (Oper × Option Bool)} {ρ : Env} {w : World} {b : Option Bool} {kf : Bool} {d : Nat} {T : TypeId} {pos : String} {af : Array Edge}
theorem gG {x : Operand} {T1 : TypeId} {g j Tb : Nat} {L S H : List Nat} [Scal P T1] (hx : ev ρ x = .pointer (some (elt (some ⟨g, L.length, none⟩) j))) (hs : Rd b S0 w fun w' => Blk w' g Tb (limbsL (L ++ S ++ H)))
  (hj : j < S.length) (h : RR P S0 ops K rest (upd ρ d (.int .u32 ((S.getD j 0 : Nat) : Int))) w) : RR P S0 ops K ((⟨some d, .load T1 x, T, pos, af, none⟩, b) :: rest) ρ w :=
 pt (o := L.length) (j := j) (xs := L ++ S ++ H) hx hs (by simp; omega) (by rw [uc hj]; exact h)
theorem jr {x y : Operand} {T1 : TypeId} {g j Tb u : Nat} {L S H : List Nat} [hT : Scal P T1] (hx : ev ρ x = .pointer (some (elt (some ⟨g, L.length, none⟩) j))) (hy : ev ρ y = .int .u32 (u : Int))
  (hb : Blk w g Tb (limbsL (L ++ S ++ H))) (hj : j < S.length) (h : ∀ w', Chg g w w' → Blk w' g Tb (limbsL (L ++ S.set j u ++ H)) → (kf = true → S0 w → S0 w') ∧ RR P S0 ops K rest ρ w') :
  RR P S0 ops K ((⟨none, .store T1 x y, T, pos, af, none⟩, some kf) :: rest) ρ w :=
 ns (o := L.length) (j := j) (xs := L ++ S ++ H) hx hy hb (by simp; omega) (by rw [vS hj]; exact h)
end
theorem kQ {ls : List Nat} {g c s : Nat} {w : World} (hb : Blk w g 85 (limbsL ls)) (hl : Lim ls) (hs : s ≤ 31) (hlen : ls.length ≤ 17592186044417) :
  CallsR Tryz.prog 174 #[.slice (some ⟨g, 0, none⟩) ls.length c, .int .i64 (s : Int)] w fun _ w' => Chg g w w' ∧ Blk w' g 85 (limbsL (shrL s ls)) := by
 have hsl := l0 s ls
 refine aE (args := [_, _]) Tryz.func174 rfl rfl ?_
 repeat' (first|refine aj rfl ?_|refine aa ?_|refine ak ?_|refine ai rfl ?_|refine ah ?_|refine bc rfl ?_|refine ay ?_)
 refine aW (ι := Nat) [4, 5, 8, 9, 10, 11, 12, 13, 14, 15, 16, 17, 18, 19, 20, 21, 22, 23, 24, 25, 26, 27, 28, 29, 30, 31, 32, 33, 34, 35, 36, 37] (fun i => [(8, .int .i64 (i : Int))])
  (fun i w' => i ≤ ls.length ∧ Chg g w w' ∧ Blk w' g 85 (limbsL (tk (shrL s ls) ls i))) (fun i => ls.length - i)
  0 ⟨rfl, trivial⟩ ⟨by simp, Chg.refl _ _, by rw [vU]; exact hb⟩ ?_
 rintro i ξ w3 ⟨hi, hC, hbk⟩
 have htl := xl hsl hi
 have hx := hl.getD i
 have hy := hl.getD (i + 1)
 have hset : ∀ {v : Nat} (hil : i < ls.length), v = (shrL s ls).getD i 0 → (tk (shrL s ls) ls i).set i v = tk (shrL s ls) ls (i + 1) := fun hil hv => by rw [hv]; exact xn hsl hil
 have hget := nD s ls i
 repeat' (first|refine az rfl rfl ⟨_, _, rfl⟩ (by omega) ?_|refine bI rfl hbk.sl (by omega) ?_|((rw [vT hsl (by omega) (by omega)]))|refine iw rfl (by assumption) ?_|refine k4 rfl rfl (by assumption) ?_|refine xk rfl rfl (by assumption) (by assumption) ?_|refine dM (m := i) (m' := 1) rfl rfl (by omega) ?_|(refine dP (j := s) rfl rfl (.inr (by simp only [IntKind.bits]; omega)) ?_)|refine dR rfl ?_|refine d4 rfl rfl hbk (by omega) (fun w4 hc4 hb4 => tvv ?_)|refine aj rfl ?_|refine aa ?_|refine ak ?_|refine ai rfl ?_|refine ah ?_|refine bc rfl ?_|refine aQ rfl (fun hc => ?_) (fun hc => ?_)|refine ay ?_|refine aT ?_|refine aO ?_|refine aU ?_|refine aJ ?_|refine aC ?_)
 ·rw [hset (by omega) (by rw [hget (by omega), Nat.shiftRight_eq_div_pow])] at hb4
  exact ⟨⟨i + 1, ⟨by omega, hC.trans hc4, hb4⟩, by omega, rfl, trivial⟩, (by (repeat (first|exact aG _ _ _|refine aB rfl ?_|refine ax rfl ?_|refine av rfl ?_|refine aw rfl ?_)))⟩
 ·rw [hset (by omega) (by rw [hget (by omega), Nat.shiftRight_eq_div_pow, show ls.getD (i + 1) 0 = 0 by rw [List.getD_eq_getElem?_getD, List.getElem?_eq_none (by omega)]; rfl, Nat.mul_zero, Nat.add_zero])] at hb4
  exact ⟨⟨i + 1, ⟨by omega, hC.trans hc4, hb4⟩, by omega, rfl, trivial⟩, (by (repeat (first|exact aG _ _ _|refine aB rfl ?_|refine ax rfl ?_|refine av rfl ?_|refine aw rfl ?_)))⟩
 ·obtain rfl : i = ls.length := by omega
  rw [xo hsl] at hbk
  exact tJ rfl ⟨hC, hbk⟩
end Go.Proofs.YtpfhfldehaiokaaGreat
