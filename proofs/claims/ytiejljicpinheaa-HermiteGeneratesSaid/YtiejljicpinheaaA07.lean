import Derived.Test.YtiejljicpinheaaA06
namespace Go.W
section
variable {P : Program} {S : World → Prop} {ops : List Oper} {K : Env → World → Prop} {rest : List (Oper × Option Bool)} {ρ : Env} {w : World} {b : Option Bool} {kf : Bool} {d : Nat} {dst : Option Nat} {T T' : TypeId} {pos : String} {af : Array Edge}
theorem jw {x y : Operand} {k' : IntKind} {m : Nat} {T'' : TypeId} (hx : ev ρ x = .int .u64 (m : Int)) (hy : ev ρ y = .int k' 32) (hm : m < 4294967296)
  (h : RR P S ops K rest (upd ρ d (.int .u64 ((m * 4294967296 : Nat) : Int))) w) : RR P S ops K ((⟨some d, .binOp .shl T' x y T'', T, pos, af, none⟩, b) :: rest) ρ w :=
 iM (j := 32) hx hy rfl (by decide) (by
  rw [show (m <<< 32) % 2 ^ IntKind.u64.bits = m * 4294967296 by rw [Nat.shiftLeft_eq]; exact Nat.mod_eq_of_lt (by simp only [IntKind.bits]; omega)]
  exact h)
theorem nQ {x y : Operand} {m m' : Nat} {T'' : TypeId} (hx : ev ρ x = .int .u64 ((m * 4294967296 : Nat) : Int)) (hy : ev ρ y = .int .u64 (m' : Int)) (hm : m < 4294967296) (hm' : m' < 4294967296)
  (h : RR P S ops K rest (upd ρ d (.int .u64 ((m * 4294967296 + m' : Nat) : Int))) w) : RR P S ops K ((⟨some d, .binOp .or T' x y T'', T, pos, af, none⟩, b) :: rest) ρ w :=
 jH hx hy rfl (by simp only [IntKind.bits]; omega) (by simp only [IntKind.bits]; omega) (by
  rw [show (m * 4294967296 ||| m') = m * 4294967296 + m' by
   rw [show m * 4294967296 = m <<< 32 by rw [Nat.shiftLeft_eq], ← Nat.shiftLeft_add_eq_or_of_lt (show m' < 2 ^ 32 by omega)]]
  exact h)
theorem sQ {x y : Operand} {m m' : Nat} {T'' : TypeId} (hx : ev ρ x = .int .u64 (m' : Int)) (hy : ev ρ y = .int .u64 ((m * 4294967296 : Nat) : Int)) (hm : m < 4294967296) (hm' : m' < 4294967296)
  (h : RR P S ops K rest (upd ρ d (.int .u64 ((m' + 4294967296 * m : Nat) : Int))) w) : RR P S ops K ((⟨some d, .binOp .or T' x y T'', T, pos, af, none⟩, b) :: rest) ρ w :=
 jH hx hy rfl (by simp only [IntKind.bits]; omega) (by simp only [IntKind.bits]; omega) (by
  rw [show (m' ||| m * 4294967296) = m' + 4294967296 * m by
   rw [Nat.or_comm, show m * 4294967296 = m <<< 32 by rw [Nat.shiftLeft_eq], ← Nat.shiftLeft_add_eq_or_of_lt (show m' < 2 ^ 32 by omega), Nat.shiftLeft_eq]; omega]
  exact h)
theorem qz {x y : Operand} {m m' : Nat} {T'' : TypeId} (hx : ev ρ x = .int .u64 (m : Int)) (hy : ev ρ y = .int .u64 (m' : Int)) (h0 : 0 < m') (hm : m < 18446744073709551616)
  (h : RR P S ops K rest (upd ρ d (.int .u64 ((m / m' : Nat) : Int))) w) : RR P S ops K ((⟨some d, .binOp .quo T' x y T'', T, pos, af, none⟩, b) :: rest) ρ w :=
 nm hx hy (by omega) (by omega) (by omega) h
theorem qA {x y : Operand} {m m' : Nat} {T'' : TypeId} (hx : ev ρ x = .int .u64 (m : Int)) (hy : ev ρ y = .int .u64 (m' : Int)) (h0 : 0 < m')
  (h : RR P S ops K rest (upd ρ d (.int .u64 ((m % m' : Nat) : Int))) w) : RR P S ops K ((⟨some d, .binOp .rem T' x y T'', T, pos, af, none⟩, b) :: rest) ρ w :=
 ib hx hy (by omega) (by omega) h
theorem qB {x y : Operand} {m m' : Nat} {T'' : TypeId} (hx : ev ρ x = .int .u64 (m : Int)) (hy : ev ρ y = .int .u64 (m' : Int)) (h1 : m' ≤ m) (hm : m < 18446744073709551616)
  (h : RR P S ops K rest (upd ρ d (.int .u64 ((m - m' : Nat) : Int))) w) : RR P S ops K ((⟨some d, .binOp .sub T' x y T'', T, pos, af, none⟩, b) :: rest) ρ w :=
 pR hx hy (by rw [dh (by omega) (by omega), show (m : Int) - (m' : Int) = ((m - m' : Nat) : Int) by omega]; exact h)
theorem ka {x y : Operand} {m m' : Nat} {T'' : TypeId} (hx : ev ρ x = .int .i64 (m : Int)) (hy : ev ρ y = .int .i64 (m' : Int)) (h1 : m' ≤ m) (h2 : m ≤ 9223372036854775807)
  (h : RR P S ops K rest (upd ρ d (.int .i64 ((m - m' : Nat) : Int))) w) : RR P S ops K ((⟨some d, .binOp .sub T' x y T'', T, pos, af, none⟩, b) :: rest) ρ w :=
 cM hx hy (by omega) (by omega) (by rw [show (m : Int) - (m' : Int) = ((m - m' : Nat) : Int) by omega]; exact h)
theorem qC {x y : Operand} {m m' : Nat} {T'' : TypeId} (hx : ev ρ x = .int .u32 (m : Int)) (hy : ev ρ y = .int .u32 (m' : Int))
  (h : RR P S ops K rest (upd ρ d (.int .u32 (((m + m') % 4294967296 : Nat) : Int))) w) : RR P S ops K ((⟨some d, .binOp .add T' x y T'', T, pos, af, none⟩, b) :: rest) ρ w :=
 pQ hx hy (by
  rw [show IntKind.u32.wrap ((m : Int) + (m' : Int)) = (((m + m') % 4294967296 : Nat) : Int) from (cE rfl).trans (by simp [IntKind.bits])]
  exact h)
end
end Go.W
namespace Go.LM
theorem qD {L S H : List Nat} {i : Nat} (h : i < S.length) : (L ++ S ++ H).getD (L.length + i) 0 = S.getD i 0 := by
 simp [List.getD_eq_getElem?_getD, List.getElem?_append, h]
 rw [if_neg (by omega)]; rfl
theorem rM {L S H : List Nat} {i v : Nat} (h : i < S.length) : (L ++ S ++ H).set (L.length + i) v = L ++ S.set i v ++ H := by
 rw [List.append_assoc, List.set_append_right _ _ (by omega), List.set_append_left _ _ (by omega), ← List.append_assoc]
 simp
def tk (A B : List Nat) (i : Nat) : List Nat := A.take i ++ B.drop i
theorem sR {A B : List Nat} {i : Nat} (h : A.length = B.length) (hi : i ≤ B.length) : (tk A B i).length = B.length := by simp [tk]; omega
theorem rN {A B : List Nat} {i k : Nat} (h : A.length = B.length) (hi : i ≤ k) (hk : k < B.length) : (tk A B i).getD k 0 = B.getD k 0 := by
 unfold tk
 rw [List.getD_eq_getElem?_getD, List.getElem?_append_right (by simp; omega), List.getElem?_drop, List.getD_eq_getElem?_getD]
 simp only [List.length_take]
 rw [show i + (k - min i A.length) = k by omega]
theorem sS {A B : List Nat} {i : Nat} (h : A.length = B.length) (hi : i < B.length) : (tk A B i).set i (A.getD i 0) = tk A B (i + 1) := by
 unfold tk
 have hl : (A.take i).length = i := by simp; omega
 rw [List.set_append_right _ _ (by omega), hl, Nat.sub_self, cP (by omega), List.append_assoc, List.drop_eq_getElem_cons hi]
 rfl
theorem sT {A B : List Nat} (h : A.length = B.length) : tk A B B.length = A := by unfold tk; rw [← h, List.take_length, h]; simp
theorem rO {A B : List Nat} : tk A B 0 = B := by simp [tk]
theorem sU {S V : List Nat} {n : Nat} (hS : S.length = n + 1) (hV : V.length = n) (hn : 2 ≤ n) (lS : Lim S) (lV : Lim V) (top : 2147483648 ≤ V.getD (n - 1) 0) (hlt : natOf S < natOf V * 4294967296) :
  KnD 4294967296 (4294967296 ^ (n - 2)) (S.getD n 0) (S.getD (n - 1) 0) (S.getD (n - 2) 0) (natOf (S.take (n - 2))) (V.getD (n - 1) 0) (V.getD (n - 2) 0) (natOf (V.take (n - 2))) (natOf S) (natOf V) := by
 obtain ⟨m, rfl⟩ : ∃ m, n = m + 2 := ⟨n - 2, by omega⟩
 simp only [Nat.add_sub_cancel, show m + 2 - 1 = m + 1 by omega] at *
 have tl : ∀ {X : List Nat} {k : Nat}, Lim X → natOf (X.take k) < 4294967296 ^ k := fun {X k} h => by
  have := bL (h.take k)
  refine Nat.lt_of_lt_of_le this (Nat.pow_le_pow_right (by decide) ?_)
  simp; omega
 have p1 : 4294967296 ^ (m + 1) = 4294967296 ^ m * 4294967296 := Nat.pow_succ _ _
 have p2 : 4294967296 ^ (m + 2) = 4294967296 ^ m * 4294967296 * 4294967296 := by rw [show m + 2 = m + 1 + 1 by omega, Nat.pow_succ, p1]
 have hs : natOf S = natOf (S.take m) + S.getD m 0 * 4294967296 ^ m + S.getD (m + 1) 0 * 4294967296 ^ (m + 1) + S.getD (m + 2) 0 * 4294967296 ^ (m + 2) := by
  have : natOf S = natOf (S.take (m + 3)) := by rw [List.take_of_length_le (by omega)]
  rw [this, bM (by omega), bM (by omega), bM (by omega)]
 have hv : natOf V = natOf (V.take m) + V.getD m 0 * 4294967296 ^ m + V.getD (m + 1) 0 * 4294967296 ^ (m + 1) := by
  have : natOf V = natOf (V.take (m + 2)) := by rw [List.take_of_length_le (by omega)]
  rw [this, bM (by omega), bM (by omega)]
 refine ⟨?_, ?_, Nat.pow_pos (by decide), tl lV, tl lS, lV.getD _, lV.getD _, lS.getD _, lS.getD _, hlt, by omega, by decide⟩
 ·rw [hv, p1]; generalize 4294967296 ^ m = E; grind
 ·rw [hs, p1, p2]; generalize 4294967296 ^ m = E; grind
theorem nR {a b d P : Nat} (ha : a < P) (hb : b < P) (h : a + d * P = b + P) : a = b := by
 have hd : d = 1 := by
  rcases Nat.lt_trichotomy d 1 with h1 | h1 | h1
  ·have : d = 0 := by omega
   subst this; omega
  ·exact h1
  ·have : 2 * P ≤ d * P := Nat.mul_le_mul_right P h1
   omega
 subst hd
 omega
end Go.LM
namespace Go.Proofs.Ytiejljicpinheaa
open Go.W Go.LM
section
variable {P : Program} {S0 : World → Prop} {ops : List Oper} {K : Env → World → Prop} {rest : List (Oper × Option Bool)} {ρ : Env} {w : World} {b : Option Bool} {kf : Bool} {d : Nat} {T : TypeId} {pos : String} {af : Array Edge}
theorem fC {x : Operand} {T1 : TypeId} {g j Tb : Nat} {L S H : List Nat} [Scal P T1] (hx : ev ρ x = .pointer (some (elt (some ⟨g, L.length, none⟩) j))) (hs : Rd b S0 w fun w' => Blk w' g Tb (limbsL (L ++ S ++ H)))
  (hj : j < S.length) (h : RR P S0 ops K rest (upd ρ d (.int .u32 ((S.getD j 0 : Nat) : Int))) w) : RR P S0 ops K ((⟨some d, .load T1 x, T, pos, af, none⟩, b) :: rest) ρ w :=
 mA (o := L.length) (j := j) (xs := L ++ S ++ H) hx hs (by simp; omega) (by rw [qD hj]; exact h)
theorem gZ {x y : Operand} {T1 : TypeId} {g j Tb u : Nat} {L S H : List Nat} [hT : Scal P T1] (hx : ev ρ x = .pointer (some (elt (some ⟨g, L.length, none⟩) j))) (hy : ev ρ y = .int .u32 (u : Int))
  (hb : Blk w g Tb (limbsL (L ++ S ++ H))) (hj : j < S.length) (h : ∀ w', Chg g w w' → Blk w' g Tb (limbsL (L ++ S.set j u ++ H)) → (kf = true → S0 w → S0 w') ∧ RR P S0 ops K rest ρ w') :
  RR P S0 ops K ((⟨none, .store T1 x y, T, pos, af, none⟩, some kf) :: rest) ρ w :=
 kD (o := L.length) (j := j) (xs := L ++ S ++ H) hx hy hb (by simp; omega) (by rw [rM hj]; exact h)
end
set_option maxHeartbeats 2000000 in
theorem jn {ls : List Nat} {g c s : Nat} {w : World} (hb : Blk w g 94 (limbsL ls)) (hl : Lim ls) (hs : s ≤ 31) (hlen : ls.length ≤ 17592186044417) :
  CallsR Try.prog 106 #[.slice (some ⟨g, 0, none⟩) ls.length c, .int .i64 (s : Int)] w fun _ w' => Chg g w w' ∧ Blk w' g 94 (limbsL (shrL s ls)) := by
 have hsl := j3 s ls
 refine aG (args := [_, _]) Try.func106 rfl rfl ?_
 repeat' (first|refine ai rfl ?_|refine aa ?_|refine aj ?_|refine ah rfl ?_|refine ae ?_|refine aY rfl ?_|refine aB ?_)
 refine aW (ι := Nat) [4, 5, 8, 9, 10, 11, 12, 13, 14, 15, 16, 17, 18, 19, 20, 21, 22, 23, 24, 25, 26, 27, 28, 29, 30, 31, 32, 33, 34, 35, 36, 37] (fun i => [(8, .int .i64 (i : Int))])
  (fun i w' => i ≤ ls.length ∧ Chg g w w' ∧ Blk w' g 94 (limbsL (tk (shrL s ls) ls i))) (fun i => ls.length - i)
  0 ⟨rfl, trivial⟩ ⟨by simp, Chg.refl _ _, by rw [rO]; exact hb⟩ ?_
 rintro i ξ w3 ⟨hi, hC, hbk⟩
 have htl := sR hsl hi
 have hx := hl.getD i
 have hy := hl.getD (i + 1)
 have hset : ∀ {v : Nat} (hil : i < ls.length), v = (shrL s ls).getD i 0 → (tk (shrL s ls) ls i).set i v = tk (shrL s ls) ls (i + 1) := fun hil hv => by rw [hv]; exact sS hsl hil
 have hget := kL s ls i
 repeat' (first|refine aD rfl rfl ⟨_, _, rfl⟩ (by omega) ?_|refine bE rfl hbk.sl (by omega) ?_|((rw [rN hsl (by omega) (by omega)]))|refine gf rfl (by assumption) ?_|refine jw rfl rfl (by assumption) ?_|refine sQ rfl rfl (by assumption) (by assumption) ?_|refine fm (m := i) (m' := 1) rfl rfl (by omega) ?_|(refine fH (j := s) rfl rfl (.inr (by simp only [IntKind.bits]; omega)) ?_)|refine dm rfl ?_|refine dk rfl rfl hbk (by omega) (fun w4 hc4 hb4 => ⟨fun _ _ => trivial, ?_⟩)|refine ai rfl ?_|refine aa ?_|refine aj ?_|refine ah rfl ?_|refine ae ?_|refine aY rfl ?_|refine aM rfl (fun hc => ?_) (fun hc => ?_)|refine aB ?_|refine aS ?_|refine aL ?_|refine aT ?_|refine aJ ?_|refine aF ?_)
 ·rw [hset (by omega) (by rw [hget (by omega), Nat.shiftRight_eq_div_pow])] at hb4
  exact ⟨⟨i + 1, ⟨by omega, hC.trans hc4, hb4⟩, by omega, rfl, trivial⟩, (by (repeat (first|exact aH _ _ _|refine ax rfl ?_|refine av rfl ?_|refine ak rfl ?_|refine ao rfl ?_)))⟩
 ·rw [hset (by omega) (by rw [hget (by omega), Nat.shiftRight_eq_div_pow, show ls.getD (i + 1) 0 = 0 by rw [List.getD_eq_getElem?_getD, List.getElem?_eq_none (by omega)]; rfl, Nat.mul_zero, Nat.add_zero])] at hb4
  exact ⟨⟨i + 1, ⟨by omega, hC.trans hc4, hb4⟩, by omega, rfl, trivial⟩, (by (repeat (first|exact aH _ _ _|refine ax rfl ?_|refine av rfl ?_|refine ak rfl ?_|refine ao rfl ?_)))⟩
 ·obtain rfl : i = ls.length := by omega
  rw [sT hsl] at hbk
  exact ns rfl ⟨hC, hbk⟩
end Go.Proofs.Ytiejljicpinheaa
namespace Go.Proofs.Ytiejljicpinheaa
open Go.W Go.LM
theorem mQ {w : World} {lo n cap : Nat} {a : Option Addr} {xs : List Nat} {j u : Nat} {T0 s0 : Nat} (h : Own w lo T0 s0 a n cap ((limbsL xs).set j (.int .u32 (u : Int)))) : Own w lo T0 s0 a n cap (limbsL (xs.set j u)) := by
 unfold limbsL at *
 rw [List.map_set]; exact h
set_option maxHeartbeats 2000000 in
theorem iv {ls : List Nat} {g cap lo b : Nat} {w : World} (ho : Own w lo 94 1 (some ⟨g, 0, none⟩) ls.length cap (limbsL ls)) (hl : Lim ls) (hb0 : 0 < b) (hb : b < 4294967296) (hlen : ls.length ≤ 17592186044416) :
  CallsR Try.prog 102 #[.slice (some ⟨g, 0, none⟩) ls.length cap, .int .u32 (b : Int)] w fun v w' => ∃ L, v = .int .u32 ((natOf ls % b : Nat) : Int) ∧ Chg g w w' ∧ Own w' lo 94 1 (some ⟨g, 0, none⟩) ls.length cap (limbsL L) ∧ Lim L ∧ L.length = ls.length ∧ natOf L = natOf ls / b := by
 refine aG (args := [_, _]) Try.func102 rfl rfl ?_
 repeat' (first|refine ai rfl ?_|refine aa ?_|refine aj ?_|refine ah rfl ?_|refine ae ?_|refine aY rfl ?_|refine cM rfl rfl (by omega) (by omega) ?_|refine aB ?_)
 refine aW (ι := Nat × Nat × List Nat) [5, 6, 10, 11, 12, 13, 14, 15, 16, 17, 18, 19, 20, 21, 22, 23, 24, 25, 26, 27, 28, 29, 30, 31, 32, 33] (fun s => [(6, .int .i64 ((s.1 : Int) - 1)), (5, .int .u64 (s.2.1 : Int))])
  (fun s w' => s.1 ≤ ls.length ∧ Chg g w w' ∧ Own w' lo 94 1 (some ⟨g, 0, none⟩) ls.length cap (limbsL s.2.2) ∧ Lim s.2.2 ∧ s.2.2.length = ls.length ∧ s.2.1 < b ∧ b * natOf (s.2.2.drop s.1) + s.2.1 = natOf (ls.drop s.1) ∧ ∀ j, j < s.1 → s.2.2.getD j 0 = ls.getD j 0) (fun s => s.1)
  (ls.length, 0, ls) ⟨rfl, rfl, trivial⟩ ⟨by simp, Chg.refl _ _, ho, hl, rfl, hb0, by simp [natOf], fun _ _ => rfl⟩ ?_
 rintro ⟨k, r, L⟩ ξ w1 ⟨hk, hC, hO, hL, hLl, hr, hN, hz⟩
 simp only at hk hO hL hLl hr hN hz
 show CW _ _ _ _ (over [(6, .int .i64 ((k : Int) - 1)), (5, .int .u64 (r : Int))] _) w1
 have hr2 : r < 4294967296 := by omega
 have hm := hL.getD (k - 1)
 have hq : (r * 4294967296 + L.getD (k - 1) 0) / b < 4294967296 := (Nat.div_lt_iff_lt_mul hb0).2 (by
  have : (r + 1) * 4294967296 ≤ b * 4294967296 := Nat.mul_le_mul_right _ hr
  rw [Nat.mul_comm 4294967296 b]; omega)
 repeat' (first|refine ai rfl ?_|refine aa ?_|refine aj ?_|refine ah rfl ?_|refine ae ?_|refine aM rfl (fun hc => ?_) (fun hc => ?_)|refine aB ?_|refine aS ?_|refine aL ?_|refine aT ?_|refine aF ?_)
 ·obtain ⟨i, rfl⟩ : ∃ i, k = i + 1 := ⟨k - 1, by omega⟩
  rw [show ((i + 1 : Nat) : Int) - 1 = (i : Int) by omega] at *
  rw [Nat.add_sub_cancel] at hm hq
  repeat' (first|refine jw rfl rfl (by assumption) ?_|refine aD (j := i) rfl rfl ⟨_, _, rfl⟩ (by omega) ?_|refine bE rfl hO.sl (by omega) ?_|refine gf rfl (by assumption) ?_|refine nQ rfl rfl (by assumption) (by assumption) ?_|refine qz rfl rfl hb0 (by omega) ?_|refine qA rfl rfl hb0 ?_|refine dm rfl ?_|(refine np rfl rfl rfl hO (by simp; omega) (fun g' w4 hg' hlo hc4 hb4 => ⟨fun _ _ => trivial, ?_⟩))|refine ai rfl ?_|refine aa ?_|refine aj ?_|refine ah rfl ?_|refine ae ?_|refine cM rfl rfl (by omega) (by omega) ?_|refine aJ ?_)
  cases hg'
  rw [Nat.mod_eq_of_lt hq] at hb4
  have hr4 : (r * 4294967296 + L.getD i 0) % b < b := Nat.mod_lt _ hb0
  refine ⟨⟨(i, (r * 4294967296 + L.getD i 0) % b, L.set i ((r * 4294967296 + L.getD i 0) / b)), ⟨by simp only; omega, hC.trans hc4, mQ hb4, hL.set hq, by simp [hLl], hr4, ?_, ?_⟩, by simp only; omega, ?_, rfl, trivial⟩, (by (repeat (first|exact aH _ _ _|refine ax rfl ?_|refine av rfl ?_|refine ak rfl ?_|refine ao rfl ?_)))⟩
  ·simp only
   rw [fW (l := L.set i _) (by simp; omega), jb (by omega), mP (by omega), fW (l := ls) (by omega), ← hz i (by omega)]
   exact o3 (_q := 0) hN hb0
  ·intro j hj
   simp only at hj ⊢
   rw [bZ (by omega)]; exact hz j (by omega)
  ·rfl
 ·obtain rfl : k = 0 := by omega
  simp only [List.drop_zero] at hN
  repeat' (first|refine dm rfl ?_|refine ai rfl ?_|refine aa ?_|refine ae ?_|refine aK ?_)
  refine bB rfl (rt rfl) ⟨L, ?_, hC, hO, hL, hLl, ?_⟩
  ·show Value.int .u32 _ = _
   rw [Nat.mod_eq_of_lt (by omega), ← hN, Nat.mul_add_mod, Nat.mod_eq_of_lt hr]
  ·rw [← hN, Nat.mul_add_div hb0, Nat.div_eq_of_lt hr, Nat.add_zero]
set_option maxHeartbeats 4000000 in
theorem jo {L S H V : List Nat} {g c n vc : Nat} {va : Option Addr} {w : World} (hb : Blk w g 94 (limbsL (L ++ S ++ H))) (hSl : S.length = n + 1) (lS : Lim S) (hV : Limbs w va vc V) (hVl : V.length = n) (hn : 2 ≤ n)
  (top : 2147483648 ≤ V.getD (n - 1) 0) (hlt : natOf S < natOf V * 4294967296) (hne : ∀ ad, va = some ad → ad.block ≠ g) :
  CallsR Try.prog 105 #[.slice (some ⟨g, L.length, none⟩) (n + 1) c, .slice va n vc] w fun v w' => ∃ S', v = .int .u32 ((natOf S / natOf V : Nat) : Int) ∧ Chg g w w' ∧ Blk w' g 94 (limbsL (L ++ S' ++ H)) ∧ S'.length = n + 1 ∧ Lim S' ∧ natOf S' = natOf S % natOf V := by
 have hK := sU hSl hVl hn lS hV.lim top hlt
 have hnl := hV.len
 rw [hVl] at hnl
 have hv0 : 0 < natOf V := hK.v0
 have u0 := lS.getD n
 have u1 := lS.getD (n - 1)
 have u2 := lS.getD (n - 2)
 have v1 := hV.lim.getD (n - 1)
 have v2 := hV.lim.getD (n - 2)
 have hf := hK.first
 have hq := hK.qlt
 have dn := fun {gs r} => hK.down (g := gs) (r := r)
 have de := fun {gs r} => hK.done (g := gs) (r := r)
 generalize hx1 : V.getD (n - 1) 0 = x1 at *
 generalize hx2 : V.getD (n - 2) 0 = x2 at *
 generalize hy0 : S.getD n 0 = y0 at *
 generalize hy1 : S.getD (n - 1) 0 = y1 at *
 generalize hy2 : S.getD (n - 2) 0 = y2 at *
 clear hK
 generalize hqd : natOf S / natOf V = q at *
 have hx0 : 0 < x1 := by omega
 have hVp : W.plain va := hV.sl.plain (by simp; omega)
 refine aG (args := [_, _]) Try.func105 rfl rfl ?_
 repeat' (first|refine ai rfl ?_|refine aa ?_|refine aj ?_|refine ah rfl ?_|refine ae ?_|refine aY rfl ?_)
 refine bn (late := []) (plan := [(0, none), (1, none), (2, none), (3, none), (4, none), (5, none), (6, none), (7, none), (8, none), (9, none), (10, none), (11, none), (12, none), (13, none)]) (fun w' => Chg g w w' ∧ Blk w' g 94 (limbsL (L ++ S ++ H))) bC (by kernel_rfl) ⟨(Chg.refl g w).drew, hb.drew⟩ ?_
 repeat' (first|refine ka (m := n) (m' := 1) rfl rfl (by omega) (by omega) ?_|refine aD rfl rfl ⟨_, _, rfl⟩ (by omega) ?_|refine fC rfl (fun _ h => h.2) (by omega) ?_|(rw [hy0])|(rw [hy1])|refine gf rfl (by assumption) ?_|refine jw rfl rfl (by assumption) ?_|refine nQ rfl rfl (by assumption) (by assumption) ?_|refine ai rfl ?_|refine aa ?_|refine aj ?_|refine ae ?_)
 refine bn (late := []) (plan := [(0, none), (1, none), (2, none), (3, none), (4, none), (5, none), (6, none), (7, none), (8, none), (9, none), (10, none), (11, none), (12, none), (13, none), (14, none), (15, none), (16, none), (17, none)]) (fun w' => Chg g w w') bC (by kernel_rfl) ((Chg.refl g w).drew.drew) ?_
 repeat' (first|refine ka (m := n) (m' := 1) rfl rfl (by omega) (by omega) ?_|refine aD rfl rfl hVp (by omega) ?_|refine bE rfl (fun _ h => (hV.chg h hne).sl) (by omega) ?_|(rw [hx1])|refine gf rfl (by assumption) ?_|refine qz rfl rfl hx0 (by omega) ?_|refine qA rfl rfl hx0 ?_|refine ai rfl ?_|refine aa ?_|refine aj ?_|refine ae ?_)
 refine cD (ι := Nat × Nat) [7, 8, 46, 47, 48, 49, 50, 51, 52, 53, 54, 55, 56, 57, 58, 59, 60, 61, 62, 63, 64, 65, 66, 67, 68, 69, 70, 71, 72, 73, 74, 75, 76, 77, 78, 79, 80, 81] (fun s => [(7, .int .u64 (s.1 : Int)), (8, .int .u64 (s.2 : Int))])
  (fun s w' => Chg g w w' ∧ Blk w' g 94 (limbsL (L ++ S ++ H)) ∧ q ≤ s.1 ∧ s.1 ≤ q + 1) ?_ ?_
 ·have hmod := Nat.mod_lt (y0 * 4294967296 + y1) hx0
  refine aB ?_
  refine aW (ι := Nat × Nat) [7, 8, 46, 47, 48, 49, 50, 51, 52, 53, 54, 55, 56, 57, 58, 59, 60, 61, 62, 63, 64, 65, 66, 67, 68, 69, 70, 71, 72, 73, 74, 75, 76, 77, 78, 79, 80, 81] (fun s => [(7, .int .u64 (s.1 : Int)), (8, .int .u64 (s.2 : Int))])
   (fun s w' => Chg g w w' ∧ Blk w' g 94 (limbsL (L ++ S ++ H)) ∧ q ≤ s.1 ∧ s.1 ≤ 4294967297 ∧ s.2 < 4294967296 ∧ s.1 * x1 + s.2 = y0 * 4294967296 + y1) (fun s => s.1)
   ((y0 * 4294967296 + y1) / x1, (y0 * 4294967296 + y1) % x1) ⟨rfl, rfl, trivial⟩ ⟨(Chg.refl g w).drew.drew, hb, hf.1, hf.2, by simp only; omega, by simp only; rw [Nat.mul_comm]; exact Nat.div_add_mod _ _⟩ ?_
  rintro ⟨gs, r⟩ ξ w1 ⟨hC, hbk, h1, h2, h3, h4⟩
  simp only at h1 h2 h3 h4
  show CW _ _ _ _ (over [(7, .int .u64 (gs : Int)), (8, .int .u64 (r : Int))] _) w1
  have hmul : gs < 4294967296 → gs * x2 < 18446744073709551616 := fun h => by
   have : gs * x2 ≤ 4294967295 * 4294967295 := Nat.mul_le_mul (by omega) (by omega)
   omega
  have hC1 := hC.drew
  repeat refine aj ?_
  refine bn (late := []) (plan := [(0, none), (1, none), (2, none), (3, none), (4, none), (5, none), (6, none), (7, none), (8, none), (9, none), (10, none), (11, none), (12, none), (13, none), (14, none), (15, none), (16, none), (17, none), (18, none), (19, none), (20, none), (21, none), (22, none)]) (fun w' => Chg g w w' ∧ Blk w' g 94 (limbsL (L ++ S ++ H))) bC (by kernel_rfl) ⟨hC.drew, hbk.drew⟩ ?_
  have hVc := hV.chg hC1 hne
  have go : (4294967296 ≤ gs ∨ r * 4294967296 + y2 < gs * x2) → q + 1 ≤ gs := fun h => dn h4 h1 h
  have stp : ∀ {r'}, (gs - 1) * x1 + r' = y0 * 4294967296 + y1 → 4294967296 ≤ r' → gs - 1 ≤ q + 1 := fun h h' => de h (by omega) (.inr h')
  have h5 : 0 < gs → (gs - 1) * x1 + (r + x1) = y0 * 4294967296 + y1 := fun h => by
   obtain ⟨m, rfl⟩ : ∃ m, gs = m + 1 := ⟨gs - 1, by omega⟩
   rw [← h4, Nat.add_sub_cancel, Nat.succ_mul]; omega
  repeat' (first|refine dQ rfl rfl ?_|refine ka (m := n) (m' := 2) rfl rfl (by omega) (by omega) ?_|refine ka (m := n) (m' := 1) rfl rfl (by omega) (by omega) ?_|refine aD rfl rfl hVp (by omega) ?_|refine aD rfl rfl ⟨_, _, rfl⟩ (by omega) ?_|refine fC rfl (fun _ h => h.2) (by omega) ?_|refine bE rfl (fun _ h => (hV.chg h.1 hne).sl) (by omega) ?_|refine bE rfl hVc.sl (by omega) ?_|(rw [hx1])|(rw [hx2])|(rw [hy2])|refine gf rfl (by assumption) ?_|refine jO rfl rfl (hmul (by omega)) ?_|refine jw rfl rfl (by assumption) ?_|refine nQ rfl rfl (by assumption) (by assumption) ?_|(refine qB (m' := 1) rfl rfl (Nat.le_trans (Nat.le_add_left 1 _) (by (first|exact go (.inr (Int.ofNat_lt.1 (by assumption)))|exact go (.inl (by omega))))) (by omega) ?_)|refine fk rfl rfl (by omega) ?_|refine ai rfl ?_|refine aa ?_|refine aj ?_|refine ah rfl ?_|refine ae ?_|refine bG rfl rfl ?_|refine bP rfl rfl ?_|refine gF rfl rfl (fun hc => ?_) (fun hc => ?_)|refine aC rfl ?_|refine aM rfl (fun hc => ?_) (fun hc => ?_)|refine aB ?_|refine aS ?_|refine aL ?_|refine aT ?_|refine fG rfl ?_|refine aJ ?_|refine aF ?_)
  all_goals first
   | (refine ⟨⟨(gs, r), ⟨hC1, hbk, h1, de h4 (by omega) (.inl (by first|omega|exact Nat.le_of_not_lt (fun h => absurd (Int.ofNat_lt.2 h) (by assumption))))⟩, rfl, rfl, trivial⟩, (by (repeat (first|exact aI _ _|refine ax rfl ?_|refine av rfl ?_|refine ak rfl ?_|refine ao rfl ?_)))⟩; done)
   | (have hg : q + 1 ≤ gs := by (first|exact go (.inr (Int.ofNat_lt.1 (by assumption)))|exact go (.inl (by omega)))
      refine ⟨⟨(gs - 1, r + x1), ⟨hC1, hbk, by simp only; omega, stp (h5 (by omega)) (by omega)⟩, rfl, rfl, trivial⟩, (by (repeat (first|exact aI _ _|refine ax rfl ?_|refine av rfl ?_|refine ak rfl ?_|refine ao rfl ?_)))⟩; done)
   | (have hg : q + 1 ≤ gs := by (first|exact go (.inr (Int.ofNat_lt.1 (by assumption)))|exact go (.inl (by omega)))
      refine ⟨⟨(gs - 1, r + x1), ⟨hC1, hbk, by simp only; omega, by simp only; omega, by simp only; omega, h5 (by omega)⟩, by simp only; omega, rfl, rfl, trivial⟩, (by (repeat (first|exact aH _ _ _|refine ax rfl ?_|refine av rfl ?_|refine ak rfl ?_|refine ao rfl ?_)))⟩; done)
   | (have hg : q + 1 ≤ gs := by (first|exact go (.inr (Int.ofNat_lt.1 (by assumption)))|exact go (.inl (by omega)))
      refine ⟨⟨(gs - 1, r + x1), ⟨hC1, hbk, by simp only; omega, stp (h5 (by omega)) (by omega)⟩, rfl, rfl, trivial⟩, (by (repeat (first|exact aI _ _|refine ax rfl ?_|refine av rfl ?_|refine ak rfl ?_|refine ao rfl ?_)))⟩; done)
 clear dn de hf
 rintro ⟨gs, r⟩ ξ w1 ⟨hC, hbk, h1, h2⟩
 simp only at hC hbk h1 h2
 show CW _ _ _ _ (over [(7, .int .u64 (gs : Int)), (8, .int .u64 (r : Int))] _) w1
 clear hb
 have hgB : gs ≤ 4294967296 := by omega
 repeat' (first|refine ai rfl ?_|refine aa ?_|refine aj ?_|refine ah rfl ?_|refine ae ?_|refine aB ?_)
 refine aW (ι := Nat × Nat × Nat × Nat × List Nat) [9, 10, 11, 12, 83, 84, 85, 86, 87, 88, 89, 90, 91, 92, 93, 94, 95, 96, 97, 98, 99, 100, 101, 102, 103, 104, 105, 106, 107, 108, 109, 110, 111, 112, 113, 114, 115] (fun s => [(83, .int .i64 (s.1 : Int)), (9, .int .u64 (s.2.1 : Int)), (10, .int .u64 (s.2.2.1 : Int))])
  (fun s w' => s.1 ≤ n ∧ Chg g w w' ∧ Blk w' g 94 (limbsL (L ++ s.2.2.2.2 ++ H)) ∧ s.2.2.2.2.length = n + 1 ∧ Lim s.2.2.2.2 ∧ s.2.1 < 4294967296 ∧ s.2.2.1 ≤ 1 ∧ natOf s.2.2.2.2 + s.2.2.2.1 = natOf S + s.2.2.1 * 4294967296 ^ s.1 ∧ s.2.2.2.1 + s.2.1 * 4294967296 ^ s.1 = gs * natOf (V.take s.1)) (fun s => n - s.1)
  (0, 0, 0, 0, S) ⟨rfl, rfl, rfl, trivial⟩ ⟨by simp, hC, hbk, hSl, lS, by simp, by simp, by simp, by simp [natOf]⟩ ?_
 clear hC hbk
 rintro ⟨i, cy, br, M, U⟩ ξ2 w2 ⟨hi, hC, hbk, hUl, hUL, hcy, hbr, hN, hM⟩
 simp only at hi hC hbk hUl hUL hcy hbr hN hM
 show CW _ _ _ _ (over [(83, .int .i64 (i : Int)), (9, .int .u64 (cy : Int)), (10, .int .u64 (br : Int))] _) w2
 have hvi := hV.lim.getD i
 have hui := hUL.getD i
 have hun := hUL.getD n
 have hVc := hV.chg hC hne
 have hgv : gs * V.getD i 0 ≤ 4294967296 * 4294967295 := Nat.mul_le_mul hgB (by omega)
 repeat' (first|refine aD rfl rfl hVp (by omega) ?_|refine bE rfl hVc.sl (by omega) ?_|(refine gf rfl (by first|assumption | omega) ?_)|refine jO rfl rfl (by omega) ?_|refine fk rfl rfl (by omega) ?_|refine aD rfl rfl ⟨_, _, rfl⟩ (by omega) ?_|refine fC rfl hbk (by omega) ?_|refine dm rfl ?_|refine nN rfl rfl (by omega) ?_|refine gZ rfl rfl hbk (by omega) (fun w4 hc4 hb4 => ⟨fun _ _ => trivial, ?_⟩)|refine dQ rfl rfl ?_|refine fH (j := 63) rfl rfl (.inl rfl) ?_|refine ai rfl ?_|refine aa ?_|refine aj ?_|refine ah rfl ?_|refine ae ?_|refine bi rfl rfl (by omega) (by omega) ?_|refine aM rfl (fun hc => ?_) (fun hc => ?_)|refine aB ?_|refine aS ?_|refine aL ?_|refine aT ?_|refine aJ ?_|refine aK ?_|refine aX ?_|refine aF ?_)
 ·rw [Nat.shiftRight_eq_div_pow]
  have hst := kJ (x := (cy + gs * V.getD i 0) % 4294967296) (show i < U.length by omega) hN
  have hdm := Nat.mod_add_div (cy + gs * V.getD i 0) 4294967296
  have hM2 : M + (cy + gs * V.getD i 0) % 4294967296 * 4294967296 ^ i + (cy + gs * V.getD i 0) / 4294967296 * 4294967296 ^ (i + 1) = gs * natOf (V.take (i + 1)) := by
   rw [bK, Nat.mul_add, ← hM, dH]
   generalize (cy + gs * V.getD i 0) % 4294967296 = lo at *
   generalize (cy + gs * V.getD i 0) / 4294967296 = hi' at *
   generalize 4294967296 ^ i = E at *
   have e : (lo + 4294967296 * hi') * E = (cy + gs * V.getD i 0) * E := by rw [hdm]
   grind
  have hlo : (cy + gs * V.getD i 0) % 4294967296 < 4294967296 := Nat.mod_lt _ (by decide)
  have hcy2 : (cy + gs * V.getD i 0) / 4294967296 < 4294967296 := by omega
  generalize (cy + gs * V.getD i 0) % 4294967296 = lo at *
  rcases Nat.lt_or_ge (U.getD i 0) (lo + br) with hlt2 | hge2
  ·have e1 : (18446744073709551616 + (18446744073709551616 + U.getD i 0 - lo) % 18446744073709551616 - br) % 18446744073709551616 % 4294967296 = 4294967296 + U.getD i 0 - (lo + br) := by omega
   have e2 : (18446744073709551616 + (18446744073709551616 + U.getD i 0 - lo) % 18446744073709551616 - br) % 18446744073709551616 / 2 ^ 63 = 1 := by omega
   rw [e1] at hb4
   rw [e2]
   exact ⟨⟨(i + 1, _, 1, M + lo * 4294967296 ^ i, U.set i (4294967296 + U.getD i 0 - (lo + br))), ⟨by simp only; omega, hC.trans hc4, hb4, by simp [hUl], hUL.set (by omega), hcy2, by simp, hst.2 (by omega), hM2⟩, by simp only; omega, rfl, rfl, rfl, trivial⟩, (by (repeat (first|exact aH _ _ _|refine ax rfl ?_|refine av rfl ?_|refine ak rfl ?_|refine ao rfl ?_)))⟩
  ·have e1 : (18446744073709551616 + (18446744073709551616 + U.getD i 0 - lo) % 18446744073709551616 - br) % 18446744073709551616 % 4294967296 = U.getD i 0 - (lo + br) := by omega
   have e2 : (18446744073709551616 + (18446744073709551616 + U.getD i 0 - lo) % 18446744073709551616 - br) % 18446744073709551616 / 2 ^ 63 = 0 := by omega
   rw [e1] at hb4
   rw [e2]
   exact ⟨⟨(i + 1, _, 0, M + lo * 4294967296 ^ i, U.set i (U.getD i 0 - (lo + br))), ⟨by simp only; omega, hC.trans hc4, hb4, by simp [hUl], hUL.set (by omega), hcy2, by simp, by simp only; rw [hst.1 (by omega), Nat.zero_mul, Nat.add_zero], hM2⟩, by simp only; omega, rfl, rfl, rfl, trivial⟩, (by (repeat (first|exact aH _ _ _|refine ax rfl ?_|refine av rfl ?_|refine ak rfl ?_|refine ao rfl ?_)))⟩
 all_goals (
  obtain rfl : i = n := by omega
  rw [Nat.shiftRight_eq_div_pow] at *
  rw [bN (by omega)] at hM
  have hst := kJ (x := cy) (show i < U.length by omega) hN
  rw [hM] at hst)
 ·have hle : cy + br ≤ U.getD i 0 := by omega
  have e1 : (18446744073709551616 + (18446744073709551616 + U.getD i 0 - cy) % 18446744073709551616 - br) % 18446744073709551616 % 4294967296 = U.getD i 0 - (cy + br) := by omega
  rw [e1] at hb4
  have hfin := hst.1 hle
  have hg1 : gs ≤ q := by rw [← hqd]; exact (Nat.le_div_iff_mul_le hv0).2 (by omega)
  have hgq : gs = q := by omega
  subst hgq
  refine bB rfl (rt rfl) ⟨_, ?_, hC.trans hc4, hb4, by simp [hUl], hUL.set (by omega), ?_⟩
  ·show Value.int .u32 _ = _
   rw [Nat.mod_eq_of_lt hq]
  ·have := Nat.div_add_mod (natOf S) (natOf V)
   rw [hqd, Nat.mul_comm] at this
   omega
 ·have hle : U.getD i 0 < cy + br := by omega
  have e1 : (18446744073709551616 + (18446744073709551616 + U.getD i 0 - cy) % 18446744073709551616 - br) % 18446744073709551616 % 4294967296 = 4294967296 + U.getD i 0 - (cy + br) := by omega
  rw [e1] at hb4
  have hfin := hst.2 (by omega)
  have hU1L : Lim (U.set i (4294967296 + U.getD i 0 - (cy + br))) := hUL.set (by omega)
  have hU1l : (U.set i (4294967296 + U.getD i 0 - (cy + br))).length = i + 1 := by simp [hUl]
  generalize U.set i (4294967296 + U.getD i 0 - (cy + br)) = U1 at *
  have hC4 := hC.trans hc4
  have hU1lt := bL hU1L
  rw [hU1l] at hU1lt
  rw [Nat.one_mul] at hfin
  have hgq : gs = q + 1 := by
   rcases Nat.lt_or_ge q gs with h | h
   ·omega
   ·exfalso
    have hgq : gs * natOf V ≤ natOf S := (Nat.le_div_iff_mul_le hv0).1 (by rw [hqd]; exact h)
    omega
  refine aW (ι := Nat × Nat × List Nat) [9, 14, 136, 137, 138, 139, 140, 141, 142, 143, 144, 145, 146, 147, 148, 149, 150, 151, 152, 153, 154, 155, 156, 157, 158, 159] (fun s => [(136, .int .i64 (s.1 : Int)), (9, .int .u64 (s.2.1 : Int))])
   (fun s w' => s.1 ≤ i ∧ Chg g w w' ∧ Blk w' g 94 (limbsL (L ++ s.2.2 ++ H)) ∧ s.2.2.length = i + 1 ∧ Lim s.2.2 ∧ s.2.1 ≤ 1 ∧ natOf s.2.2 + s.2.1 * 4294967296 ^ s.1 = natOf U1 + natOf (V.take s.1)) (fun s => i - s.1)
   (0, 0, U1) ⟨rfl, rfl, trivial⟩ ⟨by simp, hC4, hb4, hU1l, hU1L, by simp, by simp [natOf]⟩ ?_
  clear hC hbk hc4 hb4 hC4 hN hM hst hcy hbr hle e1 hUl hUL hui hun hVc hvi hgv
  rintro ⟨j, cy, W⟩ ξ3 w5 ⟨hj, hC, hbk, hWl, hWL, hcy, hN⟩
  simp only at hj hC hbk hWl hWL hcy hN
  show CW _ _ _ _ (over [(136, .int .i64 (j : Int)), (9, .int .u64 (cy : Int))] _) w5
  have hvj := hV.lim.getD j
  have hwj := hWL.getD j
  have hwn := hWL.getD i
  repeat' (first|refine ai rfl ?_|refine aa ?_|refine aj ?_|refine ah rfl ?_|refine ae ?_|refine aM rfl (fun hc => ?_) (fun hc => ?_)|refine aB ?_|refine aS ?_|refine aL ?_|refine aT ?_|refine aF ?_)
  ·refine bn (late := []) (plan := [(0, none), (1, none), (2, none), (3, none), (4, none), (5, none), (6, none), (7, none), (8, none), (9, none), (10, none), (11, none), (12, none), (13, none)]) (fun w' => Chg g w w' ∧ Blk w' g 94 (limbsL (L ++ W ++ H))) bC (by kernel_rfl) ⟨hC.drew, hbk.drew⟩ ?_
   repeat' (first|refine aD rfl rfl hVp (by omega) ?_|refine bE rfl (fun _ h => (hV.chg h.1 hne).sl) (by omega) ?_|(refine gf rfl (by first|assumption | omega) ?_)|refine aD rfl rfl ⟨_, _, rfl⟩ (by omega) ?_|refine fC rfl (fun _ h => h.2) (by omega) ?_|refine fk rfl rfl (by omega) ?_|refine dm rfl ?_|refine gZ rfl rfl hbk (by omega) (fun w6 hc6 hb6 => ⟨fun _ _ => trivial, ?_⟩)|refine dQ rfl rfl ?_|refine ai rfl ?_|refine aa ?_|refine aj ?_|refine ah rfl ?_|refine ae ?_|refine bi rfl rfl (by omega) (by omega) ?_|refine aJ ?_)
   have hst := kK (x := V.getD j 0) (show j < W.length by omega) hN
   refine ⟨⟨(j + 1, (cy + (W.getD j 0 + V.getD j 0)) / 4294967296, W.set j ((cy + (W.getD j 0 + V.getD j 0)) % 4294967296)), ⟨by simp only; omega, (hC.drew).trans hc6, hb6, by simp [hWl], hWL.set (Nat.mod_lt _ (by decide)), by simp only; omega, ?_⟩, by simp only; omega, rfl, rfl, trivial⟩, (by (repeat (first|exact aH _ _ _|refine ax rfl ?_|refine av rfl ?_|refine ak rfl ?_|refine ao rfl ?_)))⟩
   simp only
   rw [hst, bK V]
   omega
  ·obtain rfl : j = i := by omega
   rw [bN (by omega)] at hN
   repeat' (first|refine aD rfl rfl ⟨_, _, rfl⟩ (by omega) ?_|refine fC rfl hbk (by omega) ?_|refine dm rfl ?_|refine qC rfl rfl ?_|refine gZ rfl rfl hbk (by omega) (fun w6 hc6 hb6 => ⟨fun _ _ => trivial, ?_⟩)|refine qB (m' := 1) rfl rfl (by omega) (by omega) ?_|refine ai rfl ?_|refine aa ?_|refine aj ?_|refine ah rfl ?_|refine ae ?_|refine aK ?_)
   rw [Nat.mod_eq_of_lt (show cy < 4294967296 by omega)] at hb6
   have hst := kK (x := 0) (show j < W.length by omega) hN
   rw [Nat.add_zero, Nat.zero_mul, Nat.add_zero, Nat.add_comm cy] at hst
   have hWL2 : Lim (W.set j ((W.getD j 0 + cy) % 4294967296)) := hWL.set (Nat.mod_lt _ (by decide))
   refine bB rfl (rt rfl) ⟨_, ?_, hC.trans hc6, hb6, by simp [hWl], hWL2, ?_⟩
   ·show Value.int .u32 _ = _
    rw [hgq, Nat.add_sub_cancel, Nat.mod_eq_of_lt hq]
   ·have h1 := bL hWL2
    rw [List.length_set, hWl] at h1
    have h3 := Nat.div_add_mod (natOf S) (natOf V)
    rw [hqd] at h3
    have h4 := Nat.mod_lt (natOf S) hv0
    have h5 := bL hV.lim
    rw [hVl] at h5
    have h6 : 4294967296 ^ j ≤ 4294967296 ^ (j + 1) := Nat.pow_le_pow_right (by decide) (by omega)
    rw [hgq, Nat.succ_mul, Nat.mul_comm q] at hfin
    refine nR (d := (W.getD j 0 + cy) / 4294967296) h1 (by omega) ?_
    rw [hst]
    omega
end Go.Proofs.Ytiejljicpinheaa
namespace Go.W
def waitsT (ops : Array Oper) (j i : Nat) : Bool := waits ops j i || (List.range ops.size).any (fun k => waits ops j k && waits ops k i)
def Down (ops : Array Oper) (listed : Array Bool) : Prop := ∀ k o, ops[k]? = some o → listed.getD k false = true → ∀ e ∈ o.after, Region.binds .any e = true → listed.getD e.on false = true
theorem Down.start (ops : Array Oper) (n : Nat) : Down ops (Array.replicate n false) := fun k o _ h => by
 exfalso
 by_cases hk : k < n
 ·simp [hk] at h
 ·simp [hk] at h
theorem Down.set {ops : Array Oper} {listed : Array Bool} {j : Nat} (h : Down ops listed) (hj : j ∈ Region.ready .any ops listed) : Down ops (listed.setIfInBounds j true) := by
 have keep : ∀ m, listed.getD m false = true → (listed.setIfInBounds j true).getD m false = true := fun m hm => by
  by_cases hmj : j = m
  ·subst hmj
   by_cases hs : j < listed.size
   ·simp [hs]
   ·simp [hs] at hm
  ·simpa [Array.getElem?_setIfInBounds_ne hmj] using hm
 intro k o ho hk e he hb
 obtain ⟨_, oj, hoj, hall⟩ := mem_ready.1 hj
 by_cases hkj : j = k
 ·subst hkj
  rw [ho] at hoj
  cases hoj
  exact keep _ (hall e he hb)
 ·refine keep _ (h k o ho ?_ e he hb)
  simpa [Array.getElem?_setIfInBounds_ne hkj] using hk
theorem eh {ops : Array Oper} {listed : Array Bool} {i j : Nat} (hd : Down ops listed) (hi : i ∈ Region.ready .any ops listed) (hj : j ∈ Region.ready .any ops listed) : waitsT ops j i = false := by
 unfold waitsT
 rw [cd hi hj, Bool.false_or]
 cases hw : (List.range ops.size).any (fun k => waits ops j k && waits ops k i) with
 | false => rfl
 | true =>
  exfalso
  obtain ⟨k, hk, h⟩ := List.any_eq_true.1 hw
  simp only [Bool.and_eq_true] at h
  obtain ⟨h1, h2⟩ := h
  obtain ⟨_, oj, hoj, hall⟩ := mem_ready.1 hj
  have h0 := (mem_ready.1 hi).1
  simp only [waits, hoj, Array.any_eq_true', Bool.and_eq_true, beq_iff_eq] at h1
  obtain ⟨e, he, hb, rfl⟩ := h1
  have hl := hall e he hb
  have hks : e.on < ops.size := List.mem_range.1 hk
  have hok : ops[e.on]? = some ops[e.on] := Array.getElem?_eq_getElem hks
  simp only [waits, hok, Array.any_eq_true', Bool.and_eq_true, beq_iff_eq] at h2
  obtain ⟨e2, he2, hb2, rfl⟩ := h2
  have hl2 := hd e.on _ hok hl e2 he2 hb2
  rcases Nat.lt_or_ge e2.on listed.size with h' | h'
  ·simp [h'] at h0 hl2; rw [h0] at hl2; cases hl2
  ·simp [Array.getElem?_eq_none h'] at hl2
section
variable {P : Program} {n : Nat} {Q : Exit → Env → World → Prop} {ρ : Env} {w : World}
end
end Go.W
namespace Go.Proofs.Ytiejljicpinheaa
open Go.W Go.LM Go.PM
set_option maxHeartbeats 1000000 in
theorem lG {p q : Nat} {v1 v2 : Value} {x y : Int} {w : World} (h1 : IntK p w v1 x) (h2 : IntK q w v2 y) (hpq : p + q ≤ 17592186044416) :
  CallsR Try.prog 39 #[v1, v2] w (RetZ w (x * y)) := by
 obtain ⟨n1, a1, c1, la, rfl, ha, rfl, hla⟩ := h1
 obtain ⟨n2, a2, c2, lb, rfl, hb, rfl, hlb⟩ := h2
 refine aG (args := [_, _]) Try.func39 rfl rfl ?_
 refine aj ?_
 refine ah rfl ?_
 refine bH rfl (fun g2 w2 hn2 => ⟨fun _ _ => trivial, ?_⟩)
 refine bH rfl (fun g3 w3 hn3 => ⟨fun _ _ => trivial, ?_⟩)
 refine aE (fun g4 w4 hn4 => ⟨fun _ _ => trivial, ?_⟩)
 have hb2 := (hn2.blk.ext hn3.ex).ext hn4.ex
 have hb3 := hn3.blk.ext hn4.ex
 have hb4 : Blk w4 g4 49 (intL false none 0 0) := hn4.blk
 have hE4 := (hn2.ex.trans hn3.ex).trans hn4.ex
 have l4 := hn4.lo
 have l4' := hn4.hi
 have s3 := (hn2.ex.trans hn3.ex).size
 repeat' (first|refine aU rfl hb2 rfl ?_|refine aU rfl hb3 rfl ?_|refine fm rfl rfl (by omega) ?_|refine eo rfl rfl (by omega) (by omega) (fun g w5 hn5 => ⟨fun _ _ => trivial, ?_⟩)|refine ai rfl ?_|refine aa ?_|refine aj ?_|refine ah rfl ?_|refine ae ?_|refine aY rfl ?_|refine aP rfl ?_)
 have l5 := hn5.lo
 have hb25 := hb2.ext hn5.ex
 have hb35 := hb3.ext hn5.ex
 have hb45 := hb4.ext hn5.ex
 have s45 := hE4.size
 repeat' (first|refine aU rfl hb25 rfl ?_|refine ai rfl ?_|refine aa ?_|refine ae ?_|refine aY rfl ?_|refine aB ?_)
 refine aW (ι := Nat × List Nat) [6, 7, 8, 9, 10, 22, 23, 24, 25, 26, 27, 28, 29, 30, 31, 32, 33, 34, 35, 36, 37, 38, 39, 40, 41, 42, 43, 44, 45, 46, 47, 48, 49, 50, 51, 52, 53, 54, 55, 56, 57, 58, 59, 60, 61, 62, 63, 64, 65, 66, 67, 68, 69] (fun s => [(22, .int .i64 (s.1 : Int))])
  (fun s w' => s.1 ≤ la.length ∧ Ex w4 w' ∧ Blk w' g 94 (limbsL s.2) ∧ s.2.length = la.length + lb.length ∧ Lim s.2 ∧ natOf s.2 = natOf (la.take s.1) * natOf lb ∧ ∀ j, s.1 + lb.length ≤ j → s.2.getD j 0 = 0) (fun s => la.length - s.1)
  (0, List.replicate (la.length + lb.length) 0) ⟨rfl, trivial⟩ ⟨by simp, hn5.ex, hn5.blk, by simp, Lim.zeros _, by simp [cL, natOf], fun j _ => by simp [List.getD_eq_getElem?_getD, List.getElem?_replicate]; split <;> rfl⟩ ?_
 rintro ⟨i, ps⟩ ξ w6 ⟨hi, hE, hbk, hpl, hpL, hpn, hpz⟩
 simp only at hi hbk hpl hpL hpn hpz
 show CW _ _ _ _ (over [(22, .int .i64 (i : Int))] _) w6
 have hxl := ha.lim.getD i
 have hb36 := hb3.ext hE
 have ha6 := ha.ext (hE4.trans hE)
 repeat' (first|(refine aD rfl rfl (ha6.sl.plain (by simp; omega)) (by omega) ?_)|refine bE rfl ha6.sl (by omega) ?_|refine aU rfl hb36 rfl ?_|refine ai rfl ?_|refine aa ?_|refine aj ?_|refine ah rfl ?_|refine ae ?_|refine aY rfl ?_|refine aP rfl ?_|refine aM rfl (fun hc => ?_) (fun hc => ?_)|refine aB ?_|refine aS ?_|refine aL ?_|refine aT ?_|refine aF ?_)
 ·refine aW (ι := Nat × List Nat × Nat) [8, 9, 10, 30, 31, 32, 33, 34, 35, 36, 37, 38, 39, 40, 41, 42, 43, 44, 45, 46, 47, 48, 49, 50, 51, 52, 53, 54, 55, 56, 57, 58, 59] (fun s => [(30, .int .i64 (s.1 : Int)), (8, .int .u64 (s.2.2 : Int))])
   (fun s w' => s.1 ≤ lb.length ∧ Ex w4 w' ∧ Blk w' g 94 (limbsL s.2.1) ∧ s.2.1.length = la.length + lb.length ∧ Lim s.2.1 ∧ s.2.2 < 4294967296 ∧ natOf s.2.1 + s.2.2 * 4294967296 ^ (i + s.1) = natOf ps + la.getD i 0 * natOf (lb.take s.1) * 4294967296 ^ i ∧ ∀ j, i + s.1 ≤ j → s.2.1.getD j 0 = ps.getD j 0) (fun s => lb.length - s.1)
   (0, ps, 0) ⟨rfl, rfl, trivial⟩ ⟨by simp, hE, hbk, hpl, hpL, by simp, by simp [natOf], fun j _ => rfl⟩ ?_
  rintro ⟨j, qs, cy⟩ ξ2 w7 ⟨hj, hE7, hb7, hql, hqL, hcy, hqn, hqz⟩
  simp only at hj hb7 hql hqL hcy hqn hqz
  show CW _ _ _ _ (over [(30, .int .i64 (j : Int)), (8, .int .u64 (cy : Int))] _) w7
  have hyl := hb.lim.getD j
  have hrl := hqL.getD (i + j)
  have hfit := iQ hxl hyl hcy hrl
  have hbl7 := hb.ext (hE4.trans hE7)
  have hb37 := hb3.ext hE7
  repeat' (first|(refine aD rfl rfl (hbl7.sl.plain (by simp; omega)) (by omega) ?_)|refine bE rfl hbl7.sl (by omega) ?_|(refine aD (j := i + j) rfl (by show Value.int .i64 ((i : Int) + (j : Int)) = _; rfl) ⟨_, _, rfl⟩ (by omega) ?_)|refine bE rfl hb7.sl (by omega) ?_|refine gf rfl (by assumption) ?_|refine jO rfl rfl (by omega) ?_|refine fk rfl rfl (by omega) ?_|refine dm rfl ?_|refine dQ rfl rfl ?_|refine dk rfl rfl hb7 (by omega) (fun w8 hc8 hb8 => ⟨fun _ _ => trivial, ?_⟩)|refine aU rfl hb37 rfl ?_|(refine aD (j := i + lb.length) rfl (by show Value.int .i64 ((i : Int) + (lb.length : Int)) = _; rfl) ⟨_, _, rfl⟩ (by omega) ?_)|refine ai rfl ?_|refine aa ?_|refine aj ?_|refine ah rfl ?_|refine ae ?_|refine aY rfl ?_|refine bi rfl rfl (by omega) (by omega) ?_|refine aP rfl ?_|refine aM rfl (fun hc => ?_) (fun hc => ?_)|refine aB ?_|refine aS ?_|refine aL ?_|refine aT ?_|refine aJ ?_|refine aF ?_)
  ·refine ⟨⟨(j + 1, qs.set (i + j) ((cy + (la.getD i 0 * lb.getD j 0 + qs.getD (i + j) 0)) % 4294967296), (cy + (la.getD i 0 * lb.getD j 0 + qs.getD (i + j) 0)) / 4294967296), ⟨by simp only; omega, hE7.chg hc8 (by omega), hb8, by simp [hql], hqL.set (Nat.mod_lt _ (by decide)), by simp only; omega, ?_, ?_⟩, by simp only; omega, rfl, rfl, trivial⟩, (by (repeat (first|exact aH _ _ _|refine ax rfl ?_|refine av rfl ?_|refine ak rfl ?_|refine ao rfl ?_)))⟩
   ·have := jP (x := la.getD i 0) (y := lb.getD j 0) (show i + j < qs.length by omega) hqn
    simp only
    rw [show i + (j + 1) = i + j + 1 by omega, this, bM (by omega), Nat.mul_add, Nat.add_mul, Nat.add_assoc, Nat.pow_add]
    congr 2
    rw [← Nat.mul_assoc, Nat.mul_assoc, Nat.mul_comm (4294967296 ^ i), ← Nat.mul_assoc, Nat.mul_assoc (la.getD i 0)]
   ·intro k hk
    simp only at hk ⊢
    rw [bZ (by omega), hqz k (by omega)]
  ·obtain rfl : j = lb.length := by omega
   have hz : qs.getD (i + lb.length) 0 = 0 := by rw [hqz _ (Nat.le_refl _)]; exact hpz _ (Nat.le_refl _)
   rw [Nat.mod_eq_of_lt hcy] at hb8
   refine ⟨⟨(i + 1, qs.set (i + lb.length) cy), ⟨by simp only; omega, hE7.chg hc8 (by omega), hb8, by simp [hql], hqL.set hcy, ?_, ?_⟩, by simp only; omega, rfl, trivial⟩, (by (repeat (first|exact aH _ _ _|refine ax rfl ?_|refine av rfl ?_|refine ak rfl ?_|refine ao rfl ?_)))⟩
   ·have h1 := cA (l := qs) (k := i + lb.length) (v := cy) (by omega)
    rw [hz, Nat.zero_mul, Nat.add_zero] at h1
    simp only
    rw [h1, hqn, hpn, List.take_length, bM (by omega), Nat.add_mul]
    congr 1
    rw [Nat.mul_assoc, Nat.mul_assoc, Nat.mul_comm (natOf lb)]
   ·intro k hk
    simp only at hk ⊢
    rw [bZ (by omega), hqz k (by omega), hpz k (by omega)]
 ·obtain rfl : i = la.length := by omega
  rw [List.take_length] at hpn
  have hL := Limbs.of_blk (c := la.length + lb.length) hbk (by omega) hpL (by omega)
  have hb26 := hb2.ext hE
  have hcall := bf hL (!(n1 == n2))
  rw [hpl] at hcall
  repeat' (first|refine aU rfl hb26 rfl ?_|refine aU rfl hb36 rfl ?_|refine ai rfl ?_|refine aP rfl ?_|refine f5 rfl rfl ?_)
  refine aw hcall rfl ?_
  rintro v w7 ⟨hI, hE7⟩
  obtain ⟨ng, a', c', ls, rfl, hI'⟩ := id hI
  refine ⟨fun _ _ => trivial, ?_⟩
  refine au (n := 2) rfl rfl rfl rfl ((hb4.ext hE).ext hE7) rfl (fun w8 hc8 hb8 => ⟨fun _ _ => trivial, ?_⟩)
  repeat' (first|refine aa ?_|refine ae ?_|refine aK ?_)
  have s6 := hE.size
  refine bB rfl (rc rfl rfl hb8) ⟨?_, ((hE4.trans hE).trans hE7).chg hc8 (by omega)⟩
  have hr := (hI.chg hc8 (by omega)).mono (lo' := w.heap.size) (by omega)
  rw [hpn] at hr
  have e : sgn (!(n1 == n2)) (natOf la * natOf lb) = sgn n1 (natOf la) * sgn n2 (natOf lb) := by
   unfold sgn; cases n1 <;> cases n2 <;> simp [Int.neg_mul, Int.mul_neg]
  rwa [e] at hr
theorem eM {k : Nat} {v : Value} {x : Int} {w : World} (h1 : IntK k w v x) : CallsR Try.prog 44 #[v] w (RetZ w x) := by
 obtain ⟨n1, a1, c1, l1, rfl, hL1, rfl, _⟩ := h1
 refine aG (args := [_]) Try.func44 rfl rfl ?_
 refine aj ?_
 refine ah rfl ?_
 refine bH rfl (fun g1 w1 hn1 => ⟨fun _ _ => trivial, ?_⟩)
 refine aE (fun g2 w2 hn2 => ⟨fun _ _ => trivial, ?_⟩)
 have hb1 := hn1.blk.ext hn2.ex
 have hb2 : Blk w2 g2 49 (intL false none 0 0) := hn2.blk
 have hE := hn1.ex.trans hn2.ex
 repeat' (first|refine aU rfl hb1 rfl ?_|refine aa ?_|refine aj ?_|refine ah rfl ?_|refine ae ?_|refine aP rfl ?_)
 refine aw (bf (hL1.ext hE) _) rfl ?_
 rintro v w3 ⟨hI, hE3⟩
 obtain ⟨ng, a', c', ls, rfl, hI'⟩ := id hI
 refine ⟨fun _ _ => trivial, ?_⟩
 refine au (n := 2) rfl rfl rfl rfl (hb2.ext hE3) rfl (fun w4 hc4 hb4 => ⟨fun _ _ => trivial, ?_⟩)
 repeat' (first|refine aa ?_|refine ae ?_|refine aK ?_)
 have l2 := hn2.lo
 have l2' := hn2.hi
 have s1 := hn1.ex.size
 refine bB rfl (rc rfl rfl hb4) ⟨?_, (hE.trans hE3).chg hc4 (by omega)⟩
 exact (hI.chg hc4 (by omega)).mono (lo' := w.heap.size) (by omega)
end Go.Proofs.Ytiejljicpinheaa
namespace Go.Proofs.Ytiejljicpinheaa
open Go.W Go.LM
structure DvJ (N V n m k : Nat) (R Q : List Nat) : Prop where
 rl : R.length = m + 1 + n
 ql : Q.length = m + 1
 lr : Lim R
 lq : Lim Q
 eq : natOf R + V * natOf Q = N
 hi : natOf (R.drop k) < V
 zero : ∀ i, i < k → Q.getD i 0 = 0
 le : k ≤ m + 1
theorem Lim.drop {l : List Nat} (h : Lim l) (k : Nat) : Lim (l.drop k) := fun d hd => h d (List.mem_of_mem_drop hd)
theorem Lim.append {l m : List Nat} (h : Lim l) (h' : Lim m) : Lim (l ++ m) := fun d hd => by
 rcases List.mem_append.1 hd with e | e
 ·exact h d e
 ·exact h' d e
theorem DvJ.pre {N V n m k : Nat} {R Q : List Nat} (h : DvJ N V n m (k + 1) R Q) (hV : V < 4294967296 ^ n) :
  natOf ((R.drop k).take (n + 1)) < V * 4294967296 ∧ natOf (R.drop (k + (n + 1))) = 0 ∧ ((R.drop k).take (n + 1)).length = n + 1 ∧ (R.take k).length = k ∧ R = R.take k ++ (R.drop k).take (n + 1) ++ R.drop (k + (n + 1)) := by
 have h1 := h.rl
 have h2 := h.le
 have e := cJ (ls := R) (k := k) (by omega)
 have h3 := h.hi
 have h4 := h.lr.getD k
 have h5 : natOf (R.drop k) < V * 4294967296 := by
  rw [e]
  have : (natOf (R.drop (k + 1)) + 1) * 4294967296 ≤ V * 4294967296 := Nat.mul_le_mul_right _ h3
  omega
 have hd : (R.drop k).length = m + 1 + n - k := by rw [List.length_drop, h1]
 have es := cT (R.drop k) (k := n + 1) (by omega)
 rw [List.drop_drop] at es
 have hz : natOf (R.drop (k + (n + 1))) = 0 := by
  rcases Nat.eq_zero_or_pos (natOf (R.drop (k + (n + 1)))) with h0 | h0
  ·exact h0
  ·exfalso
   have : 4294967296 ^ (n + 1) * 1 ≤ 4294967296 ^ (n + 1) * natOf (R.drop (k + (n + 1))) := Nat.mul_le_mul_left _ h0
   have h6 : V * 4294967296 < 4294967296 ^ n * 4294967296 := Nat.mul_lt_mul_of_pos_right hV (by decide)
   rw [Nat.pow_succ] at this es
   omega
 refine ⟨by rw [es] at h5; omega, hz, by rw [List.length_take, hd]; omega, by rw [List.length_take, h1]; omega, ?_⟩
 rw [List.append_assoc, ← List.drop_drop, List.take_append_drop, List.take_append_drop]
theorem DvJ.step {N V n m k : Nat} {R Q S' : List Nat} (h : DvJ N V n m (k + 1) R Q) (hV : V < 4294967296 ^ n) (h0 : 0 < V) (hl : S'.length = n + 1) (hL : Lim S') (hS : natOf S' = natOf ((R.drop k).take (n + 1)) % V) :
  DvJ N V n m k (R.take k ++ S' ++ R.drop (k + (n + 1))) (Q.set k (natOf ((R.drop k).take (n + 1)) / V)) := by
 obtain ⟨p1, p2, p3, p4, p5⟩ := h.pre hV
 have h1 := h.rl
 have h2 := h.le
 have hq := h.ql
 have heq := h.eq
 have hR : natOf R = natOf (R.take k) + 4294967296 ^ k * natOf ((R.drop k).take (n + 1)) := by
  conv => lhs; rw [p5]
  rw [cG, cG, p2, p4, Nat.mul_zero, Nat.add_zero]
 have hqd : natOf ((R.drop k).take (n + 1)) / V < 4294967296 := (Nat.div_lt_iff_lt_mul h0).2 (by rw [Nat.mul_comm]; exact p1)
 have hdm := Nat.div_add_mod (natOf ((R.drop k).take (n + 1))) V
 generalize (R.drop k).take (n + 1) = S at *
 have hQ := cA (l := Q) (k := k) (v := natOf S / V) (by omega)
 rw [h.zero k (by omega), Nat.zero_mul, Nat.add_zero] at hQ
 refine ⟨by simp only [List.length_append, p4, hl, List.length_drop]; omega, by simp [hq], Lim.append (Lim.append (h.lr.take k) hL) (Lim.drop h.lr _), h.lq.set hqd, ?_, ?_, fun i hi => ?_, by omega⟩
 ·rw [cG, cG, p2, p4, Nat.mul_zero, Nat.add_zero, hQ, hS, Nat.mul_add]
  rw [hR] at heq
  generalize natOf S / V = q at *
  generalize natOf S % V = r at *
  generalize 4294967296 ^ k = E at *
  have : V * (q * E) + E * r = E * natOf S := by rw [← hdm]; grind
  omega
 ·rw [List.append_assoc, List.drop_append_of_le_length (by omega), List.drop_of_length_le (by omega), List.nil_append, cG, p2, Nat.mul_zero, Nat.add_zero, hS]
  exact Nat.mod_lt _ h0
 ·rw [bZ (by omega)]; exact h.zero i (by omega)
theorem DvJ.fin {N V n m : Nat} {R Q : List Nat} (h : DvJ N V n m 0 R Q) : natOf Q = N / V ∧ natOf R = N % V := by
 have h1 := h.hi
 have h2 := h.eq
 simp only [List.drop_zero] at h1
 refine ⟨?_, ?_⟩
 ·rw [← h2, Nat.add_mul_div_left _ _ (by omega), Nat.div_eq_of_lt h1, Nat.zero_add]
 ·rw [← h2, Nat.add_mul_mod_self_left, Nat.mod_eq_of_lt h1]
theorem DvJ.start {A D V n m s : Nat} {R : List Nat} (hR : natOf R = A * 2 ^ s) (_hV : V = D * 2 ^ s) (hl : R.length = m + 1 + n) (lR : Lim R) (hn : 1 ≤ n) (hA : A < 4294967296 ^ (m + n)) (hD : 4294967296 ^ (n - 1) * 2147483648 ≤ V) (hs : s ≤ 31) :
  DvJ (A * 2 ^ s) V n m (m + 1) R (List.replicate (m + 1) 0) := by
 refine ⟨hl, by simp, lR, Lim.zeros _, by rw [cL, hR]; rfl, ?_, fun i hi => ?_, Nat.le_refl _⟩
 ·have e := cT R (k := m + 1) (by omega)
  have hp : (2 : Nat) ^ s ≤ 2147483648 := Nat.le_trans (Nat.pow_le_pow_right (by decide) hs) (by decide)
  rcases Nat.lt_or_ge (natOf (R.drop (m + 1))) V with h | h
  ·exact h
  ·exfalso
   have h1 : 4294967296 ^ (m + 1) * V ≤ 4294967296 ^ (m + 1) * natOf (R.drop (m + 1)) := Nat.mul_le_mul_left _ h
   have h2 : 4294967296 ^ (m + 1) * (4294967296 ^ (n - 1) * 2147483648) ≤ 4294967296 ^ (m + 1) * V := Nat.mul_le_mul_left _ hD
   rw [← Nat.mul_assoc, ← Nat.pow_add, show m + 1 + (n - 1) = m + n by omega] at h2
   have h3 : A * 2 ^ s < 4294967296 ^ (m + n) * 2147483648 := Nat.lt_of_le_of_lt (Nat.mul_le_mul_left _ hp) (Nat.mul_lt_mul_of_pos_right hA (by decide))
   omega
 ·simp [List.getD_eq_getElem?_getD, List.getElem?_replicate]
  split <;> rfl
theorem mR {ls S : List Nat} {s : Nat} (_hc : Canon ls) (hL : Lim ls) (hn : 1 ≤ ls.length) (hS : S.length = ls.length + 1) (lS : Lim S) (hN : natOf S = natOf ls * 2 ^ s) (h1 : 2147483648 ≤ ls.getD (ls.length - 1) 0 * 2 ^ s) (h2 : ls.getD (ls.length - 1) 0 * 2 ^ s < 4294967296) (hs : s ≤ 31) :
  natOf (S.take ls.length) = natOf ls * 2 ^ s ∧ 2147483648 ≤ (S.take ls.length).getD (ls.length - 1) 0 ∧ natOf ls * 2 ^ s < 4294967296 ^ ls.length ∧ 4294967296 ^ (ls.length - 1) * 2147483648 ≤ natOf ls * 2 ^ s := by
 obtain ⟨n, hn'⟩ : ∃ n, ls.length = n + 1 := ⟨ls.length - 1, by omega⟩
 rw [hn'] at hS h1 h2 ⊢
 rw [Nat.add_sub_cancel] at h1 h2 ⊢
 have e := cT ls (k := n) (by omega)
 rw [cJ (by omega), List.drop_of_length_le (by omega)] at e
 simp only [natOf, Nat.mul_zero, Nat.add_zero] at e
 have hlow := bL (hL.take n)
 rw [List.length_take, hn', Nat.min_eq_left (by omega)] at hlow
 generalize ls.getD n 0 = x at *
 generalize natOf (ls.take n) = y at *
 have hP : 0 < 2 ^ s := Nat.two_pow_pos s
 have hdiv : (x + 1) * 2 ^ s ≤ 4294967296 := by
  have hb : (4294967296 : Nat) = 2 ^ (32 - s) * 2 ^ s := by rw [← Nat.pow_add, show 32 - s + s = 32 by omega]
  have : x < 2 ^ (32 - s) := Nat.lt_of_mul_lt_mul_right (a := 2 ^ s) (by rw [← hb]; exact h2)
  rw [hb]; exact Nat.mul_le_mul_right _ this
 have g1 : natOf ls * 2 ^ s < 4294967296 ^ (n + 1) := by
  rw [e, Nat.pow_succ]
  have : (y + 4294967296 ^ n * x) + 1 ≤ 4294967296 ^ n * (x + 1) := by rw [Nat.mul_add]; omega
  have h3 := Nat.mul_le_mul_right (2 ^ s) this
  have h4 : 4294967296 ^ n * ((x + 1) * 2 ^ s) ≤ 4294967296 ^ n * 4294967296 := Nat.mul_le_mul_left _ hdiv
  rw [← Nat.mul_assoc] at h4
  rw [Nat.add_mul _ 1] at h3
  omega
 have g2 : 4294967296 ^ n * 2147483648 ≤ natOf ls * 2 ^ s := by
  rw [e]
  have : 4294967296 ^ n * 2147483648 ≤ 4294967296 ^ n * (x * 2 ^ s) := Nat.mul_le_mul_left _ h1
  rw [Nat.add_mul, Nat.mul_assoc]; omega
 have hS0 : natOf S = natOf (S.take (n + 1)) + S.getD (n + 1) 0 * 4294967296 ^ (n + 1) := by
  have := cT S (k := n + 1) (by omega)
  rw [cJ (by omega), List.drop_of_length_le (by omega)] at this
  simp only [natOf, Nat.mul_zero, Nat.add_zero] at this
  rw [this, Nat.mul_comm (4294967296 ^ (n + 1))]
 have hz : S.getD (n + 1) 0 = 0 := by
  rcases Nat.eq_zero_or_pos (S.getD (n + 1) 0) with h | h
  ·exact h
  ·exfalso
   have : 1 * 4294967296 ^ (n + 1) ≤ S.getD (n + 1) 0 * 4294967296 ^ (n + 1) := Nat.mul_le_mul_right _ h
   omega
 rw [hz, Nat.zero_mul, Nat.add_zero] at hS0
 refine ⟨by omega, ?_, g1, g2⟩
 have hT : Lim (S.take (n + 1)) := lS.take _
 have e2 := cT (S.take (n + 1)) (k := n) (by rw [List.length_take]; omega)
 rw [cJ (by rw [List.length_take]; omega), List.drop_of_length_le (by rw [List.length_take]; omega)] at e2
 simp only [natOf, Nat.mul_zero, Nat.add_zero] at e2
 have hlow2 := bL (hT.take n)
 rw [List.length_take, List.length_take] at hlow2
 rw [show min n (min (n + 1) S.length) = n by omega] at hlow2
 rcases Nat.lt_or_ge ((S.take (n + 1)).getD n 0) 2147483648 with h | h
 ·exfalso
  have : 4294967296 ^ n * ((S.take (n + 1)).getD n 0 + 1) ≤ 4294967296 ^ n * 2147483648 := Nat.mul_le_mul_left _ h
  rw [Nat.mul_add] at this
  omega
 ·exact h
theorem mS {ls : List Nat} {a : Option Addr} {c : Nat} {w : World} (h : Limbs w a c ls) (h0 : 0 < ls.length) : CallsR Try.prog 91 #[.slice a ls.length c] w fun v w' =>
  ∃ g c', v = .slice (some ⟨g, 0, none⟩) ls.length c' ∧ Own w' w.heap.size 94 1 (some ⟨g, 0, none⟩) ls.length c' (limbsL ls) ∧ Ex w w' := by
 have hlen := h.len
 obtain ⟨g0, o0, rfl⟩ := h.sl.plain (by simpa using h0)
 refine aG (args := [_]) Try.func91 rfl rfl ?_
 repeat' (first|refine dR rfl rfl ?_|refine oD (fun g w1 hn1 => ⟨fun _ _ => trivial, ?_⟩)|refine ai rfl ?_|refine aa ?_|refine aj ?_|refine ah rfl ?_|refine ae ?_|refine ay rfl ?_|refine aF ?_)
 have hs1 := h.sl.ext hn1.ex
 refine f8 (z := .int .u32 0) (s := 1) (vs := []) (lo := w.heap.size) (news := limbsL ls) rfl rfl rfl rfl (hn1.blk.own rfl (Nat.zero_le _) hn1.lo) hs1 (h.sl.plain (by simp; omega)) (by simp) (lf (fun _ => rfl) _) (by omega) (by omega) hn1.ex.size ?_
 intro a' c' w2 ho hg hA
 refine ⟨fun _ _ => trivial, ?_⟩
 rw [Nat.zero_add] at ho ⊢
 have hE : Ex w w2 := ic hg hn1.ex (by rintro _ ⟨⟩; exact hn1.lo)
 repeat' (first|refine ai rfl ?_|refine aa ?_|refine ae ?_|refine aK ?_)
 obtain ⟨g', rfl⟩ : ∃ g', a' = some ⟨g', 0, none⟩ := by
  rcases ho.2 with ⟨e, e'⟩ | ⟨g', cp, cur, e, _⟩
  ·omega
  ·cases e; exact ⟨_, rfl⟩
 exact bB rfl (rt rfl) ⟨_, c', rfl, ho, hE⟩
end Go.Proofs.Ytiejljicpinheaa
