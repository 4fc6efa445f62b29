import Derived.Test.YtppipmkpmmdcjaaA04
namespace Go.Proofs.Ytppipmkpmmdcjaa
open Go.W Go.LM
theorem qd {n1 n2 : Bool} {m n : Nat} (h : (sgn n1 m).sign = (sgn n2 n).sign) : (sgn n1 m).sign * cmpZ m n = (sgn n1 m - sgn n2 n).sign := by
 have pos : ∀ k : Nat, 0 < k → ((k : Int)).sign = 1 := fun k hk => Int.sign_eq_one_of_pos (by omega)
 have neg : ∀ k : Nat, 0 < k → (-(k : Int)).sign = -1 := fun k hk => Int.sign_eq_neg_one_of_neg (by omega)
 rcases Nat.eq_zero_or_pos m with rfl | hm
 ·have h0 : ∀ b, sgn b 0 = 0 := fun b => by unfold sgn; cases b <;> rfl
  rw [h0] at h ⊢
  have : sgn n2 n = 0 := Int.sign_eq_zero_iff_zero.1 h.symm
  rw [this]; simp
 ·rcases Nat.eq_zero_or_pos n with rfl | hn
  ·have h0 : ∀ b, sgn b 0 = 0 := fun b => by unfold sgn; cases b <;> rfl
   rw [h0] at h
   have : sgn n1 m = 0 := Int.sign_eq_zero_iff_zero.1 h
   exfalso
   unfold sgn at this; split at this <;> omega
  ·cases n1 <;> cases n2 <;> simp only [sgn, if_true, Bool.false_eq_true, if_false] at h ⊢
   ·rw [pos m hm]
    unfold cmpZ
    split
    ·rw [Int.sign_eq_neg_one_of_neg (by omega)]; rfl
    ·split
     ·rw [Int.sign_eq_one_of_pos (by omega)]; rfl
     ·rw [show (m : Int) - n = 0 by omega]; rfl
   ·rw [pos m hm, neg n hn] at h; omega
   ·rw [neg m hm, pos n hn] at h; omega
   ·rw [neg m hm]
    unfold cmpZ
    split
    ·rw [Int.sign_eq_one_of_pos (by omega)]; rfl
    ·split
     ·rw [Int.sign_eq_neg_one_of_neg (by omega)]; rfl
     ·rw [show -(m : Int) - -(n : Int) = 0 by omega]; rfl
theorem nj {x y : Int} (h : x.sign < y.sign) : (x - y).sign = -1 := by
 refine Int.sign_eq_neg_one_of_neg ?_
 rcases Int.lt_trichotomy x 0 with hx | hx | hx
 ·rcases Int.lt_trichotomy y 0 with hy | hy | hy
  ·rw [Int.sign_eq_neg_one_of_neg hx, Int.sign_eq_neg_one_of_neg hy] at h; omega
  ·omega
  ·omega
 ·rw [hx, Int.sign_zero] at h
  have := Int.sign_pos_iff.1 h; omega
 ·rw [Int.sign_eq_one_of_pos hx] at h
  have : y.sign ≤ 1 := by rcases Int.sign_trichotomy y with e | e | e <;> omega
  omega
theorem nP {p q : Nat} {v1 v2 : Value} {x y : Int} {w : World} (h1 : IntK p w v1 x) (h2 : IntK q w v2 y) :
  CallsR Try.prog 54 #[v1, v2] w fun r w' => r = .int .i64 (x - y).sign ∧ Ex w w' := by
 have h1s := h1
 have h2s := h2
 obtain ⟨n1, a1, c1, l1, rfl, hL1, rfl, hp1⟩ := h1
 obtain ⟨n2, a2, c2, l2, rfl, hL2, rfl, hq1⟩ := h2
 refine aJ (args := [_, _]) Try.func54 rfl rfl ?_
 refine ao ?_
 refine ah rfl ?_
 refine bM rfl (fun g2 w2 hn2 => ⟨fun _ _ => trivial, ?_⟩)
 refine bM rfl (fun g3 w3 hn3 => ⟨fun _ _ => trivial, ?_⟩)
 have hb2 := hn2.blk.ext hn3.ex
 have hb3 := hn3.blk
 have hE := hn2.ex.trans hn3.ex
 repeat' (first|refine ai rfl ?_|refine aa ?_|refine ao ?_|refine ae ?_)
 have hEd : Ex w3 w3.drew := (Ex.refl w3).drew
 refine aZ (late := []) (plan := [(0, none), (2, none), (1, some true), (3, some true), (4, none), (5, none)]) (fun w' => Ex w3 w') bt (by kernel_rfl) hEd ?_
 repeat' (first|refine aP rfl (fun _ h => hb2.ext h) rfl ?_|refine aP rfl (fun _ h => hb3.ext h) rfl ?_)
 refine ax (bI (h1s.ext (hE.trans hEd))) rfl ?_
 rintro v w4 ⟨rfl, hE4⟩
 refine ⟨fun _ h => h.trans hE4, ?_⟩
 skip
 refine ax (bI (h2s.ext ((hE.trans hEd).trans hE4))) rfl ?_
 rintro v w5 ⟨rfl, hE5⟩
 refine ⟨fun _ h => h.trans hE5, ?_⟩
 have hE35 := (hEd.trans hE4).trans hE5
 repeat' (first|refine ai rfl ?_|refine aa ?_|refine ao ?_|refine ah rfl ?_|refine ae ?_|refine aR rfl (fun hc => ?_) (fun hc => ?_)|refine aC ?_|refine aM ?_|refine aT ?_|refine bw ?_|refine du ?_|refine aI ?_)
 ·exact bF rfl (rt rfl) ⟨congrArg (Value.int .i64) (nj (by assumption)).symm, hE.trans hE35⟩
 ·refine bF rfl (rt rfl) ⟨?_, hE.trans hE35⟩
  have : (sgn n2 (natOf l2) - sgn n1 (natOf l1)).sign = -1 := nj (by assumption)
  show Value.int .i64 1 = _
  rw [show sgn n1 (natOf l1) - sgn n2 (natOf l2) = -(sgn n2 (natOf l2) - sgn n1 (natOf l1)) by omega, Int.sign_neg, this]; rfl
 ·have heq : (sgn n1 (natOf l1)).sign = (sgn n2 (natOf l2)).sign := by omega
  have hE5d : Ex w3 w5.drew := hE35.drew
  refine aZ (late := []) (plan := [(0, none), (1, none), (2, none), (4, none), (5, none), (3, some true), (6, some true), (7, some true), (8, none), (9, none)]) (fun w' => Ex w3 w') bt (by kernel_rfl) hE5d ?_
  repeat' (first|refine aV rfl (fun _ h => hb2.ext h) rfl ?_|refine aV rfl (fun _ h => hb3.ext h) rfl ?_|refine ai rfl ?_|refine aL rfl ?_)
  refine ax (bL (hL1.ext (hE.trans hE5d))) rfl ?_
  rintro v w6 ⟨rfl, hE6⟩
  refine ⟨fun _ h => h.trans hE6, ?_⟩
  skip
  refine ax (bL (hL2.ext ((hE.trans hE5d).trans hE6))) rfl ?_
  rintro v w7 ⟨rfl, hE7⟩
  refine ⟨fun _ h => h.trans hE7, ?_⟩
  have hE37 := (hE5d.trans hE6).trans hE7
  skip
  refine ax (cZ ((hL1.ext (hE.trans hE37)).trim) ((hL2.ext (hE.trans hE37)).trim) (bE _) (bE _)) rfl ?_
  rintro v w8 ⟨rfl, hE8⟩
  refine ⟨fun _ h => h.trans hE8, ?_⟩
  have hc := qd heq
  have hb : -1 ≤ (sgn n1 (natOf l1) - sgn n2 (natOf l2)).sign ∧ (sgn n1 (natOf l1) - sgn n2 (natOf l2)).sign ≤ 1 := by
   rcases Int.sign_trichotomy (sgn n1 (natOf l1) - sgn n2 (natOf l2)) with e | e | e <;> omega
  rw [bu, bu]
  repeat' (first|(refine oy rfl rfl (by rw [hc]; omega) (by rw [hc]; omega) ?_)|refine ai rfl ?_|refine aa ?_|refine ae ?_|refine aT ?_)
  exact bF rfl (rt rfl) ⟨congrArg (Value.int .i64) hc, (hE.trans hE37).trans hE8⟩
end Go.Proofs.Ytppipmkpmmdcjaa
namespace Go.Proofs.Ytppipmkpmmdcjaa
open Go.W Go.LM
theorem ci {p q : Nat} {v1 v2 : Value} {x y : Int} {w : World} (h1 : IntK p w v1 x) (h2 : IntK q w v2 y) (hkl : p + q ≤ 17592186044416) :
  CallsR Try.prog 12 #[v1, v2] w (RetZ w (x * y)) := by
 obtain ⟨n1, a1, c1, l1, rfl, hL1, rfl, hp1⟩ := h1
 obtain ⟨n2, a2, c2, l2, rfl, hL2, rfl, hq1⟩ := h2
 have tl1 := cA l1
 have tl2 := cA l2
 refine aJ (args := [_, _]) Try.func12 rfl rfl ?_
 refine ao ?_
 refine ah rfl ?_
 refine bM rfl (fun g2 w2 hn2 => ⟨fun _ _ => trivial, ?_⟩)
 refine bM rfl (fun g3 w3 hn3 => ⟨fun _ _ => trivial, ?_⟩)
 refine aD (fun g4 w4 hn4 => ⟨fun _ _ => trivial, ?_⟩)
 have hb2 := (hn2.blk.ext hn3.ex).ext hn4.ex
 have hb3 := hn3.blk.ext hn4.ex
 have hb4 : Blk w4 g4 27 (intL false none 0 0) := hn4.blk
 have hE := (hn2.ex.trans hn3.ex).trans hn4.ex
 have l4 := hn4.lo
 have l4' := hn4.hi
 have s3 := (hn2.ex.trans hn3.ex).size
 repeat' (first|refine aa ?_|refine ao ?_|refine ae ?_)
 refine aZ (late := [13]) (plan := [(0, none), (1, none), (2, none), (3, none), (4, none), (5, none), (6, none), (8, none), (9, none), (7, some true), (10, some true), (11, some true), (12, some true), (13, some false)]) (fun w' => Blk w' g2 27 (intL n1 a1 l1.length c1) ∧ Blk w' g3 27 (intL n2 a2 l2.length c2)) bt (by kernel_rfl) ⟨hb2.drew, hb3.drew⟩ ?_
 repeat' (first|refine aV rfl (fun _ h => h.1) rfl ?_|refine aV rfl (fun _ h => h.2) rfl ?_|refine aL rfl ?_|refine kp rfl rfl ?_)
 refine ax (bL (hL1.ext hE.drew)) rfl ?_
 rintro v w5 ⟨rfl, hE5⟩
 refine ⟨fun _ h => ⟨h.1.ext hE5, h.2.ext hE5⟩, ?_⟩
 refine ax (bL (hL2.ext (hE.drew.trans hE5))) rfl ?_
 rintro v w6 ⟨rfl, hE6⟩
 refine ⟨fun _ h => ⟨h.1.ext hE6, h.2.ext hE6⟩, ?_⟩
 have hE6' := (hE.drew.trans hE5).trans hE6
 refine ax (iH (hL1.ext hE6').trim (hL2.ext hE6').trim (by omega)) rfl ?_
 rintro v w7 ⟨l7, hn7, hcn7, hln7, a7, c7, rfl, hL7, hf7, hE7⟩
 refine ⟨fun _ h => ⟨h.1.ext hE7, h.2.ext hE7⟩, ?_⟩
 refine ax (cc hL7 hcn7 hf7 _) rfl ?_
 rintro v w8 ⟨hI, hE8⟩
 refine ⟨fun _ h => ⟨h.1.ext hE8, h.2.ext hE8⟩, ?_⟩
 obtain ⟨neg, a', c', ls, rfl, hI'⟩ := id hI
 refine aw (n := 2) rfl rfl rfl rfl ((((hb4.drew.ext hE5).ext hE6).ext hE7).ext hE8) rfl (fun w9 hc9 hb9 => ⟨fun h => absurd h (by decide), ?_⟩)
 repeat' (first|refine aa ?_|refine ae ?_|refine aT ?_)
 have s5 := (hE5.trans hE6).size
 have s4 : w4.drew.heap.size = w4.heap.size := rfl
 refine bF rfl (rc rfl rfl hb9) ⟨?_, ((hE6'.trans hE7).trans hE8).chg hc9 (by omega)⟩
 have hr := (hI.chg hc9 (by omega)).mono (lo' := w.heap.size) (by have := hE6'.size; omega)
 rw [hn7, bu, bu] at hr
 have e : sgn (!(n1 == n2)) (natOf l1 * natOf l2) = sgn n1 (natOf l1) * sgn n2 (natOf l2) := by
  unfold sgn; cases n1 <;> cases n2 <;> simp [Int.neg_mul, Int.mul_neg]
 rwa [e] at hr
end Go.Proofs.Ytppipmkpmmdcjaa
namespace Go.W
section
variable {P : Program} {S : World → Prop} {ops : List Oper} {K : Env → World → Prop} {rest : List (Oper × Option Bool)} {ρ : Env} {w : World} {b : Option Bool} {kf : Bool} {d : Nat} {dst : Option Nat} {T T' : TypeId} {pos : String} {af : Array Edge}
theorem mz {x ix : Operand} {s : ByteArray} {j : Nat} {k : IntKind} {m : Nat} (hu : P.underlying T' = some .string) (hx : ev ρ x = .string s) (hi : ev ρ ix = .int k (j : Int)) (hv : (s[j]?).map (·.toNat) = some m)
  (h : RR P S ops K rest (upd ρ d (.int .u8 (m : Int))) w) : RR P S ops K ((⟨some d, .index T' x ix, T, pos, af, none⟩, b) :: rest) ρ w := by
 refine bN rfl (fun w' => ?_) h
 obtain ⟨u, hu2, rfl⟩ := Option.map_eq_some_iff.1 hv
 simp [execOp, Instr.index, hx, hi, asIntOf, underlying, hu, hu2]
end
end Go.W
namespace Go.LM
theorem fq {l : List Nat} {k : Nat} (h : k < l.length) : natOf (l.drop k) = l.getD k 0 + 4294967296 * natOf (l.drop (k + 1)) := by
 rw [List.drop_eq_getElem_cons h]
 simp [natOf, List.getD_eq_getElem?_getD, h]
theorem ll {l : List Nat} {k j v : Nat} (h : k < j) : (l.set k v).drop j = l.drop j := by
 apply List.ext_getElem?
 intro i
 simp [List.getElem?_drop, List.getElem?_set_ne (show k ≠ j + i by omega)]
end Go.LM
namespace Go.Proofs.Ytppipmkpmmdcjaa
open Go.W Go.LM
def bitL (x : Nat) : Nat := if x = 0 then 0 else Nat.log2 x + 1
theorem iv {x : Nat} (h : 0 < x) : 2 ^ (bitL x - 1) ≤ x ∧ x < 2 ^ bitL x ∧ 0 < bitL x := by
 unfold bitL
 rw [if_neg (by omega)]
 exact ⟨by simpa using Nat.log2_self_le (by omega), Nat.lt_log2_self, by omega⟩
theorem ju {x k : Nat} (h : 2 ^ k ≤ x) : bitL (x / 2 ^ k) + k = bitL x := by
 have hp : 0 < 2 ^ k := Nat.two_pow_pos k
 have h0 : 0 < x / 2 ^ k := Nat.div_pos h hp
 obtain ⟨h1, h2, h3⟩ := iv h0
 obtain ⟨g1, g2, g3⟩ := iv (show 0 < x by omega)
 have e1 : 2 ^ (bitL (x / 2 ^ k) - 1 + k) ≤ x := by
  rw [Nat.pow_add]; exact (Nat.le_div_iff_mul_le hp).1 h1
 have e2 : x < 2 ^ (bitL (x / 2 ^ k) + k) := by
  rw [Nat.pow_add]; exact (Nat.div_lt_iff_lt_mul hp).1 h2
 have a1 : bitL (x / 2 ^ k) - 1 + k < bitL x := (Nat.pow_lt_pow_iff_right (by decide : 1 < 2)).1 (Nat.lt_of_le_of_lt e1 g2)
 have a2 : bitL x - 1 < bitL (x / 2 ^ k) + k := (Nat.pow_lt_pow_iff_right (by decide : 1 < 2)).1 (Nat.lt_of_le_of_lt g1 e2)
 omega
theorem mA {x : Nat} (hx : x < 4294967296) (w : World) : CallsR Try.prog 83 #[.int .u32 (x : Int)] w fun v w' => v = .int .i64 (bitL x : Int) ∧ w' = w := by
 refine aJ (args := [_]) Try.func83 rfl rfl ?_
 repeat' (first|refine ai rfl ?_|refine aa ?_|refine ao ?_|refine ah rfl ?_|refine ae ?_)
 refine cz (ι := Nat × Nat) [0, 2, 5, 6] (fun s => [(0, .int .u32 (s.1 : Int)), (2, .int .i64 (s.2 : Int))])
  (fun s w' => w' = w ∧ s.1 < 65536 ∧ s.2 ≤ 16 ∧ bitL s.1 + s.2 = bitL x) ?_ ?_
 ·repeat' (first|refine gi (j := 16) rfl rfl (.inl rfl) ?_|refine ai rfl ?_|refine aa ?_|refine ao ?_|refine ah rfl ?_|refine ae ?_|refine aR rfl (fun hc => ?_) (fun hc => ?_)|refine aI ?_)
  ·refine ⟨⟨(x >>> 16, 16), ⟨rfl, by simp only [Nat.shiftRight_eq_div_pow]; omega, by simp, by simp only [Nat.shiftRight_eq_div_pow]; exact ju (by omega)⟩, rfl, rfl, trivial⟩, (by (repeat (first|exact aG _ _|refine ay rfl ?_|refine av rfl ?_|refine aj rfl ?_|refine ak rfl ?_)))⟩
  ·refine ⟨⟨(x, 0), ⟨rfl, by simp only; omega, by simp, rfl⟩, rfl, rfl, trivial⟩, (by (repeat (first|exact aG _ _|refine ay rfl ?_|refine av rfl ?_|refine aj rfl ?_|refine ak rfl ?_)))⟩
 rintro ⟨y, n⟩ ξ w1 ⟨rfl, hy, hn, he⟩
 simp only at hy hn he
 show CW _ _ _ _ (over [(0, .int .u32 (y : Int)), (2, .int .i64 (n : Int))] _) w1
 repeat' (first|refine ai rfl ?_|refine aa ?_|refine ao ?_|refine ah rfl ?_|refine ae ?_)
 refine cz (ι := Nat × Nat) [0, 2, 9, 10, 11, 12] (fun s => [(0, .int .u32 (s.1 : Int)), (2, .int .i64 (s.2 : Int))])
  (fun s w' => w' = w1 ∧ s.1 < 256 ∧ s.2 ≤ 24 ∧ bitL s.1 + s.2 = bitL x) ?_ ?_
 ·repeat' (first|refine gi (j := 8) rfl rfl (.inl rfl) ?_|refine fF (m := n) (m' := 8) rfl rfl (by omega) ?_|refine ai rfl ?_|refine aa ?_|refine ao ?_|refine ah rfl ?_|refine ae ?_|refine aR rfl (fun hc => ?_) (fun hc => ?_)|refine aI ?_)
  ·refine ⟨⟨(y >>> 8, n + 8), ⟨rfl, by simp only [Nat.shiftRight_eq_div_pow]; omega, by simp only; omega, ?_⟩, rfl, rfl, trivial⟩, (by (repeat (first|exact aG _ _|refine ay rfl ?_|refine av rfl ?_|refine aj rfl ?_|refine ak rfl ?_)))⟩
   simp only [Nat.shiftRight_eq_div_pow]
   have := ju (x := y) (k := 8) (by omega)
   omega
  ·refine ⟨⟨(y, n), ⟨rfl, by simp only; omega, by simp only; omega, he⟩, rfl, rfl, trivial⟩, (by (repeat (first|exact aG _ _|refine ay rfl ?_|refine av rfl ?_|refine aj rfl ?_|refine ak rfl ?_)))⟩
 clear hy hn he
 rintro ⟨y, n⟩ ξ2 w2 ⟨rfl, hy, hn, he⟩
 simp only at hy hn he
 show CW _ _ _ _ (over [(0, .int .u32 (y : Int)), (2, .int .i64 (n : Int))] _) w2
 have hb : bitL y ≤ 8 := by
  unfold bitL
  split
  ·omega
  ·have := (Nat.log2_lt (n := y) (k := 8) (by omega)).2 hy; omega
 repeat' (first|refine cP rfl (pW (by omega) (by omega)) ?_|refine ai rfl ?_|refine ao ?_|refine ah rfl ?_)
 refine mz (j := y) (m := bitL y) (by kernel_rfl) rfl rfl ?_ ?_
 ·revert hy
  clear he hn hb
  revert y
  decide +kernel
 repeat' (first|refine cP rfl (cE (by omega) (by omega)) ?_|refine fF (m := n) (m' := bitL y) rfl rfl (by omega) ?_|refine ai rfl ?_|refine aa ?_|refine ae ?_|refine aT ?_)
 refine bF rfl (rt rfl) ⟨?_, rfl⟩
 show Value.int .i64 _ = _
 rw [← he, Nat.add_comm]
theorem nQ {x : Nat} (hx : x < 4294967296) (h0 : 0 < x) (w : World) : CallsR Try.prog 77 #[.int .u32 (x : Int)] w fun v w' => ∃ s : Nat, v = .int .i64 (s : Int) ∧ w' = w ∧ s ≤ 31 ∧ 2147483648 ≤ x * 2 ^ s ∧ x * 2 ^ s < 4294967296 := by
 refine aJ (args := [_]) Try.func77 rfl rfl ?_
 repeat' (first|refine ai rfl ?_|refine aa ?_|refine ao ?_|refine ah rfl ?_|refine ae ?_)
 refine ax (mA hx w) rfl ?_
 rintro v w2 ⟨rfl, rfl⟩
 refine ⟨fun _ _ => trivial, ?_⟩
 obtain ⟨h1, h2, h3⟩ := iv h0
 have hb : bitL x ≤ 32 := by
  have : bitL x - 1 < 32 := (Nat.pow_lt_pow_iff_right (by decide : 1 < 2)).1 (Nat.lt_of_le_of_lt h1 (show x < 2 ^ 32 from hx))
  omega
 repeat' (first|refine ai rfl ?_|refine aa ?_|refine ae ?_|refine dh rfl rfl (by omega) (by omega) ?_|refine aT ?_)
 refine bF rfl (rt rfl) ⟨32 - bitL x, ?_, rfl, by omega, ?_, ?_⟩
 ·show Value.int .i64 ((32 : Int) - (bitL x : Int)) = _
  rw [show ((32 : Int) - (bitL x : Int)) = ((32 - bitL x : Nat) : Int) by omega]
 ·calc 2147483648 = 2 ^ (bitL x - 1) * 2 ^ (32 - bitL x) := by rw [← Nat.pow_add, show bitL x - 1 + (32 - bitL x) = 31 by omega]
   _ ≤ x * 2 ^ (32 - bitL x) := Nat.mul_le_mul_right _ h1
 ·calc x * 2 ^ (32 - bitL x) < 2 ^ bitL x * 2 ^ (32 - bitL x) := Nat.mul_lt_mul_of_pos_right h2 (Nat.two_pow_pos _)
   _ = 4294967296 := by rw [← Nat.pow_add, show bitL x + (32 - bitL x) = 32 by omega]
set_option maxHeartbeats 2000000 in
theorem fM {ls : List Nat} {a : Option Addr} {c s : Nat} {w : World} (h : Limbs w a c ls) (hs : s ≤ 31) (hlen : ls.length < 17592186044416) :
  CallsR Try.prog 78 #[.slice a ls.length c, .int .i64 (s : Int)] w fun v w' => ∃ g S, v = .slice (some ⟨g, 0, none⟩) (ls.length + 1) (ls.length + 1) ∧ w.heap.size ≤ g ∧ Blk w' g 49 (limbsL S) ∧ S.length = ls.length + 1 ∧ Lim S ∧ natOf S = natOf ls * 2 ^ s ∧ S.getD ls.length 0 < 2 ^ s ∧ Ex w w' := by
 have h2s : 2 ^ s ≤ 2147483648 := Nat.pow_le_pow_right (by decide) hs
 have h0s : 0 < 2 ^ s := Nat.two_pow_pos s
 refine aJ (args := [_, _]) Try.func78 rfl rfl ?_
 repeat' (first|refine fF (m := ls.length) (m' := 1) rfl rfl (by omega) ?_|refine fT rfl rfl (by omega) (by omega) (fun g w2 hn2 => ⟨fun _ _ => trivial, ?_⟩)|refine ai rfl ?_|refine aa ?_|refine ao ?_|refine ah rfl ?_|refine ae ?_|refine bn rfl ?_|refine aC ?_)
 have l2 := hn2.lo
 refine bh (ι := Nat × List Nat × Nat) [6, 7, 8, 15, 16, 17, 18, 19, 20, 21, 22, 23, 24, 25, 26, 27, 28, 29, 30, 31, 32, 33] (fun s => [(15, .int .i64 (s.1 : Int)), (6, .int .u64 (s.2.2 : Int))])
  (fun t w' => t.1 ≤ ls.length ∧ Ex w w' ∧ Blk w' g 49 (limbsL t.2.1) ∧ t.2.1.length = ls.length + 1 ∧ Lim t.2.1 ∧ t.2.2 < 2 ^ s ∧ natOf t.2.1 + t.2.2 * 4294967296 ^ t.1 = natOf (ls.take t.1) * 2 ^ s ∧ ∀ j, t.1 ≤ j → t.2.1.getD j 0 = 0) (fun s => ls.length - s.1)
  (0, List.replicate (ls.length + 1) 0, 0) ⟨rfl, rfl, trivial⟩ ⟨by simp, hn2.ex, hn2.blk, by simp, Lim.zeros _, h0s, by simp [dr, natOf], fun j _ => by simp [List.getD_eq_getElem?_getD, List.getElem?_replicate]; split <;> rfl⟩ ?_
 rintro ⟨i, S, cy⟩ ξ w3 ⟨hi, hE, hbk, hSl, hSL, hcy, hN, hz⟩
 simp only at hi hbk hSl hSL hcy hN hz
 show CW _ _ _ _ (over [(15, .int .i64 (i : Int)), (6, .int .u64 (cy : Int))] _) w3
 have hx := h.lim.getD i
 have h3 := h.ext hE
 have hsh : (ls.getD i 0 <<< s) % 2 ^ IntKind.u64.bits = ls.getD i 0 <<< s := Nat.mod_eq_of_lt (by
  rw [Nat.shiftLeft_eq]
  have : ls.getD i 0 * 2 ^ s ≤ 4294967296 * 2147483648 := Nat.mul_le_mul (by omega) h2s
  simp only [IntKind.bits]; omega)
 have hsh2 : ls.getD i 0 <<< s < 18446744073709551616 := by
  rw [Nat.shiftLeft_eq]
  have : ls.getD i 0 * 2 ^ s ≤ 4294967296 * 2147483648 := Nat.mul_le_mul (by omega) h2s
  omega
 repeat' (first|(refine aB rfl rfl (h3.sl.plain (by simp; omega)) (by omega) ?_)|refine bO rfl h3.sl (by omega) ?_|refine ip rfl (by assumption) ?_|refine ai rfl ?_|refine aa ?_|refine ao ?_|refine ah rfl ?_|refine ae ?_|refine bn rfl ?_|refine aR rfl (fun hc => ?_) (fun hc => ?_)|refine aC ?_|refine aW ?_|refine aO ?_|refine aX ?_|refine aI ?_)
 ·refine me (j := s) rfl rfl rfl (by simp only [IntKind.bits]; omega) ?_
  rw [hsh]
  refine m7 rfl rfl rfl (by simp only [IntKind.bits]; omega) hsh2 ?_
  repeat' (first|refine dB rfl ?_|refine eh rfl rfl ?_|refine aB rfl rfl ⟨_, _, rfl⟩ (by omega) ?_|refine dK rfl rfl hbk (by omega) (fun w4 hc4 hb4 => ⟨fun _ _ => trivial, ?_⟩)|refine ai rfl ?_|refine aa ?_|refine ao ?_|refine ah rfl ?_|refine ae ?_|refine bi rfl rfl (by omega) (by omega) ?_|refine aM ?_)
  refine ⟨⟨(i + 1, S.set i ((cy ||| ls.getD i 0 <<< s) % 4294967296), (cy ||| ls.getD i 0 <<< s) / 4294967296), ⟨by simp only; omega, hE.chg hc4 l2, hb4, by simp [hSl], hSL.set (Nat.mod_lt _ (by decide)), nO hcy hx, ?_, ?_⟩, by simp only; omega, rfl, rfl, trivial⟩, (by (repeat (first|exact aF _ _ _|refine ay rfl ?_|refine av rfl ?_|refine aj rfl ?_|refine ak rfl ?_)))⟩
  ·have := oO (m := ls.getD i 0) (show i < S.length by omega) (hz i (Nat.le_refl _)) hN hcy
   simp only
   rw [this, bX, Nat.add_mul]
   congr 1
   rw [Nat.mul_assoc, Nat.mul_assoc, Nat.mul_comm (2 ^ s)]
  ·intro k hk
   simp only at hk ⊢
   rw [ct (by omega), hz k (by omega)]
 ·have hi2 : i = ls.length := by omega
  subst hi2
  rw [cf (Nat.le_refl _)] at hN
  repeat' (first|refine dB rfl ?_|refine aB rfl rfl ⟨_, _, rfl⟩ (by omega) ?_|refine dK rfl rfl hbk (by omega) (fun w4 hc4 hb4 => ⟨fun _ _ => trivial, ?_⟩)|refine ai rfl ?_|refine aa ?_|refine ao ?_|refine ah rfl ?_|refine ae ?_|refine aT ?_)
  rw [Nat.mod_eq_of_lt (by omega)] at hb4
  have hset := cu (l := S) (k := ls.length) (v := cy) (by omega)
  rw [hz ls.length (by omega), Nat.zero_mul, Nat.add_zero, hN] at hset
  refine bF rfl (rt rfl) ⟨g, S.set ls.length cy, rfl, l2, hb4, by simp [hSl], hSL.set (by omega), hset, ?_, hE.chg hc4 l2⟩
  rw [iG (by omega)]; exact hcy
end Go.Proofs.Ytppipmkpmmdcjaa
namespace Go.LM
structure KnD (B E u0 u1 u2 ur v1 v2 vr u v : Nat) : Prop where
 hv : v = (v1 * B + v2) * E + vr
 hu : u = ((u0 * B + u1) * B + u2) * E + ur
 hE : 0 < E
 hvr : vr < E
 hur : ur < E
 hv1 : v1 < B
 hv2 : v2 < B
 hu1 : u1 < B
 hu2 : u2 < B
 hlt : u < v * B
 htop : B ≤ 2 * v1
 hB : 2 ≤ B
section
variable {B E u0 u1 u2 ur v1 v2 vr u v : Nat}
theorem KnD.vpos (h : KnD B E u0 u1 u2 ur v1 v2 vr u v) : B * E ≤ v := by
 have h1 : 1 ≤ v1 := by have := h.htop; have := h.hB; omega
 have h2 : 1 * B ≤ v1 * B := Nat.mul_le_mul_right B h1
 have h3 : B * E ≤ (v1 * B + v2) * E := Nat.mul_le_mul_right E (by omega)
 have := h.hv
 omega
theorem KnD.v0 (h : KnD B E u0 u1 u2 ur v1 v2 vr u v) : 0 < v := Nat.lt_of_lt_of_le (Nat.mul_pos (by have := h.hB; omega) h.hE) h.vpos
theorem KnD.qlt (h : KnD B E u0 u1 u2 ur v1 v2 vr u v) : u / v < B := Nat.div_lt_of_lt_mul h.hlt
theorem KnD.u0_le (h : KnD B E u0 u1 u2 ur v1 v2 vr u v) : u0 ≤ v1 := by
 have hlt := h.hlt
 refine Classical.byContradiction fun hc => ?_
 have h1 : (v1 + 1) * B ≤ u0 * B := Nat.mul_le_mul_right B (by omega)
 have h2 : v1 * B + v2 + 1 ≤ u0 * B + u1 := by have h1' := h1; rw [Nat.add_mul, Nat.one_mul] at h1'; have := h.hv2; omega
 have h3 : (v1 * B + v2 + 1) * B ≤ (u0 * B + u1) * B + u2 := Nat.le_trans (Nat.mul_le_mul_right B h2) (Nat.le_add_right _ _)
 have h4 : (v1 * B + v2 + 1) * B * E ≤ u := by
  have := Nat.mul_le_mul_right E h3
  have := h.hu
  omega
 have h5 : v * B ≤ (v1 * B + v2 + 1) * B * E := by
  have : v ≤ (v1 * B + v2 + 1) * E := by rw [h.hv, Nat.succ_mul]; have := h.hvr; omega
  calc v * B ≤ (v1 * B + v2 + 1) * E * B := Nat.mul_le_mul_right B this
   _ = (v1 * B + v2 + 1) * B * E := by rw [Nat.mul_assoc, Nat.mul_comm E B, Nat.mul_assoc]
 omega
theorem KnD.first (h : KnD B E u0 u1 u2 ur v1 v2 vr u v) : u / v ≤ (u0 * B + u1) / v1 ∧ (u0 * B + u1) / v1 ≤ B + 1 := by
 have hv1 : 0 < v1 := by have := h.htop; have := h.hB; omega
 constructor
 ·rw [Nat.le_div_iff_mul_le hv1]
  refine Classical.byContradiction fun hc => ?_
  have h1 : u0 * B + u1 + 1 ≤ u / v * v1 := by omega
  have h2 : (u0 * B + u1 + 1) * B * E ≤ u / v * v1 * B * E := Nat.mul_le_mul_right E (Nat.mul_le_mul_right B h1)
  have h3 : u / v * v1 * B * E ≤ u / v * v := by
   rw [Nat.mul_assoc, Nat.mul_assoc]
   refine Nat.mul_le_mul_left _ ?_
   rw [h.hv, ← Nat.mul_assoc, Nat.add_mul]
   omega
  have h4 : u / v * v ≤ u := Nat.div_mul_le_self u v
  have h5 : u < (u0 * B + u1 + 1) * B * E := by
   have e1 : (u0 * B + u1 + 1) * B * E = (u0 * B + u1) * B * E + B * E := by rw [Nat.add_mul, Nat.one_mul, Nat.add_mul]
   have e2 : u = (u0 * B + u1) * B * E + u2 * E + ur := by rw [h.hu, Nat.add_mul]
   have e3 : (u2 + 1) * E ≤ B * E := Nat.mul_le_mul_right E h.hu2
   have e4 : (u2 + 1) * E = u2 * E + E := by rw [Nat.add_mul, Nat.one_mul]
   have := h.hur
   omega
  omega
 ·have h1 := h.u0_le
  have h2 : u0 * B ≤ v1 * B := Nat.mul_le_mul_right B h1
  refine Nat.le_of_lt_succ ((Nat.div_lt_iff_lt_mul hv1).2 ?_)
  have e : (B + 1 + 1) * v1 = v1 * B + 2 * v1 := by rw [Nat.add_assoc, Nat.add_mul, Nat.mul_comm B v1]
  rw [Nat.succ_eq_add_one, e]
  have := h.htop; have := h.hu1
  omega
theorem KnD.down (h : KnD B E u0 u1 u2 ur v1 v2 vr u v) {g r : Nat} (hg : g * v1 + r = u0 * B + u1) (hq : u / v ≤ g) (hc : B ≤ g ∨ r * B + u2 < g * v2) : u / v + 1 ≤ g := by
 rcases hc with hc | hc
 ·have := h.qlt; omega
 ·refine Classical.byContradiction fun hn => ?_
  have e : g = u / v := by omega
  have h1 : g * v ≤ u := by rw [e]; exact Nat.div_mul_le_self u v
  have h2 : g * (v1 * B + v2) * E ≤ g * v := by rw [Nat.mul_assoc]; exact Nat.mul_le_mul_left _ (by rw [h.hv]; omega)
  have h3 : g * (v1 * B + v2) * E < ((u0 * B + u1) * B + u2 + 1) * E := by
   have := h.hu; have := h.hur
   rw [Nat.add_mul _ 1, Nat.one_mul]; omega
  have h4 : g * (v1 * B + v2) < (u0 * B + u1) * B + u2 + 1 := Nat.lt_of_mul_lt_mul_right h3
  rw [← hg, Nat.mul_add, ← Nat.mul_assoc, Nat.add_mul] at h4
  omega
theorem KnD.done (h : KnD B E u0 u1 u2 ur v1 v2 vr u v) {g r : Nat} (hg : g * v1 + r = u0 * B + u1) (hgB : g ≤ B) (hc : g * v2 ≤ r * B + u2 ∨ B ≤ r) : g ≤ u / v + 1 := by
 have h1 : g * v2 ≤ r * B + u2 := by
  rcases hc with hc | hc
  ·exact hc
  ·have a1 : g * v2 ≤ B * B := Nat.mul_le_mul hgB (Nat.le_of_lt h.hv2)
   have a2 : B * B ≤ r * B := Nat.mul_le_mul_right B hc
   omega
 have h2 : g * (v1 * B + v2) ≤ (u0 * B + u1) * B + u2 := by rw [← hg, Nat.mul_add, ← Nat.mul_assoc, Nat.add_mul]; omega
 have h3 : g * v ≤ u + v := by
  have a1 : g * v = g * (v1 * B + v2) * E + g * vr := by rw [h.hv, Nat.mul_add, ← Nat.mul_assoc]
  have a2 : g * (v1 * B + v2) * E ≤ ((u0 * B + u1) * B + u2) * E := Nat.mul_le_mul_right E h2
  have a3 : g * vr ≤ B * E := Nat.mul_le_mul hgB (Nat.le_of_lt h.hvr)
  have := h.vpos; have := h.hu
  omega
 cases g with
 | zero => exact Nat.zero_le _
 | succ g =>
  have : g * v ≤ u := by rw [Nat.succ_mul] at h3; omega
  have := (Nat.le_div_iff_mul_le h.v0).2 this
  omega
end
end Go.LM
namespace Go.W
section
variable {P : Program} {S : World → Prop} {ops : List Oper} {K : Env → World → Prop} {rest : List (Oper × Option Bool)} {ρ : Env} {w : World} {b : Option Bool} {kf : Bool} {d : Nat} {dst : Option Nat} {T T' : TypeId} {pos : String} {af : Array Edge}
theorem iU {x y : Operand} {k' : IntKind} {m : Nat} {T'' : TypeId} (hx : ev ρ x = .int .u64 (m : Int)) (hy : ev ρ y = .int k' 32) (hm : m < 4294967296)
  (h : RR P S ops K rest (upd ρ d (.int .u64 ((m * 4294967296 : Nat) : Int))) w) : RR P S ops K ((⟨some d, .binOp .shl T' x y T'', T, pos, af, none⟩, b) :: rest) ρ w :=
 me (j := 32) hx hy rfl (by decide) (by
  rw [show (m <<< 32) % 2 ^ IntKind.u64.bits = m * 4294967296 by rw [Nat.shiftLeft_eq]; exact Nat.mod_eq_of_lt (by simp only [IntKind.bits]; omega)]
  exact h)
theorem mB {x y : Operand} {m m' : Nat} {T'' : TypeId} (hx : ev ρ x = .int .u64 ((m * 4294967296 : Nat) : Int)) (hy : ev ρ y = .int .u64 (m' : Int)) (hm : m < 4294967296) (hm' : m' < 4294967296)
  (h : RR P S ops K rest (upd ρ d (.int .u64 ((m * 4294967296 + m' : Nat) : Int))) w) : RR P S ops K ((⟨some d, .binOp .or T' x y T'', T, pos, af, none⟩, b) :: rest) ρ w :=
 m7 hx hy rfl (by simp only [IntKind.bits]; omega) (by simp only [IntKind.bits]; omega) (by
  rw [show (m * 4294967296 ||| m') = m * 4294967296 + m' by
   rw [show m * 4294967296 = m <<< 32 by rw [Nat.shiftLeft_eq], ← Nat.shiftLeft_add_eq_or_of_lt (show m' < 2 ^ 32 by omega)]]
  exact h)
theorem qS {x y : Operand} {m m' : Nat} {T'' : TypeId} (hx : ev ρ x = .int .u64 (m' : Int)) (hy : ev ρ y = .int .u64 ((m * 4294967296 : Nat) : Int)) (hm : m < 4294967296) (hm' : m' < 4294967296)
  (h : RR P S ops K rest (upd ρ d (.int .u64 ((m' + 4294967296 * m : Nat) : Int))) w) : RR P S ops K ((⟨some d, .binOp .or T' x y T'', T, pos, af, none⟩, b) :: rest) ρ w :=
 m7 hx hy rfl (by simp only [IntKind.bits]; omega) (by simp only [IntKind.bits]; omega) (by
  rw [show (m' ||| m * 4294967296) = m' + 4294967296 * m by
   rw [Nat.or_comm, show m * 4294967296 = m <<< 32 by rw [Nat.shiftLeft_eq], ← Nat.shiftLeft_add_eq_or_of_lt (show m' < 2 ^ 32 by omega), Nat.shiftLeft_eq]; omega]
  exact h)
theorem oR {x y : Operand} {m m' : Nat} {T'' : TypeId} (hx : ev ρ x = .int .u64 (m : Int)) (hy : ev ρ y = .int .u64 (m' : Int)) (h0 : 0 < m') (hm : m < 18446744073709551616)
  (h : RR P S ops K rest (upd ρ d (.int .u64 ((m / m' : Nat) : Int))) w) : RR P S ops K ((⟨some d, .binOp .quo T' x y T'', T, pos, af, none⟩, b) :: rest) ρ w :=
 oz hx hy (by omega) (by omega) (by omega) h
theorem oS {x y : Operand} {m m' : Nat} {T'' : TypeId} (hx : ev ρ x = .int .u64 (m : Int)) (hy : ev ρ y = .int .u64 (m' : Int)) (h0 : 0 < m')
  (h : RR P S ops K rest (upd ρ d (.int .u64 ((m % m' : Nat) : Int))) w) : RR P S ops K ((⟨some d, .binOp .rem T' x y T'', T, pos, af, none⟩, b) :: rest) ρ w :=
 m6 hx hy (by omega) (by omega) h
theorem oT {x y : Operand} {m m' : Nat} {T'' : TypeId} (hx : ev ρ x = .int .u64 (m : Int)) (hy : ev ρ y = .int .u64 (m' : Int)) (h1 : m' ≤ m) (hm : m < 18446744073709551616)
  (h : RR P S ops K rest (upd ρ d (.int .u64 ((m - m' : Nat) : Int))) w) : RR P S ops K ((⟨some d, .binOp .sub T' x y T'', T, pos, af, none⟩, b) :: rest) ρ w :=
 ow hx hy (by rw [cW (by omega) (by omega), show (m : Int) - (m' : Int) = ((m - m' : Nat) : Int) by omega]; exact h)
theorem jv {x y : Operand} {m m' : Nat} {T'' : TypeId} (hx : ev ρ x = .int .i64 (m : Int)) (hy : ev ρ y = .int .i64 (m' : Int)) (h1 : m' ≤ m) (h2 : m ≤ 9223372036854775807)
  (h : RR P S ops K rest (upd ρ d (.int .i64 ((m - m' : Nat) : Int))) w) : RR P S ops K ((⟨some d, .binOp .sub T' x y T'', T, pos, af, none⟩, b) :: rest) ρ w :=
 dh hx hy (by omega) (by omega) (by rw [show (m : Int) - (m' : Int) = ((m - m' : Nat) : Int) by omega]; exact h)
theorem oU {x y : Operand} {m m' : Nat} {T'' : TypeId} (hx : ev ρ x = .int .u32 (m : Int)) (hy : ev ρ y = .int .u32 (m' : Int))
  (h : RR P S ops K rest (upd ρ d (.int .u32 (((m + m') % 4294967296 : Nat) : Int))) w) : RR P S ops K ((⟨some d, .binOp .add T' x y T'', T, pos, af, none⟩, b) :: rest) ρ w :=
 ov hx hy (by
  rw [show IntKind.u32.wrap ((m : Int) + (m' : Int)) = (((m + m') % 4294967296 : Nat) : Int) from (cv rfl).trans (by simp [IntKind.bits])]
  exact h)
end
end Go.W
namespace Go.LM
theorem oV {L S H : List Nat} {i : Nat} (h : i < S.length) : (L ++ S ++ H).getD (L.length + i) 0 = S.getD i 0 := by
 simp [List.getD_eq_getElem?_getD, List.getElem?_append, h]
 rw [if_neg (by omega)]; rfl
theorem qe {L S H : List Nat} {i v : Nat} (h : i < S.length) : (L ++ S ++ H).set (L.length + i) v = L ++ S.set i v ++ H := by
 rw [List.append_assoc, List.set_append_right _ _ (by omega), List.set_append_left _ _ (by omega), ← List.append_assoc]
 simp
def tk (A B : List Nat) (i : Nat) : List Nat := A.take i ++ B.drop i
theorem qT {A B : List Nat} {i : Nat} (h : A.length = B.length) (hi : i ≤ B.length) : (tk A B i).length = B.length := by simp [tk]; omega
theorem qf {A B : List Nat} {i k : Nat} (h : A.length = B.length) (hi : i ≤ k) (hk : k < B.length) : (tk A B i).getD k 0 = B.getD k 0 := by
 unfold tk
 rw [List.getD_eq_getElem?_getD, List.getElem?_append_right (by simp; omega), List.getElem?_drop, List.getD_eq_getElem?_getD]
 simp only [List.length_take]
 rw [show i + (k - min i A.length) = k by omega]
theorem qU {A B : List Nat} {i : Nat} (h : A.length = B.length) (hi : i < B.length) : (tk A B i).set i (A.getD i 0) = tk A B (i + 1) := by
 unfold tk
 have hl : (A.take i).length = i := by simp; omega
 rw [List.set_append_right _ _ (by omega), hl, Nat.sub_self, cF (by omega), List.append_assoc, List.drop_eq_getElem_cons hi]
 rfl
theorem qV {A B : List Nat} (h : A.length = B.length) : tk A B B.length = A := by unfold tk; rw [← h, List.take_length, h]; simp
theorem qg {A B : List Nat} : tk A B 0 = B := by simp [tk]
theorem qW {S V : List Nat} {n : Nat} (hS : S.length = n + 1) (hV : V.length = n) (hn : 2 ≤ n) (lS : Lim S) (lV : Lim V) (top : 2147483648 ≤ V.getD (n - 1) 0) (hlt : natOf S < natOf V * 4294967296) :
  KnD 4294967296 (4294967296 ^ (n - 2)) (S.getD n 0) (S.getD (n - 1) 0) (S.getD (n - 2) 0) (natOf (S.take (n - 2))) (V.getD (n - 1) 0) (V.getD (n - 2) 0) (natOf (V.take (n - 2))) (natOf S) (natOf V) := by
 obtain ⟨m, rfl⟩ : ∃ m, n = m + 2 := ⟨n - 2, by omega⟩
 simp only [Nat.add_sub_cancel, show m + 2 - 1 = m + 1 by omega] at *
 have tl : ∀ {X : List Nat} {k : Nat}, Lim X → natOf (X.take k) < 4294967296 ^ k := fun {X k} h => by
  have := b9 (h.take k)
  refine Nat.lt_of_lt_of_le this (Nat.pow_le_pow_right (by decide) ?_)
  simp; omega
 have p1 : 4294967296 ^ (m + 1) = 4294967296 ^ m * 4294967296 := Nat.pow_succ _ _
 have p2 : 4294967296 ^ (m + 2) = 4294967296 ^ m * 4294967296 * 4294967296 := by rw [show m + 2 = m + 1 + 1 by omega, Nat.pow_succ, p1]
 have hs : natOf S = natOf (S.take m) + S.getD m 0 * 4294967296 ^ m + S.getD (m + 1) 0 * 4294967296 ^ (m + 1) + S.getD (m + 2) 0 * 4294967296 ^ (m + 2) := by
  have : natOf S = natOf (S.take (m + 3)) := by rw [List.take_of_length_le (by omega)]
  rw [this, bU (by omega), bU (by omega), bU (by omega)]
 have hv : natOf V = natOf (V.take m) + V.getD m 0 * 4294967296 ^ m + V.getD (m + 1) 0 * 4294967296 ^ (m + 1) := by
  have : natOf V = natOf (V.take (m + 2)) := by rw [List.take_of_length_le (by omega)]
  rw [this, bU (by omega), bU (by omega)]
 refine ⟨?_, ?_, Nat.pow_pos (by decide), tl lV, tl lS, lV.getD _, lV.getD _, lS.getD _, lS.getD _, hlt, by omega, by decide⟩
 ·rw [hv, p1]; generalize 4294967296 ^ m = E; grind
 ·rw [hs, p1, p2]; generalize 4294967296 ^ m = E; grind
theorem mC {a b d P : Nat} (ha : a < P) (hb : b < P) (h : a + d * P = b + P) : a = b := by
 have hd : d = 1 := by
  rcases Nat.lt_trichotomy d 1 with h1 | h1 | h1
  ·have : d = 0 := by omega
   subst this; omega
  ·exact h1
  ·have : 2 * P ≤ d * P := Nat.mul_le_mul_right P h1
   omega
 subst hd
 omega
end Go.LM
namespace Go.Proofs.Ytppipmkpmmdcjaa
open Go.W Go.LM
section
variable {P : Program} {S0 : World → Prop} {ops : List Oper} {K : Env → World → Prop} {rest : List (Oper × Option Bool)} {ρ : Env} {w : World} {b : Option Bool} {kf : Bool} {d : Nat} {T : TypeId} {pos : String} {af : Array Edge}
theorem eT {x : Operand} {T1 : TypeId} {g j Tb : Nat} {L S H : List Nat} [Scal P T1] (hx : ev ρ x = .pointer (some (elt (some ⟨g, L.length, none⟩) j))) (hs : Rd b S0 w fun w' => Blk w' g Tb (limbsL (L ++ S ++ H)))
  (hj : j < S.length) (h : RR P S0 ops K rest (upd ρ d (.int .u32 ((S.getD j 0 : Nat) : Int))) w) : RR P S0 ops K ((⟨some d, .load T1 x, T, pos, af, none⟩, b) :: rest) ρ w :=
 kY (o := L.length) (j := j) (xs := L ++ S ++ H) hx hs (by simp; omega) (by rw [oV hj]; exact h)
theorem gz {x y : Operand} {T1 : TypeId} {g j Tb u : Nat} {L S H : List Nat} [hT : Scal P T1] (hx : ev ρ x = .pointer (some (elt (some ⟨g, L.length, none⟩) j))) (hy : ev ρ y = .int .u32 (u : Int))
  (hb : Blk w g Tb (limbsL (L ++ S ++ H))) (hj : j < S.length) (h : ∀ w', Chg g w w' → Blk w' g Tb (limbsL (L ++ S.set j u ++ H)) → (kf = true → S0 w → S0 w') ∧ RR P S0 ops K rest ρ w') :
  RR P S0 ops K ((⟨none, .store T1 x y, T, pos, af, none⟩, some kf) :: rest) ρ w :=
 jX (o := L.length) (j := j) (xs := L ++ S ++ H) hx hy hb (by simp; omega) (by rw [qe hj]; exact h)
end
set_option maxHeartbeats 2000000 in
theorem iN {ls : List Nat} {g c s : Nat} {w : World} (hb : Blk w g 49 (limbsL ls)) (hl : Lim ls) (hs : s ≤ 31) (hlen : ls.length ≤ 17592186044417) :
  CallsR Try.prog 80 #[.slice (some ⟨g, 0, none⟩) ls.length c, .int .i64 (s : Int)] w fun _ w' => Chg g w w' ∧ Blk w' g 49 (limbsL (shrL s ls)) := by
 have hsl := jr s ls
 refine aJ (args := [_, _]) Try.func80 rfl rfl ?_
 repeat' (first|refine ai rfl ?_|refine aa ?_|refine ao ?_|refine ah rfl ?_|refine ae ?_|refine bn rfl ?_|refine aC ?_)
 refine bh (ι := Nat) [4, 5, 8, 9, 10, 11, 12, 13, 14, 15, 16, 17, 18, 19, 20, 21, 22, 23, 24, 25, 26, 27, 28, 29, 30, 31, 32, 33, 34, 35, 36, 37] (fun i => [(8, .int .i64 (i : Int))])
  (fun i w' => i ≤ ls.length ∧ Chg g w w' ∧ Blk w' g 49 (limbsL (tk (shrL s ls) ls i))) (fun i => ls.length - i)
  0 ⟨rfl, trivial⟩ ⟨by simp, Chg.refl _ _, by rw [qg]; exact hb⟩ ?_
 rintro i ξ w3 ⟨hi, hC, hbk⟩
 have htl := qT hsl hi
 have hx := hl.getD i
 have hy := hl.getD (i + 1)
 have hset : ∀ {v : Nat} (hil : i < ls.length), v = (shrL s ls).getD i 0 → (tk (shrL s ls) ls i).set i v = tk (shrL s ls) ls (i + 1) := fun hil hv => by rw [hv]; exact qU hsl hil
 have hget := j5 s ls i
 repeat' (first|refine aB rfl rfl ⟨_, _, rfl⟩ (by omega) ?_|refine bO rfl hbk.sl (by omega) ?_|((rw [qf hsl (by omega) (by omega)]))|refine ip rfl (by assumption) ?_|refine iU rfl rfl (by assumption) ?_|refine qS rfl rfl (by assumption) (by assumption) ?_|refine fF (m := i) (m' := 1) rfl rfl (by omega) ?_|(refine gi (j := s) rfl rfl (.inr (by simp only [IntKind.bits]; omega)) ?_)|refine dB rfl ?_|refine dK rfl rfl hbk (by omega) (fun w4 hc4 hb4 => ⟨fun _ _ => trivial, ?_⟩)|refine ai rfl ?_|refine aa ?_|refine ao ?_|refine ah rfl ?_|refine ae ?_|refine bn rfl ?_|refine aR rfl (fun hc => ?_) (fun hc => ?_)|refine aC ?_|refine aW ?_|refine aO ?_|refine aX ?_|refine aM ?_|refine aI ?_)
 ·rw [hset (by omega) (by rw [hget (by omega), Nat.shiftRight_eq_div_pow])] at hb4
  exact ⟨⟨i + 1, ⟨by omega, hC.trans hc4, hb4⟩, by omega, rfl, trivial⟩, (by (repeat (first|exact aF _ _ _|refine ay rfl ?_|refine av rfl ?_|refine aj rfl ?_|refine ak rfl ?_)))⟩
 ·rw [hset (by omega) (by rw [hget (by omega), Nat.shiftRight_eq_div_pow, show ls.getD (i + 1) 0 = 0 by rw [List.getD_eq_getElem?_getD, List.getElem?_eq_none (by omega)]; rfl, Nat.mul_zero, Nat.add_zero])] at hb4
  exact ⟨⟨i + 1, ⟨by omega, hC.trans hc4, hb4⟩, by omega, rfl, trivial⟩, (by (repeat (first|exact aF _ _ _|refine ay rfl ?_|refine av rfl ?_|refine aj rfl ?_|refine ak rfl ?_)))⟩
 ·obtain rfl : i = ls.length := by omega
  rw [qV hsl] at hbk
  exact im rfl ⟨hC, hbk⟩
end Go.Proofs.Ytppipmkpmmdcjaa
namespace Go.Proofs.Ytppipmkpmmdcjaa
open Go.W Go.LM
theorem ln {w : World} {lo n cap : Nat} {a : Option Addr} {xs : List Nat} {j u : Nat} {T0 s0 : Nat} (h : Own w lo T0 s0 a n cap ((limbsL xs).set j (.int .u32 (u : Int)))) : Own w lo T0 s0 a n cap (limbsL (xs.set j u)) := by
 unfold limbsL at *
 rw [List.map_set]; exact h
set_option maxHeartbeats 2000000 in
theorem gV {ls : List Nat} {g cap lo b : Nat} {w : World} (ho : Own w lo 49 1 (some ⟨g, 0, none⟩) ls.length cap (limbsL ls)) (hl : Lim ls) (hb0 : 0 < b) (hb : b < 4294967296) (hlen : ls.length ≤ 17592186044416) :
  CallsR Try.prog 76 #[.slice (some ⟨g, 0, none⟩) ls.length cap, .int .u32 (b : Int)] w fun v w' => ∃ L, v = .int .u32 ((natOf ls % b : Nat) : Int) ∧ Chg g w w' ∧ Own w' lo 49 1 (some ⟨g, 0, none⟩) ls.length cap (limbsL L) ∧ Lim L ∧ L.length = ls.length ∧ natOf L = natOf ls / b := by
 refine aJ (args := [_, _]) Try.func76 rfl rfl ?_
 repeat' (first|refine ai rfl ?_|refine aa ?_|refine ao ?_|refine ah rfl ?_|refine ae ?_|refine bn rfl ?_|refine dh rfl rfl (by omega) (by omega) ?_|refine aC ?_)
 refine bh (ι := Nat × Nat × List Nat) [5, 6, 10, 11, 12, 13, 14, 15, 16, 17, 18, 19, 20, 21, 22, 23, 24, 25, 26, 27, 28, 29, 30, 31, 32, 33] (fun s => [(6, .int .i64 ((s.1 : Int) - 1)), (5, .int .u64 (s.2.1 : Int))])
  (fun s w' => s.1 ≤ ls.length ∧ Chg g w w' ∧ Own w' lo 49 1 (some ⟨g, 0, none⟩) ls.length cap (limbsL s.2.2) ∧ Lim s.2.2 ∧ s.2.2.length = ls.length ∧ s.2.1 < b ∧ b * natOf (s.2.2.drop s.1) + s.2.1 = natOf (ls.drop s.1) ∧ ∀ j, j < s.1 → s.2.2.getD j 0 = ls.getD j 0) (fun s => s.1)
  (ls.length, 0, ls) ⟨rfl, rfl, trivial⟩ ⟨by simp, Chg.refl _ _, ho, hl, rfl, hb0, by simp [natOf], fun _ _ => rfl⟩ ?_
 rintro ⟨k, r, L⟩ ξ w1 ⟨hk, hC, hO, hL, hLl, hr, hN, hz⟩
 simp only at hk hO hL hLl hr hN hz
 show CW _ _ _ _ (over [(6, .int .i64 ((k : Int) - 1)), (5, .int .u64 (r : Int))] _) w1
 have hr2 : r < 4294967296 := by omega
 have hm := hL.getD (k - 1)
 have hq : (r * 4294967296 + L.getD (k - 1) 0) / b < 4294967296 := (Nat.div_lt_iff_lt_mul hb0).2 (by
  have : (r + 1) * 4294967296 ≤ b * 4294967296 := Nat.mul_le_mul_right _ hr
  rw [Nat.mul_comm 4294967296 b]; omega)
 repeat' (first|refine ai rfl ?_|refine aa ?_|refine ao ?_|refine ah rfl ?_|refine ae ?_|refine aR rfl (fun hc => ?_) (fun hc => ?_)|refine aC ?_|refine aW ?_|refine aO ?_|refine aX ?_|refine aI ?_)
 ·obtain ⟨i, rfl⟩ : ∃ i, k = i + 1 := ⟨k - 1, by omega⟩
  rw [show ((i + 1 : Nat) : Int) - 1 = (i : Int) by omega] at *
  rw [Nat.add_sub_cancel] at hm hq
  repeat' (first|refine iU rfl rfl (by assumption) ?_|refine aB (j := i) rfl rfl ⟨_, _, rfl⟩ (by omega) ?_|refine bO rfl hO.sl (by omega) ?_|refine ip rfl (by assumption) ?_|refine mB rfl rfl (by assumption) (by assumption) ?_|refine oR rfl rfl hb0 (by omega) ?_|refine oS rfl rfl hb0 ?_|refine dB rfl ?_|(refine mf rfl rfl rfl hO (by simp; omega) (fun g' w4 hg' hlo hc4 hb4 => ⟨fun _ _ => trivial, ?_⟩))|refine ai rfl ?_|refine aa ?_|refine ao ?_|refine ah rfl ?_|refine ae ?_|refine dh rfl rfl (by omega) (by omega) ?_|refine aM ?_)
  cases hg'
  rw [Nat.mod_eq_of_lt hq] at hb4
  have hr4 : (r * 4294967296 + L.getD i 0) % b < b := Nat.mod_lt _ hb0
  refine ⟨⟨(i, (r * 4294967296 + L.getD i 0) % b, L.set i ((r * 4294967296 + L.getD i 0) / b)), ⟨by simp only; omega, hC.trans hc4, ln hb4, hL.set hq, by simp [hLl], hr4, ?_, ?_⟩, by simp only; omega, ?_, rfl, trivial⟩, (by (repeat (first|exact aF _ _ _|refine ay rfl ?_|refine av rfl ?_|refine aj rfl ?_|refine ak rfl ?_)))⟩
  ·simp only
   rw [fq (l := L.set i _) (by simp; omega), iG (by omega), ll (by omega), fq (l := ls) (by omega), ← hz i (by omega)]
   exact nN (_q := 0) hN hb0
  ·intro j hj
   simp only at hj ⊢
   rw [ct (by omega)]; exact hz j (by omega)
  ·rfl
 ·obtain rfl : k = 0 := by omega
  simp only [List.drop_zero] at hN
  repeat' (first|refine dB rfl ?_|refine ai rfl ?_|refine aa ?_|refine ae ?_|refine aT ?_)
  refine bF rfl (rt rfl) ⟨L, ?_, hC, hO, hL, hLl, ?_⟩
  ·show Value.int .u32 _ = _
   rw [Nat.mod_eq_of_lt (by omega), ← hN, Nat.mul_add_mod, Nat.mod_eq_of_lt hr]
  ·rw [← hN, Nat.mul_add_div hb0, Nat.div_eq_of_lt hr, Nat.add_zero]
set_option maxHeartbeats 4000000 in
theorem iO {L S H V : List Nat} {g c n vc : Nat} {va : Option Addr} {w : World} (hb : Blk w g 49 (limbsL (L ++ S ++ H))) (hSl : S.length = n + 1) (lS : Lim S) (hV : Limbs w va vc V) (hVl : V.length = n) (hn : 2 ≤ n)
  (top : 2147483648 ≤ V.getD (n - 1) 0) (hlt : natOf S < natOf V * 4294967296) (hne : ∀ ad, va = some ad → ad.block ≠ g) :
  CallsR Try.prog 79 #[.slice (some ⟨g, L.length, none⟩) (n + 1) c, .slice va n vc] w fun v w' => ∃ S', v = .int .u32 ((natOf S / natOf V : Nat) : Int) ∧ Chg g w w' ∧ Blk w' g 49 (limbsL (L ++ S' ++ H)) ∧ S'.length = n + 1 ∧ Lim S' ∧ natOf S' = natOf S % natOf V := by
 have hK := qW hSl hVl hn lS hV.lim top hlt
 have hnl := hV.len
 rw [hVl] at hnl
 have hv0 : 0 < natOf V := hK.v0
 have u0 := lS.getD n
 have u1 := lS.getD (n - 1)
 have u2 := lS.getD (n - 2)
 have v1 := hV.lim.getD (n - 1)
 have v2 := hV.lim.getD (n - 2)
 have hf := hK.first
 have hq := hK.qlt
 have dn := fun {gs r} => hK.down (g := gs) (r := r)
 have de := fun {gs r} => hK.done (g := gs) (r := r)
 generalize hx1 : V.getD (n - 1) 0 = x1 at *
 generalize hx2 : V.getD (n - 2) 0 = x2 at *
 generalize hy0 : S.getD n 0 = y0 at *
 generalize hy1 : S.getD (n - 1) 0 = y1 at *
 generalize hy2 : S.getD (n - 2) 0 = y2 at *
 clear hK
 generalize hqd : natOf S / natOf V = q at *
 have hx0 : 0 < x1 := by omega
 have hVp : W.plain va := hV.sl.plain (by simp; omega)
 refine aJ (args := [_, _]) Try.func79 rfl rfl ?_
 repeat' (first|refine ai rfl ?_|refine aa ?_|refine ao ?_|refine ah rfl ?_|refine ae ?_|refine bn rfl ?_)
 refine aZ (late := []) (plan := [(0, none), (1, none), (2, none), (3, none), (4, none), (5, none), (6, none), (7, none), (8, none), (9, none), (10, none), (11, none), (12, none), (13, none)]) (fun w' => Chg g w w' ∧ Blk w' g 49 (limbsL (L ++ S ++ H))) bt (by kernel_rfl) ⟨(Chg.refl g w).drew, hb.drew⟩ ?_
 repeat' (first|refine jv (m := n) (m' := 1) rfl rfl (by omega) (by omega) ?_|refine aB rfl rfl ⟨_, _, rfl⟩ (by omega) ?_|refine eT rfl (fun _ h => h.2) (by omega) ?_|(rw [hy0])|(rw [hy1])|refine ip rfl (by assumption) ?_|refine iU rfl rfl (by assumption) ?_|refine mB rfl rfl (by assumption) (by assumption) ?_|refine ai rfl ?_|refine aa ?_|refine ao ?_|refine ae ?_)
 refine aZ (late := []) (plan := [(0, none), (1, none), (2, none), (3, none), (4, none), (5, none), (6, none), (7, none), (8, none), (9, none), (10, none), (11, none), (12, none), (13, none), (14, none), (15, none), (16, none), (17, none)]) (fun w' => Chg g w w') bt (by kernel_rfl) ((Chg.refl g w).drew.drew) ?_
 repeat' (first|refine jv (m := n) (m' := 1) rfl rfl (by omega) (by omega) ?_|refine aB rfl rfl hVp (by omega) ?_|refine bO rfl (fun _ h => (hV.chg h hne).sl) (by omega) ?_|(rw [hx1])|refine ip rfl (by assumption) ?_|refine oR rfl rfl hx0 (by omega) ?_|refine oS rfl rfl hx0 ?_|refine ai rfl ?_|refine aa ?_|refine ao ?_|refine ae ?_)
 refine cz (ι := Nat × Nat) [7, 8, 46, 47, 48, 49, 50, 51, 52, 53, 54, 55, 56, 57, 58, 59, 60, 61, 62, 63, 64, 65, 66, 67, 68, 69, 70, 71, 72, 73, 74, 75, 76, 77, 78, 79, 80, 81] (fun s => [(7, .int .u64 (s.1 : Int)), (8, .int .u64 (s.2 : Int))])
  (fun s w' => Chg g w w' ∧ Blk w' g 49 (limbsL (L ++ S ++ H)) ∧ q ≤ s.1 ∧ s.1 ≤ q + 1) ?_ ?_
 ·have hmod := Nat.mod_lt (y0 * 4294967296 + y1) hx0
  refine aC ?_
  refine bh (ι := Nat × Nat) [7, 8, 46, 47, 48, 49, 50, 51, 52, 53, 54, 55, 56, 57, 58, 59, 60, 61, 62, 63, 64, 65, 66, 67, 68, 69, 70, 71, 72, 73, 74, 75, 76, 77, 78, 79, 80, 81] (fun s => [(7, .int .u64 (s.1 : Int)), (8, .int .u64 (s.2 : Int))])
   (fun s w' => Chg g w w' ∧ Blk w' g 49 (limbsL (L ++ S ++ H)) ∧ q ≤ s.1 ∧ s.1 ≤ 4294967297 ∧ s.2 < 4294967296 ∧ s.1 * x1 + s.2 = y0 * 4294967296 + y1) (fun s => s.1)
   ((y0 * 4294967296 + y1) / x1, (y0 * 4294967296 + y1) % x1) ⟨rfl, rfl, trivial⟩ ⟨(Chg.refl g w).drew.drew, hb, hf.1, hf.2, by simp only; omega, by simp only; rw [Nat.mul_comm]; exact Nat.div_add_mod _ _⟩ ?_
  rintro ⟨gs, r⟩ ξ w1 ⟨hC, hbk, h1, h2, h3, h4⟩
  simp only at h1 h2 h3 h4
  show CW _ _ _ _ (over [(7, .int .u64 (gs : Int)), (8, .int .u64 (r : Int))] _) w1
  have hmul : gs < 4294967296 → gs * x2 < 18446744073709551616 := fun h => by
   have : gs * x2 ≤ 4294967295 * 4294967295 := Nat.mul_le_mul (by omega) (by omega)
   omega
  have hC1 := hC.drew
  repeat refine ao ?_
  refine aZ (late := []) (plan := [(0, none), (1, none), (2, none), (3, none), (4, none), (5, none), (6, none), (7, none), (8, none), (9, none), (10, none), (11, none), (12, none), (13, none), (14, none), (15, none), (16, none), (17, none), (18, none), (19, none), (20, none), (21, none), (22, none)]) (fun w' => Chg g w w' ∧ Blk w' g 49 (limbsL (L ++ S ++ H))) bt (by kernel_rfl) ⟨hC.drew, hbk.drew⟩ ?_
  have hVc := hV.chg hC1 hne
  have go : (4294967296 ≤ gs ∨ r * 4294967296 + y2 < gs * x2) → q + 1 ≤ gs := fun h => dn h4 h1 h
  have stp : ∀ {r'}, (gs - 1) * x1 + r' = y0 * 4294967296 + y1 → 4294967296 ≤ r' → gs - 1 ≤ q + 1 := fun h h' => de h (by omega) (.inr h')
  have h5 : 0 < gs → (gs - 1) * x1 + (r + x1) = y0 * 4294967296 + y1 := fun h => by
   obtain ⟨m, rfl⟩ : ∃ m, gs = m + 1 := ⟨gs - 1, by omega⟩
   rw [← h4, Nat.add_sub_cancel, Nat.succ_mul]; omega
  repeat' (first|refine eh rfl rfl ?_|refine jv (m := n) (m' := 2) rfl rfl (by omega) (by omega) ?_|refine jv (m := n) (m' := 1) rfl rfl (by omega) (by omega) ?_|refine aB rfl rfl hVp (by omega) ?_|refine aB rfl rfl ⟨_, _, rfl⟩ (by omega) ?_|refine eT rfl (fun _ h => h.2) (by omega) ?_|refine bO rfl (fun _ h => (hV.chg h.1 hne).sl) (by omega) ?_|refine bO rfl hVc.sl (by omega) ?_|(rw [hx1])|(rw [hx2])|(rw [hy2])|refine ip rfl (by assumption) ?_|refine mj rfl rfl (hmul (by omega)) ?_|refine iU rfl rfl (by assumption) ?_|refine mB rfl rfl (by assumption) (by assumption) ?_|(refine oT (m' := 1) rfl rfl (Nat.le_trans (Nat.le_add_left 1 _) (by (first|exact go (.inr (Int.ofNat_lt.1 (by assumption)))|exact go (.inl (by omega))))) (by omega) ?_)|refine io rfl rfl (by omega) ?_|refine ai rfl ?_|refine aa ?_|refine ao ?_|refine ah rfl ?_|refine ae ?_|refine bB rfl rfl ?_|refine bS rfl rfl ?_|refine ko rfl rfl (fun hc => ?_) (fun hc => ?_)|refine aE rfl ?_|refine aR rfl (fun hc => ?_) (fun hc => ?_)|refine aC ?_|refine aW ?_|refine aO ?_|refine aX ?_|refine e8 rfl ?_|refine aM ?_|refine aI ?_)
  all_goals first
   | (refine ⟨⟨(gs, r), ⟨hC1, hbk, h1, de h4 (by omega) (.inl (by first|omega|exact Nat.le_of_not_lt (fun h => absurd (Int.ofNat_lt.2 h) (by assumption))))⟩, rfl, rfl, trivial⟩, (by (repeat (first|exact aG _ _|refine ay rfl ?_|refine av rfl ?_|refine aj rfl ?_|refine ak rfl ?_)))⟩; done)
   | (have hg : q + 1 ≤ gs := by (first|exact go (.inr (Int.ofNat_lt.1 (by assumption)))|exact go (.inl (by omega)))
      refine ⟨⟨(gs - 1, r + x1), ⟨hC1, hbk, by simp only; omega, stp (h5 (by omega)) (by omega)⟩, rfl, rfl, trivial⟩, (by (repeat (first|exact aG _ _|refine ay rfl ?_|refine av rfl ?_|refine aj rfl ?_|refine ak rfl ?_)))⟩; done)
   | (have hg : q + 1 ≤ gs := by (first|exact go (.inr (Int.ofNat_lt.1 (by assumption)))|exact go (.inl (by omega)))
      refine ⟨⟨(gs - 1, r + x1), ⟨hC1, hbk, by simp only; omega, by simp only; omega, by simp only; omega, h5 (by omega)⟩, by simp only; omega, rfl, rfl, trivial⟩, (by (repeat (first|exact aF _ _ _|refine ay rfl ?_|refine av rfl ?_|refine aj rfl ?_|refine ak rfl ?_)))⟩; done)
   | (have hg : q + 1 ≤ gs := by (first|exact go (.inr (Int.ofNat_lt.1 (by assumption)))|exact go (.inl (by omega)))
      refine ⟨⟨(gs - 1, r + x1), ⟨hC1, hbk, by simp only; omega, stp (h5 (by omega)) (by omega)⟩, rfl, rfl, trivial⟩, (by (repeat (first|exact aG _ _|refine ay rfl ?_|refine av rfl ?_|refine aj rfl ?_|refine ak rfl ?_)))⟩; done)
 clear dn de hf
 rintro ⟨gs, r⟩ ξ w1 ⟨hC, hbk, h1, h2⟩
 simp only at hC hbk h1 h2
 show CW _ _ _ _ (over [(7, .int .u64 (gs : Int)), (8, .int .u64 (r : Int))] _) w1
 clear hb
 have hgB : gs ≤ 4294967296 := by omega
 repeat' (first|refine ai rfl ?_|refine aa ?_|refine ao ?_|refine ah rfl ?_|refine ae ?_|refine aC ?_)
 refine bh (ι := Nat × Nat × Nat × Nat × List Nat) [9, 10, 11, 12, 83, 84, 85, 86, 87, 88, 89, 90, 91, 92, 93, 94, 95, 96, 97, 98, 99, 100, 101, 102, 103, 104, 105, 106, 107, 108, 109, 110, 111, 112, 113, 114, 115] (fun s => [(83, .int .i64 (s.1 : Int)), (9, .int .u64 (s.2.1 : Int)), (10, .int .u64 (s.2.2.1 : Int))])
  (fun s w' => s.1 ≤ n ∧ Chg g w w' ∧ Blk w' g 49 (limbsL (L ++ s.2.2.2.2 ++ H)) ∧ s.2.2.2.2.length = n + 1 ∧ Lim s.2.2.2.2 ∧ s.2.1 < 4294967296 ∧ s.2.2.1 ≤ 1 ∧ natOf s.2.2.2.2 + s.2.2.2.1 = natOf S + s.2.2.1 * 4294967296 ^ s.1 ∧ s.2.2.2.1 + s.2.1 * 4294967296 ^ s.1 = gs * natOf (V.take s.1)) (fun s => n - s.1)
  (0, 0, 0, 0, S) ⟨rfl, rfl, rfl, trivial⟩ ⟨by simp, hC, hbk, hSl, lS, by simp, by simp, by simp, by simp [natOf]⟩ ?_
 clear hC hbk
 rintro ⟨i, cy, br, M, U⟩ ξ2 w2 ⟨hi, hC, hbk, hUl, hUL, hcy, hbr, hN, hM⟩
 simp only at hi hC hbk hUl hUL hcy hbr hN hM
 show CW _ _ _ _ (over [(83, .int .i64 (i : Int)), (9, .int .u64 (cy : Int)), (10, .int .u64 (br : Int))] _) w2
 have hvi := hV.lim.getD i
 have hui := hUL.getD i
 have hun := hUL.getD n
 have hVc := hV.chg hC hne
 have hgv : gs * V.getD i 0 ≤ 4294967296 * 4294967295 := Nat.mul_le_mul hgB (by omega)
 repeat' (first|refine aB rfl rfl hVp (by omega) ?_|refine bO rfl hVc.sl (by omega) ?_|(refine ip rfl (by first|assumption | omega) ?_)|refine mj rfl rfl (by omega) ?_|refine io rfl rfl (by omega) ?_|refine aB rfl rfl ⟨_, _, rfl⟩ (by omega) ?_|refine eT rfl hbk (by omega) ?_|refine dB rfl ?_|refine oP rfl rfl (by omega) ?_|refine gz rfl rfl hbk (by omega) (fun w4 hc4 hb4 => ⟨fun _ _ => trivial, ?_⟩)|refine eh rfl rfl ?_|refine gi (j := 63) rfl rfl (.inl rfl) ?_|refine ai rfl ?_|refine aa ?_|refine ao ?_|refine ah rfl ?_|refine ae ?_|refine bi rfl rfl (by omega) (by omega) ?_|refine aR rfl (fun hc => ?_) (fun hc => ?_)|refine aC ?_|refine aW ?_|refine aO ?_|refine aX ?_|refine aM ?_|refine aT ?_|refine bw ?_|refine aI ?_)
 ·rw [Nat.shiftRight_eq_div_pow]
  have hst := j3 (x := (cy + gs * V.getD i 0) % 4294967296) (show i < U.length by omega) hN
  have hdm := Nat.mod_add_div (cy + gs * V.getD i 0) 4294967296
  have hM2 : M + (cy + gs * V.getD i 0) % 4294967296 * 4294967296 ^ i + (cy + gs * V.getD i 0) / 4294967296 * 4294967296 ^ (i + 1) = gs * natOf (V.take (i + 1)) := by
   rw [bX, Nat.mul_add, ← hM, dl]
   generalize (cy + gs * V.getD i 0) % 4294967296 = lo at *
   generalize (cy + gs * V.getD i 0) / 4294967296 = hi' at *
   generalize 4294967296 ^ i = E at *
   have e : (lo + 4294967296 * hi') * E = (cy + gs * V.getD i 0) * E := by rw [hdm]
   grind
  have hlo : (cy + gs * V.getD i 0) % 4294967296 < 4294967296 := Nat.mod_lt _ (by decide)
  have hcy2 : (cy + gs * V.getD i 0) / 4294967296 < 4294967296 := by omega
  generalize (cy + gs * V.getD i 0) % 4294967296 = lo at *
  rcases Nat.lt_or_ge (U.getD i 0) (lo + br) with hlt2 | hge2
  ·have e1 : (18446744073709551616 + (18446744073709551616 + U.getD i 0 - lo) % 18446744073709551616 - br) % 18446744073709551616 % 4294967296 = 4294967296 + U.getD i 0 - (lo + br) := by omega
   have e2 : (18446744073709551616 + (18446744073709551616 + U.getD i 0 - lo) % 18446744073709551616 - br) % 18446744073709551616 / 2 ^ 63 = 1 := by omega
   rw [e1] at hb4
   rw [e2]
   exact ⟨⟨(i + 1, _, 1, M + lo * 4294967296 ^ i, U.set i (4294967296 + U.getD i 0 - (lo + br))), ⟨by simp only; omega, hC.trans hc4, hb4, by simp [hUl], hUL.set (by omega), hcy2, by simp, hst.2 (by omega), hM2⟩, by simp only; omega, rfl, rfl, rfl, trivial⟩, (by (repeat (first|exact aF _ _ _|refine ay rfl ?_|refine av rfl ?_|refine aj rfl ?_|refine ak rfl ?_)))⟩
  ·have e1 : (18446744073709551616 + (18446744073709551616 + U.getD i 0 - lo) % 18446744073709551616 - br) % 18446744073709551616 % 4294967296 = U.getD i 0 - (lo + br) := by omega
   have e2 : (18446744073709551616 + (18446744073709551616 + U.getD i 0 - lo) % 18446744073709551616 - br) % 18446744073709551616 / 2 ^ 63 = 0 := by omega
   rw [e1] at hb4
   rw [e2]
   exact ⟨⟨(i + 1, _, 0, M + lo * 4294967296 ^ i, U.set i (U.getD i 0 - (lo + br))), ⟨by simp only; omega, hC.trans hc4, hb4, by simp [hUl], hUL.set (by omega), hcy2, by simp, by simp only; rw [hst.1 (by omega), Nat.zero_mul, Nat.add_zero], hM2⟩, by simp only; omega, rfl, rfl, rfl, trivial⟩, (by (repeat (first|exact aF _ _ _|refine ay rfl ?_|refine av rfl ?_|refine aj rfl ?_|refine ak rfl ?_)))⟩
 all_goals (
  obtain rfl : i = n := by omega
  rw [Nat.shiftRight_eq_div_pow] at *
  rw [cf (by omega)] at hM
  have hst := j3 (x := cy) (show i < U.length by omega) hN
  rw [hM] at hst)
 ·have hle : cy + br ≤ U.getD i 0 := by omega
  have e1 : (18446744073709551616 + (18446744073709551616 + U.getD i 0 - cy) % 18446744073709551616 - br) % 18446744073709551616 % 4294967296 = U.getD i 0 - (cy + br) := by omega
  rw [e1] at hb4
  have hfin := hst.1 hle
  have hg1 : gs ≤ q := by rw [← hqd]; exact (Nat.le_div_iff_mul_le hv0).2 (by omega)
  have hgq : gs = q := by omega
  subst hgq
  refine bF rfl (rt rfl) ⟨_, ?_, hC.trans hc4, hb4, by simp [hUl], hUL.set (by omega), ?_⟩
  ·show Value.int .u32 _ = _
   rw [Nat.mod_eq_of_lt hq]
  ·have := Nat.div_add_mod (natOf S) (natOf V)
   rw [hqd, Nat.mul_comm] at this
   omega
 ·have hle : U.getD i 0 < cy + br := by omega
  have e1 : (18446744073709551616 + (18446744073709551616 + U.getD i 0 - cy) % 18446744073709551616 - br) % 18446744073709551616 % 4294967296 = 4294967296 + U.getD i 0 - (cy + br) := by omega
  rw [e1] at hb4
  have hfin := hst.2 (by omega)
  have hU1L : Lim (U.set i (4294967296 + U.getD i 0 - (cy + br))) := hUL.set (by omega)
  have hU1l : (U.set i (4294967296 + U.getD i 0 - (cy + br))).length = i + 1 := by simp [hUl]
  generalize U.set i (4294967296 + U.getD i 0 - (cy + br)) = U1 at *
  have hC4 := hC.trans hc4
  have hU1lt := b9 hU1L
  rw [hU1l] at hU1lt
  rw [Nat.one_mul] at hfin
  have hgq : gs = q + 1 := by
   rcases Nat.lt_or_ge q gs with h | h
   ·omega
   ·exfalso
    have hgq : gs * natOf V ≤ natOf S := (Nat.le_div_iff_mul_le hv0).1 (by rw [hqd]; exact h)
    omega
  refine bh (ι := Nat × Nat × List Nat) [9, 14, 136, 137, 138, 139, 140, 141, 142, 143, 144, 145, 146, 147, 148, 149, 150, 151, 152, 153, 154, 155, 156, 157, 158, 159] (fun s => [(136, .int .i64 (s.1 : Int)), (9, .int .u64 (s.2.1 : Int))])
   (fun s w' => s.1 ≤ i ∧ Chg g w w' ∧ Blk w' g 49 (limbsL (L ++ s.2.2 ++ H)) ∧ s.2.2.length = i + 1 ∧ Lim s.2.2 ∧ s.2.1 ≤ 1 ∧ natOf s.2.2 + s.2.1 * 4294967296 ^ s.1 = natOf U1 + natOf (V.take s.1)) (fun s => i - s.1)
   (0, 0, U1) ⟨rfl, rfl, trivial⟩ ⟨by simp, hC4, hb4, hU1l, hU1L, by simp, by simp [natOf]⟩ ?_
  clear hC hbk hc4 hb4 hC4 hN hM hst hcy hbr hle e1 hUl hUL hui hun hVc hvi hgv
  rintro ⟨j, cy, W⟩ ξ3 w5 ⟨hj, hC, hbk, hWl, hWL, hcy, hN⟩
  simp only at hj hC hbk hWl hWL hcy hN
  show CW _ _ _ _ (over [(136, .int .i64 (j : Int)), (9, .int .u64 (cy : Int))] _) w5
  have hvj := hV.lim.getD j
  have hwj := hWL.getD j
  have hwn := hWL.getD i
  repeat' (first|refine ai rfl ?_|refine aa ?_|refine ao ?_|refine ah rfl ?_|refine ae ?_|refine aR rfl (fun hc => ?_) (fun hc => ?_)|refine aC ?_|refine aW ?_|refine aO ?_|refine aX ?_|refine aI ?_)
  ·refine aZ (late := []) (plan := [(0, none), (1, none), (2, none), (3, none), (4, none), (5, none), (6, none), (7, none), (8, none), (9, none), (10, none), (11, none), (12, none), (13, none)]) (fun w' => Chg g w w' ∧ Blk w' g 49 (limbsL (L ++ W ++ H))) bt (by kernel_rfl) ⟨hC.drew, hbk.drew⟩ ?_
   repeat' (first|refine aB rfl rfl hVp (by omega) ?_|refine bO rfl (fun _ h => (hV.chg h.1 hne).sl) (by omega) ?_|(refine ip rfl (by first|assumption | omega) ?_)|refine aB rfl rfl ⟨_, _, rfl⟩ (by omega) ?_|refine eT rfl (fun _ h => h.2) (by omega) ?_|refine io rfl rfl (by omega) ?_|refine dB rfl ?_|refine gz rfl rfl hbk (by omega) (fun w6 hc6 hb6 => ⟨fun _ _ => trivial, ?_⟩)|refine eh rfl rfl ?_|refine ai rfl ?_|refine aa ?_|refine ao ?_|refine ah rfl ?_|refine ae ?_|refine bi rfl rfl (by omega) (by omega) ?_|refine aM ?_)
   have hst := j4 (x := V.getD j 0) (show j < W.length by omega) hN
   refine ⟨⟨(j + 1, (cy + (W.getD j 0 + V.getD j 0)) / 4294967296, W.set j ((cy + (W.getD j 0 + V.getD j 0)) % 4294967296)), ⟨by simp only; omega, (hC.drew).trans hc6, hb6, by simp [hWl], hWL.set (Nat.mod_lt _ (by decide)), by simp only; omega, ?_⟩, by simp only; omega, rfl, rfl, trivial⟩, (by (repeat (first|exact aF _ _ _|refine ay rfl ?_|refine av rfl ?_|refine aj rfl ?_|refine ak rfl ?_)))⟩
   simp only
   rw [hst, bX V]
   omega
  ·obtain rfl : j = i := by omega
   rw [cf (by omega)] at hN
   repeat' (first|refine aB rfl rfl ⟨_, _, rfl⟩ (by omega) ?_|refine eT rfl hbk (by omega) ?_|refine dB rfl ?_|refine oU rfl rfl ?_|refine gz rfl rfl hbk (by omega) (fun w6 hc6 hb6 => ⟨fun _ _ => trivial, ?_⟩)|refine oT (m' := 1) rfl rfl (by omega) (by omega) ?_|refine ai rfl ?_|refine aa ?_|refine ao ?_|refine ah rfl ?_|refine ae ?_|refine aT ?_)
   rw [Nat.mod_eq_of_lt (show cy < 4294967296 by omega)] at hb6
   have hst := j4 (x := 0) (show j < W.length by omega) hN
   rw [Nat.add_zero, Nat.zero_mul, Nat.add_zero, Nat.add_comm cy] at hst
   have hWL2 : Lim (W.set j ((W.getD j 0 + cy) % 4294967296)) := hWL.set (Nat.mod_lt _ (by decide))
   refine bF rfl (rt rfl) ⟨_, ?_, hC.trans hc6, hb6, by simp [hWl], hWL2, ?_⟩
   ·show Value.int .u32 _ = _
    rw [hgq, Nat.add_sub_cancel, Nat.mod_eq_of_lt hq]
   ·have h1 := b9 hWL2
    rw [List.length_set, hWl] at h1
    have h3 := Nat.div_add_mod (natOf S) (natOf V)
    rw [hqd] at h3
    have h4 := Nat.mod_lt (natOf S) hv0
    have h5 := b9 hV.lim
    rw [hVl] at h5
    have h6 : 4294967296 ^ j ≤ 4294967296 ^ (j + 1) := Nat.pow_le_pow_right (by decide) (by omega)
    rw [hgq, Nat.succ_mul, Nat.mul_comm q] at hfin
    refine mC (d := (W.getD j 0 + cy) / 4294967296) h1 (by omega) ?_
    rw [hst]
    omega
end Go.Proofs.Ytppipmkpmmdcjaa
