import Derived.Test.YtiejljicpinheaaGreatA07
namespace Go.Proofs.YtiejljicpinheaaGreat
open Go.W Go.LM
theorem ky {ls : List Nat} {a : Option Addr} {c bit : Nat} {w : World} (h : Limbs w a c ls) (hl : ls.length < 17592186044416) (hbit : bit ≤ 1) :
  CallsR Tryz.prog 143 #[.slice a ls.length c, .int .u32 (bit : Int)] w (RetM w fun r => natOf r = 2 * natOf ls + bit) := by
 refine aF (args := [_, _]) Tryz.func143 rfl rfl ?_
 repeat' (first|refine ai rfl ?_|refine aa ?_|refine aj ?_|refine ah rfl ?_|refine ae ?_|refine aZ rfl ?_|refine aA ?_)
 refine aY (ι := Nat × List Nat × Nat × Option Addr × Nat) [1, 5, 7, 10, 11, 12, 13, 14, 15, 16, 17, 18, 19, 20, 21, 22, 23] (fun s => [(10, .int .i64 (s.1 : Int)), (5, .slice s.2.2.2.1 s.1 s.2.2.2.2), (1, .int .u32 (s.2.2.1 : Int))])
  (fun s w' => s.1 ≤ ls.length ∧ s.2.1.length = s.1 ∧ Own w' w.heap.size 113 1 s.2.2.2.1 s.1 s.2.2.2.2 (limbsL s.2.1) ∧ Lim s.2.1 ∧ s.2.2.1 ≤ 1 ∧ natOf s.2.1 + s.2.2.1 * 4294967296 ^ s.1 = 2 * natOf (ls.take s.1) + bit ∧ Ex w w')
  (fun s => ls.length - s.1) (0, [], bit, none, 0) ⟨rfl, rfl, rfl, trivial⟩ ⟨by simp, rfl, Own.nil _ _ _ _, by intro d hd; simp at hd, hbit, by simp [natOf], Ex.refl _⟩ ?_
 rintro ⟨i, S, cy, o, cap⟩ ξ w1 ⟨hi, hS, hO, hL, hcy, hN, hE⟩
 simp only at hi hS hO hL hcy hN
 show CW _ _ _ _ (over [(10, .int .i64 (i : Int)), (5, .slice o i cap), (1, .int .u32 (cy : Int))] _) w1
 have h1 := h.ext hE
 have hx := h.lim.getD i
 have hdd := pA (x := ls.getD i 0) hcy
 repeat' (first|(refine aD rfl rfl (h1.sl.plain (by simp; omega)) (by omega) ?_)|refine bG rfl h1.sl (by omega) ?_|(refine jb (j := 1) rfl rfl rfl (by simp only [IntKind.bits]; omega) ?_)|(refine j4 rfl rfl rfl (Nat.mod_lt _ (by decide)) (by simp only [IntKind.bits]; omega) ?_)|refine fY (j := 31) rfl rfl (.inl rfl) ?_|refine me rfl rfl rfl rfl hO (by omega) (by omega) hE.size (fun gx o2 c2 w2 hO2 hg2 hA2 => ?_)|refine ai rfl ?_|refine aa ?_|refine aj ?_|refine ah rfl ?_|refine ae ?_|refine bc rfl rfl (by omega) (by omega) ?_|refine aO rfl (fun hc => ?_) (fun hc => ?_)|refine aA ?_|refine aP ?_|refine aJ ?_|refine aQ ?_|refine aL ?_|refine aI ?_|refine aE ?_)
 ·have hO3 : Own w2 w.heap.size 113 1 o2 (i + 1) c2 (limbsL (S ++ [(cy + 2 * ls.getD i 0) % 4294967296])) := by rw [← hdd.1]; exact hO2
  refine ⟨⟨(i + 1, S ++ [(cy + 2 * ls.getD i 0) % 4294967296], (cy + 2 * ls.getD i 0) / 4294967296, o2, c2), ⟨by simp only; omega, by simp [hS], hO3, hL.snoc (Nat.mod_lt _ (by decide)), by simp only; omega, ?_, hO.grow_ex hg2 hE (Nat.le_refl _)⟩, by simp only; omega, rfl, rfl, ?_, trivial⟩, (by (repeat (first|exact aH _ _ _|refine ay rfl ?_|refine av rfl ?_|refine ak rfl ?_|refine ao rfl ?_)))⟩
  ·subst hS
   show natOf (S ++ [(cy + 2 * ls.getD S.length 0) % 4294967296]) + _ = _
   rw [lz hN rfl, bL ls, Nat.mul_add, Nat.mul_assoc]
   omega
  ·show Value.int .u32 _ = _
   rw [hdd.2]
 ·have hi2 := bO (l := ls) (k := i) (by omega)
  refine bx rfl (rt rfl) ⟨S ++ [cy], o2, c2, by rw [List.length_append, hS]; rfl, ⟨hO2.sl, by have := hO2.cap; simp; omega, hL.snoc (by omega), by simp; omega⟩, ?_, hO.grow_ex hg2 hE (Nat.le_refl _)⟩
  show natOf (S ++ [cy]) = _
  rw [dk, hS, Nat.mul_comm, hN, hi2]
set_option maxHeartbeats 2000000 in
theorem kz {la lb : List Nat} {a b : Option Addr} {c d : Nat} {w : World} (ha : Limbs w a c la) (hb : Limbs w b d lb) (hla : la.length < 17592186044416) (hlb : lb.length < 17592186044416) (cb : Canon lb) (hpos : 0 < natOf lb) :
  CallsR Tryz.prog 128 #[.slice a la.length c, .slice b lb.length d] w fun v w' => ∃ a1 c1 l1 a2 c2 l2, v = .tuple #[.slice a1 (List.length l1) c1, .slice a2 (List.length l2) c2] ∧
   Limbs w' a1 c1 l1 ∧ Limbs w' a2 c2 l2 ∧ natOf l1 = natOf la / natOf lb ∧ natOf l2 = natOf la % natOf lb ∧ Ex w w' := by
 by_cases hsm : la.length ≤ 2 ∧ lb.length ≤ 2
 ·exact gk ha hb hsm.1 hsm.2 hpos
 refine aF (args := [_, _]) Tryz.func128 rfl rfl ?_
 repeat' (first|refine eK rfl rfl (by omega) (by omega) (fun g w1 hn1 => ⟨fun _ _ => trivial, ?_⟩)|refine j3 rfl rfl (by omega) (by omega) ?_|refine ai rfl ?_|refine aa ?_|refine aj ?_|refine ah rfl ?_|refine ae ?_|refine aZ rfl ?_|refine bz rfl rfl ?_|refine bK rfl rfl ?_|refine eJ rfl rfl (fun hc => ?_) (fun hc => ?_)|refine cR rfl rfl (by omega) (by omega) ?_|refine au rfl ?_|refine aO rfl (fun hc => ?_) (fun hc => ?_)|refine aA ?_|refine aE ?_)
 all_goals try (exfalso; omega)
 all_goals
  refine aY (ι := Nat × List Nat × List Nat × Option Addr × Nat) [5, 8, 38, 39, 40, 41, 42, 43, 44, 45, 46, 47, 48, 49, 50, 51, 52, 53, 54, 55, 56, 57, 58, 59, 60, 61, 62, 63, 64, 65, 66, 67, 68, 69, 70, 71] (fun s => [(8, .int .i64 ((s.1 : Int) - 1)), (5, .slice s.2.2.2.1 s.2.2.1.length s.2.2.2.2)])
   (fun s w' => s.1 ≤ 32 * la.length ∧ Ex w w' ∧ Blk w' g 113 (limbsL s.2.1) ∧ s.2.1.length = la.length ∧ Lim s.2.1 ∧ natOf s.2.1 = natOf la / 2 ^ s.1 / natOf lb * 2 ^ s.1 ∧ Limbs w' s.2.2.2.1 s.2.2.2.2 s.2.2.1 ∧ Canon s.2.2.1 ∧ natOf s.2.2.1 = natOf la / 2 ^ s.1 % natOf lb)
   (fun s => s.1) (32 * la.length, List.replicate la.length 0, [], none, 0) ⟨by first|rfl|(show Value.int .i64 _ = _; congr 1; simp), rfl, trivial⟩ ⟨by simp, hn1.ex, hn1.blk, by simp, Lim.zeros _, ?_, Limbs.nil _ _ _, rfl, ?_⟩ ?_
  ·have hz : natOf la / 2 ^ (32 * la.length) = 0 := Nat.div_eq_of_lt (by rw [qT]; exact bM ha.lim)
   simp only [cQ]
   rw [hz]; simp
  ·have hz : natOf la / 2 ^ (32 * la.length) = 0 := Nat.div_eq_of_lt (by rw [qT]; exact bM ha.lim)
   simp only
   rw [hz]; simp [natOf]
  rintro ⟨k, Q, R, o, cap⟩ ξ w2 ⟨hk, hE, hbQ, hQl, hQL, hQn, hR, hRc, hRn⟩
  simp only at hk hbQ hQl hQL hQn hR hRc hRn
  show CW _ _ _ _ (over [(8, .int .i64 ((k : Int) - 1)), (5, .slice o R.length cap)] _) w2
  have hRlt : natOf R < natOf lb := by rw [hRn]; exact Nat.mod_lt _ hpos
  have hRlen : R.length ≤ lb.length := cO hRc (Nat.lt_trans hRlt (bM hb.lim))
  repeat' (first|refine ai rfl ?_|refine aa ?_|refine aj ?_|refine ah rfl ?_|refine ae ?_|refine aO rfl (fun hc => ?_) (fun hc => ?_)|refine aA ?_|refine aP ?_|refine aJ ?_|refine aQ ?_|refine aE ?_)
  ·obtain ⟨j, rfl⟩ : ∃ j, k = j + 1 := ⟨k - 1, by omega⟩
   rw [show ((j + 1 : Nat) : Int) - 1 = (j : Int) by omega]
   have ha2 := ha.ext hE
   have hb2 := hb.ext hE
   have hbit : (la.getD (j / 32) 0 >>> (j % 32) &&& 1) = natOf la / 2 ^ j % 2 := by
    rw [Nat.and_one_is_mod, Nat.shiftRight_eq_div_pow, ← nc ha.lim (Nat.mod_lt _ (by decide)), show 32 * (j / 32) + j % 32 = j by omega]
   have hla32 := ha.lim.getD (j / 32)
   repeat' (first|refine qn rfl rfl (by omega) (by omega) (by omega) ?_|refine iC rfl rfl (by omega) (by omega) ?_|(refine aD (j := j / 32) rfl (by show Value.int .i64 ((j : Int) / 32) = _; congr 1) (ha2.sl.plain (by simp; omega)) (by omega) ?_)|refine bG rfl ha2.sl (by omega) ?_|(refine fY (j := j % 32) rfl (by show Value.int .i64 ((j : Int) % 32) = _; congr 1) (.inr (by simp only [IntKind.bits]; omega)) ?_)|(refine tn (m' := 1) rfl rfl rfl (Nat.lt_of_le_of_lt (by rw [Nat.shiftRight_eq_div_pow]; exact Nat.div_le_self _ _) hla32) (by decide) ?_)|refine ai rfl ?_)
   refine aw (ky hR (by omega) (by rw [hbit]; omega)) rfl ?_
   rintro v w3 ⟨l3, a3, c3, rfl, hL3, hv3, hE3⟩
   refine ⟨fun _ _ => trivial, ?_⟩
   refine aw (bZ hL3) rfl ?_
   rintro v w4 ⟨a4, c4, rfl, hL4, hf4, hE4⟩
   refine ⟨fun _ _ => trivial, ?_⟩
   have hE24 := hE3.trans hE4
   have hb4 := (hb2.ext hE24)
   have hv4 : natOf (trimL l3) = 2 * (natOf la / 2 ^ (j + 1) % natOf lb) + natOf la / 2 ^ j % 2 := by rw [bh, show natOf l3 = _ from hv3, hRn, hbit]
   have hst := sr (N := natOf la) (i := j) hpos rfl rfl
   have hge := jR (m := natOf (trimL l3)) (n := natOf lb)
   repeat' (first|refine ai rfl ?_|refine aa ?_|refine aj ?_|refine ah rfl ?_|refine ae ?_)
   refine aw (fp hL4 hb4 (bB _) cb) rfl ?_
   rintro v w5 ⟨rfl, hE5⟩
   refine ⟨fun _ _ => trivial, ?_⟩
   have hbQ5 := hbQ.ext (hE24.trans hE5)
   have hQlt := hbQ5.lt
   repeat' (first|refine ai rfl ?_|refine aa ?_|refine aj ?_|refine ah rfl ?_|refine ae ?_|refine cR rfl rfl (by omega) (by omega) ?_|refine aO rfl (fun hc => ?_) (fun hc => ?_)|refine aL ?_|refine aE ?_)
   ·refine aw (dR (hL4.ext hE5) (hb4.ext hE5) (by omega) cb (bB _)) rfl ?_
    rintro v w6 ⟨l6, a6, c6, rfl, hL6, hv6, hE6⟩
    refine ⟨fun _ _ => trivial, ?_⟩
    refine aw (bZ hL6) rfl ?_
    rintro v w7 ⟨a7, c7, rfl, hL7, hf7, hE7⟩
    refine ⟨fun _ _ => trivial, ?_⟩
    have hE67 := hE6.trans hE7
    have hbQ7 := hbQ5.ext hE67
    have s6 := hE6.size
    repeat' (first|refine ai rfl ?_|refine aa ?_|refine ae ?_)
    refine bi (late := [10]) (plan := [(0, none), (1, none), (2, none), (3, none), (4, none), (5, none), (6, none), (7, none), (8, none), (9, none), (10, some false)]) (fun w' => Blk w' g 113 (limbsL Q)) bA (by kernel_rfl) hbQ7.drew ?_
    have hset := sn (Q := Q) (i := j) hQL (by omega) (by rw [hQn]; exact Nat.mul_mod_left _ _)
    have hsh : (1 <<< (j % 32)) % 2 ^ IntKind.u32.bits = 2 ^ (j % 32) := by
     rw [Nat.one_shiftLeft]; exact Nat.mod_eq_of_lt (Nat.pow_lt_pow_right (by decide) (by simp only [IntKind.bits]; omega))
    repeat' (first|refine qn rfl rfl (by omega) (by omega) (by omega) ?_|refine iC rfl rfl (by omega) (by omega) ?_|(refine aD (j := j / 32) rfl (by show Value.int .i64 ((j : Int) / 32) = _; congr 1) ⟨_, _, rfl⟩ (by omega) ?_)|refine bG rfl (fun _ h => h.sl) (by omega) ?_|(refine jb (m := 1) (j := j % 32) rfl (by show Value.int .i64 ((j : Int) % 32) = _; congr 1) rfl (by simp only [IntKind.bits]; omega) ?_)|refine j4 rfl rfl rfl (hQL.getD _) (Nat.mod_lt _ (by decide)) ?_|refine ai rfl ?_)
    rw [hsh]
    refine dA rfl rfl hbQ7.drew (by omega) (fun w8 hc8 hb8 => ⟨fun h => (nomatch h), ?_⟩)
    repeat' (first|refine ai rfl ?_|refine aa ?_|refine ah rfl ?_|refine ae ?_|refine cR rfl rfl (by omega) (by omega) ?_|refine aL ?_)
    have hd2 := hst.2 (by omega)
    have hE8 := ((hE.trans (hE24.trans hE5)).trans hE67).drew.chg hc8 hn1.lo
    refine ⟨⟨(j, Q.set (j / 32) (Q.getD (j / 32) 0 ||| 2 ^ (j % 32)), trimL l6, a7, c7), ⟨by simp only; omega, hE8, hb8, by simp [hQl], hQL.set hset.2, ?_, hL7.drew.chg hc8 (fun ad e => by have := hf7 ad e; omega), bB _, ?_⟩, by simp only; omega, rfl, rfl, trivial⟩, (by (repeat (first|exact aH _ _ _|refine ay rfl ?_|refine av rfl ?_|refine ak rfl ?_|refine ao rfl ?_)))⟩
    ·simp only
     rw [hset.1, hQn, hd2.2]
    ·simp only
     rw [bh, show natOf l6 = _ from hv6, hv4, hd2.1]
   ·have hd2 := hst.1 (by omega)
    refine ⟨⟨(j, Q, trimL l3, a4, c4), ⟨by simp only; omega, hE.trans (hE24.trans hE5), hbQ5, hQl, hQL, ?_, hL4.ext hE5, bB _, ?_⟩, by simp only; omega, rfl, rfl, trivial⟩, (by (repeat (first|exact aH _ _ _|refine ay rfl ?_|refine av rfl ?_|refine ak rfl ?_|refine ao rfl ?_)))⟩
    ·simp only
     rw [hQn, hd2.2]
    ·simp only
     rw [hv4, hd2.1]
  ·obtain rfl : k = 0 := by omega
   simp only [Nat.pow_zero, Nat.div_one, Nat.mul_one] at hQn hRn
   have hLQ := Limbs.of_blk (c := la.length) hbQ (by omega) hQL (by omega)
   have hcall := bZ hLQ
   rw [hQl] at hcall
   refine aw hcall rfl ?_
   rintro v w3 ⟨a3, c3, rfl, hL3, hf3, hE3⟩
   refine ⟨fun _ _ => trivial, ?_⟩
   repeat' (first|refine ai rfl ?_|refine aa ?_|refine ae ?_|refine aI ?_)
   exact cA rfl (rt rfl) (rt rfl) ⟨a3, c3, trimL Q, o, cap, R, rfl, hL3, hR.ext hE3, by rw [bh, hQn], hRn, hE.trans hE3⟩
end Go.Proofs.YtiejljicpinheaaGreat
