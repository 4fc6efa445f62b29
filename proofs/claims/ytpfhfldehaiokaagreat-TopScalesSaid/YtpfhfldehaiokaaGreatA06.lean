import Derived.Test.YtpfhfldehaiokaaGreatA05
set_option maxHeartbeats 2000000
namespace Go.Proofs.YtpfhfldehaiokaaGreat
open Go.W Go.LM
theorem fV {ls : List Nat} {a : Option Addr} {c : Nat} {w : World} (h : Limbs w a c ls) (h2 : ls.length ≤ 2) :
  CallsR Tryz.prog 23 #[.slice a ls.length c] w fun v w' => v = .int .u64 ((natOf ls : Nat) : Int) ∧ Ex w w' := by
 refine aE (args := [_]) Tryz.func23 rfl rfl ?_
 repeat' (first|refine aj rfl ?_|refine aa ?_|refine ak ?_|refine ai rfl ?_|refine ah ?_|refine ay ?_)
 refine aW (ι := Nat) [3, 4, 5, 6, 7, 8, 9, 10, 11, 12, 13, 14, 15, 16, 17, 18, 19, 20, 21, 22, 23, 24] (fun k => [(4, .int .i64 (k : Int)), (3, .int .u64 ((natOf (ls.take k) : Nat) : Int))]) (fun k w' => k ≤ ls.length ∧ w' = w) (fun k => ls.length - k) 0 ⟨rfl, rfl, trivial⟩ ⟨by simp, rfl⟩ ?_
 rintro k ξ w2 ⟨hk, rfl⟩
 have hlt := bQ (h.lim.take k)
 have hd := h.lim.getD k
 repeat' (first|(refine az rfl rfl (h.sl.plain (by simp; omega)) (by omega) ?_)|refine bI rfl h.sl (by omega) ?_|refine cF rfl (cV (by omega) (by omega)) ?_|refine cP rfl rfl (by omega) (by omega) ?_|refine aj rfl ?_|refine aa ?_|refine ak ?_|refine ai rfl ?_|refine ah ?_|refine bc rfl ?_|refine bJ rfl rfl ?_|refine bY rfl rfl ?_|refine gV rfl rfl (fun hc => ?_) (fun hc => ?_)|refine ao rfl ?_|refine aQ rfl (fun hc => ?_) (fun hc => ?_)|refine ay ?_|refine aT ?_|refine aO ?_|refine aU ?_|refine aK ?_|refine aC ?_)
 all_goals try (exfalso; omega)
 ·refine j3 (j := 32 * k) rfl rfl rfl (by simp only [IntKind.bits]; omega) ?_
  have hkk : k = 0 ∨ k = 1 := by omega
  have hsh : (ls.getD k 0 <<< (32 * k)) % 2 ^ IntKind.u64.bits = ls.getD k 0 <<< (32 * k) := Nat.mod_eq_of_lt (by
   rw [Nat.shiftLeft_eq]; rcases hkk with rfl | rfl <;> simp only [IntKind.bits] <;> omega)
  have hsh2 : ls.getD k 0 <<< (32 * k) < 18446744073709551616 := by rw [Nat.shiftLeft_eq]; rcases hkk with rfl | rfl <;> omega
  have hlt' : natOf (ls.take k) < 2 ^ (32 * k) := by
   simp only [List.length_take, Nat.min_eq_left hk] at hlt
   rcases hkk with rfl | rfl <;> simpa using hlt
  rw [hsh]
  refine lE rfl rfl rfl (by simp only [IntKind.bits]; rcases hkk with rfl | rfl <;> omega) hsh2 ?_
  repeat' (first|refine aj rfl ?_|refine aa ?_|refine ai rfl ?_|refine ah ?_|refine aV rfl rfl (by omega) (by omega) ?_|refine aJ ?_)
  refine ⟨⟨k + 1, ⟨by omega, rfl⟩, by omega, rfl, ?_, trivial⟩, (by (repeat (first|exact aG _ _ _|refine aB rfl ?_|refine ax rfl ?_|refine av rfl ?_|refine aw rfl ?_)))⟩
  show Value.int .u64 _ = _
  congr 2
  have e := eo (ls := ls) (k := k + 1) (by omega) (by omega)
  rw [Nat.add_sub_cancel] at e
  rw [e, dG, Nat.or_comm, ← Nat.shiftLeft_add_eq_or_of_lt hlt', Nat.shiftLeft_eq]
  simp only [List.length_take, Nat.min_eq_left hk]
  rcases hkk with rfl | rfl <;> omega
 all_goals
  obtain rfl : k = ls.length := by omega
  refine bo rfl (rt rfl) ⟨?_, Ex.refl _⟩
  show Value.int .u64 _ = _
  rw [List.take_length]
theorem gY {lo : Nat} {v : Value} {x : Int} {w : World} (h1 : IntC lo w v x) : CallsR Tryz.prog 25 #[v] w fun r w' => r = .int .i64 x.sign ∧ Ex w w' := by
 obtain ⟨n1, a1, c1, l1, rfl, hL1, rfl, hc1, g1, _⟩ := h1
 have htr : trimL l1 = l1 := hc1
 refine aE (args := [_]) Tryz.func25 rfl rfl ?_
 repeat' (first|refine bC rfl (fun g1 w1 hn1 => tvv ?_)|refine aP rfl hn1.blk rfl ?_|refine aj rfl ?_|refine aa ?_|refine ak ?_|refine ai rfl ?_|refine ah ?_|refine aM rfl ?_|refine ay ?_)
 refine au (bW (hL1.ext hn1.ex)) rfl ?_
 rw [htr]
 rintro v w2 ⟨a2, c2, rfl, hL2, hf2, hE2⟩
 refine tvv ?_
 have hb2 := hn1.blk.ext hE2
 have hz : l1.length = 0 ↔ natOf l1 = 0 := by
  constructor
  ·intro h; rw [List.eq_nil_of_length_eq_zero h]; rfl
  ·intro h; have := cI.2 h; rw [htr] at this; rw [this]; rfl
 repeat' (first|refine aP rfl hb2 rfl ?_|refine aj rfl ?_|refine aa ?_|refine ak ?_|refine ai rfl ?_|refine ah ?_|refine bc rfl ?_|refine aM rfl ?_|refine aQ rfl (fun hc => ?_) (fun hc => ?_)|refine gT rfl (fun hc => ?_) (fun hc => ?_)|refine aJ ?_|refine aK ?_|refine bf ?_|refine cj ?_|refine aC ?_)
 ·refine bo rfl (rt rfl) ⟨?_, hn1.ex.trans hE2⟩
  have : natOf l1 = 0 := hz.1 (by omega)
  rw [this]; cases n1 <;> rfl
 ·refine bo rfl (rt rfl) ⟨?_, hn1.ex.trans hE2⟩
  have : natOf l1 ≠ 0 := fun e => by have := hz.2 e; omega
  subst_vars
  show Value.int .i64 (-1) = _
  rw [show (sgn true (natOf l1)).sign = -1 by unfold sgn; rw [if_pos rfl]; exact Int.sign_eq_neg_one_of_neg (by omega)]
 ·refine bo rfl (rt rfl) ⟨?_, hn1.ex.trans hE2⟩
  have : natOf l1 ≠ 0 := fun e => by have := hz.2 e; omega
  subst_vars
  show Value.int .i64 1 = _
  rw [show (sgn false (natOf l1)).sign = 1 by unfold sgn; rw [if_neg (by decide)]; exact Int.sign_eq_one_of_pos (by omega)]
end Go.Proofs.YtpfhfldehaiokaaGreat
namespace Go.PM
def bit (ws : List Nat) (x : Nat) : Bool := (ws.getD (x / 64) 0).testBit (x % 64)
theorem dz {α : Type} (l : List α) (d : α) {k : Nat} (h : k < l.length) : l.take (k + 1) = l.take k ++ [l.getD k d] := by
 rw [List.take_succ_eq_append_getElem h, List.getD_eq_getElem?_getD, List.getElem?_eq_getElem h]; rfl
theorem gF {α : Type} {l : List α} {k : Nat} {d : α} (h : k < l.length) : l.getD k d ∈ l := by
 rw [List.getD_eq_getElem?_getD, List.getElem?_eq_getElem h]; exact List.getElem_mem h
def tAt (L : List Int) (k : Nat) : Nat := if k < L.length then k + 1 else k
theorem qy {L : List Int} {k : Nat} (h : k ≤ L.length) : tAt L k ≤ L.length := by unfold tAt; split <;> omega
end Go.PM
namespace Go.Proofs.YtpfhfldehaiokaaGreat
open Go.W Go.PM
abbrev int8L (xs : List Int) : List Value := xs.map (Value.int .i8)
def I8 (L : List Int) : Prop := L.length ≤ 9223372036854775807 ∧ ∀ x ∈ L, -128 ≤ x ∧ x ≤ 127
theorem I8.getD {L : List Int} (h : I8 L) (k : Nat) : -128 ≤ L.getD k 0 ∧ L.getD k 0 ≤ 127 := by
 by_cases hk : k < L.length
 ·exact h.2 _ (gF hk)
 ·rw [List.getD_eq_getElem?_getD, List.getElem?_eq_none (by omega)]; simp
abbrev tapeL (la : Option Addr) (n lc k : Nat) : List Value := [.slice la n lc, .int .i64 (k : Int)]
theorem nu {L : List Int} {k g lc : Nat} {la : Option Addr} {w : World} (hb : Blk w g 76 (tapeL la L.length lc k)) (hL : Sl w la (int8L L)) (hr : I8 L) (hne : 0 < L.length → ∀ ad, la = some ad → ad.block ≠ g)
  (hk : k ≤ L.length) : CallsR Tryz.prog 86 #[.pointer (some ⟨g, 0, none⟩)] w fun v w' =>
   v = .int .i64 (L.getD k 0) ∧ Chg g w w' ∧ Blk w' g 76 (tapeL la L.length lc (tAt L k)) := by
 have hlen := hr.1
 have hx := hr.getD k
 refine aE (args := [_]) Tryz.func86 rfl rfl ?_
 repeat' (first|refine aj rfl ?_|refine aa ?_|refine ak ?_|refine ai rfl ?_|refine ah ?_)
 refine bn (late := []) (plan := [(0, none), (1, none), (2, none), (3, none), (4, none), (5, none), (6, none), (7, none), (8, none), (9, none)]) (fun w' => Blk w' g 76 (tapeL la L.length lc k)) bD (by kernel_rfl) hb.drew ?_
 repeat' (first|refine aP rfl (fun _ h => h) rfl ?_|refine aj rfl ?_|refine aa ?_|refine ak ?_|refine ai rfl ?_|refine ah ?_|refine bc rfl ?_|refine aM rfl ?_|refine aQ rfl (fun hc => ?_) (fun hc => ?_)|refine aK ?_|refine bf ?_|refine aC ?_)
 ·refine bo rfl (rt rfl) ⟨?_, (Chg.refl g w).drew, ?_⟩
  ·rw [List.getD_eq_getElem?_getD, List.getElem?_eq_none (by omega)]; rfl
  ·rw [tAt, if_neg (by omega)]; exact hb.drew
 ·replace hb := hb.drew
  repeat' (first|refine aP rfl hb rfl ?_|refine cD rfl rfl rfl hb rfl (fun w2 hc2 hb2 => tvv ?_)|refine aj rfl ?_|refine aa ?_|refine ak ?_|refine ah ?_|refine aV rfl rfl (by omega) (by omega) ?_|refine aM rfl ?_)
  have hc2' := (Chg.trans (Chg.drew (Chg.refl g w)) hc2)
  have hL2 := (hL.drew).chg hc2 (hne (by omega))
  refine bn (late := []) (plan := [(0, none), (1, none), (2, none), (3, none), (4, none), (5, none), (6, none), (7, none), (8, none), (9, none), (10, none), (11, none), (12, none)]) (fun w' => Blk w' g 76 [.slice la L.length lc, .int .i64 ((k : Int) + 1)] ∧ Sl w' la (int8L L)) bD (by kernel_rfl) ⟨hb2.drew, hL2.drew⟩ ?_
  repeat' (first|refine aP rfl (fun _ h => h.1) rfl ?_|(refine az (j := k) rfl (by show Value.int .i64 ((k : Int) + 1 - 1) = _; rw [Int.add_sub_cancel]) (hL.plain (by simp; omega)) (by omega) ?_)|refine vG rfl (fun _ h => h.2) (by omega) ?_|refine cF rfl (cK (by omega) (by omega)) ?_|refine aj rfl ?_|refine aa ?_|refine ah ?_|refine bK rfl rfl (by omega) (by omega) ?_|refine aM rfl ?_|refine aK ?_)
  refine bo rfl (rt rfl) ⟨rfl, hc2'.drew, ?_⟩
  rw [tAt, if_pos (by omega)]
  exact hb2.drew
theorem qz {L : List Int} {k g lc : Nat} {la : Option Addr} {w : World} (hb : Blk w g 76 (tapeL la L.length lc k)) (hL : Sl w la (int8L L)) (hr : I8 L) (hne : 0 < L.length → ∀ ad, la = some ad → ad.block ≠ g)
  (hk : k ≤ L.length) (n : Int) (hn : 0 < n) : CallsR Tryz.prog 45 #[.pointer (some ⟨g, 0, none⟩), .int .i64 n] w fun v w' =>
   v = .int .i64 (L.getD k 0 % 256 % n) ∧ Chg g w w' ∧ Blk w' g 76 (tapeL la L.length lc (tAt L k)) := by
 have hx := hr.getD k
 refine aE (args := [_, _]) Tryz.func45 rfl rfl ?_
 repeat' (first|refine aj rfl ?_|refine aa ?_|refine ak ?_|refine ai rfl ?_|refine ah ?_)
 refine au (nu hb hL hr hne hk) rfl ?_
 rintro v w1 ⟨rfl, hc1, hb1⟩
 refine tvv ?_
 refine im rfl ?_
 rw [show IntKind.u8.wrap (L.getD k 0) = L.getD k 0 % 256 from cY rfl]
 repeat' (first|refine cF rfl (cK (by omega) (by omega)) ?_|refine jC rfl rfl (by omega) (by omega) ?_|refine aj rfl ?_|refine aa ?_|refine ah ?_|refine aK ?_)
 exact bo rfl (rt rfl) ⟨rfl, hc1, hb1⟩
end Go.Proofs.YtpfhfldehaiokaaGreat
namespace Go.PM
def ap (p : List Int) (x : Int) : Int := p.getD x.toNat 0
def it (p : List Int) : Nat → Int → Int
 | 0, x => x
 | k + 1, x => ap p (it p k x)
end Go.PM
namespace Go.Proofs.YtpfhfldehaiokaaGreat
open Go.W Go.PM Go.LM
def blkS (v : Value) : Option Nat := match v with
 | .slice (some ad) (_ + 1) _ => some ad.block
 | _ => none
def blkOf (v : Value) : Option Nat := match v with
 | .agg cs => (cs[1]?).bind blkS
 | _ => none
def Off (g : Nat) (v : Value) : Prop := blkOf v ≠ some g
theorem IntC.out {lo : Nat} {w : World} {v : Value} {z : Int} (h : IntC lo w v z) : ∃ cs : List Value, v = .agg cs.toArray ∧ cs.length = 2 ∧ cs.all Value.oneCell' = true := by
 obtain ⟨neg, a, c, ls, rfl, _⟩ := h
 exact ⟨_, rfl, rfl, rfl⟩
theorem IntC.lo {lo : Nat} {w : World} {v : Value} {z : Int} (h : IntC lo w v z) {g : Nat} (hg : blkOf v = some g) : lo ≤ g ∧ g < w.heap.size := by
 obtain ⟨neg, a, c, ls, rfl, hl, _, _, _, h6⟩ := h
 cases a with
 | none => simp [blkOf, blkS] at hg
 | some ad => cases ls with
  | nil => simp [blkOf, blkS] at hg
  | cons x t =>
   simp [blkOf, blkS] at hg
   subst hg
   refine ⟨h6 ad rfl, ?_⟩
   have := World.block_lt_of_cell? w _ (hl.sl.get 0 (by simp))
   exact this
theorem IntC.off_lo {lo g : Nat} {w : World} {v : Value} {z : Int} (h : IntC lo w v z) (hg : g < lo) : Off g v := fun e => by have := (h.lo e).1; omega
theorem IntC.off_hi {lo g : Nat} {w : World} {v : Value} {z : Int} (h : IntC lo w v z) (hg : w.heap.size ≤ g) : Off g v := fun e => by have := (h.lo e).2; omega
theorem IntC.chgO {lo g : Nat} {w w' : World} {v : Value} {z : Int} (h : IntC lo w v z) (e : Chg g w w') (hg : Off g v) : IntC lo w' v z := by
 obtain ⟨neg, a, c, ls, rfl, h2, h3, h4, h5, h6⟩ := h
 cases ls with
 | nil => exact ⟨neg, a, c, [], rfl, Limbs.nil _ _ _, h3, h4, h5, h6⟩
 | cons x t => exact ⟨neg, a, c, x :: t, rfl, h2.chg e (fun ad ea => by subst ea; intro e2; exact hg (by simp [blkOf, blkS, e2])), h3, h4, h5, h6⟩
theorem IntC.zero (lo : Nat) (w : World) : IntC lo w (.agg (intL false none 0 0).toArray) 0 := ⟨false, none, 0, [], rfl, Limbs.nil _ _ _, rfl, rfl, by simp, by simp⟩
end Go.Proofs.YtpfhfldehaiokaaGreat
namespace Go.Proofs.YtpfhfldehaiokaaGreat
open Go.W Go.LM
theorem cC (n : Nat) : sgn false n = n := rfl
theorem IntC.limbs {lo : Nat} {w : World} {v : Value} {n : Nat} (h : IntC lo w v (n : Int)) : ∃ a c ls, v = .agg (intL false a ls.length c).toArray ∧ Limbs w a c ls ∧ natOf ls = n ∧ Canon ls ∧ ∀ ad, a = some ad → lo ≤ ad.block := by
 obtain ⟨n1, a1, c1, l1, rfl, hL1, e1, hc1, g1, h6⟩ := h
 cases n1
 ·exact ⟨a1, c1, l1, rfl, hL1, by simp only [sgn, Bool.false_eq_true, if_false] at e1; omega, hc1, h6⟩
 ·exfalso
  have := cI.2 (show natOf l1 = 0 by simp [sgn] at e1; omega)
  rw [hc1] at this; exact g1 rfl this
theorem ig {la lb : List Nat} {a b : Option Addr} {c d : Nat} {w : World} (ha : Limbs w a c la) (hb : Limbs w b d lb) (h2 : la.length ≤ 2) (h3 : lb.length ≤ 2) (hpos : 0 < natOf lb) :
  CallsR Tryz.prog 93 #[.slice a la.length c, .slice b lb.length d] w fun v w' => ∃ a1 c1 l1 a2 c2 l2, v = .tuple #[.slice a1 (List.length l1) c1, .slice a2 (List.length l2) c2] ∧
   Limbs w' a1 c1 l1 ∧ Limbs w' a2 c2 l2 ∧ natOf l1 = natOf la / natOf lb ∧ natOf l2 = natOf la % natOf lb ∧ Ex w w' := by
 have h64a : natOf la < 18446744073709551616 := by
  have := bQ ha.lim
  have := eA (a := la.length) (b := 2) h2
  omega
 have h64b : natOf lb < 18446744073709551616 := by
  have := bQ hb.lim
  have := eA (a := lb.length) (b := 2) h3
  omega
 refine aE (args := [_, _]) Tryz.func93 rfl rfl ?_
 repeat' (first|refine fz rfl rfl (by omega) ?_|refine aj rfl ?_|refine aa ?_|refine ak ?_|refine ai rfl ?_|refine ah ?_|refine bc rfl ?_|refine bJ rfl rfl ?_|refine aA rfl ?_)
 refine au (fV ha h2) rfl ?_
 rintro v w1 ⟨rfl, hE1⟩
 refine tvv ?_
 repeat' (first|refine aj rfl ?_)
 refine au (fV (hb.ext hE1) h3) rfl ?_
 rintro v w2 ⟨rfl, hE2⟩
 refine tvv ?_
 repeat' (first|refine aj rfl ?_|refine aa ?_|refine ak ?_|refine ah ?_)
 have hE := hE1.trans hE2
 refine bn (late := [3, 8]) (plan := [(0, none), (1, none), (2, none), (5, none), (6, none), (7, none), (3, some false), (4, none), (8, some false), (9, none), (10, none), (11, none)]) (fun w' => Ex w w') bD (by kernel_rfl) hE.drew ?_
 repeat' (first|refine qu rfl rfl (by omega) (by omega) (by omega) ?_|refine jC rfl rfl (by omega) (by omega) ?_|refine aj rfl ?_)
 refine au (fj (n := natOf la / natOf lb) (Nat.lt_of_le_of_lt (Nat.div_le_self _ _) h64a) false _) rfl ?_
 rintro v w3 ⟨hz3, hE3⟩
 refine ⟨fun _ h => h.trans hE3, ?_⟩
 rw [cC] at hz3
 obtain ⟨a3, c3, l3, rfl, hL3, hn3, _, _⟩ := hz3.limbs
 repeat' (first|refine rF (ft := 32) (off := 1) (by kernel_rfl) rfl rfl ?_)
 refine au (fj (n := natOf la % natOf lb) (Nat.lt_of_le_of_lt (Nat.mod_le _ _) h64a) false _) rfl ?_
 rintro v w4 ⟨hz4, hE4⟩
 refine ⟨fun _ h => h.trans hE4, ?_⟩
 rw [cC] at hz4
 obtain ⟨a4, c4, l4, rfl, hL4, hn4, _, _⟩ := hz4.limbs
 repeat' (first|refine rF (ft := 32) (off := 1) (by kernel_rfl) rfl rfl ?_|refine aj rfl ?_|refine aa ?_|refine ah ?_|refine aK ?_|refine bf ?_)
 exact dw rfl (rt rfl) (rt rfl) ⟨a3, c3, l3, a4, c4, l4, rfl, hL3.ext hE4, hL4, hn3, hn4, (hE.drew.trans hE3).trans hE4⟩
end Go.Proofs.YtpfhfldehaiokaaGreat
namespace Go.W
theorem Own.cap {w : World} {lo T s n cap : Nat} {a : Option Addr} {vs : List Value} (h : Own w lo T s a n cap vs) : n ≤ cap := by
 rcases h.2 with ⟨hv, hn⟩ | ⟨g, c, cur, hv, hg, hb, h1, h2, h3, h4⟩
 ·omega
 ·simp only [Value.slice.injEq] at hv; omega
end Go.W
namespace Go.Proofs.YtpfhfldehaiokaaGreat
open Go.W Go.PM
end Go.Proofs.YtpfhfldehaiokaaGreat
namespace Go.LM
theorem ef (k : Nat) : 4294967296 ^ (k + 1) = 4294967296 ^ k * 4294967296 := Nat.pow_succ _ _
theorem lZ {S : List Nat} {k c a b N : Nat} (hk : k < S.length) (h0 : S.getD k 0 = 0) (h : natOf S + c * 4294967296 ^ k = N) :
  natOf (S.set k ((c + (a + b)) % 4294967296)) + (c + (a + b)) / 4294967296 * 4294967296 ^ (k + 1) = N + (a + b) * 4294967296 ^ k := by
 have h1 := cS (v := (c + (a + b)) % 4294967296) hk
 rw [h0, Nat.zero_mul, Nat.add_zero] at h1
 rw [h1, ef]
 have h2 := Nat.mod_add_div (c + (a + b)) 4294967296
 generalize (c + (a + b)) % 4294967296 = r at *
 generalize (c + (a + b)) / 4294967296 = q at *
 generalize 4294967296 ^ k = P at *
 have e : r * P + q * (P * 4294967296) = (c + (a + b)) * P := by rw [← h2]; grind
 have e2 : (c + (a + b)) * P = c * P + (a + b) * P := Nat.add_mul _ _ _
 omega
theorem tU {D : List Nat} {k br a x M N : Nat} (hk : k < D.length) (h0 : D.getD k 0 = 0) (h : natOf D + M = N + br * 4294967296 ^ k) :
  (x + br ≤ a → natOf (D.set k (a - (x + br))) + (M + x * 4294967296 ^ k) = N + a * 4294967296 ^ k) ∧
  (x + br ≤ 4294967296 + a → natOf (D.set k (4294967296 + a - (x + br))) + (M + x * 4294967296 ^ k) = N + a * 4294967296 ^ k + 1 * 4294967296 ^ (k + 1)) := by
 constructor
 ·intro hle
  have h1 := cS (v := a - (x + br)) hk
  rw [h0, Nat.zero_mul, Nat.add_zero] at h1
  rw [h1]
  obtain ⟨d, rfl⟩ : ∃ d, a = x + br + d := ⟨a - (x + br), by omega⟩
  rw [show x + br + d - (x + br) = d by omega]
  generalize 4294967296 ^ k = P at *
  have e : (x + br + d) * P = x * P + br * P + d * P := by grind
  omega
 ·intro hle
  have h1 := cS (v := 4294967296 + a - (x + br)) hk
  rw [h0, Nat.zero_mul, Nat.add_zero] at h1
  rw [h1, ef, Nat.one_mul]
  obtain ⟨d, hd⟩ : ∃ d, 4294967296 + a = x + br + d := ⟨4294967296 + a - (x + br), by omega⟩
  rw [show 4294967296 + a - (x + br) = d by omega]
  generalize 4294967296 ^ k = P at *
  have e : (4294967296 + a) * P = (x + br + d) * P := by rw [hd]
  have e1 : (x + br + d) * P = x * P + br * P + d * P := by grind
  have e2 : (4294967296 + a) * P = P * 4294967296 + a * P := by grind
  omega
theorem nB {U : List Nat} {k br x M N : Nat} (hk : k < U.length) (h : natOf U + M = N + br * 4294967296 ^ k) :
  (x + br ≤ U.getD k 0 → natOf (U.set k (U.getD k 0 - (x + br))) + (M + x * 4294967296 ^ k) = N) ∧
  (x + br ≤ 4294967296 + U.getD k 0 → natOf (U.set k (4294967296 + U.getD k 0 - (x + br))) + (M + x * 4294967296 ^ k) = N + 1 * 4294967296 ^ (k + 1)) := by
 constructor
 ·intro hle
  have h1 := cS (v := U.getD k 0 - (x + br)) hk
  generalize U.getD k 0 = a at *
  obtain ⟨d, rfl⟩ : ∃ d, a = x + br + d := ⟨a - (x + br), by omega⟩
  rw [show x + br + d - (x + br) = d by omega] at *
  generalize 4294967296 ^ k = P at *
  have e : (x + br + d) * P = x * P + br * P + d * P := by grind
  omega
 ·intro hle
  have h1 := cS (v := 4294967296 + U.getD k 0 - (x + br)) hk
  generalize U.getD k 0 = a at *
  obtain ⟨d, hd⟩ : ∃ d, 4294967296 + a = x + br + d := ⟨4294967296 + a - (x + br), by omega⟩
  rw [show 4294967296 + a - (x + br) = d by omega] at *
  rw [ef, Nat.one_mul]
  generalize 4294967296 ^ k = P at *
  have e : (4294967296 + a) * P = (x + br + d) * P := by rw [hd]
  have e1 : (x + br + d) * P = x * P + br * P + d * P := by grind
  have e2 : (4294967296 + a) * P = P * 4294967296 + a * P := by grind
  omega
theorem nC {U : List Nat} {k c x N : Nat} (hk : k < U.length) (h : natOf U + c * 4294967296 ^ k = N) :
  natOf (U.set k ((c + (U.getD k 0 + x)) % 4294967296)) + (c + (U.getD k 0 + x)) / 4294967296 * 4294967296 ^ (k + 1) = N + x * 4294967296 ^ k := by
 have h1 := cS (v := (c + (U.getD k 0 + x)) % 4294967296) hk
 have h2 := Nat.mod_add_div (c + (U.getD k 0 + x)) 4294967296
 rw [ef]
 generalize (c + (U.getD k 0 + x)) % 4294967296 = r at *
 generalize (c + (U.getD k 0 + x)) / 4294967296 = q at *
 generalize U.getD k 0 = a at *
 generalize 4294967296 ^ k = P at *
 have e : r * P + q * (P * 4294967296) = (c + (a + x)) * P := by rw [← h2]; grind
 have e2 : (c + (a + x)) * P = c * P + a * P + x * P := by grind
 omega
theorem sB {r m X b Q : Nat} (h : b * Q + r = X) (_hb : 0 < b) : b * ((r * 4294967296 + m) / b + 4294967296 * Q) + (r * 4294967296 + m) % b = m + 4294967296 * X := by
 have h2 := Nat.div_add_mod (r * 4294967296 + m) b
 rw [Nat.mul_add, ← h]
 generalize (r * 4294967296 + m) / b = y at *
 generalize (r * 4294967296 + m) % b = z at *
 grind
theorem tV {S : List Nat} {k c m s N : Nat} (hk : k < S.length) (h0 : S.getD k 0 = 0) (h : natOf S + c * 4294967296 ^ k = N) (hc : c < 2 ^ s) :
  natOf (S.set k ((c ||| m <<< s) % 4294967296)) + (c ||| m <<< s) / 4294967296 * 4294967296 ^ (k + 1) = N + m * 2 ^ s * 4294967296 ^ k := by
 have e : c ||| m <<< s = c + (m * 2 ^ s + 0) := by
  rw [Nat.or_comm, ← Nat.shiftLeft_add_eq_or_of_lt hc, Nat.shiftLeft_eq]; omega
 rw [e, lZ hk h0 h, Nat.add_zero]
theorem sC {c m s : Nat} (hc : c < 2 ^ s) (hm : m < 4294967296) : (c ||| m <<< s) / 4294967296 < 2 ^ s := by
 have e : c ||| m <<< s = m * 2 ^ s + c := by rw [Nat.or_comm, ← Nat.shiftLeft_add_eq_or_of_lt hc, Nat.shiftLeft_eq]
 rw [e]
 refine (Nat.div_lt_iff_lt_mul (by decide)).2 ?_
 have : (m + 1) * 2 ^ s ≤ 4294967296 * 2 ^ s := Nat.mul_le_mul_right _ hm
 rw [Nat.add_mul, Nat.one_mul] at this
 have h2 := Nat.mul_comm 4294967296 (2 ^ s)
 omega
def shrL (s : Nat) : List Nat → List Nat
 | [] => []
 | d :: ds => (d + 4294967296 * ds.headD 0) / 2 ^ s % 4294967296 :: shrL s ds
theorem l0 (s : Nat) : ∀ l, (shrL s l).length = l.length
 | [] => rfl
 | d :: ds => by simp [shrL, l0 s ds]
theorem pD (s : Nat) : ∀ l, Lim (shrL s l)
 | [] => fun d hd => by simp [shrL] at hd
 | d :: ds => fun x hx => by
  rcases List.mem_cons.1 hx with e | e
  ·rw [e]; exact Nat.mod_lt _ (by decide)
  ·exact pD s ds x e
theorem ma {s : Nat} (hs : s ≤ 32) : ∀ {l : List Nat}, Lim l → natOf (shrL s l) = natOf l / 2 ^ s
 | [], _ => by simp [shrL, natOf]
 | d :: ds, h => by
  have hd : d < 4294967296 := h d (by simp)
  have hds : Lim ds := fun x hx => h x (by simp [hx])
  have ih := ma hs hds
  obtain ⟨Y, hY⟩ : ∃ Y, natOf ds = ds.headD 0 + 4294967296 * Y := by
   cases ds with
   | nil => exact ⟨0, rfl⟩
   | cons x xs => exact ⟨natOf xs, rfl⟩
  show (d + 4294967296 * ds.headD 0) / 2 ^ s % 4294967296 + 4294967296 * natOf (shrL s ds) = (d + 4294967296 * natOf ds) / 2 ^ s
  rw [ih]
  have hT : 4294967296 = 2 ^ s * 2 ^ (32 - s) := by rw [← Nat.pow_add, show s + (32 - s) = 32 by omega]
  have hS : 0 < 2 ^ s := Nat.two_pow_pos s
  generalize 2 ^ s = S at *
  generalize 2 ^ (32 - s) = T at *
  generalize ds.headD 0 = x0 at *
  generalize natOf ds = X at *
  have key : ∀ Z, (d + 4294967296 * Z) / S = d / S + T * (Z % S) + 4294967296 * (Z / S) := fun Z => by
   have h1 := Nat.mod_add_div Z S
   have e : d + 4294967296 * Z = d + S * (T * (Z % S) + 4294967296 * (Z / S)) := by
    conv => lhs; rw [← h1]
    rw [hT]; grind
   rw [e, Nat.add_mul_div_left _ _ hS]
   omega
  rw [key x0, key X]
  have hmod : X % S = x0 % S := by
   rw [hY, hT, Nat.mul_assoc, Nat.add_mul_mod_self_left]
  rw [hmod]
  have hlt : d / S + T * (x0 % S) < 4294967296 := by
   have h1 : d / S < T := (Nat.div_lt_iff_lt_mul hS).2 (by rw [Nat.mul_comm, ← hT]; exact hd)
   have h2 : x0 % S < S := Nat.mod_lt _ hS
   have h3 : T * (x0 % S + 1) ≤ T * S := Nat.mul_le_mul_left _ h2
   rw [Nat.mul_add, Nat.mul_one] at h3
   have h4 := Nat.mul_comm T S
   omega
  rw [Nat.add_mul_mod_self_left, Nat.mod_eq_of_lt hlt]
theorem nD (s : Nat) : ∀ (l : List Nat) (k : Nat), k < l.length → (shrL s l).getD k 0 = (l.getD k 0 + 4294967296 * l.getD (k + 1) 0) / 2 ^ s % 4294967296
 | [], k, h => absurd h (by simp)
 | d :: ds, 0, _ => by
  show (d + 4294967296 * ds.headD 0) / 2 ^ s % 4294967296 = (d + 4294967296 * (d :: ds).getD 1 0) / 2 ^ s % 4294967296
  cases ds <;> rfl
 | d :: ds, k + 1, h => by
  show (shrL s ds).getD k 0 = (ds.getD k 0 + 4294967296 * ds.getD (k + 1) 0) / 2 ^ s % 4294967296
  exact nD s ds k (by simpa using h)
theorem bS {l : List Nat} {k : Nat} (h : l.length ≤ k) : natOf (l.take k) = natOf l := by rw [List.take_of_length_le h]
theorem bM (l : List Nat) (k : Nat) : natOf (l.take (k + 1)) = natOf (l.take k) + l.getD k 0 * 4294967296 ^ k := by
 by_cases h : k < l.length
 ·exact bR h
 ·rw [bS (by omega), bS (by omega), List.getD_eq_getElem?_getD, List.getElem?_eq_none (by omega)]; simp
theorem Lim.snoc {l : List Nat} {d : Nat} (h : Lim l) (hd : d < 4294967296) : Lim (l ++ [d]) := fun x hx => by
 rcases List.mem_append.1 hx with h' | h'
 ·exact h x h'
 ·rw [List.mem_singleton.1 h']; exact hd
theorem nE {S : List Nat} {c t N M : Nat} (h : natOf S + c * 4294967296 ^ S.length = N) (ht : t = c + M) :
  natOf (S ++ [t % 4294967296]) + t / 4294967296 * 4294967296 ^ (S.length + 1) = N + M * 4294967296 ^ S.length := by
 rw [dG, ef]
 have h2 := Nat.mod_add_div t 4294967296
 generalize t % 4294967296 = r at *
 generalize t / 4294967296 = q at *
 generalize 4294967296 ^ S.length = P at *
 have e : P * r + q * (P * 4294967296) = t * P := by rw [← h2]; grind
 have e2 : t * P = c * P + M * P := by rw [ht, Nat.add_mul]
 omega
theorem tW {S : List Nat} {br a x M N : Nat} (h : natOf S + M = N + br * 4294967296 ^ S.length) :
  (x + br ≤ a → natOf (S ++ [a - (x + br)]) + (M + x * 4294967296 ^ S.length) = N + a * 4294967296 ^ S.length) ∧
  (x + br ≤ 4294967296 + a → natOf (S ++ [4294967296 + a - (x + br)]) + (M + x * 4294967296 ^ S.length) = N + a * 4294967296 ^ S.length + 1 * 4294967296 ^ (S.length + 1)) := by
 rw [ef]
 constructor
 ·intro hle
  rw [dG]
  obtain ⟨d, rfl⟩ : ∃ d, a = x + br + d := ⟨a - (x + br), by omega⟩
  rw [show x + br + d - (x + br) = d by omega]
  generalize 4294967296 ^ S.length = P at *
  have e : (x + br + d) * P = x * P + br * P + P * d := by grind
  omega
 ·intro hle
  rw [dG]
  obtain ⟨d, hd⟩ : ∃ d, 4294967296 + a = x + br + d := ⟨4294967296 + a - (x + br), by omega⟩
  rw [show 4294967296 + a - (x + br) = d by omega]
  generalize 4294967296 ^ S.length = P at *
  have e : (4294967296 + a) * P = (x + br + d) * P := by rw [hd]
  have e1 : (x + br + d) * P = x * P + br * P + P * d := by grind
  have e2 : (4294967296 + a) * P = P * 4294967296 + a * P := by grind
  omega
end Go.LM
namespace Go.W
section
variable {P : Program} {S : World → Prop} {ops : List Oper} {K : Env → World → Prop} {rest : List (Oper × Option Bool)} {ρ : Env} {w : World} {b : Option Bool} {kf : Bool} {d : Nat} {dst : Option Nat} {T T' : TypeId} {pos : String} {af : Array Edge}
theorem qG {x y : Operand} {m m' : Nat} {T'' : TypeId} (hx : ev ρ x = .int .u64 (m : Int)) (hy : ev ρ y = .int .u64 (m' : Int)) (h2 : m' ≤ 18446744073709551616)
  (h : RR P S ops K rest (upd ρ d (.int .u64 (((18446744073709551616 + m - m') % 18446744073709551616 : Nat) : Int))) w) : RR P S ops K ((⟨some d, .binOp .sub T' x y T'', T, pos, af, none⟩, b) :: rest) ρ w :=
 tF hx hy (by
  rw [show IntKind.u64.wrap ((m : Int) - (m' : Int)) = (((18446744073709551616 + m - m') % 18446744073709551616 : Nat) : Int) from (cY rfl).trans (by simp only [IntKind.bits]; omega)]
  exact h)
end
end Go.W
namespace Go.Proofs.YtpfhfldehaiokaaGreat
open Go.W Go.LM
def IntK (k : Nat) (w : World) (v : Value) (z : Int) : Prop := ∃ neg a c ls, v = .agg (intL neg a ls.length c).toArray ∧ Limbs w a c ls ∧ z = sgn neg (natOf ls) ∧ ls.length ≤ k
theorem IntK.ext {k : Nat} {w w' : World} {v : Value} {z : Int} (h : IntK k w v z) (e : Ex w w') : IntK k w' v z := by obtain ⟨neg, a, c, ls, h1, h2, h3⟩ := h; exact ⟨neg, a, c, ls, h1, h2.ext e, h3⟩
theorem IntK.mono {k k' : Nat} {w : World} {v : Value} {z : Int} (h : IntK k w v z) (e : k ≤ k') : IntK k' w v z := by obtain ⟨neg, a, c, ls, h1, h2, h3, h4⟩ := h; exact ⟨neg, a, c, ls, h1, h2, h3, Nat.le_trans h4 e⟩
theorem IntK.lt {k : Nat} {w : World} {v : Value} {z : Int} (h : IntK k w v z) : z.natAbs < 4294967296 ^ k := by
 obtain ⟨neg, a, c, ls, h1, h2, rfl, h4⟩ := h
 rw [dh]
 exact Nat.lt_of_lt_of_le (bQ h2.lim) (Nat.pow_le_pow_right (by decide) h4)
theorem IntC.k {lo k : Nat} {w : World} {v : Value} {z : Int} (h : IntC lo w v z) (hz : z.natAbs < 4294967296 ^ k) : IntK k w v z := by
 obtain ⟨neg, a, c, ls, h1, h2, rfl, h4, _, _⟩ := h
 rw [dh] at hz
 exact ⟨neg, a, c, ls, h1, h2, rfl, cR h4 hz⟩
theorem IntK.out {k : Nat} {w : World} {v : Value} {z : Int} (h : IntK k w v z) : ∃ cs : List Value, v = .agg cs.toArray ∧ cs.length = 2 ∧ cs.all Value.oneCell' = true := by
 obtain ⟨neg, a, c, ls, rfl, _⟩ := h; exact ⟨_, rfl, rfl, rfl⟩
def RetM (w : World) (p : List Nat → Prop) (v : Value) (w' : World) : Prop := ∃ ls a c, v = .slice a (List.length ls) c ∧ Limbs w' a c ls ∧ p ls ∧ Ex w w'
theorem pE {la lb : List Nat} {a b : Option Addr} {c d : Nat} {w : World} (ha : Limbs w a c la) (hb : Limbs w b d lb) (hla : la.length < 17592186044416) (hlb : lb.length < 17592186044416) :
  CallsR Tryz.prog 94 #[.slice a la.length c, .slice b lb.length d] w (RetM w fun ls => natOf ls = natOf la + natOf lb) := by
 refine aE (args := [_, _]) Tryz.func94 rfl rfl ?_
 repeat' (first|refine aj rfl ?_|refine aa ?_|refine ak ?_|refine ai rfl ?_|refine ah ?_|refine ay ?_)
 refine aW (ι := Nat × List Nat × Nat × Option Addr × Nat) [5, 6, 7, 8, 9, 10, 11, 12, 13, 14, 15, 16, 17, 18, 19, 20, 21, 22, 23, 24, 25, 26, 27, 28, 29, 30, 31, 32, 33, 34, 35, 36, 37, 38, 39, 40, 41, 42, 43, 44, 45, 46, 47, 48] (fun s => [(7, .int .i64 (s.1 : Int)), (5, .slice s.2.2.2.1 s.1 s.2.2.2.2), (6, .int .u64 (s.2.2.1 : Int))])
  (fun s w' => (s.1 ≤ la.length ∨ s.1 ≤ lb.length) ∧ s.2.1.length = s.1 ∧ Own w' w.heap.size 85 1 s.2.2.2.1 s.1 s.2.2.2.2 (limbsL s.2.1) ∧ Lim s.2.1 ∧ s.2.2.1 ≤ 1 ∧ natOf s.2.1 + s.2.2.1 * 4294967296 ^ s.1 = natOf (la.take s.1) + natOf (lb.take s.1) ∧ Ex w w')
  (fun s => la.length + lb.length - s.1) (0, [], 0, none, 0) ⟨rfl, rfl, rfl, trivial⟩ ⟨by simp, rfl, Own.nil _ _ _ _, by intro d hd; simp at hd, by simp, by simp [natOf], Ex.refl _⟩ ?_
 rintro ⟨i, S, cy, o, cap⟩ ξ w1 ⟨hi, hS, hO, hL, hcy, hN, hE⟩
 simp only at hi hS hO hL hcy hN
 show CW _ _ _ _ (over [(7, .int .i64 (i : Int)), (5, .slice o i cap), (6, .int .u64 (cy : Int))] _) w1
 have ha1 := ha.ext hE
 have hb1 := hb.ext hE
 have hxa := ha.lim.getD i
 have hxb := hb.lim.getD i
 have za : la.length ≤ i → la.getD i 0 = 0 := fun h => by rw [List.getD_eq_getElem?_getD, List.getElem?_eq_none h]; rfl
 have zb : lb.length ≤ i → lb.getD i 0 = 0 := fun h => by rw [List.getD_eq_getElem?_getD, List.getElem?_eq_none h]; rfl
 have fin : ∀ (t : Nat) (o' : Option Addr) (cap' : Nat) (w2 : World), (i < la.length ∨ i < lb.length) → t = cy + (la.getD i 0 + lb.getD i 0) → Own w2 w.heap.size 85 1 o' (i + 1) cap' (limbsL (S ++ [t % 4294967296])) → w1.grownBy w2 (Value.slice o i cap).ownBlock →
   ((i + 1 ≤ la.length ∨ i + 1 ≤ lb.length) ∧ (S ++ [t % 4294967296]).length = i + 1 ∧ Own w2 w.heap.size 85 1 o' (i + 1) cap' (limbsL (S ++ [t % 4294967296])) ∧ Lim (S ++ [t % 4294967296]) ∧ t / 4294967296 ≤ 1 ∧ natOf (S ++ [t % 4294967296]) + t / 4294967296 * 4294967296 ^ (i + 1) = natOf (la.take (i + 1)) + natOf (lb.take (i + 1)) ∧ Ex w w2) := by
  intro t o' cap' w2 hii ht hO' hg
  refine ⟨by omega, by simp [hS], hO', hL.snoc (Nat.mod_lt _ (by decide)), by omega, ?_, hO.grow_ex hg hE (Nat.le_refl _)⟩
  subst hS
  rw [nE hN ht, bM, bM, Nat.add_mul]
  omega
 repeat' (first|(refine az rfl rfl (ha1.sl.plain (by simp; omega)) (by omega) ?_)|refine bI rfl ha1.sl (by omega) ?_|(refine az rfl rfl (hb1.sl.plain (by simp; omega)) (by omega) ?_)|refine bI rfl hb1.sl (by omega) ?_|refine iw rfl (by assumption) ?_|refine fc rfl rfl (by omega) ?_|refine dR rfl ?_|refine ez rfl rfl ?_|refine od rfl rfl rfl rfl hO (by omega) (by omega) hE.size (fun gx o2 c2 w2 hO2 hg2 hA2 => ?_)|refine aj rfl ?_|refine aa ?_|refine ak ?_|refine ai rfl ?_|refine ah ?_|refine bc rfl ?_|refine bJ rfl rfl ?_|refine bY rfl rfl ?_|refine gW rfl rfl (fun hc => ?_) (fun hc => ?_)|refine aV rfl rfl (by omega) (by omega) ?_|refine aA rfl ?_|refine aQ rfl (fun hc => ?_) (fun hc => ?_)|refine ay ?_|refine aT ?_|refine aO ?_|refine aU ?_|refine aJ ?_|refine aK ?_|refine aC ?_)
 all_goals first
  | (exfalso; omega)
  | (refine ⟨⟨(i + 1, _, _, o2, c2), fin _ o2 c2 w2 (by omega) (by omega) hO2 hg2, by simp only; omega, rfl, rfl, rfl, trivial⟩, (by (repeat (first|exact aG _ _ _|refine aB rfl ?_|refine ax rfl ?_|refine av rfl ?_|refine aw rfl ?_)))⟩; done)
  | skip
 have hla2 := bS (l := la) (k := i) (by omega)
 have hlb2 := bS (l := lb) (k := i) (by omega)
 refine bo rfl (rt rfl) ⟨S ++ [cy % 4294967296], o2, c2, by rw [List.length_append, hS]; rfl, ⟨hO2.sl, by have := hO2.cap; simp; omega, hL.snoc (Nat.mod_lt _ (by decide)), by simp; omega⟩, ?_, hO.grow_ex hg2 hE (Nat.le_refl _)⟩
 show natOf (S ++ [cy % 4294967296]) = _
 rw [dG, hS, Nat.mod_eq_of_lt (by omega), Nat.mul_comm, hN, hla2, hlb2]
theorem eh {la lb : List Nat} {a b : Option Addr} {c d : Nat} {w : World} (ha : Limbs w a c la) (hb : Limbs w b d lb) (hab : natOf lb ≤ natOf la) (cb : Canon lb) (_ca : Canon la) :
  CallsR Tryz.prog 96 #[.slice a la.length c, .slice b lb.length d] w (RetM w fun ls => natOf ls = natOf la - natOf lb) := by
 have hll : lb.length ≤ la.length := cR cb (Nat.lt_of_le_of_lt hab (bQ ha.lim))
 have hlen := ha.len
 refine aE (args := [_, _]) Tryz.func96 rfl rfl ?_
 repeat' (first|refine aj rfl ?_|refine aa ?_|refine ak ?_|refine ai rfl ?_|refine ah ?_|refine ay ?_)
 refine aW (ι := Nat × List Nat × Nat × Option Addr × Nat) [5, 6, 7, 8, 9, 10, 11, 12, 13, 14, 15, 16, 17, 18, 19, 20, 21, 22, 23, 24, 25, 26, 27, 28, 29, 30, 31, 32, 33, 34, 35, 36, 37, 38, 39, 40, 41, 42, 43, 44] (fun s => [(7, .int .i64 (s.1 : Int)), (5, .slice s.2.2.2.1 s.1 s.2.2.2.2), (6, .int .u64 (s.2.2.1 : Int))])
  (fun s w' => s.1 ≤ la.length ∧ s.2.1.length = s.1 ∧ Own w' w.heap.size 85 1 s.2.2.2.1 s.1 s.2.2.2.2 (limbsL s.2.1) ∧ Lim s.2.1 ∧ s.2.2.1 ≤ 1 ∧ natOf s.2.1 + natOf (lb.take s.1) = natOf (la.take s.1) + s.2.2.1 * 4294967296 ^ s.1 ∧ Ex w w')
  (fun s => la.length - s.1) (0, [], 0, none, 0) ⟨rfl, rfl, rfl, trivial⟩ ⟨by simp, rfl, Own.nil _ _ _ _, by intro d hd; simp at hd, by simp, by simp [natOf], Ex.refl _⟩ ?_
 rintro ⟨i, S, br, o, cap⟩ ξ w1 ⟨hi, hS, hO, hL, hbr, hN, hE⟩
 simp only at hi hS hO hL hbr hN
 show CW _ _ _ _ (over [(7, .int .i64 (i : Int)), (5, .slice o i cap), (6, .int .u64 (br : Int))] _) w1
 have ha1 := ha.ext hE
 have hb1 := hb.ext hE
 have hxa := ha.lim.getD i
 have hxb := hb.lim.getD i
 have zb : lb.length ≤ i → lb.getD i 0 = 0 := fun h => by rw [List.getD_eq_getElem?_getD, List.getElem?_eq_none h]; rfl
 have fin : ∀ (v br' : Nat) (o' : Option Addr) (cap' : Nat) (w2 : World), i < la.length → (lb.getD i 0 + br ≤ la.getD i 0 ∧ v = la.getD i 0 - (lb.getD i 0 + br) ∧ br' = 0 ∨ la.getD i 0 < lb.getD i 0 + br ∧ v = 4294967296 + la.getD i 0 - (lb.getD i 0 + br) ∧ br' = 1) → Own w2 w.heap.size 85 1 o' (i + 1) cap' (limbsL (S ++ [v])) → w1.grownBy w2 (Value.slice o i cap).ownBlock →
   (i + 1 ≤ la.length ∧ (S ++ [v]).length = i + 1 ∧ Own w2 w.heap.size 85 1 o' (i + 1) cap' (limbsL (S ++ [v])) ∧ Lim (S ++ [v]) ∧ br' ≤ 1 ∧ natOf (S ++ [v]) + natOf (lb.take (i + 1)) = natOf (la.take (i + 1)) + br' * 4294967296 ^ (i + 1) ∧ Ex w w2) := by
  intro v br' o' cap' w2 hii hv hO' hg
  refine ⟨by omega, by simp [hS], hO', hL.snoc (by omega), by omega, ?_, hO.grow_ex hg hE (Nat.le_refl _)⟩
  subst hS
  rw [bM, bM]
  have hst := tW (a := la.getD S.length 0) (x := lb.getD S.length 0) hN
  rcases hv with ⟨h1, rfl, rfl⟩ | ⟨h1, rfl, rfl⟩
  ·rw [hst.1 h1, Nat.zero_mul]; rfl
  ·rw [hst.2 (by omega)]
 repeat' (first|(refine az rfl rfl (ha1.sl.plain (by simp; omega)) (by omega) ?_)|refine bI rfl ha1.sl (by omega) ?_|(refine az rfl rfl (hb1.sl.plain (by simp; omega)) (by omega) ?_)|refine bI rfl hb1.sl (by omega) ?_|refine iw rfl (by assumption) ?_|refine fc rfl rfl (by omega) ?_|refine dR rfl ?_|refine qG rfl rfl (by omega) ?_|refine od rfl rfl rfl rfl hO (by omega) (by omega) hE.size (fun gx o2 c2 w2 hO2 hg2 hA2 => ?_)|refine bI rfl (ha.ext (hO.grow_ex hg2 hE (Nat.le_refl _))).sl (by omega) ?_|refine aj rfl ?_|refine aa ?_|refine ak ?_|refine ai rfl ?_|refine ah ?_|refine bc rfl ?_|refine aV rfl rfl (by omega) (by omega) ?_|refine aQ rfl (fun hc => ?_) (fun hc => ?_)|refine ay ?_|refine aT ?_|refine aO ?_|refine aU ?_|refine aJ ?_|refine aK ?_|refine aC ?_)
 all_goals first
  | (refine ⟨⟨(i + 1, _, 1, o2, c2), fin _ 1 o2 c2 w2 (by omega) (by omega) hO2 hg2, by simp only; omega, rfl, rfl, rfl, trivial⟩, (by (repeat (first|exact aG _ _ _|refine aB rfl ?_|refine ax rfl ?_|refine av rfl ?_|refine aw rfl ?_)))⟩; done)
  | (refine ⟨⟨(i + 1, _, 0, o2, c2), fin _ 0 o2 c2 w2 (by omega) (by omega) hO2 hg2, by simp only; omega, rfl, rfl, rfl, trivial⟩, (by (repeat (first|exact aG _ _ _|refine aB rfl ?_|refine ax rfl ?_|refine av rfl ?_|refine aw rfl ?_)))⟩; done)
  | skip
 have hla2 := bS (l := la) (k := i) (by omega)
 have hlb2 := bS (l := lb) (k := i) (by omega)
 have hi2 : i = la.length := by omega
 have hlt : natOf S < 4294967296 ^ i := by rw [← hS]; exact bQ hL
 rw [hla2, hlb2] at hN
 have hbr0 : br = 0 := by
  rcases Nat.eq_zero_or_pos br with h | h
  ·exact h
  ·have : br = 1 := by omega
   rw [this, Nat.one_mul] at hN
   omega
 rw [hbr0, Nat.zero_mul] at hN
 refine bo rfl (rt rfl) ⟨S, o, cap, by rw [hS]; rfl, ⟨hO.sl, by have := hO.cap; omega, hL, by omega⟩, ?_, hE⟩
 show natOf S = _
 omega
end Go.Proofs.YtpfhfldehaiokaaGreat
