import Derived.Test.YtpfhfldehaiokaaGreatA06
set_option maxHeartbeats 2000000
namespace Go.Proofs.YtpfhfldehaiokaaGreat
open Go.W Go.LM
theorem iA {k : Nat} {v : Value} {x : Int} {w : World} (h1 : IntK k w v x) : CallsR Tryz.prog 29 #[v] w (RetZ w (-x)) := by
 obtain ⟨n1, a1, c1, l1, rfl, hL1, rfl, _⟩ := h1
 refine aE (args := [_]) Tryz.func29 rfl rfl ?_
 refine ak ?_
 refine ai rfl ?_
 refine bC rfl (fun g1 w1 hn1 => tvv ?_)
 refine aH (fun g2 w2 hn2 => tvv ?_)
 have hb1 := hn1.blk.ext hn2.ex
 have hb2 : Blk w2 g2 34 (intL false none 0 0) := hn2.blk
 have hE := hn1.ex.trans hn2.ex
 repeat' (first|refine aP rfl hb1 rfl ?_|refine wL rfl ?_|refine aa ?_|refine ak ?_|refine ai rfl ?_|refine ah ?_|refine aM rfl ?_)
 refine au (bi (hL1.ext hE) _) rfl ?_
 rintro v w3 ⟨hI, hE3⟩
 obtain ⟨ng, a', c', ls, rfl, hI'⟩ := id hI
 refine tvv ?_
 refine aF (n := 2) rfl rfl rfl rfl (hb2.ext hE3) rfl (fun w4 hc4 hb4 => tvv ?_)
 repeat' (first|refine aa ?_|refine ah ?_|refine aK ?_)
 have l2 := hn2.lo
 have l2' := hn2.hi
 have s1 := hn1.ex.size
 refine bo rfl (rc rfl rfl hb4) ⟨?_, (hE.trans hE3).chg hc4 (by omega)⟩
 have hr := (hI.chg hc4 (by omega)).mono (lo' := w.heap.size) (by omega)
 have e : sgn (!n1) (natOf l1) = -sgn n1 (natOf l1) := by unfold sgn; cases n1 <;> simp
 rwa [e] at hr
theorem du {k : Nat} {v : Value} {x : Int} {w : World} (h1 : IntK k w v x) : CallsR Tryz.prog 25 #[v] w fun r w' => r = .int .i64 x.sign ∧ Ex w w' := by
 obtain ⟨n1, a1, c1, l1, rfl, hL1, rfl, _⟩ := h1
 refine aE (args := [_]) Tryz.func25 rfl rfl ?_
 repeat' (first|refine bC rfl (fun g1 w1 hn1 => tvv ?_)|refine aP rfl hn1.blk rfl ?_|refine aj rfl ?_|refine aa ?_|refine ak ?_|refine ai rfl ?_|refine ah ?_|refine aM rfl ?_|refine ay ?_)
 refine au (bW (hL1.ext hn1.ex)) rfl ?_
 rintro v w2 ⟨a2, c2, rfl, hL2, hf2, hE2⟩
 refine tvv ?_
 have hb2 := hn1.blk.ext hE2
 have hz : (trimL l1).length = 0 ↔ natOf l1 = 0 := by
  rw [← cI]
  exact List.length_eq_zero_iff
 repeat' (first|refine aP rfl hb2 rfl ?_|refine aj rfl ?_|refine aa ?_|refine ak ?_|refine ai rfl ?_|refine ah ?_|refine bc rfl ?_|refine aM rfl ?_|refine aQ rfl (fun hc => ?_) (fun hc => ?_)|refine gT rfl (fun hc => ?_) (fun hc => ?_)|refine aJ ?_|refine aK ?_|refine bf ?_|refine cj ?_|refine aC ?_)
 ·refine bo rfl (rt rfl) ⟨?_, hn1.ex.trans hE2⟩
  have : natOf l1 = 0 := hz.1 (by omega)
  rw [this]; cases n1 <;> rfl
 ·refine bo rfl (rt rfl) ⟨?_, hn1.ex.trans hE2⟩
  have : natOf l1 ≠ 0 := fun e => by have := hz.2 e; omega
  subst_vars
  show Value.int .i64 (-1) = _
  rw [show (sgn true (natOf l1)).sign = -1 by unfold sgn; rw [if_pos rfl]; exact Int.sign_eq_neg_one_of_neg (by omega)]
 ·refine bo rfl (rt rfl) ⟨?_, hn1.ex.trans hE2⟩
  have : natOf l1 ≠ 0 := fun e => by have := hz.2 e; omega
  subst_vars
  show Value.int .i64 1 = _
  rw [show (sgn false (natOf l1)).sign = 1 by unfold sgn; rw [if_neg (by decide)]; exact Int.sign_eq_one_of_pos (by omega)]
theorem kZ {m n : Nat} : 0 ≤ cmpZ m n ↔ n ≤ m := by
 unfold cmpZ
 split
 ·constructor <;> intro h <;> omega
 ·split
  ·constructor <;> intro h <;> omega
  ·constructor <;> intro h <;> omega
theorem cu {p q : Nat} {v1 v2 : Value} {x y : Int} {w : World} (h1 : IntK p w v1 x) (h2 : IntK q w v2 y) (hp : p < 17592186044416) (hq : q < 17592186044416) :
  CallsR Tryz.prog 58 #[v1, v2] w (RetZ w (x + y)) := by
 obtain ⟨n1, a1, c1, l1, rfl, hL1, rfl, hp1⟩ := h1
 obtain ⟨n2, a2, c2, l2, rfl, hL2, rfl, hq1⟩ := h2
 have tl1 := cX l1
 have tl2 := cX l2
 refine aE (args := [_, _]) Tryz.func58 rfl rfl ?_
 refine ak ?_
 refine ai rfl ?_
 refine bC rfl (fun g2 w2 hn2 => tvv ?_)
 refine bC rfl (fun g3 w3 hn3 => tvv ?_)
 refine aH (fun g4 w4 hn4 => tvv ?_)
 have hb2 := (hn2.blk.ext hn3.ex).ext hn4.ex
 have hb3 := hn3.blk.ext hn4.ex
 have hb4 : Blk w4 g4 34 (intL false none 0 0) := hn4.blk
 have hE := (hn2.ex.trans hn3.ex).trans hn4.ex
 have l4 := hn4.lo
 have l4' := hn4.hi
 have s3 := (hn2.ex.trans hn3.ex).size
 have s4 := hE.size
 repeat' (first|refine aa ?_|refine ak ?_|refine ah ?_)
 refine bn (late := []) (plan := [(0, none), (1, none), (3, none), (4, none), (2, some true), (5, some true), (6, none), (7, none)]) (fun w' => Ex w4 w') bD (by kernel_rfl) (Ex.refl w4).drew ?_
 have hE4d : Ex w4 w4.drew := (Ex.refl w4).drew
 repeat' (first|refine aP rfl (fun _ h => hb2.ext h) rfl ?_|refine aP rfl (fun _ h => hb3.ext h) rfl ?_|refine aM rfl ?_)
 refine au (bW (hL1.ext (hE.trans hE4d))) rfl ?_
 rintro v w6 ⟨a6, c6, rfl, hL6, hf6, hE6⟩
 refine ⟨fun _ h => h.trans hE6, ?_⟩
 refine au (bW (hL2.ext ((hE.trans hE4d).trans hE6))) rfl ?_
 rintro v w7 ⟨a7, c7, rfl, hL7, hf7, hE7⟩
 refine ⟨fun _ h => h.trans hE7, ?_⟩
 have hE47 : Ex w4 w7 := (hE4d.trans hE6).trans hE7
 have hL67 := hL6.ext hE7
 have hb27 := hb2.ext hE47
 have hb37 := hb3.ext hE47
 have hE7d : Ex w7 w7.drew := (Ex.refl w7).drew
 have hE47d := hE47.trans hE7d
 have fin : ∀ {ng nn : Bool} {ls : List Nat} {m : Nat} {w9 w10 : World} {v : Value}, Ex w7 w9 → IntC w9.heap.size w10 v (sgn nn m) → Ex w9 w10 → ∀ w11, Chg g4 w10 w11 → sgn nn m = sgn n1 (natOf l1) + sgn n2 (natOf l2) → RetZ w (sgn n1 (natOf l1) + sgn n2 (natOf l2)) v w11 := by
  intro ng nn ls m w9 w10 v hE9 hI hE10 w11 hc11 he
  have s9 := (hE47.trans hE9).size
  refine ⟨?_, ((hE.trans hE47).trans (hE9.trans hE10)).chg hc11 (by omega)⟩
  rw [← he]
  exact (hI.chg hc11 (by omega)).mono (by omega)
 repeat' (first|refine aP rfl hb27 rfl ?_|refine aP rfl hb37 rfl ?_|refine aj rfl ?_|refine aa ?_|refine ak ?_|refine ai rfl ?_|refine ah ?_|refine aM rfl ?_|refine qv rfl rfl ?_|refine aQ rfl (fun hc => ?_) (fun hc => ?_)|refine aC ?_)
 ·refine bn (late := [5, 6]) (plan := [(0, none), (1, none), (2, none), (3, none), (4, some true), (5, some false), (6, some false)]) (fun w' => Ex w7 w') bD (by kernel_rfl) hE7d ?_
  repeat' (first|refine aP rfl (fun _ h => hb27.ext h) rfl ?_|refine aj rfl ?_|refine aM rfl ?_)
  refine au (pE (hL67.ext hE7d) (hL7.ext hE7d) (by omega) (by omega)) rfl ?_
  rintro v w9 ⟨ls, a9, c9, rfl, hL9, hv9, hE9⟩
  refine ⟨fun _ h => h.trans hE9, ?_⟩
  skip
  refine au (bi hL9 _) rfl ?_
  rintro v w10 ⟨hI, hE10⟩
  obtain ⟨ng, a', c', ls', rfl, hI'⟩ := id hI
  refine ⟨fun _ h => h.trans hE10, ?_⟩
  refine aF (n := 2) rfl rfl rfl rfl (hb4.ext ((hE47d.trans hE9).trans hE10)) rfl (fun w11 hc11 hb11 => ⟨fun h => (nomatch h), ?_⟩)
  repeat' (first|refine aa ?_|refine ah ?_|refine aK ?_|refine bf ?_)
  refine bo rfl (rc rfl rfl hb11) (fin (ng := ng) (ls := ls) (hE7d.trans hE9) hI hE10 w11 hc11 ?_)
  have hv : natOf ls = natOf l1 + natOf l2 := by rw [show natOf ls = _ from hv9, bh, bh]
  rw [hv]; subst_vars; unfold sgn; split <;> omega
 ·refine au (iy hL67 hL7 (bA _) (bA _)) rfl ?_
  rintro v w8 ⟨rfl, hE8⟩
  refine tvv ?_
  have hE8d := hE8.drew
  have hE48d := hE47.trans hE8d
  rw [bh, bh]
  have hge := kZ (m := natOf l1) (n := natOf l2)
  repeat' (first|refine aj rfl ?_|refine aa ?_|refine ak ?_|refine ah ?_|refine aQ rfl (fun hc => ?_) (fun hc => ?_)|refine aC ?_)
  ·refine bn (late := [5, 6]) (plan := [(0, none), (1, none), (2, none), (3, none), (4, some true), (5, some false), (6, some false)]) (fun w' => Ex w7 w') bD (by kernel_rfl) hE8d ?_
   repeat' (first|refine aP rfl (fun _ h => hb27.ext h) rfl ?_|refine aj rfl ?_|refine aM rfl ?_)
   refine au (eh (hL67.ext hE8d) (hL7.ext hE8d) (by rw [bh, bh]; omega) (bA _) (bA _)) rfl ?_
   rintro v w9 ⟨ls, a9, c9, rfl, hL9, hv9, hE9⟩
   refine ⟨fun _ h => h.trans hE9, ?_⟩
   skip
   refine au (bi hL9 _) rfl ?_
   rintro v w10 ⟨hI, hE10⟩
   obtain ⟨ng, a', c', ls', rfl, hI'⟩ := id hI
   refine ⟨fun _ h => h.trans hE10, ?_⟩
   refine aF (n := 2) rfl rfl rfl rfl (hb4.ext ((hE48d.trans hE9).trans hE10)) rfl (fun w11 hc11 hb11 => ⟨fun h => (nomatch h), ?_⟩)
   repeat' (first|refine aa ?_|refine ah ?_|refine aK ?_|refine bf ?_)
   refine bo rfl (rc rfl rfl hb11) (fin (ng := ng) (ls := ls) (hE8d.trans hE9) hI hE10 w11 hc11 ?_)
   have hv : natOf ls = natOf l1 - natOf l2 := by rw [show natOf ls = _ from hv9, bh, bh]
   rw [hv]; unfold sgn; cases n1 <;> cases n2 <;> simp at * <;> omega
  ·refine bn (late := [5, 6]) (plan := [(0, none), (1, none), (2, none), (3, none), (4, some true), (5, some false), (6, some false)]) (fun w' => Ex w7 w') bD (by kernel_rfl) hE8d ?_
   repeat' (first|refine aP rfl (fun _ h => hb37.ext h) rfl ?_|refine aj rfl ?_|refine aM rfl ?_)
   refine au (eh (hL7.ext hE8d) (hL67.ext hE8d) (by rw [bh, bh]; omega) (bA _) (bA _)) rfl ?_
   rintro v w9 ⟨ls, a9, c9, rfl, hL9, hv9, hE9⟩
   refine ⟨fun _ h => h.trans hE9, ?_⟩
   skip
   refine au (bi hL9 _) rfl ?_
   rintro v w10 ⟨hI, hE10⟩
   obtain ⟨ng, a', c', ls', rfl, hI'⟩ := id hI
   refine ⟨fun _ h => h.trans hE10, ?_⟩
   refine aF (n := 2) rfl rfl rfl rfl (hb4.ext ((hE48d.trans hE9).trans hE10)) rfl (fun w11 hc11 hb11 => ⟨fun h => (nomatch h), ?_⟩)
   repeat' (first|refine aa ?_|refine ah ?_|refine aK ?_)
   refine bo rfl (rc rfl rfl hb11) (fin (ng := ng) (ls := ls) (hE8d.trans hE9) hI hE10 w11 hc11 ?_)
   have hv : natOf ls = natOf l2 - natOf l1 := by rw [show natOf ls = _ from hv9, bh, bh]
   rw [hv]; unfold sgn; cases n1 <;> cases n2 <;> simp at * <;> omega
theorem pF {a b : Nat} (h : a ≤ b) : (4294967296 : Nat) ^ a ≤ 4294967296 ^ b := Nat.pow_le_pow_right (by decide) h
theorem kE {p q : Nat} {v1 v2 : Value} {x y : Int} {w : World} (h1 : IntK p w v1 x) (h2 : IntK q w v2 y) (hp : p < 17592186044416) (hq : q < 17592186044416) :
  CallsR Tryz.prog 27 #[v1, v2] w (RetZ w (x - y)) := by
 obtain ⟨vs1, rfl, hvl1, hvo1⟩ := h1.out
 obtain ⟨vs2, rfl, hvl2, hvo2⟩ := h2.out
 refine aE (args := [_, _]) Tryz.func27 rfl rfl ?_
 refine ak ?_
 refine ai rfl ?_
 refine bC rfl (fun g2 w2 hn2 => tvv ?_)
 refine bC rfl (fun g3 w3 hn3 => tvv ?_)
 refine aH (fun g4 w4 hn4 => tvv ?_)
 have hb2 := (hn2.blk.ext hn3.ex).ext hn4.ex
 have hb3 := hn3.blk.ext hn4.ex
 have hb4 : Blk w4 g4 34 (intL false none 0 0) := hn4.blk
 have hE := (hn2.ex.trans hn3.ex).trans hn4.ex
 have l4 := hn4.lo
 have l4' := hn4.hi
 have s3 := (hn2.ex.trans hn3.ex).size
 have s4 := hE.size
 repeat' (first|refine aa ?_|refine ak ?_|refine ah ?_)
 have hE4d : Ex w4 w4.drew := (Ex.refl w4).drew
 refine bn (late := [4]) (plan := [(0, none), (1, none), (2, some true), (3, some true), (4, some false)]) (fun w' => Ex w4 w') bD (by kernel_rfl) hE4d ?_
 repeat' (first|refine aY rfl (fun _ h => hb2.ext h) hvl1 ?_|refine aY rfl (fun _ h => hb3.ext h) hvl2 ?_)
 refine au (iA (h2.ext (hE.trans hE4d))) rfl ?_
 rintro v w5 ⟨hI5, hE5⟩
 refine ⟨fun _ h => h.trans hE5, ?_⟩
 skip
 have hlt : (-y).natAbs < 4294967296 ^ q := by rw [Int.natAbs_neg]; exact h2.lt
 refine au (cu (h1.ext ((hE.trans hE4d).trans hE5)) (hI5.k hlt) hp hq) rfl ?_
 rintro v w6 ⟨hI6, hE6⟩
 obtain ⟨vs6, rfl, hvl6, hvo6⟩ := hI6.out
 refine ⟨fun _ h => h.trans hE6, ?_⟩
 refine aF (n := 2) rfl rfl hvl6 hvo6 (hb4.ext ((hE4d.trans hE5).trans hE6)) rfl (fun w7 hc7 hb7 => ⟨fun h => (nomatch h), ?_⟩)
 repeat' (first|refine aa ?_|refine ah ?_|refine aK ?_)
 have s5 := (hE4d.trans hE5).size
 refine bo rfl (rc rfl hvl6 hb7) ⟨?_, ((hE.trans ((hE4d.trans hE5).trans hE6))).chg hc7 (by omega)⟩
 have := (hI6.chg hc7 (by omega)).mono (lo' := w.heap.size) (by omega)
 rwa [← Int.sub_eq_add_neg] at this
end Go.Proofs.YtpfhfldehaiokaaGreat
namespace Go.LM
theorem tX (j : Nat) : (2 : Nat) ^ (32 * j) = 4294967296 ^ j := by rw [Nat.pow_mul]
theorem pG : ∀ {l : List Nat} {j s : Nat}, Lim l → s < 32 → natOf l / 2 ^ (32 * j + s) % 2 = l.getD j 0 / 2 ^ s % 2
 | [], j, s, _, _ => by simp [natOf]
 | d :: l, 0, s, h, hs => by
  have hT : 4294967296 = 2 ^ s * (2 * 2 ^ (31 - s)) := by rw [← Nat.pow_succ', ← Nat.pow_add, show s + (31 - s + 1) = 32 by omega]
  have hS : 0 < 2 ^ s := Nat.two_pow_pos s
  show (d + 4294967296 * natOf l) / 2 ^ (32 * 0 + s) % 2 = d / 2 ^ s % 2
  rw [show 32 * 0 + s = s by omega]
  generalize 2 ^ s = S at *
  generalize 2 ^ (31 - s) = T at *
  rw [hT, Nat.mul_assoc, Nat.add_mul_div_left _ _ hS, Nat.mul_assoc, Nat.add_mul_mod_self_left]
 | d :: l, j + 1, s, h, hs => by
  have hd : d < 4294967296 := h d (by simp)
  have ih := pG (l := l) (j := j) (s := s) (fun x hx => h x (by simp [hx])) hs
  show (d + 4294967296 * natOf l) / 2 ^ (32 * (j + 1) + s) % 2 = (d :: l).getD (j + 1) 0 / 2 ^ s % 2
  rw [List.getD_cons_succ, ← ih, show 32 * (j + 1) + s = 32 + (32 * j + s) by omega, Nat.pow_add, ← Nat.div_div_eq_div_mul, show (2 : Nat) ^ 32 = 4294967296 from rfl,
   Nat.add_mul_div_left _ _ (by decide), Nat.div_eq_of_lt hd, Nat.zero_add]
theorem pH : ∀ {l : List Nat} {j t : Nat}, Lim l → t ≤ 32 → natOf l % 2 ^ (32 * j + t) = 0 → l.getD j 0 % 2 ^ t = 0
 | [], j, t, _, _, _ => by simp
 | d :: l, 0, t, h, ht, h0 => by
  have hT : 4294967296 = 2 ^ t * 2 ^ (32 - t) := by rw [← Nat.pow_add, show t + (32 - t) = 32 by omega]
  show d % 2 ^ t = 0
  have h1 : (d + 4294967296 * natOf l) % 2 ^ (32 * 0 + t) = 0 := h0
  rw [show 32 * 0 + t = t by omega] at h1
  generalize 2 ^ t = S at *
  rw [hT, Nat.mul_assoc, Nat.add_mul_mod_self_left] at h1
  exact h1
 | d :: l, j + 1, t, h, ht, h0 => by
  have hd : d < 4294967296 := h d (by simp)
  rw [List.getD_cons_succ]
  refine pH (fun x hx => h x (by simp [hx])) ht ?_
  have h1 : (d + 4294967296 * natOf l) % 2 ^ (32 * (j + 1) + t) = 0 := h0
  rw [show 32 * (j + 1) + t = 32 + (32 * j + t) by omega, Nat.pow_add, show (2 : Nat) ^ 32 = 4294967296 from rfl] at h1
  generalize 2 ^ (32 * j + t) = S at *
  obtain ⟨q, hq⟩ := Nat.dvd_of_mod_eq_zero h1
  rw [Nat.mul_assoc] at hq
  have : natOf l = S * q := by omega
  rw [this, Nat.mul_mod_right]
theorem vP {Q : List Nat} {i : Nat} (hL : Lim Q) (hi : i / 32 < Q.length) (h0 : natOf Q % 2 ^ (i + 1) = 0) :
  natOf (Q.set (i / 32) (Q.getD (i / 32) 0 ||| 2 ^ (i % 32))) = natOf Q + 2 ^ i ∧ Q.getD (i / 32) 0 ||| 2 ^ (i % 32) < 4294967296 := by
 have hlt := hL.getD (i / 32)
 have hm : Q.getD (i / 32) 0 % 2 ^ (i % 32 + 1) = 0 := pH hL (by omega) (by rw [show 32 * (i / 32) + (i % 32 + 1) = i + 1 by omega]; exact h0)
 have hor : Q.getD (i / 32) 0 ||| 2 ^ (i % 32) = Q.getD (i / 32) 0 + 2 ^ (i % 32) := by
  obtain ⟨q, hq⟩ := Nat.dvd_of_mod_eq_zero hm
  rw [hq]
  exact (Nat.two_pow_add_eq_or_of_lt (Nat.pow_lt_pow_right (by decide) (by omega)) q).symm
 constructor
 ·have h1 := cS (l := Q) (v := Q.getD (i / 32) 0 ||| 2 ^ (i % 32)) hi
  rw [hor, Nat.add_mul] at h1
  rw [hor]
  have e : 2 ^ (i % 32) * 4294967296 ^ (i / 32) = 2 ^ i := by rw [← tX, ← Nat.pow_add, show i % 32 + 32 * (i / 32) = i by omega]
  rw [e] at h1
  omega
 ·exact Nat.or_lt_two_pow (n := 32) hlt (Nat.pow_lt_pow_right (by decide) (by omega))
theorem vQ {N i d A b : Nat} (hd : 0 < d) (hA : A = N / 2 ^ (i + 1)) (hb : b = N / 2 ^ i % 2) :
  (2 * (A % d) + b < d → N / 2 ^ i % d = 2 * (A % d) + b ∧ N / 2 ^ i / d * 2 ^ i = A / d * 2 ^ (i + 1)) ∧
  (d ≤ 2 * (A % d) + b → N / 2 ^ i % d = 2 * (A % d) + b - d ∧ N / 2 ^ i / d * 2 ^ i = A / d * 2 ^ (i + 1) + 2 ^ i) := by
 have e : N / 2 ^ i = 2 * A + b := by subst hA hb; rw [Nat.pow_succ, ← Nat.div_div_eq_div_mul]; omega
 have hb2 : b < 2 := by omega
 have hr := Nat.mod_lt A hd
 have hq := Nat.div_add_mod A d
 rw [e]
 clear e hA hb
 generalize A % d = r0 at *
 generalize A / d = q at *
 constructor
 ·intro h
  have e2 : 2 * A + b = (2 * r0 + b) + d * (2 * q) := by grind
  rw [e2, Nat.add_mul_mod_self_left, Nat.add_mul_div_left _ _ hd, Nat.mod_eq_of_lt h, Nat.div_eq_of_lt h]
  exact ⟨rfl, by rw [Nat.pow_succ]; grind⟩
 ·intro h
  obtain ⟨t, ht⟩ : ∃ t, 2 * r0 + b = d + t := ⟨2 * r0 + b - d, by omega⟩
  have e2 : 2 * A + b = t + d * (2 * q + 1) := by grind
  have h3 : t < d := by omega
  rw [e2, Nat.add_mul_mod_self_left, Nat.add_mul_div_left _ _ hd, Nat.mod_eq_of_lt h3, Nat.div_eq_of_lt h3, ht]
  exact ⟨by omega, by rw [Nat.pow_succ]; grind⟩
theorem sD {x b : Nat} (hb : b ≤ 1) : ((x <<< 1) % 4294967296 ||| b) = (b + 2 * x) % 4294967296 ∧ x >>> 31 = (b + 2 * x) / 4294967296 := by
 have e : (x <<< 1) % 4294967296 = 2 ^ 1 * (x % 2147483648) := by rw [Nat.shiftLeft_eq]; omega
 rw [e, ← Nat.two_pow_add_eq_or_of_lt (show b < 2 ^ 1 by omega), Nat.shiftRight_eq_div_pow]
 omega
theorem mc {N D : Nat} (hD : 0 < D) :
  ((N : Int) / (D : Int) = ((N / D : Nat) : Int) ∧ (N : Int) % (D : Int) = ((N % D : Nat) : Int)) ∧
  ((N : Int) / (-(D : Int)) = -((N / D : Nat) : Int) ∧ (N : Int) % (-(D : Int)) = ((N % D : Nat) : Int)) ∧
  (N % D = 0 → (-(N : Int)) / (D : Int) = -((N / D : Nat) : Int) ∧ (-(N : Int)) % (D : Int) = 0 ∧ (-(N : Int)) / (-(D : Int)) = ((N / D : Nat) : Int) ∧ (-(N : Int)) % (-(D : Int)) = 0) ∧
  (N % D ≠ 0 → (-(N : Int)) / (D : Int) = -((N / D : Nat) : Int) - 1 ∧ (-(N : Int)) % (D : Int) = (D : Int) - ((N % D : Nat) : Int) ∧ (-(N : Int)) / (-(D : Int)) = ((N / D : Nat) : Int) + 1 ∧ (-(N : Int)) % (-(D : Int)) = (D : Int) - ((N % D : Nat) : Int)) := by
 have h1 := Nat.div_add_mod N D
 have h2 := Nat.mod_lt N hD
 have un : ∀ {x y q r : Int}, y ≠ 0 → 0 ≤ r → r < y.natAbs → x = y * q + r → x / y = q ∧ x % y = r := by
  intro x y q r hy h0 hr he
  have hm : x % y = r := by
   rw [he, Int.mul_add_emod_self_left]
   rcases Int.lt_or_lt_of_ne hy with h | h
   ·rw [← Int.emod_neg]; exact Int.emod_eq_of_lt h0 (by omega)
   ·exact Int.emod_eq_of_lt h0 (by omega)
  refine ⟨?_, hm⟩
  have := Int.mul_ediv_add_emod x y
  rw [hm] at this
  have h3 : y * (x / y) = y * q := by omega
  exact Int.eq_of_mul_eq_mul_left hy h3
 generalize N / D = q at *
 generalize N % D = r at *
 have hN : (N : Int) = (D : Int) * q + r := by rw [← h1]; simp
 refine ⟨un (by omega) (by omega) (by omega) hN, un (by omega) (by omega) (by omega) (by rw [hN]; grind), fun h0 => ?_, fun h0 => ?_⟩
 ·subst h0
  have a := un (x := -(N : Int)) (y := (D : Int)) (q := -(q : Int)) (r := 0) (by omega) (by omega) (by omega) (by rw [hN]; grind)
  have b := un (x := -(N : Int)) (y := -(D : Int)) (q := (q : Int)) (r := 0) (by omega) (by omega) (by omega) (by rw [hN]; grind)
  exact ⟨a.1, a.2, b.1, b.2⟩
 ·have a := un (x := -(N : Int)) (y := (D : Int)) (q := -(q : Int) - 1) (r := (D : Int) - r) (by omega) (by omega) (by omega) (by rw [hN]; grind)
  have b := un (x := -(N : Int)) (y := -(D : Int)) (q := (q : Int) + 1) (r := (D : Int) - r) (by omega) (by omega) (by omega) (by rw [hN]; grind)
  exact ⟨a.1, a.2, b.1, b.2⟩
end Go.LM
namespace Go.Proofs.YtpfhfldehaiokaaGreat
open Go.W Go.LM
theorem md {ls : List Nat} {a : Option Addr} {c bit : Nat} {w : World} (h : Limbs w a c ls) (hl : ls.length < 17592186044416) (hbit : bit ≤ 1) :
  CallsR Tryz.prog 129 #[.slice a ls.length c, .int .u32 (bit : Int)] w (RetM w fun r => natOf r = 2 * natOf ls + bit) := by
 refine aE (args := [_, _]) Tryz.func129 rfl rfl ?_
 repeat' (first|refine aj rfl ?_|refine aa ?_|refine ak ?_|refine ai rfl ?_|refine ah ?_|refine bc rfl ?_|refine ay ?_)
 refine aW (ι := Nat × List Nat × Nat × Option Addr × Nat) [1, 5, 7, 10, 11, 12, 13, 14, 15, 16, 17, 18, 19, 20, 21, 22, 23] (fun s => [(10, .int .i64 (s.1 : Int)), (5, .slice s.2.2.2.1 s.1 s.2.2.2.2), (1, .int .u32 (s.2.2.1 : Int))])
  (fun s w' => s.1 ≤ ls.length ∧ s.2.1.length = s.1 ∧ Own w' w.heap.size 85 1 s.2.2.2.1 s.1 s.2.2.2.2 (limbsL s.2.1) ∧ Lim s.2.1 ∧ s.2.2.1 ≤ 1 ∧ natOf s.2.1 + s.2.2.1 * 4294967296 ^ s.1 = 2 * natOf (ls.take s.1) + bit ∧ Ex w w')
  (fun s => ls.length - s.1) (0, [], bit, none, 0) ⟨rfl, rfl, rfl, trivial⟩ ⟨by simp, rfl, Own.nil _ _ _ _, by intro d hd; simp at hd, hbit, by simp [natOf], Ex.refl _⟩ ?_
 rintro ⟨i, S, cy, o, cap⟩ ξ w1 ⟨hi, hS, hO, hL, hcy, hN, hE⟩
 simp only at hi hS hO hL hcy hN
 show CW _ _ _ _ (over [(10, .int .i64 (i : Int)), (5, .slice o i cap), (1, .int .u32 (cy : Int))] _) w1
 have h1 := h.ext hE
 have hx := h.lim.getD i
 have hdd := sD (x := ls.getD i 0) hcy
 repeat' (first|(refine az rfl rfl (h1.sl.plain (by simp; omega)) (by omega) ?_)|refine bI rfl h1.sl (by omega) ?_|(refine j3 (j := 1) rfl rfl rfl (by simp only [IntKind.bits]; omega) ?_)|(refine lE rfl rfl rfl (Nat.mod_lt _ (by decide)) (by simp only [IntKind.bits]; omega) ?_)|refine dP (j := 31) rfl rfl (.inl rfl) ?_|refine od rfl rfl rfl rfl hO (by omega) (by omega) hE.size (fun gx o2 c2 w2 hO2 hg2 hA2 => ?_)|refine aj rfl ?_|refine aa ?_|refine ak ?_|refine ai rfl ?_|refine ah ?_|refine aV rfl rfl (by omega) (by omega) ?_|refine aQ rfl (fun hc => ?_) (fun hc => ?_)|refine ay ?_|refine aT ?_|refine aO ?_|refine aU ?_|refine aJ ?_|refine aK ?_|refine aC ?_)
 ·have hO3 : Own w2 w.heap.size 85 1 o2 (i + 1) c2 (limbsL (S ++ [(cy + 2 * ls.getD i 0) % 4294967296])) := by rw [← hdd.1]; exact hO2
  refine ⟨⟨(i + 1, S ++ [(cy + 2 * ls.getD i 0) % 4294967296], (cy + 2 * ls.getD i 0) / 4294967296, o2, c2), ⟨by simp only; omega, by simp [hS], hO3, hL.snoc (Nat.mod_lt _ (by decide)), by simp only; omega, ?_, hO.grow_ex hg2 hE (Nat.le_refl _)⟩, by simp only; omega, rfl, rfl, ?_, trivial⟩, (by (repeat (first|exact aG _ _ _|refine aB rfl ?_|refine ax rfl ?_|refine av rfl ?_|refine aw rfl ?_)))⟩
  ·subst hS
   show natOf (S ++ [(cy + 2 * ls.getD S.length 0) % 4294967296]) + _ = _
   rw [nE hN rfl, bM ls, Nat.mul_add, Nat.mul_assoc]
   omega
  ·show Value.int .u32 _ = _
   rw [hdd.2]
 ·have hi2 := bS (l := ls) (k := i) (by omega)
  refine bo rfl (rt rfl) ⟨S ++ [cy], o2, c2, by rw [List.length_append, hS]; rfl, ⟨hO2.sl, by have := hO2.cap; simp; omega, hL.snoc (by omega), by simp; omega⟩, ?_, hO.grow_ex hg2 hE (Nat.le_refl _)⟩
  show natOf (S ++ [cy]) = _
  rw [dG, hS, Nat.mul_comm, hN, hi2]
theorem me {la lb : List Nat} {a b : Option Addr} {c d : Nat} {w : World} (ha : Limbs w a c la) (hb : Limbs w b d lb) (hla : la.length < 17592186044416) (hlb : lb.length < 17592186044416) (cb : Canon lb) (hpos : 0 < natOf lb) :
  CallsR Tryz.prog 93 #[.slice a la.length c, .slice b lb.length d] w fun v w' => ∃ a1 c1 l1 a2 c2 l2, v = .tuple #[.slice a1 (List.length l1) c1, .slice a2 (List.length l2) c2] ∧
   Limbs w' a1 c1 l1 ∧ Limbs w' a2 c2 l2 ∧ natOf l1 = natOf la / natOf lb ∧ natOf l2 = natOf la % natOf lb ∧ Ex w w' := by
 by_cases hsm : la.length ≤ 2 ∧ lb.length ≤ 2
 ·exact ig ha hb hsm.1 hsm.2 hpos
 refine aE (args := [_, _]) Tryz.func93 rfl rfl ?_
 repeat' (first|refine fT rfl rfl (by omega) (by omega) (fun g w1 hn1 => tvv ?_)|refine cP rfl rfl (by omega) (by omega) ?_|refine aj rfl ?_|refine aa ?_|refine ak ?_|refine ai rfl ?_|refine ah ?_|refine bc rfl ?_|refine bJ rfl rfl ?_|refine bY rfl rfl ?_|refine gV rfl rfl (fun hc => ?_) (fun hc => ?_)|refine bK rfl rfl (by omega) (by omega) ?_|refine ao rfl ?_|refine aQ rfl (fun hc => ?_) (fun hc => ?_)|refine ay ?_|refine aC ?_)
 all_goals try (exfalso; omega)
 all_goals
  refine aW (ι := Nat × List Nat × List Nat × Option Addr × Nat) [5, 8, 38, 39, 40, 41, 42, 43, 44, 45, 46, 47, 48, 49, 50, 51, 52, 53, 54, 55, 56, 57, 58, 59, 60, 61, 62, 63, 64, 65, 66, 67, 68, 69, 70, 71] (fun s => [(8, .int .i64 ((s.1 : Int) - 1)), (5, .slice s.2.2.2.1 s.2.2.1.length s.2.2.2.2)])
   (fun s w' => s.1 ≤ 32 * la.length ∧ Ex w w' ∧ Blk w' g 85 (limbsL s.2.1) ∧ s.2.1.length = la.length ∧ Lim s.2.1 ∧ natOf s.2.1 = natOf la / 2 ^ s.1 / natOf lb * 2 ^ s.1 ∧ Limbs w' s.2.2.2.1 s.2.2.2.2 s.2.2.1 ∧ Canon s.2.2.1 ∧ natOf s.2.2.1 = natOf la / 2 ^ s.1 % natOf lb)
   (fun s => s.1) (32 * la.length, List.replicate la.length 0, [], none, 0) ⟨by first|rfl|(show Value.int .i64 _ = _; congr 1; simp), rfl, trivial⟩ ⟨by simp, hn1.ex, hn1.blk, by simp, Lim.zeros _, ?_, Limbs.nil _ _ _, rfl, ?_⟩ ?_
  ·have hz : natOf la / 2 ^ (32 * la.length) = 0 := Nat.div_eq_of_lt (by rw [tX]; exact bQ ha.lim)
   simp only [dl]
   rw [hz]; simp
  ·have hz : natOf la / 2 ^ (32 * la.length) = 0 := Nat.div_eq_of_lt (by rw [tX]; exact bQ ha.lim)
   simp only
   rw [hz]; simp [natOf]
  rintro ⟨k, Q, R, o, cap⟩ ξ w2 ⟨hk, hE, hbQ, hQl, hQL, hQn, hR, hRc, hRn⟩
  simp only at hk hbQ hQl hQL hQn hR hRc hRn
  show CW _ _ _ _ (over [(8, .int .i64 ((k : Int) - 1)), (5, .slice o R.length cap)] _) w2
  have hRlt : natOf R < natOf lb := by rw [hRn]; exact Nat.mod_lt _ hpos
  have hRlen : R.length ≤ lb.length := cR hRc (Nat.lt_trans hRlt (bQ hb.lim))
  repeat' (first|refine aj rfl ?_|refine aa ?_|refine ak ?_|refine ai rfl ?_|refine ah ?_|refine aQ rfl (fun hc => ?_) (fun hc => ?_)|refine ay ?_|refine aT ?_|refine aO ?_|refine aU ?_|refine aC ?_)
  ·obtain ⟨j, rfl⟩ : ∃ j, k = j + 1 := ⟨k - 1, by omega⟩
   rw [show ((j + 1 : Nat) : Int) - 1 = (j : Int) by omega]
   have ha2 := ha.ext hE
   have hb2 := hb.ext hE
   have hbit : (la.getD (j / 32) 0 >>> (j % 32) &&& 1) = natOf la / 2 ^ j % 2 := by
    rw [Nat.and_one_is_mod, Nat.shiftRight_eq_div_pow, ← pG ha.lim (Nat.mod_lt _ (by decide)), show 32 * (j / 32) + j % 32 = j by omega]
   have hla32 := ha.lim.getD (j / 32)
   repeat' (first|refine et rfl rfl (by omega) (by omega) (by omega) ?_|refine jC rfl rfl (by omega) (by omega) ?_|(refine az (j := j / 32) rfl (by show Value.int .i64 ((j : Int) / 32) = _; congr 1) (ha2.sl.plain (by simp; omega)) (by omega) ?_)|refine bI rfl ha2.sl (by omega) ?_|(refine dP (j := j % 32) rfl (by show Value.int .i64 ((j : Int) % 32) = _; congr 1) (.inr (by simp only [IntKind.bits]; omega)) ?_)|(refine n8 (m' := 1) rfl rfl rfl (Nat.lt_of_le_of_lt (by rw [Nat.shiftRight_eq_div_pow]; exact Nat.div_le_self _ _) hla32) (by decide) ?_)|refine aj rfl ?_)
   refine au (md hR (by omega) (by rw [hbit]; omega)) rfl ?_
   rintro v w3 ⟨l3, a3, c3, rfl, hL3, hv3, hE3⟩
   refine tvv ?_
   refine au (bW hL3) rfl ?_
   rintro v w4 ⟨a4, c4, rfl, hL4, hf4, hE4⟩
   refine tvv ?_
   have hE24 := hE3.trans hE4
   have hb4 := (hb2.ext hE24)
   have hv4 : natOf (trimL l3) = 2 * (natOf la / 2 ^ (j + 1) % natOf lb) + natOf la / 2 ^ j % 2 := by rw [bh, show natOf l3 = _ from hv3, hRn, hbit]
   have hst := vQ (N := natOf la) (i := j) hpos rfl rfl
   have hge := kZ (m := natOf (trimL l3)) (n := natOf lb)
   repeat' (first|refine aj rfl ?_|refine aa ?_|refine ak ?_|refine ai rfl ?_|refine ah ?_)
   refine au (iy hL4 hb4 (bA _) cb) rfl ?_
   rintro v w5 ⟨rfl, hE5⟩
   refine tvv ?_
   have hbQ5 := hbQ.ext (hE24.trans hE5)
   have hQlt := hbQ5.lt
   repeat' (first|refine aj rfl ?_|refine aa ?_|refine ak ?_|refine ai rfl ?_|refine ah ?_|refine bK rfl rfl (by omega) (by omega) ?_|refine aQ rfl (fun hc => ?_) (fun hc => ?_)|refine aJ ?_|refine aC ?_)
   ·refine au (eh (hL4.ext hE5) (hb4.ext hE5) (by omega) cb (bA _)) rfl ?_
    rintro v w6 ⟨l6, a6, c6, rfl, hL6, hv6, hE6⟩
    refine tvv ?_
    refine au (bW hL6) rfl ?_
    rintro v w7 ⟨a7, c7, rfl, hL7, hf7, hE7⟩
    refine tvv ?_
    have hE67 := hE6.trans hE7
    have hbQ7 := hbQ5.ext hE67
    have s6 := hE6.size
    repeat' (first|refine aj rfl ?_|refine aa ?_|refine ah ?_)
    refine bn (late := [10]) (plan := [(0, none), (1, none), (2, none), (3, none), (4, none), (5, none), (6, none), (7, none), (8, none), (9, none), (10, some false)]) (fun w' => Blk w' g 85 (limbsL Q)) bD (by kernel_rfl) hbQ7.drew ?_
    have hset := vP (Q := Q) (i := j) hQL (by omega) (by rw [hQn]; exact Nat.mul_mod_left _ _)
    have hsh : (1 <<< (j % 32)) % 2 ^ IntKind.u32.bits = 2 ^ (j % 32) := by
     rw [Nat.one_shiftLeft]; exact Nat.mod_eq_of_lt (Nat.pow_lt_pow_right (by decide) (by simp only [IntKind.bits]; omega))
    repeat' (first|refine et rfl rfl (by omega) (by omega) (by omega) ?_|refine jC rfl rfl (by omega) (by omega) ?_|(refine az (j := j / 32) rfl (by show Value.int .i64 ((j : Int) / 32) = _; congr 1) ⟨_, _, rfl⟩ (by omega) ?_)|refine bI rfl (fun _ h => h.sl) (by omega) ?_|(refine j3 (m := 1) (j := j % 32) rfl (by show Value.int .i64 ((j : Int) % 32) = _; congr 1) rfl (by simp only [IntKind.bits]; omega) ?_)|refine lE rfl rfl rfl (hQL.getD _) (Nat.mod_lt _ (by decide)) ?_|refine aj rfl ?_)
    rw [hsh]
    refine d4 rfl rfl hbQ7.drew (by omega) (fun w8 hc8 hb8 => ⟨fun h => (nomatch h), ?_⟩)
    repeat' (first|refine aj rfl ?_|refine aa ?_|refine ai rfl ?_|refine ah ?_|refine bK rfl rfl (by omega) (by omega) ?_|refine aJ ?_)
    have hd2 := hst.2 (by omega)
    have hE8 := ((hE.trans (hE24.trans hE5)).trans hE67).drew.chg hc8 hn1.lo
    refine ⟨⟨(j, Q.set (j / 32) (Q.getD (j / 32) 0 ||| 2 ^ (j % 32)), trimL l6, a7, c7), ⟨by simp only; omega, hE8, hb8, by simp [hQl], hQL.set hset.2, ?_, hL7.drew.chg hc8 (fun ad e => by have := hf7 ad e; omega), bA _, ?_⟩, by simp only; omega, rfl, rfl, trivial⟩, (by (repeat (first|exact aG _ _ _|refine aB rfl ?_|refine ax rfl ?_|refine av rfl ?_|refine aw rfl ?_)))⟩
    ·simp only
     rw [hset.1, hQn, hd2.2]
    ·simp only
     rw [bh, show natOf l6 = _ from hv6, hv4, hd2.1]
   ·have hd2 := hst.1 (by omega)
    refine ⟨⟨(j, Q, trimL l3, a4, c4), ⟨by simp only; omega, hE.trans (hE24.trans hE5), hbQ5, hQl, hQL, ?_, hL4.ext hE5, bA _, ?_⟩, by simp only; omega, rfl, rfl, trivial⟩, (by (repeat (first|exact aG _ _ _|refine aB rfl ?_|refine ax rfl ?_|refine av rfl ?_|refine aw rfl ?_)))⟩
    ·simp only
     rw [hQn, hd2.2]
    ·simp only
     rw [hv4, hd2.1]
  ·obtain rfl : k = 0 := by omega
   simp only [Nat.pow_zero, Nat.div_one, Nat.mul_one] at hQn hRn
   have hLQ := Limbs.of_blk (c := la.length) hbQ (by omega) hQL (by omega)
   have hcall := bW hLQ
   rw [hQl] at hcall
   refine au hcall rfl ?_
   rintro v w3 ⟨a3, c3, rfl, hL3, hf3, hE3⟩
   refine tvv ?_
   repeat' (first|refine aj rfl ?_|refine aa ?_|refine ah ?_|refine aK ?_)
   exact dw rfl (rt rfl) (rt rfl) ⟨a3, c3, trimL Q, o, cap, R, rfl, hL3, hR.ext hE3, by rw [bh, hQn], hRn, hE.trans hE3⟩
end Go.Proofs.YtpfhfldehaiokaaGreat
