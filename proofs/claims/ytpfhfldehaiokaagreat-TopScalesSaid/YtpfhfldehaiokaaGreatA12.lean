import Derived.Test.YtpfhfldehaiokaaGreatA08
set_option maxHeartbeats 1000000
namespace Go.Proofs.YtpfhfldehaiokaaGreat
open Go.W Go.LM Go.PM
theorem bt {p q : Nat} {v1 v2 : Value} {x y : Int} {w : World} (h1 : IntK p w v1 x) (h2 : IntK q w v2 y) (hpq : p + q ≤ 17592186044416) :
  CallsR Tryz.prog 28 #[v1, v2] w (RetZ w (x * y)) := by
 obtain ⟨n1, a1, c1, la, rfl, ha, rfl, hla⟩ := h1
 obtain ⟨n2, a2, c2, lb, rfl, hb, rfl, hlb⟩ := h2
 refine aE (args := [_, _]) Tryz.func28 rfl rfl ?_
 refine ak ?_
 refine ai rfl ?_
 refine bC rfl (fun g2 w2 hn2 => tvv ?_)
 refine bC rfl (fun g3 w3 hn3 => tvv ?_)
 refine aH (fun g4 w4 hn4 => tvv ?_)
 have hb2 := (hn2.blk.ext hn3.ex).ext hn4.ex
 have hb3 := hn3.blk.ext hn4.ex
 have hb4 : Blk w4 g4 34 (intL false none 0 0) := hn4.blk
 have hE4 := (hn2.ex.trans hn3.ex).trans hn4.ex
 have l4 := hn4.lo
 have l4' := hn4.hi
 have s3 := (hn2.ex.trans hn3.ex).size
 repeat' (first|refine aP rfl hb2 rfl ?_|refine aP rfl hb3 rfl ?_|refine dM rfl rfl (by omega) ?_|refine fT rfl rfl (by omega) (by omega) (fun g w5 hn5 => tvv ?_)|refine aj rfl ?_|refine aa ?_|refine ak ?_|refine ai rfl ?_|refine ah ?_|refine bc rfl ?_|refine aM rfl ?_)
 have l5 := hn5.lo
 have hb25 := hb2.ext hn5.ex
 have hb35 := hb3.ext hn5.ex
 have hb45 := hb4.ext hn5.ex
 have s45 := hE4.size
 repeat' (first|refine aP rfl hb25 rfl ?_|refine aj rfl ?_|refine aa ?_|refine ah ?_|refine bc rfl ?_|refine ay ?_)
 refine aW (ι := Nat × List Nat) [6, 7, 8, 9, 10, 22, 23, 24, 25, 26, 27, 28, 29, 30, 31, 32, 33, 34, 35, 36, 37, 38, 39, 40, 41, 42, 43, 44, 45, 46, 47, 48, 49, 50, 51, 52, 53, 54, 55, 56, 57, 58, 59, 60, 61, 62, 63, 64, 65, 66, 67, 68, 69] (fun s => [(22, .int .i64 (s.1 : Int))])
  (fun s w' => s.1 ≤ la.length ∧ Ex w4 w' ∧ Blk w' g 85 (limbsL s.2) ∧ s.2.length = la.length + lb.length ∧ Lim s.2 ∧ natOf s.2 = natOf (la.take s.1) * natOf lb ∧ ∀ j, s.1 + lb.length ≤ j → s.2.getD j 0 = 0) (fun s => la.length - s.1)
  (0, List.replicate (la.length + lb.length) 0) ⟨rfl, trivial⟩ ⟨by simp, hn5.ex, hn5.blk, by simp, Lim.zeros _, by simp [dl, natOf], fun j _ => by simp [List.getD_eq_getElem?_getD, List.getElem?_replicate]; split <;> rfl⟩ ?_
 rintro ⟨i, ps⟩ ξ w6 ⟨hi, hE, hbk, hpl, hpL, hpn, hpz⟩
 simp only at hi hbk hpl hpL hpn hpz
 show CW _ _ _ _ (over [(22, .int .i64 (i : Int))] _) w6
 have hxl := ha.lim.getD i
 have hb36 := hb3.ext hE
 have ha6 := ha.ext (hE4.trans hE)
 repeat' (first|(refine az rfl rfl (ha6.sl.plain (by simp; omega)) (by omega) ?_)|refine bI rfl ha6.sl (by omega) ?_|refine aP rfl hb36 rfl ?_|refine aj rfl ?_|refine aa ?_|refine ak ?_|refine ai rfl ?_|refine ah ?_|refine bc rfl ?_|refine aM rfl ?_|refine aQ rfl (fun hc => ?_) (fun hc => ?_)|refine ay ?_|refine aT ?_|refine aO ?_|refine aU ?_|refine aC ?_)
 ·refine aW (ι := Nat × List Nat × Nat) [8, 9, 10, 30, 31, 32, 33, 34, 35, 36, 37, 38, 39, 40, 41, 42, 43, 44, 45, 46, 47, 48, 49, 50, 51, 52, 53, 54, 55, 56, 57, 58, 59] (fun s => [(30, .int .i64 (s.1 : Int)), (8, .int .u64 (s.2.2 : Int))])
   (fun s w' => s.1 ≤ lb.length ∧ Ex w4 w' ∧ Blk w' g 85 (limbsL s.2.1) ∧ s.2.1.length = la.length + lb.length ∧ Lim s.2.1 ∧ s.2.2 < 4294967296 ∧ natOf s.2.1 + s.2.2 * 4294967296 ^ (i + s.1) = natOf ps + la.getD i 0 * natOf (lb.take s.1) * 4294967296 ^ i ∧ ∀ j, i + s.1 ≤ j → s.2.1.getD j 0 = ps.getD j 0) (fun s => lb.length - s.1)
   (0, ps, 0) ⟨rfl, rfl, trivial⟩ ⟨by simp, hE, hbk, hpl, hpL, by simp, by simp [natOf], fun j _ => rfl⟩ ?_
  rintro ⟨j, qs, cy⟩ ξ2 w7 ⟨hj, hE7, hb7, hql, hqL, hcy, hqn, hqz⟩
  simp only at hj hb7 hql hqL hcy hqn hqz
  show CW _ _ _ _ (over [(30, .int .i64 (j : Int)), (8, .int .u64 (cy : Int))] _) w7
  have hyl := hb.lim.getD j
  have hrl := hqL.getD (i + j)
  have hfit := j6 hxl hyl hcy hrl
  have hbl7 := hb.ext (hE4.trans hE7)
  have hb37 := hb3.ext hE7
  repeat' (first|(refine az rfl rfl (hbl7.sl.plain (by simp; omega)) (by omega) ?_)|refine bI rfl hbl7.sl (by omega) ?_|(refine az (j := i + j) rfl (by show Value.int .i64 ((i : Int) + (j : Int)) = _; rfl) ⟨_, _, rfl⟩ (by omega) ?_)|refine bI rfl hb7.sl (by omega) ?_|refine iw rfl (by assumption) ?_|refine gz rfl rfl (by omega) ?_|refine fc rfl rfl (by omega) ?_|refine dR rfl ?_|refine ez rfl rfl ?_|refine d4 rfl rfl hb7 (by omega) (fun w8 hc8 hb8 => tvv ?_)|refine aP rfl hb37 rfl ?_|(refine az (j := i + lb.length) rfl (by show Value.int .i64 ((i : Int) + (lb.length : Int)) = _; rfl) ⟨_, _, rfl⟩ (by omega) ?_)|refine aj rfl ?_|refine aa ?_|refine ak ?_|refine ai rfl ?_|refine ah ?_|refine bc rfl ?_|refine aV rfl rfl (by omega) (by omega) ?_|refine aM rfl ?_|refine aQ rfl (fun hc => ?_) (fun hc => ?_)|refine ay ?_|refine aT ?_|refine aO ?_|refine aU ?_|refine aJ ?_|refine aC ?_)
  ·refine ⟨⟨(j + 1, qs.set (i + j) ((cy + (la.getD i 0 * lb.getD j 0 + qs.getD (i + j) 0)) % 4294967296), (cy + (la.getD i 0 * lb.getD j 0 + qs.getD (i + j) 0)) / 4294967296), ⟨by simp only; omega, hE7.chg hc8 (by omega), hb8, by simp [hql], hqL.set (Nat.mod_lt _ (by decide)), by simp only; omega, ?_, ?_⟩, by simp only; omega, rfl, rfl, trivial⟩, (by (repeat (first|exact aG _ _ _|refine aB rfl ?_|refine ax rfl ?_|refine av rfl ?_|refine aw rfl ?_)))⟩
   ·have := lI (x := la.getD i 0) (y := lb.getD j 0) (show i + j < qs.length by omega) hqn
    simp only
    rw [show i + (j + 1) = i + j + 1 by omega, this, bR (by omega), Nat.mul_add, Nat.add_mul, Nat.add_assoc, Nat.pow_add]
    congr 2
    rw [← Nat.mul_assoc, Nat.mul_assoc, Nat.mul_comm (4294967296 ^ i), ← Nat.mul_assoc, Nat.mul_assoc (la.getD i 0)]
   ·intro k hk
    simp only at hk ⊢
    rw [cG (by omega), hqz k (by omega)]
  ·obtain rfl : j = lb.length := by omega
   have hz : qs.getD (i + lb.length) 0 = 0 := by rw [hqz _ (Nat.le_refl _)]; exact hpz _ (Nat.le_refl _)
   rw [Nat.mod_eq_of_lt hcy] at hb8
   refine ⟨⟨(i + 1, qs.set (i + lb.length) cy), ⟨by simp only; omega, hE7.chg hc8 (by omega), hb8, by simp [hql], hqL.set hcy, ?_, ?_⟩, by simp only; omega, rfl, trivial⟩, (by (repeat (first|exact aG _ _ _|refine aB rfl ?_|refine ax rfl ?_|refine av rfl ?_|refine aw rfl ?_)))⟩
   ·have h1 := cS (l := qs) (k := i + lb.length) (v := cy) (by omega)
    rw [hz, Nat.zero_mul, Nat.add_zero] at h1
    simp only
    rw [h1, hqn, hpn, List.take_length, bR (by omega), Nat.add_mul]
    congr 1
    rw [Nat.mul_assoc, Nat.mul_assoc, Nat.mul_comm (natOf lb)]
   ·intro k hk
    simp only at hk ⊢
    rw [cG (by omega), hqz k (by omega), hpz k (by omega)]
 ·obtain rfl : i = la.length := by omega
  rw [List.take_length] at hpn
  have hL := Limbs.of_blk (c := la.length + lb.length) hbk (by omega) hpL (by omega)
  have hb26 := hb2.ext hE
  have hcall := bi hL (!(n1 == n2))
  rw [hpl] at hcall
  repeat' (first|refine aP rfl hb26 rfl ?_|refine aP rfl hb36 rfl ?_|refine aj rfl ?_|refine aM rfl ?_|refine ip rfl rfl ?_)
  refine au hcall rfl ?_
  rintro v w7 ⟨hI, hE7⟩
  obtain ⟨ng, a', c', ls, rfl, hI'⟩ := id hI
  refine tvv ?_
  refine aF (n := 2) rfl rfl rfl rfl ((hb4.ext hE).ext hE7) rfl (fun w8 hc8 hb8 => tvv ?_)
  repeat' (first|refine aa ?_|refine ah ?_|refine aK ?_)
  have s6 := hE.size
  refine bo rfl (rc rfl rfl hb8) ⟨?_, ((hE4.trans hE).trans hE7).chg hc8 (by omega)⟩
  have hr := (hI.chg hc8 (by omega)).mono (lo' := w.heap.size) (by omega)
  rw [hpn] at hr
  have e : sgn (!(n1 == n2)) (natOf la * natOf lb) = sgn n1 (natOf la) * sgn n2 (natOf lb) := by
   unfold sgn; cases n1 <;> cases n2 <;> simp [Int.neg_mul, Int.mul_neg]
  rwa [e] at hr
theorem fk {p q : Nat} {v1 v2 : Value} {x y : Int} {w : World} (h1 : IntK p w v1 x) (h2 : IntK q w v2 y) (hp : p < 17592186044415) (hq0 : q < 17592186044415) :
  CallsR Tryz.prog 26 #[v1, v2] w (RetZ w (x / y)) := by
 obtain ⟨cs1, rfl, hl1, ho1⟩ := h1.out
 obtain ⟨cs2, rfl, hl2, ho2⟩ := h2.out
 refine aE (args := [_, _]) Tryz.func26 rfl rfl ?_
 refine ak ?_
 refine ai rfl ?_
 refine bC rfl (fun g2 w2 hn2 => tvv ?_)
 refine bC rfl (fun g3 w3 hn3 => tvv ?_)
 refine aH (fun g4 w4 hn4 => tvv ?_)
 have hb2 := (hn2.blk.ext hn3.ex).ext hn4.ex
 have hb3 := hn3.blk.ext hn4.ex
 have hb4 : Blk w4 g4 34 (intL false none 0 0) := hn4.blk
 have hE := (hn2.ex.trans hn3.ex).trans hn4.ex
 have l4 := hn4.lo
 have l4' := hn4.hi
 have s3 := (hn2.ex.trans hn3.ex).size
 repeat' (first|refine aY rfl hb2 hl1 ?_|refine aY rfl hb3 hl2 ?_|refine aa ?_|refine ak ?_|refine ai rfl ?_|refine ah ?_)
 refine au (iB (h1.ext hE) (h2.ext hE) hp hq0) rfl ?_
 rintro v w5 ⟨q, r, rfl, hq, hr, hE5⟩
 refine tvv ?_
 obtain ⟨qs, rfl, hql, hqo⟩ := hq.out
 obtain ⟨rs, rfl, hrl, hro⟩ := hr.out
 repeat' (first|refine aj rfl ?_)
 refine aH (fun g6 w6 hn6 => tvv ?_)
 refine aH (fun g7 w7 hn7 => tvv ?_)
 have l6 := hn6.lo
 have l6' := hn6.hi
 have l7 := hn7.lo
 have l7' := hn7.hi
 have s5 := hE5.size
 refine aF (n := 2) rfl rfl hql hqo (hn6.blk.ext hn7.ex) rfl (fun w8 hc8 hb8 => tvv ?_)
 refine aF (n := 2) rfl rfl hrl hro (hn7.blk.chg hc8 (by omega)) rfl (fun w9 hc9 hb9 => tvv ?_)
 have hb89 := hb8.chg hc9 (by omega)
 have hb47 := (((hb4.ext hE5).ext hn6.ex).ext hn7.ex)
 have hE9 : Ex w5 w9 := ((hn6.ex.trans hn7.ex).chg hc8 (by omega)).chg hc9 (by omega)
 have hq9 := (((hq.ext hn6.ex).ext hn7.ex).chgO hc8 (hq.off_hi l6)).chgO hc9 (hq.off_hi (by omega))
 repeat' (first|refine aY rfl hb89 hql ?_|refine aj rfl ?_|refine aa ?_|refine ak ?_|refine ai rfl ?_|refine ah ?_)
 refine aF (n := 2) rfl rfl hql hqo ((hb47.chg hc8 (by omega)).chg hc9 (by omega)) rfl (fun w10 hc10 hb10 => tvv ?_)
 repeat' (first|refine aa ?_|refine ah ?_|refine aK ?_)
 exact bo rfl (rc rfl hql hb10) ⟨(hq9.chgO hc10 (hq.off_lo (by omega))).mono hE.size, ((hE.trans hE5).trans hE9).chg hc10 (by omega)⟩
theorem bT {p : Nat} {v : Value} {x : Int} {w : World} (h1 : IntK p w v x) : CallsR Tryz.prog 117 #[v] w (RetZ w ((x.natAbs : Nat) : Int)) := by
 obtain ⟨n1, a1, c1, l1, rfl, hL1, rfl, _⟩ := h1
 rw [dh]
 refine aE (args := [_]) Tryz.func117 rfl rfl ?_
 refine ak ?_
 refine ai rfl ?_
 refine bC rfl (fun g1 w1 hn1 => tvv ?_)
 refine aH (fun g2 w2 hn2 => tvv ?_)
 have hb1 := hn1.blk.ext hn2.ex
 have hb2 : Blk w2 g2 34 (intL false none 0 0) := hn2.blk
 have hE := hn1.ex.trans hn2.ex
 repeat' (first|refine aP rfl hb1 rfl ?_|refine aa ?_|refine ak ?_|refine ai rfl ?_|refine ah ?_|refine aM rfl ?_)
 refine au (bi (hL1.ext hE) false) rfl ?_
 rintro v w3 ⟨hI, hE3⟩
 obtain ⟨ng, a', c', ls, rfl, hI'⟩ := id hI
 refine tvv ?_
 refine aF (n := 2) rfl rfl rfl rfl (hb2.ext hE3) rfl (fun w4 hc4 hb4 => tvv ?_)
 repeat' (first|refine aa ?_|refine ah ?_|refine aK ?_)
 have l2 := hn2.lo
 have l2' := hn2.hi
 have s1 := hn1.ex.size
 exact bo rfl (rc rfl rfl hb4) ⟨(hI.chg hc4 (by omega)).mono (by omega), (hE.trans hE3).chg hc4 (by omega)⟩
theorem fF {k : Nat} {v : Value} {x : Int} {w : World} (h1 : IntK k w v x) : CallsR Tryz.prog 56 #[v] w (RetZ w x) := by
 obtain ⟨n1, a1, c1, l1, rfl, hL1, rfl, _⟩ := h1
 refine aE (args := [_]) Tryz.func56 rfl rfl ?_
 refine ak ?_
 refine ai rfl ?_
 refine bC rfl (fun g1 w1 hn1 => tvv ?_)
 refine aH (fun g2 w2 hn2 => tvv ?_)
 have hb1 := hn1.blk.ext hn2.ex
 have hb2 : Blk w2 g2 34 (intL false none 0 0) := hn2.blk
 have hE := hn1.ex.trans hn2.ex
 repeat' (first|refine aP rfl hb1 rfl ?_|refine aa ?_|refine ak ?_|refine ai rfl ?_|refine ah ?_|refine aM rfl ?_)
 refine au (bi (hL1.ext hE) _) rfl ?_
 rintro v w3 ⟨hI, hE3⟩
 obtain ⟨ng, a', c', ls, rfl, hI'⟩ := id hI
 refine tvv ?_
 refine aF (n := 2) rfl rfl rfl rfl (hb2.ext hE3) rfl (fun w4 hc4 hb4 => tvv ?_)
 repeat' (first|refine aa ?_|refine ah ?_|refine aK ?_)
 have l2 := hn2.lo
 have l2' := hn2.hi
 have s1 := hn1.ex.size
 refine bo rfl (rc rfl rfl hb4) ⟨?_, (hE.trans hE3).chg hc4 (by omega)⟩
 exact (hI.chg hc4 (by omega)).mono (lo' := w.heap.size) (by omega)
theorem nG (neg : Bool) (l : List Nat) : (sgn neg (natOf l)).sign = if natOf l = 0 then 0 else if neg then -1 else 1 := by
 unfold sgn
 by_cases h0 : natOf l = 0
 ·rw [if_pos h0, h0]; cases neg <;> rfl
 ·rw [if_neg h0]
  cases neg
  ·rw [if_neg (by decide), if_neg (by decide)]; exact Int.sign_eq_one_of_pos (by omega)
  ·rw [if_pos rfl, if_pos rfl]; exact Int.sign_eq_neg_one_of_neg (by omega)
def cmpI (x y : Int) : Int := if x < y then -1 else if y < x then 1 else 0
theorem sG (x y : Int) : cmpI x y = (x - y).sign := by
 unfold cmpI
 split
 ·rw [Int.sign_eq_neg_one_of_neg (by omega)]
 ·split
  ·rw [Int.sign_eq_one_of_pos (by omega)]
  ·rw [show x - y = 0 by omega]; rfl
theorem eB {p q : Nat} {v1 v2 : Value} {x y : Int} {w : World} (h1 : IntK p w v1 x) (h2 : IntK q w v2 y) : CallsR Tryz.prog 76 #[v1, v2] w fun v w' => v = .int .i64 (x - y).sign ∧ Ex w w' := by
 have h1' := h1
 have h2' := h2
 obtain ⟨n1, a1, c1, l1, rfl, hL1, rfl, _⟩ := h1
 obtain ⟨n2, a2, c2, l2, rfl, hL2, rfl, _⟩ := h2
 have e1 := nG n1 l1
 have e2 := nG n2 l2
 rw [← sG]
 refine aE (args := [_, _]) Tryz.func76 rfl rfl ?_
 refine ak ?_
 refine ai rfl ?_
 refine bC rfl (fun ga w2 hn2 => tvv ?_)
 refine bC rfl (fun gb w3 hn3 => tvv ?_)
 have hb2 := hn2.blk.ext hn3.ex
 have hb3 := hn3.blk
 have hE := hn2.ex.trans hn3.ex
 repeat' (first|refine aj rfl ?_|refine aa ?_|refine ak ?_|refine ah ?_)
 refine bn (late := []) (plan := [(0, none), (2, none), (1, some true), (3, some true), (4, none), (5, none)]) (fun w' => Ex w3 w') bD (by kernel_rfl) (Ex.refl _).drew ?_
 have hE3d : Ex w3 w3.drew := (Ex.refl _).drew
 repeat' (first|refine aY (g := ga) rfl (fun _ h => hb2.ext h) rfl ?_|refine aY (g := gb) rfl (fun _ h => hb3.ext h) rfl ?_)
 refine au (du (h1'.ext (hE.trans hE3d))) rfl ?_
 rintro v w4 ⟨rfl, hE4⟩
 refine ⟨fun _ h => h.trans hE4, ?_⟩
 skip
 refine au (du (h2'.ext ((hE.trans hE3d).trans hE4))) rfl ?_
 rintro v w5 ⟨rfl, hE5⟩
 refine ⟨fun _ h => h.trans hE5, ?_⟩
 have hE35 : Ex w3 w5 := (hE3d.trans hE4).trans hE5
 have hE05 := hE.trans hE35
 generalize hs1 : (sgn n1 (natOf l1)).sign = s1 at *
 generalize hs2 : (sgn n2 (natOf l2)).sign = s2 at *
 have q1 : sgn n1 (natOf l1) = s1 * (natOf l1 : Int) := by rw [← hs1]; have := Int.sign_mul_natAbs (sgn n1 (natOf l1)); rw [dh] at this; exact this.symm
 have q2 : sgn n2 (natOf l2) = s2 * (natOf l2 : Int) := by rw [← hs2]; have := Int.sign_mul_natAbs (sgn n2 (natOf l2)); rw [dh] at this; exact this.symm
 have r1 : s1 = 0 ∨ s1 = 1 ∨ s1 = -1 := by rw [e1]; split; exact .inl rfl; split; exact .inr (.inr rfl); exact .inr (.inl rfl)
 have r2 : s2 = 0 ∨ s2 = 1 ∨ s2 = -1 := by rw [e2]; split; exact .inl rfl; split; exact .inr (.inr rfl); exact .inr (.inl rfl)
 have p1 : s1 = 0 ↔ natOf l1 = 0 := by
  rw [e1]
  by_cases h : natOf l1 = 0
  ·rw [if_pos h]; exact ⟨fun _ => h, fun _ => rfl⟩
  ·rw [if_neg h]; cases n1 <;> simp [h]
 have p2 : s2 = 0 ↔ natOf l2 = 0 := by
  rw [e2]
  by_cases h : natOf l2 = 0
  ·rw [if_pos h]; exact ⟨fun _ => h, fun _ => rfl⟩
  ·rw [if_neg h]; cases n2 <;> simp [h]
 rw [q1, q2]
 by_cases hss : s1 = s2
 ·subst hss
  have hcz : -1 ≤ cmpZ (natOf l1) (natOf l2) ∧ cmpZ (natOf l1) (natOf l2) ≤ 1 := by unfold cmpZ; split; omega; split <;> omega
  repeat' (first|refine xe rfl rfl ?_|refine aj rfl ?_|refine aa ?_|refine ak ?_|refine ai rfl ?_|refine ah ?_|refine ao rfl ?_|refine aC ?_)
  refine bn (late := []) (plan := [(0, none), (1, none), (2, none), (4, none), (5, none), (3, some true), (6, some true), (7, some true), (8, none), (9, none)]) (fun w' => Ex w5 w') bD (by kernel_rfl) (Ex.refl _).drew ?_
  have hE5d : Ex w5 w5.drew := (Ex.refl _).drew
  have hb25 := hb2.ext hE35
  have hb35 := hb3.ext hE35
  repeat' (first|refine aP (g := ga) rfl (fun _ h => hb25.ext h) rfl ?_|refine aP (g := gb) rfl (fun _ h => hb35.ext h) rfl ?_|refine aj rfl ?_|refine aM rfl ?_)
  refine au (bW (hL1.ext (hE05.trans hE5d))) rfl ?_
  rintro v w6 ⟨a6, c6, rfl, hL6, _, hE6⟩
  refine ⟨fun _ h => h.trans hE6, ?_⟩
  skip
  refine au (bW (hL2.ext ((hE05.trans hE5d).trans hE6))) rfl ?_
  rintro v w7 ⟨a7, c7, rfl, hL7, _, hE7⟩
  refine ⟨fun _ h => h.trans hE7, ?_⟩
  skip
  refine au (iy (hL6.ext hE7) hL7 (bA _) (bA _)) rfl ?_
  rw [bh, bh]
  rintro v w8 ⟨rfl, hE8⟩
  refine ⟨fun _ h => h.trans hE8, ?_⟩
  have hmb : -1 ≤ s1 * cmpZ (natOf l1) (natOf l2) ∧ s1 * cmpZ (natOf l1) (natOf l2) ≤ 1 := by rcases r1 with rfl | rfl | rfl <;> omega
  repeat' (first|refine cP rfl rfl (by omega) (by omega) ?_|refine aj rfl ?_|refine aa ?_|refine ah ?_|refine aK ?_)
  refine bo rfl (rt rfl) ⟨?_, (((hE05.trans hE5d).trans hE6).trans hE7).trans hE8⟩
  show Value.int .i64 (s1 * cmpZ (natOf l1) (natOf l2)) = _
  congr 1
  unfold cmpZ cmpI
  rcases r1 with rfl | rfl | rfl
  ·rw [Int.zero_mul, Int.zero_mul, Int.zero_mul, if_neg (by omega), if_neg (by omega)]
  ·split
   ·rw [if_pos (by omega)]; rfl
   ·split
    ·rw [if_neg (by omega), if_pos (by omega)]; rfl
    ·rw [if_neg (by omega), if_neg (by omega)]; rfl
  ·split
   ·rw [if_neg (by omega), if_pos (by omega)]; rfl
   ·split
    ·rw [if_pos (by omega)]; rfl
    ·rw [if_neg (by omega), if_neg (by omega)]; rfl
 ·by_cases hlt : s1 < s2
  ·repeat' (first|refine bq rfl rfl hlt ?_|refine aj rfl ?_|refine aa ?_|refine ak ?_|refine ai rfl ?_|refine ah ?_|refine aA rfl ?_|refine aQ rfl (fun hc => ?_) (fun hc => ?_)|refine aK ?_|refine bf ?_|refine aC ?_)
   ·refine bo rfl (rt rfl) ⟨?_, hE05⟩
    show Value.int .i64 (-1) = _
    congr 1
    unfold cmpI
    rw [if_pos]
    rcases r1 with rfl | rfl | rfl <;> rcases r2 with rfl | rfl | rfl <;> omega
   ·omega
  ·repeat' (first|refine bp rfl rfl (by omega) ?_|refine aj rfl ?_|refine aa ?_|refine ak ?_|refine ai rfl ?_|refine ah ?_|refine ao rfl ?_|refine aQ rfl (fun hc => ?_) (fun hc => ?_)|refine aK ?_|refine bf ?_|refine aC ?_)
   ·refine bo rfl (rt rfl) ⟨?_, hE05⟩
    show Value.int .i64 1 = _
    congr 1
    unfold cmpI
    rw [if_neg, if_pos]
    ·rcases r1 with rfl | rfl | rfl <;> rcases r2 with rfl | rfl | rfl <;> omega
    ·rcases r1 with rfl | rfl | rfl <;> rcases r2 with rfl | rfl | rfl <;> omega
   ·omega
end Go.Proofs.YtpfhfldehaiokaaGreat
