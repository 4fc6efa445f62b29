import Derived.Test.YtiejljicpinheaaGreatA09
import Derived.Test.YtiejljicpinheaaGreatA10
import Derived.Test.YtiejljicpinheaaGreatA11
namespace Go.Proofs.YtiejljicpinheaaGreat
open Go.W Go.LM Go.PM
set_option maxHeartbeats 1000000 in
theorem dG {p q : Nat} {v1 v2 : Value} {x y : Int} {w : World} (h1 : IntK p w v1 x) (h2 : IntK q w v2 y) (hpq : p + q ≤ 17592186044416) :
  CallsR Tryz.prog 72 #[v1, v2] w (RetZ w (x * y)) := by
 obtain ⟨n1, a1, c1, la, rfl, ha, rfl, hla⟩ := h1
 obtain ⟨n2, a2, c2, lb, rfl, hb, rfl, hlb⟩ := h2
 refine aF (args := [_, _]) Tryz.func72 rfl rfl ?_
 refine aj ?_
 refine ah rfl ?_
 refine bH rfl (fun g2 w2 hn2 => ⟨fun _ _ => trivial, ?_⟩)
 refine bH rfl (fun g3 w3 hn3 => ⟨fun _ _ => trivial, ?_⟩)
 refine aG (fun g4 w4 hn4 => ⟨fun _ _ => trivial, ?_⟩)
 have hb2 := (hn2.blk.ext hn3.ex).ext hn4.ex
 have hb3 := hn3.blk.ext hn4.ex
 have hb4 : Blk w4 g4 43 (intL false none 0 0) := hn4.blk
 have hE4 := (hn2.ex.trans hn3.ex).trans hn4.ex
 have l4 := hn4.lo
 have l4' := hn4.hi
 have s3 := (hn2.ex.trans hn3.ex).size
 repeat' (first|refine aW rfl hb2 rfl ?_|refine aW rfl hb3 rfl ?_|refine fH rfl rfl (by omega) ?_|refine eK rfl rfl (by omega) (by omega) (fun g w5 hn5 => ⟨fun _ _ => trivial, ?_⟩)|refine ai rfl ?_|refine aa ?_|refine aj ?_|refine ah rfl ?_|refine ae ?_|refine aZ rfl ?_|refine aN rfl ?_)
 have l5 := hn5.lo
 have hb25 := hb2.ext hn5.ex
 have hb35 := hb3.ext hn5.ex
 have hb45 := hb4.ext hn5.ex
 have s45 := hE4.size
 repeat' (first|refine aW rfl hb25 rfl ?_|refine ai rfl ?_|refine aa ?_|refine ae ?_|refine aZ rfl ?_|refine aA ?_)
 refine aY (ι := Nat × List Nat) [6, 7, 8, 9, 10, 22, 23, 24, 25, 26, 27, 28, 29, 30, 31, 32, 33, 34, 35, 36, 37, 38, 39, 40, 41, 42, 43, 44, 45, 46, 47, 48, 49, 50, 51, 52, 53, 54, 55, 56, 57, 58, 59, 60, 61, 62, 63, 64, 65, 66, 67, 68, 69] (fun s => [(22, .int .i64 (s.1 : Int))])
  (fun s w' => s.1 ≤ la.length ∧ Ex w4 w' ∧ Blk w' g 113 (limbsL s.2) ∧ s.2.length = la.length + lb.length ∧ Lim s.2 ∧ natOf s.2 = natOf (la.take s.1) * natOf lb ∧ ∀ j, s.1 + lb.length ≤ j → s.2.getD j 0 = 0) (fun s => la.length - s.1)
  (0, List.replicate (la.length + lb.length) 0) ⟨rfl, trivial⟩ ⟨by simp, hn5.ex, hn5.blk, by simp, Lim.zeros _, by simp [cQ, natOf], fun j _ => by simp [List.getD_eq_getElem?_getD, List.getElem?_replicate]; split <;> rfl⟩ ?_
 rintro ⟨i, ps⟩ ξ w6 ⟨hi, hE, hbk, hpl, hpL, hpn, hpz⟩
 simp only at hi hbk hpl hpL hpn hpz
 show CW _ _ _ _ (over [(22, .int .i64 (i : Int))] _) w6
 have hxl := ha.lim.getD i
 have hb36 := hb3.ext hE
 have ha6 := ha.ext (hE4.trans hE)
 repeat' (first|(refine aD rfl rfl (ha6.sl.plain (by simp; omega)) (by omega) ?_)|refine bG rfl ha6.sl (by omega) ?_|refine aW rfl hb36 rfl ?_|refine ai rfl ?_|refine aa ?_|refine aj ?_|refine ah rfl ?_|refine ae ?_|refine aZ rfl ?_|refine aN rfl ?_|refine aO rfl (fun hc => ?_) (fun hc => ?_)|refine aA ?_|refine aP ?_|refine aJ ?_|refine aQ ?_|refine aE ?_)
 ·refine aY (ι := Nat × List Nat × Nat) [8, 9, 10, 30, 31, 32, 33, 34, 35, 36, 37, 38, 39, 40, 41, 42, 43, 44, 45, 46, 47, 48, 49, 50, 51, 52, 53, 54, 55, 56, 57, 58, 59] (fun s => [(30, .int .i64 (s.1 : Int)), (8, .int .u64 (s.2.2 : Int))])
   (fun s w' => s.1 ≤ lb.length ∧ Ex w4 w' ∧ Blk w' g 113 (limbsL s.2.1) ∧ s.2.1.length = la.length + lb.length ∧ Lim s.2.1 ∧ s.2.2 < 4294967296 ∧ natOf s.2.1 + s.2.2 * 4294967296 ^ (i + s.1) = natOf ps + la.getD i 0 * natOf (lb.take s.1) * 4294967296 ^ i ∧ ∀ j, i + s.1 ≤ j → s.2.1.getD j 0 = ps.getD j 0) (fun s => lb.length - s.1)
   (0, ps, 0) ⟨rfl, rfl, trivial⟩ ⟨by simp, hE, hbk, hpl, hpL, by simp, by simp [natOf], fun j _ => rfl⟩ ?_
  rintro ⟨j, qs, cy⟩ ξ2 w7 ⟨hj, hE7, hb7, hql, hqL, hcy, hqn, hqz⟩
  simp only at hj hb7 hql hqL hcy hqn hqz
  show CW _ _ _ _ (over [(30, .int .i64 (j : Int)), (8, .int .u64 (cy : Int))] _) w7
  have hyl := hb.lim.getD j
  have hrl := hqL.getD (i + j)
  have hfit := jf hxl hyl hcy hrl
  have hbl7 := hb.ext (hE4.trans hE7)
  have hb37 := hb3.ext hE7
  repeat' (first|(refine aD rfl rfl (hbl7.sl.plain (by simp; omega)) (by omega) ?_)|refine bG rfl hbl7.sl (by omega) ?_|(refine aD (j := i + j) rfl (by show Value.int .i64 ((i : Int) + (j : Int)) = _; rfl) ⟨_, _, rfl⟩ (by omega) ?_)|refine bG rfl hb7.sl (by omega) ?_|refine gH rfl (by assumption) ?_|refine kd rfl rfl (by omega) ?_|refine fG rfl rfl (by omega) ?_|refine dC rfl ?_|refine d5 rfl rfl ?_|refine dA rfl rfl hb7 (by omega) (fun w8 hc8 hb8 => ⟨fun _ _ => trivial, ?_⟩)|refine aW rfl hb37 rfl ?_|(refine aD (j := i + lb.length) rfl (by show Value.int .i64 ((i : Int) + (lb.length : Int)) = _; rfl) ⟨_, _, rfl⟩ (by omega) ?_)|refine ai rfl ?_|refine aa ?_|refine aj ?_|refine ah rfl ?_|refine ae ?_|refine aZ rfl ?_|refine bc rfl rfl (by omega) (by omega) ?_|refine aN rfl ?_|refine aO rfl (fun hc => ?_) (fun hc => ?_)|refine aA ?_|refine aP ?_|refine aJ ?_|refine aQ ?_|refine aL ?_|refine aE ?_)
  ·refine ⟨⟨(j + 1, qs.set (i + j) ((cy + (la.getD i 0 * lb.getD j 0 + qs.getD (i + j) 0)) % 4294967296), (cy + (la.getD i 0 * lb.getD j 0 + qs.getD (i + j) 0)) / 4294967296), ⟨by simp only; omega, hE7.chg hc8 (by omega), hb8, by simp [hql], hqL.set (Nat.mod_lt _ (by decide)), by simp only; omega, ?_, ?_⟩, by simp only; omega, rfl, rfl, trivial⟩, (by (repeat (first|exact aH _ _ _|refine ay rfl ?_|refine av rfl ?_|refine ak rfl ?_|refine ao rfl ?_)))⟩
   ·have := ke (x := la.getD i 0) (y := lb.getD j 0) (show i + j < qs.length by omega) hqn
    simp only
    rw [show i + (j + 1) = i + j + 1 by omega, this, bN (by omega), Nat.mul_add, Nat.add_mul, Nat.add_assoc, Nat.pow_add]
    congr 2
    rw [← Nat.mul_assoc, Nat.mul_assoc, Nat.mul_comm (4294967296 ^ i), ← Nat.mul_assoc, Nat.mul_assoc (la.getD i 0)]
   ·intro k hk
    simp only at hk ⊢
    rw [cg (by omega), hqz k (by omega)]
  ·obtain rfl : j = lb.length := by omega
   have hz : qs.getD (i + lb.length) 0 = 0 := by rw [hqz _ (Nat.le_refl _)]; exact hpz _ (Nat.le_refl _)
   rw [Nat.mod_eq_of_lt hcy] at hb8
   refine ⟨⟨(i + 1, qs.set (i + lb.length) cy), ⟨by simp only; omega, hE7.chg hc8 (by omega), hb8, by simp [hql], hqL.set hcy, ?_, ?_⟩, by simp only; omega, rfl, trivial⟩, (by (repeat (first|exact aH _ _ _|refine ay rfl ?_|refine av rfl ?_|refine ak rfl ?_|refine ao rfl ?_)))⟩
   ·have h1 := cH (l := qs) (k := i + lb.length) (v := cy) (by omega)
    rw [hz, Nat.zero_mul, Nat.add_zero] at h1
    simp only
    rw [h1, hqn, hpn, List.take_length, bN (by omega), Nat.add_mul]
    congr 1
    rw [Nat.mul_assoc, Nat.mul_assoc, Nat.mul_comm (natOf lb)]
   ·intro k hk
    simp only at hk ⊢
    rw [cg (by omega), hqz k (by omega), hpz k (by omega)]
 ·obtain rfl : i = la.length := by omega
  rw [List.take_length] at hpn
  have hL := Limbs.of_blk (c := la.length + lb.length) hbk (by omega) hpL (by omega)
  have hb26 := hb2.ext hE
  have hcall := bn hL (!(n1 == n2))
  rw [hpl] at hcall
  repeat' (first|refine aW rfl hb26 rfl ?_|refine aW rfl hb36 rfl ?_|refine ai rfl ?_|refine aN rfl ?_|refine gB rfl rfl ?_)
  refine aw hcall rfl ?_
  rintro v w7 ⟨hI, hE7⟩
  obtain ⟨ng, a', c', ls, rfl, hI'⟩ := id hI
  refine ⟨fun _ _ => trivial, ?_⟩
  refine ax (n := 2) rfl rfl rfl rfl ((hb4.ext hE).ext hE7) rfl (fun w8 hc8 hb8 => ⟨fun _ _ => trivial, ?_⟩)
  repeat' (first|refine aa ?_|refine ae ?_|refine aI ?_)
  have s6 := hE.size
  refine bx rfl (rc rfl rfl hb8) ⟨?_, ((hE4.trans hE).trans hE7).chg hc8 (by omega)⟩
  have hr := (hI.chg hc8 (by omega)).mono (lo' := w.heap.size) (by omega)
  rw [hpn] at hr
  have e : sgn (!(n1 == n2)) (natOf la * natOf lb) = sgn n1 (natOf la) * sgn n2 (natOf lb) := by
   unfold sgn; cases n1 <;> cases n2 <;> simp [Int.neg_mul, Int.mul_neg]
  rwa [e] at hr
set_option maxHeartbeats 1000000 in
theorem d7 {p q : Nat} {v1 v2 : Value} {x y : Int} {w : World} (h1 : IntK p w v1 x) (h2 : IntK q w v2 y) (hp : p < 17592186044415) (hq0 : q < 17592186044415) :
  CallsR Tryz.prog 58 #[v1, v2] w (RetZ w (x / y)) := by
 obtain ⟨cs1, rfl, hl1, ho1⟩ := h1.out
 obtain ⟨cs2, rfl, hl2, ho2⟩ := h2.out
 refine aF (args := [_, _]) Tryz.func58 rfl rfl ?_
 refine aj ?_
 refine ah rfl ?_
 refine bH rfl (fun g2 w2 hn2 => ⟨fun _ _ => trivial, ?_⟩)
 refine bH rfl (fun g3 w3 hn3 => ⟨fun _ _ => trivial, ?_⟩)
 refine aG (fun g4 w4 hn4 => ⟨fun _ _ => trivial, ?_⟩)
 have hb2 := (hn2.blk.ext hn3.ex).ext hn4.ex
 have hb3 := hn3.blk.ext hn4.ex
 have hb4 : Blk w4 g4 43 (intL false none 0 0) := hn4.blk
 have hE := (hn2.ex.trans hn3.ex).trans hn4.ex
 have l4 := hn4.lo
 have l4' := hn4.hi
 have s3 := (hn2.ex.trans hn3.ex).size
 repeat' (first|refine aR rfl hb2 hl1 ?_|refine aR rfl hb3 hl2 ?_|refine aa ?_|refine aj ?_|refine ah rfl ?_|refine ae ?_)
 refine aw (kA (h1.ext hE) (h2.ext hE) hp hq0) rfl ?_
 rintro v w5 ⟨q, r, rfl, hq, hr, hE5⟩
 refine ⟨fun _ _ => trivial, ?_⟩
 obtain ⟨qs, rfl, hql, hqo⟩ := hq.out
 obtain ⟨rs, rfl, hrl, hro⟩ := hr.out
 repeat' (first|refine ai rfl ?_)
 refine aG (fun g6 w6 hn6 => ⟨fun _ _ => trivial, ?_⟩)
 refine aG (fun g7 w7 hn7 => ⟨fun _ _ => trivial, ?_⟩)
 have l6 := hn6.lo
 have l6' := hn6.hi
 have l7 := hn7.lo
 have l7' := hn7.hi
 have s5 := hE5.size
 refine ax (n := 2) rfl rfl hql hqo (hn6.blk.ext hn7.ex) rfl (fun w8 hc8 hb8 => ⟨fun _ _ => trivial, ?_⟩)
 refine ax (n := 2) rfl rfl hrl hro (hn7.blk.chg hc8 (by omega)) rfl (fun w9 hc9 hb9 => ⟨fun _ _ => trivial, ?_⟩)
 have hb89 := hb8.chg hc9 (by omega)
 have hb47 := (((hb4.ext hE5).ext hn6.ex).ext hn7.ex)
 have hE9 : Ex w5 w9 := ((hn6.ex.trans hn7.ex).chg hc8 (by omega)).chg hc9 (by omega)
 have hq9 := (((hq.ext hn6.ex).ext hn7.ex).chgO hc8 (hq.off_hi l6)).chgO hc9 (hq.off_hi (by omega))
 repeat' (first|refine aR rfl hb89 hql ?_|refine ai rfl ?_|refine aa ?_|refine aj ?_|refine ah rfl ?_|refine ae ?_)
 refine ax (n := 2) rfl rfl hql hqo ((hb47.chg hc8 (by omega)).chg hc9 (by omega)) rfl (fun w10 hc10 hb10 => ⟨fun _ _ => trivial, ?_⟩)
 repeat' (first|refine aa ?_|refine ae ?_|refine aI ?_)
 exact bx rfl (rc rfl hql hb10) ⟨(hq9.chgO hc10 (hq.off_lo (by omega))).mono hE.size, ((hE.trans hE5).trans hE9).chg hc10 (by omega)⟩
theorem iR {p : Nat} {v : Value} {x : Int} {w : World} (h1 : IntK p w v x) : CallsR Tryz.prog 42 #[v] w (RetZ w ((x.natAbs : Nat) : Int)) := by
 obtain ⟨n1, a1, c1, l1, rfl, hL1, rfl, _⟩ := h1
 rw [cS]
 refine aF (args := [_]) Tryz.func42 rfl rfl ?_
 refine aj ?_
 refine ah rfl ?_
 refine bH rfl (fun g1 w1 hn1 => ⟨fun _ _ => trivial, ?_⟩)
 refine aG (fun g2 w2 hn2 => ⟨fun _ _ => trivial, ?_⟩)
 have hb1 := hn1.blk.ext hn2.ex
 have hb2 : Blk w2 g2 43 (intL false none 0 0) := hn2.blk
 have hE := hn1.ex.trans hn2.ex
 repeat' (first|refine aW rfl hb1 rfl ?_|refine aa ?_|refine aj ?_|refine ah rfl ?_|refine ae ?_|refine aN rfl ?_)
 refine aw (bn (hL1.ext hE) false) rfl ?_
 rintro v w3 ⟨hI, hE3⟩
 obtain ⟨ng, a', c', ls, rfl, hI'⟩ := id hI
 refine ⟨fun _ _ => trivial, ?_⟩
 refine ax (n := 2) rfl rfl rfl rfl (hb2.ext hE3) rfl (fun w4 hc4 hb4 => ⟨fun _ _ => trivial, ?_⟩)
 repeat' (first|refine aa ?_|refine ae ?_|refine aI ?_)
 have l2 := hn2.lo
 have l2' := hn2.hi
 have s1 := hn1.ex.size
 exact bx rfl (rc rfl rfl hb4) ⟨(hI.chg hc4 (by omega)).mono (by omega), (hE.trans hE3).chg hc4 (by omega)⟩
theorem fc {k : Nat} {v : Value} {x : Int} {w : World} (h1 : IntK k w v x) : CallsR Tryz.prog 97 #[v] w (RetZ w x) := by
 obtain ⟨n1, a1, c1, l1, rfl, hL1, rfl, _⟩ := h1
 refine aF (args := [_]) Tryz.func97 rfl rfl ?_
 refine aj ?_
 refine ah rfl ?_
 refine bH rfl (fun g1 w1 hn1 => ⟨fun _ _ => trivial, ?_⟩)
 refine aG (fun g2 w2 hn2 => ⟨fun _ _ => trivial, ?_⟩)
 have hb1 := hn1.blk.ext hn2.ex
 have hb2 : Blk w2 g2 43 (intL false none 0 0) := hn2.blk
 have hE := hn1.ex.trans hn2.ex
 repeat' (first|refine aW rfl hb1 rfl ?_|refine aa ?_|refine aj ?_|refine ah rfl ?_|refine ae ?_|refine aN rfl ?_)
 refine aw (bn (hL1.ext hE) _) rfl ?_
 rintro v w3 ⟨hI, hE3⟩
 obtain ⟨ng, a', c', ls, rfl, hI'⟩ := id hI
 refine ⟨fun _ _ => trivial, ?_⟩
 refine ax (n := 2) rfl rfl rfl rfl (hb2.ext hE3) rfl (fun w4 hc4 hb4 => ⟨fun _ _ => trivial, ?_⟩)
 repeat' (first|refine aa ?_|refine ae ?_|refine aI ?_)
 have l2 := hn2.lo
 have l2' := hn2.hi
 have s1 := hn1.ex.size
 refine bx rfl (rc rfl rfl hb4) ⟨?_, (hE.trans hE3).chg hc4 (by omega)⟩
 exact (hI.chg hc4 (by omega)).mono (lo' := w.heap.size) (by omega)
theorem lA (neg : Bool) (l : List Nat) : (sgn neg (natOf l)).sign = if natOf l = 0 then 0 else if neg then -1 else 1 := by
 unfold sgn
 by_cases h0 : natOf l = 0
 ·rw [if_pos h0, h0]; cases neg <;> rfl
 ·rw [if_neg h0]
  cases neg
  ·rw [if_neg (by decide), if_neg (by decide)]; exact Int.sign_eq_one_of_pos (by omega)
  ·rw [if_pos rfl, if_pos rfl]; exact Int.sign_eq_neg_one_of_neg (by omega)
def cmpI (x y : Int) : Int := if x < y then -1 else if y < x then 1 else 0
theorem pC (x y : Int) : cmpI x y = (x - y).sign := by
 unfold cmpI
 split
 ·rw [Int.sign_eq_neg_one_of_neg (by omega)]
 ·split
  ·rw [Int.sign_eq_one_of_pos (by omega)]
  ·rw [show x - y = 0 by omega]; rfl
theorem eM {p q : Nat} {v1 v2 : Value} {x y : Int} {w : World} (h1 : IntK p w v1 x) (h2 : IntK q w v2 y) : CallsR Tryz.prog 61 #[v1, v2] w fun v w' => v = .int .i64 (x - y).sign ∧ Ex w w' := by
 have h1' := h1
 have h2' := h2
 obtain ⟨n1, a1, c1, l1, rfl, hL1, rfl, _⟩ := h1
 obtain ⟨n2, a2, c2, l2, rfl, hL2, rfl, _⟩ := h2
 have e1 := lA n1 l1
 have e2 := lA n2 l2
 rw [← pC]
 refine aF (args := [_, _]) Tryz.func61 rfl rfl ?_
 refine aj ?_
 refine ah rfl ?_
 refine bH rfl (fun ga w2 hn2 => ⟨fun _ _ => trivial, ?_⟩)
 refine bH rfl (fun gb w3 hn3 => ⟨fun _ _ => trivial, ?_⟩)
 have hb2 := hn2.blk.ext hn3.ex
 have hb3 := hn3.blk
 have hE := hn2.ex.trans hn3.ex
 repeat' (first|refine ai rfl ?_|refine aa ?_|refine aj ?_|refine ae ?_)
 refine bi (late := []) (plan := [(0, none), (2, none), (1, some true), (3, some true), (4, none), (5, none)]) (fun w' => Ex w3 w') bA (by kernel_rfl) (Ex.refl _).drew ?_
 have hE3d : Ex w3 w3.drew := (Ex.refl _).drew
 repeat' (first|refine aR (g := ga) rfl (fun _ h => hb2.ext h) rfl ?_|refine aR (g := gb) rfl (fun _ h => hb3.ext h) rfl ?_)
 refine aw (cj (h1'.ext (hE.trans hE3d))) rfl ?_
 rintro v w4 ⟨rfl, hE4⟩
 refine ⟨fun _ h => h.trans hE4, ?_⟩
 skip
 refine aw (cj (h2'.ext ((hE.trans hE3d).trans hE4))) rfl ?_
 rintro v w5 ⟨rfl, hE5⟩
 refine ⟨fun _ h => h.trans hE5, ?_⟩
 have hE35 : Ex w3 w5 := (hE3d.trans hE4).trans hE5
 have hE05 := hE.trans hE35
 generalize hs1 : (sgn n1 (natOf l1)).sign = s1 at *
 generalize hs2 : (sgn n2 (natOf l2)).sign = s2 at *
 have q1 : sgn n1 (natOf l1) = s1 * (natOf l1 : Int) := by rw [← hs1]; have := Int.sign_mul_natAbs (sgn n1 (natOf l1)); rw [cS] at this; exact this.symm
 have q2 : sgn n2 (natOf l2) = s2 * (natOf l2 : Int) := by rw [← hs2]; have := Int.sign_mul_natAbs (sgn n2 (natOf l2)); rw [cS] at this; exact this.symm
 have r1 : s1 = 0 ∨ s1 = 1 ∨ s1 = -1 := by rw [e1]; split; exact .inl rfl; split; exact .inr (.inr rfl); exact .inr (.inl rfl)
 have r2 : s2 = 0 ∨ s2 = 1 ∨ s2 = -1 := by rw [e2]; split; exact .inl rfl; split; exact .inr (.inr rfl); exact .inr (.inl rfl)
 have p1 : s1 = 0 ↔ natOf l1 = 0 := by
  rw [e1]
  by_cases h : natOf l1 = 0
  ·rw [if_pos h]; exact ⟨fun _ => h, fun _ => rfl⟩
  ·rw [if_neg h]; cases n1 <;> simp [h]
 have p2 : s2 = 0 ↔ natOf l2 = 0 := by
  rw [e2]
  by_cases h : natOf l2 = 0
  ·rw [if_pos h]; exact ⟨fun _ => h, fun _ => rfl⟩
  ·rw [if_neg h]; cases n2 <;> simp [h]
 rw [q1, q2]
 by_cases hss : s1 = s2
 ·subst hss
  have hcz : -1 ≤ cmpZ (natOf l1) (natOf l2) ∧ cmpZ (natOf l1) (natOf l2) ≤ 1 := by unfold cmpZ; split; omega; split <;> omega
  repeat' (first|refine tx rfl rfl ?_|refine ai rfl ?_|refine aa ?_|refine aj ?_|refine ah rfl ?_|refine ae ?_|refine au rfl ?_|refine aE ?_)
  refine bi (late := []) (plan := [(0, none), (1, none), (2, none), (4, none), (5, none), (3, some true), (6, some true), (7, some true), (8, none), (9, none)]) (fun w' => Ex w5 w') bA (by kernel_rfl) (Ex.refl _).drew ?_
  have hE5d : Ex w5 w5.drew := (Ex.refl _).drew
  have hb25 := hb2.ext hE35
  have hb35 := hb3.ext hE35
  repeat' (first|refine aW (g := ga) rfl (fun _ h => hb25.ext h) rfl ?_|refine aW (g := gb) rfl (fun _ h => hb35.ext h) rfl ?_|refine ai rfl ?_|refine aN rfl ?_)
  refine aw (bZ (hL1.ext (hE05.trans hE5d))) rfl ?_
  rintro v w6 ⟨a6, c6, rfl, hL6, _, hE6⟩
  refine ⟨fun _ h => h.trans hE6, ?_⟩
  skip
  refine aw (bZ (hL2.ext ((hE05.trans hE5d).trans hE6))) rfl ?_
  rintro v w7 ⟨a7, c7, rfl, hL7, _, hE7⟩
  refine ⟨fun _ h => h.trans hE7, ?_⟩
  skip
  refine aw (fp (hL6.ext hE7) hL7 (bB _) (bB _)) rfl ?_
  rw [bh, bh]
  rintro v w8 ⟨rfl, hE8⟩
  refine ⟨fun _ h => h.trans hE8, ?_⟩
  have hmb : -1 ≤ s1 * cmpZ (natOf l1) (natOf l2) ∧ s1 * cmpZ (natOf l1) (natOf l2) ≤ 1 := by rcases r1 with rfl | rfl | rfl <;> omega
  repeat' (first|refine j3 rfl rfl (by omega) (by omega) ?_|refine ai rfl ?_|refine aa ?_|refine ae ?_|refine aI ?_)
  refine bx rfl (rt rfl) ⟨?_, (((hE05.trans hE5d).trans hE6).trans hE7).trans hE8⟩
  show Value.int .i64 (s1 * cmpZ (natOf l1) (natOf l2)) = _
  congr 1
  unfold cmpZ cmpI
  rcases r1 with rfl | rfl | rfl
  ·rw [Int.zero_mul, Int.zero_mul, Int.zero_mul, if_neg (by omega), if_neg (by omega)]
  ·split
   ·rw [if_pos (by omega)]; rfl
   ·split
    ·rw [if_neg (by omega), if_pos (by omega)]; rfl
    ·rw [if_neg (by omega), if_neg (by omega)]; rfl
  ·split
   ·rw [if_neg (by omega), if_pos (by omega)]; rfl
   ·split
    ·rw [if_pos (by omega)]; rfl
    ·rw [if_neg (by omega), if_neg (by omega)]; rfl
 ·by_cases hlt : s1 < s2
  ·repeat' (first|refine bu rfl rfl hlt ?_|refine ai rfl ?_|refine aa ?_|refine aj ?_|refine ah rfl ?_|refine ae ?_|refine az rfl ?_|refine aO rfl (fun hc => ?_) (fun hc => ?_)|refine aI ?_|refine aU ?_|refine aE ?_)
   ·refine bx rfl (rt rfl) ⟨?_, hE05⟩
    show Value.int .i64 (-1) = _
    congr 1
    unfold cmpI
    rw [if_pos]
    rcases r1 with rfl | rfl | rfl <;> rcases r2 with rfl | rfl | rfl <;> omega
   ·omega
  ·repeat' (first|refine bj rfl rfl (by omega) ?_|refine ai rfl ?_|refine aa ?_|refine aj ?_|refine ah rfl ?_|refine ae ?_|refine au rfl ?_|refine aO rfl (fun hc => ?_) (fun hc => ?_)|refine aI ?_|refine aU ?_|refine aE ?_)
   ·refine bx rfl (rt rfl) ⟨?_, hE05⟩
    show Value.int .i64 1 = _
    congr 1
    unfold cmpI
    rw [if_neg, if_pos]
    ·rcases r1 with rfl | rfl | rfl <;> rcases r2 with rfl | rfl | rfl <;> omega
    ·rcases r1 with rfl | rfl | rfl <;> rcases r2 with rfl | rfl | rfl <;> omega
   ·omega
end Go.Proofs.YtiejljicpinheaaGreat
namespace Go.Proofs.YtiejljicpinheaaGreat
open Go.W Go.LM
structure DvJ (N V n m k : Nat) (R Q : List Nat) : Prop where
 rl : R.length = m + 1 + n
 ql : Q.length = m + 1
 lr : Lim R
 lq : Lim Q
 eq : natOf R + V * natOf Q = N
 hi : natOf (R.drop k) < V
 zero : ∀ i, i < k → Q.getD i 0 = 0
 le : k ≤ m + 1
theorem Lim.drop {l : List Nat} (h : Lim l) (k : Nat) : Lim (l.drop k) := fun d hd => h d (List.mem_of_mem_drop hd)
theorem Lim.append {l m : List Nat} (h : Lim l) (h' : Lim m) : Lim (l ++ m) := fun d hd => by
 rcases List.mem_append.1 hd with e | e
 ·exact h d e
 ·exact h' d e
theorem DvJ.pre {N V n m k : Nat} {R Q : List Nat} (h : DvJ N V n m (k + 1) R Q) (hV : V < 4294967296 ^ n) :
  natOf ((R.drop k).take (n + 1)) < V * 4294967296 ∧ natOf (R.drop (k + (n + 1))) = 0 ∧ ((R.drop k).take (n + 1)).length = n + 1 ∧ (R.take k).length = k ∧ R = R.take k ++ (R.drop k).take (n + 1) ++ R.drop (k + (n + 1)) := by
 have h1 := h.rl
 have h2 := h.le
 have e := cP (ls := R) (k := k) (by omega)
 have h3 := h.hi
 have h4 := h.lr.getD k
 have h5 : natOf (R.drop k) < V * 4294967296 := by
  rw [e]
  have : (natOf (R.drop (k + 1)) + 1) * 4294967296 ≤ V * 4294967296 := Nat.mul_le_mul_right _ h3
  omega
 have hd : (R.drop k).length = m + 1 + n - k := by rw [List.length_drop, h1]
 have es := dh (R.drop k) (k := n + 1) (by omega)
 rw [List.drop_drop] at es
 have hz : natOf (R.drop (k + (n + 1))) = 0 := by
  rcases Nat.eq_zero_or_pos (natOf (R.drop (k + (n + 1)))) with h0 | h0
  ·exact h0
  ·exfalso
   have : 4294967296 ^ (n + 1) * 1 ≤ 4294967296 ^ (n + 1) * natOf (R.drop (k + (n + 1))) := Nat.mul_le_mul_left _ h0
   have h6 : V * 4294967296 < 4294967296 ^ n * 4294967296 := Nat.mul_lt_mul_of_pos_right hV (by decide)
   rw [Nat.pow_succ] at this es
   omega
 refine ⟨by rw [es] at h5; omega, hz, by rw [List.length_take, hd]; omega, by rw [List.length_take, h1]; omega, ?_⟩
 rw [List.append_assoc, ← List.drop_drop, List.take_append_drop, List.take_append_drop]
theorem DvJ.step {N V n m k : Nat} {R Q S' : List Nat} (h : DvJ N V n m (k + 1) R Q) (hV : V < 4294967296 ^ n) (h0 : 0 < V) (hl : S'.length = n + 1) (hL : Lim S') (hS : natOf S' = natOf ((R.drop k).take (n + 1)) % V) :
  DvJ N V n m k (R.take k ++ S' ++ R.drop (k + (n + 1))) (Q.set k (natOf ((R.drop k).take (n + 1)) / V)) := by
 obtain ⟨p1, p2, p3, p4, p5⟩ := h.pre hV
 have h1 := h.rl
 have h2 := h.le
 have hq := h.ql
 have heq := h.eq
 have hR : natOf R = natOf (R.take k) + 4294967296 ^ k * natOf ((R.drop k).take (n + 1)) := by
  conv => lhs; rw [p5]
  rw [cM, cM, p2, p4, Nat.mul_zero, Nat.add_zero]
 have hqd : natOf ((R.drop k).take (n + 1)) / V < 4294967296 := (Nat.div_lt_iff_lt_mul h0).2 (by rw [Nat.mul_comm]; exact p1)
 have hdm := Nat.div_add_mod (natOf ((R.drop k).take (n + 1))) V
 generalize (R.drop k).take (n + 1) = S at *
 have hQ := cH (l := Q) (k := k) (v := natOf S / V) (by omega)
 rw [h.zero k (by omega), Nat.zero_mul, Nat.add_zero] at hQ
 refine ⟨by simp only [List.length_append, p4, hl, List.length_drop]; omega, by simp [hq], Lim.append (Lim.append (h.lr.take k) hL) (Lim.drop h.lr _), h.lq.set hqd, ?_, ?_, fun i hi => ?_, by omega⟩
 ·rw [cM, cM, p2, p4, Nat.mul_zero, Nat.add_zero, hQ, hS, Nat.mul_add]
  rw [hR] at heq
  generalize natOf S / V = q at *
  generalize natOf S % V = r at *
  generalize 4294967296 ^ k = E at *
  have : V * (q * E) + E * r = E * natOf S := by rw [← hdm]; grind
  omega
 ·rw [List.append_assoc, List.drop_append_of_le_length (by omega), List.drop_of_length_le (by omega), List.nil_append, cM, p2, Nat.mul_zero, Nat.add_zero, hS]
  exact Nat.mod_lt _ h0
 ·rw [cg (by omega)]; exact h.zero i (by omega)
theorem DvJ.fin {N V n m : Nat} {R Q : List Nat} (h : DvJ N V n m 0 R Q) : natOf Q = N / V ∧ natOf R = N % V := by
 have h1 := h.hi
 have h2 := h.eq
 simp only [List.drop_zero] at h1
 refine ⟨?_, ?_⟩
 ·rw [← h2, Nat.add_mul_div_left _ _ (by omega), Nat.div_eq_of_lt h1, Nat.zero_add]
 ·rw [← h2, Nat.add_mul_mod_self_left, Nat.mod_eq_of_lt h1]
theorem DvJ.start {A D V n m s : Nat} {R : List Nat} (hR : natOf R = A * 2 ^ s) (_hV : V = D * 2 ^ s) (hl : R.length = m + 1 + n) (lR : Lim R) (hn : 1 ≤ n) (hA : A < 4294967296 ^ (m + n)) (hD : 4294967296 ^ (n - 1) * 2147483648 ≤ V) (hs : s ≤ 31) :
  DvJ (A * 2 ^ s) V n m (m + 1) R (List.replicate (m + 1) 0) := by
 refine ⟨hl, by simp, lR, Lim.zeros _, by rw [cQ, hR]; rfl, ?_, fun i hi => ?_, Nat.le_refl _⟩
 ·have e := dh R (k := m + 1) (by omega)
  have hp : (2 : Nat) ^ s ≤ 2147483648 := Nat.le_trans (Nat.pow_le_pow_right (by decide) hs) (by decide)
  rcases Nat.lt_or_ge (natOf (R.drop (m + 1))) V with h | h
  ·exact h
  ·exfalso
   have h1 : 4294967296 ^ (m + 1) * V ≤ 4294967296 ^ (m + 1) * natOf (R.drop (m + 1)) := Nat.mul_le_mul_left _ h
   have h2 : 4294967296 ^ (m + 1) * (4294967296 ^ (n - 1) * 2147483648) ≤ 4294967296 ^ (m + 1) * V := Nat.mul_le_mul_left _ hD
   rw [← Nat.mul_assoc, ← Nat.pow_add, show m + 1 + (n - 1) = m + n by omega] at h2
   have h3 : A * 2 ^ s < 4294967296 ^ (m + n) * 2147483648 := Nat.lt_of_le_of_lt (Nat.mul_le_mul_left _ hp) (Nat.mul_lt_mul_of_pos_right hA (by decide))
   omega
 ·simp [List.getD_eq_getElem?_getD, List.getElem?_replicate]
  split <;> rfl
theorem ni {ls S : List Nat} {s : Nat} (_hc : Canon ls) (hL : Lim ls) (hn : 1 ≤ ls.length) (hS : S.length = ls.length + 1) (lS : Lim S) (hN : natOf S = natOf ls * 2 ^ s) (h1 : 2147483648 ≤ ls.getD (ls.length - 1) 0 * 2 ^ s) (h2 : ls.getD (ls.length - 1) 0 * 2 ^ s < 4294967296) (hs : s ≤ 31) :
  natOf (S.take ls.length) = natOf ls * 2 ^ s ∧ 2147483648 ≤ (S.take ls.length).getD (ls.length - 1) 0 ∧ natOf ls * 2 ^ s < 4294967296 ^ ls.length ∧ 4294967296 ^ (ls.length - 1) * 2147483648 ≤ natOf ls * 2 ^ s := by
 obtain ⟨n, hn'⟩ : ∃ n, ls.length = n + 1 := ⟨ls.length - 1, by omega⟩
 rw [hn'] at hS h1 h2 ⊢
 rw [Nat.add_sub_cancel] at h1 h2 ⊢
 have e := dh ls (k := n) (by omega)
 rw [cP (by omega), List.drop_of_length_le (by omega)] at e
 simp only [natOf, Nat.mul_zero, Nat.add_zero] at e
 have hlow := bM (hL.take n)
 rw [List.length_take, hn', Nat.min_eq_left (by omega)] at hlow
 generalize ls.getD n 0 = x at *
 generalize natOf (ls.take n) = y at *
 have hP : 0 < 2 ^ s := Nat.two_pow_pos s
 have hdiv : (x + 1) * 2 ^ s ≤ 4294967296 := by
  have hb : (4294967296 : Nat) = 2 ^ (32 - s) * 2 ^ s := by rw [← Nat.pow_add, show 32 - s + s = 32 by omega]
  have : x < 2 ^ (32 - s) := Nat.lt_of_mul_lt_mul_right (a := 2 ^ s) (by rw [← hb]; exact h2)
  rw [hb]; exact Nat.mul_le_mul_right _ this
 have g1 : natOf ls * 2 ^ s < 4294967296 ^ (n + 1) := by
  rw [e, Nat.pow_succ]
  have : (y + 4294967296 ^ n * x) + 1 ≤ 4294967296 ^ n * (x + 1) := by rw [Nat.mul_add]; omega
  have h3 := Nat.mul_le_mul_right (2 ^ s) this
  have h4 : 4294967296 ^ n * ((x + 1) * 2 ^ s) ≤ 4294967296 ^ n * 4294967296 := Nat.mul_le_mul_left _ hdiv
  rw [← Nat.mul_assoc] at h4
  rw [Nat.add_mul _ 1] at h3
  omega
 have g2 : 4294967296 ^ n * 2147483648 ≤ natOf ls * 2 ^ s := by
  rw [e]
  have : 4294967296 ^ n * 2147483648 ≤ 4294967296 ^ n * (x * 2 ^ s) := Nat.mul_le_mul_left _ h1
  rw [Nat.add_mul, Nat.mul_assoc]; omega
 have hS0 : natOf S = natOf (S.take (n + 1)) + S.getD (n + 1) 0 * 4294967296 ^ (n + 1) := by
  have := dh S (k := n + 1) (by omega)
  rw [cP (by omega), List.drop_of_length_le (by omega)] at this
  simp only [natOf, Nat.mul_zero, Nat.add_zero] at this
  rw [this, Nat.mul_comm (4294967296 ^ (n + 1))]
 have hz : S.getD (n + 1) 0 = 0 := by
  rcases Nat.eq_zero_or_pos (S.getD (n + 1) 0) with h | h
  ·exact h
  ·exfalso
   have : 1 * 4294967296 ^ (n + 1) ≤ S.getD (n + 1) 0 * 4294967296 ^ (n + 1) := Nat.mul_le_mul_right _ h
   omega
 rw [hz, Nat.zero_mul, Nat.add_zero] at hS0
 refine ⟨by omega, ?_, g1, g2⟩
 have hT : Lim (S.take (n + 1)) := lS.take _
 have e2 := dh (S.take (n + 1)) (k := n) (by rw [List.length_take]; omega)
 rw [cP (by rw [List.length_take]; omega), List.drop_of_length_le (by rw [List.length_take]; omega)] at e2
 simp only [natOf, Nat.mul_zero, Nat.add_zero] at e2
 have hlow2 := bM (hT.take n)
 rw [List.length_take, List.length_take] at hlow2
 rw [show min n (min (n + 1) S.length) = n by omega] at hlow2
 rcases Nat.lt_or_ge ((S.take (n + 1)).getD n 0) 2147483648 with h | h
 ·exfalso
  have : 4294967296 ^ n * ((S.take (n + 1)).getD n 0 + 1) ≤ 4294967296 ^ n * 2147483648 := Nat.mul_le_mul_left _ h
  rw [Nat.mul_add] at this
  omega
 ·exact h
theorem nj {ls : List Nat} {a : Option Addr} {c : Nat} {w : World} (h : Limbs w a c ls) (h0 : 0 < ls.length) : CallsR Tryz.prog 127 #[.slice a ls.length c] w fun v w' =>
  ∃ g c', v = .slice (some ⟨g, 0, none⟩) ls.length c' ∧ Own w' w.heap.size 113 1 (some ⟨g, 0, none⟩) ls.length c' (limbsL ls) ∧ Ex w w' := by
 have hlen := h.len
 obtain ⟨g0, o0, rfl⟩ := h.sl.plain (by simpa using h0)
 refine aF (args := [_]) Tryz.func127 rfl rfl ?_
 repeat' (first|refine d6 rfl rfl ?_|refine oU (fun g w1 hn1 => ⟨fun _ _ => trivial, ?_⟩)|refine ai rfl ?_|refine aa ?_|refine aj ?_|refine ah rfl ?_|refine ae ?_|refine au rfl ?_|refine aE ?_)
 have hs1 := h.sl.ext hn1.ex
 refine gE (z := .int .u32 0) (s := 1) (vs := []) (lo := w.heap.size) (news := limbsL ls) rfl rfl rfl rfl (hn1.blk.own rfl (Nat.zero_le _) hn1.lo) hs1 (h.sl.plain (by simp; omega)) (by simp) (ma (fun _ => rfl) _) (by omega) (by omega) hn1.ex.size ?_
 intro a' c' w2 ho hg hA
 refine ⟨fun _ _ => trivial, ?_⟩
 rw [Nat.zero_add] at ho ⊢
 have hE : Ex w w2 := iD hg hn1.ex (by rintro _ ⟨⟩; exact hn1.lo)
 repeat' (first|refine ai rfl ?_|refine aa ?_|refine ae ?_|refine aI ?_)
 obtain ⟨g', rfl⟩ : ∃ g', a' = some ⟨g', 0, none⟩ := by
  rcases ho.2 with ⟨e, e'⟩ | ⟨g', cp, cur, e, _⟩
  ·omega
  ·cases e; exact ⟨_, rfl⟩
 exact bx rfl (rt rfl) ⟨_, c', rfl, ho, hE⟩
end Go.Proofs.YtiejljicpinheaaGreat
namespace Go.Proofs.YtiejljicpinheaaGreat
open Go.W Go.LM
def RetQR (w : World) (q r : Nat) (v : Value) (w' : World) : Prop := ∃ a1 c1 l1 a2 c2 l2, v = .tuple #[.slice a1 (List.length l1) c1, .slice a2 (List.length l2) c2] ∧ Limbs w' a1 c1 l1 ∧ Limbs w' a2 c2 l2 ∧ Canon l1 ∧ Canon l2 ∧ natOf l1 = q ∧ natOf l2 = r ∧
 (∀ ad, a1 = some ad → w.heap.size ≤ ad.block) ∧ (∀ ad, a2 = some ad → w.heap.size ≤ ad.block) ∧ Ex w w'
theorem kD {la lb : List Nat} (ha : Lim la) (cb : Canon lb) (h : natOf lb ≤ natOf la) : lb.length ≤ la.length := by
 rcases Nat.lt_or_ge la.length lb.length with h' | h'
 ·have := eQ ha cb h'; omega
 ·exact h'
set_option maxHeartbeats 2000000 in
theorem nk {la lb : List Nat} {a b : Option Addr} {c d : Nat} {w : World} (ha : Limbs w a c la) (hb : Limbs w b d lb) (ca : Canon la) (cb : Canon lb) (hpos : 0 < natOf lb) (hlen : la.length < 17592186044416) :
  CallsR Tryz.prog 111 #[.slice a la.length c, .slice b lb.length d] w (RetQR w (natOf la / natOf lb) (natOf la % natOf lb)) := by
 by_cases hsm : la.length ≤ 2 ∧ natOf lb ≤ natOf la
 ·refine (iJ ha hb ca cb hsm.1 hpos hsm.2).mono fun v w' h => ?_
  obtain ⟨a1, c1, a2, c2, h1, h2, h3, h4, h5, h6⟩ := h
  exact ⟨a1, c1, _, a2, c2, _, h1, h2, h3, dl _, dl _, dB, dB, h4, h5, h6⟩
 refine aF (args := [_, _]) Tryz.func111 rfl rfl ?_
 repeat' (first|refine ai rfl ?_|refine aa ?_|refine aj ?_|refine ah rfl ?_|refine ae ?_|refine aA ?_)
 refine aw (dN ha hb ca cb) rfl ?_
 rintro v w1 ⟨rfl, hE1⟩
 refine ⟨fun _ _ => trivial, ?_⟩
 have hcmp : cmpZ (natOf la) (natOf lb) < 0 ↔ natOf la < natOf lb := by
  have := @jR (natOf la) (natOf lb)
  omega
 have ha1 := ha.ext hE1
 have hb1 := hb.ext hE1
 repeat' (first|refine ai rfl ?_|refine aa ?_|refine aj ?_|refine ah rfl ?_|refine ae ?_|refine aZ rfl ?_|refine aO rfl (fun hc => ?_) (fun hc => ?_)|refine aL ?_|refine aE ?_)
 ·
  refine aw (gN ha1) rfl ?_
  rintro v w2 ⟨a2, c2, rfl, hL2, hf2, hE2⟩
  refine ⟨fun _ _ => trivial, ?_⟩
  repeat' (first|refine ai rfl ?_|refine aa ?_|refine ae ?_|refine aI ?_|refine aU ?_|refine bQ ?_)
  have hlt := hcmp.1 (by assumption)
  have s1 := hE1.size
  exact cA rfl (rt rfl) (rt rfl) ⟨none, 0, [], a2, c2, la, rfl, Limbs.nil _ _ _, hL2, rfl, ca, (Nat.div_eq_of_lt hlt).symm, (Nat.mod_eq_of_lt hlt).symm, fun ad e => (nomatch e), fun ad e => by have := hf2 ad e; omega, hE1.trans hE2⟩
 ·have := mt hcmp.2 (by assumption); omega
 all_goals (
  have hge : natOf lb ≤ natOf la := by have := mt hcmp.2 (by assumption); omega
  have hl2 : 2 < la.length := by omega
  have hll := kD ha.lim cb hge
  have hbn : lb ≠ [] := fun e => by rw [e] at hpos; simp [natOf] at hpos
  have hb0 : 1 ≤ lb.length := List.length_pos_iff.2 hbn)
 ·
  have hlb1 : lb.length = 1 := by omega
  refine aw (nj ha1 (by omega)) rfl ?_
  rintro v w2 ⟨g2, c2, rfl, hO2, hE2⟩
  refine ⟨fun _ _ => trivial, ?_⟩
  have hbn0 : natOf lb = lb.getD 0 0 := by
   match lb, hlb1 with
   | [x], _ => simp [natOf]
  have hbl := hb.lim.getD 0
  repeat' (first|(refine aD (j := 0) rfl rfl (hb.sl.plain (by simp; omega)) (by omega) ?_)|refine bG rfl ((hb1.ext hE2).sl) (by omega) ?_|refine ai rfl ?_|refine aa ?_|refine aj ?_|refine ah rfl ?_|refine ae ?_)
  have s1 := hE1.size
  refine aw (iQ hO2 ha.lim (b := lb.getD 0 0) (by omega) hbl (by omega)) rfl ?_
  rintro v w3 ⟨L, rfl, hC3, hO3, hL3, hLl, hN3⟩
  refine ⟨fun _ _ => trivial, ?_⟩
  repeat' (first|refine ai rfl ?_|refine aa ?_|refine aj ?_|refine ah rfl ?_|refine ae ?_)
  have hg2 := (hO2.lo _ rfl).1
  have hE3 : Ex w w3 := (hE1.trans hE2).chg hC3 (by simp only at hg2; omega)
  have hlimbs : Limbs w3 (some ⟨g2, 0, none⟩) c2 L := ⟨hO3.sl, by rw [hLl]; exact hO3.cap, hL3, by omega⟩
  rw [← hLl]
  refine aw (bV hlimbs) rfl ?_
  rintro v w4 ⟨rfl, hE4⟩
  refine ⟨fun _ _ => trivial, ?_⟩
  have hm := Nat.mod_lt (natOf la) (show 0 < lb.getD 0 0 by omega)
  repeat' (first|refine gH rfl (by omega) ?_|refine ai rfl ?_)
  refine aw (du (n := natOf la % lb.getD 0 0) (by omega) _) rfl ?_
  rintro v w5 ⟨a5, c5, rfl, hL5, hf5, hE5⟩
  refine ⟨fun _ _ => trivial, ?_⟩
  repeat' (first|refine ai rfl ?_|refine aa ?_|refine ae ?_|refine aI ?_|refine aU ?_|refine bQ ?_)
  have s4 := hE3.size
  have s5 := hE4.size
  refine cA rfl (rt rfl) (rt rfl) ⟨_, c2, trimL L, a5, c5, _, rfl, ((hlimbs.ext hE4).ext hE5).trim, hL5, bB _, dl _, ?_, ?_, fun ad e => ?_, fun ad e => by have := hf5 ad e; omega, (hE3.trans hE4).trans hE5⟩
  ·rw [bh, hN3, hbn0]
  ·rw [dB, hbn0]
  ·cases e; simp only at hg2 ⊢; omega
 ·
  obtain ⟨m, hm⟩ : ∃ m, la.length = m + lb.length := ⟨la.length - lb.length, by omega⟩
  obtain ⟨n, hn⟩ : ∃ n, lb.length = n := ⟨_, rfl⟩
  have hn2 : 2 ≤ n := by
   rcases Nat.lt_or_ge n 2 with h | h
   ·exact absurd (show ((lb.length : Nat) : Int) = 1 by omega) (by assumption)
   ·exact h
  have htop0 : 0 < lb.getD (lb.length - 1) 0 := by
   have h1 := iI cb hbn
   have e := dh lb (k := lb.length - 1) (by omega)
   rw [cP (by omega), List.drop_of_length_le (by omega)] at e
   simp only [natOf, Nat.mul_zero, Nat.add_zero] at e
   have h2 := bM (hb.lim.take (lb.length - 1))
   rw [List.length_take, Nat.min_eq_left (by omega)] at h2
   rcases Nat.eq_zero_or_pos (lb.getD (lb.length - 1) 0) with h | h
   ·rw [h, Nat.mul_zero] at e; omega
   ·exact h
  have htopl := hb.lim.getD (lb.length - 1)
  have hbp := hb.sl.plain (by simp; omega)
  repeat' (first|refine kC (m := lb.length) (m' := 1) rfl rfl (by omega) (by omega) ?_|refine aD (j := lb.length - 1) rfl rfl hbp (by omega) ?_|refine bG rfl hb1.sl (by omega) ?_)
  refine aw (pB htopl htop0 _) rfl ?_
  rintro v w2 ⟨s, rfl, rfl, hs, ht1, ht2⟩
  refine ⟨fun _ _ => trivial, ?_⟩
  repeat' (first|refine ai rfl ?_|refine aa ?_|refine aj ?_|refine ah rfl ?_|refine ae ?_)
  refine aw (gO hb1 hs (by omega)) rfl ?_
  rintro v w3 ⟨g3, V, rfl, hg3, hB3, hVl, hV, hVN, _, hE3⟩
  refine ⟨fun _ _ => trivial, ?_⟩
  obtain ⟨t1, t2, t3, t4⟩ := ni cb hb.lim hb0 hVl hV hVN ht1 ht2 hs
  repeat' (first|refine fO (n := (lb.length : Int)) rfl rfl (by omega) (by omega) ?_|refine ai rfl ?_|refine aa ?_|refine aj ?_|refine ah rfl ?_|refine ae ?_|refine aZ rfl ?_)
  have ha3 := ha1.ext hE3
  refine aw (gO ha3 hs (by omega)) rfl ?_
  rintro v w4 ⟨g4, R, rfl, hg4, hB4, hRl, hR, hRN, _, hE4⟩
  refine ⟨fun _ _ => trivial, ?_⟩
  have q1 : ((m + 1 : Nat) : Int) = (la.length : Int) - (lb.length : Int) + 1 := by omega
  have q2 : ((m : Nat) : Int) = (la.length : Int) - (lb.length : Int) := by omega
  repeat' (first|refine cR rfl rfl (by omega) (by omega) ?_|refine bc rfl rfl (by omega) (by omega) ?_|(rw [← q1])|refine eK (k := .u32) (n := m + 1) rfl rfl (by omega) (by omega) (fun g5 w5 hn5 => ⟨fun _ _ => trivial, ?_⟩)|(rw [← q2])|refine ai rfl ?_|refine aa ?_|refine aj ?_|refine ah rfl ?_|refine ae ?_|refine aZ rfl ?_|refine aA ?_)
  have hB5 : Blk w5 g5 113 (limbsL (List.replicate (m + 1) 0)) := hn5.blk
  have s1 := hE1.size
  have s3 := hE3.size
  have s4 := hE4.size
  have s5 := hn5.ex.size
  have l3 := hB3.lt
  have l4 := hB4.lt
  have l5 := hn5.lo
  have d34 : g3 ≠ g4 := by omega
  have d35 : g3 ≠ g5 := by omega
  have d45 : g4 ≠ g5 := by omega
  have hVlt := bM hV
  have hst := DvJ.start (A := natOf la) (D := natOf lb) (V := natOf lb * 2 ^ s) (m := m) (n := lb.length) hRN rfl (by omega) hR hb0 (by rw [← hm]; exact bM ha.lim) t4 hs
  have hV0 : 0 < natOf lb * 2 ^ s := Nat.mul_pos hpos (Nat.two_pow_pos s)
  have hVtl : (V.take lb.length).length = lb.length := by rw [List.length_take]; omega
  refine aY (ι := Nat × List Nat × List Nat) [12, 80, 81, 82, 83, 84, 85, 86, 87, 88, 89, 90, 91, 92, 93, 94, 95, 96] (fun t => [(12, .int .i64 ((t.1 : Int) - 1))])
   (fun t w' => DvJ (natOf la * 2 ^ s) (natOf lb * 2 ^ s) lb.length m t.1 t.2.1 t.2.2 ∧ Blk w' g3 113 (limbsL V) ∧ Blk w' g4 113 (limbsL t.2.1) ∧ Blk w' g5 113 (limbsL t.2.2) ∧ Ex w w') (fun t => t.1)
   (m + 1, R, List.replicate (m + 1) 0) ⟨by show Value.int .i64 (m : Int) = Value.int .i64 (((m + 1 : Nat) : Int) - 1); rw [show ((m + 1 : Nat) : Int) - 1 = (m : Int) by omega], trivial⟩
   ⟨hst, (hB3.ext hE4).ext hn5.ex, hB4.ext hn5.ex, hB5, ((hE1.trans hE3).trans hE4).trans hn5.ex⟩ ?_
  rintro ⟨k, R1, Q1⟩ ξ w6 ⟨hJ, hB3, hB4, hB5, hEx⟩
  simp only at hJ hB4 hB5
  have hkm := hJ.le
  show CW _ _ _ _ (over [(12, .int .i64 ((k : Int) - 1))] _) w6
  repeat' (first|refine ai rfl ?_|refine aa ?_|refine aj ?_|refine ah rfl ?_|refine ae ?_|refine aZ rfl ?_|refine bc rfl rfl (by omega) (by omega) ?_|refine aO rfl (fun hc => ?_) (fun hc => ?_)|refine aA ?_|refine aP ?_|refine aJ ?_|refine aQ ?_|refine aE ?_)
  ·obtain ⟨j, rfl⟩ : ∃ j, k = j + 1 := ⟨k - 1, by omega⟩
   rw [show ((j + 1 : Nat) : Int) - 1 = (j : Int) by omega]
   obtain ⟨p1, p2, p3, p4, p5⟩ := hJ.pre t3
   have hrl := hJ.rl
   have hVL : Limbs w6 (some ⟨g3, 0, none⟩) (lb.length + 1) (V.take lb.length) := ⟨by unfold limbsL; rw [List.map_take]; exact hB3.sl.take _, by omega, hV.take _, by omega⟩
   repeat' (first|refine je (l := j) (h := j + lb.length + 1) rfl rfl rfl (by omega) (by omega) (by omega) ?_|refine ai rfl ?_)
   rw [show (0 + j * 1 : Nat) = (R1.take j).length by omega, show j + lb.length + 1 - j = lb.length + 1 by omega]
   refine aw (jI (S := (R1.drop j).take (lb.length + 1)) (H := R1.drop (j + (lb.length + 1))) (by rw [← p5]; exact hB4) p3 ((Lim.drop hJ.lr j).take _) hVL hVtl (by omega) t2 (by rw [t1]; exact p1) (fun ad e => by cases e; exact d34)) rfl ?_
   rintro v w7 ⟨S', rfl, hC7, hB7, hSl, hSL, hSN⟩
   refine ⟨fun _ _ => trivial, ?_⟩
   have hQl := hJ.ql
   rw [t1] at hSN ⊢
   repeat' (first|refine aD (j := j) rfl rfl ⟨_, _, rfl⟩ (by omega) ?_|refine dA rfl rfl (hB5.chg hC7 (Ne.symm d45)) (by omega) (fun w8 hc8 hb8 => ⟨fun _ _ => trivial, ?_⟩)|refine ai rfl ?_|refine aa ?_|refine ah rfl ?_|refine ae ?_|refine cR rfl rfl (by omega) (by omega) ?_|refine aL ?_)
   have sx := hEx.size
   refine ⟨⟨(j, _, _), ⟨hJ.step t3 hV0 hSl hSL hSN, (hB3.chg hC7 d34).chg hc8 d35, hB7.chg hc8 d45, hb8, (hEx.chg hC7 (by omega)).chg hc8 (by omega)⟩, Nat.lt_succ_self j, rfl, trivial⟩, (by (repeat (first|exact aH _ _ _|refine ay rfl ?_|refine av rfl ?_|refine ak rfl ?_|refine ao rfl ?_)))⟩
  ·obtain rfl : k = 0 := by omega
   obtain ⟨f1, f2⟩ := hJ.fin
   rw [Nat.mul_div_mul_right _ _ (Nat.two_pow_pos s)] at f1
   rw [Nat.mul_mod_mul_right] at f2
   have hrl := hJ.rl
   have hql := hJ.ql
   have e4 : la.length + 1 = R1.length := by omega
   rw [e4]
   refine aw (jH hB4 hJ.lr hs (by omega)) rfl ?_
   rintro v w7 ⟨hC7, hB7⟩
   refine ⟨fun _ _ => trivial, ?_⟩
   repeat' (first|refine ai rfl ?_|refine aa ?_|refine aj ?_|refine ah rfl ?_|refine ae ?_)
   have hE7 := hEx.chg hC7 (by omega)
   have hB57 := hB5.chg hC7 (Ne.symm d45)
   have hLQ : Limbs w7 (some ⟨g5, 0, none⟩) (m + 1) Q1 := ⟨hB57.sl, by omega, hJ.lq, by omega⟩
   rw [show m + 1 = Q1.length by omega] at hLQ ⊢
   refine aw (bV hLQ) rfl ?_
   rintro v w8 ⟨rfl, hE8⟩
   refine ⟨fun _ _ => trivial, ?_⟩
   have hsl := ku s R1
   have hLR : Limbs w8 (some ⟨g4, 0, none⟩) R1.length (shrL s R1) := ⟨(hB7.ext hE8).sl, by omega, m7 s R1, by omega⟩
   repeat' (first|refine ai rfl ?_)
   rw [← hsl] at hLR ⊢
   refine aw (bV hLR) rfl ?_
   rintro v w9 ⟨rfl, hE9⟩
   refine ⟨fun _ _ => trivial, ?_⟩
   repeat' (first|refine ai rfl ?_|refine aa ?_|refine ae ?_|refine aI ?_)
   refine cA rfl (rt rfl) (rt rfl) ⟨_, _, trimL Q1, _, _, trimL (shrL s R1), rfl, ((hLQ.ext hE8).ext hE9).trim, (hLR.ext hE9).trim, bB _, bB _, ?_, ?_, fun ad e => ?_, fun ad e => ?_, (hE7.trans hE8).trans hE9⟩
   ·rw [bh, f1]
   ·rw [bh, kv (by omega) hJ.lr, f2, Nat.mul_div_cancel _ (Nat.two_pow_pos s)]
   ·cases e; simp only; omega
   ·cases e; simp only; omega
end Go.Proofs.YtiejljicpinheaaGreat
namespace Go.W
structure IH where
 neg : Bool
 sd : SD
abbrev ih0 : IH := ⟨false, sd0⟩
def IH.cells (h : IH) : List Value := [.bool h.neg, .slice h.sd.a h.sd.len h.sd.cap]
def IH.val (h : IH) : Value := .agg h.cells.toArray
def setF {α : Type} (f : Nat → α) (i : Nat) (x : α) : Nat → α := fun j => if j = i then x else f j
theorem aS {α : Type} (f : Nat → α) (i : Nat) (x : α) : setF f i x i = x := by simp [setF]
theorem aX {α : Type} (f : Nat → α) {i j : Nat} (x : α) (h : j ≠ i) : setF f i x j = f j := by simp [setF, h]
def rowC (n : Nat) (h : Nat → IH) : List Value := (List.range n).flatMap fun i => (h i).cells
def topC (n : Nat) (s : Nat → SD) : List Value := (List.range n).map fun i => (s i).val
theorem jm (h : Nat → IH) : rowC 0 h = [] := rfl
theorem cY (n : Nat) (h : Nat → IH) : rowC (n + 1) h = rowC n h ++ (h n).cells := by
 unfold rowC; rw [List.range_succ, List.flatMap_append]; simp
theorem bT : ∀ (n : Nat) (h : Nat → IH), (rowC n h).length = n * 2
 | 0, _ => rfl
 | n + 1, h => by rw [cY, List.length_append, bT n h]; simp [IH.cells]; omega
theorem f9 {n : Nat} {h h' : Nat → IH} (e : ∀ i, i < n → h i = h' i) : rowC n h = rowC n h' := by
 induction n with
 | zero => rfl
 | succ n ih => rw [cY, cY, ih (fun i hi => e i (by omega)), e n (by omega)]
theorem kE : ∀ {n : Nat} {h : Nat → IH} {i : Nat}, i < n → (rowC n h)[i * 2]? = some (.bool (h i).neg) ∧ (rowC n h)[i * 2 + 1]? = some (.slice (h i).sd.a (h i).sd.len (h i).sd.cap)
 | n + 1, h, i, hi => by
  have hl := bT n h
  rw [cY]
  by_cases hn : i < n
  ·rw [List.getElem?_append_left (by omega), List.getElem?_append_left (by omega)]
   exact kE hn
  ·obtain rfl : i = n := by omega
   rw [List.getElem?_append_right (by omega), List.getElem?_append_right (by omega), hl]
   simp [IH.cells]
theorem kF : ∀ {n : Nat} {h : Nat → IH} {i : Nat} (x : IH), i < n → (rowC n h).take (i * 2) ++ x.cells ++ (rowC n h).drop (i * 2 + 2) = rowC n (setF h i x)
 | n + 1, h, i, x, hi => by
  have hl := bT n h
  have hc : ∀ y : IH, y.cells.length = 2 := fun _ => rfl
  rw [cY, cY]
  by_cases hn : i < n
  ·rw [List.take_append_of_le_length (by omega), List.drop_append_of_le_length (by omega), ← kF x hn, aX h x (by omega)]
   simp only [List.append_assoc]
  ·obtain rfl : i = n := by omega
   rw [← hl, List.take_left, List.drop_eq_nil_of_le (by simp [hl, hc]), List.append_nil, aS,
    f9 (h' := h) (fun j hj => aX h x (by omega))]
theorem lB {n : Nat} {h : Nat → IH} {v : Value} (hv : v ∈ rowC n h) : (∃ b, v = .bool b) ∨ ∃ a l c, v = .slice a l c := by
 unfold rowC at hv
 rw [List.mem_flatMap] at hv
 obtain ⟨i, _, hi⟩ := hv
 simp only [IH.cells, List.mem_cons, List.not_mem_nil, or_false] at hi
 rcases hi with e | e
 ·exact .inl ⟨_, e⟩
 ·exact .inr ⟨_, _, _, e⟩
theorem kG (n : Nat) (h : Nat → IH) : (rowC n h).all Value.oneCell' = true := by
 rw [List.all_eq_true]; intro v hv
 rcases lB hv with ⟨b, rfl⟩ | ⟨a, l, c, rfl⟩ <;> rfl
theorem lC (n : Nat) : (madeCells (Value.cells (.agg #[.bool false, .slice none 0 0])) (n * 2)).toList = rowC n fun _ => ih0 := by
 induction n with
 | zero => simp [madeCells, jm]
 | succ n ih =>
  rw [cY, ← ih]
  simp only [madeCells, Array.toList_map, Array.toList_range]
  rw [show (n + 1) * 2 = n * 2 + 1 + 1 by omega, List.range_succ, List.range_succ]
  simp only [List.map_append, List.append_assoc, List.map_cons, List.map_nil, List.cons_append, List.nil_append]
  have a1 : n * 2 % 2 = 0 := by omega
  have a2 : (n * 2 + 1) % 2 = 1 := by omega
  simp [a1, a2, IH.cells, Value.cells]
theorem kH (n : Nat) : (Builtin.zeroCells (Value.cells (.agg #[.bool false, .slice none 0 0])) n).toList = rowC n fun _ => ih0 := lC n
theorem bP (n : Nat) (s : Nat → SD) : (topC n s).length = n := by simp [topC]
theorem bY {n : Nat} {s s' : Nat → SD} (e : ∀ i, i < n → s i = s' i) : topC n s = topC n s' :=
 List.map_congr_left fun i hi => by rw [e i (List.mem_range.1 hi)]
theorem fU {n : Nat} {s : Nat → SD} {i : Nat} (hi : i < n) : (topC n s)[i]? = some (s i).val := by
 simp [topC, hi]
theorem q8 {n : Nat} {s : Nat → SD} {i : Nat} (x : SD) : (topC n s).set i x.val = topC n (setF s i x) := by
 refine List.ext_getElem? fun j => ?_
 by_cases hj : j < n
 ·by_cases h : j = i
  ·subst h
   rw [List.getElem?_set_self (by rw [bP]; omega), fU hj, aS]
  ·rw [List.getElem?_set_ne (fun e => h e.symm), fU hj, fU hj, aX s x h]
 ·rw [List.getElem?_eq_none (by rw [List.length_set, bP]; omega), List.getElem?_eq_none (by rw [bP]; omega)]
theorem nl (n : Nat) (s : Nat → SD) : (topC n s).all Value.oneCell' = true := by
 rw [List.all_eq_true]; intro v hv
 simp only [topC, List.mem_map] at hv
 obtain ⟨i, _, rfl⟩ := hv; rfl
theorem lE {n : Nat} {s : Nat → SD} {v : Value} (hv : v ∈ topC n s) : ∃ a l c, v = .slice a l c := by
 simp only [topC, List.mem_map] at hv
 obtain ⟨i, _, rfl⟩ := hv; exact ⟨_, _, _, rfl⟩
theorem pD (n : Nat) : (List.replicate n sd0).map SD.val = topC n fun _ => sd0 := by
 simp [topC, List.map_const']
theorem Blk.at {w : World} {g T j : Nat} {cs : List Value} (h : Blk w g T cs) : w.cell? ⟨g, j, none⟩ = cs[j]? := by
 unfold Blk at h; simp [World.cell?, h]
theorem Blk.mem {w : World} {g T j : Nat} {cs : List Value} {v : Value} (h : Blk w g T cs) (hv : w.cell? ⟨g, j, none⟩ = some v) : v ∈ cs := by
 rw [h.at] at hv; exact List.mem_of_getElem? hv
theorem Sl.off {w : World} {a : Option Addr} {vs cs : List Value} {g T : Nat} (h : Sl w a vs) (hb : Blk w g T cs) {j : Nat} (hj : j < vs.length) (hn : vs.getD j undef ∉ cs) : ∀ ad, a = some ad → ad.block ≠ g := by
 rintro ad rfl e
 obtain ⟨g', o, h'⟩ := h.plain (by omega)
 cases h'
 simp only at e
 subst e
 exact hn (hb.mem (h.get j hj))
section
variable {P : Program} {S : World → Prop} {ops : List Oper} {K : Env → World → Prop} {rest : List (Oper × Option Bool)} {ρ : Env} {w : World} {b : Option Bool} {kf : Bool} {d : Nat} {dst : Option Nat} {T T' : TypeId} {pos : String} {af : Array Edge}
theorem mu {x y : Operand} {k : IntKind} {m m' : Int} {T'' : TypeId} (hx : ev ρ x = .int k m) (hy : ev ρ y = .int k m') (hd : m' < m) (h : RR P S ops K rest (upd ρ d (.bool false)) w) : RR P S ops K ((⟨some d, .binOp .leq T' x y T'', T, pos, af, none⟩, b) :: rest) ρ w :=
 sT hx hy (by rw [decide_eq_false (by omega)]; exact h)
theorem eN {T1 E y n : Nat} {x1 x2 : Operand} [hT : Slc P T1 E 2 y] [hz : Zro P E (.agg #[.bool false, .slice none 0 0])] (h1 : ev ρ x1 = .int .i64 n) (h2 : ev ρ x2 = .int .i64 n) (hb : y * n ≤ 281474976710656) (hm : n ≤ 9223372036854775807)
  (h : ∀ g w', New w w' g E (rowC n fun _ => ih0) → (kf = true → S w → S w') ∧ RR P S ops K rest (upd ρ d (.slice (some ⟨g, 0, none⟩) n n)) w') :
  RR P S ops K ((⟨some d, .makeSlice T1 x1 x2, T, pos, af, none⟩, some kf) :: rest) ρ w :=
 qo h1 h2 hb hm (fun g w' hn => h g w' (by rw [← lC]; exact hn))
theorem d8 {T1 E y n : Nat} {x1 x2 : Operand} [hT : Slc P T1 E 1 y] [hz : Zro P E (.slice none 0 0)] (h1 : ev ρ x1 = .int .i64 n) (h2 : ev ρ x2 = .int .i64 n) (hb : y * n ≤ 281474976710656) (hm : n ≤ 9223372036854775807)
  (h : ∀ g w', New w w' g E (topC n fun _ => sd0) → (kf = true → S w → S w') ∧ RR P S ops K rest (upd ρ d (.slice (some ⟨g, 0, none⟩) n n)) w') :
  RR P S ops K ((⟨some d, .makeSlice T1 x1 x2, T, pos, af, none⟩, some kf) :: rest) ρ w :=
 rW h1 h2 hb hm (fun g w' hn => h g w' (by rw [← pD]; exact hn))
theorem aT {x ix : Operand} {a : Option Addr} {l c E y j : Nat} {k : IntKind} [hT : Slc P T' E 2 y] (hx : ev ρ x = .slice a l c) (hi : ev ρ ix = .int k (j : Int)) (ha : W.plain a)
  (h2 : j < l) (h : RR P S ops K rest (upd ρ d (.pointer (some (elt a (j * 2))))) w) :
  RR P S ops K ((⟨some d, .indexAddr T' x ix, T, pos, af, none⟩, b) :: rest) ρ w :=
 gC hx hi ha (by omega) (by omega) (by simpa using h)
theorem bo {x : Operand} {T1 : TypeId} {a : Option Addr} {j n : Nat} {f : Nat → IH} [Agg P T1 2] (hx : ev ρ x = .pointer (some (elt a (j * 2)))) (hs : Rd b S w fun w' => Sl w' a (rowC n f)) (hp : W.plain a) (hj : j < n)
  (h : RR P S ops K rest (upd ρ d (f j).val) w) : RR P S ops K ((⟨some d, .load T1 x, T, pos, af, none⟩, b) :: rest) ρ w := by
 obtain ⟨g, o, rfl⟩ := hp
 refine oI (g := g) (o := o + j * 2) (vs := (f j).cells) (by rw [hx]; rfl) rfl (hs.imp fun w' hs => ?_) h
 have hl := bT n f
 obtain ⟨g1, g2⟩ := kE (h := f) hj
 intro i hi
 have hi2 : i < 2 := hi
 have := hs.get (j * 2 + i) (by omega)
 simp only [elt] at this
 rw [Nat.add_assoc, this, List.getD_eq_getElem?_getD]
 rcases i with _ | _ | i
 ·rw [Nat.add_zero, g1]; rfl
 ·rw [g2]; rfl
 ·omega
theorem cG {x : Operand} {T1 : TypeId} {a : Option Addr} {j n : Nat} {s : Nat → SD} [Scal P T1] (hx : ev ρ x = .pointer (some (elt a j))) (hs : Rd b S w fun w' => Sl w' a (topC n s)) (hj : j < n)
  (h : RR P S ops K rest (upd ρ d (.slice (s j).a (s j).len (s j).cap)) w) : RR P S ops K ((⟨some d, .load T1 x, T, pos, af, none⟩, b) :: rest) ρ w :=
 gD hx (hs.imp fun w' hs => by
  have := hs.get j (by rw [bP]; exact hj)
  rw [this, List.getD_eq_getElem?_getD, fU hj]; rfl) h
theorem aV {x : Operand} {T1 : TypeId} {a a1 : Option Addr} {j n l1 c1 : Nat} {s : Nat → SD} [Scal P T1] (hx : ev ρ x = .pointer (some (elt a j))) (hs : Rd b S w fun w' => Sl w' a (topC n s)) (hj : j < n) (hv : s j = ⟨a1, l1, c1⟩)
  (h : RR P S ops K rest (upd ρ d (.slice a1 l1 c1)) w) : RR P S ops K ((⟨some d, .load T1 x, T, pos, af, none⟩, b) :: rest) ρ w :=
 cG hx hs hj (by rw [hv]; exact h)
theorem bR {x y : Operand} {T1 : TypeId} {g j n Tb : Nat} {f : Nat → IH} {u : IH} [hT : Agg P T1 2] (hx : ev ρ x = .pointer (some (elt (some ⟨g, 0, none⟩) (j * 2)))) (hy : ev ρ y = u.val)
  (hb : Blk w g Tb (rowC n f)) (hj : j < n)
  (h : ∀ w', Chg g w w' → Blk w' g Tb (rowC n (setF f j u)) → (kf = true → S w → S w') ∧ RR P S ops K rest ρ w') :
  RR P S ops K ((⟨none, .store T1 x y, T, pos, af, none⟩, some kf) :: rest) ρ w :=
 mO (n := 2) (o := j * 2) (vs := u.cells) (by rw [hx]; simp [elt]) hy rfl rfl hb (by rw [bT]; omega) (fun w' hc hb' => h w' hc (by
  rw [← kF u hj]; exact hb'))
theorem ch {x y : Operand} {T1 : TypeId} {g j n Tb : Nat} {s : Nat → SD} {u : SD} [hT : Scal P T1] (hx : ev ρ x = .pointer (some (elt (some ⟨g, 0, none⟩) j))) (hy : ev ρ y = .slice u.a u.len u.cap)
  (hb : Blk w g Tb (topC n s)) (hj : j < n)
  (h : ∀ w', Chg g w w' → Blk w' g Tb (topC n (setF s j u)) → (kf = true → S w → S w') ∧ RR P S ops K rest ρ w') :
  RR P S ops K ((⟨none, .store T1 x y, T, pos, af, none⟩, some kf) :: rest) ρ w :=
 eX (v := u.val) hx hy rfl hb (by rw [bP]; exact hj) (fun w' hc hb' => h w' hc (by rw [← q8]; exact hb'))
end
end Go.W
