import Derived.Test.YtppipmkpmmdcjaaA07
namespace Go.LA
def Lb (e : Nat) (z : Int) : Prop := z.natAbs < 4294967296 ^ e
section
variable {e e' n : Nat} {x y : Int}
theorem Lb.mono (h : Lb e x) (he : e ≤ e') : Lb e' x := Nat.lt_of_lt_of_le h (Nat.pow_le_pow_right (by decide) he)
theorem f4 : Lb e 0 := Nat.pow_pos (by decide)
theorem bD (h : x.natAbs < 4294967296) (he : 1 ≤ e) : Lb e x := Nat.lt_of_lt_of_le h (by rw [show (4294967296 : Nat) = 4294967296 ^ 1 from rfl]; exact Nat.pow_le_pow_right (by decide) he)
theorem Lb.neg (h : Lb e x) : Lb e (-x) := by unfold Lb; rw [Int.natAbs_neg]; exact h
theorem Lb.mul (h : Lb e x) (h' : Lb e' y) : Lb (e + e') (x * y) := by
 unfold Lb at *
 rw [Int.natAbs_mul, Nat.pow_add]
 exact Nat.mul_lt_mul'' h h'
theorem Lb.add (h : Lb e x) (h' : Lb e y) : Lb (e + 1) (x + y) := by
 unfold Lb at *
 have := Int.natAbs_add_le x y
 rw [Nat.pow_succ]; omega
theorem Lb.sub (h : Lb e x) (h' : Lb e y) : Lb (e + 1) (x - y) := by rw [Int.sub_eq_add_neg]; exact h.add h'.neg
theorem nt {x : Int} {m : Nat} (hx : x ≤ 0) : x / ((m : Int) + 1) ≤ 0 := by
 by_cases h : x / ((m : Int) + 1) ≤ 0
 ·exact h
 ·exfalso
  have h1 := Int.ediv_mul_le x (b := (m : Int) + 1) (by omega)
  have h2 : 1 * ((m : Int) + 1) ≤ x / ((m : Int) + 1) * ((m : Int) + 1) := Int.mul_le_mul_of_nonneg_right (by omega) (by omega)
  omega
theorem ee (x y : Int) : (x / y).natAbs ≤ x.natAbs := by
 rcases Int.lt_trichotomy y 0 with h | h | h
 ·obtain ⟨m, rfl⟩ : ∃ m : Nat, y = -((m : Int) + 1) := ⟨(-y - 1).toNat, by omega⟩
  rw [Int.ediv_neg, Int.natAbs_neg]
  rcases Int.le_total 0 x with hx | hx
  ·obtain ⟨k, rfl⟩ := Int.eq_ofNat_of_zero_le hx
   have : ((k : Int) / ((m : Int) + 1)) = ((k / (m + 1) : Nat) : Int) := by simp
   rw [this, Int.natAbs_natCast, Int.natAbs_natCast]; exact Nat.div_le_self _ _
  ·have h1 : x / ((m : Int) + 1) ≤ 0 := nt hx
   have h2 : x ≤ x / ((m : Int) + 1) := by
    have := Int.ediv_mul_le x (b := (m : Int) + 1) (by omega)
    have h3 := Int.lt_ediv_add_one_mul_self x (b := (m : Int) + 1) (by omega)
    by_cases h4 : x ≤ x / ((m : Int) + 1)
    ·exact h4
    ·exfalso
     have h5 : x / ((m : Int) + 1) + 1 ≤ x := by omega
     have h6 : (x / ((m : Int) + 1) + 1) * ((m : Int) + 1) ≤ (x / ((m : Int) + 1) + 1) * 1 := Int.mul_le_mul_of_nonpos_left (by omega) (by omega)
     omega
   omega
 ·subst h; simp
 ·obtain ⟨m, rfl⟩ : ∃ m : Nat, y = ((m : Int) + 1) := ⟨(y - 1).toNat, by omega⟩
  rcases Int.le_total 0 x with hx | hx
  ·obtain ⟨k, rfl⟩ := Int.eq_ofNat_of_zero_le hx
   have : ((k : Int) / ((m : Int) + 1)) = ((k / (m + 1) : Nat) : Int) := by simp
   rw [this, Int.natAbs_natCast, Int.natAbs_natCast]; exact Nat.div_le_self _ _
  ·have h1 : x / ((m : Int) + 1) ≤ 0 := nt hx
   have h2 : x ≤ x / ((m : Int) + 1) := by
    have h3 := Int.lt_ediv_add_one_mul_self x (b := (m : Int) + 1) (by omega)
    by_cases h4 : x ≤ x / ((m : Int) + 1)
    ·exact h4
    ·exfalso
     have h5 : x / ((m : Int) + 1) + 1 ≤ x := by omega
     have h6 : (x / ((m : Int) + 1) + 1) * ((m : Int) + 1) ≤ (x / ((m : Int) + 1) + 1) * 1 := Int.mul_le_mul_of_nonpos_left (by omega) (by omega)
     omega
   omega
theorem Lb.div (h : Lb e x) (y : Int) : Lb e (x / y) := Nat.lt_of_le_of_lt (ee x y) h
theorem Lb.mod (h : Lb e y) (x : Int) (h0 : y ≠ 0) : Lb e (x % y) := by
 unfold Lb at *
 have h1 := Int.emod_nonneg x h0
 have h2 := Int.emod_lt x h0
 omega
theorem Lb.le (h : Lb e y) (hx : x.natAbs ≤ y.natAbs) : Lb e x := Nat.lt_of_le_of_lt hx h
theorem Lb.sm {f : Nat → Int} (h : ∀ i, i < n → Lb e (f i)) (hn : n ≤ 4294967296) : Lb (e + 1) (sm n f) := by
 rcases Nat.eq_zero_or_pos n with rfl | h0
 ·exact f4
 ·have := pi (n := n) (f := f) (b := 4294967296 ^ e - 1) (fun i hi => by have := h i hi; unfold Lb at this; omega)
  unfold Lb
  have hp : 0 < 4294967296 ^ e := Nat.pow_pos (by decide)
  refine Nat.lt_of_le_of_lt this ?_
  rw [Nat.pow_succ, Nat.mul_comm]
  refine Nat.lt_of_lt_of_le (Nat.mul_lt_mul_of_pos_right (show 4294967296 ^ e - 1 < 4294967296 ^ e by omega) h0) (Nat.mul_le_mul_left _ hn)
theorem Lb.det {M : Mat} (h : ∀ r c, r < n → c < n → Lb e (M r c)) (hn : n ≤ 4294967296) : Lb ((e + 1) * n + 1) (det n M) := by
 have := iW (n := n) (b := 4294967296 ^ e) (M := M) (fun r c hr hc => Nat.le_of_lt (h r c hr hc))
 unfold Lb
 refine Nat.lt_of_le_of_lt this ?_
 have h1 : n * 4294967296 ^ e ≤ 4294967296 ^ (e + 1) := by rw [Nat.pow_succ, Nat.mul_comm]; exact Nat.mul_le_mul_left _ hn
 have h2 := Nat.pow_le_pow_left h1 n
 rw [← Nat.pow_mul] at h2
 refine Nat.lt_of_le_of_lt h2 ?_
 exact Nat.pow_lt_pow_right (by decide) (by omega)
theorem iX {f g : Nat → Int} (h : ∀ i, i < n → Lb e (f i)) (h' : ∀ i, i < n → Lb e' (g i)) (hn : n ≤ 4294967296) : Lb (e + e' + 1) (Go.LA.sm n fun i => f i * g i) := Lb.sm (fun i hi => (h i hi).mul (h' i hi)) hn
end
end Go.LA
namespace Go.Proofs.Ytppipmkpmmdcjaa
open Go.W Go.LM Go.LA
theorem Ent.lb {cn : Bool} {K : Nat} {w : World} {v : Value} {z : Int} (h : Ent cn K w v z) : Lb K z := h.k.lt
theorem RX.ent {cn : Bool} {K n j : Nat} {w : World} {s : SD} {f : Nat → Int} (h : RX cn K w s n f) (hj : j < n) : Lb K (f j) := by
 obtain ⟨hh, _, h2⟩ := h.ex; exact (h2 j hj).lb
theorem MX.lb {cn : Bool} {K r c i j : Nat} {w : World} {a : Option Addr} {s : Nat → SD} {F : Nat → Nat → Int} (h : MX cn K w a r c s F) (hi : i < r) (hj : j < c) : Lb K (F i j) := (h.row i hi).ent hj
theorem MX.get {cn : Bool} {K r c i : Nat} {w : World} {a : Option Addr} {s : Nat → SD} {F : Nat → Nat → Int} (h : MX cn K w a r c s F) (hi : i < r) (hc : 0 < c) :
  ∃ (p : Option Addr) (d : Nat) (hh : Nat → IH), s i = ⟨p, c, d⟩ ∧ c ≤ d ∧ W.plain p ∧ Sl w p (rowC c hh) ∧ ∀ j, j < c → Ent cn K w (hh j).val (F i j) := by
 have hr := h.row i hi
 obtain ⟨hh, h1, h2⟩ := hr.ex
 have hl := hr.len
 have hc' := hr.cap
 have hp := hr.plain hc
 refine ⟨(s i).a, (s i).cap, hh, ?_, hc', hp, h1, h2⟩
 cases hs : s i with
 | mk a l c' => rw [hs] at hl; simp only at hl; rw [hl]
theorem iP {cn : Bool} {K r c i j cap gm Tm : Nat} {w : World} {a : Option Addr} {s : Nat → SD} {F : Nat → Nat → Int} (hM : MX cn K w a r c s F) (hb : Blk w gm Tm [.slice a r cap]) (hi : i < c) (hj : j < r) :
  CallsR Try.prog 35 #[.int .i64 i, .int .i64 j, .pointer (some ⟨gm, 0, none⟩)] w fun v w' => (∃ lo, IntC lo w' v (F j i)) ∧ Ex w w' := by
 obtain ⟨p, d, hh, e1, e2, hp, hS, hEn⟩ := hM.get hj (by omega)
 refine aJ (args := [_, _, _]) Try.func35 rfl rfl ?_
 repeat' (first|refine aD (fun g1 w1 hn1 => ⟨fun _ _ => trivial, ?_⟩)|refine aV (g := gm) rfl (hb.ext hn1.ex) rfl ?_|refine aB (j := j) rfl rfl (hM.plain (by omega)) (by omega) ?_|refine aS (j := j) rfl ((hM.ext hn1.ex).top) (by omega) e1 ?_|refine aU (j := i) rfl rfl hp hi ?_|refine bp (j := i) rfl (hS.ext hn1.ex) hp hi ?_|refine ai rfl ?_|refine aa ?_|refine ao ?_|refine ah rfl ?_|refine ae ?_)
 refine ax (df ((hEn i hi).ext hn1.ex).k) rfl ?_
 rintro v w2 ⟨hI, hE2⟩
 refine ⟨fun _ _ => trivial, ?_⟩
 obtain ⟨x, rfl⟩ := hI.ih
 have hb1 : Blk w1 g1 27 (intL false none 0 0) := hn1.blk
 refine aw (n := 2) (vs := x.cells) rfl rfl rfl rfl (hb1.ext hE2) rfl (fun w3 hc3 hb3 => ⟨fun _ _ => trivial, ?_⟩)
 repeat' (first|refine aa ?_|refine ae ?_|refine aT ?_)
 exact bF rfl (rc rfl rfl hb3) ⟨⟨_, hI.gbN (hb1.ext hE2) (au _ _ _ _) (bc hc3)⟩, (hn1.ex.trans hE2).chg hc3 hn1.lo⟩
theorem ef {cn : Bool} {K r c cap : Nat} {w : World} {a : Option Addr} {s : Nat → SD} {F : Nat → Nat → Int} (hM : MX cn K w a r c s F) (hr : 1 ≤ r ∧ r ≤ 16) (hc : 1 ≤ c ∧ c ≤ 16) :
  CallsR Try.prog 23 #[.slice a r cap] w fun v w' => ∃ u, v = .tuple #[u, .bool true] ∧ RetMO K w c r (fun i j => F j i) u w' := by
 refine aJ (args := [_]) Try.func23 rfl rfl ?_
 repeat' (first|refine jb rfl rfl (fun g1 w1 hn1 => ⟨fun _ _ => trivial, ?_⟩)|refine aV rfl hn1.blk rfl ?_|refine ai rfl ?_|refine aa ?_|refine ao ?_|refine ah rfl ?_|refine ae ?_)
 refine ax (dm (hM.ext hn1.ex).top) rfl ?_
 rintro v w2 ⟨rfl, hE2⟩
 refine ⟨fun _ _ => trivial, ?_⟩
 rw [dY hM hr hc]
 have hE := hn1.ex.trans hE2
 repeat' (first|refine gK ?_|refine ai rfl ?_|refine aa ?_|refine ao ?_|refine ah rfl ?_|refine ae ?_|refine aA rfl ?_|refine aI ?_)
 have hb2 := hn1.blk.ext hE2
 refine ax (et (K := K) (fid := 35) (first := #[]) (cap := #[.pointer (some ⟨g1, 0, none⟩)]) (F := fun i j => F j i) inferInstance (by omega) (by omega) (fun i j hi hj => hM.lb hj hi)
  (fun i j w1 hi hj hEx => iP (hM.ext (hE.trans hEx)) (hb2.ext hEx) hi hj)) rfl ?_
 rintro v w3 ⟨g, gs, cp, rfl, hO, hE3⟩
 refine ⟨fun _ _ => trivial, ?_⟩
 repeat' (first|refine ai rfl ?_|refine aa ?_|refine ae ?_|refine aT ?_)
 exact fv rfl (rt rfl) (rt rfl) ⟨_, rfl, g, gs, cp, rfl, hO.mono hE.size, hE.trans hE3⟩
end Go.Proofs.Ytppipmkpmmdcjaa
namespace Go.Proofs.Ytppipmkpmmdcjaa
open Go.W Go.LM Go.LA
theorem nZ {cn cn' : Bool} {K1 K2 r n c i j ca cb gn ga gb Tn Ta Tb : Nat} {w : World} {a b : Option Addr} {s s' : Nat → SD} {A B : Nat → Nat → Int} (hA : MX cn K1 w a r n s A) (hB : MX cn' K2 w b n c s' B)
  (hn : Blk w gn Tn [.int .i64 n]) (ha : Blk w ga Ta [.slice a r ca]) (hb : Blk w gb Tb [.slice b n cb]) (hn16 : n ≤ 16) (hK : K1 + K2 + 1 < 17592186044416) (hi : i < r) (hj : j < c) :
  CallsR Try.prog 64 #[.int .i64 i, .int .i64 j, .pointer (some ⟨gn, 0, none⟩), .pointer (some ⟨ga, 0, none⟩), .pointer (some ⟨gb, 0, none⟩)] w fun v w' => (∃ lo, IntC lo w' v (mm n A B i j)) ∧ Ex w w' := by
 refine aJ (args := [_, _, _, _, _]) Try.func64 rfl rfl ?_
 refine ao ?_
 refine ah rfl ?_
 refine aD (fun g1 w1 hn1 => ⟨fun _ _ => trivial, ?_⟩)
 repeat' (first|refine cD (cs := intL false none 0 0) rfl ?_|refine aa ?_|refine ao ?_|refine ah rfl ?_|refine ae ?_)
 refine aD (fun g2 w2 hn2 => ⟨fun _ _ => trivial, ?_⟩)
 have hb1 : Blk w1 g1 27 (intL false none 0 0) := hn1.blk
 have hb2 : Blk w2 g2 27 (intL false none 0 0) := hn2.blk
 have hE2 := hn1.ex.trans hn2.ex
 have lo1 := hn1.lo
 have hi1 := hn1.hi
 have lo2 := hn2.lo
 have s2 := hE2.size
 refine aw (n := 2) (vs := ih0.cells) rfl rfl rfl rfl hb2 rfl (fun w3 hc3 hb3 => ⟨fun _ _ => trivial, ?_⟩)
 have hE3 := hE2.chg hc3 (by have := hn1.ex.size; omega)
 have hb13 := (hb1.ext hn2.ex).chg hc3 (by omega)
 repeat' (first|refine aV (g := gn) rfl (hn.ext hE3) rfl ?_|refine ai rfl ?_|refine aa ?_|refine ao ?_|refine ah rfl ?_|refine ae ?_|refine aC ?_)
 refine bh (ι := Nat × IH) [9, 12, 13, 14, 15, 16, 17, 18, 19, 20, 21, 22, 23, 24, 25, 26, 27, 28, 29, 30, 31, 32] (fun t => [(12, .int .i64 (t.1 : Int))])
  (fun t w' => t.1 ≤ n ∧ Blk w' g2 27 t.2.cells ∧ Ent true (K1 + K2 + 1) w' t.2.val (sm t.1 fun k => A i k * B k j) ∧ Ex w w' ∧ Blk w' g1 27 (intL false none 0 0)) (fun t => n - t.1)
  (0, ih0) ⟨rfl, trivial⟩ ⟨by omega, hb3, jQ _, hE3, hb13⟩ ?_
 rintro ⟨k, x⟩ ξ w4 ⟨hk, hb4, hx, hE4, hb14⟩
 simp only at hk hb4 hx
 show CW _ _ _ _ (over [(12, .int .i64 (k : Int))] _) w4
 repeat' (first|refine ai rfl ?_|refine aa ?_|refine ao ?_|refine ah rfl ?_|refine ae ?_|refine aR rfl (fun hc => ?_) (fun hc => ?_)|refine aC ?_|refine aW ?_|refine aO ?_|refine aX ?_|refine aI ?_)
 ·obtain ⟨pa, da, fa, e1, _, hpa, hSa, hEa⟩ := hA.get hi (by omega)
  obtain ⟨pb, db, fb, e1', _, hpb, hSb, hEb⟩ := hB.get (i := k) (by omega) (by omega)
  have hEd : Ex w4 w4.drew := (Ex.refl _).drew
  have hkn : k < n := by omega
  refine aZ (late := [17]) (plan := [(0, none), (1, none), (2, none), (3, none), (4, none), (5, none), (6, none), (7, none), (8, none), (9, none), (10, none), (11, none), (12, none), (13, none), (14, none), (15, some true), (16, some true), (17, some false)]) (fun w' => Ex w4 w') bt (by kernel_rfl) hEd ?_
  repeat' (first|refine aP (g := g2) rfl (fun _ h => hb4.ext h) rfl ?_|refine aV (g := ga) rfl (fun _ h => (ha.ext hE4).ext h) rfl ?_|refine aV (g := gb) rfl (fun _ h => (hb.ext hE4).ext h) rfl ?_|refine aB (j := i) rfl rfl (hA.plain (by omega)) (by omega) ?_|refine aB (j := k) rfl rfl (hB.plain (by omega)) (by omega) ?_|refine aS (j := i) rfl (fun _ h => ((hA.ext hE4).ext h).top) (by omega) e1 ?_|refine aS (j := k) rfl (fun _ h => ((hB.ext hE4).ext h).top) (by omega) e1' ?_|refine aU (j := k) rfl rfl hpa hkn ?_|refine aU (j := j) rfl rfl hpb hj ?_|refine bp (j := k) rfl (fun _ h => (hSa.ext hE4).ext h) hpa hkn ?_|refine bp (j := j) rfl (fun _ h => (hSb.ext hE4).ext h) hpb hj ?_|refine ai rfl ?_)
  refine ax (ci ((hEa k hkn).ext hE4.drew).k ((hEb j hj).ext hE4.drew).k (by omega)) rfl ?_
  rintro v w5 ⟨hI5, hE5⟩
  refine ⟨fun _ h => h.trans hE5, ?_⟩
  have l5 := ((hEa k hkn).lb).mul ((hEb j hj).lb)
  refine ax (dF ((hx.ext hEd).ext hE5).k (hI5.k l5) (by omega) (by omega)) rfl ?_
  rintro v w6 ⟨hI6, hE6⟩
  refine ⟨fun _ h => h.trans hE6, ?_⟩
  obtain ⟨y, rfl⟩ := hI6.ih
  have hE46 := (hEd.trans hE5).trans hE6
  have hb6 := hb4.ext hE46
  refine aw (n := 2) (vs := y.cells) rfl rfl rfl rfl hb6 rfl (fun w7 hc7 hb7 => ⟨fun h => (nomatch h), ?_⟩)
  repeat' (first|refine ai rfl ?_|refine aa ?_|refine ah rfl ?_|refine ae ?_|refine bi rfl rfl (by omega) (by omega) ?_|refine aM ?_)
  have ls : Lb (K1 + K2 + 1) (sm (k + 1) fun k => A i k * B k j) := iX (fun m hm => hA.lb hi (by omega)) (fun m hm => hB.lb (by omega) hj) (by omega)
  have s1' := hE46.size
  refine ⟨⟨(k + 1, y), ⟨by simp only; omega, hb7, (Ent.of hI6 ls).gbN hb6 (au _ _ _ _) (bc hc7), (hE4.trans hE46).chg hc7 (by have := hn1.ex.size; omega), (hb14.ext hE46).chg hc7 (by omega)⟩, by simp only; omega, rfl, trivial⟩, (by (repeat (first|exact aF _ _ _|refine ay rfl ?_|refine av rfl ?_|refine aj rfl ?_|refine ak rfl ?_)))⟩
 ·obtain rfl : k = n := by omega
  refine aP (g := g2) rfl hb4 rfl ?_
  refine aw (n := 2) (vs := x.cells) rfl rfl rfl rfl hb14 rfl (fun w7 hc7 hb7 => ⟨fun _ _ => trivial, ?_⟩)
  repeat' (first|refine aa ?_|refine ae ?_|refine aT ?_)
  exact bF rfl (rc rfl rfl hb7) ⟨⟨0, (hx.c rfl).gbN hb14 (au _ _ _ _) (bc hc7)⟩, hE4.chg hc7 hn1.lo⟩
theorem kb {cn cn' : Bool} {K1 K2 r n c ca cb : Nat} {w : World} {a b : Option Addr} {s s' : Nat → SD} {A B : Nat → Nat → Int} (hA : MX cn K1 w a r n s A) (hB : MX cn' K2 w b n c s' B)
  (hr : 1 ≤ r ∧ r ≤ 16) (hn : 1 ≤ n ∧ n ≤ 16) (hc : 1 ≤ c ∧ c ≤ 16) (hK : K1 + K2 + 1 < 17592186044416) :
  CallsR Try.prog 49 #[.slice a r ca, .slice b n cb] w fun v w' => ∃ u, v = .tuple #[u, .bool true] ∧ RetMO (K1 + K2 + 1) w r c (mm n A B) u w' := by
 refine aJ (args := [_, _]) Try.func49 rfl rfl ?_
 refine ao ?_
 refine ah rfl ?_
 refine jb rfl rfl (fun g1 w1 hn1 => ⟨fun _ _ => trivial, ?_⟩)
 refine jb rfl rfl (fun g2 w2 hn2 => ⟨fun _ _ => trivial, ?_⟩)
 have hb1 := hn1.blk.ext hn2.ex
 have hb2 := hn2.blk
 have hE2 := hn1.ex.trans hn2.ex
 repeat' (first|refine aV (g := g1) rfl hb1 rfl ?_|refine ai rfl ?_|refine aa ?_|refine ao ?_|refine ah rfl ?_|refine ae ?_)
 refine ax (dm (hA.ext hE2).top) rfl ?_
 rintro v w3 ⟨rfl, hE3⟩
 refine ⟨fun _ _ => trivial, ?_⟩
 rw [dY hA hr hn]
 repeat' (first|refine ai rfl ?_)
 refine aD (fun g4 w4 hn4 => ⟨fun _ _ => trivial, ?_⟩)
 have hb4 : Blk w4 g4 3 [.int .i64 0] := hn4.blk
 repeat' (first|refine oC (g := g4) rfl rfl rfl hb4 rfl (fun w5 hc5 hb5 => ⟨fun _ _ => trivial, ?_⟩)|refine ai rfl ?_|refine aa ?_|refine ao ?_|refine ah rfl ?_|refine ae ?_)
 have s1 := hn1.ex.size
 have lo4 := hn4.lo
 have s3 := hE3.size
 have l1 := hb1.lt
 have l2 := hb2.lt
 have hE5 := ((hE2.trans hE3).trans hn4.ex).chg hc5 (by have := hE2.size; omega)
 have hb15 := ((hb1.ext hE3).ext hn4.ex).chg hc5 (by omega)
 have hb25 := ((hb2.ext hE3).ext hn4.ex).chg hc5 (by omega)
 refine aV (g := g2) rfl hb25 rfl ?_
 refine ax (dm (hB.ext hE5).top) rfl ?_
 rintro v w6 ⟨rfl, hE6⟩
 refine ⟨fun _ _ => trivial, ?_⟩
 rw [dY hB hn hc]
 repeat' (first|refine aV (g := g4) rfl (hb5.ext hE6) rfl ?_|refine gN rfl rfl rfl ?_|refine gK ?_|refine ai rfl ?_|refine aa ?_|refine ao ?_|refine ah rfl ?_|refine ae ?_|refine bB rfl rfl ?_|refine aA rfl ?_|refine aI ?_)
 have hE := hE5.trans hE6
 have b1 := hb15.ext hE6
 have b2 := hb25.ext hE6
 have b5 : Blk w6 g4 3 [.int .i64 n] := hb5.ext hE6
 refine ax (et (K := K1 + K2 + 1) (fid := 64) (first := #[]) (cap := #[.pointer (some ⟨g4, 0, none⟩), .pointer (some ⟨g1, 0, none⟩), .pointer (some ⟨g2, 0, none⟩)]) (F := mm n A B) inferInstance (by omega) (by omega)
  (fun i j hi hj => iX (fun m hm => hA.lb hi hm) (fun m hm => hB.lb hm hj) (by omega))
  (fun i j w1 hi hj hEx => nZ (hA.ext (hE.trans hEx)) (hB.ext (hE.trans hEx)) (b5.ext hEx) (b1.ext hEx) (b2.ext hEx) hn.2 hK hi hj)) rfl ?_
 rintro v w7 ⟨g, gs, cp, rfl, hO, hE7⟩
 refine ⟨fun _ _ => trivial, ?_⟩
 repeat' (first|refine ai rfl ?_|refine aa ?_|refine ae ?_|refine aT ?_)
 exact fv rfl (rt rfl) (rt rfl) ⟨_, rfl, g, gs, cp, rfl, hO.mono hE.size, hE.trans hE7⟩
end Go.Proofs.Ytppipmkpmmdcjaa
namespace Go.Proofs.Ytppipmkpmmdcjaa
open Go.W Go.LM Go.LA
theorem kL {K i j gm Tm : Nat} {w : World} {x : IH} {z : Int} (hx : IntK K w x.val z) (hb : Blk w gm Tm x.cells) :
  CallsR Try.prog 81 #[.int .i64 i, .int .i64 j, .pointer (some ⟨gm, 0, none⟩)] w fun v w' => (∃ lo, IntC lo w' v (if i = j then z else 0)) ∧ Ex w w' := by
 refine aJ (args := [_, _, _]) Try.func81 rfl rfl ?_
 repeat' (first|refine aD (fun g1 w1 hn1 => ⟨fun _ _ => trivial, ?_⟩)|refine aP (g := gm) rfl (hb.ext hn1.ex) rfl ?_|refine cD (cs := intL false none 0 0) rfl ?_|refine ai rfl ?_|refine aa ?_|refine ao ?_|refine ah rfl ?_|refine ae ?_|refine aR rfl (fun hc => ?_) (fun hc => ?_)|refine aI ?_)
 ·have hb1 : Blk w1 g1 27 (intL false none 0 0) := hn1.blk
  have hij : i = j := by omega
  refine ax (df (hx.ext hn1.ex)) rfl ?_
  rintro v w2 ⟨hI, hE2⟩
  refine ⟨fun _ _ => trivial, ?_⟩
  obtain ⟨y, rfl⟩ := hI.ih
  refine aw (n := 2) (vs := y.cells) rfl rfl rfl rfl (hb1.ext hE2) rfl (fun w3 hc3 hb3 => ⟨fun _ _ => trivial, ?_⟩)
  repeat' (first|refine aa ?_|refine ae ?_|refine aT ?_|refine bw ?_)
  refine bF rfl (rc rfl rfl hb3) ⟨⟨w1.heap.size, ?_⟩, (hn1.ex.trans hE2).chg hc3 hn1.lo⟩
  rw [if_pos hij]
  exact hI.gbN (hb1.ext hE2) (au _ _ _ _) (bc hc3)
 ·have hb1 : Blk w1 g1 27 (intL false none 0 0) := hn1.blk
  have hij : ¬ i = j := by omega
  refine aw (n := 2) (vs := ih0.cells) rfl rfl rfl rfl hb1 rfl (fun w3 hc3 hb3 => ⟨fun _ _ => trivial, ?_⟩)
  repeat' (first|refine aa ?_|refine ae ?_|refine aT ?_)
  refine bF rfl (rc rfl rfl hb3) ⟨⟨0, ?_⟩, hn1.ex.chg hc3 hn1.lo⟩
  rw [if_neg hij]
  exact (jQ (cn := true) (K := 0) w3).c rfl
theorem lI {K n : Nat} {w : World} {v : Value} {z : Int} (hz : IntK K w v z) (hn : n ≤ 16) :
  CallsR Try.prog 74 #[.int .i64 n, v] w (RetMO K w n n fun i j => if i = j then z else 0) := by
 have hlt := hz.lt
 obtain ⟨x, rfl⟩ : ∃ x : IH, v = x.val := by
  obtain ⟨neg, a, c, ls, rfl, _⟩ := hz
  exact ⟨⟨neg, ⟨a, ls.length, c⟩⟩, rfl⟩
 refine aJ (args := [_, _]) Try.func74 rfl rfl ?_
 repeat' (first|refine bM (vs := x.cells) rfl (fun g1 w1 hn1 => ⟨fun _ _ => trivial, ?_⟩)|refine gK ?_|refine ai rfl ?_|refine aa ?_|refine ao ?_|refine ah rfl ?_|refine ae ?_)
 refine ax (et (K := K) (fid := 81) (first := #[]) (cap := #[.pointer (some ⟨g1, 0, none⟩)]) (F := fun i j => if i = j then z else 0) inferInstance (by omega) (by omega)
  (fun i j hi hj => by split; exact hlt; exact Nat.pow_pos (by decide))
  (fun i j w1' hi hj hEx => kL (hz.ext (hn1.ex.trans hEx)) (hn1.blk.ext hEx))) rfl ?_
 rintro v w7 ⟨g, gs, cp, rfl, hO, hE7⟩
 refine ⟨fun _ _ => trivial, ?_⟩
 repeat' (first|refine ai rfl ?_|refine aa ?_|refine ae ?_|refine aT ?_)
 exact bF rfl (rt rfl) ⟨g, gs, cp, rfl, hO.mono hn1.ex.size, hn1.ex.trans hE7⟩
theorem jR {cn : Bool} {K r c i j cap gm Tm : Nat} {w : World} {a : Option Addr} {s : Nat → SD} {F : Nat → Nat → Int} (hM : MX cn K w a r c s F) (hb : Blk w gm Tm [.slice a r cap]) (hi : i < r) (hj : j < c) :
  CallsR Try.prog 82 #[.int .i64 i, .int .i64 j, .pointer (some ⟨gm, 0, none⟩)] w fun v w' => (∃ lo, IntC lo w' v (- F i j)) ∧ Ex w w' := by
 obtain ⟨p, d, hh, e1, e2, hp, hS, hEn⟩ := hM.get hi (by omega)
 refine aJ (args := [_, _, _]) Try.func82 rfl rfl ?_
 repeat' (first|refine aD (fun g1 w1 hn1 => ⟨fun _ _ => trivial, ?_⟩)|refine aV (g := gm) rfl (hb.ext hn1.ex) rfl ?_|refine aB (j := i) rfl rfl (hM.plain (by omega)) (by omega) ?_|refine aS (j := i) rfl ((hM.ext hn1.ex).top) (by omega) e1 ?_|refine aU (j := j) rfl rfl hp hj ?_|refine bp (j := j) rfl (hS.ext hn1.ex) hp hj ?_|refine ai rfl ?_|refine aa ?_|refine ao ?_|refine ah rfl ?_|refine ae ?_)
 refine ax (cN ((hEn j hj).ext hn1.ex).k) rfl ?_
 rintro v w2 ⟨hI, hE2⟩
 refine ⟨fun _ _ => trivial, ?_⟩
 obtain ⟨x, rfl⟩ := hI.ih
 have hb1 : Blk w1 g1 27 (intL false none 0 0) := hn1.blk
 refine aw (n := 2) (vs := x.cells) rfl rfl rfl rfl (hb1.ext hE2) rfl (fun w3 hc3 hb3 => ⟨fun _ _ => trivial, ?_⟩)
 repeat' (first|refine aa ?_|refine ae ?_|refine aT ?_)
 exact bF rfl (rc rfl rfl hb3) ⟨⟨_, hI.gbN (hb1.ext hE2) (au _ _ _ _) (bc hc3)⟩, (hn1.ex.trans hE2).chg hc3 hn1.lo⟩
theorem kM {cn : Bool} {K r c cap : Nat} {w : World} {a : Option Addr} {s : Nat → SD} {F : Nat → Nat → Int} (hM : MX cn K w a r c s F) (hr : 1 ≤ r ∧ r ≤ 16) (hc : 1 ≤ c ∧ c ≤ 16) :
  CallsR Try.prog 75 #[.slice a r cap] w (RetMO K w r c fun i j => - F i j) := by
 obtain ⟨p, d, hh, e1, e2, hp, hS, hEn⟩ := hM.get (i := 0) (by omega) (by omega)
 refine aJ (args := [_]) Try.func75 rfl rfl ?_
 repeat' (first|refine jb rfl rfl (fun g1 w1 hn1 => ⟨fun _ _ => trivial, ?_⟩)|refine ai rfl ?_|refine aa ?_|refine ao ?_|refine ah rfl ?_|refine ae ?_)
 refine aZ (late := []) (plan := [(0, none), (1, none), (2, none), (3, none), (4, none), (5, none), (6, none), (7, some true), (8, none)]) (fun w' => Ex w1 w') bt (by kernel_rfl) ((Ex.refl w1).drew) ?_
 repeat' (first|refine aV (g := g1) rfl (fun _ h => hn1.blk.ext h) rfl ?_|refine aB (j := 0) rfl rfl (hM.plain (by omega)) (by omega) ?_|refine aS (j := 0) rfl (fun _ h => ((hM.ext hn1.ex).ext h).top) (by omega) e1 ?_|refine gK ?_|refine bn rfl ?_)
 have hE := hn1.ex.drew
 have hb := hn1.blk.drew
 refine ax (et (K := K) (fid := 82) (first := #[]) (cap := #[.pointer (some ⟨g1, 0, none⟩)]) (F := fun i j => - F i j) inferInstance (by omega) (by omega)
  (fun i j hi hj => (hM.lb hi hj).neg)
  (fun i j w1' hi hj hEx => jR (hM.ext (hE.trans hEx)) (hb.ext hEx) hi hj)) rfl ?_
 rintro v w7 ⟨g, gs, cp, rfl, hO, hE7⟩
 refine ⟨fun _ h => h.trans hE7, ?_⟩
 repeat' (first|refine ai rfl ?_|refine aa ?_|refine ae ?_|refine aT ?_)
 exact bF rfl (rt rfl) ⟨g, gs, cp, rfl, hO.mono hE.size, hE.trans hE7⟩
end Go.Proofs.Ytppipmkpmmdcjaa
namespace Go.Proofs.Ytppipmkpmmdcjaa
open Go.W Go.LM Go.LA
def setM (F : Nat → Nat → Int) (i j : Nat) (z : Int) : Nat → Nat → Int := fun a b => if a = i ∧ b = j then z else F a b
theorem lJ (F : Nat → Nat → Int) (i j : Nat) (z : Int) : setM F i j z i = setF (F i) j z := by funext b; simp [setM, setF]
theorem nu (F : Nat → Nat → Int) {i k : Nat} (j : Nat) (z : Int) (h : k ≠ i) : setM F i j z k = F k := by funext b; simp [setM, h]
theorem kd (lo : Nat) (w : World) : IntC lo w ih0.val 0 :=
 ⟨false, none, 0, [], rfl, ⟨Sl.nil _ _, Nat.le_refl _, fun d hd => by simp at hd, by simp⟩, rfl, rfl, fun e => (nomatch e), fun ad e => (nomatch e)⟩
structure MP (cn : Bool) (K : Nat) (w : World) (lo g r c i : Nat) (gs cap : Nat → Nat) (F : Nat → Nat → Int) : Prop where
 low : lo ≤ g
 top : Blk w g 29 (topC r fun k => if k < i then ⟨some ⟨gs k, 0, none⟩, c, cap k⟩ else sd0)
 row : ∀ k, k < i → RO cn K w lo (gs k) (cap k) c (F k)
 off : ∀ k, k < i → gs k ≠ g
 inj : ∀ k l, k < i → l < i → gs k = gs l → k = l
section
variable {cn : Bool} {K r c lo g i : Nat} {w w' : World} {gs cap : Nat → Nat} {F F' : Nat → Nat → Int}
theorem MP.start (hn : Blk w g 29 (topC r fun _ => sd0)) (hlo : lo ≤ g) : MP cn K w lo g r c 0 gs cap F :=
 ⟨hlo, hn, fun k hk => by omega, fun k hk => by omega, fun k l hk => by omega⟩
theorem MP.lt (h : MP cn K w lo g r c i gs cap F) : g < w.heap.size := h.top.lt
theorem MP.fin (h : MP cn K w lo g r c r gs cap F) : MO cn K w lo g r c gs cap F :=
 ⟨h.low, by rw [cg (s' := fun k => if k < r then ⟨some ⟨gs k, 0, none⟩, c, cap k⟩ else sd0) (fun k hk => by rw [if_pos hk])]; exact h.top, h.row, h.off, h.inj⟩
theorem MP.snoc {w2 w3 w4 : World} {g3 cp : Nat} {f0 : Nat → IH} (h : MP cn K w2 lo g r c i gs cap F) (hn : New w2 w3 g3 27 (rowC cp f0)) (hc : Chg g w3 w4)
  (hT : Blk w4 g 29 (topC r (setF (fun k => if k < i then ⟨some ⟨gs k, 0, none⟩, c, cap k⟩ else sd0) i ⟨some ⟨g3, 0, none⟩, c, cp⟩))) (hlo : lo ≤ g3) :
  Blk w4 g3 27 (rowC cp f0) ∧ g3 ≠ g ∧ Blk w4 g 29 (topC r fun k => if k < i + 1 then ⟨some ⟨setF gs i g3 k, 0, none⟩, c, setF cap i cp k⟩ else sd0) ∧
   ∀ w5, w4.grownBy w5 (some g3) → Blk w5 g 29 (topC r fun k => if k < i + 1 then ⟨some ⟨setF gs i g3 k, 0, none⟩, c, setF cap i cp k⟩ else sd0) ∧ (RO cn K w5 lo g3 cp c (F i) → MP cn K w5 lo g r c (i + 1) (setF gs i g3) (setF cap i cp) F) := by
 have l3 := hn.lo
 have lg := h.lt
 have hne : g3 ≠ g := by omega
 have hb := hn.blk.chg hc hne
 have hTe : topC r (setF (fun k => if k < i then (⟨some ⟨gs k, 0, none⟩, c, cap k⟩ : SD) else sd0) i ⟨some ⟨g3, 0, none⟩, c, cp⟩) = topC r (fun k => if k < i + 1 then (⟨some ⟨setF gs i g3 k, 0, none⟩, c, setF cap i cp k⟩ : SD) else sd0) := cg fun k _ => by
  by_cases hk : k = i
  ·subst hk; simp [setF]
  ·by_cases h' : k < i
   ·rw [aN _ _ hk, if_pos h', if_pos (by omega), aN _ _ hk, aN _ _ hk]
   ·rw [aN _ _ hk, if_neg h', if_neg (by omega)]
 rw [hTe] at hT
 have hT3 := h.top.ext hn.ex
 have hgk : ∀ k, k < i → gs k ≠ g3 := fun k hk => by have := (h.row k hk).lt; omega
 have hR4 : ∀ k, k < i → RO cn K w4 lo (gs k) (cap k) c (F k) := fun k hk => ((h.row k hk).ext hn.ex).gbN hT3 (bQ _ _) (bc hc) (h.off k hk)
 refine ⟨hb, hne, hT, fun w5 hG => ?_⟩
 have hT5 := hT.gb hG (fun e => hne (by cases e; rfl))
 refine ⟨hT5, fun hR => ⟨h.low, hT5, fun k hk => ?_, fun k hk => ?_, fun k k' hk hk' he => ?_⟩⟩
 ·by_cases hki : k = i
  ·subst hki; rw [aK, aK]; exact hR
  ·rw [aN _ _ hki, aN _ _ hki]
   exact (hR4 k (by omega)).gbN hb (bx _ _) hG (hgk k (by omega))
 ·by_cases hki : k = i
  ·subst hki; rw [aK]; exact hne
  ·rw [aN _ _ hki]; exact h.off k (by omega)
 ·by_cases hki : k = i
  ·by_cases hki' : k' = i
   ·omega
   ·subst hki; rw [aK, aN _ _ hki'] at he; exact absurd he.symm (hgk k' (by omega))
  ·by_cases hki' : k' = i
   ·subst hki'; rw [aK, aN _ _ hki] at he; exact absurd he (hgk k (by omega))
   ·rw [aN _ _ hki, aN _ _ hki'] at he; exact h.inj k k' (by omega) (by omega) he
theorem MO.put {j : Nat} {hh : Nat → IH} {u : IH} {z : Int} (h : MO cn K w lo g r c gs cap F) (hi : i < r) (hb : Blk w (gs i) 27 (rowC (cap i) hh)) (he : ∀ j, j < c → Ent cn K w (hh j).val (F i j)) (hu : Ent cn K w u.val z)
  (hg : Chg (gs i) w w') (hb' : Blk w' (gs i) 27 (rowC (cap i) (setF hh j u))) : MO cn K w' lo g r c gs cap (setM F i j z) := by
 refine ⟨h.low, h.top.chg hg (fun e => h.off i hi e.symm), fun k hk => ?_, h.off, h.inj⟩
 by_cases hki : k = i
 ·subst hki; rw [lJ]; exact RO.put (h.row k hk).low (h.row k hk).le hb he hu hg hb'
 ·rw [nu _ _ _ hki]; exact (h.row k hk).gbN hb (bx _ _) (bc hg) (fun e => hki (h.inj k i hk hi e))
theorem MO.get {k : Nat} (h : MO cn K w lo g r c gs cap F) (hk : k < r) : ∃ hh : Nat → IH, Blk w (gs k) 27 (rowC (cap k) hh) ∧ c ≤ cap k ∧ ∀ j, j < c → Ent cn K w (hh j).val (F k j) := by
 obtain ⟨hh, h1, h2⟩ := (h.row k hk).ex; exact ⟨hh, h1, (h.row k hk).le, h2⟩
def swp2 (i j k : Nat) : Nat := if k = i then j else if k = j then i else k
theorem dH {i j k n : Nat} (hi : i < n) (hj : j < n) (hk : k < n) : swp2 i j k < n := by unfold swp2; split; omega; split <;> omega
theorem lK {i j k l : Nat} (h : swp2 i j k = swp2 i j l) : k = l := by
 have inv : ∀ m, swp2 i j (swp2 i j m) = m := fun m => by
  unfold swp2
  by_cases a : m = i
  ·rw [if_pos a]
   by_cases b : j = i
   ·rw [if_pos b]; omega
   ·rw [if_neg b, if_pos rfl]; omega
  ·rw [if_neg a]
   by_cases b : m = j
   ·rw [if_pos b, if_pos rfl]; omega
   ·rw [if_neg b, if_neg a, if_neg b]
 rw [← inv k, h, inv]
theorem MO.swap {j : Nat} {w1 : World} (h : MO cn K w lo g r c gs cap F) (hi : i < r) (hj : j < r) (h1 : Chg g w w1) (h2 : Chg g w1 w')
  (hb : Blk w' g 29 (topC r (setF (setF (fun k => (⟨some ⟨gs k, 0, none⟩, c, cap k⟩ : SD)) i ⟨some ⟨gs j, 0, none⟩, c, cap j⟩) j ⟨some ⟨gs i, 0, none⟩, c, cap i⟩))) :
  MO cn K w' lo g r c (fun k => gs (swp2 i j k)) (fun k => cap (swp2 i j k)) (fun k => F (swp2 i j k)) := by
 refine ⟨h.low, ?_, fun k hk => ?_, fun k hk => h.off _ (dH hi hj hk), fun k l hk hl he => lK (h.inj _ _ (dH hi hj hk) (dH hi hj hl) he)⟩
 ·rw [cg (s' := setF (setF (fun k => (⟨some ⟨gs k, 0, none⟩, c, cap k⟩ : SD)) i ⟨some ⟨gs j, 0, none⟩, c, cap j⟩) j ⟨some ⟨gs i, 0, none⟩, c, cap i⟩) (fun k hk => ?_)]
  ·exact hb
  ·unfold swp2 setF
   by_cases a : k = j
   ·subst a; by_cases b : k = i
    ·subst b; simp
    ·simp [b]
   ·by_cases b : k = i
    ·subst b; simp [a]
    ·simp [a, b]
 ·exact (h.row _ (dH hi hj hk)).gbN h.top (bQ _ _) (bC (bc h1) (bc h2) (fun _ e => .inl e)) (h.off _ (dH hi hj hk))
end
theorem Ent.up {cn : Bool} {K K' : Nat} {w : World} {v : Value} {z : Int} (h : Ent cn K w v z) (hK : K ≤ K') : Ent cn K' w v z := ⟨h.k.mono hK, h.c⟩
theorem RO.up {cn : Bool} {K K' lo g cap n : Nat} {w : World} {f : Nat → Int} (h : RO cn K w lo g cap n f) (hK : K ≤ K') : RO cn K' w lo g cap n f := by
 obtain ⟨hh, h1, h2⟩ := h.ex; exact ⟨h.low, h.le, hh, h1, fun i hi => (h2 i hi).up hK⟩
theorem RX.up {cn : Bool} {K K' n : Nat} {w : World} {s : SD} {f : Nat → Int} (h : RX cn K w s n f) (hK : K ≤ K') : RX cn K' w s n f := by
 obtain ⟨hh, h1, h2⟩ := h.ex; exact ⟨h.len, h.cap, hh, h1, fun i hi => (h2 i hi).up hK⟩
theorem MO.up {cn : Bool} {K K' r c lo g : Nat} {w : World} {gs cap : Nat → Nat} {F : Nat → Nat → Int} (h : MO cn K w lo g r c gs cap F) (hK : K ≤ K') : MO cn K' w lo g r c gs cap F := ⟨h.low, h.top, fun i hi => (h.row i hi).up hK, h.off, h.inj⟩
theorem MX.up {cn : Bool} {K K' r c : Nat} {w : World} {a : Option Addr} {s : Nat → SD} {F : Nat → Nat → Int} (h : MX cn K w a r c s F) (hK : K ≤ K') : MX cn K' w a r c s F := ⟨h.top, fun i hi => (h.row i hi).up hK⟩
theorem BdJ.lb {n k K : Nat} {A W : Mat} {s last : Int} (h : BdJ n A k s W last) (hb : ∀ r c, r < n → c < n → Lb K (A r c)) (hn : n ≤ 16) : (∀ i j, k ≤ i → i < n → k ≤ j → j < n → Lb (16 * K + 17) (W i j)) ∧ Lb (16 * K + 17) last := by
 obtain ⟨h1, h2⟩ := h.abs (b := 4294967296 ^ K) (fun r c hr hc => Nat.le_of_lt (hb r c hr hc))
 have hk : k ≤ n := by obtain ⟨N, hN⟩ := h; exact hN.1
 have key : ∀ m, m ≤ 16 → ∀ z : Int, z.natAbs ≤ (m * 4294967296 ^ K) ^ m → Lb (16 * K + 17) z := fun m hm z hz => by
  unfold Lb
  refine Nat.lt_of_le_of_lt hz ?_
  have e1 : m * 4294967296 ^ K ≤ 4294967296 ^ (K + 1) := by rw [Nat.pow_succ, Nat.mul_comm]; exact Nat.mul_le_mul_left _ (by omega)
  have e2 := Nat.pow_le_pow_left e1 m
  rw [← Nat.pow_mul] at e2
  refine Nat.lt_of_le_of_lt e2 (Nat.pow_lt_pow_right (by decide) ?_)
  have : (K + 1) * m ≤ (K + 1) * 16 := Nat.mul_le_mul_left _ hm
  omega
 refine ⟨fun i j hi hin hj hjn => key (k + 1) (by omega) _ (h1 i j hi hin hj hjn), key k (by omega) _ h2⟩
end Go.Proofs.Ytppipmkpmmdcjaa
