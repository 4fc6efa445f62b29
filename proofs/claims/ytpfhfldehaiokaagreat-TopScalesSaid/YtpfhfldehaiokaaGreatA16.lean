import Derived.Test.YtpfhfldehaiokaaGreatA13
import Derived.Test.YtpfhfldehaiokaaGreatA14
import Derived.Test.YtpfhfldehaiokaaGreatA15
set_option maxHeartbeats 2000000
namespace Go.LA
def Lb (e : Nat) (z : Int) : Prop := z.natAbs < 4294967296 ^ e
section
variable {e e' n : Nat} {x y : Int}
theorem Lb.mono (h : Lb e x) (he : e ≤ e') : Lb e' x := Nat.lt_of_lt_of_le h (Nat.pow_le_pow_right (by decide) he)
theorem rP : Lb e 0 := Nat.pow_pos (by decide)
theorem bO (h : x.natAbs < 4294967296) (he : 1 ≤ e) : Lb e x := Nat.lt_of_lt_of_le h (by rw [show (4294967296 : Nat) = 4294967296 ^ 1 from rfl]; exact Nat.pow_le_pow_right (by decide) he)
theorem Lb.neg (h : Lb e x) : Lb e (-x) := by unfold Lb; rw [Int.natAbs_neg]; exact h
theorem Lb.mul (h : Lb e x) (h' : Lb e' y) : Lb (e + e') (x * y) := by
 unfold Lb at *
 rw [Int.natAbs_mul, Nat.pow_add]
 exact Nat.mul_lt_mul'' h h'
theorem Lb.add (h : Lb e x) (h' : Lb e y) : Lb (e + 1) (x + y) := by
 unfold Lb at *
 have := Int.natAbs_add_le x y
 rw [Nat.pow_succ]; omega
theorem Lb.sub (h : Lb e x) (h' : Lb e y) : Lb (e + 1) (x - y) := by rw [Int.sub_eq_add_neg]; exact h.add h'.neg
theorem rQ {x : Int} {m : Nat} (hx : x ≤ 0) : x / ((m : Int) + 1) ≤ 0 := by
 by_cases h : x / ((m : Int) + 1) ≤ 0
 ·exact h
 ·exfalso
  have h1 := Int.ediv_mul_le x (b := (m : Int) + 1) (by omega)
  have h2 : 1 * ((m : Int) + 1) ≤ x / ((m : Int) + 1) * ((m : Int) + 1) := Int.mul_le_mul_of_nonneg_right (by omega) (by omega)
  omega
theorem dV (x y : Int) : (x / y).natAbs ≤ x.natAbs := by
 rcases Int.lt_trichotomy y 0 with h | h | h
 ·obtain ⟨m, rfl⟩ : ∃ m : Nat, y = -((m : Int) + 1) := ⟨(-y - 1).toNat, by omega⟩
  rw [Int.ediv_neg, Int.natAbs_neg]
  rcases Int.le_total 0 x with hx | hx
  ·obtain ⟨k, rfl⟩ := Int.eq_ofNat_of_zero_le hx
   have : ((k : Int) / ((m : Int) + 1)) = ((k / (m + 1) : Nat) : Int) := by simp
   rw [this, Int.natAbs_natCast, Int.natAbs_natCast]; exact Nat.div_le_self _ _
  ·have h1 : x / ((m : Int) + 1) ≤ 0 := rQ hx
   have h2 : x ≤ x / ((m : Int) + 1) := by
    have := Int.ediv_mul_le x (b := (m : Int) + 1) (by omega)
    have h3 := Int.lt_ediv_add_one_mul_self x (b := (m : Int) + 1) (by omega)
    by_cases h4 : x ≤ x / ((m : Int) + 1)
    ·exact h4
    ·exfalso
     have h5 : x / ((m : Int) + 1) + 1 ≤ x := by omega
     have h6 : (x / ((m : Int) + 1) + 1) * ((m : Int) + 1) ≤ (x / ((m : Int) + 1) + 1) * 1 := Int.mul_le_mul_of_nonpos_left (by omega) (by omega)
     omega
   omega
 ·subst h; simp
 ·obtain ⟨m, rfl⟩ : ∃ m : Nat, y = ((m : Int) + 1) := ⟨(y - 1).toNat, by omega⟩
  rcases Int.le_total 0 x with hx | hx
  ·obtain ⟨k, rfl⟩ := Int.eq_ofNat_of_zero_le hx
   have : ((k : Int) / ((m : Int) + 1)) = ((k / (m + 1) : Nat) : Int) := by simp
   rw [this, Int.natAbs_natCast, Int.natAbs_natCast]; exact Nat.div_le_self _ _
  ·have h1 : x / ((m : Int) + 1) ≤ 0 := rQ hx
   have h2 : x ≤ x / ((m : Int) + 1) := by
    have h3 := Int.lt_ediv_add_one_mul_self x (b := (m : Int) + 1) (by omega)
    by_cases h4 : x ≤ x / ((m : Int) + 1)
    ·exact h4
    ·exfalso
     have h5 : x / ((m : Int) + 1) + 1 ≤ x := by omega
     have h6 : (x / ((m : Int) + 1) + 1) * ((m : Int) + 1) ≤ (x / ((m : Int) + 1) + 1) * 1 := Int.mul_le_mul_of_nonpos_left (by omega) (by omega)
     omega
   omega
theorem Lb.div (h : Lb e x) (y : Int) : Lb e (x / y) := Nat.lt_of_le_of_lt (dV x y) h
theorem Lb.le (h : Lb e y) (hx : x.natAbs ≤ y.natAbs) : Lb e x := Nat.lt_of_le_of_lt hx h
theorem Lb.sm {f : Nat → Int} (h : ∀ i, i < n → Lb e (f i)) (hn : n ≤ 4294967296) : Lb (e + 1) (sm n f) := by
 rcases Nat.eq_zero_or_pos n with rfl | h0
 ·exact rP
 ·have := uy (n := n) (f := f) (b := 4294967296 ^ e - 1) (fun i hi => by have := h i hi; unfold Lb at this; omega)
  unfold Lb
  have hp : 0 < 4294967296 ^ e := Nat.pow_pos (by decide)
  refine Nat.lt_of_le_of_lt this ?_
  rw [Nat.pow_succ, Nat.mul_comm]
  refine Nat.lt_of_lt_of_le (Nat.mul_lt_mul_of_pos_right (show 4294967296 ^ e - 1 < 4294967296 ^ e by omega) h0) (Nat.mul_le_mul_left _ hn)
theorem Lb.det {M : Mat} (h : ∀ r c, r < n → c < n → Lb e (M r c)) (hn : n ≤ 4294967296) : Lb ((e + 1) * n + 1) (det n M) := by
 have := k6 (n := n) (b := 4294967296 ^ e) (M := M) (fun r c hr hc => Nat.le_of_lt (h r c hr hc))
 unfold Lb
 refine Nat.lt_of_le_of_lt this ?_
 have h1 : n * 4294967296 ^ e ≤ 4294967296 ^ (e + 1) := by rw [Nat.pow_succ, Nat.mul_comm]; exact Nat.mul_le_mul_left _ hn
 have h2 := Nat.pow_le_pow_left h1 n
 rw [← Nat.pow_mul] at h2
 refine Nat.lt_of_le_of_lt h2 ?_
 exact Nat.pow_lt_pow_right (by decide) (by omega)
theorem oz {f g : Nat → Int} (h : ∀ i, i < n → Lb e (f i)) (h' : ∀ i, i < n → Lb e' (g i)) (hn : n ≤ 4294967296) : Lb (e + e' + 1) (Go.LA.sm n fun i => f i * g i) := Lb.sm (fun i hi => (h i hi).mul (h' i hi)) hn
end
end Go.LA
namespace Go.W
section
variable {P : Program} {S : World → Prop} {ops : List Oper} {K : Env → World → Prop} {rest : List (Oper × Option Bool)} {ρ : Env} {w : World} {b : Option Bool} {d : Nat} {T : TypeId} {pos : String} {af : Array Edge}
theorem fZ {x : Operand} {T1 : TypeId} {g j Tb : Nat} {u : IH} {cs : List Value} [Agg P T1 2] (hx : ev ρ x = .pointer (some ⟨g, j, none⟩)) (hb : Rd b S w fun w' => Blk w' g Tb cs)
  (h0 : cs[j]? = some (.bool u.neg)) (h1 : cs[j + 1]? = some (.slice u.sd.a u.sd.len u.sd.cap)) (h : RR P S ops K rest (upd ρ d u.val) w) : RR P S ops K ((⟨some d, .load T1 x, T, pos, af, none⟩, b) :: rest) ρ w :=
 kW (vs := u.cells) hx rfl (hb.imp fun w' hb i hi => by
  have hi' : i = 0 ∨ i = 1 := by simp only [IH.cells, List.length_cons, List.length_nil] at hi; omega
  rcases hi' with rfl | rfl
  ·have := hb.cell (List.getElem?_eq_some_iff.1 h0).1
   rw [List.getD_eq_getElem?_getD, h0] at this; exact this
  ·have := hb.cell (List.getElem?_eq_some_iff.1 h1).1
   rw [List.getD_eq_getElem?_getD, h1] at this; exact this) h
end
def ratL (x y : IH) : List Value := x.cells ++ y.cells
end Go.W
namespace Go.Proofs.YtpfhfldehaiokaaGreat
open Go.W Go.LM Go.LA
def RetR (w : World) (p q : Int) (v : Value) (w' : World) : Prop := ∃ x y : IH, v = .agg (ratL x y).toArray ∧ IntC w.heap.size w' x.val p ∧ IntC w.heap.size w' y.val q ∧ Ex w w'
theorem dW {K : Nat} {v1 v2 : Value} {n d : Int} {w : World} (h1 : IntK K w v1 n) (h2 : IntK K w v2 d) (hd : 0 < d) (hK : K < 17592186044415) :
  CallsR Tryz.prog 144 #[v1, v2] w fun v w' => ∃ u, v = .tuple #[u, .bool true] ∧ RetR w (n / (Nat.gcd n.natAbs d.natAbs : Nat)) (d / (Nat.gcd n.natAbs d.natAbs : Nat)) u w' := by
 obtain ⟨cs1, rfl, hl1, ho1⟩ := h1.out
 obtain ⟨cs2, rfl, hl2, ho2⟩ := h2.out
 refine aE (args := [_, _]) Tryz.func144 rfl rfl ?_
 refine ak ?_
 refine ai rfl ?_
 refine bC rfl (fun g2 w2 hn2 => tvv ?_)
 refine bC rfl (fun g3 w3 hn3 => tvv ?_)
 refine aH (fun g4 w4 hn4 => tvv ?_)
 have hb2 := (hn2.blk.ext hn3.ex).ext hn4.ex
 have hb3 := hn3.blk.ext hn4.ex
 have hb4 : Blk w4 g4 118 (ratL ih0 ih0) := hn4.blk
 have hE := (hn2.ex.trans hn3.ex).trans hn4.ex
 have hi1 := h1.ext hE
 have hi2 := h2.ext hE
 have l4 := hn4.lo
 have s3 := (hn2.ex.trans hn3.ex).size
 repeat' (first|refine aY rfl hb3 hl2 ?_|refine aj rfl ?_|refine aa ?_|refine ak ?_|refine ai rfl ?_|refine ah ?_)
 refine au (du hi2) rfl ?_
 rintro v w5 ⟨rfl, hE5⟩
 refine tvv ?_
 have hsg : d.sign = 1 := Int.sign_eq_one_of_pos hd
 rw [hsg]
 have hb35 := hb3.ext hE5
 repeat' (first|refine aY rfl hb35 hl2 ?_|refine aj rfl ?_|refine aa ?_|refine ak ?_|refine ai rfl ?_|refine ah ?_|refine ao rfl ?_|refine aC ?_)
 refine au (du (hi2.ext hE5)) rfl ?_
 rintro v w6 ⟨rfl, hE6⟩
 refine tvv ?_
 rw [hsg]
 have hE46 := hE5.trans hE6
 have hb26 := hb2.ext hE46
 have hb36 := hb3.ext hE46
 have hi16 := hi1.ext hE46
 have hi26 := hi2.ext hE46
 repeat' (first|refine aY rfl hb26 hl1 ?_|refine aY rfl hb36 hl2 ?_|refine aj rfl ?_|refine aa ?_|refine ak ?_|refine ai rfl ?_|refine ah ?_|refine ao rfl ?_|refine aC ?_)
 refine au (oq hi16 hi26 hK) rfl ?_
 rintro v w7 ⟨hI7, hE7⟩
 refine tvv ?_
 obtain ⟨u7, rfl⟩ := hI7.ih
 refine aH (fun g8 w8 hn8 => tvv ?_)
 refine aF (n := 2) (vs := u7.cells) rfl rfl rfl rfl hn8.blk rfl (fun w9 hc9 hb9 => tvv ?_)
 have lo8 := hn8.lo
 have s7 := hE7.size
 have s46 := hE46.size
 have hE69 : Ex w6 w9 := (hE7.trans hn8.ex).chg hc9 (by omega)
 have hi9 : IntC w6.heap.size w9 u7.val ((Nat.gcd n.natAbs d.natAbs : Nat) : Int) := (hI7.ext hn8.ex).chgO hc9 (hI7.off_hi lo8)
 have hb29 := hb26.ext hE69
 have hb39 := hb36.ext hE69
 have hb49 := (hb4.ext hE46).ext hE69
 repeat' (first|refine aa ?_|refine ak ?_|refine ah ?_)
 have hS : ∀ {w' : World}, Ex w9 w' → Blk w' g2 34 cs1 ∧ Blk w' g3 34 cs2 ∧ Blk w' g8 34 u7.cells := fun e => ⟨hb29.ext e, hb39.ext e, hb9.ext e⟩
 refine eZ (late := [5, 7]) (plan := [(0, none), (1, none), (3, none), (4, none), (2, some true), (5, some false), (6, none), (7, some false), (8, none)]) (fun w' => Ex w9 w') bD (by kernel_rfl) (Ex.refl w9).drew ?_
 have hEd := (Ex.refl w9).drew
 have hgK : IntK K w9 u7.val ((Nat.gcd n.natAbs d.natAbs : Nat) : Int) := hi9.k (by
  have h := hi26.lt
  have : Nat.gcd n.natAbs d.natAbs ≤ d.natAbs := Nat.gcd_le_right _ (by omega)
  rw [Int.natAbs_natCast]; omega)
 repeat' (first|refine aY rfl (fun _ h => (hS h).1) hl1 ?_|refine aY rfl (fun _ h => (hS h).2.1) hl2 ?_|refine aY (cs := u7.cells) rfl (fun _ h => (hS h).2.2) rfl ?_)
 refine au (fk ((hi16.ext hE69).ext hEd) (hgK.ext hEd) hK hK) rfl ?_
 rintro v w10 ⟨hI10, hE10⟩
 refine ⟨fun _ h => h.trans hE10, ?_⟩
 obtain ⟨x, rfl⟩ := hI10.ih
 skip
 refine au (fk (((hi26.ext hE69).ext hEd).ext hE10) ((hgK.ext hEd).ext hE10) hK hK) rfl ?_
 rintro v w11 ⟨hI11, hE11⟩
 refine ⟨fun _ h => h.trans hE11, ?_⟩
 obtain ⟨y, rfl⟩ := hI11.ih
 have hb4b := ((hb49.ext hEd).ext hE10).ext hE11
 repeat' (first|refine da (cs := ratL x y) rfl ?_)
 refine aF (n := 4) (vs := ratL x y) rfl rfl rfl rfl hb4b rfl (fun w12 hc12 hb12 => ⟨fun h => (nomatch h), ?_⟩)
 repeat' (first|refine aj rfl ?_|refine aa ?_|refine ah ?_|refine aK ?_)
 have s69 := hE69.size
 have sd : w9.drew.heap.size = w9.heap.size := rfl
 have s10 := hE10.size
 have s4 := hn4.hi
 refine dw rfl (rc rfl rfl hb12) (rt rfl) ⟨_, rfl, x, y, rfl, ((hI10.ext hE11).chgO hc12 (hI10.off_lo (by omega))).mono (by have := hE.size; omega), (hI11.chgO hc12 (hI11.off_lo (by omega))).mono (by have := hE.size; omega), ((((hE.trans hE46).trans hE69).trans hEd).trans hE10 |>.trans hE11).chg hc12 (by omega)⟩
end Go.Proofs.YtpfhfldehaiokaaGreat
namespace Go.LA
theorem uz (M : Mat) (i j : Nat) : bm M 1 i j = M 0 0 * M i j - M i 0 * M 0 j := by
 have h := d8 (k := 0) (M := M) (by rw [cA]; decide) i j
 rw [cA, dO, dO, dO, dO, Int.mul_one] at h
 exact h
theorem nK (M : Mat) : det 3 M = M 0 0 * (M 1 1 * M 2 2 - M 1 2 * M 2 1) - M 0 1 * (M 1 0 * M 2 2 - M 1 2 * M 2 0) + M 0 2 * (M 1 0 * M 2 1 - M 1 1 * M 2 0) := by
 rw [cd, bG, bG, bG, dm, iW, iW, iW]
 rw [show sgn 0 = 1 from rfl, show sgn 1 = -1 from rfl, show sgn 2 = 1 from rfl]
 rw [show sk 0 0 = 1 from rfl, show sk 0 1 = 2 from rfl, show sk 1 0 = 0 from rfl, show sk 1 1 = 2 from rfl, show sk 2 0 = 0 from rfl, show sk 2 1 = 1 from rfl]
 grind
abbrev d3x (a b c e f g : Int) : Int := a * (c * g - f * f) - b * (b * g - f * e) + e * (b * f - c * e)
theorem vZ (a b c e f g : Int) : (a * c - b * b) * (a * g - e * e) = a * d3x a b c e f g + (a * f - b * e) * (a * f - b * e) := by unfold d3x; grind
theorem gK {l d : Int} (hd : 0 < d) : ((2 * l + d) / (2 * d)).natAbs ≤ l.natAbs + 1 ∧ 2 * (l - (2 * l + d) / (2 * d) * d).natAbs ≤ d.natAbs := by
 have h1 := Int.emod_add_mul_ediv (2 * l + d) (2 * d)
 have h2 := Int.emod_nonneg (2 * l + d) (show 2 * d ≠ 0 by omega)
 have h3 := Int.emod_lt_of_pos (2 * l + d) (show 0 < 2 * d by omega)
 generalize (2 * l + d) % (2 * d) = r at *
 generalize (2 * l + d) / (2 * d) = q at *
 have e : 2 * d * q = 2 * (q * d) := by grind
 rw [e] at h1
 have hr : 2 * (l - q * d) = r - d := by omega
 refine ⟨?_, by omega⟩
 have h4 : 2 * (q * d).natAbs ≤ 2 * l.natAbs + d.natAbs := by omega
 rw [Int.natAbs_mul] at h4
 have hd' : 1 ≤ d.natAbs := by omega
 rcases Nat.lt_or_ge (l.natAbs + 1) q.natAbs with h | h
 ·exfalso
  have : (l.natAbs + 2) * d.natAbs ≤ q.natAbs * d.natAbs := Nat.mul_le_mul_right _ (by omega)
  have h5 : (l.natAbs + 2) * d.natAbs = l.natAbs * d.natAbs + 2 * d.natAbs := by grind
  have h6 : l.natAbs * 1 ≤ l.natAbs * d.natAbs := Nat.mul_le_mul_left _ hd'
  omega
 ·exact h
theorem Lb.up {e : Nat} {x : Int} {y m : Nat} (hy : y < 4294967296 ^ e) (hx : x.natAbs ≤ m * y + m) (hm : m < 4294967296) : Lb (e + 1) x := by
 unfold Lb
 rw [Nat.pow_succ]
 have h1 : m * y + m = m * (y + 1) := by grind
 have h2 : m * (y + 1) ≤ m * 4294967296 ^ e := Nat.mul_le_mul_left _ hy
 rcases Nat.eq_zero_or_pos m with h | h
 ·subst h; have : 0 < 4294967296 ^ e := Nat.pow_pos (by decide); omega
 ·have h3 : m * 4294967296 ^ e < 4294967296 * 4294967296 ^ e := (Nat.mul_lt_mul_right (Nat.pow_pos (by decide))).2 hm
  rw [Nat.mul_comm (4294967296 ^ e)]; omega
theorem ju {a x y : Int} (ha : 0 < a) (h : a * x = y) : x.natAbs ≤ y.natAbs := by
 have := congrArg Int.natAbs h
 rw [Int.natAbs_mul] at this
 have h2 : 1 * x.natAbs ≤ a.natAbs * x.natAbs := Nat.mul_le_mul_right _ (by omega)
 omega
theorem cB {x y : Int} {p q : Nat} (hx : x.natAbs ≤ p) (hy : y.natAbs ≤ q) : (x * y).natAbs ≤ p * q := by rw [Int.natAbs_mul]; exact Nat.mul_le_mul hx hy
theorem xu {b e q : Int} {P l : Nat} (hb : b.natAbs ≤ 4) (he : e.natAbs < P) (hq : q.natAbs ≤ l + 1) (hl : l < P) : (e - q * b).natAbs ≤ 9 * (P - 1) + 9 := by
 have h1 : (q * b).natAbs ≤ (l + 1) * 4 := cB hq hb
 omega
theorem xv {a b c e f : Int} {P : Nat} (ha : 0 < a ∧ a ≤ 9) (hb : b.natAbs ≤ 4) (hc : 0 < c ∧ c < a) (he : e.natAbs < P) (hl : (a * f - b * e).natAbs < P) : f.natAbs ≤ 5 * (P - 1) ∧ (c * e - b * f).natAbs ≤ 40 * (P - 1) := by
 have h1 : (b * e).natAbs ≤ 4 * (P - 1) := cB hb (by omega)
 have h2 := ju ha.1 (x := f) rfl
 have h3 : f.natAbs ≤ 5 * (P - 1) := by omega
 have h4 : (c * e).natAbs ≤ 9 * (P - 1) := cB (by omega) (by omega)
 have h5 : (b * f).natAbs ≤ 4 * (5 * (P - 1)) := cB hb h3
 exact ⟨h3, by omega⟩
theorem xw {a b c e f g : Int} (_ha : 0 < a) (h2 : 0 < a * c - b * b) (hL : 4 * (a * d3x a b c e f g + (a * f - b * e) * (a * f - b * e)) < 3 * ((a * c - b * b) * (a * c - b * b))) : a * g - e * e < a * c - b * b := by
 rw [← vZ] at hL
 rcases Int.lt_or_le (a * g - e * e) (a * c - b * b) with h | h
 ·exact h
 ·exfalso
  have h3 := Int.mul_le_mul_of_nonneg_left h (Int.le_of_lt h2)
  have h4 := Int.mul_pos h2 h2
  omega
theorem sq_nn (x : Int) : 0 ≤ x * x := by
 rcases Int.le_total 0 x with h | h
 ·exact Int.mul_nonneg h h
 ·have := Int.mul_nonneg (Int.neg_nonneg.2 h) (Int.neg_nonneg.2 h); rwa [Int.neg_mul_neg] at this
theorem sq_le {x : Int} {k : Nat} (h : x.natAbs ≤ k) : x * x ≤ ((k * k : Nat) : Int) := by
 have := cB h h
 have := sq_nn x
 omega
theorem k7 {a b c e f g : Int} (ha : 0 < a) (h2 : 0 < a * c - b * b) (h3 : 0 < d3x a b c e f g) : 0 < a * g - e * e ∧ d3x a b c e f g ≤ (a * c - b * b) * g := by
 have hs := vZ a b c e f g
 have h4 := Int.mul_pos ha h3
 have h5 := sq_nn (a * f - b * e)
 have hp : 0 < a * g - e * e := by
  rcases Int.lt_or_le 0 (a * g - e * e) with h | h
  ·exact h
  ·have := Int.mul_le_mul_of_nonneg_left h (Int.le_of_lt h2); rw [Int.mul_zero] at this; omega
 refine ⟨hp, ?_⟩
 have h6 : (a * c - b * b) * (a * g - e * e) = a * ((a * c - b * b) * g) - (a * c - b * b) * (e * e) := by grind
 have h7 := Int.mul_nonneg (Int.le_of_lt h2) (sq_nn e)
 exact Int.le_of_mul_le_mul_left (a := a) (by omega) ha
theorem jN {a c : Int} (ha : 0 < a) (h : 0 < a * c) : 0 < c := by
 rcases Int.lt_or_le 0 c with h' | h'
 ·exact h'
 ·have := Int.mul_le_mul_of_nonneg_left h' (Int.le_of_lt ha); rw [Int.mul_zero] at this; omega
def Sizd (H : Mat) (i j : Nat) : Prop := 2 * (bm H j i j).natAbs ≤ (det (j + 1) H).natAbs
def Lovz (H : Mat) (i : Nat) : Prop := 3 * (det i H * det i H) ≤ 4 * (det (i - 1) H * det (i + 1) H + bm H (i - 1) i (i - 1) * bm H (i - 1) i (i - 1))
instance (H : Mat) (i j : Nat) : Decidable (Sizd H i j) := by unfold Sizd; exact inferInstance
instance (H : Mat) (i : Nat) : Decidable (Lovz H i) := by unfold Lovz; exact inferInstance
structure G3 (n : Nat) (H : Mat) (e : Nat) : Prop where
 hn : 1 ≤ n ∧ n ≤ 3
 sym : ∀ i j, i < n → j < n → H i j = H j i
 pos : ∀ k, k ≤ n → 0 < det k H
 b1 : det 1 H ≤ 9
 b2 : 2 ≤ n → det 2 H ≤ 81
 b3 : 3 ≤ n → det 3 H ≤ 729
 lam : ∀ i j, j < i → i < n → Lb e (bm H j i j)
def cong (n : Nat) (U H : Mat) : Mat := mm n (mm n (fun a b => U b a) H) U
def sizeU (i j : Nat) (q : Int) : Mat := fun a b => if a = j ∧ b = i then q else idM a b
def swapU (i : Nat) : Mat := fun a b => if a = i then idM (i - 1) b else if a = i - 1 then idM i b else idM a b
def unsz (H : Mat) (i j : Nat) : Nat := if Sizd H i j then 0 else 1
theorem dX (H : Mat) (i j : Nat) : unsz H i j ≤ 1 := by unfold unsz; split <;> omega
theorem eO {H : Mat} {i j : Nat} (h : Sizd H i j) : unsz H i j = 0 := if_pos h
theorem k8 {H : Mat} {i j : Nat} (h : ¬ Sizd H i j) : unsz H i j = 1 := if_neg h
def meas (n : Nat) (H : Mat) : Nat :=
 if n = 3 then 8 * (det 1 H * det 2 H).toNat + 4 * unsz H 1 0 + 2 * unsz H 2 1 + unsz H 2 0
 else if n = 2 then 8 * (det 1 H).toNat + 4 * unsz H 1 0 else 0
def Ahead (H : Mat) (i : Nat) : Prop := ∀ i', i' < i → (∀ j', j' < i' → Sizd H i' j') ∧ (0 < i' → Lovz H i')
section
variable {n e : Nat} {H : Mat}
theorem G3.d1 (h : G3 n H e) : 0 < H 0 0 ∧ H 0 0 ≤ 9 := by have := h.pos 1 h.hn.1; have := h.b1; rw [eE] at *; omega
theorem pO {U H : Mat} (x y : Nat) : cong 2 U H x y = (U 0 x * H 0 0 + U 1 x * H 1 0) * U 0 y + (U 0 x * H 0 1 + U 1 x * H 1 1) * U 1 y := by
 unfold cong mm; simp only [bG, dm]; grind
theorem iH {U H : Mat} (x y : Nat) : cong 3 U H x y = (U 0 x * H 0 0 + U 1 x * H 1 0 + U 2 x * H 2 0) * U 0 y + (U 0 x * H 0 1 + U 1 x * H 1 1 + U 2 x * H 2 1) * U 1 y + (U 0 x * H 0 2 + U 1 x * H 1 2 + U 2 x * H 2 2) * U 2 y := by
 unfold cong mm; simp only [bG, dm]; grind
end
structure N2 (H : Mat) (a b c : Int) : Prop where
 ha : H 0 0 = a
 hb : H 1 0 = b
 hb' : H 0 1 = b
 hc : H 1 1 = c
structure N3 (H : Mat) (a b c e f g : Int) : Prop extends N2 H a b c where
 he : H 2 0 = e
 he' : H 0 2 = e
 hf : H 2 1 = f
 hf' : H 1 2 = f
 hg : H 2 2 = g
section
variable {H : Mat} {a b c e f g : Int}
theorem N2.d1 (h : N2 H a b c) : det 1 H = a := by rw [eE, h.ha]
theorem N2.d2 (h : N2 H a b c) : det 2 H = a * c - b * b := by rw [iW, h.ha, h.hb, h.hb', h.hc]
theorem N2.l10 (h : N2 H a b c) : bm H 0 1 0 = b := by rw [dO, h.hb]
theorem N3.d3 (h : N3 H a b c e f g) : det 3 H = d3x a b c e f g := by rw [nK, h.ha, h.hb, h.hb', h.hc, h.he, h.he', h.hf, h.hf', h.hg]
theorem N3.l20 (h : N3 H a b c e f g) : bm H 0 2 0 = e := by rw [dO, h.he]
theorem N3.l21 (h : N3 H a b c e f g) : bm H 1 2 1 = a * f - b * e := by rw [uz, h.ha, h.hb', h.he, h.hf]; grind
end
theorem N2.mk' {H : Mat} (h : ∀ i j, i < 2 → j < 2 → H i j = H j i) : N2 H (H 0 0) (H 1 0) (H 1 1) := ⟨rfl, rfl, h 0 1 (by omega) (by omega), rfl⟩
theorem N3.mk' {H : Mat} (h : ∀ i j, i < 3 → j < 3 → H i j = H j i) : N3 H (H 0 0) (H 1 0) (H 1 1) (H 2 0) (H 2 1) (H 2 2) :=
 ⟨N2.mk' fun i j hi hj => h i j (by omega) (by omega), rfl, h 0 2 (by omega) (by omega), rfl, h 1 2 (by omega) (by omega), rfl⟩
theorem N2.sym {H : Mat} {a b c : Int} (h : N2 H a b c) : ∀ i j, i < 2 → j < 2 → H i j = H j i := fun i j hi hj => by
 match i, j, hi, hj with
 | 0, 0, _, _ | 1, 1, _, _ => rfl
 | 0, 1, _, _ => rw [h.hb', h.hb]
 | 1, 0, _, _ => rw [h.hb', h.hb]
theorem N3.sym {H : Mat} {a b c e f g : Int} (h : N3 H a b c e f g) : ∀ i j, i < 3 → j < 3 → H i j = H j i := fun i j hi hj => by
 match i, j, hi, hj with
 | 0, 0, _, _ | 1, 1, _, _ | 2, 2, _, _ => rfl
 | 0, 1, _, _ => rw [h.hb', h.hb]
 | 1, 0, _, _ => rw [h.hb', h.hb]
 | 0, 2, _, _ => rw [h.he', h.he]
 | 2, 0, _, _ => rw [h.he', h.he]
 | 1, 2, _, _ => rw [h.hf', h.hf]
 | 2, 1, _, _ => rw [h.hf', h.hf]
theorem N2.g3 {H : Mat} {a b c : Int} {k : Nat} (h : N2 H a b c) (ha : 0 < a ∧ a ≤ 9) (h2 : 0 < a * c - b * b ∧ a * c - b * b ≤ 81) (hb : Lb k b) : G3 2 H k :=
 ⟨by omega, h.sym, fun i hi => by
   match i, hi with
   | 0, _ => rw [cA]; decide
   | 1, _ => rw [h.d1]; omega
   | 2, _ => rw [h.d2]; omega,
  by rw [h.d1]; omega, fun _ => by rw [h.d2]; omega, fun h => by omega, fun i j hj hi => by
   obtain ⟨rfl, rfl⟩ : i = 1 ∧ j = 0 := by omega
   rw [h.l10]; exact hb⟩
theorem N3.g3 {H : Mat} {a b c e f g : Int} {k : Nat} (h : N3 H a b c e f g) (ha : 0 < a ∧ a ≤ 9) (h2 : 0 < a * c - b * b ∧ a * c - b * b ≤ 81) (h3 : 0 < d3x a b c e f g ∧ d3x a b c e f g ≤ 729) (hb : Lb k b) (he : Lb k e) (hl : Lb k (a * f - b * e)) : G3 3 H k :=
 ⟨by omega, h.sym, fun i hi => by
   match i, hi with
   | 0, _ => rw [cA]; decide
   | 1, _ => rw [h.d1]; omega
   | 2, _ => rw [h.d2]; omega
   | 3, _ => rw [h.d3]; omega,
  by rw [h.d1]; omega, fun _ => by rw [h.d2]; omega, fun _ => by rw [h.d3]; omega, fun i j hj hi => by
   match i, j, hj, hi with
   | 1, 0, _, _ => rw [h.l10]; exact hb
   | 2, 0, _, _ => rw [h.l20]; exact he
   | 2, 1, _, _ => rw [h.l21]; exact hl⟩
section
variable {H : Mat} {a b c e f g : Int}
theorem wg (h : N2 H a b c) (q : Int) : N2 (cong 2 (sizeU 1 0 (-q)) H) a (b - q * a) (c - q * b - q * (b - q * a)) := by
 constructor <;> rw [pO] <;> simp [sizeU, idM, h.ha, h.hb, h.hb', h.hc] <;> grind
theorem wh (h : N2 H a b c) : N2 (cong 2 (swapU 1) H) c b a := by
 constructor <;> rw [pO] <;> simp [swapU, idM, h.ha, h.hb, h.hb', h.hc]
theorem sO (h : N3 H a b c e f g) (q : Int) : N3 (cong 3 (sizeU 1 0 (-q)) H) a (b - q * a) (c - q * b - q * (b - q * a)) e (f - q * e) g := by
 refine ⟨⟨?_, ?_, ?_, ?_⟩, ?_, ?_, ?_, ?_, ?_⟩ <;> rw [iH] <;> simp [sizeU, idM, h.ha, h.hb, h.hb', h.hc, h.he, h.he', h.hf, h.hf', h.hg] <;> grind
theorem sP (h : N3 H a b c e f g) (q : Int) : N3 (cong 3 (sizeU 2 0 (-q)) H) a b c (e - q * a) (f - q * b) (g - q * e - q * (e - q * a)) := by
 refine ⟨⟨?_, ?_, ?_, ?_⟩, ?_, ?_, ?_, ?_, ?_⟩ <;> rw [iH] <;> simp [sizeU, idM, h.ha, h.hb, h.hb', h.hc, h.he, h.he', h.hf, h.hf', h.hg] <;> grind
theorem sQ (h : N3 H a b c e f g) (q : Int) : N3 (cong 3 (sizeU 2 1 (-q)) H) a b c (e - q * b) (f - q * c) (g - q * f - q * (f - q * c)) := by
 refine ⟨⟨?_, ?_, ?_, ?_⟩, ?_, ?_, ?_, ?_, ?_⟩ <;> rw [iH] <;> simp [sizeU, idM, h.ha, h.hb, h.hb', h.hc, h.he, h.he', h.hf, h.hf', h.hg] <;> grind
theorem uA (h : N3 H a b c e f g) : N3 (cong 3 (swapU 1) H) c b a f e g := by
 refine ⟨⟨?_, ?_, ?_, ?_⟩, ?_, ?_, ?_, ?_, ?_⟩ <;> rw [iH] <;> simp [swapU, idM, h.ha, h.hb, h.hb', h.hc, h.he, h.he', h.hf, h.hf', h.hg]
theorem uB (h : N3 H a b c e f g) : N3 (cong 3 (swapU 2) H) a e g b f c := by
 refine ⟨⟨?_, ?_, ?_, ?_⟩, ?_, ?_, ?_, ?_, ?_⟩ <;> rw [iH] <;> simp [swapU, idM, h.ha, h.hb, h.hb', h.hc, h.he, h.he', h.hf, h.hf', h.hg]
theorem N2.s10 (h : N2 H a b c) : Sizd H 1 0 ↔ 2 * b.natAbs ≤ a.natAbs := by unfold Sizd; rw [h.l10, h.d1]
theorem N3.s20 (h : N3 H a b c e f g) : Sizd H 2 0 ↔ 2 * e.natAbs ≤ a.natAbs := by unfold Sizd; rw [h.l20, h.d1]
theorem N3.s21 (h : N3 H a b c e f g) : Sizd H 2 1 ↔ 2 * (a * f - b * e).natAbs ≤ (a * c - b * b).natAbs := by unfold Sizd; rw [h.l21, h.d2]
theorem N2.v1 (h : N2 H a b c) : Lovz H 1 ↔ 3 * (a * a) ≤ 4 * (1 * (a * c - b * b) + b * b) := by unfold Lovz; rw [show 1 - 1 = 0 from rfl, show 1 + 1 = 2 from rfl, h.l10, h.d1, h.d2, cA]
theorem N3.v2 (h : N3 H a b c e f g) : Lovz H 2 ↔ 3 * ((a * c - b * b) * (a * c - b * b)) ≤ 4 * (a * d3x a b c e f g + (a * f - b * e) * (a * f - b * e)) := by unfold Lovz; rw [show 2 - 1 = 1 from rfl, show 2 + 1 = 3 from rfl, h.l21, h.d1, h.d2, h.d3]
end
section
variable {n k : Nat} {H : Mat}
theorem G3.n2 (h : G3 2 H k) : ∃ a b c, N2 H a b c ∧ 0 < a ∧ a ≤ 9 ∧ 0 < a * c - b * b ∧ a * c - b * b ≤ 81 ∧ Lb k b := by
 have hN := N2.mk' h.sym
 have h1 := h.pos 1 (by omega); have h2 := h.pos 2 (by omega); have h3 := h.b1; have h4 := h.b2 (by omega); have h5 := h.lam 1 0 (by omega) (by omega)
 rw [hN.d1] at h1 h3; rw [hN.d2] at h2 h4; rw [hN.l10] at h5
 exact ⟨_, _, _, hN, h1, h3, h2, h4, h5⟩
theorem G3.n3 (h : G3 3 H k) : ∃ a b c e f g, N3 H a b c e f g ∧ 0 < a ∧ a ≤ 9 ∧ 0 < a * c - b * b ∧ a * c - b * b ≤ 81 ∧ 0 < d3x a b c e f g ∧ d3x a b c e f g ≤ 729 ∧ Lb k b ∧ Lb k e ∧ Lb k (a * f - b * e) := by
 have hN := N3.mk' h.sym
 have h1 := h.pos 1 (by omega); have h2 := h.pos 2 (by omega); have h3 := h.b1; have h4 := h.b2 (by omega); have h5 := h.lam 1 0 (by omega) (by omega)
 have h6 := h.pos 3 (by omega); have h7 := h.b3 (by omega); have h8 := h.lam 2 0 (by omega) (by omega); have h9 := h.lam 2 1 (by omega) (by omega)
 rw [hN.d1] at h1 h3; rw [hN.d2] at h2 h4; rw [hN.l10] at h5; rw [hN.d3] at h6 h7; rw [hN.l20] at h8; rw [hN.l21] at h9
 exact ⟨_, _, _, _, _, _, hN, h1, h3, h2, h4, h6, h7, h5, h8, h9⟩
theorem iI (H : Mat) : meas 2 H = 8 * (det 1 H).toNat + 4 * unsz H 1 0 := rfl
theorem dj (H : Mat) : meas 3 H = 8 * (det 1 H * det 2 H).toNat + 4 * unsz H 1 0 + 2 * unsz H 2 1 + unsz H 2 0 := rfl
theorem k9 {l d : Int} (hd : 0 < d) (hd9 : d ≤ 81) : Lb (k + 1) (l - (2 * l + d) / (2 * d) * d) := by
 have h1 := (gK (l := l) hd).2
 exact bO (by omega) (by omega)
theorem G3.size (h : G3 n H k) {i j : Nat} (hj : j < i) (hi : i < n) (hA : Ahead H i) (hs : ∀ j', j < j' → j' < i → Sizd H i j') (hu : ¬ Sizd H i j) :
  G3 n (cong n (sizeU i j (-((2 * bm H j i j + det (j + 1) H) / (2 * det (j + 1) H)))) H) (k + 1) ∧ det n (cong n (sizeU i j (-((2 * bm H j i j + det (j + 1) H) / (2 * det (j + 1) H)))) H) = det n H ∧
   meas n (cong n (sizeU i j (-((2 * bm H j i j + det (j + 1) H) / (2 * det (j + 1) H)))) H) < meas n H := by
 have hn := h.hn
 obtain rfl | rfl : n = 2 ∨ n = 3 := by omega
 ·obtain ⟨a, b, c, hN, ha, ha9, h2, h281, hb⟩ := h.n2
  obtain ⟨rfl, rfl⟩ : i = 1 ∧ j = 0 := by omega
  rw [hN.l10, hN.d1]
  have hC := wg hN ((2 * b + a) / (2 * a))
  have hq := (gK (l := b) ha).2
  have hlb := k9 (k := k) (l := b) ha (by omega)
  generalize (2 * b + a) / (2 * a) = q at *
  have e2 : a * (c - q * b - q * (b - q * a)) - (b - q * a) * (b - q * a) = a * c - b * b := by grind
  refine ⟨hC.g3 ⟨ha, ha9⟩ (by rw [e2]; exact ⟨h2, h281⟩) hlb, by rw [hC.d2, hN.d2, e2], ?_⟩
  rw [iI, iI, hC.d1, hN.d1, k8 hu, eO (hC.s10.2 (by omega))]; omega
 ·obtain ⟨a, b, c, e, f, g, hN, ha, ha9, h2, h281, h3, h3b, hb, he, hl⟩ := h.n3
  have cases : (i = 1 ∧ j = 0) ∨ (i = 2 ∧ j = 0) ∨ (i = 2 ∧ j = 1) := by omega
  rcases cases with ⟨rfl, rfl⟩ | ⟨rfl, rfl⟩ | ⟨rfl, rfl⟩
  ·rw [hN.l10, hN.d1]
   have hC := sO hN ((2 * b + a) / (2 * a))
   have hq := (gK (l := b) ha).2
   have hlb := k9 (k := k) (l := b) ha (by omega)
   generalize (2 * b + a) / (2 * a) = q at *
   have e2 : a * (c - q * b - q * (b - q * a)) - (b - q * a) * (b - q * a) = a * c - b * b := by grind
   have e3 : d3x a (b - q * a) (c - q * b - q * (b - q * a)) e (f - q * e) g = d3x a b c e f g := by unfold d3x; grind
   have e4 : a * (f - q * e) - (b - q * a) * e = a * f - b * e := by grind
   refine ⟨hC.g3 ⟨ha, ha9⟩ (by rw [e2]; exact ⟨h2, h281⟩) (by rw [e3]; exact ⟨h3, h3b⟩) hlb (he.mono (by omega)) (by rw [e4]; exact hl.mono (by omega)), by rw [hC.d3, hN.d3, e3], ?_⟩
   have o1 := dX (cong 3 (sizeU 1 0 (-q)) H) 2 1
   have o2 := dX (cong 3 (sizeU 1 0 (-q)) H) 2 0
   rw [dj, dj, hC.d1, hN.d1, hC.d2, hN.d2, e2, k8 hu, eO (hC.s10.2 (by omega))]; omega
  ·rw [hN.l20, hN.d1]
   have s10 := (hA 1 (by omega)).1 0 (by omega)
   have s21 := hs 1 (by omega) (by omega)
   have hC := sP hN ((2 * e + a) / (2 * a))
   have hq := (gK (l := e) ha).2
   have hlb := k9 (k := k) (l := e) ha (by omega)
   generalize (2 * e + a) / (2 * a) = q at *
   have e3 : d3x a b c (e - q * a) (f - q * b) (g - q * e - q * (e - q * a)) = d3x a b c e f g := by unfold d3x; grind
   have e4 : a * (f - q * b) - b * (e - q * a) = a * f - b * e := by grind
   refine ⟨hC.g3 ⟨ha, ha9⟩ ⟨h2, h281⟩ (by rw [e3]; exact ⟨h3, h3b⟩) (hb.mono (by omega)) hlb (by rw [e4]; exact hl.mono (by omega)), by rw [hC.d3, hN.d3, e3], ?_⟩
   rw [dj, dj, hC.d1, hN.d1, hC.d2, hN.d2, k8 hu, eO s10, eO s21, eO (hC.s20.2 (by omega)), eO (hC.s10.2 (hN.s10.1 s10)), eO (hC.s21.2 (by rw [e4]; exact hN.s21.1 s21))]; omega
  ·rw [hN.l21, hN.d2]
   have s10 := hN.s10.1 ((hA 1 (by omega)).1 0 (by omega))
   have hC := sQ hN ((2 * (a * f - b * e) + (a * c - b * b)) / (2 * (a * c - b * b)))
   have hq := gK (l := a * f - b * e) h2
   have hlb := k9 (k := k) (l := a * f - b * e) h2 h281
   generalize (2 * (a * f - b * e) + (a * c - b * b)) / (2 * (a * c - b * b)) = q at *
   have e3 : d3x a b c (e - q * b) (f - q * c) (g - q * f - q * (f - q * c)) = d3x a b c e f g := by unfold d3x; grind
   have e4 : a * (f - q * c) - b * (e - q * b) = a * f - b * e - q * (a * c - b * b) := by grind
   have hle : Lb (k + 1) (e - q * b) := by
    have hp : 0 < 4294967296 ^ k := Nat.pow_pos (by decide)
    exact Lb.up (e := k) (y := 4294967296 ^ k - 1) (m := 9) (by omega) (xu (by omega) he hq.1 hl) (by decide)
   refine ⟨hC.g3 ⟨ha, ha9⟩ ⟨h2, h281⟩ (by rw [e3]; exact ⟨h3, h3b⟩) (hb.mono (by omega)) hle (by rw [e4]; exact hlb), by rw [hC.d3, hN.d3, e3], ?_⟩
   have o2 := dX (cong 3 (sizeU 2 1 (-q)) H) 2 0
   rw [dj, dj, hC.d1, hN.d1, hC.d2, hN.d2, k8 hu, eO ((hA 1 (by omega)).1 0 (by omega)), eO (hC.s10.2 s10), eO (hC.s21.2 (by rw [e4]; omega))]; omega
theorem G3.swap (h : G3 n H k) {i : Nat} (h0 : 0 < i) (hi : i < n) (hA : Ahead H i) (hs : ∀ j', j' < i → Sizd H i j') (hu : ¬ Lovz H i) :
  G3 n (cong n (swapU i) H) (k + 1) ∧ det n (cong n (swapU i) H) = det n H ∧ meas n (cong n (swapU i) H) < meas n H := by
 have hn := h.hn
 obtain rfl | rfl : n = 2 ∨ n = 3 := by omega
 ·obtain ⟨a, b, c, hN, ha, ha9, h2, h281, hb⟩ := h.n2
  obtain rfl : i = 1 := by omega
  have hC := wh hN
  rw [hN.v1] at hu
  have hbb := sq_nn b
  have e2 : c * a - b * b = a * c - b * b := by grind
  have hac : 0 < c ∧ c < a := by
   have h1 : 4 * (a * c) < 3 * (a * a) := by omega
   have h2' : 0 < a * c := by omega
   refine ⟨jN ha h2', ?_⟩
   ·rcases Int.lt_or_le c a with h | h
    ·exact h
    ·have := Int.mul_le_mul_of_nonneg_left h (Int.le_of_lt ha); have := Int.mul_pos ha ha; omega
  refine ⟨hC.g3 ⟨hac.1, by omega⟩ (by rw [e2]; exact ⟨h2, h281⟩) (hb.mono (by omega)), by rw [hC.d2, hN.d2, e2], ?_⟩
  have o1 := dX (cong 2 (swapU 1) H) 1 0
  rw [iI, iI, hC.d1, hN.d1]; omega
 ·obtain ⟨a, b, c, e, f, g, hN, ha, ha9, h2, h281, h3, h3b, hb, he, hl⟩ := h.n3
  have hbb := sq_nn b
  obtain rfl | rfl : i = 1 ∨ i = 2 := by omega
  ·have hC := uA hN
   rw [hN.v1] at hu
   have s10 := hN.s10.1 (hs 0 (by omega))
   have e2 : c * a - b * b = a * c - b * b := by grind
   have e3 : d3x c b a f e g = d3x a b c e f g := by unfold d3x; grind
   have hac : 0 < c ∧ c < a := by
    have h1 : 4 * (a * c) < 3 * (a * a) := by omega
    have h2' : 0 < a * c := by omega
    refine ⟨jN ha h2', ?_⟩
    rcases Int.lt_or_le c a with h | h
    ·exact h
    ·have := Int.mul_le_mul_of_nonneg_left h (Int.le_of_lt ha); have := Int.mul_pos ha ha; omega
   have hp : 0 < 4294967296 ^ k := Nat.pow_pos (by decide)
   have hsw := xv (P := 4294967296 ^ k) (f := f) ⟨ha, ha9⟩ (b := b) (by omega) hac he hl
   have hf : Lb (k + 1) f := Lb.up (e := k) (y := 4294967296 ^ k - 1) (m := 5) (by omega) (by omega) (by decide)
   have hl' : Lb (k + 1) (c * e - b * f) := Lb.up (e := k) (y := 4294967296 ^ k - 1) (m := 40) (by omega) (by omega) (by decide)
   refine ⟨hC.g3 ⟨hac.1, by omega⟩ (by rw [e2]; exact ⟨h2, h281⟩) (by rw [e3]; exact ⟨h3, h3b⟩) (hb.mono (by omega)) hf hl', by rw [hC.d3, hN.d3, e3], ?_⟩
   have o1 := dX (cong 3 (swapU 1) H) 1 0
   have o2 := dX (cong 3 (swapU 1) H) 2 0
   have o3 := dX (cong 3 (swapU 1) H) 2 1
   have hlt : c * (a * c - b * b) < a * (a * c - b * b) := Int.mul_lt_mul_of_pos_right hac.2 h2
   have hps := Int.mul_pos hac.1 h2
   rw [dj, dj, hC.d1, hN.d1, hC.d2, hN.d2, e2]; omega
  ·have hC := uB hN
   rw [hN.v2] at hu
   have e3 : d3x a e g b f c = d3x a b c e f g := by unfold d3x; grind
   have e4 : a * f - e * b = a * f - b * e := by grind
   have h4 := xw (a := a) (b := b) (c := c) (e := e) (f := f) (g := g) ha h2 (by omega)
   have h5 := (k7 ha h2 h3).1
   refine ⟨hC.g3 ⟨ha, ha9⟩ ⟨h5, by omega⟩ (by rw [e3]; exact ⟨h3, h3b⟩) (he.mono (by omega)) (hb.mono (by omega)) (by rw [e4]; exact hl.mono (by omega)), by rw [hC.d3, hN.d3, e3], ?_⟩
   have o1 := dX (cong 3 (swapU 2) H) 1 0
   have o2 := dX (cong 3 (swapU 2) H) 2 0
   have o3 := dX (cong 3 (swapU 2) H) 2 1
   have hlt : a * (a * g - e * e) < a * (a * c - b * b) := Int.mul_lt_mul_of_pos_left h4 ha
   have hps := Int.mul_pos ha h5
   rw [dj, dj, hC.d1, hN.d1, hC.d2, hN.d2]; omega
end
section
variable {n k : Nat} {H : Mat}
theorem G3.ent (h : G3 n H k) {i j : Nat} (hi : i < n) (hj : j < n) : Lb (2 * k + 3) (H i j) := by
 have hn := h.hn
 have sm : ∀ x : Int, x.natAbs ≤ 60000 → Lb (2 * k + 3) x := fun x hx => bO (by omega) (by omega)
 have h1 := h.d1
 obtain rfl | rfl | rfl : n = 1 ∨ n = 2 ∨ n = 3 := by omega
 ·obtain ⟨rfl, rfl⟩ : i = 0 ∧ j = 0 := by omega
  exact sm _ (by omega)
 ·obtain ⟨a, b, c, hN, ha, ha9, h2, h281, hb⟩ := h.n2
  have hbb : Lb (2 * k + 2) (81 + b * b) := (Lb.add (e := 2 * k + 1) (bO (by decide) (by omega)) ((hb.mul hb).mono (by omega))).mono (by omega)
  have hsq := sq_nn b
  have hc : Lb (2 * k + 3) c := by
   have hac : 0 < a * c := by omega
   have hcp := jN ha hac
   have : c ≤ a * c := by have := Int.mul_le_mul_of_nonneg_right (show (1 : Int) ≤ a by omega) (Int.le_of_lt hcp); omega
   exact (hbb.le (by omega)).mono (by omega)
  match i, j, hi, hj with
  | 0, 0, _, _ => exact sm _ (by omega)
  | 0, 1, _, _ => rw [hN.hb']; exact hb.mono (by omega)
  | 1, 0, _, _ => rw [hN.hb]; exact hb.mono (by omega)
  | 1, 1, _, _ => rw [hN.hc]; exact hc
 ·obtain ⟨a, b, c, e, f, g, hN, ha, ha9, h2, h281, h3, h3b, hb, he, hl⟩ := h.n3
  have hsq := sq_nn b
  have hsq2 := sq_nn e
  have hbb : Lb (2 * k + 2) (81 + b * b) := (Lb.add (e := 2 * k + 1) (bO (by decide) (by omega)) ((hb.mul hb).mono (by omega))).mono (by omega)
  have hc : Lb (2 * k + 3) c := by
   have hcp := jN ha (c := c) (by omega)
   have : c ≤ a * c := by have := Int.mul_le_mul_of_nonneg_right (show (1 : Int) ≤ a by omega) (Int.le_of_lt hcp); omega
   exact (hbb.le (by omega)).mono (by omega)
  have hf : Lb (2 * k + 3) f := by
   have h1 := ju ha (x := f) (y := (a * f - b * e) + b * e) (by omega)
   exact ((Lb.add (e := 2 * k) (hl.mono (by omega)) ((hb.mul he).mono (by omega))).le h1).mono (by omega)
  have hg : Lb (2 * k + 3) g := by
   have hs := vZ a b c e f g
   have hF := k7 ha h2 h3
   have hgp := jN ha (c := g) (by omega)
   have h4 : g ≤ a * g := by have := Int.mul_le_mul_of_nonneg_right (show (1 : Int) ≤ a by omega) (Int.le_of_lt hgp); omega
   have h5 : a * g - e * e ≤ (a * c - b * b) * (a * g - e * e) := by have := Int.mul_le_mul_of_nonneg_right (show (1 : Int) ≤ a * c - b * b by omega) (Int.le_of_lt hF.1); omega
   have h6 : a * d3x a b c e f g ≤ 9 * 729 := by
    have := Int.mul_le_mul ha9 h3b (Int.le_of_lt h3) (by decide : (0 : Int) ≤ 9)
    omega
   have h7 := sq_nn (a * f - b * e)
   have l1 : Lb (2 * k + 1) (6561 + (a * f - b * e) * (a * f - b * e)) := by
    rcases Nat.eq_zero_or_pos k with hk | hk
    ·subst hk
     have : a * f - b * e = 0 := by unfold Lb at hl; rw [Nat.pow_zero] at hl; omega
     rw [this]; exact bO (by decide) (by omega)
    ·exact Lb.add (e := 2 * k) (bO (by decide) (by omega)) ((hl.mul hl).mono (by omega))
   exact (Lb.add (l1) ((he.mul he).mono (by omega))).le (by omega) |>.mono (by omega)
  have hb' : Lb (2 * k + 3) b := hb.mono (by omega)
  have he' : Lb (2 * k + 3) e := he.mono (by omega)
  match i, j, hi, hj with
  | 0, 0, _, _ => exact sm _ (by omega)
  | 0, 1, _, _ => rw [hN.hb']; exact hb'
  | 1, 0, _, _ => rw [hN.hb]; exact hb'
  | 1, 1, _, _ => rw [hN.hc]; exact hc
  | 0, 2, _, _ => rw [hN.he']; exact he'
  | 2, 0, _, _ => rw [hN.he]; exact he'
  | 1, 2, _, _ => rw [hN.hf']; exact hf
  | 2, 1, _, _ => rw [hN.hf]; exact hf
  | 2, 2, _, _ => rw [hN.hg]; exact hg
theorem wi (h : G3 n H k) : meas n H ≤ 5839 := by
 have hn := h.hn
 have o1 := dX H 1 0
 have o2 := dX H 2 1
 have o3 := dX H 2 0
 obtain rfl | rfl | rfl : n = 1 ∨ n = 2 ∨ n = 3 := by omega
 ·show 0 ≤ _; omega
 ·have := h.b1; rw [iI]; omega
 ·have h1 := h.b1; have h2 := h.b2 (by omega); have h3 := h.pos 2 (by omega); have h4 := h.pos 1 (by omega)
  have := Int.mul_le_mul h1 h2 (Int.le_of_lt h3) (by decide : (0 : Int) ≤ 9)
  rw [dj]; omega
structure Rd (n : Nat) (H : Mat) : Prop where
 hn : 1 ≤ n ∧ n ≤ 3
 sym : ∀ i j, i < n → j < n → H i j = H j i
 pos : ∀ k, k ≤ n → 0 < det k H
 b1 : det 1 H ≤ 9
 b2 : 2 ≤ n → det 2 H ≤ 81
 b3 : 3 ≤ n → det 3 H ≤ 729
 ok : Ahead H n
 ent : ∀ i j, i < n → j < n → (H i j).natAbs ≤ 7000
theorem G3.rd (h : G3 n H k) (hr : Ahead H n) : Rd n H := by
 refine ⟨h.hn, h.sym, h.pos, h.b1, h.b2, h.b3, hr, fun i j hi hj => ?_⟩
 have hn := h.hn
 have h1 := h.d1
 obtain rfl | rfl | rfl : n = 1 ∨ n = 2 ∨ n = 3 := by omega
 ·obtain ⟨rfl, rfl⟩ : i = 0 ∧ j = 0 := by omega
  omega
 ·obtain ⟨a, b, c, hN, ha, ha9, h2, h281, hb⟩ := h.n2
  have s10 := hN.s10.1 ((hr 1 (by omega)).1 0 (by omega))
  have hsq := sq_nn b
  have hb2 := sq_le (x := b) (k := 4) (by omega)
  have hcp := jN ha (c := c) (by omega)
  have : c ≤ a * c := by have := Int.mul_le_mul_of_nonneg_right (show (1 : Int) ≤ a by omega) (Int.le_of_lt hcp); omega
  match i, j, hi, hj with
  | 0, 0, _, _ => omega
  | 0, 1, _, _ => rw [hN.hb']; omega
  | 1, 0, _, _ => rw [hN.hb]; omega
  | 1, 1, _, _ => rw [hN.hc]; omega
 ·obtain ⟨a, b, c, e, f, g, hN, ha, ha9, h2, h281, h3, h3b, hb, he, hl⟩ := h.n3
  have s10 := hN.s10.1 ((hr 1 (by omega)).1 0 (by omega))
  have s20 := hN.s20.1 ((hr 2 (by omega)).1 0 (by omega))
  have s21 := hN.s21.1 ((hr 2 (by omega)).1 1 (by omega))
  have hsq := sq_nn b
  have hsq2 := sq_nn e
  have hb2 := sq_le (x := b) (k := 4) (by omega)
  have he2 := sq_le (x := e) (k := 4) (by omega)
  have hcp := jN ha (c := c) (by omega)
  have h4 : c ≤ a * c := by have := Int.mul_le_mul_of_nonneg_right (show (1 : Int) ≤ a by omega) (Int.le_of_lt hcp); omega
  have hf := ju ha (x := f) (y := (a * f - b * e) + b * e) (by omega)
  have hbe : (b * e).natAbs ≤ 4 * 4 := cB (by omega) (by omega)
  have hs := vZ a b c e f g
  have hF := k7 ha h2 h3
  have hgp := jN ha (c := g) (by omega)
  have h5 : g ≤ a * g := by have := Int.mul_le_mul_of_nonneg_right (show (1 : Int) ≤ a by omega) (Int.le_of_lt hgp); omega
  have h6 : a * g - e * e ≤ (a * c - b * b) * (a * g - e * e) / (a * c - b * b) := by rw [Int.mul_ediv_cancel_left _ (by omega)]; exact Int.le_refl _
  have hg : g ≤ 6900 := by
   have hl2 := sq_le (x := a * f - b * e) (k := 40) (by omega)
   have h7 : a * d3x a b c e f g ≤ 9 * 729 := by
    have := Int.mul_le_mul ha9 h3b (Int.le_of_lt h3) (by decide : (0 : Int) ≤ 9)
    omega
   rcases Int.lt_or_le (a * g - e * e) 6800 with h | h
   ·omega
   ·exfalso
    have h8 := Int.mul_le_mul_of_nonneg_left h (Int.le_of_lt h2)
    have h9 : 4 * ((a * f - b * e) * (a * f - b * e)) ≤ (a * c - b * b) * (a * c - b * b) := by
     have e1 : 4 * ((a * f - b * e) * (a * f - b * e)) = (2 * (a * f - b * e)) * (2 * (a * f - b * e)) := by grind
     have e2 : (2 * (a * f - b * e)).natAbs ≤ (a * c - b * b).natAbs := by omega
     have := cB e2 e2
     have e3 : (((a * c - b * b).natAbs * (a * c - b * b).natAbs : Nat) : Int) = (a * c - b * b) * (a * c - b * b) := by
      rw [← Int.natAbs_mul]; exact Int.natAbs_of_nonneg (sq_nn _)
     omega
    have h10 := Int.mul_le_mul_of_nonneg_left h281 (Int.le_of_lt h2)
    omega
  match i, j, hi, hj with
  | 0, 0, _, _ => omega
  | 0, 1, _, _ => rw [hN.hb']; omega
  | 1, 0, _, _ => rw [hN.hb]; omega
  | 1, 1, _, _ => rw [hN.hc]; omega
  | 0, 2, _, _ => rw [hN.he']; omega
  | 2, 0, _, _ => rw [hN.he]; omega
  | 1, 2, _, _ => rw [hN.hf']; omega
  | 2, 1, _, _ => rw [hN.hf]; omega
  | 2, 2, _, _ => rw [hN.hg]; omega
end
theorem G3.start {n : Nat} {H : Mat} (hn : 1 ≤ n ∧ n ≤ 3) (hs : ∀ i j, i < n → j < n → H i j = H j i) (hp : ∀ k, k ≤ n → 0 < det k H) (hd : ∀ i, i < n → 1 ≤ H i i ∧ H i i ≤ 9) (ho : ∀ i j, j < i → i < n → (H i j).natAbs ≤ 2) : G3 n H 1 := by
 obtain rfl | rfl | rfl : n = 1 ∨ n = 2 ∨ n = 3 := by omega
 ·have := hd 0 (by omega)
  exact ⟨hn, hs, hp, by rw [eE]; omega, fun h => by omega, fun h => by omega, fun i j h1 h2 => by omega⟩
 ·have h0 := hd 0 (by omega); have h1 := hd 1 (by omega); have h10 := ho 1 0 (by omega) (by omega)
  have hN := N2.mk' hs
  have hp2 := hp 2 (by omega); rw [hN.d2] at hp2
  have := sq_nn (H 1 0)
  have := Int.mul_le_mul h0.2 h1.2 (by omega) (by decide : (0 : Int) ≤ 9)
  exact hN.g3 ⟨by omega, h0.2⟩ ⟨hp2, by omega⟩ (bO (by omega) (by omega))
 ·have h0 := hd 0 (by omega); have h1 := hd 1 (by omega); have h2 := hd 2 (by omega); have h10 := ho 1 0 (by omega) (by omega); have h20 := ho 2 0 (by omega) (by omega); have h21 := ho 2 1 (by omega) (by omega)
  have hN := N3.mk' hs
  have hp2 := hp 2 (by omega); rw [hN.d2] at hp2
  have hp3 := hp 3 (by omega); rw [hN.d3] at hp3
  have := sq_nn (H 1 0)
  have h4 := Int.mul_le_mul h0.2 h1.2 (by omega) (by decide : (0 : Int) ≤ 9)
  have hF := (k7 (a := H 0 0) (by omega) hp2 hp3).2
  have h5 : (H 0 0 * H 1 1 - H 1 0 * H 1 0) * H 2 2 ≤ 81 * 9 := Int.mul_le_mul (by omega) h2.2 (by omega) (by decide)
  have h6 : (H 0 0 * H 2 1).natAbs ≤ 9 * 2 := cB (by omega) h21
  have h7 : (H 1 0 * H 2 0).natAbs ≤ 2 * 2 := cB h10 h20
  exact hN.g3 ⟨by omega, h0.2⟩ ⟨hp2, by omega⟩ ⟨hp3, by omega⟩ (bO (by omega) (by omega)) (bO (by omega) (by omega)) (bO (by omega) (by omega))
end Go.LA
