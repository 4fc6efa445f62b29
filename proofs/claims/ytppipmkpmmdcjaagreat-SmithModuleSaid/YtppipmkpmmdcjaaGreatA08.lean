import Derived.Test.YtppipmkpmmdcjaaGreatA07
namespace Go.Proofs.YtppipmkpmmdcjaaGreat
open Go.W Go.LM Go.LA
def elm (F : Mat) (last : Int) (k i j : Nat) : Mat := fun a b => if k < b ∧ (k < a ∧ a < i ∨ a = i ∧ b < j) then (F k k * F a b - F a k * F k b) / last else F a b
theorem mu (F : Mat) (last : Int) (k : Nat) (a b : Nat) : elm F last k (k + 1) (k + 1) a b = F a b := by
 unfold elm; rw [if_neg (by omega)]
theorem p9 (F : Mat) (last : Int) {k i n : Nat} (hk : k < i) {a b : Nat} (hb : b < n) : elm F last k (i + 1) (k + 1) a b = elm F last k i n a b := by
 unfold elm
 by_cases h : k < b ∧ (k < a ∧ a < i ∨ a = i ∧ b < n)
 ·rw [if_pos h, if_pos (by omega)]
 ·rw [if_neg h, if_neg (by omega)]
theorem qa (F : Mat) (last : Int) {k i j : Nat} (hi : k < i) (hj : k < j) (a b : Nat) : setM (elm F last k i j) i j ((F k k * F i j - F i k * F k j) / last) a b = elm F last k i (j + 1) a b := by
 unfold setM elm
 by_cases h : a = i ∧ b = j
 ·obtain ⟨rfl, rfl⟩ := h
  rw [if_pos ⟨rfl, rfl⟩, if_pos (by omega)]
 ·rw [if_neg h]
  by_cases h' : k < b ∧ (k < a ∧ a < i ∨ a = i ∧ b < j)
  ·rw [if_pos h', if_pos (by omega)]
  ·rw [if_neg h', if_neg (by omega)]
theorem fx (F : Mat) (last : Int) {k i j a b : Nat} (h : ¬ (k < b ∧ (k < a ∧ a < i ∨ a = i ∧ b < j))) : elm F last k i j a b = F a b := if_neg h
theorem kh (F : Mat) (last : Int) {k n a b : Nat} (ha : k < a) (han : a < n) (hb : k < b) : elm F last k n (k + 1) a b = (F k k * F a b - F a k * F k b) / last := if_pos ⟨hb, .inl ⟨ha, han⟩⟩
set_option maxHeartbeats 4000000 in
theorem jx {cn : Bool} {K n cap : Nat} {w : World} {a : Option Addr} {s : Nat → SD} {A : Mat} (hM : MX cn K w a n n s A) (hn : 1 ≤ n ∧ n ≤ 16) (hK : 16 * K + 17 ≤ 4398046511104) :
  CallsR Tryz.prog 70 #[.slice a n cap] w (RetZ w (det n A)) := by
 refine aH (args := [_]) Tryz.func70 rfl rfl ?_
 refine aj ?_
 refine ah rfl ?_
 refine aB (fun g0 w0 hn0 => ⟨fun _ _ => trivial, ?_⟩)
 have hb0 : Blk w0 g0 33 (intL false none 0 0) := hn0.blk
 repeat' (first|refine et (n := n) rfl rfl (by omega) (by omega) (fun g w1 hn1 => ⟨fun _ _ => trivial, ?_⟩)|refine ai rfl ?_|refine aa ?_|refine aj ?_|refine ah rfl ?_|refine ae ?_|refine bh rfl ?_|refine aA ?_)
 have lo0 := hn0.lo
 have hi0 := hn0.hi
 have lo1 := hn1.lo
 have hE1 := hn0.ex.trans hn1.ex
 have s0 := hn0.ex.size
 have hne0 : g0 ≠ g := by omega
 refine aY (ι := Nat × (Nat → Nat) × (Nat → Nat)) [5, 6, 21, 22, 23, 24, 25, 26, 27, 28, 29, 30, 31, 32, 33, 34, 35, 36, 37] (fun t => [(21, .int .i64 (t.1 : Int))])
  (fun t w' => t.1 ≤ n ∧ Ex w0 w' ∧ MP false K w' w0.heap.size g n n t.1 t.2.1 t.2.2 A) (fun t => n - t.1)
  (0, fun _ => 0, fun _ => 0) ⟨rfl, trivial⟩ ⟨by omega, hn1.ex, MP.start hn1.blk hn1.lo⟩ ?_
 rintro ⟨i, gs, cp⟩ ξ w2 ⟨hi, hE2, hP2⟩
 simp only at hi hP2
 show CW _ _ _ _ (over [(21, .int .i64 (i : Int))] _) w2
 have hE02 := hn0.ex.trans hE2
 rcases Nat.lt_or_ge i n with hin | hin
 ·obtain ⟨p, d, hh, e1, e2, hp, hS, hEn⟩ := hM.get hin (by omega)
  have hpl := hM.plain (by omega)
  repeat' (first|refine bC rfl rfl (by omega) ?_|refine aC (j := i) (a := a) rfl rfl hpl (by omega) ?_|refine aU (j := i) (a := a) rfl ((hM.ext hE02).top) (by omega) e1 ?_|refine ep (n := n) rfl rfl (by omega) (by omega) (fun g3 w3 hn3 => ⟨fun _ _ => trivial, ?_⟩)|refine aC (j := i) (a := some ⟨g, 0, none⟩) rfl rfl ⟨_, _, rfl⟩ (by omega) ?_|refine ai rfl ?_|refine aa ?_|refine aj ?_|refine ah rfl ?_|refine ae ?_|refine aD rfl ?_|refine aA ?_|refine aF ?_)
  refine ci (j := i) (u := ⟨some ⟨g3, 0, none⟩, n, n⟩) rfl rfl (hP2.top.ext hn3.ex) (by omega) (fun w4 hc4 hT4 => ⟨fun _ _ => trivial, ?_⟩)
  have s2 := hE2.size
  obtain ⟨hb4, hne3, hT4', hnext⟩ := hP2.snoc hn3 hc4 hT4 (by have := hn3.lo; omega)
  have hE4 := (hE02.trans hn3.ex).chg hc4 (by omega)
  have hE04 := (hE2.trans hn3.ex).chg hc4 (by omega)
  repeat' (first|refine aC (j := i) (a := some ⟨g, 0, none⟩) rfl rfl ⟨_, _, rfl⟩ (by omega) ?_|refine aU (j := i) (a1 := some ⟨g3, 0, none⟩) (l1 := n) (c1 := n) rfl hT4'.sl (by omega) (by simp [setF]) ?_|refine ai rfl ?_|refine aa ?_|refine ah rfl ?_|refine ae ?_)
  refine kd (s := 2) rfl rfl hp hb4 (hS.ext hE4) (bW _ _) (by rw [bW, bW]; exact Nat.le_refl _) (kS _ _) (fun w5 hc5 hb5 => ⟨fun _ _ => trivial, ?_⟩)
  repeat' (first|refine ai rfl ?_|refine aa ?_|refine ah rfl ?_|refine ae ?_|refine aZ rfl rfl (by omega) (by omega) ?_|refine aK ?_)
  rw [List.drop_eq_nil_of_le (by rw [bW, bW]; exact Nat.le_refl _), List.append_nil] at hb5
  have hlo3 : w0.heap.size ≤ g3 := by have := hn3.lo; omega
  obtain ⟨hT5, hfin⟩ := hnext w5 (bG hc5)
  exact ⟨⟨(i + 1, _, _), ⟨hin, hE04.chg hc5 hlo3, hfin ⟨hlo3, Nat.le_refl _, hh, hb5, fun j hj => (((hEn j hj).ext hE4).gbN hb4 (bF _ _) (bG hc5)).weak'⟩⟩, by simp only; omega, rfl, trivial⟩, (by (repeat (first|exact aE _ _ _|refine aw rfl ?_|refine au rfl ?_|refine ak rfl ?_|refine ao rfl ?_)))⟩
 ·have ein : n = i := by omega
  subst ein
  have hO2 := hP2.fin
  repeat' (first|refine bA rfl rfl (by omega) ?_|refine ai rfl ?_|refine aa ?_|refine aj ?_|refine ah rfl ?_|refine ae ?_|refine ay rfl ?_|refine aV ?_|refine aL ?_|refine aW ?_)
  refine av (cG (z := 1) (by omega) (by omega) _) rfl ?_
  rintro v w3 ⟨hI3, hE3⟩
  refine ⟨fun _ _ => trivial, ?_⟩
  obtain ⟨x3, rfl⟩ := hI3.ih
  refine aB (fun g4 w4 hn4 => ⟨fun _ _ => trivial, ?_⟩)
  have hb4 : Blk w4 g4 33 (intL false none 0 0) := hn4.blk
  refine ax (n := 2) (vs := x3.cells) rfl rfl rfl rfl hb4 rfl (fun w5 hc5 hb5 => ⟨fun _ _ => trivial, ?_⟩)
  have s2 := hE2.size
  have s3 := hE3.size
  have s4 := hn4.ex.size
  have l4 := hn4.lo
  have hE5 : Ex w0 w5 := ((hE2.trans hE3).trans hn4.ex).chg hc5 (by omega)
  have hO5 := (((hO2.ext hE3).ext hn4.ex).gbN hb4 (aI _ _ _ _) (bG hc5) (by have := hO2.lt; omega) (fun k hk => by have := (hO2.row k hk).lt; omega)).up (K' := 16 * K + 17) (by omega)
  have hx5 : Ent false (16 * K + 17) w5 x3.val 1 := ((Ent.of hI3 (bM (e := 16 * K + 17) (by decide) (by omega))).ext hn4.ex).gbN hb4 (aI _ _ _ _) (bG hc5)
  have hg4 : ∀ k, k < n → gs k ≠ g4 := fun k hk => by have := (hO2.row k hk).lt; omega
  have hb05 : Blk w5 g0 33 (intL false none 0 0) := hb0.ext hE5
  have hAlb : ∀ r c, r < n → c < n → Lb K (A r c) := fun r c hr hc => hM.lb hr hc
  have hB5 : BdJ n A 0 1 A 1 := mq n (fun _ _ _ _ => rfl)
  have hgg4 : g4 ≠ g := by have := hO2.lt; omega
  have hlo4 : w0.heap.size ≤ g4 := by omega
  clear hO2 hc5 hn4 hI3 hP2
  repeat' (first|refine ai rfl ?_|refine aa ?_|refine aj ?_|refine ah rfl ?_|refine ae ?_|refine aA ?_)
  refine aY (ι := Nat × Mat × (Nat → Nat) × (Nat → Nat) × Bool × IH × Int) [7, 9, 10, 11, 12, 13, 14, 40, 41, 42, 43, 44, 45, 46, 47, 48, 49, 50, 51, 52, 53, 54, 55, 56, 57, 58, 59, 60, 61, 62, 63, 64, 65, 66, 67, 68, 69, 70, 71, 72, 73, 74, 75, 76, 77, 78, 79, 80, 81, 82, 83, 84, 85, 86, 87, 88, 89, 90, 91, 92, 93, 94, 95, 96, 97, 98, 99, 100, 101, 102, 103, 104, 105, 106, 107, 108, 109, 110, 111, 112, 113, 114, 115, 116, 117, 118, 119, 120, 121, 122, 123, 124, 125, 126, 127, 128, 129, 130, 131, 132, 133, 134, 135, 136, 137, 138, 139, 140, 141, 142, 143] (fun t => [(40, .int .i64 (t.1 : Int)), (7, .bool t.2.2.2.2.1)])
   (fun t w' => t.1 ≤ n ∧ Ex w0 w' ∧ MO false (16 * K + 17) w' w0.heap.size g n n t.2.2.1 t.2.2.2.1 t.2.1 ∧ (∀ k, k < n → t.2.2.1 k ≠ g4) ∧ Blk w' g4 33 t.2.2.2.2.2.1.cells ∧ Ent false (16 * K + 17) w' t.2.2.2.2.2.1.val t.2.2.2.2.2.2 ∧ BdJ n A t.1 (if t.2.2.2.2.1 then -1 else 1) t.2.1 t.2.2.2.2.2.2) (fun t => n - t.1)
   (0, A, gs, cp, false, x3, 1) ⟨rfl, rfl, trivial⟩ ⟨by omega, hE5, hO5, hg4, by assumption, hx5, hB5⟩ ?_
  clear hE5 hO5 hg4 hx5 hB5
  rintro ⟨k, F, gs, cp, neg, x, last⟩ ξ2 w6 ⟨hk, hE6, hO6, hg4, hx6, hxe, hB⟩
  simp only at hk hO6 hg4 hx6 hxe hB
  show CW _ _ _ _ (over [(40, .int .i64 (k : Int)), (7, .bool neg)] _) w6
  have hb06 : Blk w6 g0 33 (intL false none 0 0) := hb0.ext hE6
  have hE06 := hn0.ex.trans hE6
  rcases Nat.lt_or_ge k n with hkn | hkn
  ·repeat' (first|refine bC rfl rfl (by omega) ?_|refine aa ?_|refine aj ?_|refine ah rfl ?_|refine ae ?_|refine aD rfl ?_|refine aF ?_)
   refine aA ?_
   repeat' (first|refine ai rfl ?_|refine aa ?_|refine aj ?_|refine ah rfl ?_|refine ae ?_)
   refine cD (ι := Nat) [10, 44, 45, 46, 47, 48, 49, 50, 51, 52, 53, 54, 55, 56, 57, 58, 59] (fun p => [(10, .int .i64 (p : Int))])
    (fun p w' => Ex w6 w' ∧ k ≤ p ∧ p ≤ n ∧ (∀ q, k ≤ q → q < p → F q k = 0) ∧ (p < n → F p k ≠ 0)) ?_ ?_
   ·refine aA ?_
    refine aY (ι := Nat) [10, 44, 45, 46, 47, 48, 49, 50, 51, 52, 53, 54, 55, 56, 57, 58, 59] (fun p => [(10, .int .i64 (p : Int))]) (fun p w' => Ex w6 w' ∧ k ≤ p ∧ p ≤ n ∧ (∀ q, k ≤ q → q < p → F q k = 0)) (fun p => n - p)
     k ⟨rfl, trivial⟩ ⟨Ex.refl _, Nat.le_refl _, hk, fun q h1 h2 => by omega⟩ ?_
    rintro p ξ3 w7 ⟨hE7, hkp, hpn, hz⟩
    show CW _ _ _ _ (over [(10, .int .i64 (p : Int))] _) w7
    rcases Nat.lt_or_ge p n with hp | hp
    ·obtain ⟨hh, hbp, hcp, hEp⟩ := (hO6.ext hE7).get hp
     repeat' (first|refine bC rfl rfl (by omega) ?_|refine aC (j := p) (a := some ⟨g, 0, none⟩) rfl rfl ⟨_, _, rfl⟩ (by omega) ?_|refine aU (j := p) (a := some ⟨g, 0, none⟩) (n := n) (s := fun k => ⟨some ⟨gs k, 0, none⟩, n, cp k⟩) rfl (hO6.ext hE7).top.sl (by omega) rfl ?_|refine aT (j := k) (a := some ⟨gs p, 0, none⟩) rfl rfl ⟨_, _, rfl⟩ (by omega) ?_|refine bu (j := k) (a := some ⟨gs p, 0, none⟩) rfl hbp.sl ⟨_, _, rfl⟩ (by omega) ?_|refine ai rfl ?_|refine aj ?_|refine ah rfl ?_|refine bR rfl rfl ?_)
     refine av (bP (hEp k (by omega)).k) rfl ?_
     rintro v w8 ⟨rfl, hE8⟩
     refine ⟨fun _ _ => trivial, ?_⟩
     repeat' (first|refine ai rfl ?_|refine aa ?_|refine ah rfl ?_|refine ae ?_|refine bR rfl rfl ?_|refine aZ rfl rfl (by omega) (by omega) ?_|refine aP rfl (fun hc => ?_) (fun hc => ?_)|refine aA ?_|refine aV ?_|refine aL ?_|refine aW ?_|refine aK ?_|refine aF ?_)
     ·refine ⟨⟨p + 1, ⟨hE7.trans hE8, by omega, hp, fun q h1 h2 => ?_⟩, by omega, rfl, trivial⟩, (by (repeat (first|exact aE _ _ _|refine aw rfl ?_|refine au rfl ?_|refine ak rfl ?_|refine ao rfl ?_)))⟩
      by_cases hqp : q = p
      ·subst hqp; exact Int.sign_eq_zero_iff_zero.1 (by assumption)
      ·exact hz q h1 (by omega)
     ·exact ⟨⟨p, ⟨hE7.trans hE8, hkp, hpn, hz, fun _ e => absurd (show (F p k).sign = 0 by rw [e]; rfl) (by assumption)⟩, rfl, trivial⟩, (by (repeat (first|exact aM _ _|refine aw rfl ?_|refine au rfl ?_|refine ak rfl ?_|refine ao rfl ?_)))⟩
    ·repeat' (first|refine bA rfl rfl (by omega) ?_|refine ai rfl ?_|refine aa ?_|refine aj ?_|refine ah rfl ?_|refine ae ?_|refine cB rfl rfl ?_|refine ay rfl ?_|refine aV ?_|refine aL ?_|refine aW ?_)
     exact ⟨⟨p, ⟨hE7, hkp, hpn, hz, fun h => by omega⟩, rfl, trivial⟩, (by (repeat (first|exact aM _ _|refine aw rfl ?_|refine au rfl ?_|refine ak rfl ?_|refine ao rfl ?_)))⟩
   ·rintro p ξ3 w7 ⟨hE7, hkp, hpn, hz, hnz⟩
    show CW _ _ _ _ (over [(10, .int .i64 (p : Int))] _) w7
    rcases Nat.lt_or_ge p n with hp | hp
    ·have hOp := hO6.ext hE7
     have hOk := hO6.ext hE7
     repeat' (first|refine gq rfl rfl (by omega) ?_|refine ai rfl ?_|refine aa ?_|refine aj ?_|refine ah rfl ?_|refine ae ?_)
     refine ay rfl ?_
     repeat' (first|refine ai rfl ?_|refine aa ?_|refine aj ?_|refine ah rfl ?_|refine ae ?_|refine aF ?_)
     refine cD (ι := Mat × (Nat → Nat) × (Nat → Nat) × Bool) [7, 67, 68, 69, 70, 71, 72, 73, 74, 75, 76, 77, 78, 79, 80, 81, 82] (fun t => [(7, .bool t.2.2.2)])
      (fun t w' => Ex w0 w' ∧ MO false (16 * K + 17) w' w0.heap.size g n n t.2.1 t.2.2.1 t.1 ∧ (∀ k, k < n → t.2.1 k ≠ g4) ∧ Blk w' g4 33 x.cells ∧ Ent false (16 * K + 17) w' x.val last ∧ BdJ n A k (if t.2.2.2 then -1 else 1) t.1 last ∧ t.1 k k ≠ 0) ?_ ?_
     ·repeat' (first|refine aa ?_|refine aj ?_|refine aP rfl (fun hc => ?_) (fun hc => ?_)|refine aF ?_)
      ·refine bi (late := [13, 15]) (plan := [(0, none), (1, none), (2, none), (3, none), (4, none), (5, none), (6, none), (7, none), (8, none), (9, none), (10, none), (11, none), (12, none), (13, some false), (14, none), (15, some false)]) (fun w' => Ex w7 w') bB (by kernel_rfl) (Ex.refl w7).drew ?_
       have hOp := hO6.ext (hE7.drew)
       repeat' (first|refine aC (j := k) (a := some ⟨g, 0, none⟩) rfl rfl ⟨_, _, rfl⟩ (by omega) ?_|refine aC (j := p) (a := some ⟨g, 0, none⟩) rfl rfl ⟨_, _, rfl⟩ (by omega) ?_|refine aU (j := p) (a := some ⟨g, 0, none⟩) (n := n) (s := fun k => ⟨some ⟨gs k, 0, none⟩, n, cp k⟩) rfl (fun _ h => (hOk.ext h).top.sl) (by omega) rfl ?_|refine aU (j := k) (a := some ⟨g, 0, none⟩) (n := n) (s := fun k => ⟨some ⟨gs k, 0, none⟩, n, cp k⟩) rfl (fun _ h => (hOk.ext h).top.sl) (by omega) rfl ?_|refine ai rfl ?_)
       refine ci (j := k) (u := ⟨some ⟨gs p, 0, none⟩, n, cp p⟩) rfl rfl hOp.top (by omega) (fun w8 hc8 hT8 => ⟨fun h => (nomatch h), ?_⟩)
       repeat' (first|refine aC (j := p) (a := some ⟨g, 0, none⟩) rfl rfl ⟨_, _, rfl⟩ (by omega) ?_)
       refine ci (j := p) (u := ⟨some ⟨gs k, 0, none⟩, n, cp k⟩) rfl rfl hT8 (by omega) (fun w9 hc9 hT9 => ⟨fun h => (nomatch h), ?_⟩)
       repeat' (first|refine ai rfl ?_|refine aa ?_|refine ah rfl ?_|refine ae ?_)
       have hkp' : k < p := by omega
       have hsw := hOp.swap hkn hp hc8 hc9 hT9
       have hx9 := ((hx6.ext hE7.drew).chg hc8 hgg4).chg hc9 hgg4
       have hxe9 := ((hxe.ext hE7.drew).gbN hOp.top (bZ _ _) (bG hc8)).gbN hT8 (bZ _ _) (bG hc9)
       have hE9 := ((hE6.trans hE7.drew).chg hc8 (by omega)).chg hc9 (by omega)
       have hBs := hB.swap (W' := fun a => F (swp2 k p a)) hkp' hp (fun i j _ _ => rfl)
       refine ⟨⟨(fun a => F (swp2 k p a), fun a => gs (swp2 k p a), fun a => cp (swp2 k p a), !neg), ⟨hE9, hsw, fun m hm => hg4 _ (du hkn hp hm), hx9, hxe9, ?_, ?_⟩, rfl, trivial⟩, (by (repeat (first|exact aM _ _|refine aw rfl ?_|refine au rfl ?_|refine ak rfl ?_|refine ao rfl ?_)))⟩
       ·have e : (-(if neg = true then -1 else 1) : Int) = if (!neg) = true then -1 else 1 := by cases neg <;> rfl
        rw [← e]; exact hBs
       ·show F (swp2 k p k) k ≠ 0
        rw [show swp2 k p k = p by simp [swp2]]; exact hnz hp
      ·have e : p = k := by omega
       subst e
       exact ⟨⟨(F, gs, cp, neg), ⟨hE6.trans hE7, hO6.ext hE7, hg4, hx6.ext hE7, hxe.ext hE7, hB, hnz hp⟩, rfl, trivial⟩, (by (repeat (first|exact aM _ _|refine aw rfl ?_|refine au rfl ?_|refine ak rfl ?_|refine ao rfl ?_)))⟩
     ·clear hOp hOk hnz hz hO6 hg4 hx6 hxe hB hb06 hE06
      rintro ⟨F, gs, cp, neg⟩ ξ4 w8 ⟨hE8, hO8, hg4, hx8, hxe8, hB, hnz⟩
      simp only at hO8 hg4 hB hnz
      show CW _ _ _ _ (over [(7, .bool neg)] _) w8
      obtain ⟨hh, hbk, hck, hEk⟩ := hO8.get hkn
      repeat' (first|refine aC (j := k) (a := some ⟨g, 0, none⟩) rfl rfl ⟨_, _, rfl⟩ (by omega) ?_|refine aU (j := k) (a := some ⟨g, 0, none⟩) (n := n) (s := fun k => ⟨some ⟨gs k, 0, none⟩, n, cp k⟩) rfl hO8.top.sl (by omega) rfl ?_|refine aT (j := k) (a := some ⟨gs k, 0, none⟩) rfl rfl ⟨_, _, rfl⟩ (by omega) ?_|refine bu (j := k) (a := some ⟨gs k, 0, none⟩) rfl hbk.sl ⟨_, _, rfl⟩ (by omega) ?_|refine ai rfl ?_|refine aj ?_|refine ah rfl ?_)
      refine aB (fun g9 w9 hn9 => ⟨fun _ _ => trivial, ?_⟩)
      have hb9 : Blk w9 g9 33 (intL false none 0 0) := hn9.blk
      refine ax (n := 2) (vs := (hh k).cells) rfl rfl rfl rfl hb9 rfl (fun w10 hc10 hb10 => ⟨fun _ _ => trivial, ?_⟩)
      have s8 := hE8.size
      have s9 := hn9.ex.size
      have l9 := hn9.lo
      have hlo9 : w0.heap.size ≤ g9 := by omega
      have hg9 : ∀ m, m < n → gs m ≠ g9 := fun m hm => by have := (hO8.row m hm).lt; omega
      have hg9' : g ≠ g9 := by have := hO8.lt; omega
      have h49 : g4 ≠ g9 := by have := hx8.lt; omega
      have hO10 := (hO8.ext hn9.ex).gbN hb9 (aI _ _ _ _) (bG hc10) hg9' hg9
      have hE10 := (hE8.trans hn9.ex).chg hc10 hlo9
      have hx10 := (hx8.ext hn9.ex).chg hc10 h49
      have hxe10 := (hxe8.ext hn9.ex).gbN hb9 (aI _ _ _ _) (bG hc10)
      have hpe10 := ((hEk k hkn).ext hn9.ex).gbN hb9 (aI _ _ _ _) (bG hc10)
      generalize hh k = px at *
      clear hh hbk hck hEk hn9 hc10 hb9 hO8 hE8 hx8 hxe8
      have hstep := hB.step (W' := elm F last k n (k + 1)) hkn hnz (fun i j h1 h2 h3 h4 => kh F last h1 h2 h3)
      have hlbs := (BdJ.lb hstep hAlb hn.2).1
      have hl0 := hB.ne
      repeat' (first|refine aZ rfl rfl (by omega) (by omega) ?_|refine ai rfl ?_|refine aa ?_|refine aj ?_|refine ah rfl ?_|refine ae ?_|refine aA ?_)
      refine aY (ι := Nat) [12, 13, 14, 92, 93, 94, 95, 96, 97, 98, 99, 100, 101, 102, 103, 104, 105, 106, 107, 108, 109, 110, 111, 112, 113, 114, 115, 116, 117, 118, 119, 120, 121, 122, 123, 124, 125, 126, 127, 128, 129, 130, 131, 132, 133, 134, 135, 136, 137, 138, 139, 140, 141] (fun i => [(12, .int .i64 (i : Int))])
       (fun i w' => k + 1 ≤ i ∧ i ≤ n ∧ Ex w0 w' ∧ MO false (16 * K + 17) w' w0.heap.size g n n gs cp (elm F last k i (k + 1)) ∧ Blk w' g4 33 x.cells ∧ Ent false (16 * K + 17) w' x.val last ∧ Blk w' g9 33 px.cells ∧ Ent false (16 * K + 17) w' px.val (F k k)) (fun i => n - i)
       (k + 1) ⟨by show Value.int .i64 ((k : Int) + 1) = _; norm_cast, trivial⟩ ⟨Nat.le_refl _, hkn, hE10, hO10.congr (fun a b _ _ => mu F last k a b), hx10, hxe10, hb10, hpe10⟩ ?_
      clear hO10 hx10 hxe10 hb10 hpe10 hE10
      rintro i ξ5 w11 ⟨hki, hin, hE11, hO11, hx11, hxe11, hp11, hpe11⟩
      show CW _ _ _ _ (over [(12, .int .i64 (i : Int))] _) w11
      rcases Nat.lt_or_ge i n with hi | hi
      ·repeat' (first|refine bC rfl rfl (by omega) ?_|refine aZ rfl rfl (by omega) (by omega) ?_|refine ai rfl ?_|refine aa ?_|refine aj ?_|refine ah rfl ?_|refine ae ?_|refine aD rfl ?_|refine aA ?_|refine aF ?_)
       refine aY (ι := Nat) [13, 14, 99, 100, 101, 102, 103, 104, 105, 106, 107, 108, 109, 110, 111, 112, 113, 114, 115, 116, 117, 118, 119, 120, 121, 122, 123, 124, 125, 126, 127, 128, 129, 130, 131, 132, 133, 134, 135, 136, 137, 138, 139, 140, 141] (fun j => [(13, .int .i64 (j : Int))])
        (fun j w' => k + 1 ≤ j ∧ j ≤ n ∧ Ex w0 w' ∧ MO false (16 * K + 17) w' w0.heap.size g n n gs cp (elm F last k i j) ∧ Blk w' g4 33 x.cells ∧ Ent false (16 * K + 17) w' x.val last ∧ Blk w' g9 33 px.cells ∧ Ent false (16 * K + 17) w' px.val (F k k)) (fun j => n - j)
        (k + 1) ⟨by show Value.int .i64 ((k : Int) + 1) = _; norm_cast, trivial⟩ ⟨Nat.le_refl _, hkn, hE11, hO11, hx11, hxe11, hp11, hpe11⟩ ?_
       clear hO11 hx11 hxe11 hp11 hpe11 hE11
       rintro j ξ6 w12 ⟨hkj, hjn, hE12, hO12, hx12, hxe12, hp12, hpe12⟩
       show CW _ _ _ _ (over [(13, .int .i64 (j : Int))] _) w12
       rcases Nat.lt_or_ge j n with hj | hj
       ·obtain ⟨hi', hbi, hci, hEi⟩ := hO12.get hi
        obtain ⟨hk', hbk, hck, hEk⟩ := hO12.get hkn
        have hki' : k < i := by omega
        have hkj' : k < j := by omega
        have e1 := fx F last (k := k) (i := i) (j := j) (a := i) (b := j) (by omega)
        have e2 := fx F last (k := k) (i := i) (j := j) (a := i) (b := k) (by omega)
        have e3 := fx F last (k := k) (i := i) (j := j) (a := k) (b := j) (by omega)
        have n1 : Ent false (16 * K + 17) w12 (hi' j).val (F i j) := by rw [← e1]; exact hEi j hj
        have n2 : Ent false (16 * K + 17) w12 (hi' k).val (F i k) := by rw [← e2]; exact hEi k hkn
        have n3 : Ent false (16 * K + 17) w12 (hk' j).val (F k j) := by rw [← e3]; exact hEk j hj
        repeat' (first|refine bC rfl rfl (by omega) ?_|refine ai rfl ?_|refine aa ?_|refine aj ?_|refine ah rfl ?_|refine ae ?_|refine aD rfl ?_|refine aF ?_)
        refine aA ?_
        refine aj ?_
        have b1 := hpe12.lb.mul n1.lb
        have b2 := n2.lb.mul n3.lb
        have b3 := b1.sub b2
        refine cD (ι := Nat × IH) [14, 104, 105, 106, 107, 108, 109, 110, 111, 112, 113, 114, 115, 116, 117, 118, 119, 120, 121, 122, 123, 124, 125, 126, 127, 128] (fun t => [(14, .pointer (some ⟨t.1, 0, none⟩))])
         (fun t w' => Ex w12 w' ∧ w12.heap.size ≤ t.1 ∧ Blk w' t.1 33 t.2.cells ∧ IntC 0 w' t.2.val (F k k * F i j - F i k * F k j)) ?_ ?_
        ·have hEx : Ex w12 w12.drew := (Ex.refl _).drew
         refine dN (fun w' => Ex w12 w') bB hEx ?_
         refine bp (fuel := 5) (by kernel_rfl) (by kernel_rfl) [0, 1, 2, 3, 4, 5, 6, 7, 9, 10, 11, 12, 13, 14, 15, 16, 17, 18, 19, 20, 21, 22] _ _ (by kernel_rfl) ?_
         repeat' (first|refine aN (g := g9) rfl (fun _ h => hp12.ext h) rfl ?_|refine aC (j := i) (a := some ⟨g, 0, none⟩) rfl rfl ⟨_, _, rfl⟩ (by omega) ?_|refine aC (j := k) (a := some ⟨g, 0, none⟩) rfl rfl ⟨_, _, rfl⟩ (by omega) ?_|refine aU (j := i) (a := some ⟨g, 0, none⟩) (n := n) (s := fun k => ⟨some ⟨gs k, 0, none⟩, n, cp k⟩) rfl (fun _ h => (hO12.ext h).top.sl) (by omega) rfl ?_|refine aU (j := k) (a := some ⟨g, 0, none⟩) (n := n) (s := fun k => ⟨some ⟨gs k, 0, none⟩, n, cp k⟩) rfl (fun _ h => (hO12.ext h).top.sl) (by omega) rfl ?_|refine aT (j := j) (a := some ⟨gs i, 0, none⟩) rfl rfl ⟨_, _, rfl⟩ (by omega) ?_|refine aT (j := k) (a := some ⟨gs i, 0, none⟩) rfl rfl ⟨_, _, rfl⟩ (by omega) ?_|refine aT (j := j) (a := some ⟨gs k, 0, none⟩) rfl rfl ⟨_, _, rfl⟩ (by omega) ?_|refine bu (j := j) (a := some ⟨gs i, 0, none⟩) rfl (fun _ h => (hbi.ext h).sl) ⟨_, _, rfl⟩ (by omega) ?_|refine bu (j := k) (a := some ⟨gs i, 0, none⟩) rfl (fun _ h => (hbi.ext h).sl) ⟨_, _, rfl⟩ (by omega) ?_|refine bu (j := j) (a := some ⟨gs k, 0, none⟩) rfl (fun _ h => (hbk.ext h).sl) ⟨_, _, rfl⟩ (by omega) ?_|refine ai rfl ?_|refine ae ?_)
         refine az (fuel := 4) (rs := [8, 25]) (by kernel_rfl) (by kernel_rfl) rfl ?_
         simp only [List.forall_mem_cons, List.not_mem_nil, false_implies, implies_true, and_true]
         refine ⟨?_, ?_⟩
         ·refine av (cK (hpe12.ext hEx).k (n1.ext hEx).k (by omega)) rfl ?_
          rintro v8 w8' ⟨hI8, hE8'⟩
          refine ⟨fun _ h => h.trans hE8', ?_⟩
          replace hEx := hEx.trans hE8'
          refine ae ?_
          refine az (fuel := 3) (rs := [23, 25]) (by kernel_rfl) (by kernel_rfl) rfl ?_
          simp only [List.forall_mem_cons, List.not_mem_nil, false_implies, implies_true, and_true]
          refine ⟨?_, ?_⟩
          ·refine av (cK (n2.ext hEx).k (n3.ext hEx).k (by omega)) rfl ?_
           rintro v23 w23 ⟨hI23, hE23⟩
           refine ⟨fun _ h => h.trans hE23, ?_⟩
           replace hI8 := hI8.ext hE23
           replace hEx := hEx.trans hE23
           refine ae ?_
           refine az (fuel := 2) (rs := [24, 25]) (by kernel_rfl) (by kernel_rfl) rfl ?_
           simp only [List.forall_mem_cons, List.not_mem_nil, false_implies, implies_true, and_true]
           refine ⟨?_, ?_⟩
           ·refine av (eh (hI8.k b1) (hI23.k b2) (by omega) (by omega)) rfl ?_
            rintro v24 w24 ⟨hI24, hE24⟩
            refine ⟨fun _ h => h.trans hE24, ?_⟩
            obtain ⟨y, rfl⟩ := hI24.ih
            replace hI24 := hI24.mono (Nat.zero_le _)
            replace hEx := hEx.trans hE24
            refine ae ?_
            refine az (fuel := 1) (rs := [25]) (by kernel_rfl) (by kernel_rfl) rfl ?_
            rw [List.forall_mem_singleton]
            refine aB (fun g25 w25 hn25 => ⟨fun _ h => h.trans hn25.ex, ?_⟩)
            have hb25 : Blk w25 g25 33 (intL false none 0 0) := hn25.blk
            have lo25 : w12.heap.size ≤ g25 := Nat.le_trans hEx.size hn25.lo
            replace hEx := hEx.trans hn25.ex
            replace hI24 := hI24.ext hn25.ex
            refine ae ?_
            refine az (fuel := 0) (rs := [26]) (by kernel_rfl) (by kernel_rfl) rfl ?_
            rw [List.forall_mem_singleton]
            refine ax (n := 2) (vs := y.cells) rfl rfl rfl rfl hb25 rfl (fun w26 hc26 hb26 => ⟨fun _ h => h.chg hc26 lo25, ?_⟩)
            replace hEx := hEx.chg hc26 lo25
            replace hI24 := hI24.gbN hb25 (aI _ _ _ _) (bG hc26)
            refine ae ?_
            refine bw (by kernel_rfl) ?_
            refine aa ?_
            exact ⟨⟨(_, y), ⟨hEx, lo25, hb26, hI24⟩, rfl, trivial⟩, (by (repeat (first|exact aM _ _|refine aw rfl ?_|refine au rfl ?_|refine ak rfl ?_|refine ao rfl ?_)))⟩
           ·refine aB (fun g25 w25 hn25 => ⟨fun _ h => h.trans hn25.ex, ?_⟩)
            have hb25 : Blk w25 g25 33 (intL false none 0 0) := hn25.blk
            have lo25 : w12.heap.size ≤ g25 := Nat.le_trans hEx.size hn25.lo
            replace hEx := hEx.trans hn25.ex
            replace hI8 := hI8.ext hn25.ex
            replace hI23 := hI23.ext hn25.ex
            refine ae ?_
            refine az (fuel := 1) (rs := [24]) (by kernel_rfl) (by kernel_rfl) rfl ?_
            rw [List.forall_mem_singleton]
            refine av (eh (hI8.k b1) (hI23.k b2) (by omega) (by omega)) rfl ?_
            rintro v24 w24 ⟨hI24, hE24⟩
            refine ⟨fun _ h => h.trans hE24, ?_⟩
            obtain ⟨y, rfl⟩ := hI24.ih
            replace hI24 := hI24.mono (Nat.zero_le _)
            replace hEx := hEx.trans hE24
            replace hb25 := hb25.ext hE24
            refine ae ?_
            refine az (fuel := 0) (rs := [26]) (by kernel_rfl) (by kernel_rfl) rfl ?_
            rw [List.forall_mem_singleton]
            refine ax (n := 2) (vs := y.cells) rfl rfl rfl rfl hb25 rfl (fun w26 hc26 hb26 => ⟨fun _ h => h.chg hc26 lo25, ?_⟩)
            replace hEx := hEx.chg hc26 lo25
            replace hI24 := hI24.gbN hb25 (aI _ _ _ _) (bG hc26)
            refine ae ?_
            refine bw (by kernel_rfl) ?_
            refine aa ?_
            exact ⟨⟨(_, y), ⟨hEx, lo25, hb26, hI24⟩, rfl, trivial⟩, (by (repeat (first|exact aM _ _|refine aw rfl ?_|refine au rfl ?_|refine ak rfl ?_|refine ao rfl ?_)))⟩
          ·refine aB (fun g25 w25 hn25 => ⟨fun _ h => h.trans hn25.ex, ?_⟩)
           have hb25 : Blk w25 g25 33 (intL false none 0 0) := hn25.blk
           have lo25 : w12.heap.size ≤ g25 := Nat.le_trans hEx.size hn25.lo
           replace hEx := hEx.trans hn25.ex
           replace hI8 := hI8.ext hn25.ex
           refine ae ?_
           refine az (fuel := 2) (rs := [23]) (by kernel_rfl) (by kernel_rfl) rfl ?_
           rw [List.forall_mem_singleton]
           refine av (cK (n2.ext hEx).k (n3.ext hEx).k (by omega)) rfl ?_
           rintro v23 w23 ⟨hI23, hE23⟩
           refine ⟨fun _ h => h.trans hE23, ?_⟩
           replace hI8 := hI8.ext hE23
           replace hEx := hEx.trans hE23
           replace hb25 := hb25.ext hE23
           refine ae ?_
           refine az (fuel := 1) (rs := [24]) (by kernel_rfl) (by kernel_rfl) rfl ?_
           rw [List.forall_mem_singleton]
           refine av (eh (hI8.k b1) (hI23.k b2) (by omega) (by omega)) rfl ?_
           rintro v24 w24 ⟨hI24, hE24⟩
           refine ⟨fun _ h => h.trans hE24, ?_⟩
           obtain ⟨y, rfl⟩ := hI24.ih
           replace hI24 := hI24.mono (Nat.zero_le _)
           replace hEx := hEx.trans hE24
           replace hb25 := hb25.ext hE24
           refine ae ?_
           refine az (fuel := 0) (rs := [26]) (by kernel_rfl) (by kernel_rfl) rfl ?_
           rw [List.forall_mem_singleton]
           refine ax (n := 2) (vs := y.cells) rfl rfl rfl rfl hb25 rfl (fun w26 hc26 hb26 => ⟨fun _ h => h.chg hc26 lo25, ?_⟩)
           replace hEx := hEx.chg hc26 lo25
           replace hI24 := hI24.gbN hb25 (aI _ _ _ _) (bG hc26)
           refine ae ?_
           refine bw (by kernel_rfl) ?_
           refine aa ?_
           exact ⟨⟨(_, y), ⟨hEx, lo25, hb26, hI24⟩, rfl, trivial⟩, (by (repeat (first|exact aM _ _|refine aw rfl ?_|refine au rfl ?_|refine ak rfl ?_|refine ao rfl ?_)))⟩
         ·refine aB (fun g25 w25 hn25 => ⟨fun _ h => h.trans hn25.ex, ?_⟩)
          have hb25 : Blk w25 g25 33 (intL false none 0 0) := hn25.blk
          have lo25 : w12.heap.size ≤ g25 := Nat.le_trans hEx.size hn25.lo
          replace hEx := hEx.trans hn25.ex
          refine ae ?_
          refine az (fuel := 3) (rs := [8]) (by kernel_rfl) (by kernel_rfl) rfl ?_
          rw [List.forall_mem_singleton]
          refine av (cK (hpe12.ext hEx).k (n1.ext hEx).k (by omega)) rfl ?_
          rintro v8 w8' ⟨hI8, hE8'⟩
          refine ⟨fun _ h => h.trans hE8', ?_⟩
          replace hEx := hEx.trans hE8'
          replace hb25 := hb25.ext hE8'
          refine ae ?_
          refine az (fuel := 2) (rs := [23]) (by kernel_rfl) (by kernel_rfl) rfl ?_
          rw [List.forall_mem_singleton]
          refine av (cK (n2.ext hEx).k (n3.ext hEx).k (by omega)) rfl ?_
          rintro v23 w23 ⟨hI23, hE23⟩
          refine ⟨fun _ h => h.trans hE23, ?_⟩
          replace hI8 := hI8.ext hE23
          replace hEx := hEx.trans hE23
          replace hb25 := hb25.ext hE23
          refine ae ?_
          refine az (fuel := 1) (rs := [24]) (by kernel_rfl) (by kernel_rfl) rfl ?_
          rw [List.forall_mem_singleton]
          refine av (eh (hI8.k b1) (hI23.k b2) (by omega) (by omega)) rfl ?_
          rintro v24 w24 ⟨hI24, hE24⟩
          refine ⟨fun _ h => h.trans hE24, ?_⟩
          obtain ⟨y, rfl⟩ := hI24.ih
          replace hI24 := hI24.mono (Nat.zero_le _)
          replace hEx := hEx.trans hE24
          replace hb25 := hb25.ext hE24
          refine ae ?_
          refine az (fuel := 0) (rs := [26]) (by kernel_rfl) (by kernel_rfl) rfl ?_
          rw [List.forall_mem_singleton]
          refine ax (n := 2) (vs := y.cells) rfl rfl rfl rfl hb25 rfl (fun w26 hc26 hb26 => ⟨fun _ h => h.chg hc26 lo25, ?_⟩)
          replace hEx := hEx.chg hc26 lo25
          replace hI24 := hI24.gbN hb25 (aI _ _ _ _) (bG hc26)
          refine ae ?_
          refine bw (by kernel_rfl) ?_
          refine aa ?_
          exact ⟨⟨(_, y), ⟨hEx, lo25, hb26, hI24⟩, rfl, trivial⟩, (by (repeat (first|exact aM _ _|refine aw rfl ?_|refine au rfl ?_|refine ak rfl ?_|refine ao rfl ?_)))⟩
        ·rintro ⟨gm, y⟩ ξ7 w13 ⟨hE13, hlm, hbm, hIm⟩
         simp only at hlm hbm hIm
         show CW _ _ _ _ (over [(14, .pointer (some ⟨gm, 0, none⟩))] _) w13
         have hO13 := hO12.ext hE13
         have hbi13 := hbi.ext hE13
         have hE0d : Ex w13 w13.drew := (Ex.refl _).drew
         refine bi (late := [13]) (plan := [(0, none), (1, none), (2, none), (3, none), (4, none), (5, none), (6, none), (7, some true), (8, none), (9, none), (10, none), (11, none), (12, none), (13, some false)]) (fun w' => Ex w13 w') bB (by kernel_rfl) hE0d ?_
         repeat' (first|refine aC (j := i) (a := some ⟨g, 0, none⟩) rfl rfl ⟨_, _, rfl⟩ (by omega) ?_|refine aU (j := i) (a := some ⟨g, 0, none⟩) (n := n) (s := fun k => ⟨some ⟨gs k, 0, none⟩, n, cp k⟩) rfl (fun _ h => (hO13.ext h).top.sl) (by omega) rfl ?_|refine aN (g := gm) rfl (fun _ h => hbm.ext h) rfl ?_|refine aN (g := g4) rfl (fun _ h => (hx12.ext hE13).ext h) rfl ?_|refine ai rfl ?_)
         refine av (bn ((hIm.ext hE0d).k b3) ((hxe12.ext hE13).ext hE0d).k (by omega) (by omega)) rfl ?_
         rintro v w14 ⟨q, r, rfl, hq, hr, hE14⟩
         refine ⟨fun _ h => h.trans hE14, ?_⟩
         obtain ⟨u, rfl⟩ := hq.ih
         have hE1314 := hE0d.trans hE14
         have hbi14 := hbi13.ext hE1314
         repeat' (first|refine aS rfl rfl ?_|refine aT (j := j) (a := some ⟨gs i, 0, none⟩) rfl rfl ⟨_, _, rfl⟩ (by omega) ?_|refine ai rfl ?_)
         refine ch (j := j) (u := u) rfl rfl hbi14 (by omega) (fun w15 hc15 hb15 => ⟨fun h => (nomatch h), ?_⟩)
         repeat' (first|refine ai rfl ?_|refine aa ?_|refine ah rfl ?_|refine ae ?_|refine aZ rfl rfl (by omega) (by omega) ?_|refine aK ?_)
         have hE1214 := hE13.trans hE1314
         have hu : Ent false (16 * K + 17) w14 u.val ((F k k * F i j - F i k * F k j) / last) := Ent.of hq (by
          have := hlbs i j (by omega) hi (by omega) hj
          rwa [kh F last (by omega) hi (by omega)] at this)
         have hput := (hO12.ext hE1214).put (j := j) hi hbi14 (fun m hm => (hEi m hm).ext hE1214) hu hc15 hb15
         have hgi4 := hg4 i hi
         have hgi9 := hg9 i hi
         have sE := hE12.size
         have hloi := (hO12.row i hi).low
         exact ⟨⟨j + 1, ⟨by omega, hj, (hE12.trans hE1214).chg hc15 hloi, hput.congr (fun a b _ _ => (qa F last hki' hkj' a b).symm), (hx12.ext hE1214).chg hc15 (Ne.symm hgi4), (hxe12.ext hE1214).gbN hbi14 (bF _ _) (bG hc15), (hp12.ext hE1214).chg hc15 (Ne.symm hgi9), (hpe12.ext hE1214).gbN hbi14 (bF _ _) (bG hc15)⟩, by omega, rfl, trivial⟩, (by (repeat (first|exact aE _ _ _|refine aw rfl ?_|refine au rfl ?_|refine ak rfl ?_|refine ao rfl ?_)))⟩
       ·have ejn : n = j := by omega
        subst ejn
        repeat' (first|refine bA rfl rfl (by omega) ?_|refine aZ rfl rfl (by omega) (by omega) ?_|refine ai rfl ?_|refine aa ?_|refine aj ?_|refine ah rfl ?_|refine ae ?_|refine ay rfl ?_|refine aV ?_|refine aL ?_|refine aW ?_|refine aK ?_)
        exact ⟨⟨i + 1, ⟨by omega, hi, hE12, hO12.congr (fun a b _ hb => p9 F last (by omega) hb), hx12, hxe12, hp12, hpe12⟩, by omega, rfl, trivial⟩, (by (repeat (first|exact aE _ _ _|refine aw rfl ?_|refine au rfl ?_|refine ak rfl ?_|refine ao rfl ?_)))⟩
      ·have ein : n = i := by omega
       subst ein
       repeat' (first|refine bA rfl rfl (by omega) ?_|refine aN (g := g9) rfl hp11 rfl ?_|refine ai rfl ?_|refine aa ?_|refine aj ?_|refine ah rfl ?_|refine ae ?_|refine ay rfl ?_|refine aV ?_|refine aL ?_|refine aW ?_)
       refine ax (n := 2) (vs := px.cells) rfl rfl rfl rfl hx11 rfl (fun w12 hc12 hb12 => ⟨fun _ _ => trivial, ?_⟩)
       repeat' (first|refine ai rfl ?_|refine aa ?_|refine ah rfl ?_|refine ae ?_|refine aZ rfl rfl (by omega) (by omega) ?_|refine aK ?_)
       exact ⟨⟨(k + 1, elm F last k n (k + 1), gs, cp, neg, px, F k k), ⟨hkn, hE11.chg hc12 hlo4, hO11.gbN hx11 (aI _ _ _ _) (bG hc12) (Ne.symm hgg4) hg4, hg4, hb12, hpe11.gbN hx11 (aI _ _ _ _) (bG hc12), hstep⟩, by simp only; omega, rfl, rfl, trivial⟩, (by (repeat (first|exact aE _ _ _|refine aw rfl ?_|refine au rfl ?_|refine ak rfl ?_|refine ao rfl ?_)))⟩
    ·obtain rfl : p = n := by omega
     repeat' (first|refine jJ rfl rfl rfl ?_|refine cL (cs := intL false none 0 0) rfl ?_|refine ai rfl ?_|refine aa ?_|refine aj ?_|refine ah rfl ?_|refine ae ?_|refine aD rfl ?_)
     refine ax (n := 2) (vs := ih0.cells) rfl rfl rfl rfl (hb06.ext hE7) rfl (fun w8 hc8 hb8 => ⟨fun _ _ => trivial, ?_⟩)
     repeat' (first|refine aa ?_|refine ae ?_|refine aR ?_|refine bv ?_|refine cN ?_)
     have hd : det p A = 0 := hB.none hkn (fun i h1 h2 => hz i h1 h2)
     refine bK rfl (rc rfl rfl hb8) ⟨?_, (hE06.trans hE7).chg hc8 hn0.lo⟩
     rw [hd]
     exact ms _ _
  ·have ekn : n = k := by omega
   subst ekn
   have hdet : det n A = (if neg = true then -1 else 1) * last := hB.fin
   rcases Bool.eq_false_or_eq_true neg with rfl | rfl
   ·repeat' (first|refine bA rfl rfl (by omega) ?_|refine aN (g := g4) rfl hx6 rfl ?_|refine ai rfl ?_|refine aa ?_|refine aj ?_|refine ah rfl ?_|refine ae ?_|refine aD rfl ?_|refine ay rfl ?_|refine aV ?_|refine aL ?_|refine aW ?_)
    refine av (dy hxe.k) rfl ?_
    rintro v w7 ⟨hI7, hE7⟩
    refine ⟨fun _ _ => trivial, ?_⟩
    obtain ⟨y, rfl⟩ := hI7.ih
    refine ax (n := 2) (vs := y.cells) rfl rfl rfl rfl (hb06.ext hE7) rfl (fun w8 hc8 hb8 => ⟨fun _ _ => trivial, ?_⟩)
    repeat' (first|refine aa ?_|refine ae ?_|refine aR ?_|refine bv ?_)
    refine bK rfl (rc rfl rfl hb8) ⟨?_, (hE06.trans hE7).chg hc8 hn0.lo⟩
    rw [hdet, if_pos rfl, Int.neg_one_mul]
    exact (hI7.gbN (hb06.ext hE7) (aI _ _ _ _) (bG hc8)).mono hE06.size
   ·repeat' (first|refine bA rfl rfl (by omega) ?_|refine aN (g := g4) rfl hx6 rfl ?_|refine ai rfl ?_|refine aa ?_|refine aj ?_|refine ah rfl ?_|refine ae ?_|refine ay rfl ?_|refine aV ?_|refine aL ?_|refine aW ?_|refine aF ?_)
    refine av (dQ hxe.k) rfl ?_
    rintro v w7 ⟨hI7, hE7⟩
    refine ⟨fun _ _ => trivial, ?_⟩
    obtain ⟨y, rfl⟩ := hI7.ih
    refine ax (n := 2) (vs := y.cells) rfl rfl rfl rfl (hb06.ext hE7) rfl (fun w8 hc8 hb8 => ⟨fun _ _ => trivial, ?_⟩)
    repeat' (first|refine aa ?_|refine ae ?_|refine aR ?_)
    refine bK rfl (rc rfl rfl hb8) ⟨?_, (hE06.trans hE7).chg hc8 hn0.lo⟩
    rw [hdet, if_neg (by decide), Int.one_mul]
    exact (hI7.gbN (hb06.ext hE7) (aI _ _ _ _) (bG hc8)).mono hE06.size
end Go.Proofs.YtppipmkpmmdcjaaGreat
namespace Go.LA
def pe (d : Nat) (a : Nat → Int) (t : Int) : Int := sm d fun k => a k * t ^ k
theorem i9 (d : Nat) (a : Nat → Int) (t : Int) : pe (d + 1) a t = a 0 + t * pe d (fun k => a (k + 1)) t := by
 unfold pe
 rw [n5, ← cj, Int.pow_zero, Int.mul_one]
 congr 1
 exact aX fun k _ => by rw [Int.pow_succ]; grind
theorem jU : ∀ {d : Nat} {a : Nat → Int}, (∀ t : Int, 1 ≤ t → pe d a t = 0) → ∀ k, k < d → a k = 0
 | 0, _, _, k, hk => by omega
 | d + 1, a, h, k, hk => by
  have h0 : a 0 = 0 := by
   have h1 := h ((a 0).natAbs + 1) (by omega)
   rw [i9] at h1
   generalize pe d (fun k => a (k + 1)) (↑(a 0).natAbs + 1) = q at h1
   have h2 : (((a 0).natAbs : Int) + 1) ∣ a 0 := ⟨-q, by grind⟩
   exact Classical.byContradiction fun hne => by
    have := Int.le_of_dvd (b := ((a 0).natAbs : Int)) (by omega) (by
     rcases Int.natAbs_eq (a 0) with e | e
     ·rw [← e]; exact h2
     ·have : ((a 0).natAbs : Int) = - a 0 := by omega
      rw [this]; rw [this] at h2; exact (Int.dvd_neg).2 h2)
    omega
  have h1 : ∀ t : Int, 1 ≤ t → pe d (fun k => a (k + 1)) t = 0 := fun t ht => by
   have := h t ht
   rw [i9, h0, Int.zero_add] at this
   rcases Int.mul_eq_zero.1 this with h | h
   ·omega
   ·exact h
  cases k with
  | zero => exact h0
  | succ k => exact jU h1 k (by omega)
theorem rZ (d : Nat) (a b : Nat → Int) (t : Int) : pe d (fun k => a k - b k) t = pe d a t - pe d b t := by
 unfold pe
 rw [← gU]
 exact aX fun k _ => by grind
theorem r5 {d : Nat} {a b : Nat → Int} (h : ∀ t : Int, 1 ≤ t → pe d a t = pe d b t) (k : Nat) (hk : k < d) : a k = b k := by
 have := jU (d := d) (a := fun k => a k - b k) (fun t ht => by rw [rZ, h t ht]; omega) k hk
 have : a k - b k = 0 := this
 omega
theorem jy (d : Nat) (c : Int) (a : Nat → Int) (t : Int) : pe d (fun k => c * a k) t = c * pe d a t := by
 unfold pe
 rw [← cj]
 exact aX fun k _ => by rw [Int.mul_assoc]
theorem uS (d : Nat) (a b : Nat → Int) (t : Int) : pe d (fun k => a k + b k) t = pe d a t + pe d b t := by
 unfold pe
 rw [← dH]
 exact aX fun k _ => by rw [Int.add_mul]
theorem r6 (d m : Nat) (a : Nat → Nat → Int) (t : Int) : pe d (fun k => sm m fun j => a j k) t = sm m fun j => pe d (a j) t := by
 unfold pe
 rw [f9]
 exact aX fun k _ => by rw [← fw]
def shf (a : Nat → Int) : Nat → Int := fun k => if k = 0 then 0 else a (k - 1)
theorem pn (d : Nat) (a : Nat → Int) (t : Int) : pe (d + 1) (shf a) t = t * pe d a t := by
 rw [i9]
 show (0 : Int) + _ = _
 rw [Int.zero_add]
 congr 1
theorem qb {d : Nat} {a : Nat → Int} (h : a d = 0) (t : Int) : pe (d + 1) a t = pe d a t := by
 unfold pe
 rw [bJ, h]; omega
def dp : Nat → Mat → Mat → Nat → Int
 | 0, _, _ => fun k => if k = 0 then 1 else 0
 | n + 1, B, C => fun k => sm (n + 1) fun j => sgn j * (B 0 j * dp n (fun r c => B (r + 1) (sk j c)) (fun r c => C (r + 1) (sk j c)) k + C 0 j * shf (dp n (fun r c => B (r + 1) (sk j c)) (fun r c => C (r + 1) (sk j c))) k)
theorem ja (n : Nat) (B C : Mat) (k : Nat) : dp (n + 1) B C k = sm (n + 1) fun j => sgn j * (B 0 j * dp n (fun r c => B (r + 1) (sk j c)) (fun r c => C (r + 1) (sk j c)) k + C 0 j * shf (dp n (fun r c => B (r + 1) (sk j c)) (fun r c => C (r + 1) (sk j c))) k) := rfl
theorem jb : ∀ (n : Nat) (B C : Mat) (k : Nat), n < k → dp n B C k = 0
 | 0, _, _, k, h => if_neg (by omega)
 | n + 1, B, C, k, h => by
  rw [ja]
  refine eQ fun j _ => ?_
  unfold shf
  rw [jb n _ _ k (by omega), if_neg (by omega), jb n _ _ (k - 1) (by omega)]
  simp
theorem r7 : ∀ (n : Nat) (B C : Mat), dp n B C n = det n C
 | 0, _, _ => rfl
 | n + 1, B, C => by
  rw [ja, bX]
  refine aX fun j _ => ?_
  unfold shf
  rw [jb n _ _ (n + 1) (by omega), if_neg (by omega), Nat.add_sub_cancel, r7 n]
  grind
theorem jc : ∀ (n : Nat) (B C : Mat) (t : Int), det n (fun i j => B i j + t * C i j) = pe (n + 1) (dp n B C) t
 | 0, _, _, t => by rw [d9]; unfold pe; rw [bJ, eC]; show (1 : Int) = 0 + (if 0 = 0 then 1 else 0) * t ^ 0; simp
 | n + 1, B, C, t => by
  rw [bX]
  have : pe (n + 2) (dp (n + 1) B C) t = sm (n + 1) fun j => sgn j * (B 0 j * pe (n + 1) (dp n (fun r c => B (r + 1) (sk j c)) (fun r c => C (r + 1) (sk j c))) t + C 0 j * (t * pe (n + 1) (dp n (fun r c => B (r + 1) (sk j c)) (fun r c => C (r + 1) (sk j c))) t)) := by
   have e : dp (n + 1) B C = fun k => sm (n + 1) fun j => sgn j * (B 0 j * dp n (fun r c => B (r + 1) (sk j c)) (fun r c => C (r + 1) (sk j c)) k + C 0 j * shf (dp n (fun r c => B (r + 1) (sk j c)) (fun r c => C (r + 1) (sk j c))) k) := rfl
   rw [e, r6]
   refine aX fun j _ => ?_
   rw [jy, uS, jy, jy, pn, qb (jb n _ _ (n + 1) (by omega))]
  rw [this]
  refine aX fun j _ => ?_
  rw [jc n]
  grind
theorem om : ∀ (n : Nat) (B C : Mat) (k : Nat), (k : Int) * dp n B C k = sm n fun i => dp n (rw' B i fun _ => 0) C k
 | 0, _, _, k => by
  show (k : Int) * (if k = 0 then 1 else 0) = 0
  by_cases e : k = 0
  ·subst e; simp
  ·rw [if_neg e, Int.mul_zero]
 | n + 1, B, C, k => by
  rw [n5]
  have e0 : dp (n + 1) (rw' B 0 fun _ => 0) C k = sm (n + 1) fun j => sgn j * (C 0 j * shf (dp n (fun r c => B (r + 1) (sk j c)) (fun r c => C (r + 1) (sk j c))) k) := by
   rw [ja]
   refine aX fun j _ => ?_
   have : (fun r c => rw' B 0 (fun _ => 0) (r + 1) (sk j c)) = fun r c => B (r + 1) (sk j c) := by funext r c; rw [dl _ _ _ (by omega)]
   rw [this, cH]; grind
  have e1 : ∀ i, dp (n + 1) (rw' B (i + 1) fun _ => 0) C k = sm (n + 1) fun j => sgn j * (B 0 j * dp n (rw' (fun r c => B (r + 1) (sk j c)) i fun _ => 0) (fun r c => C (r + 1) (sk j c)) k + C 0 j * shf (dp n (rw' (fun r c => B (r + 1) (sk j c)) i fun _ => 0) (fun r c => C (r + 1) (sk j c))) k) := fun i => by
   rw [ja]
   refine aX fun j _ => ?_
   have : (fun r c => rw' B (i + 1) (fun _ => 0) (r + 1) (sk j c)) = rw' (fun r c => B (r + 1) (sk j c)) i fun _ => 0 := by
    funext r c
    unfold rw'
    by_cases e : r = i
    ·rw [if_pos e, if_pos (by omega)]
    ·rw [if_neg e, if_neg (by omega)]
   rw [this, dl _ _ _ (by omega)]
  rw [e0, aX fun i _ => e1 i, f9, ← dH, ja, ← cj]
  refine aX fun j _ => ?_
  have ih := om n (fun r c => B (r + 1) (sk j c)) (fun r c => C (r + 1) (sk j c))
  generalize (fun r c => B (r + 1) (sk j c) : Mat) = B' at *
  generalize (fun r c => C (r + 1) (sk j c) : Mat) = C' at *
  have hs : (sm n fun i => sgn j * (B 0 j * dp n (rw' B' i fun _ => 0) C' k + C 0 j * shf (dp n (rw' B' i fun _ => 0) C') k)) = sgn j * (B 0 j * (sm n fun i => dp n (rw' B' i fun _ => 0) C' k) + C 0 j * (sm n fun i => shf (dp n (rw' B' i fun _ => 0) C') k)) := by
   rw [cj, dH, cj, cj]
  rw [hs, ← ih k]
  have h2 : (sm n fun i => shf (dp n (rw' B' i fun _ => 0) C') k) = if k = 0 then 0 else ((k : Int) - 1) * dp n B' C' (k - 1) := by
   unfold shf
   by_cases e : k = 0
   ·rw [if_pos e]; exact eQ fun i _ => by rw [if_pos e]
   ·rw [if_neg e]
    have := ih (k - 1)
    rw [show ((k - 1 : Nat) : Int) = (k : Int) - 1 by omega] at this
    rw [this]
    exact aX fun i _ => by rw [if_neg e]
  rw [h2]
  unfold shf
  by_cases e : k = 0
  ·subst e; simp
  ·rw [if_neg e, if_neg e]; grind
theorem qc : ∀ (n : Nat) (A : Mat), det n (fun i j => - A i j) = sgn n * det n A
 | 0, _ => by rw [d9, d9, dM]; rfl
 | n + 1, A => by
  rw [bX, bX, ← cj]
  refine aX fun j _ => ?_
  rw [qc n fun r c => A (r + 1) (sk j c), d8]
  grind
def tr (n : Nat) (A : Mat) : Int := sm n fun i => A i i
def flP (n : Nat) (A : Mat) : Nat → Mat
 | 0 => idM
 | k + 1 => fun i j => mm n A (flP n A k) i j + (tr n (mm n A (flP n A k)) / (-((k : Int) + 1))) * idM i j
def adc (n : Nat) (A : Mat) (k : Nat) : Mat := fun i j => sgn (j + i) * dp (n - 1) (mnr idM j i) (mnr (fun a b => - A a b) j i) k
def chc (n : Nat) (A : Mat) (k : Nat) : Int := dp n idM (fun a b => - A a b) k
theorem oo {n : Nat} (A : Mat) {k : Nat} (h : n - 1 < k) (i j : Nat) : adc n A k i j = 0 := by unfold adc; rw [jb _ _ _ _ h, Int.mul_zero]
theorem kX {n : Nat} (hn : 0 < n) (A : Mat) (t : Int) (i j : Nat) : adj n (fun a b => idM a b + t * - A a b) i j = pe n (fun k => adc n A k i j) t := by
 unfold adj
 have : det (n - 1) (mnr (fun a b => idM a b + t * - A a b) j i) = pe (n - 1 + 1) (dp (n - 1) (mnr idM j i) (mnr (fun a b => - A a b) j i)) t := jc (n - 1) (mnr idM j i) (mnr (fun a b => - A a b) j i) t
 rw [this, show n - 1 + 1 = n by omega, ← jy]
 rfl
theorem m8 {n : Nat} (A : Mat) {i j : Nat} (hi : i < n) (hj : j < n) (k : Nat) (hk : k ≤ n) : adc n A k i j = shf (fun k => mm n A (adc n A k) i j) k + chc n A k * idM i j := by
 have hn : 0 < n := by omega
 have key : ∀ t : Int, pe (n + 1) (fun k => adc n A k i j - shf (fun k => mm n A (adc n A k) i j) k) t = pe (n + 1) (fun k => chc n A k * idM i j) t := fun t => by
  have h := fF (fun a b => idM a b + t * - A a b) hi hj
  rw [rZ, qb (d := n) (a := fun k => adc n A k i j) (oo A (by omega) i j), pn]
  have e1 : pe (n + 1) (fun k => chc n A k * idM i j) t = det n (fun a b => idM a b + t * - A a b) * idM i j := by
   rw [jc n idM (fun a b => - A a b) t]
   unfold pe
   rw [← fw]
   exact aX fun k _ => by unfold chc; grind
  rw [e1, ← h]
  unfold mm
  rw [r6, ← cj]
  have e2 : pe n (fun k => adc n A k i j) t = sm n fun l => idM i l * adj n (fun a b => idM a b + t * - A a b) l j := by
   rw [bV hi fun l _ hne => by rw [bN (Ne.symm hne), Int.zero_mul]]
   rw [bE, Int.one_mul, kX hn]
  rw [e2, ← gU]
  refine aX fun l _ => ?_
  rw [jy, ← kX hn]
  grind
 have h : adc n A k i j - shf (fun k => mm n A (adc n A k) i j) k = chc n A k * idM i j := r5 (fun t _ => key t) k (by omega)
 omega
theorem r8 {n : Nat} (A : Mat) : chc n A 0 = 1 := by
 have := jc n idM (fun a b => - A a b) 0
 rw [i9, Int.zero_mul, Int.add_zero] at this
 unfold chc
 rw [← this]
 rw [bo (M' := idM) fun r c _ _ => by omega]
 exact iH n
theorem r9 {n : Nat} (A : Mat) {k : Nat} (hk : k < n) : tr n (mm n A (adc n A k)) = (-((k : Int) + 1)) * chc n A (k + 1) := by
 have hn : 0 < n := by omega
 have h := om n idM (fun a b => - A a b) (k + 1)
 have key : ∀ i, i < n → dp n (rw' idM i fun _ => 0) (fun a b => - A a b) (k + 1) = - mm n A (adc n A k) i i := fun i hi => by
  have he : ∀ t : Int, pe (n + 1) (dp n (rw' idM i fun _ => 0) (fun a b => - A a b)) t = pe (n + 1) (shf fun k => - mm n A (adc n A k) i i) t := fun t => by
   rw [← jc, pn]
   obtain ⟨n, rfl⟩ : ∃ m, n = m + 1 := ⟨n - 1, by omega⟩
   rw [mZ _ hi]
   have e : (fun k => - mm (n + 1) A (adc (n + 1) A k) i i) = fun k => sm (n + 1) fun l => (- A i l) * adc (n + 1) A k l i := by
    funext k
    unfold mm
    rw [← mX]
    exact aX fun l _ => by grind
   rw [e, r6, ← cj]
   refine aX fun l _ => ?_
   rw [jy, ← kX hn, cH]
   have e2 : det n (mnr (fun a b => rw' idM i (fun _ => 0) a b + t * - A a b) i l) = det n (mnr (fun a b => idM a b + t * - A a b) i l) := bo fun r c _ _ => by
    show rw' idM i (fun _ => 0) (sk i r) (sk l c) + _ = _
    rw [dl _ _ _ (rQ _ _)]
    rfl
   rw [e2]
   unfold adj
   rw [Nat.add_sub_cancel]
   grind
  have := r5 (fun t _ => he t) (k + 1) (by omega)
  rw [this]
  unfold shf
  rw [if_neg (by omega), Nat.add_sub_cancel]
 rw [aX key, mX] at h
 unfold tr chc
 have e : ((k + 1 : Nat) : Int) = (k : Int) + 1 := by omega
 rw [e] at h
 grind
theorem m9 {n : Nat} (A : Mat) : ∀ k, k < n → ∀ i j, i < n → j < n → flP n A k i j = adc n A k i j
 | 0, _, i, j, hi, hj => by
  rw [m8 A hi hj 0 (by omega), r8]
  show idM i j = (0 : Int) + 1 * idM i j
  omega
 | k + 1, hk, i, j, hi, hj => by
  have ih := m9 (n := n) A k (show k < n by omega)
  have hm : ∀ i j, i < n → j < n → mm n A (flP n A k) i j = mm n A (adc n A k) i j := fun i j _ hj => cC (fun _ _ => rfl) fun l hl => ih l j hl hj
  have ht : tr n (mm n A (flP n A k)) = (-((k : Int) + 1)) * chc n A (k + 1) := by
   rw [← r9 A (show k < n by omega)]
   exact aX fun l hl => hm l l hl hl
  rw [m8 A hi hj (k + 1) (by omega)]
  show mm n A (flP n A k) i j + _ = _
  rw [ht, Int.mul_ediv_cancel_left _ (by omega), hm i j hi hj]
  unfold shf
  rw [if_neg (by omega), Nat.add_sub_cancel]
theorem uT {n : Nat} (hn : 0 < n) (A : Mat) {i j : Nat} (hi : i < n) (hj : j < n) : mm n A (flP n A (n - 1)) i j = sgn (n + 1) * det n A * idM i j := by
 have h := m8 A hi hj n (Nat.le_refl _)
 rw [oo A (by omega)] at h
 unfold shf at h
 rw [if_neg (by omega)] at h
 have h2 : chc n A n = sgn n * det n A := by unfold chc; rw [r7, qc]
 rw [h2] at h
 have h3 : mm n A (flP n A (n - 1)) i j = mm n A (adc n A (n - 1)) i j := cC (fun _ _ => rfl) fun l hl => m9 A (n - 1) (by omega) l j hl hj
 rw [h3, d8]
 have h4 : (0 : Int) = mm n A (adc n A (n - 1)) i j + sgn n * det n A * idM i j := h
 grind
end Go.LA
namespace Go.Proofs.YtppipmkpmmdcjaaGreat
open Go.W Go.LM Go.LA
theorem mw {cn : Bool} {K n cap : Nat} {w : World} {a : Option Addr} {s : Nat → SD} {A : Mat} (hM : MX cn K w a n n s A) (hn : 1 ≤ n ∧ n ≤ 16) (hK : 16 * K + 17 ≤ 4398046511104) :
  CallsR Tryz.prog 39 #[.slice a n cap] w fun v w' => ∃ u, v = .tuple #[u, .bool true] ∧ RetZ w (det n A) u w' := by
 refine aH (args := [_]) Tryz.func39 rfl rfl ?_
 repeat' (first|refine aB (fun g1 w1 hn1 => ⟨fun _ _ => trivial, ?_⟩)|refine ai rfl ?_|refine aa ?_|refine aj ?_|refine ah rfl ?_|refine ae ?_)
 have hb1 : Blk w1 g1 33 (intL false none 0 0) := hn1.blk
 refine av (dV (hM.ext hn1.ex).top) rfl ?_
 rintro v w2 ⟨rfl, hE2⟩
 refine ⟨fun _ _ => trivial, ?_⟩
 rw [em hM hn hn]
 have hE := hn1.ex.trans hE2
 repeat' (first|refine fd rfl rfl rfl ?_|refine ai rfl ?_|refine aa ?_|refine aj ?_|refine ah rfl ?_|refine ae ?_|refine bR rfl rfl ?_|refine ay rfl ?_|refine aF ?_)
 refine av (jx (hM.ext hE) hn hK) rfl ?_
 rintro v w3 ⟨hI, hE3⟩
 refine ⟨fun _ _ => trivial, ?_⟩
 obtain ⟨x, rfl⟩ := hI.ih
 have hb3 := (hb1.ext hE2).ext hE3
 refine ax (n := 2) (vs := x.cells) rfl rfl rfl rfl hb3 rfl (fun w4 hc4 hb4 => ⟨fun _ _ => trivial, ?_⟩)
 repeat' (first|refine ai rfl ?_|refine aa ?_|refine ae ?_|refine aR ?_)
 exact eN rfl (rc rfl rfl hb4) (rt rfl) ⟨_, rfl, (hI.gbN hb3 (aI _ _ _ _) (bG hc4)).mono hE.size, (hE.trans hE3).chg hc4 hn1.lo⟩
end Go.Proofs.YtppipmkpmmdcjaaGreat
