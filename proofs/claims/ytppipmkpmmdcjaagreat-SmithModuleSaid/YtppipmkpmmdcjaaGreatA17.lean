import Derived.Test.YtppipmkpmmdcjaaGreatA16
namespace Go.Proofs.YtppipmkpmmdcjaaGreat
open Go.W Go.LM Go.LA
theorem tR {p k i : Nat} (h : p ≠ k) : swp2 p k i = if i = k then p else if i = p then k else i := by
 unfold swp2
 by_cases h1 : i = p
 ·by_cases h2 : i = k
  ·omega
  ·rw [if_pos h1, if_neg h2, if_pos h1]
 ·by_cases h2 : i = k
  ·rw [if_neg h1, if_pos h2, if_pos h2]
  ·rw [if_neg h1, if_neg h2, if_neg h2, if_neg h1]
set_option maxHeartbeats 4000000 in
theorem iy {cn : Bool} {K n cap : Nat} {w : World} {a : Option Addr} {s : Nat → SD} {A : Mat} (hM : MX cn K w a n n s A) (hn : 1 ≤ n ∧ n ≤ 16) (hK : 16 * K + 17 ≤ 4398046511104) :
  CallsR Tryz.prog 7 #[.slice a n cap] w fun v w' => Ent true (16 * K + 17) w' v (det n A) ∧ Ex w w' := by
 refine aH (args := [_]) Tryz.func7 rfl rfl ?_
 refine aj ?_
 refine ah rfl ?_
 refine aB (fun g0 w0 hn0 => ⟨fun _ _ => trivial, ?_⟩)
 have hb0 : Blk w0 g0 33 (intL false none 0 0) := hn0.blk
 repeat' (first|refine ai rfl ?_|refine aa ?_|refine aj ?_|refine ah rfl ?_|refine ae ?_)
 refine av (lI (hM.ext hn0.ex) ⟨hn.1, by omega⟩ ⟨hn.1, by omega⟩) rfl ?_
 rintro v w1 ⟨g, gs, cp, rfl, hO1, hE1⟩
 refine ⟨fun _ _ => trivial, ?_⟩
 repeat' (first|refine ai rfl ?_|refine aa ?_|refine aj ?_|refine ah rfl ?_|refine ae ?_|refine bh rfl ?_)
 refine av (cQ (z := 1) (by omega) (by omega) _) rfl ?_
 rintro v w3 ⟨hI3, hE3⟩
 refine ⟨fun _ _ => trivial, ?_⟩
 obtain ⟨x3, rfl⟩ := hI3.ih
 refine aB (fun g4 w4 hn4 => ⟨fun _ _ => trivial, ?_⟩)
 have hb4 : Blk w4 g4 33 (intL false none 0 0) := hn4.blk
 refine ax (n := 2) (vs := x3.cells) rfl rfl rfl rfl hb4 rfl (fun w5 hc5 hb5 => ⟨fun _ _ => trivial, ?_⟩)
 have s1 := hE1.size
 have s3 := hE3.size
 have s4 := hn4.ex.size
 have l4 := hn4.lo
 have hE5 : Ex w0 w5 := ((hE1.trans hE3).trans hn4.ex).chg hc5 (by omega)
 have hO5 := (((hO1.ext hE3).ext hn4.ex).gbN hb4 (aI _ _ _ _) (bG hc5) (by have := hO1.lt; omega) (fun k hk => by have := (hO1.row k hk).lt; omega)).up (K' := 16 * K + 17) (by omega)
 have hx5 : Ent true (16 * K + 17) w5 x3.val 1 := ((Ent.of hI3 (bM (e := 16 * K + 17) (by decide) (by omega))).ext hn4.ex).gbN hb4 (aI _ _ _ _) (bG hc5)
 have hg4 : ∀ k, k < n → gs k ≠ g4 := fun k hk => by have := (hO1.row k hk).lt; omega
 have hAlb : ∀ r c, r < n → c < n → Lb K (A r c) := fun r c hr hc => hM.lb hr hc
 have hB5 : BdJ n A 0 1 A 1 := mq n (fun _ _ _ _ => rfl)
 have hgg4 : g4 ≠ g := by have := hO1.lt; omega
 have hlo4 : w0.heap.size ≤ g4 := by omega
 clear hO1 hc5 hn4 hI3
 repeat' (first|refine ai rfl ?_|refine aa ?_|refine aj ?_|refine ah rfl ?_|refine ae ?_|refine aA ?_)
 refine aY (ι := Nat × Mat × (Nat → Nat) × (Nat → Nat) × Bool × IH × Int) [6, 7, 8, 9, 10, 16, 17, 18, 19, 20, 21, 22, 23, 24, 25, 26, 27, 28, 29, 30, 31, 32, 33, 34, 35, 36, 37, 38, 39, 40, 41, 42, 43, 44, 45, 46, 47, 48, 49, 50, 51, 52, 53, 54, 55, 56, 57, 58, 59, 60, 61, 62, 63, 64, 65, 66, 67, 68, 69, 70, 71, 72, 73, 74, 75, 76, 77, 78, 79, 80, 81, 82, 83, 84, 85, 86, 87, 88, 89, 90, 91, 92, 93, 94, 95, 96, 97, 98, 99, 100, 101, 102, 103, 104, 105, 106, 107, 108, 109, 110, 111, 112, 113, 114, 115, 116, 117, 118, 119, 120] (fun t => [(7, .int .i64 (t.1 : Int)), (6, .bool t.2.2.2.2.1)])
  (fun t w' => t.1 ≤ n ∧ Ex w0 w' ∧ MO true (16 * K + 17) w' w0.heap.size g n n t.2.2.1 t.2.2.2.1 t.2.1 ∧ (∀ k, k < n → t.2.2.1 k ≠ g4) ∧ Blk w' g4 33 t.2.2.2.2.2.1.cells ∧ Ent true (16 * K + 17) w' t.2.2.2.2.2.1.val t.2.2.2.2.2.2 ∧ BdJ n A t.1 (if t.2.2.2.2.1 then -1 else 1) t.2.1 t.2.2.2.2.2.2) (fun t => n - t.1)
  (0, A, gs, cp, false, x3, 1) ⟨rfl, rfl, trivial⟩ ⟨by omega, hE5, hO5, hg4, by assumption, hx5, hB5⟩ ?_
 clear hE5 hO5 hg4 hx5 hB5
 rintro ⟨k, F, gs, cp, neg, x, last⟩ ξ2 w6 ⟨hk, hE6, hO6, hg4, hx6, hxe, hB⟩
 simp only at hk hO6 hg4 hx6 hxe hB
 show CW _ _ _ _ (over [(7, .int .i64 (k : Int)), (6, .bool neg)] _) w6
 have hb06 : Blk w6 g0 33 (intL false none 0 0) := hb0.ext hE6
 have hE06 := hn0.ex.trans hE6
 rcases Nat.lt_or_ge k n with hkn | hkn
 ·repeat' (first|refine bC rfl rfl (by omega) ?_|refine ai rfl ?_|refine aa ?_|refine aj ?_|refine ah rfl ?_|refine ae ?_|refine aD rfl ?_|refine aF ?_)
  refine aA ?_
  repeat' (first|refine ai rfl ?_|refine aa ?_|refine aj ?_|refine ah rfl ?_|refine ae ?_)
  refine cD (ι := Nat) [8, 22, 23, 24, 25, 26, 27, 28, 29, 30, 31, 32, 33, 34, 35, 36, 37] (fun p => [(8, .int .i64 (p : Int))])
   (fun p w' => Ex w6 w' ∧ k ≤ p ∧ p ≤ n ∧ (∀ q, k ≤ q → q < p → F q k = 0) ∧ (p < n → F p k ≠ 0)) ?_ ?_
  ·refine aA ?_
   refine aY (ι := Nat) [8, 22, 23, 24, 25, 26, 27, 28, 29, 30, 31, 32, 33, 34, 35, 36, 37] (fun p => [(8, .int .i64 (p : Int))]) (fun p w' => Ex w6 w' ∧ k ≤ p ∧ p ≤ n ∧ (∀ q, k ≤ q → q < p → F q k = 0)) (fun p => n - p)
    k ⟨rfl, trivial⟩ ⟨Ex.refl _, Nat.le_refl _, hk, fun q h1 h2 => by omega⟩ ?_
   rintro p ξ3 w7 ⟨hE7, hkp, hpn, hz⟩
   show CW _ _ _ _ (over [(8, .int .i64 (p : Int))] _) w7
   rcases Nat.lt_or_ge p n with hp | hp
   ·obtain ⟨hh, hbp, hcp, hEp⟩ := (hO6.ext hE7).get hp
    repeat' (first|refine bC rfl rfl (by omega) ?_|refine aC (j := p) (a := some ⟨g, 0, none⟩) rfl rfl ⟨_, _, rfl⟩ (by omega) ?_|refine aU (j := p) (a := some ⟨g, 0, none⟩) (n := n) (s := fun k => ⟨some ⟨gs k, 0, none⟩, n, cp k⟩) rfl (hO6.ext hE7).top.sl (by omega) rfl ?_|refine aT (j := k) (a := some ⟨gs p, 0, none⟩) rfl rfl ⟨_, _, rfl⟩ (by omega) ?_|refine bu (j := k) (a := some ⟨gs p, 0, none⟩) rfl hbp.sl ⟨_, _, rfl⟩ (by omega) ?_|refine ai rfl ?_|refine aj ?_|refine ah rfl ?_|refine bR rfl rfl ?_)
    refine av (eo (hEp k (by omega)).k) rfl ?_
    rintro v w8 ⟨rfl, hE8⟩
    refine ⟨fun _ _ => trivial, ?_⟩
    repeat' (first|refine ai rfl ?_|refine aa ?_|refine ah rfl ?_|refine ae ?_|refine bR rfl rfl ?_|refine aZ rfl rfl (by omega) (by omega) ?_|refine aP rfl (fun hc => ?_) (fun hc => ?_)|refine aA ?_|refine aV ?_|refine aL ?_|refine aW ?_|refine aK ?_|refine aF ?_)
    ·refine ⟨⟨p + 1, ⟨hE7.trans hE8, by omega, hp, fun q h1 h2 => ?_⟩, by omega, rfl, trivial⟩, (by (repeat (first|exact aE _ _ _|refine aw rfl ?_|refine au rfl ?_|refine ak rfl ?_|refine ao rfl ?_)))⟩
     by_cases hqp : q = p
     ·subst hqp; exact Int.sign_eq_zero_iff_zero.1 (by assumption)
     ·exact hz q h1 (by omega)
    ·exact ⟨⟨p, ⟨hE7.trans hE8, hkp, hpn, hz, fun _ e => absurd (show (F p k).sign = 0 by rw [e]; rfl) (by assumption)⟩, rfl, trivial⟩, (by (repeat (first|exact aM _ _|refine aw rfl ?_|refine au rfl ?_|refine ak rfl ?_|refine ao rfl ?_)))⟩
   ·repeat' (first|refine bA rfl rfl (by omega) ?_|refine ai rfl ?_|refine aa ?_|refine aj ?_|refine ah rfl ?_|refine ae ?_|refine cB rfl rfl ?_|refine ay rfl ?_|refine aV ?_|refine aL ?_|refine aW ?_)
    exact ⟨⟨p, ⟨hE7, hkp, hpn, hz, fun h => by omega⟩, rfl, trivial⟩, (by (repeat (first|exact aM _ _|refine aw rfl ?_|refine au rfl ?_|refine ak rfl ?_|refine ao rfl ?_)))⟩
  ·rintro p ξ3 w7 ⟨hE7, hkp, hpn, hz, hnz⟩
   show CW _ _ _ _ (over [(8, .int .i64 (p : Int))] _) w7
   rcases Nat.lt_or_ge p n with hp | hp
   ·have hOp := hO6.ext hE7
    have hOk := hO6.ext hE7
    repeat' (first|refine gq rfl rfl (by omega) ?_|refine ai rfl ?_|refine aa ?_|refine aj ?_|refine ah rfl ?_|refine ae ?_)
    refine ay rfl ?_
    repeat' (first|refine ai rfl ?_|refine aa ?_|refine aj ?_|refine ah rfl ?_|refine ae ?_|refine aF ?_)
    refine cD (ι := Mat × (Nat → Nat) × (Nat → Nat) × Bool) [6, 45, 46, 47, 48, 49, 50, 51, 52, 53, 54, 55, 56, 57, 58, 59, 60] (fun t => [(6, .bool t.2.2.2)])
     (fun t w' => Ex w0 w' ∧ MO true (16 * K + 17) w' w0.heap.size g n n t.2.1 t.2.2.1 t.1 ∧ (∀ k, k < n → t.2.1 k ≠ g4) ∧ Blk w' g4 33 x.cells ∧ Ent true (16 * K + 17) w' x.val last ∧ BdJ n A k (if t.2.2.2 then -1 else 1) t.1 last ∧ t.1 k k ≠ 0) ?_ ?_
    ·repeat' (first|refine aa ?_|refine aj ?_|refine aP rfl (fun hc => ?_) (fun hc => ?_)|refine aF ?_)
     ·refine bi (late := [13, 15]) (plan := [(0, none), (1, none), (2, none), (3, none), (4, none), (5, none), (6, none), (7, none), (8, none), (9, none), (10, none), (11, none), (12, none), (13, some false), (14, none), (15, some false)]) (fun w' => Ex w7 w') bB (by kernel_rfl) (Ex.refl w7).drew ?_
      have hOp := hO6.ext (hE7.drew)
      repeat' (first|refine aC (j := k) (a := some ⟨g, 0, none⟩) rfl rfl ⟨_, _, rfl⟩ (by omega) ?_|refine aC (j := p) (a := some ⟨g, 0, none⟩) rfl rfl ⟨_, _, rfl⟩ (by omega) ?_|refine aU (j := p) (a := some ⟨g, 0, none⟩) (n := n) (s := fun k => ⟨some ⟨gs k, 0, none⟩, n, cp k⟩) rfl (fun _ h => (hOk.ext h).top.sl) (by omega) rfl ?_|refine aU (j := k) (a := some ⟨g, 0, none⟩) (n := n) (s := fun k => ⟨some ⟨gs k, 0, none⟩, n, cp k⟩) rfl (fun _ h => (hOk.ext h).top.sl) (by omega) rfl ?_|refine ai rfl ?_)
      refine ci (j := p) (u := ⟨some ⟨gs k, 0, none⟩, n, cp k⟩) rfl rfl hOp.top (by omega) (fun w8 hc8 hT8 => ⟨fun h => (nomatch h), ?_⟩)
      repeat' (first|refine aC (j := k) (a := some ⟨g, 0, none⟩) rfl rfl ⟨_, _, rfl⟩ (by omega) ?_)
      refine ci (j := k) (u := ⟨some ⟨gs p, 0, none⟩, n, cp p⟩) rfl rfl hT8 (by omega) (fun w9 hc9 hT9 => ⟨fun h => (nomatch h), ?_⟩)
      repeat' (first|refine ai rfl ?_|refine aa ?_|refine ah rfl ?_|refine ae ?_)
      have hkp' : k < p := by omega
      have hsw := hOp.swap hp hkn hc8 hc9 hT9
      have hx9 := ((hx6.ext hE7.drew).chg hc8 hgg4).chg hc9 hgg4
      have hxe9 := ((hxe.ext hE7.drew).gbN hOp.top (bZ _ _) (bG hc8)).gbN hT8 (bZ _ _) (bG hc9)
      have hE9 := ((hE6.trans hE7.drew).chg hc8 hO6.low).chg hc9 hO6.low
      have hBs := hB.swap (W' := fun a => F (swp2 p k a)) hkp' hp (fun i j _ _ => by rw [tR (by omega)])
      refine ⟨⟨(fun a => F (swp2 p k a), fun a => gs (swp2 p k a), fun a => cp (swp2 p k a), !neg), ⟨hE9, hsw, fun m hm => hg4 _ (du hp hkn hm), hx9, hxe9, ?_, ?_⟩, rfl, trivial⟩, (by (repeat (first|exact aM _ _|refine aw rfl ?_|refine au rfl ?_|refine ak rfl ?_|refine ao rfl ?_)))⟩
      ·have e : (-(if neg = true then -1 else 1) : Int) = if (!neg) = true then -1 else 1 := by cases neg <;> rfl
       rw [← e]; exact hBs
      ·show F (swp2 p k k) k ≠ 0
       rw [show swp2 p k k = p by unfold swp2; rw [if_neg (by omega), if_pos rfl]]; exact hnz hp
     ·have e : p = k := by omega
      subst e
      exact ⟨⟨(F, gs, cp, neg), ⟨hE6.trans hE7, hO6.ext hE7, hg4, hx6.ext hE7, hxe.ext hE7, hB, hnz hp⟩, rfl, trivial⟩, (by (repeat (first|exact aM _ _|refine aw rfl ?_|refine au rfl ?_|refine ak rfl ?_|refine ao rfl ?_)))⟩
    ·clear hOp hOk hnz hz hO6 hg4 hx6 hxe hB hb06 hE06
     rintro ⟨F, gs, cp, neg⟩ ξ4 w8 ⟨hE8, hO8, hg4, hx8, hxe8, hB, hnz⟩
     simp only at hO8 hg4 hB hnz
     show CW _ _ _ _ (over [(6, .bool neg)] _) w8
     have hstep := hB.step (W' := elm F last k n (k + 1)) hkn hnz (fun i j h1 h2 h3 h4 => kh F last h1 h2 h3)
     have hlbs := (BdJ.lb hstep hAlb hn.2).1
     have hl0 := hB.ne
     repeat' (first|refine aZ rfl rfl (by omega) (by omega) ?_|refine ai rfl ?_|refine aa ?_|refine aj ?_|refine ah rfl ?_|refine ae ?_|refine aA ?_)
     refine aY (ι := Nat) [9, 10, 63, 64, 65, 66, 67, 68, 69, 70, 71, 72, 73, 74, 75, 76, 77, 78, 79, 80, 81, 82, 83, 84, 85, 86, 87, 88, 89, 90, 91, 92, 93, 94, 95, 96, 97, 98, 99, 100, 101, 102, 103, 104, 105, 106, 107, 108, 109, 110, 111, 112, 113] (fun i => [(9, .int .i64 (i : Int))])
      (fun i w' => k + 1 ≤ i ∧ i ≤ n ∧ Ex w0 w' ∧ MO true (16 * K + 17) w' w0.heap.size g n n gs cp (elm F last k i (k + 1)) ∧ Blk w' g4 33 x.cells ∧ Ent true (16 * K + 17) w' x.val last) (fun i => n - i)
      (k + 1) ⟨by show Value.int .i64 ((k : Int) + 1) = _; norm_cast, trivial⟩ ⟨Nat.le_refl _, hkn, hE8, hO8.congr (fun a b _ _ => mu F last k a b), hx8, hxe8⟩ ?_
     clear hO8 hx8 hxe8 hE8
     rintro i ξ5 w11 ⟨hki, hin, hE11, hO11, hx11, hxe11⟩
     show CW _ _ _ _ (over [(9, .int .i64 (i : Int))] _) w11
     rcases Nat.lt_or_ge i n with hi | hi
     ·repeat' (first|refine bC rfl rfl (by omega) ?_|refine aZ rfl rfl (by omega) (by omega) ?_|refine ai rfl ?_|refine aa ?_|refine aj ?_|refine ah rfl ?_|refine ae ?_|refine aD rfl ?_|refine aA ?_|refine aF ?_)
      refine aY (ι := Nat) [10, 70, 71, 72, 73, 74, 75, 76, 77, 78, 79, 80, 81, 82, 83, 84, 85, 86, 87, 88, 89, 90, 91, 92, 93, 94, 95, 96, 97, 98, 99, 100, 101, 102, 103, 104, 105, 106, 107, 108, 109, 110, 111, 112, 113] (fun j => [(10, .int .i64 (j : Int))])
       (fun j w' => k + 1 ≤ j ∧ j ≤ n ∧ Ex w0 w' ∧ MO true (16 * K + 17) w' w0.heap.size g n n gs cp (elm F last k i j) ∧ Blk w' g4 33 x.cells ∧ Ent true (16 * K + 17) w' x.val last) (fun j => n - j)
       (k + 1) ⟨by show Value.int .i64 ((k : Int) + 1) = _; norm_cast, trivial⟩ ⟨Nat.le_refl _, hkn, hE11, hO11, hx11, hxe11⟩ ?_
      clear hO11 hx11 hxe11 hE11
      rintro j ξ6 w12 ⟨hkj, hjn, hE12, hO12, hx12, hxe12⟩
      show CW _ _ _ _ (over [(10, .int .i64 (j : Int))] _) w12
      rcases Nat.lt_or_ge j n with hj | hj
      ·obtain ⟨hi', hbi, hci, hEi⟩ := hO12.get hi
       obtain ⟨hk', hbk, hck, hEk⟩ := hO12.get hkn
       have hki' : k < i := by omega
       have hkj' : k < j := by omega
       have e1 := fx F last (k := k) (i := i) (j := j) (a := i) (b := j) (by omega)
       have e2 := fx F last (k := k) (i := i) (j := j) (a := i) (b := k) (by omega)
       have e3 := fx F last (k := k) (i := i) (j := j) (a := k) (b := j) (by omega)
       have e4 := fx F last (k := k) (i := i) (j := j) (a := k) (b := k) (by omega)
       have n1 : Ent true (16 * K + 17) w12 (hi' j).val (F i j) := by rw [← e1]; exact hEi j hj
       have n2 : Ent true (16 * K + 17) w12 (hi' k).val (F i k) := by rw [← e2]; exact hEi k hkn
       have n3 : Ent true (16 * K + 17) w12 (hk' j).val (F k j) := by rw [← e3]; exact hEk j hj
       have n4 : Ent true (16 * K + 17) w12 (hk' k).val (F k k) := by rw [← e4]; exact hEk k hkn
       repeat' (first|refine bC rfl rfl (by omega) ?_|refine ai rfl ?_|refine aa ?_|refine aj ?_|refine ah rfl ?_|refine ae ?_|refine aD rfl ?_|refine aF ?_)
       refine aA ?_
       skip
       have b1 := n4.lb.mul n1.lb
       have b2 := n2.lb.mul n3.lb
       have b3 := b1.sub b2
       refine bi (late := [39]) (plan := [(0, none), (1, none), (2, none), (3, none), (4, none), (5, none), (6, none), (7, none), (8, none), (9, none), (10, none), (11, none), (12, none), (13, none), (14, none), (15, none), (16, none), (17, none), (18, none), (20, none), (21, none), (22, none), (23, none), (24, none), (25, none), (26, none), (27, none), (28, none), (29, none), (30, none), (31, none), (32, none), (33, none), (36, none), (19, some true), (34, some true), (35, some true), (37, some true), (38, none), (39, some false)]) (fun w' => Ex w12 w') bB (by kernel_rfl) (Ex.refl w12).drew ?_
       have hEd := (Ex.refl w12).drew
       repeat' (first|refine aC (j := i) (a := some ⟨g, 0, none⟩) rfl rfl ⟨_, _, rfl⟩ (by omega) ?_|refine aC (j := k) (a := some ⟨g, 0, none⟩) rfl rfl ⟨_, _, rfl⟩ (by omega) ?_|refine aU (j := i) (a := some ⟨g, 0, none⟩) (n := n) (s := fun k => ⟨some ⟨gs k, 0, none⟩, n, cp k⟩) rfl (fun _ h => (hO12.ext h).top.sl) (by omega) rfl ?_|refine aU (j := k) (a := some ⟨g, 0, none⟩) (n := n) (s := fun k => ⟨some ⟨gs k, 0, none⟩, n, cp k⟩) rfl (fun _ h => (hO12.ext h).top.sl) (by omega) rfl ?_|refine aT (j := j) (a := some ⟨gs i, 0, none⟩) rfl rfl ⟨_, _, rfl⟩ (by omega) ?_|refine aT (j := k) (a := some ⟨gs i, 0, none⟩) rfl rfl ⟨_, _, rfl⟩ (by omega) ?_|refine aT (j := j) (a := some ⟨gs k, 0, none⟩) rfl rfl ⟨_, _, rfl⟩ (by omega) ?_|refine aT (j := k) (a := some ⟨gs k, 0, none⟩) rfl rfl ⟨_, _, rfl⟩ (by omega) ?_|refine bu (j := j) (n := cp i) (a := some ⟨gs i, 0, none⟩) rfl (fun _ h => (hbi.ext h).sl) ⟨_, _, rfl⟩ (by omega) ?_|refine bu (j := k) (n := cp i) (a := some ⟨gs i, 0, none⟩) rfl (fun _ h => (hbi.ext h).sl) ⟨_, _, rfl⟩ (by omega) ?_|refine bu (j := j) (n := cp k) (a := some ⟨gs k, 0, none⟩) rfl (fun _ h => (hbk.ext h).sl) ⟨_, _, rfl⟩ (by omega) ?_|refine bu (j := k) (n := cp k) (a := some ⟨gs k, 0, none⟩) rfl (fun _ h => (hbk.ext h).sl) ⟨_, _, rfl⟩ (by omega) ?_|refine aN (g := g4) rfl (fun _ h => hx12.ext h) rfl ?_|refine ai rfl ?_)
       refine av (gf (n4.ext hEd).k (n1.ext hEd).k (by omega)) rfl ?_
       rintro v w13 ⟨hI13, hE13⟩
       refine ⟨fun _ h => h.trans hE13, ?_⟩
       have hEd13 := hEd.trans hE13
       skip
       refine av (gf (n2.ext hEd13).k (n3.ext hEd13).k (by omega)) rfl ?_
       rintro v w14 ⟨hI14, hE14⟩
       refine ⟨fun _ h => h.trans hE14, ?_⟩
       skip
       refine av (jS ((hI13.ext hE14).k b1) (hI14.k b2) (by omega) (by omega)) rfl ?_
       rintro v w15 ⟨hI15, hE15⟩
       refine ⟨fun _ h => h.trans hE15, ?_⟩
       have hEd15 := (hEd13.trans hE14).trans hE15
       skip
       refine av (nk (hI15.k b3) (hxe12.ext hEd15).k (by omega) (by omega)) rfl ?_
       rintro v w16 ⟨hI16, hE16⟩
       refine ⟨fun _ h => h.trans hE16, ?_⟩
       obtain ⟨u, rfl⟩ := hI16.ih
       have hE1216 := hEd15.trans hE16
       have hbi16 := hbi.ext hE1216
       repeat' (first|refine aT (j := j) (a := some ⟨gs i, 0, none⟩) rfl rfl ⟨_, _, rfl⟩ (by omega) ?_)
       refine ch (j := j) (n := cp i) (u := u) rfl rfl hbi16 (by omega) (fun w17 hc17 hb17 => ⟨fun h => (nomatch h), ?_⟩)
       repeat' (first|refine ai rfl ?_|refine aa ?_|refine ah rfl ?_|refine ae ?_|refine aZ rfl rfl (by omega) (by omega) ?_|refine aK ?_)
       have hu : Ent true (16 * K + 17) w16 u.val ((F k k * F i j - F i k * F k j) / last) := Ent.of hI16 (by
        have := hlbs i j (by omega) hi (by omega) hj
        rwa [kh F last (by omega) hi (by omega)] at this)
       have hput := (hO12.ext hE1216).put (j := j) hi hbi16 (fun m hm => (hEi m hm).ext hE1216) hu hc17 hb17
       have hgi4 := hg4 i hi
       have hloi := (hO12.row i hi).low
       exact ⟨⟨j + 1, ⟨by omega, hj, (hE12.trans hE1216).chg hc17 hloi, hput.congr (fun a b _ _ => (qa F last hki' hkj' a b).symm), (hx12.ext hE1216).chg hc17 (Ne.symm hgi4), (hxe12.ext hE1216).gbN hbi16 (bF _ _) (bG hc17)⟩, by omega, rfl, trivial⟩, (by (repeat (first|exact aE _ _ _|refine aw rfl ?_|refine au rfl ?_|refine ak rfl ?_|refine ao rfl ?_)))⟩
      ·have ejn : n = j := by omega
       subst ejn
       repeat' (first|refine bA rfl rfl (by omega) ?_|refine aZ rfl rfl (by omega) (by omega) ?_|refine ai rfl ?_|refine aa ?_|refine aj ?_|refine ah rfl ?_|refine ae ?_|refine ay rfl ?_|refine aV ?_|refine aL ?_|refine aW ?_|refine aK ?_)
       exact ⟨⟨i + 1, ⟨by omega, hi, hE12, hO12.congr (fun a b _ hb => p9 F last (by omega) hb), hx12, hxe12⟩, by omega, rfl, trivial⟩, (by (repeat (first|exact aE _ _ _|refine aw rfl ?_|refine au rfl ?_|refine ak rfl ?_|refine ao rfl ?_)))⟩
     ·have ein : n = i := by omega
      subst ein
      obtain ⟨hk', hbk, hck, hEk⟩ := hO11.get hkn
      have e4 := fx F last (k := k) (i := n) (j := k + 1) (a := k) (b := k) (by omega)
      have n4 : Ent true (16 * K + 17) w11 (hk' k).val (F k k) := by rw [← e4]; exact hEk k hkn
      repeat' (first|refine bA rfl rfl (by omega) ?_|refine aC (j := k) (a := some ⟨g, 0, none⟩) rfl rfl ⟨_, _, rfl⟩ (by omega) ?_|refine aU (j := k) (a := some ⟨g, 0, none⟩) (n := n) (s := fun k => ⟨some ⟨gs k, 0, none⟩, n, cp k⟩) rfl hO11.top.sl (by omega) rfl ?_|refine aT (j := k) (a := some ⟨gs k, 0, none⟩) rfl rfl ⟨_, _, rfl⟩ (by omega) ?_|refine bu (j := k) (n := cp k) (a := some ⟨gs k, 0, none⟩) rfl hbk.sl ⟨_, _, rfl⟩ (by omega) ?_|refine ai rfl ?_|refine aa ?_|refine aj ?_|refine ah rfl ?_|refine ae ?_|refine ay rfl ?_|refine aV ?_|refine aL ?_|refine aW ?_)
      refine ax (n := 2) (vs := (hk' k).cells) rfl rfl rfl rfl hx11 rfl (fun w12 hc12 hb12 => ⟨fun _ _ => trivial, ?_⟩)
      repeat' (first|refine ai rfl ?_|refine aa ?_|refine ah rfl ?_|refine ae ?_|refine aZ rfl rfl (by omega) (by omega) ?_|refine aK ?_)
      exact ⟨⟨(k + 1, elm F last k n (k + 1), gs, cp, neg, hk' k, F k k), ⟨hkn, hE11.chg hc12 hlo4, hO11.gbN hx11 (aI _ _ _ _) (bG hc12) (Ne.symm hgg4) hg4, hg4, hb12, n4.gbN hx11 (aI _ _ _ _) (bG hc12), hstep⟩, by simp only; omega, rfl, rfl, trivial⟩, (by (repeat (first|exact aE _ _ _|refine aw rfl ?_|refine au rfl ?_|refine ak rfl ?_|refine ao rfl ?_)))⟩
   ·obtain rfl : p = n := by omega
    repeat' (first|refine jJ rfl rfl rfl ?_|refine cL (cs := intL false none 0 0) rfl ?_|refine ai rfl ?_|refine aa ?_|refine aj ?_|refine ah rfl ?_|refine ae ?_|refine aD rfl ?_)
    refine ax (n := 2) (vs := ih0.cells) rfl rfl rfl rfl (hb06.ext hE7) rfl (fun w8 hc8 hb8 => ⟨fun _ _ => trivial, ?_⟩)
    repeat' (first|refine aa ?_|refine ae ?_|refine aR ?_|refine bv ?_|refine cN ?_)
    have hd : det p A = 0 := hB.none hkn (fun i h1 h2 => hz i h1 h2)
    refine bK rfl (rc rfl rfl hb8) ⟨?_, (hE06.trans hE7).chg hc8 hn0.lo⟩
    rw [hd]
    exact kU _
 ·have ekn : n = k := by omega
  subst ekn
  have hdet : det n A = (if neg = true then -1 else 1) * last := hB.fin
  rcases Bool.eq_false_or_eq_true neg with rfl | rfl
  ·repeat' (first|refine bA rfl rfl (by omega) ?_|refine aN (g := g4) rfl hx6 rfl ?_|refine ai rfl ?_|refine aa ?_|refine aj ?_|refine ah rfl ?_|refine ae ?_|refine aD rfl ?_|refine ay rfl ?_|refine aV ?_|refine aL ?_|refine aW ?_)
   refine av (jQ hxe.k) rfl ?_
   rintro v w7 ⟨hI7, hE7⟩
   refine ⟨fun _ _ => trivial, ?_⟩
   obtain ⟨y, rfl⟩ := hI7.ih
   refine ax (n := 2) (vs := y.cells) rfl rfl rfl rfl (hb06.ext hE7) rfl (fun w8 hc8 hb8 => ⟨fun _ _ => trivial, ?_⟩)
   repeat' (first|refine aa ?_|refine ae ?_|refine aR ?_|refine bv ?_)
   refine bK rfl (rc rfl rfl hb8) ⟨?_, (hE06.trans hE7).chg hc8 hn0.lo⟩
   rw [hdet, if_pos rfl, Int.neg_one_mul]
   exact (Ent.of hI7 hxe.lb.neg).gbN (hb06.ext hE7) (aI _ _ _ _) (bG hc8)
  ·repeat' (first|refine bA rfl rfl (by omega) ?_|refine aN (g := g4) rfl hx6 rfl ?_|refine ai rfl ?_|refine aa ?_|refine aj ?_|refine ah rfl ?_|refine ae ?_|refine ay rfl ?_|refine aV ?_|refine aL ?_|refine aW ?_|refine aF ?_)
   refine ax (n := 2) (vs := x.cells) rfl rfl rfl rfl hb06 rfl (fun w8 hc8 hb8 => ⟨fun _ _ => trivial, ?_⟩)
   repeat' (first|refine aa ?_|refine ae ?_|refine aR ?_)
   refine bK rfl (rc rfl rfl hb8) ⟨?_, hE06.chg hc8 hn0.lo⟩
   rw [hdet, if_neg (by decide), Int.one_mul]
   exact hxe.gbN hb06 (aI _ _ _ _) (bG hc8)
end Go.Proofs.YtppipmkpmmdcjaaGreat
namespace Go.Proofs.YtppipmkpmmdcjaaGreat
open Go.W Go.LM Go.LA
section
variable {K lo gp r c g g' : Nat} {w w' : World} {gs cp gs' cp' : Nat → Nat} {H U H' U' : Mat}
end
theorem mD (M : Mat) (t p q a b : Nat) : (if a < t + 1 then cswp M p q a b else M a b) = setM (setM (fun a b => if a < t then cswp M p q a b else M a b) t p (M t q)) t q (M t p) a b := by
 by_cases h1 : a = t
 ·subst h1
  by_cases h2 : b = q
  ·subst h2
   by_cases h3 : b = p
   ·subst h3; simp [setM, cswp]
   ·simp [setM, cswp, h3]
  ·by_cases h3 : b = p
   ·subst h3; simp [setM, cswp, h2]
   ·simp [setM, cswp, h2, h3]
 ·by_cases h2 : a < t
  ·have h4 : a < t + 1 := by omega
   simp [setM, h1, h2, h4]
  ·have h4 : ¬ a < t + 1 := by omega
   simp [setM, h1, h2, h4]
end Go.Proofs.YtppipmkpmmdcjaaGreat
namespace Go.Proofs.YtppipmkpmmdcjaaGreat
open Go.W Go.LM Go.LA
set_option maxHeartbeats 4000000 in
theorem ll {K Ku lo ge r c gd gu gv t p q : Nat} {w : World} {lab : Nat → Nat} {D : Mat} (hE : EL K Ku w lab lo ge r c gd gu gv D) (hr : r ≤ 1000) (hc : c ≤ 1000) (htr : t < r) (hpr : p < r) (htc : t < c) (hqc : q < c) :
  CallsR Tryz.prog 59 #[.pointer (some ⟨ge, 0, none⟩), .int .i64 (t : Int), .int .i64 (p : Int), .int .i64 (q : Int)] w fun _ w' => Fe lo w w' ∧ EL K Ku w' lab lo ge r c gd gu gv (cswp (fun a b => D (swp2 t p a) b) t q) := by
 obtain ⟨s, cp, hM, hlab⟩ := hE.d
 have hb := hE.blk
 refine aH (args := [_, _, _, _]) Tryz.func59 rfl rfl ?_
 repeat' (first|refine aj ?_)
 refine bi (late := [25, 27]) (plan := [(0, none), (1, none), (2, none), (3, none), (4, none), (5, none), (6, none), (7, none), (8, none), (9, none), (10, none), (11, none), (12, none), (13, none), (14, none), (15, none), (16, none), (17, none), (18, none), (19, none), (20, none), (21, none), (22, none), (23, none), (24, none), (25, some false), (26, none), (27, some false)]) (fun w' => Ex w w') bB (by kernel_rfl) (Ex.refl w).drew ?_
 have hEd0 := (Ex.refl w).drew
 repeat' (first|refine aQ (g := ge) (cs := elL gd gu gv r c) rfl (fun _ h => hb.ext h) rfl ?_|refine aC (j := p) (a := some ⟨gd, 0, none⟩) rfl rfl ⟨_, _, rfl⟩ (by omega) ?_|refine aC (j := t) (a := some ⟨gd, 0, none⟩) rfl rfl ⟨_, _, rfl⟩ (by omega) ?_|refine aU (j := p) (a := some ⟨gd, 0, none⟩) (n := r) (s := fun k => ⟨some ⟨s k, 0, none⟩, c, cp k⟩) rfl (fun _ h => (hM.ext h).top.sl) (by omega) rfl ?_|refine aU (j := t) (a := some ⟨gd, 0, none⟩) (n := r) (s := fun k => ⟨some ⟨s k, 0, none⟩, c, cp k⟩) rfl (fun _ h => (hM.ext h).top.sl) (by omega) rfl ?_|refine ai rfl ?_|refine aG rfl ?_)
 refine ci (j := t) (u := ⟨some ⟨s p, 0, none⟩, c, cp p⟩) rfl rfl (hM.ext hEd0).top (by omega) (fun w1a hc1a hT1a => ⟨fun h => (nomatch h), ?_⟩)
 repeat' (first|refine aC (j := p) (a := some ⟨gd, 0, none⟩) rfl rfl ⟨_, _, rfl⟩ (by omega) ?_)
 refine ci (j := p) (u := ⟨some ⟨s t, 0, none⟩, c, cp t⟩) rfl rfl hT1a (by omega) (fun w1 hc1 hT1 => ⟨fun h => (nomatch h), ?_⟩)
 have hS1 := (hM.ext hEd0).swap htr hpr hc1a hc1 hT1
 have hF1 : Fr (fun b => b = gd) w w1 := Fr.trans (Fr.trans (Ex.fr hEd0) (Chg.fr (F := fun b => b = gd) hc1a rfl)) (Chg.fr (F := fun b => b = gd) hc1 rfl)
 have hE1 : EL K Ku w1 lab lo ge r c gd gu gv (fun a => D (swp2 t p a)) := hE.setD hM.noT hF1 (fun b e => by rw [e]; exact hE.l1) ⟨_, _, hS1, fun i hi => hlab _ (du htr hpr hi)⟩
 have hFe1 : Fe lo w w1 := Fe.fr hF1 fun k e => by rw [e]; exact hM.low
 obtain ⟨su, cpu, U, hU, hlu⟩ := hE1.u
 have hb1 := hE1.blk
 repeat' (first|refine aa ?_|refine aj ?_|refine ae ?_)
 refine bi (late := [25, 27]) (plan := [(0, none), (1, none), (2, none), (3, none), (4, none), (5, none), (6, none), (7, none), (8, none), (9, none), (10, none), (11, none), (12, none), (13, none), (14, none), (15, none), (16, none), (17, none), (18, none), (19, none), (20, none), (21, none), (22, none), (23, none), (24, none), (25, some false), (26, none), (27, some false)]) (fun w' => Ex w1 w') bB (by kernel_rfl) (Ex.refl w1).drew ?_
 have hEd1 := (Ex.refl w1).drew
 repeat' (first|refine aQ (g := ge) (cs := elL gd gu gv r c) rfl (fun _ h => hb1.ext h) rfl ?_|refine aC (j := p) (a := some ⟨gu, 0, none⟩) rfl rfl ⟨_, _, rfl⟩ (by omega) ?_|refine aC (j := t) (a := some ⟨gu, 0, none⟩) rfl rfl ⟨_, _, rfl⟩ (by omega) ?_|refine aU (j := p) (a := some ⟨gu, 0, none⟩) (n := r) (s := fun k => ⟨some ⟨su k, 0, none⟩, r, cpu k⟩) rfl (fun _ h => (hU.ext h).top.sl) (by omega) rfl ?_|refine aU (j := t) (a := some ⟨gu, 0, none⟩) (n := r) (s := fun k => ⟨some ⟨su k, 0, none⟩, r, cpu k⟩) rfl (fun _ h => (hU.ext h).top.sl) (by omega) rfl ?_|refine ai rfl ?_|refine aG rfl ?_)
 refine ci (j := t) (u := ⟨some ⟨su p, 0, none⟩, r, cpu p⟩) rfl rfl (hU.ext hEd1).top (by omega) (fun w5a hc5a hT5a => ⟨fun h => (nomatch h), ?_⟩)
 repeat' (first|refine aC (j := p) (a := some ⟨gu, 0, none⟩) rfl rfl ⟨_, _, rfl⟩ (by omega) ?_)
 refine ci (j := p) (u := ⟨some ⟨su t, 0, none⟩, r, cpu t⟩) rfl rfl hT5a (by omega) (fun w5 hc5 hT5 => ⟨fun h => (nomatch h), ?_⟩)
 have hS5 := (hU.ext hEd1).swap htr hpr hc5a hc5 hT5
 have hF5 : Fr (fun b => b = gu) w1 w5 := Fr.trans (Fr.trans (Ex.fr hEd1) (Chg.fr (F := fun b => b = gu) hc5a rfl)) (Chg.fr (F := fun b => b = gu) hc5 rfl)
 have hE5 : EL K Ku w5 lab lo ge r c gd gu gv (fun a => D (swp2 t p a)) := hE1.setU hU.noT hF5 (fun b e => by rw [e]; exact hE.l2) (Nat.le_refl _) ⟨_, _, _, hS5, fun i hi => hlu _ (du htr hpr hi)⟩
 have hFe5 : Fe lo w w5 := hFe1.trans (Fe.fr hF5 fun k e => by rw [e]; exact hU.low)
 clear hS1 hS5 hF1 hF5 hM hU hb1 hE1 hFe1
 obtain ⟨s6, cp6, hM6, hl6⟩ := hE5.d
 obtain ⟨D1, hD1⟩ : ∃ D1 : Mat, D1 = fun a b => D (swp2 t p a) b := ⟨_, rfl⟩
 rw [← hD1] at hE5 hM6 ⊢
 repeat' (first|refine aQ (g := ge) (cs := elL gd gu gv r c) rfl hE5.blk rfl ?_|refine ai rfl ?_|refine aa ?_|refine aj ?_|refine ah rfl ?_|refine ae ?_|refine bh rfl ?_|refine aG rfl ?_|refine aA ?_)
 refine aY (ι := Nat) [9, 69, 70, 71, 72, 73, 74, 75, 76, 77, 78, 79, 80, 81, 82, 83, 84, 85, 86, 87] (fun x => [(69, .int .i64 (x : Int))])
  (fun x w' => x ≤ r ∧ Fr (rowsB r s6) w5 w' ∧ MO true K w' lo gd r c s6 cp6 (fun a b => if a < x then (cswp D1 t q) a b else D1 a b)) (fun x => r - x)
  0 ⟨rfl, trivial⟩ ⟨by omega, Fr.refl _ _, hM6.congr (fun a b _ _ => if_neg (by omega))⟩ ?_
 rintro x ξ0 w2 ⟨hx, hF2, hO2⟩
 show CW _ _ _ _ (over [(69, .int .i64 (x : Int))] _) w2
 rcases Nat.lt_or_ge x r with hxn | hxn
 ·obtain ⟨hh, hbr, hcr, hEr⟩ := hO2.get hxn
  simp only [Nat.lt_irrefl, if_false] at hEr
  repeat' (first|refine bC rfl rfl (by omega) ?_|refine aa ?_|refine aj ?_|refine ah rfl ?_|refine ae ?_|refine aD rfl ?_|refine aF ?_)
  refine aA ?_
  repeat' (first|refine aC (j := x) (a := some ⟨gd, 0, none⟩) rfl rfl ⟨_, _, rfl⟩ (by omega) ?_|refine aU (j := x) (a := some ⟨gd, 0, none⟩) (n := r) (s := fun k => ⟨some ⟨s6 k, 0, none⟩, c, cp6 k⟩) rfl hO2.top.sl (by omega) rfl ?_|refine ai rfl ?_|refine aa ?_|refine aj ?_|refine ah rfl ?_|refine ae ?_)
  refine bi (late := [13, 15]) (plan := [(0, none), (1, none), (2, none), (3, none), (4, none), (5, none), (6, none), (7, none), (8, none), (9, none), (10, none), (11, none), (12, none), (13, some false), (14, none), (15, some false)]) (fun w' => Ex w2 w') bB (by kernel_rfl) (Ex.refl w2).drew ?_
  have hEd := (Ex.refl w2).drew
  repeat' (first|refine aT (j := q) (a := some ⟨s6 x, 0, none⟩) rfl rfl ⟨_, _, rfl⟩ (by omega) ?_|refine aT (j := t) (a := some ⟨s6 x, 0, none⟩) rfl rfl ⟨_, _, rfl⟩ (by omega) ?_|refine bu (j := q) (n := cp6 x) (a := some ⟨s6 x, 0, none⟩) rfl (fun _ h => (hbr.ext h).sl) ⟨_, _, rfl⟩ (by omega) ?_|refine bu (j := t) (n := cp6 x) (a := some ⟨s6 x, 0, none⟩) rfl (fun _ h => (hbr.ext h).sl) ⟨_, _, rfl⟩ (by omega) ?_|refine ai rfl ?_)
  refine ch (j := t) (n := cp6 x) (u := hh q) rfl rfl (hbr.ext hEd) (by omega) (fun w3 hc3 hb3 => ⟨fun h => (nomatch h), ?_⟩)
  have hO3 := (hO2.ext hEd).put (j := t) hxn (hbr.ext hEd) (fun j hj => by simp only [Nat.lt_irrefl, if_false]; exact (hEr j hj).ext hEd) ((hEr q hqc).ext hEd) hc3 hb3
  repeat' (first|refine aT (j := q) (a := some ⟨s6 x, 0, none⟩) rfl rfl ⟨_, _, rfl⟩ (by omega) ?_)
  refine ch (j := q) (n := cp6 x) (u := hh t) rfl rfl hb3 (by omega) (fun w4 hc4 hb4 => ⟨fun h => (nomatch h), ?_⟩)
  have hO4 := hO3.put (j := q) (u := hh t) (z := D1 x t) hxn hb3 (fun j hj => by
   unfold setM setF
   by_cases e : j = t
   ·subst e; rw [if_pos rfl, if_pos ⟨rfl, rfl⟩]; exact ((hEr q hqc).ext hEd).gbN (hbr.ext hEd) (bF _ _) (bG hc3)
   ·rw [if_neg e, if_neg (fun h => e h.2)]; simp only [Nat.lt_irrefl, if_false]; exact ((hEr j hj).ext hEd).gbN (hbr.ext hEd) (bF _ _) (bG hc3))
   (((hEr t htc).ext hEd).gbN (hbr.ext hEd) (bF _ _) (bG hc3)) hc4 hb4
  repeat' (first|refine ai rfl ?_|refine aa ?_|refine ah rfl ?_|refine ae ?_|refine aZ rfl rfl (by omega) (by omega) ?_|refine aK ?_)
  refine ⟨⟨x + 1, ⟨hxn, ((hF2.trans hEd.fr).trans (hc3.fr ⟨x, hxn, rfl⟩)).trans (hc4.fr ⟨x, hxn, rfl⟩), hO4.congr (fun a b _ _ => mD D1 x t q a b)⟩, by omega, rfl, trivial⟩, (by (repeat (first|exact aE _ _ _|refine aw rfl ?_|refine au rfl ?_|refine ak rfl ?_|refine ao rfl ?_)))⟩
 ·have exr : x = r := by omega
  have hE2 : EL K Ku w2 lab lo ge r c gd gu gv (cswp D1 t q) := hE5.setD hM6.noR hF2 (fun b ⟨k, hk, e⟩ => by rw [e]; exact hl6 k hk) ⟨s6, cp6, hO2.congr (fun a b ha _ => by rw [if_pos (by omega)]), hl6⟩
  have hFe2 : Fe lo w w2 := hFe5.trans (Fe.fr hF2 fun k ⟨i, hi, e⟩ => by rw [e]; exact (hM6.row i hi).low)
  obtain ⟨sv, cpv, V, hV, hlv⟩ := hE2.v
  clear hE5 hM6 hO2 hF2
  obtain ⟨w7, e7⟩ : ∃ w7, w7 = w2 := ⟨_, rfl⟩
  rw [← e7] at hE2 hFe2 hV ⊢
  clear e7
  repeat' (first|refine bA rfl rfl (by omega) ?_|refine aQ (g := ge) (cs := elL gd gu gv r c) rfl hE2.blk rfl ?_|refine ai rfl ?_|refine aa ?_|refine aj ?_|refine ah rfl ?_|refine ae ?_|refine bh rfl ?_|refine aG rfl ?_|refine ay rfl ?_|refine aA ?_|refine aV ?_|refine aL ?_|refine aW ?_)
  refine aY (ι := Nat) [11, 93, 94, 95, 96, 97, 98, 99, 100, 101, 102, 103, 104, 105, 106, 107, 108, 109, 110, 111] (fun x => [(93, .int .i64 (x : Int))])
   (fun x w' => x ≤ c ∧ Fr (rowsB c sv) w7 w' ∧ MO true Ku w' lo gv c c sv cpv (fun a b => if a < x then (cswp V t q) a b else V a b)) (fun x => c - x)
   0 ⟨rfl, trivial⟩ ⟨by omega, Fr.refl _ _, hV.congr (fun a b _ _ => if_neg (by omega))⟩ ?_
  rintro x ξ1 w2 ⟨hx, hF2, hO2⟩
  show CW _ _ _ _ (over [(93, .int .i64 (x : Int))] _) w2
  rcases Nat.lt_or_ge x c with hxn | hxn
  ·obtain ⟨hh, hbr, hcr, hEr⟩ := hO2.get hxn
   simp only [Nat.lt_irrefl, if_false] at hEr
   repeat' (first|refine bC rfl rfl (by omega) ?_|refine aa ?_|refine aj ?_|refine ah rfl ?_|refine ae ?_|refine aD rfl ?_|refine aF ?_)
   refine aA ?_
   repeat' (first|refine aC (j := x) (a := some ⟨gv, 0, none⟩) rfl rfl ⟨_, _, rfl⟩ (by omega) ?_|refine aU (j := x) (a := some ⟨gv, 0, none⟩) (n := c) (s := fun k => ⟨some ⟨sv k, 0, none⟩, c, cpv k⟩) rfl hO2.top.sl (by omega) rfl ?_|refine ai rfl ?_|refine aa ?_|refine aj ?_|refine ah rfl ?_|refine ae ?_)
   refine bi (late := [13, 15]) (plan := [(0, none), (1, none), (2, none), (3, none), (4, none), (5, none), (6, none), (7, none), (8, none), (9, none), (10, none), (11, none), (12, none), (13, some false), (14, none), (15, some false)]) (fun w' => Ex w2 w') bB (by kernel_rfl) (Ex.refl w2).drew ?_
   have hEd := (Ex.refl w2).drew
   repeat' (first|refine aT (j := q) (a := some ⟨sv x, 0, none⟩) rfl rfl ⟨_, _, rfl⟩ (by omega) ?_|refine aT (j := t) (a := some ⟨sv x, 0, none⟩) rfl rfl ⟨_, _, rfl⟩ (by omega) ?_|refine bu (j := q) (n := cpv x) (a := some ⟨sv x, 0, none⟩) rfl (fun _ h => (hbr.ext h).sl) ⟨_, _, rfl⟩ (by omega) ?_|refine bu (j := t) (n := cpv x) (a := some ⟨sv x, 0, none⟩) rfl (fun _ h => (hbr.ext h).sl) ⟨_, _, rfl⟩ (by omega) ?_|refine ai rfl ?_)
   refine ch (j := t) (n := cpv x) (u := hh q) rfl rfl (hbr.ext hEd) (by omega) (fun w3 hc3 hb3 => ⟨fun h => (nomatch h), ?_⟩)
   have hO3 := (hO2.ext hEd).put (j := t) hxn (hbr.ext hEd) (fun j hj => by simp only [Nat.lt_irrefl, if_false]; exact (hEr j hj).ext hEd) ((hEr q hqc).ext hEd) hc3 hb3
   repeat' (first|refine aT (j := q) (a := some ⟨sv x, 0, none⟩) rfl rfl ⟨_, _, rfl⟩ (by omega) ?_)
   refine ch (j := q) (n := cpv x) (u := hh t) rfl rfl hb3 (by omega) (fun w4 hc4 hb4 => ⟨fun h => (nomatch h), ?_⟩)
   have hO4 := hO3.put (j := q) (u := hh t) (z := V x t) hxn hb3 (fun j hj => by
    unfold setM setF
    by_cases e : j = t
    ·subst e; rw [if_pos rfl, if_pos ⟨rfl, rfl⟩]; exact ((hEr q hqc).ext hEd).gbN (hbr.ext hEd) (bF _ _) (bG hc3)
    ·rw [if_neg e, if_neg (fun h => e h.2)]; simp only [Nat.lt_irrefl, if_false]; exact ((hEr j hj).ext hEd).gbN (hbr.ext hEd) (bF _ _) (bG hc3))
    (((hEr t htc).ext hEd).gbN (hbr.ext hEd) (bF _ _) (bG hc3)) hc4 hb4
   repeat' (first|refine ai rfl ?_|refine aa ?_|refine ah rfl ?_|refine ae ?_|refine aZ rfl rfl (by omega) (by omega) ?_|refine aK ?_)
   refine ⟨⟨x + 1, ⟨hxn, ((hF2.trans hEd.fr).trans (hc3.fr ⟨x, hxn, rfl⟩)).trans (hc4.fr ⟨x, hxn, rfl⟩), hO4.congr (fun a b _ _ => mD V x t q a b)⟩, by omega, rfl, trivial⟩, (by (repeat (first|exact aE _ _ _|refine aw rfl ?_|refine au rfl ?_|refine ak rfl ?_|refine ao rfl ?_)))⟩
  ·have exc : x = c := by omega
   repeat' (first|refine bA rfl rfl (by omega) ?_|refine aa ?_|refine aj ?_|refine ah rfl ?_|refine ae ?_|refine ay rfl ?_|refine aV ?_|refine aL ?_|refine aW ?_)
   have hEL9 : EL K Ku w2 lab lo ge r c gd gu gv (cswp D1 t q) := hE2.setV hV.noR hF2 (fun b ⟨k, hk, e⟩ => by rw [e]; exact hlv k hk) (Nat.le_refl _) ⟨sv, cpv, cswp V t q, hO2.congr (fun a b ha _ => by rw [if_pos (by omega)]), hlv⟩
   exact jq rfl ⟨hFe2.trans (Fe.fr hF2 fun k ⟨i, hi, e⟩ => by rw [e]; exact (hV.row i hi).low), hEL9⟩
end Go.Proofs.YtppipmkpmmdcjaaGreat
