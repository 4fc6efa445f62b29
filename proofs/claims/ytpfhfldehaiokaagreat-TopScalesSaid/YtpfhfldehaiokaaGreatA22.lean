import Derived.Test.YtpfhfldehaiokaaGreatA21
set_option maxHeartbeats 4000000
namespace Go.Proofs.YtpfhfldehaiokaaGreat
open Go.W Go.LM Go.LA
theorem oF {c1 c2 : Bool} {K1 K2 r n c ca cb : Nat} {w : World} {a b : Option Addr} {s s' : Nat → SD} {A B : Mat} (hA : MX c1 K1 w a r n s A) (hB : MX c2 K2 w b n c s' B)
  (hr : 1 ≤ r ∧ r ≤ 16) (hn : 1 ≤ n ∧ n ≤ 16) (hc : 1 ≤ c ∧ c ≤ 16) (hK : K1 + K2 + 2 < 17592186044416) :
  CallsR Tryz.prog 85 #[.slice a r ca, .slice b n cb] w fun v w' => ∃ u, v = .tuple #[u, .bool true] ∧ RetMO (K1 + K2 + 1) w r c (mm n A B) u w' := by
 have hpt := hA.plain (by omega)
 refine aE (args := [_, _]) Tryz.func85 rfl rfl ?_
 repeat' (first|refine aj rfl ?_|refine aa ?_|refine ak ?_|refine ai rfl ?_|refine ah ?_)
 refine au (dL hA.top) rfl ?_
 rintro v w1 ⟨rfl, hE1⟩
 refine tvv ?_
 rw [eK hA hr hn]
 repeat' (first|refine aR rfl rfl ?_|refine aj rfl ?_|refine aa ?_|refine ak ?_|refine ai rfl ?_|refine ah ?_)
 refine au (f7 (hB.ext hE1) hn hc) rfl ?_
 rintro v w2 ⟨_, rfl, gt, gst, cpt, rfl, hT2, hE2⟩
 refine tvv ?_
 repeat' (first|refine aR rfl rfl ?_|refine eI rfl rfl rfl ?_|refine aj rfl ?_|refine aa ?_|refine ak ?_|refine ai rfl ?_|refine ah ?_|refine bc rfl ?_|refine bJ rfl rfl ?_|refine ao rfl ?_|refine aC ?_)
 refine au (fp (r := r) (c := c) (by omega) (by omega)) rfl ?_
 rintro v w3 ⟨g, gs, cp, rfl, hO3, hE3⟩
 refine tvv ?_
 have hE02 := hE1.trans hE2
 have s2 := hE02.size
 have hE03 := hE02.trans hE3
 have lM : ∀ i j, i < r → j < c → Lb (K1 + K2 + 1) (mm n A B i j) := fun i j hi hj => oz (fun k hk => hA.lb hi hk) (fun k hk => hB.lb hk hj) (by omega)
 repeat' (first|refine aj rfl ?_|refine aa ?_|refine ak ?_|refine ai rfl ?_|refine ah ?_|refine bc rfl ?_|refine ay ?_)
 refine aW (ι := Nat) [12, 13, 44, 45, 46, 47, 48, 49, 50, 51, 52, 53, 54, 55, 56, 57, 58, 59, 60, 61, 62, 63, 64, 65, 66, 67, 68] (fun i => [(44, .int .i64 (i : Int))])
  (fun i w' => i ≤ r ∧ Ex w2 w' ∧ MO true (K1 + K2 + 1) w' w2.heap.size g r c gs cp (fun x y => if x < i then mm n A B x y else 0)) (fun i => r - i)
  0 ⟨rfl, trivial⟩ ⟨by omega, hE3, (hO3.up (by omega)).congr fun x y _ _ => if_neg (by omega)⟩ ?_
 clear hO3 hE03 hE3
 rintro i ξ w4 ⟨hi, hE4, hO4⟩
 show CW _ _ _ _ (over [(44, .int .i64 (i : Int))] _) w4
 rcases Nat.lt_or_ge i r with hir | hir
 ·repeat' (first|refine bq rfl rfl (by omega) ?_|refine aj rfl ?_|refine aa ?_|refine ak ?_|refine ai rfl ?_|refine ah ?_|refine bc rfl ?_|refine aA rfl ?_|refine ay ?_|refine aC ?_)
  refine aW (ι := Nat) [13, 49, 50, 51, 52, 53, 54, 55, 56, 57, 58, 59, 60, 61, 62, 63, 64, 65, 66, 67] (fun j => [(49, .int .i64 (j : Int))])
   (fun j w' => j ≤ c ∧ Ex w2 w' ∧ MO true (K1 + K2 + 1) w' w2.heap.size g r c gs cp (fun x y => if x < i ∨ (x = i ∧ y < j) then mm n A B x y else 0)) (fun j => c - j)
   0 ⟨rfl, trivial⟩ ⟨by omega, hE4, hO4.congr fun x y _ _ => by
    by_cases h : x < i
    ·rw [if_pos h, if_pos (.inl h)]
    ·rw [if_neg h, if_neg (by omega)]⟩ ?_
  clear hO4 hE4
  rintro j ξ2 w5 ⟨hj, hE5, hO5⟩
  show CW _ _ _ _ (over [(49, .int .i64 (j : Int))] _) w5
  rcases Nat.lt_or_ge j c with hjc | hjc
  ·have hE05 := hE02.trans hE5
   obtain ⟨hhr, hbr, hcr, hEr⟩ := hO5.get hir
   have hT5 := hT2.ext hE5
   repeat' (first|refine bq rfl rfl (by omega) ?_|refine aa ?_|refine ak ?_|refine ai rfl ?_|refine ah ?_|refine aA rfl ?_|refine aC ?_)
   refine ay ?_
   repeat' (first|refine aj rfl ?_|refine aa ?_|refine ak ?_|refine ai rfl ?_|refine ah ?_)
   refine bn (late := [15]) (plan := [(0, none), (1, none), (2, none), (3, none), (4, none), (5, none), (6, none), (7, none), (8, none), (9, none), (10, none), (11, none), (12, none), (13, some true), (14, none), (15, some false)]) (fun w' => Ex w5 w') bD (by kernel_rfl) (Ex.refl w5).drew ?_
   have hEd := (Ex.refl w5).drew
   repeat' (first|refine az (j := i) (a := some ⟨g, 0, none⟩) rfl rfl ⟨_, _, rfl⟩ (by omega) ?_|refine aZ (j := i) (a := some ⟨g, 0, none⟩) (n := r) (s := fun k => ⟨some ⟨gs k, 0, none⟩, c, cp k⟩) rfl (fun _ h => (hO5.ext h).top.sl) (by omega) rfl ?_|refine az (j := i) (a := a) rfl rfl hpt (by omega) ?_|refine df (j := i) (a := a) (n := r) (s := s) rfl (fun _ h => (hA.ext (hE05.trans h)).top) (by omega) ?_|refine az (j := j) (a := some ⟨gt, 0, none⟩) rfl rfl ⟨_, _, rfl⟩ (by omega) ?_|refine df (j := j) (a := some ⟨gt, 0, none⟩) (n := c) (s := fun k => ⟨some ⟨gst k, 0, none⟩, n, cpt k⟩) rfl (fun _ h => (hT5.ext h).top.sl) (by omega) ?_|refine aj rfl ?_)
   refine au (p8 (((hA.row i hir).ext hE05).ext hEd) (((hT5.row j hjc).rx).ext hEd) (by omega) (by omega)) rfl ?_
   rintro v w6 ⟨hI6, hE6⟩
   refine ⟨fun _ h => h.trans hE6, ?_⟩
   obtain ⟨u, rfl⟩ := hI6.ih
   have hE56 := hEd.trans hE6
   repeat' (first|refine bE (j := j) (a := some ⟨gs i, 0, none⟩) rfl rfl ⟨_, _, rfl⟩ (by omega) ?_)
   refine eD (j := j) (n := cp i) (u := u) rfl rfl (hbr.ext hE56) (by omega) (fun w7 hc7 hb7 => ⟨fun h => (nomatch h), ?_⟩)
   repeat' (first|refine aj rfl ?_|refine aa ?_|refine ai rfl ?_|refine ah ?_|refine aV rfl rfl (by omega) (by omega) ?_|refine aJ ?_)
   refine ⟨⟨j + 1, ⟨hjc, (hE5.trans hE56).chg hc7 (hO5.row i hir).low, ((hO5.ext hE56).put hir (hbr.ext hE56) (fun k hk => (hEr k hk).ext hE56) (Ent.of hI6 (lM i j hir hjc)) hc7 hb7).congr fun x y _ _ => ?_⟩, by omega, rfl, trivial⟩, (by (repeat (first|exact aG _ _ _|refine aB rfl ?_|refine ax rfl ?_|refine av rfl ?_|refine aw rfl ?_)))⟩
   unfold setM
   by_cases h : x = i ∧ y = j
   ·rw [if_pos h, if_pos (by omega), h.1, h.2]; rfl
   ·rw [if_neg h]
    show _ = if x < i ∨ (x = i ∧ y < j) then mm n A B x y else 0
    by_cases h' : x < i ∨ (x = i ∧ y < j)
    ·rw [if_pos h', if_pos (by omega)]
    ·rw [if_neg h', if_neg (by omega)]
  ·have ejc : c = j := by omega
   subst ejc
   repeat' (first|refine bp rfl rfl (by omega) ?_|refine aj rfl ?_|refine aa ?_|refine ak ?_|refine ai rfl ?_|refine ah ?_|refine aV rfl rfl (by omega) (by omega) ?_|refine ao rfl ?_|refine aT ?_|refine aO ?_|refine aU ?_|refine aJ ?_)
   refine ⟨⟨i + 1, ⟨hir, hE5, hO5.congr fun x y _ hy => ?_⟩, by omega, rfl, trivial⟩, (by (repeat (first|exact aG _ _ _|refine aB rfl ?_|refine ax rfl ?_|refine av rfl ?_|refine aw rfl ?_)))⟩
   by_cases h : x < i + 1
   ·rw [if_pos h, if_pos (by omega)]
   ·rw [if_neg h, if_neg (by omega)]
 ·have eir : r = i := by omega
  subst eir
  repeat' (first|refine bp rfl rfl (by omega) ?_|refine aj rfl ?_|refine aa ?_|refine ak ?_|refine ai rfl ?_|refine ah ?_|refine ao rfl ?_|refine aT ?_|refine aO ?_|refine aU ?_|refine aK ?_)
  exact dw rfl (rt rfl) (rt rfl) ⟨_, rfl, g, gs, cp, rfl, (hO4.mono s2).congr fun x y hx _ => by rw [if_pos hx], hE02.trans hE4⟩
theorem ec {c1 c2 : Bool} {K1 K2 r n c ca cb : Nat} {w : World} {a b : Option Addr} {s s' : Nat → SD} {A B : Mat} (hA : MX c1 K1 w a r n s A) (hB : MX c2 K2 w b n c s' B)
  (hr : 1 ≤ r ∧ r ≤ 16) (hn : 1 ≤ n ∧ n ≤ 16) (hc : 1 ≤ c ∧ c ≤ 16) (hK : K1 + K2 + 2 < 17592186044416) :
  CallsR Tryz.prog 42 #[.slice a r ca, .slice b n cb] w (RetMO (K1 + K2 + 1) w r c (mm n A B)) := by
 refine aE (args := [_, _]) Tryz.func42 rfl rfl ?_
 repeat' (first|refine aj rfl ?_|refine aa ?_|refine ak ?_|refine ai rfl ?_|refine ah ?_)
 refine au (oF hA hB hr hn hc hK) rfl ?_
 rintro v w1 ⟨_, rfl, g, gs, cp, rfl, hO, hE1⟩
 refine tvv ?_
 repeat' (first|refine aR rfl rfl ?_|refine aj rfl ?_|refine aa ?_|refine ak ?_|refine ai rfl ?_|refine ah ?_|refine aK ?_)
 exact bo rfl (rt rfl) ⟨g, gs, cp, rfl, hO, hE1⟩
theorem wr {p k i : Nat} (h : p ≠ k) : swp2 p k i = if i = k then p else if i = p then k else i := by
 unfold swp2
 by_cases h1 : i = p
 ·by_cases h2 : i = k
  ·omega
  ·rw [if_pos h1, if_neg h2, if_pos h1]
 ·by_cases h2 : i = k
  ·rw [if_neg h1, if_pos h2, if_pos h2]
  ·rw [if_neg h1, if_neg h2, if_neg h2, if_neg h1]
theorem cZ {cn : Bool} {K n cap : Nat} {w : World} {a : Option Addr} {s : Nat → SD} {A : Mat} (hM : MX cn K w a n n s A) (hn : 1 ≤ n ∧ n ≤ 16) (hK : 16 * K + 17 ≤ 4398046511104) :
  CallsR Tryz.prog 10 #[.slice a n cap] w fun v w' => Ent true (16 * K + 17) w' v (det n A) ∧ Ex w w' := by
 refine aE (args := [_]) Tryz.func10 rfl rfl ?_
 refine ak ?_
 refine ai rfl ?_
 refine aH (fun g0 w0 hn0 => tvv ?_)
 have hb0 : Blk w0 g0 34 (intL false none 0 0) := hn0.blk
 repeat' (first|refine aj rfl ?_|refine aa ?_|refine ak ?_|refine ai rfl ?_|refine ah ?_)
 refine au (jg (hM.ext hn0.ex) ⟨hn.1, by omega⟩ ⟨hn.1, by omega⟩) rfl ?_
 rintro v w1 ⟨g, gs, cp, rfl, hO1, hE1⟩
 refine tvv ?_
 repeat' (first|refine aj rfl ?_|refine aa ?_|refine ak ?_|refine ai rfl ?_|refine ah ?_|refine bc rfl ?_)
 refine au (bV (z := 1) (by omega) (by omega) _) rfl ?_
 rintro v w3 ⟨hI3, hE3⟩
 refine tvv ?_
 obtain ⟨x3, rfl⟩ := hI3.ih
 refine aH (fun g4 w4 hn4 => tvv ?_)
 have hb4 : Blk w4 g4 34 (intL false none 0 0) := hn4.blk
 refine aF (n := 2) (vs := x3.cells) rfl rfl rfl rfl hb4 rfl (fun w5 hc5 hb5 => tvv ?_)
 have s1 := hE1.size
 have s3 := hE3.size
 have s4 := hn4.ex.size
 have l4 := hn4.lo
 have hE5 : Ex w0 w5 := ((hE1.trans hE3).trans hn4.ex).chg hc5 (by omega)
 have hO5 := (((hO1.ext hE3).ext hn4.ex).gbN hb4 (cg _ _ _ _) (dx hc5) (by have := hO1.lt; omega) (fun k hk => by have := (hO1.row k hk).lt; omega)).up (K' := 16 * K + 17) (by omega)
 have hx5 : Ent true (16 * K + 17) w5 x3.val 1 := ((Ent.of hI3 (bO (e := 16 * K + 17) (by decide) (by omega))).ext hn4.ex).gbN hb4 (cg _ _ _ _) (dx hc5)
 have hg4 : ∀ k, k < n → gs k ≠ g4 := fun k hk => by have := (hO1.row k hk).lt; omega
 have hAlb : ∀ r c, r < n → c < n → Lb K (A r c) := fun r c hr hc => hM.lb hr hc
 have hB5 : BdJ n A 0 1 A 1 := sN n (fun _ _ _ _ => rfl)
 have hgg4 : g4 ≠ g := by have := hO1.lt; omega
 have hlo4 : w0.heap.size ≤ g4 := by omega
 clear hO1 hc5 hn4 hI3
 repeat' (first|refine aj rfl ?_|refine aa ?_|refine ak ?_|refine ai rfl ?_|refine ah ?_|refine ay ?_)
 refine aW (ι := Nat × Mat × (Nat → Nat) × (Nat → Nat) × Bool × IH × Int) [6, 7, 8, 9, 10, 16, 17, 18, 19, 20, 21, 22, 23, 24, 25, 26, 27, 28, 29, 30, 31, 32, 33, 34, 35, 36, 37, 38, 39, 40, 41, 42, 43, 44, 45, 46, 47, 48, 49, 50, 51, 52, 53, 54, 55, 56, 57, 58, 59, 60, 61, 62, 63, 64, 65, 66, 67, 68, 69, 70, 71, 72, 73, 74, 75, 76, 77, 78, 79, 80, 81, 82, 83, 84, 85, 86, 87, 88, 89, 90, 91, 92, 93, 94, 95, 96, 97, 98, 99, 100, 101, 102, 103, 104, 105, 106, 107, 108, 109, 110, 111, 112, 113, 114, 115, 116, 117, 118, 119, 120] (fun t => [(7, .int .i64 (t.1 : Int)), (6, .bool t.2.2.2.2.1)])
  (fun t w' => t.1 ≤ n ∧ Ex w0 w' ∧ MO true (16 * K + 17) w' w0.heap.size g n n t.2.2.1 t.2.2.2.1 t.2.1 ∧ (∀ k, k < n → t.2.2.1 k ≠ g4) ∧ Blk w' g4 34 t.2.2.2.2.2.1.cells ∧ Ent true (16 * K + 17) w' t.2.2.2.2.2.1.val t.2.2.2.2.2.2 ∧ BdJ n A t.1 (if t.2.2.2.2.1 then -1 else 1) t.2.1 t.2.2.2.2.2.2) (fun t => n - t.1)
  (0, A, gs, cp, false, x3, 1) ⟨rfl, rfl, trivial⟩ ⟨by omega, hE5, hO5, hg4, by assumption, hx5, hB5⟩ ?_
 clear hE5 hO5 hg4 hx5 hB5
 rintro ⟨k, F, gs, cp, neg, x, last⟩ ξ2 w6 ⟨hk, hE6, hO6, hg4, hx6, hxe, hB⟩
 simp only at hk hO6 hg4 hx6 hxe hB
 show CW _ _ _ _ (over [(7, .int .i64 (k : Int)), (6, .bool neg)] _) w6
 have hb06 : Blk w6 g0 34 (intL false none 0 0) := hb0.ext hE6
 have hE06 := hn0.ex.trans hE6
 rcases Nat.lt_or_ge k n with hkn | hkn
 ·repeat' (first|refine bq rfl rfl (by omega) ?_|refine aj rfl ?_|refine aa ?_|refine ak ?_|refine ai rfl ?_|refine ah ?_|refine aA rfl ?_|refine aC ?_)
  refine ay ?_
  repeat' (first|refine aj rfl ?_|refine aa ?_|refine ak ?_|refine ai rfl ?_|refine ah ?_)
  refine dy (ι := Nat) [8, 22, 23, 24, 25, 26, 27, 28, 29, 30, 31, 32, 33, 34, 35, 36, 37] (fun p => [(8, .int .i64 (p : Int))])
   (fun p w' => Ex w6 w' ∧ k ≤ p ∧ p ≤ n ∧ (∀ q, k ≤ q → q < p → F q k = 0) ∧ (p < n → F p k ≠ 0)) ?_ ?_
  ·refine ay ?_
   refine aW (ι := Nat) [8, 22, 23, 24, 25, 26, 27, 28, 29, 30, 31, 32, 33, 34, 35, 36, 37] (fun p => [(8, .int .i64 (p : Int))]) (fun p w' => Ex w6 w' ∧ k ≤ p ∧ p ≤ n ∧ (∀ q, k ≤ q → q < p → F q k = 0)) (fun p => n - p)
    k ⟨rfl, trivial⟩ ⟨Ex.refl _, Nat.le_refl _, hk, fun q h1 h2 => by omega⟩ ?_
   rintro p ξ3 w7 ⟨hE7, hkp, hpn, hz⟩
   show CW _ _ _ _ (over [(8, .int .i64 (p : Int))] _) w7
   rcases Nat.lt_or_ge p n with hp | hp
   ·obtain ⟨hh, hbp, hcp, hEp⟩ := (hO6.ext hE7).get hp
    repeat' (first|refine bq rfl rfl (by omega) ?_|refine az (j := p) (a := some ⟨g, 0, none⟩) rfl rfl ⟨_, _, rfl⟩ (by omega) ?_|refine aZ (j := p) (a := some ⟨g, 0, none⟩) (n := n) (s := fun k => ⟨some ⟨gs k, 0, none⟩, n, cp k⟩) rfl (hO6.ext hE7).top.sl (by omega) rfl ?_|refine bE (j := k) (a := some ⟨gs p, 0, none⟩) rfl rfl ⟨_, _, rfl⟩ (by omega) ?_|refine bX (j := k) (a := some ⟨gs p, 0, none⟩) rfl hbp.sl ⟨_, _, rfl⟩ (by omega) ?_|refine aj rfl ?_|refine ak ?_|refine ai rfl ?_|refine bJ rfl rfl ?_)
    refine au (du (hEp k (by omega)).k) rfl ?_
    rintro v w8 ⟨rfl, hE8⟩
    refine tvv ?_
    repeat' (first|refine aj rfl ?_|refine aa ?_|refine ai rfl ?_|refine ah ?_|refine bJ rfl rfl ?_|refine aV rfl rfl (by omega) (by omega) ?_|refine aQ rfl (fun hc => ?_) (fun hc => ?_)|refine ay ?_|refine aT ?_|refine aO ?_|refine aU ?_|refine aJ ?_|refine aC ?_)
    ·refine ⟨⟨p + 1, ⟨hE7.trans hE8, by omega, hp, fun q h1 h2 => ?_⟩, by omega, rfl, trivial⟩, (by (repeat (first|exact aG _ _ _|refine aB rfl ?_|refine ax rfl ?_|refine av rfl ?_|refine aw rfl ?_)))⟩
     by_cases hqp : q = p
     ·subst hqp; exact Int.sign_eq_zero_iff_zero.1 (by assumption)
     ·exact hz q h1 (by omega)
    ·exact ⟨⟨p, ⟨hE7.trans hE8, hkp, hpn, hz, fun _ e => absurd (show (F p k).sign = 0 by rw [e]; rfl) (by assumption)⟩, rfl, trivial⟩, (by (repeat (first|exact aX _ _|refine aB rfl ?_|refine ax rfl ?_|refine av rfl ?_|refine aw rfl ?_)))⟩
   ·repeat' (first|refine bp rfl rfl (by omega) ?_|refine aj rfl ?_|refine aa ?_|refine ak ?_|refine ai rfl ?_|refine ah ?_|refine bY rfl rfl ?_|refine ao rfl ?_|refine aT ?_|refine aO ?_|refine aU ?_)
    exact ⟨⟨p, ⟨hE7, hkp, hpn, hz, fun h => by omega⟩, rfl, trivial⟩, (by (repeat (first|exact aX _ _|refine aB rfl ?_|refine ax rfl ?_|refine av rfl ?_|refine aw rfl ?_)))⟩
  ·rintro p ξ3 w7 ⟨hE7, hkp, hpn, hz, hnz⟩
   show CW _ _ _ _ (over [(8, .int .i64 (p : Int))] _) w7
   rcases Nat.lt_or_ge p n with hp | hp
   ·have hOp := hO6.ext hE7
    have hOk := hO6.ext hE7
    repeat' (first|refine eH rfl rfl (by omega) ?_|refine aj rfl ?_|refine aa ?_|refine ak ?_|refine ai rfl ?_|refine ah ?_)
    refine ao rfl ?_
    repeat' (first|refine aj rfl ?_|refine aa ?_|refine ak ?_|refine ai rfl ?_|refine ah ?_|refine aC ?_)
    refine dy (ι := Mat × (Nat → Nat) × (Nat → Nat) × Bool) [6, 45, 46, 47, 48, 49, 50, 51, 52, 53, 54, 55, 56, 57, 58, 59, 60] (fun t => [(6, .bool t.2.2.2)])
     (fun t w' => Ex w0 w' ∧ MO true (16 * K + 17) w' w0.heap.size g n n t.2.1 t.2.2.1 t.1 ∧ (∀ k, k < n → t.2.1 k ≠ g4) ∧ Blk w' g4 34 x.cells ∧ Ent true (16 * K + 17) w' x.val last ∧ BdJ n A k (if t.2.2.2 then -1 else 1) t.1 last ∧ t.1 k k ≠ 0) ?_ ?_
    ·repeat' (first|refine aa ?_|refine ak ?_|refine aQ rfl (fun hc => ?_) (fun hc => ?_)|refine aC ?_)
     ·refine bn (late := [13, 15]) (plan := [(0, none), (1, none), (2, none), (3, none), (4, none), (5, none), (6, none), (7, none), (8, none), (9, none), (10, none), (11, none), (12, none), (13, some false), (14, none), (15, some false)]) (fun w' => Ex w7 w') bD (by kernel_rfl) (Ex.refl w7).drew ?_
      have hOp := hO6.ext (hE7.drew)
      repeat' (first|refine az (j := k) (a := some ⟨g, 0, none⟩) rfl rfl ⟨_, _, rfl⟩ (by omega) ?_|refine az (j := p) (a := some ⟨g, 0, none⟩) rfl rfl ⟨_, _, rfl⟩ (by omega) ?_|refine aZ (j := p) (a := some ⟨g, 0, none⟩) (n := n) (s := fun k => ⟨some ⟨gs k, 0, none⟩, n, cp k⟩) rfl (fun _ h => (hOk.ext h).top.sl) (by omega) rfl ?_|refine aZ (j := k) (a := some ⟨g, 0, none⟩) (n := n) (s := fun k => ⟨some ⟨gs k, 0, none⟩, n, cp k⟩) rfl (fun _ h => (hOk.ext h).top.sl) (by omega) rfl ?_|refine aj rfl ?_)
      refine di (j := p) (u := ⟨some ⟨gs k, 0, none⟩, n, cp k⟩) rfl rfl hOp.top (by omega) (fun w8 hc8 hT8 => ⟨fun h => (nomatch h), ?_⟩)
      repeat' (first|refine az (j := k) (a := some ⟨g, 0, none⟩) rfl rfl ⟨_, _, rfl⟩ (by omega) ?_)
      refine di (j := k) (u := ⟨some ⟨gs p, 0, none⟩, n, cp p⟩) rfl rfl hT8 (by omega) (fun w9 hc9 hT9 => ⟨fun h => (nomatch h), ?_⟩)
      repeat' (first|refine aj rfl ?_|refine aa ?_|refine ai rfl ?_|refine ah ?_)
      have hkp' : k < p := by omega
      have hsw := hOp.swap hp hkn hc8 hc9 hT9
      have hx9 := ((hx6.ext hE7.drew).chg hc8 hgg4).chg hc9 hgg4
      have hxe9 := ((hxe.ext hE7.drew).gbN hOp.top (dI _ _) (dx hc8)).gbN hT8 (dI _ _) (dx hc9)
      have hE9 := ((hE6.trans hE7.drew).chg hc8 hO6.low).chg hc9 hO6.low
      have hBs := hB.swap (W' := fun a => F (swp2 p k a)) hkp' hp (fun i j _ _ => by rw [wr (by omega)])
      refine ⟨⟨(fun a => F (swp2 p k a), fun a => gs (swp2 p k a), fun a => cp (swp2 p k a), !neg), ⟨hE9, hsw, fun m hm => hg4 _ (iY hp hkn hm), hx9, hxe9, ?_, ?_⟩, rfl, trivial⟩, (by (repeat (first|exact aX _ _|refine aB rfl ?_|refine ax rfl ?_|refine av rfl ?_|refine aw rfl ?_)))⟩
      ·have e : (-(if neg = true then -1 else 1) : Int) = if (!neg) = true then -1 else 1 := by cases neg <;> rfl
       rw [← e]; exact hBs
      ·show F (swp2 p k k) k ≠ 0
       rw [show swp2 p k k = p by unfold swp2; rw [if_neg (by omega), if_pos rfl]]; exact hnz hp
     ·have e : p = k := by omega
      subst e
      exact ⟨⟨(F, gs, cp, neg), ⟨hE6.trans hE7, hO6.ext hE7, hg4, hx6.ext hE7, hxe.ext hE7, hB, hnz hp⟩, rfl, trivial⟩, (by (repeat (first|exact aX _ _|refine aB rfl ?_|refine ax rfl ?_|refine av rfl ?_|refine aw rfl ?_)))⟩
    ·clear hOp hOk hnz hz hO6 hg4 hx6 hxe hB hb06 hE06
     rintro ⟨F, gs, cp, neg⟩ ξ4 w8 ⟨hE8, hO8, hg4, hx8, hxe8, hB, hnz⟩
     simp only at hO8 hg4 hB hnz
     show CW _ _ _ _ (over [(6, .bool neg)] _) w8
     have hstep := hB.step (W' := elm F last k n (k + 1)) hkn hnz (fun i j h1 h2 h3 h4 => rT F last h1 h2 h3)
     have hlbs := (BdJ.lb hstep hAlb hn.2).1
     have hl0 := hB.ne
     repeat' (first|refine aV rfl rfl (by omega) (by omega) ?_|refine aj rfl ?_|refine aa ?_|refine ak ?_|refine ai rfl ?_|refine ah ?_|refine ay ?_)
     refine aW (ι := Nat) [9, 10, 63, 64, 65, 66, 67, 68, 69, 70, 71, 72, 73, 74, 75, 76, 77, 78, 79, 80, 81, 82, 83, 84, 85, 86, 87, 88, 89, 90, 91, 92, 93, 94, 95, 96, 97, 98, 99, 100, 101, 102, 103, 104, 105, 106, 107, 108, 109, 110, 111, 112, 113] (fun i => [(9, .int .i64 (i : Int))])
      (fun i w' => k + 1 ≤ i ∧ i ≤ n ∧ Ex w0 w' ∧ MO true (16 * K + 17) w' w0.heap.size g n n gs cp (elm F last k i (k + 1)) ∧ Blk w' g4 34 x.cells ∧ Ent true (16 * K + 17) w' x.val last) (fun i => n - i)
      (k + 1) ⟨by show Value.int .i64 ((k : Int) + 1) = _; norm_cast, trivial⟩ ⟨Nat.le_refl _, hkn, hE8, hO8.congr (fun a b _ _ => sT F last k a b), hx8, hxe8⟩ ?_
     clear hO8 hx8 hxe8 hE8
     rintro i ξ5 w11 ⟨hki, hin, hE11, hO11, hx11, hxe11⟩
     show CW _ _ _ _ (over [(9, .int .i64 (i : Int))] _) w11
     rcases Nat.lt_or_ge i n with hi | hi
     ·repeat' (first|refine bq rfl rfl (by omega) ?_|refine aV rfl rfl (by omega) (by omega) ?_|refine aj rfl ?_|refine aa ?_|refine ak ?_|refine ai rfl ?_|refine ah ?_|refine aA rfl ?_|refine ay ?_|refine aC ?_)
      refine aW (ι := Nat) [10, 70, 71, 72, 73, 74, 75, 76, 77, 78, 79, 80, 81, 82, 83, 84, 85, 86, 87, 88, 89, 90, 91, 92, 93, 94, 95, 96, 97, 98, 99, 100, 101, 102, 103, 104, 105, 106, 107, 108, 109, 110, 111, 112, 113] (fun j => [(10, .int .i64 (j : Int))])
       (fun j w' => k + 1 ≤ j ∧ j ≤ n ∧ Ex w0 w' ∧ MO true (16 * K + 17) w' w0.heap.size g n n gs cp (elm F last k i j) ∧ Blk w' g4 34 x.cells ∧ Ent true (16 * K + 17) w' x.val last) (fun j => n - j)
       (k + 1) ⟨by show Value.int .i64 ((k : Int) + 1) = _; norm_cast, trivial⟩ ⟨Nat.le_refl _, hkn, hE11, hO11, hx11, hxe11⟩ ?_
      clear hO11 hx11 hxe11 hE11
      rintro j ξ6 w12 ⟨hkj, hjn, hE12, hO12, hx12, hxe12⟩
      show CW _ _ _ _ (over [(10, .int .i64 (j : Int))] _) w12
      rcases Nat.lt_or_ge j n with hj | hj
      ·obtain ⟨hi', hbi, hci, hEi⟩ := hO12.get hi
       obtain ⟨hk', hbk, hck, hEk⟩ := hO12.get hkn
       have hki' : k < i := by omega
       have hkj' : k < j := by omega
       have e1 := jP F last (k := k) (i := i) (j := j) (a := i) (b := j) (by omega)
       have e2 := jP F last (k := k) (i := i) (j := j) (a := i) (b := k) (by omega)
       have e3 := jP F last (k := k) (i := i) (j := j) (a := k) (b := j) (by omega)
       have e4 := jP F last (k := k) (i := i) (j := j) (a := k) (b := k) (by omega)
       have n1 : Ent true (16 * K + 17) w12 (hi' j).val (F i j) := by rw [← e1]; exact hEi j hj
       have n2 : Ent true (16 * K + 17) w12 (hi' k).val (F i k) := by rw [← e2]; exact hEi k hkn
       have n3 : Ent true (16 * K + 17) w12 (hk' j).val (F k j) := by rw [← e3]; exact hEk j hj
       have n4 : Ent true (16 * K + 17) w12 (hk' k).val (F k k) := by rw [← e4]; exact hEk k hkn
       repeat' (first|refine bq rfl rfl (by omega) ?_|refine aj rfl ?_|refine aa ?_|refine ak ?_|refine ai rfl ?_|refine ah ?_|refine aA rfl ?_|refine aC ?_)
       refine ay ?_
       skip
       have b1 := n4.lb.mul n1.lb
       have b2 := n2.lb.mul n3.lb
       have b3 := b1.sub b2
       refine bn (late := [39]) (plan := [(0, none), (1, none), (2, none), (3, none), (4, none), (5, none), (6, none), (7, none), (8, none), (9, none), (10, none), (11, none), (12, none), (13, none), (14, none), (15, none), (16, none), (17, none), (18, none), (20, none), (21, none), (22, none), (23, none), (24, none), (25, none), (26, none), (27, none), (28, none), (29, none), (30, none), (31, none), (32, none), (33, none), (36, none), (19, some true), (34, some true), (35, some true), (37, some true), (38, none), (39, some false)]) (fun w' => Ex w12 w') bD (by kernel_rfl) (Ex.refl w12).drew ?_
       have hEd := (Ex.refl w12).drew
       repeat' (first|refine az (j := i) (a := some ⟨g, 0, none⟩) rfl rfl ⟨_, _, rfl⟩ (by omega) ?_|refine az (j := k) (a := some ⟨g, 0, none⟩) rfl rfl ⟨_, _, rfl⟩ (by omega) ?_|refine aZ (j := i) (a := some ⟨g, 0, none⟩) (n := n) (s := fun k => ⟨some ⟨gs k, 0, none⟩, n, cp k⟩) rfl (fun _ h => (hO12.ext h).top.sl) (by omega) rfl ?_|refine aZ (j := k) (a := some ⟨g, 0, none⟩) (n := n) (s := fun k => ⟨some ⟨gs k, 0, none⟩, n, cp k⟩) rfl (fun _ h => (hO12.ext h).top.sl) (by omega) rfl ?_|refine bE (j := j) (a := some ⟨gs i, 0, none⟩) rfl rfl ⟨_, _, rfl⟩ (by omega) ?_|refine bE (j := k) (a := some ⟨gs i, 0, none⟩) rfl rfl ⟨_, _, rfl⟩ (by omega) ?_|refine bE (j := j) (a := some ⟨gs k, 0, none⟩) rfl rfl ⟨_, _, rfl⟩ (by omega) ?_|refine bE (j := k) (a := some ⟨gs k, 0, none⟩) rfl rfl ⟨_, _, rfl⟩ (by omega) ?_|refine bX (j := j) (n := cp i) (a := some ⟨gs i, 0, none⟩) rfl (fun _ h => (hbi.ext h).sl) ⟨_, _, rfl⟩ (by omega) ?_|refine bX (j := k) (n := cp i) (a := some ⟨gs i, 0, none⟩) rfl (fun _ h => (hbi.ext h).sl) ⟨_, _, rfl⟩ (by omega) ?_|refine bX (j := j) (n := cp k) (a := some ⟨gs k, 0, none⟩) rfl (fun _ h => (hbk.ext h).sl) ⟨_, _, rfl⟩ (by omega) ?_|refine bX (j := k) (n := cp k) (a := some ⟨gs k, 0, none⟩) rfl (fun _ h => (hbk.ext h).sl) ⟨_, _, rfl⟩ (by omega) ?_|refine aY (g := g4) rfl (fun _ h => hx12.ext h) rfl ?_|refine aj rfl ?_)
       refine au (bt (n4.ext hEd).k (n1.ext hEd).k (by omega)) rfl ?_
       rintro v w13 ⟨hI13, hE13⟩
       refine ⟨fun _ h => h.trans hE13, ?_⟩
       have hEd13 := hEd.trans hE13
       skip
       refine au (bt (n2.ext hEd13).k (n3.ext hEd13).k (by omega)) rfl ?_
       rintro v w14 ⟨hI14, hE14⟩
       refine ⟨fun _ h => h.trans hE14, ?_⟩
       skip
       refine au (kE ((hI13.ext hE14).k b1) (hI14.k b2) (by omega) (by omega)) rfl ?_
       rintro v w15 ⟨hI15, hE15⟩
       refine ⟨fun _ h => h.trans hE15, ?_⟩
       have hEd15 := (hEd13.trans hE14).trans hE15
       skip
       refine au (fk (hI15.k b3) (hxe12.ext hEd15).k (by omega) (by omega)) rfl ?_
       rintro v w16 ⟨hI16, hE16⟩
       refine ⟨fun _ h => h.trans hE16, ?_⟩
       obtain ⟨u, rfl⟩ := hI16.ih
       have hE1216 := hEd15.trans hE16
       have hbi16 := hbi.ext hE1216
       repeat' (first|refine bE (j := j) (a := some ⟨gs i, 0, none⟩) rfl rfl ⟨_, _, rfl⟩ (by omega) ?_)
       refine eD (j := j) (n := cp i) (u := u) rfl rfl hbi16 (by omega) (fun w17 hc17 hb17 => ⟨fun h => (nomatch h), ?_⟩)
       repeat' (first|refine aj rfl ?_|refine aa ?_|refine ai rfl ?_|refine ah ?_|refine aV rfl rfl (by omega) (by omega) ?_|refine aJ ?_)
       have hu : Ent true (16 * K + 17) w16 u.val ((F k k * F i j - F i k * F k j) / last) := Ent.of hI16 (by
        have := hlbs i j (by omega) hi (by omega) hj
        rwa [rT F last (by omega) hi (by omega)] at this)
       have hput := (hO12.ext hE1216).put (j := j) hi hbi16 (fun m hm => (hEi m hm).ext hE1216) hu hc17 hb17
       have hgi4 := hg4 i hi
       have hloi := (hO12.row i hi).low
       exact ⟨⟨j + 1, ⟨by omega, hj, (hE12.trans hE1216).chg hc17 hloi, hput.congr (fun a b _ _ => (wl F last hki' hkj' a b).symm), (hx12.ext hE1216).chg hc17 (Ne.symm hgi4), (hxe12.ext hE1216).gbN hbi16 (cU _ _) (dx hc17)⟩, by omega, rfl, trivial⟩, (by (repeat (first|exact aG _ _ _|refine aB rfl ?_|refine ax rfl ?_|refine av rfl ?_|refine aw rfl ?_)))⟩
      ·have ejn : n = j := by omega
       subst ejn
       repeat' (first|refine bp rfl rfl (by omega) ?_|refine aV rfl rfl (by omega) (by omega) ?_|refine aj rfl ?_|refine aa ?_|refine ak ?_|refine ai rfl ?_|refine ah ?_|refine ao rfl ?_|refine aT ?_|refine aO ?_|refine aU ?_|refine aJ ?_)
       exact ⟨⟨i + 1, ⟨by omega, hi, hE12, hO12.congr (fun a b _ hb => wj F last (by omega) hb), hx12, hxe12⟩, by omega, rfl, trivial⟩, (by (repeat (first|exact aG _ _ _|refine aB rfl ?_|refine ax rfl ?_|refine av rfl ?_|refine aw rfl ?_)))⟩
     ·have ein : n = i := by omega
      subst ein
      obtain ⟨hk', hbk, hck, hEk⟩ := hO11.get hkn
      have e4 := jP F last (k := k) (i := n) (j := k + 1) (a := k) (b := k) (by omega)
      have n4 : Ent true (16 * K + 17) w11 (hk' k).val (F k k) := by rw [← e4]; exact hEk k hkn
      repeat' (first|refine bp rfl rfl (by omega) ?_|refine az (j := k) (a := some ⟨g, 0, none⟩) rfl rfl ⟨_, _, rfl⟩ (by omega) ?_|refine aZ (j := k) (a := some ⟨g, 0, none⟩) (n := n) (s := fun k => ⟨some ⟨gs k, 0, none⟩, n, cp k⟩) rfl hO11.top.sl (by omega) rfl ?_|refine bE (j := k) (a := some ⟨gs k, 0, none⟩) rfl rfl ⟨_, _, rfl⟩ (by omega) ?_|refine bX (j := k) (n := cp k) (a := some ⟨gs k, 0, none⟩) rfl hbk.sl ⟨_, _, rfl⟩ (by omega) ?_|refine aj rfl ?_|refine aa ?_|refine ak ?_|refine ai rfl ?_|refine ah ?_|refine ao rfl ?_|refine aT ?_|refine aO ?_|refine aU ?_)
      refine aF (n := 2) (vs := (hk' k).cells) rfl rfl rfl rfl hx11 rfl (fun w12 hc12 hb12 => tvv ?_)
      repeat' (first|refine aj rfl ?_|refine aa ?_|refine ai rfl ?_|refine ah ?_|refine aV rfl rfl (by omega) (by omega) ?_|refine aJ ?_)
      exact ⟨⟨(k + 1, elm F last k n (k + 1), gs, cp, neg, hk' k, F k k), ⟨hkn, hE11.chg hc12 hlo4, hO11.gbN hx11 (cg _ _ _ _) (dx hc12) (Ne.symm hgg4) hg4, hg4, hb12, n4.gbN hx11 (cg _ _ _ _) (dx hc12), hstep⟩, by simp only; omega, rfl, rfl, trivial⟩, (by (repeat (first|exact aG _ _ _|refine aB rfl ?_|refine ax rfl ?_|refine av rfl ?_|refine aw rfl ?_)))⟩
   ·obtain rfl : p = n := by omega
    repeat' (first|refine eV rfl rfl rfl ?_|refine da (cs := intL false none 0 0) rfl ?_|refine aj rfl ?_|refine aa ?_|refine ak ?_|refine ai rfl ?_|refine ah ?_|refine aA rfl ?_)
    refine aF (n := 2) (vs := ih0.cells) rfl rfl rfl rfl (hb06.ext hE7) rfl (fun w8 hc8 hb8 => tvv ?_)
    repeat' (first|refine aa ?_|refine ah ?_|refine aK ?_|refine bf ?_|refine cj ?_)
    have hd : det p A = 0 := hB.none hkn (fun i h1 h2 => hz i h1 h2)
    refine bo rfl (rc rfl rfl hb8) ⟨?_, (hE06.trans hE7).chg hc8 hn0.lo⟩
    rw [hd]
    exact vV _
 ·have ekn : n = k := by omega
  subst ekn
  have hdet : det n A = (if neg = true then -1 else 1) * last := hB.fin
  rcases Bool.eq_false_or_eq_true neg with rfl | rfl
  ·repeat' (first|refine bp rfl rfl (by omega) ?_|refine aY (g := g4) rfl hx6 rfl ?_|refine aj rfl ?_|refine aa ?_|refine ak ?_|refine ai rfl ?_|refine ah ?_|refine aA rfl ?_|refine ao rfl ?_|refine aT ?_|refine aO ?_|refine aU ?_)
   refine au (iA hxe.k) rfl ?_
   rintro v w7 ⟨hI7, hE7⟩
   refine tvv ?_
   obtain ⟨y, rfl⟩ := hI7.ih
   refine aF (n := 2) (vs := y.cells) rfl rfl rfl rfl (hb06.ext hE7) rfl (fun w8 hc8 hb8 => tvv ?_)
   repeat' (first|refine aa ?_|refine ah ?_|refine aK ?_|refine bf ?_)
   refine bo rfl (rc rfl rfl hb8) ⟨?_, (hE06.trans hE7).chg hc8 hn0.lo⟩
   rw [hdet, if_pos rfl, Int.neg_one_mul]
   exact (Ent.of hI7 hxe.lb.neg).gbN (hb06.ext hE7) (cg _ _ _ _) (dx hc8)
  ·repeat' (first|refine bp rfl rfl (by omega) ?_|refine aY (g := g4) rfl hx6 rfl ?_|refine aj rfl ?_|refine aa ?_|refine ak ?_|refine ai rfl ?_|refine ah ?_|refine ao rfl ?_|refine aT ?_|refine aO ?_|refine aU ?_|refine aC ?_)
   refine aF (n := 2) (vs := x.cells) rfl rfl rfl rfl hb06 rfl (fun w8 hc8 hb8 => tvv ?_)
   repeat' (first|refine aa ?_|refine ah ?_|refine aK ?_)
   refine bo rfl (rc rfl rfl hb8) ⟨?_, hE06.chg hc8 hn0.lo⟩
   rw [hdet, if_neg (by decide), Int.one_mul]
   exact hxe.gbN hb06 (cg _ _ _ _) (dx hc8)
end Go.Proofs.YtpfhfldehaiokaaGreat
namespace Go.W
theorem nO {n m : Nat} {s : Nat → SD} (hm : n ≤ m) : (topC m s).take n = topC n s := by
 unfold topC; rw [← List.map_take, List.take_range, Nat.min_eq_left hm]
theorem f8 {n m : Nat} {s t : Nat → SD} : topC n s ++ topC m t = topC (n + m) fun i => if i < n then s i else t (i - n) := by
 induction m with
 | zero => rw [show topC 0 t = [] from rfl, List.append_nil, Nat.add_zero]; exact bF fun i hi => by rw [if_pos hi]
 | succ m ih => rw [← Nat.add_assoc, kd, kd, ← ih, List.append_assoc, if_neg (by omega), Nat.add_sub_cancel_left]
theorem qU (n : Nat) : (Builtin.zeroCells (Value.cells (.slice none 0 0)) n).toList = topC n fun _ => sd0 := by
 simp [Builtin.zeroCells, topC, Value.cells, Nat.mod_one, SD.val]
def TopG (w : World) (lo E n : Nat) (s : SD) (f : Nat → SD) : Prop :=
 s.len = n ∧ ((s = sd0 ∧ n = 0) ∨ ∃ g, s.a = some ⟨g, 0, none⟩ ∧ lo ≤ g ∧ n ≤ s.cap ∧ s.cap ≤ maxLen ∧ Blk w g E (topC s.cap f))
theorem TopG.nil (w : World) (lo E : Nat) (f : Nat → SD) : TopG w lo E 0 sd0 f := ⟨rfl, .inl ⟨rfl, rfl⟩⟩
theorem TopG.gb {w w' : World} {lo E n : Nat} {s : SD} {f : Nat → SD} {r : Option Nat} (hR : TopG w lo E n s f) (hg : w.grownBy w' r) (hne : ∀ ad, s.a = some ad → r ≠ some ad.block) : TopG w' lo E n s f := by
 refine ⟨hR.1, ?_⟩
 rcases hR.2 with h0 | ⟨g, h1, h2, h3, h4, h5⟩
 ·exact .inl h0
 ·exact .inr ⟨g, h1, h2, h3, h4, h5.gb hg (hne _ h1)⟩
theorem TopG.ext {w w' : World} {lo E n : Nat} {s : SD} {f : Nat → SD} (hR : TopG w lo E n s f) (e : Ex w w') : TopG w' lo E n s f := hR.gb (kz e) (fun _ _ h => by cases h)
theorem TopG.lo {w : World} {lo E n : Nat} {s : SD} {f : Nat → SD} (hR : TopG w lo E n s f) : ∀ ad, s.a = some ad → lo ≤ ad.block ∧ ad.block < w.heap.size := by
 intro ad e
 rcases hR.2 with ⟨h0, _⟩ | ⟨g, h1, h2, h3, h4, h5⟩
 ·rw [h0] at e; cases e
 ·rw [h1] at e; cases e; exact ⟨h2, h5.lt⟩
theorem TopG.sl {w : World} {lo E n : Nat} {s : SD} {f : Nat → SD} (hR : TopG w lo E n s f) : Sl w s.a (topC n f) := by
 rcases hR.2 with ⟨h0, rfl⟩ | ⟨g, h1, h2, h3, h4, h5⟩
 ·exact Sl.nil _ _
 ·rw [h1, ← nO h3]; exact h5.sl.take _
theorem TopG.blk {w : World} {lo E n : Nat} {s : SD} {f : Nat → SD} (hR : TopG w lo E n s f) : ∀ g, (Value.slice s.a s.len s.cap).ownBlock = some g → lo ≤ g ∧ Blk w g E (topC s.cap f) := by
 intro g e
 rcases hR.2 with ⟨h0, _⟩ | ⟨g', h1, h2, h3, h4, h5⟩
 ·rw [h0] at e; cases e
 ·rw [h1] at e; cases e; exact ⟨h2, h5⟩
theorem kK {P : Program} {w : World} {lo E y t ty n : Nat} {x : SD} {s : SD} {f : Nat → SD} {i0 : TypeInfo} {ga : Nat} (ht : P.underlying t = some (.slice E)) (hi : P.info? E = some i0) (hz : i0.zero = some (.slice none 0 0)) (hsz : i0.size = 1) (hby : i0.bytes = y)
  (hR : TopG w lo E n s f) (hx : Sl w (some ⟨ga, 0, none⟩) [x.val]) (hm : n + 1 ≤ 9223372036854775807) (hb : (n + 1) * y ≤ 140737488355328) (hlo : lo ≤ w.heap.size) :
  ∃ s' w' f', (Builtin.append_ #[t, t] ty #[.slice s.a s.len s.cap, .slice (some ⟨ga, 0, none⟩) 1 1]).run P w = .ok (.slice s'.a s'.len s'.cap) w' ∧ TopG w' lo E (n + 1) s' f' ∧ (∀ i, i < n → f' i = f i) ∧ f' n = x ∧
   w.grownBy w' (Value.slice s.a s.len s.cap).ownBlock ∧ (s'.a = s.a ∨ ∀ ad, s'.a = some ad → w.heap.size ≤ ad.block) := by
 have e : ∀ n, (⟨ga, 0, none⟩ : Addr).add n = ⟨ga, 0 + n, none⟩ := fun n => by unfold Addr.add; split <;> simp_all
 have hnews : ∀ j u, ([x.val] : List Value)[j]? = some u → w.cell? ((⟨ga, 0, none⟩ : Addr).add j) = some u := fun j u hu => by
  have hj : j < ([x.val] : List Value).length := (List.getElem?_eq_some_iff.1 hu).1
  have := hx.get j hj
  rw [e]
  simp only [elt] at this
  rw [this, List.getD_eq_getElem?_getD, hu]; rfl
 have hl : ([x.val] : List Value).length = 1 * i0.size := by rw [hsz]; rfl
 have hmax : ∀ old, grownCap w (n + 1) old E ≤ maxLen := fun old => grownCap_le_maxLen w (n + 1) old E hm
 have hge : ∀ old, n + 1 ≤ grownCap w (n + 1) old E := fun old => grownCap_ge w (n + 1) old E
 have hnew : ∀ (k : Nat), n + 1 ≤ k → (topC n f ++ [x.val] ++ (Builtin.zeroCells (Value.cells (.slice none 0 0)) (k - (n + 1))).toList) = topC k (fun i => if i < n then f i else if i = n then x else sd0) := fun k hk => by
  rw [qU, show ([x.val] : List Value) = topC 1 (fun _ => x) from rfl, f8, f8]
  rw [show n + 1 + (k - (n + 1)) = k by omega]
  refine bF fun i _ => ?_
  by_cases h1 : i < n
  ·rw [if_pos (by omega), if_pos h1, if_pos h1]
  ·by_cases h2 : i = n
   ·subst h2; rw [if_pos (by omega), if_neg (by omega), if_neg (by omega), if_pos rfl]
   ·rw [if_neg (by omega), if_neg h1, if_neg h2]
 have hgr : ∀ (o : Obj) {row : Option Nat}, w.grownBy (w.drew.alloc o) row := fun o _ => ⟨rfl, rfl, rfl, by simp, fun k hk _ => heap_alloc_old w.drew o hk⟩
 have hbl : ∀ (xs zs : List Value) (k : Nat), xs ++ zs = topC k (fun i => if i < n then f i else if i = n then x else sd0) → ∀ cs : Array Value, cs.toList = xs ++ zs → Blk (w.drew.alloc (.cells cs E)) w.heap.size E (topC k (fun i => if i < n then f i else if i = n then x else sd0)) := fun xs zs k e cs hcs => by
  have : cs = (topC k (fun i => if i < n then f i else if i = n then x else sd0)).toArray := by rw [← e, ← hcs]
  rw [this]
  exact heap_alloc_new w.drew _
 obtain ⟨hlen, hcase⟩ := hR
 rcases hcase with ⟨rfl, rfl⟩ | ⟨g, h1, h2, h3, h4, h5⟩
 ·have hr := run_append_nil (P := P) w t ty E i0 _ ht hi hz ⟨ga, 0, none⟩ 1 1 ([x.val] : List Value) hl hnews (by omega) (by omega) (by rw [hby]; omega)
  refine ⟨⟨some ⟨w.heap.size, 0, none⟩, 1, grownCap w 1 0 E⟩, _, fun i => if i < 0 then f i else if i = 0 then x else sd0, hr, ⟨rfl, .inr ⟨_, rfl, hlo, hge 0, hmax 0, ?_⟩⟩, fun i hi => by omega, rfl, hgr _, .inr fun ad e => by cases e; exact Nat.le_refl _⟩
  have := hnew (grownCap w 1 0 E) (hge 0)
  rw [show topC 0 f = [] from rfl, List.nil_append] at this
  exact hbl _ _ _ this _ (by simp)
 ·obtain ⟨sa, sl, sc⟩ := s
  simp only at h1 hlen h3 h4 h5
  subst h1; subst hlen
  by_cases hroom : sl + 1 ≤ sc
  ·have hr := run_append_room (P := P) w t ty E i0 ht hi g sl sc _ h5 ⟨ga, 0, none⟩ 1 1 ([x.val] : List Value) hl hnews (fun u hu => by
    simp only [List.mem_cons, List.not_mem_nil, or_false] at hu
    rw [hu]; rfl) hroom (by
    rw [hsz, List.size_toArray, cv]
    simp only [List.length_cons, List.length_nil]
    omega)
   refine ⟨⟨some ⟨g, 0, none⟩, sl + 1, sc⟩, _, fun i => if i = sl then x else f i, hr, ⟨rfl, .inr ⟨g, rfl, h2, hroom, h4, ?_⟩⟩, fun i hi => if_neg (by omega), if_pos rfl, ⟨rfl, rfl, rfl, by simp, fun k _ hk => setRow_other w g k _ (fun e => hk (by simp [Value.ownBlock, e]))⟩, .inl rfl⟩
   have hset : topC sc (fun i => if i = sl then x else f i) = (topC sc f).take sl ++ ([x.val] : List Value) ++ (topC sc f).drop (sl + 1) := by
    rw [nO (by omega)]
    obtain ⟨d, hd⟩ : ∃ d, sc = sl + 1 + d := ⟨sc - (sl + 1), by omega⟩
    have hdrop : (topC sc f).drop (sl + 1) = topC d fun i => f (sl + 1 + i) := by
     refine List.ext_getElem? fun i => ?_
     rw [List.getElem?_drop]
     by_cases hi : i < d
     ·rw [gI (by omega), gI hi]
     ·rw [List.getElem?_eq_none (by rw [cv]; omega), List.getElem?_eq_none (by rw [cv]; omega)]
    rw [hdrop, show ([x.val] : List Value) = topC 1 (fun _ => x) from rfl, f8, f8, hd]
    refine bF fun i hi => ?_
    by_cases h1 : i < sl
    ·rw [if_neg (by omega), if_pos (by omega), if_pos h1]
    ·by_cases h2 : i = sl
     ·rw [if_pos h2, if_pos (by omega), if_neg h1]
     ·rw [if_neg h2, if_neg (by omega), show sl + 1 + (i - (sl + 1)) = i by omega]
   have := setRow_heap w g (topC sc f).toArray ((topC sc f).toArray.toList.take (sl * i0.size) ++ ([x.val] : List Value) ++ (topC sc f).toArray.toList.drop (sl * i0.size + ([x.val] : List Value).length)).toArray E (0, 0) h5
   rw [hsz, Nat.mul_one] at this ⊢
   rw [hset]
   exact this
  ·have hcap : sc = sl := by omega
   subst hcap
   have holds : ∀ j u, (topC sc f)[j]? = some u → w.cell? ((⟨g, 0, none⟩ : Addr).add j) = some u := fun j u hu => by
    have e' : ∀ n, (⟨g, 0, none⟩ : Addr).add n = ⟨g, n, none⟩ := fun n => by unfold Addr.add; split <;> simp_all
    rw [e', h5.at]; exact hu
   have hr := run_append_grow (P := P) w t ty E i0 _ ht hi hz ⟨g, 0, none⟩ sc sc (topC sc f) (by rw [hsz, cv, Nat.mul_one]) holds ⟨ga, 0, none⟩ 1 1 ([x.val] : List Value) hl hnews (by omega) (Int.ofNat_le.2 hm) (by rw [hby]; exact growslice_fits (by omega) hb)
   refine ⟨⟨some ⟨w.heap.size, 0, none⟩, sc + 1, grownCap w (sc + 1) sc E⟩, _, fun i => if i < sc then f i else if i = sc then x else sd0, hr, ⟨rfl, .inr ⟨_, rfl, hlo, hge sc, hmax sc, ?_⟩⟩, fun i hi => if_pos hi, (if_neg (Nat.lt_irrefl _)).trans (if_pos rfl), hgr _, .inr fun ad e => by cases e; exact Nat.le_refl _⟩
   exact hbl _ _ _ (hnew (grownCap w (sc + 1) sc E) (hge sc)) _ (by simp)
section
variable {P : Program} {S : World → Prop} {ops : List Oper} {K : Env → World → Prop} {rest : List (Oper × Option Bool)} {ρ : Env} {w : World} {b : Option Bool} {kf : Bool} {d : Nat} {dst : Option Nat} {T T' : TypeId} {pos : String} {af : Array Edge}
theorem qV {T1 E y n d1 t lo : Nat} {u : SD} {x : Operand} {s : SD} {f : Nat → SD} {T2 : TypeId} {pos2 : String} {af2 : Array Edge} [hT : Slc P T1 E 1 y] [hz : Zro P E (.slice none 0 0)]
  (hs : ρ t = .slice s.a s.len s.cap) (hx : ev ρ x = u.val) (htd : Nat.beq t d1 = false)
  (hR : TopG w lo E n s f) (hm : n + 1 ≤ 9223372036854775807) (hb : (n + 1) * y ≤ 140737488355328) (hlo : lo ≤ w.heap.size)
  (h : ∀ g s' f' w', TopG w' lo E (n + 1) s' f' → (∀ i, i < n → f' i = f i) → f' n = u → w.grownBy w' (Value.slice s.a s.len s.cap).ownBlock → (s'.a = s.a ∨ ∀ x, s'.a = some x → w.heap.size ≤ x.block) →
   RR P (fun _ => True) ops K rest (upd (upd ρ d1 (.slice (some ⟨g, 0, none⟩) 1 1)) d (.slice s'.a s'.len s'.cap)) w') :
  RR P (fun _ => True) ops K ((⟨some d1, .buildSlice T1 1 #[(0, x)], T2, pos2, af2, none⟩, some false) :: (⟨some d, .call ⟨.builtin .append, #[.tmp t, .tmp d1], #[T1, T1]⟩, T, pos, af, none⟩, some false) :: rest) ρ w := by
 refine iv (E := E) (s := 1) (z := .slice none 0 0) (cs := #[u.val]) rfl (by
  simp only [List.map_toArray, List.map_cons, List.map_nil, hx]
  exact ew rfl (by simp)) (fun g w1 hn => tvv ?_)
 refine dq rfl ?_
 unfold OpW
 obtain ⟨i0, hi0, hzz⟩ := Option.map_eq_some_iff.1 hT.sz
 simp only [Prod.mk.injEq] at hzz
 obtain ⟨i1, hi1, hz1⟩ := Option.map_eq_some_iff.1 hz.ok
 rw [hi0] at hi1
 simp only [Option.some.injEq] at hi1
 subst hi1
 have hsz := hn.ex.size
 obtain ⟨s', w', f', hr, h1, h2, h3, h4, h5⟩ := kK (P := P) (ty := T) hT.un hi0 hz1 hzz.1 hzz.2 (hR.ext hn.ex) hn.blk.sl hm hb (by omega)
 have e1 : ev (upd ρ d1 (.slice (some ⟨g, 0, none⟩) 1 1)) (.tmp t) = .slice s.a s.len s.cap := by
  show upd ρ d1 _ t = _
  simp only [upd, htd, cond_false, hs]
 have e2 : ev (upd ρ d1 (.slice (some ⟨g, 0, none⟩) 1 1)) (.tmp d1) = .slice (some ⟨g, 0, none⟩) 1 1 := by
  show upd ρ d1 _ d1 = _
  rw [eR]
 have : (execOp (ev (upd ρ d1 (.slice (some ⟨g, 0, none⟩) 1 1))) ⟨some d, .call ⟨.builtin .append, #[.tmp t, .tmp d1], #[T1, T1]⟩, T, pos, af, none⟩).run P w1 = .ok (.value (.slice s'.a s'.len s'.cap)) w' := by
  simp [execOp, resolve, invoke, builtin, e1, e2, hr]
 rw [this]
 refine ⟨fun _ _ => trivial, h g s' f' w' h1 h2 h3 ?_ (h5.imp id fun hh x hx => by have := hh x hx; omega)⟩
 exact ⟨h4.os.trans hn.ex.os, h4.tape.trans hn.ex.tape, h4.output.trans hn.ex.output, by have := h4.size; omega,
  fun k hk hne => (h4.block k (by omega) hne).trans (hn.ex.block k hk)⟩
end
end Go.W
