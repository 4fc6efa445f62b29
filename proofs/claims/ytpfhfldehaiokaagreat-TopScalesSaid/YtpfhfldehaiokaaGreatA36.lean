import Derived.Test.YtpfhfldehaiokaaGreatA35
set_option maxHeartbeats 32000000
namespace Go.LA
open Go.W
def colF (n : Nat) (A : Mat) (C : Int) (k : Nat) (x : Vec) (z : Bool) (c : Int) : List (List Int) :=
 match k with
 | 0 => if (z && c == 0) = true then [] else [(List.range n).map (setF x 0 c)]
 | k + 1 => cols n A C k (setF x (k + 1) c) (z && c == 0)
def loZ (n : Nat) (A : Mat) (C : Int) (k : Nat) (x : Vec) (z : Bool) : Int := if z then 0 else loV n A C k x
theorem gj (n : Nat) (A : Mat) (C : Int) (k : Nat) (x : Vec) (z : Bool) : cols n A C k x z = (rg (loZ n A C k x z) (hiV n A C k x)).flatMap (colF n A C k x z) := by
 cases k <;> rfl
end Go.LA
namespace Go.Proofs.YtpfhfldehaiokaaGreat
open Go.W Go.LM Go.LA
structure CS (w0 w : World) (lo3 n gf gx gxb gsb geb glb : Nat) (L : List (List Int)) (x : Vec) : Prop where
 ex : Ex w0 w
 sz : lo3 ≤ w.heap.size
 hx : Blk w gx 2 (intC n x)
 hxb : Blk w gxb 58 [.slice (some ⟨gx, 0, none⟩) n n]
 hsb : Blk w gsb 107 [.func (.func 69) #[] #[.pointer (some ⟨gf, 0, none⟩), .pointer (some ⟨gxb, 0, none⟩), .pointer (some ⟨gsb, 0, none⟩), .pointer (some ⟨geb, 0, none⟩), .pointer (some ⟨glb, 0, none⟩)]]
 heb : Blk w geb 4 [.bool false]
 li : ∃ (sd : SD) (S : Nat → SD), Blk w glb 25 [.slice sd.a sd.len sd.cap] ∧ TopG w lo3 58 L.length sd S ∧ ∀ i, i < L.length → (S i).len = n ∧ ∃ vg, (S i).a = some ⟨vg, 0, none⟩ ∧ lo3 ≤ vg ∧ Sl w (some ⟨vg, 0, none⟩) (intC n fun j => (L.getD i []).getD j 0)
structure CN (w0 : World) (lo3 gx gxb gsb geb glb : Nat) : Prop where
 a : w0.heap.size ≤ gx ∧ w0.heap.size ≤ glb ∧ w0.heap.size ≤ lo3
 b : gx < lo3 ∧ gxb < lo3 ∧ gsb < lo3 ∧ geb < lo3 ∧ glb < lo3
 c : gx ≠ gxb ∧ gx ≠ gsb ∧ gx ≠ geb ∧ gx ≠ glb
 d : glb ≠ gxb ∧ glb ≠ gsb ∧ glb ≠ geb
section
variable {w0 w w' : World} {lo3 n gf gx gxb gsb geb glb : Nat} {L : List (List Int)} {x : Vec}
theorem CS.setx {y : Vec} (h : CS w0 w lo3 n gf gx gxb gsb geb glb L x) (hN : CN w0 lo3 gx gxb gsb geb glb) (hc : Chg gx w w') (hb : Blk w' gx 2 (intC n y)) : CS w0 w' lo3 n gf gx gxb gsb geb glb L y := by
 obtain ⟨n1, n2, n3, n4⟩ := hN
 obtain ⟨sd, S, h1, h2, h3⟩ := h.li
 refine ⟨h.ex.chg hc n1.1, by rw [hc.size]; exact h.sz, hb, h.hxb.chg hc (Ne.symm n3.1), h.hsb.chg hc (Ne.symm n3.2.1), h.heb.chg hc (Ne.symm n3.2.2.1), sd, S, h1.chg hc (Ne.symm n3.2.2.2), TopG.gb h2 (dx hc) (fun ad e he => by cases he; have := (TopG.lo h2 ad e).1; omega), fun i hi => ?_⟩
 obtain ⟨r1, vg, r2, r3, r4⟩ := h3 i hi
 exact ⟨r1, vg, r2, r3, r4.chg hc fun ad e => by cases e; show vg ≠ gx; omega⟩
theorem CS.ext (h : CS w0 w lo3 n gf gx gxb gsb geb glb L x) (e : Ex w w') : CS w0 w' lo3 n gf gx gxb gsb geb glb L x := by
 obtain ⟨sd, S, h1, h2, h3⟩ := h.li
 refine ⟨h.ex.trans e, Nat.le_trans h.sz e.size, h.hx.ext e, h.hxb.ext e, h.hsb.ext e, h.heb.ext e, sd, S, h1.ext e, TopG.ext h2 e, fun i hi => ?_⟩
 obtain ⟨r1, vg, r2, r3, r4⟩ := h3 i hi
 exact ⟨r1, vg, r2, r3, r4.ext e⟩
end
theorem mR {L : List (List Int)} {v : List Int} {i : Nat} (h : i < L.length + 1) : (L ++ [v]).getD i [] = if i < L.length then L.getD i [] else v := by
 rw [List.getD_eq_getElem?_getD, List.getD_eq_getElem?_getD]
 by_cases h1 : i < L.length
 ·rw [if_pos h1, List.getElem?_append_left h1]
 ·obtain rfl : i = L.length := by omega
  rw [if_neg h1, List.getElem?_append_right (Nat.le_refl _)]; simp
theorem rn {w0 : World} {lo3 n gf gx gxb gsb geb glb cm : Nat} {A : Mat} {C : Int} {am : Option Addr} {sl : SD} {S : Nat → SD} {LF : List (List Int)} (hW : Wk n A C) (hFM : FM w0 gf n A am cm sl S) (hN : CN w0 lo3 gx gxb gsb geb glb) (hLF : LF.length ≤ 10000) (k : Nat) :
  ∀ (x : Vec) (z : Bool) (L : List (List Int)) (w : World), k < n → 0 ≤ rs n A C (k + 1) x → (z = true → ∀ j, k < j → j < n → x j = 0) → (∃ suf, L ++ cols n A C k x z ++ suf = LF) → CS w0 w lo3 n gf gx gxb gsb geb glb L x →
   CallsR Tryz.prog 69 (#[] ++ #[.int .i64 (k : Int), .int .i64 (rs n A C (k + 1) x), .bool z] ++ #[.pointer (some ⟨gf, 0, none⟩), .pointer (some ⟨gxb, 0, none⟩), .pointer (some ⟨gsb, 0, none⟩), .pointer (some ⟨geb, 0, none⟩), .pointer (some ⟨glb, 0, none⟩)]) w
    fun _ w' => ∃ y, CS w0 w' lo3 n gf gx gxb gsb geb glb (L ++ cols n A C k x z) y ∧ ∀ j, k < j → j < n → y j = x j := by
 induction k using Nat.strongRecOn with
 | _ k ih =>
 intro x z L w hk hr hz hL hCS
 obtain ⟨suf, hsuf⟩ := hL
 have hn := hW.hn
 have hd0 := hW.pos (k + 1) (by omega)
 have hd1 := hW.lt (k + 1) (by omega)
 have he0 := hW.pos k (by omega)
 have he1 := hW.lt k (by omega)
 have hR1 := hW.rb (show k + 1 ≤ n by omega) x
 have hq0 := hW.sq_nn hk hr
 have hq1 := hW.sqb hk x
 have hqe : sqv n A C k x = det k A * rs n A C (k + 1) x := rfl
 have hr0 := kp (sqv n A C k x)
 have hr2 := hW.rsq hk hr
 have hsb := hW.sb hk hr
 have hM := hFM.ext hCS.ex
 have hpm : W.plain am := hM.mn.plain (by rw [bU]; omega)
 have hpl : W.plain sl.a := hM.la.plain (by rw [cv]; omega)
 have hMr := hM.row k hk
 have eS : S k = ⟨(S k).a, n - k - 1, (S k).cap⟩ := by rw [← hMr.1]
 have hX := hCS.hx
 have hxb := hCS.hxb
 refine aE (args := [_, _, _, _, _, _, _, _]) Tryz.func69 rfl rfl ?_
 repeat' (first|refine aP (g := gf) rfl hM.st rfl ?_|refine dM (m := k) (m' := 1) rfl rfl (by omega) ?_|refine az (j := k + 1) (a := am) rfl rfl hpm (by omega) ?_|refine bu (j := k + 1) (n := n + 1) (f := fun i => det i A) (a := am) rfl hM.mn (by omega) ?_|refine az (j := k) (a := sl.a) rfl rfl hpl (by omega) ?_|refine aZ (j := k) (a := sl.a) (n := n) (s := S) rfl hM.la (by omega) eS ?_|refine aj rfl ?_|refine aa ?_|refine ak ?_|refine ai rfl ?_|refine ah ?_|refine bc rfl ?_|refine aM rfl ?_|refine ay ?_)
 refine aW (ι := Nat) [12, 13, 14, 34, 35, 36, 37, 38, 39, 40, 41, 42, 43, 44, 45, 46, 47, 48, 49, 50] (fun i => [(34, .int .i64 (i : Int)), (12, .int .i64 (sm i fun j => Go.LA.bm A k k (k + 1 + j) * x (k + 1 + j)))])
  (fun i w' => i ≤ n - k - 1 ∧ w' = w) (fun i => n - k - 1 - i) 0 ⟨rfl, rfl, trivial⟩ ⟨by omega, rfl⟩ ?_
 rintro i ξ w' ⟨hi, rfl⟩
 show CW _ _ _ _ (over [(34, .int .i64 (i : Int)), (12, .int .i64 (sm i fun j => Go.LA.bm A k k (k + 1 + j) * x (k + 1 + j)))] _) w'
 rcases Nat.lt_or_ge i (n - k - 1) with him | him
 ·have hps : W.plain (S k).a := hMr.2.plain (by rw [bU]; omega)
  have ht := hW.term hk hr him
  have hs := qg (n := i) (f := fun j => Go.LA.bm A k k (k + 1 + j) * x (k + 1 + j)) (M := 294912) fun j hj => hW.term hk hr (by omega)
  have hi2 : (i : Int) * 294912 ≤ 884736 := by omega
  repeat' (first|refine bq rfl rfl (by omega) ?_|refine az (j := i) (a := (S k).a) rfl rfl hps (by omega) ?_|refine bu (j := i) (n := n - k - 1) (f := fun j => Go.LA.bm A k k (k + 1 + j)) (a := (S k).a) rfl hMr.2 him ?_|refine aP (g := gxb) rfl hxb rfl ?_|refine dM (m := k) (m' := 1) rfl rfl (by omega) ?_|refine dM (m := k + 1) (m' := i) rfl rfl (by omega) ?_|refine az (j := k + 1 + i) (a := some ⟨gx, 0, none⟩) rfl rfl ⟨_, _, rfl⟩ (by omega) ?_|refine bu (j := k + 1 + i) (n := n) (f := x) (a := some ⟨gx, 0, none⟩) rfl hX.sl (by omega) ?_|refine cP rfl rfl (by omega) (by omega) ?_|refine aV rfl rfl (by omega) (by omega) ?_|refine aj rfl ?_|refine aa ?_|refine ak ?_|refine ai rfl ?_|refine ah ?_|refine aA rfl ?_|refine ay ?_|refine aJ ?_|refine aC ?_)
  exact ⟨⟨i + 1, ⟨by omega, rfl⟩, by omega, rfl, rfl, trivial⟩, (by (repeat (first|exact aG _ _ _|refine aB rfl ?_|refine ax rfl ?_|refine av rfl ?_|refine aw rfl ?_)))⟩
 obtain rfl : i = n - k - 1 := by omega
 have hshe : (sm (n - k - 1) fun j => Go.LA.bm A k k (k + 1 + j) * x (k + 1 + j)) = shv n A k x := rfl
 rw [hshe]
 repeat' (first|refine bp rfl rfl (by omega) ?_|refine aP (g := gf) rfl hM.st rfl ?_|refine az (j := k) (a := am) rfl rfl hpm (by omega) ?_|refine bu (j := k) (n := n + 1) (f := fun i => det i A) (a := am) rfl hM.mn (by omega) ?_|refine cP rfl rfl (by omega) (by omega) ?_|refine aj rfl ?_|refine aa ?_|refine ak ?_|refine ai rfl ?_|refine ah ?_|refine aM rfl ?_|refine ao rfl ?_|refine aT ?_|refine aO ?_|refine aU ?_)
 have harg : (#[Value.int .i64 (det k A * rs n A C (k + 1) x)] : Array Value) = #[.int .i64 (((sqv n A C k x).toNat : Nat) : Int)] := by rw [Int.toNat_of_nonneg hq0]; rfl
 refine au (q8 (a := (sqv n A C k x).toNat) (by omega) w') harg ?_
 rintro v w3 ⟨hv, rfl⟩
 refine tvv ?_
 obtain rfl : v = .int .i64 (rtI (sqv n A C k x)) := hv
 repeat' (first|refine aj rfl ?_|refine aa ?_|refine ak ?_|refine ai rfl ?_|refine ah ?_|refine aV rfl rfl (by omega) (by omega) ?_)
 refine au (kL (a := rtI (sqv n A C k x) + shv n A k x) (b := det (k + 1) A) hd0 (by omega) w3) rfl ?_
 rintro v w4 ⟨rfl, rfl⟩
 refine tvv ?_
 have hlo9 := hW.lo9 hk hr
 have hhi9 := hW.hi9 hk hr
 have hc0 := hW.cnt0 hk x
 have elo : -((rtI (sqv n A C k x) + shv n A k x) / det (k + 1) A) = loV n A C k x := rfl
 have ehi : (rtI (sqv n A C k x) - shv n A k x) / det (k + 1) A = hiV n A C k x := rfl
 have ecn : cntV n A C k x = hiV n A C k x - loV n A C k x + 1 := rfl
 repeat' (first|refine jy rfl (by omega) ?_|refine aj rfl ?_|refine bK rfl rfl (by omega) (by omega) ?_)
 refine au (kL (a := rtI (sqv n A C k x) - shv n A k x) (b := det (k + 1) A) hd0 (by omega) w4) rfl ?_
 rintro v w5 ⟨rfl, rfl⟩
 refine tvv ?_
 rw [elo, ehi]
 have hZ : (loV n A C k x ≤ loZ n A C k x z ∧ loZ n A C k x z ≤ hiV n A C k x + 1) ∧ -9 ≤ loZ n A C k x z := by
  unfold loZ
  cases z with
  | false => simp only [Bool.false_eq_true, if_false]; omega
  | true => simp only [if_true]; have := hW.in0 hk (hz rfl); omega
 repeat' (first|refine aj rfl ?_|refine aa ?_|refine ak ?_|refine ai rfl ?_|refine ah ?_)
 refine dy (ι := Unit) [17] (fun _ => [(17, .int .i64 (loZ n A C k x z))]) (fun _ w' => w' = w5) ?_ ?_
 ·cases z with
  | false =>
   repeat' (first|refine aa ?_|refine ao rfl ?_|refine aC ?_)
   exact ⟨⟨(), rfl, rfl, trivial⟩, (by (repeat (first|exact aX _ _|refine aB rfl ?_|refine ax rfl ?_|refine av rfl ?_|refine aw rfl ?_)))⟩
  | true =>
   repeat' (first|refine aj rfl ?_|refine aa ?_|refine ai rfl ?_|refine ah ?_|refine aA rfl ?_)
   exact ⟨⟨(), rfl, rfl, trivial⟩, (by (repeat (first|exact aX _ _|refine aB rfl ?_|refine ax rfl ?_|refine av rfl ?_|refine aw rfl ?_)))⟩
 rintro _ ξ2 w6 rfl
 show CW _ _ _ _ (over [(17, .int .i64 (loZ n A C k x z))] _) w6
 repeat' (first|refine aj rfl ?_|refine aa ?_|refine ak ?_|refine ai rfl ?_|refine ah ?_|refine ay ?_)
 have hcol := gj n A C k x z
 refine aW (ι := Int × Vec) [19, 20, 21, 73, 74, 75, 76, 77, 78, 79, 80, 81, 82, 83, 84, 85, 86, 87, 88, 89, 90, 91, 92, 93, 94, 95, 96, 97, 98, 99, 100, 101, 102, 103, 104, 105, 106, 107, 108, 109, 110, 111, 112, 113, 114, 115, 116, 117, 118, 119, 120, 121, 122] (fun t => [(19, .int .i64 t.1)])
  (fun t w' => (loZ n A C k x z ≤ t.1 ∧ t.1 ≤ hiV n A C k x + 1) ∧ CS w0 w' lo3 n gf gx gxb gsb geb glb (L ++ (rg (loZ n A C k x z) (t.1 - 1)).flatMap (colF n A C k x z)) t.2 ∧ ∀ j, k < j → j < n → t.2 j = x j) (fun t => (hiV n A C k x + 1 - t.1).toNat)
  (loZ n A C k x z, x) ⟨rfl, trivial⟩ ⟨⟨Int.le_refl _, hZ.1.2⟩, by simp only; rw [q5 (by omega)]; simpa using hCS, fun j _ _ => rfl⟩ ?_
 rintro ⟨c, y⟩ ξ3 w7 ⟨⟨hc1, hc2⟩, hC7, hy7⟩
 simp only at hc1 hc2 hC7 hy7
 show CW _ _ _ _ (over [(19, .int .i64 c)] _) w7
 rcases Int.lt_or_le (hiV n A C k x) c with hch | hch
 ·obtain rfl : c = hiV n A C k x + 1 := by omega
  repeat' (first|refine fd rfl rfl (by omega) ?_|refine aj rfl ?_|refine aa ?_|refine ak ?_|refine ai rfl ?_|refine ah ?_|refine ao rfl ?_|refine aT ?_|refine aO ?_|refine aU ?_)
  refine tJ rfl ⟨y, ?_, hy7⟩
  rw [hcol]
  rwa [show hiV n A C k x + 1 - 1 = hiV n A C k x by omega] at hC7
 have hag : ∀ j, k < j → j < n → setF y k c j = x j := fun j hj hjn => by rw [aN _ _ (by omega)]; exact hy7 j hj hjn
 have hx' : 0 ≤ rs n A C k (setF y k c) := (hW.in_iff hk hr hag).2 (by rw [aI]; exact ⟨by omega, hch⟩)
 have hst := hW.rstep hk (setF y k c)
 rw [gQ hag, gP hag, aI] at hst
 have hdc := hW.dcb (show k + 1 ≤ n by omega) (c := c) (by omega)
 have hu0 := Go.LA.sq_nn (det (k + 1) A * c + shv n A k x)
 have hu1 := Int.mul_nonneg hx' (Int.le_of_lt hd0)
 have hrb := hW.rb (show k ≤ n by omega) (setF y k c)
 rw [hqe] at hst
 have hsn : rg (loZ n A C k x z) c = rg (loZ n A C k x z) (c - 1) ++ [c] := jW hc1
 have hfl : L ++ (rg (loZ n A C k x z) c).flatMap (colF n A C k x z) = L ++ (rg (loZ n A C k x z) (c - 1)).flatMap (colF n A C k x z) ++ colF n A C k x z c := by
  rw [hsn, List.flatMap_append]; simp
 have hpre : ∃ suf', L ++ (rg (loZ n A C k x z) (c - 1)).flatMap (colF n A C k x z) ++ colF n A C k x z c ++ suf' = LF := ⟨(rg (c + 1) (hiV n A C k x)).flatMap (colF n A C k x z) ++ suf, by
  rw [← hsuf, hcol, ra (hiV n A C k x - c).toNat (lo := loZ n A C k x z) (hi := hiV n A C k x) (c := c) (by omega) (by omega), hsn]
  simp⟩
 repeat' (first|refine fz rfl rfl hch ?_|refine aP (g := gxb) rfl hC7.hxb rfl ?_|refine az (j := k) (a := some ⟨gx, 0, none⟩) rfl rfl ⟨_, _, rfl⟩ (by omega) ?_|refine aj rfl ?_|refine aa ?_|refine ak ?_|refine ai rfl ?_|refine ah ?_|refine aA rfl ?_|refine ay ?_|refine aC ?_)
 refine cT (j := k) (n := n) (f := y) (u := c) rfl rfl hC7.hx hk (fun w8 hc8 hb8 => tvv ?_)
 have hC8 := hC7.setx hN hc8 hb8
 by_cases hk0 : k = 0
 ·subst hk0
  cases z with
  | false =>
   repeat' (first|refine cP rfl rfl (by omega) (by omega) ?_|refine jx rfl rfl hst.symm hd0 (by omega) ?_|refine cW rfl rfl (by omega) ?_|refine aP (g := geb) rfl hC8.heb rfl ?_|refine aj rfl ?_|refine aa ?_|refine ak ?_|refine ai rfl ?_|refine ah ?_|refine bY rfl rfl ?_|refine aV rfl rfl (by omega) (by omega) ?_|refine bK rfl rfl (by omega) (by omega) ?_|refine ao rfl ?_|refine ay ?_)
   obtain ⟨sd, SL, hl1, hl2, hl3⟩ := hC8.li
   have hcl : colF n A C 0 x false c = [(List.range n).map (setF x 0 c)] := by simp [colF]
   have hsd : sd.len = (L ++ (rg (loZ n A C 0 x false) (c - 1)).flatMap (colF n A C 0 x false)).length := hl2.1
   obtain ⟨LL, hLL⟩ : ∃ LL, L ++ (rg (loZ n A C 0 x false) (c - 1)).flatMap (colF n A C 0 x false) = LL := ⟨_, rfl⟩
   rw [hLL] at hl2 hl3 hsd hfl hpre
   have hlen : LL.length ≤ 10000 := by
    obtain ⟨suf', h⟩ := hpre
    have := congrArg List.length h
    simp only [List.length_append] at this
    omega
   have hEd := (Ex.refl w8).drew
   have hxl := hC8.hx
   have hxb8 := hC8.hxb
   have hN' := hN
   obtain ⟨n1, n2, n3, n4⟩ := hN'
   have hsz := hC8.sz
   refine bn (late := [5]) (plan := [(0, none), (1, none), (2, some true), (3, some true), (4, some true), (5, some false)]) (fun w' => Blk w' glb 25 [.slice sd.a sd.len sd.cap] ∧ Blk w' gxb 58 [.slice (some ⟨gx, 0, none⟩) n n]) bD (by kernel_rfl) ⟨hl1.drew, hxb8.drew⟩ ?_
   repeat' (first|refine aP (g := glb) rfl (fun _ h => h.1) rfl ?_|refine aP (g := gxb) rfl (fun _ h => h.2) rfl ?_)
   refine au (iR (c := n) (hxl.ext hEd).sl (by omega)) rfl ?_
   rintro v w9 ⟨gc, cc, rfl, hOc, hE9⟩
   refine ⟨fun _ h => ⟨h.1.ext hE9, h.2.ext hE9⟩, ?_⟩
   have hE89 := hEd.trans hE9
   have z89 := hE89.size
   have offg : ∀ ad, sd.a = some ad → ad.block ≠ glb := fun ad e => by have := (TopG.lo hl2 ad e).1; omega
   have offx : ∀ ad, sd.a = some ad → ad.block ≠ gxb := fun ad e => by have := (TopG.lo hl2 ad e).1; omega
   refine lz (E := 58) (u := ⟨some ⟨gc, 0, none⟩, n, cc⟩) (s := sd) (n := LL.length) (lo := lo3) (f := SL) rfl rfl rfl (fun wa wb hg hz h => ⟨h.1.gb hg (ch offg), h.2.gb hg (ch offx)⟩) (TopG.ext hl2 hE89) (by omega) (by omega) (by omega) (fun g12 sd' S' w12 hT12 hS1 hS2 hg12 ha12 => ?_)
   have hCe := hC8.ext hE89
   have hoc := (hOc.lo _ rfl).1
   have hT9 := TopG.ext hl2 hE89
   have z12 := hg12.size
   have hlow := fun ad e => (TopG.lo hl2 ad e).1
   have gbo : ∀ {q T : Nat} {cs : List Value}, Blk w9 q T cs → q < lo3 → Blk w12 q T cs := fun {q T cs} hb hq => hb.gb hg12 (ch fun ad e => by have := hlow ad e; omega)
   have hl12 := gbo (hl1.ext hE89) n2.2.2.2.2
   have hE12 : Ex w0 w12 := hCe.ex.gb hg12 fun q e => by
    cases hsa : sd.a with
    | none => rw [hsa] at e; cases e
    | some ad => rw [hsa] at e; have := hlow ad hsa; simp [Value.ownBlock] at e; omega
   refine cD (v := .slice sd'.a sd'.len sd'.cap) rfl rfl rfl hl12 rfl (fun w13 hc13 hb13 => ⟨fun h => (nomatch h), ?_⟩)
   repeat' (first|refine aj rfl ?_|refine aa ?_|refine ai rfl ?_|refine ah ?_|refine aV rfl rfl (by omega) (by omega) ?_|refine aJ ?_)
   have hoc2 : w8.heap.size ≤ gc := hoc
   have hlo13 : ∀ ad, sd'.a = some ad → lo3 ≤ ad.block := fun ad e => (TopG.lo hT12 ad e).1
   refine ⟨⟨(c + 1, setF y 0 c), ⟨⟨by simp only; omega, by simp only; omega⟩, ?_, hag⟩, by simp only; omega, rfl, trivial⟩, (by (repeat (first|exact aG _ _ _|refine aB rfl ?_|refine ax rfl ?_|refine av rfl ?_|refine aw rfl ?_)))⟩
   simp only
   rw [show c + 1 - 1 = c by omega, hfl, hcl]
   refine ⟨hE12.chg hc13 n1.2.1, by rw [hc13.size]; omega, (gbo hCe.hx n2.1).chg hc13 n3.2.2.2, (gbo hCe.hxb n2.2.1).chg hc13 (Ne.symm n4.1), (gbo hCe.hsb n2.2.2.1).chg hc13 (Ne.symm n4.2.1), (gbo hCe.heb n2.2.2.2.1).chg hc13 (Ne.symm n4.2.2), sd', S', hb13, ?_, fun i hi => ?_⟩
   ·rw [List.length_append]
    exact TopG.gb hT12 (dx hc13) fun ad e he => by cases he; have := hlo13 ad e; omega
   ·rw [List.length_append, List.length_singleton] at hi
    have hrowx : ∀ {vg : Nat} {f : Nat → Int}, lo3 ≤ vg → Sl w9 (some ⟨vg, 0, none⟩) (intC n f) → Sl w13 (some ⟨vg, 0, none⟩) (intC n f) := fun {vg f} hv hs =>
     fQ (gg hs hT9 hg12) (fun _ ad e => by cases e; show vg ≠ glb; omega) hc13
    rw [mR hi]
    by_cases hil : i < LL.length
    ·rw [if_pos hil, hS1 i hil]
     obtain ⟨r1, vg, r2, r3, r4⟩ := hl3 i hil
     exact ⟨r1, vg, r2, r3, hrowx r3 (r4.ext hE89)⟩
    ·obtain rfl : i = LL.length := by omega
     rw [if_neg hil, hS2]
     refine ⟨rfl, gc, rfl, by omega, hrowx (by omega) ?_⟩
     rw [cJ (g := setF y 0 c) fun j hj => by
      rw [List.getD_eq_getElem?_getD, List.getElem?_map, List.getElem?_range hj]
      show setF x 0 c j = setF y 0 c j
      by_cases e : j = 0
      ·subst e; rw [aI, aI]
      ·rw [aN _ _ e, aN _ _ e]; exact (hy7 j (by omega) hj).symm]
     exact hOc.sl
  | true =>
   by_cases hcz : c = 0
   ·have hcl0 : colF n A C 0 x true c = [] := if_pos (by subst hcz; rfl)
    repeat' (first|refine cP rfl rfl (by omega) (by omega) ?_|refine jx rfl rfl hst.symm hd0 (by omega) ?_|refine cW rfl rfl (by omega) ?_|refine eV rfl rfl hcz ?_|refine aj rfl ?_|refine aa ?_|refine ak ?_|refine ai rfl ?_|refine ah ?_|refine bJ rfl rfl ?_|refine aV rfl rfl (by omega) (by omega) ?_|refine bK rfl rfl (by omega) (by omega) ?_|refine aA rfl ?_|refine ao rfl ?_|refine ay ?_|refine aJ ?_|refine aC ?_)
    refine ⟨⟨(c + 1, setF y 0 c), ⟨⟨by simp only; omega, by simp only; omega⟩, ?_, hag⟩, by simp only; omega, rfl, trivial⟩, (by (repeat (first|exact aG _ _ _|refine aB rfl ?_|refine ax rfl ?_|refine av rfl ?_|refine aw rfl ?_)))⟩
    simp only
    rw [show c + 1 - 1 = c by omega, hfl, hcl0, List.append_nil]; exact hC8
   ·repeat' (first|refine cP rfl rfl (by omega) (by omega) ?_|refine jx rfl rfl hst.symm hd0 (by omega) ?_|refine cW rfl rfl (by omega) ?_|refine eH rfl rfl hcz ?_|refine aP (g := geb) rfl hC8.heb rfl ?_|refine aj rfl ?_|refine aa ?_|refine ak ?_|refine ai rfl ?_|refine ah ?_|refine bJ rfl rfl ?_|refine bY rfl rfl ?_|refine aV rfl rfl (by omega) (by omega) ?_|refine bK rfl rfl (by omega) (by omega) ?_|refine ao rfl ?_|refine ay ?_)
    obtain ⟨sd, SL, hl1, hl2, hl3⟩ := hC8.li
    have hcl : colF n A C 0 x true c = [(List.range n).map (setF x 0 c)] := by simp [colF, hcz]
    have hsd : sd.len = (L ++ (rg (loZ n A C 0 x true) (c - 1)).flatMap (colF n A C 0 x true)).length := hl2.1
    obtain ⟨LL, hLL⟩ : ∃ LL, L ++ (rg (loZ n A C 0 x true) (c - 1)).flatMap (colF n A C 0 x true) = LL := ⟨_, rfl⟩
    rw [hLL] at hl2 hl3 hsd hfl hpre
    have hlen : LL.length ≤ 10000 := by
     obtain ⟨suf', h⟩ := hpre
     have := congrArg List.length h
     simp only [List.length_append] at this
     omega
    have hEd := (Ex.refl w8).drew
    have hxl := hC8.hx
    have hxb8 := hC8.hxb
    have hN' := hN
    obtain ⟨n1, n2, n3, n4⟩ := hN'
    have hsz := hC8.sz
    refine bn (late := [5]) (plan := [(0, none), (1, none), (2, some true), (3, some true), (4, some true), (5, some false)]) (fun w' => Blk w' glb 25 [.slice sd.a sd.len sd.cap] ∧ Blk w' gxb 58 [.slice (some ⟨gx, 0, none⟩) n n]) bD (by kernel_rfl) ⟨hl1.drew, hxb8.drew⟩ ?_
    repeat' (first|refine aP (g := glb) rfl (fun _ h => h.1) rfl ?_|refine aP (g := gxb) rfl (fun _ h => h.2) rfl ?_)
    refine au (iR (c := n) (hxl.ext hEd).sl (by omega)) rfl ?_
    rintro v w9 ⟨gc, cc, rfl, hOc, hE9⟩
    refine ⟨fun _ h => ⟨h.1.ext hE9, h.2.ext hE9⟩, ?_⟩
    have hE89 := hEd.trans hE9
    have z89 := hE89.size
    have offg : ∀ ad, sd.a = some ad → ad.block ≠ glb := fun ad e => by have := (TopG.lo hl2 ad e).1; omega
    have offx : ∀ ad, sd.a = some ad → ad.block ≠ gxb := fun ad e => by have := (TopG.lo hl2 ad e).1; omega
    refine lz (E := 58) (u := ⟨some ⟨gc, 0, none⟩, n, cc⟩) (s := sd) (n := LL.length) (lo := lo3) (f := SL) rfl rfl rfl (fun wa wb hg hz h => ⟨h.1.gb hg (ch offg), h.2.gb hg (ch offx)⟩) (TopG.ext hl2 hE89) (by omega) (by omega) (by omega) (fun g12 sd' S' w12 hT12 hS1 hS2 hg12 ha12 => ?_)
    have hCe := hC8.ext hE89
    have hoc := (hOc.lo _ rfl).1
    have hT9 := TopG.ext hl2 hE89
    have z12 := hg12.size
    have hlow := fun ad e => (TopG.lo hl2 ad e).1
    have gbo : ∀ {q T : Nat} {cs : List Value}, Blk w9 q T cs → q < lo3 → Blk w12 q T cs := fun {q T cs} hb hq => hb.gb hg12 (ch fun ad e => by have := hlow ad e; omega)
    have hl12 := gbo (hl1.ext hE89) n2.2.2.2.2
    have hE12 : Ex w0 w12 := hCe.ex.gb hg12 fun q e => by
     cases hsa : sd.a with
     | none => rw [hsa] at e; cases e
     | some ad => rw [hsa] at e; have := hlow ad hsa; simp [Value.ownBlock] at e; omega
    refine cD (v := .slice sd'.a sd'.len sd'.cap) rfl rfl rfl hl12 rfl (fun w13 hc13 hb13 => ⟨fun h => (nomatch h), ?_⟩)
    repeat' (first|refine aj rfl ?_|refine aa ?_|refine ai rfl ?_|refine ah ?_|refine aV rfl rfl (by omega) (by omega) ?_|refine aJ ?_)
    have hoc2 : w8.heap.size ≤ gc := hoc
    have hlo13 : ∀ ad, sd'.a = some ad → lo3 ≤ ad.block := fun ad e => (TopG.lo hT12 ad e).1
    refine ⟨⟨(c + 1, setF y 0 c), ⟨⟨by simp only; omega, by simp only; omega⟩, ?_, hag⟩, by simp only; omega, rfl, trivial⟩, (by (repeat (first|exact aG _ _ _|refine aB rfl ?_|refine ax rfl ?_|refine av rfl ?_|refine aw rfl ?_)))⟩
    simp only
    rw [show c + 1 - 1 = c by omega, hfl, hcl]
    refine ⟨hE12.chg hc13 n1.2.1, by rw [hc13.size]; omega, (gbo hCe.hx n2.1).chg hc13 n3.2.2.2, (gbo hCe.hxb n2.2.1).chg hc13 (Ne.symm n4.1), (gbo hCe.hsb n2.2.2.1).chg hc13 (Ne.symm n4.2.1), (gbo hCe.heb n2.2.2.2.1).chg hc13 (Ne.symm n4.2.2), sd', S', hb13, ?_, fun i hi => ?_⟩
    ·rw [List.length_append]
     exact TopG.gb hT12 (dx hc13) fun ad e he => by cases he; have := hlo13 ad e; omega
    ·rw [List.length_append, List.length_singleton] at hi
     have hrowx : ∀ {vg : Nat} {f : Nat → Int}, lo3 ≤ vg → Sl w9 (some ⟨vg, 0, none⟩) (intC n f) → Sl w13 (some ⟨vg, 0, none⟩) (intC n f) := fun {vg f} hv hs =>
      fQ (gg hs hT9 hg12) (fun _ ad e => by cases e; show vg ≠ glb; omega) hc13
     rw [mR hi]
     by_cases hil : i < LL.length
     ·rw [if_pos hil, hS1 i hil]
      obtain ⟨r1, vg, r2, r3, r4⟩ := hl3 i hil
      exact ⟨r1, vg, r2, r3, hrowx r3 (r4.ext hE89)⟩
     ·obtain rfl : i = LL.length := by omega
      rw [if_neg hil, hS2]
      refine ⟨rfl, gc, rfl, by omega, hrowx (by omega) ?_⟩
      rw [cJ (g := setF y 0 c) fun j hj => by
       rw [List.getD_eq_getElem?_getD, List.getElem?_map, List.getElem?_range hj]
       show setF x 0 c j = setF y 0 c j
       by_cases e : j = 0
       ·subst e; rw [aI, aI]
       ·rw [aN _ _ e, aN _ _ e]; exact (hy7 j (by omega) hj).symm]
      exact hOc.sl
 obtain ⟨k', rfl⟩ : ∃ k', k = k' + 1 := ⟨k - 1, by omega⟩
 have ek : (((k' + 1 : Nat) : Int) - 1) = (k' : Int) := by omega
 have hce : colF n A C (k' + 1) x z c = cols n A C k' (setF y (k' + 1) c) (z && c == 0) := mN (x := setF x (k' + 1) c) fun j hj hjn => by
  by_cases e : j = k' + 1
  ·subst e; rw [aI, aI]
  ·rw [aN _ _ e, aN _ _ e]; exact (hy7 j (by omega) hjn).symm
 have hzz : (z && c == 0) = true → ∀ j, k' < j → j < n → setF y (k' + 1) c j = 0 := fun e j hj hjn => by
  simp only [Bool.and_eq_true, beq_iff_eq] at e
  by_cases e1 : j = k' + 1
  ·subst e1; rw [aI]; exact e.2
  ·rw [aN _ _ e1, hy7 j (by omega) hjn]; exact hz e.1 j (by omega) hjn
 have hrec := ih k' (by omega) (setF y (k' + 1) c) (z && c == 0) _ w8 (by omega) hx' hzz (by rw [← hce]; exact hpre) hC8
 cases z with
 | false =>
  repeat' (first|refine cP rfl rfl (by omega) (by omega) ?_|refine jx rfl rfl hst.symm hd0 (by omega) ?_|refine jp rfl rfl (by omega) ?_|refine aP (g := gsb) rfl hC8.hsb rfl ?_|refine aj rfl ?_|refine aa ?_|refine ak ?_|refine ai rfl ?_|refine ah ?_|refine bY rfl rfl ?_|refine aV rfl rfl (by omega) (by omega) ?_|refine bK rfl rfl (by omega) (by omega) ?_|refine aA rfl ?_|refine ay ?_)
  refine fh rfl hrec (by
   show #[] ++ #[Value.int .i64 (((k' + 1 : Nat) : Int) - 1), Value.int .i64 (rs n A C (k' + 1) (setF y (k' + 1) c)), Value.bool false] ++ #[.pointer (some ⟨gf, 0, none⟩), .pointer (some ⟨gxb, 0, none⟩), .pointer (some ⟨gsb, 0, none⟩), .pointer (some ⟨geb, 0, none⟩), .pointer (some ⟨glb, 0, none⟩)] = _
   rw [ek]; rfl) ?_
  rintro v w9 ⟨y', hC9, hy9⟩
  refine tvv ?_
  repeat' (first|refine aj rfl ?_|refine aa ?_|refine ai rfl ?_|refine ah ?_|refine aV rfl rfl (by omega) (by omega) ?_|refine aJ ?_)
  refine ⟨⟨(c + 1, y'), ⟨⟨by simp only; omega, by simp only; omega⟩, ?_, fun j hj hjn => ?_⟩, by simp only; omega, rfl, trivial⟩, (by (repeat (first|exact aG _ _ _|refine aB rfl ?_|refine ax rfl ?_|refine av rfl ?_|refine aw rfl ?_)))⟩
  ·simp only
   rw [show c + 1 - 1 = c by omega, hfl, hce]; exact hC9
  ·simp only
   rw [hy9 j (by omega) hjn]; exact hag j hj hjn
 | true =>
  repeat' (first|refine cP rfl rfl (by omega) (by omega) ?_|refine jx rfl rfl hst.symm hd0 (by omega) ?_|refine jp rfl rfl (by omega) ?_|refine aP (g := gsb) rfl hC8.hsb rfl ?_|refine aj rfl ?_|refine aa ?_|refine ak ?_|refine ai rfl ?_|refine ah ?_|refine bJ rfl rfl ?_|refine aV rfl rfl (by omega) (by omega) ?_|refine bK rfl rfl (by omega) (by omega) ?_|refine aA rfl ?_|refine ay ?_)
  refine fh rfl hrec (by
   show #[] ++ #[Value.int .i64 (((k' + 1 : Nat) : Int) - 1), Value.int .i64 (rs n A C (k' + 1) (setF y (k' + 1) c)), Value.bool (decide (c = 0))] ++ #[.pointer (some ⟨gf, 0, none⟩), .pointer (some ⟨gxb, 0, none⟩), .pointer (some ⟨gsb, 0, none⟩), .pointer (some ⟨geb, 0, none⟩), .pointer (some ⟨glb, 0, none⟩)] = _
   rw [ek]; rfl) ?_
  rintro v w9 ⟨y', hC9, hy9⟩
  refine tvv ?_
  repeat' (first|refine aj rfl ?_|refine aa ?_|refine ai rfl ?_|refine ah ?_|refine aV rfl rfl (by omega) (by omega) ?_|refine aJ ?_)
  refine ⟨⟨(c + 1, y'), ⟨⟨by simp only; omega, by simp only; omega⟩, ?_, fun j hj hjn => ?_⟩, by simp only; omega, rfl, trivial⟩, (by (repeat (first|exact aG _ _ _|refine aB rfl ?_|refine ax rfl ?_|refine av rfl ?_|refine aw rfl ?_)))⟩
  ·simp only
   rw [show c + 1 - 1 = c by omega, hfl, hce]; exact hC9
  ·simp only
   rw [hy9 j (by omega) hjn]; exact hag j hj hjn
end Go.Proofs.YtpfhfldehaiokaaGreat
namespace Go.LA
open Go.W
theorem mS {α β : Type} {f : α → List β} {M : Nat} : ∀ {l : List α}, (∀ x ∈ l, (f x).length ≤ M) → (l.flatMap f).length ≤ l.length * M
 | [], _ => by simp
 | x :: l, h => by
  rw [List.flatMap_cons, List.length_append, List.length_cons, Nat.succ_mul]
  have h1 := h x (List.mem_cons_self ..)
  have h2 := mS (f := f) (M := M) (l := l) fun y hy => h y (List.mem_cons_of_mem _ hy)
  omega
section
variable {n : Nat} {A : Mat} {C : Int}
theorem Wk.loz (h : Wk n A C) {k : Nat} (hk : k < n) {x : Vec} (hr : 0 ≤ rs n A C (k + 1) x) (z : Bool) (hz : z = true → ∀ j, k < j → j < n → x j = 0) : loV n A C k x ≤ loZ n A C k x z ∧ -9 ≤ loZ n A C k x z := by
 have h9 := h.lo9 hk hr
 unfold loZ
 cases z with
 | false => simp only [Bool.false_eq_true, if_false]; omega
 | true => simp only [if_true]; have := h.in0 hk (hz rfl); omega
theorem Wk.zstep (_h : Wk n A C) {k : Nat} {x : Vec} {z : Bool} (hz : z = true → ∀ j, k + 1 < j → j < n → x j = 0) {c : Int} : (z && c == 0) = true → ∀ j, k < j → j < n → setF x (k + 1) c j = 0 := fun e j hj hjn => by
 simp only [Bool.and_eq_true, beq_iff_eq] at e
 by_cases e1 : j = k + 1
 ·subst e1; rw [aI]; exact e.2
 ·rw [aN _ _ e1]; exact hz e.1 j (by omega) hjn
theorem Wk.cols_len (h : Wk n A C) : ∀ (k : Nat) (x : Vec) (z : Bool), k < n → 0 ≤ rs n A C (k + 1) x → (z = true → ∀ j, k < j → j < n → x j = 0) → (cols n A C k x z).length ≤ 19 ^ (k + 1) := by
 intro k
 induction k with
 | zero =>
  intro x z hk hr hz
  rw [gj]
  have h1 := h.loz hk hr z hz
  have h2 := h.hi9 hk hr
  have h3 := q6 (loZ n A C 0 x z) (hiV n A C 0 x)
  have := mS (f := colF n A C 0 x z) (M := 1) (l := rg (loZ n A C 0 x z) (hiV n A C 0 x)) fun c _ => by
   show (if (z && c == 0) = true then [] else [(List.range n).map (setF x 0 c)] : List (List Int)).length ≤ 1
   split <;> simp
  omega
 | succ k ih =>
  intro x z hk hr hz
  rw [gj]
  have h1 := h.loz hk hr z hz
  have h2 := h.hi9 hk hr
  have h3 := q6 (loZ n A C (k + 1) x z) (hiV n A C (k + 1) x)
  have h4 := mS (f := colF n A C (k + 1) x z) (M := 19 ^ (k + 1)) (l := rg (loZ n A C (k + 1) x z) (hiV n A C (k + 1) x)) fun c hc => by
   have h5 := fN.1 hc
   exact ih (setF x (k + 1) c) (z && c == 0) (by omega) (h.down hk hr ⟨by omega, h5.2⟩) (h.zstep hz)
  refine Nat.le_trans h4 ?_
  rw [Nat.pow_succ 19 (k + 1), Nat.mul_comm (19 ^ (k + 1)) 19]
  exact Nat.mul_le_mul_right _ (by omega)
end
end Go.LA
namespace Go.Proofs.YtpfhfldehaiokaaGreat
open Go.W Go.LM Go.LA
def LiS (w : World) (lo n : Nat) (sd : SD) (S : Nat → SD) (L : List (List Int)) : Prop :=
 TopG w lo 58 L.length sd S ∧ ∀ i, i < L.length → (S i).len = n ∧ ∃ vg, (S i).a = some ⟨vg, 0, none⟩ ∧ lo ≤ vg ∧ Sl w (some ⟨vg, 0, none⟩) (intC n fun j => (L.getD i []).getD j 0)
theorem mT {A : Mat} {C : Int} {w : World} (hW : Wk 1 A C) :
  CallsR Tryz.prog 67 #[.int .i64 (A 0 0), .int .i64 C, .bool false] w fun v w' => ∃ (sd : SD) (S : Nat → SD), v = .slice sd.a sd.len sd.cap ∧ LiS w' w.heap.size 1 sd S (cols 1 A C 0 (fun _ => 0) true) ∧ Ex w w' := by
 have hC := hW.hC
 have hd1 := hW.pos 1 (Nat.le_refl _)
 have hl1 := hW.lt 1 (Nat.le_refl _)
 rw [eE] at hd1 hl1
 have hr0 : 0 ≤ rs 1 A C (0 + 1) fun _ => 0 := hW.rs0 (Nat.le_refl _) fun _ _ _ => rfl
 have h9 := hW.hi9 (k := 0) (by omega) hr0
 have hin := hW.in0 (k := 0) (x := fun _ => 0) (by omega) fun _ _ _ => rfl
 have key : ∀ x : Int, 0 ≤ x → (A 0 0 * x * x ≤ C ↔ x ≤ hiV 1 A C 0 fun _ => 0) := fun x hx => by
  have h1 := hW.in_iff (k := 0) (x := fun _ => 0) (y := fun _ => x) (by omega) hr0 (fun j hj hjn => by omega)
  have h2 : rs 1 A C 0 (fun _ => x) = C - A 0 0 * x * x := by
   unfold rs qn
   rw [cA, Int.one_mul]
   show C - (sm (0 + 1) fun i => sm (0 + 1) fun j => bm A 0 (0 + i) (0 + j) * (x * x)) = _
   rw [bG, dm, bG, dm, dO, ← Int.mul_assoc]; simp
  rw [h2] at h1
  constructor
  ·intro h; exact (h1.1 (by omega)).2
  ·intro h; have := h1.2 ⟨by omega, h⟩; omega
 generalize hhi : (hiV 1 A C 0 fun _ => 0) = hi at *
 have hcol : cols 1 A C 0 (fun _ => 0) true = (rg 0 hi).flatMap (colF 1 A C 0 (fun _ => 0) true) := by rw [gj, hhi]; rfl
 refine aE (args := [_, _, _]) Tryz.func67 rfl rfl ?_
 repeat' (first|refine aj rfl ?_|refine aa ?_|refine ak ?_|refine ai rfl ?_|refine ah ?_|refine ay ?_)
 refine aW (ι := Int × SD × (Nat → SD)) [7, 8, 9, 10, 11, 12, 13, 14, 15, 16, 17, 18, 19, 20, 21, 22, 23, 24, 25, 26, 27, 28, 29, 30, 31, 32, 33] (fun t => [(7, .slice t.2.1.a t.2.1.len t.2.1.cap), (8, .int .i64 t.1)])
  (fun t w' => ((1 ≤ t.1 ∧ t.1 ≤ hi + 1) ∧ Ex w w') ∧ LiS w' w.heap.size 1 t.2.1 t.2.2 ((rg 0 (t.1 - 1)).flatMap (colF 1 A C 0 (fun _ => 0) true)) ∧ (t.2.1.len : Int) = t.1 - 1) (fun t => (hi + 1 - t.1).toNat)
  (1, sd0, fun _ => sd0) ⟨rfl, rfl, trivial⟩ ⟨⟨⟨Int.le_refl _, by simp only; omega⟩, Ex.refl w⟩, ⟨TopG.nil _ _ _ _, fun i hi => absurd hi (Nat.not_lt_zero i)⟩, rfl⟩ ?_
 rintro ⟨c, sd, S⟩ ξ w1 ⟨⟨⟨hc1, hc2⟩, hE1⟩, hL1, hln⟩
 simp only at hc1 hc2 hL1 hln
 show CW _ _ _ _ (over [(7, .slice sd.a sd.len sd.cap), (8, .int .i64 c)] _) w1
 have hac : 0 ≤ A 0 0 * c ∧ A 0 0 * c ≤ 655360 := by
  have h1 := Int.mul_le_mul_of_nonneg_left (show c ≤ 10 by omega) (Int.le_of_lt hd1)
  have h2 := Int.mul_nonneg (Int.le_of_lt hd1) (show 0 ≤ c by omega)
  omega
 have hacc : 0 ≤ A 0 0 * c * c ∧ A 0 0 * c * c ≤ 6553600 := by
  have h1 := Int.mul_le_mul_of_nonneg_left (show c ≤ 10 by omega) hac.1
  have h2 := Int.mul_nonneg hac.1 (show 0 ≤ c by omega)
  omega
 have hk := key c (by omega)
 rcases Int.lt_or_le hi c with hch | hch
 ·obtain rfl : c = hi + 1 := by omega
  repeat' (first|refine cP rfl rfl (by omega) (by omega) ?_|refine fd rfl rfl (by omega) ?_|refine aj rfl ?_|refine aa ?_|refine ak ?_|refine ai rfl ?_|refine ah ?_|refine ao rfl ?_|refine aT ?_|refine aO ?_|refine aU ?_|refine aK ?_)
  refine bo rfl (rt rfl) ⟨sd, S, rfl, ?_, hE1⟩
  rw [hcol]
  rwa [show hi + 1 - 1 = hi by omega] at hL1
 obtain ⟨LL, hLL⟩ : ∃ LL, (rg 0 (c - 1)).flatMap (colF 1 A C 0 (fun _ => 0) true) = LL := ⟨_, rfl⟩
 have hfl : (rg 0 c).flatMap (colF 1 A C 0 (fun _ => 0) true) = LL ++ [[c]] := by
  rw [jW (by omega), List.flatMap_append, hLL]
  have : colF 1 A C 0 (fun _ => 0) true c = [[c]] := by
   have hc0 : ¬ c = 0 := by omega
   simp [colF, hc0, setF]
  simp [this]
 rw [hLL] at hL1
 have hsd : sd.len = LL.length := hL1.1.1
 have hlow := fun ad e => (TopG.lo hL1.1 ad e).1
 have z1 := hE1.size
 repeat' (first|refine cP rfl rfl (by omega) (by omega) ?_|refine fz rfl rfl (by omega) ?_|refine aj rfl ?_|refine aa ?_|refine ak ?_|refine ai rfl ?_|refine ah ?_|refine bY rfl rfl ?_|refine aA rfl ?_|refine ay ?_|refine aC ?_)
 refine gX (E := 2) (u := c) rfl (fun g2 w2 hn2 => tvv ?_)
 have o2 := hn2.lo
 have b2 := hn2.blk.lt
 refine lz (E := 58) (u := ⟨some ⟨g2, 0, none⟩, 1, 1⟩) (s := sd) (n := LL.length) (lo := w.heap.size) (f := S) rfl rfl rfl (fun wa wb hg hz h => trivial) (TopG.ext hL1.1 hn2.ex) (by omega) (by omega) (by have := hn2.ex.size; omega) (fun g3 sd' S' w3 hT3 hS1 hS2 hg3 ha3 => ?_)
 have hT2 := TopG.ext hL1.1 hn2.ex
 repeat' (first|refine aj rfl ?_|refine aa ?_|refine ai rfl ?_|refine ah ?_|refine aV rfl rfl (by omega) (by omega) ?_|refine aJ ?_)
 refine ⟨⟨(c + 1, sd', S'), ⟨⟨⟨by simp only; omega, by simp only; omega⟩, (hE1.trans hn2.ex).gb hg3 fun q e => ?_⟩, ?_, ?_⟩, by simp only; omega, rfl, rfl, trivial⟩, (by (repeat (first|exact aG _ _ _|refine aB rfl ?_|refine ax rfl ?_|refine av rfl ?_|refine aw rfl ?_)))⟩
 ·cases hsa : sd.a with
  | none => rw [hsa] at e; cases e
  | some ad => rw [hsa] at e; have := hlow ad hsa; simp [Value.ownBlock] at e; omega
 ·simp only
  rw [show c + 1 - 1 = c by omega, hfl]
  refine ⟨by rw [List.length_append]; exact hT3, fun i hi => ?_⟩
  rw [List.length_append, List.length_singleton] at hi
  rw [mR hi]
  by_cases hil : i < LL.length
  ·rw [if_pos hil, hS1 i hil]
   obtain ⟨r1, vg, r2, r3, r4⟩ := hL1.2 i hil
   exact ⟨r1, vg, r2, r3, gg (r4.ext hn2.ex) hT2 hg3⟩
  ·obtain rfl : i = LL.length := by omega
   rw [if_neg hil, hS2]
   have hsl : Sl w2 (some ⟨g2, 0, none⟩) (intC 1 fun j => [c].getD j 0) := hn2.blk.sl
   exact ⟨rfl, g2, rfl, by omega, gg hsl hT2 hg3⟩
 ·have := hT3.1; simp only; omega
end Go.Proofs.YtpfhfldehaiokaaGreat
