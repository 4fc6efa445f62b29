import Derived.Test.YtppipmkpmmdcjaaA13
import Derived.Test.YtppipmkpmmdcjaaA15
namespace Go.Proofs.Ytppipmkpmmdcjaa
open Go.W Go.LM Go.LA
theorem pF {n : Nat} (hn : 1 ≤ n) (A : Mat) : ∀ i j, i < n → j < n → mm n A (fun i j => Go.LA.sgn (n + 1) * flP n A (n - 1) i j) i j = det n A * idM i j := fun i j hi hj => by
 have h := rb hn A hi hj
 have e : mm n A (fun i j => Go.LA.sgn (n + 1) * flP n A (n - 1) i j) i j = Go.LA.sgn (n + 1) * mm n A (flP n A (n - 1)) i j := by
  unfold mm
  rw [← bR]
  exact aQ fun k _ => by rw [← Int.mul_assoc, Int.mul_comm (A i k), Int.mul_assoc]
 rw [e, h, ← Int.mul_assoc, ← Int.mul_assoc, oZ, Int.one_mul]
theorem qy {c : Nat} {W H U D : Mat} (hd : det c W ≠ 0) (hU : CEq c c W H U) (hD : ∀ i j, i < c → j < c → mm c W D i j = det c W * idM i j) : ∀ i j, i < c → j < c → mm c D H i j = det c W * U i j := fun i j hi hj => by
 have h1 : ∀ r, r < c → mm c W (mm c D H) r j = det c W * H r j := fun r hr => by
  rw [← gW]
  have : mm c (mm c W D) H r j = mm c (fun i j => det c W * idM i j) H r j := dy (fun k hk => hD r k hr hk) fun _ _ => rfl
  rw [this]
  have e : mm c (fun i j => det c W * idM i j) H r j = det c W * mm c idM H r j := by
   unfold mm; rw [← bR]; exact aQ fun k _ => by rw [Int.mul_assoc]
  rw [e, lC H r j hr]
 have h2 := ns hd (x := fun l => mm c D H l j - det c W * U l j) (fun r hr => by
  have e : (sm c fun l => W r l * (mm c D H l j - det c W * U l j)) = mm c W (mm c D H) r j - det c W * mm c W U r j := by
   unfold mm; rw [← bR, ← gA]
   exact aQ fun l _ => by grind
  rw [e, h1 r hr, ← hU.2 r j hr hj]; omega) hi
 omega
theorem ki (n : Nat) (f : Nat → Nat) : natC n f = natsL ((List.range n).map f) := by simp [natC, Function.comp_def]
set_option maxHeartbeats 4000000 in
theorem jI {K r c gp : Nat} {w : World} {s0 : Nat → SD} {P : Mat} (hT : Blk w gp 29 (topC c s0)) (hX : ∀ j, j < c → RX false K w (s0 j) (r + c) (fun x => P x j)) (hr : 1 ≤ r ∧ r ≤ 16) (hc : 1 ≤ c ∧ c ≤ 16) (hK1 : 1 ≤ K) (hK : 300 * K + 1000 < 4398046511104)
  (hP : ∀ j b, j < c → b < c → P (r + j) b = idM j b) :
  CallsR Try.prog 32 #[.agg (pairL gp c r).toArray] w fun _ w' => ∃ (gs cp : Nat → Nat) (U : Mat) (l : Nat → Nat), w.grownBy w' (some gp) ∧ Blk w' gp 29 (topC c fun j => ⟨some ⟨gs j, 0, none⟩, r + c, cp j⟩) ∧
   (∀ j, j < c → RO true (34 * K + 100) w' w.heap.size (gs j) (cp j) (r + c) (fun x => mm c P U x j)) ∧ Uni c U ∧ HF (r + c) c (mm c P U) c l := by
 refine aJ (args := [_]) Try.func32 rfl rfl ?_
 refine ao ?_
 refine ah rfl ?_
 refine bM (vs := pairL gp c r) rfl (fun g1 w1 hn1 => ⟨fun _ _ => trivial, ?_⟩)
 have hb1 := hn1.blk
 have hE1 := hn1.ex
 repeat' (first|refine aa ?_|refine ao ?_|refine ae ?_)
 refine aZ (late := []) (plan := [(0, none), (1, none), (2, none), (3, some true), (4, some true), (5, none)]) (fun w' => Ex w1 w') bt (by kernel_rfl) (Ex.refl w1).drew ?_
 have hEd := (Ex.refl w1).drew
 repeat' (first|refine aV (g := g1) rfl (fun _ h => hb1.ext h) rfl ?_|refine aP (g := g1) rfl (fun _ h => hb1.ext h) rfl ?_|refine aL rfl ?_)
 refine ax (iC (hT.ext (hE1.trans hEd)) (fun j hj => (hX j hj).ext (hE1.trans hEd)) hr hc hK1 (by omega) hP) rfl ?_
 rintro v w2 ⟨sd, f, V, rfl, hN2, hJ, hE2⟩
 refine ⟨fun _ h => h.trans hE2, ?_⟩
 have hE02 := (hE1.trans hEd).trans hE2
 skip
 have hl2 := hN2.sl
 rw [ki] at hl2
 have hlen := hN2.1
 have hfd : ∀ i, i < c → ((List.range c).map f).getD i 0 = f i := fun i hi => by simp [List.getD_eq_getElem?_getD, hi]
 have hlt : ∀ i, i < c → f i < r + c := hJ.lt
 rw [hlen]
 refine ax (fo (by simp) (hT.ext hE02).sl (fun j hj => (hX j hj).ext hE02) hl2 hc.1 hc.2 (by omega) (fun i hi => by rw [hfd i hi]; exact hlt i hi)) rfl ?_
 rintro v w3 ⟨gw, gsw, cpw, rfl, hO3, hE3⟩
 refine ⟨fun _ h => h.trans hE3, ?_⟩
 have hE03 := hE02.trans hE3
 replace hO3 := hO3.congr (F' := fun i j => P (f i) j) (fun i j hi _ => by rw [hfd i hi])
 have hd0 := hJ.det
 repeat' (first|refine ai rfl ?_|refine aa ?_|refine ao ?_|refine ah rfl ?_|refine ae ?_)
 refine ax (ke hO3.mx hc (by omega)) rfl ?_
 rintro v w4 ⟨_, rfl, hI4, hE4⟩
 refine ⟨fun _ _ => trivial, ?_⟩
 obtain ⟨xd, rfl⟩ := hI4.ih
 have hE04 := hE03.trans hE4
 generalize hW : (fun i j => P (f i) j) = W at *
 have ld : Lb (17 * K + 20) (det c W) := (Lb.det (fun r' c' hr' hc' => hO3.mx.lb hr' hc') (by omega)).mono (by
  have : (K + 1) * c ≤ (K + 1) * 16 := Nat.mul_le_mul_left _ hc.2
  omega)
 repeat' (first|refine aH rfl rfl ?_|refine ai rfl ?_)
 refine aD (fun g3 w5 hn5 => ⟨fun _ _ => trivial, ?_⟩)
 have hb5 : Blk w5 g3 27 (intL false none 0 0) := hn5.blk
 refine aw (n := 2) (vs := xd.cells) rfl rfl rfl rfl hb5 rfl (fun w6 hc6 hb6 => ⟨fun _ _ => trivial, ?_⟩)
 have s4 := hE04.size
 have lo5 := hn5.lo
 have lo3 := hO3.low
 have hE06 : Ex w w6 := (hE04.trans hn5.ex).chg hc6 (by omega)
 have hE36 : Ex w3 w6 := (hE4.trans hn5.ex).chg hc6 (by have := hE4.size; omega)
 have hO6 := hO3.ext hE36
 have hd6 : Ent true (17 * K + 20) w6 xd.val (det c W) := (Ent.of (hI4.ext hn5.ex) ld).gbN hb5 (au _ _ _ _) (bc hc6)
 repeat' (first|refine ai rfl ?_|refine aa ?_|refine ao ?_|refine ah rfl ?_|refine ae ?_)
 refine ax (jG hO6.mx hc (by omega)) rfl ?_
 rintro v w7 ⟨_, rfl, ga, gsa, cpa, rfl, hO7, hE7⟩
 refine ⟨fun _ _ => trivial, ?_⟩
 have hb7 := hb6.ext hE7
 have hO6' := (hO6.ext hE7).mx.up (K' := 17 * K + 20) (by omega)
 repeat' (first|refine aH rfl rfl ?_|refine aP (g := g3) rfl hb7 rfl ?_|refine ai rfl ?_|refine aa ?_|refine ao ?_|refine ah rfl ?_|refine ae ?_)
 refine ax (iQ hO6' hc (hd6.ext hE7) hd0 (by omega) (by omega)) rfl ?_
 rintro v w8 ⟨H, hH, gh, gsh, cph, rfl, hO8, hE8⟩
 refine ⟨fun _ _ => trivial, ?_⟩
 refine ax (kb (hO7.ext hE8).mx hO8.mx hc hc hc (by omega)) rfl ?_
 rintro v w9 ⟨_, rfl, gu, gsu, cpu, rfl, hO9, hE9⟩
 refine ⟨fun _ _ => trivial, ?_⟩
 obtain ⟨U, hU⟩ := hH.ceq
 have hdiv := qy hd0 hU (pF hc.1 W)
 generalize mm c (fun i j => Go.LA.sgn (c + 1) * flP c W (c - 1) i j) H = M at hO9 hdiv
 generalize hKM : 16 * K + 64 + (17 * K + 20) + 1 = KM at hO9
 have hE69 := (hE7.trans hE8).trans hE9
 have hb8 := hb6.ext (hE7.trans hE8)
 have hd8 := hd6.ext (hE7.trans hE8)
 have hE08 := hE06.trans (hE7.trans hE8)
 have hE09 := hE06.trans hE69
 have lM : ∀ i j, i < c → j < c → Lb KM (M i j) := fun i j hi hj => hO9.mx.lb hi hj
 have lg3 : g3 < w8.heap.size := by have := hb6.lt; have := (hE7.trans hE8).size; omega
 repeat' (first|refine aH rfl rfl ?_|refine ai rfl ?_|refine aa ?_|refine ao ?_|refine ah rfl ?_|refine ae ?_|refine bn rfl ?_|refine aC ?_)
 refine bh (ι := Nat) [10, 11, 12, 38, 39, 40, 41, 42, 43, 44, 45, 46, 47, 48, 49, 50, 51, 52, 53, 54, 55, 56, 57, 58, 59, 60] (fun i => [(38, .int .i64 (i : Int))])
  (fun i w' => i ≤ c ∧ Ex w8 w' ∧ MO true KM w' w8.heap.size gu c c gsu cpu (fun a b => if a < i then M a b / det c W else M a b)) (fun i => c - i)
  0 ⟨rfl, trivial⟩ ⟨by omega, hE9, hO9.congr fun a b _ _ => if_neg (by omega)⟩ ?_
 clear hO9 hE9
 rintro i ξ w10 ⟨hi, hE10, hO10⟩
 show CW _ _ _ _ (over [(38, .int .i64 (i : Int))] _) w10
 rcases Nat.lt_or_ge i c with hic | hic
 ·repeat' (first|refine bA rfl rfl (by omega) ?_|refine aB (j := i) (a := some ⟨gu, 0, none⟩) rfl rfl ⟨_, _, rfl⟩ (by omega) ?_|refine aS (j := i) (a := some ⟨gu, 0, none⟩) (n := c) (s := fun k => ⟨some ⟨gsu k, 0, none⟩, c, cpu k⟩) rfl hO10.top.sl (by omega) rfl ?_|refine ai rfl ?_|refine aa ?_|refine ao ?_|refine ah rfl ?_|refine ae ?_|refine bn rfl ?_|refine aE rfl ?_|refine aC ?_|refine aI ?_)
  refine bh (ι := Nat) [11, 12, 44, 45, 46, 47, 48, 49, 50, 51, 52, 53, 54, 55, 56, 57, 58, 59] (fun j => [(44, .int .i64 (j : Int))])
   (fun j w' => j ≤ c ∧ Ex w8 w' ∧ MO true KM w' w8.heap.size gu c c gsu cpu (fun a b => if a < i ∨ (a = i ∧ b < j) then M a b / det c W else M a b)) (fun j => c - j)
   0 ⟨rfl, trivial⟩ ⟨by omega, hE10, hO10.congr fun a b _ _ => by
    by_cases h : a < i
    ·rw [if_pos h, if_pos (.inl h)]
    ·rw [if_neg h, if_neg (by omega)]⟩ ?_
  clear hO10 hE10
  rintro j ξ2 w11 ⟨hj, hE11, hO11⟩
  show CW _ _ _ _ (over [(44, .int .i64 (j : Int))] _) w11
  rcases Nat.lt_or_ge j c with hjc | hjc
  ·obtain ⟨hh, hbr, hcr, hEr⟩ := hO11.get hic
   have eij := hEr j hjc
   rw [if_neg (by omega)] at eij
   repeat' (first|refine bA rfl rfl (by omega) ?_|refine aU (j := j) (a := some ⟨gsu i, 0, none⟩) rfl rfl ⟨_, _, rfl⟩ (by omega) ?_|refine bp (j := j) (n := cpu i) (a := some ⟨gsu i, 0, none⟩) rfl hbr.sl ⟨_, _, rfl⟩ (by omega) ?_|refine ai rfl ?_|refine aa ?_|refine ao ?_|refine ah rfl ?_|refine ae ?_|refine aE rfl ?_|refine aC ?_|refine aI ?_)
   refine aD (fun g12 w12 hn12 => ⟨fun _ _ => trivial, ?_⟩)
   have hb12 : Blk w12 g12 27 (intL false none 0 0) := hn12.blk
   repeat' (first|refine ai rfl ?_)
   refine aw (n := 2) (vs := (hh j).cells) rfl rfl rfl rfl hb12 rfl (fun w13 hc13 hb13 => ⟨fun _ _ => trivial, ?_⟩)
   have hE1113 : Ex w11 w13 := hn12.ex.chg hc13 hn12.lo
   have hE813 := hE11.trans hE1113
   have hb313 := hb8.ext hE813
   have hd13 := hd8.ext hE813
   repeat' (first|refine aP (g := g12) rfl hb13 rfl ?_|refine aP (g := g3) rfl hb313 rfl ?_|refine ai rfl ?_|refine aa ?_|refine ah rfl ?_|refine ae ?_)
   refine ax (bf (eij.ext hE1113).k hd13.k (by omega) (by omega)) rfl ?_
   rintro v w14 ⟨q, rm, rfl, hq, hrm, hE14⟩
   refine ⟨fun _ _ => trivial, ?_⟩
   obtain ⟨xq, rfl⟩ := hq.ih
   have hE1114 := hE1113.trans hE14
   have hbr14 := hbr.ext hE1114
   repeat' (first|refine aH rfl rfl ?_|refine aU (j := j) (a := some ⟨gsu i, 0, none⟩) rfl rfl ⟨_, _, rfl⟩ (by omega) ?_|refine ai rfl ?_)
   refine bP (j := j) (n := cpu i) (u := xq) rfl rfl hbr14 (by omega) (fun w15 hc15 hb15 => ⟨fun _ _ => trivial, ?_⟩)
   repeat' (first|refine ai rfl ?_|refine aa ?_|refine ah rfl ?_|refine ae ?_|refine bi rfl rfl (by omega) (by omega) ?_|refine aM ?_)
   refine ⟨⟨j + 1, ⟨hjc, (hE11.trans hE1114).chg hc15 (hO11.row i hic).low, ((hO11.ext hE1114).put hic hbr14 (fun j hj => (hEr j hj).ext hE1114) (Ent.of hq ((lM i j hic hjc).div _)) hc15 hb15).congr fun a b _ _ => ?_⟩, by omega, rfl, trivial⟩, (by (repeat (first|exact aF _ _ _|refine ay rfl ?_|refine av rfl ?_|refine aj rfl ?_|refine ak rfl ?_)))⟩
   unfold setM
   by_cases h : a = i ∧ b = j
   ·rw [if_pos h, if_pos (by omega), h.1, h.2]
   ·rw [if_neg h]
    show _ = if a < i ∨ (a = i ∧ b < j) then _ else M a b
    by_cases h' : a < i ∨ (a = i ∧ b < j)
    ·rw [if_pos h', if_pos (by omega)]
    ·rw [if_neg h', if_neg (by omega)]
  ·have ejc : c = j := by omega
   subst ejc
   repeat' (first|refine bz rfl rfl (by omega) ?_|refine ai rfl ?_|refine aa ?_|refine ao ?_|refine ah rfl ?_|refine ae ?_|refine bi rfl rfl (by omega) (by omega) ?_|refine aA rfl ?_|refine aW ?_|refine aO ?_|refine aX ?_|refine aM ?_)
   refine ⟨⟨i + 1, ⟨hic, hE11, hO11.congr fun a b _ hb => ?_⟩, by omega, rfl, trivial⟩, (by (repeat (first|exact aF _ _ _|refine ay rfl ?_|refine av rfl ?_|refine aj rfl ?_|refine ak rfl ?_)))⟩
   by_cases h : a < i + 1
   ·rw [if_pos h, if_pos (by omega)]
   ·rw [if_neg h, if_neg (by omega)]
 ·have eic : c = i := by omega
  subst eic
  have hE010 := hE08.trans hE10
  have hU10 := hO10.congr (F' := U) (fun a b ha hb => by rw [if_pos ha, hdiv a b ha hb, Int.mul_ediv_cancel_left _ hd0])
  repeat' (first|refine bz rfl rfl (by omega) ?_|(refine aV (g := g1) rfl (hb1.ext ((hEd.trans hE2).trans (hE3.trans (hE36.trans ((hE7.trans hE8).trans hE10))))) rfl ?_)|refine ai rfl ?_|refine aa ?_|refine ao ?_|refine ah rfl ?_|refine ae ?_|refine aL rfl ?_|refine aA rfl ?_|refine aW ?_|refine aO ?_|refine aX ?_)
  refine ax (mN (hT.ext hE010) (fun j hj => (hX j hj).ext hE010) hU10.mx hc (by omega) (by omega) (by omega)) rfl ?_
  rintro v w11 ⟨gs, cp, hG11, hT11, hR11⟩
  refine ⟨fun _ _ => trivial, ?_⟩
  repeat' (first|refine ae ?_)
  refine im rfl ⟨gs, cp, U, f, bC (qJ hE010) hG11 (fun k e => .inl e), hT11, fun j hj => ?_, hU.1, ?_⟩
  ·exact ((hR11 j hj).mono hE010.size).up (by omega)
  ·rw [← hW] at hH hU
   exact hJ.hf hH hU
end Go.Proofs.Ytppipmkpmmdcjaa
namespace Go.Proofs.Ytppipmkpmmdcjaa
open Go.W Go.LM Go.LA
theorem jJ (r : Nat) (F : Mat) (j b : Nat) : withId r F (r + j) b = idM j b := by
 unfold withId; rw [if_neg (by omega), show r + j - r = j by omega]
theorem mR {r x : Nat} (F : Mat) (b : Nat) (h : x < r) : withId r F x b = F x b := if_pos h
theorem f5 {n i : Nat} (f : Nat → Nat) (h : i < n) : ((List.range n).map f).getD i 0 = f i := by simp [List.getD_eq_getElem?_getD, h]
structure FormR (K r c lo : Nat) (A : Mat) (w' : World) (g g' : Nat) (gs cp gs' cp' : Nat → Nat) (H U : Mat) (k : Nat) (p : Nat → Nat) : Prop where
 h : MO true K w' lo g r c gs cp H
 u : MO true K w' lo g' c c gs' cp' U
 ceq : CEq r c A H U
 hf : HF r c H k p
def RetForm (K r c : Nat) (A : Mat) (w : World) (v : Value) (w' : World) : Prop :=
 ∃ g g' gs cp gs' cp' H U k p, v = .tuple #[.slice (some ⟨g, 0, none⟩) r r, .slice (some ⟨g', 0, none⟩) c c, .bool true] ∧ FormR K r c w.heap.size A w' g g' gs cp gs' cp' H U k p ∧ Ex w w'
theorem qz {n cap : Nat} {w : World} {a : Option Addr} {s : Nat → SD} (hS : Sl w a (topC n s)) (hno : ¬ okS n s) :
  CallsR Try.prog 22 #[.slice a n cap] w fun v w' => v = .tuple #[.slice none 0 0, .slice none 0 0, .bool false] ∧ Ex w w' := by
 refine aJ (args := [_]) Try.func22 rfl rfl ?_
 repeat' (first|refine ai rfl ?_|refine aa ?_|refine ao ?_|refine ah rfl ?_|refine ae ?_)
 refine ax (eG hS) rfl ?_
 rintro v w1 ⟨rfl, hE1⟩
 refine ⟨fun _ _ => trivial, ?_⟩
 rw [fX hno]
 repeat' (first|refine aH rfl rfl ?_|refine ai rfl ?_|refine aa ?_|refine ao ?_|refine ah rfl ?_|refine ae ?_|refine aE rfl ?_|refine aT ?_|refine bw ?_)
 exact gj rfl (rt rfl) (rt rfl) (rt rfl) ⟨rfl, hE1⟩
set_option maxHeartbeats 4000000 in
theorem kj {cn : Bool} {K r c cap : Nat} {w : World} {a : Option Addr} {s : Nat → SD} {A : Mat} (hM : MX cn K w a r c s A) (hr : 1 ≤ r ∧ r ≤ 16) (hc : 1 ≤ c ∧ c ≤ 16) (hK1 : 1 ≤ K) (hK : 300 * K + 1000 < 4398046511104) :
  CallsR Try.prog 22 #[.slice a r cap] w (RetForm (34 * K + 100) r c A w) := by
 refine aJ (args := [_]) Try.func22 rfl rfl ?_
 repeat' (first|refine ai rfl ?_|refine aa ?_|refine ao ?_|refine ah rfl ?_|refine ae ?_)
 refine ax (eG hM.top) rfl ?_
 rintro v w1 ⟨rfl, hE1⟩
 refine ⟨fun _ _ => trivial, ?_⟩
 rw [dY hM hr hc]
 repeat' (first|refine aH rfl rfl ?_|refine ai rfl ?_|refine aa ?_|refine ao ?_|refine ah rfl ?_|refine ae ?_|refine aA rfl ?_|refine aI ?_)
 refine ax (kQ (hM.ext hE1) hr hc hK1) rfl ?_
 rintro v w2 ⟨g, s', rfl, lg, hT2, hX2, hE2⟩
 refine ⟨fun _ _ => trivial, ?_⟩
 have hE02 := hE1.trans hE2
 refine aD (fun g3 w3 hn3 => ⟨fun _ _ => trivial, ?_⟩)
 have hb3 : Blk w3 g3 66 [.slice none 0 0, .int .i64 0] := hn3.blk
 refine aw (n := 2) (vs := pairL g c r) rfl rfl rfl rfl hb3 rfl (fun w4 hc4 hb4 => ⟨fun _ _ => trivial, ?_⟩)
 have s1 := hE1.size
 have s2 := hE2.size
 have l3 := hn3.lo
 have hE24 : Ex w2 w4 := hn3.ex.chg hc4 l3
 have hT4 := hT2.ext hE24
 have lT := hT2.lt
 repeat' (first|refine aP (g := g3) rfl hb4 rfl ?_|refine aa ?_|refine ao ?_|refine ah rfl ?_|refine ae ?_)
 refine ax (jI (K := K) hT4 (fun j hj => (hX2 j hj).ext hE24) hr hc hK1 hK (fun j b _ _ => jJ r A j b)) rfl ?_
 rintro v w5 ⟨gs, cp, U, l, hG5, hT5, hR5, hU, hHF⟩
 refine ⟨fun _ _ => trivial, ?_⟩
 have hb5 := hb4.gb hG5 (fun e => by cases e; omega)
 have hE05 : Ex w w5 := (hE02.trans hE24).gb hG5 (fun k e => by cases e; omega)
 have hl5 := hb5.lt
 repeat' (first|refine fF (m := r) (m' := c) rfl rfl (by omega) ?_|refine ai rfl ?_|refine aa ?_|refine ao ?_|refine ah rfl ?_|refine ae ?_|refine aC ?_)
 refine bh (ι := (Nat × SD × SD) × (Nat → Nat) × (Nat → Nat)) [9, 10, 11, 27, 28, 29, 30, 31, 32, 33, 34, 35, 36, 37, 38, 39, 40, 41, 42] (fun t => [(27, .int .i64 (t.1.1 : Int)), (9, .slice t.1.2.1.a t.1.2.1.len t.1.2.1.cap), (10, .slice t.1.2.2.a t.1.2.2.len t.1.2.2.cap)])
  (fun t w' => (t.1.1 ≤ r + c ∧ Ex w5 w') ∧ NatG w' w5.heap.size 3 (if t.1.1 ≤ r then t.1.1 else r) t.1.2.1 t.2.1 ∧ (∀ k, k < t.1.1 → k < r → t.2.1 k = k) ∧ NatG w' w5.heap.size 3 (t.1.1 - r) t.1.2.2 t.2.2 ∧ (∀ k, k + r < t.1.1 → t.2.2 k = r + k) ∧
   (t.1.1 ≤ r → t.1.2.2 = sd0) ∧ ∀ x y, t.1.2.1.a = some x → t.1.2.2.a = some y → x.block ≠ y.block) (fun t => r + c - t.1.1)
  ((0, sd0, sd0), fun _ => 0, fun _ => 0) ⟨rfl, rfl, rfl, trivial⟩ ⟨⟨by simp only; omega, Ex.refl _⟩, by simp only; rw [if_pos (by omega)]; exact NatG.nil _ _ _ _, fun k hk => by simp only at hk; omega, by simp only; rw [Nat.zero_sub]; exact NatG.nil _ _ _ _, fun k hk => by simp only at hk; omega, fun _ => rfl, fun x y e => by cases e⟩ ?_
 rintro ⟨⟨i, su, sl⟩, fu, fl⟩ ξ w6 ⟨⟨hi, hE6⟩, hNu, hfu, hNl, hfl, hz, hdis⟩
 simp only at hi hNu hfu hNl hfl hz hdis
 show CW _ _ _ _ (over [(27, .int .i64 (i : Int)), (9, .slice su.a su.len su.cap), (10, .slice sl.a sl.len sl.cap)] _) w6
 have hb6 := hb5.ext hE6
 have s6 := hE6.size
 rcases Nat.lt_or_ge i (r + c) with hir | hir
 ·rcases Nat.lt_or_ge i r with hi' | hi'
  ·rw [if_pos (by omega)] at hNu
   obtain rfl := hz (by omega)
   repeat' (first|refine bA rfl rfl (by omega) ?_|refine aV (g := g3) rfl hb6 rfl ?_|refine ai rfl ?_|refine aa ?_|refine ao ?_|refine ah rfl ?_|refine ae ?_|refine aL rfl ?_|refine aE rfl ?_|refine aC ?_|refine aI ?_)
   refine mP (E := 3) (lo := w5.heap.size) (u := i) rfl rfl rfl hNu (by omega) (by omega) (by omega) ?_
   intro gt s2' f2 w7 hN7 hf1 hf2 hG7 hA7
   repeat' (first|refine ai rfl ?_|refine aa ?_|refine ah rfl ?_|refine ae ?_|refine bi rfl rfl (by omega) (by omega) ?_|refine aM ?_)
   refine ⟨⟨((i + 1, s2', sd0), f2, fl), ⟨⟨by simp only; omega, hE6.gb hG7 (fun q e => (hNu.blk q e).1)⟩, by simp only; rw [if_pos (by omega)]; exact hN7, fun k hk hk' => ?_, by simp only; rw [show i + 1 - r = 0 by omega]; exact NatG.nil _ _ _ _, fun k hk => by simp only at hk; omega, fun _ => rfl, fun x y _ e => (nomatch e)⟩, by simp only; omega, rfl, rfl, rfl, trivial⟩, (by (repeat (first|exact aF _ _ _|refine ay rfl ?_|refine av rfl ?_|refine aj rfl ?_|refine ak rfl ?_)))⟩
   simp only at hk ⊢
   by_cases h : k = i
   ·subst h; exact hf2
   ·rw [hf1 k (by omega)]; exact hfu k (by omega) hk'
  ·have er : (if i ≤ r then i else r) = r := by split <;> omega
   rw [er] at hNu
   repeat' (first|refine bA rfl rfl (by omega) ?_|refine aV (g := g3) rfl hb6 rfl ?_|refine bz rfl rfl (by omega) ?_|refine ai rfl ?_|refine aa ?_|refine ao ?_|refine ah rfl ?_|refine ae ?_|refine aL rfl ?_|refine aE rfl ?_|refine aA rfl ?_|refine aC ?_|refine aI ?_)
   refine mP (E := 3) (lo := w5.heap.size) (u := i) rfl rfl rfl hNl (by omega) (by omega) (by omega) ?_
   intro gt s2' f2 w7 hN7 hf1 hf2 hG7 hA7
   repeat' (first|refine ai rfl ?_|refine aa ?_|refine ah rfl ?_|refine ae ?_|refine bi rfl rfl (by omega) (by omega) ?_|refine aM ?_)
   have hkeep : ∀ ad, su.a = some ad → (Value.slice sl.a sl.len sl.cap).ownBlock ≠ some ad.block := fun ad e h => by
    rcases hNl.2 with ⟨h0, _⟩ | ⟨g', h1, _⟩
    ·rw [h0] at h; cases h
    ·rw [h1] at h; cases h; exact hdis _ _ e h1 rfl
   refine ⟨⟨((i + 1, su, s2'), fu, f2), ⟨⟨hir, hE6.gb hG7 (fun q e => (hNl.blk q e).1)⟩, by simp only; rw [if_neg (by omega)]; exact NatG.gb hNu hG7 hkeep, fun k hk hk' => hfu k (by omega) hk', by simp only; rw [show i + 1 - r = i - r + 1 by omega]; exact hN7, fun k hk => ?_, fun h => by simp only at h; omega, fun x y e1 e2 => ?_⟩, by simp only; omega, rfl, rfl, rfl, trivial⟩, (by (repeat (first|exact aF _ _ _|refine ay rfl ?_|refine av rfl ?_|refine aj rfl ?_|refine ak rfl ?_)))⟩
   ·simp only at hk ⊢
    by_cases h : k = i - r
    ·subst h; rw [hf2]; omega
    ·rw [hf1 k (by omega)]; exact hfl k (by omega)
   ·simp only at e1 e2
    rcases hA7 with h | h
    ·exact hdis x y e1 (by rw [← h]; exact e2)
    ·have h1 := h y e2; have h2 := (NatG.lo hNu x e1).2; omega
 ·have eir : i = r + c := by omega
  subst eir
  have e1 : (if r + c ≤ r then r + c else r) = r := if_neg (by omega)
  rw [e1] at hNu
  rw [show r + c - r = c by omega] at hNl
  have hlu := hNu.1
  have hll := hNl.1
  have hsu := hNu.sl
  have hsl := hNl.sl
  rw [ki] at hsu hsl
  rw [hlu, hll]
  repeat' (first|refine bz rfl rfl (by omega) ?_|refine aa ?_|refine ao ?_|refine ah rfl ?_|refine ae ?_|refine aA rfl ?_|refine aW ?_|refine aO ?_|refine aX ?_)
  refine aZ (late := []) (plan := [(0, none), (1, none), (2, none), (4, none), (5, none), (6, none), (3, some true), (7, some true), (8, none), (9, none), (10, none)]) (fun w' => Ex w6 w') bt (by kernel_rfl) (Ex.refl w6).drew ?_
  have hEd := (Ex.refl w6).drew
  repeat' (first|refine aV (g := g3) rfl (fun _ h => hb6.ext h) rfl ?_|refine ai rfl ?_|refine aL rfl ?_)
  have hE56 := hE6.trans hEd
  refine ax (fo (L := r) (by simp) (hT5.ext hE56).sl (fun j hj => ((hR5 j hj).ext hE56).rx) (hsu.ext hEd) hc.1 hc.2 (by omega) (fun i hi => by rw [f5 _ hi, hfu i (by omega) hi]; omega)) rfl ?_
  rintro v w7 ⟨gh, gsh, cph, rfl, hO7, hE7⟩
  refine ⟨fun _ h => h.trans hE7, ?_⟩
  have hE67 := hEd.trans hE7
  have hE57 := hE6.trans hE67
  skip
  refine ax (fo (L := c) (by simp) (hT5.ext hE57).sl (fun j hj => ((hR5 j hj).ext hE57).rx) (hsl.ext hE67) hc.1 hc.2 (by omega) (fun i hi => by rw [f5 _ hi, hfl i (by omega)]; omega)) rfl ?_
  rintro v w8 ⟨gu, gsu, cpu, rfl, hO8, hE8⟩
  refine ⟨fun _ h => h.trans hE8, ?_⟩
  repeat' (first|refine ai rfl ?_|refine aa ?_|refine ae ?_|refine aT ?_)
  obtain ⟨k', hk', _, hHF'⟩ := hHF.cut (rows := r) (by omega)
  have s5 := hE05.size
  have eH : ∀ i j, i < r → j < c → mm c (withId r A) U i j = mm c A U i j := fun i j hi _ => dy (fun k _ => mR A k hi) fun _ _ => rfl
  have eU : ∀ i j, i < c → j < c → mm c (withId r A) U (r + i) j = U i j := fun i j hi hj => by
   have : mm c (withId r A) U (r + i) j = mm c idM U i j := aQ fun k _ => by rw [jJ]
   rw [this, lC U i j hi]
  refine gj rfl (rt rfl) (rt rfl) (rt rfl) ⟨gh, gu, gsh, cph, gsu, cpu, mm c A U, U, k', l, rfl, ⟨((hO7.mono (by have := hE6.size; have : w6.drew.heap.size = w6.heap.size := rfl; omega)).ext hE8).congr fun i j hi hj => ?_, (hO8.mono (by have := hE57.size; omega)).congr fun i j hi hj => ?_, ⟨hU, fun _ _ _ _ => rfl⟩, hHF'.congr fun i j hi hj => (eH i j hi hj).symm⟩, (hE05.trans hE57).trans hE8⟩
  ·rw [f5 _ hi, hfu i (by omega) hi, eH i j hi hj]
  ·rw [f5 _ hi, hfl i (by omega), eU i j hi hj]
end Go.Proofs.Ytppipmkpmmdcjaa
namespace Go.Proofs.Ytppipmkpmmdcjaa
open Go.W Go.LM Go.LA
def NoF (F : Nat → Prop) (w : World) : Prop := ∀ b, F b → ∃ T cs, Blk w b T cs ∧ NoI cs
section
variable {Fs : Nat → Prop} {w w' : World}
theorem Limbs.fr {a : Option Addr} {c : Nat} {ls : List Nat} (h : Limbs w a c ls) (hN : NoF Fs w) (hg : Fr Fs w w') : Limbs w' a c ls := by
 refine ⟨?_, h.cap, h.lim, h.len⟩
 cases ls with
 | nil => exact Sl.nil _ _
 | cons d l =>
  refine h.sl.fr hg fun ad e he => ?_
  obtain ⟨T, cs, hb, hn⟩ := hN _ he
  have := h.sl.off hb (j := 0) (by simp [limbsL]) (fun hm => hn _ hm d rfl) ad e
  exact this rfl
theorem IntK.fr {K : Nat} {v : Value} {z : Int} (h : IntK K w v z) (hN : NoF Fs w) (hg : Fr Fs w w') : IntK K w' v z := by
 obtain ⟨neg, a, c, ls, h1, h2, h3⟩ := h; exact ⟨neg, a, c, ls, h1, h2.fr hN hg, h3⟩
theorem IntC.fr {lo : Nat} {v : Value} {z : Int} (h : IntC lo w v z) (hN : NoF Fs w) (hg : Fr Fs w w') : IntC lo w' v z := by
 obtain ⟨neg, a, c, ls, h1, h2, h3⟩ := h; exact ⟨neg, a, c, ls, h1, h2.fr hN hg, h3⟩
theorem Ent.fr {cn : Bool} {K : Nat} {v : Value} {z : Int} (h : Ent cn K w v z) (hN : NoF Fs w) (hg : Fr Fs w w') : Ent cn K w' v z := ⟨h.k.fr hN hg, fun c => (h.c c).fr hN hg⟩
theorem RO.fr {cn : Bool} {K lo g cap n : Nat} {f : Nat → Int} (h : RO cn K w lo g cap n f) (hN : NoF Fs w) (hg : Fr Fs w w') (hne : ¬ Fs g) : RO cn K w' lo g cap n f := by
 obtain ⟨hh, h1, h2⟩ := h.ex; exact ⟨h.low, h.le, hh, h1.fr hg hne, fun i hi => (h2 i hi).fr hN hg⟩
variable {cn : Bool} {K r c lo g : Nat} {gs cap : Nat → Nat} {F : Nat → Nat → Int}
theorem MO.fr (h : MO cn K w lo g r c gs cap F) (hN : NoF Fs w) (hg : Fr Fs w w') (hne : ¬ Fs g) (hns : ∀ i, i < r → ¬ Fs (gs i)) : MO cn K w' lo g r c gs cap F :=
 ⟨h.low, h.top.fr hg hne, fun i hi => (h.row i hi).fr hN hg (hns i hi), h.off, h.inj⟩
def rowsB (r : Nat) (gs : Nat → Nat) : Nat → Prop := fun b => ∃ k, k < r ∧ b = gs k
theorem MO.noR (h : MO cn K w lo g r c gs cap F) : NoF (rowsB r gs) w := fun b ⟨k, hk, e⟩ => by
 subst e; obtain ⟨hh, h1, _⟩ := (h.row k hk).ex; exact ⟨_, _, h1, bx _ _⟩
theorem MO.noT (h : MO cn K w lo g r c gs cap F) : NoF (fun b => b = g) w := fun b e => by subst e; exact ⟨_, _, h.top, bQ _ _⟩
end
set_option maxHeartbeats 2000000 in
theorem eD {cn : Bool} {K Kf K' r c i j lo g tc : Nat} {w : World} {gs cap : Nat → Nat} {F : Mat} {vf : Value} {f : Int} (hM : MO true K w lo g r c gs cap F) (_hr : r ≤ 1000) (hc : c ≤ 1000) (hi : i < r) (hj : j < r) (hij : i ≠ j)
  (hf : Ent cn Kf w vf f) (hK : K + Kf < 17592186044416) (hKK : K ≤ K') (hK' : K' < 17592186044415) (hlb : ∀ k, k < c → Lb K' (F i k + f * F j k)) :
  CallsR Try.prog 42 #[.slice (some ⟨g, 0, none⟩) r tc, .int .i64 (i : Int), .int .i64 (j : Int), vf] w fun _ w' => w.grownBy w' (some (gs i)) ∧ MO true K' w' lo g r c gs cap (setF F i fun k => F i k + f * F j k) := by
 obtain ⟨xf, rfl⟩ := hf.ih
 obtain ⟨hhj, hbj, hcj, hEj⟩ := hM.get hj
 have hgij : gs i ≠ gs j := fun e => hij (hM.inj _ _ hi hj e)
 have lti := (hM.row i hi).lt
 refine aJ (args := [_, _, _, _]) Try.func42 rfl rfl ?_
 refine ao ?_
 refine ah rfl ?_
 refine bM (vs := xf.cells) rfl (fun g1 w1 hn1 => ⟨fun _ _ => trivial, ?_⟩)
 have hb1 := hn1.blk
 have hE1 := hn1.ex
 have lo1 := hn1.lo
 repeat' (first|refine aB (j := j) (a := some ⟨g, 0, none⟩) rfl rfl ⟨_, _, rfl⟩ (by omega) ?_|refine aS (j := j) (a := some ⟨g, 0, none⟩) (n := r) (s := fun k => ⟨some ⟨gs k, 0, none⟩, c, cap k⟩) rfl (hM.ext hE1).top.sl (by omega) rfl ?_|refine ai rfl ?_|refine aa ?_|refine ao ?_|refine ah rfl ?_|refine ae ?_|refine bn rfl ?_|refine aC ?_)
 refine bh (ι := Nat) [8, 9, 15, 16, 17, 18, 19, 20, 21, 22, 23, 24, 25, 26, 27, 28, 29, 30, 31, 32, 33, 34, 35, 36, 37] (fun t => [(15, .int .i64 (t : Int))])
  (fun t w' => t ≤ c ∧ w1.grownBy w' (some (gs i)) ∧ RO true K' w' lo (gs i) (cap i) c (fun k => if k < t then F i k + f * F j k else F i k)) (fun t => c - t)
  0 ⟨rfl, trivial⟩ ⟨by omega, bc (Chg.refl _ _), (((hM.row i hi).ext hE1).up hKK).congr (fun k _ => if_neg (by omega))⟩ ?_
 rintro t ξ w2 ⟨ht, hG2, hO2⟩
 show CW _ _ _ _ (over [(15, .int .i64 (t : Int))] _) w2
 obtain ⟨hh0, hbi0, hci, _⟩ := (hM.ext hE1).get hi
 have hT2 := ((hM.ext hE1).top).gb hG2 (fun e => hM.off i hi (by cases e; rfl))
 have hbj2 := (hbj.ext hE1).gb hG2 (fun e => hgij (Option.some.inj e))
 have hb12 := hb1.gb hG2 (fun e => by cases e; omega)
 rcases Nat.lt_or_ge t c with htc | htc
 ·obtain ⟨hh, hbi, hEi⟩ := hO2.ex
  have hci := hO2.le
  have hEjt := ((hEj t htc).ext hE1).gbN hbi0 (bx _ _) hG2
  have hf2 := (hf.ext hE1).gbN hbi0 (bx _ _) hG2
  have hEit := hEi t htc
  simp only [Nat.lt_irrefl, if_false] at hEit
  repeat' (first|refine bA rfl rfl (by omega) ?_|refine aa ?_|refine ao ?_|refine ah rfl ?_|refine ae ?_|refine aE rfl ?_|refine aI ?_)
  refine aC ?_
  repeat' (first|refine aU (j := t) (a := some ⟨gs j, 0, none⟩) rfl rfl ⟨_, _, rfl⟩ (by omega) ?_|refine bp (j := t) (n := cap j) (a := some ⟨gs j, 0, none⟩) rfl hbj2.sl ⟨_, _, rfl⟩ (by omega) ?_|refine ai rfl ?_|refine ao ?_|refine ah rfl ?_)
  refine aD (fun g6 w6 hn6 => ⟨fun _ _ => trivial, ?_⟩)
  have hb6 : Blk w6 g6 27 (intL false none 0 0) := hn6.blk
  repeat' (first|refine ai rfl ?_)
  refine aw (n := 2) (vs := (hhj t).cells) rfl rfl rfl rfl hb6 rfl (fun w7 hc7 hb7 => ⟨fun _ _ => trivial, ?_⟩)
  have hE27 : Ex w2 w7 := hn6.ex.chg hc7 hn6.lo
  repeat' (first|refine aa ?_|refine ae ?_)
  refine aZ (late := [17]) (plan := [(0, none), (1, none), (2, none), (3, none), (4, none), (5, none), (6, none), (7, none), (8, none), (9, none), (10, none), (11, none), (12, none), (13, none), (14, some true), (15, some true), (16, none), (17, some false)]) (fun w' => Ex w7 w') bt (by kernel_rfl) (Ex.refl w7).drew ?_
  repeat' (first|refine aB (j := i) (a := some ⟨g, 0, none⟩) rfl rfl ⟨_, _, rfl⟩ (by omega) ?_|refine aS (j := i) (a := some ⟨g, 0, none⟩) (n := r) (s := fun k => ⟨some ⟨gs k, 0, none⟩, c, cap k⟩) rfl (fun _ h => (hT2.ext (hE27.trans h)).sl) (by omega) rfl ?_|refine aP (g := g6) rfl (fun _ h => hb7.ext h) rfl ?_|refine aP (g := g1) rfl (fun _ h => hb12.ext (hE27.trans h)) rfl ?_|refine aU (j := t) (a := some ⟨gs i, 0, none⟩) rfl rfl ⟨_, _, rfl⟩ (by omega) ?_|refine bp (j := t) (n := cap i) (a := some ⟨gs i, 0, none⟩) rfl (fun _ h => (hbi.ext (hE27.trans h)).sl) ⟨_, _, rfl⟩ (by omega) ?_|refine ai rfl ?_)
  have hE27d := hE27.drew
  refine ax (ci (hf2.ext hE27d).k (hEjt.ext hE27d).k (by omega)) rfl ?_
  rintro v w8 ⟨hI8, hE8⟩
  refine ⟨fun _ h => h.trans hE8, ?_⟩
  refine ax (dF (hEit.ext (hE27d.trans hE8)).k (hI8.k (hf.lb.mul (hEj t htc).lb)) (by omega) (by omega)) rfl ?_
  rintro v w9 ⟨hI9, hE9⟩
  refine ⟨fun _ h => h.trans hE9, ?_⟩
  obtain ⟨u, rfl⟩ := hI9.ih
  have hE29 := (hE27d.trans hE8).trans hE9
  repeat' (first|refine aU (j := t) (a := some ⟨gs i, 0, none⟩) rfl rfl ⟨_, _, rfl⟩ (by omega) ?_)
  refine bP (j := t) (n := cap i) (u := u) rfl rfl (hbi.ext hE29) (by omega) (fun wa hca hba => ⟨fun h => (nomatch h), ?_⟩)
  repeat' (first|refine ai rfl ?_|refine aa ?_|refine ah rfl ?_|refine ae ?_|refine bi rfl rfl (by omega) (by omega) ?_|refine aM ?_)
  refine ⟨⟨t + 1, ⟨htc, bC (bC hG2 (jO hE29) (fun k e => (nomatch e))) (bc hca) (fun k e => .inl e), (RO.put hO2.low hO2.le (hbi.ext hE29) (fun k hk => (hEi k hk).ext hE29) (Ent.of hI9 (hlb t htc)) hca hba).congr (fun k _ => ?_)⟩, by omega, rfl, trivial⟩, (by (repeat (first|exact aF _ _ _|refine ay rfl ?_|refine av rfl ?_|refine aj rfl ?_|refine ak rfl ?_)))⟩
  by_cases hkt : k = t
  ·subst hkt; rw [if_pos (Nat.lt_succ_self _), aK]
  ·rw [aN _ _ hkt]
   by_cases hk : k < t
   ·rw [if_pos hk, if_pos (by omega)]
   ·rw [if_neg hk, if_neg (by omega)]
 ·have : c = t := by omega
  subst this
  repeat' (first|refine bz rfl rfl (by omega) ?_|refine aa ?_|refine ao ?_|refine ah rfl ?_|refine ae ?_|refine aA rfl ?_|refine aW ?_|refine aO ?_|refine aX ?_)
  have hGa : w.grownBy w2 (some (gs i)) := bC (qJ hE1) hG2 (fun k e => .inl e)
  exact im rfl ⟨hGa, (hM.up hKK).rowIn hi hGa (hO2.congr (fun k hk => by rw [if_pos hk]))⟩
end Go.Proofs.Ytppipmkpmmdcjaa
namespace Go.Proofs.Ytppipmkpmmdcjaa
open Go.W Go.LM Go.LA
set_option maxHeartbeats 2000000 in
theorem fP {cn : Bool} {K Kf K' r c i j lo g tc : Nat} {w : World} {gs cap : Nat → Nat} {F : Mat} {vf : Value} {f : Int} (hM : MO true K w lo g r c gs cap F) (hr : r ≤ 1000) (_hc : c ≤ 1000) (hi : i < c) (hj : j < c)
  (hf : Ent cn Kf w vf f) (hK : K + Kf < 17592186044416) (hKK : K ≤ K') (hK' : K' < 17592186044415) (hlb : ∀ a, a < r → Lb K' (F a i + f * F a j)) (_hij : i ≠ j) :
  CallsR Try.prog 57 #[.slice (some ⟨g, 0, none⟩) r tc, .int .i64 (i : Int), .int .i64 (j : Int), vf] w fun _ w' => Fr (rowsB r gs) w w' ∧ MO true K' w' lo g r c gs cap (fun a b => if b = i then F a i + f * F a j else F a b) := by
 obtain ⟨xf, rfl⟩ := hf.ih
 refine aJ (args := [_, _, _, _]) Try.func57 rfl rfl ?_
 refine ao ?_
 refine ah rfl ?_
 refine bM (vs := xf.cells) rfl (fun g1 w1 hn1 => ⟨fun _ _ => trivial, ?_⟩)
 have hb1 := hn1.blk
 have hE1 := hn1.ex
 have lo1 := hn1.lo
 repeat' (first|refine ai rfl ?_|refine aa ?_|refine ao ?_|refine ah rfl ?_|refine ae ?_|refine bn rfl ?_|refine aC ?_)
 refine bh (ι := Nat) [9, 12, 13, 14, 15, 16, 17, 18, 19, 20, 21, 22, 23, 24, 25, 26, 27, 28, 29, 30] (fun t => [(12, .int .i64 (t : Int))])
  (fun t w' => t ≤ r ∧ Fr (rowsB r gs) w1 w' ∧ MO true K' w' lo g r c gs cap (fun a b => if a < t ∧ b = i then F a i + f * F a j else F a b)) (fun t => r - t)
  0 ⟨rfl, trivial⟩ ⟨by omega, Fr.refl _ _, ((hM.ext hE1).up hKK).congr (fun a b _ _ => if_neg (by omega))⟩ ?_
 rintro t ξ w2 ⟨ht, hF2, hO2⟩
 show CW _ _ _ _ (over [(12, .int .i64 (t : Int))] _) w2
 have hN1 := (hM.ext hE1).noR
 have hf2 := (hf.ext hE1).fr hN1 hF2
 have hb12 : Blk w2 g1 27 xf.cells := hb1.fr hF2 (fun ⟨k, hk, e⟩ => by have := (hM.row k hk).lt; omega)
 rcases Nat.lt_or_ge t r with htr | htr
 ·obtain ⟨hh, hbi, hci, hEi⟩ := hO2.get htr
  have hEii := hEi i hi
  have hEij := hEi j hj
  simp only [Nat.lt_irrefl, false_and, if_false] at hEii hEij
  repeat' (first|refine bA rfl rfl (by omega) ?_|refine aa ?_|refine ao ?_|refine ah rfl ?_|refine ae ?_|refine aE rfl ?_|refine aI ?_)
  refine aC ?_
  repeat' (first|refine aB (j := t) (a := some ⟨g, 0, none⟩) rfl rfl ⟨_, _, rfl⟩ (by omega) ?_|refine aS (j := t) (a := some ⟨g, 0, none⟩) (n := r) (s := fun k => ⟨some ⟨gs k, 0, none⟩, c, cap k⟩) rfl hO2.top.sl (by omega) rfl ?_|refine ai rfl ?_|refine aa ?_|refine ao ?_|refine ah rfl ?_|refine ae ?_)
  refine aZ (late := [14]) (plan := [(0, none), (1, none), (2, none), (3, none), (4, none), (5, none), (6, none), (7, none), (8, none), (9, none), (10, none), (11, some true), (12, some true), (13, none), (14, some false)]) (fun w' => Ex w2 w') bt (by kernel_rfl) (Ex.refl w2).drew ?_
  repeat' (first|refine aP (g := g1) rfl (fun _ h => hb12.ext h) rfl ?_|refine aU (j := i) (a := some ⟨gs t, 0, none⟩) rfl rfl ⟨_, _, rfl⟩ (by omega) ?_|refine bp (j := i) (n := cap t) (a := some ⟨gs t, 0, none⟩) rfl (fun _ h => (hbi.ext h).sl) ⟨_, _, rfl⟩ (by omega) ?_|refine aU (j := j) (a := some ⟨gs t, 0, none⟩) rfl rfl ⟨_, _, rfl⟩ (by omega) ?_|refine bp (j := j) (n := cap t) (a := some ⟨gs t, 0, none⟩) rfl (fun _ h => (hbi.ext h).sl) ⟨_, _, rfl⟩ (by omega) ?_|refine ai rfl ?_)
  have hEd := (Ex.refl w2).drew
  have hlj : Lb K (F t j) := by obtain ⟨_, _, _, h⟩ := hM.get htr; exact (h j hj).lb
  refine ax (ci (hf2.ext hEd).k (IntC.k (by have := (hEij.ext hEd).c rfl; exact this) hlj) (by omega)) rfl ?_
  rintro v w8 ⟨hI8, hE8⟩
  refine ⟨fun _ h => h.trans hE8, ?_⟩
  refine ax (dF (hEii.ext (hEd.trans hE8)).k (hI8.k (hf.lb.mul hlj)) (by omega) (by omega)) rfl ?_
  rintro v w9 ⟨hI9, hE9⟩
  refine ⟨fun _ h => h.trans hE9, ?_⟩
  obtain ⟨u, rfl⟩ := hI9.ih
  have hE29 := (hEd.trans hE8).trans hE9
  repeat' (first|refine aU (j := i) (a := some ⟨gs t, 0, none⟩) rfl rfl ⟨_, _, rfl⟩ (by omega) ?_)
  refine bP (j := i) (n := cap t) (u := u) rfl rfl (hbi.ext hE29) (by omega) (fun wa hca hba => ⟨fun h => (nomatch h), ?_⟩)
  repeat' (first|refine ai rfl ?_|refine aa ?_|refine ah rfl ?_|refine ae ?_|refine bi rfl rfl (by omega) (by omega) ?_|refine aM ?_)
  refine ⟨⟨t + 1, ⟨htr, (hF2.trans hE29.fr).trans (hca.fr ⟨t, htr, rfl⟩), ((hO2.ext hE29).put htr (hbi.ext hE29) (fun k hk => (hEi k hk).ext hE29) (Ent.of hI9 (hlb t htr)) hca hba).congr (fun a b _ _ => ?_)⟩, by omega, rfl, trivial⟩, (by (repeat (first|exact aF _ _ _|refine ay rfl ?_|refine av rfl ?_|refine aj rfl ?_|refine ak rfl ?_)))⟩
  show (if a < t + 1 ∧ b = i then F a i + f * F a j else F a b) = if a = t ∧ b = i then F t i + f * F t j else (if a < t ∧ b = i then F a i + f * F a j else F a b)
  by_cases hb' : b = i
  ·by_cases hat : a = t
   ·rw [if_pos ⟨by omega, hb'⟩, if_pos ⟨hat, hb'⟩, hat]
   ·by_cases hl : a < t
    ·rw [if_pos ⟨by omega, hb'⟩, if_neg (fun h => hat h.1), if_pos ⟨hl, hb'⟩]
    ·rw [if_neg (by omega), if_neg (fun h => hat h.1), if_neg (by omega)]
  ·rw [if_neg (fun h => hb' h.2), if_neg (fun h => hb' h.2), if_neg (fun h => hb' h.2)]
 ·have : r = t := by omega
  subst this
  repeat' (first|refine bz rfl rfl (by omega) ?_|refine aa ?_|refine ao ?_|refine ah rfl ?_|refine ae ?_|refine aA rfl ?_|refine aW ?_|refine aO ?_|refine aX ?_)
  have hres : MO true K' w2 lo g r c gs cap (fun a b => if b = i then F a i + f * F a j else F a b) := hO2.congr (fun a b ha _ => by
   by_cases hb : b = i
   ·rw [if_pos hb, if_pos ⟨ha, hb⟩]
   ·rw [if_neg hb, if_neg (fun h => hb h.2)])
  have hfr : Fr (rowsB r gs) w w2 := hE1.fr.trans hF2
  exact im rfl ⟨hfr, hres⟩
set_option maxHeartbeats 2000000 in
theorem fQ {K r c i lo g tc : Nat} {w : World} {gs cap : Nat → Nat} {F : Mat} (hM : MO true K w lo g r c gs cap F) (_hr : r ≤ 1000) (hc : c ≤ 1000) (hi : i < r) :
  CallsR Try.prog 44 #[.slice (some ⟨g, 0, none⟩) r tc, .int .i64 (i : Int)] w fun _ w' => w.grownBy w' (some (gs i)) ∧ MO true K w' lo g r c gs cap (setF F i fun k => - F i k) := by
 refine aJ (args := [_, _]) Try.func44 rfl rfl ?_
 repeat' (first|refine aB (j := i) (a := some ⟨g, 0, none⟩) rfl rfl ⟨_, _, rfl⟩ (by omega) ?_|refine aS (j := i) (a := some ⟨g, 0, none⟩) (n := r) (s := fun k => ⟨some ⟨gs k, 0, none⟩, c, cap k⟩) rfl hM.top.sl (by omega) rfl ?_|refine ai rfl ?_|refine aa ?_|refine ao ?_|refine ah rfl ?_|refine ae ?_|refine bn rfl ?_|refine aC ?_)
 refine bh (ι := Nat) [4, 5, 11, 12, 13, 14, 15, 16, 17, 18, 19, 20, 21, 22, 23, 24] (fun t => [(11, .int .i64 (t : Int))])
  (fun t w' => t ≤ c ∧ w.grownBy w' (some (gs i)) ∧ RO true K w' lo (gs i) (cap i) c (fun k => if k < t then - F i k else F i k)) (fun t => c - t)
  0 ⟨rfl, trivial⟩ ⟨by omega, bc (Chg.refl _ _), (hM.row i hi).congr (fun k _ => if_neg (by omega))⟩ ?_
 rintro t ξ w2 ⟨ht, hG2, hO2⟩
 show CW _ _ _ _ (over [(11, .int .i64 (t : Int))] _) w2
 have hT2 := hM.top.gb hG2 (fun e => hM.off i hi (by cases e; rfl))
 rcases Nat.lt_or_ge t c with htc | htc
 ·obtain ⟨hh, hbi, hEi⟩ := hO2.ex
  have hci := hO2.le
  have hEit := hEi t htc
  simp only [Nat.lt_irrefl, if_false] at hEit
  repeat' (first|refine bA rfl rfl (by omega) ?_|refine aa ?_|refine ao ?_|refine ah rfl ?_|refine ae ?_|refine aE rfl ?_|refine aI ?_)
  refine aC ?_
  repeat' (first|refine aU (j := t) (a := some ⟨gs i, 0, none⟩) rfl rfl ⟨_, _, rfl⟩ (by omega) ?_|refine bp (j := t) (n := cap i) (a := some ⟨gs i, 0, none⟩) rfl hbi.sl ⟨_, _, rfl⟩ (by omega) ?_|refine ai rfl ?_|refine ao ?_|refine ah rfl ?_)
  refine aD (fun g6 w6 hn6 => ⟨fun _ _ => trivial, ?_⟩)
  have hb6 : Blk w6 g6 27 (intL false none 0 0) := hn6.blk
  repeat' (first|refine ai rfl ?_)
  refine aw (n := 2) (vs := (hh t).cells) rfl rfl rfl rfl hb6 rfl (fun w7 hc7 hb7 => ⟨fun _ _ => trivial, ?_⟩)
  have hE27 : Ex w2 w7 := hn6.ex.chg hc7 hn6.lo
  repeat' (first|refine aa ?_|refine ae ?_)
  refine aZ (late := [8]) (plan := [(0, none), (1, none), (2, none), (3, none), (4, none), (5, none), (6, some true), (7, none), (8, some false)]) (fun w' => Ex w7 w') bt (by kernel_rfl) (Ex.refl w7).drew ?_
  repeat' (first|refine aB (j := i) (a := some ⟨g, 0, none⟩) rfl rfl ⟨_, _, rfl⟩ (by omega) ?_|refine aS (j := i) (a := some ⟨g, 0, none⟩) (n := r) (s := fun k => ⟨some ⟨gs k, 0, none⟩, c, cap k⟩) rfl (fun _ h => (hT2.ext (hE27.trans h)).sl) (by omega) rfl ?_|refine aP (g := g6) rfl (fun _ h => hb7.ext h) rfl ?_|refine ai rfl ?_)
  have hE27d := hE27.drew
  refine ax (cN (hEit.ext hE27d).k) rfl ?_
  rintro v w9 ⟨hI9, hE9⟩
  refine ⟨fun _ h => h.trans hE9, ?_⟩
  obtain ⟨u, rfl⟩ := hI9.ih
  have hE29 := hE27d.trans hE9
  repeat' (first|refine aU (j := t) (a := some ⟨gs i, 0, none⟩) rfl rfl ⟨_, _, rfl⟩ (by omega) ?_)
  refine bP (j := t) (n := cap i) (u := u) rfl rfl (hbi.ext hE29) (by omega) (fun wa hca hba => ⟨fun h => (nomatch h), ?_⟩)
  repeat' (first|refine ai rfl ?_|refine aa ?_|refine ah rfl ?_|refine ae ?_|refine bi rfl rfl (by omega) (by omega) ?_|refine aM ?_)
  refine ⟨⟨t + 1, ⟨htc, bC (bC hG2 (jO hE29) (fun k e => (nomatch e))) (bc hca) (fun k e => .inl e), (RO.put hO2.low hO2.le (hbi.ext hE29) (fun k hk => (hEi k hk).ext hE29) (Ent.of hI9 hEit.lb.neg) hca hba).congr (fun k _ => ?_)⟩, by omega, rfl, trivial⟩, (by (repeat (first|exact aF _ _ _|refine ay rfl ?_|refine av rfl ?_|refine aj rfl ?_|refine ak rfl ?_)))⟩
  by_cases hkt : k = t
  ·subst hkt; rw [if_pos (Nat.lt_succ_self _), aK]
  ·rw [aN _ _ hkt]
   by_cases hk : k < t
   ·rw [if_pos hk, if_pos (by omega)]
   ·rw [if_neg hk, if_neg (by omega)]
 ·have : c = t := by omega
  subst this
  repeat' (first|refine bz rfl rfl (by omega) ?_|refine aa ?_|refine ao ?_|refine ah rfl ?_|refine ae ?_|refine aA rfl ?_|refine aW ?_|refine aO ?_|refine aX ?_)
  exact im rfl ⟨hG2, hM.rowIn hi hG2 (hO2.congr (fun k hk => by rw [if_pos hk]))⟩
theorem kk {K : Nat} {w : World} {va : Value} {z : Int} (h : Ent true K w va z) :
  CallsR Try.prog 55 #[va] w fun v w' => Ent true K w' v (z.natAbs : Int) ∧ Ex w w' := by
 obtain ⟨x, rfl⟩ := h.ih
 refine aJ (args := [_]) Try.func55 rfl rfl ?_
 refine ao ?_
 refine ah rfl ?_
 refine bM (vs := x.cells) rfl (fun g1 w1 hn1 => ⟨fun _ _ => trivial, ?_⟩)
 refine aD (fun g2 w2 hn2 => ⟨fun _ _ => trivial, ?_⟩)
 have hb1 := hn1.blk.ext hn2.ex
 have hb2 : Blk w2 g2 27 (intL false none 0 0) := hn2.blk
 have hE2 := hn1.ex.trans hn2.ex
 repeat' (first|refine aP (g := g1) rfl hb1 rfl ?_|refine aa ?_|refine ao ?_|refine ah rfl ?_|refine ae ?_)
 refine ax (bI (h.ext hE2).k) rfl ?_
 rintro v w3 ⟨rfl, hE3⟩
 refine ⟨fun _ _ => trivial, ?_⟩
 have hE03 := hE2.trans hE3
 by_cases hz : z < 0
 ·repeat' (first|refine bA rfl rfl (dN.2 hz) ?_|refine aP (g := g1) rfl (hb1.ext hE3) rfl ?_|refine aa ?_|refine ao ?_|refine ah rfl ?_|refine ae ?_|refine aE rfl ?_)
  refine ax (cN (h.ext hE03).k) rfl ?_
  rintro v w4 ⟨hI4, hE4⟩
  refine ⟨fun _ _ => trivial, ?_⟩
  obtain ⟨u, rfl⟩ := hI4.ih
  skip
  refine aw (n := 2) (vs := u.cells) rfl rfl rfl rfl (hb2.ext (hE3.trans hE4)) rfl (fun w5 hc5 hb5 => ⟨fun _ _ => trivial, ?_⟩)
  repeat' (first|refine aa ?_|refine ae ?_|refine aT ?_|refine bw ?_)
  refine bF rfl (rc rfl rfl hb5) ⟨?_, (hE03.trans hE4).chg hc5 (by have := hn2.lo; have := hn1.ex.size; omega)⟩
  rw [show (z.natAbs : Int) = -z by omega]
  exact (Ent.of hI4 h.lb.neg).gbN (hb2.ext (hE3.trans hE4)) (au _ _ _ _) (bc hc5)
 ·have hns : ¬ z.sign < 0 := fun e => hz (dN.1 e)
  repeat' (first|refine bz rfl rfl (by omega) ?_|refine aP (g := g1) rfl (hb1.ext hE3) rfl ?_|refine aa ?_|refine ao ?_|refine ah rfl ?_|refine ae ?_|refine aA rfl ?_|refine aI ?_)
  refine aw (n := 2) (vs := x.cells) rfl rfl rfl rfl (hb2.ext hE3) rfl (fun w5 hc5 hb5 => ⟨fun _ _ => trivial, ?_⟩)
  repeat' (first|refine aa ?_|refine ae ?_|refine aT ?_)
  refine bF rfl (rc rfl rfl hb5) ⟨?_, hE03.chg hc5 (by have := hn2.lo; have := hn1.ex.size; omega)⟩
  rw [show (z.natAbs : Int) = z by omega]
  exact (h.ext hE03).gbN (hb2.ext hE3) (au _ _ _ _) (bc hc5)
theorem kR {ca cb : Bool} {K K' : Nat} {w : World} {va vb : Value} {a b : Int} (ha : Ent ca K w va a) (hb : Ent cb K' w vb b) (hK : K < 17592186044415) (hK' : K' < 17592186044415) :
  CallsR Try.prog 58 #[va, vb] w fun v w' => v = .bool (decide (b % a = 0)) ∧ Ex w w' := by
 obtain ⟨xa, rfl⟩ := ha.ih
 obtain ⟨xb, rfl⟩ := hb.ih
 refine aJ (args := [_, _]) Try.func58 rfl rfl ?_
 refine ao ?_
 refine ah rfl ?_
 refine bM (vs := xa.cells) rfl (fun g1 w1 hn1 => ⟨fun _ _ => trivial, ?_⟩)
 refine bM (vs := xb.cells) rfl (fun g2 w2 hn2 => ⟨fun _ _ => trivial, ?_⟩)
 have hb1 := hn1.blk.ext hn2.ex
 have hb2 := hn2.blk
 have hE2 := hn1.ex.trans hn2.ex
 repeat' (first|refine aP (g := g1) rfl hb1 rfl ?_|refine aP (g := g2) rfl hb2 rfl ?_|refine ai rfl ?_|refine aa ?_|refine ao ?_|refine ah rfl ?_|refine ae ?_)
 refine ax (bf (hb.ext hE2).k (ha.ext hE2).k (by omega) (by omega)) rfl ?_
 rintro v w3 ⟨q, rm, rfl, hq, hrm, hE3⟩
 refine ⟨fun _ _ => trivial, ?_⟩
 obtain ⟨uq, rfl⟩ := hq.ih
 obtain ⟨ur, rfl⟩ := hrm.ih
 repeat' (first|refine aH rfl rfl ?_|refine ai rfl ?_)
 refine aD (fun g5 w5 hn5 => ⟨fun _ _ => trivial, ?_⟩)
 refine aD (fun g6 w6 hn6 => ⟨fun _ _ => trivial, ?_⟩)
 have hb5 : Blk w6 g5 27 (intL false none 0 0) := hn5.blk.ext hn6.ex
 have hb6 : Blk w6 g6 27 (intL false none 0 0) := hn6.blk
 have hE6 := hn5.ex.trans hn6.ex
 skip
 refine aw (n := 2) (vs := uq.cells) rfl rfl rfl rfl hb5 rfl (fun w7 hc7 hb7 => ⟨fun _ _ => trivial, ?_⟩)
 have h67 : g6 ≠ g5 := by have := hn6.lo; have := hn5.hi; omega
 skip
 refine aw (n := 2) (vs := ur.cells) rfl rfl rfl rfl (hb6.chg hc7 h67) rfl (fun w8 hc8 hb8 => ⟨fun _ _ => trivial, ?_⟩)
 have hE38 : Ex w3 w8 := (hE6.chg hc7 (by have := hn5.lo; omega)).chg hc8 (by have := hn6.lo; have := hn5.ex.size; omega)
 have hE28 := hE3.trans hE38
 have hE08 := hE2.trans hE28
 by_cases h0 : a = 0
 ·subst h0
  rw [show decide ((0 : Int) ≠ 0) = false from rfl]
  repeat' (first|refine aP (g := g2) rfl (hb2.ext hE28) rfl ?_|refine ai rfl ?_|refine aa ?_|refine ao ?_|refine ah rfl ?_|refine ae ?_|refine aE rfl ?_)
  refine ax (bI (hb.ext hE08).k) rfl ?_
  rintro v w9 ⟨rfl, hE9⟩
  refine ⟨fun _ _ => trivial, ?_⟩
  repeat' (first|refine ai rfl ?_|refine aa ?_|refine ae ?_|refine aT ?_|refine bw ?_)
  exact bF rfl (rt rfl) ⟨show Value.bool (decide (b.sign = 0)) = _ from congrArg Value.bool (decide_eq_decide.2 (by rw [Int.emod_zero]; exact Int.sign_eq_zero_iff_zero)), hE08.trans hE9⟩
 ·rw [show decide (a ≠ 0) = true from decide_eq_true h0]
  rw [if_neg h0] at hrm
  have hr8 : IntC w2.heap.size w8 ur.val (b % a) := hrm.ext hE38
  repeat' (first|refine aP (g := g6) rfl hb8 rfl ?_|refine ai rfl ?_|refine aa ?_|refine ao ?_|refine ah rfl ?_|refine ae ?_|refine aA rfl ?_|refine aI ?_)
  refine ax (bI (hr8.k (ha.lb.mod _ h0))) rfl ?_
  rintro v w9 ⟨rfl, hE9⟩
  refine ⟨fun _ _ => trivial, ?_⟩
  repeat' (first|refine ai rfl ?_|refine aa ?_|refine ae ?_|refine aT ?_)
  exact bF rfl (rt rfl) ⟨show Value.bool (decide ((b % a).sign = 0)) = _ from congrArg Value.bool (decide_eq_decide.2 Int.sign_eq_zero_iff_zero), hE08.trans hE9⟩
end Go.Proofs.Ytppipmkpmmdcjaa
