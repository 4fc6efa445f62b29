import Derived.Test.YtiejljicpinheaaA16
namespace Go.Proofs.Ytiejljicpinheaa
open Go.W Go.LM Go.LA
theorem qV {n : Nat} (hn : 1 ≤ n) (A : Mat) : ∀ i j, i < n → j < n → mm n A (fun i j => Go.LA.sgn (n + 1) * flP n A (n - 1) i j) i j = det n A * idM i j := fun i j hi hj => by
 have h := qP hn A hi hj
 have e : mm n A (fun i j => Go.LA.sgn (n + 1) * flP n A (n - 1) i j) i j = Go.LA.sgn (n + 1) * mm n A (flP n A (n - 1)) i j := by
  unfold mm
  rw [← bX]
  exact aV fun k _ => by rw [← Int.mul_assoc, Int.mul_comm (A i k), Int.mul_assoc]
 rw [e, h, ← Int.mul_assoc, ← Int.mul_assoc, nt, Int.one_mul]
theorem rX {c : Nat} {W H U D : Mat} (hd : det c W ≠ 0) (hU : CEq c c W H U) (hD : ∀ i j, i < c → j < c → mm c W D i j = det c W * idM i j) : ∀ i j, i < c → j < c → mm c D H i j = det c W * U i j := fun i j hi hj => by
 have h1 : ∀ r, r < c → mm c W (mm c D H) r j = det c W * H r j := fun r hr => by
  rw [← ij]
  have : mm c (mm c W D) H r j = mm c (fun i j => det c W * idM i j) H r j := d9 (fun k hk => hD r k hr hk) fun _ _ => rfl
  rw [this]
  have e : mm c (fun i j => det c W * idM i j) H r j = det c W * mm c idM H r j := by
   unfold mm; rw [← bX]; exact aV fun k _ => by rw [Int.mul_assoc]
  rw [e, mr H r j hr]
 have h2 := ox hd (x := fun l => mm c D H l j - det c W * U l j) (fun r hr => by
  have e : (sm c fun l => W r l * (mm c D H l j - det c W * U l j)) = mm c W (mm c D H) r j - det c W * mm c W U r j := by
   unfold mm; rw [← bX, ← gU]
   exact aV fun l _ => by grind
  rw [e, h1 r hr, ← hU.2 r j hr hj]; omega) hi
 omega
theorem gM (n : Nat) (f : Nat → Nat) : natC n f = natsL ((List.range n).map f) := by simp [natC, Function.comp_def]
set_option maxHeartbeats 4000000 in
theorem kn {K r c gp : Nat} {w : World} {s0 : Nat → SD} {P : Mat} (hT : Blk w gp 30 (topC c s0)) (hX : ∀ j, j < c → RX false K w (s0 j) (r + c) (fun x => P x j)) (hr : 1 ≤ r ∧ r ≤ 16) (hc : 1 ≤ c ∧ c ≤ 16) (hK1 : 1 ≤ K) (hK : 300 * K + 1000 < 4398046511104)
  (hP : ∀ j b, j < c → b < c → P (r + j) b = idM j b) :
  CallsR Try.prog 27 #[.agg (pairL gp c r).toArray] w fun _ w' => ∃ (gs cp : Nat → Nat) (U : Mat) (l : Nat → Nat), w.grownBy w' (some gp) ∧ Blk w' gp 30 (topC c fun j => ⟨some ⟨gs j, 0, none⟩, r + c, cp j⟩) ∧
   (∀ j, j < c → RO true (34 * K + 100) w' w.heap.size (gs j) (cp j) (r + c) (fun x => mm c P U x j)) ∧ Uni c U ∧ HF (r + c) c (mm c P U) c l := by
 refine aG (args := [_]) Try.func27 rfl rfl ?_
 refine aj ?_
 refine ah rfl ?_
 refine bH (vs := pairL gp c r) rfl (fun g1 w1 hn1 => ⟨fun _ _ => trivial, ?_⟩)
 have hb1 := hn1.blk
 have hE1 := hn1.ex
 repeat' (first|refine aa ?_|refine aj ?_|refine ae ?_)
 refine bn (late := []) (plan := [(0, none), (1, none), (2, none), (3, some true), (4, some true), (5, none)]) (fun w' => Ex w1 w') bC (by kernel_rfl) (Ex.refl w1).drew ?_
 have hEd := (Ex.refl w1).drew
 repeat' (first|refine aU (g := g1) rfl (fun _ h => hb1.ext h) rfl ?_|refine aR (g := g1) rfl (fun _ h => hb1.ext h) rfl ?_|refine aP rfl ?_)
 refine aw (i4 (hT.ext (hE1.trans hEd)) (fun j hj => (hX j hj).ext (hE1.trans hEd)) hr hc hK1 (by omega) hP) rfl ?_
 rintro v w2 ⟨sd, f, V, rfl, hN2, hJ, hE2⟩
 refine ⟨fun _ h => h.trans hE2, ?_⟩
 have hE02 := (hE1.trans hEd).trans hE2
 skip
 have hl2 := hN2.sl
 rw [gM] at hl2
 have hlen := hN2.1
 have hfd : ∀ i, i < c → ((List.range c).map f).getD i 0 = f i := fun i hi => by simp [List.getD_eq_getElem?_getD, hi]
 have hlt : ∀ i, i < c → f i < r + c := hJ.lt
 rw [hlen]
 refine aw (fR (by simp) (hT.ext hE02).sl (fun j hj => (hX j hj).ext hE02) hl2 hc.1 hc.2 (by omega) (fun i hi => by rw [hfd i hi]; exact hlt i hi)) rfl ?_
 rintro v w3 ⟨gw, gsw, cpw, rfl, hO3, hE3⟩
 refine ⟨fun _ h => h.trans hE3, ?_⟩
 have hE03 := hE02.trans hE3
 replace hO3 := hO3.congr (F' := fun i j => P (f i) j) (fun i j hi _ => by rw [hfd i hi])
 have hd0 := hJ.det
 repeat' (first|refine ai rfl ?_|refine aa ?_|refine aj ?_|refine ah rfl ?_|refine ae ?_)
 refine aw (kS hO3.mx hc (by omega)) rfl ?_
 rintro v w4 ⟨_, rfl, hI4, hE4⟩
 refine ⟨fun _ _ => trivial, ?_⟩
 obtain ⟨xd, rfl⟩ := hI4.ih
 have hE04 := hE03.trans hE4
 generalize hW : (fun i j => P (f i) j) = W at *
 have ld : Lb (17 * K + 20) (det c W) := (Lb.det (fun r' c' hr' hc' => hO3.mx.lb hr' hc') (by omega)).mono (by
  have : (K + 1) * c ≤ (K + 1) * 16 := Nat.mul_le_mul_left _ hc.2
  omega)
 repeat' (first|refine aO rfl rfl ?_|refine ai rfl ?_)
 refine aE (fun g3 w5 hn5 => ⟨fun _ _ => trivial, ?_⟩)
 have hb5 : Blk w5 g3 49 (intL false none 0 0) := hn5.blk
 refine au (n := 2) (vs := xd.cells) rfl rfl rfl rfl hb5 rfl (fun w6 hc6 hb6 => ⟨fun _ _ => trivial, ?_⟩)
 have s4 := hE04.size
 have lo5 := hn5.lo
 have lo3 := hO3.low
 have hE06 : Ex w w6 := (hE04.trans hn5.ex).chg hc6 (by omega)
 have hE36 : Ex w3 w6 := (hE4.trans hn5.ex).chg hc6 (by have := hE4.size; omega)
 have hO6 := hO3.ext hE36
 have hd6 : Ent true (17 * K + 20) w6 xd.val (det c W) := (Ent.of (hI4.ext hn5.ex) ld).gbN hb5 (aA _ _ _ _) (bp hc6)
 repeat' (first|refine ai rfl ?_|refine aa ?_|refine aj ?_|refine ah rfl ?_|refine ae ?_)
 refine aw (kj hO6.mx hc (by omega)) rfl ?_
 rintro v w7 ⟨_, rfl, ga, gsa, cpa, rfl, hO7, hE7⟩
 refine ⟨fun _ _ => trivial, ?_⟩
 have hb7 := hb6.ext hE7
 have hO6' := (hO6.ext hE7).mx.up (K' := 17 * K + 20) (by omega)
 repeat' (first|refine aO rfl rfl ?_|refine aR (g := g3) rfl hb7 rfl ?_|refine ai rfl ?_|refine aa ?_|refine aj ?_|refine ah rfl ?_|refine ae ?_)
 refine aw (jq hO6' hc (hd6.ext hE7) hd0 (by omega) (by omega)) rfl ?_
 rintro v w8 ⟨H, hH, gh, gsh, cph, rfl, hO8, hE8⟩
 refine ⟨fun _ _ => trivial, ?_⟩
 refine aw (kR (hO7.ext hE8).mx hO8.mx hc hc hc (by omega)) rfl ?_
 rintro v w9 ⟨_, rfl, gu, gsu, cpu, rfl, hO9, hE9⟩
 refine ⟨fun _ _ => trivial, ?_⟩
 obtain ⟨U, hU⟩ := hH.ceq
 have hdiv := rX hd0 hU (qV hc.1 W)
 generalize mm c (fun i j => Go.LA.sgn (c + 1) * flP c W (c - 1) i j) H = M at hO9 hdiv
 generalize hKM : 16 * K + 64 + (17 * K + 20) + 1 = KM at hO9
 have hE69 := (hE7.trans hE8).trans hE9
 have hb8 := hb6.ext (hE7.trans hE8)
 have hd8 := hd6.ext (hE7.trans hE8)
 have hE08 := hE06.trans (hE7.trans hE8)
 have hE09 := hE06.trans hE69
 have lM : ∀ i j, i < c → j < c → Lb KM (M i j) := fun i j hi hj => hO9.mx.lb hi hj
 have lg3 : g3 < w8.heap.size := by have := hb6.lt; have := (hE7.trans hE8).size; omega
 repeat' (first|refine aO rfl rfl ?_|refine ai rfl ?_|refine aa ?_|refine aj ?_|refine ah rfl ?_|refine ae ?_|refine aY rfl ?_|refine aB ?_)
 refine aW (ι := Nat) [10, 11, 12, 38, 39, 40, 41, 42, 43, 44, 45, 46, 47, 48, 49, 50, 51, 52, 53, 54, 55, 56, 57, 58, 59, 60] (fun i => [(38, .int .i64 (i : Int))])
  (fun i w' => i ≤ c ∧ Ex w8 w' ∧ MO true KM w' w8.heap.size gu c c gsu cpu (fun a b => if a < i then M a b / det c W else M a b)) (fun i => c - i)
  0 ⟨rfl, trivial⟩ ⟨by omega, hE9, hO9.congr fun a b _ _ => if_neg (by omega)⟩ ?_
 clear hO9 hE9
 rintro i ξ w10 ⟨hi, hE10, hO10⟩
 show CW _ _ _ _ (over [(38, .int .i64 (i : Int))] _) w10
 rcases Nat.lt_or_ge i c with hic | hic
 ·repeat' (first|refine bv rfl rfl (by omega) ?_|refine aD (j := i) (a := some ⟨gu, 0, none⟩) rfl rfl ⟨_, _, rfl⟩ (by omega) ?_|refine aZ (j := i) (a := some ⟨gu, 0, none⟩) (n := c) (s := fun k => ⟨some ⟨gsu k, 0, none⟩, c, cpu k⟩) rfl hO10.top.sl (by omega) rfl ?_|refine ai rfl ?_|refine aa ?_|refine aj ?_|refine ah rfl ?_|refine ae ?_|refine aY rfl ?_|refine aC rfl ?_|refine aB ?_|refine aF ?_)
  refine aW (ι := Nat) [11, 12, 44, 45, 46, 47, 48, 49, 50, 51, 52, 53, 54, 55, 56, 57, 58, 59] (fun j => [(44, .int .i64 (j : Int))])
   (fun j w' => j ≤ c ∧ Ex w8 w' ∧ MO true KM w' w8.heap.size gu c c gsu cpu (fun a b => if a < i ∨ (a = i ∧ b < j) then M a b / det c W else M a b)) (fun j => c - j)
   0 ⟨rfl, trivial⟩ ⟨by omega, hE10, hO10.congr fun a b _ _ => by
    by_cases h : a < i
    ·rw [if_pos h, if_pos (.inl h)]
    ·rw [if_neg h, if_neg (by omega)]⟩ ?_
  clear hO10 hE10
  rintro j ξ2 w11 ⟨hj, hE11, hO11⟩
  show CW _ _ _ _ (over [(44, .int .i64 (j : Int))] _) w11
  rcases Nat.lt_or_ge j c with hjc | hjc
  ·obtain ⟨hh, hbr, hcr, hEr⟩ := hO11.get hic
   have eij := hEr j hjc
   rw [if_neg (by omega)] at eij
   repeat' (first|refine bv rfl rfl (by omega) ?_|refine bj (j := j) (a := some ⟨gsu i, 0, none⟩) rfl rfl ⟨_, _, rfl⟩ (by omega) ?_|refine bD (j := j) (n := cpu i) (a := some ⟨gsu i, 0, none⟩) rfl hbr.sl ⟨_, _, rfl⟩ (by omega) ?_|refine ai rfl ?_|refine aa ?_|refine aj ?_|refine ah rfl ?_|refine ae ?_|refine aC rfl ?_|refine aB ?_|refine aF ?_)
   refine aE (fun g12 w12 hn12 => ⟨fun _ _ => trivial, ?_⟩)
   have hb12 : Blk w12 g12 49 (intL false none 0 0) := hn12.blk
   repeat' (first|refine ai rfl ?_)
   refine au (n := 2) (vs := (hh j).cells) rfl rfl rfl rfl hb12 rfl (fun w13 hc13 hb13 => ⟨fun _ _ => trivial, ?_⟩)
   have hE1113 : Ex w11 w13 := hn12.ex.chg hc13 hn12.lo
   have hE813 := hE11.trans hE1113
   have hb313 := hb8.ext hE813
   have hd13 := hd8.ext hE813
   repeat' (first|refine aR (g := g12) rfl hb13 rfl ?_|refine aR (g := g3) rfl hb313 rfl ?_|refine ai rfl ?_|refine aa ?_|refine ah rfl ?_|refine ae ?_)
   refine aw (bx (eij.ext hE1113).k hd13.k (by omega) (by omega)) rfl ?_
   rintro v w14 ⟨q, rm, rfl, hq, hrm, hE14⟩
   refine ⟨fun _ _ => trivial, ?_⟩
   obtain ⟨xq, rfl⟩ := hq.ih
   have hE1114 := hE1113.trans hE14
   have hbr14 := hbr.ext hE1114
   repeat' (first|refine aO rfl rfl ?_|refine bj (j := j) (a := some ⟨gsu i, 0, none⟩) rfl rfl ⟨_, _, rfl⟩ (by omega) ?_|refine ai rfl ?_)
   refine cF (j := j) (n := cpu i) (u := xq) rfl rfl hbr14 (by omega) (fun w15 hc15 hb15 => ⟨fun _ _ => trivial, ?_⟩)
   repeat' (first|refine ai rfl ?_|refine aa ?_|refine ah rfl ?_|refine ae ?_|refine bi rfl rfl (by omega) (by omega) ?_|refine aJ ?_)
   refine ⟨⟨j + 1, ⟨hjc, (hE11.trans hE1114).chg hc15 (hO11.row i hic).low, ((hO11.ext hE1114).put hic hbr14 (fun j hj => (hEr j hj).ext hE1114) (Ent.of hq ((lM i j hic hjc).div _)) hc15 hb15).congr fun a b _ _ => ?_⟩, by omega, rfl, trivial⟩, (by (repeat (first|exact aH _ _ _|refine ax rfl ?_|refine av rfl ?_|refine ak rfl ?_|refine ao rfl ?_)))⟩
   unfold setM
   by_cases h : a = i ∧ b = j
   ·rw [if_pos h, if_pos (by omega), h.1, h.2]
   ·rw [if_neg h]
    show _ = if a < i ∨ (a = i ∧ b < j) then _ else M a b
    by_cases h' : a < i ∨ (a = i ∧ b < j)
    ·rw [if_pos h', if_pos (by omega)]
    ·rw [if_neg h', if_neg (by omega)]
  ·have ejc : c = j := by omega
   subst ejc
   repeat' (first|refine bu rfl rfl (by omega) ?_|refine ai rfl ?_|refine aa ?_|refine aj ?_|refine ah rfl ?_|refine ae ?_|refine bi rfl rfl (by omega) (by omega) ?_|refine ay rfl ?_|refine aS ?_|refine aL ?_|refine aT ?_|refine aJ ?_)
   refine ⟨⟨i + 1, ⟨hic, hE11, hO11.congr fun a b _ hb => ?_⟩, by omega, rfl, trivial⟩, (by (repeat (first|exact aH _ _ _|refine ax rfl ?_|refine av rfl ?_|refine ak rfl ?_|refine ao rfl ?_)))⟩
   by_cases h : a < i + 1
   ·rw [if_pos h, if_pos (by omega)]
   ·rw [if_neg h, if_neg (by omega)]
 ·have eic : c = i := by omega
  subst eic
  have hE010 := hE08.trans hE10
  have hU10 := hO10.congr (F' := U) (fun a b ha hb => by rw [if_pos ha, hdiv a b ha hb, Int.mul_ediv_cancel_left _ hd0])
  repeat' (first|refine bu rfl rfl (by omega) ?_|(refine aU (g := g1) rfl (hb1.ext ((hEd.trans hE2).trans (hE3.trans (hE36.trans ((hE7.trans hE8).trans hE10))))) rfl ?_)|refine ai rfl ?_|refine aa ?_|refine aj ?_|refine ah rfl ?_|refine ae ?_|refine aP rfl ?_|refine ay rfl ?_|refine aS ?_|refine aL ?_|refine aT ?_)
  refine aw (n0 (hT.ext hE010) (fun j hj => (hX j hj).ext hE010) hU10.mx hc (by omega) (by omega) (by omega)) rfl ?_
  rintro v w11 ⟨gs, cp, hG11, hT11, hR11⟩
  refine ⟨fun _ _ => trivial, ?_⟩
  repeat' (first|refine ae ?_)
  refine ns rfl ⟨gs, cp, U, f, bJ (nZ hE010) hG11 (fun k e => .inl e), hT11, fun j hj => ?_, hU.1, ?_⟩
  ·exact ((hR11 j hj).mono hE010.size).up (by omega)
  ·rw [← hW] at hH hU
   exact hJ.hf hH hU
end Go.Proofs.Ytiejljicpinheaa
namespace Go.Proofs.Ytiejljicpinheaa
open Go.W Go.LM Go.LA
theorem ko (r : Nat) (F : Mat) (j b : Nat) : withId r F (r + j) b = idM j b := by
 unfold withId; rw [if_neg (by omega), show r + j - r = j by omega]
theorem oa {r x : Nat} (F : Mat) (b : Nat) (h : x < r) : withId r F x b = F x b := if_pos h
theorem dM {n i : Nat} (f : Nat → Nat) (h : i < n) : ((List.range n).map f).getD i 0 = f i := by simp [List.getD_eq_getElem?_getD, h]
structure FormR (K r c lo : Nat) (A : Mat) (w' : World) (g g' : Nat) (gs cp gs' cp' : Nat → Nat) (H U : Mat) (k : Nat) (p : Nat → Nat) : Prop where
 h : MO true K w' lo g r c gs cp H
 u : MO true K w' lo g' c c gs' cp' U
 ceq : CEq r c A H U
 hf : HF r c H k p
theorem FormR.ext {K r c lo : Nat} {A : Mat} {w w' : World} {g g' : Nat} {gs cp gs' cp' : Nat → Nat} {H U : Mat} {k : Nat} {p : Nat → Nat} (h : FormR K r c lo A w g g' gs cp gs' cp' H U k p) (e : Ex w w') : FormR K r c lo A w' g g' gs cp gs' cp' H U k p := ⟨h.h.ext e, h.u.ext e, h.ceq, h.hf⟩
def RetForm (K r c : Nat) (A : Mat) (w : World) (v : Value) (w' : World) : Prop :=
 ∃ g g' gs cp gs' cp' H U k p, v = .tuple #[.slice (some ⟨g, 0, none⟩) r r, .slice (some ⟨g', 0, none⟩) c c, .bool true] ∧ FormR K r c w.heap.size A w' g g' gs cp gs' cp' H U k p ∧ Ex w w'
set_option maxHeartbeats 4000000 in
theorem dy {cn : Bool} {K r c cap : Nat} {w : World} {a : Option Addr} {s : Nat → SD} {A : Mat} (hM : MX cn K w a r c s A) (hr : 1 ≤ r ∧ r ≤ 16) (hc : 1 ≤ c ∧ c ≤ 16) (hK1 : 1 ≤ K) (hK : 300 * K + 1000 < 4398046511104) :
  CallsR Try.prog 9 #[.slice a r cap] w (RetForm (34 * K + 100) r c A w) := by
 refine aG (args := [_]) Try.func9 rfl rfl ?_
 repeat' (first|refine ai rfl ?_|refine aa ?_|refine aj ?_|refine ah rfl ?_|refine ae ?_)
 refine aw (dZ hM.top) rfl ?_
 rintro v w1 ⟨rfl, hE1⟩
 refine ⟨fun _ _ => trivial, ?_⟩
 rw [cK hM hr hc]
 repeat' (first|refine aO rfl rfl ?_|refine ai rfl ?_|refine aa ?_|refine aj ?_|refine ah rfl ?_|refine ae ?_|refine ay rfl ?_|refine aF ?_)
 refine aw (lP (hM.ext hE1) hr hc hK1) rfl ?_
 rintro v w2 ⟨g, s', rfl, lg, hT2, hX2, hE2⟩
 refine ⟨fun _ _ => trivial, ?_⟩
 have hE02 := hE1.trans hE2
 refine aE (fun g3 w3 hn3 => ⟨fun _ _ => trivial, ?_⟩)
 have hb3 : Blk w3 g3 64 [.slice none 0 0, .int .i64 0] := hn3.blk
 refine au (n := 2) (vs := pairL g c r) rfl rfl rfl rfl hb3 rfl (fun w4 hc4 hb4 => ⟨fun _ _ => trivial, ?_⟩)
 have s1 := hE1.size
 have s2 := hE2.size
 have l3 := hn3.lo
 have hE24 : Ex w2 w4 := hn3.ex.chg hc4 l3
 have hT4 := hT2.ext hE24
 have lT := hT2.lt
 repeat' (first|refine aR (g := g3) rfl hb4 rfl ?_|refine aa ?_|refine aj ?_|refine ah rfl ?_|refine ae ?_)
 refine aw (kn (K := K) hT4 (fun j hj => (hX2 j hj).ext hE24) hr hc hK1 hK (fun j b _ _ => ko r A j b)) rfl ?_
 rintro v w5 ⟨gs, cp, U, l, hG5, hT5, hR5, hU, hHF⟩
 refine ⟨fun _ _ => trivial, ?_⟩
 have hb5 := hb4.gb hG5 (fun e => by cases e; omega)
 have hE05 : Ex w w5 := (hE02.trans hE24).gb hG5 (fun k e => by cases e; omega)
 have hl5 := hb5.lt
 repeat' (first|refine fm (m := r) (m' := c) rfl rfl (by omega) ?_|refine ai rfl ?_|refine aa ?_|refine aj ?_|refine ah rfl ?_|refine ae ?_|refine aB ?_)
 refine aW (ι := (Nat × SD × SD) × (Nat → Nat) × (Nat → Nat)) [9, 10, 11, 27, 28, 29, 30, 31, 32, 33, 34, 35, 36, 37, 38, 39, 40, 41, 42] (fun t => [(27, .int .i64 (t.1.1 : Int)), (9, .slice t.1.2.1.a t.1.2.1.len t.1.2.1.cap), (10, .slice t.1.2.2.a t.1.2.2.len t.1.2.2.cap)])
  (fun t w' => (t.1.1 ≤ r + c ∧ Ex w5 w') ∧ NatG w' w5.heap.size 3 (if t.1.1 ≤ r then t.1.1 else r) t.1.2.1 t.2.1 ∧ (∀ k, k < t.1.1 → k < r → t.2.1 k = k) ∧ NatG w' w5.heap.size 3 (t.1.1 - r) t.1.2.2 t.2.2 ∧ (∀ k, k + r < t.1.1 → t.2.2 k = r + k) ∧
   (t.1.1 ≤ r → t.1.2.2 = sd0) ∧ ∀ x y, t.1.2.1.a = some x → t.1.2.2.a = some y → x.block ≠ y.block) (fun t => r + c - t.1.1)
  ((0, sd0, sd0), fun _ => 0, fun _ => 0) ⟨rfl, rfl, rfl, trivial⟩ ⟨⟨by simp only; omega, Ex.refl _⟩, by simp only; rw [if_pos (by omega)]; exact NatG.nil _ _ _ _, fun k hk => by simp only at hk; omega, by simp only; rw [Nat.zero_sub]; exact NatG.nil _ _ _ _, fun k hk => by simp only at hk; omega, fun _ => rfl, fun x y e => by cases e⟩ ?_
 rintro ⟨⟨i, su, sl⟩, fu, fl⟩ ξ w6 ⟨⟨hi, hE6⟩, hNu, hfu, hNl, hfl, hz, hdis⟩
 simp only at hi hNu hfu hNl hfl hz hdis
 show CW _ _ _ _ (over [(27, .int .i64 (i : Int)), (9, .slice su.a su.len su.cap), (10, .slice sl.a sl.len sl.cap)] _) w6
 have hb6 := hb5.ext hE6
 have s6 := hE6.size
 rcases Nat.lt_or_ge i (r + c) with hir | hir
 ·rcases Nat.lt_or_ge i r with hi' | hi'
  ·rw [if_pos (by omega)] at hNu
   obtain rfl := hz (by omega)
   repeat' (first|refine bv rfl rfl (by omega) ?_|refine aU (g := g3) rfl hb6 rfl ?_|refine ai rfl ?_|refine aa ?_|refine aj ?_|refine ah rfl ?_|refine ae ?_|refine aP rfl ?_|refine aC rfl ?_|refine aB ?_|refine aF ?_)
   refine lQ (E := 3) (lo := w5.heap.size) (u := i) rfl rfl rfl hNu (by omega) (by omega) (by omega) ?_
   intro gt s2' f2 w7 hN7 hf1 hf2 hG7 hA7
   repeat' (first|refine ai rfl ?_|refine aa ?_|refine ah rfl ?_|refine ae ?_|refine bi rfl rfl (by omega) (by omega) ?_|refine aJ ?_)
   refine ⟨⟨((i + 1, s2', sd0), f2, fl), ⟨⟨by simp only; omega, hE6.gb hG7 (fun q e => (hNu.blk q e).1)⟩, by simp only; rw [if_pos (by omega)]; exact hN7, fun k hk hk' => ?_, by simp only; rw [show i + 1 - r = 0 by omega]; exact NatG.nil _ _ _ _, fun k hk => by simp only at hk; omega, fun _ => rfl, fun x y _ e => (nomatch e)⟩, by simp only; omega, rfl, rfl, rfl, trivial⟩, (by (repeat (first|exact aH _ _ _|refine ax rfl ?_|refine av rfl ?_|refine ak rfl ?_|refine ao rfl ?_)))⟩
   simp only at hk ⊢
   by_cases h : k = i
   ·subst h; exact hf2
   ·rw [hf1 k (by omega)]; exact hfu k (by omega) hk'
  ·have er : (if i ≤ r then i else r) = r := by split <;> omega
   rw [er] at hNu
   repeat' (first|refine bv rfl rfl (by omega) ?_|refine aU (g := g3) rfl hb6 rfl ?_|refine bu rfl rfl (by omega) ?_|refine ai rfl ?_|refine aa ?_|refine aj ?_|refine ah rfl ?_|refine ae ?_|refine aP rfl ?_|refine aC rfl ?_|refine ay rfl ?_|refine aB ?_|refine aF ?_)
   refine lQ (E := 3) (lo := w5.heap.size) (u := i) rfl rfl rfl hNl (by omega) (by omega) (by omega) ?_
   intro gt s2' f2 w7 hN7 hf1 hf2 hG7 hA7
   repeat' (first|refine ai rfl ?_|refine aa ?_|refine ah rfl ?_|refine ae ?_|refine bi rfl rfl (by omega) (by omega) ?_|refine aJ ?_)
   have hkeep : ∀ ad, su.a = some ad → (Value.slice sl.a sl.len sl.cap).ownBlock ≠ some ad.block := fun ad e h => by
    rcases hNl.2 with ⟨h0, _⟩ | ⟨g', h1, _⟩
    ·rw [h0] at h; cases h
    ·rw [h1] at h; cases h; exact hdis _ _ e h1 rfl
   refine ⟨⟨((i + 1, su, s2'), fu, f2), ⟨⟨hir, hE6.gb hG7 (fun q e => (hNl.blk q e).1)⟩, by simp only; rw [if_neg (by omega)]; exact NatG.gb hNu hG7 hkeep, fun k hk hk' => hfu k (by omega) hk', by simp only; rw [show i + 1 - r = i - r + 1 by omega]; exact hN7, fun k hk => ?_, fun h => by simp only at h; omega, fun x y e1 e2 => ?_⟩, by simp only; omega, rfl, rfl, rfl, trivial⟩, (by (repeat (first|exact aH _ _ _|refine ax rfl ?_|refine av rfl ?_|refine ak rfl ?_|refine ao rfl ?_)))⟩
   ·simp only at hk ⊢
    by_cases h : k = i - r
    ·subst h; rw [hf2]; omega
    ·rw [hf1 k (by omega)]; exact hfl k (by omega)
   ·simp only at e1 e2
    rcases hA7 with h | h
    ·exact hdis x y e1 (by rw [← h]; exact e2)
    ·have h1 := h y e2; have h2 := (NatG.lo hNu x e1).2; omega
 ·have eir : i = r + c := by omega
  subst eir
  have e1 : (if r + c ≤ r then r + c else r) = r := if_neg (by omega)
  rw [e1] at hNu
  rw [show r + c - r = c by omega] at hNl
  have hlu := hNu.1
  have hll := hNl.1
  have hsu := hNu.sl
  have hsl := hNl.sl
  rw [gM] at hsu hsl
  rw [hlu, hll]
  repeat' (first|refine bu rfl rfl (by omega) ?_|refine aa ?_|refine aj ?_|refine ah rfl ?_|refine ae ?_|refine ay rfl ?_|refine aS ?_|refine aL ?_|refine aT ?_)
  refine bn (late := []) (plan := [(0, none), (1, none), (2, none), (4, none), (5, none), (6, none), (3, some true), (7, some true), (8, none), (9, none), (10, none)]) (fun w' => Ex w6 w') bC (by kernel_rfl) (Ex.refl w6).drew ?_
  have hEd := (Ex.refl w6).drew
  repeat' (first|refine aU (g := g3) rfl (fun _ h => hb6.ext h) rfl ?_|refine ai rfl ?_|refine aP rfl ?_)
  have hE56 := hE6.trans hEd
  refine aw (fR (L := r) (by simp) (hT5.ext hE56).sl (fun j hj => ((hR5 j hj).ext hE56).rx) (hsu.ext hEd) hc.1 hc.2 (by omega) (fun i hi => by rw [dM _ hi, hfu i (by omega) hi]; omega)) rfl ?_
  rintro v w7 ⟨gh, gsh, cph, rfl, hO7, hE7⟩
  refine ⟨fun _ h => h.trans hE7, ?_⟩
  have hE67 := hEd.trans hE7
  have hE57 := hE6.trans hE67
  skip
  refine aw (fR (L := c) (by simp) (hT5.ext hE57).sl (fun j hj => ((hR5 j hj).ext hE57).rx) (hsl.ext hE67) hc.1 hc.2 (by omega) (fun i hi => by rw [dM _ hi, hfl i (by omega)]; omega)) rfl ?_
  rintro v w8 ⟨gu, gsu, cpu, rfl, hO8, hE8⟩
  refine ⟨fun _ h => h.trans hE8, ?_⟩
  repeat' (first|refine ai rfl ?_|refine aa ?_|refine ae ?_|refine aK ?_)
  obtain ⟨k', hk', _, hHF'⟩ := hHF.cut (rows := r) (by omega)
  have s5 := hE05.size
  have eH : ∀ i j, i < r → j < c → mm c (withId r A) U i j = mm c A U i j := fun i j hi _ => d9 (fun k _ => oa A k hi) fun _ _ => rfl
  have eU : ∀ i j, i < c → j < c → mm c (withId r A) U (r + i) j = U i j := fun i j hi hj => by
   have : mm c (withId r A) U (r + i) j = mm c idM U i j := aV fun k _ => by rw [ko]
   rw [this, mr U i j hi]
  refine eI rfl (rt rfl) (rt rfl) (rt rfl) ⟨gh, gu, gsh, cph, gsu, cpu, mm c A U, U, k', l, rfl, ⟨((hO7.mono (by have := hE6.size; have : w6.drew.heap.size = w6.heap.size := rfl; omega)).ext hE8).congr fun i j hi hj => ?_, (hO8.mono (by have := hE57.size; omega)).congr fun i j hi hj => ?_, ⟨hU, fun _ _ _ _ => rfl⟩, hHF'.congr fun i j hi hj => (eH i j hi hj).symm⟩, (hE05.trans hE57).trans hE8⟩
  ·rw [dM _ hi, hfu i (by omega) hi, eH i j hi hj]
  ·rw [dM _ hi, hfl i (by omega), eU i j hi hj]
end Go.Proofs.Ytiejljicpinheaa
namespace Go.LA
theorem HF.piv {rows cols k c q : Nat} {H : Mat} {p : Nat → Nat} (h : HF rows cols H k p) (hc : c < cols) (hq : q < rows) (hz : ∀ x, x < q → H x c = 0) (hne : H q c ≠ 0) : c < k ∧ p c = q := by
 have hk : c < k := by
  rcases Nat.lt_or_ge c k with h' | h'
  ·exact h'
  ·exact absurd (h.rest c h' hc q hq) hne
 refine ⟨hk, ?_⟩
 rcases Nat.lt_trichotomy (p c) q with h' | h' | h'
 ·have := h.pos c hk; rw [hz _ h'] at this; omega
 ·exact h'
 ·exact absurd (h.zero c hk q h') hne
theorem HF.zcol {rows c k : Nat} {H : Mat} {p : Nat → Nat} (h : HF rows c H k p) (hz : ∀ r, r < rows → H r c = 0) : HF rows (c + 1) H k p :=
 ⟨Nat.le_succ_of_le h.kc, h.lt, h.mono, h.zero, h.pos, h.red, fun c' h1 h2 r hr => by
  by_cases e : c' = c
  ·subst e; exact hz r hr
  ·exact h.rest c' h1 (by omega) r hr⟩
theorem HF.snoc {rows c q : Nat} {H : Mat} {p p' : Nat → Nat} (h : HF rows c H c p) (hp : ∀ i, i < c → p' i = p i) (hp' : p' c = q) (hq : q < rows) (hz : ∀ x, x < q → H x c = 0) (hpos : 0 < H q c) (hm : ∀ i, i < c → p i < q) (hr : ∀ j, j < c → 0 ≤ H q j ∧ H q j < H q c) : HF rows (c + 1) H (c + 1) p' := by
 refine ⟨Nat.le_refl _, fun i hi => ?_, fun i j hij hj => ?_, fun i hi r hr' => ?_, fun i hi => ?_, fun i hi j hj => ?_, fun i h1 h2 => by omega⟩
 ·by_cases e : i = c
  ·subst e; rw [hp']; exact hq
  ·rw [hp i (by omega)]; exact h.lt i (by omega)
 ·rw [hp i (by omega)]
  by_cases e : j = c
  ·subst e; rw [hp']; exact hm i hij
  ·rw [hp j (by omega)]; exact h.mono i j hij (by omega)
 ·by_cases e : i = c
  ·subst e; rw [hp'] at hr'; exact hz r hr'
  ·rw [hp i (by omega)] at hr'; exact h.zero i (by omega) r hr'
 ·by_cases e : i = c
  ·subst e; rw [hp']; exact hpos
  ·rw [hp i (by omega)]; exact h.pos i (by omega)
 ·by_cases e : i = c
  ·subst e; rw [hp']; exact hr j hj
  ·rw [hp i (by omega)]; exact h.red i (by omega) j hj
theorem qW (rows : Nat) (H : Mat) (p : Nat → Nat) : HF rows 0 H 0 p :=
 ⟨Nat.le_refl _, fun i h => by omega, fun i j _ h => by omega, fun i h => by omega, fun i h => by omega, fun i h => by omega, fun i _ h => by omega⟩
end Go.LA
namespace Go.Proofs.Ytiejljicpinheaa
open Go.W Go.LM Go.LA
theorem eQ {P : Program} {S : World → Prop} {ops : List Oper} {K : Env → World → Prop} {rest : List (Oper × Option Bool)} {ρ : Env} {w : World} {b : Option Bool} {d : Nat} {T T' : TypeId} {pos : String} {af : Array Edge} {x y : Operand} {k : IntKind} {m m' : Int} {T'' : TypeId}
  (hx : ev ρ x = .int k m) (hy : ev ρ y = .int k m') (hd : m ≠ m') (h : RR P S ops K rest (upd ρ d (.bool true)) w) : RR P S ops K ((⟨some d, .binOp .neq T' x y T'', T, pos, af, none⟩, b) :: rest) ρ w :=
 pP hx hy (by rw [decide_eq_true hd]; exact h)
theorem rY {P : Program} {S : World → Prop} {ops : List Oper} {K : Env → World → Prop} {rest : List (Oper × Option Bool)} {ρ : Env} {w : World} {b : Option Bool} {d : Nat} {T T' : TypeId} {pos : String} {af : Array Edge} {x y : Operand} {k : IntKind} {m m' : Int} {T'' : TypeId}
  (hx : ev ρ x = .int k m) (hy : ev ρ y = .int k m') (hd : m' ≤ m) (h : RR P S ops K rest (upd ρ d (.bool true)) w) : RR P S ops K ((⟨some d, .binOp .geq T' x y T'', T, pos, af, none⟩, b) :: rest) ρ w :=
 se hx hy (by rw [decide_eq_true hd]; exact h)
theorem pt {n cap : Nat} {w : World} {a : Option Addr} {s : Nat → SD} (hS : Sl w a (topC n s)) (hno : ¬ okS n s) :
  CallsR Try.prog 31 #[.slice a n cap] w fun v w' => v = .tuple #[.slice none 0 0, .bool false] ∧ Ex w w' := by
 refine aG (args := [_]) Try.func31 rfl rfl ?_
 repeat' (first|refine ai rfl ?_|refine aa ?_|refine aj ?_|refine ah rfl ?_|refine ae ?_)
 refine aw (dZ hS) rfl ?_
 rintro v w1 ⟨rfl, hE1⟩
 refine ⟨fun _ _ => trivial, ?_⟩
 rw [eD hno]
 repeat' (first|refine aO rfl rfl ?_|refine ai rfl ?_|refine aa ?_|refine aj ?_|refine ah rfl ?_|refine ae ?_|refine aC rfl ?_|refine aK ?_|refine aX ?_)
 exact cR rfl (rt rfl) (rt rfl) ⟨rfl, hE1⟩
def RetPiv (r c : Nat) (F : Mat) (w : World) (v : Value) (w' : World) : Prop :=
 ∃ (t : Bool) (sd : SD) (f : Nat → Nat) (k : Nat), v = .tuple #[.slice sd.a sd.len sd.cap, .bool t] ∧ (t = true → NatG w' w.heap.size 3 k sd f ∧ HF r c F k f) ∧ (t = false → ¬ ∃ k p, HF r c F k p) ∧ Ex w w'
set_option maxHeartbeats 4000000 in
theorem fe {cn : Bool} {K r c cap : Nat} {w : World} {a : Option Addr} {s : Nat → SD} {F : Mat} (hM : MX cn K w a r c s F) (hr : 1 ≤ r ∧ r ≤ 16) (hc : 1 ≤ c ∧ c ≤ 16) (_hK : K < 17592186044415) :
  CallsR Try.prog 31 #[.slice a r cap] w (RetPiv r c F w) := by
 have hpt := hM.plain (by omega)
 refine aG (args := [_]) Try.func31 rfl rfl ?_
 repeat' (first|refine ai rfl ?_|refine aa ?_|refine aj ?_|refine ah rfl ?_|refine ae ?_)
 refine aw (dZ hM.top) rfl ?_
 rintro v w1 ⟨rfl, hE1⟩
 refine ⟨fun _ _ => trivial, ?_⟩
 rw [cK hM hr hc]
 repeat' (first|refine aO rfl rfl ?_|refine ai rfl ?_|refine aa ?_|refine aj ?_|refine ah rfl ?_|refine ae ?_|refine ay rfl ?_|refine aB ?_|refine aF ?_)
 have s1 := hE1.size
 refine aW (ι := (Nat × SD) × (Nat → Nat) × Nat) [2, 3, 7, 8, 9, 11, 21, 22, 23, 24, 25, 26, 27, 28, 29, 30, 31, 32, 33, 34, 35, 36, 37, 38, 39, 40, 41, 42, 43, 44, 45, 46, 47, 48, 49, 50, 51, 52, 53, 54, 55, 56, 57, 58, 59, 60, 61, 62, 63, 64, 65, 66, 67, 68, 69, 70, 71, 72, 73, 74, 75, 76, 77, 78, 79, 80, 81, 82, 83, 84, 85, 86, 87, 88, 89, 90, 91, 92, 93, 94, 95, 96, 97, 98, 99, 100, 101, 102] (fun t => [(21, .int .i64 (t.1.1 : Int)), (7, .slice t.1.2.a t.1.2.len t.1.2.cap)])
  (fun t w' => (t.1.1 ≤ c ∧ Ex w1 w') ∧ NatG w' w1.heap.size 3 t.2.2 t.1.2 t.2.1 ∧ HF r t.1.1 F t.2.2 t.2.1) (fun t => c - t.1.1)
  ((0, sd0), fun _ => 0, 0) ⟨rfl, rfl, trivial⟩ ⟨⟨by simp only; omega, Ex.refl _⟩, NatG.nil _ _ _ _, qW _ _ _⟩ ?_
 rintro ⟨⟨c0, sd⟩, f, k⟩ ξ w2 ⟨⟨hc0, hE2⟩, hN2, hF⟩
 simp only at hc0 hN2 hF
 show CW _ _ _ _ (over [(21, .int .i64 (c0 : Int)), (7, .slice sd.a sd.len sd.cap)] _) w2
 have hlen := hN2.1
 have hE02 := hE1.trans hE2
 rcases Nat.lt_or_ge c0 c with hcc | hcc
 ·repeat' (first|refine bv rfl rfl (by omega) ?_|refine aa ?_|refine aj ?_|refine ah rfl ?_|refine ae ?_|refine aC rfl ?_|refine aF ?_)
  refine aB ?_
  repeat' (first|refine ai rfl ?_|refine aa ?_|refine aj ?_|refine ah rfl ?_|refine ae ?_)
  refine cD (ι := Nat) [9, 24, 25, 26, 27, 28, 29, 30, 31, 32, 33, 34, 35, 36, 37, 38, 39] (fun p => [(9, .int .i64 (p : Int))])
   (fun p w' => Ex w2 w' ∧ p ≤ r ∧ (∀ q, q < p → F q c0 = 0) ∧ (p < r → F p c0 ≠ 0)) ?_ ?_
  ·refine aB ?_
   refine aW (ι := Nat) [9, 24, 25, 26, 27, 28, 29, 30, 31, 32, 33, 34, 35, 36, 37, 38, 39] (fun p => [(9, .int .i64 (p : Int))]) (fun p w' => Ex w2 w' ∧ p ≤ r ∧ (∀ q, q < p → F q c0 = 0)) (fun p => r - p)
    0 ⟨rfl, trivial⟩ ⟨Ex.refl _, by omega, fun q h => by omega⟩ ?_
   rintro p ξ3 w7 ⟨hE7, hpr, hz⟩
   show CW _ _ _ _ (over [(9, .int .i64 (p : Int))] _) w7
   rcases Nat.lt_or_ge p r with hp | hp
   ·obtain ⟨pa, d, hh, e1, e2, hpp, hS, hEn⟩ := (hM.ext (hE02.trans hE7)).get hp (by omega)
    repeat' (first|refine bv rfl rfl (by omega) ?_|refine aD (j := p) (a := a) rfl rfl hpt (by omega) ?_|refine aZ (j := p) (a := a) (n := r) (s := s) rfl (hM.ext (hE02.trans hE7)).top (by omega) e1 ?_|refine bj (j := c0) (a := pa) rfl rfl hpp (by omega) ?_|refine bD (j := c0) (a := pa) rfl hS hpp (by omega) ?_|refine ai rfl ?_|refine aj ?_|refine ah rfl ?_|refine bG rfl rfl ?_)
    refine aw (cB (hEn c0 (by omega)).k) rfl ?_
    rintro v w8 ⟨rfl, hE8⟩
    refine ⟨fun _ _ => trivial, ?_⟩
    repeat' (first|refine ai rfl ?_|refine aa ?_|refine ah rfl ?_|refine ae ?_|refine bG rfl rfl ?_|refine bi rfl rfl (by omega) (by omega) ?_|refine aM rfl (fun hc => ?_) (fun hc => ?_)|refine aB ?_|refine aS ?_|refine aL ?_|refine aT ?_|refine aJ ?_|refine aF ?_)
    ·refine ⟨⟨p + 1, ⟨hE7.trans hE8, by omega, fun q h1 => ?_⟩, by omega, rfl, trivial⟩, (by (repeat (first|exact aH _ _ _|refine ax rfl ?_|refine av rfl ?_|refine ak rfl ?_|refine ao rfl ?_)))⟩
     by_cases hqp : q = p
     ·subst hqp; exact Int.sign_eq_zero_iff_zero.1 (by assumption)
     ·exact hz q (by omega)
    ·exact ⟨⟨p, ⟨hE7.trans hE8, hpr, hz, fun _ e => absurd (show (F p c0).sign = 0 by rw [e]; rfl) (by assumption)⟩, rfl, trivial⟩, (by (repeat (first|exact aI _ _|refine ax rfl ?_|refine av rfl ?_|refine ak rfl ?_|refine ao rfl ?_)))⟩
   ·repeat' (first|refine bu rfl rfl (by omega) ?_|refine ai rfl ?_|refine aa ?_|refine aj ?_|refine ah rfl ?_|refine ae ?_|refine bP rfl rfl ?_|refine ay rfl ?_|refine aS ?_|refine aL ?_|refine aT ?_)
    exact ⟨⟨p, ⟨hE7, hpr, hz, fun h => by omega⟩, rfl, trivial⟩, (by (repeat (first|exact aI _ _|refine ax rfl ?_|refine av rfl ?_|refine ak rfl ?_|refine ao rfl ?_)))⟩
  ·rintro p ξ3 w7 ⟨hE7, hpr, hz, hnz⟩
   show CW _ _ _ _ (over [(9, .int .i64 (p : Int))] _) w7
   have hE07 := hE02.trans hE7
   have hE17 := hE2.trans hE7
   have hN7 := hN2.ext hE7
   rcases Nat.lt_or_ge p r with hp | hp
   ·have hne := hnz hp
    have hend : ∀ k' p', HF r c F k' p' → c0 < k' ∧ p' c0 = p := fun k' p' h => h.piv hcc hp hz hne
    obtain ⟨pa, d, hh, e1, e2, hpp, hS, hEn⟩ := (hM.ext hE07).get hp (by omega)
    by_cases hkc : k = c0
    ·subst hkc
     have hsl := hN7.sl
     rw [gM] at hsl
     have hno : ∀ {P : Prop}, (∀ k' p', HF r c F k' p' → k < k' → p' k = p → False) → ¬ ∃ k' p', HF r c F k' p' := fun h ⟨k', p', h'⟩ => h k' p' h' (hend k' p' h').1 (hend k' p' h').2
     by_cases hmo : ∀ i, i < k → f i < p
     ·by_cases hpos : 0 < F p k
      ·have hsg : ¬ (F p k).sign < 0 := fun h => by have := ef.1 h; omega
       repeat' (first|refine fz rfl rfl (by omega) ?_|refine dq rfl rfl (by omega) ?_|(refine aD (j := k - 1) (a := sd.a) rfl (show Value.int .i64 ((k : Int) - 1) = .int .i64 ((k - 1 : Nat) : Int) by congr 1; omega) (hsl.plain (by simp; omega)) (by omega) ?_)|(refine bE (j := k - 1) (xs := (List.range k).map f) rfl hsl (by simp; omega) ?_)|(refine nU rfl rfl (by rw [dM _ (by omega)]; have := hmo (k - 1) (by omega); omega) ?_)|refine aD (j := p) (a := a) rfl rfl hpt (by omega) ?_|refine aZ (j := p) (a := a) (n := r) (s := s) rfl (hM.ext hE07).top (by omega) e1 ?_|refine bj (j := k) (a := pa) rfl rfl hpp (by omega) ?_|refine bD (j := k) (a := pa) rfl hS hpp (by omega) ?_|refine ai rfl ?_|refine aa ?_|refine aj ?_|refine ah rfl ?_|refine ae ?_|refine aY rfl ?_|refine bG rfl rfl ?_|refine bP rfl rfl ?_|refine em rfl rfl (fun hc => ?_) (fun hc => ?_)|refine cM rfl rfl (by omega) (by omega) ?_|refine ay rfl ?_|refine aF ?_)
       all_goals
        refine aw (cB (hEn k (by omega)).k) rfl ?_
        rintro v w8 ⟨rfl, hE8⟩
        refine ⟨fun _ _ => trivial, ?_⟩
        have hM8 := hM.ext (hE07.trans hE8)
        have hS8 := hS.ext hE8
        repeat' (first|refine bu rfl rfl (by omega) ?_|refine aD (j := p) (a := a) rfl rfl hpt (by omega) ?_|refine aZ (j := p) (a := a) (n := r) (s := s) rfl hM8.top (by omega) e1 ?_|refine gG rfl rfl (by omega) (by omega) ?_|refine ai rfl ?_|refine aa ?_|refine aj ?_|refine ah rfl ?_|refine ae ?_|refine aY rfl ?_|refine bG rfl rfl ?_|refine ay rfl ?_|refine aB ?_|refine aF ?_)
        refine aW (ι := Nat) [2, 3, 11, 78, 79, 80, 81, 82, 83, 84, 85, 86, 87, 88, 89, 90, 91, 92, 93, 94, 95, 96, 97] (fun q => [(78, .int .i64 (q : Int))])
         (fun q w' => q ≤ k ∧ Ex w8 w' ∧ ∀ j, j < q → 0 ≤ F p j ∧ F p j < F p k) (fun q => k - q)
         0 ⟨rfl, trivial⟩ ⟨by omega, Ex.refl _, fun j h => by omega⟩ ?_
        rintro q ξ4 w9 ⟨hqk, hE9, hred⟩
        show CW _ _ _ _ (over [(78, .int .i64 (q : Int))] _) w9
        have hE79 := hE8.trans hE9
        have hE09 := hE07.trans hE79
        rcases Nat.lt_or_ge q k with hq | hq
        ·repeat' (first|refine bv rfl rfl (by omega) ?_|refine bj (j := q) (a := pa) rfl rfl hpp (by omega) ?_|refine bD (j := q) (a := pa) rfl (hS.ext hE79) hpp (by omega) ?_|refine aa ?_|refine aj ?_|refine ah rfl ?_|refine ae ?_|refine aC rfl ?_|refine aB ?_|refine aF ?_)
         refine aE (fun g11 w10 hn10 => ⟨fun _ _ => trivial, ?_⟩)
         have hb10 : Blk w10 g11 49 (intL false none 0 0) := hn10.blk
         refine au (n := 2) (vs := (hh q).cells) rfl rfl rfl rfl hb10 rfl (fun w11 hc11 hb11 => ⟨fun _ _ => trivial, ?_⟩)
         have hE911 : Ex w9 w11 := hn10.ex.chg hc11 hn10.lo
         have hE711 := hE79.trans hE911
         have hE011 := hE07.trans hE711
         repeat' (first|refine aa ?_|refine aj ?_|refine ae ?_)
         refine bn (late := []) (plan := [(0, none), (1, some true), (2, none), (3, none), (4, none), (5, none), (6, none), (7, none), (8, none), (9, none), (10, none), (11, none), (12, some true), (13, none), (14, none)]) (fun w' => Ex w11 w') bC (by kernel_rfl) (Ex.refl w11).drew ?_
         have hEd := (Ex.refl w11).drew
         repeat' (first|refine aR (g := g11) rfl (fun _ h => hb11.ext h) rfl ?_)
         refine aw (cB ((hEn q (by omega)).ext (hE711.trans hEd)).k) rfl ?_
         rintro v w12 ⟨rfl, hE12⟩
         refine ⟨fun _ h => h.trans hE12, ?_⟩
         have hEd12 := hEd.trans hE12
         by_cases hq0 : F p q < 0
         ·repeat' (first|refine bv rfl rfl (ef.2 hq0) ?_|refine ai rfl ?_|refine aa ?_|refine aj ?_|refine ah rfl ?_|refine ae ?_|refine bP rfl rfl ?_|refine aC rfl ?_|refine aK ?_|refine aX ?_|refine b6 ?_)
          exact cR rfl (rt rfl) (rt rfl) ⟨false, sd0, f, 0, rfl, fun h => (nomatch h), fun _ => hno (P := True) fun k' p' h h1 h2 => by have := h.red k h1 q hq; rw [h2] at this; omega, hE011.trans hEd12⟩
         ·have hsq : ¬ (F p q).sign < 0 := fun h => hq0 (ef.1 h)
          repeat' (first|refine bu rfl rfl (by omega) ?_|refine aR (g := g11) rfl (fun _ h => hb11.ext h) rfl ?_|refine aD (j := p) (a := a) rfl rfl hpt (by omega) ?_|refine aZ (j := p) (a := a) (n := r) (s := s) rfl (fun _ h => (hM.ext (hE011.trans h)).top) (by omega) e1 ?_|refine bj (j := k) (a := pa) rfl rfl hpp (by omega) ?_|refine bD (j := k) (a := pa) rfl (fun _ h => hS.ext (hE711.trans h)) hpp (by omega) ?_|refine ai rfl ?_|refine bG rfl rfl ?_)
          refine aw (iU ((hEn q (by omega)).ext (hE711.trans hEd12)).k ((hEn k (by omega)).ext (hE711.trans hEd12)).k) rfl ?_
          rintro v w13 ⟨rfl, hE13⟩
          refine ⟨fun _ h => h.trans hE13, ?_⟩
          have hE913 := hE911.trans (hEd12.trans hE13)
          by_cases hqm : F p q < F p k
          ·repeat' (first|refine sK rfl rfl (ef.2 (by omega)) ?_|refine ai rfl ?_|refine aa ?_|refine ah rfl ?_|refine ae ?_|refine bG rfl rfl ?_|refine bi rfl rfl (by omega) (by omega) ?_|refine ay rfl ?_|refine aJ ?_|refine aF ?_)
           refine ⟨⟨q + 1, ⟨hq, hE9.trans hE913, fun j hj => ?_⟩, by omega, rfl, trivial⟩, (by (repeat (first|exact aH _ _ _|refine ax rfl ?_|refine av rfl ?_|refine ak rfl ?_|refine ao rfl ?_)))⟩
           by_cases e : j = q
           ·subst e; exact ⟨by omega, hqm⟩
           ·exact hred j (by omega)
          ·have hsg2 : ¬ (F p q - F p k).sign < 0 := fun h => by have := ef.1 h; omega
           repeat' (first|refine rY rfl rfl (by omega) ?_|refine ai rfl ?_|refine aa ?_|refine aj ?_|refine ah rfl ?_|refine ae ?_|refine bG rfl rfl ?_|refine aC rfl ?_|refine aK ?_|refine aX ?_|refine b6 ?_)
           exact cR rfl (rt rfl) (rt rfl) ⟨false, sd0, f, 0, rfl, fun h => (nomatch h), fun _ => hno (P := True) fun k' p' h h1 h2 => by have := h.red k h1 q hq; rw [h2] at this; omega, hE09.trans hE913⟩
        ·have eqk : q = k := by omega
         subst eqk
         repeat' (first|refine bu rfl rfl (by omega) ?_|refine ai rfl ?_|refine aa ?_|refine aj ?_|refine ah rfl ?_|refine ae ?_|refine ay rfl ?_|refine aS ?_|refine aL ?_|refine aT ?_)
         have hN9 := hN7.ext hE79
         refine lQ (E := 3) (lo := w1.heap.size) (u := p) rfl rfl rfl hN9 (by omega) (by omega) (by have := hE17.size; have := hE79.size; omega) ?_
         intro gt s2' f2 w10 hN10 hf1 hf2 hG10 hA10
         repeat' (first|refine ai rfl ?_|refine aa ?_|refine ah rfl ?_|refine ae ?_|refine bi rfl rfl (by omega) (by omega) ?_|refine aJ ?_)
         exact ⟨⟨((q + 1, s2'), f2, q + 1), ⟨⟨hcc, (hE17.trans hE79).gb hG10 (fun g e => (NatG.blk hN9 g e).1)⟩, hN10, hF.snoc hf1 hf2 hp hz hpos hmo hred⟩, by simp only; omega, rfl, rfl, trivial⟩, (by (repeat (first|exact aH _ _ _|refine ax rfl ?_|refine av rfl ?_|refine ak rfl ?_|refine ao rfl ?_)))⟩
      ·have hng : F p k < 0 := by omega
       repeat' (first|refine fz rfl rfl (by omega) ?_|refine dq rfl rfl (by omega) ?_|(refine aD (j := k - 1) (a := sd.a) rfl (show Value.int .i64 ((k : Int) - 1) = .int .i64 ((k - 1 : Nat) : Int) by congr 1; omega) (hsl.plain (by simp; omega)) (by omega) ?_)|(refine bE (j := k - 1) (xs := (List.range k).map f) rfl hsl (by simp; omega) ?_)|(refine nU rfl rfl (by rw [dM _ (by omega)]; have := hmo (k - 1) (by omega); omega) ?_)|refine aD (j := p) (a := a) rfl rfl hpt (by omega) ?_|refine aZ (j := p) (a := a) (n := r) (s := s) rfl (hM.ext hE07).top (by omega) e1 ?_|refine bj (j := k) (a := pa) rfl rfl hpp (by omega) ?_|refine bD (j := k) (a := pa) rfl hS hpp (by omega) ?_|refine ai rfl ?_|refine aa ?_|refine aj ?_|refine ah rfl ?_|refine ae ?_|refine aY rfl ?_|refine bG rfl rfl ?_|refine bP rfl rfl ?_|refine em rfl rfl (fun hc => ?_) (fun hc => ?_)|refine cM rfl rfl (by omega) (by omega) ?_|refine ay rfl ?_|refine aF ?_)
       all_goals
        refine aw (cB (hEn k (by omega)).k) rfl ?_
        rintro v w8 ⟨rfl, hE8⟩
        refine ⟨fun _ _ => trivial, ?_⟩
        repeat' (first|refine bv rfl rfl (ef.2 hng) ?_|refine ai rfl ?_|refine aa ?_|refine aj ?_|refine ah rfl ?_|refine ae ?_|refine bG rfl rfl ?_|refine aC rfl ?_|refine aK ?_|refine aX ?_|refine b6 ?_)
        exact cR rfl (rt rfl) (rt rfl) ⟨false, sd0, f, 0, rfl, fun h => (nomatch h), fun _ => hno (P := True) fun k' p' h h1 h2 => by have := h.pos k h1; rw [h2] at this; omega, hE07.trans hE8⟩
     ·obtain ⟨i, hik, hip⟩ : ∃ i, i < k ∧ p ≤ f i := by
       refine Classical.byContradiction fun h => hmo fun i hi => ?_
       refine Classical.byContradiction fun h' => h ⟨i, hi, by omega⟩
      have hfk : p ≤ f (k - 1) := by
       by_cases e : i = k - 1
       ·rw [← e]; exact hip
       ·have := hF.mono i (k - 1) (by omega) (by omega); omega
      repeat' (first|refine fz rfl rfl (by omega) ?_|refine dq rfl rfl (by omega) ?_|refine qm rfl rfl (by omega) ?_|(refine aD (j := k - 1) (a := sd.a) rfl (show Value.int .i64 ((k : Int) - 1) = .int .i64 ((k - 1 : Nat) : Int) by congr 1; omega) (hsl.plain (by simp; omega)) (by omega) ?_)|(refine bE (j := k - 1) (xs := (List.range k).map f) rfl hsl (by simp; omega) ?_)|(refine nD rfl rfl (by rw [dM _ (by omega)]; omega) ?_)|refine ai rfl ?_|refine aa ?_|refine aj ?_|refine ah rfl ?_|refine ae ?_|refine aY rfl ?_|refine bG rfl rfl ?_|refine bP rfl rfl ?_|refine cM rfl rfl (by omega) (by omega) ?_|refine aC rfl ?_|refine ay rfl ?_|refine aK ?_|refine aX ?_|refine b6 ?_|refine aF ?_)
      exact cR rfl (rt rfl) (rt rfl) ⟨false, sd0, f, 0, rfl, fun h => (nomatch h), fun _ => hno (P := True) fun k' p' h h1 h2 => by
       have h3 := (h.piv (c := i) (q := f i) (by omega) (hF.lt i hik) (fun x hx => hF.zero i hik x hx) (by have := hF.pos i hik; omega)).2
       have := h.mono i k hik h1
       omega, hE07⟩
    ·have hkl : k < c0 := by have := hF.kc; omega
     repeat' (first|refine fz rfl rfl (by omega) ?_|refine eQ rfl rfl (by omega) ?_|refine ai rfl ?_|refine aa ?_|refine aj ?_|refine ah rfl ?_|refine ae ?_|refine aY rfl ?_|refine bP rfl rfl ?_|refine aC rfl ?_|refine ay rfl ?_|refine aK ?_|refine aX ?_|refine b6 ?_|refine aF ?_)
     refine cR rfl (rt rfl) (rt rfl) ⟨false, sd0, f, 0, rfl, fun h => (nomatch h), fun _ => ?_, hE07⟩
     rintro ⟨k', p', h⟩
     have h1 := (hend k' p' h).1
     have h2 := h.pos k (by omega)
     rw [hF.rest k (Nat.le_refl _) hkl _ (h.lt k (by omega))] at h2
     omega
   ·have epr : p = r := by omega
    subst epr
    repeat' (first|refine gQ rfl rfl rfl ?_|refine ai rfl ?_|refine aa ?_|refine aj ?_|refine ah rfl ?_|refine ae ?_|refine bi rfl rfl (by omega) (by omega) ?_|refine aC rfl ?_|refine aS ?_|refine aL ?_|refine aT ?_)
    exact ⟨⟨((c0 + 1, sd), f, k), ⟨⟨hcc, hE17⟩, hN7, hF.zcol hz⟩, by simp only; omega, rfl, rfl, trivial⟩, (by (repeat (first|exact aH _ _ _|refine ax rfl ?_|refine av rfl ?_|refine ak rfl ?_|refine ao rfl ?_)))⟩
 ·have ecc : c0 = c := by omega
  subst ecc
  repeat' (first|refine bu rfl rfl (by omega) ?_|refine ai rfl ?_|refine aa ?_|refine aj ?_|refine ah rfl ?_|refine ae ?_|refine ay rfl ?_|refine aS ?_|refine aL ?_|refine aT ?_|refine aK ?_)
  exact cR rfl (rt rfl) (rt rfl) ⟨true, sd, f, k, rfl, fun _ => ⟨NatG.mono hN2 s1, hF⟩, fun h => (nomatch h), hE02⟩
end Go.Proofs.Ytiejljicpinheaa
namespace Go.W
section
variable {P : Program} {S : World → Prop} {ops : List Oper} {K : Env → World → Prop} {rest : List (Oper × Option Bool)} {ρ : Env} {w : World} {b : Option Bool} {kf kf1 kf2 : Bool} {d : Nat} {dst : Option Nat} {T T' : TypeId} {pos : String} {af : Array Edge}
theorem oO {T1 E y n d1 t lo : Nat} {x : Operand} {s : SD} {f : Nat → IH} {u : IH} {T2 : TypeId} {pos2 : String} {af2 : Array Edge} [hT : Slc P T1 E 2 y] [hz : Zro P E (.agg #[.bool false, .slice none 0 0])]
  (hs : ρ t = .slice s.a s.len s.cap) (hx : ev ρ x = u.val) (htd : Nat.beq t d1 = false)
  (hS : ∀ w1 w2, w1.grownBy w2 (Value.slice s.a s.len s.cap).ownBlock → S w1 → S w2)
  (hR : RowG w lo E n s f) (hm : n + 1 ≤ 9223372036854775807) (hb : (n + 1) * y ≤ 140737488355328) (hlo : lo ≤ w.heap.size)
  (h : ∀ g s' f' w', RowG w' lo E (n + 1) s' f' → (∀ i, i < n → f' i = f i) → f' n = u → w.grownBy w' (Value.slice s.a s.len s.cap).ownBlock → (s'.a = s.a ∨ ∀ x, s'.a = some x → w.heap.size ≤ x.block) →
   RR P S ops K rest (upd (upd ρ d1 (.slice (some ⟨g, 0, none⟩) 1 1)) d (.slice s'.a s'.len s'.cap)) w') :
  RR P S ops K ((⟨some d1, .buildSlice T1 1 #[(0, x)], T2, pos2, af2, none⟩, some kf1) :: (⟨some d, .call ⟨.builtin .append, #[.tmp t, .tmp d1], #[T1, T1]⟩, T, pos, af, none⟩, some kf2) :: rest) ρ w := by
 refine dz (E := E) (s := 2) (z := .agg #[.bool false, .slice none 0 0]) (cs := u.val.cells) rfl ?_ (fun g w1 hn => ⟨fun _ hh => hS _ _ ⟨(kA hn.ex).os, (kA hn.ex).tape, (kA hn.ex).output, (kA hn.ex).size, fun k hk _ => (kA hn.ex).block k hk (by simp)⟩ hh, ?_⟩)
 ·simp only [List.map_toArray, List.map_cons, List.map_nil, hx]
  exact f9 (s := 2) rfl (by simp)
 ·refine df rfl ?_
  unfold OpW
  obtain ⟨i0, hi0, hzz⟩ := Option.map_eq_some_iff.1 hT.sz
  simp only [Prod.mk.injEq] at hzz
  obtain ⟨i1, hi1, hz1⟩ := Option.map_eq_some_iff.1 hz.ok
  rw [hi0] at hi1
  simp only [Option.some.injEq] at hi1
  subst hi1
  have hsz := hn.ex.size
  have hcs : u.val.cells.toList = u.cells := rfl
  obtain ⟨s', w', f', hr, h1, h2, h3, h4, h5⟩ := jh (P := P) (ty := T) hT.un hi0 hz1 hzz.1 hzz.2 (hR.ext hn.ex) (hcs ▸ hn.blk.sl) hm hb (by omega)
  have e1 : ev (upd ρ d1 (.slice (some ⟨g, 0, none⟩) 1 1)) (.tmp t) = .slice s.a s.len s.cap := by
   show upd ρ d1 _ t = _
   simp only [upd, htd, cond_false, hs]
  have e2 : ev (upd ρ d1 (.slice (some ⟨g, 0, none⟩) 1 1)) (.tmp d1) = .slice (some ⟨g, 0, none⟩) 1 1 := by
   show upd ρ d1 _ d1 = _
   rw [eE]
  have : (execOp (ev (upd ρ d1 (.slice (some ⟨g, 0, none⟩) 1 1))) ⟨some d, .call ⟨.builtin .append, #[.tmp t, .tmp d1], #[T1, T1]⟩, T, pos, af, none⟩).run P w1 = .ok (.value (.slice s'.a s'.len s'.cap)) w' := by
   simp [execOp, resolve, invoke, builtin, e1, e2, hr]
  rw [this]
  refine ⟨fun _ hh => hS _ _ h4 hh, h g s' f' w' h1 h2 h3 ?_ (h5.imp id fun hh x hx => by have := hh x hx; omega)⟩
  exact ⟨h4.os.trans hn.ex.os, h4.tape.trans hn.ex.tape, h4.output.trans hn.ex.output, by have := h4.size; omega,
   fun k hk hne => (h4.block k (by omega) hne).trans (hn.ex.block k hk)⟩
end
end Go.W
namespace Go.Proofs.Ytiejljicpinheaa
open Go.W Go.LM Go.LA
structure GR (cn : Bool) (K : Nat) (w : World) (lo g r n i j : Nat) (gs cap : Nat → Nat) (F : Nat → Nat → Int) (sd : SD) (h : Nat → IH) : Prop where
 low : lo ≤ g
 top : Blk w g 30 (topC r (setF (fun k => if k < i then ⟨some ⟨gs k, 0, none⟩, n, cap k⟩ else sd0) i sd))
 row : ∀ k, k < i → RO cn K w lo (gs k) (cap k) n (F k)
 off : ∀ k, k < i → gs k ≠ g
 inj : ∀ k l, k < i → l < i → gs k = gs l → k = l
 cur : RowG w lo 49 j sd h
 ent : ∀ l, l < j → Ent cn K w (h l).val (F i l)
 new : ∀ ad, sd.a = some ad → ad.block ≠ g ∧ ∀ k, k < i → gs k ≠ ad.block
section
variable {cn : Bool} {K r n lo g i j : Nat} {w w' w'' : World} {gs cap : Nat → Nat} {F F' : Nat → Nat → Int} {sd sd' : SD} {h h' : Nat → IH}
theorem GR.start (hP : MP cn K w lo g r n i gs cap F) : GR cn K w lo g r n i 0 gs cap F sd0 h :=
 ⟨hP.low, by
  rw [bV (s' := fun k => if k < i then (⟨some ⟨gs k, 0, none⟩, n, cap k⟩ : SD) else sd0) (fun k _ => ?_)]
  ·exact hP.top
  ·by_cases e : k = i
   ·subst e; rw [aN, if_neg (Nat.lt_irrefl k)]
   ·rw [aQ _ _ e], hP.row, hP.off, hP.inj, RowG.nil _ _ _ _, fun l hl => by omega, fun ad e => by cases e⟩
theorem GR.ext (hG : GR cn K w lo g r n i j gs cap F sd h) (e : Ex w w') : GR cn K w' lo g r n i j gs cap F sd h :=
 ⟨hG.low, hG.top.ext e, fun k hk => (hG.row k hk).ext e, hG.off, hG.inj, RowG.ext hG.cur e, fun l hl => (hG.ent l hl).ext e, hG.new⟩
theorem RowG.bk {E : Nat} (hR : RowG w lo E j sd h) : ∀ q, (Value.slice sd.a sd.len sd.cap).ownBlock = some q → lo ≤ q ∧ (∃ ad, sd.a = some ad ∧ ad.block = q) ∧ Blk w q E (rowC sd.cap h) := by
 intro q e
 rcases hR.2 with ⟨h0, _⟩ | ⟨g', h1, h2, h3, h4, h5⟩
 ·rw [h0] at e; cases e
 ·rw [h1] at e; cases e; exact ⟨h2, ⟨_, h1, rfl⟩, h5⟩
theorem Ent.gbR {E : Nat} {v : Value} {z : Int} (hE : Ent cn K w v z) (hR : RowG w lo E j sd h) (hg : w.grownBy w' (Value.slice sd.a sd.len sd.cap).ownBlock) : Ent cn K w' v z := by
 rcases hR.2 with ⟨h0, _⟩ | ⟨g', h1, h2, h3, h4, h5⟩
 ·rw [h0] at hg
  exact hE.ext ⟨hg.os, hg.tape, hg.output, hg.size, fun k hk => hg.block k hk (by simp [Value.ownBlock])⟩
 ·rw [h1] at hg
  exact hE.gbN h5 (bI _ _) hg
theorem GR.topB (hG : GR cn K w lo g r n i j gs cap F sd h) (hg : w.grownBy w' (Value.slice sd.a sd.len sd.cap).ownBlock) : Blk w' g 30 (topC r (setF (fun k => if k < i then ⟨some ⟨gs k, 0, none⟩, n, cap k⟩ else sd0) i sd)) :=
 hG.top.gb hg (fun e => by
  obtain ⟨_, ⟨ad, e1, e2⟩, _⟩ := RowG.bk hG.cur _ e
  exact (hG.new ad e1).1 e2)
theorem GR.app {u : IH} (hG : GR cn K w lo g r n i j gs cap F sd h) (hR : RowG w' lo 49 (j + 1) sd' h') (h1 : ∀ l, l < j → h' l = h l) (h2 : h' j = u) (hg : w.grownBy w' (Value.slice sd.a sd.len sd.cap).ownBlock)
  (hA : sd'.a = sd.a ∨ ∀ x, sd'.a = some x → w.heap.size ≤ x.block) (hu : Ent cn K w u.val (F i j)) (hc : Chg g w' w'') (hT : Blk w'' g 30 (topC r (setF (setF (fun k => if k < i then ⟨some ⟨gs k, 0, none⟩, n, cap k⟩ else sd0) i sd) i sd'))) :
  GR cn K w'' lo g r n i (j + 1) gs cap F sd' h' := by
 have hB := hG.topB hg
 have hnw : ∀ ad, sd'.a = some ad → ad.block ≠ g ∧ ∀ k, k < i → gs k ≠ ad.block := fun ad e => by
  rcases hA with h | h
  ·exact hG.new ad (by rw [← h]; exact e)
  ·have h3 := h ad e
   refine ⟨fun e' => ?_, fun k hk e' => ?_⟩
   ·have := hG.top.lt; omega
   ·have := (hG.row k hk).lt; omega
 refine ⟨hG.low, ?_, fun k hk => ?_, hG.off, hG.inj, hR.gb (bp hc) (fun ad e e' => (hnw ad e).1 (by cases e'; rfl)), fun l hl => ?_, hnw⟩
 ·rw [bV (s' := setF (setF (fun k => if k < i then (⟨some ⟨gs k, 0, none⟩, n, cap k⟩ : SD) else sd0) i sd) i sd') (fun k _ => ?_)]
  ·exact hT
  ·by_cases e : k = i
   ·subst e; rw [aN, aN]
   ·rw [aQ _ _ e, aQ _ _ e, aQ _ _ e]
 ·refine RO.gbN ?_ hB (bW _ _) (bp hc) (hG.off k hk)
  rcases hG.cur.2 with ⟨h0, _⟩ | ⟨g', e1, e2, e3, e4, e5⟩
  ·rw [h0] at hg
   exact (hG.row k hk).ext ⟨hg.os, hg.tape, hg.output, hg.size, fun k hk => hg.block k hk (by simp [Value.ownBlock])⟩
  ·rw [e1] at hg
   exact (hG.row k hk).gbN e5 (bI _ _) hg ((hG.new _ e1).2 k hk)
 ·refine Ent.gbN ?_ hB (bW _ _) (bp hc)
  by_cases e : l = j
  ·subst e; rw [h2]; exact hu.gbR hG.cur hg
  ·rw [h1 l (by omega)]; exact (hG.ent l (by omega)).gbR hG.cur hg
theorem GR.fin (hG : GR cn K w lo g r n i n gs cap F sd h) (hn : 0 < n) : ∃ gs' cap', MP cn K w lo g r n (i + 1) gs' cap' F := by
 obtain ⟨hl, h0 | ⟨g3, e1, e2, e3, e4, e5⟩⟩ := hG.cur
 ·omega
 ·obtain ⟨a, l, c⟩ := sd
  simp only at hl e1 e3 e4 e5
  subst e1; subst hl
  have hnw := hG.new _ rfl
  simp only at hnw
  refine ⟨setF gs i g3, setF cap i c, hG.low, ?_, fun k hk => ?_, fun k hk => ?_, fun k m hk hm he => ?_⟩
  ·rw [bV (s' := setF (fun k => if k < i then (⟨some ⟨gs k, 0, none⟩, l, cap k⟩ : SD) else sd0) i ⟨some ⟨g3, 0, none⟩, l, c⟩) (fun k _ => ?_)]
   ·exact hG.top
   ·by_cases e : k = i
    ·subst e; rw [aN, if_pos (Nat.lt_succ_self _), aN, aN]
    ·rw [aQ _ _ e, aQ _ _ e, aQ _ _ e]
     by_cases h' : k < i
     ·rw [if_pos h', if_pos (by omega)]
     ·rw [if_neg h', if_neg (by omega)]
  ·by_cases e : k = i
   ·subst e; rw [aN, aN]; exact ⟨e2, e3, h, e5, hG.ent⟩
   ·rw [aQ _ _ e, aQ _ _ e]; exact hG.row k (by omega)
  ·by_cases e : k = i
   ·subst e; rw [aN]; exact fun e' => hnw.1 e'
   ·rw [aQ _ _ e]; exact hG.off k (by omega)
  ·by_cases e1 : k = i
   ·by_cases e2 : m = i
    ·omega
    ·subst e1; rw [aN, aQ _ _ e2] at he; exact absurd he.symm (hnw.2 m (by omega))
   ·by_cases e2 : m = i
    ·subst e2; rw [aN, aQ _ _ e1] at he; exact absurd he (hnw.2 k (by omega))
    ·rw [aQ _ _ e1, aQ _ _ e2] at he; exact hG.inj k m (by omega) (by omega) he
end
end Go.Proofs.Ytiejljicpinheaa
