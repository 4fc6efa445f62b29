import Derived.Test.YtppipmkpmmdcjaaGreatA13
namespace Go.Proofs.YtppipmkpmmdcjaaGreat
open Go.W Go.LM Go.LA
theorem sw {n : Nat} (hn : 1 ≤ n) (A : Mat) : ∀ i j, i < n → j < n → mm n A (fun i j => Go.LA.sgn (n + 1) * flP n A (n - 1) i j) i j = det n A * idM i j := fun i j hi hj => by
 have h := uT hn A hi hj
 have e : mm n A (fun i j => Go.LA.sgn (n + 1) * flP n A (n - 1) i j) i j = Go.LA.sgn (n + 1) * mm n A (flP n A (n - 1)) i j := by
  unfold mm
  rw [← cj]
  exact aX fun k _ => by rw [← Int.mul_assoc, Int.mul_comm (A i k), Int.mul_assoc]
 rw [e, h, ← Int.mul_assoc, ← Int.mul_assoc, rP, Int.one_mul]
theorem tN {c : Nat} {W H U D : Mat} (hd : det c W ≠ 0) (hU : CEq c c W H U) (hD : ∀ i j, i < c → j < c → mm c W D i j = det c W * idM i j) : ∀ i j, i < c → j < c → mm c D H i j = det c W * U i j := fun i j hi hj => by
 have h1 : ∀ r, r < c → mm c W (mm c D H) r j = det c W * H r j := fun r hr => by
  rw [← cM]
  have : mm c (mm c W D) H r j = mm c (fun i j => det c W * idM i j) H r j := cC (fun k hk => hD r k hr hk) fun _ _ => rfl
  rw [this]
  have e : mm c (fun i j => det c W * idM i j) H r j = det c W * mm c idM H r j := by
   unfold mm; rw [← cj]; exact aX fun k _ => by rw [Int.mul_assoc]
  rw [e, oa H r j hr]
 have h2 := m4 hd (x := fun l => mm c D H l j - det c W * U l j) (fun r hr => by
  have e : (sm c fun l => W r l * (mm c D H l j - det c W * U l j)) = mm c W (mm c D H) r j - det c W * mm c W U r j := by
   unfold mm; rw [← cj, ← gU]
   exact aX fun l _ => by grind
  rw [e, h1 r hr, ← hU.2 r j hr hj]; omega) hi
 omega
theorem ip (n : Nat) (f : Nat → Nat) : natC n f = natsL ((List.range n).map f) := by simp [natC, Function.comp_def]
set_option maxHeartbeats 4000000 in
theorem k8 {K r c gp : Nat} {w : World} {s0 : Nat → SD} {P : Mat} (hT : Blk w gp 27 (topC c s0)) (hX : ∀ j, j < c → RX false K w (s0 j) (r + c) (fun x => P x j)) (hr : 1 ≤ r ∧ r ≤ 16) (hc : 1 ≤ c ∧ c ≤ 16) (hK1 : 1 ≤ K) (hK : 300 * K + 1000 < 4398046511104)
  (hP : ∀ j b, j < c → b < c → P (r + j) b = idM j b) :
  CallsR Tryz.prog 44 #[.agg (pairL gp c r).toArray] w fun _ w' => ∃ (gs cp : Nat → Nat) (U : Mat) (l : Nat → Nat), w.grownBy w' (some gp) ∧ Blk w' gp 27 (topC c fun j => ⟨some ⟨gs j, 0, none⟩, r + c, cp j⟩) ∧
   (∀ j, j < c → RO true (34 * K + 100) w' w.heap.size (gs j) (cp j) (r + c) (fun x => mm c P U x j)) ∧ Uni c U ∧ HF (r + c) c (mm c P U) c l := by
 refine aH (args := [_]) Tryz.func44 rfl rfl ?_
 refine aj ?_
 refine ah rfl ?_
 refine bH (vs := pairL gp c r) rfl (fun g1 w1 hn1 => ⟨fun _ _ => trivial, ?_⟩)
 have hb1 := hn1.blk
 have hE1 := hn1.ex
 repeat' (first|refine aa ?_|refine aj ?_|refine ae ?_)
 refine bi (late := []) (plan := [(0, none), (1, none), (2, none), (3, some true), (4, some true), (5, none)]) (fun w' => Ex w1 w') bB (by kernel_rfl) (Ex.refl w1).drew ?_
 have hEd := (Ex.refl w1).drew
 repeat' (first|refine aQ (g := g1) rfl (fun _ h => hb1.ext h) rfl ?_|refine aN (g := g1) rfl (fun _ h => hb1.ext h) rfl ?_|refine aG rfl ?_)
 refine av (jz (hT.ext (hE1.trans hEd)) (fun j hj => (hX j hj).ext (hE1.trans hEd)) hr hc hK1 (by omega) hP) rfl ?_
 rintro v w2 ⟨sd, f, V, rfl, hN2, hJ, hE2⟩
 refine ⟨fun _ h => h.trans hE2, ?_⟩
 have hE02 := (hE1.trans hEd).trans hE2
 skip
 have hl2 := hN2.sl
 rw [ip] at hl2
 have hlen := hN2.1
 have hfd : ∀ i, i < c → ((List.range c).map f).getD i 0 = f i := fun i hi => by simp [List.getD_eq_getElem?_getD, hi]
 have hlt : ∀ i, i < c → f i < r + c := hJ.lt
 rw [hlen]
 refine av (gc (by simp) (hT.ext hE02).sl (fun j hj => (hX j hj).ext hE02) hl2 hc.1 hc.2 (by omega) (fun i hi => by rw [hfd i hi]; exact hlt i hi)) rfl ?_
 rintro v w3 ⟨gw, gsw, cpw, rfl, hO3, hE3⟩
 refine ⟨fun _ h => h.trans hE3, ?_⟩
 have hE03 := hE02.trans hE3
 replace hO3 := hO3.congr (F' := fun i j => P (f i) j) (fun i j hi _ => by rw [hfd i hi])
 have hd0 := hJ.det
 repeat' (first|refine ai rfl ?_|refine aa ?_|refine aj ?_|refine ah rfl ?_|refine ae ?_)
 refine av (mw hO3.mx hc (by omega)) rfl ?_
 rintro v w4 ⟨_, rfl, hI4, hE4⟩
 refine ⟨fun _ _ => trivial, ?_⟩
 obtain ⟨xd, rfl⟩ := hI4.ih
 have hE04 := hE03.trans hE4
 generalize hW : (fun i j => P (f i) j) = W at *
 have ld : Lb (17 * K + 20) (det c W) := (Lb.det (fun r' c' hr' hc' => hO3.mx.lb hr' hc') (by omega)).mono (by
  have : (K + 1) * c ≤ (K + 1) * 16 := Nat.mul_le_mul_left _ hc.2
  omega)
 repeat' (first|refine aS rfl rfl ?_|refine ai rfl ?_)
 refine aB (fun g3 w5 hn5 => ⟨fun _ _ => trivial, ?_⟩)
 have hb5 : Blk w5 g3 33 (intL false none 0 0) := hn5.blk
 refine ax (n := 2) (vs := xd.cells) rfl rfl rfl rfl hb5 rfl (fun w6 hc6 hb6 => ⟨fun _ _ => trivial, ?_⟩)
 have s4 := hE04.size
 have lo5 := hn5.lo
 have lo3 := hO3.low
 have hE06 : Ex w w6 := (hE04.trans hn5.ex).chg hc6 (by omega)
 have hE36 : Ex w3 w6 := (hE4.trans hn5.ex).chg hc6 (by have := hE4.size; omega)
 have hO6 := hO3.ext hE36
 have hd6 : Ent true (17 * K + 20) w6 xd.val (det c W) := (Ent.of (hI4.ext hn5.ex) ld).gbN hb5 (aI _ _ _ _) (bG hc6)
 repeat' (first|refine ai rfl ?_|refine aa ?_|refine aj ?_|refine ah rfl ?_|refine ae ?_)
 refine av (k6 hO6.mx hc (by omega)) rfl ?_
 rintro v w7 ⟨_, rfl, ga, gsa, cpa, rfl, hO7, hE7⟩
 refine ⟨fun _ _ => trivial, ?_⟩
 have hb7 := hb6.ext hE7
 have hO6' := (hO6.ext hE7).mx.up (K' := 17 * K + 20) (by omega)
 repeat' (first|refine aS rfl rfl ?_|refine aN (g := g3) rfl hb7 rfl ?_|refine ai rfl ?_|refine aa ?_|refine aj ?_|refine ah rfl ?_|refine ae ?_)
 refine av (j5 hO6' hc (hd6.ext hE7) hd0 (by omega) (by omega)) rfl ?_
 rintro v w8 ⟨H, hH, gh, gsh, cph, rfl, hO8, hE8⟩
 refine ⟨fun _ _ => trivial, ?_⟩
 refine av (mr (hO7.ext hE8).mx hO8.mx hc hc hc (by omega)) rfl ?_
 rintro v w9 ⟨_, rfl, gu, gsu, cpu, rfl, hO9, hE9⟩
 refine ⟨fun _ _ => trivial, ?_⟩
 obtain ⟨U, hU⟩ := hH.ceq
 have hdiv := tN hd0 hU (sw hc.1 W)
 generalize mm c (fun i j => Go.LA.sgn (c + 1) * flP c W (c - 1) i j) H = M at hO9 hdiv
 generalize hKM : 16 * K + 64 + (17 * K + 20) + 1 = KM at hO9
 have hE69 := (hE7.trans hE8).trans hE9
 have hb8 := hb6.ext (hE7.trans hE8)
 have hd8 := hd6.ext (hE7.trans hE8)
 have hE08 := hE06.trans (hE7.trans hE8)
 have hE09 := hE06.trans hE69
 have lM : ∀ i j, i < c → j < c → Lb KM (M i j) := fun i j hi hj => hO9.mx.lb hi hj
 have lg3 : g3 < w8.heap.size := by have := hb6.lt; have := (hE7.trans hE8).size; omega
 repeat' (first|refine aS rfl rfl ?_|refine ai rfl ?_|refine aa ?_|refine aj ?_|refine ah rfl ?_|refine ae ?_|refine bh rfl ?_|refine aA ?_)
 refine aY (ι := Nat) [10, 11, 12, 38, 39, 40, 41, 42, 43, 44, 45, 46, 47, 48, 49, 50, 51, 52, 53, 54, 55, 56, 57, 58, 59, 60] (fun i => [(38, .int .i64 (i : Int))])
  (fun i w' => i ≤ c ∧ Ex w8 w' ∧ MO true KM w' w8.heap.size gu c c gsu cpu (fun a b => if a < i then M a b / det c W else M a b)) (fun i => c - i)
  0 ⟨rfl, trivial⟩ ⟨by omega, hE9, hO9.congr fun a b _ _ => if_neg (by omega)⟩ ?_
 clear hO9 hE9
 rintro i ξ w10 ⟨hi, hE10, hO10⟩
 show CW _ _ _ _ (over [(38, .int .i64 (i : Int))] _) w10
 rcases Nat.lt_or_ge i c with hic | hic
 ·repeat' (first|refine bC rfl rfl (by omega) ?_|refine aC (j := i) (a := some ⟨gu, 0, none⟩) rfl rfl ⟨_, _, rfl⟩ (by omega) ?_|refine aU (j := i) (a := some ⟨gu, 0, none⟩) (n := c) (s := fun k => ⟨some ⟨gsu k, 0, none⟩, c, cpu k⟩) rfl hO10.top.sl (by omega) rfl ?_|refine ai rfl ?_|refine aa ?_|refine aj ?_|refine ah rfl ?_|refine ae ?_|refine bh rfl ?_|refine aD rfl ?_|refine aA ?_|refine aF ?_)
  refine aY (ι := Nat) [11, 12, 44, 45, 46, 47, 48, 49, 50, 51, 52, 53, 54, 55, 56, 57, 58, 59] (fun j => [(44, .int .i64 (j : Int))])
   (fun j w' => j ≤ c ∧ Ex w8 w' ∧ MO true KM w' w8.heap.size gu c c gsu cpu (fun a b => if a < i ∨ (a = i ∧ b < j) then M a b / det c W else M a b)) (fun j => c - j)
   0 ⟨rfl, trivial⟩ ⟨by omega, hE10, hO10.congr fun a b _ _ => by
    by_cases h : a < i
    ·rw [if_pos h, if_pos (.inl h)]
    ·rw [if_neg h, if_neg (by omega)]⟩ ?_
  clear hO10 hE10
  rintro j ξ2 w11 ⟨hj, hE11, hO11⟩
  show CW _ _ _ _ (over [(44, .int .i64 (j : Int))] _) w11
  rcases Nat.lt_or_ge j c with hjc | hjc
  ·obtain ⟨hh, hbr, hcr, hEr⟩ := hO11.get hic
   have eij := hEr j hjc
   rw [if_neg (by omega)] at eij
   repeat' (first|refine bC rfl rfl (by omega) ?_|refine aT (j := j) (a := some ⟨gsu i, 0, none⟩) rfl rfl ⟨_, _, rfl⟩ (by omega) ?_|refine bu (j := j) (n := cpu i) (a := some ⟨gsu i, 0, none⟩) rfl hbr.sl ⟨_, _, rfl⟩ (by omega) ?_|refine ai rfl ?_|refine aa ?_|refine aj ?_|refine ah rfl ?_|refine ae ?_|refine aD rfl ?_|refine aA ?_|refine aF ?_)
   refine aB (fun g12 w12 hn12 => ⟨fun _ _ => trivial, ?_⟩)
   have hb12 : Blk w12 g12 33 (intL false none 0 0) := hn12.blk
   repeat' (first|refine ai rfl ?_)
   refine ax (n := 2) (vs := (hh j).cells) rfl rfl rfl rfl hb12 rfl (fun w13 hc13 hb13 => ⟨fun _ _ => trivial, ?_⟩)
   have hE1113 : Ex w11 w13 := hn12.ex.chg hc13 hn12.lo
   have hE813 := hE11.trans hE1113
   have hb313 := hb8.ext hE813
   have hd13 := hd8.ext hE813
   repeat' (first|refine aN (g := g12) rfl hb13 rfl ?_|refine aN (g := g3) rfl hb313 rfl ?_|refine ai rfl ?_|refine aa ?_|refine ah rfl ?_|refine ae ?_)
   refine av (bn (eij.ext hE1113).k hd13.k (by omega) (by omega)) rfl ?_
   rintro v w14 ⟨q, rm, rfl, hq, hrm, hE14⟩
   refine ⟨fun _ _ => trivial, ?_⟩
   obtain ⟨xq, rfl⟩ := hq.ih
   have hE1114 := hE1113.trans hE14
   have hbr14 := hbr.ext hE1114
   repeat' (first|refine aS rfl rfl ?_|refine aT (j := j) (a := some ⟨gsu i, 0, none⟩) rfl rfl ⟨_, _, rfl⟩ (by omega) ?_|refine ai rfl ?_)
   refine ch (j := j) (n := cpu i) (u := xq) rfl rfl hbr14 (by omega) (fun w15 hc15 hb15 => ⟨fun _ _ => trivial, ?_⟩)
   repeat' (first|refine ai rfl ?_|refine aa ?_|refine ah rfl ?_|refine ae ?_|refine aZ rfl rfl (by omega) (by omega) ?_|refine aK ?_)
   refine ⟨⟨j + 1, ⟨hjc, (hE11.trans hE1114).chg hc15 (hO11.row i hic).low, ((hO11.ext hE1114).put hic hbr14 (fun j hj => (hEr j hj).ext hE1114) (Ent.of hq ((lM i j hic hjc).div _)) hc15 hb15).congr fun a b _ _ => ?_⟩, by omega, rfl, trivial⟩, (by (repeat (first|exact aE _ _ _|refine aw rfl ?_|refine au rfl ?_|refine ak rfl ?_|refine ao rfl ?_)))⟩
   unfold setM
   by_cases h : a = i ∧ b = j
   ·rw [if_pos h, if_pos (by omega), h.1, h.2]
   ·rw [if_neg h]
    show _ = if a < i ∨ (a = i ∧ b < j) then _ else M a b
    by_cases h' : a < i ∨ (a = i ∧ b < j)
    ·rw [if_pos h', if_pos (by omega)]
    ·rw [if_neg h', if_neg (by omega)]
  ·have ejc : c = j := by omega
   subst ejc
   repeat' (first|refine bA rfl rfl (by omega) ?_|refine ai rfl ?_|refine aa ?_|refine aj ?_|refine ah rfl ?_|refine ae ?_|refine aZ rfl rfl (by omega) (by omega) ?_|refine ay rfl ?_|refine aV ?_|refine aL ?_|refine aW ?_|refine aK ?_)
   refine ⟨⟨i + 1, ⟨hic, hE11, hO11.congr fun a b _ hb => ?_⟩, by omega, rfl, trivial⟩, (by (repeat (first|exact aE _ _ _|refine aw rfl ?_|refine au rfl ?_|refine ak rfl ?_|refine ao rfl ?_)))⟩
   by_cases h : a < i + 1
   ·rw [if_pos h, if_pos (by omega)]
   ·rw [if_neg h, if_neg (by omega)]
 ·have eic : c = i := by omega
  subst eic
  have hE010 := hE08.trans hE10
  have hU10 := hO10.congr (F' := U) (fun a b ha hb => by rw [if_pos ha, hdiv a b ha hb, Int.mul_ediv_cancel_left _ hd0])
  repeat' (first|refine bA rfl rfl (by omega) ?_|(refine aQ (g := g1) rfl (hb1.ext ((hEd.trans hE2).trans (hE3.trans (hE36.trans ((hE7.trans hE8).trans hE10))))) rfl ?_)|refine ai rfl ?_|refine aa ?_|refine aj ?_|refine ah rfl ?_|refine ae ?_|refine aG rfl ?_|refine ay rfl ?_|refine aV ?_|refine aL ?_|refine aW ?_)
  refine av (py (hT.ext hE010) (fun j hj => (hX j hj).ext hE010) hU10.mx hc (by omega) (by omega) (by omega)) rfl ?_
  rintro v w11 ⟨gs, cp, hG11, hT11, hR11⟩
  refine ⟨fun _ _ => trivial, ?_⟩
  repeat' (first|refine ae ?_)
  refine jq rfl ⟨gs, cp, U, f, bL (oN hE010) hG11 (fun k e => .inl e), hT11, fun j hj => ?_, hU.1, ?_⟩
  ·exact ((hR11 j hj).mono hE010.size).up (by omega)
  ·rw [← hW] at hH hU
   exact hJ.hf hH hU
end Go.Proofs.YtppipmkpmmdcjaaGreat
namespace Go.Proofs.YtppipmkpmmdcjaaGreat
open Go.W Go.LM Go.LA
theorem k9 (r : Nat) (F : Mat) (j b : Nat) : withId r F (r + j) b = idM j b := by
 unfold withId; rw [if_neg (by omega), show r + j - r = j by omega]
theorem pB {r x : Nat} (F : Mat) (b : Nat) (h : x < r) : withId r F x b = F x b := if_pos h
theorem dY {n i : Nat} (f : Nat → Nat) (h : i < n) : ((List.range n).map f).getD i 0 = f i := by simp [List.getD_eq_getElem?_getD, h]
structure FormR (K r c lo : Nat) (A : Mat) (w' : World) (g g' : Nat) (gs cp gs' cp' : Nat → Nat) (H U : Mat) (k : Nat) (p : Nat → Nat) : Prop where
 h : MO true K w' lo g r c gs cp H
 u : MO true K w' lo g' c c gs' cp' U
 ceq : CEq r c A H U
 hf : HF r c H k p
theorem FormR.ext {K r c lo : Nat} {A : Mat} {w w' : World} {g g' : Nat} {gs cp gs' cp' : Nat → Nat} {H U : Mat} {k : Nat} {p : Nat → Nat} (h : FormR K r c lo A w g g' gs cp gs' cp' H U k p) (e : Ex w w') : FormR K r c lo A w' g g' gs cp gs' cp' H U k p := ⟨h.h.ext e, h.u.ext e, h.ceq, h.hf⟩
def RetForm (K r c : Nat) (A : Mat) (w : World) (v : Value) (w' : World) : Prop :=
 ∃ g g' gs cp gs' cp' H U k p, v = .tuple #[.slice (some ⟨g, 0, none⟩) r r, .slice (some ⟨g', 0, none⟩) c c, .bool true] ∧ FormR K r c w.heap.size A w' g g' gs cp gs' cp' H U k p ∧ Ex w w'
set_option maxHeartbeats 4000000 in
theorem iq {cn : Bool} {K r c cap : Nat} {w : World} {a : Option Addr} {s : Nat → SD} {A : Mat} (hM : MX cn K w a r c s A) (hr : 1 ≤ r ∧ r ≤ 16) (hc : 1 ≤ c ∧ c ≤ 16) (hK1 : 1 ≤ K) (hK : 300 * K + 1000 < 4398046511104) :
  CallsR Tryz.prog 25 #[.slice a r cap] w (RetForm (34 * K + 100) r c A w) := by
 refine aH (args := [_]) Tryz.func25 rfl rfl ?_
 repeat' (first|refine ai rfl ?_|refine aa ?_|refine aj ?_|refine ah rfl ?_|refine ae ?_)
 refine av (ez hM.top) rfl ?_
 rintro v w1 ⟨rfl, hE1⟩
 refine ⟨fun _ _ => trivial, ?_⟩
 rw [em hM hr hc]
 repeat' (first|refine aS rfl rfl ?_|refine ai rfl ?_|refine aa ?_|refine aj ?_|refine ah rfl ?_|refine ae ?_|refine ay rfl ?_|refine aF ?_)
 refine av (nf (hM.ext hE1) hr hc hK1) rfl ?_
 rintro v w2 ⟨g, s', rfl, lg, hT2, hX2, hE2⟩
 refine ⟨fun _ _ => trivial, ?_⟩
 have hE02 := hE1.trans hE2
 refine aB (fun g3 w3 hn3 => ⟨fun _ _ => trivial, ?_⟩)
 have hb3 : Blk w3 g3 81 [.slice none 0 0, .int .i64 0] := hn3.blk
 refine ax (n := 2) (vs := pairL g c r) rfl rfl rfl rfl hb3 rfl (fun w4 hc4 hb4 => ⟨fun _ _ => trivial, ?_⟩)
 have s1 := hE1.size
 have s2 := hE2.size
 have l3 := hn3.lo
 have hE24 : Ex w2 w4 := hn3.ex.chg hc4 l3
 have hT4 := hT2.ext hE24
 have lT := hT2.lt
 repeat' (first|refine aN (g := g3) rfl hb4 rfl ?_|refine aa ?_|refine aj ?_|refine ah rfl ?_|refine ae ?_)
 refine av (k8 (K := K) hT4 (fun j hj => (hX2 j hj).ext hE24) hr hc hK1 hK (fun j b _ _ => k9 r A j b)) rfl ?_
 rintro v w5 ⟨gs, cp, U, l, hG5, hT5, hR5, hU, hHF⟩
 refine ⟨fun _ _ => trivial, ?_⟩
 have hb5 := hb4.gb hG5 (fun e => by cases e; omega)
 have hE05 : Ex w w5 := (hE02.trans hE24).gb hG5 (fun k e => by cases e; omega)
 have hl5 := hb5.lt
 repeat' (first|refine fE (m := r) (m' := c) rfl rfl (by omega) ?_|refine ai rfl ?_|refine aa ?_|refine aj ?_|refine ah rfl ?_|refine ae ?_|refine aA ?_)
 refine aY (ι := (Nat × SD × SD) × (Nat → Nat) × (Nat → Nat)) [9, 10, 11, 27, 28, 29, 30, 31, 32, 33, 34, 35, 36, 37, 38, 39, 40, 41, 42] (fun t => [(27, .int .i64 (t.1.1 : Int)), (9, .slice t.1.2.1.a t.1.2.1.len t.1.2.1.cap), (10, .slice t.1.2.2.a t.1.2.2.len t.1.2.2.cap)])
  (fun t w' => (t.1.1 ≤ r + c ∧ Ex w5 w') ∧ NatG w' w5.heap.size 3 (if t.1.1 ≤ r then t.1.1 else r) t.1.2.1 t.2.1 ∧ (∀ k, k < t.1.1 → k < r → t.2.1 k = k) ∧ NatG w' w5.heap.size 3 (t.1.1 - r) t.1.2.2 t.2.2 ∧ (∀ k, k + r < t.1.1 → t.2.2 k = r + k) ∧
   (t.1.1 ≤ r → t.1.2.2 = sd0) ∧ ∀ x y, t.1.2.1.a = some x → t.1.2.2.a = some y → x.block ≠ y.block) (fun t => r + c - t.1.1)
  ((0, sd0, sd0), fun _ => 0, fun _ => 0) ⟨rfl, rfl, rfl, trivial⟩ ⟨⟨by simp only; omega, Ex.refl _⟩, by simp only; rw [if_pos (by omega)]; exact NatG.nil _ _ _ _, fun k hk => by simp only at hk; omega, by simp only; rw [Nat.zero_sub]; exact NatG.nil _ _ _ _, fun k hk => by simp only at hk; omega, fun _ => rfl, fun x y e => by cases e⟩ ?_
 rintro ⟨⟨i, su, sl⟩, fu, fl⟩ ξ w6 ⟨⟨hi, hE6⟩, hNu, hfu, hNl, hfl, hz, hdis⟩
 simp only at hi hNu hfu hNl hfl hz hdis
 show CW _ _ _ _ (over [(27, .int .i64 (i : Int)), (9, .slice su.a su.len su.cap), (10, .slice sl.a sl.len sl.cap)] _) w6
 have hb6 := hb5.ext hE6
 have s6 := hE6.size
 rcases Nat.lt_or_ge i (r + c) with hir | hir
 ·rcases Nat.lt_or_ge i r with hi' | hi'
  ·rw [if_pos (by omega)] at hNu
   obtain rfl := hz (by omega)
   repeat' (first|refine bC rfl rfl (by omega) ?_|refine aQ (g := g3) rfl hb6 rfl ?_|refine ai rfl ?_|refine aa ?_|refine aj ?_|refine ah rfl ?_|refine ae ?_|refine aG rfl ?_|refine aD rfl ?_|refine aA ?_|refine aF ?_)
   refine nh (E := 3) (lo := w5.heap.size) (u := i) rfl rfl rfl hNu (by omega) (by omega) (by omega) ?_
   intro gt s2' f2 w7 hN7 hf1 hf2 hG7 hA7
   repeat' (first|refine ai rfl ?_|refine aa ?_|refine ah rfl ?_|refine ae ?_|refine aZ rfl rfl (by omega) (by omega) ?_|refine aK ?_)
   refine ⟨⟨((i + 1, s2', sd0), f2, fl), ⟨⟨by simp only; omega, hE6.gb hG7 (fun q e => (hNu.blk q e).1)⟩, by simp only; rw [if_pos (by omega)]; exact hN7, fun k hk hk' => ?_, by simp only; rw [show i + 1 - r = 0 by omega]; exact NatG.nil _ _ _ _, fun k hk => by simp only at hk; omega, fun _ => rfl, fun x y _ e => (nomatch e)⟩, by simp only; omega, rfl, rfl, rfl, trivial⟩, (by (repeat (first|exact aE _ _ _|refine aw rfl ?_|refine au rfl ?_|refine ak rfl ?_|refine ao rfl ?_)))⟩
   simp only at hk ⊢
   by_cases h : k = i
   ·subst h; exact hf2
   ·rw [hf1 k (by omega)]; exact hfu k (by omega) hk'
  ·have er : (if i ≤ r then i else r) = r := by split <;> omega
   rw [er] at hNu
   repeat' (first|refine bC rfl rfl (by omega) ?_|refine aQ (g := g3) rfl hb6 rfl ?_|refine bA rfl rfl (by omega) ?_|refine ai rfl ?_|refine aa ?_|refine aj ?_|refine ah rfl ?_|refine ae ?_|refine aG rfl ?_|refine aD rfl ?_|refine ay rfl ?_|refine aA ?_|refine aF ?_)
   refine nh (E := 3) (lo := w5.heap.size) (u := i) rfl rfl rfl hNl (by omega) (by omega) (by omega) ?_
   intro gt s2' f2 w7 hN7 hf1 hf2 hG7 hA7
   repeat' (first|refine ai rfl ?_|refine aa ?_|refine ah rfl ?_|refine ae ?_|refine aZ rfl rfl (by omega) (by omega) ?_|refine aK ?_)
   have hkeep : ∀ ad, su.a = some ad → (Value.slice sl.a sl.len sl.cap).ownBlock ≠ some ad.block := fun ad e h => by
    rcases hNl.2 with ⟨h0, _⟩ | ⟨g', h1, _⟩
    ·rw [h0] at h; cases h
    ·rw [h1] at h; cases h; exact hdis _ _ e h1 rfl
   refine ⟨⟨((i + 1, su, s2'), fu, f2), ⟨⟨hir, hE6.gb hG7 (fun q e => (hNl.blk q e).1)⟩, by simp only; rw [if_neg (by omega)]; exact NatG.gb hNu hG7 hkeep, fun k hk hk' => hfu k (by omega) hk', by simp only; rw [show i + 1 - r = i - r + 1 by omega]; exact hN7, fun k hk => ?_, fun h => by simp only at h; omega, fun x y e1 e2 => ?_⟩, by simp only; omega, rfl, rfl, rfl, trivial⟩, (by (repeat (first|exact aE _ _ _|refine aw rfl ?_|refine au rfl ?_|refine ak rfl ?_|refine ao rfl ?_)))⟩
   ·simp only at hk ⊢
    by_cases h : k = i - r
    ·subst h; rw [hf2]; omega
    ·rw [hf1 k (by omega)]; exact hfl k (by omega)
   ·simp only at e1 e2
    rcases hA7 with h | h
    ·exact hdis x y e1 (by rw [← h]; exact e2)
    ·have h1 := h y e2; have h2 := (NatG.lo hNu x e1).2; omega
 ·have eir : i = r + c := by omega
  subst eir
  have e1 : (if r + c ≤ r then r + c else r) = r := if_neg (by omega)
  rw [e1] at hNu
  rw [show r + c - r = c by omega] at hNl
  have hlu := hNu.1
  have hll := hNl.1
  have hsu := hNu.sl
  have hsl := hNl.sl
  rw [ip] at hsu hsl
  rw [hlu, hll]
  repeat' (first|refine bA rfl rfl (by omega) ?_|refine aa ?_|refine aj ?_|refine ah rfl ?_|refine ae ?_|refine ay rfl ?_|refine aV ?_|refine aL ?_|refine aW ?_)
  refine bi (late := []) (plan := [(0, none), (1, none), (2, none), (4, none), (5, none), (6, none), (3, some true), (7, some true), (8, none), (9, none), (10, none)]) (fun w' => Ex w6 w') bB (by kernel_rfl) (Ex.refl w6).drew ?_
  have hEd := (Ex.refl w6).drew
  repeat' (first|refine aQ (g := g3) rfl (fun _ h => hb6.ext h) rfl ?_|refine ai rfl ?_|refine aG rfl ?_)
  have hE56 := hE6.trans hEd
  refine av (gc (L := r) (by simp) (hT5.ext hE56).sl (fun j hj => ((hR5 j hj).ext hE56).rx) (hsu.ext hEd) hc.1 hc.2 (by omega) (fun i hi => by rw [dY _ hi, hfu i (by omega) hi]; omega)) rfl ?_
  rintro v w7 ⟨gh, gsh, cph, rfl, hO7, hE7⟩
  refine ⟨fun _ h => h.trans hE7, ?_⟩
  have hE67 := hEd.trans hE7
  have hE57 := hE6.trans hE67
  skip
  refine av (gc (L := c) (by simp) (hT5.ext hE57).sl (fun j hj => ((hR5 j hj).ext hE57).rx) (hsl.ext hE67) hc.1 hc.2 (by omega) (fun i hi => by rw [dY _ hi, hfl i (by omega)]; omega)) rfl ?_
  rintro v w8 ⟨gu, gsu, cpu, rfl, hO8, hE8⟩
  refine ⟨fun _ h => h.trans hE8, ?_⟩
  repeat' (first|refine ai rfl ?_|refine aa ?_|refine ae ?_|refine aR ?_)
  obtain ⟨k', hk', _, hHF'⟩ := hHF.cut (rows := r) (by omega)
  have s5 := hE05.size
  have eH : ∀ i j, i < r → j < c → mm c (withId r A) U i j = mm c A U i j := fun i j hi _ => cC (fun k _ => pB A k hi) fun _ _ => rfl
  have eU : ∀ i j, i < c → j < c → mm c (withId r A) U (r + i) j = U i j := fun i j hi hj => by
   have : mm c (withId r A) U (r + i) j = mm c idM U i j := aX fun k _ => by rw [k9]
   rw [this, oa U i j hi]
  refine fM rfl (rt rfl) (rt rfl) (rt rfl) ⟨gh, gu, gsh, cph, gsu, cpu, mm c A U, U, k', l, rfl, ⟨((hO7.mono (by have := hE6.size; have : w6.drew.heap.size = w6.heap.size := rfl; omega)).ext hE8).congr fun i j hi hj => ?_, (hO8.mono (by have := hE57.size; omega)).congr fun i j hi hj => ?_, ⟨hU, fun _ _ _ _ => rfl⟩, hHF'.congr fun i j hi hj => (eH i j hi hj).symm⟩, (hE05.trans hE57).trans hE8⟩
  ·rw [dY _ hi, hfu i (by omega) hi, eH i j hi hj]
  ·rw [dY _ hi, hfl i (by omega), eU i j hi hj]
end Go.Proofs.YtppipmkpmmdcjaaGreat
namespace Go.Proofs.YtppipmkpmmdcjaaGreat
open Go.W Go.LM Go.LA
def NoF (F : Nat → Prop) (w : World) : Prop := ∀ b, F b → ∃ T cs, Blk w b T cs ∧ NoI cs
section
variable {Fs : Nat → Prop} {w w' : World}
theorem Limbs.fr {a : Option Addr} {c : Nat} {ls : List Nat} (h : Limbs w a c ls) (hN : NoF Fs w) (hg : Fr Fs w w') : Limbs w' a c ls := by
 refine ⟨?_, h.cap, h.lim, h.len⟩
 cases ls with
 | nil => exact Sl.nil _ _
 | cons d l =>
  refine h.sl.fr hg fun ad e he => ?_
  obtain ⟨T, cs, hb, hn⟩ := hN _ he
  have := h.sl.off hb (j := 0) (by simp [limbsL]) (fun hm => hn _ hm d rfl) ad e
  exact this rfl
theorem IntK.fr {K : Nat} {v : Value} {z : Int} (h : IntK K w v z) (hN : NoF Fs w) (hg : Fr Fs w w') : IntK K w' v z := by
 obtain ⟨neg, a, c, ls, h1, h2, h3⟩ := h; exact ⟨neg, a, c, ls, h1, h2.fr hN hg, h3⟩
theorem IntC.fr {lo : Nat} {v : Value} {z : Int} (h : IntC lo w v z) (hN : NoF Fs w) (hg : Fr Fs w w') : IntC lo w' v z := by
 obtain ⟨neg, a, c, ls, h1, h2, h3⟩ := h; exact ⟨neg, a, c, ls, h1, h2.fr hN hg, h3⟩
theorem Ent.fr {cn : Bool} {K : Nat} {v : Value} {z : Int} (h : Ent cn K w v z) (hN : NoF Fs w) (hg : Fr Fs w w') : Ent cn K w' v z := ⟨h.k.fr hN hg, fun c => (h.c c).fr hN hg⟩
theorem RO.fr {cn : Bool} {K lo g cap n : Nat} {f : Nat → Int} (h : RO cn K w lo g cap n f) (hN : NoF Fs w) (hg : Fr Fs w w') (hne : ¬ Fs g) : RO cn K w' lo g cap n f := by
 obtain ⟨hh, h1, h2⟩ := h.ex; exact ⟨h.low, h.le, hh, h1.fr hg hne, fun i hi => (h2 i hi).fr hN hg⟩
variable {cn : Bool} {K r c lo g : Nat} {gs cap : Nat → Nat} {F : Nat → Nat → Int}
theorem MO.fr (h : MO cn K w lo g r c gs cap F) (hN : NoF Fs w) (hg : Fr Fs w w') (hne : ¬ Fs g) (hns : ∀ i, i < r → ¬ Fs (gs i)) : MO cn K w' lo g r c gs cap F :=
 ⟨h.low, h.top.fr hg hne, fun i hi => (h.row i hi).fr hN hg (hns i hi), h.off, h.inj⟩
def rowsB (r : Nat) (gs : Nat → Nat) : Nat → Prop := fun b => ∃ k, k < r ∧ b = gs k
theorem MO.noR (h : MO cn K w lo g r c gs cap F) : NoF (rowsB r gs) w := fun b ⟨k, hk, e⟩ => by
 subst e; obtain ⟨hh, h1, _⟩ := (h.row k hk).ex; exact ⟨_, _, h1, bF _ _⟩
theorem MO.noT (h : MO cn K w lo g r c gs cap F) : NoF (fun b => b = g) w := fun b e => by subst e; exact ⟨_, _, h.top, bZ _ _⟩
end
set_option maxHeartbeats 2000000 in
theorem fA {cn : Bool} {K Kf K' r c i j lo g tc : Nat} {w : World} {gs cap : Nat → Nat} {F : Mat} {vf : Value} {f : Int} (hM : MO true K w lo g r c gs cap F) (_hr : r ≤ 1000) (hc : c ≤ 1000) (hi : i < r) (hj : j < r) (hij : i ≠ j)
  (hf : Ent cn Kf w vf f) (hK : K + Kf < 17592186044416) (hKK : K ≤ K') (hK' : K' < 17592186044415) (hlb : ∀ k, k < c → Lb K' (F i k + f * F j k)) :
  CallsR Tryz.prog 63 #[.slice (some ⟨g, 0, none⟩) r tc, .int .i64 (i : Int), .int .i64 (j : Int), vf] w fun _ w' => w.grownBy w' (some (gs i)) ∧ MO true K' w' lo g r c gs cap (setF F i fun k => F i k + f * F j k) := by
 obtain ⟨xf, rfl⟩ := hf.ih
 obtain ⟨hhj, hbj, hcj, hEj⟩ := hM.get hj
 have hgij : gs i ≠ gs j := fun e => hij (hM.inj _ _ hi hj e)
 have lti := (hM.row i hi).lt
 refine aH (args := [_, _, _, _]) Tryz.func63 rfl rfl ?_
 refine aj ?_
 refine ah rfl ?_
 refine bH (vs := xf.cells) rfl (fun g1 w1 hn1 => ⟨fun _ _ => trivial, ?_⟩)
 have hb1 := hn1.blk
 have hE1 := hn1.ex
 have lo1 := hn1.lo
 repeat' (first|refine aC (j := j) (a := some ⟨g, 0, none⟩) rfl rfl ⟨_, _, rfl⟩ (by omega) ?_|refine aU (j := j) (a := some ⟨g, 0, none⟩) (n := r) (s := fun k => ⟨some ⟨gs k, 0, none⟩, c, cap k⟩) rfl (hM.ext hE1).top.sl (by omega) rfl ?_|refine ai rfl ?_|refine aa ?_|refine aj ?_|refine ah rfl ?_|refine ae ?_|refine bh rfl ?_|refine aA ?_)
 refine aY (ι := Nat) [8, 9, 15, 16, 17, 18, 19, 20, 21, 22, 23, 24, 25, 26, 27, 28, 29, 30, 31, 32, 33, 34, 35, 36, 37] (fun t => [(15, .int .i64 (t : Int))])
  (fun t w' => t ≤ c ∧ w1.grownBy w' (some (gs i)) ∧ RO true K' w' lo (gs i) (cap i) c (fun k => if k < t then F i k + f * F j k else F i k)) (fun t => c - t)
  0 ⟨rfl, trivial⟩ ⟨by omega, bG (Chg.refl _ _), (((hM.row i hi).ext hE1).up hKK).congr (fun k _ => if_neg (by omega))⟩ ?_
 rintro t ξ w2 ⟨ht, hG2, hO2⟩
 show CW _ _ _ _ (over [(15, .int .i64 (t : Int))] _) w2
 obtain ⟨hh0, hbi0, hci, _⟩ := (hM.ext hE1).get hi
 have hT2 := ((hM.ext hE1).top).gb hG2 (fun e => hM.off i hi (by cases e; rfl))
 have hbj2 := (hbj.ext hE1).gb hG2 (fun e => hgij (Option.some.inj e))
 have hb12 := hb1.gb hG2 (fun e => by cases e; omega)
 rcases Nat.lt_or_ge t c with htc | htc
 ·obtain ⟨hh, hbi, hEi⟩ := hO2.ex
  have hci := hO2.le
  have hEjt := ((hEj t htc).ext hE1).gbN hbi0 (bF _ _) hG2
  have hf2 := (hf.ext hE1).gbN hbi0 (bF _ _) hG2
  have hEit := hEi t htc
  simp only [Nat.lt_irrefl, if_false] at hEit
  repeat' (first|refine bC rfl rfl (by omega) ?_|refine aa ?_|refine aj ?_|refine ah rfl ?_|refine ae ?_|refine aD rfl ?_|refine aF ?_)
  refine aA ?_
  repeat' (first|refine aT (j := t) (a := some ⟨gs j, 0, none⟩) rfl rfl ⟨_, _, rfl⟩ (by omega) ?_|refine bu (j := t) (n := cap j) (a := some ⟨gs j, 0, none⟩) rfl hbj2.sl ⟨_, _, rfl⟩ (by omega) ?_|refine ai rfl ?_|refine aj ?_|refine ah rfl ?_)
  refine aB (fun g6 w6 hn6 => ⟨fun _ _ => trivial, ?_⟩)
  have hb6 : Blk w6 g6 33 (intL false none 0 0) := hn6.blk
  repeat' (first|refine ai rfl ?_)
  refine ax (n := 2) (vs := (hhj t).cells) rfl rfl rfl rfl hb6 rfl (fun w7 hc7 hb7 => ⟨fun _ _ => trivial, ?_⟩)
  have hE27 : Ex w2 w7 := hn6.ex.chg hc7 hn6.lo
  repeat' (first|refine aa ?_|refine ae ?_)
  refine bi (late := [17]) (plan := [(0, none), (1, none), (2, none), (3, none), (4, none), (5, none), (6, none), (7, none), (8, none), (9, none), (10, none), (11, none), (12, none), (13, none), (14, some true), (15, some true), (16, none), (17, some false)]) (fun w' => Ex w7 w') bB (by kernel_rfl) (Ex.refl w7).drew ?_
  repeat' (first|refine aC (j := i) (a := some ⟨g, 0, none⟩) rfl rfl ⟨_, _, rfl⟩ (by omega) ?_|refine aU (j := i) (a := some ⟨g, 0, none⟩) (n := r) (s := fun k => ⟨some ⟨gs k, 0, none⟩, c, cap k⟩) rfl (fun _ h => (hT2.ext (hE27.trans h)).sl) (by omega) rfl ?_|refine aN (g := g6) rfl (fun _ h => hb7.ext h) rfl ?_|refine aN (g := g1) rfl (fun _ h => hb12.ext (hE27.trans h)) rfl ?_|refine aT (j := t) (a := some ⟨gs i, 0, none⟩) rfl rfl ⟨_, _, rfl⟩ (by omega) ?_|refine bu (j := t) (n := cap i) (a := some ⟨gs i, 0, none⟩) rfl (fun _ h => (hbi.ext (hE27.trans h)).sl) ⟨_, _, rfl⟩ (by omega) ?_|refine ai rfl ?_)
  have hE27d := hE27.drew
  refine av (cK (hf2.ext hE27d).k (hEjt.ext hE27d).k (by omega)) rfl ?_
  rintro v w8 ⟨hI8, hE8⟩
  refine ⟨fun _ h => h.trans hE8, ?_⟩
  refine av (eg (hEit.ext (hE27d.trans hE8)).k (hI8.k (hf.lb.mul (hEj t htc).lb)) (by omega) (by omega)) rfl ?_
  rintro v w9 ⟨hI9, hE9⟩
  refine ⟨fun _ h => h.trans hE9, ?_⟩
  obtain ⟨u, rfl⟩ := hI9.ih
  have hE29 := (hE27d.trans hE8).trans hE9
  repeat' (first|refine aT (j := t) (a := some ⟨gs i, 0, none⟩) rfl rfl ⟨_, _, rfl⟩ (by omega) ?_)
  refine ch (j := t) (n := cap i) (u := u) rfl rfl (hbi.ext hE29) (by omega) (fun wa hca hba => ⟨fun h => (nomatch h), ?_⟩)
  repeat' (first|refine ai rfl ?_|refine aa ?_|refine ah rfl ?_|refine ae ?_|refine aZ rfl rfl (by omega) (by omega) ?_|refine aK ?_)
  refine ⟨⟨t + 1, ⟨htc, bL (bL hG2 (lA hE29) (fun k e => (nomatch e))) (bG hca) (fun k e => .inl e), (RO.put hO2.low hO2.le (hbi.ext hE29) (fun k hk => (hEi k hk).ext hE29) (Ent.of hI9 (hlb t htc)) hca hba).congr (fun k _ => ?_)⟩, by omega, rfl, trivial⟩, (by (repeat (first|exact aE _ _ _|refine aw rfl ?_|refine au rfl ?_|refine ak rfl ?_|refine ao rfl ?_)))⟩
  by_cases hkt : k = t
  ·subst hkt; rw [if_pos (Nat.lt_succ_self _), aJ]
  ·rw [aO _ _ hkt]
   by_cases hk : k < t
   ·rw [if_pos hk, if_pos (by omega)]
   ·rw [if_neg hk, if_neg (by omega)]
 ·have : c = t := by omega
  subst this
  repeat' (first|refine bA rfl rfl (by omega) ?_|refine aa ?_|refine aj ?_|refine ah rfl ?_|refine ae ?_|refine ay rfl ?_|refine aV ?_|refine aL ?_|refine aW ?_)
  have hGa : w.grownBy w2 (some (gs i)) := bL (oN hE1) hG2 (fun k e => .inl e)
  exact jq rfl ⟨hGa, (hM.up hKK).rowIn hi hGa (hO2.congr (fun k hk => by rw [if_pos hk]))⟩
end Go.Proofs.YtppipmkpmmdcjaaGreat
namespace Go.Proofs.YtppipmkpmmdcjaaGreat
open Go.W Go.LM Go.LA
set_option maxHeartbeats 2000000 in
theorem gX {cn : Bool} {K Kf K' r c i j lo g tc : Nat} {w : World} {gs cap : Nat → Nat} {F : Mat} {vf : Value} {f : Int} (hM : MO true K w lo g r c gs cap F) (hr : r ≤ 1000) (_hc : c ≤ 1000) (hi : i < c) (hj : j < c)
  (hf : Ent cn Kf w vf f) (hK : K + Kf < 17592186044416) (hKK : K ≤ K') (hK' : K' < 17592186044415) (hlb : ∀ a, a < r → Lb K' (F a i + f * F a j)) (_hij : i ≠ j) :
  CallsR Tryz.prog 88 #[.slice (some ⟨g, 0, none⟩) r tc, .int .i64 (i : Int), .int .i64 (j : Int), vf] w fun _ w' => Fr (rowsB r gs) w w' ∧ MO true K' w' lo g r c gs cap (fun a b => if b = i then F a i + f * F a j else F a b) := by
 obtain ⟨xf, rfl⟩ := hf.ih
 refine aH (args := [_, _, _, _]) Tryz.func88 rfl rfl ?_
 refine aj ?_
 refine ah rfl ?_
 refine bH (vs := xf.cells) rfl (fun g1 w1 hn1 => ⟨fun _ _ => trivial, ?_⟩)
 have hb1 := hn1.blk
 have hE1 := hn1.ex
 have lo1 := hn1.lo
 repeat' (first|refine ai rfl ?_|refine aa ?_|refine aj ?_|refine ah rfl ?_|refine ae ?_|refine bh rfl ?_|refine aA ?_)
 refine aY (ι := Nat) [9, 12, 13, 14, 15, 16, 17, 18, 19, 20, 21, 22, 23, 24, 25, 26, 27, 28, 29, 30] (fun t => [(12, .int .i64 (t : Int))])
  (fun t w' => t ≤ r ∧ Fr (rowsB r gs) w1 w' ∧ MO true K' w' lo g r c gs cap (fun a b => if a < t ∧ b = i then F a i + f * F a j else F a b)) (fun t => r - t)
  0 ⟨rfl, trivial⟩ ⟨by omega, Fr.refl _ _, ((hM.ext hE1).up hKK).congr (fun a b _ _ => if_neg (by omega))⟩ ?_
 rintro t ξ w2 ⟨ht, hF2, hO2⟩
 show CW _ _ _ _ (over [(12, .int .i64 (t : Int))] _) w2
 have hN1 := (hM.ext hE1).noR
 have hf2 := (hf.ext hE1).fr hN1 hF2
 have hb12 : Blk w2 g1 33 xf.cells := hb1.fr hF2 (fun ⟨k, hk, e⟩ => by have := (hM.row k hk).lt; omega)
 rcases Nat.lt_or_ge t r with htr | htr
 ·obtain ⟨hh, hbi, hci, hEi⟩ := hO2.get htr
  have hEii := hEi i hi
  have hEij := hEi j hj
  simp only [Nat.lt_irrefl, false_and, if_false] at hEii hEij
  repeat' (first|refine bC rfl rfl (by omega) ?_|refine aa ?_|refine aj ?_|refine ah rfl ?_|refine ae ?_|refine aD rfl ?_|refine aF ?_)
  refine aA ?_
  repeat' (first|refine aC (j := t) (a := some ⟨g, 0, none⟩) rfl rfl ⟨_, _, rfl⟩ (by omega) ?_|refine aU (j := t) (a := some ⟨g, 0, none⟩) (n := r) (s := fun k => ⟨some ⟨gs k, 0, none⟩, c, cap k⟩) rfl hO2.top.sl (by omega) rfl ?_|refine ai rfl ?_|refine aa ?_|refine aj ?_|refine ah rfl ?_|refine ae ?_)
  refine bi (late := [14]) (plan := [(0, none), (1, none), (2, none), (3, none), (4, none), (5, none), (6, none), (7, none), (8, none), (9, none), (10, none), (11, some true), (12, some true), (13, none), (14, some false)]) (fun w' => Ex w2 w') bB (by kernel_rfl) (Ex.refl w2).drew ?_
  repeat' (first|refine aN (g := g1) rfl (fun _ h => hb12.ext h) rfl ?_|refine aT (j := i) (a := some ⟨gs t, 0, none⟩) rfl rfl ⟨_, _, rfl⟩ (by omega) ?_|refine bu (j := i) (n := cap t) (a := some ⟨gs t, 0, none⟩) rfl (fun _ h => (hbi.ext h).sl) ⟨_, _, rfl⟩ (by omega) ?_|refine aT (j := j) (a := some ⟨gs t, 0, none⟩) rfl rfl ⟨_, _, rfl⟩ (by omega) ?_|refine bu (j := j) (n := cap t) (a := some ⟨gs t, 0, none⟩) rfl (fun _ h => (hbi.ext h).sl) ⟨_, _, rfl⟩ (by omega) ?_|refine ai rfl ?_)
  have hEd := (Ex.refl w2).drew
  have hlj : Lb K (F t j) := by obtain ⟨_, _, _, h⟩ := hM.get htr; exact (h j hj).lb
  refine av (cK (hf2.ext hEd).k (IntC.k (by have := (hEij.ext hEd).c rfl; exact this) hlj) (by omega)) rfl ?_
  rintro v w8 ⟨hI8, hE8⟩
  refine ⟨fun _ h => h.trans hE8, ?_⟩
  refine av (eg (hEii.ext (hEd.trans hE8)).k (hI8.k (hf.lb.mul hlj)) (by omega) (by omega)) rfl ?_
  rintro v w9 ⟨hI9, hE9⟩
  refine ⟨fun _ h => h.trans hE9, ?_⟩
  obtain ⟨u, rfl⟩ := hI9.ih
  have hE29 := (hEd.trans hE8).trans hE9
  repeat' (first|refine aT (j := i) (a := some ⟨gs t, 0, none⟩) rfl rfl ⟨_, _, rfl⟩ (by omega) ?_)
  refine ch (j := i) (n := cap t) (u := u) rfl rfl (hbi.ext hE29) (by omega) (fun wa hca hba => ⟨fun h => (nomatch h), ?_⟩)
  repeat' (first|refine ai rfl ?_|refine aa ?_|refine ah rfl ?_|refine ae ?_|refine aZ rfl rfl (by omega) (by omega) ?_|refine aK ?_)
  refine ⟨⟨t + 1, ⟨htr, (hF2.trans hE29.fr).trans (hca.fr ⟨t, htr, rfl⟩), ((hO2.ext hE29).put htr (hbi.ext hE29) (fun k hk => (hEi k hk).ext hE29) (Ent.of hI9 (hlb t htr)) hca hba).congr (fun a b _ _ => ?_)⟩, by omega, rfl, trivial⟩, (by (repeat (first|exact aE _ _ _|refine aw rfl ?_|refine au rfl ?_|refine ak rfl ?_|refine ao rfl ?_)))⟩
  show (if a < t + 1 ∧ b = i then F a i + f * F a j else F a b) = if a = t ∧ b = i then F t i + f * F t j else (if a < t ∧ b = i then F a i + f * F a j else F a b)
  by_cases hb' : b = i
  ·by_cases hat : a = t
   ·rw [if_pos ⟨by omega, hb'⟩, if_pos ⟨hat, hb'⟩, hat]
   ·by_cases hl : a < t
    ·rw [if_pos ⟨by omega, hb'⟩, if_neg (fun h => hat h.1), if_pos ⟨hl, hb'⟩]
    ·rw [if_neg (by omega), if_neg (fun h => hat h.1), if_neg (by omega)]
  ·rw [if_neg (fun h => hb' h.2), if_neg (fun h => hb' h.2), if_neg (fun h => hb' h.2)]
 ·have : r = t := by omega
  subst this
  repeat' (first|refine bA rfl rfl (by omega) ?_|refine aa ?_|refine aj ?_|refine ah rfl ?_|refine ae ?_|refine ay rfl ?_|refine aV ?_|refine aL ?_|refine aW ?_)
  have hres : MO true K' w2 lo g r c gs cap (fun a b => if b = i then F a i + f * F a j else F a b) := hO2.congr (fun a b ha _ => by
   by_cases hb : b = i
   ·rw [if_pos hb, if_pos ⟨ha, hb⟩]
   ·rw [if_neg hb, if_neg (fun h => hb h.2)])
  have hfr : Fr (rowsB r gs) w w2 := hE1.fr.trans hF2
  exact jq rfl ⟨hfr, hres⟩
set_option maxHeartbeats 2000000 in
theorem gY {K r c i lo g tc : Nat} {w : World} {gs cap : Nat → Nat} {F : Mat} (hM : MO true K w lo g r c gs cap F) (_hr : r ≤ 1000) (hc : c ≤ 1000) (hi : i < r) :
  CallsR Tryz.prog 65 #[.slice (some ⟨g, 0, none⟩) r tc, .int .i64 (i : Int)] w fun _ w' => w.grownBy w' (some (gs i)) ∧ MO true K w' lo g r c gs cap (setF F i fun k => - F i k) := by
 refine aH (args := [_, _]) Tryz.func65 rfl rfl ?_
 repeat' (first|refine aC (j := i) (a := some ⟨g, 0, none⟩) rfl rfl ⟨_, _, rfl⟩ (by omega) ?_|refine aU (j := i) (a := some ⟨g, 0, none⟩) (n := r) (s := fun k => ⟨some ⟨gs k, 0, none⟩, c, cap k⟩) rfl hM.top.sl (by omega) rfl ?_|refine ai rfl ?_|refine aa ?_|refine aj ?_|refine ah rfl ?_|refine ae ?_|refine bh rfl ?_|refine aA ?_)
 refine aY (ι := Nat) [4, 5, 11, 12, 13, 14, 15, 16, 17, 18, 19, 20, 21, 22, 23, 24] (fun t => [(11, .int .i64 (t : Int))])
  (fun t w' => t ≤ c ∧ w.grownBy w' (some (gs i)) ∧ RO true K w' lo (gs i) (cap i) c (fun k => if k < t then - F i k else F i k)) (fun t => c - t)
  0 ⟨rfl, trivial⟩ ⟨by omega, bG (Chg.refl _ _), (hM.row i hi).congr (fun k _ => if_neg (by omega))⟩ ?_
 rintro t ξ w2 ⟨ht, hG2, hO2⟩
 show CW _ _ _ _ (over [(11, .int .i64 (t : Int))] _) w2
 have hT2 := hM.top.gb hG2 (fun e => hM.off i hi (by cases e; rfl))
 rcases Nat.lt_or_ge t c with htc | htc
 ·obtain ⟨hh, hbi, hEi⟩ := hO2.ex
  have hci := hO2.le
  have hEit := hEi t htc
  simp only [Nat.lt_irrefl, if_false] at hEit
  repeat' (first|refine bC rfl rfl (by omega) ?_|refine aa ?_|refine aj ?_|refine ah rfl ?_|refine ae ?_|refine aD rfl ?_|refine aF ?_)
  refine aA ?_
  repeat' (first|refine aT (j := t) (a := some ⟨gs i, 0, none⟩) rfl rfl ⟨_, _, rfl⟩ (by omega) ?_|refine bu (j := t) (n := cap i) (a := some ⟨gs i, 0, none⟩) rfl hbi.sl ⟨_, _, rfl⟩ (by omega) ?_|refine ai rfl ?_|refine aj ?_|refine ah rfl ?_)
  refine aB (fun g6 w6 hn6 => ⟨fun _ _ => trivial, ?_⟩)
  have hb6 : Blk w6 g6 33 (intL false none 0 0) := hn6.blk
  repeat' (first|refine ai rfl ?_)
  refine ax (n := 2) (vs := (hh t).cells) rfl rfl rfl rfl hb6 rfl (fun w7 hc7 hb7 => ⟨fun _ _ => trivial, ?_⟩)
  have hE27 : Ex w2 w7 := hn6.ex.chg hc7 hn6.lo
  repeat' (first|refine aa ?_|refine ae ?_)
  refine bi (late := [8]) (plan := [(0, none), (1, none), (2, none), (3, none), (4, none), (5, none), (6, some true), (7, none), (8, some false)]) (fun w' => Ex w7 w') bB (by kernel_rfl) (Ex.refl w7).drew ?_
  repeat' (first|refine aC (j := i) (a := some ⟨g, 0, none⟩) rfl rfl ⟨_, _, rfl⟩ (by omega) ?_|refine aU (j := i) (a := some ⟨g, 0, none⟩) (n := r) (s := fun k => ⟨some ⟨gs k, 0, none⟩, c, cap k⟩) rfl (fun _ h => (hT2.ext (hE27.trans h)).sl) (by omega) rfl ?_|refine aN (g := g6) rfl (fun _ h => hb7.ext h) rfl ?_|refine ai rfl ?_)
  have hE27d := hE27.drew
  refine av (dy (hEit.ext hE27d).k) rfl ?_
  rintro v w9 ⟨hI9, hE9⟩
  refine ⟨fun _ h => h.trans hE9, ?_⟩
  obtain ⟨u, rfl⟩ := hI9.ih
  have hE29 := hE27d.trans hE9
  repeat' (first|refine aT (j := t) (a := some ⟨gs i, 0, none⟩) rfl rfl ⟨_, _, rfl⟩ (by omega) ?_)
  refine ch (j := t) (n := cap i) (u := u) rfl rfl (hbi.ext hE29) (by omega) (fun wa hca hba => ⟨fun h => (nomatch h), ?_⟩)
  repeat' (first|refine ai rfl ?_|refine aa ?_|refine ah rfl ?_|refine ae ?_|refine aZ rfl rfl (by omega) (by omega) ?_|refine aK ?_)
  refine ⟨⟨t + 1, ⟨htc, bL (bL hG2 (lA hE29) (fun k e => (nomatch e))) (bG hca) (fun k e => .inl e), (RO.put hO2.low hO2.le (hbi.ext hE29) (fun k hk => (hEi k hk).ext hE29) (Ent.of hI9 hEit.lb.neg) hca hba).congr (fun k _ => ?_)⟩, by omega, rfl, trivial⟩, (by (repeat (first|exact aE _ _ _|refine aw rfl ?_|refine au rfl ?_|refine ak rfl ?_|refine ao rfl ?_)))⟩
  by_cases hkt : k = t
  ·subst hkt; rw [if_pos (Nat.lt_succ_self _), aJ]
  ·rw [aO _ _ hkt]
   by_cases hk : k < t
   ·rw [if_pos hk, if_pos (by omega)]
   ·rw [if_neg hk, if_neg (by omega)]
 ·have : c = t := by omega
  subst this
  repeat' (first|refine bA rfl rfl (by omega) ?_|refine aa ?_|refine aj ?_|refine ah rfl ?_|refine ae ?_|refine ay rfl ?_|refine aV ?_|refine aL ?_|refine aW ?_)
  exact jq rfl ⟨hG2, hM.rowIn hi hG2 (hO2.congr (fun k hk => by rw [if_pos hk]))⟩
theorem mB {K : Nat} {w : World} {va : Value} {z : Int} (h : Ent true K w va z) :
  CallsR Tryz.prog 86 #[va] w fun v w' => Ent true K w' v (z.natAbs : Int) ∧ Ex w w' := by
 obtain ⟨x, rfl⟩ := h.ih
 refine aH (args := [_]) Tryz.func86 rfl rfl ?_
 refine aj ?_
 refine ah rfl ?_
 refine bH (vs := x.cells) rfl (fun g1 w1 hn1 => ⟨fun _ _ => trivial, ?_⟩)
 refine aB (fun g2 w2 hn2 => ⟨fun _ _ => trivial, ?_⟩)
 have hb1 := hn1.blk.ext hn2.ex
 have hb2 : Blk w2 g2 33 (intL false none 0 0) := hn2.blk
 have hE2 := hn1.ex.trans hn2.ex
 repeat' (first|refine aN (g := g1) rfl hb1 rfl ?_|refine aa ?_|refine aj ?_|refine ah rfl ?_|refine ae ?_)
 refine av (bP (h.ext hE2).k) rfl ?_
 rintro v w3 ⟨rfl, hE3⟩
 refine ⟨fun _ _ => trivial, ?_⟩
 have hE03 := hE2.trans hE3
 by_cases hz : z < 0
 ·repeat' (first|refine bC rfl rfl (cW.2 hz) ?_|refine aN (g := g1) rfl (hb1.ext hE3) rfl ?_|refine aa ?_|refine aj ?_|refine ah rfl ?_|refine ae ?_|refine aD rfl ?_)
  refine av (dy (h.ext hE03).k) rfl ?_
  rintro v w4 ⟨hI4, hE4⟩
  refine ⟨fun _ _ => trivial, ?_⟩
  obtain ⟨u, rfl⟩ := hI4.ih
  skip
  refine ax (n := 2) (vs := u.cells) rfl rfl rfl rfl (hb2.ext (hE3.trans hE4)) rfl (fun w5 hc5 hb5 => ⟨fun _ _ => trivial, ?_⟩)
  repeat' (first|refine aa ?_|refine ae ?_|refine aR ?_|refine bv ?_)
  refine bK rfl (rc rfl rfl hb5) ⟨?_, (hE03.trans hE4).chg hc5 (by have := hn2.lo; have := hn1.ex.size; omega)⟩
  rw [show (z.natAbs : Int) = -z by omega]
  exact (Ent.of hI4 h.lb.neg).gbN (hb2.ext (hE3.trans hE4)) (aI _ _ _ _) (bG hc5)
 ·have hns : ¬ z.sign < 0 := fun e => hz (cW.1 e)
  repeat' (first|refine bA rfl rfl (by omega) ?_|refine aN (g := g1) rfl (hb1.ext hE3) rfl ?_|refine aa ?_|refine aj ?_|refine ah rfl ?_|refine ae ?_|refine ay rfl ?_|refine aF ?_)
  refine ax (n := 2) (vs := x.cells) rfl rfl rfl rfl (hb2.ext hE3) rfl (fun w5 hc5 hb5 => ⟨fun _ _ => trivial, ?_⟩)
  repeat' (first|refine aa ?_|refine ae ?_|refine aR ?_)
  refine bK rfl (rc rfl rfl hb5) ⟨?_, hE03.chg hc5 (by have := hn2.lo; have := hn1.ex.size; omega)⟩
  rw [show (z.natAbs : Int) = z by omega]
  exact (h.ext hE03).gbN (hb2.ext hE3) (aI _ _ _ _) (bG hc5)
theorem ni {ca cb : Bool} {K K' : Nat} {w : World} {va vb : Value} {a b : Int} (ha : Ent ca K w va a) (hb : Ent cb K' w vb b) (hK : K < 17592186044415) (hK' : K' < 17592186044415) :
  CallsR Tryz.prog 89 #[va, vb] w fun v w' => v = .bool (decide (b % a = 0)) ∧ Ex w w' := by
 obtain ⟨xa, rfl⟩ := ha.ih
 obtain ⟨xb, rfl⟩ := hb.ih
 refine aH (args := [_, _]) Tryz.func89 rfl rfl ?_
 refine aj ?_
 refine ah rfl ?_
 refine bH (vs := xa.cells) rfl (fun g1 w1 hn1 => ⟨fun _ _ => trivial, ?_⟩)
 refine bH (vs := xb.cells) rfl (fun g2 w2 hn2 => ⟨fun _ _ => trivial, ?_⟩)
 have hb1 := hn1.blk.ext hn2.ex
 have hb2 := hn2.blk
 have hE2 := hn1.ex.trans hn2.ex
 repeat' (first|refine aN (g := g1) rfl hb1 rfl ?_|refine aN (g := g2) rfl hb2 rfl ?_|refine ai rfl ?_|refine aa ?_|refine aj ?_|refine ah rfl ?_|refine ae ?_)
 refine av (bn (hb.ext hE2).k (ha.ext hE2).k (by omega) (by omega)) rfl ?_
 rintro v w3 ⟨q, rm, rfl, hq, hrm, hE3⟩
 refine ⟨fun _ _ => trivial, ?_⟩
 obtain ⟨uq, rfl⟩ := hq.ih
 obtain ⟨ur, rfl⟩ := hrm.ih
 repeat' (first|refine aS rfl rfl ?_|refine ai rfl ?_)
 refine aB (fun g5 w5 hn5 => ⟨fun _ _ => trivial, ?_⟩)
 refine aB (fun g6 w6 hn6 => ⟨fun _ _ => trivial, ?_⟩)
 have hb5 : Blk w6 g5 33 (intL false none 0 0) := hn5.blk.ext hn6.ex
 have hb6 : Blk w6 g6 33 (intL false none 0 0) := hn6.blk
 have hE6 := hn5.ex.trans hn6.ex
 skip
 refine ax (n := 2) (vs := uq.cells) rfl rfl rfl rfl hb5 rfl (fun w7 hc7 hb7 => ⟨fun _ _ => trivial, ?_⟩)
 have h67 : g6 ≠ g5 := by have := hn6.lo; have := hn5.hi; omega
 skip
 refine ax (n := 2) (vs := ur.cells) rfl rfl rfl rfl (hb6.chg hc7 h67) rfl (fun w8 hc8 hb8 => ⟨fun _ _ => trivial, ?_⟩)
 have hE38 : Ex w3 w8 := (hE6.chg hc7 (by have := hn5.lo; omega)).chg hc8 (by have := hn6.lo; have := hn5.ex.size; omega)
 have hE28 := hE3.trans hE38
 have hE08 := hE2.trans hE28
 by_cases h0 : a = 0
 ·subst h0
  rw [show decide ((0 : Int) ≠ 0) = false from rfl]
  repeat' (first|refine aN (g := g2) rfl (hb2.ext hE28) rfl ?_|refine ai rfl ?_|refine aa ?_|refine aj ?_|refine ah rfl ?_|refine ae ?_|refine aD rfl ?_)
  refine av (bP (hb.ext hE08).k) rfl ?_
  rintro v w9 ⟨rfl, hE9⟩
  refine ⟨fun _ _ => trivial, ?_⟩
  repeat' (first|refine ai rfl ?_|refine aa ?_|refine ae ?_|refine aR ?_|refine bv ?_)
  exact bK rfl (rt rfl) ⟨show Value.bool (decide (b.sign = 0)) = _ from congrArg Value.bool (decide_eq_decide.2 (by rw [Int.emod_zero]; exact Int.sign_eq_zero_iff_zero)), hE08.trans hE9⟩
 ·rw [show decide (a ≠ 0) = true from decide_eq_true h0]
  rw [if_neg h0] at hrm
  have hr8 : IntC w2.heap.size w8 ur.val (b % a) := hrm.ext hE38
  repeat' (first|refine aN (g := g6) rfl hb8 rfl ?_|refine ai rfl ?_|refine aa ?_|refine aj ?_|refine ah rfl ?_|refine ae ?_|refine ay rfl ?_|refine aF ?_)
  refine av (bP (hr8.k (ha.lb.mod _ h0))) rfl ?_
  rintro v w9 ⟨rfl, hE9⟩
  refine ⟨fun _ _ => trivial, ?_⟩
  repeat' (first|refine ai rfl ?_|refine aa ?_|refine ae ?_|refine aR ?_)
  exact bK rfl (rt rfl) ⟨show Value.bool (decide ((b % a).sign = 0)) = _ from congrArg Value.bool (decide_eq_decide.2 Int.sign_eq_zero_iff_zero), hE08.trans hE9⟩
end Go.Proofs.YtppipmkpmmdcjaaGreat
namespace Go.Proofs.YtppipmkpmmdcjaaGreat
open Go.W Go.LM Go.LA
abbrev elL (gd gu gv r c : Nat) : List Value := [.slice (some ⟨gd, 0, none⟩) r r, .slice (some ⟨gu, 0, none⟩) r r, .slice (some ⟨gv, 0, none⟩) c c]
def AnyM (K : Nat) (w : World) (lo g n : Nat) (lab : Nat → Nat) (l : Nat) : Prop := ∃ s cp F, MO true K w lo g n n s cp F ∧ ∀ i, i < n → lab (s i) = l
def DM (K : Nat) (w : World) (lo g r c : Nat) (lab : Nat → Nat) (D : Mat) : Prop := ∃ s cp, MO true K w lo g r c s cp D ∧ ∀ i, i < r → lab (s i) = 1
structure EL (K Ku : Nat) (w : World) (lab : Nat → Nat) (lo ge r c gd gu gv : Nat) (D : Mat) : Prop where
 blk : Blk w ge 68 (elL gd gu gv r c)
 d : DM K w lo gd r c lab D
 u : AnyM Ku w lo gu r lab 2
 v : AnyM Ku w lo gv c lab 3
 l0 : lab ge = 0
 l1 : lab gd = 1
 l2 : lab gu = 2
 l3 : lab gv = 3
 low : lo ≤ ge
def Fe (lo : Nat) (w w' : World) : Prop := (∀ w0 : World, Ex w0 w → w0.heap.size ≤ lo → Ex w0 w') ∧ w.heap.size ≤ w'.heap.size
section
variable {K Ku K' Ku' lo ge r c gd gu gv g n l : Nat} {w w' w'' : World} {lab : Nat → Nat} {D D' : Mat}
theorem Fe.refl : Fe lo w w := ⟨fun _ e _ => e, Nat.le_refl _⟩
theorem Fe.trans (h : Fe lo w w') (k : Fe lo w' w'') : Fe lo w w'' := ⟨fun w0 e hl => k.1 w0 (h.1 w0 e hl) hl, Nat.le_trans h.2 k.2⟩
theorem Fe.ex (e : Ex w w') : Fe lo w w' := ⟨fun _ e0 _ => e0.trans e, e.size⟩
theorem Fe.fr {F : Nat → Prop} (h : Fr F w w') (hF : ∀ k, F k → lo ≤ k) : Fe lo w w' := ⟨fun _w0 e hl => Fr.ex e h fun k hk => Nat.le_trans hl (hF k hk), h.size⟩
theorem AnyM.ext (h : AnyM K w lo g n lab l) (e : Ex w w') : AnyM K w' lo g n lab l := by obtain ⟨s, cp, F, h1, h2⟩ := h; exact ⟨s, cp, F, h1.ext e, h2⟩
theorem AnyM.up (h : AnyM K w lo g n lab l) (hK : K ≤ K') : AnyM K' w lo g n lab l := by obtain ⟨s, cp, F, h1, h2⟩ := h; exact ⟨s, cp, F, h1.up hK, h2⟩
theorem AnyM.fr {Fs : Nat → Prop} {l' : Nat} (h : AnyM K w lo g n lab l) (hg : lab g = l) (hN : NoF Fs w) (hF : Fr Fs w w') (hl : ∀ b, Fs b → lab b = l') (hne : l ≠ l') : AnyM K w' lo g n lab l := by
 obtain ⟨s, cp, F, h1, h2⟩ := h
 exact ⟨s, cp, F, h1.fr hN hF (fun hb => hne (by rw [← hg, hl _ hb])) (fun i hi hb => hne (by rw [← h2 i hi, hl _ hb])), h2⟩
theorem DM.ext (h : DM K w lo gd r c lab D) (e : Ex w w') : DM K w' lo gd r c lab D := by obtain ⟨s, cp, h1, h2⟩ := h; exact ⟨s, cp, h1.ext e, h2⟩
theorem DM.up (h : DM K w lo gd r c lab D) (hK : K ≤ K') : DM K' w lo gd r c lab D := by obtain ⟨s, cp, h1, h2⟩ := h; exact ⟨s, cp, h1.up hK, h2⟩
theorem DM.congr (h : DM K w lo gd r c lab D) (e : ∀ i j, i < r → j < c → D' i j = D i j) : DM K w lo gd r c lab D' := by obtain ⟨s, cp, h1, h2⟩ := h; exact ⟨s, cp, h1.congr e, h2⟩
theorem DM.fr {Fs : Nat → Prop} {l' : Nat} (h : DM K w lo gd r c lab D) (hg : lab gd = 1) (hN : NoF Fs w) (hF : Fr Fs w w') (hl : ∀ b, Fs b → lab b = l') (hne : 1 ≠ l') : DM K w' lo gd r c lab D := by
 obtain ⟨s, cp, h1, h2⟩ := h
 exact ⟨s, cp, h1.fr hN hF (fun hb => hne (by rw [← hg, hl _ hb])) (fun i hi hb => hne (by rw [← h2 i hi, hl _ hb])), h2⟩
theorem EL.ext (h : EL K Ku w lab lo ge r c gd gu gv D) (e : Ex w w') : EL K Ku w' lab lo ge r c gd gu gv D := ⟨h.blk.ext e, h.d.ext e, h.u.ext e, h.v.ext e, h.l0, h.l1, h.l2, h.l3, h.low⟩
theorem EL.up (h : EL K Ku w lab lo ge r c gd gu gv D) (hK : K ≤ K') (hKu : Ku ≤ Ku') : EL K' Ku' w lab lo ge r c gd gu gv D := ⟨h.blk, h.d.up hK, h.u.up hKu, h.v.up hKu, h.l0, h.l1, h.l2, h.l3, h.low⟩
theorem EL.congr (h : EL K Ku w lab lo ge r c gd gu gv D) (e : ∀ i j, i < r → j < c → D' i j = D i j) : EL K Ku w lab lo ge r c gd gu gv D' := ⟨h.blk, h.d.congr e, h.u, h.v, h.l0, h.l1, h.l2, h.l3, h.low⟩
theorem EL.setD {Fs : Nat → Prop} (h : EL K Ku w lab lo ge r c gd gu gv D) (hN : NoF Fs w) (hF : Fr Fs w w') (hl : ∀ b, Fs b → lab b = 1) (hd : DM K' w' lo gd r c lab D') : EL K' Ku w' lab lo ge r c gd gu gv D' :=
 ⟨h.blk.fr hF (fun hb => by have := hl _ hb; have := h.l0; omega), hd, h.u.fr h.l2 hN hF hl (by decide), h.v.fr h.l3 hN hF hl (by decide), h.l0, h.l1, h.l2, h.l3, h.low⟩
theorem EL.setU {Fs : Nat → Prop} (h : EL K Ku w lab lo ge r c gd gu gv D) (hN : NoF Fs w) (hF : Fr Fs w w') (hl : ∀ b, Fs b → lab b = 2) (hK : Ku ≤ Ku') (hd : AnyM Ku' w' lo gu r lab 2) : EL K Ku' w' lab lo ge r c gd gu gv D :=
 ⟨h.blk.fr hF (fun hb => by have := hl _ hb; have := h.l0; omega), h.d.fr h.l1 hN hF hl (by decide), hd, (h.v.fr h.l3 hN hF hl (by decide)).up hK, h.l0, h.l1, h.l2, h.l3, h.low⟩
theorem EL.setV {Fs : Nat → Prop} (h : EL K Ku w lab lo ge r c gd gu gv D) (hN : NoF Fs w) (hF : Fr Fs w w') (hl : ∀ b, Fs b → lab b = 3) (hK : Ku ≤ Ku') (hd : AnyM Ku' w' lo gv c lab 3) : EL K Ku' w' lab lo ge r c gd gu gv D :=
 ⟨h.blk.fr hF (fun hb => by have := hl _ hb; have := h.l0; omega), h.d.fr h.l1 hN hF hl (by decide), (h.u.fr h.l2 hN hF hl (by decide)).up hK, hd, h.l0, h.l1, h.l2, h.l3, h.low⟩
end
def LeastAt (D : Mat) (r c t p q : Nat) : Prop := t ≤ p ∧ p < r ∧ t ≤ q ∧ q < c ∧ D p q ≠ 0 ∧ (∀ a b, t ≤ a → a < r → t ≤ b → b < c → D a b ≠ 0 → (D p q).natAbs ≤ (D a b).natAbs) ∧
 ∀ a b, t ≤ a → t ≤ b → b < c → (a < p ∨ a = p ∧ b < q) → D a b ≠ 0 → (D p q).natAbs < (D a b).natAbs
def Zreg (D : Mat) (r c t : Nat) : Prop := ∀ a b, t ≤ a → a < r → t ≤ b → b < c → D a b = 0
def LJ (D : Mat) (r c t i j p q : Nat) (ok : Bool) : Prop :=
 (ok = false → p = 0 ∧ q = 0 ∧ ∀ a b, t ≤ a → t ≤ b → b < c → (a < i ∨ a = i ∧ b < j) → D a b = 0) ∧
 (ok = true → t ≤ p ∧ p < r ∧ t ≤ q ∧ q < c ∧ D p q ≠ 0 ∧ (∀ a b, t ≤ a → t ≤ b → b < c → (a < i ∨ a = i ∧ b < j) → D a b ≠ 0 → (D p q).natAbs ≤ (D a b).natAbs) ∧
  ∀ a b, t ≤ a → t ≤ b → b < c → (a < p ∨ a = p ∧ b < q) → D a b ≠ 0 → (D p q).natAbs < (D a b).natAbs)
section
variable {D : Mat} {r c t i j p q : Nat} {ok : Bool}
theorem LJ.skip (h : LJ D r c t i j p q ok) (h0 : D i j = 0) : LJ D r c t i (j + 1) p q ok := by
 refine ⟨fun e => ?_, fun e => ?_⟩
 ·obtain ⟨h1, h2, h3⟩ := h.1 e
  refine ⟨h1, h2, fun a b ha hb hc hab => ?_⟩
  by_cases e2 : a = i ∧ b = j
  ·rw [e2.1, e2.2]; exact h0
  ·exact h3 a b ha hb hc (by omega)
 ·obtain ⟨h1, h2, h3, h4, h5, h6, h7⟩ := h.2 e
  refine ⟨h1, h2, h3, h4, h5, fun a b ha hb hc hab hn => ?_, h7⟩
  by_cases e2 : a = i ∧ b = j
  ·rw [e2.1, e2.2] at hn; exact absurd h0 hn
  ·exact h6 a b ha hb hc (by omega) hn
theorem LJ.keep (h : LJ D r c t i j p q true) (h0 : ¬ (D i j).natAbs < (D p q).natAbs) : LJ D r c t i (j + 1) p q true := by
 refine ⟨fun e => (nomatch e), fun e => ?_⟩
 obtain ⟨h1, h2, h3, h4, h5, h6, h7⟩ := h.2 e
 refine ⟨h1, h2, h3, h4, h5, fun a b ha hb hc hab hn => ?_, h7⟩
 by_cases e2 : a = i ∧ b = j
 ·rw [e2.1, e2.2]; omega
 ·exact h6 a b ha hb hc (by omega) hn
theorem LJ.take (h : LJ D r c t i j p q ok) (hi : t ≤ i ∧ i < r) (hj : t ≤ j ∧ j < c) (hn : D i j ≠ 0) (h0 : ok = true → (D i j).natAbs < (D p q).natAbs) : LJ D r c t i (j + 1) i j true := by
 have key : ∀ a b, t ≤ a → t ≤ b → b < c → (a < i ∨ a = i ∧ b < j) → D a b ≠ 0 → (D i j).natAbs < (D a b).natAbs := fun a b ha hb hc hab hn' => by
  cases ok with
  | false => exact absurd ((h.1 rfl).2.2 a b ha hb hc hab) hn'
  | true => exact Nat.lt_of_lt_of_le (h0 rfl) ((h.2 rfl).2.2.2.2.2.1 a b ha hb hc hab hn')
 refine ⟨fun e => (nomatch e), fun _ => ⟨hi.1, hi.2, hj.1, hj.2, hn, fun a b ha hb hc hab hn' => ?_, key⟩⟩
 by_cases e2 : a = i ∧ b = j
 ·rw [e2.1, e2.2]; exact Nat.le_refl _
 ·exact Nat.le_of_lt (key a b ha hb hc (by omega) hn')
theorem LJ.row (h : LJ D r c t i c p q ok) : LJ D r c t (i + 1) t p q ok := by
 refine ⟨fun e => ?_, fun e => ?_⟩
 ·obtain ⟨h1, h2, h3⟩ := h.1 e
  exact ⟨h1, h2, fun a b ha hb hc hab => h3 a b ha hb hc (by omega)⟩
 ·obtain ⟨h1, h2, h3, h4, h5, h6, h7⟩ := h.2 e
  exact ⟨h1, h2, h3, h4, h5, fun a b ha hb hc hab hn => h6 a b ha hb hc (by omega) hn, h7⟩
end
set_option maxHeartbeats 4000000 in
theorem pC {K Ku lo ge r c gd gu gv t : Nat} {w : World} {lab : Nat → Nat} {D : Mat} (hE : EL K Ku w lab lo ge r c gd gu gv D) (hr : r ≤ 1000) (hc : c ≤ 1000) (ht : t ≤ r ∧ t ≤ c) :
  CallsR Tryz.prog 58 #[.pointer (some ⟨ge, 0, none⟩), .int .i64 (t : Int)] w fun v w' => Ex w w' ∧ ((v = .tuple #[.int .i64 0, .int .i64 0, .bool false] ∧ Zreg D r c t) ∨ ∃ p q : Nat, v = .tuple #[.int .i64 (p : Int), .int .i64 (q : Int), .bool true] ∧ LeastAt D r c t p q) := by
 obtain ⟨s, cp, hM, hlab⟩ := hE.d
 have hb := hE.blk
 refine aH (args := [_, _]) Tryz.func58 rfl rfl ?_
 repeat' (first|refine ai rfl ?_|refine aa ?_|refine aj ?_|refine ah rfl ?_|refine ae ?_|refine aA ?_)
 refine aY (ι := Nat × Nat × Nat × Bool) [4, 5, 6, 7, 8, 10, 11, 12, 13, 14, 15, 16, 17, 18, 19, 20, 21, 22, 23, 24, 25, 26, 27, 28, 29, 30, 31, 32, 33, 34, 35, 36, 37, 38, 39, 40, 41, 42, 43, 44, 45, 46, 47, 48, 49, 50, 51, 52, 53, 54, 55, 56, 57, 58, 59, 60, 61, 62, 63, 64, 65, 66, 67, 68, 69, 70, 71, 72, 73] (fun x => [(7, .int .i64 (x.1 : Int)), (4, .int .i64 (x.2.1 : Int)), (5, .int .i64 (x.2.2.1 : Int)), (6, .bool x.2.2.2)])
  (fun x w' => (t ≤ x.1 ∧ x.1 ≤ r) ∧ Ex w w' ∧ LJ D r c t x.1 t x.2.1 x.2.2.1 x.2.2.2) (fun x => r - x.1)
  (t, 0, 0, false) ⟨rfl, rfl, rfl, rfl, trivial⟩ ⟨⟨Nat.le_refl _, ht.1⟩, Ex.refl _, ⟨fun _ => ⟨rfl, rfl, fun a b ha hb hc hab => by omega⟩, fun e => (nomatch e)⟩⟩ ?_
 rintro ⟨i, p, q, ok⟩ ξ w2 ⟨⟨hti, hir⟩, hE2, hJ⟩
 simp only at hti hir hJ
 show CW _ _ _ _ (over [(7, .int .i64 (i : Int)), (4, .int .i64 (p : Int)), (5, .int .i64 (q : Int)), (6, .bool ok)] _) w2
 rcases Nat.lt_or_ge i r with hi | hi
 ·repeat' (first|refine aQ (g := ge) (cs := elL gd gu gv r c) rfl (hb.ext hE2) rfl ?_|refine bC rfl rfl (by omega) ?_|refine ai rfl ?_|refine aa ?_|refine aj ?_|refine ah rfl ?_|refine ae ?_|refine bh rfl ?_|refine aG rfl ?_|refine aD rfl ?_|refine aA ?_|refine aF ?_)
  refine aY (ι := Nat × Nat × Nat × Bool) [4, 5, 6, 8, 20, 21, 22, 23, 24, 25, 26, 27, 28, 29, 30, 31, 32, 33, 34, 35, 36, 37, 38, 39, 40, 41, 42, 43, 44, 45, 46, 47, 48, 49, 50, 51, 52, 53, 54, 55, 56, 57, 58, 59, 60, 61, 62, 63, 64, 65, 66, 67, 68, 69, 70, 71, 72, 73] (fun x => [(8, .int .i64 (x.1 : Int)), (4, .int .i64 (x.2.1 : Int)), (5, .int .i64 (x.2.2.1 : Int)), (6, .bool x.2.2.2)])
   (fun x w' => (t ≤ x.1 ∧ x.1 ≤ c) ∧ Ex w w' ∧ LJ D r c t i x.1 x.2.1 x.2.2.1 x.2.2.2) (fun x => c - x.1)
   (t, p, q, ok) ⟨rfl, rfl, rfl, rfl, trivial⟩ ⟨⟨Nat.le_refl _, ht.2⟩, hE2, hJ⟩ ?_
  clear hJ hE2
  rintro ⟨j, p', q', ok'⟩ ξ2 w3 ⟨⟨htj, hjc⟩, hE3, hJ⟩
  simp only at htj hjc hJ
  show CW _ _ _ _ (over [(8, .int .i64 (j : Int)), (4, .int .i64 (p' : Int)), (5, .int .i64 (q' : Int)), (6, .bool ok')] _) w3
  obtain ⟨hh, hbi, hci, hEi⟩ := (hM.ext hE3).get hi
  have hT3 := (hM.ext hE3).top
  rcases Nat.lt_or_ge j c with hj | hj
  ·repeat' (first|refine aQ (g := ge) (cs := elL gd gu gv r c) rfl (hb.ext hE3) rfl ?_|refine aC (j := i) (a := some ⟨gd, 0, none⟩) rfl rfl ⟨_, _, rfl⟩ (by omega) ?_|refine aU (j := i) (a := some ⟨gd, 0, none⟩) (n := r) (s := fun k => ⟨some ⟨s k, 0, none⟩, c, cp k⟩) rfl hT3.sl (by omega) rfl ?_|refine aT (j := j) (a := some ⟨s i, 0, none⟩) rfl rfl ⟨_, _, rfl⟩ (by omega) ?_|refine bu (j := j) (n := cp i) (a := some ⟨s i, 0, none⟩) rfl hbi.sl ⟨_, _, rfl⟩ (by omega) ?_|refine bC rfl rfl (by omega) ?_|refine ai rfl ?_|refine aa ?_|refine aj ?_|refine ah rfl ?_|refine ae ?_|refine bh rfl ?_|refine aG rfl ?_|refine aD rfl ?_|refine aA ?_|refine aF ?_)
   refine av (bP (hEi j hj).k) rfl ?_
   rintro v w4 ⟨rfl, hE4⟩
   refine ⟨fun _ _ => trivial, ?_⟩
   have hE04 := hE3.trans hE4
   by_cases h0 : D i j = 0
   ·repeat' (first|refine jJ rfl rfl (Int.sign_eq_zero_iff_zero.2 h0) ?_|refine ai rfl ?_|refine aa ?_|refine ah rfl ?_|refine ae ?_|refine aZ rfl rfl (by omega) (by omega) ?_|refine aD rfl ?_|refine aV ?_|refine aL ?_|refine aW ?_)
    exact ⟨⟨(j + 1, p', q', ok'), ⟨⟨by simp only; omega, hj⟩, hE04, hJ.skip h0⟩, by simp only; omega, rfl, rfl, rfl, rfl, trivial⟩, (by (repeat (first|exact aE _ _ _|refine aw rfl ?_|refine au rfl ?_|refine ak rfl ?_|refine ao rfl ?_)))⟩
   ·repeat' (first|refine gq rfl rfl (fun e => h0 (Int.sign_eq_zero_iff_zero.1 e)) ?_|refine aa ?_|refine aj ?_|refine ae ?_|refine ay rfl ?_|refine aF ?_)
    cases ok' with
    | false =>
     refine bi (late := []) (plan := [(0, none), (1, none), (2, none), (3, none), (4, none), (5, none), (6, none), (7, none), (8, none), (9, none), (10, none), (11, none), (12, none), (14, none), (15, none), (16, none), (17, none), (18, none), (19, none), (20, none), (21, none), (22, none), (23, none), (13, some true), (24, some true), (25, some true), (26, none), (27, none)]) (fun w' => Ex w4 w') bB (by kernel_rfl) (Ex.refl w4).drew ?_
     have hEd := (Ex.refl w4).drew
     repeat' (first|refine ai rfl ?_|refine aa ?_|refine ah rfl ?_|refine ae ?_|refine cB rfl rfl ?_|refine aZ rfl rfl (by omega) (by omega) ?_|refine aD rfl ?_|refine aK ?_)
     exact ⟨⟨(j + 1, i, j, true), ⟨⟨by simp only; omega, hj⟩, hE04.trans hEd, hJ.take ⟨hti, hi⟩ ⟨htj, hj⟩ h0 (fun e => (nomatch e))⟩, by simp only; omega, rfl, rfl, rfl, rfl, trivial⟩, (by (repeat (first|exact aE _ _ _|refine aw rfl ?_|refine au rfl ?_|refine ak rfl ?_|refine ao rfl ?_)))⟩
    | true =>
     obtain ⟨hp1, hp2, hq1, hq2, hpq, _⟩ := hJ.2 rfl
     obtain ⟨hhp, hbp, hcp, hEp⟩ := (hM.ext hE04).get hp2
     refine bi (late := []) (plan := [(0, none), (1, none), (2, none), (3, none), (4, none), (5, none), (6, none), (7, none), (8, none), (9, none), (10, none), (11, none), (12, none), (14, none), (15, none), (16, none), (17, none), (18, none), (19, none), (20, none), (21, none), (22, none), (23, none), (13, some true), (24, some true), (25, some true), (26, none), (27, none)]) (fun w' => Ex w4 w') bB (by kernel_rfl) (Ex.refl w4).drew ?_
     have hEd := (Ex.refl w4).drew
     repeat' (first|refine aQ (g := ge) (cs := elL gd gu gv r c) rfl (fun _ h => hb.ext (hE04.trans h)) rfl ?_|refine aC (j := i) (a := some ⟨gd, 0, none⟩) rfl rfl ⟨_, _, rfl⟩ (by omega) ?_|refine aU (j := i) (a := some ⟨gd, 0, none⟩) (n := r) (s := fun k => ⟨some ⟨s k, 0, none⟩, c, cp k⟩) rfl (fun _ h => (hT3.ext (hE4.trans h)).sl) (by omega) rfl ?_|refine aT (j := j) (a := some ⟨s i, 0, none⟩) rfl rfl ⟨_, _, rfl⟩ (by omega) ?_|refine bu (j := j) (n := cp i) (a := some ⟨s i, 0, none⟩) rfl (fun _ h => (hbi.ext (hE4.trans h)).sl) ⟨_, _, rfl⟩ (by omega) ?_|refine aC (j := p') (a := some ⟨gd, 0, none⟩) rfl rfl ⟨_, _, rfl⟩ (by omega) ?_|refine aU (j := p') (a := some ⟨gd, 0, none⟩) (n := r) (s := fun k => ⟨some ⟨s k, 0, none⟩, c, cp k⟩) rfl (fun _ h => (hT3.ext (hE4.trans h)).sl) (by omega) rfl ?_|refine aT (j := q') (a := some ⟨s p', 0, none⟩) rfl rfl ⟨_, _, rfl⟩ (by omega) ?_|refine bu (j := q') (n := cp p') (a := some ⟨s p', 0, none⟩) rfl (fun _ h => (hbp.ext h).sl) ⟨_, _, rfl⟩ (by omega) ?_|refine ai rfl ?_|refine bR rfl rfl ?_|refine aG rfl ?_)
     refine av (mB ((hEi j hj).ext (hE4.trans hEd))) rfl ?_
     rintro v w5 ⟨hI5, hE5⟩
     refine ⟨fun _ h => h.trans hE5, ?_⟩
     have hE45 := hEd.trans hE5
     repeat' (first|refine bR rfl rfl ?_)
     refine av (mB ((hEp q' hq2).ext hE45)) rfl ?_
     rintro v w6 ⟨hI6, hE6⟩
     refine ⟨fun _ h => h.trans hE6, ?_⟩
     repeat' (first|refine bR rfl rfl ?_)
     refine av (me (hI5.ext hE6).k hI6.k) rfl ?_
     rintro v w7 ⟨rfl, hE7⟩
     refine ⟨fun _ h => h.trans hE7, ?_⟩
     have hE07 := hE04.trans ((hE45.trans hE6).trans hE7)
     by_cases hlt : (D i j).natAbs < (D p' q').natAbs
     ·repeat' (first|refine bC rfl rfl (cW.2 (by omega)) ?_|refine ai rfl ?_|refine aa ?_|refine ah rfl ?_|refine ae ?_|refine bR rfl rfl ?_|refine aZ rfl rfl (by omega) (by omega) ?_|refine aD rfl ?_|refine aK ?_)
      exact ⟨⟨(j + 1, i, j, true), ⟨⟨by simp only; omega, hj⟩, hE07, hJ.take ⟨hti, hi⟩ ⟨htj, hj⟩ h0 (fun _ => hlt)⟩, by simp only; omega, rfl, rfl, rfl, rfl, trivial⟩, (by (repeat (first|exact aE _ _ _|refine aw rfl ?_|refine au rfl ?_|refine ak rfl ?_|refine ao rfl ?_)))⟩
     ·have hs : ¬ (((D i j).natAbs : Int) - ((D p' q').natAbs : Int)).sign < 0 := fun e => by have := cW.1 e; omega
      repeat' (first|refine bA rfl rfl (by omega) ?_|refine ai rfl ?_|refine aa ?_|refine ah rfl ?_|refine ae ?_|refine bR rfl rfl ?_|refine aZ rfl rfl (by omega) (by omega) ?_|refine ay rfl ?_|refine aK ?_|refine aF ?_)
      exact ⟨⟨(j + 1, p', q', true), ⟨⟨by simp only; omega, hj⟩, hE07, hJ.keep hlt⟩, by simp only; omega, rfl, rfl, rfl, rfl, trivial⟩, (by (repeat (first|exact aE _ _ _|refine aw rfl ?_|refine au rfl ?_|refine ak rfl ?_|refine ao rfl ?_)))⟩
  ·have : j = c := by omega
   subst this
   repeat' (first|refine aQ (g := ge) (cs := elL gd gu gv r j) rfl (hb.ext hE3) rfl ?_|refine aC (j := i) (a := some ⟨gd, 0, none⟩) rfl rfl ⟨_, _, rfl⟩ (by omega) ?_|refine aU (j := i) (a := some ⟨gd, 0, none⟩) (n := r) (s := fun k => ⟨some ⟨s k, 0, none⟩, j, cp k⟩) rfl hT3.sl (by omega) rfl ?_|refine bA rfl rfl (by omega) ?_|refine ai rfl ?_|refine aa ?_|refine aj ?_|refine ah rfl ?_|refine ae ?_|refine bh rfl ?_|refine aZ rfl rfl (by omega) (by omega) ?_|refine aG rfl ?_|refine ay rfl ?_|refine aV ?_|refine aL ?_|refine aW ?_|refine aK ?_)
   exact ⟨⟨(i + 1, p', q', ok'), ⟨⟨by simp only; omega, hi⟩, hE3, hJ.row⟩, by simp only; omega, rfl, rfl, rfl, rfl, trivial⟩, (by (repeat (first|exact aE _ _ _|refine aw rfl ?_|refine au rfl ?_|refine ak rfl ?_|refine ao rfl ?_)))⟩
 ·have : i = r := by omega
  subst this
  repeat' (first|refine aQ (g := ge) (cs := elL gd gu gv i c) rfl (hb.ext hE2) rfl ?_|refine bA rfl rfl (by omega) ?_|refine ai rfl ?_|refine aa ?_|refine aj ?_|refine ah rfl ?_|refine ae ?_|refine bh rfl ?_|refine aG rfl ?_|refine ay rfl ?_|refine aV ?_|refine aL ?_|refine aW ?_|refine aR ?_)
  cases ok with
  | false =>
   obtain ⟨rfl, rfl, h3⟩ := hJ.1 rfl
   exact fM rfl (rt rfl) (rt rfl) (rt rfl) ⟨hE2, .inl ⟨rfl, fun a b ha hai hb hbc => h3 a b ha hb hbc (.inl hai)⟩⟩
  | true =>
   obtain ⟨h1, h2, h3, h4, h5, h6, h7⟩ := hJ.2 rfl
   exact fM rfl (rt rfl) (rt rfl) (rt rfl) ⟨hE2, .inr ⟨p, q, rfl, h1, h2, h3, h4, h5, fun a b ha hai hb hbc hn => h6 a b ha hb hbc (.inl hai) hn, h7⟩⟩
end Go.Proofs.YtppipmkpmmdcjaaGreat
namespace Go.Proofs.YtppipmkpmmdcjaaGreat
open Go.W Go.LM
theorem lh {ls : List Nat} {a : Option Addr} {c bit : Nat} {w : World} (h : Limbs w a c ls) (hl : ls.length < 17592186044416) (hbit : bit ≤ 1) :
  CallsR Tryz.prog 92 #[.slice a ls.length c, .int .u32 (bit : Int)] w (RetM w fun r => natOf r = 2 * natOf ls + bit) := by
 refine aH (args := [_, _]) Tryz.func92 rfl rfl ?_
 repeat' (first|refine ai rfl ?_|refine aa ?_|refine aj ?_|refine ah rfl ?_|refine ae ?_|refine bh rfl ?_|refine aA ?_)
 refine aY (ι := Nat × List Nat × Nat × Option Addr × Nat) [1, 5, 7, 10, 11, 12, 13, 14, 15, 16, 17, 18, 19, 20, 21, 22, 23] (fun s => [(10, .int .i64 (s.1 : Int)), (5, .slice s.2.2.2.1 s.1 s.2.2.2.2), (1, .int .u32 (s.2.2.1 : Int))])
  (fun s w' => s.1 ≤ ls.length ∧ s.2.1.length = s.1 ∧ Own w' w.heap.size 53 1 s.2.2.2.1 s.1 s.2.2.2.2 (limbsL s.2.1) ∧ Lim s.2.1 ∧ s.2.2.1 ≤ 1 ∧ natOf s.2.1 + s.2.2.1 * 4294967296 ^ s.1 = 2 * natOf (ls.take s.1) + bit ∧ Ex w w')
  (fun s => ls.length - s.1) (0, [], bit, none, 0) ⟨rfl, rfl, rfl, trivial⟩ ⟨by simp, rfl, Own.nil _ _ _ _, by intro d hd; simp at hd, hbit, by simp [natOf], Ex.refl _⟩ ?_
 rintro ⟨i, S, cy, o, cap⟩ ξ w1 ⟨hi, hS, hO, hL, hcy, hN, hE⟩
 simp only at hi hS hO hL hcy hN
 show CW _ _ _ _ (over [(10, .int .i64 (i : Int)), (5, .slice o i cap), (1, .int .u32 (cy : Int))] _) w1
 have h1 := h.ext hE
 have hx := h.lim.getD i
 have hdd := qz (x := ls.getD i 0) hcy
 repeat' (first|(refine aC rfl rfl (h1.sl.plain (by simp; omega)) (by omega) ?_)|refine bI rfl h1.sl (by omega) ?_|(refine jp (j := 1) rfl rfl rfl (by simp only [IntKind.bits]; omega) ?_)|(refine ko rfl rfl rfl (Nat.mod_lt _ (by decide)) (by simp only [IntKind.bits]; omega) ?_)|refine fY (j := 31) rfl rfl (.inl rfl) ?_|refine mQ rfl rfl rfl rfl hO (by omega) (by omega) hE.size (fun gx o2 c2 w2 hO2 hg2 hA2 => ?_)|refine ai rfl ?_|refine aa ?_|refine aj ?_|refine ah rfl ?_|refine ae ?_|refine aZ rfl rfl (by omega) (by omega) ?_|refine aP rfl (fun hc => ?_) (fun hc => ?_)|refine aA ?_|refine aV ?_|refine aL ?_|refine aW ?_|refine aK ?_|refine aR ?_|refine aF ?_)
 ·have hO3 : Own w2 w.heap.size 53 1 o2 (i + 1) c2 (limbsL (S ++ [(cy + 2 * ls.getD i 0) % 4294967296])) := by rw [← hdd.1]; exact hO2
  refine ⟨⟨(i + 1, S ++ [(cy + 2 * ls.getD i 0) % 4294967296], (cy + 2 * ls.getD i 0) / 4294967296, o2, c2), ⟨by simp only; omega, by simp [hS], hO3, hL.snoc (Nat.mod_lt _ (by decide)), by simp only; omega, ?_, hO.grow_ex hg2 hE (Nat.le_refl _)⟩, by simp only; omega, rfl, rfl, ?_, trivial⟩, (by (repeat (first|exact aE _ _ _|refine aw rfl ?_|refine au rfl ?_|refine ak rfl ?_|refine ao rfl ?_)))⟩
  ·subst hS
   show natOf (S ++ [(cy + 2 * ls.getD S.length 0) % 4294967296]) + _ = _
   rw [mc hN rfl, bQ ls, Nat.mul_add, Nat.mul_assoc]
   omega
  ·show Value.int .u32 _ = _
   rw [hdd.2]
 ·have hi2 := bU (l := ls) (k := i) (by omega)
  refine bK rfl (rt rfl) ⟨S ++ [cy], o2, c2, by rw [List.length_append, hS]; rfl, ⟨hO2.sl, by have := hO2.cap; simp; omega, hL.snoc (by omega), by simp; omega⟩, ?_, hO.grow_ex hg2 hE (Nat.le_refl _)⟩
  show natOf (S ++ [cy]) = _
  rw [dm, hS, Nat.mul_comm, hN, hi2]
set_option maxHeartbeats 2000000 in
theorem lj {la lb : List Nat} {a b : Option Addr} {c d : Nat} {w : World} (ha : Limbs w a c la) (hb : Limbs w b d lb) (hla : la.length < 17592186044416) (hlb : lb.length < 17592186044416) (cb : Canon lb) (hpos : 0 < natOf lb) :
  CallsR Tryz.prog 66 #[.slice a la.length c, .slice b lb.length d] w fun v w' => ∃ a1 c1 l1 a2 c2 l2, v = .tuple #[.slice a1 (List.length l1) c1, .slice a2 (List.length l2) c2] ∧
   Limbs w' a1 c1 l1 ∧ Limbs w' a2 c2 l2 ∧ natOf l1 = natOf la / natOf lb ∧ natOf l2 = natOf la % natOf lb ∧ Ex w w' := by
 by_cases hsm : la.length ≤ 2 ∧ lb.length ≤ 2
 ·exact gz ha hb hsm.1 hsm.2 hpos
 refine aH (args := [_, _]) Tryz.func66 rfl rfl ?_
 repeat' (first|refine eM rfl rfl (by omega) (by omega) (fun g w1 hn1 => ⟨fun _ _ => trivial, ?_⟩)|refine mJ rfl rfl (by omega) (by omega) ?_|refine ai rfl ?_|refine aa ?_|refine aj ?_|refine ah rfl ?_|refine ae ?_|refine bh rfl ?_|refine bR rfl rfl ?_|refine cB rfl rfl ?_|refine eL rfl rfl (fun hc => ?_) (fun hc => ?_)|refine cO rfl rfl (by omega) (by omega) ?_|refine ay rfl ?_|refine aP rfl (fun hc => ?_) (fun hc => ?_)|refine aA ?_|refine aF ?_)
 all_goals try (exfalso; omega)
 all_goals
  refine aY (ι := Nat × List Nat × List Nat × Option Addr × Nat) [5, 8, 38, 39, 40, 41, 42, 43, 44, 45, 46, 47, 48, 49, 50, 51, 52, 53, 54, 55, 56, 57, 58, 59, 60, 61, 62, 63, 64, 65, 66, 67, 68, 69, 70, 71] (fun s => [(8, .int .i64 ((s.1 : Int) - 1)), (5, .slice s.2.2.2.1 s.2.2.1.length s.2.2.2.2)])
   (fun s w' => s.1 ≤ 32 * la.length ∧ Ex w w' ∧ Blk w' g 53 (limbsL s.2.1) ∧ s.2.1.length = la.length ∧ Lim s.2.1 ∧ natOf s.2.1 = natOf la / 2 ^ s.1 / natOf lb * 2 ^ s.1 ∧ Limbs w' s.2.2.2.1 s.2.2.2.2 s.2.2.1 ∧ Canon s.2.2.1 ∧ natOf s.2.2.1 = natOf la / 2 ^ s.1 % natOf lb)
   (fun s => s.1) (32 * la.length, List.replicate la.length 0, [], none, 0) ⟨by first|rfl|(show Value.int .i64 _ = _; congr 1; simp), rfl, trivial⟩ ⟨by simp, hn1.ex, hn1.blk, by simp, Lim.zeros _, ?_, Limbs.nil _ _ _, rfl, ?_⟩ ?_
  ·have hz : natOf la / 2 ^ (32 * la.length) = 0 := Nat.div_eq_of_lt (by rw [rL]; exact bT ha.lim)
   simp only [cV]
   rw [hz]; simp
  ·have hz : natOf la / 2 ^ (32 * la.length) = 0 := Nat.div_eq_of_lt (by rw [rL]; exact bT ha.lim)
   simp only
   rw [hz]; simp [natOf]
  rintro ⟨k, Q, R, o, cap⟩ ξ w2 ⟨hk, hE, hbQ, hQl, hQL, hQn, hR, hRc, hRn⟩
  simp only at hk hbQ hQl hQL hQn hR hRc hRn
  show CW _ _ _ _ (over [(8, .int .i64 ((k : Int) - 1)), (5, .slice o R.length cap)] _) w2
  have hRlt : natOf R < natOf lb := by rw [hRn]; exact Nat.mod_lt _ hpos
  have hRlen : R.length ≤ lb.length := cR hRc (Nat.lt_trans hRlt (bT hb.lim))
  repeat' (first|refine ai rfl ?_|refine aa ?_|refine aj ?_|refine ah rfl ?_|refine ae ?_|refine aP rfl (fun hc => ?_) (fun hc => ?_)|refine aA ?_|refine aV ?_|refine aL ?_|refine aW ?_|refine aF ?_)
  ·obtain ⟨j, rfl⟩ : ∃ j, k = j + 1 := ⟨k - 1, by omega⟩
   rw [show ((j + 1 : Nat) : Int) - 1 = (j : Int) by omega]
   have ha2 := ha.ext hE
   have hb2 := hb.ext hE
   have hbit : (la.getD (j / 32) 0 >>> (j % 32) &&& 1) = natOf la / 2 ^ j % 2 := by
    rw [Nat.and_one_is_mod, Nat.shiftRight_eq_div_pow, ← nX ha.lim (Nat.mod_lt _ (by decide)), show 32 * (j / 32) + j % 32 = j by omega]
   have hla32 := ha.lim.getD (j / 32)
   repeat' (first|refine rh rfl rfl (by omega) (by omega) (by omega) ?_|refine jH rfl rfl (by omega) (by omega) ?_|(refine aC (j := j / 32) rfl (by show Value.int .i64 ((j : Int) / 32) = _; congr 1) (ha2.sl.plain (by simp; omega)) (by omega) ?_)|refine bI rfl ha2.sl (by omega) ?_|(refine fY (j := j % 32) rfl (by show Value.int .i64 ((j : Int) % 32) = _; congr 1) (.inr (by simp only [IntKind.bits]; omega)) ?_)|(refine uw (m' := 1) rfl rfl rfl (Nat.lt_of_le_of_lt (by rw [Nat.shiftRight_eq_div_pow]; exact Nat.div_le_self _ _) hla32) (by decide) ?_)|refine ai rfl ?_)
   refine av (lh hR (by omega) (by rw [hbit]; omega)) rfl ?_
   rintro v w3 ⟨l3, a3, c3, rfl, hL3, hv3, hE3⟩
   refine ⟨fun _ _ => trivial, ?_⟩
   refine av (cz hL3) rfl ?_
   rintro v w4 ⟨a4, c4, rfl, hL4, hf4, hE4⟩
   refine ⟨fun _ _ => trivial, ?_⟩
   have hE24 := hE3.trans hE4
   have hb4 := (hb2.ext hE24)
   have hv4 : natOf (trimL l3) = 2 * (natOf la / 2 ^ (j + 1) % natOf lb) + natOf la / 2 ^ j % 2 := by rw [bf, show natOf l3 = _ from hv3, hRn, hbit]
   have hst := tA (N := natOf la) (i := j) hpos rfl rfl
   have hge := ka (m := natOf (trimL l3)) (n := natOf lb)
   repeat' (first|refine ai rfl ?_|refine aa ?_|refine aj ?_|refine ah rfl ?_|refine ae ?_)
   refine av (gM hL4 hb4 (bD _) cb) rfl ?_
   rintro v w5 ⟨rfl, hE5⟩
   refine ⟨fun _ _ => trivial, ?_⟩
   have hbQ5 := hbQ.ext (hE24.trans hE5)
   have hQlt := hbQ5.lt
   repeat' (first|refine ai rfl ?_|refine aa ?_|refine aj ?_|refine ah rfl ?_|refine ae ?_|refine cO rfl rfl (by omega) (by omega) ?_|refine aP rfl (fun hc => ?_) (fun hc => ?_)|refine aK ?_|refine aF ?_)
   ·refine av (dU (hL4.ext hE5) (hb4.ext hE5) (by omega) cb (bD _)) rfl ?_
    rintro v w6 ⟨l6, a6, c6, rfl, hL6, hv6, hE6⟩
    refine ⟨fun _ _ => trivial, ?_⟩
    refine av (cz hL6) rfl ?_
    rintro v w7 ⟨a7, c7, rfl, hL7, hf7, hE7⟩
    refine ⟨fun _ _ => trivial, ?_⟩
    have hE67 := hE6.trans hE7
    have hbQ7 := hbQ5.ext hE67
    have s6 := hE6.size
    repeat' (first|refine ai rfl ?_|refine aa ?_|refine ae ?_)
    refine bi (late := [10]) (plan := [(0, none), (1, none), (2, none), (3, none), (4, none), (5, none), (6, none), (7, none), (8, none), (9, none), (10, some false)]) (fun w' => Blk w' g 53 (limbsL Q)) bB (by kernel_rfl) hbQ7.drew ?_
    have hset := tz (Q := Q) (i := j) hQL (by omega) (by rw [hQn]; exact Nat.mul_mod_left _ _)
    have hsh : (1 <<< (j % 32)) % 2 ^ IntKind.u32.bits = 2 ^ (j % 32) := by
     rw [Nat.one_shiftLeft]; exact Nat.mod_eq_of_lt (Nat.pow_lt_pow_right (by decide) (by simp only [IntKind.bits]; omega))
    repeat' (first|refine rh rfl rfl (by omega) (by omega) (by omega) ?_|refine jH rfl rfl (by omega) (by omega) ?_|(refine aC (j := j / 32) rfl (by show Value.int .i64 ((j : Int) / 32) = _; congr 1) ⟨_, _, rfl⟩ (by omega) ?_)|refine bI rfl (fun _ h => h.sl) (by omega) ?_|(refine jp (m := 1) (j := j % 32) rfl (by show Value.int .i64 ((j : Int) % 32) = _; congr 1) rfl (by simp only [IntKind.bits]; omega) ?_)|refine ko rfl rfl rfl (hQL.getD _) (Nat.mod_lt _ (by decide)) ?_|refine ai rfl ?_)
    rw [hsh]
    refine dC rfl rfl hbQ7.drew (by omega) (fun w8 hc8 hb8 => ⟨fun h => (nomatch h), ?_⟩)
    repeat' (first|refine ai rfl ?_|refine aa ?_|refine ah rfl ?_|refine ae ?_|refine cO rfl rfl (by omega) (by omega) ?_|refine aK ?_)
    have hd2 := hst.2 (by omega)
    have hE8 := ((hE.trans (hE24.trans hE5)).trans hE67).drew.chg hc8 hn1.lo
    refine ⟨⟨(j, Q.set (j / 32) (Q.getD (j / 32) 0 ||| 2 ^ (j % 32)), trimL l6, a7, c7), ⟨by simp only; omega, hE8, hb8, by simp [hQl], hQL.set hset.2, ?_, hL7.drew.chg hc8 (fun ad e => by have := hf7 ad e; omega), bD _, ?_⟩, by simp only; omega, rfl, rfl, trivial⟩, (by (repeat (first|exact aE _ _ _|refine aw rfl ?_|refine au rfl ?_|refine ak rfl ?_|refine ao rfl ?_)))⟩
    ·simp only
     rw [hset.1, hQn, hd2.2]
    ·simp only
     rw [bf, show natOf l6 = _ from hv6, hv4, hd2.1]
   ·have hd2 := hst.1 (by omega)
    refine ⟨⟨(j, Q, trimL l3, a4, c4), ⟨by simp only; omega, hE.trans (hE24.trans hE5), hbQ5, hQl, hQL, ?_, hL4.ext hE5, bD _, ?_⟩, by simp only; omega, rfl, rfl, trivial⟩, (by (repeat (first|exact aE _ _ _|refine aw rfl ?_|refine au rfl ?_|refine ak rfl ?_|refine ao rfl ?_)))⟩
    ·simp only
     rw [hQn, hd2.2]
    ·simp only
     rw [hv4, hd2.1]
  ·obtain rfl : k = 0 := by omega
   simp only [Nat.pow_zero, Nat.div_one, Nat.mul_one] at hQn hRn
   have hLQ := Limbs.of_blk (c := la.length) hbQ (by omega) hQL (by omega)
   have hcall := cz hLQ
   rw [hQl] at hcall
   refine av hcall rfl ?_
   rintro v w3 ⟨a3, c3, rfl, hL3, hf3, hE3⟩
   refine ⟨fun _ _ => trivial, ?_⟩
   repeat' (first|refine ai rfl ?_|refine aa ?_|refine ae ?_|refine aR ?_)
   exact eN rfl (rt rfl) (rt rfl) ⟨a3, c3, trimL Q, o, cap, R, rfl, hL3, hR.ext hE3, by rw [bf, hQn], hRn, hE.trans hE3⟩
end Go.Proofs.YtppipmkpmmdcjaaGreat
