import Derived.Test.YtiejljicpinheaaA19
import Derived.Test.YtiejljicpinheaaC01
namespace Go.Proofs.Ytiejljicpinheaa
open Go.W Go.LM Go.LA
theorem m9 {n cap sl sc : Nat} {w : World} {a sa : Option Addr} {s : Nat → SD} (hS : Sl w a (topC n s)) (hno : ¬ okS n s) :
  CallsR Try.prog 20 #[.slice a n cap, .slice sa sl sc] w fun v w' => v = .bool false ∧ Ex w w' := by
 refine aG (args := [_, _]) Try.func20 rfl rfl ?_
 repeat' (first|refine ai rfl ?_|refine aa ?_|refine aj ?_|refine ah rfl ?_|refine ae ?_)
 refine aw (lU hS hno) rfl ?_
 rintro v w1 ⟨rfl, hE1⟩
 refine ⟨fun _ _ => trivial, ?_⟩
 repeat' (first|refine aO rfl rfl ?_|refine ai rfl ?_|refine aa ?_|refine aj ?_|refine ah rfl ?_|refine ae ?_|refine bP rfl rfl ?_|refine aC rfl ?_|refine aK ?_|refine aX ?_)
 exact bB rfl (rt rfl) ⟨rfl, hE1⟩
theorem lW {cn : Bool} {K r c cap sl sc : Nat} {w : World} {a sa : Option Addr} {s : Nat → SD} {A : Mat} (hM : MX cn K w a r c s A) (hr : 1 ≤ r ∧ r ≤ 16) (hc : 1 ≤ c ∧ c ≤ 16) (hK1 : 1 ≤ K) (hK : 300 * K + 1000 < 4398046511104) (hl : sl ≠ r) :
  CallsR Try.prog 20 #[.slice a r cap, .slice sa sl sc] w fun v w' => v = .bool false ∧ Ex w w' := by
 refine aG (args := [_, _]) Try.func20 rfl rfl ?_
 repeat' (first|refine ai rfl ?_|refine aa ?_|refine aj ?_|refine ah rfl ?_|refine ae ?_)
 refine aw (dy hM hr hc hK1 hK) rfl ?_
 rintro v w1 ⟨g, g', gs, cp, gs', cp', H, U, k0, p0, rfl, hF, hE1⟩
 refine ⟨fun _ _ => trivial, ?_⟩
 repeat' (first|refine aO rfl rfl ?_|refine eQ rfl rfl (by omega) ?_|refine ai rfl ?_|refine aa ?_|refine aj ?_|refine ah rfl ?_|refine ae ?_|refine aY rfl ?_|refine bG rfl rfl ?_|refine aC rfl ?_|refine aK ?_|refine aX ?_)
 exact bB rfl (rt rfl) ⟨rfl, hE1⟩
set_option maxHeartbeats 4000000 in
theorem ky {cn cx : Bool} {K Kx r c cap : Nat} {w : World} {a : Option Addr} {s : Nat → SD} {A : Mat} {sx : SD} {X : Nat → Int} (hM : MX cn K w a r c s A) (hX : RX cx Kx w sx r X) (hr : 1 ≤ r ∧ r ≤ 16) (hc : 1 ≤ c ∧ c ≤ 16) (hK1 : 1 ≤ K) (hK : 1000 * K + Kx + 3000 < 4398046511104) :
  CallsR Try.prog 20 #[.slice a r cap, .slice sx.a r sx.cap] w fun v w' => ∃ t : Bool, v = .bool t ∧ (t = true ↔ InL r c A X) ∧ Ex w w' := by
 refine aG (args := [_, _]) Try.func20 rfl rfl ?_
 repeat' (first|refine ai rfl ?_|refine aa ?_|refine aj ?_|refine ah rfl ?_|refine ae ?_)
 refine aw (dy hM hr hc hK1 (by omega)) rfl ?_
 rintro v w1 ⟨g, g', gs, cp, gs', cp', H, U, k0, p0, rfl, hF, hE1⟩
 refine ⟨fun _ _ => trivial, ?_⟩
 repeat' (first|refine aO rfl rfl ?_|refine dq rfl rfl rfl ?_|refine et (n := r) rfl rfl (by omega) (by omega) (fun g8 w2 hn2 => ⟨fun _ _ => trivial, ?_⟩)|refine ai rfl ?_|refine aa ?_|refine aj ?_|refine ah rfl ?_|refine ae ?_|refine aY rfl ?_|refine bG rfl rfl ?_|refine ay rfl ?_|refine aF ?_)
 obtain ⟨px, dx, hhx, ex, _, hpx, hSx, hEx⟩ := (hX.ext (hE1.trans hn2.ex)).get (by omega)
 rw [ex]
 have hb2 := hn2.blk
 refine jx (s := 2) (cs := rowC r hhx) rfl rfl hpx hb2 hSx (by rw [bQ]) (by rw [bQ, bQ]; exact Nat.le_refl _) (ke _ _) (fun w3 hc3 hb3 => ⟨fun _ _ => trivial, ?_⟩)
 rw [List.drop_eq_nil_of_le (by rw [bQ, bQ]; exact Nat.le_refl _), List.append_nil] at hb3
 have hE13 : Ex w1 w3 := hn2.ex.chg hc3 hn2.lo
 have hF3 := hF.ext hE13
 have hR3 : RO false (Kx + 0 * (34 * K + 101)) w3 w1.heap.size g8 r r X := ⟨hn2.lo, Nat.le_refl _, hhx, hb3, fun i hi => by rw [Nat.zero_mul]; exact ((hEx i hi).weak').gbN hb2 (bI _ _) (bp hc3)⟩
 repeat' (first|refine ai rfl ?_|refine aa ?_|refine aj ?_|refine ah rfl ?_|refine ae ?_)
 refine aw (fe hF3.h.mx hr hc (by omega)) rfl ?_
 rintro v w4 ⟨t, sd, f, k, rfl, h1, h2, hE4⟩
 refine ⟨fun _ _ => trivial, ?_⟩
 cases t
 ·exact absurd ⟨_, _, hF.hf⟩ (h2 rfl)
 obtain ⟨hN, hH⟩ := h1 rfl
 have hlen := hN.1
 have hkc := hH.kc
 have hF4 := hF3.ext hE4
 have hE04 := (hE1.trans hE13).trans hE4
 have hsl := hN.sl
 rw [gM] at hsl
 have hL : ∀ {P : Prop}, (P ↔ InL r c H X) → (P ↔ InL r c A X) := fun h => h.trans (hF.ceq.inL X)
 have s1 := hE1.size
 have l8 := hn2.lo
 have lH : ∀ i j, i < r → j < c → Lb (34 * K + 100) (H i j) := fun i j hi hj => hF.h.mx.lb hi hj
 have hgl : g < w1.heap.size := hF.h.lt
 have hgsl : ∀ i, i < r → gs i < w1.heap.size := fun i hi => (hF.h.row i hi).lt
 repeat' (first|refine aO rfl rfl ?_|refine ai rfl ?_|refine aa ?_|refine aj ?_|refine ah rfl ?_|refine ae ?_|refine aY rfl ?_|refine aB ?_)
 rw [hlen]
 refine aW (ι := Nat × (Nat → Int)) [4, 11, 12, 13, 14, 15, 16, 17, 48, 49, 50, 51, 52, 53, 54, 55, 56, 57, 58, 59, 60, 61, 62, 63, 64, 65, 66, 67, 68, 69, 70, 71, 72, 73, 74, 75, 76, 77, 78, 79, 80, 81, 82, 83, 84, 85, 86, 87, 88, 89, 90, 91, 92, 93, 94] (fun t => [(48, .int .i64 (t.1 : Int))])
  (fun t w' => (t.1 ≤ k ∧ w4.grownBy w' (some g8)) ∧ RO false (Kx + t.1 * (34 * K + 101)) w' w1.heap.size g8 r r t.2 ∧ CtJ r c k H f X t.1 t.2) (fun t => k - t.1)
  (0, X) ⟨rfl, trivial⟩ ⟨⟨by simp only; omega, nZ (Ex.refl _)⟩, hR3.ext hE4, oT X⟩ ?_
 rintro ⟨c0, R⟩ ξ w5 ⟨⟨hc0, hG5⟩, hR5, hJ⟩
 simp only at hc0 hR5 hJ
 show CW _ _ _ _ (over [(48, .int .i64 (c0 : Int))] _) w5
 have hb4 : Blk w4 g8 49 (rowC r hhx) := hb3.ext hE4
 have l83 := hb3.lt
 have ng : g ≠ g8 := by omega
 have ngs : ∀ i, i < r → gs i ≠ g8 := fun i hi => by have := hgsl i hi; omega
 have hM5 := hF4.h.gbN hb4 (bI _ _) hG5 ng ngs
 have hsl5 := hsl.gb hG5 (fun ad e he => by have := (NatG.lo hN ad e).1; cases he; omega)
 have hE05 : Ex w w5 := hE04.gb hG5 (fun q e => by cases e; omega)
 rcases Nat.lt_or_ge c0 k with hck | hck
 ·have hpl := hsl5.plain (by simp; omega)
  have hpr := hH.lt c0 hck
  have hpos := hH.pos c0 hck
  obtain ⟨hhr, hb8, hE8⟩ := hR5.ex
  have cb : c0 * (34 * K + 101) ≤ 16 * (34 * K + 101) := Nat.mul_le_mul_right _ (by omega)
  have cb1 : (c0 + 1) * (34 * K + 101) = c0 * (34 * K + 101) + (34 * K + 101) := Nat.succ_mul _ _
  obtain ⟨KR, hKR⟩ : ∃ KR, KR = Kx + c0 * (34 * K + 101) := ⟨_, rfl⟩
  rw [← hKR] at hR5 hE8
  obtain ⟨hhp, hbp, hcp, hEp⟩ := hM5.get hpr
  repeat' (first|refine bv rfl rfl (by omega) ?_|refine aa ?_|refine aj ?_|refine ah rfl ?_|refine ae ?_|refine aC rfl ?_|refine aF ?_)
  refine aB ?_
  repeat' (first|refine aD (j := c0) (a := sd.a) rfl rfl hpl (by omega) ?_|(refine bE (j := c0) (xs := (List.range k).map f) rfl hsl5 (by simp; omega) ?_)|refine ai rfl ?_|refine aa ?_|refine aj ?_|refine ah rfl ?_|refine ae ?_)
  rw [dM _ hck]
  skip
  refine cD (ι := (Nat × Nat) × IH × IH) [13, 14, 15, 53, 54, 55, 56, 57, 58, 59, 60, 61, 62, 63, 64, 65, 66, 67, 68] (fun t => [(13, .pointer (some ⟨t.1.1, 0, none⟩)), (14, .pointer (some ⟨t.1.2, 0, none⟩))])
   (fun t w' => Ex w5 w' ∧ w5.heap.size ≤ t.1.1 ∧ w5.heap.size ≤ t.1.2 ∧ Blk w' t.1.1 49 t.2.1.cells ∧ Blk w' t.1.2 49 t.2.2.cells ∧ Ent true KR w' t.2.1.val (R (f c0) / H (f c0) c0) ∧ Ent true (34 * K + 100) w' t.2.2.val (R (f c0) % H (f c0) c0)) ?_ ?_
  ·have hEx : Ex w5 w5.drew := (Ex.refl _).drew
   refine dX (fun w' => Ex w5 w') bC hEx ?_
   refine bw (fuel := 10) (by kernel_rfl) (by kernel_rfl) [0, 1, 2, 3, 4, 5, 6, 7, 8, 9, 10] _ _ (by kernel_rfl) ?_
   repeat' (first|refine aD (j := f c0) (a := some ⟨g, 0, none⟩) rfl rfl ⟨_, _, rfl⟩ (by omega) ?_|refine aZ (j := f c0) (a := some ⟨g, 0, none⟩) (n := r) (s := fun k => ⟨some ⟨gs k, 0, none⟩, c, cp k⟩) rfl (fun _ h => (hM5.ext h).top.sl) (by omega) rfl ?_|refine bj (j := c0) (a := some ⟨gs (f c0), 0, none⟩) rfl rfl ⟨_, _, rfl⟩ (by omega) ?_|refine bD (j := c0) (n := cp (f c0)) (a := some ⟨gs (f c0), 0, none⟩) rfl (fun _ h => (hbp.ext h).sl) ⟨_, _, rfl⟩ (by omega) ?_|refine bj (j := f c0) (a := some ⟨g8, 0, none⟩) rfl rfl ⟨_, _, rfl⟩ (by omega) ?_|refine bD (j := f c0) (n := r) (a := some ⟨g8, 0, none⟩) rfl (fun _ h => (hb8.ext h).sl) ⟨_, _, rfl⟩ (by omega) ?_|refine ai rfl ?_|refine ae ?_)
   refine az (fuel := 9) (rs := [11, 16, 17]) (by kernel_rfl) (by kernel_rfl) rfl ?_
   simp only [List.forall_mem_cons, List.not_mem_nil, false_implies, implies_true, and_true]
   refine ⟨?_, ?_, ?_⟩
   ·refine aw (bx ((hE8 (f c0) hpr).ext hEx).k ((hEp c0 (by omega)).ext hEx).k (by omega) (by omega)) rfl ?_
    rintro v w14 ⟨q, rm, rfl, hq, hrm, hE14⟩
    refine ⟨fun _ h => h.trans hE14, ?_⟩
    rw [if_neg (by omega)] at hrm
    obtain ⟨xq, rfl⟩ := hq.ih
    obtain ⟨xr, rfl⟩ := hrm.ih
    have eq : Ent true KR w14 xq.val (R (f c0) / H (f c0) c0) := Ent.of hq ((hE8 (f c0) hpr).lb.div _)
    have er : Ent true (34 * K + 100) w14 xr.val (R (f c0) % H (f c0) c0) := Ent.of hrm ((lH (f c0) c0 hpr (by omega)).mod _ (by omega))
    replace hEx := hEx.trans hE14
    try replace hb15 := hb15.ext hE14
    try replace hb16 := hb16.ext hE14
    refine ae ?_
    refine bw (fuel := 5) (by kernel_rfl) (by kernel_rfl) [12, 13, 14, 15] _ _ (by kernel_rfl) ?_
    repeat' (first|refine aO rfl rfl ?_|refine ai rfl ?_|refine ae ?_)
    refine az (fuel := 4) (rs := [16, 17]) (by kernel_rfl) (by kernel_rfl) rfl ?_
    simp only [List.forall_mem_cons, List.not_mem_nil, false_implies, implies_true, and_true]
    refine ⟨?_, ?_⟩
    ·refine aE (fun g15 w15 hn15 => ⟨fun _ h => h.trans hn15.ex, ?_⟩)
     have hb15 : Blk w15 g15 49 (intL false none 0 0) := hn15.blk
     have lo15 : w5.heap.size ≤ g15 := Nat.le_trans hEx.size hn15.lo
     try have ne56 : g15 ≠ g16 := (by have := hb16.lt; have := hn15.lo; omega)
     replace hEx := hEx.trans hn15.ex
     try replace hb16 := hb16.ext hn15.ex
     try replace eq := eq.ext hn15.ex
     try replace er := er.ext hn15.ex
     refine ae ?_
     refine az (fuel := 3) (rs := [17]) (by kernel_rfl) (by kernel_rfl) rfl ?_
     rw [List.forall_mem_singleton]
     refine aE (fun g16 w16 hn16 => ⟨fun _ h => h.trans hn16.ex, ?_⟩)
     have hb16 : Blk w16 g16 49 (intL false none 0 0) := hn16.blk
     have lo16 : w5.heap.size ≤ g16 := Nat.le_trans hEx.size hn16.lo
     try have ne56 : g15 ≠ g16 := (by have := hb15.lt; have := hn16.lo; omega)
     replace hEx := hEx.trans hn16.ex
     try replace hb15 := hb15.ext hn16.ex
     try replace eq := eq.ext hn16.ex
     try replace er := er.ext hn16.ex
     refine ae ?_
     refine az (fuel := 2) (rs := [18]) (by kernel_rfl) (by kernel_rfl) rfl ?_
     rw [List.forall_mem_singleton]
     refine au (n := 2) (vs := xq.cells) rfl rfl rfl rfl hb15 rfl (fun w17 hc17 hb17 => ⟨fun _ h => h.chg hc17 lo15, ?_⟩)
     replace hEx := hEx.chg hc17 lo15
     replace hb16 := hb16.chg hc17 (Ne.symm ne56)
     replace eq := eq.gbN hb15 (aA _ _ _ _) (bp hc17)
     replace er := er.gbN hb15 (aA _ _ _ _) (bp hc17)
     refine ae ?_
     refine az (fuel := 1) (rs := [19]) (by kernel_rfl) (by kernel_rfl) rfl ?_
     rw [List.forall_mem_singleton]
     refine au (n := 2) (vs := xr.cells) rfl rfl rfl rfl hb16 rfl (fun w18 hc18 hb18 => ⟨fun _ h => h.chg hc18 lo16, ?_⟩)
     replace hEx := hEx.chg hc18 lo16
     replace hb17 := hb17.chg hc18 ne56
     replace eq := eq.gbN hb16 (aA _ _ _ _) (bp hc18)
     replace er := er.gbN hb16 (aA _ _ _ _) (bp hc18)
     refine ae ?_
     refine bw (fuel := 0) (by kernel_rfl) (by kernel_rfl) [20] _ _ (by kernel_rfl) ?_
     repeat' (first|refine ai rfl ?_|refine ae ?_)
     refine bh (by kernel_rfl) ?_
     refine aa ?_
     exact ⟨⟨((_, _), xq, xr), ⟨hEx, lo15, lo16, hb17, hb18, eq, er⟩, rfl, rfl, trivial⟩, (by (repeat (first|exact aI _ _|refine ax rfl ?_|refine av rfl ?_|refine ak rfl ?_|refine ao rfl ?_)))⟩
    ·refine aE (fun g16 w16 hn16 => ⟨fun _ h => h.trans hn16.ex, ?_⟩)
     have hb16 : Blk w16 g16 49 (intL false none 0 0) := hn16.blk
     have lo16 : w5.heap.size ≤ g16 := Nat.le_trans hEx.size hn16.lo
     try have ne56 : g15 ≠ g16 := (by have := hb15.lt; have := hn16.lo; omega)
     replace hEx := hEx.trans hn16.ex
     try replace hb15 := hb15.ext hn16.ex
     try replace eq := eq.ext hn16.ex
     try replace er := er.ext hn16.ex
     refine ae ?_
     refine az (fuel := 3) (rs := [16]) (by kernel_rfl) (by kernel_rfl) rfl ?_
     rw [List.forall_mem_singleton]
     refine aE (fun g15 w15 hn15 => ⟨fun _ h => h.trans hn15.ex, ?_⟩)
     have hb15 : Blk w15 g15 49 (intL false none 0 0) := hn15.blk
     have lo15 : w5.heap.size ≤ g15 := Nat.le_trans hEx.size hn15.lo
     try have ne56 : g15 ≠ g16 := (by have := hb16.lt; have := hn15.lo; omega)
     replace hEx := hEx.trans hn15.ex
     try replace hb16 := hb16.ext hn15.ex
     try replace eq := eq.ext hn15.ex
     try replace er := er.ext hn15.ex
     refine ae ?_
     refine az (fuel := 2) (rs := [18]) (by kernel_rfl) (by kernel_rfl) rfl ?_
     rw [List.forall_mem_singleton]
     refine au (n := 2) (vs := xq.cells) rfl rfl rfl rfl hb15 rfl (fun w17 hc17 hb17 => ⟨fun _ h => h.chg hc17 lo15, ?_⟩)
     replace hEx := hEx.chg hc17 lo15
     replace hb16 := hb16.chg hc17 (Ne.symm ne56)
     replace eq := eq.gbN hb15 (aA _ _ _ _) (bp hc17)
     replace er := er.gbN hb15 (aA _ _ _ _) (bp hc17)
     refine ae ?_
     refine az (fuel := 1) (rs := [19]) (by kernel_rfl) (by kernel_rfl) rfl ?_
     rw [List.forall_mem_singleton]
     refine au (n := 2) (vs := xr.cells) rfl rfl rfl rfl hb16 rfl (fun w18 hc18 hb18 => ⟨fun _ h => h.chg hc18 lo16, ?_⟩)
     replace hEx := hEx.chg hc18 lo16
     replace hb17 := hb17.chg hc18 ne56
     replace eq := eq.gbN hb16 (aA _ _ _ _) (bp hc18)
     replace er := er.gbN hb16 (aA _ _ _ _) (bp hc18)
     refine ae ?_
     refine bw (fuel := 0) (by kernel_rfl) (by kernel_rfl) [20] _ _ (by kernel_rfl) ?_
     repeat' (first|refine ai rfl ?_|refine ae ?_)
     refine bh (by kernel_rfl) ?_
     refine aa ?_
     exact ⟨⟨((_, _), xq, xr), ⟨hEx, lo15, lo16, hb17, hb18, eq, er⟩, rfl, rfl, trivial⟩, (by (repeat (first|exact aI _ _|refine ax rfl ?_|refine av rfl ?_|refine ak rfl ?_|refine ao rfl ?_)))⟩
   ·refine aE (fun g15 w15 hn15 => ⟨fun _ h => h.trans hn15.ex, ?_⟩)
    have hb15 : Blk w15 g15 49 (intL false none 0 0) := hn15.blk
    have lo15 : w5.heap.size ≤ g15 := Nat.le_trans hEx.size hn15.lo
    try have ne56 : g15 ≠ g16 := (by have := hb16.lt; have := hn15.lo; omega)
    replace hEx := hEx.trans hn15.ex
    try replace hb16 := hb16.ext hn15.ex
    try replace eq := eq.ext hn15.ex
    try replace er := er.ext hn15.ex
    refine ae ?_
    refine az (fuel := 8) (rs := [11, 17]) (by kernel_rfl) (by kernel_rfl) rfl ?_
    simp only [List.forall_mem_cons, List.not_mem_nil, false_implies, implies_true, and_true]
    refine ⟨?_, ?_⟩
    ·refine aw (bx ((hE8 (f c0) hpr).ext hEx).k ((hEp c0 (by omega)).ext hEx).k (by omega) (by omega)) rfl ?_
     rintro v w14 ⟨q, rm, rfl, hq, hrm, hE14⟩
     refine ⟨fun _ h => h.trans hE14, ?_⟩
     rw [if_neg (by omega)] at hrm
     obtain ⟨xq, rfl⟩ := hq.ih
     obtain ⟨xr, rfl⟩ := hrm.ih
     have eq : Ent true KR w14 xq.val (R (f c0) / H (f c0) c0) := Ent.of hq ((hE8 (f c0) hpr).lb.div _)
     have er : Ent true (34 * K + 100) w14 xr.val (R (f c0) % H (f c0) c0) := Ent.of hrm ((lH (f c0) c0 hpr (by omega)).mod _ (by omega))
     replace hEx := hEx.trans hE14
     try replace hb15 := hb15.ext hE14
     try replace hb16 := hb16.ext hE14
     refine ae ?_
     refine bw (fuel := 4) (by kernel_rfl) (by kernel_rfl) [12, 13, 14, 15] _ _ (by kernel_rfl) ?_
     repeat' (first|refine aO rfl rfl ?_|refine ai rfl ?_|refine ae ?_)
     refine az (fuel := 3) (rs := [17]) (by kernel_rfl) (by kernel_rfl) rfl ?_
     rw [List.forall_mem_singleton]
     refine aE (fun g16 w16 hn16 => ⟨fun _ h => h.trans hn16.ex, ?_⟩)
     have hb16 : Blk w16 g16 49 (intL false none 0 0) := hn16.blk
     have lo16 : w5.heap.size ≤ g16 := Nat.le_trans hEx.size hn16.lo
     try have ne56 : g15 ≠ g16 := (by have := hb15.lt; have := hn16.lo; omega)
     replace hEx := hEx.trans hn16.ex
     try replace hb15 := hb15.ext hn16.ex
     try replace eq := eq.ext hn16.ex
     try replace er := er.ext hn16.ex
     refine ae ?_
     refine az (fuel := 2) (rs := [18]) (by kernel_rfl) (by kernel_rfl) rfl ?_
     rw [List.forall_mem_singleton]
     refine au (n := 2) (vs := xq.cells) rfl rfl rfl rfl hb15 rfl (fun w17 hc17 hb17 => ⟨fun _ h => h.chg hc17 lo15, ?_⟩)
     replace hEx := hEx.chg hc17 lo15
     replace hb16 := hb16.chg hc17 (Ne.symm ne56)
     replace eq := eq.gbN hb15 (aA _ _ _ _) (bp hc17)
     replace er := er.gbN hb15 (aA _ _ _ _) (bp hc17)
     refine ae ?_
     refine az (fuel := 1) (rs := [19]) (by kernel_rfl) (by kernel_rfl) rfl ?_
     rw [List.forall_mem_singleton]
     refine au (n := 2) (vs := xr.cells) rfl rfl rfl rfl hb16 rfl (fun w18 hc18 hb18 => ⟨fun _ h => h.chg hc18 lo16, ?_⟩)
     replace hEx := hEx.chg hc18 lo16
     replace hb17 := hb17.chg hc18 ne56
     replace eq := eq.gbN hb16 (aA _ _ _ _) (bp hc18)
     replace er := er.gbN hb16 (aA _ _ _ _) (bp hc18)
     refine ae ?_
     refine bw (fuel := 0) (by kernel_rfl) (by kernel_rfl) [20] _ _ (by kernel_rfl) ?_
     repeat' (first|refine ai rfl ?_|refine ae ?_)
     refine bh (by kernel_rfl) ?_
     refine aa ?_
     exact ⟨⟨((_, _), xq, xr), ⟨hEx, lo15, lo16, hb17, hb18, eq, er⟩, rfl, rfl, trivial⟩, (by (repeat (first|exact aI _ _|refine ax rfl ?_|refine av rfl ?_|refine ak rfl ?_|refine ao rfl ?_)))⟩
    ·refine aE (fun g16 w16 hn16 => ⟨fun _ h => h.trans hn16.ex, ?_⟩)
     have hb16 : Blk w16 g16 49 (intL false none 0 0) := hn16.blk
     have lo16 : w5.heap.size ≤ g16 := Nat.le_trans hEx.size hn16.lo
     try have ne56 : g15 ≠ g16 := (by have := hb15.lt; have := hn16.lo; omega)
     replace hEx := hEx.trans hn16.ex
     try replace hb15 := hb15.ext hn16.ex
     try replace eq := eq.ext hn16.ex
     try replace er := er.ext hn16.ex
     refine ae ?_
     refine az (fuel := 7) (rs := [11]) (by kernel_rfl) (by kernel_rfl) rfl ?_
     rw [List.forall_mem_singleton]
     refine aw (bx ((hE8 (f c0) hpr).ext hEx).k ((hEp c0 (by omega)).ext hEx).k (by omega) (by omega)) rfl ?_
     rintro v w14 ⟨q, rm, rfl, hq, hrm, hE14⟩
     refine ⟨fun _ h => h.trans hE14, ?_⟩
     rw [if_neg (by omega)] at hrm
     obtain ⟨xq, rfl⟩ := hq.ih
     obtain ⟨xr, rfl⟩ := hrm.ih
     have eq : Ent true KR w14 xq.val (R (f c0) / H (f c0) c0) := Ent.of hq ((hE8 (f c0) hpr).lb.div _)
     have er : Ent true (34 * K + 100) w14 xr.val (R (f c0) % H (f c0) c0) := Ent.of hrm ((lH (f c0) c0 hpr (by omega)).mod _ (by omega))
     replace hEx := hEx.trans hE14
     try replace hb15 := hb15.ext hE14
     try replace hb16 := hb16.ext hE14
     refine ae ?_
     refine bw (fuel := 3) (by kernel_rfl) (by kernel_rfl) [12, 13, 14, 15] _ _ (by kernel_rfl) ?_
     repeat' (first|refine aO rfl rfl ?_|refine ai rfl ?_|refine ae ?_)
     refine az (fuel := 2) (rs := [18]) (by kernel_rfl) (by kernel_rfl) rfl ?_
     rw [List.forall_mem_singleton]
     refine au (n := 2) (vs := xq.cells) rfl rfl rfl rfl hb15 rfl (fun w17 hc17 hb17 => ⟨fun _ h => h.chg hc17 lo15, ?_⟩)
     replace hEx := hEx.chg hc17 lo15
     replace hb16 := hb16.chg hc17 (Ne.symm ne56)
     replace eq := eq.gbN hb15 (aA _ _ _ _) (bp hc17)
     replace er := er.gbN hb15 (aA _ _ _ _) (bp hc17)
     refine ae ?_
     refine az (fuel := 1) (rs := [19]) (by kernel_rfl) (by kernel_rfl) rfl ?_
     rw [List.forall_mem_singleton]
     refine au (n := 2) (vs := xr.cells) rfl rfl rfl rfl hb16 rfl (fun w18 hc18 hb18 => ⟨fun _ h => h.chg hc18 lo16, ?_⟩)
     replace hEx := hEx.chg hc18 lo16
     replace hb17 := hb17.chg hc18 ne56
     replace eq := eq.gbN hb16 (aA _ _ _ _) (bp hc18)
     replace er := er.gbN hb16 (aA _ _ _ _) (bp hc18)
     refine ae ?_
     refine bw (fuel := 0) (by kernel_rfl) (by kernel_rfl) [20] _ _ (by kernel_rfl) ?_
     repeat' (first|refine ai rfl ?_|refine ae ?_)
     refine bh (by kernel_rfl) ?_
     refine aa ?_
     exact ⟨⟨((_, _), xq, xr), ⟨hEx, lo15, lo16, hb17, hb18, eq, er⟩, rfl, rfl, trivial⟩, (by (repeat (first|exact aI _ _|refine ax rfl ?_|refine av rfl ?_|refine ak rfl ?_|refine ao rfl ?_)))⟩
   ·refine aE (fun g16 w16 hn16 => ⟨fun _ h => h.trans hn16.ex, ?_⟩)
    have hb16 : Blk w16 g16 49 (intL false none 0 0) := hn16.blk
    have lo16 : w5.heap.size ≤ g16 := Nat.le_trans hEx.size hn16.lo
    try have ne56 : g15 ≠ g16 := (by have := hb15.lt; have := hn16.lo; omega)
    replace hEx := hEx.trans hn16.ex
    try replace hb15 := hb15.ext hn16.ex
    try replace eq := eq.ext hn16.ex
    try replace er := er.ext hn16.ex
    refine ae ?_
    refine az (fuel := 8) (rs := [11, 16]) (by kernel_rfl) (by kernel_rfl) rfl ?_
    simp only [List.forall_mem_cons, List.not_mem_nil, false_implies, implies_true, and_true]
    refine ⟨?_, ?_⟩
    ·refine aw (bx ((hE8 (f c0) hpr).ext hEx).k ((hEp c0 (by omega)).ext hEx).k (by omega) (by omega)) rfl ?_
     rintro v w14 ⟨q, rm, rfl, hq, hrm, hE14⟩
     refine ⟨fun _ h => h.trans hE14, ?_⟩
     rw [if_neg (by omega)] at hrm
     obtain ⟨xq, rfl⟩ := hq.ih
     obtain ⟨xr, rfl⟩ := hrm.ih
     have eq : Ent true KR w14 xq.val (R (f c0) / H (f c0) c0) := Ent.of hq ((hE8 (f c0) hpr).lb.div _)
     have er : Ent true (34 * K + 100) w14 xr.val (R (f c0) % H (f c0) c0) := Ent.of hrm ((lH (f c0) c0 hpr (by omega)).mod _ (by omega))
     replace hEx := hEx.trans hE14
     try replace hb15 := hb15.ext hE14
     try replace hb16 := hb16.ext hE14
     refine ae ?_
     refine bw (fuel := 4) (by kernel_rfl) (by kernel_rfl) [12, 13, 14, 15] _ _ (by kernel_rfl) ?_
     repeat' (first|refine aO rfl rfl ?_|refine ai rfl ?_|refine ae ?_)
     refine az (fuel := 3) (rs := [16]) (by kernel_rfl) (by kernel_rfl) rfl ?_
     rw [List.forall_mem_singleton]
     refine aE (fun g15 w15 hn15 => ⟨fun _ h => h.trans hn15.ex, ?_⟩)
     have hb15 : Blk w15 g15 49 (intL false none 0 0) := hn15.blk
     have lo15 : w5.heap.size ≤ g15 := Nat.le_trans hEx.size hn15.lo
     try have ne56 : g15 ≠ g16 := (by have := hb16.lt; have := hn15.lo; omega)
     replace hEx := hEx.trans hn15.ex
     try replace hb16 := hb16.ext hn15.ex
     try replace eq := eq.ext hn15.ex
     try replace er := er.ext hn15.ex
     refine ae ?_
     refine az (fuel := 2) (rs := [18]) (by kernel_rfl) (by kernel_rfl) rfl ?_
     rw [List.forall_mem_singleton]
     refine au (n := 2) (vs := xq.cells) rfl rfl rfl rfl hb15 rfl (fun w17 hc17 hb17 => ⟨fun _ h => h.chg hc17 lo15, ?_⟩)
     replace hEx := hEx.chg hc17 lo15
     replace hb16 := hb16.chg hc17 (Ne.symm ne56)
     replace eq := eq.gbN hb15 (aA _ _ _ _) (bp hc17)
     replace er := er.gbN hb15 (aA _ _ _ _) (bp hc17)
     refine ae ?_
     refine az (fuel := 1) (rs := [19]) (by kernel_rfl) (by kernel_rfl) rfl ?_
     rw [List.forall_mem_singleton]
     refine au (n := 2) (vs := xr.cells) rfl rfl rfl rfl hb16 rfl (fun w18 hc18 hb18 => ⟨fun _ h => h.chg hc18 lo16, ?_⟩)
     replace hEx := hEx.chg hc18 lo16
     replace hb17 := hb17.chg hc18 ne56
     replace eq := eq.gbN hb16 (aA _ _ _ _) (bp hc18)
     replace er := er.gbN hb16 (aA _ _ _ _) (bp hc18)
     refine ae ?_
     refine bw (fuel := 0) (by kernel_rfl) (by kernel_rfl) [20] _ _ (by kernel_rfl) ?_
     repeat' (first|refine ai rfl ?_|refine ae ?_)
     refine bh (by kernel_rfl) ?_
     refine aa ?_
     exact ⟨⟨((_, _), xq, xr), ⟨hEx, lo15, lo16, hb17, hb18, eq, er⟩, rfl, rfl, trivial⟩, (by (repeat (first|exact aI _ _|refine ax rfl ?_|refine av rfl ?_|refine ak rfl ?_|refine ao rfl ?_)))⟩
    ·refine aE (fun g15 w15 hn15 => ⟨fun _ h => h.trans hn15.ex, ?_⟩)
     have hb15 : Blk w15 g15 49 (intL false none 0 0) := hn15.blk
     have lo15 : w5.heap.size ≤ g15 := Nat.le_trans hEx.size hn15.lo
     try have ne56 : g15 ≠ g16 := (by have := hb16.lt; have := hn15.lo; omega)
     replace hEx := hEx.trans hn15.ex
     try replace hb16 := hb16.ext hn15.ex
     try replace eq := eq.ext hn15.ex
     try replace er := er.ext hn15.ex
     refine ae ?_
     refine az (fuel := 7) (rs := [11]) (by kernel_rfl) (by kernel_rfl) rfl ?_
     rw [List.forall_mem_singleton]
     refine aw (bx ((hE8 (f c0) hpr).ext hEx).k ((hEp c0 (by omega)).ext hEx).k (by omega) (by omega)) rfl ?_
     rintro v w14 ⟨q, rm, rfl, hq, hrm, hE14⟩
     refine ⟨fun _ h => h.trans hE14, ?_⟩
     rw [if_neg (by omega)] at hrm
     obtain ⟨xq, rfl⟩ := hq.ih
     obtain ⟨xr, rfl⟩ := hrm.ih
     have eq : Ent true KR w14 xq.val (R (f c0) / H (f c0) c0) := Ent.of hq ((hE8 (f c0) hpr).lb.div _)
     have er : Ent true (34 * K + 100) w14 xr.val (R (f c0) % H (f c0) c0) := Ent.of hrm ((lH (f c0) c0 hpr (by omega)).mod _ (by omega))
     replace hEx := hEx.trans hE14
     try replace hb15 := hb15.ext hE14
     try replace hb16 := hb16.ext hE14
     refine ae ?_
     refine bw (fuel := 3) (by kernel_rfl) (by kernel_rfl) [12, 13, 14, 15] _ _ (by kernel_rfl) ?_
     repeat' (first|refine aO rfl rfl ?_|refine ai rfl ?_|refine ae ?_)
     refine az (fuel := 2) (rs := [18]) (by kernel_rfl) (by kernel_rfl) rfl ?_
     rw [List.forall_mem_singleton]
     refine au (n := 2) (vs := xq.cells) rfl rfl rfl rfl hb15 rfl (fun w17 hc17 hb17 => ⟨fun _ h => h.chg hc17 lo15, ?_⟩)
     replace hEx := hEx.chg hc17 lo15
     replace hb16 := hb16.chg hc17 (Ne.symm ne56)
     replace eq := eq.gbN hb15 (aA _ _ _ _) (bp hc17)
     replace er := er.gbN hb15 (aA _ _ _ _) (bp hc17)
     refine ae ?_
     refine az (fuel := 1) (rs := [19]) (by kernel_rfl) (by kernel_rfl) rfl ?_
     rw [List.forall_mem_singleton]
     refine au (n := 2) (vs := xr.cells) rfl rfl rfl rfl hb16 rfl (fun w18 hc18 hb18 => ⟨fun _ h => h.chg hc18 lo16, ?_⟩)
     replace hEx := hEx.chg hc18 lo16
     replace hb17 := hb17.chg hc18 ne56
     replace eq := eq.gbN hb16 (aA _ _ _ _) (bp hc18)
     replace er := er.gbN hb16 (aA _ _ _ _) (bp hc18)
     refine ae ?_
     refine bw (fuel := 0) (by kernel_rfl) (by kernel_rfl) [20] _ _ (by kernel_rfl) ?_
     repeat' (first|refine ai rfl ?_|refine ae ?_)
     refine bh (by kernel_rfl) ?_
     refine aa ?_
     exact ⟨⟨((_, _), xq, xr), ⟨hEx, lo15, lo16, hb17, hb18, eq, er⟩, rfl, rfl, trivial⟩, (by (repeat (first|exact aI _ _|refine ax rfl ?_|refine av rfl ?_|refine ak rfl ?_|refine ao rfl ?_)))⟩
  ·rintro ⟨⟨g13, g14⟩, xq, xr⟩ ξ2 w6 ⟨hE6, lo13, lo14, hb13, hb14, eq, er⟩
   simp only at lo13 lo14 hb13 hb14 eq er
   show CW _ _ _ _ (over [(13, .pointer (some ⟨g13, 0, none⟩)), (14, .pointer (some ⟨g14, 0, none⟩))] _) w6
   repeat' (first|refine aR (g := g14) rfl hb14 rfl ?_|refine aj ?_|refine ah rfl ?_)
   refine aw (cB er.k) rfl ?_
   rintro v w7 ⟨rfl, hE7⟩
   refine ⟨fun _ _ => trivial, ?_⟩
   have hE57 := hE6.trans hE7
   by_cases hz : R (f c0) % H (f c0) c0 = 0
   ·have hdv : H (f c0) c0 ∣ R (f c0) := Int.dvd_of_emod_eq_zero hz
    repeat' (first|(refine dq rfl rfl (by rw [hz]; rfl) ?_)|refine ai rfl ?_|refine aa ?_|refine aj ?_|refine ah rfl ?_|refine ae ?_|refine aY rfl ?_|refine ay rfl ?_|refine aB ?_|refine aF ?_)
    have hG7 : w4.grownBy w7 (some g8) := bJ hG5 (nZ hE57) (fun k e => .inl e)
    have hM7 := hM5.ext hE57
    have hb137 := hb13.ext hE7
    have eq7 := eq.ext hE7
    have hR7 := hR5.ext hE57
    have lg8 := hR5.lt
    refine aW (ι := Nat) [16, 17, 74, 75, 76, 77, 78, 79, 80, 81, 82, 83, 84, 85, 86, 87, 88, 89, 90, 91, 92, 93] (fun i => [(74, .int .i64 (i : Int))])
     (fun i w' => (i ≤ r ∧ w7.grownBy w' (some g8)) ∧ RO false (KR + (34 * K + 101)) w' w1.heap.size g8 r r (fun j => if j < i then R j - R (f c0) / H (f c0) c0 * H j c0 else R j)) (fun i => r - i)
     0 ⟨rfl, trivial⟩ ⟨⟨by omega, nZ (Ex.refl _)⟩, (hR7.up (by omega)).congr fun j _ => if_neg (by omega)⟩ ?_
    clear hR7
    rintro i ξ3 w8 ⟨⟨hi, hG8⟩, hR8⟩
    show CW _ _ _ _ (over [(74, .int .i64 (i : Int))] _) w8
    have hb87 : Blk w7 g8 49 (rowC r hhr) := hb8.ext hE57
    have hM8 := hM7.gbN hb87 (bI _ _) hG8 ng ngs
    rcases Nat.lt_or_ge i r with hir | hir
    ·obtain ⟨hhi, hbi, hci, hEi⟩ := hM8.get hir
     obtain ⟨hhr8, hb88, hE88⟩ := hR8.ex
     have ei := hE88 i hir
     rw [if_neg (by omega)] at ei
     have hb138 := hb137.gb hG8 (fun e => by cases e; omega)
     have eq8 := eq7.gbN hb87 (bI _ _) hG8
     have lR : Lb KR (R i) := (hE8 i hir).lb
     repeat' (first|refine bv rfl rfl (by omega) ?_|refine aa ?_|refine aj ?_|refine ah rfl ?_|refine ae ?_|refine aC rfl ?_|refine aF ?_)
     refine aB ?_
     repeat' (first|refine aD (j := i) (a := some ⟨g, 0, none⟩) rfl rfl ⟨_, _, rfl⟩ (by omega) ?_|refine aZ (j := i) (a := some ⟨g, 0, none⟩) (n := r) (s := fun k => ⟨some ⟨gs k, 0, none⟩, c, cp k⟩) rfl hM8.top.sl (by omega) rfl ?_|refine ai rfl ?_|refine aa ?_|refine aj ?_|refine ah rfl ?_|refine ae ?_)
     refine bn (late := [14]) (plan := [(0, none), (1, none), (2, none), (3, none), (4, none), (5, none), (6, none), (7, none), (8, none), (9, none), (10, none), (11, some true), (12, some true), (13, none), (14, some false)]) (fun w' => Ex w8 w') bC (by kernel_rfl) (Ex.refl w8).drew ?_
     have hEd := (Ex.refl w8).drew
     repeat' (first|refine bj (j := i) (a := some ⟨g8, 0, none⟩) rfl rfl ⟨_, _, rfl⟩ (by omega) ?_|refine bD (j := i) (n := r) (a := some ⟨g8, 0, none⟩) rfl (fun _ h => (hb88.ext h).sl) ⟨_, _, rfl⟩ (by omega) ?_|refine aR (g := g13) rfl (fun _ h => hb138.ext h) rfl ?_|refine bj (j := c0) (a := some ⟨gs i, 0, none⟩) rfl rfl ⟨_, _, rfl⟩ (by omega) ?_|refine bD (j := c0) (n := cp i) (a := some ⟨gs i, 0, none⟩) rfl (fun _ h => (hbi.ext h).sl) ⟨_, _, rfl⟩ (by omega) ?_|refine ai rfl ?_)
     refine aw (cI (eq8.ext hEd).k ((hEi c0 (by omega)).ext hEd).k (by omega)) rfl ?_
     rintro v w9 ⟨hI9, hE9⟩
     refine ⟨fun _ h => h.trans hE9, ?_⟩
     have lq : Lb (KR + (34 * K + 100)) (R (f c0) / H (f c0) c0 * H i c0) := eq8.lb.mul (lH i c0 hir (by omega))
     have hE89 := hEd.trans hE9
     skip
     refine aw (dV (ei.ext hE89).k (hI9.k lq) (by omega) (by omega)) rfl ?_
     rintro v w10 ⟨hI10, hE10⟩
     refine ⟨fun _ h => h.trans hE10, ?_⟩
     obtain ⟨u, rfl⟩ := hI10.ih
     have hE810 := hE89.trans hE10
     have lu : Lb (KR + (34 * K + 101)) (R i - R (f c0) / H (f c0) c0 * H i c0) := ((lR.mono (show KR ≤ KR + (34 * K + 100) by omega)).sub lq).mono (by omega)
     repeat' (first|refine bj (j := i) (a := some ⟨g8, 0, none⟩) rfl rfl ⟨_, _, rfl⟩ (by omega) ?_)
     refine cF (j := i) (n := r) (u := u) rfl rfl (hb88.ext hE810) (by omega) (fun w11 hc11 hb11 => ⟨fun h => (nomatch h), ?_⟩)
     repeat' (first|refine ai rfl ?_|refine aa ?_|refine ah rfl ?_|refine ae ?_|refine bi rfl rfl (by omega) (by omega) ?_|refine aJ ?_)
     refine ⟨⟨i + 1, ⟨⟨hir, bJ hG8 (bJ (nZ hE810) (bp hc11) (fun k e => .inl e)) (fun k e => .inl e)⟩, (RO.put hR8.low hR8.le (hb88.ext hE810) (fun j hj => (hE88 j hj).ext hE810) (Ent.of hI10 lu) hc11 hb11).congr fun j _ => ?_⟩, by omega, rfl, trivial⟩, (by (repeat (first|exact aH _ _ _|refine ax rfl ?_|refine av rfl ?_|refine ak rfl ?_|refine ao rfl ?_)))⟩
     by_cases e : j = i
     ·subst e; rw [aN, if_pos (Nat.lt_succ_self _)]
     ·rw [aQ _ _ e]
      by_cases h : j < i
      ·rw [if_pos h, if_pos (by omega)]
      ·rw [if_neg h, if_neg (by omega)]
    ·have eir : r = i := by omega
     subst eir
     repeat' (first|refine bu rfl rfl (by omega) ?_|refine ai rfl ?_|refine aa ?_|refine aj ?_|refine ah rfl ?_|refine ae ?_|refine bi rfl rfl (by omega) (by omega) ?_|refine ay rfl ?_|refine aS ?_|refine aL ?_|refine aT ?_|refine aJ ?_)
     refine ⟨⟨(c0 + 1, fun j => R j - R (f c0) / H (f c0) c0 * H j c0), ⟨⟨hck, bJ hG7 hG8 (fun k e => .inl e)⟩, ?_, hJ.step hH hck hdv fun j _ => rfl⟩, by simp only; omega, rfl, trivial⟩, (by (repeat (first|exact aH _ _ _|refine ax rfl ?_|refine av rfl ?_|refine ak rfl ?_|refine ao rfl ?_)))⟩
     simp only
     rw [cb1, ← Nat.add_assoc, ← hKR]
     exact hR8.congr fun j hj => by rw [if_pos hj]
   ·repeat' (first|refine eQ rfl rfl (fun e => hz (Int.sign_eq_zero_iff_zero.1 e)) ?_|refine ai rfl ?_|refine aa ?_|refine aj ?_|refine ah rfl ?_|refine ae ?_|refine aC rfl ?_|refine aK ?_|refine aX ?_|refine b6 ?_)
    exact bB rfl (rt rfl) ⟨false, rfl, hL ⟨fun h => (nomatch h), fun h => absurd h (hJ.fail hH hck fun hd => hz (Int.emod_eq_zero_of_dvd hd))⟩, hE05.trans hE57⟩
 ·have eck : k = c0 := by omega
  subst eck
  repeat' (first|refine bu rfl rfl (by omega) ?_|refine ai rfl ?_|refine aa ?_|refine aj ?_|refine ah rfl ?_|refine ae ?_|refine aY rfl ?_|refine ay rfl ?_|refine aB ?_|refine aS ?_|refine aL ?_|refine aT ?_)
  obtain ⟨hhr, hb8, hE8⟩ := hR5.ex
  refine aW (ι := Nat) [4, 19, 97, 98, 99, 100, 101, 102, 103, 104] (fun i => [(97, .int .i64 (i : Int))])
   (fun i w' => i ≤ r ∧ Ex w5 w' ∧ ∀ j, j < i → R j = 0) (fun i => r - i)
   0 ⟨rfl, trivial⟩ ⟨by omega, Ex.refl _, fun j h => by omega⟩ ?_
  rintro i ξ2 w6 ⟨hi, hE6, hz⟩
  show CW _ _ _ _ (over [(97, .int .i64 (i : Int))] _) w6
  rcases Nat.lt_or_ge i r with hir | hir
  ·repeat' (first|refine bv rfl rfl (by omega) ?_|refine bj (j := i) (a := some ⟨g8, 0, none⟩) rfl rfl ⟨_, _, rfl⟩ (by omega) ?_|refine bD (j := i) (n := r) (a := some ⟨g8, 0, none⟩) rfl (hb8.ext hE6).sl ⟨_, _, rfl⟩ (by omega) ?_|refine aa ?_|refine aj ?_|refine ah rfl ?_|refine ae ?_|refine aC rfl ?_|refine aB ?_|refine aF ?_)
   refine aE (fun g19 w7 hn7 => ⟨fun _ _ => trivial, ?_⟩)
   have hb7 : Blk w7 g19 49 (intL false none 0 0) := hn7.blk
   refine au (n := 2) (vs := (hhr i).cells) rfl rfl rfl rfl hb7 rfl (fun w8 hc8 hb8' => ⟨fun _ _ => trivial, ?_⟩)
   have hE68 : Ex w6 w8 := hn7.ex.chg hc8 hn7.lo
   repeat' (first|refine aR (g := g19) rfl hb8' rfl ?_|refine aa ?_|refine aj ?_|refine ah rfl ?_|refine ae ?_)
   refine aw (cB (((hE8 i hir).ext hE6).ext hE68).k) rfl ?_
   rintro v w9 ⟨rfl, hE9⟩
   refine ⟨fun _ _ => trivial, ?_⟩
   have hE69 := hE68.trans hE9
   by_cases h : R i = 0
   ·repeat' (first|(refine dq rfl rfl (by rw [h]; rfl) ?_)|refine ai rfl ?_|refine aa ?_|refine ah rfl ?_|refine ae ?_|refine bi rfl rfl (by omega) (by omega) ?_|refine ay rfl ?_|refine aJ ?_|refine aF ?_)
    refine ⟨⟨i + 1, ⟨hir, hE6.trans hE69, fun j hj => ?_⟩, by omega, rfl, trivial⟩, (by (repeat (first|exact aH _ _ _|refine ax rfl ?_|refine av rfl ?_|refine ak rfl ?_|refine ao rfl ?_)))⟩
    by_cases e : j = i
    ·subst e; exact h
    ·exact hz j (by omega)
   ·repeat' (first|refine eQ rfl rfl (fun e => h (Int.sign_eq_zero_iff_zero.1 e)) ?_|refine ai rfl ?_|refine aa ?_|refine aj ?_|refine ah rfl ?_|refine ae ?_|refine aC rfl ?_|refine aK ?_|refine aX ?_|refine b6 ?_)
    exact bB rfl (rt rfl) ⟨false, rfl, hL ⟨fun h => (nomatch h), fun hv => absurd ((hJ.done hH).1 hv i hir) h⟩, (hE05.trans hE6).trans hE69⟩
  ·have eir : r = i := by omega
   subst eir
   repeat' (first|refine bu rfl rfl (by omega) ?_|refine ai rfl ?_|refine aa ?_|refine aj ?_|refine ah rfl ?_|refine ae ?_|refine ay rfl ?_|refine aS ?_|refine aL ?_|refine aT ?_|refine aK ?_)
   exact bB rfl (rt rfl) ⟨true, rfl, hL ⟨fun _ => (hJ.done hH).2 hz, fun _ => rfl⟩, hE05.trans hE6⟩
end Go.Proofs.Ytiejljicpinheaa
namespace Go.Proofs.Ytiejljicpinheaa
open Go.W Go.LM Go.LA
set_option maxHeartbeats 4000000 in
theorem rg {c1 c2 : Bool} {K1 K2 r c cap : Nat} {w : World} {a : Option Addr} {s : Nat → SD} {A : Mat} {sx : SD} {X : Nat → Int} (hA : MX c1 K1 w a r c s A) (hX : RX c2 K2 w sx c X)
  (hr : 1 ≤ r ∧ r ≤ 16) (hc : 1 ≤ c ∧ c ≤ 16) (hK : K1 + K2 + 2 < 17592186044416) :
  CallsR Try.prog 17 #[.slice a r cap, .slice sx.a sx.len sx.cap] w fun v w' => ∃ (sd : SD) (h : Nat → IH), v = .tuple #[.slice sd.a sd.len sd.cap, .bool true] ∧ RowG w' w.heap.size 49 r sd h ∧ (∀ i, i < r → Ent true (K1 + K2 + 1) w' (h i).val (mv c A X i)) ∧ Ex w w' := by
 have hpt := hA.plain (by omega)
 have hxl := hX.len
 refine aG (args := [_, _]) Try.func17 rfl rfl ?_
 repeat' (first|refine ai rfl ?_|refine aa ?_|refine aj ?_|refine ah rfl ?_|refine ae ?_)
 refine aw (d5 hA.top) rfl ?_
 rintro v w1 ⟨rfl, hE1⟩
 refine ⟨fun _ _ => trivial, ?_⟩
 rw [cK hA hr hc]
 repeat' (first|refine aO rfl rfl ?_|refine dq rfl rfl (by omega) ?_|refine ai rfl ?_|refine aa ?_|refine aj ?_|refine ah rfl ?_|refine ae ?_|refine aY rfl ?_|refine bG rfl rfl ?_|refine ay rfl ?_|refine aB ?_|refine aF ?_)
 have s1 := hE1.size
 have lM : ∀ i, i < r → Lb (K1 + K2 + 1) (mv c A X i) := fun i hi => fP (fun k hk => hA.lb hi hk) (fun k hk => hX.ent hk) (by omega)
 refine aW (ι := Nat × SD × (Nat → IH)) [9, 11, 28, 29, 30, 31, 32, 33, 34, 35, 36, 37, 38] (fun t => [(28, .int .i64 (t.1 : Int)), (9, .slice t.2.1.a t.2.1.len t.2.1.cap)])
  (fun t w' => t.1 ≤ r ∧ Ex w w' ∧ w1.heap.size ≤ w'.heap.size ∧ RowG w' w.heap.size 49 t.1 t.2.1 t.2.2 ∧ ∀ i, i < t.1 → Ent true (K1 + K2 + 1) w' (t.2.2 i).val (mv c A X i)) (fun t => r - t.1)
  (0, sd0, fun _ => ih0) ⟨rfl, rfl, trivial⟩ ⟨by simp only; omega, hE1, Nat.le_refl _, RowG.nil _ _ _ _, fun i h => by simp only at h; omega⟩ ?_
 rintro ⟨i, sd, h⟩ ξ w2 ⟨hi, hE2, hs2, hR2, hEn2⟩
 simp only at hi hR2 hEn2
 show CW _ _ _ _ (over [(28, .int .i64 (i : Int)), (9, .slice sd.a sd.len sd.cap)] _) w2
 rcases Nat.lt_or_ge i r with hir | hir
 ·repeat' (first|refine bv rfl rfl (by omega) ?_|refine aD (j := i) (a := a) rfl rfl hpt (by omega) ?_|refine cw (j := i) (a := a) (n := r) (s := s) rfl (hA.ext hE2).top (by omega) ?_|refine ai rfl ?_|refine aa ?_|refine aj ?_|refine ah rfl ?_|refine ae ?_|refine aC rfl ?_|refine aB ?_|refine aF ?_)
  refine aw (jl ((hA.row i hir).ext hE2) (hX.ext hE2) (by omega) (by omega)) rfl ?_
  rintro v w3 ⟨hI3, hE3⟩
  refine ⟨fun _ _ => trivial, ?_⟩
  obtain ⟨u, rfl⟩ := hI3.ih
  have hR3 := RowG.ext hR2 hE3
  have hE03 := hE2.trans hE3
  skip
  refine qF (E := 49) rfl rfl rfl hR3 (by omega) (by omega) (by have := hE03.size; omega) ?_
  intro gt sd' h' w4 hR4 hf1 hf2 hG4 hA4
  repeat' (first|refine ai rfl ?_|refine aa ?_|refine ah rfl ?_|refine ae ?_|refine bi rfl rfl (by omega) (by omega) ?_|refine aJ ?_)
  have own : ∀ q, (Value.slice sd.a sd.len sd.cap).ownBlock = some q → w.heap.size ≤ q := fun q e => (RowG.bk hR3 q e).1
  refine ⟨⟨(i + 1, sd', h'), ⟨hir, hE03.gb hG4 own, by have := hE3.size; have := hG4.size; omega, hR4, fun k hk => ?_⟩, by simp only; omega, rfl, rfl, trivial⟩, (by (repeat (first|exact aH _ _ _|refine ax rfl ?_|refine av rfl ?_|refine ak rfl ?_|refine ao rfl ?_)))⟩
  simp only at hk ⊢
  by_cases e : k = i
  ·subst e; rw [hf2]; exact (Ent.of hI3 (lM k hir)).gbR hR3 hG4
  ·rw [hf1 k (by omega)]; exact ((hEn2 k (by omega)).ext hE3).gbR hR3 hG4
 ·have eir : r = i := by omega
  subst eir
  repeat' (first|refine bu rfl rfl (by omega) ?_|refine ai rfl ?_|refine aa ?_|refine aj ?_|refine ah rfl ?_|refine ae ?_|refine ay rfl ?_|refine aS ?_|refine aL ?_|refine aT ?_|refine aK ?_)
  exact cR rfl (rt rfl) (rt rfl) ⟨sd, h, rfl, hR2, hEn2, hE2⟩
end Go.Proofs.Ytiejljicpinheaa
namespace Go.LA
end Go.LA
namespace Go.Proofs.Ytiejljicpinheaa
open Go.W Go.LM Go.LA Go.PM
theorem AM.up60 {K n : Nat} {w : World} {a : Option Addr} {s : Nat → SD} {F : Mat} (h : AM K w a n s F) (hK : K ≤ 60) : AM 60 w a n s F := ⟨h.top, fun i hi => (h.row i hi).up hK⟩
def ContF (n : Nat) (s : Nat → SD) (A : Mat) (m : Nat) (X : Vec) (t : Bool) : Prop := t = true ↔ okS n s ∧ m = n ∧ InL n (s 0).len A X
theorem uT {t t' : Bool} {p : Prop} (h : t = true ↔ p) (h' : t' = true ↔ p) : t = t' := by
 cases t <;> cases t' <;> simp_all
theorem ti {n cap m : Nat} {cx : Bool} {Kx : Nat} {w : World} {a : Option Addr} {s : Nat → SD} {A : Mat} {sx : SD} {X : Nat → Int} (hA : AM 60 w a n s A) (hX : RX cx Kx w sx m X) (hK : Kx ≤ 1000) : CallsR Try.prog 20 #[.slice a n cap, .slice sx.a m sx.cap] w fun v w' => ∃ t : Bool, v = .bool t ∧ ContF n s A m X t ∧ Ex w w' := by
 by_cases ok : okS n s
 ·by_cases hm : m = n
  ·subst hm
   refine (ky (hA.mx ok) hX (gA ok) (eR ok) (by omega) (by omega)).mono fun v w' h => ?_
   obtain ⟨t, rfl, ht, hE⟩ := h
   exact ⟨t, rfl, ⟨fun e => ⟨ok, rfl, ht.1 e⟩, fun e => ht.2 e.2.2⟩, hE⟩
  ·refine (lW (hA.mx ok) (gA ok) (eR ok) (by omega) (by omega) hm).mono fun v w' h => ?_
   obtain ⟨rfl, hE⟩ := h
   exact ⟨false, rfl, ⟨fun e => (nomatch e), fun e => absurd e.2.1 hm⟩, hE⟩
 ·refine (m9 hA.top ok).mono fun v w' h => ?_
  obtain ⟨rfl, hE⟩ := h
  exact ⟨false, rfl, ⟨fun e => (nomatch e), fun e => absurd e.1 ok⟩, hE⟩
end Go.Proofs.Ytiejljicpinheaa
namespace Go.Proofs.Ytiejljicpinheaa
open Go.W Go.LM Go.LA Go.PM
theorem ra {w : World} {lo lo' E n : Nat} {s : SD} {h : Nat → IH} (hR : RowG w lo E n s h) (hl : lo' ≤ lo) : RowG w lo' E n s h := by
 refine ⟨hR.1, ?_⟩
 rcases hR.2 with h0 | ⟨g, h1, h2, h3⟩
 ·exact .inl h0
 ·exact .inr ⟨g, h1, Nat.le_trans hl h2, h3⟩
theorem vq {cn : Bool} {K : Nat} {w : World} {lo E n : Nat} {s : SD} {h : Nat → IH} {f : Nat → Int} (hR : RowG w lo E n s h) (he : ∀ i, i < n → Ent cn K w (h i).val (f i)) : RX cn K w s n f := by
 refine ⟨hR.1, ?_, h, hR.sl, he⟩
 rcases hR.2 with ⟨_, rfl⟩ | ⟨g, h1, h2, h3, _⟩
 ·exact Nat.zero_le _
 ·exact h3
def colF (L : List Int) : Vec := fun i => L.getD i 0
theorem rb {L : List Int} (h : I8 L) (i : Nat) : -128 ≤ colF L i ∧ colF L i ≤ 127 := h.getD _
set_option maxHeartbeats 2000000 in
theorem rd {n : Nat} {L : List Int} {la : Option Addr} {lc : Nat} {w : World} (hL : Sl w la (int8L L)) (hI : I8 L) (hn : n ≤ 1000) :
  CallsR Try.prog 43 #[.slice la L.length lc, .int .i64 (n : Int)] w fun v w' => ∃ g, v = .slice (some ⟨g, 0, none⟩) n n ∧ w.heap.size ≤ g ∧ Blk w' g 2 (intC n (colF L)) ∧ Ex w w' := by
 refine aG (args := [_, _]) Try.func43 rfl rfl ?_
 repeat' (first|refine cC (cs := tapeL la L.length lc 0) rfl ?_|refine ai rfl ?_|refine aa ?_|refine aj ?_|refine ah rfl ?_|refine ae ?_)
 refine bH (vs := tapeL la L.length lc 0) rfl (fun g5 w1 hn1 => ⟨fun _ _ => trivial, ?_⟩)
 repeat' (first|refine kq (n := n) rfl rfl (by omega) (by omega) (fun g w2 hn2 => ⟨fun _ _ => trivial, ?_⟩)|refine ai rfl ?_|refine aa ?_|refine aj ?_|refine ah rfl ?_|refine ae ?_|refine aY rfl ?_|refine aB ?_)
 have l1 := hn1.lo
 have l2 := hn2.lo
 have s1 := hn1.ex.size
 have lb1 := hn1.blk.lt
 have hne : 0 < L.length → ∀ ad, la = some ad → ad.block ≠ g5 := fun h ad e => by have := hL.lt (by simpa using h) ad e; omega
 have hE02 := hn1.ex.trans hn2.ex
 refine aW (ι := Nat × (Nat → Int)) [7, 15, 16, 17, 18, 19, 20, 21, 22, 23] (fun t => [(15, .int .i64 (t.1 : Int))])
  (fun t w' => (t.1 ≤ n ∧ Ex w w') ∧ Blk w' g5 57 (tapeL la L.length lc (min t.1 L.length)) ∧ Blk w' g 2 (intC n t.2) ∧ ∀ l, l < t.1 → t.2 l = colF L l) (fun t => n - t.1)
  (0, fun _ => 0) ⟨rfl, trivial⟩ ⟨⟨by simp only; omega, hE02⟩, by simp only; rw [Nat.min_eq_left (Nat.zero_le _)]; exact hn1.blk.ext hn2.ex, hn2.blk, fun l h => by simp only at h; omega⟩ ?_
 rintro ⟨j, f⟩ ξ w3 ⟨⟨hj, hE3⟩, hT3, hR3, hf3⟩
 simp only at hj hT3 hR3 hf3
 show CW _ _ _ _ (over [(15, .int .i64 (j : Int))] _) w3
 rcases Nat.lt_or_ge j n with hjn | hjn
 ·repeat' (first|refine bv rfl rfl (by omega) ?_|refine ai rfl ?_|refine aa ?_|refine aj ?_|refine ah rfl ?_|refine ae ?_|refine aC rfl ?_|refine aB ?_|refine aF ?_)
  refine aw (gL hT3 (hL.ext hE3) hI hne (Nat.min_le_right _ _)) rfl ?_
  rintro v w4 ⟨rfl, hc4, hT4⟩
  refine ⟨fun _ _ => trivial, ?_⟩
  have hR4 := hR3.chg hc4 (by omega)
  rw [iI.1]
  rw [iI.2] at hT4
  repeat' (first|refine aD (j := j) rfl rfl ⟨_, _, rfl⟩ hjn ?_|refine dW (j := j) rfl rfl hR4 hjn (fun w5 hc5 hR5 => ⟨fun _ _ => trivial, ?_⟩)|refine ai rfl ?_|refine aa ?_|refine ah rfl ?_|refine ae ?_|refine bi rfl rfl (by omega) (by omega) ?_|refine aJ ?_)
  refine ⟨⟨(j + 1, setF f j (L.getD j 0)), ⟨⟨hjn, (hE3.chg hc4 (by omega)).chg hc5 (by omega)⟩, hT4.chg hc5 (by omega), hR5, fun l hl => ?_⟩, by simp only; omega, rfl, trivial⟩, (by (repeat (first|exact aH _ _ _|refine ax rfl ?_|refine av rfl ?_|refine ak rfl ?_|refine ao rfl ?_)))⟩
  replace hl : l < j + 1 := hl
  show setF f j (L.getD j 0) l = _
  by_cases e : l = j
  ·subst e; rw [aN]; rfl
  ·rw [aQ _ _ e]; exact hf3 l (by omega)
 ·obtain rfl : n = j := by omega
  repeat' (first|refine bu rfl rfl (by omega) ?_|refine ai rfl ?_|refine aa ?_|refine aj ?_|refine ah rfl ?_|refine ae ?_|refine ay rfl ?_|refine aS ?_|refine aL ?_|refine aT ?_|refine aK ?_)
  exact bB rfl (rt rfl) ⟨g, rfl, by omega, by rw [← dJ hf3]; exact hR3, hE3⟩
set_option maxHeartbeats 2000000 in
theorem sw {n : Nat} {L : List Int} {la : Option Addr} {lc : Nat} {w : World} (hL : Sl w la (int8L L)) (hI : I8 L) (hn : n ≤ 1000) :
  CallsR Try.prog 18 #[.slice la L.length lc, .int .i64 (n : Int)] w fun v w' => ∃ (sd : SD) (h : Nat → IH), v = .slice sd.a sd.len sd.cap ∧ RowG w' w.heap.size 49 n sd h ∧ (∀ i, i < n → Ent true 2 w' (h i).val (colF L i)) ∧ Ex w w' := by
 refine aG (args := [_, _]) Try.func18 rfl rfl ?_
 repeat' (first|refine ai rfl ?_|refine aa ?_|refine aj ?_|refine ah rfl ?_|refine ae ?_)
 refine aw (rd hL hI hn) rfl ?_
 rintro v w1 ⟨g, rfl, hlo, hb1, hE1⟩
 refine ⟨fun _ _ => trivial, ?_⟩
 have s1 := hE1.size
 repeat' (first|refine ai rfl ?_|refine aa ?_|refine ae ?_|refine aY rfl ?_|refine aB ?_)
 refine aW (ι := Nat × SD × (Nat → IH)) [5, 7, 12, 13, 14, 15, 16, 17, 18, 19, 20, 21] (fun t => [(12, .int .i64 (t.1 : Int)), (5, .slice t.2.1.a t.2.1.len t.2.1.cap)])
  (fun t w' => (t.1 ≤ n ∧ Ex w w' ∧ Ex w1 w') ∧ RowG w' w1.heap.size 49 t.1 t.2.1 t.2.2 ∧ ∀ i, i < t.1 → Ent true 2 w' (t.2.2 i).val (colF L i)) (fun t => n - t.1)
  (0, sd0, fun _ => ih0) ⟨rfl, rfl, trivial⟩ ⟨⟨by simp only; omega, hE1, Ex.refl _⟩, RowG.nil _ _ _ _, fun i h => by simp only at h; omega⟩ ?_
 rintro ⟨i, sd, h⟩ ξ w2 ⟨⟨hi, hE2, hE12⟩, hR2, hEn2⟩
 simp only at hi hR2 hEn2
 show CW _ _ _ _ (over [(12, .int .i64 (i : Int)), (5, .slice sd.a sd.len sd.cap)] _) w2
 rcases Nat.lt_or_ge i n with hin | hin
 ·repeat' (first|refine bv rfl rfl (by omega) ?_|refine aD (j := i) (a := some ⟨g, 0, none⟩) rfl rfl ⟨_, _, rfl⟩ (by omega) ?_|refine eT (j := i) (n := n) (f := colF L) rfl (hb1.ext hE12).sl hin ?_|refine ai rfl ?_|refine aa ?_|refine aj ?_|refine ah rfl ?_|refine ae ?_|refine aC rfl ?_|refine aB ?_|refine aF ?_)
  have hfit := rb hI i
  refine aw (dY (by omega) (by omega) _) rfl ?_
  rintro v w3 ⟨hI3, hE3⟩
  refine ⟨fun _ _ => trivial, ?_⟩
  obtain ⟨u, rfl⟩ := hI3.ih
  have hR3 := RowG.ext hR2 hE3
  have hE13 := hE12.trans hE3
  have hE03 := hE2.trans hE3
  skip
  refine qF (E := 49) rfl rfl rfl hR3 (by omega) (by omega) (by have := hE13.size; omega) ?_
  intro gt sd' h' w4 hR4 hf1 hf2 hG4 hA4
  repeat' (first|refine ai rfl ?_|refine aa ?_|refine ah rfl ?_|refine ae ?_|refine bi rfl rfl (by omega) (by omega) ?_|refine aJ ?_)
  have own : ∀ q, (Value.slice sd.a sd.len sd.cap).ownBlock = some q → w1.heap.size ≤ q := fun q e => (RowG.bk hR3 q e).1
  refine ⟨⟨(i + 1, sd', h'), ⟨⟨hin, hE03.gb hG4 (fun q e => by have := own q e; omega), hE13.gb hG4 own⟩, hR4, fun k hk => ?_⟩, by simp only; omega, rfl, rfl, trivial⟩, (by (repeat (first|exact aH _ _ _|refine ax rfl ?_|refine av rfl ?_|refine ak rfl ?_|refine ao rfl ?_)))⟩
  simp only at hk ⊢
  by_cases e : k = i
  ·subst e; rw [hf2]; exact (Ent.of hI3 (by have e2 : (4294967296 : Nat) ^ 2 = 18446744073709551616 := rfl; omega)).gbR hR3 hG4
  ·rw [hf1 k (by omega)]; exact ((hEn2 k (by omega)).ext hE3).gbR hR3 hG4
 ·obtain rfl : n = i := by omega
  repeat' (first|refine bu rfl rfl (by omega) ?_|refine ai rfl ?_|refine aa ?_|refine aj ?_|refine ah rfl ?_|refine ae ?_|refine ay rfl ?_|refine aS ?_|refine aL ?_|refine aT ?_|refine aK ?_)
  exact bB rfl (rt rfl) ⟨sd, h, rfl, ra hR2 s1, hEn2, hE2⟩
end Go.Proofs.Ytiejljicpinheaa
namespace Go.Proofs.Ytiejljicpinheaa
open Go.W Go.LM Go.LA
section
variable {cn : Bool} {K r n lo g i j : Nat} {w w' w'' : World} {gs cap : Nat → Nat} {F F' : Nat → Nat → Int} {sd sd' : SD} {h h' : Nat → IH}
theorem GR.finC (hG : GR cn K w lo g r n i n gs cap F sd h) (hn : 0 < n) (hcap : ∀ k, k < i → cap k ≤ maxLen) : ∃ gs' cap', MP cn K w lo g r n (i + 1) gs' cap' F ∧ ∀ k, k < i + 1 → cap' k ≤ maxLen := by
 obtain ⟨hl, h0 | ⟨g3, e1, e2, e3, e4, e5⟩⟩ := hG.cur
 ·omega
 ·obtain ⟨a, l, c⟩ := sd
  simp only at hl e1 e3 e4 e5
  subst e1; subst hl
  have hnw := hG.new _ rfl
  simp only at hnw
  refine ⟨setF gs i g3, setF cap i c, ⟨hG.low, ?_, fun k hk => ?_, fun k hk => ?_, fun k m hk hm he => ?_⟩, fun k hk => ?_⟩
  ·rw [bV (s' := setF (fun k => if k < i then (⟨some ⟨gs k, 0, none⟩, l, cap k⟩ : SD) else sd0) i ⟨some ⟨g3, 0, none⟩, l, c⟩) (fun k _ => ?_)]
   ·exact hG.top
   ·by_cases e : k = i
    ·subst e; rw [aN, if_pos (Nat.lt_succ_self _), aN, aN]
    ·rw [aQ _ _ e, aQ _ _ e, aQ _ _ e]
     by_cases h' : k < i
     ·rw [if_pos h', if_pos (by omega)]
     ·rw [if_neg h', if_neg (by omega)]
  ·by_cases e : k = i
   ·subst e; rw [aN, aN]; exact ⟨e2, e3, h, e5, hG.ent⟩
   ·rw [aQ _ _ e, aQ _ _ e]; exact hG.row k (by omega)
  ·by_cases e : k = i
   ·subst e; rw [aN]; exact fun e' => hnw.1 e'
   ·rw [aQ _ _ e]; exact hG.off k (by omega)
  ·by_cases e1 : k = i
   ·by_cases e2 : m = i
    ·omega
    ·subst e1; rw [aN, aQ _ _ e2] at he; exact absurd he.symm (hnw.2 m (by omega))
   ·by_cases e2 : m = i
    ·subst e2; rw [aN, aQ _ _ e1] at he; exact absurd he (hnw.2 k (by omega))
    ·rw [aQ _ _ e1, aQ _ _ e2] at he; exact hG.inj k m (by omega) (by omega) he
  ·by_cases e : k = i
   ·subst e; rw [aN]; exact e4
   ·rw [aQ _ _ e]; exact hcap k (by omega)
end
set_option maxHeartbeats 4000000 in
theorem vW {cn : Bool} {K r c cap : Nat} {w : World} {a : Option Addr} {s : Nat → SD} {F : Mat} (hM : MX cn K w a r c s F) (hr : 1 ≤ r ∧ r ≤ 1000) (hc : 1 ≤ c ∧ c ≤ 1000) :
  CallsR Try.prog 19 #[.slice a r cap] w fun v w' => ∃ g gs cp, v = .slice (some ⟨g, 0, none⟩) r r ∧ MO true K w' w.heap.size g r c gs cp F ∧ (∀ k, k < r → cp k ≤ maxLen) ∧ Ex w w' := by
 have hpt := hM.plain (by omega)
 refine aG (args := [_]) Try.func19 rfl rfl ?_
 repeat' (first|refine dE (n := r) rfl rfl (by omega) (by omega) (fun g w1 hn1 => ⟨fun _ _ => trivial, ?_⟩)|refine ai rfl ?_|refine aa ?_|refine aj ?_|refine ah rfl ?_|refine ae ?_|refine aY rfl ?_|refine aB ?_)
 refine aW (ι := Nat × (Nat → Nat) × (Nat → Nat)) [4, 6, 12, 13, 14, 15, 16, 17, 18, 19, 20, 21, 22, 23, 24, 25, 26, 27, 28, 29, 30, 31, 32, 33, 34, 35, 36] (fun t => [(12, .int .i64 (t.1 : Int))])
  (fun t w' => t.1 ≤ r ∧ Ex w w' ∧ MP true K w' w.heap.size g r c t.1 t.2.1 t.2.2 F ∧ ∀ k, k < t.1 → t.2.2 k ≤ maxLen) (fun t => r - t.1)
  (0, fun _ => 0, fun _ => 0) ⟨rfl, trivial⟩ ⟨by simp only; omega, hn1.ex, MP.start hn1.blk hn1.lo, fun k h => absurd h (Nat.not_lt_zero k)⟩ ?_
 rintro ⟨i, gs, cp⟩ ξ w2 ⟨hi, hE2, hP2, hcp⟩
 simp only at hi hP2 hcp
 show CW _ _ _ _ (over [(12, .int .i64 (i : Int))] _) w2
 rcases Nat.lt_or_ge i r with hir | hir
 ·obtain ⟨pa, d, hh, e1, e2, hpp, hS, hEn⟩ := (hM.ext hE2).get hir (by omega)
  repeat' (first|refine bv rfl rfl (by omega) ?_|refine aD (j := i) (a := a) rfl rfl hpt (by omega) ?_|refine aZ (j := i) (a := a) (n := r) (s := s) rfl (hM.ext hE2).top (by omega) e1 ?_|refine ai rfl ?_|refine aa ?_|refine aj ?_|refine ah rfl ?_|refine ae ?_|refine aY rfl ?_|refine aC rfl ?_|refine aB ?_|refine aF ?_)
  refine aW (ι := Nat × SD × (Nat → IH)) [6, 20, 21, 22, 23, 24, 25, 26, 27, 28, 29, 30, 31, 32, 33, 34, 35] (fun t => [(20, .int .i64 (t.1 : Int))])
   (fun t w' => t.1 ≤ c ∧ Ex w w' ∧ GR true K w' w.heap.size g r c i t.1 gs cp F t.2.1 t.2.2) (fun t => c - t.1)
   (0, sd0, fun _ => ih0) ⟨rfl, trivial⟩ ⟨by simp only; omega, hE2, GR.start hP2⟩ ?_
  clear hP2 hS hEn
  rintro ⟨j, sd, h⟩ ξ2 w3 ⟨hj, hE3, hG3⟩
  simp only at hj hG3
  show CW _ _ _ _ (over [(20, .int .i64 (j : Int))] _) w3
  obtain ⟨pa', d', hh, e1', e2', hp', hS, hEn⟩ := (hM.ext hE3).get hir (by omega)
  rw [e1] at e1'
  obtain ⟨rfl, rfl⟩ : pa = pa' ∧ d = d' := by cases e1'; exact ⟨rfl, rfl⟩
  rcases Nat.lt_or_ge j c with hje | hje
  ·repeat' (first|refine bv rfl rfl (by omega) ?_|refine bj (j := j) (a := pa) rfl rfl hpp (by omega) ?_|refine bD (j := j) (a := pa) rfl hS hpp (by omega) ?_|refine aa ?_|refine aj ?_|refine ah rfl ?_|refine ae ?_|refine aC rfl ?_|refine aB ?_|refine aF ?_)
   refine aE (fun g11 w4 hn4 => ⟨fun _ _ => trivial, ?_⟩)
   have hb4 : Blk w4 g11 49 (intL false none 0 0) := hn4.blk
   refine au (n := 2) (vs := (hh j).cells) rfl rfl rfl rfl hb4 rfl (fun w5 hc5 hb5 => ⟨fun _ _ => trivial, ?_⟩)
   have hE35 : Ex w3 w5 := hn4.ex.chg hc5 hn4.lo
   have hG5 := hG3.ext hE35
   have lgt := hG3.top.lt
   have hsE := hE3.size
   have l4 := hn4.lo
   have hng : g ≠ g11 := by omega
   have own : ∀ q, (Value.slice sd.a sd.len sd.cap).ownBlock = some q → q ≠ g ∧ q ≠ g11 ∧ w.heap.size ≤ q := fun q e => by
    obtain ⟨h1, ⟨ad, h2, h3⟩, h4⟩ := RowG.bk hG3.cur q e
    have := h4.lt
    exact ⟨fun e' => (hG3.new ad h2).1 (by omega), by omega, h1⟩
   repeat' (first|refine aa ?_|refine ae ?_)
   refine bn (late := [11]) (plan := [(0, none), (1, none), (2, none), (3, none), (4, none), (5, none), (6, none), (7, some true), (8, some true), (9, some true), (10, none), (11, some false)]) (fun w' => w5.grownBy w' (Value.slice sd.a sd.len sd.cap).ownBlock) bC (by kernel_rfl) (k6 (nZ (Ex.refl _))) ?_
   have hEd := (Ex.refl w5).drew
   repeat' (first|refine aD (j := i) (a := some ⟨g, 0, none⟩) rfl rfl ⟨_, _, rfl⟩ (by omega) ?_|refine aZ (j := i) (a := some ⟨g, 0, none⟩) (n := r) (a1 := sd.a) (l1 := sd.len) (c1 := sd.cap) rfl (fun _ h => (hG5.topB h).sl) (by omega) (by rw [aN]) ?_|refine aR (g := g11) rfl (fun _ h => hb5.gb h (fun e => (own _ e).2.1 rfl)) rfl ?_|refine ai rfl ?_)
   refine aw (eM ((hEn j (by omega)).ext (hE35.trans hEd)).k) rfl ?_
   rintro v w6 ⟨hI6, hE6⟩
   refine ⟨fun _ h => bJ h (nZ hE6) (fun k e => .inl e), ?_⟩
   obtain ⟨u, rfl⟩ := hI6.ih
   have hE56 := hEd.trans hE6
   have hG6 := hG5.ext hE56
   skip
   refine oO (E := 49) rfl rfl rfl (fun w1 w2 h1 h2 => bJ h2 h1 (fun k e => .inl e)) hG6.cur (by omega) (by omega) (by have := hE35.size; have := hE56.size; omega) ?_
   intro gt sd' h' w7 hR7 hf1 hf2 hG7 hA7
   repeat' (first|refine aD (j := i) (a := some ⟨g, 0, none⟩) rfl rfl ⟨_, _, rfl⟩ (by omega) ?_)
   refine cg (j := i) (u := sd') rfl rfl (hG6.topB hG7) (by omega) (fun w8 hc8 hT8 => ⟨fun h => (nomatch h), ?_⟩)
   have hE06 := (hE3.trans hE35).trans hE56
   repeat' (first|refine ai rfl ?_|refine aa ?_|refine ah rfl ?_|refine ae ?_|refine bi rfl rfl (by omega) (by omega) ?_|refine aJ ?_)
   exact ⟨⟨(j + 1, sd', h'), ⟨hje, (hE06.gb hG7 (fun q e => (own q e).2.2)).chg hc8 hG3.low, hG6.app hR7 hf1 hf2 hG7 hA7 (Ent.of hI6 (hEn j (by omega)).lb) hc8 hT8⟩, by simp only; omega, rfl, trivial⟩, (by (repeat (first|exact aH _ _ _|refine ax rfl ?_|refine av rfl ?_|refine ak rfl ?_|refine ao rfl ?_)))⟩
  ·have eje : j = c := by omega
   subst eje
   repeat' (first|refine bu rfl rfl (by omega) ?_|refine ai rfl ?_|refine aa ?_|refine aj ?_|refine ah rfl ?_|refine ae ?_|refine bi rfl rfl (by omega) (by omega) ?_|refine ay rfl ?_|refine aS ?_|refine aL ?_|refine aT ?_|refine aJ ?_)
   obtain ⟨gs', cp', hP, hcp'⟩ := hG3.finC (by omega) hcp
   exact ⟨⟨(i + 1, gs', cp'), ⟨hir, hE3, hP, hcp'⟩, by simp only; omega, rfl, trivial⟩, (by (repeat (first|exact aH _ _ _|refine ax rfl ?_|refine av rfl ?_|refine ak rfl ?_|refine ao rfl ?_)))⟩
 ·have eir : r = i := by omega
  subst eir
  repeat' (first|refine bu rfl rfl (by omega) ?_|refine ai rfl ?_|refine aa ?_|refine aj ?_|refine ah rfl ?_|refine ae ?_|refine ay rfl ?_|refine aS ?_|refine aL ?_|refine aT ?_|refine aK ?_)
  exact bB rfl (rt rfl) ⟨g, gs, cp, rfl, hP2.fin, hcp, hE2⟩
end Go.Proofs.Ytiejljicpinheaa
