import Derived.Test.YtppipmkpmmdcjaaGreatA16
namespace Go.Proofs.YtppipmkpmmdcjaaGreat
open Go.W Go.LM Go.LA
def rdiv (D : Mat) (t : Nat) : Mat := fun a b => if t < a then D a b - (D a t / D t t) * D t b else D a b
def cdiv (D : Mat) (t : Nat) : Mat := fun a b => if t < b then D a b - (D t b / D t t) * D a t else D a b
set_option maxHeartbeats 4000000 in
theorem j6 {K Ku K' lo ge r c gd gu gv t : Nat} {w : World} {lab : Nat → Nat} {D : Mat} (hE : EL K Ku w lab lo ge r c gd gu gv D) (hr : r ≤ 1000) (hc : c ≤ 1000) (htr : t < r) (htc : t < c) (hP : D t t ≠ 0) (hKK : K ≤ K') (hK' : K' + K' < 17592186044415)
  (hKu : Ku + 1000 * (K' + 1) + K' + K' + 2 < 17592186044415) (hlb : ∀ a b, t < a → a < r → b < c → Lb K' (D a b - (D a t / D t t) * D t b)) :
  CallsR Tryz.prog 60 #[.pointer (some ⟨ge, 0, none⟩), .int .i64 (t : Int)] w fun v w' => ∃ left : Bool, v = .bool left ∧ (left = true ↔ ∃ x, t < x ∧ x < r ∧ D x t % D t t ≠ 0) ∧ Fe lo w w' ∧ EL K' (Ku + r * (K' + 1)) w' lab lo ge r c gd gu gv (rdiv D t) := by
 have hb := hE.blk
 refine aH (args := [_, _]) Tryz.func60 rfl rfl ?_
 repeat' (first|refine ai rfl ?_|refine aa ?_|refine aj ?_|refine ah rfl ?_|refine ae ?_|refine aZ rfl rfl (by omega) (by omega) ?_|refine aA ?_)
 refine aY (ι := Nat × Bool) [5, 6, 7, 8, 9, 12, 13, 14, 15, 16, 17, 18, 19, 20, 21, 22, 23, 24, 25, 26, 27, 28, 29, 30, 31, 32, 33, 34, 35, 36, 37, 38, 39, 40, 41, 42, 43, 44, 45, 46, 47, 48, 49, 50, 51, 52, 53, 54, 55, 56, 57, 58, 59, 60, 61, 62, 63, 64, 65, 66, 67, 68, 69, 70, 71, 72] (fun y => [(6, .int .i64 (y.1 : Int)), (5, .bool y.2)])
  (fun y w' => (t < y.1 ∧ y.1 ≤ r) ∧ Fe lo w w' ∧ (y.2 = true ↔ ∃ x, t < x ∧ x < y.1 ∧ D x t % D t t ≠ 0) ∧ EL K' (Ku + y.1 * (K' + 1)) w' lab lo ge r c gd gu gv (fun a b => if t < a ∧ a < y.1 then D a b - (D a t / D t t) * D t b else D a b)) (fun y => r - y.1)
  (t + 1, false) ⟨rfl, rfl, trivial⟩ ⟨⟨by simp only; omega, by simp only; omega⟩, Fe.refl, ⟨fun e => (nomatch e), fun ⟨x, h1, h2, _⟩ => by simp only at h2; omega⟩, (hE.up hKK (by omega)).congr (fun a b _ _ => if_neg (by simp only; omega))⟩ ?_
 clear hE hb
 rintro ⟨x, left⟩ ξ w2 ⟨⟨htx, hxn⟩, hF2, hl, hE2⟩
 simp only at htx hxn hl hE2
 show CW _ _ _ _ (over [(6, .int .i64 (x : Int)), (5, .bool left)] _) w2
 obtain ⟨s, cp, hM, hlab⟩ := hE2.d
 obtain ⟨D2, hD2⟩ : ∃ D2 : Mat, D2 = (fun a b => if t < a ∧ a < x then D a b - (D a t / D t t) * D t b else D a b) := ⟨_, rfl⟩
 rw [← hD2] at hE2 hM
 rcases Nat.lt_or_ge x r with hx | hx
 ·have e1 : D2 x t = D x t := by rw [hD2]; exact if_neg (by omega)
  have e2 : D2 t t = D t t := by rw [hD2]; exact if_neg (by omega)
  obtain ⟨hh1, hb1, hc1, hEn1⟩ := hM.get (k := x) (by omega)
  obtain ⟨hh2, hb2, hc2, hEn2⟩ := hM.get htr
  have hB := hE2.blk
  have hx1 := hEn1 t (by omega)
  have hx2 := hEn2 t htc
  rw [e1] at hx1
  rw [e2] at hx2
  repeat' (first|refine aQ (g := ge) (cs := elL gd gu gv r c) rfl hE2.blk rfl ?_|refine bC rfl rfl (by omega) ?_|refine ai rfl ?_|refine aa ?_|refine aj ?_|refine ah rfl ?_|refine ae ?_|refine bh rfl ?_|refine aG rfl ?_|refine aD rfl ?_|refine aF ?_)
  refine aA ?_
  repeat' (first|refine aj ?_)
  refine cD (ι := (Nat × Nat) × IH × IH) [7, 8, 9, 21, 22, 23, 24, 25, 26, 27, 28, 29, 30, 31, 32, 33, 34, 35, 36, 37, 38, 39, 40, 41, 42, 43, 44, 45] (fun y => [(7, .pointer (some ⟨y.1.1, 0, none⟩)), (8, .pointer (some ⟨y.1.2, 0, none⟩))])
   (fun y w' => Ex w2 w' ∧ w2.heap.size ≤ y.1.1 ∧ w2.heap.size ≤ y.1.2 ∧ y.1.1 ≠ y.1.2 ∧ Blk w' y.1.1 33 y.2.1.cells ∧ Blk w' y.1.2 33 y.2.2.cells ∧ Ent true K' w' y.2.1.val (D x t / D t t) ∧ Ent true K' w' y.2.2.val (D x t % D t t)) ?_ ?_
  ·have hEx : Ex w2 w2.drew := (Ex.refl _).drew
   refine dN (fun w' => Ex w2 w') bB hEx ?_
   refine bp (fuel := 10) (by kernel_rfl) (by kernel_rfl) [0, 1, 2, 3, 4, 5, 6, 7, 8, 9, 10, 11, 12, 13, 14, 15, 16, 17, 18, 19] _ _ (by kernel_rfl) ?_
   repeat' (first|refine aQ (g := ge) (cs := elL gd gu gv r c) rfl (fun _ h => hB.ext h) rfl ?_|refine aC (j := x) (a := some ⟨gd, 0, none⟩) rfl rfl ⟨_, _, rfl⟩ (by omega) ?_|refine aU (j := x) (a := some ⟨gd, 0, none⟩) (n := r) (s := fun k => ⟨some ⟨s k, 0, none⟩, c, cp k⟩) rfl (fun _ h => (hM.ext h).top.sl) (by omega) rfl ?_|refine aC (j := t) (a := some ⟨gd, 0, none⟩) rfl rfl ⟨_, _, rfl⟩ (by omega) ?_|refine aU (j := t) (a := some ⟨gd, 0, none⟩) (n := r) (s := fun k => ⟨some ⟨s k, 0, none⟩, c, cp k⟩) rfl (fun _ h => (hM.ext h).top.sl) (by omega) rfl ?_|refine aT (j := t) (a := some ⟨s x, 0, none⟩) rfl rfl ⟨_, _, rfl⟩ (by omega) ?_|refine bu (j := t) (n := cp x) (a := some ⟨s x, 0, none⟩) rfl (fun _ h => (hb1.ext h).sl) ⟨_, _, rfl⟩ (by omega) ?_|refine aT (j := t) (a := some ⟨s t, 0, none⟩) rfl rfl ⟨_, _, rfl⟩ (by omega) ?_|refine bu (j := t) (n := cp t) (a := some ⟨s t, 0, none⟩) rfl (fun _ h => (hb2.ext h).sl) ⟨_, _, rfl⟩ (by omega) ?_|refine ai rfl ?_|refine ae ?_|refine aG rfl ?_)
   refine az (fuel := 9) (rs := [20, 25, 26]) (by kernel_rfl) (by kernel_rfl) rfl ?_
   simp only [List.forall_mem_cons, List.not_mem_nil, false_implies, implies_true, and_true]
   refine ⟨?_, ?_, ?_⟩
   ·refine av (bn (hx1.ext hEx).k (hx2.ext hEx).k (by omega) (by omega)) rfl ?_
    rintro v w9 ⟨u1, u2, rfl, eu1, eu2, hE9⟩
    refine ⟨fun _ h => h.trans hE9, ?_⟩
    rw [if_neg hP] at eu2
    replace eu1 : Ent true K' _ _ _ := Ent.of eu1 (hx1.lb.div (D t t))
    replace eu2 : Ent true K' _ _ _ := Ent.of eu2 (hx2.lb.mod (D x t) hP)
    obtain ⟨u1, rfl⟩ := eu1.ih
    obtain ⟨u2, rfl⟩ := eu2.ih
    replace hEx := hEx.trans hE9
    refine ae ?_
    refine bp (fuel := 5) (by kernel_rfl) (by kernel_rfl) [21, 22, 23, 24] _ _ (by kernel_rfl) ?_
    repeat' (first|refine aS rfl rfl ?_|refine ai rfl ?_|refine ae ?_)
    refine az (fuel := 4) (rs := [25, 26]) (by kernel_rfl) (by kernel_rfl) rfl ?_
    simp only [List.forall_mem_cons, List.not_mem_nil, false_implies, implies_true, and_true]
    refine ⟨?_, ?_⟩
    ·refine aB (fun g11 w11 hn11 => ⟨fun _ h => h.trans hn11.ex, ?_⟩)
     have hb11 : Blk w11 g11 33 (intL false none 0 0) := hn11.blk
     have lo11 : w2.heap.size ≤ g11 := Nat.le_trans hEx.size hn11.lo
     replace hEx := hEx.trans hn11.ex
     replace eu1 := eu1.ext hn11.ex
     replace eu2 := eu2.ext hn11.ex
     refine ae ?_
     refine az (fuel := 3) (rs := [26]) (by kernel_rfl) (by kernel_rfl) rfl ?_
     rw [List.forall_mem_singleton]
     refine aB (fun g12 w12 hn12 => ⟨fun _ h => h.trans hn12.ex, ?_⟩)
     have hb12 : Blk w12 g12 33 (intL false none 0 0) := hn12.blk
     have lo12 : w2.heap.size ≤ g12 := Nat.le_trans hEx.size hn12.lo
     have ne12 : g11 ≠ g12 := (by have := hb11.lt; have := hn12.lo; omega)
     replace hEx := hEx.trans hn12.ex
     replace hb11 := hb11.ext hn12.ex
     replace eu1 := eu1.ext hn12.ex
     replace eu2 := eu2.ext hn12.ex
     refine ae ?_
     refine az (fuel := 2) (rs := [27]) (by kernel_rfl) (by kernel_rfl) rfl ?_
     rw [List.forall_mem_singleton]
     refine ax (n := 2) (vs := u1.cells) rfl rfl rfl rfl hb11 rfl (fun w16 hc16 hb16 => ⟨fun _ h => h.chg hc16 lo11, ?_⟩)
     replace hEx := hEx.chg hc16 lo11
     replace hb12 := hb12.chg hc16 (Ne.symm ne12)
     replace eu1 := eu1.gbN hb11 (aI _ _ _ _) (bG hc16)
     replace eu2 := eu2.gbN hb11 (aI _ _ _ _) (bG hc16)
     refine ae ?_
     refine az (fuel := 1) (rs := [28]) (by kernel_rfl) (by kernel_rfl) rfl ?_
     rw [List.forall_mem_singleton]
     refine ax (n := 2) (vs := u2.cells) rfl rfl rfl rfl hb12 rfl (fun w17 hc17 hb17 => ⟨fun _ h => h.chg hc17 lo12, ?_⟩)
     refine ae ?_
     refine bp (fuel := 0) (by kernel_rfl) (by kernel_rfl) [29] _ _ (by kernel_rfl) ?_
     repeat' (first|refine ai rfl ?_|refine ae ?_)
     refine bw (by kernel_rfl) ?_
     refine aa ?_
     exact ⟨⟨((_, _), u1, u2), ⟨hEx.chg hc17 lo12, lo11, lo12, ne12, hb16.chg hc17 ne12, hb17, eu1.gbN hb12 (aI _ _ _ _) (bG hc17), eu2.gbN hb12 (aI _ _ _ _) (bG hc17)⟩, rfl, rfl, trivial⟩, (by (repeat (first|exact aM _ _|refine aw rfl ?_|refine au rfl ?_|refine ak rfl ?_|refine ao rfl ?_)))⟩
    ·refine aB (fun g12 w12 hn12 => ⟨fun _ h => h.trans hn12.ex, ?_⟩)
     have hb12 : Blk w12 g12 33 (intL false none 0 0) := hn12.blk
     have lo12 : w2.heap.size ≤ g12 := Nat.le_trans hEx.size hn12.lo
     replace hEx := hEx.trans hn12.ex
     replace eu1 := eu1.ext hn12.ex
     replace eu2 := eu2.ext hn12.ex
     refine ae ?_
     refine az (fuel := 3) (rs := [25]) (by kernel_rfl) (by kernel_rfl) rfl ?_
     rw [List.forall_mem_singleton]
     refine aB (fun g11 w11 hn11 => ⟨fun _ h => h.trans hn11.ex, ?_⟩)
     have hb11 : Blk w11 g11 33 (intL false none 0 0) := hn11.blk
     have lo11 : w2.heap.size ≤ g11 := Nat.le_trans hEx.size hn11.lo
     have ne12 : g11 ≠ g12 := (by have := hb12.lt; have := hn11.lo; omega)
     replace hEx := hEx.trans hn11.ex
     replace hb12 := hb12.ext hn11.ex
     replace eu1 := eu1.ext hn11.ex
     replace eu2 := eu2.ext hn11.ex
     refine ae ?_
     refine az (fuel := 2) (rs := [27]) (by kernel_rfl) (by kernel_rfl) rfl ?_
     rw [List.forall_mem_singleton]
     refine ax (n := 2) (vs := u1.cells) rfl rfl rfl rfl hb11 rfl (fun w16 hc16 hb16 => ⟨fun _ h => h.chg hc16 lo11, ?_⟩)
     replace hEx := hEx.chg hc16 lo11
     replace hb12 := hb12.chg hc16 (Ne.symm ne12)
     replace eu1 := eu1.gbN hb11 (aI _ _ _ _) (bG hc16)
     replace eu2 := eu2.gbN hb11 (aI _ _ _ _) (bG hc16)
     refine ae ?_
     refine az (fuel := 1) (rs := [28]) (by kernel_rfl) (by kernel_rfl) rfl ?_
     rw [List.forall_mem_singleton]
     refine ax (n := 2) (vs := u2.cells) rfl rfl rfl rfl hb12 rfl (fun w17 hc17 hb17 => ⟨fun _ h => h.chg hc17 lo12, ?_⟩)
     refine ae ?_
     refine bp (fuel := 0) (by kernel_rfl) (by kernel_rfl) [29] _ _ (by kernel_rfl) ?_
     repeat' (first|refine ai rfl ?_|refine ae ?_)
     refine bw (by kernel_rfl) ?_
     refine aa ?_
     exact ⟨⟨((_, _), u1, u2), ⟨hEx.chg hc17 lo12, lo11, lo12, ne12, hb16.chg hc17 ne12, hb17, eu1.gbN hb12 (aI _ _ _ _) (bG hc17), eu2.gbN hb12 (aI _ _ _ _) (bG hc17)⟩, rfl, rfl, trivial⟩, (by (repeat (first|exact aM _ _|refine aw rfl ?_|refine au rfl ?_|refine ak rfl ?_|refine ao rfl ?_)))⟩
   ·refine aB (fun g11 w11 hn11 => ⟨fun _ h => h.trans hn11.ex, ?_⟩)
    have hb11 : Blk w11 g11 33 (intL false none 0 0) := hn11.blk
    have lo11 : w2.heap.size ≤ g11 := Nat.le_trans hEx.size hn11.lo
    replace hEx := hEx.trans hn11.ex
    refine ae ?_
    refine az (fuel := 8) (rs := [20, 26]) (by kernel_rfl) (by kernel_rfl) rfl ?_
    simp only [List.forall_mem_cons, List.not_mem_nil, false_implies, implies_true, and_true]
    refine ⟨?_, ?_⟩
    ·refine av (bn (hx1.ext hEx).k (hx2.ext hEx).k (by omega) (by omega)) rfl ?_
     rintro v w9 ⟨u1, u2, rfl, eu1, eu2, hE9⟩
     refine ⟨fun _ h => h.trans hE9, ?_⟩
     rw [if_neg hP] at eu2
     replace eu1 : Ent true K' _ _ _ := Ent.of eu1 (hx1.lb.div (D t t))
     replace eu2 : Ent true K' _ _ _ := Ent.of eu2 (hx2.lb.mod (D x t) hP)
     obtain ⟨u1, rfl⟩ := eu1.ih
     obtain ⟨u2, rfl⟩ := eu2.ih
     replace hEx := hEx.trans hE9
     replace hb11 := hb11.ext hE9
     refine ae ?_
     refine bp (fuel := 4) (by kernel_rfl) (by kernel_rfl) [21, 22, 23, 24] _ _ (by kernel_rfl) ?_
     repeat' (first|refine aS rfl rfl ?_|refine ai rfl ?_|refine ae ?_)
     refine az (fuel := 3) (rs := [26]) (by kernel_rfl) (by kernel_rfl) rfl ?_
     rw [List.forall_mem_singleton]
     refine aB (fun g12 w12 hn12 => ⟨fun _ h => h.trans hn12.ex, ?_⟩)
     have hb12 : Blk w12 g12 33 (intL false none 0 0) := hn12.blk
     have lo12 : w2.heap.size ≤ g12 := Nat.le_trans hEx.size hn12.lo
     have ne12 : g11 ≠ g12 := (by have := hb11.lt; have := hn12.lo; omega)
     replace hEx := hEx.trans hn12.ex
     replace hb11 := hb11.ext hn12.ex
     replace eu1 := eu1.ext hn12.ex
     replace eu2 := eu2.ext hn12.ex
     refine ae ?_
     refine az (fuel := 2) (rs := [27]) (by kernel_rfl) (by kernel_rfl) rfl ?_
     rw [List.forall_mem_singleton]
     refine ax (n := 2) (vs := u1.cells) rfl rfl rfl rfl hb11 rfl (fun w16 hc16 hb16 => ⟨fun _ h => h.chg hc16 lo11, ?_⟩)
     replace hEx := hEx.chg hc16 lo11
     replace hb12 := hb12.chg hc16 (Ne.symm ne12)
     replace eu1 := eu1.gbN hb11 (aI _ _ _ _) (bG hc16)
     replace eu2 := eu2.gbN hb11 (aI _ _ _ _) (bG hc16)
     refine ae ?_
     refine az (fuel := 1) (rs := [28]) (by kernel_rfl) (by kernel_rfl) rfl ?_
     rw [List.forall_mem_singleton]
     refine ax (n := 2) (vs := u2.cells) rfl rfl rfl rfl hb12 rfl (fun w17 hc17 hb17 => ⟨fun _ h => h.chg hc17 lo12, ?_⟩)
     refine ae ?_
     refine bp (fuel := 0) (by kernel_rfl) (by kernel_rfl) [29] _ _ (by kernel_rfl) ?_
     repeat' (first|refine ai rfl ?_|refine ae ?_)
     refine bw (by kernel_rfl) ?_
     refine aa ?_
     exact ⟨⟨((_, _), u1, u2), ⟨hEx.chg hc17 lo12, lo11, lo12, ne12, hb16.chg hc17 ne12, hb17, eu1.gbN hb12 (aI _ _ _ _) (bG hc17), eu2.gbN hb12 (aI _ _ _ _) (bG hc17)⟩, rfl, rfl, trivial⟩, (by (repeat (first|exact aM _ _|refine aw rfl ?_|refine au rfl ?_|refine ak rfl ?_|refine ao rfl ?_)))⟩
    ·refine aB (fun g12 w12 hn12 => ⟨fun _ h => h.trans hn12.ex, ?_⟩)
     have hb12 : Blk w12 g12 33 (intL false none 0 0) := hn12.blk
     have lo12 : w2.heap.size ≤ g12 := Nat.le_trans hEx.size hn12.lo
     have ne12 : g11 ≠ g12 := (by have := hb11.lt; have := hn12.lo; omega)
     replace hEx := hEx.trans hn12.ex
     replace hb11 := hb11.ext hn12.ex
     refine ae ?_
     refine az (fuel := 7) (rs := [20]) (by kernel_rfl) (by kernel_rfl) rfl ?_
     rw [List.forall_mem_singleton]
     refine av (bn (hx1.ext hEx).k (hx2.ext hEx).k (by omega) (by omega)) rfl ?_
     rintro v w9 ⟨u1, u2, rfl, eu1, eu2, hE9⟩
     refine ⟨fun _ h => h.trans hE9, ?_⟩
     rw [if_neg hP] at eu2
     replace eu1 : Ent true K' _ _ _ := Ent.of eu1 (hx1.lb.div (D t t))
     replace eu2 : Ent true K' _ _ _ := Ent.of eu2 (hx2.lb.mod (D x t) hP)
     obtain ⟨u1, rfl⟩ := eu1.ih
     obtain ⟨u2, rfl⟩ := eu2.ih
     replace hEx := hEx.trans hE9
     replace hb11 := hb11.ext hE9
     replace hb12 := hb12.ext hE9
     refine ae ?_
     refine bp (fuel := 3) (by kernel_rfl) (by kernel_rfl) [21, 22, 23, 24] _ _ (by kernel_rfl) ?_
     repeat' (first|refine aS rfl rfl ?_|refine ai rfl ?_|refine ae ?_)
     refine az (fuel := 2) (rs := [27]) (by kernel_rfl) (by kernel_rfl) rfl ?_
     rw [List.forall_mem_singleton]
     refine ax (n := 2) (vs := u1.cells) rfl rfl rfl rfl hb11 rfl (fun w16 hc16 hb16 => ⟨fun _ h => h.chg hc16 lo11, ?_⟩)
     replace hEx := hEx.chg hc16 lo11
     replace hb12 := hb12.chg hc16 (Ne.symm ne12)
     replace eu1 := eu1.gbN hb11 (aI _ _ _ _) (bG hc16)
     replace eu2 := eu2.gbN hb11 (aI _ _ _ _) (bG hc16)
     refine ae ?_
     refine az (fuel := 1) (rs := [28]) (by kernel_rfl) (by kernel_rfl) rfl ?_
     rw [List.forall_mem_singleton]
     refine ax (n := 2) (vs := u2.cells) rfl rfl rfl rfl hb12 rfl (fun w17 hc17 hb17 => ⟨fun _ h => h.chg hc17 lo12, ?_⟩)
     refine ae ?_
     refine bp (fuel := 0) (by kernel_rfl) (by kernel_rfl) [29] _ _ (by kernel_rfl) ?_
     repeat' (first|refine ai rfl ?_|refine ae ?_)
     refine bw (by kernel_rfl) ?_
     refine aa ?_
     exact ⟨⟨((_, _), u1, u2), ⟨hEx.chg hc17 lo12, lo11, lo12, ne12, hb16.chg hc17 ne12, hb17, eu1.gbN hb12 (aI _ _ _ _) (bG hc17), eu2.gbN hb12 (aI _ _ _ _) (bG hc17)⟩, rfl, rfl, trivial⟩, (by (repeat (first|exact aM _ _|refine aw rfl ?_|refine au rfl ?_|refine ak rfl ?_|refine ao rfl ?_)))⟩
   ·refine aB (fun g12 w12 hn12 => ⟨fun _ h => h.trans hn12.ex, ?_⟩)
    have hb12 : Blk w12 g12 33 (intL false none 0 0) := hn12.blk
    have lo12 : w2.heap.size ≤ g12 := Nat.le_trans hEx.size hn12.lo
    replace hEx := hEx.trans hn12.ex
    refine ae ?_
    refine az (fuel := 8) (rs := [20, 25]) (by kernel_rfl) (by kernel_rfl) rfl ?_
    simp only [List.forall_mem_cons, List.not_mem_nil, false_implies, implies_true, and_true]
    refine ⟨?_, ?_⟩
    ·refine av (bn (hx1.ext hEx).k (hx2.ext hEx).k (by omega) (by omega)) rfl ?_
     rintro v w9 ⟨u1, u2, rfl, eu1, eu2, hE9⟩
     refine ⟨fun _ h => h.trans hE9, ?_⟩
     rw [if_neg hP] at eu2
     replace eu1 : Ent true K' _ _ _ := Ent.of eu1 (hx1.lb.div (D t t))
     replace eu2 : Ent true K' _ _ _ := Ent.of eu2 (hx2.lb.mod (D x t) hP)
     obtain ⟨u1, rfl⟩ := eu1.ih
     obtain ⟨u2, rfl⟩ := eu2.ih
     replace hEx := hEx.trans hE9
     replace hb12 := hb12.ext hE9
     refine ae ?_
     refine bp (fuel := 4) (by kernel_rfl) (by kernel_rfl) [21, 22, 23, 24] _ _ (by kernel_rfl) ?_
     repeat' (first|refine aS rfl rfl ?_|refine ai rfl ?_|refine ae ?_)
     refine az (fuel := 3) (rs := [25]) (by kernel_rfl) (by kernel_rfl) rfl ?_
     rw [List.forall_mem_singleton]
     refine aB (fun g11 w11 hn11 => ⟨fun _ h => h.trans hn11.ex, ?_⟩)
     have hb11 : Blk w11 g11 33 (intL false none 0 0) := hn11.blk
     have lo11 : w2.heap.size ≤ g11 := Nat.le_trans hEx.size hn11.lo
     have ne12 : g11 ≠ g12 := (by have := hb12.lt; have := hn11.lo; omega)
     replace hEx := hEx.trans hn11.ex
     replace hb12 := hb12.ext hn11.ex
     replace eu1 := eu1.ext hn11.ex
     replace eu2 := eu2.ext hn11.ex
     refine ae ?_
     refine az (fuel := 2) (rs := [27]) (by kernel_rfl) (by kernel_rfl) rfl ?_
     rw [List.forall_mem_singleton]
     refine ax (n := 2) (vs := u1.cells) rfl rfl rfl rfl hb11 rfl (fun w16 hc16 hb16 => ⟨fun _ h => h.chg hc16 lo11, ?_⟩)
     replace hEx := hEx.chg hc16 lo11
     replace hb12 := hb12.chg hc16 (Ne.symm ne12)
     replace eu1 := eu1.gbN hb11 (aI _ _ _ _) (bG hc16)
     replace eu2 := eu2.gbN hb11 (aI _ _ _ _) (bG hc16)
     refine ae ?_
     refine az (fuel := 1) (rs := [28]) (by kernel_rfl) (by kernel_rfl) rfl ?_
     rw [List.forall_mem_singleton]
     refine ax (n := 2) (vs := u2.cells) rfl rfl rfl rfl hb12 rfl (fun w17 hc17 hb17 => ⟨fun _ h => h.chg hc17 lo12, ?_⟩)
     refine ae ?_
     refine bp (fuel := 0) (by kernel_rfl) (by kernel_rfl) [29] _ _ (by kernel_rfl) ?_
     repeat' (first|refine ai rfl ?_|refine ae ?_)
     refine bw (by kernel_rfl) ?_
     refine aa ?_
     exact ⟨⟨((_, _), u1, u2), ⟨hEx.chg hc17 lo12, lo11, lo12, ne12, hb16.chg hc17 ne12, hb17, eu1.gbN hb12 (aI _ _ _ _) (bG hc17), eu2.gbN hb12 (aI _ _ _ _) (bG hc17)⟩, rfl, rfl, trivial⟩, (by (repeat (first|exact aM _ _|refine aw rfl ?_|refine au rfl ?_|refine ak rfl ?_|refine ao rfl ?_)))⟩
    ·refine aB (fun g11 w11 hn11 => ⟨fun _ h => h.trans hn11.ex, ?_⟩)
     have hb11 : Blk w11 g11 33 (intL false none 0 0) := hn11.blk
     have lo11 : w2.heap.size ≤ g11 := Nat.le_trans hEx.size hn11.lo
     have ne12 : g11 ≠ g12 := (by have := hb12.lt; have := hn11.lo; omega)
     replace hEx := hEx.trans hn11.ex
     replace hb12 := hb12.ext hn11.ex
     refine ae ?_
     refine az (fuel := 7) (rs := [20]) (by kernel_rfl) (by kernel_rfl) rfl ?_
     rw [List.forall_mem_singleton]
     refine av (bn (hx1.ext hEx).k (hx2.ext hEx).k (by omega) (by omega)) rfl ?_
     rintro v w9 ⟨u1, u2, rfl, eu1, eu2, hE9⟩
     refine ⟨fun _ h => h.trans hE9, ?_⟩
     rw [if_neg hP] at eu2
     replace eu1 : Ent true K' _ _ _ := Ent.of eu1 (hx1.lb.div (D t t))
     replace eu2 : Ent true K' _ _ _ := Ent.of eu2 (hx2.lb.mod (D x t) hP)
     obtain ⟨u1, rfl⟩ := eu1.ih
     obtain ⟨u2, rfl⟩ := eu2.ih
     replace hEx := hEx.trans hE9
     replace hb11 := hb11.ext hE9
     replace hb12 := hb12.ext hE9
     refine ae ?_
     refine bp (fuel := 3) (by kernel_rfl) (by kernel_rfl) [21, 22, 23, 24] _ _ (by kernel_rfl) ?_
     repeat' (first|refine aS rfl rfl ?_|refine ai rfl ?_|refine ae ?_)
     refine az (fuel := 2) (rs := [27]) (by kernel_rfl) (by kernel_rfl) rfl ?_
     rw [List.forall_mem_singleton]
     refine ax (n := 2) (vs := u1.cells) rfl rfl rfl rfl hb11 rfl (fun w16 hc16 hb16 => ⟨fun _ h => h.chg hc16 lo11, ?_⟩)
     replace hEx := hEx.chg hc16 lo11
     replace hb12 := hb12.chg hc16 (Ne.symm ne12)
     replace eu1 := eu1.gbN hb11 (aI _ _ _ _) (bG hc16)
     replace eu2 := eu2.gbN hb11 (aI _ _ _ _) (bG hc16)
     refine ae ?_
     refine az (fuel := 1) (rs := [28]) (by kernel_rfl) (by kernel_rfl) rfl ?_
     rw [List.forall_mem_singleton]
     refine ax (n := 2) (vs := u2.cells) rfl rfl rfl rfl hb12 rfl (fun w17 hc17 hb17 => ⟨fun _ h => h.chg hc17 lo12, ?_⟩)
     refine ae ?_
     refine bp (fuel := 0) (by kernel_rfl) (by kernel_rfl) [29] _ _ (by kernel_rfl) ?_
     repeat' (first|refine ai rfl ?_|refine ae ?_)
     refine bw (by kernel_rfl) ?_
     refine aa ?_
     exact ⟨⟨((_, _), u1, u2), ⟨hEx.chg hc17 lo12, lo11, lo12, ne12, hb16.chg hc17 ne12, hb17, eu1.gbN hb12 (aI _ _ _ _) (bG hc17), eu2.gbN hb12 (aI _ _ _ _) (bG hc17)⟩, rfl, rfl, trivial⟩, (by (repeat (first|exact aM _ _|refine aw rfl ?_|refine au rfl ?_|refine ak rfl ?_|refine ao rfl ?_)))⟩
  ·clear hb1 hb2 hEn1 hEn2 hx1 hx2 hB hM hlab hc1 hc2
   rintro ⟨⟨g7, g8⟩, u1, u2⟩ ξ3 w3 ⟨hE3, lo7, lo8, ne78, hb7, hb8, eu1, eu2⟩
   simp only at lo7 lo8 ne78 hb7 hb8 eu1 eu2
   show CW _ _ _ _ (over [(7, .pointer (some ⟨g7, 0, none⟩)), (8, .pointer (some ⟨g8, 0, none⟩))] _) w3
   have hE20 := hE2
   have hF20 := hF2
   replace hE2 := hE2.ext hE3
   replace hF2 := hF2.trans (Fe.ex hE3)
   repeat' (first|refine aN (g := g7) rfl hb7 rfl ?_|refine aj ?_|refine ah rfl ?_)
   refine av (bP eu1.k) rfl ?_
   rintro v w4 ⟨rfl, hE4⟩
   refine ⟨fun _ _ => trivial, ?_⟩
   have hnx : ∀ lf : Bool, (left = true → lf = true) → (left = false → (lf = true ↔ D x t % D t t ≠ 0)) → (lf = true ↔ ∃ y, t < y ∧ y < x + 1 ∧ D y t % D t t ≠ 0) := by
    intro lf h1 h2
    cases left with
    | true =>
     refine ⟨fun _ => ?_, fun _ => h1 rfl⟩
     obtain ⟨y, y1, y2, y3⟩ := hl.1 rfl
     exact ⟨y, y1, by omega, y3⟩
    | false =>
     rw [h2 rfl]
     refine ⟨fun h => ⟨x, htx, by omega, h⟩, fun ⟨y, y1, y2, y3⟩ => ?_⟩
     by_cases e : y = x
     ·subst e; exact y3
     ·exact absurd (hl.2 ⟨y, y1, by omega, y3⟩) (by decide)
   obtain ⟨Y, hY⟩ : ∃ Y, Y = x * (K' + 1) := ⟨_, rfl⟩
   have hY1 : (x + 1) * (K' + 1) = Y + K' + 1 := by rw [Nat.succ_mul, hY]; rfl
   have hYb : Y ≤ 1000 * (K' + 1) := by rw [hY]; exact Nat.mul_le_mul_right _ (by omega)
   rw [← hY] at hE2 hE20
   have e3 : ∀ k, D2 x k = D x k := fun k => by rw [hD2]; exact if_neg (by omega)
   have e4 : ∀ k, D2 t k = D t k := fun k => by rw [hD2]; exact if_neg (by omega)
   have hnew : ∀ D3 : Mat, (∀ a b, a < r → b < c → D3 a b = if a = x then D2 a b - (D x t / D t t) * D t b else D2 a b) → ∀ a b, a < r → b < c → (fun a b => if t < a ∧ a < (x + 1) then D a b - (D a t / D t t) * D t b else D a b) a b = D3 a b := by
    intro D3 h3 a b ha hb
    rw [h3 a b ha hb]
    by_cases e : a = x
    ·rw [if_pos e]
     show (if t < a ∧ a < x + 1 then _ else _) = _
     rw [if_pos ⟨by omega, by omega⟩, hD2]
     show _ = (if t < a ∧ a < x then _ else _) - _
     rw [if_neg (by omega), e]
    ·rw [if_neg e]
     show (if t < a ∧ a < x + 1 then _ else _) = _
     rw [hD2]
     show _ = (if t < a ∧ a < x then _ else _)
     by_cases h : t < a ∧ a < x
     ·rw [if_pos h, if_pos ⟨h.1, by omega⟩]
     ·rw [if_neg h, if_neg (by omega)]
   have hF4 : Fe lo w w4 := hF2.trans (Fe.ex hE4)
   replace hE2 := hE2.ext hE4
   have hb84 := hb8.ext hE4
   have eu24 := eu2.ext hE4
   by_cases hq : D x t / D t t = 0
   ·have hEn : EL K' (Ku + (x + 1) * (K' + 1)) w4 lab lo ge r c gd gu gv (fun a b => if t < a ∧ a < (x + 1) then D a b - (D a t / D t t) * D t b else D a b) := (hE2.up (Nat.le_refl _) (by omega)).congr (hnew D2 (fun a b _ _ => by
     by_cases e : a = x
     ·rw [if_pos e, e, hq, Int.zero_mul, Int.sub_zero]
     ·rw [if_neg e]))
    cases left with
    | true =>
     repeat' (first|refine fd rfl rfl (Int.sign_eq_zero_iff_zero.2 hq) ?_|refine ai rfl ?_|refine aa ?_|refine ah rfl ?_|refine ae ?_|refine cB rfl rfl ?_|refine aZ rfl rfl (by omega) (by omega) ?_|refine ay rfl ?_|refine aK ?_|refine aF ?_)
     exact ⟨⟨(x + 1, true), ⟨⟨by simp only; omega, hx⟩, hF4, hnx true (fun _ => rfl) (fun e => (nomatch e)), hEn⟩, by simp only; omega, rfl, rfl, trivial⟩, (by (repeat (first|exact aE _ _ _|refine aw rfl ?_|refine au rfl ?_|refine ak rfl ?_|refine ao rfl ?_)))⟩
    | false =>
     repeat' (first|refine fd rfl rfl (Int.sign_eq_zero_iff_zero.2 hq) ?_|refine aN (g := g8) rfl hb84 rfl ?_|refine ai rfl ?_|refine aa ?_|refine ah rfl ?_|refine ae ?_|refine bR rfl rfl ?_|refine ay rfl ?_|refine aF ?_)
     refine av (bP eu24.k) rfl ?_
     rintro v w5 ⟨rfl, hE5⟩
     refine ⟨fun _ _ => trivial, ?_⟩
     repeat' (first|refine kn rfl rfl ?_|refine ai rfl ?_|refine aa ?_|refine ah rfl ?_|refine ae ?_|refine bR rfl rfl ?_|refine aZ rfl rfl (by omega) (by omega) ?_|refine aK ?_)
     exact ⟨⟨(x + 1, decide ((D x t % D t t).sign ≠ 0)), ⟨⟨by simp only; omega, hx⟩, hF4.trans (Fe.ex hE5), hnx _ (fun e => (nomatch e)) (fun _ => by rw [decide_eq_true_iff, ne_eq, Int.sign_eq_zero_iff_zero]), hEn.ext hE5⟩, by simp only; omega, rfl, rfl, trivial⟩, (by (repeat (first|exact aE _ _ _|refine aw rfl ?_|refine au rfl ?_|refine ak rfl ?_|refine ao rfl ?_)))⟩
   ·repeat' (first|refine jA rfl rfl (fun e => hq (Int.sign_eq_zero_iff_zero.1 e)) ?_|refine aN (g := g7) rfl (hb7.ext hE4) rfl ?_|refine aa ?_|refine aj ?_|refine ah rfl ?_|refine ae ?_|refine aD rfl ?_)
    refine av (dy (eu1.ext hE4).k) rfl ?_
    rintro v w5 ⟨hI5, hE5⟩
    refine ⟨fun _ _ => trivial, ?_⟩
    obtain ⟨u5, rfl⟩ := hI5.ih
    refine ax (n := 2) (vs := u5.cells) rfl rfl rfl rfl (hb7.ext (hE4.trans hE5)) rfl (fun w6 hc6 hb6 => ⟨fun _ _ => trivial, ?_⟩)
    have hfac : Ent true K' w6 u5.val (-(D x t / D t t)) := (Ent.of hI5 eu1.lb.neg).gbN (hb7.ext (hE4.trans hE5)) (aI _ _ _ _) (bG hc6)
    have hF46 : Fr (fun b => b = g7) w4 w6 := Fr.trans (Ex.fr hE5) (Chg.fr (F := fun b => b = g7) hc6 rfl)
    have hb86 : Blk w6 g8 33 u2.cells := (hb84.ext hE5).chg hc6 (Ne.symm ne78)
    have eu26 : Ent true K' w6 u2.val (D x t % D t t) := (eu24.ext hE5).gbN (hb7.ext (hE4.trans hE5)) (aI _ _ _ _) (bG hc6)
    have hG26 : Ex w2 w6 := ((hE3.trans hE4).trans hE5).chg hc6 lo7
    have hE6 : EL K' (Ku + Y) w6 lab lo ge r c gd gu gv D2 := hE20.ext hG26
    have hF6 : Fe lo w w6 := hF20.trans (Fe.ex hG26)
    clear hE2 hF4 hF2
    obtain ⟨s8, cp8, hM20, hl8⟩ := hE20.d
    obtain ⟨s9, cp9, U9, hU20, hl9⟩ := hE20.u
    have hM8 := hM20.ext hG26
    have hU6 := hU20.ext hG26
    have lt8 : ∀ k, k < r → s8 k < w2.heap.size := fun k hk => (hM20.row k hk).lt
    have lt9 : ∀ k, k < r → s9 k < w2.heap.size := fun k hk => (hU20.row k hk).lt
    repeat' (first|refine aa ?_|refine aj ?_|refine ae ?_)
    refine bi (late := [7]) (plan := [(0, none), (1, none), (2, none), (3, none), (4, none), (5, none), (6, none), (7, some false)]) (fun w' => Ex w6 w') bB (by kernel_rfl) (Ex.refl w6).drew ?_
    have hEd := (Ex.refl w6).drew
    repeat' (first|refine aQ (g := ge) (cs := elL gd gu gv r c) rfl (fun _ h => hE6.blk.ext h) rfl ?_|refine aN (g := g7) rfl (fun _ h => hb6.ext h) rfl ?_|refine ai rfl ?_|refine aG rfl ?_)
    refine av (fA (K := K') (Kf := K') (K' := K') (hM8.ext hEd) (by omega) (by omega) hx htr (by omega) (hfac.ext hEd) (by omega) (Nat.le_refl _) (by omega) (fun k hk => by rw [e3 k, e4 k, Int.neg_mul, ← Int.sub_eq_add_neg]; exact hlb x k htx hx hk)) rfl ?_
    rintro v w7 ⟨hG7, hM7⟩
    refine ⟨fun h => (nomatch h), ?_⟩
    have hF67 : Fr (fun b => b = s8 x) w6 w7 := Fr.trans (Ex.fr hEd) (fO hG7 (fun k e => (Option.some.inj e).symm))
    have hN6 : NoF (fun b => b = s8 x) w6 := fun b e => hM8.noR b ⟨x, hx, e⟩
    have hL1 : ∀ b, (fun b => b = s8 x) b → lab b = 1 := (fun b e => by rw [e]; exact hl8 x hx)
    have hE7 := hE6.setD (K' := K') hN6 hF67 hL1 ⟨_, _, hM7, hl8⟩
    have hM9 := hU6.fr hN6 hF67 (fun hb => by have h1 := hL1 _ hb; have h2 := hE6.l2; omega) (fun i hi hb => by have h1 := hL1 _ hb; have h2 := hl9 i hi; omega)
    have hF7 : Fe lo w w7 := hF6.trans (Fe.fr hF67 (fun k e => by rw [e]; exact (hM8.row x hx).low))
    have hb67 : Blk w7 g7 33 u5.cells := hb6.fr hF67 (fun e => by have := lt8 x hx; omega)
    have hb87 : Blk w7 g8 33 u2.cells := hb86.fr hF67 (fun e => by have := lt8 x hx; omega)
    have hfac7 := hfac.fr hN6 hF67
    have eu27 := eu26.fr hN6 hF67
    clear hM7 hM8 hE6 hF6
    repeat' (first|refine aa ?_|refine ae ?_)
    refine bi (late := [7]) (plan := [(0, none), (1, none), (2, none), (3, none), (4, none), (5, none), (6, none), (7, some false)]) (fun w' => Ex w7 w') bB (by kernel_rfl) (Ex.refl w7).drew ?_
    have hEe := (Ex.refl w7).drew
    repeat' (first|refine aQ (g := ge) (cs := elL gd gu gv r c) rfl (fun _ h => hE7.blk.ext h) rfl ?_|refine aN (g := g7) rfl (fun _ h => hb67.ext h) rfl ?_|refine ai rfl ?_|refine aG rfl ?_)
    have lb9 : ∀ a b, a < r → b < r → Lb (Ku + Y) (U9 a b) := fun a b ha hb => by obtain ⟨_, _, _, h⟩ := hM9.get ha; exact (h b hb).lb
    have hlu : ∀ k, k < r → Lb (Ku + (x + 1) * (K' + 1)) (U9 x k + -(D x t / D t t) * U9 t k) := fun k hk => by
     rw [hY1]
     have h1 : Lb (Ku + Y + K') (U9 x k) := (lb9 x k hx hk).mono (by omega)
     have h2 : Lb (Ku + Y + K') (-(D x t / D t t) * U9 t k) := (eu1.lb.neg.mul (lb9 t k htr hk)).mono (by omega)
     exact (h1.add h2).mono (by omega)
    have hk1 : Ku + Y + K' < 17592186044416 := by omega
    have hk2 : Ku + Y ≤ Ku + (x + 1) * (K' + 1) := by rw [hY1]; omega
    have hk3 : Ku + (x + 1) * (K' + 1) < 17592186044415 := by rw [hY1]; omega
    refine av (fA (K := Ku + Y) (Kf := K') (K' := Ku + (x + 1) * (K' + 1)) (hM9.ext hEe) (by omega) (by omega) hx htr (by omega) (hfac7.ext hEe) hk1 hk2 hk3 hlu) rfl ?_
    rintro v w8 ⟨hG8, hM8⟩
    refine ⟨fun h => (nomatch h), ?_⟩
    have hF78 : Fr (fun b => b = s9 x) w7 w8 := Fr.trans (Ex.fr hEe) (fO hG8 (fun k e => (Option.some.inj e).symm))
    have hN7 : NoF (fun b => b = s9 x) w7 := fun b e => hM9.noR b ⟨x, hx, e⟩
    have hE8 := hE7.setU hN7 hF78 (fun b e => by rw [e]; exact hl9 x hx) (by omega) ⟨_, _, _, hM8, hl9⟩
    have hF8 : Fe lo w w8 := hF7.trans (Fe.fr hF78 (fun k e => by rw [e]; exact (hM9.row x hx).low))
    have hb88 : Blk w8 g8 33 u2.cells := hb87.fr hF78 (fun e => by have := lt9 x hx; omega)
    have eu28 := eu27.fr hN7 hF78
    have hEn : EL K' (Ku + (x + 1) * (K' + 1)) w8 lab lo ge r c gd gu gv (fun a b => if t < a ∧ a < (x + 1) then D a b - (D a t / D t t) * D t b else D a b) := hE8.congr (hnew _ (fun a b _ _ => by
     by_cases e : a = x
     ·rw [if_pos e, e, aJ]
      show D2 x b + -(D x t / D t t) * D2 t b = _
      rw [e4 b, Int.neg_mul, ← Int.sub_eq_add_neg]
     ·rw [if_neg e, aO _ _ e]))
    cases left with
    | true =>
     repeat' (first|refine ai rfl ?_|refine aa ?_|refine ah rfl ?_|refine ae ?_|refine cB rfl rfl ?_|refine aZ rfl rfl (by omega) (by omega) ?_|refine aK ?_)
     exact ⟨⟨(x + 1, true), ⟨⟨by simp only; omega, hx⟩, hF8, hnx true (fun _ => rfl) (fun e => (nomatch e)), hEn⟩, by simp only; omega, rfl, rfl, trivial⟩, (by (repeat (first|exact aE _ _ _|refine aw rfl ?_|refine au rfl ?_|refine ak rfl ?_|refine ao rfl ?_)))⟩
    | false =>
     repeat' (first|refine aN (g := g8) rfl hb88 rfl ?_|refine ai rfl ?_|refine aa ?_|refine ah rfl ?_|refine ae ?_|refine bR rfl rfl ?_)
     refine av (bP eu28.k) rfl ?_
     rintro v w9 ⟨rfl, hE9⟩
     refine ⟨fun _ _ => trivial, ?_⟩
     repeat' (first|refine kn rfl rfl ?_|refine ai rfl ?_|refine aa ?_|refine ah rfl ?_|refine ae ?_|refine bR rfl rfl ?_|refine aZ rfl rfl (by omega) (by omega) ?_|refine aK ?_)
     exact ⟨⟨(x + 1, decide ((D x t % D t t).sign ≠ 0)), ⟨⟨by simp only; omega, hx⟩, hF8.trans (Fe.ex hE9), hnx _ (fun e => (nomatch e)) (fun _ => by rw [decide_eq_true_iff, ne_eq, Int.sign_eq_zero_iff_zero]), hEn.ext hE9⟩, by simp only; omega, rfl, rfl, trivial⟩, (by (repeat (first|exact aE _ _ _|refine aw rfl ?_|refine au rfl ?_|refine ak rfl ?_|refine ao rfl ?_)))⟩
 ·have exn : x = r := by omega
  repeat' (first|refine aQ (g := ge) (cs := elL gd gu gv r c) rfl hE2.blk rfl ?_|refine bA rfl rfl (by omega) ?_|refine ai rfl ?_|refine aa ?_|refine aj ?_|refine ah rfl ?_|refine ae ?_|refine bh rfl ?_|refine aG rfl ?_|refine ay rfl ?_|refine aV ?_|refine aL ?_|refine aW ?_|refine aR ?_)
  rw [hD2] at hE2
  have hE9 : EL K' (Ku + r * (K' + 1)) w2 lab lo ge r c gd gu gv (rdiv D t) := (hE2.up (Nat.le_refl _) (by rw [exn]; exact Nat.le_refl _)).congr (fun a b ha hb => by
   unfold rdiv
   by_cases h : t < a
   ·rw [if_pos h, if_pos ⟨h, by omega⟩]
   ·rw [if_neg h, if_neg (fun e => h e.1)])
  exact bK rfl (rt rfl) ⟨left, rfl, by rw [← exn]; exact hl, hF2, hE9⟩
set_option maxHeartbeats 4000000 in
theorem iK {K Ku K' lo ge r c gd gu gv t : Nat} {w : World} {lab : Nat → Nat} {D : Mat} (hE : EL K Ku w lab lo ge r c gd gu gv D) (hr : r ≤ 1000) (hc : c ≤ 1000) (htr : t < r) (htc : t < c) (hP : D t t ≠ 0) (hKK : K ≤ K') (hK' : K' + K' < 17592186044415)
  (hKu : Ku + 1000 * (K' + 1) + K' + K' + 2 < 17592186044415) (hlb : ∀ a b, a < r → t < b → b < c → Lb K' (D a b - (D t b / D t t) * D a t)) :
  CallsR Tryz.prog 61 #[.pointer (some ⟨ge, 0, none⟩), .int .i64 (t : Int)] w fun v w' => ∃ left : Bool, v = .bool left ∧ (left = true ↔ ∃ x, t < x ∧ x < c ∧ D t x % D t t ≠ 0) ∧ Fe lo w w' ∧ EL K' (Ku + c * (K' + 1)) w' lab lo ge r c gd gu gv (cdiv D t) := by
 have hb := hE.blk
 refine aH (args := [_, _]) Tryz.func61 rfl rfl ?_
 repeat' (first|refine ai rfl ?_|refine aa ?_|refine aj ?_|refine ah rfl ?_|refine ae ?_|refine aZ rfl rfl (by omega) (by omega) ?_|refine aA ?_)
 refine aY (ι := Nat × Bool) [5, 6, 7, 8, 9, 12, 13, 14, 15, 16, 17, 18, 19, 20, 21, 22, 23, 24, 25, 26, 27, 28, 29, 30, 31, 32, 33, 34, 35, 36, 37, 38, 39, 40, 41, 42, 43, 44, 45, 46, 47, 48, 49, 50, 51, 52, 53, 54, 55, 56, 57, 58, 59, 60, 61, 62, 63, 64, 65, 66, 67, 68, 69, 70, 71, 72, 73, 74, 75] (fun y => [(6, .int .i64 (y.1 : Int)), (5, .bool y.2)])
  (fun y w' => (t < y.1 ∧ y.1 ≤ c) ∧ Fe lo w w' ∧ (y.2 = true ↔ ∃ x, t < x ∧ x < y.1 ∧ D t x % D t t ≠ 0) ∧ EL K' (Ku + y.1 * (K' + 1)) w' lab lo ge r c gd gu gv (fun a b => if t < b ∧ b < y.1 then D a b - (D t b / D t t) * D a t else D a b)) (fun y => c - y.1)
  (t + 1, false) ⟨rfl, rfl, trivial⟩ ⟨⟨by simp only; omega, by simp only; omega⟩, Fe.refl, ⟨fun e => (nomatch e), fun ⟨x, h1, h2, _⟩ => by simp only at h2; omega⟩, (hE.up hKK (by omega)).congr (fun a b _ _ => if_neg (by simp only; omega))⟩ ?_
 clear hE hb
 rintro ⟨x, left⟩ ξ w2 ⟨⟨htx, hxn⟩, hF2, hl, hE2⟩
 simp only at htx hxn hl hE2
 show CW _ _ _ _ (over [(6, .int .i64 (x : Int)), (5, .bool left)] _) w2
 obtain ⟨s, cp, hM, hlab⟩ := hE2.d
 obtain ⟨D2, hD2⟩ : ∃ D2 : Mat, D2 = (fun a b => if t < b ∧ b < x then D a b - (D t b / D t t) * D a t else D a b) := ⟨_, rfl⟩
 rw [← hD2] at hE2 hM
 rcases Nat.lt_or_ge x c with hx | hx
 ·have e1 : D2 t x = D t x := by rw [hD2]; exact if_neg (by omega)
  have e2 : D2 t t = D t t := by rw [hD2]; exact if_neg (by omega)
  obtain ⟨hh1, hb1, hc1, hEn1⟩ := hM.get (k := t) (by omega)
  obtain ⟨hh2, hb2, hc2, hEn2⟩ := hM.get htr
  have hB := hE2.blk
  have hx1 := hEn1 x (by omega)
  have hx2 := hEn2 t htc
  rw [e1] at hx1
  rw [e2] at hx2
  repeat' (first|refine aQ (g := ge) (cs := elL gd gu gv r c) rfl hE2.blk rfl ?_|refine aC (j := t) (a := some ⟨gd, 0, none⟩) rfl rfl ⟨_, _, rfl⟩ (by omega) ?_|refine aU (j := t) (a := some ⟨gd, 0, none⟩) (n := r) (s := fun k => ⟨some ⟨s k, 0, none⟩, c, cp k⟩) rfl hM.top.sl (by omega) rfl ?_|refine bC rfl rfl (by omega) ?_|refine ai rfl ?_|refine aa ?_|refine aj ?_|refine ah rfl ?_|refine ae ?_|refine bh rfl ?_|refine aG rfl ?_|refine aD rfl ?_|refine aF ?_)
  refine aA ?_
  repeat' (first|refine aj ?_)
  refine cD (ι := (Nat × Nat) × IH × IH) [7, 8, 9, 24, 25, 26, 27, 28, 29, 30, 31, 32, 33, 34, 35, 36, 37, 38, 39, 40, 41, 42, 43, 44, 45, 46, 47, 48] (fun y => [(7, .pointer (some ⟨y.1.1, 0, none⟩)), (8, .pointer (some ⟨y.1.2, 0, none⟩))])
   (fun y w' => Ex w2 w' ∧ w2.heap.size ≤ y.1.1 ∧ w2.heap.size ≤ y.1.2 ∧ y.1.1 ≠ y.1.2 ∧ Blk w' y.1.1 33 y.2.1.cells ∧ Blk w' y.1.2 33 y.2.2.cells ∧ Ent true K' w' y.2.1.val (D t x / D t t) ∧ Ent true K' w' y.2.2.val (D t x % D t t)) ?_ ?_
  ·have hEx : Ex w2 w2.drew := (Ex.refl _).drew
   refine dN (fun w' => Ex w2 w') bB hEx ?_
   refine bp (fuel := 10) (by kernel_rfl) (by kernel_rfl) [0, 1, 2, 3, 4, 5, 6, 7, 8, 9, 10, 11, 12, 13, 14, 15, 16, 17, 18, 19] _ _ (by kernel_rfl) ?_
   repeat' (first|refine aQ (g := ge) (cs := elL gd gu gv r c) rfl (fun _ h => hB.ext h) rfl ?_|refine aC (j := t) (a := some ⟨gd, 0, none⟩) rfl rfl ⟨_, _, rfl⟩ (by omega) ?_|refine aU (j := t) (a := some ⟨gd, 0, none⟩) (n := r) (s := fun k => ⟨some ⟨s k, 0, none⟩, c, cp k⟩) rfl (fun _ h => (hM.ext h).top.sl) (by omega) rfl ?_|refine aT (j := x) (a := some ⟨s t, 0, none⟩) rfl rfl ⟨_, _, rfl⟩ (by omega) ?_|refine bu (j := x) (n := cp t) (a := some ⟨s t, 0, none⟩) rfl (fun _ h => (hb1.ext h).sl) ⟨_, _, rfl⟩ (by omega) ?_|refine aT (j := t) (a := some ⟨s t, 0, none⟩) rfl rfl ⟨_, _, rfl⟩ (by omega) ?_|refine bu (j := t) (n := cp t) (a := some ⟨s t, 0, none⟩) rfl (fun _ h => (hb2.ext h).sl) ⟨_, _, rfl⟩ (by omega) ?_|refine ai rfl ?_|refine ae ?_|refine aG rfl ?_)
   refine az (fuel := 9) (rs := [20, 25, 26]) (by kernel_rfl) (by kernel_rfl) rfl ?_
   simp only [List.forall_mem_cons, List.not_mem_nil, false_implies, implies_true, and_true]
   refine ⟨?_, ?_, ?_⟩
   ·refine av (bn (hx1.ext hEx).k (hx2.ext hEx).k (by omega) (by omega)) rfl ?_
    rintro v w9 ⟨u1, u2, rfl, eu1, eu2, hE9⟩
    refine ⟨fun _ h => h.trans hE9, ?_⟩
    rw [if_neg hP] at eu2
    replace eu1 : Ent true K' _ _ _ := Ent.of eu1 (hx1.lb.div (D t t))
    replace eu2 : Ent true K' _ _ _ := Ent.of eu2 (hx2.lb.mod (D t x) hP)
    obtain ⟨u1, rfl⟩ := eu1.ih
    obtain ⟨u2, rfl⟩ := eu2.ih
    replace hEx := hEx.trans hE9
    refine ae ?_
    refine bp (fuel := 5) (by kernel_rfl) (by kernel_rfl) [21, 22, 23, 24] _ _ (by kernel_rfl) ?_
    repeat' (first|refine aS rfl rfl ?_|refine ai rfl ?_|refine ae ?_)
    refine az (fuel := 4) (rs := [25, 26]) (by kernel_rfl) (by kernel_rfl) rfl ?_
    simp only [List.forall_mem_cons, List.not_mem_nil, false_implies, implies_true, and_true]
    refine ⟨?_, ?_⟩
    ·refine aB (fun g11 w11 hn11 => ⟨fun _ h => h.trans hn11.ex, ?_⟩)
     have hb11 : Blk w11 g11 33 (intL false none 0 0) := hn11.blk
     have lo11 : w2.heap.size ≤ g11 := Nat.le_trans hEx.size hn11.lo
     replace hEx := hEx.trans hn11.ex
     replace eu1 := eu1.ext hn11.ex
     replace eu2 := eu2.ext hn11.ex
     refine ae ?_
     refine az (fuel := 3) (rs := [26]) (by kernel_rfl) (by kernel_rfl) rfl ?_
     rw [List.forall_mem_singleton]
     refine aB (fun g12 w12 hn12 => ⟨fun _ h => h.trans hn12.ex, ?_⟩)
     have hb12 : Blk w12 g12 33 (intL false none 0 0) := hn12.blk
     have lo12 : w2.heap.size ≤ g12 := Nat.le_trans hEx.size hn12.lo
     have ne12 : g11 ≠ g12 := (by have := hb11.lt; have := hn12.lo; omega)
     replace hEx := hEx.trans hn12.ex
     replace hb11 := hb11.ext hn12.ex
     replace eu1 := eu1.ext hn12.ex
     replace eu2 := eu2.ext hn12.ex
     refine ae ?_
     refine az (fuel := 2) (rs := [27]) (by kernel_rfl) (by kernel_rfl) rfl ?_
     rw [List.forall_mem_singleton]
     refine ax (n := 2) (vs := u1.cells) rfl rfl rfl rfl hb11 rfl (fun w16 hc16 hb16 => ⟨fun _ h => h.chg hc16 lo11, ?_⟩)
     replace hEx := hEx.chg hc16 lo11
     replace hb12 := hb12.chg hc16 (Ne.symm ne12)
     replace eu1 := eu1.gbN hb11 (aI _ _ _ _) (bG hc16)
     replace eu2 := eu2.gbN hb11 (aI _ _ _ _) (bG hc16)
     refine ae ?_
     refine az (fuel := 1) (rs := [28]) (by kernel_rfl) (by kernel_rfl) rfl ?_
     rw [List.forall_mem_singleton]
     refine ax (n := 2) (vs := u2.cells) rfl rfl rfl rfl hb12 rfl (fun w17 hc17 hb17 => ⟨fun _ h => h.chg hc17 lo12, ?_⟩)
     refine ae ?_
     refine bp (fuel := 0) (by kernel_rfl) (by kernel_rfl) [29] _ _ (by kernel_rfl) ?_
     repeat' (first|refine ai rfl ?_|refine ae ?_)
     refine bw (by kernel_rfl) ?_
     refine aa ?_
     exact ⟨⟨((_, _), u1, u2), ⟨hEx.chg hc17 lo12, lo11, lo12, ne12, hb16.chg hc17 ne12, hb17, eu1.gbN hb12 (aI _ _ _ _) (bG hc17), eu2.gbN hb12 (aI _ _ _ _) (bG hc17)⟩, rfl, rfl, trivial⟩, (by (repeat (first|exact aM _ _|refine aw rfl ?_|refine au rfl ?_|refine ak rfl ?_|refine ao rfl ?_)))⟩
    ·refine aB (fun g12 w12 hn12 => ⟨fun _ h => h.trans hn12.ex, ?_⟩)
     have hb12 : Blk w12 g12 33 (intL false none 0 0) := hn12.blk
     have lo12 : w2.heap.size ≤ g12 := Nat.le_trans hEx.size hn12.lo
     replace hEx := hEx.trans hn12.ex
     replace eu1 := eu1.ext hn12.ex
     replace eu2 := eu2.ext hn12.ex
     refine ae ?_
     refine az (fuel := 3) (rs := [25]) (by kernel_rfl) (by kernel_rfl) rfl ?_
     rw [List.forall_mem_singleton]
     refine aB (fun g11 w11 hn11 => ⟨fun _ h => h.trans hn11.ex, ?_⟩)
     have hb11 : Blk w11 g11 33 (intL false none 0 0) := hn11.blk
     have lo11 : w2.heap.size ≤ g11 := Nat.le_trans hEx.size hn11.lo
     have ne12 : g11 ≠ g12 := (by have := hb12.lt; have := hn11.lo; omega)
     replace hEx := hEx.trans hn11.ex
     replace hb12 := hb12.ext hn11.ex
     replace eu1 := eu1.ext hn11.ex
     replace eu2 := eu2.ext hn11.ex
     refine ae ?_
     refine az (fuel := 2) (rs := [27]) (by kernel_rfl) (by kernel_rfl) rfl ?_
     rw [List.forall_mem_singleton]
     refine ax (n := 2) (vs := u1.cells) rfl rfl rfl rfl hb11 rfl (fun w16 hc16 hb16 => ⟨fun _ h => h.chg hc16 lo11, ?_⟩)
     replace hEx := hEx.chg hc16 lo11
     replace hb12 := hb12.chg hc16 (Ne.symm ne12)
     replace eu1 := eu1.gbN hb11 (aI _ _ _ _) (bG hc16)
     replace eu2 := eu2.gbN hb11 (aI _ _ _ _) (bG hc16)
     refine ae ?_
     refine az (fuel := 1) (rs := [28]) (by kernel_rfl) (by kernel_rfl) rfl ?_
     rw [List.forall_mem_singleton]
     refine ax (n := 2) (vs := u2.cells) rfl rfl rfl rfl hb12 rfl (fun w17 hc17 hb17 => ⟨fun _ h => h.chg hc17 lo12, ?_⟩)
     refine ae ?_
     refine bp (fuel := 0) (by kernel_rfl) (by kernel_rfl) [29] _ _ (by kernel_rfl) ?_
     repeat' (first|refine ai rfl ?_|refine ae ?_)
     refine bw (by kernel_rfl) ?_
     refine aa ?_
     exact ⟨⟨((_, _), u1, u2), ⟨hEx.chg hc17 lo12, lo11, lo12, ne12, hb16.chg hc17 ne12, hb17, eu1.gbN hb12 (aI _ _ _ _) (bG hc17), eu2.gbN hb12 (aI _ _ _ _) (bG hc17)⟩, rfl, rfl, trivial⟩, (by (repeat (first|exact aM _ _|refine aw rfl ?_|refine au rfl ?_|refine ak rfl ?_|refine ao rfl ?_)))⟩
   ·refine aB (fun g11 w11 hn11 => ⟨fun _ h => h.trans hn11.ex, ?_⟩)
    have hb11 : Blk w11 g11 33 (intL false none 0 0) := hn11.blk
    have lo11 : w2.heap.size ≤ g11 := Nat.le_trans hEx.size hn11.lo
    replace hEx := hEx.trans hn11.ex
    refine ae ?_
    refine az (fuel := 8) (rs := [20, 26]) (by kernel_rfl) (by kernel_rfl) rfl ?_
    simp only [List.forall_mem_cons, List.not_mem_nil, false_implies, implies_true, and_true]
    refine ⟨?_, ?_⟩
    ·refine av (bn (hx1.ext hEx).k (hx2.ext hEx).k (by omega) (by omega)) rfl ?_
     rintro v w9 ⟨u1, u2, rfl, eu1, eu2, hE9⟩
     refine ⟨fun _ h => h.trans hE9, ?_⟩
     rw [if_neg hP] at eu2
     replace eu1 : Ent true K' _ _ _ := Ent.of eu1 (hx1.lb.div (D t t))
     replace eu2 : Ent true K' _ _ _ := Ent.of eu2 (hx2.lb.mod (D t x) hP)
     obtain ⟨u1, rfl⟩ := eu1.ih
     obtain ⟨u2, rfl⟩ := eu2.ih
     replace hEx := hEx.trans hE9
     replace hb11 := hb11.ext hE9
     refine ae ?_
     refine bp (fuel := 4) (by kernel_rfl) (by kernel_rfl) [21, 22, 23, 24] _ _ (by kernel_rfl) ?_
     repeat' (first|refine aS rfl rfl ?_|refine ai rfl ?_|refine ae ?_)
     refine az (fuel := 3) (rs := [26]) (by kernel_rfl) (by kernel_rfl) rfl ?_
     rw [List.forall_mem_singleton]
     refine aB (fun g12 w12 hn12 => ⟨fun _ h => h.trans hn12.ex, ?_⟩)
     have hb12 : Blk w12 g12 33 (intL false none 0 0) := hn12.blk
     have lo12 : w2.heap.size ≤ g12 := Nat.le_trans hEx.size hn12.lo
     have ne12 : g11 ≠ g12 := (by have := hb11.lt; have := hn12.lo; omega)
     replace hEx := hEx.trans hn12.ex
     replace hb11 := hb11.ext hn12.ex
     replace eu1 := eu1.ext hn12.ex
     replace eu2 := eu2.ext hn12.ex
     refine ae ?_
     refine az (fuel := 2) (rs := [27]) (by kernel_rfl) (by kernel_rfl) rfl ?_
     rw [List.forall_mem_singleton]
     refine ax (n := 2) (vs := u1.cells) rfl rfl rfl rfl hb11 rfl (fun w16 hc16 hb16 => ⟨fun _ h => h.chg hc16 lo11, ?_⟩)
     replace hEx := hEx.chg hc16 lo11
     replace hb12 := hb12.chg hc16 (Ne.symm ne12)
     replace eu1 := eu1.gbN hb11 (aI _ _ _ _) (bG hc16)
     replace eu2 := eu2.gbN hb11 (aI _ _ _ _) (bG hc16)
     refine ae ?_
     refine az (fuel := 1) (rs := [28]) (by kernel_rfl) (by kernel_rfl) rfl ?_
     rw [List.forall_mem_singleton]
     refine ax (n := 2) (vs := u2.cells) rfl rfl rfl rfl hb12 rfl (fun w17 hc17 hb17 => ⟨fun _ h => h.chg hc17 lo12, ?_⟩)
     refine ae ?_
     refine bp (fuel := 0) (by kernel_rfl) (by kernel_rfl) [29] _ _ (by kernel_rfl) ?_
     repeat' (first|refine ai rfl ?_|refine ae ?_)
     refine bw (by kernel_rfl) ?_
     refine aa ?_
     exact ⟨⟨((_, _), u1, u2), ⟨hEx.chg hc17 lo12, lo11, lo12, ne12, hb16.chg hc17 ne12, hb17, eu1.gbN hb12 (aI _ _ _ _) (bG hc17), eu2.gbN hb12 (aI _ _ _ _) (bG hc17)⟩, rfl, rfl, trivial⟩, (by (repeat (first|exact aM _ _|refine aw rfl ?_|refine au rfl ?_|refine ak rfl ?_|refine ao rfl ?_)))⟩
    ·refine aB (fun g12 w12 hn12 => ⟨fun _ h => h.trans hn12.ex, ?_⟩)
     have hb12 : Blk w12 g12 33 (intL false none 0 0) := hn12.blk
     have lo12 : w2.heap.size ≤ g12 := Nat.le_trans hEx.size hn12.lo
     have ne12 : g11 ≠ g12 := (by have := hb11.lt; have := hn12.lo; omega)
     replace hEx := hEx.trans hn12.ex
     replace hb11 := hb11.ext hn12.ex
     refine ae ?_
     refine az (fuel := 7) (rs := [20]) (by kernel_rfl) (by kernel_rfl) rfl ?_
     rw [List.forall_mem_singleton]
     refine av (bn (hx1.ext hEx).k (hx2.ext hEx).k (by omega) (by omega)) rfl ?_
     rintro v w9 ⟨u1, u2, rfl, eu1, eu2, hE9⟩
     refine ⟨fun _ h => h.trans hE9, ?_⟩
     rw [if_neg hP] at eu2
     replace eu1 : Ent true K' _ _ _ := Ent.of eu1 (hx1.lb.div (D t t))
     replace eu2 : Ent true K' _ _ _ := Ent.of eu2 (hx2.lb.mod (D t x) hP)
     obtain ⟨u1, rfl⟩ := eu1.ih
     obtain ⟨u2, rfl⟩ := eu2.ih
     replace hEx := hEx.trans hE9
     replace hb11 := hb11.ext hE9
     replace hb12 := hb12.ext hE9
     refine ae ?_
     refine bp (fuel := 3) (by kernel_rfl) (by kernel_rfl) [21, 22, 23, 24] _ _ (by kernel_rfl) ?_
     repeat' (first|refine aS rfl rfl ?_|refine ai rfl ?_|refine ae ?_)
     refine az (fuel := 2) (rs := [27]) (by kernel_rfl) (by kernel_rfl) rfl ?_
     rw [List.forall_mem_singleton]
     refine ax (n := 2) (vs := u1.cells) rfl rfl rfl rfl hb11 rfl (fun w16 hc16 hb16 => ⟨fun _ h => h.chg hc16 lo11, ?_⟩)
     replace hEx := hEx.chg hc16 lo11
     replace hb12 := hb12.chg hc16 (Ne.symm ne12)
     replace eu1 := eu1.gbN hb11 (aI _ _ _ _) (bG hc16)
     replace eu2 := eu2.gbN hb11 (aI _ _ _ _) (bG hc16)
     refine ae ?_
     refine az (fuel := 1) (rs := [28]) (by kernel_rfl) (by kernel_rfl) rfl ?_
     rw [List.forall_mem_singleton]
     refine ax (n := 2) (vs := u2.cells) rfl rfl rfl rfl hb12 rfl (fun w17 hc17 hb17 => ⟨fun _ h => h.chg hc17 lo12, ?_⟩)
     refine ae ?_
     refine bp (fuel := 0) (by kernel_rfl) (by kernel_rfl) [29] _ _ (by kernel_rfl) ?_
     repeat' (first|refine ai rfl ?_|refine ae ?_)
     refine bw (by kernel_rfl) ?_
     refine aa ?_
     exact ⟨⟨((_, _), u1, u2), ⟨hEx.chg hc17 lo12, lo11, lo12, ne12, hb16.chg hc17 ne12, hb17, eu1.gbN hb12 (aI _ _ _ _) (bG hc17), eu2.gbN hb12 (aI _ _ _ _) (bG hc17)⟩, rfl, rfl, trivial⟩, (by (repeat (first|exact aM _ _|refine aw rfl ?_|refine au rfl ?_|refine ak rfl ?_|refine ao rfl ?_)))⟩
   ·refine aB (fun g12 w12 hn12 => ⟨fun _ h => h.trans hn12.ex, ?_⟩)
    have hb12 : Blk w12 g12 33 (intL false none 0 0) := hn12.blk
    have lo12 : w2.heap.size ≤ g12 := Nat.le_trans hEx.size hn12.lo
    replace hEx := hEx.trans hn12.ex
    refine ae ?_
    refine az (fuel := 8) (rs := [20, 25]) (by kernel_rfl) (by kernel_rfl) rfl ?_
    simp only [List.forall_mem_cons, List.not_mem_nil, false_implies, implies_true, and_true]
    refine ⟨?_, ?_⟩
    ·refine av (bn (hx1.ext hEx).k (hx2.ext hEx).k (by omega) (by omega)) rfl ?_
     rintro v w9 ⟨u1, u2, rfl, eu1, eu2, hE9⟩
     refine ⟨fun _ h => h.trans hE9, ?_⟩
     rw [if_neg hP] at eu2
     replace eu1 : Ent true K' _ _ _ := Ent.of eu1 (hx1.lb.div (D t t))
     replace eu2 : Ent true K' _ _ _ := Ent.of eu2 (hx2.lb.mod (D t x) hP)
     obtain ⟨u1, rfl⟩ := eu1.ih
     obtain ⟨u2, rfl⟩ := eu2.ih
     replace hEx := hEx.trans hE9
     replace hb12 := hb12.ext hE9
     refine ae ?_
     refine bp (fuel := 4) (by kernel_rfl) (by kernel_rfl) [21, 22, 23, 24] _ _ (by kernel_rfl) ?_
     repeat' (first|refine aS rfl rfl ?_|refine ai rfl ?_|refine ae ?_)
     refine az (fuel := 3) (rs := [25]) (by kernel_rfl) (by kernel_rfl) rfl ?_
     rw [List.forall_mem_singleton]
     refine aB (fun g11 w11 hn11 => ⟨fun _ h => h.trans hn11.ex, ?_⟩)
     have hb11 : Blk w11 g11 33 (intL false none 0 0) := hn11.blk
     have lo11 : w2.heap.size ≤ g11 := Nat.le_trans hEx.size hn11.lo
     have ne12 : g11 ≠ g12 := (by have := hb12.lt; have := hn11.lo; omega)
     replace hEx := hEx.trans hn11.ex
     replace hb12 := hb12.ext hn11.ex
     replace eu1 := eu1.ext hn11.ex
     replace eu2 := eu2.ext hn11.ex
     refine ae ?_
     refine az (fuel := 2) (rs := [27]) (by kernel_rfl) (by kernel_rfl) rfl ?_
     rw [List.forall_mem_singleton]
     refine ax (n := 2) (vs := u1.cells) rfl rfl rfl rfl hb11 rfl (fun w16 hc16 hb16 => ⟨fun _ h => h.chg hc16 lo11, ?_⟩)
     replace hEx := hEx.chg hc16 lo11
     replace hb12 := hb12.chg hc16 (Ne.symm ne12)
     replace eu1 := eu1.gbN hb11 (aI _ _ _ _) (bG hc16)
     replace eu2 := eu2.gbN hb11 (aI _ _ _ _) (bG hc16)
     refine ae ?_
     refine az (fuel := 1) (rs := [28]) (by kernel_rfl) (by kernel_rfl) rfl ?_
     rw [List.forall_mem_singleton]
     refine ax (n := 2) (vs := u2.cells) rfl rfl rfl rfl hb12 rfl (fun w17 hc17 hb17 => ⟨fun _ h => h.chg hc17 lo12, ?_⟩)
     refine ae ?_
     refine bp (fuel := 0) (by kernel_rfl) (by kernel_rfl) [29] _ _ (by kernel_rfl) ?_
     repeat' (first|refine ai rfl ?_|refine ae ?_)
     refine bw (by kernel_rfl) ?_
     refine aa ?_
     exact ⟨⟨((_, _), u1, u2), ⟨hEx.chg hc17 lo12, lo11, lo12, ne12, hb16.chg hc17 ne12, hb17, eu1.gbN hb12 (aI _ _ _ _) (bG hc17), eu2.gbN hb12 (aI _ _ _ _) (bG hc17)⟩, rfl, rfl, trivial⟩, (by (repeat (first|exact aM _ _|refine aw rfl ?_|refine au rfl ?_|refine ak rfl ?_|refine ao rfl ?_)))⟩
    ·refine aB (fun g11 w11 hn11 => ⟨fun _ h => h.trans hn11.ex, ?_⟩)
     have hb11 : Blk w11 g11 33 (intL false none 0 0) := hn11.blk
     have lo11 : w2.heap.size ≤ g11 := Nat.le_trans hEx.size hn11.lo
     have ne12 : g11 ≠ g12 := (by have := hb12.lt; have := hn11.lo; omega)
     replace hEx := hEx.trans hn11.ex
     replace hb12 := hb12.ext hn11.ex
     refine ae ?_
     refine az (fuel := 7) (rs := [20]) (by kernel_rfl) (by kernel_rfl) rfl ?_
     rw [List.forall_mem_singleton]
     refine av (bn (hx1.ext hEx).k (hx2.ext hEx).k (by omega) (by omega)) rfl ?_
     rintro v w9 ⟨u1, u2, rfl, eu1, eu2, hE9⟩
     refine ⟨fun _ h => h.trans hE9, ?_⟩
     rw [if_neg hP] at eu2
     replace eu1 : Ent true K' _ _ _ := Ent.of eu1 (hx1.lb.div (D t t))
     replace eu2 : Ent true K' _ _ _ := Ent.of eu2 (hx2.lb.mod (D t x) hP)
     obtain ⟨u1, rfl⟩ := eu1.ih
     obtain ⟨u2, rfl⟩ := eu2.ih
     replace hEx := hEx.trans hE9
     replace hb11 := hb11.ext hE9
     replace hb12 := hb12.ext hE9
     refine ae ?_
     refine bp (fuel := 3) (by kernel_rfl) (by kernel_rfl) [21, 22, 23, 24] _ _ (by kernel_rfl) ?_
     repeat' (first|refine aS rfl rfl ?_|refine ai rfl ?_|refine ae ?_)
     refine az (fuel := 2) (rs := [27]) (by kernel_rfl) (by kernel_rfl) rfl ?_
     rw [List.forall_mem_singleton]
     refine ax (n := 2) (vs := u1.cells) rfl rfl rfl rfl hb11 rfl (fun w16 hc16 hb16 => ⟨fun _ h => h.chg hc16 lo11, ?_⟩)
     replace hEx := hEx.chg hc16 lo11
     replace hb12 := hb12.chg hc16 (Ne.symm ne12)
     replace eu1 := eu1.gbN hb11 (aI _ _ _ _) (bG hc16)
     replace eu2 := eu2.gbN hb11 (aI _ _ _ _) (bG hc16)
     refine ae ?_
     refine az (fuel := 1) (rs := [28]) (by kernel_rfl) (by kernel_rfl) rfl ?_
     rw [List.forall_mem_singleton]
     refine ax (n := 2) (vs := u2.cells) rfl rfl rfl rfl hb12 rfl (fun w17 hc17 hb17 => ⟨fun _ h => h.chg hc17 lo12, ?_⟩)
     refine ae ?_
     refine bp (fuel := 0) (by kernel_rfl) (by kernel_rfl) [29] _ _ (by kernel_rfl) ?_
     repeat' (first|refine ai rfl ?_|refine ae ?_)
     refine bw (by kernel_rfl) ?_
     refine aa ?_
     exact ⟨⟨((_, _), u1, u2), ⟨hEx.chg hc17 lo12, lo11, lo12, ne12, hb16.chg hc17 ne12, hb17, eu1.gbN hb12 (aI _ _ _ _) (bG hc17), eu2.gbN hb12 (aI _ _ _ _) (bG hc17)⟩, rfl, rfl, trivial⟩, (by (repeat (first|exact aM _ _|refine aw rfl ?_|refine au rfl ?_|refine ak rfl ?_|refine ao rfl ?_)))⟩
  ·clear hb1 hb2 hEn1 hEn2 hx1 hx2 hB hM hlab hc1 hc2
   rintro ⟨⟨g7, g8⟩, u1, u2⟩ ξ3 w3 ⟨hE3, lo7, lo8, ne78, hb7, hb8, eu1, eu2⟩
   simp only at lo7 lo8 ne78 hb7 hb8 eu1 eu2
   show CW _ _ _ _ (over [(7, .pointer (some ⟨g7, 0, none⟩)), (8, .pointer (some ⟨g8, 0, none⟩))] _) w3
   have hE20 := hE2
   have hF20 := hF2
   replace hE2 := hE2.ext hE3
   replace hF2 := hF2.trans (Fe.ex hE3)
   repeat' (first|refine aN (g := g7) rfl hb7 rfl ?_|refine aj ?_|refine ah rfl ?_)
   refine av (bP eu1.k) rfl ?_
   rintro v w4 ⟨rfl, hE4⟩
   refine ⟨fun _ _ => trivial, ?_⟩
   have hnx : ∀ lf : Bool, (left = true → lf = true) → (left = false → (lf = true ↔ D t x % D t t ≠ 0)) → (lf = true ↔ ∃ y, t < y ∧ y < x + 1 ∧ D t y % D t t ≠ 0) := by
    intro lf h1 h2
    cases left with
    | true =>
     refine ⟨fun _ => ?_, fun _ => h1 rfl⟩
     obtain ⟨y, y1, y2, y3⟩ := hl.1 rfl
     exact ⟨y, y1, by omega, y3⟩
    | false =>
     rw [h2 rfl]
     refine ⟨fun h => ⟨x, htx, by omega, h⟩, fun ⟨y, y1, y2, y3⟩ => ?_⟩
     by_cases e : y = x
     ·subst e; exact y3
     ·exact absurd (hl.2 ⟨y, y1, by omega, y3⟩) (by decide)
   obtain ⟨Y, hY⟩ : ∃ Y, Y = x * (K' + 1) := ⟨_, rfl⟩
   have hY1 : (x + 1) * (K' + 1) = Y + K' + 1 := by rw [Nat.succ_mul, hY]; rfl
   have hYb : Y ≤ 1000 * (K' + 1) := by rw [hY]; exact Nat.mul_le_mul_right _ (by omega)
   rw [← hY] at hE2 hE20
   have e3 : ∀ k, D2 k x = D k x := fun k => by rw [hD2]; exact if_neg (by omega)
   have e4 : ∀ k, D2 k t = D k t := fun k => by rw [hD2]; exact if_neg (by omega)
   have hnew : ∀ D3 : Mat, (∀ a b, a < r → b < c → D3 a b = if b = x then D2 a b - (D t x / D t t) * D a t else D2 a b) → ∀ a b, a < r → b < c → (fun a b => if t < b ∧ b < (x + 1) then D a b - (D t b / D t t) * D a t else D a b) a b = D3 a b := by
    intro D3 h3 a b ha hb
    rw [h3 a b ha hb]
    by_cases e : b = x
    ·rw [if_pos e]
     show (if t < b ∧ b < x + 1 then _ else _) = _
     rw [if_pos ⟨by omega, by omega⟩, hD2]
     show _ = (if t < b ∧ b < x then _ else _) - _
     rw [if_neg (by omega), e]
    ·rw [if_neg e]
     show (if t < b ∧ b < x + 1 then _ else _) = _
     rw [hD2]
     show _ = (if t < b ∧ b < x then _ else _)
     by_cases h : t < b ∧ b < x
     ·rw [if_pos h, if_pos ⟨h.1, by omega⟩]
     ·rw [if_neg h, if_neg (by omega)]
   have hF4 : Fe lo w w4 := hF2.trans (Fe.ex hE4)
   replace hE2 := hE2.ext hE4
   have hb84 := hb8.ext hE4
   have eu24 := eu2.ext hE4
   by_cases hq : D t x / D t t = 0
   ·have hEn : EL K' (Ku + (x + 1) * (K' + 1)) w4 lab lo ge r c gd gu gv (fun a b => if t < b ∧ b < (x + 1) then D a b - (D t b / D t t) * D a t else D a b) := (hE2.up (Nat.le_refl _) (by omega)).congr (hnew D2 (fun a b _ _ => by
     by_cases e : b = x
     ·rw [if_pos e, e, hq, Int.zero_mul, Int.sub_zero]
     ·rw [if_neg e]))
    cases left with
    | true =>
     repeat' (first|refine fd rfl rfl (Int.sign_eq_zero_iff_zero.2 hq) ?_|refine ai rfl ?_|refine aa ?_|refine ah rfl ?_|refine ae ?_|refine cB rfl rfl ?_|refine aZ rfl rfl (by omega) (by omega) ?_|refine ay rfl ?_|refine aK ?_|refine aF ?_)
     exact ⟨⟨(x + 1, true), ⟨⟨by simp only; omega, hx⟩, hF4, hnx true (fun _ => rfl) (fun e => (nomatch e)), hEn⟩, by simp only; omega, rfl, rfl, trivial⟩, (by (repeat (first|exact aE _ _ _|refine aw rfl ?_|refine au rfl ?_|refine ak rfl ?_|refine ao rfl ?_)))⟩
    | false =>
     repeat' (first|refine fd rfl rfl (Int.sign_eq_zero_iff_zero.2 hq) ?_|refine aN (g := g8) rfl hb84 rfl ?_|refine ai rfl ?_|refine aa ?_|refine ah rfl ?_|refine ae ?_|refine bR rfl rfl ?_|refine ay rfl ?_|refine aF ?_)
     refine av (bP eu24.k) rfl ?_
     rintro v w5 ⟨rfl, hE5⟩
     refine ⟨fun _ _ => trivial, ?_⟩
     repeat' (first|refine kn rfl rfl ?_|refine ai rfl ?_|refine aa ?_|refine ah rfl ?_|refine ae ?_|refine bR rfl rfl ?_|refine aZ rfl rfl (by omega) (by omega) ?_|refine aK ?_)
     exact ⟨⟨(x + 1, decide ((D t x % D t t).sign ≠ 0)), ⟨⟨by simp only; omega, hx⟩, hF4.trans (Fe.ex hE5), hnx _ (fun e => (nomatch e)) (fun _ => by rw [decide_eq_true_iff, ne_eq, Int.sign_eq_zero_iff_zero]), hEn.ext hE5⟩, by simp only; omega, rfl, rfl, trivial⟩, (by (repeat (first|exact aE _ _ _|refine aw rfl ?_|refine au rfl ?_|refine ak rfl ?_|refine ao rfl ?_)))⟩
   ·repeat' (first|refine jA rfl rfl (fun e => hq (Int.sign_eq_zero_iff_zero.1 e)) ?_|refine aN (g := g7) rfl (hb7.ext hE4) rfl ?_|refine aa ?_|refine aj ?_|refine ah rfl ?_|refine ae ?_|refine aD rfl ?_)
    refine av (dy (eu1.ext hE4).k) rfl ?_
    rintro v w5 ⟨hI5, hE5⟩
    refine ⟨fun _ _ => trivial, ?_⟩
    obtain ⟨u5, rfl⟩ := hI5.ih
    refine ax (n := 2) (vs := u5.cells) rfl rfl rfl rfl (hb7.ext (hE4.trans hE5)) rfl (fun w6 hc6 hb6 => ⟨fun _ _ => trivial, ?_⟩)
    have hfac : Ent true K' w6 u5.val (-(D t x / D t t)) := (Ent.of hI5 eu1.lb.neg).gbN (hb7.ext (hE4.trans hE5)) (aI _ _ _ _) (bG hc6)
    have hF46 : Fr (fun b => b = g7) w4 w6 := Fr.trans (Ex.fr hE5) (Chg.fr (F := fun b => b = g7) hc6 rfl)
    have hb86 : Blk w6 g8 33 u2.cells := (hb84.ext hE5).chg hc6 (Ne.symm ne78)
    have eu26 : Ent true K' w6 u2.val (D t x % D t t) := (eu24.ext hE5).gbN (hb7.ext (hE4.trans hE5)) (aI _ _ _ _) (bG hc6)
    have hG26 : Ex w2 w6 := ((hE3.trans hE4).trans hE5).chg hc6 lo7
    have hE6 : EL K' (Ku + Y) w6 lab lo ge r c gd gu gv D2 := hE20.ext hG26
    have hF6 : Fe lo w w6 := hF20.trans (Fe.ex hG26)
    clear hE2 hF4 hF2
    obtain ⟨s8, cp8, hM20, hl8⟩ := hE20.d
    obtain ⟨s9, cp9, U9, hU20, hl9⟩ := hE20.v
    have hM8 := hM20.ext hG26
    have hU6 := hU20.ext hG26
    have lt8 : ∀ k, k < r → s8 k < w2.heap.size := fun k hk => (hM20.row k hk).lt
    have lt9 : ∀ k, k < c → s9 k < w2.heap.size := fun k hk => (hU20.row k hk).lt
    repeat' (first|refine aa ?_|refine aj ?_|refine ae ?_)
    refine bi (late := [7]) (plan := [(0, none), (1, none), (2, none), (3, none), (4, none), (5, none), (6, none), (7, some false)]) (fun w' => Ex w6 w') bB (by kernel_rfl) (Ex.refl w6).drew ?_
    have hEd := (Ex.refl w6).drew
    repeat' (first|refine aQ (g := ge) (cs := elL gd gu gv r c) rfl (fun _ h => hE6.blk.ext h) rfl ?_|refine aN (g := g7) rfl (fun _ h => hb6.ext h) rfl ?_|refine ai rfl ?_|refine aG rfl ?_)
    refine av (gX (K := K') (Kf := K') (K' := K') (hM8.ext hEd) (by omega) (by omega) hx htc (hfac.ext hEd) (by omega) (Nat.le_refl _) (by omega) (fun k hk => by rw [e3 k, e4 k, Int.neg_mul, ← Int.sub_eq_add_neg]; exact hlb k x hk htx hx) (by omega)) rfl ?_
    rintro v w7 ⟨hG7, hM7⟩
    refine ⟨fun h => (nomatch h), ?_⟩
    have hF67 : Fr (rowsB r s8) w6 w7 := Fr.trans (Ex.fr hEd) hG7
    have hN6 : NoF (rowsB r s8) w6 := hM8.noR
    have hL1 : ∀ b, (rowsB r s8) b → lab b = 1 := (fun b ⟨k, hk, e⟩ => by rw [e]; exact hl8 k hk)
    have hE7 := hE6.setD (K' := K') hN6 hF67 hL1 ⟨_, _, hM7, hl8⟩
    have hM9 := hU6.fr hN6 hF67 (fun hb => by have h1 := hL1 _ hb; have h2 := hE6.l3; omega) (fun i hi hb => by have h1 := hL1 _ hb; have h2 := hl9 i hi; omega)
    have hF7 : Fe lo w w7 := hF6.trans (Fe.fr hF67 (fun k ⟨i, hi, e⟩ => by rw [e]; exact (hM8.row i hi).low))
    have hb67 : Blk w7 g7 33 u5.cells := hb6.fr hF67 (fun ⟨k, hk, e⟩ => by have := lt8 k hk; omega)
    have hb87 : Blk w7 g8 33 u2.cells := hb86.fr hF67 (fun ⟨k, hk, e⟩ => by have := lt8 k hk; omega)
    have hfac7 := hfac.fr hN6 hF67
    have eu27 := eu26.fr hN6 hF67
    clear hM7 hM8 hE6 hF6
    repeat' (first|refine aa ?_|refine ae ?_)
    refine bi (late := [7]) (plan := [(0, none), (1, none), (2, none), (3, none), (4, none), (5, none), (6, none), (7, some false)]) (fun w' => Ex w7 w') bB (by kernel_rfl) (Ex.refl w7).drew ?_
    have hEe := (Ex.refl w7).drew
    repeat' (first|refine aQ (g := ge) (cs := elL gd gu gv r c) rfl (fun _ h => hE7.blk.ext h) rfl ?_|refine aN (g := g7) rfl (fun _ h => hb67.ext h) rfl ?_|refine ai rfl ?_|refine aG rfl ?_)
    have lb9 : ∀ a b, a < c → b < c → Lb (Ku + Y) (U9 a b) := fun a b ha hb => by obtain ⟨_, _, _, h⟩ := hM9.get ha; exact (h b hb).lb
    have hlu : ∀ k, k < c → Lb (Ku + (x + 1) * (K' + 1)) (U9 k x + -(D t x / D t t) * U9 k t) := fun k hk => by
     rw [hY1]
     have h1 : Lb (Ku + Y + K') (U9 k x) := (lb9 k x hk hx).mono (by omega)
     have h2 : Lb (Ku + Y + K') (-(D t x / D t t) * U9 k t) := (eu1.lb.neg.mul (lb9 k t hk htc)).mono (by omega)
     exact (h1.add h2).mono (by omega)
    have hk1 : Ku + Y + K' < 17592186044416 := by omega
    have hk2 : Ku + Y ≤ Ku + (x + 1) * (K' + 1) := by rw [hY1]; omega
    have hk3 : Ku + (x + 1) * (K' + 1) < 17592186044415 := by rw [hY1]; omega
    refine av (gX (K := Ku + Y) (Kf := K') (K' := Ku + (x + 1) * (K' + 1)) (hM9.ext hEe) (by omega) (by omega) hx htc (hfac7.ext hEe) hk1 hk2 hk3 hlu (by omega)) rfl ?_
    rintro v w8 ⟨hG8, hM8⟩
    refine ⟨fun h => (nomatch h), ?_⟩
    have hF78 : Fr (rowsB c s9) w7 w8 := Fr.trans (Ex.fr hEe) hG8
    have hN7 : NoF (rowsB c s9) w7 := hM9.noR
    have hE8 := hE7.setV hN7 hF78 (fun b ⟨k, hk, e⟩ => by rw [e]; exact hl9 k hk) (by omega) ⟨_, _, _, hM8, hl9⟩
    have hF8 : Fe lo w w8 := hF7.trans (Fe.fr hF78 (fun k ⟨i, hi, e⟩ => by rw [e]; exact (hM9.row i hi).low))
    have hb88 : Blk w8 g8 33 u2.cells := hb87.fr hF78 (fun ⟨k, hk, e⟩ => by have := lt9 k hk; omega)
    have eu28 := eu27.fr hN7 hF78
    have hEn : EL K' (Ku + (x + 1) * (K' + 1)) w8 lab lo ge r c gd gu gv (fun a b => if t < b ∧ b < (x + 1) then D a b - (D t b / D t t) * D a t else D a b) := hE8.congr (hnew _ (fun a b _ _ => by
     show (if b = x then D2 a x + -(D t x / D t t) * D2 a t else D2 a b) = _
     by_cases e : b = x
     ·rw [if_pos e, if_pos e, e, e4 a, Int.neg_mul, ← Int.sub_eq_add_neg]
     ·rw [if_neg e, if_neg e]))
    cases left with
    | true =>
     repeat' (first|refine ai rfl ?_|refine aa ?_|refine ah rfl ?_|refine ae ?_|refine cB rfl rfl ?_|refine aZ rfl rfl (by omega) (by omega) ?_|refine aK ?_)
     exact ⟨⟨(x + 1, true), ⟨⟨by simp only; omega, hx⟩, hF8, hnx true (fun _ => rfl) (fun e => (nomatch e)), hEn⟩, by simp only; omega, rfl, rfl, trivial⟩, (by (repeat (first|exact aE _ _ _|refine aw rfl ?_|refine au rfl ?_|refine ak rfl ?_|refine ao rfl ?_)))⟩
    | false =>
     repeat' (first|refine aN (g := g8) rfl hb88 rfl ?_|refine ai rfl ?_|refine aa ?_|refine ah rfl ?_|refine ae ?_|refine bR rfl rfl ?_)
     refine av (bP eu28.k) rfl ?_
     rintro v w9 ⟨rfl, hE9⟩
     refine ⟨fun _ _ => trivial, ?_⟩
     repeat' (first|refine kn rfl rfl ?_|refine ai rfl ?_|refine aa ?_|refine ah rfl ?_|refine ae ?_|refine bR rfl rfl ?_|refine aZ rfl rfl (by omega) (by omega) ?_|refine aK ?_)
     exact ⟨⟨(x + 1, decide ((D t x % D t t).sign ≠ 0)), ⟨⟨by simp only; omega, hx⟩, hF8.trans (Fe.ex hE9), hnx _ (fun e => (nomatch e)) (fun _ => by rw [decide_eq_true_iff, ne_eq, Int.sign_eq_zero_iff_zero]), hEn.ext hE9⟩, by simp only; omega, rfl, rfl, trivial⟩, (by (repeat (first|exact aE _ _ _|refine aw rfl ?_|refine au rfl ?_|refine ak rfl ?_|refine ao rfl ?_)))⟩
 ·have exn : x = c := by omega
  repeat' (first|refine aQ (g := ge) (cs := elL gd gu gv r c) rfl hE2.blk rfl ?_|refine aC (j := t) (a := some ⟨gd, 0, none⟩) rfl rfl ⟨_, _, rfl⟩ (by omega) ?_|refine aU (j := t) (a := some ⟨gd, 0, none⟩) (n := r) (s := fun k => ⟨some ⟨s k, 0, none⟩, c, cp k⟩) rfl hM.top.sl (by omega) rfl ?_|refine bA rfl rfl (by omega) ?_|refine ai rfl ?_|refine aa ?_|refine aj ?_|refine ah rfl ?_|refine ae ?_|refine bh rfl ?_|refine aG rfl ?_|refine ay rfl ?_|refine aV ?_|refine aL ?_|refine aW ?_|refine aR ?_)
  rw [hD2] at hE2
  have hE9 : EL K' (Ku + c * (K' + 1)) w2 lab lo ge r c gd gu gv (cdiv D t) := (hE2.up (Nat.le_refl _) (by rw [exn]; exact Nat.le_refl _)).congr (fun a b ha hb => by
   unfold cdiv
   by_cases h : t < b
   ·rw [if_pos h, if_pos ⟨h, by omega⟩]
   ·rw [if_neg h, if_neg (fun e => h e.1)])
  exact bK rfl (rt rfl) ⟨left, rfl, by rw [← exn]; exact hl, hF2, hE9⟩
end Go.Proofs.YtppipmkpmmdcjaaGreat
namespace Go.Proofs.YtppipmkpmmdcjaaGreat
open Go.W Go.LM Go.LA
set_option maxHeartbeats 4000000 in
theorem jD {K Ku lo ge r c gd gu gv t : Nat} {w : World} {lab : Nat → Nat} {D : Mat} (hE : EL K Ku w lab lo ge r c gd gu gv D) (hr : r ≤ 1000) (hc : c ≤ 1000) (htr : t < r) (htc : t < c) (hK : K < 17592186044415) :
  CallsR Tryz.prog 62 #[.pointer (some ⟨ge, 0, none⟩), .int .i64 (t : Int)] w fun v w' => Ex w w' ∧ ((v = .tuple #[.int .i64 0, .bool false] ∧ ∀ a b, t < a → a < r → t < b → b < c → D a b % D t t = 0) ∨
   ∃ i : Nat, v = .tuple #[.int .i64 (i : Int), .bool true] ∧ t < i ∧ i < r ∧ ∃ b, t < b ∧ b < c ∧ D i b % D t t ≠ 0) := by
 obtain ⟨s, cp, hM, hlab⟩ := hE.d
 have hb := hE.blk
 refine aH (args := [_, _]) Tryz.func62 rfl rfl ?_
 repeat' (first|refine ai rfl ?_|refine aa ?_|refine aj ?_|refine ah rfl ?_|refine ae ?_|refine aZ rfl rfl (by omega) (by omega) ?_|refine aA ?_)
 refine aY (ι := Nat) [4, 5, 6, 7, 10, 11, 12, 13, 14, 15, 16, 17, 18, 19, 20, 21, 22, 23, 24, 25, 26, 27, 28, 29, 30, 31, 32, 33, 34, 35, 36, 37, 38, 39, 40, 41, 42, 43, 44, 45, 46, 47, 48, 49, 50, 51, 52, 53, 54, 55] (fun x => [(6, .int .i64 (x : Int))])
  (fun x w' => (t < x ∧ x ≤ r) ∧ Ex w w' ∧ ∀ a b, t < a → a < x → t < b → b < c → D a b % D t t = 0) (fun x => r - x)
  (t + 1) ⟨rfl, trivial⟩ ⟨⟨by omega, by omega⟩, Ex.refl _, fun a b h1 h2 => by omega⟩ ?_
 rintro i ξ w2 ⟨⟨hti, hir⟩, hE2, hJ⟩
 show CW _ _ _ _ (over [(6, .int .i64 (i : Int))] _) w2
 rcases Nat.lt_or_ge i r with hi | hi
 ·repeat' (first|refine aQ (g := ge) (cs := elL gd gu gv r c) rfl (hb.ext hE2) rfl ?_|refine bC rfl rfl (by omega) ?_|refine ai rfl ?_|refine aa ?_|refine aj ?_|refine ah rfl ?_|refine ae ?_|refine bh rfl ?_|refine aZ rfl rfl (by omega) (by omega) ?_|refine aG rfl ?_|refine aD rfl ?_|refine aA ?_|refine aF ?_)
  refine aY (ι := Nat) [4, 5, 7, 21, 22, 23, 24, 25, 26, 27, 28, 29, 30, 31, 32, 33, 34, 35, 36, 37, 38, 39, 40, 41, 42, 43, 44, 45, 46, 47, 48, 49, 50, 51, 52, 53, 54, 55] (fun x => [(7, .int .i64 (x : Int))])
   (fun x w' => (t < x ∧ x ≤ c) ∧ Ex w w' ∧ ∀ b, t < b → b < x → D i b % D t t = 0) (fun x => c - x)
   (t + 1) ⟨rfl, trivial⟩ ⟨⟨by omega, by omega⟩, hE2, fun b h1 h2 => by omega⟩ ?_
  clear hE2
  rintro j ξ2 w3 ⟨⟨htj, hjc⟩, hE3, hJ2⟩
  show CW _ _ _ _ (over [(7, .int .i64 (j : Int))] _) w3
  obtain ⟨hh, hbi, hci, hEi⟩ := (hM.ext hE3).get hi
  obtain ⟨hht, hbt, hct, hEt⟩ := (hM.ext hE3).get htr
  have hT3 := (hM.ext hE3).top
  rcases Nat.lt_or_ge j c with hj | hj
  ·repeat' (first|refine aQ (g := ge) (cs := elL gd gu gv r c) rfl (hb.ext hE3) rfl ?_|refine aC (j := i) (a := some ⟨gd, 0, none⟩) rfl rfl ⟨_, _, rfl⟩ (by omega) ?_|refine aU (j := i) (a := some ⟨gd, 0, none⟩) (n := r) (s := fun k => ⟨some ⟨s k, 0, none⟩, c, cp k⟩) rfl hT3.sl (by omega) rfl ?_|refine bC rfl rfl (by omega) ?_|refine ai rfl ?_|refine aa ?_|refine aj ?_|refine ah rfl ?_|refine ae ?_|refine bh rfl ?_|refine aG rfl ?_|refine aD rfl ?_|refine aF ?_)
   refine aA ?_
   repeat' (first|refine aj ?_)
   refine bi (late := []) (plan := [(0, none), (1, none), (2, none), (3, none), (4, none), (5, none), (6, none), (7, none), (8, none), (9, none), (10, none), (11, none), (12, none), (13, none), (14, none), (15, none), (16, none), (17, none), (18, none), (19, none), (20, some true), (21, none)]) (fun w' => Ex w3 w') bB (by kernel_rfl) (Ex.refl w3).drew ?_
   have hEd := (Ex.refl w3).drew
   repeat' (first|refine aQ (g := ge) (cs := elL gd gu gv r c) rfl (fun _ h => hb.ext (hE3.trans h)) rfl ?_|refine aC (j := i) (a := some ⟨gd, 0, none⟩) rfl rfl ⟨_, _, rfl⟩ (by omega) ?_|refine aC (j := t) (a := some ⟨gd, 0, none⟩) rfl rfl ⟨_, _, rfl⟩ (by omega) ?_|refine aU (j := i) (a := some ⟨gd, 0, none⟩) (n := r) (s := fun k => ⟨some ⟨s k, 0, none⟩, c, cp k⟩) rfl (fun _ h => (hT3.ext h).sl) (by omega) rfl ?_|refine aU (j := t) (a := some ⟨gd, 0, none⟩) (n := r) (s := fun k => ⟨some ⟨s k, 0, none⟩, c, cp k⟩) rfl (fun _ h => (hT3.ext h).sl) (by omega) rfl ?_|refine aT (j := j) (a := some ⟨s i, 0, none⟩) rfl rfl ⟨_, _, rfl⟩ (by omega) ?_|refine bu (j := j) (n := cp i) (a := some ⟨s i, 0, none⟩) rfl (fun _ h => (hbi.ext h).sl) ⟨_, _, rfl⟩ (by omega) ?_|refine aT (j := t) (a := some ⟨s t, 0, none⟩) rfl rfl ⟨_, _, rfl⟩ (by omega) ?_|refine bu (j := t) (n := cp t) (a := some ⟨s t, 0, none⟩) rfl (fun _ h => (hbt.ext h).sl) ⟨_, _, rfl⟩ (by omega) ?_|refine ai rfl ?_|refine aG rfl ?_)
   refine av (ni ((hEt t htc).ext hEd) ((hEi j hj).ext hEd) hK hK) rfl ?_
   rintro v w4 ⟨rfl, hE4⟩
   refine ⟨fun _ h => h.trans hE4, ?_⟩
   have hE04 := (hE3.trans hEd).trans hE4
   by_cases h0 : D i j % D t t = 0
   ·rw [show decide (D i j % D t t = 0) = true from decide_eq_true h0]
    repeat' (first|refine ai rfl ?_|refine aa ?_|refine ah rfl ?_|refine ae ?_|refine aZ rfl rfl (by omega) (by omega) ?_|refine ay rfl ?_|refine aK ?_|refine aF ?_)
    refine ⟨⟨j + 1, ⟨⟨by omega, hj⟩, hE04, fun b h1 h2 => ?_⟩, by omega, rfl, trivial⟩, (by (repeat (first|exact aE _ _ _|refine aw rfl ?_|refine au rfl ?_|refine ak rfl ?_|refine ao rfl ?_)))⟩
    by_cases e : b = j
    ·rw [e]; exact h0
    ·exact hJ2 b h1 (by omega)
   ·rw [show decide (D i j % D t t = 0) = false from decide_eq_false h0]
    repeat' (first|refine ai rfl ?_|refine aa ?_|refine aj ?_|refine ah rfl ?_|refine ae ?_|refine aD rfl ?_|refine aR ?_|refine bv ?_|refine cN ?_)
    exact eN rfl (rt rfl) (rt rfl) ⟨hE04, .inr ⟨i, rfl, hti, hi, j, htj, hj, h0⟩⟩
  ·have exc : j = c := by omega
   repeat' (first|refine aQ (g := ge) (cs := elL gd gu gv r c) rfl (hb.ext hE3) rfl ?_|refine aC (j := i) (a := some ⟨gd, 0, none⟩) rfl rfl ⟨_, _, rfl⟩ (by omega) ?_|refine aU (j := i) (a := some ⟨gd, 0, none⟩) (n := r) (s := fun k => ⟨some ⟨s k, 0, none⟩, c, cp k⟩) rfl hT3.sl (by omega) rfl ?_|refine bA rfl rfl (by omega) ?_|refine ai rfl ?_|refine aa ?_|refine aj ?_|refine ah rfl ?_|refine ae ?_|refine bh rfl ?_|refine aZ rfl rfl (by omega) (by omega) ?_|refine aG rfl ?_|refine ay rfl ?_|refine aV ?_|refine aL ?_|refine aW ?_|refine aK ?_)
   refine ⟨⟨i + 1, ⟨⟨by omega, hi⟩, hE3, fun a b h1 h2 h3 h4 => ?_⟩, by omega, rfl, trivial⟩, (by (repeat (first|exact aE _ _ _|refine aw rfl ?_|refine au rfl ?_|refine ak rfl ?_|refine ao rfl ?_)))⟩
   by_cases e : a = i
   ·rw [e]; exact hJ2 b h3 (by omega)
   ·exact hJ a b h1 (by omega) h3 h4
 ·have exr : i = r := by omega
  repeat' (first|refine aQ (g := ge) (cs := elL gd gu gv r c) rfl (hb.ext hE2) rfl ?_|refine bA rfl rfl (by omega) ?_|refine ai rfl ?_|refine aa ?_|refine aj ?_|refine ah rfl ?_|refine ae ?_|refine bh rfl ?_|refine aG rfl ?_|refine ay rfl ?_|refine aV ?_|refine aL ?_|refine aW ?_|refine aR ?_)
  exact eN rfl (rt rfl) (rt rfl) ⟨hE2, .inl ⟨rfl, fun a b h1 h2 h3 h4 => hJ a b h1 (by omega) h3 h4⟩⟩
end Go.Proofs.YtppipmkpmmdcjaaGreat
