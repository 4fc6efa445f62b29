import Derived.Deep.SlicePairs
import Derived.SizedLaws
import Derived.Test.YtiejljicpinheaaGreatA01
import Derived.Test.YtiejljicpinheaaGreatA02
import Derived.Test.YtiejljicpinheaaGreatA03
import Derived.Test.YtiejljicpinheaaGreatA04
import Derived.Test.YtiejljicpinheaaGreatA05
import Derived.Test.YtiejljicpinheaaGreatA06
import Derived.Test.YtiejljicpinheaaGreatA12
import Derived.Test.YtiejljicpinheaaGreatA13
import Derived.Test.YtiejljicpinheaaGreatA14
import Derived.Test.YtiejljicpinheaaGreatA18
import Derived.Test.YtiejljicpinheaaGreatA20
import Derived.Test.YtiejljicpinheaaGreatA24
import Derived.Test.YtiejljicpinheaaGreatA25
import Derived.Test.YtiejljicpinheaaGreatA28
import Derived.Test.YtiejljicpinheaaGreatA29
import Derived.Test.YtiejljicpinheaaGreatD01
namespace Go.LA
theorem kV (Q s m n : Nat) : Zb Q (s + m) n = Zb Q s (n + m) := by unfold Zb; rw [show n + (s + m) = n + m + s by omega]
end Go.LA
namespace Go.Proofs.YtiejljicpinheaaGreat
open Go.W Go.LM Go.LA
theorem sN {n cap : Nat} {w : World} {a : Option Addr} {s : Nat → SD} (hS : Sl w a (topC n s)) (hno : ¬ okS n s) :
  CallsR Tryz.prog 28 #[.slice a n cap] w fun v w' => v = .tuple #[.slice none 0 0, .bool false] ∧ Ex w w' := by
 refine aF (args := [_]) Tryz.func28 rfl rfl ?_
 repeat' (first|refine ai rfl ?_|refine aa ?_|refine aj ?_|refine ah rfl ?_|refine ae ?_)
 refine aw (kU hS hno) rfl ?_
 rintro v w1 ⟨rfl, hE1⟩
 refine ⟨fun _ _ => trivial, ?_⟩
 repeat' (first|refine aK rfl rfl ?_|refine ai rfl ?_|refine aa ?_|refine aj ?_|refine ah rfl ?_|refine ae ?_|refine az rfl ?_|refine aI ?_|refine aU ?_)
 exact cA rfl (rt rfl) (rt rfl) ⟨rfl, hE1⟩
set_option maxHeartbeats 4000000 in
theorem rD {cn : Bool} {K KM r c cap s Q : Nat} {w : World} {a : Option Addr} {sh : Nat → SD} {A : Mat} (hM : MX cn K w a r c sh A) (hr : 1 ≤ r ∧ r ≤ 16) (hc : 1 ≤ c ∧ c ≤ 16) (hA : ∀ l, l < c → ∀ i, i < r → Lb (Zb Q s l) (A i l)) (hQ : 10 ≤ Q) (hKM : Zb Q s (2 * c + 1) ≤ KM) (hK : 2 * KM < 17592186044415) :
  CallsR Tryz.prog 28 #[.slice a r cap] w (RetKer KM r c A w) := by
 refine aF (args := [_]) Tryz.func28 rfl rfl ?_
 repeat' (first|refine ai rfl ?_|refine aa ?_|refine aj ?_|refine ah rfl ?_|refine ae ?_)
 refine aw (gi hM hr hc hA hQ hKM hK) rfl ?_
 rintro v w1 ⟨g, g', gs, cp, gs', cp', H, U, k, p, rfl, hF, _, hsz, _, hE1⟩
 refine ⟨fun _ _ => trivial, ?_⟩
 have hHF := hF.hf
 have hkc := hHF.kc
 repeat' (first|refine aK rfl rfl ?_|refine aD (j := 0) (a := some ⟨g, 0, none⟩) rfl rfl ⟨_, _, rfl⟩ (by omega) ?_|refine aV (j := 0) (a := some ⟨g, 0, none⟩) (n := r) (s := fun k => ⟨some ⟨gs k, 0, none⟩, c, cp k⟩) rfl hF.h.top.sl (by omega) rfl ?_|refine ai rfl ?_|refine aa ?_|refine aj ?_|refine ah rfl ?_|refine ae ?_|refine aZ rfl ?_|refine au rfl ?_|refine aA ?_|refine aE ?_)
 refine aY (ι := (Nat × SD) × (Nat → Nat)) [7, 8, 21, 22, 23, 24, 25, 26, 27, 28, 29, 30, 31, 32, 33, 34] (fun t => [(21, .int .i64 (t.1.1 : Int)), (7, .slice t.1.2.a t.1.2.len t.1.2.cap)])
  (fun t w' => t.1.1 ≤ c ∧ Ex w1 w' ∧ NatG w' w1.heap.size 3 (t.1.1 - k) t.1.2 t.2 ∧ ∀ i, i < t.1.1 - k → t.2 i = k + i) (fun t => c - t.1.1)
  ((0, sd0), fun _ => 0) ⟨rfl, rfl, trivial⟩ ⟨by simp only; omega, Ex.refl _, by simp only; rw [Nat.zero_sub]; exact NatG.nil _ _ _ _, fun i h => by simp only at h; omega⟩ ?_
 rintro ⟨⟨l, sd⟩, f⟩ ξ w2 ⟨hl, hE2, hN2, hf⟩
 simp only at hl hN2 hf
 show CW _ _ _ _ (over [(21, .int .i64 (l : Int)), (7, .slice sd.a sd.len sd.cap)] _) w2
 have hO2 := hF.h.ext hE2
 rcases Nat.lt_or_ge l c with hlc | hlc
 ·repeat' (first|refine bu rfl rfl (by omega) ?_|refine ai rfl ?_|refine aa ?_|refine aj ?_|refine ah rfl ?_|refine ae ?_|refine az rfl ?_|refine aA ?_|refine aE ?_)
  refine aw (fD hO2.mx ⟨hr.1, by omega⟩ hlc) rfl ?_
  rintro v w3 ⟨q, rfl, hq, hz, hn, hE3⟩
  refine ⟨fun _ _ => trivial, ?_⟩
  obtain ⟨t1, _⟩ := mF hHF hlc hq hz hn
  have hE23 := hE2.trans hE3
  rcases Nat.lt_or_ge l k with hlk | hlk
  ·have hqr := t1.2 hlk
   repeat' (first|refine dU rfl rfl (by omega) ?_|refine ai rfl ?_|refine aa ?_|refine ah rfl ?_|refine ae ?_|refine aZ rfl ?_|refine bc rfl rfl (by omega) (by omega) ?_|refine au rfl ?_|refine aL ?_|refine aE ?_)
   refine ⟨⟨((l + 1, sd), f), ⟨hlc, hE23, ?_, fun i hi => ?_⟩, by simp only; omega, rfl, rfl, trivial⟩, (by (repeat (first|exact aH _ _ _|refine ay rfl ?_|refine av rfl ?_|refine ak rfl ?_|refine ao rfl ?_)))⟩
   ·simp only
    rw [show l + 1 - k = l - k by omega]; exact NatG.ext hN2 hE3
   ·simp only at hi; omega
  ·have hqr : q = r := by
    rcases Nat.lt_or_ge q r with h | h
    ·have := t1.1 h; omega
    ·omega
   have hN3 := NatG.ext hN2 hE3
   repeat' (first|refine eF rfl rfl (by omega) ?_|refine ai rfl ?_|refine aa ?_|refine ah rfl ?_|refine ae ?_|refine aZ rfl ?_|refine az rfl ?_)
   refine jq (E := 3) (lo := w1.heap.size) (u := l) rfl rfl rfl hN3 (by omega) (by omega) hE23.size ?_
   intro gt sd' f' w4 hN4 hf1 hf2 hG4 hA4
   repeat' (first|refine ai rfl ?_|refine aa ?_|refine ah rfl ?_|refine ae ?_|refine bc rfl rfl (by omega) (by omega) ?_|refine aL ?_)
   refine ⟨⟨((l + 1, sd'), f'), ⟨hlc, hE23.gb hG4 (fun g e => (NatG.blk hN3 g e).1), ?_, fun i hi => ?_⟩, by simp only; omega, rfl, rfl, trivial⟩, (by (repeat (first|exact aH _ _ _|refine ay rfl ?_|refine av rfl ?_|refine ak rfl ?_|refine ao rfl ?_)))⟩
   ·simp only
    rw [show l + 1 - k = l - k + 1 by omega]; exact hN4
   ·simp only at hi ⊢
    by_cases e : i = l - k
    ·subst e; rw [hf2]; omega
    ·rw [hf1 i (by omega)]; exact hf i (by omega)
 ·have elc : c = l := by omega
  subst elc
  have hlen := hN2.1
  have hE02 := hE1.trans hE2
  by_cases hk : k = c
  ·subst hk
   repeat' (first|refine bj rfl rfl (by omega) ?_|refine eF rfl rfl (by omega) ?_|refine ai rfl ?_|refine aa ?_|refine aj ?_|refine ah rfl ?_|refine ae ?_|refine aZ rfl ?_|refine az rfl ?_|refine au rfl ?_|refine aP ?_|refine aJ ?_|refine aQ ?_|refine aI ?_|refine aU ?_)
   exact cA rfl (rt rfl) (rt rfl) ⟨H, U, k, p, H, U, 0, p, sd0, rfl, hF.ceq, hHF, fun _ => rfl, fun h => by omega, hE02⟩
  ·repeat' (first|refine bj rfl rfl (by omega) ?_|refine dU rfl rfl (by omega) ?_|refine ai rfl ?_|refine aa ?_|refine aj ?_|refine ah rfl ?_|refine ae ?_|refine aZ rfl ?_|refine au rfl ?_|refine aP ?_|refine aJ ?_|refine aQ ?_|refine aE ?_)
   refine aw (jN (n := c) (x := -1) (by omega) (by omega) (by omega)) rfl ?_
   rintro v w3 ⟨sx, x, rfl, hNx, hx, hE3⟩
   refine ⟨fun _ _ => trivial, ?_⟩
   have hlx := hNx.1
   have hE23 := hE2.trans hE3
   rw [hlx, hlen]
   repeat' (first|refine ai rfl ?_)
   refine aw (kQ (n := c) (m := c - k) (x := x) (y := f) (hF.u.ext hE23).mx (NatG.sl hNx) (NatG.sl (NatG.ext hN2 hE3)) (fun i hi => by rw [hx i hi]; exact hi) (fun j hj => by rw [hf j hj]; omega) (by omega) ⟨by omega, by omega⟩) rfl ?_
   rintro v w4 ⟨st, S, rfl, hst, hS4, hE4⟩
   refine ⟨fun _ _ => trivial, ?_⟩
   rw [hst]
   have hE04 := (hE1.trans hE23).trans hE4
   have hS4' := hS4.congr (F' := fun i j => U i (k + j)) (fun i j hi hj => by rw [hx i hi, hf j hj])
   skip
   refine aw (cV (s := s + 2 * k) (Q := Q) (KM := KM) hS4' hc ⟨by omega, by omega⟩ (fun l hl i hi => by rw [kV]; have := hsz (k + l) (by omega) (by omega) i hi; rwa [show k + l + k = l + 2 * k by omega] at this) hQ (by rw [kV]; exact Nat.le_trans (eh hQ (by omega)) hKM) hK) rfl ?_
   intro v w5 hv
   have hv' := hv.basis hQ (by rw [kV]; exact Nat.le_trans (eh hQ (by omega)) hKM)
   obtain ⟨H', U', k', p', u, rfl, hC', hF', h0, hO, hE5⟩ := hv'
   refine ⟨fun _ _ => trivial, ?_⟩
   repeat' (first|refine aK rfl rfl ?_|refine ai rfl ?_|refine aa ?_|refine ae ?_|refine aI ?_)
   refine cA rfl (rt rfl) (rt rfl) ⟨H, U, k, p, H', U', k', p', u, rfl, hF.ceq, hHF, fun h => absurd h hk, fun _ => ⟨hC', hF', h0, fun h => ?_⟩, hE04.trans hE5⟩
   obtain ⟨g5, gs5, cp5, e, hM5⟩ := hO h
   exact ⟨g5, gs5, cp5, e, hM5.mono hE04.size⟩
end Go.Proofs.YtiejljicpinheaaGreat
namespace Go.Proofs.YtiejljicpinheaaGreat
open Go.W Go.LM Go.LA Go.PM
theorem tV {rows cols : Int} {L : List Int} {la : Option Addr} {most : Nat} {w : World} (hL : Sl w la (int8L L)) (hI : I8 L) (h1 : 0 ≤ rows ∧ rows ≤ 255) (h2 : 0 ≤ cols ∧ cols ≤ 255) (hm : 1 ≤ most ∧ most ≤ 16) (lc : Nat) :
  ∃ (r c : Nat) (A : Mat), (1 ≤ r ∧ r ≤ most) ∧ (1 ≤ c ∧ c ≤ most) ∧ ∀ w', Ex w w' → CallsR Tryz.prog 13 #[.agg (gridL rows cols la L.length lc).toArray, .int .i64 (most : Int)] w' (RetMO 2 w' r c A) :=
 ⟨gd rows most, gd cols most, gridF L _, iA hm.1, iA hm.1, fun _w' e => gT (hL.ext e) hI h1 h2 hm⟩
end Go.Proofs.YtiejljicpinheaaGreat
namespace Go.Proofs.YtiejljicpinheaaGreat
open Go.W Go.ChangeShapes Go.WideShapes Go.ChangeAt Go.RowKit Go.LM
instance inhSD : Inhabited SD := ⟨sd0⟩
instance inhIH : Inhabited IH := ⟨ih0⟩
structure RawI (W : World) (x : IH) (L : List Nat) : Prop where
 len : x.sd.len = L.length
 cap : L.length ≤ x.sd.cap
 max : x.sd.len ≤ 140737488355328
 sl : Sl W x.sd.a (limbsL L)
 lim : Lim L
structure RawR (W : World) (s : SD) (h : Nat → IH) (L : Nat → List Nat) : Prop where
 cap : s.len ≤ s.cap
 max : s.len ≤ 140737488355328
 sl : Sl W s.a (rowC s.len h)
 ent : ∀ j, j < s.len → RawI W (h j) (L j)
structure RawM (W : World) (a : Option Addr) (n : Nat) (s : Nat → SD) (h : Nat → Nat → IH) (L : Nat → Nat → List Nat) : Prop where
 max : n ≤ 140737488355328
 top : Sl W a (topC n s)
 row : ∀ i, i < n → RawR W (s i) (h i) (L i)
theorem RawI.ext {W W' : World} {x : IH} {L : List Nat} (h : RawI W x L) (e : Ex W W') : RawI W' x L := ⟨h.len, h.cap, h.max, h.sl.ext e, h.lim⟩
theorem RawR.ext {W W' : World} {s : SD} {h : Nat → IH} {L : Nat → List Nat} (H : RawR W s h L) (e : Ex W W') : RawR W' s h L := ⟨H.cap, H.max, H.sl.ext e, fun j hj => (H.ent j hj).ext e⟩
theorem RawM.ext {W W' : World} {a : Option Addr} {n : Nat} {s : Nat → SD} {h : Nat → Nat → IH} {L : Nat → Nat → List Nat} (H : RawM W a n s h L) (e : Ex W W') : RawM W' a n s h L := ⟨H.max, H.top.ext e, fun i hi => (H.row i hi).ext e⟩
theorem gU {H : Type} {P : Program} {e : TypeId} : ∀ {l : List (DataW H)} {d : DataW H}, d ∈ l → ∀ n ∈ d.weights P e, n ∈ DataW.weightsAll P e l
 | [], _, h => by simp at h
 | x :: l, d, h => fun n hn => by
  simp only [DataW.weightsAll, List.mem_append]
  rcases List.mem_cons.1 h with rfl | h
  ·exact .inl hn
  ·exact .inr (gU h n hn)
theorem fJ {H : Type} {P : Program} {t e : TypeId} {elems spare : List (DataW H)} (ht : P.underlying t = some (.slice e)) (hb : 1 ≤ P.bytesOf e) (h : ∀ n ∈ (DataW.slice elems spare).weights P t, n ≤ reachBytes) :
  elems.length ≤ 140737488355328 ∧ ∀ d ∈ elems, ∀ n ∈ d.weights P e, n ≤ reachBytes := by
 have hw : (DataW.slice elems spare).weights P t = (elems.length + spare.length) * P.bytesOf e :: (DataW.weightsAll P e elems ++ DataW.weightsAll P e spare) := by simp [DataW.weights, ht]
 rw [hw] at h
 constructor
 ·have h1 := h _ List.mem_cons_self
  have h2 : elems.length ≤ (elems.length + spare.length) * P.bytesOf e := Nat.le_trans (Nat.le_add_right _ _) (Nat.le_mul_of_pos_right _ hb)
  have h3 : reachBytes = 140737488351232 := by decide
  omega
 ·intro d hd n hn
  exact h n (List.mem_cons_of_mem _ (List.mem_append_left _ (gU hd n hn)))
theorem mH {H : Type} {P : Program} {t : TypeId} {f0 f1 : Field} {d0 d1 : DataW H} (ht : P.underlying t = some (.struct #[f0, f1])) (h : ∀ n ∈ (DataW.agg [d0, d1]).weights P t, n ≤ reachBytes) : ∀ n ∈ d1.weights P f1.type, n ≤ reachBytes := by
 have hw : (DataW.agg [d0, d1]).weights P t = DataW.weightsEach P [f0.type, f1.type] [d0, d1] := by simp [DataW.weights, ht]
 rw [hw] at h
 intro n hn
 refine h n ?_
 simp only [DataW.weightsEach, List.mem_append]
 exact .inr (.inl hn)
section
variable {H : Type} {enc : TypeId × Value → H} {P : Program} {W W' : World}
theorem sQ (n : Nat) (h : Nat → IH) : rowC n h = (List.range (n * 2)).map fun c => if c % 2 = 0 then .bool (h (c / 2)).neg else .slice (h (c / 2)).sd.a (h (c / 2)).sd.len (h (c / 2)).sd.cap := by
 induction n with
 | zero => rfl
 | succ n ih =>
  rw [cY, ih, show (n + 1) * 2 = n * 2 + 1 + 1 by omega, List.range_succ, List.range_succ]
  simp [IH.cells, show n * 2 / 2 = n by omega, show (n * 2 + 1) / 2 = n by omega, show (n * 2 + 1) % 2 = 1 by omega]
theorem sR {a : Option Addr} {n : Nat} {h : Nat → IH} (hn : a = none → n = 0) (hc : ∀ a', a = some a' → ∀ i, i < n → W.cell? (a'.add (i * 2)) = some (.bool (h i).neg) ∧ W.cell? (a'.add (i * 2 + 1)) = some (.slice (h i).sd.a (h i).sd.len (h i).sd.cap)) :
  Sl W a (rowC n h) := by
 rw [sQ]
 refine mI (fun e => by rw [hn e]) fun a' e c hc' => ?_
 have := hc a' e (c / 2) (by omega)
 by_cases h2 : c % 2 = 0
 ·rw [if_pos h2]; rw [show c / 2 * 2 = c by omega] at this; exact this.1
 ·rw [if_neg h2]; rw [show c / 2 * 2 + 1 = c by omega] at this; exact this.2
theorem oE {t e : TypeId} {fuel : Nat} {v : Value} {x : DataW H × List MemPlace} (ht : P.underlying t = some (.slice e)) (he : P.underlying e = some (.int .u32)) (hc : P.cellsOf e = 1) (hb : 1 ≤ P.bytesOf e) (hw0 : ∀ n ∈ x.1.weights P t, n ≤ reachBytes)
  (hf : DataW.trod enc P W 0 (fun _ => true) true fuel t [v] = some x) : ∃ (s : SD) (L : List Nat), v = .slice s.a s.len s.cap ∧ ∀ neg, RawI W ⟨neg, s⟩ L := by
 rcases open_ints ht he hc hf with ⟨hcs, hx⟩ | ⟨a, len, cap, zs, hcs, _, hl, hm, hz, hx, hcell, hwz⟩
 ·simp only [List.cons.injEq, and_true] at hcs
  subst hcs
  exact ⟨sd0, [], rfl, fun neg => ⟨rfl, Nat.le_refl _, Nat.zero_le _, Sl.nil _ _, fun d hd => by simp at hd⟩⟩
 ·simp only [List.cons.injEq, and_true] at hcs
  subst hcs
  simp only [if_true] at hz
  unfold maxLen at hm
  subst hx
  have hwl := (fJ ht hb hw0).1
  have hwl2 : len ≤ 140737488355328 := by
   have : (lits .u32 (zs.take len) : List (DataW H)).length = len := by simp [lits]; omega
   omega
  have hw : ∀ c, c < cap → 0 ≤ zs.getD c 0 ∧ zs.getD c 0 < 4294967296 := fun c hc => by
   have h1 := hwz (zs.getD c 0) (by rw [List.getD_eq_getElem?_getD, List.getElem?_eq_getElem (show c < zs.length by omega)]; exact List.getElem_mem _)
   have h2 : 0 ≤ zs.getD c 0 ∧ zs.getD c 0 ≤ 4294967295 := by simpa [Lit.wf, IntKind.min, IntKind.max, IntKind.signed, IntKind.bits] using h1
   omega
  refine ⟨⟨some a, len, cap⟩, (List.range len).map fun c => (zs.getD c 0).toNat, rfl, fun neg => ⟨by simp, by simpa using hl, hwl2, ?_, fun d hd => ?_⟩⟩
  ·rw [limbsL, List.map_map]
   refine mI (fun e => nomatch e) fun a' e c hc' => ?_
   cases e
   have h1 := hw c (by omega)
   rw [hcell c (by omega)]
   show some (Value.int .u32 (zs.getD c 0)) = some (Value.int .u32 (((zs.getD c 0).toNat : Nat) : Int))
   rw [Int.toNat_of_nonneg h1.1]
  ·rw [List.mem_map] at hd
   obtain ⟨c, hc', rfl⟩ := hd
   have h1 := hw c (by have := List.mem_range.1 hc'; omega)
   omega
theorem jF {t e : TypeId} {f0 f1 : Field} {q : TypeId} {fuel : Nat} {v : Value} {x : DataW H × List MemPlace} (ht : P.underlying t = some (.slice e)) (he : P.underlying e = some (.struct #[f0, f1]))
  (ce : P.cellsOf e = 2) (o0 : f0.offset = 0) (o1 : f1.offset = 1) (c0 : P.cellsOf f0.type = 1) (c1 : P.cellsOf f1.type = 1) (t0 : P.underlying f0.type = some .bool) (t1 : P.underlying f1.type = some (.slice q)) (tq : P.underlying q = some (.int .u32)) (cq : P.cellsOf q = 1) (be : 1 ≤ P.bytesOf e) (bq : 1 ≤ P.bytesOf q) (hw0 : ∀ n ∈ x.1.weights P t, n ≤ reachBytes)
  (hf : DataW.trod enc P W 0 (fun _ => true) true fuel t [v] = some x) : ∃ (s : SD) (h : Nat → IH) (L : Nat → List Nat), v = .slice s.a s.len s.cap ∧ RawR W s h L := by
 rcases Go.Deep.open_slice_pairs ht he ce o0 o1 c0 c1 hf with ⟨hcs, hx⟩ | ⟨a, len, cap, m, n, V0, V1, D0, D1, P0, P1, hcs, _, hl, hm, hmm, hx, hcell⟩
 ·simp only [List.cons.injEq, and_true] at hcs
  subst hcs
  exact ⟨sd0, fun _ => ih0, fun _ => [], rfl, ⟨Nat.le_refl _, by decide, Sl.nil _ _, fun j hj => absurd hj (Nat.not_lt_zero _)⟩⟩
 ·simp only [List.cons.injEq, and_true] at hcs
  subst hcs
  simp only [if_true] at hmm
  unfold maxLen at hm
  subst hx
  obtain ⟨hwl, hwe⟩ := fJ ht be hw0
  simp only [List.length_map, List.length_range] at hwl
  have each : ∀ i, i < len → ∃ q : IH × List Nat, V0 i = .bool q.1.neg ∧ V1 i = .slice q.1.sd.a q.1.sd.len q.1.sd.cap ∧ RawI W q.1 q.2 := fun i hi => by
   obtain ⟨_, _, h0, h1⟩ := hcell i (by omega)
   obtain ⟨b, hb, _⟩ := DataW.trod_bool t0 h0
   obtain ⟨s, L, hs, hL⟩ := oE t1 tq cq bq (mH he (hwe _ (List.mem_map.2 ⟨i, List.mem_range.2 hi, rfl⟩))) h1
   simp only [List.cons.injEq, and_true] at hb
   exact ⟨(⟨b, s⟩, L), hb, hs, hL b⟩
  obtain ⟨q, hq⟩ := Go.Deep.choose_lt each
  refine ⟨⟨some a, len, cap⟩, fun i => (q i).1, fun i => (q i).2, rfl, ⟨hl, hwl, sR (fun e => nomatch e) fun a' e i hi => ?_, fun j hj => (hq j hj).2.2⟩⟩
  cases e
  obtain ⟨h0, h1, _⟩ := hcell i (by show i < m; have : i < len := hi; omega)
  obtain ⟨e0, e1, _⟩ := hq i hi
  rw [h0, h1, e0, e1]
  exact ⟨rfl, rfl⟩
theorem mJ {u t e : TypeId} {f0 f1 : Field} {q : TypeId} {fuel : Nat} {v : Value} {x : DataW H × List MemPlace} (hu : P.underlying u = some (.slice t)) (cu : P.cellsOf t = 1) (ht : P.underlying t = some (.slice e)) (he : P.underlying e = some (.struct #[f0, f1]))
  (ce : P.cellsOf e = 2) (o0 : f0.offset = 0) (o1 : f1.offset = 1) (c0 : P.cellsOf f0.type = 1) (c1 : P.cellsOf f1.type = 1) (t0 : P.underlying f0.type = some .bool) (t1 : P.underlying f1.type = some (.slice q)) (tq : P.underlying q = some (.int .u32)) (cq : P.cellsOf q = 1) (bt : 1 ≤ P.bytesOf t) (be : 1 ≤ P.bytesOf e) (bq : 1 ≤ P.bytesOf q) (hw0 : ∀ n ∈ x.1.weights P u, n ≤ reachBytes)
  (hf : DataW.trod enc P W 0 (fun _ => true) true fuel u [v] = some x) : ∃ (a : Option Addr) (n c : Nat) (s : Nat → SD) (h : Nat → Nat → IH) (L : Nat → Nat → List Nat), v = .slice a n c ∧ RawM W a n s h L := by
 rcases Go.Deep.open_slice1 hu cu hf with ⟨hcs, hx⟩ | ⟨a, len, cap, m, n, V, D, Pl, hcs, _, hl, hm, hmm, hx, hcell⟩
 ·simp only [List.cons.injEq, and_true] at hcs
  subst hcs
  exact ⟨none, 0, 0, fun _ => sd0, fun _ _ => ih0, fun _ _ => [], rfl, ⟨by decide, Sl.nil _ _, fun j hj => absurd hj (Nat.not_lt_zero _)⟩⟩
 ·simp only [List.cons.injEq, and_true] at hcs
  subst hcs
  simp only [if_true] at hmm
  unfold maxLen at hm
  subst hx
  obtain ⟨hwl, hwe⟩ := fJ hu bt hw0
  simp only [List.length_map, List.length_range] at hwl
  have each : ∀ i, i < len → ∃ q : SD × (Nat → IH) × (Nat → List Nat), V i = .slice q.1.a q.1.len q.1.cap ∧ RawR W q.1 q.2.1 q.2.2 := fun i hi => by
   obtain ⟨s, h, L, hv, hR⟩ := jF ht he ce o0 o1 c0 c1 t0 t1 tq cq be bq (hwe _ (List.mem_map.2 ⟨i, List.mem_range.2 hi, rfl⟩)) (hcell i (by omega)).2
   exact ⟨(s, h, L), hv, hR⟩
  obtain ⟨q, hq⟩ := Go.Deep.choose_lt each
  refine ⟨some a, len, cap, fun i => (q i).1, fun i => (q i).2.1, fun i => (q i).2.2, rfl, ⟨hwl, mI (fun e => nomatch e) fun a' e i hi => ?_, fun j hj => (hq j hj).2⟩⟩
  cases e
  rw [(hcell i (by omega)).1, (hq i hi).1]
  rfl
end
set_option maxRecDepth 100000
theorem gV : ∃ f0 f1, Tryz.prog.underlying 43 = some (.struct #[f0, f1]) ∧ f0.type = 4 ∧ f1.type = 41 ∧ f0.offset = 0 ∧ f1.offset = 1 :=
 ⟨(Tryz.prog.fieldsOf 43)[0]!, (Tryz.prog.fieldsOf 43)[1]!, by kernel_rfl, by kernel_rfl, by kernel_rfl, by kernel_rfl, by kernel_rfl⟩
theorem vt {H : Type} {enc : TypeId × Value → H} {W : World} {v : Value} {d : DataW H} {ps : List MemPlace} {r : Reach} {b0 : Nat} (hval : Value.okWide Tryz.prog W r b0 25 v) (h : DataW.Trod enc Tryz.prog W 0 (fun _ => true) true 25 v d ps) (hw0 : ∀ n ∈ d.weights Tryz.prog 25, n ≤ reachBytes) :
  ∃ (a : Option Addr) (n c : Nat) (s : Nat → SD) (h : Nat → Nat → IH) (L : Nat → Nat → List Nat), v = .slice a n c ∧ RawM W a n s h L := by
 obtain ⟨f0, f1, hs, h0, h1, o0, o1⟩ := gV
 obtain ⟨a0, len, cap, rfl⟩ := okWide_slice (e := 31) (by kernel_rfl) hval
 obtain ⟨fuel, hf⟩ := h
 exact mJ (t := 31) (e := 43) (q := 113) (by kernel_rfl) (by kernel_rfl) (by kernel_rfl) hs (by kernel_rfl) o0 o1 (by rw [h0]; kernel_rfl) (by rw [h1]; kernel_rfl) (by rw [h0]; kernel_rfl) (by rw [h1]; kernel_rfl) (by kernel_rfl) (by kernel_rfl) (Nat.le_of_ble_eq_true (by kernel_rfl)) (Nat.le_of_ble_eq_true (by kernel_rfl)) (Nat.le_of_ble_eq_true (by kernel_rfl)) hw0 hf
end Go.Proofs.YtiejljicpinheaaGreat
namespace Go.Proofs.YtiejljicpinheaaGreat
open Go.W Go.LM Go.LA
theorem wg {P : Program} {S : World → Prop} {ops : List Oper} {K : Env → World → Prop} {rest : List (Oper × Option Bool)} {ρ : Env} {w : World} {b : Option Bool} {d : Nat} {T : TypeId} {pos : String} {af : Array Edge} {x : Operand} {T1 : TypeId} {g o j n : Nat} {f : Nat → IH} [Scal P T1] (hx : ev ρ x = .pointer (some ⟨g, o + j * 2 + 1, none⟩)) (hs : Rd b S w fun w' => Sl w' (some ⟨g, o, none⟩) (rowC n f)) (hj : j < n)
  (h : RR P S ops K rest (upd ρ d (.slice (f j).sd.a (f j).sd.len (f j).sd.cap)) w) : RR P S ops K ((⟨some d, .load T1 x, T, pos, af, none⟩, b) :: rest) ρ w :=
 gD hx (hs.imp fun w' hs => by
  have := hs.get (j * 2 + 1) (by rw [bT]; omega)
  rw [List.getD_eq_getElem?_getD, (kE hj).2] at this
  exact this) h
def nsm : Nat → (Nat → Nat) → Nat
 | 0, _ => 0
 | n + 1, f => nsm n f + f n
theorem wk {n : Nat} {f : Nat → Nat} : ∀ {m : Nat}, m ≤ n → nsm m f ≤ nsm n f := by
 induction n with
 | zero => intro m h; obtain rfl : m = 0 := by omega
           exact Nat.le_refl _
 | succ n ih =>
  intro m h
  rcases Nat.lt_or_ge n m with h1 | h1
  ·obtain rfl : m = n + 1 := by omega
   exact Nat.le_refl _
  ·exact Nat.le_trans (ih h1) (Nat.le_add_right _ _)
theorem v9 {n i : Nat} {f : Nat → Nat} (h : i < n) : f i ≤ nsm n f := by
 have := wk (f := f) (show i + 1 ≤ n by omega)
 have e : nsm (i + 1) f = nsm i f + f i := rfl
 omega
theorem wh {n c : Nat} {f : Nat → Nat} (h : ∀ i, i < n → f i = c) : nsm n f = n * c := by
 induction n with
 | zero => simp [nsm]
 | succ n ih => rw [nsm, ih fun i hi => h i (by omega), h n (by omega), Nat.succ_mul]
theorem wj (n : Nat) (f g : Nat → Nat) : nsm n (fun i => f i + g i) = nsm n f + nsm n g := by
 induction n with
 | zero => rfl
 | succ n ih => simp only [nsm]; rw [ih]; omega
def lgN (s : Nat → SD) (L : Nat → Nat → List Nat) (n i : Nat) : Nat := n + nsm i fun k => (s k).len + nsm (s k).len fun j => (L k j).length
def valF (h : Nat → Nat → IH) (L : Nat → Nat → List Nat) : Mat := fun i j => sgn (h i j).neg (natOf (L i j))
set_option maxRecDepth 10000 in
set_option maxHeartbeats 4000000 in
theorem we {n cap : Nat} {w : World} {a : Option Addr} {s : Nat → SD} {h : Nat → Nat → IH} {L : Nat → Nat → List Nat} (hM : RawM w a n s h L) :
  CallsR Tryz.prog 20 #[.slice a n cap] w fun v w' => ∃ t : Bool, v = .bool t ∧ (t = false → lgN s L n n ≤ 60) ∧ Ex w w' := by
 refine aF (args := [_]) Tryz.func20 rfl rfl ?_
 repeat' (first|refine ai rfl ?_|refine aa ?_|refine aj ?_|refine ah rfl ?_|refine ae ?_|refine aZ rfl ?_|refine aA ?_)
 have hmx := hM.max
 refine aY (ι := Nat × Nat) [3, 4, 5, 8, 9, 10, 11, 12, 13, 14, 15, 16, 17, 18, 19, 20, 21, 22, 23, 24, 25, 26, 27, 28, 29, 30, 31, 32, 33, 34, 35, 36, 37, 38, 39, 40, 41, 42, 43, 44, 45, 46, 47, 48] (fun t => [(4, .int .i64 (t.1 : Int)), (3, .int .i64 (t.2 : Int))])
  (fun t w' => t.1 ≤ n ∧ Ex w w' ∧ t.2 ≤ 422212465065984 ∧ (t.2 < 1000 → t.2 = lgN s L n t.1)) (fun t => n - t.1)
  (0, n) ⟨rfl, rfl, trivial⟩ ⟨Nat.zero_le _, Ex.refl _, Nat.le_trans hmx (by omega), fun _ => (Nat.add_zero n).symm⟩ ?_
 rintro ⟨i, m⟩ ξ w1 ⟨hi, hE1, hm, hl⟩
 simp only at hi hm hl
 show CW _ _ _ _ (over [(4, .int .i64 (i : Int)), (3, .int .i64 (m : Int))] _) w1
 have hM1 := hM.ext hE1
 have hpt : 0 < n → W.plain a := fun h0 => hM.top.plain (by rw [bP]; exact h0)
 rcases Nat.lt_or_ge i n with hin | hin
 ·rcases Nat.lt_or_ge m 1000 with hm1 | hm1
  ·have hR := hM1.row i hin
   have hmR := hR.max
   have hlm := hl hm1
   repeat' (first|refine bu rfl rfl (show ((i : Nat) : Int) < ((n : Nat) : Int) by omega) ?_|refine bu rfl rfl (show ((m : Nat) : Int) < 1000 by omega) ?_|refine aD (j := i) rfl rfl (hpt (by omega)) (by omega) ?_|refine cG (j := i) rfl hM1.top (by omega) ?_|refine ai rfl ?_|refine aa ?_|refine aj ?_|refine ah rfl ?_|refine ae ?_|refine aZ rfl ?_|refine bz rfl rfl ?_|refine bc rfl rfl (by omega) (by omega) ?_|refine az rfl ?_|refine aA ?_|refine aE ?_)
   refine aY (ι := Nat × Nat) [3, 5, 25, 26, 27, 28, 29, 30, 31, 32, 33, 34, 35, 36, 37, 38, 39, 40, 41, 42, 43, 44, 45, 46, 47, 48] (fun t => [(5, .int .i64 (t.1 : Int)), (3, .int .i64 (t.2 : Int))])
    (fun t w' => t.1 ≤ (s i).len ∧ Ex w1 w' ∧ t.2 ≤ 140737488360000 ∧ (t.2 < 1000 → t.2 = lgN s L n i + (s i).len + nsm t.1 fun j => (L i j).length)) (fun t => (s i).len - t.1)
    (0, m + (s i).len) ⟨rfl, by show Value.int .i64 ((m : Int) + ((s i).len : Int)) = _; congr 1, trivial⟩ ⟨Nat.zero_le _, Ex.refl _, show m + (s i).len ≤ 140737488360000 by omega, fun _ => by rw [hlm]; rfl⟩ ?_
   rintro ⟨j, m2⟩ ξ2 w2 ⟨hj, hE2, hm2, hl2⟩
   simp only at hj hm2 hl2
   show CW _ _ _ _ (over [(5, .int .i64 (j : Int)), (3, .int .i64 (m2 : Int))] _) w2
   have hM2 := hM1.ext hE2
   have hR2 := hR.ext hE2
   rcases Nat.lt_or_ge j (s i).len with hjl | hjl
   ·have hI := hR2.ent j hjl
    have hmI := hI.max
    have hpr : W.plain (s i).a := hR2.sl.plain (by rw [bT]; omega)
    obtain ⟨pgzz, pozz, hpe⟩ := hpr
    have hsi : s i = ⟨some ⟨pgzz, pozz, none⟩, (s i).len, (s i).cap⟩ := by rw [← hpe]
    have hsl : Sl w2 (some ⟨pgzz, pozz, none⟩) (rowC (s i).len (h i)) := by rw [← hpe]; exact hR2.sl
    rcases Nat.lt_or_ge m2 1000 with hm21 | hm21
    ·repeat' (first|refine aD (j := i) rfl rfl (hpt (by omega)) (by omega) ?_|refine aV (j := i) rfl hM2.top (by omega) hsi ?_|(refine bu rfl rfl (show ((j : Nat) : Int) < (((s i).len : Nat) : Int) by omega) ?_)|refine bu rfl rfl (show ((m2 : Nat) : Int) < 1000 by omega) ?_|refine aT (j := j) (a := some ⟨pgzz, pozz, none⟩) rfl rfl ⟨_, _, rfl⟩ (by omega) ?_|refine wg (j := j) rfl hsl hjl ?_|refine ai rfl ?_|refine aa ?_|refine aj ?_|refine ah rfl ?_|refine ae ?_|refine aZ rfl ?_|refine bz rfl rfl ?_|refine bc rfl rfl (by omega) (by omega) ?_|refine aN rfl ?_|refine az rfl ?_|refine aA ?_|refine aL ?_|refine aE ?_)
     refine ⟨⟨(j + 1, m2 + (h i j).sd.len), ⟨hjl, hE2, show m2 + (h i j).sd.len ≤ 140737488360000 by omega, fun _ => ?_⟩, by simp only; omega, rfl, rfl, trivial⟩, (by (repeat (first|exact aH _ _ _|refine ay rfl ?_|refine av rfl ?_|refine ak rfl ?_|refine ao rfl ?_)))⟩
     show m2 + (h i j).sd.len = _ + (nsm j _ + (L i j).length)
     rw [hl2 hm21, hI.len]; omega
    ·repeat' (first|refine aD (j := i) rfl rfl (hpt (by omega)) (by omega) ?_|refine cG (j := i) rfl hM2.top (by omega) ?_|(refine bu rfl rfl (show ((j : Nat) : Int) < (((s i).len : Nat) : Int) by omega) ?_)|refine bj rfl rfl (show (1000 : Int) ≤ ((m2 : Nat) : Int) by omega) ?_|refine ai rfl ?_|refine aa ?_|refine aj ?_|refine ah rfl ?_|refine ae ?_|refine aZ rfl ?_|refine bz rfl rfl ?_|refine bc rfl rfl (by omega) (by omega) ?_|refine au rfl ?_|refine aP ?_|refine aJ ?_|refine aQ ?_|refine aL ?_)
     exact ⟨⟨(i + 1, m2), ⟨hin, hE1.trans hE2, show m2 ≤ 422212465065984 by omega, fun h => absurd h (show ¬ m2 < 1000 by omega)⟩, by simp only; omega, rfl, rfl, trivial⟩, (by (repeat (first|exact aH _ _ _|refine ay rfl ?_|refine av rfl ?_|refine ak rfl ?_|refine ao rfl ?_)))⟩
   ·repeat' (first|refine aD (j := i) rfl rfl (hpt (by omega)) (by omega) ?_|refine cG (j := i) rfl hM2.top (by omega) ?_|(refine bj rfl rfl (show (((s i).len : Nat) : Int) ≤ ((j : Nat) : Int) by omega) ?_)|refine ai rfl ?_|refine aa ?_|refine aj ?_|refine ah rfl ?_|refine ae ?_|refine aZ rfl ?_|refine bK rfl rfl ?_|refine bc rfl rfl (by omega) (by omega) ?_|refine au rfl ?_|refine aP ?_|refine aJ ?_|refine aQ ?_|refine aL ?_)
    refine ⟨⟨(i + 1, m2), ⟨hin, hE1.trans hE2, show m2 ≤ 422212465065984 by omega, fun h => ?_⟩, by simp only; omega, rfl, rfl, trivial⟩, (by (repeat (first|exact aH _ _ _|refine ay rfl ?_|refine av rfl ?_|refine ak rfl ?_|refine ao rfl ?_)))⟩
    show m2 = n + (nsm i _ + ((s i).len + nsm (s i).len fun j => (L i j).length))
    rw [hl2 h, show j = (s i).len by omega]
    unfold lgN
    omega
  ·repeat' (first|refine bu rfl rfl (show ((i : Nat) : Int) < ((n : Nat) : Int) by omega) ?_|refine bj rfl rfl (show (1000 : Int) ≤ ((m : Nat) : Int) by omega) ?_|refine kh rfl rfl (show (60 : Int) < ((m : Nat) : Int) by omega) ?_|refine ai rfl ?_|refine aa ?_|refine aj ?_|refine ah rfl ?_|refine ae ?_|refine aZ rfl ?_|refine bz rfl rfl ?_|refine au rfl ?_|refine aP ?_|refine aJ ?_|refine aQ ?_|refine aI ?_)
   exact bx rfl (rt rfl) ⟨true, rfl, fun e => (nomatch e), hE1⟩
 ·obtain rfl : i = n := by omega
  rcases Nat.lt_or_ge 60 m with h60 | h60
  ·repeat' (first|refine bj rfl rfl (show ((i : Nat) : Int) ≤ ((i : Nat) : Int) by omega) ?_|refine kh rfl rfl (show (60 : Int) < ((m : Nat) : Int) by omega) ?_|refine ai rfl ?_|refine aa ?_|refine aj ?_|refine ah rfl ?_|refine ae ?_|refine aZ rfl ?_|refine bK rfl rfl ?_|refine au rfl ?_|refine aP ?_|refine aJ ?_|refine aQ ?_|refine aI ?_)
   exact bx rfl (rt rfl) ⟨true, rfl, fun e => (nomatch e), hE1⟩
  ·repeat' (first|refine bj rfl rfl (show ((i : Nat) : Int) ≤ ((i : Nat) : Int) by omega) ?_|refine gI rfl rfl (show ((m : Nat) : Int) ≤ (60 : Int) by omega) ?_|refine ai rfl ?_|refine aa ?_|refine aj ?_|refine ah rfl ?_|refine ae ?_|refine aZ rfl ?_|refine bK rfl rfl ?_|refine au rfl ?_|refine aP ?_|refine aJ ?_|refine aQ ?_|refine aI ?_)
   exact bx rfl (rt rfl) ⟨false, rfl, fun _ => by rw [← hl (show m < 1000 by omega)]; exact h60, hE1⟩
theorem wl {n : Nat} {w : World} {a : Option Addr} {s : Nat → SD} {h : Nat → Nat → IH} {L : Nat → Nat → List Nat} (hM : RawM w a n s h L) (hl : lgN s L n n ≤ 60) :
  AM 60 w a n s (valF h L) ∧ n ≤ 60 ∧ (∀ i, i < n → (s i).len ≤ 60) ∧ (okS n s → n * (s 0).len + n ≤ 60) := by
 have hf : ∀ i, i < n → ((s i).len + nsm (s i).len fun j => (L i j).length) ≤ 60 - n ∧ n ≤ 60 := fun i hi => by
  have h1 := v9 (f := fun k => (s k).len + nsm (s k).len fun j => (L k j).length) hi
  unfold lgN at hl
  omega
 refine ⟨⟨hM.top, fun i hi => ?_⟩, by unfold lgN at hl; omega, fun i hi => by have := hf i hi; omega, fun ok => ?_⟩
 ·have hR := hM.row i hi
  refine ⟨rfl, hR.cap, h i, hR.sl, fun j hj => ⟨⟨(h i j).neg, (h i j).sd.a, (h i j).sd.cap, L i j, ?_, ⟨(hR.ent j hj).sl, (hR.ent j hj).cap, (hR.ent j hj).lim, ?_⟩, rfl, ?_⟩, fun e => nomatch e⟩⟩
  ·rw [← (hR.ent j hj).len]; rfl
  ·have h1 := v9 (f := fun j => (L i j).length) hj
   have h2 := hf i hi
   omega
  ·have h1 := v9 (f := fun j => (L i j).length) hj
   have h2 := hf i hi
   omega
 ·have h1 : nsm n (fun k => (s k).len) ≤ nsm n fun k => (s k).len + nsm (s k).len fun j => (L k j).length := by
   rw [wj n (fun k => (s k).len)]; omega
  rw [wh (f := fun k => (s k).len) (c := (s 0).len) (fun i hi => ok.2.2.2.2 i hi)] at h1
  unfold lgN at hl
  omega
end Go.Proofs.YtiejljicpinheaaGreat
namespace Go.LA
end Go.LA
namespace Go.Proofs.YtiejljicpinheaaGreat
open Go.W Go.LM Go.LA Go.PM
theorem wK {K r c lo g : Nat} {w : World} {gs cp : Nat → Nat} {F : Mat} (h : MO true K w lo g r c gs cp F) : AM K w (some ⟨g, 0, none⟩) r (fun i => ⟨some ⟨gs i, 0, none⟩, c, cp i⟩) F := h.mx.am
theorem wL {r c : Nat} {gs cp : Nat → Nat} (hr : 1 ≤ r ∧ r ≤ 16) (hc : 1 ≤ c ∧ c ≤ 16) : okS r (fun i => (⟨some ⟨gs i, 0, none⟩, c, cp i⟩ : SD)) := ⟨hr.1, hr.2, hc.1, hc.2, fun _ _ => rfl⟩
theorem AM.up60 {K n : Nat} {w : World} {a : Option Addr} {s : Nat → SD} {F : Mat} (h : AM K w a n s F) (hK : K ≤ 60) : AM 60 w a n s F := ⟨h.top, fun i hi => (h.row i hi).up hK⟩
theorem wq {n : Nat} {w : World} {a : Option Addr} {s : Nat → SD} {A : Mat} (h : AM 60 w a n s A) (ok : okS n s) : ∀ i j, i < n → j < (s 0).len → Lb 60 (A i j) := fun _ _ hi hj => (h.mx ok).lb hi hj
def KerF (n : Nat) (s : Nat → SD) (A : Mat) (u : SD) (sh : Nat → SD) (B : Mat) : Prop :=
 (¬ okS n s → u.len = 0) ∧ (okS n s → ∃ (kkzz : Nat) (q : Nat → Nat) (C : Nat), HF (s 0).len C B kkzz q ∧ (kkzz = 0 → u.len = 0) ∧ (0 < kkzz → u.len = (s 0).len ∧ ∀ i, i < (s 0).len → (sh i).len = kkzz) ∧ ∀ x, InL (s 0).len C B x ↔ ∀ i, i < n → mv (s 0).len A x i = 0)
theorem KerF.same {n : Nat} {s : Nat → SD} {A : Mat} {u u' : SD} {sh sh' : Nat → SD} {B B' : Mat} (h : KerF n s A u sh B) (h' : KerF n s A u' sh' B') :
  u.len = u'.len ∧ ∀ i, i < u.len → (sh i).len = (sh' i).len ∧ ∀ j, j < (sh i).len → B i j = B' i j := by
 by_cases ok : okS n s
 ·obtain ⟨kkzz, q, C, h1, h2, h3, h4⟩ := h.2 ok
  obtain ⟨kk', q', C', h1', h2', h3', h4'⟩ := h'.2 ok
  exact (pU h1 h1' (gQ ok).1 h2 h3 h2' h3').2 fun x => (h4 x).trans (h4' x).symm
 ·rw [h.1 ok, h'.1 ok]; exact ⟨rfl, fun i hi => absurd hi (Nat.not_lt_zero _)⟩
def KerOut (n : Nat) (s : Nat → SD) (A : Mat) (w : World) (v : Value) (w' : World) : Prop :=
 ∃ (K : Nat) (u : SD) (sh : Nat → SD) (B : Mat) (t : Bool), v = .tuple #[.slice u.a u.len u.cap, .bool t] ∧ AC K w' u.a u.len sh B ∧ u.len ≤ 16 ∧ (t = true ↔ okS n s) ∧ KerF n s A u sh B ∧ Ex w w'
theorem RetKer.kout {K n : Nat} {s : Nat → SD} {A : Mat} {w w' : World} {v : Value} (h : RetKer K n (s 0).len A w v w') (ok : okS n s) : KerOut n s A w v w' := by
 obtain ⟨H, U, k, p, H', U', k', p', u, rfl, hC, hF, h0, h1, hE⟩ := h
 have hc := gQ ok
 have hkc := hF.kc
 rcases Nat.lt_or_ge k (s 0).len with hk | hk
 ·obtain ⟨hC', hF', h0', hO'⟩ := h1 hk
  obtain ⟨sh, h2, h3, h4, h5⟩ := rB (K := K) (w := w') (r := (s 0).len) (c := (s 0).len - k) hc hF'.kc (by omega) h0' (fun h => by obtain ⟨g, gs, cp, e, hM⟩ := hO' h; exact ⟨g, gs, cp, e, hM.mono (Nat.zero_le _)⟩)
  exact ⟨K, u, sh, H', true, rfl, h2, h3, ⟨fun _ => ok, fun _ => rfl⟩, ⟨fun h => absurd ok h, fun _ => ⟨k', p', _, hF', h4, h5, fun x => (hC'.inL x).trans (HF.kernel hC hF x).symm⟩⟩, hE⟩
 ·have hke : k = (s 0).len := by omega
  have hu := h0 hke
  subst hu
  have hz : (s 0).len - k = 0 := by omega
  refine ⟨0, sd0, fun _ => sd0, fun r j => U r (k + j), true, rfl, AC.nil _ _ _ _ _, Nat.zero_le _, ⟨fun _ => ok, fun _ => rfl⟩, ⟨fun h => absurd ok h, fun _ => ⟨0, fun _ => 0, 0, ?_, fun _ => rfl, fun h => absurd h (Nat.lt_irrefl _), fun x => ?_⟩⟩, hE⟩
  ·exact ⟨Nat.zero_le _, fun c h => absurd h (Nat.not_lt_zero _), fun c c' _ h => absurd h (Nat.not_lt_zero _), fun c h => absurd h (Nat.not_lt_zero _), fun c h => absurd h (Nat.not_lt_zero _), fun c h => absurd h (Nat.not_lt_zero _), fun c _ h => absurd h (Nat.not_lt_zero _)⟩
  ·have := HF.kernel hC hF x
   rw [hz] at this
   exact this.symm
theorem wD {n cap : Nat} {w : World} {a : Option Addr} {s : Nat → SD} {A : Mat} (hA : AM 60 w a n s A) : CallsR Tryz.prog 27 #[.slice a n cap] w (KerOut n s A w) := by
 by_cases ok : okS n s
 ·exact (nD (hA.mx ok) (iy ok) (gQ ok) (by omega) (by omega)).mono fun v w' h => h.kout ok
 ·refine (uH hA.top ok).mono fun v w' h => ?_
  obtain ⟨rfl, hE⟩ := h
  exact ⟨0, sd0, fun _ => sd0, A, false, rfl, AC.nil _ _ _ _ _, Nat.zero_le _, ⟨fun e => (nomatch e), fun h => absurd h ok⟩, ⟨fun _ => rfl, fun h => absurd h ok⟩, hE⟩
theorem ww {n cap : Nat} {w : World} {a : Option Addr} {s : Nat → SD} {A : Mat} (hA : AM 60 w a n s A) : CallsR Tryz.prog 28 #[.slice a n cap] w (KerOut n s A w) := by
 by_cases ok : okS n s
 ·exact (rD (Q := 100) (s := 0) (KM := KMz) (hA.mx ok) (iy ok) (gQ ok) (v7 (wq hA ok) (by omega)) (by omega) (tX (gQ ok).2) (by decide)).mono fun v w' h => h.kout ok
 ·refine (sN hA.top ok).mono fun v w' h => ?_
  obtain ⟨rfl, hE⟩ := h
  exact ⟨0, sd0, fun _ => sd0, A, false, rfl, AC.nil _ _ _ _ _, Nat.zero_le _, ⟨fun e => (nomatch e), fun h => absurd h ok⟩, ⟨fun _ => rfl, fun h => absurd h ok⟩, hE⟩
theorem wH {t t' : Bool} {p : Prop} (h : t = true ↔ p) (h' : t' = true ↔ p) : t = t' := by
 cases t <;> cases t' <;> simp_all
end Go.Proofs.YtiejljicpinheaaGreat
namespace Go.Proofs.YtiejljicpinheaaGreat
open Go.W Go.LM Go.LA Go.PM
set_option maxHeartbeats 4000000 in
theorem wN {rows cols : Int} (h1 : 0 ≤ rows ∧ rows ≤ 255) (h2 : 0 ≤ cols ∧ cols ≤ 255) {L : List Int} {la : Option Addr} {w : World} (hL : Sl w la (int8L L)) (hI : I8 L) (lc : Nat) {n : Nat} {a : Option Addr} {s : Nat → SD} {h : Nat → Nat → IH} {La : Nat → Nat → List Nat} (hM : RawM w a n s h La) (cap : Nat) :
  CallsR Tryz.prog 6 #[.agg (gridL rows cols la L.length lc).toArray, .slice a n cap] w fun v w' => v = .bool true ∧ Ex w w' := by
 refine aF (args := [_, _]) Tryz.func6 rfl rfl ?_
 refine aj ?_
 refine ah rfl ?_
 refine bH (vs := gridL rows cols la L.length lc) rfl (fun g1 w1 hn1 => ⟨fun _ _ => trivial, ?_⟩)
 repeat' (first|refine ai rfl ?_|refine aa ?_|refine aj ?_|refine ah rfl ?_|refine ae ?_)
 refine aw (we (hM.ext hn1.ex)) rfl ?_
 rintro v w2 ⟨t1, rfl, hl, hE2⟩
 refine ⟨fun _ _ => trivial, ?_⟩
 have hE02 := hn1.ex.trans hE2
 rcases Bool.eq_false_or_eq_true t1 with rfl | rfl
 ·repeat' (first|refine aa ?_|refine aj ?_|refine ah rfl ?_|refine ae ?_|refine az rfl ?_)
  refine aw (nI _) rfl ?_
  rintro v wz ⟨rfl, hEz⟩
  refine ⟨fun _ _ => trivial, ?_⟩
  repeat' (first|refine ai rfl ?_|refine aa ?_|refine ae ?_|refine aI ?_|refine aU ?_)
  exact bx rfl (rt rfl) ⟨rfl, hE02.trans hEz⟩
 obtain ⟨hA, _, _, _⟩ := wl hM (hl rfl)
 generalize valF h La = A at *
 clear hM hl
 obtain ⟨r, c, B, hr, hc, hmat⟩ := tV (most := 5) hL hI h1 h2 (by omega) lc
 have hg1 := hn1.blk
 repeat' (first|refine aR (cs := gridL rows cols la L.length lc) (g := g1) rfl (hg1.ext hE2) rfl ?_|refine aa ?_|refine aj ?_|refine ah rfl ?_|refine ae ?_|refine au rfl ?_|refine aE ?_)
 refine aw (hmat _ hE02) rfl ?_
 rintro v w3 ⟨g3, gs3, cp3, rfl, hO3, hE3⟩
 refine ⟨fun _ _ => trivial, ?_⟩
 refine aw (wD (AM.up60 (wK hO3) (by omega))) rfl ?_
 rintro v w4 ⟨K4, u4zz, sh4, B4, t4, rfl, hC4, hu4, ht4, hF4, hE4⟩
 refine ⟨fun _ _ => trivial, ?_⟩
 have hE24 := hE3.trans hE4
 have hE04 := hE02.trans hE24
 repeat' (first|refine aK rfl rfl ?_|refine aR (cs := gridL rows cols la L.length lc) (g := g1) rfl (hg1.ext (hE2.trans hE24)) rfl ?_|refine ai rfl ?_|refine aa ?_|refine aj ?_|refine ah rfl ?_|refine ae ?_)
 refine aw (hmat _ hE04) rfl ?_
 rintro v w5 ⟨g5, gs5, cp5, rfl, hO5, hE5⟩
 refine ⟨fun _ _ => trivial, ?_⟩
 refine aw (ww (AM.up60 (wK hO5) (by omega))) rfl ?_
 rintro v w6 ⟨K6, u6zz, sh6, B6, t6, rfl, hC6, hu6, ht6, hF6, hE6⟩
 refine ⟨fun _ _ => trivial, ?_⟩
 have hE46 := hE5.trans hE6
 have hE06 := hE04.trans hE46
 obtain rfl : t4 = true := ht4.2 (wL (by omega) (by omega))
 obtain rfl : t6 = true := ht6.2 (wL (by omega) (by omega))
 have hF6' : KerF r (fun i => ⟨some ⟨gs3 i, 0, none⟩, c, cp3 i⟩) B u6zz sh6 B6 := ⟨fun h => absurd (wL (by omega) (by omega)) h, fun _ => hF6.2 (wL (by omega) (by omega))⟩
 repeat' (first|refine aK rfl rfl ?_|refine ai rfl ?_|refine aa ?_|refine aj ?_|refine ah rfl ?_|refine ae ?_)
 refine aw (wD (hA.ext hE06)) rfl ?_
 rintro v w7 ⟨K7, u7zz, sh7, B7, t7zz, rfl, hC7, hu7, ht7, hF7, hE7⟩
 refine ⟨fun _ _ => trivial, ?_⟩
 have hE07 := hE06.trans hE7
 repeat' (first|refine aK rfl rfl ?_|refine ai rfl ?_|refine aa ?_|refine aj ?_|refine ah rfl ?_|refine ae ?_)
 refine aw (ww (hA.ext hE07)) rfl ?_
 rintro v w8 ⟨K8, u8, sh8, B8, t8, rfl, hC8, hu8, ht8, hF8, hE8⟩
 refine ⟨fun _ _ => trivial, ?_⟩
 obtain rfl := wH ht7 ht8
 repeat' (first|refine aK rfl rfl ?_|refine vT rfl rfl ?_|refine ai rfl ?_|refine aa ?_|refine aj ?_|refine ah rfl ?_|refine ae ?_|refine bz rfl rfl ?_)
 refine aw (dK (hC4.ext ((hE46.trans hE7).trans hE8)) (hC6.ext (hE7.trans hE8)) (by omega)) rfl ?_
 rintro v w9 ⟨t9zz, rfl, ht9, hE9⟩
 refine ⟨fun _ _ => trivial, ?_⟩
 obtain rfl : t9zz = true := ht9.2 (hF4.same hF6')
 repeat' (first|refine vT rfl rfl ?_|refine ai rfl ?_|refine bz rfl rfl ?_)
 refine aw (dK (hC7.ext (hE8.trans hE9)) (hC8.ext hE9) (by omega)) rfl ?_
 rintro v w10 ⟨t10, rfl, ht10, hE10⟩
 refine ⟨fun _ _ => trivial, ?_⟩
 obtain rfl : t10 = true := ht10.2 (hF7.same hF8)
 repeat' (first|refine ai rfl ?_|refine bz rfl rfl ?_)
 refine aw (nI _) rfl ?_
 rintro v wz ⟨rfl, hEz⟩
 refine ⟨fun _ _ => trivial, ?_⟩
 repeat' (first|refine ai rfl ?_|refine aa ?_|refine ae ?_|refine aI ?_)
 exact bx rfl (rt rfl) ⟨rfl, (((hE07.trans hE8).trans hE9).trans hE10).trans hEz⟩
end Go.Proofs.YtiejljicpinheaaGreat
