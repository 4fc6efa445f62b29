import Derived.Deep.SlicePairs
import Derived.SizedLaws
import Derived.Test.YtiejljicpinheaaGreatA01
import Derived.Test.YtiejljicpinheaaGreatA02
import Derived.Test.YtiejljicpinheaaGreatA03
import Derived.Test.YtiejljicpinheaaGreatA04
import Derived.Test.YtiejljicpinheaaGreatA05
import Derived.Test.YtiejljicpinheaaGreatA06
import Derived.Test.YtiejljicpinheaaGreatA12
import Derived.Test.YtiejljicpinheaaGreatA13
import Derived.Test.YtiejljicpinheaaGreatA14
import Derived.Test.YtiejljicpinheaaGreatA17
import Derived.Test.YtiejljicpinheaaGreatA18
import Derived.Test.YtiejljicpinheaaGreatA24
import Derived.Test.YtiejljicpinheaaGreatA29
import Derived.Test.YtiejljicpinheaaGreatJ01
namespace Go.Proofs.YtiejljicpinheaaGreat
open Go.W Go.ChangeShapes Go.WideShapes Go.ChangeAt Go.RowKit Go.LM
instance inhSD : Inhabited SD := ⟨sd0⟩
instance inhIH : Inhabited IH := ⟨ih0⟩
structure RawI (W : World) (x : IH) (L : List Nat) : Prop where
 len : x.sd.len = L.length
 cap : L.length ≤ x.sd.cap
 max : x.sd.len ≤ 140737488355328
 sl : Sl W x.sd.a (limbsL L)
 lim : Lim L
structure RawR (W : World) (s : SD) (h : Nat → IH) (L : Nat → List Nat) : Prop where
 cap : s.len ≤ s.cap
 max : s.len ≤ 140737488355328
 sl : Sl W s.a (rowC s.len h)
 ent : ∀ j, j < s.len → RawI W (h j) (L j)
structure RawM (W : World) (a : Option Addr) (n : Nat) (s : Nat → SD) (h : Nat → Nat → IH) (L : Nat → Nat → List Nat) : Prop where
 max : n ≤ 140737488355328
 top : Sl W a (topC n s)
 row : ∀ i, i < n → RawR W (s i) (h i) (L i)
theorem RawI.ext {W W' : World} {x : IH} {L : List Nat} (h : RawI W x L) (e : Ex W W') : RawI W' x L := ⟨h.len, h.cap, h.max, h.sl.ext e, h.lim⟩
theorem RawR.ext {W W' : World} {s : SD} {h : Nat → IH} {L : Nat → List Nat} (H : RawR W s h L) (e : Ex W W') : RawR W' s h L := ⟨H.cap, H.max, H.sl.ext e, fun j hj => (H.ent j hj).ext e⟩
theorem RawM.ext {W W' : World} {a : Option Addr} {n : Nat} {s : Nat → SD} {h : Nat → Nat → IH} {L : Nat → Nat → List Nat} (H : RawM W a n s h L) (e : Ex W W') : RawM W' a n s h L := ⟨H.max, H.top.ext e, fun i hi => (H.row i hi).ext e⟩
theorem gU {H : Type} {P : Program} {e : TypeId} : ∀ {l : List (DataW H)} {d : DataW H}, d ∈ l → ∀ n ∈ d.weights P e, n ∈ DataW.weightsAll P e l
 | [], _, h => by simp at h
 | x :: l, d, h => fun n hn => by
  simp only [DataW.weightsAll, List.mem_append]
  rcases List.mem_cons.1 h with rfl | h
  ·exact .inl hn
  ·exact .inr (gU h n hn)
theorem fJ {H : Type} {P : Program} {t e : TypeId} {elems spare : List (DataW H)} (ht : P.underlying t = some (.slice e)) (hb : 1 ≤ P.bytesOf e) (h : ∀ n ∈ (DataW.slice elems spare).weights P t, n ≤ reachBytes) :
  elems.length ≤ 140737488355328 ∧ ∀ d ∈ elems, ∀ n ∈ d.weights P e, n ≤ reachBytes := by
 have hw : (DataW.slice elems spare).weights P t = (elems.length + spare.length) * P.bytesOf e :: (DataW.weightsAll P e elems ++ DataW.weightsAll P e spare) := by simp [DataW.weights, ht]
 rw [hw] at h
 constructor
 ·have h1 := h _ List.mem_cons_self
  have h2 : elems.length ≤ (elems.length + spare.length) * P.bytesOf e := Nat.le_trans (Nat.le_add_right _ _) (Nat.le_mul_of_pos_right _ hb)
  have h3 : reachBytes = 140737488351232 := by decide
  omega
 ·intro d hd n hn
  exact h n (List.mem_cons_of_mem _ (List.mem_append_left _ (gU hd n hn)))
theorem mH {H : Type} {P : Program} {t : TypeId} {f0 f1 : Field} {d0 d1 : DataW H} (ht : P.underlying t = some (.struct #[f0, f1])) (h : ∀ n ∈ (DataW.agg [d0, d1]).weights P t, n ≤ reachBytes) : ∀ n ∈ d1.weights P f1.type, n ≤ reachBytes := by
 have hw : (DataW.agg [d0, d1]).weights P t = DataW.weightsEach P [f0.type, f1.type] [d0, d1] := by simp [DataW.weights, ht]
 rw [hw] at h
 intro n hn
 refine h n ?_
 simp only [DataW.weightsEach, List.mem_append]
 exact .inr (.inl hn)
section
variable {H : Type} {enc : TypeId × Value → H} {P : Program} {W W' : World}
theorem sQ (n : Nat) (h : Nat → IH) : rowC n h = (List.range (n * 2)).map fun c => if c % 2 = 0 then .bool (h (c / 2)).neg else .slice (h (c / 2)).sd.a (h (c / 2)).sd.len (h (c / 2)).sd.cap := by
 induction n with
 | zero => rfl
 | succ n ih =>
  rw [cY, ih, show (n + 1) * 2 = n * 2 + 1 + 1 by omega, List.range_succ, List.range_succ]
  simp [IH.cells, show n * 2 / 2 = n by omega, show (n * 2 + 1) / 2 = n by omega, show (n * 2 + 1) % 2 = 1 by omega]
theorem sR {a : Option Addr} {n : Nat} {h : Nat → IH} (hn : a = none → n = 0) (hc : ∀ a', a = some a' → ∀ i, i < n → W.cell? (a'.add (i * 2)) = some (.bool (h i).neg) ∧ W.cell? (a'.add (i * 2 + 1)) = some (.slice (h i).sd.a (h i).sd.len (h i).sd.cap)) :
  Sl W a (rowC n h) := by
 rw [sQ]
 refine mI (fun e => by rw [hn e]) fun a' e c hc' => ?_
 have := hc a' e (c / 2) (by omega)
 by_cases h2 : c % 2 = 0
 ·rw [if_pos h2]; rw [show c / 2 * 2 = c by omega] at this; exact this.1
 ·rw [if_neg h2]; rw [show c / 2 * 2 + 1 = c by omega] at this; exact this.2
theorem oE {t e : TypeId} {fuel : Nat} {v : Value} {x : DataW H × List MemPlace} (ht : P.underlying t = some (.slice e)) (he : P.underlying e = some (.int .u32)) (hc : P.cellsOf e = 1) (hb : 1 ≤ P.bytesOf e) (hw0 : ∀ n ∈ x.1.weights P t, n ≤ reachBytes)
  (hf : DataW.trod enc P W 0 (fun _ => true) true fuel t [v] = some x) : ∃ (s : SD) (L : List Nat), v = .slice s.a s.len s.cap ∧ ∀ neg, RawI W ⟨neg, s⟩ L := by
 rcases open_ints ht he hc hf with ⟨hcs, hx⟩ | ⟨a, len, cap, zs, hcs, _, hl, hm, hz, hx, hcell, hwz⟩
 ·simp only [List.cons.injEq, and_true] at hcs
  subst hcs
  exact ⟨sd0, [], rfl, fun neg => ⟨rfl, Nat.le_refl _, Nat.zero_le _, Sl.nil _ _, fun d hd => by simp at hd⟩⟩
 ·simp only [List.cons.injEq, and_true] at hcs
  subst hcs
  simp only [if_true] at hz
  unfold maxLen at hm
  subst hx
  have hwl := (fJ ht hb hw0).1
  have hwl2 : len ≤ 140737488355328 := by
   have : (lits .u32 (zs.take len) : List (DataW H)).length = len := by simp [lits]; omega
   omega
  have hw : ∀ c, c < cap → 0 ≤ zs.getD c 0 ∧ zs.getD c 0 < 4294967296 := fun c hc => by
   have h1 := hwz (zs.getD c 0) (by rw [List.getD_eq_getElem?_getD, List.getElem?_eq_getElem (show c < zs.length by omega)]; exact List.getElem_mem _)
   have h2 : 0 ≤ zs.getD c 0 ∧ zs.getD c 0 ≤ 4294967295 := by simpa [Lit.wf, IntKind.min, IntKind.max, IntKind.signed, IntKind.bits] using h1
   omega
  refine ⟨⟨some a, len, cap⟩, (List.range len).map fun c => (zs.getD c 0).toNat, rfl, fun neg => ⟨by simp, by simpa using hl, hwl2, ?_, fun d hd => ?_⟩⟩
  ·rw [limbsL, List.map_map]
   refine mI (fun e => nomatch e) fun a' e c hc' => ?_
   cases e
   have h1 := hw c (by omega)
   rw [hcell c (by omega)]
   show some (Value.int .u32 (zs.getD c 0)) = some (Value.int .u32 (((zs.getD c 0).toNat : Nat) : Int))
   rw [Int.toNat_of_nonneg h1.1]
  ·rw [List.mem_map] at hd
   obtain ⟨c, hc', rfl⟩ := hd
   have h1 := hw c (by have := List.mem_range.1 hc'; omega)
   omega
theorem jF {t e : TypeId} {f0 f1 : Field} {q : TypeId} {fuel : Nat} {v : Value} {x : DataW H × List MemPlace} (ht : P.underlying t = some (.slice e)) (he : P.underlying e = some (.struct #[f0, f1]))
  (ce : P.cellsOf e = 2) (o0 : f0.offset = 0) (o1 : f1.offset = 1) (c0 : P.cellsOf f0.type = 1) (c1 : P.cellsOf f1.type = 1) (t0 : P.underlying f0.type = some .bool) (t1 : P.underlying f1.type = some (.slice q)) (tq : P.underlying q = some (.int .u32)) (cq : P.cellsOf q = 1) (be : 1 ≤ P.bytesOf e) (bq : 1 ≤ P.bytesOf q) (hw0 : ∀ n ∈ x.1.weights P t, n ≤ reachBytes)
  (hf : DataW.trod enc P W 0 (fun _ => true) true fuel t [v] = some x) : ∃ (s : SD) (h : Nat → IH) (L : Nat → List Nat), v = .slice s.a s.len s.cap ∧ RawR W s h L := by
 rcases Go.Deep.open_slice_pairs ht he ce o0 o1 c0 c1 hf with ⟨hcs, hx⟩ | ⟨a, len, cap, m, n, V0, V1, D0, D1, P0, P1, hcs, _, hl, hm, hmm, hx, hcell⟩
 ·simp only [List.cons.injEq, and_true] at hcs
  subst hcs
  exact ⟨sd0, fun _ => ih0, fun _ => [], rfl, ⟨Nat.le_refl _, by decide, Sl.nil _ _, fun j hj => absurd hj (Nat.not_lt_zero _)⟩⟩
 ·simp only [List.cons.injEq, and_true] at hcs
  subst hcs
  simp only [if_true] at hmm
  unfold maxLen at hm
  subst hx
  obtain ⟨hwl, hwe⟩ := fJ ht be hw0
  simp only [List.length_map, List.length_range] at hwl
  have each : ∀ i, i < len → ∃ q : IH × List Nat, V0 i = .bool q.1.neg ∧ V1 i = .slice q.1.sd.a q.1.sd.len q.1.sd.cap ∧ RawI W q.1 q.2 := fun i hi => by
   obtain ⟨_, _, h0, h1⟩ := hcell i (by omega)
   obtain ⟨b, hb, _⟩ := DataW.trod_bool t0 h0
   obtain ⟨s, L, hs, hL⟩ := oE t1 tq cq bq (mH he (hwe _ (List.mem_map.2 ⟨i, List.mem_range.2 hi, rfl⟩))) h1
   simp only [List.cons.injEq, and_true] at hb
   exact ⟨(⟨b, s⟩, L), hb, hs, hL b⟩
  obtain ⟨q, hq⟩ := Go.Deep.choose_lt each
  refine ⟨⟨some a, len, cap⟩, fun i => (q i).1, fun i => (q i).2, rfl, ⟨hl, hwl, sR (fun e => nomatch e) fun a' e i hi => ?_, fun j hj => (hq j hj).2.2⟩⟩
  cases e
  obtain ⟨h0, h1, _⟩ := hcell i (by show i < m; have : i < len := hi; omega)
  obtain ⟨e0, e1, _⟩ := hq i hi
  rw [h0, h1, e0, e1]
  exact ⟨rfl, rfl⟩
theorem mJ {u t e : TypeId} {f0 f1 : Field} {q : TypeId} {fuel : Nat} {v : Value} {x : DataW H × List MemPlace} (hu : P.underlying u = some (.slice t)) (cu : P.cellsOf t = 1) (ht : P.underlying t = some (.slice e)) (he : P.underlying e = some (.struct #[f0, f1]))
  (ce : P.cellsOf e = 2) (o0 : f0.offset = 0) (o1 : f1.offset = 1) (c0 : P.cellsOf f0.type = 1) (c1 : P.cellsOf f1.type = 1) (t0 : P.underlying f0.type = some .bool) (t1 : P.underlying f1.type = some (.slice q)) (tq : P.underlying q = some (.int .u32)) (cq : P.cellsOf q = 1) (bt : 1 ≤ P.bytesOf t) (be : 1 ≤ P.bytesOf e) (bq : 1 ≤ P.bytesOf q) (hw0 : ∀ n ∈ x.1.weights P u, n ≤ reachBytes)
  (hf : DataW.trod enc P W 0 (fun _ => true) true fuel u [v] = some x) : ∃ (a : Option Addr) (n c : Nat) (s : Nat → SD) (h : Nat → Nat → IH) (L : Nat → Nat → List Nat), v = .slice a n c ∧ RawM W a n s h L := by
 rcases Go.Deep.open_slice1 hu cu hf with ⟨hcs, hx⟩ | ⟨a, len, cap, m, n, V, D, Pl, hcs, _, hl, hm, hmm, hx, hcell⟩
 ·simp only [List.cons.injEq, and_true] at hcs
  subst hcs
  exact ⟨none, 0, 0, fun _ => sd0, fun _ _ => ih0, fun _ _ => [], rfl, ⟨by decide, Sl.nil _ _, fun j hj => absurd hj (Nat.not_lt_zero _)⟩⟩
 ·simp only [List.cons.injEq, and_true] at hcs
  subst hcs
  simp only [if_true] at hmm
  unfold maxLen at hm
  subst hx
  obtain ⟨hwl, hwe⟩ := fJ hu bt hw0
  simp only [List.length_map, List.length_range] at hwl
  have each : ∀ i, i < len → ∃ q : SD × (Nat → IH) × (Nat → List Nat), V i = .slice q.1.a q.1.len q.1.cap ∧ RawR W q.1 q.2.1 q.2.2 := fun i hi => by
   obtain ⟨s, h, L, hv, hR⟩ := jF ht he ce o0 o1 c0 c1 t0 t1 tq cq be bq (hwe _ (List.mem_map.2 ⟨i, List.mem_range.2 hi, rfl⟩)) (hcell i (by omega)).2
   exact ⟨(s, h, L), hv, hR⟩
  obtain ⟨q, hq⟩ := Go.Deep.choose_lt each
  refine ⟨some a, len, cap, fun i => (q i).1, fun i => (q i).2.1, fun i => (q i).2.2, rfl, ⟨hwl, mI (fun e => nomatch e) fun a' e i hi => ?_, fun j hj => (hq j hj).2⟩⟩
  cases e
  rw [(hcell i (by omega)).1, (hq i hi).1]
  rfl
end
set_option maxRecDepth 100000
theorem gV : ∃ f0 f1, Tryz.prog.underlying 43 = some (.struct #[f0, f1]) ∧ f0.type = 4 ∧ f1.type = 41 ∧ f0.offset = 0 ∧ f1.offset = 1 :=
 ⟨(Tryz.prog.fieldsOf 43)[0]!, (Tryz.prog.fieldsOf 43)[1]!, by kernel_rfl, by kernel_rfl, by kernel_rfl, by kernel_rfl, by kernel_rfl⟩
theorem vt {H : Type} {enc : TypeId × Value → H} {W : World} {v : Value} {d : DataW H} {ps : List MemPlace} {r : Reach} {b0 : Nat} (hval : Value.okWide Tryz.prog W r b0 25 v) (h : DataW.Trod enc Tryz.prog W 0 (fun _ => true) true 25 v d ps) (hw0 : ∀ n ∈ d.weights Tryz.prog 25, n ≤ reachBytes) :
  ∃ (a : Option Addr) (n c : Nat) (s : Nat → SD) (h : Nat → Nat → IH) (L : Nat → Nat → List Nat), v = .slice a n c ∧ RawM W a n s h L := by
 obtain ⟨f0, f1, hs, h0, h1, o0, o1⟩ := gV
 obtain ⟨a0, len, cap, rfl⟩ := okWide_slice (e := 31) (by kernel_rfl) hval
 obtain ⟨fuel, hf⟩ := h
 exact mJ (t := 31) (e := 43) (q := 113) (by kernel_rfl) (by kernel_rfl) (by kernel_rfl) hs (by kernel_rfl) o0 o1 (by rw [h0]; kernel_rfl) (by rw [h1]; kernel_rfl) (by rw [h0]; kernel_rfl) (by rw [h1]; kernel_rfl) (by kernel_rfl) (by kernel_rfl) (Nat.le_of_ble_eq_true (by kernel_rfl)) (Nat.le_of_ble_eq_true (by kernel_rfl)) (Nat.le_of_ble_eq_true (by kernel_rfl)) hw0 hf
end Go.Proofs.YtiejljicpinheaaGreat
namespace Go.Proofs.YtiejljicpinheaaGreat
open Go.W Go.LM Go.LA
theorem wg {P : Program} {S : World → Prop} {ops : List Oper} {K : Env → World → Prop} {rest : List (Oper × Option Bool)} {ρ : Env} {w : World} {b : Option Bool} {d : Nat} {T : TypeId} {pos : String} {af : Array Edge} {x : Operand} {T1 : TypeId} {g o j n : Nat} {f : Nat → IH} [Scal P T1] (hx : ev ρ x = .pointer (some ⟨g, o + j * 2 + 1, none⟩)) (hs : Rd b S w fun w' => Sl w' (some ⟨g, o, none⟩) (rowC n f)) (hj : j < n)
  (h : RR P S ops K rest (upd ρ d (.slice (f j).sd.a (f j).sd.len (f j).sd.cap)) w) : RR P S ops K ((⟨some d, .load T1 x, T, pos, af, none⟩, b) :: rest) ρ w :=
 gD hx (hs.imp fun w' hs => by
  have := hs.get (j * 2 + 1) (by rw [bT]; omega)
  rw [List.getD_eq_getElem?_getD, (kE hj).2] at this
  exact this) h
def nsm : Nat → (Nat → Nat) → Nat
 | 0, _ => 0
 | n + 1, f => nsm n f + f n
theorem wk {n : Nat} {f : Nat → Nat} : ∀ {m : Nat}, m ≤ n → nsm m f ≤ nsm n f := by
 induction n with
 | zero => intro m h; obtain rfl : m = 0 := by omega
           exact Nat.le_refl _
 | succ n ih =>
  intro m h
  rcases Nat.lt_or_ge n m with h1 | h1
  ·obtain rfl : m = n + 1 := by omega
   exact Nat.le_refl _
  ·exact Nat.le_trans (ih h1) (Nat.le_add_right _ _)
theorem v9 {n i : Nat} {f : Nat → Nat} (h : i < n) : f i ≤ nsm n f := by
 have := wk (f := f) (show i + 1 ≤ n by omega)
 have e : nsm (i + 1) f = nsm i f + f i := rfl
 omega
theorem wh {n c : Nat} {f : Nat → Nat} (h : ∀ i, i < n → f i = c) : nsm n f = n * c := by
 induction n with
 | zero => simp [nsm]
 | succ n ih => rw [nsm, ih fun i hi => h i (by omega), h n (by omega), Nat.succ_mul]
theorem wj (n : Nat) (f g : Nat → Nat) : nsm n (fun i => f i + g i) = nsm n f + nsm n g := by
 induction n with
 | zero => rfl
 | succ n ih => simp only [nsm]; rw [ih]; omega
def lgN (s : Nat → SD) (L : Nat → Nat → List Nat) (n i : Nat) : Nat := n + nsm i fun k => (s k).len + nsm (s k).len fun j => (L k j).length
def valF (h : Nat → Nat → IH) (L : Nat → Nat → List Nat) : Mat := fun i j => sgn (h i j).neg (natOf (L i j))
set_option maxRecDepth 10000 in
set_option maxHeartbeats 4000000 in
theorem we {n cap : Nat} {w : World} {a : Option Addr} {s : Nat → SD} {h : Nat → Nat → IH} {L : Nat → Nat → List Nat} (hM : RawM w a n s h L) :
  CallsR Tryz.prog 20 #[.slice a n cap] w fun v w' => ∃ t : Bool, v = .bool t ∧ (t = false → lgN s L n n ≤ 60) ∧ Ex w w' := by
 refine aF (args := [_]) Tryz.func20 rfl rfl ?_
 repeat' (first|refine ai rfl ?_|refine aa ?_|refine aj ?_|refine ah rfl ?_|refine ae ?_|refine aZ rfl ?_|refine aA ?_)
 have hmx := hM.max
 refine aY (ι := Nat × Nat) [3, 4, 5, 8, 9, 10, 11, 12, 13, 14, 15, 16, 17, 18, 19, 20, 21, 22, 23, 24, 25, 26, 27, 28, 29, 30, 31, 32, 33, 34, 35, 36, 37, 38, 39, 40, 41, 42, 43, 44, 45, 46, 47, 48] (fun t => [(4, .int .i64 (t.1 : Int)), (3, .int .i64 (t.2 : Int))])
  (fun t w' => t.1 ≤ n ∧ Ex w w' ∧ t.2 ≤ 422212465065984 ∧ (t.2 < 1000 → t.2 = lgN s L n t.1)) (fun t => n - t.1)
  (0, n) ⟨rfl, rfl, trivial⟩ ⟨Nat.zero_le _, Ex.refl _, Nat.le_trans hmx (by omega), fun _ => (Nat.add_zero n).symm⟩ ?_
 rintro ⟨i, m⟩ ξ w1 ⟨hi, hE1, hm, hl⟩
 simp only at hi hm hl
 show CW _ _ _ _ (over [(4, .int .i64 (i : Int)), (3, .int .i64 (m : Int))] _) w1
 have hM1 := hM.ext hE1
 have hpt : 0 < n → W.plain a := fun h0 => hM.top.plain (by rw [bP]; exact h0)
 rcases Nat.lt_or_ge i n with hin | hin
 ·rcases Nat.lt_or_ge m 1000 with hm1 | hm1
  ·have hR := hM1.row i hin
   have hmR := hR.max
   have hlm := hl hm1
   repeat' (first|refine bu rfl rfl (show ((i : Nat) : Int) < ((n : Nat) : Int) by omega) ?_|refine bu rfl rfl (show ((m : Nat) : Int) < 1000 by omega) ?_|refine aD (j := i) rfl rfl (hpt (by omega)) (by omega) ?_|refine cG (j := i) rfl hM1.top (by omega) ?_|refine ai rfl ?_|refine aa ?_|refine aj ?_|refine ah rfl ?_|refine ae ?_|refine aZ rfl ?_|refine bz rfl rfl ?_|refine bc rfl rfl (by omega) (by omega) ?_|refine az rfl ?_|refine aA ?_|refine aE ?_)
   refine aY (ι := Nat × Nat) [3, 5, 25, 26, 27, 28, 29, 30, 31, 32, 33, 34, 35, 36, 37, 38, 39, 40, 41, 42, 43, 44, 45, 46, 47, 48] (fun t => [(5, .int .i64 (t.1 : Int)), (3, .int .i64 (t.2 : Int))])
    (fun t w' => t.1 ≤ (s i).len ∧ Ex w1 w' ∧ t.2 ≤ 140737488360000 ∧ (t.2 < 1000 → t.2 = lgN s L n i + (s i).len + nsm t.1 fun j => (L i j).length)) (fun t => (s i).len - t.1)
    (0, m + (s i).len) ⟨rfl, by show Value.int .i64 ((m : Int) + ((s i).len : Int)) = _; congr 1, trivial⟩ ⟨Nat.zero_le _, Ex.refl _, show m + (s i).len ≤ 140737488360000 by omega, fun _ => by rw [hlm]; rfl⟩ ?_
   rintro ⟨j, m2⟩ ξ2 w2 ⟨hj, hE2, hm2, hl2⟩
   simp only at hj hm2 hl2
   show CW _ _ _ _ (over [(5, .int .i64 (j : Int)), (3, .int .i64 (m2 : Int))] _) w2
   have hM2 := hM1.ext hE2
   have hR2 := hR.ext hE2
   rcases Nat.lt_or_ge j (s i).len with hjl | hjl
   ·have hI := hR2.ent j hjl
    have hmI := hI.max
    have hpr : W.plain (s i).a := hR2.sl.plain (by rw [bT]; omega)
    obtain ⟨pgzz, pozz, hpe⟩ := hpr
    have hsi : s i = ⟨some ⟨pgzz, pozz, none⟩, (s i).len, (s i).cap⟩ := by rw [← hpe]
    have hsl : Sl w2 (some ⟨pgzz, pozz, none⟩) (rowC (s i).len (h i)) := by rw [← hpe]; exact hR2.sl
    rcases Nat.lt_or_ge m2 1000 with hm21 | hm21
    ·repeat' (first|refine aD (j := i) rfl rfl (hpt (by omega)) (by omega) ?_|refine aV (j := i) rfl hM2.top (by omega) hsi ?_|(refine bu rfl rfl (show ((j : Nat) : Int) < (((s i).len : Nat) : Int) by omega) ?_)|refine bu rfl rfl (show ((m2 : Nat) : Int) < 1000 by omega) ?_|refine aT (j := j) (a := some ⟨pgzz, pozz, none⟩) rfl rfl ⟨_, _, rfl⟩ (by omega) ?_|refine wg (j := j) rfl hsl hjl ?_|refine ai rfl ?_|refine aa ?_|refine aj ?_|refine ah rfl ?_|refine ae ?_|refine aZ rfl ?_|refine bz rfl rfl ?_|refine bc rfl rfl (by omega) (by omega) ?_|refine aN rfl ?_|refine az rfl ?_|refine aA ?_|refine aL ?_|refine aE ?_)
     refine ⟨⟨(j + 1, m2 + (h i j).sd.len), ⟨hjl, hE2, show m2 + (h i j).sd.len ≤ 140737488360000 by omega, fun _ => ?_⟩, by simp only; omega, rfl, rfl, trivial⟩, (by (repeat (first|exact aH _ _ _|refine ay rfl ?_|refine av rfl ?_|refine ak rfl ?_|refine ao rfl ?_)))⟩
     show m2 + (h i j).sd.len = _ + (nsm j _ + (L i j).length)
     rw [hl2 hm21, hI.len]; omega
    ·repeat' (first|refine aD (j := i) rfl rfl (hpt (by omega)) (by omega) ?_|refine cG (j := i) rfl hM2.top (by omega) ?_|(refine bu rfl rfl (show ((j : Nat) : Int) < (((s i).len : Nat) : Int) by omega) ?_)|refine bj rfl rfl (show (1000 : Int) ≤ ((m2 : Nat) : Int) by omega) ?_|refine ai rfl ?_|refine aa ?_|refine aj ?_|refine ah rfl ?_|refine ae ?_|refine aZ rfl ?_|refine bz rfl rfl ?_|refine bc rfl rfl (by omega) (by omega) ?_|refine au rfl ?_|refine aP ?_|refine aJ ?_|refine aQ ?_|refine aL ?_)
     exact ⟨⟨(i + 1, m2), ⟨hin, hE1.trans hE2, show m2 ≤ 422212465065984 by omega, fun h => absurd h (show ¬ m2 < 1000 by omega)⟩, by simp only; omega, rfl, rfl, trivial⟩, (by (repeat (first|exact aH _ _ _|refine ay rfl ?_|refine av rfl ?_|refine ak rfl ?_|refine ao rfl ?_)))⟩
   ·repeat' (first|refine aD (j := i) rfl rfl (hpt (by omega)) (by omega) ?_|refine cG (j := i) rfl hM2.top (by omega) ?_|(refine bj rfl rfl (show (((s i).len : Nat) : Int) ≤ ((j : Nat) : Int) by omega) ?_)|refine ai rfl ?_|refine aa ?_|refine aj ?_|refine ah rfl ?_|refine ae ?_|refine aZ rfl ?_|refine bK rfl rfl ?_|refine bc rfl rfl (by omega) (by omega) ?_|refine au rfl ?_|refine aP ?_|refine aJ ?_|refine aQ ?_|refine aL ?_)
    refine ⟨⟨(i + 1, m2), ⟨hin, hE1.trans hE2, show m2 ≤ 422212465065984 by omega, fun h => ?_⟩, by simp only; omega, rfl, rfl, trivial⟩, (by (repeat (first|exact aH _ _ _|refine ay rfl ?_|refine av rfl ?_|refine ak rfl ?_|refine ao rfl ?_)))⟩
    show m2 = n + (nsm i _ + ((s i).len + nsm (s i).len fun j => (L i j).length))
    rw [hl2 h, show j = (s i).len by omega]
    unfold lgN
    omega
  ·repeat' (first|refine bu rfl rfl (show ((i : Nat) : Int) < ((n : Nat) : Int) by omega) ?_|refine bj rfl rfl (show (1000 : Int) ≤ ((m : Nat) : Int) by omega) ?_|refine kh rfl rfl (show (60 : Int) < ((m : Nat) : Int) by omega) ?_|refine ai rfl ?_|refine aa ?_|refine aj ?_|refine ah rfl ?_|refine ae ?_|refine aZ rfl ?_|refine bz rfl rfl ?_|refine au rfl ?_|refine aP ?_|refine aJ ?_|refine aQ ?_|refine aI ?_)
   exact bx rfl (rt rfl) ⟨true, rfl, fun e => (nomatch e), hE1⟩
 ·obtain rfl : i = n := by omega
  rcases Nat.lt_or_ge 60 m with h60 | h60
  ·repeat' (first|refine bj rfl rfl (show ((i : Nat) : Int) ≤ ((i : Nat) : Int) by omega) ?_|refine kh rfl rfl (show (60 : Int) < ((m : Nat) : Int) by omega) ?_|refine ai rfl ?_|refine aa ?_|refine aj ?_|refine ah rfl ?_|refine ae ?_|refine aZ rfl ?_|refine bK rfl rfl ?_|refine au rfl ?_|refine aP ?_|refine aJ ?_|refine aQ ?_|refine aI ?_)
   exact bx rfl (rt rfl) ⟨true, rfl, fun e => (nomatch e), hE1⟩
  ·repeat' (first|refine bj rfl rfl (show ((i : Nat) : Int) ≤ ((i : Nat) : Int) by omega) ?_|refine gI rfl rfl (show ((m : Nat) : Int) ≤ (60 : Int) by omega) ?_|refine ai rfl ?_|refine aa ?_|refine aj ?_|refine ah rfl ?_|refine ae ?_|refine aZ rfl ?_|refine bK rfl rfl ?_|refine au rfl ?_|refine aP ?_|refine aJ ?_|refine aQ ?_|refine aI ?_)
   exact bx rfl (rt rfl) ⟨false, rfl, fun _ => by rw [← hl (show m < 1000 by omega)]; exact h60, hE1⟩
theorem wl {n : Nat} {w : World} {a : Option Addr} {s : Nat → SD} {h : Nat → Nat → IH} {L : Nat → Nat → List Nat} (hM : RawM w a n s h L) (hl : lgN s L n n ≤ 60) :
  AM 60 w a n s (valF h L) ∧ n ≤ 60 ∧ (∀ i, i < n → (s i).len ≤ 60) ∧ (okS n s → n * (s 0).len + n ≤ 60) := by
 have hf : ∀ i, i < n → ((s i).len + nsm (s i).len fun j => (L i j).length) ≤ 60 - n ∧ n ≤ 60 := fun i hi => by
  have h1 := v9 (f := fun k => (s k).len + nsm (s k).len fun j => (L k j).length) hi
  unfold lgN at hl
  omega
 refine ⟨⟨hM.top, fun i hi => ?_⟩, by unfold lgN at hl; omega, fun i hi => by have := hf i hi; omega, fun ok => ?_⟩
 ·have hR := hM.row i hi
  refine ⟨rfl, hR.cap, h i, hR.sl, fun j hj => ⟨⟨(h i j).neg, (h i j).sd.a, (h i j).sd.cap, L i j, ?_, ⟨(hR.ent j hj).sl, (hR.ent j hj).cap, (hR.ent j hj).lim, ?_⟩, rfl, ?_⟩, fun e => nomatch e⟩⟩
  ·rw [← (hR.ent j hj).len]; rfl
  ·have h1 := v9 (f := fun j => (L i j).length) hj
   have h2 := hf i hi
   omega
  ·have h1 := v9 (f := fun j => (L i j).length) hj
   have h2 := hf i hi
   omega
 ·have h1 : nsm n (fun k => (s k).len) ≤ nsm n fun k => (s k).len + nsm (s k).len fun j => (L k j).length := by
   rw [wj n (fun k => (s k).len)]; omega
  rw [wh (f := fun k => (s k).len) (c := (s 0).len) (fun i hi => ok.2.2.2.2 i hi)] at h1
  unfold lgN at hl
  omega
end Go.Proofs.YtiejljicpinheaaGreat
namespace Go.LA
end Go.LA
namespace Go.Proofs.YtiejljicpinheaaGreat
open Go.W Go.LM Go.LA Go.PM
theorem wK {K r c lo g : Nat} {w : World} {gs cp : Nat → Nat} {F : Mat} (h : MO true K w lo g r c gs cp F) : AM K w (some ⟨g, 0, none⟩) r (fun i => ⟨some ⟨gs i, 0, none⟩, c, cp i⟩) F := h.mx.am
theorem wL {r c : Nat} {gs cp : Nat → Nat} (hr : 1 ≤ r ∧ r ≤ 16) (hc : 1 ≤ c ∧ c ≤ 16) : okS r (fun i => (⟨some ⟨gs i, 0, none⟩, c, cp i⟩ : SD)) := ⟨hr.1, hr.2, hc.1, hc.2, fun _ _ => rfl⟩
theorem AM.up60 {K n : Nat} {w : World} {a : Option Addr} {s : Nat → SD} {F : Mat} (h : AM K w a n s F) (hK : K ≤ 60) : AM 60 w a n s F := ⟨h.top, fun i hi => (h.row i hi).up hK⟩
theorem wq {n : Nat} {w : World} {a : Option Addr} {s : Nat → SD} {A : Mat} (h : AM 60 w a n s A) (ok : okS n s) : ∀ i j, i < n → j < (s 0).len → Lb 60 (A i j) := fun _ _ hi hj => (h.mx ok).lb hi hj
theorem wH {t t' : Bool} {p : Prop} (h : t = true ↔ p) (h' : t' = true ↔ p) : t = t' := by
 cases t <;> cases t' <;> simp_all
end Go.Proofs.YtiejljicpinheaaGreat
namespace Go.LA
theorem Uni.add {n i j : Nat} {F : Mat} (h : Uni n F) (c : Int) (hne : i ≠ j) (hi : i < n) (hj : j < n) : Uni n (cadd F i j c) := (CEq.add h.ceq c hne hi hj).1
theorem Uni.cswap {n i j : Nat} {F : Mat} (h : Uni n F) (hne : i ≠ j) (hi : i < n) (hj : j < n) : Uni n (cswp F i j) := (CEq.swap h.ceq hne hi hj).1
theorem Uni.cneg {n i : Nat} {F : Mat} (h : Uni n F) (hi : i < n) : Uni n (Go.LA.cneg F i) := (CEq.neg h.ceq hi).1
def umF (F : Mat) (i j : Nat) (c : Int) : Mat := if i = j then (if c < 0 then cneg F i else F) else if c = 0 then cswp F i j else cadd F i j c
def UmB (n : Nat) (F : Mat) (b : Nat) : Prop := ∀ x y, x < n → y < n → (F x y).natAbs ≤ b
theorem UmB.mono {n b b' : Nat} {F : Mat} (h : UmB n F b) (hb : b ≤ b') : UmB n F b' := fun x y hx hy => Nat.le_trans (h x y hx hy) hb
theorem Uni.um {n i j : Nat} {F : Mat} (h : Uni n F) (c : Int) (hi : i < n) (hj : j < n) : Uni n (umF F i j c) := by
 unfold umF
 by_cases e : i = j
 ·rw [if_pos e]; split
  ·exact h.cneg hi
  ·exact h
 ·rw [if_neg e]; split
  ·exact h.cswap e hi hj
  ·exact h.add c e hi hj
theorem UmB.um {n b i j : Nat} {F : Mat} {c : Int} (h : UmB n F b) (hc : -2 ≤ c ∧ c ≤ 2) (hi : i < n) (hj : j < n) : UmB n (umF F i j c) (3 * b) := by
 intro x y hx hy
 have h1 := h x y hx hy
 unfold umF
 by_cases e : i = j
 ·rw [if_pos e]; split
  ·unfold Go.LA.cneg; split
   ·rename_i hy'; subst hy'; omega
   ·omega
  ·omega
 ·rw [if_neg e]; split
  ·unfold cswp
   have h2 := h x (if y = i then j else if y = j then i else y) hx (by split; exact hj; split <;> omega)
   omega
  ·unfold cadd; split
   ·rename_i hy'; subst hy'
    have h3 := h x j hx hj
    have h4 : (c * F x j).natAbs ≤ 2 * b := by
     rw [Int.natAbs_mul]
     exact Nat.mul_le_mul (by omega) h3
    omega
   ·omega
end Go.LA
namespace Go.Proofs.YtiejljicpinheaaGreat
open Go.W Go.LM Go.LA Go.PM
theorem MIO.congr {w : World} {lo g r c : Nat} {gs : Nat → Nat} {F F' : Mat} (h : MIO w lo g r c gs F) (e : ∀ i j, i < r → j < c → F' i j = F i j) : MIO w lo g r c gs F' :=
 ⟨h.low, h.top, fun i hi => ⟨(h.row i hi).1, by rw [oD (fun j hj => e i j hi hj)]; exact (h.row i hi).2⟩, h.off, h.inj⟩
theorem MIO.put {w w' : World} {lo g r c i : Nat} {gs : Nat → Nat} {F F' : Mat} {f : Nat → Int} (h : MIO w lo g r c gs F) (hi : i < r) (hg : Chg (gs i) w w') (hb : Blk w' (gs i) 2 (intC c f))
  (e : ∀ j, j < c → F' i j = f j) (e' : ∀ x j, x < r → j < c → x ≠ i → F' x j = F x j) : MIO w' lo g r c gs F' := by
 refine ⟨h.low, h.top.chg hg (fun e => h.off i hi e.symm), fun x hx => ⟨(h.row x hx).1, ?_⟩, h.off, h.inj⟩
 by_cases hxi : x = i
 ·subst hxi; rw [oD (fun j hj => e j hj)]; exact hb
 ·rw [oD (fun j hj => e' x j hx hj hxi)]; exact (h.row x hx).2.chg hg fun he => hxi (h.inj _ _ hx hi he)
theorem MIO.chg {w w' : World} {lo g r c b : Nat} {gs : Nat → Nat} {F : Mat} (h : MIO w lo g r c gs F) (hg : Chg b w w') (hb : b ≠ g) (hb' : ∀ i, i < r → b ≠ gs i) : MIO w' lo g r c gs F :=
 ⟨h.low, h.top.chg hg (fun e => hb e.symm), fun x hx => ⟨(h.row x hx).1, (h.row x hx).2.chg hg fun e => hb' x hx e.symm⟩, h.off, h.inj⟩
theorem MIO.lt {w : World} {lo g r c : Nat} {gs : Nat → Nat} {F : Mat} (h : MIO w lo g r c gs F) : g < w.heap.size ∧ ∀ i, i < r → gs i < w.heap.size := ⟨h.top.lt, fun i hi => (h.row i hi).2.lt⟩
theorem wn {w w' : World} {lo g n t : Nat} {gs : Nat → Nat} {F G : Mat} {f : Nat → Int} (hO : MIO w lo g n n gs (fun x y => if x < t then G x y else F x y)) (ht : t < n) (hc : Chg (gs t) w w') (hb : Blk w' (gs t) 2 (intC n f)) (e : ∀ y, y < n → G t y = f y) :
  MIO w' lo g n n gs (fun x y => if x < t + 1 then G x y else F x y) :=
 hO.put (f := f) ht hc hb (fun y hy => by show (if t < t + 1 then _ else _) = _; rw [if_pos (Nat.lt_succ_self t)]; exact e y hy) (fun x y _ _ hx => by
  show (if x < t + 1 then G x y else F x y) = if x < t then G x y else F x y
  by_cases h : x < t
  ·rw [if_pos h, if_pos (by omega)]
  ·rw [if_neg h, if_neg (by omega)])
theorem wI (x : Int) : -2 ≤ x.tmod 3 ∧ x.tmod 3 ≤ 2 := by
 rcases Int.le_total 0 x with h | h
 ·rw [Int.tmod_eq_emod_of_nonneg h]; omega
 ·have e : x.tmod 3 = -((-x).tmod 3) := by rw [Int.neg_tmod, Int.neg_neg]
  rw [e, Int.tmod_eq_emod_of_nonneg (by omega)]; omega
def RetUm (n : Nat) (w : World) (v : Value) (w' : World) : Prop := ∃ g gs F, v = .slice (some ⟨g, 0, none⟩) n n ∧ MIO w' w.heap.size g n n gs F ∧ Uni n F ∧ UmB n F 531441 ∧ Ex w w'
set_option maxHeartbeats 8000000 in
theorem wB {n : Nat} {L : List Int} {la : Option Addr} {lc : Nat} {w : World} (hL : Sl w la (int8L L)) (hI : I8 L) (hn : 1 ≤ n ∧ n ≤ 16) :
  CallsR Tryz.prog 36 #[.slice la L.length lc, .int .i64 (n : Int)] w (RetUm n w) := by
 have hlt := hI.1
 refine aF (args := [_, _]) Tryz.func36 rfl rfl ?_
 repeat' (first|refine d8 (n := n) rfl rfl (by omega) (by omega) (fun g w1 hn1 => ⟨fun _ _ => trivial, ?_⟩)|refine ai rfl ?_|refine aa ?_|refine aj ?_|refine ah rfl ?_|refine ae ?_|refine aZ rfl ?_|refine aA ?_)
 have l1 := hn1.lo
 have s1 := hn1.ex.size
 have lb1 := hn1.blk.lt
 refine aY (ι := Nat × (Nat → Nat)) [6, 17, 18, 19, 20, 21, 22, 23, 24, 25, 26, 27, 28, 29, 30, 31] (fun t => [(17, .int .i64 (t.1 : Int))])
  (fun t w' => (t.1 ≤ n ∧ Ex w w' ∧ w1.heap.size ≤ w'.heap.size) ∧ Blk w' g 89 (topC n fun k => if k < t.1 then ⟨some ⟨t.2 k, 0, none⟩, n, n⟩ else sd0) ∧
   (∀ k, k < t.1 → w1.heap.size ≤ t.2 k ∧ Blk w' (t.2 k) 2 (intC n (idM k))) ∧ ∀ k l, k < t.1 → l < t.1 → t.2 k = t.2 l → k = l) (fun t => n - t.1)
  (0, fun _ => 0) ⟨rfl, trivial⟩ ⟨⟨by simp only; omega, hn1.ex, Nat.le_refl _⟩, hn1.blk, fun k h => by simp only at h; omega, fun k l h => by simp only at h; omega⟩ ?_
 rintro ⟨i, gs⟩ ξ w4 ⟨⟨hi, hE4, hs4⟩, hG4, hrow, hinj⟩
 simp only at hi hG4 hrow hinj
 show CW _ _ _ _ (over [(17, .int .i64 (i : Int))] _) w4
 rcases Nat.lt_or_ge i n with hir | hir
 ·repeat' (first|refine bu rfl rfl (by omega) ?_|refine ai rfl ?_|refine aa ?_|refine aj ?_|refine ah rfl ?_|refine ae ?_|refine az rfl ?_|refine aA ?_|refine aE ?_)
  refine rK (n := n) rfl rfl (by omega) (by omega) (fun gr w5 hn5 => ⟨fun _ _ => trivial, ?_⟩)
  have l5 := hn5.lo
  have s5 := hn5.ex.size
  have hG5 := hG4.ext hn5.ex
  repeat' (first|refine aD (j := i) rfl rfl ⟨_, _, rfl⟩ (by omega) ?_|refine ch (j := i) (u := ⟨some ⟨gr, 0, none⟩, n, n⟩) rfl rfl hG5 hir (fun w6 hc6 hG6 => ⟨fun _ _ => trivial, ?_⟩)|refine ai rfl ?_|refine aa ?_|refine ah rfl ?_|refine ae ?_)
  have hR6 := hn5.blk.chg hc6 (by omega)
  have hE6 := (hE4.trans hn5.ex).chg hc6 (by omega)
  have s6 := hc6.size
  have hi0 : setF (fun k => if k < i then (⟨some ⟨gs k, 0, none⟩, n, n⟩ : SD) else sd0) i ⟨some ⟨gr, 0, none⟩, n, n⟩ i = ⟨some ⟨gr, 0, none⟩, n, n⟩ := aS _ _ _
  repeat' (first|refine aD (j := i) rfl rfl ⟨_, _, rfl⟩ (by omega) ?_|refine aV (j := i) rfl hG6.sl hir hi0 ?_|refine p6 (j := i) (u := 1) rfl rfl hR6 hir (fun w7 hc7 hR7 => ⟨fun _ _ => trivial, ?_⟩)|refine ai rfl ?_|refine aa ?_|refine ah rfl ?_|refine ae ?_|refine bc rfl rfl (by omega) (by omega) ?_|refine aL ?_)
  have hold : ∀ k, k < i → gs k < w4.heap.size := fun k hk => (hrow k hk).2.lt
  refine ⟨⟨(i + 1, setF gs i gr), ⟨⟨hir, hE6.chg hc7 (by omega), by have := hc7.size; omega⟩, ?_, fun k hk => ?_, fun k l hk hl e => ?_⟩, by simp only; omega, rfl, trivial⟩, (by (repeat (first|exact aH _ _ _|refine ay rfl ?_|refine av rfl ?_|refine ak rfl ?_|refine ao rfl ?_)))⟩
  ·rw [bY (s' := setF (fun k => if k < i then (⟨some ⟨gs k, 0, none⟩, n, n⟩ : SD) else sd0) i ⟨some ⟨gr, 0, none⟩, n, n⟩) (fun k _ => ?_)]
   ·exact hG6.chg hc7 (by omega)
   ·by_cases e : k = i
    ·subst e; simp [setF]
    ·simp only [setF, if_neg e]
     by_cases h : k < i
     ·rw [if_pos h, if_pos (by omega)]
     ·rw [if_neg h, if_neg (by omega)]
  ·simp only at hk ⊢
   by_cases e : k = i
   ·subst e; rw [aS]
    refine ⟨by omega, ?_⟩
    rw [oD (g := setF (fun _ => 0) k 1) (fun j _ => ?_)]
    ·exact hR7
    ·by_cases e : j = k
     ·subst e; rw [aS, bF]
     ·rw [aX _ _ e, bI (Ne.symm e)]
   ·rw [aX _ _ e]
    have h1 := hrow k (by omega)
    exact ⟨h1.1, ((h1.2.ext hn5.ex).chg hc6 (by have := hn1.hi; omega)).chg hc7 (by have := hold k (by omega); omega)⟩
  ·simp only at hk hl e
   by_cases e1 : k = i
   ·by_cases e2 : l = i
    ·omega
    ·rw [e1, aS, aX _ _ e2] at e
     have := hold l (by omega)
     omega
   ·by_cases e2 : l = i
    ·rw [e2, aS, aX _ _ e1] at e
     have := hold k (by omega)
     omega
    ·rw [aX _ _ e1, aX _ _ e2] at e
     exact hinj k l (by omega) (by omega) e
 ·obtain rfl : i = n := by omega
  have hO4 : MIO w4 w.heap.size g i i gs idM := ⟨l1, by rw [bY (s' := fun k => if k < i then (⟨some ⟨gs k, 0, none⟩, i, i⟩ : SD) else sd0) (fun k hk => (if_pos hk).symm)]; exact hG4, fun k hk => ⟨by have := (hrow k hk).1; omega, (hrow k hk).2⟩, fun k hk e => by have := (hrow k hk).1; have := hn1.hi; omega, hinj⟩
  clear hG4 hrow hinj
  repeat' (first|refine bj rfl rfl (by omega) ?_|refine cf (cs := tapeL la L.length lc 0) rfl ?_|refine ai rfl ?_|refine aa ?_|refine aj ?_|refine ah rfl ?_|refine ae ?_|refine au rfl ?_|refine aP ?_|refine aJ ?_|refine aQ ?_)
  refine bH (vs := tapeL la L.length lc 0) rfl (fun g5 w5 hn5 => ⟨fun _ _ => trivial, ?_⟩)
  repeat' (first|refine ai rfl ?_|refine aa ?_|refine aj ?_|refine ah rfl ?_|refine ae ?_|refine aA ?_)
  have l5 := hn5.lo
  have hlt4 := hO4.lt
  have hne : 0 < L.length → ∀ ad, la = some ad → ad.block ≠ g5 := fun h ad e => by have := (hL.ext hE4).lt (by simpa using h) ad e; omega
  have h5g : g5 ≠ g := by omega
  have h5gs : ∀ k, k < i → g5 ≠ gs k := fun k hk => by have := hlt4.2 k hk; omega
  have hlo5 : w.heap.size ≤ g5 := by have := hE4.size; omega
  refine aY (ι := Nat × Nat × Mat) [8, 9, 10, 11, 12, 35, 36, 37, 38, 39, 40, 41, 42, 43, 44, 45, 46, 47, 48, 49, 50, 51, 52, 53, 54, 55, 56, 57, 58, 59, 60, 61, 62, 63, 64, 65, 66, 67, 68, 69, 70, 71, 72, 73, 74, 75, 76, 77, 78, 79, 80, 81, 82, 83, 84, 85, 86, 87, 88, 89, 90, 91, 92, 93, 94, 95, 96, 97, 98, 99, 100, 101, 102, 103, 104, 105, 106, 107, 108, 109, 110, 111, 112, 113, 114, 115, 116, 117, 118, 119, 120, 121, 122, 123, 124, 125, 126, 127, 128, 129, 130, 131, 132, 133, 134, 135, 136, 137, 138, 139, 140, 141, 142, 143] (fun t => [(8, .int .i64 (t.1 : Int))])
   (fun t w' => (t.1 ≤ 12 ∧ t.2.1 ≤ L.length ∧ Ex w w') ∧ Blk w' g5 39 (tapeL la L.length lc t.2.1) ∧ MIO w' w.heap.size g i i gs t.2.2 ∧ Uni i t.2.2 ∧ UmB i t.2.2 (3 ^ t.1)) (fun t => 12 - t.1)
   (0, 0, idM) ⟨rfl, trivial⟩ ⟨⟨Nat.zero_le _, Nat.zero_le _, hE4.trans hn5.ex⟩, hn5.blk, hO4.ext hn5.ex, qB i, fun x y _ _ => by
    by_cases e : x = y
    ·subst e; show (idM x x).natAbs ≤ 1; rw [bF]; decide
    ·show (idM x y).natAbs ≤ 1; rw [bI e]; decide⟩ ?_
  clear hO4 hlt4
  rintro ⟨k, p, F⟩ ξ2 w6 ⟨⟨hk, hp, hE6⟩, hT6, hO6, hU6, hB6⟩
  simp only at hk hp hT6 hO6 hU6 hB6
  show CW _ _ _ _ (over [(8, .int .i64 (k : Int))] _) w6
  repeat' (first|refine aj ?_)
  refine bi (late := []) (plan := [(0, none), (1, none), (2, none), (3, none), (4, none), (5, none), (6, none), (7, none), (8, none), (9, none), (10, none), (11, none), (12, none), (13, none)]) (fun w' => Ex w6 w') bA (by kernel_rfl) (Ex.refl w6).drew ?_
  rcases Nat.lt_or_ge k 12 with hk12 | hk12
  ·rcases Nat.lt_or_ge p L.length with hpL | hpL
   ·repeat' (first|refine bu rfl rfl (show ((k : Nat) : Int) < 12 by omega) ?_|refine tj rfl ?_|refine aW (g := g5) rfl (fun _ h => hT6.ext h) rfl ?_|refine bu rfl rfl (show ((p : Nat) : Int) < ((L.length : Nat) : Int) by omega) ?_|refine ai rfl ?_|refine aa ?_|refine aj ?_|refine ah rfl ?_|refine ae ?_|refine aZ rfl ?_|refine bz rfl rfl ?_|refine aN rfl ?_|refine az rfl ?_|refine aA ?_|refine aE ?_)
    refine aw (tA hT6.drew (hL.ext hE6.drew) hI hne hp (i : Int) (by omega)) rfl ?_
    rintro v w7 ⟨rfl, hc7, hT7⟩
    refine ⟨fun _ _ => trivial, ?_⟩
    obtain ⟨a, ha⟩ : ∃ a : Nat, L.getD p 0 % 256 % (i : Int) = (a : Int) := ⟨(L.getD p 0 % 256 % (i : Int)).toNat, by have := Int.emod_nonneg (L.getD p 0 % 256) (b := (i : Int)) (by omega); omega⟩
    have hai : a < i := by have := Int.emod_lt_of_pos (L.getD p 0 % 256) (b := (i : Int)) (by omega); omega
    rw [ha]
    have hp1 := vX hp
    have hO7 := hO6.ext ((Ex.refl w6).drew)
    replace hO7 := hO7.chg hc7 h5g h5gs
    have hE7 := hE6.drew.chg hc7 hlo5
    repeat' (first|refine ai rfl ?_)
    refine aw (tA hT7 (hL.ext hE7) hI hne hp1 (i : Int) (by omega)) rfl ?_
    rintro v w8 ⟨rfl, hc8, hT8⟩
    refine ⟨fun _ _ => trivial, ?_⟩
    obtain ⟨b, hb⟩ : ∃ b : Nat, L.getD (tAt L p) 0 % 256 % (i : Int) = (b : Int) := ⟨(L.getD (tAt L p) 0 % 256 % (i : Int)).toNat, by have := Int.emod_nonneg (L.getD (tAt L p) 0 % 256) (b := (i : Int)) (by omega); omega⟩
    have hbi : b < i := by have := Int.emod_lt_of_pos (L.getD (tAt L p) 0 % 256) (b := (i : Int)) (by omega); omega
    rw [hb]
    have hp2 := vX hp1
    have hO8 := hO7.chg hc8 h5g h5gs
    have hE8 := hE7.chg hc8 hlo5
    repeat' (first|refine ai rfl ?_|refine aa ?_|refine aj ?_|refine ah rfl ?_|refine ae ?_)
    refine aw (lh hT8 (hL.ext hE8) hI hne hp2) rfl ?_
    rintro v w9 ⟨rfl, hc9, hT9⟩
    refine ⟨fun _ _ => trivial, ?_⟩
    have hp3 := vX hp2
    have hO9 := hO8.chg hc9 h5g h5gs
    have hE9 := hE8.chg hc9 hlo5
    have hcr : -2 ≤ (L.getD (tAt L (tAt L p)) 0).tmod 3 ∧ (L.getD (tAt L (tAt L p)) 0).tmod 3 ≤ 2 := wI _
    repeat' (first|refine vP rfl rfl (by decide) ?_|refine ai rfl ?_|refine aa ?_|refine aj ?_|refine ah rfl ?_|refine ae ?_|refine aZ rfl ?_|refine aA ?_)
    generalize (L.getD (tAt L (tAt L p)) 0).tmod 3 = c at hcr
    generalize tAt L (tAt L (tAt L p)) = p3 at *
    have hUm := hU6.um c hai hbi
    have hBm := UmB.um hB6 hcr hai hbi
    have hF3 : (3 : Nat) ^ k ≤ 531441 := Nat.le_trans (Nat.pow_le_pow_right (by decide) hk) (by decide)
    clear hO7 hO8 hT7 hT8 hc7 hc8 hc9 ha hb hT6 hO6
    refine aY (ι := Nat) [12, 62, 63, 64, 65, 66, 67, 68, 69, 70, 71, 72, 73, 74, 75, 76, 77, 78, 79, 80, 81, 82, 83, 84, 85, 86, 87, 88, 89, 90, 91, 92, 93, 94, 95, 96, 97, 98, 99, 100, 101, 102, 103, 104, 105, 106, 107, 108, 109, 110, 111, 112, 113, 114, 115, 116, 117, 118, 119, 120, 121, 122, 123, 124, 125, 126, 127, 128, 129, 130, 131, 132, 133, 134, 135, 136, 137, 138, 139, 140, 141, 142, 143] (fun t => [(62, .int .i64 (t : Int))])
     (fun t w' => t ≤ i ∧ Ex w w' ∧ Blk w' g5 39 (tapeL la L.length lc p3) ∧ MIO w' w.heap.size g i i gs (fun x y => if x < t then umF F a b c x y else F x y)) (fun t => i - t)
     0 ⟨rfl, trivial⟩ ⟨Nat.zero_le _, hE9, hT9, hO9.congr fun x y _ _ => if_neg (by omega)⟩ ?_
    clear hO9 hT9
    rintro t ξ3 w10 ⟨ht, hE10, hT10, hO10⟩
    show CW _ _ _ _ (over [(62, .int .i64 (t : Int))] _) w10
    rcases Nat.lt_or_ge t i with hti | hti
    ·have hr10 : Blk w10 (gs t) 2 (intC i (F t)) := by rw [← oD (f := fun y => if t < t then umF F a b c t y else F t y) (fun y _ => if_neg (Nat.lt_irrefl t))]; exact (hO10.row t hti).2
     have hgt := (hO10.row t hti).1
     have h5t := h5gs t hti
     have hFa := hB6 t a hti hai
     have hFb := hB6 t b hti hbi
     have hEd := (Ex.refl w10).drew
     by_cases hab : a = b
     ·subst hab
      by_cases hc0 : c < 0
      ·repeat' (first|refine bu rfl rfl (show ((t : Nat) : Int) < ((i : Nat) : Int) by omega) ?_|refine aa ?_|refine aj ?_|refine ah rfl ?_|refine ae ?_|refine az rfl ?_|refine aE ?_)
       refine aA ?_
       repeat' (first|refine ai rfl ?_|refine aa ?_|refine aj ?_|refine ah rfl ?_|refine ae ?_)
       refine aA ?_
       repeat' (first|refine eF rfl rfl rfl ?_|refine bu rfl rfl hc0 ?_|refine ai rfl ?_|refine aa ?_|refine aj ?_|refine ah rfl ?_|refine ae ?_|refine bz rfl rfl ?_|refine az rfl ?_)
       refine bi (late := [14]) (plan := [(0, none), (1, none), (2, none), (3, none), (4, none), (5, none), (6, none), (7, none), (8, none), (9, none), (10, none), (11, none), (12, none), (13, none), (14, some false)]) (fun w' => Ex w10 w') bA (by kernel_rfl) hEd ?_
       repeat' (first|refine aD (j := t) (a := some ⟨g, 0, none⟩) rfl rfl ⟨_, _, rfl⟩ (by omega) ?_|refine aV (j := t) (a := some ⟨g, 0, none⟩) (n := i) (s := fun k => ⟨some ⟨gs k, 0, none⟩, i, i⟩) rfl (fun _ h => (hO10.ext h).top.sl) (by omega) rfl ?_|refine aD (j := a) (a := some ⟨gs t, 0, none⟩) rfl rfl ⟨_, _, rfl⟩ (by omega) ?_|refine rJ (j := a) (a := some ⟨gs t, 0, none⟩) (n := i) (f := F t) rfl (fun _ h => (hr10.ext h).sl) (by omega) ?_|refine sC (m := F t a) (m' := -F t a) rfl rfl (by omega) (by omega) ?_|refine ai rfl ?_)
       refine p6 (j := a) rfl rfl (hr10.ext hEd) (by omega) (fun w11 hc11 hb11 => ⟨fun h => (nomatch h), ?_⟩)
       repeat' (first|refine ai rfl ?_|refine aa ?_|refine ah rfl ?_|refine ae ?_|refine bc rfl rfl (by omega) (by omega) ?_|refine aL ?_)
       refine ⟨⟨t + 1, ⟨hti, (hE10.trans hEd).chg hc11 hgt, (hT10.ext hEd).chg hc11 h5t, wn (hO10.ext hEd) hti hc11 hb11 fun y hy => ?_⟩, by omega, rfl, trivial⟩, (by (repeat (first|exact aH _ _ _|refine ay rfl ?_|refine av rfl ?_|refine ak rfl ?_|refine ao rfl ?_)))⟩
       unfold umF setF Go.LA.cneg
       rw [if_pos rfl, if_pos hc0]
      ·repeat' (first|refine bu rfl rfl (show ((t : Nat) : Int) < ((i : Nat) : Int) by omega) ?_|refine eF rfl rfl rfl ?_|refine bj rfl rfl (show (0 : Int) ≤ c by omega) ?_|refine cN rfl rfl rfl ?_|refine ai rfl ?_|refine aa ?_|refine aj ?_|refine ah rfl ?_|refine ae ?_|refine bz rfl rfl ?_|refine bK rfl rfl ?_|refine bc rfl rfl (by omega) (by omega) ?_|refine az rfl ?_|refine au rfl ?_|refine aA ?_|refine aL ?_|refine aE ?_)
       refine ⟨⟨t + 1, ⟨hti, hE10, hT10, hO10.congr fun x y _ _ => ?_⟩, by omega, rfl, trivial⟩, (by (repeat (first|exact aH _ _ _|refine ay rfl ?_|refine av rfl ?_|refine ak rfl ?_|refine ao rfl ?_)))⟩
       by_cases e : x < t
       ·rw [if_pos e, if_pos (by omega)]
       ·rw [if_neg e]
        by_cases e' : x < t + 1
        ·rw [if_pos e']; unfold umF; rw [if_pos rfl, if_neg hc0]
        ·rw [if_neg e']
     ·have habi : ((a : Nat) : Int) ≠ ((b : Nat) : Int) := by omega
      by_cases hc0 : c = 0
      ·subst hc0
       repeat' (first|refine bu rfl rfl (show ((t : Nat) : Int) < ((i : Nat) : Int) by omega) ?_|refine aa ?_|refine aj ?_|refine ah rfl ?_|refine ae ?_|refine az rfl ?_|refine aE ?_)
       refine aA ?_
       repeat' (first|refine ai rfl ?_|refine aa ?_|refine aj ?_|refine ah rfl ?_|refine ae ?_)
       refine aA ?_
       repeat' (first|refine dU rfl rfl habi ?_|refine df rfl rfl habi ?_|refine eF rfl rfl rfl ?_|refine ai rfl ?_|refine aa ?_|refine aj ?_|refine ah rfl ?_|refine ae ?_|refine bz rfl rfl ?_|refine bK rfl rfl ?_|refine az rfl ?_|refine au rfl ?_)
       refine bi (late := [25, 27]) (plan := [(0, none), (1, none), (2, none), (3, none), (4, none), (5, none), (6, none), (7, none), (8, none), (9, none), (10, none), (11, none), (12, none), (13, none), (14, none), (15, none), (16, none), (17, none), (18, none), (19, none), (20, none), (21, none), (22, none), (23, none), (24, none), (25, some false), (26, none), (27, some false)]) (fun w' => Ex w10 w') bA (by kernel_rfl) hEd ?_
       repeat' (first|refine aD (j := t) (a := some ⟨g, 0, none⟩) rfl rfl ⟨_, _, rfl⟩ (by omega) ?_|refine aV (j := t) (a := some ⟨g, 0, none⟩) (n := i) (s := fun k => ⟨some ⟨gs k, 0, none⟩, i, i⟩) rfl (fun _ h => (hO10.ext h).top.sl) (by omega) rfl ?_|refine aD (j := a) (a := some ⟨gs t, 0, none⟩) rfl rfl ⟨_, _, rfl⟩ (by omega) ?_|refine aD (j := b) (a := some ⟨gs t, 0, none⟩) rfl rfl ⟨_, _, rfl⟩ (by omega) ?_|refine rJ (j := a) (a := some ⟨gs t, 0, none⟩) (n := i) (f := F t) rfl (fun _ h => (hr10.ext h).sl) (by omega) ?_|refine rJ (j := b) (a := some ⟨gs t, 0, none⟩) (n := i) (f := F t) rfl (fun _ h => (hr10.ext h).sl) (by omega) ?_|refine ai rfl ?_)
       refine p6 (j := a) rfl rfl (hr10.ext hEd) (by omega) (fun w11 hc11 hb11 => ⟨fun h => (nomatch h), ?_⟩)
       repeat' (first|refine aD (j := b) (a := some ⟨gs t, 0, none⟩) rfl rfl ⟨_, _, rfl⟩ (by omega) ?_)
       refine p6 (j := b) rfl rfl hb11 (by omega) (fun w12 hc12 hb12 => ⟨fun h => (nomatch h), ?_⟩)
       repeat' (first|refine ai rfl ?_|refine aa ?_|refine ah rfl ?_|refine ae ?_|refine bc rfl rfl (by omega) (by omega) ?_|refine aL ?_)
       refine ⟨⟨t + 1, ⟨hti, ((hE10.trans hEd).chg hc11 hgt).chg hc12 hgt, ((hT10.ext hEd).chg hc11 h5t).chg hc12 h5t, wn (hO10.ext hEd) hti (hc11.trans hc12) hb12 fun y hy => ?_⟩, by omega, rfl, trivial⟩, (by (repeat (first|exact aH _ _ _|refine ay rfl ?_|refine av rfl ?_|refine ak rfl ?_|refine ao rfl ?_)))⟩
       unfold umF setF Go.LA.cswp
       rw [if_neg hab, if_pos rfl]
       by_cases e : y = b
       ·subst e; rw [if_pos rfl, if_neg (Ne.symm hab), if_pos rfl]
       ·rw [if_neg e]
        by_cases e' : y = a
        ·subst e'; rw [if_pos rfl, if_pos rfl, if_neg e]
        ·rw [if_neg e', if_neg e', if_neg e]
      ·repeat' (first|refine bu rfl rfl (show ((t : Nat) : Int) < ((i : Nat) : Int) by omega) ?_|refine aa ?_|refine aj ?_|refine ah rfl ?_|refine ae ?_|refine az rfl ?_|refine aE ?_)
       refine aA ?_
       repeat' (first|refine ai rfl ?_|refine aa ?_|refine aj ?_|refine ah rfl ?_|refine ae ?_)
       refine aA ?_
       repeat' (first|refine dU rfl rfl habi ?_|refine df rfl rfl habi ?_|refine dU rfl rfl hc0 ?_|refine ai rfl ?_|refine aa ?_|refine aj ?_|refine ah rfl ?_|refine ae ?_|refine bz rfl rfl ?_|refine bK rfl rfl ?_|refine az rfl ?_|refine au rfl ?_)
       have hm1 : (c * F t b).natAbs ≤ 2 * 531441 := by
        rw [Int.natAbs_mul]; exact Nat.mul_le_mul (by omega) (by omega)
       refine bi (late := [18]) (plan := [(0, none), (1, none), (2, none), (3, none), (4, none), (5, none), (6, none), (7, none), (8, none), (9, none), (10, none), (11, none), (12, none), (13, none), (14, none), (15, none), (16, none), (17, none), (18, some false)]) (fun w' => Ex w10 w') bA (by kernel_rfl) hEd ?_
       repeat' (first|refine aD (j := t) (a := some ⟨g, 0, none⟩) rfl rfl ⟨_, _, rfl⟩ (by omega) ?_|refine aV (j := t) (a := some ⟨g, 0, none⟩) (n := i) (s := fun k => ⟨some ⟨gs k, 0, none⟩, i, i⟩) rfl (fun _ h => (hO10.ext h).top.sl) (by omega) rfl ?_|refine aD (j := a) (a := some ⟨gs t, 0, none⟩) rfl rfl ⟨_, _, rfl⟩ (by omega) ?_|refine aD (j := b) (a := some ⟨gs t, 0, none⟩) rfl rfl ⟨_, _, rfl⟩ (by omega) ?_|refine rJ (j := a) (a := some ⟨gs t, 0, none⟩) (n := i) (f := F t) rfl (fun _ h => (hr10.ext h).sl) (by omega) ?_|refine rJ (j := b) (a := some ⟨gs t, 0, none⟩) (n := i) (f := F t) rfl (fun _ h => (hr10.ext h).sl) (by omega) ?_|refine j3 rfl rfl (by omega) (by omega) ?_|refine bc rfl rfl (by omega) (by omega) ?_|refine ai rfl ?_)
       refine p6 (j := a) rfl rfl (hr10.ext hEd) (by omega) (fun w11 hc11 hb11 => ⟨fun h => (nomatch h), ?_⟩)
       repeat' (first|refine ai rfl ?_|refine aa ?_|refine ah rfl ?_|refine ae ?_|refine bc rfl rfl (by omega) (by omega) ?_|refine aL ?_)
       refine ⟨⟨t + 1, ⟨hti, (hE10.trans hEd).chg hc11 hgt, (hT10.ext hEd).chg hc11 h5t, wn (hO10.ext hEd) hti hc11 hb11 fun y hy => ?_⟩, by omega, rfl, trivial⟩, (by (repeat (first|exact aH _ _ _|refine ay rfl ?_|refine av rfl ?_|refine ak rfl ?_|refine ao rfl ?_)))⟩
       unfold umF setF cadd
       rw [if_neg hab, if_neg hc0]
    ·obtain rfl : t = i := by omega
     repeat' (first|refine bj rfl rfl (show ((t : Nat) : Int) ≤ ((t : Nat) : Int) by omega) ?_|refine ai rfl ?_|refine aa ?_|refine aj ?_|refine ah rfl ?_|refine ae ?_|refine bc rfl rfl (by omega) (by omega) ?_|refine au rfl ?_|refine aP ?_|refine aJ ?_|refine aQ ?_|refine aL ?_)
     exact ⟨⟨(k + 1, p3, umF F a b c), ⟨⟨hk12, hp3, hE10⟩, hT10, hO10.congr fun x y hx _ => (if_pos hx).symm, hUm, hBm.mono (by rw [Nat.pow_succ]; omega)⟩, by simp only; omega, rfl, trivial⟩, (by (repeat (first|exact aH _ _ _|refine ay rfl ?_|refine av rfl ?_|refine ak rfl ?_|refine ao rfl ?_)))⟩
   ·obtain rfl : p = L.length := by omega
    repeat' (first|refine bu rfl rfl (show ((k : Nat) : Int) < 12 by omega) ?_|refine tj rfl ?_|refine aW (g := g5) rfl (fun _ h => hT6.ext h) rfl ?_|refine bj rfl rfl (Int.le_refl _) ?_|refine ai rfl ?_|refine aa ?_|refine aj ?_|refine ah rfl ?_|refine ae ?_|refine aZ rfl ?_|refine bz rfl rfl ?_|refine aN rfl ?_|refine au rfl ?_|refine aP ?_|refine aJ ?_|refine aQ ?_|refine aI ?_)
    exact bx rfl (rt rfl) ⟨g, gs, F, rfl, hO6.ext (Ex.refl w6).drew, hU6, hB6.mono (Nat.le_trans (Nat.pow_le_pow_right (by decide) hk) (by decide)), hE6.drew⟩
  ·repeat' (first|refine bj rfl rfl (show (12 : Int) ≤ ((k : Nat) : Int) by omega) ?_|refine ai rfl ?_|refine aa ?_|refine aj ?_|refine ah rfl ?_|refine ae ?_|refine bK rfl rfl ?_|refine au rfl ?_|refine aP ?_|refine aJ ?_|refine aQ ?_|refine aI ?_)
   exact bx rfl (rt rfl) ⟨g, gs, F, rfl, hO6.ext (Ex.refl w6).drew, hU6, hB6.mono (Nat.le_trans (Nat.pow_le_pow_right (by decide) hk) (by decide)), hE6.drew⟩
end Go.Proofs.YtiejljicpinheaaGreat
