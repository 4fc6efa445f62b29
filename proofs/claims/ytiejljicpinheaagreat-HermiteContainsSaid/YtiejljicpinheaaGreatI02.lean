import Derived.Test.YtiejljicpinheaaGreatA29
import Derived.Test.YtiejljicpinheaaGreatI01
namespace Go.W
section
variable {P : Program} {S : World → Prop} {ops : List Oper} {K : Env → World → Prop} {rest : List (Oper × Option Bool)} {ρ : Env} {w : World} {kf : Bool} {d : Nat} {T : TypeId} {pos : String} {af : Array Edge}
theorem pW {T1 E y n sc : Nat} {x1 x2 : Operand} {a : Option Addr} {hh : Nat → IH} [hT : Slc P T1 E 2 y] [hz : Zro P E (.agg #[.bool false, .slice none 0 0])] (h1 : ev ρ x1 = .slice none 0 0) (h2 : ev ρ x2 = .slice a n sc) (hs : Sl w a (rowC n hh)) (hp : W.plain a)
  (hn : 0 < n) (hn2 : n ≤ 1000) (hb : n * y ≤ 281474976710656)
  (h : ∀ g cap h' w', New w w' g E (rowC cap h') → n ≤ cap → (∀ i, i < n → h' i = hh i) → (kf = true → S w → S w') ∧ RR P S ops K rest (upd ρ d (.slice (some ⟨g, 0, none⟩) n cap)) w') :
  RR P S ops K ((⟨some d, .call ⟨.builtin .append, #[x1, x2], #[T1, T1]⟩, T, pos, af, none⟩, some kf) :: rest) ρ w := by
 refine dw rfl ?_
 unfold OpW
 obtain ⟨i0, hi0, hzz⟩ := Option.map_eq_some_iff.1 hT.sz
 simp only [Prod.mk.injEq] at hzz
 obtain ⟨i1, hi1, hz1⟩ := Option.map_eq_some_iff.1 hz.ok
 rw [hi0] at hi1
 simp only [Option.some.injEq] at hi1
 subst hi1
 obtain ⟨g', o, rfl⟩ := hp
 have e : ∀ n, (⟨g', o, none⟩ : Addr).add n = ⟨g', o + n, none⟩ := fun n => by unfold Addr.add; split <;> simp_all
 have hr := run_append_nil (P := P) w T1 T E i0 _ hT.un hi0 hz1 ⟨g', o, none⟩ n sc (rowC n hh) (by rw [bT, hzz.1]) (fun j u hu => by
  have hj : j < (rowC n hh).length := (List.getElem?_eq_some_iff.1 hu).1
  have := hs.get j hj
  rw [e]
  simp only [elt] at this
  rw [this, List.getD_eq_getElem?_getD, hu]; rfl) hn (by omega) (by rw [hzz.2]; exact hb)
 have hge : n ≤ grownCap w n 0 E := grownCap_ge w n 0 E
 have hcells : (rowC n hh ++ (Builtin.zeroCells (Value.cells (.agg #[.bool false, .slice none 0 0])) (grownCap w n 0 E - n)).toList) = rowC (grownCap w n 0 E) (fun i => if i < n then hh i else ih0) := by
  rw [kH, ez, show n + (grownCap w n 0 E - n) = grownCap w n 0 E by omega]
 have hcs : ((rowC n hh).toArray ++ Builtin.zeroCells (Value.cells (.agg #[.bool false, .slice none 0 0])) (grownCap w n 0 E - n)) = (rowC (grownCap w n 0 E) (fun i => if i < n then hh i else ih0)).toArray := by
  rw [← hcells]; simp
 rw [hcs] at hr
 have : (execOp (ev ρ) ⟨some d, .call ⟨.builtin .append, #[x1, x2], #[T1, T1]⟩, T, pos, af, none⟩).run P w = .ok (.value (.slice (some ⟨w.heap.size, 0, none⟩) n (grownCap w n 0 E))) (w.drew.alloc (.cells (rowC (grownCap w n 0 E) (fun i => if i < n then hh i else ih0)).toArray E)) := by
  simp [execOp, resolve, invoke, builtin, h1, h2, hr]
 rw [this]
 have hnew := New.of_alloc w.drew E (rowC (grownCap w n 0 E) (fun i => if i < n then hh i else ih0))
 exact h w.heap.size _ _ _ ⟨((Ex.refl w).drew).trans hnew.ex, Nat.le_refl _, hnew.hi, hnew.blk⟩ hge (fun i hi => if_pos hi)
end
end Go.W
namespace Go.LA
structure CtK (rows cols k : Nat) (H : Mat) (p : Nat → Nat) (v : Vec) (c : Nat) (r : Vec) : Prop where
 comb : ∃ x : Vec, ∀ i, i < rows → v i = r i + mv cols H x i
 red : ∀ j, j < c → 0 ≤ r (p j) ∧ r (p j) < H (p j) j
theorem pX {rows cols k : Nat} {H : Mat} {p : Nat → Nat} (v : Vec) : CtK rows cols k H p v 0 v :=
 ⟨⟨fun _ => 0, fun i _ => by unfold mv; rw [fE fun j _ => Int.mul_zero _]; omega⟩, fun j hj => by omega⟩
theorem CtK.step {rows cols k : Nat} {H : Mat} {p : Nat → Nat} {v r r' : Vec} {c : Nat} (hF : HF rows cols H k p) (h : CtK rows cols k H p v c r) (hc : c < k) (hr : ∀ i, i < rows → r' i = r i - r (p c) / H (p c) c * H i c) : CtK rows cols k H p v (c + 1) r' := by
 obtain ⟨x, hx⟩ := h.comb
 have hcc : c < cols := by have := hF.kc; omega
 refine ⟨⟨fun j => x j + (if j = c then r (p c) / H (p c) c else 0), fun i hi => ?_⟩, fun j hj => ?_⟩
 ·rw [nY, qG H _ hcc, hr i hi, hx i hi]; omega
 ·rw [hr _ (hF.lt j (by omega))]
  by_cases e : j = c
  ·subst e
   have hp := hF.pos j hc
   have e4 : r (p j) - r (p j) / H (p j) j * H (p j) j = r (p j) % H (p j) j := by rw [Int.emod_def, Int.mul_comm]
   rw [e4]; exact ⟨Int.emod_nonneg _ (by omega), Int.emod_lt_of_pos _ hp⟩
  ·rw [hF.zero c hc (p j) (hF.mono j c (by omega) hc), Int.mul_zero, Int.sub_zero]; exact h.red j (by omega)
theorem CtK.done {rows cols k : Nat} {H : Mat} {p : Nat → Nat} {v r : Vec} (hF : HF rows cols H k p) (h : CtK rows cols k H p v k r) : InL rows cols H v ↔ ∀ i, i < rows → r i = 0 := by
 obtain ⟨x, hx⟩ := h.comb
 constructor
 ·intro hv
  have hr : InL rows cols H r := (hv.sub (v' := mv cols H x) ⟨x, fun _ _ => rfl⟩).congr fun i hi => by rw [hx i hi]; omega
  refine Classical.byContradiction fun hn => ?_
  have : ∃ i, i < rows ∧ r i ≠ 0 := Classical.byContradiction fun h' => hn fun i hi => Classical.byContradiction fun h'' => h' ⟨i, hi, h''⟩
  obtain ⟨c, hc, _, h2, h3⟩ := hF.lead hr this
  have h4 := h.red c hc
  have := Int.le_of_dvd (by omega) h3
  omega
 ·intro hz
  exact ⟨x, fun i hi => by rw [hx i hi, hz i hi, Int.zero_add]⟩
end Go.LA
namespace Go.Proofs.YtiejljicpinheaaGreat
open Go.W Go.LM Go.LA
theorem rG {n cap sl sc : Nat} {w : World} {a sa : Option Addr} {s : Nat → SD} (hS : Sl w a (topC n s)) (hno : ¬ okS n s) :
  CallsR Tryz.prog 34 #[.slice a n cap, .slice sa sl sc] w fun v w' => v = .bool false ∧ Ex w w' := by
 refine aF (args := [_, _]) Tryz.func34 rfl rfl ?_
 repeat' (first|refine ai rfl ?_|refine aa ?_|refine aj ?_|refine ah rfl ?_|refine ae ?_)
 refine aw (eD hS hno) rfl ?_
 rintro v w1 ⟨rfl, hE1⟩
 refine ⟨fun _ _ => trivial, ?_⟩
 repeat' (first|refine aK rfl rfl ?_|refine ai rfl ?_|refine aa ?_|refine aj ?_|refine ah rfl ?_|refine ae ?_|refine bK rfl rfl ?_|refine az rfl ?_|refine aI ?_|refine aU ?_)
 exact bx rfl (rt rfl) ⟨rfl, hE1⟩
theorem qd {cn : Bool} {K KM r c cap s Q sl sc : Nat} {w : World} {a sa : Option Addr} {sh : Nat → SD} {A : Mat} (hM : MX cn K w a r c sh A) (hr : 1 ≤ r ∧ r ≤ 16) (hc : 1 ≤ c ∧ c ≤ 16) (hA : ∀ l, l < c → ∀ i, i < r → Lb (Zb Q s l) (A i l)) (hQ : 10 ≤ Q) (hKM : Zb Q s (2 * c + 1) ≤ KM) (hK : 2 * KM < 17592186044415) (hl : sl ≠ r) :
  CallsR Tryz.prog 34 #[.slice a r cap, .slice sa sl sc] w fun v w' => v = .bool false ∧ Ex w w' := by
 refine aF (args := [_, _]) Tryz.func34 rfl rfl ?_
 repeat' (first|refine ai rfl ?_|refine aa ?_|refine aj ?_|refine ah rfl ?_|refine ae ?_)
 refine aw (cV hM hr hc hA hQ hKM hK) rfl ?_
 rintro v w1 ⟨H, U, k, p, u, rfl, hC, hF, h0, hO, hE1⟩
 refine ⟨fun _ _ => trivial, ?_⟩
 repeat' (first|refine aK rfl rfl ?_|refine df rfl rfl (by omega) ?_|refine ai rfl ?_|refine aa ?_|refine aj ?_|refine ah rfl ?_|refine ae ?_|refine aZ rfl ?_|refine bz rfl rfl ?_|refine az rfl ?_|refine aI ?_|refine aU ?_)
 exact bx rfl (rt rfl) ⟨rfl, hE1⟩
set_option maxHeartbeats 4000000 in
theorem pY {cn cx : Bool} {K KM Kx r c cap s Q : Nat} {w : World} {a : Option Addr} {sh : Nat → SD} {A : Mat} {sx : SD} {X : Nat → Int} (hM : MX cn K w a r c sh A) (hX : RX cx Kx w sx r X) (hr : 1 ≤ r ∧ r ≤ 16) (hc : 1 ≤ c ∧ c ≤ 16) (hA : ∀ l, l < c → ∀ i, i < r → Lb (Zb Q s l) (A i l)) (hQ : 10 ≤ Q) (hKM : Zb Q s (2 * c + 1) ≤ KM) (hK : 20 * (KM + 2) + Kx < 17592186044415) :
  CallsR Tryz.prog 34 #[.slice a r cap, .slice sx.a r sx.cap] w fun v w' => ∃ t : Bool, v = .bool t ∧ (t = true ↔ InL r c A X) ∧ Ex w w' := by
 refine aF (args := [_, _]) Tryz.func34 rfl rfl ?_
 repeat' (first|refine ai rfl ?_|refine aa ?_|refine aj ?_|refine ah rfl ?_|refine ae ?_)
 refine aw (cV hM hr hc hA hQ hKM (by omega)) rfl ?_
 intro v w1 hv
 obtain ⟨H, U, k, p, u, rfl, hC, hF, h0, hO, hE1⟩ := hv.basis hQ hKM
 refine ⟨fun _ _ => trivial, ?_⟩
 have hkc := hF.kc
 obtain ⟨px, dx, hhx, ex, _, hpx, hSx, hEx⟩ := (hX.ext hE1).get (by omega)
 rw [ex]
 repeat' (first|refine aK rfl rfl ?_|refine cN rfl rfl rfl ?_|refine ai rfl ?_|refine aa ?_|refine aj ?_|refine ah rfl ?_|refine ae ?_|refine aZ rfl ?_|refine bz rfl rfl ?_|refine au rfl ?_|refine aE ?_)
 refine pW (E := 43) rfl rfl hSx hpx (by omega) (by omega) (by omega) (fun g7 cap7 h7 w2 hn2 hc7 hh7 => ⟨fun _ _ => trivial, ?_⟩)
 have hL : ∀ {P : Prop}, (P ↔ InL r c H X) → (P ↔ InL r c A X) := fun h => h.trans (hC.inL X)
 have hR2 : RO false (Kx + 0 * (KM + 1)) w2 w1.heap.size g7 cap7 r X := ⟨hn2.lo, hc7, h7, hn2.blk, fun i hi => by rw [hh7 i hi, Nat.zero_mul]; exact ((hEx i hi).weak').ext hn2.ex⟩
 have s1 := hE1.size
 have lo7 := hn2.lo
 have cb : k * (KM + 1) ≤ 16 * (KM + 1) := Nat.mul_le_mul_right _ (by omega)
 repeat' (first|refine ai rfl ?_|refine aa ?_|refine aj ?_|refine ah rfl ?_|refine ae ?_)
 refine ct (ι := Nat → Int) [8, 9, 10, 11, 30, 31, 32, 33, 34, 35, 36, 37, 38, 39, 40, 41, 42, 43, 44, 45, 46, 47, 48, 49, 50, 51, 52, 53, 54, 55, 56, 57, 58, 59, 60, 61, 62, 63, 64, 65, 66, 67, 68, 69, 70, 71, 72, 73, 74, 75, 76, 77, 78, 79, 80] (fun _ => [])
  (fun R w' => w2.grownBy w' (some g7) ∧ RO false (Kx + k * (KM + 1)) w' w1.heap.size g7 cap7 r R ∧ CtK r c k H p X k R) ?_ ?_
 ·refine aA ?_
  refine aY (ι := Nat × (Nat → Int)) [8, 9, 10, 11, 30, 31, 32, 33, 34, 35, 36, 37, 38, 39, 40, 41, 42, 43, 44, 45, 46, 47, 48, 49, 50, 51, 52, 53, 54, 55, 56, 57, 58, 59, 60, 61, 62, 63, 64, 65, 66, 67, 68, 69, 70, 71, 72, 73, 74, 75, 76, 77, 78, 79, 80] (fun t => [(8, .int .i64 (t.1 : Int))])
   (fun t w' => (t.1 ≤ k ∧ w2.grownBy w' (some g7)) ∧ RO false (Kx + t.1 * (KM + 1)) w' w1.heap.size g7 cap7 r t.2 ∧ CtK r c k H p X t.1 t.2) (fun t => k - t.1)
   (0, X) ⟨rfl, trivial⟩ ⟨⟨by simp only; omega, lL (Ex.refl _)⟩, hR2, pX X⟩ ?_
  rintro ⟨c0, R⟩ ξ w5 ⟨⟨hc0, hG5⟩, hR5, hJ⟩
  simp only at hc0 hR5 hJ
  show CW _ _ _ _ (over [(8, .int .i64 (c0 : Int))] _) w5
  rcases Nat.lt_or_ge c0 k with hck | hck
  ·obtain ⟨g, gs, cp, rfl, hB⟩ := hO (by omega)
   have hgl := hB.lt
   have hgsl : ∀ i, i < r → gs i ≠ g7 := fun i hi => by have := (hB.row i hi).lt; omega
   have ng : g ≠ g7 := by omega
   have hM5 := (hB.ext hn2.ex).gbN hn2.blk (bE _ _) hG5 ng hgsl
   have lH : ∀ i j, i < r → j < k → Lb KM (H i j) := fun i j hi hj => hB.mx.lb hi hj
   have cb0 : c0 * (KM + 1) ≤ 16 * (KM + 1) := Nat.mul_le_mul_right _ (by omega)
   have cb1 : (c0 + 1) * (KM + 1) = c0 * (KM + 1) + (KM + 1) := Nat.succ_mul _ _
   obtain ⟨KR, hKR⟩ : ∃ KR, KR = Kx + c0 * (KM + 1) := ⟨_, rfl⟩
   rw [← hKR] at hR5
   have hpr := hF.lt c0 hck
   have hpos := hF.pos c0 hck
   have hE05 : Ex w w5 := (hE1.trans hn2.ex).gb hG5 (fun q e => by cases e; omega)
   repeat' (first|refine kh rfl rfl (show (0 : Int) < ((r : Nat) : Int) by omega) ?_|refine aD (j := 0) (a := some ⟨g, 0, none⟩) rfl rfl ⟨_, _, rfl⟩ (show 0 < r by omega) ?_|refine aV (j := 0) (a := some ⟨g, 0, none⟩) (n := r) (s := fun i => ⟨some ⟨gs i, 0, none⟩, k, cp i⟩) rfl hM5.top.sl (by omega) rfl ?_|refine bu rfl rfl (by omega) ?_|refine ai rfl ?_|refine aa ?_|refine aj ?_|refine ah rfl ?_|refine ae ?_|refine aZ rfl ?_|refine bz rfl rfl ?_|refine az rfl ?_|refine aA ?_|refine aE ?_)
   refine aw (fD hM5.mx ⟨hr.1, by omega⟩ hck) rfl ?_
   rintro v w6 ⟨q, rfl, hq, hz, hnz, hE6⟩
   refine ⟨fun _ _ => trivial, ?_⟩
   obtain ⟨t1, t2⟩ := mF hF (show c0 < c by omega) hq hz hnz
   have hqr := t1.2 hck
   have hqp := t2 hqr
   subst hqp
   have hM6 := hM5.ext hE6
   have hR6 := hR5.ext hE6
   obtain ⟨hhr, hb8, hE8⟩ := hR6.ex
   obtain ⟨hhp, hbp, hcp, hEp⟩ := hM6.get hpr
   repeat' (first|refine ai rfl ?_|refine aa ?_|refine aj ?_|refine ae ?_)
   refine ct (ι := Nat × IH) [10, 46, 47, 48, 49, 50, 51, 52, 53, 54, 55, 56, 57] (fun t => [(10, .pointer (some ⟨t.1, 0, none⟩))])
    (fun t w' => Ex w6 w' ∧ w6.heap.size ≤ t.1 ∧ Blk w' t.1 43 t.2.cells ∧ Ent true KR w' t.2.val (R (p c0) / H (p c0) c0)) ?_ ?_
   ·have hEx : Ex w6 w6.drew := (Ex.refl _).drew
    refine dW (fun w' => Ex w6 w') bA hEx ?_
    refine bC (fuel := 3) (by kernel_rfl) (by kernel_rfl) [0, 1, 2, 3, 4, 5, 6, 7, 8, 9, 10] _ _ (by kernel_rfl) ?_
    repeat' (first|refine aD (j := p c0) (a := some ⟨g, 0, none⟩) rfl rfl ⟨_, _, rfl⟩ (show p c0 < r by omega) ?_|refine aV (j := p c0) (a := some ⟨g, 0, none⟩) (n := r) (s := fun i => ⟨some ⟨gs i, 0, none⟩, k, cp i⟩) rfl (fun _ h => (hM6.ext h).top.sl) (by omega) rfl ?_|refine aT (j := c0) (a := some ⟨gs (p c0), 0, none⟩) rfl rfl ⟨_, _, rfl⟩ (by omega) ?_|refine bo (j := c0) (n := cp (p c0)) (a := some ⟨gs (p c0), 0, none⟩) rfl (fun _ h => (hbp.ext h).sl) ⟨_, _, rfl⟩ (by omega) ?_|refine aT (j := p c0) (a := some ⟨g7, 0, none⟩) rfl rfl ⟨_, _, rfl⟩ (by omega) ?_|refine bo (j := p c0) (n := cap7) (a := some ⟨g7, 0, none⟩) rfl (fun _ h => (hb8.ext h).sl) ⟨_, _, rfl⟩ (by omega) ?_|refine ai rfl ?_|refine ae ?_)
    refine aC (fuel := 2) (rs := [11, 12]) (by kernel_rfl) (by kernel_rfl) rfl ?_
    simp only [List.forall_mem_cons, List.not_mem_nil, false_implies, implies_true, and_true]
    refine ⟨?_, ?_⟩
    ·refine aw (d7 ((hE8 (p c0) hpr).ext hEx).k ((hEp c0 hck).ext hEx).k (by omega) (by omega)) rfl ?_
     rintro v w7 ⟨hI7, hE7⟩
     refine ⟨fun _ h => h.trans hE7, ?_⟩
     obtain ⟨xq, rfl⟩ := hI7.ih
     have eq : Ent true KR w7 xq.val (R (p c0) / H (p c0) c0) := Ent.of hI7 ((hE8 (p c0) hpr).lb.div _)
     replace hEx := hEx.trans hE7
     try replace hb10 := hb10.ext hE7
     refine ae ?_
     refine aC (fuel := 1) (rs := [12]) (by kernel_rfl) (by kernel_rfl) rfl ?_
     rw [List.forall_mem_singleton]
     refine aG (fun g10 w10 hn10 => ⟨fun _ h => h.trans hn10.ex, ?_⟩)
     have hb10 : Blk w10 g10 43 (intL false none 0 0) := hn10.blk
     have lo10 : w6.heap.size ≤ g10 := Nat.le_trans hEx.size hn10.lo
     replace hEx := hEx.trans hn10.ex
     try replace eq := eq.ext hn10.ex
     refine ae ?_
     refine aC (fuel := 0) (rs := [13]) (by kernel_rfl) (by kernel_rfl) rfl ?_
     rw [List.forall_mem_singleton]
     refine ax (n := 2) (vs := xq.cells) rfl rfl rfl rfl hb10 rfl (fun w11 hc11 hb11 => ⟨fun _ h => h.chg hc11 lo10, ?_⟩)
     refine ae ?_
     refine bp (by kernel_rfl) ?_
     refine aa ?_
     exact ⟨⟨(_, xq), ⟨hEx.chg hc11 lo10, lo10, hb11, eq.gbN hb10 (aB _ _ _ _) (bw hc11)⟩, rfl, trivial⟩, (by (repeat (first|exact aM _ _|refine ay rfl ?_|refine av rfl ?_|refine ak rfl ?_|refine ao rfl ?_)))⟩
    ·refine aG (fun g10 w10 hn10 => ⟨fun _ h => h.trans hn10.ex, ?_⟩)
     have hb10 : Blk w10 g10 43 (intL false none 0 0) := hn10.blk
     have lo10 : w6.heap.size ≤ g10 := Nat.le_trans hEx.size hn10.lo
     replace hEx := hEx.trans hn10.ex
     try replace eq := eq.ext hn10.ex
     refine ae ?_
     refine aC (fuel := 1) (rs := [11]) (by kernel_rfl) (by kernel_rfl) rfl ?_
     rw [List.forall_mem_singleton]
     refine aw (d7 ((hE8 (p c0) hpr).ext hEx).k ((hEp c0 hck).ext hEx).k (by omega) (by omega)) rfl ?_
     rintro v w7 ⟨hI7, hE7⟩
     refine ⟨fun _ h => h.trans hE7, ?_⟩
     obtain ⟨xq, rfl⟩ := hI7.ih
     have eq : Ent true KR w7 xq.val (R (p c0) / H (p c0) c0) := Ent.of hI7 ((hE8 (p c0) hpr).lb.div _)
     replace hEx := hEx.trans hE7
     try replace hb10 := hb10.ext hE7
     refine ae ?_
     refine aC (fuel := 0) (rs := [13]) (by kernel_rfl) (by kernel_rfl) rfl ?_
     rw [List.forall_mem_singleton]
     refine ax (n := 2) (vs := xq.cells) rfl rfl rfl rfl hb10 rfl (fun w11 hc11 hb11 => ⟨fun _ h => h.chg hc11 lo10, ?_⟩)
     refine ae ?_
     refine bp (by kernel_rfl) ?_
     refine aa ?_
     exact ⟨⟨(_, xq), ⟨hEx.chg hc11 lo10, lo10, hb11, eq.gbN hb10 (aB _ _ _ _) (bw hc11)⟩, rfl, trivial⟩, (by (repeat (first|exact aM _ _|refine ay rfl ?_|refine av rfl ?_|refine ak rfl ?_|refine ao rfl ?_)))⟩
   ·rintro ⟨g10, xq⟩ ξ2 w7 ⟨hE7, lo10, hb10, eq⟩
    simp only at lo10 hb10 eq
    show CW _ _ _ _ (over [(10, .pointer (some ⟨g10, 0, none⟩))] _) w7
    have hM7 := hM6.ext hE7
    have hR7 := hR6.ext hE7
    have hb87 := hb8.ext hE7
    have hG7 : w2.grownBy w7 (some g7) := bJ hG5 (lL (hE6.trans hE7)) (fun k e => .inl e)
    have lg7 := hR6.lt
    repeat' (first|refine ai rfl ?_|refine aa ?_|refine aj ?_|refine ah rfl ?_|refine ae ?_|refine aZ rfl ?_|refine aA ?_)
    refine aY (ι := Nat) [11, 60, 61, 62, 63, 64, 65, 66, 67, 68, 69, 70, 71, 72, 73, 74, 75, 76, 77, 78, 79, 80] (fun i => [(60, .int .i64 (i : Int))])
     (fun i w' => (i ≤ r ∧ w7.grownBy w' (some g7)) ∧ RO false (KR + (KM + 1)) w' w1.heap.size g7 cap7 r (fun j => if j < i then R j - R (p c0) / H (p c0) c0 * H j c0 else R j)) (fun i => r - i)
     0 ⟨rfl, trivial⟩ ⟨⟨by omega, lL (Ex.refl _)⟩, (hR7.up (by omega)).congr fun j _ => if_neg (by omega)⟩ ?_
    clear hR7
    rintro i ξ3 w8 ⟨⟨hi, hG8⟩, hR8⟩
    show CW _ _ _ _ (over [(60, .int .i64 (i : Int))] _) w8
    have hM8 := hM7.gbN hb87 (bE _ _) hG8 ng hgsl
    rcases Nat.lt_or_ge i r with hir | hir
    ·obtain ⟨hhi, hbi, hci, hEi⟩ := hM8.get hir
     obtain ⟨hhr8, hb88, hE88⟩ := hR8.ex
     have ei := hE88 i hir
     rw [if_neg (by omega)] at ei
     have hb108 := hb10.gb hG8 (fun e => by cases e; omega)
     have eq8 := eq.gbN hb87 (bE _ _) hG8
     have lR : Lb KR (R i) := (hE8 i hir).lb
     repeat' (first|refine bu rfl rfl (by omega) ?_|refine aa ?_|refine aj ?_|refine ah rfl ?_|refine ae ?_|refine az rfl ?_|refine aE ?_)
     refine aA ?_
     repeat' (first|refine ai rfl ?_|refine aa ?_|refine aj ?_|refine ah rfl ?_|refine ae ?_)
     refine bi (late := [17]) (plan := [(0, none), (1, none), (2, none), (3, none), (4, none), (5, none), (6, none), (7, none), (8, none), (9, none), (10, none), (11, none), (12, none), (13, none), (14, some true), (15, some true), (16, none), (17, some false)]) (fun w' => Ex w8 w') bA (by kernel_rfl) (Ex.refl w8).drew ?_
     have hEd := (Ex.refl w8).drew
     repeat' (first|refine aT (j := i) (a := some ⟨g7, 0, none⟩) rfl rfl ⟨_, _, rfl⟩ (by omega) ?_|refine bo (j := i) (n := cap7) (a := some ⟨g7, 0, none⟩) rfl (fun _ h => (hb88.ext h).sl) ⟨_, _, rfl⟩ (by omega) ?_|refine aR (g := g10) rfl (fun _ h => hb108.ext h) rfl ?_|refine aD (j := i) (a := some ⟨g, 0, none⟩) rfl rfl ⟨_, _, rfl⟩ (show i < r by omega) ?_|refine aV (j := i) (a := some ⟨g, 0, none⟩) (n := r) (s := fun i => ⟨some ⟨gs i, 0, none⟩, k, cp i⟩) rfl (fun _ h => (hM8.ext h).top.sl) (by omega) rfl ?_|refine aT (j := c0) (a := some ⟨gs i, 0, none⟩) rfl rfl ⟨_, _, rfl⟩ (by omega) ?_|refine bo (j := c0) (n := cp i) (a := some ⟨gs i, 0, none⟩) rfl (fun _ h => (hbi.ext h).sl) ⟨_, _, rfl⟩ (by omega) ?_|refine ai rfl ?_)
     refine aw (dG (eq8.ext hEd).k ((hEi c0 hck).ext hEd).k (by omega)) rfl ?_
     rintro v w9 ⟨hI9, hE9⟩
     refine ⟨fun _ h => h.trans hE9, ?_⟩
     have lq : Lb (KR + KM) (R (p c0) / H (p c0) c0 * H i c0) := eq8.lb.mul (lH i c0 hir hck)
     have hE89 := hEd.trans hE9
     skip
     refine aw (ew (ei.ext hE89).k (hI9.k lq) (by omega) (by omega)) rfl ?_
     rintro v w10 ⟨hI10, hE10⟩
     refine ⟨fun _ h => h.trans hE10, ?_⟩
     obtain ⟨u, rfl⟩ := hI10.ih
     have hE810 := hE89.trans hE10
     have lu : Lb (KR + (KM + 1)) (R i - R (p c0) / H (p c0) c0 * H i c0) := ((lR.mono (show KR ≤ KR + KM by omega)).sub lq).mono (by omega)
     repeat' (first|refine aT (j := i) (a := some ⟨g7, 0, none⟩) rfl rfl ⟨_, _, rfl⟩ (by omega) ?_)
     refine bR (j := i) (n := cap7) (u := u) rfl rfl (hb88.ext hE810) (by omega) (fun w11 hc11 hb11 => ⟨fun h => (nomatch h), ?_⟩)
     repeat' (first|refine ai rfl ?_|refine aa ?_|refine ah rfl ?_|refine ae ?_|refine bc rfl rfl (by omega) (by omega) ?_|refine aL ?_)
     refine ⟨⟨i + 1, ⟨⟨hir, bJ hG8 (bJ (lL hE810) (bw hc11) (fun k e => .inl e)) (fun k e => .inl e)⟩, (RO.put hR8.low hR8.le (hb88.ext hE810) (fun j hj => (hE88 j hj).ext hE810) (Ent.of hI10 lu) hc11 hb11).congr fun j _ => ?_⟩, by omega, rfl, trivial⟩, (by (repeat (first|exact aH _ _ _|refine ay rfl ?_|refine av rfl ?_|refine ak rfl ?_|refine ao rfl ?_)))⟩
     by_cases e : j = i
     ·subst e; rw [aS, if_pos (Nat.lt_succ_self _)]
     ·rw [aX _ _ e]
      by_cases h : j < i
      ·rw [if_pos h, if_pos (by omega)]
      ·rw [if_neg h, if_neg (by omega)]
    ·have eir : r = i := by omega
     subst eir
     repeat' (first|refine bj rfl rfl (by omega) ?_|refine ai rfl ?_|refine aa ?_|refine aj ?_|refine ah rfl ?_|refine ae ?_|refine bc rfl rfl (by omega) (by omega) ?_|refine au rfl ?_|refine aP ?_|refine aJ ?_|refine aQ ?_|refine aL ?_)
     refine ⟨⟨(c0 + 1, fun j => R j - R (p c0) / H (p c0) c0 * H j c0), ⟨⟨hck, bJ hG7 hG8 (fun k e => .inl e)⟩, ?_, hJ.step hF hck fun j _ => rfl⟩, by simp only; omega, rfl, trivial⟩, (by (repeat (first|exact aH _ _ _|refine ay rfl ?_|refine av rfl ?_|refine ak rfl ?_|refine ao rfl ?_)))⟩
     simp only
     rw [cb1, ← Nat.add_assoc, ← hKR]
     exact hR8.congr fun j hj => by rw [if_pos hj]
  ·have eck : k = c0 := by omega
   subst eck
   rcases Nat.eq_zero_or_pos k with hk | hk
   ·obtain rfl := h0 hk
    repeat' (first|refine gI rfl rfl (by decide) ?_|refine ai rfl ?_|refine aa ?_|refine aj ?_|refine ah rfl ?_|refine ae ?_|refine aZ rfl ?_|refine bK rfl rfl ?_|refine au rfl ?_|refine aP ?_|refine aJ ?_|refine aQ ?_)
    exact ⟨⟨R, ⟨hG5, hR5, hJ⟩, trivial⟩, (by (repeat (first|exact aM _ _|refine ay rfl ?_|refine av rfl ?_|refine ak rfl ?_|refine ao rfl ?_)))⟩
   ·obtain ⟨g, gs, cp, rfl, hB⟩ := hO hk
    have hgl := hB.lt
    have hM5 := (hB.ext hn2.ex).gbN hn2.blk (bE _ _) hG5 (by omega) (fun i hi => by have := (hB.row i hi).lt; omega)
    repeat' (first|refine kh rfl rfl (show (0 : Int) < ((r : Nat) : Int) by omega) ?_|refine aD (j := 0) (a := some ⟨g, 0, none⟩) rfl rfl ⟨_, _, rfl⟩ (show 0 < r by omega) ?_|refine aV (j := 0) (a := some ⟨g, 0, none⟩) (n := r) (s := fun i => ⟨some ⟨gs i, 0, none⟩, k, cp i⟩) rfl hM5.top.sl (by omega) rfl ?_|refine bj rfl rfl (by omega) ?_|refine ai rfl ?_|refine aa ?_|refine aj ?_|refine ah rfl ?_|refine ae ?_|refine aZ rfl ?_|refine bz rfl rfl ?_|refine au rfl ?_|refine aP ?_|refine aJ ?_|refine aQ ?_)
    exact ⟨⟨R, ⟨hG5, hR5, hJ⟩, trivial⟩, (by (repeat (first|exact aM _ _|refine ay rfl ?_|refine av rfl ?_|refine ak rfl ?_|refine ao rfl ?_)))⟩
 ·rintro R ξ w5 ⟨hG5, hR5, hJ⟩
  show CW _ _ _ _ (over [] _) w5
  have hE05 : Ex w w5 := (hE1.trans hn2.ex).gb hG5 (fun q e => by cases e; omega)
  obtain ⟨hhr, hb8, hE8⟩ := hR5.ex
  repeat' (first|refine ai rfl ?_|refine aa ?_|refine aj ?_|refine ah rfl ?_|refine ae ?_|refine aZ rfl ?_|refine aA ?_)
  refine aY (ι := Nat) [4, 13, 83, 84, 85, 86, 87, 88, 89, 90] (fun i => [(83, .int .i64 (i : Int))])
   (fun i w' => i ≤ r ∧ Ex w5 w' ∧ ∀ j, j < i → R j = 0) (fun i => r - i)
   0 ⟨rfl, trivial⟩ ⟨by omega, Ex.refl _, fun j h => by omega⟩ ?_
  rintro i ξ2 w6 ⟨hi, hE6, hz⟩
  show CW _ _ _ _ (over [(83, .int .i64 (i : Int))] _) w6
  rcases Nat.lt_or_ge i r with hir | hir
  ·repeat' (first|refine bu rfl rfl (by omega) ?_|refine aT (j := i) (a := some ⟨g7, 0, none⟩) rfl rfl ⟨_, _, rfl⟩ (by omega) ?_|refine bo (j := i) (n := cap7) (a := some ⟨g7, 0, none⟩) rfl (hb8.ext hE6).sl ⟨_, _, rfl⟩ (by omega) ?_|refine aa ?_|refine aj ?_|refine ah rfl ?_|refine ae ?_|refine az rfl ?_|refine aA ?_|refine aE ?_)
   refine aG (fun g19 w7 hn7 => ⟨fun _ _ => trivial, ?_⟩)
   have hb7 : Blk w7 g19 43 (intL false none 0 0) := hn7.blk
   refine ax (n := 2) (vs := (hhr i).cells) rfl rfl rfl rfl hb7 rfl (fun w8 hc8 hb8' => ⟨fun _ _ => trivial, ?_⟩)
   have hE68 : Ex w6 w8 := hn7.ex.chg hc8 hn7.lo
   repeat' (first|refine aR (g := g19) rfl hb8' rfl ?_|refine aa ?_|refine aj ?_|refine ah rfl ?_|refine ae ?_)
   refine aw (cj (((hE8 i hir).ext hE6).ext hE68).k) rfl ?_
   rintro v w9 ⟨rfl, hE9⟩
   refine ⟨fun _ _ => trivial, ?_⟩
   have hE69 := hE68.trans hE9
   by_cases h : R i = 0
   ·repeat' (first|(refine cN rfl rfl (by rw [h]; rfl) ?_)|refine ai rfl ?_|refine aa ?_|refine ah rfl ?_|refine ae ?_|refine bc rfl rfl (by omega) (by omega) ?_|refine au rfl ?_|refine aL ?_|refine aE ?_)
    refine ⟨⟨i + 1, ⟨hir, hE6.trans hE69, fun j hj => ?_⟩, by omega, rfl, trivial⟩, (by (repeat (first|exact aH _ _ _|refine ay rfl ?_|refine av rfl ?_|refine ak rfl ?_|refine ao rfl ?_)))⟩
    by_cases e : j = i
    ·subst e; exact h
    ·exact hz j (by omega)
   ·repeat' (first|refine df rfl rfl (fun e => h (Int.sign_eq_zero_iff_zero.1 e)) ?_|refine ai rfl ?_|refine aa ?_|refine aj ?_|refine ah rfl ?_|refine ae ?_|refine az rfl ?_|refine aI ?_|refine aU ?_|refine bQ ?_)
    exact bx rfl (rt rfl) ⟨false, rfl, hL ⟨fun h => (nomatch h), fun hv => absurd ((hJ.done hF).1 hv i hir) h⟩, (hE05.trans hE6).trans hE69⟩
  ·have eir : r = i := by omega
   subst eir
   repeat' (first|refine bj rfl rfl (by omega) ?_|refine ai rfl ?_|refine aa ?_|refine aj ?_|refine ah rfl ?_|refine ae ?_|refine au rfl ?_|refine aP ?_|refine aJ ?_|refine aQ ?_|refine aI ?_)
   exact bx rfl (rt rfl) ⟨true, rfl, hL ⟨fun _ => (hJ.done hF).2 hz, fun _ => rfl⟩, hE05.trans hE6⟩
end Go.Proofs.YtiejljicpinheaaGreat
namespace Go.Proofs.YtiejljicpinheaaGreat
open Go.W Go.LM Go.LA Go.PM
theorem tV {rows cols : Int} {L : List Int} {la : Option Addr} {most : Nat} {w : World} (hL : Sl w la (int8L L)) (hI : I8 L) (h1 : 0 ≤ rows ∧ rows ≤ 255) (h2 : 0 ≤ cols ∧ cols ≤ 255) (hm : 1 ≤ most ∧ most ≤ 16) (lc : Nat) :
  ∃ (r c : Nat) (A : Mat), (1 ≤ r ∧ r ≤ most) ∧ (1 ≤ c ∧ c ≤ most) ∧ ∀ w', Ex w w' → CallsR Tryz.prog 13 #[.agg (gridL rows cols la L.length lc).toArray, .int .i64 (most : Int)] w' (RetMO 2 w' r c A) :=
 ⟨gd rows most, gd cols most, gridF L _, iA hm.1, iA hm.1, fun _w' e => gT (hL.ext e) hI h1 h2 hm⟩
end Go.Proofs.YtiejljicpinheaaGreat
namespace Go.W
open Go.ChangeShapes Go.WideShapes Go.ChangeAt Go.RowKit
section
variable {H : Type} {enc : TypeId × Value → H} {P : Program} {W W' : World}
theorem uJ {t e : TypeId} {k : IntKind} {v : Value} {d : DataW H} {ps : List MemPlace} {r : Reach} {b0 : Nat} (ht : P.underlying t = some (.slice e)) (he : P.underlying e = some (.int k)) (hc : P.cellsOf e = 1)
  (hval : Value.okWide P W r b0 t v) (h : DataW.Trod enc P W 0 (fun _ => true) true t v d ps) :
  ∃ (a : Option Addr) (xs : List Int) (c : Nat), v = .slice a xs.length c ∧ Sl W a (xs.map (Value.int k)) ∧ (∀ x ∈ xs, (Lit.int k x).wf = true) ∧ xs.length ≤ c ∧ c ≤ 9223372036854775807 := by
 obtain ⟨a0, len, cap, rfl⟩ := okWide_slice ht hval
 obtain ⟨fuel, hf⟩ := h
 rcases open_ints ht he hc hf with ⟨hcs, hx⟩ | ⟨a, len', cap', zs, hcs, _, hl, hm, hz, hx, hcell, hwz⟩
 ·simp [Value.cells] at hcs
  obtain ⟨rfl, rfl, rfl⟩ := hcs
  exact ⟨none, [], 0, rfl, Sl.nil _ _, by simp, by simp, by decide⟩
 ·simp [Value.cells] at hcs
  obtain ⟨rfl, rfl, rfl⟩ := hcs
  simp only [if_true] at hz
  have hlen : (zs.take len).length = len := by simp; omega
  refine ⟨some a, zs.take len, cap, by rw [hlen], ⟨fun hne => ?_, fun j hj => ?_⟩, fun x hx => hwz x (List.mem_of_mem_take hx), by rw [hlen]; exact hl, by unfold maxLen at hm; omega⟩
  ·have h0 : 0 < zs.length := by
    rcases Nat.eq_zero_or_pos zs.length with h | h
    ·exact absurd (by rw [List.eq_nil_of_length_eq_zero h]; simp) hne
    ·exact h
   obtain ⟨b, off, spot⟩ := a
   have hspot : spot = none := by simpa [Addr.add] using World.cell?_spot (hcell 0 h0)
   subst hspot
   exact ⟨b, off, rfl⟩
  ·simp only [List.length_map, hlen] at hj
   have h0 : j < zs.length := by omega
   obtain ⟨b, off, spot⟩ := a
   have hspot : spot = none := by simpa [Addr.add] using World.cell?_spot (hcell 0 (by omega))
   subst hspot
   have := hcell j h0
   have e : (⟨b, off, none⟩ : Addr).add j = ⟨b, off + j, none⟩ := by unfold Addr.add; split <;> simp_all
   rw [e] at this
   simp only [elt]
   rw [this]
   simp [List.getD_eq_getElem?_getD, h0, hj]
end
end Go.W
namespace Go.Proofs.YtiejljicpinheaaGreat
end Go.Proofs.YtiejljicpinheaaGreat
namespace Go.Proofs.YtiejljicpinheaaGreat
open Go.W Go.ChangeShapes Go.WideShapes Go.ChangeAt Go.RowKit Go.LM
instance inhSD : Inhabited SD := ⟨sd0⟩
instance inhIH : Inhabited IH := ⟨ih0⟩
structure RawI (W : World) (x : IH) (L : List Nat) : Prop where
 len : x.sd.len = L.length
 cap : L.length ≤ x.sd.cap
 max : x.sd.len ≤ 140737488355328
 sl : Sl W x.sd.a (limbsL L)
 lim : Lim L
structure RawR (W : World) (s : SD) (h : Nat → IH) (L : Nat → List Nat) : Prop where
 cap : s.len ≤ s.cap
 max : s.len ≤ 140737488355328
 sl : Sl W s.a (rowC s.len h)
 ent : ∀ j, j < s.len → RawI W (h j) (L j)
structure RawM (W : World) (a : Option Addr) (n : Nat) (s : Nat → SD) (h : Nat → Nat → IH) (L : Nat → Nat → List Nat) : Prop where
 max : n ≤ 140737488355328
 top : Sl W a (topC n s)
 row : ∀ i, i < n → RawR W (s i) (h i) (L i)
theorem RawI.ext {W W' : World} {x : IH} {L : List Nat} (h : RawI W x L) (e : Ex W W') : RawI W' x L := ⟨h.len, h.cap, h.max, h.sl.ext e, h.lim⟩
theorem RawR.ext {W W' : World} {s : SD} {h : Nat → IH} {L : Nat → List Nat} (H : RawR W s h L) (e : Ex W W') : RawR W' s h L := ⟨H.cap, H.max, H.sl.ext e, fun j hj => (H.ent j hj).ext e⟩
theorem RawM.ext {W W' : World} {a : Option Addr} {n : Nat} {s : Nat → SD} {h : Nat → Nat → IH} {L : Nat → Nat → List Nat} (H : RawM W a n s h L) (e : Ex W W') : RawM W' a n s h L := ⟨H.max, H.top.ext e, fun i hi => (H.row i hi).ext e⟩
theorem gU {H : Type} {P : Program} {e : TypeId} : ∀ {l : List (DataW H)} {d : DataW H}, d ∈ l → ∀ n ∈ d.weights P e, n ∈ DataW.weightsAll P e l
 | [], _, h => by simp at h
 | x :: l, d, h => fun n hn => by
  simp only [DataW.weightsAll, List.mem_append]
  rcases List.mem_cons.1 h with rfl | h
  ·exact .inl hn
  ·exact .inr (gU h n hn)
theorem fJ {H : Type} {P : Program} {t e : TypeId} {elems spare : List (DataW H)} (ht : P.underlying t = some (.slice e)) (hb : 1 ≤ P.bytesOf e) (h : ∀ n ∈ (DataW.slice elems spare).weights P t, n ≤ reachBytes) :
  elems.length ≤ 140737488355328 ∧ ∀ d ∈ elems, ∀ n ∈ d.weights P e, n ≤ reachBytes := by
 have hw : (DataW.slice elems spare).weights P t = (elems.length + spare.length) * P.bytesOf e :: (DataW.weightsAll P e elems ++ DataW.weightsAll P e spare) := by simp [DataW.weights, ht]
 rw [hw] at h
 constructor
 ·have h1 := h _ List.mem_cons_self
  have h2 : elems.length ≤ (elems.length + spare.length) * P.bytesOf e := Nat.le_trans (Nat.le_add_right _ _) (Nat.le_mul_of_pos_right _ hb)
  have h3 : reachBytes = 140737488351232 := by decide
  omega
 ·intro d hd n hn
  exact h n (List.mem_cons_of_mem _ (List.mem_append_left _ (gU hd n hn)))
theorem mH {H : Type} {P : Program} {t : TypeId} {f0 f1 : Field} {d0 d1 : DataW H} (ht : P.underlying t = some (.struct #[f0, f1])) (h : ∀ n ∈ (DataW.agg [d0, d1]).weights P t, n ≤ reachBytes) : ∀ n ∈ d1.weights P f1.type, n ≤ reachBytes := by
 have hw : (DataW.agg [d0, d1]).weights P t = DataW.weightsEach P [f0.type, f1.type] [d0, d1] := by simp [DataW.weights, ht]
 rw [hw] at h
 intro n hn
 refine h n ?_
 simp only [DataW.weightsEach, List.mem_append]
 exact .inr (.inl hn)
section
variable {H : Type} {enc : TypeId × Value → H} {P : Program} {W W' : World}
theorem sQ (n : Nat) (h : Nat → IH) : rowC n h = (List.range (n * 2)).map fun c => if c % 2 = 0 then .bool (h (c / 2)).neg else .slice (h (c / 2)).sd.a (h (c / 2)).sd.len (h (c / 2)).sd.cap := by
 induction n with
 | zero => rfl
 | succ n ih =>
  rw [cY, ih, show (n + 1) * 2 = n * 2 + 1 + 1 by omega, List.range_succ, List.range_succ]
  simp [IH.cells, show n * 2 / 2 = n by omega, show (n * 2 + 1) / 2 = n by omega, show (n * 2 + 1) % 2 = 1 by omega]
theorem sR {a : Option Addr} {n : Nat} {h : Nat → IH} (hn : a = none → n = 0) (hc : ∀ a', a = some a' → ∀ i, i < n → W.cell? (a'.add (i * 2)) = some (.bool (h i).neg) ∧ W.cell? (a'.add (i * 2 + 1)) = some (.slice (h i).sd.a (h i).sd.len (h i).sd.cap)) :
  Sl W a (rowC n h) := by
 rw [sQ]
 refine mI (fun e => by rw [hn e]) fun a' e c hc' => ?_
 have := hc a' e (c / 2) (by omega)
 by_cases h2 : c % 2 = 0
 ·rw [if_pos h2]; rw [show c / 2 * 2 = c by omega] at this; exact this.1
 ·rw [if_neg h2]; rw [show c / 2 * 2 + 1 = c by omega] at this; exact this.2
theorem oE {t e : TypeId} {fuel : Nat} {v : Value} {x : DataW H × List MemPlace} (ht : P.underlying t = some (.slice e)) (he : P.underlying e = some (.int .u32)) (hc : P.cellsOf e = 1) (hb : 1 ≤ P.bytesOf e) (hw0 : ∀ n ∈ x.1.weights P t, n ≤ reachBytes)
  (hf : DataW.trod enc P W 0 (fun _ => true) true fuel t [v] = some x) : ∃ (s : SD) (L : List Nat), v = .slice s.a s.len s.cap ∧ ∀ neg, RawI W ⟨neg, s⟩ L := by
 rcases open_ints ht he hc hf with ⟨hcs, hx⟩ | ⟨a, len, cap, zs, hcs, _, hl, hm, hz, hx, hcell, hwz⟩
 ·simp only [List.cons.injEq, and_true] at hcs
  subst hcs
  exact ⟨sd0, [], rfl, fun neg => ⟨rfl, Nat.le_refl _, Nat.zero_le _, Sl.nil _ _, fun d hd => by simp at hd⟩⟩
 ·simp only [List.cons.injEq, and_true] at hcs
  subst hcs
  simp only [if_true] at hz
  unfold maxLen at hm
  subst hx
  have hwl := (fJ ht hb hw0).1
  have hwl2 : len ≤ 140737488355328 := by
   have : (lits .u32 (zs.take len) : List (DataW H)).length = len := by simp [lits]; omega
   omega
  have hw : ∀ c, c < cap → 0 ≤ zs.getD c 0 ∧ zs.getD c 0 < 4294967296 := fun c hc => by
   have h1 := hwz (zs.getD c 0) (by rw [List.getD_eq_getElem?_getD, List.getElem?_eq_getElem (show c < zs.length by omega)]; exact List.getElem_mem _)
   have h2 : 0 ≤ zs.getD c 0 ∧ zs.getD c 0 ≤ 4294967295 := by simpa [Lit.wf, IntKind.min, IntKind.max, IntKind.signed, IntKind.bits] using h1
   omega
  refine ⟨⟨some a, len, cap⟩, (List.range len).map fun c => (zs.getD c 0).toNat, rfl, fun neg => ⟨by simp, by simpa using hl, hwl2, ?_, fun d hd => ?_⟩⟩
  ·rw [limbsL, List.map_map]
   refine mI (fun e => nomatch e) fun a' e c hc' => ?_
   cases e
   have h1 := hw c (by omega)
   rw [hcell c (by omega)]
   show some (Value.int .u32 (zs.getD c 0)) = some (Value.int .u32 (((zs.getD c 0).toNat : Nat) : Int))
   rw [Int.toNat_of_nonneg h1.1]
  ·rw [List.mem_map] at hd
   obtain ⟨c, hc', rfl⟩ := hd
   have h1 := hw c (by have := List.mem_range.1 hc'; omega)
   omega
theorem jF {t e : TypeId} {f0 f1 : Field} {q : TypeId} {fuel : Nat} {v : Value} {x : DataW H × List MemPlace} (ht : P.underlying t = some (.slice e)) (he : P.underlying e = some (.struct #[f0, f1]))
  (ce : P.cellsOf e = 2) (o0 : f0.offset = 0) (o1 : f1.offset = 1) (c0 : P.cellsOf f0.type = 1) (c1 : P.cellsOf f1.type = 1) (t0 : P.underlying f0.type = some .bool) (t1 : P.underlying f1.type = some (.slice q)) (tq : P.underlying q = some (.int .u32)) (cq : P.cellsOf q = 1) (be : 1 ≤ P.bytesOf e) (bq : 1 ≤ P.bytesOf q) (hw0 : ∀ n ∈ x.1.weights P t, n ≤ reachBytes)
  (hf : DataW.trod enc P W 0 (fun _ => true) true fuel t [v] = some x) : ∃ (s : SD) (h : Nat → IH) (L : Nat → List Nat), v = .slice s.a s.len s.cap ∧ RawR W s h L := by
 rcases Go.Deep.open_slice_pairs ht he ce o0 o1 c0 c1 hf with ⟨hcs, hx⟩ | ⟨a, len, cap, m, n, V0, V1, D0, D1, P0, P1, hcs, _, hl, hm, hmm, hx, hcell⟩
 ·simp only [List.cons.injEq, and_true] at hcs
  subst hcs
  exact ⟨sd0, fun _ => ih0, fun _ => [], rfl, ⟨Nat.le_refl _, by decide, Sl.nil _ _, fun j hj => absurd hj (Nat.not_lt_zero _)⟩⟩
 ·simp only [List.cons.injEq, and_true] at hcs
  subst hcs
  simp only [if_true] at hmm
  unfold maxLen at hm
  subst hx
  obtain ⟨hwl, hwe⟩ := fJ ht be hw0
  simp only [List.length_map, List.length_range] at hwl
  have each : ∀ i, i < len → ∃ q : IH × List Nat, V0 i = .bool q.1.neg ∧ V1 i = .slice q.1.sd.a q.1.sd.len q.1.sd.cap ∧ RawI W q.1 q.2 := fun i hi => by
   obtain ⟨_, _, h0, h1⟩ := hcell i (by omega)
   obtain ⟨b, hb, _⟩ := DataW.trod_bool t0 h0
   obtain ⟨s, L, hs, hL⟩ := oE t1 tq cq bq (mH he (hwe _ (List.mem_map.2 ⟨i, List.mem_range.2 hi, rfl⟩))) h1
   simp only [List.cons.injEq, and_true] at hb
   exact ⟨(⟨b, s⟩, L), hb, hs, hL b⟩
  obtain ⟨q, hq⟩ := Go.Deep.choose_lt each
  refine ⟨⟨some a, len, cap⟩, fun i => (q i).1, fun i => (q i).2, rfl, ⟨hl, hwl, sR (fun e => nomatch e) fun a' e i hi => ?_, fun j hj => (hq j hj).2.2⟩⟩
  cases e
  obtain ⟨h0, h1, _⟩ := hcell i (by show i < m; have : i < len := hi; omega)
  obtain ⟨e0, e1, _⟩ := hq i hi
  rw [h0, h1, e0, e1]
  exact ⟨rfl, rfl⟩
theorem mJ {u t e : TypeId} {f0 f1 : Field} {q : TypeId} {fuel : Nat} {v : Value} {x : DataW H × List MemPlace} (hu : P.underlying u = some (.slice t)) (cu : P.cellsOf t = 1) (ht : P.underlying t = some (.slice e)) (he : P.underlying e = some (.struct #[f0, f1]))
  (ce : P.cellsOf e = 2) (o0 : f0.offset = 0) (o1 : f1.offset = 1) (c0 : P.cellsOf f0.type = 1) (c1 : P.cellsOf f1.type = 1) (t0 : P.underlying f0.type = some .bool) (t1 : P.underlying f1.type = some (.slice q)) (tq : P.underlying q = some (.int .u32)) (cq : P.cellsOf q = 1) (bt : 1 ≤ P.bytesOf t) (be : 1 ≤ P.bytesOf e) (bq : 1 ≤ P.bytesOf q) (hw0 : ∀ n ∈ x.1.weights P u, n ≤ reachBytes)
  (hf : DataW.trod enc P W 0 (fun _ => true) true fuel u [v] = some x) : ∃ (a : Option Addr) (n c : Nat) (s : Nat → SD) (h : Nat → Nat → IH) (L : Nat → Nat → List Nat), v = .slice a n c ∧ RawM W a n s h L := by
 rcases Go.Deep.open_slice1 hu cu hf with ⟨hcs, hx⟩ | ⟨a, len, cap, m, n, V, D, Pl, hcs, _, hl, hm, hmm, hx, hcell⟩
 ·simp only [List.cons.injEq, and_true] at hcs
  subst hcs
  exact ⟨none, 0, 0, fun _ => sd0, fun _ _ => ih0, fun _ _ => [], rfl, ⟨by decide, Sl.nil _ _, fun j hj => absurd hj (Nat.not_lt_zero _)⟩⟩
 ·simp only [List.cons.injEq, and_true] at hcs
  subst hcs
  simp only [if_true] at hmm
  unfold maxLen at hm
  subst hx
  obtain ⟨hwl, hwe⟩ := fJ hu bt hw0
  simp only [List.length_map, List.length_range] at hwl
  have each : ∀ i, i < len → ∃ q : SD × (Nat → IH) × (Nat → List Nat), V i = .slice q.1.a q.1.len q.1.cap ∧ RawR W q.1 q.2.1 q.2.2 := fun i hi => by
   obtain ⟨s, h, L, hv, hR⟩ := jF ht he ce o0 o1 c0 c1 t0 t1 tq cq be bq (hwe _ (List.mem_map.2 ⟨i, List.mem_range.2 hi, rfl⟩)) (hcell i (by omega)).2
   exact ⟨(s, h, L), hv, hR⟩
  obtain ⟨q, hq⟩ := Go.Deep.choose_lt each
  refine ⟨some a, len, cap, fun i => (q i).1, fun i => (q i).2.1, fun i => (q i).2.2, rfl, ⟨hwl, mI (fun e => nomatch e) fun a' e i hi => ?_, fun j hj => (hq j hj).2⟩⟩
  cases e
  rw [(hcell i (by omega)).1, (hq i hi).1]
  rfl
end
set_option maxRecDepth 100000
theorem gV : ∃ f0 f1, Tryz.prog.underlying 43 = some (.struct #[f0, f1]) ∧ f0.type = 4 ∧ f1.type = 41 ∧ f0.offset = 0 ∧ f1.offset = 1 :=
 ⟨(Tryz.prog.fieldsOf 43)[0]!, (Tryz.prog.fieldsOf 43)[1]!, by kernel_rfl, by kernel_rfl, by kernel_rfl, by kernel_rfl, by kernel_rfl⟩
theorem vt {H : Type} {enc : TypeId × Value → H} {W : World} {v : Value} {d : DataW H} {ps : List MemPlace} {r : Reach} {b0 : Nat} (hval : Value.okWide Tryz.prog W r b0 25 v) (h : DataW.Trod enc Tryz.prog W 0 (fun _ => true) true 25 v d ps) (hw0 : ∀ n ∈ d.weights Tryz.prog 25, n ≤ reachBytes) :
  ∃ (a : Option Addr) (n c : Nat) (s : Nat → SD) (h : Nat → Nat → IH) (L : Nat → Nat → List Nat), v = .slice a n c ∧ RawM W a n s h L := by
 obtain ⟨f0, f1, hs, h0, h1, o0, o1⟩ := gV
 obtain ⟨a0, len, cap, rfl⟩ := okWide_slice (e := 31) (by kernel_rfl) hval
 obtain ⟨fuel, hf⟩ := h
 exact mJ (t := 31) (e := 43) (q := 113) (by kernel_rfl) (by kernel_rfl) (by kernel_rfl) hs (by kernel_rfl) o0 o1 (by rw [h0]; kernel_rfl) (by rw [h1]; kernel_rfl) (by rw [h0]; kernel_rfl) (by rw [h1]; kernel_rfl) (by kernel_rfl) (by kernel_rfl) (Nat.le_of_ble_eq_true (by kernel_rfl)) (Nat.le_of_ble_eq_true (by kernel_rfl)) (Nat.le_of_ble_eq_true (by kernel_rfl)) hw0 hf
theorem vu {H : Type} {enc : TypeId × Value → H} {W : World} {v : Value} {d : DataW H} {ps : List MemPlace} {r : Reach} {b0 : Nat} (hval : Value.okWide Tryz.prog W r b0 31 v) (h : DataW.Trod enc Tryz.prog W 0 (fun _ => true) true 31 v d ps) (hw0 : ∀ n ∈ d.weights Tryz.prog 31, n ≤ reachBytes) :
  ∃ (s : SD) (h : Nat → IH) (L : Nat → List Nat), v = .slice s.a s.len s.cap ∧ RawR W s h L := by
 obtain ⟨f0, f1, hs, h0, h1, o0, o1⟩ := gV
 obtain ⟨a0, len, cap, rfl⟩ := okWide_slice (e := 43) (by kernel_rfl) hval
 obtain ⟨fuel, hf⟩ := h
 exact jF (e := 43) (q := 113) (by kernel_rfl) hs (by kernel_rfl) o0 o1 (by rw [h0]; kernel_rfl) (by rw [h1]; kernel_rfl) (by rw [h0]; kernel_rfl) (by rw [h1]; kernel_rfl) (by kernel_rfl) (by kernel_rfl) (Nat.le_of_ble_eq_true (by kernel_rfl)) (Nat.le_of_ble_eq_true (by kernel_rfl)) hw0 hf
end Go.Proofs.YtiejljicpinheaaGreat
namespace Go.Proofs.YtiejljicpinheaaGreat
open Go.W Go.LM Go.LA
theorem wg {P : Program} {S : World → Prop} {ops : List Oper} {K : Env → World → Prop} {rest : List (Oper × Option Bool)} {ρ : Env} {w : World} {b : Option Bool} {d : Nat} {T : TypeId} {pos : String} {af : Array Edge} {x : Operand} {T1 : TypeId} {g o j n : Nat} {f : Nat → IH} [Scal P T1] (hx : ev ρ x = .pointer (some ⟨g, o + j * 2 + 1, none⟩)) (hs : Rd b S w fun w' => Sl w' (some ⟨g, o, none⟩) (rowC n f)) (hj : j < n)
  (h : RR P S ops K rest (upd ρ d (.slice (f j).sd.a (f j).sd.len (f j).sd.cap)) w) : RR P S ops K ((⟨some d, .load T1 x, T, pos, af, none⟩, b) :: rest) ρ w :=
 gD hx (hs.imp fun w' hs => by
  have := hs.get (j * 2 + 1) (by rw [bT]; omega)
  rw [List.getD_eq_getElem?_getD, (kE hj).2] at this
  exact this) h
def nsm : Nat → (Nat → Nat) → Nat
 | 0, _ => 0
 | n + 1, f => nsm n f + f n
theorem wk {n : Nat} {f : Nat → Nat} : ∀ {m : Nat}, m ≤ n → nsm m f ≤ nsm n f := by
 induction n with
 | zero => intro m h; obtain rfl : m = 0 := by omega
           exact Nat.le_refl _
 | succ n ih =>
  intro m h
  rcases Nat.lt_or_ge n m with h1 | h1
  ·obtain rfl : m = n + 1 := by omega
   exact Nat.le_refl _
  ·exact Nat.le_trans (ih h1) (Nat.le_add_right _ _)
theorem v9 {n i : Nat} {f : Nat → Nat} (h : i < n) : f i ≤ nsm n f := by
 have := wk (f := f) (show i + 1 ≤ n by omega)
 have e : nsm (i + 1) f = nsm i f + f i := rfl
 omega
theorem wh {n c : Nat} {f : Nat → Nat} (h : ∀ i, i < n → f i = c) : nsm n f = n * c := by
 induction n with
 | zero => simp [nsm]
 | succ n ih => rw [nsm, ih fun i hi => h i (by omega), h n (by omega), Nat.succ_mul]
theorem wj (n : Nat) (f g : Nat → Nat) : nsm n (fun i => f i + g i) = nsm n f + nsm n g := by
 induction n with
 | zero => rfl
 | succ n ih => simp only [nsm]; rw [ih]; omega
def lgN (s : Nat → SD) (L : Nat → Nat → List Nat) (n i : Nat) : Nat := n + nsm i fun k => (s k).len + nsm (s k).len fun j => (L k j).length
def valF (h : Nat → Nat → IH) (L : Nat → Nat → List Nat) : Mat := fun i j => sgn (h i j).neg (natOf (L i j))
set_option maxRecDepth 10000 in
set_option maxHeartbeats 4000000 in
theorem we {n cap : Nat} {w : World} {a : Option Addr} {s : Nat → SD} {h : Nat → Nat → IH} {L : Nat → Nat → List Nat} (hM : RawM w a n s h L) :
  CallsR Tryz.prog 20 #[.slice a n cap] w fun v w' => ∃ t : Bool, v = .bool t ∧ (t = false → lgN s L n n ≤ 60) ∧ Ex w w' := by
 refine aF (args := [_]) Tryz.func20 rfl rfl ?_
 repeat' (first|refine ai rfl ?_|refine aa ?_|refine aj ?_|refine ah rfl ?_|refine ae ?_|refine aZ rfl ?_|refine aA ?_)
 have hmx := hM.max
 refine aY (ι := Nat × Nat) [3, 4, 5, 8, 9, 10, 11, 12, 13, 14, 15, 16, 17, 18, 19, 20, 21, 22, 23, 24, 25, 26, 27, 28, 29, 30, 31, 32, 33, 34, 35, 36, 37, 38, 39, 40, 41, 42, 43, 44, 45, 46, 47, 48] (fun t => [(4, .int .i64 (t.1 : Int)), (3, .int .i64 (t.2 : Int))])
  (fun t w' => t.1 ≤ n ∧ Ex w w' ∧ t.2 ≤ 422212465065984 ∧ (t.2 < 1000 → t.2 = lgN s L n t.1)) (fun t => n - t.1)
  (0, n) ⟨rfl, rfl, trivial⟩ ⟨Nat.zero_le _, Ex.refl _, Nat.le_trans hmx (by omega), fun _ => (Nat.add_zero n).symm⟩ ?_
 rintro ⟨i, m⟩ ξ w1 ⟨hi, hE1, hm, hl⟩
 simp only at hi hm hl
 show CW _ _ _ _ (over [(4, .int .i64 (i : Int)), (3, .int .i64 (m : Int))] _) w1
 have hM1 := hM.ext hE1
 have hpt : 0 < n → W.plain a := fun h0 => hM.top.plain (by rw [bP]; exact h0)
 rcases Nat.lt_or_ge i n with hin | hin
 ·rcases Nat.lt_or_ge m 1000 with hm1 | hm1
  ·have hR := hM1.row i hin
   have hmR := hR.max
   have hlm := hl hm1
   repeat' (first|refine bu rfl rfl (show ((i : Nat) : Int) < ((n : Nat) : Int) by omega) ?_|refine bu rfl rfl (show ((m : Nat) : Int) < 1000 by omega) ?_|refine aD (j := i) rfl rfl (hpt (by omega)) (by omega) ?_|refine cG (j := i) rfl hM1.top (by omega) ?_|refine ai rfl ?_|refine aa ?_|refine aj ?_|refine ah rfl ?_|refine ae ?_|refine aZ rfl ?_|refine bz rfl rfl ?_|refine bc rfl rfl (by omega) (by omega) ?_|refine az rfl ?_|refine aA ?_|refine aE ?_)
   refine aY (ι := Nat × Nat) [3, 5, 25, 26, 27, 28, 29, 30, 31, 32, 33, 34, 35, 36, 37, 38, 39, 40, 41, 42, 43, 44, 45, 46, 47, 48] (fun t => [(5, .int .i64 (t.1 : Int)), (3, .int .i64 (t.2 : Int))])
    (fun t w' => t.1 ≤ (s i).len ∧ Ex w1 w' ∧ t.2 ≤ 140737488360000 ∧ (t.2 < 1000 → t.2 = lgN s L n i + (s i).len + nsm t.1 fun j => (L i j).length)) (fun t => (s i).len - t.1)
    (0, m + (s i).len) ⟨rfl, by show Value.int .i64 ((m : Int) + ((s i).len : Int)) = _; congr 1, trivial⟩ ⟨Nat.zero_le _, Ex.refl _, show m + (s i).len ≤ 140737488360000 by omega, fun _ => by rw [hlm]; rfl⟩ ?_
   rintro ⟨j, m2⟩ ξ2 w2 ⟨hj, hE2, hm2, hl2⟩
   simp only at hj hm2 hl2
   show CW _ _ _ _ (over [(5, .int .i64 (j : Int)), (3, .int .i64 (m2 : Int))] _) w2
   have hM2 := hM1.ext hE2
   have hR2 := hR.ext hE2
   rcases Nat.lt_or_ge j (s i).len with hjl | hjl
   ·have hI := hR2.ent j hjl
    have hmI := hI.max
    have hpr : W.plain (s i).a := hR2.sl.plain (by rw [bT]; omega)
    obtain ⟨pgzz, pozz, hpe⟩ := hpr
    have hsi : s i = ⟨some ⟨pgzz, pozz, none⟩, (s i).len, (s i).cap⟩ := by rw [← hpe]
    have hsl : Sl w2 (some ⟨pgzz, pozz, none⟩) (rowC (s i).len (h i)) := by rw [← hpe]; exact hR2.sl
    rcases Nat.lt_or_ge m2 1000 with hm21 | hm21
    ·repeat' (first|refine aD (j := i) rfl rfl (hpt (by omega)) (by omega) ?_|refine aV (j := i) rfl hM2.top (by omega) hsi ?_|(refine bu rfl rfl (show ((j : Nat) : Int) < (((s i).len : Nat) : Int) by omega) ?_)|refine bu rfl rfl (show ((m2 : Nat) : Int) < 1000 by omega) ?_|refine aT (j := j) (a := some ⟨pgzz, pozz, none⟩) rfl rfl ⟨_, _, rfl⟩ (by omega) ?_|refine wg (j := j) rfl hsl hjl ?_|refine ai rfl ?_|refine aa ?_|refine aj ?_|refine ah rfl ?_|refine ae ?_|refine aZ rfl ?_|refine bz rfl rfl ?_|refine bc rfl rfl (by omega) (by omega) ?_|refine aN rfl ?_|refine az rfl ?_|refine aA ?_|refine aL ?_|refine aE ?_)
     refine ⟨⟨(j + 1, m2 + (h i j).sd.len), ⟨hjl, hE2, show m2 + (h i j).sd.len ≤ 140737488360000 by omega, fun _ => ?_⟩, by simp only; omega, rfl, rfl, trivial⟩, (by (repeat (first|exact aH _ _ _|refine ay rfl ?_|refine av rfl ?_|refine ak rfl ?_|refine ao rfl ?_)))⟩
     show m2 + (h i j).sd.len = _ + (nsm j _ + (L i j).length)
     rw [hl2 hm21, hI.len]; omega
    ·repeat' (first|refine aD (j := i) rfl rfl (hpt (by omega)) (by omega) ?_|refine cG (j := i) rfl hM2.top (by omega) ?_|(refine bu rfl rfl (show ((j : Nat) : Int) < (((s i).len : Nat) : Int) by omega) ?_)|refine bj rfl rfl (show (1000 : Int) ≤ ((m2 : Nat) : Int) by omega) ?_|refine ai rfl ?_|refine aa ?_|refine aj ?_|refine ah rfl ?_|refine ae ?_|refine aZ rfl ?_|refine bz rfl rfl ?_|refine bc rfl rfl (by omega) (by omega) ?_|refine au rfl ?_|refine aP ?_|refine aJ ?_|refine aQ ?_|refine aL ?_)
     exact ⟨⟨(i + 1, m2), ⟨hin, hE1.trans hE2, show m2 ≤ 422212465065984 by omega, fun h => absurd h (show ¬ m2 < 1000 by omega)⟩, by simp only; omega, rfl, rfl, trivial⟩, (by (repeat (first|exact aH _ _ _|refine ay rfl ?_|refine av rfl ?_|refine ak rfl ?_|refine ao rfl ?_)))⟩
   ·repeat' (first|refine aD (j := i) rfl rfl (hpt (by omega)) (by omega) ?_|refine cG (j := i) rfl hM2.top (by omega) ?_|(refine bj rfl rfl (show (((s i).len : Nat) : Int) ≤ ((j : Nat) : Int) by omega) ?_)|refine ai rfl ?_|refine aa ?_|refine aj ?_|refine ah rfl ?_|refine ae ?_|refine aZ rfl ?_|refine bK rfl rfl ?_|refine bc rfl rfl (by omega) (by omega) ?_|refine au rfl ?_|refine aP ?_|refine aJ ?_|refine aQ ?_|refine aL ?_)
    refine ⟨⟨(i + 1, m2), ⟨hin, hE1.trans hE2, show m2 ≤ 422212465065984 by omega, fun h => ?_⟩, by simp only; omega, rfl, rfl, trivial⟩, (by (repeat (first|exact aH _ _ _|refine ay rfl ?_|refine av rfl ?_|refine ak rfl ?_|refine ao rfl ?_)))⟩
    show m2 = n + (nsm i _ + ((s i).len + nsm (s i).len fun j => (L i j).length))
    rw [hl2 h, show j = (s i).len by omega]
    unfold lgN
    omega
  ·repeat' (first|refine bu rfl rfl (show ((i : Nat) : Int) < ((n : Nat) : Int) by omega) ?_|refine bj rfl rfl (show (1000 : Int) ≤ ((m : Nat) : Int) by omega) ?_|refine kh rfl rfl (show (60 : Int) < ((m : Nat) : Int) by omega) ?_|refine ai rfl ?_|refine aa ?_|refine aj ?_|refine ah rfl ?_|refine ae ?_|refine aZ rfl ?_|refine bz rfl rfl ?_|refine au rfl ?_|refine aP ?_|refine aJ ?_|refine aQ ?_|refine aI ?_)
   exact bx rfl (rt rfl) ⟨true, rfl, fun e => (nomatch e), hE1⟩
 ·obtain rfl : i = n := by omega
  rcases Nat.lt_or_ge 60 m with h60 | h60
  ·repeat' (first|refine bj rfl rfl (show ((i : Nat) : Int) ≤ ((i : Nat) : Int) by omega) ?_|refine kh rfl rfl (show (60 : Int) < ((m : Nat) : Int) by omega) ?_|refine ai rfl ?_|refine aa ?_|refine aj ?_|refine ah rfl ?_|refine ae ?_|refine aZ rfl ?_|refine bK rfl rfl ?_|refine au rfl ?_|refine aP ?_|refine aJ ?_|refine aQ ?_|refine aI ?_)
   exact bx rfl (rt rfl) ⟨true, rfl, fun e => (nomatch e), hE1⟩
  ·repeat' (first|refine bj rfl rfl (show ((i : Nat) : Int) ≤ ((i : Nat) : Int) by omega) ?_|refine gI rfl rfl (show ((m : Nat) : Int) ≤ (60 : Int) by omega) ?_|refine ai rfl ?_|refine aa ?_|refine aj ?_|refine ah rfl ?_|refine ae ?_|refine aZ rfl ?_|refine bK rfl rfl ?_|refine au rfl ?_|refine aP ?_|refine aJ ?_|refine aQ ?_|refine aI ?_)
   exact bx rfl (rt rfl) ⟨false, rfl, fun _ => by rw [← hl (show m < 1000 by omega)]; exact h60, hE1⟩
theorem wl {n : Nat} {w : World} {a : Option Addr} {s : Nat → SD} {h : Nat → Nat → IH} {L : Nat → Nat → List Nat} (hM : RawM w a n s h L) (hl : lgN s L n n ≤ 60) :
  AM 60 w a n s (valF h L) ∧ n ≤ 60 ∧ (∀ i, i < n → (s i).len ≤ 60) ∧ (okS n s → n * (s 0).len + n ≤ 60) := by
 have hf : ∀ i, i < n → ((s i).len + nsm (s i).len fun j => (L i j).length) ≤ 60 - n ∧ n ≤ 60 := fun i hi => by
  have h1 := v9 (f := fun k => (s k).len + nsm (s k).len fun j => (L k j).length) hi
  unfold lgN at hl
  omega
 refine ⟨⟨hM.top, fun i hi => ?_⟩, by unfold lgN at hl; omega, fun i hi => by have := hf i hi; omega, fun ok => ?_⟩
 ·have hR := hM.row i hi
  refine ⟨rfl, hR.cap, h i, hR.sl, fun j hj => ⟨⟨(h i j).neg, (h i j).sd.a, (h i j).sd.cap, L i j, ?_, ⟨(hR.ent j hj).sl, (hR.ent j hj).cap, (hR.ent j hj).lim, ?_⟩, rfl, ?_⟩, fun e => nomatch e⟩⟩
  ·rw [← (hR.ent j hj).len]; rfl
  ·have h1 := v9 (f := fun j => (L i j).length) hj
   have h2 := hf i hi
   omega
  ·have h1 := v9 (f := fun j => (L i j).length) hj
   have h2 := hf i hi
   omega
 ·have h1 : nsm n (fun k => (s k).len) ≤ nsm n fun k => (s k).len + nsm (s k).len fun j => (L k j).length := by
   rw [wj n (fun k => (s k).len)]; omega
  rw [wh (f := fun k => (s k).len) (c := (s 0).len) (fun i hi => ok.2.2.2.2 i hi)] at h1
  unfold lgN at hl
  omega
end Go.Proofs.YtiejljicpinheaaGreat
namespace Go.LA
end Go.LA
namespace Go.Proofs.YtiejljicpinheaaGreat
open Go.W Go.LM Go.LA Go.PM
theorem wK {K r c lo g : Nat} {w : World} {gs cp : Nat → Nat} {F : Mat} (h : MO true K w lo g r c gs cp F) : AM K w (some ⟨g, 0, none⟩) r (fun i => ⟨some ⟨gs i, 0, none⟩, c, cp i⟩) F := h.mx.am
theorem AM.up60 {K n : Nat} {w : World} {a : Option Addr} {s : Nat → SD} {F : Mat} (h : AM K w a n s F) (hK : K ≤ 60) : AM 60 w a n s F := ⟨h.top, fun i hi => (h.row i hi).up hK⟩
theorem wq {n : Nat} {w : World} {a : Option Addr} {s : Nat → SD} {A : Mat} (h : AM 60 w a n s A) (ok : okS n s) : ∀ i j, i < n → j < (s 0).len → Lb 60 (A i j) := fun _ _ hi hj => (h.mx ok).lb hi hj
def ContF (n : Nat) (s : Nat → SD) (A : Mat) (m : Nat) (X : Vec) (t : Bool) : Prop := t = true ↔ okS n s ∧ m = n ∧ InL n (s 0).len A X
theorem wH {t t' : Bool} {p : Prop} (h : t = true ↔ p) (h' : t' = true ↔ p) : t = t' := by
 cases t <;> cases t' <;> simp_all
theorem wC {n cap m : Nat} {cx : Bool} {Kx : Nat} {w : World} {a : Option Addr} {s : Nat → SD} {A : Mat} {sx : SD} {X : Nat → Int} (hA : AM 60 w a n s A) (hX : RX cx Kx w sx m X) (hK : Kx ≤ 1000) : CallsR Tryz.prog 45 #[.slice a n cap, .slice sx.a m sx.cap] w fun v w' => ∃ t : Bool, v = .bool t ∧ ContF n s A m X t ∧ Ex w w' := by
 by_cases ok : okS n s
 ·by_cases hm : m = n
  ·subst hm
   refine (rN (hA.mx ok) hX (iy ok) (gQ ok) (by omega) (by omega)).mono fun v w' h => ?_
   obtain ⟨t, rfl, ht, hE⟩ := h
   exact ⟨t, rfl, ⟨fun e => ⟨ok, rfl, ht.1 e⟩, fun e => ht.2 e.2.2⟩, hE⟩
  ·refine (sK (hA.mx ok) (iy ok) (gQ ok) (by omega) (by omega) hm).mono fun v w' h => ?_
   obtain ⟨rfl, hE⟩ := h
   exact ⟨false, rfl, ⟨fun e => (nomatch e), fun e => absurd e.2.1 hm⟩, hE⟩
 ·refine (tg hA.top ok).mono fun v w' h => ?_
  obtain ⟨rfl, hE⟩ := h
  exact ⟨false, rfl, ⟨fun e => (nomatch e), fun e => absurd e.1 ok⟩, hE⟩
theorem wv {n cap m : Nat} {cx : Bool} {Kx : Nat} {w : World} {a : Option Addr} {s : Nat → SD} {A : Mat} {sx : SD} {X : Nat → Int} (hA : AM 60 w a n s A) (hX : RX cx Kx w sx m X) (hK : Kx ≤ 1000) : CallsR Tryz.prog 34 #[.slice a n cap, .slice sx.a m sx.cap] w fun v w' => ∃ t : Bool, v = .bool t ∧ ContF n s A m X t ∧ Ex w w' := by
 by_cases ok : okS n s
 ·by_cases hm : m = n
  ·subst hm
   refine (pY (Q := 100) (s := 0) (KM := KMz) (hA.mx ok) hX (iy ok) (gQ ok) (v7 (wq hA ok) (by omega)) (by omega) (tX (gQ ok).2) (by have : 20 * (KMz + 2) + 1000 < 17592186044415 := (by decide); omega)).mono fun v w' h => ?_
   obtain ⟨t, rfl, ht, hE⟩ := h
   exact ⟨t, rfl, ⟨fun e => ⟨ok, rfl, ht.1 e⟩, fun e => ht.2 e.2.2⟩, hE⟩
  ·refine (qd (Q := 100) (s := 0) (KM := KMz) (hA.mx ok) (iy ok) (gQ ok) (v7 (wq hA ok) (by omega)) (by omega) (tX (gQ ok).2) (by decide) hm).mono fun v w' h => ?_
   obtain ⟨rfl, hE⟩ := h
   exact ⟨false, rfl, ⟨fun e => (nomatch e), fun e => absurd e.2.1 hm⟩, hE⟩
 ·refine (rG hA.top ok).mono fun v w' h => ?_
  obtain ⟨rfl, hE⟩ := h
  exact ⟨false, rfl, ⟨fun e => (nomatch e), fun e => absurd e.1 ok⟩, hE⟩
end Go.Proofs.YtiejljicpinheaaGreat
