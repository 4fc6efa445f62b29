import Derived.Test.YtiejljicpinheaaGreatA28
namespace Go.Proofs.YtiejljicpinheaaGreat
open Go.W
instance g14 : Agg Tryz.prog 14 2 := ⟨by kernel_rfl, by kernel_rfl⟩
instance g19 : Agg Tryz.prog 19 1 := ⟨by kernel_rfl, by kernel_rfl⟩
instance c20 : Fun Tryz.prog 20 := ⟨by kernel_rfl⟩
instance c22 : Fun Tryz.prog 22 := ⟨by kernel_rfl⟩
instance c30 : Fun Tryz.prog 30 := ⟨by kernel_rfl⟩
instance c34 : Fun Tryz.prog 34 := ⟨by kernel_rfl⟩
instance c45 : Fun Tryz.prog 45 := ⟨by kernel_rfl⟩
instance c66 : Fun Tryz.prog 66 := ⟨by kernel_rfl⟩
instance c73 : Fun Tryz.prog 73 := ⟨by kernel_rfl⟩
end Go.Proofs.YtiejljicpinheaaGreat
namespace Go.LA
theorem InL.zero (rows cols : Nat) (H : Mat) : InL rows cols H fun _ => 0 := ⟨fun _ => 0, fun r _ => by unfold mv; rw [fE fun j _ => Int.mul_zero _]⟩
end Go.LA
namespace Go.LA
structure CtJ (rows cols k : Nat) (H : Mat) (p : Nat → Nat) (v : Vec) (c : Nat) (r : Vec) : Prop where
 comb : ∃ x : Vec, (∀ j, c ≤ j → x j = 0) ∧ ∀ i, i < rows → v i = r i + mv cols H x i
 zero : ∀ j, j < c → r (p j) = 0
theorem pm {rows cols k : Nat} {H : Mat} {p : Nat → Nat} (v : Vec) : CtJ rows cols k H p v 0 v :=
 ⟨⟨fun _ => 0, fun _ _ => rfl, fun i _ => by unfold mv; rw [fE fun j _ => Int.mul_zero _]; omega⟩, fun j hj => by omega⟩
theorem nY (n : Nat) (A : Mat) (x y : Vec) (r : Nat) : mv n A (fun j => x j + y j) r = mv n A x r + mv n A y r := by
 unfold mv; rw [← dP]; exact bf fun j _ => by rw [Int.mul_add]
theorem qG {n c : Nat} (A : Mat) (q : Int) (hc : c < n) (r : Nat) : mv n A (fun j => if j = c then q else 0) r = q * A r c := by
 show (sm n fun j => A r j * if j = c then q else 0) = _
 rw [cw hc fun j _ hne => by rw [if_neg hne, Int.mul_zero]]
 rw [if_pos rfl, Int.mul_comm]
theorem CtJ.step {rows cols k : Nat} {H : Mat} {p : Nat → Nat} {v r r' : Vec} {c : Nat} (hF : HF rows cols H k p) (h : CtJ rows cols k H p v c r) (hc : c < k) (hd : H (p c) c ∣ r (p c)) (hr : ∀ i, i < rows → r' i = r i - r (p c) / H (p c) c * H i c) : CtJ rows cols k H p v (c + 1) r' := by
 have hkc := hF.kc
 obtain ⟨x, hx0, hx⟩ := h.comb
 refine ⟨⟨fun j => x j + if j = c then r (p c) / H (p c) c else 0, fun j hj => ?_, fun i hi => ?_⟩, fun j hj => ?_⟩
 ·show x j + _ = 0
  rw [hx0 j (by omega), if_neg (by omega)]; rfl
 ·rw [nY, qG H _ (show c < cols by omega), hr i hi, hx i hi]; omega
 ·rw [hr _ (hF.lt j (by omega))]
  by_cases e : j = c
  ·subst e
   rw [Int.ediv_mul_cancel hd]; omega
  ·rw [h.zero j (by omega), hF.zero c hc _ (hF.mono j c (by omega) hc)]; omega
theorem CtJ.inL {rows cols k : Nat} {H : Mat} {p : Nat → Nat} {v r : Vec} {c : Nat} (h : CtJ rows cols k H p v c r) : InL rows cols H v ↔ InL rows cols H r := by
 obtain ⟨x, _, hx⟩ := h.comb
 constructor
 ·rintro ⟨y, hy⟩
  refine ⟨fun j => y j - x j, fun i hi => ?_⟩
  have e : mv cols H (fun j => y j - x j) i = mv cols H y i - mv cols H x i := by unfold mv; rw [← im]; exact bf fun j _ => by rw [Int.mul_sub]
  rw [e, ← hy i hi, hx i hi]; omega
 ·rintro ⟨y, hy⟩
  exact ⟨fun j => y j + x j, fun i hi => by rw [nY, ← hy i hi, hx i hi]⟩
theorem CtJ.fail {rows cols k : Nat} {H : Mat} {p : Nat → Nat} {v r : Vec} {c : Nat} (hF : HF rows cols H k p) (h : CtJ rows cols k H p v c r) (hc : c < k) (hn : ¬ H (p c) c ∣ r (p c)) : ¬ InL rows cols H v := fun hv => by
 obtain ⟨y, hy⟩ := h.inL.1 hv
 have h0 := hF.coeff (x := y) (c := c) (by omega) fun j hj => by rw [← hy _ (hF.lt j (by omega)), h.zero j hj]
 have := (hF.begins hc h0).2
 rw [← hy _ (hF.lt c hc)] at this
 exact hn ⟨y c, by rw [this, Int.mul_comm]⟩
theorem CtJ.done {rows cols k : Nat} {H : Mat} {p : Nat → Nat} {v r : Vec} (hF : HF rows cols H k p) (h : CtJ rows cols k H p v k r) : InL rows cols H v ↔ ∀ i, i < rows → r i = 0 := by
 rw [h.inL]
 constructor
 ·intro hr i hi
  refine Classical.byContradiction fun hne => ?_
  obtain ⟨c, hc, _, h2, _⟩ := hF.lead hr ⟨i, hi, hne⟩
  exact h2 (h.zero c hc)
 ·intro hz
  exact (InL.zero rows cols H).congr hz
end Go.LA
namespace Go.W
section
variable {P : Program} {S : World → Prop} {ops : List Oper} {K : Env → World → Prop} {rest : List (Oper × Option Bool)} {ρ : Env} {w : World} {b : Option Bool} {kf : Bool} {d : Nat} {dst : Option Nat} {T T' : TypeId} {pos : String} {af : Array Edge}
end
end Go.W
namespace Go.W
section
variable {P : Program} {S : World → Prop} {ops : List Oper} {K : Env → World → Prop} {rest : List (Oper × Option Bool)} {ρ : Env} {w : World} {b : Option Bool} {kf : Bool} {d : Nat} {dst : Option Nat} {T T' : TypeId} {pos : String} {af : Array Edge}
end
end Go.W
namespace Go.W
end Go.W
namespace Go.W
section
variable {P : Program} {S : World → Prop} {ops : List Oper} {K : Env → World → Prop} {rest : List (Oper × Option Bool)} {ρ : Env} {w : World} {b : Option Bool} {kf : Bool} {d : Nat} {dst : Option Nat} {T T' : TypeId} {pos : String} {af : Array Edge}
theorem vT {x y : Operand} {c : Bool} {T'' : TypeId} [h1 : BoolT P T'] (hx : ev ρ x = .bool c) (hy : ev ρ y = .bool c) (h : RR P S ops K rest (upd ρ d (.bool true)) w) : RR P S ops K ((⟨some d, .binOp .eql T' x y T'', T, pos, af, none⟩, b) :: rest) ρ w :=
 lY hx hy (by rw [beq_self_eq_true]; exact h)
end
end Go.W
namespace Go.W
theorem RowG.sl {w : World} {lo E n : Nat} {s : SD} {h : Nat → IH} (hR : RowG w lo E n s h) : Sl w s.a (rowC n h) := by
 rcases hR.2 with ⟨h0, rfl⟩ | ⟨g, h1, h2, h3, h4, h5⟩
 ·exact Sl.nil _ _
 ·rw [h1]; exact h5.sl.row h3
section
variable {P : Program} {S : World → Prop} {ops : List Oper} {K : Env → World → Prop} {rest : List (Oper × Option Bool)} {ρ : Env} {w : World} {b : Option Bool} {kf : Bool} {d : Nat} {dst : Option Nat} {T T' : TypeId} {pos : String} {af : Array Edge}
theorem q9 {T1 E y n d1 t lo : Nat} {x : Operand} {s : SD} {f : Nat → IH} {u : IH} {T2 : TypeId} {pos2 : String} {af2 : Array Edge} [hT : Slc P T1 E 2 y] [hz : Zro P E (.agg #[.bool false, .slice none 0 0])]
  (hs : ρ t = .slice s.a s.len s.cap) (hx : ev ρ x = u.val) (htd : Nat.beq t d1 = false)
  (hR : RowG w lo E n s f) (hm : n + 1 ≤ 9223372036854775807) (hb : (n + 1) * y ≤ 140737488355328) (hlo : lo ≤ w.heap.size)
  (h : ∀ g s' f' w', RowG w' lo E (n + 1) s' f' → (∀ i, i < n → f' i = f i) → f' n = u → w.grownBy w' (Value.slice s.a s.len s.cap).ownBlock → (s'.a = s.a ∨ ∀ x, s'.a = some x → w.heap.size ≤ x.block) →
   RR P (fun _ => True) ops K rest (upd (upd ρ d1 (.slice (some ⟨g, 0, none⟩) 1 1)) d (.slice s'.a s'.len s'.cap)) w') :
  RR P (fun _ => True) ops K ((⟨some d1, .buildSlice T1 1 #[(0, x)], T2, pos2, af2, none⟩, some false) :: (⟨some d, .call ⟨.builtin .append, #[.tmp t, .tmp d1], #[T1, T1]⟩, T, pos, af, none⟩, some false) :: rest) ρ w := by
 refine dI (E := E) (s := 2) (z := .agg #[.bool false, .slice none 0 0]) (cs := u.val.cells) rfl ?_ (fun g w1 hn => ⟨fun _ _ => trivial, ?_⟩)
 ·simp only [List.map_toArray, List.map_cons, List.map_nil, hx]
  exact gF (s := 2) rfl (by simp)
 ·refine dw rfl ?_
  unfold OpW
  obtain ⟨i0, hi0, hzz⟩ := Option.map_eq_some_iff.1 hT.sz
  simp only [Prod.mk.injEq] at hzz
  obtain ⟨i1, hi1, hz1⟩ := Option.map_eq_some_iff.1 hz.ok
  rw [hi0] at hi1
  simp only [Option.some.injEq] at hi1
  subst hi1
  have hsz := hn.ex.size
  have hcs : u.val.cells.toList = u.cells := rfl
  obtain ⟨s', w', f', hr, h1, h2, h3, h4, h5⟩ := jC (P := P) (ty := T) hT.un hi0 hz1 hzz.1 hzz.2 (hR.ext hn.ex) (hcs ▸ hn.blk.sl) hm hb (by omega)
  have e1 : ev (upd ρ d1 (.slice (some ⟨g, 0, none⟩) 1 1)) (.tmp t) = .slice s.a s.len s.cap := by
   show upd ρ d1 _ t = _
   simp only [upd, htd, cond_false, hs]
  have e2 : ev (upd ρ d1 (.slice (some ⟨g, 0, none⟩) 1 1)) (.tmp d1) = .slice (some ⟨g, 0, none⟩) 1 1 := by
   show upd ρ d1 _ d1 = _
   rw [eT]
  have : (execOp (ev (upd ρ d1 (.slice (some ⟨g, 0, none⟩) 1 1))) ⟨some d, .call ⟨.builtin .append, #[.tmp t, .tmp d1], #[T1, T1]⟩, T, pos, af, none⟩).run P w1 = .ok (.value (.slice s'.a s'.len s'.cap)) w' := by
   simp [execOp, resolve, invoke, builtin, e1, e2, hr]
  rw [this]
  refine ⟨fun _ _ => trivial, h g s' f' w' h1 h2 h3 ?_ (h5.imp id fun hh x hx => by have := hh x hx; omega)⟩
  exact ⟨h4.os.trans hn.ex.os, h4.tape.trans hn.ex.tape, h4.output.trans hn.ex.output, by have := h4.size; omega,
   fun k hk hne => (h4.block k (by omega) hne).trans (hn.ex.block k hk)⟩
end
end Go.W
namespace Go.W
section
variable {P : Program} {S : World → Prop} {ops : List Oper} {K : Env → World → Prop} {rest : List (Oper × Option Bool)} {ρ : Env} {w : World} {b : Option Bool} {kf : Bool} {d : Nat} {dst : Option Nat} {T T' : TypeId} {pos : String} {af : Array Edge}
end
end Go.W
namespace Go.Proofs.YtiejljicpinheaaGreat
open Go.W Go.LM Go.LA
theorem jY {n cap : Nat} {w : World} {a : Option Addr} {s : Nat → SD} (hS : Sl w a (topC n s)) (hno : ¬ okS n s) :
  CallsR Tryz.prog 14 #[.slice a n cap] w fun v w' => v = .tuple #[.slice none 0 0, .slice none 0 0, .bool false] ∧ Ex w w' := by
 refine aF (args := [_]) Tryz.func14 rfl rfl ?_
 repeat' (first|refine ai rfl ?_|refine aa ?_|refine aj ?_|refine ah rfl ?_|refine ae ?_)
 refine aw (ef hS) rfl ?_
 rintro v w1 ⟨rfl, hE1⟩
 refine ⟨fun _ _ => trivial, ?_⟩
 rw [dH hno]
 repeat' (first|refine aK rfl rfl ?_|refine ai rfl ?_|refine aa ?_|refine aj ?_|refine ah rfl ?_|refine ae ?_|refine az rfl ?_|refine aI ?_|refine aU ?_)
 exact eo rfl (rt rfl) (rt rfl) (rt rfl) ⟨rfl, hE1⟩
end Go.Proofs.YtiejljicpinheaaGreat
namespace Go.Proofs.YtiejljicpinheaaGreat
open Go.W Go.LM Go.LA
structure AM (K : Nat) (w : World) (a : Option Addr) (n : Nat) (s : Nat → SD) (F : Mat) : Prop where
 top : Sl w a (topC n s)
 row : ∀ i, i < n → RX false K w (s i) (s i).len (F i)
theorem AM.ext {K n : Nat} {w w' : World} {a : Option Addr} {s : Nat → SD} {F : Mat} (h : AM K w a n s F) (e : Ex w w') : AM K w' a n s F := ⟨h.top.ext e, fun i hi => (h.row i hi).ext e⟩
theorem AM.mx {K n : Nat} {w : World} {a : Option Addr} {s : Nat → SD} {F : Mat} (h : AM K w a n s F) (ok : okS n s) : MX false K w a n (s 0).len s F :=
 ⟨h.top, fun i hi => by have := h.row i hi; rwa [ok.2.2.2.2 i hi] at this⟩
theorem MX.am {cn : Bool} {K r c : Nat} {w : World} {a : Option Addr} {s : Nat → SD} {F : Mat} (h : MX cn K w a r c s F) : AM K w a r s F :=
 ⟨h.top, fun i hi => by have := (h.row i hi).weak'; rwa [(h.row i hi).len]⟩
theorem iy {n : Nat} {s : Nat → SD} (h : okS n s) : 1 ≤ n ∧ n ≤ 16 := ⟨h.1, h.2.1⟩
theorem gQ {n : Nat} {s : Nat → SD} (h : okS n s) : 1 ≤ (s 0).len ∧ (s 0).len ≤ 16 := ⟨h.2.2.1, h.2.2.2.1⟩
end Go.Proofs.YtiejljicpinheaaGreat
namespace Go.Proofs.YtiejljicpinheaaGreat
open Go.W Go.LM Go.LA
theorem tg {n cap sl sc : Nat} {w : World} {a sa : Option Addr} {s : Nat → SD} (hS : Sl w a (topC n s)) (hno : ¬ okS n s) :
  CallsR Tryz.prog 45 #[.slice a n cap, .slice sa sl sc] w fun v w' => v = .bool false ∧ Ex w w' := by
 refine aF (args := [_, _]) Tryz.func45 rfl rfl ?_
 repeat' (first|refine ai rfl ?_|refine aa ?_|refine aj ?_|refine ah rfl ?_|refine ae ?_)
 refine aw (jY hS hno) rfl ?_
 rintro v w1 ⟨rfl, hE1⟩
 refine ⟨fun _ _ => trivial, ?_⟩
 repeat' (first|refine aK rfl rfl ?_|refine ai rfl ?_|refine aa ?_|refine aj ?_|refine ah rfl ?_|refine ae ?_|refine bK rfl rfl ?_|refine az rfl ?_|refine aI ?_|refine aU ?_)
 exact bx rfl (rt rfl) ⟨rfl, hE1⟩
theorem sK {cn : Bool} {K r c cap sl sc : Nat} {w : World} {a sa : Option Addr} {s : Nat → SD} {A : Mat} (hM : MX cn K w a r c s A) (hr : 1 ≤ r ∧ r ≤ 16) (hc : 1 ≤ c ∧ c ≤ 16) (hK1 : 1 ≤ K) (hK : 300 * K + 1000 < 4398046511104) (hl : sl ≠ r) :
  CallsR Tryz.prog 45 #[.slice a r cap, .slice sa sl sc] w fun v w' => v = .bool false ∧ Ex w w' := by
 refine aF (args := [_, _]) Tryz.func45 rfl rfl ?_
 repeat' (first|refine ai rfl ?_|refine aa ?_|refine aj ?_|refine ah rfl ?_|refine ae ?_)
 refine aw (dV hM hr hc hK1 hK) rfl ?_
 rintro v w1 ⟨g, g', gs, cp, gs', cp', H, U, k0, p0, rfl, hF, hE1⟩
 refine ⟨fun _ _ => trivial, ?_⟩
 repeat' (first|refine aK rfl rfl ?_|refine df rfl rfl (by omega) ?_|refine ai rfl ?_|refine aa ?_|refine aj ?_|refine ah rfl ?_|refine ae ?_|refine aZ rfl ?_|refine bz rfl rfl ?_|refine az rfl ?_|refine aI ?_|refine aU ?_)
 exact bx rfl (rt rfl) ⟨rfl, hE1⟩
set_option maxHeartbeats 4000000 in
theorem rN {cn cx : Bool} {K Kx r c cap : Nat} {w : World} {a : Option Addr} {s : Nat → SD} {A : Mat} {sx : SD} {X : Nat → Int} (hM : MX cn K w a r c s A) (hX : RX cx Kx w sx r X) (hr : 1 ≤ r ∧ r ≤ 16) (hc : 1 ≤ c ∧ c ≤ 16) (hK1 : 1 ≤ K) (hK : 1000 * K + Kx + 3000 < 4398046511104) :
  CallsR Tryz.prog 45 #[.slice a r cap, .slice sx.a r sx.cap] w fun v w' => ∃ t : Bool, v = .bool t ∧ (t = true ↔ InL r c A X) ∧ Ex w w' := by
 refine aF (args := [_, _]) Tryz.func45 rfl rfl ?_
 repeat' (first|refine ai rfl ?_|refine aa ?_|refine aj ?_|refine ah rfl ?_|refine ae ?_)
 refine aw (dV hM hr hc hK1 (by omega)) rfl ?_
 rintro v w1 ⟨g, g', gs, cp, gs', cp', H, U, k0, p0, rfl, hF, hE1⟩
 refine ⟨fun _ _ => trivial, ?_⟩
 repeat' (first|refine aK rfl rfl ?_|refine cN rfl rfl rfl ?_|refine eN (n := r) rfl rfl (by omega) (by omega) (fun g8 w2 hn2 => ⟨fun _ _ => trivial, ?_⟩)|refine ai rfl ?_|refine aa ?_|refine aj ?_|refine ah rfl ?_|refine ae ?_|refine aZ rfl ?_|refine bz rfl rfl ?_|refine au rfl ?_|refine aE ?_)
 obtain ⟨px, dx, hhx, ex, _, hpx, hSx, hEx⟩ := (hX.ext (hE1.trans hn2.ex)).get (by omega)
 rw [ex]
 have hb2 := hn2.blk
 refine jT (s := 2) (cs := rowC r hhx) rfl rfl hpx hb2 hSx (by rw [bT]) (by rw [bT, bT]; exact Nat.le_refl _) (kG _ _) (fun w3 hc3 hb3 => ⟨fun _ _ => trivial, ?_⟩)
 rw [List.drop_eq_nil_of_le (by rw [bT, bT]; exact Nat.le_refl _), List.append_nil] at hb3
 have hE13 : Ex w1 w3 := hn2.ex.chg hc3 hn2.lo
 have hF3 := hF.ext hE13
 have hR3 : RO false (Kx + 0 * (34 * K + 101)) w3 w1.heap.size g8 r r X := ⟨hn2.lo, Nat.le_refl _, hhx, hb3, fun i hi => by rw [Nat.zero_mul]; exact ((hEx i hi).weak').gbN hb2 (bE _ _) (bw hc3)⟩
 repeat' (first|refine ai rfl ?_|refine aa ?_|refine aj ?_|refine ah rfl ?_|refine ae ?_)
 refine aw (eC hF3.h.mx hr hc (by omega)) rfl ?_
 rintro v w4 ⟨t, sd, f, k, rfl, h1, h2, hE4⟩
 refine ⟨fun _ _ => trivial, ?_⟩
 cases t
 ·exact absurd ⟨_, _, hF.hf⟩ (h2 rfl)
 obtain ⟨hN, hH⟩ := h1 rfl
 have hlen := hN.1
 have hkc := hH.kc
 have hF4 := hF3.ext hE4
 have hE04 := (hE1.trans hE13).trans hE4
 have hsl := hN.sl
 rw [eS] at hsl
 have hL : ∀ {P : Prop}, (P ↔ InL r c H X) → (P ↔ InL r c A X) := fun h => h.trans (hF.ceq.inL X)
 have s1 := hE1.size
 have l8 := hn2.lo
 have lH : ∀ i j, i < r → j < c → Lb (34 * K + 100) (H i j) := fun i j hi hj => hF.h.mx.lb hi hj
 have hgl : g < w1.heap.size := hF.h.lt
 have hgsl : ∀ i, i < r → gs i < w1.heap.size := fun i hi => (hF.h.row i hi).lt
 repeat' (first|refine aK rfl rfl ?_|refine ai rfl ?_|refine aa ?_|refine aj ?_|refine ah rfl ?_|refine ae ?_|refine aZ rfl ?_|refine aA ?_)
 rw [hlen]
 refine aY (ι := Nat × (Nat → Int)) [4, 11, 12, 13, 14, 15, 16, 17, 48, 49, 50, 51, 52, 53, 54, 55, 56, 57, 58, 59, 60, 61, 62, 63, 64, 65, 66, 67, 68, 69, 70, 71, 72, 73, 74, 75, 76, 77, 78, 79, 80, 81, 82, 83, 84, 85, 86, 87, 88, 89, 90, 91, 92, 93, 94] (fun t => [(48, .int .i64 (t.1 : Int))])
  (fun t w' => (t.1 ≤ k ∧ w4.grownBy w' (some g8)) ∧ RO false (Kx + t.1 * (34 * K + 101)) w' w1.heap.size g8 r r t.2 ∧ CtJ r c k H f X t.1 t.2) (fun t => k - t.1)
  (0, X) ⟨rfl, trivial⟩ ⟨⟨by simp only; omega, lL (Ex.refl _)⟩, hR3.ext hE4, pm X⟩ ?_
 rintro ⟨c0, R⟩ ξ w5 ⟨⟨hc0, hG5⟩, hR5, hJ⟩
 simp only at hc0 hR5 hJ
 show CW _ _ _ _ (over [(48, .int .i64 (c0 : Int))] _) w5
 have hb4 : Blk w4 g8 43 (rowC r hhx) := hb3.ext hE4
 have l83 := hb3.lt
 have ng : g ≠ g8 := by omega
 have ngs : ∀ i, i < r → gs i ≠ g8 := fun i hi => by have := hgsl i hi; omega
 have hM5 := hF4.h.gbN hb4 (bE _ _) hG5 ng ngs
 have hsl5 := hsl.gb hG5 (fun ad e he => by have := (NatG.lo hN ad e).1; cases he; omega)
 have hE05 : Ex w w5 := hE04.gb hG5 (fun q e => by cases e; omega)
 rcases Nat.lt_or_ge c0 k with hck | hck
 ·have hpl := hsl5.plain (by simp; omega)
  have hpr := hH.lt c0 hck
  have hpos := hH.pos c0 hck
  obtain ⟨hhr, hb8, hE8⟩ := hR5.ex
  have cb : c0 * (34 * K + 101) ≤ 16 * (34 * K + 101) := Nat.mul_le_mul_right _ (by omega)
  have cb1 : (c0 + 1) * (34 * K + 101) = c0 * (34 * K + 101) + (34 * K + 101) := Nat.succ_mul _ _
  obtain ⟨KR, hKR⟩ : ∃ KR, KR = Kx + c0 * (34 * K + 101) := ⟨_, rfl⟩
  rw [← hKR] at hR5 hE8
  obtain ⟨hhp, hbp, hcp, hEp⟩ := hM5.get hpr
  repeat' (first|refine bu rfl rfl (by omega) ?_|refine aa ?_|refine aj ?_|refine ah rfl ?_|refine ae ?_|refine az rfl ?_|refine aE ?_)
  refine aA ?_
  repeat' (first|refine aD (j := c0) (a := sd.a) rfl rfl hpl (by omega) ?_|(refine bG (j := c0) (xs := (List.range k).map f) rfl hsl5 (by simp; omega) ?_)|refine ai rfl ?_|refine aa ?_|refine aj ?_|refine ah rfl ?_|refine ae ?_)
  rw [cZ _ hck]
  skip
  refine ct (ι := (Nat × Nat) × IH × IH) [13, 14, 15, 53, 54, 55, 56, 57, 58, 59, 60, 61, 62, 63, 64, 65, 66, 67, 68] (fun t => [(13, .pointer (some ⟨t.1.1, 0, none⟩)), (14, .pointer (some ⟨t.1.2, 0, none⟩))])
   (fun t w' => Ex w5 w' ∧ w5.heap.size ≤ t.1.1 ∧ w5.heap.size ≤ t.1.2 ∧ Blk w' t.1.1 43 t.2.1.cells ∧ Blk w' t.1.2 43 t.2.2.cells ∧ Ent true KR w' t.2.1.val (R (f c0) / H (f c0) c0) ∧ Ent true (34 * K + 100) w' t.2.2.val (R (f c0) % H (f c0) c0)) ?_ ?_
  ·have hEx : Ex w5 w5.drew := (Ex.refl _).drew
   refine dW (fun w' => Ex w5 w') bA hEx ?_
   refine bC (fuel := 10) (by kernel_rfl) (by kernel_rfl) [0, 1, 2, 3, 4, 5, 6, 7, 8, 9, 10] _ _ (by kernel_rfl) ?_
   repeat' (first|refine aD (j := f c0) (a := some ⟨g, 0, none⟩) rfl rfl ⟨_, _, rfl⟩ (by omega) ?_|refine aV (j := f c0) (a := some ⟨g, 0, none⟩) (n := r) (s := fun k => ⟨some ⟨gs k, 0, none⟩, c, cp k⟩) rfl (fun _ h => (hM5.ext h).top.sl) (by omega) rfl ?_|refine aT (j := c0) (a := some ⟨gs (f c0), 0, none⟩) rfl rfl ⟨_, _, rfl⟩ (by omega) ?_|refine bo (j := c0) (n := cp (f c0)) (a := some ⟨gs (f c0), 0, none⟩) rfl (fun _ h => (hbp.ext h).sl) ⟨_, _, rfl⟩ (by omega) ?_|refine aT (j := f c0) (a := some ⟨g8, 0, none⟩) rfl rfl ⟨_, _, rfl⟩ (by omega) ?_|refine bo (j := f c0) (n := r) (a := some ⟨g8, 0, none⟩) rfl (fun _ h => (hb8.ext h).sl) ⟨_, _, rfl⟩ (by omega) ?_|refine ai rfl ?_|refine ae ?_)
   refine aC (fuel := 9) (rs := [11, 16, 17]) (by kernel_rfl) (by kernel_rfl) rfl ?_
   simp only [List.forall_mem_cons, List.not_mem_nil, false_implies, implies_true, and_true]
   refine ⟨?_, ?_, ?_⟩
   ·refine aw (bD ((hE8 (f c0) hpr).ext hEx).k ((hEp c0 (by omega)).ext hEx).k (by omega) (by omega)) rfl ?_
    rintro v w14 ⟨q, rm, rfl, hq, hrm, hE14⟩
    refine ⟨fun _ h => h.trans hE14, ?_⟩
    rw [if_neg (by omega)] at hrm
    obtain ⟨xq, rfl⟩ := hq.ih
    obtain ⟨xr, rfl⟩ := hrm.ih
    have eq : Ent true KR w14 xq.val (R (f c0) / H (f c0) c0) := Ent.of hq ((hE8 (f c0) hpr).lb.div _)
    have er : Ent true (34 * K + 100) w14 xr.val (R (f c0) % H (f c0) c0) := Ent.of hrm ((lH (f c0) c0 hpr (by omega)).mod _ (by omega))
    replace hEx := hEx.trans hE14
    try replace hb15 := hb15.ext hE14
    try replace hb16 := hb16.ext hE14
    refine ae ?_
    refine bC (fuel := 5) (by kernel_rfl) (by kernel_rfl) [12, 13, 14, 15] _ _ (by kernel_rfl) ?_
    repeat' (first|refine aK rfl rfl ?_|refine ai rfl ?_|refine ae ?_)
    refine aC (fuel := 4) (rs := [16, 17]) (by kernel_rfl) (by kernel_rfl) rfl ?_
    simp only [List.forall_mem_cons, List.not_mem_nil, false_implies, implies_true, and_true]
    refine ⟨?_, ?_⟩
    ·refine aG (fun g15 w15 hn15 => ⟨fun _ h => h.trans hn15.ex, ?_⟩)
     have hb15 : Blk w15 g15 43 (intL false none 0 0) := hn15.blk
     have lo15 : w5.heap.size ≤ g15 := Nat.le_trans hEx.size hn15.lo
     try have ne56 : g15 ≠ g16 := (by have := hb16.lt; have := hn15.lo; omega)
     replace hEx := hEx.trans hn15.ex
     try replace hb16 := hb16.ext hn15.ex
     try replace eq := eq.ext hn15.ex
     try replace er := er.ext hn15.ex
     refine ae ?_
     refine aC (fuel := 3) (rs := [17]) (by kernel_rfl) (by kernel_rfl) rfl ?_
     rw [List.forall_mem_singleton]
     refine aG (fun g16 w16 hn16 => ⟨fun _ h => h.trans hn16.ex, ?_⟩)
     have hb16 : Blk w16 g16 43 (intL false none 0 0) := hn16.blk
     have lo16 : w5.heap.size ≤ g16 := Nat.le_trans hEx.size hn16.lo
     try have ne56 : g15 ≠ g16 := (by have := hb15.lt; have := hn16.lo; omega)
     replace hEx := hEx.trans hn16.ex
     try replace hb15 := hb15.ext hn16.ex
     try replace eq := eq.ext hn16.ex
     try replace er := er.ext hn16.ex
     refine ae ?_
     refine aC (fuel := 2) (rs := [18]) (by kernel_rfl) (by kernel_rfl) rfl ?_
     rw [List.forall_mem_singleton]
     refine ax (n := 2) (vs := xq.cells) rfl rfl rfl rfl hb15 rfl (fun w17 hc17 hb17 => ⟨fun _ h => h.chg hc17 lo15, ?_⟩)
     replace hEx := hEx.chg hc17 lo15
     replace hb16 := hb16.chg hc17 (Ne.symm ne56)
     replace eq := eq.gbN hb15 (aB _ _ _ _) (bw hc17)
     replace er := er.gbN hb15 (aB _ _ _ _) (bw hc17)
     refine ae ?_
     refine aC (fuel := 1) (rs := [19]) (by kernel_rfl) (by kernel_rfl) rfl ?_
     rw [List.forall_mem_singleton]
     refine ax (n := 2) (vs := xr.cells) rfl rfl rfl rfl hb16 rfl (fun w18 hc18 hb18 => ⟨fun _ h => h.chg hc18 lo16, ?_⟩)
     replace hEx := hEx.chg hc18 lo16
     replace hb17 := hb17.chg hc18 ne56
     replace eq := eq.gbN hb16 (aB _ _ _ _) (bw hc18)
     replace er := er.gbN hb16 (aB _ _ _ _) (bw hc18)
     refine ae ?_
     refine bC (fuel := 0) (by kernel_rfl) (by kernel_rfl) [20] _ _ (by kernel_rfl) ?_
     repeat' (first|refine ai rfl ?_|refine ae ?_)
     refine bp (by kernel_rfl) ?_
     refine aa ?_
     exact ⟨⟨((_, _), xq, xr), ⟨hEx, lo15, lo16, hb17, hb18, eq, er⟩, rfl, rfl, trivial⟩, (by (repeat (first|exact aM _ _|refine ay rfl ?_|refine av rfl ?_|refine ak rfl ?_|refine ao rfl ?_)))⟩
    ·refine aG (fun g16 w16 hn16 => ⟨fun _ h => h.trans hn16.ex, ?_⟩)
     have hb16 : Blk w16 g16 43 (intL false none 0 0) := hn16.blk
     have lo16 : w5.heap.size ≤ g16 := Nat.le_trans hEx.size hn16.lo
     try have ne56 : g15 ≠ g16 := (by have := hb15.lt; have := hn16.lo; omega)
     replace hEx := hEx.trans hn16.ex
     try replace hb15 := hb15.ext hn16.ex
     try replace eq := eq.ext hn16.ex
     try replace er := er.ext hn16.ex
     refine ae ?_
     refine aC (fuel := 3) (rs := [16]) (by kernel_rfl) (by kernel_rfl) rfl ?_
     rw [List.forall_mem_singleton]
     refine aG (fun g15 w15 hn15 => ⟨fun _ h => h.trans hn15.ex, ?_⟩)
     have hb15 : Blk w15 g15 43 (intL false none 0 0) := hn15.blk
     have lo15 : w5.heap.size ≤ g15 := Nat.le_trans hEx.size hn15.lo
     try have ne56 : g15 ≠ g16 := (by have := hb16.lt; have := hn15.lo; omega)
     replace hEx := hEx.trans hn15.ex
     try replace hb16 := hb16.ext hn15.ex
     try replace eq := eq.ext hn15.ex
     try replace er := er.ext hn15.ex
     refine ae ?_
     refine aC (fuel := 2) (rs := [18]) (by kernel_rfl) (by kernel_rfl) rfl ?_
     rw [List.forall_mem_singleton]
     refine ax (n := 2) (vs := xq.cells) rfl rfl rfl rfl hb15 rfl (fun w17 hc17 hb17 => ⟨fun _ h => h.chg hc17 lo15, ?_⟩)
     replace hEx := hEx.chg hc17 lo15
     replace hb16 := hb16.chg hc17 (Ne.symm ne56)
     replace eq := eq.gbN hb15 (aB _ _ _ _) (bw hc17)
     replace er := er.gbN hb15 (aB _ _ _ _) (bw hc17)
     refine ae ?_
     refine aC (fuel := 1) (rs := [19]) (by kernel_rfl) (by kernel_rfl) rfl ?_
     rw [List.forall_mem_singleton]
     refine ax (n := 2) (vs := xr.cells) rfl rfl rfl rfl hb16 rfl (fun w18 hc18 hb18 => ⟨fun _ h => h.chg hc18 lo16, ?_⟩)
     replace hEx := hEx.chg hc18 lo16
     replace hb17 := hb17.chg hc18 ne56
     replace eq := eq.gbN hb16 (aB _ _ _ _) (bw hc18)
     replace er := er.gbN hb16 (aB _ _ _ _) (bw hc18)
     refine ae ?_
     refine bC (fuel := 0) (by kernel_rfl) (by kernel_rfl) [20] _ _ (by kernel_rfl) ?_
     repeat' (first|refine ai rfl ?_|refine ae ?_)
     refine bp (by kernel_rfl) ?_
     refine aa ?_
     exact ⟨⟨((_, _), xq, xr), ⟨hEx, lo15, lo16, hb17, hb18, eq, er⟩, rfl, rfl, trivial⟩, (by (repeat (first|exact aM _ _|refine ay rfl ?_|refine av rfl ?_|refine ak rfl ?_|refine ao rfl ?_)))⟩
   ·refine aG (fun g15 w15 hn15 => ⟨fun _ h => h.trans hn15.ex, ?_⟩)
    have hb15 : Blk w15 g15 43 (intL false none 0 0) := hn15.blk
    have lo15 : w5.heap.size ≤ g15 := Nat.le_trans hEx.size hn15.lo
    try have ne56 : g15 ≠ g16 := (by have := hb16.lt; have := hn15.lo; omega)
    replace hEx := hEx.trans hn15.ex
    try replace hb16 := hb16.ext hn15.ex
    try replace eq := eq.ext hn15.ex
    try replace er := er.ext hn15.ex
    refine ae ?_
    refine aC (fuel := 8) (rs := [11, 17]) (by kernel_rfl) (by kernel_rfl) rfl ?_
    simp only [List.forall_mem_cons, List.not_mem_nil, false_implies, implies_true, and_true]
    refine ⟨?_, ?_⟩
    ·refine aw (bD ((hE8 (f c0) hpr).ext hEx).k ((hEp c0 (by omega)).ext hEx).k (by omega) (by omega)) rfl ?_
     rintro v w14 ⟨q, rm, rfl, hq, hrm, hE14⟩
     refine ⟨fun _ h => h.trans hE14, ?_⟩
     rw [if_neg (by omega)] at hrm
     obtain ⟨xq, rfl⟩ := hq.ih
     obtain ⟨xr, rfl⟩ := hrm.ih
     have eq : Ent true KR w14 xq.val (R (f c0) / H (f c0) c0) := Ent.of hq ((hE8 (f c0) hpr).lb.div _)
     have er : Ent true (34 * K + 100) w14 xr.val (R (f c0) % H (f c0) c0) := Ent.of hrm ((lH (f c0) c0 hpr (by omega)).mod _ (by omega))
     replace hEx := hEx.trans hE14
     try replace hb15 := hb15.ext hE14
     try replace hb16 := hb16.ext hE14
     refine ae ?_
     refine bC (fuel := 4) (by kernel_rfl) (by kernel_rfl) [12, 13, 14, 15] _ _ (by kernel_rfl) ?_
     repeat' (first|refine aK rfl rfl ?_|refine ai rfl ?_|refine ae ?_)
     refine aC (fuel := 3) (rs := [17]) (by kernel_rfl) (by kernel_rfl) rfl ?_
     rw [List.forall_mem_singleton]
     refine aG (fun g16 w16 hn16 => ⟨fun _ h => h.trans hn16.ex, ?_⟩)
     have hb16 : Blk w16 g16 43 (intL false none 0 0) := hn16.blk
     have lo16 : w5.heap.size ≤ g16 := Nat.le_trans hEx.size hn16.lo
     try have ne56 : g15 ≠ g16 := (by have := hb15.lt; have := hn16.lo; omega)
     replace hEx := hEx.trans hn16.ex
     try replace hb15 := hb15.ext hn16.ex
     try replace eq := eq.ext hn16.ex
     try replace er := er.ext hn16.ex
     refine ae ?_
     refine aC (fuel := 2) (rs := [18]) (by kernel_rfl) (by kernel_rfl) rfl ?_
     rw [List.forall_mem_singleton]
     refine ax (n := 2) (vs := xq.cells) rfl rfl rfl rfl hb15 rfl (fun w17 hc17 hb17 => ⟨fun _ h => h.chg hc17 lo15, ?_⟩)
     replace hEx := hEx.chg hc17 lo15
     replace hb16 := hb16.chg hc17 (Ne.symm ne56)
     replace eq := eq.gbN hb15 (aB _ _ _ _) (bw hc17)
     replace er := er.gbN hb15 (aB _ _ _ _) (bw hc17)
     refine ae ?_
     refine aC (fuel := 1) (rs := [19]) (by kernel_rfl) (by kernel_rfl) rfl ?_
     rw [List.forall_mem_singleton]
     refine ax (n := 2) (vs := xr.cells) rfl rfl rfl rfl hb16 rfl (fun w18 hc18 hb18 => ⟨fun _ h => h.chg hc18 lo16, ?_⟩)
     replace hEx := hEx.chg hc18 lo16
     replace hb17 := hb17.chg hc18 ne56
     replace eq := eq.gbN hb16 (aB _ _ _ _) (bw hc18)
     replace er := er.gbN hb16 (aB _ _ _ _) (bw hc18)
     refine ae ?_
     refine bC (fuel := 0) (by kernel_rfl) (by kernel_rfl) [20] _ _ (by kernel_rfl) ?_
     repeat' (first|refine ai rfl ?_|refine ae ?_)
     refine bp (by kernel_rfl) ?_
     refine aa ?_
     exact ⟨⟨((_, _), xq, xr), ⟨hEx, lo15, lo16, hb17, hb18, eq, er⟩, rfl, rfl, trivial⟩, (by (repeat (first|exact aM _ _|refine ay rfl ?_|refine av rfl ?_|refine ak rfl ?_|refine ao rfl ?_)))⟩
    ·refine aG (fun g16 w16 hn16 => ⟨fun _ h => h.trans hn16.ex, ?_⟩)
     have hb16 : Blk w16 g16 43 (intL false none 0 0) := hn16.blk
     have lo16 : w5.heap.size ≤ g16 := Nat.le_trans hEx.size hn16.lo
     try have ne56 : g15 ≠ g16 := (by have := hb15.lt; have := hn16.lo; omega)
     replace hEx := hEx.trans hn16.ex
     try replace hb15 := hb15.ext hn16.ex
     try replace eq := eq.ext hn16.ex
     try replace er := er.ext hn16.ex
     refine ae ?_
     refine aC (fuel := 7) (rs := [11]) (by kernel_rfl) (by kernel_rfl) rfl ?_
     rw [List.forall_mem_singleton]
     refine aw (bD ((hE8 (f c0) hpr).ext hEx).k ((hEp c0 (by omega)).ext hEx).k (by omega) (by omega)) rfl ?_
     rintro v w14 ⟨q, rm, rfl, hq, hrm, hE14⟩
     refine ⟨fun _ h => h.trans hE14, ?_⟩
     rw [if_neg (by omega)] at hrm
     obtain ⟨xq, rfl⟩ := hq.ih
     obtain ⟨xr, rfl⟩ := hrm.ih
     have eq : Ent true KR w14 xq.val (R (f c0) / H (f c0) c0) := Ent.of hq ((hE8 (f c0) hpr).lb.div _)
     have er : Ent true (34 * K + 100) w14 xr.val (R (f c0) % H (f c0) c0) := Ent.of hrm ((lH (f c0) c0 hpr (by omega)).mod _ (by omega))
     replace hEx := hEx.trans hE14
     try replace hb15 := hb15.ext hE14
     try replace hb16 := hb16.ext hE14
     refine ae ?_
     refine bC (fuel := 3) (by kernel_rfl) (by kernel_rfl) [12, 13, 14, 15] _ _ (by kernel_rfl) ?_
     repeat' (first|refine aK rfl rfl ?_|refine ai rfl ?_|refine ae ?_)
     refine aC (fuel := 2) (rs := [18]) (by kernel_rfl) (by kernel_rfl) rfl ?_
     rw [List.forall_mem_singleton]
     refine ax (n := 2) (vs := xq.cells) rfl rfl rfl rfl hb15 rfl (fun w17 hc17 hb17 => ⟨fun _ h => h.chg hc17 lo15, ?_⟩)
     replace hEx := hEx.chg hc17 lo15
     replace hb16 := hb16.chg hc17 (Ne.symm ne56)
     replace eq := eq.gbN hb15 (aB _ _ _ _) (bw hc17)
     replace er := er.gbN hb15 (aB _ _ _ _) (bw hc17)
     refine ae ?_
     refine aC (fuel := 1) (rs := [19]) (by kernel_rfl) (by kernel_rfl) rfl ?_
     rw [List.forall_mem_singleton]
     refine ax (n := 2) (vs := xr.cells) rfl rfl rfl rfl hb16 rfl (fun w18 hc18 hb18 => ⟨fun _ h => h.chg hc18 lo16, ?_⟩)
     replace hEx := hEx.chg hc18 lo16
     replace hb17 := hb17.chg hc18 ne56
     replace eq := eq.gbN hb16 (aB _ _ _ _) (bw hc18)
     replace er := er.gbN hb16 (aB _ _ _ _) (bw hc18)
     refine ae ?_
     refine bC (fuel := 0) (by kernel_rfl) (by kernel_rfl) [20] _ _ (by kernel_rfl) ?_
     repeat' (first|refine ai rfl ?_|refine ae ?_)
     refine bp (by kernel_rfl) ?_
     refine aa ?_
     exact ⟨⟨((_, _), xq, xr), ⟨hEx, lo15, lo16, hb17, hb18, eq, er⟩, rfl, rfl, trivial⟩, (by (repeat (first|exact aM _ _|refine ay rfl ?_|refine av rfl ?_|refine ak rfl ?_|refine ao rfl ?_)))⟩
   ·refine aG (fun g16 w16 hn16 => ⟨fun _ h => h.trans hn16.ex, ?_⟩)
    have hb16 : Blk w16 g16 43 (intL false none 0 0) := hn16.blk
    have lo16 : w5.heap.size ≤ g16 := Nat.le_trans hEx.size hn16.lo
    try have ne56 : g15 ≠ g16 := (by have := hb15.lt; have := hn16.lo; omega)
    replace hEx := hEx.trans hn16.ex
    try replace hb15 := hb15.ext hn16.ex
    try replace eq := eq.ext hn16.ex
    try replace er := er.ext hn16.ex
    refine ae ?_
    refine aC (fuel := 8) (rs := [11, 16]) (by kernel_rfl) (by kernel_rfl) rfl ?_
    simp only [List.forall_mem_cons, List.not_mem_nil, false_implies, implies_true, and_true]
    refine ⟨?_, ?_⟩
    ·refine aw (bD ((hE8 (f c0) hpr).ext hEx).k ((hEp c0 (by omega)).ext hEx).k (by omega) (by omega)) rfl ?_
     rintro v w14 ⟨q, rm, rfl, hq, hrm, hE14⟩
     refine ⟨fun _ h => h.trans hE14, ?_⟩
     rw [if_neg (by omega)] at hrm
     obtain ⟨xq, rfl⟩ := hq.ih
     obtain ⟨xr, rfl⟩ := hrm.ih
     have eq : Ent true KR w14 xq.val (R (f c0) / H (f c0) c0) := Ent.of hq ((hE8 (f c0) hpr).lb.div _)
     have er : Ent true (34 * K + 100) w14 xr.val (R (f c0) % H (f c0) c0) := Ent.of hrm ((lH (f c0) c0 hpr (by omega)).mod _ (by omega))
     replace hEx := hEx.trans hE14
     try replace hb15 := hb15.ext hE14
     try replace hb16 := hb16.ext hE14
     refine ae ?_
     refine bC (fuel := 4) (by kernel_rfl) (by kernel_rfl) [12, 13, 14, 15] _ _ (by kernel_rfl) ?_
     repeat' (first|refine aK rfl rfl ?_|refine ai rfl ?_|refine ae ?_)
     refine aC (fuel := 3) (rs := [16]) (by kernel_rfl) (by kernel_rfl) rfl ?_
     rw [List.forall_mem_singleton]
     refine aG (fun g15 w15 hn15 => ⟨fun _ h => h.trans hn15.ex, ?_⟩)
     have hb15 : Blk w15 g15 43 (intL false none 0 0) := hn15.blk
     have lo15 : w5.heap.size ≤ g15 := Nat.le_trans hEx.size hn15.lo
     try have ne56 : g15 ≠ g16 := (by have := hb16.lt; have := hn15.lo; omega)
     replace hEx := hEx.trans hn15.ex
     try replace hb16 := hb16.ext hn15.ex
     try replace eq := eq.ext hn15.ex
     try replace er := er.ext hn15.ex
     refine ae ?_
     refine aC (fuel := 2) (rs := [18]) (by kernel_rfl) (by kernel_rfl) rfl ?_
     rw [List.forall_mem_singleton]
     refine ax (n := 2) (vs := xq.cells) rfl rfl rfl rfl hb15 rfl (fun w17 hc17 hb17 => ⟨fun _ h => h.chg hc17 lo15, ?_⟩)
     replace hEx := hEx.chg hc17 lo15
     replace hb16 := hb16.chg hc17 (Ne.symm ne56)
     replace eq := eq.gbN hb15 (aB _ _ _ _) (bw hc17)
     replace er := er.gbN hb15 (aB _ _ _ _) (bw hc17)
     refine ae ?_
     refine aC (fuel := 1) (rs := [19]) (by kernel_rfl) (by kernel_rfl) rfl ?_
     rw [List.forall_mem_singleton]
     refine ax (n := 2) (vs := xr.cells) rfl rfl rfl rfl hb16 rfl (fun w18 hc18 hb18 => ⟨fun _ h => h.chg hc18 lo16, ?_⟩)
     replace hEx := hEx.chg hc18 lo16
     replace hb17 := hb17.chg hc18 ne56
     replace eq := eq.gbN hb16 (aB _ _ _ _) (bw hc18)
     replace er := er.gbN hb16 (aB _ _ _ _) (bw hc18)
     refine ae ?_
     refine bC (fuel := 0) (by kernel_rfl) (by kernel_rfl) [20] _ _ (by kernel_rfl) ?_
     repeat' (first|refine ai rfl ?_|refine ae ?_)
     refine bp (by kernel_rfl) ?_
     refine aa ?_
     exact ⟨⟨((_, _), xq, xr), ⟨hEx, lo15, lo16, hb17, hb18, eq, er⟩, rfl, rfl, trivial⟩, (by (repeat (first|exact aM _ _|refine ay rfl ?_|refine av rfl ?_|refine ak rfl ?_|refine ao rfl ?_)))⟩
    ·refine aG (fun g15 w15 hn15 => ⟨fun _ h => h.trans hn15.ex, ?_⟩)
     have hb15 : Blk w15 g15 43 (intL false none 0 0) := hn15.blk
     have lo15 : w5.heap.size ≤ g15 := Nat.le_trans hEx.size hn15.lo
     try have ne56 : g15 ≠ g16 := (by have := hb16.lt; have := hn15.lo; omega)
     replace hEx := hEx.trans hn15.ex
     try replace hb16 := hb16.ext hn15.ex
     try replace eq := eq.ext hn15.ex
     try replace er := er.ext hn15.ex
     refine ae ?_
     refine aC (fuel := 7) (rs := [11]) (by kernel_rfl) (by kernel_rfl) rfl ?_
     rw [List.forall_mem_singleton]
     refine aw (bD ((hE8 (f c0) hpr).ext hEx).k ((hEp c0 (by omega)).ext hEx).k (by omega) (by omega)) rfl ?_
     rintro v w14 ⟨q, rm, rfl, hq, hrm, hE14⟩
     refine ⟨fun _ h => h.trans hE14, ?_⟩
     rw [if_neg (by omega)] at hrm
     obtain ⟨xq, rfl⟩ := hq.ih
     obtain ⟨xr, rfl⟩ := hrm.ih
     have eq : Ent true KR w14 xq.val (R (f c0) / H (f c0) c0) := Ent.of hq ((hE8 (f c0) hpr).lb.div _)
     have er : Ent true (34 * K + 100) w14 xr.val (R (f c0) % H (f c0) c0) := Ent.of hrm ((lH (f c0) c0 hpr (by omega)).mod _ (by omega))
     replace hEx := hEx.trans hE14
     try replace hb15 := hb15.ext hE14
     try replace hb16 := hb16.ext hE14
     refine ae ?_
     refine bC (fuel := 3) (by kernel_rfl) (by kernel_rfl) [12, 13, 14, 15] _ _ (by kernel_rfl) ?_
     repeat' (first|refine aK rfl rfl ?_|refine ai rfl ?_|refine ae ?_)
     refine aC (fuel := 2) (rs := [18]) (by kernel_rfl) (by kernel_rfl) rfl ?_
     rw [List.forall_mem_singleton]
     refine ax (n := 2) (vs := xq.cells) rfl rfl rfl rfl hb15 rfl (fun w17 hc17 hb17 => ⟨fun _ h => h.chg hc17 lo15, ?_⟩)
     replace hEx := hEx.chg hc17 lo15
     replace hb16 := hb16.chg hc17 (Ne.symm ne56)
     replace eq := eq.gbN hb15 (aB _ _ _ _) (bw hc17)
     replace er := er.gbN hb15 (aB _ _ _ _) (bw hc17)
     refine ae ?_
     refine aC (fuel := 1) (rs := [19]) (by kernel_rfl) (by kernel_rfl) rfl ?_
     rw [List.forall_mem_singleton]
     refine ax (n := 2) (vs := xr.cells) rfl rfl rfl rfl hb16 rfl (fun w18 hc18 hb18 => ⟨fun _ h => h.chg hc18 lo16, ?_⟩)
     replace hEx := hEx.chg hc18 lo16
     replace hb17 := hb17.chg hc18 ne56
     replace eq := eq.gbN hb16 (aB _ _ _ _) (bw hc18)
     replace er := er.gbN hb16 (aB _ _ _ _) (bw hc18)
     refine ae ?_
     refine bC (fuel := 0) (by kernel_rfl) (by kernel_rfl) [20] _ _ (by kernel_rfl) ?_
     repeat' (first|refine ai rfl ?_|refine ae ?_)
     refine bp (by kernel_rfl) ?_
     refine aa ?_
     exact ⟨⟨((_, _), xq, xr), ⟨hEx, lo15, lo16, hb17, hb18, eq, er⟩, rfl, rfl, trivial⟩, (by (repeat (first|exact aM _ _|refine ay rfl ?_|refine av rfl ?_|refine ak rfl ?_|refine ao rfl ?_)))⟩
  ·rintro ⟨⟨g13, g14⟩, xq, xr⟩ ξ2 w6 ⟨hE6, lo13, lo14, hb13, hb14, eq, er⟩
   simp only at lo13 lo14 hb13 hb14 eq er
   show CW _ _ _ _ (over [(13, .pointer (some ⟨g13, 0, none⟩)), (14, .pointer (some ⟨g14, 0, none⟩))] _) w6
   repeat' (first|refine aR (g := g14) rfl hb14 rfl ?_|refine aj ?_|refine ah rfl ?_)
   refine aw (cI er.k) rfl ?_
   rintro v w7 ⟨rfl, hE7⟩
   refine ⟨fun _ _ => trivial, ?_⟩
   have hE57 := hE6.trans hE7
   by_cases hz : R (f c0) % H (f c0) c0 = 0
   ·have hdv : H (f c0) c0 ∣ R (f c0) := Int.dvd_of_emod_eq_zero hz
    repeat' (first|(refine cN rfl rfl (by rw [hz]; rfl) ?_)|refine ai rfl ?_|refine aa ?_|refine aj ?_|refine ah rfl ?_|refine ae ?_|refine aZ rfl ?_|refine au rfl ?_|refine aA ?_|refine aE ?_)
    have hG7 : w4.grownBy w7 (some g8) := bJ hG5 (lL hE57) (fun k e => .inl e)
    have hM7 := hM5.ext hE57
    have hb137 := hb13.ext hE7
    have eq7 := eq.ext hE7
    have hR7 := hR5.ext hE57
    have lg8 := hR5.lt
    refine aY (ι := Nat) [16, 17, 74, 75, 76, 77, 78, 79, 80, 81, 82, 83, 84, 85, 86, 87, 88, 89, 90, 91, 92, 93] (fun i => [(74, .int .i64 (i : Int))])
     (fun i w' => (i ≤ r ∧ w7.grownBy w' (some g8)) ∧ RO false (KR + (34 * K + 101)) w' w1.heap.size g8 r r (fun j => if j < i then R j - R (f c0) / H (f c0) c0 * H j c0 else R j)) (fun i => r - i)
     0 ⟨rfl, trivial⟩ ⟨⟨by omega, lL (Ex.refl _)⟩, (hR7.up (by omega)).congr fun j _ => if_neg (by omega)⟩ ?_
    clear hR7
    rintro i ξ3 w8 ⟨⟨hi, hG8⟩, hR8⟩
    show CW _ _ _ _ (over [(74, .int .i64 (i : Int))] _) w8
    have hb87 : Blk w7 g8 43 (rowC r hhr) := hb8.ext hE57
    have hM8 := hM7.gbN hb87 (bE _ _) hG8 ng ngs
    rcases Nat.lt_or_ge i r with hir | hir
    ·obtain ⟨hhi, hbi, hci, hEi⟩ := hM8.get hir
     obtain ⟨hhr8, hb88, hE88⟩ := hR8.ex
     have ei := hE88 i hir
     rw [if_neg (by omega)] at ei
     have hb138 := hb137.gb hG8 (fun e => by cases e; omega)
     have eq8 := eq7.gbN hb87 (bE _ _) hG8
     have lR : Lb KR (R i) := (hE8 i hir).lb
     repeat' (first|refine bu rfl rfl (by omega) ?_|refine aa ?_|refine aj ?_|refine ah rfl ?_|refine ae ?_|refine az rfl ?_|refine aE ?_)
     refine aA ?_
     repeat' (first|refine aD (j := i) (a := some ⟨g, 0, none⟩) rfl rfl ⟨_, _, rfl⟩ (by omega) ?_|refine aV (j := i) (a := some ⟨g, 0, none⟩) (n := r) (s := fun k => ⟨some ⟨gs k, 0, none⟩, c, cp k⟩) rfl hM8.top.sl (by omega) rfl ?_|refine ai rfl ?_|refine aa ?_|refine aj ?_|refine ah rfl ?_|refine ae ?_)
     refine bi (late := [14]) (plan := [(0, none), (1, none), (2, none), (3, none), (4, none), (5, none), (6, none), (7, none), (8, none), (9, none), (10, none), (11, some true), (12, some true), (13, none), (14, some false)]) (fun w' => Ex w8 w') bA (by kernel_rfl) (Ex.refl w8).drew ?_
     have hEd := (Ex.refl w8).drew
     repeat' (first|refine aT (j := i) (a := some ⟨g8, 0, none⟩) rfl rfl ⟨_, _, rfl⟩ (by omega) ?_|refine bo (j := i) (n := r) (a := some ⟨g8, 0, none⟩) rfl (fun _ h => (hb88.ext h).sl) ⟨_, _, rfl⟩ (by omega) ?_|refine aR (g := g13) rfl (fun _ h => hb138.ext h) rfl ?_|refine aT (j := c0) (a := some ⟨gs i, 0, none⟩) rfl rfl ⟨_, _, rfl⟩ (by omega) ?_|refine bo (j := c0) (n := cp i) (a := some ⟨gs i, 0, none⟩) rfl (fun _ h => (hbi.ext h).sl) ⟨_, _, rfl⟩ (by omega) ?_|refine ai rfl ?_)
     refine aw (cJ (eq8.ext hEd).k ((hEi c0 (by omega)).ext hEd).k (by omega)) rfl ?_
     rintro v w9 ⟨hI9, hE9⟩
     refine ⟨fun _ h => h.trans hE9, ?_⟩
     have lq : Lb (KR + (34 * K + 100)) (R (f c0) / H (f c0) c0 * H i c0) := eq8.lb.mul (lH i c0 hir (by omega))
     have hE89 := hEd.trans hE9
     skip
     refine aw (ed (ei.ext hE89).k (hI9.k lq) (by omega) (by omega)) rfl ?_
     rintro v w10 ⟨hI10, hE10⟩
     refine ⟨fun _ h => h.trans hE10, ?_⟩
     obtain ⟨u, rfl⟩ := hI10.ih
     have hE810 := hE89.trans hE10
     have lu : Lb (KR + (34 * K + 101)) (R i - R (f c0) / H (f c0) c0 * H i c0) := ((lR.mono (show KR ≤ KR + (34 * K + 100) by omega)).sub lq).mono (by omega)
     repeat' (first|refine aT (j := i) (a := some ⟨g8, 0, none⟩) rfl rfl ⟨_, _, rfl⟩ (by omega) ?_)
     refine bR (j := i) (n := r) (u := u) rfl rfl (hb88.ext hE810) (by omega) (fun w11 hc11 hb11 => ⟨fun h => (nomatch h), ?_⟩)
     repeat' (first|refine ai rfl ?_|refine aa ?_|refine ah rfl ?_|refine ae ?_|refine bc rfl rfl (by omega) (by omega) ?_|refine aL ?_)
     refine ⟨⟨i + 1, ⟨⟨hir, bJ hG8 (bJ (lL hE810) (bw hc11) (fun k e => .inl e)) (fun k e => .inl e)⟩, (RO.put hR8.low hR8.le (hb88.ext hE810) (fun j hj => (hE88 j hj).ext hE810) (Ent.of hI10 lu) hc11 hb11).congr fun j _ => ?_⟩, by omega, rfl, trivial⟩, (by (repeat (first|exact aH _ _ _|refine ay rfl ?_|refine av rfl ?_|refine ak rfl ?_|refine ao rfl ?_)))⟩
     by_cases e : j = i
     ·subst e; rw [aS, if_pos (Nat.lt_succ_self _)]
     ·rw [aX _ _ e]
      by_cases h : j < i
      ·rw [if_pos h, if_pos (by omega)]
      ·rw [if_neg h, if_neg (by omega)]
    ·have eir : r = i := by omega
     subst eir
     repeat' (first|refine bj rfl rfl (by omega) ?_|refine ai rfl ?_|refine aa ?_|refine aj ?_|refine ah rfl ?_|refine ae ?_|refine bc rfl rfl (by omega) (by omega) ?_|refine au rfl ?_|refine aP ?_|refine aJ ?_|refine aQ ?_|refine aL ?_)
     refine ⟨⟨(c0 + 1, fun j => R j - R (f c0) / H (f c0) c0 * H j c0), ⟨⟨hck, bJ hG7 hG8 (fun k e => .inl e)⟩, ?_, hJ.step hH hck hdv fun j _ => rfl⟩, by simp only; omega, rfl, trivial⟩, (by (repeat (first|exact aH _ _ _|refine ay rfl ?_|refine av rfl ?_|refine ak rfl ?_|refine ao rfl ?_)))⟩
     simp only
     rw [cb1, ← Nat.add_assoc, ← hKR]
     exact hR8.congr fun j hj => by rw [if_pos hj]
   ·repeat' (first|refine df rfl rfl (fun e => hz (Int.sign_eq_zero_iff_zero.1 e)) ?_|refine ai rfl ?_|refine aa ?_|refine aj ?_|refine ah rfl ?_|refine ae ?_|refine az rfl ?_|refine aI ?_|refine aU ?_|refine bQ ?_)
    exact bx rfl (rt rfl) ⟨false, rfl, hL ⟨fun h => (nomatch h), fun h => absurd h (hJ.fail hH hck fun hd => hz (Int.emod_eq_zero_of_dvd hd))⟩, hE05.trans hE57⟩
 ·have eck : k = c0 := by omega
  subst eck
  repeat' (first|refine bj rfl rfl (by omega) ?_|refine ai rfl ?_|refine aa ?_|refine aj ?_|refine ah rfl ?_|refine ae ?_|refine aZ rfl ?_|refine au rfl ?_|refine aA ?_|refine aP ?_|refine aJ ?_|refine aQ ?_)
  obtain ⟨hhr, hb8, hE8⟩ := hR5.ex
  refine aY (ι := Nat) [4, 19, 97, 98, 99, 100, 101, 102, 103, 104] (fun i => [(97, .int .i64 (i : Int))])
   (fun i w' => i ≤ r ∧ Ex w5 w' ∧ ∀ j, j < i → R j = 0) (fun i => r - i)
   0 ⟨rfl, trivial⟩ ⟨by omega, Ex.refl _, fun j h => by omega⟩ ?_
  rintro i ξ2 w6 ⟨hi, hE6, hz⟩
  show CW _ _ _ _ (over [(97, .int .i64 (i : Int))] _) w6
  rcases Nat.lt_or_ge i r with hir | hir
  ·repeat' (first|refine bu rfl rfl (by omega) ?_|refine aT (j := i) (a := some ⟨g8, 0, none⟩) rfl rfl ⟨_, _, rfl⟩ (by omega) ?_|refine bo (j := i) (n := r) (a := some ⟨g8, 0, none⟩) rfl (hb8.ext hE6).sl ⟨_, _, rfl⟩ (by omega) ?_|refine aa ?_|refine aj ?_|refine ah rfl ?_|refine ae ?_|refine az rfl ?_|refine aA ?_|refine aE ?_)
   refine aG (fun g19 w7 hn7 => ⟨fun _ _ => trivial, ?_⟩)
   have hb7 : Blk w7 g19 43 (intL false none 0 0) := hn7.blk
   refine ax (n := 2) (vs := (hhr i).cells) rfl rfl rfl rfl hb7 rfl (fun w8 hc8 hb8' => ⟨fun _ _ => trivial, ?_⟩)
   have hE68 : Ex w6 w8 := hn7.ex.chg hc8 hn7.lo
   repeat' (first|refine aR (g := g19) rfl hb8' rfl ?_|refine aa ?_|refine aj ?_|refine ah rfl ?_|refine ae ?_)
   refine aw (cI (((hE8 i hir).ext hE6).ext hE68).k) rfl ?_
   rintro v w9 ⟨rfl, hE9⟩
   refine ⟨fun _ _ => trivial, ?_⟩
   have hE69 := hE68.trans hE9
   by_cases h : R i = 0
   ·repeat' (first|(refine cN rfl rfl (by rw [h]; rfl) ?_)|refine ai rfl ?_|refine aa ?_|refine ah rfl ?_|refine ae ?_|refine bc rfl rfl (by omega) (by omega) ?_|refine au rfl ?_|refine aL ?_|refine aE ?_)
    refine ⟨⟨i + 1, ⟨hir, hE6.trans hE69, fun j hj => ?_⟩, by omega, rfl, trivial⟩, (by (repeat (first|exact aH _ _ _|refine ay rfl ?_|refine av rfl ?_|refine ak rfl ?_|refine ao rfl ?_)))⟩
    by_cases e : j = i
    ·subst e; exact h
    ·exact hz j (by omega)
   ·repeat' (first|refine df rfl rfl (fun e => h (Int.sign_eq_zero_iff_zero.1 e)) ?_|refine ai rfl ?_|refine aa ?_|refine aj ?_|refine ah rfl ?_|refine ae ?_|refine az rfl ?_|refine aI ?_|refine aU ?_|refine bQ ?_)
    exact bx rfl (rt rfl) ⟨false, rfl, hL ⟨fun h => (nomatch h), fun hv => absurd ((hJ.done hH).1 hv i hir) h⟩, (hE05.trans hE6).trans hE69⟩
  ·have eir : r = i := by omega
   subst eir
   repeat' (first|refine bj rfl rfl (by omega) ?_|refine ai rfl ?_|refine aa ?_|refine aj ?_|refine ah rfl ?_|refine ae ?_|refine au rfl ?_|refine aP ?_|refine aJ ?_|refine aQ ?_|refine aI ?_)
   exact bx rfl (rt rfl) ⟨true, rfl, hL ⟨fun _ => (hJ.done hH).2 hz, fun _ => rfl⟩, hE05.trans hE6⟩
end Go.Proofs.YtiejljicpinheaaGreat
namespace Go.Proofs.YtiejljicpinheaaGreat
open Go.W Go.LM Go.LA
theorem kU {n cap : Nat} {w : World} {a : Option Addr} {s : Nat → SD} (hS : Sl w a (topC n s)) (hno : ¬ okS n s) :
  CallsR Tryz.prog 15 #[.slice a n cap] w fun v w' => v = .tuple #[.slice none 0 0, .slice none 0 0, .bool false] ∧ Ex w w' := by
 refine aF (args := [_]) Tryz.func15 rfl rfl ?_
 repeat' (first|refine ai rfl ?_|refine aa ?_|refine aj ?_|refine ah rfl ?_|refine ae ?_)
 refine aw (cc hS) rfl ?_
 rintro v w1 ⟨rfl, hE1⟩
 refine ⟨fun _ _ => trivial, ?_⟩
 rw [dH hno]
 repeat' (first|refine aK rfl rfl ?_|refine ai rfl ?_|refine aa ?_|refine aj ?_|refine ah rfl ?_|refine ae ?_|refine az rfl ?_|refine aI ?_|refine aU ?_)
 exact eo rfl (rt rfl) (rt rfl) (rt rfl) ⟨rfl, hE1⟩
end Go.Proofs.YtiejljicpinheaaGreat
namespace Go.Proofs.YtiejljicpinheaaGreat
open Go.W Go.LM Go.LA
set_option maxHeartbeats 2000000 in
theorem fD {cn : Bool} {K r c k cap : Nat} {w : World} {a : Option Addr} {s : Nat → SD} {F : Mat} (hM : MX cn K w a r c s F) (hr : 1 ≤ r ∧ r ≤ 1000) (hk : k < c) :
  CallsR Tryz.prog 66 #[.slice a r cap, .int .i64 (k : Int)] w fun v w' => ∃ p : Nat, v = .int .i64 (p : Int) ∧ p ≤ r ∧ (∀ x, x < p → F x k = 0) ∧ (p < r → F p k ≠ 0) ∧ Ex w w' := by
 have hpt := hM.plain (by omega)
 refine aF (args := [_, _]) Tryz.func66 rfl rfl ?_
 repeat' (first|refine ai rfl ?_|refine aa ?_|refine aj ?_|refine ah rfl ?_|refine ae ?_|refine aZ rfl ?_|refine aA ?_)
 refine aY (ι := Nat) [4, 5, 8, 9, 10, 11, 12, 13, 14, 15, 16, 17, 18, 19, 20, 21] (fun i => [(8, .int .i64 (i : Int))])
  (fun i w' => i ≤ r ∧ Ex w w' ∧ ∀ x, x < i → F x k = 0) (fun i => r - i)
  0 ⟨rfl, trivial⟩ ⟨by omega, Ex.refl _, fun x h => by omega⟩ ?_
 rintro i ξ w2 ⟨hi, hE2, hz⟩
 show CW _ _ _ _ (over [(8, .int .i64 (i : Int))] _) w2
 rcases Nat.lt_or_ge i r with hir | hir
 ·obtain ⟨pa, d, hh, e1, e2, hpp, hS, hEn⟩ := (hM.ext hE2).get hir (by omega)
  repeat' (first|refine bu rfl rfl (by omega) ?_|refine aD (j := i) (a := a) rfl rfl hpt (by omega) ?_|refine aV (j := i) (a := a) (n := r) (s := s) rfl (hM.ext hE2).top (by omega) e1 ?_|refine aT (j := k) (a := pa) rfl rfl hpp (by omega) ?_|refine bo (j := k) (a := pa) rfl hS hpp (by omega) ?_|refine ai rfl ?_|refine aa ?_|refine aj ?_|refine ah rfl ?_|refine ae ?_|refine az rfl ?_|refine aA ?_|refine aE ?_)
  refine aw (cj (hEn k hk).k) rfl ?_
  rintro v w3 ⟨rfl, hE3⟩
  refine ⟨fun _ _ => trivial, ?_⟩
  by_cases h : F i k = 0
  ·repeat' (first|(refine cN rfl rfl (by rw [h]; rfl) ?_)|refine ai rfl ?_|refine aa ?_|refine ah rfl ?_|refine ae ?_|refine bc rfl rfl (by omega) (by omega) ?_|refine au rfl ?_|refine aL ?_|refine aE ?_)
   refine ⟨⟨i + 1, ⟨hir, hE2.trans hE3, fun x hx => ?_⟩, by omega, rfl, trivial⟩, (by (repeat (first|exact aH _ _ _|refine ay rfl ?_|refine av rfl ?_|refine ak rfl ?_|refine ao rfl ?_)))⟩
   by_cases e : x = i
   ·subst e; exact h
   ·exact hz x (by omega)
  ·repeat' (first|refine df rfl rfl (fun e => h (Int.sign_eq_zero_iff_zero.1 e)) ?_|refine ai rfl ?_|refine aa ?_|refine aj ?_|refine ah rfl ?_|refine ae ?_|refine az rfl ?_|refine aI ?_|refine aU ?_|refine bQ ?_)
   exact bx rfl (rt rfl) ⟨i, rfl, hi, hz, fun _ => h, hE2.trans hE3⟩
 ·have eir : r = i := by omega
  subst eir
  repeat' (first|refine bj rfl rfl (by omega) ?_|refine ai rfl ?_|refine aa ?_|refine aj ?_|refine ah rfl ?_|refine ae ?_|refine aZ rfl ?_|refine au rfl ?_|refine aP ?_|refine aJ ?_|refine aQ ?_|refine aI ?_)
  exact bx rfl (rt rfl) ⟨r, rfl, Nat.le_refl _, hz, fun h => by omega, hE2⟩
theorem mF {r c k l p : Nat} {H : Mat} {f : Nat → Nat} (h : HF r c H k f) (hl : l < c) (hp : p ≤ r) (hz : ∀ x, x < p → H x l = 0) (hn : p < r → H p l ≠ 0) : (p < r ↔ l < k) ∧ (p < r → p = f l) := by
 constructor
 ·constructor
  ·intro hpr; exact (h.piv hl hpr hz (hn hpr)).1
  ·intro hlk
   rcases Nat.lt_or_ge p r with h' | h'
   ·exact h'
   ·have := h.pos l hlk; rw [hz _ (by have := h.lt l hlk; omega)] at this; omega
 ·intro hpr; exact (h.piv hl hpr hz (hn hpr)).2.symm
def RetRB (r c s Q : Nat) (A : Mat) (w : World) (v : Value) (w' : World) : Prop :=
 ∃ (H U : Mat) (k : Nat) (p : Nat → Nat) (u : SD), v = .tuple #[.slice u.a u.len u.cap, .bool true] ∧ CEq r c A H U ∧ HF r c H k p ∧ (k = 0 → u = sd0) ∧ (0 < k → ∃ g gs cp, u = ⟨some ⟨g, 0, none⟩, r, r⟩ ∧ MO true (Zb Q s (c + k)) w' w.heap.size g r k gs cp H) ∧ Ex w w'
theorem RetRB.basis {KM r c s Q : Nat} {A : Mat} {w w' : World} {v : Value} (h : RetRB r c s Q A w v w') (hQ : 10 ≤ Q) (hKM : Zb Q s (2 * c + 1) ≤ KM) : RetBasis KM r c A w v w' := by
 obtain ⟨H, U, k, p, u, h1, h2, h3, h4, h5, h6⟩ := h
 refine ⟨H, U, k, p, u, h1, h2, h3, h4, fun h => ?_, h6⟩
 obtain ⟨g, gs, cp, e, hM⟩ := h5 h
 exact ⟨g, gs, cp, e, hM.up (Nat.le_trans (eh hQ (by have := h3.kc; omega)) hKM)⟩
theorem eD {n cap : Nat} {w : World} {a : Option Addr} {s : Nat → SD} (hS : Sl w a (topC n s)) (hno : ¬ okS n s) :
  CallsR Tryz.prog 22 #[.slice a n cap] w fun v w' => v = .tuple #[.slice none 0 0, .bool false] ∧ Ex w w' := by
 refine aF (args := [_]) Tryz.func22 rfl rfl ?_
 repeat' (first|refine ai rfl ?_|refine aa ?_|refine aj ?_|refine ah rfl ?_|refine ae ?_)
 refine aw (kU hS hno) rfl ?_
 rintro v w1 ⟨rfl, hE1⟩
 refine ⟨fun _ _ => trivial, ?_⟩
 repeat' (first|refine aK rfl rfl ?_|refine ai rfl ?_|refine aa ?_|refine aj ?_|refine ah rfl ?_|refine ae ?_|refine az rfl ?_|refine aI ?_|refine aU ?_)
 exact cA rfl (rt rfl) (rt rfl) ⟨rfl, hE1⟩
set_option maxHeartbeats 4000000 in
theorem cV {cn : Bool} {K KM r c cap s Q : Nat} {w : World} {a : Option Addr} {sh : Nat → SD} {A : Mat} (hM : MX cn K w a r c sh A) (hr : 1 ≤ r ∧ r ≤ 16) (hc : 1 ≤ c ∧ c ≤ 16) (hA : ∀ l, l < c → ∀ i, i < r → Lb (Zb Q s l) (A i l)) (hQ : 10 ≤ Q) (hKM : Zb Q s (2 * c + 1) ≤ KM) (hK : 2 * KM < 17592186044415) :
  CallsR Tryz.prog 22 #[.slice a r cap] w (RetRB r c s Q A w) := by
 refine aF (args := [_]) Tryz.func22 rfl rfl ?_
 repeat' (first|refine ai rfl ?_|refine aa ?_|refine aj ?_|refine ah rfl ?_|refine ae ?_)
 refine aw (gi hM hr hc hA hQ hKM hK) rfl ?_
 rintro v w1 ⟨g, g', gs, cp, gs', cp', H, U, k, p, rfl, hF, _, _, hdn, hE1⟩
 refine ⟨fun _ _ => trivial, ?_⟩
 have hHF := hF.hf
 have hkc := hHF.kc
 repeat' (first|refine aK rfl rfl ?_|refine ai rfl ?_|refine aa ?_|refine aj ?_|refine ah rfl ?_|refine ae ?_|refine au rfl ?_|refine aE ?_)
 refine ct (ι := Unit) [7, 17, 18, 19, 20, 21, 22, 23, 24, 25, 26, 27, 28, 29, 30, 31, 32] (fun _ => [(7, .int .i64 (k : Int))]) (fun _ w' => Ex w1 w') ?_ ?_
 ·refine aA ?_
  refine aY (ι := Nat) [7, 17, 18, 19, 20, 21, 22, 23, 24, 25, 26, 27, 28, 29, 30, 31, 32] (fun l => [(7, .int .i64 (l : Int))])
   (fun l w' => l ≤ k ∧ Ex w1 w') (fun l => k - l)
   0 ⟨rfl, trivial⟩ ⟨by omega, Ex.refl _⟩ ?_
  rintro l ξ w2 ⟨hl, hE2⟩
  show CW _ _ _ _ (over [(7, .int .i64 (l : Int))] _) w2
  have hO2 := hF.h.ext hE2
  rcases Nat.lt_or_ge l c with hlc | hlc
  ·repeat' (first|refine aD (j := 0) (a := some ⟨g, 0, none⟩) rfl rfl ⟨_, _, rfl⟩ (by omega) ?_|refine aV (j := 0) (a := some ⟨g, 0, none⟩) (n := r) (s := fun k => ⟨some ⟨gs k, 0, none⟩, c, cp k⟩) rfl hO2.top.sl (by omega) rfl ?_|refine bu rfl rfl (by omega) ?_|refine ai rfl ?_|refine aj ?_|refine ah rfl ?_|refine aZ rfl ?_|refine bz rfl rfl ?_)
   refine aw (fD hO2.mx ⟨hr.1, by omega⟩ hlc) rfl ?_
   rintro v w3 ⟨q, rfl, hq, hz, hn, hE3⟩
   refine ⟨fun _ _ => trivial, ?_⟩
   obtain ⟨t1, _⟩ := mF hHF hlc hq hz hn
   rcases Nat.lt_or_ge l k with hlk | hlk
   ·have hqr := t1.2 hlk
    repeat' (first|refine bu rfl rfl (by omega) ?_|refine ai rfl ?_|refine aa ?_|refine ah rfl ?_|refine ae ?_|refine aZ rfl ?_|refine bz rfl rfl ?_|refine bc rfl rfl (by omega) (by omega) ?_|refine az rfl ?_|refine aA ?_|refine aL ?_|refine aE ?_)
    exact ⟨⟨l + 1, ⟨hlk, hE2.trans hE3⟩, by omega, rfl, trivial⟩, (by (repeat (first|exact aH _ _ _|refine ay rfl ?_|refine av rfl ?_|refine ak rfl ?_|refine ao rfl ?_)))⟩
   ·have elk : l = k := by omega
    subst elk
    have hqr : ¬ q < r := fun h => by have := t1.1 h; omega
    repeat' (first|refine bj rfl rfl (by omega) ?_|refine ai rfl ?_|refine aa ?_|refine ae ?_|refine aZ rfl ?_|refine bz rfl rfl ?_|refine au rfl ?_|refine aP ?_|refine aJ ?_|refine aQ ?_)
    exact ⟨⟨(), hE2.trans hE3, rfl, trivial⟩, (by (repeat (first|exact aM _ _|refine ay rfl ?_|refine av rfl ?_|refine ak rfl ?_|refine ao rfl ?_)))⟩
  ·have elk : l = k := by omega
   subst elk
   repeat' (first|refine aD (j := 0) (a := some ⟨g, 0, none⟩) rfl rfl ⟨_, _, rfl⟩ (by omega) ?_|refine aV (j := 0) (a := some ⟨g, 0, none⟩) (n := r) (s := fun k => ⟨some ⟨gs k, 0, none⟩, c, cp k⟩) rfl hO2.top.sl (by omega) rfl ?_|refine bj rfl rfl (by omega) ?_|refine ai rfl ?_|refine aa ?_|refine aj ?_|refine ah rfl ?_|refine ae ?_|refine aZ rfl ?_|refine bK rfl rfl ?_|refine au rfl ?_|refine aP ?_|refine aJ ?_|refine aQ ?_)
   exact ⟨⟨(), hE2, rfl, trivial⟩, (by (repeat (first|exact aM _ _|refine ay rfl ?_|refine av rfl ?_|refine ak rfl ?_|refine ao rfl ?_)))⟩
 ·rintro ⟨⟩ ξ w2 hE2
  show CW _ _ _ _ (over [(7, .int .i64 (k : Int))] _) w2
  have hE02 := hE1.trans hE2
  by_cases hk : k = 0
  ·repeat' (first|refine eF rfl rfl (by omega) ?_|refine ai rfl ?_|refine aa ?_|refine aj ?_|refine ah rfl ?_|refine ae ?_|refine az rfl ?_|refine aI ?_|refine aU ?_)
   exact cA rfl (rt rfl) (rt rfl) ⟨H, U, k, p, sd0, rfl, hF.ceq, hHF, fun _ => rfl, fun h => by omega, hE02⟩
  ·repeat' (first|refine dU rfl rfl (by omega) ?_|refine ai rfl ?_|refine aa ?_|refine aj ?_|refine ah rfl ?_|refine ae ?_|refine aZ rfl ?_|refine au rfl ?_|refine aA ?_|refine aE ?_)
   have hO2 := hF.h.ext hE2
   have s1 := hE1.size
   have glo := hF.h.low
   refine aY (ι := Nat) [8, 37, 38, 39, 40, 41, 42, 43, 44, 45, 46, 47, 48, 49] (fun t => [(37, .int .i64 (t : Int))])
    (fun t w' => (t ≤ r ∧ Ex w w' ∧ w2.grownBy w' (some g)) ∧ Blk w' g 31 (topC r fun i => if i < t then ⟨some ⟨gs i, 0, none⟩, k, cp i⟩ else ⟨some ⟨gs i, 0, none⟩, c, cp i⟩)) (fun t => r - t)
    0 ⟨rfl, trivial⟩ ⟨⟨by omega, hE02, lL (Ex.refl _)⟩, hO2.top⟩ ?_
   rintro t ξ2 w3 ⟨⟨ht, hE3, hG3⟩, hT3⟩
   show CW _ _ _ _ (over [(37, .int .i64 (t : Int))] _) w3
   rcases Nat.lt_or_ge t r with htr | htr
   ·have hcp := (hF.h.row t htr).le
    repeat' (first|refine bu rfl rfl (by omega) ?_|refine aD (j := t) (a := some ⟨g, 0, none⟩) rfl rfl ⟨_, _, rfl⟩ (by omega) ?_|refine aV (j := t) (a := some ⟨g, 0, none⟩) (n := r) (a1 := some ⟨gs t, 0, none⟩) (l1 := c) (c1 := cp t) rfl hT3.sl (by omega) (if_neg (by omega)) ?_|refine fO rfl rfl (by omega) (by omega) ?_|refine ai rfl ?_|refine aa ?_|refine aj ?_|refine ah rfl ?_|refine ae ?_|refine az rfl ?_|refine aA ?_|refine aE ?_)
    refine ch (j := t) (u := ⟨some ⟨gs t, 0, none⟩, k, cp t⟩) rfl rfl hT3 (by omega) (fun w4 hc4 hT4 => ⟨fun _ _ => trivial, ?_⟩)
    repeat' (first|refine ai rfl ?_|refine aa ?_|refine ah rfl ?_|refine ae ?_|refine bc rfl rfl (by omega) (by omega) ?_|refine aL ?_)
    refine ⟨⟨t + 1, ⟨⟨htr, hE3.chg hc4 glo, bJ hG3 (bw hc4) (fun k e => .inl e)⟩, ?_⟩, by omega, rfl, trivial⟩, (by (repeat (first|exact aH _ _ _|refine ay rfl ?_|refine av rfl ?_|refine ak rfl ?_|refine ao rfl ?_)))⟩
    rw [bY (s' := setF (fun i => if i < t then (⟨some ⟨gs i, 0, none⟩, k, cp i⟩ : SD) else ⟨some ⟨gs i, 0, none⟩, c, cp i⟩) t ⟨some ⟨gs t, 0, none⟩, k, cp t⟩) (fun i _ => ?_)]
    ·exact hT4
    ·by_cases e : i = t
     ·subst e; rw [aS, if_pos (Nat.lt_succ_self _)]
     ·rw [aX _ _ e]
      by_cases h : i < t
      ·rw [if_pos h, if_pos (by omega)]
      ·rw [if_neg h, if_neg (by omega)]
   ·have etr : r = t := by omega
    subst etr
    repeat' (first|refine bj rfl rfl (by omega) ?_|refine ai rfl ?_|refine aa ?_|refine aj ?_|refine ah rfl ?_|refine ae ?_|refine au rfl ?_|refine aP ?_|refine aJ ?_|refine aQ ?_|refine aI ?_)
    refine cA rfl (rt rfl) (rt rfl) ⟨H, U, k, p, ⟨some ⟨g, 0, none⟩, r, r⟩, rfl, hF.ceq, hHF, fun h => absurd h hk, fun _ => ⟨g, gs, cp, rfl, hF.h.low, ?_, fun i hi => ?_, hF.h.off, hF.h.inj⟩, hE3⟩
    ·rw [bY (s' := fun i => if i < r then (⟨some ⟨gs i, 0, none⟩, k, cp i⟩ : SD) else ⟨some ⟨gs i, 0, none⟩, c, cp i⟩) (fun i hi => by rw [if_pos hi])]
     exact hT3
    ·obtain ⟨hh, hb, hEn⟩ := ((hO2.row i hi).gbN hO2.top (bW _ _) hG3 (hO2.off i hi)).ex
     exact ⟨(hO2.row i hi).low, Nat.le_trans hkc (hO2.row i hi).le, hh, hb, fun j hj => (hEn j (by omega)).sharp (hdn j hj i hi)⟩
end Go.Proofs.YtiejljicpinheaaGreat
