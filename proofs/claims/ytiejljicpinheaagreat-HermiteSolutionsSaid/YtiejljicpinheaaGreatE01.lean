import Derived.Test.YtiejljicpinheaaGreatA29
namespace Go.Proofs.YtiejljicpinheaaGreat
open Go.W
instance g19 : Agg Tryz.prog 19 1 := ⟨by kernel_rfl, by kernel_rfl⟩
instance c22 : Fun Tryz.prog 22 := ⟨by kernel_rfl⟩
instance c29 : Fun Tryz.prog 29 := ⟨by kernel_rfl⟩
instance c30 : Fun Tryz.prog 30 := ⟨by kernel_rfl⟩
instance c31 : Fun Tryz.prog 31 := ⟨by kernel_rfl⟩
instance c33 : Fun Tryz.prog 33 := ⟨by kernel_rfl⟩
instance c34 : Fun Tryz.prog 34 := ⟨by kernel_rfl⟩
instance c66 : Fun Tryz.prog 66 := ⟨by kernel_rfl⟩
instance c70 : Fun Tryz.prog 70 := ⟨by kernel_rfl⟩
instance c73 : Fun Tryz.prog 73 := ⟨by kernel_rfl⟩
end Go.Proofs.YtiejljicpinheaaGreat
namespace Go.LA
theorem nY (n : Nat) (A : Mat) (x y : Vec) (r : Nat) : mv n A (fun j => x j + y j) r = mv n A x r + mv n A y r := by
 unfold mv; rw [← dP]; exact bf fun j _ => by rw [Int.mul_add]
theorem qG {n c : Nat} (A : Mat) (q : Int) (hc : c < n) (r : Nat) : mv n A (fun j => if j = c then q else 0) r = q * A r c := by
 show (sm n fun j => A r j * if j = c then q else 0) = _
 rw [cw hc fun j _ hne => by rw [if_neg hne, Int.mul_zero]]
 rw [if_pos rfl, Int.mul_comm]
end Go.LA
namespace Go.W
section
variable {P : Program} {S : World → Prop} {ops : List Oper} {K : Env → World → Prop} {rest : List (Oper × Option Bool)} {ρ : Env} {w : World} {b : Option Bool} {kf : Bool} {d : Nat} {dst : Option Nat} {T T' : TypeId} {pos : String} {af : Array Edge}
end
end Go.W
namespace Go.W
section
variable {P : Program} {S : World → Prop} {ops : List Oper} {K : Env → World → Prop} {rest : List (Oper × Option Bool)} {ρ : Env} {w : World} {b : Option Bool} {kf : Bool} {d : Nat} {dst : Option Nat} {T T' : TypeId} {pos : String} {af : Array Edge}
end
end Go.W
namespace Go.W
end Go.W
namespace Go.W
section
variable {P : Program} {S : World → Prop} {ops : List Oper} {K : Env → World → Prop} {rest : List (Oper × Option Bool)} {ρ : Env} {w : World} {b : Option Bool} {kf : Bool} {d : Nat} {dst : Option Nat} {T T' : TypeId} {pos : String} {af : Array Edge}
theorem vU {x y : Operand} {c : Bool} {T'' : TypeId} [h1 : BoolT P T'] (hx : ev ρ x = .bool c) (hy : ev ρ y = .bool c) (h : RR P S ops K rest (upd ρ d (.bool false)) w) : RR P S ops K ((⟨some d, .binOp .neq T' x y T'', T, pos, af, none⟩, b) :: rest) ρ w :=
 gB hx hy (by rw [beq_self_eq_true]; exact h)
end
end Go.W
namespace Go.W
theorem RowG.sl {w : World} {lo E n : Nat} {s : SD} {h : Nat → IH} (hR : RowG w lo E n s h) : Sl w s.a (rowC n h) := by
 rcases hR.2 with ⟨h0, rfl⟩ | ⟨g, h1, h2, h3, h4, h5⟩
 ·exact Sl.nil _ _
 ·rw [h1]; exact h5.sl.row h3
section
variable {P : Program} {S : World → Prop} {ops : List Oper} {K : Env → World → Prop} {rest : List (Oper × Option Bool)} {ρ : Env} {w : World} {b : Option Bool} {kf : Bool} {d : Nat} {dst : Option Nat} {T T' : TypeId} {pos : String} {af : Array Edge}
theorem q9 {T1 E y n d1 t lo : Nat} {x : Operand} {s : SD} {f : Nat → IH} {u : IH} {T2 : TypeId} {pos2 : String} {af2 : Array Edge} [hT : Slc P T1 E 2 y] [hz : Zro P E (.agg #[.bool false, .slice none 0 0])]
  (hs : ρ t = .slice s.a s.len s.cap) (hx : ev ρ x = u.val) (htd : Nat.beq t d1 = false)
  (hR : RowG w lo E n s f) (hm : n + 1 ≤ 9223372036854775807) (hb : (n + 1) * y ≤ 140737488355328) (hlo : lo ≤ w.heap.size)
  (h : ∀ g s' f' w', RowG w' lo E (n + 1) s' f' → (∀ i, i < n → f' i = f i) → f' n = u → w.grownBy w' (Value.slice s.a s.len s.cap).ownBlock → (s'.a = s.a ∨ ∀ x, s'.a = some x → w.heap.size ≤ x.block) →
   RR P (fun _ => True) ops K rest (upd (upd ρ d1 (.slice (some ⟨g, 0, none⟩) 1 1)) d (.slice s'.a s'.len s'.cap)) w') :
  RR P (fun _ => True) ops K ((⟨some d1, .buildSlice T1 1 #[(0, x)], T2, pos2, af2, none⟩, some false) :: (⟨some d, .call ⟨.builtin .append, #[.tmp t, .tmp d1], #[T1, T1]⟩, T, pos, af, none⟩, some false) :: rest) ρ w := by
 refine dI (E := E) (s := 2) (z := .agg #[.bool false, .slice none 0 0]) (cs := u.val.cells) rfl ?_ (fun g w1 hn => ⟨fun _ _ => trivial, ?_⟩)
 ·simp only [List.map_toArray, List.map_cons, List.map_nil, hx]
  exact gF (s := 2) rfl (by simp)
 ·refine dw rfl ?_
  unfold OpW
  obtain ⟨i0, hi0, hzz⟩ := Option.map_eq_some_iff.1 hT.sz
  simp only [Prod.mk.injEq] at hzz
  obtain ⟨i1, hi1, hz1⟩ := Option.map_eq_some_iff.1 hz.ok
  rw [hi0] at hi1
  simp only [Option.some.injEq] at hi1
  subst hi1
  have hsz := hn.ex.size
  have hcs : u.val.cells.toList = u.cells := rfl
  obtain ⟨s', w', f', hr, h1, h2, h3, h4, h5⟩ := jC (P := P) (ty := T) hT.un hi0 hz1 hzz.1 hzz.2 (hR.ext hn.ex) (hcs ▸ hn.blk.sl) hm hb (by omega)
  have e1 : ev (upd ρ d1 (.slice (some ⟨g, 0, none⟩) 1 1)) (.tmp t) = .slice s.a s.len s.cap := by
   show upd ρ d1 _ t = _
   simp only [upd, htd, cond_false, hs]
  have e2 : ev (upd ρ d1 (.slice (some ⟨g, 0, none⟩) 1 1)) (.tmp d1) = .slice (some ⟨g, 0, none⟩) 1 1 := by
   show upd ρ d1 _ d1 = _
   rw [eT]
  have : (execOp (ev (upd ρ d1 (.slice (some ⟨g, 0, none⟩) 1 1))) ⟨some d, .call ⟨.builtin .append, #[.tmp t, .tmp d1], #[T1, T1]⟩, T, pos, af, none⟩).run P w1 = .ok (.value (.slice s'.a s'.len s'.cap)) w' := by
   simp [execOp, resolve, invoke, builtin, e1, e2, hr]
  rw [this]
  refine ⟨fun _ _ => trivial, h g s' f' w' h1 h2 h3 ?_ (h5.imp id fun hh x hx => by have := hh x hx; omega)⟩
  exact ⟨h4.os.trans hn.ex.os, h4.tape.trans hn.ex.tape, h4.output.trans hn.ex.output, by have := h4.size; omega,
   fun k hk hne => (h4.block k (by omega) hne).trans (hn.ex.block k hk)⟩
end
end Go.W
namespace Go.W
section
variable {P : Program} {S : World → Prop} {ops : List Oper} {K : Env → World → Prop} {rest : List (Oper × Option Bool)} {ρ : Env} {w : World} {b : Option Bool} {kf : Bool} {d : Nat} {dst : Option Nat} {T T' : TypeId} {pos : String} {af : Array Edge}
end
end Go.W
namespace Go.Proofs.YtiejljicpinheaaGreat
open Go.W Go.LM Go.LA
structure AM (K : Nat) (w : World) (a : Option Addr) (n : Nat) (s : Nat → SD) (F : Mat) : Prop where
 top : Sl w a (topC n s)
 row : ∀ i, i < n → RX false K w (s i) (s i).len (F i)
theorem AM.mx {K n : Nat} {w : World} {a : Option Addr} {s : Nat → SD} {F : Mat} (h : AM K w a n s F) (ok : okS n s) : MX false K w a n (s 0).len s F :=
 ⟨h.top, fun i hi => by have := h.row i hi; rwa [ok.2.2.2.2 i hi] at this⟩
theorem MX.am {cn : Bool} {K r c : Nat} {w : World} {a : Option Addr} {s : Nat → SD} {F : Mat} (h : MX cn K w a r c s F) : AM K w a r s F :=
 ⟨h.top, fun i hi => by have := (h.row i hi).weak'; rwa [(h.row i hi).len]⟩
theorem iy {n : Nat} {s : Nat → SD} (h : okS n s) : 1 ≤ n ∧ n ≤ 16 := ⟨h.1, h.2.1⟩
theorem gQ {n : Nat} {s : Nat → SD} (h : okS n s) : 1 ≤ (s 0).len ∧ (s 0).len ≤ 16 := ⟨h.2.2.1, h.2.2.2.1⟩
end Go.Proofs.YtiejljicpinheaaGreat
namespace Go.Proofs.YtiejljicpinheaaGreat
open Go.W Go.LM Go.LA
set_option maxHeartbeats 4000000 in
theorem rO {c1 c2 : Bool} {K1 K2 r c cap : Nat} {w : World} {a : Option Addr} {s : Nat → SD} {A : Mat} {sx : SD} {X : Nat → Int} (hA : MX c1 K1 w a r c s A) (hX : RX c2 K2 w sx c X)
  (hr : 1 ≤ r ∧ r ≤ 16) (hc : 1 ≤ c ∧ c ≤ 16) (hK : K1 + K2 + 2 < 17592186044416) :
  CallsR Tryz.prog 31 #[.slice a r cap, .slice sx.a sx.len sx.cap] w fun v w' => ∃ (sd : SD) (h : Nat → IH), v = .tuple #[.slice sd.a sd.len sd.cap, .bool true] ∧ RowG w' w.heap.size 43 r sd h ∧ (∀ i, i < r → Ent true (K1 + K2 + 1) w' (h i).val (mv c A X i)) ∧ Ex w w' := by
 have hpt := hA.plain (by omega)
 have hxl := hX.len
 refine aF (args := [_, _]) Tryz.func31 rfl rfl ?_
 repeat' (first|refine ai rfl ?_|refine aa ?_|refine aj ?_|refine ah rfl ?_|refine ae ?_)
 refine aw (cc hA.top) rfl ?_
 rintro v w1 ⟨rfl, hE1⟩
 refine ⟨fun _ _ => trivial, ?_⟩
 rw [cz hA hr hc]
 repeat' (first|refine aK rfl rfl ?_|refine cN rfl rfl (by omega) ?_|refine ai rfl ?_|refine aa ?_|refine aj ?_|refine ah rfl ?_|refine ae ?_|refine aZ rfl ?_|refine bz rfl rfl ?_|refine au rfl ?_|refine aA ?_|refine aE ?_)
 have s1 := hE1.size
 have lM : ∀ i, i < r → Lb (K1 + K2 + 1) (mv c A X i) := fun i hi => gc (fun k hk => hA.lb hi hk) (fun k hk => hX.ent hk) (by omega)
 refine aY (ι := Nat × SD × (Nat → IH)) [9, 11, 28, 29, 30, 31, 32, 33, 34, 35, 36, 37, 38] (fun t => [(28, .int .i64 (t.1 : Int)), (9, .slice t.2.1.a t.2.1.len t.2.1.cap)])
  (fun t w' => t.1 ≤ r ∧ Ex w w' ∧ w1.heap.size ≤ w'.heap.size ∧ RowG w' w.heap.size 43 t.1 t.2.1 t.2.2 ∧ ∀ i, i < t.1 → Ent true (K1 + K2 + 1) w' (t.2.2 i).val (mv c A X i)) (fun t => r - t.1)
  (0, sd0, fun _ => ih0) ⟨rfl, rfl, trivial⟩ ⟨by simp only; omega, hE1, Nat.le_refl _, RowG.nil _ _ _ _, fun i h => by simp only at h; omega⟩ ?_
 rintro ⟨i, sd, h⟩ ξ w2 ⟨hi, hE2, hs2, hR2, hEn2⟩
 simp only at hi hR2 hEn2
 show CW _ _ _ _ (over [(28, .int .i64 (i : Int)), (9, .slice sd.a sd.len sd.cap)] _) w2
 rcases Nat.lt_or_ge i r with hir | hir
 ·repeat' (first|refine bu rfl rfl (by omega) ?_|refine aD (j := i) (a := a) rfl rfl hpt (by omega) ?_|refine cG (j := i) (a := a) (n := r) (s := s) rfl (hA.ext hE2).top (by omega) ?_|refine ai rfl ?_|refine aa ?_|refine aj ?_|refine ah rfl ?_|refine ae ?_|refine az rfl ?_|refine aA ?_|refine aE ?_)
  refine aw (jE ((hA.row i hir).ext hE2) (hX.ext hE2) (by omega) (by omega)) rfl ?_
  rintro v w3 ⟨hI3, hE3⟩
  refine ⟨fun _ _ => trivial, ?_⟩
  obtain ⟨u, rfl⟩ := hI3.ih
  have hR3 := RowG.ext hR2 hE3
  have hE03 := hE2.trans hE3
  skip
  refine q9 (E := 43) rfl rfl rfl hR3 (by omega) (by omega) (by have := hE03.size; omega) ?_
  intro gt sd' h' w4 hR4 hf1 hf2 hG4 hA4
  repeat' (first|refine ai rfl ?_|refine aa ?_|refine ah rfl ?_|refine ae ?_|refine bc rfl rfl (by omega) (by omega) ?_|refine aL ?_)
  have own : ∀ q, (Value.slice sd.a sd.len sd.cap).ownBlock = some q → w.heap.size ≤ q := fun q e => (RowG.bk hR3 q e).1
  refine ⟨⟨(i + 1, sd', h'), ⟨hir, hE03.gb hG4 own, by have := hE3.size; have := hG4.size; omega, hR4, fun k hk => ?_⟩, by simp only; omega, rfl, rfl, trivial⟩, (by (repeat (first|exact aH _ _ _|refine ay rfl ?_|refine av rfl ?_|refine ak rfl ?_|refine ao rfl ?_)))⟩
  simp only at hk ⊢
  by_cases e : k = i
  ·subst e; rw [hf2]; exact (Ent.of hI3 (lM k hir)).gbR hR3 hG4
  ·rw [hf1 k (by omega)]; exact ((hEn2 k (by omega)).ext hE3).gbR hR3 hG4
 ·have eir : r = i := by omega
  subst eir
  repeat' (first|refine bj rfl rfl (by omega) ?_|refine ai rfl ?_|refine aa ?_|refine aj ?_|refine ah rfl ?_|refine ae ?_|refine au rfl ?_|refine aP ?_|refine aJ ?_|refine aQ ?_|refine aI ?_)
  exact cA rfl (rt rfl) (rt rfl) ⟨sd, h, rfl, hR2, hEn2, hE2⟩
end Go.Proofs.YtiejljicpinheaaGreat
namespace Go.Proofs.YtiejljicpinheaaGreat
open Go.W Go.LM Go.LA
set_option maxHeartbeats 2000000 in
theorem fD {cn : Bool} {K r c k cap : Nat} {w : World} {a : Option Addr} {s : Nat → SD} {F : Mat} (hM : MX cn K w a r c s F) (hr : 1 ≤ r ∧ r ≤ 1000) (hk : k < c) :
  CallsR Tryz.prog 66 #[.slice a r cap, .int .i64 (k : Int)] w fun v w' => ∃ p : Nat, v = .int .i64 (p : Int) ∧ p ≤ r ∧ (∀ x, x < p → F x k = 0) ∧ (p < r → F p k ≠ 0) ∧ Ex w w' := by
 have hpt := hM.plain (by omega)
 refine aF (args := [_, _]) Tryz.func66 rfl rfl ?_
 repeat' (first|refine ai rfl ?_|refine aa ?_|refine aj ?_|refine ah rfl ?_|refine ae ?_|refine aZ rfl ?_|refine aA ?_)
 refine aY (ι := Nat) [4, 5, 8, 9, 10, 11, 12, 13, 14, 15, 16, 17, 18, 19, 20, 21] (fun i => [(8, .int .i64 (i : Int))])
  (fun i w' => i ≤ r ∧ Ex w w' ∧ ∀ x, x < i → F x k = 0) (fun i => r - i)
  0 ⟨rfl, trivial⟩ ⟨by omega, Ex.refl _, fun x h => by omega⟩ ?_
 rintro i ξ w2 ⟨hi, hE2, hz⟩
 show CW _ _ _ _ (over [(8, .int .i64 (i : Int))] _) w2
 rcases Nat.lt_or_ge i r with hir | hir
 ·obtain ⟨pa, d, hh, e1, e2, hpp, hS, hEn⟩ := (hM.ext hE2).get hir (by omega)
  repeat' (first|refine bu rfl rfl (by omega) ?_|refine aD (j := i) (a := a) rfl rfl hpt (by omega) ?_|refine aV (j := i) (a := a) (n := r) (s := s) rfl (hM.ext hE2).top (by omega) e1 ?_|refine aT (j := k) (a := pa) rfl rfl hpp (by omega) ?_|refine bo (j := k) (a := pa) rfl hS hpp (by omega) ?_|refine ai rfl ?_|refine aa ?_|refine aj ?_|refine ah rfl ?_|refine ae ?_|refine az rfl ?_|refine aA ?_|refine aE ?_)
  refine aw (cj (hEn k hk).k) rfl ?_
  rintro v w3 ⟨rfl, hE3⟩
  refine ⟨fun _ _ => trivial, ?_⟩
  by_cases h : F i k = 0
  ·repeat' (first|(refine cN rfl rfl (by rw [h]; rfl) ?_)|refine ai rfl ?_|refine aa ?_|refine ah rfl ?_|refine ae ?_|refine bc rfl rfl (by omega) (by omega) ?_|refine au rfl ?_|refine aL ?_|refine aE ?_)
   refine ⟨⟨i + 1, ⟨hir, hE2.trans hE3, fun x hx => ?_⟩, by omega, rfl, trivial⟩, (by (repeat (first|exact aH _ _ _|refine ay rfl ?_|refine av rfl ?_|refine ak rfl ?_|refine ao rfl ?_)))⟩
   by_cases e : x = i
   ·subst e; exact h
   ·exact hz x (by omega)
  ·repeat' (first|refine df rfl rfl (fun e => h (Int.sign_eq_zero_iff_zero.1 e)) ?_|refine ai rfl ?_|refine aa ?_|refine aj ?_|refine ah rfl ?_|refine ae ?_|refine az rfl ?_|refine aI ?_|refine aU ?_|refine bQ ?_)
   exact bx rfl (rt rfl) ⟨i, rfl, hi, hz, fun _ => h, hE2.trans hE3⟩
 ·have eir : r = i := by omega
  subst eir
  repeat' (first|refine bj rfl rfl (by omega) ?_|refine ai rfl ?_|refine aa ?_|refine aj ?_|refine ah rfl ?_|refine ae ?_|refine aZ rfl ?_|refine au rfl ?_|refine aP ?_|refine aJ ?_|refine aQ ?_|refine aI ?_)
  exact bx rfl (rt rfl) ⟨r, rfl, Nat.le_refl _, hz, fun h => by omega, hE2⟩
theorem mF {r c k l p : Nat} {H : Mat} {f : Nat → Nat} (h : HF r c H k f) (hl : l < c) (hp : p ≤ r) (hz : ∀ x, x < p → H x l = 0) (hn : p < r → H p l ≠ 0) : (p < r ↔ l < k) ∧ (p < r → p = f l) := by
 constructor
 ·constructor
  ·intro hpr; exact (h.piv hl hpr hz (hn hpr)).1
  ·intro hlk
   rcases Nat.lt_or_ge p r with h' | h'
   ·exact h'
   ·have := h.pos l hlk; rw [hz _ (by have := h.lt l hlk; omega)] at this; omega
 ·intro hpr; exact (h.piv hl hpr hz (hn hpr)).2.symm
def RetRB (r c s Q : Nat) (A : Mat) (w : World) (v : Value) (w' : World) : Prop :=
 ∃ (H U : Mat) (k : Nat) (p : Nat → Nat) (u : SD), v = .tuple #[.slice u.a u.len u.cap, .bool true] ∧ CEq r c A H U ∧ HF r c H k p ∧ (k = 0 → u = sd0) ∧ (0 < k → ∃ g gs cp, u = ⟨some ⟨g, 0, none⟩, r, r⟩ ∧ MO true (Zb Q s (c + k)) w' w.heap.size g r k gs cp H) ∧ Ex w w'
theorem RetRB.basis {KM r c s Q : Nat} {A : Mat} {w w' : World} {v : Value} (h : RetRB r c s Q A w v w') (hQ : 10 ≤ Q) (hKM : Zb Q s (2 * c + 1) ≤ KM) : RetBasis KM r c A w v w' := by
 obtain ⟨H, U, k, p, u, h1, h2, h3, h4, h5, h6⟩ := h
 refine ⟨H, U, k, p, u, h1, h2, h3, h4, fun h => ?_, h6⟩
 obtain ⟨g, gs, cp, e, hM⟩ := h5 h
 exact ⟨g, gs, cp, e, hM.up (Nat.le_trans (eh hQ (by have := h3.kc; omega)) hKM)⟩
set_option maxHeartbeats 4000000 in
theorem cV {cn : Bool} {K KM r c cap s Q : Nat} {w : World} {a : Option Addr} {sh : Nat → SD} {A : Mat} (hM : MX cn K w a r c sh A) (hr : 1 ≤ r ∧ r ≤ 16) (hc : 1 ≤ c ∧ c ≤ 16) (hA : ∀ l, l < c → ∀ i, i < r → Lb (Zb Q s l) (A i l)) (hQ : 10 ≤ Q) (hKM : Zb Q s (2 * c + 1) ≤ KM) (hK : 2 * KM < 17592186044415) :
  CallsR Tryz.prog 22 #[.slice a r cap] w (RetRB r c s Q A w) := by
 refine aF (args := [_]) Tryz.func22 rfl rfl ?_
 repeat' (first|refine ai rfl ?_|refine aa ?_|refine aj ?_|refine ah rfl ?_|refine ae ?_)
 refine aw (gi hM hr hc hA hQ hKM hK) rfl ?_
 rintro v w1 ⟨g, g', gs, cp, gs', cp', H, U, k, p, rfl, hF, _, _, hdn, hE1⟩
 refine ⟨fun _ _ => trivial, ?_⟩
 have hHF := hF.hf
 have hkc := hHF.kc
 repeat' (first|refine aK rfl rfl ?_|refine ai rfl ?_|refine aa ?_|refine aj ?_|refine ah rfl ?_|refine ae ?_|refine au rfl ?_|refine aE ?_)
 refine ct (ι := Unit) [7, 17, 18, 19, 20, 21, 22, 23, 24, 25, 26, 27, 28, 29, 30, 31, 32] (fun _ => [(7, .int .i64 (k : Int))]) (fun _ w' => Ex w1 w') ?_ ?_
 ·refine aA ?_
  refine aY (ι := Nat) [7, 17, 18, 19, 20, 21, 22, 23, 24, 25, 26, 27, 28, 29, 30, 31, 32] (fun l => [(7, .int .i64 (l : Int))])
   (fun l w' => l ≤ k ∧ Ex w1 w') (fun l => k - l)
   0 ⟨rfl, trivial⟩ ⟨by omega, Ex.refl _⟩ ?_
  rintro l ξ w2 ⟨hl, hE2⟩
  show CW _ _ _ _ (over [(7, .int .i64 (l : Int))] _) w2
  have hO2 := hF.h.ext hE2
  rcases Nat.lt_or_ge l c with hlc | hlc
  ·repeat' (first|refine aD (j := 0) (a := some ⟨g, 0, none⟩) rfl rfl ⟨_, _, rfl⟩ (by omega) ?_|refine aV (j := 0) (a := some ⟨g, 0, none⟩) (n := r) (s := fun k => ⟨some ⟨gs k, 0, none⟩, c, cp k⟩) rfl hO2.top.sl (by omega) rfl ?_|refine bu rfl rfl (by omega) ?_|refine ai rfl ?_|refine aj ?_|refine ah rfl ?_|refine aZ rfl ?_|refine bz rfl rfl ?_)
   refine aw (fD hO2.mx ⟨hr.1, by omega⟩ hlc) rfl ?_
   rintro v w3 ⟨q, rfl, hq, hz, hn, hE3⟩
   refine ⟨fun _ _ => trivial, ?_⟩
   obtain ⟨t1, _⟩ := mF hHF hlc hq hz hn
   rcases Nat.lt_or_ge l k with hlk | hlk
   ·have hqr := t1.2 hlk
    repeat' (first|refine bu rfl rfl (by omega) ?_|refine ai rfl ?_|refine aa ?_|refine ah rfl ?_|refine ae ?_|refine aZ rfl ?_|refine bz rfl rfl ?_|refine bc rfl rfl (by omega) (by omega) ?_|refine az rfl ?_|refine aA ?_|refine aL ?_|refine aE ?_)
    exact ⟨⟨l + 1, ⟨hlk, hE2.trans hE3⟩, by omega, rfl, trivial⟩, (by (repeat (first|exact aH _ _ _|refine ay rfl ?_|refine av rfl ?_|refine ak rfl ?_|refine ao rfl ?_)))⟩
   ·have elk : l = k := by omega
    subst elk
    have hqr : ¬ q < r := fun h => by have := t1.1 h; omega
    repeat' (first|refine bj rfl rfl (by omega) ?_|refine ai rfl ?_|refine aa ?_|refine ae ?_|refine aZ rfl ?_|refine bz rfl rfl ?_|refine au rfl ?_|refine aP ?_|refine aJ ?_|refine aQ ?_)
    exact ⟨⟨(), hE2.trans hE3, rfl, trivial⟩, (by (repeat (first|exact aM _ _|refine ay rfl ?_|refine av rfl ?_|refine ak rfl ?_|refine ao rfl ?_)))⟩
  ·have elk : l = k := by omega
   subst elk
   repeat' (first|refine aD (j := 0) (a := some ⟨g, 0, none⟩) rfl rfl ⟨_, _, rfl⟩ (by omega) ?_|refine aV (j := 0) (a := some ⟨g, 0, none⟩) (n := r) (s := fun k => ⟨some ⟨gs k, 0, none⟩, c, cp k⟩) rfl hO2.top.sl (by omega) rfl ?_|refine bj rfl rfl (by omega) ?_|refine ai rfl ?_|refine aa ?_|refine aj ?_|refine ah rfl ?_|refine ae ?_|refine aZ rfl ?_|refine bK rfl rfl ?_|refine au rfl ?_|refine aP ?_|refine aJ ?_|refine aQ ?_)
   exact ⟨⟨(), hE2, rfl, trivial⟩, (by (repeat (first|exact aM _ _|refine ay rfl ?_|refine av rfl ?_|refine ak rfl ?_|refine ao rfl ?_)))⟩
 ·rintro ⟨⟩ ξ w2 hE2
  show CW _ _ _ _ (over [(7, .int .i64 (k : Int))] _) w2
  have hE02 := hE1.trans hE2
  by_cases hk : k = 0
  ·repeat' (first|refine eF rfl rfl (by omega) ?_|refine ai rfl ?_|refine aa ?_|refine aj ?_|refine ah rfl ?_|refine ae ?_|refine az rfl ?_|refine aI ?_|refine aU ?_)
   exact cA rfl (rt rfl) (rt rfl) ⟨H, U, k, p, sd0, rfl, hF.ceq, hHF, fun _ => rfl, fun h => by omega, hE02⟩
  ·repeat' (first|refine dU rfl rfl (by omega) ?_|refine ai rfl ?_|refine aa ?_|refine aj ?_|refine ah rfl ?_|refine ae ?_|refine aZ rfl ?_|refine au rfl ?_|refine aA ?_|refine aE ?_)
   have hO2 := hF.h.ext hE2
   have s1 := hE1.size
   have glo := hF.h.low
   refine aY (ι := Nat) [8, 37, 38, 39, 40, 41, 42, 43, 44, 45, 46, 47, 48, 49] (fun t => [(37, .int .i64 (t : Int))])
    (fun t w' => (t ≤ r ∧ Ex w w' ∧ w2.grownBy w' (some g)) ∧ Blk w' g 31 (topC r fun i => if i < t then ⟨some ⟨gs i, 0, none⟩, k, cp i⟩ else ⟨some ⟨gs i, 0, none⟩, c, cp i⟩)) (fun t => r - t)
    0 ⟨rfl, trivial⟩ ⟨⟨by omega, hE02, lL (Ex.refl _)⟩, hO2.top⟩ ?_
   rintro t ξ2 w3 ⟨⟨ht, hE3, hG3⟩, hT3⟩
   show CW _ _ _ _ (over [(37, .int .i64 (t : Int))] _) w3
   rcases Nat.lt_or_ge t r with htr | htr
   ·have hcp := (hF.h.row t htr).le
    repeat' (first|refine bu rfl rfl (by omega) ?_|refine aD (j := t) (a := some ⟨g, 0, none⟩) rfl rfl ⟨_, _, rfl⟩ (by omega) ?_|refine aV (j := t) (a := some ⟨g, 0, none⟩) (n := r) (a1 := some ⟨gs t, 0, none⟩) (l1 := c) (c1 := cp t) rfl hT3.sl (by omega) (if_neg (by omega)) ?_|refine fO rfl rfl (by omega) (by omega) ?_|refine ai rfl ?_|refine aa ?_|refine aj ?_|refine ah rfl ?_|refine ae ?_|refine az rfl ?_|refine aA ?_|refine aE ?_)
    refine ch (j := t) (u := ⟨some ⟨gs t, 0, none⟩, k, cp t⟩) rfl rfl hT3 (by omega) (fun w4 hc4 hT4 => ⟨fun _ _ => trivial, ?_⟩)
    repeat' (first|refine ai rfl ?_|refine aa ?_|refine ah rfl ?_|refine ae ?_|refine bc rfl rfl (by omega) (by omega) ?_|refine aL ?_)
    refine ⟨⟨t + 1, ⟨⟨htr, hE3.chg hc4 glo, bJ hG3 (bw hc4) (fun k e => .inl e)⟩, ?_⟩, by omega, rfl, trivial⟩, (by (repeat (first|exact aH _ _ _|refine ay rfl ?_|refine av rfl ?_|refine ak rfl ?_|refine ao rfl ?_)))⟩
    rw [bY (s' := setF (fun i => if i < t then (⟨some ⟨gs i, 0, none⟩, k, cp i⟩ : SD) else ⟨some ⟨gs i, 0, none⟩, c, cp i⟩) t ⟨some ⟨gs t, 0, none⟩, k, cp t⟩) (fun i _ => ?_)]
    ·exact hT4
    ·by_cases e : i = t
     ·subst e; rw [aS, if_pos (Nat.lt_succ_self _)]
     ·rw [aX _ _ e]
      by_cases h : i < t
      ·rw [if_pos h, if_pos (by omega)]
      ·rw [if_neg h, if_neg (by omega)]
   ·have etr : r = t := by omega
    subst etr
    repeat' (first|refine bj rfl rfl (by omega) ?_|refine ai rfl ?_|refine aa ?_|refine aj ?_|refine ah rfl ?_|refine ae ?_|refine au rfl ?_|refine aP ?_|refine aJ ?_|refine aQ ?_|refine aI ?_)
    refine cA rfl (rt rfl) (rt rfl) ⟨H, U, k, p, ⟨some ⟨g, 0, none⟩, r, r⟩, rfl, hF.ceq, hHF, fun h => absurd h hk, fun _ => ⟨g, gs, cp, rfl, hF.h.low, ?_, fun i hi => ?_, hF.h.off, hF.h.inj⟩, hE3⟩
    ·rw [bY (s' := fun i => if i < r then (⟨some ⟨gs i, 0, none⟩, k, cp i⟩ : SD) else ⟨some ⟨gs i, 0, none⟩, c, cp i⟩) (fun i hi => by rw [if_pos hi])]
     exact hT3
    ·obtain ⟨hh, hb, hEn⟩ := ((hO2.row i hi).gbN hO2.top (bW _ _) hG3 (hO2.off i hi)).ex
     exact ⟨(hO2.row i hi).low, Nat.le_trans hkc (hO2.row i hi).le, hh, hb, fun j hj => (hEn j (by omega)).sharp (hdn j hj i hi)⟩
end Go.Proofs.YtiejljicpinheaaGreat
namespace Go.Proofs.YtiejljicpinheaaGreat
open Go.W Go.LM Go.LA
theorem sP {n cap : Nat} {w : World} {a : Option Addr} {s : Nat → SD} (hS : Sl w a (topC n s)) (hno : ¬ okS n s) :
  CallsR Tryz.prog 33 #[.slice a n cap] w fun v w' => v = .bool false ∧ Ex w w' := by
 refine aF (args := [_]) Tryz.func33 rfl rfl ?_
 repeat' (first|refine ai rfl ?_|refine aa ?_|refine aj ?_|refine ah rfl ?_|refine ae ?_)
 refine aw (cc hS) rfl ?_
 rintro v w1 ⟨rfl, hE1⟩
 refine ⟨fun _ _ => trivial, ?_⟩
 rw [dH hno]
 repeat' (first|refine aK rfl rfl ?_|refine ai rfl ?_|refine aa ?_|refine aj ?_|refine ah rfl ?_|refine ae ?_|refine az rfl ?_|refine aI ?_|refine aU ?_)
 exact bx rfl (rt rfl) ⟨rfl, hE1⟩
def LastJ (r c0 k : Nat) (f : Nat → Nat) (last : Int) : Prop := (k < c0 ∧ last = r) ∨ (k = c0 ∧ ((c0 = 0 ∧ last = -1) ∨ (0 < c0 ∧ last = f (c0 - 1))))
set_option maxHeartbeats 4000000 in
theorem rF {cn : Bool} {K r c cap : Nat} {w : World} {a : Option Addr} {s : Nat → SD} {F : Mat} (hM : MX cn K w a r c s F) (hr : 1 ≤ r ∧ r ≤ 16) (hc : 1 ≤ c ∧ c ≤ 16) :
  CallsR Tryz.prog 33 #[.slice a r cap] w fun v w' => ∃ t : Bool, v = .bool t ∧ (t = true ↔ ∃ k p, HF r c F k p) ∧ Ex w w' := by
 have hpt := hM.plain (by omega)
 refine aF (args := [_]) Tryz.func33 rfl rfl ?_
 repeat' (first|refine ai rfl ?_|refine aa ?_|refine aj ?_|refine ah rfl ?_|refine ae ?_)
 refine aw (cc hM.top) rfl ?_
 rintro v w1 ⟨rfl, hE1⟩
 refine ⟨fun _ _ => trivial, ?_⟩
 rw [cz hM hr hc]
 repeat' (first|refine aK rfl rfl ?_|refine ai rfl ?_|refine aa ?_|refine aj ?_|refine ah rfl ?_|refine ae ?_|refine au rfl ?_|refine aA ?_|refine aE ?_)
 refine aY (ι := (Nat × Int) × (Nat → Nat) × Nat) [2, 6, 7, 8, 9, 18, 19, 20, 21, 22, 23, 24, 25, 26, 27, 28, 29, 30, 31, 32, 33, 34, 35, 36, 37, 38, 39, 40, 41, 42, 43, 44, 45, 46, 47, 48, 49, 50, 51, 52, 53, 54, 55, 56, 57, 58, 59, 60, 61, 62, 63, 64, 65, 66, 67, 68, 69, 70, 71, 72, 73, 74, 75, 76, 77, 78] (fun t => [(7, .int .i64 (t.1.1 : Int)), (6, .int .i64 t.1.2)])
  (fun t w' => (t.1.1 ≤ c ∧ Ex w w') ∧ LastJ r t.1.1 t.2.2 t.2.1 t.1.2 ∧ HF r t.1.1 F t.2.2 t.2.1) (fun t => c - t.1.1)
  ((0, -1), fun _ => 0, 0) ⟨rfl, rfl, trivial⟩ ⟨⟨by simp only; omega, hE1⟩, .inr ⟨rfl, .inl ⟨rfl, rfl⟩⟩, nC _ _ _⟩ ?_
 rintro ⟨⟨c0, last⟩, f, k⟩ ξ w2 ⟨⟨hc0, hE2⟩, hL, hF⟩
 simp only at hc0 hL hF
 show CW _ _ _ _ (over [(7, .int .i64 (c0 : Int)), (6, .int .i64 last)] _) w2
 rcases Nat.lt_or_ge c0 c with hcc | hcc
 ·repeat' (first|refine bu rfl rfl (by omega) ?_|refine ai rfl ?_|refine aa ?_|refine aj ?_|refine ah rfl ?_|refine ae ?_|refine az rfl ?_|refine aA ?_|refine aE ?_)
  refine aw (fD (hM.ext hE2) ⟨hr.1, by omega⟩ hcc) rfl ?_
  rintro v w3 ⟨p, rfl, hpr, hz, hnz, hE3⟩
  refine ⟨fun _ _ => trivial, ?_⟩
  have hE03 := hE2.trans hE3
  rcases Nat.lt_or_ge p r with hp | hp
  ·have hne := hnz hp
   have hend : ∀ k' p', HF r c F k' p' → c0 < k' ∧ p' c0 = p := fun k' p' h => h.piv hcc hp hz hne
   rcases hL with ⟨hkl, hlast⟩ | ⟨hkc, hlast⟩
   ·repeat' (first|refine bu rfl rfl (by omega) ?_|refine kg rfl rfl (by omega) ?_|refine ai rfl ?_|refine aa ?_|refine aj ?_|refine ah rfl ?_|refine ae ?_|refine bz rfl rfl ?_|refine az rfl ?_|refine aI ?_|refine aU ?_|refine bQ ?_)
    refine bx rfl (rt rfl) ⟨false, rfl, ⟨fun h => (nomatch h), ?_⟩, hE03⟩
    rintro ⟨k', p', h⟩
    have h1 := (hend k' p' h).1
    have h2 := h.pos k (by omega)
    rw [hF.rest k (Nat.le_refl _) hkl _ (h.lt k (by omega))] at h2
    omega
   ·subst hkc
    have hno : ∀ {t : Bool}, t = false → (∀ k' p', HF r c F k' p' → k < k' → p' k = p → False) → (t = true ↔ ∃ k' p', HF r c F k' p') := fun e h => by
     subst e; exact ⟨fun h' => (nomatch h'), fun ⟨k', p', h'⟩ => (h k' p' h' (hend k' p' h').1 (hend k' p' h').2).elim⟩
    by_cases hmo : last < p
    ·have hmo' : ∀ i, i < k → f i < p := fun i hi => by
      rcases hlast with ⟨h1, _⟩ | ⟨h1, h2⟩
      ·omega
      ·by_cases e : i = k - 1
       ·rw [e]; omega
       ·have := hF.mono i (k - 1) (by omega) (by omega); omega
     obtain ⟨pa, d, hh, e1, e2, hpp, hS, hEn⟩ := (hM.ext hE03).get hp (by omega)
     repeat' (first|refine bu rfl rfl (show ((p : Nat) : Int) < ((r : Nat) : Int) by omega) ?_|refine mu rfl rfl (by omega) ?_|refine aD (j := p) (a := a) rfl rfl hpt (by omega) ?_|refine aV (j := p) (a := a) (n := r) (s := s) rfl (hM.ext hE03).top (by omega) e1 ?_|refine aT (j := k) (a := pa) rfl rfl hpp (by omega) ?_|refine bo (j := k) (a := pa) rfl hS hpp (by omega) ?_|refine ai rfl ?_|refine aa ?_|refine aj ?_|refine ah rfl ?_|refine ae ?_|refine bz rfl rfl ?_|refine az rfl ?_|refine au rfl ?_|refine aE ?_)
     refine aw (cj (hEn k (by omega)).k) rfl ?_
     rintro v w4 ⟨rfl, hE4⟩
     refine ⟨fun _ _ => trivial, ?_⟩
     by_cases hpos : 0 < F p k
     ·have hsg : ¬ (F p k).sign < 0 := fun h => by have := cL.1 h; omega
      repeat' (first|refine bj rfl rfl (by omega) ?_|refine ai rfl ?_|refine aa ?_|refine aj ?_|refine ah rfl ?_|refine ae ?_|refine au rfl ?_|refine aA ?_|refine aE ?_)
      refine aY (ι := Nat) [2, 9, 46, 47, 48, 49, 50, 51, 52, 53, 54, 55, 56, 57, 58, 59, 60, 61, 62, 63, 64, 65, 66, 67, 68, 69, 70, 71, 72, 73, 74, 75, 76, 77] (fun q => [(9, .int .i64 (q : Int))])
       (fun q w' => q ≤ k ∧ Ex w4 w' ∧ ∀ j, j < q → 0 ≤ F p j ∧ F p j < F p k) (fun q => k - q)
       0 ⟨rfl, trivial⟩ ⟨by omega, Ex.refl _, fun j h => by omega⟩ ?_
      rintro q ξ2 w5 ⟨hqk, hE5, hred⟩
      show CW _ _ _ _ (over [(9, .int .i64 (q : Int))] _) w5
      have hE35 := hE4.trans hE5
      have hE05 := hE03.trans hE35
      rcases Nat.lt_or_ge q k with hq | hq
      ·repeat' (first|refine bu rfl rfl (by omega) ?_|refine ai rfl ?_|refine aa ?_|refine aj ?_|refine ah rfl ?_|refine ae ?_|refine az rfl ?_|refine aE ?_)
       refine aA ?_
       repeat' (first|refine aj ?_)
       refine bi (late := []) (plan := [(0, none), (1, none), (2, none), (3, none), (4, none), (5, none), (6, none), (7, some true), (8, none), (9, none), (10, none), (11, none), (12, none), (13, none), (14, none), (15, none), (16, none), (17, none), (18, none), (19, none), (20, none), (21, none), (22, none), (23, none), (24, some true), (25, none), (26, none)]) (fun w' => Ex w5 w') bA (by kernel_rfl) (Ex.refl w5).drew ?_
       have hEd := (Ex.refl w5).drew
       repeat' (first|refine aD (j := p) (a := a) rfl rfl hpt (by omega) ?_|refine aV (j := p) (a := a) (n := r) (s := s) rfl (fun _ h => (hM.ext (hE05.trans h)).top) (by omega) e1 ?_|refine aT (j := q) (a := pa) rfl rfl hpp (by omega) ?_|refine bo (j := q) (a := pa) rfl (fun _ h => hS.ext (hE35.trans h)) hpp (by omega) ?_|refine ai rfl ?_)
       refine aw (cj ((hEn q (by omega)).ext (hE35.trans hEd)).k) rfl ?_
       rintro v w6 ⟨rfl, hE6⟩
       refine ⟨fun _ h => h.trans hE6, ?_⟩
       have hE56 := hEd.trans hE6
       by_cases hq0 : F p q < 0
       ·repeat' (first|refine bu rfl rfl (cL.2 hq0) ?_|refine ai rfl ?_|refine aa ?_|refine aj ?_|refine ah rfl ?_|refine ae ?_|refine bK rfl rfl ?_|refine az rfl ?_|refine aI ?_|refine aU ?_|refine bQ ?_)
        exact bx rfl (rt rfl) ⟨false, rfl, hno rfl fun k' p' h h1 h2 => by have := h.red k h1 q hq; rw [h2] at this; omega, hE05.trans hE56⟩
       ·have hsq : ¬ (F p q).sign < 0 := fun h => hq0 (cL.1 h)
        repeat' (first|refine bj rfl rfl (by omega) ?_|refine aD (j := p) (a := a) rfl rfl hpt (by omega) ?_|refine aV (j := p) (a := a) (n := r) (s := s) rfl (fun _ h => (hM.ext (hE05.trans h)).top) (by omega) e1 ?_|refine aT (j := q) (a := pa) rfl rfl hpp (by omega) ?_|refine bo (j := q) (a := pa) rfl (fun _ h => hS.ext (hE35.trans h)) hpp (by omega) ?_|refine aT (j := k) (a := pa) rfl rfl hpp (by omega) ?_|refine bo (j := k) (a := pa) rfl (fun _ h => hS.ext (hE35.trans h)) hpp (by omega) ?_|refine ai rfl ?_|refine bz rfl rfl ?_)
        refine aw (eM ((hEn q (by omega)).ext (hE35.trans hE56)).k ((hEn k (by omega)).ext (hE35.trans hE56)).k) rfl ?_
        rintro v w7 ⟨rfl, hE7⟩
        refine ⟨fun _ h => h.trans hE7, ?_⟩
        have hE57 := hE56.trans hE7
        by_cases hqm : F p q < F p k
        ·repeat' (first|refine qJ rfl rfl (cL.2 (by omega)) ?_|refine ai rfl ?_|refine aa ?_|refine ah rfl ?_|refine ae ?_|refine bz rfl rfl ?_|refine bc rfl rfl (by omega) (by omega) ?_|refine au rfl ?_|refine aL ?_|refine aE ?_)
         refine ⟨⟨q + 1, ⟨hq, hE5.trans hE57, fun j hj => ?_⟩, by omega, rfl, trivial⟩, (by (repeat (first|exact aH _ _ _|refine ay rfl ?_|refine av rfl ?_|refine ak rfl ?_|refine ao rfl ?_)))⟩
         by_cases e : j = q
         ·subst e; exact ⟨by omega, hqm⟩
         ·exact hred j (by omega)
        ·have hsg2 : ¬ (F p q - F p k).sign < 0 := fun h => by have := cL.1 h; omega
         repeat' (first|refine o9 rfl rfl (by omega) ?_|refine ai rfl ?_|refine aa ?_|refine aj ?_|refine ah rfl ?_|refine ae ?_|refine bz rfl rfl ?_|refine az rfl ?_|refine aI ?_|refine aU ?_|refine bQ ?_)
         exact bx rfl (rt rfl) ⟨false, rfl, hno rfl fun k' p' h h1 h2 => by have := h.red k h1 q hq; rw [h2] at this; omega, hE05.trans hE57⟩
      ·have eqk : q = k := by omega
       subst eqk
       repeat' (first|refine bj rfl rfl (by omega) ?_|refine ai rfl ?_|refine aa ?_|refine aj ?_|refine ah rfl ?_|refine ae ?_|refine bc rfl rfl (by omega) (by omega) ?_|refine au rfl ?_|refine aP ?_|refine aJ ?_|refine aQ ?_|refine aL ?_)
       refine ⟨⟨((q + 1, (p : Int)), (fun i => if i = q then p else f i), q + 1), ⟨⟨hcc, hE05⟩, .inr ⟨rfl, .inr ⟨by simp only; omega, ?_⟩⟩, hF.snoc (fun i hi => if_neg (by omega)) (if_pos rfl) hp hz hpos hmo' hred⟩, by simp only; omega, rfl, rfl, trivial⟩, (by (repeat (first|exact aH _ _ _|refine ay rfl ?_|refine av rfl ?_|refine ak rfl ?_|refine ao rfl ?_)))⟩
       simp
     ·have hng : F p k < 0 := by omega
      repeat' (first|refine bu rfl rfl (cL.2 hng) ?_|refine ai rfl ?_|refine aa ?_|refine aj ?_|refine ah rfl ?_|refine ae ?_|refine az rfl ?_|refine aI ?_|refine aU ?_|refine bQ ?_)
      exact bx rfl (rt rfl) ⟨false, rfl, hno rfl fun k' p' h h1 h2 => by have := h.pos k h1; rw [h2] at this; omega, hE03.trans hE4⟩
    ·have hk0 : 0 < k ∧ p ≤ f (k - 1) := by
      rcases hlast with ⟨h1, h2⟩ | ⟨h1, h2⟩
      ·omega
      ·exact ⟨h1, by omega⟩
     repeat' (first|refine bu rfl rfl (by omega) ?_|refine kg rfl rfl (by omega) ?_|refine ai rfl ?_|refine aa ?_|refine aj ?_|refine ah rfl ?_|refine ae ?_|refine bz rfl rfl ?_|refine az rfl ?_|refine aI ?_|refine aU ?_|refine bQ ?_)
     exact bx rfl (rt rfl) ⟨false, rfl, hno rfl fun k' p' h h1 h2 => by
      have hi : k - 1 < k := by omega
      have h3 := (h.piv (c := k - 1) (q := f (k - 1)) (by omega) (hF.lt _ hi) (fun x hx => hF.zero _ hi x hx) (by have := hF.pos _ hi; omega)).2
      have := h.mono (k - 1) k hi h1
      omega, hE03⟩
  ·have epr : p = r := by omega
   subst epr
   repeat' (first|refine bj rfl rfl (by omega) ?_|refine ai rfl ?_|refine aa ?_|refine aj ?_|refine ah rfl ?_|refine ae ?_|refine bK rfl rfl ?_|refine bc rfl rfl (by omega) (by omega) ?_|refine au rfl ?_|refine aL ?_|refine aE ?_)
   refine ⟨⟨((c0 + 1, (p : Int)), f, k), ⟨⟨hcc, hE03⟩, .inl ⟨by have := hF.kc; simp only; omega, rfl⟩, hF.zcol hz⟩, by simp only; omega, rfl, rfl, trivial⟩, (by (repeat (first|exact aH _ _ _|refine ay rfl ?_|refine av rfl ?_|refine ak rfl ?_|refine ao rfl ?_)))⟩
 ·have ecc : c0 = c := by omega
  subst ecc
  repeat' (first|refine bj rfl rfl (by omega) ?_|refine ai rfl ?_|refine aa ?_|refine aj ?_|refine ah rfl ?_|refine ae ?_|refine au rfl ?_|refine aP ?_|refine aJ ?_|refine aQ ?_|refine aI ?_)
  exact bx rfl (rt rfl) ⟨true, rfl, ⟨fun _ => ⟨k, f, hF⟩, fun _ => rfl⟩, hE2⟩
end Go.Proofs.YtiejljicpinheaaGreat
namespace Go.W
section
variable {P : Program} {S : World → Prop} {ops : List Oper} {K : Env → World → Prop} {rest : List (Oper × Option Bool)} {ρ : Env} {w : World} {kf : Bool} {d : Nat} {T : TypeId} {pos : String} {af : Array Edge}
theorem pW {T1 E y n sc : Nat} {x1 x2 : Operand} {a : Option Addr} {hh : Nat → IH} [hT : Slc P T1 E 2 y] [hz : Zro P E (.agg #[.bool false, .slice none 0 0])] (h1 : ev ρ x1 = .slice none 0 0) (h2 : ev ρ x2 = .slice a n sc) (hs : Sl w a (rowC n hh)) (hp : W.plain a)
  (hn : 0 < n) (hn2 : n ≤ 1000) (hb : n * y ≤ 281474976710656)
  (h : ∀ g cap h' w', New w w' g E (rowC cap h') → n ≤ cap → (∀ i, i < n → h' i = hh i) → (kf = true → S w → S w') ∧ RR P S ops K rest (upd ρ d (.slice (some ⟨g, 0, none⟩) n cap)) w') :
  RR P S ops K ((⟨some d, .call ⟨.builtin .append, #[x1, x2], #[T1, T1]⟩, T, pos, af, none⟩, some kf) :: rest) ρ w := by
 refine dw rfl ?_
 unfold OpW
 obtain ⟨i0, hi0, hzz⟩ := Option.map_eq_some_iff.1 hT.sz
 simp only [Prod.mk.injEq] at hzz
 obtain ⟨i1, hi1, hz1⟩ := Option.map_eq_some_iff.1 hz.ok
 rw [hi0] at hi1
 simp only [Option.some.injEq] at hi1
 subst hi1
 obtain ⟨g', o, rfl⟩ := hp
 have e : ∀ n, (⟨g', o, none⟩ : Addr).add n = ⟨g', o + n, none⟩ := fun n => by unfold Addr.add; split <;> simp_all
 have hr := run_append_nil (P := P) w T1 T E i0 _ hT.un hi0 hz1 ⟨g', o, none⟩ n sc (rowC n hh) (by rw [bT, hzz.1]) (fun j u hu => by
  have hj : j < (rowC n hh).length := (List.getElem?_eq_some_iff.1 hu).1
  have := hs.get j hj
  rw [e]
  simp only [elt] at this
  rw [this, List.getD_eq_getElem?_getD, hu]; rfl) hn (by omega) (by rw [hzz.2]; exact hb)
 have hge : n ≤ grownCap w n 0 E := grownCap_ge w n 0 E
 have hcells : (rowC n hh ++ (Builtin.zeroCells (Value.cells (.agg #[.bool false, .slice none 0 0])) (grownCap w n 0 E - n)).toList) = rowC (grownCap w n 0 E) (fun i => if i < n then hh i else ih0) := by
  rw [kH, ez, show n + (grownCap w n 0 E - n) = grownCap w n 0 E by omega]
 have hcs : ((rowC n hh).toArray ++ Builtin.zeroCells (Value.cells (.agg #[.bool false, .slice none 0 0])) (grownCap w n 0 E - n)) = (rowC (grownCap w n 0 E) (fun i => if i < n then hh i else ih0)).toArray := by
  rw [← hcells]; simp
 rw [hcs] at hr
 have : (execOp (ev ρ) ⟨some d, .call ⟨.builtin .append, #[x1, x2], #[T1, T1]⟩, T, pos, af, none⟩).run P w = .ok (.value (.slice (some ⟨w.heap.size, 0, none⟩) n (grownCap w n 0 E))) (w.drew.alloc (.cells (rowC (grownCap w n 0 E) (fun i => if i < n then hh i else ih0)).toArray E)) := by
  simp [execOp, resolve, invoke, builtin, h1, h2, hr]
 rw [this]
 have hnew := New.of_alloc w.drew E (rowC (grownCap w n 0 E) (fun i => if i < n then hh i else ih0))
 exact h w.heap.size _ _ _ ⟨((Ex.refl w).drew).trans hnew.ex, Nat.le_refl _, hnew.hi, hnew.blk⟩ hge (fun i hi => if_pos hi)
end
end Go.W
namespace Go.LA
structure CtK (rows cols k : Nat) (H : Mat) (p : Nat → Nat) (v : Vec) (c : Nat) (r : Vec) : Prop where
 comb : ∃ x : Vec, ∀ i, i < rows → v i = r i + mv cols H x i
 red : ∀ j, j < c → 0 ≤ r (p j) ∧ r (p j) < H (p j) j
theorem pX {rows cols k : Nat} {H : Mat} {p : Nat → Nat} (v : Vec) : CtK rows cols k H p v 0 v :=
 ⟨⟨fun _ => 0, fun i _ => by unfold mv; rw [fE fun j _ => Int.mul_zero _]; omega⟩, fun j hj => by omega⟩
theorem CtK.step {rows cols k : Nat} {H : Mat} {p : Nat → Nat} {v r r' : Vec} {c : Nat} (hF : HF rows cols H k p) (h : CtK rows cols k H p v c r) (hc : c < k) (hr : ∀ i, i < rows → r' i = r i - r (p c) / H (p c) c * H i c) : CtK rows cols k H p v (c + 1) r' := by
 obtain ⟨x, hx⟩ := h.comb
 have hcc : c < cols := by have := hF.kc; omega
 refine ⟨⟨fun j => x j + (if j = c then r (p c) / H (p c) c else 0), fun i hi => ?_⟩, fun j hj => ?_⟩
 ·rw [nY, qG H _ hcc, hr i hi, hx i hi]; omega
 ·rw [hr _ (hF.lt j (by omega))]
  by_cases e : j = c
  ·subst e
   have hp := hF.pos j hc
   have e4 : r (p j) - r (p j) / H (p j) j * H (p j) j = r (p j) % H (p j) j := by rw [Int.emod_def, Int.mul_comm]
   rw [e4]; exact ⟨Int.emod_nonneg _ (by omega), Int.emod_lt_of_pos _ hp⟩
  ·rw [hF.zero c hc (p j) (hF.mono j c (by omega) hc), Int.mul_zero, Int.sub_zero]; exact h.red j (by omega)
theorem CtK.done {rows cols k : Nat} {H : Mat} {p : Nat → Nat} {v r : Vec} (hF : HF rows cols H k p) (h : CtK rows cols k H p v k r) : InL rows cols H v ↔ ∀ i, i < rows → r i = 0 := by
 obtain ⟨x, hx⟩ := h.comb
 constructor
 ·intro hv
  have hr : InL rows cols H r := (hv.sub (v' := mv cols H x) ⟨x, fun _ _ => rfl⟩).congr fun i hi => by rw [hx i hi]; omega
  refine Classical.byContradiction fun hn => ?_
  have : ∃ i, i < rows ∧ r i ≠ 0 := Classical.byContradiction fun h' => hn fun i hi => Classical.byContradiction fun h'' => h' ⟨i, hi, h''⟩
  obtain ⟨c, hc, _, h2, h3⟩ := hF.lead hr this
  have h4 := h.red c hc
  have := Int.le_of_dvd (by omega) h3
  omega
 ·intro hz
  exact ⟨x, fun i hi => by rw [hx i hi, hz i hi, Int.zero_add]⟩
end Go.LA
namespace Go.Proofs.YtiejljicpinheaaGreat
open Go.W Go.LM Go.LA
set_option maxHeartbeats 4000000 in
theorem pY {cn cx : Bool} {K KM Kx r c cap s Q : Nat} {w : World} {a : Option Addr} {sh : Nat → SD} {A : Mat} {sx : SD} {X : Nat → Int} (hM : MX cn K w a r c sh A) (hX : RX cx Kx w sx r X) (hr : 1 ≤ r ∧ r ≤ 16) (hc : 1 ≤ c ∧ c ≤ 16) (hA : ∀ l, l < c → ∀ i, i < r → Lb (Zb Q s l) (A i l)) (hQ : 10 ≤ Q) (hKM : Zb Q s (2 * c + 1) ≤ KM) (hK : 20 * (KM + 2) + Kx < 17592186044415) :
  CallsR Tryz.prog 34 #[.slice a r cap, .slice sx.a r sx.cap] w fun v w' => ∃ t : Bool, v = .bool t ∧ (t = true ↔ InL r c A X) ∧ Ex w w' := by
 refine aF (args := [_, _]) Tryz.func34 rfl rfl ?_
 repeat' (first|refine ai rfl ?_|refine aa ?_|refine aj ?_|refine ah rfl ?_|refine ae ?_)
 refine aw (cV hM hr hc hA hQ hKM (by omega)) rfl ?_
 intro v w1 hv
 obtain ⟨H, U, k, p, u, rfl, hC, hF, h0, hO, hE1⟩ := hv.basis hQ hKM
 refine ⟨fun _ _ => trivial, ?_⟩
 have hkc := hF.kc
 obtain ⟨px, dx, hhx, ex, _, hpx, hSx, hEx⟩ := (hX.ext hE1).get (by omega)
 rw [ex]
 repeat' (first|refine aK rfl rfl ?_|refine cN rfl rfl rfl ?_|refine ai rfl ?_|refine aa ?_|refine aj ?_|refine ah rfl ?_|refine ae ?_|refine aZ rfl ?_|refine bz rfl rfl ?_|refine au rfl ?_|refine aE ?_)
 refine pW (E := 43) rfl rfl hSx hpx (by omega) (by omega) (by omega) (fun g7 cap7 h7 w2 hn2 hc7 hh7 => ⟨fun _ _ => trivial, ?_⟩)
 have hL : ∀ {P : Prop}, (P ↔ InL r c H X) → (P ↔ InL r c A X) := fun h => h.trans (hC.inL X)
 have hR2 : RO false (Kx + 0 * (KM + 1)) w2 w1.heap.size g7 cap7 r X := ⟨hn2.lo, hc7, h7, hn2.blk, fun i hi => by rw [hh7 i hi, Nat.zero_mul]; exact ((hEx i hi).weak').ext hn2.ex⟩
 have s1 := hE1.size
 have lo7 := hn2.lo
 have cb : k * (KM + 1) ≤ 16 * (KM + 1) := Nat.mul_le_mul_right _ (by omega)
 repeat' (first|refine ai rfl ?_|refine aa ?_|refine aj ?_|refine ah rfl ?_|refine ae ?_)
 refine ct (ι := Nat → Int) [8, 9, 10, 11, 30, 31, 32, 33, 34, 35, 36, 37, 38, 39, 40, 41, 42, 43, 44, 45, 46, 47, 48, 49, 50, 51, 52, 53, 54, 55, 56, 57, 58, 59, 60, 61, 62, 63, 64, 65, 66, 67, 68, 69, 70, 71, 72, 73, 74, 75, 76, 77, 78, 79, 80] (fun _ => [])
  (fun R w' => w2.grownBy w' (some g7) ∧ RO false (Kx + k * (KM + 1)) w' w1.heap.size g7 cap7 r R ∧ CtK r c k H p X k R) ?_ ?_
 ·refine aA ?_
  refine aY (ι := Nat × (Nat → Int)) [8, 9, 10, 11, 30, 31, 32, 33, 34, 35, 36, 37, 38, 39, 40, 41, 42, 43, 44, 45, 46, 47, 48, 49, 50, 51, 52, 53, 54, 55, 56, 57, 58, 59, 60, 61, 62, 63, 64, 65, 66, 67, 68, 69, 70, 71, 72, 73, 74, 75, 76, 77, 78, 79, 80] (fun t => [(8, .int .i64 (t.1 : Int))])
   (fun t w' => (t.1 ≤ k ∧ w2.grownBy w' (some g7)) ∧ RO false (Kx + t.1 * (KM + 1)) w' w1.heap.size g7 cap7 r t.2 ∧ CtK r c k H p X t.1 t.2) (fun t => k - t.1)
   (0, X) ⟨rfl, trivial⟩ ⟨⟨by simp only; omega, lL (Ex.refl _)⟩, hR2, pX X⟩ ?_
  rintro ⟨c0, R⟩ ξ w5 ⟨⟨hc0, hG5⟩, hR5, hJ⟩
  simp only at hc0 hR5 hJ
  show CW _ _ _ _ (over [(8, .int .i64 (c0 : Int))] _) w5
  rcases Nat.lt_or_ge c0 k with hck | hck
  ·obtain ⟨g, gs, cp, rfl, hB⟩ := hO (by omega)
   have hgl := hB.lt
   have hgsl : ∀ i, i < r → gs i ≠ g7 := fun i hi => by have := (hB.row i hi).lt; omega
   have ng : g ≠ g7 := by omega
   have hM5 := (hB.ext hn2.ex).gbN hn2.blk (bE _ _) hG5 ng hgsl
   have lH : ∀ i j, i < r → j < k → Lb KM (H i j) := fun i j hi hj => hB.mx.lb hi hj
   have cb0 : c0 * (KM + 1) ≤ 16 * (KM + 1) := Nat.mul_le_mul_right _ (by omega)
   have cb1 : (c0 + 1) * (KM + 1) = c0 * (KM + 1) + (KM + 1) := Nat.succ_mul _ _
   obtain ⟨KR, hKR⟩ : ∃ KR, KR = Kx + c0 * (KM + 1) := ⟨_, rfl⟩
   rw [← hKR] at hR5
   have hpr := hF.lt c0 hck
   have hpos := hF.pos c0 hck
   have hE05 : Ex w w5 := (hE1.trans hn2.ex).gb hG5 (fun q e => by cases e; omega)
   repeat' (first|refine kh rfl rfl (show (0 : Int) < ((r : Nat) : Int) by omega) ?_|refine aD (j := 0) (a := some ⟨g, 0, none⟩) rfl rfl ⟨_, _, rfl⟩ (show 0 < r by omega) ?_|refine aV (j := 0) (a := some ⟨g, 0, none⟩) (n := r) (s := fun i => ⟨some ⟨gs i, 0, none⟩, k, cp i⟩) rfl hM5.top.sl (by omega) rfl ?_|refine bu rfl rfl (by omega) ?_|refine ai rfl ?_|refine aa ?_|refine aj ?_|refine ah rfl ?_|refine ae ?_|refine aZ rfl ?_|refine bz rfl rfl ?_|refine az rfl ?_|refine aA ?_|refine aE ?_)
   refine aw (fD hM5.mx ⟨hr.1, by omega⟩ hck) rfl ?_
   rintro v w6 ⟨q, rfl, hq, hz, hnz, hE6⟩
   refine ⟨fun _ _ => trivial, ?_⟩
   obtain ⟨t1, t2⟩ := mF hF (show c0 < c by omega) hq hz hnz
   have hqr := t1.2 hck
   have hqp := t2 hqr
   subst hqp
   have hM6 := hM5.ext hE6
   have hR6 := hR5.ext hE6
   obtain ⟨hhr, hb8, hE8⟩ := hR6.ex
   obtain ⟨hhp, hbp, hcp, hEp⟩ := hM6.get hpr
   repeat' (first|refine ai rfl ?_|refine aa ?_|refine aj ?_|refine ae ?_)
   refine ct (ι := Nat × IH) [10, 46, 47, 48, 49, 50, 51, 52, 53, 54, 55, 56, 57] (fun t => [(10, .pointer (some ⟨t.1, 0, none⟩))])
    (fun t w' => Ex w6 w' ∧ w6.heap.size ≤ t.1 ∧ Blk w' t.1 43 t.2.cells ∧ Ent true KR w' t.2.val (R (p c0) / H (p c0) c0)) ?_ ?_
   ·have hEx : Ex w6 w6.drew := (Ex.refl _).drew
    refine dW (fun w' => Ex w6 w') bA hEx ?_
    refine bC (fuel := 3) (by kernel_rfl) (by kernel_rfl) [0, 1, 2, 3, 4, 5, 6, 7, 8, 9, 10] _ _ (by kernel_rfl) ?_
    repeat' (first|refine aD (j := p c0) (a := some ⟨g, 0, none⟩) rfl rfl ⟨_, _, rfl⟩ (show p c0 < r by omega) ?_|refine aV (j := p c0) (a := some ⟨g, 0, none⟩) (n := r) (s := fun i => ⟨some ⟨gs i, 0, none⟩, k, cp i⟩) rfl (fun _ h => (hM6.ext h).top.sl) (by omega) rfl ?_|refine aT (j := c0) (a := some ⟨gs (p c0), 0, none⟩) rfl rfl ⟨_, _, rfl⟩ (by omega) ?_|refine bo (j := c0) (n := cp (p c0)) (a := some ⟨gs (p c0), 0, none⟩) rfl (fun _ h => (hbp.ext h).sl) ⟨_, _, rfl⟩ (by omega) ?_|refine aT (j := p c0) (a := some ⟨g7, 0, none⟩) rfl rfl ⟨_, _, rfl⟩ (by omega) ?_|refine bo (j := p c0) (n := cap7) (a := some ⟨g7, 0, none⟩) rfl (fun _ h => (hb8.ext h).sl) ⟨_, _, rfl⟩ (by omega) ?_|refine ai rfl ?_|refine ae ?_)
    refine aC (fuel := 2) (rs := [11, 12]) (by kernel_rfl) (by kernel_rfl) rfl ?_
    simp only [List.forall_mem_cons, List.not_mem_nil, false_implies, implies_true, and_true]
    refine ⟨?_, ?_⟩
    ·refine aw (d7 ((hE8 (p c0) hpr).ext hEx).k ((hEp c0 hck).ext hEx).k (by omega) (by omega)) rfl ?_
     rintro v w7 ⟨hI7, hE7⟩
     refine ⟨fun _ h => h.trans hE7, ?_⟩
     obtain ⟨xq, rfl⟩ := hI7.ih
     have eq : Ent true KR w7 xq.val (R (p c0) / H (p c0) c0) := Ent.of hI7 ((hE8 (p c0) hpr).lb.div _)
     replace hEx := hEx.trans hE7
     try replace hb10 := hb10.ext hE7
     refine ae ?_
     refine aC (fuel := 1) (rs := [12]) (by kernel_rfl) (by kernel_rfl) rfl ?_
     rw [List.forall_mem_singleton]
     refine aG (fun g10 w10 hn10 => ⟨fun _ h => h.trans hn10.ex, ?_⟩)
     have hb10 : Blk w10 g10 43 (intL false none 0 0) := hn10.blk
     have lo10 : w6.heap.size ≤ g10 := Nat.le_trans hEx.size hn10.lo
     replace hEx := hEx.trans hn10.ex
     try replace eq := eq.ext hn10.ex
     refine ae ?_
     refine aC (fuel := 0) (rs := [13]) (by kernel_rfl) (by kernel_rfl) rfl ?_
     rw [List.forall_mem_singleton]
     refine ax (n := 2) (vs := xq.cells) rfl rfl rfl rfl hb10 rfl (fun w11 hc11 hb11 => ⟨fun _ h => h.chg hc11 lo10, ?_⟩)
     refine ae ?_
     refine bp (by kernel_rfl) ?_
     refine aa ?_
     exact ⟨⟨(_, xq), ⟨hEx.chg hc11 lo10, lo10, hb11, eq.gbN hb10 (aB _ _ _ _) (bw hc11)⟩, rfl, trivial⟩, (by (repeat (first|exact aM _ _|refine ay rfl ?_|refine av rfl ?_|refine ak rfl ?_|refine ao rfl ?_)))⟩
    ·refine aG (fun g10 w10 hn10 => ⟨fun _ h => h.trans hn10.ex, ?_⟩)
     have hb10 : Blk w10 g10 43 (intL false none 0 0) := hn10.blk
     have lo10 : w6.heap.size ≤ g10 := Nat.le_trans hEx.size hn10.lo
     replace hEx := hEx.trans hn10.ex
     try replace eq := eq.ext hn10.ex
     refine ae ?_
     refine aC (fuel := 1) (rs := [11]) (by kernel_rfl) (by kernel_rfl) rfl ?_
     rw [List.forall_mem_singleton]
     refine aw (d7 ((hE8 (p c0) hpr).ext hEx).k ((hEp c0 hck).ext hEx).k (by omega) (by omega)) rfl ?_
     rintro v w7 ⟨hI7, hE7⟩
     refine ⟨fun _ h => h.trans hE7, ?_⟩
     obtain ⟨xq, rfl⟩ := hI7.ih
     have eq : Ent true KR w7 xq.val (R (p c0) / H (p c0) c0) := Ent.of hI7 ((hE8 (p c0) hpr).lb.div _)
     replace hEx := hEx.trans hE7
     try replace hb10 := hb10.ext hE7
     refine ae ?_
     refine aC (fuel := 0) (rs := [13]) (by kernel_rfl) (by kernel_rfl) rfl ?_
     rw [List.forall_mem_singleton]
     refine ax (n := 2) (vs := xq.cells) rfl rfl rfl rfl hb10 rfl (fun w11 hc11 hb11 => ⟨fun _ h => h.chg hc11 lo10, ?_⟩)
     refine ae ?_
     refine bp (by kernel_rfl) ?_
     refine aa ?_
     exact ⟨⟨(_, xq), ⟨hEx.chg hc11 lo10, lo10, hb11, eq.gbN hb10 (aB _ _ _ _) (bw hc11)⟩, rfl, trivial⟩, (by (repeat (first|exact aM _ _|refine ay rfl ?_|refine av rfl ?_|refine ak rfl ?_|refine ao rfl ?_)))⟩
   ·rintro ⟨g10, xq⟩ ξ2 w7 ⟨hE7, lo10, hb10, eq⟩
    simp only at lo10 hb10 eq
    show CW _ _ _ _ (over [(10, .pointer (some ⟨g10, 0, none⟩))] _) w7
    have hM7 := hM6.ext hE7
    have hR7 := hR6.ext hE7
    have hb87 := hb8.ext hE7
    have hG7 : w2.grownBy w7 (some g7) := bJ hG5 (lL (hE6.trans hE7)) (fun k e => .inl e)
    have lg7 := hR6.lt
    repeat' (first|refine ai rfl ?_|refine aa ?_|refine aj ?_|refine ah rfl ?_|refine ae ?_|refine aZ rfl ?_|refine aA ?_)
    refine aY (ι := Nat) [11, 60, 61, 62, 63, 64, 65, 66, 67, 68, 69, 70, 71, 72, 73, 74, 75, 76, 77, 78, 79, 80] (fun i => [(60, .int .i64 (i : Int))])
     (fun i w' => (i ≤ r ∧ w7.grownBy w' (some g7)) ∧ RO false (KR + (KM + 1)) w' w1.heap.size g7 cap7 r (fun j => if j < i then R j - R (p c0) / H (p c0) c0 * H j c0 else R j)) (fun i => r - i)
     0 ⟨rfl, trivial⟩ ⟨⟨by omega, lL (Ex.refl _)⟩, (hR7.up (by omega)).congr fun j _ => if_neg (by omega)⟩ ?_
    clear hR7
    rintro i ξ3 w8 ⟨⟨hi, hG8⟩, hR8⟩
    show CW _ _ _ _ (over [(60, .int .i64 (i : Int))] _) w8
    have hM8 := hM7.gbN hb87 (bE _ _) hG8 ng hgsl
    rcases Nat.lt_or_ge i r with hir | hir
    ·obtain ⟨hhi, hbi, hci, hEi⟩ := hM8.get hir
     obtain ⟨hhr8, hb88, hE88⟩ := hR8.ex
     have ei := hE88 i hir
     rw [if_neg (by omega)] at ei
     have hb108 := hb10.gb hG8 (fun e => by cases e; omega)
     have eq8 := eq.gbN hb87 (bE _ _) hG8
     have lR : Lb KR (R i) := (hE8 i hir).lb
     repeat' (first|refine bu rfl rfl (by omega) ?_|refine aa ?_|refine aj ?_|refine ah rfl ?_|refine ae ?_|refine az rfl ?_|refine aE ?_)
     refine aA ?_
     repeat' (first|refine ai rfl ?_|refine aa ?_|refine aj ?_|refine ah rfl ?_|refine ae ?_)
     refine bi (late := [17]) (plan := [(0, none), (1, none), (2, none), (3, none), (4, none), (5, none), (6, none), (7, none), (8, none), (9, none), (10, none), (11, none), (12, none), (13, none), (14, some true), (15, some true), (16, none), (17, some false)]) (fun w' => Ex w8 w') bA (by kernel_rfl) (Ex.refl w8).drew ?_
     have hEd := (Ex.refl w8).drew
     repeat' (first|refine aT (j := i) (a := some ⟨g7, 0, none⟩) rfl rfl ⟨_, _, rfl⟩ (by omega) ?_|refine bo (j := i) (n := cap7) (a := some ⟨g7, 0, none⟩) rfl (fun _ h => (hb88.ext h).sl) ⟨_, _, rfl⟩ (by omega) ?_|refine aR (g := g10) rfl (fun _ h => hb108.ext h) rfl ?_|refine aD (j := i) (a := some ⟨g, 0, none⟩) rfl rfl ⟨_, _, rfl⟩ (show i < r by omega) ?_|refine aV (j := i) (a := some ⟨g, 0, none⟩) (n := r) (s := fun i => ⟨some ⟨gs i, 0, none⟩, k, cp i⟩) rfl (fun _ h => (hM8.ext h).top.sl) (by omega) rfl ?_|refine aT (j := c0) (a := some ⟨gs i, 0, none⟩) rfl rfl ⟨_, _, rfl⟩ (by omega) ?_|refine bo (j := c0) (n := cp i) (a := some ⟨gs i, 0, none⟩) rfl (fun _ h => (hbi.ext h).sl) ⟨_, _, rfl⟩ (by omega) ?_|refine ai rfl ?_)
     refine aw (dG (eq8.ext hEd).k ((hEi c0 hck).ext hEd).k (by omega)) rfl ?_
     rintro v w9 ⟨hI9, hE9⟩
     refine ⟨fun _ h => h.trans hE9, ?_⟩
     have lq : Lb (KR + KM) (R (p c0) / H (p c0) c0 * H i c0) := eq8.lb.mul (lH i c0 hir hck)
     have hE89 := hEd.trans hE9
     skip
     refine aw (ew (ei.ext hE89).k (hI9.k lq) (by omega) (by omega)) rfl ?_
     rintro v w10 ⟨hI10, hE10⟩
     refine ⟨fun _ h => h.trans hE10, ?_⟩
     obtain ⟨u, rfl⟩ := hI10.ih
     have hE810 := hE89.trans hE10
     have lu : Lb (KR + (KM + 1)) (R i - R (p c0) / H (p c0) c0 * H i c0) := ((lR.mono (show KR ≤ KR + KM by omega)).sub lq).mono (by omega)
     repeat' (first|refine aT (j := i) (a := some ⟨g7, 0, none⟩) rfl rfl ⟨_, _, rfl⟩ (by omega) ?_)
     refine bR (j := i) (n := cap7) (u := u) rfl rfl (hb88.ext hE810) (by omega) (fun w11 hc11 hb11 => ⟨fun h => (nomatch h), ?_⟩)
     repeat' (first|refine ai rfl ?_|refine aa ?_|refine ah rfl ?_|refine ae ?_|refine bc rfl rfl (by omega) (by omega) ?_|refine aL ?_)
     refine ⟨⟨i + 1, ⟨⟨hir, bJ hG8 (bJ (lL hE810) (bw hc11) (fun k e => .inl e)) (fun k e => .inl e)⟩, (RO.put hR8.low hR8.le (hb88.ext hE810) (fun j hj => (hE88 j hj).ext hE810) (Ent.of hI10 lu) hc11 hb11).congr fun j _ => ?_⟩, by omega, rfl, trivial⟩, (by (repeat (first|exact aH _ _ _|refine ay rfl ?_|refine av rfl ?_|refine ak rfl ?_|refine ao rfl ?_)))⟩
     by_cases e : j = i
     ·subst e; rw [aS, if_pos (Nat.lt_succ_self _)]
     ·rw [aX _ _ e]
      by_cases h : j < i
      ·rw [if_pos h, if_pos (by omega)]
      ·rw [if_neg h, if_neg (by omega)]
    ·have eir : r = i := by omega
     subst eir
     repeat' (first|refine bj rfl rfl (by omega) ?_|refine ai rfl ?_|refine aa ?_|refine aj ?_|refine ah rfl ?_|refine ae ?_|refine bc rfl rfl (by omega) (by omega) ?_|refine au rfl ?_|refine aP ?_|refine aJ ?_|refine aQ ?_|refine aL ?_)
     refine ⟨⟨(c0 + 1, fun j => R j - R (p c0) / H (p c0) c0 * H j c0), ⟨⟨hck, bJ hG7 hG8 (fun k e => .inl e)⟩, ?_, hJ.step hF hck fun j _ => rfl⟩, by simp only; omega, rfl, trivial⟩, (by (repeat (first|exact aH _ _ _|refine ay rfl ?_|refine av rfl ?_|refine ak rfl ?_|refine ao rfl ?_)))⟩
     simp only
     rw [cb1, ← Nat.add_assoc, ← hKR]
     exact hR8.congr fun j hj => by rw [if_pos hj]
  ·have eck : k = c0 := by omega
   subst eck
   rcases Nat.eq_zero_or_pos k with hk | hk
   ·obtain rfl := h0 hk
    repeat' (first|refine gI rfl rfl (by decide) ?_|refine ai rfl ?_|refine aa ?_|refine aj ?_|refine ah rfl ?_|refine ae ?_|refine aZ rfl ?_|refine bK rfl rfl ?_|refine au rfl ?_|refine aP ?_|refine aJ ?_|refine aQ ?_)
    exact ⟨⟨R, ⟨hG5, hR5, hJ⟩, trivial⟩, (by (repeat (first|exact aM _ _|refine ay rfl ?_|refine av rfl ?_|refine ak rfl ?_|refine ao rfl ?_)))⟩
   ·obtain ⟨g, gs, cp, rfl, hB⟩ := hO hk
    have hgl := hB.lt
    have hM5 := (hB.ext hn2.ex).gbN hn2.blk (bE _ _) hG5 (by omega) (fun i hi => by have := (hB.row i hi).lt; omega)
    repeat' (first|refine kh rfl rfl (show (0 : Int) < ((r : Nat) : Int) by omega) ?_|refine aD (j := 0) (a := some ⟨g, 0, none⟩) rfl rfl ⟨_, _, rfl⟩ (show 0 < r by omega) ?_|refine aV (j := 0) (a := some ⟨g, 0, none⟩) (n := r) (s := fun i => ⟨some ⟨gs i, 0, none⟩, k, cp i⟩) rfl hM5.top.sl (by omega) rfl ?_|refine bj rfl rfl (by omega) ?_|refine ai rfl ?_|refine aa ?_|refine aj ?_|refine ah rfl ?_|refine ae ?_|refine aZ rfl ?_|refine bz rfl rfl ?_|refine au rfl ?_|refine aP ?_|refine aJ ?_|refine aQ ?_)
    exact ⟨⟨R, ⟨hG5, hR5, hJ⟩, trivial⟩, (by (repeat (first|exact aM _ _|refine ay rfl ?_|refine av rfl ?_|refine ak rfl ?_|refine ao rfl ?_)))⟩
 ·rintro R ξ w5 ⟨hG5, hR5, hJ⟩
  show CW _ _ _ _ (over [] _) w5
  have hE05 : Ex w w5 := (hE1.trans hn2.ex).gb hG5 (fun q e => by cases e; omega)
  obtain ⟨hhr, hb8, hE8⟩ := hR5.ex
  repeat' (first|refine ai rfl ?_|refine aa ?_|refine aj ?_|refine ah rfl ?_|refine ae ?_|refine aZ rfl ?_|refine aA ?_)
  refine aY (ι := Nat) [4, 13, 83, 84, 85, 86, 87, 88, 89, 90] (fun i => [(83, .int .i64 (i : Int))])
   (fun i w' => i ≤ r ∧ Ex w5 w' ∧ ∀ j, j < i → R j = 0) (fun i => r - i)
   0 ⟨rfl, trivial⟩ ⟨by omega, Ex.refl _, fun j h => by omega⟩ ?_
  rintro i ξ2 w6 ⟨hi, hE6, hz⟩
  show CW _ _ _ _ (over [(83, .int .i64 (i : Int))] _) w6
  rcases Nat.lt_or_ge i r with hir | hir
  ·repeat' (first|refine bu rfl rfl (by omega) ?_|refine aT (j := i) (a := some ⟨g7, 0, none⟩) rfl rfl ⟨_, _, rfl⟩ (by omega) ?_|refine bo (j := i) (n := cap7) (a := some ⟨g7, 0, none⟩) rfl (hb8.ext hE6).sl ⟨_, _, rfl⟩ (by omega) ?_|refine aa ?_|refine aj ?_|refine ah rfl ?_|refine ae ?_|refine az rfl ?_|refine aA ?_|refine aE ?_)
   refine aG (fun g19 w7 hn7 => ⟨fun _ _ => trivial, ?_⟩)
   have hb7 : Blk w7 g19 43 (intL false none 0 0) := hn7.blk
   refine ax (n := 2) (vs := (hhr i).cells) rfl rfl rfl rfl hb7 rfl (fun w8 hc8 hb8' => ⟨fun _ _ => trivial, ?_⟩)
   have hE68 : Ex w6 w8 := hn7.ex.chg hc8 hn7.lo
   repeat' (first|refine aR (g := g19) rfl hb8' rfl ?_|refine aa ?_|refine aj ?_|refine ah rfl ?_|refine ae ?_)
   refine aw (cj (((hE8 i hir).ext hE6).ext hE68).k) rfl ?_
   rintro v w9 ⟨rfl, hE9⟩
   refine ⟨fun _ _ => trivial, ?_⟩
   have hE69 := hE68.trans hE9
   by_cases h : R i = 0
   ·repeat' (first|(refine cN rfl rfl (by rw [h]; rfl) ?_)|refine ai rfl ?_|refine aa ?_|refine ah rfl ?_|refine ae ?_|refine bc rfl rfl (by omega) (by omega) ?_|refine au rfl ?_|refine aL ?_|refine aE ?_)
    refine ⟨⟨i + 1, ⟨hir, hE6.trans hE69, fun j hj => ?_⟩, by omega, rfl, trivial⟩, (by (repeat (first|exact aH _ _ _|refine ay rfl ?_|refine av rfl ?_|refine ak rfl ?_|refine ao rfl ?_)))⟩
    by_cases e : j = i
    ·subst e; exact h
    ·exact hz j (by omega)
   ·repeat' (first|refine df rfl rfl (fun e => h (Int.sign_eq_zero_iff_zero.1 e)) ?_|refine ai rfl ?_|refine aa ?_|refine aj ?_|refine ah rfl ?_|refine ae ?_|refine az rfl ?_|refine aI ?_|refine aU ?_|refine bQ ?_)
    exact bx rfl (rt rfl) ⟨false, rfl, hL ⟨fun h => (nomatch h), fun hv => absurd ((hJ.done hF).1 hv i hir) h⟩, (hE05.trans hE6).trans hE69⟩
  ·have eir : r = i := by omega
   subst eir
   repeat' (first|refine bj rfl rfl (by omega) ?_|refine ai rfl ?_|refine aa ?_|refine aj ?_|refine ah rfl ?_|refine ae ?_|refine au rfl ?_|refine aP ?_|refine aJ ?_|refine aQ ?_|refine aI ?_)
   exact bx rfl (rt rfl) ⟨true, rfl, hL ⟨fun _ => (hJ.done hF).2 hz, fun _ => rfl⟩, hE05.trans hE6⟩
end Go.Proofs.YtiejljicpinheaaGreat
namespace Go.Proofs.YtiejljicpinheaaGreat
open Go.W Go.LM Go.LA Go.PM
theorem tV {rows cols : Int} {L : List Int} {la : Option Addr} {most : Nat} {w : World} (hL : Sl w la (int8L L)) (hI : I8 L) (h1 : 0 ≤ rows ∧ rows ≤ 255) (h2 : 0 ≤ cols ∧ cols ≤ 255) (hm : 1 ≤ most ∧ most ≤ 16) (lc : Nat) :
  ∃ (r c : Nat) (A : Mat), (1 ≤ r ∧ r ≤ most) ∧ (1 ≤ c ∧ c ≤ most) ∧ ∀ w', Ex w w' → CallsR Tryz.prog 13 #[.agg (gridL rows cols la L.length lc).toArray, .int .i64 (most : Int)] w' (RetMO 2 w' r c A) :=
 ⟨gd rows most, gd cols most, gridF L _, iA hm.1, iA hm.1, fun _w' e => gT (hL.ext e) hI h1 h2 hm⟩
end Go.Proofs.YtiejljicpinheaaGreat
