import Derived.Test.YtiejljicpinheaaA18
namespace Go.Proofs.Ytiejljicpinheaa
open Go.W
instance g14 : Agg Try.prog 14 2 := ⟨by kernel_rfl, by kernel_rfl⟩
instance g19 : Agg Try.prog 19 1 := ⟨by kernel_rfl, by kernel_rfl⟩
instance c16 : Fun Try.prog 16 := ⟨by kernel_rfl⟩
instance c17 : Fun Try.prog 17 := ⟨by kernel_rfl⟩
instance c18 : Fun Try.prog 18 := ⟨by kernel_rfl⟩
instance c19 : Fun Try.prog 19 := ⟨by kernel_rfl⟩
instance c20 : Fun Try.prog 20 := ⟨by kernel_rfl⟩
instance c41 : Fun Try.prog 41 := ⟨by kernel_rfl⟩
instance c43 : Fun Try.prog 43 := ⟨by kernel_rfl⟩
end Go.Proofs.Ytiejljicpinheaa
namespace Go.LA
theorem InL.zero (rows cols : Nat) (H : Mat) : InL rows cols H fun _ => 0 := ⟨fun _ => 0, fun r _ => by unfold mv; rw [fg fun j _ => Int.mul_zero _]⟩
theorem InL.mat {rows cols : Nat} {H H' : Mat} {v : Vec} (h : InL rows cols H v) (he : ∀ r c, r < rows → c < cols → H r c = H' r c) : InL rows cols H' v := by
 obtain ⟨x, hx⟩ := h
 exact ⟨x, fun r hr => by rw [hx r hr]; exact cX (fun j hj => he r j hr hj) fun _ _ => rfl⟩
theorem InL.of_cols {rows cols cols' : Nat} {A H : Mat} (h : ∀ c, c < cols → InL rows cols' H fun r => A r c) {v : Vec} (hv : InL rows cols A v) : InL rows cols' H v := by
 obtain ⟨x, hx⟩ := hv
 have key : ∀ k, k ≤ cols → InL rows cols' H fun r => mv k A x r := by
  intro k
  induction k with
  | zero => intro _; exact InL.zero _ _ _
  | succ k ih =>
   intro hk
   have := (ih (by omega)).comb (h k (by omega)) 1 (x k)
   refine this.congr fun r _ => ?_
   unfold mv
   rw [bR]; grind
 exact (key cols (Nat.le_refl _)).congr fun r hr => hx r hr
end Go.LA
namespace Go.LA
structure CtJ (rows cols k : Nat) (H : Mat) (p : Nat → Nat) (v : Vec) (c : Nat) (r : Vec) : Prop where
 comb : ∃ x : Vec, (∀ j, c ≤ j → x j = 0) ∧ ∀ i, i < rows → v i = r i + mv cols H x i
 zero : ∀ j, j < c → r (p j) = 0
theorem oT {rows cols k : Nat} {H : Mat} {p : Nat → Nat} (v : Vec) : CtJ rows cols k H p v 0 v :=
 ⟨⟨fun _ => 0, fun _ _ => rfl, fun i _ => by unfold mv; rw [fg fun j _ => Int.mul_zero _]; omega⟩, fun j hj => by omega⟩
theorem nB (n : Nat) (A : Mat) (x y : Vec) (r : Nat) : mv n A (fun j => x j + y j) r = mv n A x r + mv n A y r := by
 unfold mv; rw [← dG]; exact aV fun j _ => by rw [Int.mul_add]
theorem qi {n c : Nat} (A : Mat) (q : Int) (hc : c < n) (r : Nat) : mv n A (fun j => if j = c then q else 0) r = q * A r c := by
 show (sm n fun j => A r j * if j = c then q else 0) = _
 rw [cf hc fun j _ hne => by rw [if_neg hne, Int.mul_zero]]
 rw [if_pos rfl, Int.mul_comm]
theorem CtJ.step {rows cols k : Nat} {H : Mat} {p : Nat → Nat} {v r r' : Vec} {c : Nat} (hF : HF rows cols H k p) (h : CtJ rows cols k H p v c r) (hc : c < k) (hd : H (p c) c ∣ r (p c)) (hr : ∀ i, i < rows → r' i = r i - r (p c) / H (p c) c * H i c) : CtJ rows cols k H p v (c + 1) r' := by
 have hkc := hF.kc
 obtain ⟨x, hx0, hx⟩ := h.comb
 refine ⟨⟨fun j => x j + if j = c then r (p c) / H (p c) c else 0, fun j hj => ?_, fun i hi => ?_⟩, fun j hj => ?_⟩
 ·show x j + _ = 0
  rw [hx0 j (by omega), if_neg (by omega)]; rfl
 ·rw [nB, qi H _ (show c < cols by omega), hr i hi, hx i hi]; omega
 ·rw [hr _ (hF.lt j (by omega))]
  by_cases e : j = c
  ·subst e
   rw [Int.ediv_mul_cancel hd]; omega
  ·rw [h.zero j (by omega), hF.zero c hc _ (hF.mono j c (by omega) hc)]; omega
theorem CtJ.inL {rows cols k : Nat} {H : Mat} {p : Nat → Nat} {v r : Vec} {c : Nat} (h : CtJ rows cols k H p v c r) : InL rows cols H v ↔ InL rows cols H r := by
 obtain ⟨x, _, hx⟩ := h.comb
 constructor
 ·rintro ⟨y, hy⟩
  refine ⟨fun j => y j - x j, fun i hi => ?_⟩
  have e : mv cols H (fun j => y j - x j) i = mv cols H y i - mv cols H x i := by unfold mv; rw [← gU]; exact aV fun j _ => by rw [Int.mul_sub]
  rw [e, ← hy i hi, hx i hi]; omega
 ·rintro ⟨y, hy⟩
  exact ⟨fun j => y j + x j, fun i hi => by rw [nB, ← hy i hi, hx i hi]⟩
theorem CtJ.fail {rows cols k : Nat} {H : Mat} {p : Nat → Nat} {v r : Vec} {c : Nat} (hF : HF rows cols H k p) (h : CtJ rows cols k H p v c r) (hc : c < k) (hn : ¬ H (p c) c ∣ r (p c)) : ¬ InL rows cols H v := fun hv => by
 obtain ⟨y, hy⟩ := h.inL.1 hv
 have h0 := hF.coeff (x := y) (c := c) (by omega) fun j hj => by rw [← hy _ (hF.lt j (by omega)), h.zero j hj]
 have := (hF.begins hc h0).2
 rw [← hy _ (hF.lt c hc)] at this
 exact hn ⟨y c, by rw [this, Int.mul_comm]⟩
theorem CtJ.done {rows cols k : Nat} {H : Mat} {p : Nat → Nat} {v r : Vec} (hF : HF rows cols H k p) (h : CtJ rows cols k H p v k r) : InL rows cols H v ↔ ∀ i, i < rows → r i = 0 := by
 rw [h.inL]
 constructor
 ·intro hr i hi
  refine Classical.byContradiction fun hne => ?_
  obtain ⟨c, hc, _, h2, _⟩ := hF.lead hr ⟨i, hi, hne⟩
  exact h2 (h.zero c hc)
 ·intro hz
  exact (InL.zero rows cols H).congr hz
end Go.LA
namespace Go.W
section
variable {P : Program} {S : World → Prop} {ops : List Oper} {K : Env → World → Prop} {rest : List (Oper × Option Bool)} {ρ : Env} {w : World} {b : Option Bool} {kf : Bool} {d : Nat} {dst : Option Nat} {T T' : TypeId} {pos : String} {af : Array Edge}
end
end Go.W
namespace Go.W
section
variable {P : Program} {S : World → Prop} {ops : List Oper} {K : Env → World → Prop} {rest : List (Oper × Option Bool)} {ρ : Env} {w : World} {b : Option Bool} {kf : Bool} {d : Nat} {dst : Option Nat} {T T' : TypeId} {pos : String} {af : Array Edge}
end
end Go.W
namespace Go.W
end Go.W
namespace Go.W
section
variable {P : Program} {S : World → Prop} {ops : List Oper} {K : Env → World → Prop} {rest : List (Oper × Option Bool)} {ρ : Env} {w : World} {b : Option Bool} {kf : Bool} {d : Nat} {dst : Option Nat} {T T' : TypeId} {pos : String} {af : Array Edge}
theorem vA {x y : Operand} {c : Bool} {T'' : TypeId} [h1 : BoolT P T'] (hx : ev ρ x = .bool c) (hy : ev ρ y = .bool c) (h : RR P S ops K rest (upd ρ d (.bool true)) w) : RR P S ops K ((⟨some d, .binOp .eql T' x y T'', T, pos, af, none⟩, b) :: rest) ρ w :=
 kZ hx hy (by rw [beq_self_eq_true]; exact h)
end
end Go.W
namespace Go.W
theorem RowG.lo {w : World} {lo E n : Nat} {s : SD} {h : Nat → IH} (hR : RowG w lo E n s h) : ∀ ad, s.a = some ad → lo ≤ ad.block ∧ ad.block < w.heap.size := by
 intro ad e
 rcases hR.2 with ⟨h0, _⟩ | ⟨g, h1, h2, h3, h4, h5⟩
 ·rw [h0] at e; cases e
 ·rw [h1] at e; cases e; exact ⟨h2, h5.lt⟩
theorem RowG.sl {w : World} {lo E n : Nat} {s : SD} {h : Nat → IH} (hR : RowG w lo E n s h) : Sl w s.a (rowC n h) := by
 rcases hR.2 with ⟨h0, rfl⟩ | ⟨g, h1, h2, h3, h4, h5⟩
 ·exact Sl.nil _ _
 ·rw [h1]; exact h5.sl.row h3
section
variable {P : Program} {S : World → Prop} {ops : List Oper} {K : Env → World → Prop} {rest : List (Oper × Option Bool)} {ρ : Env} {w : World} {b : Option Bool} {kf : Bool} {d : Nat} {dst : Option Nat} {T T' : TypeId} {pos : String} {af : Array Edge}
theorem qF {T1 E y n d1 t lo : Nat} {x : Operand} {s : SD} {f : Nat → IH} {u : IH} {T2 : TypeId} {pos2 : String} {af2 : Array Edge} [hT : Slc P T1 E 2 y] [hz : Zro P E (.agg #[.bool false, .slice none 0 0])]
  (hs : ρ t = .slice s.a s.len s.cap) (hx : ev ρ x = u.val) (htd : Nat.beq t d1 = false)
  (hR : RowG w lo E n s f) (hm : n + 1 ≤ 9223372036854775807) (hb : (n + 1) * y ≤ 140737488355328) (hlo : lo ≤ w.heap.size)
  (h : ∀ g s' f' w', RowG w' lo E (n + 1) s' f' → (∀ i, i < n → f' i = f i) → f' n = u → w.grownBy w' (Value.slice s.a s.len s.cap).ownBlock → (s'.a = s.a ∨ ∀ x, s'.a = some x → w.heap.size ≤ x.block) →
   RR P (fun _ => True) ops K rest (upd (upd ρ d1 (.slice (some ⟨g, 0, none⟩) 1 1)) d (.slice s'.a s'.len s'.cap)) w') :
  RR P (fun _ => True) ops K ((⟨some d1, .buildSlice T1 1 #[(0, x)], T2, pos2, af2, none⟩, some false) :: (⟨some d, .call ⟨.builtin .append, #[.tmp t, .tmp d1], #[T1, T1]⟩, T, pos, af, none⟩, some false) :: rest) ρ w := by
 refine dz (E := E) (s := 2) (z := .agg #[.bool false, .slice none 0 0]) (cs := u.val.cells) rfl ?_ (fun g w1 hn => ⟨fun _ _ => trivial, ?_⟩)
 ·simp only [List.map_toArray, List.map_cons, List.map_nil, hx]
  exact f9 (s := 2) rfl (by simp)
 ·refine df rfl ?_
  unfold OpW
  obtain ⟨i0, hi0, hzz⟩ := Option.map_eq_some_iff.1 hT.sz
  simp only [Prod.mk.injEq] at hzz
  obtain ⟨i1, hi1, hz1⟩ := Option.map_eq_some_iff.1 hz.ok
  rw [hi0] at hi1
  simp only [Option.some.injEq] at hi1
  subst hi1
  have hsz := hn.ex.size
  have hcs : u.val.cells.toList = u.cells := rfl
  obtain ⟨s', w', f', hr, h1, h2, h3, h4, h5⟩ := jh (P := P) (ty := T) hT.un hi0 hz1 hzz.1 hzz.2 (hR.ext hn.ex) (hcs ▸ hn.blk.sl) hm hb (by omega)
  have e1 : ev (upd ρ d1 (.slice (some ⟨g, 0, none⟩) 1 1)) (.tmp t) = .slice s.a s.len s.cap := by
   show upd ρ d1 _ t = _
   simp only [upd, htd, cond_false, hs]
  have e2 : ev (upd ρ d1 (.slice (some ⟨g, 0, none⟩) 1 1)) (.tmp d1) = .slice (some ⟨g, 0, none⟩) 1 1 := by
   show upd ρ d1 _ d1 = _
   rw [eE]
  have : (execOp (ev (upd ρ d1 (.slice (some ⟨g, 0, none⟩) 1 1))) ⟨some d, .call ⟨.builtin .append, #[.tmp t, .tmp d1], #[T1, T1]⟩, T, pos, af, none⟩).run P w1 = .ok (.value (.slice s'.a s'.len s'.cap)) w' := by
   simp [execOp, resolve, invoke, builtin, e1, e2, hr]
  rw [this]
  refine ⟨fun _ _ => trivial, h g s' f' w' h1 h2 h3 ?_ (h5.imp id fun hh x hx => by have := hh x hx; omega)⟩
  exact ⟨h4.os.trans hn.ex.os, h4.tape.trans hn.ex.tape, h4.output.trans hn.ex.output, by have := h4.size; omega,
   fun k hk hne => (h4.block k (by omega) hne).trans (hn.ex.block k hk)⟩
end
end Go.W
namespace Go.W
section
variable {P : Program} {S : World → Prop} {ops : List Oper} {K : Env → World → Prop} {rest : List (Oper × Option Bool)} {ρ : Env} {w : World} {b : Option Bool} {kf : Bool} {d : Nat} {dst : Option Nat} {T T' : TypeId} {pos : String} {af : Array Edge}
end
end Go.W
namespace Go.Proofs.Ytiejljicpinheaa
open Go.W Go.LM Go.LA
set_option maxHeartbeats 1000000 in
theorem m0 {cn cn' : Bool} {K K' r c r' c' ca cb : Nat} {w : World} {a b : Option Addr} {s s' : Nat → SD} {F G : Nat → Nat → Int} (hA : MX cn K w a r c s F) (hB : MX cn' K' w b r' c' s' G)
  (hr : 1 ≤ r ∧ r ≤ 16) (hc : 1 ≤ c ∧ c ≤ 16) (hr' : 1 ≤ r' ∧ r' ≤ 16) (hc' : 1 ≤ c' ∧ c' ≤ 16) :
  CallsR Try.prog 41 #[.slice a r ca, .slice b r' cb] w fun v w' => ∃ t : Bool, v = .bool t ∧ (t = true ↔ r = r' ∧ c = c' ∧ ∀ i j, i < r → j < c → F i j = G i j) ∧ Ex w w' := by
 refine aG (args := [_, _]) Try.func41 rfl rfl ?_
 repeat' (first|refine ai rfl ?_|refine aa ?_|refine aj ?_|refine ah rfl ?_|refine ae ?_)
 refine aw (cW hA.top) rfl ?_
 rintro v w1 ⟨rfl, hE1⟩
 refine ⟨fun _ _ => trivial, ?_⟩
 rw [cK hA hr hc]
 repeat' (first|refine ai rfl ?_|refine aa ?_|refine aj ?_|refine ah rfl ?_|refine ae ?_)
 refine aw (cW (hB.ext hE1).top) rfl ?_
 rintro v w2 ⟨rfl, hE2⟩
 refine ⟨fun _ _ => trivial, ?_⟩
 rw [cK hB hr' hc']
 have hE := hE1.trans hE2
 by_cases hs : r = r' ∧ c = c'
 ·obtain ⟨rfl, rfl⟩ := hs
  repeat' (first|refine dq rfl rfl rfl ?_|refine ai rfl ?_|refine aa ?_|refine aj ?_|refine ah rfl ?_|refine ae ?_|refine aY rfl ?_|refine bG rfl rfl ?_|refine ay rfl ?_|refine aB ?_|refine aF ?_)
  refine aW (ι := Nat) [4, 11, 12, 13, 14, 45, 46, 47, 48, 49, 50, 51, 52, 53, 54, 55, 56, 57, 58, 59, 60, 61, 62, 63, 64, 65, 66, 67, 68] (fun i => [(45, .int .i64 (i : Int))])
   (fun i w' => i ≤ r ∧ Ex w w' ∧ ∀ k j, k < i → j < c → F k j = G k j) (fun i => r - i) 0 ⟨rfl, trivial⟩ ⟨by omega, hE, fun k j hk => by omega⟩ ?_
  rintro i ξ w3 ⟨hi, hE3, hI3⟩
  show CW _ _ _ _ (over [(45, .int .i64 (i : Int))] _) w3
  rcases Nat.lt_or_ge i r with hir | hir
  ·obtain ⟨p, d, hh, e1, e2, hp, hS, hEn⟩ := (hA.ext hE3).get hir (by omega)
   obtain ⟨p', d', hh', e1', e2', hp', hS', hEn'⟩ := (hB.ext hE3).get hir (by omega)
   have hpa := hA.plain (by omega)
   have hpb := hB.plain (by omega)
   repeat' (first|refine bv rfl rfl (by omega) ?_|refine aD (j := i) (a := a) rfl rfl hpa (by omega) ?_|refine aZ (j := i) (a := a) rfl (hA.ext hE3).top (by omega) e1 ?_|refine ai rfl ?_|refine aa ?_|refine aj ?_|refine ah rfl ?_|refine ae ?_|refine aY rfl ?_|refine aC rfl ?_|refine aB ?_|refine aF ?_)
   refine aW (ι := Nat) [4, 13, 14, 52, 53, 54, 55, 56, 57, 58, 59, 60, 61, 62, 63, 64, 65, 66, 67] (fun j => [(52, .int .i64 (j : Int))])
    (fun j w' => j ≤ c ∧ Ex w3 w' ∧ ∀ k, k < j → F i k = G i k) (fun j => c - j) 0 ⟨rfl, trivial⟩ ⟨by omega, Ex.refl _, fun k hk => by omega⟩ ?_
   rintro j ξ2 w4 ⟨hj, hE4, hI4⟩
   show CW _ _ _ _ (over [(52, .int .i64 (j : Int))] _) w4
   rcases Nat.lt_or_ge j c with hjc | hjc
   ·repeat' (first|refine bv rfl rfl (by omega) ?_|refine aa ?_|refine aj ?_|refine ah rfl ?_|refine ae ?_|refine aC rfl ?_|refine aF ?_)
    refine aB ?_
    repeat' (first|refine bj (j := j) rfl rfl hp (by omega) ?_|refine bD (j := j) rfl (hS.ext hE4) hp (by omega) ?_|refine ai rfl ?_|refine aj ?_|refine ah rfl ?_)
    refine aE (fun g5 w5 hn5 => ⟨fun _ _ => trivial, ?_⟩)
    have hb5 : Blk w5 g5 49 (intL false none 0 0) := hn5.blk
    repeat' (first|refine ai rfl ?_)
    refine au (n := 2) (vs := (hh j).cells) rfl rfl rfl rfl hb5 rfl (fun w6 hc6 hb6 => ⟨fun _ _ => trivial, ?_⟩)
    have s3 := hE4.size
    have l5 := hn5.lo
    have hE36 : Ex w3 w6 := (hE4.trans hn5.ex).chg hc6 (by omega)
    have hE36d := hE36.drew
    repeat' (first|refine aa ?_|refine aj ?_|refine ae ?_)
    refine bn (late := []) (plan := [(0, none), (1, none), (2, none), (3, none), (4, none), (5, none), (6, none), (7, none), (8, some true), (9, none)]) (fun w' => Ex w6 w') bC (by kernel_rfl) (Ex.refl w6).drew ?_
    repeat' (first|refine aR (g := g5) rfl (fun _ h => hb6.ext h) rfl ?_|refine aD (j := i) (a := b) rfl rfl hpb (by omega) ?_|refine aZ (j := i) (a := b) rfl (fun _ h => ((hB.ext hE3).ext (hE36.trans h)).top) (by omega) e1' ?_|refine bj (j := j) (a := p') rfl rfl hp' (by omega) ?_|refine bD (j := j) (a := p') rfl (fun _ h => hS'.ext (hE36.trans h)) hp' (by omega) ?_|refine ai rfl ?_)
    refine aw (iU ((hEn j hjc).ext hE36d).k ((hEn' j hjc).ext hE36d).k) rfl ?_
    rintro v w7 ⟨rfl, hE7⟩
    refine ⟨fun _ h => h.trans hE7, ?_⟩
    have hE37 := hE36d.trans hE7
    have hsg : (F i j - G i j).sign = 0 ↔ F i j = G i j := by rw [Int.sign_eq_zero_iff_zero]; omega
    repeat' (first|refine ai rfl ?_|refine aa ?_|refine aj ?_|refine ah rfl ?_|refine ae ?_|refine bi rfl rfl (by omega) (by omega) ?_|refine aM rfl (fun hc => ?_) (fun hc => ?_)|refine aJ ?_|refine aK ?_|refine aX ?_|refine b6 ?_|refine aF ?_)
    ·refine bB rfl (rt rfl) ⟨false, rfl, ⟨fun h => (nomatch h), fun h => ?_⟩, hE3.trans hE37⟩
     exact absurd (hsg.2 (h.2.2 i j hir hjc)) (by assumption)
    ·have heq : F i j = G i j := hsg.1 (by omega)
     refine ⟨⟨j + 1, ⟨by omega, hE37, fun k hk => ?_⟩, by omega, rfl, trivial⟩, (by (repeat (first|exact aH _ _ _|refine ax rfl ?_|refine av rfl ?_|refine ak rfl ?_|refine ao rfl ?_)))⟩
     by_cases hkj : k = j
     ·rw [hkj]; exact heq
     ·exact hI4 k (by omega)
   ·have ejc : c = j := by omega
    repeat' (first|refine bu rfl rfl (by omega) ?_|refine ai rfl ?_|refine aa ?_|refine aj ?_|refine ah rfl ?_|refine ae ?_|refine bi rfl rfl (by omega) (by omega) ?_|refine ay rfl ?_|refine aS ?_|refine aL ?_|refine aT ?_|refine aJ ?_)
    refine ⟨⟨i + 1, ⟨by omega, hE3.trans hE4, fun k l hk hl => ?_⟩, by omega, rfl, trivial⟩, (by (repeat (first|exact aH _ _ _|refine ax rfl ?_|refine av rfl ?_|refine ak rfl ?_|refine ao rfl ?_)))⟩
    by_cases hki : k = i
    ·rw [hki]; exact hI4 l (by omega)
    ·exact hI3 k l (by omega) hl
  ·have eir : i = r := by omega
   repeat' (first|refine bu rfl rfl (by omega) ?_|refine ai rfl ?_|refine aa ?_|refine aj ?_|refine ah rfl ?_|refine ae ?_|refine ay rfl ?_|refine aS ?_|refine aL ?_|refine aT ?_|refine aK ?_)
   refine bB rfl (rt rfl) ⟨true, rfl, ⟨fun _ => ⟨rfl, rfl, fun k l hk hl => hI3 k l (by omega) hl⟩, fun _ => rfl⟩, hE3⟩
 ·repeat' (first|refine ai rfl ?_|refine aa ?_|refine aj ?_|refine ah rfl ?_|refine ae ?_|refine aY rfl ?_|refine bG rfl rfl ?_|refine bP rfl rfl ?_|refine gF rfl rfl (fun hc => ?_) (fun hc => ?_)|refine aC rfl ?_|refine aM rfl (fun hc => ?_) (fun hc => ?_)|refine aB ?_|refine aK ?_|refine aX ?_|refine aF ?_)
  all_goals try (exfalso; omega)
  all_goals exact bB rfl (rt rfl) ⟨false, rfl, ⟨fun h => (nomatch h), fun h => absurd ⟨h.1, h.2.1⟩ hs⟩, hE⟩
end Go.Proofs.Ytiejljicpinheaa
namespace Go.Proofs.Ytiejljicpinheaa
open Go.W Go.LM Go.LA
theorem lU {n cap : Nat} {w : World} {a : Option Addr} {s : Nat → SD} (hS : Sl w a (topC n s)) (hno : ¬ okS n s) :
  CallsR Try.prog 9 #[.slice a n cap] w fun v w' => v = .tuple #[.slice none 0 0, .slice none 0 0, .bool false] ∧ Ex w w' := by
 refine aG (args := [_]) Try.func9 rfl rfl ?_
 repeat' (first|refine ai rfl ?_|refine aa ?_|refine aj ?_|refine ah rfl ?_|refine ae ?_)
 refine aw (dZ hS) rfl ?_
 rintro v w1 ⟨rfl, hE1⟩
 refine ⟨fun _ _ => trivial, ?_⟩
 rw [eD hno]
 repeat' (first|refine aO rfl rfl ?_|refine ai rfl ?_|refine aa ?_|refine aj ?_|refine ah rfl ?_|refine ae ?_|refine aC rfl ?_|refine aK ?_|refine aX ?_)
 exact eI rfl (rt rfl) (rt rfl) (rt rfl) ⟨rfl, hE1⟩
end Go.Proofs.Ytiejljicpinheaa
namespace Go.Proofs.Ytiejljicpinheaa
open Go.W Go.LM Go.LA
theorem AM.ext {K n : Nat} {w w' : World} {a : Option Addr} {s : Nat → SD} {F : Mat} (h : AM K w a n s F) (e : Ex w w') : AM K w' a n s F := ⟨h.top.ext e, fun i hi => (h.row i hi).ext e⟩
theorem kp {n cap : Nat} {w : World} {a : Option Addr} {s : Nat → SD} (hS : Sl w a (topC n s)) (hno : ¬ okS n s) :
  CallsR Try.prog 15 #[.slice a n cap] w fun v w' => v = .tuple #[.slice none 0 0, .bool false] ∧ Ex w w' := by
 refine aG (args := [_]) Try.func15 rfl rfl ?_
 repeat' (first|refine ai rfl ?_|refine aa ?_|refine aj ?_|refine ah rfl ?_|refine ae ?_)
 refine aw (lU hS hno) rfl ?_
 rintro v w1 ⟨rfl, hE1⟩
 refine ⟨fun _ _ => trivial, ?_⟩
 repeat' (first|refine aO rfl rfl ?_|refine ai rfl ?_|refine aa ?_|refine aj ?_|refine ah rfl ?_|refine ae ?_|refine aC rfl ?_|refine aK ?_|refine aX ?_)
 exact cR rfl (rt rfl) (rt rfl) ⟨rfl, hE1⟩
end Go.Proofs.Ytiejljicpinheaa
namespace Go.LA
theorem HF.inLk {rows cols k : Nat} {H : Mat} {p : Nat → Nat} (h : HF rows cols H k p) (v : Vec) : InL rows cols H v ↔ InL rows k H v := by
 constructor
 ·rintro ⟨x, hx⟩; exact ⟨x, fun r hr => by rw [hx r hr, h.mvk x hr]⟩
 ·rintro ⟨x, hx⟩
  refine ⟨fun j => if j < k then x j else 0, fun r hr => ?_⟩
  rw [h.mvk _ hr, hx r hr]
  exact cX (fun _ _ => rfl) fun j hj => by rw [if_pos hj]
theorem HF.latt {rows cols cols' k k' : Nat} {H H' : Mat} {p p' : Nat → Nat} (h : HF rows cols H k p) (h' : HF rows cols' H' k' p') :
  (∀ v, InL rows cols H v ↔ InL rows cols' H' v) ↔ k = k' ∧ ∀ i j, i < rows → j < k → H i j = H' i j := by
 constructor
 ·intro hL; obtain ⟨h1, _, h3⟩ := h.unique h' hL; exact ⟨h1, fun i j hi hj => h3 j hj i hi⟩
 ·rintro ⟨rfl, he⟩ v
  rw [h.inLk, h'.inLk]
  exact ⟨fun hv => hv.mat he, fun hv => hv.mat fun i j hi hj => (he i j hi hj).symm⟩
end Go.LA
namespace Go.Proofs.Ytiejljicpinheaa
open Go.W Go.LM Go.LA
set_option maxHeartbeats 2000000 in
theorem py {K n n' ca cb : Nat} {w : World} {a b : Option Addr} {s s' : Nat → SD} {A B : Mat} (hA : AM K w a n s A) (hB : AM K w b n' s' B) (hK1 : 1 ≤ K) (hK : 300 * K + 1000 < 4398046511104) :
  CallsR Try.prog 16 #[.slice a n ca, .slice b n' cb] w fun v w' => ∃ t : Bool, v = .bool t ∧ (t = true ↔ okS n s ∧ okS n' s' ∧ n = n' ∧ ∀ v, InL n (s 0).len A v ↔ InL n (s' 0).len B v) ∧ Ex w w' := by
 refine aG (args := [_, _]) Try.func16 rfl rfl ?_
 repeat' (first|refine ai rfl ?_|refine aa ?_|refine aj ?_|refine ah rfl ?_|refine ae ?_)
 by_cases oka : okS n s
 ·refine aw (fS (hA.mx oka) (gA oka) (eR oka) hK1 hK) rfl ?_
  rintro v w1 ⟨H, U, k, p, u, rfl, hC, hF, h0, hO, hE1⟩
  refine ⟨fun _ _ => trivial, ?_⟩
  repeat' (first|refine aO rfl rfl ?_|refine ai rfl ?_|refine aa ?_|refine aj ?_|refine ah rfl ?_|refine ae ?_)
  have hB1 := hB.ext hE1
  by_cases okb : okS n' s'
  ·refine aw (fS (hB1.mx okb) (gA okb) (eR okb) hK1 hK) rfl ?_
   rintro v w2 ⟨H', U', k', p', u', rfl, hC', hF', h0', hO', hE2⟩
   refine ⟨fun _ _ => trivial, ?_⟩
   have hE := hE1.trans hE2
   have hkc := hF.kc
   have hkc' := hF'.kc
   have hca := eR oka
   have hcb := eR okb
   by_cases hnn : n = n'
   ·subst hnn
    have hlat : (∀ v, InL n (s 0).len A v ↔ InL n (s' 0).len B v) ↔ k = k' ∧ ∀ i j, i < n → j < k → H i j = H' i j := by
     rw [← hF.latt hF']
     exact ⟨fun h v => by rw [hC.inL, hC'.inL]; exact h v, fun h v => by rw [← hC.inL, ← hC'.inL]; exact h v⟩
    have hr := gA oka
    rcases Nat.eq_zero_or_pos k with hk | hk
    ·obtain rfl := h0 hk
     rcases Nat.eq_zero_or_pos k' with hk' | hk'
     ·obtain rfl := h0' hk'
      repeat' (first|refine aO rfl rfl ?_|refine dq rfl rfl rfl ?_|refine dR rfl rfl ?_|refine ai rfl ?_|refine aa ?_|refine aj ?_|refine ah rfl ?_|refine ae ?_|refine aY rfl ?_|refine bG rfl rfl ?_|refine bP rfl rfl ?_|refine aC rfl ?_|refine ay rfl ?_|refine aK ?_|refine aX ?_|refine aF ?_)
      exact bB rfl (rt rfl) ⟨true, rfl, ⟨fun _ => ⟨oka, okb, rfl, hlat.2 ⟨by omega, fun i j _ hj => by omega⟩⟩, fun _ => rfl⟩, hE⟩
     ·obtain ⟨g', gs', cp', rfl, hM'⟩ := hO' hk'
      repeat' (first|refine aO rfl rfl ?_|refine dq rfl rfl rfl ?_|refine dR rfl rfl ?_|refine ai rfl ?_|refine aa ?_|refine aj ?_|refine ah rfl ?_|refine ae ?_|refine aY rfl ?_|refine bG rfl rfl ?_|refine bP rfl rfl ?_|refine aC rfl ?_|refine ay rfl ?_|refine aK ?_|refine aX ?_|refine aF ?_)
      exact bB rfl (rt rfl) ⟨false, rfl, ⟨fun h => (nomatch h), fun h => by have := (hlat.1 h.2.2.2).1; omega⟩, hE⟩
    ·obtain ⟨g, gs, cp, rfl, hM⟩ := hO hk
     rcases Nat.eq_zero_or_pos k' with hk' | hk'
     ·obtain rfl := h0' hk'
      repeat' (first|refine aO rfl rfl ?_|refine dq rfl rfl rfl ?_|refine dR rfl rfl ?_|refine ai rfl ?_|refine aa ?_|refine aj ?_|refine ah rfl ?_|refine ae ?_|refine aY rfl ?_|refine bG rfl rfl ?_|refine bP rfl rfl ?_|refine aC rfl ?_|refine ay rfl ?_|refine aK ?_|refine aX ?_|refine aF ?_)
      exact bB rfl (rt rfl) ⟨false, rfl, ⟨fun h => (nomatch h), fun h => by have := (hlat.1 h.2.2.2).1; omega⟩, hE⟩
     ·obtain ⟨g', gs', cp', rfl, hM'⟩ := hO' hk'
      repeat' (first|refine aO rfl rfl ?_|refine dq rfl rfl rfl ?_|refine dR rfl rfl ?_|refine ai rfl ?_|refine aa ?_|refine aj ?_|refine ah rfl ?_|refine ae ?_|refine aY rfl ?_|refine bG rfl rfl ?_|refine ay rfl ?_|refine aF ?_)
      refine aw (m0 (hM.ext hE2).mx hM'.mx hr ⟨by omega, by omega⟩ hr ⟨by omega, by omega⟩) rfl ?_
      rintro v w3 ⟨t, rfl, ht, hE3⟩
      refine ⟨fun _ _ => trivial, ?_⟩
      repeat' (first|refine ai rfl ?_|refine aa ?_|refine ae ?_|refine aK ?_)
      exact bB rfl (rt rfl) ⟨t, rfl, ht.trans ⟨fun h => ⟨oka, okb, rfl, hlat.2 h.2⟩, fun h => ⟨rfl, hlat.1 h.2.2.2⟩⟩, hE.trans hE3⟩
   ·repeat' (first|refine aO rfl rfl ?_|refine eQ rfl rfl (by omega) ?_|refine ai rfl ?_|refine aa ?_|refine aj ?_|refine ah rfl ?_|refine ae ?_|refine aY rfl ?_|refine bG rfl rfl ?_|refine aC rfl ?_|refine aK ?_|refine aX ?_)
    exact bB rfl (rt rfl) ⟨false, rfl, ⟨fun h => (nomatch h), fun h => absurd h.2.2.1 hnn⟩, hE⟩
  ·refine aw (kp hB1.top okb) rfl ?_
   rintro v w2 ⟨rfl, hE2⟩
   refine ⟨fun _ _ => trivial, ?_⟩
   repeat' (first|refine aO rfl rfl ?_|refine ai rfl ?_|refine aa ?_|refine aj ?_|refine ah rfl ?_|refine ae ?_|refine bG rfl rfl ?_|refine bP rfl rfl ?_|refine aC rfl ?_|refine aK ?_|refine aX ?_)
   exact bB rfl (rt rfl) ⟨false, rfl, ⟨fun h => (nomatch h), fun h => absurd h.2.1 okb⟩, hE1.trans hE2⟩
 ·refine aw (kp hA.top oka) rfl ?_
  rintro v w1 ⟨rfl, hE1⟩
  refine ⟨fun _ _ => trivial, ?_⟩
  repeat' (first|refine aO rfl rfl ?_|refine ai rfl ?_|refine aa ?_|refine aj ?_|refine ah rfl ?_|refine ae ?_)
  have hB1 := hB.ext hE1
  by_cases okb : okS n' s'
  ·refine aw (fS (hB1.mx okb) (gA okb) (eR okb) hK1 hK) rfl ?_
   rintro v w2 ⟨H', U', k', p', u', rfl, hC', hF', h0', hO', hE2⟩
   refine ⟨fun _ _ => trivial, ?_⟩
   repeat' (first|refine aO rfl rfl ?_|refine ai rfl ?_|refine aa ?_|refine aj ?_|refine ah rfl ?_|refine ae ?_|refine bP rfl rfl ?_|refine aC rfl ?_|refine aK ?_|refine aX ?_)
   exact bB rfl (rt rfl) ⟨false, rfl, ⟨fun h => (nomatch h), fun h => absurd h.1 oka⟩, hE1.trans hE2⟩
  ·refine aw (kp hB1.top okb) rfl ?_
   rintro v w2 ⟨rfl, hE2⟩
   refine ⟨fun _ _ => trivial, ?_⟩
   repeat' (first|refine aO rfl rfl ?_|refine ai rfl ?_|refine aa ?_|refine aj ?_|refine ah rfl ?_|refine ae ?_|refine bP rfl rfl ?_|refine aC rfl ?_|refine aK ?_|refine aX ?_)
   exact bB rfl (rt rfl) ⟨false, rfl, ⟨fun h => (nomatch h), fun h => absurd h.1 oka⟩, hE1.trans hE2⟩
end Go.Proofs.Ytiejljicpinheaa
