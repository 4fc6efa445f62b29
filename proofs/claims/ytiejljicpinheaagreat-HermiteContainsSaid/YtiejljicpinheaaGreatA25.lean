import Derived.Test.YtiejljicpinheaaGreatA24
namespace Go.W
section
variable {P : Program} {S : World → Prop} {ops : List Oper} {K : Env → World → Prop} {rest : List (Oper × Option Bool)} {ρ : Env} {w : World} {b : Option Bool} {kf kf1 kf2 : Bool} {d : Nat} {dst : Option Nat} {T T' : TypeId} {pos : String} {af : Array Edge}
theorem pc {T1 E y n d1 t lo : Nat} {x : Operand} {s : SD} {f : Nat → IH} {u : IH} {T2 : TypeId} {pos2 : String} {af2 : Array Edge} [hT : Slc P T1 E 2 y] [hz : Zro P E (.agg #[.bool false, .slice none 0 0])]
  (hs : ρ t = .slice s.a s.len s.cap) (hx : ev ρ x = u.val) (htd : Nat.beq t d1 = false)
  (hS : ∀ w1 w2, w1.grownBy w2 (Value.slice s.a s.len s.cap).ownBlock → S w1 → S w2)
  (hR : RowG w lo E n s f) (hm : n + 1 ≤ 9223372036854775807) (hb : (n + 1) * y ≤ 140737488355328) (hlo : lo ≤ w.heap.size)
  (h : ∀ g s' f' w', RowG w' lo E (n + 1) s' f' → (∀ i, i < n → f' i = f i) → f' n = u → w.grownBy w' (Value.slice s.a s.len s.cap).ownBlock → (s'.a = s.a ∨ ∀ x, s'.a = some x → w.heap.size ≤ x.block) →
   RR P S ops K rest (upd (upd ρ d1 (.slice (some ⟨g, 0, none⟩) 1 1)) d (.slice s'.a s'.len s'.cap)) w') :
  RR P S ops K ((⟨some d1, .buildSlice T1 1 #[(0, x)], T2, pos2, af2, none⟩, some kf1) :: (⟨some d, .call ⟨.builtin .append, #[.tmp t, .tmp d1], #[T1, T1]⟩, T, pos, af, none⟩, some kf2) :: rest) ρ w := by
 refine dI (E := E) (s := 2) (z := .agg #[.bool false, .slice none 0 0]) (cs := u.val.cells) rfl ?_ (fun g w1 hn => ⟨fun _ hh => hS _ _ ⟨(k5 hn.ex).os, (k5 hn.ex).tape, (k5 hn.ex).output, (k5 hn.ex).size, fun k hk _ => (k5 hn.ex).block k hk (by simp)⟩ hh, ?_⟩)
 ·simp only [List.map_toArray, List.map_cons, List.map_nil, hx]
  exact gF (s := 2) rfl (by simp)
 ·refine dw rfl ?_
  unfold OpW
  obtain ⟨i0, hi0, hzz⟩ := Option.map_eq_some_iff.1 hT.sz
  simp only [Prod.mk.injEq] at hzz
  obtain ⟨i1, hi1, hz1⟩ := Option.map_eq_some_iff.1 hz.ok
  rw [hi0] at hi1
  simp only [Option.some.injEq] at hi1
  subst hi1
  have hsz := hn.ex.size
  have hcs : u.val.cells.toList = u.cells := rfl
  obtain ⟨s', w', f', hr, h1, h2, h3, h4, h5⟩ := jC (P := P) (ty := T) hT.un hi0 hz1 hzz.1 hzz.2 (hR.ext hn.ex) (hcs ▸ hn.blk.sl) hm hb (by omega)
  have e1 : ev (upd ρ d1 (.slice (some ⟨g, 0, none⟩) 1 1)) (.tmp t) = .slice s.a s.len s.cap := by
   show upd ρ d1 _ t = _
   simp only [upd, htd, cond_false, hs]
  have e2 : ev (upd ρ d1 (.slice (some ⟨g, 0, none⟩) 1 1)) (.tmp d1) = .slice (some ⟨g, 0, none⟩) 1 1 := by
   show upd ρ d1 _ d1 = _
   rw [eT]
  have : (execOp (ev (upd ρ d1 (.slice (some ⟨g, 0, none⟩) 1 1))) ⟨some d, .call ⟨.builtin .append, #[.tmp t, .tmp d1], #[T1, T1]⟩, T, pos, af, none⟩).run P w1 = .ok (.value (.slice s'.a s'.len s'.cap)) w' := by
   simp [execOp, resolve, invoke, builtin, e1, e2, hr]
  rw [this]
  refine ⟨fun _ hh => hS _ _ h4 hh, h g s' f' w' h1 h2 h3 ?_ (h5.imp id fun hh x hx => by have := hh x hx; omega)⟩
  exact ⟨h4.os.trans hn.ex.os, h4.tape.trans hn.ex.tape, h4.output.trans hn.ex.output, by have := h4.size; omega,
   fun k hk hne => (h4.block k (by omega) hne).trans (hn.ex.block k hk)⟩
end
end Go.W
namespace Go.Proofs.YtiejljicpinheaaGreat
open Go.W Go.LM Go.LA
structure GR (cn : Bool) (K : Nat) (w : World) (lo g r n i j : Nat) (gs cap : Nat → Nat) (F : Nat → Nat → Int) (sd : SD) (h : Nat → IH) : Prop where
 low : lo ≤ g
 top : Blk w g 31 (topC r (setF (fun k => if k < i then ⟨some ⟨gs k, 0, none⟩, n, cap k⟩ else sd0) i sd))
 row : ∀ k, k < i → RO cn K w lo (gs k) (cap k) n (F k)
 off : ∀ k, k < i → gs k ≠ g
 inj : ∀ k l, k < i → l < i → gs k = gs l → k = l
 cur : RowG w lo 43 j sd h
 ent : ∀ l, l < j → Ent cn K w (h l).val (F i l)
 new : ∀ ad, sd.a = some ad → ad.block ≠ g ∧ ∀ k, k < i → gs k ≠ ad.block
section
variable {cn : Bool} {K r n lo g i j : Nat} {w w' w'' : World} {gs cap : Nat → Nat} {F F' : Nat → Nat → Int} {sd sd' : SD} {h h' : Nat → IH}
theorem GR.start (hP : MP cn K w lo g r n i gs cap F) : GR cn K w lo g r n i 0 gs cap F sd0 h :=
 ⟨hP.low, by
  rw [bY (s' := fun k => if k < i then (⟨some ⟨gs k, 0, none⟩, n, cap k⟩ : SD) else sd0) (fun k _ => ?_)]
  ·exact hP.top
  ·by_cases e : k = i
   ·subst e; rw [aS, if_neg (Nat.lt_irrefl k)]
   ·rw [aX _ _ e], hP.row, hP.off, hP.inj, RowG.nil _ _ _ _, fun l hl => by omega, fun ad e => by cases e⟩
theorem GR.ext (hG : GR cn K w lo g r n i j gs cap F sd h) (e : Ex w w') : GR cn K w' lo g r n i j gs cap F sd h :=
 ⟨hG.low, hG.top.ext e, fun k hk => (hG.row k hk).ext e, hG.off, hG.inj, RowG.ext hG.cur e, fun l hl => (hG.ent l hl).ext e, hG.new⟩
theorem RowG.bk {E : Nat} (hR : RowG w lo E j sd h) : ∀ q, (Value.slice sd.a sd.len sd.cap).ownBlock = some q → lo ≤ q ∧ (∃ ad, sd.a = some ad ∧ ad.block = q) ∧ Blk w q E (rowC sd.cap h) := by
 intro q e
 rcases hR.2 with ⟨h0, _⟩ | ⟨g', h1, h2, h3, h4, h5⟩
 ·rw [h0] at e; cases e
 ·rw [h1] at e; cases e; exact ⟨h2, ⟨_, h1, rfl⟩, h5⟩
theorem Ent.gbR {E : Nat} {v : Value} {z : Int} (hE : Ent cn K w v z) (hR : RowG w lo E j sd h) (hg : w.grownBy w' (Value.slice sd.a sd.len sd.cap).ownBlock) : Ent cn K w' v z := by
 rcases hR.2 with ⟨h0, _⟩ | ⟨g', h1, h2, h3, h4, h5⟩
 ·rw [h0] at hg
  exact hE.ext ⟨hg.os, hg.tape, hg.output, hg.size, fun k hk => hg.block k hk (by simp [Value.ownBlock])⟩
 ·rw [h1] at hg
  exact hE.gbN h5 (bE _ _) hg
theorem GR.topB (hG : GR cn K w lo g r n i j gs cap F sd h) (hg : w.grownBy w' (Value.slice sd.a sd.len sd.cap).ownBlock) : Blk w' g 31 (topC r (setF (fun k => if k < i then ⟨some ⟨gs k, 0, none⟩, n, cap k⟩ else sd0) i sd)) :=
 hG.top.gb hg (fun e => by
  obtain ⟨_, ⟨ad, e1, e2⟩, _⟩ := RowG.bk hG.cur _ e
  exact (hG.new ad e1).1 e2)
theorem GR.app {u : IH} (hG : GR cn K w lo g r n i j gs cap F sd h) (hR : RowG w' lo 43 (j + 1) sd' h') (h1 : ∀ l, l < j → h' l = h l) (h2 : h' j = u) (hg : w.grownBy w' (Value.slice sd.a sd.len sd.cap).ownBlock)
  (hA : sd'.a = sd.a ∨ ∀ x, sd'.a = some x → w.heap.size ≤ x.block) (hu : Ent cn K w u.val (F i j)) (hc : Chg g w' w'') (hT : Blk w'' g 31 (topC r (setF (setF (fun k => if k < i then ⟨some ⟨gs k, 0, none⟩, n, cap k⟩ else sd0) i sd) i sd'))) :
  GR cn K w'' lo g r n i (j + 1) gs cap F sd' h' := by
 have hB := hG.topB hg
 have hnw : ∀ ad, sd'.a = some ad → ad.block ≠ g ∧ ∀ k, k < i → gs k ≠ ad.block := fun ad e => by
  rcases hA with h | h
  ·exact hG.new ad (by rw [← h]; exact e)
  ·have h3 := h ad e
   refine ⟨fun e' => ?_, fun k hk e' => ?_⟩
   ·have := hG.top.lt; omega
   ·have := (hG.row k hk).lt; omega
 refine ⟨hG.low, ?_, fun k hk => ?_, hG.off, hG.inj, hR.gb (bw hc) (fun ad e e' => (hnw ad e).1 (by cases e'; rfl)), fun l hl => ?_, hnw⟩
 ·rw [bY (s' := setF (setF (fun k => if k < i then (⟨some ⟨gs k, 0, none⟩, n, cap k⟩ : SD) else sd0) i sd) i sd') (fun k _ => ?_)]
  ·exact hT
  ·by_cases e : k = i
   ·subst e; rw [aS, aS]
   ·rw [aX _ _ e, aX _ _ e, aX _ _ e]
 ·refine RO.gbN ?_ hB (bW _ _) (bw hc) (hG.off k hk)
  rcases hG.cur.2 with ⟨h0, _⟩ | ⟨g', e1, e2, e3, e4, e5⟩
  ·rw [h0] at hg
   exact (hG.row k hk).ext ⟨hg.os, hg.tape, hg.output, hg.size, fun k hk => hg.block k hk (by simp [Value.ownBlock])⟩
  ·rw [e1] at hg
   exact (hG.row k hk).gbN e5 (bE _ _) hg ((hG.new _ e1).2 k hk)
 ·refine Ent.gbN ?_ hB (bW _ _) (bw hc)
  by_cases e : l = j
  ·subst e; rw [h2]; exact hu.gbR hG.cur hg
  ·rw [h1 l (by omega)]; exact (hG.ent l (by omega)).gbR hG.cur hg
theorem GR.fin (hG : GR cn K w lo g r n i n gs cap F sd h) (hn : 0 < n) : ∃ gs' cap', MP cn K w lo g r n (i + 1) gs' cap' F := by
 obtain ⟨hl, h0 | ⟨g3, e1, e2, e3, e4, e5⟩⟩ := hG.cur
 ·omega
 ·obtain ⟨a, l, c⟩ := sd
  simp only at hl e1 e3 e4 e5
  subst e1; subst hl
  have hnw := hG.new _ rfl
  simp only at hnw
  refine ⟨setF gs i g3, setF cap i c, hG.low, ?_, fun k hk => ?_, fun k hk => ?_, fun k m hk hm he => ?_⟩
  ·rw [bY (s' := setF (fun k => if k < i then (⟨some ⟨gs k, 0, none⟩, l, cap k⟩ : SD) else sd0) i ⟨some ⟨g3, 0, none⟩, l, c⟩) (fun k _ => ?_)]
   ·exact hG.top
   ·by_cases e : k = i
    ·subst e; rw [aS, if_pos (Nat.lt_succ_self _), aS, aS]
    ·rw [aX _ _ e, aX _ _ e, aX _ _ e]
     by_cases h' : k < i
     ·rw [if_pos h', if_pos (by omega)]
     ·rw [if_neg h', if_neg (by omega)]
  ·by_cases e : k = i
   ·subst e; rw [aS, aS]; exact ⟨e2, e3, h, e5, hG.ent⟩
   ·rw [aX _ _ e, aX _ _ e]; exact hG.row k (by omega)
  ·by_cases e : k = i
   ·subst e; rw [aS]; exact fun e' => hnw.1 e'
   ·rw [aX _ _ e]; exact hG.off k (by omega)
  ·by_cases e1 : k = i
   ·by_cases e2 : m = i
    ·omega
    ·subst e1; rw [aS, aX _ _ e2] at he; exact absurd he.symm (hnw.2 m (by omega))
   ·by_cases e2 : m = i
    ·subst e2; rw [aS, aX _ _ e1] at he; exact absurd he (hnw.2 k (by omega))
    ·rw [aX _ _ e1, aX _ _ e2] at he; exact hG.inj k m (by omega) (by omega) he
end
end Go.Proofs.YtiejljicpinheaaGreat
namespace Go.W
theorem pO {c n : Nat} {h : Nat → IH} (hn : n ≤ c) : (rowC c h).drop (n * 2) = rowC (c - n) fun j => h (n + j) := by
 have e : rowC c h = rowC n h ++ rowC (c - n) (fun j => h (n + j)) := by
  rw [ez, show n + (c - n) = c by omega]
  refine f9 fun i hi => ?_
  by_cases h' : i < n
  ·rw [if_pos h']
  ·rw [if_neg h', show n + (i - n) = i by omega]
 rw [e, ← bT n h, List.drop_left]
theorem Sl.dropR {w : World} {g o c n : Nat} {h : Nat → IH} (hs : Sl w (some ⟨g, o, none⟩) (rowC c h)) (hn : n ≤ c) : Sl w (some ⟨g, o + n * 2, none⟩) (rowC (c - n) fun j => h (n + j)) := by
 rw [← pO hn]
 refine ⟨fun _ => ⟨_, _, rfl⟩, fun j hj => ?_⟩
 rw [List.length_drop] at hj
 have := hs.get (n * 2 + j) (by omega)
 simp only [elt] at this ⊢
 rw [Nat.add_assoc, this, List.getD_eq_getElem?_getD, List.getD_eq_getElem?_getD, List.getElem?_drop]
end Go.W
namespace Go.Proofs.YtiejljicpinheaaGreat
open Go.W Go.LM Go.LA
theorem lP {r n cap : Nat} {w : World} {a : Option Addr} : CallsR Tryz.prog 65 #[.slice a r cap, .int .i64 (n : Int), .int .i64 (n : Int)] w fun v w' => v = .slice none 0 0 ∧ Ex w w' := by
 refine aF (args := [_, _, _]) Tryz.func65 rfl rfl ?_
 repeat' (first|refine eF rfl rfl rfl ?_|refine ai rfl ?_|refine aa ?_|refine aj ?_|refine ah rfl ?_|refine ae ?_|refine az rfl ?_|refine aI ?_|refine aU ?_)
 exact bx rfl (rt rfl) ⟨rfl, Ex.refl _⟩
set_option maxHeartbeats 4000000 in
theorem lQ {cn : Bool} {K r c f e cap : Nat} {w : World} {a : Option Addr} {s : Nat → SD} {F : Mat} (hM : MX cn K w a r c s F) (hr : 1 ≤ r ∧ r ≤ 16) (hc : 1 ≤ c ∧ c ≤ 16) (hfe : f < e) (he : e ≤ c) :
  CallsR Tryz.prog 65 #[.slice a r cap, .int .i64 (f : Int), .int .i64 (e : Int)] w (RetMO K w r (e - f) fun i j => F i (f + j)) := by
 have hpt := hM.plain (by omega)
 refine aF (args := [_, _, _]) Tryz.func65 rfl rfl ?_
 repeat' (first|refine dU rfl rfl (by omega) ?_|refine d8 (n := r) rfl rfl (by omega) (by omega) (fun g w1 hn1 => ⟨fun _ _ => trivial, ?_⟩)|refine ai rfl ?_|refine aa ?_|refine aj ?_|refine ah rfl ?_|refine ae ?_|refine aZ rfl ?_|refine au rfl ?_|refine aA ?_|refine aE ?_)
 refine aY (ι := Nat × (Nat → Nat) × (Nat → Nat)) [8, 9, 11, 20, 21, 22, 23, 24, 25, 26, 27, 28, 29, 30, 31, 32, 33, 34, 35, 36, 37, 38, 39, 40, 41, 42, 43, 44, 45, 46] (fun t => [(20, .int .i64 (t.1 : Int))])
  (fun t w' => t.1 ≤ r ∧ Ex w w' ∧ MP true K w' w.heap.size g r (e - f) t.1 t.2.1 t.2.2 (fun i j => F i (f + j))) (fun t => r - t.1)
  (0, fun _ => 0, fun _ => 0) ⟨rfl, trivial⟩ ⟨by simp only; omega, hn1.ex, MP.start hn1.blk hn1.lo⟩ ?_
 rintro ⟨i, gs, cp⟩ ξ w2 ⟨hi, hE2, hP2⟩
 simp only at hi hP2
 show CW _ _ _ _ (over [(20, .int .i64 (i : Int))] _) w2
 rcases Nat.lt_or_ge i r with hir | hir
 ·obtain ⟨pa, d, hh, e1, e2, ⟨gp, op, rfl⟩, hS, hEn⟩ := (hM.ext hE2).get hir (by omega)
  repeat' (first|refine bu rfl rfl (by omega) ?_|refine aD (j := i) (a := a) rfl rfl hpt (by omega) ?_|refine aV (j := i) (a := a) (n := r) (s := s) rfl (hM.ext hE2).top (by omega) e1 ?_|refine je (l := f) (h := e) rfl rfl rfl (by omega) (by omega) (by omega) ?_|refine ai rfl ?_|refine aa ?_|refine aj ?_|refine ah rfl ?_|refine ae ?_|refine aZ rfl ?_|refine az rfl ?_|refine aA ?_|refine aE ?_)
  refine aY (ι := Nat × SD × (Nat → IH)) [11, 30, 31, 32, 33, 34, 35, 36, 37, 38, 39, 40, 41, 42, 43, 44, 45] (fun t => [(30, .int .i64 (t.1 : Int))])
   (fun t w' => t.1 ≤ e - f ∧ Ex w w' ∧ w2.heap.size ≤ w'.heap.size ∧ GR true K w' w.heap.size g r (e - f) i t.1 gs cp (fun i j => F i (f + j)) t.2.1 t.2.2) (fun t => e - f - t.1)
   (0, sd0, fun _ => ih0) ⟨rfl, trivial⟩ ⟨by simp only; omega, hE2, Nat.le_refl _, GR.start hP2⟩ ?_
  clear hP2 hS hEn
  rintro ⟨j, sd, h⟩ ξ2 w3 ⟨hj, hE3, hs3, hG3⟩
  simp only at hj hG3
  show CW _ _ _ _ (over [(30, .int .i64 (j : Int))] _) w3
  obtain ⟨pa', d', hh, e1', e2', hp', hS, hEn⟩ := (hM.ext hE3).get hir (by omega)
  rw [e1] at e1'
  obtain ⟨rfl, rfl⟩ : some ⟨gp, op, none⟩ = pa' ∧ d = d' := by cases e1'; exact ⟨rfl, rfl⟩
  have hSd := hS.dropR (n := f) (by omega)
  rcases Nat.lt_or_ge j (e - f) with hje | hje
  ·repeat' (first|refine bu rfl rfl (by omega) ?_|refine aT (j := j) rfl rfl ⟨_, _, rfl⟩ (by omega) ?_|refine bo (j := j) (a := some ⟨gp, op + f * 2, none⟩) rfl hSd ⟨_, _, rfl⟩ (by omega) ?_|refine aa ?_|refine aj ?_|refine ah rfl ?_|refine ae ?_|refine az rfl ?_|refine aA ?_|refine aE ?_)
   refine aG (fun g11 w4 hn4 => ⟨fun _ _ => trivial, ?_⟩)
   have hb4 : Blk w4 g11 43 (intL false none 0 0) := hn4.blk
   refine ax (n := 2) (vs := (hh (f + j)).cells) rfl rfl rfl rfl hb4 rfl (fun w5 hc5 hb5 => ⟨fun _ _ => trivial, ?_⟩)
   have hE35 : Ex w3 w5 := hn4.ex.chg hc5 hn4.lo
   have hG5 := hG3.ext hE35
   have lgt := hG3.top.lt
   have hsE := hE3.size
   have l4 := hn4.lo
   have hng : g ≠ g11 := by omega
   have own : ∀ q, (Value.slice sd.a sd.len sd.cap).ownBlock = some q → q ≠ g ∧ q ≠ g11 ∧ w.heap.size ≤ q := fun q e => by
    obtain ⟨h1, ⟨ad, h2, h3⟩, h4⟩ := RowG.bk hG3.cur q e
    have := h4.lt
    exact ⟨fun e' => (hG3.new ad h2).1 (by omega), by omega, h1⟩
   repeat' (first|refine aa ?_|refine ae ?_)
   refine bi (late := [11]) (plan := [(0, none), (1, none), (2, none), (3, none), (4, none), (5, none), (6, none), (7, some true), (8, some true), (9, some true), (10, none), (11, some false)]) (fun w' => w5.grownBy w' (Value.slice sd.a sd.len sd.cap).ownBlock) bA (by kernel_rfl) (l0 (lL (Ex.refl _))) ?_
   have hEd := (Ex.refl w5).drew
   repeat' (first|refine aD (j := i) (a := some ⟨g, 0, none⟩) rfl rfl ⟨_, _, rfl⟩ (by omega) ?_|refine aV (j := i) (a := some ⟨g, 0, none⟩) (n := r) (a1 := sd.a) (l1 := sd.len) (c1 := sd.cap) rfl (fun _ h => (hG5.topB h).sl) (by omega) (by rw [aS]) ?_|refine aR (g := g11) rfl (fun _ h => hb5.gb h (fun e => (own _ e).2.1 rfl)) rfl ?_|refine ai rfl ?_)
   refine aw (dr ((hEn (f + j) (by omega)).ext (hE35.trans hEd)).k) rfl ?_
   rintro v w6 ⟨hI6, hE6⟩
   refine ⟨fun _ h => bJ h (lL hE6) (fun k e => .inl e), ?_⟩
   obtain ⟨u, rfl⟩ := hI6.ih
   have hE56 := hEd.trans hE6
   have hG6 := hG5.ext hE56
   skip
   refine pc (E := 43) rfl rfl rfl (fun w1 w2 h1 h2 => bJ h2 h1 (fun k e => .inl e)) hG6.cur (by omega) (by omega) (by have := hE35.size; have := hE56.size; omega) ?_
   intro gt sd' h' w7 hR7 hf1 hf2 hG7 hA7
   repeat' (first|refine aD (j := i) (a := some ⟨g, 0, none⟩) rfl rfl ⟨_, _, rfl⟩ (by omega) ?_)
   refine ch (j := i) (u := sd') rfl rfl (hG6.topB hG7) (by omega) (fun w8 hc8 hT8 => ⟨fun h => (nomatch h), ?_⟩)
   have hE06 := (hE3.trans hE35).trans hE56
   repeat' (first|refine ai rfl ?_|refine aa ?_|refine ah rfl ?_|refine ae ?_|refine bc rfl rfl (by omega) (by omega) ?_|refine aL ?_)
   exact ⟨⟨(j + 1, sd', h'), ⟨hje, (hE06.gb hG7 (fun q e => (own q e).2.2)).chg hc8 hG3.low, by have := hE35.size; have := hE56.size; have := hG7.size; have := hc8.size; omega, hG6.app hR7 hf1 hf2 hG7 hA7 (Ent.of hI6 (hEn (f + j) (by omega)).lb) hc8 hT8⟩, by simp only; omega, rfl, trivial⟩, (by (repeat (first|exact aH _ _ _|refine ay rfl ?_|refine av rfl ?_|refine ak rfl ?_|refine ao rfl ?_)))⟩
  ·have eje : j = e - f := by omega
   subst eje
   repeat' (first|refine bj rfl rfl (by omega) ?_|refine ai rfl ?_|refine aa ?_|refine aj ?_|refine ah rfl ?_|refine ae ?_|refine bc rfl rfl (by omega) (by omega) ?_|refine au rfl ?_|refine aP ?_|refine aJ ?_|refine aQ ?_|refine aL ?_)
   obtain ⟨gs', cp', hP⟩ := hG3.fin (by omega)
   exact ⟨⟨(i + 1, gs', cp'), ⟨hir, hE3, hP⟩, by simp only; omega, rfl, trivial⟩, (by (repeat (first|exact aH _ _ _|refine ay rfl ?_|refine av rfl ?_|refine ak rfl ?_|refine ao rfl ?_)))⟩
 ·have eir : r = i := by omega
  subst eir
  repeat' (first|refine bj rfl rfl (by omega) ?_|refine ai rfl ?_|refine aa ?_|refine aj ?_|refine ah rfl ?_|refine ae ?_|refine au rfl ?_|refine aP ?_|refine aJ ?_|refine aQ ?_|refine aI ?_)
  exact bx rfl (rt rfl) ⟨g, gs, cp, rfl, hP2.fin, hE2⟩
end Go.Proofs.YtiejljicpinheaaGreat
namespace Go.Proofs.YtiejljicpinheaaGreat
open Go.W Go.LM Go.LA
def RetBasis (K r c : Nat) (A : Mat) (w : World) (v : Value) (w' : World) : Prop :=
 ∃ (H U : Mat) (k : Nat) (p : Nat → Nat) (u : SD), v = .tuple #[.slice u.a u.len u.cap, .bool true] ∧ CEq r c A H U ∧ HF r c H k p ∧ (k = 0 → u = sd0) ∧ (0 < k → ∃ g gs cp, u = ⟨some ⟨g, 0, none⟩, r, r⟩ ∧ MO true K w' w.heap.size g r k gs cp H) ∧ Ex w w'
set_option maxHeartbeats 1000000 in
theorem gg {cn : Bool} {K r c cap : Nat} {w : World} {a : Option Addr} {s : Nat → SD} {A : Mat} (hM : MX cn K w a r c s A) (hr : 1 ≤ r ∧ r ≤ 16) (hc : 1 ≤ c ∧ c ≤ 16) (hK1 : 1 ≤ K) (hK : 300 * K + 1000 < 4398046511104) :
  CallsR Tryz.prog 21 #[.slice a r cap] w (RetBasis (34 * K + 100) r c A w) := by
 refine aF (args := [_]) Tryz.func21 rfl rfl ?_
 repeat' (first|refine ai rfl ?_|refine aa ?_|refine aj ?_|refine ah rfl ?_|refine ae ?_)
 refine aw (dV hM hr hc hK1 hK) rfl ?_
 rintro v w1 ⟨g, g', gs, cp, gs', cp', H, U, k0, p0, rfl, hF, hE1⟩
 refine ⟨fun _ _ => trivial, ?_⟩
 repeat' (first|refine aK rfl rfl ?_|refine ai rfl ?_|refine aa ?_|refine aj ?_|refine ah rfl ?_|refine ae ?_|refine au rfl ?_|refine aE ?_)
 refine aw (eC hF.h.mx hr hc (by omega)) rfl ?_
 rintro v w2 ⟨t, sd, f, k, rfl, h1, h2, hE2⟩
 refine ⟨fun _ _ => trivial, ?_⟩
 cases t
 ·exact absurd ⟨_, _, hF.hf⟩ (h2 rfl)
 ·obtain ⟨hN, hH⟩ := h1 rfl
  have hlen := hN.1
  have hkc := hH.kc
  have hE := hE1.trans hE2
  repeat' (first|refine aK rfl rfl ?_|refine ai rfl ?_|refine aa ?_|refine aj ?_|refine ah rfl ?_|refine ae ?_|refine aZ rfl ?_)
  rw [hlen]
  by_cases hk : k = 0
  ·subst hk
   refine aw (lP (n := 0)) rfl ?_
   rintro v w3 ⟨rfl, hE3⟩
   refine ⟨fun _ _ => trivial, ?_⟩
   repeat' (first|refine ai rfl ?_|refine aa ?_|refine ae ?_|refine aI ?_)
   exact cA rfl (rt rfl) (rt rfl) ⟨H, U, 0, f, sd0, rfl, hF.ceq, hH, fun _ => rfl, fun h => by omega, hE.trans hE3⟩
  ·refine aw (lQ (f := 0) (e := k) (hF.h.ext hE2).mx hr hc (by omega) (by omega)) rfl ?_
   rintro v w3 ⟨g3, gs3, cp3, rfl, hO3, hE3⟩
   refine ⟨fun _ _ => trivial, ?_⟩
   repeat' (first|refine ai rfl ?_|refine aa ?_|refine ae ?_|refine aI ?_)
   exact cA rfl (rt rfl) (rt rfl) ⟨H, U, k, f, ⟨some ⟨g3, 0, none⟩, r, r⟩, rfl, hF.ceq, hH, fun h => by omega, fun _ => ⟨g3, gs3, cp3, rfl, (hO3.mono hE.size).congr fun i j _ _ => by rw [Nat.zero_add]⟩, hE.trans hE3⟩
end Go.Proofs.YtiejljicpinheaaGreat
namespace Go.Proofs.YtiejljicpinheaaGreat
open Go.W Go.LM Go.LA
def RetKer (K r c : Nat) (A : Mat) (w : World) (v : Value) (w' : World) : Prop :=
 ∃ (H U : Mat) (k : Nat) (p : Nat → Nat) (H' U' : Mat) (k' : Nat) (p' : Nat → Nat) (u : SD), v = .tuple #[.slice u.a u.len u.cap, .bool true] ∧ CEq r c A H U ∧ HF r c H k p ∧ (k = c → u = sd0) ∧
  (k < c → CEq c (c - k) (fun i j => U i (k + j)) H' U' ∧ HF c (c - k) H' k' p' ∧ (k' = 0 → u = sd0) ∧ (0 < k' → ∃ g gs cp, u = ⟨some ⟨g, 0, none⟩, c, c⟩ ∧ MO true K w' w.heap.size g c k' gs cp H')) ∧ Ex w w'
set_option maxHeartbeats 2000000 in
theorem nD {cn : Bool} {K r c cap : Nat} {w : World} {a : Option Addr} {s : Nat → SD} {A : Mat} (hM : MX cn K w a r c s A) (hr : 1 ≤ r ∧ r ≤ 16) (hc : 1 ≤ c ∧ c ≤ 16) (hK1 : 1 ≤ K) (hK : 20000 * K + 60000 < 4398046511104) :
  CallsR Tryz.prog 27 #[.slice a r cap] w (RetKer (1156 * K + 3500) r c A w) := by
 refine aF (args := [_]) Tryz.func27 rfl rfl ?_
 repeat' (first|refine ai rfl ?_|refine aa ?_|refine aj ?_|refine ah rfl ?_|refine ae ?_)
 refine aw (dV hM hr hc hK1 (by omega)) rfl ?_
 rintro v w1 ⟨g, g', gs, cp, gs', cp', H, U, k0, p0, rfl, hF, hE1⟩
 refine ⟨fun _ _ => trivial, ?_⟩
 repeat' (first|refine aK rfl rfl ?_|refine ai rfl ?_|refine aa ?_|refine aj ?_|refine ah rfl ?_|refine ae ?_|refine au rfl ?_|refine aE ?_)
 refine aw (eC hF.h.mx hr hc (by omega)) rfl ?_
 rintro v w2 ⟨t, sd, f, k, rfl, h1, h2, hE2⟩
 refine ⟨fun _ _ => trivial, ?_⟩
 cases t
 ·exact absurd ⟨_, _, hF.hf⟩ (h2 rfl)
 ·obtain ⟨hN, hH⟩ := h1 rfl
  have hlen := hN.1
  have hkc := hH.kc
  have hE := hE1.trans hE2
  repeat' (first|refine aK rfl rfl ?_|refine ai rfl ?_|refine aa ?_|refine aj ?_|refine ah rfl ?_|refine ae ?_|refine aZ rfl ?_)
  rw [hlen]
  by_cases hk : k = c
  ·subst hk
   refine aw (lP (n := k)) rfl ?_
   rintro v w3 ⟨rfl, hE3⟩
   refine ⟨fun _ _ => trivial, ?_⟩
   repeat' (first|refine d6 rfl rfl ?_|refine ai rfl ?_|refine aa ?_|refine aj ?_|refine ah rfl ?_|refine ae ?_|refine az rfl ?_|refine aI ?_|refine aU ?_)
   exact cA rfl (rt rfl) (rt rfl) ⟨H, U, k, f, H, U, 0, f, sd0, rfl, hF.ceq, hH, fun _ => rfl, fun h => by omega, hE.trans hE3⟩
  ·refine aw (lQ (f := k) (e := c) (hF.u.ext hE2).mx hc hc (by omega) (by omega)) rfl ?_
   rintro v w3 ⟨g3, gs3, cp3, rfl, hO3, hE3⟩
   refine ⟨fun _ _ => trivial, ?_⟩
   repeat' (first|refine d6 rfl rfl ?_|refine ai rfl ?_|refine aa ?_|refine aj ?_|refine ah rfl ?_|refine ae ?_|refine au rfl ?_|refine aE ?_)
   refine aw (gg (K := 34 * K + 100) hO3.mx hc ⟨by omega, by omega⟩ (by omega) (by omega)) rfl ?_
   rintro v w4 ⟨H', U', k', p', u, rfl, hC', hF', h0, hO, hE4⟩
   refine ⟨fun _ _ => trivial, ?_⟩
   have hE03 := hE.trans hE3
   repeat' (first|refine aK rfl rfl ?_|refine ai rfl ?_|refine aa ?_|refine ae ?_|refine aI ?_)
   refine cA rfl (rt rfl) (rt rfl) ⟨H, U, k, f, H', U', k', p', u, rfl, hF.ceq, hH, fun h => absurd h hk, fun _ => ⟨hC', hF', h0, fun h => ?_⟩, hE03.trans hE4⟩
   obtain ⟨g5, gs5, cp5, e, hM5⟩ := hO h
   exact ⟨g5, gs5, cp5, e, (hM5.mono hE03.size).up (by omega)⟩
end Go.Proofs.YtiejljicpinheaaGreat
namespace Go.LA
theorem rA (i j : Nat) : idM i j = idM j i := by
 unfold idM
 by_cases h : i = j
 ·rw [if_pos h, if_pos h.symm]
 ·rw [if_neg h, if_neg (fun e => h e.symm)]
theorem Uni.tr {n : Nat} {U : Mat} (h : Uni n U) : Uni n (fun i j => U j i) :=
 tv (V := fun i j => uinv n U j i) fun i j hi hj => by
  have e : mm n (fun i j => U j i) (fun i j => uinv n U j i) i j = mm n (uinv n U) U j i := bf fun k _ => Int.mul_comm _ _
  rw [e, h.inv_mul hj hi, rA]
end Go.LA
namespace Go.Proofs.YtiejljicpinheaaGreat
open Go.W Go.LM Go.LA
theorem sign_zero {x y : Int} : (x - y).sign = 0 ↔ x = y := by
 rw [Int.sign_eq_zero_iff_zero]; omega
def RetExt (K r c : Nat) (A : Mat) (w : World) (v : Value) (w' : World) : Prop :=
 ∃ (H U : Mat) (k : Nat) (p : Nat → Nat), CEq c r (fun i j => A j i) H U ∧ HF c r H k p ∧
  (((∀ i, i < c → H i i = 1) ∧ ∃ u R, v = .tuple #[u, .bool true] ∧ RetMO K w r r R u w' ∧ ∀ i j, i < r → j < r → mm r (fun i j => U j i) R i j = idM i j) ∨
    ((¬ ∀ i, i < c → H i i = 1) ∧ v = .tuple #[.slice none 0 0, .bool false])) ∧ Ex w w'
set_option maxHeartbeats 2000000 in
theorem nE {cn : Bool} {K r c cap : Nat} {w : World} {a : Option Addr} {s : Nat → SD} {A : Mat} (hM : MX cn K w a r c s A) (hr : 1 ≤ r ∧ r ≤ 16) (hc : 1 ≤ c ∧ c ≤ 16) (hrc : c ≤ r) (hK1 : 1 ≤ K) (hK : 1000 * K + 6000 < 4398046511104) :
  CallsR Tryz.prog 63 #[.slice a r cap] w (RetExt (544 * K + 1664) r c A w) := by
 have hpt := hM.plain (by omega)
 refine aF (args := [_]) Tryz.func63 rfl rfl ?_
 repeat' (first|refine ai rfl ?_|refine aa ?_|refine aj ?_|refine ah rfl ?_|refine ae ?_)
 refine aw (fe hM hr hc) rfl ?_
 rintro v w1 ⟨_, rfl, g, gs, cp, rfl, hO1, hE1⟩
 refine ⟨fun _ _ => trivial, ?_⟩
 obtain ⟨p0, d0, hh0, e0, _, _, _, _⟩ := hM.get (i := 0) (by omega) (by omega)
 repeat' (first|refine aK rfl rfl ?_|refine aD (j := 0) (a := a) rfl rfl hpt (by omega) ?_|refine aV (j := 0) (a := a) (n := r) (s := s) rfl (hM.ext hE1).top (by omega) e0 ?_|refine bj rfl rfl (by omega) ?_|refine ai rfl ?_|refine aa ?_|refine aj ?_|refine ah rfl ?_|refine ae ?_|refine aZ rfl ?_|refine bz rfl rfl ?_|refine au rfl ?_|refine aE ?_)
 refine aw (dV hO1.mx hc hr hK1 (by omega)) rfl ?_
 rintro v w2 ⟨gh, gu, gsh, cph, gsu, cpu, H, U, k, p, rfl, hF, hE2⟩
 refine ⟨fun _ _ => trivial, ?_⟩
 repeat' (first|refine aK rfl rfl ?_|refine ai rfl ?_|refine aa ?_|refine aj ?_|refine ah rfl ?_|refine ae ?_)
 refine aw (cE (z := 1) (by omega) (by omega) _) rfl ?_
 rintro v w3 ⟨hI3, hE3⟩
 refine ⟨fun _ _ => trivial, ?_⟩
 obtain ⟨o1, rfl⟩ := hI3.ih
 refine aG (fun g9 w4 hn4 => ⟨fun _ _ => trivial, ?_⟩)
 have hb4 : Blk w4 g9 43 (intL false none 0 0) := hn4.blk
 refine ax (n := 2) (vs := o1.cells) rfl rfl rfl rfl hb4 rfl (fun w5 hc5 hb5 => ⟨fun _ _ => trivial, ?_⟩)
 have hE25 : Ex w2 w5 := (hE3.trans hn4.ex).chg hc5 (by have := hn4.lo; have := hE3.size; omega)
 have e5 : Ent true 1 w5 o1.val 1 := (Ent.of (hI3.ext hn4.ex) (b6 (by decide) (by omega))).gbN hb4 (aB _ _ _ _) (bw hc5)
 have hF5 := hF.ext hE25
 have hE05 := (hE1.trans hE2).trans hE25
 repeat' (first|refine ai rfl ?_|refine aa ?_|refine aj ?_|refine ah rfl ?_|refine ae ?_|refine aZ rfl ?_|refine aA ?_)
 refine aY (ι := Nat) [2, 3, 10, 11, 37, 38, 39, 40, 41, 42, 43, 44, 45, 46, 47, 48, 49] (fun i => [(37, .int .i64 (i : Int))])
  (fun i w' => i ≤ c ∧ Ex w5 w' ∧ ∀ j, j < i → H j j = 1) (fun i => c - i)
  0 ⟨rfl, trivial⟩ ⟨by omega, Ex.refl _, fun j h => by omega⟩ ?_
 rintro i ξ w6 ⟨hi, hE6, h1⟩
 show CW _ _ _ _ (over [(37, .int .i64 (i : Int))] _) w6
 have hE06 := hE05.trans hE6
 have hF6 := hF5.ext hE6
 rcases Nat.lt_or_ge i c with hic | hic
 ·obtain ⟨hh, hbr, hcr, hEr⟩ := hF6.h.get hic
  repeat' (first|refine bu rfl rfl (by omega) ?_|refine aa ?_|refine aj ?_|refine ah rfl ?_|refine ae ?_|refine az rfl ?_|refine aE ?_)
  refine aA ?_
  repeat' (first|refine aD (j := i) (a := some ⟨gh, 0, none⟩) rfl rfl ⟨_, _, rfl⟩ (by omega) ?_|refine aV (j := i) (a := some ⟨gh, 0, none⟩) (n := c) (s := fun k => ⟨some ⟨gsh k, 0, none⟩, r, cph k⟩) rfl hF6.h.top.sl (by omega) rfl ?_|refine ai rfl ?_|refine aa ?_|refine aj ?_|refine ah rfl ?_|refine ae ?_)
  refine bi (late := [5]) (plan := [(0, none), (1, none), (2, none), (3, none), (4, none), (5, some false), (6, none)]) (fun w' => Ex w6 w') bA (by kernel_rfl) (Ex.refl w6).drew ?_
  have hEd := (Ex.refl w6).drew
  repeat' (first|refine aT (j := i) (a := some ⟨gsh i, 0, none⟩) rfl rfl ⟨_, _, rfl⟩ (by omega) ?_|refine bo (j := i) (n := cph i) (a := some ⟨gsh i, 0, none⟩) rfl (fun _ h => (hbr.ext h).sl) ⟨_, _, rfl⟩ (by omega) ?_|refine aR (g := g9) rfl (fun _ h => (hb5.ext hE6).ext h) rfl ?_|refine ai rfl ?_)
  refine aw (jk ((hEr i (by omega)).ext hEd).k ((e5.ext hE6).ext hEd).k) rfl ?_
  rintro v w7 ⟨rfl, hE7⟩
  refine ⟨fun _ h => h.trans hE7, ?_⟩
  have hE67 := hEd.trans hE7
  by_cases h : H i i = 1
  ·repeat' (first|refine cN rfl rfl (sign_zero.2 h) ?_|refine ai rfl ?_|refine aa ?_|refine ah rfl ?_|refine ae ?_|refine bc rfl rfl (by omega) (by omega) ?_|refine au rfl ?_|refine aL ?_|refine aE ?_)
   refine ⟨⟨i + 1, ⟨hic, hE6.trans hE67, fun j hj => ?_⟩, by omega, rfl, trivial⟩, (by (repeat (first|exact aH _ _ _|refine ay rfl ?_|refine av rfl ?_|refine ak rfl ?_|refine ao rfl ?_)))⟩
   by_cases e : j = i
   ·subst e; exact h
   ·exact h1 j (by omega)
  ·repeat' (first|refine df rfl rfl (fun e => h (sign_zero.1 e)) ?_|refine ai rfl ?_|refine aa ?_|refine aj ?_|refine ah rfl ?_|refine ae ?_|refine az rfl ?_|refine aI ?_|refine aU ?_|refine bQ ?_)
   exact cA rfl (rt rfl) (rt rfl) ⟨H, U, k, p, hF.ceq, hF.hf, .inr ⟨fun e => h (e i hic), rfl⟩, hE06.trans hE67⟩
 ·have eic : c = i := by omega
  subst eic
  repeat' (first|refine bj rfl rfl (by omega) ?_|refine ai rfl ?_|refine aa ?_|refine aj ?_|refine ah rfl ?_|refine ae ?_|refine au rfl ?_|refine aP ?_|refine aJ ?_|refine aQ ?_)
  refine aw (fe hF6.u.mx hr hr) rfl ?_
  rintro v w7 ⟨_, rfl, gt, gst, cpt, rfl, hO7, hE7⟩
  refine ⟨fun _ _ => trivial, ?_⟩
  repeat' (first|refine aK rfl rfl ?_|refine ai rfl ?_|refine aa ?_|refine aj ?_|refine ah rfl ?_|refine ae ?_)
  refine aw (mB hO7.mx hr (by omega) hF.ceq.1.tr) rfl ?_
  rintro v w8 ⟨_, R, rfl, ⟨gr, gsr, cpr, rfl, hO8, hE8⟩, hR⟩
  refine ⟨fun _ _ => trivial, ?_⟩
  have hE07 := hE06.trans hE7
  repeat' (first|refine aK rfl rfl ?_|refine ai rfl ?_|refine aa ?_|refine ae ?_|refine aI ?_)
  exact cA rfl (rt rfl) (rt rfl) ⟨H, U, k, p, hF.ceq, hF.hf, .inl ⟨h1, _, R, rfl, ⟨gr, gsr, cpr, rfl, (hO8.mono hE07.size).up (by omega), hE07.trans hE8⟩, hR⟩, hE07.trans hE8⟩
end Go.Proofs.YtiejljicpinheaaGreat
namespace Go.Proofs.YtiejljicpinheaaGreat
open Go.W Go.LM Go.LA
set_option maxHeartbeats 1000000 in
theorem cc {n c : Nat} {a : Option Addr} {s : Nat → SD} {w : World} (h : Sl w a (topC n s)) :
  CallsR Tryz.prog 53 #[.slice a n c] w fun v w' => v = shapeV n s ∧ Ex w w' := by
 refine aF (args := [_]) Tryz.func53 rfl rfl ?_
 have no : ∀ {v : Value}, ¬ okS n s → v = .tuple #[.int .i64 0, .int .i64 0, .bool false] → v = shapeV n s := fun h1 e => by rw [dH h1, e]
 by_cases h1 : 1 ≤ n ∧ n ≤ 16
 ·have hp := h.plain (by rw [bP]; omega)
  repeat' (first|refine bj rfl rfl (by omega) ?_|refine gI rfl rfl (by omega) ?_|refine ai rfl ?_|refine aa ?_|refine aj ?_|refine ah rfl ?_|refine ae ?_|refine aZ rfl ?_|refine bz rfl rfl ?_|refine au rfl ?_|refine aA ?_|refine aE ?_)
  refine aY (ι := Nat) [2, 3, 4, 6, 17, 18, 19, 20, 21, 22, 23, 24, 25, 26, 27, 28, 29, 30, 31, 32, 33, 34, 35, 36, 37, 38] (fun i => [(17, .int .i64 (i : Int))]) (fun i w' => (i ≤ n ∧ ∀ k, k < i → 1 ≤ (s k).len ∧ (s k).len ≤ 16 ∧ (s k).len = (s 0).len) ∧ w' = w) (fun i => n - i) 0 ⟨rfl, trivial⟩ ⟨⟨by omega, fun k h => by omega⟩, rfl⟩ ?_
  rintro i ξ w2 ⟨⟨hi, hI⟩, rfl⟩
  show CW _ _ _ _ (over [(17, .int .i64 (i : Int))] _) w2
  rcases Nat.lt_or_ge i n with hin | hin
  ·by_cases ok : 1 ≤ (s i).len ∧ (s i).len ≤ 16 ∧ (s i).len = (s 0).len
   ·repeat' (first|refine bu rfl rfl (by omega) ?_|refine bj rfl rfl (by omega) ?_|refine gI rfl rfl (by omega) ?_|refine cN rfl rfl (by omega) ?_|refine aD (j := i) rfl rfl hp (by omega) ?_|refine cG (j := i) rfl h (by omega) ?_|refine aD (j := 0) rfl rfl hp (by omega) ?_|refine cG (j := 0) rfl h (by omega) ?_|refine ai rfl ?_|refine aa ?_|refine aj ?_|refine ah rfl ?_|refine ae ?_|refine aZ rfl ?_|refine bz rfl rfl ?_|refine bc rfl rfl (by omega) (by omega) ?_|refine az rfl ?_|refine au rfl ?_|refine aA ?_|refine aL ?_|refine aE ?_)
    refine ⟨⟨i + 1, ⟨⟨by omega, fun k hk => ?_⟩, rfl⟩, by omega, rfl, trivial⟩, (by (repeat (first|exact aH _ _ _|refine ay rfl ?_|refine av rfl ?_|refine ak rfl ?_|refine ao rfl ?_)))⟩
    by_cases hk' : k = i
    ·subst hk'; exact ok
    ·exact hI k (by omega)
   ·have hbad : ¬ okS n s := fun hk => ok ⟨by have := hk.2.2.2.2 i hin; have := hk.2.2.1; omega, by have := hk.2.2.2.2 i hin; have := hk.2.2.2.1; omega, hk.2.2.2.2 i hin⟩
    by_cases o1 : (s i).len < 1
    ·repeat' (first|refine bu rfl rfl (by omega) ?_|refine aD (j := i) rfl rfl hp (by omega) ?_|refine cG (j := i) rfl h (by omega) ?_|refine ai rfl ?_|refine aa ?_|refine aj ?_|refine ah rfl ?_|refine ae ?_|refine aZ rfl ?_|refine bK rfl rfl ?_|refine az rfl ?_|refine aA ?_|refine aI ?_|refine aU ?_|refine bQ ?_|refine aE ?_)
     exact eo rfl (rt rfl) (rt rfl) (rt rfl) ⟨no hbad rfl, Ex.refl _⟩
    ·by_cases o2 : 16 < (s i).len
     ·repeat' (first|refine bu rfl rfl (by omega) ?_|refine bj rfl rfl (by omega) ?_|refine kh rfl rfl (by omega) ?_|refine aD (j := i) rfl rfl hp (by omega) ?_|refine cG (j := i) rfl h (by omega) ?_|refine ai rfl ?_|refine aa ?_|refine aj ?_|refine ah rfl ?_|refine ae ?_|refine aZ rfl ?_|refine bz rfl rfl ?_|refine bK rfl rfl ?_|refine az rfl ?_|refine aA ?_|refine aI ?_|refine aU ?_|refine bQ ?_|refine aE ?_)
      exact eo rfl (rt rfl) (rt rfl) (rt rfl) ⟨no hbad rfl, Ex.refl _⟩
     ·repeat' (first|refine bu rfl rfl (by omega) ?_|refine bj rfl rfl (by omega) ?_|refine gI rfl rfl (by omega) ?_|refine df rfl rfl (by omega) ?_|refine aD (j := i) rfl rfl hp (by omega) ?_|refine cG (j := i) rfl h (by omega) ?_|refine aD (j := 0) rfl rfl hp (by omega) ?_|refine cG (j := 0) rfl h (by omega) ?_|refine ai rfl ?_|refine aa ?_|refine aj ?_|refine ah rfl ?_|refine ae ?_|refine aZ rfl ?_|refine bz rfl rfl ?_|refine az rfl ?_|refine aA ?_|refine aI ?_|refine aU ?_|refine bQ ?_|refine aE ?_)
      exact eo rfl (rt rfl) (rt rfl) (rt rfl) ⟨no hbad rfl, Ex.refl _⟩
  ·have ein : n = i := by omega
   subst ein
   have h0 := hI 0 (by omega)
   repeat' (first|refine bj rfl rfl (by omega) ?_|refine aa ?_|refine aj ?_|refine ah rfl ?_|refine ae ?_|refine au rfl ?_|refine aP ?_|refine aJ ?_|refine aQ ?_)
   refine bi (late := []) (plan := [(0, none), (1, none), (2, none), (3, none), (4, none), (5, none), (6, none), (7, none), (8, none)]) (fun w' => Ex w2 w') bA (by kernel_rfl) (Ex.refl w2).drew ?_
   repeat' (first|refine aD (j := 0) rfl rfl hp (by omega) ?_|refine cG (j := 0) rfl (fun _ h' => h.ext h') (by omega) ?_|refine ai rfl ?_|refine aa ?_|refine ae ?_|refine aZ rfl ?_|refine aI ?_)
   refine eo rfl (rt rfl) (rt rfl) (rt rfl) ⟨?_, (Ex.refl _).drew⟩
   unfold shapeV
   rw [if_pos ⟨h1.1, h1.2, h0.1, h0.2.1, fun k hk => (hI k hk).2.2⟩]; rfl
 ·repeat' (first|refine ai rfl ?_|refine aa ?_|refine aj ?_|refine ah rfl ?_|refine ae ?_|refine aZ rfl ?_|refine bz rfl rfl ?_|refine bK rfl rfl ?_|refine gW rfl rfl (fun hc => ?_) (fun hc => ?_)|refine az rfl ?_|refine aO rfl (fun hc => ?_) (fun hc => ?_)|refine aA ?_|refine aI ?_|refine aU ?_|refine aE ?_)
  all_goals try (exfalso; omega)
  all_goals exact eo rfl (rt rfl) (rt rfl) (rt rfl) ⟨no (fun hk => h1 ⟨hk.1, hk.2.1⟩) rfl, Ex.refl _⟩
set_option maxHeartbeats 2000000 in
theorem eP {r c : Nat} {w : World} (hr : r ≤ 1000) (hc : c ≤ 1000) :
  CallsR Tryz.prog 24 #[.int .i64 (r : Int), .int .i64 (c : Int)] w (RetMO 0 w r c fun _ _ => 0) := by
 refine aF (args := [_, _]) Tryz.func24 rfl rfl ?_
 repeat' (first|refine d8 (n := r) rfl rfl (by omega) (by omega) (fun g w1 hn1 => ⟨fun _ _ => trivial, ?_⟩)|refine ai rfl ?_|refine aa ?_|refine aj ?_|refine ah rfl ?_|refine ae ?_|refine aZ rfl ?_|refine aA ?_)
 refine aY (ι := Nat × (Nat → Nat) × (Nat → Nat)) [6, 11, 12, 13, 14, 15, 16, 17, 18, 19] (fun t => [(11, .int .i64 (t.1 : Int))])
  (fun t w' => t.1 ≤ r ∧ Ex w w' ∧ MP true 0 w' w.heap.size g r c t.1 t.2.1 t.2.2 (fun _ _ => 0)) (fun t => r - t.1)
  (0, fun _ => 0, fun _ => 0) ⟨rfl, trivial⟩ ⟨by simp only; omega, hn1.ex, MP.start hn1.blk hn1.lo⟩ ?_
 rintro ⟨i, gs, cp⟩ ξ w2 ⟨hi, hE2, hP2⟩
 simp only at hi hP2
 show CW _ _ _ _ (over [(11, .int .i64 (i : Int))] _) w2
 rcases Nat.lt_or_ge i r with hir | hir
 ·repeat' (first|refine bu rfl rfl (by omega) ?_|refine eN (n := c) rfl rfl (by omega) (by omega) (fun g3 w3 hn3 => ⟨fun _ _ => trivial, ?_⟩)|refine aD (j := i) (a := some ⟨g, 0, none⟩) rfl rfl ⟨_, _, rfl⟩ (by omega) ?_|refine ai rfl ?_|refine aa ?_|refine aj ?_|refine ah rfl ?_|refine ae ?_|refine az rfl ?_|refine aA ?_|refine aE ?_)
  refine ch (j := i) (u := ⟨some ⟨g3, 0, none⟩, c, c⟩) rfl rfl (hP2.top.ext hn3.ex) (by omega) (fun w4 hc4 hT4 => ⟨fun _ _ => trivial, ?_⟩)
  have s2 := hE2.size
  have lo3 := hn3.lo
  have low := hP2.low
  obtain ⟨hb4, hne3, hT4', hnext⟩ := hP2.snoc hn3 hc4 hT4 (by omega)
  have hE4 := (hE2.trans hn3.ex).chg hc4 low
  repeat' (first|refine ai rfl ?_|refine aa ?_|refine ah rfl ?_|refine ae ?_|refine bc rfl rfl (by omega) (by omega) ?_|refine aL ?_)
  exact ⟨⟨(i + 1, setF gs i g3, setF cp i c), ⟨hir, hE4, (hnext w4 (lL (Ex.refl _))).2 ⟨by omega, Nat.le_refl _, fun _ => ih0, hb4, fun j _ => iv _⟩⟩, by simp only; omega, rfl, trivial⟩, (by (repeat (first|exact aH _ _ _|refine ay rfl ?_|refine av rfl ?_|refine ak rfl ?_|refine ao rfl ?_)))⟩
 ·have eir : r = i := by omega
  subst eir
  repeat' (first|refine bj rfl rfl (by omega) ?_|refine ai rfl ?_|refine aa ?_|refine aj ?_|refine ah rfl ?_|refine ae ?_|refine au rfl ?_|refine aP ?_|refine aJ ?_|refine aQ ?_|refine aI ?_)
  exact bx rfl (rt rfl) ⟨g, gs, cp, rfl, hP2.fin, hE2⟩
set_option maxHeartbeats 2000000 in
theorem iZ {n : Nat} {w : World} (hn : 1 ≤ n ∧ n ≤ 16) :
  CallsR Tryz.prog 54 #[.int .i64 (n : Int)] w fun v w' => ∃ u, v = .tuple #[u, .bool true] ∧ RetMO 1 w n n idM u w' := by
 refine aF (args := [_]) Tryz.func54 rfl rfl ?_
 repeat' (first|refine bj rfl rfl (by omega) ?_|refine gI rfl rfl (by omega) ?_|refine ai rfl ?_|refine aa ?_|refine aj ?_|refine ah rfl ?_|refine ae ?_|refine bz rfl rfl ?_|refine au rfl ?_|refine aE ?_)
 refine aw (eP (r := n) (c := n) (by omega) (by omega)) rfl ?_
 rintro v w1 ⟨g, gs, cp, rfl, hO1, hE1⟩
 refine ⟨fun _ _ => trivial, ?_⟩
 repeat' (first|refine ai rfl ?_|refine aa ?_|refine aj ?_|refine ah rfl ?_|refine ae ?_|refine aZ rfl ?_|refine aA ?_)
 refine aY (ι := Nat) [5, 17, 18, 19, 20, 21, 22, 23, 24, 25, 26, 27] (fun i => [(17, .int .i64 (i : Int))])
  (fun i w' => i ≤ n ∧ Ex w w' ∧ MO true 1 w' w.heap.size g n n gs cp (fun a b => if a < i then idM a b else 0)) (fun i => n - i)
  0 ⟨rfl, trivial⟩ ⟨by omega, hE1, (hO1.up (by omega)).congr fun a b _ _ => if_neg (by omega)⟩ ?_
 clear hO1 hE1
 rintro i ξ w2 ⟨hi, hE2, hO2⟩
 show CW _ _ _ _ (over [(17, .int .i64 (i : Int))] _) w2
 rcases Nat.lt_or_ge i n with hin | hin
 ·obtain ⟨hh, hbr, hcr, hEr⟩ := hO2.get hin
  repeat' (first|refine bu rfl rfl (by omega) ?_|refine aa ?_|refine aj ?_|refine ah rfl ?_|refine ae ?_|refine az rfl ?_|refine aE ?_)
  refine aA ?_
  repeat' (first|refine ai rfl ?_|refine aa ?_|refine aj ?_|refine ah rfl ?_|refine ae ?_)
  refine bi (late := [7]) (plan := [(0, none), (1, none), (2, none), (3, none), (4, none), (5, some true), (6, none), (7, some false)]) (fun w' => Ex w2 w') bA (by kernel_rfl) (Ex.refl w2).drew ?_
  have hEd := (Ex.refl w2).drew
  repeat' (first|refine aD (j := i) (a := some ⟨g, 0, none⟩) rfl rfl ⟨_, _, rfl⟩ (by omega) ?_|refine aV (j := i) (a := some ⟨g, 0, none⟩) (n := n) (s := fun k => ⟨some ⟨gs k, 0, none⟩, n, cp k⟩) rfl (fun _ h => (hO2.ext h).top.sl) (by omega) rfl ?_|refine ai rfl ?_)
  refine aw (cT (z := 1) (by omega) (by omega) _) rfl ?_
  rintro v w3 ⟨hI3, hE3⟩
  refine ⟨fun _ h => h.trans hE3, ?_⟩
  obtain ⟨u, rfl⟩ := hI3.ih
  have hE23 := hEd.trans hE3
  have hbr3 := hbr.ext hE23
  repeat' (first|refine aT (j := i) (a := some ⟨gs i, 0, none⟩) rfl rfl ⟨_, _, rfl⟩ (by omega) ?_)
  refine bR (j := i) (n := cp i) (u := u) rfl rfl hbr3 (by omega) (fun w4 hc4 hb4 => ⟨fun h => (nomatch h), ?_⟩)
  repeat' (first|refine ai rfl ?_|refine aa ?_|refine ah rfl ?_|refine ae ?_|refine bc rfl rfl (by omega) (by omega) ?_|refine aL ?_)
  refine ⟨⟨i + 1, ⟨hin, (hE2.trans hE23).chg hc4 (hO2.row i hin).low, ((hO2.ext hE23).put hin hbr3 (fun j hj => (hEr j hj).ext hE23) (Ent.of hI3 (by decide)) hc4 hb4).congr fun a b _ _ => ?_⟩, by omega, rfl, trivial⟩, (by (repeat (first|exact aH _ _ _|refine ay rfl ?_|refine av rfl ?_|refine ak rfl ?_|refine ao rfl ?_)))⟩
  unfold setM
  by_cases h : a = i ∧ b = i
  ·rw [if_pos h, if_pos (by omega), h.1, h.2, bF]
  ·rw [if_neg h]
   show _ = if a < i then idM a b else 0
   by_cases h' : a < i
   ·rw [if_pos h', if_pos (by omega)]
   ·rw [if_neg h']
    by_cases e : a < i + 1
    ·rw [if_pos e, bI (by omega)]
    ·rw [if_neg e]
 ·have ein : n = i := by omega
  subst ein
  repeat' (first|refine bj rfl rfl (by omega) ?_|refine ai rfl ?_|refine aa ?_|refine aj ?_|refine ah rfl ?_|refine ae ?_|refine au rfl ?_|refine aP ?_|refine aJ ?_|refine aQ ?_|refine aI ?_)
  exact cA rfl (rt rfl) (rt rfl) ⟨_, rfl, g, gs, cp, rfl, hO2.congr fun a b ha _ => by rw [if_pos ha], hE2⟩
set_option maxHeartbeats 2000000 in
theorem js {K K' : Nat} {w : World} {s s' : SD} {f g : Nat → Int} (hX : RX true K w s s.len f) (hY : RX true K' w s' s'.len g) (hl : s.len ≤ 1000) :
  CallsR Tryz.prog 59 #[.slice s.a s.len s.cap, .slice s'.a s'.len s'.cap] w fun v w' => ∃ t : Bool, v = .bool t ∧ (t = true ↔ s.len = s'.len ∧ ∀ j, j < s.len → f j = g j) ∧ Ex w w' := by
 refine aF (args := [_, _]) Tryz.func59 rfl rfl ?_
 by_cases he : s.len = s'.len
 ·repeat' (first|refine cN rfl rfl (by omega) ?_|refine ai rfl ?_|refine aa ?_|refine aj ?_|refine ah rfl ?_|refine ae ?_|refine aZ rfl ?_|refine au rfl ?_|refine aA ?_|refine aE ?_)
  refine aY (ι := Nat) [4, 5, 13, 14, 15, 16, 17, 18, 19, 20, 21, 22, 23, 24, 25, 26] (fun j => [(13, .int .i64 (j : Int))])
   (fun j w' => j ≤ s.len ∧ Ex w w' ∧ ∀ i, i < j → f i = g i) (fun j => s.len - j)
   0 ⟨rfl, trivial⟩ ⟨by omega, Ex.refl _, fun i h => by omega⟩ ?_
  rintro j ξ w2 ⟨hj, hE2, hq⟩
  show CW _ _ _ _ (over [(13, .int .i64 (j : Int))] _) w2
  rcases Nat.lt_or_ge j s.len with hjl | hjl
  ·obtain ⟨p, d, hh, e1, e2, hp, hS, hEn⟩ := (hX.ext hE2).get (by omega)
   obtain ⟨p', d', hh', e1', e2', hp', hS', hEn'⟩ := (hY.ext hE2).get (by omega)
   have ea : s.a = p := by rw [e1]
   have ea' : s'.a = p' := by rw [e1']
   subst ea ea'
   repeat' (first|refine bu rfl rfl (by omega) ?_|refine aa ?_|refine aj ?_|refine ah rfl ?_|refine ae ?_|refine az rfl ?_|refine aE ?_)
   refine aA ?_
   repeat' (first|refine ai rfl ?_|refine aa ?_|refine aj ?_|refine ah rfl ?_|refine ae ?_)
   refine bi (late := [8]) (plan := [(0, none), (1, none), (2, none), (3, none), (4, none), (5, none), (6, none), (7, none), (8, some false), (9, none)]) (fun w' => Ex w2 w') bA (by kernel_rfl) (Ex.refl w2).drew ?_
   have hEd := (Ex.refl w2).drew
   repeat' (first|refine aT (j := j) (a := s.a) rfl rfl hp (by omega) ?_|refine bo (j := j) (n := s.len) (a := s.a) rfl (fun _ h => hS.ext h) hp (by omega) ?_|refine aT (j := j) (a := s'.a) rfl rfl hp' (by omega) ?_|refine bo (j := j) (n := s'.len) (a := s'.a) rfl (fun _ h => hS'.ext h) hp' (by omega) ?_|refine ai rfl ?_)
   refine aw (mn (((hEn j (by omega)).ext hEd).c rfl) (((hEn' j (by omega)).ext hEd).c rfl)) rfl ?_
   rintro v w3 ⟨rfl, hE3⟩
   refine ⟨fun _ h => h.trans hE3, ?_⟩
   have hE23 := hEd.trans hE3
   by_cases hfg : f j = g j
   ·rw [decide_eq_true hfg]
    repeat' (first|refine ai rfl ?_|refine aa ?_|refine ah rfl ?_|refine ae ?_|refine bc rfl rfl (by omega) (by omega) ?_|refine au rfl ?_|refine aL ?_|refine aE ?_)
    refine ⟨⟨j + 1, ⟨hjl, hE2.trans hE23, fun i hi => ?_⟩, by omega, rfl, trivial⟩, (by (repeat (first|exact aH _ _ _|refine ay rfl ?_|refine av rfl ?_|refine ak rfl ?_|refine ao rfl ?_)))⟩
    by_cases e : i = j
    ·subst e; exact hfg
    ·exact hq i (by omega)
   ·rw [decide_eq_false hfg]
    repeat' (first|refine ai rfl ?_|refine aa ?_|refine aj ?_|refine ah rfl ?_|refine ae ?_|refine az rfl ?_|refine aI ?_|refine aU ?_|refine bQ ?_)
    exact bx rfl (rt rfl) ⟨false, rfl, ⟨fun h => (nomatch h), fun h => absurd (h.2 j hjl) hfg⟩, hE2.trans hE23⟩
  ·repeat' (first|refine bj rfl rfl (by omega) ?_|refine ai rfl ?_|refine aa ?_|refine aj ?_|refine ah rfl ?_|refine ae ?_|refine au rfl ?_|refine aP ?_|refine aJ ?_|refine aQ ?_|refine aI ?_)
   exact bx rfl (rt rfl) ⟨true, rfl, ⟨fun _ => ⟨he, fun i hi => hq i (by omega)⟩, fun _ => rfl⟩, hE2⟩
 ·repeat' (first|refine df rfl rfl (by omega) ?_|refine ai rfl ?_|refine aa ?_|refine aj ?_|refine ah rfl ?_|refine ae ?_|refine aZ rfl ?_|refine az rfl ?_|refine aI ?_|refine aU ?_)
  exact bx rfl (rt rfl) ⟨false, rfl, ⟨fun h => (nomatch h), fun h => absurd h.1 he⟩, Ex.refl _⟩
structure AC (K : Nat) (w : World) (a : Option Addr) (n : Nat) (s : Nat → SD) (F : Mat) : Prop where
 top : Sl w a (topC n s)
 row : ∀ i, i < n → RX true K w (s i) (s i).len (F i)
 len : ∀ i, i < n → (s i).len ≤ 1000
theorem AC.ext {K n : Nat} {w w' : World} {a : Option Addr} {s : Nat → SD} {F : Mat} (h : AC K w a n s F) (e : Ex w w') : AC K w' a n s F := ⟨h.top.ext e, fun i hi => (h.row i hi).ext e, h.len⟩
theorem MX.ac {K r c : Nat} {w : World} {a : Option Addr} {s : Nat → SD} {F : Mat} (h : MX true K w a r c s F) (hc : c ≤ 1000) : AC K w a r s F :=
 ⟨h.top, fun i hi => by have := h.row i hi; rwa [(h.row i hi).len], fun i hi => by rw [(h.row i hi).len]; exact hc⟩
set_option maxHeartbeats 2000000 in
theorem dK {K K' n n' ca cb : Nat} {w : World} {a b : Option Addr} {s s' : Nat → SD} {F G : Mat} (hA : AC K w a n s F) (hB : AC K' w b n' s' G) (hn : n ≤ 1000) :
  CallsR Tryz.prog 16 #[.slice a n ca, .slice b n' cb] w fun v w' => ∃ t : Bool, v = .bool t ∧ (t = true ↔ n = n' ∧ ∀ i, i < n → (s i).len = (s' i).len ∧ ∀ j, j < (s i).len → F i j = G i j) ∧ Ex w w' := by
 refine aF (args := [_, _]) Tryz.func16 rfl rfl ?_
 by_cases he : n = n'
 ·subst he
  repeat' (first|refine cN rfl rfl (by omega) ?_|refine ai rfl ?_|refine aa ?_|refine aj ?_|refine ah rfl ?_|refine ae ?_|refine aZ rfl ?_|refine au rfl ?_|refine aA ?_|refine aE ?_)
  refine aY (ι := Nat) [4, 5, 13, 14, 15, 16, 17, 18, 19, 20, 21, 22, 23, 24, 25, 26] (fun j => [(13, .int .i64 (j : Int))])
   (fun j w' => j ≤ n ∧ Ex w w' ∧ ∀ i, i < j → (s i).len = (s' i).len ∧ ∀ j, j < (s i).len → F i j = G i j) (fun j => n - j)
   0 ⟨rfl, trivial⟩ ⟨by omega, Ex.refl _, fun i h => by omega⟩ ?_
  rintro i ξ w2 ⟨hi, hE2, hq⟩
  show CW _ _ _ _ (over [(13, .int .i64 (i : Int))] _) w2
  rcases Nat.lt_or_ge i n with hin | hin
  ·have hA2 := hA.ext hE2
   have hB2 := hB.ext hE2
   have hpa := hA.top.plain (by rw [bP]; omega)
   have hpb := hB.top.plain (by rw [bP]; omega)
   repeat' (first|refine bu rfl rfl (by omega) ?_|refine aa ?_|refine aj ?_|refine ah rfl ?_|refine ae ?_|refine az rfl ?_|refine aE ?_)
   refine aA ?_
   repeat' (first|refine ai rfl ?_|refine aa ?_|refine aj ?_|refine ah rfl ?_|refine ae ?_)
   refine bi (late := [8]) (plan := [(0, none), (1, none), (2, none), (3, none), (4, none), (5, none), (6, none), (7, none), (8, some false), (9, none)]) (fun w' => Ex w2 w') bA (by kernel_rfl) (Ex.refl w2).drew ?_
   have hEd := (Ex.refl w2).drew
   repeat' (first|refine aD (j := i) (a := a) rfl rfl hpa (by omega) ?_|refine cG (j := i) (a := a) (n := n) (s := s) rfl (fun _ h => (hA2.ext h).top) (by omega) ?_|refine aD (j := i) (a := b) rfl rfl hpb (by omega) ?_|refine cG (j := i) (a := b) (n := n) (s := s') rfl (fun _ h => (hB2.ext h).top) (by omega) ?_|refine ai rfl ?_)
   refine aw (js ((hA2.row i hin).ext hEd) ((hB2.row i hin).ext hEd) (hA.len i hin)) rfl ?_
   rintro v w3 ⟨t, rfl, ht, hE3⟩
   refine ⟨fun _ h => h.trans hE3, ?_⟩
   have hE23 := hEd.trans hE3
   cases t
   ·repeat' (first|refine ai rfl ?_|refine aa ?_|refine aj ?_|refine ah rfl ?_|refine ae ?_|refine az rfl ?_|refine aI ?_|refine aU ?_|refine bQ ?_)
    exact bx rfl (rt rfl) ⟨false, rfl, ⟨fun h => (nomatch h), fun h => ht.2 (h.2 i hin)⟩, hE2.trans hE23⟩
   ·repeat' (first|refine ai rfl ?_|refine aa ?_|refine ah rfl ?_|refine ae ?_|refine bc rfl rfl (by omega) (by omega) ?_|refine au rfl ?_|refine aL ?_|refine aE ?_)
    refine ⟨⟨i + 1, ⟨hin, hE2.trans hE23, fun j hj => ?_⟩, by omega, rfl, trivial⟩, (by (repeat (first|exact aH _ _ _|refine ay rfl ?_|refine av rfl ?_|refine ak rfl ?_|refine ao rfl ?_)))⟩
    by_cases e : j = i
    ·subst e; exact ht.1 rfl
    ·exact hq j (by omega)
  ·have ein : n = i := by omega
   subst ein
   repeat' (first|refine bj rfl rfl (by omega) ?_|refine ai rfl ?_|refine aa ?_|refine aj ?_|refine ah rfl ?_|refine ae ?_|refine au rfl ?_|refine aP ?_|refine aJ ?_|refine aQ ?_|refine aI ?_)
   exact bx rfl (rt rfl) ⟨true, rfl, ⟨fun _ => ⟨rfl, hq⟩, fun _ => rfl⟩, hE2⟩
 ·repeat' (first|refine df rfl rfl (by omega) ?_|refine ai rfl ?_|refine aa ?_|refine aj ?_|refine ah rfl ?_|refine ae ?_|refine aZ rfl ?_|refine az rfl ?_|refine aI ?_|refine aU ?_)
  exact bx rfl (rt rfl) ⟨false, rfl, ⟨fun h => (nomatch h), fun h => absurd h.1 he⟩, Ex.refl _⟩
end Go.Proofs.YtiejljicpinheaaGreat
