import Derived.Test.YtpfhfldehaiokaaGreatA20
set_option maxHeartbeats 4000000
namespace Go.W
section
variable {P : Program} {S : World → Prop} {ops : List Oper} {K : Env → World → Prop} {rest : List (Oper × Option Bool)} {ρ : Env} {w : World} {b : Option Bool} {kf kf1 kf2 : Bool} {d : Nat} {dst : Option Nat} {T T' : TypeId} {pos : String} {af : Array Edge}
theorem wo {T1 E y n d1 t lo : Nat} {x : Operand} {s : SD} {f : Nat → IH} {u : IH} {T2 : TypeId} {pos2 : String} {af2 : Array Edge} [hT : Slc P T1 E 2 y] [hz : Zro P E (.agg #[.bool false, .slice none 0 0])]
  (hs : ρ t = .slice s.a s.len s.cap) (hx : ev ρ x = u.val) (htd : Nat.beq t d1 = false)
  (hS : ∀ w1 w2, w1.grownBy w2 (Value.slice s.a s.len s.cap).ownBlock → S w1 → S w2)
  (hR : RowG w lo E n s f) (hm : n + 1 ≤ 9223372036854775807) (hb : (n + 1) * y ≤ 140737488355328) (hlo : lo ≤ w.heap.size)
  (h : ∀ g s' f' w', RowG w' lo E (n + 1) s' f' → (∀ i, i < n → f' i = f i) → f' n = u → w.grownBy w' (Value.slice s.a s.len s.cap).ownBlock → (s'.a = s.a ∨ ∀ x, s'.a = some x → w.heap.size ≤ x.block) →
   RR P S ops K rest (upd (upd ρ d1 (.slice (some ⟨g, 0, none⟩) 1 1)) d (.slice s'.a s'.len s'.cap)) w') :
  RR P S ops K ((⟨some d1, .buildSlice T1 1 #[(0, x)], T2, pos2, af2, none⟩, some kf1) :: (⟨some d, .call ⟨.builtin .append, #[.tmp t, .tmp d1], #[T1, T1]⟩, T, pos, af, none⟩, some kf2) :: rest) ρ w := by
 refine iv (E := E) (s := 2) (z := .agg #[.bool false, .slice none 0 0]) (cs := u.val.cells) rfl ?_ (fun g w1 hn => ⟨fun _ hh => hS _ _ ⟨(kz hn.ex).os, (kz hn.ex).tape, (kz hn.ex).output, (kz hn.ex).size, fun k hk _ => (kz hn.ex).block k hk (by simp)⟩ hh, ?_⟩)
 ·simp only [List.map_toArray, List.map_cons, List.map_nil, hx]
  exact ew (s := 2) rfl (by simp)
 ·refine dq rfl ?_
  unfold OpW
  obtain ⟨i0, hi0, hzz⟩ := Option.map_eq_some_iff.1 hT.sz
  simp only [Prod.mk.injEq] at hzz
  obtain ⟨i1, hi1, hz1⟩ := Option.map_eq_some_iff.1 hz.ok
  rw [hi0] at hi1
  simp only [Option.some.injEq] at hi1
  subst hi1
  have hsz := hn.ex.size
  have hcs : u.val.cells.toList = u.cells := rfl
  obtain ⟨s', w', f', hr, h1, h2, h3, h4, h5⟩ := kH (P := P) (ty := T) hT.un hi0 hz1 hzz.1 hzz.2 (hR.ext hn.ex) (hcs ▸ hn.blk.sl) hm hb (by omega)
  have e1 : ev (upd ρ d1 (.slice (some ⟨g, 0, none⟩) 1 1)) (.tmp t) = .slice s.a s.len s.cap := by
   show upd ρ d1 _ t = _
   simp only [upd, htd, cond_false, hs]
  have e2 : ev (upd ρ d1 (.slice (some ⟨g, 0, none⟩) 1 1)) (.tmp d1) = .slice (some ⟨g, 0, none⟩) 1 1 := by
   show upd ρ d1 _ d1 = _
   rw [eR]
  have : (execOp (ev (upd ρ d1 (.slice (some ⟨g, 0, none⟩) 1 1))) ⟨some d, .call ⟨.builtin .append, #[.tmp t, .tmp d1], #[T1, T1]⟩, T, pos, af, none⟩).run P w1 = .ok (.value (.slice s'.a s'.len s'.cap)) w' := by
   simp [execOp, resolve, invoke, builtin, e1, e2, hr]
  rw [this]
  refine ⟨fun _ hh => hS _ _ h4 hh, h g s' f' w' h1 h2 h3 ?_ (h5.imp id fun hh x hx => by have := hh x hx; omega)⟩
  exact ⟨h4.os.trans hn.ex.os, h4.tape.trans hn.ex.tape, h4.output.trans hn.ex.output, by have := h4.size; omega,
   fun k hk hne => (h4.block k (by omega) hne).trans (hn.ex.block k hk)⟩
end
end Go.W
namespace Go.Proofs.YtpfhfldehaiokaaGreat
open Go.W Go.LM Go.LA
structure GR (cn : Bool) (K : Nat) (w : World) (lo g r n i j : Nat) (gs cap : Nat → Nat) (F : Nat → Nat → Int) (sd : SD) (h : Nat → IH) : Prop where
 low : lo ≤ g
 top : Blk w g 50 (topC r (setF (fun k => if k < i then ⟨some ⟨gs k, 0, none⟩, n, cap k⟩ else sd0) i sd))
 row : ∀ k, k < i → RO cn K w lo (gs k) (cap k) n (F k)
 off : ∀ k, k < i → gs k ≠ g
 inj : ∀ k l, k < i → l < i → gs k = gs l → k = l
 cur : RowG w lo 34 j sd h
 ent : ∀ l, l < j → Ent cn K w (h l).val (F i l)
 new : ∀ ad, sd.a = some ad → ad.block ≠ g ∧ ∀ k, k < i → gs k ≠ ad.block
section
variable {cn : Bool} {K r n lo g i j : Nat} {w w' w'' : World} {gs cap : Nat → Nat} {F F' : Nat → Nat → Int} {sd sd' : SD} {h h' : Nat → IH}
theorem GR.start (hP : MP cn K w lo g r n i gs cap F) : GR cn K w lo g r n i 0 gs cap F sd0 h :=
 ⟨hP.low, by
  rw [bF (s' := fun k => if k < i then (⟨some ⟨gs k, 0, none⟩, n, cap k⟩ : SD) else sd0) (fun k _ => ?_)]
  ·exact hP.top
  ·by_cases e : k = i
   ·subst e; rw [aI, if_neg (Nat.lt_irrefl k)]
   ·rw [aN _ _ e], hP.row, hP.off, hP.inj, RowG.nil _ _ _ _, fun l hl => by omega, fun ad e => by cases e⟩
theorem GR.ext (hG : GR cn K w lo g r n i j gs cap F sd h) (e : Ex w w') : GR cn K w' lo g r n i j gs cap F sd h :=
 ⟨hG.low, hG.top.ext e, fun k hk => (hG.row k hk).ext e, hG.off, hG.inj, RowG.ext hG.cur e, fun l hl => (hG.ent l hl).ext e, hG.new⟩
theorem RowG.bk {E : Nat} (hR : RowG w lo E j sd h) : ∀ q, (Value.slice sd.a sd.len sd.cap).ownBlock = some q → lo ≤ q ∧ (∃ ad, sd.a = some ad ∧ ad.block = q) ∧ Blk w q E (rowC sd.cap h) := by
 intro q e
 rcases hR.2 with ⟨h0, _⟩ | ⟨g', h1, h2, h3, h4, h5⟩
 ·rw [h0] at e; cases e
 ·rw [h1] at e; cases e; exact ⟨h2, ⟨_, h1, rfl⟩, h5⟩
theorem Ent.gbR {E : Nat} {v : Value} {z : Int} (hE : Ent cn K w v z) (hR : RowG w lo E j sd h) (hg : w.grownBy w' (Value.slice sd.a sd.len sd.cap).ownBlock) : Ent cn K w' v z := by
 rcases hR.2 with ⟨h0, _⟩ | ⟨g', h1, h2, h3, h4, h5⟩
 ·rw [h0] at hg
  exact hE.ext ⟨hg.os, hg.tape, hg.output, hg.size, fun k hk => hg.block k hk (by simp [Value.ownBlock])⟩
 ·rw [h1] at hg
  exact hE.gbN h5 (cU _ _) hg
theorem GR.topB (hG : GR cn K w lo g r n i j gs cap F sd h) (hg : w.grownBy w' (Value.slice sd.a sd.len sd.cap).ownBlock) : Blk w' g 50 (topC r (setF (fun k => if k < i then ⟨some ⟨gs k, 0, none⟩, n, cap k⟩ else sd0) i sd)) :=
 hG.top.gb hg (fun e => by
  obtain ⟨_, ⟨ad, e1, e2⟩, _⟩ := RowG.bk hG.cur _ e
  exact (hG.new ad e1).1 e2)
theorem GR.app {u : IH} (hG : GR cn K w lo g r n i j gs cap F sd h) (hR : RowG w' lo 34 (j + 1) sd' h') (h1 : ∀ l, l < j → h' l = h l) (h2 : h' j = u) (hg : w.grownBy w' (Value.slice sd.a sd.len sd.cap).ownBlock)
  (hA : sd'.a = sd.a ∨ ∀ x, sd'.a = some x → w.heap.size ≤ x.block) (hu : Ent cn K w u.val (F i j)) (hc : Chg g w' w'') (hT : Blk w'' g 50 (topC r (setF (setF (fun k => if k < i then ⟨some ⟨gs k, 0, none⟩, n, cap k⟩ else sd0) i sd) i sd'))) :
  GR cn K w'' lo g r n i (j + 1) gs cap F sd' h' := by
 have hB := hG.topB hg
 have hnw : ∀ ad, sd'.a = some ad → ad.block ≠ g ∧ ∀ k, k < i → gs k ≠ ad.block := fun ad e => by
  rcases hA with h | h
  ·exact hG.new ad (by rw [← h]; exact e)
  ·have h3 := h ad e
   refine ⟨fun e' => ?_, fun k hk e' => ?_⟩
   ·have := hG.top.lt; omega
   ·have := (hG.row k hk).lt; omega
 refine ⟨hG.low, ?_, fun k hk => ?_, hG.off, hG.inj, hR.gb (dx hc) (fun ad e e' => (hnw ad e).1 (by cases e'; rfl)), fun l hl => ?_, hnw⟩
 ·rw [bF (s' := setF (setF (fun k => if k < i then (⟨some ⟨gs k, 0, none⟩, n, cap k⟩ : SD) else sd0) i sd) i sd') (fun k _ => ?_)]
  ·exact hT
  ·by_cases e : k = i
   ·subst e; rw [aI, aI]
   ·rw [aN _ _ e, aN _ _ e, aN _ _ e]
 ·refine RO.gbN ?_ hB (dI _ _) (dx hc) (hG.off k hk)
  rcases hG.cur.2 with ⟨h0, _⟩ | ⟨g', e1, e2, e3, e4, e5⟩
  ·rw [h0] at hg
   exact (hG.row k hk).ext ⟨hg.os, hg.tape, hg.output, hg.size, fun k hk => hg.block k hk (by simp [Value.ownBlock])⟩
  ·rw [e1] at hg
   exact (hG.row k hk).gbN e5 (cU _ _) hg ((hG.new _ e1).2 k hk)
 ·refine Ent.gbN ?_ hB (dI _ _) (dx hc)
  by_cases e : l = j
  ·subst e; rw [h2]; exact hu.gbR hG.cur hg
  ·rw [h1 l (by omega)]; exact (hG.ent l (by omega)).gbR hG.cur hg
theorem GR.fin (hG : GR cn K w lo g r n i n gs cap F sd h) (hn : 0 < n) : ∃ gs' cap', MP cn K w lo g r n (i + 1) gs' cap' F := by
 obtain ⟨hl, h0 | ⟨g3, e1, e2, e3, e4, e5⟩⟩ := hG.cur
 ·omega
 ·obtain ⟨a, l, c⟩ := sd
  simp only at hl e1 e3 e4 e5
  subst e1; subst hl
  have hnw := hG.new _ rfl
  simp only at hnw
  refine ⟨setF gs i g3, setF cap i c, hG.low, ?_, fun k hk => ?_, fun k hk => ?_, fun k m hk hm he => ?_⟩
  ·rw [bF (s' := setF (fun k => if k < i then (⟨some ⟨gs k, 0, none⟩, l, cap k⟩ : SD) else sd0) i ⟨some ⟨g3, 0, none⟩, l, c⟩) (fun k _ => ?_)]
   ·exact hG.top
   ·by_cases e : k = i
    ·subst e; rw [aI, if_pos (Nat.lt_succ_self _), aI, aI]
    ·rw [aN _ _ e, aN _ _ e, aN _ _ e]
     by_cases h' : k < i
     ·rw [if_pos h', if_pos (by omega)]
     ·rw [if_neg h', if_neg (by omega)]
  ·by_cases e : k = i
   ·subst e; rw [aI, aI]; exact ⟨e2, e3, h, e5, hG.ent⟩
   ·rw [aN _ _ e, aN _ _ e]; exact hG.row k (by omega)
  ·by_cases e : k = i
   ·subst e; rw [aI]; exact fun e' => hnw.1 e'
   ·rw [aN _ _ e]; exact hG.off k (by omega)
  ·by_cases e1 : k = i
   ·by_cases e2 : m = i
    ·omega
    ·subst e1; rw [aI, aN _ _ e2] at he; exact absurd he.symm (hnw.2 m (by omega))
   ·by_cases e2 : m = i
    ·subst e2; rw [aI, aN _ _ e1] at he; exact absurd he (hnw.2 k (by omega))
    ·rw [aN _ _ e1, aN _ _ e2] at he; exact hG.inj k m (by omega) (by omega) he
end
theorem dL {n c : Nat} {a : Option Addr} {s : Nat → SD} {w : World} (h : Sl w a (topC n s)) :
  CallsR Tryz.prog 21 #[.slice a n c] w fun v w' => v = shapeV n s ∧ Ex w w' := by
 refine aE (args := [_]) Tryz.func21 rfl rfl ?_
 have no : ∀ {v : Value}, ¬ okS n s → v = .tuple #[.int .i64 0, .int .i64 0, .bool false] → v = shapeV n s := fun h1 e => by rw [gN h1, e]
 by_cases h1 : 1 ≤ n ∧ n ≤ 16
 ·have hp := h.plain (by rw [cv]; omega)
  repeat' (first|refine bp rfl rfl (by omega) ?_|refine cW rfl rfl (by omega) ?_|refine aj rfl ?_|refine aa ?_|refine ak ?_|refine ai rfl ?_|refine ah ?_|refine bc rfl ?_|refine bJ rfl rfl ?_|refine ao rfl ?_|refine ay ?_|refine aC ?_)
  refine aW (ι := Nat) [2, 3, 4, 6, 17, 18, 19, 20, 21, 22, 23, 24, 25, 26, 27, 28, 29, 30, 31, 32, 33, 34, 35, 36, 37, 38] (fun i => [(17, .int .i64 (i : Int))]) (fun i w' => (i ≤ n ∧ ∀ k, k < i → 1 ≤ (s k).len ∧ (s k).len ≤ 16 ∧ (s k).len = (s 0).len) ∧ w' = w) (fun i => n - i) 0 ⟨rfl, trivial⟩ ⟨⟨by omega, fun k h => by omega⟩, rfl⟩ ?_
  rintro i ξ w2 ⟨⟨hi, hI⟩, rfl⟩
  show CW _ _ _ _ (over [(17, .int .i64 (i : Int))] _) w2
  rcases Nat.lt_or_ge i n with hin | hin
  ·by_cases ok : 1 ≤ (s i).len ∧ (s i).len ≤ 16 ∧ (s i).len = (s 0).len
   ·repeat' (first|refine bq rfl rfl (by omega) ?_|refine bp rfl rfl (by omega) ?_|refine cW rfl rfl (by omega) ?_|refine eI rfl rfl (by omega) ?_|refine az (j := i) rfl rfl hp (by omega) ?_|refine df (j := i) rfl h (by omega) ?_|refine az (j := 0) rfl rfl hp (by omega) ?_|refine df (j := 0) rfl h (by omega) ?_|refine aj rfl ?_|refine aa ?_|refine ak ?_|refine ai rfl ?_|refine ah ?_|refine bc rfl ?_|refine bJ rfl rfl ?_|refine aV rfl rfl (by omega) (by omega) ?_|refine aA rfl ?_|refine ao rfl ?_|refine ay ?_|refine aJ ?_|refine aC ?_)
    refine ⟨⟨i + 1, ⟨⟨by omega, fun k hk => ?_⟩, rfl⟩, by omega, rfl, trivial⟩, (by (repeat (first|exact aG _ _ _|refine aB rfl ?_|refine ax rfl ?_|refine av rfl ?_|refine aw rfl ?_)))⟩
    by_cases hk' : k = i
    ·subst hk'; exact ok
    ·exact hI k (by omega)
   ·have hbad : ¬ okS n s := fun hk => ok ⟨by have := hk.2.2.2.2 i hin; have := hk.2.2.1; omega, by have := hk.2.2.2.2 i hin; have := hk.2.2.2.1; omega, hk.2.2.2.2 i hin⟩
    by_cases o1 : (s i).len < 1
    ·repeat' (first|refine bq rfl rfl (by omega) ?_|refine az (j := i) rfl rfl hp (by omega) ?_|refine df (j := i) rfl h (by omega) ?_|refine aj rfl ?_|refine aa ?_|refine ak ?_|refine ai rfl ?_|refine ah ?_|refine bc rfl ?_|refine bY rfl rfl ?_|refine aA rfl ?_|refine ay ?_|refine aK ?_|refine bf ?_|refine cj ?_|refine aC ?_)
     exact eJ rfl (rt rfl) (rt rfl) (rt rfl) ⟨no hbad rfl, Ex.refl _⟩
    ·by_cases o2 : 16 < (s i).len
     ·repeat' (first|refine bq rfl rfl (by omega) ?_|refine bp rfl rfl (by omega) ?_|refine jp rfl rfl (by omega) ?_|refine az (j := i) rfl rfl hp (by omega) ?_|refine df (j := i) rfl h (by omega) ?_|refine aj rfl ?_|refine aa ?_|refine ak ?_|refine ai rfl ?_|refine ah ?_|refine bc rfl ?_|refine bJ rfl rfl ?_|refine bY rfl rfl ?_|refine aA rfl ?_|refine ay ?_|refine aK ?_|refine bf ?_|refine cj ?_|refine aC ?_)
      exact eJ rfl (rt rfl) (rt rfl) (rt rfl) ⟨no hbad rfl, Ex.refl _⟩
     ·repeat' (first|refine bq rfl rfl (by omega) ?_|refine bp rfl rfl (by omega) ?_|refine cW rfl rfl (by omega) ?_|refine qT rfl rfl (by omega) ?_|refine az (j := i) rfl rfl hp (by omega) ?_|refine df (j := i) rfl h (by omega) ?_|refine az (j := 0) rfl rfl hp (by omega) ?_|refine df (j := 0) rfl h (by omega) ?_|refine aj rfl ?_|refine aa ?_|refine ak ?_|refine ai rfl ?_|refine ah ?_|refine bc rfl ?_|refine bJ rfl rfl ?_|refine aA rfl ?_|refine ay ?_|refine aK ?_|refine bf ?_|refine cj ?_|refine aC ?_)
      exact eJ rfl (rt rfl) (rt rfl) (rt rfl) ⟨no hbad rfl, Ex.refl _⟩
  ·have ein : n = i := by omega
   subst ein
   have h0 := hI 0 (by omega)
   repeat' (first|refine bp rfl rfl (by omega) ?_|refine aa ?_|refine ak ?_|refine ai rfl ?_|refine ah ?_|refine ao rfl ?_|refine aT ?_|refine aO ?_|refine aU ?_)
   refine bn (late := []) (plan := [(0, none), (1, none), (2, none), (3, none), (4, none), (5, none), (6, none), (7, none), (8, none)]) (fun w' => Ex w2 w') bD (by kernel_rfl) (Ex.refl w2).drew ?_
   repeat' (first|refine az (j := 0) rfl rfl hp (by omega) ?_|refine df (j := 0) rfl (fun _ h' => h.ext h') (by omega) ?_|refine aj rfl ?_|refine aa ?_|refine ah ?_|refine bc rfl ?_|refine aK ?_)
   refine eJ rfl (rt rfl) (rt rfl) (rt rfl) ⟨?_, (Ex.refl _).drew⟩
   unfold shapeV
   rw [if_pos ⟨h1.1, h1.2, h0.1, h0.2.1, fun k hk => (hI k hk).2.2⟩]; rfl
 ·repeat' (first|refine aj rfl ?_|refine aa ?_|refine ak ?_|refine ai rfl ?_|refine ah ?_|refine bc rfl ?_|refine bJ rfl rfl ?_|refine bY rfl rfl ?_|refine gW rfl rfl (fun hc => ?_) (fun hc => ?_)|refine aA rfl ?_|refine aQ rfl (fun hc => ?_) (fun hc => ?_)|refine ay ?_|refine aK ?_|refine bf ?_|refine aC ?_)
  all_goals try (exfalso; omega)
  all_goals exact eJ rfl (rt rfl) (rt rfl) (rt rfl) ⟨no (fun hk => h1 ⟨hk.1, hk.2.1⟩) rfl, Ex.refl _⟩
theorem fp {r c : Nat} {w : World} (hr : r ≤ 1000) (hc : c ≤ 1000) :
  CallsR Tryz.prog 54 #[.int .i64 (r : Int), .int .i64 (c : Int)] w (RetMO 0 w r c fun _ _ => 0) := by
 refine aE (args := [_, _]) Tryz.func54 rfl rfl ?_
 repeat' (first|refine eC (n := r) rfl rfl (by omega) (by omega) (fun g w1 hn1 => tvv ?_)|refine aj rfl ?_|refine aa ?_|refine ak ?_|refine ai rfl ?_|refine ah ?_|refine bc rfl ?_|refine ay ?_)
 refine aW (ι := Nat × (Nat → Nat) × (Nat → Nat)) [6, 11, 12, 13, 14, 15, 16, 17, 18, 19] (fun t => [(11, .int .i64 (t.1 : Int))])
  (fun t w' => t.1 ≤ r ∧ Ex w w' ∧ MP true 0 w' w.heap.size g r c t.1 t.2.1 t.2.2 (fun _ _ => 0)) (fun t => r - t.1)
  (0, fun _ => 0, fun _ => 0) ⟨rfl, trivial⟩ ⟨by simp only; omega, hn1.ex, MP.start hn1.blk hn1.lo⟩ ?_
 rintro ⟨i, gs, cp⟩ ξ w2 ⟨hi, hE2, hP2⟩
 simp only at hi hP2
 show CW _ _ _ _ (over [(11, .int .i64 (i : Int))] _) w2
 rcases Nat.lt_or_ge i r with hir | hir
 ·repeat' (first|refine bq rfl rfl (by omega) ?_|refine k5 (n := c) rfl rfl (by omega) (by omega) (fun g3 w3 hn3 => tvv ?_)|refine az (j := i) (a := some ⟨g, 0, none⟩) rfl rfl ⟨_, _, rfl⟩ (by omega) ?_|refine aj rfl ?_|refine aa ?_|refine ak ?_|refine ai rfl ?_|refine ah ?_|refine aA rfl ?_|refine ay ?_|refine aC ?_)
  refine di (j := i) (u := ⟨some ⟨g3, 0, none⟩, c, c⟩) rfl rfl (hP2.top.ext hn3.ex) (by omega) (fun w4 hc4 hT4 => tvv ?_)
  have s2 := hE2.size
  have lo3 := hn3.lo
  have low := hP2.low
  obtain ⟨hb4, hne3, hT4', hnext⟩ := hP2.snoc hn3 hc4 hT4 (by omega)
  have hE4 := (hE2.trans hn3.ex).chg hc4 low
  repeat' (first|refine aj rfl ?_|refine aa ?_|refine ai rfl ?_|refine ah ?_|refine aV rfl rfl (by omega) (by omega) ?_|refine aJ ?_)
  exact ⟨⟨(i + 1, setF gs i g3, setF cp i c), ⟨hir, hE4, (hnext w4 (yu (Ex.refl _))).2 ⟨by omega, Nat.le_refl _, fun _ => ih0, hb4, fun j _ => vV _⟩⟩, by simp only; omega, rfl, trivial⟩, (by (repeat (first|exact aG _ _ _|refine aB rfl ?_|refine ax rfl ?_|refine av rfl ?_|refine aw rfl ?_)))⟩
 ·have eir : r = i := by omega
  subst eir
  repeat' (first|refine bp rfl rfl (by omega) ?_|refine aj rfl ?_|refine aa ?_|refine ak ?_|refine ai rfl ?_|refine ah ?_|refine ao rfl ?_|refine aT ?_|refine aO ?_|refine aU ?_|refine aK ?_)
  exact bo rfl (rt rfl) ⟨g, gs, cp, rfl, hP2.fin, hE2⟩
theorem f5 {n : Nat} {w : World} (hn : 1 ≤ n ∧ n ≤ 16) :
  CallsR Tryz.prog 39 #[.int .i64 (n : Int)] w fun v w' => ∃ u, v = .tuple #[u, .bool true] ∧ RetMO 1 w n n idM u w' := by
 refine aE (args := [_]) Tryz.func39 rfl rfl ?_
 repeat' (first|refine bp rfl rfl (by omega) ?_|refine cW rfl rfl (by omega) ?_|refine aj rfl ?_|refine aa ?_|refine ak ?_|refine ai rfl ?_|refine ah ?_|refine bJ rfl rfl ?_|refine ao rfl ?_|refine aC ?_)
 refine au (fp (r := n) (c := n) (by omega) (by omega)) rfl ?_
 rintro v w1 ⟨g, gs, cp, rfl, hO1, hE1⟩
 refine tvv ?_
 repeat' (first|refine aj rfl ?_|refine aa ?_|refine ak ?_|refine ai rfl ?_|refine ah ?_|refine bc rfl ?_|refine ay ?_)
 refine aW (ι := Nat) [5, 17, 18, 19, 20, 21, 22, 23, 24, 25, 26, 27] (fun i => [(17, .int .i64 (i : Int))])
  (fun i w' => i ≤ n ∧ Ex w w' ∧ MO true 1 w' w.heap.size g n n gs cp (fun a b => if a < i then idM a b else 0)) (fun i => n - i)
  0 ⟨rfl, trivial⟩ ⟨by omega, hE1, (hO1.up (by omega)).congr fun a b _ _ => if_neg (by omega)⟩ ?_
 clear hO1 hE1
 rintro i ξ w2 ⟨hi, hE2, hO2⟩
 show CW _ _ _ _ (over [(17, .int .i64 (i : Int))] _) w2
 rcases Nat.lt_or_ge i n with hin | hin
 ·obtain ⟨hh, hbr, hcr, hEr⟩ := hO2.get hin
  repeat' (first|refine bq rfl rfl (by omega) ?_|refine aa ?_|refine ak ?_|refine ai rfl ?_|refine ah ?_|refine aA rfl ?_|refine aC ?_)
  refine ay ?_
  repeat' (first|refine aj rfl ?_|refine aa ?_|refine ak ?_|refine ai rfl ?_|refine ah ?_)
  refine bn (late := [7]) (plan := [(0, none), (1, none), (2, none), (3, none), (4, none), (5, some true), (6, none), (7, some false)]) (fun w' => Ex w2 w') bD (by kernel_rfl) (Ex.refl w2).drew ?_
  have hEd := (Ex.refl w2).drew
  repeat' (first|refine az (j := i) (a := some ⟨g, 0, none⟩) rfl rfl ⟨_, _, rfl⟩ (by omega) ?_|refine aZ (j := i) (a := some ⟨g, 0, none⟩) (n := n) (s := fun k => ⟨some ⟨gs k, 0, none⟩, n, cp k⟩) rfl (fun _ h => (hO2.ext h).top.sl) (by omega) rfl ?_|refine aj rfl ?_)
  refine au (bV (z := 1) (by omega) (by omega) _) rfl ?_
  rintro v w3 ⟨hI3, hE3⟩
  refine ⟨fun _ h => h.trans hE3, ?_⟩
  obtain ⟨u, rfl⟩ := hI3.ih
  have hE23 := hEd.trans hE3
  have hbr3 := hbr.ext hE23
  repeat' (first|refine bE (j := i) (a := some ⟨gs i, 0, none⟩) rfl rfl ⟨_, _, rfl⟩ (by omega) ?_)
  refine eD (j := i) (n := cp i) (u := u) rfl rfl hbr3 (by omega) (fun w4 hc4 hb4 => ⟨fun h => (nomatch h), ?_⟩)
  repeat' (first|refine aj rfl ?_|refine aa ?_|refine ai rfl ?_|refine ah ?_|refine aV rfl rfl (by omega) (by omega) ?_|refine aJ ?_)
  refine ⟨⟨i + 1, ⟨hin, (hE2.trans hE23).chg hc4 (hO2.row i hin).low, ((hO2.ext hE23).put hin hbr3 (fun j hj => (hEr j hj).ext hE23) (Ent.of hI3 (by decide)) hc4 hb4).congr fun a b _ _ => ?_⟩, by omega, rfl, trivial⟩, (by (repeat (first|exact aG _ _ _|refine aB rfl ?_|refine ax rfl ?_|refine av rfl ?_|refine aw rfl ?_)))⟩
  unfold setM
  by_cases h : a = i ∧ b = i
  ·rw [if_pos h, if_pos (by omega), h.1, h.2, bB]
  ·rw [if_neg h]
   show _ = if a < i then idM a b else 0
   by_cases h' : a < i
   ·rw [if_pos h', if_pos (by omega)]
   ·rw [if_neg h']
    by_cases e : a < i + 1
    ·rw [if_pos e, bH (by omega)]
    ·rw [if_neg e]
 ·have ein : n = i := by omega
  subst ein
  repeat' (first|refine bp rfl rfl (by omega) ?_|refine aj rfl ?_|refine aa ?_|refine ak ?_|refine ai rfl ?_|refine ah ?_|refine ao rfl ?_|refine aT ?_|refine aO ?_|refine aU ?_|refine aK ?_)
  exact dw rfl (rt rfl) (rt rfl) ⟨_, rfl, g, gs, cp, rfl, hO2.congr fun a b ha _ => by rw [if_pos ha], hE2⟩
theorem jg {cn : Bool} {K r c cap : Nat} {w : World} {a : Option Addr} {s : Nat → SD} {F : Mat} (hM : MX cn K w a r c s F) (hr : 1 ≤ r ∧ r ≤ 1000) (hc : 1 ≤ c ∧ c ≤ 1000) :
  CallsR Tryz.prog 24 #[.slice a r cap] w (RetMO K w r c F) := by
 have hpt := hM.plain (by omega)
 refine aE (args := [_]) Tryz.func24 rfl rfl ?_
 repeat' (first|refine eC (n := r) rfl rfl (by omega) (by omega) (fun g w1 hn1 => tvv ?_)|refine aj rfl ?_|refine aa ?_|refine ak ?_|refine ai rfl ?_|refine ah ?_|refine bc rfl ?_|refine ay ?_)
 refine aW (ι := Nat × (Nat → Nat) × (Nat → Nat)) [4, 6, 12, 13, 14, 15, 16, 17, 18, 19, 20, 21, 22, 23, 24, 25, 26, 27, 28, 29, 30, 31, 32, 33, 34, 35, 36] (fun t => [(12, .int .i64 (t.1 : Int))])
  (fun t w' => t.1 ≤ r ∧ Ex w w' ∧ MP true K w' w.heap.size g r c t.1 t.2.1 t.2.2 F) (fun t => r - t.1)
  (0, fun _ => 0, fun _ => 0) ⟨rfl, trivial⟩ ⟨by simp only; omega, hn1.ex, MP.start hn1.blk hn1.lo⟩ ?_
 rintro ⟨i, gs, cp⟩ ξ w2 ⟨hi, hE2, hP2⟩
 simp only at hi hP2
 show CW _ _ _ _ (over [(12, .int .i64 (i : Int))] _) w2
 rcases Nat.lt_or_ge i r with hir | hir
 ·obtain ⟨pa, d, hh, e1, e2, hpp, hS, hEn⟩ := (hM.ext hE2).get hir (by omega)
  repeat' (first|refine bq rfl rfl (by omega) ?_|refine az (j := i) (a := a) rfl rfl hpt (by omega) ?_|refine aZ (j := i) (a := a) (n := r) (s := s) rfl (hM.ext hE2).top (by omega) e1 ?_|refine aj rfl ?_|refine aa ?_|refine ak ?_|refine ai rfl ?_|refine ah ?_|refine bc rfl ?_|refine aA rfl ?_|refine ay ?_|refine aC ?_)
  refine aW (ι := Nat × SD × (Nat → IH)) [6, 20, 21, 22, 23, 24, 25, 26, 27, 28, 29, 30, 31, 32, 33, 34, 35] (fun t => [(20, .int .i64 (t.1 : Int))])
   (fun t w' => t.1 ≤ c ∧ Ex w w' ∧ GR true K w' w.heap.size g r c i t.1 gs cp F t.2.1 t.2.2) (fun t => c - t.1)
   (0, sd0, fun _ => ih0) ⟨rfl, trivial⟩ ⟨by simp only; omega, hE2, GR.start hP2⟩ ?_
  clear hP2 hS hEn
  rintro ⟨j, sd, h⟩ ξ2 w3 ⟨hj, hE3, hG3⟩
  simp only at hj hG3
  show CW _ _ _ _ (over [(20, .int .i64 (j : Int))] _) w3
  obtain ⟨pa', d', hh, e1', e2', hp', hS, hEn⟩ := (hM.ext hE3).get hir (by omega)
  rw [e1] at e1'
  obtain ⟨rfl, rfl⟩ : pa = pa' ∧ d = d' := by cases e1'; exact ⟨rfl, rfl⟩
  rcases Nat.lt_or_ge j c with hje | hje
  ·repeat' (first|refine bq rfl rfl (by omega) ?_|refine bE (j := j) (a := pa) rfl rfl hpp (by omega) ?_|refine bX (j := j) (a := pa) rfl hS hpp (by omega) ?_|refine aa ?_|refine ak ?_|refine ai rfl ?_|refine ah ?_|refine aA rfl ?_|refine ay ?_|refine aC ?_)
   refine aH (fun g11 w4 hn4 => tvv ?_)
   have hb4 : Blk w4 g11 34 (intL false none 0 0) := hn4.blk
   refine aF (n := 2) (vs := (hh j).cells) rfl rfl rfl rfl hb4 rfl (fun w5 hc5 hb5 => tvv ?_)
   have hE35 : Ex w3 w5 := hn4.ex.chg hc5 hn4.lo
   have hG5 := hG3.ext hE35
   have lgt := hG3.top.lt
   have hsE := hE3.size
   have l4 := hn4.lo
   have hng : g ≠ g11 := by omega
   have own : ∀ q, (Value.slice sd.a sd.len sd.cap).ownBlock = some q → q ≠ g ∧ q ≠ g11 ∧ w.heap.size ≤ q := fun q e => by
    obtain ⟨h1, ⟨ad, h2, h3⟩, h4⟩ := RowG.bk hG3.cur q e
    have := h4.lt
    exact ⟨fun e' => (hG3.new ad h2).1 (by omega), by omega, h1⟩
   repeat' (first|refine aa ?_|refine ah ?_)
   refine bn (late := [11]) (plan := [(0, none), (1, none), (2, none), (3, none), (4, none), (5, none), (6, none), (7, some true), (8, some true), (9, some true), (10, none), (11, some false)]) (fun w' => w5.grownBy w' (Value.slice sd.a sd.len sd.cap).ownBlock) bD (by kernel_rfl) (vE (yu (Ex.refl _))) ?_
   have hEd := (Ex.refl w5).drew
   repeat' (first|refine az (j := i) (a := some ⟨g, 0, none⟩) rfl rfl ⟨_, _, rfl⟩ (by omega) ?_|refine aZ (j := i) (a := some ⟨g, 0, none⟩) (n := r) (a1 := sd.a) (l1 := sd.len) (c1 := sd.cap) rfl (fun _ h => (hG5.topB h).sl) (by omega) (by rw [aI]) ?_|refine aY (g := g11) rfl (fun _ h => hb5.gb h (fun e => (own _ e).2.1 rfl)) rfl ?_|refine aj rfl ?_)
   refine au (fF ((hEn j (by omega)).ext (hE35.trans hEd)).k) rfl ?_
   rintro v w6 ⟨hI6, hE6⟩
   refine ⟨fun _ h => dQ h (yu hE6) (fun k e => .inl e), ?_⟩
   obtain ⟨u, rfl⟩ := hI6.ih
   have hE56 := hEd.trans hE6
   have hG6 := hG5.ext hE56
   skip
   refine wo (E := 34) rfl rfl rfl (fun w1 w2 h1 h2 => dQ h2 h1 (fun k e => .inl e)) hG6.cur (by omega) (by omega) (by have := hE35.size; have := hE56.size; omega) ?_
   intro gt sd' h' w7 hR7 hf1 hf2 hG7 hA7
   repeat' (first|refine az (j := i) (a := some ⟨g, 0, none⟩) rfl rfl ⟨_, _, rfl⟩ (by omega) ?_)
   refine di (j := i) (u := sd') rfl rfl (hG6.topB hG7) (by omega) (fun w8 hc8 hT8 => ⟨fun h => (nomatch h), ?_⟩)
   have hE06 := (hE3.trans hE35).trans hE56
   repeat' (first|refine aj rfl ?_|refine aa ?_|refine ai rfl ?_|refine ah ?_|refine aV rfl rfl (by omega) (by omega) ?_|refine aJ ?_)
   exact ⟨⟨(j + 1, sd', h'), ⟨hje, (hE06.gb hG7 (fun q e => (own q e).2.2)).chg hc8 hG3.low, hG6.app hR7 hf1 hf2 hG7 hA7 (Ent.of hI6 (hEn j (by omega)).lb) hc8 hT8⟩, by simp only; omega, rfl, trivial⟩, (by (repeat (first|exact aG _ _ _|refine aB rfl ?_|refine ax rfl ?_|refine av rfl ?_|refine aw rfl ?_)))⟩
  ·have eje : j = c := by omega
   subst eje
   repeat' (first|refine bp rfl rfl (by omega) ?_|refine aj rfl ?_|refine aa ?_|refine ak ?_|refine ai rfl ?_|refine ah ?_|refine aV rfl rfl (by omega) (by omega) ?_|refine ao rfl ?_|refine aT ?_|refine aO ?_|refine aU ?_|refine aJ ?_)
   obtain ⟨gs', cp', hP⟩ := hG3.fin (by omega)
   exact ⟨⟨(i + 1, gs', cp'), ⟨hir, hE3, hP⟩, by simp only; omega, rfl, trivial⟩, (by (repeat (first|exact aG _ _ _|refine aB rfl ?_|refine ax rfl ?_|refine av rfl ?_|refine aw rfl ?_)))⟩
 ·have eir : r = i := by omega
  subst eir
  repeat' (first|refine bp rfl rfl (by omega) ?_|refine aj rfl ?_|refine aa ?_|refine ak ?_|refine ai rfl ?_|refine ah ?_|refine ao rfl ?_|refine aT ?_|refine aO ?_|refine aU ?_|refine aK ?_)
  exact bo rfl (rt rfl) ⟨g, gs, cp, rfl, hP2.fin, hE2⟩
theorem f7 {cn : Bool} {K r c cap : Nat} {w : World} {a : Option Addr} {s : Nat → SD} {F : Mat} (hM : MX cn K w a r c s F) (hr : 1 ≤ r ∧ r ≤ 16) (hc : 1 ≤ c ∧ c ≤ 16) :
  CallsR Tryz.prog 84 #[.slice a r cap] w fun v w' => ∃ u, v = .tuple #[u, .bool true] ∧ RetMO K w c r (fun i j => F j i) u w' := by
 have hpt := hM.plain (by omega)
 refine aE (args := [_]) Tryz.func84 rfl rfl ?_
 repeat' (first|refine aj rfl ?_|refine aa ?_|refine ak ?_|refine ai rfl ?_|refine ah ?_)
 refine au (dL hM.top) rfl ?_
 rintro v w1 ⟨rfl, hE1⟩
 refine tvv ?_
 rw [eK hM hr hc]
 repeat' (first|refine aR rfl rfl ?_|refine aj rfl ?_|refine aa ?_|refine ak ?_|refine ai rfl ?_|refine ah ?_|refine ao rfl ?_|refine aC ?_)
 refine au (fp (r := c) (c := r) (by omega) (by omega)) rfl ?_
 rintro v w2 ⟨g, gs, cp, rfl, hO2, hE2⟩
 refine tvv ?_
 have s1 := hE1.size
 have hE02 := hE1.trans hE2
 repeat' (first|refine aj rfl ?_|refine aa ?_|refine ak ?_|refine ai rfl ?_|refine ah ?_|refine bc rfl ?_|refine ay ?_)
 refine aW (ι := Nat) [8, 9, 23, 24, 25, 26, 27, 28, 29, 30, 31, 32, 33, 34, 35, 36, 37, 38, 39, 40, 41, 42, 43, 44, 45, 46, 47, 48, 49] (fun i => [(23, .int .i64 (i : Int))])
  (fun i w' => i ≤ r ∧ Ex w w' ∧ MO true K w' w.heap.size g c r gs cp (fun x y => if y < i then F y x else 0)) (fun i => r - i)
  0 ⟨rfl, trivial⟩ ⟨by omega, hE02, ((hO2.mono s1).up (by omega)).congr fun x y _ _ => if_neg (by omega)⟩ ?_
 clear hO2 hE02 hE2
 rintro i ξ w3 ⟨hi, hE3, hO3⟩
 show CW _ _ _ _ (over [(23, .int .i64 (i : Int))] _) w3
 rcases Nat.lt_or_ge i r with hir | hir
 ·obtain ⟨pa, d, hh, e1, e2, hpp, hS, hEn⟩ := (hM.ext hE3).get hir (by omega)
  repeat' (first|refine bq rfl rfl (by omega) ?_|refine az (j := i) (a := a) rfl rfl hpt (by omega) ?_|refine aZ (j := i) (a := a) (n := r) (s := s) rfl (hM.ext hE3).top (by omega) e1 ?_|refine aj rfl ?_|refine aa ?_|refine ak ?_|refine ai rfl ?_|refine ah ?_|refine bc rfl ?_|refine aA rfl ?_|refine ay ?_|refine aC ?_)
  refine aW (ι := Nat) [9, 31, 32, 33, 34, 35, 36, 37, 38, 39, 40, 41, 42, 43, 44, 45, 46, 47, 48] (fun j => [(31, .int .i64 (j : Int))])
   (fun j w' => j ≤ c ∧ Ex w w' ∧ MO true K w' w.heap.size g c r gs cp (fun x y => if y < i ∨ (y = i ∧ x < j) then F y x else 0)) (fun j => c - j)
   0 ⟨rfl, trivial⟩ ⟨by omega, hE3, hO3.congr fun x y _ _ => by
    by_cases h : y < i
    ·rw [if_pos h, if_pos (.inl h)]
    ·rw [if_neg h, if_neg (by omega)]⟩ ?_
  clear hO3 hS hEn
  rintro j ξ2 w4 ⟨hj, hE4, hO4⟩
  show CW _ _ _ _ (over [(31, .int .i64 (j : Int))] _) w4
  rcases Nat.lt_or_ge j c with hjc | hjc
  ·obtain ⟨pa', d', hh, e1', e2', hp', hS, hEn⟩ := (hM.ext hE4).get hir (by omega)
   rw [e1] at e1'
   obtain ⟨rfl, rfl⟩ : pa = pa' ∧ d = d' := by cases e1'; exact ⟨rfl, rfl⟩
   obtain ⟨hhr, hbr, hcr, hEr⟩ := hO4.get hjc
   repeat' (first|refine bq rfl rfl (by omega) ?_|refine aa ?_|refine ak ?_|refine ai rfl ?_|refine ah ?_|refine aA rfl ?_|refine aC ?_)
   refine ay ?_
   repeat' (first|refine aj rfl ?_|refine aa ?_|refine ak ?_|refine ai rfl ?_|refine ah ?_)
   refine bn (late := [14]) (plan := [(0, none), (1, none), (2, none), (3, none), (4, none), (5, none), (6, none), (7, none), (8, none), (9, none), (10, none), (11, none), (12, some true), (13, none), (14, some false)]) (fun w' => Ex w4 w') bD (by kernel_rfl) (Ex.refl w4).drew ?_
   have hEd := (Ex.refl w4).drew
   repeat' (first|refine az (j := j) (a := some ⟨g, 0, none⟩) rfl rfl ⟨_, _, rfl⟩ (by omega) ?_|refine aZ (j := j) (a := some ⟨g, 0, none⟩) (n := c) (s := fun k => ⟨some ⟨gs k, 0, none⟩, r, cp k⟩) rfl (fun _ h => (hO4.ext h).top.sl) (by omega) rfl ?_|refine az (j := i) (a := a) rfl rfl hpt (by omega) ?_|refine aZ (j := i) (a := a) (n := r) (s := s) rfl (fun _ h => (hM.ext (hE4.trans h)).top) (by omega) e1 ?_|refine bE (j := j) (a := pa) rfl rfl hpp (by omega) ?_|refine bX (j := j) (a := pa) rfl (fun _ h => hS.ext h) hpp (by omega) ?_|refine aj rfl ?_)
   refine au (fF ((hEn j hjc).ext hEd).k) rfl ?_
   rintro v w5 ⟨hI5, hE5⟩
   refine ⟨fun _ h => h.trans hE5, ?_⟩
   obtain ⟨u, rfl⟩ := hI5.ih
   have hE45 := hEd.trans hE5
   repeat' (first|refine bE (j := i) (a := some ⟨gs j, 0, none⟩) rfl rfl ⟨_, _, rfl⟩ (by omega) ?_)
   refine eD (j := i) (n := cp j) (u := u) rfl rfl (hbr.ext hE45) (by omega) (fun w6 hc6 hb6 => ⟨fun h => (nomatch h), ?_⟩)
   repeat' (first|refine aj rfl ?_|refine aa ?_|refine ai rfl ?_|refine ah ?_|refine aV rfl rfl (by omega) (by omega) ?_|refine aJ ?_)
   refine ⟨⟨j + 1, ⟨hjc, (hE4.trans hE45).chg hc6 (hO4.row j hjc).low, ((hO4.ext hE45).put hjc (hbr.ext hE45) (fun k hk => (hEr k hk).ext hE45) (Ent.of hI5 (hEn j hjc).lb) hc6 hb6).congr fun x y _ _ => ?_⟩, by omega, rfl, trivial⟩, (by (repeat (first|exact aG _ _ _|refine aB rfl ?_|refine ax rfl ?_|refine av rfl ?_|refine aw rfl ?_)))⟩
   unfold setM
   by_cases h : x = j ∧ y = i
   ·rw [if_pos h, if_pos (by omega), h.1, h.2]
   ·rw [if_neg h]
    show _ = if y < i ∨ (y = i ∧ x < j) then F y x else 0
    by_cases h' : y < i ∨ (y = i ∧ x < j)
    ·rw [if_pos h', if_pos (by omega)]
    ·rw [if_neg h', if_neg (by omega)]
  ·have ejc : c = j := by omega
   subst ejc
   repeat' (first|refine bp rfl rfl (by omega) ?_|refine aj rfl ?_|refine aa ?_|refine ak ?_|refine ai rfl ?_|refine ah ?_|refine aV rfl rfl (by omega) (by omega) ?_|refine ao rfl ?_|refine aT ?_|refine aO ?_|refine aU ?_|refine aJ ?_)
   refine ⟨⟨i + 1, ⟨hir, hE4, hO4.congr fun x y hx _ => ?_⟩, by omega, rfl, trivial⟩, (by (repeat (first|exact aG _ _ _|refine aB rfl ?_|refine ax rfl ?_|refine av rfl ?_|refine aw rfl ?_)))⟩
   by_cases h : y < i + 1
   ·rw [if_pos h, if_pos (by omega)]
   ·rw [if_neg h, if_neg (by omega)]
 ·have eir : r = i := by omega
  subst eir
  repeat' (first|refine bp rfl rfl (by omega) ?_|refine aj rfl ?_|refine aa ?_|refine ak ?_|refine ai rfl ?_|refine ah ?_|refine ao rfl ?_|refine aT ?_|refine aO ?_|refine aU ?_|refine aK ?_)
  exact dw rfl (rt rfl) (rt rfl) ⟨_, rfl, g, gs, cp, rfl, hO3.congr fun x y _ hy => by rw [if_pos hy], hE3⟩
theorem p8 {c1 c2 : Bool} {K1 K2 n : Nat} {w : World} {s s' : SD} {f g : Nat → Int} (hX : RX c1 K1 w s n f) (hY : RX c2 K2 w s' n g) (hn : 1 ≤ n ∧ n ≤ 1000) (hK : K1 + K2 + 2 < 17592186044416) :
  CallsR Tryz.prog 122 #[.slice s.a s.len s.cap, .slice s'.a s'.len s'.cap] w (RetZ w (sm n fun k => f k * g k)) := by
 obtain ⟨p, d, hh, e1, e2, hp, hS, hEn⟩ := hX.get (by omega)
 obtain ⟨p', d', hh', e1', e2', hp', hS', hEn'⟩ := hY.get (by omega)
 subst e1 e1'
 show CallsR Tryz.prog 122 #[.slice p n d, .slice p' n d'] w _
 refine aE (args := [_, _]) Tryz.func122 rfl rfl ?_
 repeat' (first|refine aH (fun g4 w1 hn1 => tvv ?_)|refine aa ?_|refine ak ?_|refine ai rfl ?_|refine ah ?_)
 have hb1 : Blk w1 g4 34 (intL false none 0 0) := hn1.blk
 repeat' (first|refine da (cs := intL false none 0 0) rfl ?_)
 refine aH (fun g5 w2 hn2 => tvv ?_)
 have hb2 : Blk w2 g5 34 (intL false none 0 0) := hn2.blk
 refine aF (n := 2) (vs := ih0.cells) rfl rfl rfl rfl hb2 rfl (fun w3 hc3 hb3 => tvv ?_)
 have l1 := hn1.lo
 have l2 := hn2.lo
 have s1 := hn1.ex.size
 have lt1 := hb1.lt
 have hE3 : Ex w w3 := (hn1.ex.trans hn2.ex).chg hc3 (by omega)
 have hb13 := (hb1.ext hn2.ex).chg hc3 (by omega)
 have ls : ∀ m, m ≤ n → Lb (K1 + K2 + 1) (sm m fun k => f k * g k) := fun m hm => oz (fun i hi => (hEn i (by omega)).lb) (fun i hi => (hEn' i (by omega)).lb) (by omega)
 repeat' (first|refine aj rfl ?_|refine aa ?_|refine ak ?_|refine ai rfl ?_|refine ah ?_|refine bc rfl ?_|refine ay ?_)
 refine aW (ι := Nat × IH) [6, 10, 11, 12, 13, 14, 15, 16, 17, 18, 19, 20, 21, 22, 23, 24] (fun t => [(10, .int .i64 (t.1 : Int))])
  (fun t w' => t.1 ≤ n ∧ Ex w w' ∧ w1.heap.size ≤ w'.heap.size ∧ Blk w' g4 34 (intL false none 0 0) ∧ Blk w' g5 34 t.2.cells ∧ IntC w.heap.size w' t.2.val (sm t.1 fun k => f k * g k)) (fun t => n - t.1)
  (0, ih0) ⟨rfl, trivial⟩ ⟨by simp only; omega, hE3, by have := hn2.ex.size; have := hc3.size; omega, hb13, hb3, sS _ _⟩ ?_
 clear hb13 hb3 hE3
 rintro ⟨i, x⟩ ξ w4 ⟨hi, hE4, hs4, hb14, hb4, e4⟩
 simp only at hi hb4 e4
 show CW _ _ _ _ (over [(10, .int .i64 (i : Int))] _) w4
 rcases Nat.lt_or_ge i n with hin | hin
 ·repeat' (first|refine bq rfl rfl (by omega) ?_|refine aa ?_|refine ak ?_|refine ai rfl ?_|refine ah ?_|refine aA rfl ?_|refine aC ?_)
  refine ay ?_
  repeat' (first|refine aj rfl ?_|refine aa ?_|refine ak ?_|refine ai rfl ?_|refine ah ?_)
  refine bn (late := [11]) (plan := [(0, none), (1, none), (2, none), (3, none), (4, none), (5, none), (6, none), (7, none), (8, none), (9, some true), (10, some true), (11, some false)]) (fun w' => Ex w4 w') bD (by kernel_rfl) (Ex.refl w4).drew ?_
  have hEd := (Ex.refl w4).drew
  repeat' (first|refine aY (g := g5) rfl (fun _ h => hb4.ext h) rfl ?_|refine bE (j := i) (a := p) rfl rfl hp (by omega) ?_|refine bX (j := i) (a := p) rfl (fun _ h => hS.ext (hE4.trans h)) hp (by omega) ?_|refine bE (j := i) (a := p') rfl rfl hp' (by omega) ?_|refine bX (j := i) (a := p') rfl (fun _ h => hS'.ext (hE4.trans h)) hp' (by omega) ?_|refine aj rfl ?_)
  refine au (bt ((hEn i hin).ext (hE4.trans hEd)).k ((hEn' i hin).ext (hE4.trans hEd)).k (by omega)) rfl ?_
  rintro v w5 ⟨hI5, hE5⟩
  refine ⟨fun _ h => h.trans hE5, ?_⟩
  have hE45 := hEd.trans hE5
  have lp := (hEn i hin).lb.mul (hEn' i hin).lb
  skip
  refine au (cu ((e4.ext hE45).k (ls i hi)) (hI5.k lp) (by omega) (by omega)) rfl ?_
  rintro v w6 ⟨hI6, hE6⟩
  refine ⟨fun _ h => h.trans hE6, ?_⟩
  obtain ⟨u, rfl⟩ := hI6.ih
  have hE46 := hE45.trans hE6
  refine aF (n := 2) (vs := u.cells) rfl rfl rfl rfl (hb4.ext hE46) rfl (fun w7 hc7 hb7 => ⟨fun h => (nomatch h), ?_⟩)
  repeat' (first|refine aj rfl ?_|refine aa ?_|refine ai rfl ?_|refine ah ?_|refine aV rfl rfl (by omega) (by omega) ?_|refine aJ ?_)
  exact ⟨⟨(i + 1, u), ⟨hin, (hE4.trans hE46).chg hc7 (by omega), by have := hE46.size; have := hc7.size; omega, (hb14.ext hE46).chg hc7 (by omega), hb7, (hI6.mono (by have := hE4.size; have := hE45.size; omega)).gbN (hb4.ext hE46) (cg _ _ _ _) (dx hc7)⟩, by simp only; omega, rfl, trivial⟩, (by (repeat (first|exact aG _ _ _|refine aB rfl ?_|refine ax rfl ?_|refine av rfl ?_|refine aw rfl ?_)))⟩
 ·have ein : n = i := by omega
  subst ein
  repeat' (first|refine bp rfl rfl (by omega) ?_|refine aY (g := g5) rfl hb4 rfl ?_|refine aa ?_|refine ak ?_|refine ai rfl ?_|refine ah ?_|refine ao rfl ?_|refine aT ?_|refine aO ?_|refine aU ?_)
  refine aF (n := 2) (vs := x.cells) rfl rfl rfl rfl hb14 rfl (fun w5 hc5 hb5 => tvv ?_)
  repeat' (first|refine aa ?_|refine ah ?_|refine aK ?_)
  exact bo rfl (rc rfl rfl hb5) ⟨e4.gbN hb14 (cg _ _ _ _) (dx hc5), hE4.chg hc5 l1⟩
end Go.Proofs.YtpfhfldehaiokaaGreat
