import Derived.Test.YtiejljicpinheaaGreatA26
namespace Go.Proofs.YtiejljicpinheaaGreat
open Go.W Go.LM Go.LA
theorem kR {cn : Bool} {K r c cap : Nat} {w : World} {a : Option Addr} {s : Nat → SD} {F : Mat} (hM : MX cn K w a r c s F) (hr : 1 ≤ r ∧ r ≤ 16) (hc : 1 ≤ c ∧ c ≤ 16) :
  CallsR Tryz.prog 101 #[.slice a r cap] w fun v w' => v = (if r = c then .tuple #[.int .i64 (r : Int), .bool true] else .tuple #[.int .i64 0, .bool false]) ∧ Ex w w' := by
 refine aF (args := [_]) Tryz.func101 rfl rfl ?_
 repeat' (first|refine ai rfl ?_|refine aa ?_|refine aj ?_|refine ah rfl ?_|refine ae ?_)
 refine aw (cc hM.top) rfl ?_
 rintro v w1 ⟨rfl, hE1⟩
 refine ⟨fun _ _ => trivial, ?_⟩
 rw [cz hM hr hc]
 by_cases h : r = c
 ·repeat' (first|refine aK rfl rfl ?_|refine cN rfl rfl (by omega) ?_|refine ai rfl ?_|refine aa ?_|refine aj ?_|refine ah rfl ?_|refine ae ?_|refine bz rfl rfl ?_|refine au rfl ?_|refine aI ?_|refine aE ?_)
  exact cA rfl (rt rfl) (rt rfl) ⟨by rw [if_pos h]; rfl, hE1⟩
 ·repeat' (first|refine aK rfl rfl ?_|refine df rfl rfl (by omega) ?_|refine ai rfl ?_|refine aa ?_|refine aj ?_|refine ah rfl ?_|refine ae ?_|refine bz rfl rfl ?_|refine az rfl ?_|refine aI ?_|refine aU ?_)
  exact cA rfl (rt rfl) (rt rfl) ⟨by rw [if_neg h]; rfl, hE1⟩
set_option maxHeartbeats 1000000 in
theorem nG {cn : Bool} {K r c cap : Nat} {w : World} {a : Option Addr} {s : Nat → SD} {A : Mat} (hM : MX cn K w a r c s A) (hr : 1 ≤ r ∧ r ≤ 16) (hc : 1 ≤ c ∧ c ≤ 16) (hK : 16 * K + 17 ≤ 4398046511104) :
  CallsR Tryz.prog 60 #[.slice a r cap] w fun v w' => ∃ u : IH, v = .tuple #[u.val, .bool (decide (r = c))] ∧ Ent true (16 * K + 17) w' u.val (if r = c then det r A else 0) ∧ Ex w w' := by
 refine aF (args := [_]) Tryz.func60 rfl rfl ?_
 repeat' (first|refine aG (fun g1 w1 hn1 => ⟨fun _ _ => trivial, ?_⟩)|refine ai rfl ?_|refine aa ?_|refine aj ?_|refine ah rfl ?_|refine ae ?_)
 have hb1 : Blk w1 g1 43 (intL false none 0 0) := hn1.blk
 refine aw (kR (hM.ext hn1.ex) hr hc) rfl ?_
 rintro v w2 ⟨hv, hE2⟩
 refine ⟨fun _ _ => trivial, ?_⟩
 have hE02 := hn1.ex.trans hE2
 by_cases h : r = c
 ·subst h
  rw [if_pos rfl] at hv
  subst hv
  repeat' (first|refine aK rfl rfl ?_|refine ai rfl ?_|refine aa ?_|refine aj ?_|refine ah rfl ?_|refine ae ?_|refine au rfl ?_|refine aE ?_)
  refine aw (eI (hM.ext hE02) hr hK) rfl ?_
  rintro v w3 ⟨hI, hE3⟩
  refine ⟨fun _ _ => trivial, ?_⟩
  obtain ⟨u, rfl⟩ := hI.ih
  have hb3 := (hb1.ext hE2).ext hE3
  refine ax (n := 2) (vs := u.cells) rfl rfl rfl rfl hb3 rfl (fun w4 hc4 hb4 => ⟨fun _ _ => trivial, ?_⟩)
  repeat' (first|refine ai rfl ?_|refine aa ?_|refine ae ?_|refine aI ?_)
  exact cA rfl (rc rfl rfl hb4) (rt rfl) ⟨u, by rw [decide_eq_true (rfl : r = r)]; rfl, by rw [if_pos rfl]; exact hI.gbN hb3 (aB _ _ _ _) (bw hc4), (hE02.trans hE3).chg hc4 hn1.lo⟩
 ·rw [if_neg h] at hv
  subst hv
  repeat' (first|refine aK rfl rfl ?_|refine cf (cs := intL false none 0 0) rfl ?_|refine ai rfl ?_|refine aa ?_|refine aj ?_|refine ah rfl ?_|refine ae ?_|refine az rfl ?_)
  refine ax (n := 2) (vs := ih0.cells) rfl rfl rfl rfl (hb1.ext hE2) rfl (fun w4 hc4 hb4 => ⟨fun _ _ => trivial, ?_⟩)
  repeat' (first|refine ai rfl ?_|refine aa ?_|refine ae ?_|refine aI ?_|refine aU ?_)
  exact cA rfl (rc rfl rfl hb4) (rt rfl) ⟨ih0, by rw [decide_eq_false h]; rfl, by rw [if_neg h]; exact iv _, hE02.chg hc4 hn1.lo⟩
theorem pd {n : Nat} {A : Mat} : Uni n A ↔ (((det n A).natAbs : Nat) : Int) = 1 := by
 unfold Uni; constructor
 ·rintro (h | h) <;> rw [h] <;> rfl
 ·intro h; omega
set_option maxHeartbeats 1000000 in
theorem iz {cn : Bool} {K r c cap : Nat} {w : World} {a : Option Addr} {s : Nat → SD} {A : Mat} (hM : MX cn K w a r c s A) (hr : 1 ≤ r ∧ r ≤ 16) (hc : 1 ≤ c ∧ c ≤ 16) (hK : 16 * K + 17 ≤ 4398046511104) :
  CallsR Tryz.prog 17 #[.slice a r cap] w fun v w' => ∃ t : Bool, v = .bool t ∧ (t = true ↔ r = c ∧ Uni r A) ∧ Ex w w' := by
 refine aF (args := [_]) Tryz.func17 rfl rfl ?_
 repeat' (first|refine ai rfl ?_|refine aa ?_|refine aj ?_|refine ah rfl ?_|refine ae ?_)
 refine aw (nG hM hr hc hK) rfl ?_
 rintro v w1 ⟨u, rfl, hu, hE1⟩
 refine ⟨fun _ _ => trivial, ?_⟩
 repeat' (first|refine aK rfl rfl ?_|refine ai rfl ?_)
 refine aG (fun g3 w2 hn2 => ⟨fun _ _ => trivial, ?_⟩)
 have hb2 : Blk w2 g3 43 (intL false none 0 0) := hn2.blk
 refine ax (n := 2) (vs := u.cells) rfl rfl rfl rfl hb2 rfl (fun w3 hc3 hb3 => ⟨fun _ _ => trivial, ?_⟩)
 have hE3 : Ex w w3 := (hE1.trans hn2.ex).chg hc3 (by have := hn2.lo; have := hE1.size; omega)
 have hu3 := (hu.ext hn2.ex).gbN hb2 (aB _ _ _ _) (bw hc3)
 by_cases h : r = c
 ·rw [if_pos h] at hu3
  rw [decide_eq_true h]
  repeat' (first|refine aR (g := g3) rfl hb3 rfl ?_|refine ai rfl ?_|refine aa ?_|refine aj ?_|refine ah rfl ?_|refine ae ?_|refine bz rfl rfl ?_)
  refine aw (iR hu3.k) rfl ?_
  rintro v w4 ⟨hI4, hE4⟩
  refine ⟨fun _ _ => trivial, ?_⟩
  repeat' (first|refine bz rfl rfl ?_)
  refine aw (cT (z := 1) (by omega) (by omega) _) rfl ?_
  rintro v w5 ⟨hI5, hE5⟩
  refine ⟨fun _ _ => trivial, ?_⟩
  repeat' (first|refine bz rfl rfl ?_)
  refine aw (eM ((hI4.ext hE5).k (k := 16 * K + 17) (by
   have := hu3.lb
   unfold Lb at this; simpa using this)) (hI5.k (k := 1) (by decide))) rfl ?_
  rintro v w6 ⟨rfl, hE6⟩
  refine ⟨fun _ _ => trivial, ?_⟩
  by_cases hU : Uni r A
  ·repeat' (first|refine eF rfl rfl (sign_zero.2 (pd.1 hU)) ?_|refine ai rfl ?_|refine aa ?_|refine ae ?_|refine bz rfl rfl ?_|refine aI ?_)
   exact bx rfl (rt rfl) ⟨true, rfl, ⟨fun _ => ⟨h, hU⟩, fun _ => rfl⟩, ((hE3.trans hE4).trans hE5).trans hE6⟩
  ·repeat' (first|refine dU rfl rfl (fun e => hU (pd.2 (sign_zero.1 e))) ?_|refine ai rfl ?_|refine aa ?_|refine ae ?_|refine bz rfl rfl ?_|refine aI ?_)
   exact bx rfl (rt rfl) ⟨false, rfl, ⟨fun h => (nomatch h), fun h => absurd h.2 hU⟩, ((hE3.trans hE4).trans hE5).trans hE6⟩
 ·rw [decide_eq_false h]
  repeat' (first|refine ai rfl ?_|refine aa ?_|refine aj ?_|refine ah rfl ?_|refine ae ?_|refine bK rfl rfl ?_|refine aI ?_)
  exact bx rfl (rt rfl) ⟨false, rfl, ⟨fun h => (nomatch h), fun h' => absurd h'.1 h⟩, hE3⟩
end Go.Proofs.YtiejljicpinheaaGreat
namespace Go.Proofs.YtiejljicpinheaaGreat
open Go.W Go.LM Go.LA
abbrev prL (g r g' c : Nat) : List Value := [.slice (some ⟨g, 0, none⟩) r r, .slice (some ⟨g', 0, none⟩) c c]
structure PR (K : Nat) (w : World) (lo gp r c g g' : Nat) (gs cp gs' cp' : Nat → Nat) (H U : Mat) : Prop where
 blk : Blk w gp 82 (prL g r g' c)
 h : MO true K w lo g r c gs cp H
 u : MO true K w lo g' c c gs' cp' U
 hp : ∀ i, i < r → gs i ≠ gp
 up : ∀ i, i < c → gs' i ≠ gp
 hu : ∀ i, i < r → gs i ≠ g'
 uh : ∀ i, i < c → gs' i ≠ g
 rr : ∀ i j, i < r → j < c → gs i ≠ gs' j
section
variable {K lo gp r c g g' : Nat} {w w' : World} {gs cp gs' cp' : Nat → Nat} {H U H' U' : Mat}
theorem PR.ext (h : PR K w lo gp r c g g' gs cp gs' cp' H U) (e : Ex w w') : PR K w' lo gp r c g g' gs cp gs' cp' H U := ⟨h.blk.ext e, h.h.ext e, h.u.ext e, h.hp, h.up, h.hu, h.uh, h.rr⟩
theorem PR.congr (h : PR K w lo gp r c g g' gs cp gs' cp' H U) (e : ∀ i j, i < r → j < c → H' i j = H i j) (e' : ∀ i j, i < c → j < c → U' i j = U i j) : PR K w lo gp r c g g' gs cp gs' cp' H' U' := ⟨h.blk, h.h.congr e, h.u.congr e', h.hp, h.up, h.hu, h.uh, h.rr⟩
theorem PR.putH {i j : Nat} {hh : Nat → IH} {x : IH} {z : Int} (h : PR K w lo gp r c g g' gs cp gs' cp' H U) (hi : i < r) (hb : Blk w (gs i) 43 (rowC (cp i) hh)) (he : ∀ j, j < c → Ent true K w (hh j).val (H i j)) (hx : Ent true K w x.val z)
  (hg : Chg (gs i) w w') (hb' : Blk w' (gs i) 43 (rowC (cp i) (setF hh j x))) : PR K w' lo gp r c g g' gs cp gs' cp' (setM H i j z) U :=
 ⟨h.blk.chg hg (Ne.symm (h.hp i hi)), h.h.put hi hb he hx hg hb', h.u.gbN hb (bE _ _) (bw hg) (Ne.symm (h.hu i hi)) (fun k hk => Ne.symm (h.rr i k hi hk)), h.hp, h.up, h.hu, h.uh, h.rr⟩
theorem PR.putU {i j : Nat} {hh : Nat → IH} {x : IH} {z : Int} (h : PR K w lo gp r c g g' gs cp gs' cp' H U) (hi : i < c) (hb : Blk w (gs' i) 43 (rowC (cp' i) hh)) (he : ∀ j, j < c → Ent true K w (hh j).val (U i j)) (hx : Ent true K w x.val z)
  (hg : Chg (gs' i) w w') (hb' : Blk w' (gs' i) 43 (rowC (cp' i) (setF hh j x))) : PR K w' lo gp r c g g' gs cp gs' cp' H (setM U i j z) :=
 ⟨h.blk.chg hg (Ne.symm (h.up i hi)), h.h.gbN hb (bE _ _) (bw hg) (Ne.symm (h.uh i hi)) (fun k hk => h.rr k i hk hi), h.u.put hi hb he hx hg hb', h.hp, h.up, h.hu, h.uh, h.rr⟩
end
theorem lW (M : Mat) (t p q a b : Nat) : (if a < t + 1 then cswp M p q a b else M a b) = setM (setM (fun a b => if a < t then cswp M p q a b else M a b) t p (M t q)) t q (M t p) a b := by
 by_cases h1 : a = t
 ·subst h1
  by_cases h2 : b = q
  ·subst h2
   by_cases h3 : b = p
   ·subst h3; simp [setM, cswp]
   ·simp [setM, cswp, h3]
  ·by_cases h3 : b = p
   ·subst h3; simp [setM, cswp, h2]
   ·simp [setM, cswp, h2, h3]
 ·by_cases h2 : a < t
  ·have h4 : a < t + 1 := by omega
   simp [setM, h1, h2, h4]
  ·have h4 : ¬ a < t + 1 := by omega
   simp [setM, h1, h2, h4]
theorem ib (M N : Mat) (t p a b : Nat) (hN : ∀ b, b ≠ p → N t b = M t b) : (if a < t + 1 then N a b else M a b) = setM (fun a b => if a < t then N a b else M a b) t p (N t p) a b := by
 by_cases h1 : a = t
 ·subst h1
  by_cases h3 : b = p
  ·subst h3; simp [setM]
  ·simp [setM, h3, hN b h3]
 ·by_cases h2 : a < t
  ·have h4 : a < t + 1 := by omega
   simp [setM, h1, h2, h4]
  ·have h4 : ¬ a < t + 1 := by omega
   simp [setM, h1, h2, h4]
set_option maxHeartbeats 4000000 in
theorem kS {K lo gp r c g g' p q : Nat} {w : World} {gs cp gs' cp' : Nat → Nat} {H U : Mat} (hP : PR K w lo gp r c g g' gs cp gs' cp' H U) (hr : r ≤ 1000) (hc : c ≤ 1000) (_hK : K < 17592186044415) (hp : p < c) (hq : q < c) :
  CallsR Tryz.prog 98 #[.pointer (some ⟨gp, 0, none⟩), .int .i64 (p : Int), .int .i64 (q : Int)] w fun _ w' => PR K w' lo gp r c g g' gs cp gs' cp' (cswp H p q) (cswp U p q) ∧ (∀ w0 : World, Ex w0 w → w0.heap.size ≤ lo → Ex w0 w') ∧ w.heap.size ≤ w'.heap.size := by
 refine aF (args := [_, _, _]) Tryz.func98 rfl rfl ?_
 repeat' (first|refine aW (g := gp) (cs := prL g r g' c) rfl hP.blk rfl ?_|refine ai rfl ?_|refine aa ?_|refine aj ?_|refine ah rfl ?_|refine ae ?_|refine aZ rfl ?_|refine aN rfl ?_|refine aA ?_)
 refine aY (ι := Nat) [6, 13, 14, 15, 16, 17, 18, 19, 20, 21, 22, 23, 24, 25, 26, 27, 28, 29, 30, 31, 32, 33, 34, 35, 36, 37, 38, 39, 40, 41, 42, 43, 44, 45, 46, 47, 48, 49, 50, 51, 52, 53, 54] (fun t => [(13, .int .i64 (t : Int))])
  (fun t w' => t ≤ r ∧ (((∀ w0 : World, Ex w0 w → w0.heap.size ≤ lo → Ex w0 w')) ∧ w.heap.size ≤ w'.heap.size) ∧ PR K w' lo gp r c g g' gs cp gs' cp' (fun a b => if a < t then (cswp H p q) a b else H a b) U) (fun t => r - t)
  0 ⟨rfl, trivial⟩ ⟨by omega, ⟨fun w0 e _ => e, Nat.le_refl _⟩, hP.congr (fun a b _ _ => if_neg (by omega)) (fun _ _ _ _ => rfl)⟩ ?_
 clear hP
 rintro t ξ0 w2 ⟨ht, hF, hP⟩
 show CW _ _ _ _ (over [(13, .int .i64 (t : Int))] _) w2
 rcases Nat.lt_or_ge t r with htn | htn
 ·obtain ⟨hh, hbr, hcr, hEr⟩ := hP.h.get htn
  simp only [Nat.lt_irrefl, if_false] at hEr
  repeat' (first|refine bu rfl rfl (by omega) ?_|refine aa ?_|refine aj ?_|refine ah rfl ?_|refine ae ?_|refine az rfl ?_|refine aE ?_)
  refine aA ?_
  repeat' (first|refine ai rfl ?_|refine aa ?_|refine aj ?_|refine ah rfl ?_|refine ae ?_)
  refine bi (late := [37, 39]) (plan := [(0, none), (1, none), (2, none), (3, none), (4, none), (5, none), (6, none), (7, none), (8, none), (9, none), (10, none), (11, none), (12, none), (13, none), (14, none), (15, none), (16, none), (17, none), (18, none), (19, none), (20, none), (21, none), (22, none), (23, none), (24, none), (25, none), (26, none), (27, none), (28, none), (29, none), (30, none), (31, none), (32, none), (33, none), (34, none), (35, none), (36, none), (37, some false), (38, none), (39, some false)]) (fun w' => Ex w2 w') bA (by kernel_rfl) (Ex.refl w2).drew ?_
  have hEd := (Ex.refl w2).drew
  repeat' (first|refine aW (g := gp) (cs := prL g r g' c) rfl (fun _ h => hP.blk.ext h) rfl ?_|refine aD (j := t) (a := some ⟨g, 0, none⟩) rfl rfl ⟨_, _, rfl⟩ (by omega) ?_|refine aV (j := t) (a := some ⟨g, 0, none⟩) (n := r) (s := fun k => ⟨some ⟨gs k, 0, none⟩, c, cp k⟩) rfl (fun _ h => (hP.h.ext h).top.sl) (by omega) rfl ?_|refine aT (j := q) (a := some ⟨gs t, 0, none⟩) rfl rfl ⟨_, _, rfl⟩ (by omega) ?_|refine bo (j := q) (n := cp t) (a := some ⟨gs t, 0, none⟩) rfl (fun _ h => (hbr.ext h).sl) ⟨_, _, rfl⟩ (by omega) ?_|refine aT (j := p) (a := some ⟨gs t, 0, none⟩) rfl rfl ⟨_, _, rfl⟩ (by omega) ?_|refine bo (j := p) (n := cp t) (a := some ⟨gs t, 0, none⟩) rfl (fun _ h => (hbr.ext h).sl) ⟨_, _, rfl⟩ (by omega) ?_|refine ai rfl ?_|refine aN rfl ?_)
  refine bR (j := p) (n := cp t) (u := hh q) rfl rfl (hbr.ext hEd) (by omega) (fun w3 hc3 hb3 => ⟨fun h => (nomatch h), ?_⟩)
  have hP3 := (hP.ext hEd).putH htn (hbr.ext hEd) (fun j hj => by simp only [Nat.lt_irrefl, if_false]; exact (hEr j hj).ext hEd) ((hEr q hq).ext hEd) hc3 hb3
  repeat' (first|refine aT (j := q) (a := some ⟨gs t, 0, none⟩) rfl rfl ⟨_, _, rfl⟩ (by omega) ?_)
  refine bR (j := q) (n := cp t) (u := hh p) rfl rfl hb3 (by omega) (fun w4 hc4 hb4 => ⟨fun h => (nomatch h), ?_⟩)
  have hP4 := hP3.putH (j := q) (x := hh p) (z := H t p) htn hb3 (fun j hj => by
   unfold setM setF
   by_cases e : j = p
   ·subst e; rw [if_pos rfl, if_pos ⟨rfl, rfl⟩]; exact ((hEr q hq).ext hEd).gbN (hbr.ext hEd) (bE _ _) (bw hc3)
   ·rw [if_neg e, if_neg (fun h => e h.2)]; simp only [Nat.lt_irrefl, if_false]; exact ((hEr j hj).ext hEd).gbN (hbr.ext hEd) (bE _ _) (bw hc3))
   (((hEr p hp).ext hEd).gbN (hbr.ext hEd) (bE _ _) (bw hc3)) hc4 hb4
  repeat' (first|refine ai rfl ?_|refine aa ?_|refine ah rfl ?_|refine ae ?_|refine bc rfl rfl (by omega) (by omega) ?_|refine aL ?_)
  refine ⟨⟨t + 1, ⟨htn, ⟨(fun w0 e hl => (((hF.1 w0 e hl).trans hEd).chg hc3 (Nat.le_trans hl (hP.h.row t htn).low)).chg hc4 (Nat.le_trans hl (hP.h.row t htn).low)), (by have := hF.2; have := hEd.size; have := hc3.size; have := hc4.size; omega)⟩, hP4.congr (fun a b _ _ => ?_) (fun _ _ _ _ => rfl)⟩, by omega, rfl, trivial⟩, (by (repeat (first|exact aH _ _ _|refine ay rfl ?_|refine av rfl ?_|refine ak rfl ?_|refine ao rfl ?_)))⟩
  exact lW H t p q a b
 ·have etn : r = t := by omega
  subst etn
  replace hP := hP.congr (H' := cswp H p q) (U' := U) (fun a b ha _ => by rw [if_pos ha]) (fun _ _ _ _ => rfl)
  repeat' (first|refine bj rfl rfl (by omega) ?_|refine aW (g := gp) (cs := prL g r g' c) rfl hP.blk rfl ?_|refine ai rfl ?_|refine aa ?_|refine aj ?_|refine ah rfl ?_|refine ae ?_|refine aZ rfl ?_|refine aN rfl ?_|refine au rfl ?_|refine aA ?_|refine aP ?_|refine aJ ?_|refine aQ ?_)
  refine aY (ι := Nat) [7, 60, 61, 62, 63, 64, 65, 66, 67, 68, 69, 70, 71, 72, 73, 74, 75, 76, 77, 78, 79, 80, 81, 82, 83, 84, 85, 86, 87, 88, 89, 90, 91, 92, 93, 94, 95, 96, 97, 98, 99, 100, 101] (fun t => [(60, .int .i64 (t : Int))])
   (fun t w' => t ≤ c ∧ (((∀ w0 : World, Ex w0 w → w0.heap.size ≤ lo → Ex w0 w')) ∧ w.heap.size ≤ w'.heap.size) ∧ PR K w' lo gp r c g g' gs cp gs' cp' (cswp H p q) (fun a b => if a < t then (cswp U p q) a b else U a b)) (fun t => c - t)
   0 ⟨rfl, trivial⟩ ⟨by omega, hF, hP.congr (fun _ _ _ _ => rfl) (fun a b _ _ => if_neg (by omega))⟩ ?_
  clear hP hF
  rintro t ξ1 w2 ⟨ht, hF, hP⟩
  show CW _ _ _ _ (over [(60, .int .i64 (t : Int))] _) w2
  rcases Nat.lt_or_ge t c with htn | htn
  ·obtain ⟨hh, hbr, hcr, hEr⟩ := hP.u.get htn
   simp only [Nat.lt_irrefl, if_false] at hEr
   repeat' (first|refine bu rfl rfl (by omega) ?_|refine aa ?_|refine aj ?_|refine ah rfl ?_|refine ae ?_|refine az rfl ?_|refine aE ?_)
   refine aA ?_
   repeat' (first|refine ai rfl ?_|refine aa ?_|refine aj ?_|refine ah rfl ?_|refine ae ?_)
   refine bi (late := [37, 39]) (plan := [(0, none), (1, none), (2, none), (3, none), (4, none), (5, none), (6, none), (7, none), (8, none), (9, none), (10, none), (11, none), (12, none), (13, none), (14, none), (15, none), (16, none), (17, none), (18, none), (19, none), (20, none), (21, none), (22, none), (23, none), (24, none), (25, none), (26, none), (27, none), (28, none), (29, none), (30, none), (31, none), (32, none), (33, none), (34, none), (35, none), (36, none), (37, some false), (38, none), (39, some false)]) (fun w' => Ex w2 w') bA (by kernel_rfl) (Ex.refl w2).drew ?_
   have hEd := (Ex.refl w2).drew
   repeat' (first|refine aW (g := gp) (cs := prL g r g' c) rfl (fun _ h => hP.blk.ext h) rfl ?_|refine aD (j := t) (a := some ⟨g', 0, none⟩) rfl rfl ⟨_, _, rfl⟩ (by omega) ?_|refine aV (j := t) (a := some ⟨g', 0, none⟩) (n := c) (s := fun k => ⟨some ⟨gs' k, 0, none⟩, c, cp' k⟩) rfl (fun _ h => (hP.u.ext h).top.sl) (by omega) rfl ?_|refine aT (j := q) (a := some ⟨gs' t, 0, none⟩) rfl rfl ⟨_, _, rfl⟩ (by omega) ?_|refine bo (j := q) (n := cp' t) (a := some ⟨gs' t, 0, none⟩) rfl (fun _ h => (hbr.ext h).sl) ⟨_, _, rfl⟩ (by omega) ?_|refine aT (j := p) (a := some ⟨gs' t, 0, none⟩) rfl rfl ⟨_, _, rfl⟩ (by omega) ?_|refine bo (j := p) (n := cp' t) (a := some ⟨gs' t, 0, none⟩) rfl (fun _ h => (hbr.ext h).sl) ⟨_, _, rfl⟩ (by omega) ?_|refine ai rfl ?_|refine aN rfl ?_)
   refine bR (j := p) (n := cp' t) (u := hh q) rfl rfl (hbr.ext hEd) (by omega) (fun w3 hc3 hb3 => ⟨fun h => (nomatch h), ?_⟩)
   have hP3 := (hP.ext hEd).putU htn (hbr.ext hEd) (fun j hj => by simp only [Nat.lt_irrefl, if_false]; exact (hEr j hj).ext hEd) ((hEr q hq).ext hEd) hc3 hb3
   repeat' (first|refine aT (j := q) (a := some ⟨gs' t, 0, none⟩) rfl rfl ⟨_, _, rfl⟩ (by omega) ?_)
   refine bR (j := q) (n := cp' t) (u := hh p) rfl rfl hb3 (by omega) (fun w4 hc4 hb4 => ⟨fun h => (nomatch h), ?_⟩)
   have hP4 := hP3.putU (j := q) (x := hh p) (z := U t p) htn hb3 (fun j hj => by
    unfold setM setF
    by_cases e : j = p
    ·subst e; rw [if_pos rfl, if_pos ⟨rfl, rfl⟩]; exact ((hEr q hq).ext hEd).gbN (hbr.ext hEd) (bE _ _) (bw hc3)
    ·rw [if_neg e, if_neg (fun h => e h.2)]; simp only [Nat.lt_irrefl, if_false]; exact ((hEr j hj).ext hEd).gbN (hbr.ext hEd) (bE _ _) (bw hc3))
    (((hEr p hp).ext hEd).gbN (hbr.ext hEd) (bE _ _) (bw hc3)) hc4 hb4
   repeat' (first|refine ai rfl ?_|refine aa ?_|refine ah rfl ?_|refine ae ?_|refine bc rfl rfl (by omega) (by omega) ?_|refine aL ?_)
   refine ⟨⟨t + 1, ⟨htn, ⟨(fun w0 e hl => (((hF.1 w0 e hl).trans hEd).chg hc3 (Nat.le_trans hl (hP.u.row t htn).low)).chg hc4 (Nat.le_trans hl (hP.u.row t htn).low)), (by have := hF.2; have := hEd.size; have := hc3.size; have := hc4.size; omega)⟩, hP4.congr (fun _ _ _ _ => rfl) (fun a b _ _ => ?_)⟩, by omega, rfl, trivial⟩, (by (repeat (first|exact aH _ _ _|refine ay rfl ?_|refine av rfl ?_|refine ak rfl ?_|refine ao rfl ?_)))⟩
   exact lW U t p q a b
  ·have etn : c = t := by omega
   subst etn
   replace hP := hP.congr (H' := cswp H p q) (U' := cswp U p q) (fun _ _ _ _ => rfl) (fun a b ha _ => by rw [if_pos ha])
   repeat' (first|refine bj rfl rfl (by omega) ?_|refine aa ?_|refine aj ?_|refine ah rfl ?_|refine ae ?_|refine au rfl ?_|refine aP ?_|refine aJ ?_|refine aQ ?_)
   exact jG rfl ⟨hP, hF.1, hF.2⟩
set_option maxHeartbeats 4000000 in
theorem fg {K lo gp r c g g' p q : Nat} {w : World} {gs cp gs' cp' : Nat → Nat} {H U : Mat} (hP : PR K w lo gp r c g g' gs cp gs' cp' H U) (hr : r ≤ 1000) (hc : c ≤ 1000) (hK : K < 17592186044415) (hp : p < c) (hq : q < c) (_hpq : p ≠ q) {vx : Value} {f : Int} {Kf : Nat} (hx : Ent true Kf w vx f) (hKf : Kf + K < 17592186044415) (hlH : ∀ i, i < r → Lb K (H i p - f * H i q)) (hlU : ∀ i, i < c → Lb K (U i p - f * U i q)) :
  CallsR Tryz.prog 57 #[.pointer (some ⟨gp, 0, none⟩), .int .i64 (p : Int), .int .i64 (q : Int), vx] w fun _ w' => PR K w' lo gp r c g g' gs cp gs' cp' (cadd H p q (-f)) (cadd U p q (-f)) ∧ (∀ w0 : World, Ex w0 w → w0.heap.size ≤ lo → Ex w0 w') ∧ w.heap.size ≤ w'.heap.size := by
 obtain ⟨xf, rfl⟩ := hx.ih
 refine aF (args := [_, _, _, _]) Tryz.func57 rfl rfl ?_
 refine aj ?_
 refine ah rfl ?_
 refine bH (vs := xf.cells) rfl (fun g7 w1 hn1 => ⟨fun _ _ => trivial, ?_⟩)
 have hb7 := hn1.blk
 have lt7 := hn1.lo
 have hP1 := hP.ext hn1.ex
 have hx1 := hx.ext hn1.ex
 have h7s : ∀ i, i < r → gs i ≠ g7 := fun i hi => by have := (hP.h.row i hi).lt; omega
 have h7s' : ∀ i, i < c → gs' i ≠ g7 := fun i hi => by have := (hP.u.row i hi).lt; omega
 have hE1 := hn1.ex
 replace hP := hP1
 clear hP1
 repeat' (first|refine aW (g := gp) (cs := prL g r g' c) rfl hP.blk rfl ?_|refine ai rfl ?_|refine aa ?_|refine aj ?_|refine ah rfl ?_|refine ae ?_|refine aZ rfl ?_|refine aN rfl ?_|refine aA ?_)
 refine aY (ι := Nat) [8, 15, 16, 17, 18, 19, 20, 21, 22, 23, 24, 25, 26, 27, 28, 29, 30, 31, 32, 33, 34, 35, 36, 37, 38, 39, 40, 41, 42, 43, 44, 45, 46, 47, 48, 49, 50] (fun t => [(15, .int .i64 (t : Int))])
  (fun t w' => t ≤ r ∧ (((∀ w0 : World, Ex w0 w → w0.heap.size ≤ lo → Ex w0 w')) ∧ w.heap.size ≤ w'.heap.size) ∧ PR K w' lo gp r c g g' gs cp gs' cp' (fun a b => if a < t then (cadd H p q (-f)) a b else H a b) U ∧ Blk w' g7 43 xf.cells ∧ Ent true Kf w' xf.val f) (fun t => r - t)
  0 ⟨rfl, trivial⟩ ⟨by omega, ⟨fun w0 e _ => e.trans hE1, hE1.size⟩, hP.congr (fun a b _ _ => if_neg (by omega)) (fun _ _ _ _ => rfl), hb7, hx1⟩ ?_
 clear hP hb7 hx1
 rintro t ξ0 w2 ⟨ht, hF, hP, hb7, hx⟩
 show CW _ _ _ _ (over [(15, .int .i64 (t : Int))] _) w2
 rcases Nat.lt_or_ge t r with htn | htn
 ·obtain ⟨hh, hbr, hcr, hEr⟩ := hP.h.get htn
  simp only [Nat.lt_irrefl, if_false] at hEr
  repeat' (first|refine bu rfl rfl (by omega) ?_|refine aa ?_|refine aj ?_|refine ah rfl ?_|refine ae ?_|refine az rfl ?_|refine aE ?_)
  refine aA ?_
  repeat' (first|refine ai rfl ?_|refine aa ?_|refine aj ?_|refine ah rfl ?_|refine ae ?_)
  refine bi (late := [32]) (plan := [(0, none), (1, none), (2, none), (3, none), (4, none), (5, none), (6, none), (7, none), (8, none), (9, none), (10, none), (11, none), (12, none), (13, none), (14, none), (15, none), (16, none), (17, none), (18, none), (19, none), (20, none), (21, none), (22, none), (23, none), (24, none), (25, none), (26, none), (27, none), (28, none), (29, some true), (30, some true), (31, none), (32, some false)]) (fun w' => Ex w2 w') bA (by kernel_rfl) (Ex.refl w2).drew ?_
  have hEd := (Ex.refl w2).drew
  repeat' (first|refine aW (g := gp) (cs := prL g r g' c) rfl (fun _ h => hP.blk.ext h) rfl ?_|refine aD (j := t) (a := some ⟨g, 0, none⟩) rfl rfl ⟨_, _, rfl⟩ (by omega) ?_|refine aV (j := t) (a := some ⟨g, 0, none⟩) (n := r) (s := fun k => ⟨some ⟨gs k, 0, none⟩, c, cp k⟩) rfl (fun _ h => (hP.h.ext h).top.sl) (by omega) rfl ?_|refine aT (j := q) (a := some ⟨gs t, 0, none⟩) rfl rfl ⟨_, _, rfl⟩ (by omega) ?_|refine bo (j := q) (n := cp t) (a := some ⟨gs t, 0, none⟩) rfl (fun _ h => (hbr.ext h).sl) ⟨_, _, rfl⟩ (by omega) ?_|refine aT (j := p) (a := some ⟨gs t, 0, none⟩) rfl rfl ⟨_, _, rfl⟩ (by omega) ?_|refine bo (j := p) (n := cp t) (a := some ⟨gs t, 0, none⟩) rfl (fun _ h => (hbr.ext h).sl) ⟨_, _, rfl⟩ (by omega) ?_|refine aR (g := g7) rfl (fun _ h => hb7.ext h) rfl ?_|refine ai rfl ?_|refine aN rfl ?_)
  have hKf' : Kf + K + 1 < 17592186044416 := by omega
  refine aw (dG (hx.ext hEd).k ((hEr q hq).ext hEd).k (by omega)) rfl ?_
  rintro v w3 ⟨hI3, hE3⟩
  refine ⟨fun _ h => h.trans hE3, ?_⟩
  have hE23 := hEd.trans hE3
  skip
  refine aw (ew ((hEr p hp).ext hE23).k (hI3.k (hx.lb.mul (hEr q hq).lb)) (by omega) (by omega)) rfl ?_
  rintro v w4 ⟨hI4, hE4⟩
  refine ⟨fun _ h => h.trans hE4, ?_⟩
  obtain ⟨y, rfl⟩ := hI4.ih
  have hE24 := hE23.trans hE4
  repeat' (first|refine aT (j := p) (a := some ⟨gs t, 0, none⟩) rfl rfl ⟨_, _, rfl⟩ (by omega) ?_)
  refine bR (j := p) (n := cp t) (u := y) rfl rfl (hbr.ext hE24) (by omega) (fun w5 hc5 hb5 => ⟨fun h => (nomatch h), ?_⟩)
  have hP4 := (hP.ext hE24).putH htn (hbr.ext hE24) (fun j hj => by simp only [Nat.lt_irrefl, if_false]; exact (hEr j hj).ext hE24) (Ent.of hI4 (hlH t htn)) hc5 hb5
  repeat' (first|refine ai rfl ?_|refine aa ?_|refine ah rfl ?_|refine ae ?_|refine bc rfl rfl (by omega) (by omega) ?_|refine aL ?_)
  refine ⟨⟨t + 1, ⟨htn, ⟨(fun w0 e hl => ((hF.1 w0 e hl).trans hE24).chg hc5 (Nat.le_trans hl (hP.h.row t htn).low)), (by have := hF.2; have := hE24.size; have := hc5.size; omega)⟩, hP4.congr (fun a b _ _ => ?_) (fun _ _ _ _ => rfl), (hb7.ext hE24).chg hc5 (Ne.symm (h7s t htn)), (hx.ext hE24).gbN (hbr.ext hE24) (bE _ _) (bw hc5)⟩, by omega, rfl, trivial⟩, (by (repeat (first|exact aH _ _ _|refine ay rfl ?_|refine av rfl ?_|refine ak rfl ?_|refine ao rfl ?_)))⟩
  rw [ib H (cadd H p q (-f)) t p a b (fun b hb => if_neg hb), show cadd H p q (-f) t p = H t p - f * H t q by unfold cadd; rw [if_pos rfl, Int.neg_mul, ← Int.sub_eq_add_neg]]
 ·have etn : r = t := by omega
  subst etn
  replace hP := hP.congr (H' := cadd H p q (-f)) (U' := U) (fun a b ha _ => by rw [if_pos ha]) (fun _ _ _ _ => rfl)
  repeat' (first|refine bj rfl rfl (by omega) ?_|refine aW (g := gp) (cs := prL g r g' c) rfl hP.blk rfl ?_|refine ai rfl ?_|refine aa ?_|refine aj ?_|refine ah rfl ?_|refine ae ?_|refine aZ rfl ?_|refine aN rfl ?_|refine au rfl ?_|refine aA ?_|refine aP ?_|refine aJ ?_|refine aQ ?_)
  refine aY (ι := Nat) [9, 56, 57, 58, 59, 60, 61, 62, 63, 64, 65, 66, 67, 68, 69, 70, 71, 72, 73, 74, 75, 76, 77, 78, 79, 80, 81, 82, 83, 84, 85, 86, 87, 88, 89, 90, 91] (fun t => [(56, .int .i64 (t : Int))])
   (fun t w' => t ≤ c ∧ (((∀ w0 : World, Ex w0 w → w0.heap.size ≤ lo → Ex w0 w')) ∧ w.heap.size ≤ w'.heap.size) ∧ PR K w' lo gp r c g g' gs cp gs' cp' (cadd H p q (-f)) (fun a b => if a < t then (cadd U p q (-f)) a b else U a b) ∧ Blk w' g7 43 xf.cells ∧ Ent true Kf w' xf.val f) (fun t => c - t)
   0 ⟨rfl, trivial⟩ ⟨by omega, hF, hP.congr (fun _ _ _ _ => rfl) (fun a b _ _ => if_neg (by omega)), hb7, hx⟩ ?_
  clear hP hb7 hx hF
  rintro t ξ1 w2 ⟨ht, hF, hP, hb7, hx⟩
  show CW _ _ _ _ (over [(56, .int .i64 (t : Int))] _) w2
  rcases Nat.lt_or_ge t c with htn | htn
  ·obtain ⟨hh, hbr, hcr, hEr⟩ := hP.u.get htn
   simp only [Nat.lt_irrefl, if_false] at hEr
   repeat' (first|refine bu rfl rfl (by omega) ?_|refine aa ?_|refine aj ?_|refine ah rfl ?_|refine ae ?_|refine az rfl ?_|refine aE ?_)
   refine aA ?_
   repeat' (first|refine ai rfl ?_|refine aa ?_|refine aj ?_|refine ah rfl ?_|refine ae ?_)
   refine bi (late := [32]) (plan := [(0, none), (1, none), (2, none), (3, none), (4, none), (5, none), (6, none), (7, none), (8, none), (9, none), (10, none), (11, none), (12, none), (13, none), (14, none), (15, none), (16, none), (17, none), (18, none), (19, none), (20, none), (21, none), (22, none), (23, none), (24, none), (25, none), (26, none), (27, none), (28, none), (29, some true), (30, some true), (31, none), (32, some false)]) (fun w' => Ex w2 w') bA (by kernel_rfl) (Ex.refl w2).drew ?_
   have hEd := (Ex.refl w2).drew
   repeat' (first|refine aW (g := gp) (cs := prL g r g' c) rfl (fun _ h => hP.blk.ext h) rfl ?_|refine aD (j := t) (a := some ⟨g', 0, none⟩) rfl rfl ⟨_, _, rfl⟩ (by omega) ?_|refine aV (j := t) (a := some ⟨g', 0, none⟩) (n := c) (s := fun k => ⟨some ⟨gs' k, 0, none⟩, c, cp' k⟩) rfl (fun _ h => (hP.u.ext h).top.sl) (by omega) rfl ?_|refine aT (j := q) (a := some ⟨gs' t, 0, none⟩) rfl rfl ⟨_, _, rfl⟩ (by omega) ?_|refine bo (j := q) (n := cp' t) (a := some ⟨gs' t, 0, none⟩) rfl (fun _ h => (hbr.ext h).sl) ⟨_, _, rfl⟩ (by omega) ?_|refine aT (j := p) (a := some ⟨gs' t, 0, none⟩) rfl rfl ⟨_, _, rfl⟩ (by omega) ?_|refine bo (j := p) (n := cp' t) (a := some ⟨gs' t, 0, none⟩) rfl (fun _ h => (hbr.ext h).sl) ⟨_, _, rfl⟩ (by omega) ?_|refine aR (g := g7) rfl (fun _ h => hb7.ext h) rfl ?_|refine ai rfl ?_|refine aN rfl ?_)
   have hKf' : Kf + K + 1 < 17592186044416 := by omega
   refine aw (dG (hx.ext hEd).k ((hEr q hq).ext hEd).k (by omega)) rfl ?_
   rintro v w3 ⟨hI3, hE3⟩
   refine ⟨fun _ h => h.trans hE3, ?_⟩
   have hE23 := hEd.trans hE3
   skip
   refine aw (ew ((hEr p hp).ext hE23).k (hI3.k (hx.lb.mul (hEr q hq).lb)) (by omega) (by omega)) rfl ?_
   rintro v w4 ⟨hI4, hE4⟩
   refine ⟨fun _ h => h.trans hE4, ?_⟩
   obtain ⟨y, rfl⟩ := hI4.ih
   have hE24 := hE23.trans hE4
   repeat' (first|refine aT (j := p) (a := some ⟨gs' t, 0, none⟩) rfl rfl ⟨_, _, rfl⟩ (by omega) ?_)
   refine bR (j := p) (n := cp' t) (u := y) rfl rfl (hbr.ext hE24) (by omega) (fun w5 hc5 hb5 => ⟨fun h => (nomatch h), ?_⟩)
   have hP4 := (hP.ext hE24).putU htn (hbr.ext hE24) (fun j hj => by simp only [Nat.lt_irrefl, if_false]; exact (hEr j hj).ext hE24) (Ent.of hI4 (hlU t htn)) hc5 hb5
   repeat' (first|refine ai rfl ?_|refine aa ?_|refine ah rfl ?_|refine ae ?_|refine bc rfl rfl (by omega) (by omega) ?_|refine aL ?_)
   refine ⟨⟨t + 1, ⟨htn, ⟨(fun w0 e hl => ((hF.1 w0 e hl).trans hE24).chg hc5 (Nat.le_trans hl (hP.u.row t htn).low)), (by have := hF.2; have := hE24.size; have := hc5.size; omega)⟩, hP4.congr (fun _ _ _ _ => rfl) (fun a b _ _ => ?_), (hb7.ext hE24).chg hc5 (Ne.symm (h7s' t htn)), (hx.ext hE24).gbN (hbr.ext hE24) (bE _ _) (bw hc5)⟩, by omega, rfl, trivial⟩, (by (repeat (first|exact aH _ _ _|refine ay rfl ?_|refine av rfl ?_|refine ak rfl ?_|refine ao rfl ?_)))⟩
   rw [ib U (cadd U p q (-f)) t p a b (fun b hb => if_neg hb), show cadd U p q (-f) t p = U t p - f * U t q by unfold cadd; rw [if_pos rfl, Int.neg_mul, ← Int.sub_eq_add_neg]]
  ·have etn : c = t := by omega
   subst etn
   replace hP := hP.congr (H' := cadd H p q (-f)) (U' := cadd U p q (-f)) (fun _ _ _ _ => rfl) (fun a b ha _ => by rw [if_pos ha])
   repeat' (first|refine bj rfl rfl (by omega) ?_|refine aa ?_|refine aj ?_|refine ah rfl ?_|refine ae ?_|refine au rfl ?_|refine aP ?_|refine aJ ?_|refine aQ ?_)
   exact jG rfl ⟨hP, hF.1, hF.2⟩
set_option maxHeartbeats 4000000 in
theorem jt {K lo gp r c g g' p : Nat} {w : World} {gs cp gs' cp' : Nat → Nat} {H U : Mat} (hP : PR K w lo gp r c g g' gs cp gs' cp' H U) (hr : r ≤ 1000) (hc : c ≤ 1000) (_hK : K < 17592186044415) (hp : p < c) :
  CallsR Tryz.prog 99 #[.pointer (some ⟨gp, 0, none⟩), .int .i64 (p : Int)] w fun _ w' => PR K w' lo gp r c g g' gs cp gs' cp' (cneg H p) (cneg U p) ∧ (∀ w0 : World, Ex w0 w → w0.heap.size ≤ lo → Ex w0 w') ∧ w.heap.size ≤ w'.heap.size := by
 refine aF (args := [_, _]) Tryz.func99 rfl rfl ?_
 repeat' (first|refine aW (g := gp) (cs := prL g r g' c) rfl hP.blk rfl ?_|refine ai rfl ?_|refine aa ?_|refine aj ?_|refine ah rfl ?_|refine ae ?_|refine aZ rfl ?_|refine aN rfl ?_|refine aA ?_)
 refine aY (ι := Nat) [4, 11, 12, 13, 14, 15, 16, 17, 18, 19, 20, 21, 22, 23, 24, 25, 26, 27, 28, 29, 30, 31, 32, 33, 34] (fun t => [(11, .int .i64 (t : Int))])
  (fun t w' => t ≤ r ∧ (((∀ w0 : World, Ex w0 w → w0.heap.size ≤ lo → Ex w0 w')) ∧ w.heap.size ≤ w'.heap.size) ∧ PR K w' lo gp r c g g' gs cp gs' cp' (fun a b => if a < t then (cneg H p) a b else H a b) U) (fun t => r - t)
  0 ⟨rfl, trivial⟩ ⟨by omega, ⟨fun w0 e _ => e, Nat.le_refl _⟩, hP.congr (fun a b _ _ => if_neg (by omega)) (fun _ _ _ _ => rfl)⟩ ?_
 clear hP
 rintro t ξ0 w2 ⟨ht, hF, hP⟩
 show CW _ _ _ _ (over [(11, .int .i64 (t : Int))] _) w2
 rcases Nat.lt_or_ge t r with htn | htn
 ·obtain ⟨hh, hbr, hcr, hEr⟩ := hP.h.get htn
  simp only [Nat.lt_irrefl, if_false] at hEr
  repeat' (first|refine bu rfl rfl (by omega) ?_|refine aa ?_|refine aj ?_|refine ah rfl ?_|refine ae ?_|refine az rfl ?_|refine aE ?_)
  refine aA ?_
  repeat' (first|refine ai rfl ?_|refine aa ?_|refine aj ?_|refine ah rfl ?_|refine ae ?_)
  refine bi (late := [20]) (plan := [(0, none), (1, none), (2, none), (3, none), (4, none), (5, none), (6, none), (7, none), (8, none), (9, none), (10, none), (11, none), (12, none), (13, none), (14, none), (15, none), (16, none), (17, none), (18, some true), (19, none), (20, some false)]) (fun w' => Ex w2 w') bA (by kernel_rfl) (Ex.refl w2).drew ?_
  have hEd := (Ex.refl w2).drew
  repeat' (first|refine aW (g := gp) (cs := prL g r g' c) rfl (fun _ h => hP.blk.ext h) rfl ?_|refine aD (j := t) (a := some ⟨g, 0, none⟩) rfl rfl ⟨_, _, rfl⟩ (by omega) ?_|refine aV (j := t) (a := some ⟨g, 0, none⟩) (n := r) (s := fun k => ⟨some ⟨gs k, 0, none⟩, c, cp k⟩) rfl (fun _ h => (hP.h.ext h).top.sl) (by omega) rfl ?_|refine aT (j := p) (a := some ⟨gs t, 0, none⟩) rfl rfl ⟨_, _, rfl⟩ (by omega) ?_|refine bo (j := p) (n := cp t) (a := some ⟨gs t, 0, none⟩) rfl (fun _ h => (hbr.ext h).sl) ⟨_, _, rfl⟩ (by omega) ?_|refine ai rfl ?_|refine aN rfl ?_)
  refine aw (fr ((hEr p hp).ext hEd).k) rfl ?_
  rintro v w3 ⟨hI3, hE3⟩
  refine ⟨fun _ h => h.trans hE3, ?_⟩
  obtain ⟨y, rfl⟩ := hI3.ih
  have hE24 := hEd.trans hE3
  repeat' (first|refine aT (j := p) (a := some ⟨gs t, 0, none⟩) rfl rfl ⟨_, _, rfl⟩ (by omega) ?_)
  refine bR (j := p) (n := cp t) (u := y) rfl rfl (hbr.ext hE24) (by omega) (fun w5 hc5 hb5 => ⟨fun h => (nomatch h), ?_⟩)
  have hP4 := (hP.ext hE24).putH htn (hbr.ext hE24) (fun j hj => by simp only [Nat.lt_irrefl, if_false]; exact (hEr j hj).ext hE24) (Ent.of hI3 (hEr p hp).lb.neg) hc5 hb5
  repeat' (first|refine ai rfl ?_|refine aa ?_|refine ah rfl ?_|refine ae ?_|refine bc rfl rfl (by omega) (by omega) ?_|refine aL ?_)
  refine ⟨⟨t + 1, ⟨htn, ⟨(fun w0 e hl => ((hF.1 w0 e hl).trans hE24).chg hc5 (Nat.le_trans hl (hP.h.row t htn).low)), (by have := hF.2; have := hE24.size; have := hc5.size; omega)⟩, hP4.congr (fun a b _ _ => ?_) (fun _ _ _ _ => rfl)⟩, by omega, rfl, trivial⟩, (by (repeat (first|exact aH _ _ _|refine ay rfl ?_|refine av rfl ?_|refine ak rfl ?_|refine ao rfl ?_)))⟩
  rw [ib H (cneg H p) t p a b (fun b hb => if_neg hb), show cneg H p t p = -H t p from if_pos rfl]
 ·have etn : r = t := by omega
  subst etn
  replace hP := hP.congr (H' := cneg H p) (U' := U) (fun a b ha _ => by rw [if_pos ha]) (fun _ _ _ _ => rfl)
  repeat' (first|refine bj rfl rfl (by omega) ?_|refine aW (g := gp) (cs := prL g r g' c) rfl hP.blk rfl ?_|refine ai rfl ?_|refine aa ?_|refine aj ?_|refine ah rfl ?_|refine ae ?_|refine aZ rfl ?_|refine aN rfl ?_|refine au rfl ?_|refine aA ?_|refine aP ?_|refine aJ ?_|refine aQ ?_)
  refine aY (ι := Nat) [5, 40, 41, 42, 43, 44, 45, 46, 47, 48, 49, 50, 51, 52, 53, 54, 55, 56, 57, 58, 59, 60, 61, 62, 63] (fun t => [(40, .int .i64 (t : Int))])
   (fun t w' => t ≤ c ∧ (((∀ w0 : World, Ex w0 w → w0.heap.size ≤ lo → Ex w0 w')) ∧ w.heap.size ≤ w'.heap.size) ∧ PR K w' lo gp r c g g' gs cp gs' cp' (cneg H p) (fun a b => if a < t then (cneg U p) a b else U a b)) (fun t => c - t)
   0 ⟨rfl, trivial⟩ ⟨by omega, hF, hP.congr (fun _ _ _ _ => rfl) (fun a b _ _ => if_neg (by omega))⟩ ?_
  clear hP hF
  rintro t ξ1 w2 ⟨ht, hF, hP⟩
  show CW _ _ _ _ (over [(40, .int .i64 (t : Int))] _) w2
  rcases Nat.lt_or_ge t c with htn | htn
  ·obtain ⟨hh, hbr, hcr, hEr⟩ := hP.u.get htn
   simp only [Nat.lt_irrefl, if_false] at hEr
   repeat' (first|refine bu rfl rfl (by omega) ?_|refine aa ?_|refine aj ?_|refine ah rfl ?_|refine ae ?_|refine az rfl ?_|refine aE ?_)
   refine aA ?_
   repeat' (first|refine ai rfl ?_|refine aa ?_|refine aj ?_|refine ah rfl ?_|refine ae ?_)
   refine bi (late := [20]) (plan := [(0, none), (1, none), (2, none), (3, none), (4, none), (5, none), (6, none), (7, none), (8, none), (9, none), (10, none), (11, none), (12, none), (13, none), (14, none), (15, none), (16, none), (17, none), (18, some true), (19, none), (20, some false)]) (fun w' => Ex w2 w') bA (by kernel_rfl) (Ex.refl w2).drew ?_
   have hEd := (Ex.refl w2).drew
   repeat' (first|refine aW (g := gp) (cs := prL g r g' c) rfl (fun _ h => hP.blk.ext h) rfl ?_|refine aD (j := t) (a := some ⟨g', 0, none⟩) rfl rfl ⟨_, _, rfl⟩ (by omega) ?_|refine aV (j := t) (a := some ⟨g', 0, none⟩) (n := c) (s := fun k => ⟨some ⟨gs' k, 0, none⟩, c, cp' k⟩) rfl (fun _ h => (hP.u.ext h).top.sl) (by omega) rfl ?_|refine aT (j := p) (a := some ⟨gs' t, 0, none⟩) rfl rfl ⟨_, _, rfl⟩ (by omega) ?_|refine bo (j := p) (n := cp' t) (a := some ⟨gs' t, 0, none⟩) rfl (fun _ h => (hbr.ext h).sl) ⟨_, _, rfl⟩ (by omega) ?_|refine ai rfl ?_|refine aN rfl ?_)
   refine aw (fr ((hEr p hp).ext hEd).k) rfl ?_
   rintro v w3 ⟨hI3, hE3⟩
   refine ⟨fun _ h => h.trans hE3, ?_⟩
   obtain ⟨y, rfl⟩ := hI3.ih
   have hE24 := hEd.trans hE3
   repeat' (first|refine aT (j := p) (a := some ⟨gs' t, 0, none⟩) rfl rfl ⟨_, _, rfl⟩ (by omega) ?_)
   refine bR (j := p) (n := cp' t) (u := y) rfl rfl (hbr.ext hE24) (by omega) (fun w5 hc5 hb5 => ⟨fun h => (nomatch h), ?_⟩)
   have hP4 := (hP.ext hE24).putU htn (hbr.ext hE24) (fun j hj => by simp only [Nat.lt_irrefl, if_false]; exact (hEr j hj).ext hE24) (Ent.of hI3 (hEr p hp).lb.neg) hc5 hb5
   repeat' (first|refine ai rfl ?_|refine aa ?_|refine ah rfl ?_|refine ae ?_|refine bc rfl rfl (by omega) (by omega) ?_|refine aL ?_)
   refine ⟨⟨t + 1, ⟨htn, ⟨(fun w0 e hl => ((hF.1 w0 e hl).trans hE24).chg hc5 (Nat.le_trans hl (hP.u.row t htn).low)), (by have := hF.2; have := hE24.size; have := hc5.size; omega)⟩, hP4.congr (fun _ _ _ _ => rfl) (fun a b _ _ => ?_)⟩, by omega, rfl, trivial⟩, (by (repeat (first|exact aH _ _ _|refine ay rfl ?_|refine av rfl ?_|refine ak rfl ?_|refine ao rfl ?_)))⟩
   rw [ib U (cneg U p) t p a b (fun b hb => if_neg hb), show cneg U p t p = -U t p from if_pos rfl]
  ·have etn : c = t := by omega
   subst etn
   replace hP := hP.congr (H' := cneg H p) (U' := cneg U p) (fun _ _ _ _ => rfl) (fun a b ha _ => by rw [if_pos ha])
   repeat' (first|refine bj rfl rfl (by omega) ?_|refine aa ?_|refine aj ?_|refine ah rfl ?_|refine ae ?_|refine au rfl ?_|refine aP ?_|refine aJ ?_|refine aQ ?_)
   exact jG rfl ⟨hP, hF.1, hF.2⟩
end Go.Proofs.YtiejljicpinheaaGreat
namespace Go.LA
structure EuJ (x0 y0 x y al be ga de : Int) : Prop where
 ex : x = al * x0 + be * y0
 ey : y = ga * x0 + de * y0
 dt : al * de - be * ga = 1 ∨ al * de - be * ga = -1
 ba : (al.natAbs : Int) ≤ 9 * (x0.natAbs + y0.natAbs + 1)
 bb : (be.natAbs : Int) ≤ 9 * (x0.natAbs + y0.natAbs + 1)
 bg : (ga.natAbs : Int) ≤ 9 * (x0.natAbs + y0.natAbs + 1)
 bd : (de.natAbs : Int) ≤ 9 * (x0.natAbs + y0.natAbs + 1)
 ph : (al = 1 ∧ be = 0 ∧ ga = 0 ∧ de = 1) ∨ (y0 ≠ 0 ∧ al = 0 ∧ be = 1 ∧ ga = 1 ∧ de = -(x0 / y0)) ∨
  (0 ≤ x ∧ 0 ≤ y ∧ (al.natAbs : Int) * y + ga.natAbs * x ≤ 9 * (x0.natAbs + y0.natAbs + 1) ∧ (be.natAbs : Int) * y + de.natAbs * x ≤ 9 * (x0.natAbs + y0.natAbs + 1))
theorem pQ (x0 y0 : Int) : EuJ x0 y0 x0 y0 1 0 0 1 :=
 ⟨by omega, by omega, .inl rfl, by omega, by omega, by omega, by omega, .inl ⟨rfl, rfl, rfl, rfl⟩⟩
theorem eg {a x m : Int} (ha : 0 ≤ a) (hx : 0 < x) (h : a * x ≤ m) : a ≤ m := by
 have : a * 1 ≤ a * x := Int.mul_le_mul_of_nonneg_left (by omega) ha
 omega
set_option maxHeartbeats 2000000 in
theorem EuJ.step {x0 y0 x y al be ga de : Int} (h : EuJ x0 y0 x y al be ga de) (hy : y ≠ 0) : EuJ x0 y0 y (x % y) ga de (al - x / y * ga) (be - x / y * de) := by
 obtain ⟨ex, ey, dt, ba, bb, bg, bd, ph⟩ := h
 have hdm : y * (x / y) + x % y = x := Int.mul_ediv_add_emod x y
 have hr0 : 0 ≤ x % y := Int.emod_nonneg x hy
 have hrl : x % y < y.natAbs := by have := Int.emod_lt x hy; omega
 generalize hq : x / y = q at *
 generalize hr : x % y = r at *
 have ey' : r = (al - q * ga) * x0 + (be - q * de) * y0 := by grind
 have dt' : ga * (be - q * de) - de * (al - q * ga) = 1 ∨ ga * (be - q * de) - de * (al - q * ga) = -1 := by
  rcases dt with d | d
  ·right; grind
  ·left; grind
 rcases ph with ⟨rfl, rfl, rfl, rfl⟩ | ⟨hy0, rfl, rfl, rfl, rfl⟩ | ⟨hx0, hyn, m1, m2⟩
 ·have e1 : x = x0 := by omega
  have e2 : y = y0 := by omega
  subst e1 e2
  have hql := fd x y
  rw [hq] at hql
  refine ⟨by omega, ey', dt', by omega, by omega, by omega, by omega, .inr (.inl ⟨hy, rfl, rfl, by omega, by rw [hq]; omega⟩)⟩
 ·have e1 : x = y0 := by omega
  subst e1
  have hy1 : 0 ≤ y := by
   have : y = x0 % x := by rw [Int.emod_def]; grind
   rw [this]; exact Int.emod_nonneg _ hy0
  have hyl : y < x.natAbs := by
   have : y = x0 % x := by rw [Int.emod_def]; grind
   rw [this]; have := Int.emod_lt x0 hy0; omega
  have hq0 : x * (x0 / x) + y = x0 := by grind
  have hq0l := fd x0 x
  generalize x0 / x = p at *
  have hyp : 0 < y := by omega
  have ea : (q.natAbs : Int) * y = (x - r).natAbs := by
   have : x - r = y * q := by omega
   rw [this, Int.natAbs_mul]; have : (y.natAbs : Int) = y := by omega
   rw [Int.natCast_mul, this, Int.mul_comm]
  have eb : (p.natAbs : Int) * x.natAbs = (x0 - y).natAbs := by
   have : x0 - y = x * p := by omega
   rw [this, Int.natAbs_mul, Int.natCast_mul, Int.mul_comm]
  have m1 : (1 : Int) * r + (0 - q * 1).natAbs * y ≤ 9 * (x0.natAbs + x.natAbs + 1) := by
   have : ((0 - q * 1).natAbs : Int) = q.natAbs := by rw [Int.mul_one, Int.zero_sub, Int.natAbs_neg]
   rw [this, ea]; omega
  have k1 : ((1 - q * -p).natAbs : Int) ≤ 1 + q.natAbs * p.natAbs := by
   have h1 := Int.natAbs_sub_le 1 (q * -p)
   rw [Int.natAbs_mul, Int.natAbs_neg] at h1
   have : ((q.natAbs * p.natAbs : Nat) : Int) = (q.natAbs : Int) * p.natAbs := Int.natCast_mul _ _
   have h2 : (1 : Int).natAbs = 1 := rfl
   omega
  have m2 : (p.natAbs : Int) * r + (1 - q * -p).natAbs * y ≤ 9 * (x0.natAbs + x.natAbs + 1) := by
   have h1 : ((1 - q * -p).natAbs : Int) * y ≤ (1 + q.natAbs * p.natAbs) * y := Int.mul_le_mul_of_nonneg_right k1 hy1
   have h2 : (1 + (q.natAbs : Int) * p.natAbs) * y = y + p.natAbs * (q.natAbs * y) := by grind
   have h3 : (p.natAbs : Int) * (q.natAbs * y) ≤ p.natAbs * (x.natAbs + r) := by
    rw [ea]; exact Int.mul_le_mul_of_nonneg_left (by omega) (by omega)
   have h4 : (p.natAbs : Int) * (x.natAbs + r) = p.natAbs * x.natAbs + p.natAbs * r := Int.mul_add _ _ _
   have h5 : (p.natAbs : Int) * r ≤ p.natAbs * x.natAbs := Int.mul_le_mul_of_nonneg_left (by omega) (by omega)
   rw [eb] at h4 h5
   omega
  refine ⟨by omega, ey', dt', by omega, by omega, eg (by omega) hyp (by omega), eg (by omega) hyp ?_, .inr (.inr ⟨hy1, hr0, ?_, ?_⟩)⟩
  ·have : (0 : Int) ≤ p.natAbs * r := Int.mul_nonneg (by omega) hr0
   omega
  ·show ((1 : Int).natAbs : Int) * r + _ ≤ _
   exact m1
  ·rw [Int.natAbs_neg]; exact m2
 ·have hyp : 0 < y := by omega
  have hq1 : 0 ≤ q := by rw [← hq]; exact Int.ediv_nonneg hx0 hyn
  have key : ∀ a g : Int, (a.natAbs : Int) * y + g.natAbs * x ≤ 9 * (x0.natAbs + y0.natAbs + 1) → (g.natAbs : Int) * r + (a - q * g).natAbs * y ≤ 9 * (x0.natAbs + y0.natAbs + 1) := fun a g hm => by
   have h1 := Int.natAbs_sub_le a (q * g)
   rw [Int.natAbs_mul] at h1
   have h1' : ((a - q * g).natAbs : Int) ≤ a.natAbs + q * g.natAbs := by
    have : ((q.natAbs * g.natAbs : Nat) : Int) = q * g.natAbs := by rw [Int.natCast_mul]; congr 1; omega
    omega
   have h2 : ((a - q * g).natAbs : Int) * y ≤ (a.natAbs + q * g.natAbs) * y := Int.mul_le_mul_of_nonneg_right h1' hyn
   have h3 : ((a.natAbs : Int) + q * g.natAbs) * y = a.natAbs * y + g.natAbs * (y * q) := by grind
   have h4 : (g.natAbs : Int) * r + g.natAbs * (y * q) = g.natAbs * x := by rw [← Int.mul_add]; congr 1; omega
   omega
  have n1 := key al ga m1
  have n2 := key be de m2
  have p1 : (0 : Int) ≤ ga.natAbs * r := Int.mul_nonneg (by omega) hr0
  have p2 : (0 : Int) ≤ de.natAbs * r := Int.mul_nonneg (by omega) hr0
  exact ⟨ey, ey', dt', bg, bd, eg (by omega) hyp (by omega), eg (by omega) hyp (by omega), .inr (.inr ⟨hyn, hr0, n1, n2⟩)⟩
theorem EuJ.nz {x0 y0 x y al be ga de : Int} (h : EuJ x0 y0 x y al be ga de) (hy : y = 0) (hx : x = 0) : x0 = 0 ∧ y0 = 0 := by
 have e1 := h.ex
 have e2 := h.ey
 rw [hx] at e1
 rw [hy] at e2
 rcases h.dt with d | d
 ·constructor <;> grind
 ·constructor <;> grind
theorem jZ {e : Nat} {x0 y0 a b u v : Int} (hx : Lb e x0) (hy : Lb e y0) (ha : (a.natAbs : Int) ≤ 9 * (x0.natAbs + y0.natAbs + 1)) (hb : (b.natAbs : Int) ≤ 9 * (x0.natAbs + y0.natAbs + 1)) (hu : Lb e u) (hv : Lb e v) : Lb (2 * e + 2) (a * u + b * v) := by
 have f : ∀ {a : Int}, (a.natAbs : Int) ≤ 9 * (x0.natAbs + y0.natAbs + 1) → Lb (e + 1) a := fun {a} h => by
  unfold Lb at *
  rw [Nat.pow_succ]
  omega
 have := ((f ha).mul hu).add ((f hb).mul hv)
 exact this.mono (by omega)
end Go.LA
