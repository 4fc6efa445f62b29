import Derived.Test.YtiejljicpinheaaA17
namespace Go.W
theorem pu {c n : Nat} {h : Nat → IH} (hn : n ≤ c) : (rowC c h).drop (n * 2) = rowC (c - n) fun j => h (n + j) := by
 have e : rowC c h = rowC n h ++ rowC (c - n) (fun j => h (n + j)) := by
  rw [ee, show n + (c - n) = c by omega]
  refine fO fun i hi => ?_
  by_cases h' : i < n
  ·rw [if_pos h']
  ·rw [if_neg h', show n + (i - n) = i by omega]
 rw [e, ← bQ n h, List.drop_left]
theorem Sl.dropR {w : World} {g o c n : Nat} {h : Nat → IH} (hs : Sl w (some ⟨g, o, none⟩) (rowC c h)) (hn : n ≤ c) : Sl w (some ⟨g, o + n * 2, none⟩) (rowC (c - n) fun j => h (n + j)) := by
 rw [← pu hn]
 refine ⟨fun _ => ⟨_, _, rfl⟩, fun j hj => ?_⟩
 rw [List.length_drop] at hj
 have := hs.get (n * 2 + j) (by omega)
 simp only [elt] at this ⊢
 rw [Nat.add_assoc, this, List.getD_eq_getElem?_getD, List.getD_eq_getElem?_getD, List.getElem?_drop]
end Go.W
namespace Go.Proofs.Ytiejljicpinheaa
open Go.W Go.LM Go.LA
theorem kV {r n cap : Nat} {w : World} {a : Option Addr} : CallsR Try.prog 40 #[.slice a r cap, .int .i64 (n : Int), .int .i64 (n : Int)] w fun v w' => v = .slice none 0 0 ∧ Ex w w' := by
 refine aG (args := [_, _, _]) Try.func40 rfl rfl ?_
 repeat' (first|refine gQ rfl rfl rfl ?_|refine ai rfl ?_|refine aa ?_|refine aj ?_|refine ah rfl ?_|refine ae ?_|refine aC rfl ?_|refine aK ?_|refine aX ?_)
 exact bB rfl (rt rfl) ⟨rfl, Ex.refl _⟩
set_option maxHeartbeats 4000000 in
theorem kW {cn : Bool} {K r c f e cap : Nat} {w : World} {a : Option Addr} {s : Nat → SD} {F : Mat} (hM : MX cn K w a r c s F) (hr : 1 ≤ r ∧ r ≤ 16) (hc : 1 ≤ c ∧ c ≤ 16) (hfe : f < e) (he : e ≤ c) :
  CallsR Try.prog 40 #[.slice a r cap, .int .i64 (f : Int), .int .i64 (e : Int)] w (RetMO K w r (e - f) fun i j => F i (f + j)) := by
 have hpt := hM.plain (by omega)
 refine aG (args := [_, _, _]) Try.func40 rfl rfl ?_
 repeat' (first|refine fz rfl rfl (by omega) ?_|refine dE (n := r) rfl rfl (by omega) (by omega) (fun g w1 hn1 => ⟨fun _ _ => trivial, ?_⟩)|refine ai rfl ?_|refine aa ?_|refine aj ?_|refine ah rfl ?_|refine ae ?_|refine aY rfl ?_|refine ay rfl ?_|refine aB ?_|refine aF ?_)
 refine aW (ι := Nat × (Nat → Nat) × (Nat → Nat)) [8, 9, 11, 20, 21, 22, 23, 24, 25, 26, 27, 28, 29, 30, 31, 32, 33, 34, 35, 36, 37, 38, 39, 40, 41, 42, 43, 44, 45, 46] (fun t => [(20, .int .i64 (t.1 : Int))])
  (fun t w' => t.1 ≤ r ∧ Ex w w' ∧ MP true K w' w.heap.size g r (e - f) t.1 t.2.1 t.2.2 (fun i j => F i (f + j))) (fun t => r - t.1)
  (0, fun _ => 0, fun _ => 0) ⟨rfl, trivial⟩ ⟨by simp only; omega, hn1.ex, MP.start hn1.blk hn1.lo⟩ ?_
 rintro ⟨i, gs, cp⟩ ξ w2 ⟨hi, hE2, hP2⟩
 simp only at hi hP2
 show CW _ _ _ _ (over [(20, .int .i64 (i : Int))] _) w2
 rcases Nat.lt_or_ge i r with hir | hir
 ·obtain ⟨pa, d, hh, e1, e2, ⟨gp, op, rfl⟩, hS, hEn⟩ := (hM.ext hE2).get hir (by omega)
  repeat' (first|refine bv rfl rfl (by omega) ?_|refine aD (j := i) (a := a) rfl rfl hpt (by omega) ?_|refine aZ (j := i) (a := a) (n := r) (s := s) rfl (hM.ext hE2).top (by omega) e1 ?_|refine iP (l := f) (h := e) rfl rfl rfl (by omega) (by omega) (by omega) ?_|refine ai rfl ?_|refine aa ?_|refine aj ?_|refine ah rfl ?_|refine ae ?_|refine aY rfl ?_|refine aC rfl ?_|refine aB ?_|refine aF ?_)
  refine aW (ι := Nat × SD × (Nat → IH)) [11, 30, 31, 32, 33, 34, 35, 36, 37, 38, 39, 40, 41, 42, 43, 44, 45] (fun t => [(30, .int .i64 (t.1 : Int))])
   (fun t w' => t.1 ≤ e - f ∧ Ex w w' ∧ w2.heap.size ≤ w'.heap.size ∧ GR true K w' w.heap.size g r (e - f) i t.1 gs cp (fun i j => F i (f + j)) t.2.1 t.2.2) (fun t => e - f - t.1)
   (0, sd0, fun _ => ih0) ⟨rfl, trivial⟩ ⟨by simp only; omega, hE2, Nat.le_refl _, GR.start hP2⟩ ?_
  clear hP2 hS hEn
  rintro ⟨j, sd, h⟩ ξ2 w3 ⟨hj, hE3, hs3, hG3⟩
  simp only at hj hG3
  show CW _ _ _ _ (over [(30, .int .i64 (j : Int))] _) w3
  obtain ⟨pa', d', hh, e1', e2', hp', hS, hEn⟩ := (hM.ext hE3).get hir (by omega)
  rw [e1] at e1'
  obtain ⟨rfl, rfl⟩ : some ⟨gp, op, none⟩ = pa' ∧ d = d' := by cases e1'; exact ⟨rfl, rfl⟩
  have hSd := hS.dropR (n := f) (by omega)
  rcases Nat.lt_or_ge j (e - f) with hje | hje
  ·repeat' (first|refine bv rfl rfl (by omega) ?_|refine bj (j := j) rfl rfl ⟨_, _, rfl⟩ (by omega) ?_|refine bD (j := j) (a := some ⟨gp, op + f * 2, none⟩) rfl hSd ⟨_, _, rfl⟩ (by omega) ?_|refine aa ?_|refine aj ?_|refine ah rfl ?_|refine ae ?_|refine aC rfl ?_|refine aB ?_|refine aF ?_)
   refine aE (fun g11 w4 hn4 => ⟨fun _ _ => trivial, ?_⟩)
   have hb4 : Blk w4 g11 49 (intL false none 0 0) := hn4.blk
   refine au (n := 2) (vs := (hh (f + j)).cells) rfl rfl rfl rfl hb4 rfl (fun w5 hc5 hb5 => ⟨fun _ _ => trivial, ?_⟩)
   have hE35 : Ex w3 w5 := hn4.ex.chg hc5 hn4.lo
   have hG5 := hG3.ext hE35
   have lgt := hG3.top.lt
   have hsE := hE3.size
   have l4 := hn4.lo
   have hng : g ≠ g11 := by omega
   have own : ∀ q, (Value.slice sd.a sd.len sd.cap).ownBlock = some q → q ≠ g ∧ q ≠ g11 ∧ w.heap.size ≤ q := fun q e => by
    obtain ⟨h1, ⟨ad, h2, h3⟩, h4⟩ := RowG.bk hG3.cur q e
    have := h4.lt
    exact ⟨fun e' => (hG3.new ad h2).1 (by omega), by omega, h1⟩
   repeat' (first|refine aa ?_|refine ae ?_)
   refine bn (late := [11]) (plan := [(0, none), (1, none), (2, none), (3, none), (4, none), (5, none), (6, none), (7, some true), (8, some true), (9, some true), (10, none), (11, some false)]) (fun w' => w5.grownBy w' (Value.slice sd.a sd.len sd.cap).ownBlock) bC (by kernel_rfl) (k6 (nZ (Ex.refl _))) ?_
   have hEd := (Ex.refl w5).drew
   repeat' (first|refine aD (j := i) (a := some ⟨g, 0, none⟩) rfl rfl ⟨_, _, rfl⟩ (by omega) ?_|refine aZ (j := i) (a := some ⟨g, 0, none⟩) (n := r) (a1 := sd.a) (l1 := sd.len) (c1 := sd.cap) rfl (fun _ h => (hG5.topB h).sl) (by omega) (by rw [aN]) ?_|refine aR (g := g11) rfl (fun _ h => hb5.gb h (fun e => (own _ e).2.1 rfl)) rfl ?_|refine ai rfl ?_)
   refine aw (cY ((hEn (f + j) (by omega)).ext (hE35.trans hEd)).k) rfl ?_
   rintro v w6 ⟨hI6, hE6⟩
   refine ⟨fun _ h => bJ h (nZ hE6) (fun k e => .inl e), ?_⟩
   obtain ⟨u, rfl⟩ := hI6.ih
   have hE56 := hEd.trans hE6
   have hG6 := hG5.ext hE56
   skip
   refine oO (E := 49) rfl rfl rfl (fun w1 w2 h1 h2 => bJ h2 h1 (fun k e => .inl e)) hG6.cur (by omega) (by omega) (by have := hE35.size; have := hE56.size; omega) ?_
   intro gt sd' h' w7 hR7 hf1 hf2 hG7 hA7
   repeat' (first|refine aD (j := i) (a := some ⟨g, 0, none⟩) rfl rfl ⟨_, _, rfl⟩ (by omega) ?_)
   refine cg (j := i) (u := sd') rfl rfl (hG6.topB hG7) (by omega) (fun w8 hc8 hT8 => ⟨fun h => (nomatch h), ?_⟩)
   have hE06 := (hE3.trans hE35).trans hE56
   repeat' (first|refine ai rfl ?_|refine aa ?_|refine ah rfl ?_|refine ae ?_|refine bi rfl rfl (by omega) (by omega) ?_|refine aJ ?_)
   exact ⟨⟨(j + 1, sd', h'), ⟨hje, (hE06.gb hG7 (fun q e => (own q e).2.2)).chg hc8 hG3.low, by have := hE35.size; have := hE56.size; have := hG7.size; have := hc8.size; omega, hG6.app hR7 hf1 hf2 hG7 hA7 (Ent.of hI6 (hEn (f + j) (by omega)).lb) hc8 hT8⟩, by simp only; omega, rfl, trivial⟩, (by (repeat (first|exact aH _ _ _|refine ax rfl ?_|refine av rfl ?_|refine ak rfl ?_|refine ao rfl ?_)))⟩
  ·have eje : j = e - f := by omega
   subst eje
   repeat' (first|refine bu rfl rfl (by omega) ?_|refine ai rfl ?_|refine aa ?_|refine aj ?_|refine ah rfl ?_|refine ae ?_|refine bi rfl rfl (by omega) (by omega) ?_|refine ay rfl ?_|refine aS ?_|refine aL ?_|refine aT ?_|refine aJ ?_)
   obtain ⟨gs', cp', hP⟩ := hG3.fin (by omega)
   exact ⟨⟨(i + 1, gs', cp'), ⟨hir, hE3, hP⟩, by simp only; omega, rfl, trivial⟩, (by (repeat (first|exact aH _ _ _|refine ax rfl ?_|refine av rfl ?_|refine ak rfl ?_|refine ao rfl ?_)))⟩
 ·have eir : r = i := by omega
  subst eir
  repeat' (first|refine bu rfl rfl (by omega) ?_|refine ai rfl ?_|refine aa ?_|refine aj ?_|refine ah rfl ?_|refine ae ?_|refine ay rfl ?_|refine aS ?_|refine aL ?_|refine aT ?_|refine aK ?_)
  exact bB rfl (rt rfl) ⟨g, gs, cp, rfl, hP2.fin, hE2⟩
end Go.Proofs.Ytiejljicpinheaa
namespace Go.Proofs.Ytiejljicpinheaa
open Go.W Go.LM Go.LA
structure AM (K : Nat) (w : World) (a : Option Addr) (n : Nat) (s : Nat → SD) (F : Mat) : Prop where
 top : Sl w a (topC n s)
 row : ∀ i, i < n → RX false K w (s i) (s i).len (F i)
theorem AM.mx {K n : Nat} {w : World} {a : Option Addr} {s : Nat → SD} {F : Mat} (h : AM K w a n s F) (ok : okS n s) : MX false K w a n (s 0).len s F :=
 ⟨h.top, fun i hi => by have := h.row i hi; rwa [ok.2.2.2.2 i hi] at this⟩
theorem MX.am {cn : Bool} {K r c : Nat} {w : World} {a : Option Addr} {s : Nat → SD} {F : Mat} (h : MX cn K w a r c s F) : AM K w a r s F :=
 ⟨h.top, fun i hi => by have := (h.row i hi).weak'; rwa [(h.row i hi).len]⟩
theorem gA {n : Nat} {s : Nat → SD} (h : okS n s) : 1 ≤ n ∧ n ≤ 16 := ⟨h.1, h.2.1⟩
theorem eR {n : Nat} {s : Nat → SD} (h : okS n s) : 1 ≤ (s 0).len ∧ (s 0).len ≤ 16 := ⟨h.2.2.1, h.2.2.2.1⟩
theorem pw {n cap : Nat} {w : World} {a : Option Addr} {s : Nat → SD} (hS : Sl w a (topC n s)) (hno : ¬ okS n s) :
  CallsR Try.prog 12 #[.slice a n cap] w fun v w' => v = .bool false ∧ Ex w w' := by
 refine aG (args := [_]) Try.func12 rfl rfl ?_
 repeat' (first|refine ai rfl ?_|refine aa ?_|refine aj ?_|refine ah rfl ?_|refine ae ?_)
 refine aw (pt hS hno) rfl ?_
 rintro v w1 ⟨rfl, hE1⟩
 refine ⟨fun _ _ => trivial, ?_⟩
 repeat' (first|refine aO rfl rfl ?_|refine ai rfl ?_|refine aa ?_|refine aj ?_|refine ah rfl ?_|refine ae ?_|refine aK ?_)
 exact bB rfl (rt rfl) ⟨rfl, hE1⟩
theorem m7 {cn : Bool} {K r c cap : Nat} {w : World} {a : Option Addr} {s : Nat → SD} {F : Mat} (hM : MX cn K w a r c s F) (hr : 1 ≤ r ∧ r ≤ 16) (hc : 1 ≤ c ∧ c ≤ 16) (hK : K < 17592186044415) :
  CallsR Try.prog 12 #[.slice a r cap] w fun v w' => ∃ t : Bool, v = .bool t ∧ (t = true ↔ ∃ k p, HF r c F k p) ∧ Ex w w' := by
 refine aG (args := [_]) Try.func12 rfl rfl ?_
 repeat' (first|refine ai rfl ?_|refine aa ?_|refine aj ?_|refine ah rfl ?_|refine ae ?_)
 refine aw (fe hM hr hc hK) rfl ?_
 rintro v w1 ⟨t, sd, f, k, rfl, h1, h2, hE1⟩
 refine ⟨fun _ _ => trivial, ?_⟩
 repeat' (first|refine aO rfl rfl ?_|refine ai rfl ?_|refine aa ?_|refine aj ?_|refine ah rfl ?_|refine ae ?_|refine aK ?_)
 refine bB rfl (rt rfl) ⟨t, rfl, ⟨fun h => ⟨_, _, (h1 h).2⟩, fun h => ?_⟩, hE1⟩
 cases t
 ·exact absurd h (h2 rfl)
 ·rfl
def RetBasis (K r c : Nat) (A : Mat) (w : World) (v : Value) (w' : World) : Prop :=
 ∃ (H U : Mat) (k : Nat) (p : Nat → Nat) (u : SD), v = .tuple #[.slice u.a u.len u.cap, .bool true] ∧ CEq r c A H U ∧ HF r c H k p ∧ (k = 0 → u = sd0) ∧ (0 < k → ∃ g gs cp, u = ⟨some ⟨g, 0, none⟩, r, r⟩ ∧ MO true K w' w.heap.size g r k gs cp H) ∧ Ex w w'
set_option maxHeartbeats 1000000 in
theorem fS {cn : Bool} {K r c cap : Nat} {w : World} {a : Option Addr} {s : Nat → SD} {A : Mat} (hM : MX cn K w a r c s A) (hr : 1 ≤ r ∧ r ≤ 16) (hc : 1 ≤ c ∧ c ≤ 16) (hK1 : 1 ≤ K) (hK : 300 * K + 1000 < 4398046511104) :
  CallsR Try.prog 15 #[.slice a r cap] w (RetBasis (34 * K + 100) r c A w) := by
 refine aG (args := [_]) Try.func15 rfl rfl ?_
 repeat' (first|refine ai rfl ?_|refine aa ?_|refine aj ?_|refine ah rfl ?_|refine ae ?_)
 refine aw (dy hM hr hc hK1 hK) rfl ?_
 rintro v w1 ⟨g, g', gs, cp, gs', cp', H, U, k0, p0, rfl, hF, hE1⟩
 refine ⟨fun _ _ => trivial, ?_⟩
 repeat' (first|refine aO rfl rfl ?_|refine ai rfl ?_|refine aa ?_|refine aj ?_|refine ah rfl ?_|refine ae ?_|refine ay rfl ?_|refine aF ?_)
 refine aw (fe hF.h.mx hr hc (by omega)) rfl ?_
 rintro v w2 ⟨t, sd, f, k, rfl, h1, h2, hE2⟩
 refine ⟨fun _ _ => trivial, ?_⟩
 cases t
 ·exact absurd ⟨_, _, hF.hf⟩ (h2 rfl)
 ·obtain ⟨hN, hH⟩ := h1 rfl
  have hlen := hN.1
  have hkc := hH.kc
  have hE := hE1.trans hE2
  repeat' (first|refine aO rfl rfl ?_|refine ai rfl ?_|refine aa ?_|refine aj ?_|refine ah rfl ?_|refine ae ?_|refine aY rfl ?_)
  rw [hlen]
  by_cases hk : k = 0
  ·subst hk
   refine aw (kV (n := 0)) rfl ?_
   rintro v w3 ⟨rfl, hE3⟩
   refine ⟨fun _ _ => trivial, ?_⟩
   repeat' (first|refine ai rfl ?_|refine aa ?_|refine ae ?_|refine aK ?_)
   exact cR rfl (rt rfl) (rt rfl) ⟨H, U, 0, f, sd0, rfl, hF.ceq, hH, fun _ => rfl, fun h => by omega, hE.trans hE3⟩
  ·refine aw (kW (f := 0) (e := k) (hF.h.ext hE2).mx hr hc (by omega) (by omega)) rfl ?_
   rintro v w3 ⟨g3, gs3, cp3, rfl, hO3, hE3⟩
   refine ⟨fun _ _ => trivial, ?_⟩
   repeat' (first|refine ai rfl ?_|refine aa ?_|refine ae ?_|refine aK ?_)
   exact cR rfl (rt rfl) (rt rfl) ⟨H, U, k, f, ⟨some ⟨g3, 0, none⟩, r, r⟩, rfl, hF.ceq, hH, fun h => by omega, fun _ => ⟨g3, gs3, cp3, rfl, (hO3.mono hE.size).congr fun i j _ _ => by rw [Nat.zero_add]⟩, hE.trans hE3⟩
end Go.Proofs.Ytiejljicpinheaa
namespace Go.Proofs.Ytiejljicpinheaa
open Go.W Go.LM Go.LA
def RetKer (K r c : Nat) (A : Mat) (w : World) (v : Value) (w' : World) : Prop :=
 ∃ (H U : Mat) (k : Nat) (p : Nat → Nat) (H' U' : Mat) (k' : Nat) (p' : Nat → Nat) (u : SD), v = .tuple #[.slice u.a u.len u.cap, .bool true] ∧ CEq r c A H U ∧ HF r c H k p ∧ (k = c → u = sd0) ∧
  (k < c → CEq c (c - k) (fun i j => U i (k + j)) H' U' ∧ HF c (c - k) H' k' p' ∧ (k' = 0 → u = sd0) ∧ (0 < k' → ∃ g gs cp, u = ⟨some ⟨g, 0, none⟩, c, c⟩ ∧ MO true K w' w.heap.size g c k' gs cp H')) ∧ Ex w w'
set_option maxHeartbeats 2000000 in
theorem jk {cn : Bool} {K r c cap : Nat} {w : World} {a : Option Addr} {s : Nat → SD} {A : Mat} (hM : MX cn K w a r c s A) (hr : 1 ≤ r ∧ r ≤ 16) (hc : 1 ≤ c ∧ c ≤ 16) (hK1 : 1 ≤ K) (hK : 20000 * K + 60000 < 4398046511104) :
  CallsR Try.prog 32 #[.slice a r cap] w (RetKer (1156 * K + 3500) r c A w) := by
 refine aG (args := [_]) Try.func32 rfl rfl ?_
 repeat' (first|refine ai rfl ?_|refine aa ?_|refine aj ?_|refine ah rfl ?_|refine ae ?_)
 refine aw (dy hM hr hc hK1 (by omega)) rfl ?_
 rintro v w1 ⟨g, g', gs, cp, gs', cp', H, U, k0, p0, rfl, hF, hE1⟩
 refine ⟨fun _ _ => trivial, ?_⟩
 repeat' (first|refine aO rfl rfl ?_|refine ai rfl ?_|refine aa ?_|refine aj ?_|refine ah rfl ?_|refine ae ?_|refine ay rfl ?_|refine aF ?_)
 refine aw (fe hF.h.mx hr hc (by omega)) rfl ?_
 rintro v w2 ⟨t, sd, f, k, rfl, h1, h2, hE2⟩
 refine ⟨fun _ _ => trivial, ?_⟩
 cases t
 ·exact absurd ⟨_, _, hF.hf⟩ (h2 rfl)
 ·obtain ⟨hN, hH⟩ := h1 rfl
  have hlen := hN.1
  have hkc := hH.kc
  have hE := hE1.trans hE2
  repeat' (first|refine aO rfl rfl ?_|refine ai rfl ?_|refine aa ?_|refine aj ?_|refine ah rfl ?_|refine ae ?_|refine aY rfl ?_)
  rw [hlen]
  by_cases hk : k = c
  ·subst hk
   refine aw (kV (n := k)) rfl ?_
   rintro v w3 ⟨rfl, hE3⟩
   refine ⟨fun _ _ => trivial, ?_⟩
   repeat' (first|refine dR rfl rfl ?_|refine ai rfl ?_|refine aa ?_|refine aj ?_|refine ah rfl ?_|refine ae ?_|refine aC rfl ?_|refine aK ?_|refine aX ?_)
   exact cR rfl (rt rfl) (rt rfl) ⟨H, U, k, f, H, U, 0, f, sd0, rfl, hF.ceq, hH, fun _ => rfl, fun h => by omega, hE.trans hE3⟩
  ·refine aw (kW (f := k) (e := c) (hF.u.ext hE2).mx hc hc (by omega) (by omega)) rfl ?_
   rintro v w3 ⟨g3, gs3, cp3, rfl, hO3, hE3⟩
   refine ⟨fun _ _ => trivial, ?_⟩
   repeat' (first|refine dR rfl rfl ?_|refine ai rfl ?_|refine aa ?_|refine aj ?_|refine ah rfl ?_|refine ae ?_|refine ay rfl ?_|refine aF ?_)
   refine aw (fS (K := 34 * K + 100) hO3.mx hc ⟨by omega, by omega⟩ (by omega) (by omega)) rfl ?_
   rintro v w4 ⟨H', U', k', p', u, rfl, hC', hF', h0, hO, hE4⟩
   refine ⟨fun _ _ => trivial, ?_⟩
   have hE03 := hE.trans hE3
   repeat' (first|refine aO rfl rfl ?_|refine ai rfl ?_|refine aa ?_|refine ae ?_|refine aK ?_)
   refine cR rfl (rt rfl) (rt rfl) ⟨H, U, k, f, H', U', k', p', u, rfl, hF.ceq, hH, fun h => absurd h hk, fun _ => ⟨hC', hF', h0, fun h => ?_⟩, hE03.trans hE4⟩
   obtain ⟨g5, gs5, cp5, e, hM5⟩ := hO h
   exact ⟨g5, gs5, cp5, e, (hM5.mono hE03.size).up (by omega)⟩
end Go.Proofs.Ytiejljicpinheaa
namespace Go.LA
theorem qX (i j : Nat) : idM i j = idM j i := by
 unfold idM
 by_cases h : i = j
 ·rw [if_pos h, if_pos h.symm]
 ·rw [if_neg h, if_neg (fun e => h e.symm)]
theorem Uni.tr {n : Nat} {U : Mat} (h : Uni n U) : Uni n (fun i j => U j i) :=
 sH (V := fun i j => uinv n U j i) fun i j hi hj => by
  have e : mm n (fun i j => U j i) (fun i j => uinv n U j i) i j = mm n (uinv n U) U j i := aV fun k _ => Int.mul_comm _ _
  rw [e, h.inv_mul hj hi, qX]
end Go.LA
namespace Go.Proofs.Ytiejljicpinheaa
open Go.W Go.LM Go.LA
theorem sign_zero {x y : Int} : (x - y).sign = 0 ↔ x = y := by
 rw [Int.sign_eq_zero_iff_zero]; omega
def RetExt (K r c : Nat) (A : Mat) (w : World) (v : Value) (w' : World) : Prop :=
 ∃ (H U : Mat) (k : Nat) (p : Nat → Nat), CEq c r (fun i j => A j i) H U ∧ HF c r H k p ∧
  (((∀ i, i < c → H i i = 1) ∧ ∃ u R, v = .tuple #[u, .bool true] ∧ RetMO K w r r R u w' ∧ ∀ i j, i < r → j < r → mm r (fun i j => U j i) R i j = idM i j) ∨
    ((¬ ∀ i, i < c → H i i = 1) ∧ v = .tuple #[.slice none 0 0, .bool false])) ∧ Ex w w'
set_option maxHeartbeats 2000000 in
theorem m8 {cn : Bool} {K r c cap : Nat} {w : World} {a : Option Addr} {s : Nat → SD} {A : Mat} (hM : MX cn K w a r c s A) (hr : 1 ≤ r ∧ r ≤ 16) (hc : 1 ≤ c ∧ c ≤ 16) (hrc : c ≤ r) (hK1 : 1 ≤ K) (hK : 1000 * K + 6000 < 4398046511104) :
  CallsR Try.prog 33 #[.slice a r cap] w (RetExt (544 * K + 1664) r c A w) := by
 have hpt := hM.plain (by omega)
 refine aG (args := [_]) Try.func33 rfl rfl ?_
 repeat' (first|refine ai rfl ?_|refine aa ?_|refine aj ?_|refine ah rfl ?_|refine ae ?_)
 refine aw (eO hM hr hc) rfl ?_
 rintro v w1 ⟨_, rfl, g, gs, cp, rfl, hO1, hE1⟩
 refine ⟨fun _ _ => trivial, ?_⟩
 obtain ⟨p0, d0, hh0, e0, _, _, _, _⟩ := hM.get (i := 0) (by omega) (by omega)
 repeat' (first|refine aO rfl rfl ?_|refine aD (j := 0) (a := a) rfl rfl hpt (by omega) ?_|refine aZ (j := 0) (a := a) (n := r) (s := s) rfl (hM.ext hE1).top (by omega) e0 ?_|refine bu rfl rfl (by omega) ?_|refine ai rfl ?_|refine aa ?_|refine aj ?_|refine ah rfl ?_|refine ae ?_|refine aY rfl ?_|refine bG rfl rfl ?_|refine ay rfl ?_|refine aF ?_)
 refine aw (dy hO1.mx hc hr hK1 (by omega)) rfl ?_
 rintro v w2 ⟨gh, gu, gsh, cph, gsu, cpu, H, U, k, p, rfl, hF, hE2⟩
 refine ⟨fun _ _ => trivial, ?_⟩
 repeat' (first|refine aO rfl rfl ?_|refine ai rfl ?_|refine aa ?_|refine aj ?_|refine ah rfl ?_|refine ae ?_)
 refine aw (cz (z := 1) (by omega) (by omega) _) rfl ?_
 rintro v w3 ⟨hI3, hE3⟩
 refine ⟨fun _ _ => trivial, ?_⟩
 obtain ⟨o1, rfl⟩ := hI3.ih
 refine aE (fun g9 w4 hn4 => ⟨fun _ _ => trivial, ?_⟩)
 have hb4 : Blk w4 g9 49 (intL false none 0 0) := hn4.blk
 refine au (n := 2) (vs := o1.cells) rfl rfl rfl rfl hb4 rfl (fun w5 hc5 hb5 => ⟨fun _ _ => trivial, ?_⟩)
 have hE25 : Ex w2 w5 := (hE3.trans hn4.ex).chg hc5 (by have := hn4.lo; have := hE3.size; omega)
 have e5 : Ent true 1 w5 o1.val 1 := (Ent.of (hI3.ext hn4.ex) (ch (by decide) (by omega))).gbN hb4 (aA _ _ _ _) (bp hc5)
 have hF5 := hF.ext hE25
 have hE05 := (hE1.trans hE2).trans hE25
 repeat' (first|refine ai rfl ?_|refine aa ?_|refine aj ?_|refine ah rfl ?_|refine ae ?_|refine aY rfl ?_|refine aB ?_)
 refine aW (ι := Nat) [2, 3, 10, 11, 37, 38, 39, 40, 41, 42, 43, 44, 45, 46, 47, 48, 49] (fun i => [(37, .int .i64 (i : Int))])
  (fun i w' => i ≤ c ∧ Ex w5 w' ∧ ∀ j, j < i → H j j = 1) (fun i => c - i)
  0 ⟨rfl, trivial⟩ ⟨by omega, Ex.refl _, fun j h => by omega⟩ ?_
 rintro i ξ w6 ⟨hi, hE6, h1⟩
 show CW _ _ _ _ (over [(37, .int .i64 (i : Int))] _) w6
 have hE06 := hE05.trans hE6
 have hF6 := hF5.ext hE6
 rcases Nat.lt_or_ge i c with hic | hic
 ·obtain ⟨hh, hbr, hcr, hEr⟩ := hF6.h.get hic
  repeat' (first|refine bv rfl rfl (by omega) ?_|refine aa ?_|refine aj ?_|refine ah rfl ?_|refine ae ?_|refine aC rfl ?_|refine aF ?_)
  refine aB ?_
  repeat' (first|refine aD (j := i) (a := some ⟨gh, 0, none⟩) rfl rfl ⟨_, _, rfl⟩ (by omega) ?_|refine aZ (j := i) (a := some ⟨gh, 0, none⟩) (n := c) (s := fun k => ⟨some ⟨gsh k, 0, none⟩, r, cph k⟩) rfl hF6.h.top.sl (by omega) rfl ?_|refine ai rfl ?_|refine aa ?_|refine aj ?_|refine ah rfl ?_|refine ae ?_)
  refine bn (late := [5]) (plan := [(0, none), (1, none), (2, none), (3, none), (4, none), (5, some false), (6, none)]) (fun w' => Ex w6 w') bC (by kernel_rfl) (Ex.refl w6).drew ?_
  have hEd := (Ex.refl w6).drew
  repeat' (first|refine bj (j := i) (a := some ⟨gsh i, 0, none⟩) rfl rfl ⟨_, _, rfl⟩ (by omega) ?_|refine bD (j := i) (n := cph i) (a := some ⟨gsh i, 0, none⟩) rfl (fun _ h => (hbr.ext h).sl) ⟨_, _, rfl⟩ (by omega) ?_|refine aR (g := g9) rfl (fun _ h => (hb5.ext hE6).ext h) rfl ?_|refine ai rfl ?_)
  refine aw (iU ((hEr i (by omega)).ext hEd).k ((e5.ext hE6).ext hEd).k) rfl ?_
  rintro v w7 ⟨rfl, hE7⟩
  refine ⟨fun _ h => h.trans hE7, ?_⟩
  have hE67 := hEd.trans hE7
  by_cases h : H i i = 1
  ·repeat' (first|refine dq rfl rfl (sign_zero.2 h) ?_|refine ai rfl ?_|refine aa ?_|refine ah rfl ?_|refine ae ?_|refine bi rfl rfl (by omega) (by omega) ?_|refine ay rfl ?_|refine aJ ?_|refine aF ?_)
   refine ⟨⟨i + 1, ⟨hic, hE6.trans hE67, fun j hj => ?_⟩, by omega, rfl, trivial⟩, (by (repeat (first|exact aH _ _ _|refine ax rfl ?_|refine av rfl ?_|refine ak rfl ?_|refine ao rfl ?_)))⟩
   by_cases e : j = i
   ·subst e; exact h
   ·exact h1 j (by omega)
  ·repeat' (first|refine eQ rfl rfl (fun e => h (sign_zero.1 e)) ?_|refine ai rfl ?_|refine aa ?_|refine aj ?_|refine ah rfl ?_|refine ae ?_|refine aC rfl ?_|refine aK ?_|refine aX ?_|refine b6 ?_)
   exact cR rfl (rt rfl) (rt rfl) ⟨H, U, k, p, hF.ceq, hF.hf, .inr ⟨fun e => h (e i hic), rfl⟩, hE06.trans hE67⟩
 ·have eic : c = i := by omega
  subst eic
  repeat' (first|refine bu rfl rfl (by omega) ?_|refine ai rfl ?_|refine aa ?_|refine aj ?_|refine ah rfl ?_|refine ae ?_|refine ay rfl ?_|refine aS ?_|refine aL ?_|refine aT ?_)
  refine aw (eO hF6.u.mx hr hr) rfl ?_
  rintro v w7 ⟨_, rfl, gt, gst, cpt, rfl, hO7, hE7⟩
  refine ⟨fun _ _ => trivial, ?_⟩
  repeat' (first|refine aO rfl rfl ?_|refine ai rfl ?_|refine aa ?_|refine aj ?_|refine ah rfl ?_|refine ae ?_)
  refine aw (lO hO7.mx hr (by omega) hF.ceq.1.tr) rfl ?_
  rintro v w8 ⟨_, R, rfl, ⟨gr, gsr, cpr, rfl, hO8, hE8⟩, hR⟩
  refine ⟨fun _ _ => trivial, ?_⟩
  have hE07 := hE06.trans hE7
  repeat' (first|refine aO rfl rfl ?_|refine ai rfl ?_|refine aa ?_|refine ae ?_|refine aK ?_)
  exact cR rfl (rt rfl) (rt rfl) ⟨H, U, k, p, hF.ceq, hF.hf, .inl ⟨h1, _, R, rfl, ⟨gr, gsr, cpr, rfl, (hO8.mono hE07.size).up (by omega), hE07.trans hE8⟩, hR⟩, hE07.trans hE8⟩
end Go.Proofs.Ytiejljicpinheaa
namespace Go.Proofs.Ytiejljicpinheaa
open Go.W Go.LM Go.LA
set_option maxHeartbeats 1000000 in
theorem d5 {n c : Nat} {a : Option Addr} {s : Nat → SD} {w : World} (h : Sl w a (topC n s)) :
  CallsR Try.prog 34 #[.slice a n c] w fun v w' => v = shapeV n s ∧ Ex w w' := by
 refine aG (args := [_]) Try.func34 rfl rfl ?_
 have no : ∀ {v : Value}, ¬ okS n s → v = .tuple #[.int .i64 0, .int .i64 0, .bool false] → v = shapeV n s := fun h1 e => by rw [eD h1, e]
 by_cases h1 : 1 ≤ n ∧ n ≤ 16
 ·have hp := h.plain (by rw [bO]; omega)
  repeat' (first|refine bu rfl rfl (by omega) ?_|refine jQ rfl rfl (by omega) ?_|refine ai rfl ?_|refine aa ?_|refine aj ?_|refine ah rfl ?_|refine ae ?_|refine aY rfl ?_|refine bG rfl rfl ?_|refine ay rfl ?_|refine aB ?_|refine aF ?_)
  refine aW (ι := Nat) [2, 3, 4, 6, 17, 18, 19, 20, 21, 22, 23, 24, 25, 26, 27, 28, 29, 30, 31, 32, 33, 34, 35, 36, 37, 38] (fun i => [(17, .int .i64 (i : Int))]) (fun i w' => (i ≤ n ∧ ∀ k, k < i → 1 ≤ (s k).len ∧ (s k).len ≤ 16 ∧ (s k).len = (s 0).len) ∧ w' = w) (fun i => n - i) 0 ⟨rfl, trivial⟩ ⟨⟨by omega, fun k h => by omega⟩, rfl⟩ ?_
  rintro i ξ w2 ⟨⟨hi, hI⟩, rfl⟩
  show CW _ _ _ _ (over [(17, .int .i64 (i : Int))] _) w2
  rcases Nat.lt_or_ge i n with hin | hin
  ·by_cases ok : 1 ≤ (s i).len ∧ (s i).len ≤ 16 ∧ (s i).len = (s 0).len
   ·repeat' (first|refine bv rfl rfl (by omega) ?_|refine bu rfl rfl (by omega) ?_|refine jQ rfl rfl (by omega) ?_|refine dq rfl rfl (by omega) ?_|refine aD (j := i) rfl rfl hp (by omega) ?_|refine cw (j := i) rfl h (by omega) ?_|refine aD (j := 0) rfl rfl hp (by omega) ?_|refine cw (j := 0) rfl h (by omega) ?_|refine ai rfl ?_|refine aa ?_|refine aj ?_|refine ah rfl ?_|refine ae ?_|refine aY rfl ?_|refine bG rfl rfl ?_|refine bi rfl rfl (by omega) (by omega) ?_|refine aC rfl ?_|refine ay rfl ?_|refine aB ?_|refine aJ ?_|refine aF ?_)
    refine ⟨⟨i + 1, ⟨⟨by omega, fun k hk => ?_⟩, rfl⟩, by omega, rfl, trivial⟩, (by (repeat (first|exact aH _ _ _|refine ax rfl ?_|refine av rfl ?_|refine ak rfl ?_|refine ao rfl ?_)))⟩
    by_cases hk' : k = i
    ·subst hk'; exact ok
    ·exact hI k (by omega)
   ·have hbad : ¬ okS n s := fun hk => ok ⟨by have := hk.2.2.2.2 i hin; have := hk.2.2.1; omega, by have := hk.2.2.2.2 i hin; have := hk.2.2.2.1; omega, hk.2.2.2.2 i hin⟩
    by_cases o1 : (s i).len < 1
    ·repeat' (first|refine bv rfl rfl (by omega) ?_|refine aD (j := i) rfl rfl hp (by omega) ?_|refine cw (j := i) rfl h (by omega) ?_|refine ai rfl ?_|refine aa ?_|refine aj ?_|refine ah rfl ?_|refine ae ?_|refine aY rfl ?_|refine bP rfl rfl ?_|refine aC rfl ?_|refine aB ?_|refine aK ?_|refine aX ?_|refine b6 ?_|refine aF ?_)
     exact eI rfl (rt rfl) (rt rfl) (rt rfl) ⟨no hbad rfl, Ex.refl _⟩
    ·by_cases o2 : 16 < (s i).len
     ·repeat' (first|refine bv rfl rfl (by omega) ?_|refine bu rfl rfl (by omega) ?_|refine qm rfl rfl (by omega) ?_|refine aD (j := i) rfl rfl hp (by omega) ?_|refine cw (j := i) rfl h (by omega) ?_|refine ai rfl ?_|refine aa ?_|refine aj ?_|refine ah rfl ?_|refine ae ?_|refine aY rfl ?_|refine bG rfl rfl ?_|refine bP rfl rfl ?_|refine aC rfl ?_|refine aB ?_|refine aK ?_|refine aX ?_|refine b6 ?_|refine aF ?_)
      exact eI rfl (rt rfl) (rt rfl) (rt rfl) ⟨no hbad rfl, Ex.refl _⟩
     ·repeat' (first|refine bv rfl rfl (by omega) ?_|refine bu rfl rfl (by omega) ?_|refine jQ rfl rfl (by omega) ?_|refine eQ rfl rfl (by omega) ?_|refine aD (j := i) rfl rfl hp (by omega) ?_|refine cw (j := i) rfl h (by omega) ?_|refine aD (j := 0) rfl rfl hp (by omega) ?_|refine cw (j := 0) rfl h (by omega) ?_|refine ai rfl ?_|refine aa ?_|refine aj ?_|refine ah rfl ?_|refine ae ?_|refine aY rfl ?_|refine bG rfl rfl ?_|refine aC rfl ?_|refine aB ?_|refine aK ?_|refine aX ?_|refine b6 ?_|refine aF ?_)
      exact eI rfl (rt rfl) (rt rfl) (rt rfl) ⟨no hbad rfl, Ex.refl _⟩
  ·have ein : n = i := by omega
   subst ein
   have h0 := hI 0 (by omega)
   repeat' (first|refine bu rfl rfl (by omega) ?_|refine aa ?_|refine aj ?_|refine ah rfl ?_|refine ae ?_|refine ay rfl ?_|refine aS ?_|refine aL ?_|refine aT ?_)
   refine bn (late := []) (plan := [(0, none), (1, none), (2, none), (3, none), (4, none), (5, none), (6, none), (7, none), (8, none)]) (fun w' => Ex w2 w') bC (by kernel_rfl) (Ex.refl w2).drew ?_
   repeat' (first|refine aD (j := 0) rfl rfl hp (by omega) ?_|refine cw (j := 0) rfl (fun _ h' => h.ext h') (by omega) ?_|refine ai rfl ?_|refine aa ?_|refine ae ?_|refine aY rfl ?_|refine aK ?_)
   refine eI rfl (rt rfl) (rt rfl) (rt rfl) ⟨?_, (Ex.refl _).drew⟩
   unfold shapeV
   rw [if_pos ⟨h1.1, h1.2, h0.1, h0.2.1, fun k hk => (hI k hk).2.2⟩]; rfl
 ·repeat' (first|refine ai rfl ?_|refine aa ?_|refine aj ?_|refine ah rfl ?_|refine ae ?_|refine aY rfl ?_|refine bG rfl rfl ?_|refine bP rfl rfl ?_|refine gF rfl rfl (fun hc => ?_) (fun hc => ?_)|refine aC rfl ?_|refine aM rfl (fun hc => ?_) (fun hc => ?_)|refine aB ?_|refine aK ?_|refine aX ?_|refine aF ?_)
  all_goals try (exfalso; omega)
  all_goals exact eI rfl (rt rfl) (rt rfl) (rt rfl) ⟨no (fun hk => h1 ⟨hk.1, hk.2.1⟩) rfl, Ex.refl _⟩
set_option maxHeartbeats 2000000 in
theorem fT {r c : Nat} {w : World} (hr : r ≤ 1000) (hc : c ≤ 1000) :
  CallsR Try.prog 49 #[.int .i64 (r : Int), .int .i64 (c : Int)] w (RetMO 0 w r c fun _ _ => 0) := by
 refine aG (args := [_, _]) Try.func49 rfl rfl ?_
 repeat' (first|refine dE (n := r) rfl rfl (by omega) (by omega) (fun g w1 hn1 => ⟨fun _ _ => trivial, ?_⟩)|refine ai rfl ?_|refine aa ?_|refine aj ?_|refine ah rfl ?_|refine ae ?_|refine aY rfl ?_|refine aB ?_)
 refine aW (ι := Nat × (Nat → Nat) × (Nat → Nat)) [6, 11, 12, 13, 14, 15, 16, 17, 18, 19] (fun t => [(11, .int .i64 (t.1 : Int))])
  (fun t w' => t.1 ≤ r ∧ Ex w w' ∧ MP true 0 w' w.heap.size g r c t.1 t.2.1 t.2.2 (fun _ _ => 0)) (fun t => r - t.1)
  (0, fun _ => 0, fun _ => 0) ⟨rfl, trivial⟩ ⟨by simp only; omega, hn1.ex, MP.start hn1.blk hn1.lo⟩ ?_
 rintro ⟨i, gs, cp⟩ ξ w2 ⟨hi, hE2, hP2⟩
 simp only at hi hP2
 show CW _ _ _ _ (over [(11, .int .i64 (i : Int))] _) w2
 rcases Nat.lt_or_ge i r with hir | hir
 ·repeat' (first|refine bv rfl rfl (by omega) ?_|refine et (n := c) rfl rfl (by omega) (by omega) (fun g3 w3 hn3 => ⟨fun _ _ => trivial, ?_⟩)|refine aD (j := i) (a := some ⟨g, 0, none⟩) rfl rfl ⟨_, _, rfl⟩ (by omega) ?_|refine ai rfl ?_|refine aa ?_|refine aj ?_|refine ah rfl ?_|refine ae ?_|refine aC rfl ?_|refine aB ?_|refine aF ?_)
  refine cg (j := i) (u := ⟨some ⟨g3, 0, none⟩, c, c⟩) rfl rfl (hP2.top.ext hn3.ex) (by omega) (fun w4 hc4 hT4 => ⟨fun _ _ => trivial, ?_⟩)
  have s2 := hE2.size
  have lo3 := hn3.lo
  have low := hP2.low
  obtain ⟨hb4, hne3, hT4', hnext⟩ := hP2.snoc hn3 hc4 hT4 (by omega)
  have hE4 := (hE2.trans hn3.ex).chg hc4 low
  repeat' (first|refine ai rfl ?_|refine aa ?_|refine ah rfl ?_|refine ae ?_|refine bi rfl rfl (by omega) (by omega) ?_|refine aJ ?_)
  exact ⟨⟨(i + 1, setF gs i g3, setF cp i c), ⟨hir, hE4, (hnext w4 (nZ (Ex.refl _))).2 ⟨by omega, Nat.le_refl _, fun _ => ih0, hb4, fun j _ => kt _⟩⟩, by simp only; omega, rfl, trivial⟩, (by (repeat (first|exact aH _ _ _|refine ax rfl ?_|refine av rfl ?_|refine ak rfl ?_|refine ao rfl ?_)))⟩
 ·have eir : r = i := by omega
  subst eir
  repeat' (first|refine bu rfl rfl (by omega) ?_|refine ai rfl ?_|refine aa ?_|refine aj ?_|refine ah rfl ?_|refine ae ?_|refine ay rfl ?_|refine aS ?_|refine aL ?_|refine aT ?_|refine aK ?_)
  exact bB rfl (rt rfl) ⟨g, gs, cp, rfl, hP2.fin, hE2⟩
set_option maxHeartbeats 2000000 in
theorem i7 {K K' : Nat} {w : World} {s s' : SD} {f g : Nat → Int} (hX : RX true K w s s.len f) (hY : RX true K' w s' s'.len g) (hl : s.len ≤ 1000) :
  CallsR Try.prog 30 #[.slice s.a s.len s.cap, .slice s'.a s'.len s'.cap] w fun v w' => ∃ t : Bool, v = .bool t ∧ (t = true ↔ s.len = s'.len ∧ ∀ j, j < s.len → f j = g j) ∧ Ex w w' := by
 refine aG (args := [_, _]) Try.func30 rfl rfl ?_
 by_cases he : s.len = s'.len
 ·repeat' (first|refine dq rfl rfl (by omega) ?_|refine ai rfl ?_|refine aa ?_|refine aj ?_|refine ah rfl ?_|refine ae ?_|refine aY rfl ?_|refine ay rfl ?_|refine aB ?_|refine aF ?_)
  refine aW (ι := Nat) [4, 5, 13, 14, 15, 16, 17, 18, 19, 20, 21, 22, 23, 24, 25, 26] (fun j => [(13, .int .i64 (j : Int))])
   (fun j w' => j ≤ s.len ∧ Ex w w' ∧ ∀ i, i < j → f i = g i) (fun j => s.len - j)
   0 ⟨rfl, trivial⟩ ⟨by omega, Ex.refl _, fun i h => by omega⟩ ?_
  rintro j ξ w2 ⟨hj, hE2, hq⟩
  show CW _ _ _ _ (over [(13, .int .i64 (j : Int))] _) w2
  rcases Nat.lt_or_ge j s.len with hjl | hjl
  ·obtain ⟨p, d, hh, e1, e2, hp, hS, hEn⟩ := (hX.ext hE2).get (by omega)
   obtain ⟨p', d', hh', e1', e2', hp', hS', hEn'⟩ := (hY.ext hE2).get (by omega)
   have ea : s.a = p := by rw [e1]
   have ea' : s'.a = p' := by rw [e1']
   subst ea ea'
   repeat' (first|refine bv rfl rfl (by omega) ?_|refine aa ?_|refine aj ?_|refine ah rfl ?_|refine ae ?_|refine aC rfl ?_|refine aF ?_)
   refine aB ?_
   repeat' (first|refine ai rfl ?_|refine aa ?_|refine aj ?_|refine ah rfl ?_|refine ae ?_)
   refine bn (late := [8]) (plan := [(0, none), (1, none), (2, none), (3, none), (4, none), (5, none), (6, none), (7, none), (8, some false), (9, none)]) (fun w' => Ex w2 w') bC (by kernel_rfl) (Ex.refl w2).drew ?_
   have hEd := (Ex.refl w2).drew
   repeat' (first|refine bj (j := j) (a := s.a) rfl rfl hp (by omega) ?_|refine bD (j := j) (n := s.len) (a := s.a) rfl (fun _ h => hS.ext h) hp (by omega) ?_|refine bj (j := j) (a := s'.a) rfl rfl hp' (by omega) ?_|refine bD (j := j) (n := s'.len) (a := s'.a) rfl (fun _ h => hS'.ext h) hp' (by omega) ?_|refine ai rfl ?_)
   refine aw (lA (((hEn j (by omega)).ext hEd).c rfl) (((hEn' j (by omega)).ext hEd).c rfl)) rfl ?_
   rintro v w3 ⟨rfl, hE3⟩
   refine ⟨fun _ h => h.trans hE3, ?_⟩
   have hE23 := hEd.trans hE3
   by_cases hfg : f j = g j
   ·rw [decide_eq_true hfg]
    repeat' (first|refine ai rfl ?_|refine aa ?_|refine ah rfl ?_|refine ae ?_|refine bi rfl rfl (by omega) (by omega) ?_|refine ay rfl ?_|refine aJ ?_|refine aF ?_)
    refine ⟨⟨j + 1, ⟨hjl, hE2.trans hE23, fun i hi => ?_⟩, by omega, rfl, trivial⟩, (by (repeat (first|exact aH _ _ _|refine ax rfl ?_|refine av rfl ?_|refine ak rfl ?_|refine ao rfl ?_)))⟩
    by_cases e : i = j
    ·subst e; exact hfg
    ·exact hq i (by omega)
   ·rw [decide_eq_false hfg]
    repeat' (first|refine ai rfl ?_|refine aa ?_|refine aj ?_|refine ah rfl ?_|refine ae ?_|refine aC rfl ?_|refine aK ?_|refine aX ?_|refine b6 ?_)
    exact bB rfl (rt rfl) ⟨false, rfl, ⟨fun h => (nomatch h), fun h => absurd (h.2 j hjl) hfg⟩, hE2.trans hE23⟩
  ·repeat' (first|refine bu rfl rfl (by omega) ?_|refine ai rfl ?_|refine aa ?_|refine aj ?_|refine ah rfl ?_|refine ae ?_|refine ay rfl ?_|refine aS ?_|refine aL ?_|refine aT ?_|refine aK ?_)
   exact bB rfl (rt rfl) ⟨true, rfl, ⟨fun _ => ⟨he, fun i hi => hq i (by omega)⟩, fun _ => rfl⟩, hE2⟩
 ·repeat' (first|refine eQ rfl rfl (by omega) ?_|refine ai rfl ?_|refine aa ?_|refine aj ?_|refine ah rfl ?_|refine ae ?_|refine aY rfl ?_|refine aC rfl ?_|refine aK ?_|refine aX ?_)
  exact bB rfl (rt rfl) ⟨false, rfl, ⟨fun h => (nomatch h), fun h => absurd h.1 he⟩, Ex.refl _⟩
structure AC (K : Nat) (w : World) (a : Option Addr) (n : Nat) (s : Nat → SD) (F : Mat) : Prop where
 top : Sl w a (topC n s)
 row : ∀ i, i < n → RX true K w (s i) (s i).len (F i)
 len : ∀ i, i < n → (s i).len ≤ 1000
theorem AC.ext {K n : Nat} {w w' : World} {a : Option Addr} {s : Nat → SD} {F : Mat} (h : AC K w a n s F) (e : Ex w w') : AC K w' a n s F := ⟨h.top.ext e, fun i hi => (h.row i hi).ext e, h.len⟩
theorem MX.ac {K r c : Nat} {w : World} {a : Option Addr} {s : Nat → SD} {F : Mat} (h : MX true K w a r c s F) (hc : c ≤ 1000) : AC K w a r s F :=
 ⟨h.top, fun i hi => by have := h.row i hi; rwa [(h.row i hi).len], fun i hi => by rw [(h.row i hi).len]; exact hc⟩
set_option maxHeartbeats 2000000 in
theorem d6 {K K' n n' ca cb : Nat} {w : World} {a b : Option Addr} {s s' : Nat → SD} {F G : Mat} (hA : AC K w a n s F) (hB : AC K' w b n' s' G) (hn : n ≤ 1000) :
  CallsR Try.prog 11 #[.slice a n ca, .slice b n' cb] w fun v w' => ∃ t : Bool, v = .bool t ∧ (t = true ↔ n = n' ∧ ∀ i, i < n → (s i).len = (s' i).len ∧ ∀ j, j < (s i).len → F i j = G i j) ∧ Ex w w' := by
 refine aG (args := [_, _]) Try.func11 rfl rfl ?_
 by_cases he : n = n'
 ·subst he
  repeat' (first|refine dq rfl rfl (by omega) ?_|refine ai rfl ?_|refine aa ?_|refine aj ?_|refine ah rfl ?_|refine ae ?_|refine aY rfl ?_|refine ay rfl ?_|refine aB ?_|refine aF ?_)
  refine aW (ι := Nat) [4, 5, 13, 14, 15, 16, 17, 18, 19, 20, 21, 22, 23, 24, 25, 26] (fun j => [(13, .int .i64 (j : Int))])
   (fun j w' => j ≤ n ∧ Ex w w' ∧ ∀ i, i < j → (s i).len = (s' i).len ∧ ∀ j, j < (s i).len → F i j = G i j) (fun j => n - j)
   0 ⟨rfl, trivial⟩ ⟨by omega, Ex.refl _, fun i h => by omega⟩ ?_
  rintro i ξ w2 ⟨hi, hE2, hq⟩
  show CW _ _ _ _ (over [(13, .int .i64 (i : Int))] _) w2
  rcases Nat.lt_or_ge i n with hin | hin
  ·have hA2 := hA.ext hE2
   have hB2 := hB.ext hE2
   have hpa := hA.top.plain (by rw [bO]; omega)
   have hpb := hB.top.plain (by rw [bO]; omega)
   repeat' (first|refine bv rfl rfl (by omega) ?_|refine aa ?_|refine aj ?_|refine ah rfl ?_|refine ae ?_|refine aC rfl ?_|refine aF ?_)
   refine aB ?_
   repeat' (first|refine ai rfl ?_|refine aa ?_|refine aj ?_|refine ah rfl ?_|refine ae ?_)
   refine bn (late := [8]) (plan := [(0, none), (1, none), (2, none), (3, none), (4, none), (5, none), (6, none), (7, none), (8, some false), (9, none)]) (fun w' => Ex w2 w') bC (by kernel_rfl) (Ex.refl w2).drew ?_
   have hEd := (Ex.refl w2).drew
   repeat' (first|refine aD (j := i) (a := a) rfl rfl hpa (by omega) ?_|refine cw (j := i) (a := a) (n := n) (s := s) rfl (fun _ h => (hA2.ext h).top) (by omega) ?_|refine aD (j := i) (a := b) rfl rfl hpb (by omega) ?_|refine cw (j := i) (a := b) (n := n) (s := s') rfl (fun _ h => (hB2.ext h).top) (by omega) ?_|refine ai rfl ?_)
   refine aw (i7 ((hA2.row i hin).ext hEd) ((hB2.row i hin).ext hEd) (hA.len i hin)) rfl ?_
   rintro v w3 ⟨t, rfl, ht, hE3⟩
   refine ⟨fun _ h => h.trans hE3, ?_⟩
   have hE23 := hEd.trans hE3
   cases t
   ·repeat' (first|refine ai rfl ?_|refine aa ?_|refine aj ?_|refine ah rfl ?_|refine ae ?_|refine aC rfl ?_|refine aK ?_|refine aX ?_|refine b6 ?_)
    exact bB rfl (rt rfl) ⟨false, rfl, ⟨fun h => (nomatch h), fun h => ht.2 (h.2 i hin)⟩, hE2.trans hE23⟩
   ·repeat' (first|refine ai rfl ?_|refine aa ?_|refine ah rfl ?_|refine ae ?_|refine bi rfl rfl (by omega) (by omega) ?_|refine ay rfl ?_|refine aJ ?_|refine aF ?_)
    refine ⟨⟨i + 1, ⟨hin, hE2.trans hE23, fun j hj => ?_⟩, by omega, rfl, trivial⟩, (by (repeat (first|exact aH _ _ _|refine ax rfl ?_|refine av rfl ?_|refine ak rfl ?_|refine ao rfl ?_)))⟩
    by_cases e : j = i
    ·subst e; exact ht.1 rfl
    ·exact hq j (by omega)
  ·have ein : n = i := by omega
   subst ein
   repeat' (first|refine bu rfl rfl (by omega) ?_|refine ai rfl ?_|refine aa ?_|refine aj ?_|refine ah rfl ?_|refine ae ?_|refine ay rfl ?_|refine aS ?_|refine aL ?_|refine aT ?_|refine aK ?_)
   exact bB rfl (rt rfl) ⟨true, rfl, ⟨fun _ => ⟨rfl, hq⟩, fun _ => rfl⟩, hE2⟩
 ·repeat' (first|refine eQ rfl rfl (by omega) ?_|refine ai rfl ?_|refine aa ?_|refine aj ?_|refine ah rfl ?_|refine ae ?_|refine aY rfl ?_|refine aC rfl ?_|refine aK ?_|refine aX ?_)
  exact bB rfl (rt rfl) ⟨false, rfl, ⟨fun h => (nomatch h), fun h => absurd h.1 he⟩, Ex.refl _⟩
end Go.Proofs.Ytiejljicpinheaa
namespace Go.Proofs.Ytiejljicpinheaa
open Go.W Go.LM Go.LA
set_option maxHeartbeats 4000000 in
theorem iF {cn : Bool} {K r c cap : Nat} {w : World} {a : Option Addr} {s : Nat → SD} {F : Mat} (hM : MX cn K w a r c s F) (hr : 1 ≤ r ∧ r ≤ 16) (hc : 1 ≤ c ∧ c ≤ 16) :
  CallsR Try.prog 60 #[.slice a r cap] w fun v w' => ∃ u, v = .tuple #[u, .bool true] ∧ RetMO K w c r (fun i j => F j i) u w' := by
 have hpt := hM.plain (by omega)
 refine aG (args := [_]) Try.func60 rfl rfl ?_
 repeat' (first|refine ai rfl ?_|refine aa ?_|refine aj ?_|refine ah rfl ?_|refine ae ?_)
 refine aw (d5 hM.top) rfl ?_
 rintro v w1 ⟨rfl, hE1⟩
 refine ⟨fun _ _ => trivial, ?_⟩
 rw [cK hM hr hc]
 repeat' (first|refine aO rfl rfl ?_|refine ai rfl ?_|refine aa ?_|refine aj ?_|refine ah rfl ?_|refine ae ?_|refine ay rfl ?_|refine aF ?_)
 refine aw (fT (r := c) (c := r) (by omega) (by omega)) rfl ?_
 rintro v w2 ⟨g, gs, cp, rfl, hO2, hE2⟩
 refine ⟨fun _ _ => trivial, ?_⟩
 have s1 := hE1.size
 have hE02 := hE1.trans hE2
 repeat' (first|refine ai rfl ?_|refine aa ?_|refine aj ?_|refine ah rfl ?_|refine ae ?_|refine aY rfl ?_|refine aB ?_)
 refine aW (ι := Nat) [8, 9, 23, 24, 25, 26, 27, 28, 29, 30, 31, 32, 33, 34, 35, 36, 37, 38, 39, 40, 41, 42, 43, 44, 45, 46, 47, 48, 49] (fun i => [(23, .int .i64 (i : Int))])
  (fun i w' => i ≤ r ∧ Ex w w' ∧ MO true K w' w.heap.size g c r gs cp (fun x y => if y < i then F y x else 0)) (fun i => r - i)
  0 ⟨rfl, trivial⟩ ⟨by omega, hE02, ((hO2.mono s1).up (by omega)).congr fun x y _ _ => if_neg (by omega)⟩ ?_
 clear hO2 hE02 hE2
 rintro i ξ w3 ⟨hi, hE3, hO3⟩
 show CW _ _ _ _ (over [(23, .int .i64 (i : Int))] _) w3
 rcases Nat.lt_or_ge i r with hir | hir
 ·obtain ⟨pa, d, hh, e1, e2, hpp, hS, hEn⟩ := (hM.ext hE3).get hir (by omega)
  repeat' (first|refine bv rfl rfl (by omega) ?_|refine aD (j := i) (a := a) rfl rfl hpt (by omega) ?_|refine aZ (j := i) (a := a) (n := r) (s := s) rfl (hM.ext hE3).top (by omega) e1 ?_|refine ai rfl ?_|refine aa ?_|refine aj ?_|refine ah rfl ?_|refine ae ?_|refine aY rfl ?_|refine aC rfl ?_|refine aB ?_|refine aF ?_)
  refine aW (ι := Nat) [9, 31, 32, 33, 34, 35, 36, 37, 38, 39, 40, 41, 42, 43, 44, 45, 46, 47, 48] (fun j => [(31, .int .i64 (j : Int))])
   (fun j w' => j ≤ c ∧ Ex w w' ∧ MO true K w' w.heap.size g c r gs cp (fun x y => if y < i ∨ (y = i ∧ x < j) then F y x else 0)) (fun j => c - j)
   0 ⟨rfl, trivial⟩ ⟨by omega, hE3, hO3.congr fun x y _ _ => by
    by_cases h : y < i
    ·rw [if_pos h, if_pos (.inl h)]
    ·rw [if_neg h, if_neg (by omega)]⟩ ?_
  clear hO3 hS hEn
  rintro j ξ2 w4 ⟨hj, hE4, hO4⟩
  show CW _ _ _ _ (over [(31, .int .i64 (j : Int))] _) w4
  rcases Nat.lt_or_ge j c with hjc | hjc
  ·obtain ⟨pa', d', hh, e1', e2', hp', hS, hEn⟩ := (hM.ext hE4).get hir (by omega)
   rw [e1] at e1'
   obtain ⟨rfl, rfl⟩ : pa = pa' ∧ d = d' := by cases e1'; exact ⟨rfl, rfl⟩
   obtain ⟨hhr, hbr, hcr, hEr⟩ := hO4.get hjc
   repeat' (first|refine bv rfl rfl (by omega) ?_|refine aa ?_|refine aj ?_|refine ah rfl ?_|refine ae ?_|refine aC rfl ?_|refine aF ?_)
   refine aB ?_
   repeat' (first|refine ai rfl ?_|refine aa ?_|refine aj ?_|refine ah rfl ?_|refine ae ?_)
   refine bn (late := [14]) (plan := [(0, none), (1, none), (2, none), (3, none), (4, none), (5, none), (6, none), (7, none), (8, none), (9, none), (10, none), (11, none), (12, some true), (13, none), (14, some false)]) (fun w' => Ex w4 w') bC (by kernel_rfl) (Ex.refl w4).drew ?_
   have hEd := (Ex.refl w4).drew
   repeat' (first|refine aD (j := j) (a := some ⟨g, 0, none⟩) rfl rfl ⟨_, _, rfl⟩ (by omega) ?_|refine aZ (j := j) (a := some ⟨g, 0, none⟩) (n := c) (s := fun k => ⟨some ⟨gs k, 0, none⟩, r, cp k⟩) rfl (fun _ h => (hO4.ext h).top.sl) (by omega) rfl ?_|refine aD (j := i) (a := a) rfl rfl hpt (by omega) ?_|refine aZ (j := i) (a := a) (n := r) (s := s) rfl (fun _ h => (hM.ext (hE4.trans h)).top) (by omega) e1 ?_|refine bj (j := j) (a := pa) rfl rfl hpp (by omega) ?_|refine bD (j := j) (a := pa) rfl (fun _ h => hS.ext h) hpp (by omega) ?_|refine ai rfl ?_)
   refine aw (eM ((hEn j hjc).ext hEd).k) rfl ?_
   rintro v w5 ⟨hI5, hE5⟩
   refine ⟨fun _ h => h.trans hE5, ?_⟩
   obtain ⟨u, rfl⟩ := hI5.ih
   have hE45 := hEd.trans hE5
   repeat' (first|refine bj (j := i) (a := some ⟨gs j, 0, none⟩) rfl rfl ⟨_, _, rfl⟩ (by omega) ?_)
   refine cF (j := i) (n := cp j) (u := u) rfl rfl (hbr.ext hE45) (by omega) (fun w6 hc6 hb6 => ⟨fun h => (nomatch h), ?_⟩)
   repeat' (first|refine ai rfl ?_|refine aa ?_|refine ah rfl ?_|refine ae ?_|refine bi rfl rfl (by omega) (by omega) ?_|refine aJ ?_)
   refine ⟨⟨j + 1, ⟨hjc, (hE4.trans hE45).chg hc6 (hO4.row j hjc).low, ((hO4.ext hE45).put hjc (hbr.ext hE45) (fun k hk => (hEr k hk).ext hE45) (Ent.of hI5 (hEn j hjc).lb) hc6 hb6).congr fun x y _ _ => ?_⟩, by omega, rfl, trivial⟩, (by (repeat (first|exact aH _ _ _|refine ax rfl ?_|refine av rfl ?_|refine ak rfl ?_|refine ao rfl ?_)))⟩
   unfold setM
   by_cases h : x = j ∧ y = i
   ·rw [if_pos h, if_pos (by omega), h.1, h.2]
   ·rw [if_neg h]
    show _ = if y < i ∨ (y = i ∧ x < j) then F y x else 0
    by_cases h' : y < i ∨ (y = i ∧ x < j)
    ·rw [if_pos h', if_pos (by omega)]
    ·rw [if_neg h', if_neg (by omega)]
  ·have ejc : c = j := by omega
   subst ejc
   repeat' (first|refine bu rfl rfl (by omega) ?_|refine ai rfl ?_|refine aa ?_|refine aj ?_|refine ah rfl ?_|refine ae ?_|refine bi rfl rfl (by omega) (by omega) ?_|refine ay rfl ?_|refine aS ?_|refine aL ?_|refine aT ?_|refine aJ ?_)
   refine ⟨⟨i + 1, ⟨hir, hE4, hO4.congr fun x y hx _ => ?_⟩, by omega, rfl, trivial⟩, (by (repeat (first|exact aH _ _ _|refine ax rfl ?_|refine av rfl ?_|refine ak rfl ?_|refine ao rfl ?_)))⟩
   by_cases h : y < i + 1
   ·rw [if_pos h, if_pos (by omega)]
   ·rw [if_neg h, if_neg (by omega)]
 ·have eir : r = i := by omega
  subst eir
  repeat' (first|refine bu rfl rfl (by omega) ?_|refine ai rfl ?_|refine aa ?_|refine aj ?_|refine ah rfl ?_|refine ae ?_|refine ay rfl ?_|refine aS ?_|refine aL ?_|refine aT ?_|refine aK ?_)
  exact cR rfl (rt rfl) (rt rfl) ⟨_, rfl, g, gs, cp, rfl, hO3.congr fun x y _ hy => by rw [if_pos hy], hE3⟩
set_option maxHeartbeats 2000000 in
theorem jl {c1 c2 : Bool} {K1 K2 n : Nat} {w : World} {s s' : SD} {f g : Nat → Int} (hX : RX c1 K1 w s n f) (hY : RX c2 K2 w s' n g) (hn : 1 ≤ n ∧ n ≤ 1000) (hK : K1 + K2 + 2 < 17592186044416) :
  CallsR Try.prog 42 #[.slice s.a s.len s.cap, .slice s'.a s'.len s'.cap] w (RetZ w (sm n fun k => f k * g k)) := by
 obtain ⟨p, d, hh, e1, e2, hp, hS, hEn⟩ := hX.get (by omega)
 obtain ⟨p', d', hh', e1', e2', hp', hS', hEn'⟩ := hY.get (by omega)
 subst e1 e1'
 show CallsR Try.prog 42 #[.slice p n d, .slice p' n d'] w _
 refine aG (args := [_, _]) Try.func42 rfl rfl ?_
 repeat' (first|refine aE (fun g4 w1 hn1 => ⟨fun _ _ => trivial, ?_⟩)|refine aa ?_|refine aj ?_|refine ah rfl ?_|refine ae ?_)
 have hb1 : Blk w1 g4 49 (intL false none 0 0) := hn1.blk
 repeat' (first|refine cC (cs := intL false none 0 0) rfl ?_)
 refine aE (fun g5 w2 hn2 => ⟨fun _ _ => trivial, ?_⟩)
 have hb2 : Blk w2 g5 49 (intL false none 0 0) := hn2.blk
 refine au (n := 2) (vs := ih0.cells) rfl rfl rfl rfl hb2 rfl (fun w3 hc3 hb3 => ⟨fun _ _ => trivial, ?_⟩)
 have l1 := hn1.lo
 have l2 := hn2.lo
 have s1 := hn1.ex.size
 have lt1 := hb1.lt
 have hE3 : Ex w w3 := (hn1.ex.trans hn2.ex).chg hc3 (by omega)
 have hb13 := (hb1.ext hn2.ex).chg hc3 (by omega)
 have ls : ∀ m, m ≤ n → Lb (K1 + K2 + 1) (sm m fun k => f k * g k) := fun m hm => fP (fun i hi => (hEn i (by omega)).lb) (fun i hi => (hEn' i (by omega)).lb) (by omega)
 repeat' (first|refine ai rfl ?_|refine aa ?_|refine aj ?_|refine ah rfl ?_|refine ae ?_|refine aY rfl ?_|refine aB ?_)
 refine aW (ι := Nat × IH) [6, 10, 11, 12, 13, 14, 15, 16, 17, 18, 19, 20, 21, 22, 23, 24] (fun t => [(10, .int .i64 (t.1 : Int))])
  (fun t w' => t.1 ≤ n ∧ Ex w w' ∧ w1.heap.size ≤ w'.heap.size ∧ Blk w' g4 49 (intL false none 0 0) ∧ Blk w' g5 49 t.2.cells ∧ IntC w.heap.size w' t.2.val (sm t.1 fun k => f k * g k)) (fun t => n - t.1)
  (0, ih0) ⟨rfl, trivial⟩ ⟨by simp only; omega, hE3, by have := hn2.ex.size; have := hc3.size; omega, hb13, hb3, iX _ _⟩ ?_
 clear hb13 hb3 hE3
 rintro ⟨i, x⟩ ξ w4 ⟨hi, hE4, hs4, hb14, hb4, e4⟩
 simp only at hi hb4 e4
 show CW _ _ _ _ (over [(10, .int .i64 (i : Int))] _) w4
 rcases Nat.lt_or_ge i n with hin | hin
 ·repeat' (first|refine bv rfl rfl (by omega) ?_|refine aa ?_|refine aj ?_|refine ah rfl ?_|refine ae ?_|refine aC rfl ?_|refine aF ?_)
  refine aB ?_
  repeat' (first|refine ai rfl ?_|refine aa ?_|refine aj ?_|refine ah rfl ?_|refine ae ?_)
  refine bn (late := [11]) (plan := [(0, none), (1, none), (2, none), (3, none), (4, none), (5, none), (6, none), (7, none), (8, none), (9, some true), (10, some true), (11, some false)]) (fun w' => Ex w4 w') bC (by kernel_rfl) (Ex.refl w4).drew ?_
  have hEd := (Ex.refl w4).drew
  repeat' (first|refine aR (g := g5) rfl (fun _ h => hb4.ext h) rfl ?_|refine bj (j := i) (a := p) rfl rfl hp (by omega) ?_|refine bD (j := i) (a := p) rfl (fun _ h => hS.ext (hE4.trans h)) hp (by omega) ?_|refine bj (j := i) (a := p') rfl rfl hp' (by omega) ?_|refine bD (j := i) (a := p') rfl (fun _ h => hS'.ext (hE4.trans h)) hp' (by omega) ?_|refine ai rfl ?_)
  refine aw (lG ((hEn i hin).ext (hE4.trans hEd)).k ((hEn' i hin).ext (hE4.trans hEd)).k (by omega)) rfl ?_
  rintro v w5 ⟨hI5, hE5⟩
  refine ⟨fun _ h => h.trans hE5, ?_⟩
  have hE45 := hEd.trans hE5
  have lp := (hEn i hin).lb.mul (hEn' i hin).lb
  skip
  refine aw (e7 ((e4.ext hE45).k (ls i hi)) (hI5.k lp) (by omega) (by omega)) rfl ?_
  rintro v w6 ⟨hI6, hE6⟩
  refine ⟨fun _ h => h.trans hE6, ?_⟩
  obtain ⟨u, rfl⟩ := hI6.ih
  have hE46 := hE45.trans hE6
  refine au (n := 2) (vs := u.cells) rfl rfl rfl rfl (hb4.ext hE46) rfl (fun w7 hc7 hb7 => ⟨fun h => (nomatch h), ?_⟩)
  repeat' (first|refine ai rfl ?_|refine aa ?_|refine ah rfl ?_|refine ae ?_|refine bi rfl rfl (by omega) (by omega) ?_|refine aJ ?_)
  exact ⟨⟨(i + 1, u), ⟨hin, (hE4.trans hE46).chg hc7 (by omega), by have := hE46.size; have := hc7.size; omega, (hb14.ext hE46).chg hc7 (by omega), hb7, (hI6.mono (by have := hE4.size; have := hE45.size; omega)).gbN (hb4.ext hE46) (aA _ _ _ _) (bp hc7)⟩, by simp only; omega, rfl, trivial⟩, (by (repeat (first|exact aH _ _ _|refine ax rfl ?_|refine av rfl ?_|refine ak rfl ?_|refine ao rfl ?_)))⟩
 ·have ein : n = i := by omega
  subst ein
  repeat' (first|refine bu rfl rfl (by omega) ?_|refine aR (g := g5) rfl hb4 rfl ?_|refine aa ?_|refine aj ?_|refine ah rfl ?_|refine ae ?_|refine ay rfl ?_|refine aS ?_|refine aL ?_|refine aT ?_)
  refine au (n := 2) (vs := x.cells) rfl rfl rfl rfl hb14 rfl (fun w5 hc5 hb5 => ⟨fun _ _ => trivial, ?_⟩)
  repeat' (first|refine aa ?_|refine ae ?_|refine aK ?_)
  exact bB rfl (rc rfl rfl hb5) ⟨e4.gbN hb14 (aA _ _ _ _) (bp hc5), hE4.chg hc5 l1⟩
end Go.Proofs.Ytiejljicpinheaa
