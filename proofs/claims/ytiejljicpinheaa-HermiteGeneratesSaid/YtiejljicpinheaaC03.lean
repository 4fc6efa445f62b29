import Derived.Test.YtiejljicpinheaaC02
namespace Go.LA
theorem vX {r c : Nat} {A W : Mat} {Y : Vec} (h1 : ∀ i j, i < r → j < c → W i j = A i j) (h2 : ∀ i, i < r → W i c = Y i) : InL r c A Y ↔ ∀ v, InL r c A v ↔ InL r (c + 1) W v := by
 constructor
 ·intro hY v
  refine ⟨fun h => InL.of_cols (fun j hj => (InL.col W (show j < c + 1 by omega)).congr fun i hi => (h1 i j hi hj).symm) h, fun h => InL.of_cols (fun j hj => ?_) h⟩
  by_cases e : j = c
  ·subst e; exact hY.congr fun i hi => h2 i hi
  ·exact (InL.col A (show j < c by omega)).congr fun i hi => h1 i j hi (by omega)
 ·intro h
  exact (h Y).2 ((InL.col W (Nat.lt_succ_self c)).congr fun i hi => (h2 i hi).symm)
end Go.LA
namespace Go.Proofs.Ytiejljicpinheaa
open Go.W Go.LM Go.LA Go.PM
structure WJ (K : Nat) (w : World) (lo g r c i : Nat) (S : Nat → SD) (b : Nat → Nat) (hh : Nat → Nat → IH) (F : Mat) : Prop where
 low : lo ≤ g
 top : Blk w g 30 (topC r S)
 row : ∀ k, k < r → RowG w lo 49 (if k < i then c + 1 else c) (S k) (hh k)
 adr : ∀ k, k < r → (S k).a = some ⟨b k, 0, none⟩
 off : ∀ k, k < r → b k ≠ g
 inj : ∀ k l, k < r → l < r → b k = b l → k = l
 ent : ∀ k, k < r → ∀ l, l < (if k < i then c + 1 else c) → Ent true K w (hh k l).val (F k l)
section
variable {K r c lo g i : Nat} {w w' w'' : World} {S : Nat → SD} {b gs cp : Nat → Nat} {hh : Nat → Nat → IH} {F : Mat} {sd' : SD} {h' : Nat → IH} {u : IH}
theorem WJ.ext (h : WJ K w lo g r c i S b hh F) (e : Ex w w') : WJ K w' lo g r c i S b hh F :=
 ⟨h.low, h.top.ext e, fun k hk => (h.row k hk).ext e, h.adr, h.off, h.inj, fun k hk l hl => (h.ent k hk l hl).ext e⟩
theorem WJ.start (h : MO true K w lo g r c gs cp F) (hc : ∀ k, k < r → cp k ≤ maxLen) : ∃ hh, WJ K w lo g r c 0 (fun k => ⟨some ⟨gs k, 0, none⟩, c, cp k⟩) gs hh F := by
 have : ∀ k, ∃ f : Nat → IH, k < r → Blk w (gs k) 49 (rowC (cp k) f) ∧ ∀ l, l < c → Ent true K w (f l).val (F k l) := fun k => by
  by_cases hk : k < r
  ·obtain ⟨f, h1, h2⟩ := (h.row k hk).ex; exact ⟨f, fun _ => ⟨h1, h2⟩⟩
  ·exact ⟨fun _ => ih0, fun h => absurd h hk⟩
 refine ⟨fun k => Classical.choose (this k), h.low, h.top, fun k hk => ?_, fun k _ => rfl, h.off, h.inj, fun k hk l hl => ?_⟩
 ·rw [if_neg (Nat.not_lt_zero k)]
  exact ⟨rfl, .inr ⟨gs k, rfl, (h.row k hk).low, (h.row k hk).le, hc k hk, (Classical.choose_spec (this k) hk).1⟩⟩
 ·rw [if_neg (Nat.not_lt_zero k)] at hl
  exact (Classical.choose_spec (this k) hk).2 l hl
theorem WJ.own (h : WJ K w lo g r c i S b hh F) (hi : i < r) : (Value.slice (S i).a (S i).len (S i).cap).ownBlock = some (b i) := by rw [h.adr i hi]; rfl
theorem WJ.topB (h : WJ K w lo g r c i S b hh F) (hi : i < r) (hg : w.grownBy w' (Value.slice (S i).a (S i).len (S i).cap).ownBlock) : Blk w' g 30 (topC r S) :=
 h.top.gb hg (fun e => by rw [h.own hi] at e; cases e; exact h.off i hi rfl)
theorem WJ.app (h : WJ K w lo g r c i S b hh F) (hi : i < r) (hR : RowG w' lo 49 (c + 1) sd' h') (h1 : ∀ l, l < c → h' l = hh i l) (h2 : h' c = u) (hg : w.grownBy w' (Value.slice (S i).a (S i).len (S i).cap).ownBlock)
  (hA : sd'.a = (S i).a ∨ ∀ x, sd'.a = some x → w.heap.size ≤ x.block) (hu : Ent true K w u.val (F i c)) (hc : Chg g w' w'') (hT : Blk w'' g 30 (topC r (setF S i sd'))) :
  ∃ b', WJ K w'' lo g r c (i + 1) (setF S i sd') b' (setF hh i h') F := by
 have hB := h.topB hi hg
 obtain ⟨g3, e1, e2⟩ : ∃ g3, sd'.a = some ⟨g3, 0, none⟩ ∧ lo ≤ g3 := by
  rcases hR.2 with ⟨_, h0⟩ | ⟨g3, e1, e2, _⟩
  ·omega
  ·exact ⟨g3, e1, e2⟩
 have hbk : ∀ k, k < r → b k < w.heap.size := fun k hk => ((h.row k hk).lo _ (h.adr k hk)).2
 have hg3 : g3 ≠ g ∧ ∀ k, k < r → k ≠ i → b k ≠ g3 := by
  rcases hA with h0 | h0
  ·rw [e1, h.adr i hi] at h0
   obtain rfl : g3 = b i := by cases h0; rfl
   exact ⟨h.off i hi, fun k hk hne e => hne (h.inj k i hk hi e)⟩
  ·have h3 := h0 _ e1
   simp only at h3
   have := h.top.lt
   exact ⟨by omega, fun k hk hne e => by have := hbk k hk; omega⟩
 have hr' : ∀ k, k < r → k ≠ i → RowG w'' lo 49 (if k < i then c + 1 else c) (S k) (hh k) := fun k hk hne =>
  ((h.row k hk).gb hg (fun ad e e' => by
    rw [h.adr k hk] at e; cases e
    rw [h.own hi] at e'
    exact hne (h.inj k i hk hi (Option.some.inj e').symm))).gb (bp hc) (fun ad e e' => by
    rw [h.adr k hk] at e; cases e
    exact h.off k hk (by cases e'; rfl))
 refine ⟨setF b i g3, h.low, hT, fun k hk => ?_, fun k hk => ?_, fun k hk => ?_, fun k l hk hl e => ?_, fun k hk l hl => ?_⟩
 ·by_cases e : k = i
  ·subst e
   rw [if_pos (Nat.lt_succ_self k), aN, aN]
   exact hR.gb (bp hc) (fun ad e e' => hg3.1 (by rw [e1] at e; cases e; cases e'; rfl))
  ·rw [aQ _ _ e, aQ _ _ e]
   have := hr' k hk e
   by_cases h' : k < i
   ·rw [if_pos (by omega)]; rwa [if_pos h'] at this
   ·rw [if_neg (by omega)]; rwa [if_neg h'] at this
 ·by_cases e : k = i
  ·subst e; rw [aN, aN, e1]
  ·rw [aQ _ _ e, aQ _ _ e]; exact h.adr k hk
 ·by_cases e : k = i
  ·subst e; rw [aN]; exact hg3.1
  ·rw [aQ _ _ e]; exact h.off k hk
 ·by_cases ek : k = i
  ·by_cases el : l = i
   ·omega
   ·subst ek; rw [aN, aQ _ _ el] at e; exact absurd e.symm (hg3.2 l hl el)
  ·by_cases el : l = i
   ·subst el; rw [aN, aQ _ _ ek] at e; exact absurd e (hg3.2 k hk ek)
   ·rw [aQ _ _ ek, aQ _ _ el] at e; exact h.inj k l hk hl e
 ·refine Ent.gbN ?_ hB (bW _ _) (bp hc)
  by_cases e : k = i
  ·subst e
   rw [aN]
   rw [if_pos (Nat.lt_succ_self k)] at hl
   by_cases e3 : l = c
   ·subst e3; rw [h2]; exact hu.gbR (h.row k hk) hg
   ·rw [h1 l (by omega)]; exact (h.ent k hk l (by split <;> omega)).gbR (h.row k hk) hg
  ·rw [aQ _ _ e]
   refine Ent.gbR (h.ent k hk l ?_) (h.row i hi) hg
   by_cases h' : k < i
   ·rw [if_pos (by omega)] at hl; rwa [if_pos h']
   ·rw [if_neg (by omega)] at hl; rwa [if_neg h']
theorem WJ.fin (h : WJ K w lo g r c r S b hh F) : AM K w (some ⟨g, 0, none⟩) r S F ∧ ∀ k, k < r → (S k).len = c + 1 := by
 have hl : ∀ k, k < r → (S k).len = c + 1 := fun k hk => by have := (h.row k hk).1; rwa [if_pos hk] at this
 refine ⟨⟨h.top.sl, fun k hk => ?_⟩, hl⟩
 rw [hl k hk]
 have h1 := h.row k hk
 have h2 := h.ent k hk
 rw [if_pos hk] at h1 h2
 exact (vq (cn := true) h1 h2).weak'
end
set_option maxHeartbeats 8000000 in
theorem vV {rows cols : Int} (h1 : 0 ≤ rows ∧ rows ≤ 255) (h2 : 0 ≤ cols ∧ cols ≤ 255) {L : List Int} {la : Option Addr} {w : World} (hL : Sl w la (int8L L)) (hI : I8 L) (lc : Nat) {L2 : List Int} {la2 : Option Addr} (hL2 : Sl w la2 (int8L L2)) (hI2 : I8 L2) (lc2 : Nat)
  {L3 : List Int} {la3 : Option Addr} (hL3 : Sl w la3 (int8L L3)) (hI3 : I8 L3) (lc3 : Nat) :
  CallsR Try.prog 5 #[.agg (gridL rows cols la L.length lc).toArray, .slice la2 L2.length lc2, .slice la3 L3.length lc3] w fun v w' => v = .bool true ∧ Ex w w' := by
 refine aG (args := [_, _, _]) Try.func5 rfl rfl ?_
 refine aj ?_
 refine ah rfl ?_
 refine bH (vs := gridL rows cols la L.length lc) rfl (fun g1 w1 hn1 => ⟨fun _ _ => trivial, ?_⟩)
 obtain ⟨r, c, A, hr, hc, hmat⟩ := od (most := 4) hL hI h1 h2 (by omega) lc
 repeat' (first|refine aR (cs := gridL rows cols la L.length lc) (g := g1) rfl hn1.blk rfl ?_|refine ai rfl ?_|refine aa ?_|refine aj ?_|refine ah rfl ?_|refine ae ?_)
 refine aw (hmat _ hn1.ex) rfl ?_
 rintro v w2 ⟨g2, gs2, cp2, rfl, hO2, hE2⟩
 refine ⟨fun _ _ => trivial, ?_⟩
 have hE02 := hn1.ex.trans hE2
 repeat' (first|refine aD (j := 0) (a := some ⟨g2, 0, none⟩) rfl rfl ⟨_, _, rfl⟩ (by omega) ?_|refine aZ (j := 0) (a := some ⟨g2, 0, none⟩) (n := r) (s := fun k => ⟨some ⟨gs2 k, 0, none⟩, c, cp2 k⟩) rfl hO2.top.sl (by omega) rfl ?_|refine ai rfl ?_|refine aa ?_|refine aj ?_|refine ah rfl ?_|refine ae ?_|refine aY rfl ?_)
 refine aw (sw (n := c) (hL2.ext hE02) hI2 (by omega)) rfl ?_
 rintro v w3 ⟨sx, hx, rfl, hRx, hEx, hE3⟩
 refine ⟨fun _ _ => trivial, ?_⟩
 skip
 refine aw (rg (hO2.ext hE3).mx (vq hRx hEx) (by omega) (by omega) (by omega)) rfl ?_
 rintro v w4 ⟨sz, hz, rfl, hRz, hEz, hE4⟩
 refine ⟨fun _ _ => trivial, ?_⟩
 have hE24 := hE3.trans hE4
 have hE04 := hE02.trans hE24
 repeat' (first|refine aO rfl rfl ?_|refine ai rfl ?_|refine aa ?_|refine aj ?_|refine ah rfl ?_|refine ae ?_|refine aY rfl ?_)
 refine aw (sw (n := r) (hL3.ext hE04) hI3 (by omega)) rfl ?_
 rintro v w5 ⟨syzz, hy, rfl, hRy, hEy, hE5⟩
 have ely : syzz.len = r := hRy.1
 have elz : sz.len = r := hRz.1
 refine ⟨fun _ _ => trivial, ?_⟩
 have hE25 := hE24.trans hE5
 have hE05 := hE04.trans hE5
 repeat' (first|refine ai rfl ?_|refine aa ?_|refine aj ?_|refine ah rfl ?_|refine ae ?_)
 refine aw (vW (hO2.ext hE25).mx (by omega) (by omega)) rfl ?_
 rintro v w6 ⟨g6, gs6, cp6, rfl, hO6, hcp6, hE6⟩
 refine ⟨fun _ _ => trivial, ?_⟩
 generalize hXv : colF L2 = X at *
 generalize hYv : colF L3 = Y at *
 generalize hWd : (fun i j => if j < c then A i j else Y i : Mat) = Z at *
 have hW1 : ∀ i j, i < r → j < c → Z i j = A i j := fun i j _ hj => by rw [← hWd]; exact if_pos hj
 have hW2 : ∀ i, i < r → Z i c = Y i := fun i _ => by rw [← hWd]; exact if_neg (Nat.lt_irrefl c)
 obtain ⟨hh0, hJ0⟩ := WJ.start (hO6.congr hW1) hcp6
 have s6 := hE6.size
 have ylow : ∀ ad, syzz.a = some ad → ad.block < w5.heap.size := fun ad e => (hRy.lo ad e).2
 repeat' (first|refine ai rfl ?_|refine aa ?_|refine aj ?_|refine ah rfl ?_|refine ae ?_|refine aY rfl ?_|refine aB ?_)
 refine aW (ι := Nat × (Nat → SD) × (Nat → Nat) × (Nat → Nat → IH)) [12, 34, 35, 36, 37, 38, 39, 40, 41, 42, 43, 44, 45, 46, 47, 48, 49, 50] (fun t => [(34, .int .i64 (t.1 : Int))])
  (fun t w' => t.1 ≤ r ∧ Ex w5 w' ∧ WJ 2 w' w5.heap.size g6 r c t.1 t.2.1 t.2.2.1 t.2.2.2 Z) (fun t => r - t.1)
  (0, _, gs6, hh0) ⟨rfl, trivial⟩ ⟨Nat.zero_le _, hE6, hJ0⟩ ?_
 rintro ⟨i, S, b, hh⟩ ξ w7 ⟨hi, hE7, hJ⟩
 simp only at hi hJ
 show CW _ _ _ _ (over [(34, .int .i64 (i : Int))] _) w7
 rcases Nat.lt_or_ge i r with hir | hir
 ·have hRy7 := hRy.ext hE7
  have hpy : W.plain syzz.a := hRy7.sl.plain (by rw [bQ]; omega)
  have own := hJ.own hir
  have hbi := (hJ.row i hir).lo _ (hJ.adr i hir)
  have hyb : ∀ w', w7.grownBy w' (Value.slice (S i).a (S i).len (S i).cap).ownBlock → Sl w' syzz.a (rowC r hy) := fun w' hg => (hRy7.gb hg (fun ad e e' => by
   have := ylow ad e
   rw [own] at e'
   have : b i = ad.block := Option.some.inj e'
   simp only at hbi
   omega)).sl
  have hRi := hJ.row i hir
  rw [if_neg (Nat.lt_irrefl i)] at hRi
  have hEd := (Ex.refl w7).drew
  repeat' (first|refine bv rfl rfl (by omega) ?_|refine ai rfl ?_|refine aa ?_|refine aj ?_|refine ah rfl ?_|refine ae ?_|refine aC rfl ?_|refine aB ?_|refine aF ?_)
  refine bn (late := [13]) (plan := [(0, none), (1, none), (2, none), (3, none), (4, none), (5, none), (6, none), (7, none), (8, none), (9, none), (10, some true), (11, some true), (12, none), (13, some false)]) (fun w' => w7.grownBy w' (Value.slice (S i).a (S i).len (S i).cap).ownBlock) bC (by kernel_rfl) (k6 (nZ (Ex.refl _))) ?_
  repeat' (first|refine aD (j := i) (a := some ⟨g6, 0, none⟩) rfl rfl ⟨_, _, rfl⟩ (by omega) ?_|refine aZ (j := i) (a := some ⟨g6, 0, none⟩) (n := r) (s := S) (a1 := (S i).a) (l1 := (S i).len) (c1 := (S i).cap) rfl (fun _ h => (hJ.topB hir h).sl) hir rfl ?_|refine bj (j := i) (a := syzz.a) rfl rfl hpy (by omega) ?_|refine bD (j := i) (a := syzz.a) (n := r) (f := hy) rfl (fun _ h => hyb _ h) hpy hir ?_|refine ai rfl ?_)
  refine oO (E := 49) (u := hy i) rfl rfl rfl (fun w1 w2 h1 h2 => bJ h2 h1 (fun k e => .inl e)) (hRi.ext hEd) (by omega) (by omega) (by have := hE7.size; have := hEd.size; omega) ?_
  intro gt sd' h' w8 hR8 hf1 hf2 hG8 hA8
  have hJd := hJ.ext hEd
  repeat' (first|refine aD (j := i) (a := some ⟨g6, 0, none⟩) rfl rfl ⟨_, _, rfl⟩ (by omega) ?_)
  refine cg (j := i) (u := sd') rfl rfl (hJd.topB hir hG8) hir (fun w9 hc9 hT9 => ⟨fun h => (nomatch h), ?_⟩)
  obtain ⟨b', hJ9⟩ := hJd.app hir hR8 hf1 hf2 hG8 hA8 (by rw [hW2 i hir]; exact ((hEy i hir).ext hE7).ext hEd) hc9 hT9
  have hE9 : Ex w5 w9 := ((hE7.trans hEd).gb hG8 (fun q e => by rw [own] at e; obtain rfl := Option.some.inj e; exact hbi.1)).chg hc9 hJ.low
  repeat' (first|refine ai rfl ?_|refine aa ?_|refine ah rfl ?_|refine ae ?_|refine bi rfl rfl (by omega) (by omega) ?_|refine aJ ?_)
  exact ⟨⟨(i + 1, _, b', _), ⟨hir, hE9, hJ9⟩, by simp only; omega, rfl, trivial⟩, (by (repeat (first|exact aH _ _ _|refine ax rfl ?_|refine av rfl ?_|refine ak rfl ?_|refine ao rfl ?_)))⟩
 obtain rfl : i = r := by omega
 repeat' (first|refine bu rfl rfl (Int.le_refl _) ?_|refine ai rfl ?_|refine aa ?_|refine aj ?_|refine ah rfl ?_|refine ae ?_|refine ay rfl ?_|refine aS ?_|refine aL ?_|refine aT ?_)
 obtain ⟨hWa, hWl⟩ := hJ.fin
 rw [elz]
 have hA7 := AM.up60 (uR (hO2.ext (hE25.trans hE7))) (by omega)
 have hok := uS (gs := gs2) (cp := cp2) (show 1 ≤ i ∧ i ≤ 16 by omega) (show 1 ≤ c ∧ c ≤ 16 by omega)
 refine aw (ti hA7 (vq (hRz.ext (hE5.trans hE7)) (fun k hk => (hEz k hk).ext (hE5.trans hE7))) (by omega)) rfl ?_
 rintro v w8 ⟨t8zz, rfl, ht8, hE8⟩
 refine ⟨fun _ _ => trivial, ?_⟩
 obtain rfl : t8zz = true := ht8.2 ⟨hok, rfl, X, fun _ _ => rfl⟩
 repeat' (first|refine ai rfl ?_|refine bG rfl rfl ?_)
 rw [ely]
 refine aw (ti (hA7.ext hE8) (vq (hRy.ext (hE7.trans hE8)) (fun k hk => (hEy k hk).ext (hE7.trans hE8))) (by omega)) rfl ?_
 rintro v w9 ⟨t9zz, rfl, ht9, hE9⟩
 refine ⟨fun _ _ => trivial, ?_⟩
 have hE79 := hE8.trans hE9
 repeat' (first|refine ai rfl ?_|refine bG rfl rfl ?_)
 refine aw (py (hA7.ext hE79) (AM.up60 (hWa.ext hE79) (by omega)) (by omega) (by omega)) rfl ?_
 rintro v w10 ⟨t10, rfl, ht10, hE10⟩
 refine ⟨fun _ _ => trivial, ?_⟩
 obtain rfl : t9zz = t10 := uT ht9 (ht10.trans ⟨fun h => ⟨hok, rfl, (vX hW1 hW2).2 (by have := h.2.2.2; rw [hWl 0 (by omega)] at this; exact this)⟩, fun h => ⟨hok, ⟨by omega, by omega, by rw [hWl 0 (by omega)]; omega, by rw [hWl 0 (by omega)]; omega, fun k hk => by rw [hWl k hk, hWl 0 (by omega)]⟩, rfl, by rw [hWl 0 (by omega)]; exact (vX hW1 hW2).1 h.2.2⟩⟩)
 repeat' (first|refine vA rfl rfl ?_|refine ai rfl ?_|refine bG rfl rfl ?_)
 refine aw (nf _) rfl ?_
 rintro v wz ⟨rfl, hEz'⟩
 refine ⟨fun _ _ => trivial, ?_⟩
 repeat' (first|refine ai rfl ?_|refine aa ?_|refine ae ?_|refine aK ?_)
 exact bB rfl (rt rfl) ⟨rfl, ((hE05.trans hE7).trans hE79).trans (hE10.trans hEz')⟩
end Go.Proofs.Ytiejljicpinheaa
