import Derived.Test.YtppipmkpmmdcjaaA12
namespace Go.Proofs.Ytppipmkpmmdcjaa
open Go.W Go.LM Go.LA
theorem RO.weak' {cn : Bool} {K n lo g cap : Nat} {w : World} {f : Nat → Int} (h : RO cn K w lo g cap n f) : RO false K w lo g cap n f := by
 obtain ⟨hh, h1, h2⟩ := h.ex; exact ⟨h.low, h.le, hh, h1, fun i hi => (h2 i hi).weak'⟩
def withId (r : Nat) (F : Mat) : Mat := fun x b => if x < r then F x b else idM (x - r) b
theorem lQ (a : Value) (m : Int) (ha : ∃ x l c, a = .slice x l c := by exact ⟨_, _, _, rfl⟩) : NoI [a, .int .i64 m] := fun v hv m' e => by
 obtain ⟨x, l, c, rfl⟩ := ha
 simp only [List.mem_cons, List.not_mem_nil, or_false] at hv
 rcases hv with rfl | rfl <;> cases e
abbrev pairL (g n r : Nat) : List Value := [.slice (some ⟨g, 0, none⟩) n n, .int .i64 r]
set_option maxHeartbeats 2000000 in
theorem kQ {cn : Bool} {K r c cap : Nat} {w : World} {a : Option Addr} {s : Nat → SD} {F : Nat → Nat → Int} (hM : MX cn K w a r c s F) (hr : 1 ≤ r ∧ r ≤ 16) (hc : 1 ≤ c ∧ c ≤ 16) (hK1 : 1 ≤ K) :
  CallsR Try.prog 31 #[.slice a r cap] w fun v w' => ∃ g s', v = .agg (pairL g c r).toArray ∧ w.heap.size ≤ g ∧ Blk w' g 29 (topC c s') ∧ (∀ j, j < c → RX false K w' (s' j) (r + c) (fun i => withId r F i j)) ∧ Ex w w' := by
 refine aJ (args := [_]) Try.func31 rfl rfl ?_
 refine ao ?_
 refine ah rfl ?_
 refine aD (fun g0 w0 hn0 => ⟨fun _ _ => trivial, ?_⟩)
 have hb0 : Blk w0 g0 66 [.slice none 0 0, .int .i64 0] := hn0.blk
 repeat' (first|refine ai rfl ?_|refine aa ?_|refine ao ?_|refine ah rfl ?_|refine ae ?_)
 refine ax (fO (hM.ext hn0.ex) hr hc) rfl ?_
 rintro v w1 ⟨g, gs, rfl, hO1, hE1⟩
 refine ⟨fun _ _ => trivial, ?_⟩
 have hpa := hM.plain (by omega)
 obtain ⟨p0, d0, hh0, e0, _, _, _, _⟩ := hM.get (i := 0) (by omega) (by omega)
 repeat' (first|refine cD (cs := pairL g c r) rfl ?_|refine ai rfl ?_|refine bn rfl ?_)
 refine aD (fun g3 w2 hn2 => ⟨fun _ _ => trivial, ?_⟩)
 have hb2 : Blk w2 g3 66 [.slice none 0 0, .int .i64 0] := hn2.blk
 refine aw (n := 2) (vs := pairL g c r) rfl rfl rfl rfl hb2 rfl (fun w3 hc3 hb3 => ⟨fun _ _ => trivial, ?_⟩)
 have lo0 := hn0.lo
 have s0 := hn0.ex.size
 have low1 := hO1.low
 have lg := hO1.lt
 have s1 := hE1.size
 have lo2 := hn2.lo
 have hE03 : Ex w w3 := ((hn0.ex.trans hE1).trans hn2.ex).chg hc3 (by omega)
 have hg3 : g3 ≠ g := by omega
 have hg0 : g0 ≠ g := by have := hb0.lt; omega
 have hgs3 : ∀ k, k < c → gs k ≠ g3 := fun k hk => by have := (hO1.row k hk).lt; omega
 have hgs0 : ∀ k, k < c → gs k ≠ g0 := fun k hk => by have := (hO1.row k hk).low; have := hb0.lt; omega
 have hg03 : g0 ≠ g3 := by have := hb0.lt; omega
 have hb03 := ((hb0.ext hE1).ext hn2.ex).chg hc3 hg03
 have hO3 := (hO1.ext hn2.ex).gbN hb2 (lQ _ _) (bc hc3) (Ne.symm hg3) hgs3
 have s3 := hc3.size
 have s2 := hn2.ex.size
 have lgs : ∀ k, k < c → gs k < w1.heap.size := fun k hk => (hO1.row k hk).lt
 repeat' (first|refine aV (g := g3) rfl hb3 rfl ?_|refine ai rfl ?_|refine aa ?_|refine ao ?_|refine ah rfl ?_|refine ae ?_|refine bn rfl ?_|refine aL rfl ?_|refine aC ?_)
 refine bh (ι := Nat × (Nat → SD)) [4, 5, 6, 15, 16, 17, 18, 19, 20, 21, 22, 23, 24, 25, 26, 27, 28, 29, 30, 31, 32, 33, 34, 35, 36] (fun t => [(15, .int .i64 (t.1 : Int))])
  (fun t w' => (t.1 ≤ c ∧ Ex w w' ∧ w3.heap.size ≤ w'.heap.size) ∧ Blk w' g 29 (topC c t.2) ∧ Blk w' g3 66 (pairL g c r) ∧ Blk w' g0 66 [.slice none 0 0, .int .i64 0] ∧
   (∀ k, k < t.1 → RX false K w' (t.2 k) (r + c) (fun i => withId r F i k) ∧ ∀ ad, (t.2 k).a = some ad → ad.block = gs k ∨ w3.heap.size ≤ ad.block) ∧ ∀ k, t.1 ≤ k → k < c → t.2 k = ⟨some ⟨gs k, 0, none⟩, r, r⟩ ∧ RO false K w' w0.heap.size (gs k) r r (fun i => F i k)) (fun t => c - t.1)
  (0, fun k => ⟨some ⟨gs k, 0, none⟩, r, r⟩) ⟨rfl, trivial⟩ ⟨⟨by omega, hE03, Nat.le_refl _⟩, hO3.top, hb3, hb03, fun k hk => by simp only at hk; omega, fun k _ hk => ⟨rfl, (hO3.row k hk).weak'⟩⟩ ?_
 rintro ⟨j, s'⟩ ξ w4 ⟨⟨hj, hE4, hs4⟩, hT4, hb34, hb04, hdone, htodo⟩
 simp only at hj hT4 hdone htodo
 show CW _ _ _ _ (over [(15, .int .i64 (j : Int))] _) w4
 rcases Nat.lt_or_ge j c with hjc | hjc
 ·obtain ⟨ej, hRj⟩ := htodo j (Nat.le_refl _) hjc
  repeat' (first|refine bA rfl rfl (by omega) ?_|refine aB (j := j) (a := some ⟨g, 0, none⟩) rfl rfl ⟨_, _, rfl⟩ (by omega) ?_|refine aS (j := j) (a := some ⟨g, 0, none⟩) rfl hT4.sl (by omega) ej ?_|refine aB (j := 0) (a := a) rfl rfl hpa (by omega) ?_|refine aS (j := 0) (a := a) rfl (hM.ext hE4).top (by omega) e0 ?_|refine dS (n := c) rfl rfl (by omega) (by omega) (fun g5 w5 hn5 => ⟨fun _ _ => trivial, ?_⟩)|refine ai rfl ?_|refine aa ?_|refine ao ?_|refine ah rfl ?_|refine ae ?_|refine bn rfl ?_|refine aE rfl ?_|refine aC ?_|refine aI ?_)
  refine ax (ce (z := 1) (by omega) (by omega) _) rfl ?_
  rintro v w6 ⟨hI6, hE6⟩
  refine ⟨fun _ _ => trivial, ?_⟩
  obtain ⟨x, rfl⟩ := hI6.ih
  have hb5 := hn5.blk.ext hE6
  repeat' (first|refine aU (j := j) (a := some ⟨g5, 0, none⟩) rfl rfl ⟨_, _, rfl⟩ (by omega) ?_)
  refine bP (j := j) (u := x) rfl rfl hb5 (by omega) (fun w7 hc7 hb7 => ⟨fun _ _ => trivial, ?_⟩)
  have lo5 := hn5.lo
  have s5 := hn5.ex.size
  have s6 := hE6.size
  have s7 := hc7.size
  have hE47 : Ex w4 w7 := (hn5.ex.trans hE6).chg hc7 lo5
  have hE47d : Ex w4 w7.drew := hE47.drew
  have hRj7 := hRj.ext hE47d
  obtain ⟨hh, hbj, hEj⟩ := hRj7.ex
  have hu7 : ∀ i, i < c → Ent false K w7.drew (setF (fun _ => ih0) j x i).val (idM i j) := fun i hi => by
   by_cases hij : i = j
   ·subst hij
    rw [aK, bq]
    exact ((Ent.of hI6 (bD (e := K) (by decide) hK1)).gbN hb5 (bx _ _) (bc hc7)).ext (Ex.refl w7).drew
   ·rw [aN _ _ hij, bv hij]
    exact jQ _
  have hown : Own w7.drew w0.heap.size 27 2 (some ⟨gs j, 0, none⟩) r r (rowC r hh) := hbj.own (bT _ _) (by simp only [maxLen]; omega) hRj.low
  have hg3j := hgs3 j hjc
  have hg0j := hgs0 j hjc
  have hgj : gs j ≠ g := hO1.off j hjc
  have lgj := lgs j hjc
  repeat' (first|refine aa ?_|refine ae ?_)
  refine aZ (late := [7]) (plan := [(0, none), (1, none), (2, none), (3, none), (4, none), (5, some true), (6, none), (7, some false)]) (fun w' => Blk w' g3 66 (pairL g c r)) bt (by kernel_rfl) (hb34.ext hE47d) ?_
  repeat' (first|refine aV (g := g3) rfl (fun _ h => h) rfl ?_|refine ai rfl ?_|refine aL rfl ?_)
  refine fC (E := 27) (s := 2) (z := .agg #[.bool false, .slice none 0 0]) (m := c) (c := c) (lo := w0.heap.size) (vs := rowC r hh) (news := rowC c (setF (fun _ => ih0) j x)) rfl rfl rfl rfl hown hb7.drew.sl ⟨_, _, rfl⟩ (bT _ _) (ly _ _) (by omega) (by omega) (by have := hE4.size; have : w7.drew.heap.size = w7.heap.size := rfl; omega) ?_
  intro a' cap' w8 ho8 hg8 hA8
  have hg8' : w7.drew.grownBy w8 (some (gs j)) := hg8
  refine ⟨fun _ h => h.gb hg8' (fun e => hg3j (by cases e; rfl)), ?_⟩
  have hT8 := (hT4.ext hE47d).gb hg8' (fun e => hgj (by cases e; rfl))
  have hb38 := (hb34.ext hE47d).gb hg8' (fun e => hg3j (by cases e; rfl))
  have hb08 := (hb04.ext hE47d).gb hg8' (fun e => hg0j (by cases e; rfl))
  repeat' (first|refine aB (j := j) (a := some ⟨g, 0, none⟩) rfl rfl ⟨_, _, rfl⟩ (by omega) ?_)
  refine bY (j := j) (u := ⟨a', r + c, cap'⟩) rfl rfl hT8 (by omega) (fun w9 hc9 hT9 => ⟨fun h => (nomatch h), ?_⟩)
  repeat' (first|refine ai rfl ?_|refine aa ?_|refine ah rfl ?_|refine ae ?_|refine bi rfl rfl (by omega) (by omega) ?_|refine aM ?_)
  have hwsz : w7.drew.heap.size = w7.heap.size := rfl
  have s8 := hg8'.size
  have hE9 : Ex w w9 := ((hE4.trans hE47d).gb hg8' (fun k e => by cases e; have := hRj.low; omega)).chg hc9 (by omega)
  have hcat := dM (n := r) (m := c) (f := hh) (g := setF (fun _ => ih0) j x)
  have hX8 : RX false K w8 ⟨a', r + c, cap'⟩ (r + c) (fun i => withId r F i j) := by
   refine ⟨rfl, ho8.cap, _, by rw [← hcat]; exact ho8.sl, fun i hi => ?_⟩
   simp only [withId]
   by_cases hir : i < r
   ·rw [if_pos hir, if_pos hir]; exact (hEj i hir).gbN hbj (bx _ _) hg8'
   ·rw [if_neg hir, if_neg hir]; exact (hu7 (i - r) (by omega)).gbN hbj (bx _ _) hg8'
  have hfr : ∀ ad, a' = some ad → ad.block = gs j ∨ w3.heap.size ≤ ad.block := fun ad e => by
   rcases hA8 with h | h
   ·rw [h] at e; cases e; exact .inl rfl
   ·exact .inr (by have := h ad e; omega)
  refine ⟨⟨(j + 1, setF s' j ⟨a', r + c, cap'⟩), ⟨⟨hjc, hE9, by have := hc9.size; omega⟩, hT9, hb38.chg hc9 hg3, hb08.chg hc9 hg0, fun k hk => ?_, fun k hk hkc => ?_⟩, by simp only; omega, rfl, trivial⟩, (by (repeat (first|exact aF _ _ _|refine ay rfl ?_|refine av rfl ?_|refine aj rfl ?_|refine ak rfl ?_)))⟩
  ·simp only at hk ⊢
   by_cases hkj : k = j
   ·subst hkj
    rw [aK]
    exact ⟨hX8.gbT hT8 (bc hc9), hfr⟩
   ·rw [aN _ _ hkj]
    obtain ⟨h1, h2⟩ := hdone k (by omega)
    refine ⟨((h1.ext hE47d).gbN hbj (bx _ _) hg8' (fun ad e => ?_)).gbT hT8 (bc hc9), h2⟩
    rcases h2 ad e with h | h
    ·rw [h]; exact fun e => hkj (hO1.inj k j (by omega) hjc e)
    ·omega
  ·simp only at hk ⊢
   rw [aN _ _ (by omega)]
   obtain ⟨h1, h2⟩ := htodo k (by omega) hkc
   exact ⟨h1, ((h2.ext hE47d).gbN hbj (bx _ _) hg8' (fun e => by have := hO1.inj k j hkc hjc e; omega)).gbN hT8 (bQ _ _) (bc hc9) (hO1.off k hkc)⟩
 ·have ejc : c = j := by omega
  subst ejc
  repeat' (first|refine bz rfl rfl (by omega) ?_|refine aP (g := g3) rfl hb34 rfl ?_|refine aa ?_|refine ao ?_|refine ah rfl ?_|refine ae ?_|refine aA rfl ?_|refine aW ?_|refine aO ?_|refine aX ?_)
  refine aw (n := 2) (vs := pairL g c r) rfl rfl rfl rfl hb04 rfl (fun w5 hc5 hb5 => ⟨fun _ _ => trivial, ?_⟩)
  repeat' (first|refine aa ?_|refine ae ?_|refine aT ?_)
  refine bF rfl (rc rfl rfl hb5) ⟨g, s', rfl, by omega, hT4.chg hc5 (Ne.symm hg0), fun k hk => ?_, hE4.chg hc5 lo0⟩
  obtain ⟨h1, h2⟩ := hdone k hk
  refine h1.gbN hb04 (lQ _ _) (bc hc5) (fun ad e => ?_)
  rcases h2 ad e with h | h
  ·rw [h]; exact hgs0 k hk
  ·have := hb0.lt; omega
end Go.Proofs.Ytppipmkpmmdcjaa
namespace Go.W
def natC (n : Nat) (f : Nat → Nat) : List Value := (List.range n).map fun i => Value.int .i64 (f i : Int)
theorem kg (n : Nat) (f : Nat → Nat) : natC (n + 1) f = natC n f ++ [.int .i64 (f n : Int)] := by unfold natC; rw [List.range_succ, List.map_append]; rfl
theorem ic (n : Nat) (f : Nat → Nat) : (natC n f).length = n := by simp [natC]
theorem gC {n : Nat} {f f' : Nat → Nat} (e : ∀ i, i < n → f i = f' i) : natC n f = natC n f' := List.map_congr_left fun i hi => by rw [e i (List.mem_range.1 hi)]
theorem lU {n : Nat} {f : Nat → Nat} {i : Nat} (hi : i < n) : (natC n f)[i]? = some (.int .i64 (f i : Int)) := by simp [natC, hi]
theorem kh {n m : Nat} {f : Nat → Nat} (hm : n ≤ m) : (natC m f).take n = natC n f := by
 unfold natC; rw [← List.map_take, List.take_range, Nat.min_eq_left hm]
theorem eC {n m : Nat} {f g : Nat → Nat} : natC n f ++ natC m g = natC (n + m) fun i => if i < n then f i else g (i - n) := by
 induction m with
 | zero => rw [show natC 0 g = [] from rfl, List.append_nil, Nat.add_zero]; exact gC fun i hi => by rw [if_pos hi]
 | succ m ih => rw [← Nat.add_assoc, kg, kg, ← ih, List.append_assoc, if_neg (by omega), Nat.add_sub_cancel_left]
theorem mO (n : Nat) : (Builtin.zeroCells (Value.cells (.int .i64 0)) n).toList = natC n fun _ => 0 := by
 simp [Builtin.zeroCells, natC, Value.cells, Nat.mod_one]
def NatG (w : World) (lo E n : Nat) (s : SD) (f : Nat → Nat) : Prop :=
 s.len = n ∧ ((s = sd0 ∧ n = 0) ∨ ∃ g, s.a = some ⟨g, 0, none⟩ ∧ lo ≤ g ∧ n ≤ s.cap ∧ s.cap ≤ maxLen ∧ Blk w g E (natC s.cap f))
theorem NatG.nil (w : World) (lo E : Nat) (f : Nat → Nat) : NatG w lo E 0 sd0 f := ⟨rfl, .inl ⟨rfl, rfl⟩⟩
theorem NatG.gb {w w' : World} {lo E n : Nat} {s : SD} {f : Nat → Nat} {r : Option Nat} (hR : NatG w lo E n s f) (hg : w.grownBy w' r) (hne : ∀ ad, s.a = some ad → r ≠ some ad.block) : NatG w' lo E n s f := by
 refine ⟨hR.1, ?_⟩
 rcases hR.2 with h0 | ⟨g, h1, h2, h3, h4, h5⟩
 ·exact .inl h0
 ·exact .inr ⟨g, h1, h2, h3, h4, h5.gb hg (hne _ h1)⟩
theorem NatG.ext {w w' : World} {lo E n : Nat} {s : SD} {f : Nat → Nat} (hR : NatG w lo E n s f) (e : Ex w w') : NatG w' lo E n s f := hR.gb (jO e) (fun _ _ h => by cases h)
theorem NatG.lo {w : World} {lo E n : Nat} {s : SD} {f : Nat → Nat} (hR : NatG w lo E n s f) : ∀ ad, s.a = some ad → lo ≤ ad.block ∧ ad.block < w.heap.size := by
 intro ad e
 rcases hR.2 with ⟨h0, _⟩ | ⟨g, h1, h2, h3, h4, h5⟩
 ·rw [h0] at e; cases e
 ·rw [h1] at e; cases e; exact ⟨h2, h5.lt⟩
theorem NatG.sl {w : World} {lo E n : Nat} {s : SD} {f : Nat → Nat} (hR : NatG w lo E n s f) : Sl w s.a (natC n f) := by
 rcases hR.2 with ⟨h0, rfl⟩ | ⟨g, h1, h2, h3, h4, h5⟩
 ·exact Sl.nil _ _
 ·rw [h1, ← kh h3]; exact h5.sl.take _
theorem NatG.blk {w : World} {lo E n : Nat} {s : SD} {f : Nat → Nat} (hR : NatG w lo E n s f) : ∀ g, (Value.slice s.a s.len s.cap).ownBlock = some g → lo ≤ g ∧ Blk w g E (natC s.cap f) := by
 intro g e
 rcases hR.2 with ⟨h0, _⟩ | ⟨g', h1, h2, h3, h4, h5⟩
 ·rw [h0] at e; cases e
 ·rw [h1] at e; cases e; exact ⟨h2, h5⟩
theorem lW {P : Program} {w : World} {lo E y t ty n x : Nat} {s : SD} {f : Nat → Nat} {i0 : TypeInfo} {ga : Nat} (ht : P.underlying t = some (.slice E)) (hi : P.info? E = some i0) (hz : i0.zero = some (.int .i64 0)) (hsz : i0.size = 1) (hby : i0.bytes = y)
  (hR : NatG w lo E n s f) (hx : Sl w (some ⟨ga, 0, none⟩) [.int .i64 (x : Int)]) (hm : n + 1 ≤ 9223372036854775807) (hb : (n + 1) * y ≤ 140737488355328) (hlo : lo ≤ w.heap.size) :
  ∃ s' w' f', (Builtin.append_ #[t, t] ty #[.slice s.a s.len s.cap, .slice (some ⟨ga, 0, none⟩) 1 1]).run P w = .ok (.slice s'.a s'.len s'.cap) w' ∧ NatG w' lo E (n + 1) s' f' ∧ (∀ i, i < n → f' i = f i) ∧ f' n = x ∧
   w.grownBy w' (Value.slice s.a s.len s.cap).ownBlock ∧ (s'.a = s.a ∨ ∀ ad, s'.a = some ad → w.heap.size ≤ ad.block) := by
 have e : ∀ n, (⟨ga, 0, none⟩ : Addr).add n = ⟨ga, 0 + n, none⟩ := fun n => by unfold Addr.add; split <;> simp_all
 have hnews : ∀ j u, ([.int .i64 (x : Int)] : List Value)[j]? = some u → w.cell? ((⟨ga, 0, none⟩ : Addr).add j) = some u := fun j u hu => by
  have hj : j < ([.int .i64 (x : Int)] : List Value).length := (List.getElem?_eq_some_iff.1 hu).1
  have := hx.get j hj
  rw [e]
  simp only [elt] at this
  rw [this, List.getD_eq_getElem?_getD, hu]; rfl
 have hl : ([.int .i64 (x : Int)] : List Value).length = 1 * i0.size := by rw [hsz]; rfl
 have hmax : ∀ old, grownCap w (n + 1) old E ≤ maxLen := fun old => grownCap_le_maxLen w (n + 1) old E hm
 have hge : ∀ old, n + 1 ≤ grownCap w (n + 1) old E := fun old => grownCap_ge w (n + 1) old E
 have hnew : ∀ (k : Nat), n + 1 ≤ k → (natC n f ++ [.int .i64 (x : Int)] ++ (Builtin.zeroCells (Value.cells (.int .i64 0)) (k - (n + 1))).toList) = natC k (fun i => if i < n then f i else if i = n then x else 0) := fun k hk => by
  rw [mO, show ([.int .i64 (x : Int)] : List Value) = natC 1 (fun _ => x) from rfl, eC, eC]
  rw [show n + 1 + (k - (n + 1)) = k by omega]
  refine gC fun i _ => ?_
  by_cases h1 : i < n
  ·rw [if_pos (by omega), if_pos h1, if_pos h1]
  ·by_cases h2 : i = n
   ·subst h2; rw [if_pos (by omega), if_neg (by omega), if_neg (by omega), if_pos rfl]
   ·rw [if_neg (by omega), if_neg h1, if_neg h2]
 have hgr : ∀ (o : Obj) {row : Option Nat}, w.grownBy (w.drew.alloc o) row := fun o _ => ⟨rfl, rfl, rfl, by simp, fun k hk _ => heap_alloc_old w.drew o hk⟩
 have hbl : ∀ (xs zs : List Value) (k : Nat), xs ++ zs = natC k (fun i => if i < n then f i else if i = n then x else 0) → ∀ cs : Array Value, cs.toList = xs ++ zs → Blk (w.drew.alloc (.cells cs E)) w.heap.size E (natC k (fun i => if i < n then f i else if i = n then x else 0)) := fun xs zs k e cs hcs => by
  have : cs = (natC k (fun i => if i < n then f i else if i = n then x else 0)).toArray := by rw [← e, ← hcs]
  rw [this]
  exact heap_alloc_new w.drew _
 obtain ⟨hlen, hcase⟩ := hR
 rcases hcase with ⟨rfl, rfl⟩ | ⟨g, h1, h2, h3, h4, h5⟩
 ·have hr := run_append_nil (P := P) w t ty E i0 _ ht hi hz ⟨ga, 0, none⟩ 1 1 ([.int .i64 (x : Int)] : List Value) hl hnews (by omega) (by omega) (by rw [hby]; omega)
  refine ⟨⟨some ⟨w.heap.size, 0, none⟩, 1, grownCap w 1 0 E⟩, _, fun i => if i < 0 then f i else if i = 0 then x else 0, hr, ⟨rfl, .inr ⟨_, rfl, hlo, hge 0, hmax 0, ?_⟩⟩, fun i hi => by omega, rfl, hgr _, .inr fun ad e => by cases e; exact Nat.le_refl _⟩
  have := hnew (grownCap w 1 0 E) (hge 0)
  rw [show natC 0 f = [] from rfl, List.nil_append] at this
  exact hbl _ _ _ this _ (by simp)
 ·obtain ⟨sa, sl, sc⟩ := s
  simp only at h1 hlen h3 h4 h5
  subst h1; subst hlen
  by_cases hroom : sl + 1 ≤ sc
  ·have hr := run_append_room (P := P) w t ty E i0 ht hi g sl sc _ h5 ⟨ga, 0, none⟩ 1 1 ([.int .i64 (x : Int)] : List Value) hl hnews (fun u hu => by
    simp only [List.mem_cons, List.not_mem_nil, or_false] at hu
    rw [hu]; rfl) hroom (by
    rw [hsz, List.size_toArray, ic]
    simp only [List.length_cons, List.length_nil]
    omega)
   refine ⟨⟨some ⟨g, 0, none⟩, sl + 1, sc⟩, _, fun i => if i = sl then x else f i, hr, ⟨rfl, .inr ⟨g, rfl, h2, hroom, h4, ?_⟩⟩, fun i hi => if_neg (by omega), if_pos rfl, ⟨rfl, rfl, rfl, by simp, fun k _ hk => setRow_other w g k _ (fun e => hk (by simp [Value.ownBlock, e]))⟩, .inl rfl⟩
   have hset : natC sc (fun i => if i = sl then x else f i) = (natC sc f).take sl ++ ([.int .i64 (x : Int)] : List Value) ++ (natC sc f).drop (sl + 1) := by
    rw [kh (by omega)]
    obtain ⟨d, hd⟩ : ∃ d, sc = sl + 1 + d := ⟨sc - (sl + 1), by omega⟩
    have hdrop : (natC sc f).drop (sl + 1) = natC d fun i => f (sl + 1 + i) := by
     refine List.ext_getElem? fun i => ?_
     rw [List.getElem?_drop]
     by_cases hi : i < d
     ·rw [lU (by omega), lU hi]
     ·rw [List.getElem?_eq_none (by rw [ic]; omega), List.getElem?_eq_none (by rw [ic]; omega)]
    rw [hdrop, show ([.int .i64 (x : Int)] : List Value) = natC 1 (fun _ => x) from rfl, eC, eC, hd]
    refine gC fun i hi => ?_
    by_cases h1 : i < sl
    ·rw [if_neg (by omega), if_pos (by omega), if_pos h1]
    ·by_cases h2 : i = sl
     ·rw [if_pos h2, if_pos (by omega), if_neg h1]
     ·rw [if_neg h2, if_neg (by omega), show sl + 1 + (i - (sl + 1)) = i by omega]
   have := setRow_heap w g (natC sc f).toArray ((natC sc f).toArray.toList.take (sl * i0.size) ++ ([.int .i64 (x : Int)] : List Value) ++ (natC sc f).toArray.toList.drop (sl * i0.size + ([.int .i64 (x : Int)] : List Value).length)).toArray E (0, 0) h5
   rw [hsz, Nat.mul_one] at this ⊢
   rw [hset]
   exact this
  ·have hcap : sc = sl := by omega
   subst hcap
   have holds : ∀ j u, (natC sc f)[j]? = some u → w.cell? ((⟨g, 0, none⟩ : Addr).add j) = some u := fun j u hu => by
    have e' : ∀ n, (⟨g, 0, none⟩ : Addr).add n = ⟨g, n, none⟩ := fun n => by unfold Addr.add; split <;> simp_all
    rw [e', h5.at]; exact hu
   have hr := run_append_grow (P := P) w t ty E i0 _ ht hi hz ⟨g, 0, none⟩ sc sc (natC sc f) (by rw [hsz, ic, Nat.mul_one]) holds ⟨ga, 0, none⟩ 1 1 ([.int .i64 (x : Int)] : List Value) hl hnews (by omega) (Int.ofNat_le.2 hm) (by rw [hby]; exact growslice_fits (by omega) hb)
   refine ⟨⟨some ⟨w.heap.size, 0, none⟩, sc + 1, grownCap w (sc + 1) sc E⟩, _, fun i => if i < sc then f i else if i = sc then x else 0, hr, ⟨rfl, .inr ⟨_, rfl, hlo, hge sc, hmax sc, ?_⟩⟩, fun i hi => if_pos hi, (if_neg (Nat.lt_irrefl _)).trans (if_pos rfl), hgr _, .inr fun ad e => by cases e; exact Nat.le_refl _⟩
   exact hbl _ _ _ (hnew (grownCap w (sc + 1) sc E) (hge sc)) _ (by simp)
section
variable {P : Program} {S : World → Prop} {ops : List Oper} {K : Env → World → Prop} {rest : List (Oper × Option Bool)} {ρ : Env} {w : World} {b : Option Bool} {kf : Bool} {d : Nat} {dst : Option Nat} {T T' : TypeId} {pos : String} {af : Array Edge}
theorem mP {T1 E y n d1 t lo u : Nat} {x : Operand} {s : SD} {f : Nat → Nat} {T2 : TypeId} {pos2 : String} {af2 : Array Edge} [hT : Slc P T1 E 1 y] [hz : Zro P E (.int .i64 0)]
  (hs : ρ t = .slice s.a s.len s.cap) (hx : ev ρ x = .int .i64 (u : Int)) (htd : Nat.beq t d1 = false)
  (hR : NatG w lo E n s f) (hm : n + 1 ≤ 9223372036854775807) (hb : (n + 1) * y ≤ 140737488355328) (hlo : lo ≤ w.heap.size)
  (h : ∀ g s' f' w', NatG w' lo E (n + 1) s' f' → (∀ i, i < n → f' i = f i) → f' n = u → w.grownBy w' (Value.slice s.a s.len s.cap).ownBlock → (s'.a = s.a ∨ ∀ x, s'.a = some x → w.heap.size ≤ x.block) →
   RR P (fun _ => True) ops K rest (upd (upd ρ d1 (.slice (some ⟨g, 0, none⟩) 1 1)) d (.slice s'.a s'.len s'.cap)) w') :
  RR P (fun _ => True) ops K ((⟨some d1, .buildSlice T1 1 #[(0, x)], T2, pos2, af2, none⟩, some false) :: (⟨some d, .call ⟨.builtin .append, #[.tmp t, .tmp d1], #[T1, T1]⟩, T, pos, af, none⟩, some false) :: rest) ρ w := by
 refine m9 (E := E) (k := IntKind.i64) (u := (u : Int)) hx (fun g w1 hn => ⟨fun _ _ => trivial, ?_⟩)
 refine cQ rfl ?_
 unfold OpW
 obtain ⟨i0, hi0, hzz⟩ := Option.map_eq_some_iff.1 hT.sz
 simp only [Prod.mk.injEq] at hzz
 obtain ⟨i1, hi1, hz1⟩ := Option.map_eq_some_iff.1 hz.ok
 rw [hi0] at hi1
 simp only [Option.some.injEq] at hi1
 subst hi1
 have hsz := hn.ex.size
 obtain ⟨s', w', f', hr, h1, h2, h3, h4, h5⟩ := lW (P := P) (ty := T) hT.un hi0 hz1 hzz.1 hzz.2 (hR.ext hn.ex) hn.blk.sl hm hb (by omega)
 have e1 : ev (upd ρ d1 (.slice (some ⟨g, 0, none⟩) 1 1)) (.tmp t) = .slice s.a s.len s.cap := by
  show upd ρ d1 _ t = _
  simp only [upd, htd, cond_false, hs]
 have e2 : ev (upd ρ d1 (.slice (some ⟨g, 0, none⟩) 1 1)) (.tmp d1) = .slice (some ⟨g, 0, none⟩) 1 1 := by
  show upd ρ d1 _ d1 = _
  rw [dZ]
 have : (execOp (ev (upd ρ d1 (.slice (some ⟨g, 0, none⟩) 1 1))) ⟨some d, .call ⟨.builtin .append, #[.tmp t, .tmp d1], #[T1, T1]⟩, T, pos, af, none⟩).run P w1 = .ok (.value (.slice s'.a s'.len s'.cap)) w' := by
  simp [execOp, resolve, invoke, builtin, e1, e2, hr]
 rw [this]
 refine ⟨fun _ _ => trivial, h g s' f' w' h1 h2 h3 ?_ (h5.imp id fun hh x hx => by have := hh x hx; omega)⟩
 exact ⟨h4.os.trans hn.ex.os, h4.tape.trans hn.ex.tape, h4.output.trans hn.ex.output, by have := h4.size; omega,
  fun k hk hne => (h4.block k (by omega) hne).trans (hn.ex.block k hk)⟩
end
end Go.W
namespace Go.LA
theorem InJ.congr {R c x0 k : Nat} {P V : Mat} {l l' : Nat → Nat} (h : InJ R c P x0 k l V) (he : ∀ a, a < k → l' a = l a) : InJ R c P x0 k l' V := by
 refine ⟨h.kc, h.uni, fun a ha => by rw [he a ha]; exact h.lt a ha, fun a b hab hb => by rw [he a (by omega), he b hb]; exact h.mono a b hab hb, ?_, fun x hx => ?_⟩
 ·rw [aY (M' := fun a b => nT c V P a (l b)) fun a b _ hb => by rw [he b hb]]; exact h.nz
 ·rcases h.dep x hx with ⟨a, ha, e⟩ | ⟨kx, h1, h2, h3, d, co, h4, h5⟩
  ·exact .inl ⟨a, ha, by rw [he a ha, e]⟩
  ·refine .inr ⟨kx, h1, fun a ha => by rw [he a (by omega)]; exact h2 a ha, fun a ha hk => by rw [he a hk]; exact h3 a ha hk, d, co, h4, fun b hb => ?_⟩
   rw [h5 b hb]
   exact aQ fun a ha => by rw [he a (by omega)]
def Perm (c : Nat) (V P : Mat) : Prop := ∀ j, j < c → ∃ b, b < c ∧ ∀ x, nT c V P j x = P x b
theorem qw (c : Nat) (P : Mat) : Perm c idM P := fun j hj => ⟨j, hj, fun x => by
 unfold nT
 rw [bW hj fun k _ hne => by rw [bv (fun e => hne e.symm), Int.zero_mul], bq, Int.one_mul]⟩
theorem Perm.swap {c p q : Nat} {V P : Mat} (h : Perm c V P) (hp : p < c) (hq : q < c) : Perm c (swp V p q) P := fun j hj => by
 have hlt : (if j = q then p else if j = p then q else j) < c := by split; exact hp; split; exact hq; exact hj
 obtain ⟨b, hb, h1⟩ := h _ hlt
 exact ⟨b, hb, fun x => by rw [ib]; exact h1 x⟩
theorem tq {c k K R j x : Nat} {V P : Mat} {l : Nat → Nat} (hP : Perm c V P) (hl : ∀ x b, x < R → b < c → Lb K (P x b)) (hk : k < c) (hj : j < c) (hx : x < R) (hc : c ≤ 16) (hll : ∀ a, a < k → l a < R) : Lb (16 * K + 17) (bl (nT c V P) l k j x) := by
 unfold bl
 refine (Lb.det (e := K) (fun a b ha hb => ?_) (by omega)).mono ?_
 ·have h1 : (if a < k then a else j) < c := by split <;> omega
  have h2 : (if b < k then l b else x) < R := by split; exact hll b (by assumption); exact hx
  obtain ⟨b', hb', e⟩ := hP _ h1
  rw [e]; exact hl _ _ h2 hb'
 ·have : (K + 1) * (k + 1) ≤ (K + 1) * 16 := Nat.mul_le_mul_left _ (by omega)
  omega
theorem qx {c j x : Nat} {P : Mat} {l : Nat → Nat} (hj : j < c) : bl (nT c idM P) l 0 j x = P x j := by
 unfold bl
 rw [fY]
 simp only [Nat.not_lt_zero, if_false]
 unfold nT
 rw [bW hj fun k _ hne => by rw [bv (fun e => hne e.symm), Int.zero_mul], bq, Int.one_mul]
theorem rk {N : Mat} {l l' : Nat → Nat} {k j x : Nat} (he : ∀ a, a < k → l' a = l a) : bl N l' k j x = bl N l k j x := by
 unfold bl
 refine aY fun a b _ _ => ?_
 by_cases h : b < k
 ·rw [if_pos h, if_pos h, he b h]
 ·rw [if_neg h, if_neg h]
end Go.LA
namespace Go.Proofs.Ytppipmkpmmdcjaa
open Go.W Go.LM Go.LA
structure WkJ (w : World) (K R c k gw g5 : Nat) (N : Mat) (f : Nat → Nat) (li : SD) (s : Nat → SD) : Prop where
 top : Blk w gw 29 (topC c s)
 col : ∀ j, k ≤ j → j < c → RX false K w (s j) R (fun x => bl N f k j x)
 off : ∀ j, k ≤ j → j < c → ∀ ad, (s j).a = some ad → ad.block ≠ g5 ∧ (Value.slice li.a li.len li.cap).ownBlock ≠ some ad.block ∧ ad.block < w.heap.size
end Go.Proofs.Ytppipmkpmmdcjaa
namespace Go.Proofs.Ytppipmkpmmdcjaa
open Go.W Go.LM Go.LA
theorem nE (n : Nat) (f : Nat → Nat) : NoI (natC n f) := fun v hv m e => by
 simp only [natC, List.mem_map] at hv
 obtain ⟨i, _, rfl⟩ := hv; cases e
theorem lX {w w' : World} (h : w.grownBy w' none) : Ex w w' := (Ex.refl w).gb h (fun _k e => (nomatch e))
theorem RX.gbL {cn : Bool} {K n lo E k : Nat} {w w' : World} {s li : SD} {f : Nat → Int} {l : Nat → Nat} (h : RX cn K w s n f) (hN : NatG w lo E k li l) (hg : w.grownBy w' (Value.slice li.a li.len li.cap).ownBlock) (hne : ∀ ad, s.a = some ad → (Value.slice li.a li.len li.cap).ownBlock ≠ some ad.block) : RX cn K w' s n f := by
 cases ho : (Value.slice li.a li.len li.cap).ownBlock with
 | none => rw [ho] at hg; exact h.ext (lX hg)
 | some g =>
  obtain ⟨_, hb⟩ := hN.blk g ho
  rw [ho] at hg
  exact h.gbN hb (nE _ _) hg (fun ad e => fun h' => hne ad e (by rw [ho, h']))
theorem Ent.gbL {cn : Bool} {K lo E k : Nat} {w w' : World} {li : SD} {v : Value} {z : Int} {l : Nat → Nat} (h : Ent cn K w v z) (hN : NatG w lo E k li l) (hg : w.grownBy w' (Value.slice li.a li.len li.cap).ownBlock) : Ent cn K w' v z := by
 cases ho : (Value.slice li.a li.len li.cap).ownBlock with
 | none => rw [ho] at hg; exact h.ext (lX hg)
 | some g =>
  obtain ⟨_, hb⟩ := hN.blk g ho
  rw [ho] at hg
  exact h.gbN hb (nE _ _) hg
theorem NatG.mono {w : World} {lo lo' E n : Nat} {s : SD} {f : Nat → Nat} (h : NatG w lo E n s f) (hl : lo' ≤ lo) : NatG w lo' E n s f := by
 refine ⟨h.1, ?_⟩
 rcases h.2 with h0 | ⟨g, h1, h2, h3⟩
 ·exact .inl h0
 ·exact .inr ⟨g, h1, by omega, h3⟩
theorem NatG.gbB {w w' : World} {lo E n g : Nat} {s : SD} {f : Nat → Nat} (h : NatG w lo E n s f) (hg : w.grownBy w' (some g)) (hlt : g < lo) : NatG w' lo E n s f :=
 h.gb hg (fun ad e he => by have := (h.lo ad e).1; cases he; omega)
theorem WkJ.ext {w w' : World} {K R c k gw g5 : Nat} {N : Mat} {f : Nat → Nat} {li : SD} {s : Nat → SD} (h : WkJ w K R c k gw g5 N f li s) (e : Ex w w') : WkJ w' K R c k gw g5 N f li s :=
 ⟨h.top.ext e, fun j h1 h2 => (h.col j h1 h2).ext e, fun j h1 h2 ad h3 => by obtain ⟨a, b, c⟩ := h.off j h1 h2 ad h3; exact ⟨a, b, Nat.lt_of_lt_of_le c e.size⟩⟩
theorem InJ.skips {R c x0 k : Nat} {P V : Mat} {l : Nat → Nat} (h : InJ R c P x0 k l V) (hk : k = c) : ∀ m, InJ R c P (x0 + m) k l V
 | 0 => h
 | m + 1 => InJ.skip (InJ.skips h hk m) (fun j h1 h2 => by omega)
set_option maxHeartbeats 4000000 in
theorem iC {K r c gp : Nat} {w : World} {s0 : Nat → SD} {P : Mat} (hT : Blk w gp 29 (topC c s0)) (hX : ∀ j, j < c → RX false K w (s0 j) (r + c) (fun x => P x j)) (hr : 1 ≤ r ∧ r ≤ 16) (hc : 1 ≤ c ∧ c ≤ 16) (hK1 : 1 ≤ K) (hK : 32 * K + 40 < 17592186044415)
  (hP : ∀ j b, j < c → b < c → P (r + j) b = idM j b) :
  CallsR Try.prog 47 #[.agg (pairL gp c r).toArray] w fun v w' => ∃ (sd : SD) (f : Nat → Nat) (V : Mat), v = .slice sd.a sd.len sd.cap ∧ NatG w' w.heap.size 3 c sd f ∧ InJ (r + c) c P (r + c) c f V ∧ Ex w w' := by
 have hPl : ∀ x b, x < r + c → b < c → Lb K (P x b) := fun x b hx hb => (hX b hb).ent hx
 refine aJ (args := [_]) Try.func47 rfl rfl ?_
 refine ao ?_
 refine ah rfl ?_
 refine bM (vs := pairL gp c r) rfl (fun g1 w1 hn1 => ⟨fun _ _ => trivial, ?_⟩)
 have hb1 := hn1.blk
 repeat' (first|refine ai rfl ?_|refine aa ?_|refine ao ?_|refine ae ?_)
 refine cz (ι := Nat × Nat) [3, 10, 11, 12, 13, 14, 15, 16] (fun t => [(3, .pointer (some ⟨t.2, 0, none⟩))])
  (fun t w' => Ex w w' ∧ w.heap.size ≤ t.1 ∧ w.heap.size ≤ t.2 ∧ t.1 ≠ t.2 ∧ Blk w' t.1 29 (topC c fun _ => sd0) ∧ Blk w' t.2 66 (pairL t.1 c r) ∧ Blk w' g1 66 (pairL gp c r)) ?_ ?_
 ·have hEx : Ex w1 w1.drew := (Ex.refl _).drew
  have lo1 := hn1.lo
  have s1 := hn1.ex.size
  refine dQ (fun w' => Ex w1 w') bt hEx ?_
  refine bj (fuel := 4) (by kernel_rfl) (by kernel_rfl) [0, 1, 2, 4, 5] _ _ (by kernel_rfl) ?_
  repeat' (first|refine aV (g := g1) rfl (fun _ h => hb1.ext h) rfl ?_|refine ae ?_|refine bn rfl ?_|refine aL rfl ?_)
  refine az (fuel := 3) (rs := [3, 7]) (by kernel_rfl) (by kernel_rfl) rfl ?_
  simp only [List.forall_mem_cons, List.not_mem_nil, false_implies, implies_true, and_true]
  refine ⟨?_, ?_⟩
  ·refine ep (n := c) rfl rfl (by omega) (by omega) (fun gw w3 hn3 => ⟨fun _ h => h.trans hn3.ex, ?_⟩)
   have hbw := hn3.blk
   have lo3 : w1.heap.size ≤ gw := Nat.le_trans hEx.size hn3.lo
   try have hne : gw ≠ g7 := (by have := hb7.lt; have := hn3.lo; omega)
   replace hEx := hEx.trans hn3.ex
   try replace hb7 := hb7.ext hn3.ex
   refine ae ?_
   refine bj (fuel := 2) (by kernel_rfl) (by kernel_rfl) [6] _ _ (by kernel_rfl) ?_
   repeat' (first|refine cD (cs := pairL gw c r) rfl ?_|refine ae ?_)
   refine az (fuel := 1) (rs := [7]) (by kernel_rfl) (by kernel_rfl) rfl ?_
   rw [List.forall_mem_singleton]
   refine aD (fun g7 w7 hn7 => ⟨fun _ h => h.trans hn7.ex, ?_⟩)
   have hb7 : Blk w7 g7 66 [.slice none 0 0, .int .i64 0] := hn7.blk
   have lo7 : w1.heap.size ≤ g7 := Nat.le_trans hEx.size hn7.lo
   try have hne : gw ≠ g7 := (by have := hbw.lt; have := hn7.lo; omega)
   replace hEx := hEx.trans hn7.ex
   try replace hbw := hbw.ext hn7.ex
   refine ae ?_
   refine az (fuel := 0) (rs := [8]) (by kernel_rfl) (by kernel_rfl) rfl ?_
   rw [List.forall_mem_singleton]
   refine aw (n := 2) (vs := pairL gw c r) rfl rfl rfl rfl hb7 rfl (fun w8 hc8 hb8 => ⟨fun _ h => h.chg hc8 lo7, ?_⟩)
   replace hEx := hEx.chg hc8 lo7
   replace hbw := hbw.chg hc8 hne
   refine ae ?_
   refine bo (by kernel_rfl) ?_
   refine aa ?_
   exact ⟨⟨(gw, g7), ⟨hn1.ex.trans hEx, by simp only; omega, by simp only; omega, hne, hbw, hb8, hb1.ext hEx⟩, rfl, trivial⟩, (by (repeat (first|exact aG _ _|refine ay rfl ?_|refine av rfl ?_|refine aj rfl ?_|refine ak rfl ?_)))⟩
  ·refine aD (fun g7 w7 hn7 => ⟨fun _ h => h.trans hn7.ex, ?_⟩)
   have hb7 : Blk w7 g7 66 [.slice none 0 0, .int .i64 0] := hn7.blk
   have lo7 : w1.heap.size ≤ g7 := Nat.le_trans hEx.size hn7.lo
   try have hne : gw ≠ g7 := (by have := hbw.lt; have := hn7.lo; omega)
   replace hEx := hEx.trans hn7.ex
   try replace hbw := hbw.ext hn7.ex
   refine ae ?_
   refine az (fuel := 2) (rs := [3]) (by kernel_rfl) (by kernel_rfl) rfl ?_
   rw [List.forall_mem_singleton]
   refine ep (n := c) rfl rfl (by omega) (by omega) (fun gw w3 hn3 => ⟨fun _ h => h.trans hn3.ex, ?_⟩)
   have hbw := hn3.blk
   have lo3 : w1.heap.size ≤ gw := Nat.le_trans hEx.size hn3.lo
   try have hne : gw ≠ g7 := (by have := hb7.lt; have := hn3.lo; omega)
   replace hEx := hEx.trans hn3.ex
   try replace hb7 := hb7.ext hn3.ex
   refine ae ?_
   refine bj (fuel := 1) (by kernel_rfl) (by kernel_rfl) [6] _ _ (by kernel_rfl) ?_
   repeat' (first|refine cD (cs := pairL gw c r) rfl ?_|refine ae ?_)
   refine az (fuel := 0) (rs := [8]) (by kernel_rfl) (by kernel_rfl) rfl ?_
   rw [List.forall_mem_singleton]
   refine aw (n := 2) (vs := pairL gw c r) rfl rfl rfl rfl hb7 rfl (fun w8 hc8 hb8 => ⟨fun _ h => h.chg hc8 lo7, ?_⟩)
   replace hEx := hEx.chg hc8 lo7
   replace hbw := hbw.chg hc8 hne
   refine ae ?_
   refine bo (by kernel_rfl) ?_
   refine aa ?_
   exact ⟨⟨(gw, g7), ⟨hn1.ex.trans hEx, by simp only; omega, by simp only; omega, hne, hbw, hb8, hb1.ext hEx⟩, rfl, trivial⟩, (by (repeat (first|exact aG _ _|refine ay rfl ?_|refine av rfl ?_|refine aj rfl ?_|refine ak rfl ?_)))⟩
 ·rintro ⟨gw, g3⟩ ξ w2 ⟨hE2, lw, l3, hne, hbw2, hb32, hb12⟩
  simp only at lw l3 hne hbw2 hb32
  show CW _ _ _ _ (over [(3, .pointer (some ⟨g3, 0, none⟩))] _) w2
  repeat' (first|refine aV (g := g3) rfl hb32 rfl ?_|refine aV (g := g1) rfl hb12 rfl ?_|refine ao ?_|refine ah rfl ?_|refine aL rfl ?_)
  refine kF (s := 1) rfl rfl ⟨_, _, rfl⟩ hbw2 (hT.ext hE2).sl (by rw [bJ]; omega) (by rw [bJ, bJ]; exact Nat.le_refl _) (lz _ _) (fun w3 hc3 hb3 => ⟨fun _ _ => trivial, ?_⟩)
  rw [List.drop_eq_nil_of_le (by rw [bJ, bJ]; exact Nat.le_refl _), List.append_nil] at hb3
  have hE3 := hE2.chg hc3 lw
  have hb33 := hb32.chg hc3 (Ne.symm hne)
  repeat' (first|refine ai rfl ?_|refine aa ?_|refine ao ?_|refine ah rfl ?_|refine ae ?_)
  refine ax (ce (z := 1) (by omega) (by omega) _) rfl ?_
  rintro v w4 ⟨hI4, hE4⟩
  refine ⟨fun _ _ => trivial, ?_⟩
  obtain ⟨x4, rfl⟩ := hI4.ih
  refine aD (fun g5 w5 hn5 => ⟨fun _ _ => trivial, ?_⟩)
  have hb5 : Blk w5 g5 27 (intL false none 0 0) := hn5.blk
  refine aw (n := 2) (vs := x4.cells) rfl rfl rfl rfl hb5 rfl (fun w6 hc6 hb6 => ⟨fun _ _ => trivial, ?_⟩)
  have hE36 : Ex w3 w6 := (hE4.trans hn5.ex).chg hc6 (by have := hn5.lo; have := hE4.size; omega)
  have hE6 := hE3.trans hE36
  have s3 := hE3.size
  have s4 := hE4.size
  have lo5 := hn5.lo
  have hi5 := hn5.hi
  have s6 := hc6.size
  have hbw6 := hb3.ext hE36
  have hb36 := hb33.ext hE36
  have lw3 := hb3.lt
  have l33 := hb33.lt
  have hx6 : Ent false (16 * K + 17) w6 x4.val 1 := ((Ent.of hI4 (bD (e := 16 * K + 17) (by decide) (by omega))).ext hn5.ex).gbN hb5 (au _ _ _ _) (bc hc6)
  have hW6 : WkJ w6 (16 * K + 17) (r + c) c 0 gw g5 (nT c idM P) (fun _ => 0) sd0 s0 := by
   refine ⟨hbw6, fun j _ hj => (((hX j hj).ext hE6).congr (fun x _ => qx hj)).up (by omega), fun j _ hj ad e => ?_⟩
   have := (hX j hj).lt (by omega) ad e
   exact ⟨by omega, fun h => (nomatch h), by have := hE6.size; omega⟩
  have hw6 : w6.heap.size = w5.heap.size := hc6.size
  repeat' (first|refine ai rfl ?_|refine aa ?_|refine ao ?_|refine ah rfl ?_|refine ae ?_|refine aC ?_)
  refine bh (ι := Nat × Nat × (Nat → Nat) × Mat × (Nat → SD) × SD × IH × Int) [4, 6, 7, 8, 9, 23, 24, 25, 26, 27, 28, 29, 30, 31, 32, 33, 34, 35, 36, 37, 38, 39, 40, 41, 42, 43, 44, 45, 46, 47, 48, 49, 50, 51, 52, 53, 54, 55, 56, 57, 58, 59, 60, 61, 62, 63, 64, 65, 66, 67, 68, 69, 70, 71, 72, 73, 74, 75, 76, 77, 78, 79, 80, 81, 82, 83, 84, 85, 86, 87, 88, 89, 90] (fun t => [(6, .int .i64 (t.1 : Int)), (4, .slice t.2.2.2.2.2.1.a t.2.1 t.2.2.2.2.2.1.cap)])
   (fun t w' => (t.1 ≤ r + c ∧ Ex w w' ∧ w6.heap.size ≤ w'.heap.size) ∧ InJ (r + c) c P t.1 t.2.1 t.2.2.1 t.2.2.2.1 ∧ Perm c t.2.2.2.1 P ∧ WkJ w' (16 * K + 17) (r + c) c t.2.1 gw g5 (nT c t.2.2.2.1 P) t.2.2.1 t.2.2.2.2.2.1 t.2.2.2.2.1 ∧ NatG w' w6.heap.size 3 t.2.1 t.2.2.2.2.2.1 t.2.2.1 ∧
    Blk w' g5 27 t.2.2.2.2.2.2.1.cells ∧ Ent false (16 * K + 17) w' t.2.2.2.2.2.2.1.val t.2.2.2.2.2.2.2 ∧ t.2.2.2.2.2.2.2 = det t.2.1 (fun a b => nT c t.2.2.2.1 P a (t.2.2.1 b)) ∧ Blk w' g3 66 (pairL gw c r)) (fun t => r + c - t.1)
   (0, 0, fun _ => 0, idM, s0, sd0, x4, 1) ⟨rfl, rfl, trivial⟩ ⟨⟨by omega, hE6, Nat.le_refl _⟩, oc _ _ _ _, qw c P, hW6, NatG.nil _ _ _ _, hb6, hx6, (dx _).symm, hb36⟩ ?_
  clear hW6 hbw6 hb6 hx6 hb36 hb33 hb3 hE36
  rintro ⟨x0, k, f, V, s, li, x, d⟩ ξ2 w7 ⟨⟨hx0, hE7, hs7⟩, hJ, hPm, hW, hN, hb5', hxe, hd, hb3'⟩
  simp only at hx0 hJ hPm hW hN hb5' hxe hd
  show CW _ _ _ _ (over [(6, .int .i64 (x0 : Int)), (4, .slice li.a k li.cap)] _) w7
  have hll : li.len = k := hN.1
  have hd0 : d ≠ 0 := by rw [hd]; exact hJ.nz
  rcases Nat.lt_or_ge k c with hkc | hkc
  ·have hxlt : x0 < r + c := by
    rcases Nat.lt_or_ge x0 (r + c) with h | h
    ·exact h
    ·exfalso
     have e : x0 = r + c := by omega
     subst e
     have := hJ.ends hP
     omega
   have hlt := hJ.lt
   repeat' (first|refine aV (g := g3) rfl hb3' rfl ?_|refine bA rfl rfl (by omega) ?_|refine ai rfl ?_|refine aa ?_|refine ao ?_|refine ah rfl ?_|refine ae ?_|refine bn rfl ?_|refine aL rfl ?_|refine aE rfl ?_|refine aI ?_)
   refine aC ?_
   repeat' (first|refine ai rfl ?_|refine aa ?_|refine ao ?_|refine ah rfl ?_|refine ae ?_|refine bn rfl ?_)
   refine cz (ι := Nat) [8, 34, 35, 36, 37, 38, 39, 40, 41, 42, 43, 44, 45, 46, 47, 48, 49, 50, 51, 52] (fun j => [(8, .int .i64 (j : Int))])
    (fun j w' => Ex w7 w' ∧ k ≤ j ∧ j ≤ c ∧ (∀ m, k ≤ m → m < j → bl (nT c V P) f k m x0 = 0) ∧ (j < c → bl (nT c V P) f k j x0 ≠ 0)) ?_ ?_
   ·refine aC ?_
    refine bh (ι := Nat) [8, 34, 35, 36, 37, 38, 39, 40, 41, 42, 43, 44, 45, 46, 47, 48, 49, 50, 51, 52] (fun j => [(8, .int .i64 (j : Int))]) (fun j w' => Ex w7 w' ∧ k ≤ j ∧ j ≤ c ∧ (∀ m, k ≤ m → m < j → bl (nT c V P) f k m x0 = 0)) (fun j => c - j)
     k ⟨rfl, trivial⟩ ⟨Ex.refl _, Nat.le_refl _, by omega, fun q h1 h2 => by omega⟩ ?_
    rintro j ξ3 w8 ⟨hE8, hkj, hjc, hz⟩
    show CW _ _ _ _ (over [(8, .int .i64 (j : Int))] _) w8
    rcases Nat.lt_or_ge j c with hj | hj
    ·obtain ⟨p, dd, hh, e1, _, hp, hS, hEn⟩ := ((hW.col j hkj hj).ext hE8).get (by omega)
     repeat' (first|refine aV (g := g3) rfl (hb3'.ext hE8) rfl ?_|refine bA rfl rfl (by omega) ?_|refine aB (j := j) (a := some ⟨gw, 0, none⟩) rfl rfl ⟨_, _, rfl⟩ (by omega) ?_|refine aS (j := j) (a := some ⟨gw, 0, none⟩) rfl (hW.top.ext hE8).sl (by omega) e1 ?_|refine aU (j := x0) (a := p) rfl rfl hp (by omega) ?_|refine bp (j := x0) (a := p) rfl hS hp (by omega) ?_|refine ai rfl ?_|refine ao ?_|refine ah rfl ?_|refine bn rfl ?_|refine bB rfl rfl ?_|refine aL rfl ?_)
     refine ax (bI (hEn x0 hxlt).k) rfl ?_
     rintro v w9 ⟨rfl, hE9⟩
     refine ⟨fun _ _ => trivial, ?_⟩
     repeat' (first|refine ai rfl ?_|refine aa ?_|refine ah rfl ?_|refine ae ?_|refine bB rfl rfl ?_|refine bi rfl rfl (by omega) (by omega) ?_|refine aR rfl (fun hc => ?_) (fun hc => ?_)|refine aC ?_|refine aW ?_|refine aO ?_|refine aX ?_|refine aM ?_|refine aI ?_)
     ·refine ⟨⟨j + 1, ⟨hE8.trans hE9, by omega, hj, fun q h1 h2 => ?_⟩, by omega, rfl, trivial⟩, (by (repeat (first|exact aF _ _ _|refine ay rfl ?_|refine av rfl ?_|refine aj rfl ?_|refine ak rfl ?_)))⟩
      by_cases hqp : q = j
      ·subst hqp; exact Int.sign_eq_zero_iff_zero.1 (by assumption)
      ·exact hz q h1 (by omega)
     ·exact ⟨⟨j, ⟨hE8.trans hE9, hkj, hjc, hz, fun _ e => absurd (show (bl (nT c V P) f k j x0).sign = 0 by rw [e]; rfl) (by assumption)⟩, rfl, trivial⟩, (by (repeat (first|exact aG _ _|refine ay rfl ?_|refine av rfl ?_|refine aj rfl ?_|refine ak rfl ?_)))⟩
    ·repeat' (first|refine aV (g := g3) rfl (hb3'.ext hE8) rfl ?_|refine bz rfl rfl (by omega) ?_|refine ai rfl ?_|refine aa ?_|refine ao ?_|refine ah rfl ?_|refine ae ?_|refine bn rfl ?_|refine bS rfl rfl ?_|refine aL rfl ?_|refine aA rfl ?_|refine aW ?_|refine aO ?_|refine aX ?_)
     exact ⟨⟨j, ⟨hE8, hkj, hjc, hz, fun h => by omega⟩, rfl, trivial⟩, (by (repeat (first|exact aG _ _|refine ay rfl ?_|refine av rfl ?_|refine aj rfl ?_|refine ak rfl ?_)))⟩
   ·rintro j ξ3 w8 ⟨hE8, hkj, hjc, hz, hnz⟩
    show CW _ _ _ _ (over [(8, .int .i64 (j : Int))] _) w8
    rcases Nat.lt_or_ge j c with hj | hj
    ·have hc0 := (hW.ext hE8)
     repeat' (first|refine aV (g := g3) rfl (hb3'.ext hE8) rfl ?_|refine kZ rfl rfl (by omega) ?_|refine ai rfl ?_|refine aa ?_|refine ao ?_|refine ah rfl ?_|refine ae ?_|refine bn rfl ?_|refine aL rfl ?_|refine aA rfl ?_|refine aI ?_)
     refine ax (jT hc0.top hkc hj) rfl ?_
     rintro v w9 ⟨hc9, hT9⟩
     refine ⟨fun _ _ => trivial, ?_⟩
     have hG9 := bc hc9
     have hJ' := hJ.swap (p := j) (q := k) hkj (Nat.le_refl _) hj hkc
     have hPm' := hPm.swap hj hkc
     have hX9 : ∀ i, k ≤ i → i < c → RX false (16 * K + 17) w9 (s (swp2 k j i)) (r + c) (fun x => bl (nT c (swp V j k) P) f k i x) ∧ ∀ ad, (s (swp2 k j i)).a = some ad → ad.block ≠ g5 ∧ (Value.slice li.a li.len li.cap).ownBlock ≠ some ad.block ∧ ad.block < w9.heap.size := fun i hi hic => by
      have hlt2 : swp2 k j i < c := dH hkc hj hic
      have hle2 : k ≤ swp2 k j i := by unfold swp2; split; omega; split <;> omega
      refine ⟨((hc0.col _ hle2 hlt2).gbT hc0.top hG9).congr (fun x _ => ?_), fun ad e => ?_⟩
      ·rw [nD V P f hkj (Nat.le_refl _)]; rfl
      ·obtain ⟨q1, q2, q3⟩ := hc0.off _ hle2 hlt2 ad e
       exact ⟨q1, q2, by have := hc9.size; omega⟩
     have hN9 := NatG.gbB (hN.ext hE8) hG9 (by omega)
     have hb59 := (hb5'.ext hE8).chg hc9 (by omega)
     have hxe9 := (hxe.ext hE8).gbN hc0.top (bQ _ _) hG9
     have hb39 := (hb3'.ext hE8).chg hc9 (Ne.symm hne)
     have hE9 : Ex w w9 := (hE7.trans hE8).chg hc9 lw
     have hd9 : d = det k (fun a b => nT c (swp V j k) P a (f b)) := by
      rw [hd]; exact aY fun a b ha _ => by rw [ib, if_neg (by omega), if_neg (by omega)]
     have hpiv : bl (nT c (swp V j k) P) f k k x0 ≠ 0 := by
      rw [nD V P f hkj (Nat.le_refl _), if_pos rfl]; exact hnz hj
     have hs9 : w6.heap.size ≤ w9.heap.size := by have := hE8.size; have := hc9.size; omega
     generalize hV' : swp V j k = V' at *
     generalize hsv : (fun i => s (swp2 k j i)) = s9 at *
     have hX9' : ∀ i, k ≤ i → i < c → RX false (16 * K + 17) w9 (s9 i) (r + c) (fun x => bl (nT c V' P) f k i x) ∧ ∀ ad, (s9 i).a = some ad → ad.block ≠ g5 ∧ (Value.slice li.a li.len li.cap).ownBlock ≠ some ad.block ∧ ad.block < w9.heap.size := by rw [← hsv]; exact hX9
     clear hX9 hc0 hG9 hJ hPm hW hN hb5' hxe hb3' hd hE7 hE8 hz hnz hc9
     have hnz' : (det k fun a b => nT c V' P a (f b)) ≠ 0 := by rw [← hd9]; exact hd0
     have hstep : ∀ i x, (bl (nT c V' P) f k k x0 * bl (nT c V' P) f k i x + (-(bl (nT c V' P) f k i x0)) * bl (nT c V' P) f k k x) / d = bl (nT c V' P) (ext f k x0) (k + 1) i x := fun i x => by
      have := qv hnz' x0 i x
      rw [← hd9] at this
      rw [show bl (nT c V' P) f k k x0 * bl (nT c V' P) f k i x + (-(bl (nT c V' P) f k i x0)) * bl (nT c V' P) f k k x = bl (nT c V' P) (ext f k x0) (k + 1) i x * d by rw [this, Int.neg_mul]; omega]
      exact Int.mul_ediv_cancel _ hd0
     have hJ2 := hJ'.take hkc hpiv
     repeat' (first|refine ai rfl ?_|refine aa ?_|refine ao ?_|refine ah rfl ?_|refine ae ?_|refine bi rfl rfl (by omega) (by omega) ?_|refine aC ?_)
     have ek1 : Value.int .i64 ((k : Int) + 1) = .int .i64 ((k + 1 : Nat) : Int) := rfl
     refine bh (ι := Nat × (Nat → SD)) [9, 65, 66, 67, 68, 69, 70, 71, 72, 73, 74, 75, 76, 77, 78] (fun t => [(9, .int .i64 (t.1 : Int))])
      (fun t w' => (k + 1 ≤ t.1 ∧ t.1 ≤ c ∧ Ex w w' ∧ w6.heap.size ≤ w'.heap.size) ∧ Blk w' gw 29 (topC c t.2) ∧ RX false (16 * K + 17) w' (t.2 k) (r + c) (fun x => bl (nT c V' P) f k k x) ∧ (∀ i, k < i → i < t.1 → RX false (16 * K + 17) w' (t.2 i) (r + c) (fun x => bl (nT c V' P) (ext f k x0) (k + 1) i x)) ∧ (∀ i, t.1 ≤ i → i < c → RX false (16 * K + 17) w' (t.2 i) (r + c) (fun x => bl (nT c V' P) f k i x)) ∧
       (∀ i, k ≤ i → i < c → ∀ ad, (t.2 i).a = some ad → ad.block ≠ g5 ∧ (Value.slice li.a li.len li.cap).ownBlock ≠ some ad.block ∧ ad.block < w'.heap.size) ∧ NatG w' w6.heap.size 3 k li f ∧ Blk w' g5 27 x.cells ∧ Ent false (16 * K + 17) w' x.val d ∧ Blk w' g3 66 (pairL gw c r)) (fun t => c - t.1)
      (k + 1, s9) ⟨ek1, trivial⟩ ⟨⟨Nat.le_refl _, hkc, hE9, hs9⟩, hT9, (hX9' k (Nat.le_refl _) hkc).1, fun i h1 h2 => by simp only at h2; omega, fun i h1 h2 => (hX9' i (by simp only at h1; omega) h2).1, fun i h1 h2 => (hX9' i h1 h2).2, hN9, hb59, hxe9, hb39⟩ ?_
     clear hX9' hT9 hN9 hb59 hxe9 hb39 hE9 hs9
     rintro ⟨m, s⟩ ξ4 w10 ⟨⟨hkm, hmc, hE10, hs10⟩, hT10, hXk, hXn, hXo, hoff, hN10, hb510, hxe10, hb310⟩
     simp only at hkm hmc hT10 hXk hXn hXo hoff
     show CW _ _ _ _ (over [(9, .int .i64 (m : Int))] _) w10
     rcases Nat.lt_or_ge m c with hm | hm
     ·have hxm := hXo m (Nat.le_refl _) hm
      repeat' (first|refine aV (g := g3) rfl hb310 rfl ?_|refine bA rfl rfl (by omega) ?_|refine aP (g := g5) rfl hb510 rfl ?_|refine ai rfl ?_|refine aa ?_|refine ao ?_|refine ah rfl ?_|refine ae ?_|refine bn rfl ?_|refine aL rfl ?_|refine aE rfl ?_|refine aC ?_|refine aI ?_)
      have hlbn : ∀ x, x < r + c → Lb (16 * K + 17) (bl (nT c V' P) (ext f k x0) (k + 1) m x) := fun y hy => tq hPm' hPl (by omega) hm hy hc.2 (fun a ha => by
       unfold ext; split
       ·have := hJ'.lt a (by assumption); omega
       ·exact hxlt)
      refine ax (jH (K' := 16 * K + 17) hT10 hkc hm (by omega) (by omega) hxlt hxm hXk hxe10 hd0 (by omega) (by omega) (fun y hy => by rw [hstep m y]; exact hlbn y hy)) rfl ?_
      rintro v w11 ⟨g6, hlo6, hG11, hT11, hO11⟩
      refine ⟨fun _ _ => trivial, ?_⟩
      repeat' (first|refine ai rfl ?_|refine aa ?_|refine ah rfl ?_|refine ae ?_|refine bi rfl rfl (by omega) (by omega) ?_|refine aM ?_)
      have hlg6 := hO11.lt
      have s11 := hG11.size
      refine ⟨⟨(m + 1, setF s m ⟨some ⟨g6, 0, none⟩, r + c, r + c⟩), ⟨⟨by omega, hm, hE10.gb hG11 (fun k e => by cases e; exact lw), by omega⟩, hT11, ?_, fun i h1 h2 => ?_, fun i h1 h2 => ?_, fun i h1 h2 ad e => ?_, NatG.gbB hN10 hG11 (by omega), hb510.gb hG11 (fun e => by cases e; omega), hxe10.gbN hT10 (bQ _ _) hG11, hb310.gb hG11 (fun e => by cases e; exact hne rfl)⟩, by simp only; omega, rfl, trivial⟩, (by (repeat (first|exact aF _ _ _|refine ay rfl ?_|refine av rfl ?_|refine aj rfl ?_|refine ak rfl ?_)))⟩
      ·simp only; rw [aN _ _ (by omega)]; exact hXk.gbT hT10 hG11
      ·simp only at h2 ⊢
       by_cases him : i = m
       ·subst him; rw [aK]; exact (hO11.rx.weak').congr (fun y _ => (hstep i y).symm)
       ·rw [aN _ _ him]; exact (hXn i h1 (by omega)).gbT hT10 hG11
      ·simp only at h1 ⊢; rw [aN _ _ (by omega)]; exact (hXo i (by omega) h2).gbT hT10 hG11
      ·simp only at e
       by_cases him : i = m
       ·subst him
        rw [aK] at e
        cases e
        have hg5 := hb510.lt
        refine ⟨by simp only; omega, fun h => ?_, hlg6⟩
        cases hla : li.a with
        | none => rw [hla] at h; cases h
        | some a1 => rw [hla] at h; have := (hN10.lo a1 hla).2; simp [Value.ownBlock] at h; omega
       ·rw [aN _ _ him] at e
        obtain ⟨q1, q2, q3⟩ := hoff i h1 h2 ad e
        exact ⟨q1, q2, by omega⟩
     ·have emc : c = m := by omega
      subst emc
      obtain ⟨p, dd, hh, e1, _, hp, hS, hEn⟩ := hXk.get (by omega)
      repeat' (first|refine aV (g := g3) rfl hb310 rfl ?_|refine bz rfl rfl (by omega) ?_|refine aB (j := k) (a := some ⟨gw, 0, none⟩) rfl rfl ⟨_, _, rfl⟩ (by omega) ?_|refine aS (j := k) (a := some ⟨gw, 0, none⟩) rfl hT10.sl (by omega) e1 ?_|refine aU (j := x0) (a := p) rfl rfl hp (by omega) ?_|refine bp (j := x0) (a := p) rfl hS hp (by omega) ?_|refine ai rfl ?_|refine aa ?_|refine ao ?_|refine ah rfl ?_|refine ae ?_|refine bn rfl ?_|refine aL rfl ?_|refine aA rfl ?_|refine aW ?_|refine aO ?_|refine aX ?_)
      refine aw (n := 2) (vs := (hh x0).cells) rfl rfl rfl rfl hb510 rfl (fun w11 hc11 hb11 => ⟨fun _ _ => trivial, ?_⟩)
      have hG11 := bc hc11
      have s11 := hc11.size
      have hpe := (hEn x0 hxlt).gbN hb510 (au _ _ _ _) hG11
      have hN11 := NatG.gbB hN10 hG11 (by omega)
      have hT11 := hT10.chg hc11 (by omega)
      have hb311 := hb310.chg hc11 (by omega)
      have hX11 : ∀ i, k + 1 ≤ i → i < c → RX false (16 * K + 17) w11 (s i) (r + c) (fun x => bl (nT c V' P) (ext f k x0) (k + 1) i x) := fun i h1 h2 => (hXn i (by omega) h2).gbN hb510 (au _ _ _ _) hG11 (fun ad e => (hoff i (by omega) h2 ad e).1)
      have hE11 := hE10.chg hc11 (by omega)
      repeat' (first|refine ai rfl ?_|refine aa ?_|refine ah rfl ?_|refine ae ?_)
      refine mP (E := 3) (lo := w6.heap.size) (u := x0) (by show Value.slice li.a k li.cap = _; rw [hll]) rfl rfl hN11 (by omega) (by omega) (by omega) ?_
      intro gt li' f' w12 hN12 hf1 hf2 hG12 hA12
      repeat' (first|refine ai rfl ?_|refine aa ?_|refine ah rfl ?_|refine ae ?_|refine bi rfl rfl (by omega) (by omega) ?_|refine aM ?_)
      have s12 := hG12.size
      have hlb2 : ∀ q, (Value.slice li.a li.len li.cap).ownBlock = some q → w6.heap.size ≤ q := fun q e => (hN11.blk q e).1
      have hlt2 : ∀ q, (Value.slice li.a li.len li.cap).ownBlock = some q → q < w11.heap.size := fun q e => (hN11.blk q e).2.lt
      have hE12 : Ex w w12 := hE11.gb hG12 (fun q e => by have := hlb2 q e; have := hE6.size; omega)
      have hfe : ∀ a, a < k + 1 → f' a = ext f k x0 a := fun a ha => by
       unfold ext; by_cases h : a < k
       ·rw [if_pos h]; exact hf1 a h
       ·rw [if_neg h, show a = k by omega]; exact hf2
      have hlen' : li'.len = k + 1 := hN12.1
      refine ⟨⟨(x0 + 1, k + 1, f', V', s, li', hh x0, bl (nT c V' P) f k k x0), ⟨⟨hxlt, hE12, by omega⟩, hJ2.congr hfe, hPm', ⟨hT11.gb hG12 (fun e => by have := hlb2 _ e; omega), fun i h1 h2 => ((hX11 i h1 h2).gbL hN11 hG12 (fun ad e => (hoff i (Nat.le_of_succ_le h1) h2 ad e).2.1)).congr (fun y _ => rk hfe), fun i h1 h2 ad e => ?_⟩, hN12, hb11.gb hG12 (fun e => by have := hlb2 _ e; omega), hpe.gbL hN11 hG12, ?_, hb311.gb hG12 (fun e => by have := hlb2 _ e; omega)⟩, by simp only; omega, rfl, ?_, trivial⟩, (by (repeat (first|exact aF _ _ _|refine ay rfl ?_|refine av rfl ?_|refine aj rfl ?_|refine ak rfl ?_)))⟩
      ·obtain ⟨q1, q2, q3⟩ := hoff i (Nat.le_of_succ_le h1) h2 ad e
       refine ⟨q1, fun h => ?_, by omega⟩
       cases hla : li'.a with
       | none => rw [hla] at h; cases h
       | some a1 =>
        rcases hA12 with h3 | h3
        ·refine q2 ?_
         rw [← h3, hla]; rw [hla] at h; simpa [Value.ownBlock] using h
        ·have := h3 a1 hla; rw [hla] at h; simp [Value.ownBlock] at h; omega
      ·show bl (nT c V' P) f k k x0 = det (k + 1) fun a b => nT c V' P a (f' b)
       rw [nC]; exact aY fun a b _ hb => by rw [hfe b hb]
      ·show Value.slice li'.a li'.len li'.cap = Value.slice li'.a (k + 1) li'.cap
       rw [hlen']
    ·have ejc : c = j := by omega
     subst ejc
     repeat' (first|refine aV (g := g3) rfl (hb3'.ext hE8) rfl ?_|refine nc rfl rfl rfl ?_|refine ai rfl ?_|refine aa ?_|refine ao ?_|refine ah rfl ?_|refine ae ?_|refine bn rfl ?_|refine bi rfl rfl (by omega) (by omega) ?_|refine aL rfl ?_|refine aE rfl ?_|refine aW ?_|refine aO ?_|refine aX ?_)
     refine ⟨⟨(x0 + 1, k, f, V, s, li, x, d), ⟨⟨hxlt, hE7.trans hE8, by have := hE8.size; omega⟩, hJ.skip (fun i h1 h2 => hz i h1 h2), hPm, hW.ext hE8, hN.ext hE8, hb5'.ext hE8, hxe.ext hE8, hd, hb3'.ext hE8⟩, by simp only; omega, rfl, rfl, trivial⟩, (by (repeat (first|exact aF _ _ _|refine ay rfl ?_|refine av rfl ?_|refine aj rfl ?_|refine ak rfl ?_)))⟩
  ·have hkc' : k = c := by have := hJ.kc; omega
   repeat' (first|refine aV (g := g3) rfl hb3' rfl ?_|refine bz rfl rfl (by omega) ?_|refine ai rfl ?_|refine aa ?_|refine ao ?_|refine ah rfl ?_|refine ae ?_|refine bn rfl ?_|refine aL rfl ?_|refine aA rfl ?_|refine aW ?_|refine aO ?_|refine aX ?_|refine aT ?_)
   have hfin := InJ.skips hJ hkc' (r + c - x0)
   rw [show x0 + (r + c - x0) = r + c by omega, hkc'] at hfin
   rw [hkc'] at hN
   exact bF rfl (rt (v := .slice li.a k li.cap) rfl) ⟨li, f, V, by rw [hll], NatG.mono hN (by have := hE6.size; omega), hfin, hE7⟩
end Go.Proofs.Ytppipmkpmmdcjaa
