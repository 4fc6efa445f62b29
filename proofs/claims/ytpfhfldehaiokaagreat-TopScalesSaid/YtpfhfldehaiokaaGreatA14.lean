import Derived.Test.YtpfhfldehaiokaaGreatA06
namespace Go.W
structure IH where
 neg : Bool
 sd : SD
abbrev ih0 : IH := ⟨false, sd0⟩
def IH.cells (h : IH) : List Value := [.bool h.neg, .slice h.sd.a h.sd.len h.sd.cap]
def IH.val (h : IH) : Value := .agg h.cells.toArray
def setF {α : Type} (f : Nat → α) (i : Nat) (x : α) : Nat → α := fun j => if j = i then x else f j
theorem aI {α : Type} (f : Nat → α) (i : Nat) (x : α) : setF f i x i = x := by simp [setF]
theorem aN {α : Type} (f : Nat → α) {i j : Nat} (x : α) (h : j ≠ i) : setF f i x j = f j := by simp [setF, h]
def rowC (n : Nat) (h : Nat → IH) : List Value := (List.range n).flatMap fun i => (h i).cells
def topC (n : Nat) (s : Nat → SD) : List Value := (List.range n).map fun i => (s i).val
theorem kb (h : Nat → IH) : rowC 0 h = [] := rfl
theorem dA (n : Nat) (h : Nat → IH) : rowC (n + 1) h = rowC n h ++ (h n).cells := by
 unfold rowC; rw [List.range_succ, List.flatMap_append]; simp
theorem cN : ∀ (n : Nat) (h : Nat → IH), (rowC n h).length = n * 2
 | 0, _ => rfl
 | n + 1, h => by rw [dA, List.length_append, cN n h]; simp [IH.cells]; omega
theorem fG {n : Nat} {h h' : Nat → IH} (e : ∀ i, i < n → h i = h' i) : rowC n h = rowC n h' := by
 induction n with
 | zero => rfl
 | succ n ih => rw [dA, dA, ih (fun i hi => e i (by omega)), e n (by omega)]
theorem gH : ∀ {n : Nat} {h : Nat → IH} {i : Nat}, i < n → (rowC n h)[i * 2]? = some (.bool (h i).neg) ∧ (rowC n h)[i * 2 + 1]? = some (.slice (h i).sd.a (h i).sd.len (h i).sd.cap)
 | n + 1, h, i, hi => by
  have hl := cN n h
  rw [dA]
  by_cases hn : i < n
  ·rw [List.getElem?_append_left (by omega), List.getElem?_append_left (by omega)]
   exact gH hn
  ·obtain rfl : i = n := by omega
   rw [List.getElem?_append_right (by omega), List.getElem?_append_right (by omega), hl]
   simp [IH.cells]
theorem mh : ∀ {n : Nat} {h : Nat → IH} {i : Nat} (x : IH), i < n → (rowC n h).take (i * 2) ++ x.cells ++ (rowC n h).drop (i * 2 + 2) = rowC n (setF h i x)
 | n + 1, h, i, x, hi => by
  have hl := cN n h
  have hc : ∀ y : IH, y.cells.length = 2 := fun _ => rfl
  rw [dA, dA]
  by_cases hn : i < n
  ·rw [List.take_append_of_le_length (by omega), List.drop_append_of_le_length (by omega), ← mh x hn, aN h x (by omega)]
   simp only [List.append_assoc]
  ·obtain rfl : i = n := by omega
   rw [← hl, List.take_left, List.drop_eq_nil_of_le (by simp [hl, hc]), List.append_nil, aI,
    fG (h' := h) (fun j hj => aN h x (by omega))]
theorem nH {n : Nat} {h : Nat → IH} {v : Value} (hv : v ∈ rowC n h) : (∃ b, v = .bool b) ∨ ∃ a l c, v = .slice a l c := by
 unfold rowC at hv
 rw [List.mem_flatMap] at hv
 obtain ⟨i, _, hi⟩ := hv
 simp only [IH.cells, List.mem_cons, List.not_mem_nil, or_false] at hi
 rcases hi with e | e
 ·exact .inl ⟨_, e⟩
 ·exact .inr ⟨_, _, _, e⟩
theorem nI (n : Nat) : (madeCells (Value.cells (.agg #[.bool false, .slice none 0 0])) (n * 2)).toList = rowC n fun _ => ih0 := by
 induction n with
 | zero => simp [madeCells, kb]
 | succ n ih =>
  rw [dA, ← ih]
  simp only [madeCells, Array.toList_map, Array.toList_range]
  rw [show (n + 1) * 2 = n * 2 + 1 + 1 by omega, List.range_succ, List.range_succ]
  simp only [List.map_append, List.append_assoc, List.map_cons, List.map_nil, List.cons_append, List.nil_append]
  have a1 : n * 2 % 2 = 0 := by omega
  have a2 : (n * 2 + 1) % 2 = 1 := by omega
  simp [a1, a2, IH.cells, Value.cells]
theorem mj (n : Nat) : (Builtin.zeroCells (Value.cells (.agg #[.bool false, .slice none 0 0])) n).toList = rowC n fun _ => ih0 := nI n
theorem kd (n : Nat) (s : Nat → SD) : topC (n + 1) s = topC n s ++ [(s n).val] := by
 unfold topC; rw [List.range_succ, List.map_append]; rfl
theorem cv (n : Nat) (s : Nat → SD) : (topC n s).length = n := by simp [topC]
theorem bF {n : Nat} {s s' : Nat → SD} (e : ∀ i, i < n → s i = s' i) : topC n s = topC n s' :=
 List.map_congr_left fun i hi => by rw [e i (List.mem_range.1 hi)]
theorem gI {n : Nat} {s : Nat → SD} {i : Nat} (hi : i < n) : (topC n s)[i]? = some (s i).val := by
 simp [topC, hi]
theorem ud {n : Nat} {s : Nat → SD} {i : Nat} (x : SD) : (topC n s).set i x.val = topC n (setF s i x) := by
 refine List.ext_getElem? fun j => ?_
 by_cases hj : j < n
 ·by_cases h : j = i
  ·subst h
   rw [List.getElem?_set_self (by rw [cv]; omega), gI hj, aI]
  ·rw [List.getElem?_set_ne (fun e => h e.symm), gI hj, gI hj, aN s x h]
 ·rw [List.getElem?_eq_none (by rw [List.length_set, cv]; omega), List.getElem?_eq_none (by rw [cv]; omega)]
theorem ke {n : Nat} {s : Nat → SD} {v : Value} (hv : v ∈ topC n s) : ∃ a l c, v = .slice a l c := by
 simp only [topC, List.mem_map] at hv
 obtain ⟨i, _, rfl⟩ := hv; exact ⟨_, _, _, rfl⟩
theorem sH (n : Nat) : (List.replicate n sd0).map SD.val = topC n fun _ => sd0 := by
 simp [topC, List.map_const']
theorem Blk.at {w : World} {g T j : Nat} {cs : List Value} (h : Blk w g T cs) : w.cell? ⟨g, j, none⟩ = cs[j]? := by
 unfold Blk at h; simp [World.cell?, h]
theorem Blk.mem {w : World} {g T j : Nat} {cs : List Value} {v : Value} (h : Blk w g T cs) (hv : w.cell? ⟨g, j, none⟩ = some v) : v ∈ cs := by
 rw [h.at] at hv; exact List.mem_of_getElem? hv
theorem Sl.off {w : World} {a : Option Addr} {vs cs : List Value} {g T : Nat} (h : Sl w a vs) (hb : Blk w g T cs) {j : Nat} (hj : j < vs.length) (hn : vs.getD j undef ∉ cs) : ∀ ad, a = some ad → ad.block ≠ g := by
 rintro ad rfl e
 obtain ⟨g', o, h'⟩ := h.plain (by omega)
 cases h'
 simp only at e
 subst e
 exact hn (hb.mem (h.get j hj))
section
variable {P : Program} {S : World → Prop} {ops : List Oper} {K : Env → World → Prop} {rest : List (Oper × Option Bool)} {ρ : Env} {w : World} {b : Option Bool} {kf : Bool} {d : Nat} {dst : Option Nat} {T T' : TypeId} {pos : String} {af : Array Edge}
theorem fd {x y : Operand} {k : IntKind} {m m' : Int} {T'' : TypeId} (hx : ev ρ x = .int k m) (hy : ev ρ y = .int k m') (hd : m' < m) (h : RR P S ops K rest (upd ρ d (.bool false)) w) : RR P S ops K ((⟨some d, .binOp .leq T' x y T'', T, pos, af, none⟩, b) :: rest) ρ w :=
 tB hx hy (by rw [decide_eq_false (by omega)]; exact h)
theorem k5 {T1 E y n : Nat} {x1 x2 : Operand} [hT : Slc P T1 E 2 y] [hz : Zro P E (.agg #[.bool false, .slice none 0 0])] (h1 : ev ρ x1 = .int .i64 n) (h2 : ev ρ x2 = .int .i64 n) (hb : y * n ≤ 281474976710656) (hm : n ≤ 9223372036854775807)
  (h : ∀ g w', New w w' g E (rowC n fun _ => ih0) → (kf = true → S w → S w') ∧ RR P S ops K rest (upd ρ d (.slice (some ⟨g, 0, none⟩) n n)) w') :
  RR P S ops K ((⟨some d, .makeSlice T1 x1 x2, T, pos, af, none⟩, some kf) :: rest) ρ w :=
 tH h1 h2 hb hm (fun g w' hn => h g w' (by rw [← nI]; exact hn))
theorem eC {T1 E y n : Nat} {x1 x2 : Operand} [hT : Slc P T1 E 1 y] [hz : Zro P E (.slice none 0 0)] (h1 : ev ρ x1 = .int .i64 n) (h2 : ev ρ x2 = .int .i64 n) (hb : y * n ≤ 281474976710656) (hm : n ≤ 9223372036854775807)
  (h : ∀ g w', New w w' g E (topC n fun _ => sd0) → (kf = true → S w → S w') ∧ RR P S ops K rest (upd ρ d (.slice (some ⟨g, 0, none⟩) n n)) w') :
  RR P S ops K ((⟨some d, .makeSlice T1 x1 x2, T, pos, af, none⟩, some kf) :: rest) ρ w :=
 vI h1 h2 hb hm (fun g w' hn => h g w' (by rw [← sH]; exact hn))
theorem bE {x ix : Operand} {a : Option Addr} {l c E y j : Nat} {k : IntKind} [hT : Slc P T' E 2 y] (hx : ev ρ x = .slice a l c) (hi : ev ρ ix = .int k (j : Int)) (ha : W.plain a)
  (h2 : j < l) (h : RR P S ops K rest (upd ρ d (.pointer (some (elt a (j * 2))))) w) :
  RR P S ops K ((⟨some d, .indexAddr T' x ix, T, pos, af, none⟩, b) :: rest) ρ w :=
 iq hx hi ha (by omega) (by omega) (by simpa using h)
theorem bX {x : Operand} {T1 : TypeId} {a : Option Addr} {j n : Nat} {f : Nat → IH} [Agg P T1 2] (hx : ev ρ x = .pointer (some (elt a (j * 2)))) (hs : Rd b S w fun w' => Sl w' a (rowC n f)) (hp : W.plain a) (hj : j < n)
  (h : RR P S ops K rest (upd ρ d (f j).val) w) : RR P S ops K ((⟨some d, .load T1 x, T, pos, af, none⟩, b) :: rest) ρ w := by
 obtain ⟨g, o, rfl⟩ := hp
 refine kW (g := g) (o := o + j * 2) (vs := (f j).cells) (by rw [hx]; rfl) rfl (hs.imp fun w' hs => ?_) h
 have hl := cN n f
 obtain ⟨g1, g2⟩ := gH (h := f) hj
 intro i hi
 have hi2 : i < 2 := hi
 have := hs.get (j * 2 + i) (by omega)
 simp only [elt] at this
 rw [Nat.add_assoc, this, List.getD_eq_getElem?_getD]
 rcases i with _ | _ | i
 ·rw [Nat.add_zero, g1]; rfl
 ·rw [g2]; rfl
 ·omega
theorem df {x : Operand} {T1 : TypeId} {a : Option Addr} {j n : Nat} {s : Nat → SD} [Scal P T1] (hx : ev ρ x = .pointer (some (elt a j))) (hs : Rd b S w fun w' => Sl w' a (topC n s)) (hj : j < n)
  (h : RR P S ops K rest (upd ρ d (.slice (s j).a (s j).len (s j).cap)) w) : RR P S ops K ((⟨some d, .load T1 x, T, pos, af, none⟩, b) :: rest) ρ w :=
 ir hx (hs.imp fun w' hs => by
  have := hs.get j (by rw [cv]; exact hj)
  rw [this, List.getD_eq_getElem?_getD, gI hj]; rfl) h
theorem aZ {x : Operand} {T1 : TypeId} {a a1 : Option Addr} {j n l1 c1 : Nat} {s : Nat → SD} [Scal P T1] (hx : ev ρ x = .pointer (some (elt a j))) (hs : Rd b S w fun w' => Sl w' a (topC n s)) (hj : j < n) (hv : s j = ⟨a1, l1, c1⟩)
  (h : RR P S ops K rest (upd ρ d (.slice a1 l1 c1)) w) : RR P S ops K ((⟨some d, .load T1 x, T, pos, af, none⟩, b) :: rest) ρ w :=
 df hx hs hj (by rw [hv]; exact h)
theorem eD {x y : Operand} {T1 : TypeId} {g j n Tb : Nat} {f : Nat → IH} {u : IH} [hT : Agg P T1 2] (hx : ev ρ x = .pointer (some (elt (some ⟨g, 0, none⟩) (j * 2)))) (hy : ev ρ y = u.val)
  (hb : Blk w g Tb (rowC n f)) (hj : j < n)
  (h : ∀ w', Chg g w w' → Blk w' g Tb (rowC n (setF f j u)) → (kf = true → S w → S w') ∧ RR P S ops K rest ρ w') :
  RR P S ops K ((⟨none, .store T1 x y, T, pos, af, none⟩, some kf) :: rest) ρ w :=
 pq (n := 2) (o := j * 2) (vs := u.cells) (by rw [hx]; simp [elt]) hy rfl rfl hb (by rw [cN]; omega) (fun w' hc hb' => h w' hc (by
  rw [← mh u hj]; exact hb'))
theorem di {x y : Operand} {T1 : TypeId} {g j n Tb : Nat} {s : Nat → SD} {u : SD} [hT : Scal P T1] (hx : ev ρ x = .pointer (some (elt (some ⟨g, 0, none⟩) j))) (hy : ev ρ y = .slice u.a u.len u.cap)
  (hb : Blk w g Tb (topC n s)) (hj : j < n)
  (h : ∀ w', Chg g w w' → Blk w' g Tb (topC n (setF s j u)) → (kf = true → S w → S w') ∧ RR P S ops K rest ρ w') :
  RR P S ops K ((⟨none, .store T1 x y, T, pos, af, none⟩, some kf) :: rest) ρ w :=
 fy (v := u.val) hx hy rfl hb (by rw [cv]; exact hj) (fun w' hc hb' => h w' hc (by rw [← ud]; exact hb'))
end
def RowG (w : World) (lo E n : Nat) (s : SD) (h : Nat → IH) : Prop :=
 s.len = n ∧ ((s = sd0 ∧ n = 0) ∨ ∃ g, s.a = some ⟨g, 0, none⟩ ∧ lo ≤ g ∧ n ≤ s.cap ∧ s.cap ≤ maxLen ∧ Blk w g E (rowC s.cap h))
theorem RowG.nil (w : World) (lo E : Nat) (h : Nat → IH) : RowG w lo E 0 sd0 h := ⟨rfl, .inl ⟨rfl, rfl⟩⟩
theorem RowG.gb {w w' : World} {lo E n : Nat} {s : SD} {h : Nat → IH} {r : Option Nat} (hR : RowG w lo E n s h) (hg : w.grownBy w' r) (hne : ∀ ad, s.a = some ad → r ≠ some ad.block) : RowG w' lo E n s h := by
 refine ⟨hR.1, ?_⟩
 rcases hR.2 with h0 | ⟨g, h1, h2, h3, h4, h5⟩
 ·exact .inl h0
 ·exact .inr ⟨g, h1, h2, h3, h4, h5.gb hg (hne _ h1)⟩
theorem RowG.ext {w w' : World} {lo E n : Nat} {s : SD} {h : Nat → IH} (hR : RowG w lo E n s h) (e : Ex w w') : RowG w' lo E n s h := hR.gb (kz e) (fun _ _ h => by cases h)
theorem RowG.lo {w : World} {lo E n : Nat} {s : SD} {h : Nat → IH} (hR : RowG w lo E n s h) : ∀ ad, s.a = some ad → lo ≤ ad.block ∧ ad.block < w.heap.size := by
 intro ad e
 rcases hR.2 with ⟨h0, _⟩ | ⟨g, h1, h2, h3, h4, h5⟩
 ·rw [h0] at e; cases e
 ·rw [h1] at e; cases e; exact ⟨h2, h5.lt⟩
theorem sI {n m : Nat} {h : Nat → IH} (hm : n ≤ m) : (rowC m h).take (n * 2) = rowC n h := by
 obtain ⟨k, rfl⟩ : ∃ k, m = n + k := ⟨m - n, by omega⟩
 clear hm
 induction k with
 | zero => rw [Nat.add_zero, List.take_of_length_le (by rw [cN]; omega)]
 | succ k ih => rw [← Nat.add_assoc, dA, List.take_append_of_le_length (by rw [cN]; omega), ih]
theorem Sl.row {w : World} {a : Option Addr} {n m : Nat} {h : Nat → IH} (hs : Sl w a (rowC m h)) (hm : n ≤ m) : Sl w a (rowC n h) := by
 rw [← sI hm]; exact hs.take _
theorem RowG.sl {w : World} {lo E n : Nat} {s : SD} {h : Nat → IH} (hR : RowG w lo E n s h) : Sl w s.a (rowC n h) := by
 rcases hR.2 with ⟨h0, rfl⟩ | ⟨g, h1, h2, h3, h4, h5⟩
 ·exact Sl.nil _ _
 ·rw [h1]; exact h5.sl.row h3
theorem fX {n m : Nat} {f g : Nat → IH} : rowC n f ++ rowC m g = rowC (n + m) fun i => if i < n then f i else g (i - n) := by
 induction m with
 | zero => rw [kb, List.append_nil, Nat.add_zero]; exact fG fun i hi => by rw [if_pos hi]
 | succ m ih =>
  rw [← Nat.add_assoc, dA, dA, ← ih, List.append_assoc, if_neg (by omega), Nat.add_sub_cancel_left]
theorem sJ (x : IH) : x.cells = rowC 1 fun _ => x := by simp [rowC]
theorem kH {P : Program} {w : World} {lo E y t ty n : Nat} {s : SD} {h : Nat → IH} {i0 : TypeInfo} {x : IH} {ga : Nat} (ht : P.underlying t = some (.slice E)) (hi : P.info? E = some i0) (hz : i0.zero = some (.agg #[.bool false, .slice none 0 0])) (hsz : i0.size = 2) (hby : i0.bytes = y)
  (hR : RowG w lo E n s h) (hx : Sl w (some ⟨ga, 0, none⟩) x.cells) (hm : n + 1 ≤ 9223372036854775807) (hb : (n + 1) * y ≤ 140737488355328) (hlo : lo ≤ w.heap.size) :
  ∃ s' w' h', (Builtin.append_ #[t, t] ty #[.slice s.a s.len s.cap, .slice (some ⟨ga, 0, none⟩) 1 1]).run P w = .ok (.slice s'.a s'.len s'.cap) w' ∧ RowG w' lo E (n + 1) s' h' ∧ (∀ i, i < n → h' i = h i) ∧ h' n = x ∧
   w.grownBy w' (Value.slice s.a s.len s.cap).ownBlock ∧ (s'.a = s.a ∨ ∀ ad, s'.a = some ad → w.heap.size ≤ ad.block) := by
 have e : ∀ n, (⟨ga, 0, none⟩ : Addr).add n = ⟨ga, 0 + n, none⟩ := fun n => by unfold Addr.add; split <;> simp_all
 have hnews : ∀ j u, x.cells[j]? = some u → w.cell? ((⟨ga, 0, none⟩ : Addr).add j) = some u := fun j u hu => by
  have hj : j < x.cells.length := (List.getElem?_eq_some_iff.1 hu).1
  have := hx.get j hj
  rw [e]
  simp only [elt] at this
  rw [this, List.getD_eq_getElem?_getD, hu]; rfl
 have hl : x.cells.length = 1 * i0.size := by rw [hsz]; rfl
 have hmax : ∀ old, grownCap w (n + 1) old E ≤ maxLen := fun old => grownCap_le_maxLen w (n + 1) old E hm
 have hge : ∀ old, n + 1 ≤ grownCap w (n + 1) old E := fun old => grownCap_ge w (n + 1) old E
 have hnew : ∀ (k : Nat), n + 1 ≤ k → (rowC n h ++ x.cells ++ (Builtin.zeroCells (Value.cells (.agg #[.bool false, .slice none 0 0])) (k - (n + 1))).toList) = rowC k (fun i => if i < n then h i else if i = n then x else ih0) := fun k hk => by
  rw [mj, sJ x, fX, fX]
  rw [show n + 1 + (k - (n + 1)) = k by omega]
  refine fG fun i _ => ?_
  by_cases h1 : i < n
  ·rw [if_pos (by omega), if_pos h1, if_pos h1]
  ·by_cases h2 : i = n
   ·subst h2; rw [if_pos (by omega), if_neg (by omega), if_neg (by omega), if_pos rfl]
   ·rw [if_neg (by omega), if_neg h1, if_neg h2]
 have hgr : ∀ (o : Obj) {row : Option Nat}, w.grownBy (w.drew.alloc o) row := fun o _ => ⟨rfl, rfl, rfl, by simp, fun k hk _ => heap_alloc_old w.drew o hk⟩
 have hbl : ∀ (xs zs : List Value) (k : Nat), xs ++ zs = rowC k (fun i => if i < n then h i else if i = n then x else ih0) → ∀ cs : Array Value, cs.toList = xs ++ zs → Blk (w.drew.alloc (.cells cs E)) w.heap.size E (rowC k (fun i => if i < n then h i else if i = n then x else ih0)) := fun xs zs k e cs hcs => by
  have : cs = (rowC k (fun i => if i < n then h i else if i = n then x else ih0)).toArray := by rw [← e, ← hcs]
  rw [this]
  exact heap_alloc_new w.drew _
 obtain ⟨hlen, hcase⟩ := hR
 rcases hcase with ⟨rfl, rfl⟩ | ⟨g, h1, h2, h3, h4, h5⟩
 ·have hr := run_append_nil (P := P) w t ty E i0 _ ht hi hz ⟨ga, 0, none⟩ 1 1 x.cells hl hnews (by omega) (by omega) (by rw [hby]; omega)
  refine ⟨⟨some ⟨w.heap.size, 0, none⟩, 1, grownCap w 1 0 E⟩, _, fun i => if i < 0 then h i else if i = 0 then x else ih0, hr, ⟨rfl, .inr ⟨_, rfl, hlo, hge 0, hmax 0, ?_⟩⟩, fun i hi => by omega, rfl, hgr _, .inr fun ad e => by cases e; exact Nat.le_refl _⟩
  have := hnew (grownCap w 1 0 E) (hge 0)
  rw [kb, List.nil_append] at this
  exact hbl _ _ _ this _ (by simp)
 ·obtain ⟨sa, sl, sc⟩ := s
  simp only at h1 hlen h3 h4 h5
  subst h1; subst hlen
  by_cases hroom : sl + 1 ≤ sc
  ·have hr := run_append_room (P := P) w t ty E i0 ht hi g sl sc _ h5 ⟨ga, 0, none⟩ 1 1 x.cells hl hnews (fun u hu => by
    simp only [IH.cells, List.mem_cons, List.not_mem_nil, or_false] at hu
    rcases hu with rfl | rfl <;> rfl) hroom (by
    rw [hsz, List.size_toArray, cN]
    have : x.cells.length = 2 := rfl
    omega)
   refine ⟨⟨some ⟨g, 0, none⟩, sl + 1, sc⟩, _, setF h sl x, hr, ⟨rfl, .inr ⟨g, rfl, h2, hroom, h4, ?_⟩⟩, fun i hi => aN h x (by omega), aI h sl x, ⟨rfl, rfl, rfl, by simp, fun k _ hk => setRow_other w g k _ (fun e => hk (by simp [Value.ownBlock, e]))⟩, .inl rfl⟩
   have := mh (h := h) x (show sl < sc by omega)
   rw [← this]
   have := setRow_heap w g (rowC sc h).toArray ((rowC sc h).toArray.toList.take (sl * i0.size) ++ x.cells ++ (rowC sc h).toArray.toList.drop (sl * i0.size + x.cells.length)).toArray E (0, 0) h5
   rw [hsz] at this ⊢
   exact this
  ·have hcap : sc = sl := by omega
   subst hcap
   have holds : ∀ j u, (rowC sc h)[j]? = some u → w.cell? ((⟨g, 0, none⟩ : Addr).add j) = some u := fun j u hu => by
    have e' : ∀ n, (⟨g, 0, none⟩ : Addr).add n = ⟨g, n, none⟩ := fun n => by unfold Addr.add; split <;> simp_all
    rw [e', h5.at]; exact hu
   have hr := run_append_grow (P := P) w t ty E i0 _ ht hi hz ⟨g, 0, none⟩ sc sc (rowC sc h) (by rw [hsz, cN]) holds ⟨ga, 0, none⟩ 1 1 x.cells hl hnews (by omega) (Int.ofNat_le.2 hm) (by rw [hby]; exact growslice_fits (by omega) hb)
   refine ⟨⟨some ⟨w.heap.size, 0, none⟩, sc + 1, grownCap w (sc + 1) sc E⟩, _, fun i => if i < sc then h i else if i = sc then x else ih0, hr, ⟨rfl, .inr ⟨_, rfl, hlo, hge sc, hmax sc, ?_⟩⟩, fun i hi => if_pos hi, (if_neg (Nat.lt_irrefl _)).trans (if_pos rfl), hgr _, .inr fun ad e => by cases e; exact Nat.le_refl _⟩
   exact hbl _ _ _ (hnew (grownCap w (sc + 1) sc E) (hge sc)) _ (by simp)
section
variable {P : Program} {S : World → Prop} {ops : List Oper} {K : Env → World → Prop} {rest : List (Oper × Option Bool)} {ρ : Env} {w : World} {b : Option Bool} {kf : Bool} {d : Nat} {dst : Option Nat} {T T' : TypeId} {pos : String} {af : Array Edge}
theorem ue {T1 E y n d1 t lo : Nat} {x : Operand} {s : SD} {f : Nat → IH} {u : IH} {T2 : TypeId} {pos2 : String} {af2 : Array Edge} [hT : Slc P T1 E 2 y] [hz : Zro P E (.agg #[.bool false, .slice none 0 0])]
  (hs : ρ t = .slice s.a s.len s.cap) (hx : ev ρ x = u.val) (htd : Nat.beq t d1 = false)
  (hR : RowG w lo E n s f) (hm : n + 1 ≤ 9223372036854775807) (hb : (n + 1) * y ≤ 140737488355328) (hlo : lo ≤ w.heap.size)
  (h : ∀ g s' f' w', RowG w' lo E (n + 1) s' f' → (∀ i, i < n → f' i = f i) → f' n = u → w.grownBy w' (Value.slice s.a s.len s.cap).ownBlock → (s'.a = s.a ∨ ∀ x, s'.a = some x → w.heap.size ≤ x.block) →
   RR P (fun _ => True) ops K rest (upd (upd ρ d1 (.slice (some ⟨g, 0, none⟩) 1 1)) d (.slice s'.a s'.len s'.cap)) w') :
  RR P (fun _ => True) ops K ((⟨some d1, .buildSlice T1 1 #[(0, x)], T2, pos2, af2, none⟩, some false) :: (⟨some d, .call ⟨.builtin .append, #[.tmp t, .tmp d1], #[T1, T1]⟩, T, pos, af, none⟩, some false) :: rest) ρ w := by
 refine iv (E := E) (s := 2) (z := .agg #[.bool false, .slice none 0 0]) (cs := u.val.cells) rfl ?_ (fun g w1 hn => tvv ?_)
 ·simp only [List.map_toArray, List.map_cons, List.map_nil, hx]
  exact ew (s := 2) rfl (by simp)
 ·refine dq rfl ?_
  unfold OpW
  obtain ⟨i0, hi0, hzz⟩ := Option.map_eq_some_iff.1 hT.sz
  simp only [Prod.mk.injEq] at hzz
  obtain ⟨i1, hi1, hz1⟩ := Option.map_eq_some_iff.1 hz.ok
  rw [hi0] at hi1
  simp only [Option.some.injEq] at hi1
  subst hi1
  have hsz := hn.ex.size
  have hcs : u.val.cells.toList = u.cells := rfl
  obtain ⟨s', w', f', hr, h1, h2, h3, h4, h5⟩ := kH (P := P) (ty := T) hT.un hi0 hz1 hzz.1 hzz.2 (hR.ext hn.ex) (hcs ▸ hn.blk.sl) hm hb (by omega)
  have e1 : ev (upd ρ d1 (.slice (some ⟨g, 0, none⟩) 1 1)) (.tmp t) = .slice s.a s.len s.cap := by
   show upd ρ d1 _ t = _
   simp only [upd, htd, cond_false, hs]
  have e2 : ev (upd ρ d1 (.slice (some ⟨g, 0, none⟩) 1 1)) (.tmp d1) = .slice (some ⟨g, 0, none⟩) 1 1 := by
   show upd ρ d1 _ d1 = _
   rw [eR]
  have : (execOp (ev (upd ρ d1 (.slice (some ⟨g, 0, none⟩) 1 1))) ⟨some d, .call ⟨.builtin .append, #[.tmp t, .tmp d1], #[T1, T1]⟩, T, pos, af, none⟩).run P w1 = .ok (.value (.slice s'.a s'.len s'.cap)) w' := by
   simp [execOp, resolve, invoke, builtin, e1, e2, hr]
  rw [this]
  refine ⟨fun _ _ => trivial, h g s' f' w' h1 h2 h3 ?_ (h5.imp id fun hh x hx => by have := hh x hx; omega)⟩
  exact ⟨h4.os.trans hn.ex.os, h4.tape.trans hn.ex.tape, h4.output.trans hn.ex.output, by have := h4.size; omega,
   fun k hk hne => (h4.block k (by omega) hne).trans (hn.ex.block k hk)⟩
end
section
variable {P : Program} {S : World → Prop} {ops : List Oper} {K : Env → World → Prop} {rest : List (Oper × Option Bool)} {ρ : Env} {w : World} {b : Option Bool} {kf : Bool} {d : Nat} {dst : Option Nat} {T T' : TypeId} {pos : String} {af : Array Edge}
end
end Go.W
namespace Go.Proofs.YtpfhfldehaiokaaGreat
open Go.W Go.LM
def NoI (cs : List Value) : Prop := ∀ v ∈ cs, ∀ m, v ≠ .int .u32 m
theorem cU (n : Nat) (h : Nat → IH) : NoI (rowC n h) := fun v hv m e => by
 rcases nH hv with ⟨b, rfl⟩ | ⟨a, l, c, rfl⟩ <;> cases e
theorem dI (n : Nat) (s : Nat → SD) : NoI (topC n s) := fun v hv m e => by
 obtain ⟨a, l, c, rfl⟩ := ke hv; cases e
theorem cg (neg : Bool) (a : Option Addr) (n c : Nat) : NoI (intL neg a n c) := fun v hv m e => by
 simp only [List.mem_cons, List.not_mem_nil, or_false] at hv
 rcases hv with rfl | rfl <;> cases e
theorem Limbs.gbN {w w' : World} {a : Option Addr} {c g T : Nat} {ls : List Nat} {cs : List Value} (h : Limbs w a c ls) (hb : Blk w g T cs) (hn : NoI cs) (hg : w.grownBy w' (some g)) : Limbs w' a c ls := by
 refine ⟨?_, h.cap, h.lim, h.len⟩
 cases ls with
 | nil => exact Sl.nil _ _
 | cons d l =>
  refine h.sl.gb hg fun ad e he => ?_
  have := h.sl.off hb (j := 0) (by simp [limbsL]) (fun hm => hn _ hm d rfl) ad e
  cases he; exact this rfl
structure Ent (cn : Bool) (K : Nat) (w : World) (v : Value) (z : Int) : Prop where
 k : IntK K w v z
 c : cn = true → IntC 0 w v z
section
variable {cn : Bool} {K : Nat} {w w' : World} {v : Value} {z : Int}
theorem Ent.of {lo : Nat} (h : IntC lo w v z) (hz : z.natAbs < 4294967296 ^ K) : Ent cn K w v z := ⟨h.k hz, fun _ => h.mono (Nat.zero_le _)⟩
theorem Ent.ext (h : Ent cn K w v z) (e : Ex w w') : Ent cn K w' v z := ⟨h.k.ext e, fun c => (h.c c).ext e⟩
theorem Ent.ih (h : Ent cn K w v z) : ∃ x : IH, v = x.val := by
 obtain ⟨neg, a, c, ls, rfl, _⟩ := h.k
 exact ⟨⟨neg, ⟨a, ls.length, c⟩⟩, rfl⟩
theorem IntC.ih {lo : Nat} (h : IntC lo w v z) : ∃ x : IH, v = x.val := by
 obtain ⟨neg, a, c, ls, rfl, _⟩ := h
 exact ⟨⟨neg, ⟨a, ls.length, c⟩⟩, rfl⟩
theorem IntK.gbN {g T : Nat} {cs : List Value} (h : IntK K w v z) (hb : Blk w g T cs) (hn : NoI cs) (hg : w.grownBy w' (some g)) : IntK K w' v z := by
 obtain ⟨neg, a, c, ls, h1, h2, h3⟩ := h; exact ⟨neg, a, c, ls, h1, h2.gbN hb hn hg, h3⟩
theorem IntC.gbN {g T lo : Nat} {cs : List Value} (h : IntC lo w v z) (hb : Blk w g T cs) (hn : NoI cs) (hg : w.grownBy w' (some g)) : IntC lo w' v z := by
 obtain ⟨neg, a, c, ls, h1, h2, h3⟩ := h; exact ⟨neg, a, c, ls, h1, h2.gbN hb hn hg, h3⟩
theorem Ent.gbN {g T : Nat} {cs : List Value} (h : Ent cn K w v z) (hb : Blk w g T cs) (hn : NoI cs) (hg : w.grownBy w' (some g)) : Ent cn K w' v z :=
 ⟨h.k.gbN hb hn hg, fun c => (h.c c).gbN hb hn hg⟩
end
theorem vV {cn : Bool} {K : Nat} (w : World) : Ent cn K w ih0.val 0 := by
 have h : Limbs w none 0 [] := ⟨Sl.nil _ _, Nat.le_refl _, fun d hd => by simp at hd, by simp⟩
 exact ⟨⟨false, none, 0, [], rfl, h, rfl, Nat.zero_le _⟩, fun _ => ⟨false, none, 0, [], rfl, h, rfl, rfl, fun e => (nomatch e), fun ad e => (nomatch e)⟩⟩
structure RX (cn : Bool) (K : Nat) (w : World) (s : SD) (n : Nat) (f : Nat → Int) : Prop where
 len : s.len = n
 cap : n ≤ s.cap
 ex : ∃ h : Nat → IH, Sl w s.a (rowC n h) ∧ ∀ i, i < n → Ent cn K w (h i).val (f i)
section
variable {cn : Bool} {K n : Nat} {w w' : World} {s : SD} {f f' : Nat → Int}
theorem RX.ext (h : RX cn K w s n f) (e : Ex w w') : RX cn K w' s n f := by
 obtain ⟨hh, h1, h2⟩ := h.ex; exact ⟨h.len, h.cap, hh, h1.ext e, fun i hi => (h2 i hi).ext e⟩
theorem RX.congr (h : RX cn K w s n f) (e : ∀ i, i < n → f' i = f i) : RX cn K w s n f' := by
 obtain ⟨hh, h1, h2⟩ := h.ex; exact ⟨h.len, h.cap, hh, h1, fun i hi => by rw [e i hi]; exact h2 i hi⟩
theorem RX.gbN {g T : Nat} {cs : List Value} (h : RX cn K w s n f) (hb : Blk w g T cs) (hn : NoI cs) (hg : w.grownBy w' (some g)) (hne : ∀ ad, s.a = some ad → ad.block ≠ g) : RX cn K w' s n f := by
 obtain ⟨hh, h1, h2⟩ := h.ex
 exact ⟨h.len, h.cap, hh, h1.gb hg (fun ad e he => hne ad e (by cases he; rfl)), fun i hi => (h2 i hi).gbN hb hn hg⟩
theorem RX.gbT {g T m : Nat} {t : Nat → SD} (h : RX cn K w s n f) (hb : Blk w g T (topC m t)) (hg : w.grownBy w' (some g)) : RX cn K w' s n f := by
 obtain ⟨hh, h1, h2⟩ := h.ex
 refine ⟨h.len, h.cap, hh, ?_, fun i hi => (h2 i hi).gbN hb (dI _ _) hg⟩
 by_cases hn : n = 0
 ·subst hn; exact Sl.nil _ _
 ·refine h1.gb hg fun ad e he => ?_
  have h0 : (rowC n hh).getD 0 undef = .bool (hh 0).neg := by
   have := (gH (h := hh) (show 0 < n by omega)).1
   rw [List.getD_eq_getElem?_getD, show (0 : Nat) = 0 * 2 from rfl, this]; rfl
  have := h1.off hb (j := 0) (by rw [cN]; omega) (fun hm => by
   rw [h0] at hm; obtain ⟨a, l, c, e⟩ := ke hm; cases e) ad e
  cases he; exact this rfl
theorem RX.lt (h : RX cn K w s n f) (hn : 0 < n) : ∀ ad, s.a = some ad → ad.block < w.heap.size := by
 obtain ⟨hh, h1, h2⟩ := h.ex; exact h1.lt (by rw [cN]; omega)
theorem RX.plain (h : RX cn K w s n f) (hn : 0 < n) : W.plain s.a := by
 obtain ⟨hh, h1, h2⟩ := h.ex; exact h1.plain (by rw [cN]; omega)
end
structure MX (cn : Bool) (K : Nat) (w : World) (a : Option Addr) (r c : Nat) (s : Nat → SD) (F : Nat → Nat → Int) : Prop where
 top : Sl w a (topC r s)
 row : ∀ i, i < r → RX cn K w (s i) c (F i)
structure RO (cn : Bool) (K : Nat) (w : World) (lo g cap n : Nat) (f : Nat → Int) : Prop where
 low : lo ≤ g
 le : n ≤ cap
 ex : ∃ h : Nat → IH, Blk w g 34 (rowC cap h) ∧ ∀ i, i < n → Ent cn K w (h i).val (f i)
section
variable {cn : Bool} {K n lo g cap : Nat} {w w' : World} {f f' : Nat → Int}
theorem RO.rx (h : RO cn K w lo g cap n f) : RX cn K w ⟨some ⟨g, 0, none⟩, n, cap⟩ n f := by
 obtain ⟨hh, h1, h2⟩ := h.ex; exact ⟨rfl, h.le, hh, h1.sl.row h.le, h2⟩
theorem RO.ext (h : RO cn K w lo g cap n f) (e : Ex w w') : RO cn K w' lo g cap n f := by
 obtain ⟨hh, h1, h2⟩ := h.ex; exact ⟨h.low, h.le, hh, h1.ext e, fun i hi => (h2 i hi).ext e⟩
theorem RO.mono {lo' : Nat} (h : RO cn K w lo g cap n f) (hl : lo' ≤ lo) : RO cn K w lo' g cap n f := ⟨Nat.le_trans hl h.low, h.le, h.ex⟩
theorem RO.congr (h : RO cn K w lo g cap n f) (e : ∀ i, i < n → f' i = f i) : RO cn K w lo g cap n f' := by
 obtain ⟨hh, h1, h2⟩ := h.ex; exact ⟨h.low, h.le, hh, h1, fun i hi => by rw [e i hi]; exact h2 i hi⟩
theorem RO.gbN {g' T : Nat} {cs : List Value} (h : RO cn K w lo g cap n f) (hb : Blk w g' T cs) (hn : NoI cs) (hg : w.grownBy w' (some g')) (hne : g ≠ g') : RO cn K w' lo g cap n f := by
 obtain ⟨hh, h1, h2⟩ := h.ex
 exact ⟨h.low, h.le, hh, h1.gb hg (fun e => hne (by cases e; rfl)), fun i hi => (h2 i hi).gbN hb hn hg⟩
theorem RO.lt (h : RO cn K w lo g cap n f) : g < w.heap.size := by obtain ⟨hh, h1, h2⟩ := h.ex; exact h1.lt
theorem RO.put {j : Nat} {hh : Nat → IH} {u : IH} {z : Int} (hlo : lo ≤ g) (hcap : n ≤ cap) (hb : Blk w g 34 (rowC cap hh)) (h2 : ∀ i, i < n → Ent cn K w (hh i).val (f i)) (hu : Ent cn K w u.val z)
  (hg : Chg g w w') (hb' : Blk w' g 34 (rowC cap (setF hh j u))) : RO cn K w' lo g cap n (setF f j z) := by
 refine ⟨hlo, hcap, _, hb', fun i hi => ?_⟩
 by_cases h : i = j
 ·subst h; rw [aI, aI]; exact hu.gbN hb (cU _ _) (dx hg)
 ·rw [aN _ _ h, aN _ _ h]; exact (h2 i hi).gbN hb (cU _ _) (dx hg)
end
structure MO (cn : Bool) (K : Nat) (w : World) (lo g r c : Nat) (gs cap : Nat → Nat) (F : Nat → Nat → Int) : Prop where
 low : lo ≤ g
 top : Blk w g 50 (topC r fun i => ⟨some ⟨gs i, 0, none⟩, c, cap i⟩)
 row : ∀ i, i < r → RO cn K w lo (gs i) (cap i) c (F i)
 off : ∀ i, i < r → gs i ≠ g
 inj : ∀ i j, i < r → j < r → gs i = gs j → i = j
section
variable {cn : Bool} {K r c lo g : Nat} {w w' : World} {gs cap : Nat → Nat} {F F' : Nat → Nat → Int}
theorem MO.mx (h : MO cn K w lo g r c gs cap F) : MX cn K w (some ⟨g, 0, none⟩) r c (fun i => ⟨some ⟨gs i, 0, none⟩, c, cap i⟩) F := ⟨h.top.sl, fun i hi => (h.row i hi).rx⟩
theorem MO.ext (h : MO cn K w lo g r c gs cap F) (e : Ex w w') : MO cn K w' lo g r c gs cap F := ⟨h.low, h.top.ext e, fun i hi => (h.row i hi).ext e, h.off, h.inj⟩
theorem MO.mono {lo' : Nat} (h : MO cn K w lo g r c gs cap F) (hl : lo' ≤ lo) : MO cn K w lo' g r c gs cap F := ⟨Nat.le_trans hl h.low, h.top, fun i hi => (h.row i hi).mono hl, h.off, h.inj⟩
theorem MO.congr (h : MO cn K w lo g r c gs cap F) (e : ∀ i j, i < r → j < c → F' i j = F i j) : MO cn K w lo g r c gs cap F' := ⟨h.low, h.top, fun i hi => (h.row i hi).congr fun j hj => e i j hi hj, h.off, h.inj⟩
theorem MO.gbN {g' T : Nat} {cs : List Value} (h : MO cn K w lo g r c gs cap F) (hb : Blk w g' T cs) (hn : NoI cs) (hg : w.grownBy w' (some g')) (hne : g ≠ g') (hns : ∀ i, i < r → gs i ≠ g') : MO cn K w' lo g r c gs cap F :=
 ⟨h.low, h.top.gb hg (fun e => hne (by cases e; rfl)), fun i hi => (h.row i hi).gbN hb hn hg (hns i hi), h.off, h.inj⟩
theorem MO.lt (h : MO cn K w lo g r c gs cap F) : g < w.heap.size := h.top.lt
end
section
variable {cn : Bool} {K r c : Nat} {w w' : World} {a : Option Addr} {s : Nat → SD} {F F' : Nat → Nat → Int}
theorem MX.ext (h : MX cn K w a r c s F) (e : Ex w w') : MX cn K w' a r c s F := ⟨h.top.ext e, fun i hi => (h.row i hi).ext e⟩
theorem MX.congr (h : MX cn K w a r c s F) (e : ∀ i j, i < r → j < c → F' i j = F i j) : MX cn K w a r c s F' := ⟨h.top, fun i hi => (h.row i hi).congr fun j hj => e i j hi hj⟩
theorem MX.plain (h : MX cn K w a r c s F) (hr : 0 < r) : W.plain a := h.top.plain (by rw [cv]; exact hr)
end
def RetMO (K : Nat) (w : World) (r c : Nat) (F : Nat → Nat → Int) (v : Value) (w' : World) : Prop :=
 ∃ g gs cap, v = .slice (some ⟨g, 0, none⟩) r r ∧ MO true K w' w.heap.size g r c gs cap F ∧ Ex w w'
end Go.Proofs.YtpfhfldehaiokaaGreat
