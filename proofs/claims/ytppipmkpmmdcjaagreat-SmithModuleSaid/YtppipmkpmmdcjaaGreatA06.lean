import Derived.Test.YtppipmkpmmdcjaaGreatA05
namespace Go.W
structure IH where
 neg : Bool
 sd : SD
abbrev ih0 : IH := ⟨false, sd0⟩
def IH.cells (h : IH) : List Value := [.bool h.neg, .slice h.sd.a h.sd.len h.sd.cap]
def IH.val (h : IH) : Value := .agg h.cells.toArray
def setF {α : Type} (f : Nat → α) (i : Nat) (x : α) : Nat → α := fun j => if j = i then x else f j
theorem aJ {α : Type} (f : Nat → α) (i : Nat) (x : α) : setF f i x i = x := by simp [setF]
theorem aO {α : Type} (f : Nat → α) {i j : Nat} (x : α) (h : j ≠ i) : setF f i x j = f j := by simp [setF, h]
def rowC (n : Nat) (h : Nat → IH) : List Value := (List.range n).flatMap fun i => (h i).cells
def topC (n : Nat) (s : Nat → SD) : List Value := (List.range n).map fun i => (s i).val
theorem jw (h : Nat → IH) : rowC 0 h = [] := rfl
theorem df (n : Nat) (h : Nat → IH) : rowC (n + 1) h = rowC n h ++ (h n).cells := by
 unfold rowC; rw [List.range_succ, List.flatMap_append]; simp
theorem bW : ∀ (n : Nat) (h : Nat → IH), (rowC n h).length = n * 2
 | 0, _ => rfl
 | n + 1, h => by rw [df, List.length_append, bW n h]; simp [IH.cells]; omega
theorem f8 {n : Nat} {h h' : Nat → IH} (e : ∀ i, i < n → h i = h' i) : rowC n h = rowC n h' := by
 induction n with
 | zero => rfl
 | succ n ih => rw [df, df, ih (fun i hi => e i (by omega)), e n (by omega)]
theorem kQ : ∀ {n : Nat} {h : Nat → IH} {i : Nat}, i < n → (rowC n h)[i * 2]? = some (.bool (h i).neg) ∧ (rowC n h)[i * 2 + 1]? = some (.slice (h i).sd.a (h i).sd.len (h i).sd.cap)
 | n + 1, h, i, hi => by
  have hl := bW n h
  rw [df]
  by_cases hn : i < n
  ·rw [List.getElem?_append_left (by omega), List.getElem?_append_left (by omega)]
   exact kQ hn
  ·obtain rfl : i = n := by omega
   rw [List.getElem?_append_right (by omega), List.getElem?_append_right (by omega), hl]
   simp [IH.cells]
theorem kR : ∀ {n : Nat} {h : Nat → IH} {i : Nat} (x : IH), i < n → (rowC n h).take (i * 2) ++ x.cells ++ (rowC n h).drop (i * 2 + 2) = rowC n (setF h i x)
 | n + 1, h, i, x, hi => by
  have hl := bW n h
  have hc : ∀ y : IH, y.cells.length = 2 := fun _ => rfl
  rw [df, df]
  by_cases hn : i < n
  ·rw [List.take_append_of_le_length (by omega), List.drop_append_of_le_length (by omega), ← kR x hn, aO h x (by omega)]
   simp only [List.append_assoc]
  ·obtain rfl : i = n := by omega
   rw [← hl, List.take_left, List.drop_eq_nil_of_le (by simp [hl, hc]), List.append_nil, aJ,
    f8 (h' := h) (fun j hj => aO h x (by omega))]
theorem mf {n : Nat} {h : Nat → IH} {v : Value} (hv : v ∈ rowC n h) : (∃ b, v = .bool b) ∨ ∃ a l c, v = .slice a l c := by
 unfold rowC at hv
 rw [List.mem_flatMap] at hv
 obtain ⟨i, _, hi⟩ := hv
 simp only [IH.cells, List.mem_cons, List.not_mem_nil, or_false] at hi
 rcases hi with e | e
 ·exact .inl ⟨_, e⟩
 ·exact .inr ⟨_, _, _, e⟩
theorem kS (n : Nat) (h : Nat → IH) : (rowC n h).all Value.oneCell' = true := by
 rw [List.all_eq_true]; intro v hv
 rcases mf hv with ⟨b, rfl⟩ | ⟨a, l, c, rfl⟩ <;> rfl
theorem mg (n : Nat) : (madeCells (Value.cells (.agg #[.bool false, .slice none 0 0])) (n * 2)).toList = rowC n fun _ => ih0 := by
 induction n with
 | zero => simp [madeCells, jw]
 | succ n ih =>
  rw [df, ← ih]
  simp only [madeCells, Array.toList_map, Array.toList_range]
  rw [show (n + 1) * 2 = n * 2 + 1 + 1 by omega, List.range_succ, List.range_succ]
  simp only [List.map_append, List.append_assoc, List.map_cons, List.map_nil, List.cons_append, List.nil_append]
  have a1 : n * 2 % 2 = 0 := by omega
  have a2 : (n * 2 + 1) % 2 = 1 := by omega
  simp [a1, a2, IH.cells, Value.cells]
theorem kT (n : Nat) : (Builtin.zeroCells (Value.cells (.agg #[.bool false, .slice none 0 0])) n).toList = rowC n fun _ => ih0 := mg n
theorem b9 (n : Nat) (s : Nat → SD) : (topC n s).length = n := by simp [topC]
theorem cv {n : Nat} {s s' : Nat → SD} (e : ∀ i, i < n → s i = s' i) : topC n s = topC n s' :=
 List.map_congr_left fun i hi => by rw [e i (List.mem_range.1 hi)]
theorem fR {n : Nat} {s : Nat → SD} {i : Nat} (hi : i < n) : (topC n s)[i]? = some (s i).val := by
 simp [topC, hi]
theorem rM {n : Nat} {s : Nat → SD} {i : Nat} (x : SD) : (topC n s).set i x.val = topC n (setF s i x) := by
 refine List.ext_getElem? fun j => ?_
 by_cases hj : j < n
 ·by_cases h : j = i
  ·subst h
   rw [List.getElem?_set_self (by rw [b9]; omega), fR hj, aJ]
  ·rw [List.getElem?_set_ne (fun e => h e.symm), fR hj, fR hj, aO s x h]
 ·rw [List.getElem?_eq_none (by rw [List.length_set, b9]; omega), List.getElem?_eq_none (by rw [b9]; omega)]
theorem nZ (n : Nat) (s : Nat → SD) : (topC n s).all Value.oneCell' = true := by
 rw [List.all_eq_true]; intro v hv
 simp only [topC, List.mem_map] at hv
 obtain ⟨i, _, rfl⟩ := hv; rfl
theorem mj {n : Nat} {s : Nat → SD} {v : Value} (hv : v ∈ topC n s) : ∃ a l c, v = .slice a l c := by
 simp only [topC, List.mem_map] at hv
 obtain ⟨i, _, rfl⟩ := hv; exact ⟨_, _, _, rfl⟩
theorem qA (n : Nat) : (List.replicate n sd0).map SD.val = topC n fun _ => sd0 := by
 simp [topC, List.map_const']
theorem Blk.at {w : World} {g T j : Nat} {cs : List Value} (h : Blk w g T cs) : w.cell? ⟨g, j, none⟩ = cs[j]? := by
 unfold Blk at h; simp [World.cell?, h]
theorem Blk.mem {w : World} {g T j : Nat} {cs : List Value} {v : Value} (h : Blk w g T cs) (hv : w.cell? ⟨g, j, none⟩ = some v) : v ∈ cs := by
 rw [h.at] at hv; exact List.mem_of_getElem? hv
theorem Sl.off {w : World} {a : Option Addr} {vs cs : List Value} {g T : Nat} (h : Sl w a vs) (hb : Blk w g T cs) {j : Nat} (hj : j < vs.length) (hn : vs.getD j undef ∉ cs) : ∀ ad, a = some ad → ad.block ≠ g := by
 rintro ad rfl e
 obtain ⟨g', o, h'⟩ := h.plain (by omega)
 cases h'
 simp only at e
 subst e
 exact hn (hb.mem (h.get j hj))
section
variable {P : Program} {S : World → Prop} {ops : List Oper} {K : Env → World → Prop} {rest : List (Oper × Option Bool)} {ρ : Env} {w : World} {b : Option Bool} {kf : Bool} {d : Nat} {dst : Option Nat} {T T' : TypeId} {pos : String} {af : Array Edge}
theorem rN {x y : Operand} {k : IntKind} {m m' : Int} {T'' : TypeId} (hx : ev ρ x = .int k m) (hy : ev ρ y = .int k m') (hd : m' < m) (h : RR P S ops K rest (upd ρ d (.bool false)) w) : RR P S ops K ((⟨some d, .binOp .leq T' x y T'', T, pos, af, none⟩, b) :: rest) ρ w :=
 ub hx hy (by rw [decide_eq_false (by omega)]; exact h)
theorem ep {T1 E y n : Nat} {x1 x2 : Operand} [hT : Slc P T1 E 2 y] [hz : Zro P E (.agg #[.bool false, .slice none 0 0])] (h1 : ev ρ x1 = .int .i64 n) (h2 : ev ρ x2 = .int .i64 n) (hb : y * n ≤ 281474976710656) (hm : n ≤ 9223372036854775807)
  (h : ∀ g w', New w w' g E (rowC n fun _ => ih0) → (kf = true → S w → S w') ∧ RR P S ops K rest (upd ρ d (.slice (some ⟨g, 0, none⟩) n n)) w') :
  RR P S ops K ((⟨some d, .makeSlice T1 x1 x2, T, pos, af, none⟩, some kf) :: rest) ρ w :=
 rk h1 h2 hb hm (fun g w' hn => h g w' (by rw [← mg]; exact hn))
theorem et {T1 E y n : Nat} {x1 x2 : Operand} [hT : Slc P T1 E 1 y] [hz : Zro P E (.slice none 0 0)] (h1 : ev ρ x1 = .int .i64 n) (h2 : ev ρ x2 = .int .i64 n) (hb : y * n ≤ 281474976710656) (hm : n ≤ 9223372036854775807)
  (h : ∀ g w', New w w' g E (topC n fun _ => sd0) → (kf = true → S w → S w') ∧ RR P S ops K rest (upd ρ d (.slice (some ⟨g, 0, none⟩) n n)) w') :
  RR P S ops K ((⟨some d, .makeSlice T1 x1 x2, T, pos, af, none⟩, some kf) :: rest) ρ w :=
 tg h1 h2 hb hm (fun g w' hn => h g w' (by rw [← qA]; exact hn))
theorem aT {x ix : Operand} {a : Option Addr} {l c E y j : Nat} {k : IntKind} [hT : Slc P T' E 2 y] (hx : ev ρ x = .slice a l c) (hi : ev ρ ix = .int k (j : Int)) (ha : W.plain a)
  (h2 : j < l) (h : RR P S ops K rest (upd ρ d (.pointer (some (elt a (j * 2))))) w) :
  RR P S ops K ((⟨some d, .indexAddr T' x ix, T, pos, af, none⟩, b) :: rest) ρ w :=
 gG hx hi ha (by omega) (by omega) (by simpa using h)
theorem bu {x : Operand} {T1 : TypeId} {a : Option Addr} {j n : Nat} {f : Nat → IH} [Agg P T1 2] (hx : ev ρ x = .pointer (some (elt a (j * 2)))) (hs : Rd b S w fun w' => Sl w' a (rowC n f)) (hp : W.plain a) (hj : j < n)
  (h : RR P S ops K rest (upd ρ d (f j).val) w) : RR P S ops K ((⟨some d, .load T1 x, T, pos, af, none⟩, b) :: rest) ρ w := by
 obtain ⟨g, o, rfl⟩ := hp
 refine pP (g := g) (o := o + j * 2) (vs := (f j).cells) (by rw [hx]; rfl) rfl (hs.imp fun w' hs => ?_) h
 have hl := bW n f
 obtain ⟨g1, g2⟩ := kQ (h := f) hj
 intro i hi
 have hi2 : i < 2 := hi
 have := hs.get (j * 2 + i) (by omega)
 simp only [elt] at this
 rw [Nat.add_assoc, this, List.getD_eq_getElem?_getD]
 rcases i with _ | _ | i
 ·rw [Nat.add_zero, g1]; rfl
 ·rw [g2]; rfl
 ·omega
theorem ew {x : Operand} {T1 : TypeId} {a : Option Addr} {j n : Nat} {s : Nat → SD} [Scal P T1] (hx : ev ρ x = .pointer (some (elt a j))) (hs : Rd b S w fun w' => Sl w' a (topC n s)) (hj : j < n)
  (h : RR P S ops K rest (upd ρ d (.slice (s j).a (s j).len (s j).cap)) w) : RR P S ops K ((⟨some d, .load T1 x, T, pos, af, none⟩, b) :: rest) ρ w :=
 gH hx (hs.imp fun w' hs => by
  have := hs.get j (by rw [b9]; exact hj)
  rw [this, List.getD_eq_getElem?_getD, fR hj]; rfl) h
theorem aU {x : Operand} {T1 : TypeId} {a a1 : Option Addr} {j n l1 c1 : Nat} {s : Nat → SD} [Scal P T1] (hx : ev ρ x = .pointer (some (elt a j))) (hs : Rd b S w fun w' => Sl w' a (topC n s)) (hj : j < n) (hv : s j = ⟨a1, l1, c1⟩)
  (h : RR P S ops K rest (upd ρ d (.slice a1 l1 c1)) w) : RR P S ops K ((⟨some d, .load T1 x, T, pos, af, none⟩, b) :: rest) ρ w :=
 ew hx hs hj (by rw [hv]; exact h)
theorem ch {x y : Operand} {T1 : TypeId} {g j n Tb : Nat} {f : Nat → IH} {u : IH} [hT : Agg P T1 2] (hx : ev ρ x = .pointer (some (elt (some ⟨g, 0, none⟩) (j * 2)))) (hy : ev ρ y = u.val)
  (hb : Blk w g Tb (rowC n f)) (hj : j < n)
  (h : ∀ w', Chg g w w' → Blk w' g Tb (rowC n (setF f j u)) → (kf = true → S w → S w') ∧ RR P S ops K rest ρ w') :
  RR P S ops K ((⟨none, .store T1 x y, T, pos, af, none⟩, some kf) :: rest) ρ w :=
 nF (n := 2) (o := j * 2) (vs := u.cells) (by rw [hx]; simp [elt]) hy rfl rfl hb (by rw [bW]; omega) (fun w' hc hb' => h w' hc (by
  rw [← kR u hj]; exact hb'))
theorem ci {x y : Operand} {T1 : TypeId} {g j n Tb : Nat} {s : Nat → SD} {u : SD} [hT : Scal P T1] (hx : ev ρ x = .pointer (some (elt (some ⟨g, 0, none⟩) j))) (hy : ev ρ y = .slice u.a u.len u.cap)
  (hb : Blk w g Tb (topC n s)) (hj : j < n)
  (h : ∀ w', Chg g w w' → Blk w' g Tb (topC n (setF s j u)) → (kf = true → S w → S w') ∧ RR P S ops K rest ρ w') :
  RR P S ops K ((⟨none, .store T1 x y, T, pos, af, none⟩, some kf) :: rest) ρ w :=
 eY (v := u.val) hx hy rfl hb (by rw [b9]; exact hj) (fun w' hc hb' => h w' hc (by rw [← rM]; exact hb'))
end
end Go.W
namespace Go.W
def RowG (w : World) (lo E n : Nat) (s : SD) (h : Nat → IH) : Prop :=
 s.len = n ∧ ((s = sd0 ∧ n = 0) ∨ ∃ g, s.a = some ⟨g, 0, none⟩ ∧ lo ≤ g ∧ n ≤ s.cap ∧ s.cap ≤ maxLen ∧ Blk w g E (rowC s.cap h))
theorem RowG.nil (w : World) (lo E : Nat) (h : Nat → IH) : RowG w lo E 0 sd0 h := ⟨rfl, .inl ⟨rfl, rfl⟩⟩
theorem RowG.gb {w w' : World} {lo E n : Nat} {s : SD} {h : Nat → IH} {r : Option Nat} (hR : RowG w lo E n s h) (hg : w.grownBy w' r) (hne : ∀ ad, s.a = some ad → r ≠ some ad.block) : RowG w' lo E n s h := by
 refine ⟨hR.1, ?_⟩
 rcases hR.2 with h0 | ⟨g, h1, h2, h3, h4, h5⟩
 ·exact .inl h0
 ·exact .inr ⟨g, h1, h2, h3, h4, h5.gb hg (hne _ h1)⟩
theorem RowG.ext {w w' : World} {lo E n : Nat} {s : SD} {h : Nat → IH} (hR : RowG w lo E n s h) (e : Ex w w') : RowG w' lo E n s h := hR.gb (lA e) (fun _ _ h => by cases h)
theorem qB {n m : Nat} {h : Nat → IH} (hm : n ≤ m) : (rowC m h).take (n * 2) = rowC n h := by
 obtain ⟨k, rfl⟩ : ∃ k, m = n + k := ⟨m - n, by omega⟩
 clear hm
 induction k with
 | zero => rw [Nat.add_zero, List.take_of_length_le (by rw [bW]; omega)]
 | succ k ih => rw [← Nat.add_assoc, df, List.take_append_of_le_length (by rw [bW]; omega), ih]
theorem Sl.row {w : World} {a : Option Addr} {n m : Nat} {h : Nat → IH} (hs : Sl w a (rowC m h)) (hm : n ≤ m) : Sl w a (rowC n h) := by
 rw [← qB hm]; exact hs.take _
theorem eI {n m : Nat} {f g : Nat → IH} : rowC n f ++ rowC m g = rowC (n + m) fun i => if i < n then f i else g (i - n) := by
 induction m with
 | zero => rw [jw, List.append_nil, Nat.add_zero]; exact f8 fun i hi => by rw [if_pos hi]
 | succ m ih =>
  rw [← Nat.add_assoc, df, df, ← ih, List.append_assoc, if_neg (by omega), Nat.add_sub_cancel_left]
theorem qC (x : IH) : x.cells = rowC 1 fun _ => x := by simp [rowC]
theorem jT {P : Program} {w : World} {lo E y t ty n : Nat} {s : SD} {h : Nat → IH} {i0 : TypeInfo} {x : IH} {ga : Nat} (ht : P.underlying t = some (.slice E)) (hi : P.info? E = some i0) (hz : i0.zero = some (.agg #[.bool false, .slice none 0 0])) (hsz : i0.size = 2) (hby : i0.bytes = y)
  (hR : RowG w lo E n s h) (hx : Sl w (some ⟨ga, 0, none⟩) x.cells) (hm : n + 1 ≤ 9223372036854775807) (hb : (n + 1) * y ≤ 140737488355328) (hlo : lo ≤ w.heap.size) :
  ∃ s' w' h', (Builtin.append_ #[t, t] ty #[.slice s.a s.len s.cap, .slice (some ⟨ga, 0, none⟩) 1 1]).run P w = .ok (.slice s'.a s'.len s'.cap) w' ∧ RowG w' lo E (n + 1) s' h' ∧ (∀ i, i < n → h' i = h i) ∧ h' n = x ∧
   w.grownBy w' (Value.slice s.a s.len s.cap).ownBlock ∧ (s'.a = s.a ∨ ∀ ad, s'.a = some ad → w.heap.size ≤ ad.block) := by
 have e : ∀ n, (⟨ga, 0, none⟩ : Addr).add n = ⟨ga, 0 + n, none⟩ := fun n => by unfold Addr.add; split <;> simp_all
 have hnews : ∀ j u, x.cells[j]? = some u → w.cell? ((⟨ga, 0, none⟩ : Addr).add j) = some u := fun j u hu => by
  have hj : j < x.cells.length := (List.getElem?_eq_some_iff.1 hu).1
  have := hx.get j hj
  rw [e]
  simp only [elt] at this
  rw [this, List.getD_eq_getElem?_getD, hu]; rfl
 have hl : x.cells.length = 1 * i0.size := by rw [hsz]; rfl
 have hmax : ∀ old, grownCap w (n + 1) old E ≤ maxLen := fun old => grownCap_le_maxLen w (n + 1) old E hm
 have hge : ∀ old, n + 1 ≤ grownCap w (n + 1) old E := fun old => grownCap_ge w (n + 1) old E
 have hnew : ∀ (k : Nat), n + 1 ≤ k → (rowC n h ++ x.cells ++ (Builtin.zeroCells (Value.cells (.agg #[.bool false, .slice none 0 0])) (k - (n + 1))).toList) = rowC k (fun i => if i < n then h i else if i = n then x else ih0) := fun k hk => by
  rw [kT, qC x, eI, eI]
  rw [show n + 1 + (k - (n + 1)) = k by omega]
  refine f8 fun i _ => ?_
  by_cases h1 : i < n
  ·rw [if_pos (by omega), if_pos h1, if_pos h1]
  ·by_cases h2 : i = n
   ·subst h2; rw [if_pos (by omega), if_neg (by omega), if_neg (by omega), if_pos rfl]
   ·rw [if_neg (by omega), if_neg h1, if_neg h2]
 have hgr : ∀ (o : Obj) {row : Option Nat}, w.grownBy (w.drew.alloc o) row := fun o _ => ⟨rfl, rfl, rfl, by simp, fun k hk _ => heap_alloc_old w.drew o hk⟩
 have hbl : ∀ (xs zs : List Value) (k : Nat), xs ++ zs = rowC k (fun i => if i < n then h i else if i = n then x else ih0) → ∀ cs : Array Value, cs.toList = xs ++ zs → Blk (w.drew.alloc (.cells cs E)) w.heap.size E (rowC k (fun i => if i < n then h i else if i = n then x else ih0)) := fun xs zs k e cs hcs => by
  have : cs = (rowC k (fun i => if i < n then h i else if i = n then x else ih0)).toArray := by rw [← e, ← hcs]
  rw [this]
  exact heap_alloc_new w.drew _
 obtain ⟨hlen, hcase⟩ := hR
 rcases hcase with ⟨rfl, rfl⟩ | ⟨g, h1, h2, h3, h4, h5⟩
 ·have hr := run_append_nil (P := P) w t ty E i0 _ ht hi hz ⟨ga, 0, none⟩ 1 1 x.cells hl hnews (by omega) (by omega) (by rw [hby]; omega)
  refine ⟨⟨some ⟨w.heap.size, 0, none⟩, 1, grownCap w 1 0 E⟩, _, fun i => if i < 0 then h i else if i = 0 then x else ih0, hr, ⟨rfl, .inr ⟨_, rfl, hlo, hge 0, hmax 0, ?_⟩⟩, fun i hi => by omega, rfl, hgr _, .inr fun ad e => by cases e; exact Nat.le_refl _⟩
  have := hnew (grownCap w 1 0 E) (hge 0)
  rw [jw, List.nil_append] at this
  exact hbl _ _ _ this _ (by simp)
 ·obtain ⟨sa, sl, sc⟩ := s
  simp only at h1 hlen h3 h4 h5
  subst h1; subst hlen
  by_cases hroom : sl + 1 ≤ sc
  ·have hr := run_append_room (P := P) w t ty E i0 ht hi g sl sc _ h5 ⟨ga, 0, none⟩ 1 1 x.cells hl hnews (fun u hu => by
    simp only [IH.cells, List.mem_cons, List.not_mem_nil, or_false] at hu
    rcases hu with rfl | rfl <;> rfl) hroom (by
    rw [hsz, List.size_toArray, bW]
    have : x.cells.length = 2 := rfl
    omega)
   refine ⟨⟨some ⟨g, 0, none⟩, sl + 1, sc⟩, _, setF h sl x, hr, ⟨rfl, .inr ⟨g, rfl, h2, hroom, h4, ?_⟩⟩, fun i hi => aO h x (by omega), aJ h sl x, ⟨rfl, rfl, rfl, by simp, fun k _ hk => setRow_other w g k _ (fun e => hk (by simp [Value.ownBlock, e]))⟩, .inl rfl⟩
   have := kR (h := h) x (show sl < sc by omega)
   rw [← this]
   have := setRow_heap w g (rowC sc h).toArray ((rowC sc h).toArray.toList.take (sl * i0.size) ++ x.cells ++ (rowC sc h).toArray.toList.drop (sl * i0.size + x.cells.length)).toArray E (0, 0) h5
   rw [hsz] at this ⊢
   exact this
  ·have hcap : sc = sl := by omega
   subst hcap
   have holds : ∀ j u, (rowC sc h)[j]? = some u → w.cell? ((⟨g, 0, none⟩ : Addr).add j) = some u := fun j u hu => by
    have e' : ∀ n, (⟨g, 0, none⟩ : Addr).add n = ⟨g, n, none⟩ := fun n => by unfold Addr.add; split <;> simp_all
    rw [e', h5.at]; exact hu
   have hr := run_append_grow (P := P) w t ty E i0 _ ht hi hz ⟨g, 0, none⟩ sc sc (rowC sc h) (by rw [hsz, bW]) holds ⟨ga, 0, none⟩ 1 1 x.cells hl hnews (by omega) (Int.ofNat_le.2 hm) (by rw [hby]; exact growslice_fits (by omega) hb)
   refine ⟨⟨some ⟨w.heap.size, 0, none⟩, sc + 1, grownCap w (sc + 1) sc E⟩, _, fun i => if i < sc then h i else if i = sc then x else ih0, hr, ⟨rfl, .inr ⟨_, rfl, hlo, hge sc, hmax sc, ?_⟩⟩, fun i hi => if_pos hi, (if_neg (Nat.lt_irrefl _)).trans (if_pos rfl), hgr _, .inr fun ad e => by cases e; exact Nat.le_refl _⟩
   exact hbl _ _ _ (hnew (grownCap w (sc + 1) sc E) (hge sc)) _ (by simp)
section
variable {P : Program} {S : World → Prop} {ops : List Oper} {K : Env → World → Prop} {rest : List (Oper × Option Bool)} {ρ : Env} {w : World} {b : Option Bool} {kf : Bool} {d : Nat} {dst : Option Nat} {T T' : TypeId} {pos : String} {af : Array Edge}
theorem uM {T1 E y n d1 t lo : Nat} {x : Operand} {s : SD} {f : Nat → IH} {u : IH} {T2 : TypeId} {pos2 : String} {af2 : Array Edge} [hT : Slc P T1 E 2 y] [hz : Zro P E (.agg #[.bool false, .slice none 0 0])]
  (hs : ρ t = .slice s.a s.len s.cap) (hx : ev ρ x = u.val) (htd : Nat.beq t d1 = false)
  (hR : RowG w lo E n s f) (hm : n + 1 ≤ 9223372036854775807) (hb : (n + 1) * y ≤ 140737488355328) (hlo : lo ≤ w.heap.size)
  (h : ∀ g s' f' w', RowG w' lo E (n + 1) s' f' → (∀ i, i < n → f' i = f i) → f' n = u → w.grownBy w' (Value.slice s.a s.len s.cap).ownBlock → (s'.a = s.a ∨ ∀ x, s'.a = some x → w.heap.size ≤ x.block) →
   RR P (fun _ => True) ops K rest (upd (upd ρ d1 (.slice (some ⟨g, 0, none⟩) 1 1)) d (.slice s'.a s'.len s'.cap)) w') :
  RR P (fun _ => True) ops K ((⟨some d1, .buildSlice T1 1 #[(0, x)], T2, pos2, af2, none⟩, some false) :: (⟨some d, .call ⟨.builtin .append, #[.tmp t, .tmp d1], #[T1, T1]⟩, T, pos, af, none⟩, some false) :: rest) ρ w := by
 refine fL (E := E) (s := 2) (z := .agg #[.bool false, .slice none 0 0]) (cs := u.val.cells) rfl ?_ (fun g w1 hn => ⟨fun _ _ => trivial, ?_⟩)
 ·simp only [List.map_toArray, List.map_cons, List.map_nil, hx]
  exact gJ (s := 2) rfl (by simp)
 ·refine dA rfl ?_
  unfold OpW
  obtain ⟨i0, hi0, hzz⟩ := Option.map_eq_some_iff.1 hT.sz
  simp only [Prod.mk.injEq] at hzz
  obtain ⟨i1, hi1, hz1⟩ := Option.map_eq_some_iff.1 hz.ok
  rw [hi0] at hi1
  simp only [Option.some.injEq] at hi1
  subst hi1
  have hsz := hn.ex.size
  have hcs : u.val.cells.toList = u.cells := rfl
  obtain ⟨s', w', f', hr, h1, h2, h3, h4, h5⟩ := jT (P := P) (ty := T) hT.un hi0 hz1 hzz.1 hzz.2 (hR.ext hn.ex) (hcs ▸ hn.blk.sl) hm hb (by omega)
  have e1 : ev (upd ρ d1 (.slice (some ⟨g, 0, none⟩) 1 1)) (.tmp t) = .slice s.a s.len s.cap := by
   show upd ρ d1 _ t = _
   simp only [upd, htd, cond_false, hs]
  have e2 : ev (upd ρ d1 (.slice (some ⟨g, 0, none⟩) 1 1)) (.tmp d1) = .slice (some ⟨g, 0, none⟩) 1 1 := by
   show upd ρ d1 _ d1 = _
   rw [eV]
  have : (execOp (ev (upd ρ d1 (.slice (some ⟨g, 0, none⟩) 1 1))) ⟨some d, .call ⟨.builtin .append, #[.tmp t, .tmp d1], #[T1, T1]⟩, T, pos, af, none⟩).run P w1 = .ok (.value (.slice s'.a s'.len s'.cap)) w' := by
   simp [execOp, resolve, invoke, builtin, e1, e2, hr]
  rw [this]
  refine ⟨fun _ _ => trivial, h g s' f' w' h1 h2 h3 ?_ (h5.imp id fun hh x hx => by have := hh x hx; omega)⟩
  exact ⟨h4.os.trans hn.ex.os, h4.tape.trans hn.ex.tape, h4.output.trans hn.ex.output, by have := h4.size; omega,
   fun k hk hne => (h4.block k (by omega) hne).trans (hn.ex.block k hk)⟩
end
end Go.W
namespace Go.W
theorem qD {P : Program} {w : World} {dT ty E g n dc sc s Tb : Nat} {a : Addr} {cur cs : List Value} {i0 : TypeInfo} (hu : P.underlying dT = some (.slice E)) (hi : P.info? E = some i0) (hs : i0.size = s)
  (hb : Blk w g Tb cur) (hl : cs.length = n * s) (hsrc : ∀ j v, cs[j]? = some v → w.cell? (a.add j) = some v) (hfit : cs.length ≤ cur.length) (h1 : ∀ v ∈ cs, v.oneCell' = true) :
  (Builtin.copy_ #[dT, dT] ty #[.slice (some ⟨g, 0, none⟩) n dc, .slice (some a) n sc]).run P w = .ok (.int .i64 n) (w.setRow g (cs ++ cur.drop cs.length).toArray) := by
 have hl' := run_loadCells_list (P := P) w a cs hsrc
 have hst := run_storeCells_at P g 0 Tb cs 0 cur.toArray w hb (by simpa using hfit) h1
 simp only [Nat.add_zero, Nat.zero_add, List.take_zero, List.nil_append] at hst
 subst hs
 have e : Nat.min n n = n := Nat.min_self n
 simp [Builtin.copy_, run_underlying hu, Builtin.lenOf, Builtin.firstCells, sizeOf, typeInfo, hi, ← hl, hl', hst, e]
 rfl
section
variable {P : Program} {S : World → Prop} {ops : List Oper} {K : Env → World → Prop} {rest : List (Oper × Option Bool)} {ρ : Env} {w : World} {b : Option Bool} {kf : Bool} {d : Nat} {dst : Option Nat} {T T' : TypeId} {pos : String} {af : Array Edge}
theorem kd {T1 E s y n dc sc g Tb : Nat} {x1 x2 : Operand} {a : Option Addr} {cur cs : List Value} [hT : Slc P T1 E s y] (h1 : ev ρ x1 = .slice (some ⟨g, 0, none⟩) n dc) (h2 : ev ρ x2 = .slice a n sc) (hp : W.plain a)
  (hb : Blk w g Tb cur) (hs : Sl w a cs) (hl : cs.length = n * s) (hle : cs.length ≤ cur.length) (ho : cs.all Value.oneCell' = true)
  (h : ∀ w', Chg g w w' → Blk w' g Tb (cs ++ cur.drop cs.length) → (kf = true → S w → S w') ∧ RR P S ops K rest (updO ρ dst (.int .i64 n)) w') :
  RR P S ops K ((⟨dst, .call ⟨.builtin .copy, #[x1, x2], #[T1, T1]⟩, T, pos, af, none⟩, some kf) :: rest) ρ w := by
 refine dA rfl ?_
 unfold OpW
 obtain ⟨i0, hi0, hzz⟩ := Option.map_eq_some_iff.1 hT.sz
 simp only [Prod.mk.injEq] at hzz
 obtain ⟨g', o, rfl⟩ := hp
 have e : ∀ n, (⟨g', o, none⟩ : Addr).add n = ⟨g', o + n, none⟩ := fun n => by unfold Addr.add; split <;> simp_all
 have hr := qD (P := P) (ty := T) (dc := dc) (sc := sc) (a := ⟨g', o, none⟩) hT.un hi0 hzz.1 hb hl (fun j u hu => by
  have hj : j < cs.length := (List.getElem?_eq_some_iff.1 hu).1
  have := hs.get j hj
  rw [e]
  simp only [elt] at this
  rw [this, List.getD_eq_getElem?_getD, hu]; rfl) hle (fun v hv => List.all_eq_true.1 ho v hv)
 have : (execOp (ev ρ) ⟨dst, .call ⟨.builtin .copy, #[x1, x2], #[T1, T1]⟩, T, pos, af, none⟩).run P w = .ok (.value (.int .i64 n)) (w.setRow g (cs ++ cur.drop cs.length).toArray) := by
  simp [execOp, resolve, invoke, builtin, h1, h2, hr]
 rw [this]
 have hc := dR (cs' := cs ++ cur.drop cs.length) hb
 exact h _ hc.1 hc.2
end
end Go.W
namespace Go.Proofs.YtppipmkpmmdcjaaGreat
open Go.W Go.LM
def NoI (cs : List Value) : Prop := ∀ v ∈ cs, ∀ m, v ≠ .int .u32 m
theorem bF (n : Nat) (h : Nat → IH) : NoI (rowC n h) := fun v hv m e => by
 rcases mf hv with ⟨b, rfl⟩ | ⟨a, l, c, rfl⟩ <;> cases e
theorem bZ (n : Nat) (s : Nat → SD) : NoI (topC n s) := fun v hv m e => by
 obtain ⟨a, l, c, rfl⟩ := mj hv; cases e
theorem aI (neg : Bool) (a : Option Addr) (n c : Nat) : NoI (intL neg a n c) := fun v hv m e => by
 simp only [List.mem_cons, List.not_mem_nil, or_false] at hv
 rcases hv with rfl | rfl <;> cases e
theorem Limbs.gbN {w w' : World} {a : Option Addr} {c g T : Nat} {ls : List Nat} {cs : List Value} (h : Limbs w a c ls) (hb : Blk w g T cs) (hn : NoI cs) (hg : w.grownBy w' (some g)) : Limbs w' a c ls := by
 refine ⟨?_, h.cap, h.lim, h.len⟩
 cases ls with
 | nil => exact Sl.nil _ _
 | cons d l =>
  refine h.sl.gb hg fun ad e he => ?_
  have := h.sl.off hb (j := 0) (by simp [limbsL]) (fun hm => hn _ hm d rfl) ad e
  cases he; exact this rfl
structure Ent (cn : Bool) (K : Nat) (w : World) (v : Value) (z : Int) : Prop where
 k : IntK K w v z
 c : cn = true → IntC 0 w v z
section
variable {cn : Bool} {K : Nat} {w w' : World} {v : Value} {z : Int}
theorem Ent.of {lo : Nat} (h : IntC lo w v z) (hz : z.natAbs < 4294967296 ^ K) : Ent cn K w v z := ⟨h.k hz, fun _ => h.mono (Nat.zero_le _)⟩
theorem Ent.weak (h : Ent true K w v z) : Ent cn K w v z := ⟨h.k, fun _ => h.c rfl⟩
theorem Ent.weak' (h : Ent cn K w v z) : Ent false K w v z := ⟨h.k, fun e => nomatch e⟩
theorem Ent.ext (h : Ent cn K w v z) (e : Ex w w') : Ent cn K w' v z := ⟨h.k.ext e, fun c => (h.c c).ext e⟩
theorem Ent.ih (h : Ent cn K w v z) : ∃ x : IH, v = x.val := by
 obtain ⟨neg, a, c, ls, rfl, _⟩ := h.k
 exact ⟨⟨neg, ⟨a, ls.length, c⟩⟩, rfl⟩
theorem IntC.ih {lo : Nat} (h : IntC lo w v z) : ∃ x : IH, v = x.val := by
 obtain ⟨neg, a, c, ls, rfl, _⟩ := h
 exact ⟨⟨neg, ⟨a, ls.length, c⟩⟩, rfl⟩
theorem IntK.gbN {g T : Nat} {cs : List Value} (h : IntK K w v z) (hb : Blk w g T cs) (hn : NoI cs) (hg : w.grownBy w' (some g)) : IntK K w' v z := by
 obtain ⟨neg, a, c, ls, h1, h2, h3⟩ := h; exact ⟨neg, a, c, ls, h1, h2.gbN hb hn hg, h3⟩
theorem IntC.gbN {g T lo : Nat} {cs : List Value} (h : IntC lo w v z) (hb : Blk w g T cs) (hn : NoI cs) (hg : w.grownBy w' (some g)) : IntC lo w' v z := by
 obtain ⟨neg, a, c, ls, h1, h2, h3⟩ := h; exact ⟨neg, a, c, ls, h1, h2.gbN hb hn hg, h3⟩
theorem Ent.gbN {g T : Nat} {cs : List Value} (h : Ent cn K w v z) (hb : Blk w g T cs) (hn : NoI cs) (hg : w.grownBy w' (some g)) : Ent cn K w' v z :=
 ⟨h.k.gbN hb hn hg, fun c => (h.c c).gbN hb hn hg⟩
end
theorem kU {cn : Bool} {K : Nat} (w : World) : Ent cn K w ih0.val 0 := by
 have h : Limbs w none 0 [] := ⟨Sl.nil _ _, Nat.le_refl _, fun d hd => by simp at hd, by simp⟩
 exact ⟨⟨false, none, 0, [], rfl, h, rfl, Nat.zero_le _⟩, fun _ => ⟨false, none, 0, [], rfl, h, rfl, rfl, fun e => (nomatch e), fun ad e => (nomatch e)⟩⟩
structure RX (cn : Bool) (K : Nat) (w : World) (s : SD) (n : Nat) (f : Nat → Int) : Prop where
 len : s.len = n
 cap : n ≤ s.cap
 ex : ∃ h : Nat → IH, Sl w s.a (rowC n h) ∧ ∀ i, i < n → Ent cn K w (h i).val (f i)
section
variable {cn : Bool} {K n : Nat} {w w' : World} {s : SD} {f f' : Nat → Int}
theorem RX.ext (h : RX cn K w s n f) (e : Ex w w') : RX cn K w' s n f := by
 obtain ⟨hh, h1, h2⟩ := h.ex; exact ⟨h.len, h.cap, hh, h1.ext e, fun i hi => (h2 i hi).ext e⟩
theorem RX.weak' (h : RX cn K w s n f) : RX false K w s n f := by
 obtain ⟨hh, h1, h2⟩ := h.ex; exact ⟨h.len, h.cap, hh, h1, fun i hi => (h2 i hi).weak'⟩
theorem RX.congr (h : RX cn K w s n f) (e : ∀ i, i < n → f' i = f i) : RX cn K w s n f' := by
 obtain ⟨hh, h1, h2⟩ := h.ex; exact ⟨h.len, h.cap, hh, h1, fun i hi => by rw [e i hi]; exact h2 i hi⟩
theorem RX.gbN {g T : Nat} {cs : List Value} (h : RX cn K w s n f) (hb : Blk w g T cs) (hn : NoI cs) (hg : w.grownBy w' (some g)) (hne : ∀ ad, s.a = some ad → ad.block ≠ g) : RX cn K w' s n f := by
 obtain ⟨hh, h1, h2⟩ := h.ex
 exact ⟨h.len, h.cap, hh, h1.gb hg (fun ad e he => hne ad e (by cases he; rfl)), fun i hi => (h2 i hi).gbN hb hn hg⟩
theorem RX.gbT {g T m : Nat} {t : Nat → SD} (h : RX cn K w s n f) (hb : Blk w g T (topC m t)) (hg : w.grownBy w' (some g)) : RX cn K w' s n f := by
 obtain ⟨hh, h1, h2⟩ := h.ex
 refine ⟨h.len, h.cap, hh, ?_, fun i hi => (h2 i hi).gbN hb (bZ _ _) hg⟩
 by_cases hn : n = 0
 ·subst hn; exact Sl.nil _ _
 ·refine h1.gb hg fun ad e he => ?_
  have h0 : (rowC n hh).getD 0 undef = .bool (hh 0).neg := by
   have := (kQ (h := hh) (show 0 < n by omega)).1
   rw [List.getD_eq_getElem?_getD, show (0 : Nat) = 0 * 2 from rfl, this]; rfl
  have := h1.off hb (j := 0) (by rw [bW]; omega) (fun hm => by
   rw [h0] at hm; obtain ⟨a, l, c, e⟩ := mj hm; cases e) ad e
  cases he; exact this rfl
theorem RX.lt (h : RX cn K w s n f) (hn : 0 < n) : ∀ ad, s.a = some ad → ad.block < w.heap.size := by
 obtain ⟨hh, h1, h2⟩ := h.ex; exact h1.lt (by rw [bW]; omega)
theorem RX.plain (h : RX cn K w s n f) (hn : 0 < n) : W.plain s.a := by
 obtain ⟨hh, h1, h2⟩ := h.ex; exact h1.plain (by rw [bW]; omega)
end
structure MX (cn : Bool) (K : Nat) (w : World) (a : Option Addr) (r c : Nat) (s : Nat → SD) (F : Nat → Nat → Int) : Prop where
 top : Sl w a (topC r s)
 row : ∀ i, i < r → RX cn K w (s i) c (F i)
structure RO (cn : Bool) (K : Nat) (w : World) (lo g cap n : Nat) (f : Nat → Int) : Prop where
 low : lo ≤ g
 le : n ≤ cap
 ex : ∃ h : Nat → IH, Blk w g 33 (rowC cap h) ∧ ∀ i, i < n → Ent cn K w (h i).val (f i)
section
variable {cn : Bool} {K n lo g cap : Nat} {w w' : World} {f f' : Nat → Int}
theorem RO.rx (h : RO cn K w lo g cap n f) : RX cn K w ⟨some ⟨g, 0, none⟩, n, cap⟩ n f := by
 obtain ⟨hh, h1, h2⟩ := h.ex; exact ⟨rfl, h.le, hh, h1.sl.row h.le, h2⟩
theorem RO.ext (h : RO cn K w lo g cap n f) (e : Ex w w') : RO cn K w' lo g cap n f := by
 obtain ⟨hh, h1, h2⟩ := h.ex; exact ⟨h.low, h.le, hh, h1.ext e, fun i hi => (h2 i hi).ext e⟩
theorem RO.weak (h : RO true K w lo g cap n f) : RO cn K w lo g cap n f := by
 obtain ⟨hh, h1, h2⟩ := h.ex; exact ⟨h.low, h.le, hh, h1, fun i hi => (h2 i hi).weak⟩
theorem RO.mono {lo' : Nat} (h : RO cn K w lo g cap n f) (hl : lo' ≤ lo) : RO cn K w lo' g cap n f := ⟨Nat.le_trans hl h.low, h.le, h.ex⟩
theorem RO.congr (h : RO cn K w lo g cap n f) (e : ∀ i, i < n → f' i = f i) : RO cn K w lo g cap n f' := by
 obtain ⟨hh, h1, h2⟩ := h.ex; exact ⟨h.low, h.le, hh, h1, fun i hi => by rw [e i hi]; exact h2 i hi⟩
theorem RO.gbN {g' T : Nat} {cs : List Value} (h : RO cn K w lo g cap n f) (hb : Blk w g' T cs) (hn : NoI cs) (hg : w.grownBy w' (some g')) (hne : g ≠ g') : RO cn K w' lo g cap n f := by
 obtain ⟨hh, h1, h2⟩ := h.ex
 exact ⟨h.low, h.le, hh, h1.gb hg (fun e => hne (by cases e; rfl)), fun i hi => (h2 i hi).gbN hb hn hg⟩
theorem RO.lt (h : RO cn K w lo g cap n f) : g < w.heap.size := by obtain ⟨hh, h1, h2⟩ := h.ex; exact h1.lt
theorem RO.put {j : Nat} {hh : Nat → IH} {u : IH} {z : Int} (hlo : lo ≤ g) (hcap : n ≤ cap) (hb : Blk w g 33 (rowC cap hh)) (h2 : ∀ i, i < n → Ent cn K w (hh i).val (f i)) (hu : Ent cn K w u.val z)
  (hg : Chg g w w') (hb' : Blk w' g 33 (rowC cap (setF hh j u))) : RO cn K w' lo g cap n (setF f j z) := by
 refine ⟨hlo, hcap, _, hb', fun i hi => ?_⟩
 by_cases h : i = j
 ·subst h; rw [aJ, aJ]; exact hu.gbN hb (bF _ _) (bG hg)
 ·rw [aO _ _ h, aO _ _ h]; exact (h2 i hi).gbN hb (bF _ _) (bG hg)
end
structure MO (cn : Bool) (K : Nat) (w : World) (lo g r c : Nat) (gs cap : Nat → Nat) (F : Nat → Nat → Int) : Prop where
 low : lo ≤ g
 top : Blk w g 27 (topC r fun i => ⟨some ⟨gs i, 0, none⟩, c, cap i⟩)
 row : ∀ i, i < r → RO cn K w lo (gs i) (cap i) c (F i)
 off : ∀ i, i < r → gs i ≠ g
 inj : ∀ i j, i < r → j < r → gs i = gs j → i = j
section
variable {cn : Bool} {K r c lo g : Nat} {w w' : World} {gs cap : Nat → Nat} {F F' : Nat → Nat → Int}
theorem MO.mx (h : MO cn K w lo g r c gs cap F) : MX cn K w (some ⟨g, 0, none⟩) r c (fun i => ⟨some ⟨gs i, 0, none⟩, c, cap i⟩) F := ⟨h.top.sl, fun i hi => (h.row i hi).rx⟩
theorem MO.ext (h : MO cn K w lo g r c gs cap F) (e : Ex w w') : MO cn K w' lo g r c gs cap F := ⟨h.low, h.top.ext e, fun i hi => (h.row i hi).ext e, h.off, h.inj⟩
theorem MO.mono {lo' : Nat} (h : MO cn K w lo g r c gs cap F) (hl : lo' ≤ lo) : MO cn K w lo' g r c gs cap F := ⟨Nat.le_trans hl h.low, h.top, fun i hi => (h.row i hi).mono hl, h.off, h.inj⟩
theorem MO.congr (h : MO cn K w lo g r c gs cap F) (e : ∀ i j, i < r → j < c → F' i j = F i j) : MO cn K w lo g r c gs cap F' := ⟨h.low, h.top, fun i hi => (h.row i hi).congr fun j hj => e i j hi hj, h.off, h.inj⟩
theorem MO.gbN {g' T : Nat} {cs : List Value} (h : MO cn K w lo g r c gs cap F) (hb : Blk w g' T cs) (hn : NoI cs) (hg : w.grownBy w' (some g')) (hne : g ≠ g') (hns : ∀ i, i < r → gs i ≠ g') : MO cn K w' lo g r c gs cap F :=
 ⟨h.low, h.top.gb hg (fun e => hne (by cases e; rfl)), fun i hi => (h.row i hi).gbN hb hn hg (hns i hi), h.off, h.inj⟩
theorem MO.lt (h : MO cn K w lo g r c gs cap F) : g < w.heap.size := h.top.lt
end
section
variable {cn : Bool} {K r c : Nat} {w w' : World} {a : Option Addr} {s : Nat → SD} {F F' : Nat → Nat → Int}
theorem MX.ext (h : MX cn K w a r c s F) (e : Ex w w') : MX cn K w' a r c s F := ⟨h.top.ext e, fun i hi => (h.row i hi).ext e⟩
theorem MX.plain (h : MX cn K w a r c s F) (hr : 0 < r) : W.plain a := h.top.plain (by rw [b9]; exact hr)
end
def RetMO (K : Nat) (w : World) (r c : Nat) (F : Nat → Nat → Int) (v : Value) (w' : World) : Prop :=
 ∃ g gs cap, v = .slice (some ⟨g, 0, none⟩) r r ∧ MO true K w' w.heap.size g r c gs cap F ∧ Ex w w'
end Go.Proofs.YtppipmkpmmdcjaaGreat
namespace Go.Proofs.YtppipmkpmmdcjaaGreat
open Go.W Go.LM
theorem rO {n1 n2 : Bool} {N D : Nat} (hD : 0 < D) :
  (n1 = false → sgn n1 N / sgn n2 D = sgn n2 (N / D) ∧ sgn n1 N % sgn n2 D = ((N % D : Nat) : Int)) ∧
  (n1 = true → N % D = 0 → sgn n1 N / sgn n2 D = sgn (!n2) (N / D) ∧ sgn n1 N % sgn n2 D = ((N % D : Nat) : Int)) ∧
  (n1 = true → 0 < N % D → sgn n1 N / sgn n2 D = sgn (!n2) (N / D + 1) ∧ sgn n1 N % sgn n2 D = ((D - N % D : Nat) : Int)) := by
 obtain ⟨⟨a1, a2⟩, ⟨b1, b2⟩, hc, hd⟩ := kP (N := N) hD
 have hlt := Nat.mod_lt N hD
 refine ⟨fun h => ?_, fun h h0 => ?_, fun h h0 => ?_⟩
 ·subst h; cases n2 <;> simp only [sgn, if_true, Bool.false_eq_true, if_false]
  ·exact ⟨a1, a2⟩
  ·exact ⟨b1, b2⟩
 ·obtain ⟨c1, c2, c3, c4⟩ := hc h0
  subst h; cases n2 <;> simp only [sgn, if_true, Bool.false_eq_true, if_false, Bool.not_true, Bool.not_false]
  ·exact ⟨c1, by rw [c2, h0]; rfl⟩
  ·exact ⟨c3, by rw [c4, h0]; rfl⟩
 ·obtain ⟨c1, c2, c3, c4⟩ := hd (by omega)
  subst h; cases n2 <;> simp only [sgn, if_true, Bool.false_eq_true, if_false, Bool.not_true, Bool.not_false]
  ·exact ⟨by rw [c1]; omega, by rw [c2]; omega⟩
  ·exact ⟨by rw [c3]; omega, by rw [c4]; omega⟩
set_option maxHeartbeats 2000000 in
theorem bn {p q : Nat} {v1 v2 : Value} {x y : Int} {w : World} (h1 : IntK p w v1 x) (h2 : IntK q w v2 y) (hp : p < 17592186044415) (_hq : q < 17592186044415) :
  CallsR Tryz.prog 27 #[v1, v2] w fun v w' => ∃ q r, v = .tuple #[q, r, .bool (decide (y ≠ 0))] ∧ IntC w.heap.size w' q (x / y) ∧ IntC w.heap.size w' r (if y = 0 then 0 else x % y) ∧ Ex w w' := by
 obtain ⟨n1, a1, c1, l1, rfl, hL1, rfl, hp1⟩ := h1
 obtain ⟨n2, a2, c2, l2, rfl, hL2, rfl, hq1⟩ := h2
 have tl1 := cI l1
 have tl2 := cI l2
 refine aH (args := [_, _]) Tryz.func27 rfl rfl ?_
 refine aj ?_
 refine ah rfl ?_
 refine bH rfl (fun g2 w2 hn2 => ⟨fun _ _ => trivial, ?_⟩)
 refine bH rfl (fun g3 w3 hn3 => ⟨fun _ _ => trivial, ?_⟩)
 refine aB (fun g4 w4 hn4 => ⟨fun _ _ => trivial, ?_⟩)
 refine aB (fun g5 w5 hn5 => ⟨fun _ _ => trivial, ?_⟩)
 have hb2 := ((hn2.blk.ext hn3.ex).ext hn4.ex).ext hn5.ex
 have hb3 := (hn3.blk.ext hn4.ex).ext hn5.ex
 have hb4 : Blk w5 g4 33 (intL false none 0 0) := hn4.blk.ext hn5.ex
 have hb5 : Blk w5 g5 33 (intL false none 0 0) := hn5.blk
 have hE := ((hn2.ex.trans hn3.ex).trans hn4.ex).trans hn5.ex
 have s3 := (hn2.ex.trans hn3.ex).size
 have s4 := hn4.ex.size
 have s5 := hn5.ex.size
 have lo4 := hn4.lo
 have hi4 := hn4.hi
 have lo5 := hn5.lo
 have hi5 := hn5.hi
 have ne45 : g4 ≠ g5 := by omega
 repeat' (first|refine aQ rfl hb3 rfl ?_|refine ai rfl ?_|refine aa ?_|refine aj ?_|refine ah rfl ?_|refine ae ?_|refine aG rfl ?_)
 refine av (cf (hL2.ext hE)) rfl ?_
 rintro v w6 ⟨rfl, hE6⟩
 refine ⟨fun _ _ => trivial, ?_⟩
 have hE56 := hE6
 have hE6 := hE.trans hE6
 have hy0 : sgn n2 (natOf l2) = 0 ↔ natOf l2 = 0 := by unfold sgn; cases n2 <;> simp
 repeat' (first|refine aQ rfl (hb2.ext hE56) rfl ?_|refine cL (cs := intL false none 0 0) rfl ?_|refine ai rfl ?_|refine aa ?_|refine aj ?_|refine ah rfl ?_|refine ae ?_|refine bh rfl ?_|refine aG rfl ?_|refine aP rfl (fun hc => ?_) (fun hc => ?_)|refine aF ?_)
 ·
  have hz : natOf l2 = 0 := cE.1 (List.eq_nil_of_length_eq_zero (by omega))
  refine ax (n := 2) rfl rfl rfl rfl (hb4.ext hE56) rfl (fun w7 hc7 hb7 => ⟨fun _ _ => trivial, ?_⟩)
  refine ax (n := 2) rfl rfl rfl rfl ((hb5.ext hE56).chg hc7 (Ne.symm ne45)) rfl (fun w8 hc8 hb8 => ⟨fun _ _ => trivial, ?_⟩)
  repeat' (first|refine ai rfl ?_|refine aa ?_|refine ae ?_|refine aR ?_|refine bv ?_)
  have hlim : ∀ w, Limbs w none 0 [] := fun w => Limbs.nil _ _ _
  have hI : ∀ w, IntC w5.heap.size w (.agg (intL false none 0 0).toArray) 0 := fun w => ⟨false, none, 0, [], rfl, hlim w, rfl, rfl, fun e => (nomatch e), fun ad e => (nomatch e)⟩
  rw [hy0.2 hz, Int.ediv_zero]
  refine fM rfl (rc rfl rfl (hb7.chg hc8 ne45)) (rc rfl rfl hb8) (rt rfl) ⟨_, _, rfl, (hI _).mono (by omega), ?_, (hE6.chg hc7 (by omega)).chg hc8 (by omega)⟩
  rw [if_pos rfl]; exact (hI _).mono (by omega)
 ·have hpos : 0 < natOf l2 := by
   rcases Nat.eq_zero_or_pos (natOf l2) with h | h
   ·exfalso; have h0 : (trimL l2).length = 0 := by rw [cE.2 h]; rfl
    omega
   ·exact h
  have hyne : sgn n2 (natOf l2) ≠ 0 := fun e => by have := hy0.1 e; omega
  refine av (cf (hL1.ext hE6)) rfl ?_
  rintro v w7 ⟨rfl, hE7⟩
  refine ⟨fun _ _ => trivial, ?_⟩
  have hE57 := hE56.trans hE7
  repeat' (first|refine ai rfl ?_)
  refine av (nW ((hL1.ext (hE6.trans hE7)).trim) ((hL2.ext (hE6.trans hE7)).trim) (bD _) (bD _) (by rw [bf]; exact hpos) (by omega)) rfl ?_
  rintro v w8 ⟨a8, c8, l8, a9, c9, l9, rfl, hL8, hL9, hC8, hC9, hq8, hq9, hlo8, hlo9, hE8⟩
  refine ⟨fun _ _ => trivial, ?_⟩
  rw [bf, bf] at hq8 hq9
  have hE58 := hE57.trans hE8
  have s7 := hE57.size
  have s8 := hE8.size
  have hl8 := hL8.len
  have hl9 := hL9.len
  repeat' (first|refine aQ rfl (hb3.ext hE58) rfl ?_|refine ai rfl ?_|refine aa ?_|refine aj ?_|refine ah rfl ?_|refine ae ?_|refine aG rfl ?_)
  have hb48 := hb4.ext hE58
  have hb58 := hb5.ext hE58
  refine cD (ι := Bool × (Option Addr × List Nat × Nat) × (Option Addr × List Nat × Nat)) [8, 9, 10, 29, 30, 31, 32, 33, 34, 35, 36, 37, 38, 39, 40, 41, 42, 43, 44, 45, 46, 47] (fun t => [(10, .bool t.1), (8, .slice t.2.1.1 t.2.1.2.1.length t.2.1.2.2), (9, .slice t.2.2.1 t.2.2.2.1.length t.2.2.2.2)])
   (fun t w' => Ex w8 w' ∧ Limbs w' t.2.1.1 t.2.1.2.2 t.2.1.2.1 ∧ Limbs w' t.2.2.1 t.2.2.2.2 t.2.2.2.1 ∧ Canon t.2.1.2.1 ∧ Canon t.2.2.2.1 ∧ (∀ ad, t.2.1.1 = some ad → w.heap.size ≤ ad.block) ∧ (∀ ad, t.2.2.1 = some ad → w.heap.size ≤ ad.block) ∧
    sgn n1 (natOf l1) / sgn n2 (natOf l2) = sgn t.1 (natOf t.2.1.2.1) ∧ sgn n1 (natOf l1) % sgn n2 (natOf l2) = ((natOf t.2.2.2.1 : Nat) : Int)) ?_ ?_
  ·obtain ⟨ed1, ed2, ed3⟩ := rO (n1 := n1) (n2 := n2) (N := natOf l1) hpos
   have hln : (l9.length = 0 ↔ natOf l1 % natOf l2 = 0) := by
    rw [← hq9]
    constructor
    ·intro h; rw [List.eq_nil_of_length_eq_zero h]; rfl
    ·intro h; have := cE.2 h; rw [hC9] at this; rw [this]; rfl
   have hmodlt := Nat.mod_lt (natOf l1) hpos
   have hlo8' : ∀ ad, a8 = some ad → w.heap.size ≤ ad.block := fun ad e => by have := hlo8 ad e; have := hE.size; omega
   have hlo9' : ∀ ad, a9 = some ad → w.heap.size ≤ ad.block := fun ad e => by have := hlo9 ad e; have := hE.size; omega
   rcases Bool.eq_false_or_eq_true n1 with rfl | rfl
   ·repeat' (first|refine aQ rfl (hb2.ext hE58) rfl ?_|refine pR (k := .u32) (u := 1) rfl (fun g9 w9 hn9 => ⟨fun _ _ => trivial, ?_⟩)|refine ai rfl ?_|refine aa ?_|refine aj ?_|refine ah rfl ?_|refine ae ?_|refine bh rfl ?_|refine bR rfl rfl ?_|refine aG rfl ?_|refine aD rfl ?_|refine aP rfl (fun hc => ?_) (fun hc => ?_)|refine aA ?_|refine aV ?_|refine aL ?_|refine aW ?_|refine fX rfl ?_|refine aF ?_)
    ·have hm0 : 0 < natOf l1 % natOf l2 := by
      rcases Nat.eq_zero_or_pos (natOf l1 % natOf l2) with h | h
      ·have := hln.2 h; omega
      ·exact h
     obtain ⟨e1, e2⟩ := ed3 rfl hm0
     have h1L : Limbs w9 (some ⟨g9, 0, none⟩) 1 [1] := ⟨hn9.blk.sl, Nat.le_refl _, fun d hd => by simp at hd; omega, by simp⟩
     have hq8len : l8.length < 17592186044416 := by
      have := kO (hL1.lim.trim) hC8 (by rw [hq8, bf]; exact Nat.div_le_self _ _)
      omega
     refine av (jP (hL8.ext hn9.ex) h1L (by omega) (by simp)) rfl ?_
     rintro v w10 ⟨lq, hNq, hCq, aq, cq, rfl, hLq, hfq, hE10⟩
     refine ⟨fun _ _ => trivial, ?_⟩
     have hE810 := hn9.ex.trans hE10
     have h0E := hE6.trans hE7
     have h010 := ((hE6.trans hE7).trans hE8).trans hE810
     repeat' (first|refine ai rfl ?_|refine aa ?_|refine ah rfl ?_|refine ae ?_)
     refine av (gO ((hL2.ext h010).trim) (hL9.ext hE810) (by rw [bf, hq9]; omega) hC9) rfl ?_
     rintro v w11 ⟨lr, hNr, hCr, ar, cr, rfl, hLr, hfr, hE11⟩
     refine ⟨fun _ _ => trivial, ?_⟩
     repeat' (first|refine ai rfl ?_|refine aa ?_|refine aj ?_|refine ah rfl ?_|refine ae ?_|refine aV ?_|refine aW ?_|refine aK ?_)
     have s9 := hE.size
     have s10 := hE810.size
     have s99 := hn9.ex.size
     refine ⟨⟨(!n2, (aq, lq, cq), (ar, lr, cr)), ⟨hE810.trans hE11, hLq.ext hE11, hLr, hCq, hCr, fun ad e => by have := hfq ad e; omega, fun ad e => by have := hfr ad e; omega, ?_, ?_⟩, rfl, rfl, rfl, trivial⟩, (by (repeat (first|exact aM _ _|refine aw rfl ?_|refine au rfl ?_|refine ak rfl ?_|refine ao rfl ?_)))⟩
     ·simp only; rw [e1, hNq, hq8]; rfl
     ·simp only; rw [e2, hNr, bf, hq9]
    ·have hm0 : natOf l1 % natOf l2 = 0 := hln.1 (by omega)
     obtain ⟨e1, e2⟩ := ed2 rfl hm0
     refine ⟨⟨(!n2, (a8, l8, c8), (a9, l9, c9)), ⟨Ex.refl _, hL8, hL9, hC8, hC9, hlo8', hlo9', ?_, ?_⟩, rfl, rfl, rfl, trivial⟩, (by (repeat (first|exact aM _ _|refine aw rfl ?_|refine au rfl ?_|refine ak rfl ?_|refine ao rfl ?_)))⟩
     ·simp only; rw [e1, hq8]
     ·simp only; rw [e2, hq9]
   ·repeat' (first|refine aQ rfl (hb2.ext hE58) rfl ?_|refine ai rfl ?_|refine aa ?_|refine aj ?_|refine ah rfl ?_|refine ae ?_|refine cB rfl rfl ?_|refine aG rfl ?_|refine ay rfl ?_|refine aA ?_|refine aV ?_|refine aL ?_|refine aW ?_|refine fX rfl ?_|refine aF ?_)
    obtain ⟨e1, e2⟩ := ed1 rfl
    refine ⟨⟨(n2, (a8, l8, c8), (a9, l9, c9)), ⟨Ex.refl _, hL8, hL9, hC8, hC9, hlo8', hlo9', ?_, ?_⟩, rfl, rfl, rfl, trivial⟩, (by (repeat (first|exact aM _ _|refine aw rfl ?_|refine au rfl ?_|refine ak rfl ?_|refine ao rfl ?_)))⟩
    ·simp only; rw [e1, hq8]
    ·simp only; rw [e2, hq9]
  ·rintro ⟨nb, ⟨aq, lq, cq⟩, ⟨ar, lr, cr⟩⟩ ξ w9 ⟨hE9, hLq, hLr, hCq, hCr, hfq, hfr, eq1, eq2⟩
   simp only at hLq hLr hCq hCr hfq hfr eq1 eq2
   show CW _ _ _ _ (over [(10, .bool nb), (8, .slice aq lq.length cq), (9, .slice ar lr.length cr)] _) w9
   clear hlo8 hlo9
   repeat' (first|refine ai rfl ?_|refine aj ?_|refine ah rfl ?_)
   refine av (cF hLq hCq hfq _) rfl ?_
   rintro v w10 ⟨hI10, hE10⟩
   refine ⟨fun _ _ => trivial, ?_⟩
   repeat' (first|refine ai rfl ?_)
   refine av (cF (hLr.ext hE10) hCr hfr _) rfl ?_
   rintro v w11 ⟨hI11, hE11⟩
   refine ⟨fun _ _ => trivial, ?_⟩
   obtain ⟨qs, rfl, hql, hqo⟩ := hI10.out
   obtain ⟨rs, rfl, hrl, hro⟩ := hI11.out
   have hE911 := (hE9.trans hE10).trans hE11
   have s911 := hE911.size
   refine ax (n := 2) rfl rfl hql hqo (hb48.ext hE911) rfl (fun w12 hc12 hb12 => ⟨fun _ _ => trivial, ?_⟩)
   refine ax (n := 2) rfl rfl hrl hro ((hb58.ext hE911).chg hc12 (Ne.symm ne45)) rfl (fun w13 hc13 hb13 => ⟨fun _ _ => trivial, ?_⟩)
   repeat' (first|refine ai rfl ?_|refine aa ?_|refine ae ?_|refine aR ?_)
   have b12 := hb48.ext hE911
   have b13 := (hb58.ext hE911).chg hc12 (Ne.symm ne45)
   have hEa := ((hE6.trans hE7).trans hE8).trans hE911
   refine fM rfl (rc rfl hql (hb12.chg hc13 ne45)) (rc rfl hrl hb13) (rt (v := .bool true) rfl) ⟨_, _, by rw [decide_eq_true hyne], ?_, ?_, (hEa.chg hc12 (by omega)).chg hc13 (by omega)⟩
   ·rw [eq1]; exact ((hI10.ext hE11).gbN b12 (aI _ _ _ _) (bG hc12)).gbN b13 (aI _ _ _ _) (bG hc13)
   ·rw [if_neg hyne, eq2]; exact (hI11.gbN b12 (aI _ _ _ _) (bG hc12)).gbN b13 (aI _ _ _ _) (bG hc13)
end Go.Proofs.YtppipmkpmmdcjaaGreat
namespace Go.Proofs.YtppipmkpmmdcjaaGreat
open Go.W Go.LM
def okS (n : Nat) (s : Nat → SD) : Prop := 1 ≤ n ∧ n ≤ 16 ∧ 1 ≤ (s 0).len ∧ (s 0).len ≤ 16 ∧ ∀ i, i < n → (s i).len = (s 0).len
instance (n : Nat) (s : Nat → SD) : Decidable (okS n s) := inferInstanceAs (Decidable (_ ∧ _ ∧ _ ∧ _ ∧ _))
def shapeV (n : Nat) (s : Nat → SD) : Value := if okS n s then .tuple #[.int .i64 n, .int .i64 (s 0).len, .bool true] else .tuple #[.int .i64 0, .int .i64 0, .bool false]
theorem ij {n : Nat} {s : Nat → SD} (h : ¬ okS n s) : shapeV n s = .tuple #[.int .i64 0, .int .i64 0, .bool false] := if_neg h
theorem dV {n c : Nat} {a : Option Addr} {s : Nat → SD} {w : World} (h : Sl w a (topC n s)) :
  CallsR Tryz.prog 54 #[.slice a n c] w fun v w' => v = shapeV n s ∧ Ex w w' := by
 refine aH (args := [_]) Tryz.func54 rfl rfl ?_
 have no : ∀ {v : Value}, ¬ okS n s → v = .tuple #[.int .i64 0, .int .i64 0, .bool false] → v = shapeV n s := fun h1 e => by rw [ij h1, e]
 by_cases h1 : 1 ≤ n ∧ n ≤ 16
 ·have hp := h.plain (by rw [b9]; omega)
  repeat' (first|refine aC (j := 0) rfl rfl hp (by omega) ?_|refine ew (j := 0) rfl h (by omega) ?_|refine ai rfl ?_|refine aa ?_|refine aj ?_|refine ah rfl ?_|refine ae ?_|refine bh rfl ?_|refine bR rfl rfl ?_|refine cB rfl rfl ?_|refine j8 rfl rfl (fun hc => ?_) (fun hc => ?_)|refine aD rfl ?_|refine aP rfl (fun hc => ?_) (fun hc => ?_)|refine aA ?_|refine aR ?_|refine bv ?_|refine aF ?_)
  all_goals try (exfalso; omega)
  ·exact fM rfl (rt rfl) (rt rfl) (rt rfl) ⟨no (fun hk => by unfold okS at hk; omega) rfl, Ex.refl _⟩
  ·refine aY (ι := Nat) [2, 3, 4, 7, 28, 29, 30, 31, 32, 33, 34, 35, 36] (fun i => [(28, .int .i64 (i : Int))]) (fun i w' => (i ≤ n ∧ ∀ k, k < i → (s k).len = (s 0).len) ∧ w' = w) (fun i => n - i) 0 ⟨rfl, trivial⟩ ⟨⟨by omega, fun k hk => by omega⟩, rfl⟩ ?_
   rintro i ξ w2 ⟨⟨hi, hI⟩, rfl⟩
   show CW _ _ _ _ (over [(28, .int .i64 (i : Int))] _) w2
   repeat' (first|refine aC (j := i) rfl rfl hp (by omega) ?_|refine ew (j := i) rfl h (by omega) ?_|refine ai rfl ?_|refine aa ?_|refine aj ?_|refine ah rfl ?_|refine ae ?_|refine bh rfl ?_|refine aZ rfl rfl (by omega) (by omega) ?_|refine aP rfl (fun hc => ?_) (fun hc => ?_)|refine aA ?_|refine aV ?_|refine aL ?_|refine aW ?_|refine aK ?_|refine aR ?_|refine bv ?_|refine cN ?_|refine aF ?_)
   ·exact fM rfl (rt rfl) (rt rfl) (rt rfl) ⟨no (fun hk => by have := hk.2.2.2.2 i (by omega); omega) rfl, Ex.refl _⟩
   ·refine ⟨⟨i + 1, ⟨⟨by omega, fun k hk => ?_⟩, rfl⟩, by omega, rfl, trivial⟩, (by (repeat (first|exact aE _ _ _|refine aw rfl ?_|refine au rfl ?_|refine ak rfl ?_|refine ao rfl ?_)))⟩
    by_cases hk' : k < i
    ·exact hI k hk'
    ·obtain rfl : k = i := by omega
     omega
   ·obtain rfl : i = n := by omega
    refine fM rfl (rt rfl) (rt rfl) (rt rfl) ⟨?_, Ex.refl _⟩
    unfold shapeV
    rw [if_pos ⟨h1.1, h1.2, by omega, by omega, hI⟩]; rfl
  ·exact fM rfl (rt rfl) (rt rfl) (rt rfl) ⟨no (fun hk => by unfold okS at hk; omega) rfl, Ex.refl _⟩
 ·repeat' (first|refine ai rfl ?_|refine aa ?_|refine aj ?_|refine ah rfl ?_|refine ae ?_|refine bh rfl ?_|refine bR rfl rfl ?_|refine cB rfl rfl ?_|refine j8 rfl rfl (fun hc => ?_) (fun hc => ?_)|refine aD rfl ?_|refine aP rfl (fun hc => ?_) (fun hc => ?_)|refine aR ?_|refine bv ?_|refine aF ?_)
  all_goals try (exfalso; omega)
  all_goals exact fM rfl (rt rfl) (rt rfl) (rt rfl) ⟨no (fun hk => h1 ⟨hk.1, hk.2.1⟩) rfl, Ex.refl _⟩
theorem ez {n c : Nat} {a : Option Addr} {s : Nat → SD} {w : World} (h : Sl w a (topC n s)) :
  CallsR Tryz.prog 42 #[.slice a n c] w fun v w' => v = shapeV n s ∧ Ex w w' := by
 refine aH (args := [_]) Tryz.func42 rfl rfl ?_
 repeat' (first|refine ai rfl ?_|refine aa ?_|refine aj ?_|refine ah rfl ?_|refine ae ?_)
 refine av (dV h) rfl ?_
 rintro v w2 ⟨rfl, hE⟩
 refine ⟨fun _ _ => trivial, ?_⟩
 unfold shapeV
 split
 ·repeat' (first|refine ai rfl ?_|refine aa ?_|refine ae ?_|refine aR ?_)
  exact fM rfl (rt rfl) (rt rfl) (rt rfl) ⟨rfl, hE⟩
 ·repeat' (first|refine ai rfl ?_|refine aa ?_|refine ae ?_|refine aR ?_)
  exact fM rfl (rt rfl) (rt rfl) (rt rfl) ⟨rfl, hE⟩
theorem uO {cn : Bool} {K r c : Nat} {w : World} {a : Option Addr} {s : Nat → SD} {F : Nat → Nat → Int} (h : MX cn K w a r c s F) (hr : 1 ≤ r ∧ r ≤ 16) (hc : 1 ≤ c ∧ c ≤ 16) : okS r s := by
 have h0 := (h.row 0 (by omega)).len
 exact ⟨hr.1, hr.2, by omega, by omega, fun i hi => by rw [(h.row i hi).len, h0]⟩
theorem em {cn : Bool} {K r c : Nat} {w : World} {a : Option Addr} {s : Nat → SD} {F : Nat → Nat → Int} (h : MX cn K w a r c s F) (hr : 1 ≤ r ∧ r ≤ 16) (hc : 1 ≤ c ∧ c ≤ 16) : shapeV r s = .tuple #[.int .i64 r, .int .i64 c, .bool true] := by
 unfold shapeV; rw [if_pos (uO h hr hc), (h.row 0 (by omega)).len]
set_option maxHeartbeats 1000000 in
theorem fv {K r c fid : Nat} {first cap : Array Value} {F : Nat → Nat → Int} {w : World} (hf : Fun Tryz.prog fid) (hr : r ≤ 16) (hc : c ≤ 16) (hb : ∀ i j, i < r → j < c → (F i j).natAbs < 4294967296 ^ K)
  (hcall : ∀ (i j : Nat) (w1 : World), i < r → j < c → Ex w w1 → CallsR Tryz.prog fid (first ++ #[.int .i64 i, .int .i64 j] ++ cap) w1 fun v w2 => (∃ lo, IntC lo w2 v (F i j)) ∧ Ex w1 w2) :
  CallsR Tryz.prog 55 #[.int .i64 r, .int .i64 c, .func (.func fid) first cap] w (RetMO K w r c F) := by
 refine aH (args := [_, _, _]) Tryz.func55 rfl rfl ?_
 repeat' (first|refine et (n := r) rfl rfl (by omega) (by omega) (fun g w1 hn1 => ⟨fun _ _ => trivial, ?_⟩)|refine ai rfl ?_|refine aa ?_|refine aj ?_|refine ah rfl ?_|refine ae ?_|refine bh rfl ?_|refine aA ?_)
 refine aY (ι := Nat × (Nat → Nat)) [8, 9, 14, 15, 16, 17, 18, 19, 20, 21, 22, 23, 24, 25, 26, 27, 28, 29, 30, 31, 32, 33, 34, 35, 36, 37, 38, 39, 40, 41] (fun t => [(14, .int .i64 (t.1 : Int))])
  (fun t w' => (t.1 ≤ r ∧ Ex w w' ∧ g < w'.heap.size) ∧ Blk w' g 27 (topC r fun i => if i < t.1 then ⟨some ⟨t.2 i, 0, none⟩, c, c⟩ else sd0) ∧ (∀ i, i < t.1 → RO true K w' w.heap.size (t.2 i) c c (F i)) ∧ (∀ i, i < t.1 → t.2 i ≠ g) ∧ ∀ i j, i < t.1 → j < t.1 → t.2 i = t.2 j → i = j) (fun t => r - t.1)
  (0, fun _ => 0) ⟨rfl, trivial⟩ ⟨⟨by omega, hn1.ex, hn1.hi⟩, hn1.blk, fun i hi => by simp only at hi; omega, fun i hi => by simp only at hi; omega, fun i j hi => by simp only at hi; omega⟩ ?_
 rintro ⟨i, gs⟩ ξ w2 ⟨⟨hi, hE2, hg2⟩, hT2, hR2, hO2, hI2⟩
 simp only at hi hT2 hR2 hO2 hI2
 have hlo := hn1.lo
 show CW _ _ _ _ (over [(14, .int .i64 (i : Int))] _) w2
 repeat' (first|refine ep (n := c) rfl rfl (by omega) (by omega) (fun g3 w3 hn3 => ⟨fun _ _ => trivial, ?_⟩)|refine aC (j := i) rfl rfl ⟨_, _, rfl⟩ (by omega) ?_|refine ai rfl ?_|refine aa ?_|refine aj ?_|refine ah rfl ?_|refine ae ?_|refine aP rfl (fun hc => ?_) (fun hc => ?_)|refine aA ?_|refine aV ?_|refine aL ?_|refine aW ?_|refine aR ?_|refine aF ?_)
 ·have hT3 := hT2.ext hn3.ex
  refine ci (j := i) (u := ⟨some ⟨g3, 0, none⟩, c, c⟩) rfl rfl hT3 (by omega) (fun w4 hc4 hT4 => ⟨fun _ _ => trivial, ?_⟩)
  have l3 := hn3.lo
  have hne3 : g3 ≠ g := by omega
  have hb3 := hn3.blk.chg hc4 hne3
  have hE4 := (hE2.trans hn3.ex).chg hc4 hlo
  have hTe : topC r (setF (fun k => if k < i then (⟨some ⟨gs k, 0, none⟩, c, c⟩ : SD) else sd0) i ⟨some ⟨g3, 0, none⟩, c, c⟩) = topC r (fun k => if k < i + 1 then (⟨some ⟨setF gs i g3 k, 0, none⟩, c, c⟩ : SD) else sd0) := cv fun k _ => by
   by_cases h : k = i
   ·subst h; simp [setF]
   ·by_cases h' : k < i
    ·rw [aO _ _ h, if_pos h', if_pos (by omega), aO _ _ h]
    ·rw [aO _ _ h, if_neg h', if_neg (by omega)]
  rw [hTe] at hT4
  have hR4 : ∀ k, k < i → RO true K w4 w.heap.size (gs k) c c (F k) := fun k hk => ((hR2 k hk).ext hn3.ex).gbN hT3 (bZ _ _) (bG hc4) (hO2 k hk)
  have hgk : ∀ k, k < i → gs k ≠ g3 := fun k hk => by have := (hR2 k hk).lt; omega
  have s4 := hc4.size
  have l34 := hb3.lt
  repeat' (first|refine aC (j := i) rfl rfl ⟨_, _, rfl⟩ (by omega) ?_|refine aU (j := i) (a1 := some ⟨g3, 0, none⟩) (l1 := c) (c1 := c) rfl hT4.sl (by omega) (by simp [setF]) ?_|refine ai rfl ?_|refine aa ?_|refine aj ?_|refine ah rfl ?_|refine ae ?_|refine bh rfl ?_|refine aA ?_)
  refine aY (ι := Nat × (Nat → IH)) [9, 27, 28, 29, 30, 31, 32, 33, 34, 35, 36, 37, 38, 39, 40] (fun t => [(27, .int .i64 (t.1 : Int))])
   (fun t w' => (t.1 ≤ c ∧ w4.grownBy w' (some g3)) ∧ Blk w' g3 33 (rowC c t.2) ∧ ∀ j, j < t.1 → Ent true K w' (t.2 j).val (F i j)) (fun t => c - t.1)
   (0, fun _ => ih0) ⟨rfl, trivial⟩ ⟨⟨by omega, bG (Chg.refl _ _)⟩, hb3, fun j hj => by simp only at hj; omega⟩ ?_
  rintro ⟨j, h⟩ ξ2 w5 ⟨⟨hj, hG5⟩, hb5, hEn5⟩
  simp only at hj hb5 hEn5
  show CW _ _ _ _ (over [(27, .int .i64 (j : Int))] _) w5
  have hE5 : Ex w w5 := hE4.gb hG5 (fun k e => by cases e; have := hE2.size; omega)
  have hT5 := hT4.gb hG5 (fun e => hne3 (by cases e; rfl))
  haveI := hf
  repeat' (first|refine ai rfl ?_|refine aa ?_|refine aj ?_|refine ah rfl ?_|refine ae ?_|refine aZ rfl rfl (by omega) (by omega) ?_|refine aP rfl (fun hc => ?_) (fun hc => ?_)|refine aA ?_|refine aV ?_|refine aL ?_|refine aW ?_|refine aK ?_|refine aF ?_)
  ·have hEd : Ex w5 w5.drew := (Ex.refl _).drew
   refine bi (late := [10]) (plan := [(0, none), (1, none), (2, none), (3, none), (4, none), (5, none), (6, none), (7, none), (8, some true), (9, none), (10, some false)]) (fun w' => Ex w5 w') bB (by kernel_rfl) hEd ?_
   repeat' (first|refine aC (j := i) rfl rfl ⟨_, _, rfl⟩ (by omega) ?_|refine aU (j := i) (a1 := some ⟨g3, 0, none⟩) (l1 := c) (c1 := c) rfl (fun _ h => (hT5.ext h).sl) (by omega) (by simp [setF]) ?_|refine ai rfl ?_)
   refine ta rfl (hcall i j _ (by omega) (by omega) hE5.drew) rfl ?_
   rintro v w6 ⟨⟨lo, hI⟩, hE6⟩
   refine ⟨fun _ h => h.trans hE6, ?_⟩
   have hE56 := hEd.trans hE6
   obtain ⟨x, rfl⟩ := hI.ih
   repeat' (first|refine aT (j := j) rfl rfl ⟨_, _, rfl⟩ (by omega) ?_|refine ch (j := j) (u := x) rfl rfl (hb5.ext hE56) (by omega) (fun w7 hc7 hb7 => ⟨fun h => (nomatch h), ?_⟩)|refine ai rfl ?_|refine aa ?_|refine ah rfl ?_|refine ae ?_|refine aZ rfl rfl (by omega) (by omega) ?_|refine aK ?_)
   refine ⟨⟨(j + 1, setF h j x), ⟨⟨by simp only; omega, bL (bL hG5 (lA hE56) (fun k e => (nomatch e))) (bG hc7) (fun k e => .inl e)⟩, hb7, fun k hk => ?_⟩, by simp only; omega, rfl, trivial⟩, (by (repeat (first|exact aE _ _ _|refine aw rfl ?_|refine au rfl ?_|refine ak rfl ?_|refine ao rfl ?_)))⟩
   simp only at hk
   by_cases hkj : k = j
   ·subst hkj
    simp only [aJ]
    exact (Ent.of hI (hb i k (by omega) (by omega))).gbN (hb5.ext hE56) (bF _ _) (bG hc7)
   ·simp only [aO _ _ hkj]
    exact ((hEn5 k (by omega)).ext hE56).gbN (hb5.ext hE56) (bF _ _) (bG hc7)
  ·obtain rfl : j = c := by omega
   refine ⟨⟨(i + 1, setF gs i g3), ⟨⟨by simp only; omega, hE5, by have := hG5.size; omega⟩, hT5, fun k hk => ?_, fun k hk => ?_, fun k k' hk hk' he => ?_⟩, by simp only; omega, rfl, trivial⟩, (by (repeat (first|exact aE _ _ _|refine aw rfl ?_|refine au rfl ?_|refine ak rfl ?_|refine ao rfl ?_)))⟩
   ·simp only at hk ⊢
    by_cases hki : k = i
    ·subst hki
     rw [aJ]
     exact ⟨by omega, Nat.le_refl _, h, hb5, hEn5⟩
    ·rw [aO _ _ hki]
     exact (hR4 k (by omega)).gbN hb3 (bF _ _) hG5 (hgk k (by omega))
   ·simp only at hk ⊢
    by_cases hki : k = i
    ·subst hki; rw [aJ]; exact hne3
    ·rw [aO _ _ hki]; exact hO2 k (by omega)
   ·simp only at hk hk' he
    by_cases hki : k = i
    ·by_cases hki' : k' = i
     ·omega
     ·subst hki; rw [aJ, aO _ _ hki'] at he; exact absurd he.symm (hgk k' (by omega))
    ·by_cases hki' : k' = i
     ·subst hki'; rw [aJ, aO _ _ hki] at he; exact absurd he (hgk k (by omega))
     ·rw [aO _ _ hki, aO _ _ hki'] at he; exact hI2 k k' (by omega) (by omega) he
 ·obtain rfl : i = r := by omega
  refine bK rfl (rt rfl) ⟨g, gs, fun _ => c, rfl, ⟨hlo, ?_, hR2, hO2, hI2⟩, hE2⟩
  rw [cv (s' := fun k => if k < i then ⟨some ⟨gs k, 0, none⟩, c, c⟩ else sd0) (fun k hk => by rw [if_pos hk])]
  exact hT2
end Go.Proofs.YtppipmkpmmdcjaaGreat
