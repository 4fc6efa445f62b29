import Derived.Test.YtpfhfldehaiokaaGreatA02
namespace Go.W
open Go.RowKit (Below)
abbrev Ex (w w' : World) : Prop := Below w.heap.size w w'
theorem Ex.refl (w : World) : Ex w w := Below.refl _ _
theorem Ex.trans {w w1 w2 : World} (h : Ex w w1) (k : Ex w1 w2) : Ex w w2 := Below.trans h (Below.mono k h.size)
theorem Ex.drew {w w1 : World} (h : Ex w w1) : Ex w w1.drew := Below.drew h
structure Chg (g : Nat) (w w' : World) : Prop where
 os : w'.os = w.os
 tape : w'.tape = w.tape
 output : w'.output = w.output
 size : w'.heap.size = w.heap.size
 block : ∀ k, k ≠ g → w'.heap[k]? = w.heap[k]?
theorem Chg.refl (g : Nat) (w : World) : Chg g w w := ⟨rfl, rfl, rfl, rfl, fun _ _ => rfl⟩
theorem Chg.drew {g : Nat} {w w' : World} (h : Chg g w w') : Chg g w w'.drew := ⟨h.os, h.tape, h.output, h.size, h.block⟩
theorem Chg.trans {g : Nat} {w w1 w2 : World} (h : Chg g w w1) (k : Chg g w1 w2) : Chg g w w2 :=
 ⟨k.os.trans h.os, k.tape.trans h.tape, k.output.trans h.output, k.size.trans h.size, fun i hi => (k.block i hi).trans (h.block i hi)⟩
theorem Ex.chg {w w1 w2 : World} {g : Nat} (h : Ex w w1) (c : Chg g w1 w2) (hg : w.heap.size ≤ g) : Ex w w2 :=
 Below.trans h ⟨c.os, c.tape, c.output, Nat.le_of_eq c.size.symm, fun k hk => c.block k (by omega)⟩
theorem Ex.alloc (w : World) (o : Obj) : Ex w (w.alloc o) := Below.alloc (Below.refl _ _) (Nat.le_refl _) o
def Blk (w : World) (g T : Nat) (cs : List Value) : Prop := w.heap[g]? = some (.cells cs.toArray T (0, 0))
theorem Blk.lt {w : World} {g T : Nat} {cs : List Value} (h : Blk w g T cs) : g < w.heap.size := (Array.getElem?_eq_some_iff.1 h).1
theorem Blk.ext {w w' : World} {g T : Nat} {cs : List Value} (h : Blk w g T cs) (e : Ex w w') : Blk w' g T cs := (e.block g h.lt).trans h
theorem Blk.chg {w w' : World} {g g' T : Nat} {cs : List Value} (h : Blk w g T cs) (c : Chg g' w w') (hne : g ≠ g') : Blk w' g T cs := (c.block g hne).trans h
theorem Blk.drew {w : World} {g T : Nat} {cs : List Value} (h : Blk w g T cs) : Blk w.drew g T cs := h
theorem Blk.cell {w : World} {g T : Nat} {cs : List Value} (h : Blk w g T cs) {j : Nat} (hj : j < cs.length) : w.cell? ⟨g, j, none⟩ = some (cs.getD j undef) := by
 unfold Blk at h
 simp [World.cell?, h, hj]
structure New (w w' : World) (g T : Nat) (cs : List Value) : Prop where
 ex : Ex w w'
 lo : w.heap.size ≤ g
 hi : g < w'.heap.size
 blk : Blk w' g T cs
theorem New.of_alloc (w : World) (T : Nat) (cs : List Value) : New w (w.alloc (.cells cs.toArray T)) w.heap.size T cs :=
 ⟨Ex.alloc w _, Nat.le_refl _, by simp, heap_alloc_new w _⟩
theorem ed {w : World} {g T : Nat} {cs cs' : List Value} (h : Blk w g T cs) : Chg g w (w.setRow g cs'.toArray) ∧ Blk (w.setRow g cs'.toArray) g T cs' :=
 ⟨⟨rfl, rfl, rfl, by simp, fun k hk => setRow_other w g k _ hk⟩, setRow_heap w g _ _ T _ h⟩
structure Sl (w : World) (a : Option Addr) (vs : List Value) : Prop where
 ok : vs ≠ [] → plain a
 get : ∀ j, j < vs.length → w.cell? (elt a j) = some (vs.getD j undef)
theorem Sl.nil (w : World) (a : Option Addr) : Sl w a [] := ⟨fun h => absurd rfl h, fun j hj => absurd hj (by simp)⟩
theorem Sl.plain {w : World} {a : Option Addr} {vs : List Value} (h : Sl w a vs) (hl : 0 < vs.length) : W.plain a := h.ok (by intro e; subst e; simp at hl)
theorem Sl.ext {w w' : World} {a : Option Addr} {vs : List Value} (h : Sl w a vs) (e : Ex w w') : Sl w' a vs :=
 ⟨h.ok, fun j hj => by rw [World.cell?_of_block (w := w) (e.block _ (World.block_lt_of_cell? w _ (h.get j hj)))]; exact h.get j hj⟩
theorem Sl.chg {w w' : World} {a : Option Addr} {vs : List Value} {g : Nat} (h : Sl w a vs) (c : Chg g w w') (hne : ∀ ad, a = some ad → ad.block ≠ g) : Sl w' a vs := by
 refine ⟨h.ok, fun j hj => ?_⟩
 obtain ⟨b, o, rfl⟩ := h.plain (by omega)
 rw [World.cell?_of_block (w := w) (a := elt (some ⟨b, o, none⟩) j) (c.block b (hne _ rfl))]; exact h.get j hj
theorem Sl.drew {w : World} {a : Option Addr} {vs : List Value} (h : Sl w a vs) : Sl w.drew a vs := ⟨h.ok, h.get⟩
theorem Sl.lt {w : World} {a : Option Addr} {vs : List Value} (h : Sl w a vs) (hl : 0 < vs.length) : ∀ ad, a = some ad → ad.block < w.heap.size := by
 intro ad e
 have := World.block_lt_of_cell? w _ (h.get 0 hl)
 subst e
 exact this
theorem Blk.sl {w : World} {g T : Nat} {cs : List Value} (h : Blk w g T cs) : Sl w (some ⟨g, 0, none⟩) cs :=
 ⟨fun _ => ⟨g, 0, rfl⟩, fun j hj => by simp only [elt, Nat.zero_add]; exact h.cell hj⟩
theorem Sl.take {w : World} {a : Option Addr} {vs : List Value} (h : Sl w a vs) (n : Nat) : Sl w a (vs.take n) :=
 ⟨fun hne => h.ok (by intro e; subst e; simp at hne), fun j hj => by
  simp only [List.length_take] at hj
  rw [h.get j (by omega), List.getD_eq_getElem?_getD, List.getD_eq_getElem?_getD, List.getElem?_take, if_pos (by omega)]⟩
abbrev Own (w : World) (lo T s : Nat) (a : Option Addr) (n cap : Nat) (vs : List Value) : Prop := w.ownsRow lo T s (.slice a n cap) n vs
theorem Own.sl {w : World} {lo T s n cap : Nat} {a : Option Addr} {vs : List Value} (h : Own w lo T s a n cap vs) : Sl w a vs := by
 rcases h.2 with ⟨hv, hn⟩ | ⟨g, c, cur, hv, hg, hb, h1, h2, h3, h4⟩
 ·have : vs = [] := List.eq_nil_of_length_eq_zero (by rw [h.1, hn]; simp)
  subst this
  exact Sl.nil _ _
 ·simp only [Value.slice.injEq] at hv
  obtain ⟨rfl, _, rfl⟩ := hv
  have : Sl w (some ⟨g, 0, none⟩) cur.toList := Blk.sl (T := T) (by unfold Blk; simpa using hb)
  rw [← h4]
  exact this.take _
theorem Own.ext {w w' : World} {lo T s n cap : Nat} {a : Option Addr} {vs : List Value} (h : Own w lo T s a n cap vs) (e : Ex w w') : Own w' lo T s a n cap vs := by
 refine ⟨h.1, ?_⟩
 rcases h.2 with hn | ⟨g, c, cur, hv, hg, hb, r⟩
 ·exact .inl hn
 ·exact .inr ⟨g, c, cur, hv, hg, (e.block g (Array.getElem?_eq_some_iff.1 hb).1).trans hb, r⟩
theorem Own.chg {w w' : World} {lo T s n cap m : Nat} {a : Option Addr} {vs : List Value} (h : Own w lo T s a n cap vs) (c : Chg m w w') (hne : ∀ ad, a = some ad → ad.block ≠ m) : Own w' lo T s a n cap vs := by
 refine ⟨h.1, ?_⟩
 rcases h.2 with hn | ⟨g, c', cur, hv, hg, hb, r⟩
 ·exact .inl hn
 ·refine .inr ⟨g, c', cur, hv, hg, ?_, r⟩
  simp only [Value.slice.injEq] at hv
  exact (c.block g (hne _ hv.1)).trans hb
theorem Own.nil (w : World) (lo T s : Nat) : Own w lo T s none 0 0 [] := World.ownsRow_nil w lo T s
theorem Own.lo {w : World} {lo T s n cap : Nat} {a : Option Addr} {vs : List Value} (h : Own w lo T s a n cap vs) : ∀ ad, a = some ad → lo ≤ ad.block ∧ ad.block < w.heap.size := by
 intro ad e
 subst e
 exact World.ownsRow.lt h _ rfl
theorem Own.mono {w : World} {lo lo' T s n cap : Nat} {a : Option Addr} {vs : List Value} (h : Own w lo T s a n cap vs) (hl : lo' ≤ lo) : Own w lo' T s a n cap vs := by
 refine ⟨h.1, ?_⟩
 rcases h.2 with hn | ⟨g, c, cur, hv, hg, r⟩
 ·exact .inl hn
 ·exact .inr ⟨g, c, cur, hv, by omega, r⟩
theorem Blk.own {w : World} {g T s n lo : Nat} {cs : List Value} (h : Blk w g T cs) (hl : cs.length = n * s) (hm : n ≤ maxLen) (hlo : lo ≤ g) : Own w lo T s (some ⟨g, 0, none⟩) n n cs :=
 ⟨hl, .inr ⟨g, n, cs.toArray, rfl, hlo, h, Nat.le_refl _, hm, by simpa using hl, by rw [← hl]; simp⟩⟩
theorem iu {w w' : World} {a : Option Addr} {n cap : Nat} (h : w.grownBy w' (Value.slice a n cap).ownBlock) {w0 : World} (e : Ex w0 w) (hlo : ∀ ad, a = some ad → w0.heap.size ≤ ad.block) : Ex w0 w' :=
 Below.trans e ⟨h.os, h.tape, h.output, h.size, fun k hk => h.block k (by have := e.size; omega) (fun e2 => by
  cases a with
  | none => simp [Value.ownBlock] at e2
  | some ad => simp only [Value.ownBlock, Option.some.injEq] at e2; have := hlo ad rfl; omega)⟩
theorem kz {w w' : World} (h : Ex w w') : w.grownBy w' none := ⟨h.os, h.tape, h.output, h.size, fun k hk _ => h.block k hk⟩
theorem dx {w w' : World} {g : Nat} (h : Chg g w w') : w.grownBy w' (some g) := ⟨h.os, h.tape, h.output, Nat.le_of_eq h.size.symm, fun k _ hk => h.block k (fun e => hk (by rw [e]))⟩
theorem vE {w w' : World} {r : Option Nat} (h : w.grownBy w' r) : w.grownBy w'.drew r := ⟨h.os, h.tape, h.output, h.size, h.block⟩
theorem Ex.gb {w0 w w' : World} {r : Option Nat} (e : Ex w0 w) (h : w.grownBy w' r) (hr : ∀ k, r = some k → w0.heap.size ≤ k) : Ex w0 w' :=
 Below.trans e ⟨h.os, h.tape, h.output, h.size, fun k hk => h.block k (by have := e.size; omega) (fun e2 => by have := hr k e2.symm; omega)⟩
theorem dQ {w w1 w2 : World} {r r' : Option Nat} (h1 : w.grownBy w1 r) (h2 : w1.grownBy w2 r') (hr : ∀ k, r' = some k → r = some k ∨ w.heap.size ≤ k) : w.grownBy w2 r :=
 ⟨h2.os.trans h1.os, h2.tape.trans h1.tape, h2.output.trans h1.output, Nat.le_trans h1.size h2.size, fun k hk hne =>
  (h2.block k (by have := h1.size; omega) (fun e => by rcases hr k e.symm with h | h; exact hne h.symm; omega)).trans (h1.block k hk hne)⟩
theorem Blk.gb {w w' : World} {g T : Nat} {cs : List Value} {r : Option Nat} (h : Blk w g T cs) (hg : w.grownBy w' r) (hne : r ≠ some g) : Blk w' g T cs := (hg.block g h.lt (Ne.symm hne)).trans h
theorem Own.gb {w w' : World} {lo T s n cap : Nat} {a : Option Addr} {vs : List Value} {r : Option Nat} (h : Own w lo T s a n cap vs) (hg : w.grownBy w' r) (hne : ∀ ad, a = some ad → r ≠ some ad.block) : Own w' lo T s a n cap vs :=
 World.ownsRow.kept h hg (by
  cases a with
  | none => exact .inl rfl
  | some ad => right; exact fun e => hne ad rfl e.symm)
theorem Sl.gb {w w' : World} {a : Option Addr} {vs : List Value} {r : Option Nat} (h : Sl w a vs) (hg : w.grownBy w' r) (hne : ∀ ad, a = some ad → r ≠ some ad.block) : Sl w' a vs := by
 refine ⟨h.ok, fun j hj => ?_⟩
 have hc := h.get j hj
 obtain ⟨g, o, rfl⟩ := h.plain (by omega)
 rw [World.cell?_of_block (w := w) (a := elt (some ⟨g, o, none⟩) j) (hg.block g (World.block_lt_of_cell? w _ hc) (fun e => hne _ rfl e.symm))]
 exact hc
theorem kX {α : Type} {f : α → Value} (h : ∀ x, (f x).oneCell' = true) (xs : List α) : (xs.map f).all Value.oneCell' = true := by
 rw [List.all_eq_true]; intro v hv; obtain ⟨x, _, rfl⟩ := List.mem_map.1 hv; exact h x
class Str (P : Program) (T : TypeId) (pl : outParam (List (Nat × Nat))) : Prop where
 ok : (match P.underlying T with | some (.struct fs) => some (fs.toList.map fun f => (f.offset, (P.info? f.type).map (·.size))) | _ => none) = some (pl.map fun p => (p.1, some p.2))
class Fun (P : Program) (f : Nat) : Prop where
 ok : (match P.funcs[f]? with | some fn => fn.name != "runtime.NumGoroutine" && fn.body.isSome | none => false) = true
section
variable {P : Program} {S : World → Prop} {ops : List Oper} {K : Env → World → Prop} {rest : List (Oper × Option Bool)} {ρ : Env} {w : World} {b : Option Bool} {kf : Bool} {d : Nat} {dst : Option Nat} {T T' : TypeId} {pos : String} {af : Array Edge}
theorem fg {f : Nat} [hf : Fun P f] (args : Array Value) : (callFunc f args).run P w = .ok (.enter f args) w := by
 have h := hf.ok
 unfold callFunc
 cases hfn : P.funcs[f]? with
 | none => simp [hfn] at h
 | some fn =>
  simp only [hfn, Bool.and_eq_true, bne_iff_ne, ne_eq] at h
  have h2 : fn.body ≠ none := by intro hb; rw [hb] at h; simp at h
  simp [hfn, h.1, h2]
theorem au {f : Nat} {l : List Operand} {ts : Array TypeId} [Fun P f] {args : Array Value} {R : Value → World → Prop} (hc : CallsR P f args w R) (ha : (l.map (ev ρ)).toArray = args)
  (h : ∀ v w', R v w' → (kf = true → S w → S w') ∧ RR P S ops K rest (updO ρ dst v) w') :
  RR P S ops K ((⟨dst, .call ⟨.value (.func f), l.toArray, ts⟩, T, pos, af, none⟩, some kf) :: rest) ρ w := by
 subst ha
 refine dq rfl ?_
 unfold OpW
 have : (execOp (ev ρ) ⟨dst, .call ⟨.value (.func f), l.toArray, ts⟩, T, pos, af, none⟩).run P w = .ok (.enter f (l.map (ev ρ)).toArray) w := by
  simp [execOp, resolve, Deferred.ofValue, ev, invoke, fg]
 rw [this]
 exact hc.mono h
theorem eU {fn : Fn} {l1 l2 : List Operand} (h : RR P S ops K rest (upd ρ d (.func fn (l1.map (ev ρ)).toArray (l2.map (ev ρ)).toArray)) w) :
  RR P S ops K ((⟨some d, .makeFunc fn l1.toArray l2.toArray, T, pos, af, none⟩, b) :: rest) ρ w :=
 ci rfl (fun w' => by simp [execOp, Instr.makeFunc]) h
theorem fh {f : Nat} {x : Operand} {first cap : Array Value} {l : List Operand} {ts : Array TypeId} [Fun P f] {args : Array Value} {R : Value → World → Prop} (hx : ev ρ x = .func (.func f) first cap)
  (hc : CallsR P f args w R) (ha : first ++ (l.map (ev ρ)).toArray ++ cap = args)
  (h : ∀ v w', R v w' → (kf = true → S w → S w') ∧ RR P S ops K rest (updO ρ dst v) w') :
  RR P S ops K ((⟨dst, .call ⟨.value x, l.toArray, ts⟩, T, pos, af, none⟩, some kf) :: rest) ρ w := by
 subst ha
 refine dq rfl ?_
 unfold OpW
 have : (execOp (ev ρ) ⟨dst, .call ⟨.value x, l.toArray, ts⟩, T, pos, af, none⟩).run P w = .ok (.enter f (first ++ (l.map (ev ρ)).toArray ++ cap)) w := by
  simp [execOp, resolve, Deferred.ofValue, hx, invoke, fg]
 rw [this]
 exact hc.mono h
theorem jD {T1 : TypeId} {n g o Tb : Nat} {v : Value} {cs : List Value} (hsz : (P.info? T1).map (·.size) = some n) (hn : v.cells.size = n) (h1 : ∀ u ∈ v.cells.toList, u.oneCell' = true)
  (hb : Blk w g Tb cs) (ho : o + n ≤ cs.length) :
  (storeVar T1 ⟨g, o, none⟩ v).run P w = .ok () (w.setRow g (cs.take o ++ v.cells.toList ++ cs.drop (o + n)).toArray) := by
 unfold storeVar
 rw [Sem.run_bind_ok (fx hsz)]
 have hst := run_storeCells_at P g o Tb v.cells.toList 0 cs.toArray w hb (by simp; omega) h1
 simp [hn] at hst ⊢
 exact hst
theorem oa {x y : Operand} {T1 : TypeId} {g o Tb : Nat} {v : Value} {cs : List Value} [hT : Scal P T1] (hx : ev ρ x = .pointer (some ⟨g, o, none⟩)) (hy : ev ρ y = v) (hv : v.oneCell' = true)
  (hb : Blk w g Tb cs) (ho : o < cs.length) (h : ∀ w', Chg g w w' → Blk w' g Tb (cs.set o v) → (kf = true → S w → S w') ∧ RR P S ops K rest ρ w') :
  RR P S ops K ((⟨none, .store T1 x y, T, pos, af, none⟩, some kf) :: rest) ρ w := by
 refine dq rfl ?_
 unfold OpW
 have hcells : v.cells = #[v] := by cases v <;> simp [Value.oneCell'] at hv <;> rfl
 have hr := jD (P := P) (w := w) (T1 := T1) (v := v) (o := o) (n := 1) hT.sz (by simp [hcells]) (by simp [hcells, hv]) hb (by omega)
 have e : cs.take o ++ v.cells.toList ++ cs.drop (o + 1) = cs.set o v := by
  rw [List.set_eq_take_append_cons_drop, if_pos ho]; simp [hcells]
 rw [e] at hr
 have : (execOp (ev ρ) ⟨none, .store T1 x y, T, pos, af, none⟩).run P w = .ok .skip (w.setRow g (cs.set o v).toArray) := by
  simp [execOp, Instr.storeAt, hx, hy, Instr.sureAddr, hr]
 rw [this]
 exact h _ (ed hb).1 (ed hb).2
theorem fy {x y : Operand} {T1 : TypeId} {g j Tb : Nat} {v : Value} {cs : List Value} [hT : Scal P T1] (hx : ev ρ x = .pointer (some (elt (some ⟨g, 0, none⟩) j))) (hy : ev ρ y = v) (hv : v.oneCell' = true)
  (hb : Blk w g Tb cs) (ho : j < cs.length) (h : ∀ w', Chg g w w' → Blk w' g Tb (cs.set j v) → (kf = true → S w → S w') ∧ RR P S ops K rest ρ w') :
  RR P S ops K ((⟨none, .store T1 x y, T, pos, af, none⟩, some kf) :: rest) ρ w :=
 oa (o := j) (by rw [hx]; simp [elt]) hy hv hb ho h
theorem pq {x y : Operand} {T1 : TypeId} {n g o Tb : Nat} {vs cs : List Value} [hT : Agg P T1 n] (hx : ev ρ x = .pointer (some ⟨g, o, none⟩)) (hy : ev ρ y = .agg vs.toArray) (hl : vs.length = n)
  (h1 : vs.all Value.oneCell' = true) (hb : Blk w g Tb cs) (ho : o + n ≤ cs.length)
  (h : ∀ w', Chg g w w' → Blk w' g Tb (cs.take o ++ vs ++ cs.drop (o + n)) → (kf = true → S w → S w') ∧ RR P S ops K rest ρ w') :
  RR P S ops K ((⟨none, .store T1 x y, T, pos, af, none⟩, some kf) :: rest) ρ w := by
 refine dq rfl ?_
 unfold OpW
 have hr := jD (P := P) (w := w) (T1 := T1) (v := .agg vs.toArray) (o := o) (n := n) hT.sz (by simpa [Value.cells] using hl) (by simpa [Value.cells] using h1) hb ho
 have : (execOp (ev ρ) ⟨none, .store T1 x y, T, pos, af, none⟩).run P w = .ok .skip (w.setRow g (cs.take o ++ vs ++ cs.drop (o + n)).toArray) := by
  simp only [execOp, Instr.storeAt, hx, hy, Instr.sureAddr]
  simp [Value.cells] at hr
  simp [hr]
 rw [this]
 exact h _ (ed hb).1 (ed hb).2
theorem aF {x y : Operand} {T1 : TypeId} {n g Tb : Nat} {vs cs : List Value} [hT : Agg P T1 n] (hx : ev ρ x = .pointer (some ⟨g, 0, none⟩)) (hy : ev ρ y = .agg vs.toArray) (hl : vs.length = n)
  (h1 : vs.all Value.oneCell' = true) (hb : Blk w g Tb cs) (ho : cs.length = n)
  (h : ∀ w', Chg g w w' → Blk w' g Tb vs → (kf = true → S w → S w') ∧ RR P S ops K rest ρ w') :
  RR P S ops K ((⟨none, .store T1 x y, T, pos, af, none⟩, some kf) :: rest) ρ w :=
 pq hx hy hl h1 hb (by omega) (by
  have e : cs.take 0 ++ vs ++ cs.drop (0 + n) = vs := by rw [Nat.zero_add, ← ho]; simp
  rw [e]; exact h)
theorem aH {T1 : TypeId} {z : Value} [Zro P T1 z] (h : ∀ g w', New w w' g T1 z.cells.toList → (kf = true → S w → S w') ∧ RR P S ops K rest (upd ρ d (.pointer (some ⟨g, 0, none⟩))) w') :
  RR P S ops K ((⟨some d, .alloc T1, T, pos, af, none⟩, some kf) :: rest) ρ w := by
 refine dq rfl ?_
 unfold OpW
 have hz := gC (P := P) (w := w) (T := T1) (v := z)
 have : (execOp (ev ρ) ⟨some d, .alloc T1, T, pos, af, none⟩).run P w = .ok (.value (.pointer (some ⟨w.heap.size, 0, none⟩))) (w.alloc (.cells z.cells T1)) := by
  simp [execOp, Instr.alloc, hz, newVar, newRow]
 rw [this]
 exact h _ _ (by have := New.of_alloc w T1 z.cells.toList; simpa using this)
theorem wP {x : Operand} {T1 : TypeId} {v : Value} (hx : ev ρ x = v) (h : ∀ g w', New w w' g T1 v.cells.toList → (kf = true → S w → S w') ∧ RR P S ops K rest (upd ρ d (.pointer (some ⟨g, 0, none⟩))) w') :
  RR P S ops K ((⟨some d, .box T1 x, T, pos, af, none⟩, some kf) :: rest) ρ w := by
 refine dq rfl ?_
 unfold OpW
 have : (execOp (ev ρ) ⟨some d, .box T1 x, T, pos, af, none⟩).run P w = .ok (.value (.pointer (some ⟨w.heap.size, 0, none⟩))) (w.alloc (.cells v.cells T1)) := by
  simp [execOp, Instr.box, hx, newVar, newRow]
 rw [this]
 exact h _ _ (by have := New.of_alloc w T1 v.cells.toList; simpa using this)
theorem bC {x : Operand} {T1 : TypeId} {vs : List Value} (hx : ev ρ x = .agg vs.toArray) (h : ∀ g w', New w w' g T1 vs → (kf = true → S w → S w') ∧ RR P S ops K rest (upd ρ d (.pointer (some ⟨g, 0, none⟩))) w') :
  RR P S ops K ((⟨some d, .box T1 x, T, pos, af, none⟩, some kf) :: rest) ρ w := wP hx h
theorem j4 {x : Operand} {T1 : TypeId} {v : Value} (hx : ev ρ x = v) (h1 : v.oneCell' = true) (h : ∀ g w', New w w' g T1 [v] → (kf = true → S w → S w') ∧ RR P S ops K rest (upd ρ d (.pointer (some ⟨g, 0, none⟩))) w') :
  RR P S ops K ((⟨some d, .box T1 x, T, pos, af, none⟩, some kf) :: rest) ρ w :=
 wP hx (by
  have hcells : v.cells = #[v] := by cases v <;> simp [Value.oneCell'] at h1 <;> rfl
  rw [hcells]; exact h)
theorem lG (w : World) : ∀ (fs : List Field) (pl : List (Nat × Nat)), (fs.map fun f => (f.offset, (P.info? f.type).map (·.size))) = (pl.map fun p => (p.1, some p.2)) →
  (fs.mapM fun f => do pure (f.offset, ← sizeOf f.type) : Sem (List (Nat × Nat))).run P w = .ok pl w
 | [], [], _ => rfl
 | [], _ :: _, h => by simp at h
 | _ :: _, [], h => by simp at h
 | f :: fs, p :: pl, h => by
  simp only [List.map_cons, List.cons.injEq, Prod.mk.injEq] at h
  have h1 := fx (P := P) (w := w) h.1.2
  have h2 := lG w fs pl h.2
  simp only [List.mapM_cons]
  rw [Sem.run_bind_ok (Sem.run_bind_ok h1 : _ = Result.ok (f.offset, p.2) w), Sem.run_bind_ok h2, h.1.1]
  rfl
theorem da {T1 : TypeId} {pl : List (Nat × Nat)} {l : List (Nat × Operand)} {z : Value} {cs : List Value} [hT : Str P T1 pl] [Zro P T1 z]
  (hc : Instr.fill (fun i => pl[i]?) z.cells (l.map fun p => (p.1, ev ρ p.2)) = some cs.toArray) (h : RR P S ops K rest (upd ρ d (.agg cs.toArray)) w) :
  RR P S ops K ((⟨some d, .build T1 l.toArray, T, pos, af, none⟩, b) :: rest) ρ w := by
 refine ci rfl (fun w' => ?_) h
 have hok := hT.ok
 split at hok
 ·rename_i fs hfs
  have hr := lG (P := P) w' fs.toList pl (Option.some.inj hok)
  have hz := gC (P := P) (w := w') (T := T1) (v := z)
  have hm : (fs.mapM fun f => do pure (f.offset, ← sizeOf f.type) : Sem (Array (Nat × Nat))).run P w' = .ok pl.toArray w' := by
   rw [Array.mapM_eq_mapM_toList]
   simp only [map_eq_pure_bind]
   rw [Sem.run_bind_ok hr]; rfl
  simp only [execOp, Instr.build]
  rw [Sem.run_bind_ok (v := .agg cs.toArray) (w' := w')]
  ·rfl
  ·rw [Sem.run_bind_ok hz]
   simp only [underlying]
   simp [hfs]
   simp at hm hc
   simp [hm, hc]
 ·cases hok
theorem iv {T1 E s y n : Nat} {ps : Array (Nat × Operand)} {z : Value} {cs : Array Value} [hT : Slc P T1 E s y] [Zro P E z] (hs : Nat.ble (n * s) 16777216 = true)
  (hc : Instr.fill (fun i => some (i * s, s)) ((Array.range (n * s)).map (z.cells[· % z.cells.size]!)) (ps.map fun (i, x) => (i, ev ρ x)).toList = some cs)
  (h : ∀ g w', New w w' g E cs.toList → (kf = true → S w → S w') ∧ RR P S ops K rest (upd ρ d (.slice (some ⟨g, 0, none⟩) n n)) w') :
  RR P S ops K ((⟨some d, .buildSlice T1 n ps, T, pos, af, none⟩, some kf) :: rest) ρ w := by
 refine dq rfl ?_
 unfold OpW
 have hz := gC (P := P) (w := w) (T := E) (v := z)
 obtain ⟨i0, hi0, hzz⟩ := Option.map_eq_some_iff.1 hT.sz
 simp only [Prod.mk.injEq] at hzz
 have hs' : ¬ n * s > 16777216 := by have := Nat.le_of_ble_eq_true hs; omega
 have : (execOp (ev ρ) ⟨some d, .buildSlice T1 n ps, T, pos, af, none⟩).run P w = .ok (.value (.slice (some ⟨w.heap.size, 0, none⟩) n n)) (w.alloc (.cells cs E)) := by
  simp only [execOp, Instr.buildSlice]
  have hu := run_underlying (P := P) (t := T1) hT.un w
  have hsz : (sizeOf E).run P w = .ok s w := fx (by rw [hi0]; simp [hzz.1])
  by_cases h0 : n * s = 0
  ·have e0 : (Array.range (n * s)).map (z.cells[· % z.cells.size]!) = (Array.range (n * s)).map ((#[] : Array Value)[· % 0]!) := by rw [h0]; simp
   rw [e0] at hc
   simp [hu, hsz, h0, newRow] at hc ⊢
   simp [hc]
  ·simp [hu, hsz, hs', hz, h0] at hc ⊢
   simp [hc, newRow]
 rw [this]
 exact h _ _ (by have := New.of_alloc w E cs.toList; simpa using this)
theorem tH {T1 E s y n : Nat} {x1 x2 : Operand} {z : Value} [hT : Slc P T1 E s y] [hz : Zro P E z] (h1 : ev ρ x1 = .int .i64 n) (h2 : ev ρ x2 = .int .i64 n) (hb : y * n ≤ 281474976710656) (hm : n ≤ 9223372036854775807)
  (h : ∀ g w', New w w' g E (madeCells z.cells (n * s)).toList → (kf = true → S w → S w') ∧ RR P S ops K rest (upd ρ d (.slice (some ⟨g, 0, none⟩) n n)) w') :
  RR P S ops K ((⟨some d, .makeSlice T1 x1 x2, T, pos, af, none⟩, some kf) :: rest) ρ w := by
 refine dq rfl ?_
 unfold OpW
 obtain ⟨i0, hi0, hzz⟩ := Option.map_eq_some_iff.1 hT.sz
 simp only [Prod.mk.injEq] at hzz
 obtain ⟨i1, hi1, hz1⟩ := Option.map_eq_some_iff.1 hz.ok
 rw [hi0] at hi1
 simp only [Option.some.injEq] at hi1
 subst hi1
 have hr := run_make (P := P) w T1 E i0 z hT.un hi0 hz1 .i64 .i64 n n (by omega) (Int.le_refl _) (by rw [hzz.2, ← Int.natCast_mul]; omega) (by omega)
 simp only [Int.toNat_natCast, hzz.1] at hr
 have : (execOp (ev ρ) ⟨some d, .makeSlice T1 x1 x2, T, pos, af, none⟩).run P w = .ok (.value (.slice (some ⟨w.heap.size, 0, none⟩) n n)) (w.alloc (.cells (madeCells z.cells (n * s)) E)) := by
  simp [execOp, h1, h2, hr]
 rw [this]
 exact h _ _ (by have := New.of_alloc w E (madeCells z.cells (n * s)).toList; simpa using this)
theorem kY {T1 E y n : Nat} {x1 x2 : Operand} {z : Value} [hT : Slc P T1 E 1 y] [hz : Zro P E z] (hz1 : z.cells = #[z]) (h1 : ev ρ x1 = .int .i64 n) (h2 : ev ρ x2 = .int .i64 n) (hb : y * n ≤ 281474976710656) (hm : n ≤ 9223372036854775807)
  (h : ∀ g w', New w w' g E (List.replicate n z) → (kf = true → S w → S w') ∧ RR P S ops K rest (upd ρ d (.slice (some ⟨g, 0, none⟩) n n)) w') :
  RR P S ops K ((⟨some d, .makeSlice T1 x1 x2, T, pos, af, none⟩, some kf) :: rest) ρ w :=
 tH h1 h2 hb hm (fun g w' hn => h g w' (by rw [hz1, Nat.mul_one, toList_madeCells_one] at hn; exact hn))
theorem vF {T1 E y n : Nat} {k : IntKind} {x1 x2 : Operand} [hT : Slc P T1 E 1 y] [hz : Zro P E (.int k 0)] (h1 : ev ρ x1 = .int .i64 n) (h2 : ev ρ x2 = .int .i64 n) (hb : y * n ≤ 281474976710656) (hm : n ≤ 9223372036854775807)
  (h : ∀ g w', New w w' g E ((List.replicate n (0 : Int)).map (Value.int k)) → (kf = true → S w → S w') ∧ RR P S ops K rest (upd ρ d (.slice (some ⟨g, 0, none⟩) n n)) w') :
  RR P S ops K ((⟨some d, .makeSlice T1 x1 x2, T, pos, af, none⟩, some kf) :: rest) ρ w :=
 kY rfl h1 h2 hb hm (by simpa using h)
theorem fT {T1 E y n : Nat} {k : IntKind} {x1 x2 : Operand} [hT : Slc P T1 E 1 y] [hz : Zro P E (.int k 0)] (h1 : ev ρ x1 = .int .i64 n) (h2 : ev ρ x2 = .int .i64 n) (hb : y * n ≤ 281474976710656) (hm : n ≤ 9223372036854775807)
  (h : ∀ g w', New w w' g E ((List.replicate n (0 : Nat)).map fun (m : Nat) => Value.int k m) → (kf = true → S w → S w') ∧ RR P S ops K rest (upd ρ d (.slice (some ⟨g, 0, none⟩) n n)) w') :
  RR P S ops K ((⟨some d, .makeSlice T1 x1 x2, T, pos, af, none⟩, some kf) :: rest) ρ w :=
 kY rfl h1 h2 hb hm (by simpa using h)
theorem ob {T1 E s y n cap m c lo : Nat} {i0 : TypeInfo} {z v' : Value} {w' : World} {a : Option Addr} {ad : Addr} {vs news : List Value} (ht : P.underlying T1 = some (.slice E)) (hi : P.info? E = some i0) (hz : i0.zero = some z)
  (hsz : i0.size = s) (hby : i0.bytes = y) (hown : Own w lo E s a n cap vs) (hl : news.length = m * s) (hnews : ∀ j u, news[j]? = some u → w.cell? (ad.add j) = some u) (ho : ∀ u ∈ news, u.oneCell' = true)
  (hm : n + m ≤ 9223372036854775807) (hb : (n + m) * y ≤ 140737488355328)
  (hr : (Builtin.append_ #[T1, T1] T #[.slice a n cap, .slice (some ad) m c]).run P w = .ok v' w') : ∀ a' n' cap', v' = .slice a' n' cap' → a' = a ∨ ∀ x, a' = some x → w.heap.size ≤ x.block := by
 subst hsz hby
 intro a' n' cap' hv'
 subst hv'
 rcases hown.2 with ⟨hv, hn⟩ | ⟨g, cap2, cur, hv, hbg, hg, hnc, hcm, hcs, htake⟩
 ·simp only [Value.slice.injEq] at hv
  obtain ⟨rfl, rfl, rfl⟩ := hv
  by_cases hm0 : m = 0
  ·subst hm0
   simp [Builtin.append_, run_underlying ht, sizeOf, typeInfo, hi, Builtin.lenOf, Builtin.firstCells, loadCells, loadCellsFrom] at hr
   exact .inl hr.1.1.symm
  ·have := run_append_nil (P := P) w T1 T E i0 z ht hi hz ad m c news hl hnews (by omega) (by omega) (by simp only [Nat.zero_add] at hb; omega)
   rw [this] at hr
   simp only [Result.ok.injEq, Value.slice.injEq] at hr
   right; intro x hx; rw [← hr.1.1] at hx; cases hx; exact Nat.le_refl _
 ·simp only [Value.slice.injEq] at hv
  obtain ⟨rfl, _, rfl⟩ := hv
  by_cases hroom : n + m ≤ cap
  ·have hfit : n * i0.size + news.length ≤ cur.size := by rw [hl, hcs, ← Nat.add_mul]; exact Nat.mul_le_mul_right _ hroom
   have := run_append_room (P := P) w T1 T E i0 ht hi g n cap cur hg ad m c news hl hnews ho hroom hfit
   rw [this] at hr
   simp only [Result.ok.injEq, Value.slice.injEq] at hr
   exact .inl hr.1.1.symm
  ·have holds : ∀ j u, vs[j]? = some u → w.cell? ((⟨g, 0, none⟩ : Addr).add j) = some u := World.ownsRow.cells hown (g := g) rfl
   have := run_append_grow (P := P) w T1 T E i0 z ht hi hz ⟨g, 0, none⟩ n cap vs hown.1 holds ad m c news hl hnews (by omega) (by omega) (growslice_fits (by omega) hb)
   rw [this] at hr
   simp only [Result.ok.injEq, Value.slice.injEq] at hr
   right; intro x hx; rw [← hr.1.1] at hx; cases hx; exact Nat.le_refl _
theorem dZ {T1 E s y n cap m c : Nat} {x1 x2 : Operand} {a ad : Option Addr} {lo : Nat} {vs news : List Value} {z : Value} [hT : Slc P T1 E s y] [hz : Zro P E z] (h1 : ev ρ x1 = .slice a n cap) (h2 : ev ρ x2 = .slice ad m c)
  (hs : Nat.ble 1 s = true) (hzs : z.cells.size = s) (hown : Own w lo E s a n cap vs) (hnews : Sl w ad news) (hp : W.plain ad) (hl : news.length = m * s) (ho : news.all Value.oneCell' = true)
  (hm : n + m ≤ 9223372036854775807) (hb : (n + m) * y ≤ 140737488355328) (hlo : lo ≤ w.heap.size)
  (h : ∀ a' cap' w', Own w' lo E s a' (n + m) cap' (vs ++ news) → w.grownBy w' (Value.slice a n cap).ownBlock → (a' = a ∨ ∀ x, a' = some x → w.heap.size ≤ x.block) → (kf = true → S w → S w') ∧ RR P S ops K rest (upd ρ d (.slice a' (n + m) cap')) w') :
  RR P S ops K ((⟨some d, .call ⟨.builtin .append, #[x1, x2], #[T1, T1]⟩, T, pos, af, none⟩, some kf) :: rest) ρ w := by
 refine dq rfl ?_
 unfold OpW
 obtain ⟨i0, hi0, hzz⟩ := Option.map_eq_some_iff.1 hT.sz
 simp only [Prod.mk.injEq] at hzz
 obtain ⟨i1, hi1, hz1⟩ := Option.map_eq_some_iff.1 hz.ok
 rw [hi0] at hi1
 simp only [Option.some.injEq] at hi1
 subst hi1
 obtain ⟨g, o, rfl⟩ := hp
 have e : ∀ n, (⟨g, o, none⟩ : Addr).add n = ⟨g, o + n, none⟩ := fun n => by unfold Addr.add; split <;> simp_all
 have hnews' : ∀ j u, news[j]? = some u → w.cell? ((⟨g, o, none⟩ : Addr).add j) = some u := fun j u hu => by
  have hj : j < news.length := (List.getElem?_eq_some_iff.1 hu).1
  have := hnews.get j hj
  rw [e]
  simp only [elt] at this
  rw [this, List.getD_eq_getElem?_getD, hu]; rfl
 obtain ⟨v', w', hr, h3, h4, _⟩ := run_append_own (P := P) w lo T1 T E i0 z s y hT.un hi0 hz1 hzz.1 hzz.2 hzs (Nat.le_of_ble_eq_true hs) _ n vs hown ⟨g, o, none⟩ m c news hl hnews'
  (fun u hu => List.all_eq_true.1 ho u hu) hm hb hlo
 have : (execOp (ev ρ) ⟨some d, .call ⟨.builtin .append, #[x1, x2], #[T1, T1]⟩, T, pos, af, none⟩).run P w = .ok (.value v') w' := by
  simp [execOp, resolve, invoke, builtin, h1, h2, hr]
 rw [this]
 have hform : ∃ a' cap', v' = .slice a' (n + m) cap' := by
  rcases h3.2 with ⟨e1, e2⟩ | ⟨g, cap', _, e1, _⟩
  ·exact ⟨none, 0, by rw [e1, e2]⟩
  ·exact ⟨_, _, e1⟩
 obtain ⟨a', cap', rfl⟩ := hform
 exact h _ _ _ h3 h4 (ob hT.un hi0 hz1 hzz.1 hzz.2 hown hl hnews' (fun u hu => List.all_eq_true.1 ho u hu) hm hb hr _ _ _ rfl)
theorem ew {s : Nat} {v : Value} {cs : Array Value} (hv : v.cells.size = s) (hc : cs.size = 1 * s) : Instr.fill (fun i => some (i * s, s)) cs [(0, v)] = some v.cells := by
 simp only [Instr.fill, hv, ne_eq, not_true_eq_false, decide_false, Bool.false_or, Nat.zero_mul, Nat.zero_add]
 rw [if_neg (by simp; omega)]
 congr 1
 have : ∀ (l : List Value) (k : Nat) (acc : Array Value), k + l.length = acc.size →
   ((l.zipIdx k).foldl (fun (cs : Array Value) (x : Value × Nat) => cs.setIfInBounds x.2 x.1) acc).toList = acc.toList.take k ++ l := by
  intro l
  induction l with
  | nil => intro k acc h; simp at h ⊢; rw [List.take_of_length_le (by simp; omega)]
  | cons x l ih =>
   intro k acc h
   simp only [List.length_cons] at h
   simp only [List.zipIdx_cons, List.foldl_cons]
   rw [ih (k + 1) _ (by simp; omega)]
   have hk : k < acc.toList.length := by simp; omega
   rw [Array.toList_setIfInBounds, List.take_succ_eq_append_getElem (by simpa using hk), List.take_set]
   simp
   rw [List.set_eq_of_length_le (by simp; omega)]
 have h2 := this v.cells.toList 0 cs (by simp; omega)
 simp at h2
 rw [← Array.toList_inj]
 rw [← Array.foldl_toList]
 simpa using h2
theorem oc {T1 E s y n cap d1 t : Nat} {x : Operand} {a : Option Addr} {lo : Nat} {vs : List Value} {v z : Value} {T2 : TypeId} {pos2 : String} {af2 : Array Edge} [hT : Slc P T1 E s y] [hz : Zro P E z]
  (hs : ρ t = .slice a n cap) (hx : ev ρ x = v) (htd : Nat.beq t d1 = false)
  (hzs : (Nat.ble 1 s && (Nat.ble s 1024 && Nat.beq z.cells.size s)) = true) (hv : v.cells.size = s) (ho : v.cells.toList.all Value.oneCell' = true)
  (hown : Own w lo E s a n cap vs) (hm : n + 1 ≤ 9223372036854775807) (hb : (n + 1) * y ≤ 140737488355328) (hlo : lo ≤ w.heap.size)
  (h : ∀ g a' cap' w', Own w' lo E s a' (n + 1) cap' (vs ++ v.cells.toList) → w.grownBy w' (Value.slice a n cap).ownBlock → (a' = a ∨ ∀ x, a' = some x → w.heap.size ≤ x.block) →
   RR P (fun _ => True) ops K rest (upd (upd ρ d1 (.slice (some ⟨g, 0, none⟩) 1 1)) d (.slice a' (n + 1) cap')) w') :
  RR P (fun _ => True) ops K ((⟨some d1, .buildSlice T1 1 #[(0, x)], T2, pos2, af2, none⟩, some false) :: (⟨some d, .call ⟨.builtin .append, #[.tmp t, .tmp d1], #[T1, T1]⟩, T, pos, af, none⟩, some false) :: rest) ρ w := by
 simp only [Bool.and_eq_true] at hzs
 obtain ⟨h1, h2, h3⟩ := hzs
 have h1' := Nat.le_of_ble_eq_true h1
 have h2' := Nat.le_of_ble_eq_true h2
 have h3' := Nat.eq_of_beq_eq_true h3
 refine iv (E := E) (s := s) (z := z) (cs := v.cells) (by rw [Nat.ble_eq]; omega) ?_ (fun g w1 hn => tvv ?_)
 ·simp only [List.map_toArray, List.map_cons, List.map_nil, hx]
  exact ew hv (by simp)
 ·have hown1 := hown.ext hn.ex
  refine dZ (z := z) (c := 1) (hzs := h3') (hs := h1) (news := v.cells.toList) (h1 := ?_) (h2 := ?_) (hown := hown1) (hnews := hn.blk.sl) (hp := ⟨_, _, rfl⟩) (hl := by simp; omega) (ho := ho) (hm := hm) (hb := hb) (hlo := by have := hn.ex.size; omega) ?_
  ·show upd ρ d1 _ t = _
   simp only [upd, htd, cond_false, hs]
  ·show upd ρ d1 _ d1 = _
   rw [eR]
  ·intro a' cap' w2 ho2 hg2 hA
   refine ⟨fun _ _ => trivial, h g a' cap' w2 ho2 ?_ (hA.imp id fun hh x hx => by have := hh x hx; have := hn.ex.size; omega)⟩
   exact ⟨hg2.os.trans hn.ex.os, hg2.tape.trans hn.ex.tape, hg2.output.trans hn.ex.output, Nat.le_trans hn.ex.size hg2.size,
    fun k hk hne => (hg2.block k (by have := hn.ex.size; omega) hne).trans (hn.ex.block k hk)⟩
theorem od {T1 E y n cap d1 t lo : Nat} {x : Operand} {a : Option Addr} {k : IntKind} {u : Nat} {xs : List Nat} {z : Value} {T2 : TypeId} {pos2 : String} {af2 : Array Edge} [hT : Slc P T1 E 1 y] [hz : Zro P E z]
  (hs : ρ t = .slice a n cap) (hx : ev ρ x = .int k (u : Int)) (htd : Nat.beq t d1 = false) (hzs : (Nat.beq z.cells.size 1) = true)
  (hown : Own w lo E 1 a n cap (xs.map (fun (m : Nat) => Value.int k m))) (hm : n + 1 ≤ 9223372036854775807) (hb : (n + 1) * y ≤ 140737488355328) (hlo : lo ≤ w.heap.size)
  (h : ∀ g a' cap' w', Own w' lo E 1 a' (n + 1) cap' ((xs ++ [u]).map (fun (m : Nat) => Value.int k m)) → w.grownBy w' (Value.slice a n cap).ownBlock → (a' = a ∨ ∀ x, a' = some x → w.heap.size ≤ x.block) →
   RR P (fun _ => True) ops K rest (upd (upd ρ d1 (.slice (some ⟨g, 0, none⟩) 1 1)) d (.slice a' (n + 1) cap')) w') :
  RR P (fun _ => True) ops K ((⟨some d1, .buildSlice T1 1 #[(0, x)], T2, pos2, af2, none⟩, some false) :: (⟨some d, .call ⟨.builtin .append, #[.tmp t, .tmp d1], #[T1, T1]⟩, T, pos, af, none⟩, some false) :: rest) ρ w :=
 oc (s := 1) hs hx htd (by simpa using hzs) rfl rfl hown hm hb hlo (fun g a' cap' w' h1 h2 h3 => h g a' cap' w' (by rw [List.map_append]; exact h1) h2 h3)
section
variable {w' w0 : World} {lo T0 s0 n cap : Nat} {a : Option Addr} {vs : List Value}
theorem Own.grow_ex (hown : Own w lo T0 s0 a n cap vs) (h : w.grownBy w' (Value.slice a n cap).ownBlock) (e : Ex w0 w) (hlo : w0.heap.size ≤ lo) : Ex w0 w' :=
 iu h e (fun ad ha => by have := (hown.lo ad ha).1; omega)
theorem lH {x y : Operand} {T1 : TypeId} {j : Nat} {v : Value} [hT : Scal P T1] (hx : ev ρ x = .pointer (some (elt a j))) (hy : nv (ev ρ y) = some v) (hv : v.oneCell' = true)
  (hown : Own w lo T0 s0 a n cap vs) (hj : j < vs.length)
  (h : ∀ g w', a = some ⟨g, 0, none⟩ → lo ≤ g → Chg g w w' → Own w' lo T0 s0 a n cap (vs.set j v) → (kf = true → S w → S w') ∧ RR P S ops K rest ρ w') :
  RR P S ops K ((⟨none, .store T1 x y, T, pos, af, none⟩, some kf) :: rest) ρ w := by
 rcases hown.2 with ⟨hv', hn⟩ | ⟨g, c, cur, hv', hg, hb, h1, h2, h3, h4⟩
 ·have := hown.1; rw [hn] at this; simp at this; subst this; simp at hj
 ·simp only [Value.slice.injEq] at hv'
  obtain ⟨rfl, _, rfl⟩ := hv'
  have hb' : Blk w g T0 cur.toList := by unfold Blk; simpa using hb
  have hjl : j < cur.toList.length := by rw [← h4] at hj; simp at hj ⊢; omega
  refine fy hx (by rw [ky] at hy; exact Option.some.inj hy) hv hb' hjl (fun w' hc hb2 => h g w' rfl hg hc ⟨by simpa using hown.1, .inr ⟨g, cap, (cur.toList.set j v).toArray, rfl, hg, hb2, h1, h2, by simpa using h3, ?_⟩⟩)
  rw [← h4, List.take_set]
end
theorem gX {T1 E y : Nat} {x : Operand} {k : IntKind} {u : Int} {z : Value} [hT : Slc P T1 E 1 y] [hz : Zro P E z] (hx : ev ρ x = .int k u)
  (h : ∀ g w', New w w' g E ([u].map (Value.int k)) → (kf = true → S w → S w') ∧ RR P S ops K rest (upd ρ d (.slice (some ⟨g, 0, none⟩) 1 1)) w') :
  RR P S ops K ((⟨some d, .buildSlice T1 1 #[(0, x)], T, pos, af, none⟩, some kf) :: rest) ρ w :=
 iv (E := E) (s := 1) (z := z) (cs := #[.int k u]) rfl (by
  simp only [List.map_toArray, List.map_cons, List.map_nil, hx]
  exact ew rfl (by simp)) h
theorem tI {T1 E y : Nat} {x0 x1 : Operand} {v0 v1 z : Value} [hT : Slc P T1 E 1 y] [hz : Zro P E z] (h0 : nv (ev ρ x0) = some v0) (h1 : nv (ev ρ x1) = some v1) (hv0 : v0.oneCell' = true) (hv1 : v1.oneCell' = true)
  (h : ∀ g w', New w w' g E [v0, v1] → (kf = true → S w → S w') ∧ RR P S ops K rest (upd ρ d (.slice (some ⟨g, 0, none⟩) 2 2)) w') :
  RR P S ops K ((⟨some d, .buildSlice T1 2 #[(0, x0), (1, x1)], T, pos, af, none⟩, some kf) :: rest) ρ w :=
 iv (E := E) (s := 1) (z := z) (cs := #[v0, v1]) rfl (by
  rw [ky] at h0 h1
  have c0 : v0.cells = #[v0] := by cases v0 <;> simp [Value.oneCell'] at hv0 <;> rfl
  have c1 : v1.cells = #[v1] := by cases v1 <;> simp [Value.oneCell'] at hv1 <;> rfl
  simp only [List.map_toArray, List.map_cons, List.map_nil, Option.some.inj h0, Option.some.inj h1]
  have er : Array.range 2 = #[0, 1] := by decide
  simp [Instr.fill, c0, c1, er]) h
theorem j5 {x hi : Operand} {a : Option Addr} {l c E s y : Nat} {n : Int} {k : IntKind} [hT : Slc P T' E s y] (hx : ev ρ x = .slice a l c) (hh : ev ρ hi = .int k n) (h0 : 0 ≤ n) (h1 : n ≤ c)
  (h : RR P S ops K rest (upd ρ d (.slice a n.toNat c)) w) : RR P S ops K ((⟨some d, .slice T' x none (some hi) none, T, pos, af, none⟩, b) :: rest) ρ w := by
 refine ci rfl (fun w' => ?_) h
 obtain ⟨i0, hi0, hz⟩ := Option.map_eq_some_iff.1 hT.sz
 have e : a.map (fun x => x.add 0) = a := by cases a <;> simp [Addr.add]
 simp [execOp, Instr.sliceAt, Instr.slice, Instr.sliceBounds, Instr.sliceBound, hx, hh, asIntOf, underlying, hT.un, sizeOf, typeInfo, hi0, h0, h1, e]
theorem vG {x : Operand} {T1 : TypeId} {a : Option Addr} {j : Nat} {k : IntKind} {xs : List Int} [Scal P T1] (hx : ev ρ x = .pointer (some (elt a j))) (hs : Rd b S w fun w' => Sl w' a (xs.map (Value.int k)))
  (hj : j < xs.length) (h : RR P S ops K rest (upd ρ d (.int k (xs.getD j 0))) w) : RR P S ops K ((⟨some d, .load T1 x, T, pos, af, none⟩, b) :: rest) ρ w :=
 ir hx (hs.imp fun w' hs => by
  have := hs.get j (by simpa using hj)
  rw [this]
  simp [List.getD_eq_getElem?_getD, hj]) h
theorem bI {x : Operand} {T1 : TypeId} {a : Option Addr} {j : Nat} {k : IntKind} {xs : List Nat} [Scal P T1] (hx : ev ρ x = .pointer (some (elt a j))) (hs : Rd b S w fun w' => Sl w' a (xs.map fun (n : Nat) => Value.int k n))
  (hj : j < xs.length) (h : RR P S ops K rest (upd ρ d (.int k ((xs.getD j 0 : Nat) : Int))) w) : RR P S ops K ((⟨some d, .load T1 x, T, pos, af, none⟩, b) :: rest) ρ w :=
 ir hx (hs.imp fun w' hs => by
  have := hs.get j (by simpa using hj)
  rw [this]
  simp [List.getD_eq_getElem?_getD, hj]) h
theorem aP {x : Operand} {T1 : TypeId} {g j Tb : Nat} {v : Value} {cs : List Value} [Scal P T1] (hx : ev ρ x = .pointer (some ⟨g, j, none⟩)) (hb : Rd b S w fun w' => Blk w' g Tb cs) (hv : cs[j]? = some v)
  (h : RR P S ops K rest (upd ρ d v) w) : RR P S ops K ((⟨some d, .load T1 x, T, pos, af, none⟩, b) :: rest) ρ w :=
 ir hx (hb.imp fun w' hb => by
  have hj : j < cs.length := (List.getElem?_eq_some_iff.1 hv).1
  rw [hb.cell hj, List.getD_eq_getElem?_getD, hv]; rfl) h
theorem aY {x : Operand} {T1 : TypeId} {n g Tb : Nat} {cs : List Value} [Agg P T1 n] (hx : ev ρ x = .pointer (some ⟨g, 0, none⟩)) (hb : Rd b S w fun w' => Blk w' g Tb cs) (hl : cs.length = n)
  (h : RR P S ops K rest (upd ρ d (.agg cs.toArray)) w) : RR P S ops K ((⟨some d, .load T1 x, T, pos, af, none⟩, b) :: rest) ρ w :=
 kW hx hl (hb.imp fun w' hb j hj => by simpa using hb.cell hj) h
theorem cD {x y : Operand} {T1 : TypeId} {g o Tb : Nat} {v : Value} {cs : List Value} [hT : Scal P T1] (hx : ev ρ x = .pointer (some ⟨g, o, none⟩)) (hy : nv (ev ρ y) = some v) (hv : v.oneCell' = true)
  (hb : Blk w g Tb cs) (ho : Nat.blt o cs.length = true) (h : ∀ w', Chg g w w' → Blk w' g Tb (cs.set o v) → (kf = true → S w → S w') ∧ RR P S ops K rest ρ w') :
  RR P S ops K ((⟨none, .store T1 x y, T, pos, af, none⟩, some kf) :: rest) ρ w :=
 oa hx (by rw [ky] at hy; exact Option.some.inj hy) hv hb (by simpa [Nat.blt_eq] using ho) h
structure SD where
 a : Option Addr
 len : Nat
 cap : Nat
def SD.val (s : SD) : Value := .slice s.a s.len s.cap
abbrev sd0 : SD := ⟨none, 0, 0⟩
section
variable {w w' : World} {lo T2 T1 c : Nat} {k : IntKind} {b : Option Addr} {sds : List SD} {xss : List (List Int)}
end
theorem vI {T1 E y n : Nat} {x1 x2 : Operand} [hT : Slc P T1 E 1 y] [hz : Zro P E (.slice none 0 0)] (h1 : ev ρ x1 = .int .i64 n) (h2 : ev ρ x2 = .int .i64 n) (hb : y * n ≤ 281474976710656) (hm : n ≤ 9223372036854775807)
  (h : ∀ g w', New w w' g E ((List.replicate n sd0).map SD.val) → (kf = true → S w → S w') ∧ RR P S ops K rest (upd ρ d (.slice (some ⟨g, 0, none⟩) n n)) w') :
  RR P S ops K ((⟨some d, .makeSlice T1 x1 x2, T, pos, af, none⟩, some kf) :: rest) ρ w :=
 kY rfl h1 h2 hb hm (by simpa [SD.val] using h)
theorem d4 {x y : Operand} {T1 : TypeId} {g j Tb : Nat} {k : IntKind} {u : Nat} {xs : List Nat} [hT : Scal P T1] (hx : ev ρ x = .pointer (some (elt (some ⟨g, 0, none⟩) j))) (hy : ev ρ y = .int k (u : Int))
  (hb : Blk w g Tb (xs.map fun (n : Nat) => Value.int k n)) (ho : j < xs.length) (h : ∀ w', Chg g w w' → Blk w' g Tb ((xs.set j u).map fun (n : Nat) => Value.int k n) → (kf = true → S w → S w') ∧ RR P S ops K rest ρ w') :
  RR P S ops K ((⟨none, .store T1 x y, T, pos, af, none⟩, some kf) :: rest) ρ w :=
 fy hx hy rfl hb (by simpa using ho) (by rw [List.map_set] at h; exact h)
theorem az {x ix : Operand} {a : Option Addr} {l c E y j : Nat} {k : IntKind} [hT : Slc P T' E 1 y] (hx : ev ρ x = .slice a l c) (hi : ev ρ ix = .int k (j : Int)) (ha : W.plain a)
  (h2 : j < l) (h : RR P S ops K rest (upd ρ d (.pointer (some (elt a j)))) w) :
  RR P S ops K ((⟨some d, .indexAddr T' x ix, T, pos, af, none⟩, b) :: rest) ρ w :=
 iq hx hi ha (by omega) (by omega) (by simpa using h)
variable {fn : Func} {R : Value → World → Prop}
theorem rt {t : Nat} {v : Value} (h : ρ t = v) : ResV P w ρ (.tmp t) v := h
theorem rc {t T1 n g Tb : Nat} {vs : List Value} [Agg P T1 n] (hp : ρ t = .pointer (some ⟨g, 0, none⟩)) (hl : vs.length = n) (hb : Blk w g Tb vs) : ResV P w ρ (.cell t T1) (.agg vs.toArray) := by
 unfold ResV
 simp only [hp, asAddr]
 have := jB (P := P) (T := T1) (w := w) (b := g) (off := 0) hl (fun j hj => by simpa using hb.cell hj)
 simpa using this
theorem aak (h : fn.results = #[]) (hR : R (.tuple #[]) w) : fnPost P fn R .ret ρ w := yH h hR
theorem bo {r : ResultVar} {v : Value} (h : fn.results = #[r]) (hv : ResV P w ρ r v) (hR : R v w) : fnPost P fn R .ret ρ w := aaf h hv hR
theorem dw {r1 r2 : ResultVar} {v1 v2 : Value} (h : fn.results = #[r1, r2]) (h1 : ResV P w ρ r1 v1) (h2 : ResV P w ρ r2 v2) (hR : R (.tuple #[v1, v2]) w) : fnPost P fn R .ret ρ w := aag h h1 h2 hR
theorem eJ {r1 r2 r3 : ResultVar} {v1 v2 v3 : Value} (h : fn.results = #[r1, r2, r3]) (h1 : ResV P w ρ r1 v1) (h2 : ResV P w ρ r2 v2) (h3 : ResV P w ρ r3 v3) (hR : R (.tuple #[v1, v2, v3]) w) : fnPost P fn R .ret ρ w := aah h h1 h2 h3 hR
theorem tJ (h : fn.results = #[]) (hR : R (.tuple #[]) w) : fnPost P fn R .normal ρ w := yH h hR
end
end Go.W
