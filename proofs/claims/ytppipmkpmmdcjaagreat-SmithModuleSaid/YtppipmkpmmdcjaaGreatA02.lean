import Derived.Test.YtppipmkpmmdcjaaGreatProg
import Derived.Test.YtppipmkpmmdcjaaGreatA01
namespace Go.W
open Go.RowKit (Below)
abbrev Ex (w w' : World) : Prop := Below w.heap.size w w'
theorem Ex.refl (w : World) : Ex w w := Below.refl _ _
theorem Ex.trans {w w1 w2 : World} (h : Ex w w1) (k : Ex w1 w2) : Ex w w2 := Below.trans h (Below.mono k h.size)
theorem Ex.drew {w w1 : World} (h : Ex w w1) : Ex w w1.drew := Below.drew h
structure Chg (g : Nat) (w w' : World) : Prop where
 os : w'.os = w.os
 tape : w'.tape = w.tape
 output : w'.output = w.output
 size : w'.heap.size = w.heap.size
 block : ∀ k, k ≠ g → w'.heap[k]? = w.heap[k]?
theorem Chg.refl (g : Nat) (w : World) : Chg g w w := ⟨rfl, rfl, rfl, rfl, fun _ _ => rfl⟩
theorem Chg.drew {g : Nat} {w w' : World} (h : Chg g w w') : Chg g w w'.drew := ⟨h.os, h.tape, h.output, h.size, h.block⟩
theorem Chg.trans {g : Nat} {w w1 w2 : World} (h : Chg g w w1) (k : Chg g w1 w2) : Chg g w w2 :=
 ⟨k.os.trans h.os, k.tape.trans h.tape, k.output.trans h.output, k.size.trans h.size, fun i hi => (k.block i hi).trans (h.block i hi)⟩
theorem Ex.chg {w w1 w2 : World} {g : Nat} (h : Ex w w1) (c : Chg g w1 w2) (hg : w.heap.size ≤ g) : Ex w w2 :=
 Below.trans h ⟨c.os, c.tape, c.output, Nat.le_of_eq c.size.symm, fun k hk => c.block k (by omega)⟩
theorem Ex.alloc (w : World) (o : Obj) : Ex w (w.alloc o) := Below.alloc (Below.refl _ _) (Nat.le_refl _) o
def Blk (w : World) (g T : Nat) (cs : List Value) : Prop := w.heap[g]? = some (.cells cs.toArray T (0, 0))
theorem Blk.lt {w : World} {g T : Nat} {cs : List Value} (h : Blk w g T cs) : g < w.heap.size := (Array.getElem?_eq_some_iff.1 h).1
theorem Blk.ext {w w' : World} {g T : Nat} {cs : List Value} (h : Blk w g T cs) (e : Ex w w') : Blk w' g T cs := (e.block g h.lt).trans h
theorem Blk.chg {w w' : World} {g g' T : Nat} {cs : List Value} (h : Blk w g T cs) (c : Chg g' w w') (hne : g ≠ g') : Blk w' g T cs := (c.block g hne).trans h
theorem Blk.drew {w : World} {g T : Nat} {cs : List Value} (h : Blk w g T cs) : Blk w.drew g T cs := h
theorem Blk.cell {w : World} {g T : Nat} {cs : List Value} (h : Blk w g T cs) {j : Nat} (hj : j < cs.length) : w.cell? ⟨g, j, none⟩ = some (cs.getD j undef) := by
 unfold Blk at h
 simp [World.cell?, h, hj]
structure New (w w' : World) (g T : Nat) (cs : List Value) : Prop where
 ex : Ex w w'
 lo : w.heap.size ≤ g
 hi : g < w'.heap.size
 blk : Blk w' g T cs
theorem New.of_alloc (w : World) (T : Nat) (cs : List Value) : New w (w.alloc (.cells cs.toArray T)) w.heap.size T cs :=
 ⟨Ex.alloc w _, Nat.le_refl _, by simp, heap_alloc_new w _⟩
theorem dR {w : World} {g T : Nat} {cs cs' : List Value} (h : Blk w g T cs) : Chg g w (w.setRow g cs'.toArray) ∧ Blk (w.setRow g cs'.toArray) g T cs' :=
 ⟨⟨rfl, rfl, rfl, by simp, fun k hk => setRow_other w g k _ hk⟩, setRow_heap w g _ _ T _ h⟩
structure Sl (w : World) (a : Option Addr) (vs : List Value) : Prop where
 ok : vs ≠ [] → plain a
 get : ∀ j, j < vs.length → w.cell? (elt a j) = some (vs.getD j undef)
theorem Sl.nil (w : World) (a : Option Addr) : Sl w a [] := ⟨fun h => absurd rfl h, fun j hj => absurd hj (by simp)⟩
theorem Sl.plain {w : World} {a : Option Addr} {vs : List Value} (h : Sl w a vs) (hl : 0 < vs.length) : W.plain a := h.ok (by intro e; subst e; simp at hl)
theorem Sl.ext {w w' : World} {a : Option Addr} {vs : List Value} (h : Sl w a vs) (e : Ex w w') : Sl w' a vs :=
 ⟨h.ok, fun j hj => by rw [World.cell?_of_block (w := w) (e.block _ (World.block_lt_of_cell? w _ (h.get j hj)))]; exact h.get j hj⟩
theorem Sl.chg {w w' : World} {a : Option Addr} {vs : List Value} {g : Nat} (h : Sl w a vs) (c : Chg g w w') (hne : ∀ ad, a = some ad → ad.block ≠ g) : Sl w' a vs := by
 refine ⟨h.ok, fun j hj => ?_⟩
 obtain ⟨b, o, rfl⟩ := h.plain (by omega)
 rw [World.cell?_of_block (w := w) (a := elt (some ⟨b, o, none⟩) j) (c.block b (hne _ rfl))]; exact h.get j hj
theorem Sl.drew {w : World} {a : Option Addr} {vs : List Value} (h : Sl w a vs) : Sl w.drew a vs := ⟨h.ok, h.get⟩
theorem Sl.lt {w : World} {a : Option Addr} {vs : List Value} (h : Sl w a vs) (hl : 0 < vs.length) : ∀ ad, a = some ad → ad.block < w.heap.size := by
 intro ad e
 have := World.block_lt_of_cell? w _ (h.get 0 hl)
 subst e
 exact this
theorem Blk.sl {w : World} {g T : Nat} {cs : List Value} (h : Blk w g T cs) : Sl w (some ⟨g, 0, none⟩) cs :=
 ⟨fun _ => ⟨g, 0, rfl⟩, fun j hj => by simp only [elt, Nat.zero_add]; exact h.cell hj⟩
theorem Sl.take {w : World} {a : Option Addr} {vs : List Value} (h : Sl w a vs) (n : Nat) : Sl w a (vs.take n) :=
 ⟨fun hne => h.ok (by intro e; subst e; simp at hne), fun j hj => by
  simp only [List.length_take] at hj
  rw [h.get j (by omega), List.getD_eq_getElem?_getD, List.getD_eq_getElem?_getD, List.getElem?_take, if_pos (by omega)]⟩
abbrev Own (w : World) (lo T s : Nat) (a : Option Addr) (n cap : Nat) (vs : List Value) : Prop := w.ownsRow lo T s (.slice a n cap) n vs
theorem Own.sl {w : World} {lo T s n cap : Nat} {a : Option Addr} {vs : List Value} (h : Own w lo T s a n cap vs) : Sl w a vs := by
 rcases h.2 with ⟨hv, hn⟩ | ⟨g, c, cur, hv, hg, hb, h1, h2, h3, h4⟩
 ·have : vs = [] := List.eq_nil_of_length_eq_zero (by rw [h.1, hn]; simp)
  subst this
  exact Sl.nil _ _
 ·simp only [Value.slice.injEq] at hv
  obtain ⟨rfl, _, rfl⟩ := hv
  have : Sl w (some ⟨g, 0, none⟩) cur.toList := Blk.sl (T := T) (by unfold Blk; simpa using hb)
  rw [← h4]
  exact this.take _
theorem Own.ext {w w' : World} {lo T s n cap : Nat} {a : Option Addr} {vs : List Value} (h : Own w lo T s a n cap vs) (e : Ex w w') : Own w' lo T s a n cap vs := by
 refine ⟨h.1, ?_⟩
 rcases h.2 with hn | ⟨g, c, cur, hv, hg, hb, r⟩
 ·exact .inl hn
 ·exact .inr ⟨g, c, cur, hv, hg, (e.block g (Array.getElem?_eq_some_iff.1 hb).1).trans hb, r⟩
theorem Own.nil (w : World) (lo T s : Nat) : Own w lo T s none 0 0 [] := World.ownsRow_nil w lo T s
theorem Own.lo {w : World} {lo T s n cap : Nat} {a : Option Addr} {vs : List Value} (h : Own w lo T s a n cap vs) : ∀ ad, a = some ad → lo ≤ ad.block ∧ ad.block < w.heap.size := by
 intro ad e
 subst e
 exact World.ownsRow.lt h _ rfl
theorem Blk.own {w : World} {g T s n lo : Nat} {cs : List Value} (h : Blk w g T cs) (hl : cs.length = n * s) (hm : n ≤ maxLen) (hlo : lo ≤ g) : Own w lo T s (some ⟨g, 0, none⟩) n n cs :=
 ⟨hl, .inr ⟨g, n, cs.toArray, rfl, hlo, h, Nat.le_refl _, hm, by simpa using hl, by rw [← hl]; simp⟩⟩
theorem iP {w w' : World} {a : Option Addr} {n cap : Nat} (h : w.grownBy w' (Value.slice a n cap).ownBlock) {w0 : World} (e : Ex w0 w) (hlo : ∀ ad, a = some ad → w0.heap.size ≤ ad.block) : Ex w0 w' :=
 Below.trans e ⟨h.os, h.tape, h.output, h.size, fun k hk => h.block k (by have := e.size; omega) (fun e2 => by
  cases a with
  | none => simp [Value.ownBlock] at e2
  | some ad => simp only [Value.ownBlock, Option.some.injEq] at e2; have := hlo ad rfl; omega)⟩
theorem lA {w w' : World} (h : Ex w w') : w.grownBy w' none := ⟨h.os, h.tape, h.output, h.size, fun k hk _ => h.block k hk⟩
theorem bG {w w' : World} {g : Nat} (h : Chg g w w') : w.grownBy w' (some g) := ⟨h.os, h.tape, h.output, Nat.le_of_eq h.size.symm, fun k _ hk => h.block k (fun e => hk (by rw [e]))⟩
theorem pQ {w w' : World} {r : Option Nat} (h : w.grownBy w' r) : w.grownBy w'.drew r := ⟨h.os, h.tape, h.output, h.size, h.block⟩
theorem Ex.gb {w0 w w' : World} {r : Option Nat} (e : Ex w0 w) (h : w.grownBy w' r) (hr : ∀ k, r = some k → w0.heap.size ≤ k) : Ex w0 w' :=
 Below.trans e ⟨h.os, h.tape, h.output, h.size, fun k hk => h.block k (by have := e.size; omega) (fun e2 => by have := hr k e2.symm; omega)⟩
theorem bL {w w1 w2 : World} {r r' : Option Nat} (h1 : w.grownBy w1 r) (h2 : w1.grownBy w2 r') (hr : ∀ k, r' = some k → r = some k ∨ w.heap.size ≤ k) : w.grownBy w2 r :=
 ⟨h2.os.trans h1.os, h2.tape.trans h1.tape, h2.output.trans h1.output, Nat.le_trans h1.size h2.size, fun k hk hne =>
  (h2.block k (by have := h1.size; omega) (fun e => by rcases hr k e.symm with h | h; exact hne h.symm; omega)).trans (h1.block k hk hne)⟩
theorem Blk.gb {w w' : World} {g T : Nat} {cs : List Value} {r : Option Nat} (h : Blk w g T cs) (hg : w.grownBy w' r) (hne : r ≠ some g) : Blk w' g T cs := (hg.block g h.lt (Ne.symm hne)).trans h
theorem Sl.gb {w w' : World} {a : Option Addr} {vs : List Value} {r : Option Nat} (h : Sl w a vs) (hg : w.grownBy w' r) (hne : ∀ ad, a = some ad → r ≠ some ad.block) : Sl w' a vs := by
 refine ⟨h.ok, fun j hj => ?_⟩
 have hc := h.get j hj
 obtain ⟨g, o, rfl⟩ := h.plain (by omega)
 rw [World.cell?_of_block (w := w) (a := elt (some ⟨g, o, none⟩) j) (hg.block g (World.block_lt_of_cell? w _ hc) (fun e => hne _ rfl e.symm))]
 exact hc
theorem mM {α : Type} {f : α → Value} (h : ∀ x, (f x).oneCell' = true) (xs : List α) : (xs.map f).all Value.oneCell' = true := by
 rw [List.all_eq_true]; intro v hv; obtain ⟨x, _, rfl⟩ := List.mem_map.1 hv; exact h x
class Str (P : Program) (T : TypeId) (pl : outParam (List (Nat × Nat))) : Prop where
 ok : (match P.underlying T with | some (.struct fs) => some (fs.toList.map fun f => (f.offset, (P.info? f.type).map (·.size))) | _ => none) = some (pl.map fun p => (p.1, some p.2))
class Fun (P : Program) (f : Nat) : Prop where
 ok : (match P.funcs[f]? with | some fn => fn.name != "runtime.NumGoroutine" && fn.body.isSome | none => false) = true
section
variable {P : Program} {S : World → Prop} {ops : List Oper} {K : Env → World → Prop} {rest : List (Oper × Option Bool)} {ρ : Env} {w : World} {b : Option Bool} {kf : Bool} {d : Nat} {dst : Option Nat} {T T' : TypeId} {pos : String} {af : Array Edge}
theorem iQ {f : Nat} [hf : Fun P f] (args : Array Value) : (callFunc f args).run P w = .ok (.enter f args) w := by
 have h := hf.ok
 unfold callFunc
 cases hfn : P.funcs[f]? with
 | none => simp [hfn] at h
 | some fn =>
  simp only [hfn, Bool.and_eq_true, bne_iff_ne, ne_eq] at h
  have h2 : fn.body ≠ none := by intro hb; rw [hb] at h; simp at h
  simp [hfn, h.1, h2]
theorem av {f : Nat} {l : List Operand} {ts : Array TypeId} [Fun P f] {args : Array Value} {R : Value → World → Prop} (hc : CallsR P f args w R) (ha : (l.map (ev ρ)).toArray = args)
  (h : ∀ v w', R v w' → (kf = true → S w → S w') ∧ RR P S ops K rest (updO ρ dst v) w') :
  RR P S ops K ((⟨dst, .call ⟨.value (.func f), l.toArray, ts⟩, T, pos, af, none⟩, some kf) :: rest) ρ w := by
 subst ha
 refine dA rfl ?_
 unfold OpW
 have : (execOp (ev ρ) ⟨dst, .call ⟨.value (.func f), l.toArray, ts⟩, T, pos, af, none⟩).run P w = .ok (.enter f (l.map (ev ρ)).toArray) w := by
  simp [execOp, resolve, Deferred.ofValue, ev, invoke, iQ]
 rw [this]
 exact hc.mono h
theorem iR {fn : Fn} {l1 l2 : List Operand} (h : RR P S ops K rest (upd ρ d (.func fn (l1.map (ev ρ)).toArray (l2.map (ev ρ)).toArray)) w) :
  RR P S ops K ((⟨some d, .makeFunc fn l1.toArray l2.toArray, T, pos, af, none⟩, b) :: rest) ρ w :=
 cg rfl (fun w' => by simp [execOp, Instr.makeFunc]) h
theorem ta {f : Nat} {x : Operand} {first cap : Array Value} {l : List Operand} {ts : Array TypeId} [Fun P f] {args : Array Value} {R : Value → World → Prop} (hx : ev ρ x = .func (.func f) first cap)
  (hc : CallsR P f args w R) (ha : first ++ (l.map (ev ρ)).toArray ++ cap = args)
  (h : ∀ v w', R v w' → (kf = true → S w → S w') ∧ RR P S ops K rest (updO ρ dst v) w') :
  RR P S ops K ((⟨dst, .call ⟨.value x, l.toArray, ts⟩, T, pos, af, none⟩, some kf) :: rest) ρ w := by
 subst ha
 refine dA rfl ?_
 unfold OpW
 have : (execOp (ev ρ) ⟨dst, .call ⟨.value x, l.toArray, ts⟩, T, pos, af, none⟩).run P w = .ok (.enter f (first ++ (l.map (ev ρ)).toArray ++ cap)) w := by
  simp [execOp, resolve, Deferred.ofValue, hx, invoke, iQ]
 rw [this]
 exact hc.mono h
theorem iS {T1 : TypeId} {n g o Tb : Nat} {v : Value} {cs : List Value} (hsz : (P.info? T1).map (·.size) = some n) (hn : v.cells.size = n) (h1 : ∀ u ∈ v.cells.toList, u.oneCell' = true)
  (hb : Blk w g Tb cs) (ho : o + n ≤ cs.length) :
  (storeVar T1 ⟨g, o, none⟩ v).run P w = .ok () (w.setRow g (cs.take o ++ v.cells.toList ++ cs.drop (o + n)).toArray) := by
 unfold storeVar
 rw [Sem.run_bind_ok (fJ hsz)]
 have hst := run_storeCells_at P g o Tb v.cells.toList 0 cs.toArray w hb (by simp; omega) h1
 simp [hn] at hst ⊢
 exact hst
theorem mN {x y : Operand} {T1 : TypeId} {g o Tb : Nat} {v : Value} {cs : List Value} [hT : Scal P T1] (hx : ev ρ x = .pointer (some ⟨g, o, none⟩)) (hy : ev ρ y = v) (hv : v.oneCell' = true)
  (hb : Blk w g Tb cs) (ho : o < cs.length) (h : ∀ w', Chg g w w' → Blk w' g Tb (cs.set o v) → (kf = true → S w → S w') ∧ RR P S ops K rest ρ w') :
  RR P S ops K ((⟨none, .store T1 x y, T, pos, af, none⟩, some kf) :: rest) ρ w := by
 refine dA rfl ?_
 unfold OpW
 have hcells : v.cells = #[v] := by cases v <;> simp [Value.oneCell'] at hv <;> rfl
 have hr := iS (P := P) (w := w) (T1 := T1) (v := v) (o := o) (n := 1) hT.sz (by simp [hcells]) (by simp [hcells, hv]) hb (by omega)
 have e : cs.take o ++ v.cells.toList ++ cs.drop (o + 1) = cs.set o v := by
  rw [List.set_eq_take_append_cons_drop, if_pos ho]; simp [hcells]
 rw [e] at hr
 have : (execOp (ev ρ) ⟨none, .store T1 x y, T, pos, af, none⟩).run P w = .ok .skip (w.setRow g (cs.set o v).toArray) := by
  simp [execOp, Instr.storeAt, hx, hy, Instr.sureAddr, hr]
 rw [this]
 exact h _ (dR hb).1 (dR hb).2
theorem eY {x y : Operand} {T1 : TypeId} {g j Tb : Nat} {v : Value} {cs : List Value} [hT : Scal P T1] (hx : ev ρ x = .pointer (some (elt (some ⟨g, 0, none⟩) j))) (hy : ev ρ y = v) (hv : v.oneCell' = true)
  (hb : Blk w g Tb cs) (ho : j < cs.length) (h : ∀ w', Chg g w w' → Blk w' g Tb (cs.set j v) → (kf = true → S w → S w') ∧ RR P S ops K rest ρ w') :
  RR P S ops K ((⟨none, .store T1 x y, T, pos, af, none⟩, some kf) :: rest) ρ w :=
 mN (o := j) (by rw [hx]; simp [elt]) hy hv hb ho h
theorem nF {x y : Operand} {T1 : TypeId} {n g o Tb : Nat} {vs cs : List Value} [hT : Agg P T1 n] (hx : ev ρ x = .pointer (some ⟨g, o, none⟩)) (hy : ev ρ y = .agg vs.toArray) (hl : vs.length = n)
  (h1 : vs.all Value.oneCell' = true) (hb : Blk w g Tb cs) (ho : o + n ≤ cs.length)
  (h : ∀ w', Chg g w w' → Blk w' g Tb (cs.take o ++ vs ++ cs.drop (o + n)) → (kf = true → S w → S w') ∧ RR P S ops K rest ρ w') :
  RR P S ops K ((⟨none, .store T1 x y, T, pos, af, none⟩, some kf) :: rest) ρ w := by
 refine dA rfl ?_
 unfold OpW
 have hr := iS (P := P) (w := w) (T1 := T1) (v := .agg vs.toArray) (o := o) (n := n) hT.sz (by simpa [Value.cells] using hl) (by simpa [Value.cells] using h1) hb ho
 have : (execOp (ev ρ) ⟨none, .store T1 x y, T, pos, af, none⟩).run P w = .ok .skip (w.setRow g (cs.take o ++ vs ++ cs.drop (o + n)).toArray) := by
  simp only [execOp, Instr.storeAt, hx, hy, Instr.sureAddr]
  simp [Value.cells] at hr
  simp [hr]
 rw [this]
 exact h _ (dR hb).1 (dR hb).2
theorem ax {x y : Operand} {T1 : TypeId} {n g Tb : Nat} {vs cs : List Value} [hT : Agg P T1 n] (hx : ev ρ x = .pointer (some ⟨g, 0, none⟩)) (hy : ev ρ y = .agg vs.toArray) (hl : vs.length = n)
  (h1 : vs.all Value.oneCell' = true) (hb : Blk w g Tb cs) (ho : cs.length = n)
  (h : ∀ w', Chg g w w' → Blk w' g Tb vs → (kf = true → S w → S w') ∧ RR P S ops K rest ρ w') :
  RR P S ops K ((⟨none, .store T1 x y, T, pos, af, none⟩, some kf) :: rest) ρ w :=
 nF hx hy hl h1 hb (by omega) (by
  have e : cs.take 0 ++ vs ++ cs.drop (0 + n) = vs := by rw [Nat.zero_add, ← ho]; simp
  rw [e]; exact h)
theorem aB {T1 : TypeId} {z : Value} [Zro P T1 z] (h : ∀ g w', New w w' g T1 z.cells.toList → (kf = true → S w → S w') ∧ RR P S ops K rest (upd ρ d (.pointer (some ⟨g, 0, none⟩))) w') :
  RR P S ops K ((⟨some d, .alloc T1, T, pos, af, none⟩, some kf) :: rest) ρ w := by
 refine dA rfl ?_
 unfold OpW
 have hz := gB (P := P) (w := w) (T := T1) (v := z)
 have : (execOp (ev ρ) ⟨some d, .alloc T1, T, pos, af, none⟩).run P w = .ok (.value (.pointer (some ⟨w.heap.size, 0, none⟩))) (w.alloc (.cells z.cells T1)) := by
  simp [execOp, Instr.alloc, hz, newVar, newRow]
 rw [this]
 exact h _ _ (by have := New.of_alloc w T1 z.cells.toList; simpa using this)
theorem uf {x : Operand} {T1 : TypeId} {v : Value} (hx : ev ρ x = v) (h : ∀ g w', New w w' g T1 v.cells.toList → (kf = true → S w → S w') ∧ RR P S ops K rest (upd ρ d (.pointer (some ⟨g, 0, none⟩))) w') :
  RR P S ops K ((⟨some d, .box T1 x, T, pos, af, none⟩, some kf) :: rest) ρ w := by
 refine dA rfl ?_
 unfold OpW
 have : (execOp (ev ρ) ⟨some d, .box T1 x, T, pos, af, none⟩).run P w = .ok (.value (.pointer (some ⟨w.heap.size, 0, none⟩))) (w.alloc (.cells v.cells T1)) := by
  simp [execOp, Instr.box, hx, newVar, newRow]
 rw [this]
 exact h _ _ (by have := New.of_alloc w T1 v.cells.toList; simpa using this)
theorem bH {x : Operand} {T1 : TypeId} {vs : List Value} (hx : ev ρ x = .agg vs.toArray) (h : ∀ g w', New w w' g T1 vs → (kf = true → S w → S w') ∧ RR P S ops K rest (upd ρ d (.pointer (some ⟨g, 0, none⟩))) w') :
  RR P S ops K ((⟨some d, .box T1 x, T, pos, af, none⟩, some kf) :: rest) ρ w := uf hx h
theorem kp {x : Operand} {T1 : TypeId} {v : Value} (hx : ev ρ x = v) (h1 : v.oneCell' = true) (h : ∀ g w', New w w' g T1 [v] → (kf = true → S w → S w') ∧ RR P S ops K rest (upd ρ d (.pointer (some ⟨g, 0, none⟩))) w') :
  RR P S ops K ((⟨some d, .box T1 x, T, pos, af, none⟩, some kf) :: rest) ρ w :=
 uf hx (by
  have hcells : v.cells = #[v] := by cases v <;> simp [Value.oneCell'] at h1 <;> rfl
  rw [hcells]; exact h)
theorem kq (w : World) : ∀ (fs : List Field) (pl : List (Nat × Nat)), (fs.map fun f => (f.offset, (P.info? f.type).map (·.size))) = (pl.map fun p => (p.1, some p.2)) →
  (fs.mapM fun f => do pure (f.offset, ← sizeOf f.type) : Sem (List (Nat × Nat))).run P w = .ok pl w
 | [], [], _ => rfl
 | [], _ :: _, h => by simp at h
 | _ :: _, [], h => by simp at h
 | f :: fs, p :: pl, h => by
  simp only [List.map_cons, List.cons.injEq, Prod.mk.injEq] at h
  have h1 := fJ (P := P) (w := w) h.1.2
  have h2 := kq w fs pl h.2
  simp only [List.mapM_cons]
  rw [Sem.run_bind_ok (Sem.run_bind_ok h1 : _ = Result.ok (f.offset, p.2) w), Sem.run_bind_ok h2, h.1.1]
  rfl
theorem cL {T1 : TypeId} {pl : List (Nat × Nat)} {l : List (Nat × Operand)} {z : Value} {cs : List Value} [hT : Str P T1 pl] [Zro P T1 z]
  (hc : Instr.fill (fun i => pl[i]?) z.cells (l.map fun p => (p.1, ev ρ p.2)) = some cs.toArray) (h : RR P S ops K rest (upd ρ d (.agg cs.toArray)) w) :
  RR P S ops K ((⟨some d, .build T1 l.toArray, T, pos, af, none⟩, b) :: rest) ρ w := by
 refine cg rfl (fun w' => ?_) h
 have hok := hT.ok
 split at hok
 ·rename_i fs hfs
  have hr := kq (P := P) w' fs.toList pl (Option.some.inj hok)
  have hz := gB (P := P) (w := w') (T := T1) (v := z)
  have hm : (fs.mapM fun f => do pure (f.offset, ← sizeOf f.type) : Sem (Array (Nat × Nat))).run P w' = .ok pl.toArray w' := by
   rw [Array.mapM_eq_mapM_toList]
   simp only [map_eq_pure_bind]
   rw [Sem.run_bind_ok hr]; rfl
  simp only [execOp, Instr.build]
  rw [Sem.run_bind_ok (v := .agg cs.toArray) (w' := w')]
  ·rfl
  ·rw [Sem.run_bind_ok hz]
   simp only [underlying]
   simp [hfs]
   simp at hm hc
   simp [hm, hc]
 ·cases hok
theorem fL {T1 E s y n : Nat} {ps : Array (Nat × Operand)} {z : Value} {cs : Array Value} [hT : Slc P T1 E s y] [Zro P E z] (hs : Nat.ble (n * s) 16777216 = true)
  (hc : Instr.fill (fun i => some (i * s, s)) ((Array.range (n * s)).map (z.cells[· % z.cells.size]!)) (ps.map fun (i, x) => (i, ev ρ x)).toList = some cs)
  (h : ∀ g w', New w w' g E cs.toList → (kf = true → S w → S w') ∧ RR P S ops K rest (upd ρ d (.slice (some ⟨g, 0, none⟩) n n)) w') :
  RR P S ops K ((⟨some d, .buildSlice T1 n ps, T, pos, af, none⟩, some kf) :: rest) ρ w := by
 refine dA rfl ?_
 unfold OpW
 have hz := gB (P := P) (w := w) (T := E) (v := z)
 obtain ⟨i0, hi0, hzz⟩ := Option.map_eq_some_iff.1 hT.sz
 simp only [Prod.mk.injEq] at hzz
 have hs' : ¬ n * s > 16777216 := by have := Nat.le_of_ble_eq_true hs; omega
 have : (execOp (ev ρ) ⟨some d, .buildSlice T1 n ps, T, pos, af, none⟩).run P w = .ok (.value (.slice (some ⟨w.heap.size, 0, none⟩) n n)) (w.alloc (.cells cs E)) := by
  simp only [execOp, Instr.buildSlice]
  have hu := run_underlying (P := P) (t := T1) hT.un w
  have hsz : (sizeOf E).run P w = .ok s w := fJ (by rw [hi0]; simp [hzz.1])
  by_cases h0 : n * s = 0
  ·have e0 : (Array.range (n * s)).map (z.cells[· % z.cells.size]!) = (Array.range (n * s)).map ((#[] : Array Value)[· % 0]!) := by rw [h0]; simp
   rw [e0] at hc
   simp [hu, hsz, h0, newRow] at hc ⊢
   simp [hc]
  ·simp [hu, hsz, hs', hz, h0] at hc ⊢
   simp [hc, newRow]
 rw [this]
 exact h _ _ (by have := New.of_alloc w E cs.toList; simpa using this)
theorem rk {T1 E s y n : Nat} {x1 x2 : Operand} {z : Value} [hT : Slc P T1 E s y] [hz : Zro P E z] (h1 : ev ρ x1 = .int .i64 n) (h2 : ev ρ x2 = .int .i64 n) (hb : y * n ≤ 281474976710656) (hm : n ≤ 9223372036854775807)
  (h : ∀ g w', New w w' g E (madeCells z.cells (n * s)).toList → (kf = true → S w → S w') ∧ RR P S ops K rest (upd ρ d (.slice (some ⟨g, 0, none⟩) n n)) w') :
  RR P S ops K ((⟨some d, .makeSlice T1 x1 x2, T, pos, af, none⟩, some kf) :: rest) ρ w := by
 refine dA rfl ?_
 unfold OpW
 obtain ⟨i0, hi0, hzz⟩ := Option.map_eq_some_iff.1 hT.sz
 simp only [Prod.mk.injEq] at hzz
 obtain ⟨i1, hi1, hz1⟩ := Option.map_eq_some_iff.1 hz.ok
 rw [hi0] at hi1
 simp only [Option.some.injEq] at hi1
 subst hi1
 have hr := run_make (P := P) w T1 E i0 z hT.un hi0 hz1 .i64 .i64 n n (by omega) (Int.le_refl _) (by rw [hzz.2, ← Int.natCast_mul]; omega) (by omega)
 simp only [Int.toNat_natCast, hzz.1] at hr
 have : (execOp (ev ρ) ⟨some d, .makeSlice T1 x1 x2, T, pos, af, none⟩).run P w = .ok (.value (.slice (some ⟨w.heap.size, 0, none⟩) n n)) (w.alloc (.cells (madeCells z.cells (n * s)) E)) := by
  simp [execOp, h1, h2, hr]
 rw [this]
 exact h _ _ (by have := New.of_alloc w E (madeCells z.cells (n * s)).toList; simpa using this)
theorem j9 {T1 E y n : Nat} {x1 x2 : Operand} {z : Value} [hT : Slc P T1 E 1 y] [hz : Zro P E z] (hz1 : z.cells = #[z]) (h1 : ev ρ x1 = .int .i64 n) (h2 : ev ρ x2 = .int .i64 n) (hb : y * n ≤ 281474976710656) (hm : n ≤ 9223372036854775807)
  (h : ∀ g w', New w w' g E (List.replicate n z) → (kf = true → S w → S w') ∧ RR P S ops K rest (upd ρ d (.slice (some ⟨g, 0, none⟩) n n)) w') :
  RR P S ops K ((⟨some d, .makeSlice T1 x1 x2, T, pos, af, none⟩, some kf) :: rest) ρ w :=
 rk h1 h2 hb hm (fun g w' hn => h g w' (by rw [hz1, Nat.mul_one, toList_madeCells_one] at hn; exact hn))
theorem td {T1 E y n : Nat} {k : IntKind} {x1 x2 : Operand} [hT : Slc P T1 E 1 y] [hz : Zro P E (.int k 0)] (h1 : ev ρ x1 = .int .i64 n) (h2 : ev ρ x2 = .int .i64 n) (hb : y * n ≤ 281474976710656) (hm : n ≤ 9223372036854775807)
  (h : ∀ g w', New w w' g E ((List.replicate n (0 : Int)).map (Value.int k)) → (kf = true → S w → S w') ∧ RR P S ops K rest (upd ρ d (.slice (some ⟨g, 0, none⟩) n n)) w') :
  RR P S ops K ((⟨some d, .makeSlice T1 x1 x2, T, pos, af, none⟩, some kf) :: rest) ρ w :=
 j9 rfl h1 h2 hb hm (by simpa using h)
theorem eM {T1 E y n : Nat} {k : IntKind} {x1 x2 : Operand} [hT : Slc P T1 E 1 y] [hz : Zro P E (.int k 0)] (h1 : ev ρ x1 = .int .i64 n) (h2 : ev ρ x2 = .int .i64 n) (hb : y * n ≤ 281474976710656) (hm : n ≤ 9223372036854775807)
  (h : ∀ g w', New w w' g E ((List.replicate n (0 : Nat)).map fun (m : Nat) => Value.int k m) → (kf = true → S w → S w') ∧ RR P S ops K rest (upd ρ d (.slice (some ⟨g, 0, none⟩) n n)) w') :
  RR P S ops K ((⟨some d, .makeSlice T1 x1 x2, T, pos, af, none⟩, some kf) :: rest) ρ w :=
 j9 rfl h1 h2 hb hm (by simpa using h)
theorem mO {T1 E s y n cap m c lo : Nat} {i0 : TypeInfo} {z v' : Value} {w' : World} {a : Option Addr} {ad : Addr} {vs news : List Value} (ht : P.underlying T1 = some (.slice E)) (hi : P.info? E = some i0) (hz : i0.zero = some z)
  (hsz : i0.size = s) (hby : i0.bytes = y) (hown : Own w lo E s a n cap vs) (hl : news.length = m * s) (hnews : ∀ j u, news[j]? = some u → w.cell? (ad.add j) = some u) (ho : ∀ u ∈ news, u.oneCell' = true)
  (hm : n + m ≤ 9223372036854775807) (hb : (n + m) * y ≤ 140737488355328)
  (hr : (Builtin.append_ #[T1, T1] T #[.slice a n cap, .slice (some ad) m c]).run P w = .ok v' w') : ∀ a' n' cap', v' = .slice a' n' cap' → a' = a ∨ ∀ x, a' = some x → w.heap.size ≤ x.block := by
 subst hsz hby
 intro a' n' cap' hv'
 subst hv'
 rcases hown.2 with ⟨hv, hn⟩ | ⟨g, cap2, cur, hv, hbg, hg, hnc, hcm, hcs, htake⟩
 ·simp only [Value.slice.injEq] at hv
  obtain ⟨rfl, rfl, rfl⟩ := hv
  by_cases hm0 : m = 0
  ·subst hm0
   simp [Builtin.append_, run_underlying ht, sizeOf, typeInfo, hi, Builtin.lenOf, Builtin.firstCells, loadCells, loadCellsFrom] at hr
   exact .inl hr.1.1.symm
  ·have := run_append_nil (P := P) w T1 T E i0 z ht hi hz ad m c news hl hnews (by omega) (by omega) (by simp only [Nat.zero_add] at hb; omega)
   rw [this] at hr
   simp only [Result.ok.injEq, Value.slice.injEq] at hr
   right; intro x hx; rw [← hr.1.1] at hx; cases hx; exact Nat.le_refl _
 ·simp only [Value.slice.injEq] at hv
  obtain ⟨rfl, _, rfl⟩ := hv
  by_cases hroom : n + m ≤ cap
  ·have hfit : n * i0.size + news.length ≤ cur.size := by rw [hl, hcs, ← Nat.add_mul]; exact Nat.mul_le_mul_right _ hroom
   have := run_append_room (P := P) w T1 T E i0 ht hi g n cap cur hg ad m c news hl hnews ho hroom hfit
   rw [this] at hr
   simp only [Result.ok.injEq, Value.slice.injEq] at hr
   exact .inl hr.1.1.symm
  ·have holds : ∀ j u, vs[j]? = some u → w.cell? ((⟨g, 0, none⟩ : Addr).add j) = some u := World.ownsRow.cells hown (g := g) rfl
   have := run_append_grow (P := P) w T1 T E i0 z ht hi hz ⟨g, 0, none⟩ n cap vs hown.1 holds ad m c news hl hnews (by omega) (by omega) (growslice_fits (by omega) hb)
   rw [this] at hr
   simp only [Result.ok.injEq, Value.slice.injEq] at hr
   right; intro x hx; rw [← hr.1.1] at hx; cases hx; exact Nat.le_refl _
theorem gI {T1 E s y n cap m c : Nat} {x1 x2 : Operand} {a ad : Option Addr} {lo : Nat} {vs news : List Value} {z : Value} [hT : Slc P T1 E s y] [hz : Zro P E z] (h1 : ev ρ x1 = .slice a n cap) (h2 : ev ρ x2 = .slice ad m c)
  (hs : Nat.ble 1 s = true) (hzs : z.cells.size = s) (hown : Own w lo E s a n cap vs) (hnews : Sl w ad news) (hp : W.plain ad) (hl : news.length = m * s) (ho : news.all Value.oneCell' = true)
  (hm : n + m ≤ 9223372036854775807) (hb : (n + m) * y ≤ 140737488355328) (hlo : lo ≤ w.heap.size)
  (h : ∀ a' cap' w', Own w' lo E s a' (n + m) cap' (vs ++ news) → w.grownBy w' (Value.slice a n cap).ownBlock → (a' = a ∨ ∀ x, a' = some x → w.heap.size ≤ x.block) → (kf = true → S w → S w') ∧ RR P S ops K rest (upd ρ d (.slice a' (n + m) cap')) w') :
  RR P S ops K ((⟨some d, .call ⟨.builtin .append, #[x1, x2], #[T1, T1]⟩, T, pos, af, none⟩, some kf) :: rest) ρ w := by
 refine dA rfl ?_
 unfold OpW
 obtain ⟨i0, hi0, hzz⟩ := Option.map_eq_some_iff.1 hT.sz
 simp only [Prod.mk.injEq] at hzz
 obtain ⟨i1, hi1, hz1⟩ := Option.map_eq_some_iff.1 hz.ok
 rw [hi0] at hi1
 simp only [Option.some.injEq] at hi1
 subst hi1
 obtain ⟨g, o, rfl⟩ := hp
 have e : ∀ n, (⟨g, o, none⟩ : Addr).add n = ⟨g, o + n, none⟩ := fun n => by unfold Addr.add; split <;> simp_all
 have hnews' : ∀ j u, news[j]? = some u → w.cell? ((⟨g, o, none⟩ : Addr).add j) = some u := fun j u hu => by
  have hj : j < news.length := (List.getElem?_eq_some_iff.1 hu).1
  have := hnews.get j hj
  rw [e]
  simp only [elt] at this
  rw [this, List.getD_eq_getElem?_getD, hu]; rfl
 obtain ⟨v', w', hr, h3, h4, _⟩ := run_append_own (P := P) w lo T1 T E i0 z s y hT.un hi0 hz1 hzz.1 hzz.2 hzs (Nat.le_of_ble_eq_true hs) _ n vs hown ⟨g, o, none⟩ m c news hl hnews'
  (fun u hu => List.all_eq_true.1 ho u hu) hm hb hlo
 have : (execOp (ev ρ) ⟨some d, .call ⟨.builtin .append, #[x1, x2], #[T1, T1]⟩, T, pos, af, none⟩).run P w = .ok (.value v') w' := by
  simp [execOp, resolve, invoke, builtin, h1, h2, hr]
 rw [this]
 have hform : ∃ a' cap', v' = .slice a' (n + m) cap' := by
  rcases h3.2 with ⟨e1, e2⟩ | ⟨g, cap', _, e1, _⟩
  ·exact ⟨none, 0, by rw [e1, e2]⟩
  ·exact ⟨_, _, e1⟩
 obtain ⟨a', cap', rfl⟩ := hform
 exact h _ _ _ h3 h4 (mO hT.un hi0 hz1 hzz.1 hzz.2 hown hl hnews' (fun u hu => List.all_eq_true.1 ho u hu) hm hb hr _ _ _ rfl)
theorem gJ {s : Nat} {v : Value} {cs : Array Value} (hv : v.cells.size = s) (hc : cs.size = 1 * s) : Instr.fill (fun i => some (i * s, s)) cs [(0, v)] = some v.cells := by
 simp only [Instr.fill, hv, ne_eq, not_true_eq_false, decide_false, Bool.false_or, Nat.zero_mul, Nat.zero_add]
 rw [if_neg (by simp; omega)]
 congr 1
 have : ∀ (l : List Value) (k : Nat) (acc : Array Value), k + l.length = acc.size →
   ((l.zipIdx k).foldl (fun (cs : Array Value) (x : Value × Nat) => cs.setIfInBounds x.2 x.1) acc).toList = acc.toList.take k ++ l := by
  intro l
  induction l with
  | nil => intro k acc h; simp at h ⊢; rw [List.take_of_length_le (by simp; omega)]
  | cons x l ih =>
   intro k acc h
   simp only [List.length_cons] at h
   simp only [List.zipIdx_cons, List.foldl_cons]
   rw [ih (k + 1) _ (by simp; omega)]
   have hk : k < acc.toList.length := by simp; omega
   rw [Array.toList_setIfInBounds, List.take_succ_eq_append_getElem (by simpa using hk), List.take_set]
   simp
   rw [List.set_eq_of_length_le (by simp; omega)]
 have h2 := this v.cells.toList 0 cs (by simp; omega)
 simp at h2
 rw [← Array.toList_inj]
 rw [← Array.foldl_toList]
 simpa using h2
theorem mP {T1 E s y n cap d1 t : Nat} {x : Operand} {a : Option Addr} {lo : Nat} {vs : List Value} {v z : Value} {T2 : TypeId} {pos2 : String} {af2 : Array Edge} [hT : Slc P T1 E s y] [hz : Zro P E z]
  (hs : ρ t = .slice a n cap) (hx : ev ρ x = v) (htd : Nat.beq t d1 = false)
  (hzs : (Nat.ble 1 s && (Nat.ble s 1024 && Nat.beq z.cells.size s)) = true) (hv : v.cells.size = s) (ho : v.cells.toList.all Value.oneCell' = true)
  (hown : Own w lo E s a n cap vs) (hm : n + 1 ≤ 9223372036854775807) (hb : (n + 1) * y ≤ 140737488355328) (hlo : lo ≤ w.heap.size)
  (h : ∀ g a' cap' w', Own w' lo E s a' (n + 1) cap' (vs ++ v.cells.toList) → w.grownBy w' (Value.slice a n cap).ownBlock → (a' = a ∨ ∀ x, a' = some x → w.heap.size ≤ x.block) →
   RR P (fun _ => True) ops K rest (upd (upd ρ d1 (.slice (some ⟨g, 0, none⟩) 1 1)) d (.slice a' (n + 1) cap')) w') :
  RR P (fun _ => True) ops K ((⟨some d1, .buildSlice T1 1 #[(0, x)], T2, pos2, af2, none⟩, some false) :: (⟨some d, .call ⟨.builtin .append, #[.tmp t, .tmp d1], #[T1, T1]⟩, T, pos, af, none⟩, some false) :: rest) ρ w := by
 simp only [Bool.and_eq_true] at hzs
 obtain ⟨h1, h2, h3⟩ := hzs
 have h1' := Nat.le_of_ble_eq_true h1
 have h2' := Nat.le_of_ble_eq_true h2
 have h3' := Nat.eq_of_beq_eq_true h3
 refine fL (E := E) (s := s) (z := z) (cs := v.cells) (by rw [Nat.ble_eq]; omega) ?_ (fun g w1 hn => ⟨fun _ _ => trivial, ?_⟩)
 ·simp only [List.map_toArray, List.map_cons, List.map_nil, hx]
  exact gJ hv (by simp)
 ·have hown1 := hown.ext hn.ex
  refine gI (z := z) (c := 1) (hzs := h3') (hs := h1) (news := v.cells.toList) (h1 := ?_) (h2 := ?_) (hown := hown1) (hnews := hn.blk.sl) (hp := ⟨_, _, rfl⟩) (hl := by simp; omega) (ho := ho) (hm := hm) (hb := hb) (hlo := by have := hn.ex.size; omega) ?_
  ·show upd ρ d1 _ t = _
   simp only [upd, htd, cond_false, hs]
  ·show upd ρ d1 _ d1 = _
   rw [eV]
  ·intro a' cap' w2 ho2 hg2 hA
   refine ⟨fun _ _ => trivial, h g a' cap' w2 ho2 ?_ (hA.imp id fun hh x hx => by have := hh x hx; have := hn.ex.size; omega)⟩
   exact ⟨hg2.os.trans hn.ex.os, hg2.tape.trans hn.ex.tape, hg2.output.trans hn.ex.output, Nat.le_trans hn.ex.size hg2.size,
    fun k hk hne => (hg2.block k (by have := hn.ex.size; omega) hne).trans (hn.ex.block k hk)⟩
theorem mQ {T1 E y n cap d1 t lo : Nat} {x : Operand} {a : Option Addr} {k : IntKind} {u : Nat} {xs : List Nat} {z : Value} {T2 : TypeId} {pos2 : String} {af2 : Array Edge} [hT : Slc P T1 E 1 y] [hz : Zro P E z]
  (hs : ρ t = .slice a n cap) (hx : ev ρ x = .int k (u : Int)) (htd : Nat.beq t d1 = false) (hzs : (Nat.beq z.cells.size 1) = true)
  (hown : Own w lo E 1 a n cap (xs.map (fun (m : Nat) => Value.int k m))) (hm : n + 1 ≤ 9223372036854775807) (hb : (n + 1) * y ≤ 140737488355328) (hlo : lo ≤ w.heap.size)
  (h : ∀ g a' cap' w', Own w' lo E 1 a' (n + 1) cap' ((xs ++ [u]).map (fun (m : Nat) => Value.int k m)) → w.grownBy w' (Value.slice a n cap).ownBlock → (a' = a ∨ ∀ x, a' = some x → w.heap.size ≤ x.block) →
   RR P (fun _ => True) ops K rest (upd (upd ρ d1 (.slice (some ⟨g, 0, none⟩) 1 1)) d (.slice a' (n + 1) cap')) w') :
  RR P (fun _ => True) ops K ((⟨some d1, .buildSlice T1 1 #[(0, x)], T2, pos2, af2, none⟩, some false) :: (⟨some d, .call ⟨.builtin .append, #[.tmp t, .tmp d1], #[T1, T1]⟩, T, pos, af, none⟩, some false) :: rest) ρ w :=
 mP (s := 1) hs hx htd (by simpa using hzs) rfl rfl hown hm hb hlo (fun g a' cap' w' h1 h2 h3 => h g a' cap' w' (by rw [List.map_append]; exact h1) h2 h3)
section
variable {w' w0 : World} {lo T0 s0 n cap : Nat} {a : Option Addr} {vs : List Value}
theorem Own.grow_ex (hown : Own w lo T0 s0 a n cap vs) (h : w.grownBy w' (Value.slice a n cap).ownBlock) (e : Ex w0 w) (hlo : w0.heap.size ≤ lo) : Ex w0 w' :=
 iP h e (fun ad ha => by have := (hown.lo ad ha).1; omega)
theorem oT {x y : Operand} {T1 : TypeId} {j : Nat} {v : Value} [hT : Scal P T1] (hx : ev ρ x = .pointer (some (elt a j))) (hy : nv (ev ρ y) = some v) (hv : v.oneCell' = true)
  (hown : Own w lo T0 s0 a n cap vs) (hj : j < vs.length)
  (h : ∀ g w', a = some ⟨g, 0, none⟩ → lo ≤ g → Chg g w w' → Own w' lo T0 s0 a n cap (vs.set j v) → (kf = true → S w → S w') ∧ RR P S ops K rest ρ w') :
  RR P S ops K ((⟨none, .store T1 x y, T, pos, af, none⟩, some kf) :: rest) ρ w := by
 rcases hown.2 with ⟨hv', hn⟩ | ⟨g, c, cur, hv', hg, hb, h1, h2, h3, h4⟩
 ·have := hown.1; rw [hn] at this; simp at this; subst this; simp at hj
 ·simp only [Value.slice.injEq] at hv'
  obtain ⟨rfl, _, rfl⟩ := hv'
  have hb' : Blk w g T0 cur.toList := by unfold Blk; simpa using hb
  have hjl : j < cur.toList.length := by rw [← h4] at hj; simp at hj ⊢; omega
  refine eY hx (by rw [jI] at hy; exact Option.some.inj hy) hv hb' hjl (fun w' hc hb2 => h g w' rfl hg hc ⟨by simpa using hown.1, .inr ⟨g, cap, (cur.toList.set j v).toArray, rfl, hg, hb2, h1, h2, by simpa using h3, ?_⟩⟩)
  rw [← h4, List.take_set]
end
theorem pR {T1 E y : Nat} {x : Operand} {k : IntKind} {u : Int} {z : Value} [hT : Slc P T1 E 1 y] [hz : Zro P E z] (hx : ev ρ x = .int k u)
  (h : ∀ g w', New w w' g E ([u].map (Value.int k)) → (kf = true → S w → S w') ∧ RR P S ops K rest (upd ρ d (.slice (some ⟨g, 0, none⟩) 1 1)) w') :
  RR P S ops K ((⟨some d, .buildSlice T1 1 #[(0, x)], T, pos, af, none⟩, some kf) :: rest) ρ w :=
 fL (E := E) (s := 1) (z := z) (cs := #[.int k u]) rfl (by
  simp only [List.map_toArray, List.map_cons, List.map_nil, hx]
  exact gJ rfl (by simp)) h
theorem rn {T1 E y : Nat} {x0 x1 : Operand} {v0 v1 z : Value} [hT : Slc P T1 E 1 y] [hz : Zro P E z] (h0 : nv (ev ρ x0) = some v0) (h1 : nv (ev ρ x1) = some v1) (hv0 : v0.oneCell' = true) (hv1 : v1.oneCell' = true)
  (h : ∀ g w', New w w' g E [v0, v1] → (kf = true → S w → S w') ∧ RR P S ops K rest (upd ρ d (.slice (some ⟨g, 0, none⟩) 2 2)) w') :
  RR P S ops K ((⟨some d, .buildSlice T1 2 #[(0, x0), (1, x1)], T, pos, af, none⟩, some kf) :: rest) ρ w :=
 fL (E := E) (s := 1) (z := z) (cs := #[v0, v1]) rfl (by
  rw [jI] at h0 h1
  have c0 : v0.cells = #[v0] := by cases v0 <;> simp [Value.oneCell'] at hv0 <;> rfl
  have c1 : v1.cells = #[v1] := by cases v1 <;> simp [Value.oneCell'] at hv1 <;> rfl
  simp only [List.map_toArray, List.map_cons, List.map_nil, Option.some.inj h0, Option.some.inj h1]
  have er : Array.range 2 = #[0, 1] := by decide
  simp [Instr.fill, c0, c1, er]) h
theorem ic {x hi : Operand} {a : Option Addr} {l c E s y : Nat} {n : Int} {k : IntKind} [hT : Slc P T' E s y] (hx : ev ρ x = .slice a l c) (hh : ev ρ hi = .int k n) (h0 : 0 ≤ n) (h1 : n ≤ c)
  (h : RR P S ops K rest (upd ρ d (.slice a n.toNat c)) w) : RR P S ops K ((⟨some d, .slice T' x none (some hi) none, T, pos, af, none⟩, b) :: rest) ρ w := by
 refine cg rfl (fun w' => ?_) h
 obtain ⟨i0, hi0, hz⟩ := Option.map_eq_some_iff.1 hT.sz
 have e : a.map (fun x => x.add 0) = a := by cases a <;> simp [Addr.add]
 simp [execOp, Instr.sliceAt, Instr.slice, Instr.sliceBounds, Instr.sliceBound, hx, hh, asIntOf, underlying, hT.un, sizeOf, typeInfo, hi0, h0, h1, e]
theorem te {x : Operand} {T1 : TypeId} {a : Option Addr} {j : Nat} {k : IntKind} {xs : List Int} [Scal P T1] (hx : ev ρ x = .pointer (some (elt a j))) (hs : Rd b S w fun w' => Sl w' a (xs.map (Value.int k)))
  (hj : j < xs.length) (h : RR P S ops K rest (upd ρ d (.int k (xs.getD j 0))) w) : RR P S ops K ((⟨some d, .load T1 x, T, pos, af, none⟩, b) :: rest) ρ w :=
 gH hx (hs.imp fun w' hs => by
  have := hs.get j (by simpa using hj)
  rw [this]
  simp [List.getD_eq_getElem?_getD, hj]) h
theorem bI {x : Operand} {T1 : TypeId} {a : Option Addr} {j : Nat} {k : IntKind} {xs : List Nat} [Scal P T1] (hx : ev ρ x = .pointer (some (elt a j))) (hs : Rd b S w fun w' => Sl w' a (xs.map fun (n : Nat) => Value.int k n))
  (hj : j < xs.length) (h : RR P S ops K rest (upd ρ d (.int k ((xs.getD j 0 : Nat) : Int))) w) : RR P S ops K ((⟨some d, .load T1 x, T, pos, af, none⟩, b) :: rest) ρ w :=
 gH hx (hs.imp fun w' hs => by
  have := hs.get j (by simpa using hj)
  rw [this]
  simp [List.getD_eq_getElem?_getD, hj]) h
theorem aQ {x : Operand} {T1 : TypeId} {g j Tb : Nat} {v : Value} {cs : List Value} [Scal P T1] (hx : ev ρ x = .pointer (some ⟨g, j, none⟩)) (hb : Rd b S w fun w' => Blk w' g Tb cs) (hv : cs[j]? = some v)
  (h : RR P S ops K rest (upd ρ d v) w) : RR P S ops K ((⟨some d, .load T1 x, T, pos, af, none⟩, b) :: rest) ρ w :=
 gH hx (hb.imp fun w' hb => by
  have hj : j < cs.length := (List.getElem?_eq_some_iff.1 hv).1
  rw [hb.cell hj, List.getD_eq_getElem?_getD, hv]; rfl) h
theorem aN {x : Operand} {T1 : TypeId} {n g Tb : Nat} {cs : List Value} [Agg P T1 n] (hx : ev ρ x = .pointer (some ⟨g, 0, none⟩)) (hb : Rd b S w fun w' => Blk w' g Tb cs) (hl : cs.length = n)
  (h : RR P S ops K rest (upd ρ d (.agg cs.toArray)) w) : RR P S ops K ((⟨some d, .load T1 x, T, pos, af, none⟩, b) :: rest) ρ w :=
 pP hx hl (hb.imp fun w' hb j hj => by simpa using hb.cell hj) h
theorem kr {x y : Operand} {T1 : TypeId} {g o Tb : Nat} {v : Value} {cs : List Value} [hT : Scal P T1] (hx : ev ρ x = .pointer (some ⟨g, o, none⟩)) (hy : nv (ev ρ y) = some v) (hv : v.oneCell' = true)
  (hb : Blk w g Tb cs) (ho : Nat.blt o cs.length = true) (h : ∀ w', Chg g w w' → Blk w' g Tb (cs.set o v) → (kf = true → S w → S w') ∧ RR P S ops K rest ρ w') :
  RR P S ops K ((⟨none, .store T1 x y, T, pos, af, none⟩, some kf) :: rest) ρ w :=
 mN hx (by rw [jI] at hy; exact Option.some.inj hy) hv hb (by simpa [Nat.blt_eq] using ho) h
structure SD where
 a : Option Addr
 len : Nat
 cap : Nat
def SD.val (s : SD) : Value := .slice s.a s.len s.cap
abbrev sd0 : SD := ⟨none, 0, 0⟩
section
variable {w w' : World} {lo T2 T1 c : Nat} {k : IntKind} {b : Option Addr} {sds : List SD} {xss : List (List Int)}
end
theorem tg {T1 E y n : Nat} {x1 x2 : Operand} [hT : Slc P T1 E 1 y] [hz : Zro P E (.slice none 0 0)] (h1 : ev ρ x1 = .int .i64 n) (h2 : ev ρ x2 = .int .i64 n) (hb : y * n ≤ 281474976710656) (hm : n ≤ 9223372036854775807)
  (h : ∀ g w', New w w' g E ((List.replicate n sd0).map SD.val) → (kf = true → S w → S w') ∧ RR P S ops K rest (upd ρ d (.slice (some ⟨g, 0, none⟩) n n)) w') :
  RR P S ops K ((⟨some d, .makeSlice T1 x1 x2, T, pos, af, none⟩, some kf) :: rest) ρ w :=
 j9 rfl h1 h2 hb hm (by simpa [SD.val] using h)
theorem dC {x y : Operand} {T1 : TypeId} {g j Tb : Nat} {k : IntKind} {u : Nat} {xs : List Nat} [hT : Scal P T1] (hx : ev ρ x = .pointer (some (elt (some ⟨g, 0, none⟩) j))) (hy : ev ρ y = .int k (u : Int))
  (hb : Blk w g Tb (xs.map fun (n : Nat) => Value.int k n)) (ho : j < xs.length) (h : ∀ w', Chg g w w' → Blk w' g Tb ((xs.set j u).map fun (n : Nat) => Value.int k n) → (kf = true → S w → S w') ∧ RR P S ops K rest ρ w') :
  RR P S ops K ((⟨none, .store T1 x y, T, pos, af, none⟩, some kf) :: rest) ρ w :=
 eY hx hy rfl hb (by simpa using ho) (by rw [List.map_set] at h; exact h)
theorem aC {x ix : Operand} {a : Option Addr} {l c E y j : Nat} {k : IntKind} [hT : Slc P T' E 1 y] (hx : ev ρ x = .slice a l c) (hi : ev ρ ix = .int k (j : Int)) (ha : W.plain a)
  (h2 : j < l) (h : RR P S ops K rest (upd ρ d (.pointer (some (elt a j)))) w) :
  RR P S ops K ((⟨some d, .indexAddr T' x ix, T, pos, af, none⟩, b) :: rest) ρ w :=
 gG hx hi ha (by omega) (by omega) (by simpa using h)
variable {fn : Func} {R : Value → World → Prop}
theorem rt {t : Nat} {v : Value} (h : ρ t = v) : ResV P w ρ (.tmp t) v := h
theorem rc {t T1 n g Tb : Nat} {vs : List Value} [Agg P T1 n] (hp : ρ t = .pointer (some ⟨g, 0, none⟩)) (hl : vs.length = n) (hb : Blk w g Tb vs) : ResV P w ρ (.cell t T1) (.agg vs.toArray) := by
 unfold ResV
 simp only [hp, asAddr]
 have := iO (P := P) (T := T1) (w := w) (b := g) (off := 0) hl (fun j hj => by simpa using hb.cell hj)
 simpa using this
theorem wq (h : fn.results = #[]) (hR : R (.tuple #[]) w) : fnPost P fn R .ret ρ w := vZ h hR
theorem bK {r : ResultVar} {v : Value} (h : fn.results = #[r]) (hv : ResV P w ρ r v) (hR : R v w) : fnPost P fn R .ret ρ w := xy h hv hR
theorem eN {r1 r2 : ResultVar} {v1 v2 : Value} (h : fn.results = #[r1, r2]) (h1 : ResV P w ρ r1 v1) (h2 : ResV P w ρ r2 v2) (hR : R (.tuple #[v1, v2]) w) : fnPost P fn R .ret ρ w := xz h h1 h2 hR
theorem fM {r1 r2 r3 : ResultVar} {v1 v2 v3 : Value} (h : fn.results = #[r1, r2, r3]) (h1 : ResV P w ρ r1 v1) (h2 : ResV P w ρ r2 v2) (h3 : ResV P w ρ r3 v3) (hR : R (.tuple #[v1, v2, v3]) w) : fnPost P fn R .ret ρ w := xA h h1 h2 h3 hR
theorem jq (h : fn.results = #[]) (hR : R (.tuple #[]) w) : fnPost P fn R .normal ρ w := vZ h hR
end
end Go.W
namespace Go.Proofs.YtppipmkpmmdcjaaGreat
open Go.W
instance s1 : Scal Tryz.prog 1 := ⟨by kernel_rfl, by kernel_rfl⟩
instance z1 : Zro Tryz.prog 1 (.nilFunc) := ⟨by kernel_rfl⟩
instance s2 : Scal Tryz.prog 2 := ⟨by kernel_rfl, by kernel_rfl⟩
instance i2 : IntT Tryz.prog 2 .i64 := ⟨by kernel_rfl⟩
instance z2 : Zro Tryz.prog 2 (.int .i64 0) := ⟨by kernel_rfl⟩
instance s3 : Scal Tryz.prog 3 := ⟨by kernel_rfl, by kernel_rfl⟩
instance i3 : IntT Tryz.prog 3 .i64 := ⟨by kernel_rfl⟩
instance z3 : Zro Tryz.prog 3 (.int .i64 0) := ⟨by kernel_rfl⟩
instance s4 : Scal Tryz.prog 4 := ⟨by kernel_rfl, by kernel_rfl⟩
instance o4 : BoolT Tryz.prog 4 := ⟨by kernel_rfl⟩
instance z4 : Zro Tryz.prog 4 (.bool false) := ⟨by kernel_rfl⟩
instance s5 : Scal Tryz.prog 5 := ⟨by kernel_rfl, by kernel_rfl⟩
instance i5 : IntT Tryz.prog 5 .u8 := ⟨by kernel_rfl⟩
instance z5 : Zro Tryz.prog 5 (.int .u8 0) := ⟨by kernel_rfl⟩
instance s6 : Scal Tryz.prog 6 := ⟨by kernel_rfl, by kernel_rfl⟩
instance z6 : Zro Tryz.prog 6 (.int .u8 0) := ⟨by kernel_rfl⟩
instance g7 : Agg Tryz.prog 7 4 := ⟨by kernel_rfl, by kernel_rfl⟩
instance z7 : Zro Tryz.prog 7 (.agg #[.int .i64 0, .int .i64 0, .bool false, .int .u8 0]) := ⟨by kernel_rfl⟩
instance g8 : Agg Tryz.prog 8 4 := ⟨by kernel_rfl, by kernel_rfl⟩
instance z8 : Zro Tryz.prog 8 (.agg #[.int .i64 0, .int .i64 0, .bool false, .int .u8 0]) := ⟨by kernel_rfl⟩
instance s12 : Scal Tryz.prog 12 := ⟨by kernel_rfl, by kernel_rfl⟩
instance g13 : Agg Tryz.prog 13 2 := ⟨by kernel_rfl, by kernel_rfl⟩
instance b13 : Str Tryz.prog 13 [(0, 1), (1, 1)] := ⟨by kernel_rfl⟩
instance g14 : Agg Tryz.prog 14 2 := ⟨by kernel_rfl, by kernel_rfl⟩
instance s15 : Scal Tryz.prog 15 := ⟨by kernel_rfl, by kernel_rfl⟩
instance s16 : Scal Tryz.prog 16 := ⟨by kernel_rfl, by kernel_rfl⟩
instance s17 : Scal Tryz.prog 17 := ⟨by kernel_rfl, by kernel_rfl⟩
instance g19 : Agg Tryz.prog 19 1 := ⟨by kernel_rfl, by kernel_rfl⟩
instance s22 : Scal Tryz.prog 22 := ⟨by kernel_rfl, by kernel_rfl⟩
instance l22 : Slc Tryz.prog 22 100 1 1 := ⟨by kernel_rfl, by kernel_rfl⟩
instance g24 : Agg Tryz.prog 24 3 := ⟨by kernel_rfl, by kernel_rfl⟩
instance f24_0 : Fld Tryz.prog 24 0 0 := ⟨by kernel_rfl⟩
instance f24_1 : Fld Tryz.prog 24 1 1 := ⟨by kernel_rfl⟩
instance f24_2 : Fld Tryz.prog 24 2 2 := ⟨by kernel_rfl⟩
instance s25 : Scal Tryz.prog 25 := ⟨by kernel_rfl, by kernel_rfl⟩
instance l25 : Slc Tryz.prog 25 27 1 24 := ⟨by kernel_rfl, by kernel_rfl⟩
instance s27 : Scal Tryz.prog 27 := ⟨by kernel_rfl, by kernel_rfl⟩
instance l27 : Slc Tryz.prog 27 33 2 32 := ⟨by kernel_rfl, by kernel_rfl⟩
instance z27 : Zro Tryz.prog 27 (.slice none 0 0) := ⟨by kernel_rfl⟩
instance s31 : Scal Tryz.prog 31 := ⟨by kernel_rfl, by kernel_rfl⟩
instance l31 : Slc Tryz.prog 31 53 1 4 := ⟨by kernel_rfl, by kernel_rfl⟩
instance g33 : Agg Tryz.prog 33 2 := ⟨by kernel_rfl, by kernel_rfl⟩
instance f33_0 : Fld Tryz.prog 33 0 0 := ⟨by kernel_rfl⟩
instance f33_1 : Fld Tryz.prog 33 1 1 := ⟨by kernel_rfl⟩
instance b33 : Str Tryz.prog 33 [(0, 1), (1, 1)] := ⟨by kernel_rfl⟩
instance z33 : Zro Tryz.prog 33 (.agg #[.bool false, .slice none 0 0]) := ⟨by kernel_rfl⟩
instance s45 : Scal Tryz.prog 45 := ⟨by kernel_rfl, by kernel_rfl⟩
instance s47 : Scal Tryz.prog 47 := ⟨by kernel_rfl, by kernel_rfl⟩
instance l47 : Slc Tryz.prog 47 2 1 8 := ⟨by kernel_rfl, by kernel_rfl⟩
instance z47 : Zro Tryz.prog 47 (.slice none 0 0) := ⟨by kernel_rfl⟩
instance l48 : Slc Tryz.prog 48 47 1 24 := ⟨by kernel_rfl, by kernel_rfl⟩
instance s53 : Scal Tryz.prog 53 := ⟨by kernel_rfl, by kernel_rfl⟩
instance i53 : IntT Tryz.prog 53 .u32 := ⟨by kernel_rfl⟩
instance z53 : Zro Tryz.prog 53 (.int .u32 0) := ⟨by kernel_rfl⟩
instance i54 : IntT Tryz.prog 54 .u64 := ⟨by kernel_rfl⟩
instance s58 : Scal Tryz.prog 58 := ⟨by kernel_rfl, by kernel_rfl⟩
instance l59 : Slc Tryz.prog 59 3 1 8 := ⟨by kernel_rfl, by kernel_rfl⟩
instance g68 : Agg Tryz.prog 68 3 := ⟨by kernel_rfl, by kernel_rfl⟩
instance f68_0 : Fld Tryz.prog 68 0 0 := ⟨by kernel_rfl⟩
instance f68_1 : Fld Tryz.prog 68 1 1 := ⟨by kernel_rfl⟩
instance f68_2 : Fld Tryz.prog 68 2 2 := ⟨by kernel_rfl⟩
instance b68 : Str Tryz.prog 68 [(0, 1), (1, 1), (2, 1)] := ⟨by kernel_rfl⟩
instance z68 : Zro Tryz.prog 68 (.agg #[.slice none 0 0, .slice none 0 0, .slice none 0 0]) := ⟨by kernel_rfl⟩
instance f75_0 : Fld Tryz.prog 75 0 0 := ⟨by kernel_rfl⟩
instance f75_1 : Fld Tryz.prog 75 1 1 := ⟨by kernel_rfl⟩
instance b75 : Str Tryz.prog 75 [(0, 1), (1, 1)] := ⟨by kernel_rfl⟩
instance z75 : Zro Tryz.prog 75 (.agg #[.slice none 0 0, .int .i64 0]) := ⟨by kernel_rfl⟩
instance s79 : Scal Tryz.prog 79 := ⟨by kernel_rfl, by kernel_rfl⟩
instance l79 : Slc Tryz.prog 79 27 1 24 := ⟨by kernel_rfl, by kernel_rfl⟩
instance g81 : Agg Tryz.prog 81 2 := ⟨by kernel_rfl, by kernel_rfl⟩
instance f81_0 : Fld Tryz.prog 81 0 0 := ⟨by kernel_rfl⟩
instance f81_1 : Fld Tryz.prog 81 1 1 := ⟨by kernel_rfl⟩
instance b81 : Str Tryz.prog 81 [(0, 1), (1, 1)] := ⟨by kernel_rfl⟩
instance z81 : Zro Tryz.prog 81 (.agg #[.slice none 0 0, .int .i64 0]) := ⟨by kernel_rfl⟩
instance s99 : Scal Tryz.prog 99 := ⟨by kernel_rfl, by kernel_rfl⟩
instance s100 : Scal Tryz.prog 100 := ⟨by kernel_rfl, by kernel_rfl⟩
instance i100 : IntT Tryz.prog 100 .i8 := ⟨by kernel_rfl⟩
instance c3 : Fun Tryz.prog 3 := ⟨by kernel_rfl⟩
instance c4 : Fun Tryz.prog 4 := ⟨by kernel_rfl⟩
instance c5 : Fun Tryz.prog 5 := ⟨by kernel_rfl⟩
instance c6 : Fun Tryz.prog 6 := ⟨by kernel_rfl⟩
instance c7 : Fun Tryz.prog 7 := ⟨by kernel_rfl⟩
instance c8 : Fun Tryz.prog 8 := ⟨by kernel_rfl⟩
instance c9 : Fun Tryz.prog 9 := ⟨by kernel_rfl⟩
instance c10 : Fun Tryz.prog 10 := ⟨by kernel_rfl⟩
instance c11 : Fun Tryz.prog 11 := ⟨by kernel_rfl⟩
instance c12 : Fun Tryz.prog 12 := ⟨by kernel_rfl⟩
instance c13 : Fun Tryz.prog 13 := ⟨by kernel_rfl⟩
instance c14 : Fun Tryz.prog 14 := ⟨by kernel_rfl⟩
instance c15 : Fun Tryz.prog 15 := ⟨by kernel_rfl⟩
instance c16 : Fun Tryz.prog 16 := ⟨by kernel_rfl⟩
instance c17 : Fun Tryz.prog 17 := ⟨by kernel_rfl⟩
instance c18 : Fun Tryz.prog 18 := ⟨by kernel_rfl⟩
instance c19 : Fun Tryz.prog 19 := ⟨by kernel_rfl⟩
instance c20 : Fun Tryz.prog 20 := ⟨by kernel_rfl⟩
instance c21 : Fun Tryz.prog 21 := ⟨by kernel_rfl⟩
instance c22 : Fun Tryz.prog 22 := ⟨by kernel_rfl⟩
instance c23 : Fun Tryz.prog 23 := ⟨by kernel_rfl⟩
instance c24 : Fun Tryz.prog 24 := ⟨by kernel_rfl⟩
instance c25 : Fun Tryz.prog 25 := ⟨by kernel_rfl⟩
instance c26 : Fun Tryz.prog 26 := ⟨by kernel_rfl⟩
instance c27 : Fun Tryz.prog 27 := ⟨by kernel_rfl⟩
instance c28 : Fun Tryz.prog 28 := ⟨by kernel_rfl⟩
instance c29 : Fun Tryz.prog 29 := ⟨by kernel_rfl⟩
instance c30 : Fun Tryz.prog 30 := ⟨by kernel_rfl⟩
instance c31 : Fun Tryz.prog 31 := ⟨by kernel_rfl⟩
instance c32 : Fun Tryz.prog 32 := ⟨by kernel_rfl⟩
instance c33 : Fun Tryz.prog 33 := ⟨by kernel_rfl⟩
instance c34 : Fun Tryz.prog 34 := ⟨by kernel_rfl⟩
instance c35 : Fun Tryz.prog 35 := ⟨by kernel_rfl⟩
instance c36 : Fun Tryz.prog 36 := ⟨by kernel_rfl⟩
instance c37 : Fun Tryz.prog 37 := ⟨by kernel_rfl⟩
instance c38 : Fun Tryz.prog 38 := ⟨by kernel_rfl⟩
instance c39 : Fun Tryz.prog 39 := ⟨by kernel_rfl⟩
instance c40 : Fun Tryz.prog 40 := ⟨by kernel_rfl⟩
instance c41 : Fun Tryz.prog 41 := ⟨by kernel_rfl⟩
instance c42 : Fun Tryz.prog 42 := ⟨by kernel_rfl⟩
instance c43 : Fun Tryz.prog 43 := ⟨by kernel_rfl⟩
instance c44 : Fun Tryz.prog 44 := ⟨by kernel_rfl⟩
instance c45 : Fun Tryz.prog 45 := ⟨by kernel_rfl⟩
instance c46 : Fun Tryz.prog 46 := ⟨by kernel_rfl⟩
instance c47 : Fun Tryz.prog 47 := ⟨by kernel_rfl⟩
instance c48 : Fun Tryz.prog 48 := ⟨by kernel_rfl⟩
instance c49 : Fun Tryz.prog 49 := ⟨by kernel_rfl⟩
instance c50 : Fun Tryz.prog 50 := ⟨by kernel_rfl⟩
instance c51 : Fun Tryz.prog 51 := ⟨by kernel_rfl⟩
instance c52 : Fun Tryz.prog 52 := ⟨by kernel_rfl⟩
instance c53 : Fun Tryz.prog 53 := ⟨by kernel_rfl⟩
instance c54 : Fun Tryz.prog 54 := ⟨by kernel_rfl⟩
instance c55 : Fun Tryz.prog 55 := ⟨by kernel_rfl⟩
instance c56 : Fun Tryz.prog 56 := ⟨by kernel_rfl⟩
instance c57 : Fun Tryz.prog 57 := ⟨by kernel_rfl⟩
instance c58 : Fun Tryz.prog 58 := ⟨by kernel_rfl⟩
instance c59 : Fun Tryz.prog 59 := ⟨by kernel_rfl⟩
instance c60 : Fun Tryz.prog 60 := ⟨by kernel_rfl⟩
instance c61 : Fun Tryz.prog 61 := ⟨by kernel_rfl⟩
instance c62 : Fun Tryz.prog 62 := ⟨by kernel_rfl⟩
instance c63 : Fun Tryz.prog 63 := ⟨by kernel_rfl⟩
instance c64 : Fun Tryz.prog 64 := ⟨by kernel_rfl⟩
instance c65 : Fun Tryz.prog 65 := ⟨by kernel_rfl⟩
instance c66 : Fun Tryz.prog 66 := ⟨by kernel_rfl⟩
instance c67 : Fun Tryz.prog 67 := ⟨by kernel_rfl⟩
instance c68 : Fun Tryz.prog 68 := ⟨by kernel_rfl⟩
instance c69 : Fun Tryz.prog 69 := ⟨by kernel_rfl⟩
instance c70 : Fun Tryz.prog 70 := ⟨by kernel_rfl⟩
instance c71 : Fun Tryz.prog 71 := ⟨by kernel_rfl⟩
instance c72 : Fun Tryz.prog 72 := ⟨by kernel_rfl⟩
instance c73 : Fun Tryz.prog 73 := ⟨by kernel_rfl⟩
instance c74 : Fun Tryz.prog 74 := ⟨by kernel_rfl⟩
instance c75 : Fun Tryz.prog 75 := ⟨by kernel_rfl⟩
instance c76 : Fun Tryz.prog 76 := ⟨by kernel_rfl⟩
instance c77 : Fun Tryz.prog 77 := ⟨by kernel_rfl⟩
instance c78 : Fun Tryz.prog 78 := ⟨by kernel_rfl⟩
instance c79 : Fun Tryz.prog 79 := ⟨by kernel_rfl⟩
instance c80 : Fun Tryz.prog 80 := ⟨by kernel_rfl⟩
instance c81 : Fun Tryz.prog 81 := ⟨by kernel_rfl⟩
instance c82 : Fun Tryz.prog 82 := ⟨by kernel_rfl⟩
instance c83 : Fun Tryz.prog 83 := ⟨by kernel_rfl⟩
instance c84 : Fun Tryz.prog 84 := ⟨by kernel_rfl⟩
instance c85 : Fun Tryz.prog 85 := ⟨by kernel_rfl⟩
instance c86 : Fun Tryz.prog 86 := ⟨by kernel_rfl⟩
instance c87 : Fun Tryz.prog 87 := ⟨by kernel_rfl⟩
instance c88 : Fun Tryz.prog 88 := ⟨by kernel_rfl⟩
instance c89 : Fun Tryz.prog 89 := ⟨by kernel_rfl⟩
instance c90 : Fun Tryz.prog 90 := ⟨by kernel_rfl⟩
instance c91 : Fun Tryz.prog 91 := ⟨by kernel_rfl⟩
instance c92 : Fun Tryz.prog 92 := ⟨by kernel_rfl⟩
instance c93 : Fun Tryz.prog 93 := ⟨by kernel_rfl⟩
instance c94 : Fun Tryz.prog 94 := ⟨by kernel_rfl⟩
instance c95 : Fun Tryz.prog 95 := ⟨by kernel_rfl⟩
instance c96 : Fun Tryz.prog 96 := ⟨by kernel_rfl⟩
instance c97 : Fun Tryz.prog 97 := ⟨by kernel_rfl⟩
instance c98 : Fun Tryz.prog 98 := ⟨by kernel_rfl⟩
instance c99 : Fun Tryz.prog 99 := ⟨by kernel_rfl⟩
instance c100 : Fun Tryz.prog 100 := ⟨by kernel_rfl⟩
instance c101 : Fun Tryz.prog 101 := ⟨by kernel_rfl⟩
instance c102 : Fun Tryz.prog 102 := ⟨by kernel_rfl⟩
instance c103 : Fun Tryz.prog 103 := ⟨by kernel_rfl⟩
instance c104 : Fun Tryz.prog 104 := ⟨by kernel_rfl⟩
instance c105 : Fun Tryz.prog 105 := ⟨by kernel_rfl⟩
theorem bB : Tryz.prog.follows .mixedOrders = true := by kernel_rfl
end Go.Proofs.YtppipmkpmmdcjaaGreat
namespace Go.W
def waitsT (ops : Array Oper) (j i : Nat) : Bool := waits ops j i || (List.range ops.size).any (fun k => waits ops j k && waits ops k i)
def Down (ops : Array Oper) (listed : Array Bool) : Prop := ∀ k o, ops[k]? = some o → listed.getD k false = true → ∀ e ∈ o.after, Region.binds .any e = true → listed.getD e.on false = true
theorem Down.start (ops : Array Oper) (n : Nat) : Down ops (Array.replicate n false) := fun k o _ h => by
 exfalso
 by_cases hk : k < n
 ·simp [hk] at h
 ·simp [hk] at h
theorem Down.set {ops : Array Oper} {listed : Array Bool} {j : Nat} (h : Down ops listed) (hj : j ∈ Region.ready .any ops listed) : Down ops (listed.setIfInBounds j true) := by
 have keep : ∀ m, listed.getD m false = true → (listed.setIfInBounds j true).getD m false = true := fun m hm => by
  by_cases hmj : j = m
  ·subst hmj
   by_cases hs : j < listed.size
   ·simp [hs]
   ·simp [hs] at hm
  ·simpa [Array.getElem?_setIfInBounds_ne hmj] using hm
 intro k o ho hk e he hb
 obtain ⟨_, oj, hoj, hall⟩ := mem_ready.1 hj
 by_cases hkj : j = k
 ·subst hkj
  rw [ho] at hoj
  cases hoj
  exact keep _ (hall e he hb)
 ·refine keep _ (h k o ho ?_ e he hb)
  simpa [Array.getElem?_setIfInBounds_ne hkj] using hk
theorem eK {ops : Array Oper} {listed : Array Bool} {i j : Nat} (hd : Down ops listed) (hi : i ∈ Region.ready .any ops listed) (hj : j ∈ Region.ready .any ops listed) : waitsT ops j i = false := by
 unfold waitsT
 rw [cA hi hj, Bool.false_or]
 cases hw : (List.range ops.size).any (fun k => waits ops j k && waits ops k i) with
 | false => rfl
 | true =>
  exfalso
  obtain ⟨k, hk, h⟩ := List.any_eq_true.1 hw
  simp only [Bool.and_eq_true] at h
  obtain ⟨h1, h2⟩ := h
  obtain ⟨_, oj, hoj, hall⟩ := mem_ready.1 hj
  have h0 := (mem_ready.1 hi).1
  simp only [waits, hoj, Array.any_eq_true', Bool.and_eq_true, beq_iff_eq] at h1
  obtain ⟨e, he, hb, rfl⟩ := h1
  have hl := hall e he hb
  have hks : e.on < ops.size := List.mem_range.1 hk
  have hok : ops[e.on]? = some ops[e.on] := Array.getElem?_eq_getElem hks
  simp only [waits, hok, Array.any_eq_true', Bool.and_eq_true, beq_iff_eq] at h2
  obtain ⟨e2, he2, hb2, rfl⟩ := h2
  have hl2 := hd e.on _ hok hl e2 he2 hb2
  rcases Nat.lt_or_ge e2.on listed.size with h' | h'
  ·simp [h'] at h0 hl2; rw [h0] at hl2; cases hl2
  ·simp [Array.getElem?_eq_none h'] at hl2
section
variable {P : Program} {n : Nat} {Q : Exit → Env → World → Prop} {ρ : Env} {w : World}
end
end Go.W
namespace Go.W
def waitsU (ops : Array Oper) (j i : Nat) : Bool := waitsT ops j i || (List.range ops.size).any (fun k => waits ops j k && waitsT ops k i)
theorem eO {ops : Array Oper} {listed : Array Bool} {k i : Nat} (hd : Down ops listed) (hks : k < ops.size) (hk : listed.getD k false = true) (hw : waits ops k i = true) : listed.getD i false = true := by
 have hok : ops[k]? = some ops[k] := Array.getElem?_eq_getElem hks
 simp only [waits, hok, Array.any_eq_true', Bool.and_eq_true, beq_iff_eq] at hw
 obtain ⟨e, he, hb, rfl⟩ := hw
 exact hd k _ hok hk e he hb
theorem lB {ops : Array Oper} {listed : Array Bool} {k i : Nat} (hd : Down ops listed) (hks : k < ops.size) (hk : listed.getD k false = true) (hw : waitsT ops k i = true) : listed.getD i false = true := by
 unfold waitsT at hw
 simp only [Bool.or_eq_true, List.any_eq_true, Bool.and_eq_true] at hw
 rcases hw with h | ⟨m, hm, h1, h2⟩
 ·exact eO hd hks hk h
 ·exact eO hd (List.mem_range.1 hm) (eO hd hks hk h1) h2
theorem iu {ops : Array Oper} {listed : Array Bool} {i j : Nat} (hd : Down ops listed) (hi : i ∈ Region.ready .any ops listed) (hj : j ∈ Region.ready .any ops listed) : waitsU ops j i = false := by
 unfold waitsU
 rw [eK hd hi hj, Bool.false_or]
 cases hw : (List.range ops.size).any (fun k => waits ops j k && waitsT ops k i) with
 | false => rfl
 | true =>
  exfalso
  obtain ⟨k, hk, h⟩ := List.any_eq_true.1 hw
  simp only [Bool.and_eq_true] at h
  obtain ⟨h1, h2⟩ := h
  obtain ⟨_, oj, hoj, hall⟩ := mem_ready.1 hj
  have h0 := (mem_ready.1 hi).1
  simp only [waits, hoj, Array.any_eq_true', Bool.and_eq_true, beq_iff_eq] at h1
  obtain ⟨e, he, hb, rfl⟩ := h1
  have hl := lB hd (List.mem_range.1 hk) (hall e he hb) h2
  rcases Nat.lt_or_ge i listed.size with h' | h'
  ·simp [h'] at h0 hl; rw [h0] at hl; cases hl
  ·simp [Array.getElem?_eq_none h'] at hl
section
variable {P : Program} {n : Nat} {Q : Exit → Env → World → Prop} {ρ : Env} {w : World}
theorem oV {ops : Array Oper} {late : Nat → Bool} {Q : Exit → Act → World → Prop} {S : World → Prop} {i : Nat} {oi : Oper} {v : Value} (hi : ops[i]? = some oi)
  (hsel : Region.noSelect ops = true) (hQ : ∀ c a w, Q (.panic c) (a.put oi.dst v) w → Q (.panic c) a w) :
  ∀ (fuel : Nat) (listed : Array Bool) (a : Act) (w : World),
   (∀ j oj, ops[j]? = some oj → j ≠ i → listed.getD j true = false → (∀ e ∈ oj.after, Region.binds .any e = true → e.on ≠ i) → oi.apart ops oj = true) →
   (∀ j, late j = true → waitsU ops j i = true) → Down ops listed →
   i ∈ Region.ready .any ops listed → YieldsIf P ops S oi v a → S w →
   wpL P ops late Q S fuel (listed.setIfInBounds i true) (a.put oi.dst v) w → wpL P ops late Q S (fuel + 1) listed a w := by
 intro fuel
 induction fuel with
 | zero =>
  intro listed a w _ _ _ hr hy hS H
  refine ⟨fun h => (by rw [h] at hr; cases hr), fun j hj => ?_⟩
  by_cases hji : j = i
  ·subst hji; exact hy.wpOp hi hS ⟨fun _ h => h, H⟩
  ·have := ready_mono hj hji
   rw [H.1] at this
   cases this
 | succ fuel ih =>
  intro listed a w hfree hlate hdown hr hy hS H
  refine ⟨fun h => (by rw [h] at hr; cases hr), fun j hj => ?_⟩
  by_cases hji : j = i
  ·subst hji; exact hy.wpOp hi hS ⟨fun _ h => h, H⟩
  ·have hnl : late j = false := by
    cases h : late j with
    | false => rfl
    | true => have := hlate j h; rw [iu hdown hr hj] at this; cases this
   have h1 := H.2 j (ready_mono hj hji)
   obtain ⟨hjun, oj, hoj, hall⟩ := mem_ready.1 hj
   have hnot : ∀ e ∈ oj.after, Region.binds .any e = true → e.on ≠ i := fun e he hb heq => by
    have hw := cA hr hj
    simp only [waits, hoj] at hw
    rw [Array.any_eq_false'] at hw
    exact hw e he (by simp [hb, heq])
   have h2 := wpOp_putIf hoj (hfree j oj hoj hji hjun hnot) (fun cs b => Region.noSelect_spec hsel i oi cs b hi) (fun cs b => Region.noSelect_spec hsel j oj cs b hoj) hQ hy h1
   refine wpOp_mono (fun a' w' h3 => ⟨h3.2.1, ih (listed.setIfInBounds j true) a' w' (fun k ok hk hki hun hno => ?_) hlate (hdown.set hj) (ready_mono hr (Ne.symm hji)) h3.1 (h3.2.1 hnl hS) ?_⟩) h2
   ·refine hfree k ok hk hki ?_ hno
    by_cases hjk : j = k
    ·subst hjk; exact hjun
    ·rw [getD_set_ne true hjk] at hun; exact hun
   ·rw [Array.setIfInBounds_comm _ _ hji]
    exact h3.2.2
def planOKU (ops : Array Oper) (late : List Nat) : List (Nat × Option Bool) → Array Bool → Bool
 | [], listed => (Region.ready .any ops listed).isEmpty
 | (i, none) :: rest, listed => (Region.ready .any ops listed).contains i && (Region.free .any ops listed i && ((!rdAt ops i || late.all (fun j => waitsU ops j i)) && planOKU ops late rest (listed.setIfInBounds i true)))
 | (i, some k) :: rest, listed => (Region.ready .any ops listed == [i]) && ((bif k then !late.contains i else (late.contains i && !needP ops rest)) && planOKU ops late rest (listed.setIfInBounds i true))
theorem e8 {ops : List Oper} {late : List Nat} {S : World → Prop} (hsel : Region.noSelect ops.toArray = true) (hd : ops.all (dstOK n) = true) :
  ∀ (plan : List (Nat × Option Bool)) (listed : Array Bool) (ρ : Env) (a : Act) (w : World), Rel n a ρ → Down ops.toArray listed → planOKU ops.toArray late plan listed = true → (needP ops.toArray plan = true → S w) →
   RR P S ops (Q .normal) (planOps ops plan) ρ w →
   wpL P ops.toArray (fun j => late.contains j) (lift n Q) S plan.length listed a w
 | [], listed, ρ, a, w, hr, _, hp, _, h => ⟨by simpa [planOKU] using hp, ρ, hr, by simpa only [planOps, RR] using h⟩
 | (i, none) :: rest, listed, ρ, a, w, hr, hdn, hp, hS, h => by
  simp only [planOKU, Bool.and_eq_true] at hp
  obtain ⟨h1, h2, h3, h4⟩ := hp
  have hri : i ∈ Region.ready .any ops.toArray listed := by simpa using h1
  obtain ⟨_, o, ho, _⟩ := mem_ready.1 hri
  have ho' : ops[i]? = some o := by simpa using ho
  have hdo : dstOK n o = true := List.all_eq_true.1 hd o (List.mem_of_getElem? ho')
  simp only [planOps, ho', RR] at h
  have hr3 : rdAt ops.toArray i = isRd o := by simp only [rdAt, ho]
  have en : needP ops.toArray ((i, none) :: rest) = (isRd o || needP ops.toArray rest) := by rw [← hr3]; rfl
  rw [en] at hS
  have hSr : needP ops.toArray rest = true → S w := fun hn => hS (by rw [hn]; simp)
  cases hrd : isRd o with
  | true =>
   have hS' : S w := hS (by rw [hrd]; rfl)
   have key : ∃ v, YieldsIf P ops.toArray S o v a ∧ RR P S ops (Q .normal) (planOps ops rest) (updO ρ o.dst v) w := by
    by_cases hw : wantedE ops ρ o = true
    ·rw [if_pos hw] at h
     obtain ⟨v, hv, h⟩ := h
     exact ⟨v, .inl ⟨by rw [hr.wanted]; exact hw, by rw [hr.ev]; exact fun w' hw' => hv w' (fun _ => hw')⟩, h⟩
    ·rw [if_neg hw] at h
     exact ⟨undef, .inr ⟨by rw [hr.wanted]; simpa using hw, rfl⟩, h⟩
   obtain ⟨v, hy, h⟩ := key
   rw [hr3, hrd] at h3
   simp only [Bool.not_true, Bool.false_or] at h3
   refine oV ho hsel (fun _ _ _ h => h) rest.length listed a w (Region.free_spec ho h2) (fun j hj => List.all_eq_true.1 h3 j (by simpa using hj)) hdn hri hy hS' ?_
   exact e8 hsel hd rest _ _ _ w (hr.putO hdo v) (hdn.set hri) h4 hSr h
  | false =>
   have key : ∃ v, Yields P ops.toArray o v a ∧ RR P S ops (Q .normal) (planOps ops rest) (updO ρ o.dst v) w := by
    by_cases hw : wantedE ops ρ o = true
    ·rw [if_pos hw] at h
     obtain ⟨v, hv, h⟩ := h
     exact ⟨v, .inl ⟨by rw [hr.wanted]; exact hw, by rw [hr.ev]; exact fun w' => hv w' (fun hh => by rw [hrd] at hh; cases hh)⟩, h⟩
    ·rw [if_neg hw] at h
     exact ⟨undef, .inr ⟨by rw [hr.wanted]; simpa using hw, rfl⟩, h⟩
   obtain ⟨v, hy, h⟩ := key
   refine eX ho hsel (fun _ _ _ h => h) rest.length listed a w (Region.free_spec ho h2) hri hy ?_
   exact e8 hsel hd rest _ _ _ w (hr.putO hdo v) (hdn.set hri) h4 hSr h
 | (i, some k) :: rest, listed, ρ, a, w, hr, hdn, hp, hS, h => by
  simp only [planOKU, Bool.and_eq_true, beq_iff_eq] at hp
  obtain ⟨h1, h2, h3⟩ := hp
  have hri : i ∈ Region.ready .any ops.toArray listed := by rw [h1]; simp
  obtain ⟨_, o, ho, _⟩ := mem_ready.1 hri
  have ho' : ops[i]? = some o := by simpa using ho
  have hdo : dstOK n o = true := List.all_eq_true.1 hd o (List.mem_of_getElem? ho')
  simp only [planOps, ho', RR] at h
  have en : needP ops.toArray ((i, some k) :: rest) = needP ops.toArray rest := rfl
  rw [en] at hS
  refine ⟨fun h0 => absurd (h1.symm.trans h0) (by simp), fun j hj => ?_⟩
  rw [h1] at hj
  simp only [List.mem_singleton] at hj
  subst hj
  unfold wpOp
  simp only [ho]
  rw [hr.wanted]
  have hkl : late.contains j = false → k = true := fun hl => by
   cases k with
   | true => rfl
   | false => simp only [cond_false, Bool.and_eq_true] at h2; rw [hl] at h2; cases h2.1
  have hkn : needP ops.toArray rest = true → k = true := fun hn => by
   cases k with
   | true => rfl
   | false => simp only [cond_false, Bool.and_eq_true] at h2; rw [hn] at h2; cases h2.2
  split
  ·rename_i hw
   rw [if_pos hw] at h
   exact .inl (OpW.wp hr h fun v w' hn => ⟨fun hl hS1 => hn.1 (hkl hl) hS1, e8 hsel hd rest _ _ _ w' (hr.putO hdo v) (hdn.set hri) h3 (fun hh => hn.1 (hkn hh) (hS hh)) hn.2⟩)
  ·rename_i hw
   rw [if_neg hw] at h
   exact ⟨fun _ h => h, e8 hsel hd rest _ _ _ w (hr.putO hdo undef) (hdn.set hri) h3 hS h⟩
theorem kt {id : Nat} {ops : List Oper} {late : List Nat} {plan : List (Nat × Option Bool)} (S : World → Prop) (hm : P.follows .mixedOrders = true)
  (hc : (Region.noSelect ops.toArray && (ops.all (dstOK n) && (plan.length == ops.length && planOKU ops.toArray late plan (Array.replicate ops.length false)))) = true)
  (hS : S w.drew) (h : RR P S ops (Q .normal) (planOps ops plan) ρ w.drew) : CW P n (.region id ops.toArray true) Q ρ w := by
 unfold CW
 intro a hr
 simp only [Bool.and_eq_true, beq_iff_eq] at hc
 obtain ⟨h1, h2, h3, h4⟩ := hc
 refine wp_region_any hm (dF (late := fun j => late.contains j) (S := S) _ _ _ _ ?_)
 have := e8 h1 h2 plan (Array.replicate ops.length false) ρ a w.drew hr (Down.start _ _) h4 (fun _ => hS) h
 rw [h3] at this
 simpa using this
end
end Go.W
namespace Go.W
open Go
def gotoE (l : Nat) (next : Env → World → Prop) (Q : Exit → Env → World → Prop) : Exit → Env → World → Prop
 | .goto l', ρ, w => l' = l ∧ next ρ w
 | e, ρ, w => Q e ρ w
theorem fN {p : Nat → Prop} (h : ∃ n, p n) : ∃ n, p n ∧ ∀ m, p m → n ≤ m := by
 obtain ⟨n, hn⟩ := h
 induction n using Nat.strongRecOn with
 | _ n ih =>
  by_cases h : ∃ m, m < n ∧ p m
  ·obtain ⟨m, h1, h2⟩ := h; exact ih m h1 h2
  ·refine ⟨n, hn, fun m hm => ?_⟩
   rcases Nat.lt_or_ge m n with h' | h'
   ·exact absurd ⟨m, h', hm⟩ h
   ·exact h'
section
variable {P : Program} {n : Nat} {Q : Exit → Env → World → Prop} {ρ : Env} {w : World}
theorem mS {l : Nat} (h : Q (.goto l) ρ w) : CW P n (.goto l) Q ρ w := by
 unfold CW
 exact fun _ hr => wp_goto ⟨ρ, hr, h⟩
theorem qq {l : Nat} {next : Env → World → Prop} (h : Q .ret ρ w) : gotoE l next Q .ret ρ w := h
theorem iT {l : Nat} {next : Env → World → Prop} (h : Q .normal ρ w) : gotoE l next Q .normal ρ w := h
theorem iB {l : Nat} {next : Env → World → Prop} (h : next ρ w) : gotoE l next Q (.goto l) ρ w := ⟨rfl, h⟩
theorem iC {l : Nat} {next : Env → World → Prop} (h : Q (.goto l) ρ w) : thenE next Q (.goto l) ρ w := by unfold thenE; exact h
theorem ro {ι : Type} {rest : Code} {l : Nat} (M : List Nat) (vals : ι → List (Nat × Value)) (J : ι → World → Prop) (μ : ι → Nat) (s0 : ι) (hv : Has ρ (vals s0)) (h0 : J s0 w)
  (round : ∀ s ξ w, J s w → CW P n rest (gotoE l (Round M vals J μ (μ s) ρ) Q) (over (vals s) (mask M ρ ξ)) w) : CW P n (.scope (.seq (.label l) rest)) Q ρ w := by
 classical
 unfold CW
 intro a hr
 let I : Nat → Act → World → Prop := fun m a w => ∃ s ρ', μ s = m ∧ Rel n a ρ' ∧ J s w ∧ Agree M ρ' ρ ∧ Has ρ' (vals s)
 let m : Act → World → Nat := fun a w => if h : ∃ k, I k a w then (fN h).choose else 0
 have key : ∀ k a w, I k a w → rest.wp P (Exit.jump l (fun a' w' => ∃ k', I k' a' w' ∧ k' < k) (lift n Q)) a w := by
  rintro k a w ⟨s, ρ', rfl, hr', hJ, hA, hH⟩
  have h := round s ρ' w hJ
  rw [iA hA, iN hH] at h
  unfold CW at h
  refine wp_mono (h a hr') fun e a w q => ?_
  cases e <;> simp only [lift, gotoE, Exit.jump] at q ⊢
  case goto => obtain ⟨ρ2, hr2, e, ⟨s', hJ', hlt, hH'⟩, hA'⟩ := q; exact ⟨e, _, ⟨s', ρ2, rfl, hr2, hJ', hA', hH'⟩, hlt⟩
  all_goals exact q
 have hf : findLabel (.seq (.label l) rest) l = some (.seq .skip rest) := by simp [findLabel]
 refine wp_scope_jumps l (fun a w => ∃ k, I k a w) m hf (wp_seq (wp_label ?_)) ?_
 ·show rest.wp P _ a w
  refine wp_mono (key (μ s0) a w ⟨s0, ρ, rfl, hr, h0, aM M ρ, hv⟩) fun e a w q => ?_
  cases e <;> simp only [Exit.jump, lift] at q ⊢
  case goto => obtain ⟨e, k', h1, _⟩ := q; exact ⟨e, k', h1⟩
  all_goals exact q
 ·intro a w hI
  have hs := (fN hI).choose_spec
  have hm : m a w = (fN hI).choose := dif_pos hI
  refine wp_seq (wp_skip ?_)
  show rest.wp P _ a w
  refine wp_mono (key _ a w hs.1) fun e a' w' q => ?_
  cases e <;> simp only [Exit.jump, lift] at q ⊢
  case goto =>
   obtain ⟨e, k', h1, h2⟩ := q
   have hx : ∃ k, I k a' w' := ⟨k', h1⟩
   refine ⟨e, hx, ?_⟩
   have hm' : m a' w' = (fN hx).choose := dif_pos hx
   show m a' w' < m a w
   rw [hm, hm']
   exact Nat.lt_of_le_of_lt ((fN hx).choose_spec.2 _ h1) h2
  all_goals exact q
end
end Go.W
namespace Go.W
structure Joined {ι : Type} (M : List Nat) (vals : ι → List (Nat × Value)) (J : ι → World → Prop) (ρ0 : Env) (ρ : Env) (w : World) : Prop where
 next : ∃ s, J s w ∧ Has ρ (vals s)
 agree : Agree M ρ ρ0
theorem cD {ι : Type} {P : Program} {n : Nat} {Q : Exit → Env → World → Prop} {next : Env → World → Prop} {ρ : Env} {w : World} {x : Code} (M : List Nat) (vals : ι → List (Nat × Value)) (J : ι → World → Prop)
  (h1 : CW P n x (thenE (Joined M vals J ρ) Q) ρ w) (h2 : ∀ s ξ w', J s w' → next (over (vals s) (mask M ρ ξ)) w') : CW P n x (thenE next Q) ρ w := by
 refine h1.mono fun e ρ' w' q => ?_
 cases e <;> unfold thenE at q ⊢
 case normal =>
  obtain ⟨⟨s, hJ, hH⟩, hA⟩ := q
  have := h2 s ρ' w' hJ
  rwa [iA hA, iN hH] at this
 all_goals exact q
section
variable {P : Program} {S : World → Prop} {ops : List Oper} {K : Env → World → Prop} {rest : List (Oper × Option Bool)} {ρ : Env} {w : World} {b : Option Bool} {kf : Bool} {d : Nat} {dst : Option Nat} {T T' : TypeId} {pos : String} {af : Array Edge}
theorem lL {x lo hi : Operand} {g o len cap E s y l h : Nat} {k k' : IntKind} [hT : Slc P T' E s y] (hx : ev ρ x = .slice (some ⟨g, o, none⟩) len cap) (hlo : ev ρ lo = .int k (l : Int)) (hhi : ev ρ hi = .int k' (h : Int))
  (h1 : l ≤ h) (h2 : h ≤ cap) (h3 : l < cap) (hh : RR P S ops K rest (upd ρ d (.slice (some ⟨g, o + l * s, none⟩) (h - l) (cap - l))) w) :
  RR P S ops K ((⟨some d, .slice T' x (some lo) (some hi) none, T, pos, af, none⟩, b) :: rest) ρ w := by
 refine cg rfl (fun w' => ?_) hh
 obtain ⟨i0, hi0, hz⟩ := Option.map_eq_some_iff.1 hT.sz
 simp only [Prod.mk.injEq] at hz
 have e : ∀ n, (⟨g, o, none⟩ : Addr).add n = ⟨g, o + n, none⟩ := fun n => by unfold Addr.add; split <;> simp_all
 have h3' : ¬ cap = l := by omega
 simp [execOp, Instr.sliceAt, Instr.slice, Instr.sliceBounds, Instr.sliceBound, hx, hlo, hhi, asIntOf, underlying, hT.un, sizeOf, typeInfo, hi0, hz.1, h1, h2, h3', e]
theorem lN {x y : Operand} {T1 : TypeId} {g o j Tb : Nat} {k : IntKind} {u : Nat} {xs : List Nat} [hT : Scal P T1] (hx : ev ρ x = .pointer (some (elt (some ⟨g, o, none⟩) j))) (hy : ev ρ y = .int k (u : Int))
  (hb : Blk w g Tb (xs.map fun (n : Nat) => Value.int k n)) (ho : o + j < xs.length) (h : ∀ w', Chg g w w' → Blk w' g Tb ((xs.set (o + j) u).map fun (n : Nat) => Value.int k n) → (kf = true → S w → S w') ∧ RR P S ops K rest ρ w') :
  RR P S ops K ((⟨none, .store T1 x y, T, pos, af, none⟩, some kf) :: rest) ρ w :=
 mN (o := o + j) (by rw [hx]; rfl) hy rfl hb (by simpa using ho) (by rw [List.map_set] at h; exact h)
theorem nG {x : Operand} {T1 : TypeId} {g o j Tb : Nat} {k : IntKind} {xs : List Nat} [Scal P T1] (hx : ev ρ x = .pointer (some (elt (some ⟨g, o, none⟩) j))) (hs : Rd b S w fun w' => Blk w' g Tb (xs.map fun (n : Nat) => Value.int k n))
  (hj : o + j < xs.length) (h : RR P S ops K rest (upd ρ d (.int k ((xs.getD (o + j) 0 : Nat) : Int))) w) : RR P S ops K ((⟨some d, .load T1 x, T, pos, af, none⟩, b) :: rest) ρ w :=
 gH hx (hs.imp fun w' hs => by
  have := hs.cell (j := o + j) (by simpa using hj)
  simp only [elt]
  rw [this]
  simp [List.getD_eq_getElem?_getD, hj]) h
theorem fD {x y : Operand} {m m' : Nat} {T'' : TypeId} (hx : ev ρ x = .int .u64 (m : Int)) (hy : ev ρ y = .int .u64 (m' : Int)) (h2 : m + m' < 18446744073709551616)
  (h : RR P S ops K rest (upd ρ d (.int .u64 ((m + m' : Nat) : Int))) w) : RR P S ops K ((⟨some d, .binOp .add T' x y T'', T, pos, af, none⟩, b) :: rest) ρ w :=
 uv hx hy (by omega) (by omega) (by rw [← Int.natCast_add]; exact h)
theorem ku {x y : Operand} {m m' : Nat} {T'' : TypeId} (hx : ev ρ x = .int .u64 (m : Int)) (hy : ev ρ y = .int .u64 (m' : Int)) (h2 : m * m' < 18446744073709551616)
  (h : RR P S ops K rest (upd ρ d (.int .u64 ((m * m' : Nat) : Int))) w) : RR P S ops K ((⟨some d, .binOp .mul T' x y T'', T, pos, af, none⟩, b) :: rest) ρ w :=
 pO hx hy (by rw [← Int.natCast_mul, dB (by omega) (by omega)]; exact h)
theorem gL {x : Operand} {m : Nat} {T1 T2 : TypeId} [h1 : IntT P T1 .u32] [h2 : IntT P T2 .u64] (hx : ev ρ x = .int .u32 (m : Int)) (hm : m < 4294967296) (h : RR P S ops K rest (upd ρ d (.int .u64 (m : Int))) w) :
  RR P S ops K ((⟨some d, .convert T1 T2 x, T, pos, af, none⟩, b) :: rest) ρ w :=
 d6 hx (dB (by omega) (by omega)) h
theorem dD {x : Operand} {m : Nat} {T1 T2 : TypeId} [h1 : IntT P T1 .u64] [h2 : IntT P T2 .u32] (hx : ev ρ x = .int .u64 (m : Int)) (h : RR P S ops K rest (upd ρ d (.int .u32 ((m % 4294967296 : Nat) : Int))) w) :
  RR P S ops K ((⟨some d, .convert T1 T2 x, T, pos, af, none⟩, b) :: rest) ρ w :=
 km hx (by
  rw [show IntKind.u32.wrap ((m : Nat) : Int) = ((m % 4294967296 : Nat) : Int) from (cT rfl).trans (by simp [IntKind.bits])]
  exact h)
theorem d7 {x y : Operand} {k' : IntKind} {m : Nat} {T'' : TypeId} (hx : ev ρ x = .int .u64 (m : Int)) (hy : ev ρ y = .int k' 32)
  (h : RR P S ops K rest (upd ρ d (.int .u64 ((m / 4294967296 : Nat) : Int))) w) : RR P S ops K ((⟨some d, .binOp .shr T' x y T'', T, pos, af, none⟩, b) :: rest) ρ w :=
 fY (j := 32) hx hy (.inl rfl) (by rw [Nat.shiftRight_eq_div_pow]; exact h)
theorem fE {x y : Operand} {m m' : Nat} {T'' : TypeId} (hx : ev ρ x = .int .i64 (m : Int)) (hy : ev ρ y = .int .i64 (m' : Int)) (h2 : m + m' ≤ 9223372036854775807)
  (h : RR P S ops K rest (upd ρ d (.int .i64 ((m + m' : Nat) : Int))) w) : RR P S ops K ((⟨some d, .binOp .add T' x y T'', T, pos, af, none⟩, b) :: rest) ρ w :=
 aZ hx hy (by omega) (by omega) (by rw [← Int.natCast_add]; exact h)
end
end Go.W
namespace Go.W
section
variable {P : Program} {S : World → Prop} {ops : List Oper} {K : Env → World → Prop} {rest : List (Oper × Option Bool)} {ρ : Env} {w : World} {b : Option Bool} {kf : Bool} {d : Nat} {dst : Option Nat} {T T' : TypeId} {pos : String} {af : Array Edge}
theorem lO {T1 E s y n cap c : Nat} {x1 x2 : Operand} {a ad : Option Addr} [hT : Slc P T1 E s y] (h1 : ev ρ x1 = .slice a n cap) (h2 : ev ρ x2 = .slice ad 0 c) (hn : n ≤ cap)
  (h : RR P S ops K rest (upd ρ d (.slice a n cap)) w) :
  RR P S ops K ((⟨some d, .call ⟨.builtin .append, #[x1, x2], #[T1, T1]⟩, T, pos, af, none⟩, some kf) :: rest) ρ w := by
 refine dA rfl ?_
 unfold OpW
 obtain ⟨i0, hi0, hzz⟩ := Option.map_eq_some_iff.1 hT.sz
 have : (execOp (ev ρ) ⟨some d, .call ⟨.builtin .append, #[x1, x2], #[T1, T1]⟩, T, pos, af, none⟩).run P w = .ok (.value (.slice a n cap)) w := by
  simp [execOp, resolve, invoke, builtin, h1, h2, Builtin.append_, run_underlying hT.un, sizeOf, typeInfo, hi0, Builtin.lenOf, Builtin.firstCells, loadCells, loadCellsFrom]
  cases ad <;> cases a <;> simp [hn, storeCells]
 rw [this]
 exact ⟨fun _ h => h, h⟩
theorem ux {T1 E y m c : Nat} {x1 x2 : Operand} {ad : Option Addr} {news : List Value} {z : Value} [hT : Slc P T1 E 1 y] [hz : Zro P E z] (h1 : ev ρ x1 = .slice none 0 0) (h2 : ev ρ x2 = .slice ad m c)
  (hzs : (Nat.beq z.cells.size 1) = true) (hnews : Sl w ad news) (hl : news.length = m) (ho : news.all Value.oneCell' = true) (hm : m ≤ 9223372036854775807) (hb : m * y ≤ 140737488355328)
  (h : ∀ a' cap' w', Own w' w.heap.size E 1 a' m cap' news → Ex w w' → (kf = true → S w → S w') ∧ RR P S ops K rest (upd ρ d (.slice a' m cap')) w') :
  RR P S ops K ((⟨some d, .call ⟨.builtin .append, #[x1, x2], #[T1, T1]⟩, T, pos, af, none⟩, some kf) :: rest) ρ w := by
 by_cases h0 : m = 0
 ·subst h0
  have hn : news = [] := List.eq_nil_of_length_eq_zero hl
  subst hn
  exact lO h1 h2 (Nat.le_refl _) (h none 0 w (Own.nil _ _ _ _) (Ex.refl _)).2
 ·refine gI (z := z) (s := 1) (c := c) (hzs := Nat.eq_of_beq_eq_true hzs) (hs := rfl) (news := news) (vs := []) (lo := w.heap.size) (h1 := h1) (h2 := h2) (hown := Own.nil _ _ _ _) (hnews := hnews) (hp := hnews.plain (by omega)) (hl := by simp [hl]) (ho := ho) (hm := by omega) (hb := by simpa using hb) (hlo := Nat.le_refl _) ?_
  intro a' cap' w' ho' hg hA
  rw [Nat.zero_add] at ho' ⊢
  exact h a' cap' w' (by simpa using ho') (iP hg (Ex.refl _) (by simp))
end
end Go.W
namespace Go.W
end Go.W
namespace Go.W
section
variable {P : Program} {S : World → Prop} {ops : List Oper} {K : Env → World → Prop} {rest : List (Oper × Option Bool)} {ρ : Env} {w : World} {b : Option Bool} {kf : Bool} {d : Nat} {dst : Option Nat} {T T' : TypeId} {pos : String} {af : Array Edge}
theorem uy {x y : Operand} {k : IntKind} {m : Int} {T'' : TypeId} (hx : ev ρ x = .int k m) (hy : ev ρ y = .int k m) (h : RR P S ops K rest (upd ρ d (.bool true)) w) : RR P S ops K ((⟨some d, .binOp .eql T' x y T'', T, pos, af, none⟩, b) :: rest) ρ w :=
 rd hx hy (by rw [decide_eq_true rfl]; exact h)
theorem uz {x y : Operand} {k : IntKind} {m : Int} {T'' : TypeId} (hx : ev ρ x = .int k m) (hy : ev ρ y = .int k m) (h : RR P S ops K rest (upd ρ d (.bool false)) w) : RR P S ops K ((⟨some d, .binOp .neq T' x y T'', T, pos, af, none⟩, b) :: rest) ρ w :=
 kn hx hy (by rw [decide_eq_false (by simp)]; exact h)
end
theorem ug {n : Int} (h : (Lit.int .u8 n).wf = true) : 0 ≤ n ∧ n ≤ 255 := by simpa [Lit.wf, IntKind.min, IntKind.max, IntKind.signed, IntKind.bits] using h
theorem uh {n : Int} (h : (Lit.int .i8 n).wf = true) : -128 ≤ n ∧ n ≤ 127 := by simpa [Lit.wf, IntKind.min, IntKind.max, IntKind.signed, IntKind.bits] using h
end Go.W
namespace Go.W
section
variable {P : Program} {S : World → Prop} {ops : List Oper} {K : Env → World → Prop} {rest : List (Oper × Option Bool)} {ρ : Env} {w : World} {b : Option Bool} {kf : Bool} {d : Nat} {dst : Option Nat} {T T' : TypeId} {pos : String} {af : Array Edge}
variable {x y : Operand} {k : IntKind} {m m' : Int} {T'' : TypeId}
theorem bC (hx : ev ρ x = .int k m) (hy : ev ρ y = .int k m') (hd : m < m') (h : RR P S ops K rest (upd ρ d (.bool true)) w) : RR P S ops K ((⟨some d, .binOp .lss T' x y T'', T, pos, af, none⟩, b) :: rest) ρ w :=
 t9 hx hy (by rw [decide_eq_true hd]; exact h)
theorem rp (hx : ev ρ x = .int k m) (hy : ev ρ y = .int k m') (hd : m ≤ m') (h : RR P S ops K rest (upd ρ d (.bool true)) w) : RR P S ops K ((⟨some d, .binOp .leq T' x y T'', T, pos, af, none⟩, b) :: rest) ρ w :=
 ub hx hy (by rw [decide_eq_true hd]; exact h)
theorem bA (hx : ev ρ x = .int k m) (hy : ev ρ y = .int k m') (hd : m' ≤ m) (h : RR P S ops K rest (upd ρ d (.bool false)) w) : RR P S ops K ((⟨some d, .binOp .lss T' x y T'', T, pos, af, none⟩, b) :: rest) ρ w :=
 t9 hx hy (by rw [decide_eq_false (by omega)]; exact h)
theorem uA (hx : ev ρ x = .int k m) (hy : ev ρ y = .int k m') (hd : m < m') (h : RR P S ops K rest (upd ρ d (.bool false)) w) : RR P S ops K ((⟨some d, .binOp .geq T' x y T'', T, pos, af, none⟩, b) :: rest) ρ w :=
 ue hx hy (by rw [decide_eq_false (by omega)]; exact h)
theorem uB (hx : ev ρ x = .int k m) (hy : ev ρ y = .int k m') (hd : m' < m) (h : RR P S ops K rest (upd ρ d (.bool true)) w) : RR P S ops K ((⟨some d, .binOp .gtr T' x y T'', T, pos, af, none⟩, b) :: rest) ρ w :=
 ud hx hy (by rw [decide_eq_true hd]; exact h)
theorem gq (hx : ev ρ x = .int k m) (hy : ev ρ y = .int k m') (hd : m ≠ m') (h : RR P S ops K rest (upd ρ d (.bool false)) w) : RR P S ops K ((⟨some d, .binOp .eql T' x y T'', T, pos, af, none⟩, b) :: rest) ρ w :=
 rd hx hy (by rw [decide_eq_false hd]; exact h)
theorem fd (hx : ev ρ x = .int k m) (hy : ev ρ y = .int k m') (hd : m = m') (h : RR P S ops K rest (upd ρ d (.bool false)) w) : RR P S ops K ((⟨some d, .binOp .neq T' x y T'', T, pos, af, none⟩, b) :: rest) ρ w :=
 kn hx hy (by rw [decide_eq_false (by simpa using hd)]; exact h)
theorem jJ (hx : ev ρ x = .int k m) (hy : ev ρ y = .int k m') (hd : m = m') (h : RR P S ops K rest (upd ρ d (.bool true)) w) : RR P S ops K ((⟨some d, .binOp .eql T' x y T'', T, pos, af, none⟩, b) :: rest) ρ w :=
 rd hx hy (by rw [decide_eq_true hd]; exact h)
theorem rq (hx : ev ρ x = .int k m) (hy : ev ρ y = .int k m') (hd : m ≤ m') (h : RR P S ops K rest (upd ρ d (.bool false)) w) : RR P S ops K ((⟨some d, .binOp .gtr T' x y T'', T, pos, af, none⟩, b) :: rest) ρ w :=
 ud hx hy (by rw [decide_eq_false (by omega)]; exact h)
end
end Go.W
namespace Go.W
end Go.W
namespace Go.W
theorem pS {P : Program} {S : World → Prop} {ops : List Oper} {K : Env → World → Prop} {rest : List (Oper × Option Bool)} {ρ : Env} {w : World} {b : Option Bool} {d : Nat} {T T' : TypeId} {pos : String} {af : Array Edge}
  {x : Operand} {f ft off : Nat} {cs : List Value} {v : Value} (hf : (match P.underlying T' with | some (.struct fs) => (fs[f]?).map (fun g => (g.type, g.offset)) | _ => none) = some (ft, off)) [Scal P ft]
  (hx : ev ρ x = .agg cs.toArray) (hv : cs[off]? = some v) (h : RR P S ops K rest (upd ρ d v) w) : RR P S ops K ((⟨some d, .field T' x f, T, pos, af, none⟩, b) :: rest) ρ w := by
 refine cg rfl (fun w' => ?_) h
 split at hf
 ·rename_i fs hfs
  obtain ⟨g, hg, e⟩ := Option.map_eq_some_iff.1 hf
  simp only [Prod.mk.injEq] at e
  have ha := gC (P := P) (w := w') (T := ft)
  simp [execOp, Instr.field, hx, underlying, hfs, hg, asAgg, part, e.1, e.2, ha, hv]
 ·cases hf
end Go.W
