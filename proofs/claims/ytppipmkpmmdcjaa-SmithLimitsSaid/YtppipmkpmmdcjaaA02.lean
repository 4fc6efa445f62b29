import Derived.Test.YtppipmkpmmdcjaaProg
import Derived.Test.YtppipmkpmmdcjaaA01
namespace Go.W
open Go.RowKit (Below)
abbrev Ex (w w' : World) : Prop := Below w.heap.size w w'
theorem Ex.refl (w : World) : Ex w w := Below.refl _ _
theorem Ex.trans {w w1 w2 : World} (h : Ex w w1) (k : Ex w1 w2) : Ex w w2 := Below.trans h (Below.mono k h.size)
theorem Ex.drew {w w1 : World} (h : Ex w w1) : Ex w w1.drew := Below.drew h
structure Chg (g : Nat) (w w' : World) : Prop where
 os : w'.os = w.os
 tape : w'.tape = w.tape
 output : w'.output = w.output
 size : w'.heap.size = w.heap.size
 block : ∀ k, k ≠ g → w'.heap[k]? = w.heap[k]?
theorem Chg.refl (g : Nat) (w : World) : Chg g w w := ⟨rfl, rfl, rfl, rfl, fun _ _ => rfl⟩
theorem Chg.drew {g : Nat} {w w' : World} (h : Chg g w w') : Chg g w w'.drew := ⟨h.os, h.tape, h.output, h.size, h.block⟩
theorem Chg.trans {g : Nat} {w w1 w2 : World} (h : Chg g w w1) (k : Chg g w1 w2) : Chg g w w2 :=
 ⟨k.os.trans h.os, k.tape.trans h.tape, k.output.trans h.output, k.size.trans h.size, fun i hi => (k.block i hi).trans (h.block i hi)⟩
theorem Ex.chg {w w1 w2 : World} {g : Nat} (h : Ex w w1) (c : Chg g w1 w2) (hg : w.heap.size ≤ g) : Ex w w2 :=
 Below.trans h ⟨c.os, c.tape, c.output, Nat.le_of_eq c.size.symm, fun k hk => c.block k (by omega)⟩
theorem Ex.alloc (w : World) (o : Obj) : Ex w (w.alloc o) := Below.alloc (Below.refl _ _) (Nat.le_refl _) o
def Blk (w : World) (g T : Nat) (cs : List Value) : Prop := w.heap[g]? = some (.cells cs.toArray T (0, 0))
theorem Blk.lt {w : World} {g T : Nat} {cs : List Value} (h : Blk w g T cs) : g < w.heap.size := (Array.getElem?_eq_some_iff.1 h).1
theorem Blk.ext {w w' : World} {g T : Nat} {cs : List Value} (h : Blk w g T cs) (e : Ex w w') : Blk w' g T cs := (e.block g h.lt).trans h
theorem Blk.chg {w w' : World} {g g' T : Nat} {cs : List Value} (h : Blk w g T cs) (c : Chg g' w w') (hne : g ≠ g') : Blk w' g T cs := (c.block g hne).trans h
theorem Blk.drew {w : World} {g T : Nat} {cs : List Value} (h : Blk w g T cs) : Blk w.drew g T cs := h
theorem Blk.cell {w : World} {g T : Nat} {cs : List Value} (h : Blk w g T cs) {j : Nat} (hj : j < cs.length) : w.cell? ⟨g, j, none⟩ = some (cs.getD j undef) := by
 unfold Blk at h
 simp [World.cell?, h, hj]
structure New (w w' : World) (g T : Nat) (cs : List Value) : Prop where
 ex : Ex w w'
 lo : w.heap.size ≤ g
 hi : g < w'.heap.size
 blk : Blk w' g T cs
theorem New.of_alloc (w : World) (T : Nat) (cs : List Value) : New w (w.alloc (.cells cs.toArray T)) w.heap.size T cs :=
 ⟨Ex.alloc w _, Nat.le_refl _, by simp, heap_alloc_new w _⟩
theorem dk {w : World} {g T : Nat} {cs cs' : List Value} (h : Blk w g T cs) : Chg g w (w.setRow g cs'.toArray) ∧ Blk (w.setRow g cs'.toArray) g T cs' :=
 ⟨⟨rfl, rfl, rfl, by simp, fun k hk => setRow_other w g k _ hk⟩, setRow_heap w g _ _ T _ h⟩
structure Sl (w : World) (a : Option Addr) (vs : List Value) : Prop where
 ok : vs ≠ [] → plain a
 get : ∀ j, j < vs.length → w.cell? (elt a j) = some (vs.getD j undef)
theorem Sl.nil (w : World) (a : Option Addr) : Sl w a [] := ⟨fun h => absurd rfl h, fun j hj => absurd hj (by simp)⟩
theorem Sl.plain {w : World} {a : Option Addr} {vs : List Value} (h : Sl w a vs) (hl : 0 < vs.length) : W.plain a := h.ok (by intro e; subst e; simp at hl)
theorem Sl.ext {w w' : World} {a : Option Addr} {vs : List Value} (h : Sl w a vs) (e : Ex w w') : Sl w' a vs :=
 ⟨h.ok, fun j hj => by rw [World.cell?_of_block (w := w) (e.block _ (World.block_lt_of_cell? w _ (h.get j hj)))]; exact h.get j hj⟩
theorem Sl.chg {w w' : World} {a : Option Addr} {vs : List Value} {g : Nat} (h : Sl w a vs) (c : Chg g w w') (hne : ∀ ad, a = some ad → ad.block ≠ g) : Sl w' a vs := by
 refine ⟨h.ok, fun j hj => ?_⟩
 obtain ⟨b, o, rfl⟩ := h.plain (by omega)
 rw [World.cell?_of_block (w := w) (a := elt (some ⟨b, o, none⟩) j) (c.block b (hne _ rfl))]; exact h.get j hj
theorem Sl.lt {w : World} {a : Option Addr} {vs : List Value} (h : Sl w a vs) (hl : 0 < vs.length) : ∀ ad, a = some ad → ad.block < w.heap.size := by
 intro ad e
 have := World.block_lt_of_cell? w _ (h.get 0 hl)
 subst e
 exact this
theorem Blk.sl {w : World} {g T : Nat} {cs : List Value} (h : Blk w g T cs) : Sl w (some ⟨g, 0, none⟩) cs :=
 ⟨fun _ => ⟨g, 0, rfl⟩, fun j hj => by simp only [elt, Nat.zero_add]; exact h.cell hj⟩
theorem Sl.take {w : World} {a : Option Addr} {vs : List Value} (h : Sl w a vs) (n : Nat) : Sl w a (vs.take n) :=
 ⟨fun hne => h.ok (by intro e; subst e; simp at hne), fun j hj => by
  simp only [List.length_take] at hj
  rw [h.get j (by omega), List.getD_eq_getElem?_getD, List.getD_eq_getElem?_getD, List.getElem?_take, if_pos (by omega)]⟩
abbrev Own (w : World) (lo T s : Nat) (a : Option Addr) (n cap : Nat) (vs : List Value) : Prop := w.ownsRow lo T s (.slice a n cap) n vs
theorem Own.sl {w : World} {lo T s n cap : Nat} {a : Option Addr} {vs : List Value} (h : Own w lo T s a n cap vs) : Sl w a vs := by
 rcases h.2 with ⟨hv, hn⟩ | ⟨g, c, cur, hv, hg, hb, h1, h2, h3, h4⟩
 ·have : vs = [] := List.eq_nil_of_length_eq_zero (by rw [h.1, hn]; simp)
  subst this
  exact Sl.nil _ _
 ·simp only [Value.slice.injEq] at hv
  obtain ⟨rfl, _, rfl⟩ := hv
  have : Sl w (some ⟨g, 0, none⟩) cur.toList := Blk.sl (T := T) (by unfold Blk; simpa using hb)
  rw [← h4]
  exact this.take _
theorem Own.nil (w : World) (lo T s : Nat) : Own w lo T s none 0 0 [] := World.ownsRow_nil w lo T s
theorem Own.lo {w : World} {lo T s n cap : Nat} {a : Option Addr} {vs : List Value} (h : Own w lo T s a n cap vs) : ∀ ad, a = some ad → lo ≤ ad.block ∧ ad.block < w.heap.size := by
 intro ad e
 subst e
 exact World.ownsRow.lt h _ rfl
theorem Blk.own {w : World} {g T s n lo : Nat} {cs : List Value} (h : Blk w g T cs) (hl : cs.length = n * s) (hm : n ≤ maxLen) (hlo : lo ≤ g) : Own w lo T s (some ⟨g, 0, none⟩) n n cs :=
 ⟨hl, .inr ⟨g, n, cs.toArray, rfl, hlo, h, Nat.le_refl _, hm, by simpa using hl, by rw [← hl]; simp⟩⟩
theorem gI {w w' : World} {a : Option Addr} {n cap : Nat} (h : w.grownBy w' (Value.slice a n cap).ownBlock) {w0 : World} (e : Ex w0 w) (hlo : ∀ ad, a = some ad → w0.heap.size ≤ ad.block) : Ex w0 w' :=
 Below.trans e ⟨h.os, h.tape, h.output, h.size, fun k hk => h.block k (by have := e.size; omega) (fun e2 => by
  cases a with
  | none => simp [Value.ownBlock] at e2
  | some ad => simp only [Value.ownBlock, Option.some.injEq] at e2; have := hlo ad rfl; omega)⟩
theorem jO {w w' : World} (h : Ex w w') : w.grownBy w' none := ⟨h.os, h.tape, h.output, h.size, fun k hk _ => h.block k hk⟩
theorem bc {w w' : World} {g : Nat} (h : Chg g w w') : w.grownBy w' (some g) := ⟨h.os, h.tape, h.output, Nat.le_of_eq h.size.symm, fun k _ hk => h.block k (fun e => hk (by rw [e]))⟩
theorem pX {w w' : World} {r : Option Nat} (h : w.grownBy w' r) : w.grownBy w'.drew r := ⟨h.os, h.tape, h.output, h.size, h.block⟩
theorem Ex.gb {w0 w w' : World} {r : Option Nat} (e : Ex w0 w) (h : w.grownBy w' r) (hr : ∀ k, r = some k → w0.heap.size ≤ k) : Ex w0 w' :=
 Below.trans e ⟨h.os, h.tape, h.output, h.size, fun k hk => h.block k (by have := e.size; omega) (fun e2 => by have := hr k e2.symm; omega)⟩
theorem bC {w w1 w2 : World} {r r' : Option Nat} (h1 : w.grownBy w1 r) (h2 : w1.grownBy w2 r') (hr : ∀ k, r' = some k → r = some k ∨ w.heap.size ≤ k) : w.grownBy w2 r :=
 ⟨h2.os.trans h1.os, h2.tape.trans h1.tape, h2.output.trans h1.output, Nat.le_trans h1.size h2.size, fun k hk hne =>
  (h2.block k (by have := h1.size; omega) (fun e => by rcases hr k e.symm with h | h; exact hne h.symm; omega)).trans (h1.block k hk hne)⟩
theorem Blk.gb {w w' : World} {g T : Nat} {cs : List Value} {r : Option Nat} (h : Blk w g T cs) (hg : w.grownBy w' r) (hne : r ≠ some g) : Blk w' g T cs := (hg.block g h.lt (Ne.symm hne)).trans h
theorem Sl.gb {w w' : World} {a : Option Addr} {vs : List Value} {r : Option Nat} (h : Sl w a vs) (hg : w.grownBy w' r) (hne : ∀ ad, a = some ad → r ≠ some ad.block) : Sl w' a vs := by
 refine ⟨h.ok, fun j hj => ?_⟩
 have hc := h.get j hj
 obtain ⟨g, o, rfl⟩ := h.plain (by omega)
 rw [World.cell?_of_block (w := w) (a := elt (some ⟨g, o, none⟩) j) (hg.block g (World.block_lt_of_cell? w _ hc) (fun e => hne _ rfl e.symm))]
 exact hc
theorem kr {α : Type} {f : α → Value} (h : ∀ x, (f x).oneCell' = true) (xs : List α) : (xs.map f).all Value.oneCell' = true := by
 rw [List.all_eq_true]; intro v hv; obtain ⟨x, _, rfl⟩ := List.mem_map.1 hv; exact h x
class Str (P : Program) (T : TypeId) (pl : outParam (List (Nat × Nat))) : Prop where
 ok : (match P.underlying T with | some (.struct fs) => some (fs.toList.map fun f => (f.offset, (P.info? f.type).map (·.size))) | _ => none) = some (pl.map fun p => (p.1, some p.2))
class Fun (P : Program) (f : Nat) : Prop where
 ok : (match P.funcs[f]? with | some fn => fn.name != "runtime.NumGoroutine" && fn.body.isSome | none => false) = true
section
variable {P : Program} {S : World → Prop} {ops : List Oper} {K : Env → World → Prop} {rest : List (Oper × Option Bool)} {ρ : Env} {w : World} {b : Option Bool} {kf : Bool} {d : Nat} {dst : Option Nat} {T T' : TypeId} {pos : String} {af : Array Edge}
theorem gJ {f : Nat} [hf : Fun P f] (args : Array Value) : (callFunc f args).run P w = .ok (.enter f args) w := by
 have h := hf.ok
 unfold callFunc
 cases hfn : P.funcs[f]? with
 | none => simp [hfn] at h
 | some fn =>
  simp only [hfn, Bool.and_eq_true, bne_iff_ne, ne_eq] at h
  have h2 : fn.body ≠ none := by intro hb; rw [hb] at h; simp at h
  simp [hfn, h.1, h2]
theorem ax {f : Nat} {l : List Operand} {ts : Array TypeId} [Fun P f] {args : Array Value} {R : Value → World → Prop} (hc : CallsR P f args w R) (ha : (l.map (ev ρ)).toArray = args)
  (h : ∀ v w', R v w' → (kf = true → S w → S w') ∧ RR P S ops K rest (updO ρ dst v) w') :
  RR P S ops K ((⟨dst, .call ⟨.value (.func f), l.toArray, ts⟩, T, pos, af, none⟩, some kf) :: rest) ρ w := by
 subst ha
 refine cQ rfl ?_
 unfold OpW
 have : (execOp (ev ρ) ⟨dst, .call ⟨.value (.func f), l.toArray, ts⟩, T, pos, af, none⟩).run P w = .ok (.enter f (l.map (ev ρ)).toArray) w := by
  simp [execOp, resolve, Deferred.ofValue, ev, invoke, gJ]
 rw [this]
 exact hc.mono h
theorem gK {fn : Fn} {l1 l2 : List Operand} (h : RR P S ops K rest (upd ρ d (.func fn (l1.map (ev ρ)).toArray (l2.map (ev ρ)).toArray)) w) :
  RR P S ops K ((⟨some d, .makeFunc fn l1.toArray l2.toArray, T, pos, af, none⟩, b) :: rest) ρ w :=
 bN rfl (fun w' => by simp [execOp, Instr.makeFunc]) h
theorem pY {f : Nat} {x : Operand} {first cap : Array Value} {l : List Operand} {ts : Array TypeId} [Fun P f] {args : Array Value} {R : Value → World → Prop} (hx : ev ρ x = .func (.func f) first cap)
  (hc : CallsR P f args w R) (ha : first ++ (l.map (ev ρ)).toArray ++ cap = args)
  (h : ∀ v w', R v w' → (kf = true → S w → S w') ∧ RR P S ops K rest (updO ρ dst v) w') :
  RR P S ops K ((⟨dst, .call ⟨.value x, l.toArray, ts⟩, T, pos, af, none⟩, some kf) :: rest) ρ w := by
 subst ha
 refine cQ rfl ?_
 unfold OpW
 have : (execOp (ev ρ) ⟨dst, .call ⟨.value x, l.toArray, ts⟩, T, pos, af, none⟩).run P w = .ok (.enter f (first ++ (l.map (ev ρ)).toArray ++ cap)) w := by
  simp [execOp, resolve, Deferred.ofValue, hx, invoke, gJ]
 rw [this]
 exact hc.mono h
theorem gL {T1 : TypeId} {n g o Tb : Nat} {v : Value} {cs : List Value} (hsz : (P.info? T1).map (·.size) = some n) (hn : v.cells.size = n) (h1 : ∀ u ∈ v.cells.toList, u.oneCell' = true)
  (hb : Blk w g Tb cs) (ho : o + n ≤ cs.length) :
  (storeVar T1 ⟨g, o, none⟩ v).run P w = .ok () (w.setRow g (cs.take o ++ v.cells.toList ++ cs.drop (o + n)).toArray) := by
 unfold storeVar
 rw [Sem.run_bind_ok (eM hsz)]
 have hst := run_storeCells_at P g o Tb v.cells.toList 0 cs.toArray w hb (by simp; omega) h1
 simp [hn] at hst ⊢
 exact hst
theorem kt {x y : Operand} {T1 : TypeId} {g o Tb : Nat} {v : Value} {cs : List Value} [hT : Scal P T1] (hx : ev ρ x = .pointer (some ⟨g, o, none⟩)) (hy : ev ρ y = v) (hv : v.oneCell' = true)
  (hb : Blk w g Tb cs) (ho : o < cs.length) (h : ∀ w', Chg g w w' → Blk w' g Tb (cs.set o v) → (kf = true → S w → S w') ∧ RR P S ops K rest ρ w') :
  RR P S ops K ((⟨none, .store T1 x y, T, pos, af, none⟩, some kf) :: rest) ρ w := by
 refine cQ rfl ?_
 unfold OpW
 have hcells : v.cells = #[v] := by cases v <;> simp [Value.oneCell'] at hv <;> rfl
 have hr := gL (P := P) (w := w) (T1 := T1) (v := v) (o := o) (n := 1) hT.sz (by simp [hcells]) (by simp [hcells, hv]) hb (by omega)
 have e : cs.take o ++ v.cells.toList ++ cs.drop (o + 1) = cs.set o v := by
  rw [List.set_eq_take_append_cons_drop, if_pos ho]; simp [hcells]
 rw [e] at hr
 have : (execOp (ev ρ) ⟨none, .store T1 x y, T, pos, af, none⟩).run P w = .ok .skip (w.setRow g (cs.set o v).toArray) := by
  simp [execOp, Instr.storeAt, hx, hy, Instr.sureAddr, hr]
 rw [this]
 exact h _ (dk hb).1 (dk hb).2
theorem eO {x y : Operand} {T1 : TypeId} {g j Tb : Nat} {v : Value} {cs : List Value} [hT : Scal P T1] (hx : ev ρ x = .pointer (some (elt (some ⟨g, 0, none⟩) j))) (hy : ev ρ y = v) (hv : v.oneCell' = true)
  (hb : Blk w g Tb cs) (ho : j < cs.length) (h : ∀ w', Chg g w w' → Blk w' g Tb (cs.set j v) → (kf = true → S w → S w') ∧ RR P S ops K rest ρ w') :
  RR P S ops K ((⟨none, .store T1 x y, T, pos, af, none⟩, some kf) :: rest) ρ w :=
 kt (o := j) (by rw [hx]; simp [elt]) hy hv hb ho h
theorem kX {x y : Operand} {T1 : TypeId} {n g o Tb : Nat} {vs cs : List Value} [hT : Agg P T1 n] (hx : ev ρ x = .pointer (some ⟨g, o, none⟩)) (hy : ev ρ y = .agg vs.toArray) (hl : vs.length = n)
  (h1 : vs.all Value.oneCell' = true) (hb : Blk w g Tb cs) (ho : o + n ≤ cs.length)
  (h : ∀ w', Chg g w w' → Blk w' g Tb (cs.take o ++ vs ++ cs.drop (o + n)) → (kf = true → S w → S w') ∧ RR P S ops K rest ρ w') :
  RR P S ops K ((⟨none, .store T1 x y, T, pos, af, none⟩, some kf) :: rest) ρ w := by
 refine cQ rfl ?_
 unfold OpW
 have hr := gL (P := P) (w := w) (T1 := T1) (v := .agg vs.toArray) (o := o) (n := n) hT.sz (by simpa [Value.cells] using hl) (by simpa [Value.cells] using h1) hb ho
 have : (execOp (ev ρ) ⟨none, .store T1 x y, T, pos, af, none⟩).run P w = .ok .skip (w.setRow g (cs.take o ++ vs ++ cs.drop (o + n)).toArray) := by
  simp only [execOp, Instr.storeAt, hx, hy, Instr.sureAddr]
  simp [Value.cells] at hr
  simp [hr]
 rw [this]
 exact h _ (dk hb).1 (dk hb).2
theorem aw {x y : Operand} {T1 : TypeId} {n g Tb : Nat} {vs cs : List Value} [hT : Agg P T1 n] (hx : ev ρ x = .pointer (some ⟨g, 0, none⟩)) (hy : ev ρ y = .agg vs.toArray) (hl : vs.length = n)
  (h1 : vs.all Value.oneCell' = true) (hb : Blk w g Tb cs) (ho : cs.length = n)
  (h : ∀ w', Chg g w w' → Blk w' g Tb vs → (kf = true → S w → S w') ∧ RR P S ops K rest ρ w') :
  RR P S ops K ((⟨none, .store T1 x y, T, pos, af, none⟩, some kf) :: rest) ρ w :=
 kX hx hy hl h1 hb (by omega) (by
  have e : cs.take 0 ++ vs ++ cs.drop (0 + n) = vs := by rw [Nat.zero_add, ← ho]; simp
  rw [e]; exact h)
theorem aD {T1 : TypeId} {z : Value} [Zro P T1 z] (h : ∀ g w', New w w' g T1 z.cells.toList → (kf = true → S w → S w') ∧ RR P S ops K rest (upd ρ d (.pointer (some ⟨g, 0, none⟩))) w') :
  RR P S ops K ((⟨some d, .alloc T1, T, pos, af, none⟩, some kf) :: rest) ρ w := by
 refine cQ rfl ?_
 unfold OpW
 have hz := fw (P := P) (w := w) (T := T1) (v := z)
 have : (execOp (ev ρ) ⟨some d, .alloc T1, T, pos, af, none⟩).run P w = .ok (.value (.pointer (some ⟨w.heap.size, 0, none⟩))) (w.alloc (.cells z.cells T1)) := by
  simp [execOp, Instr.alloc, hz, newVar, newRow]
 rw [this]
 exact h _ _ (by have := New.of_alloc w T1 z.cells.toList; simpa using this)
theorem qF {x : Operand} {T1 : TypeId} {v : Value} (hx : ev ρ x = v) (h : ∀ g w', New w w' g T1 v.cells.toList → (kf = true → S w → S w') ∧ RR P S ops K rest (upd ρ d (.pointer (some ⟨g, 0, none⟩))) w') :
  RR P S ops K ((⟨some d, .box T1 x, T, pos, af, none⟩, some kf) :: rest) ρ w := by
 refine cQ rfl ?_
 unfold OpW
 have : (execOp (ev ρ) ⟨some d, .box T1 x, T, pos, af, none⟩).run P w = .ok (.value (.pointer (some ⟨w.heap.size, 0, none⟩))) (w.alloc (.cells v.cells T1)) := by
  simp [execOp, Instr.box, hx, newVar, newRow]
 rw [this]
 exact h _ _ (by have := New.of_alloc w T1 v.cells.toList; simpa using this)
theorem bM {x : Operand} {T1 : TypeId} {vs : List Value} (hx : ev ρ x = .agg vs.toArray) (h : ∀ g w', New w w' g T1 vs → (kf = true → S w → S w') ∧ RR P S ops K rest (upd ρ d (.pointer (some ⟨g, 0, none⟩))) w') :
  RR P S ops K ((⟨some d, .box T1 x, T, pos, af, none⟩, some kf) :: rest) ρ w := qF hx h
theorem jb {x : Operand} {T1 : TypeId} {v : Value} (hx : ev ρ x = v) (h1 : v.oneCell' = true) (h : ∀ g w', New w w' g T1 [v] → (kf = true → S w → S w') ∧ RR P S ops K rest (upd ρ d (.pointer (some ⟨g, 0, none⟩))) w') :
  RR P S ops K ((⟨some d, .box T1 x, T, pos, af, none⟩, some kf) :: rest) ρ w :=
 qF hx (by
  have hcells : v.cells = #[v] := by cases v <;> simp [Value.oneCell'] at h1 <;> rfl
  rw [hcells]; exact h)
theorem jc (w : World) : ∀ (fs : List Field) (pl : List (Nat × Nat)), (fs.map fun f => (f.offset, (P.info? f.type).map (·.size))) = (pl.map fun p => (p.1, some p.2)) →
  (fs.mapM fun f => do pure (f.offset, ← sizeOf f.type) : Sem (List (Nat × Nat))).run P w = .ok pl w
 | [], [], _ => rfl
 | [], _ :: _, h => by simp at h
 | _ :: _, [], h => by simp at h
 | f :: fs, p :: pl, h => by
  simp only [List.map_cons, List.cons.injEq, Prod.mk.injEq] at h
  have h1 := eM (P := P) (w := w) h.1.2
  have h2 := jc w fs pl h.2
  simp only [List.mapM_cons]
  rw [Sem.run_bind_ok (Sem.run_bind_ok h1 : _ = Result.ok (f.offset, p.2) w), Sem.run_bind_ok h2, h.1.1]
  rfl
theorem cD {T1 : TypeId} {pl : List (Nat × Nat)} {l : List (Nat × Operand)} {z : Value} {cs : List Value} [hT : Str P T1 pl] [Zro P T1 z]
  (hc : Instr.fill (fun i => pl[i]?) z.cells (l.map fun p => (p.1, ev ρ p.2)) = some cs.toArray) (h : RR P S ops K rest (upd ρ d (.agg cs.toArray)) w) :
  RR P S ops K ((⟨some d, .build T1 l.toArray, T, pos, af, none⟩, b) :: rest) ρ w := by
 refine bN rfl (fun w' => ?_) h
 have hok := hT.ok
 split at hok
 ·rename_i fs hfs
  have hr := jc (P := P) w' fs.toList pl (Option.some.inj hok)
  have hz := fw (P := P) (w := w') (T := T1) (v := z)
  have hm : (fs.mapM fun f => do pure (f.offset, ← sizeOf f.type) : Sem (Array (Nat × Nat))).run P w' = .ok pl.toArray w' := by
   rw [Array.mapM_eq_mapM_toList]
   simp only [map_eq_pure_bind]
   rw [Sem.run_bind_ok hr]; rfl
  simp only [execOp, Instr.build]
  rw [Sem.run_bind_ok (v := .agg cs.toArray) (w' := w')]
  ·rfl
  ·rw [Sem.run_bind_ok hz]
   simp only [underlying]
   simp [hfs]
   simp at hm hc
   simp [hm, hc]
 ·cases hok
theorem eP {T1 E s y n : Nat} {ps : Array (Nat × Operand)} {z : Value} {cs : Array Value} [hT : Slc P T1 E s y] [Zro P E z] (hs : Nat.ble (n * s) 16777216 = true)
  (hc : Instr.fill (fun i => some (i * s, s)) ((Array.range (n * s)).map (z.cells[· % z.cells.size]!)) (ps.map fun (i, x) => (i, ev ρ x)).toList = some cs)
  (h : ∀ g w', New w w' g E cs.toList → (kf = true → S w → S w') ∧ RR P S ops K rest (upd ρ d (.slice (some ⟨g, 0, none⟩) n n)) w') :
  RR P S ops K ((⟨some d, .buildSlice T1 n ps, T, pos, af, none⟩, some kf) :: rest) ρ w := by
 refine cQ rfl ?_
 unfold OpW
 have hz := fw (P := P) (w := w) (T := E) (v := z)
 obtain ⟨i0, hi0, hzz⟩ := Option.map_eq_some_iff.1 hT.sz
 simp only [Prod.mk.injEq] at hzz
 have hs' : ¬ n * s > 16777216 := by have := Nat.le_of_ble_eq_true hs; omega
 have : (execOp (ev ρ) ⟨some d, .buildSlice T1 n ps, T, pos, af, none⟩).run P w = .ok (.value (.slice (some ⟨w.heap.size, 0, none⟩) n n)) (w.alloc (.cells cs E)) := by
  simp only [execOp, Instr.buildSlice]
  have hu := run_underlying (P := P) (t := T1) hT.un w
  have hsz : (sizeOf E).run P w = .ok s w := eM (by rw [hi0]; simp [hzz.1])
  by_cases h0 : n * s = 0
  ·have e0 : (Array.range (n * s)).map (z.cells[· % z.cells.size]!) = (Array.range (n * s)).map ((#[] : Array Value)[· % 0]!) := by rw [h0]; simp
   rw [e0] at hc
   simp [hu, hsz, h0, newRow] at hc ⊢
   simp [hc]
  ·simp [hu, hsz, hs', hz, h0] at hc ⊢
   simp [hc, newRow]
 rw [this]
 exact h _ _ (by have := New.of_alloc w E cs.toList; simpa using this)
theorem oA {T1 E s y n : Nat} {x1 x2 : Operand} {z : Value} [hT : Slc P T1 E s y] [hz : Zro P E z] (h1 : ev ρ x1 = .int .i64 n) (h2 : ev ρ x2 = .int .i64 n) (hb : y * n ≤ 281474976710656) (hm : n ≤ 9223372036854775807)
  (h : ∀ g w', New w w' g E (madeCells z.cells (n * s)).toList → (kf = true → S w → S w') ∧ RR P S ops K rest (upd ρ d (.slice (some ⟨g, 0, none⟩) n n)) w') :
  RR P S ops K ((⟨some d, .makeSlice T1 x1 x2, T, pos, af, none⟩, some kf) :: rest) ρ w := by
 refine cQ rfl ?_
 unfold OpW
 obtain ⟨i0, hi0, hzz⟩ := Option.map_eq_some_iff.1 hT.sz
 simp only [Prod.mk.injEq] at hzz
 obtain ⟨i1, hi1, hz1⟩ := Option.map_eq_some_iff.1 hz.ok
 rw [hi0] at hi1
 simp only [Option.some.injEq] at hi1
 subst hi1
 have hr := run_make (P := P) w T1 E i0 z hT.un hi0 hz1 .i64 .i64 n n (by omega) (Int.le_refl _) (by rw [hzz.2, ← Int.natCast_mul]; omega) (by omega)
 simp only [Int.toNat_natCast, hzz.1] at hr
 have : (execOp (ev ρ) ⟨some d, .makeSlice T1 x1 x2, T, pos, af, none⟩).run P w = .ok (.value (.slice (some ⟨w.heap.size, 0, none⟩) n n)) (w.alloc (.cells (madeCells z.cells (n * s)) E)) := by
  simp [execOp, h1, h2, hr]
 rw [this]
 exact h _ _ (by have := New.of_alloc w E (madeCells z.cells (n * s)).toList; simpa using this)
theorem iT {T1 E y n : Nat} {x1 x2 : Operand} {z : Value} [hT : Slc P T1 E 1 y] [hz : Zro P E z] (hz1 : z.cells = #[z]) (h1 : ev ρ x1 = .int .i64 n) (h2 : ev ρ x2 = .int .i64 n) (hb : y * n ≤ 281474976710656) (hm : n ≤ 9223372036854775807)
  (h : ∀ g w', New w w' g E (List.replicate n z) → (kf = true → S w → S w') ∧ RR P S ops K rest (upd ρ d (.slice (some ⟨g, 0, none⟩) n n)) w') :
  RR P S ops K ((⟨some d, .makeSlice T1 x1 x2, T, pos, af, none⟩, some kf) :: rest) ρ w :=
 oA h1 h2 hb hm (fun g w' hn => h g w' (by rw [hz1, Nat.mul_one, toList_madeCells_one] at hn; exact hn))
theorem fT {T1 E y n : Nat} {k : IntKind} {x1 x2 : Operand} [hT : Slc P T1 E 1 y] [hz : Zro P E (.int k 0)] (h1 : ev ρ x1 = .int .i64 n) (h2 : ev ρ x2 = .int .i64 n) (hb : y * n ≤ 281474976710656) (hm : n ≤ 9223372036854775807)
  (h : ∀ g w', New w w' g E ((List.replicate n (0 : Nat)).map fun (m : Nat) => Value.int k m) → (kf = true → S w → S w') ∧ RR P S ops K rest (upd ρ d (.slice (some ⟨g, 0, none⟩) n n)) w') :
  RR P S ops K ((⟨some d, .makeSlice T1 x1 x2, T, pos, af, none⟩, some kf) :: rest) ρ w :=
 iT rfl h1 h2 hb hm (by simpa using h)
theorem ku {T1 E s y n cap m c lo : Nat} {i0 : TypeInfo} {z v' : Value} {w' : World} {a : Option Addr} {ad : Addr} {vs news : List Value} (ht : P.underlying T1 = some (.slice E)) (hi : P.info? E = some i0) (hz : i0.zero = some z)
  (hsz : i0.size = s) (hby : i0.bytes = y) (hown : Own w lo E s a n cap vs) (hl : news.length = m * s) (hnews : ∀ j u, news[j]? = some u → w.cell? (ad.add j) = some u) (ho : ∀ u ∈ news, u.oneCell' = true)
  (hm : n + m ≤ 9223372036854775807) (hb : (n + m) * y ≤ 140737488355328)
  (hr : (Builtin.append_ #[T1, T1] T #[.slice a n cap, .slice (some ad) m c]).run P w = .ok v' w') : ∀ a' n' cap', v' = .slice a' n' cap' → a' = a ∨ ∀ x, a' = some x → w.heap.size ≤ x.block := by
 subst hsz hby
 intro a' n' cap' hv'
 subst hv'
 rcases hown.2 with ⟨hv, hn⟩ | ⟨g, cap2, cur, hv, hbg, hg, hnc, hcm, hcs, htake⟩
 ·simp only [Value.slice.injEq] at hv
  obtain ⟨rfl, rfl, rfl⟩ := hv
  by_cases hm0 : m = 0
  ·subst hm0
   simp [Builtin.append_, run_underlying ht, sizeOf, typeInfo, hi, Builtin.lenOf, Builtin.firstCells, loadCells, loadCellsFrom] at hr
   exact .inl hr.1.1.symm
  ·have := run_append_nil (P := P) w T1 T E i0 z ht hi hz ad m c news hl hnews (by omega) (by omega) (by simp only [Nat.zero_add] at hb; omega)
   rw [this] at hr
   simp only [Result.ok.injEq, Value.slice.injEq] at hr
   right; intro x hx; rw [← hr.1.1] at hx; cases hx; exact Nat.le_refl _
 ·simp only [Value.slice.injEq] at hv
  obtain ⟨rfl, _, rfl⟩ := hv
  by_cases hroom : n + m ≤ cap
  ·have hfit : n * i0.size + news.length ≤ cur.size := by rw [hl, hcs, ← Nat.add_mul]; exact Nat.mul_le_mul_right _ hroom
   have := run_append_room (P := P) w T1 T E i0 ht hi g n cap cur hg ad m c news hl hnews ho hroom hfit
   rw [this] at hr
   simp only [Result.ok.injEq, Value.slice.injEq] at hr
   exact .inl hr.1.1.symm
  ·have holds : ∀ j u, vs[j]? = some u → w.cell? ((⟨g, 0, none⟩ : Addr).add j) = some u := World.ownsRow.cells hown (g := g) rfl
   have := run_append_grow (P := P) w T1 T E i0 z ht hi hz ⟨g, 0, none⟩ n cap vs hown.1 holds ad m c news hl hnews (by omega) (by omega) (growslice_fits (by omega) hb)
   rw [this] at hr
   simp only [Result.ok.injEq, Value.slice.injEq] at hr
   right; intro x hx; rw [← hr.1.1] at hx; cases hx; exact Nat.le_refl _
theorem fC {T1 E s y n cap m c : Nat} {x1 x2 : Operand} {a ad : Option Addr} {lo : Nat} {vs news : List Value} {z : Value} [hT : Slc P T1 E s y] [hz : Zro P E z] (h1 : ev ρ x1 = .slice a n cap) (h2 : ev ρ x2 = .slice ad m c)
  (hs : Nat.ble 1 s = true) (hzs : z.cells.size = s) (hown : Own w lo E s a n cap vs) (hnews : Sl w ad news) (hp : W.plain ad) (hl : news.length = m * s) (ho : news.all Value.oneCell' = true)
  (hm : n + m ≤ 9223372036854775807) (hb : (n + m) * y ≤ 140737488355328) (hlo : lo ≤ w.heap.size)
  (h : ∀ a' cap' w', Own w' lo E s a' (n + m) cap' (vs ++ news) → w.grownBy w' (Value.slice a n cap).ownBlock → (a' = a ∨ ∀ x, a' = some x → w.heap.size ≤ x.block) → (kf = true → S w → S w') ∧ RR P S ops K rest (upd ρ d (.slice a' (n + m) cap')) w') :
  RR P S ops K ((⟨some d, .call ⟨.builtin .append, #[x1, x2], #[T1, T1]⟩, T, pos, af, none⟩, some kf) :: rest) ρ w := by
 refine cQ rfl ?_
 unfold OpW
 obtain ⟨i0, hi0, hzz⟩ := Option.map_eq_some_iff.1 hT.sz
 simp only [Prod.mk.injEq] at hzz
 obtain ⟨i1, hi1, hz1⟩ := Option.map_eq_some_iff.1 hz.ok
 rw [hi0] at hi1
 simp only [Option.some.injEq] at hi1
 subst hi1
 obtain ⟨g, o, rfl⟩ := hp
 have e : ∀ n, (⟨g, o, none⟩ : Addr).add n = ⟨g, o + n, none⟩ := fun n => by unfold Addr.add; split <;> simp_all
 have hnews' : ∀ j u, news[j]? = some u → w.cell? ((⟨g, o, none⟩ : Addr).add j) = some u := fun j u hu => by
  have hj : j < news.length := (List.getElem?_eq_some_iff.1 hu).1
  have := hnews.get j hj
  rw [e]
  simp only [elt] at this
  rw [this, List.getD_eq_getElem?_getD, hu]; rfl
 obtain ⟨v', w', hr, h3, h4, _⟩ := run_append_own (P := P) w lo T1 T E i0 z s y hT.un hi0 hz1 hzz.1 hzz.2 hzs (Nat.le_of_ble_eq_true hs) _ n vs hown ⟨g, o, none⟩ m c news hl hnews'
  (fun u hu => List.all_eq_true.1 ho u hu) hm hb hlo
 have : (execOp (ev ρ) ⟨some d, .call ⟨.builtin .append, #[x1, x2], #[T1, T1]⟩, T, pos, af, none⟩).run P w = .ok (.value v') w' := by
  simp [execOp, resolve, invoke, builtin, h1, h2, hr]
 rw [this]
 have hform : ∃ a' cap', v' = .slice a' (n + m) cap' := by
  rcases h3.2 with ⟨e1, e2⟩ | ⟨g, cap', _, e1, _⟩
  ·exact ⟨none, 0, by rw [e1, e2]⟩
  ·exact ⟨_, _, e1⟩
 obtain ⟨a', cap', rfl⟩ := hform
 exact h _ _ _ h3 h4 (ku hT.un hi0 hz1 hzz.1 hzz.2 hown hl hnews' (fun u hu => List.all_eq_true.1 ho u hu) hm hb hr _ _ _ rfl)
theorem fD {s : Nat} {v : Value} {cs : Array Value} (hv : v.cells.size = s) (hc : cs.size = 1 * s) : Instr.fill (fun i => some (i * s, s)) cs [(0, v)] = some v.cells := by
 simp only [Instr.fill, hv, ne_eq, not_true_eq_false, decide_false, Bool.false_or, Nat.zero_mul, Nat.zero_add]
 rw [if_neg (by simp; omega)]
 congr 1
 have : ∀ (l : List Value) (k : Nat) (acc : Array Value), k + l.length = acc.size →
   ((l.zipIdx k).foldl (fun (cs : Array Value) (x : Value × Nat) => cs.setIfInBounds x.2 x.1) acc).toList = acc.toList.take k ++ l := by
  intro l
  induction l with
  | nil => intro k acc h; simp at h ⊢; rw [List.take_of_length_le (by simp; omega)]
  | cons x l ih =>
   intro k acc h
   simp only [List.length_cons] at h
   simp only [List.zipIdx_cons, List.foldl_cons]
   rw [ih (k + 1) _ (by simp; omega)]
   have hk : k < acc.toList.length := by simp; omega
   rw [Array.toList_setIfInBounds, List.take_succ_eq_append_getElem (by simpa using hk), List.take_set]
   simp
   rw [List.set_eq_of_length_le (by simp; omega)]
 have h2 := this v.cells.toList 0 cs (by simp; omega)
 simp at h2
 rw [← Array.toList_inj]
 rw [← Array.foldl_toList]
 simpa using h2
section
variable {w' w0 : World} {lo T0 s0 n cap : Nat} {a : Option Addr} {vs : List Value}
theorem mf {x y : Operand} {T1 : TypeId} {j : Nat} {v : Value} [hT : Scal P T1] (hx : ev ρ x = .pointer (some (elt a j))) (hy : nv (ev ρ y) = some v) (hv : v.oneCell' = true)
  (hown : Own w lo T0 s0 a n cap vs) (hj : j < vs.length)
  (h : ∀ g w', a = some ⟨g, 0, none⟩ → lo ≤ g → Chg g w w' → Own w' lo T0 s0 a n cap (vs.set j v) → (kf = true → S w → S w') ∧ RR P S ops K rest ρ w') :
  RR P S ops K ((⟨none, .store T1 x y, T, pos, af, none⟩, some kf) :: rest) ρ w := by
 rcases hown.2 with ⟨hv', hn⟩ | ⟨g, c, cur, hv', hg, hb, h1, h2, h3, h4⟩
 ·have := hown.1; rw [hn] at this; simp at this; subst this; simp at hj
 ·simp only [Value.slice.injEq] at hv'
  obtain ⟨rfl, _, rfl⟩ := hv'
  have hb' : Blk w g T0 cur.toList := by unfold Blk; simpa using hb
  have hjl : j < cur.toList.length := by rw [← h4] at hj; simp at hj ⊢; omega
  refine eO hx (by rw [iF] at hy; exact Option.some.inj hy) hv hb' hjl (fun w' hc hb2 => h g w' rfl hg hc ⟨by simpa using hown.1, .inr ⟨g, cap, (cur.toList.set j v).toArray, rfl, hg, hb2, h1, h2, by simpa using h3, ?_⟩⟩)
  rw [← h4, List.take_set]
end
theorem m9 {T1 E y : Nat} {x : Operand} {k : IntKind} {u : Int} {z : Value} [hT : Slc P T1 E 1 y] [hz : Zro P E z] (hx : ev ρ x = .int k u)
  (h : ∀ g w', New w w' g E ([u].map (Value.int k)) → (kf = true → S w → S w') ∧ RR P S ops K rest (upd ρ d (.slice (some ⟨g, 0, none⟩) 1 1)) w') :
  RR P S ops K ((⟨some d, .buildSlice T1 1 #[(0, x)], T, pos, af, none⟩, some kf) :: rest) ρ w :=
 eP (E := E) (s := 1) (z := z) (cs := #[.int k u]) rfl (by
  simp only [List.map_toArray, List.map_cons, List.map_nil, hx]
  exact fD rfl (by simp)) h
theorem oB {T1 E y : Nat} {x0 x1 : Operand} {v0 v1 z : Value} [hT : Slc P T1 E 1 y] [hz : Zro P E z] (h0 : nv (ev ρ x0) = some v0) (h1 : nv (ev ρ x1) = some v1) (hv0 : v0.oneCell' = true) (hv1 : v1.oneCell' = true)
  (h : ∀ g w', New w w' g E [v0, v1] → (kf = true → S w → S w') ∧ RR P S ops K rest (upd ρ d (.slice (some ⟨g, 0, none⟩) 2 2)) w') :
  RR P S ops K ((⟨some d, .buildSlice T1 2 #[(0, x0), (1, x1)], T, pos, af, none⟩, some kf) :: rest) ρ w :=
 eP (E := E) (s := 1) (z := z) (cs := #[v0, v1]) rfl (by
  rw [iF] at h0 h1
  have c0 : v0.cells = #[v0] := by cases v0 <;> simp [Value.oneCell'] at hv0 <;> rfl
  have c1 : v1.cells = #[v1] := by cases v1 <;> simp [Value.oneCell'] at hv1 <;> rfl
  simp only [List.map_toArray, List.map_cons, List.map_nil, Option.some.inj h0, Option.some.inj h1]
  have er : Array.range 2 = #[0, 1] := by decide
  simp [Instr.fill, c0, c1, er]) h
theorem il {x hi : Operand} {a : Option Addr} {l c E s y : Nat} {n : Int} {k : IntKind} [hT : Slc P T' E s y] (hx : ev ρ x = .slice a l c) (hh : ev ρ hi = .int k n) (h0 : 0 ≤ n) (h1 : n ≤ c)
  (h : RR P S ops K rest (upd ρ d (.slice a n.toNat c)) w) : RR P S ops K ((⟨some d, .slice T' x none (some hi) none, T, pos, af, none⟩, b) :: rest) ρ w := by
 refine bN rfl (fun w' => ?_) h
 obtain ⟨i0, hi0, hz⟩ := Option.map_eq_some_iff.1 hT.sz
 have e : a.map (fun x => x.add 0) = a := by cases a <;> simp [Addr.add]
 simp [execOp, Instr.sliceAt, Instr.slice, Instr.sliceBounds, Instr.sliceBound, hx, hh, asIntOf, underlying, hT.un, sizeOf, typeInfo, hi0, h0, h1, e]
theorem bO {x : Operand} {T1 : TypeId} {a : Option Addr} {j : Nat} {k : IntKind} {xs : List Nat} [Scal P T1] (hx : ev ρ x = .pointer (some (elt a j))) (hs : Rd b S w fun w' => Sl w' a (xs.map fun (n : Nat) => Value.int k n))
  (hj : j < xs.length) (h : RR P S ops K rest (upd ρ d (.int k ((xs.getD j 0 : Nat) : Int))) w) : RR P S ops K ((⟨some d, .load T1 x, T, pos, af, none⟩, b) :: rest) ρ w :=
 fB hx (hs.imp fun w' hs => by
  have := hs.get j (by simpa using hj)
  rw [this]
  simp [List.getD_eq_getElem?_getD, hj]) h
theorem aV {x : Operand} {T1 : TypeId} {g j Tb : Nat} {v : Value} {cs : List Value} [Scal P T1] (hx : ev ρ x = .pointer (some ⟨g, j, none⟩)) (hb : Rd b S w fun w' => Blk w' g Tb cs) (hv : cs[j]? = some v)
  (h : RR P S ops K rest (upd ρ d v) w) : RR P S ops K ((⟨some d, .load T1 x, T, pos, af, none⟩, b) :: rest) ρ w :=
 fB hx (hb.imp fun w' hb => by
  have hj : j < cs.length := (List.getElem?_eq_some_iff.1 hv).1
  rw [hb.cell hj, List.getD_eq_getElem?_getD, hv]; rfl) h
theorem aP {x : Operand} {T1 : TypeId} {n g Tb : Nat} {cs : List Value} [Agg P T1 n] (hx : ev ρ x = .pointer (some ⟨g, 0, none⟩)) (hb : Rd b S w fun w' => Blk w' g Tb cs) (hl : cs.length = n)
  (h : RR P S ops K rest (upd ρ d (.agg cs.toArray)) w) : RR P S ops K ((⟨some d, .load T1 x, T, pos, af, none⟩, b) :: rest) ρ w :=
 m8 hx hl (hb.imp fun w' hb j hj => by simpa using hb.cell hj) h
theorem oC {x y : Operand} {T1 : TypeId} {g o Tb : Nat} {v : Value} {cs : List Value} [hT : Scal P T1] (hx : ev ρ x = .pointer (some ⟨g, o, none⟩)) (hy : nv (ev ρ y) = some v) (hv : v.oneCell' = true)
  (hb : Blk w g Tb cs) (ho : Nat.blt o cs.length = true) (h : ∀ w', Chg g w w' → Blk w' g Tb (cs.set o v) → (kf = true → S w → S w') ∧ RR P S ops K rest ρ w') :
  RR P S ops K ((⟨none, .store T1 x y, T, pos, af, none⟩, some kf) :: rest) ρ w :=
 kt hx (by rw [iF] at hy; exact Option.some.inj hy) hv hb (by simpa [Nat.blt_eq] using ho) h
structure SD where
 a : Option Addr
 len : Nat
 cap : Nat
def SD.val (s : SD) : Value := .slice s.a s.len s.cap
abbrev sd0 : SD := ⟨none, 0, 0⟩
section
variable {w w' : World} {lo T2 T1 c : Nat} {k : IntKind} {b : Option Addr} {sds : List SD} {xss : List (List Int)}
end
theorem p6 {T1 E y n : Nat} {x1 x2 : Operand} [hT : Slc P T1 E 1 y] [hz : Zro P E (.slice none 0 0)] (h1 : ev ρ x1 = .int .i64 n) (h2 : ev ρ x2 = .int .i64 n) (hb : y * n ≤ 281474976710656) (hm : n ≤ 9223372036854775807)
  (h : ∀ g w', New w w' g E ((List.replicate n sd0).map SD.val) → (kf = true → S w → S w') ∧ RR P S ops K rest (upd ρ d (.slice (some ⟨g, 0, none⟩) n n)) w') :
  RR P S ops K ((⟨some d, .makeSlice T1 x1 x2, T, pos, af, none⟩, some kf) :: rest) ρ w :=
 iT rfl h1 h2 hb hm (by simpa [SD.val] using h)
theorem dK {x y : Operand} {T1 : TypeId} {g j Tb : Nat} {k : IntKind} {u : Nat} {xs : List Nat} [hT : Scal P T1] (hx : ev ρ x = .pointer (some (elt (some ⟨g, 0, none⟩) j))) (hy : ev ρ y = .int k (u : Int))
  (hb : Blk w g Tb (xs.map fun (n : Nat) => Value.int k n)) (ho : j < xs.length) (h : ∀ w', Chg g w w' → Blk w' g Tb ((xs.set j u).map fun (n : Nat) => Value.int k n) → (kf = true → S w → S w') ∧ RR P S ops K rest ρ w') :
  RR P S ops K ((⟨none, .store T1 x y, T, pos, af, none⟩, some kf) :: rest) ρ w :=
 eO hx hy rfl hb (by simpa using ho) (by rw [List.map_set] at h; exact h)
theorem aB {x ix : Operand} {a : Option Addr} {l c E y j : Nat} {k : IntKind} [hT : Slc P T' E 1 y] (hx : ev ρ x = .slice a l c) (hi : ev ρ ix = .int k (j : Int)) (ha : W.plain a)
  (h2 : j < l) (h : RR P S ops K rest (upd ρ d (.pointer (some (elt a j)))) w) :
  RR P S ops K ((⟨some d, .indexAddr T' x ix, T, pos, af, none⟩, b) :: rest) ρ w :=
 fA hx hi ha (by omega) (by omega) (by simpa using h)
variable {fn : Func} {R : Value → World → Prop}
theorem rt {t : Nat} {v : Value} (h : ρ t = v) : ResV P w ρ (.tmp t) v := h
theorem rc {t T1 n g Tb : Nat} {vs : List Value} [Agg P T1 n] (hp : ρ t = .pointer (some ⟨g, 0, none⟩)) (hl : vs.length = n) (hb : Blk w g Tb vs) : ResV P w ρ (.cell t T1) (.agg vs.toArray) := by
 unfold ResV
 simp only [hp, asAddr]
 have := gH (P := P) (T := T1) (w := w) (b := g) (off := 0) hl (fun j hj => by simpa using hb.cell hj)
 simpa using this
theorem sR (h : fn.results = #[]) (hR : R (.tuple #[]) w) : fnPost P fn R .ret ρ w := sC h hR
theorem bF {r : ResultVar} {v : Value} (h : fn.results = #[r]) (hv : ResV P w ρ r v) (hR : R v w) : fnPost P fn R .ret ρ w := t0 h hv hR
theorem fv {r1 r2 : ResultVar} {v1 v2 : Value} (h : fn.results = #[r1, r2]) (h1 : ResV P w ρ r1 v1) (h2 : ResV P w ρ r2 v2) (hR : R (.tuple #[v1, v2]) w) : fnPost P fn R .ret ρ w := t5 h h1 h2 hR
theorem gj {r1 r2 r3 : ResultVar} {v1 v2 v3 : Value} (h : fn.results = #[r1, r2, r3]) (h1 : ResV P w ρ r1 v1) (h2 : ResV P w ρ r2 v2) (h3 : ResV P w ρ r3 v3) (hR : R (.tuple #[v1, v2, v3]) w) : fnPost P fn R .ret ρ w := t6 h h1 h2 h3 hR
theorem im (h : fn.results = #[]) (hR : R (.tuple #[]) w) : fnPost P fn R .normal ρ w := sC h hR
end
end Go.W
namespace Go.Proofs.Ytppipmkpmmdcjaa
open Go.W
instance s1 : Scal Try.prog 1 := ⟨by kernel_rfl, by kernel_rfl⟩
instance z1 : Zro Try.prog 1 (.nilFunc) := ⟨by kernel_rfl⟩
instance s2 : Scal Try.prog 2 := ⟨by kernel_rfl, by kernel_rfl⟩
instance i2 : IntT Try.prog 2 .i64 := ⟨by kernel_rfl⟩
instance z2 : Zro Try.prog 2 (.int .i64 0) := ⟨by kernel_rfl⟩
instance s3 : Scal Try.prog 3 := ⟨by kernel_rfl, by kernel_rfl⟩
instance i3 : IntT Try.prog 3 .i64 := ⟨by kernel_rfl⟩
instance z3 : Zro Try.prog 3 (.int .i64 0) := ⟨by kernel_rfl⟩
instance s4 : Scal Try.prog 4 := ⟨by kernel_rfl, by kernel_rfl⟩
instance o4 : BoolT Try.prog 4 := ⟨by kernel_rfl⟩
instance z4 : Zro Try.prog 4 (.bool false) := ⟨by kernel_rfl⟩
instance s5 : Scal Try.prog 5 := ⟨by kernel_rfl, by kernel_rfl⟩
instance i5 : IntT Try.prog 5 .u8 := ⟨by kernel_rfl⟩
instance z5 : Zro Try.prog 5 (.int .u8 0) := ⟨by kernel_rfl⟩
instance s6 : Scal Try.prog 6 := ⟨by kernel_rfl, by kernel_rfl⟩
instance z6 : Zro Try.prog 6 (.int .u8 0) := ⟨by kernel_rfl⟩
instance g7 : Agg Try.prog 7 4 := ⟨by kernel_rfl, by kernel_rfl⟩
instance z7 : Zro Try.prog 7 (.agg #[.int .i64 0, .int .i64 0, .bool false, .int .u8 0]) := ⟨by kernel_rfl⟩
instance g8 : Agg Try.prog 8 4 := ⟨by kernel_rfl, by kernel_rfl⟩
instance z8 : Zro Try.prog 8 (.agg #[.int .i64 0, .int .i64 0, .bool false, .int .u8 0]) := ⟨by kernel_rfl⟩
instance s12 : Scal Try.prog 12 := ⟨by kernel_rfl, by kernel_rfl⟩
instance g13 : Agg Try.prog 13 2 := ⟨by kernel_rfl, by kernel_rfl⟩
instance b13 : Str Try.prog 13 [(0, 1), (1, 1)] := ⟨by kernel_rfl⟩
instance s15 : Scal Try.prog 15 := ⟨by kernel_rfl, by kernel_rfl⟩
instance s16 : Scal Try.prog 16 := ⟨by kernel_rfl, by kernel_rfl⟩
instance s17 : Scal Try.prog 17 := ⟨by kernel_rfl, by kernel_rfl⟩
instance i22 : IntT Try.prog 22 .i8 := ⟨by kernel_rfl⟩
instance s23 : Scal Try.prog 23 := ⟨by kernel_rfl, by kernel_rfl⟩
instance l23 : Slc Try.prog 23 29 1 24 := ⟨by kernel_rfl, by kernel_rfl⟩
instance s25 : Scal Try.prog 25 := ⟨by kernel_rfl, by kernel_rfl⟩
instance l25 : Slc Try.prog 25 49 1 4 := ⟨by kernel_rfl, by kernel_rfl⟩
instance g27 : Agg Try.prog 27 2 := ⟨by kernel_rfl, by kernel_rfl⟩
instance f27_0 : Fld Try.prog 27 0 0 := ⟨by kernel_rfl⟩
instance f27_1 : Fld Try.prog 27 1 1 := ⟨by kernel_rfl⟩
instance b27 : Str Try.prog 27 [(0, 1), (1, 1)] := ⟨by kernel_rfl⟩
instance z27 : Zro Try.prog 27 (.agg #[.bool false, .slice none 0 0]) := ⟨by kernel_rfl⟩
instance s29 : Scal Try.prog 29 := ⟨by kernel_rfl, by kernel_rfl⟩
instance l29 : Slc Try.prog 29 27 2 32 := ⟨by kernel_rfl, by kernel_rfl⟩
instance z29 : Zro Try.prog 29 (.slice none 0 0) := ⟨by kernel_rfl⟩
instance i36 : IntT Try.prog 36 .u64 := ⟨by kernel_rfl⟩
instance s44 : Scal Try.prog 44 := ⟨by kernel_rfl, by kernel_rfl⟩
instance l44 : Slc Try.prog 44 2 1 8 := ⟨by kernel_rfl, by kernel_rfl⟩
instance z44 : Zro Try.prog 44 (.slice none 0 0) := ⟨by kernel_rfl⟩
instance l45 : Slc Try.prog 45 44 1 24 := ⟨by kernel_rfl, by kernel_rfl⟩
instance s49 : Scal Try.prog 49 := ⟨by kernel_rfl, by kernel_rfl⟩
instance i49 : IntT Try.prog 49 .u32 := ⟨by kernel_rfl⟩
instance z49 : Zro Try.prog 49 (.int .u32 0) := ⟨by kernel_rfl⟩
instance g58 : Agg Try.prog 58 3 := ⟨by kernel_rfl, by kernel_rfl⟩
instance f58_0 : Fld Try.prog 58 0 0 := ⟨by kernel_rfl⟩
instance f58_1 : Fld Try.prog 58 1 1 := ⟨by kernel_rfl⟩
instance f58_2 : Fld Try.prog 58 2 2 := ⟨by kernel_rfl⟩
instance b58 : Str Try.prog 58 [(0, 1), (1, 1), (2, 1)] := ⟨by kernel_rfl⟩
instance z58 : Zro Try.prog 58 (.agg #[.slice none 0 0, .slice none 0 0, .slice none 0 0]) := ⟨by kernel_rfl⟩
instance s64 : Scal Try.prog 64 := ⟨by kernel_rfl, by kernel_rfl⟩
instance l64 : Slc Try.prog 64 29 1 24 := ⟨by kernel_rfl, by kernel_rfl⟩
instance g66 : Agg Try.prog 66 2 := ⟨by kernel_rfl, by kernel_rfl⟩
instance f66_0 : Fld Try.prog 66 0 0 := ⟨by kernel_rfl⟩
instance f66_1 : Fld Try.prog 66 1 1 := ⟨by kernel_rfl⟩
instance b66 : Str Try.prog 66 [(0, 1), (1, 1)] := ⟨by kernel_rfl⟩
instance z66 : Zro Try.prog 66 (.agg #[.slice none 0 0, .int .i64 0]) := ⟨by kernel_rfl⟩
instance l68 : Slc Try.prog 68 3 1 8 := ⟨by kernel_rfl, by kernel_rfl⟩
instance s99 : Scal Try.prog 99 := ⟨by kernel_rfl, by kernel_rfl⟩
instance c3 : Fun Try.prog 3 := ⟨by kernel_rfl⟩
instance c4 : Fun Try.prog 4 := ⟨by kernel_rfl⟩
instance c5 : Fun Try.prog 5 := ⟨by kernel_rfl⟩
instance c6 : Fun Try.prog 6 := ⟨by kernel_rfl⟩
instance c7 : Fun Try.prog 7 := ⟨by kernel_rfl⟩
instance c8 : Fun Try.prog 8 := ⟨by kernel_rfl⟩
instance c9 : Fun Try.prog 9 := ⟨by kernel_rfl⟩
instance c10 : Fun Try.prog 10 := ⟨by kernel_rfl⟩
instance c11 : Fun Try.prog 11 := ⟨by kernel_rfl⟩
instance c12 : Fun Try.prog 12 := ⟨by kernel_rfl⟩
instance c13 : Fun Try.prog 13 := ⟨by kernel_rfl⟩
instance c14 : Fun Try.prog 14 := ⟨by kernel_rfl⟩
instance c15 : Fun Try.prog 15 := ⟨by kernel_rfl⟩
instance c16 : Fun Try.prog 16 := ⟨by kernel_rfl⟩
instance c17 : Fun Try.prog 17 := ⟨by kernel_rfl⟩
instance c18 : Fun Try.prog 18 := ⟨by kernel_rfl⟩
instance c19 : Fun Try.prog 19 := ⟨by kernel_rfl⟩
instance c20 : Fun Try.prog 20 := ⟨by kernel_rfl⟩
instance c21 : Fun Try.prog 21 := ⟨by kernel_rfl⟩
instance c22 : Fun Try.prog 22 := ⟨by kernel_rfl⟩
instance c23 : Fun Try.prog 23 := ⟨by kernel_rfl⟩
instance c24 : Fun Try.prog 24 := ⟨by kernel_rfl⟩
instance c25 : Fun Try.prog 25 := ⟨by kernel_rfl⟩
instance c26 : Fun Try.prog 26 := ⟨by kernel_rfl⟩
instance c27 : Fun Try.prog 27 := ⟨by kernel_rfl⟩
instance c28 : Fun Try.prog 28 := ⟨by kernel_rfl⟩
instance c29 : Fun Try.prog 29 := ⟨by kernel_rfl⟩
instance c30 : Fun Try.prog 30 := ⟨by kernel_rfl⟩
instance c31 : Fun Try.prog 31 := ⟨by kernel_rfl⟩
instance c32 : Fun Try.prog 32 := ⟨by kernel_rfl⟩
instance c33 : Fun Try.prog 33 := ⟨by kernel_rfl⟩
instance c34 : Fun Try.prog 34 := ⟨by kernel_rfl⟩
instance c35 : Fun Try.prog 35 := ⟨by kernel_rfl⟩
instance c36 : Fun Try.prog 36 := ⟨by kernel_rfl⟩
instance c37 : Fun Try.prog 37 := ⟨by kernel_rfl⟩
instance c38 : Fun Try.prog 38 := ⟨by kernel_rfl⟩
instance c39 : Fun Try.prog 39 := ⟨by kernel_rfl⟩
instance c40 : Fun Try.prog 40 := ⟨by kernel_rfl⟩
instance c41 : Fun Try.prog 41 := ⟨by kernel_rfl⟩
instance c42 : Fun Try.prog 42 := ⟨by kernel_rfl⟩
instance c43 : Fun Try.prog 43 := ⟨by kernel_rfl⟩
instance c44 : Fun Try.prog 44 := ⟨by kernel_rfl⟩
instance c45 : Fun Try.prog 45 := ⟨by kernel_rfl⟩
instance c46 : Fun Try.prog 46 := ⟨by kernel_rfl⟩
instance c47 : Fun Try.prog 47 := ⟨by kernel_rfl⟩
instance c48 : Fun Try.prog 48 := ⟨by kernel_rfl⟩
instance c49 : Fun Try.prog 49 := ⟨by kernel_rfl⟩
instance c50 : Fun Try.prog 50 := ⟨by kernel_rfl⟩
instance c51 : Fun Try.prog 51 := ⟨by kernel_rfl⟩
instance c52 : Fun Try.prog 52 := ⟨by kernel_rfl⟩
instance c53 : Fun Try.prog 53 := ⟨by kernel_rfl⟩
instance c54 : Fun Try.prog 54 := ⟨by kernel_rfl⟩
instance c55 : Fun Try.prog 55 := ⟨by kernel_rfl⟩
instance c56 : Fun Try.prog 56 := ⟨by kernel_rfl⟩
instance c57 : Fun Try.prog 57 := ⟨by kernel_rfl⟩
instance c58 : Fun Try.prog 58 := ⟨by kernel_rfl⟩
instance c59 : Fun Try.prog 59 := ⟨by kernel_rfl⟩
instance c60 : Fun Try.prog 60 := ⟨by kernel_rfl⟩
instance c61 : Fun Try.prog 61 := ⟨by kernel_rfl⟩
instance c62 : Fun Try.prog 62 := ⟨by kernel_rfl⟩
instance c63 : Fun Try.prog 63 := ⟨by kernel_rfl⟩
instance c64 : Fun Try.prog 64 := ⟨by kernel_rfl⟩
instance c65 : Fun Try.prog 65 := ⟨by kernel_rfl⟩
instance c66 : Fun Try.prog 66 := ⟨by kernel_rfl⟩
instance c67 : Fun Try.prog 67 := ⟨by kernel_rfl⟩
instance c68 : Fun Try.prog 68 := ⟨by kernel_rfl⟩
instance c69 : Fun Try.prog 69 := ⟨by kernel_rfl⟩
instance c70 : Fun Try.prog 70 := ⟨by kernel_rfl⟩
instance c71 : Fun Try.prog 71 := ⟨by kernel_rfl⟩
instance c72 : Fun Try.prog 72 := ⟨by kernel_rfl⟩
instance c73 : Fun Try.prog 73 := ⟨by kernel_rfl⟩
instance c74 : Fun Try.prog 74 := ⟨by kernel_rfl⟩
instance c75 : Fun Try.prog 75 := ⟨by kernel_rfl⟩
instance c76 : Fun Try.prog 76 := ⟨by kernel_rfl⟩
instance c77 : Fun Try.prog 77 := ⟨by kernel_rfl⟩
instance c78 : Fun Try.prog 78 := ⟨by kernel_rfl⟩
instance c79 : Fun Try.prog 79 := ⟨by kernel_rfl⟩
instance c80 : Fun Try.prog 80 := ⟨by kernel_rfl⟩
instance c81 : Fun Try.prog 81 := ⟨by kernel_rfl⟩
instance c82 : Fun Try.prog 82 := ⟨by kernel_rfl⟩
instance c83 : Fun Try.prog 83 := ⟨by kernel_rfl⟩
theorem bt : Try.prog.follows .mixedOrders = true := by kernel_rfl
end Go.Proofs.Ytppipmkpmmdcjaa
namespace Go.W
def waitsT (ops : Array Oper) (j i : Nat) : Bool := waits ops j i || (List.range ops.size).any (fun k => waits ops j k && waits ops k i)
def Down (ops : Array Oper) (listed : Array Bool) : Prop := ∀ k o, ops[k]? = some o → listed.getD k false = true → ∀ e ∈ o.after, Region.binds .any e = true → listed.getD e.on false = true
theorem Down.start (ops : Array Oper) (n : Nat) : Down ops (Array.replicate n false) := fun k o _ h => by
 exfalso
 by_cases hk : k < n
 ·simp [hk] at h
 ·simp [hk] at h
theorem Down.set {ops : Array Oper} {listed : Array Bool} {j : Nat} (h : Down ops listed) (hj : j ∈ Region.ready .any ops listed) : Down ops (listed.setIfInBounds j true) := by
 have keep : ∀ m, listed.getD m false = true → (listed.setIfInBounds j true).getD m false = true := fun m hm => by
  by_cases hmj : j = m
  ·subst hmj
   by_cases hs : j < listed.size
   ·simp [hs]
   ·simp [hs] at hm
  ·simpa [Array.getElem?_setIfInBounds_ne hmj] using hm
 intro k o ho hk e he hb
 obtain ⟨_, oj, hoj, hall⟩ := mem_ready.1 hj
 by_cases hkj : j = k
 ·subst hkj
  rw [ho] at hoj
  cases hoj
  exact keep _ (hall e he hb)
 ·refine keep _ (h k o ho ?_ e he hb)
  simpa [Array.getElem?_setIfInBounds_ne hkj] using hk
theorem dP {ops : Array Oper} {listed : Array Bool} {i j : Nat} (hd : Down ops listed) (hi : i ∈ Region.ready .any ops listed) (hj : j ∈ Region.ready .any ops listed) : waitsT ops j i = false := by
 unfold waitsT
 rw [bV hi hj, Bool.false_or]
 cases hw : (List.range ops.size).any (fun k => waits ops j k && waits ops k i) with
 | false => rfl
 | true =>
  exfalso
  obtain ⟨k, hk, h⟩ := List.any_eq_true.1 hw
  simp only [Bool.and_eq_true] at h
  obtain ⟨h1, h2⟩ := h
  obtain ⟨_, oj, hoj, hall⟩ := mem_ready.1 hj
  have h0 := (mem_ready.1 hi).1
  simp only [waits, hoj, Array.any_eq_true', Bool.and_eq_true, beq_iff_eq] at h1
  obtain ⟨e, he, hb, rfl⟩ := h1
  have hl := hall e he hb
  have hks : e.on < ops.size := List.mem_range.1 hk
  have hok : ops[e.on]? = some ops[e.on] := Array.getElem?_eq_getElem hks
  simp only [waits, hok, Array.any_eq_true', Bool.and_eq_true, beq_iff_eq] at h2
  obtain ⟨e2, he2, hb2, rfl⟩ := h2
  have hl2 := hd e.on _ hok hl e2 he2 hb2
  rcases Nat.lt_or_ge e2.on listed.size with h' | h'
  ·simp [h'] at h0 hl2; rw [h0] at hl2; cases hl2
  ·simp [Array.getElem?_eq_none h'] at hl2
section
variable {P : Program} {n : Nat} {Q : Exit → Env → World → Prop} {ρ : Env} {w : World}
end
end Go.W
namespace Go.W
def waitsU (ops : Array Oper) (j i : Nat) : Bool := waitsT ops j i || (List.range ops.size).any (fun k => waits ops j k && waitsT ops k i)
theorem dR {ops : Array Oper} {listed : Array Bool} {k i : Nat} (hd : Down ops listed) (hks : k < ops.size) (hk : listed.getD k false = true) (hw : waits ops k i = true) : listed.getD i false = true := by
 have hok : ops[k]? = some ops[k] := Array.getElem?_eq_getElem hks
 simp only [waits, hok, Array.any_eq_true', Bool.and_eq_true, beq_iff_eq] at hw
 obtain ⟨e, he, hb, rfl⟩ := hw
 exact hd k _ hok hk e he hb
theorem jP {ops : Array Oper} {listed : Array Bool} {k i : Nat} (hd : Down ops listed) (hks : k < ops.size) (hk : listed.getD k false = true) (hw : waitsT ops k i = true) : listed.getD i false = true := by
 unfold waitsT at hw
 simp only [Bool.or_eq_true, List.any_eq_true, Bool.and_eq_true] at hw
 rcases hw with h | ⟨m, hm, h1, h2⟩
 ·exact dR hd hks hk h
 ·exact dR hd (List.mem_range.1 hm) (dR hd hks hk h1) h2
theorem f8 {ops : Array Oper} {listed : Array Bool} {i j : Nat} (hd : Down ops listed) (hi : i ∈ Region.ready .any ops listed) (hj : j ∈ Region.ready .any ops listed) : waitsU ops j i = false := by
 unfold waitsU
 rw [dP hd hi hj, Bool.false_or]
 cases hw : (List.range ops.size).any (fun k => waits ops j k && waitsT ops k i) with
 | false => rfl
 | true =>
  exfalso
  obtain ⟨k, hk, h⟩ := List.any_eq_true.1 hw
  simp only [Bool.and_eq_true] at h
  obtain ⟨h1, h2⟩ := h
  obtain ⟨_, oj, hoj, hall⟩ := mem_ready.1 hj
  have h0 := (mem_ready.1 hi).1
  simp only [waits, hoj, Array.any_eq_true', Bool.and_eq_true, beq_iff_eq] at h1
  obtain ⟨e, he, hb, rfl⟩ := h1
  have hl := jP hd (List.mem_range.1 hk) (hall e he hb) h2
  rcases Nat.lt_or_ge i listed.size with h' | h'
  ·simp [h'] at h0 hl; rw [h0] at hl; cases hl
  ·simp [Array.getElem?_eq_none h'] at hl
section
variable {P : Program} {n : Nat} {Q : Exit → Env → World → Prop} {ρ : Env} {w : World}
theorem mh {ops : Array Oper} {late : Nat → Bool} {Q : Exit → Act → World → Prop} {S : World → Prop} {i : Nat} {oi : Oper} {v : Value} (hi : ops[i]? = some oi)
  (hsel : Region.noSelect ops = true) (hQ : ∀ c a w, Q (.panic c) (a.put oi.dst v) w → Q (.panic c) a w) :
  ∀ (fuel : Nat) (listed : Array Bool) (a : Act) (w : World),
   (∀ j oj, ops[j]? = some oj → j ≠ i → listed.getD j true = false → (∀ e ∈ oj.after, Region.binds .any e = true → e.on ≠ i) → oi.apart ops oj = true) →
   (∀ j, late j = true → waitsU ops j i = true) → Down ops listed →
   i ∈ Region.ready .any ops listed → YieldsIf P ops S oi v a → S w →
   wpL P ops late Q S fuel (listed.setIfInBounds i true) (a.put oi.dst v) w → wpL P ops late Q S (fuel + 1) listed a w := by
 intro fuel
 induction fuel with
 | zero =>
  intro listed a w _ _ _ hr hy hS H
  refine ⟨fun h => (by rw [h] at hr; cases hr), fun j hj => ?_⟩
  by_cases hji : j = i
  ·subst hji; exact hy.wpOp hi hS ⟨fun _ h => h, H⟩
  ·have := ready_mono hj hji
   rw [H.1] at this
   cases this
 | succ fuel ih =>
  intro listed a w hfree hlate hdown hr hy hS H
  refine ⟨fun h => (by rw [h] at hr; cases hr), fun j hj => ?_⟩
  by_cases hji : j = i
  ·subst hji; exact hy.wpOp hi hS ⟨fun _ h => h, H⟩
  ·have hnl : late j = false := by
    cases h : late j with
    | false => rfl
    | true => have := hlate j h; rw [f8 hdown hr hj] at this; cases this
   have h1 := H.2 j (ready_mono hj hji)
   obtain ⟨hjun, oj, hoj, hall⟩ := mem_ready.1 hj
   have hnot : ∀ e ∈ oj.after, Region.binds .any e = true → e.on ≠ i := fun e he hb heq => by
    have hw := bV hr hj
    simp only [waits, hoj] at hw
    rw [Array.any_eq_false'] at hw
    exact hw e he (by simp [hb, heq])
   have h2 := wpOp_putIf hoj (hfree j oj hoj hji hjun hnot) (fun cs b => Region.noSelect_spec hsel i oi cs b hi) (fun cs b => Region.noSelect_spec hsel j oj cs b hoj) hQ hy h1
   refine wpOp_mono (fun a' w' h3 => ⟨h3.2.1, ih (listed.setIfInBounds j true) a' w' (fun k ok hk hki hun hno => ?_) hlate (hdown.set hj) (ready_mono hr (Ne.symm hji)) h3.1 (h3.2.1 hnl hS) ?_⟩) h2
   ·refine hfree k ok hk hki ?_ hno
    by_cases hjk : j = k
    ·subst hjk; exact hjun
    ·rw [getD_set_ne true hjk] at hun; exact hun
   ·rw [Array.setIfInBounds_comm _ _ hji]
    exact h3.2.2
def planOKU (ops : Array Oper) (late : List Nat) : List (Nat × Option Bool) → Array Bool → Bool
 | [], listed => (Region.ready .any ops listed).isEmpty
 | (i, none) :: rest, listed => (Region.ready .any ops listed).contains i && (Region.free .any ops listed i && ((!rdAt ops i || late.all (fun j => waitsU ops j i)) && planOKU ops late rest (listed.setIfInBounds i true)))
 | (i, some k) :: rest, listed => (Region.ready .any ops listed == [i]) && ((bif k then !late.contains i else (late.contains i && !needP ops rest)) && planOKU ops late rest (listed.setIfInBounds i true))
theorem d7 {ops : List Oper} {late : List Nat} {S : World → Prop} (hsel : Region.noSelect ops.toArray = true) (hd : ops.all (dstOK n) = true) :
  ∀ (plan : List (Nat × Option Bool)) (listed : Array Bool) (ρ : Env) (a : Act) (w : World), Rel n a ρ → Down ops.toArray listed → planOKU ops.toArray late plan listed = true → (needP ops.toArray plan = true → S w) →
   RR P S ops (Q .normal) (planOps ops plan) ρ w →
   wpL P ops.toArray (fun j => late.contains j) (lift n Q) S plan.length listed a w
 | [], listed, ρ, a, w, hr, _, hp, _, h => ⟨by simpa [planOKU] using hp, ρ, hr, by simpa only [planOps, RR] using h⟩
 | (i, none) :: rest, listed, ρ, a, w, hr, hdn, hp, hS, h => by
  simp only [planOKU, Bool.and_eq_true] at hp
  obtain ⟨h1, h2, h3, h4⟩ := hp
  have hri : i ∈ Region.ready .any ops.toArray listed := by simpa using h1
  obtain ⟨_, o, ho, _⟩ := mem_ready.1 hri
  have ho' : ops[i]? = some o := by simpa using ho
  have hdo : dstOK n o = true := List.all_eq_true.1 hd o (List.mem_of_getElem? ho')
  simp only [planOps, ho', RR] at h
  have hr3 : rdAt ops.toArray i = isRd o := by simp only [rdAt, ho]
  have en : needP ops.toArray ((i, none) :: rest) = (isRd o || needP ops.toArray rest) := by rw [← hr3]; rfl
  rw [en] at hS
  have hSr : needP ops.toArray rest = true → S w := fun hn => hS (by rw [hn]; simp)
  cases hrd : isRd o with
  | true =>
   have hS' : S w := hS (by rw [hrd]; rfl)
   have key : ∃ v, YieldsIf P ops.toArray S o v a ∧ RR P S ops (Q .normal) (planOps ops rest) (updO ρ o.dst v) w := by
    by_cases hw : wantedE ops ρ o = true
    ·rw [if_pos hw] at h
     obtain ⟨v, hv, h⟩ := h
     exact ⟨v, .inl ⟨by rw [hr.wanted]; exact hw, by rw [hr.ev]; exact fun w' hw' => hv w' (fun _ => hw')⟩, h⟩
    ·rw [if_neg hw] at h
     exact ⟨undef, .inr ⟨by rw [hr.wanted]; simpa using hw, rfl⟩, h⟩
   obtain ⟨v, hy, h⟩ := key
   rw [hr3, hrd] at h3
   simp only [Bool.not_true, Bool.false_or] at h3
   refine mh ho hsel (fun _ _ _ h => h) rest.length listed a w (Region.free_spec ho h2) (fun j hj => List.all_eq_true.1 h3 j (by simpa using hj)) hdn hri hy hS' ?_
   exact d7 hsel hd rest _ _ _ w (hr.putO hdo v) (hdn.set hri) h4 hSr h
  | false =>
   have key : ∃ v, Yields P ops.toArray o v a ∧ RR P S ops (Q .normal) (planOps ops rest) (updO ρ o.dst v) w := by
    by_cases hw : wantedE ops ρ o = true
    ·rw [if_pos hw] at h
     obtain ⟨v, hv, h⟩ := h
     exact ⟨v, .inl ⟨by rw [hr.wanted]; exact hw, by rw [hr.ev]; exact fun w' => hv w' (fun hh => by rw [hrd] at hh; cases hh)⟩, h⟩
    ·rw [if_neg hw] at h
     exact ⟨undef, .inr ⟨by rw [hr.wanted]; simpa using hw, rfl⟩, h⟩
   obtain ⟨v, hy, h⟩ := key
   refine d5 ho hsel (fun _ _ _ h => h) rest.length listed a w (Region.free_spec ho h2) hri hy ?_
   exact d7 hsel hd rest _ _ _ w (hr.putO hdo v) (hdn.set hri) h4 hSr h
 | (i, some k) :: rest, listed, ρ, a, w, hr, hdn, hp, hS, h => by
  simp only [planOKU, Bool.and_eq_true, beq_iff_eq] at hp
  obtain ⟨h1, h2, h3⟩ := hp
  have hri : i ∈ Region.ready .any ops.toArray listed := by rw [h1]; simp
  obtain ⟨_, o, ho, _⟩ := mem_ready.1 hri
  have ho' : ops[i]? = some o := by simpa using ho
  have hdo : dstOK n o = true := List.all_eq_true.1 hd o (List.mem_of_getElem? ho')
  simp only [planOps, ho', RR] at h
  have en : needP ops.toArray ((i, some k) :: rest) = needP ops.toArray rest := rfl
  rw [en] at hS
  refine ⟨fun h0 => absurd (h1.symm.trans h0) (by simp), fun j hj => ?_⟩
  rw [h1] at hj
  simp only [List.mem_singleton] at hj
  subst hj
  unfold wpOp
  simp only [ho]
  rw [hr.wanted]
  have hkl : late.contains j = false → k = true := fun hl => by
   cases k with
   | true => rfl
   | false => simp only [cond_false, Bool.and_eq_true] at h2; rw [hl] at h2; cases h2.1
  have hkn : needP ops.toArray rest = true → k = true := fun hn => by
   cases k with
   | true => rfl
   | false => simp only [cond_false, Bool.and_eq_true] at h2; rw [hn] at h2; cases h2.2
  split
  ·rename_i hw
   rw [if_pos hw] at h
   exact .inl (OpW.wp hr h fun v w' hn => ⟨fun hl hS1 => hn.1 (hkl hl) hS1, d7 hsel hd rest _ _ _ w' (hr.putO hdo v) (hdn.set hri) h3 (fun hh => hn.1 (hkn hh) (hS hh)) hn.2⟩)
  ·rename_i hw
   rw [if_neg hw] at h
   exact ⟨fun _ h => h, d7 hsel hd rest _ _ _ w (hr.putO hdo undef) (hdn.set hri) h3 hS h⟩
theorem jd {id : Nat} {ops : List Oper} {late : List Nat} {plan : List (Nat × Option Bool)} (S : World → Prop) (hm : P.follows .mixedOrders = true)
  (hc : (Region.noSelect ops.toArray && (ops.all (dstOK n) && (plan.length == ops.length && planOKU ops.toArray late plan (Array.replicate ops.length false)))) = true)
  (hS : S w.drew) (h : RR P S ops (Q .normal) (planOps ops plan) ρ w.drew) : CW P n (.region id ops.toArray true) Q ρ w := by
 unfold CW
 intro a hr
 simp only [Bool.and_eq_true, beq_iff_eq] at hc
 obtain ⟨h1, h2, h3, h4⟩ := hc
 refine wp_region_any hm (cS (late := fun j => late.contains j) (S := S) _ _ _ _ ?_)
 have := d7 h1 h2 plan (Array.replicate ops.length false) ρ a w.drew hr (Down.start _ _) h4 (fun _ => hS) h
 rw [h3] at this
 simpa using this
end
end Go.W
namespace Go.W
open Go
def gotoE (l : Nat) (next : Env → World → Prop) (Q : Exit → Env → World → Prop) : Exit → Env → World → Prop
 | .goto l', ρ, w => l' = l ∧ next ρ w
 | e, ρ, w => Q e ρ w
theorem eQ {p : Nat → Prop} (h : ∃ n, p n) : ∃ n, p n ∧ ∀ m, p m → n ≤ m := by
 obtain ⟨n, hn⟩ := h
 induction n using Nat.strongRecOn with
 | _ n ih =>
  by_cases h : ∃ m, m < n ∧ p m
  ·obtain ⟨m, h1, h2⟩ := h; exact ih m h1 h2
  ·refine ⟨n, hn, fun m hm => ?_⟩
   rcases Nat.lt_or_ge m n with h' | h'
   ·exact absurd ⟨m, h', hm⟩ h
   ·exact h'
section
variable {P : Program} {n : Nat} {Q : Exit → Env → World → Prop} {ρ : Env} {w : World}
theorem ky {l : Nat} (h : Q (.goto l) ρ w) : CW P n (.goto l) Q ρ w := by
 unfold CW
 exact fun _ hr => wp_goto ⟨ρ, hr, h⟩
theorem nH {l : Nat} {next : Env → World → Prop} (h : Q .ret ρ w) : gotoE l next Q .ret ρ w := h
theorem gM {l : Nat} {next : Env → World → Prop} (h : Q .normal ρ w) : gotoE l next Q .normal ρ w := h
theorem gk {l : Nat} {next : Env → World → Prop} (h : next ρ w) : gotoE l next Q (.goto l) ρ w := ⟨rfl, h⟩
theorem gq {l : Nat} {next : Env → World → Prop} (h : Q (.goto l) ρ w) : thenE next Q (.goto l) ρ w := by unfold thenE; exact h
theorem oD {ι : Type} {rest : Code} {l : Nat} (M : List Nat) (vals : ι → List (Nat × Value)) (J : ι → World → Prop) (μ : ι → Nat) (s0 : ι) (hv : Has ρ (vals s0)) (h0 : J s0 w)
  (round : ∀ s ξ w, J s w → CW P n rest (gotoE l (Round M vals J μ (μ s) ρ) Q) (over (vals s) (mask M ρ ξ)) w) : CW P n (.scope (.seq (.label l) rest)) Q ρ w := by
 classical
 unfold CW
 intro a hr
 let I : Nat → Act → World → Prop := fun m a w => ∃ s ρ', μ s = m ∧ Rel n a ρ' ∧ J s w ∧ Agree M ρ' ρ ∧ Has ρ' (vals s)
 let m : Act → World → Nat := fun a w => if h : ∃ k, I k a w then (eQ h).choose else 0
 have key : ∀ k a w, I k a w → rest.wp P (Exit.jump l (fun a' w' => ∃ k', I k' a' w' ∧ k' < k) (lift n Q)) a w := by
  rintro k a w ⟨s, ρ', rfl, hr', hJ, hA, hH⟩
  have h := round s ρ' w hJ
  rw [gg hA, gG hH] at h
  unfold CW at h
  refine wp_mono (h a hr') fun e a w q => ?_
  cases e <;> simp only [lift, gotoE, Exit.jump] at q ⊢
  case goto => obtain ⟨ρ2, hr2, e, ⟨s', hJ', hlt, hH'⟩, hA'⟩ := q; exact ⟨e, _, ⟨s', ρ2, rfl, hr2, hJ', hA', hH'⟩, hlt⟩
  all_goals exact q
 have hf : findLabel (.seq (.label l) rest) l = some (.seq .skip rest) := by simp [findLabel]
 refine wp_scope_jumps l (fun a w => ∃ k, I k a w) m hf (wp_seq (wp_label ?_)) ?_
 ·show rest.wp P _ a w
  refine wp_mono (key (μ s0) a w ⟨s0, ρ, rfl, hr, h0, aG M ρ, hv⟩) fun e a w q => ?_
  cases e <;> simp only [Exit.jump, lift] at q ⊢
  case goto => obtain ⟨e, k', h1, _⟩ := q; exact ⟨e, k', h1⟩
  all_goals exact q
 ·intro a w hI
  have hs := (eQ hI).choose_spec
  have hm : m a w = (eQ hI).choose := dif_pos hI
  refine wp_seq (wp_skip ?_)
  show rest.wp P _ a w
  refine wp_mono (key _ a w hs.1) fun e a' w' q => ?_
  cases e <;> simp only [Exit.jump, lift] at q ⊢
  case goto =>
   obtain ⟨e, k', h1, h2⟩ := q
   have hx : ∃ k, I k a' w' := ⟨k', h1⟩
   refine ⟨e, hx, ?_⟩
   have hm' : m a' w' = (eQ hx).choose := dif_pos hx
   show m a' w' < m a w
   rw [hm, hm']
   exact Nat.lt_of_le_of_lt ((eQ hx).choose_spec.2 _ h1) h2
  all_goals exact q
end
end Go.W
