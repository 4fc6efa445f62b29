import Derived.WalkKit
import Derived.Test.YtpfhfldehaiokaaGreatA01
namespace Go.W
open Go.RowKit (Below)
class Scal (P : Program) (T : TypeId) : Prop where
 ag : (match P.underlying T with | some (.struct _) | some (.array _ _) | none => false | _ => true) = true
 sz : (P.info? T).map (·.size) = some 1
class Agg (P : Program) (T : TypeId) (n : outParam Nat) : Prop where
 ag : (match P.underlying T with | some (.struct _) | some (.array _ _) => true | _ => false) = true
 sz : (P.info? T).map (·.size) = some n
class Slc (P : Program) (T : TypeId) (E s by_ : outParam Nat) : Prop where
 un : P.underlying T = some (.slice E)
 sz : (P.info? E).map (fun i => (i.size, i.bytes)) = some (s, by_)
class Fld (P : Program) (T : TypeId) (f : Nat) (off : outParam Nat) : Prop where
 ok : (match P.underlying T with | some (.struct fs) => (fs[f]?).any (fun g => g.offset == off && (match (P.info? g.type).map (·.size) with | some (_ + 1) => true | _ => false)) | _ => false) = true
class IntT (P : Program) (T : TypeId) (k : outParam IntKind) : Prop where
 un : P.underlying T = some (.int k)
class BoolT (P : Program) (T : TypeId) : Prop where
 un : P.underlying T = some .bool
class Zro (P : Program) (T : TypeId) (v : outParam Value) : Prop where
 ok : (P.info? T).map (·.zero) = some (some v)
section
variable {P : Program} {w : World}
theorem fx {T n : Nat} (h : (P.info? T).map (·.size) = some n) : (sizeOf T).run P w = .ok n w := by
 obtain ⟨i, hi, rfl⟩ := Option.map_eq_some_iff.1 h
 simp [sizeOf, typeInfo, hi]
theorem gC {T : Nat} {v : Value} [z : Zro P T v] : (zeroValue T).run P w = .ok v w := by
 obtain ⟨i, hi, hz⟩ := Option.map_eq_some_iff.1 z.ok
 simp [zeroValue, typeInfo, hi, hz]
theorem ik {T : Nat} [s : Scal P T] : (isAgg T).run P w = .ok false w := by
 have := s.ag
 unfold isAgg underlying
 cases h : P.underlying T with
 | none => simp [h] at this
 | some d => cases d <;> simp [h] at this ⊢
theorem pk {T n : Nat} [s : Agg P T n] : (isAgg T).run P w = .ok true w := by
 have := s.ag
 unfold isAgg underlying
 cases h : P.underlying T with
 | none => simp [h] at this
 | some d => cases d <;> simp [h] at this ⊢
theorem kw {T : Nat} [Scal P T] {a : Addr} {v : Value} (h : w.cell? a = some v) : (loadVar T a).run P w = .ok v w := by
 unfold loadVar
 rw [Sem.run_bind_ok ik]
 simp [load, Sem.run, h]
theorem fS {b off : Nat} : ∀ (vs : List Value) (i : Nat) (acc : Array Value), (∀ j, j < vs.length → w.cell? ⟨b, off + (i + j), none⟩ = some (vs.getD j undef)) →
  (loadCellsFrom ⟨b, off, none⟩ i vs.length acc).run P w = .ok (acc ++ vs.toArray) w
 | [], i, acc, _ => by simp [loadCellsFrom]
 | v :: vs, i, acc, h => by
  have h0 := h 0 (by simp)
  have e : (⟨b, off, none⟩ : Addr).add i = ⟨b, off + i, none⟩ := by unfold Addr.add; split <;> simp_all
  simp only [List.length_cons, loadCellsFrom, e]
  have h1 : (load ⟨b, off + i, none⟩).run P w = .ok v w := by simp at h0; simp [load, Sem.run, h0]
  rw [Sem.run_bind_ok h1, fS vs (i + 1) _ (fun j hj => by have := h (j + 1) (by simp; omega); simpa [Nat.add_assoc, Nat.add_comm 1 j] using this)]
  simp
theorem jB {T n : Nat} [s : Agg P T n] {b off : Nat} {vs : List Value} (hl : vs.length = n) (h : ∀ j, j < vs.length → w.cell? ⟨b, off + j, none⟩ = some (vs.getD j undef)) :
  (loadVar T ⟨b, off, none⟩).run P w = .ok (.agg vs.toArray) w := by
 unfold loadVar
 rw [Sem.run_bind_ok pk]
 simp only [if_true]
 rw [Sem.run_bind_ok (fx s.sz), ← hl]
 have := fS (P := P) (w := w) (b := b) (off := off) vs 0 #[] (fun j hj => by simpa using h j hj)
 unfold loadCells
 rw [Sem.run_bind_ok this]
 simp
end
section
variable {P : Program} {S : World → Prop} {ops : List Oper} {K : Env → World → Prop} {rest : List (Oper × Option Bool)} {ρ : Env} {w : World} {b : Option Bool} {kf : Bool} {d : Nat} {T T' : TypeId} {pos : String} {af : Array Edge}
theorem ah (h : K ρ w) : RR P S ops K [] ρ w := by simp only [RR]; exact h
theorem ci {o : Oper} {v : Value} (hg : o.guard = none) (hv : ∀ w', (execOp (ev ρ) o).run P w' = .ok (.value v) w') (h : RR P S ops K rest (updO ρ o.dst v) w) : RR P S ops K ((o, b) :: rest) ρ w := by
 have hw : wantedE ops ρ o = true := by simp [wantedE, hg]
 simp only [RR, hw, if_true]
 cases b with
 | none => exact ⟨v, fun w' _ => hv w', h⟩
 | some k => simp only [OpW, hv w]; exact ⟨fun _ h => h, h⟩
def Rd (b : Option Bool) (S : World → Prop) (w : World) (φ : World → Prop) : Prop := match b with | none => ∀ w', S w' → φ w' | some _ => φ w
theorem Rd.imp {φ ψ : World → Prop} (h : Rd b S w φ) (hi : ∀ w, φ w → ψ w) : Rd b S w ψ := by
 cases b with
 | none => exact fun w' hS => hi _ (h w' hS)
 | some k => exact hi _ h
theorem rB {o : Oper} {v : Value} (hg : o.guard = none) (hrd : isRd o = true) (hv : Rd b S w fun w' => (execOp (ev ρ) o).run P w' = .ok (.value v) w') (h : RR P S ops K rest (updO ρ o.dst v) w) :
  RR P S ops K ((o, b) :: rest) ρ w := by
 have hw : wantedE ops ρ o = true := by simp [wantedE, hg]
 simp only [RR, hw, if_true]
 cases b with
 | none => exact ⟨v, fun w' hS => hv w' (hS hrd), h⟩
 | some k => simp only [Rd] at hv; simp only [OpW, hv]; exact ⟨fun _ h => h, h⟩
theorem dq {o : Oper} (hg : o.guard = none) (h : OpW P o ρ w fun v w' => (kf = true → S w → S w') ∧ RR P S ops K rest (updO ρ o.dst v) w') :
  RR P S ops K ((o, some kf) :: rest) ρ w := by
 have hw : wantedE ops ρ o = true := by simp [wantedE, hg]
 simp only [RR, hw, if_true]; exact h
theorem bJ {j t : Nat} {want : Bool} {op : Op} {dst : Option Nat} (hs : (ops[j]?).bind (·.dst) = some t) (ht : ρ t = .bool want)
  (h : RR P S ops K ((⟨dst, op, T, pos, af, none⟩, b) :: rest) ρ w) : RR P S ops K ((⟨dst, op, T, pos, af, some (j, want)⟩, b) :: rest) ρ w := by
 have hw : wantedE ops ρ ⟨dst, op, T, pos, af, some (j, want)⟩ = true := by simp [wantedE, hs, ht]
 have hw' : wantedE ops ρ ⟨dst, op, T, pos, af, none⟩ = true := by simp [wantedE]
 simp only [RR, hw, hw', if_true] at h ⊢
 exact h
theorem bY {j t : Nat} {want : Bool} {op : Op} {dst : Option Nat} (hs : (ops[j]?).bind (·.dst) = some t) (ht : (match ρ t with | .bool b => b == want | _ => false) = false)
  (h : RR P S ops K rest (updO ρ dst undef) w) : RR P S ops K ((⟨dst, op, T, pos, af, some (j, want)⟩, b) :: rest) ρ w := by
 have hw : wantedE ops ρ ⟨dst, op, T, pos, af, some (j, want)⟩ = false := by simp only [wantedE, hs]; exact ht
 simp only [RR, hw, Bool.false_eq_true, if_false]
 exact h
theorem kV {j t : Nat} {want c : Bool} {op : Op} {dst : Option Nat} (hs : (ops[j]?).bind (·.dst) = some t) (ht : ρ t = .bool c)
  (h1 : c = want → RR P S ops K ((⟨dst, op, T, pos, af, none⟩, b) :: rest) (upd ρ t (.bool want)) w)
  (h2 : c = !want → RR P S ops K rest (updO (upd ρ t (.bool (!want))) dst undef) w) : RR P S ops K ((⟨dst, op, T, pos, af, some (j, want)⟩, b) :: rest) ρ w := by
 by_cases hc : c = want
 ·have := h1 hc
  rw [qr ρ (by rw [ht, hc])] at this
  exact bJ hs (by rw [ht, hc]) this
 ·have hc' : c = !want := by cases c <;> cases want <;> simp_all
  have := h2 hc'
  rw [qr ρ (by rw [ht, hc'])] at this
  exact bY hs (by rw [ht, hc']; simp) this
theorem gV {j t : Nat} {p : Prop} [Decidable p] {op : Op} {dst : Option Nat} (hs : (ops[j]?).bind (·.dst) = some t) (ht : ρ t = .bool (decide p))
  (h1 : p → RR P S ops K ((⟨dst, op, T, pos, af, none⟩, b) :: rest) (upd ρ t (.bool true)) w)
  (h2 : ¬ p → RR P S ops K rest (updO (upd ρ t (.bool false)) dst undef) w) : RR P S ops K ((⟨dst, op, T, pos, af, some (j, true)⟩, b) :: rest) ρ w :=
 kV hs ht (fun h => h1 (of_decide_eq_true h)) (fun h => h2 (of_decide_eq_false h))
theorem gW {j t : Nat} {p : Prop} [Decidable p] {op : Op} {dst : Option Nat} (hs : (ops[j]?).bind (·.dst) = some t) (ht : ρ t = .bool (decide p))
  (h1 : ¬ p → RR P S ops K ((⟨dst, op, T, pos, af, none⟩, b) :: rest) (upd ρ t (.bool false)) w)
  (h2 : p → RR P S ops K rest (updO (upd ρ t (.bool true)) dst undef) w) : RR P S ops K ((⟨dst, op, T, pos, af, some (j, false)⟩, b) :: rest) ρ w :=
 kV hs ht (fun h => h1 (of_decide_eq_false h)) (fun h => h2 (of_decide_eq_true h))
theorem wL {x : Operand} {c : Bool} (hc : ev ρ x = .bool c) (h : RR P S ops K rest (upd ρ d (.bool (!c))) w) : RR P S ops K ((⟨some d, .unOp .not T' x, T, pos, af, none⟩, b) :: rest) ρ w :=
 ci rfl (fun _ => by simp [execOp, hc, Op.unary]) h
theorem jZ {x : Operand} {k : IntKind} {m : Int} (hx : ev ρ x = .int k m) (h : RR P S ops K rest (upd ρ d (.int k (k.wrap (-m)))) w) : RR P S ops K ((⟨some d, .unOp .neg T' x, T, pos, af, none⟩, b) :: rest) ρ w :=
 ci rfl (fun _ => by simp [execOp, hx, Op.unary, Op.intArith]) h
theorem aR {x : Operand} {i : Nat} {vs : Array Value} {v : Value} (hx : ev ρ x = .tuple vs) (hi : vs[i]? = some v) (h : RR P S ops K rest (upd ρ d v) w) :
  RR P S ops K ((⟨some d, .extract x i, T, pos, af, none⟩, b) :: rest) ρ w :=
 ci rfl (fun _ => by simp [execOp, hx, Instr.extract, hi]) h
theorem bZ {x : Operand} {a : Addr} (hx : ev ρ x = .pointer (some a)) (h : RR P S ops K rest (upd ρ d (.pointer (some a))) w) :
  RR P S ops K ((⟨some d, .nilCheck x, T, pos, af, none⟩, b) :: rest) ρ w :=
 ci rfl (fun _ => by simp [execOp, hx]) h
theorem bc {x : Operand} {a : Option Addr} {l c E s y : Nat} [hT : Slc P T' E s y] (hx : ev ρ x = .slice a l c) (h : RR P S ops K rest (upd ρ d (.int .i64 l)) w) :
  RR P S ops K ((⟨some d, .call ⟨.builtin .len, #[x], #[T']⟩, T, pos, af, none⟩, b) :: rest) ρ w :=
 ci rfl (fun w' => by simp [execOp, resolve, invoke, builtin, Builtin.len_, hx, underlying, hT.un, goInt]) h
theorem im {x : Operand} {k k' : IntKind} {m : Int} {T1 T2 : TypeId} [h1 : IntT P T1 k] [h2 : IntT P T2 k'] (hx : ev ρ x = .int k m) (h : RR P S ops K rest (upd ρ d (.int k' (k'.wrap m))) w) :
  RR P S ops K ((⟨some d, .convert T1 T2 x, T, pos, af, none⟩, b) :: rest) ρ w :=
 ci rfl (fun w' => by simp [execOp, convert, hx, underlying, h1.un, h2.un, Conv.intToInt]) h
theorem ie {op : BinOp} {t : TypeId} {x y : Operand} {k k' : IntKind} {m m' : Int} (w : World) : (eqGuard op t x y (.int k m) (.int k' m')).run P w = .ok () w := by
 unfold eqGuard; cases op <;> rfl
theorem gD {op : BinOp} {t : TypeId} {x y : Operand} {c c' : Bool} (w : World) : (eqGuard op t x y (.bool c) (.bool c')).run P w = .ok () w := by
 unfold eqGuard; cases op <;> rfl
theorem eG {op : BinOp} {x y : Operand} {k k' : IntKind} {m m' : Int} {v : Value} (hx : ev ρ x = .int k m) (hy : ev ρ y = .int k' m') (hv : binOp op T' (.int k m) (.int k' m') = pure v)
  {T'' : TypeId} (h : RR P S ops K rest (upd ρ d v) w) : RR P S ops K ((⟨some d, .binOp op T' x y T'', T, pos, af, none⟩, b) :: rest) ρ w :=
 ci rfl (fun w' => by
  simp only [execOp, hx, hy, hv]
  rw [Sem.run_bind_ok (Sem.run_bind_ok (ie w'))]
  rfl) h
section
variable {x y : Operand} {k : IntKind} {m m' : Int} {T'' : TypeId}
theorem wM (hx : ev ρ x = .int k m) (hy : ev ρ y = .int k m') (h : RR P S ops K rest (upd ρ d (.bool (decide (m < m')))) w) : RR P S ops K ((⟨some d, .binOp .lss T' x y T'', T, pos, af, none⟩, b) :: rest) ρ w :=
 eG hx hy (by simp [binOp, Op.intCmp]) h
theorem tB (hx : ev ρ x = .int k m) (hy : ev ρ y = .int k m') (h : RR P S ops K rest (upd ρ d (.bool (decide (m ≤ m')))) w) : RR P S ops K ((⟨some d, .binOp .leq T' x y T'', T, pos, af, none⟩, b) :: rest) ρ w :=
 eG hx hy (by simp [binOp, Op.intCmp]) h
theorem wN (hx : ev ρ x = .int k m) (hy : ev ρ y = .int k m') (h : RR P S ops K rest (upd ρ d (.bool (decide (m' < m)))) w) : RR P S ops K ((⟨some d, .binOp .gtr T' x y T'', T, pos, af, none⟩, b) :: rest) ρ w :=
 eG hx hy (by simp [binOp, Op.intCmp]) h
theorem tC (hx : ev ρ x = .int k m) (hy : ev ρ y = .int k m') (h : RR P S ops K rest (upd ρ d (.bool (decide (m' ≤ m)))) w) : RR P S ops K ((⟨some d, .binOp .geq T' x y T'', T, pos, af, none⟩, b) :: rest) ρ w :=
 eG hx hy (by simp [binOp, Op.intCmp]) h
theorem tD (hx : ev ρ x = .int k m) (hy : ev ρ y = .int k m') (h : RR P S ops K rest (upd ρ d (.bool (decide (m = m')))) w) : RR P S ops K ((⟨some d, .binOp .eql T' x y T'', T, pos, af, none⟩, b) :: rest) ρ w :=
 eG hx hy (by simp [binOp, Op.intCmp]; rfl) h
theorem pm (hx : ev ρ x = .int k m) (hy : ev ρ y = .int k m') (h : RR P S ops K rest (upd ρ d (.bool (decide (m ≠ m')))) w) : RR P S ops K ((⟨some d, .binOp .neq T' x y T'', T, pos, af, none⟩, b) :: rest) ρ w :=
 eG hx hy (by simp [binOp, Op.intCmp]; rfl) h
theorem tE (hx : ev ρ x = .int k m) (hy : ev ρ y = .int k m') (h : RR P S ops K rest (upd ρ d (.int k (k.wrap (m + m')))) w) : RR P S ops K ((⟨some d, .binOp .add T' x y T'', T, pos, af, none⟩, b) :: rest) ρ w :=
 eG hx hy (by simp [binOp, Op.intArith]) h
theorem tF (hx : ev ρ x = .int k m) (hy : ev ρ y = .int k m') (h : RR P S ops K rest (upd ρ d (.int k (k.wrap (m - m')))) w) : RR P S ops K ((⟨some d, .binOp .sub T' x y T'', T, pos, af, none⟩, b) :: rest) ρ w :=
 eG hx hy (by simp [binOp, Op.intArith]) h
theorem rC (hx : ev ρ x = .int k m) (hy : ev ρ y = .int k m') (h : RR P S ops K rest (upd ρ d (.int k (k.wrap (m * m')))) w) : RR P S ops K ((⟨some d, .binOp .mul T' x y T'', T, pos, af, none⟩, b) :: rest) ρ w :=
 eG hx hy (by simp [binOp, Op.intArith]) h
end
theorem pn {k : IntKind} {N : Int} (hk : k.signed = true) (hN : (2 : Int) ^ k.bits = 2 * N) (hN' : (2 : Int) ^ (k.bits - 1) = N) {m : Int} (h1 : -N ≤ m) (h2 : m < N) : k.wrap m = m := by
 simp only [IntKind.wrap, hk, Bool.true_and, hN, hN']
 by_cases h : N ≤ m % (2 * N)
 ·rw [if_pos (by simpa using h)]
  have : m % (2 * N) = m + 2 * N := by
   have hm : m < 0 := by
    rcases Int.lt_or_le m 0 with h' | h'
    ·exact h'
    ·rw [Int.emod_eq_of_lt h' (by omega)] at h; omega
   rw [← Int.add_emod_right, Int.emod_eq_of_lt (by omega) (by omega)]
  omega
 ·rw [if_neg (by simpa using h)]
  have hm : 0 ≤ m := by
   rcases Int.lt_or_le m 0 with h' | h'
   ·exfalso; apply h
    rw [← Int.add_emod_right, Int.emod_eq_of_lt (by omega) (by omega)]; omega
   ·exact h'
  exact Int.emod_eq_of_lt hm (by omega)
theorem cY {k : IntKind} {m : Int} (hk : k.signed = false) : k.wrap m = m % 2 ^ k.bits := by
 simp [IntKind.wrap, hk]
theorem cK {m : Int} (h1 : -9223372036854775808 ≤ m) (h2 : m ≤ 9223372036854775807) : IntKind.i64.wrap m = m :=
 pn (N := 9223372036854775808) rfl (by decide) (by decide) h1 (by omega)
theorem cV {m : Int} (h1 : 0 ≤ m) (h2 : m ≤ 18446744073709551615) : IntKind.u64.wrap m = m := by
 rw [cY rfl]; exact Int.emod_eq_of_lt h1 (by simp only [IntKind.bits]; omega)
theorem tG {m : Int} (h1 : 0 ≤ m) (h2 : m ≤ 4294967295) : IntKind.u32.wrap m = m := by
 rw [cY rfl]; exact Int.emod_eq_of_lt h1 (by simp only [IntKind.bits]; omega)
theorem rD {m : Int} (h1 : 0 ≤ m) (h2 : m ≤ 255) : IntKind.u8.wrap m = m := by
 rw [cY rfl]; exact Int.emod_eq_of_lt h1 (by simp only [IntKind.bits]; omega)
section
variable {x y : Operand} {m m' : Int} {T'' : TypeId}
theorem aV (hx : ev ρ x = .int .i64 m) (hy : ev ρ y = .int .i64 m') (h1 : -9223372036854775808 ≤ m + m') (h2 : m + m' ≤ 9223372036854775807)
  (h : RR P S ops K rest (upd ρ d (.int .i64 (m + m'))) w) : RR P S ops K ((⟨some d, .binOp .add T' x y T'', T, pos, af, none⟩, b) :: rest) ρ w :=
 tE hx hy (by rw [cK h1 h2]; exact h)
theorem bK (hx : ev ρ x = .int .i64 m) (hy : ev ρ y = .int .i64 m') (h1 : -9223372036854775808 ≤ m - m') (h2 : m - m' ≤ 9223372036854775807)
  (h : RR P S ops K rest (upd ρ d (.int .i64 (m - m'))) w) : RR P S ops K ((⟨some d, .binOp .sub T' x y T'', T, pos, af, none⟩, b) :: rest) ρ w :=
 tF hx hy (by rw [cK h1 h2]; exact h)
theorem cP (hx : ev ρ x = .int .i64 m) (hy : ev ρ y = .int .i64 m') (h1 : -9223372036854775808 ≤ m * m') (h2 : m * m' ≤ 9223372036854775807)
  (h : RR P S ops K rest (upd ρ d (.int .i64 (m * m'))) w) : RR P S ops K ((⟨some d, .binOp .mul T' x y T'', T, pos, af, none⟩, b) :: rest) ρ w :=
 rC hx hy (by rw [cK h1 h2]; exact h)
theorem wZ (hx : ev ρ x = .int .u64 m) (hy : ev ρ y = .int .u64 m') (h1 : 0 ≤ m + m') (h2 : m + m' ≤ 18446744073709551615)
  (h : RR P S ops K rest (upd ρ d (.int .u64 (m + m'))) w) : RR P S ops K ((⟨some d, .binOp .add T' x y T'', T, pos, af, none⟩, b) :: rest) ρ w :=
 tE hx hy (by rw [cV h1 h2]; exact h)
variable {k : IntKind}
theorem et (hx : ev ρ x = .int .i64 m) (hy : ev ρ y = .int .i64 m') (h1 : 0 ≤ m) (h2 : 0 < m') (h3 : m ≤ 9223372036854775807)
  (h : RR P S ops K rest (upd ρ d (.int .i64 (m / m'))) w) : RR P S ops K ((⟨some d, .binOp .quo T' x y T'', T, pos, af, none⟩, b) :: rest) ρ w :=
 eG hx hy (by
  have e : m.tdiv m' = m / m' := Int.tdiv_eq_ediv_of_nonneg h1
  have b1 : 0 ≤ m / m' := Int.ediv_nonneg h1 (by omega)
  have b2 : m / m' ≤ m := Int.ediv_le_self _ h1
  have h0 : m' ≠ 0 := by omega
  simp [binOp, Op.intDiv, h0, e, cK (m := m / m') (by omega) (by omega)]) h
theorem qu (hx : ev ρ x = .int .u64 m) (hy : ev ρ y = .int .u64 m') (h1 : 0 ≤ m) (h2 : 0 < m') (h3 : m ≤ 18446744073709551615)
  (h : RR P S ops K rest (upd ρ d (.int .u64 (m / m'))) w) : RR P S ops K ((⟨some d, .binOp .quo T' x y T'', T, pos, af, none⟩, b) :: rest) ρ w :=
 eG hx hy (by
  have e : m.tdiv m' = m / m' := Int.tdiv_eq_ediv_of_nonneg h1
  have b1 : 0 ≤ m / m' := Int.ediv_nonneg h1 (by omega)
  have b2 : m / m' ≤ m := Int.ediv_le_self _ h1
  have h0 : m' ≠ 0 := by omega
  simp [binOp, Op.intDiv, h0, e, cV (m := m / m') (by omega) (by omega)]) h
theorem jC (hx : ev ρ x = .int k m) (hy : ev ρ y = .int k m') (h1 : 0 ≤ m) (h2 : 0 < m')
  (h : RR P S ops K rest (upd ρ d (.int k (m % m'))) w) : RR P S ops K ((⟨some d, .binOp .rem T' x y T'', T, pos, af, none⟩, b) :: rest) ρ w :=
 eG hx hy (by
  have e : m.tmod m' = m % m' := Int.tmod_eq_emod_of_nonneg h1
  have h0 : m' ≠ 0 := by omega
  simp [binOp, Op.intDiv, h0, e]) h
theorem lD (hx : ev ρ x = .int k m) (hy : ev ρ y = .int k m') (h2 : m' ≠ 0)
  (h : RR P S ops K rest (upd ρ d (.int k (m.tmod m'))) w) : RR P S ops K ((⟨some d, .binOp .rem T' x y T'', T, pos, af, none⟩, b) :: rest) ρ w :=
 eG hx hy (by simp [binOp, Op.intDiv, h2]) h
theorem yM {k' : IntKind} (hx : ev ρ x = .int k m) (hy : ev ρ y = .int k' m') (h1 : 0 ≤ m') (h2 : m' ≤ k.bits)
  (h : RR P S ops K rest (upd ρ d (.int k (m / 2 ^ m'.toNat))) w) : RR P S ops K ((⟨some d, .binOp .shr T' x y T'', T, pos, af, none⟩, b) :: rest) ρ w :=
 eG hx hy (by
  have e : min m'.toNat k.bits = m'.toNat := Nat.min_eq_left (by omega)
  have e2 : ¬ m' < 0 := by omega
  simp only [binOp, Op.shift, e2, if_false, e]
  rw [Int.fdiv_eq_ediv_of_nonneg _ (by exact Int.le_of_lt (Int.pow_pos (by decide)))]) h
theorem wO {k' : IntKind} (hx : ev ρ x = .int k m) (hy : ev ρ y = .int k' m') (h1 : 0 ≤ m') (h2 : m' ≤ k.bits)
  (h : RR P S ops K rest (upd ρ d (.int k (k.wrap (m * 2 ^ m'.toNat)))) w) : RR P S ops K ((⟨some d, .binOp .shl T' x y T'', T, pos, af, none⟩, b) :: rest) ρ w :=
 eG hx hy (by
  have e : min m'.toNat k.bits = m'.toNat := Nat.min_eq_left (by omega)
  have e2 : ¬ m' < 0 := by omega
  simp only [binOp, Op.shift, e2, if_false, e]) h
theorem cF {k k' : IntKind} {T1 T2 : TypeId} [h1 : IntT P T1 k] [h2 : IntT P T2 k'] (hx : ev ρ x = .int k m) (hw : k'.wrap m = m) (h : RR P S ops K rest (upd ρ d (.int k' m)) w) :
  RR P S ops K ((⟨some d, .convert T1 T2 x, T, pos, af, none⟩, b) :: rest) ρ w :=
 im hx (by rw [hw]; exact h)
end
theorem j0 {T0 : TypeId} (h : P.underlying T0 = some .bool) (n : Nat) (c c' : Bool) (w : World) : (Op.equalIn (n + 1) T0 (.bool c) (.bool c')).run P w = .ok (c == c') w := by
 simp [Op.equalIn, run_underlying h]
theorem io {T0 : TypeId} (h : P.underlying T0 = some .bool) (c c' : Bool) (w : World) : (Op.equal T0 (.bool c) (.bool c')).run P w = .ok (c == c') w := by
 unfold Op.equal
 exact j0 h 9999 c c' w
theorem qv {x y : Operand} {c c' : Bool} {T'' : TypeId} [h1 : BoolT P T'] (hx : ev ρ x = .bool c) (hy : ev ρ y = .bool c') (h : RR P S ops K rest (upd ρ d (.bool (c == c'))) w) : RR P S ops K ((⟨some d, .binOp .eql T' x y T'', T, pos, af, none⟩, b) :: rest) ρ w :=
 ci rfl (fun w' => by
  simp only [execOp, hx, hy]
  rw [Sem.run_bind_ok (v := .bool (c == c')) (w' := w')]
  ·rfl
  ·rw [Sem.run_bind_ok (gD w')]
   show (do pure (Value.bool (← Op.equal T' (.bool c) (.bool c'))) : Sem Value).run P w' = _
   rw [Sem.run_bind_ok (io h1.un c c' w')]; rfl) h
theorem ip {x y : Operand} {c c' : Bool} {T'' : TypeId} [h1 : BoolT P T'] (hx : ev ρ x = .bool c) (hy : ev ρ y = .bool c') (h : RR P S ops K rest (upd ρ d (.bool (!(c == c')))) w) : RR P S ops K ((⟨some d, .binOp .neq T' x y T'', T, pos, af, none⟩, b) :: rest) ρ w :=
 ci rfl (fun w' => by
  simp only [execOp, hx, hy]
  rw [Sem.run_bind_ok (v := .bool (!(c == c'))) (w' := w')]
  ·rfl
  ·rw [Sem.run_bind_ok (gD w')]
   show (do pure (Value.bool (!(← Op.equal T' (.bool c) (.bool c')))) : Sem Value).run P w' = _
   rw [Sem.run_bind_ok (io h1.un c c' w')]; rfl) h
def nv : Value → Option Value
 | .int k m => some (.int k m)
 | .bool t => some (.bool t)
 | .slice a l c => some (.slice a l c)
 | .pointer a => some (.pointer a)
 | .agg vs => some (.agg vs)
 | .tuple vs => some (.tuple vs)
 | v => some v
theorem ky (v : Value) : nv v = some v := by cases v <;> rfl
def cmpV : BinOp → Int → Int → Option Value
 | .lss, m, n => some (.bool (decide (m < n)))
 | .leq, m, n => some (.bool (decide (m ≤ n)))
 | .gtr, m, n => some (.bool (decide (n < m)))
 | .geq, m, n => some (.bool (decide (n ≤ m)))
 | .eql, m, n => some (.bool (decide (m = n)))
 | .neq, m, n => some (.bool (decide (m ≠ n)))
 | _, _, _ => none
def pureV (ρ : Env) : Op → Option Value
 | .move x => nv (ev ρ x)
 | .assign x => nv (ev ρ x)
 | .pick c x y => match ev ρ c with | .bool true => nv (ev ρ x) | .bool false => nv (ev ρ y) | _ => none
 | .extract t i => match ev ρ t with | .tuple vs => (match vs[i]? with | some v => nv v | none => none) | _ => none
 | .unOp .not _ x => match ev ρ x with | .bool t => some (.bool (!t)) | _ => none
 | .nilCheck x => match ev ρ x with | .pointer (some a) => some (.pointer (some a)) | _ => none
 | .binOp op _ x y _ => match ev ρ x, ev ρ y with | .int k m, .int k' m' => (if k = k' then cmpV op m m' else none) | _, _ => none
 | _ => none
theorem sn {op : Op} {v : Value} {dst : Option Nat} (h : pureV ρ op = some v) (w : World) : (execOp (ev ρ) ⟨dst, op, T, pos, af, none⟩).run P w = .ok (.value v) w := by
 cases op <;> simp only [pureV] at h <;> try (cases h; done)
 case move x => rw [ky] at h; cases h; rfl
 case assign x => rw [ky] at h; cases h; rfl
 case pick c x y =>
  split at h
  ·rename_i hc; rw [ky] at h; cases h; simp [execOp, hc, asBool]
  ·rename_i hc; rw [ky] at h; cases h; simp [execOp, hc, asBool]
  ·cases h
 case extract t i =>
  split at h
  ·rename_i vs ht
   split at h
   ·rename_i u hu; rw [ky] at h; cases h; simp [execOp, ht, Instr.extract, hu]
   ·cases h
  ·cases h
 case unOp op T x =>
  cases op <;> simp only at h <;> try (cases h; done)
  split at h
  ·rename_i hx; cases h; simp [execOp, hx, Op.unary]
  ·cases h
 case nilCheck x =>
  split at h
  ·rename_i hx; cases h; simp [execOp, hx]
  ·cases h
 case binOp op T x y T2 =>
  split at h
  ·rename_i k m k' m' hx hy
   split at h
   ·rename_i hk
    subst hk
    have hb : binOp op T (.int k m) (.int k m') = pure v := by
     cases op <;> simp only [cmpV] at h <;> (try (cases h; done)) <;> cases h <;> simp [binOp, Op.intCmp] <;> rfl
    simp only [execOp, hx, hy, hb]
    rw [Sem.run_bind_ok (Sem.run_bind_ok (ie w))]
    rfl
   ·cases h
  ·cases h
theorem aj {op : Op} {v : Value} (hv : pureV ρ op = some v) (h : RR P S ops K rest (upd ρ d v) w) : RR P S ops K ((⟨some d, op, T, pos, af, none⟩, b) :: rest) ρ w :=
 ci rfl (fun w' => sn hv w') h
theorem j1 {op : BinOp} {f : Nat → Nat → Nat} {x y : Operand} {k : IntKind} {m m' : Nat} {T'' : TypeId} (hk : k.signed = false)
  (hop : ∀ a b : BitVec k.bits, a.toNat = m → b.toNat = m' → Op.intBits op k (m : Int) (m' : Int) = pure (.int k (k.wrap ((f m m' : Nat) : Int))))
  (hbin : binOp op T' (.int k (m : Int)) (.int k (m' : Int)) = Op.intBits op k (m : Int) (m' : Int))
  (hm : m < 2 ^ k.bits) (hm' : m' < 2 ^ k.bits) (hf : f m m' < 2 ^ k.bits)
  (hx : ev ρ x = .int k (m : Int)) (hy : ev ρ y = .int k (m' : Int))
  (h : RR P S ops K rest (upd ρ d (.int k ((f m m' : Nat) : Int))) w) : RR P S ops K ((⟨some d, .binOp op T' x y T'', T, pos, af, none⟩, b) :: rest) ρ w :=
 eG hx hy (by
  rw [hbin, hop (BitVec.ofNat _ m) (BitVec.ofNat _ m') (by simp [Nat.mod_eq_of_lt hm]) (by simp [Nat.mod_eq_of_lt hm'])]
  rw [cY hk]
  rw [Int.emod_eq_of_lt (by omega) (by exact_mod_cast hf)]) h
theorem j2 {n m : Nat} : BitVec.ofInt n (m : Int) = BitVec.ofNat n m := by
 apply BitVec.eq_of_toNat_eq; simp
theorem n8 {x y : Operand} {k : IntKind} {m m' : Nat} {T'' : TypeId} (hx : ev ρ x = .int k (m : Int)) (hy : ev ρ y = .int k (m' : Int)) (hk : k.signed = false) (hm : m < 2 ^ k.bits) (hm' : m' < 2 ^ k.bits)
  (h : RR P S ops K rest (upd ρ d (.int k ((m &&& m' : Nat) : Int))) w) : RR P S ops K ((⟨some d, .binOp .and T' x y T'', T, pos, af, none⟩, b) :: rest) ρ w :=
 j1 (f := fun a b => a &&& b) hk (fun a b ha hb => by
  simp only [Op.intBits, j2, BitVec.toNat_and, BitVec.toNat_ofNat, Nat.mod_eq_of_lt hm, Nat.mod_eq_of_lt hm'])
  (by simp [binOp]) hm hm' (Nat.lt_of_le_of_lt Nat.and_le_left hm) hx hy h
theorem lE {x y : Operand} {k : IntKind} {m m' : Nat} {T'' : TypeId} (hx : ev ρ x = .int k (m : Int)) (hy : ev ρ y = .int k (m' : Int)) (hk : k.signed = false) (hm : m < 2 ^ k.bits) (hm' : m' < 2 ^ k.bits)
  (h : RR P S ops K rest (upd ρ d (.int k ((m ||| m' : Nat) : Int))) w) : RR P S ops K ((⟨some d, .binOp .or T' x y T'', T, pos, af, none⟩, b) :: rest) ρ w :=
 j1 (f := fun a b => a ||| b) hk (fun a b ha hb => by
  simp only [Op.intBits, j2, BitVec.toNat_or, BitVec.toNat_ofNat, Nat.mod_eq_of_lt hm, Nat.mod_eq_of_lt hm'])
  (by simp [binOp]) hm hm' (Nat.or_lt_two_pow hm hm') hx hy h
theorem dP {x y : Operand} {k k' : IntKind} {m j : Nat} {T'' : TypeId} (hx : ev ρ x = .int k (m : Int)) (hy : ev ρ y = .int k' (j : Int)) (hj : Nat.ble j k.bits = true ∨ j ≤ k.bits)
  (h : RR P S ops K rest (upd ρ d (.int k ((m >>> j : Nat) : Int))) w) : RR P S ops K ((⟨some d, .binOp .shr T' x y T'', T, pos, af, none⟩, b) :: rest) ρ w :=
 yM hx hy (by omega) (by rcases hj with h | h; exact_mod_cast Nat.le_of_ble_eq_true h; exact_mod_cast h) (by
  rw [Int.toNat_natCast, show ((m : Int) / 2 ^ j) = ((m >>> j : Nat) : Int) by rw [Nat.shiftRight_eq_div_pow]; simp]
  exact h)
theorem j3 {x y : Operand} {k k' : IntKind} {m j : Nat} {T'' : TypeId} (hx : ev ρ x = .int k (m : Int)) (hy : ev ρ y = .int k' (j : Int)) (hk : k.signed = false) (hj : j ≤ k.bits)
  (h : RR P S ops K rest (upd ρ d (.int k (((m <<< j) % 2 ^ k.bits : Nat) : Int))) w) : RR P S ops K ((⟨some d, .binOp .shl T' x y T'', T, pos, af, none⟩, b) :: rest) ρ w :=
 wO hx hy (by omega) (by exact_mod_cast hj) (by
  rw [Int.toNat_natCast, cY hk, show ((m : Int) * 2 ^ j % 2 ^ k.bits) = (((m <<< j) % 2 ^ k.bits : Nat) : Int) by rw [Nat.shiftLeft_eq]; simp]
  exact h)
def elt (a : Option Addr) (n : Nat) : Addr := match a with | some a => ⟨a.block, a.off + n, none⟩ | none => ⟨0, 0, none⟩
def plain (a : Option Addr) : Prop := ∃ g o, a = some ⟨g, o, none⟩
theorem iq {x ix : Operand} {a : Option Addr} {l c E s y : Nat} {i : Int} {k : IntKind} [hT : Slc P T' E s y] (hx : ev ρ x = .slice a l c) (hi : ev ρ ix = .int k i) (ha : plain a)
  (h1 : 0 ≤ i) (h2 : i < l) (h : RR P S ops K rest (upd ρ d (.pointer (some (elt a (i.toNat * s))))) w) :
  RR P S ops K ((⟨some d, .indexAddr T' x ix, T, pos, af, none⟩, b) :: rest) ρ w := by
 obtain ⟨g, o, rfl⟩ := ha
 refine ci rfl (fun w' => ?_) h
 obtain ⟨i0, hi0, hz⟩ := Option.map_eq_some_iff.1 hT.sz
 simp only [Prod.mk.injEq] at hz
 have e : ∀ n, (⟨g, o, none⟩ : Addr).add n = ⟨g, o + n, none⟩ := fun n => by unfold Addr.add; split <;> simp_all
 simp [execOp, Instr.indexAt, hx, hi, asIntOf, underlying, hT.un, sizeOf, typeInfo, hi0, hz.1, h1, h2, e, elt]
theorem aM {x : Operand} {g o f off : Nat} [hT : Fld P T' f off] (hx : ev ρ x = .pointer (some ⟨g, o, none⟩))
  (h : RR P S ops K rest (upd ρ d (.pointer (some ⟨g, o + off, none⟩))) w) : RR P S ops K ((⟨some d, .fieldAddr T' x f, T, pos, af, none⟩, b) :: rest) ρ w := by
 refine ci rfl (fun w' => ?_) h
 have hok := hT.ok
 split at hok
 ·rename_i fs hfs
  rw [Option.any_eq_true] at hok
  obtain ⟨fl, hfl, hok⟩ := hok
  simp only [Bool.and_eq_true, beq_iff_eq] at hok
  obtain ⟨h1, h2⟩ := hok
  split at h2
  ·rename_i m hm
   obtain ⟨i0, hi0, hz⟩ := Option.map_eq_some_iff.1 hm
   have e : (⟨g, o, none⟩ : Addr).add off = ⟨g, o + off, none⟩ := by unfold Addr.add; split <;> simp_all
   simp [execOp, Instr.fieldAt, hx, underlying, hfs, hfl, Instr.sureAddr, fieldPlace, sizeOf, typeInfo, hi0, hz, h1, e]
  ·cases h2
 ·cases hok
theorem ir {x : Operand} {T1 : TypeId} {a : Addr} {v : Value} [Scal P T1] (hx : ev ρ x = .pointer (some a)) (hc : Rd b S w fun w' => w'.cell? a = some v)
  (h : RR P S ops K rest (upd ρ d v) w) : RR P S ops K ((⟨some d, .load T1 x, T, pos, af, none⟩, b) :: rest) ρ w :=
 rB rfl rfl (hc.imp fun w' hc => by
  simp only [execOp, hx, Instr.loadAt, Instr.sureAddr]
  have := kw (P := P) (T := T1) hc
  simp [this]) h
theorem kW {x : Operand} {T1 n g o : Nat} {vs : List Value} [Agg P T1 n] (hx : ev ρ x = .pointer (some ⟨g, o, none⟩)) (hl : vs.length = n)
  (hc : Rd b S w fun w' => ∀ j, j < vs.length → w'.cell? ⟨g, o + j, none⟩ = some (vs.getD j undef))
  (h : RR P S ops K rest (upd ρ d (.agg vs.toArray)) w) : RR P S ops K ((⟨some d, .load T1 x, T, pos, af, none⟩, b) :: rest) ρ w :=
 rB rfl rfl (hc.imp fun w' hc => by
  simp only [execOp, hx, Instr.loadAt, Instr.sureAddr]
  have := jB (P := P) (T := T1) hl hc
  simp [this]) h
end
end Go.W
