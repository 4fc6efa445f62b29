import Derived.Test.YtiejljicpinheaaGreatProg
import Derived.Deep.SlicePairs
import Derived.SizedLaws
import Derived.Test.YtiejljicpinheaaGreatA01
import Derived.Test.YtiejljicpinheaaGreatA02
import Derived.Test.YtiejljicpinheaaGreatA03
import Derived.Test.YtiejljicpinheaaGreatA04
import Derived.Test.YtiejljicpinheaaGreatA05
import Derived.Test.YtiejljicpinheaaGreatA06
import Derived.Test.YtiejljicpinheaaGreatA07
import Derived.Test.YtiejljicpinheaaGreatA12
import Derived.Test.YtiejljicpinheaaGreatA13
import Derived.Test.YtiejljicpinheaaGreatA14
import Derived.Test.YtiejljicpinheaaGreatA17
import Derived.Test.YtiejljicpinheaaGreatA18
import Derived.Test.YtiejljicpinheaaGreatA19
import Derived.Test.YtiejljicpinheaaGreatA24
import Derived.Test.YtiejljicpinheaaGreatA25
import Derived.Test.YtiejljicpinheaaGreatA28
import Derived.Test.YtiejljicpinheaaGreatA29
namespace Go.Proofs.YtiejljicpinheaaGreat
open Go.W
instance c20 : Fun Tryz.prog 20 := ⟨by kernel_rfl⟩
instance c22 : Fun Tryz.prog 22 := ⟨by kernel_rfl⟩
instance c23 : Fun Tryz.prog 23 := ⟨by kernel_rfl⟩
instance c66 : Fun Tryz.prog 66 := ⟨by kernel_rfl⟩
end Go.Proofs.YtiejljicpinheaaGreat
namespace Go.LA
theorem InL.mat {rows cols : Nat} {H H' : Mat} {v : Vec} (h : InL rows cols H v) (he : ∀ r c, r < rows → c < cols → H r c = H' r c) : InL rows cols H' v := by
 obtain ⟨x, hx⟩ := h
 exact ⟨x, fun r hr => by rw [hx r hr]; exact dq (fun j hj => he r j hr hj) fun _ _ => rfl⟩
end Go.LA
namespace Go.W
section
variable {P : Program} {S : World → Prop} {ops : List Oper} {K : Env → World → Prop} {rest : List (Oper × Option Bool)} {ρ : Env} {w : World} {b : Option Bool} {kf : Bool} {d : Nat} {dst : Option Nat} {T T' : TypeId} {pos : String} {af : Array Edge}
end
end Go.W
namespace Go.W
section
variable {P : Program} {S : World → Prop} {ops : List Oper} {K : Env → World → Prop} {rest : List (Oper × Option Bool)} {ρ : Env} {w : World} {b : Option Bool} {kf : Bool} {d : Nat} {dst : Option Nat} {T T' : TypeId} {pos : String} {af : Array Edge}
end
end Go.W
namespace Go.W
end Go.W
namespace Go.W
section
variable {P : Program} {S : World → Prop} {ops : List Oper} {K : Env → World → Prop} {rest : List (Oper × Option Bool)} {ρ : Env} {w : World} {b : Option Bool} {kf : Bool} {d : Nat} {dst : Option Nat} {T T' : TypeId} {pos : String} {af : Array Edge}
theorem vU {x y : Operand} {c : Bool} {T'' : TypeId} [h1 : BoolT P T'] (hx : ev ρ x = .bool c) (hy : ev ρ y = .bool c) (h : RR P S ops K rest (upd ρ d (.bool false)) w) : RR P S ops K ((⟨some d, .binOp .neq T' x y T'', T, pos, af, none⟩, b) :: rest) ρ w :=
 gB hx hy (by rw [beq_self_eq_true]; exact h)
end
end Go.W
namespace Go.Proofs.YtiejljicpinheaaGreat
open Go.W Go.LM Go.LA
theorem jY {n cap : Nat} {w : World} {a : Option Addr} {s : Nat → SD} (hS : Sl w a (topC n s)) (hno : ¬ okS n s) :
  CallsR Tryz.prog 14 #[.slice a n cap] w fun v w' => v = .tuple #[.slice none 0 0, .slice none 0 0, .bool false] ∧ Ex w w' := by
 refine aF (args := [_]) Tryz.func14 rfl rfl ?_
 repeat' (first|refine ai rfl ?_|refine aa ?_|refine aj ?_|refine ah rfl ?_|refine ae ?_)
 refine aw (ef hS) rfl ?_
 rintro v w1 ⟨rfl, hE1⟩
 refine ⟨fun _ _ => trivial, ?_⟩
 rw [dH hno]
 repeat' (first|refine aK rfl rfl ?_|refine ai rfl ?_|refine aa ?_|refine aj ?_|refine ah rfl ?_|refine ae ?_|refine az rfl ?_|refine aI ?_|refine aU ?_)
 exact eo rfl (rt rfl) (rt rfl) (rt rfl) ⟨rfl, hE1⟩
end Go.Proofs.YtiejljicpinheaaGreat
namespace Go.Proofs.YtiejljicpinheaaGreat
open Go.W Go.LM Go.LA
structure AM (K : Nat) (w : World) (a : Option Addr) (n : Nat) (s : Nat → SD) (F : Mat) : Prop where
 top : Sl w a (topC n s)
 row : ∀ i, i < n → RX false K w (s i) (s i).len (F i)
theorem AM.ext {K n : Nat} {w w' : World} {a : Option Addr} {s : Nat → SD} {F : Mat} (h : AM K w a n s F) (e : Ex w w') : AM K w' a n s F := ⟨h.top.ext e, fun i hi => (h.row i hi).ext e⟩
theorem AM.mx {K n : Nat} {w : World} {a : Option Addr} {s : Nat → SD} {F : Mat} (h : AM K w a n s F) (ok : okS n s) : MX false K w a n (s 0).len s F :=
 ⟨h.top, fun i hi => by have := h.row i hi; rwa [ok.2.2.2.2 i hi] at this⟩
theorem iy {n : Nat} {s : Nat → SD} (h : okS n s) : 1 ≤ n ∧ n ≤ 16 := ⟨h.1, h.2.1⟩
theorem gQ {n : Nat} {s : Nat → SD} (h : okS n s) : 1 ≤ (s 0).len ∧ (s 0).len ≤ 16 := ⟨h.2.2.1, h.2.2.2.1⟩
theorem kP {n cap : Nat} {w : World} {a : Option Addr} {s : Nat → SD} (hS : Sl w a (topC n s)) (hno : ¬ okS n s) :
  CallsR Tryz.prog 21 #[.slice a n cap] w fun v w' => v = .tuple #[.slice none 0 0, .bool false] ∧ Ex w w' := by
 refine aF (args := [_]) Tryz.func21 rfl rfl ?_
 repeat' (first|refine ai rfl ?_|refine aa ?_|refine aj ?_|refine ah rfl ?_|refine ae ?_)
 refine aw (jY hS hno) rfl ?_
 rintro v w1 ⟨rfl, hE1⟩
 refine ⟨fun _ _ => trivial, ?_⟩
 repeat' (first|refine aK rfl rfl ?_|refine ai rfl ?_|refine aa ?_|refine aj ?_|refine ah rfl ?_|refine ae ?_|refine az rfl ?_|refine aI ?_|refine aU ?_)
 exact cA rfl (rt rfl) (rt rfl) ⟨rfl, hE1⟩
end Go.Proofs.YtiejljicpinheaaGreat
namespace Go.LA
theorem HF.inLk {rows cols k : Nat} {H : Mat} {p : Nat → Nat} (h : HF rows cols H k p) (v : Vec) : InL rows cols H v ↔ InL rows k H v := by
 constructor
 ·rintro ⟨x, hx⟩; exact ⟨x, fun r hr => by rw [hx r hr, h.mvk x hr]⟩
 ·rintro ⟨x, hx⟩
  refine ⟨fun j => if j < k then x j else 0, fun r hr => ?_⟩
  rw [h.mvk _ hr, hx r hr]
  exact dq (fun _ _ => rfl) fun j hj => by rw [if_pos hj]
theorem HF.latt {rows cols cols' k k' : Nat} {H H' : Mat} {p p' : Nat → Nat} (h : HF rows cols H k p) (h' : HF rows cols' H' k' p') :
  (∀ v, InL rows cols H v ↔ InL rows cols' H' v) ↔ k = k' ∧ ∀ i j, i < rows → j < k → H i j = H' i j := by
 constructor
 ·intro hL; obtain ⟨h1, _, h3⟩ := h.unique h' hL; exact ⟨h1, fun i j hi hj => h3 j hj i hi⟩
 ·rintro ⟨rfl, he⟩ v
  rw [h.inLk, h'.inLk]
  exact ⟨fun hv => hv.mat he, fun hv => hv.mat fun i j hi hj => (he i j hi hj).symm⟩
end Go.LA
namespace Go.Proofs.YtiejljicpinheaaGreat
open Go.W Go.LM Go.LA
end Go.Proofs.YtiejljicpinheaaGreat
namespace Go.Proofs.YtiejljicpinheaaGreat
open Go.W Go.LM Go.LA
theorem AC.nil (K : Nat) (w : World) (a : Option Addr) (s : Nat → SD) (F : Mat) : AC K w a 0 s F := ⟨Sl.nil _ _, fun i h => by omega, fun i h => by omega⟩
end Go.Proofs.YtiejljicpinheaaGreat
namespace Go.Proofs.YtiejljicpinheaaGreat
open Go.W Go.LM Go.LA
theorem kU {n cap : Nat} {w : World} {a : Option Addr} {s : Nat → SD} (hS : Sl w a (topC n s)) (hno : ¬ okS n s) :
  CallsR Tryz.prog 15 #[.slice a n cap] w fun v w' => v = .tuple #[.slice none 0 0, .slice none 0 0, .bool false] ∧ Ex w w' := by
 refine aF (args := [_]) Tryz.func15 rfl rfl ?_
 repeat' (first|refine ai rfl ?_|refine aa ?_|refine aj ?_|refine ah rfl ?_|refine ae ?_)
 refine aw (cc hS) rfl ?_
 rintro v w1 ⟨rfl, hE1⟩
 refine ⟨fun _ _ => trivial, ?_⟩
 rw [dH hno]
 repeat' (first|refine aK rfl rfl ?_|refine ai rfl ?_|refine aa ?_|refine aj ?_|refine ah rfl ?_|refine ae ?_|refine az rfl ?_|refine aI ?_|refine aU ?_)
 exact eo rfl (rt rfl) (rt rfl) (rt rfl) ⟨rfl, hE1⟩
end Go.Proofs.YtiejljicpinheaaGreat
namespace Go.Proofs.YtiejljicpinheaaGreat
open Go.W Go.LM Go.LA
set_option maxHeartbeats 2000000 in
theorem fD {cn : Bool} {K r c k cap : Nat} {w : World} {a : Option Addr} {s : Nat → SD} {F : Mat} (hM : MX cn K w a r c s F) (hr : 1 ≤ r ∧ r ≤ 1000) (hk : k < c) :
  CallsR Tryz.prog 66 #[.slice a r cap, .int .i64 (k : Int)] w fun v w' => ∃ p : Nat, v = .int .i64 (p : Int) ∧ p ≤ r ∧ (∀ x, x < p → F x k = 0) ∧ (p < r → F p k ≠ 0) ∧ Ex w w' := by
 have hpt := hM.plain (by omega)
 refine aF (args := [_, _]) Tryz.func66 rfl rfl ?_
 repeat' (first|refine ai rfl ?_|refine aa ?_|refine aj ?_|refine ah rfl ?_|refine ae ?_|refine aZ rfl ?_|refine aA ?_)
 refine aY (ι := Nat) [4, 5, 8, 9, 10, 11, 12, 13, 14, 15, 16, 17, 18, 19, 20, 21] (fun i => [(8, .int .i64 (i : Int))])
  (fun i w' => i ≤ r ∧ Ex w w' ∧ ∀ x, x < i → F x k = 0) (fun i => r - i)
  0 ⟨rfl, trivial⟩ ⟨by omega, Ex.refl _, fun x h => by omega⟩ ?_
 rintro i ξ w2 ⟨hi, hE2, hz⟩
 show CW _ _ _ _ (over [(8, .int .i64 (i : Int))] _) w2
 rcases Nat.lt_or_ge i r with hir | hir
 ·obtain ⟨pa, d, hh, e1, e2, hpp, hS, hEn⟩ := (hM.ext hE2).get hir (by omega)
  repeat' (first|refine bu rfl rfl (by omega) ?_|refine aD (j := i) (a := a) rfl rfl hpt (by omega) ?_|refine aV (j := i) (a := a) (n := r) (s := s) rfl (hM.ext hE2).top (by omega) e1 ?_|refine aT (j := k) (a := pa) rfl rfl hpp (by omega) ?_|refine bo (j := k) (a := pa) rfl hS hpp (by omega) ?_|refine ai rfl ?_|refine aa ?_|refine aj ?_|refine ah rfl ?_|refine ae ?_|refine az rfl ?_|refine aA ?_|refine aE ?_)
  refine aw (cj (hEn k hk).k) rfl ?_
  rintro v w3 ⟨rfl, hE3⟩
  refine ⟨fun _ _ => trivial, ?_⟩
  by_cases h : F i k = 0
  ·repeat' (first|(refine cN rfl rfl (by rw [h]; rfl) ?_)|refine ai rfl ?_|refine aa ?_|refine ah rfl ?_|refine ae ?_|refine bc rfl rfl (by omega) (by omega) ?_|refine au rfl ?_|refine aL ?_|refine aE ?_)
   refine ⟨⟨i + 1, ⟨hir, hE2.trans hE3, fun x hx => ?_⟩, by omega, rfl, trivial⟩, (by (repeat (first|exact aH _ _ _|refine ay rfl ?_|refine av rfl ?_|refine ak rfl ?_|refine ao rfl ?_)))⟩
   by_cases e : x = i
   ·subst e; exact h
   ·exact hz x (by omega)
  ·repeat' (first|refine df rfl rfl (fun e => h (Int.sign_eq_zero_iff_zero.1 e)) ?_|refine ai rfl ?_|refine aa ?_|refine aj ?_|refine ah rfl ?_|refine ae ?_|refine az rfl ?_|refine aI ?_|refine aU ?_|refine bQ ?_)
   exact bx rfl (rt rfl) ⟨i, rfl, hi, hz, fun _ => h, hE2.trans hE3⟩
 ·have eir : r = i := by omega
  subst eir
  repeat' (first|refine bj rfl rfl (by omega) ?_|refine ai rfl ?_|refine aa ?_|refine aj ?_|refine ah rfl ?_|refine ae ?_|refine aZ rfl ?_|refine au rfl ?_|refine aP ?_|refine aJ ?_|refine aQ ?_|refine aI ?_)
  exact bx rfl (rt rfl) ⟨r, rfl, Nat.le_refl _, hz, fun h => by omega, hE2⟩
theorem mF {r c k l p : Nat} {H : Mat} {f : Nat → Nat} (h : HF r c H k f) (hl : l < c) (hp : p ≤ r) (hz : ∀ x, x < p → H x l = 0) (hn : p < r → H p l ≠ 0) : (p < r ↔ l < k) ∧ (p < r → p = f l) := by
 constructor
 ·constructor
  ·intro hpr; exact (h.piv hl hpr hz (hn hpr)).1
  ·intro hlk
   rcases Nat.lt_or_ge p r with h' | h'
   ·exact h'
   ·have := h.pos l hlk; rw [hz _ (by have := h.lt l hlk; omega)] at this; omega
 ·intro hpr; exact (h.piv hl hpr hz (hn hpr)).2.symm
def RetRB (r c s Q : Nat) (A : Mat) (w : World) (v : Value) (w' : World) : Prop :=
 ∃ (H U : Mat) (k : Nat) (p : Nat → Nat) (u : SD), v = .tuple #[.slice u.a u.len u.cap, .bool true] ∧ CEq r c A H U ∧ HF r c H k p ∧ (k = 0 → u = sd0) ∧ (0 < k → ∃ g gs cp, u = ⟨some ⟨g, 0, none⟩, r, r⟩ ∧ MO true (Zb Q s (c + k)) w' w.heap.size g r k gs cp H) ∧ Ex w w'
theorem RetRB.basis {KM r c s Q : Nat} {A : Mat} {w w' : World} {v : Value} (h : RetRB r c s Q A w v w') (hQ : 10 ≤ Q) (hKM : Zb Q s (2 * c + 1) ≤ KM) : RetBasis KM r c A w v w' := by
 obtain ⟨H, U, k, p, u, h1, h2, h3, h4, h5, h6⟩ := h
 refine ⟨H, U, k, p, u, h1, h2, h3, h4, fun h => ?_, h6⟩
 obtain ⟨g, gs, cp, e, hM⟩ := h5 h
 exact ⟨g, gs, cp, e, hM.up (Nat.le_trans (eh hQ (by have := h3.kc; omega)) hKM)⟩
theorem eD {n cap : Nat} {w : World} {a : Option Addr} {s : Nat → SD} (hS : Sl w a (topC n s)) (hno : ¬ okS n s) :
  CallsR Tryz.prog 22 #[.slice a n cap] w fun v w' => v = .tuple #[.slice none 0 0, .bool false] ∧ Ex w w' := by
 refine aF (args := [_]) Tryz.func22 rfl rfl ?_
 repeat' (first|refine ai rfl ?_|refine aa ?_|refine aj ?_|refine ah rfl ?_|refine ae ?_)
 refine aw (kU hS hno) rfl ?_
 rintro v w1 ⟨rfl, hE1⟩
 refine ⟨fun _ _ => trivial, ?_⟩
 repeat' (first|refine aK rfl rfl ?_|refine ai rfl ?_|refine aa ?_|refine aj ?_|refine ah rfl ?_|refine ae ?_|refine az rfl ?_|refine aI ?_|refine aU ?_)
 exact cA rfl (rt rfl) (rt rfl) ⟨rfl, hE1⟩
set_option maxHeartbeats 4000000 in
theorem cV {cn : Bool} {K KM r c cap s Q : Nat} {w : World} {a : Option Addr} {sh : Nat → SD} {A : Mat} (hM : MX cn K w a r c sh A) (hr : 1 ≤ r ∧ r ≤ 16) (hc : 1 ≤ c ∧ c ≤ 16) (hA : ∀ l, l < c → ∀ i, i < r → Lb (Zb Q s l) (A i l)) (hQ : 10 ≤ Q) (hKM : Zb Q s (2 * c + 1) ≤ KM) (hK : 2 * KM < 17592186044415) :
  CallsR Tryz.prog 22 #[.slice a r cap] w (RetRB r c s Q A w) := by
 refine aF (args := [_]) Tryz.func22 rfl rfl ?_
 repeat' (first|refine ai rfl ?_|refine aa ?_|refine aj ?_|refine ah rfl ?_|refine ae ?_)
 refine aw (gi hM hr hc hA hQ hKM hK) rfl ?_
 rintro v w1 ⟨g, g', gs, cp, gs', cp', H, U, k, p, rfl, hF, _, _, hdn, hE1⟩
 refine ⟨fun _ _ => trivial, ?_⟩
 have hHF := hF.hf
 have hkc := hHF.kc
 repeat' (first|refine aK rfl rfl ?_|refine ai rfl ?_|refine aa ?_|refine aj ?_|refine ah rfl ?_|refine ae ?_|refine au rfl ?_|refine aE ?_)
 refine ct (ι := Unit) [7, 17, 18, 19, 20, 21, 22, 23, 24, 25, 26, 27, 28, 29, 30, 31, 32] (fun _ => [(7, .int .i64 (k : Int))]) (fun _ w' => Ex w1 w') ?_ ?_
 ·refine aA ?_
  refine aY (ι := Nat) [7, 17, 18, 19, 20, 21, 22, 23, 24, 25, 26, 27, 28, 29, 30, 31, 32] (fun l => [(7, .int .i64 (l : Int))])
   (fun l w' => l ≤ k ∧ Ex w1 w') (fun l => k - l)
   0 ⟨rfl, trivial⟩ ⟨by omega, Ex.refl _⟩ ?_
  rintro l ξ w2 ⟨hl, hE2⟩
  show CW _ _ _ _ (over [(7, .int .i64 (l : Int))] _) w2
  have hO2 := hF.h.ext hE2
  rcases Nat.lt_or_ge l c with hlc | hlc
  ·repeat' (first|refine aD (j := 0) (a := some ⟨g, 0, none⟩) rfl rfl ⟨_, _, rfl⟩ (by omega) ?_|refine aV (j := 0) (a := some ⟨g, 0, none⟩) (n := r) (s := fun k => ⟨some ⟨gs k, 0, none⟩, c, cp k⟩) rfl hO2.top.sl (by omega) rfl ?_|refine bu rfl rfl (by omega) ?_|refine ai rfl ?_|refine aj ?_|refine ah rfl ?_|refine aZ rfl ?_|refine bz rfl rfl ?_)
   refine aw (fD hO2.mx ⟨hr.1, by omega⟩ hlc) rfl ?_
   rintro v w3 ⟨q, rfl, hq, hz, hn, hE3⟩
   refine ⟨fun _ _ => trivial, ?_⟩
   obtain ⟨t1, _⟩ := mF hHF hlc hq hz hn
   rcases Nat.lt_or_ge l k with hlk | hlk
   ·have hqr := t1.2 hlk
    repeat' (first|refine bu rfl rfl (by omega) ?_|refine ai rfl ?_|refine aa ?_|refine ah rfl ?_|refine ae ?_|refine aZ rfl ?_|refine bz rfl rfl ?_|refine bc rfl rfl (by omega) (by omega) ?_|refine az rfl ?_|refine aA ?_|refine aL ?_|refine aE ?_)
    exact ⟨⟨l + 1, ⟨hlk, hE2.trans hE3⟩, by omega, rfl, trivial⟩, (by (repeat (first|exact aH _ _ _|refine ay rfl ?_|refine av rfl ?_|refine ak rfl ?_|refine ao rfl ?_)))⟩
   ·have elk : l = k := by omega
    subst elk
    have hqr : ¬ q < r := fun h => by have := t1.1 h; omega
    repeat' (first|refine bj rfl rfl (by omega) ?_|refine ai rfl ?_|refine aa ?_|refine ae ?_|refine aZ rfl ?_|refine bz rfl rfl ?_|refine au rfl ?_|refine aP ?_|refine aJ ?_|refine aQ ?_)
    exact ⟨⟨(), hE2.trans hE3, rfl, trivial⟩, (by (repeat (first|exact aM _ _|refine ay rfl ?_|refine av rfl ?_|refine ak rfl ?_|refine ao rfl ?_)))⟩
  ·have elk : l = k := by omega
   subst elk
   repeat' (first|refine aD (j := 0) (a := some ⟨g, 0, none⟩) rfl rfl ⟨_, _, rfl⟩ (by omega) ?_|refine aV (j := 0) (a := some ⟨g, 0, none⟩) (n := r) (s := fun k => ⟨some ⟨gs k, 0, none⟩, c, cp k⟩) rfl hO2.top.sl (by omega) rfl ?_|refine bj rfl rfl (by omega) ?_|refine ai rfl ?_|refine aa ?_|refine aj ?_|refine ah rfl ?_|refine ae ?_|refine aZ rfl ?_|refine bK rfl rfl ?_|refine au rfl ?_|refine aP ?_|refine aJ ?_|refine aQ ?_)
   exact ⟨⟨(), hE2, rfl, trivial⟩, (by (repeat (first|exact aM _ _|refine ay rfl ?_|refine av rfl ?_|refine ak rfl ?_|refine ao rfl ?_)))⟩
 ·rintro ⟨⟩ ξ w2 hE2
  show CW _ _ _ _ (over [(7, .int .i64 (k : Int))] _) w2
  have hE02 := hE1.trans hE2
  by_cases hk : k = 0
  ·repeat' (first|refine eF rfl rfl (by omega) ?_|refine ai rfl ?_|refine aa ?_|refine aj ?_|refine ah rfl ?_|refine ae ?_|refine az rfl ?_|refine aI ?_|refine aU ?_)
   exact cA rfl (rt rfl) (rt rfl) ⟨H, U, k, p, sd0, rfl, hF.ceq, hHF, fun _ => rfl, fun h => by omega, hE02⟩
  ·repeat' (first|refine dU rfl rfl (by omega) ?_|refine ai rfl ?_|refine aa ?_|refine aj ?_|refine ah rfl ?_|refine ae ?_|refine aZ rfl ?_|refine au rfl ?_|refine aA ?_|refine aE ?_)
   have hO2 := hF.h.ext hE2
   have s1 := hE1.size
   have glo := hF.h.low
   refine aY (ι := Nat) [8, 37, 38, 39, 40, 41, 42, 43, 44, 45, 46, 47, 48, 49] (fun t => [(37, .int .i64 (t : Int))])
    (fun t w' => (t ≤ r ∧ Ex w w' ∧ w2.grownBy w' (some g)) ∧ Blk w' g 31 (topC r fun i => if i < t then ⟨some ⟨gs i, 0, none⟩, k, cp i⟩ else ⟨some ⟨gs i, 0, none⟩, c, cp i⟩)) (fun t => r - t)
    0 ⟨rfl, trivial⟩ ⟨⟨by omega, hE02, lL (Ex.refl _)⟩, hO2.top⟩ ?_
   rintro t ξ2 w3 ⟨⟨ht, hE3, hG3⟩, hT3⟩
   show CW _ _ _ _ (over [(37, .int .i64 (t : Int))] _) w3
   rcases Nat.lt_or_ge t r with htr | htr
   ·have hcp := (hF.h.row t htr).le
    repeat' (first|refine bu rfl rfl (by omega) ?_|refine aD (j := t) (a := some ⟨g, 0, none⟩) rfl rfl ⟨_, _, rfl⟩ (by omega) ?_|refine aV (j := t) (a := some ⟨g, 0, none⟩) (n := r) (a1 := some ⟨gs t, 0, none⟩) (l1 := c) (c1 := cp t) rfl hT3.sl (by omega) (if_neg (by omega)) ?_|refine fO rfl rfl (by omega) (by omega) ?_|refine ai rfl ?_|refine aa ?_|refine aj ?_|refine ah rfl ?_|refine ae ?_|refine az rfl ?_|refine aA ?_|refine aE ?_)
    refine ch (j := t) (u := ⟨some ⟨gs t, 0, none⟩, k, cp t⟩) rfl rfl hT3 (by omega) (fun w4 hc4 hT4 => ⟨fun _ _ => trivial, ?_⟩)
    repeat' (first|refine ai rfl ?_|refine aa ?_|refine ah rfl ?_|refine ae ?_|refine bc rfl rfl (by omega) (by omega) ?_|refine aL ?_)
    refine ⟨⟨t + 1, ⟨⟨htr, hE3.chg hc4 glo, bJ hG3 (bw hc4) (fun k e => .inl e)⟩, ?_⟩, by omega, rfl, trivial⟩, (by (repeat (first|exact aH _ _ _|refine ay rfl ?_|refine av rfl ?_|refine ak rfl ?_|refine ao rfl ?_)))⟩
    rw [bY (s' := setF (fun i => if i < t then (⟨some ⟨gs i, 0, none⟩, k, cp i⟩ : SD) else ⟨some ⟨gs i, 0, none⟩, c, cp i⟩) t ⟨some ⟨gs t, 0, none⟩, k, cp t⟩) (fun i _ => ?_)]
    ·exact hT4
    ·by_cases e : i = t
     ·subst e; rw [aS, if_pos (Nat.lt_succ_self _)]
     ·rw [aX _ _ e]
      by_cases h : i < t
      ·rw [if_pos h, if_pos (by omega)]
      ·rw [if_neg h, if_neg (by omega)]
   ·have etr : r = t := by omega
    subst etr
    repeat' (first|refine bj rfl rfl (by omega) ?_|refine ai rfl ?_|refine aa ?_|refine aj ?_|refine ah rfl ?_|refine ae ?_|refine au rfl ?_|refine aP ?_|refine aJ ?_|refine aQ ?_|refine aI ?_)
    refine cA rfl (rt rfl) (rt rfl) ⟨H, U, k, p, ⟨some ⟨g, 0, none⟩, r, r⟩, rfl, hF.ceq, hHF, fun h => absurd h hk, fun _ => ⟨g, gs, cp, rfl, hF.h.low, ?_, fun i hi => ?_, hF.h.off, hF.h.inj⟩, hE3⟩
    ·rw [bY (s' := fun i => if i < r then (⟨some ⟨gs i, 0, none⟩, k, cp i⟩ : SD) else ⟨some ⟨gs i, 0, none⟩, c, cp i⟩) (fun i hi => by rw [if_pos hi])]
     exact hT3
    ·obtain ⟨hh, hb, hEn⟩ := ((hO2.row i hi).gbN hO2.top (bW _ _) hG3 (hO2.off i hi)).ex
     exact ⟨(hO2.row i hi).low, Nat.le_trans hkc (hO2.row i hi).le, hh, hb, fun j hj => (hEn j (by omega)).sharp (hdn j hj i hi)⟩
end Go.Proofs.YtiejljicpinheaaGreat
namespace Go.Proofs.YtiejljicpinheaaGreat
open Go.W Go.LM Go.LA
theorem rB {K r c k : Nat} {w : World} {u : SD} {H : Mat} (hr : 1 ≤ r ∧ r ≤ 16) (hk : k ≤ c) (hc : c ≤ 16) (h0 : k = 0 → u = sd0) (hO : 0 < k → ∃ g gs cp, u = ⟨some ⟨g, 0, none⟩, r, r⟩ ∧ MO true K w 0 g r k gs cp H) :
  ∃ s : Nat → SD, AC K w u.a u.len s H ∧ u.len ≤ 16 ∧ (k = 0 → u.len = 0) ∧ (0 < k → u.len = r ∧ ∀ i, i < r → (s i).len = k) := by
 rcases Nat.eq_zero_or_pos k with h | h
 ·have := h0 h
  subst this
  exact ⟨fun _ => sd0, AC.nil _ _ _ _ _, Nat.zero_le _, fun _ => rfl, fun h' => by omega⟩
 ·obtain ⟨g, gs, cp, rfl, hM⟩ := hO h
  exact ⟨_, hM.mx.ac (by omega), hr.2, fun h' => by omega, fun _ => ⟨rfl, fun i _ => rfl⟩⟩
theorem RetBasis.ac {K r c : Nat} {A : Mat} {w w' : World} {v : Value} (h : RetBasis K r c A w v w') (hr : 1 ≤ r ∧ r ≤ 16) (hc : c ≤ 16) :
  ∃ (H U : Mat) (k : Nat) (p : Nat → Nat) (u : SD) (s : Nat → SD), v = .tuple #[.slice u.a u.len u.cap, .bool true] ∧ CEq r c A H U ∧ HF r c H k p ∧ AC K w' u.a u.len s H ∧ u.len ≤ 16 ∧ (k = 0 → u.len = 0) ∧ (0 < k → u.len = r ∧ ∀ i, i < r → (s i).len = k) ∧ Ex w w' := by
 obtain ⟨H, U, k, p, u, rfl, hC, hF, h0, hO, hE⟩ := h
 obtain ⟨s, h1, h2, h3, h4⟩ := rB (K := K) (w := w') hr hF.kc hc h0 (fun h => by obtain ⟨g, gs, cp, e, hM⟩ := hO h; exact ⟨g, gs, cp, e, hM.mono (Nat.zero_le _)⟩)
 exact ⟨H, U, k, p, u, s, rfl, hC, hF, h1, h2, h3, h4, hE⟩
theorem pU {r c c' k k' n n' : Nat} {H H' : Mat} {p p' : Nat → Nat} {s s' : Nat → SD} (hF : HF r c H k p) (hF' : HF r c' H' k' p') (hr : 1 ≤ r) (h3 : k = 0 → n = 0) (h4 : 0 < k → n = r ∧ ∀ i, i < r → (s i).len = k) (h3' : k' = 0 → n' = 0) (h4' : 0 < k' → n' = r ∧ ∀ i, i < r → (s' i).len = k') :
  (n = n' ∧ ∀ i, i < n → (s i).len = (s' i).len ∧ ∀ j, j < (s i).len → H i j = H' i j) ↔ ∀ v, InL r c H v ↔ InL r c' H' v := by
 rw [hF.latt hF']
 rcases Nat.eq_zero_or_pos k with hk | hk
 ·rcases Nat.eq_zero_or_pos k' with hk' | hk'
  ·have e1 := h3 hk
   have e2 := h3' hk'
   exact ⟨fun _ => ⟨by omega, fun i j _ hj => by omega⟩, fun _ => ⟨by omega, fun i hi => by omega⟩⟩
  ·have e1 := h3 hk
   obtain ⟨e2, _⟩ := h4' hk'
   exact ⟨fun h => by omega, fun h => by omega⟩
 ·obtain ⟨e1, l1⟩ := h4 hk
  rcases Nat.eq_zero_or_pos k' with hk' | hk'
  ·have e2 := h3' hk'
   exact ⟨fun h => by omega, fun h => by omega⟩
  ·obtain ⟨e2, l2⟩ := h4' hk'
   constructor
   ·rintro ⟨_, h⟩
    refine ⟨?_, fun i j hi hj => (h i (by omega)).2 j (by rw [l1 i hi]; exact hj)⟩
    have := (h 0 (by omega)).1
    rw [l1 0 (by omega), l2 0 (by omega)] at this; exact this
   ·rintro ⟨hkk, h⟩
    exact ⟨by omega, fun i hi => ⟨by rw [l1 i (by omega), l2 i (by omega)]; exact hkk, fun j hj => h i j (by omega) (by rw [l1 i (by omega)] at hj; exact hj)⟩⟩
end Go.Proofs.YtiejljicpinheaaGreat
namespace Go.Proofs.YtiejljicpinheaaGreat
open Go.W Go.LM Go.LA
set_option maxHeartbeats 4000000 in
theorem rH {cn cn' : Bool} {K K' r c r' c' ca cb : Nat} {w : World} {a b : Option Addr} {s s' : Nat → SD} {F G : Mat} (hA : MX cn K w a r c s F) (hB : MX cn' K' w b r' c' s' G) (hr : 1 ≤ r ∧ r ≤ 16) (hc : 1 ≤ c ∧ c ≤ 16) (hr' : 1 ≤ r' ∧ r' ≤ 16) (hc' : 1 ≤ c' ∧ c' ≤ 16) :
  CallsR Tryz.prog 23 #[.slice a r ca, .slice b r' cb] w fun v w' => ∃ t : Bool, v = .bool t ∧ (t = true ↔ r = r' ∧ c = c' ∧ ∀ i j, i < r → j < c → F i j = G i j) ∧ Ex w w' := by
 have hpa := hA.plain (by omega)
 have hpb := hB.plain (by omega)
 refine aF (args := [_, _]) Tryz.func23 rfl rfl ?_
 repeat' (first|refine ai rfl ?_|refine aa ?_|refine aj ?_|refine ah rfl ?_|refine ae ?_)
 refine aw (cc hA.top) rfl ?_
 rintro v w1 ⟨rfl, hE1⟩
 refine ⟨fun _ _ => trivial, ?_⟩
 rw [cz hA hr hc]
 repeat' (first|refine aK rfl rfl ?_|refine ai rfl ?_|refine aa ?_|refine aj ?_|refine ah rfl ?_|refine ae ?_)
 refine aw (cc (hB.ext hE1).top) rfl ?_
 rintro v w2 ⟨rfl, hE2⟩
 refine ⟨fun _ _ => trivial, ?_⟩
 rw [cz hB hr' hc']
 have hE := hE1.trans hE2
 by_cases hs : r = r' ∧ c = c'
 ·obtain ⟨rfl, rfl⟩ := hs
  repeat' (first|refine aK rfl rfl ?_|refine cN rfl rfl rfl ?_|refine ai rfl ?_|refine aa ?_|refine aj ?_|refine ah rfl ?_|refine ae ?_|refine aZ rfl ?_|refine bz rfl rfl ?_|refine au rfl ?_|refine aA ?_|refine aE ?_)
  refine aY (ι := Nat) [4, 11, 12, 43, 44, 45, 46, 47, 48, 49, 50, 51, 52, 53, 54, 55, 56, 57, 58, 59, 60, 61, 62, 63, 64, 65, 66, 67, 68, 69, 70, 71] (fun i => [(43, .int .i64 (i : Int))])
   (fun i w' => i ≤ r ∧ Ex w w' ∧ ∀ k l, k < i → l < c → F k l = G k l) (fun i => r - i)
   0 ⟨rfl, trivial⟩ ⟨by omega, hE, fun k l h => by omega⟩ ?_
  rintro i ξ w3 ⟨hi, hE3, hq⟩
  show CW _ _ _ _ (over [(43, .int .i64 (i : Int))] _) w3
  rcases Nat.lt_or_ge i r with hir | hir
  ·obtain ⟨pa, d, hh, e1, e2, hpp, hS, hEn⟩ := (hA.ext hE3).get hir (by omega)
   obtain ⟨pb, d', hh', e1', e2', hpp', hS', hEn'⟩ := (hB.ext hE3).get hir (by omega)
   repeat' (first|refine bu rfl rfl (by omega) ?_|refine aD (j := i) (a := a) rfl rfl hpa (by omega) ?_|refine aV (j := i) (a := a) (n := r) (s := s) rfl (hA.ext hE3).top (by omega) e1 ?_|refine ai rfl ?_|refine aa ?_|refine aj ?_|refine ah rfl ?_|refine ae ?_|refine aZ rfl ?_|refine az rfl ?_|refine aA ?_|refine aE ?_)
   refine aY (ι := Nat) [4, 12, 51, 52, 53, 54, 55, 56, 57, 58, 59, 60, 61, 62, 63, 64, 65, 66, 67, 68, 69, 70] (fun j => [(51, .int .i64 (j : Int))])
    (fun j w' => j ≤ c ∧ Ex w3 w' ∧ ∀ l, l < j → F i l = G i l) (fun j => c - j)
    0 ⟨rfl, trivial⟩ ⟨by omega, Ex.refl _, fun l h => by omega⟩ ?_
   rintro j ξ2 w4 ⟨hj, hE4, hq4⟩
   show CW _ _ _ _ (over [(51, .int .i64 (j : Int))] _) w4
   have hE04 := hE3.trans hE4
   rcases Nat.lt_or_ge j c with hjc | hjc
   ·repeat' (first|refine bu rfl rfl (by omega) ?_|refine aa ?_|refine aj ?_|refine ah rfl ?_|refine ae ?_|refine az rfl ?_|refine aE ?_)
    refine aA ?_
    repeat' (first|refine ai rfl ?_|refine aa ?_|refine aj ?_|refine ah rfl ?_|refine ae ?_)
    refine bi (late := []) (plan := [(0, none), (1, none), (2, none), (3, none), (4, none), (5, none), (6, none), (7, none), (8, none), (9, none), (10, none), (11, none), (12, none), (13, none), (14, some true), (15, none)]) (fun w' => Ex w4 w') bA (by kernel_rfl) (Ex.refl w4).drew ?_
    have hEd := (Ex.refl w4).drew
    repeat' (first|refine aD (j := i) (a := a) rfl rfl hpa (by omega) ?_|refine aV (j := i) (a := a) (n := r) (s := s) rfl (fun _ h => (hA.ext (hE04.trans h)).top) (by omega) e1 ?_|refine aT (j := j) (a := pa) rfl rfl hpp (by omega) ?_|refine bo (j := j) (a := pa) rfl (fun _ h => hS.ext (hE4.trans h)) hpp (by omega) ?_|refine aD (j := i) (a := b) rfl rfl hpb (by omega) ?_|refine aV (j := i) (a := b) (n := r) (s := s') rfl (fun _ h => (hB.ext (hE04.trans h)).top) (by omega) e1' ?_|refine aT (j := j) (a := pb) rfl rfl hpp' (by omega) ?_|refine bo (j := j) (a := pb) rfl (fun _ h => hS'.ext (hE4.trans h)) hpp' (by omega) ?_|refine ai rfl ?_)
    refine aw (eM ((hEn j hjc).ext (hE4.trans hEd)).k ((hEn' j hjc).ext (hE4.trans hEd)).k) rfl ?_
    rintro v w5 ⟨rfl, hE5⟩
    refine ⟨fun _ h => h.trans hE5, ?_⟩
    have hE45 := hEd.trans hE5
    by_cases h : F i j = G i j
    ·repeat' (first|refine cN rfl rfl (sign_zero.2 h) ?_|refine ai rfl ?_|refine aa ?_|refine ah rfl ?_|refine ae ?_|refine bc rfl rfl (by omega) (by omega) ?_|refine au rfl ?_|refine aL ?_|refine aE ?_)
     refine ⟨⟨j + 1, ⟨hjc, hE4.trans hE45, fun l hl => ?_⟩, by omega, rfl, trivial⟩, (by (repeat (first|exact aH _ _ _|refine ay rfl ?_|refine av rfl ?_|refine ak rfl ?_|refine ao rfl ?_)))⟩
     by_cases e : l = j
     ·subst e; exact h
     ·exact hq4 l (by omega)
    ·repeat' (first|refine df rfl rfl (fun e => h (sign_zero.1 e)) ?_|refine ai rfl ?_|refine aa ?_|refine aj ?_|refine ah rfl ?_|refine ae ?_|refine az rfl ?_|refine aI ?_|refine aU ?_|refine bQ ?_)
     exact bx rfl (rt rfl) ⟨false, rfl, ⟨fun h => (nomatch h), fun h' => absurd (h'.2.2 i j hir hjc) h⟩, hE04.trans hE45⟩
   ·have ejc : c = j := by omega
    subst ejc
    repeat' (first|refine bj rfl rfl (by omega) ?_|refine ai rfl ?_|refine aa ?_|refine aj ?_|refine ah rfl ?_|refine ae ?_|refine bc rfl rfl (by omega) (by omega) ?_|refine au rfl ?_|refine aP ?_|refine aJ ?_|refine aQ ?_|refine aL ?_)
    refine ⟨⟨i + 1, ⟨hir, hE04, fun k l hk hl => ?_⟩, by omega, rfl, trivial⟩, (by (repeat (first|exact aH _ _ _|refine ay rfl ?_|refine av rfl ?_|refine ak rfl ?_|refine ao rfl ?_)))⟩
    by_cases e : k = i
    ·subst e; exact hq4 l hl
    ·exact hq k l (by omega) hl
  ·have eir : r = i := by omega
   subst eir
   repeat' (first|refine bj rfl rfl (by omega) ?_|refine ai rfl ?_|refine aa ?_|refine aj ?_|refine ah rfl ?_|refine ae ?_|refine au rfl ?_|refine aP ?_|refine aJ ?_|refine aQ ?_|refine aI ?_)
   exact bx rfl (rt rfl) ⟨true, rfl, ⟨fun _ => ⟨rfl, rfl, hq⟩, fun _ => rfl⟩, hE3⟩
 ·have hno : ∀ {t : Bool}, t = false → (t = true ↔ r = r' ∧ c = c' ∧ ∀ i j, i < r → j < c → F i j = G i j) := fun e => by subst e; exact ⟨fun h => (nomatch h), fun h => absurd ⟨h.1, h.2.1⟩ hs⟩
  by_cases h1 : r = r'
  ·have h2 : c ≠ c' := fun e => hs ⟨h1, e⟩
   repeat' (first|refine aK rfl rfl ?_|refine cN rfl rfl (by omega) ?_|refine df rfl rfl (by omega) ?_|refine ai rfl ?_|refine aa ?_|refine aj ?_|refine ah rfl ?_|refine ae ?_|refine bz rfl rfl ?_|refine az rfl ?_|refine aI ?_|refine aU ?_)
   exact bx rfl (rt rfl) ⟨false, rfl, hno rfl, hE⟩
  ·repeat' (first|refine aK rfl rfl ?_|refine df rfl rfl (by omega) ?_|refine ai rfl ?_|refine aa ?_|refine aj ?_|refine ah rfl ?_|refine ae ?_|refine bz rfl rfl ?_|refine bK rfl rfl ?_|refine az rfl ?_|refine aI ?_|refine aU ?_)
   exact bx rfl (rt rfl) ⟨false, rfl, hno rfl, hE⟩
end Go.Proofs.YtiejljicpinheaaGreat
namespace Go.Proofs.YtiejljicpinheaaGreat
open Go.W Go.ChangeShapes Go.WideShapes Go.ChangeAt Go.RowKit Go.LM
instance inhSD : Inhabited SD := ⟨sd0⟩
instance inhIH : Inhabited IH := ⟨ih0⟩
structure RawI (W : World) (x : IH) (L : List Nat) : Prop where
 len : x.sd.len = L.length
 cap : L.length ≤ x.sd.cap
 max : x.sd.len ≤ 140737488355328
 sl : Sl W x.sd.a (limbsL L)
 lim : Lim L
structure RawR (W : World) (s : SD) (h : Nat → IH) (L : Nat → List Nat) : Prop where
 cap : s.len ≤ s.cap
 max : s.len ≤ 140737488355328
 sl : Sl W s.a (rowC s.len h)
 ent : ∀ j, j < s.len → RawI W (h j) (L j)
structure RawM (W : World) (a : Option Addr) (n : Nat) (s : Nat → SD) (h : Nat → Nat → IH) (L : Nat → Nat → List Nat) : Prop where
 max : n ≤ 140737488355328
 top : Sl W a (topC n s)
 row : ∀ i, i < n → RawR W (s i) (h i) (L i)
theorem RawI.ext {W W' : World} {x : IH} {L : List Nat} (h : RawI W x L) (e : Ex W W') : RawI W' x L := ⟨h.len, h.cap, h.max, h.sl.ext e, h.lim⟩
theorem RawR.ext {W W' : World} {s : SD} {h : Nat → IH} {L : Nat → List Nat} (H : RawR W s h L) (e : Ex W W') : RawR W' s h L := ⟨H.cap, H.max, H.sl.ext e, fun j hj => (H.ent j hj).ext e⟩
theorem RawM.ext {W W' : World} {a : Option Addr} {n : Nat} {s : Nat → SD} {h : Nat → Nat → IH} {L : Nat → Nat → List Nat} (H : RawM W a n s h L) (e : Ex W W') : RawM W' a n s h L := ⟨H.max, H.top.ext e, fun i hi => (H.row i hi).ext e⟩
theorem gU {H : Type} {P : Program} {e : TypeId} : ∀ {l : List (DataW H)} {d : DataW H}, d ∈ l → ∀ n ∈ d.weights P e, n ∈ DataW.weightsAll P e l
 | [], _, h => by simp at h
 | x :: l, d, h => fun n hn => by
  simp only [DataW.weightsAll, List.mem_append]
  rcases List.mem_cons.1 h with rfl | h
  ·exact .inl hn
  ·exact .inr (gU h n hn)
theorem fJ {H : Type} {P : Program} {t e : TypeId} {elems spare : List (DataW H)} (ht : P.underlying t = some (.slice e)) (hb : 1 ≤ P.bytesOf e) (h : ∀ n ∈ (DataW.slice elems spare).weights P t, n ≤ reachBytes) :
  elems.length ≤ 140737488355328 ∧ ∀ d ∈ elems, ∀ n ∈ d.weights P e, n ≤ reachBytes := by
 have hw : (DataW.slice elems spare).weights P t = (elems.length + spare.length) * P.bytesOf e :: (DataW.weightsAll P e elems ++ DataW.weightsAll P e spare) := by simp [DataW.weights, ht]
 rw [hw] at h
 constructor
 ·have h1 := h _ List.mem_cons_self
  have h2 : elems.length ≤ (elems.length + spare.length) * P.bytesOf e := Nat.le_trans (Nat.le_add_right _ _) (Nat.le_mul_of_pos_right _ hb)
  have h3 : reachBytes = 140737488351232 := by decide
  omega
 ·intro d hd n hn
  exact h n (List.mem_cons_of_mem _ (List.mem_append_left _ (gU hd n hn)))
theorem mH {H : Type} {P : Program} {t : TypeId} {f0 f1 : Field} {d0 d1 : DataW H} (ht : P.underlying t = some (.struct #[f0, f1])) (h : ∀ n ∈ (DataW.agg [d0, d1]).weights P t, n ≤ reachBytes) : ∀ n ∈ d1.weights P f1.type, n ≤ reachBytes := by
 have hw : (DataW.agg [d0, d1]).weights P t = DataW.weightsEach P [f0.type, f1.type] [d0, d1] := by simp [DataW.weights, ht]
 rw [hw] at h
 intro n hn
 refine h n ?_
 simp only [DataW.weightsEach, List.mem_append]
 exact .inr (.inl hn)
section
variable {H : Type} {enc : TypeId × Value → H} {P : Program} {W W' : World}
theorem sQ (n : Nat) (h : Nat → IH) : rowC n h = (List.range (n * 2)).map fun c => if c % 2 = 0 then .bool (h (c / 2)).neg else .slice (h (c / 2)).sd.a (h (c / 2)).sd.len (h (c / 2)).sd.cap := by
 induction n with
 | zero => rfl
 | succ n ih =>
  rw [cY, ih, show (n + 1) * 2 = n * 2 + 1 + 1 by omega, List.range_succ, List.range_succ]
  simp [IH.cells, show n * 2 / 2 = n by omega, show (n * 2 + 1) / 2 = n by omega, show (n * 2 + 1) % 2 = 1 by omega]
theorem sR {a : Option Addr} {n : Nat} {h : Nat → IH} (hn : a = none → n = 0) (hc : ∀ a', a = some a' → ∀ i, i < n → W.cell? (a'.add (i * 2)) = some (.bool (h i).neg) ∧ W.cell? (a'.add (i * 2 + 1)) = some (.slice (h i).sd.a (h i).sd.len (h i).sd.cap)) :
  Sl W a (rowC n h) := by
 rw [sQ]
 refine mI (fun e => by rw [hn e]) fun a' e c hc' => ?_
 have := hc a' e (c / 2) (by omega)
 by_cases h2 : c % 2 = 0
 ·rw [if_pos h2]; rw [show c / 2 * 2 = c by omega] at this; exact this.1
 ·rw [if_neg h2]; rw [show c / 2 * 2 + 1 = c by omega] at this; exact this.2
theorem oE {t e : TypeId} {fuel : Nat} {v : Value} {x : DataW H × List MemPlace} (ht : P.underlying t = some (.slice e)) (he : P.underlying e = some (.int .u32)) (hc : P.cellsOf e = 1) (hb : 1 ≤ P.bytesOf e) (hw0 : ∀ n ∈ x.1.weights P t, n ≤ reachBytes)
  (hf : DataW.trod enc P W 0 (fun _ => true) true fuel t [v] = some x) : ∃ (s : SD) (L : List Nat), v = .slice s.a s.len s.cap ∧ ∀ neg, RawI W ⟨neg, s⟩ L := by
 rcases open_ints ht he hc hf with ⟨hcs, hx⟩ | ⟨a, len, cap, zs, hcs, _, hl, hm, hz, hx, hcell, hwz⟩
 ·simp only [List.cons.injEq, and_true] at hcs
  subst hcs
  exact ⟨sd0, [], rfl, fun neg => ⟨rfl, Nat.le_refl _, Nat.zero_le _, Sl.nil _ _, fun d hd => by simp at hd⟩⟩
 ·simp only [List.cons.injEq, and_true] at hcs
  subst hcs
  simp only [if_true] at hz
  unfold maxLen at hm
  subst hx
  have hwl := (fJ ht hb hw0).1
  have hwl2 : len ≤ 140737488355328 := by
   have : (lits .u32 (zs.take len) : List (DataW H)).length = len := by simp [lits]; omega
   omega
  have hw : ∀ c, c < cap → 0 ≤ zs.getD c 0 ∧ zs.getD c 0 < 4294967296 := fun c hc => by
   have h1 := hwz (zs.getD c 0) (by rw [List.getD_eq_getElem?_getD, List.getElem?_eq_getElem (show c < zs.length by omega)]; exact List.getElem_mem _)
   have h2 : 0 ≤ zs.getD c 0 ∧ zs.getD c 0 ≤ 4294967295 := by simpa [Lit.wf, IntKind.min, IntKind.max, IntKind.signed, IntKind.bits] using h1
   omega
  refine ⟨⟨some a, len, cap⟩, (List.range len).map fun c => (zs.getD c 0).toNat, rfl, fun neg => ⟨by simp, by simpa using hl, hwl2, ?_, fun d hd => ?_⟩⟩
  ·rw [limbsL, List.map_map]
   refine mI (fun e => nomatch e) fun a' e c hc' => ?_
   cases e
   have h1 := hw c (by omega)
   rw [hcell c (by omega)]
   show some (Value.int .u32 (zs.getD c 0)) = some (Value.int .u32 (((zs.getD c 0).toNat : Nat) : Int))
   rw [Int.toNat_of_nonneg h1.1]
  ·rw [List.mem_map] at hd
   obtain ⟨c, hc', rfl⟩ := hd
   have h1 := hw c (by have := List.mem_range.1 hc'; omega)
   omega
theorem jF {t e : TypeId} {f0 f1 : Field} {q : TypeId} {fuel : Nat} {v : Value} {x : DataW H × List MemPlace} (ht : P.underlying t = some (.slice e)) (he : P.underlying e = some (.struct #[f0, f1]))
  (ce : P.cellsOf e = 2) (o0 : f0.offset = 0) (o1 : f1.offset = 1) (c0 : P.cellsOf f0.type = 1) (c1 : P.cellsOf f1.type = 1) (t0 : P.underlying f0.type = some .bool) (t1 : P.underlying f1.type = some (.slice q)) (tq : P.underlying q = some (.int .u32)) (cq : P.cellsOf q = 1) (be : 1 ≤ P.bytesOf e) (bq : 1 ≤ P.bytesOf q) (hw0 : ∀ n ∈ x.1.weights P t, n ≤ reachBytes)
  (hf : DataW.trod enc P W 0 (fun _ => true) true fuel t [v] = some x) : ∃ (s : SD) (h : Nat → IH) (L : Nat → List Nat), v = .slice s.a s.len s.cap ∧ RawR W s h L := by
 rcases Go.Deep.open_slice_pairs ht he ce o0 o1 c0 c1 hf with ⟨hcs, hx⟩ | ⟨a, len, cap, m, n, V0, V1, D0, D1, P0, P1, hcs, _, hl, hm, hmm, hx, hcell⟩
 ·simp only [List.cons.injEq, and_true] at hcs
  subst hcs
  exact ⟨sd0, fun _ => ih0, fun _ => [], rfl, ⟨Nat.le_refl _, by decide, Sl.nil _ _, fun j hj => absurd hj (Nat.not_lt_zero _)⟩⟩
 ·simp only [List.cons.injEq, and_true] at hcs
  subst hcs
  simp only [if_true] at hmm
  unfold maxLen at hm
  subst hx
  obtain ⟨hwl, hwe⟩ := fJ ht be hw0
  simp only [List.length_map, List.length_range] at hwl
  have each : ∀ i, i < len → ∃ q : IH × List Nat, V0 i = .bool q.1.neg ∧ V1 i = .slice q.1.sd.a q.1.sd.len q.1.sd.cap ∧ RawI W q.1 q.2 := fun i hi => by
   obtain ⟨_, _, h0, h1⟩ := hcell i (by omega)
   obtain ⟨b, hb, _⟩ := DataW.trod_bool t0 h0
   obtain ⟨s, L, hs, hL⟩ := oE t1 tq cq bq (mH he (hwe _ (List.mem_map.2 ⟨i, List.mem_range.2 hi, rfl⟩))) h1
   simp only [List.cons.injEq, and_true] at hb
   exact ⟨(⟨b, s⟩, L), hb, hs, hL b⟩
  obtain ⟨q, hq⟩ := Go.Deep.choose_lt each
  refine ⟨⟨some a, len, cap⟩, fun i => (q i).1, fun i => (q i).2, rfl, ⟨hl, hwl, sR (fun e => nomatch e) fun a' e i hi => ?_, fun j hj => (hq j hj).2.2⟩⟩
  cases e
  obtain ⟨h0, h1, _⟩ := hcell i (by show i < m; have : i < len := hi; omega)
  obtain ⟨e0, e1, _⟩ := hq i hi
  rw [h0, h1, e0, e1]
  exact ⟨rfl, rfl⟩
theorem mJ {u t e : TypeId} {f0 f1 : Field} {q : TypeId} {fuel : Nat} {v : Value} {x : DataW H × List MemPlace} (hu : P.underlying u = some (.slice t)) (cu : P.cellsOf t = 1) (ht : P.underlying t = some (.slice e)) (he : P.underlying e = some (.struct #[f0, f1]))
  (ce : P.cellsOf e = 2) (o0 : f0.offset = 0) (o1 : f1.offset = 1) (c0 : P.cellsOf f0.type = 1) (c1 : P.cellsOf f1.type = 1) (t0 : P.underlying f0.type = some .bool) (t1 : P.underlying f1.type = some (.slice q)) (tq : P.underlying q = some (.int .u32)) (cq : P.cellsOf q = 1) (bt : 1 ≤ P.bytesOf t) (be : 1 ≤ P.bytesOf e) (bq : 1 ≤ P.bytesOf q) (hw0 : ∀ n ∈ x.1.weights P u, n ≤ reachBytes)
  (hf : DataW.trod enc P W 0 (fun _ => true) true fuel u [v] = some x) : ∃ (a : Option Addr) (n c : Nat) (s : Nat → SD) (h : Nat → Nat → IH) (L : Nat → Nat → List Nat), v = .slice a n c ∧ RawM W a n s h L := by
 rcases Go.Deep.open_slice1 hu cu hf with ⟨hcs, hx⟩ | ⟨a, len, cap, m, n, V, D, Pl, hcs, _, hl, hm, hmm, hx, hcell⟩
 ·simp only [List.cons.injEq, and_true] at hcs
  subst hcs
  exact ⟨none, 0, 0, fun _ => sd0, fun _ _ => ih0, fun _ _ => [], rfl, ⟨by decide, Sl.nil _ _, fun j hj => absurd hj (Nat.not_lt_zero _)⟩⟩
 ·simp only [List.cons.injEq, and_true] at hcs
  subst hcs
  simp only [if_true] at hmm
  unfold maxLen at hm
  subst hx
  obtain ⟨hwl, hwe⟩ := fJ hu bt hw0
  simp only [List.length_map, List.length_range] at hwl
  have each : ∀ i, i < len → ∃ q : SD × (Nat → IH) × (Nat → List Nat), V i = .slice q.1.a q.1.len q.1.cap ∧ RawR W q.1 q.2.1 q.2.2 := fun i hi => by
   obtain ⟨s, h, L, hv, hR⟩ := jF ht he ce o0 o1 c0 c1 t0 t1 tq cq be bq (hwe _ (List.mem_map.2 ⟨i, List.mem_range.2 hi, rfl⟩)) (hcell i (by omega)).2
   exact ⟨(s, h, L), hv, hR⟩
  obtain ⟨q, hq⟩ := Go.Deep.choose_lt each
  refine ⟨some a, len, cap, fun i => (q i).1, fun i => (q i).2.1, fun i => (q i).2.2, rfl, ⟨hwl, mI (fun e => nomatch e) fun a' e i hi => ?_, fun j hj => (hq j hj).2⟩⟩
  cases e
  rw [(hcell i (by omega)).1, (hq i hi).1]
  rfl
end
set_option maxRecDepth 100000
theorem gV : ∃ f0 f1, Tryz.prog.underlying 43 = some (.struct #[f0, f1]) ∧ f0.type = 4 ∧ f1.type = 41 ∧ f0.offset = 0 ∧ f1.offset = 1 :=
 ⟨(Tryz.prog.fieldsOf 43)[0]!, (Tryz.prog.fieldsOf 43)[1]!, by kernel_rfl, by kernel_rfl, by kernel_rfl, by kernel_rfl, by kernel_rfl⟩
theorem vt {H : Type} {enc : TypeId × Value → H} {W : World} {v : Value} {d : DataW H} {ps : List MemPlace} {r : Reach} {b0 : Nat} (hval : Value.okWide Tryz.prog W r b0 25 v) (h : DataW.Trod enc Tryz.prog W 0 (fun _ => true) true 25 v d ps) (hw0 : ∀ n ∈ d.weights Tryz.prog 25, n ≤ reachBytes) :
  ∃ (a : Option Addr) (n c : Nat) (s : Nat → SD) (h : Nat → Nat → IH) (L : Nat → Nat → List Nat), v = .slice a n c ∧ RawM W a n s h L := by
 obtain ⟨f0, f1, hs, h0, h1, o0, o1⟩ := gV
 obtain ⟨a0, len, cap, rfl⟩ := okWide_slice (e := 31) (by kernel_rfl) hval
 obtain ⟨fuel, hf⟩ := h
 exact mJ (t := 31) (e := 43) (q := 113) (by kernel_rfl) (by kernel_rfl) (by kernel_rfl) hs (by kernel_rfl) o0 o1 (by rw [h0]; kernel_rfl) (by rw [h1]; kernel_rfl) (by rw [h0]; kernel_rfl) (by rw [h1]; kernel_rfl) (by kernel_rfl) (by kernel_rfl) (Nat.le_of_ble_eq_true (by kernel_rfl)) (Nat.le_of_ble_eq_true (by kernel_rfl)) (Nat.le_of_ble_eq_true (by kernel_rfl)) hw0 hf
end Go.Proofs.YtiejljicpinheaaGreat
