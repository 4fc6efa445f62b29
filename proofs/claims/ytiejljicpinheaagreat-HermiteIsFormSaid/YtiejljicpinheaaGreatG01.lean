import Derived.KernelRfl
import Derived.WalkKit
import Derived.Test.YtiejljicpinheaaGreatProg
import Derived.Deep.SlicePairs
import Derived.SizedLaws
import Derived.Test.YtiejljicpinheaaGreatA01
import Derived.Test.YtiejljicpinheaaGreatA02
import Derived.Test.YtiejljicpinheaaGreatA03
import Derived.Test.YtiejljicpinheaaGreatA04
import Derived.Test.YtiejljicpinheaaGreatA05
import Derived.Test.YtiejljicpinheaaGreatA06
import Derived.Test.YtiejljicpinheaaGreatA07
import Derived.Test.YtiejljicpinheaaGreatA12
import Derived.Test.YtiejljicpinheaaGreatA13
import Derived.Test.YtiejljicpinheaaGreatA14
import Derived.Test.YtiejljicpinheaaGreatA18
import Derived.Test.YtiejljicpinheaaGreatA20
import Derived.Test.YtiejljicpinheaaGreatA23
import Derived.Test.YtiejljicpinheaaGreatA24
import Derived.Test.YtiejljicpinheaaGreatA25
import Derived.Test.YtiejljicpinheaaGreatA29
namespace Go.W
open Go.RowKit (Below)
section
variable {P : Program} {w : World}
end
section
variable {P : Program} {S : World → Prop} {ops : List Oper} {K : Env → World → Prop} {rest : List (Oper × Option Bool)} {ρ : Env} {w : World} {b : Option Bool} {kf : Bool} {d : Nat} {T T' : TypeId} {pos : String} {af : Array Edge}
section
variable {x y : Operand} {k : IntKind} {m m' : Int} {T'' : TypeId}
end
section
variable {x y : Operand} {m m' : Int} {T'' : TypeId}
variable {k : IntKind}
theorem vP (hx : ev ρ x = .int k m) (hy : ev ρ y = .int k m') (h2 : m' ≠ 0)
  (h : RR P S ops K rest (upd ρ d (.int k (m.tmod m'))) w) : RR P S ops K ((⟨some d, .binOp .rem T' x y T'', T, pos, af, none⟩, b) :: rest) ρ w :=
 eE hx hy (by simp [binOp, Op.intDiv, h2]) h
end
end
end Go.W
namespace Go.Proofs.YtiejljicpinheaaGreat
open Go.W
instance g14 : Agg Tryz.prog 14 2 := ⟨by kernel_rfl, by kernel_rfl⟩
instance c20 : Fun Tryz.prog 20 := ⟨by kernel_rfl⟩
instance c33 : Fun Tryz.prog 33 := ⟨by kernel_rfl⟩
instance c38 : Fun Tryz.prog 38 := ⟨by kernel_rfl⟩
instance c66 : Fun Tryz.prog 66 := ⟨by kernel_rfl⟩
end Go.Proofs.YtiejljicpinheaaGreat
namespace Go.W
section
variable {P : Program} {S : World → Prop} {ops : List Oper} {K : Env → World → Prop} {rest : List (Oper × Option Bool)} {ρ : Env} {w : World} {b : Option Bool} {kf : Bool} {d : Nat} {dst : Option Nat} {T T' : TypeId} {pos : String} {af : Array Edge}
end
end Go.W
namespace Go.W
section
variable {P : Program} {S : World → Prop} {ops : List Oper} {K : Env → World → Prop} {rest : List (Oper × Option Bool)} {ρ : Env} {w : World} {b : Option Bool} {kf : Bool} {d : Nat} {dst : Option Nat} {T T' : TypeId} {pos : String} {af : Array Edge}
end
end Go.W
namespace Go.W
end Go.W
namespace Go.W
section
variable {P : Program} {S : World → Prop} {ops : List Oper} {K : Env → World → Prop} {rest : List (Oper × Option Bool)} {ρ : Env} {w : World} {b : Option Bool} {kf : Bool} {d : Nat} {dst : Option Nat} {T T' : TypeId} {pos : String} {af : Array Edge}
theorem vT {x y : Operand} {c : Bool} {T'' : TypeId} [h1 : BoolT P T'] (hx : ev ρ x = .bool c) (hy : ev ρ y = .bool c) (h : RR P S ops K rest (upd ρ d (.bool true)) w) : RR P S ops K ((⟨some d, .binOp .eql T' x y T'', T, pos, af, none⟩, b) :: rest) ρ w :=
 lY hx hy (by rw [beq_self_eq_true]; exact h)
end
end Go.W
namespace Go.LA
end Go.LA
namespace Go.Proofs.YtiejljicpinheaaGreat
open Go.W Go.LM Go.LA
theorem pN {n cap : Nat} {w : World} {a : Option Addr} {s : Nat → SD} (hS : Sl w a (topC n s)) (hno : ¬ okS n s) :
  CallsR Tryz.prog 64 #[.slice a n cap] w fun v w' => v = .tuple #[.slice none 0 0, .bool false] ∧ Ex w w' := by
 refine aF (args := [_]) Tryz.func64 rfl rfl ?_
 repeat' (first|refine ai rfl ?_|refine aa ?_|refine aj ?_|refine ah rfl ?_|refine ae ?_)
 refine aw (ef hS) rfl ?_
 rintro v w1 ⟨rfl, hE1⟩
 refine ⟨fun _ _ => trivial, ?_⟩
 rw [dH hno]
 repeat' (first|refine aK rfl rfl ?_|refine ai rfl ?_|refine aa ?_|refine aj ?_|refine ah rfl ?_|refine ae ?_|refine az rfl ?_|refine aI ?_|refine aU ?_)
 exact cA rfl (rt rfl) (rt rfl) ⟨rfl, hE1⟩
end Go.Proofs.YtiejljicpinheaaGreat
namespace Go.Proofs.YtiejljicpinheaaGreat
open Go.W Go.LM Go.LA
structure AM (K : Nat) (w : World) (a : Option Addr) (n : Nat) (s : Nat → SD) (F : Mat) : Prop where
 top : Sl w a (topC n s)
 row : ∀ i, i < n → RX false K w (s i) (s i).len (F i)
theorem AM.ext {K n : Nat} {w w' : World} {a : Option Addr} {s : Nat → SD} {F : Mat} (h : AM K w a n s F) (e : Ex w w') : AM K w' a n s F := ⟨h.top.ext e, fun i hi => (h.row i hi).ext e⟩
theorem AM.mx {K n : Nat} {w : World} {a : Option Addr} {s : Nat → SD} {F : Mat} (h : AM K w a n s F) (ok : okS n s) : MX false K w a n (s 0).len s F :=
 ⟨h.top, fun i hi => by have := h.row i hi; rwa [ok.2.2.2.2 i hi] at this⟩
theorem MX.am {cn : Bool} {K r c : Nat} {w : World} {a : Option Addr} {s : Nat → SD} {F : Mat} (h : MX cn K w a r c s F) : AM K w a r s F :=
 ⟨h.top, fun i hi => by have := (h.row i hi).weak'; rwa [(h.row i hi).len]⟩
theorem iy {n : Nat} {s : Nat → SD} (h : okS n s) : 1 ≤ n ∧ n ≤ 16 := ⟨h.1, h.2.1⟩
theorem gQ {n : Nat} {s : Nat → SD} (h : okS n s) : 1 ≤ (s 0).len ∧ (s 0).len ≤ 16 := ⟨h.2.2.1, h.2.2.2.1⟩
theorem uG {n cap : Nat} {w : World} {a : Option Addr} {s : Nat → SD} (hS : Sl w a (topC n s)) (hno : ¬ okS n s) :
  CallsR Tryz.prog 38 #[.slice a n cap] w fun v w' => v = .bool false ∧ Ex w w' := by
 refine aF (args := [_]) Tryz.func38 rfl rfl ?_
 repeat' (first|refine ai rfl ?_|refine aa ?_|refine aj ?_|refine ah rfl ?_|refine ae ?_)
 refine aw (pN hS hno) rfl ?_
 rintro v w1 ⟨rfl, hE1⟩
 refine ⟨fun _ _ => trivial, ?_⟩
 repeat' (first|refine aK rfl rfl ?_|refine ai rfl ?_|refine aa ?_|refine aj ?_|refine ah rfl ?_|refine ae ?_|refine aI ?_)
 exact bx rfl (rt rfl) ⟨rfl, hE1⟩
theorem te {cn : Bool} {K r c cap : Nat} {w : World} {a : Option Addr} {s : Nat → SD} {F : Mat} (hM : MX cn K w a r c s F) (hr : 1 ≤ r ∧ r ≤ 16) (hc : 1 ≤ c ∧ c ≤ 16) (hK : K < 17592186044415) :
  CallsR Tryz.prog 38 #[.slice a r cap] w fun v w' => ∃ t : Bool, v = .bool t ∧ (t = true ↔ ∃ k p, HF r c F k p) ∧ Ex w w' := by
 refine aF (args := [_]) Tryz.func38 rfl rfl ?_
 repeat' (first|refine ai rfl ?_|refine aa ?_|refine aj ?_|refine ah rfl ?_|refine ae ?_)
 refine aw (eC hM hr hc hK) rfl ?_
 rintro v w1 ⟨t, sd, f, k, rfl, h1, h2, hE1⟩
 refine ⟨fun _ _ => trivial, ?_⟩
 repeat' (first|refine aK rfl rfl ?_|refine ai rfl ?_|refine aa ?_|refine aj ?_|refine ah rfl ?_|refine ae ?_|refine aI ?_)
 refine bx rfl (rt rfl) ⟨t, rfl, ⟨fun h => ⟨_, _, (h1 h).2⟩, fun h => ?_⟩, hE1⟩
 cases t
 ·exact absurd h (h2 rfl)
 ·rfl
end Go.Proofs.YtiejljicpinheaaGreat
namespace Go.Proofs.YtiejljicpinheaaGreat
open Go.W Go.LM Go.LA
set_option maxHeartbeats 2000000 in
theorem fD {cn : Bool} {K r c k cap : Nat} {w : World} {a : Option Addr} {s : Nat → SD} {F : Mat} (hM : MX cn K w a r c s F) (hr : 1 ≤ r ∧ r ≤ 1000) (hk : k < c) :
  CallsR Tryz.prog 66 #[.slice a r cap, .int .i64 (k : Int)] w fun v w' => ∃ p : Nat, v = .int .i64 (p : Int) ∧ p ≤ r ∧ (∀ x, x < p → F x k = 0) ∧ (p < r → F p k ≠ 0) ∧ Ex w w' := by
 have hpt := hM.plain (by omega)
 refine aF (args := [_, _]) Tryz.func66 rfl rfl ?_
 repeat' (first|refine ai rfl ?_|refine aa ?_|refine aj ?_|refine ah rfl ?_|refine ae ?_|refine aZ rfl ?_|refine aA ?_)
 refine aY (ι := Nat) [4, 5, 8, 9, 10, 11, 12, 13, 14, 15, 16, 17, 18, 19, 20, 21] (fun i => [(8, .int .i64 (i : Int))])
  (fun i w' => i ≤ r ∧ Ex w w' ∧ ∀ x, x < i → F x k = 0) (fun i => r - i)
  0 ⟨rfl, trivial⟩ ⟨by omega, Ex.refl _, fun x h => by omega⟩ ?_
 rintro i ξ w2 ⟨hi, hE2, hz⟩
 show CW _ _ _ _ (over [(8, .int .i64 (i : Int))] _) w2
 rcases Nat.lt_or_ge i r with hir | hir
 ·obtain ⟨pa, d, hh, e1, e2, hpp, hS, hEn⟩ := (hM.ext hE2).get hir (by omega)
  repeat' (first|refine bu rfl rfl (by omega) ?_|refine aD (j := i) (a := a) rfl rfl hpt (by omega) ?_|refine aV (j := i) (a := a) (n := r) (s := s) rfl (hM.ext hE2).top (by omega) e1 ?_|refine aT (j := k) (a := pa) rfl rfl hpp (by omega) ?_|refine bo (j := k) (a := pa) rfl hS hpp (by omega) ?_|refine ai rfl ?_|refine aa ?_|refine aj ?_|refine ah rfl ?_|refine ae ?_|refine az rfl ?_|refine aA ?_|refine aE ?_)
  refine aw (cj (hEn k hk).k) rfl ?_
  rintro v w3 ⟨rfl, hE3⟩
  refine ⟨fun _ _ => trivial, ?_⟩
  by_cases h : F i k = 0
  ·repeat' (first|(refine cN rfl rfl (by rw [h]; rfl) ?_)|refine ai rfl ?_|refine aa ?_|refine ah rfl ?_|refine ae ?_|refine bc rfl rfl (by omega) (by omega) ?_|refine au rfl ?_|refine aL ?_|refine aE ?_)
   refine ⟨⟨i + 1, ⟨hir, hE2.trans hE3, fun x hx => ?_⟩, by omega, rfl, trivial⟩, (by (repeat (first|exact aH _ _ _|refine ay rfl ?_|refine av rfl ?_|refine ak rfl ?_|refine ao rfl ?_)))⟩
   by_cases e : x = i
   ·subst e; exact h
   ·exact hz x (by omega)
  ·repeat' (first|refine df rfl rfl (fun e => h (Int.sign_eq_zero_iff_zero.1 e)) ?_|refine ai rfl ?_|refine aa ?_|refine aj ?_|refine ah rfl ?_|refine ae ?_|refine az rfl ?_|refine aI ?_|refine aU ?_|refine bQ ?_)
   exact bx rfl (rt rfl) ⟨i, rfl, hi, hz, fun _ => h, hE2.trans hE3⟩
 ·have eir : r = i := by omega
  subst eir
  repeat' (first|refine bj rfl rfl (by omega) ?_|refine ai rfl ?_|refine aa ?_|refine aj ?_|refine ah rfl ?_|refine ae ?_|refine aZ rfl ?_|refine au rfl ?_|refine aP ?_|refine aJ ?_|refine aQ ?_|refine aI ?_)
  exact bx rfl (rt rfl) ⟨r, rfl, Nat.le_refl _, hz, fun h => by omega, hE2⟩
end Go.Proofs.YtiejljicpinheaaGreat
namespace Go.Proofs.YtiejljicpinheaaGreat
open Go.W Go.LM Go.LA
theorem sP {n cap : Nat} {w : World} {a : Option Addr} {s : Nat → SD} (hS : Sl w a (topC n s)) (hno : ¬ okS n s) :
  CallsR Tryz.prog 33 #[.slice a n cap] w fun v w' => v = .bool false ∧ Ex w w' := by
 refine aF (args := [_]) Tryz.func33 rfl rfl ?_
 repeat' (first|refine ai rfl ?_|refine aa ?_|refine aj ?_|refine ah rfl ?_|refine ae ?_)
 refine aw (cc hS) rfl ?_
 rintro v w1 ⟨rfl, hE1⟩
 refine ⟨fun _ _ => trivial, ?_⟩
 rw [dH hno]
 repeat' (first|refine aK rfl rfl ?_|refine ai rfl ?_|refine aa ?_|refine aj ?_|refine ah rfl ?_|refine ae ?_|refine az rfl ?_|refine aI ?_|refine aU ?_)
 exact bx rfl (rt rfl) ⟨rfl, hE1⟩
def LastJ (r c0 k : Nat) (f : Nat → Nat) (last : Int) : Prop := (k < c0 ∧ last = r) ∨ (k = c0 ∧ ((c0 = 0 ∧ last = -1) ∨ (0 < c0 ∧ last = f (c0 - 1))))
set_option maxHeartbeats 4000000 in
theorem rF {cn : Bool} {K r c cap : Nat} {w : World} {a : Option Addr} {s : Nat → SD} {F : Mat} (hM : MX cn K w a r c s F) (hr : 1 ≤ r ∧ r ≤ 16) (hc : 1 ≤ c ∧ c ≤ 16) :
  CallsR Tryz.prog 33 #[.slice a r cap] w fun v w' => ∃ t : Bool, v = .bool t ∧ (t = true ↔ ∃ k p, HF r c F k p) ∧ Ex w w' := by
 have hpt := hM.plain (by omega)
 refine aF (args := [_]) Tryz.func33 rfl rfl ?_
 repeat' (first|refine ai rfl ?_|refine aa ?_|refine aj ?_|refine ah rfl ?_|refine ae ?_)
 refine aw (cc hM.top) rfl ?_
 rintro v w1 ⟨rfl, hE1⟩
 refine ⟨fun _ _ => trivial, ?_⟩
 rw [cz hM hr hc]
 repeat' (first|refine aK rfl rfl ?_|refine ai rfl ?_|refine aa ?_|refine aj ?_|refine ah rfl ?_|refine ae ?_|refine au rfl ?_|refine aA ?_|refine aE ?_)
 refine aY (ι := (Nat × Int) × (Nat → Nat) × Nat) [2, 6, 7, 8, 9, 18, 19, 20, 21, 22, 23, 24, 25, 26, 27, 28, 29, 30, 31, 32, 33, 34, 35, 36, 37, 38, 39, 40, 41, 42, 43, 44, 45, 46, 47, 48, 49, 50, 51, 52, 53, 54, 55, 56, 57, 58, 59, 60, 61, 62, 63, 64, 65, 66, 67, 68, 69, 70, 71, 72, 73, 74, 75, 76, 77, 78] (fun t => [(7, .int .i64 (t.1.1 : Int)), (6, .int .i64 t.1.2)])
  (fun t w' => (t.1.1 ≤ c ∧ Ex w w') ∧ LastJ r t.1.1 t.2.2 t.2.1 t.1.2 ∧ HF r t.1.1 F t.2.2 t.2.1) (fun t => c - t.1.1)
  ((0, -1), fun _ => 0, 0) ⟨rfl, rfl, trivial⟩ ⟨⟨by simp only; omega, hE1⟩, .inr ⟨rfl, .inl ⟨rfl, rfl⟩⟩, nC _ _ _⟩ ?_
 rintro ⟨⟨c0, last⟩, f, k⟩ ξ w2 ⟨⟨hc0, hE2⟩, hL, hF⟩
 simp only at hc0 hL hF
 show CW _ _ _ _ (over [(7, .int .i64 (c0 : Int)), (6, .int .i64 last)] _) w2
 rcases Nat.lt_or_ge c0 c with hcc | hcc
 ·repeat' (first|refine bu rfl rfl (by omega) ?_|refine ai rfl ?_|refine aa ?_|refine aj ?_|refine ah rfl ?_|refine ae ?_|refine az rfl ?_|refine aA ?_|refine aE ?_)
  refine aw (fD (hM.ext hE2) ⟨hr.1, by omega⟩ hcc) rfl ?_
  rintro v w3 ⟨p, rfl, hpr, hz, hnz, hE3⟩
  refine ⟨fun _ _ => trivial, ?_⟩
  have hE03 := hE2.trans hE3
  rcases Nat.lt_or_ge p r with hp | hp
  ·have hne := hnz hp
   have hend : ∀ k' p', HF r c F k' p' → c0 < k' ∧ p' c0 = p := fun k' p' h => h.piv hcc hp hz hne
   rcases hL with ⟨hkl, hlast⟩ | ⟨hkc, hlast⟩
   ·repeat' (first|refine bu rfl rfl (by omega) ?_|refine kg rfl rfl (by omega) ?_|refine ai rfl ?_|refine aa ?_|refine aj ?_|refine ah rfl ?_|refine ae ?_|refine bz rfl rfl ?_|refine az rfl ?_|refine aI ?_|refine aU ?_|refine bQ ?_)
    refine bx rfl (rt rfl) ⟨false, rfl, ⟨fun h => (nomatch h), ?_⟩, hE03⟩
    rintro ⟨k', p', h⟩
    have h1 := (hend k' p' h).1
    have h2 := h.pos k (by omega)
    rw [hF.rest k (Nat.le_refl _) hkl _ (h.lt k (by omega))] at h2
    omega
   ·subst hkc
    have hno : ∀ {t : Bool}, t = false → (∀ k' p', HF r c F k' p' → k < k' → p' k = p → False) → (t = true ↔ ∃ k' p', HF r c F k' p') := fun e h => by
     subst e; exact ⟨fun h' => (nomatch h'), fun ⟨k', p', h'⟩ => (h k' p' h' (hend k' p' h').1 (hend k' p' h').2).elim⟩
    by_cases hmo : last < p
    ·have hmo' : ∀ i, i < k → f i < p := fun i hi => by
      rcases hlast with ⟨h1, _⟩ | ⟨h1, h2⟩
      ·omega
      ·by_cases e : i = k - 1
       ·rw [e]; omega
       ·have := hF.mono i (k - 1) (by omega) (by omega); omega
     obtain ⟨pa, d, hh, e1, e2, hpp, hS, hEn⟩ := (hM.ext hE03).get hp (by omega)
     repeat' (first|refine bu rfl rfl (show ((p : Nat) : Int) < ((r : Nat) : Int) by omega) ?_|refine mu rfl rfl (by omega) ?_|refine aD (j := p) (a := a) rfl rfl hpt (by omega) ?_|refine aV (j := p) (a := a) (n := r) (s := s) rfl (hM.ext hE03).top (by omega) e1 ?_|refine aT (j := k) (a := pa) rfl rfl hpp (by omega) ?_|refine bo (j := k) (a := pa) rfl hS hpp (by omega) ?_|refine ai rfl ?_|refine aa ?_|refine aj ?_|refine ah rfl ?_|refine ae ?_|refine bz rfl rfl ?_|refine az rfl ?_|refine au rfl ?_|refine aE ?_)
     refine aw (cj (hEn k (by omega)).k) rfl ?_
     rintro v w4 ⟨rfl, hE4⟩
     refine ⟨fun _ _ => trivial, ?_⟩
     by_cases hpos : 0 < F p k
     ·have hsg : ¬ (F p k).sign < 0 := fun h => by have := cL.1 h; omega
      repeat' (first|refine bj rfl rfl (by omega) ?_|refine ai rfl ?_|refine aa ?_|refine aj ?_|refine ah rfl ?_|refine ae ?_|refine au rfl ?_|refine aA ?_|refine aE ?_)
      refine aY (ι := Nat) [2, 9, 46, 47, 48, 49, 50, 51, 52, 53, 54, 55, 56, 57, 58, 59, 60, 61, 62, 63, 64, 65, 66, 67, 68, 69, 70, 71, 72, 73, 74, 75, 76, 77] (fun q => [(9, .int .i64 (q : Int))])
       (fun q w' => q ≤ k ∧ Ex w4 w' ∧ ∀ j, j < q → 0 ≤ F p j ∧ F p j < F p k) (fun q => k - q)
       0 ⟨rfl, trivial⟩ ⟨by omega, Ex.refl _, fun j h => by omega⟩ ?_
      rintro q ξ2 w5 ⟨hqk, hE5, hred⟩
      show CW _ _ _ _ (over [(9, .int .i64 (q : Int))] _) w5
      have hE35 := hE4.trans hE5
      have hE05 := hE03.trans hE35
      rcases Nat.lt_or_ge q k with hq | hq
      ·repeat' (first|refine bu rfl rfl (by omega) ?_|refine ai rfl ?_|refine aa ?_|refine aj ?_|refine ah rfl ?_|refine ae ?_|refine az rfl ?_|refine aE ?_)
       refine aA ?_
       repeat' (first|refine aj ?_)
       refine bi (late := []) (plan := [(0, none), (1, none), (2, none), (3, none), (4, none), (5, none), (6, none), (7, some true), (8, none), (9, none), (10, none), (11, none), (12, none), (13, none), (14, none), (15, none), (16, none), (17, none), (18, none), (19, none), (20, none), (21, none), (22, none), (23, none), (24, some true), (25, none), (26, none)]) (fun w' => Ex w5 w') bA (by kernel_rfl) (Ex.refl w5).drew ?_
       have hEd := (Ex.refl w5).drew
       repeat' (first|refine aD (j := p) (a := a) rfl rfl hpt (by omega) ?_|refine aV (j := p) (a := a) (n := r) (s := s) rfl (fun _ h => (hM.ext (hE05.trans h)).top) (by omega) e1 ?_|refine aT (j := q) (a := pa) rfl rfl hpp (by omega) ?_|refine bo (j := q) (a := pa) rfl (fun _ h => hS.ext (hE35.trans h)) hpp (by omega) ?_|refine ai rfl ?_)
       refine aw (cj ((hEn q (by omega)).ext (hE35.trans hEd)).k) rfl ?_
       rintro v w6 ⟨rfl, hE6⟩
       refine ⟨fun _ h => h.trans hE6, ?_⟩
       have hE56 := hEd.trans hE6
       by_cases hq0 : F p q < 0
       ·repeat' (first|refine bu rfl rfl (cL.2 hq0) ?_|refine ai rfl ?_|refine aa ?_|refine aj ?_|refine ah rfl ?_|refine ae ?_|refine bK rfl rfl ?_|refine az rfl ?_|refine aI ?_|refine aU ?_|refine bQ ?_)
        exact bx rfl (rt rfl) ⟨false, rfl, hno rfl fun k' p' h h1 h2 => by have := h.red k h1 q hq; rw [h2] at this; omega, hE05.trans hE56⟩
       ·have hsq : ¬ (F p q).sign < 0 := fun h => hq0 (cL.1 h)
        repeat' (first|refine bj rfl rfl (by omega) ?_|refine aD (j := p) (a := a) rfl rfl hpt (by omega) ?_|refine aV (j := p) (a := a) (n := r) (s := s) rfl (fun _ h => (hM.ext (hE05.trans h)).top) (by omega) e1 ?_|refine aT (j := q) (a := pa) rfl rfl hpp (by omega) ?_|refine bo (j := q) (a := pa) rfl (fun _ h => hS.ext (hE35.trans h)) hpp (by omega) ?_|refine aT (j := k) (a := pa) rfl rfl hpp (by omega) ?_|refine bo (j := k) (a := pa) rfl (fun _ h => hS.ext (hE35.trans h)) hpp (by omega) ?_|refine ai rfl ?_|refine bz rfl rfl ?_)
        refine aw (eM ((hEn q (by omega)).ext (hE35.trans hE56)).k ((hEn k (by omega)).ext (hE35.trans hE56)).k) rfl ?_
        rintro v w7 ⟨rfl, hE7⟩
        refine ⟨fun _ h => h.trans hE7, ?_⟩
        have hE57 := hE56.trans hE7
        by_cases hqm : F p q < F p k
        ·repeat' (first|refine qJ rfl rfl (cL.2 (by omega)) ?_|refine ai rfl ?_|refine aa ?_|refine ah rfl ?_|refine ae ?_|refine bz rfl rfl ?_|refine bc rfl rfl (by omega) (by omega) ?_|refine au rfl ?_|refine aL ?_|refine aE ?_)
         refine ⟨⟨q + 1, ⟨hq, hE5.trans hE57, fun j hj => ?_⟩, by omega, rfl, trivial⟩, (by (repeat (first|exact aH _ _ _|refine ay rfl ?_|refine av rfl ?_|refine ak rfl ?_|refine ao rfl ?_)))⟩
         by_cases e : j = q
         ·subst e; exact ⟨by omega, hqm⟩
         ·exact hred j (by omega)
        ·have hsg2 : ¬ (F p q - F p k).sign < 0 := fun h => by have := cL.1 h; omega
         repeat' (first|refine o9 rfl rfl (by omega) ?_|refine ai rfl ?_|refine aa ?_|refine aj ?_|refine ah rfl ?_|refine ae ?_|refine bz rfl rfl ?_|refine az rfl ?_|refine aI ?_|refine aU ?_|refine bQ ?_)
         exact bx rfl (rt rfl) ⟨false, rfl, hno rfl fun k' p' h h1 h2 => by have := h.red k h1 q hq; rw [h2] at this; omega, hE05.trans hE57⟩
      ·have eqk : q = k := by omega
       subst eqk
       repeat' (first|refine bj rfl rfl (by omega) ?_|refine ai rfl ?_|refine aa ?_|refine aj ?_|refine ah rfl ?_|refine ae ?_|refine bc rfl rfl (by omega) (by omega) ?_|refine au rfl ?_|refine aP ?_|refine aJ ?_|refine aQ ?_|refine aL ?_)
       refine ⟨⟨((q + 1, (p : Int)), (fun i => if i = q then p else f i), q + 1), ⟨⟨hcc, hE05⟩, .inr ⟨rfl, .inr ⟨by simp only; omega, ?_⟩⟩, hF.snoc (fun i hi => if_neg (by omega)) (if_pos rfl) hp hz hpos hmo' hred⟩, by simp only; omega, rfl, rfl, trivial⟩, (by (repeat (first|exact aH _ _ _|refine ay rfl ?_|refine av rfl ?_|refine ak rfl ?_|refine ao rfl ?_)))⟩
       simp
     ·have hng : F p k < 0 := by omega
      repeat' (first|refine bu rfl rfl (cL.2 hng) ?_|refine ai rfl ?_|refine aa ?_|refine aj ?_|refine ah rfl ?_|refine ae ?_|refine az rfl ?_|refine aI ?_|refine aU ?_|refine bQ ?_)
      exact bx rfl (rt rfl) ⟨false, rfl, hno rfl fun k' p' h h1 h2 => by have := h.pos k h1; rw [h2] at this; omega, hE03.trans hE4⟩
    ·have hk0 : 0 < k ∧ p ≤ f (k - 1) := by
      rcases hlast with ⟨h1, h2⟩ | ⟨h1, h2⟩
      ·omega
      ·exact ⟨h1, by omega⟩
     repeat' (first|refine bu rfl rfl (by omega) ?_|refine kg rfl rfl (by omega) ?_|refine ai rfl ?_|refine aa ?_|refine aj ?_|refine ah rfl ?_|refine ae ?_|refine bz rfl rfl ?_|refine az rfl ?_|refine aI ?_|refine aU ?_|refine bQ ?_)
     exact bx rfl (rt rfl) ⟨false, rfl, hno rfl fun k' p' h h1 h2 => by
      have hi : k - 1 < k := by omega
      have h3 := (h.piv (c := k - 1) (q := f (k - 1)) (by omega) (hF.lt _ hi) (fun x hx => hF.zero _ hi x hx) (by have := hF.pos _ hi; omega)).2
      have := h.mono (k - 1) k hi h1
      omega, hE03⟩
  ·have epr : p = r := by omega
   subst epr
   repeat' (first|refine bj rfl rfl (by omega) ?_|refine ai rfl ?_|refine aa ?_|refine aj ?_|refine ah rfl ?_|refine ae ?_|refine bK rfl rfl ?_|refine bc rfl rfl (by omega) (by omega) ?_|refine au rfl ?_|refine aL ?_|refine aE ?_)
   refine ⟨⟨((c0 + 1, (p : Int)), f, k), ⟨⟨hcc, hE03⟩, .inl ⟨by have := hF.kc; simp only; omega, rfl⟩, hF.zcol hz⟩, by simp only; omega, rfl, rfl, trivial⟩, (by (repeat (first|exact aH _ _ _|refine ay rfl ?_|refine av rfl ?_|refine ak rfl ?_|refine ao rfl ?_)))⟩
 ·have ecc : c0 = c := by omega
  subst ecc
  repeat' (first|refine bj rfl rfl (by omega) ?_|refine ai rfl ?_|refine aa ?_|refine aj ?_|refine ah rfl ?_|refine ae ?_|refine au rfl ?_|refine aP ?_|refine aJ ?_|refine aQ ?_|refine aI ?_)
  exact bx rfl (rt rfl) ⟨true, rfl, ⟨fun _ => ⟨k, f, hF⟩, fun _ => rfl⟩, hE2⟩
end Go.Proofs.YtiejljicpinheaaGreat
namespace Go.Proofs.YtiejljicpinheaaGreat
open Go.W Go.LM Go.LA Go.PM
theorem tV {rows cols : Int} {L : List Int} {la : Option Addr} {most : Nat} {w : World} (hL : Sl w la (int8L L)) (hI : I8 L) (h1 : 0 ≤ rows ∧ rows ≤ 255) (h2 : 0 ≤ cols ∧ cols ≤ 255) (hm : 1 ≤ most ∧ most ≤ 16) (lc : Nat) :
  ∃ (r c : Nat) (A : Mat), (1 ≤ r ∧ r ≤ most) ∧ (1 ≤ c ∧ c ≤ most) ∧ ∀ w', Ex w w' → CallsR Tryz.prog 13 #[.agg (gridL rows cols la L.length lc).toArray, .int .i64 (most : Int)] w' (RetMO 2 w' r c A) :=
 ⟨gd rows most, gd cols most, gridF L _, iA hm.1, iA hm.1, fun _w' e => gT (hL.ext e) hI h1 h2 hm⟩
end Go.Proofs.YtiejljicpinheaaGreat
namespace Go.Proofs.YtiejljicpinheaaGreat
open Go.W Go.ChangeShapes Go.WideShapes Go.ChangeAt Go.RowKit Go.LM
instance inhSD : Inhabited SD := ⟨sd0⟩
instance inhIH : Inhabited IH := ⟨ih0⟩
structure RawI (W : World) (x : IH) (L : List Nat) : Prop where
 len : x.sd.len = L.length
 cap : L.length ≤ x.sd.cap
 max : x.sd.len ≤ 140737488355328
 sl : Sl W x.sd.a (limbsL L)
 lim : Lim L
structure RawR (W : World) (s : SD) (h : Nat → IH) (L : Nat → List Nat) : Prop where
 cap : s.len ≤ s.cap
 max : s.len ≤ 140737488355328
 sl : Sl W s.a (rowC s.len h)
 ent : ∀ j, j < s.len → RawI W (h j) (L j)
structure RawM (W : World) (a : Option Addr) (n : Nat) (s : Nat → SD) (h : Nat → Nat → IH) (L : Nat → Nat → List Nat) : Prop where
 max : n ≤ 140737488355328
 top : Sl W a (topC n s)
 row : ∀ i, i < n → RawR W (s i) (h i) (L i)
theorem RawI.ext {W W' : World} {x : IH} {L : List Nat} (h : RawI W x L) (e : Ex W W') : RawI W' x L := ⟨h.len, h.cap, h.max, h.sl.ext e, h.lim⟩
theorem RawR.ext {W W' : World} {s : SD} {h : Nat → IH} {L : Nat → List Nat} (H : RawR W s h L) (e : Ex W W') : RawR W' s h L := ⟨H.cap, H.max, H.sl.ext e, fun j hj => (H.ent j hj).ext e⟩
theorem RawM.ext {W W' : World} {a : Option Addr} {n : Nat} {s : Nat → SD} {h : Nat → Nat → IH} {L : Nat → Nat → List Nat} (H : RawM W a n s h L) (e : Ex W W') : RawM W' a n s h L := ⟨H.max, H.top.ext e, fun i hi => (H.row i hi).ext e⟩
theorem gU {H : Type} {P : Program} {e : TypeId} : ∀ {l : List (DataW H)} {d : DataW H}, d ∈ l → ∀ n ∈ d.weights P e, n ∈ DataW.weightsAll P e l
 | [], _, h => by simp at h
 | x :: l, d, h => fun n hn => by
  simp only [DataW.weightsAll, List.mem_append]
  rcases List.mem_cons.1 h with rfl | h
  ·exact .inl hn
  ·exact .inr (gU h n hn)
theorem fJ {H : Type} {P : Program} {t e : TypeId} {elems spare : List (DataW H)} (ht : P.underlying t = some (.slice e)) (hb : 1 ≤ P.bytesOf e) (h : ∀ n ∈ (DataW.slice elems spare).weights P t, n ≤ reachBytes) :
  elems.length ≤ 140737488355328 ∧ ∀ d ∈ elems, ∀ n ∈ d.weights P e, n ≤ reachBytes := by
 have hw : (DataW.slice elems spare).weights P t = (elems.length + spare.length) * P.bytesOf e :: (DataW.weightsAll P e elems ++ DataW.weightsAll P e spare) := by simp [DataW.weights, ht]
 rw [hw] at h
 constructor
 ·have h1 := h _ List.mem_cons_self
  have h2 : elems.length ≤ (elems.length + spare.length) * P.bytesOf e := Nat.le_trans (Nat.le_add_right _ _) (Nat.le_mul_of_pos_right _ hb)
  have h3 : reachBytes = 140737488351232 := by decide
  omega
 ·intro d hd n hn
  exact h n (List.mem_cons_of_mem _ (List.mem_append_left _ (gU hd n hn)))
theorem mH {H : Type} {P : Program} {t : TypeId} {f0 f1 : Field} {d0 d1 : DataW H} (ht : P.underlying t = some (.struct #[f0, f1])) (h : ∀ n ∈ (DataW.agg [d0, d1]).weights P t, n ≤ reachBytes) : ∀ n ∈ d1.weights P f1.type, n ≤ reachBytes := by
 have hw : (DataW.agg [d0, d1]).weights P t = DataW.weightsEach P [f0.type, f1.type] [d0, d1] := by simp [DataW.weights, ht]
 rw [hw] at h
 intro n hn
 refine h n ?_
 simp only [DataW.weightsEach, List.mem_append]
 exact .inr (.inl hn)
section
variable {H : Type} {enc : TypeId × Value → H} {P : Program} {W W' : World}
theorem sQ (n : Nat) (h : Nat → IH) : rowC n h = (List.range (n * 2)).map fun c => if c % 2 = 0 then .bool (h (c / 2)).neg else .slice (h (c / 2)).sd.a (h (c / 2)).sd.len (h (c / 2)).sd.cap := by
 induction n with
 | zero => rfl
 | succ n ih =>
  rw [cY, ih, show (n + 1) * 2 = n * 2 + 1 + 1 by omega, List.range_succ, List.range_succ]
  simp [IH.cells, show n * 2 / 2 = n by omega, show (n * 2 + 1) / 2 = n by omega, show (n * 2 + 1) % 2 = 1 by omega]
theorem sR {a : Option Addr} {n : Nat} {h : Nat → IH} (hn : a = none → n = 0) (hc : ∀ a', a = some a' → ∀ i, i < n → W.cell? (a'.add (i * 2)) = some (.bool (h i).neg) ∧ W.cell? (a'.add (i * 2 + 1)) = some (.slice (h i).sd.a (h i).sd.len (h i).sd.cap)) :
  Sl W a (rowC n h) := by
 rw [sQ]
 refine mI (fun e => by rw [hn e]) fun a' e c hc' => ?_
 have := hc a' e (c / 2) (by omega)
 by_cases h2 : c % 2 = 0
 ·rw [if_pos h2]; rw [show c / 2 * 2 = c by omega] at this; exact this.1
 ·rw [if_neg h2]; rw [show c / 2 * 2 + 1 = c by omega] at this; exact this.2
theorem oE {t e : TypeId} {fuel : Nat} {v : Value} {x : DataW H × List MemPlace} (ht : P.underlying t = some (.slice e)) (he : P.underlying e = some (.int .u32)) (hc : P.cellsOf e = 1) (hb : 1 ≤ P.bytesOf e) (hw0 : ∀ n ∈ x.1.weights P t, n ≤ reachBytes)
  (hf : DataW.trod enc P W 0 (fun _ => true) true fuel t [v] = some x) : ∃ (s : SD) (L : List Nat), v = .slice s.a s.len s.cap ∧ ∀ neg, RawI W ⟨neg, s⟩ L := by
 rcases open_ints ht he hc hf with ⟨hcs, hx⟩ | ⟨a, len, cap, zs, hcs, _, hl, hm, hz, hx, hcell, hwz⟩
 ·simp only [List.cons.injEq, and_true] at hcs
  subst hcs
  exact ⟨sd0, [], rfl, fun neg => ⟨rfl, Nat.le_refl _, Nat.zero_le _, Sl.nil _ _, fun d hd => by simp at hd⟩⟩
 ·simp only [List.cons.injEq, and_true] at hcs
  subst hcs
  simp only [if_true] at hz
  unfold maxLen at hm
  subst hx
  have hwl := (fJ ht hb hw0).1
  have hwl2 : len ≤ 140737488355328 := by
   have : (lits .u32 (zs.take len) : List (DataW H)).length = len := by simp [lits]; omega
   omega
  have hw : ∀ c, c < cap → 0 ≤ zs.getD c 0 ∧ zs.getD c 0 < 4294967296 := fun c hc => by
   have h1 := hwz (zs.getD c 0) (by rw [List.getD_eq_getElem?_getD, List.getElem?_eq_getElem (show c < zs.length by omega)]; exact List.getElem_mem _)
   have h2 : 0 ≤ zs.getD c 0 ∧ zs.getD c 0 ≤ 4294967295 := by simpa [Lit.wf, IntKind.min, IntKind.max, IntKind.signed, IntKind.bits] using h1
   omega
  refine ⟨⟨some a, len, cap⟩, (List.range len).map fun c => (zs.getD c 0).toNat, rfl, fun neg => ⟨by simp, by simpa using hl, hwl2, ?_, fun d hd => ?_⟩⟩
  ·rw [limbsL, List.map_map]
   refine mI (fun e => nomatch e) fun a' e c hc' => ?_
   cases e
   have h1 := hw c (by omega)
   rw [hcell c (by omega)]
   show some (Value.int .u32 (zs.getD c 0)) = some (Value.int .u32 (((zs.getD c 0).toNat : Nat) : Int))
   rw [Int.toNat_of_nonneg h1.1]
  ·rw [List.mem_map] at hd
   obtain ⟨c, hc', rfl⟩ := hd
   have h1 := hw c (by have := List.mem_range.1 hc'; omega)
   omega
theorem jF {t e : TypeId} {f0 f1 : Field} {q : TypeId} {fuel : Nat} {v : Value} {x : DataW H × List MemPlace} (ht : P.underlying t = some (.slice e)) (he : P.underlying e = some (.struct #[f0, f1]))
  (ce : P.cellsOf e = 2) (o0 : f0.offset = 0) (o1 : f1.offset = 1) (c0 : P.cellsOf f0.type = 1) (c1 : P.cellsOf f1.type = 1) (t0 : P.underlying f0.type = some .bool) (t1 : P.underlying f1.type = some (.slice q)) (tq : P.underlying q = some (.int .u32)) (cq : P.cellsOf q = 1) (be : 1 ≤ P.bytesOf e) (bq : 1 ≤ P.bytesOf q) (hw0 : ∀ n ∈ x.1.weights P t, n ≤ reachBytes)
  (hf : DataW.trod enc P W 0 (fun _ => true) true fuel t [v] = some x) : ∃ (s : SD) (h : Nat → IH) (L : Nat → List Nat), v = .slice s.a s.len s.cap ∧ RawR W s h L := by
 rcases Go.Deep.open_slice_pairs ht he ce o0 o1 c0 c1 hf with ⟨hcs, hx⟩ | ⟨a, len, cap, m, n, V0, V1, D0, D1, P0, P1, hcs, _, hl, hm, hmm, hx, hcell⟩
 ·simp only [List.cons.injEq, and_true] at hcs
  subst hcs
  exact ⟨sd0, fun _ => ih0, fun _ => [], rfl, ⟨Nat.le_refl _, by decide, Sl.nil _ _, fun j hj => absurd hj (Nat.not_lt_zero _)⟩⟩
 ·simp only [List.cons.injEq, and_true] at hcs
  subst hcs
  simp only [if_true] at hmm
  unfold maxLen at hm
  subst hx
  obtain ⟨hwl, hwe⟩ := fJ ht be hw0
  simp only [List.length_map, List.length_range] at hwl
  have each : ∀ i, i < len → ∃ q : IH × List Nat, V0 i = .bool q.1.neg ∧ V1 i = .slice q.1.sd.a q.1.sd.len q.1.sd.cap ∧ RawI W q.1 q.2 := fun i hi => by
   obtain ⟨_, _, h0, h1⟩ := hcell i (by omega)
   obtain ⟨b, hb, _⟩ := DataW.trod_bool t0 h0
   obtain ⟨s, L, hs, hL⟩ := oE t1 tq cq bq (mH he (hwe _ (List.mem_map.2 ⟨i, List.mem_range.2 hi, rfl⟩))) h1
   simp only [List.cons.injEq, and_true] at hb
   exact ⟨(⟨b, s⟩, L), hb, hs, hL b⟩
  obtain ⟨q, hq⟩ := Go.Deep.choose_lt each
  refine ⟨⟨some a, len, cap⟩, fun i => (q i).1, fun i => (q i).2, rfl, ⟨hl, hwl, sR (fun e => nomatch e) fun a' e i hi => ?_, fun j hj => (hq j hj).2.2⟩⟩
  cases e
  obtain ⟨h0, h1, _⟩ := hcell i (by show i < m; have : i < len := hi; omega)
  obtain ⟨e0, e1, _⟩ := hq i hi
  rw [h0, h1, e0, e1]
  exact ⟨rfl, rfl⟩
theorem mJ {u t e : TypeId} {f0 f1 : Field} {q : TypeId} {fuel : Nat} {v : Value} {x : DataW H × List MemPlace} (hu : P.underlying u = some (.slice t)) (cu : P.cellsOf t = 1) (ht : P.underlying t = some (.slice e)) (he : P.underlying e = some (.struct #[f0, f1]))
  (ce : P.cellsOf e = 2) (o0 : f0.offset = 0) (o1 : f1.offset = 1) (c0 : P.cellsOf f0.type = 1) (c1 : P.cellsOf f1.type = 1) (t0 : P.underlying f0.type = some .bool) (t1 : P.underlying f1.type = some (.slice q)) (tq : P.underlying q = some (.int .u32)) (cq : P.cellsOf q = 1) (bt : 1 ≤ P.bytesOf t) (be : 1 ≤ P.bytesOf e) (bq : 1 ≤ P.bytesOf q) (hw0 : ∀ n ∈ x.1.weights P u, n ≤ reachBytes)
  (hf : DataW.trod enc P W 0 (fun _ => true) true fuel u [v] = some x) : ∃ (a : Option Addr) (n c : Nat) (s : Nat → SD) (h : Nat → Nat → IH) (L : Nat → Nat → List Nat), v = .slice a n c ∧ RawM W a n s h L := by
 rcases Go.Deep.open_slice1 hu cu hf with ⟨hcs, hx⟩ | ⟨a, len, cap, m, n, V, D, Pl, hcs, _, hl, hm, hmm, hx, hcell⟩
 ·simp only [List.cons.injEq, and_true] at hcs
  subst hcs
  exact ⟨none, 0, 0, fun _ => sd0, fun _ _ => ih0, fun _ _ => [], rfl, ⟨by decide, Sl.nil _ _, fun j hj => absurd hj (Nat.not_lt_zero _)⟩⟩
 ·simp only [List.cons.injEq, and_true] at hcs
  subst hcs
  simp only [if_true] at hmm
  unfold maxLen at hm
  subst hx
  obtain ⟨hwl, hwe⟩ := fJ hu bt hw0
  simp only [List.length_map, List.length_range] at hwl
  have each : ∀ i, i < len → ∃ q : SD × (Nat → IH) × (Nat → List Nat), V i = .slice q.1.a q.1.len q.1.cap ∧ RawR W q.1 q.2.1 q.2.2 := fun i hi => by
   obtain ⟨s, h, L, hv, hR⟩ := jF ht he ce o0 o1 c0 c1 t0 t1 tq cq be bq (hwe _ (List.mem_map.2 ⟨i, List.mem_range.2 hi, rfl⟩)) (hcell i (by omega)).2
   exact ⟨(s, h, L), hv, hR⟩
  obtain ⟨q, hq⟩ := Go.Deep.choose_lt each
  refine ⟨some a, len, cap, fun i => (q i).1, fun i => (q i).2.1, fun i => (q i).2.2, rfl, ⟨hwl, mI (fun e => nomatch e) fun a' e i hi => ?_, fun j hj => (hq j hj).2⟩⟩
  cases e
  rw [(hcell i (by omega)).1, (hq i hi).1]
  rfl
end
set_option maxRecDepth 100000
theorem gV : ∃ f0 f1, Tryz.prog.underlying 43 = some (.struct #[f0, f1]) ∧ f0.type = 4 ∧ f1.type = 41 ∧ f0.offset = 0 ∧ f1.offset = 1 :=
 ⟨(Tryz.prog.fieldsOf 43)[0]!, (Tryz.prog.fieldsOf 43)[1]!, by kernel_rfl, by kernel_rfl, by kernel_rfl, by kernel_rfl, by kernel_rfl⟩
theorem vt {H : Type} {enc : TypeId × Value → H} {W : World} {v : Value} {d : DataW H} {ps : List MemPlace} {r : Reach} {b0 : Nat} (hval : Value.okWide Tryz.prog W r b0 25 v) (h : DataW.Trod enc Tryz.prog W 0 (fun _ => true) true 25 v d ps) (hw0 : ∀ n ∈ d.weights Tryz.prog 25, n ≤ reachBytes) :
  ∃ (a : Option Addr) (n c : Nat) (s : Nat → SD) (h : Nat → Nat → IH) (L : Nat → Nat → List Nat), v = .slice a n c ∧ RawM W a n s h L := by
 obtain ⟨f0, f1, hs, h0, h1, o0, o1⟩ := gV
 obtain ⟨a0, len, cap, rfl⟩ := okWide_slice (e := 31) (by kernel_rfl) hval
 obtain ⟨fuel, hf⟩ := h
 exact mJ (t := 31) (e := 43) (q := 113) (by kernel_rfl) (by kernel_rfl) (by kernel_rfl) hs (by kernel_rfl) o0 o1 (by rw [h0]; kernel_rfl) (by rw [h1]; kernel_rfl) (by rw [h0]; kernel_rfl) (by rw [h1]; kernel_rfl) (by kernel_rfl) (by kernel_rfl) (Nat.le_of_ble_eq_true (by kernel_rfl)) (Nat.le_of_ble_eq_true (by kernel_rfl)) (Nat.le_of_ble_eq_true (by kernel_rfl)) hw0 hf
end Go.Proofs.YtiejljicpinheaaGreat
namespace Go.Proofs.YtiejljicpinheaaGreat
open Go.W Go.LM Go.LA
theorem wg {P : Program} {S : World → Prop} {ops : List Oper} {K : Env → World → Prop} {rest : List (Oper × Option Bool)} {ρ : Env} {w : World} {b : Option Bool} {d : Nat} {T : TypeId} {pos : String} {af : Array Edge} {x : Operand} {T1 : TypeId} {g o j n : Nat} {f : Nat → IH} [Scal P T1] (hx : ev ρ x = .pointer (some ⟨g, o + j * 2 + 1, none⟩)) (hs : Rd b S w fun w' => Sl w' (some ⟨g, o, none⟩) (rowC n f)) (hj : j < n)
  (h : RR P S ops K rest (upd ρ d (.slice (f j).sd.a (f j).sd.len (f j).sd.cap)) w) : RR P S ops K ((⟨some d, .load T1 x, T, pos, af, none⟩, b) :: rest) ρ w :=
 gD hx (hs.imp fun w' hs => by
  have := hs.get (j * 2 + 1) (by rw [bT]; omega)
  rw [List.getD_eq_getElem?_getD, (kE hj).2] at this
  exact this) h
def nsm : Nat → (Nat → Nat) → Nat
 | 0, _ => 0
 | n + 1, f => nsm n f + f n
theorem wk {n : Nat} {f : Nat → Nat} : ∀ {m : Nat}, m ≤ n → nsm m f ≤ nsm n f := by
 induction n with
 | zero => intro m h; obtain rfl : m = 0 := by omega
           exact Nat.le_refl _
 | succ n ih =>
  intro m h
  rcases Nat.lt_or_ge n m with h1 | h1
  ·obtain rfl : m = n + 1 := by omega
   exact Nat.le_refl _
  ·exact Nat.le_trans (ih h1) (Nat.le_add_right _ _)
theorem v9 {n i : Nat} {f : Nat → Nat} (h : i < n) : f i ≤ nsm n f := by
 have := wk (f := f) (show i + 1 ≤ n by omega)
 have e : nsm (i + 1) f = nsm i f + f i := rfl
 omega
theorem wh {n c : Nat} {f : Nat → Nat} (h : ∀ i, i < n → f i = c) : nsm n f = n * c := by
 induction n with
 | zero => simp [nsm]
 | succ n ih => rw [nsm, ih fun i hi => h i (by omega), h n (by omega), Nat.succ_mul]
theorem wj (n : Nat) (f g : Nat → Nat) : nsm n (fun i => f i + g i) = nsm n f + nsm n g := by
 induction n with
 | zero => rfl
 | succ n ih => simp only [nsm]; rw [ih]; omega
def lgN (s : Nat → SD) (L : Nat → Nat → List Nat) (n i : Nat) : Nat := n + nsm i fun k => (s k).len + nsm (s k).len fun j => (L k j).length
def valF (h : Nat → Nat → IH) (L : Nat → Nat → List Nat) : Mat := fun i j => sgn (h i j).neg (natOf (L i j))
set_option maxRecDepth 10000 in
set_option maxHeartbeats 4000000 in
theorem we {n cap : Nat} {w : World} {a : Option Addr} {s : Nat → SD} {h : Nat → Nat → IH} {L : Nat → Nat → List Nat} (hM : RawM w a n s h L) :
  CallsR Tryz.prog 20 #[.slice a n cap] w fun v w' => ∃ t : Bool, v = .bool t ∧ (t = false → lgN s L n n ≤ 60) ∧ Ex w w' := by
 refine aF (args := [_]) Tryz.func20 rfl rfl ?_
 repeat' (first|refine ai rfl ?_|refine aa ?_|refine aj ?_|refine ah rfl ?_|refine ae ?_|refine aZ rfl ?_|refine aA ?_)
 have hmx := hM.max
 refine aY (ι := Nat × Nat) [3, 4, 5, 8, 9, 10, 11, 12, 13, 14, 15, 16, 17, 18, 19, 20, 21, 22, 23, 24, 25, 26, 27, 28, 29, 30, 31, 32, 33, 34, 35, 36, 37, 38, 39, 40, 41, 42, 43, 44, 45, 46, 47, 48] (fun t => [(4, .int .i64 (t.1 : Int)), (3, .int .i64 (t.2 : Int))])
  (fun t w' => t.1 ≤ n ∧ Ex w w' ∧ t.2 ≤ 422212465065984 ∧ (t.2 < 1000 → t.2 = lgN s L n t.1)) (fun t => n - t.1)
  (0, n) ⟨rfl, rfl, trivial⟩ ⟨Nat.zero_le _, Ex.refl _, Nat.le_trans hmx (by omega), fun _ => (Nat.add_zero n).symm⟩ ?_
 rintro ⟨i, m⟩ ξ w1 ⟨hi, hE1, hm, hl⟩
 simp only at hi hm hl
 show CW _ _ _ _ (over [(4, .int .i64 (i : Int)), (3, .int .i64 (m : Int))] _) w1
 have hM1 := hM.ext hE1
 have hpt : 0 < n → W.plain a := fun h0 => hM.top.plain (by rw [bP]; exact h0)
 rcases Nat.lt_or_ge i n with hin | hin
 ·rcases Nat.lt_or_ge m 1000 with hm1 | hm1
  ·have hR := hM1.row i hin
   have hmR := hR.max
   have hlm := hl hm1
   repeat' (first|refine bu rfl rfl (show ((i : Nat) : Int) < ((n : Nat) : Int) by omega) ?_|refine bu rfl rfl (show ((m : Nat) : Int) < 1000 by omega) ?_|refine aD (j := i) rfl rfl (hpt (by omega)) (by omega) ?_|refine cG (j := i) rfl hM1.top (by omega) ?_|refine ai rfl ?_|refine aa ?_|refine aj ?_|refine ah rfl ?_|refine ae ?_|refine aZ rfl ?_|refine bz rfl rfl ?_|refine bc rfl rfl (by omega) (by omega) ?_|refine az rfl ?_|refine aA ?_|refine aE ?_)
   refine aY (ι := Nat × Nat) [3, 5, 25, 26, 27, 28, 29, 30, 31, 32, 33, 34, 35, 36, 37, 38, 39, 40, 41, 42, 43, 44, 45, 46, 47, 48] (fun t => [(5, .int .i64 (t.1 : Int)), (3, .int .i64 (t.2 : Int))])
    (fun t w' => t.1 ≤ (s i).len ∧ Ex w1 w' ∧ t.2 ≤ 140737488360000 ∧ (t.2 < 1000 → t.2 = lgN s L n i + (s i).len + nsm t.1 fun j => (L i j).length)) (fun t => (s i).len - t.1)
    (0, m + (s i).len) ⟨rfl, by show Value.int .i64 ((m : Int) + ((s i).len : Int)) = _; congr 1, trivial⟩ ⟨Nat.zero_le _, Ex.refl _, show m + (s i).len ≤ 140737488360000 by omega, fun _ => by rw [hlm]; rfl⟩ ?_
   rintro ⟨j, m2⟩ ξ2 w2 ⟨hj, hE2, hm2, hl2⟩
   simp only at hj hm2 hl2
   show CW _ _ _ _ (over [(5, .int .i64 (j : Int)), (3, .int .i64 (m2 : Int))] _) w2
   have hM2 := hM1.ext hE2
   have hR2 := hR.ext hE2
   rcases Nat.lt_or_ge j (s i).len with hjl | hjl
   ·have hI := hR2.ent j hjl
    have hmI := hI.max
    have hpr : W.plain (s i).a := hR2.sl.plain (by rw [bT]; omega)
    obtain ⟨pgzz, pozz, hpe⟩ := hpr
    have hsi : s i = ⟨some ⟨pgzz, pozz, none⟩, (s i).len, (s i).cap⟩ := by rw [← hpe]
    have hsl : Sl w2 (some ⟨pgzz, pozz, none⟩) (rowC (s i).len (h i)) := by rw [← hpe]; exact hR2.sl
    rcases Nat.lt_or_ge m2 1000 with hm21 | hm21
    ·repeat' (first|refine aD (j := i) rfl rfl (hpt (by omega)) (by omega) ?_|refine aV (j := i) rfl hM2.top (by omega) hsi ?_|(refine bu rfl rfl (show ((j : Nat) : Int) < (((s i).len : Nat) : Int) by omega) ?_)|refine bu rfl rfl (show ((m2 : Nat) : Int) < 1000 by omega) ?_|refine aT (j := j) (a := some ⟨pgzz, pozz, none⟩) rfl rfl ⟨_, _, rfl⟩ (by omega) ?_|refine wg (j := j) rfl hsl hjl ?_|refine ai rfl ?_|refine aa ?_|refine aj ?_|refine ah rfl ?_|refine ae ?_|refine aZ rfl ?_|refine bz rfl rfl ?_|refine bc rfl rfl (by omega) (by omega) ?_|refine aN rfl ?_|refine az rfl ?_|refine aA ?_|refine aL ?_|refine aE ?_)
     refine ⟨⟨(j + 1, m2 + (h i j).sd.len), ⟨hjl, hE2, show m2 + (h i j).sd.len ≤ 140737488360000 by omega, fun _ => ?_⟩, by simp only; omega, rfl, rfl, trivial⟩, (by (repeat (first|exact aH _ _ _|refine ay rfl ?_|refine av rfl ?_|refine ak rfl ?_|refine ao rfl ?_)))⟩
     show m2 + (h i j).sd.len = _ + (nsm j _ + (L i j).length)
     rw [hl2 hm21, hI.len]; omega
    ·repeat' (first|refine aD (j := i) rfl rfl (hpt (by omega)) (by omega) ?_|refine cG (j := i) rfl hM2.top (by omega) ?_|(refine bu rfl rfl (show ((j : Nat) : Int) < (((s i).len : Nat) : Int) by omega) ?_)|refine bj rfl rfl (show (1000 : Int) ≤ ((m2 : Nat) : Int) by omega) ?_|refine ai rfl ?_|refine aa ?_|refine aj ?_|refine ah rfl ?_|refine ae ?_|refine aZ rfl ?_|refine bz rfl rfl ?_|refine bc rfl rfl (by omega) (by omega) ?_|refine au rfl ?_|refine aP ?_|refine aJ ?_|refine aQ ?_|refine aL ?_)
     exact ⟨⟨(i + 1, m2), ⟨hin, hE1.trans hE2, show m2 ≤ 422212465065984 by omega, fun h => absurd h (show ¬ m2 < 1000 by omega)⟩, by simp only; omega, rfl, rfl, trivial⟩, (by (repeat (first|exact aH _ _ _|refine ay rfl ?_|refine av rfl ?_|refine ak rfl ?_|refine ao rfl ?_)))⟩
   ·repeat' (first|refine aD (j := i) rfl rfl (hpt (by omega)) (by omega) ?_|refine cG (j := i) rfl hM2.top (by omega) ?_|(refine bj rfl rfl (show (((s i).len : Nat) : Int) ≤ ((j : Nat) : Int) by omega) ?_)|refine ai rfl ?_|refine aa ?_|refine aj ?_|refine ah rfl ?_|refine ae ?_|refine aZ rfl ?_|refine bK rfl rfl ?_|refine bc rfl rfl (by omega) (by omega) ?_|refine au rfl ?_|refine aP ?_|refine aJ ?_|refine aQ ?_|refine aL ?_)
    refine ⟨⟨(i + 1, m2), ⟨hin, hE1.trans hE2, show m2 ≤ 422212465065984 by omega, fun h => ?_⟩, by simp only; omega, rfl, rfl, trivial⟩, (by (repeat (first|exact aH _ _ _|refine ay rfl ?_|refine av rfl ?_|refine ak rfl ?_|refine ao rfl ?_)))⟩
    show m2 = n + (nsm i _ + ((s i).len + nsm (s i).len fun j => (L i j).length))
    rw [hl2 h, show j = (s i).len by omega]
    unfold lgN
    omega
  ·repeat' (first|refine bu rfl rfl (show ((i : Nat) : Int) < ((n : Nat) : Int) by omega) ?_|refine bj rfl rfl (show (1000 : Int) ≤ ((m : Nat) : Int) by omega) ?_|refine kh rfl rfl (show (60 : Int) < ((m : Nat) : Int) by omega) ?_|refine ai rfl ?_|refine aa ?_|refine aj ?_|refine ah rfl ?_|refine ae ?_|refine aZ rfl ?_|refine bz rfl rfl ?_|refine au rfl ?_|refine aP ?_|refine aJ ?_|refine aQ ?_|refine aI ?_)
   exact bx rfl (rt rfl) ⟨true, rfl, fun e => (nomatch e), hE1⟩
 ·obtain rfl : i = n := by omega
  rcases Nat.lt_or_ge 60 m with h60 | h60
  ·repeat' (first|refine bj rfl rfl (show ((i : Nat) : Int) ≤ ((i : Nat) : Int) by omega) ?_|refine kh rfl rfl (show (60 : Int) < ((m : Nat) : Int) by omega) ?_|refine ai rfl ?_|refine aa ?_|refine aj ?_|refine ah rfl ?_|refine ae ?_|refine aZ rfl ?_|refine bK rfl rfl ?_|refine au rfl ?_|refine aP ?_|refine aJ ?_|refine aQ ?_|refine aI ?_)
   exact bx rfl (rt rfl) ⟨true, rfl, fun e => (nomatch e), hE1⟩
  ·repeat' (first|refine bj rfl rfl (show ((i : Nat) : Int) ≤ ((i : Nat) : Int) by omega) ?_|refine gI rfl rfl (show ((m : Nat) : Int) ≤ (60 : Int) by omega) ?_|refine ai rfl ?_|refine aa ?_|refine aj ?_|refine ah rfl ?_|refine ae ?_|refine aZ rfl ?_|refine bK rfl rfl ?_|refine au rfl ?_|refine aP ?_|refine aJ ?_|refine aQ ?_|refine aI ?_)
   exact bx rfl (rt rfl) ⟨false, rfl, fun _ => by rw [← hl (show m < 1000 by omega)]; exact h60, hE1⟩
theorem wl {n : Nat} {w : World} {a : Option Addr} {s : Nat → SD} {h : Nat → Nat → IH} {L : Nat → Nat → List Nat} (hM : RawM w a n s h L) (hl : lgN s L n n ≤ 60) :
  AM 60 w a n s (valF h L) ∧ n ≤ 60 ∧ (∀ i, i < n → (s i).len ≤ 60) ∧ (okS n s → n * (s 0).len + n ≤ 60) := by
 have hf : ∀ i, i < n → ((s i).len + nsm (s i).len fun j => (L i j).length) ≤ 60 - n ∧ n ≤ 60 := fun i hi => by
  have h1 := v9 (f := fun k => (s k).len + nsm (s k).len fun j => (L k j).length) hi
  unfold lgN at hl
  omega
 refine ⟨⟨hM.top, fun i hi => ?_⟩, by unfold lgN at hl; omega, fun i hi => by have := hf i hi; omega, fun ok => ?_⟩
 ·have hR := hM.row i hi
  refine ⟨rfl, hR.cap, h i, hR.sl, fun j hj => ⟨⟨(h i j).neg, (h i j).sd.a, (h i j).sd.cap, L i j, ?_, ⟨(hR.ent j hj).sl, (hR.ent j hj).cap, (hR.ent j hj).lim, ?_⟩, rfl, ?_⟩, fun e => nomatch e⟩⟩
  ·rw [← (hR.ent j hj).len]; rfl
  ·have h1 := v9 (f := fun j => (L i j).length) hj
   have h2 := hf i hi
   omega
  ·have h1 := v9 (f := fun j => (L i j).length) hj
   have h2 := hf i hi
   omega
 ·have h1 : nsm n (fun k => (s k).len) ≤ nsm n fun k => (s k).len + nsm (s k).len fun j => (L k j).length := by
   rw [wj n (fun k => (s k).len)]; omega
  rw [wh (f := fun k => (s k).len) (c := (s 0).len) (fun i hi => ok.2.2.2.2 i hi)] at h1
  unfold lgN at hl
  omega
end Go.Proofs.YtiejljicpinheaaGreat
namespace Go.LA
end Go.LA
namespace Go.Proofs.YtiejljicpinheaaGreat
open Go.W Go.LM Go.LA Go.PM
theorem wK {K r c lo g : Nat} {w : World} {gs cp : Nat → Nat} {F : Mat} (h : MO true K w lo g r c gs cp F) : AM K w (some ⟨g, 0, none⟩) r (fun i => ⟨some ⟨gs i, 0, none⟩, c, cp i⟩) F := h.mx.am
theorem wL {r c : Nat} {gs cp : Nat → Nat} (hr : 1 ≤ r ∧ r ≤ 16) (hc : 1 ≤ c ∧ c ≤ 16) : okS r (fun i => (⟨some ⟨gs i, 0, none⟩, c, cp i⟩ : SD)) := ⟨hr.1, hr.2, hc.1, hc.2, fun _ _ => rfl⟩
theorem wH {t t' : Bool} {p : Prop} (h : t = true ↔ p) (h' : t' = true ↔ p) : t = t' := by
 cases t <;> cases t' <;> simp_all
def IsfF (n : Nat) (s : Nat → SD) (A : Mat) (t : Bool) : Prop := t = true ↔ okS n s ∧ ∃ k p, HF n (s 0).len A k p
theorem wF {K n cap : Nat} {w : World} {a : Option Addr} {s : Nat → SD} {A : Mat} (hA : AM K w a n s A) (hK : K < 17592186044415) : CallsR Tryz.prog 38 #[.slice a n cap] w fun v w' => ∃ t : Bool, v = .bool t ∧ IsfF n s A t ∧ Ex w w' := by
 by_cases ok : okS n s
 ·refine (te (hA.mx ok) (iy ok) (gQ ok) hK).mono fun v w' h => ?_
  obtain ⟨t, rfl, ht, hE⟩ := h
  exact ⟨t, rfl, ⟨fun e => ⟨ok, ht.1 e⟩, fun e => ht.2 e.2⟩, hE⟩
 ·refine (uG hA.top ok).mono fun v w' h => ?_
  obtain ⟨rfl, hE⟩ := h
  exact ⟨false, rfl, ⟨fun e => (nomatch e), fun e => absurd e.1 ok⟩, hE⟩
theorem wy {K n cap : Nat} {w : World} {a : Option Addr} {s : Nat → SD} {A : Mat} (hA : AM K w a n s A) : CallsR Tryz.prog 33 #[.slice a n cap] w fun v w' => ∃ t : Bool, v = .bool t ∧ IsfF n s A t ∧ Ex w w' := by
 by_cases ok : okS n s
 ·refine (rF (hA.mx ok) (iy ok) (gQ ok)).mono fun v w' h => ?_
  obtain ⟨t, rfl, ht, hE⟩ := h
  exact ⟨t, rfl, ⟨fun e => ⟨ok, ht.1 e⟩, fun e => ht.2 e.2⟩, hE⟩
 ·refine (sP hA.top ok).mono fun v w' h => ?_
  obtain ⟨rfl, hE⟩ := h
  exact ⟨false, rfl, ⟨fun e => (nomatch e), fun e => absurd e.1 ok⟩, hE⟩
end Go.Proofs.YtiejljicpinheaaGreat
namespace Go.Proofs.YtiejljicpinheaaGreat
open Go.W Go.LM Go.LA Go.PM
theorem wM (x : Int) : -128 ≤ x.tmod 5 ∧ x.tmod 5 ≤ 127 := by
 rcases Int.le_total 0 x with h | h
 ·rw [Int.tmod_eq_emod_of_nonneg h]; omega
 ·have e : x.tmod 5 = -((-x).tmod 5) := by rw [Int.neg_tmod, Int.neg_neg]
  rw [e, Int.tmod_eq_emod_of_nonneg (by omega)]; omega
end Go.Proofs.YtiejljicpinheaaGreat
