import Derived.KernelRfl
import Derived.WalkKit
import Derived.Test.YtiejljicpinheaaGreatProg
import Derived.Test.YtiejljicpinheaaGreatRows
import Derived.Carry
import Derived.ChangeSlices
import Derived.ChangeSame
import Derived.ChangeCalls
import Derived.SizedLaws
import Derived.JoinedOf
import Derived.JoinedAt
import Derived.Deep.Matrix
import Derived.Test.YtiejljicpinheaaGreatA01
import Derived.Test.YtiejljicpinheaaGreatA02
import Derived.Test.YtiejljicpinheaaGreatA03
import Derived.Test.YtiejljicpinheaaGreatA04
import Derived.Test.YtiejljicpinheaaGreatA05
import Derived.Test.YtiejljicpinheaaGreatA06
import Derived.Test.YtiejljicpinheaaGreatA07
import Derived.Test.YtiejljicpinheaaGreatA10
import Derived.Test.YtiejljicpinheaaGreatA12
import Derived.Test.YtiejljicpinheaaGreatA13
import Derived.Test.YtiejljicpinheaaGreatA14
import Derived.Test.YtiejljicpinheaaGreatA17
import Derived.Test.YtiejljicpinheaaGreatA18
import Derived.Test.YtiejljicpinheaaGreatA19
import Derived.Test.YtiejljicpinheaaGreatA24
import Derived.Test.YtiejljicpinheaaGreatA25
import Derived.Test.YtiejljicpinheaaGreatA28
import Derived.Test.YtiejljicpinheaaGreatA29
namespace Go.W
open Go.RowKit (Below)
section
variable {P : Program} {w : World}
end
section
variable {P : Program} {S : World → Prop} {ops : List Oper} {K : Env → World → Prop} {rest : List (Oper × Option Bool)} {ρ : Env} {w : World} {b : Option Bool} {kf : Bool} {d : Nat} {T T' : TypeId} {pos : String} {af : Array Edge}
theorem tj {x : Operand} {a : Addr} (hx : ev ρ x = .pointer (some a)) (h : RR P S ops K rest (upd ρ d (.pointer (some a))) w) :
  RR P S ops K ((⟨some d, .nilCheck x, T, pos, af, none⟩, b) :: rest) ρ w :=
 cd rfl (fun _ => by simp [execOp, hx]) h
section
variable {x y : Operand} {k : IntKind} {m m' : Int} {T'' : TypeId}
end
section
variable {x y : Operand} {m m' : Int} {T'' : TypeId}
variable {k : IntKind}
theorem vP (hx : ev ρ x = .int k m) (hy : ev ρ y = .int k m') (h2 : m' ≠ 0)
  (h : RR P S ops K rest (upd ρ d (.int k (m.tmod m'))) w) : RR P S ops K ((⟨some d, .binOp .rem T' x y T'', T, pos, af, none⟩, b) :: rest) ρ w :=
 eE hx hy (by simp [binOp, Op.intDiv, h2]) h
end
end
end Go.W
namespace Go.Proofs.YtiejljicpinheaaGreat
open Go.W
instance c20 : Fun Tryz.prog 20 := ⟨by kernel_rfl⟩
instance c22 : Fun Tryz.prog 22 := ⟨by kernel_rfl⟩
instance c36 : Fun Tryz.prog 36 := ⟨by kernel_rfl⟩
instance c46 : Fun Tryz.prog 46 := ⟨by kernel_rfl⟩
instance c47 : Fun Tryz.prog 47 := ⟨by kernel_rfl⟩
instance c66 : Fun Tryz.prog 66 := ⟨by kernel_rfl⟩
instance c77 : Fun Tryz.prog 77 := ⟨by kernel_rfl⟩
instance c87 : Fun Tryz.prog 87 := ⟨by kernel_rfl⟩
end Go.Proofs.YtiejljicpinheaaGreat
namespace Go.LA
theorem InL.mat {rows cols : Nat} {H H' : Mat} {v : Vec} (h : InL rows cols H v) (he : ∀ r c, r < rows → c < cols → H r c = H' r c) : InL rows cols H' v := by
 obtain ⟨x, hx⟩ := h
 exact ⟨x, fun r hr => by rw [hx r hr]; exact dq (fun j hj => he r j hr hj) fun _ _ => rfl⟩
end Go.LA
namespace Go.LA
theorem Uni.ceq {n : Nat} {F : Mat} (h : Uni n F) : CEq n n idM F F := ⟨h, fun i j hi _ => (mR F i j hi).symm⟩
end Go.LA
namespace Go.W
section
variable {P : Program} {S : World → Prop} {ops : List Oper} {K : Env → World → Prop} {rest : List (Oper × Option Bool)} {ρ : Env} {w : World} {b : Option Bool} {kf : Bool} {d : Nat} {dst : Option Nat} {T T' : TypeId} {pos : String} {af : Array Edge}
end
end Go.W
namespace Go.W
section
variable {P : Program} {S : World → Prop} {ops : List Oper} {K : Env → World → Prop} {rest : List (Oper × Option Bool)} {ρ : Env} {w : World} {b : Option Bool} {kf : Bool} {d : Nat} {dst : Option Nat} {T T' : TypeId} {pos : String} {af : Array Edge}
end
end Go.W
namespace Go.W
end Go.W
namespace Go.W
section
variable {P : Program} {S : World → Prop} {ops : List Oper} {K : Env → World → Prop} {rest : List (Oper × Option Bool)} {ρ : Env} {w : World} {b : Option Bool} {kf : Bool} {d : Nat} {dst : Option Nat} {T T' : TypeId} {pos : String} {af : Array Edge}
theorem vT {x y : Operand} {c : Bool} {T'' : TypeId} [h1 : BoolT P T'] (hx : ev ρ x = .bool c) (hy : ev ρ y = .bool c) (h : RR P S ops K rest (upd ρ d (.bool true)) w) : RR P S ops K ((⟨some d, .binOp .eql T' x y T'', T, pos, af, none⟩, b) :: rest) ρ w :=
 lY hx hy (by rw [beq_self_eq_true]; exact h)
end
end Go.W
namespace Go.PM
end Go.PM
namespace Go.PM
end Go.PM
namespace Go.PM
theorem vX {L : List Int} {k : Nat} (h : k ≤ L.length) : tAt L k ≤ L.length := by unfold tAt; split <;> omega
end Go.PM
namespace Go.Proofs.YtiejljicpinheaaGreat
open Go.W Go.PM
theorem tA {L : List Int} {k g lc : Nat} {la : Option Addr} {w : World} (hb : Blk w g 39 (tapeL la L.length lc k)) (hL : Sl w la (int8L L)) (hr : I8 L) (hne : 0 < L.length → ∀ ad, la = some ad → ad.block ≠ g)
  (hk : k ≤ L.length) (n : Int) (hn : 0 < n) : CallsR Tryz.prog 77 #[.pointer (some ⟨g, 0, none⟩), .int .i64 n] w fun v w' =>
   v = .int .i64 (L.getD k 0 % 256 % n) ∧ Chg g w w' ∧ Blk w' g 39 (tapeL la L.length lc (tAt L k)) := by
 have hx := hr.getD k
 refine aF (args := [_, _]) Tryz.func77 rfl rfl ?_
 repeat' (first|refine ai rfl ?_|refine aa ?_|refine aj ?_|refine ah rfl ?_|refine ae ?_)
 refine aw (lh hb hL hr hne hk) rfl ?_
 rintro v w1 ⟨rfl, hc1, hb1⟩
 refine ⟨fun _ _ => trivial, ?_⟩
 refine il rfl ?_
 rw [show IntKind.u8.wrap (L.getD k 0) = L.getD k 0 % 256 from cK rfl]
 repeat' (first|refine dE rfl (dy (by omega) (by omega)) ?_|refine iC rfl rfl (by omega) (by omega) ?_|refine ai rfl ?_|refine aa ?_|refine ae ?_|refine aI ?_)
 exact bx rfl (rt rfl) ⟨rfl, hc1, hb1⟩
end Go.Proofs.YtiejljicpinheaaGreat
namespace Go.Proofs.YtiejljicpinheaaGreat
open Go.W Go.LM Go.LA
set_option maxHeartbeats 1000000 in
theorem nw {cn cn' : Bool} {K K' r c r' c' ca cb : Nat} {w : World} {a b : Option Addr} {s s' : Nat → SD} {F G : Nat → Nat → Int} (hA : MX cn K w a r c s F) (hB : MX cn' K' w b r' c' s' G)
  (hr : 1 ≤ r ∧ r ≤ 16) (hc : 1 ≤ c ∧ c ≤ 16) (hr' : 1 ≤ r' ∧ r' ≤ 16) (hc' : 1 ≤ c' ∧ c' ≤ 16) :
  CallsR Tryz.prog 87 #[.slice a r ca, .slice b r' cb] w fun v w' => ∃ t : Bool, v = .bool t ∧ (t = true ↔ r = r' ∧ c = c' ∧ ∀ i j, i < r → j < c → F i j = G i j) ∧ Ex w w' := by
 refine aF (args := [_, _]) Tryz.func87 rfl rfl ?_
 repeat' (first|refine ai rfl ?_|refine aa ?_|refine aj ?_|refine ah rfl ?_|refine ae ?_)
 refine aw (dm hA.top) rfl ?_
 rintro v w1 ⟨rfl, hE1⟩
 refine ⟨fun _ _ => trivial, ?_⟩
 rw [cz hA hr hc]
 repeat' (first|refine ai rfl ?_|refine aa ?_|refine aj ?_|refine ah rfl ?_|refine ae ?_)
 refine aw (dm (hB.ext hE1).top) rfl ?_
 rintro v w2 ⟨rfl, hE2⟩
 refine ⟨fun _ _ => trivial, ?_⟩
 rw [cz hB hr' hc']
 have hE := hE1.trans hE2
 by_cases hs : r = r' ∧ c = c'
 ·obtain ⟨rfl, rfl⟩ := hs
  repeat' (first|refine cN rfl rfl rfl ?_|refine ai rfl ?_|refine aa ?_|refine aj ?_|refine ah rfl ?_|refine ae ?_|refine aZ rfl ?_|refine bz rfl rfl ?_|refine au rfl ?_|refine aA ?_|refine aE ?_)
  refine aY (ι := Nat) [4, 11, 12, 13, 14, 45, 46, 47, 48, 49, 50, 51, 52, 53, 54, 55, 56, 57, 58, 59, 60, 61, 62, 63, 64, 65, 66, 67, 68] (fun i => [(45, .int .i64 (i : Int))])
   (fun i w' => i ≤ r ∧ Ex w w' ∧ ∀ k j, k < i → j < c → F k j = G k j) (fun i => r - i) 0 ⟨rfl, trivial⟩ ⟨by omega, hE, fun k j hk => by omega⟩ ?_
  rintro i ξ w3 ⟨hi, hE3, hI3⟩
  show CW _ _ _ _ (over [(45, .int .i64 (i : Int))] _) w3
  rcases Nat.lt_or_ge i r with hir | hir
  ·obtain ⟨p, d, hh, e1, e2, hp, hS, hEn⟩ := (hA.ext hE3).get hir (by omega)
   obtain ⟨p', d', hh', e1', e2', hp', hS', hEn'⟩ := (hB.ext hE3).get hir (by omega)
   have hpa := hA.plain (by omega)
   have hpb := hB.plain (by omega)
   repeat' (first|refine bu rfl rfl (by omega) ?_|refine aD (j := i) (a := a) rfl rfl hpa (by omega) ?_|refine aV (j := i) (a := a) rfl (hA.ext hE3).top (by omega) e1 ?_|refine ai rfl ?_|refine aa ?_|refine aj ?_|refine ah rfl ?_|refine ae ?_|refine aZ rfl ?_|refine az rfl ?_|refine aA ?_|refine aE ?_)
   refine aY (ι := Nat) [4, 13, 14, 52, 53, 54, 55, 56, 57, 58, 59, 60, 61, 62, 63, 64, 65, 66, 67] (fun j => [(52, .int .i64 (j : Int))])
    (fun j w' => j ≤ c ∧ Ex w3 w' ∧ ∀ k, k < j → F i k = G i k) (fun j => c - j) 0 ⟨rfl, trivial⟩ ⟨by omega, Ex.refl _, fun k hk => by omega⟩ ?_
   rintro j ξ2 w4 ⟨hj, hE4, hI4⟩
   show CW _ _ _ _ (over [(52, .int .i64 (j : Int))] _) w4
   rcases Nat.lt_or_ge j c with hjc | hjc
   ·repeat' (first|refine bu rfl rfl (by omega) ?_|refine aa ?_|refine aj ?_|refine ah rfl ?_|refine ae ?_|refine az rfl ?_|refine aE ?_)
    refine aA ?_
    repeat' (first|refine aT (j := j) rfl rfl hp (by omega) ?_|refine bo (j := j) rfl (hS.ext hE4) hp (by omega) ?_|refine ai rfl ?_|refine aj ?_|refine ah rfl ?_)
    refine aG (fun g5 w5 hn5 => ⟨fun _ _ => trivial, ?_⟩)
    have hb5 : Blk w5 g5 43 (intL false none 0 0) := hn5.blk
    repeat' (first|refine ai rfl ?_)
    refine ax (n := 2) (vs := (hh j).cells) rfl rfl rfl rfl hb5 rfl (fun w6 hc6 hb6 => ⟨fun _ _ => trivial, ?_⟩)
    have s3 := hE4.size
    have l5 := hn5.lo
    have hE36 : Ex w3 w6 := (hE4.trans hn5.ex).chg hc6 (by omega)
    have hE36d := hE36.drew
    repeat' (first|refine aa ?_|refine aj ?_|refine ae ?_)
    refine bi (late := []) (plan := [(0, none), (1, none), (2, none), (3, none), (4, none), (5, none), (6, none), (7, none), (8, some true), (9, none)]) (fun w' => Ex w6 w') bA (by kernel_rfl) (Ex.refl w6).drew ?_
    repeat' (first|refine aR (g := g5) rfl (fun _ h => hb6.ext h) rfl ?_|refine aD (j := i) (a := b) rfl rfl hpb (by omega) ?_|refine aV (j := i) (a := b) rfl (fun _ h => ((hB.ext hE3).ext (hE36.trans h)).top) (by omega) e1' ?_|refine aT (j := j) (a := p') rfl rfl hp' (by omega) ?_|refine bo (j := j) (a := p') rfl (fun _ h => hS'.ext (hE36.trans h)) hp' (by omega) ?_|refine ai rfl ?_)
    refine aw (jk ((hEn j hjc).ext hE36d).k ((hEn' j hjc).ext hE36d).k) rfl ?_
    rintro v w7 ⟨rfl, hE7⟩
    refine ⟨fun _ h => h.trans hE7, ?_⟩
    have hE37 := hE36d.trans hE7
    have hsg : (F i j - G i j).sign = 0 ↔ F i j = G i j := by rw [Int.sign_eq_zero_iff_zero]; omega
    repeat' (first|refine ai rfl ?_|refine aa ?_|refine aj ?_|refine ah rfl ?_|refine ae ?_|refine bc rfl rfl (by omega) (by omega) ?_|refine aO rfl (fun hc => ?_) (fun hc => ?_)|refine aL ?_|refine aI ?_|refine aU ?_|refine bQ ?_|refine aE ?_)
    ·refine bx rfl (rt rfl) ⟨false, rfl, ⟨fun h => (nomatch h), fun h => ?_⟩, hE3.trans hE37⟩
     exact absurd (hsg.2 (h.2.2 i j hir hjc)) (by assumption)
    ·have heq : F i j = G i j := hsg.1 (by omega)
     refine ⟨⟨j + 1, ⟨by omega, hE37, fun k hk => ?_⟩, by omega, rfl, trivial⟩, (by (repeat (first|exact aH _ _ _|refine ay rfl ?_|refine av rfl ?_|refine ak rfl ?_|refine ao rfl ?_)))⟩
     by_cases hkj : k = j
     ·rw [hkj]; exact heq
     ·exact hI4 k (by omega)
   ·have ejc : c = j := by omega
    repeat' (first|refine bj rfl rfl (by omega) ?_|refine ai rfl ?_|refine aa ?_|refine aj ?_|refine ah rfl ?_|refine ae ?_|refine bc rfl rfl (by omega) (by omega) ?_|refine au rfl ?_|refine aP ?_|refine aJ ?_|refine aQ ?_|refine aL ?_)
    refine ⟨⟨i + 1, ⟨by omega, hE3.trans hE4, fun k l hk hl => ?_⟩, by omega, rfl, trivial⟩, (by (repeat (first|exact aH _ _ _|refine ay rfl ?_|refine av rfl ?_|refine ak rfl ?_|refine ao rfl ?_)))⟩
    by_cases hki : k = i
    ·rw [hki]; exact hI4 l (by omega)
    ·exact hI3 k l (by omega) hl
  ·have eir : i = r := by omega
   repeat' (first|refine bj rfl rfl (by omega) ?_|refine ai rfl ?_|refine aa ?_|refine aj ?_|refine ah rfl ?_|refine ae ?_|refine au rfl ?_|refine aP ?_|refine aJ ?_|refine aQ ?_|refine aI ?_)
   refine bx rfl (rt rfl) ⟨true, rfl, ⟨fun _ => ⟨rfl, rfl, fun k l hk hl => hI3 k l (by omega) hl⟩, fun _ => rfl⟩, hE3⟩
 ·repeat' (first|refine ai rfl ?_|refine aa ?_|refine aj ?_|refine ah rfl ?_|refine ae ?_|refine aZ rfl ?_|refine bz rfl rfl ?_|refine bK rfl rfl ?_|refine gW rfl rfl (fun hc => ?_) (fun hc => ?_)|refine az rfl ?_|refine aO rfl (fun hc => ?_) (fun hc => ?_)|refine aA ?_|refine aI ?_|refine aU ?_|refine aE ?_)
  all_goals try (exfalso; omega)
  all_goals exact bx rfl (rt rfl) ⟨false, rfl, ⟨fun h => (nomatch h), fun h => absurd ⟨h.1, h.2.1⟩ hs⟩, hE⟩
end Go.Proofs.YtiejljicpinheaaGreat
namespace Go.Proofs.YtiejljicpinheaaGreat
open Go.W Go.LM Go.LA
theorem jY {n cap : Nat} {w : World} {a : Option Addr} {s : Nat → SD} (hS : Sl w a (topC n s)) (hno : ¬ okS n s) :
  CallsR Tryz.prog 14 #[.slice a n cap] w fun v w' => v = .tuple #[.slice none 0 0, .slice none 0 0, .bool false] ∧ Ex w w' := by
 refine aF (args := [_]) Tryz.func14 rfl rfl ?_
 repeat' (first|refine ai rfl ?_|refine aa ?_|refine aj ?_|refine ah rfl ?_|refine ae ?_)
 refine aw (ef hS) rfl ?_
 rintro v w1 ⟨rfl, hE1⟩
 refine ⟨fun _ _ => trivial, ?_⟩
 rw [dH hno]
 repeat' (first|refine aK rfl rfl ?_|refine ai rfl ?_|refine aa ?_|refine aj ?_|refine ah rfl ?_|refine ae ?_|refine az rfl ?_|refine aI ?_|refine aU ?_)
 exact eo rfl (rt rfl) (rt rfl) (rt rfl) ⟨rfl, hE1⟩
end Go.Proofs.YtiejljicpinheaaGreat
namespace Go.Proofs.YtiejljicpinheaaGreat
open Go.W Go.LM Go.LA
structure AM (K : Nat) (w : World) (a : Option Addr) (n : Nat) (s : Nat → SD) (F : Mat) : Prop where
 top : Sl w a (topC n s)
 row : ∀ i, i < n → RX false K w (s i) (s i).len (F i)
theorem AM.ext {K n : Nat} {w w' : World} {a : Option Addr} {s : Nat → SD} {F : Mat} (h : AM K w a n s F) (e : Ex w w') : AM K w' a n s F := ⟨h.top.ext e, fun i hi => (h.row i hi).ext e⟩
theorem AM.mx {K n : Nat} {w : World} {a : Option Addr} {s : Nat → SD} {F : Mat} (h : AM K w a n s F) (ok : okS n s) : MX false K w a n (s 0).len s F :=
 ⟨h.top, fun i hi => by have := h.row i hi; rwa [ok.2.2.2.2 i hi] at this⟩
theorem MX.am {cn : Bool} {K r c : Nat} {w : World} {a : Option Addr} {s : Nat → SD} {F : Mat} (h : MX cn K w a r c s F) : AM K w a r s F :=
 ⟨h.top, fun i hi => by have := (h.row i hi).weak'; rwa [(h.row i hi).len]⟩
theorem iy {n : Nat} {s : Nat → SD} (h : okS n s) : 1 ≤ n ∧ n ≤ 16 := ⟨h.1, h.2.1⟩
theorem gQ {n : Nat} {s : Nat → SD} (h : okS n s) : 1 ≤ (s 0).len ∧ (s 0).len ≤ 16 := ⟨h.2.2.1, h.2.2.2.1⟩
theorem kP {n cap : Nat} {w : World} {a : Option Addr} {s : Nat → SD} (hS : Sl w a (topC n s)) (hno : ¬ okS n s) :
  CallsR Tryz.prog 21 #[.slice a n cap] w fun v w' => v = .tuple #[.slice none 0 0, .bool false] ∧ Ex w w' := by
 refine aF (args := [_]) Tryz.func21 rfl rfl ?_
 repeat' (first|refine ai rfl ?_|refine aa ?_|refine aj ?_|refine ah rfl ?_|refine ae ?_)
 refine aw (jY hS hno) rfl ?_
 rintro v w1 ⟨rfl, hE1⟩
 refine ⟨fun _ _ => trivial, ?_⟩
 repeat' (first|refine aK rfl rfl ?_|refine ai rfl ?_|refine aa ?_|refine aj ?_|refine ah rfl ?_|refine ae ?_|refine az rfl ?_|refine aI ?_|refine aU ?_)
 exact cA rfl (rt rfl) (rt rfl) ⟨rfl, hE1⟩
end Go.Proofs.YtiejljicpinheaaGreat
namespace Go.LA
theorem HF.inLk {rows cols k : Nat} {H : Mat} {p : Nat → Nat} (h : HF rows cols H k p) (v : Vec) : InL rows cols H v ↔ InL rows k H v := by
 constructor
 ·rintro ⟨x, hx⟩; exact ⟨x, fun r hr => by rw [hx r hr, h.mvk x hr]⟩
 ·rintro ⟨x, hx⟩
  refine ⟨fun j => if j < k then x j else 0, fun r hr => ?_⟩
  rw [h.mvk _ hr, hx r hr]
  exact dq (fun _ _ => rfl) fun j hj => by rw [if_pos hj]
theorem HF.latt {rows cols cols' k k' : Nat} {H H' : Mat} {p p' : Nat → Nat} (h : HF rows cols H k p) (h' : HF rows cols' H' k' p') :
  (∀ v, InL rows cols H v ↔ InL rows cols' H' v) ↔ k = k' ∧ ∀ i j, i < rows → j < k → H i j = H' i j := by
 constructor
 ·intro hL; obtain ⟨h1, _, h3⟩ := h.unique h' hL; exact ⟨h1, fun i j hi hj => h3 j hj i hi⟩
 ·rintro ⟨rfl, he⟩ v
  rw [h.inLk, h'.inLk]
  exact ⟨fun hv => hv.mat he, fun hv => hv.mat fun i j hi hj => (he i j hi hj).symm⟩
end Go.LA
namespace Go.Proofs.YtiejljicpinheaaGreat
open Go.W Go.LM Go.LA
set_option maxHeartbeats 2000000 in
theorem pP {K n n' ca cb : Nat} {w : World} {a b : Option Addr} {s s' : Nat → SD} {A B : Mat} (hA : AM K w a n s A) (hB : AM K w b n' s' B) (hK1 : 1 ≤ K) (hK : 300 * K + 1000 < 4398046511104) :
  CallsR Tryz.prog 46 #[.slice a n ca, .slice b n' cb] w fun v w' => ∃ t : Bool, v = .bool t ∧ (t = true ↔ okS n s ∧ okS n' s' ∧ n = n' ∧ ∀ v, InL n (s 0).len A v ↔ InL n (s' 0).len B v) ∧ Ex w w' := by
 refine aF (args := [_, _]) Tryz.func46 rfl rfl ?_
 repeat' (first|refine ai rfl ?_|refine aa ?_|refine aj ?_|refine ah rfl ?_|refine ae ?_)
 by_cases oka : okS n s
 ·refine aw (gg (hA.mx oka) (iy oka) (gQ oka) hK1 hK) rfl ?_
  rintro v w1 ⟨H, U, k, p, u, rfl, hC, hF, h0, hO, hE1⟩
  refine ⟨fun _ _ => trivial, ?_⟩
  repeat' (first|refine aK rfl rfl ?_|refine ai rfl ?_|refine aa ?_|refine aj ?_|refine ah rfl ?_|refine ae ?_)
  have hB1 := hB.ext hE1
  by_cases okb : okS n' s'
  ·refine aw (gg (hB1.mx okb) (iy okb) (gQ okb) hK1 hK) rfl ?_
   rintro v w2 ⟨H', U', k', p', u', rfl, hC', hF', h0', hO', hE2⟩
   refine ⟨fun _ _ => trivial, ?_⟩
   have hE := hE1.trans hE2
   have hkc := hF.kc
   have hkc' := hF'.kc
   have hca := gQ oka
   have hcb := gQ okb
   by_cases hnn : n = n'
   ·subst hnn
    have hlat : (∀ v, InL n (s 0).len A v ↔ InL n (s' 0).len B v) ↔ k = k' ∧ ∀ i j, i < n → j < k → H i j = H' i j := by
     rw [← hF.latt hF']
     exact ⟨fun h v => by rw [hC.inL, hC'.inL]; exact h v, fun h v => by rw [← hC.inL, ← hC'.inL]; exact h v⟩
    have hr := iy oka
    rcases Nat.eq_zero_or_pos k with hk | hk
    ·obtain rfl := h0 hk
     rcases Nat.eq_zero_or_pos k' with hk' | hk'
     ·obtain rfl := h0' hk'
      repeat' (first|refine aK rfl rfl ?_|refine cN rfl rfl rfl ?_|refine d6 rfl rfl ?_|refine ai rfl ?_|refine aa ?_|refine aj ?_|refine ah rfl ?_|refine ae ?_|refine aZ rfl ?_|refine bz rfl rfl ?_|refine bK rfl rfl ?_|refine az rfl ?_|refine au rfl ?_|refine aI ?_|refine aU ?_|refine aE ?_)
      exact bx rfl (rt rfl) ⟨true, rfl, ⟨fun _ => ⟨oka, okb, rfl, hlat.2 ⟨by omega, fun i j _ hj => by omega⟩⟩, fun _ => rfl⟩, hE⟩
     ·obtain ⟨g', gs', cp', rfl, hM'⟩ := hO' hk'
      repeat' (first|refine aK rfl rfl ?_|refine cN rfl rfl rfl ?_|refine d6 rfl rfl ?_|refine ai rfl ?_|refine aa ?_|refine aj ?_|refine ah rfl ?_|refine ae ?_|refine aZ rfl ?_|refine bz rfl rfl ?_|refine bK rfl rfl ?_|refine az rfl ?_|refine au rfl ?_|refine aI ?_|refine aU ?_|refine aE ?_)
      exact bx rfl (rt rfl) ⟨false, rfl, ⟨fun h => (nomatch h), fun h => by have := (hlat.1 h.2.2.2).1; omega⟩, hE⟩
    ·obtain ⟨g, gs, cp, rfl, hM⟩ := hO hk
     rcases Nat.eq_zero_or_pos k' with hk' | hk'
     ·obtain rfl := h0' hk'
      repeat' (first|refine aK rfl rfl ?_|refine cN rfl rfl rfl ?_|refine d6 rfl rfl ?_|refine ai rfl ?_|refine aa ?_|refine aj ?_|refine ah rfl ?_|refine ae ?_|refine aZ rfl ?_|refine bz rfl rfl ?_|refine bK rfl rfl ?_|refine az rfl ?_|refine au rfl ?_|refine aI ?_|refine aU ?_|refine aE ?_)
      exact bx rfl (rt rfl) ⟨false, rfl, ⟨fun h => (nomatch h), fun h => by have := (hlat.1 h.2.2.2).1; omega⟩, hE⟩
     ·obtain ⟨g', gs', cp', rfl, hM'⟩ := hO' hk'
      repeat' (first|refine aK rfl rfl ?_|refine cN rfl rfl rfl ?_|refine d6 rfl rfl ?_|refine ai rfl ?_|refine aa ?_|refine aj ?_|refine ah rfl ?_|refine ae ?_|refine aZ rfl ?_|refine bz rfl rfl ?_|refine au rfl ?_|refine aE ?_)
      refine aw (nw (hM.ext hE2).mx hM'.mx hr ⟨by omega, by omega⟩ hr ⟨by omega, by omega⟩) rfl ?_
      rintro v w3 ⟨t, rfl, ht, hE3⟩
      refine ⟨fun _ _ => trivial, ?_⟩
      repeat' (first|refine ai rfl ?_|refine aa ?_|refine ae ?_|refine aI ?_)
      exact bx rfl (rt rfl) ⟨t, rfl, ht.trans ⟨fun h => ⟨oka, okb, rfl, hlat.2 h.2⟩, fun h => ⟨rfl, hlat.1 h.2.2.2⟩⟩, hE.trans hE3⟩
   ·repeat' (first|refine aK rfl rfl ?_|refine df rfl rfl (by omega) ?_|refine ai rfl ?_|refine aa ?_|refine aj ?_|refine ah rfl ?_|refine ae ?_|refine aZ rfl ?_|refine bz rfl rfl ?_|refine az rfl ?_|refine aI ?_|refine aU ?_)
    exact bx rfl (rt rfl) ⟨false, rfl, ⟨fun h => (nomatch h), fun h => absurd h.2.2.1 hnn⟩, hE⟩
  ·refine aw (kP hB1.top okb) rfl ?_
   rintro v w2 ⟨rfl, hE2⟩
   refine ⟨fun _ _ => trivial, ?_⟩
   repeat' (first|refine aK rfl rfl ?_|refine ai rfl ?_|refine aa ?_|refine aj ?_|refine ah rfl ?_|refine ae ?_|refine bz rfl rfl ?_|refine bK rfl rfl ?_|refine az rfl ?_|refine aI ?_|refine aU ?_)
   exact bx rfl (rt rfl) ⟨false, rfl, ⟨fun h => (nomatch h), fun h => absurd h.2.1 okb⟩, hE1.trans hE2⟩
 ·refine aw (kP hA.top oka) rfl ?_
  rintro v w1 ⟨rfl, hE1⟩
  refine ⟨fun _ _ => trivial, ?_⟩
  repeat' (first|refine aK rfl rfl ?_|refine ai rfl ?_|refine aa ?_|refine aj ?_|refine ah rfl ?_|refine ae ?_)
  have hB1 := hB.ext hE1
  by_cases okb : okS n' s'
  ·refine aw (gg (hB1.mx okb) (iy okb) (gQ okb) hK1 hK) rfl ?_
   rintro v w2 ⟨H', U', k', p', u', rfl, hC', hF', h0', hO', hE2⟩
   refine ⟨fun _ _ => trivial, ?_⟩
   repeat' (first|refine aK rfl rfl ?_|refine ai rfl ?_|refine aa ?_|refine aj ?_|refine ah rfl ?_|refine ae ?_|refine bK rfl rfl ?_|refine az rfl ?_|refine aI ?_|refine aU ?_)
   exact bx rfl (rt rfl) ⟨false, rfl, ⟨fun h => (nomatch h), fun h => absurd h.1 oka⟩, hE1.trans hE2⟩
  ·refine aw (kP hB1.top okb) rfl ?_
   rintro v w2 ⟨rfl, hE2⟩
   refine ⟨fun _ _ => trivial, ?_⟩
   repeat' (first|refine aK rfl rfl ?_|refine ai rfl ?_|refine aa ?_|refine aj ?_|refine ah rfl ?_|refine ae ?_|refine bK rfl rfl ?_|refine az rfl ?_|refine aI ?_|refine aU ?_)
   exact bx rfl (rt rfl) ⟨false, rfl, ⟨fun h => (nomatch h), fun h => absurd h.1 oka⟩, hE1.trans hE2⟩
end Go.Proofs.YtiejljicpinheaaGreat
namespace Go.Proofs.YtiejljicpinheaaGreat
open Go.W Go.LM Go.LA
theorem AC.nil (K : Nat) (w : World) (a : Option Addr) (s : Nat → SD) (F : Mat) : AC K w a 0 s F := ⟨Sl.nil _ _, fun i h => by omega, fun i h => by omega⟩
end Go.Proofs.YtiejljicpinheaaGreat
namespace Go.Proofs.YtiejljicpinheaaGreat
open Go.W Go.LM Go.LA
theorem kU {n cap : Nat} {w : World} {a : Option Addr} {s : Nat → SD} (hS : Sl w a (topC n s)) (hno : ¬ okS n s) :
  CallsR Tryz.prog 15 #[.slice a n cap] w fun v w' => v = .tuple #[.slice none 0 0, .slice none 0 0, .bool false] ∧ Ex w w' := by
 refine aF (args := [_]) Tryz.func15 rfl rfl ?_
 repeat' (first|refine ai rfl ?_|refine aa ?_|refine aj ?_|refine ah rfl ?_|refine ae ?_)
 refine aw (cc hS) rfl ?_
 rintro v w1 ⟨rfl, hE1⟩
 refine ⟨fun _ _ => trivial, ?_⟩
 rw [dH hno]
 repeat' (first|refine aK rfl rfl ?_|refine ai rfl ?_|refine aa ?_|refine aj ?_|refine ah rfl ?_|refine ae ?_|refine az rfl ?_|refine aI ?_|refine aU ?_)
 exact eo rfl (rt rfl) (rt rfl) (rt rfl) ⟨rfl, hE1⟩
end Go.Proofs.YtiejljicpinheaaGreat
namespace Go.Proofs.YtiejljicpinheaaGreat
open Go.W Go.LM Go.LA
set_option maxHeartbeats 2000000 in
theorem fD {cn : Bool} {K r c k cap : Nat} {w : World} {a : Option Addr} {s : Nat → SD} {F : Mat} (hM : MX cn K w a r c s F) (hr : 1 ≤ r ∧ r ≤ 1000) (hk : k < c) :
  CallsR Tryz.prog 66 #[.slice a r cap, .int .i64 (k : Int)] w fun v w' => ∃ p : Nat, v = .int .i64 (p : Int) ∧ p ≤ r ∧ (∀ x, x < p → F x k = 0) ∧ (p < r → F p k ≠ 0) ∧ Ex w w' := by
 have hpt := hM.plain (by omega)
 refine aF (args := [_, _]) Tryz.func66 rfl rfl ?_
 repeat' (first|refine ai rfl ?_|refine aa ?_|refine aj ?_|refine ah rfl ?_|refine ae ?_|refine aZ rfl ?_|refine aA ?_)
 refine aY (ι := Nat) [4, 5, 8, 9, 10, 11, 12, 13, 14, 15, 16, 17, 18, 19, 20, 21] (fun i => [(8, .int .i64 (i : Int))])
  (fun i w' => i ≤ r ∧ Ex w w' ∧ ∀ x, x < i → F x k = 0) (fun i => r - i)
  0 ⟨rfl, trivial⟩ ⟨by omega, Ex.refl _, fun x h => by omega⟩ ?_
 rintro i ξ w2 ⟨hi, hE2, hz⟩
 show CW _ _ _ _ (over [(8, .int .i64 (i : Int))] _) w2
 rcases Nat.lt_or_ge i r with hir | hir
 ·obtain ⟨pa, d, hh, e1, e2, hpp, hS, hEn⟩ := (hM.ext hE2).get hir (by omega)
  repeat' (first|refine bu rfl rfl (by omega) ?_|refine aD (j := i) (a := a) rfl rfl hpt (by omega) ?_|refine aV (j := i) (a := a) (n := r) (s := s) rfl (hM.ext hE2).top (by omega) e1 ?_|refine aT (j := k) (a := pa) rfl rfl hpp (by omega) ?_|refine bo (j := k) (a := pa) rfl hS hpp (by omega) ?_|refine ai rfl ?_|refine aa ?_|refine aj ?_|refine ah rfl ?_|refine ae ?_|refine az rfl ?_|refine aA ?_|refine aE ?_)
  refine aw (cj (hEn k hk).k) rfl ?_
  rintro v w3 ⟨rfl, hE3⟩
  refine ⟨fun _ _ => trivial, ?_⟩
  by_cases h : F i k = 0
  ·repeat' (first|(refine cN rfl rfl (by rw [h]; rfl) ?_)|refine ai rfl ?_|refine aa ?_|refine ah rfl ?_|refine ae ?_|refine bc rfl rfl (by omega) (by omega) ?_|refine au rfl ?_|refine aL ?_|refine aE ?_)
   refine ⟨⟨i + 1, ⟨hir, hE2.trans hE3, fun x hx => ?_⟩, by omega, rfl, trivial⟩, (by (repeat (first|exact aH _ _ _|refine ay rfl ?_|refine av rfl ?_|refine ak rfl ?_|refine ao rfl ?_)))⟩
   by_cases e : x = i
   ·subst e; exact h
   ·exact hz x (by omega)
  ·repeat' (first|refine df rfl rfl (fun e => h (Int.sign_eq_zero_iff_zero.1 e)) ?_|refine ai rfl ?_|refine aa ?_|refine aj ?_|refine ah rfl ?_|refine ae ?_|refine az rfl ?_|refine aI ?_|refine aU ?_|refine bQ ?_)
   exact bx rfl (rt rfl) ⟨i, rfl, hi, hz, fun _ => h, hE2.trans hE3⟩
 ·have eir : r = i := by omega
  subst eir
  repeat' (first|refine bj rfl rfl (by omega) ?_|refine ai rfl ?_|refine aa ?_|refine aj ?_|refine ah rfl ?_|refine ae ?_|refine aZ rfl ?_|refine au rfl ?_|refine aP ?_|refine aJ ?_|refine aQ ?_|refine aI ?_)
  exact bx rfl (rt rfl) ⟨r, rfl, Nat.le_refl _, hz, fun h => by omega, hE2⟩
theorem mF {r c k l p : Nat} {H : Mat} {f : Nat → Nat} (h : HF r c H k f) (hl : l < c) (hp : p ≤ r) (hz : ∀ x, x < p → H x l = 0) (hn : p < r → H p l ≠ 0) : (p < r ↔ l < k) ∧ (p < r → p = f l) := by
 constructor
 ·constructor
  ·intro hpr; exact (h.piv hl hpr hz (hn hpr)).1
  ·intro hlk
   rcases Nat.lt_or_ge p r with h' | h'
   ·exact h'
   ·have := h.pos l hlk; rw [hz _ (by have := h.lt l hlk; omega)] at this; omega
 ·intro hpr; exact (h.piv hl hpr hz (hn hpr)).2.symm
def RetRB (r c s Q : Nat) (A : Mat) (w : World) (v : Value) (w' : World) : Prop :=
 ∃ (H U : Mat) (k : Nat) (p : Nat → Nat) (u : SD), v = .tuple #[.slice u.a u.len u.cap, .bool true] ∧ CEq r c A H U ∧ HF r c H k p ∧ (k = 0 → u = sd0) ∧ (0 < k → ∃ g gs cp, u = ⟨some ⟨g, 0, none⟩, r, r⟩ ∧ MO true (Zb Q s (c + k)) w' w.heap.size g r k gs cp H) ∧ Ex w w'
theorem RetRB.basis {KM r c s Q : Nat} {A : Mat} {w w' : World} {v : Value} (h : RetRB r c s Q A w v w') (hQ : 10 ≤ Q) (hKM : Zb Q s (2 * c + 1) ≤ KM) : RetBasis KM r c A w v w' := by
 obtain ⟨H, U, k, p, u, h1, h2, h3, h4, h5, h6⟩ := h
 refine ⟨H, U, k, p, u, h1, h2, h3, h4, fun h => ?_, h6⟩
 obtain ⟨g, gs, cp, e, hM⟩ := h5 h
 exact ⟨g, gs, cp, e, hM.up (Nat.le_trans (eh hQ (by have := h3.kc; omega)) hKM)⟩
theorem eD {n cap : Nat} {w : World} {a : Option Addr} {s : Nat → SD} (hS : Sl w a (topC n s)) (hno : ¬ okS n s) :
  CallsR Tryz.prog 22 #[.slice a n cap] w fun v w' => v = .tuple #[.slice none 0 0, .bool false] ∧ Ex w w' := by
 refine aF (args := [_]) Tryz.func22 rfl rfl ?_
 repeat' (first|refine ai rfl ?_|refine aa ?_|refine aj ?_|refine ah rfl ?_|refine ae ?_)
 refine aw (kU hS hno) rfl ?_
 rintro v w1 ⟨rfl, hE1⟩
 refine ⟨fun _ _ => trivial, ?_⟩
 repeat' (first|refine aK rfl rfl ?_|refine ai rfl ?_|refine aa ?_|refine aj ?_|refine ah rfl ?_|refine ae ?_|refine az rfl ?_|refine aI ?_|refine aU ?_)
 exact cA rfl (rt rfl) (rt rfl) ⟨rfl, hE1⟩
set_option maxHeartbeats 4000000 in
theorem cV {cn : Bool} {K KM r c cap s Q : Nat} {w : World} {a : Option Addr} {sh : Nat → SD} {A : Mat} (hM : MX cn K w a r c sh A) (hr : 1 ≤ r ∧ r ≤ 16) (hc : 1 ≤ c ∧ c ≤ 16) (hA : ∀ l, l < c → ∀ i, i < r → Lb (Zb Q s l) (A i l)) (hQ : 10 ≤ Q) (hKM : Zb Q s (2 * c + 1) ≤ KM) (hK : 2 * KM < 17592186044415) :
  CallsR Tryz.prog 22 #[.slice a r cap] w (RetRB r c s Q A w) := by
 refine aF (args := [_]) Tryz.func22 rfl rfl ?_
 repeat' (first|refine ai rfl ?_|refine aa ?_|refine aj ?_|refine ah rfl ?_|refine ae ?_)
 refine aw (gi hM hr hc hA hQ hKM hK) rfl ?_
 rintro v w1 ⟨g, g', gs, cp, gs', cp', H, U, k, p, rfl, hF, _, _, hdn, hE1⟩
 refine ⟨fun _ _ => trivial, ?_⟩
 have hHF := hF.hf
 have hkc := hHF.kc
 repeat' (first|refine aK rfl rfl ?_|refine ai rfl ?_|refine aa ?_|refine aj ?_|refine ah rfl ?_|refine ae ?_|refine au rfl ?_|refine aE ?_)
 refine ct (ι := Unit) [7, 17, 18, 19, 20, 21, 22, 23, 24, 25, 26, 27, 28, 29, 30, 31, 32] (fun _ => [(7, .int .i64 (k : Int))]) (fun _ w' => Ex w1 w') ?_ ?_
 ·refine aA ?_
  refine aY (ι := Nat) [7, 17, 18, 19, 20, 21, 22, 23, 24, 25, 26, 27, 28, 29, 30, 31, 32] (fun l => [(7, .int .i64 (l : Int))])
   (fun l w' => l ≤ k ∧ Ex w1 w') (fun l => k - l)
   0 ⟨rfl, trivial⟩ ⟨by omega, Ex.refl _⟩ ?_
  rintro l ξ w2 ⟨hl, hE2⟩
  show CW _ _ _ _ (over [(7, .int .i64 (l : Int))] _) w2
  have hO2 := hF.h.ext hE2
  rcases Nat.lt_or_ge l c with hlc | hlc
  ·repeat' (first|refine aD (j := 0) (a := some ⟨g, 0, none⟩) rfl rfl ⟨_, _, rfl⟩ (by omega) ?_|refine aV (j := 0) (a := some ⟨g, 0, none⟩) (n := r) (s := fun k => ⟨some ⟨gs k, 0, none⟩, c, cp k⟩) rfl hO2.top.sl (by omega) rfl ?_|refine bu rfl rfl (by omega) ?_|refine ai rfl ?_|refine aj ?_|refine ah rfl ?_|refine aZ rfl ?_|refine bz rfl rfl ?_)
   refine aw (fD hO2.mx ⟨hr.1, by omega⟩ hlc) rfl ?_
   rintro v w3 ⟨q, rfl, hq, hz, hn, hE3⟩
   refine ⟨fun _ _ => trivial, ?_⟩
   obtain ⟨t1, _⟩ := mF hHF hlc hq hz hn
   rcases Nat.lt_or_ge l k with hlk | hlk
   ·have hqr := t1.2 hlk
    repeat' (first|refine bu rfl rfl (by omega) ?_|refine ai rfl ?_|refine aa ?_|refine ah rfl ?_|refine ae ?_|refine aZ rfl ?_|refine bz rfl rfl ?_|refine bc rfl rfl (by omega) (by omega) ?_|refine az rfl ?_|refine aA ?_|refine aL ?_|refine aE ?_)
    exact ⟨⟨l + 1, ⟨hlk, hE2.trans hE3⟩, by omega, rfl, trivial⟩, (by (repeat (first|exact aH _ _ _|refine ay rfl ?_|refine av rfl ?_|refine ak rfl ?_|refine ao rfl ?_)))⟩
   ·have elk : l = k := by omega
    subst elk
    have hqr : ¬ q < r := fun h => by have := t1.1 h; omega
    repeat' (first|refine bj rfl rfl (by omega) ?_|refine ai rfl ?_|refine aa ?_|refine ae ?_|refine aZ rfl ?_|refine bz rfl rfl ?_|refine au rfl ?_|refine aP ?_|refine aJ ?_|refine aQ ?_)
    exact ⟨⟨(), hE2.trans hE3, rfl, trivial⟩, (by (repeat (first|exact aM _ _|refine ay rfl ?_|refine av rfl ?_|refine ak rfl ?_|refine ao rfl ?_)))⟩
  ·have elk : l = k := by omega
   subst elk
   repeat' (first|refine aD (j := 0) (a := some ⟨g, 0, none⟩) rfl rfl ⟨_, _, rfl⟩ (by omega) ?_|refine aV (j := 0) (a := some ⟨g, 0, none⟩) (n := r) (s := fun k => ⟨some ⟨gs k, 0, none⟩, c, cp k⟩) rfl hO2.top.sl (by omega) rfl ?_|refine bj rfl rfl (by omega) ?_|refine ai rfl ?_|refine aa ?_|refine aj ?_|refine ah rfl ?_|refine ae ?_|refine aZ rfl ?_|refine bK rfl rfl ?_|refine au rfl ?_|refine aP ?_|refine aJ ?_|refine aQ ?_)
   exact ⟨⟨(), hE2, rfl, trivial⟩, (by (repeat (first|exact aM _ _|refine ay rfl ?_|refine av rfl ?_|refine ak rfl ?_|refine ao rfl ?_)))⟩
 ·rintro ⟨⟩ ξ w2 hE2
  show CW _ _ _ _ (over [(7, .int .i64 (k : Int))] _) w2
  have hE02 := hE1.trans hE2
  by_cases hk : k = 0
  ·repeat' (first|refine eF rfl rfl (by omega) ?_|refine ai rfl ?_|refine aa ?_|refine aj ?_|refine ah rfl ?_|refine ae ?_|refine az rfl ?_|refine aI ?_|refine aU ?_)
   exact cA rfl (rt rfl) (rt rfl) ⟨H, U, k, p, sd0, rfl, hF.ceq, hHF, fun _ => rfl, fun h => by omega, hE02⟩
  ·repeat' (first|refine dU rfl rfl (by omega) ?_|refine ai rfl ?_|refine aa ?_|refine aj ?_|refine ah rfl ?_|refine ae ?_|refine aZ rfl ?_|refine au rfl ?_|refine aA ?_|refine aE ?_)
   have hO2 := hF.h.ext hE2
   have s1 := hE1.size
   have glo := hF.h.low
   refine aY (ι := Nat) [8, 37, 38, 39, 40, 41, 42, 43, 44, 45, 46, 47, 48, 49] (fun t => [(37, .int .i64 (t : Int))])
    (fun t w' => (t ≤ r ∧ Ex w w' ∧ w2.grownBy w' (some g)) ∧ Blk w' g 31 (topC r fun i => if i < t then ⟨some ⟨gs i, 0, none⟩, k, cp i⟩ else ⟨some ⟨gs i, 0, none⟩, c, cp i⟩)) (fun t => r - t)
    0 ⟨rfl, trivial⟩ ⟨⟨by omega, hE02, lL (Ex.refl _)⟩, hO2.top⟩ ?_
   rintro t ξ2 w3 ⟨⟨ht, hE3, hG3⟩, hT3⟩
   show CW _ _ _ _ (over [(37, .int .i64 (t : Int))] _) w3
   rcases Nat.lt_or_ge t r with htr | htr
   ·have hcp := (hF.h.row t htr).le
    repeat' (first|refine bu rfl rfl (by omega) ?_|refine aD (j := t) (a := some ⟨g, 0, none⟩) rfl rfl ⟨_, _, rfl⟩ (by omega) ?_|refine aV (j := t) (a := some ⟨g, 0, none⟩) (n := r) (a1 := some ⟨gs t, 0, none⟩) (l1 := c) (c1 := cp t) rfl hT3.sl (by omega) (if_neg (by omega)) ?_|refine fO rfl rfl (by omega) (by omega) ?_|refine ai rfl ?_|refine aa ?_|refine aj ?_|refine ah rfl ?_|refine ae ?_|refine az rfl ?_|refine aA ?_|refine aE ?_)
    refine ch (j := t) (u := ⟨some ⟨gs t, 0, none⟩, k, cp t⟩) rfl rfl hT3 (by omega) (fun w4 hc4 hT4 => ⟨fun _ _ => trivial, ?_⟩)
    repeat' (first|refine ai rfl ?_|refine aa ?_|refine ah rfl ?_|refine ae ?_|refine bc rfl rfl (by omega) (by omega) ?_|refine aL ?_)
    refine ⟨⟨t + 1, ⟨⟨htr, hE3.chg hc4 glo, bJ hG3 (bw hc4) (fun k e => .inl e)⟩, ?_⟩, by omega, rfl, trivial⟩, (by (repeat (first|exact aH _ _ _|refine ay rfl ?_|refine av rfl ?_|refine ak rfl ?_|refine ao rfl ?_)))⟩
    rw [bY (s' := setF (fun i => if i < t then (⟨some ⟨gs i, 0, none⟩, k, cp i⟩ : SD) else ⟨some ⟨gs i, 0, none⟩, c, cp i⟩) t ⟨some ⟨gs t, 0, none⟩, k, cp t⟩) (fun i _ => ?_)]
    ·exact hT4
    ·by_cases e : i = t
     ·subst e; rw [aS, if_pos (Nat.lt_succ_self _)]
     ·rw [aX _ _ e]
      by_cases h : i < t
      ·rw [if_pos h, if_pos (by omega)]
      ·rw [if_neg h, if_neg (by omega)]
   ·have etr : r = t := by omega
    subst etr
    repeat' (first|refine bj rfl rfl (by omega) ?_|refine ai rfl ?_|refine aa ?_|refine aj ?_|refine ah rfl ?_|refine ae ?_|refine au rfl ?_|refine aP ?_|refine aJ ?_|refine aQ ?_|refine aI ?_)
    refine cA rfl (rt rfl) (rt rfl) ⟨H, U, k, p, ⟨some ⟨g, 0, none⟩, r, r⟩, rfl, hF.ceq, hHF, fun h => absurd h hk, fun _ => ⟨g, gs, cp, rfl, hF.h.low, ?_, fun i hi => ?_, hF.h.off, hF.h.inj⟩, hE3⟩
    ·rw [bY (s' := fun i => if i < r then (⟨some ⟨gs i, 0, none⟩, k, cp i⟩ : SD) else ⟨some ⟨gs i, 0, none⟩, c, cp i⟩) (fun i hi => by rw [if_pos hi])]
     exact hT3
    ·obtain ⟨hh, hb, hEn⟩ := ((hO2.row i hi).gbN hO2.top (bW _ _) hG3 (hO2.off i hi)).ex
     exact ⟨(hO2.row i hi).low, Nat.le_trans hkc (hO2.row i hi).le, hh, hb, fun j hj => (hEn j (by omega)).sharp (hdn j hj i hi)⟩
end Go.Proofs.YtiejljicpinheaaGreat
namespace Go.Proofs.YtiejljicpinheaaGreat
open Go.W Go.LM Go.LA
theorem rB {K r c k : Nat} {w : World} {u : SD} {H : Mat} (hr : 1 ≤ r ∧ r ≤ 16) (hk : k ≤ c) (hc : c ≤ 16) (h0 : k = 0 → u = sd0) (hO : 0 < k → ∃ g gs cp, u = ⟨some ⟨g, 0, none⟩, r, r⟩ ∧ MO true K w 0 g r k gs cp H) :
  ∃ s : Nat → SD, AC K w u.a u.len s H ∧ u.len ≤ 16 ∧ (k = 0 → u.len = 0) ∧ (0 < k → u.len = r ∧ ∀ i, i < r → (s i).len = k) := by
 rcases Nat.eq_zero_or_pos k with h | h
 ·have := h0 h
  subst this
  exact ⟨fun _ => sd0, AC.nil _ _ _ _ _, Nat.zero_le _, fun _ => rfl, fun h' => by omega⟩
 ·obtain ⟨g, gs, cp, rfl, hM⟩ := hO h
  exact ⟨_, hM.mx.ac (by omega), hr.2, fun h' => by omega, fun _ => ⟨rfl, fun i _ => rfl⟩⟩
theorem RetBasis.ac {K r c : Nat} {A : Mat} {w w' : World} {v : Value} (h : RetBasis K r c A w v w') (hr : 1 ≤ r ∧ r ≤ 16) (hc : c ≤ 16) :
  ∃ (H U : Mat) (k : Nat) (p : Nat → Nat) (u : SD) (s : Nat → SD), v = .tuple #[.slice u.a u.len u.cap, .bool true] ∧ CEq r c A H U ∧ HF r c H k p ∧ AC K w' u.a u.len s H ∧ u.len ≤ 16 ∧ (k = 0 → u.len = 0) ∧ (0 < k → u.len = r ∧ ∀ i, i < r → (s i).len = k) ∧ Ex w w' := by
 obtain ⟨H, U, k, p, u, rfl, hC, hF, h0, hO, hE⟩ := h
 obtain ⟨s, h1, h2, h3, h4⟩ := rB (K := K) (w := w') hr hF.kc hc h0 (fun h => by obtain ⟨g, gs, cp, e, hM⟩ := hO h; exact ⟨g, gs, cp, e, hM.mono (Nat.zero_le _)⟩)
 exact ⟨H, U, k, p, u, s, rfl, hC, hF, h1, h2, h3, h4, hE⟩
theorem pU {r c c' k k' n n' : Nat} {H H' : Mat} {p p' : Nat → Nat} {s s' : Nat → SD} (hF : HF r c H k p) (hF' : HF r c' H' k' p') (hr : 1 ≤ r) (h3 : k = 0 → n = 0) (h4 : 0 < k → n = r ∧ ∀ i, i < r → (s i).len = k) (h3' : k' = 0 → n' = 0) (h4' : 0 < k' → n' = r ∧ ∀ i, i < r → (s' i).len = k') :
  (n = n' ∧ ∀ i, i < n → (s i).len = (s' i).len ∧ ∀ j, j < (s i).len → H i j = H' i j) ↔ ∀ v, InL r c H v ↔ InL r c' H' v := by
 rw [hF.latt hF']
 rcases Nat.eq_zero_or_pos k with hk | hk
 ·rcases Nat.eq_zero_or_pos k' with hk' | hk'
  ·have e1 := h3 hk
   have e2 := h3' hk'
   exact ⟨fun _ => ⟨by omega, fun i j _ hj => by omega⟩, fun _ => ⟨by omega, fun i hi => by omega⟩⟩
  ·have e1 := h3 hk
   obtain ⟨e2, _⟩ := h4' hk'
   exact ⟨fun h => by omega, fun h => by omega⟩
 ·obtain ⟨e1, l1⟩ := h4 hk
  rcases Nat.eq_zero_or_pos k' with hk' | hk'
  ·have e2 := h3' hk'
   exact ⟨fun h => by omega, fun h => by omega⟩
  ·obtain ⟨e2, l2⟩ := h4' hk'
   constructor
   ·rintro ⟨_, h⟩
    refine ⟨?_, fun i j hi hj => (h i (by omega)).2 j (by rw [l1 i hi]; exact hj)⟩
    have := (h 0 (by omega)).1
    rw [l1 0 (by omega), l2 0 (by omega)] at this; exact this
   ·rintro ⟨hkk, h⟩
    exact ⟨by omega, fun i hi => ⟨by rw [l1 i (by omega), l2 i (by omega)]; exact hkk, fun j hj => h i j (by omega) (by rw [l1 i (by omega)] at hj; exact hj)⟩⟩
set_option maxHeartbeats 2000000 in
theorem nM {K KM n n' ca cb Q sh : Nat} {w : World} {a b : Option Addr} {s s' : Nat → SD} {A B : Mat} (hA : AM K w a n s A) (hB : AM K w b n' s' B) (hQ : 10 ≤ Q) (hKM : ∀ c, c ≤ 16 → Zb Q sh (2 * c + 1) ≤ KM) (hK : 2 * KM < 17592186044415)
  (hsA : okS n s → ∀ l, l < (s 0).len → ∀ i, i < n → Lb (Zb Q sh l) (A i l)) (hsB : okS n' s' → ∀ l, l < (s' 0).len → ∀ i, i < n' → Lb (Zb Q sh l) (B i l)) :
  CallsR Tryz.prog 47 #[.slice a n ca, .slice b n' cb] w fun v w' => ∃ t : Bool, v = .bool t ∧ (t = true ↔ okS n s ∧ okS n' s' ∧ n = n' ∧ ∀ v, InL n (s 0).len A v ↔ InL n (s' 0).len B v) ∧ Ex w w' := by
 refine aF (args := [_, _]) Tryz.func47 rfl rfl ?_
 repeat' (first|refine ai rfl ?_|refine aa ?_|refine aj ?_|refine ah rfl ?_|refine ae ?_)
 by_cases oka : okS n s
 ·have hra := iy oka
  have hca := gQ oka
  refine aw (cV (hA.mx oka) hra hca (hsA oka) hQ (hKM _ hca.2) hK) rfl ?_
  intro v w1 hv
  obtain ⟨H, U, k, p, u, S, rfl, hC, hF, hAC, hul, h3, h4, hE1⟩ := (hv.basis hQ (hKM _ hca.2)).ac hra hca.2
  refine ⟨fun _ _ => trivial, ?_⟩
  repeat' (first|refine aK rfl rfl ?_|refine ai rfl ?_|refine aa ?_|refine aj ?_|refine ah rfl ?_|refine ae ?_)
  have hB1 := hB.ext hE1
  by_cases okb : okS n' s'
  ·have hrb := iy okb
   have hcb := gQ okb
   refine aw (cV (hB1.mx okb) hrb hcb (hsB okb) hQ (hKM _ hcb.2) hK) rfl ?_
   intro v w2 hv'
   obtain ⟨H', U', k', p', u', S', rfl, hC', hF', hAC', hul', h3', h4', hE2⟩ := (hv'.basis hQ (hKM _ hcb.2)).ac hrb hcb.2
   refine ⟨fun _ _ => trivial, ?_⟩
   have hE := hE1.trans hE2
   by_cases hnn : n = n'
   ·subst hnn
    have hlat := pU hF hF' hra.1 h3 h4 h3' h4'
    repeat' (first|refine aK rfl rfl ?_|refine eF rfl rfl rfl ?_|refine ai rfl ?_|refine aa ?_|refine aj ?_|refine ah rfl ?_|refine ae ?_|refine aZ rfl ?_|refine bz rfl rfl ?_)
    refine aw (dK (hAC.ext hE2) hAC' (by omega)) rfl ?_
    rintro v w3 ⟨t, rfl, ht, hE3⟩
    refine ⟨fun _ _ => trivial, ?_⟩
    repeat' (first|refine ai rfl ?_|refine aa ?_|refine ae ?_|refine aI ?_)
    refine bx rfl (rt rfl) ⟨t, rfl, ht.trans (hlat.trans ⟨fun h => ⟨oka, okb, rfl, fun v => by rw [← hC.inL, ← hC'.inL]; exact h v⟩, fun h v => by rw [hC.inL, hC'.inL]; exact h.2.2.2 v⟩), hE.trans hE3⟩
   ·repeat' (first|refine aK rfl rfl ?_|refine dU rfl rfl (by omega) ?_|refine ai rfl ?_|refine aa ?_|refine aj ?_|refine ah rfl ?_|refine ae ?_|refine aZ rfl ?_|refine bz rfl rfl ?_|refine bK rfl rfl ?_|refine aI ?_)
    exact bx rfl (rt rfl) ⟨false, rfl, ⟨fun h => (nomatch h), fun h => absurd h.2.2.1 hnn⟩, hE⟩
  ·refine aw (eD hB1.top okb) rfl ?_
   rintro v w2 ⟨rfl, hE2⟩
   refine ⟨fun _ _ => trivial, ?_⟩
   repeat' (first|refine aK rfl rfl ?_|refine ai rfl ?_|refine aa ?_|refine aj ?_|refine ah rfl ?_|refine ae ?_|refine bz rfl rfl ?_|refine bK rfl rfl ?_|refine aI ?_)
   exact bx rfl (rt rfl) ⟨false, rfl, ⟨fun h => (nomatch h), fun h => absurd h.2.1 okb⟩, hE1.trans hE2⟩
 ·refine aw (eD hA.top oka) rfl ?_
  rintro v w1 ⟨rfl, hE1⟩
  refine ⟨fun _ _ => trivial, ?_⟩
  repeat' (first|refine aK rfl rfl ?_|refine ai rfl ?_|refine aa ?_|refine aj ?_|refine ah rfl ?_|refine ae ?_)
  have hB1 := hB.ext hE1
  by_cases okb : okS n' s'
  ·have hrb := iy okb
   have hcb := gQ okb
   refine aw (cV (hB1.mx okb) hrb hcb (hsB okb) hQ (hKM _ hcb.2) hK) rfl ?_
   rintro v w2 ⟨H', U', k', p', u', rfl, hC', hF', h0', hO', hE2⟩
   refine ⟨fun _ _ => trivial, ?_⟩
   repeat' (first|refine aK rfl rfl ?_|refine ai rfl ?_|refine aa ?_|refine aj ?_|refine ah rfl ?_|refine ae ?_|refine bK rfl rfl ?_|refine aI ?_)
   exact bx rfl (rt rfl) ⟨false, rfl, ⟨fun h => (nomatch h), fun h => absurd h.1 oka⟩, hE1.trans hE2⟩
  ·refine aw (eD hB1.top okb) rfl ?_
   rintro v w2 ⟨rfl, hE2⟩
   refine ⟨fun _ _ => trivial, ?_⟩
   repeat' (first|refine aK rfl rfl ?_|refine ai rfl ?_|refine aa ?_|refine aj ?_|refine ah rfl ?_|refine ae ?_|refine bK rfl rfl ?_|refine aI ?_)
   exact bx rfl (rt rfl) ⟨false, rfl, ⟨fun h => (nomatch h), fun h => absurd h.1 oka⟩, hE1.trans hE2⟩
end Go.Proofs.YtiejljicpinheaaGreat
namespace Go.Proofs.YtiejljicpinheaaGreat
open Go.W Go.LM Go.LA Go.PM
section
variable {P : Program} {S : World → Prop} {ops : List Oper} {K : Env → World → Prop} {rest : List (Oper × Option Bool)} {ρ : Env} {w : World} {kf : Bool} {d : Nat} {T : TypeId} {pos : String} {af : Array Edge}
end
theorem MIO.ext {w w' : World} {lo g r c : Nat} {gs : Nat → Nat} {F : Mat} (h : MIO w lo g r c gs F) (e : Ex w w') : MIO w' lo g r c gs F := ⟨h.low, h.top.ext e, fun i hi => ⟨(h.row i hi).1, (h.row i hi).2.ext e⟩, h.off, h.inj⟩
end Go.Proofs.YtiejljicpinheaaGreat
namespace Go.Proofs.YtiejljicpinheaaGreat
open Go.W Go.LM Go.LA Go.PM
theorem tV {rows cols : Int} {L : List Int} {la : Option Addr} {most : Nat} {w : World} (hL : Sl w la (int8L L)) (hI : I8 L) (h1 : 0 ≤ rows ∧ rows ≤ 255) (h2 : 0 ≤ cols ∧ cols ≤ 255) (hm : 1 ≤ most ∧ most ≤ 16) (lc : Nat) :
  ∃ (r c : Nat) (A : Mat), (1 ≤ r ∧ r ≤ most) ∧ (1 ≤ c ∧ c ≤ most) ∧ ∀ w', Ex w w' → CallsR Tryz.prog 13 #[.agg (gridL rows cols la L.length lc).toArray, .int .i64 (most : Int)] w' (RetMO 2 w' r c A) :=
 ⟨gd rows most, gd cols most, gridF L _, iA hm.1, iA hm.1, fun _w' e => gT (hL.ext e) hI h1 h2 hm⟩
end Go.Proofs.YtiejljicpinheaaGreat
namespace Go.W
open Go.ChangeShapes Go.WideShapes Go.ChangeAt Go.RowKit
section
variable {H : Type} {enc : TypeId × Value → H} {P : Program} {W W' : World}
theorem uJ {t e : TypeId} {k : IntKind} {v : Value} {d : DataW H} {ps : List MemPlace} {r : Reach} {b0 : Nat} (ht : P.underlying t = some (.slice e)) (he : P.underlying e = some (.int k)) (hc : P.cellsOf e = 1)
  (hval : Value.okWide P W r b0 t v) (h : DataW.Trod enc P W 0 (fun _ => true) true t v d ps) :
  ∃ (a : Option Addr) (xs : List Int) (c : Nat), v = .slice a xs.length c ∧ Sl W a (xs.map (Value.int k)) ∧ (∀ x ∈ xs, (Lit.int k x).wf = true) ∧ xs.length ≤ c ∧ c ≤ 9223372036854775807 := by
 obtain ⟨a0, len, cap, rfl⟩ := okWide_slice ht hval
 obtain ⟨fuel, hf⟩ := h
 rcases open_ints ht he hc hf with ⟨hcs, hx⟩ | ⟨a, len', cap', zs, hcs, _, hl, hm, hz, hx, hcell, hwz⟩
 ·simp [Value.cells] at hcs
  obtain ⟨rfl, rfl, rfl⟩ := hcs
  exact ⟨none, [], 0, rfl, Sl.nil _ _, by simp, by simp, by decide⟩
 ·simp [Value.cells] at hcs
  obtain ⟨rfl, rfl, rfl⟩ := hcs
  simp only [if_true] at hz
  have hlen : (zs.take len).length = len := by simp; omega
  refine ⟨some a, zs.take len, cap, by rw [hlen], ⟨fun hne => ?_, fun j hj => ?_⟩, fun x hx => hwz x (List.mem_of_mem_take hx), by rw [hlen]; exact hl, by unfold maxLen at hm; omega⟩
  ·have h0 : 0 < zs.length := by
    rcases Nat.eq_zero_or_pos zs.length with h | h
    ·exact absurd (by rw [List.eq_nil_of_length_eq_zero h]; simp) hne
    ·exact h
   obtain ⟨b, off, spot⟩ := a
   have hspot : spot = none := by simpa [Addr.add] using World.cell?_spot (hcell 0 h0)
   subst hspot
   exact ⟨b, off, rfl⟩
  ·simp only [List.length_map, hlen] at hj
   have h0 : j < zs.length := by omega
   obtain ⟨b, off, spot⟩ := a
   have hspot : spot = none := by simpa [Addr.add] using World.cell?_spot (hcell 0 (by omega))
   subst hspot
   have := hcell j h0
   have e : (⟨b, off, none⟩ : Addr).add j = ⟨b, off + j, none⟩ := by unfold Addr.add; split <;> simp_all
   rw [e] at this
   simp only [elt]
   rw [this]
   simp [List.getD_eq_getElem?_getD, h0, hj]
end
end Go.W
namespace Go.Proofs.YtiejljicpinheaaGreat
end Go.Proofs.YtiejljicpinheaaGreat
