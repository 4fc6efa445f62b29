import Derived.Test.YtiejljicpinheaaGreatA29
namespace Go.W
open Go.RowKit (Below)
section
variable {P : Program} {w : World}
end
section
variable {P : Program} {S : World → Prop} {ops : List Oper} {K : Env → World → Prop} {rest : List (Oper × Option Bool)} {ρ : Env} {w : World} {b : Option Bool} {kf : Bool} {d : Nat} {T T' : TypeId} {pos : String} {af : Array Edge}
theorem tj {x : Operand} {a : Addr} (hx : ev ρ x = .pointer (some a)) (h : RR P S ops K rest (upd ρ d (.pointer (some a))) w) :
  RR P S ops K ((⟨some d, .nilCheck x, T, pos, af, none⟩, b) :: rest) ρ w :=
 cd rfl (fun _ => by simp [execOp, hx]) h
section
variable {x y : Operand} {k : IntKind} {m m' : Int} {T'' : TypeId}
end
section
variable {x y : Operand} {m m' : Int} {T'' : TypeId}
variable {k : IntKind}
theorem vP (hx : ev ρ x = .int k m) (hy : ev ρ y = .int k m') (h2 : m' ≠ 0)
  (h : RR P S ops K rest (upd ρ d (.int k (m.tmod m'))) w) : RR P S ops K ((⟨some d, .binOp .rem T' x y T'', T, pos, af, none⟩, b) :: rest) ρ w :=
 eE hx hy (by simp [binOp, Op.intDiv, h2]) h
end
end
end Go.W
namespace Go.Proofs.YtiejljicpinheaaGreat
open Go.W
instance c20 : Fun Tryz.prog 20 := ⟨by kernel_rfl⟩
instance c22 : Fun Tryz.prog 22 := ⟨by kernel_rfl⟩
instance c36 : Fun Tryz.prog 36 := ⟨by kernel_rfl⟩
instance c37 : Fun Tryz.prog 37 := ⟨by kernel_rfl⟩
instance c40 : Fun Tryz.prog 40 := ⟨by kernel_rfl⟩
instance c66 : Fun Tryz.prog 66 := ⟨by kernel_rfl⟩
instance c77 : Fun Tryz.prog 77 := ⟨by kernel_rfl⟩
instance c78 : Fun Tryz.prog 78 := ⟨by kernel_rfl⟩
end Go.Proofs.YtiejljicpinheaaGreat
namespace Go.LA
theorem HF.diag {rows cols k : Nat} {H : Mat} {p : Nat → Nat} (hF : HF rows cols H k p) : k ≤ rows ∧ (k = rows → ∀ c, c < rows → p c = c) := by
 have hge : ∀ c, c < k → c ≤ p c := by
  intro c
  induction c with
  | zero => intro _; exact Nat.zero_le _
  | succ c ih => intro hc; have := ih (by omega); have := hF.mono c (c + 1) (by omega) hc; omega
 have hkr : k ≤ rows := by
  rcases Nat.eq_zero_or_pos k with h | h
  ·omega
  ·have h1 := hge (k - 1) (by omega); have h2 := hF.lt (k - 1) (by omega); omega
 refine ⟨hkr, fun e => ?_⟩
 subst e
 have hle : ∀ d c, c + d + 1 = k → p c ≤ c := by
  intro d
  induction d with
  | zero => intro c hc; have := hF.lt c (by omega); omega
  | succ d ih => intro c hc; have := ih (c + 1) (by omega); have := hF.mono c (c + 1) (by omega) (by omega); omega
 exact fun c hc => Nat.le_antisymm (hle (k - 1 - c) c (by omega)) (hge c hc)
end Go.LA
namespace Go.LA
theorem Uni.ceq {n : Nat} {F : Mat} (h : Uni n F) : CEq n n idM F F := ⟨h, fun i j hi _ => (mR F i j hi).symm⟩
end Go.LA
namespace Go.PM
end Go.PM
namespace Go.PM
end Go.PM
namespace Go.PM
theorem vX {L : List Int} {k : Nat} (h : k ≤ L.length) : tAt L k ≤ L.length := by unfold tAt; split <;> omega
end Go.PM
namespace Go.Proofs.YtiejljicpinheaaGreat
open Go.W Go.PM
theorem tA {L : List Int} {k g lc : Nat} {la : Option Addr} {w : World} (hb : Blk w g 39 (tapeL la L.length lc k)) (hL : Sl w la (int8L L)) (hr : I8 L) (hne : 0 < L.length → ∀ ad, la = some ad → ad.block ≠ g)
  (hk : k ≤ L.length) (n : Int) (hn : 0 < n) : CallsR Tryz.prog 77 #[.pointer (some ⟨g, 0, none⟩), .int .i64 n] w fun v w' =>
   v = .int .i64 (L.getD k 0 % 256 % n) ∧ Chg g w w' ∧ Blk w' g 39 (tapeL la L.length lc (tAt L k)) := by
 have hx := hr.getD k
 refine aF (args := [_, _]) Tryz.func77 rfl rfl ?_
 repeat' (first|refine ai rfl ?_|refine aa ?_|refine aj ?_|refine ah rfl ?_|refine ae ?_)
 refine aw (lh hb hL hr hne hk) rfl ?_
 rintro v w1 ⟨rfl, hc1, hb1⟩
 refine ⟨fun _ _ => trivial, ?_⟩
 refine il rfl ?_
 rw [show IntKind.u8.wrap (L.getD k 0) = L.getD k 0 % 256 from cK rfl]
 repeat' (first|refine dE rfl (dy (by omega) (by omega)) ?_|refine iC rfl rfl (by omega) (by omega) ?_|refine ai rfl ?_|refine aa ?_|refine ae ?_|refine aI ?_)
 exact bx rfl (rt rfl) ⟨rfl, hc1, hb1⟩
end Go.Proofs.YtiejljicpinheaaGreat
namespace Go.Proofs.YtiejljicpinheaaGreat
open Go.W Go.LM Go.LA
theorem mw {n cap : Nat} {w : World} {a : Option Addr} {s : Nat → SD} (hS : Sl w a (topC n s)) (hno : ¬ okS n s) :
  CallsR Tryz.prog 103 #[.slice a n cap] w fun v w' => v = .tuple #[.slice none 0 0, .bool false] ∧ Ex w w' := by
 refine aF (args := [_]) Tryz.func103 rfl rfl ?_
 repeat' (first|refine j5 rfl rfl (fun g1 w1 hn1 => ⟨fun _ _ => trivial, ?_⟩)|refine aW rfl hn1.blk rfl ?_|refine ai rfl ?_|refine aa ?_|refine aj ?_|refine ah rfl ?_|refine ae ?_)
 refine aw (dm (hS.ext hn1.ex)) rfl ?_
 rintro v w2 ⟨rfl, hE2⟩
 refine ⟨fun _ _ => trivial, ?_⟩
 rw [dH hno]
 repeat' (first|refine ai rfl ?_|refine aa ?_|refine aj ?_|refine ah rfl ?_|refine ae ?_|refine az rfl ?_|refine aI ?_|refine aU ?_)
 exact cA rfl (rt rfl) (rt rfl) ⟨rfl, hn1.ex.trans hE2⟩
end Go.Proofs.YtiejljicpinheaaGreat
namespace Go.Proofs.YtiejljicpinheaaGreat
open Go.W Go.LM Go.LA
structure AM (K : Nat) (w : World) (a : Option Addr) (n : Nat) (s : Nat → SD) (F : Mat) : Prop where
 top : Sl w a (topC n s)
 row : ∀ i, i < n → RX false K w (s i) (s i).len (F i)
theorem AM.ext {K n : Nat} {w w' : World} {a : Option Addr} {s : Nat → SD} {F : Mat} (h : AM K w a n s F) (e : Ex w w') : AM K w' a n s F := ⟨h.top.ext e, fun i hi => (h.row i hi).ext e⟩
theorem AM.mx {K n : Nat} {w : World} {a : Option Addr} {s : Nat → SD} {F : Mat} (h : AM K w a n s F) (ok : okS n s) : MX false K w a n (s 0).len s F :=
 ⟨h.top, fun i hi => by have := h.row i hi; rwa [ok.2.2.2.2 i hi] at this⟩
theorem MX.am {cn : Bool} {K r c : Nat} {w : World} {a : Option Addr} {s : Nat → SD} {F : Mat} (h : MX cn K w a r c s F) : AM K w a r s F :=
 ⟨h.top, fun i hi => by have := (h.row i hi).weak'; rwa [(h.row i hi).len]⟩
theorem iy {n : Nat} {s : Nat → SD} (h : okS n s) : 1 ≤ n ∧ n ≤ 16 := ⟨h.1, h.2.1⟩
theorem gQ {n : Nat} {s : Nat → SD} (h : okS n s) : 1 ≤ (s 0).len ∧ (s 0).len ≤ 16 := ⟨h.2.2.1, h.2.2.2.1⟩
end Go.Proofs.YtiejljicpinheaaGreat
namespace Go.Proofs.YtiejljicpinheaaGreat
open Go.W Go.LM Go.LA
theorem uI {n cap : Nat} {w : World} {a : Option Addr} {s : Nat → SD} (hS : Sl w a (topC n s)) (hno : ¬ okS n s) :
  CallsR Tryz.prog 63 #[.slice a n cap] w fun v w' => v = .tuple #[.slice none 0 0, .bool false] ∧ Ex w w' := by
 refine aF (args := [_]) Tryz.func63 rfl rfl ?_
 repeat' (first|refine ai rfl ?_|refine aa ?_|refine aj ?_|refine ah rfl ?_|refine ae ?_)
 refine aw (mw hS hno) rfl ?_
 rintro v w1 ⟨rfl, hE1⟩
 refine ⟨fun _ _ => trivial, ?_⟩
 repeat' (first|refine aK rfl rfl ?_|refine ai rfl ?_|refine aa ?_|refine aj ?_|refine ah rfl ?_|refine ae ?_|refine bK rfl rfl ?_|refine az rfl ?_|refine aI ?_|refine aU ?_)
 exact cA rfl (rt rfl) (rt rfl) ⟨rfl, hE1⟩
end Go.Proofs.YtiejljicpinheaaGreat
namespace Go.LA
end Go.LA
namespace Go.Proofs.YtiejljicpinheaaGreat
open Go.W Go.LM Go.LA
theorem tf {cn : Bool} {K r c cap : Nat} {w : World} {a : Option Addr} {s : Nat → SD} {A : Mat} (hM : MX cn K w a r c s A) (hr : 1 ≤ r ∧ r ≤ 16) (hc : 1 ≤ c ∧ c ≤ 16) (hrc : r < c) :
  CallsR Tryz.prog 63 #[.slice a r cap] w fun v w' => v = .tuple #[.slice none 0 0, .bool false] ∧ Ex w w' := by
 have hpt := hM.plain (by omega)
 refine aF (args := [_]) Tryz.func63 rfl rfl ?_
 repeat' (first|refine ai rfl ?_|refine aa ?_|refine aj ?_|refine ah rfl ?_|refine ae ?_)
 refine aw (fe hM hr hc) rfl ?_
 rintro v w1 ⟨_, rfl, g, gs, cp, rfl, hO1, hE1⟩
 refine ⟨fun _ _ => trivial, ?_⟩
 obtain ⟨p0, d0, hh0, e0, _, _, _, _⟩ := hM.get (i := 0) (by omega) (by omega)
 repeat' (first|refine aK rfl rfl ?_|refine aD (j := 0) (a := a) rfl rfl hpt (by omega) ?_|refine aV (j := 0) (a := a) (n := r) (s := s) rfl (hM.ext hE1).top (by omega) e0 ?_|refine bu rfl rfl (by omega) ?_|refine ai rfl ?_|refine aa ?_|refine aj ?_|refine ah rfl ?_|refine ae ?_|refine aZ rfl ?_|refine bz rfl rfl ?_|refine az rfl ?_|refine aI ?_|refine aU ?_)
 exact cA rfl (rt rfl) (rt rfl) ⟨rfl, hE1⟩
end Go.Proofs.YtiejljicpinheaaGreat
namespace Go.Proofs.YtiejljicpinheaaGreat
open Go.W Go.LM Go.LA
theorem jL {n cap : Nat} {w : World} {a : Option Addr} {s : Nat → SD} (hS : Sl w a (topC n s)) (hno : ¬ okS n s) :
  CallsR Tryz.prog 102 #[.slice a n cap] w fun v w' => v = .tuple #[.slice none 0 0, .bool false] ∧ Ex w w' := by
 refine aF (args := [_]) Tryz.func102 rfl rfl ?_
 repeat' (first|refine ai rfl ?_|refine aa ?_|refine aj ?_|refine ah rfl ?_|refine ae ?_)
 refine aw (cc hS) rfl ?_
 rintro v w1 ⟨rfl, hE1⟩
 refine ⟨fun _ _ => trivial, ?_⟩
 rw [dH hno]
 repeat' (first|refine aK rfl rfl ?_|refine ai rfl ?_|refine aa ?_|refine aj ?_|refine ah rfl ?_|refine ae ?_|refine az rfl ?_|refine aI ?_|refine aU ?_)
 exact cA rfl (rt rfl) (rt rfl) ⟨rfl, hE1⟩
end Go.Proofs.YtiejljicpinheaaGreat
namespace Go.Proofs.YtiejljicpinheaaGreat
open Go.W Go.LM Go.LA
set_option maxHeartbeats 2000000 in
theorem fD {cn : Bool} {K r c k cap : Nat} {w : World} {a : Option Addr} {s : Nat → SD} {F : Mat} (hM : MX cn K w a r c s F) (hr : 1 ≤ r ∧ r ≤ 1000) (hk : k < c) :
  CallsR Tryz.prog 66 #[.slice a r cap, .int .i64 (k : Int)] w fun v w' => ∃ p : Nat, v = .int .i64 (p : Int) ∧ p ≤ r ∧ (∀ x, x < p → F x k = 0) ∧ (p < r → F p k ≠ 0) ∧ Ex w w' := by
 have hpt := hM.plain (by omega)
 refine aF (args := [_, _]) Tryz.func66 rfl rfl ?_
 repeat' (first|refine ai rfl ?_|refine aa ?_|refine aj ?_|refine ah rfl ?_|refine ae ?_|refine aZ rfl ?_|refine aA ?_)
 refine aY (ι := Nat) [4, 5, 8, 9, 10, 11, 12, 13, 14, 15, 16, 17, 18, 19, 20, 21] (fun i => [(8, .int .i64 (i : Int))])
  (fun i w' => i ≤ r ∧ Ex w w' ∧ ∀ x, x < i → F x k = 0) (fun i => r - i)
  0 ⟨rfl, trivial⟩ ⟨by omega, Ex.refl _, fun x h => by omega⟩ ?_
 rintro i ξ w2 ⟨hi, hE2, hz⟩
 show CW _ _ _ _ (over [(8, .int .i64 (i : Int))] _) w2
 rcases Nat.lt_or_ge i r with hir | hir
 ·obtain ⟨pa, d, hh, e1, e2, hpp, hS, hEn⟩ := (hM.ext hE2).get hir (by omega)
  repeat' (first|refine bu rfl rfl (by omega) ?_|refine aD (j := i) (a := a) rfl rfl hpt (by omega) ?_|refine aV (j := i) (a := a) (n := r) (s := s) rfl (hM.ext hE2).top (by omega) e1 ?_|refine aT (j := k) (a := pa) rfl rfl hpp (by omega) ?_|refine bo (j := k) (a := pa) rfl hS hpp (by omega) ?_|refine ai rfl ?_|refine aa ?_|refine aj ?_|refine ah rfl ?_|refine ae ?_|refine az rfl ?_|refine aA ?_|refine aE ?_)
  refine aw (cj (hEn k hk).k) rfl ?_
  rintro v w3 ⟨rfl, hE3⟩
  refine ⟨fun _ _ => trivial, ?_⟩
  by_cases h : F i k = 0
  ·repeat' (first|(refine cN rfl rfl (by rw [h]; rfl) ?_)|refine ai rfl ?_|refine aa ?_|refine ah rfl ?_|refine ae ?_|refine bc rfl rfl (by omega) (by omega) ?_|refine au rfl ?_|refine aL ?_|refine aE ?_)
   refine ⟨⟨i + 1, ⟨hir, hE2.trans hE3, fun x hx => ?_⟩, by omega, rfl, trivial⟩, (by (repeat (first|exact aH _ _ _|refine ay rfl ?_|refine av rfl ?_|refine ak rfl ?_|refine ao rfl ?_)))⟩
   by_cases e : x = i
   ·subst e; exact h
   ·exact hz x (by omega)
  ·repeat' (first|refine df rfl rfl (fun e => h (Int.sign_eq_zero_iff_zero.1 e)) ?_|refine ai rfl ?_|refine aa ?_|refine aj ?_|refine ah rfl ?_|refine ae ?_|refine az rfl ?_|refine aI ?_|refine aU ?_|refine bQ ?_)
   exact bx rfl (rt rfl) ⟨i, rfl, hi, hz, fun _ => h, hE2.trans hE3⟩
 ·have eir : r = i := by omega
  subst eir
  repeat' (first|refine bj rfl rfl (by omega) ?_|refine ai rfl ?_|refine aa ?_|refine aj ?_|refine ah rfl ?_|refine ae ?_|refine aZ rfl ?_|refine au rfl ?_|refine aP ?_|refine aJ ?_|refine aQ ?_|refine aI ?_)
  exact bx rfl (rt rfl) ⟨r, rfl, Nat.le_refl _, hz, fun h => by omega, hE2⟩
theorem mF {r c k l p : Nat} {H : Mat} {f : Nat → Nat} (h : HF r c H k f) (hl : l < c) (hp : p ≤ r) (hz : ∀ x, x < p → H x l = 0) (hn : p < r → H p l ≠ 0) : (p < r ↔ l < k) ∧ (p < r → p = f l) := by
 constructor
 ·constructor
  ·intro hpr; exact (h.piv hl hpr hz (hn hpr)).1
  ·intro hlk
   rcases Nat.lt_or_ge p r with h' | h'
   ·exact h'
   ·have := h.pos l hlk; rw [hz _ (by have := h.lt l hlk; omega)] at this; omega
 ·intro hpr; exact (h.piv hl hpr hz (hn hpr)).2.symm
def RetRB (r c s Q : Nat) (A : Mat) (w : World) (v : Value) (w' : World) : Prop :=
 ∃ (H U : Mat) (k : Nat) (p : Nat → Nat) (u : SD), v = .tuple #[.slice u.a u.len u.cap, .bool true] ∧ CEq r c A H U ∧ HF r c H k p ∧ (k = 0 → u = sd0) ∧ (0 < k → ∃ g gs cp, u = ⟨some ⟨g, 0, none⟩, r, r⟩ ∧ MO true (Zb Q s (c + k)) w' w.heap.size g r k gs cp H) ∧ Ex w w'
set_option maxHeartbeats 4000000 in
theorem cV {cn : Bool} {K KM r c cap s Q : Nat} {w : World} {a : Option Addr} {sh : Nat → SD} {A : Mat} (hM : MX cn K w a r c sh A) (hr : 1 ≤ r ∧ r ≤ 16) (hc : 1 ≤ c ∧ c ≤ 16) (hA : ∀ l, l < c → ∀ i, i < r → Lb (Zb Q s l) (A i l)) (hQ : 10 ≤ Q) (hKM : Zb Q s (2 * c + 1) ≤ KM) (hK : 2 * KM < 17592186044415) :
  CallsR Tryz.prog 22 #[.slice a r cap] w (RetRB r c s Q A w) := by
 refine aF (args := [_]) Tryz.func22 rfl rfl ?_
 repeat' (first|refine ai rfl ?_|refine aa ?_|refine aj ?_|refine ah rfl ?_|refine ae ?_)
 refine aw (gi hM hr hc hA hQ hKM hK) rfl ?_
 rintro v w1 ⟨g, g', gs, cp, gs', cp', H, U, k, p, rfl, hF, _, _, hdn, hE1⟩
 refine ⟨fun _ _ => trivial, ?_⟩
 have hHF := hF.hf
 have hkc := hHF.kc
 repeat' (first|refine aK rfl rfl ?_|refine ai rfl ?_|refine aa ?_|refine aj ?_|refine ah rfl ?_|refine ae ?_|refine au rfl ?_|refine aE ?_)
 refine ct (ι := Unit) [7, 17, 18, 19, 20, 21, 22, 23, 24, 25, 26, 27, 28, 29, 30, 31, 32] (fun _ => [(7, .int .i64 (k : Int))]) (fun _ w' => Ex w1 w') ?_ ?_
 ·refine aA ?_
  refine aY (ι := Nat) [7, 17, 18, 19, 20, 21, 22, 23, 24, 25, 26, 27, 28, 29, 30, 31, 32] (fun l => [(7, .int .i64 (l : Int))])
   (fun l w' => l ≤ k ∧ Ex w1 w') (fun l => k - l)
   0 ⟨rfl, trivial⟩ ⟨by omega, Ex.refl _⟩ ?_
  rintro l ξ w2 ⟨hl, hE2⟩
  show CW _ _ _ _ (over [(7, .int .i64 (l : Int))] _) w2
  have hO2 := hF.h.ext hE2
  rcases Nat.lt_or_ge l c with hlc | hlc
  ·repeat' (first|refine aD (j := 0) (a := some ⟨g, 0, none⟩) rfl rfl ⟨_, _, rfl⟩ (by omega) ?_|refine aV (j := 0) (a := some ⟨g, 0, none⟩) (n := r) (s := fun k => ⟨some ⟨gs k, 0, none⟩, c, cp k⟩) rfl hO2.top.sl (by omega) rfl ?_|refine bu rfl rfl (by omega) ?_|refine ai rfl ?_|refine aj ?_|refine ah rfl ?_|refine aZ rfl ?_|refine bz rfl rfl ?_)
   refine aw (fD hO2.mx ⟨hr.1, by omega⟩ hlc) rfl ?_
   rintro v w3 ⟨q, rfl, hq, hz, hn, hE3⟩
   refine ⟨fun _ _ => trivial, ?_⟩
   obtain ⟨t1, _⟩ := mF hHF hlc hq hz hn
   rcases Nat.lt_or_ge l k with hlk | hlk
   ·have hqr := t1.2 hlk
    repeat' (first|refine bu rfl rfl (by omega) ?_|refine ai rfl ?_|refine aa ?_|refine ah rfl ?_|refine ae ?_|refine aZ rfl ?_|refine bz rfl rfl ?_|refine bc rfl rfl (by omega) (by omega) ?_|refine az rfl ?_|refine aA ?_|refine aL ?_|refine aE ?_)
    exact ⟨⟨l + 1, ⟨hlk, hE2.trans hE3⟩, by omega, rfl, trivial⟩, (by (repeat (first|exact aH _ _ _|refine ay rfl ?_|refine av rfl ?_|refine ak rfl ?_|refine ao rfl ?_)))⟩
   ·have elk : l = k := by omega
    subst elk
    have hqr : ¬ q < r := fun h => by have := t1.1 h; omega
    repeat' (first|refine bj rfl rfl (by omega) ?_|refine ai rfl ?_|refine aa ?_|refine ae ?_|refine aZ rfl ?_|refine bz rfl rfl ?_|refine au rfl ?_|refine aP ?_|refine aJ ?_|refine aQ ?_)
    exact ⟨⟨(), hE2.trans hE3, rfl, trivial⟩, (by (repeat (first|exact aM _ _|refine ay rfl ?_|refine av rfl ?_|refine ak rfl ?_|refine ao rfl ?_)))⟩
  ·have elk : l = k := by omega
   subst elk
   repeat' (first|refine aD (j := 0) (a := some ⟨g, 0, none⟩) rfl rfl ⟨_, _, rfl⟩ (by omega) ?_|refine aV (j := 0) (a := some ⟨g, 0, none⟩) (n := r) (s := fun k => ⟨some ⟨gs k, 0, none⟩, c, cp k⟩) rfl hO2.top.sl (by omega) rfl ?_|refine bj rfl rfl (by omega) ?_|refine ai rfl ?_|refine aa ?_|refine aj ?_|refine ah rfl ?_|refine ae ?_|refine aZ rfl ?_|refine bK rfl rfl ?_|refine au rfl ?_|refine aP ?_|refine aJ ?_|refine aQ ?_)
   exact ⟨⟨(), hE2, rfl, trivial⟩, (by (repeat (first|exact aM _ _|refine ay rfl ?_|refine av rfl ?_|refine ak rfl ?_|refine ao rfl ?_)))⟩
 ·rintro ⟨⟩ ξ w2 hE2
  show CW _ _ _ _ (over [(7, .int .i64 (k : Int))] _) w2
  have hE02 := hE1.trans hE2
  by_cases hk : k = 0
  ·repeat' (first|refine eF rfl rfl (by omega) ?_|refine ai rfl ?_|refine aa ?_|refine aj ?_|refine ah rfl ?_|refine ae ?_|refine az rfl ?_|refine aI ?_|refine aU ?_)
   exact cA rfl (rt rfl) (rt rfl) ⟨H, U, k, p, sd0, rfl, hF.ceq, hHF, fun _ => rfl, fun h => by omega, hE02⟩
  ·repeat' (first|refine dU rfl rfl (by omega) ?_|refine ai rfl ?_|refine aa ?_|refine aj ?_|refine ah rfl ?_|refine ae ?_|refine aZ rfl ?_|refine au rfl ?_|refine aA ?_|refine aE ?_)
   have hO2 := hF.h.ext hE2
   have s1 := hE1.size
   have glo := hF.h.low
   refine aY (ι := Nat) [8, 37, 38, 39, 40, 41, 42, 43, 44, 45, 46, 47, 48, 49] (fun t => [(37, .int .i64 (t : Int))])
    (fun t w' => (t ≤ r ∧ Ex w w' ∧ w2.grownBy w' (some g)) ∧ Blk w' g 31 (topC r fun i => if i < t then ⟨some ⟨gs i, 0, none⟩, k, cp i⟩ else ⟨some ⟨gs i, 0, none⟩, c, cp i⟩)) (fun t => r - t)
    0 ⟨rfl, trivial⟩ ⟨⟨by omega, hE02, lL (Ex.refl _)⟩, hO2.top⟩ ?_
   rintro t ξ2 w3 ⟨⟨ht, hE3, hG3⟩, hT3⟩
   show CW _ _ _ _ (over [(37, .int .i64 (t : Int))] _) w3
   rcases Nat.lt_or_ge t r with htr | htr
   ·have hcp := (hF.h.row t htr).le
    repeat' (first|refine bu rfl rfl (by omega) ?_|refine aD (j := t) (a := some ⟨g, 0, none⟩) rfl rfl ⟨_, _, rfl⟩ (by omega) ?_|refine aV (j := t) (a := some ⟨g, 0, none⟩) (n := r) (a1 := some ⟨gs t, 0, none⟩) (l1 := c) (c1 := cp t) rfl hT3.sl (by omega) (if_neg (by omega)) ?_|refine fO rfl rfl (by omega) (by omega) ?_|refine ai rfl ?_|refine aa ?_|refine aj ?_|refine ah rfl ?_|refine ae ?_|refine az rfl ?_|refine aA ?_|refine aE ?_)
    refine ch (j := t) (u := ⟨some ⟨gs t, 0, none⟩, k, cp t⟩) rfl rfl hT3 (by omega) (fun w4 hc4 hT4 => ⟨fun _ _ => trivial, ?_⟩)
    repeat' (first|refine ai rfl ?_|refine aa ?_|refine ah rfl ?_|refine ae ?_|refine bc rfl rfl (by omega) (by omega) ?_|refine aL ?_)
    refine ⟨⟨t + 1, ⟨⟨htr, hE3.chg hc4 glo, bJ hG3 (bw hc4) (fun k e => .inl e)⟩, ?_⟩, by omega, rfl, trivial⟩, (by (repeat (first|exact aH _ _ _|refine ay rfl ?_|refine av rfl ?_|refine ak rfl ?_|refine ao rfl ?_)))⟩
    rw [bY (s' := setF (fun i => if i < t then (⟨some ⟨gs i, 0, none⟩, k, cp i⟩ : SD) else ⟨some ⟨gs i, 0, none⟩, c, cp i⟩) t ⟨some ⟨gs t, 0, none⟩, k, cp t⟩) (fun i _ => ?_)]
    ·exact hT4
    ·by_cases e : i = t
     ·subst e; rw [aS, if_pos (Nat.lt_succ_self _)]
     ·rw [aX _ _ e]
      by_cases h : i < t
      ·rw [if_pos h, if_pos (by omega)]
      ·rw [if_neg h, if_neg (by omega)]
   ·have etr : r = t := by omega
    subst etr
    repeat' (first|refine bj rfl rfl (by omega) ?_|refine ai rfl ?_|refine aa ?_|refine aj ?_|refine ah rfl ?_|refine ae ?_|refine au rfl ?_|refine aP ?_|refine aJ ?_|refine aQ ?_|refine aI ?_)
    refine cA rfl (rt rfl) (rt rfl) ⟨H, U, k, p, ⟨some ⟨g, 0, none⟩, r, r⟩, rfl, hF.ceq, hHF, fun h => absurd h hk, fun _ => ⟨g, gs, cp, rfl, hF.h.low, ?_, fun i hi => ?_, hF.h.off, hF.h.inj⟩, hE3⟩
    ·rw [bY (s' := fun i => if i < r then (⟨some ⟨gs i, 0, none⟩, k, cp i⟩ : SD) else ⟨some ⟨gs i, 0, none⟩, c, cp i⟩) (fun i hi => by rw [if_pos hi])]
     exact hT3
    ·obtain ⟨hh, hb, hEn⟩ := ((hO2.row i hi).gbN hO2.top (bW _ _) hG3 (hO2.off i hi)).ex
     exact ⟨(hO2.row i hi).low, Nat.le_trans hkc (hO2.row i hi).le, hh, hb, fun j hj => (hEn j (by omega)).sharp (hdn j hj i hi)⟩
end Go.Proofs.YtiejljicpinheaaGreat
namespace Go.LA
theorem rC {n : Nat} {f : Nat → Int} (h : ∀ i, i < n → 0 < f i) : 0 < pr n f := by
 induction n with
 | zero => show (0 : Int) < 1; decide
 | succ n ih => exact Int.mul_pos (ih fun i hi => h i (by omega)) (h n (by omega))
theorem pV {r c : Nat} {H : Mat} {p : Nat → Nat} (h : HF r c H r p) : det r H = (pr r fun i => H i i) ∧ 0 < pr r fun i => H i i := by
 have hd := h.diag.2 rfl
 refine ⟨dF fun x l hl hx => h.zero l hl x (by rw [hd l hl]; exact hx), rC fun i hi => ?_⟩
 have := h.pos i hi
 rwa [hd i hi] at this
end Go.LA
namespace Go.Proofs.YtiejljicpinheaaGreat
open Go.W Go.LM Go.LA
set_option maxHeartbeats 2000000 in
theorem kZ {cn : Bool} {K KM r c cap s Q : Nat} {w : World} {a : Option Addr} {sh : Nat → SD} {A : Mat} (hM : MX cn K w a r c sh A) (hr : 1 ≤ r ∧ r ≤ 16) (hc : 1 ≤ c ∧ c ≤ 16) (hA : ∀ l, l < c → ∀ i, i < r → Lb (Zb Q s l) (A i l)) (hQ : 10 ≤ Q) (hKM : Zb Q s (2 * c + 1) ≤ KM) (hK : 2 * KM < 17592186044415) (hD : 16 * Zb Q s (c + r) + 17 ≤ 4398046511104) :
  CallsR Tryz.prog 40 #[.slice a r cap] w fun v w' => ∃ (H U : Mat) (k : Nat) (p : Nat → Nat) (u : IH), v = .tuple #[u.val, .bool (decide (k = r))] ∧ CEq r c A H U ∧ HF r c H k p ∧ Ent true 4398046511104 w' u.val (if k = r then pr r fun i => H i i else 0) ∧ Ex w w' := by
 refine aF (args := [_]) Tryz.func40 rfl rfl ?_
 repeat' (first|refine aG (fun g1 w1 hn1 => ⟨fun _ _ => trivial, ?_⟩)|refine ai rfl ?_|refine aa ?_|refine aj ?_|refine ah rfl ?_|refine ae ?_)
 have hb1 : Blk w1 g1 43 (intL false none 0 0) := hn1.blk
 refine aw (cV (hM.ext hn1.ex) hr hc hA hQ hKM hK) rfl ?_
 rintro v w2 ⟨H, U, k, p, u, rfl, hC, hF, h0, hO, hE2⟩
 refine ⟨fun _ _ => trivial, ?_⟩
 have hE02 := hn1.ex.trans hE2
 have hb2 := hb1.ext hE2
 rcases Nat.eq_zero_or_pos k with hk | hk
 ·obtain rfl := h0 hk
  repeat' (first|refine aK rfl rfl ?_|refine eF rfl rfl rfl ?_|refine cf (cs := intL false none 0 0) rfl ?_|refine ai rfl ?_|refine aa ?_|refine aj ?_|refine ah rfl ?_|refine ae ?_|refine aZ rfl ?_|refine bz rfl rfl ?_|refine bK rfl rfl ?_|refine az rfl ?_)
  refine ax (n := 2) (vs := ih0.cells) rfl rfl rfl rfl hb2 rfl (fun w3 hc3 hb3 => ⟨fun _ _ => trivial, ?_⟩)
  repeat' (first|refine ai rfl ?_|refine aa ?_|refine ae ?_|refine aI ?_|refine aU ?_)
  exact cA rfl (rc rfl rfl hb3) (rt rfl) ⟨H, U, k, p, ih0, by rw [decide_eq_false (show ¬ k = r by omega)]; rfl, hC, hF, by rw [if_neg (show ¬ k = r by omega)]; exact iv _, hE02.chg hc3 hn1.lo⟩
 ·obtain ⟨g, gs, cp, rfl, hB⟩ := hO hk
  by_cases hkr : k = r
  ·subst hkr
   repeat' (first|refine aK rfl rfl ?_|refine dU rfl rfl (show ((k : Nat) : Int) ≠ 0 by omega) ?_|refine aD (j := 0) (a := some ⟨g, 0, none⟩) rfl rfl ⟨_, _, rfl⟩ (by omega) ?_|refine aV (j := 0) (a := some ⟨g, 0, none⟩) (n := k) (s := fun i => ⟨some ⟨gs i, 0, none⟩, k, cp i⟩) rfl hB.top.sl (by omega) rfl ?_|refine cN rfl rfl rfl ?_|refine ai rfl ?_|refine aa ?_|refine aj ?_|refine ah rfl ?_|refine ae ?_|refine aZ rfl ?_|refine bz rfl rfl ?_|refine au rfl ?_|refine aE ?_)
   refine aw (eI hB.mx hr hD) rfl ?_
   rintro v w3 ⟨hd, hE3⟩
   refine ⟨fun _ _ => trivial, ?_⟩
   obtain ⟨x, rfl⟩ := hd.ih
   skip
   refine aw (iR hd.k) rfl ?_
   rintro v w4 ⟨hI4, hE4⟩
   refine ⟨fun _ _ => trivial, ?_⟩
   obtain ⟨y, rfl⟩ := hI4.ih
   have hb4 := (hb2.ext hE3).ext hE4
   refine ax (n := 2) (vs := y.cells) rfl rfl rfl rfl hb4 rfl (fun w5 hc5 hb5 => ⟨fun _ _ => trivial, ?_⟩)
   repeat' (first|refine ai rfl ?_|refine aa ?_|refine ae ?_|refine aI ?_)
   obtain ⟨e1, e2⟩ := pV hF
   refine cA rfl (rc rfl rfl hb5) (rt rfl) ⟨H, U, k, p, y, by rw [decide_eq_true (rfl : k = k)]; rfl, hC, hF, ?_, ((hE02.trans hE3).trans hE4).chg hc5 hn1.lo⟩
   rw [if_pos rfl]
   have e3 : ((det k H).natAbs : Int) = pr k fun i => H i i := by rw [e1]; omega
   rw [e3] at hI4
   have hl := hd.lb
   rw [e1] at hl
   exact (Ent.of hI4 (hl.mono hD)).gbN hb4 (aB _ _ _ _) (bw hc5)
  ·repeat' (first|refine aK rfl rfl ?_|refine dU rfl rfl (show ((r : Nat) : Int) ≠ 0 by omega) ?_|refine aD (j := 0) (a := some ⟨g, 0, none⟩) rfl rfl ⟨_, _, rfl⟩ (show 0 < r by omega) ?_|refine aV (j := 0) (a := some ⟨g, 0, none⟩) (n := r) (s := fun i => ⟨some ⟨gs i, 0, none⟩, k, cp i⟩) rfl hB.top.sl (by omega) rfl ?_|refine df rfl rfl (show ((k : Nat) : Int) ≠ ((r : Nat) : Int) by omega) ?_|refine cf (cs := intL false none 0 0) rfl ?_|refine ai rfl ?_|refine aa ?_|refine aj ?_|refine ah rfl ?_|refine ae ?_|refine aZ rfl ?_|refine bz rfl rfl ?_|refine az rfl ?_)
   refine ax (n := 2) (vs := ih0.cells) rfl rfl rfl rfl hb2 rfl (fun w3 hc3 hb3 => ⟨fun _ _ => trivial, ?_⟩)
   repeat' (first|refine ai rfl ?_|refine aa ?_|refine ae ?_|refine aI ?_|refine aU ?_)
   exact cA rfl (rc rfl rfl hb3) (rt rfl) ⟨H, U, k, p, ih0, by rw [decide_eq_false hkr]; rfl, hC, hF, by rw [if_neg hkr]; exact iv _, hE02.chg hc3 hn1.lo⟩
end Go.Proofs.YtiejljicpinheaaGreat
namespace Go.LA
theorem rE {n : Nat} {f : Nat → Int} (h : ∀ i, i < n → 0 < f i) : pr n f = 1 ↔ ∀ i, i < n → f i = 1 := by
 induction n with
 | zero => exact ⟨fun _ i hi => by omega, fun _ => rfl⟩
 | succ n ih =>
  have h1 := ih fun i hi => h i (by omega)
  have h2 := rC (n := n) (f := f) fun i hi => h i (by omega)
  have h3 := h n (by omega)
  show pr n f * f n = 1 ↔ _
  constructor
  ·intro e
   have e1 : f n = 1 := by
    have : f n ∣ 1 := ⟨pr n f, by rw [Int.mul_comm]; exact e.symm⟩
    have := Int.le_of_dvd (by omega) this
    omega
   have e2 : pr n f = 1 := by rw [e1, Int.mul_one] at e; exact e
   intro i hi
   by_cases e3 : i = n
   ·subst e3; exact e1
   ·exact h1.1 e2 i (by omega)
  ·intro e
   rw [h1.2 fun i hi => e i (by omega), e n (by omega)]; rfl
theorem sO {r c k : Nat} {H : Mat} {p : Nat → Nat} (h : HF c r H k p) (hcr : c ≤ r) : (k = c ∧ (pr c fun i => H i i) = 1) ↔ ∀ i, i < c → H i i = 1 := by
 constructor
 ·rintro ⟨rfl, e⟩
  have hd := h.diag.2 rfl
  exact (rE fun i hi => by have := h.pos i hi; rwa [hd i hi] at this).1 e
 ·intro e
  have hk : k = c := by
   have h1 := h.diag.1
   rcases Nat.lt_or_ge k c with h2 | h2
   ·have := h.rest k (Nat.le_refl _) (by omega) k h2
    rw [e k h2] at this; omega
   ·omega
  subst hk
  have hd := h.diag.2 rfl
  exact ⟨rfl, (rE fun i hi => by have := h.pos i hi; rwa [hd i hi] at this).2 e⟩
end Go.LA
namespace Go.Proofs.YtiejljicpinheaaGreat
open Go.W Go.LM Go.LA
theorem rP {n cap : Nat} {w : World} {a : Option Addr} {s : Nat → SD} (hS : Sl w a (topC n s)) (hno : ¬ okS n s) :
  CallsR Tryz.prog 78 #[.slice a n cap] w fun v w' => v = .bool false ∧ Ex w w' := by
 refine aF (args := [_]) Tryz.func78 rfl rfl ?_
 repeat' (first|refine ai rfl ?_|refine aa ?_|refine aj ?_|refine ah rfl ?_|refine ae ?_)
 refine aw (jL hS hno) rfl ?_
 rintro v w1 ⟨rfl, hE1⟩
 refine ⟨fun _ _ => trivial, ?_⟩
 repeat' (first|refine aK rfl rfl ?_|refine ai rfl ?_|refine aa ?_|refine aj ?_|refine ah rfl ?_|refine ae ?_|refine bK rfl rfl ?_|refine az rfl ?_|refine aI ?_|refine aU ?_)
 exact bx rfl (rt rfl) ⟨rfl, hE1⟩
set_option maxHeartbeats 2000000 in
theorem qc {cn : Bool} {K KM r c cap s Q : Nat} {w : World} {a : Option Addr} {sh : Nat → SD} {A : Mat} (hM : MX cn K w a r c sh A) (hr : 1 ≤ r ∧ r ≤ 16) (hc : 1 ≤ c ∧ c ≤ 16) (hA : ∀ l, l < r → ∀ i, i < c → Lb (Zb Q s l) (A l i)) (hQ : 10 ≤ Q) (hKM : Zb Q s (2 * r + 1) ≤ KM) (hK : 2 * KM < 17592186044415) (hD : 16 * Zb Q s (r + c) + 17 ≤ 4398046511104) :
  CallsR Tryz.prog 78 #[.slice a r cap] w fun v w' => ∃ t : Bool, v = .bool t ∧ (c ≤ r → ∃ (H U : Mat) (k : Nat) (p : Nat → Nat), CEq c r (fun i j => A j i) H U ∧ HF c r H k p ∧ (t = true ↔ ∀ i, i < c → H i i = 1)) ∧ (r < c → t = false) ∧ Ex w w' := by
 refine aF (args := [_]) Tryz.func78 rfl rfl ?_
 repeat' (first|refine ai rfl ?_|refine aa ?_|refine aj ?_|refine ah rfl ?_|refine ae ?_)
 refine aw (fB hM hr hc) rfl ?_
 rintro v w1 ⟨_, rfl, g, gs, cp, rfl, hO, hE1⟩
 refine ⟨fun _ _ => trivial, ?_⟩
 rcases Nat.lt_or_ge r c with hrc | hrc
 ·repeat' (first|refine aK rfl rfl ?_|refine kh rfl rfl (by omega) ?_|refine ai rfl ?_|refine aa ?_|refine aj ?_|refine ah rfl ?_|refine ae ?_|refine aZ rfl ?_|refine bz rfl rfl ?_|refine az rfl ?_|refine aI ?_|refine aU ?_)
  exact bx rfl (rt rfl) ⟨false, rfl, fun h => by omega, fun _ => rfl, hE1⟩
 ·repeat' (first|refine aK rfl rfl ?_|refine gI rfl rfl (by omega) ?_|refine ai rfl ?_|refine aa ?_|refine aj ?_|refine ah rfl ?_|refine ae ?_|refine aZ rfl ?_|refine bz rfl rfl ?_|refine au rfl ?_|refine aE ?_)
  refine aw (kZ (s := s) (Q := Q) (KM := KM) hO.mx hc hr (fun l hl i hi => hA l hl i hi) hQ hKM hK hD) rfl ?_
  rintro v w2 ⟨H, U, k, p, u, rfl, hC, hF, hu, hE2⟩
  refine ⟨fun _ _ => trivial, ?_⟩
  repeat' (first|refine aK rfl rfl ?_|refine ai rfl ?_)
  refine aG (fun g5 w3 hn3 => ⟨fun _ _ => trivial, ?_⟩)
  have hb3 : Blk w3 g5 43 (intL false none 0 0) := hn3.blk
  refine ax (n := 2) (vs := u.cells) rfl rfl rfl rfl hb3 rfl (fun w4 hc4 hb4 => ⟨fun _ _ => trivial, ?_⟩)
  have hE02 := hE1.trans hE2
  have hE4 : Ex w w4 := (hE02.trans hn3.ex).chg hc4 (by have := hn3.lo; have := hE02.size; omega)
  have hu4 := (hu.ext hn3.ex).gbN hb3 (aB _ _ _ _) (bw hc4)
  have hiff := sO hF hrc
  by_cases hk : k = c
  ·rw [if_pos hk] at hu4
   rw [decide_eq_true hk]
   repeat' (first|refine ai rfl ?_|refine aa ?_|refine aj ?_|refine ae ?_)
   refine bi (late := [4]) (plan := [(0, none), (1, none), (2, none), (3, some true), (4, some false), (5, none), (6, none), (7, none)]) (fun w' => Ex w4 w') bA (by kernel_rfl) (Ex.refl w4).drew ?_
   have hEd := (Ex.refl w4).drew
   repeat' (first|refine aR (g := g5) rfl (fun _ h => hb4.ext h) rfl ?_|refine ai rfl ?_|refine bz rfl rfl ?_)
   refine aw (cT (z := 1) (by omega) (by omega) _) rfl ?_
   rintro v w5 ⟨hI5, hE5⟩
   refine ⟨fun _ h => h.trans hE5, ?_⟩
   have hE45 := hEd.trans hE5
   repeat' (first|refine bz rfl rfl ?_)
   refine aw (eM (hu4.ext hE45).k (hI5.k (k := 1) (by decide))) rfl ?_
   rintro v w6 ⟨rfl, hE6⟩
   refine ⟨fun _ h => h.trans hE6, ?_⟩
   have hEf := (hE4.trans hE45).trans hE6
   by_cases h1 : (pr c fun i => H i i) = 1
   ·repeat' (first|refine eF rfl rfl (sign_zero.2 h1) ?_|refine ai rfl ?_|refine aa ?_|refine ae ?_|refine bz rfl rfl ?_|refine aI ?_)
    exact bx rfl (rt rfl) ⟨true, rfl, fun _ => ⟨H, U, k, p, hC, hF, fun _ => hiff.1 ⟨hk, h1⟩, fun _ => rfl⟩, fun h => by omega, hEf⟩
   ·repeat' (first|refine dU rfl rfl (fun e => h1 (sign_zero.1 e)) ?_|refine ai rfl ?_|refine aa ?_|refine ae ?_|refine bz rfl rfl ?_|refine aI ?_)
    exact bx rfl (rt rfl) ⟨false, rfl, fun _ => ⟨H, U, k, p, hC, hF, fun h => (nomatch h), fun h => absurd (hiff.2 h).2 h1⟩, fun _ => rfl, hEf⟩
  ·rw [decide_eq_false hk]
   repeat' (first|refine ai rfl ?_|refine aa ?_|refine aj ?_|refine ae ?_)
   refine bi (late := [4]) (plan := [(0, none), (1, none), (2, none), (3, some true), (4, some false), (5, none), (6, none), (7, none)]) (fun w' => Ex w4 w') bA (by kernel_rfl) (Ex.refl w4).drew ?_
   have hEd := (Ex.refl w4).drew
   repeat' (first|refine ai rfl ?_|refine aa ?_|refine ae ?_|refine bK rfl rfl ?_|refine aI ?_)
   exact bx rfl (rt rfl) ⟨false, rfl, fun _ => ⟨H, U, k, p, hC, hF, fun h => (nomatch h), fun h => absurd (hiff.2 h).1 hk⟩, fun _ => rfl, hE4.trans hEd⟩
end Go.Proofs.YtiejljicpinheaaGreat
namespace Go.Proofs.YtiejljicpinheaaGreat
open Go.W Go.LM Go.LA Go.PM
section
variable {P : Program} {S : World → Prop} {ops : List Oper} {K : Env → World → Prop} {rest : List (Oper × Option Bool)} {ρ : Env} {w : World} {kf : Bool} {d : Nat} {T : TypeId} {pos : String} {af : Array Edge}
end
theorem MIO.ext {w w' : World} {lo g r c : Nat} {gs : Nat → Nat} {F : Mat} (h : MIO w lo g r c gs F) (e : Ex w w') : MIO w' lo g r c gs F := ⟨h.low, h.top.ext e, fun i hi => ⟨(h.row i hi).1, (h.row i hi).2.ext e⟩, h.off, h.inj⟩
end Go.Proofs.YtiejljicpinheaaGreat
namespace Go.Proofs.YtiejljicpinheaaGreat
open Go.W Go.LM Go.LA Go.PM
theorem tV {rows cols : Int} {L : List Int} {la : Option Addr} {most : Nat} {w : World} (hL : Sl w la (int8L L)) (hI : I8 L) (h1 : 0 ≤ rows ∧ rows ≤ 255) (h2 : 0 ≤ cols ∧ cols ≤ 255) (hm : 1 ≤ most ∧ most ≤ 16) (lc : Nat) :
  ∃ (r c : Nat) (A : Mat), (1 ≤ r ∧ r ≤ most) ∧ (1 ≤ c ∧ c ≤ most) ∧ ∀ w', Ex w w' → CallsR Tryz.prog 13 #[.agg (gridL rows cols la L.length lc).toArray, .int .i64 (most : Int)] w' (RetMO 2 w' r c A) :=
 ⟨gd rows most, gd cols most, gridF L _, iA hm.1, iA hm.1, fun _w' e => gT (hL.ext e) hI h1 h2 hm⟩
end Go.Proofs.YtiejljicpinheaaGreat
namespace Go.W
open Go.ChangeShapes Go.WideShapes Go.ChangeAt Go.RowKit
section
variable {H : Type} {enc : TypeId × Value → H} {P : Program} {W W' : World}
theorem uJ {t e : TypeId} {k : IntKind} {v : Value} {d : DataW H} {ps : List MemPlace} {r : Reach} {b0 : Nat} (ht : P.underlying t = some (.slice e)) (he : P.underlying e = some (.int k)) (hc : P.cellsOf e = 1)
  (hval : Value.okWide P W r b0 t v) (h : DataW.Trod enc P W 0 (fun _ => true) true t v d ps) :
  ∃ (a : Option Addr) (xs : List Int) (c : Nat), v = .slice a xs.length c ∧ Sl W a (xs.map (Value.int k)) ∧ (∀ x ∈ xs, (Lit.int k x).wf = true) ∧ xs.length ≤ c ∧ c ≤ 9223372036854775807 := by
 obtain ⟨a0, len, cap, rfl⟩ := okWide_slice ht hval
 obtain ⟨fuel, hf⟩ := h
 rcases open_ints ht he hc hf with ⟨hcs, hx⟩ | ⟨a, len', cap', zs, hcs, _, hl, hm, hz, hx, hcell, hwz⟩
 ·simp [Value.cells] at hcs
  obtain ⟨rfl, rfl, rfl⟩ := hcs
  exact ⟨none, [], 0, rfl, Sl.nil _ _, by simp, by simp, by decide⟩
 ·simp [Value.cells] at hcs
  obtain ⟨rfl, rfl, rfl⟩ := hcs
  simp only [if_true] at hz
  have hlen : (zs.take len).length = len := by simp; omega
  refine ⟨some a, zs.take len, cap, by rw [hlen], ⟨fun hne => ?_, fun j hj => ?_⟩, fun x hx => hwz x (List.mem_of_mem_take hx), by rw [hlen]; exact hl, by unfold maxLen at hm; omega⟩
  ·have h0 : 0 < zs.length := by
    rcases Nat.eq_zero_or_pos zs.length with h | h
    ·exact absurd (by rw [List.eq_nil_of_length_eq_zero h]; simp) hne
    ·exact h
   obtain ⟨b, off, spot⟩ := a
   have hspot : spot = none := by simpa [Addr.add] using World.cell?_spot (hcell 0 h0)
   subst hspot
   exact ⟨b, off, rfl⟩
  ·simp only [List.length_map, hlen] at hj
   have h0 : j < zs.length := by omega
   obtain ⟨b, off, spot⟩ := a
   have hspot : spot = none := by simpa [Addr.add] using World.cell?_spot (hcell 0 (by omega))
   subst hspot
   have := hcell j h0
   have e : (⟨b, off, none⟩ : Addr).add j = ⟨b, off + j, none⟩ := by unfold Addr.add; split <;> simp_all
   rw [e] at this
   simp only [elt]
   rw [this]
   simp [List.getD_eq_getElem?_getD, h0, hj]
end
end Go.W
namespace Go.Proofs.YtiejljicpinheaaGreat
end Go.Proofs.YtiejljicpinheaaGreat
namespace Go.Proofs.YtiejljicpinheaaGreat
open Go.W Go.ChangeShapes Go.WideShapes Go.ChangeAt Go.RowKit Go.LM
instance inhSD : Inhabited SD := ⟨sd0⟩
instance inhIH : Inhabited IH := ⟨ih0⟩
structure RawI (W : World) (x : IH) (L : List Nat) : Prop where
 len : x.sd.len = L.length
 cap : L.length ≤ x.sd.cap
 max : x.sd.len ≤ 140737488355328
 sl : Sl W x.sd.a (limbsL L)
 lim : Lim L
structure RawR (W : World) (s : SD) (h : Nat → IH) (L : Nat → List Nat) : Prop where
 cap : s.len ≤ s.cap
 max : s.len ≤ 140737488355328
 sl : Sl W s.a (rowC s.len h)
 ent : ∀ j, j < s.len → RawI W (h j) (L j)
structure RawM (W : World) (a : Option Addr) (n : Nat) (s : Nat → SD) (h : Nat → Nat → IH) (L : Nat → Nat → List Nat) : Prop where
 max : n ≤ 140737488355328
 top : Sl W a (topC n s)
 row : ∀ i, i < n → RawR W (s i) (h i) (L i)
theorem RawI.ext {W W' : World} {x : IH} {L : List Nat} (h : RawI W x L) (e : Ex W W') : RawI W' x L := ⟨h.len, h.cap, h.max, h.sl.ext e, h.lim⟩
theorem RawR.ext {W W' : World} {s : SD} {h : Nat → IH} {L : Nat → List Nat} (H : RawR W s h L) (e : Ex W W') : RawR W' s h L := ⟨H.cap, H.max, H.sl.ext e, fun j hj => (H.ent j hj).ext e⟩
theorem RawM.ext {W W' : World} {a : Option Addr} {n : Nat} {s : Nat → SD} {h : Nat → Nat → IH} {L : Nat → Nat → List Nat} (H : RawM W a n s h L) (e : Ex W W') : RawM W' a n s h L := ⟨H.max, H.top.ext e, fun i hi => (H.row i hi).ext e⟩
theorem gU {H : Type} {P : Program} {e : TypeId} : ∀ {l : List (DataW H)} {d : DataW H}, d ∈ l → ∀ n ∈ d.weights P e, n ∈ DataW.weightsAll P e l
 | [], _, h => by simp at h
 | x :: l, d, h => fun n hn => by
  simp only [DataW.weightsAll, List.mem_append]
  rcases List.mem_cons.1 h with rfl | h
  ·exact .inl hn
  ·exact .inr (gU h n hn)
theorem fJ {H : Type} {P : Program} {t e : TypeId} {elems spare : List (DataW H)} (ht : P.underlying t = some (.slice e)) (hb : 1 ≤ P.bytesOf e) (h : ∀ n ∈ (DataW.slice elems spare).weights P t, n ≤ reachBytes) :
  elems.length ≤ 140737488355328 ∧ ∀ d ∈ elems, ∀ n ∈ d.weights P e, n ≤ reachBytes := by
 have hw : (DataW.slice elems spare).weights P t = (elems.length + spare.length) * P.bytesOf e :: (DataW.weightsAll P e elems ++ DataW.weightsAll P e spare) := by simp [DataW.weights, ht]
 rw [hw] at h
 constructor
 ·have h1 := h _ List.mem_cons_self
  have h2 : elems.length ≤ (elems.length + spare.length) * P.bytesOf e := Nat.le_trans (Nat.le_add_right _ _) (Nat.le_mul_of_pos_right _ hb)
  have h3 : reachBytes = 140737488351232 := by decide
  omega
 ·intro d hd n hn
  exact h n (List.mem_cons_of_mem _ (List.mem_append_left _ (gU hd n hn)))
theorem mH {H : Type} {P : Program} {t : TypeId} {f0 f1 : Field} {d0 d1 : DataW H} (ht : P.underlying t = some (.struct #[f0, f1])) (h : ∀ n ∈ (DataW.agg [d0, d1]).weights P t, n ≤ reachBytes) : ∀ n ∈ d1.weights P f1.type, n ≤ reachBytes := by
 have hw : (DataW.agg [d0, d1]).weights P t = DataW.weightsEach P [f0.type, f1.type] [d0, d1] := by simp [DataW.weights, ht]
 rw [hw] at h
 intro n hn
 refine h n ?_
 simp only [DataW.weightsEach, List.mem_append]
 exact .inr (.inl hn)
section
variable {H : Type} {enc : TypeId × Value → H} {P : Program} {W W' : World}
theorem sQ (n : Nat) (h : Nat → IH) : rowC n h = (List.range (n * 2)).map fun c => if c % 2 = 0 then .bool (h (c / 2)).neg else .slice (h (c / 2)).sd.a (h (c / 2)).sd.len (h (c / 2)).sd.cap := by
 induction n with
 | zero => rfl
 | succ n ih =>
  rw [cY, ih, show (n + 1) * 2 = n * 2 + 1 + 1 by omega, List.range_succ, List.range_succ]
  simp [IH.cells, show n * 2 / 2 = n by omega, show (n * 2 + 1) / 2 = n by omega, show (n * 2 + 1) % 2 = 1 by omega]
theorem sR {a : Option Addr} {n : Nat} {h : Nat → IH} (hn : a = none → n = 0) (hc : ∀ a', a = some a' → ∀ i, i < n → W.cell? (a'.add (i * 2)) = some (.bool (h i).neg) ∧ W.cell? (a'.add (i * 2 + 1)) = some (.slice (h i).sd.a (h i).sd.len (h i).sd.cap)) :
  Sl W a (rowC n h) := by
 rw [sQ]
 refine mI (fun e => by rw [hn e]) fun a' e c hc' => ?_
 have := hc a' e (c / 2) (by omega)
 by_cases h2 : c % 2 = 0
 ·rw [if_pos h2]; rw [show c / 2 * 2 = c by omega] at this; exact this.1
 ·rw [if_neg h2]; rw [show c / 2 * 2 + 1 = c by omega] at this; exact this.2
theorem oE {t e : TypeId} {fuel : Nat} {v : Value} {x : DataW H × List MemPlace} (ht : P.underlying t = some (.slice e)) (he : P.underlying e = some (.int .u32)) (hc : P.cellsOf e = 1) (hb : 1 ≤ P.bytesOf e) (hw0 : ∀ n ∈ x.1.weights P t, n ≤ reachBytes)
  (hf : DataW.trod enc P W 0 (fun _ => true) true fuel t [v] = some x) : ∃ (s : SD) (L : List Nat), v = .slice s.a s.len s.cap ∧ ∀ neg, RawI W ⟨neg, s⟩ L := by
 rcases open_ints ht he hc hf with ⟨hcs, hx⟩ | ⟨a, len, cap, zs, hcs, _, hl, hm, hz, hx, hcell, hwz⟩
 ·simp only [List.cons.injEq, and_true] at hcs
  subst hcs
  exact ⟨sd0, [], rfl, fun neg => ⟨rfl, Nat.le_refl _, Nat.zero_le _, Sl.nil _ _, fun d hd => by simp at hd⟩⟩
 ·simp only [List.cons.injEq, and_true] at hcs
  subst hcs
  simp only [if_true] at hz
  unfold maxLen at hm
  subst hx
  have hwl := (fJ ht hb hw0).1
  have hwl2 : len ≤ 140737488355328 := by
   have : (lits .u32 (zs.take len) : List (DataW H)).length = len := by simp [lits]; omega
   omega
  have hw : ∀ c, c < cap → 0 ≤ zs.getD c 0 ∧ zs.getD c 0 < 4294967296 := fun c hc => by
   have h1 := hwz (zs.getD c 0) (by rw [List.getD_eq_getElem?_getD, List.getElem?_eq_getElem (show c < zs.length by omega)]; exact List.getElem_mem _)
   have h2 : 0 ≤ zs.getD c 0 ∧ zs.getD c 0 ≤ 4294967295 := by simpa [Lit.wf, IntKind.min, IntKind.max, IntKind.signed, IntKind.bits] using h1
   omega
  refine ⟨⟨some a, len, cap⟩, (List.range len).map fun c => (zs.getD c 0).toNat, rfl, fun neg => ⟨by simp, by simpa using hl, hwl2, ?_, fun d hd => ?_⟩⟩
  ·rw [limbsL, List.map_map]
   refine mI (fun e => nomatch e) fun a' e c hc' => ?_
   cases e
   have h1 := hw c (by omega)
   rw [hcell c (by omega)]
   show some (Value.int .u32 (zs.getD c 0)) = some (Value.int .u32 (((zs.getD c 0).toNat : Nat) : Int))
   rw [Int.toNat_of_nonneg h1.1]
  ·rw [List.mem_map] at hd
   obtain ⟨c, hc', rfl⟩ := hd
   have h1 := hw c (by have := List.mem_range.1 hc'; omega)
   omega
theorem jF {t e : TypeId} {f0 f1 : Field} {q : TypeId} {fuel : Nat} {v : Value} {x : DataW H × List MemPlace} (ht : P.underlying t = some (.slice e)) (he : P.underlying e = some (.struct #[f0, f1]))
  (ce : P.cellsOf e = 2) (o0 : f0.offset = 0) (o1 : f1.offset = 1) (c0 : P.cellsOf f0.type = 1) (c1 : P.cellsOf f1.type = 1) (t0 : P.underlying f0.type = some .bool) (t1 : P.underlying f1.type = some (.slice q)) (tq : P.underlying q = some (.int .u32)) (cq : P.cellsOf q = 1) (be : 1 ≤ P.bytesOf e) (bq : 1 ≤ P.bytesOf q) (hw0 : ∀ n ∈ x.1.weights P t, n ≤ reachBytes)
  (hf : DataW.trod enc P W 0 (fun _ => true) true fuel t [v] = some x) : ∃ (s : SD) (h : Nat → IH) (L : Nat → List Nat), v = .slice s.a s.len s.cap ∧ RawR W s h L := by
 rcases Go.Deep.open_slice_pairs ht he ce o0 o1 c0 c1 hf with ⟨hcs, hx⟩ | ⟨a, len, cap, m, n, V0, V1, D0, D1, P0, P1, hcs, _, hl, hm, hmm, hx, hcell⟩
 ·simp only [List.cons.injEq, and_true] at hcs
  subst hcs
  exact ⟨sd0, fun _ => ih0, fun _ => [], rfl, ⟨Nat.le_refl _, by decide, Sl.nil _ _, fun j hj => absurd hj (Nat.not_lt_zero _)⟩⟩
 ·simp only [List.cons.injEq, and_true] at hcs
  subst hcs
  simp only [if_true] at hmm
  unfold maxLen at hm
  subst hx
  obtain ⟨hwl, hwe⟩ := fJ ht be hw0
  simp only [List.length_map, List.length_range] at hwl
  have each : ∀ i, i < len → ∃ q : IH × List Nat, V0 i = .bool q.1.neg ∧ V1 i = .slice q.1.sd.a q.1.sd.len q.1.sd.cap ∧ RawI W q.1 q.2 := fun i hi => by
   obtain ⟨_, _, h0, h1⟩ := hcell i (by omega)
   obtain ⟨b, hb, _⟩ := DataW.trod_bool t0 h0
   obtain ⟨s, L, hs, hL⟩ := oE t1 tq cq bq (mH he (hwe _ (List.mem_map.2 ⟨i, List.mem_range.2 hi, rfl⟩))) h1
   simp only [List.cons.injEq, and_true] at hb
   exact ⟨(⟨b, s⟩, L), hb, hs, hL b⟩
  obtain ⟨q, hq⟩ := Go.Deep.choose_lt each
  refine ⟨⟨some a, len, cap⟩, fun i => (q i).1, fun i => (q i).2, rfl, ⟨hl, hwl, sR (fun e => nomatch e) fun a' e i hi => ?_, fun j hj => (hq j hj).2.2⟩⟩
  cases e
  obtain ⟨h0, h1, _⟩ := hcell i (by show i < m; have : i < len := hi; omega)
  obtain ⟨e0, e1, _⟩ := hq i hi
  rw [h0, h1, e0, e1]
  exact ⟨rfl, rfl⟩
theorem mJ {u t e : TypeId} {f0 f1 : Field} {q : TypeId} {fuel : Nat} {v : Value} {x : DataW H × List MemPlace} (hu : P.underlying u = some (.slice t)) (cu : P.cellsOf t = 1) (ht : P.underlying t = some (.slice e)) (he : P.underlying e = some (.struct #[f0, f1]))
  (ce : P.cellsOf e = 2) (o0 : f0.offset = 0) (o1 : f1.offset = 1) (c0 : P.cellsOf f0.type = 1) (c1 : P.cellsOf f1.type = 1) (t0 : P.underlying f0.type = some .bool) (t1 : P.underlying f1.type = some (.slice q)) (tq : P.underlying q = some (.int .u32)) (cq : P.cellsOf q = 1) (bt : 1 ≤ P.bytesOf t) (be : 1 ≤ P.bytesOf e) (bq : 1 ≤ P.bytesOf q) (hw0 : ∀ n ∈ x.1.weights P u, n ≤ reachBytes)
  (hf : DataW.trod enc P W 0 (fun _ => true) true fuel u [v] = some x) : ∃ (a : Option Addr) (n c : Nat) (s : Nat → SD) (h : Nat → Nat → IH) (L : Nat → Nat → List Nat), v = .slice a n c ∧ RawM W a n s h L := by
 rcases Go.Deep.open_slice1 hu cu hf with ⟨hcs, hx⟩ | ⟨a, len, cap, m, n, V, D, Pl, hcs, _, hl, hm, hmm, hx, hcell⟩
 ·simp only [List.cons.injEq, and_true] at hcs
  subst hcs
  exact ⟨none, 0, 0, fun _ => sd0, fun _ _ => ih0, fun _ _ => [], rfl, ⟨by decide, Sl.nil _ _, fun j hj => absurd hj (Nat.not_lt_zero _)⟩⟩
 ·simp only [List.cons.injEq, and_true] at hcs
  subst hcs
  simp only [if_true] at hmm
  unfold maxLen at hm
  subst hx
  obtain ⟨hwl, hwe⟩ := fJ hu bt hw0
  simp only [List.length_map, List.length_range] at hwl
  have each : ∀ i, i < len → ∃ q : SD × (Nat → IH) × (Nat → List Nat), V i = .slice q.1.a q.1.len q.1.cap ∧ RawR W q.1 q.2.1 q.2.2 := fun i hi => by
   obtain ⟨s, h, L, hv, hR⟩ := jF ht he ce o0 o1 c0 c1 t0 t1 tq cq be bq (hwe _ (List.mem_map.2 ⟨i, List.mem_range.2 hi, rfl⟩)) (hcell i (by omega)).2
   exact ⟨(s, h, L), hv, hR⟩
  obtain ⟨q, hq⟩ := Go.Deep.choose_lt each
  refine ⟨some a, len, cap, fun i => (q i).1, fun i => (q i).2.1, fun i => (q i).2.2, rfl, ⟨hwl, mI (fun e => nomatch e) fun a' e i hi => ?_, fun j hj => (hq j hj).2⟩⟩
  cases e
  rw [(hcell i (by omega)).1, (hq i hi).1]
  rfl
end
set_option maxRecDepth 100000
theorem gV : ∃ f0 f1, Tryz.prog.underlying 43 = some (.struct #[f0, f1]) ∧ f0.type = 4 ∧ f1.type = 41 ∧ f0.offset = 0 ∧ f1.offset = 1 :=
 ⟨(Tryz.prog.fieldsOf 43)[0]!, (Tryz.prog.fieldsOf 43)[1]!, by kernel_rfl, by kernel_rfl, by kernel_rfl, by kernel_rfl, by kernel_rfl⟩
theorem vt {H : Type} {enc : TypeId × Value → H} {W : World} {v : Value} {d : DataW H} {ps : List MemPlace} {r : Reach} {b0 : Nat} (hval : Value.okWide Tryz.prog W r b0 25 v) (h : DataW.Trod enc Tryz.prog W 0 (fun _ => true) true 25 v d ps) (hw0 : ∀ n ∈ d.weights Tryz.prog 25, n ≤ reachBytes) :
  ∃ (a : Option Addr) (n c : Nat) (s : Nat → SD) (h : Nat → Nat → IH) (L : Nat → Nat → List Nat), v = .slice a n c ∧ RawM W a n s h L := by
 obtain ⟨f0, f1, hs, h0, h1, o0, o1⟩ := gV
 obtain ⟨a0, len, cap, rfl⟩ := okWide_slice (e := 31) (by kernel_rfl) hval
 obtain ⟨fuel, hf⟩ := h
 exact mJ (t := 31) (e := 43) (q := 113) (by kernel_rfl) (by kernel_rfl) (by kernel_rfl) hs (by kernel_rfl) o0 o1 (by rw [h0]; kernel_rfl) (by rw [h1]; kernel_rfl) (by rw [h0]; kernel_rfl) (by rw [h1]; kernel_rfl) (by kernel_rfl) (by kernel_rfl) (Nat.le_of_ble_eq_true (by kernel_rfl)) (Nat.le_of_ble_eq_true (by kernel_rfl)) (Nat.le_of_ble_eq_true (by kernel_rfl)) hw0 hf
end Go.Proofs.YtiejljicpinheaaGreat
