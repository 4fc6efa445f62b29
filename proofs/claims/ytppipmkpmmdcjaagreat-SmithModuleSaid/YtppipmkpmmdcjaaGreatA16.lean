import Derived.Test.YtppipmkpmmdcjaaGreatA15
namespace Go.LA
theorem HF.piv {rows cols k c q : Nat} {H : Mat} {p : Nat → Nat} (h : HF rows cols H k p) (hc : c < cols) (hq : q < rows) (hz : ∀ x, x < q → H x c = 0) (hne : H q c ≠ 0) : c < k ∧ p c = q := by
 have hk : c < k := by
  rcases Nat.lt_or_ge c k with h' | h'
  ·exact h'
  ·exact absurd (h.rest c h' hc q hq) hne
 refine ⟨hk, ?_⟩
 rcases Nat.lt_trichotomy (p c) q with h' | h' | h'
 ·have := h.pos c hk; rw [hz _ h'] at this; omega
 ·exact h'
 ·exact absurd (h.zero c hk q h') hne
theorem HF.zcol {rows c k : Nat} {H : Mat} {p : Nat → Nat} (h : HF rows c H k p) (hz : ∀ r, r < rows → H r c = 0) : HF rows (c + 1) H k p :=
 ⟨Nat.le_succ_of_le h.kc, h.lt, h.mono, h.zero, h.pos, h.red, fun c' h1 h2 r hr => by
  by_cases e : c' = c
  ·subst e; exact hz r hr
  ·exact h.rest c' h1 (by omega) r hr⟩
theorem HF.snoc {rows c q : Nat} {H : Mat} {p p' : Nat → Nat} (h : HF rows c H c p) (hp : ∀ i, i < c → p' i = p i) (hp' : p' c = q) (hq : q < rows) (hz : ∀ x, x < q → H x c = 0) (hpos : 0 < H q c) (hm : ∀ i, i < c → p i < q) (hr : ∀ j, j < c → 0 ≤ H q j ∧ H q j < H q c) : HF rows (c + 1) H (c + 1) p' := by
 refine ⟨Nat.le_refl _, fun i hi => ?_, fun i j hij hj => ?_, fun i hi r hr' => ?_, fun i hi => ?_, fun i hi j hj => ?_, fun i h1 h2 => by omega⟩
 ·by_cases e : i = c
  ·subst e; rw [hp']; exact hq
  ·rw [hp i (by omega)]; exact h.lt i (by omega)
 ·rw [hp i (by omega)]
  by_cases e : j = c
  ·subst e; rw [hp']; exact hm i hij
  ·rw [hp j (by omega)]; exact h.mono i j hij (by omega)
 ·by_cases e : i = c
  ·subst e; rw [hp'] at hr'; exact hz r hr'
  ·rw [hp i (by omega)] at hr'; exact h.zero i (by omega) r hr'
 ·by_cases e : i = c
  ·subst e; rw [hp']; exact hpos
  ·rw [hp i (by omega)]; exact h.pos i (by omega)
 ·by_cases e : i = c
  ·subst e; rw [hp']; exact hr j hj
  ·rw [hp i (by omega)]; exact h.red i (by omega) j hj
theorem sA (rows : Nat) (H : Mat) (p : Nat → Nat) : HF rows 0 H 0 p :=
 ⟨Nat.le_refl _, fun i h => by omega, fun i j _ h => by omega, fun i h => by omega, fun i h => by omega, fun i h => by omega, fun i _ h => by omega⟩
end Go.LA
namespace Go.Proofs.YtppipmkpmmdcjaaGreat
open Go.W Go.LM Go.LA
theorem jA {P : Program} {S : World → Prop} {ops : List Oper} {K : Env → World → Prop} {rest : List (Oper × Option Bool)} {ρ : Env} {w : World} {b : Option Bool} {d : Nat} {T T' : TypeId} {pos : String} {af : Array Edge} {x y : Operand} {k : IntKind} {m m' : Int} {T'' : TypeId}
  (hx : ev ρ x = .int k m) (hy : ev ρ y = .int k m') (hd : m ≠ m') (h : RR P S ops K rest (upd ρ d (.bool true)) w) : RR P S ops K ((⟨some d, .binOp .neq T' x y T'', T, pos, af, none⟩, b) :: rest) ρ w :=
 kn hx hy (by rw [decide_eq_true hd]; exact h)
theorem tO {P : Program} {S : World → Prop} {ops : List Oper} {K : Env → World → Prop} {rest : List (Oper × Option Bool)} {ρ : Env} {w : World} {b : Option Bool} {d : Nat} {T T' : TypeId} {pos : String} {af : Array Edge} {x y : Operand} {k : IntKind} {m m' : Int} {T'' : TypeId}
  (hx : ev ρ x = .int k m) (hy : ev ρ y = .int k m') (hd : m' ≤ m) (h : RR P S ops K rest (upd ρ d (.bool true)) w) : RR P S ops K ((⟨some d, .binOp .geq T' x y T'', T, pos, af, none⟩, b) :: rest) ρ w :=
 ue hx hy (by rw [decide_eq_true hd]; exact h)
def RetPiv (r c : Nat) (F : Mat) (w : World) (v : Value) (w' : World) : Prop :=
 ∃ (t : Bool) (sd : SD) (f : Nat → Nat) (k : Nat), v = .tuple #[.slice sd.a sd.len sd.cap, .bool t] ∧ (t = true → NatG w' w.heap.size 3 k sd f ∧ HF r c F k f) ∧ (t = false → ¬ ∃ k p, HF r c F k p) ∧ Ex w w'
set_option maxHeartbeats 4000000 in
theorem oz {cn : Bool} {K r c cap : Nat} {w : World} {a : Option Addr} {s : Nat → SD} {F : Mat} (hM : MX cn K w a r c s F) (hr : 1 ≤ r ∧ r ≤ 16) (hc : 1 ≤ c ∧ c ≤ 16) (_hK : K < 17592186044415) :
  CallsR Tryz.prog 26 #[.slice a r cap] w (RetPiv r c F w) := by
 have hpt := hM.plain (by omega)
 refine aH (args := [_]) Tryz.func26 rfl rfl ?_
 repeat' (first|refine ai rfl ?_|refine aa ?_|refine aj ?_|refine ah rfl ?_|refine ae ?_)
 refine av (ez hM.top) rfl ?_
 rintro v w1 ⟨rfl, hE1⟩
 refine ⟨fun _ _ => trivial, ?_⟩
 rw [em hM hr hc]
 repeat' (first|refine aS rfl rfl ?_|refine ai rfl ?_|refine aa ?_|refine aj ?_|refine ah rfl ?_|refine ae ?_|refine ay rfl ?_|refine aA ?_|refine aF ?_)
 have s1 := hE1.size
 refine aY (ι := (Nat × SD) × (Nat → Nat) × Nat) [2, 3, 7, 8, 9, 11, 21, 22, 23, 24, 25, 26, 27, 28, 29, 30, 31, 32, 33, 34, 35, 36, 37, 38, 39, 40, 41, 42, 43, 44, 45, 46, 47, 48, 49, 50, 51, 52, 53, 54, 55, 56, 57, 58, 59, 60, 61, 62, 63, 64, 65, 66, 67, 68, 69, 70, 71, 72, 73, 74, 75, 76, 77, 78, 79, 80, 81, 82, 83, 84, 85, 86, 87, 88, 89, 90, 91, 92, 93, 94, 95, 96, 97, 98, 99, 100, 101, 102] (fun t => [(21, .int .i64 (t.1.1 : Int)), (7, .slice t.1.2.a t.1.2.len t.1.2.cap)])
  (fun t w' => (t.1.1 ≤ c ∧ Ex w1 w') ∧ NatG w' w1.heap.size 3 t.2.2 t.1.2 t.2.1 ∧ HF r t.1.1 F t.2.2 t.2.1) (fun t => c - t.1.1)
  ((0, sd0), fun _ => 0, 0) ⟨rfl, rfl, trivial⟩ ⟨⟨by simp only; omega, Ex.refl _⟩, NatG.nil _ _ _ _, sA _ _ _⟩ ?_
 rintro ⟨⟨c0, sd⟩, f, k⟩ ξ w2 ⟨⟨hc0, hE2⟩, hN2, hF⟩
 simp only at hc0 hN2 hF
 show CW _ _ _ _ (over [(21, .int .i64 (c0 : Int)), (7, .slice sd.a sd.len sd.cap)] _) w2
 have hlen := hN2.1
 have hE02 := hE1.trans hE2
 rcases Nat.lt_or_ge c0 c with hcc | hcc
 ·repeat' (first|refine bC rfl rfl (by omega) ?_|refine aa ?_|refine aj ?_|refine ah rfl ?_|refine ae ?_|refine aD rfl ?_|refine aF ?_)
  refine aA ?_
  repeat' (first|refine ai rfl ?_|refine aa ?_|refine aj ?_|refine ah rfl ?_|refine ae ?_)
  refine cD (ι := Nat) [9, 24, 25, 26, 27, 28, 29, 30, 31, 32, 33, 34, 35, 36, 37, 38, 39] (fun p => [(9, .int .i64 (p : Int))])
   (fun p w' => Ex w2 w' ∧ p ≤ r ∧ (∀ q, q < p → F q c0 = 0) ∧ (p < r → F p c0 ≠ 0)) ?_ ?_
  ·refine aA ?_
   refine aY (ι := Nat) [9, 24, 25, 26, 27, 28, 29, 30, 31, 32, 33, 34, 35, 36, 37, 38, 39] (fun p => [(9, .int .i64 (p : Int))]) (fun p w' => Ex w2 w' ∧ p ≤ r ∧ (∀ q, q < p → F q c0 = 0)) (fun p => r - p)
    0 ⟨rfl, trivial⟩ ⟨Ex.refl _, by omega, fun q h => by omega⟩ ?_
   rintro p ξ3 w7 ⟨hE7, hpr, hz⟩
   show CW _ _ _ _ (over [(9, .int .i64 (p : Int))] _) w7
   rcases Nat.lt_or_ge p r with hp | hp
   ·obtain ⟨pa, d, hh, e1, e2, hpp, hS, hEn⟩ := (hM.ext (hE02.trans hE7)).get hp (by omega)
    repeat' (first|refine bC rfl rfl (by omega) ?_|refine aC (j := p) (a := a) rfl rfl hpt (by omega) ?_|refine aU (j := p) (a := a) (n := r) (s := s) rfl (hM.ext (hE02.trans hE7)).top (by omega) e1 ?_|refine aT (j := c0) (a := pa) rfl rfl hpp (by omega) ?_|refine bu (j := c0) (a := pa) rfl hS hpp (by omega) ?_|refine ai rfl ?_|refine aj ?_|refine ah rfl ?_|refine bR rfl rfl ?_)
    refine av (bP (hEn c0 (by omega)).k) rfl ?_
    rintro v w8 ⟨rfl, hE8⟩
    refine ⟨fun _ _ => trivial, ?_⟩
    repeat' (first|refine ai rfl ?_|refine aa ?_|refine ah rfl ?_|refine ae ?_|refine bR rfl rfl ?_|refine aZ rfl rfl (by omega) (by omega) ?_|refine aP rfl (fun hc => ?_) (fun hc => ?_)|refine aA ?_|refine aV ?_|refine aL ?_|refine aW ?_|refine aK ?_|refine aF ?_)
    ·refine ⟨⟨p + 1, ⟨hE7.trans hE8, by omega, fun q h1 => ?_⟩, by omega, rfl, trivial⟩, (by (repeat (first|exact aE _ _ _|refine aw rfl ?_|refine au rfl ?_|refine ak rfl ?_|refine ao rfl ?_)))⟩
     by_cases hqp : q = p
     ·subst hqp; exact Int.sign_eq_zero_iff_zero.1 (by assumption)
     ·exact hz q (by omega)
    ·exact ⟨⟨p, ⟨hE7.trans hE8, hpr, hz, fun _ e => absurd (show (F p c0).sign = 0 by rw [e]; rfl) (by assumption)⟩, rfl, trivial⟩, (by (repeat (first|exact aM _ _|refine aw rfl ?_|refine au rfl ?_|refine ak rfl ?_|refine ao rfl ?_)))⟩
   ·repeat' (first|refine bA rfl rfl (by omega) ?_|refine ai rfl ?_|refine aa ?_|refine aj ?_|refine ah rfl ?_|refine ae ?_|refine cB rfl rfl ?_|refine ay rfl ?_|refine aV ?_|refine aL ?_|refine aW ?_)
    exact ⟨⟨p, ⟨hE7, hpr, hz, fun h => by omega⟩, rfl, trivial⟩, (by (repeat (first|exact aM _ _|refine aw rfl ?_|refine au rfl ?_|refine ak rfl ?_|refine ao rfl ?_)))⟩
  ·rintro p ξ3 w7 ⟨hE7, hpr, hz, hnz⟩
   show CW _ _ _ _ (over [(9, .int .i64 (p : Int))] _) w7
   have hE07 := hE02.trans hE7
   have hE17 := hE2.trans hE7
   have hN7 := hN2.ext hE7
   rcases Nat.lt_or_ge p r with hp | hp
   ·have hne := hnz hp
    have hend : ∀ k' p', HF r c F k' p' → c0 < k' ∧ p' c0 = p := fun k' p' h => h.piv hcc hp hz hne
    obtain ⟨pa, d, hh, e1, e2, hpp, hS, hEn⟩ := (hM.ext hE07).get hp (by omega)
    by_cases hkc : k = c0
    ·subst hkc
     have hsl := hN7.sl
     rw [ip] at hsl
     have hno : ∀ {P : Prop}, (∀ k' p', HF r c F k' p' → k < k' → p' k = p → False) → ¬ ∃ k' p', HF r c F k' p' := fun h ⟨k', p', h'⟩ => h k' p' h' (hend k' p' h').1 (hend k' p' h').2
     by_cases hmo : ∀ i, i < k → f i < p
     ·by_cases hpos : 0 < F p k
      ·have hsg : ¬ (F p k).sign < 0 := fun h => by have := cW.1 h; omega
       repeat' (first|refine gq rfl rfl (by omega) ?_|refine fd rfl rfl (by omega) ?_|(refine aC (j := k - 1) (a := sd.a) rfl (show Value.int .i64 ((k : Int) - 1) = .int .i64 ((k - 1 : Nat) : Int) by congr 1; omega) (hsl.plain (by simp; omega)) (by omega) ?_)|(refine bI (j := k - 1) (xs := (List.range k).map f) rfl hsl (by simp; omega) ?_)|(refine rN rfl rfl (by rw [dY _ (by omega)]; have := hmo (k - 1) (by omega); omega) ?_)|refine aC (j := p) (a := a) rfl rfl hpt (by omega) ?_|refine aU (j := p) (a := a) (n := r) (s := s) rfl (hM.ext hE07).top (by omega) e1 ?_|refine aT (j := k) (a := pa) rfl rfl hpp (by omega) ?_|refine bu (j := k) (a := pa) rfl hS hpp (by omega) ?_|refine ai rfl ?_|refine aa ?_|refine aj ?_|refine ah rfl ?_|refine ae ?_|refine bh rfl ?_|refine bR rfl rfl ?_|refine cB rfl rfl ?_|refine eL rfl rfl (fun hc => ?_) (fun hc => ?_)|refine cO rfl rfl (by omega) (by omega) ?_|refine ay rfl ?_|refine aF ?_)
       all_goals
        refine av (bP (hEn k (by omega)).k) rfl ?_
        rintro v w8 ⟨rfl, hE8⟩
        refine ⟨fun _ _ => trivial, ?_⟩
        have hM8 := hM.ext (hE07.trans hE8)
        have hS8 := hS.ext hE8
        repeat' (first|refine bA rfl rfl (by omega) ?_|refine aC (j := p) (a := a) rfl rfl hpt (by omega) ?_|refine aU (j := p) (a := a) (n := r) (s := s) rfl hM8.top (by omega) e1 ?_|refine ic rfl rfl (by omega) (by omega) ?_|refine ai rfl ?_|refine aa ?_|refine aj ?_|refine ah rfl ?_|refine ae ?_|refine bh rfl ?_|refine bR rfl rfl ?_|refine ay rfl ?_|refine aA ?_|refine aF ?_)
        refine aY (ι := Nat) [2, 3, 11, 78, 79, 80, 81, 82, 83, 84, 85, 86, 87, 88, 89, 90, 91, 92, 93, 94, 95, 96, 97] (fun q => [(78, .int .i64 (q : Int))])
         (fun q w' => q ≤ k ∧ Ex w8 w' ∧ ∀ j, j < q → 0 ≤ F p j ∧ F p j < F p k) (fun q => k - q)
         0 ⟨rfl, trivial⟩ ⟨by omega, Ex.refl _, fun j h => by omega⟩ ?_
        rintro q ξ4 w9 ⟨hqk, hE9, hred⟩
        show CW _ _ _ _ (over [(78, .int .i64 (q : Int))] _) w9
        have hE79 := hE8.trans hE9
        have hE09 := hE07.trans hE79
        rcases Nat.lt_or_ge q k with hq | hq
        ·repeat' (first|refine bC rfl rfl (by omega) ?_|refine aT (j := q) (a := pa) rfl rfl hpp (by omega) ?_|refine bu (j := q) (a := pa) rfl (hS.ext hE79) hpp (by omega) ?_|refine aa ?_|refine aj ?_|refine ah rfl ?_|refine ae ?_|refine aD rfl ?_|refine aA ?_|refine aF ?_)
         refine aB (fun g11 w10 hn10 => ⟨fun _ _ => trivial, ?_⟩)
         have hb10 : Blk w10 g11 33 (intL false none 0 0) := hn10.blk
         refine ax (n := 2) (vs := (hh q).cells) rfl rfl rfl rfl hb10 rfl (fun w11 hc11 hb11 => ⟨fun _ _ => trivial, ?_⟩)
         have hE911 : Ex w9 w11 := hn10.ex.chg hc11 hn10.lo
         have hE711 := hE79.trans hE911
         have hE011 := hE07.trans hE711
         repeat' (first|refine aa ?_|refine aj ?_|refine ae ?_)
         refine bi (late := []) (plan := [(0, none), (1, some true), (2, none), (3, none), (4, none), (5, none), (6, none), (7, none), (8, none), (9, none), (10, none), (11, none), (12, some true), (13, none), (14, none)]) (fun w' => Ex w11 w') bB (by kernel_rfl) (Ex.refl w11).drew ?_
         have hEd := (Ex.refl w11).drew
         repeat' (first|refine aN (g := g11) rfl (fun _ h => hb11.ext h) rfl ?_)
         refine av (bP ((hEn q (by omega)).ext (hE711.trans hEd)).k) rfl ?_
         rintro v w12 ⟨rfl, hE12⟩
         refine ⟨fun _ h => h.trans hE12, ?_⟩
         have hEd12 := hEd.trans hE12
         by_cases hq0 : F p q < 0
         ·repeat' (first|refine bC rfl rfl (cW.2 hq0) ?_|refine ai rfl ?_|refine aa ?_|refine aj ?_|refine ah rfl ?_|refine ae ?_|refine cB rfl rfl ?_|refine aD rfl ?_|refine aR ?_|refine bv ?_|refine cN ?_)
          exact eN rfl (rt rfl) (rt rfl) ⟨false, sd0, f, 0, rfl, fun h => (nomatch h), fun _ => hno (P := True) fun k' p' h h1 h2 => by have := h.red k h1 q hq; rw [h2] at this; omega, hE011.trans hEd12⟩
         ·have hsq : ¬ (F p q).sign < 0 := fun h => hq0 (cW.1 h)
          repeat' (first|refine bA rfl rfl (by omega) ?_|refine aN (g := g11) rfl (fun _ h => hb11.ext h) rfl ?_|refine aC (j := p) (a := a) rfl rfl hpt (by omega) ?_|refine aU (j := p) (a := a) (n := r) (s := s) rfl (fun _ h => (hM.ext (hE011.trans h)).top) (by omega) e1 ?_|refine aT (j := k) (a := pa) rfl rfl hpp (by omega) ?_|refine bu (j := k) (a := pa) rfl (fun _ h => hS.ext (hE711.trans h)) hpp (by omega) ?_|refine ai rfl ?_|refine bR rfl rfl ?_)
          refine av (me ((hEn q (by omega)).ext (hE711.trans hEd12)).k ((hEn k (by omega)).ext (hE711.trans hEd12)).k) rfl ?_
          rintro v w13 ⟨rfl, hE13⟩
          refine ⟨fun _ h => h.trans hE13, ?_⟩
          have hE913 := hE911.trans (hEd12.trans hE13)
          by_cases hqm : F p q < F p k
          ·repeat' (first|refine uA rfl rfl (cW.2 (by omega)) ?_|refine ai rfl ?_|refine aa ?_|refine ah rfl ?_|refine ae ?_|refine bR rfl rfl ?_|refine aZ rfl rfl (by omega) (by omega) ?_|refine ay rfl ?_|refine aK ?_|refine aF ?_)
           refine ⟨⟨q + 1, ⟨hq, hE9.trans hE913, fun j hj => ?_⟩, by omega, rfl, trivial⟩, (by (repeat (first|exact aE _ _ _|refine aw rfl ?_|refine au rfl ?_|refine ak rfl ?_|refine ao rfl ?_)))⟩
           by_cases e : j = q
           ·subst e; exact ⟨by omega, hqm⟩
           ·exact hred j (by omega)
          ·have hsg2 : ¬ (F p q - F p k).sign < 0 := fun h => by have := cW.1 h; omega
           repeat' (first|refine tO rfl rfl (by omega) ?_|refine ai rfl ?_|refine aa ?_|refine aj ?_|refine ah rfl ?_|refine ae ?_|refine bR rfl rfl ?_|refine aD rfl ?_|refine aR ?_|refine bv ?_|refine cN ?_)
           exact eN rfl (rt rfl) (rt rfl) ⟨false, sd0, f, 0, rfl, fun h => (nomatch h), fun _ => hno (P := True) fun k' p' h h1 h2 => by have := h.red k h1 q hq; rw [h2] at this; omega, hE09.trans hE913⟩
        ·have eqk : q = k := by omega
         subst eqk
         repeat' (first|refine bA rfl rfl (by omega) ?_|refine ai rfl ?_|refine aa ?_|refine aj ?_|refine ah rfl ?_|refine ae ?_|refine ay rfl ?_|refine aV ?_|refine aL ?_|refine aW ?_)
         have hN9 := hN7.ext hE79
         refine nh (E := 3) (lo := w1.heap.size) (u := p) rfl rfl rfl hN9 (by omega) (by omega) (by have := hE17.size; have := hE79.size; omega) ?_
         intro gt s2' f2 w10 hN10 hf1 hf2 hG10 hA10
         repeat' (first|refine ai rfl ?_|refine aa ?_|refine ah rfl ?_|refine ae ?_|refine aZ rfl rfl (by omega) (by omega) ?_|refine aK ?_)
         exact ⟨⟨((q + 1, s2'), f2, q + 1), ⟨⟨hcc, (hE17.trans hE79).gb hG10 (fun g e => (NatG.blk hN9 g e).1)⟩, hN10, hF.snoc hf1 hf2 hp hz hpos hmo hred⟩, by simp only; omega, rfl, rfl, trivial⟩, (by (repeat (first|exact aE _ _ _|refine aw rfl ?_|refine au rfl ?_|refine ak rfl ?_|refine ao rfl ?_)))⟩
      ·have hng : F p k < 0 := by omega
       repeat' (first|refine gq rfl rfl (by omega) ?_|refine fd rfl rfl (by omega) ?_|(refine aC (j := k - 1) (a := sd.a) rfl (show Value.int .i64 ((k : Int) - 1) = .int .i64 ((k - 1 : Nat) : Int) by congr 1; omega) (hsl.plain (by simp; omega)) (by omega) ?_)|(refine bI (j := k - 1) (xs := (List.range k).map f) rfl hsl (by simp; omega) ?_)|(refine rN rfl rfl (by rw [dY _ (by omega)]; have := hmo (k - 1) (by omega); omega) ?_)|refine aC (j := p) (a := a) rfl rfl hpt (by omega) ?_|refine aU (j := p) (a := a) (n := r) (s := s) rfl (hM.ext hE07).top (by omega) e1 ?_|refine aT (j := k) (a := pa) rfl rfl hpp (by omega) ?_|refine bu (j := k) (a := pa) rfl hS hpp (by omega) ?_|refine ai rfl ?_|refine aa ?_|refine aj ?_|refine ah rfl ?_|refine ae ?_|refine bh rfl ?_|refine bR rfl rfl ?_|refine cB rfl rfl ?_|refine eL rfl rfl (fun hc => ?_) (fun hc => ?_)|refine cO rfl rfl (by omega) (by omega) ?_|refine ay rfl ?_|refine aF ?_)
       all_goals
        refine av (bP (hEn k (by omega)).k) rfl ?_
        rintro v w8 ⟨rfl, hE8⟩
        refine ⟨fun _ _ => trivial, ?_⟩
        repeat' (first|refine bC rfl rfl (cW.2 hng) ?_|refine ai rfl ?_|refine aa ?_|refine aj ?_|refine ah rfl ?_|refine ae ?_|refine bR rfl rfl ?_|refine aD rfl ?_|refine aR ?_|refine bv ?_|refine cN ?_)
        exact eN rfl (rt rfl) (rt rfl) ⟨false, sd0, f, 0, rfl, fun h => (nomatch h), fun _ => hno (P := True) fun k' p' h h1 h2 => by have := h.pos k h1; rw [h2] at this; omega, hE07.trans hE8⟩
     ·obtain ⟨i, hik, hip⟩ : ∃ i, i < k ∧ p ≤ f i := by
       refine Classical.byContradiction fun h => hmo fun i hi => ?_
       refine Classical.byContradiction fun h' => h ⟨i, hi, by omega⟩
      have hfk : p ≤ f (k - 1) := by
       by_cases e : i = k - 1
       ·rw [← e]; exact hip
       ·have := hF.mono i (k - 1) (by omega) (by omega); omega
      repeat' (first|refine gq rfl rfl (by omega) ?_|refine fd rfl rfl (by omega) ?_|refine uB rfl rfl (by omega) ?_|(refine aC (j := k - 1) (a := sd.a) rfl (show Value.int .i64 ((k : Int) - 1) = .int .i64 ((k - 1 : Nat) : Int) by congr 1; omega) (hsl.plain (by simp; omega)) (by omega) ?_)|(refine bI (j := k - 1) (xs := (List.range k).map f) rfl hsl (by simp; omega) ?_)|(refine rp rfl rfl (by rw [dY _ (by omega)]; omega) ?_)|refine ai rfl ?_|refine aa ?_|refine aj ?_|refine ah rfl ?_|refine ae ?_|refine bh rfl ?_|refine bR rfl rfl ?_|refine cB rfl rfl ?_|refine cO rfl rfl (by omega) (by omega) ?_|refine aD rfl ?_|refine ay rfl ?_|refine aR ?_|refine bv ?_|refine cN ?_|refine aF ?_)
      exact eN rfl (rt rfl) (rt rfl) ⟨false, sd0, f, 0, rfl, fun h => (nomatch h), fun _ => hno (P := True) fun k' p' h h1 h2 => by
       have h3 := (h.piv (c := i) (q := f i) (by omega) (hF.lt i hik) (fun x hx => hF.zero i hik x hx) (by have := hF.pos i hik; omega)).2
       have := h.mono i k hik h1
       omega, hE07⟩
    ·have hkl : k < c0 := by have := hF.kc; omega
     repeat' (first|refine gq rfl rfl (by omega) ?_|refine jA rfl rfl (by omega) ?_|refine ai rfl ?_|refine aa ?_|refine aj ?_|refine ah rfl ?_|refine ae ?_|refine bh rfl ?_|refine cB rfl rfl ?_|refine aD rfl ?_|refine ay rfl ?_|refine aR ?_|refine bv ?_|refine cN ?_|refine aF ?_)
     refine eN rfl (rt rfl) (rt rfl) ⟨false, sd0, f, 0, rfl, fun h => (nomatch h), fun _ => ?_, hE07⟩
     rintro ⟨k', p', h⟩
     have h1 := (hend k' p' h).1
     have h2 := h.pos k (by omega)
     rw [hF.rest k (Nat.le_refl _) hkl _ (h.lt k (by omega))] at h2
     omega
   ·have epr : p = r := by omega
    subst epr
    repeat' (first|refine jJ rfl rfl rfl ?_|refine ai rfl ?_|refine aa ?_|refine aj ?_|refine ah rfl ?_|refine ae ?_|refine aZ rfl rfl (by omega) (by omega) ?_|refine aD rfl ?_|refine aV ?_|refine aL ?_|refine aW ?_)
    exact ⟨⟨((c0 + 1, sd), f, k), ⟨⟨hcc, hE17⟩, hN7, hF.zcol hz⟩, by simp only; omega, rfl, rfl, trivial⟩, (by (repeat (first|exact aE _ _ _|refine aw rfl ?_|refine au rfl ?_|refine ak rfl ?_|refine ao rfl ?_)))⟩
 ·have ecc : c0 = c := by omega
  subst ecc
  repeat' (first|refine bA rfl rfl (by omega) ?_|refine ai rfl ?_|refine aa ?_|refine aj ?_|refine ah rfl ?_|refine ae ?_|refine ay rfl ?_|refine aV ?_|refine aL ?_|refine aW ?_|refine aR ?_)
  exact eN rfl (rt rfl) (rt rfl) ⟨true, sd, f, k, rfl, fun _ => ⟨NatG.mono hN2 s1, hF⟩, fun h => (nomatch h), hE02⟩
end Go.Proofs.YtppipmkpmmdcjaaGreat
namespace Go.W
section
variable {P : Program} {S : World → Prop} {ops : List Oper} {K : Env → World → Prop} {rest : List (Oper × Option Bool)} {ρ : Env} {w : World} {b : Option Bool} {kf kf1 kf2 : Bool} {d : Nat} {dst : Option Nat} {T T' : TypeId} {pos : String} {af : Array Edge}
theorem tP {T1 E y n d1 t lo : Nat} {x : Operand} {s : SD} {f : Nat → IH} {u : IH} {T2 : TypeId} {pos2 : String} {af2 : Array Edge} [hT : Slc P T1 E 2 y] [hz : Zro P E (.agg #[.bool false, .slice none 0 0])]
  (hs : ρ t = .slice s.a s.len s.cap) (hx : ev ρ x = u.val) (htd : Nat.beq t d1 = false)
  (hS : ∀ w1 w2, w1.grownBy w2 (Value.slice s.a s.len s.cap).ownBlock → S w1 → S w2)
  (hR : RowG w lo E n s f) (hm : n + 1 ≤ 9223372036854775807) (hb : (n + 1) * y ≤ 140737488355328) (hlo : lo ≤ w.heap.size)
  (h : ∀ g s' f' w', RowG w' lo E (n + 1) s' f' → (∀ i, i < n → f' i = f i) → f' n = u → w.grownBy w' (Value.slice s.a s.len s.cap).ownBlock → (s'.a = s.a ∨ ∀ x, s'.a = some x → w.heap.size ≤ x.block) →
   RR P S ops K rest (upd (upd ρ d1 (.slice (some ⟨g, 0, none⟩) 1 1)) d (.slice s'.a s'.len s'.cap)) w') :
  RR P S ops K ((⟨some d1, .buildSlice T1 1 #[(0, x)], T2, pos2, af2, none⟩, some kf1) :: (⟨some d, .call ⟨.builtin .append, #[.tmp t, .tmp d1], #[T1, T1]⟩, T, pos, af, none⟩, some kf2) :: rest) ρ w := by
 refine fL (E := E) (s := 2) (z := .agg #[.bool false, .slice none 0 0]) (cs := u.val.cells) rfl ?_ (fun g w1 hn => ⟨fun _ hh => hS _ _ ⟨(lA hn.ex).os, (lA hn.ex).tape, (lA hn.ex).output, (lA hn.ex).size, fun k hk _ => (lA hn.ex).block k hk (by simp)⟩ hh, ?_⟩)
 ·simp only [List.map_toArray, List.map_cons, List.map_nil, hx]
  exact gJ (s := 2) rfl (by simp)
 ·refine dA rfl ?_
  unfold OpW
  obtain ⟨i0, hi0, hzz⟩ := Option.map_eq_some_iff.1 hT.sz
  simp only [Prod.mk.injEq] at hzz
  obtain ⟨i1, hi1, hz1⟩ := Option.map_eq_some_iff.1 hz.ok
  rw [hi0] at hi1
  simp only [Option.some.injEq] at hi1
  subst hi1
  have hsz := hn.ex.size
  have hcs : u.val.cells.toList = u.cells := rfl
  obtain ⟨s', w', f', hr, h1, h2, h3, h4, h5⟩ := jT (P := P) (ty := T) hT.un hi0 hz1 hzz.1 hzz.2 (hR.ext hn.ex) (hcs ▸ hn.blk.sl) hm hb (by omega)
  have e1 : ev (upd ρ d1 (.slice (some ⟨g, 0, none⟩) 1 1)) (.tmp t) = .slice s.a s.len s.cap := by
   show upd ρ d1 _ t = _
   simp only [upd, htd, cond_false, hs]
  have e2 : ev (upd ρ d1 (.slice (some ⟨g, 0, none⟩) 1 1)) (.tmp d1) = .slice (some ⟨g, 0, none⟩) 1 1 := by
   show upd ρ d1 _ d1 = _
   rw [eV]
  have : (execOp (ev (upd ρ d1 (.slice (some ⟨g, 0, none⟩) 1 1))) ⟨some d, .call ⟨.builtin .append, #[.tmp t, .tmp d1], #[T1, T1]⟩, T, pos, af, none⟩).run P w1 = .ok (.value (.slice s'.a s'.len s'.cap)) w' := by
   simp [execOp, resolve, invoke, builtin, e1, e2, hr]
  rw [this]
  refine ⟨fun _ hh => hS _ _ h4 hh, h g s' f' w' h1 h2 h3 ?_ (h5.imp id fun hh x hx => by have := hh x hx; omega)⟩
  exact ⟨h4.os.trans hn.ex.os, h4.tape.trans hn.ex.tape, h4.output.trans hn.ex.output, by have := h4.size; omega,
   fun k hk hne => (h4.block k (by omega) hne).trans (hn.ex.block k hk)⟩
end
end Go.W
namespace Go.Proofs.YtppipmkpmmdcjaaGreat
open Go.W Go.LM Go.LA
structure GR (cn : Bool) (K : Nat) (w : World) (lo g r n i j : Nat) (gs cap : Nat → Nat) (F : Nat → Nat → Int) (sd : SD) (h : Nat → IH) : Prop where
 low : lo ≤ g
 top : Blk w g 27 (topC r (setF (fun k => if k < i then ⟨some ⟨gs k, 0, none⟩, n, cap k⟩ else sd0) i sd))
 row : ∀ k, k < i → RO cn K w lo (gs k) (cap k) n (F k)
 off : ∀ k, k < i → gs k ≠ g
 inj : ∀ k l, k < i → l < i → gs k = gs l → k = l
 cur : RowG w lo 33 j sd h
 ent : ∀ l, l < j → Ent cn K w (h l).val (F i l)
 new : ∀ ad, sd.a = some ad → ad.block ≠ g ∧ ∀ k, k < i → gs k ≠ ad.block
section
variable {cn : Bool} {K r n lo g i j : Nat} {w w' w'' : World} {gs cap : Nat → Nat} {F F' : Nat → Nat → Int} {sd sd' : SD} {h h' : Nat → IH}
theorem GR.start (hP : MP cn K w lo g r n i gs cap F) : GR cn K w lo g r n i 0 gs cap F sd0 h :=
 ⟨hP.low, by
  rw [cv (s' := fun k => if k < i then (⟨some ⟨gs k, 0, none⟩, n, cap k⟩ : SD) else sd0) (fun k _ => ?_)]
  ·exact hP.top
  ·by_cases e : k = i
   ·subst e; rw [aJ, if_neg (Nat.lt_irrefl k)]
   ·rw [aO _ _ e], hP.row, hP.off, hP.inj, RowG.nil _ _ _ _, fun l hl => by omega, fun ad e => by cases e⟩
theorem GR.ext (hG : GR cn K w lo g r n i j gs cap F sd h) (e : Ex w w') : GR cn K w' lo g r n i j gs cap F sd h :=
 ⟨hG.low, hG.top.ext e, fun k hk => (hG.row k hk).ext e, hG.off, hG.inj, RowG.ext hG.cur e, fun l hl => (hG.ent l hl).ext e, hG.new⟩
theorem RowG.bk {E : Nat} (hR : RowG w lo E j sd h) : ∀ q, (Value.slice sd.a sd.len sd.cap).ownBlock = some q → lo ≤ q ∧ (∃ ad, sd.a = some ad ∧ ad.block = q) ∧ Blk w q E (rowC sd.cap h) := by
 intro q e
 rcases hR.2 with ⟨h0, _⟩ | ⟨g', h1, h2, h3, h4, h5⟩
 ·rw [h0] at e; cases e
 ·rw [h1] at e; cases e; exact ⟨h2, ⟨_, h1, rfl⟩, h5⟩
theorem Ent.gbR {E : Nat} {v : Value} {z : Int} (hE : Ent cn K w v z) (hR : RowG w lo E j sd h) (hg : w.grownBy w' (Value.slice sd.a sd.len sd.cap).ownBlock) : Ent cn K w' v z := by
 rcases hR.2 with ⟨h0, _⟩ | ⟨g', h1, h2, h3, h4, h5⟩
 ·rw [h0] at hg
  exact hE.ext ⟨hg.os, hg.tape, hg.output, hg.size, fun k hk => hg.block k hk (by simp [Value.ownBlock])⟩
 ·rw [h1] at hg
  exact hE.gbN h5 (bF _ _) hg
theorem GR.topB (hG : GR cn K w lo g r n i j gs cap F sd h) (hg : w.grownBy w' (Value.slice sd.a sd.len sd.cap).ownBlock) : Blk w' g 27 (topC r (setF (fun k => if k < i then ⟨some ⟨gs k, 0, none⟩, n, cap k⟩ else sd0) i sd)) :=
 hG.top.gb hg (fun e => by
  obtain ⟨_, ⟨ad, e1, e2⟩, _⟩ := RowG.bk hG.cur _ e
  exact (hG.new ad e1).1 e2)
theorem GR.app {u : IH} (hG : GR cn K w lo g r n i j gs cap F sd h) (hR : RowG w' lo 33 (j + 1) sd' h') (h1 : ∀ l, l < j → h' l = h l) (h2 : h' j = u) (hg : w.grownBy w' (Value.slice sd.a sd.len sd.cap).ownBlock)
  (hA : sd'.a = sd.a ∨ ∀ x, sd'.a = some x → w.heap.size ≤ x.block) (hu : Ent cn K w u.val (F i j)) (hc : Chg g w' w'') (hT : Blk w'' g 27 (topC r (setF (setF (fun k => if k < i then ⟨some ⟨gs k, 0, none⟩, n, cap k⟩ else sd0) i sd) i sd'))) :
  GR cn K w'' lo g r n i (j + 1) gs cap F sd' h' := by
 have hB := hG.topB hg
 have hnw : ∀ ad, sd'.a = some ad → ad.block ≠ g ∧ ∀ k, k < i → gs k ≠ ad.block := fun ad e => by
  rcases hA with h | h
  ·exact hG.new ad (by rw [← h]; exact e)
  ·have h3 := h ad e
   refine ⟨fun e' => ?_, fun k hk e' => ?_⟩
   ·have := hG.top.lt; omega
   ·have := (hG.row k hk).lt; omega
 refine ⟨hG.low, ?_, fun k hk => ?_, hG.off, hG.inj, hR.gb (bG hc) (fun ad e e' => (hnw ad e).1 (by cases e'; rfl)), fun l hl => ?_, hnw⟩
 ·rw [cv (s' := setF (setF (fun k => if k < i then (⟨some ⟨gs k, 0, none⟩, n, cap k⟩ : SD) else sd0) i sd) i sd') (fun k _ => ?_)]
  ·exact hT
  ·by_cases e : k = i
   ·subst e; rw [aJ, aJ]
   ·rw [aO _ _ e, aO _ _ e, aO _ _ e]
 ·refine RO.gbN ?_ hB (bZ _ _) (bG hc) (hG.off k hk)
  rcases hG.cur.2 with ⟨h0, _⟩ | ⟨g', e1, e2, e3, e4, e5⟩
  ·rw [h0] at hg
   exact (hG.row k hk).ext ⟨hg.os, hg.tape, hg.output, hg.size, fun k hk => hg.block k hk (by simp [Value.ownBlock])⟩
  ·rw [e1] at hg
   exact (hG.row k hk).gbN e5 (bF _ _) hg ((hG.new _ e1).2 k hk)
 ·refine Ent.gbN ?_ hB (bZ _ _) (bG hc)
  by_cases e : l = j
  ·subst e; rw [h2]; exact hu.gbR hG.cur hg
  ·rw [h1 l (by omega)]; exact (hG.ent l (by omega)).gbR hG.cur hg
theorem GR.fin (hG : GR cn K w lo g r n i n gs cap F sd h) (hn : 0 < n) : ∃ gs' cap', MP cn K w lo g r n (i + 1) gs' cap' F := by
 obtain ⟨hl, h0 | ⟨g3, e1, e2, e3, e4, e5⟩⟩ := hG.cur
 ·omega
 ·obtain ⟨a, l, c⟩ := sd
  simp only at hl e1 e3 e4 e5
  subst e1; subst hl
  have hnw := hG.new _ rfl
  simp only at hnw
  refine ⟨setF gs i g3, setF cap i c, hG.low, ?_, fun k hk => ?_, fun k hk => ?_, fun k m hk hm he => ?_⟩
  ·rw [cv (s' := setF (fun k => if k < i then (⟨some ⟨gs k, 0, none⟩, l, cap k⟩ : SD) else sd0) i ⟨some ⟨g3, 0, none⟩, l, c⟩) (fun k _ => ?_)]
   ·exact hG.top
   ·by_cases e : k = i
    ·subst e; rw [aJ, if_pos (Nat.lt_succ_self _), aJ, aJ]
    ·rw [aO _ _ e, aO _ _ e, aO _ _ e]
     by_cases h' : k < i
     ·rw [if_pos h', if_pos (by omega)]
     ·rw [if_neg h', if_neg (by omega)]
  ·by_cases e : k = i
   ·subst e; rw [aJ, aJ]; exact ⟨e2, e3, h, e5, hG.ent⟩
   ·rw [aO _ _ e, aO _ _ e]; exact hG.row k (by omega)
  ·by_cases e : k = i
   ·subst e; rw [aJ]; exact fun e' => hnw.1 e'
   ·rw [aO _ _ e]; exact hG.off k (by omega)
  ·by_cases e1 : k = i
   ·by_cases e2 : m = i
    ·omega
    ·subst e1; rw [aJ, aO _ _ e2] at he; exact absurd he.symm (hnw.2 m (by omega))
   ·by_cases e2 : m = i
    ·subst e2; rw [aJ, aO _ _ e1] at he; exact absurd he (hnw.2 k (by omega))
    ·rw [aO _ _ e1, aO _ _ e2] at he; exact hG.inj k m (by omega) (by omega) he
end
end Go.Proofs.YtppipmkpmmdcjaaGreat
namespace Go.Proofs.YtppipmkpmmdcjaaGreat
open Go.W Go.LM Go.LA
set_option maxHeartbeats 4000000 in
theorem lG {cn cx : Bool} {K Kx r c cap : Nat} {w : World} {a : Option Addr} {s : Nat → SD} {A : Mat} {sx : SD} {X : Nat → Int} (hM : MX cn K w a r c s A) (hX : RX cx Kx w sx r X) (hr : 1 ≤ r ∧ r ≤ 16) (hc : 1 ≤ c ∧ c ≤ 16) (hK1 : 1 ≤ K) (hK : 1000 * K + Kx + 3000 < 4398046511104) :
  CallsR Tryz.prog 11 #[.slice a r cap, .slice sx.a r sx.cap] w fun v w' => ∃ t : Bool, v = .bool t ∧ (t = true ↔ InL r c A X) ∧ Ex w w' := by
 refine aH (args := [_, _]) Tryz.func11 rfl rfl ?_
 repeat' (first|refine ai rfl ?_|refine aa ?_|refine aj ?_|refine ah rfl ?_|refine ae ?_)
 refine av (iq hM hr hc hK1 (by omega)) rfl ?_
 rintro v w1 ⟨g, g', gs, cp, gs', cp', H, U, k0, p0, rfl, hF, hE1⟩
 refine ⟨fun _ _ => trivial, ?_⟩
 repeat' (first|refine aS rfl rfl ?_|refine fd rfl rfl rfl ?_|refine ep (n := r) rfl rfl (by omega) (by omega) (fun g8 w2 hn2 => ⟨fun _ _ => trivial, ?_⟩)|refine ai rfl ?_|refine aa ?_|refine aj ?_|refine ah rfl ?_|refine ae ?_|refine bh rfl ?_|refine bR rfl rfl ?_|refine ay rfl ?_|refine aF ?_)
 obtain ⟨px, dx, hhx, ex, _, hpx, hSx, hEx⟩ := (hX.ext (hE1.trans hn2.ex)).get (by omega)
 rw [ex]
 have hb2 := hn2.blk
 refine kd (s := 2) (cs := rowC r hhx) rfl rfl hpx hb2 hSx (by rw [bW]) (by rw [bW, bW]; exact Nat.le_refl _) (kS _ _) (fun w3 hc3 hb3 => ⟨fun _ _ => trivial, ?_⟩)
 rw [List.drop_eq_nil_of_le (by rw [bW, bW]; exact Nat.le_refl _), List.append_nil] at hb3
 have hE13 : Ex w1 w3 := hn2.ex.chg hc3 hn2.lo
 have hF3 := hF.ext hE13
 have hR3 : RO false (Kx + 0 * (34 * K + 101)) w3 w1.heap.size g8 r r X := ⟨hn2.lo, Nat.le_refl _, hhx, hb3, fun i hi => by rw [Nat.zero_mul]; exact ((hEx i hi).weak').gbN hb2 (bF _ _) (bG hc3)⟩
 repeat' (first|refine ai rfl ?_|refine aa ?_|refine aj ?_|refine ah rfl ?_|refine ae ?_)
 refine av (oz hF3.h.mx hr hc (by omega)) rfl ?_
 rintro v w4 ⟨t, sd, f, k, rfl, h1, h2, hE4⟩
 refine ⟨fun _ _ => trivial, ?_⟩
 cases t
 ·exact absurd ⟨_, _, hF.hf⟩ (h2 rfl)
 obtain ⟨hN, hH⟩ := h1 rfl
 have hlen := hN.1
 have hkc := hH.kc
 have hF4 := hF3.ext hE4
 have hE04 := (hE1.trans hE13).trans hE4
 have hsl := hN.sl
 rw [ip] at hsl
 have hL : ∀ {P : Prop}, (P ↔ InL r c H X) → (P ↔ InL r c A X) := fun h => h.trans (hF.ceq.inL X)
 have s1 := hE1.size
 have l8 := hn2.lo
 have lH : ∀ i j, i < r → j < c → Lb (34 * K + 100) (H i j) := fun i j hi hj => hF.h.mx.lb hi hj
 have hgl : g < w1.heap.size := hF.h.lt
 have hgsl : ∀ i, i < r → gs i < w1.heap.size := fun i hi => (hF.h.row i hi).lt
 repeat' (first|refine aS rfl rfl ?_|refine ai rfl ?_|refine aa ?_|refine aj ?_|refine ah rfl ?_|refine ae ?_|refine bh rfl ?_|refine aA ?_)
 rw [hlen]
 refine aY (ι := Nat × (Nat → Int)) [4, 11, 12, 13, 14, 15, 16, 17, 48, 49, 50, 51, 52, 53, 54, 55, 56, 57, 58, 59, 60, 61, 62, 63, 64, 65, 66, 67, 68, 69, 70, 71, 72, 73, 74, 75, 76, 77, 78, 79, 80, 81, 82, 83, 84, 85, 86, 87, 88, 89, 90, 91, 92, 93, 94] (fun t => [(48, .int .i64 (t.1 : Int))])
  (fun t w' => (t.1 ≤ k ∧ w4.grownBy w' (some g8)) ∧ RO false (Kx + t.1 * (34 * K + 101)) w' w1.heap.size g8 r r t.2 ∧ CtJ r c k H f X t.1 t.2) (fun t => k - t.1)
  (0, X) ⟨rfl, trivial⟩ ⟨⟨by simp only; omega, oN (Ex.refl _)⟩, hR3.ext hE4, qL X⟩ ?_
 rintro ⟨c0, R⟩ ξ w5 ⟨⟨hc0, hG5⟩, hR5, hJ⟩
 simp only at hc0 hR5 hJ
 show CW _ _ _ _ (over [(48, .int .i64 (c0 : Int))] _) w5
 have hb4 : Blk w4 g8 33 (rowC r hhx) := hb3.ext hE4
 have l83 := hb3.lt
 have ng : g ≠ g8 := by omega
 have ngs : ∀ i, i < r → gs i ≠ g8 := fun i hi => by have := hgsl i hi; omega
 have hM5 := hF4.h.gbN hb4 (bF _ _) hG5 ng ngs
 have hsl5 := hsl.gb hG5 (fun ad e he => by have := (NatG.lo hN ad e).1; cases he; omega)
 have hE05 : Ex w w5 := hE04.gb hG5 (fun q e => by cases e; omega)
 rcases Nat.lt_or_ge c0 k with hck | hck
 ·have hpl := hsl5.plain (by simp; omega)
  have hpr := hH.lt c0 hck
  have hpos := hH.pos c0 hck
  obtain ⟨hhr, hb8, hE8⟩ := hR5.ex
  have cb : c0 * (34 * K + 101) ≤ 16 * (34 * K + 101) := Nat.mul_le_mul_right _ (by omega)
  have cb1 : (c0 + 1) * (34 * K + 101) = c0 * (34 * K + 101) + (34 * K + 101) := Nat.succ_mul _ _
  obtain ⟨KR, hKR⟩ : ∃ KR, KR = Kx + c0 * (34 * K + 101) := ⟨_, rfl⟩
  rw [← hKR] at hR5 hE8
  obtain ⟨hhp, hbp, hcp, hEp⟩ := hM5.get hpr
  repeat' (first|refine bC rfl rfl (by omega) ?_|refine aa ?_|refine aj ?_|refine ah rfl ?_|refine ae ?_|refine aD rfl ?_|refine aF ?_)
  refine aA ?_
  repeat' (first|refine aC (j := c0) (a := sd.a) rfl rfl hpl (by omega) ?_|(refine bI (j := c0) (xs := (List.range k).map f) rfl hsl5 (by simp; omega) ?_)|refine ai rfl ?_|refine aa ?_|refine aj ?_|refine ah rfl ?_|refine ae ?_)
  rw [dY _ hck]
  skip
  refine cD (ι := (Nat × Nat) × IH × IH) [13, 14, 15, 53, 54, 55, 56, 57, 58, 59, 60, 61, 62, 63, 64, 65, 66, 67, 68] (fun t => [(13, .pointer (some ⟨t.1.1, 0, none⟩)), (14, .pointer (some ⟨t.1.2, 0, none⟩))])
   (fun t w' => Ex w5 w' ∧ w5.heap.size ≤ t.1.1 ∧ w5.heap.size ≤ t.1.2 ∧ Blk w' t.1.1 33 t.2.1.cells ∧ Blk w' t.1.2 33 t.2.2.cells ∧ Ent true KR w' t.2.1.val (R (f c0) / H (f c0) c0) ∧ Ent true (34 * K + 100) w' t.2.2.val (R (f c0) % H (f c0) c0)) ?_ ?_
  ·have hEx : Ex w5 w5.drew := (Ex.refl _).drew
   refine dN (fun w' => Ex w5 w') bB hEx ?_
   refine bp (fuel := 10) (by kernel_rfl) (by kernel_rfl) [0, 1, 2, 3, 4, 5, 6, 7, 8, 9, 10] _ _ (by kernel_rfl) ?_
   repeat' (first|refine aC (j := f c0) (a := some ⟨g, 0, none⟩) rfl rfl ⟨_, _, rfl⟩ (by omega) ?_|refine aU (j := f c0) (a := some ⟨g, 0, none⟩) (n := r) (s := fun k => ⟨some ⟨gs k, 0, none⟩, c, cp k⟩) rfl (fun _ h => (hM5.ext h).top.sl) (by omega) rfl ?_|refine aT (j := c0) (a := some ⟨gs (f c0), 0, none⟩) rfl rfl ⟨_, _, rfl⟩ (by omega) ?_|refine bu (j := c0) (n := cp (f c0)) (a := some ⟨gs (f c0), 0, none⟩) rfl (fun _ h => (hbp.ext h).sl) ⟨_, _, rfl⟩ (by omega) ?_|refine aT (j := f c0) (a := some ⟨g8, 0, none⟩) rfl rfl ⟨_, _, rfl⟩ (by omega) ?_|refine bu (j := f c0) (n := r) (a := some ⟨g8, 0, none⟩) rfl (fun _ h => (hb8.ext h).sl) ⟨_, _, rfl⟩ (by omega) ?_|refine ai rfl ?_|refine ae ?_)
   refine az (fuel := 9) (rs := [11, 16, 17]) (by kernel_rfl) (by kernel_rfl) rfl ?_
   simp only [List.forall_mem_cons, List.not_mem_nil, false_implies, implies_true, and_true]
   refine ⟨?_, ?_, ?_⟩
   ·refine av (bn ((hE8 (f c0) hpr).ext hEx).k ((hEp c0 (by omega)).ext hEx).k (by omega) (by omega)) rfl ?_
    rintro v w14 ⟨q, rm, rfl, hq, hrm, hE14⟩
    refine ⟨fun _ h => h.trans hE14, ?_⟩
    rw [if_neg (by omega)] at hrm
    obtain ⟨xq, rfl⟩ := hq.ih
    obtain ⟨xr, rfl⟩ := hrm.ih
    have eq : Ent true KR w14 xq.val (R (f c0) / H (f c0) c0) := Ent.of hq ((hE8 (f c0) hpr).lb.div _)
    have er : Ent true (34 * K + 100) w14 xr.val (R (f c0) % H (f c0) c0) := Ent.of hrm ((lH (f c0) c0 hpr (by omega)).mod _ (by omega))
    replace hEx := hEx.trans hE14
    refine ae ?_
    refine bp (fuel := 5) (by kernel_rfl) (by kernel_rfl) [12, 13, 14, 15] _ _ (by kernel_rfl) ?_
    repeat' (first|refine aS rfl rfl ?_|refine ai rfl ?_|refine ae ?_)
    refine az (fuel := 4) (rs := [16, 17]) (by kernel_rfl) (by kernel_rfl) rfl ?_
    simp only [List.forall_mem_cons, List.not_mem_nil, false_implies, implies_true, and_true]
    refine ⟨?_, ?_⟩
    ·refine aB (fun g15 w15 hn15 => ⟨fun _ h => h.trans hn15.ex, ?_⟩)
     have hb15 : Blk w15 g15 33 (intL false none 0 0) := hn15.blk
     have lo15 : w5.heap.size ≤ g15 := Nat.le_trans hEx.size hn15.lo
     replace hEx := hEx.trans hn15.ex
     replace eq := eq.ext hn15.ex
     replace er := er.ext hn15.ex
     refine ae ?_
     refine az (fuel := 3) (rs := [17]) (by kernel_rfl) (by kernel_rfl) rfl ?_
     rw [List.forall_mem_singleton]
     refine aB (fun g16 w16 hn16 => ⟨fun _ h => h.trans hn16.ex, ?_⟩)
     have hb16 : Blk w16 g16 33 (intL false none 0 0) := hn16.blk
     have lo16 : w5.heap.size ≤ g16 := Nat.le_trans hEx.size hn16.lo
     have ne56 : g15 ≠ g16 := (by have := hb15.lt; have := hn16.lo; omega)
     replace hEx := hEx.trans hn16.ex
     replace hb15 := hb15.ext hn16.ex
     replace eq := eq.ext hn16.ex
     replace er := er.ext hn16.ex
     refine ae ?_
     refine az (fuel := 2) (rs := [18]) (by kernel_rfl) (by kernel_rfl) rfl ?_
     rw [List.forall_mem_singleton]
     refine ax (n := 2) (vs := xq.cells) rfl rfl rfl rfl hb15 rfl (fun w17 hc17 hb17 => ⟨fun _ h => h.chg hc17 lo15, ?_⟩)
     replace hEx := hEx.chg hc17 lo15
     replace hb16 := hb16.chg hc17 (Ne.symm ne56)
     replace eq := eq.gbN hb15 (aI _ _ _ _) (bG hc17)
     replace er := er.gbN hb15 (aI _ _ _ _) (bG hc17)
     refine ae ?_
     refine az (fuel := 1) (rs := [19]) (by kernel_rfl) (by kernel_rfl) rfl ?_
     rw [List.forall_mem_singleton]
     refine ax (n := 2) (vs := xr.cells) rfl rfl rfl rfl hb16 rfl (fun w18 hc18 hb18 => ⟨fun _ h => h.chg hc18 lo16, ?_⟩)
     replace hEx := hEx.chg hc18 lo16
     replace hb17 := hb17.chg hc18 ne56
     replace eq := eq.gbN hb16 (aI _ _ _ _) (bG hc18)
     replace er := er.gbN hb16 (aI _ _ _ _) (bG hc18)
     refine ae ?_
     refine bp (fuel := 0) (by kernel_rfl) (by kernel_rfl) [20] _ _ (by kernel_rfl) ?_
     repeat' (first|refine ai rfl ?_|refine ae ?_)
     refine bw (by kernel_rfl) ?_
     refine aa ?_
     exact ⟨⟨((_, _), xq, xr), ⟨hEx, lo15, lo16, hb17, hb18, eq, er⟩, rfl, rfl, trivial⟩, (by (repeat (first|exact aM _ _|refine aw rfl ?_|refine au rfl ?_|refine ak rfl ?_|refine ao rfl ?_)))⟩
    ·refine aB (fun g16 w16 hn16 => ⟨fun _ h => h.trans hn16.ex, ?_⟩)
     have hb16 : Blk w16 g16 33 (intL false none 0 0) := hn16.blk
     have lo16 : w5.heap.size ≤ g16 := Nat.le_trans hEx.size hn16.lo
     replace hEx := hEx.trans hn16.ex
     replace eq := eq.ext hn16.ex
     replace er := er.ext hn16.ex
     refine ae ?_
     refine az (fuel := 3) (rs := [16]) (by kernel_rfl) (by kernel_rfl) rfl ?_
     rw [List.forall_mem_singleton]
     refine aB (fun g15 w15 hn15 => ⟨fun _ h => h.trans hn15.ex, ?_⟩)
     have hb15 : Blk w15 g15 33 (intL false none 0 0) := hn15.blk
     have lo15 : w5.heap.size ≤ g15 := Nat.le_trans hEx.size hn15.lo
     have ne56 : g15 ≠ g16 := (by have := hb16.lt; have := hn15.lo; omega)
     replace hEx := hEx.trans hn15.ex
     replace hb16 := hb16.ext hn15.ex
     replace eq := eq.ext hn15.ex
     replace er := er.ext hn15.ex
     refine ae ?_
     refine az (fuel := 2) (rs := [18]) (by kernel_rfl) (by kernel_rfl) rfl ?_
     rw [List.forall_mem_singleton]
     refine ax (n := 2) (vs := xq.cells) rfl rfl rfl rfl hb15 rfl (fun w17 hc17 hb17 => ⟨fun _ h => h.chg hc17 lo15, ?_⟩)
     replace hEx := hEx.chg hc17 lo15
     replace hb16 := hb16.chg hc17 (Ne.symm ne56)
     replace eq := eq.gbN hb15 (aI _ _ _ _) (bG hc17)
     replace er := er.gbN hb15 (aI _ _ _ _) (bG hc17)
     refine ae ?_
     refine az (fuel := 1) (rs := [19]) (by kernel_rfl) (by kernel_rfl) rfl ?_
     rw [List.forall_mem_singleton]
     refine ax (n := 2) (vs := xr.cells) rfl rfl rfl rfl hb16 rfl (fun w18 hc18 hb18 => ⟨fun _ h => h.chg hc18 lo16, ?_⟩)
     replace hEx := hEx.chg hc18 lo16
     replace hb17 := hb17.chg hc18 ne56
     replace eq := eq.gbN hb16 (aI _ _ _ _) (bG hc18)
     replace er := er.gbN hb16 (aI _ _ _ _) (bG hc18)
     refine ae ?_
     refine bp (fuel := 0) (by kernel_rfl) (by kernel_rfl) [20] _ _ (by kernel_rfl) ?_
     repeat' (first|refine ai rfl ?_|refine ae ?_)
     refine bw (by kernel_rfl) ?_
     refine aa ?_
     exact ⟨⟨((_, _), xq, xr), ⟨hEx, lo15, lo16, hb17, hb18, eq, er⟩, rfl, rfl, trivial⟩, (by (repeat (first|exact aM _ _|refine aw rfl ?_|refine au rfl ?_|refine ak rfl ?_|refine ao rfl ?_)))⟩
   ·refine aB (fun g15 w15 hn15 => ⟨fun _ h => h.trans hn15.ex, ?_⟩)
    have hb15 : Blk w15 g15 33 (intL false none 0 0) := hn15.blk
    have lo15 : w5.heap.size ≤ g15 := Nat.le_trans hEx.size hn15.lo
    replace hEx := hEx.trans hn15.ex
    refine ae ?_
    refine az (fuel := 8) (rs := [11, 17]) (by kernel_rfl) (by kernel_rfl) rfl ?_
    simp only [List.forall_mem_cons, List.not_mem_nil, false_implies, implies_true, and_true]
    refine ⟨?_, ?_⟩
    ·refine av (bn ((hE8 (f c0) hpr).ext hEx).k ((hEp c0 (by omega)).ext hEx).k (by omega) (by omega)) rfl ?_
     rintro v w14 ⟨q, rm, rfl, hq, hrm, hE14⟩
     refine ⟨fun _ h => h.trans hE14, ?_⟩
     rw [if_neg (by omega)] at hrm
     obtain ⟨xq, rfl⟩ := hq.ih
     obtain ⟨xr, rfl⟩ := hrm.ih
     have eq : Ent true KR w14 xq.val (R (f c0) / H (f c0) c0) := Ent.of hq ((hE8 (f c0) hpr).lb.div _)
     have er : Ent true (34 * K + 100) w14 xr.val (R (f c0) % H (f c0) c0) := Ent.of hrm ((lH (f c0) c0 hpr (by omega)).mod _ (by omega))
     replace hEx := hEx.trans hE14
     replace hb15 := hb15.ext hE14
     refine ae ?_
     refine bp (fuel := 4) (by kernel_rfl) (by kernel_rfl) [12, 13, 14, 15] _ _ (by kernel_rfl) ?_
     repeat' (first|refine aS rfl rfl ?_|refine ai rfl ?_|refine ae ?_)
     refine az (fuel := 3) (rs := [17]) (by kernel_rfl) (by kernel_rfl) rfl ?_
     rw [List.forall_mem_singleton]
     refine aB (fun g16 w16 hn16 => ⟨fun _ h => h.trans hn16.ex, ?_⟩)
     have hb16 : Blk w16 g16 33 (intL false none 0 0) := hn16.blk
     have lo16 : w5.heap.size ≤ g16 := Nat.le_trans hEx.size hn16.lo
     have ne56 : g15 ≠ g16 := (by have := hb15.lt; have := hn16.lo; omega)
     replace hEx := hEx.trans hn16.ex
     replace hb15 := hb15.ext hn16.ex
     replace eq := eq.ext hn16.ex
     replace er := er.ext hn16.ex
     refine ae ?_
     refine az (fuel := 2) (rs := [18]) (by kernel_rfl) (by kernel_rfl) rfl ?_
     rw [List.forall_mem_singleton]
     refine ax (n := 2) (vs := xq.cells) rfl rfl rfl rfl hb15 rfl (fun w17 hc17 hb17 => ⟨fun _ h => h.chg hc17 lo15, ?_⟩)
     replace hEx := hEx.chg hc17 lo15
     replace hb16 := hb16.chg hc17 (Ne.symm ne56)
     replace eq := eq.gbN hb15 (aI _ _ _ _) (bG hc17)
     replace er := er.gbN hb15 (aI _ _ _ _) (bG hc17)
     refine ae ?_
     refine az (fuel := 1) (rs := [19]) (by kernel_rfl) (by kernel_rfl) rfl ?_
     rw [List.forall_mem_singleton]
     refine ax (n := 2) (vs := xr.cells) rfl rfl rfl rfl hb16 rfl (fun w18 hc18 hb18 => ⟨fun _ h => h.chg hc18 lo16, ?_⟩)
     replace hEx := hEx.chg hc18 lo16
     replace hb17 := hb17.chg hc18 ne56
     replace eq := eq.gbN hb16 (aI _ _ _ _) (bG hc18)
     replace er := er.gbN hb16 (aI _ _ _ _) (bG hc18)
     refine ae ?_
     refine bp (fuel := 0) (by kernel_rfl) (by kernel_rfl) [20] _ _ (by kernel_rfl) ?_
     repeat' (first|refine ai rfl ?_|refine ae ?_)
     refine bw (by kernel_rfl) ?_
     refine aa ?_
     exact ⟨⟨((_, _), xq, xr), ⟨hEx, lo15, lo16, hb17, hb18, eq, er⟩, rfl, rfl, trivial⟩, (by (repeat (first|exact aM _ _|refine aw rfl ?_|refine au rfl ?_|refine ak rfl ?_|refine ao rfl ?_)))⟩
    ·refine aB (fun g16 w16 hn16 => ⟨fun _ h => h.trans hn16.ex, ?_⟩)
     have hb16 : Blk w16 g16 33 (intL false none 0 0) := hn16.blk
     have lo16 : w5.heap.size ≤ g16 := Nat.le_trans hEx.size hn16.lo
     have ne56 : g15 ≠ g16 := (by have := hb15.lt; have := hn16.lo; omega)
     replace hEx := hEx.trans hn16.ex
     replace hb15 := hb15.ext hn16.ex
     refine ae ?_
     refine az (fuel := 7) (rs := [11]) (by kernel_rfl) (by kernel_rfl) rfl ?_
     rw [List.forall_mem_singleton]
     refine av (bn ((hE8 (f c0) hpr).ext hEx).k ((hEp c0 (by omega)).ext hEx).k (by omega) (by omega)) rfl ?_
     rintro v w14 ⟨q, rm, rfl, hq, hrm, hE14⟩
     refine ⟨fun _ h => h.trans hE14, ?_⟩
     rw [if_neg (by omega)] at hrm
     obtain ⟨xq, rfl⟩ := hq.ih
     obtain ⟨xr, rfl⟩ := hrm.ih
     have eq : Ent true KR w14 xq.val (R (f c0) / H (f c0) c0) := Ent.of hq ((hE8 (f c0) hpr).lb.div _)
     have er : Ent true (34 * K + 100) w14 xr.val (R (f c0) % H (f c0) c0) := Ent.of hrm ((lH (f c0) c0 hpr (by omega)).mod _ (by omega))
     replace hEx := hEx.trans hE14
     replace hb15 := hb15.ext hE14
     replace hb16 := hb16.ext hE14
     refine ae ?_
     refine bp (fuel := 3) (by kernel_rfl) (by kernel_rfl) [12, 13, 14, 15] _ _ (by kernel_rfl) ?_
     repeat' (first|refine aS rfl rfl ?_|refine ai rfl ?_|refine ae ?_)
     refine az (fuel := 2) (rs := [18]) (by kernel_rfl) (by kernel_rfl) rfl ?_
     rw [List.forall_mem_singleton]
     refine ax (n := 2) (vs := xq.cells) rfl rfl rfl rfl hb15 rfl (fun w17 hc17 hb17 => ⟨fun _ h => h.chg hc17 lo15, ?_⟩)
     replace hEx := hEx.chg hc17 lo15
     replace hb16 := hb16.chg hc17 (Ne.symm ne56)
     replace eq := eq.gbN hb15 (aI _ _ _ _) (bG hc17)
     replace er := er.gbN hb15 (aI _ _ _ _) (bG hc17)
     refine ae ?_
     refine az (fuel := 1) (rs := [19]) (by kernel_rfl) (by kernel_rfl) rfl ?_
     rw [List.forall_mem_singleton]
     refine ax (n := 2) (vs := xr.cells) rfl rfl rfl rfl hb16 rfl (fun w18 hc18 hb18 => ⟨fun _ h => h.chg hc18 lo16, ?_⟩)
     replace hEx := hEx.chg hc18 lo16
     replace hb17 := hb17.chg hc18 ne56
     replace eq := eq.gbN hb16 (aI _ _ _ _) (bG hc18)
     replace er := er.gbN hb16 (aI _ _ _ _) (bG hc18)
     refine ae ?_
     refine bp (fuel := 0) (by kernel_rfl) (by kernel_rfl) [20] _ _ (by kernel_rfl) ?_
     repeat' (first|refine ai rfl ?_|refine ae ?_)
     refine bw (by kernel_rfl) ?_
     refine aa ?_
     exact ⟨⟨((_, _), xq, xr), ⟨hEx, lo15, lo16, hb17, hb18, eq, er⟩, rfl, rfl, trivial⟩, (by (repeat (first|exact aM _ _|refine aw rfl ?_|refine au rfl ?_|refine ak rfl ?_|refine ao rfl ?_)))⟩
   ·refine aB (fun g16 w16 hn16 => ⟨fun _ h => h.trans hn16.ex, ?_⟩)
    have hb16 : Blk w16 g16 33 (intL false none 0 0) := hn16.blk
    have lo16 : w5.heap.size ≤ g16 := Nat.le_trans hEx.size hn16.lo
    replace hEx := hEx.trans hn16.ex
    refine ae ?_
    refine az (fuel := 8) (rs := [11, 16]) (by kernel_rfl) (by kernel_rfl) rfl ?_
    simp only [List.forall_mem_cons, List.not_mem_nil, false_implies, implies_true, and_true]
    refine ⟨?_, ?_⟩
    ·refine av (bn ((hE8 (f c0) hpr).ext hEx).k ((hEp c0 (by omega)).ext hEx).k (by omega) (by omega)) rfl ?_
     rintro v w14 ⟨q, rm, rfl, hq, hrm, hE14⟩
     refine ⟨fun _ h => h.trans hE14, ?_⟩
     rw [if_neg (by omega)] at hrm
     obtain ⟨xq, rfl⟩ := hq.ih
     obtain ⟨xr, rfl⟩ := hrm.ih
     have eq : Ent true KR w14 xq.val (R (f c0) / H (f c0) c0) := Ent.of hq ((hE8 (f c0) hpr).lb.div _)
     have er : Ent true (34 * K + 100) w14 xr.val (R (f c0) % H (f c0) c0) := Ent.of hrm ((lH (f c0) c0 hpr (by omega)).mod _ (by omega))
     replace hEx := hEx.trans hE14
     replace hb16 := hb16.ext hE14
     refine ae ?_
     refine bp (fuel := 4) (by kernel_rfl) (by kernel_rfl) [12, 13, 14, 15] _ _ (by kernel_rfl) ?_
     repeat' (first|refine aS rfl rfl ?_|refine ai rfl ?_|refine ae ?_)
     refine az (fuel := 3) (rs := [16]) (by kernel_rfl) (by kernel_rfl) rfl ?_
     rw [List.forall_mem_singleton]
     refine aB (fun g15 w15 hn15 => ⟨fun _ h => h.trans hn15.ex, ?_⟩)
     have hb15 : Blk w15 g15 33 (intL false none 0 0) := hn15.blk
     have lo15 : w5.heap.size ≤ g15 := Nat.le_trans hEx.size hn15.lo
     have ne56 : g15 ≠ g16 := (by have := hb16.lt; have := hn15.lo; omega)
     replace hEx := hEx.trans hn15.ex
     replace hb16 := hb16.ext hn15.ex
     replace eq := eq.ext hn15.ex
     replace er := er.ext hn15.ex
     refine ae ?_
     refine az (fuel := 2) (rs := [18]) (by kernel_rfl) (by kernel_rfl) rfl ?_
     rw [List.forall_mem_singleton]
     refine ax (n := 2) (vs := xq.cells) rfl rfl rfl rfl hb15 rfl (fun w17 hc17 hb17 => ⟨fun _ h => h.chg hc17 lo15, ?_⟩)
     replace hEx := hEx.chg hc17 lo15
     replace hb16 := hb16.chg hc17 (Ne.symm ne56)
     replace eq := eq.gbN hb15 (aI _ _ _ _) (bG hc17)
     replace er := er.gbN hb15 (aI _ _ _ _) (bG hc17)
     refine ae ?_
     refine az (fuel := 1) (rs := [19]) (by kernel_rfl) (by kernel_rfl) rfl ?_
     rw [List.forall_mem_singleton]
     refine ax (n := 2) (vs := xr.cells) rfl rfl rfl rfl hb16 rfl (fun w18 hc18 hb18 => ⟨fun _ h => h.chg hc18 lo16, ?_⟩)
     replace hEx := hEx.chg hc18 lo16
     replace hb17 := hb17.chg hc18 ne56
     replace eq := eq.gbN hb16 (aI _ _ _ _) (bG hc18)
     replace er := er.gbN hb16 (aI _ _ _ _) (bG hc18)
     refine ae ?_
     refine bp (fuel := 0) (by kernel_rfl) (by kernel_rfl) [20] _ _ (by kernel_rfl) ?_
     repeat' (first|refine ai rfl ?_|refine ae ?_)
     refine bw (by kernel_rfl) ?_
     refine aa ?_
     exact ⟨⟨((_, _), xq, xr), ⟨hEx, lo15, lo16, hb17, hb18, eq, er⟩, rfl, rfl, trivial⟩, (by (repeat (first|exact aM _ _|refine aw rfl ?_|refine au rfl ?_|refine ak rfl ?_|refine ao rfl ?_)))⟩
    ·refine aB (fun g15 w15 hn15 => ⟨fun _ h => h.trans hn15.ex, ?_⟩)
     have hb15 : Blk w15 g15 33 (intL false none 0 0) := hn15.blk
     have lo15 : w5.heap.size ≤ g15 := Nat.le_trans hEx.size hn15.lo
     have ne56 : g15 ≠ g16 := (by have := hb16.lt; have := hn15.lo; omega)
     replace hEx := hEx.trans hn15.ex
     replace hb16 := hb16.ext hn15.ex
     refine ae ?_
     refine az (fuel := 7) (rs := [11]) (by kernel_rfl) (by kernel_rfl) rfl ?_
     rw [List.forall_mem_singleton]
     refine av (bn ((hE8 (f c0) hpr).ext hEx).k ((hEp c0 (by omega)).ext hEx).k (by omega) (by omega)) rfl ?_
     rintro v w14 ⟨q, rm, rfl, hq, hrm, hE14⟩
     refine ⟨fun _ h => h.trans hE14, ?_⟩
     rw [if_neg (by omega)] at hrm
     obtain ⟨xq, rfl⟩ := hq.ih
     obtain ⟨xr, rfl⟩ := hrm.ih
     have eq : Ent true KR w14 xq.val (R (f c0) / H (f c0) c0) := Ent.of hq ((hE8 (f c0) hpr).lb.div _)
     have er : Ent true (34 * K + 100) w14 xr.val (R (f c0) % H (f c0) c0) := Ent.of hrm ((lH (f c0) c0 hpr (by omega)).mod _ (by omega))
     replace hEx := hEx.trans hE14
     replace hb15 := hb15.ext hE14
     replace hb16 := hb16.ext hE14
     refine ae ?_
     refine bp (fuel := 3) (by kernel_rfl) (by kernel_rfl) [12, 13, 14, 15] _ _ (by kernel_rfl) ?_
     repeat' (first|refine aS rfl rfl ?_|refine ai rfl ?_|refine ae ?_)
     refine az (fuel := 2) (rs := [18]) (by kernel_rfl) (by kernel_rfl) rfl ?_
     rw [List.forall_mem_singleton]
     refine ax (n := 2) (vs := xq.cells) rfl rfl rfl rfl hb15 rfl (fun w17 hc17 hb17 => ⟨fun _ h => h.chg hc17 lo15, ?_⟩)
     replace hEx := hEx.chg hc17 lo15
     replace hb16 := hb16.chg hc17 (Ne.symm ne56)
     replace eq := eq.gbN hb15 (aI _ _ _ _) (bG hc17)
     replace er := er.gbN hb15 (aI _ _ _ _) (bG hc17)
     refine ae ?_
     refine az (fuel := 1) (rs := [19]) (by kernel_rfl) (by kernel_rfl) rfl ?_
     rw [List.forall_mem_singleton]
     refine ax (n := 2) (vs := xr.cells) rfl rfl rfl rfl hb16 rfl (fun w18 hc18 hb18 => ⟨fun _ h => h.chg hc18 lo16, ?_⟩)
     replace hEx := hEx.chg hc18 lo16
     replace hb17 := hb17.chg hc18 ne56
     replace eq := eq.gbN hb16 (aI _ _ _ _) (bG hc18)
     replace er := er.gbN hb16 (aI _ _ _ _) (bG hc18)
     refine ae ?_
     refine bp (fuel := 0) (by kernel_rfl) (by kernel_rfl) [20] _ _ (by kernel_rfl) ?_
     repeat' (first|refine ai rfl ?_|refine ae ?_)
     refine bw (by kernel_rfl) ?_
     refine aa ?_
     exact ⟨⟨((_, _), xq, xr), ⟨hEx, lo15, lo16, hb17, hb18, eq, er⟩, rfl, rfl, trivial⟩, (by (repeat (first|exact aM _ _|refine aw rfl ?_|refine au rfl ?_|refine ak rfl ?_|refine ao rfl ?_)))⟩
  ·rintro ⟨⟨g13, g14⟩, xq, xr⟩ ξ2 w6 ⟨hE6, lo13, lo14, hb13, hb14, eq, er⟩
   simp only at lo13 lo14 hb13 hb14 eq er
   show CW _ _ _ _ (over [(13, .pointer (some ⟨g13, 0, none⟩)), (14, .pointer (some ⟨g14, 0, none⟩))] _) w6
   repeat' (first|refine aN (g := g14) rfl hb14 rfl ?_|refine aj ?_|refine ah rfl ?_)
   refine av (bP er.k) rfl ?_
   rintro v w7 ⟨rfl, hE7⟩
   refine ⟨fun _ _ => trivial, ?_⟩
   have hE57 := hE6.trans hE7
   by_cases hz : R (f c0) % H (f c0) c0 = 0
   ·have hdv : H (f c0) c0 ∣ R (f c0) := Int.dvd_of_emod_eq_zero hz
    repeat' (first|(refine fd rfl rfl (by rw [hz]; rfl) ?_)|refine ai rfl ?_|refine aa ?_|refine aj ?_|refine ah rfl ?_|refine ae ?_|refine bh rfl ?_|refine ay rfl ?_|refine aA ?_|refine aF ?_)
    have hG7 : w4.grownBy w7 (some g8) := bL hG5 (oN hE57) (fun k e => .inl e)
    have hM7 := hM5.ext hE57
    have hb137 := hb13.ext hE7
    have eq7 := eq.ext hE7
    have hR7 := hR5.ext hE57
    have lg8 := hR5.lt
    refine aY (ι := Nat) [16, 17, 74, 75, 76, 77, 78, 79, 80, 81, 82, 83, 84, 85, 86, 87, 88, 89, 90, 91, 92, 93] (fun i => [(74, .int .i64 (i : Int))])
     (fun i w' => (i ≤ r ∧ w7.grownBy w' (some g8)) ∧ RO false (KR + (34 * K + 101)) w' w1.heap.size g8 r r (fun j => if j < i then R j - R (f c0) / H (f c0) c0 * H j c0 else R j)) (fun i => r - i)
     0 ⟨rfl, trivial⟩ ⟨⟨by omega, oN (Ex.refl _)⟩, (hR7.up (by omega)).congr fun j _ => if_neg (by omega)⟩ ?_
    clear hR7
    rintro i ξ3 w8 ⟨⟨hi, hG8⟩, hR8⟩
    show CW _ _ _ _ (over [(74, .int .i64 (i : Int))] _) w8
    have hb87 : Blk w7 g8 33 (rowC r hhr) := hb8.ext hE57
    have hM8 := hM7.gbN hb87 (bF _ _) hG8 ng ngs
    rcases Nat.lt_or_ge i r with hir | hir
    ·obtain ⟨hhi, hbi, hci, hEi⟩ := hM8.get hir
     obtain ⟨hhr8, hb88, hE88⟩ := hR8.ex
     have ei := hE88 i hir
     rw [if_neg (by omega)] at ei
     have hb138 := hb137.gb hG8 (fun e => by cases e; omega)
     have eq8 := eq7.gbN hb87 (bF _ _) hG8
     have lR : Lb KR (R i) := (hE8 i hir).lb
     repeat' (first|refine bC rfl rfl (by omega) ?_|refine aa ?_|refine aj ?_|refine ah rfl ?_|refine ae ?_|refine aD rfl ?_|refine aF ?_)
     refine aA ?_
     repeat' (first|refine aC (j := i) (a := some ⟨g, 0, none⟩) rfl rfl ⟨_, _, rfl⟩ (by omega) ?_|refine aU (j := i) (a := some ⟨g, 0, none⟩) (n := r) (s := fun k => ⟨some ⟨gs k, 0, none⟩, c, cp k⟩) rfl hM8.top.sl (by omega) rfl ?_|refine ai rfl ?_|refine aa ?_|refine aj ?_|refine ah rfl ?_|refine ae ?_)
     refine bi (late := [14]) (plan := [(0, none), (1, none), (2, none), (3, none), (4, none), (5, none), (6, none), (7, none), (8, none), (9, none), (10, none), (11, some true), (12, some true), (13, none), (14, some false)]) (fun w' => Ex w8 w') bB (by kernel_rfl) (Ex.refl w8).drew ?_
     have hEd := (Ex.refl w8).drew
     repeat' (first|refine aT (j := i) (a := some ⟨g8, 0, none⟩) rfl rfl ⟨_, _, rfl⟩ (by omega) ?_|refine bu (j := i) (n := r) (a := some ⟨g8, 0, none⟩) rfl (fun _ h => (hb88.ext h).sl) ⟨_, _, rfl⟩ (by omega) ?_|refine aN (g := g13) rfl (fun _ h => hb138.ext h) rfl ?_|refine aT (j := c0) (a := some ⟨gs i, 0, none⟩) rfl rfl ⟨_, _, rfl⟩ (by omega) ?_|refine bu (j := c0) (n := cp i) (a := some ⟨gs i, 0, none⟩) rfl (fun _ h => (hbi.ext h).sl) ⟨_, _, rfl⟩ (by omega) ?_|refine ai rfl ?_)
     refine av (cK (eq8.ext hEd).k ((hEi c0 (by omega)).ext hEd).k (by omega)) rfl ?_
     rintro v w9 ⟨hI9, hE9⟩
     refine ⟨fun _ h => h.trans hE9, ?_⟩
     have lq : Lb (KR + (34 * K + 100)) (R (f c0) / H (f c0) c0 * H i c0) := eq8.lb.mul (lH i c0 hir (by omega))
     have hE89 := hEd.trans hE9
     skip
     refine av (eh (ei.ext hE89).k (hI9.k lq) (by omega) (by omega)) rfl ?_
     rintro v w10 ⟨hI10, hE10⟩
     refine ⟨fun _ h => h.trans hE10, ?_⟩
     obtain ⟨u, rfl⟩ := hI10.ih
     have hE810 := hE89.trans hE10
     have lu : Lb (KR + (34 * K + 101)) (R i - R (f c0) / H (f c0) c0 * H i c0) := ((lR.mono (show KR ≤ KR + (34 * K + 100) by omega)).sub lq).mono (by omega)
     repeat' (first|refine aT (j := i) (a := some ⟨g8, 0, none⟩) rfl rfl ⟨_, _, rfl⟩ (by omega) ?_)
     refine ch (j := i) (n := r) (u := u) rfl rfl (hb88.ext hE810) (by omega) (fun w11 hc11 hb11 => ⟨fun h => (nomatch h), ?_⟩)
     repeat' (first|refine ai rfl ?_|refine aa ?_|refine ah rfl ?_|refine ae ?_|refine aZ rfl rfl (by omega) (by omega) ?_|refine aK ?_)
     refine ⟨⟨i + 1, ⟨⟨hir, bL hG8 (bL (oN hE810) (bG hc11) (fun k e => .inl e)) (fun k e => .inl e)⟩, (RO.put hR8.low hR8.le (hb88.ext hE810) (fun j hj => (hE88 j hj).ext hE810) (Ent.of hI10 lu) hc11 hb11).congr fun j _ => ?_⟩, by omega, rfl, trivial⟩, (by (repeat (first|exact aE _ _ _|refine aw rfl ?_|refine au rfl ?_|refine ak rfl ?_|refine ao rfl ?_)))⟩
     by_cases e : j = i
     ·subst e; rw [aJ, if_pos (Nat.lt_succ_self _)]
     ·rw [aO _ _ e]
      by_cases h : j < i
      ·rw [if_pos h, if_pos (by omega)]
      ·rw [if_neg h, if_neg (by omega)]
    ·have eir : r = i := by omega
     subst eir
     repeat' (first|refine bA rfl rfl (by omega) ?_|refine ai rfl ?_|refine aa ?_|refine aj ?_|refine ah rfl ?_|refine ae ?_|refine aZ rfl rfl (by omega) (by omega) ?_|refine ay rfl ?_|refine aV ?_|refine aL ?_|refine aW ?_|refine aK ?_)
     refine ⟨⟨(c0 + 1, fun j => R j - R (f c0) / H (f c0) c0 * H j c0), ⟨⟨hck, bL hG7 hG8 (fun k e => .inl e)⟩, ?_, hJ.step hH hck hdv fun j _ => rfl⟩, by simp only; omega, rfl, trivial⟩, (by (repeat (first|exact aE _ _ _|refine aw rfl ?_|refine au rfl ?_|refine ak rfl ?_|refine ao rfl ?_)))⟩
     simp only
     rw [cb1, ← Nat.add_assoc, ← hKR]
     exact hR8.congr fun j hj => by rw [if_pos hj]
   ·repeat' (first|refine jA rfl rfl (fun e => hz (Int.sign_eq_zero_iff_zero.1 e)) ?_|refine ai rfl ?_|refine aa ?_|refine aj ?_|refine ah rfl ?_|refine ae ?_|refine aD rfl ?_|refine aR ?_|refine bv ?_|refine cN ?_)
    exact bK rfl (rt rfl) ⟨false, rfl, hL ⟨fun h => (nomatch h), fun h => absurd h (hJ.fail hH hck fun hd => hz (Int.emod_eq_zero_of_dvd hd))⟩, hE05.trans hE57⟩
 ·have eck : k = c0 := by omega
  subst eck
  repeat' (first|refine bA rfl rfl (by omega) ?_|refine ai rfl ?_|refine aa ?_|refine aj ?_|refine ah rfl ?_|refine ae ?_|refine bh rfl ?_|refine ay rfl ?_|refine aA ?_|refine aV ?_|refine aL ?_|refine aW ?_)
  obtain ⟨hhr, hb8, hE8⟩ := hR5.ex
  refine aY (ι := Nat) [4, 19, 97, 98, 99, 100, 101, 102, 103, 104] (fun i => [(97, .int .i64 (i : Int))])
   (fun i w' => i ≤ r ∧ Ex w5 w' ∧ ∀ j, j < i → R j = 0) (fun i => r - i)
   0 ⟨rfl, trivial⟩ ⟨by omega, Ex.refl _, fun j h => by omega⟩ ?_
  rintro i ξ2 w6 ⟨hi, hE6, hz⟩
  show CW _ _ _ _ (over [(97, .int .i64 (i : Int))] _) w6
  rcases Nat.lt_or_ge i r with hir | hir
  ·repeat' (first|refine bC rfl rfl (by omega) ?_|refine aT (j := i) (a := some ⟨g8, 0, none⟩) rfl rfl ⟨_, _, rfl⟩ (by omega) ?_|refine bu (j := i) (n := r) (a := some ⟨g8, 0, none⟩) rfl (hb8.ext hE6).sl ⟨_, _, rfl⟩ (by omega) ?_|refine aa ?_|refine aj ?_|refine ah rfl ?_|refine ae ?_|refine aD rfl ?_|refine aA ?_|refine aF ?_)
   refine aB (fun g19 w7 hn7 => ⟨fun _ _ => trivial, ?_⟩)
   have hb7 : Blk w7 g19 33 (intL false none 0 0) := hn7.blk
   refine ax (n := 2) (vs := (hhr i).cells) rfl rfl rfl rfl hb7 rfl (fun w8 hc8 hb8' => ⟨fun _ _ => trivial, ?_⟩)
   have hE68 : Ex w6 w8 := hn7.ex.chg hc8 hn7.lo
   repeat' (first|refine aN (g := g19) rfl hb8' rfl ?_|refine aa ?_|refine aj ?_|refine ah rfl ?_|refine ae ?_)
   refine av (bP (((hE8 i hir).ext hE6).ext hE68).k) rfl ?_
   rintro v w9 ⟨rfl, hE9⟩
   refine ⟨fun _ _ => trivial, ?_⟩
   have hE69 := hE68.trans hE9
   by_cases h : R i = 0
   ·repeat' (first|(refine fd rfl rfl (by rw [h]; rfl) ?_)|refine ai rfl ?_|refine aa ?_|refine ah rfl ?_|refine ae ?_|refine aZ rfl rfl (by omega) (by omega) ?_|refine ay rfl ?_|refine aK ?_|refine aF ?_)
    refine ⟨⟨i + 1, ⟨hir, hE6.trans hE69, fun j hj => ?_⟩, by omega, rfl, trivial⟩, (by (repeat (first|exact aE _ _ _|refine aw rfl ?_|refine au rfl ?_|refine ak rfl ?_|refine ao rfl ?_)))⟩
    by_cases e : j = i
    ·subst e; exact h
    ·exact hz j (by omega)
   ·repeat' (first|refine jA rfl rfl (fun e => h (Int.sign_eq_zero_iff_zero.1 e)) ?_|refine ai rfl ?_|refine aa ?_|refine aj ?_|refine ah rfl ?_|refine ae ?_|refine aD rfl ?_|refine aR ?_|refine bv ?_|refine cN ?_)
    exact bK rfl (rt rfl) ⟨false, rfl, hL ⟨fun h => (nomatch h), fun hv => absurd ((hJ.done hH).1 hv i hir) h⟩, (hE05.trans hE6).trans hE69⟩
  ·have eir : r = i := by omega
   subst eir
   repeat' (first|refine bA rfl rfl (by omega) ?_|refine ai rfl ?_|refine aa ?_|refine aj ?_|refine ah rfl ?_|refine ae ?_|refine ay rfl ?_|refine aV ?_|refine aL ?_|refine aW ?_|refine aR ?_)
   exact bK rfl (rt rfl) ⟨true, rfl, hL ⟨fun _ => (hJ.done hH).2 hz, fun _ => rfl⟩, hE05.trans hE6⟩
end Go.Proofs.YtppipmkpmmdcjaaGreat
namespace Go.Proofs.YtppipmkpmmdcjaaGreat
open Go.W Go.LM Go.LA
set_option maxHeartbeats 2000000 in
theorem nl {r c : Nat} {w : World} (hr : r ≤ 1000) (hc : c ≤ 1000) :
  CallsR Tryz.prog 69 #[.int .i64 (r : Int), .int .i64 (c : Int)] w (RetMO 0 w r c fun _ _ => 0) := by
 refine aH (args := [_, _]) Tryz.func69 rfl rfl ?_
 repeat' (first|refine et (n := r) rfl rfl (by omega) (by omega) (fun g w1 hn1 => ⟨fun _ _ => trivial, ?_⟩)|refine ai rfl ?_|refine aa ?_|refine aj ?_|refine ah rfl ?_|refine ae ?_|refine bh rfl ?_|refine aA ?_)
 refine aY (ι := Nat × (Nat → Nat) × (Nat → Nat)) [6, 11, 12, 13, 14, 15, 16, 17, 18, 19] (fun t => [(11, .int .i64 (t.1 : Int))])
  (fun t w' => t.1 ≤ r ∧ Ex w w' ∧ MP true 0 w' w.heap.size g r c t.1 t.2.1 t.2.2 (fun _ _ => 0)) (fun t => r - t.1)
  (0, fun _ => 0, fun _ => 0) ⟨rfl, trivial⟩ ⟨by simp only; omega, hn1.ex, MP.start hn1.blk hn1.lo⟩ ?_
 rintro ⟨i, gs, cp⟩ ξ w2 ⟨hi, hE2, hP2⟩
 simp only at hi hP2
 show CW _ _ _ _ (over [(11, .int .i64 (i : Int))] _) w2
 rcases Nat.lt_or_ge i r with hir | hir
 ·repeat' (first|refine bC rfl rfl (by omega) ?_|refine ep (n := c) rfl rfl (by omega) (by omega) (fun g3 w3 hn3 => ⟨fun _ _ => trivial, ?_⟩)|refine aC (j := i) (a := some ⟨g, 0, none⟩) rfl rfl ⟨_, _, rfl⟩ (by omega) ?_|refine ai rfl ?_|refine aa ?_|refine aj ?_|refine ah rfl ?_|refine ae ?_|refine aD rfl ?_|refine aA ?_|refine aF ?_)
  refine ci (j := i) (u := ⟨some ⟨g3, 0, none⟩, c, c⟩) rfl rfl (hP2.top.ext hn3.ex) (by omega) (fun w4 hc4 hT4 => ⟨fun _ _ => trivial, ?_⟩)
  have s2 := hE2.size
  have lo3 := hn3.lo
  have low := hP2.low
  obtain ⟨hb4, hne3, hT4', hnext⟩ := hP2.snoc hn3 hc4 hT4 (by omega)
  have hE4 := (hE2.trans hn3.ex).chg hc4 low
  repeat' (first|refine ai rfl ?_|refine aa ?_|refine ah rfl ?_|refine ae ?_|refine aZ rfl rfl (by omega) (by omega) ?_|refine aK ?_)
  exact ⟨⟨(i + 1, setF gs i g3, setF cp i c), ⟨hir, hE4, (hnext w4 (oN (Ex.refl _))).2 ⟨by omega, Nat.le_refl _, fun _ => ih0, hb4, fun j _ => kU _⟩⟩, by simp only; omega, rfl, trivial⟩, (by (repeat (first|exact aE _ _ _|refine aw rfl ?_|refine au rfl ?_|refine ak rfl ?_|refine ao rfl ?_)))⟩
 ·have eir : r = i := by omega
  subst eir
  repeat' (first|refine bA rfl rfl (by omega) ?_|refine ai rfl ?_|refine aa ?_|refine aj ?_|refine ah rfl ?_|refine ae ?_|refine ay rfl ?_|refine aV ?_|refine aL ?_|refine aW ?_|refine aR ?_)
  exact bK rfl (rt rfl) ⟨g, gs, cp, rfl, hP2.fin, hE2⟩
end Go.Proofs.YtppipmkpmmdcjaaGreat
namespace Go.Proofs.YtppipmkpmmdcjaaGreat
open Go.W Go.LM Go.LA
set_option maxHeartbeats 4000000 in
theorem lI {cn : Bool} {K r c cap : Nat} {w : World} {a : Option Addr} {s : Nat → SD} {F : Mat} (hM : MX cn K w a r c s F) (hr : 1 ≤ r ∧ r ≤ 1000) (hc : 1 ≤ c ∧ c ≤ 1000) :
  CallsR Tryz.prog 15 #[.slice a r cap] w (RetMO K w r c F) := by
 have hpt := hM.plain (by omega)
 refine aH (args := [_]) Tryz.func15 rfl rfl ?_
 repeat' (first|refine et (n := r) rfl rfl (by omega) (by omega) (fun g w1 hn1 => ⟨fun _ _ => trivial, ?_⟩)|refine ai rfl ?_|refine aa ?_|refine aj ?_|refine ah rfl ?_|refine ae ?_|refine bh rfl ?_|refine aA ?_)
 refine aY (ι := Nat × (Nat → Nat) × (Nat → Nat)) [4, 6, 12, 13, 14, 15, 16, 17, 18, 19, 20, 21, 22, 23, 24, 25, 26, 27, 28, 29, 30, 31, 32, 33, 34, 35, 36] (fun t => [(12, .int .i64 (t.1 : Int))])
  (fun t w' => t.1 ≤ r ∧ Ex w w' ∧ MP true K w' w.heap.size g r c t.1 t.2.1 t.2.2 F) (fun t => r - t.1)
  (0, fun _ => 0, fun _ => 0) ⟨rfl, trivial⟩ ⟨by simp only; omega, hn1.ex, MP.start hn1.blk hn1.lo⟩ ?_
 rintro ⟨i, gs, cp⟩ ξ w2 ⟨hi, hE2, hP2⟩
 simp only at hi hP2
 show CW _ _ _ _ (over [(12, .int .i64 (i : Int))] _) w2
 rcases Nat.lt_or_ge i r with hir | hir
 ·obtain ⟨pa, d, hh, e1, e2, hpp, hS, hEn⟩ := (hM.ext hE2).get hir (by omega)
  repeat' (first|refine bC rfl rfl (by omega) ?_|refine aC (j := i) (a := a) rfl rfl hpt (by omega) ?_|refine aU (j := i) (a := a) (n := r) (s := s) rfl (hM.ext hE2).top (by omega) e1 ?_|refine ai rfl ?_|refine aa ?_|refine aj ?_|refine ah rfl ?_|refine ae ?_|refine bh rfl ?_|refine aD rfl ?_|refine aA ?_|refine aF ?_)
  refine aY (ι := Nat × SD × (Nat → IH)) [6, 20, 21, 22, 23, 24, 25, 26, 27, 28, 29, 30, 31, 32, 33, 34, 35] (fun t => [(20, .int .i64 (t.1 : Int))])
   (fun t w' => t.1 ≤ c ∧ Ex w w' ∧ GR true K w' w.heap.size g r c i t.1 gs cp F t.2.1 t.2.2) (fun t => c - t.1)
   (0, sd0, fun _ => ih0) ⟨rfl, trivial⟩ ⟨by simp only; omega, hE2, GR.start hP2⟩ ?_
  clear hP2 hS hEn
  rintro ⟨j, sd, h⟩ ξ2 w3 ⟨hj, hE3, hG3⟩
  simp only at hj hG3
  show CW _ _ _ _ (over [(20, .int .i64 (j : Int))] _) w3
  obtain ⟨pa', d', hh, e1', e2', hp', hS, hEn⟩ := (hM.ext hE3).get hir (by omega)
  rw [e1] at e1'
  obtain ⟨rfl, rfl⟩ : pa = pa' ∧ d = d' := by cases e1'; exact ⟨rfl, rfl⟩
  rcases Nat.lt_or_ge j c with hje | hje
  ·repeat' (first|refine bC rfl rfl (by omega) ?_|refine aT (j := j) (a := pa) rfl rfl hpp (by omega) ?_|refine bu (j := j) (a := pa) rfl hS hpp (by omega) ?_|refine aa ?_|refine aj ?_|refine ah rfl ?_|refine ae ?_|refine aD rfl ?_|refine aA ?_|refine aF ?_)
   refine aB (fun g11 w4 hn4 => ⟨fun _ _ => trivial, ?_⟩)
   have hb4 : Blk w4 g11 33 (intL false none 0 0) := hn4.blk
   refine ax (n := 2) (vs := (hh j).cells) rfl rfl rfl rfl hb4 rfl (fun w5 hc5 hb5 => ⟨fun _ _ => trivial, ?_⟩)
   have hE35 : Ex w3 w5 := hn4.ex.chg hc5 hn4.lo
   have hG5 := hG3.ext hE35
   have lgt := hG3.top.lt
   have hsE := hE3.size
   have l4 := hn4.lo
   have hng : g ≠ g11 := by omega
   have own : ∀ q, (Value.slice sd.a sd.len sd.cap).ownBlock = some q → q ≠ g ∧ q ≠ g11 ∧ w.heap.size ≤ q := fun q e => by
    obtain ⟨h1, ⟨ad, h2, h3⟩, h4⟩ := RowG.bk hG3.cur q e
    have := h4.lt
    exact ⟨fun e' => (hG3.new ad h2).1 (by omega), by omega, h1⟩
   repeat' (first|refine aa ?_|refine ae ?_)
   refine bi (late := [11]) (plan := [(0, none), (1, none), (2, none), (3, none), (4, none), (5, none), (6, none), (7, some true), (8, some true), (9, some true), (10, none), (11, some false)]) (fun w' => w5.grownBy w' (Value.slice sd.a sd.len sd.cap).ownBlock) bB (by kernel_rfl) (pQ (oN (Ex.refl _))) ?_
   have hEd := (Ex.refl w5).drew
   repeat' (first|refine aC (j := i) (a := some ⟨g, 0, none⟩) rfl rfl ⟨_, _, rfl⟩ (by omega) ?_|refine aU (j := i) (a := some ⟨g, 0, none⟩) (n := r) (a1 := sd.a) (l1 := sd.len) (c1 := sd.cap) rfl (fun _ h => (hG5.topB h).sl) (by omega) (by rw [aJ]) ?_|refine aN (g := g11) rfl (fun _ h => hb5.gb h (fun e => (own _ e).2.1 rfl)) rfl ?_|refine ai rfl ?_)
   refine av (iJ ((hEn j (by omega)).ext (hE35.trans hEd)).k) rfl ?_
   rintro v w6 ⟨hI6, hE6⟩
   refine ⟨fun _ h => bL h (oN hE6) (fun k e => .inl e), ?_⟩
   obtain ⟨u, rfl⟩ := hI6.ih
   have hE56 := hEd.trans hE6
   have hG6 := hG5.ext hE56
   skip
   refine tP (E := 33) rfl rfl rfl (fun w1 w2 h1 h2 => bL h2 h1 (fun k e => .inl e)) hG6.cur (by omega) (by omega) (by have := hE35.size; have := hE56.size; omega) ?_
   intro gt sd' h' w7 hR7 hf1 hf2 hG7 hA7
   repeat' (first|refine aC (j := i) (a := some ⟨g, 0, none⟩) rfl rfl ⟨_, _, rfl⟩ (by omega) ?_)
   refine ci (j := i) (u := sd') rfl rfl (hG6.topB hG7) (by omega) (fun w8 hc8 hT8 => ⟨fun h => (nomatch h), ?_⟩)
   have hE06 := (hE3.trans hE35).trans hE56
   repeat' (first|refine ai rfl ?_|refine aa ?_|refine ah rfl ?_|refine ae ?_|refine aZ rfl rfl (by omega) (by omega) ?_|refine aK ?_)
   exact ⟨⟨(j + 1, sd', h'), ⟨hje, (hE06.gb hG7 (fun q e => (own q e).2.2)).chg hc8 hG3.low, hG6.app hR7 hf1 hf2 hG7 hA7 (Ent.of hI6 (hEn j (by omega)).lb) hc8 hT8⟩, by simp only; omega, rfl, trivial⟩, (by (repeat (first|exact aE _ _ _|refine aw rfl ?_|refine au rfl ?_|refine ak rfl ?_|refine ao rfl ?_)))⟩
  ·have eje : j = c := by omega
   subst eje
   repeat' (first|refine bA rfl rfl (by omega) ?_|refine ai rfl ?_|refine aa ?_|refine aj ?_|refine ah rfl ?_|refine ae ?_|refine aZ rfl rfl (by omega) (by omega) ?_|refine ay rfl ?_|refine aV ?_|refine aL ?_|refine aW ?_|refine aK ?_)
   obtain ⟨gs', cp', hP⟩ := hG3.fin (by omega)
   exact ⟨⟨(i + 1, gs', cp'), ⟨hir, hE3, hP⟩, by simp only; omega, rfl, trivial⟩, (by (repeat (first|exact aE _ _ _|refine aw rfl ?_|refine au rfl ?_|refine ak rfl ?_|refine ao rfl ?_)))⟩
 ·have eir : r = i := by omega
  subst eir
  repeat' (first|refine bA rfl rfl (by omega) ?_|refine ai rfl ?_|refine aa ?_|refine aj ?_|refine ah rfl ?_|refine ae ?_|refine ay rfl ?_|refine aV ?_|refine aL ?_|refine aW ?_|refine aR ?_)
  exact bK rfl (rt rfl) ⟨g, gs, cp, rfl, hP2.fin, hE2⟩
end Go.Proofs.YtppipmkpmmdcjaaGreat
