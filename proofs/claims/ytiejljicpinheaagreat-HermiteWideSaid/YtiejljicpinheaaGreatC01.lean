import Derived.Test.YtiejljicpinheaaGreatA01
import Derived.Test.YtiejljicpinheaaGreatA02
import Derived.Test.YtiejljicpinheaaGreatA03
import Derived.Test.YtiejljicpinheaaGreatA04
import Derived.Test.YtiejljicpinheaaGreatA05
import Derived.Test.YtiejljicpinheaaGreatA06
import Derived.Test.YtiejljicpinheaaGreatA12
import Derived.Test.YtiejljicpinheaaGreatA13
import Derived.Test.YtiejljicpinheaaGreatA14
import Derived.Test.YtiejljicpinheaaGreatA18
import Derived.Test.YtiejljicpinheaaGreatA24
import Derived.Test.YtiejljicpinheaaGreatA25
import Derived.Test.YtiejljicpinheaaGreatA26
import Derived.Test.YtiejljicpinheaaGreatA27
import Derived.Test.YtiejljicpinheaaGreatA28
import Derived.Test.YtiejljicpinheaaGreatA29
namespace Go.W
section
variable {P : Program} {S : World → Prop} {ops : List Oper} {K : Env → World → Prop} {rest : List (Oper × Option Bool)} {ρ : Env} {w : World} {b : Option Bool} {kf : Bool} {d : Nat} {dst : Option Nat} {T T' : TypeId} {pos : String} {af : Array Edge}
end
end Go.W
namespace Go.W
section
variable {P : Program} {S : World → Prop} {ops : List Oper} {K : Env → World → Prop} {rest : List (Oper × Option Bool)} {ρ : Env} {w : World} {b : Option Bool} {kf : Bool} {d : Nat} {dst : Option Nat} {T T' : TypeId} {pos : String} {af : Array Edge}
end
end Go.W
namespace Go.W
end Go.W
namespace Go.W
section
variable {P : Program} {S : World → Prop} {ops : List Oper} {K : Env → World → Prop} {rest : List (Oper × Option Bool)} {ρ : Env} {w : World} {b : Option Bool} {kf : Bool} {d : Nat} {dst : Option Nat} {T T' : TypeId} {pos : String} {af : Array Edge}
theorem vT {x y : Operand} {c : Bool} {T'' : TypeId} [h1 : BoolT P T'] (hx : ev ρ x = .bool c) (hy : ev ρ y = .bool c) (h : RR P S ops K rest (upd ρ d (.bool true)) w) : RR P S ops K ((⟨some d, .binOp .eql T' x y T'', T, pos, af, none⟩, b) :: rest) ρ w :=
 lY hx hy (by rw [beq_self_eq_true]; exact h)
end
end Go.W
namespace Go.Proofs.YtiejljicpinheaaGreat
open Go.W Go.LM Go.LA Go.PM
theorem wm (la : Option Addr) (n lc k : Nat) : NoI (tapeL la n lc k) := fun v hv m e => by
 simp only [List.mem_cons, List.not_mem_nil, or_false] at hv
 rcases hv with rfl | rfl <;> cases e
end Go.Proofs.YtiejljicpinheaaGreat
namespace Go.Proofs.YtiejljicpinheaaGreat
open Go.W Go.LM Go.LA Go.PM
set_option maxHeartbeats 8000000 in
theorem wo {rows cols : Int} (h1 : 0 ≤ rows ∧ rows ≤ 255) (_h2 : 0 ≤ cols ∧ cols ≤ 255) {L : List Int} {la : Option Addr} {w : World} (hL : Sl w la (int8L L)) (hI : I8 L) (lc : Nat) {more : Int} (hmo : 0 ≤ more ∧ more ≤ 255) :
  CallsR Tryz.prog 5 #[.agg (gridL rows cols la L.length lc).toArray, .int .u8 more] w fun v w' => v = .bool true ∧ Ex w w' := by
 refine aF (args := [_, _]) Tryz.func5 rfl rfl ?_
 refine aj ?_
 refine ah rfl ?_
 refine bH (vs := gridL rows cols la L.length lc) rfl (fun g1 w1 hn1 => ⟨fun _ _ => trivial, ?_⟩)
 have hg1 := hn1.blk
 have l1 := hn1.lo
 repeat' (first|refine aW (g := g1) rfl hg1 rfl ?_|refine cf (cs := tapeL la L.length lc 0) rfl ?_|refine ai rfl ?_|refine aa ?_|refine aj ?_|refine ah rfl ?_|refine ae ?_|refine aN rfl ?_)
 refine bH (vs := tapeL la L.length lc 0) rfl (fun g5 w2 hn2 => ⟨fun _ _ => trivial, ?_⟩)
 have hb5 := hn2.blk
 have hb12 := hg1.ext hn2.ex
 obtain ⟨r, hr⟩ : ∃ r : Nat, 1 + rows % 3 = (r : Int) := ⟨(1 + rows % 3).toNat, by omega⟩
 obtain ⟨c, hc⟩ : ∃ c : Nat, 9 + more % 8 = (c : Int) := ⟨(9 + more % 8).toNat, by omega⟩
 have hr3 : 1 ≤ r ∧ r ≤ 3 := by omega
 have hc16 : 9 ≤ c ∧ c ≤ 16 := by omega
 repeat' (first|refine aW (g := g1) rfl hb12 rfl ?_|refine dE rfl (dy (by omega) (by omega)) ?_|refine iC rfl rfl (by omega) (by omega) ?_|refine bc rfl rfl (by omega) (by omega) ?_|refine ai rfl ?_|refine aa ?_|refine aj ?_|refine ah rfl ?_|refine ae ?_|refine aN rfl ?_)
 rw [hr, hc]
 refine aw (eP (r := r) (c := c) (by omega) (by omega)) rfl ?_
 rintro v w3 ⟨g, gs, cp, rfl, hO3, hE3⟩
 refine ⟨fun _ _ => trivial, ?_⟩
 have l2 := hn2.lo
 have lb2 := hn2.hi
 have s1 := hn1.ex.size
 have s2 := hn2.ex.size
 have lg := hO3.low
 have g5g : g5 ≠ g := by omega
 have g5gs : ∀ k, k < r → g5 ≠ gs k := fun k hk => by have := (hO3.row k hk).low; omega
 have hlo5 : w.heap.size ≤ g5 := by omega
 have hne : 0 < L.length → ∀ ad, la = some ad → ad.block ≠ g5 := fun h ad e => by have := hL.lt (by simpa using h) ad e; omega
 have hE03 := (hn1.ex.trans hn2.ex).trans hE3
 have hO3' := (hO3.up (K' := 2) (by omega)).mono (show w.heap.size ≤ w2.heap.size by omega)
 have hpl : W.plain (some (⟨g, 0, none⟩ : Addr)) := ⟨_, _, rfl⟩
 repeat' (first|refine ai rfl ?_|refine aa ?_|refine aj ?_|refine ah rfl ?_|refine ae ?_|refine aZ rfl ?_|refine aA ?_)
 refine aY (ι := Nat) [7, 8, 31, 32, 33, 34, 35, 36, 37, 38, 39, 40, 41, 42, 43, 44, 45, 46, 47, 48, 49, 50, 51, 52] (fun i => [(31, .int .i64 (i : Int))])
  (fun i w' => (i ≤ r ∧ Ex w w') ∧ Blk w' g5 39 (tapeL la L.length lc (min (i * c) L.length)) ∧ MO true 2 w' w.heap.size g r c gs cp (fun x y => if x < i then gridF L c x y else 0)) (fun i => r - i)
  0 ⟨rfl, trivial⟩ ⟨⟨by omega, hE03⟩, by rw [Nat.zero_mul, Nat.min_eq_left (Nat.zero_le _)]; exact hb5.ext hE3, hO3'.congr fun x y _ _ => if_neg (by omega)⟩ ?_
 clear hO3 hO3' hE03
 rintro i ξ w4 ⟨⟨hi, hE4⟩, hT4, hO4⟩
 show CW _ _ _ _ (over [(31, .int .i64 (i : Int))] _) w4
 rcases Nat.lt_or_ge i r with hir | hir
 ·repeat' (first|refine bu rfl rfl (show ((i : Nat) : Int) < ((r : Nat) : Int) by omega) ?_|refine aD (j := i) (a := some ⟨g, 0, none⟩) rfl rfl ⟨_, _, rfl⟩ (by omega) ?_|refine aV (j := i) (a := some ⟨g, 0, none⟩) (n := r) (s := fun k => ⟨some ⟨gs k, 0, none⟩, c, cp k⟩) rfl hO4.top.sl (by omega) rfl ?_|refine ai rfl ?_|refine aa ?_|refine aj ?_|refine ah rfl ?_|refine ae ?_|refine aZ rfl ?_|refine az rfl ?_|refine aA ?_|refine aE ?_)
  refine aY (ι := Nat) [8, 39, 40, 41, 42, 43, 44, 45, 46, 47, 48, 49, 50, 51] (fun j => [(39, .int .i64 (j : Int))])
   (fun j w' => (j ≤ c ∧ Ex w w') ∧ Blk w' g5 39 (tapeL la L.length lc (min (i * c + j) L.length)) ∧ MO true 2 w' w.heap.size g r c gs cp (fun x y => if x < i ∨ (x = i ∧ y < j) then gridF L c x y else 0)) (fun j => c - j)
   0 ⟨rfl, trivial⟩ ⟨⟨by omega, hE4⟩, hT4, hO4.congr fun x y _ _ => by
    by_cases h : x < i
    ·rw [if_pos h, if_pos (.inl h)]
    ·rw [if_neg h, if_neg (by omega)]⟩ ?_
  clear hO4 hE4 hT4
  rintro j ξ3 w5 ⟨⟨hj, hE5⟩, hT5, hO5⟩
  show CW _ _ _ _ (over [(39, .int .i64 (j : Int))] _) w5
  rcases Nat.lt_or_ge j c with hjc | hjc
  ·obtain ⟨hhr, hbr, hcr, hEr⟩ := hO5.get hir
   have hfit := p7 hI c i j
   have hgi := g5gs i hir
   repeat' (first|refine bu rfl rfl (show ((j : Nat) : Int) < ((c : Nat) : Int) by omega) ?_|refine aa ?_|refine aj ?_|refine ah rfl ?_|refine ae ?_|refine az rfl ?_|refine aE ?_)
   refine aA ?_
   repeat' (first|refine ai rfl ?_|refine aa ?_|refine aj ?_|refine ah rfl ?_|refine ae ?_)
   refine bi (late := [9]) (plan := [(0, none), (1, none), (2, none), (3, none), (4, none), (5, none), (6, some true), (7, some true), (8, none), (9, some false)]) (fun w' => Sl w' (some ⟨g, 0, none⟩) (topC r fun k => ⟨some ⟨gs k, 0, none⟩, c, cp k⟩)) bA (by kernel_rfl) hO5.top.drew.sl ?_
   repeat' (first|refine aD (j := i) (a := some ⟨g, 0, none⟩) rfl rfl ⟨_, _, rfl⟩ (by omega) ?_|refine aV (j := i) (a := some ⟨g, 0, none⟩) (n := r) (s := fun k => ⟨some ⟨gs k, 0, none⟩, c, cp k⟩) rfl (fun _ h => h) (by omega) rfl ?_|refine ai rfl ?_)
   refine aw (lh hT5.drew (hL.ext hE5.drew) hI hne (Nat.min_le_right _ _)) rfl ?_
   rintro v w6 ⟨rfl, hc6, hT6⟩
   refine ⟨fun _ h => h.chg hc6 (fun ad e => by cases e; exact Ne.symm g5g), ?_⟩
   rw [nJ.1]
   rw [nJ.2] at hT6
   skip
   refine aw (cT (show _ ≤ L.getD (i * c + j) 0 by unfold gridF at hfit; omega) (by unfold gridF at hfit; omega) _) rfl ?_
   rintro v w7 ⟨hI7, hE7⟩
   refine ⟨fun _ h => h.ext hE7, ?_⟩
   obtain ⟨u, rfl⟩ := hI7.ih
   have hbr7 := ((hbr.drew).chg hc6 (Ne.symm hgi)).ext hE7
   repeat' (first|refine aT (j := j) (a := some ⟨gs i, 0, none⟩) rfl rfl ⟨_, _, rfl⟩ (by omega) ?_)
   refine bR (j := j) (n := cp i) (u := u) rfl rfl hbr7 (by omega) (fun w8 hc8 hb8 => ⟨fun h => (nomatch h), ?_⟩)
   repeat' (first|refine ai rfl ?_|refine aa ?_|refine ah rfl ?_|refine ae ?_|refine bc rfl rfl (by omega) (by omega) ?_|refine aL ?_)
   have hEg : ∀ {v : Value} {z : Int}, Ent true 2 w5 v z → Ent true 2 w7 v z := fun h => ((h.ext (Ex.refl w5).drew).gbN hT5.drew (wm _ _ _ _) (bw hc6)).ext hE7
   have hO7 := ((hO5.ext (Ex.refl w5).drew).gbN hT5.drew (wm _ _ _ _) (bw hc6) (Ne.symm g5g) (fun k hk => Ne.symm (g5gs k hk))).ext hE7
   have hlor := (hO5.row i hir).low
   refine ⟨⟨j + 1, ⟨⟨hjc, ((hE5.drew.chg hc6 hlo5).trans hE7).chg hc8 hlor⟩, (hT6.ext hE7).chg hc8 hgi, (hO7.put hir hbr7 (fun k hk => hEg (hEr k hk)) (Ent.of hI7 (by have e2 : (4294967296 : Nat) ^ 2 = 18446744073709551616 := rfl; unfold gridF at hfit; omega)) hc8 hb8).congr fun x y _ _ => ?_⟩, by omega, rfl, trivial⟩, (by (repeat (first|exact aH _ _ _|refine ay rfl ?_|refine av rfl ?_|refine ak rfl ?_|refine ao rfl ?_)))⟩
   unfold setM
   by_cases h : x = i ∧ y = j
   ·rw [if_pos h, if_pos (by omega), h.1, h.2]; rfl
   ·rw [if_neg h]
    show _ = if x < i ∨ (x = i ∧ y < j) then gridF L c x y else 0
    by_cases h' : x < i ∨ (x = i ∧ y < j)
    ·rw [if_pos h', if_pos (by omega)]
    ·rw [if_neg h', if_neg (by omega)]
  ·obtain rfl : j = c := by omega
   repeat' (first|refine bj rfl rfl (show ((j : Nat) : Int) ≤ ((j : Nat) : Int) by omega) ?_|refine ai rfl ?_|refine aa ?_|refine aj ?_|refine ah rfl ?_|refine ae ?_|refine bc rfl rfl (by omega) (by omega) ?_|refine au rfl ?_|refine aP ?_|refine aJ ?_|refine aQ ?_|refine aL ?_)
   refine ⟨⟨i + 1, ⟨⟨hir, hE5⟩, by rw [Nat.succ_mul]; exact hT5, hO5.congr fun x y _ hy => ?_⟩, by omega, rfl, trivial⟩, (by (repeat (first|exact aH _ _ _|refine ay rfl ?_|refine av rfl ?_|refine ak rfl ?_|refine ao rfl ?_)))⟩
   by_cases h : x < i + 1
   ·rw [if_pos h, if_pos (by omega)]
   ·rw [if_neg h, if_neg (by omega)]
 ·obtain rfl : i = r := by omega
  replace hO4 := hO4.congr (F' := gridF L c) fun x y hx _ => by rw [if_pos hx]
  generalize gridF L c = A at *
  repeat' (first|refine bj rfl rfl (show ((i : Nat) : Int) ≤ ((i : Nat) : Int) by omega) ?_|refine ai rfl ?_|refine aa ?_|refine aj ?_|refine ah rfl ?_|refine ae ?_|refine au rfl ?_|refine aP ?_|refine aJ ?_|refine aQ ?_)
  refine aw (dV hO4.mx (by omega) (by omega) (by omega) (by omega)) rfl ?_
  rintro v w5 ⟨g6, g6', gs6, cp6, gs6', cp6', H, U, k, p, rfl, hF5, hE5⟩
  refine ⟨fun _ _ => trivial, ?_⟩
  repeat' (first|refine aK rfl rfl ?_|refine ai rfl ?_|refine aa ?_|refine aj ?_|refine ah rfl ?_|refine ae ?_)
  refine aw (gi (Q := 100) (s := 0) (KM := KMz) (hO4.ext hE5).mx (by omega) (by omega) (v7 (fun i j hi hj => hO4.mx.lb hi hj) (by omega)) (by omega) (tX (by omega)) (by decide)) rfl ?_
  rintro v w6 ⟨g7, g7', gs7, cp7, gs7', cp7', H', U', k', p', rfl, hF6, _, _, _, hE6⟩
  refine ⟨fun _ _ => trivial, ?_⟩
  have hsame := (jd hF5.ceq hF5.hf hF6.ceq hF6.hf).2
  repeat' (first|refine aK rfl rfl ?_|refine vT rfl rfl ?_|refine ai rfl ?_|refine aa ?_|refine aj ?_|refine ah rfl ?_|refine ae ?_|refine bz rfl rfl ?_)
  refine aw (dK ((hF5.h.ext hE6).mx.ac (by omega)) (hF6.h.mx.ac (by omega)) (by omega)) rfl ?_
  rintro v w7 ⟨t7zz, rfl, ht7, hE7⟩
  refine ⟨fun _ _ => trivial, ?_⟩
  obtain rfl : t7zz = true := ht7.2 ⟨rfl, fun i hi => ⟨rfl, fun j hj => hsame i j hi hj⟩⟩
  have hE57 := hE6.trans hE7
  repeat' (first|refine ai rfl ?_|refine bz rfl rfl ?_)
  refine aw (iz (hF5.u.ext hE57).mx (by omega) (by omega) (by omega)) rfl ?_
  rintro v w8 ⟨t8, rfl, ht8, hE8⟩
  refine ⟨fun _ _ => trivial, ?_⟩
  obtain rfl : t8 = true := ht8.2 ⟨rfl, hF5.ceq.1⟩
  have hE58 := hE57.trans hE8
  repeat' (first|refine ai rfl ?_|refine bz rfl rfl ?_)
  refine aw (jM (hO4.ext (hE5.trans hE58)).mx (hF5.u.ext hE58).mx (by omega) (by omega) (by omega) (by omega)) rfl ?_
  rintro v w9 ⟨g9, gs9, cp9, rfl, hO9, hE9⟩
  refine ⟨fun _ _ => trivial, ?_⟩
  repeat' (first|refine ai rfl ?_|refine bz rfl rfl ?_)
  refine aw (dK (hO9.mx.ac (by omega)) ((hF5.h.ext (hE58.trans hE9)).mx.ac (by omega)) (by omega)) rfl ?_
  rintro v w10 ⟨t10, rfl, ht10, hE10⟩
  refine ⟨fun _ _ => trivial, ?_⟩
  obtain rfl : t10 = true := ht10.2 ⟨rfl, fun i hi => ⟨rfl, fun j hj => (hF5.ceq.2 i j hi hj).symm⟩⟩
  repeat' (first|refine ai rfl ?_|refine bz rfl rfl ?_)
  refine aw (nI _) rfl ?_
  rintro v wz ⟨rfl, hEz⟩
  refine ⟨fun _ _ => trivial, ?_⟩
  repeat' (first|refine ai rfl ?_|refine aa ?_|refine ae ?_|refine aI ?_)
  exact bx rfl (rt rfl) ⟨rfl, (((hE4.trans hE5).trans hE58).trans (hE9.trans hE10)).trans hEz⟩
end Go.Proofs.YtiejljicpinheaaGreat
