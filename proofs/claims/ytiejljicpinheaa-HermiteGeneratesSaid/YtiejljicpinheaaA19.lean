import Derived.Test.YtiejljicpinheaaRows
import Derived.Carry
import Derived.ChangeCalls
import Derived.SizedLaws
import Derived.JoinedOf
import Derived.JoinedAt
import Derived.Deep.Matrix
import Derived.Deep.SlicePairs
import Derived.Test.YtiejljicpinheaaA18
namespace Go.Proofs.Ytiejljicpinheaa
open Go.W Go.LM Go.LA
set_option maxHeartbeats 4000000 in
theorem lX {c1 c2 : Bool} {K1 K2 r n c ca cb : Nat} {w : World} {a b : Option Addr} {s s' : Nat → SD} {A B : Mat} (hA : MX c1 K1 w a r n s A) (hB : MX c2 K2 w b n c s' B)
  (hr : 1 ≤ r ∧ r ≤ 16) (hn : 1 ≤ n ∧ n ≤ 16) (hc : 1 ≤ c ∧ c ≤ 16) (hK : K1 + K2 + 2 < 17592186044416) :
  CallsR Try.prog 29 #[.slice a r ca, .slice b n cb] w fun v w' => ∃ u, v = .tuple #[u, .bool true] ∧ RetMO (K1 + K2 + 1) w r c (mm n A B) u w' := by
 have hpt := hA.plain (by omega)
 refine aG (args := [_, _]) Try.func29 rfl rfl ?_
 repeat' (first|refine ai rfl ?_|refine aa ?_|refine aj ?_|refine ah rfl ?_|refine ae ?_)
 refine aw (d5 hA.top) rfl ?_
 rintro v w1 ⟨rfl, hE1⟩
 refine ⟨fun _ _ => trivial, ?_⟩
 rw [cK hA hr hn]
 repeat' (first|refine aO rfl rfl ?_|refine ai rfl ?_|refine aa ?_|refine aj ?_|refine ah rfl ?_|refine ae ?_)
 refine aw (iF (hB.ext hE1) hn hc) rfl ?_
 rintro v w2 ⟨_, rfl, gt, gst, cpt, rfl, hT2, hE2⟩
 refine ⟨fun _ _ => trivial, ?_⟩
 repeat' (first|refine aO rfl rfl ?_|refine dq rfl rfl rfl ?_|refine ai rfl ?_|refine aa ?_|refine aj ?_|refine ah rfl ?_|refine ae ?_|refine aY rfl ?_|refine bG rfl rfl ?_|refine ay rfl ?_|refine aF ?_)
 refine aw (fT (r := r) (c := c) (by omega) (by omega)) rfl ?_
 rintro v w3 ⟨g, gs, cp, rfl, hO3, hE3⟩
 refine ⟨fun _ _ => trivial, ?_⟩
 have hE02 := hE1.trans hE2
 have s2 := hE02.size
 have hE03 := hE02.trans hE3
 have lM : ∀ i j, i < r → j < c → Lb (K1 + K2 + 1) (mm n A B i j) := fun i j hi hj => fP (fun k hk => hA.lb hi hk) (fun k hk => hB.lb hk hj) (by omega)
 repeat' (first|refine ai rfl ?_|refine aa ?_|refine aj ?_|refine ah rfl ?_|refine ae ?_|refine aY rfl ?_|refine aB ?_)
 refine aW (ι := Nat) [12, 13, 44, 45, 46, 47, 48, 49, 50, 51, 52, 53, 54, 55, 56, 57, 58, 59, 60, 61, 62, 63, 64, 65, 66, 67, 68] (fun i => [(44, .int .i64 (i : Int))])
  (fun i w' => i ≤ r ∧ Ex w2 w' ∧ MO true (K1 + K2 + 1) w' w2.heap.size g r c gs cp (fun x y => if x < i then mm n A B x y else 0)) (fun i => r - i)
  0 ⟨rfl, trivial⟩ ⟨by omega, hE3, (hO3.up (by omega)).congr fun x y _ _ => if_neg (by omega)⟩ ?_
 clear hO3 hE03 hE3
 rintro i ξ w4 ⟨hi, hE4, hO4⟩
 show CW _ _ _ _ (over [(44, .int .i64 (i : Int))] _) w4
 rcases Nat.lt_or_ge i r with hir | hir
 ·repeat' (first|refine bv rfl rfl (by omega) ?_|refine ai rfl ?_|refine aa ?_|refine aj ?_|refine ah rfl ?_|refine ae ?_|refine aY rfl ?_|refine aC rfl ?_|refine aB ?_|refine aF ?_)
  refine aW (ι := Nat) [13, 49, 50, 51, 52, 53, 54, 55, 56, 57, 58, 59, 60, 61, 62, 63, 64, 65, 66, 67] (fun j => [(49, .int .i64 (j : Int))])
   (fun j w' => j ≤ c ∧ Ex w2 w' ∧ MO true (K1 + K2 + 1) w' w2.heap.size g r c gs cp (fun x y => if x < i ∨ (x = i ∧ y < j) then mm n A B x y else 0)) (fun j => c - j)
   0 ⟨rfl, trivial⟩ ⟨by omega, hE4, hO4.congr fun x y _ _ => by
    by_cases h : x < i
    ·rw [if_pos h, if_pos (.inl h)]
    ·rw [if_neg h, if_neg (by omega)]⟩ ?_
  clear hO4 hE4
  rintro j ξ2 w5 ⟨hj, hE5, hO5⟩
  show CW _ _ _ _ (over [(49, .int .i64 (j : Int))] _) w5
  rcases Nat.lt_or_ge j c with hjc | hjc
  ·have hE05 := hE02.trans hE5
   obtain ⟨hhr, hbr, hcr, hEr⟩ := hO5.get hir
   have hT5 := hT2.ext hE5
   repeat' (first|refine bv rfl rfl (by omega) ?_|refine aa ?_|refine aj ?_|refine ah rfl ?_|refine ae ?_|refine aC rfl ?_|refine aF ?_)
   refine aB ?_
   repeat' (first|refine ai rfl ?_|refine aa ?_|refine aj ?_|refine ah rfl ?_|refine ae ?_)
   refine bn (late := [15]) (plan := [(0, none), (1, none), (2, none), (3, none), (4, none), (5, none), (6, none), (7, none), (8, none), (9, none), (10, none), (11, none), (12, none), (13, some true), (14, none), (15, some false)]) (fun w' => Ex w5 w') bC (by kernel_rfl) (Ex.refl w5).drew ?_
   have hEd := (Ex.refl w5).drew
   repeat' (first|refine aD (j := i) (a := some ⟨g, 0, none⟩) rfl rfl ⟨_, _, rfl⟩ (by omega) ?_|refine aZ (j := i) (a := some ⟨g, 0, none⟩) (n := r) (s := fun k => ⟨some ⟨gs k, 0, none⟩, c, cp k⟩) rfl (fun _ h => (hO5.ext h).top.sl) (by omega) rfl ?_|refine aD (j := i) (a := a) rfl rfl hpt (by omega) ?_|refine cw (j := i) (a := a) (n := r) (s := s) rfl (fun _ h => (hA.ext (hE05.trans h)).top) (by omega) ?_|refine aD (j := j) (a := some ⟨gt, 0, none⟩) rfl rfl ⟨_, _, rfl⟩ (by omega) ?_|refine cw (j := j) (a := some ⟨gt, 0, none⟩) (n := c) (s := fun k => ⟨some ⟨gst k, 0, none⟩, n, cpt k⟩) rfl (fun _ h => (hT5.ext h).top.sl) (by omega) ?_|refine ai rfl ?_)
   refine aw (jl (((hA.row i hir).ext hE05).ext hEd) (((hT5.row j hjc).rx).ext hEd) (by omega) (by omega)) rfl ?_
   rintro v w6 ⟨hI6, hE6⟩
   refine ⟨fun _ h => h.trans hE6, ?_⟩
   obtain ⟨u, rfl⟩ := hI6.ih
   have hE56 := hEd.trans hE6
   repeat' (first|refine bj (j := j) (a := some ⟨gs i, 0, none⟩) rfl rfl ⟨_, _, rfl⟩ (by omega) ?_)
   refine cF (j := j) (n := cp i) (u := u) rfl rfl (hbr.ext hE56) (by omega) (fun w7 hc7 hb7 => ⟨fun h => (nomatch h), ?_⟩)
   repeat' (first|refine ai rfl ?_|refine aa ?_|refine ah rfl ?_|refine ae ?_|refine bi rfl rfl (by omega) (by omega) ?_|refine aJ ?_)
   refine ⟨⟨j + 1, ⟨hjc, (hE5.trans hE56).chg hc7 (hO5.row i hir).low, ((hO5.ext hE56).put hir (hbr.ext hE56) (fun k hk => (hEr k hk).ext hE56) (Ent.of hI6 (lM i j hir hjc)) hc7 hb7).congr fun x y _ _ => ?_⟩, by omega, rfl, trivial⟩, (by (repeat (first|exact aH _ _ _|refine ax rfl ?_|refine av rfl ?_|refine ak rfl ?_|refine ao rfl ?_)))⟩
   unfold setM
   by_cases h : x = i ∧ y = j
   ·rw [if_pos h, if_pos (by omega), h.1, h.2]; rfl
   ·rw [if_neg h]
    show _ = if x < i ∨ (x = i ∧ y < j) then mm n A B x y else 0
    by_cases h' : x < i ∨ (x = i ∧ y < j)
    ·rw [if_pos h', if_pos (by omega)]
    ·rw [if_neg h', if_neg (by omega)]
  ·have ejc : c = j := by omega
   subst ejc
   repeat' (first|refine bu rfl rfl (by omega) ?_|refine ai rfl ?_|refine aa ?_|refine aj ?_|refine ah rfl ?_|refine ae ?_|refine bi rfl rfl (by omega) (by omega) ?_|refine ay rfl ?_|refine aS ?_|refine aL ?_|refine aT ?_|refine aJ ?_)
   refine ⟨⟨i + 1, ⟨hir, hE5, hO5.congr fun x y _ hy => ?_⟩, by omega, rfl, trivial⟩, (by (repeat (first|exact aH _ _ _|refine ax rfl ?_|refine av rfl ?_|refine ak rfl ?_|refine ao rfl ?_)))⟩
   by_cases h : x < i + 1
   ·rw [if_pos h, if_pos (by omega)]
   ·rw [if_neg h, if_neg (by omega)]
 ·have eir : r = i := by omega
  subst eir
  repeat' (first|refine bu rfl rfl (by omega) ?_|refine ai rfl ?_|refine aa ?_|refine aj ?_|refine ah rfl ?_|refine ae ?_|refine ay rfl ?_|refine aS ?_|refine aL ?_|refine aT ?_|refine aK ?_)
  exact cR rfl (rt rfl) (rt rfl) ⟨_, rfl, g, gs, cp, rfl, (hO4.mono s2).congr fun x y hx _ => by rw [if_pos hx], hE02.trans hE4⟩
theorem jr {c1 c2 : Bool} {K1 K2 r n c ca cb : Nat} {w : World} {a b : Option Addr} {s s' : Nat → SD} {A B : Mat} (hA : MX c1 K1 w a r n s A) (hB : MX c2 K2 w b n c s' B)
  (hr : 1 ≤ r ∧ r ≤ 16) (hn : 1 ≤ n ∧ n ≤ 16) (hc : 1 ≤ c ∧ c ≤ 16) (hK : K1 + K2 + 2 < 17592186044416) :
  CallsR Try.prog 10 #[.slice a r ca, .slice b n cb] w (RetMO (K1 + K2 + 1) w r c (mm n A B)) := by
 refine aG (args := [_, _]) Try.func10 rfl rfl ?_
 repeat' (first|refine ai rfl ?_|refine aa ?_|refine aj ?_|refine ah rfl ?_|refine ae ?_)
 refine aw (lX hA hB hr hn hc hK) rfl ?_
 rintro v w1 ⟨_, rfl, g, gs, cp, rfl, hO, hE1⟩
 refine ⟨fun _ _ => trivial, ?_⟩
 repeat' (first|refine aO rfl rfl ?_|refine ai rfl ?_|refine aa ?_|refine aj ?_|refine ah rfl ?_|refine ae ?_|refine aK ?_)
 exact bB rfl (rt rfl) ⟨g, gs, cp, rfl, hO, hE1⟩
end Go.Proofs.Ytiejljicpinheaa
namespace Go.W
def intC (n : Nat) (f : Nat → Int) : List Value := (List.range n).map fun i => Value.int .i64 (f i)
theorem fE (n : Nat) (f : Nat → Int) : (intC n f).length = n := by simp [intC]
theorem iH {n i : Nat} {f : Nat → Int} (h : i < n) : (intC n f)[i]? = some (.int .i64 (f i)) := by simp [intC, h]
theorem dJ {n : Nat} {f g : Nat → Int} (h : ∀ i, i < n → f i = g i) : intC n f = intC n g := List.map_congr_left fun i hi => by rw [h i (List.mem_range.1 hi)]
theorem q8 {n i : Nat} {f : Nat → Int} {x : Int} : (intC n f).set i (.int .i64 x) = intC n (setF f i x) := by
 refine List.ext_getElem? fun j => ?_
 by_cases hj : j < n
 ·by_cases h : j = i
  ·subst h; rw [List.getElem?_set_self (by rw [fE]; exact hj), iH hj, aN]
  ·rw [List.getElem?_set_ne (fun e => h e.symm), iH hj, iH hj, aQ _ _ h]
 ·rw [List.getElem?_eq_none (by rw [List.length_set, fE]; omega), List.getElem?_eq_none (by rw [fE]; omega)]
structure MI (w : World) (a : Option Addr) (r c : Nat) (s : Nat → SD) (F : Nat → Nat → Int) : Prop where
 top : Sl w a (topC r s)
 row : ∀ i, i < r → (s i).len = c ∧ Sl w (s i).a (intC c (F i))
 fit : ∀ i j, i < r → j < c → -9223372036854775808 ≤ F i j ∧ F i j ≤ 9223372036854775807
theorem MI.ext {w w' : World} {a : Option Addr} {r c : Nat} {s : Nat → SD} {F : Nat → Nat → Int} (h : MI w a r c s F) (e : Ex w w') : MI w' a r c s F := ⟨h.top.ext e, fun i hi => ⟨(h.row i hi).1, (h.row i hi).2.ext e⟩, h.fit⟩
section
variable {P : Program} {S : World → Prop} {ops : List Oper} {K : Env → World → Prop} {rest : List (Oper × Option Bool)} {ρ : Env} {w : World} {b : Option Bool} {d : Nat} {T : TypeId} {pos : String} {af : Array Edge}
theorem eT {x : Operand} {T1 : TypeId} {a : Option Addr} {j n : Nat} {f : Nat → Int} [Scal P T1] (hx : ev ρ x = .pointer (some (elt a j))) (hs : Rd b S w fun w' => Sl w' a (intC n f)) (hj : j < n)
  (h : RR P S ops K rest (upd ρ d (.int .i64 (f j))) w) : RR P S ops K ((⟨some d, .load T1 x, T, pos, af, none⟩, b) :: rest) ρ w :=
 fI hx (hs.imp fun w' hs => by
  have := hs.get j (by rw [fE]; exact hj)
  rw [this, List.getD_eq_getElem?_getD, iH hj]; rfl) h
end
end Go.W
namespace Go.Proofs.Ytiejljicpinheaa
open Go.W Go.LM Go.LA
set_option maxHeartbeats 4000000 in
theorem i9 {r c cap : Nat} {w : World} {a : Option Addr} {s : Nat → SD} {F : Mat} (hM : MI w a r c s F) (hr : 1 ≤ r ∧ r ≤ 16) (hc : 1 ≤ c ∧ c ≤ 16) :
  CallsR Try.prog 22 #[.slice a r cap] w fun v w' => ∃ u, v = .tuple #[u, .bool true] ∧ RetMO 2 w r c F u w' := by
 have hpt := hM.top.plain (by rw [bO]; omega)
 have hlen : ∀ i, i < r → (s i).len = c := fun i hi => (hM.row i hi).1
 have h0 := hlen 0 (by omega)
 have lF : ∀ i j, i < r → j < c → Lb 2 (F i j) := fun i j hi hj => by have := hM.fit i j hi hj; unfold Lb; omega
 refine aG (args := [_]) Try.func22 rfl rfl ?_
 repeat' (first|refine bu rfl rfl (by omega) ?_|refine jQ rfl rfl (by omega) ?_|refine ai rfl ?_|refine aa ?_|refine aj ?_|refine ah rfl ?_|refine ae ?_|refine aY rfl ?_|refine bG rfl rfl ?_|refine ay rfl ?_|refine aB ?_|refine aF ?_)
 refine aW (ι := Nat) [2, 3, 5, 19, 20, 21, 22, 23, 24, 25, 26, 27, 28, 29, 30, 31, 32, 33, 34, 35, 36, 37, 38, 39, 40] (fun i => [(19, .int .i64 (i : Int))]) (fun i w' => i ≤ r ∧ w' = w) (fun i => r - i) 0 ⟨rfl, trivial⟩ ⟨by omega, rfl⟩ ?_
 rintro i ξ w2 ⟨hi, rfl⟩
 show CW _ _ _ _ (over [(19, .int .i64 (i : Int))] _) w2
 rcases Nat.lt_or_ge i r with hir | hir
 ·have hli := hlen i hir
  repeat' (first|refine bv rfl rfl (show ((i : Nat) : Int) < ((r : Nat) : Int) by omega) ?_|refine bu rfl rfl (by omega) ?_|refine jQ rfl rfl (by omega) ?_|refine dq rfl rfl (by omega) ?_|refine aD (j := i) rfl rfl hpt (by omega) ?_|refine cw (j := i) rfl hM.top (by omega) ?_|refine aD (j := 0) rfl rfl hpt (by omega) ?_|refine cw (j := 0) rfl hM.top (by omega) ?_|refine ai rfl ?_|refine aa ?_|refine aj ?_|refine ah rfl ?_|refine ae ?_|refine aY rfl ?_|refine bG rfl rfl ?_|refine bi rfl rfl (by omega) (by omega) ?_|refine aC rfl ?_|refine ay rfl ?_|refine aB ?_|refine aJ ?_|refine aF ?_)
  exact ⟨⟨i + 1, ⟨hir, rfl⟩, by omega, rfl, trivial⟩, (by (repeat (first|exact aH _ _ _|refine ax rfl ?_|refine av rfl ?_|refine ak rfl ?_|refine ao rfl ?_)))⟩
 ·have eir : r = i := by omega
  subst eir
  repeat' (first|refine bu rfl rfl (by omega) ?_|refine aD (j := 0) rfl rfl hpt (by omega) ?_|refine cw (j := 0) rfl hM.top (by omega) ?_|refine ai rfl ?_|refine aa ?_|refine aj ?_|refine ah rfl ?_|refine ae ?_|refine aY rfl ?_|refine ay rfl ?_|refine aS ?_|refine aL ?_|refine aT ?_)
  rw [h0]
  refine aw (fT (r := r) (c := c) (by omega) (by omega)) rfl ?_
  rintro v w3 ⟨g, gs, cp, rfl, hO3, hE3⟩
  refine ⟨fun _ _ => trivial, ?_⟩
  repeat' (first|refine ai rfl ?_|refine aa ?_|refine aj ?_|refine ah rfl ?_|refine ae ?_|refine aY rfl ?_|refine aB ?_)
  refine aW (ι := Nat) [7, 8, 50, 51, 52, 53, 54, 55, 56, 57, 58, 59, 60, 61, 62, 63, 64, 65, 66, 67, 68, 69, 70, 71, 72, 73, 74, 75, 76] (fun i => [(50, .int .i64 (i : Int))])
   (fun i w' => i ≤ r ∧ Ex w2 w' ∧ MO true 2 w' w2.heap.size g r c gs cp (fun x y => if x < i then F x y else 0)) (fun i => r - i)
   0 ⟨rfl, trivial⟩ ⟨by omega, hE3, (hO3.up (by omega)).congr fun x y _ _ => if_neg (by omega)⟩ ?_
  clear hO3 hE3
  rintro i ξ2 w4 ⟨hi, hE4, hO4⟩
  show CW _ _ _ _ (over [(50, .int .i64 (i : Int))] _) w4
  rcases Nat.lt_or_ge i r with hir | hir
  ·have hli := hlen i hir
   repeat' (first|refine bv rfl rfl (show ((i : Nat) : Int) < ((r : Nat) : Int) by omega) ?_|refine aD (j := i) (a := a) rfl rfl hpt (by omega) ?_|refine cw (j := i) (a := a) (n := r) (s := s) rfl (hM.ext hE4).top (by omega) ?_|refine ai rfl ?_|refine aa ?_|refine aj ?_|refine ah rfl ?_|refine ae ?_|refine aY rfl ?_|refine aC rfl ?_|refine aB ?_|refine aF ?_)
   refine aW (ι := Nat) [8, 58, 59, 60, 61, 62, 63, 64, 65, 66, 67, 68, 69, 70, 71, 72, 73, 74, 75] (fun j => [(58, .int .i64 (j : Int))])
    (fun j w' => j ≤ c ∧ Ex w2 w' ∧ MO true 2 w' w2.heap.size g r c gs cp (fun x y => if x < i ∨ (x = i ∧ y < j) then F x y else 0)) (fun j => c - j)
    0 ⟨rfl, trivial⟩ ⟨by omega, hE4, hO4.congr fun x y _ _ => by
     by_cases h : x < i
     ·rw [if_pos h, if_pos (.inl h)]
     ·rw [if_neg h, if_neg (by omega)]⟩ ?_
   clear hO4 hE4
   rintro j ξ3 w5 ⟨hj, hE5, hO5⟩
   show CW _ _ _ _ (over [(58, .int .i64 (j : Int))] _) w5
   rcases Nat.lt_or_ge j c with hjc | hjc
   ·obtain ⟨hhr, hbr, hcr, hEr⟩ := hO5.get hir
    have hrow := (hM.row i hir).2
    have hprow := hrow.plain (by rw [fE]; omega)
    have hfit := hM.fit i j hir hjc
    repeat' (first|refine bv rfl rfl (by omega) ?_|refine aa ?_|refine aj ?_|refine ah rfl ?_|refine ae ?_|refine aC rfl ?_|refine aF ?_)
    refine aB ?_
    repeat' (first|refine ai rfl ?_|refine aa ?_|refine aj ?_|refine ah rfl ?_|refine ae ?_)
    refine bn (late := [14]) (plan := [(0, none), (1, none), (2, none), (3, none), (4, none), (5, none), (6, none), (7, none), (8, none), (9, none), (10, none), (11, none), (12, some true), (13, none), (14, some false)]) (fun w' => Ex w5 w') bC (by kernel_rfl) (Ex.refl w5).drew ?_
    have hEd := (Ex.refl w5).drew
    repeat' (first|refine aD (j := i) (a := some ⟨g, 0, none⟩) rfl rfl ⟨_, _, rfl⟩ (by omega) ?_|refine aZ (j := i) (a := some ⟨g, 0, none⟩) (n := r) (s := fun k => ⟨some ⟨gs k, 0, none⟩, c, cp k⟩) rfl (fun _ h => (hO5.ext h).top.sl) (by omega) rfl ?_|refine aD (j := i) (a := a) rfl rfl hpt (by omega) ?_|refine cw (j := i) (a := a) (n := r) (s := s) rfl (fun _ h => (hM.ext (hE5.trans h)).top) (by omega) ?_|refine aD (j := j) (a := (s i).a) rfl rfl hprow (by omega) ?_|refine eT (j := j) (a := (s i).a) rfl (fun _ h => hrow.ext (hE5.trans h)) (by omega) ?_|refine ai rfl ?_)
    refine aw (dY hfit.1 hfit.2 _) rfl ?_
    rintro v w6 ⟨hI6, hE6⟩
    refine ⟨fun _ h => h.trans hE6, ?_⟩
    obtain ⟨u, rfl⟩ := hI6.ih
    have hE56 := hEd.trans hE6
    repeat' (first|refine bj (j := j) (a := some ⟨gs i, 0, none⟩) rfl rfl ⟨_, _, rfl⟩ (by omega) ?_)
    refine cF (j := j) (n := cp i) (u := u) rfl rfl (hbr.ext hE56) (by omega) (fun w7 hc7 hb7 => ⟨fun h => (nomatch h), ?_⟩)
    repeat' (first|refine ai rfl ?_|refine aa ?_|refine ah rfl ?_|refine ae ?_|refine bi rfl rfl (by omega) (by omega) ?_|refine aJ ?_)
    refine ⟨⟨j + 1, ⟨hjc, (hE5.trans hE56).chg hc7 (hO5.row i hir).low, ((hO5.ext hE56).put hir (hbr.ext hE56) (fun k hk => (hEr k hk).ext hE56) (Ent.of hI6 (lF i j hir hjc)) hc7 hb7).congr fun x y _ _ => ?_⟩, by omega, rfl, trivial⟩, (by (repeat (first|exact aH _ _ _|refine ax rfl ?_|refine av rfl ?_|refine ak rfl ?_|refine ao rfl ?_)))⟩
    unfold setM
    by_cases h : x = i ∧ y = j
    ·rw [if_pos h, if_pos (by omega), h.1, h.2]
    ·rw [if_neg h]
     show _ = if x < i ∨ (x = i ∧ y < j) then F x y else 0
     by_cases h' : x < i ∨ (x = i ∧ y < j)
     ·rw [if_pos h', if_pos (by omega)]
     ·rw [if_neg h', if_neg (by omega)]
   ·have ejc : c = j := by omega
    subst ejc
    repeat' (first|refine bu rfl rfl (by omega) ?_|refine ai rfl ?_|refine aa ?_|refine aj ?_|refine ah rfl ?_|refine ae ?_|refine bi rfl rfl (by omega) (by omega) ?_|refine ay rfl ?_|refine aS ?_|refine aL ?_|refine aT ?_|refine aJ ?_)
    refine ⟨⟨i + 1, ⟨hir, hE5, hO5.congr fun x y _ hy => ?_⟩, by omega, rfl, trivial⟩, (by (repeat (first|exact aH _ _ _|refine ax rfl ?_|refine av rfl ?_|refine ak rfl ?_|refine ao rfl ?_)))⟩
    by_cases h : x < i + 1
    ·rw [if_pos h, if_pos (by omega)]
    ·rw [if_neg h, if_neg (by omega)]
  ·have eir : r = i := by omega
   subst eir
   repeat' (first|refine bu rfl rfl (by omega) ?_|refine ai rfl ?_|refine aa ?_|refine aj ?_|refine ah rfl ?_|refine ae ?_|refine ay rfl ?_|refine aS ?_|refine aL ?_|refine aT ?_|refine aK ?_)
   exact cR rfl (rt rfl) (rt rfl) ⟨_, rfl, g, gs, cp, rfl, hO4.congr fun x y hx _ => by rw [if_pos hx], hE4⟩
theorem dK {r c cap : Nat} {w : World} {a : Option Addr} {s : Nat → SD} {F : Mat} (hM : MI w a r c s F) (hr : 1 ≤ r ∧ r ≤ 16) (hc : 1 ≤ c ∧ c ≤ 16) :
  CallsR Try.prog 7 #[.slice a r cap] w (RetMO 2 w r c F) := by
 refine aG (args := [_]) Try.func7 rfl rfl ?_
 repeat' (first|refine ai rfl ?_|refine aa ?_|refine aj ?_|refine ah rfl ?_|refine ae ?_)
 refine aw (i9 hM hr hc) rfl ?_
 rintro v w1 ⟨_, rfl, g, gs, cp, rfl, hO, hE1⟩
 refine ⟨fun _ _ => trivial, ?_⟩
 repeat' (first|refine aO rfl rfl ?_|refine ai rfl ?_|refine aa ?_|refine aj ?_|refine ah rfl ?_|refine ae ?_|refine aK ?_)
 exact bB rfl (rt rfl) ⟨g, gs, cp, rfl, hO, hE1⟩
end Go.Proofs.Ytiejljicpinheaa
namespace Go.Proofs.Ytiejljicpinheaa
open Go.W Go.LM Go.LA
def litS (g0 g1 c : Nat) : Nat → SD := fun i => ⟨some ⟨if i = 0 then g0 else g1, 0, none⟩, c, c⟩
theorem gC {L : List (List Int)} (h : ∀ l ∈ L, ∀ x ∈ l, -100 ≤ x ∧ x ≤ 100) (i j : Nat) : -9223372036854775808 ≤ litF L i j ∧ litF L i j ≤ 9223372036854775807 := by
 unfold litF
 by_cases hi : i < L.length
 ·have h1 : L.getD i [] ∈ L := by rw [List.getD_eq_getElem?_getD, List.getElem?_eq_getElem hi]; exact List.getElem_mem _
  by_cases hj : j < (L.getD i []).length
  ·have h2 := h _ h1 ((L.getD i []).getD j 0) (by rw [List.getD_eq_getElem?_getD (l := L.getD i []), List.getElem?_eq_getElem hj]; exact List.getElem_mem _)
   omega
  ·rw [List.getD_eq_getElem?_getD (l := L.getD i []), List.getElem?_eq_none (by omega)]; simp
 ·rw [List.getD_eq_getElem?_getD (l := L), List.getElem?_eq_none (by omega)]; simp
theorem lZ {w : World} {t g0 g1 c T0 T1 Tt : Nat} {F : Mat} (h0 : Blk w g0 T0 (intC c (F 0))) (h1 : Blk w g1 T1 (intC c (F 1))) (ht : Blk w t Tt [.slice (some ⟨g0, 0, none⟩) c c, .slice (some ⟨g1, 0, none⟩) c c])
  (hf : ∀ i j, -9223372036854775808 ≤ F i j ∧ F i j ≤ 9223372036854775807) : MI w (some ⟨t, 0, none⟩) 2 c (litS g0 g1 c) F :=
 ⟨ht.sl, fun i hi => ⟨rfl, by
  match i, hi with
  | 0, _ => exact h0.sl
  | 1, _ => exact h1.sl⟩, fun i j _ _ => hf i j⟩
theorem tf {w : World} {t g0 c T0 Tt : Nat} {F : Mat} (h0 : Blk w g0 T0 (intC c (F 0))) (ht : Blk w t Tt [.slice (some ⟨g0, 0, none⟩) c c])
  (hf : ∀ i j, -9223372036854775808 ≤ F i j ∧ F i j ≤ 9223372036854775807) : MI w (some ⟨t, 0, none⟩) 1 c (litS g0 g0 c) F :=
 ⟨ht.sl, fun i hi => ⟨rfl, by
  match i, hi with
  | 0, _ => exact h0.sl⟩, fun i j _ _ => hf i j⟩
set_option maxHeartbeats 4000000 in
theorem nf (w : World) : CallsR Try.prog 13 #[] w fun v w' => v = .bool true ∧ Ex w w' := by
 refine aG (args := []) Try.func13 rfl rfl ?_
 repeat' (first|refine ai rfl ?_|refine aa ?_|refine aj ?_|refine ah rfl ?_|refine ae ?_)
 refine dz (cs := (intC 2 (litF [[2, 1], [0, 3]] 0)).toArray) rfl (by kernel_rfl) (fun a1 w1 n1 => ⟨fun _ _ => trivial, ?_⟩)
 refine dz (cs := (intC 2 (litF [[2, 1], [0, 3]] 1)).toArray) rfl (by kernel_rfl) (fun b1 w2 n2 => ⟨fun _ _ => trivial, ?_⟩)
 refine dz (cs := #[.slice (some ⟨a1, 0, none⟩) 2 2, .slice (some ⟨b1, 0, none⟩) 2 2]) rfl (by kernel_rfl) (fun c1 w3 n3 => ⟨fun _ _ => trivial, ?_⟩)
 have hI3 : MI w3 (some ⟨c1, 0, none⟩) 2 2 (litS a1 b1 2) (litF [[2, 1], [0, 3]]) := lZ ((n1.blk.ext n2.ex).ext n3.ex) (n2.blk.ext n3.ex) n3.blk (gC (by decide))
 have hE03 : Ex w w3 := (n1.ex.trans n2.ex).trans n3.ex
 refine aw (dK hI3 (by omega) (by omega)) rfl ?_
 rintro v w4 ⟨g4, gs4, cp4, rfl, hO4, hE4⟩
 refine ⟨fun _ _ => trivial, ?_⟩
 refine aw (dy hO4.mx (by omega) (by omega) (by omega) (by omega)) rfl ?_
 rintro v w5 ⟨g, g', gs, cp, gs', cp', H, U, k, p, rfl, hF5, hE5⟩
 refine ⟨fun _ _ => trivial, ?_⟩
 have hH5 := nC hF5.ceq hF5.hf
 have hE05 := (hE03.trans hE4).trans hE5
 repeat' (first|refine aO rfl rfl ?_|refine ai rfl ?_|refine aa ?_|refine aj ?_|refine ah rfl ?_|refine ae ?_)
 refine dz (cs := (intC 2 (litF [[2, 3]] 0)).toArray) rfl (by kernel_rfl) (fun a2 w6 n6 => ⟨fun _ _ => trivial, ?_⟩)
 refine dz (cs := #[.slice (some ⟨a2, 0, none⟩) 2 2]) rfl (by kernel_rfl) (fun c2 w7 n7 => ⟨fun _ _ => trivial, ?_⟩)
 have hI7 : MI w7 (some ⟨c2, 0, none⟩) 1 2 (litS a2 a2 2) (litF [[2, 3]]) := tf (n6.blk.ext n7.ex) n7.blk (gC (by decide))
 refine aw (dK hI7 (by omega) (by omega)) rfl ?_
 rintro v w8 ⟨g8, gs8, cp8, rfl, hO8, hE8⟩
 refine ⟨fun _ _ => trivial, ?_⟩
 refine aw (jk hO8.mx (by omega) (by omega) (by omega) (by omega)) rfl ?_
 rintro v w9 ⟨H9, U9, k9, p9, H', U', k', p', u9, rfl, hC9, hF9, hk9, hk9', hE9⟩
 refine ⟨fun _ _ => trivial, ?_⟩
 obtain ⟨rfl, rfl, hH9⟩ := oU hC9 hF9 (fun h => ⟨(hk9' h).1, (hk9' h).2.1⟩)
 obtain ⟨g9, gs9, cp9, rfl, hO9⟩ := (hk9' (by omega)).2.2.2 (by omega)
 have hE59 := (((n6.ex.trans n7.ex).trans hE8).trans hE9)
 repeat' (first|refine aO rfl rfl ?_|refine ai rfl ?_|refine aa ?_|refine aj ?_|refine ah rfl ?_|refine ae ?_)
 refine dz (cs := (intC 1 (litF [[2], [4]] 0)).toArray) rfl (by kernel_rfl) (fun a3 w10 n10 => ⟨fun _ _ => trivial, ?_⟩)
 refine dz (cs := (intC 1 (litF [[2], [4]] 1)).toArray) rfl (by kernel_rfl) (fun b3 w11 n11 => ⟨fun _ _ => trivial, ?_⟩)
 refine dz (cs := #[.slice (some ⟨a3, 0, none⟩) 1 1, .slice (some ⟨b3, 0, none⟩) 1 1]) rfl (by kernel_rfl) (fun c3 w12 n12 => ⟨fun _ _ => trivial, ?_⟩)
 have hI12 : MI w12 (some ⟨c3, 0, none⟩) 2 1 (litS a3 b3 1) (litF [[2], [4]]) := lZ ((n10.blk.ext n11.ex).ext n12.ex) (n11.blk.ext n12.ex) n12.blk (gC (by decide))
 refine aw (dK hI12 (by omega) (by omega)) rfl ?_
 rintro v w13 ⟨g13, gs13, cp13, rfl, hO13, hE13⟩
 refine ⟨fun _ _ => trivial, ?_⟩
 refine aw (m8 hO13.mx (by omega) (by omega) (by omega) (by omega) (by omega)) rfl ?_
 rintro v w14 ⟨H14, U14, k14, p14, hC14, hF14, hcase, hE14⟩
 refine ⟨fun _ _ => trivial, ?_⟩
 obtain ⟨_, rfl⟩ := hcase.resolve_left fun h => oV hC14 hF14 h.1
 have hE914 := ((((n10.ex.trans n11.ex).trans n12.ex).trans hE13).trans hE14)
 repeat' (first|refine aO rfl rfl ?_|refine qk rfl rfl ?_|refine ai rfl ?_|refine aa ?_|refine aj ?_|refine ah rfl ?_|refine ae ?_|refine aY rfl ?_|refine bG rfl rfl ?_)
 refine dz (cs := (intC 2 (litF [[1, 0], [3, 6]] 0)).toArray) rfl (by kernel_rfl) (fun a4 w15 n15 => ⟨fun _ _ => trivial, ?_⟩)
 repeat' (first|refine bG rfl rfl ?_)
 refine dz (cs := (intC 2 (litF [[1, 0], [3, 6]] 1)).toArray) rfl (by kernel_rfl) (fun b4 w16 n16 => ⟨fun _ _ => trivial, ?_⟩)
 repeat' (first|refine bG rfl rfl ?_)
 refine dz (cs := #[.slice (some ⟨a4, 0, none⟩) 2 2, .slice (some ⟨b4, 0, none⟩) 2 2]) rfl (by kernel_rfl) (fun c4 w17 n17 => ⟨fun _ _ => trivial, ?_⟩)
 have hI17 : MI w17 (some ⟨c4, 0, none⟩) 2 2 (litS a4 b4 2) (litF [[1, 0], [3, 6]]) := lZ ((n15.blk.ext n16.ex).ext n17.ex) (n16.blk.ext n17.ex) n17.blk (gC (by decide))
 repeat' (first|refine bG rfl rfl ?_)
 refine aw (dK hI17 (by omega) (by omega)) rfl ?_
 rintro v w18 ⟨g18, gs18, cp18, rfl, hO18, hE18⟩
 refine ⟨fun _ _ => trivial, ?_⟩
 have hE1418 := ((n15.ex.trans n16.ex).trans n17.ex).trans hE18
 have hH18 := (hF5.h.ext ((hE59.trans hE914).trans hE1418)).mx.ac (by omega)
 repeat' (first|refine bG rfl rfl ?_)
 refine aw (d6 hH18 (hO18.mx.ac (by omega)) (by omega)) rfl ?_
 rintro v w19 ⟨t19, rfl, ht19, hE19⟩
 refine ⟨fun _ _ => trivial, ?_⟩
 obtain rfl : t19 = true := ht19.2 ⟨rfl, fun i hi => ⟨rfl, fun j hj => hH5 i j hi hj⟩⟩
 repeat' (first|refine ai rfl ?_|refine bG rfl rfl ?_)
 refine dz (cs := (intC 1 (litF [[3], [-2]] 0)).toArray) rfl (by kernel_rfl) (fun a5 w20 n20 => ⟨fun _ _ => trivial, ?_⟩)
 repeat' (first|refine bG rfl rfl ?_)
 refine dz (cs := (intC 1 (litF [[3], [-2]] 1)).toArray) rfl (by kernel_rfl) (fun b5 w21 n21 => ⟨fun _ _ => trivial, ?_⟩)
 repeat' (first|refine bG rfl rfl ?_)
 refine dz (cs := #[.slice (some ⟨a5, 0, none⟩) 1 1, .slice (some ⟨b5, 0, none⟩) 1 1]) rfl (by kernel_rfl) (fun c5 w22 n22 => ⟨fun _ _ => trivial, ?_⟩)
 have hI22 : MI w22 (some ⟨c5, 0, none⟩) 2 1 (litS a5 b5 1) (litF [[3], [-2]]) := lZ ((n20.blk.ext n21.ex).ext n22.ex) (n21.blk.ext n22.ex) n22.blk (gC (by decide))
 repeat' (first|refine bG rfl rfl ?_)
 refine aw (dK hI22 (by omega) (by omega)) rfl ?_
 rintro v w23 ⟨g23, gs23, cp23, rfl, hO23, hE23⟩
 refine ⟨fun _ _ => trivial, ?_⟩
 have hE1923 := ((n20.ex.trans n21.ex).trans n22.ex).trans hE23
 have hK23 := (hO9.ext (((hE914.trans hE1418).trans hE19).trans hE1923)).mx.ac (by omega)
 repeat' (first|refine bG rfl rfl ?_)
 refine aw (d6 hK23 (hO23.mx.ac (by omega)) (by omega)) rfl ?_
 rintro v w24 ⟨t24, rfl, ht24, hE24⟩
 refine ⟨fun _ _ => trivial, ?_⟩
 obtain rfl : t24 = true := ht24.2 ⟨rfl, fun i hi => ⟨rfl, fun j hj => hH9 i j hi hj⟩⟩
 repeat' (first|refine ai rfl ?_|refine aa ?_|refine ae ?_|refine aK ?_)
 exact bB rfl (rt rfl) ⟨rfl, ((hE05.trans hE59).trans (hE914.trans hE1418)).trans (hE19.trans (hE1923.trans hE24))⟩
end Go.Proofs.Ytiejljicpinheaa
namespace Go.Proofs.Ytiejljicpinheaa
open Go.W Go.LM Go.LA Go.PM
section
variable {P : Program} {S : World → Prop} {ops : List Oper} {K : Env → World → Prop} {rest : List (Oper × Option Bool)} {ρ : Env} {w : World} {kf : Bool} {d : Nat} {T : TypeId} {pos : String} {af : Array Edge}
theorem pC (n : Nat) : (List.replicate n (0 : Int)).map (Value.int .i64) = intC n fun _ => 0 := by
 apply List.ext_getElem
 ·simp [intC]
 ·intro i h1 h2; simp [intC]
theorem kq {T1 E y n : Nat} {x1 x2 : Operand} [hT : Slc P T1 E 1 y] [hz : Zro P E (.int .i64 0)] (h1 : ev ρ x1 = .int .i64 n) (h2 : ev ρ x2 = .int .i64 n) (hb : y * n ≤ 281474976710656) (hm : n ≤ 9223372036854775807)
  (h : ∀ g w', New w w' g E (intC n fun _ => 0) → (kf = true → S w → S w') ∧ RR P S ops K rest (upd ρ d (.slice (some ⟨g, 0, none⟩) n n)) w') :
  RR P S ops K ((⟨some d, .makeSlice T1 x1 x2, T, pos, af, none⟩, some kf) :: rest) ρ w :=
 ro h1 h2 hb hm (fun g w' hn => h g w' (by rw [← pC]; exact hn))
theorem dW {x y : Operand} {T1 : TypeId} {g j n Tb : Nat} {f : Nat → Int} {u : Int} [hT : Scal P T1] (hx : ev ρ x = .pointer (some (elt (some ⟨g, 0, none⟩) j))) (hy : ev ρ y = .int .i64 u)
  (hb : Blk w g Tb (intC n f)) (hj : j < n)
  (h : ∀ w', Chg g w w' → Blk w' g Tb (intC n (setF f j u)) → (kf = true → S w → S w') ∧ RR P S ops K rest ρ w') :
  RR P S ops K ((⟨none, .store T1 x y, T, pos, af, none⟩, some kf) :: rest) ρ w :=
 eG (v := .int .i64 u) hx hy rfl hb (by rw [fE]; exact hj) (fun w' hc hb' => h w' hc (by rw [← q8]; exact hb'))
end
def gridF (L : List Int) (c : Nat) : Mat := fun i j => L.getD (i * c + j) 0
theorem pD {L : List Int} (h : I8 L) (c i j : Nat) : -128 ≤ gridF L c i j ∧ gridF L c i j ≤ 127 := h.getD _
structure MIO (w : World) (lo g r c : Nat) (gs : Nat → Nat) (F : Mat) : Prop where
 low : lo ≤ g
 top : Blk w g 54 (topC r fun i => ⟨some ⟨gs i, 0, none⟩, c, c⟩)
 row : ∀ i, i < r → lo ≤ gs i ∧ Blk w (gs i) 2 (intC c (F i))
 off : ∀ i, i < r → gs i ≠ g
 inj : ∀ i j, i < r → j < r → gs i = gs j → i = j
theorem MIO.mi {w : World} {lo g r c : Nat} {gs : Nat → Nat} {F : Mat} (h : MIO w lo g r c gs F) (hf : ∀ i j, i < r → j < c → -9223372036854775808 ≤ F i j ∧ F i j ≤ 9223372036854775807) : MI w (some ⟨g, 0, none⟩) r c (fun i => ⟨some ⟨gs i, 0, none⟩, c, c⟩) F :=
 ⟨h.top.sl, fun i hi => ⟨rfl, (h.row i hi).2.sl⟩, hf⟩
theorem MIO.ext {w w' : World} {lo g r c : Nat} {gs : Nat → Nat} {F : Mat} (h : MIO w lo g r c gs F) (e : Ex w w') : MIO w' lo g r c gs F := ⟨h.low, h.top.ext e, fun i hi => ⟨(h.row i hi).1, (h.row i hi).2.ext e⟩, h.off, h.inj⟩
abbrev gridL (rows cols : Int) (la : Option Addr) (n lc : Nat) : List Value := [.int .u8 rows, .int .u8 cols, .slice la n lc]
theorem iI {L : List Int} {n : Nat} : L.getD (min n L.length) 0 = L.getD n 0 ∧ tAt L (min n L.length) = min (n + 1) L.length := by
 unfold tAt
 rcases Nat.lt_or_ge n L.length with h | h
 ·rw [Nat.min_eq_left (by omega), if_pos h, Nat.min_eq_left (by omega)]; exact ⟨rfl, rfl⟩
 ·rw [Nat.min_eq_right h, if_neg (by omega), Nat.min_eq_right (by omega)]
  refine ⟨?_, rfl⟩
  rw [List.getD_eq_getElem?_getD, List.getD_eq_getElem?_getD, List.getElem?_eq_none (by omega), List.getElem?_eq_none (by omega)]
set_option maxHeartbeats 4000000 in
theorem pE {rows cols : Int} {L : List Int} {la : Option Addr} {lc most : Nat} {w : World} (hL : Sl w la (int8L L)) (hI : I8 L) (h1 : 0 ≤ rows ∧ rows ≤ 255) (h2 : 0 ≤ cols ∧ cols ≤ 255) (hm : 1 ≤ most ∧ most ≤ 16) :
  CallsR Try.prog 21 #[.agg (gridL rows cols la L.length lc).toArray, .int .i64 (most : Int)] w fun v w' => ∃ (g : Nat) (gs : Nat → Nat), v = .slice (some ⟨g, 0, none⟩) (1 + (rows % most).toNat) (1 + (rows % most).toNat) ∧ MIO w' w.heap.size g (1 + (rows % most).toNat) (1 + (cols % most).toNat) gs (gridF L (1 + (cols % most).toNat)) ∧ Ex w w' := by
 refine aG (args := [_, _]) Try.func21 rfl rfl ?_
 refine aj ?_
 refine ah rfl ?_
 refine bH (vs := gridL rows cols la L.length lc) rfl (fun g2 w1 hn1 => ⟨fun _ _ => trivial, ?_⟩)
 have hb1 := hn1.blk
 repeat' (first|refine aU (g := g2) rfl hb1 rfl ?_|refine cC (cs := tapeL la L.length lc 0) rfl ?_|refine ai rfl ?_|refine aa ?_|refine aj ?_|refine ah rfl ?_|refine ae ?_|refine aP rfl ?_)
 refine bH (vs := tapeL la L.length lc 0) rfl (fun g5 w2 hn2 => ⟨fun _ _ => trivial, ?_⟩)
 have hb2 := hn2.blk
 have hb12 := hb1.ext hn2.ex
 obtain ⟨r, hr⟩ : ∃ r : Nat, 1 + rows % most = (r : Int) := ⟨(1 + rows % most).toNat, by have := Int.emod_nonneg rows (b := (most : Int)) (by omega); omega⟩
 obtain ⟨c, hc⟩ : ∃ c : Nat, 1 + cols % most = (c : Int) := ⟨(1 + cols % most).toNat, by have := Int.emod_nonneg cols (b := (most : Int)) (by omega); omega⟩
 have er : 1 + (rows % most).toNat = r := by have := Int.emod_nonneg rows (b := (most : Int)) (by omega); omega
 have ec : 1 + (cols % most).toNat = c := by have := Int.emod_nonneg cols (b := (most : Int)) (by omega); omega
 have hr16 : r ≤ 16 := by have := Int.emod_lt_of_pos rows (b := (most : Int)) (by omega); omega
 have hc16 : c ≤ 16 := by have := Int.emod_lt_of_pos cols (b := (most : Int)) (by omega); omega
 rw [er, ec]
 repeat' (first|refine aU (g := g2) rfl hb12 rfl ?_|refine du rfl (dg (by omega) (by omega)) ?_|refine ib rfl rfl (by omega) (by omega) ?_|refine bi rfl rfl (by omega) (by omega) ?_|refine ai rfl ?_|refine aa ?_|refine aj ?_|refine ah rfl ?_|refine ae ?_|refine aP rfl ?_)
 rw [hr]
 repeat' (first|refine dE (n := r) rfl rfl (by omega) (by omega) (fun g w3 hn3 => ⟨fun _ _ => trivial, ?_⟩)|refine ai rfl ?_|refine aa ?_|refine aj ?_|refine ah rfl ?_|refine ae ?_|refine aY rfl ?_|refine aB ?_)
 have s1 := hn1.ex.size
 have s2 := hn2.ex.size
 have l1 := hn1.lo
 have l2 := hn2.lo
 have l3 := hn3.lo
 have lb2 := hb2.lt
 have lb1 := hn1.hi
 have lb3 := hn3.hi
 have s3 := hn3.ex.size
 have hE03 := (hn1.ex.trans hn2.ex).trans hn3.ex
 have hne : 0 < L.length → ∀ ad, la = some ad → ad.block ≠ g5 := fun h ad e => by have := hL.lt (by simpa using h) ad e; omega
 refine aW (ι := Nat × (Nat → Nat)) [7, 8, 22, 23, 24, 25, 26, 27, 28, 29, 30, 31, 32, 33, 34, 35, 36, 37, 38, 39, 40, 41, 42, 43, 44, 45, 46, 47, 48, 49, 50, 51, 52] (fun t => [(22, .int .i64 (t.1 : Int))])
  (fun t w' => (t.1 ≤ r ∧ Ex w w' ∧ w3.heap.size ≤ w'.heap.size) ∧ Blk w' g2 24 (gridL rows cols la L.length lc) ∧ Blk w' g5 57 (tapeL la L.length lc (min (t.1 * c) L.length)) ∧ Blk w' g 54 (topC r fun k => if k < t.1 then ⟨some ⟨t.2 k, 0, none⟩, c, c⟩ else sd0) ∧
   (∀ k, k < t.1 → w3.heap.size ≤ t.2 k ∧ Blk w' (t.2 k) 2 (intC c (gridF L c k))) ∧ ∀ k l, k < t.1 → l < t.1 → t.2 k = t.2 l → k = l) (fun t => r - t.1)
  (0, fun _ => 0) ⟨rfl, trivial⟩ ⟨⟨by simp only; omega, hE03, Nat.le_refl _⟩, hb12.ext hn3.ex, by simp only; rw [Nat.zero_mul, Nat.min_eq_left (Nat.zero_le _)]; exact hb2.ext hn3.ex, hn3.blk, fun k h => by simp only at h; omega, fun k l h => by simp only at h; omega⟩ ?_
 rintro ⟨i, gs⟩ ξ w4 ⟨⟨hi, hE4, hs4⟩, hb4, hT4, hG4, hrow, hinj⟩
 simp only at hi hT4 hG4 hrow hinj
 show CW _ _ _ _ (over [(22, .int .i64 (i : Int))] _) w4
 have hgl := hG4.lt
 rcases Nat.lt_or_ge i r with hir | hir
 ·repeat' (first|refine bv rfl rfl (by omega) ?_|refine aU (g := g2) rfl hb4 rfl ?_|refine du rfl (dg (by omega) (by omega)) ?_|refine ib rfl rfl (by omega) (by omega) ?_|refine bi rfl rfl (by omega) (by omega) ?_|refine ai rfl ?_|refine aa ?_|refine aj ?_|refine ah rfl ?_|refine ae ?_|refine aP rfl ?_|refine aC rfl ?_|refine aB ?_|refine aF ?_)
  rw [hc]
  refine kq (n := c) rfl rfl (by omega) (by omega) (fun gr w5 hn5 => ⟨fun _ _ => trivial, ?_⟩)
  have l5 := hn5.lo
  have s5 := hn5.ex.size
  have hG5 := hG4.ext hn5.ex
  repeat' (first|refine aD (j := i) rfl rfl ⟨_, _, rfl⟩ (by omega) ?_|refine cg (j := i) (u := ⟨some ⟨gr, 0, none⟩, c, c⟩) rfl rfl hG5 hir (fun w6 hc6 hG6 => ⟨fun _ _ => trivial, ?_⟩)|refine ai rfl ?_|refine aa ?_|refine aj ?_|refine ah rfl ?_|refine ae ?_)
  have hT6 := (hT4.ext hn5.ex).chg hc6 (by omega)
  have hg6 := (hb4.ext hn5.ex).chg hc6 (by omega)
  have hR6 := hn5.blk.chg hc6 (by omega)
  have hE6 := (hE4.trans hn5.ex).chg hc6 (by omega)
  have s6 := hc6.size
  have hrow6 : ∀ k, k < i → w3.heap.size ≤ gs k ∧ Blk w6 (gs k) 2 (intC c (gridF L c k)) := fun k hk => by
   have h1 := hrow k hk
   exact ⟨h1.1, (h1.2.ext hn5.ex).chg hc6 (by omega)⟩
  have hold : ∀ k, k < i → gs k < w4.heap.size := fun k hk => (hrow k hk).2.lt
  have hpl : ∀ j, (setF (fun k => if k < i then (⟨some ⟨gs k, 0, none⟩, c, c⟩ : SD) else sd0) i ⟨some ⟨gr, 0, none⟩, c, c⟩) j = ⟨some ⟨gr, 0, none⟩, c, c⟩ ∨ j ≠ i := fun j => by
   by_cases h : j = i
   ·subst h; exact .inl (aN _ _ _)
   ·exact .inr h
  have hi0 : setF (fun k => if k < i then (⟨some ⟨gs k, 0, none⟩, c, c⟩ : SD) else sd0) i ⟨some ⟨gr, 0, none⟩, c, c⟩ i = ⟨some ⟨gr, 0, none⟩, c, c⟩ := aN _ _ _
  repeat' (first|refine aZ (j := i) rfl hG6.sl hir hi0 ?_|refine ai rfl ?_|refine aa ?_|refine ae ?_|refine aY rfl ?_|refine aB ?_)
  refine aW (ι := Nat × (Nat → Int)) [8, 40, 41, 42, 43, 44, 45, 46, 47, 48, 49, 50, 51] (fun t => [(40, .int .i64 (t.1 : Int))])
   (fun t w' => (t.1 ≤ c ∧ Ex w w' ∧ w6.heap.size ≤ w'.heap.size) ∧ Blk w' g2 24 (gridL rows cols la L.length lc) ∧ Blk w' g5 57 (tapeL la L.length lc (min (i * c + t.1) L.length)) ∧
    Blk w' g 54 (topC r (setF (fun k => if k < i then ⟨some ⟨gs k, 0, none⟩, c, c⟩ else sd0) i ⟨some ⟨gr, 0, none⟩, c, c⟩)) ∧ (∀ k, k < i → Blk w' (gs k) 2 (intC c (gridF L c k))) ∧ Blk w' gr 2 (intC c t.2) ∧ ∀ l, l < t.1 → t.2 l = gridF L c i l) (fun t => c - t.1)
   (0, fun _ => 0) ⟨rfl, trivial⟩ ⟨⟨by simp only; omega, hE6, Nat.le_refl _⟩, hg6, hT6, hG6, fun k hk => (hrow6 k hk).2, hR6, fun l h => by simp only at h; omega⟩ ?_
  rintro ⟨j, f⟩ ξ2 w7 ⟨⟨hj, hE7, hs7⟩, hb7, hT7, hG7, hrow7, hR7, hf7⟩
  simp only at hj hT7 hR7 hf7
  show CW _ _ _ _ (over [(40, .int .i64 (j : Int))] _) w7
  rcases Nat.lt_or_ge j c with hjc | hjc
  ·repeat' (first|refine bv rfl rfl (by omega) ?_|refine ai rfl ?_|refine aa ?_|refine aj ?_|refine ah rfl ?_|refine ae ?_|refine aC rfl ?_|refine aB ?_|refine aF ?_)
   refine bn (late := [8]) (plan := [(0, none), (1, none), (2, none), (3, none), (4, none), (5, none), (6, some true), (7, none), (8, some false)]) (fun w' => Sl w' (some ⟨g, 0, none⟩) (topC r (setF (fun k => if k < i then ⟨some ⟨gs k, 0, none⟩, c, c⟩ else sd0) i ⟨some ⟨gr, 0, none⟩, c, c⟩))) bC (by kernel_rfl) hG7.drew.sl ?_
   repeat' (first|refine aD (j := i) (a := some ⟨g, 0, none⟩) rfl rfl ⟨_, _, rfl⟩ (by omega) ?_|refine aZ (j := i) (a := some ⟨g, 0, none⟩) rfl (fun _ h => h) hir hi0 ?_|refine ai rfl ?_)
   refine aw (gL hT7.drew (hL.ext hE7.drew) hI hne (Nat.min_le_right _ _)) rfl ?_
   rintro v w8 ⟨rfl, hc8, hT8⟩
   have gg5 : g5 ≠ g := by omega
   refine ⟨fun _ h => h.chg hc8 (fun ad e => by cases e; exact Ne.symm gg5), ?_⟩
   rw [iI.1]
   rw [iI.2] at hT8
   have hR8 := hR7.drew.chg hc8 (by omega)
   repeat' (first|refine aD (j := j) (a := some ⟨gr, 0, none⟩) rfl rfl ⟨_, _, rfl⟩ hjc ?_)
   refine dW (j := j) rfl rfl hR8 hjc (fun w9 hc9 hR9 => ⟨fun h => (nomatch h), ?_⟩)
   repeat' (first|refine ai rfl ?_|refine aa ?_|refine ah rfl ?_|refine ae ?_|refine bi rfl rfl (by omega) (by omega) ?_|refine aJ ?_)
   refine ⟨⟨(j + 1, setF f j (L.getD (i * c + j) 0)), ⟨⟨hjc, (hE7.drew.chg hc8 (by omega)).chg hc9 (by omega), ?_⟩, (hb7.drew.chg hc8 (by omega)).chg hc9 (by omega), hT8.chg hc9 (by omega), (hG7.drew.chg hc8 (by omega)).chg hc9 (by omega), fun k hk => ?_, hR9, fun l hl => ?_⟩, by simp only; omega, rfl, trivial⟩, (by (repeat (first|exact aH _ _ _|refine ax rfl ?_|refine av rfl ?_|refine ak rfl ?_|refine ao rfl ?_)))⟩
   ·have e1 := hc8.size
    have e2 := hc9.size
    have e3 : w7.drew.heap.size = w7.heap.size := rfl
    omega
   ·have h1 := hrow6 k hk
    have h2 := hold k hk
    exact ((hrow7 k hk).drew.chg hc8 (by omega)).chg hc9 (by omega)
   ·replace hl : l < j + 1 := hl
    show setF f j (L.getD (i * c + j) 0) l = _
    by_cases e : l = j
    ·subst e; rw [aN]; rfl
    ·rw [aQ _ _ e]; exact hf7 l (by omega)
  ·obtain rfl : j = c := by omega
   repeat' (first|refine bu rfl rfl (by omega) ?_|refine ai rfl ?_|refine aa ?_|refine aj ?_|refine ah rfl ?_|refine ae ?_|refine bi rfl rfl (by omega) (by omega) ?_|refine ay rfl ?_|refine aS ?_|refine aL ?_|refine aT ?_|refine aJ ?_)
   refine ⟨⟨(i + 1, setF gs i gr), ⟨⟨hir, hE7, by omega⟩, hb7, by simp only; rw [Nat.succ_mul]; exact hT7, ?_, fun k hk => ?_, fun k l hk hl e => ?_⟩, by simp only; omega, rfl, trivial⟩, (by (repeat (first|exact aH _ _ _|refine ax rfl ?_|refine av rfl ?_|refine ak rfl ?_|refine ao rfl ?_)))⟩
   ·rw [bV (s' := setF (fun k => if k < i then (⟨some ⟨gs k, 0, none⟩, j, j⟩ : SD) else sd0) i ⟨some ⟨gr, 0, none⟩, j, j⟩) (fun k _ => ?_)]
    ·exact hG7
    ·by_cases e : k = i
     ·subst e; simp [setF]
     ·simp only [setF, if_neg e]
      by_cases h : k < i
      ·rw [if_pos h, if_pos (by omega)]
      ·rw [if_neg h, if_neg (by omega)]
   ·simp only at hk ⊢
    by_cases e : k = i
    ·subst e; rw [aN]
     exact ⟨by omega, by rw [← dJ hf7]; exact hR7⟩
    ·rw [aQ _ _ e]; exact ⟨(hrow6 k (by omega)).1, hrow7 k (by omega)⟩
   ·simp only at hk hl e
    by_cases e1 : k = i
    ·by_cases e2 : l = i
     ·omega
     ·rw [e1, aN, aQ _ _ e2] at e
      have := hold l (by omega)
      omega
    ·by_cases e2 : l = i
     ·rw [e2, aN, aQ _ _ e1] at e
      have := hold k (by omega)
      omega
     ·rw [aQ _ _ e1, aQ _ _ e2] at e
      exact hinj k l (by omega) (by omega) e
 ·obtain rfl : i = r := by omega
  repeat' (first|refine bu rfl rfl (by omega) ?_|refine ai rfl ?_|refine aa ?_|refine aj ?_|refine ah rfl ?_|refine ae ?_|refine ay rfl ?_|refine aS ?_|refine aL ?_|refine aT ?_|refine aK ?_)
  exact bB rfl (rt rfl) ⟨g, gs, rfl, ⟨by omega, by rw [bV (s' := fun k => if k < i then (⟨some ⟨gs k, 0, none⟩, c, c⟩ : SD) else sd0) (fun k hk => (if_pos hk).symm)]; exact hG4, fun k hk => ⟨by have := (hrow k hk).1; omega, (hrow k hk).2⟩, fun k hk e => by have := (hrow k hk).1; omega, hinj⟩, hE4⟩
end Go.Proofs.Ytiejljicpinheaa
namespace Go.Proofs.Ytiejljicpinheaa
open Go.W Go.LM Go.LA Go.PM
def gd (x : Int) (most : Nat) : Nat := 1 + (x % (most : Int)).toNat
theorem l0 {x : Int} {most : Nat} (hm : 1 ≤ most) : 1 ≤ gd x most ∧ gd x most ≤ most := by
 unfold gd
 have h1 := Int.emod_nonneg x (b := (most : Int)) (by omega)
 have h2 := Int.emod_lt_of_pos x (b := (most : Int)) (by omega)
 omega
theorem nh {rows cols : Int} {L : List Int} {la : Option Addr} {lc most : Nat} {w : World} (hL : Sl w la (int8L L)) (hI : I8 L) (h1 : 0 ≤ rows ∧ rows ≤ 255) (h2 : 0 ≤ cols ∧ cols ≤ 255) (hm : 1 ≤ most ∧ most ≤ 16) :
  CallsR Try.prog 6 #[.agg (gridL rows cols la L.length lc).toArray, .int .i64 (most : Int)] w (RetMO 2 w (gd rows most) (gd cols most) (gridF L (gd cols most))) := by
 refine aG (args := [_, _]) Try.func6 rfl rfl ?_
 refine aj ?_
 refine ah rfl ?_
 refine bH (vs := gridL rows cols la L.length lc) rfl (fun g1 w1 hn1 => ⟨fun _ _ => trivial, ?_⟩)
 repeat' (first|refine aR (cs := gridL rows cols la L.length lc) (g := g1) rfl hn1.blk rfl ?_|refine ai rfl ?_|refine aa ?_|refine aj ?_|refine ah rfl ?_|refine ae ?_)
 refine aw (pE (hL.ext hn1.ex) hI h1 h2 hm) rfl ?_
 rintro v w2 ⟨g, gs, rfl, hM, hE2⟩
 refine ⟨fun _ _ => trivial, ?_⟩
 have g1 := l0 (x := rows) hm.1
 have g2 := l0 (x := cols) hm.1
 refine aw (dK (hM.mi (fun i j _ _ => by have := pD hI (1 + (cols % (most : Int)).toNat) i j; omega)) (by unfold gd at g1; omega) (by unfold gd at g2; omega)) rfl ?_
 rintro v w3 ⟨g', gs', cp', rfl, hO, hE3⟩
 refine ⟨fun _ _ => trivial, ?_⟩
 repeat' (first|refine ai rfl ?_|refine aa ?_|refine ae ?_|refine aK ?_)
 exact bB rfl (rt rfl) ⟨g', gs', cp', rfl, hO.mono (by have := hn1.ex.size; have := hE2.size; omega), (hn1.ex.trans hE2).trans hE3⟩
theorem od {rows cols : Int} {L : List Int} {la : Option Addr} {most : Nat} {w : World} (hL : Sl w la (int8L L)) (hI : I8 L) (h1 : 0 ≤ rows ∧ rows ≤ 255) (h2 : 0 ≤ cols ∧ cols ≤ 255) (hm : 1 ≤ most ∧ most ≤ 16) (lc : Nat) :
  ∃ (r c : Nat) (A : Mat), (1 ≤ r ∧ r ≤ most) ∧ (1 ≤ c ∧ c ≤ most) ∧ ∀ w', Ex w w' → CallsR Try.prog 6 #[.agg (gridL rows cols la L.length lc).toArray, .int .i64 (most : Int)] w' (RetMO 2 w' r c A) :=
 ⟨gd rows most, gd cols most, gridF L _, l0 hm.1, l0 hm.1, fun _w' e => nh (hL.ext e) hI h1 h2 hm⟩
end Go.Proofs.Ytiejljicpinheaa
namespace Go.W
open Go.ChangeShapes Go.WideShapes Go.ChangeAt Go.RowKit
section
variable {H : Type} {enc : TypeId × Value → H} {P : Program} {W W' : World}
theorem gR (hl : laidOutB P = true) (hb : Below W.heap.size W W') {sp : Nat → Bool} : ∀ {ts : List TypeId} {vs : List Value} {ds : List (DataW H)} {ps : List MemPlace},
  ts.all (fun t => P.readableRec t && decide (t < P.types.size)) = true → DataW.TrodAll enc P W 0 (fun _ => true) true ts vs ds ps → (∀ x ∈ ps, x.block < W.heap.size) → (∀ x ∈ ps, sp x.block = true) →
  DataW.TrodAll enc P W' 0 sp true ts vs ds ps
 | [], [], [], _, _, h, _, _ => h
 | t :: ts, v :: vs, d :: ds, _, ht, ⟨p, q, h1, h2, e⟩, hlt, hs => by
  simp only [List.all_cons, Bool.and_eq_true, decide_eq_true_eq] at ht
  exact ⟨p, q, WideElems.Trod_stays hl ht.1.1 ht.1.2 h1 (fun x hx => hb.same (hlt x (by rw [e]; exact List.mem_append_left _ hx))) (fun x hx => hs x (by rw [e]; exact List.mem_append_left _ hx)),
   gR hl hb ht.2 h2 (fun x hx => hlt x (by rw [e]; exact List.mem_append_right _ hx)) (fun x hx => hs x (by rw [e]; exact List.mem_append_right _ hx)), e⟩
theorem q9 {f : Func} {s : ChangeSpec} {apart fresh handsOn again : Bool} {args : Array Value} {ds gs : List (DataW H)} {before : List MemPlace} {tb : TypeId}
  (hl : laidOutB P = true) (hrd : f.params.toList.all (fun t => P.readableRec t && decide (t < P.types.size)) = true) (hrt : f.resultTypes = #[tb]) (htb : P.underlying tb = some .bool) (hvars : s.vars = [])
  (hspec : s.fn H (ds ++ gs) = { results := [.lit (.bool true)], args := ds })
  (hW : DataW.Whole enc P f.params.toList s.vars apart W args.toList ds gs before) (hb : Below W.heap.size W W') :
  s.post enc P f apart fresh handsOn again W args (.bool true) W' := by
 have hlt : ∀ p ∈ before, p.block < W.heap.size := fun p hp => hW.lt p hp
 have hW0 := hW
 obtain ⟨pa, pv, hA, hV, hps, hz, hn⟩ := hW
 rw [hvars] at hV
 obtain ⟨rfl, rfl⟩ := trodVars_none hV
 have hps' : before = pa ++ [] := hps
 have hres : ∀ (b : Nat) (sp : Nat → Bool) (hd : Bool), DataW.TrodAll enc P W' b sp hd f.resultTypes.toList ((Value.bool true).resultList f.resultTypes.size) (s.fn H (ds ++ [])).results [] := fun b sp hd => by
  rw [hspec, hrt]; exact trodAll_mk1 (shut_bool htb _)
 have hargs : ∀ sp : Nat → Bool, (∀ p ∈ before, sp p.block = true) → DataW.TrodAll enc P W' 0 sp true f.params.toList args.toList (s.fn H (ds ++ [])).args pa := fun sp hsp => by
  rw [hspec]; exact gR hl hb hrd hA (fun x hx => hlt x (by rw [hps']; simpa using hx)) (fun x hx => hsp x (by rw [hps']; simpa using hx))
 have hvs : ∀ sp : Nat → Bool, (∀ p ∈ before, sp p.block = true) → DataW.TrodVars enc P W' sp s.vars (s.fn H (ds ++ [])).vars [] := fun sp _ => by rw [hspec, hvars]; rfl
 have hok : ∀ (j : Nat) (t : TypeId) (r : Value), f.resultTypes[j]? = some t → ((Value.bool true).resultList f.resultTypes.size)[j]? = some r → Value.okWide P W' .any 0 t r := ok_one hrt rfl (okWide_bool_mk htb _)
 have hold : ∀ p ∈ before, (fun b => decide (b < W.heap.size)) p.block = true := fun p hp => by simpa using hlt p hp
 refine ⟨ds, [], before, [], pa, [], hW0, hres _ _ _, hargs _ hold, hvs _ hold, World.keptBut_mono (fun p hp => ⟨hp, ?_⟩) (hb.frame (· ∈ before)), fun _ => ?_⟩
 ·rw [hps', List.mem_append] at hp
  exact Or.inr hp
 ·refine ⟨hok, _, _, ([] ++ pa) ++ [], ⟨[] ++ pa, [], trodAll_append (hargs _ (fun _ _ => rfl)) (hres _ _ _), hvs _ (fun _ _ => rfl), rfl, ?_, ?_⟩, ?_⟩
  ·intro b off hp
   have hin : MemPlace.cell b off ∈ before := by rw [hps']; simpa using hp
   rw [hb.frozen (hlt _ hin)]
   exact hz b off hin
  ·intro ha
   have := hn ha
   rw [hps'] at this
   simpa using this
  ·intro p hp _
   rw [hps']
   simpa using hp
theorem pF {t e : TypeId} {k : IntKind} {v : Value} {d : DataW H} {ps : List MemPlace} {r : Reach} {b0 : Nat} (ht : P.underlying t = some (.slice e)) (he : P.underlying e = some (.int k)) (hc : P.cellsOf e = 1)
  (hval : Value.okWide P W r b0 t v) (h : DataW.Trod enc P W 0 (fun _ => true) true t v d ps) :
  ∃ (a : Option Addr) (xs : List Int) (c : Nat), v = .slice a xs.length c ∧ Sl W a (xs.map (Value.int k)) ∧ (∀ x ∈ xs, (Lit.int k x).wf = true) ∧ xs.length ≤ c ∧ c ≤ 9223372036854775807 := by
 obtain ⟨a0, len, cap, rfl⟩ := okWide_slice ht hval
 obtain ⟨fuel, hf⟩ := h
 rcases open_ints ht he hc hf with ⟨hcs, hx⟩ | ⟨a, len', cap', zs, hcs, _, hl, hm, hz, hx, hcell, hwz⟩
 ·simp [Value.cells] at hcs
  obtain ⟨rfl, rfl, rfl⟩ := hcs
  exact ⟨none, [], 0, rfl, Sl.nil _ _, by simp, by simp, by decide⟩
 ·simp [Value.cells] at hcs
  obtain ⟨rfl, rfl, rfl⟩ := hcs
  simp only [if_true] at hz
  have hlen : (zs.take len).length = len := by simp; omega
  refine ⟨some a, zs.take len, cap, by rw [hlen], ⟨fun hne => ?_, fun j hj => ?_⟩, fun x hx => hwz x (List.mem_of_mem_take hx), by rw [hlen]; exact hl, by unfold maxLen at hm; omega⟩
  ·have h0 : 0 < zs.length := by
    rcases Nat.eq_zero_or_pos zs.length with h | h
    ·exact absurd (by rw [List.eq_nil_of_length_eq_zero h]; simp) hne
    ·exact h
   obtain ⟨b, off, spot⟩ := a
   have hspot : spot = none := by simpa [Addr.add] using World.cell?_spot (hcell 0 h0)
   subst hspot
   exact ⟨b, off, rfl⟩
  ·simp only [List.length_map, hlen] at hj
   have h0 : j < zs.length := by omega
   obtain ⟨b, off, spot⟩ := a
   have hspot : spot = none := by simpa [Addr.add] using World.cell?_spot (hcell 0 (by omega))
   subst hspot
   have := hcell j h0
   have e : (⟨b, off, none⟩ : Addr).add j = ⟨b, off + j, none⟩ := by unfold Addr.add; split <;> simp_all
   rw [e] at this
   simp only [elt]
   rw [this]
   simp [List.getD_eq_getElem?_getD, h0, hj]
end
end Go.W
namespace Go.Proofs.Ytiejljicpinheaa
theorem Try.own : ownKnob Try.prog.godebug = none := by kernel_rfl
theorem Try.laidOut : laidOutB Try.prog = true := by kernel_rfl
end Go.Proofs.Ytiejljicpinheaa
namespace Go.Proofs.Ytiejljicpinheaa
open Go.W Go.ChangeShapes Go.WideShapes Go.ChangeAt Go.RowKit Go.LM
section
variable {H : Type} {enc : TypeId × Value → H} {P : Program} {W W' : World}
theorem mb {a : Option Addr} {n : Nat} {f : Nat → Value} (hn : a = none → n = 0) (hc : ∀ a', a = some a' → ∀ c, c < n → W.cell? (a'.add c) = some (f c)) : Sl W a ((List.range n).map f) := by
 refine ⟨fun hne => ?_, fun j hj => ?_⟩
 ·have h0 : 0 < n := by
   rcases Nat.eq_zero_or_pos n with h | h
   ·subst h; simp at hne
   ·exact h
  cases a with
  | none => have := hn rfl; omega
  | some a =>
   obtain ⟨b, off, spot⟩ := a
   have hspot : spot = none := by simpa [Addr.add] using World.cell?_spot (hc _ rfl 0 (by omega))
   subst hspot
   exact ⟨b, off, rfl⟩
 ·simp only [List.length_map, List.length_range] at hj
  cases a with
  | none => have := hn rfl; omega
  | some a =>
   obtain ⟨b, off, spot⟩ := a
   have hspot : spot = none := by simpa [Addr.add] using World.cell?_spot (hc _ rfl 0 (by omega))
   subst hspot
   have := hc _ rfl j (by omega)
   have e : (⟨b, off, none⟩ : Addr).add j = ⟨b, off + j, none⟩ := by unfold Addr.add; split <;> simp_all
   rw [e] at this
   simp only [elt]
   rw [this]
   simp [List.getD_eq_getElem?_getD, hj]
end
set_option maxRecDepth 100000
end Go.Proofs.Ytiejljicpinheaa
namespace Go.LA
end Go.LA
namespace Go.Proofs.Ytiejljicpinheaa
open Go.W Go.LM Go.LA Go.PM
theorem uR {K r c lo g : Nat} {w : World} {gs cp : Nat → Nat} {F : Mat} (h : MO true K w lo g r c gs cp F) : AM K w (some ⟨g, 0, none⟩) r (fun i => ⟨some ⟨gs i, 0, none⟩, c, cp i⟩) F := h.mx.am
theorem uS {r c : Nat} {gs cp : Nat → Nat} (hr : 1 ≤ r ∧ r ≤ 16) (hc : 1 ≤ c ∧ c ≤ 16) : okS r (fun i => (⟨some ⟨gs i, 0, none⟩, c, cp i⟩ : SD)) := ⟨hr.1, hr.2, hc.1, hc.2, fun _ _ => rfl⟩
def IsfF (n : Nat) (s : Nat → SD) (A : Mat) (t : Bool) : Prop := t = true ↔ okS n s ∧ ∃ k p, HF n (s 0).len A k p
theorem pH {K n cap : Nat} {w : World} {a : Option Addr} {s : Nat → SD} {A : Mat} (hA : AM K w a n s A) (hK : K < 17592186044415) : CallsR Try.prog 12 #[.slice a n cap] w fun v w' => ∃ t : Bool, v = .bool t ∧ IsfF n s A t ∧ Ex w w' := by
 by_cases ok : okS n s
 ·refine (m7 (hA.mx ok) (gA ok) (eR ok) hK).mono fun v w' h => ?_
  obtain ⟨t, rfl, ht, hE⟩ := h
  exact ⟨t, rfl, ⟨fun e => ⟨ok, ht.1 e⟩, fun e => ht.2 e.2⟩, hE⟩
 ·refine (pw hA.top ok).mono fun v w' h => ?_
  obtain ⟨rfl, hE⟩ := h
  exact ⟨false, rfl, ⟨fun e => (nomatch e), fun e => absurd e.1 ok⟩, hE⟩
end Go.Proofs.Ytiejljicpinheaa
namespace Go.LA
theorem Uni.add {n i j : Nat} {F : Mat} (h : Uni n F) (c : Int) (hne : i ≠ j) (hi : i < n) (hj : j < n) : Uni n (cadd F i j c) := (CEq.add h.ceq c hne hi hj).1
theorem Uni.cswap {n i j : Nat} {F : Mat} (h : Uni n F) (hne : i ≠ j) (hi : i < n) (hj : j < n) : Uni n (cswp F i j) := (CEq.swap h.ceq hne hi hj).1
theorem Uni.cneg {n i : Nat} {F : Mat} (h : Uni n F) (hi : i < n) : Uni n (Go.LA.cneg F i) := (CEq.neg h.ceq hi).1
def umF (F : Mat) (i j : Nat) (c : Int) : Mat := if i = j then (if c < 0 then cneg F i else F) else if c = 0 then cswp F i j else cadd F i j c
def UmB (n : Nat) (F : Mat) (b : Nat) : Prop := ∀ x y, x < n → y < n → (F x y).natAbs ≤ b
theorem UmB.mono {n b b' : Nat} {F : Mat} (h : UmB n F b) (hb : b ≤ b') : UmB n F b' := fun x y hx hy => Nat.le_trans (h x y hx hy) hb
theorem Uni.um {n i j : Nat} {F : Mat} (h : Uni n F) (c : Int) (hi : i < n) (hj : j < n) : Uni n (umF F i j c) := by
 unfold umF
 by_cases e : i = j
 ·rw [if_pos e]; split
  ·exact h.cneg hi
  ·exact h
 ·rw [if_neg e]; split
  ·exact h.cswap e hi hj
  ·exact h.add c e hi hj
theorem UmB.um {n b i j : Nat} {F : Mat} {c : Int} (h : UmB n F b) (hc : -2 ≤ c ∧ c ≤ 2) (hi : i < n) (hj : j < n) : UmB n (umF F i j c) (3 * b) := by
 intro x y hx hy
 have h1 := h x y hx hy
 unfold umF
 by_cases e : i = j
 ·rw [if_pos e]; split
  ·unfold Go.LA.cneg; split
   ·rename_i hy'; subst hy'; omega
   ·omega
  ·omega
 ·rw [if_neg e]; split
  ·unfold cswp
   have h2 := h x (if y = i then j else if y = j then i else y) hx (by split; exact hj; split <;> omega)
   omega
  ·unfold cadd; split
   ·rename_i hy'; subst hy'
    have h3 := h x j hx hj
    have h4 : (c * F x j).natAbs ≤ 2 * b := by
     rw [Int.natAbs_mul]
     exact Nat.mul_le_mul (by omega) h3
    omega
   ·omega
end Go.LA
