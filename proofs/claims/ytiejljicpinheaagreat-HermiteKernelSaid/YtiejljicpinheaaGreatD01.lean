import Derived.Test.YtiejljicpinheaaGreatProg
import Derived.Test.YtiejljicpinheaaGreatA01
import Derived.Test.YtiejljicpinheaaGreatA02
import Derived.Test.YtiejljicpinheaaGreatA03
import Derived.Test.YtiejljicpinheaaGreatA04
import Derived.Test.YtiejljicpinheaaGreatA05
import Derived.Test.YtiejljicpinheaaGreatA06
import Derived.Test.YtiejljicpinheaaGreatA07
import Derived.Test.YtiejljicpinheaaGreatA12
import Derived.Test.YtiejljicpinheaaGreatA13
import Derived.Test.YtiejljicpinheaaGreatA14
import Derived.Test.YtiejljicpinheaaGreatA17
import Derived.Test.YtiejljicpinheaaGreatA18
import Derived.Test.YtiejljicpinheaaGreatA19
import Derived.Test.YtiejljicpinheaaGreatA20
import Derived.Test.YtiejljicpinheaaGreatA24
import Derived.Test.YtiejljicpinheaaGreatA25
import Derived.Test.YtiejljicpinheaaGreatA28
namespace Go.Proofs.YtiejljicpinheaaGreat
open Go.W
instance c20 : Fun Tryz.prog 20 := ⟨by kernel_rfl⟩
instance c22 : Fun Tryz.prog 22 := ⟨by kernel_rfl⟩
instance c28 : Fun Tryz.prog 28 := ⟨by kernel_rfl⟩
instance c66 : Fun Tryz.prog 66 := ⟨by kernel_rfl⟩
instance c68 : Fun Tryz.prog 68 := ⟨by kernel_rfl⟩
instance c69 : Fun Tryz.prog 69 := ⟨by kernel_rfl⟩
end Go.Proofs.YtiejljicpinheaaGreat
namespace Go.LA
theorem InL.mat {rows cols : Nat} {H H' : Mat} {v : Vec} (h : InL rows cols H v) (he : ∀ r c, r < rows → c < cols → H r c = H' r c) : InL rows cols H' v := by
 obtain ⟨x, hx⟩ := h
 exact ⟨x, fun r hr => by rw [hx r hr]; exact dq (fun j hj => he r j hr hj) fun _ _ => rfl⟩
end Go.LA
namespace Go.W
section
variable {P : Program} {S : World → Prop} {ops : List Oper} {K : Env → World → Prop} {rest : List (Oper × Option Bool)} {ρ : Env} {w : World} {b : Option Bool} {kf : Bool} {d : Nat} {dst : Option Nat} {T T' : TypeId} {pos : String} {af : Array Edge}
end
end Go.W
namespace Go.W
section
variable {P : Program} {S : World → Prop} {ops : List Oper} {K : Env → World → Prop} {rest : List (Oper × Option Bool)} {ρ : Env} {w : World} {b : Option Bool} {kf : Bool} {d : Nat} {dst : Option Nat} {T T' : TypeId} {pos : String} {af : Array Edge}
end
end Go.W
namespace Go.W
end Go.W
namespace Go.W
section
variable {P : Program} {S : World → Prop} {ops : List Oper} {K : Env → World → Prop} {rest : List (Oper × Option Bool)} {ρ : Env} {w : World} {b : Option Bool} {kf : Bool} {d : Nat} {dst : Option Nat} {T T' : TypeId} {pos : String} {af : Array Edge}
theorem vT {x y : Operand} {c : Bool} {T'' : TypeId} [h1 : BoolT P T'] (hx : ev ρ x = .bool c) (hy : ev ρ y = .bool c) (h : RR P S ops K rest (upd ρ d (.bool true)) w) : RR P S ops K ((⟨some d, .binOp .eql T' x y T'', T, pos, af, none⟩, b) :: rest) ρ w :=
 lY hx hy (by rw [beq_self_eq_true]; exact h)
end
end Go.W
namespace Go.W
theorem lD (n : Nat) (s : Nat → SD) : topC (n + 1) s = topC n s ++ [(s n).val] := by
 unfold topC; rw [List.range_succ, List.map_append]; rfl
section
variable {P : Program} {S : World → Prop} {ops : List Oper} {K : Env → World → Prop} {rest : List (Oper × Option Bool)} {ρ : Env} {w : World} {b : Option Bool} {kf : Bool} {d : Nat} {dst : Option Nat} {T T' : TypeId} {pos : String} {af : Array Edge}
end
end Go.W
namespace Go.W
theorem RowG.lo {w : World} {lo E n : Nat} {s : SD} {h : Nat → IH} (hR : RowG w lo E n s h) : ∀ ad, s.a = some ad → lo ≤ ad.block ∧ ad.block < w.heap.size := by
 intro ad e
 rcases hR.2 with ⟨h0, _⟩ | ⟨g, h1, h2, h3, h4, h5⟩
 ·rw [h0] at e; cases e
 ·rw [h1] at e; cases e; exact ⟨h2, h5.lt⟩
theorem RowG.sl {w : World} {lo E n : Nat} {s : SD} {h : Nat → IH} (hR : RowG w lo E n s h) : Sl w s.a (rowC n h) := by
 rcases hR.2 with ⟨h0, rfl⟩ | ⟨g, h1, h2, h3, h4, h5⟩
 ·exact Sl.nil _ _
 ·rw [h1]; exact h5.sl.row h3
section
variable {P : Program} {S : World → Prop} {ops : List Oper} {K : Env → World → Prop} {rest : List (Oper × Option Bool)} {ρ : Env} {w : World} {b : Option Bool} {kf : Bool} {d : Nat} {dst : Option Nat} {T T' : TypeId} {pos : String} {af : Array Edge}
theorem q9 {T1 E y n d1 t lo : Nat} {x : Operand} {s : SD} {f : Nat → IH} {u : IH} {T2 : TypeId} {pos2 : String} {af2 : Array Edge} [hT : Slc P T1 E 2 y] [hz : Zro P E (.agg #[.bool false, .slice none 0 0])]
  (hs : ρ t = .slice s.a s.len s.cap) (hx : ev ρ x = u.val) (htd : Nat.beq t d1 = false)
  (hR : RowG w lo E n s f) (hm : n + 1 ≤ 9223372036854775807) (hb : (n + 1) * y ≤ 140737488355328) (hlo : lo ≤ w.heap.size)
  (h : ∀ g s' f' w', RowG w' lo E (n + 1) s' f' → (∀ i, i < n → f' i = f i) → f' n = u → w.grownBy w' (Value.slice s.a s.len s.cap).ownBlock → (s'.a = s.a ∨ ∀ x, s'.a = some x → w.heap.size ≤ x.block) →
   RR P (fun _ => True) ops K rest (upd (upd ρ d1 (.slice (some ⟨g, 0, none⟩) 1 1)) d (.slice s'.a s'.len s'.cap)) w') :
  RR P (fun _ => True) ops K ((⟨some d1, .buildSlice T1 1 #[(0, x)], T2, pos2, af2, none⟩, some false) :: (⟨some d, .call ⟨.builtin .append, #[.tmp t, .tmp d1], #[T1, T1]⟩, T, pos, af, none⟩, some false) :: rest) ρ w := by
 refine dI (E := E) (s := 2) (z := .agg #[.bool false, .slice none 0 0]) (cs := u.val.cells) rfl ?_ (fun g w1 hn => ⟨fun _ _ => trivial, ?_⟩)
 ·simp only [List.map_toArray, List.map_cons, List.map_nil, hx]
  exact gF (s := 2) rfl (by simp)
 ·refine dw rfl ?_
  unfold OpW
  obtain ⟨i0, hi0, hzz⟩ := Option.map_eq_some_iff.1 hT.sz
  simp only [Prod.mk.injEq] at hzz
  obtain ⟨i1, hi1, hz1⟩ := Option.map_eq_some_iff.1 hz.ok
  rw [hi0] at hi1
  simp only [Option.some.injEq] at hi1
  subst hi1
  have hsz := hn.ex.size
  have hcs : u.val.cells.toList = u.cells := rfl
  obtain ⟨s', w', f', hr, h1, h2, h3, h4, h5⟩ := jC (P := P) (ty := T) hT.un hi0 hz1 hzz.1 hzz.2 (hR.ext hn.ex) (hcs ▸ hn.blk.sl) hm hb (by omega)
  have e1 : ev (upd ρ d1 (.slice (some ⟨g, 0, none⟩) 1 1)) (.tmp t) = .slice s.a s.len s.cap := by
   show upd ρ d1 _ t = _
   simp only [upd, htd, cond_false, hs]
  have e2 : ev (upd ρ d1 (.slice (some ⟨g, 0, none⟩) 1 1)) (.tmp d1) = .slice (some ⟨g, 0, none⟩) 1 1 := by
   show upd ρ d1 _ d1 = _
   rw [eT]
  have : (execOp (ev (upd ρ d1 (.slice (some ⟨g, 0, none⟩) 1 1))) ⟨some d, .call ⟨.builtin .append, #[.tmp t, .tmp d1], #[T1, T1]⟩, T, pos, af, none⟩).run P w1 = .ok (.value (.slice s'.a s'.len s'.cap)) w' := by
   simp [execOp, resolve, invoke, builtin, e1, e2, hr]
  rw [this]
  refine ⟨fun _ _ => trivial, h g s' f' w' h1 h2 h3 ?_ (h5.imp id fun hh x hx => by have := hh x hx; omega)⟩
  exact ⟨h4.os.trans hn.ex.os, h4.tape.trans hn.ex.tape, h4.output.trans hn.ex.output, by have := h4.size; omega,
   fun k hk hne => (h4.block k (by omega) hne).trans (hn.ex.block k hk)⟩
end
end Go.W
namespace Go.W
section
variable {P : Program} {S : World → Prop} {ops : List Oper} {K : Env → World → Prop} {rest : List (Oper × Option Bool)} {ρ : Env} {w : World} {b : Option Bool} {kf : Bool} {d : Nat} {dst : Option Nat} {T T' : TypeId} {pos : String} {af : Array Edge}
end
end Go.W
namespace Go.Proofs.YtiejljicpinheaaGreat
open Go.W Go.LM
section
variable {cn : Bool} {K : Nat} {w w' : World} {v : Value} {z : Int}
end
section
variable {cn : Bool} {K n : Nat} {w w' : World} {s : SD} {f f' : Nat → Int}
end
section
variable {cn : Bool} {K n lo g cap : Nat} {w w' : World} {f f' : Nat → Int}
end
section
variable {cn : Bool} {K r c lo g : Nat} {w w' : World} {gs cap : Nat → Nat} {F F' : Nat → Nat → Int}
end
section
variable {cn : Bool} {K r c : Nat} {w w' : World} {a : Option Addr} {s : Nat → SD} {F F' : Nat → Nat → Int}
theorem MX.congr (h : MX cn K w a r c s F) (e : ∀ i j, i < r → j < c → F' i j = F i j) : MX cn K w a r c s F' := ⟨h.top, fun i hi => (h.row i hi).congr fun j hj => e i j hi hj⟩
end
end Go.Proofs.YtiejljicpinheaaGreat
namespace Go.Proofs.YtiejljicpinheaaGreat
open Go.W Go.LM Go.LA
theorem jY {n cap : Nat} {w : World} {a : Option Addr} {s : Nat → SD} (hS : Sl w a (topC n s)) (hno : ¬ okS n s) :
  CallsR Tryz.prog 14 #[.slice a n cap] w fun v w' => v = .tuple #[.slice none 0 0, .slice none 0 0, .bool false] ∧ Ex w w' := by
 refine aF (args := [_]) Tryz.func14 rfl rfl ?_
 repeat' (first|refine ai rfl ?_|refine aa ?_|refine aj ?_|refine ah rfl ?_|refine ae ?_)
 refine aw (ef hS) rfl ?_
 rintro v w1 ⟨rfl, hE1⟩
 refine ⟨fun _ _ => trivial, ?_⟩
 rw [dH hno]
 repeat' (first|refine aK rfl rfl ?_|refine ai rfl ?_|refine aa ?_|refine aj ?_|refine ah rfl ?_|refine ae ?_|refine az rfl ?_|refine aI ?_|refine aU ?_)
 exact eo rfl (rt rfl) (rt rfl) (rt rfl) ⟨rfl, hE1⟩
end Go.Proofs.YtiejljicpinheaaGreat
namespace Go.Proofs.YtiejljicpinheaaGreat
open Go.W Go.LM Go.LA
structure AM (K : Nat) (w : World) (a : Option Addr) (n : Nat) (s : Nat → SD) (F : Mat) : Prop where
 top : Sl w a (topC n s)
 row : ∀ i, i < n → RX false K w (s i) (s i).len (F i)
theorem AM.ext {K n : Nat} {w w' : World} {a : Option Addr} {s : Nat → SD} {F : Mat} (h : AM K w a n s F) (e : Ex w w') : AM K w' a n s F := ⟨h.top.ext e, fun i hi => (h.row i hi).ext e⟩
theorem AM.mx {K n : Nat} {w : World} {a : Option Addr} {s : Nat → SD} {F : Mat} (h : AM K w a n s F) (ok : okS n s) : MX false K w a n (s 0).len s F :=
 ⟨h.top, fun i hi => by have := h.row i hi; rwa [ok.2.2.2.2 i hi] at this⟩
theorem MX.am {cn : Bool} {K r c : Nat} {w : World} {a : Option Addr} {s : Nat → SD} {F : Mat} (h : MX cn K w a r c s F) : AM K w a r s F :=
 ⟨h.top, fun i hi => by have := (h.row i hi).weak'; rwa [(h.row i hi).len]⟩
theorem iy {n : Nat} {s : Nat → SD} (h : okS n s) : 1 ≤ n ∧ n ≤ 16 := ⟨h.1, h.2.1⟩
theorem gQ {n : Nat} {s : Nat → SD} (h : okS n s) : 1 ≤ (s 0).len ∧ (s 0).len ≤ 16 := ⟨h.2.2.1, h.2.2.2.1⟩
end Go.Proofs.YtiejljicpinheaaGreat
namespace Go.LA
theorem HF.inLk {rows cols k : Nat} {H : Mat} {p : Nat → Nat} (h : HF rows cols H k p) (v : Vec) : InL rows cols H v ↔ InL rows k H v := by
 constructor
 ·rintro ⟨x, hx⟩; exact ⟨x, fun r hr => by rw [hx r hr, h.mvk x hr]⟩
 ·rintro ⟨x, hx⟩
  refine ⟨fun j => if j < k then x j else 0, fun r hr => ?_⟩
  rw [h.mvk _ hr, hx r hr]
  exact dq (fun _ _ => rfl) fun j hj => by rw [if_pos hj]
theorem HF.latt {rows cols cols' k k' : Nat} {H H' : Mat} {p p' : Nat → Nat} (h : HF rows cols H k p) (h' : HF rows cols' H' k' p') :
  (∀ v, InL rows cols H v ↔ InL rows cols' H' v) ↔ k = k' ∧ ∀ i j, i < rows → j < k → H i j = H' i j := by
 constructor
 ·intro hL; obtain ⟨h1, _, h3⟩ := h.unique h' hL; exact ⟨h1, fun i j hi hj => h3 j hj i hi⟩
 ·rintro ⟨rfl, he⟩ v
  rw [h.inLk, h'.inLk]
  exact ⟨fun hv => hv.mat he, fun hv => hv.mat fun i j hi hj => (he i j hi hj).symm⟩
end Go.LA
namespace Go.Proofs.YtiejljicpinheaaGreat
open Go.W Go.LM Go.LA
end Go.Proofs.YtiejljicpinheaaGreat
namespace Go.Proofs.YtiejljicpinheaaGreat
open Go.W Go.LM Go.LA
theorem uH {n cap : Nat} {w : World} {a : Option Addr} {s : Nat → SD} (hS : Sl w a (topC n s)) (hno : ¬ okS n s) :
  CallsR Tryz.prog 27 #[.slice a n cap] w fun v w' => v = .tuple #[.slice none 0 0, .bool false] ∧ Ex w w' := by
 refine aF (args := [_]) Tryz.func27 rfl rfl ?_
 repeat' (first|refine ai rfl ?_|refine aa ?_|refine aj ?_|refine ah rfl ?_|refine ae ?_)
 refine aw (jY hS hno) rfl ?_
 rintro v w1 ⟨rfl, hE1⟩
 refine ⟨fun _ _ => trivial, ?_⟩
 repeat' (first|refine aK rfl rfl ?_|refine ai rfl ?_|refine aa ?_|refine aj ?_|refine ah rfl ?_|refine ae ?_|refine az rfl ?_|refine aI ?_|refine aU ?_)
 exact cA rfl (rt rfl) (rt rfl) ⟨rfl, hE1⟩
end Go.Proofs.YtiejljicpinheaaGreat
namespace Go.Proofs.YtiejljicpinheaaGreat
open Go.W Go.LM Go.LA
theorem AC.nil (K : Nat) (w : World) (a : Option Addr) (s : Nat → SD) (F : Mat) : AC K w a 0 s F := ⟨Sl.nil _ _, fun i h => by omega, fun i h => by omega⟩
end Go.Proofs.YtiejljicpinheaaGreat
namespace Go.W
theorem lU {n m : Nat} {s : Nat → SD} (hm : n ≤ m) : (topC m s).take n = topC n s := by
 unfold topC; rw [← List.map_take, List.take_range, Nat.min_eq_left hm]
theorem fC {n m : Nat} {s t : Nat → SD} : topC n s ++ topC m t = topC (n + m) fun i => if i < n then s i else t (i - n) := by
 induction m with
 | zero => rw [show topC 0 t = [] from rfl, List.append_nil, Nat.add_zero]; exact bY fun i hi => by rw [if_pos hi]
 | succ m ih => rw [← Nat.add_assoc, lD, lD, ← ih, List.append_assoc, if_neg (by omega), Nat.add_sub_cancel_left]
theorem oB (n : Nat) : (Builtin.zeroCells (Value.cells (.slice none 0 0)) n).toList = topC n fun _ => sd0 := by
 simp [Builtin.zeroCells, topC, Value.cells, Nat.mod_one, SD.val]
def TopG (w : World) (lo E n : Nat) (s : SD) (f : Nat → SD) : Prop :=
 s.len = n ∧ ((s = sd0 ∧ n = 0) ∨ ∃ g, s.a = some ⟨g, 0, none⟩ ∧ lo ≤ g ∧ n ≤ s.cap ∧ s.cap ≤ maxLen ∧ Blk w g E (topC s.cap f))
theorem TopG.nil (w : World) (lo E : Nat) (f : Nat → SD) : TopG w lo E 0 sd0 f := ⟨rfl, .inl ⟨rfl, rfl⟩⟩
theorem TopG.gb {w w' : World} {lo E n : Nat} {s : SD} {f : Nat → SD} {r : Option Nat} (hR : TopG w lo E n s f) (hg : w.grownBy w' r) (hne : ∀ ad, s.a = some ad → r ≠ some ad.block) : TopG w' lo E n s f := by
 refine ⟨hR.1, ?_⟩
 rcases hR.2 with h0 | ⟨g, h1, h2, h3, h4, h5⟩
 ·exact .inl h0
 ·exact .inr ⟨g, h1, h2, h3, h4, h5.gb hg (hne _ h1)⟩
theorem TopG.ext {w w' : World} {lo E n : Nat} {s : SD} {f : Nat → SD} (hR : TopG w lo E n s f) (e : Ex w w') : TopG w' lo E n s f := hR.gb (k5 e) (fun _ _ h => by cases h)
theorem TopG.sl {w : World} {lo E n : Nat} {s : SD} {f : Nat → SD} (hR : TopG w lo E n s f) : Sl w s.a (topC n f) := by
 rcases hR.2 with ⟨h0, rfl⟩ | ⟨g, h1, h2, h3, h4, h5⟩
 ·exact Sl.nil _ _
 ·rw [h1, ← lU h3]; exact h5.sl.take _
theorem TopG.blk {w : World} {lo E n : Nat} {s : SD} {f : Nat → SD} (hR : TopG w lo E n s f) : ∀ g, (Value.slice s.a s.len s.cap).ownBlock = some g → lo ≤ g ∧ Blk w g E (topC s.cap f) := by
 intro g e
 rcases hR.2 with ⟨h0, _⟩ | ⟨g', h1, h2, h3, h4, h5⟩
 ·rw [h0] at e; cases e
 ·rw [h1] at e; cases e; exact ⟨h2, h5⟩
theorem nF {P : Program} {w : World} {lo E y t ty n : Nat} {x : SD} {s : SD} {f : Nat → SD} {i0 : TypeInfo} {ga : Nat} (ht : P.underlying t = some (.slice E)) (hi : P.info? E = some i0) (hz : i0.zero = some (.slice none 0 0)) (hsz : i0.size = 1) (hby : i0.bytes = y)
  (hR : TopG w lo E n s f) (hx : Sl w (some ⟨ga, 0, none⟩) [x.val]) (hm : n + 1 ≤ 9223372036854775807) (hb : (n + 1) * y ≤ 140737488355328) (hlo : lo ≤ w.heap.size) :
  ∃ s' w' f', (Builtin.append_ #[t, t] ty #[.slice s.a s.len s.cap, .slice (some ⟨ga, 0, none⟩) 1 1]).run P w = .ok (.slice s'.a s'.len s'.cap) w' ∧ TopG w' lo E (n + 1) s' f' ∧ (∀ i, i < n → f' i = f i) ∧ f' n = x ∧
   w.grownBy w' (Value.slice s.a s.len s.cap).ownBlock ∧ (s'.a = s.a ∨ ∀ ad, s'.a = some ad → w.heap.size ≤ ad.block) := by
 have e : ∀ n, (⟨ga, 0, none⟩ : Addr).add n = ⟨ga, 0 + n, none⟩ := fun n => by unfold Addr.add; split <;> simp_all
 have hnews : ∀ j u, ([x.val] : List Value)[j]? = some u → w.cell? ((⟨ga, 0, none⟩ : Addr).add j) = some u := fun j u hu => by
  have hj : j < ([x.val] : List Value).length := (List.getElem?_eq_some_iff.1 hu).1
  have := hx.get j hj
  rw [e]
  simp only [elt] at this
  rw [this, List.getD_eq_getElem?_getD, hu]; rfl
 have hl : ([x.val] : List Value).length = 1 * i0.size := by rw [hsz]; rfl
 have hmax : ∀ old, grownCap w (n + 1) old E ≤ maxLen := fun old => grownCap_le_maxLen w (n + 1) old E hm
 have hge : ∀ old, n + 1 ≤ grownCap w (n + 1) old E := fun old => grownCap_ge w (n + 1) old E
 have hnew : ∀ (k : Nat), n + 1 ≤ k → (topC n f ++ [x.val] ++ (Builtin.zeroCells (Value.cells (.slice none 0 0)) (k - (n + 1))).toList) = topC k (fun i => if i < n then f i else if i = n then x else sd0) := fun k hk => by
  rw [oB, show ([x.val] : List Value) = topC 1 (fun _ => x) from rfl, fC, fC]
  rw [show n + 1 + (k - (n + 1)) = k by omega]
  refine bY fun i _ => ?_
  by_cases h1 : i < n
  ·rw [if_pos (by omega), if_pos h1, if_pos h1]
  ·by_cases h2 : i = n
   ·subst h2; rw [if_pos (by omega), if_neg (by omega), if_neg (by omega), if_pos rfl]
   ·rw [if_neg (by omega), if_neg h1, if_neg h2]
 have hgr : ∀ (o : Obj) {row : Option Nat}, w.grownBy (w.drew.alloc o) row := fun o _ => ⟨rfl, rfl, rfl, by simp, fun k hk _ => heap_alloc_old w.drew o hk⟩
 have hbl : ∀ (xs zs : List Value) (k : Nat), xs ++ zs = topC k (fun i => if i < n then f i else if i = n then x else sd0) → ∀ cs : Array Value, cs.toList = xs ++ zs → Blk (w.drew.alloc (.cells cs E)) w.heap.size E (topC k (fun i => if i < n then f i else if i = n then x else sd0)) := fun xs zs k e cs hcs => by
  have : cs = (topC k (fun i => if i < n then f i else if i = n then x else sd0)).toArray := by rw [← e, ← hcs]
  rw [this]
  exact heap_alloc_new w.drew _
 obtain ⟨hlen, hcase⟩ := hR
 rcases hcase with ⟨rfl, rfl⟩ | ⟨g, h1, h2, h3, h4, h5⟩
 ·have hr := run_append_nil (P := P) w t ty E i0 _ ht hi hz ⟨ga, 0, none⟩ 1 1 ([x.val] : List Value) hl hnews (by omega) (by omega) (by rw [hby]; omega)
  refine ⟨⟨some ⟨w.heap.size, 0, none⟩, 1, grownCap w 1 0 E⟩, _, fun i => if i < 0 then f i else if i = 0 then x else sd0, hr, ⟨rfl, .inr ⟨_, rfl, hlo, hge 0, hmax 0, ?_⟩⟩, fun i hi => by omega, rfl, hgr _, .inr fun ad e => by cases e; exact Nat.le_refl _⟩
  have := hnew (grownCap w 1 0 E) (hge 0)
  rw [show topC 0 f = [] from rfl, List.nil_append] at this
  exact hbl _ _ _ this _ (by simp)
 ·obtain ⟨sa, sl, sc⟩ := s
  simp only at h1 hlen h3 h4 h5
  subst h1; subst hlen
  by_cases hroom : sl + 1 ≤ sc
  ·have hr := run_append_room (P := P) w t ty E i0 ht hi g sl sc _ h5 ⟨ga, 0, none⟩ 1 1 ([x.val] : List Value) hl hnews (fun u hu => by
    simp only [List.mem_cons, List.not_mem_nil, or_false] at hu
    rw [hu]; rfl) hroom (by
    rw [hsz, List.size_toArray, bP]
    simp only [List.length_cons, List.length_nil]
    omega)
   refine ⟨⟨some ⟨g, 0, none⟩, sl + 1, sc⟩, _, fun i => if i = sl then x else f i, hr, ⟨rfl, .inr ⟨g, rfl, h2, hroom, h4, ?_⟩⟩, fun i hi => if_neg (by omega), if_pos rfl, ⟨rfl, rfl, rfl, by simp, fun k _ hk => setRow_other w g k _ (fun e => hk (by simp [Value.ownBlock, e]))⟩, .inl rfl⟩
   have hset : topC sc (fun i => if i = sl then x else f i) = (topC sc f).take sl ++ ([x.val] : List Value) ++ (topC sc f).drop (sl + 1) := by
    rw [lU (by omega)]
    obtain ⟨d, hd⟩ : ∃ d, sc = sl + 1 + d := ⟨sc - (sl + 1), by omega⟩
    have hdrop : (topC sc f).drop (sl + 1) = topC d fun i => f (sl + 1 + i) := by
     refine List.ext_getElem? fun i => ?_
     rw [List.getElem?_drop]
     by_cases hi : i < d
     ·rw [fU (by omega), fU hi]
     ·rw [List.getElem?_eq_none (by rw [bP]; omega), List.getElem?_eq_none (by rw [bP]; omega)]
    rw [hdrop, show ([x.val] : List Value) = topC 1 (fun _ => x) from rfl, fC, fC, hd]
    refine bY fun i hi => ?_
    by_cases h1 : i < sl
    ·rw [if_neg (by omega), if_pos (by omega), if_pos h1]
    ·by_cases h2 : i = sl
     ·rw [if_pos h2, if_pos (by omega), if_neg h1]
     ·rw [if_neg h2, if_neg (by omega), show sl + 1 + (i - (sl + 1)) = i by omega]
   have := setRow_heap w g (topC sc f).toArray ((topC sc f).toArray.toList.take (sl * i0.size) ++ ([x.val] : List Value) ++ (topC sc f).toArray.toList.drop (sl * i0.size + ([x.val] : List Value).length)).toArray E (0, 0) h5
   rw [hsz, Nat.mul_one] at this ⊢
   rw [hset]
   exact this
  ·have hcap : sc = sl := by omega
   subst hcap
   have holds : ∀ j u, (topC sc f)[j]? = some u → w.cell? ((⟨g, 0, none⟩ : Addr).add j) = some u := fun j u hu => by
    have e' : ∀ n, (⟨g, 0, none⟩ : Addr).add n = ⟨g, n, none⟩ := fun n => by unfold Addr.add; split <;> simp_all
    rw [e', h5.at]; exact hu
   have hr := run_append_grow (P := P) w t ty E i0 _ ht hi hz ⟨g, 0, none⟩ sc sc (topC sc f) (by rw [hsz, bP, Nat.mul_one]) holds ⟨ga, 0, none⟩ 1 1 ([x.val] : List Value) hl hnews (by omega) (Int.ofNat_le.2 hm) (by rw [hby]; exact growslice_fits (by omega) hb)
   refine ⟨⟨some ⟨w.heap.size, 0, none⟩, sc + 1, grownCap w (sc + 1) sc E⟩, _, fun i => if i < sc then f i else if i = sc then x else sd0, hr, ⟨rfl, .inr ⟨_, rfl, hlo, hge sc, hmax sc, ?_⟩⟩, fun i hi => if_pos hi, (if_neg (Nat.lt_irrefl _)).trans (if_pos rfl), hgr _, .inr fun ad e => by cases e; exact Nat.le_refl _⟩
   exact hbl _ _ _ (hnew (grownCap w (sc + 1) sc E) (hge sc)) _ (by simp)
section
variable {P : Program} {S : World → Prop} {ops : List Oper} {K : Env → World → Prop} {rest : List (Oper × Option Bool)} {ρ : Env} {w : World} {b : Option Bool} {kf : Bool} {d : Nat} {dst : Option Nat} {T T' : TypeId} {pos : String} {af : Array Edge}
theorem tT {T1 E y n d1 t lo : Nat} {u : SD} {x : Operand} {s : SD} {f : Nat → SD} {T2 : TypeId} {pos2 : String} {af2 : Array Edge} [hT : Slc P T1 E 1 y] [hz : Zro P E (.slice none 0 0)]
  (hs : ρ t = .slice s.a s.len s.cap) (hx : ev ρ x = u.val) (htd : Nat.beq t d1 = false)
  (hR : TopG w lo E n s f) (hm : n + 1 ≤ 9223372036854775807) (hb : (n + 1) * y ≤ 140737488355328) (hlo : lo ≤ w.heap.size)
  (h : ∀ g s' f' w', TopG w' lo E (n + 1) s' f' → (∀ i, i < n → f' i = f i) → f' n = u → w.grownBy w' (Value.slice s.a s.len s.cap).ownBlock → (s'.a = s.a ∨ ∀ x, s'.a = some x → w.heap.size ≤ x.block) →
   RR P (fun _ => True) ops K rest (upd (upd ρ d1 (.slice (some ⟨g, 0, none⟩) 1 1)) d (.slice s'.a s'.len s'.cap)) w') :
  RR P (fun _ => True) ops K ((⟨some d1, .buildSlice T1 1 #[(0, x)], T2, pos2, af2, none⟩, some false) :: (⟨some d, .call ⟨.builtin .append, #[.tmp t, .tmp d1], #[T1, T1]⟩, T, pos, af, none⟩, some false) :: rest) ρ w := by
 refine dI (E := E) (s := 1) (z := .slice none 0 0) (cs := #[u.val]) rfl (by
  simp only [List.map_toArray, List.map_cons, List.map_nil, hx]
  exact gF rfl (by simp)) (fun g w1 hn => ⟨fun _ _ => trivial, ?_⟩)
 refine dw rfl ?_
 unfold OpW
 obtain ⟨i0, hi0, hzz⟩ := Option.map_eq_some_iff.1 hT.sz
 simp only [Prod.mk.injEq] at hzz
 obtain ⟨i1, hi1, hz1⟩ := Option.map_eq_some_iff.1 hz.ok
 rw [hi0] at hi1
 simp only [Option.some.injEq] at hi1
 subst hi1
 have hsz := hn.ex.size
 obtain ⟨s', w', f', hr, h1, h2, h3, h4, h5⟩ := nF (P := P) (ty := T) hT.un hi0 hz1 hzz.1 hzz.2 (hR.ext hn.ex) hn.blk.sl hm hb (by omega)
 have e1 : ev (upd ρ d1 (.slice (some ⟨g, 0, none⟩) 1 1)) (.tmp t) = .slice s.a s.len s.cap := by
  show upd ρ d1 _ t = _
  simp only [upd, htd, cond_false, hs]
 have e2 : ev (upd ρ d1 (.slice (some ⟨g, 0, none⟩) 1 1)) (.tmp d1) = .slice (some ⟨g, 0, none⟩) 1 1 := by
  show upd ρ d1 _ d1 = _
  rw [eT]
 have : (execOp (ev (upd ρ d1 (.slice (some ⟨g, 0, none⟩) 1 1))) ⟨some d, .call ⟨.builtin .append, #[.tmp t, .tmp d1], #[T1, T1]⟩, T, pos, af, none⟩).run P w1 = .ok (.value (.slice s'.a s'.len s'.cap)) w' := by
  simp [execOp, resolve, invoke, builtin, e1, e2, hr]
 rw [this]
 refine ⟨fun _ _ => trivial, h g s' f' w' h1 h2 h3 ?_ (h5.imp id fun hh x hx => by have := hh x hx; omega)⟩
 exact ⟨h4.os.trans hn.ex.os, h4.tape.trans hn.ex.tape, h4.output.trans hn.ex.output, by have := h4.size; omega,
  fun k hk hne => (h4.block k (by omega) hne).trans (hn.ex.block k hk)⟩
end
end Go.W
namespace Go.Proofs.YtiejljicpinheaaGreat
open Go.W Go.LM Go.LA
set_option maxHeartbeats 2000000 in
theorem jN {n : Nat} {x : Int} {w : World} (hn : n ≤ 1000) (hx : x < 0) (hx2 : -1000 ≤ x) :
  CallsR Tryz.prog 69 #[.int .i64 (n : Int), .int .i64 x] w fun v w' => ∃ (sd : SD) (f : Nat → Nat), v = .slice sd.a sd.len sd.cap ∧ NatG w' w.heap.size 3 n sd f ∧ (∀ i, i < n → f i = i) ∧ Ex w w' := by
 refine aF (args := [_, _]) Tryz.func69 rfl rfl ?_
 repeat' (first|refine ai rfl ?_|refine aa ?_|refine aj ?_|refine ah rfl ?_|refine ae ?_|refine aA ?_)
 refine aY (ι := (Nat × SD) × (Nat → Nat)) [5, 6, 7, 8, 9, 10, 11, 12, 13, 14, 15, 16, 17, 18] (fun t => [(6, .int .i64 (t.1.1 : Int)), (5, .slice t.1.2.a t.1.2.len t.1.2.cap)])
  (fun t w' => t.1.1 ≤ n ∧ Ex w w' ∧ NatG w' w.heap.size 3 t.1.1 t.1.2 t.2 ∧ ∀ i, i < t.1.1 → t.2 i = i) (fun t => n - t.1.1)
  ((0, sd0), fun _ => 0) ⟨rfl, rfl, trivial⟩ ⟨by simp only; omega, Ex.refl _, NatG.nil _ _ _ _, fun i h => by simp only at h; omega⟩ ?_
 rintro ⟨⟨i, sd⟩, f⟩ ξ w2 ⟨hi, hE2, hN2, hf⟩
 simp only at hi hN2 hf
 show CW _ _ _ _ (over [(6, .int .i64 (i : Int)), (5, .slice sd.a sd.len sd.cap)] _) w2
 rcases Nat.lt_or_ge i n with hin | hin
 ·repeat' (first|refine bu rfl rfl (by omega) ?_|refine df rfl rfl (by omega) ?_|refine ai rfl ?_|refine aa ?_|refine aj ?_|refine ah rfl ?_|refine ae ?_|refine az rfl ?_|refine aA ?_|refine aE ?_)
  refine jq (E := 3) (lo := w.heap.size) (u := i) rfl rfl rfl hN2 (by omega) (by omega) hE2.size ?_
  intro gt sd' f' w3 hN3 hf1 hf2 hG3 hA3
  repeat' (first|refine ai rfl ?_|refine aa ?_|refine ah rfl ?_|refine ae ?_|refine bc rfl rfl (by omega) (by omega) ?_|refine aL ?_)
  refine ⟨⟨((i + 1, sd'), f'), ⟨hin, hE2.gb hG3 (fun g e => (NatG.blk hN2 g e).1), hN3, fun k hk => ?_⟩, by simp only; omega, rfl, rfl, trivial⟩, (by (repeat (first|exact aH _ _ _|refine ay rfl ?_|refine av rfl ?_|refine ak rfl ?_|refine ao rfl ?_)))⟩
  simp only at hk ⊢
  by_cases e : k = i
  ·subst e; exact hf2
  ·rw [hf1 k (by omega)]; exact hf k (by omega)
 ·have ein : n = i := by omega
  subst ein
  repeat' (first|refine bj rfl rfl (by omega) ?_|refine ai rfl ?_|refine aa ?_|refine aj ?_|refine ah rfl ?_|refine ae ?_|refine au rfl ?_|refine aP ?_|refine aJ ?_|refine aQ ?_|refine aI ?_)
  exact bx rfl (rt rfl) ⟨sd, f, rfl, hN2, hf, hE2⟩
set_option maxHeartbeats 4000000 in
theorem kQ {cn : Bool} {K r c n m cap xc yc : Nat} {w : World} {a xa ya : Option Addr} {s : Nat → SD} {F : Mat} {x y : Nat → Nat} (hM : MX cn K w a r c s F) (hx : Sl w xa (natC n x)) (hy : Sl w ya (natC m y)) (hxr : ∀ i, i < n → x i < r) (hyc : ∀ j, j < m → y j < c) (hn : n ≤ 1000) (hm : 1 ≤ m ∧ m ≤ 1000) :
  CallsR Tryz.prog 68 #[.slice a r cap, .slice xa n xc, .slice ya m yc] w fun v w' => ∃ (st : SD) (S : Nat → SD), v = .slice st.a st.len st.cap ∧ st.len = n ∧ MX cn K w' st.a n m S (fun i j => F (x i) (y j)) ∧ Ex w w' := by
 refine aF (args := [_, _, _]) Tryz.func68 rfl rfl ?_
 rw [eS] at hx hy
 have hpy := hy.plain (by simp; omega)
 repeat' (first|refine ai rfl ?_|refine aa ?_|refine aj ?_|refine ah rfl ?_|refine ae ?_|refine aZ rfl ?_|refine aA ?_)
 refine aY (ι := Nat × SD × (Nat → SD)) [7, 9, 10, 12, 15, 16, 17, 18, 19, 20, 21, 22, 23, 24, 25, 26, 27, 28, 29, 30, 31, 32, 33, 34, 35, 36, 37, 38, 39, 40] (fun t => [(15, .int .i64 (t.1 : Int)), (7, .slice t.2.1.a t.2.1.len t.2.1.cap)])
  (fun t w' => t.1 ≤ n ∧ Ex w w' ∧ TopG w' w.heap.size 31 t.1 t.2.1 t.2.2 ∧ (∀ k, k < t.1 → RX cn K w' (t.2.2 k) m (fun j => F (x k) (y j))) ∧ ∀ k, k < t.1 → ∀ ad, (t.2.2 k).a = some ad → w.heap.size ≤ ad.block) (fun t => n - t.1)
  (0, sd0, fun _ => sd0) ⟨rfl, rfl, trivial⟩ ⟨by simp only; omega, Ex.refl _, TopG.nil _ _ _ _, fun k h => by simp only at h; omega, fun k h => by simp only at h; omega⟩ ?_
 rintro ⟨i, st, S⟩ ξ w2 ⟨hi, hE2, hT2, hR2, hL2⟩
 simp only at hi hT2 hR2 hL2
 show CW _ _ _ _ (over [(15, .int .i64 (i : Int)), (7, .slice st.a st.len st.cap)] _) w2
 rcases Nat.lt_or_ge i n with hin | hin
 ·have hpx := hx.plain (by simp; omega)
  repeat' (first|refine bu rfl rfl (by omega) ?_|refine aD (j := i) (a := xa) rfl rfl hpx (by omega) ?_|(refine bG (j := i) (xs := (List.range n).map x) rfl (hx.ext hE2) (by simp; omega) ?_)|refine ai rfl ?_|refine aa ?_|refine aj ?_|refine ah rfl ?_|refine ae ?_|refine aZ rfl ?_|refine az rfl ?_|refine aA ?_|refine aE ?_)
  rw [cZ _ hin]
  have hxi := hxr i hin
  have hpt := hM.plain (by omega)
  obtain ⟨pa, d, hh0, e1, e2, hpp, _, _⟩ := (hM.ext hE2).get hxi (by have := hyc 0 (by omega); omega)
  refine aY (ι := Nat × SD × (Nat → IH)) [10, 12, 21, 22, 23, 24, 25, 26, 27, 28, 29, 30, 31, 32, 33, 34, 35] (fun t => [(21, .int .i64 (t.1 : Int)), (10, .slice t.2.1.a t.2.1.len t.2.1.cap)])
   (fun t w' => (t.1 ≤ m ∧ Ex w w' ∧ Ex w2 w') ∧ RowG w' w2.heap.size 43 t.1 t.2.1 t.2.2 ∧ ∀ j, j < t.1 → Ent cn K w' (t.2.2 j).val (F (x i) (y j))) (fun t => m - t.1)
   (0, sd0, fun _ => ih0) ⟨rfl, rfl, trivial⟩ ⟨⟨by simp only; omega, hE2, Ex.refl _⟩, RowG.nil _ _ _ _, fun j h => by simp only at h; omega⟩ ?_
  rintro ⟨j, sd, h⟩ ξ2 w3 ⟨⟨hj, hE3, hE23⟩, hG3, hEn3⟩
  simp only at hj hG3 hEn3
  show CW _ _ _ _ (over [(21, .int .i64 (j : Int)), (10, .slice sd.a sd.len sd.cap)] _) w3
  rcases Nat.lt_or_ge j m with hjm | hjm
  ·have hyj := hyc j hjm
   obtain ⟨pa', d', hh, e1', e2', hp', hS, hEn⟩ := (hM.ext hE3).get hxi (by omega)
   rw [e1] at e1'
   obtain ⟨rfl, rfl⟩ : pa = pa' ∧ d = d' := by cases e1'; exact ⟨rfl, rfl⟩
   repeat' (first|refine bu rfl rfl (by omega) ?_|refine aa ?_|refine aj ?_|refine ah rfl ?_|refine ae ?_|refine az rfl ?_|refine aE ?_)
   refine aA ?_
   repeat' (first|refine aD (j := j) (a := ya) rfl rfl hpy (by omega) ?_|(refine bG (j := j) (xs := (List.range m).map y) rfl (hy.ext hE3) (by simp; omega) ?_)|refine ai rfl ?_|refine aa ?_|refine aj ?_|refine ah rfl ?_|refine ae ?_)
   rw [cZ _ hjm]
   repeat' (first|refine aD (j := x i) (a := a) rfl rfl hpt (by omega) ?_|refine aV (j := x i) (a := a) (n := r) (s := s) rfl (hM.ext hE3).top (by omega) e1 ?_|refine aT (j := y j) (a := pa) rfl rfl hpp (by omega) ?_|refine bo (j := y j) (a := pa) rfl hS hpp (by omega) ?_|refine ai rfl ?_)
   refine q9 (E := 43) (u := hh (y j)) rfl rfl rfl hG3 (by omega) (by omega) hE23.size ?_
   intro gt sd' h' w4 hR4 hf1 hf2 hG4 hA4
   repeat' (first|refine ai rfl ?_|refine aa ?_|refine ah rfl ?_|refine ae ?_|refine bc rfl rfl (by omega) (by omega) ?_|refine aL ?_)
   have own : ∀ q, (Value.slice sd.a sd.len sd.cap).ownBlock = some q → w2.heap.size ≤ q := fun q e => (RowG.bk hG3 q e).1
   refine ⟨⟨(j + 1, sd', h'), ⟨⟨hjm, hE3.gb hG4 (fun q e => by have := own q e; have := hE2.size; omega), hE23.gb hG4 own⟩, hR4, fun k hk => ?_⟩, by simp only; omega, rfl, rfl, trivial⟩, (by (repeat (first|exact aH _ _ _|refine ay rfl ?_|refine av rfl ?_|refine ak rfl ?_|refine ao rfl ?_)))⟩
   simp only at hk ⊢
   by_cases e : k = j
   ·subst e; rw [hf2]; exact (hEn (y k) hyj).gbR hG3 hG4
   ·rw [hf1 k (by omega)]; exact (hEn3 k (by omega)).gbR hG3 hG4
  ·have ejm : m = j := by omega
   subst ejm
   have hT3 := TopG.ext hT2 hE23
   have hrow : RX cn K w3 sd m (fun j => F (x i) (y j)) := ⟨hG3.1, by
    rcases hG3.2 with ⟨h0, h1⟩ | ⟨g3, h1, h2, h3, _⟩
    ·omega
    ·exact h3, h, RowG.sl hG3, hEn3⟩
   have hslo : ∀ ad, sd.a = some ad → w2.heap.size ≤ ad.block := fun ad e => (RowG.lo hG3 ad e).1
   have hR3 : ∀ k, k < i → RX cn K w3 (S k) m (fun j => F (x k) (y j)) := fun k hk => (hR2 k hk).ext hE23
   have s23 := hE23.size
   have s2 := hE2.size
   repeat' (first|refine bj rfl rfl (by omega) ?_|refine ai rfl ?_|refine aa ?_|refine aj ?_|refine ah rfl ?_|refine ae ?_|refine au rfl ?_|refine aP ?_|refine aJ ?_|refine aQ ?_)
   refine tT (E := 31) (lo := w.heap.size) (u := sd) rfl rfl rfl hT3 (by omega) (by omega) (by omega) ?_
   intro gt st' S' w4 hT4 hf1 hf2 hG4 hA4
   repeat' (first|refine ai rfl ?_|refine aa ?_|refine ah rfl ?_|refine ae ?_|refine bc rfl rfl (by omega) (by omega) ?_|refine aL ?_)
   have hkeep : ∀ {v : SD} {f : Nat → Int}, RX cn K w3 v m f → RX cn K w4 v m f := fun {v f} hv => by
    rcases hob : (Value.slice st.a st.len st.cap).ownBlock with _ | q
    ·rw [hob] at hG4; exact hv.ext ⟨hG4.os, hG4.tape, hG4.output, hG4.size, fun k hk => hG4.block k hk (by simp)⟩
    ·rw [hob] at hG4; exact hv.gbT (TopG.blk hT3 q hob).2 hG4
   refine ⟨⟨(i + 1, st', S'), ⟨hin, hE3.gb hG4 (fun q e => (TopG.blk hT3 q e).1), hT4, fun k hk => ?_, fun k hk => ?_⟩, by simp only; omega, rfl, rfl, trivial⟩, (by (repeat (first|exact aH _ _ _|refine ay rfl ?_|refine av rfl ?_|refine ak rfl ?_|refine ao rfl ?_)))⟩
   ·simp only at hk ⊢
    by_cases e : k = i
    ·subst e; rw [hf2]; exact hkeep hrow
    ·rw [hf1 k (by omega)]; exact hkeep (hR3 k (by omega))
   ·simp only at hk ⊢
    intro ad e'
    by_cases e : k = i
    ·subst e; rw [hf2] at e'; have := hslo ad e'; omega
    ·rw [hf1 k (by omega)] at e'; exact hL2 k (by omega) ad e'
 ·have ein : n = i := by omega
  subst ein
  repeat' (first|refine bj rfl rfl (by omega) ?_|refine ai rfl ?_|refine aa ?_|refine aj ?_|refine ah rfl ?_|refine ae ?_|refine au rfl ?_|refine aP ?_|refine aJ ?_|refine aQ ?_|refine aI ?_)
  exact bx rfl (rt rfl) ⟨st, S, rfl, hT2.1, ⟨TopG.sl hT2, hR2⟩, hE2⟩
end Go.Proofs.YtiejljicpinheaaGreat
namespace Go.Proofs.YtiejljicpinheaaGreat
open Go.W Go.LM Go.LA
theorem kU {n cap : Nat} {w : World} {a : Option Addr} {s : Nat → SD} (hS : Sl w a (topC n s)) (hno : ¬ okS n s) :
  CallsR Tryz.prog 15 #[.slice a n cap] w fun v w' => v = .tuple #[.slice none 0 0, .slice none 0 0, .bool false] ∧ Ex w w' := by
 refine aF (args := [_]) Tryz.func15 rfl rfl ?_
 repeat' (first|refine ai rfl ?_|refine aa ?_|refine aj ?_|refine ah rfl ?_|refine ae ?_)
 refine aw (cc hS) rfl ?_
 rintro v w1 ⟨rfl, hE1⟩
 refine ⟨fun _ _ => trivial, ?_⟩
 rw [dH hno]
 repeat' (first|refine aK rfl rfl ?_|refine ai rfl ?_|refine aa ?_|refine aj ?_|refine ah rfl ?_|refine ae ?_|refine az rfl ?_|refine aI ?_|refine aU ?_)
 exact eo rfl (rt rfl) (rt rfl) (rt rfl) ⟨rfl, hE1⟩
end Go.Proofs.YtiejljicpinheaaGreat
namespace Go.Proofs.YtiejljicpinheaaGreat
open Go.W Go.LM Go.LA
set_option maxHeartbeats 2000000 in
theorem fD {cn : Bool} {K r c k cap : Nat} {w : World} {a : Option Addr} {s : Nat → SD} {F : Mat} (hM : MX cn K w a r c s F) (hr : 1 ≤ r ∧ r ≤ 1000) (hk : k < c) :
  CallsR Tryz.prog 66 #[.slice a r cap, .int .i64 (k : Int)] w fun v w' => ∃ p : Nat, v = .int .i64 (p : Int) ∧ p ≤ r ∧ (∀ x, x < p → F x k = 0) ∧ (p < r → F p k ≠ 0) ∧ Ex w w' := by
 have hpt := hM.plain (by omega)
 refine aF (args := [_, _]) Tryz.func66 rfl rfl ?_
 repeat' (first|refine ai rfl ?_|refine aa ?_|refine aj ?_|refine ah rfl ?_|refine ae ?_|refine aZ rfl ?_|refine aA ?_)
 refine aY (ι := Nat) [4, 5, 8, 9, 10, 11, 12, 13, 14, 15, 16, 17, 18, 19, 20, 21] (fun i => [(8, .int .i64 (i : Int))])
  (fun i w' => i ≤ r ∧ Ex w w' ∧ ∀ x, x < i → F x k = 0) (fun i => r - i)
  0 ⟨rfl, trivial⟩ ⟨by omega, Ex.refl _, fun x h => by omega⟩ ?_
 rintro i ξ w2 ⟨hi, hE2, hz⟩
 show CW _ _ _ _ (over [(8, .int .i64 (i : Int))] _) w2
 rcases Nat.lt_or_ge i r with hir | hir
 ·obtain ⟨pa, d, hh, e1, e2, hpp, hS, hEn⟩ := (hM.ext hE2).get hir (by omega)
  repeat' (first|refine bu rfl rfl (by omega) ?_|refine aD (j := i) (a := a) rfl rfl hpt (by omega) ?_|refine aV (j := i) (a := a) (n := r) (s := s) rfl (hM.ext hE2).top (by omega) e1 ?_|refine aT (j := k) (a := pa) rfl rfl hpp (by omega) ?_|refine bo (j := k) (a := pa) rfl hS hpp (by omega) ?_|refine ai rfl ?_|refine aa ?_|refine aj ?_|refine ah rfl ?_|refine ae ?_|refine az rfl ?_|refine aA ?_|refine aE ?_)
  refine aw (cj (hEn k hk).k) rfl ?_
  rintro v w3 ⟨rfl, hE3⟩
  refine ⟨fun _ _ => trivial, ?_⟩
  by_cases h : F i k = 0
  ·repeat' (first|(refine cN rfl rfl (by rw [h]; rfl) ?_)|refine ai rfl ?_|refine aa ?_|refine ah rfl ?_|refine ae ?_|refine bc rfl rfl (by omega) (by omega) ?_|refine au rfl ?_|refine aL ?_|refine aE ?_)
   refine ⟨⟨i + 1, ⟨hir, hE2.trans hE3, fun x hx => ?_⟩, by omega, rfl, trivial⟩, (by (repeat (first|exact aH _ _ _|refine ay rfl ?_|refine av rfl ?_|refine ak rfl ?_|refine ao rfl ?_)))⟩
   by_cases e : x = i
   ·subst e; exact h
   ·exact hz x (by omega)
  ·repeat' (first|refine df rfl rfl (fun e => h (Int.sign_eq_zero_iff_zero.1 e)) ?_|refine ai rfl ?_|refine aa ?_|refine aj ?_|refine ah rfl ?_|refine ae ?_|refine az rfl ?_|refine aI ?_|refine aU ?_|refine bQ ?_)
   exact bx rfl (rt rfl) ⟨i, rfl, hi, hz, fun _ => h, hE2.trans hE3⟩
 ·have eir : r = i := by omega
  subst eir
  repeat' (first|refine bj rfl rfl (by omega) ?_|refine ai rfl ?_|refine aa ?_|refine aj ?_|refine ah rfl ?_|refine ae ?_|refine aZ rfl ?_|refine au rfl ?_|refine aP ?_|refine aJ ?_|refine aQ ?_|refine aI ?_)
  exact bx rfl (rt rfl) ⟨r, rfl, Nat.le_refl _, hz, fun h => by omega, hE2⟩
theorem mF {r c k l p : Nat} {H : Mat} {f : Nat → Nat} (h : HF r c H k f) (hl : l < c) (hp : p ≤ r) (hz : ∀ x, x < p → H x l = 0) (hn : p < r → H p l ≠ 0) : (p < r ↔ l < k) ∧ (p < r → p = f l) := by
 constructor
 ·constructor
  ·intro hpr; exact (h.piv hl hpr hz (hn hpr)).1
  ·intro hlk
   rcases Nat.lt_or_ge p r with h' | h'
   ·exact h'
   ·have := h.pos l hlk; rw [hz _ (by have := h.lt l hlk; omega)] at this; omega
 ·intro hpr; exact (h.piv hl hpr hz (hn hpr)).2.symm
def RetRB (r c s Q : Nat) (A : Mat) (w : World) (v : Value) (w' : World) : Prop :=
 ∃ (H U : Mat) (k : Nat) (p : Nat → Nat) (u : SD), v = .tuple #[.slice u.a u.len u.cap, .bool true] ∧ CEq r c A H U ∧ HF r c H k p ∧ (k = 0 → u = sd0) ∧ (0 < k → ∃ g gs cp, u = ⟨some ⟨g, 0, none⟩, r, r⟩ ∧ MO true (Zb Q s (c + k)) w' w.heap.size g r k gs cp H) ∧ Ex w w'
theorem RetRB.basis {KM r c s Q : Nat} {A : Mat} {w w' : World} {v : Value} (h : RetRB r c s Q A w v w') (hQ : 10 ≤ Q) (hKM : Zb Q s (2 * c + 1) ≤ KM) : RetBasis KM r c A w v w' := by
 obtain ⟨H, U, k, p, u, h1, h2, h3, h4, h5, h6⟩ := h
 refine ⟨H, U, k, p, u, h1, h2, h3, h4, fun h => ?_, h6⟩
 obtain ⟨g, gs, cp, e, hM⟩ := h5 h
 exact ⟨g, gs, cp, e, hM.up (Nat.le_trans (eh hQ (by have := h3.kc; omega)) hKM)⟩
set_option maxHeartbeats 4000000 in
theorem cV {cn : Bool} {K KM r c cap s Q : Nat} {w : World} {a : Option Addr} {sh : Nat → SD} {A : Mat} (hM : MX cn K w a r c sh A) (hr : 1 ≤ r ∧ r ≤ 16) (hc : 1 ≤ c ∧ c ≤ 16) (hA : ∀ l, l < c → ∀ i, i < r → Lb (Zb Q s l) (A i l)) (hQ : 10 ≤ Q) (hKM : Zb Q s (2 * c + 1) ≤ KM) (hK : 2 * KM < 17592186044415) :
  CallsR Tryz.prog 22 #[.slice a r cap] w (RetRB r c s Q A w) := by
 refine aF (args := [_]) Tryz.func22 rfl rfl ?_
 repeat' (first|refine ai rfl ?_|refine aa ?_|refine aj ?_|refine ah rfl ?_|refine ae ?_)
 refine aw (gi hM hr hc hA hQ hKM hK) rfl ?_
 rintro v w1 ⟨g, g', gs, cp, gs', cp', H, U, k, p, rfl, hF, _, _, hdn, hE1⟩
 refine ⟨fun _ _ => trivial, ?_⟩
 have hHF := hF.hf
 have hkc := hHF.kc
 repeat' (first|refine aK rfl rfl ?_|refine ai rfl ?_|refine aa ?_|refine aj ?_|refine ah rfl ?_|refine ae ?_|refine au rfl ?_|refine aE ?_)
 refine ct (ι := Unit) [7, 17, 18, 19, 20, 21, 22, 23, 24, 25, 26, 27, 28, 29, 30, 31, 32] (fun _ => [(7, .int .i64 (k : Int))]) (fun _ w' => Ex w1 w') ?_ ?_
 ·refine aA ?_
  refine aY (ι := Nat) [7, 17, 18, 19, 20, 21, 22, 23, 24, 25, 26, 27, 28, 29, 30, 31, 32] (fun l => [(7, .int .i64 (l : Int))])
   (fun l w' => l ≤ k ∧ Ex w1 w') (fun l => k - l)
   0 ⟨rfl, trivial⟩ ⟨by omega, Ex.refl _⟩ ?_
  rintro l ξ w2 ⟨hl, hE2⟩
  show CW _ _ _ _ (over [(7, .int .i64 (l : Int))] _) w2
  have hO2 := hF.h.ext hE2
  rcases Nat.lt_or_ge l c with hlc | hlc
  ·repeat' (first|refine aD (j := 0) (a := some ⟨g, 0, none⟩) rfl rfl ⟨_, _, rfl⟩ (by omega) ?_|refine aV (j := 0) (a := some ⟨g, 0, none⟩) (n := r) (s := fun k => ⟨some ⟨gs k, 0, none⟩, c, cp k⟩) rfl hO2.top.sl (by omega) rfl ?_|refine bu rfl rfl (by omega) ?_|refine ai rfl ?_|refine aj ?_|refine ah rfl ?_|refine aZ rfl ?_|refine bz rfl rfl ?_)
   refine aw (fD hO2.mx ⟨hr.1, by omega⟩ hlc) rfl ?_
   rintro v w3 ⟨q, rfl, hq, hz, hn, hE3⟩
   refine ⟨fun _ _ => trivial, ?_⟩
   obtain ⟨t1, _⟩ := mF hHF hlc hq hz hn
   rcases Nat.lt_or_ge l k with hlk | hlk
   ·have hqr := t1.2 hlk
    repeat' (first|refine bu rfl rfl (by omega) ?_|refine ai rfl ?_|refine aa ?_|refine ah rfl ?_|refine ae ?_|refine aZ rfl ?_|refine bz rfl rfl ?_|refine bc rfl rfl (by omega) (by omega) ?_|refine az rfl ?_|refine aA ?_|refine aL ?_|refine aE ?_)
    exact ⟨⟨l + 1, ⟨hlk, hE2.trans hE3⟩, by omega, rfl, trivial⟩, (by (repeat (first|exact aH _ _ _|refine ay rfl ?_|refine av rfl ?_|refine ak rfl ?_|refine ao rfl ?_)))⟩
   ·have elk : l = k := by omega
    subst elk
    have hqr : ¬ q < r := fun h => by have := t1.1 h; omega
    repeat' (first|refine bj rfl rfl (by omega) ?_|refine ai rfl ?_|refine aa ?_|refine ae ?_|refine aZ rfl ?_|refine bz rfl rfl ?_|refine au rfl ?_|refine aP ?_|refine aJ ?_|refine aQ ?_)
    exact ⟨⟨(), hE2.trans hE3, rfl, trivial⟩, (by (repeat (first|exact aM _ _|refine ay rfl ?_|refine av rfl ?_|refine ak rfl ?_|refine ao rfl ?_)))⟩
  ·have elk : l = k := by omega
   subst elk
   repeat' (first|refine aD (j := 0) (a := some ⟨g, 0, none⟩) rfl rfl ⟨_, _, rfl⟩ (by omega) ?_|refine aV (j := 0) (a := some ⟨g, 0, none⟩) (n := r) (s := fun k => ⟨some ⟨gs k, 0, none⟩, c, cp k⟩) rfl hO2.top.sl (by omega) rfl ?_|refine bj rfl rfl (by omega) ?_|refine ai rfl ?_|refine aa ?_|refine aj ?_|refine ah rfl ?_|refine ae ?_|refine aZ rfl ?_|refine bK rfl rfl ?_|refine au rfl ?_|refine aP ?_|refine aJ ?_|refine aQ ?_)
   exact ⟨⟨(), hE2, rfl, trivial⟩, (by (repeat (first|exact aM _ _|refine ay rfl ?_|refine av rfl ?_|refine ak rfl ?_|refine ao rfl ?_)))⟩
 ·rintro ⟨⟩ ξ w2 hE2
  show CW _ _ _ _ (over [(7, .int .i64 (k : Int))] _) w2
  have hE02 := hE1.trans hE2
  by_cases hk : k = 0
  ·repeat' (first|refine eF rfl rfl (by omega) ?_|refine ai rfl ?_|refine aa ?_|refine aj ?_|refine ah rfl ?_|refine ae ?_|refine az rfl ?_|refine aI ?_|refine aU ?_)
   exact cA rfl (rt rfl) (rt rfl) ⟨H, U, k, p, sd0, rfl, hF.ceq, hHF, fun _ => rfl, fun h => by omega, hE02⟩
  ·repeat' (first|refine dU rfl rfl (by omega) ?_|refine ai rfl ?_|refine aa ?_|refine aj ?_|refine ah rfl ?_|refine ae ?_|refine aZ rfl ?_|refine au rfl ?_|refine aA ?_|refine aE ?_)
   have hO2 := hF.h.ext hE2
   have s1 := hE1.size
   have glo := hF.h.low
   refine aY (ι := Nat) [8, 37, 38, 39, 40, 41, 42, 43, 44, 45, 46, 47, 48, 49] (fun t => [(37, .int .i64 (t : Int))])
    (fun t w' => (t ≤ r ∧ Ex w w' ∧ w2.grownBy w' (some g)) ∧ Blk w' g 31 (topC r fun i => if i < t then ⟨some ⟨gs i, 0, none⟩, k, cp i⟩ else ⟨some ⟨gs i, 0, none⟩, c, cp i⟩)) (fun t => r - t)
    0 ⟨rfl, trivial⟩ ⟨⟨by omega, hE02, lL (Ex.refl _)⟩, hO2.top⟩ ?_
   rintro t ξ2 w3 ⟨⟨ht, hE3, hG3⟩, hT3⟩
   show CW _ _ _ _ (over [(37, .int .i64 (t : Int))] _) w3
   rcases Nat.lt_or_ge t r with htr | htr
   ·have hcp := (hF.h.row t htr).le
    repeat' (first|refine bu rfl rfl (by omega) ?_|refine aD (j := t) (a := some ⟨g, 0, none⟩) rfl rfl ⟨_, _, rfl⟩ (by omega) ?_|refine aV (j := t) (a := some ⟨g, 0, none⟩) (n := r) (a1 := some ⟨gs t, 0, none⟩) (l1 := c) (c1 := cp t) rfl hT3.sl (by omega) (if_neg (by omega)) ?_|refine fO rfl rfl (by omega) (by omega) ?_|refine ai rfl ?_|refine aa ?_|refine aj ?_|refine ah rfl ?_|refine ae ?_|refine az rfl ?_|refine aA ?_|refine aE ?_)
    refine ch (j := t) (u := ⟨some ⟨gs t, 0, none⟩, k, cp t⟩) rfl rfl hT3 (by omega) (fun w4 hc4 hT4 => ⟨fun _ _ => trivial, ?_⟩)
    repeat' (first|refine ai rfl ?_|refine aa ?_|refine ah rfl ?_|refine ae ?_|refine bc rfl rfl (by omega) (by omega) ?_|refine aL ?_)
    refine ⟨⟨t + 1, ⟨⟨htr, hE3.chg hc4 glo, bJ hG3 (bw hc4) (fun k e => .inl e)⟩, ?_⟩, by omega, rfl, trivial⟩, (by (repeat (first|exact aH _ _ _|refine ay rfl ?_|refine av rfl ?_|refine ak rfl ?_|refine ao rfl ?_)))⟩
    rw [bY (s' := setF (fun i => if i < t then (⟨some ⟨gs i, 0, none⟩, k, cp i⟩ : SD) else ⟨some ⟨gs i, 0, none⟩, c, cp i⟩) t ⟨some ⟨gs t, 0, none⟩, k, cp t⟩) (fun i _ => ?_)]
    ·exact hT4
    ·by_cases e : i = t
     ·subst e; rw [aS, if_pos (Nat.lt_succ_self _)]
     ·rw [aX _ _ e]
      by_cases h : i < t
      ·rw [if_pos h, if_pos (by omega)]
      ·rw [if_neg h, if_neg (by omega)]
   ·have etr : r = t := by omega
    subst etr
    repeat' (first|refine bj rfl rfl (by omega) ?_|refine ai rfl ?_|refine aa ?_|refine aj ?_|refine ah rfl ?_|refine ae ?_|refine au rfl ?_|refine aP ?_|refine aJ ?_|refine aQ ?_|refine aI ?_)
    refine cA rfl (rt rfl) (rt rfl) ⟨H, U, k, p, ⟨some ⟨g, 0, none⟩, r, r⟩, rfl, hF.ceq, hHF, fun h => absurd h hk, fun _ => ⟨g, gs, cp, rfl, hF.h.low, ?_, fun i hi => ?_, hF.h.off, hF.h.inj⟩, hE3⟩
    ·rw [bY (s' := fun i => if i < r then (⟨some ⟨gs i, 0, none⟩, k, cp i⟩ : SD) else ⟨some ⟨gs i, 0, none⟩, c, cp i⟩) (fun i hi => by rw [if_pos hi])]
     exact hT3
    ·obtain ⟨hh, hb, hEn⟩ := ((hO2.row i hi).gbN hO2.top (bW _ _) hG3 (hO2.off i hi)).ex
     exact ⟨(hO2.row i hi).low, Nat.le_trans hkc (hO2.row i hi).le, hh, hb, fun j hj => (hEn j (by omega)).sharp (hdn j hj i hi)⟩
end Go.Proofs.YtiejljicpinheaaGreat
namespace Go.Proofs.YtiejljicpinheaaGreat
open Go.W Go.LM Go.LA
theorem rB {K r c k : Nat} {w : World} {u : SD} {H : Mat} (hr : 1 ≤ r ∧ r ≤ 16) (hk : k ≤ c) (hc : c ≤ 16) (h0 : k = 0 → u = sd0) (hO : 0 < k → ∃ g gs cp, u = ⟨some ⟨g, 0, none⟩, r, r⟩ ∧ MO true K w 0 g r k gs cp H) :
  ∃ s : Nat → SD, AC K w u.a u.len s H ∧ u.len ≤ 16 ∧ (k = 0 → u.len = 0) ∧ (0 < k → u.len = r ∧ ∀ i, i < r → (s i).len = k) := by
 rcases Nat.eq_zero_or_pos k with h | h
 ·have := h0 h
  subst this
  exact ⟨fun _ => sd0, AC.nil _ _ _ _ _, Nat.zero_le _, fun _ => rfl, fun h' => by omega⟩
 ·obtain ⟨g, gs, cp, rfl, hM⟩ := hO h
  exact ⟨_, hM.mx.ac (by omega), hr.2, fun h' => by omega, fun _ => ⟨rfl, fun i _ => rfl⟩⟩
theorem pU {r c c' k k' n n' : Nat} {H H' : Mat} {p p' : Nat → Nat} {s s' : Nat → SD} (hF : HF r c H k p) (hF' : HF r c' H' k' p') (hr : 1 ≤ r) (h3 : k = 0 → n = 0) (h4 : 0 < k → n = r ∧ ∀ i, i < r → (s i).len = k) (h3' : k' = 0 → n' = 0) (h4' : 0 < k' → n' = r ∧ ∀ i, i < r → (s' i).len = k') :
  (n = n' ∧ ∀ i, i < n → (s i).len = (s' i).len ∧ ∀ j, j < (s i).len → H i j = H' i j) ↔ ∀ v, InL r c H v ↔ InL r c' H' v := by
 rw [hF.latt hF']
 rcases Nat.eq_zero_or_pos k with hk | hk
 ·rcases Nat.eq_zero_or_pos k' with hk' | hk'
  ·have e1 := h3 hk
   have e2 := h3' hk'
   exact ⟨fun _ => ⟨by omega, fun i j _ hj => by omega⟩, fun _ => ⟨by omega, fun i hi => by omega⟩⟩
  ·have e1 := h3 hk
   obtain ⟨e2, _⟩ := h4' hk'
   exact ⟨fun h => by omega, fun h => by omega⟩
 ·obtain ⟨e1, l1⟩ := h4 hk
  rcases Nat.eq_zero_or_pos k' with hk' | hk'
  ·have e2 := h3' hk'
   exact ⟨fun h => by omega, fun h => by omega⟩
  ·obtain ⟨e2, l2⟩ := h4' hk'
   constructor
   ·rintro ⟨_, h⟩
    refine ⟨?_, fun i j hi hj => (h i (by omega)).2 j (by rw [l1 i hi]; exact hj)⟩
    have := (h 0 (by omega)).1
    rw [l1 0 (by omega), l2 0 (by omega)] at this; exact this
   ·rintro ⟨hkk, h⟩
    exact ⟨by omega, fun i hi => ⟨by rw [l1 i (by omega), l2 i (by omega)]; exact hkk, fun j hj => h i j (by omega) (by rw [l1 i (by omega)] at hj; exact hj)⟩⟩
end Go.Proofs.YtiejljicpinheaaGreat
