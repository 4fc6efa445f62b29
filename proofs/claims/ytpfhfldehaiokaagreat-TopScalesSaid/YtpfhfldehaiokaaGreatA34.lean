import Derived.RangeFuncSeq
import Derived.OrdersIn
import Derived.Test.YtpfhfldehaiokaaGreatA33
set_option maxHeartbeats 16000000
namespace Go.W
open Go.RowKit (Below)
def RelD (ds : List Deferred) (n : Nat) (a : Act) (ρ : Env) : Prop := Rel n { a with defers := [] } ρ ∧ a.defers = ds
theorem Rel.d {n : Nat} {a : Act} {ρ : Env} (h : Rel n a ρ) : RelD [] n a ρ := ⟨⟨h.size, h.get, rfl⟩, h.defers⟩
theorem RelD.rel {n : Nat} {a : Act} {ρ : Env} (h : RelD [] n a ρ) : Rel n a ρ := ⟨h.1.size, h.1.get, h.2⟩
theorem RelD.put {ds : List Deferred} {n : Nat} {a : Act} {ρ : Env} (h : RelD ds n a ρ) {o : Oper} (hd : dstOK n o = true) (v : Value) : RelD ds n (a.put o.dst v) (updO ρ o.dst v) := by
 refine ⟨?_, ?_⟩
 ·have e : ({ a.put o.dst v with defers := [] } : Act) = ({ a with defers := [] } : Act).put o.dst v := by cases o.dst <;> rfl
  rw [e]; exact h.1.putO hd v
 ·have e : (a.put o.dst v).defers = a.defers := by cases o.dst <;> rfl
  rw [e]; exact h.2
theorem RelD.ev {ds : List Deferred} {n : Nat} {a : Act} {ρ : Env} (h : RelD ds n a ρ) : a.eval = W.ev ρ := by
 rw [← h.1.ev]; funext x; cases x <;> rfl
theorem RelD.wanted {ds : List Deferred} {n : Nat} {a : Act} {ρ : Env} (h : RelD ds n a ρ) (ops : List Oper) (o : Oper) :
  Region.wanted o (yielded ops.toArray a.tmps) = wantedE ops ρ o := h.1.wanted ops o
structure Open (F : Fence) : Prop where
 fn : ∀ f, F.fn f
 depth : F.depth = none
 calls : ∀ {P : Program} {f : FuncId} {args : Array Value} {w : World} {R : Ending → World → Prop} (m : Nat), Calls P f args w R → CallsIn F m P f args w R
theorem kq : Open Fence.wide := ⟨fun _ => trivial, rfl, fun _ h => callsIn_wide.2 h⟩
theorem re (l : Nat) : Open (Fence.wide.inRound l) := ⟨fun _ => trivial, rfl, fun _ h => callsIn_wide.2 h⟩
theorem OpW.wpIn {P : Program} {F : Fence} (hF : Open F) {m : Nat} {o : Oper} {n : Nat} {ds : List Deferred} {a : Act} {ρ : Env} {w : World} {next : Value → World → Prop} {K : Act → World → Prop} {Q : Exit → Act → World → Prop}
  (hr : RelD ds n a ρ) (h : OpW P o ρ w next) (hk : ∀ v w', next v w' → K (a.put o.dst v) w') : o.wpIn F m P a w K Q := by
 refine ⟨fun f _ => hF.fn f, ?_⟩
 have hdef : o.semAt F.round a.eval = execOp a.eval o ∨ ∃ c, o.op = .defer c := by
  by_cases hc : ∃ c, o.op = .defer c
  ·exact .inr hc
  ·exact .inl (Oper.semAt_eq _ _ _ fun c e => hc ⟨c, e⟩)
 unfold OpW at h
 rcases hdef with e | ⟨c, e⟩
 ·rw [e, hr.ev]
  generalize (execOp (W.ev ρ) o).run P w = r at *
  cases r with
  | ok x w' =>
   cases x <;> simp only [] at h <;> simp only [Oper.uponIn]
   case value v => exact hk _ _ h
   case skip => exact hk _ _ h
   case enter f args =>
    refine ⟨fun hd => (by rw [hF.depth] at hd; cases hd), CallsIn.mono (hF.calls _ h) fun e w'' ⟨v, he, hn⟩ => ?_⟩
    subst he; exact hk _ _ hn
  | halt x w' => simp only [] at h
 ·exfalso
  obtain ⟨dst, op, T, pos, af, g⟩ := o
  simp only at e
  subst e
  simp only [execOp, Sem.run_bind] at h
  cases hres : (resolve (W.ev ρ) c T).run P w <;> rw [hres] at h <;> simp [Result.andThen] at h
theorem RR.listIn {P : Program} {F : Fence} (hF : Open F) {m n : Nat} {ds : List Deferred} {ops : List Oper} {Q : Exit → Act → World → Prop} {K : Env → World → Prop} {rest : List Oper}
  (hK : ∀ a ρ w, RelD ds n a ρ → K ρ w → wpListIn F m P ops.toArray Q rest a w) :
  ∀ (l : List Oper) (ρ : Env) (a : Act) (w : World), RelD ds n a ρ → l.all (dstOK n) = true →
   RR P (fun _ => True) ops K (l.map (·, some false)) ρ w → wpListIn F m P ops.toArray Q (l ++ rest) a w
 | [], ρ, a, w, hr, _, h => hK a ρ w hr (by unfold RR at h; exact h)
 | o :: l, ρ, a, w, hr, hd, h => by
  simp only [List.all_cons, Bool.and_eq_true] at hd
  rw [List.cons_append]
  unfold wpListIn
  rw [List.map_cons] at h
  unfold RR at h
  rw [hr.wanted]
  split
  ·rename_i hw
   rw [if_pos hw] at h
   exact OpW.wpIn hF hr h fun v w' hn => RR.listIn hF hK l _ _ _ (hr.put hd.1 v) hd.2 hn.2
  ·rename_i hw
   rw [if_neg hw] at h
   exact ⟨fun f _ => hF.fn f, RR.listIn hF hK l _ _ _ (hr.put hd.1 undef) hd.2 h⟩
theorem nX {P : Program} {F : Fence} (hF : Open F) {m n : Nat} {ds : List Deferred} {id : Nat} {l : List Oper} {Q : Exit → Act → World → Prop} {a : Act} {ρ : Env} {w : World} (hr : RelD ds n a ρ) (hd : l.all (dstOK n) = true)
  (h : RR P (fun _ => True) l (fun ρ w => ∀ a, RelD ds n a ρ → Q .normal a w) (l.map (·, some false)) ρ w) : (Code.region id l.toArray false).wpIn F m P Q a w := by
 refine wpIn_region_lit ?_
 have := RR.listIn hF (rest := []) (m := m) (Q := Q) (fun a ρ w hr hK => wpListIn_nil (hK a hr)) l ρ a w hr hd h
 rwa [List.append_nil] at this
theorem vp {P : Program} {n m l : Nat} {ops rest : List Oper} {Q : Exit → Act → World → Prop} {a : Act} {ρ : Env} {w : World} {d : Nat} {x : Operand} {args : List Operand} {ts : Array TypeId} {T : TypeId} {pos : String} {af : Array Edge} {vals : Array Value} {v : Value} {R : World → Prop}
  (hr : Rel n a ρ) (hd : d < n) (hx : ev ρ x = .func (.yield l) #[] #[]) (ha : (args.map (ev ρ)).toArray = vals)
  (hy : YieldAt Fence.wide (m - 1) P l vals w fun e w' => e = .returned v ∧ R w')
  (h : ∀ a w', Rel n a (upd ρ d v) → R w' → wpListIn Fence.wide m P ops.toArray Q rest a w') :
  wpListIn Fence.wide m P ops.toArray Q (⟨some d, .call { callee := .value x, args := args.toArray, argTypes := ts }, T, pos, af, none⟩ :: rest) a w := by
 refine wpListIn_plain rfl fun K hK => ⟨fun _ _ => trivial, ?_⟩
 obtain ⟨fn, tmps, assign, body, hrun, hround⟩ := hy
 have hev : a.eval = ev ρ := hr.ev
 have hva : (args.toArray.map (ev ρ)) = vals := by rw [← ha, List.map_toArray]
 have e : ((⟨some d, .call { callee := .value x, args := args.toArray, argTypes := ts }, T, pos, af, none⟩ : Oper).semAt Fence.wide.round a.eval).run P w = .ok (.round l fn tmps assign body) w := by
  rw [show Fence.wide.round = none from rfl, Oper.semAt_none, hev]
  simp [execOp, resolve, invoke, hx, hva, go_sem, hrun]
 rw [e]
 refine ⟨fun hd => (by cases hd), RoundIn.mono hround ?_⟩
 rintro e w' ⟨rfl, hR⟩
 exact hK _ _ (h _ _ (hr.put hd v) hR)
def KX (P : Program) (n : Nat) (y : Code) (Q : Exit → Act → World → Prop) : Exit → Env → World → Prop := fun e ρ w => e = .normal ∧ ∀ a, Rel n a ρ → y.wp P Q a w
theorem kr {P : Program} {n : Nat} {x y : Code} {Q : Exit → Act → World → Prop} {ρ : Env} {w : World} (h : CW P n x (KX P n y Q) ρ w) : ∀ a, Rel n a ρ → (Code.seq x y).wp P Q a w := by
 unfold CW at h
 intro a hr
 refine wp_seq (wp_mono (h a hr) fun e a w q => ?_)
 cases e <;> simp only [lift, Exit.then] at q ⊢
 case normal => obtain ⟨ρ, hr, q⟩ := q; exact q.2 a hr
 all_goals (obtain ⟨ρ, hr, q⟩ := q; cases q.1)
end Go.W
namespace Go.W
theorem kT {P : Program} {n id d : Nat} {L : List Oper} {Q : Exit → Env → World → Prop} {ρ : Env} {w : World} {x : Operand} {args : List Operand} {ts : Array TypeId} {T : TypeId} {pos : String} {af : Array Edge} (i : Nat)
  (ho : L[i]? = some ⟨some d, .call { callee := .value x, args := args.toArray, argTypes := ts }, T, pos, af, none⟩) (hd : L.all (dstOK n) = true)
  (h : RR P (fun _ => True) L (fun ρ w => ∃ (l m : Nat) (vals : Array Value) (v : Value) (R : World → Prop), ev ρ x = .func (.yield l) #[] #[] ∧ (args.map (ev ρ)).toArray = vals ∧ YieldAt Fence.wide m P l vals w (fun e w' => e = .returned v ∧ R w') ∧
   ∀ w', R w' → RR P (fun _ => True) L (Q .normal) ((L.drop (i + 1)).map (·, some false)) (upd ρ d v) w') ((L.take i).map (·, some false)) ρ w) : CW P n (.region id L.toArray false) Q ρ w := by
 have hlt : i < L.length := (List.getElem?_eq_some_iff.1 ho).1
 have hcut : L = L.take i ++ (⟨some d, .call { callee := .value x, args := args.toArray, argTypes := ts }, T, pos, af, none⟩ :: L.drop (i + 1)) := by
  have h1 := (List.take_append_drop i L).symm
  rw [List.drop_eq_getElem_cons hlt] at h1
  rw [List.getElem?_eq_getElem hlt] at ho
  injection ho with ho
  rw [ho] at h1
  exact h1
 have hdo : d < n := by
  have := List.all_eq_true.1 hd _ (List.mem_of_getElem? ho)
  simpa [dstOK, Nat.blt_eq] using this
 have hd1 : (L.take i).all (dstOK n) = true := by
  rw [List.all_eq_true] at hd ⊢
  exact fun o h => hd o (List.mem_of_mem_take h)
 have hd2 : (L.drop (i + 1)).all (dstOK n) = true := by
  rw [List.all_eq_true] at hd ⊢
  exact fun o h => hd o (List.mem_of_mem_drop h)
 unfold CW
 intro a hr
 refine (wpIn_wide (n := 0)).1 (wpIn_region_lit ?_)
 have key : wpListIn Fence.wide 0 P L.toArray (lift n Q) (L.take i ++ (⟨some d, .call { callee := .value x, args := args.toArray, argTypes := ts }, T, pos, af, none⟩ :: L.drop (i + 1))) a w := by
  refine RR.listIn kq (ds := []) (fun a ρ w hr hK => ?_) (L.take i) ρ a w hr.d hd1 h
  obtain ⟨l, m, vals, v, R, hx, ha, hy, hn⟩ := hK
  have hy0 : YieldAt Fence.wide (0 - 1) P l vals w fun e w' => e = .returned v ∧ R w' := by
   obtain ⟨fn, tmps, assign, body, h1, h2⟩ := hy
   exact ⟨fn, tmps, assign, body, h1, h2.1, fun c cs _ => h2.2 c cs (room_wide _)⟩
  refine vp hr.rel hdo hx ha hy0 fun a w' hr' hR => ?_
  have := RR.listIn kq (ds := []) (m := 0) (rest := []) (Q := lift n Q) (K := Q .normal) (fun a ρ w hr hK => wpListIn_nil ⟨ρ, hr.rel, hK⟩) (L.drop (i + 1)) _ a w' hr'.d hd2 (hn w' hR)
  rwa [List.append_nil] at this
 rwa [← hcut] at key
theorem wy {P : Program} {m : Nat} {o : Oper} {a : Act} {w : World} {K K' : Act → World → Prop} {Qm Q : Exit → Act → World → Prop} (h : o.wp P a w K Qm) (hK : ∀ a w, K a w → K' a w) (hQ : ∀ c a w, Qm (.panic c) a w → Q (.panic c) a w)
  (hL : LetsOut Qm → LetsOut Q) : o.wpIn Fence.wide m P a w K' Q := by
 unfold Oper.wp at h
 refine ⟨fun _ _ => trivial, ?_⟩
 rw [show Fence.wide.round = none from rfl, Oper.semAt_none]
 generalize (execOp a.eval o).run P w = r at *
 cases r with
 | ok x w' =>
  cases x <;> simp only [Oper.upon] at h <;> simp only [Oper.uponIn]
  case value v => exact hK _ _ h
  case skip => exact hK _ _ h
  case defer d => exact hK _ _ h
  case enter f args =>
   refine ⟨fun hd => (by cases hd), CallsIn.mono (callsIn_wide.2 h) fun e w'' he => ?_⟩
   cases e with
   | returned v => exact hK _ _ he
   | panicked c => exact hQ _ _ _ he
   | outgrown => exact hL he
  case row row args =>
   refine ⟨fun hd => (by cases hd), fun c cs _ => ?_⟩
   obtain ⟨v, w'', h1, h2⟩ := h c cs
   exact ⟨v, w'', hK _ _ h1, stepsIn_wide.2 h2⟩
 | halt x w' =>
  cases x <;> simp only [Oper.upon] at h <;> simp only [Oper.uponIn]
  case panic u => exact hQ _ _ _ h
def depOn (o : Oper) (j : Nat) : Bool := o.after.any fun e => Region.binds .any e && e.on == j
def lowOK (o : Oper) (j : Nat) : Bool := o.after.all fun e => !Region.binds .any e || Nat.blt e.on j
def coverOK (L : List Oper) (o : Oper) : Bool :=
 ((List.range L.length).all fun j => depOn o j || (List.range L.length).any fun j' => Nat.blt j j' && (match L[j']? with | some o' => depOn o' j | none => false)) &&
   (((List.range L.length).all fun j => match L[j]? with | some o' => lowOK o' j | none => true) && lowOK o L.length)
def Closed (L : List Oper) (listed : Array Bool) : Prop := ∀ j oj, L[j]? = some oj → listed.getD j false = true → ∀ e ∈ oj.after, Region.binds .any e = true → listed.getD e.on false = true
theorem mO {o : Oper} {j : Nat} (h : depOn o j = true) : ∃ e ∈ o.after, Region.binds .any e = true ∧ e.on = j := by
 unfold depOn at h
 rw [Array.any_eq_true'] at h
 obtain ⟨e, he, h⟩ := h
 simp only [Bool.and_eq_true, beq_iff_eq] at h
 exact ⟨e, he, h⟩
theorem mP {o : Oper} {j : Nat} (h : lowOK o j = true) : ∀ e ∈ o.after, Region.binds .any e = true → e.on < j := fun e he hb => by
 unfold lowOK at h
 have := Array.all_eq_true_iff_forall_mem.1 h e he
 simpa [hb, Nat.blt_eq] using this
theorem tg {L : List Oper} {o : Oper} (hc : coverOK L o = true) {listed : Array Bool} (hcl : Closed L listed) (ho : ∀ e ∈ o.after, Region.binds .any e = true → listed.getD e.on false = true) : ∀ d j, j + d = L.length → j < L.length → listed.getD j false = true := by
 unfold coverOK at hc
 simp only [Bool.and_eq_true] at hc
 intro d
 induction d using Nat.strongRecOn with
 | _ d ih =>
  intro j hj hlt
  have h1 := List.all_eq_true.1 hc.1 j (List.mem_range.2 hlt)
  rw [Bool.or_eq_true] at h1
  rcases h1 with h1 | h1
  ·obtain ⟨e, he, hb, rfl⟩ := mO h1
   exact ho e he hb
  ·obtain ⟨j', hj', h2⟩ := List.any_eq_true.1 h1
   have hj'l := List.mem_range.1 hj'
   simp only [Bool.and_eq_true, Nat.blt_eq] at h2
   obtain ⟨hlt2, h3⟩ := h2
   have hl' := ih (L.length - j') (by omega) j' (by omega) hj'l
   rw [List.getElem?_eq_getElem hj'l] at h3
   obtain ⟨e, he, hb, rfl⟩ := mO h3
   exact hcl j' _ (List.getElem?_eq_getElem hj'l) hl' e he hb
theorem vq {P : Program} {n m : Nat} {L : List Oper} {o : Oper} {Q : Exit → Env → World → Prop} (ho : o.guard = none) (hg : L.all (fun o => o.guard.isNone) = true) (hc : coverOK L o = true) :
  ∀ (fuel : Nat) (listed : Array Bool) (a : Act) (w : World), listed.size = L.length → Closed L listed →
   wpAny P .any L.toArray (lift n fun e ρ w => match e with | .normal => ∀ a, Rel n a ρ → o.wpIn Fence.wide m P a w (lift n Q .normal) (lift n Q) | _ => False) fuel listed a w →
   wpAnyIn Fence.wide m P .any (L ++ [o]).toArray (lift n Q) (fuel + 1) (listed.push false) a w := by
 have hlow : (∀ j oj, L[j]? = some oj → ∀ e ∈ oj.after, Region.binds .any e = true → e.on < j) ∧ ∀ e ∈ o.after, Region.binds .any e = true → e.on < L.length := by
  have hc := hc
  unfold coverOK at hc
  simp only [Bool.and_eq_true] at hc
  refine ⟨fun j oj hj => ?_, mP hc.2.2⟩
  have := List.all_eq_true.1 hc.2.1 j (List.mem_range.2 (List.getElem?_eq_some_iff.1 hj).1)
  rw [hj] at this
  exact mP this
 have eN : (L ++ [o]).toArray[L.length]? = some o := by simp
 have getP : ∀ (listed : Array Bool) (j : Nat), listed.size = L.length → (listed.push false).getD j false = listed.getD j false := fun listed j hs => by
  simp only [Array.getD_eq_getD_getElem?, Array.getElem?_push]
  split
  ·rename_i e; subst e; simp
  ·rfl
 have getT : ∀ (listed : Array Bool) (j : Nat), listed.size = L.length → j < L.length → (listed.push false).getD j true = listed.getD j true := fun listed j hs hj => by
  simp only [Array.getD_eq_getD_getElem?, Array.getElem?_push]
  rw [if_neg (by omega)]
 have tOf : ∀ (listed : Array Bool) (j : Nat), listed.size = L.length → j < L.length → listed.getD j true = true → listed.getD j false = true := fun listed j hs hj h => by
  have e : j < listed.size := by omega
  simp only [Array.getD_eq_getD_getElem?, Array.getElem?_eq_getElem e, Option.getD_some] at h ⊢; exact h
 have readyP : ∀ (listed : Array Bool) (i : Nat), listed.size = L.length → i < L.length → (i ∈ Region.ready .any (L ++ [o]).toArray (listed.push false) ↔ i ∈ Region.ready .any L.toArray listed) := fun listed i hs hi => by
  rw [mem_ready, mem_ready, getT listed i hs hi]
  have e1 : (L ++ [o]).toArray[i]? = L.toArray[i]? := by
   simp only [List.getElem?_toArray]
   rw [List.getElem?_append_left hi]
  rw [e1]
  constructor
  ·rintro ⟨h0, oi, h1, h2⟩
   exact ⟨h0, oi, h1, fun e he hb => by rw [← getP listed _ hs]; exact h2 e he hb⟩
  ·rintro ⟨h0, oi, h1, h2⟩
   exact ⟨h0, oi, h1, fun e he hb => by rw [getP listed _ hs]; exact h2 e he hb⟩
 have ltN : ∀ (listed : Array Bool) (i : Nat), i ∈ Region.ready .any (L ++ [o]).toArray listed → i < L.length ∨ i = L.length := fun listed i hi => by
  obtain ⟨_, oi, hoi, _⟩ := mem_ready.1 hi
  have := (Array.getElem?_eq_some_iff.1 hoi).1
  simp at this; omega
 have hend : ∀ (fuel : Nat) (listed : Array Bool) (a : Act) (w : World), listed.size = L.length → Region.ready .any L.toArray listed = [] →
   o.wpIn Fence.wide m P a w (lift n Q .normal) (lift n Q) → wpAnyIn Fence.wide m P .any (L ++ [o]).toArray (lift n Q) (fuel + 1) (listed.push false) a w := fun fuel listed a w hs h1 h3 => by
  have hall : ∀ j, j < L.length → listed.getD j true = true := fun j => by
   induction j using Nat.strongRecOn with
   | _ j ih =>
    intro hj
    cases hb : listed.getD j true with
    | true => rfl
    | false =>
     have : j ∈ Region.ready .any L.toArray listed := mem_ready.2 ⟨hb, L[j], by simp [hj], fun e he hbe => by
      have hlt := hlow.1 j _ (List.getElem?_eq_getElem hj) e he hbe
      exact tOf _ _ hs (by omega) (ih _ hlt (by omega))⟩
     rw [h1] at this; cases this
  have hoR : L.length ∈ Region.ready .any (L ++ [o]).toArray (listed.push false) := mem_ready.2 ⟨by simp [← hs], o, eN, fun e he hb => by
   have hlt := hlow.2 e he hb
   rw [getP listed _ hs]
   exact tOf _ _ hs hlt (hall _ hlt)⟩
  have h2 : Region.ready .any (L ++ [o]).toArray ((listed.push false).setIfInBounds L.length true) = [] := by
   rw [List.eq_nil_iff_forall_not_mem]
   intro i hi
   have h4 := (mem_ready.1 hi).1
   rcases ltN _ i hi with h5 | rfl
   ·rw [getD_set_ne true (by omega), getT listed i hs h5, hall i h5] at h4; cases h4
   ·simp [← hs] at h4
  refine ⟨fun h => (by rw [h] at hoR; cases hoR), fun i hi => ?_⟩
  obtain rfl : i = L.length := by
   rcases ltN _ i hi with h5 | h5
   ·rw [readyP listed i hs h5, h1] at hi; cases hi
   ·exact h5
  unfold wpOpIn
  rw [eN]
  simp only [Region.wanted, ho, if_true]
  refine Oper.wpIn_mono (fun a w hq => ?_) h3
  cases fuel with
  | zero => exact ⟨h2, hq⟩
  | succ f => exact ⟨fun _ => hq, fun i hi => (by rw [h2] at hi; cases hi)⟩
 intro fuel
 induction fuel with
 | zero =>
  intro listed a w hs hcl h
  obtain ⟨ρ, hr, hq⟩ := h.2
  exact hend 0 listed a w hs h.1 (hq a hr)
 | succ fuel ih =>
  intro listed a w hs hcl h
  cases hb : (Region.ready .any L.toArray listed).isEmpty with
  | true =>
   obtain ⟨ρ, hr, hq⟩ := h.1 (List.isEmpty_iff.1 hb)
   exact hend _ listed a w hs (List.isEmpty_iff.1 hb) (hq a hr)
  | false =>
   obtain ⟨i0, hi0⟩ : ∃ i0, i0 ∈ Region.ready .any L.toArray listed := by
    cases hrr : Region.ready .any L.toArray listed with
    | nil => rw [hrr] at hb; cases hb
    | cons x xs => exact ⟨x, List.mem_cons_self ..⟩
   have hlen : ∀ i, i ∈ Region.ready .any L.toArray listed → i < L.length := fun i hi => by
    obtain ⟨_, oi, hoi, _⟩ := mem_ready.1 hi
    have := (Array.getElem?_eq_some_iff.1 hoi).1
    simpa using this
   have hi0l := hlen i0 hi0
   refine ⟨fun h0 => (by have := (readyP listed i0 hs hi0l).2 hi0; rw [h0] at this; cases this), fun i hi => ?_⟩
   have hil : i < L.length := by
    rcases ltN _ i hi with h5 | rfl
    ·exact h5
    ·exfalso
     obtain ⟨_, o', ho', hdep⟩ := mem_ready.1 hi
     rw [eN] at ho'
     injection ho' with ho'
     subst ho'
     have := tg hc hcl (fun e he hb => by rw [← getP listed _ hs]; exact hdep e he hb) (L.length - i0) i0 (by omega) hi0l
     have h4 := (mem_ready.1 hi0).1
     have e : i0 < listed.size := by omega
     simp only [Array.getD_eq_getD_getElem?, Array.getElem?_eq_getElem e, Option.getD_some] at h4 this
     rw [h4] at this; cases this
   have hi' := (readyP listed i hs hil).1 hi
   have hi2 := h.2 i hi'
   obtain ⟨_, oi, hoi, hdeps⟩ := mem_ready.1 hi'
   have e1 : (L ++ [o]).toArray[i]? = some oi := by
    simp only [List.getElem?_toArray] at hoi ⊢
    rw [List.getElem?_append_left hil]; exact hoi
   have hoL : L[i]? = some oi := by simpa using hoi
   have hgi : oi.guard = none := by
    have := List.all_eq_true.1 hg oi (List.mem_of_getElem? hoL)
    simpa using this
   unfold wpOp at hi2
   unfold wpOpIn
   rw [hoi] at hi2
   rw [e1]
   simp only [Region.wanted, hgi, if_true] at hi2 ⊢
   rcases hi2 with hi2 | ⟨_, a', w', ho⟩
   ·refine wy hi2 (fun a w hk => ?_) (fun c a w hq => hq.elim) (fun ⟨a', w', ho⟩ => ho.elim)
    have hset : (listed.push false).setIfInBounds i true = (listed.setIfInBounds i true).push false := by
     apply Array.ext_getElem?
     intro j
     by_cases hj : i = j
     ·subst hj
      have l1 : i < listed.size := by omega
      rw [Array.getElem?_setIfInBounds_self_of_lt (by simp; omega), Array.getElem?_push, if_neg (by simp; omega), Array.getElem?_setIfInBounds_self_of_lt l1]
     ·simp [Array.getElem?_push, Array.getElem?_setIfInBounds_ne hj]
    rw [hset]
    refine ih _ a w (by simp [hs]) (fun j oj hj hl e he hb => ?_) hk
    by_cases hij : i = j
    ·subst hij
     rw [hoL] at hj
     injection hj with hj
     subst hj
     exact getD_set_true (hdeps e he hb)
    ·rw [getD_set_ne false hij] at hl
     exact getD_set_true (hcl j oj hj hl e he hb)
   ·exact ho.elim
theorem oX {P : Program} {n id : Nat} {L : List Oper} {Q : Exit → Env → World → Prop} {ρ : Env} {w : World} {o : Oper} {late : List Nat} {plan : List (Nat × Option Bool)} (L' : List Oper) (_k m : Nat) (S : World → Prop) (hm : P.follows .mixedOrders = true)
  (hL : L = L' ++ [o]) (ho : o.guard = none)
  (hc : (Region.noSelect L'.toArray && (L'.all (dstOK n) && (plan.length == L'.length && planOK L'.toArray late plan (Array.replicate L'.length false)))) = true)
  (hp : (L'.all (fun o => o.guard.isNone) && coverOK L' o) = true)
  (hS : S w.drew) (h : RR P S L' (fun ρ w => ∀ a, Rel n a ρ → o.wpIn Fence.wide m P a w (lift n Q .normal) (lift n Q)) (planOps L' plan) ρ w.drew) : CW P n (.region id L.toArray true) Q ρ w := by
 subst hL
 simp only [Bool.and_eq_true, beq_iff_eq] at hc hp
 obtain ⟨h1, h2, h3, h4⟩ := hc
 unfold CW
 intro a hr
 refine (wpIn_wide (n := m)).1 (wpIn_region_any hm ?_)
 have h5 := fq (Q := fun e ρ w => match e with | .normal => ∀ a, Rel n a ρ → o.wpIn Fence.wide m P a w (lift n Q .normal) (lift n Q) | _ => False) h1 h2 plan (Array.replicate L'.length false) ρ a w.drew hr h4 (fun _ => hS) h
 rw [h3] at h5
 have h6 := vq (P := P) (m := m) (Q := Q) ho hp.1 hp.2 L'.length (Array.replicate L'.length false) a w.drew (by simp) (fun j oj _ hl => by simp only [Array.getD_eq_getD_getElem?, Array.getElem?_replicate] at hl; split at hl <;> cases hl) (dF _ _ _ _ h5)
 have e : (L' ++ [o]).toArray.size = L'.length + 1 := by simp
 rw [e, Array.replicate_succ]
 exact h6
theorem vt {P : Program} {n m l : Nat} {Q : Exit → Env → World → Prop} {a : Act} {ρ : Env} {w : World} {d : Nat} {x : Operand} {args : List Operand} {ts : Array TypeId} {T : TypeId} {pos : String} {af : Array Edge} {vals : Array Value} {v : Value} {R : World → Prop}
  (hr : Rel n a ρ) (hd : Nat.blt d n = true) (hx : ev ρ x = .func (.yield l) #[] #[]) (ha : (args.map (ev ρ)).toArray = vals) (hy : YieldAt Fence.wide m P l vals w fun e w' => e = .returned v ∧ R w') (h : ∀ w', R w' → Q .normal (upd ρ d v) w') :
  (⟨some d, .call { callee := .value x, args := args.toArray, argTypes := ts }, T, pos, af, none⟩ : Oper).wpIn Fence.wide 0 P a w (lift n Q .normal) (lift n Q) := by
 refine ⟨fun _ _ => trivial, ?_⟩
 obtain ⟨fn, tmps, assign, body, hrun, hround⟩ := hy
 have hev : a.eval = ev ρ := hr.ev
 have hva : (args.toArray.map (ev ρ)) = vals := by rw [← ha, List.map_toArray]
 have e : ((⟨some d, .call { callee := .value x, args := args.toArray, argTypes := ts }, T, pos, af, none⟩ : Oper).semAt Fence.wide.round a.eval).run P w = .ok (.round l fn tmps assign body) w := by
  rw [show Fence.wide.round = none from rfl, Oper.semAt_none, hev]
  simp [execOp, resolve, invoke, hx, hva, go_sem, hrun]
 rw [e]
 refine ⟨fun hd => (by cases hd), RoundIn.mono (n := 0 - 1) ⟨hround.1, fun c cs _ => hround.2 c cs (room_wide _)⟩ ?_⟩
 rintro e w' ⟨rfl, hR⟩
 exact ⟨_, hr.put (Nat.blt_eq ▸ hd : d < n) v, h _ hR⟩
theorem RR.imp {P : Program} {S : World → Prop} {ops : List Oper} {K K' : Env → World → Prop} (hk : ∀ ρ w, K ρ w → K' ρ w) : ∀ {l : List (Oper × Option Bool)} {ρ : Env} {w : World}, RR P S ops K l ρ w → RR P S ops K' l ρ w
 | [], ρ, w, h => by unfold RR at h ⊢; exact hk _ _ h
 | (o, b) :: l, ρ, w, h => by
  unfold RR at h ⊢
  split
  ·rename_i hw
   rw [if_pos hw] at h
   cases b with
   | none =>
    obtain ⟨v, h1, h2⟩ := h
    exact ⟨v, h1, RR.imp hk h2⟩
   | some kf =>
    have h : OpW P o ρ w fun v w' => (kf = true → S w → S w') ∧ RR P S ops K l (updO ρ o.dst v) w' := h
    show OpW P o ρ w fun v w' => (kf = true → S w → S w') ∧ RR P S ops K' l (updO ρ o.dst v) w'
    unfold OpW at h ⊢
    generalize (execOp (ev ρ) o).run P w = r at *
    cases r with
    | halt x w' => exact h
    | ok x w' =>
     cases x <;> first|exact h.elim | skip
     case value v => exact ⟨h.1, RR.imp hk h.2⟩
     case skip => exact ⟨h.1, RR.imp hk h.2⟩
     case enter f args => exact CallsR.mono h fun v w' hq => ⟨hq.1, RR.imp hk hq.2⟩
  ·rename_i hw
   rw [if_neg hw] at h
   exact RR.imp hk h
theorem ni {P : Program} {n id d : Nat} {L : List Oper} {Q : Exit → Env → World → Prop} {ρ : Env} {w : World} {x : Operand} {args : List Operand} {ts : Array TypeId} {T : TypeId} {pos : String} {af : Array Edge} {late : List Nat} {plan : List (Nat × Option Bool)} (k : Nat) (S : World → Prop) (hm : P.follows .mixedOrders = true)
  (ho : L[k]? = some ⟨some d, .call { callee := .value x, args := args.toArray, argTypes := ts }, T, pos, af, none⟩) (hk : L.length = k + 1) (hd : Nat.blt d n = true)
  (hc : (Region.noSelect (L.take k).toArray && ((L.take k).all (dstOK n) && (plan.length == (L.take k).length && planOK (L.take k).toArray late plan (Array.replicate (L.take k).length false)))) = true)
  (hp : ((L.take k).all (fun o => o.guard.isNone) && coverOK (L.take k) ⟨some d, .call { callee := .value x, args := args.toArray, argTypes := ts }, T, pos, af, none⟩) = true)
  (hS : S w.drew) (h : RR P S (L.take k) (fun ρ w => ∃ (l m : Nat) (vals : Array Value) (v : Value) (R : World → Prop), ev ρ x = .func (.yield l) #[] #[] ∧ (args.map (ev ρ)).toArray = vals ∧ YieldAt Fence.wide m P l vals w (fun e w' => e = .returned v ∧ R w') ∧
   ∀ w', R w' → Q .normal (upd ρ d v) w') (planOps (L.take k) plan) ρ w.drew) : CW P n (.region id L.toArray true) Q ρ w := by
 have hlt : k < L.length := by omega
 have hL : L = L.take k ++ [⟨some d, .call { callee := .value x, args := args.toArray, argTypes := ts }, T, pos, af, none⟩] := by
  have h1 := (List.take_append_drop k L).symm
  rw [List.drop_eq_getElem_cons hlt, List.drop_eq_nil_of_le (show L.length ≤ k + 1 by omega)] at h1
  rw [List.getElem?_eq_getElem hlt] at ho
  injection ho with ho
  rw [ho] at h1
  exact h1
 refine oX (L.take k) k 0 S hm hL rfl hc hp hS (RR.imp ?_ h)
 rintro ρ w ⟨l, m, vals, v, R, hx, ha, hy, hn⟩ a hr
 exact vt (m := m) hr hd hx ha hy hn
end Go.W
namespace Go.Proofs.YtpfhfldehaiokaaGreat
open Go.W Go.LM Go.LA
theorem rf {n lo up gw gx cm l : Nat} {A : Mat} {C : Int} {am : Option Addr} {sl : SD} {S : Nat → SD} {F0 : Nat → Prop} {J : List (Nat × Int) → World → Prop} {L : List (Nat × Int)} (hW : Wk n A C)
  (hF : ∀ g, F0 g → g < lo ∨ up ≤ g) (hJ : ∀ pre w w', J pre w → Fr (fun g => g = gx) w w' → J pre w')
  (hY : ∀ pre e w, J pre w → (∃ suf, pre ++ [e] ++ suf = L) → ∃ m, YieldAt Fence.wide m Tryz.prog l #[.int .i64 ((e.1 : Nat) : Int), .int .i64 e.2] w fun r w' => r = .returned (.bool true) ∧ (J (pre ++ [e]) w' ∧ Fr F0 w w')) (k : Nat) :
  ∀ (x : Vec) (pre : List (Nat × Int)) (w : World), k < n → 0 ≤ rs n A C (k + 1) x → (∃ suf, pre ++ evs n A C k x ++ suf = L) → J pre w → WM w lo up gw gx n A C am cm sl S → Blk w gx 2 (intC n x) →
   CallsR Tryz.prog 100 #[.pointer (some ⟨gw, 0, none⟩), .int .i64 (k : Int), .int .i64 (rs n A C (k + 1) x), .func (.yield l) #[] #[]] w fun v w' =>
    v = .bool true ∧ J (pre ++ evs n A C k x) w' ∧ Fr (fun g => F0 g ∨ g = gx) w w' ∧ ∃ y, Blk w' gx 2 (intC n y) ∧ ∀ j, k < j → j < n → y j = x j := by
 induction k using Nat.strongRecOn with
 | _ k ih =>
 intro x pre w hk hr hL hJ0 hM hX
 obtain ⟨suf, hsuf⟩ := hL
 have hn := hW.hn
 have hd0 := hW.pos (k + 1) (by omega)
 have hd1 := hW.lt (k + 1) (by omega)
 have he0 := hW.pos k (by omega)
 have he1 := hW.lt k (by omega)
 have hR1 := hW.rb (show k + 1 ≤ n by omega) x
 have hq0 := hW.sq_nn hk hr
 have hq1 := hW.sqb hk x
 have hqe : sqv n A C k x = det k A * rs n A C (k + 1) x := rfl
 have hr0 := kp (sqv n A C k x)
 have hr2 := hW.rsq hk hr
 have hsb := hW.sb hk hr
 have hpm : W.plain am := hM.mn.plain (by rw [bU]; omega)
 have hpl : W.plain sl.a := hM.la.plain (by rw [cv]; omega)
 have hMr := hM.row k hk
 have eS : S k = ⟨(S k).a, n - k - 1, (S k).cap⟩ := by rw [← hMr.1]
 refine aE (args := [_, _, _, _]) Tryz.func100 rfl rfl ?_
 repeat' (first|refine bZ rfl ?_|refine aP (g := gw) rfl hM.st rfl ?_|refine dM (m := k) (m' := 1) rfl rfl (by omega) ?_|refine az (j := k + 1) (a := am) rfl rfl hpm (by omega) ?_|refine bu (j := k + 1) (n := n + 1) (f := fun i => det i A) (a := am) rfl hM.mn (by omega) ?_|refine az (j := k) (a := sl.a) rfl rfl hpl (by omega) ?_|refine aZ (j := k) (a := sl.a) (n := n) (s := S) rfl hM.la (by omega) eS ?_|refine aj rfl ?_|refine aa ?_|refine ak ?_|refine ai rfl ?_|refine ah ?_|refine bc rfl ?_|refine aM rfl ?_|refine ay ?_)
 refine aW (ι := Nat) [10, 11, 12, 35, 36, 37, 38, 39, 40, 41, 42, 43, 44, 45, 46, 47, 48, 49, 50, 51, 52, 53, 54] (fun i => [(35, .int .i64 (i : Int)), (10, .int .i64 (sm i fun j => Go.LA.bm A k k (k + 1 + j) * x (k + 1 + j)))])
  (fun i w' => i ≤ n - k - 1 ∧ w' = w) (fun i => n - k - 1 - i) 0 ⟨rfl, rfl, trivial⟩ ⟨by omega, rfl⟩ ?_
 rintro i ξ w' ⟨hi, rfl⟩
 show CW _ _ _ _ (over [(35, .int .i64 (i : Int)), (10, .int .i64 (sm i fun j => Go.LA.bm A k k (k + 1 + j) * x (k + 1 + j)))] _) w'
 rcases Nat.lt_or_ge i (n - k - 1) with him | him
 ·have hps : W.plain (S k).a := hMr.2.plain (by rw [bU]; omega)
  have ht := hW.term hk hr him
  have hs := qg (n := i) (f := fun j => Go.LA.bm A k k (k + 1 + j) * x (k + 1 + j)) (M := 294912) fun j hj => hW.term hk hr (by omega)
  have hi2 : (i : Int) * 294912 ≤ 884736 := by omega
  repeat' (first|refine bq rfl rfl (by omega) ?_|refine az (j := i) (a := (S k).a) rfl rfl hps (by omega) ?_|refine bu (j := i) (n := n - k - 1) (f := fun j => Go.LA.bm A k k (k + 1 + j)) (a := (S k).a) rfl hMr.2 him ?_|refine bZ rfl ?_|refine aP (g := gw) rfl hM.st rfl ?_|refine dM (m := k) (m' := 1) rfl rfl (by omega) ?_|refine dM (m := k + 1) (m' := i) rfl rfl (by omega) ?_|refine az (j := k + 1 + i) (a := some ⟨gx, 0, none⟩) rfl rfl ⟨_, _, rfl⟩ (by omega) ?_|refine bu (j := k + 1 + i) (n := n) (f := x) (a := some ⟨gx, 0, none⟩) rfl hX.sl (by omega) ?_|refine cP rfl rfl (by omega) (by omega) ?_|refine aV rfl rfl (by omega) (by omega) ?_|refine aj rfl ?_|refine aa ?_|refine ak ?_|refine ai rfl ?_|refine ah ?_|refine aM rfl ?_|refine aA rfl ?_|refine ay ?_|refine aJ ?_|refine aC ?_)
  exact ⟨⟨i + 1, ⟨by omega, rfl⟩, by omega, rfl, rfl, trivial⟩, (by (repeat (first|exact aG _ _ _|refine aB rfl ?_|refine ax rfl ?_|refine av rfl ?_|refine aw rfl ?_)))⟩
 obtain rfl : i = n - k - 1 := by omega
 have hshe : (sm (n - k - 1) fun j => Go.LA.bm A k k (k + 1 + j) * x (k + 1 + j)) = shv n A k x := rfl
 rw [hshe]
 repeat' (first|refine bp rfl rfl (by omega) ?_|refine bZ rfl ?_|refine aP (g := gw) rfl hM.st rfl ?_|refine az (j := k) (a := am) rfl rfl hpm (by omega) ?_|refine bu (j := k) (n := n + 1) (f := fun i => det i A) (a := am) rfl hM.mn (by omega) ?_|refine cP rfl rfl (by omega) (by omega) ?_|refine aj rfl ?_|refine aa ?_|refine ak ?_|refine ai rfl ?_|refine ah ?_|refine aM rfl ?_|refine ao rfl ?_|refine aT ?_|refine aO ?_|refine aU ?_)
 have harg : (#[Value.int .i64 (det k A * rs n A C (k + 1) x)] : Array Value) = #[.int .i64 (((sqv n A C k x).toNat : Nat) : Int)] := by rw [Int.toNat_of_nonneg hq0]; rfl
 refine au (nV (a := (sqv n A C k x).toNat) (by omega) w') harg ?_
 rintro v w3 ⟨hv, rfl⟩
 refine ⟨fun _ _ => trivial, ?_⟩
 obtain rfl : v = .int .i64 (rtI (sqv n A C k x)) := hv
 repeat' (first|refine aj rfl ?_|refine aa ?_|refine ak ?_|refine ai rfl ?_|refine ah ?_|refine aV rfl rfl (by omega) (by omega) ?_)
 refine au (mJ (a := rtI (sqv n A C k x) + shv n A k x) (b := det (k + 1) A) hd0 (by omega) w3) rfl ?_
 rintro v w4 ⟨rfl, rfl⟩
 refine ⟨fun _ _ => trivial, ?_⟩
 have hlo9 := hW.lo9 hk hr
 have hhi9 := hW.hi9 hk hr
 have hc0 := hW.cnt0 hk x
 have hc9 := hW.cnt19 hk hr
 have elo : -((rtI (sqv n A C k x) + shv n A k x) / det (k + 1) A) = loV n A C k x := rfl
 have ehi : (rtI (sqv n A C k x) - shv n A k x) / det (k + 1) A = hiV n A C k x := rfl
 have ecn : cntV n A C k x = hiV n A C k x - loV n A C k x + 1 := rfl
 repeat' (first|refine jy rfl (by omega) ?_|refine aj rfl ?_|refine bK rfl rfl (by omega) (by omega) ?_)
 refine au (mJ (a := rtI (sqv n A C k x) - shv n A k x) (b := det (k + 1) A) hd0 (by omega) w4) rfl ?_
 rintro v w5 ⟨rfl, rfl⟩
 refine ⟨fun _ _ => trivial, ?_⟩
 rw [elo, ehi]
 refine aj rfl ?_
 refine aj rfl ?_
 refine ah ?_
 refine aa ?_
 refine ak ?_
 refine ak ?_
 refine kT 12 (by rfl) (by rfl) ?_
 repeat' (first|refine bZ rfl ?_|refine aP (g := gw) rfl hM.st rfl ?_|refine aj rfl ?_|refine ah ?_|refine bc rfl ?_|refine aV rfl rfl (by omega) (by omega) ?_|refine bK rfl rfl (by omega) (by omega) ?_|refine aM rfl ?_)
 have eev : ∃ r, evs n A C k x = (n - k, cntV n A C k x) :: r := by
  cases k with
  | zero => exact ⟨[], rfl⟩
  | succ k => exact ⟨_, rfl⟩
 obtain ⟨er, eev⟩ := eev
 obtain ⟨my, hy⟩ := hY pre (n - k, cntV n A C k x) w5 hJ0 ⟨er ++ suf, by rw [← hsuf, eev]; simp⟩
 have hnk : ((n - k : Nat) : Int) = (n : Int) - (k : Int) := by omega
 refine ⟨l, my, _, _, _, rfl, ?_, hy, ?_⟩
 ·show #[Value.int .i64 ((n : Int) - (k : Int)), Value.int .i64 (hiV n A C k x - loV n A C k x + 1)] = _
  rw [← hnk]; rfl
 rintro w6 ⟨hJ6, hF6⟩
 have hFr6 : Fr (fun g => F0 g ∨ g = gx) w5 w6 := hF6.mono fun g _ h => .inl h
 have hFs : ∀ g, (F0 g ∨ g = gx) → (g < lo ∨ up ≤ g) ∨ g = gx := fun g hg => hg.imp (hF g) id
 have hM6 := hM.fr hFr6 hFs
 have hbx := hM.bx
 have hX6 : Blk w6 gx 2 (intC n x) := hX.fr hF6 (fun h => by have := hF _ h; omega)
 by_cases hk0 : k = 0
 ·subst hk0
  repeat' (first|refine eV rfl rfl rfl ?_|refine aj rfl ?_|refine aa ?_|refine ak ?_|refine ai rfl ?_|refine ah ?_|refine aA rfl ?_|refine ao rfl ?_|refine aK ?_|refine bf ?_|refine aC ?_)
  exact bo rfl (rt rfl) ⟨rfl, hJ6, hFr6, x, hX6, fun j _ _ => rfl⟩
 obtain ⟨k', rfl⟩ : ∃ k', k = k' + 1 := ⟨k - 1, by omega⟩
 repeat' (first|refine eH rfl rfl (by omega) ?_|refine aj rfl ?_|refine aa ?_|refine ak ?_|refine ai rfl ?_|refine ah ?_|refine ao rfl ?_|refine ay ?_|refine aC ?_)
 have hev : evs n A C (k' + 1) x = (n - (k' + 1), cntV n A C (k' + 1) x) :: (rg (loV n A C (k' + 1) x) (hiV n A C (k' + 1) x)).flatMap fun c => evs n A C k' (setF x (k' + 1) c) := rfl
 refine aW (ι := Int × Vec) [8, 17, 18, 94, 95, 96, 97, 98, 99, 100, 101, 102, 103, 104, 105, 106, 107, 108, 109, 110, 111, 112, 113, 114, 115, 116, 117, 118, 119, 120, 121, 122, 123] (fun t => [(17, .int .i64 t.1)])
  (fun t w' => (loV n A C (k' + 1) x ≤ t.1 ∧ t.1 ≤ hiV n A C (k' + 1) x + 1) ∧ J (pre ++ ((n - (k' + 1), cntV n A C (k' + 1) x) :: (rg (loV n A C (k' + 1) x) (t.1 - 1)).flatMap fun c => evs n A C k' (setF x (k' + 1) c))) w' ∧ Fr (fun g => F0 g ∨ g = gx) w5 w' ∧
   Blk w' gx 2 (intC n t.2) ∧ ∀ j, k' + 1 < j → j < n → t.2 j = x j) (fun t => (hiV n A C (k' + 1) x + 1 - t.1).toNat)
  (loV n A C (k' + 1) x, x) ⟨rfl, trivial⟩ ⟨⟨Int.le_refl _, by simp only; omega⟩, by simp only; rw [q5 (by omega)]; exact hJ6, hFr6, hX6, fun j _ _ => rfl⟩ ?_
 rintro ⟨c, y⟩ ξ1 w7 ⟨⟨hc1, hc2⟩, hJ7, hF7, hX7, hy7⟩
 simp only at hc1 hc2 hJ7 hX7 hy7
 show CW _ _ _ _ (over [(17, .int .i64 c)] _) w7
 have hM7 := hM.fr hF7 hFs
 rcases Int.lt_or_le (hiV n A C (k' + 1) x) c with hch | hch
 ·obtain rfl : c = hiV n A C (k' + 1) x + 1 := by omega
  repeat' (first|refine fd rfl rfl (by omega) ?_|refine aj rfl ?_|refine aa ?_|refine ak ?_|refine ai rfl ?_|refine ah ?_|refine ao rfl ?_|refine aT ?_|refine aO ?_|refine aU ?_|refine aK ?_)
  refine bo rfl (rt rfl) ⟨rfl, ?_, hF7, y, hX7, hy7⟩
  rw [hev]
  rwa [show hiV n A C (k' + 1) x + 1 - 1 = hiV n A C (k' + 1) x by omega] at hJ7
 ·have hag : ∀ j, k' + 1 < j → j < n → setF y (k' + 1) c j = x j := fun j hj hjn => by rw [aN _ _ (by omega)]; exact hy7 j hj hjn
  have hx' : 0 ≤ rs n A C (k' + 1) (setF y (k' + 1) c) := (hW.in_iff hk hr hag).2 (by rw [aI]; exact ⟨hc1, hch⟩)
  have hst := hW.rstep hk (setF y (k' + 1) c)
  rw [gQ hag, gP hag, aI] at hst
  have hdc := hW.dcb (show k' + 1 + 1 ≤ n by omega) (c := c) (by omega)
  have hu0 := Go.LA.sq_nn (det (k' + 1 + 1) A * c + shv n A (k' + 1) x)
  have hu1 := Int.mul_nonneg hx' (Int.le_of_lt hd0)
  have hrb := hW.rb (show k' + 1 ≤ n by omega) (setF y (k' + 1) c)
  have ek : (((k' + 1 : Nat) : Int) - 1) = (k' : Int) := by omega
  rw [hqe] at hst
  repeat' (first|refine fz rfl rfl hch ?_|refine bZ rfl ?_|refine aP (g := gw) rfl hM7.st rfl ?_|refine az (j := k' + 1) (a := some ⟨gx, 0, none⟩) rfl rfl ⟨_, _, rfl⟩ (by omega) ?_|refine aj rfl ?_|refine aa ?_|refine ak ?_|refine ai rfl ?_|refine ah ?_|refine aM rfl ?_|refine aA rfl ?_|refine ay ?_|refine aC ?_)
  refine cT (j := k' + 1) (n := n) (f := y) (u := c) rfl rfl hX7 hk (fun w8 hc8 hb8 => ⟨fun _ _ => trivial, ?_⟩)
  repeat' (first|refine cP rfl rfl (by omega) (by omega) ?_|refine jx rfl rfl hst.symm hd0 (by omega) ?_|refine aj rfl ?_|refine aa ?_|refine ak ?_|refine ai rfl ?_|refine ah ?_|refine aV rfl rfl (by omega) (by omega) ?_|refine bK rfl rfl (by omega) (by omega) ?_)
  have hfc : evs n A C k' (setF x (k' + 1) c) = evs n A C k' (setF y (k' + 1) c) := nW fun j hj hjn => by
   by_cases e : j = k' + 1
   ·subst e; rw [aI, aI]
   ·rw [aN _ _ e, aN _ _ e]; exact (hy7 j (by omega) hjn).symm
  have hsn : rg (loV n A C (k' + 1) x) c = rg (loV n A C (k' + 1) x) (c - 1) ++ [c] := jW hc1
  have hFc : Fr (fun g => F0 g ∨ g = gx) w7 w8 := hc8.fr (.inr rfl)
  have hJ8 := hJ _ _ _ hJ7 (hc8.fr rfl)
  have hvis := ih k' (by omega) (setF y (k' + 1) c) _ w8 (by omega) hx' ⟨(rg (c + 1) (hiV n A C (k' + 1) x)).flatMap (fun c => evs n A C k' (setF x (k' + 1) c)) ++ suf, by
   rw [← hsuf, hev, ra (hiV n A C (k' + 1) x - c).toNat (lo := loV n A C (k' + 1) x) (hi := hiV n A C (k' + 1) x) (c := c) (by omega) (by omega), hsn, ← hfc]
   simp⟩ hJ8 (hM7.fr hFc hFs) hb8
  refine au hvis (by
   show #[Value.pointer (some ⟨gw, 0, none⟩), Value.int .i64 (((k' + 1 : Nat) : Int) - 1), Value.int .i64 (rs n A C (k' + 1) (setF y (k' + 1) c)), Value.func (.yield l) #[] #[]] = _
   rw [ek]) ?_
  rintro v w9 ⟨rfl, hJ9, hF9, y', hX9, hy9⟩
  refine ⟨fun _ _ => trivial, ?_⟩
  repeat' (first|refine aj rfl ?_|refine aa ?_|refine ai rfl ?_|refine ah ?_|refine aV rfl rfl (by omega) (by omega) ?_|refine ao rfl ?_|refine aJ ?_|refine aC ?_)
  refine ⟨⟨(c + 1, y'), ⟨⟨by simp only; omega, by simp only; omega⟩, ?_, (hF7.trans hFc).trans hF9, hX9, fun j hj hjn => ?_⟩, by simp only; omega, rfl, trivial⟩, (by (repeat (first|exact aG _ _ _|refine aB rfl ?_|refine ax rfl ?_|refine av rfl ?_|refine aw rfl ?_)))⟩
  ·simp only
   rw [show c + 1 - 1 = c by omega, hsn, List.flatMap_append]
   rw [← hfc] at hJ9
   simpa using hJ9
  ·simp only
   rw [hy9 j (by omega) hjn]; exact hag j hj hjn
end Go.Proofs.YtpfhfldehaiokaaGreat
