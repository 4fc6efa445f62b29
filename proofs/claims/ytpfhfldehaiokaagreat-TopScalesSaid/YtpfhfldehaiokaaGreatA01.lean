import Derived.OrdersHeld
import Derived.Below
namespace Go.W
theorem tvv {p q X : Prop} (h : X) : (p → q → True) ∧ X := ⟨fun _ _ => trivial, h⟩
theorem fms {α : Type _} {p : α → Prop} {a : α} : (∀ x ∈ [a], p x) ↔ p a := List.forall_mem_singleton
abbrev Env := Nat → Value
def upd (ρ : Env) (d : Nat) (v : Value) : Env := fun t => bif Nat.beq t d then v else ρ t
def updO (ρ : Env) (d : Option Nat) (v : Value) : Env := match d with | some d => upd ρ d v | none => ρ
def ev (ρ : Env) : Operand → Value
 | .tmp t => ρ t
 | .const v => v
 | .global g => .pointer (some ⟨g, 0, none⟩)
 | .func f => .func (.func f) #[] #[]
theorem eR (ρ : Env) (d : Nat) (v : Value) : upd ρ d v d = v := by simp [upd]
theorem qq (ρ : Env) {d t : Nat} (v : Value) (h : t ≠ d) : upd ρ d v t = ρ t := by
 have : Nat.beq t d = false := by cases hb : Nat.beq t d with | false => rfl | true => exact absurd (Nat.eq_of_beq_eq_true hb) h
 simp [upd, this]
theorem qr (ρ : Env) {d : Nat} {v : Value} (h : ρ d = v) : upd ρ d v = ρ := by
 funext t
 by_cases ht : t = d
 ·subst ht; rw [eR, h]
 ·exact qq ρ v ht
structure Rel (n : Nat) (a : Act) (ρ : Env) : Prop where
 size : a.tmps.size = n
 get : ∀ t, a.tmps.getD t undef = ρ t
 defers : a.defers = []
theorem Rel.ev {n : Nat} {a : Act} {ρ : Env} (h : Rel n a ρ) : a.eval = ev ρ := by
 funext x; cases x <;> simp [Act.eval, W.ev, ← h.get]
theorem Rel.put {n : Nat} {a : Act} {ρ : Env} (h : Rel n a ρ) {d : Nat} (hd : d < n) (v : Value) : Rel n (a.put (some d) v) (upd ρ d v) := by
 refine ⟨by simp [Act.put, h.size], fun t => ?_, h.defers⟩
 by_cases ht : t = d
 ·subst ht; rw [eR]; simp [Act.put, h.size, hd]
 ·rw [qq _ _ ht, ← h.get]; simp [Act.put, Array.getElem?_setIfInBounds_ne (Ne.symm ht)]
def dstOK (n : Nat) (o : Oper) : Bool := match o.dst with | some d => Nat.blt d n | none => true
theorem Rel.putO {n : Nat} {a : Act} {ρ : Env} (h : Rel n a ρ) {o : Oper} (hd : dstOK n o = true) (v : Value) : Rel n (a.put o.dst v) (updO ρ o.dst v) := by
 unfold dstOK at hd
 split at hd
 ·rename_i d e; rw [e]; exact h.put (by simpa [Nat.blt_eq] using hd) v
 ·rename_i e; rw [e]; exact h
def wantedE (ops : List Oper) (ρ : Env) (o : Oper) : Bool :=
 match o.guard with
 | none => true
 | some (j, want) => match (ops[j]?).bind (·.dst) with
  | some t => (match ρ t with | .bool b => b == want | _ => false)
  | none => false
theorem Rel.wanted {n : Nat} {a : Act} {ρ : Env} (h : Rel n a ρ) (ops : List Oper) (o : Oper) :
  Region.wanted o (yielded ops.toArray a.tmps) = wantedE ops ρ o := by
 unfold Region.wanted wantedE
 cases hg : o.guard with
 | none => rfl
 | some p =>
  obtain ⟨j, want⟩ := p
  simp only [yielded, List.getElem?_toArray]
  cases ht : (ops[j]?).bind (·.dst) with
  | none => simp
  | some t =>
   simp only [Option.bind_some]
   have hg := h.get t
   by_cases hlt : t < a.tmps.size
   ·have e : a.tmps[t]? = some (ρ t) := by rw [← hg]; simp [hlt]
    rw [e]
    cases ρ t <;> first|rfl|(simp; done)
   ·have e : a.tmps[t]? = none := Array.getElem?_eq_none (Nat.le_of_not_lt hlt)
    have e2 : ρ t = undef := by rw [← hg]; simp [e]
    rw [e, e2]; rfl
def CallsR (P : Program) (f : FuncId) (args : Array Value) (w : World) (R : Value → World → Prop) : Prop :=
 Calls P f args w fun e w' => ∃ v, e = .returned v ∧ R v w'
theorem CallsR.mono {P : Program} {f : FuncId} {args : Array Value} {w : World} {R R' : Value → World → Prop} (h : CallsR P f args w R)
  (hr : ∀ v w', R v w' → R' v w') : CallsR P f args w R' :=
 Calls.mono h fun _ _ ⟨v, he, hR⟩ => ⟨v, he, hr _ _ hR⟩
def OpW (P : Program) (o : Oper) (ρ : Env) (w : World) (next : Value → World → Prop) : Prop :=
 match (execOp (ev ρ) o).run P w with
 | .ok (.value v) w' => next v w'
 | .ok .skip w' => next undef w'
 | .ok (.enter f args) w' => CallsR P f args w' next
 | _ => False
def isRd (o : Oper) : Bool := match o.op with | .load .. => true | .lookup .. => true | _ => false
def flagged (b : Option Bool) (A : Prop) (B : Bool → Prop) : Prop := match b with | none => A | some k => B k
def RR (P : Program) (S : World → Prop) (ops : List Oper) (K : Env → World → Prop) : List (Oper × Option Bool) → Env → World → Prop
 | [], ρ, w => K ρ w
 | (o, b) :: rest, ρ, w =>
  if wantedE ops ρ o then
   flagged b (∃ v, (∀ w', (isRd o = true → S w') → (execOp (ev ρ) o).run P w' = .ok (.value v) w') ∧ RR P S ops K rest (updO ρ o.dst v) w)
    (fun k => OpW P o ρ w fun v w' => (k = true → S w → S w') ∧ RR P S ops K rest (updO ρ o.dst v) w')
  else RR P S ops K rest (updO ρ o.dst undef) w
def lift (n : Nat) (Q : Exit → Env → World → Prop) : Exit → Act → World → Prop
 | .panic _, _, _ => False
 | .outgrown, _, _ => False
 | e, a, w => ∃ ρ, Rel n a ρ ∧ Q e ρ w
def CW (P : Program) (n : Nat) (c : Code) (Q : Exit → Env → World → Prop) (ρ : Env) (w : World) : Prop :=
 ∀ a, Rel n a ρ → c.wp P (lift n Q) a w
theorem OpW.wp {P : Program} {o : Oper} {n : Nat} {a : Act} {ρ : Env} {w : World} {next : Value → World → Prop} {K : Act → World → Prop} {Q : Exit → Env → World → Prop}
  (hr : Rel n a ρ) (h : OpW P o ρ w next) (hk : ∀ v w', next v w' → K (a.put o.dst v) w') : o.wp P a w K (lift n Q) := by
 unfold Oper.wp
 unfold OpW at h
 rw [hr.ev]
 generalize (execOp (W.ev ρ) o).run P w = r at *
 cases r with
 | ok x w' =>
  cases x <;> simp only [] at h <;> simp only [Oper.upon]
  case value v => exact hk _ _ h
  case skip => exact hk _ _ h
  case enter f args => exact Calls.mono h fun e w'' ⟨v, he, hn⟩ => by subst he; exact hk _ _ hn
 | halt x w' => simp only [] at h
theorem RR.wpList {P : Program} {n : Nat} {ops : List Oper} {Q : Exit → Env → World → Prop} :
  ∀ (l : List Oper) (ρ : Env) (a : Act) (w : World), Rel n a ρ → l.all (dstOK n) = true →
   RR P (fun _ => True) ops (Q .normal) (l.map (·, some false)) ρ w → wpList P ops.toArray (lift n Q) l a w
 | [], ρ, a, w, hr, _, h => ⟨ρ, hr, h⟩
 | o :: l, ρ, a, w, hr, hd, h => by
  simp only [List.all_cons, Bool.and_eq_true] at hd
  unfold Go.wpList
  simp only [List.map_cons, RR] at h
  rw [hr.wanted]
  split
  ·rename_i hw
   rw [if_pos hw] at h
   exact .inl (OpW.wp hr h fun v w' hn => RR.wpList l _ _ _ (hr.putO hd.1 v) hd.2 hn.2)
  ·rename_i hw
   rw [if_neg hw] at h
   exact RR.wpList l _ _ _ (hr.putO hd.1 undef) hd.2 h
section
variable {P : Program} {n : Nat} {Q : Exit → Env → World → Prop} {ρ : Env} {w : World}
def thenE (next : Env → World → Prop) (Q : Exit → Env → World → Prop) : Exit → Env → World → Prop
 | .normal, ρ, w => next ρ w
 | e, ρ, w => Q e ρ w
def inB (id : Nat) (Q : Exit → Env → World → Prop) : Exit → Env → World → Prop
 | .exit id', ρ, w => if id' = id then Q .normal ρ w else Q (.exit id') ρ w
 | e, ρ, w => Q e ρ w
theorem CW.mono {c : Code} {Q' : Exit → Env → World → Prop} (h : CW P n c Q ρ w) (hq : ∀ e ρ w, Q e ρ w → Q' e ρ w) : CW P n c Q' ρ w := fun a hr =>
 wp_mono (h a hr) fun e a w q => by
  cases e <;> simp only [lift] at q ⊢ <;> (obtain ⟨ρ, hr, q⟩ := q; exact ⟨ρ, hr, hq _ _ _ q⟩)
theorem ak {x y : Code} (h : CW P n x (thenE (CW P n y Q) Q) ρ w) : CW P n (.seq x y) Q ρ w := fun a hr =>
 wp_seq (wp_mono (h a hr) fun e a w q => by
  cases e <;> simp only [lift, thenE, Exit.then] at q ⊢
  case normal => obtain ⟨ρ, hr, q⟩ := q; exact q a hr
  all_goals exact q)
theorem aC (h : Q .normal ρ w) : CW P n .skip Q ρ w := fun _ hr => wp_skip ⟨ρ, hr, h⟩
theorem aK (h : Q .ret ρ w) : CW P n .ret Q ρ w := fun _ hr => wp_ret ⟨ρ, hr, h⟩
theorem aT {id : Nat} (h : Q (.exit id) ρ w) : CW P n (.exit id) Q ρ w := fun _ hr => wp_exit ⟨ρ, hr, h⟩
theorem ay {id : Nat} {c : Code} (h : CW P n c (inB id Q) ρ w) : CW P n (.block id c) Q ρ w := fun a hr =>
 wp_block (wp_mono (h a hr) fun e a w q => by
  cases e <;> simp only [lift, inB, Exit.inBlock] at q ⊢
  case exit id' =>
   obtain ⟨ρ, hr, q⟩ := q
   split
   ·rename_i e; rw [if_pos e] at q; exact ⟨ρ, hr, q⟩
   ·rename_i e; rw [if_neg e] at q; exact ⟨ρ, hr, q⟩
  all_goals exact q)
theorem gT {c : Operand} {x y : Code} {t : Bool} (hc : ev ρ c = .bool t) (ht : t = true → CW P n x Q ρ w) (hf : t = false → CW P n y Q ρ w) :
  CW P n (.cond c x y) Q ρ w := fun a hr =>
 wp_cond_split (t := t) (by rw [hr.ev]; exact hc) (fun h => ht h a hr) (fun h => hf h a hr)
theorem aA {c : Operand} {x y : Code} (hc : ev ρ c = .bool true) (h : CW P n x Q ρ w) : CW P n (.cond c x y) Q ρ w := gT hc (fun _ => h) (fun h => by cases h)
theorem ao {c : Operand} {x y : Code} (hc : ev ρ c = .bool false) (h : CW P n y Q ρ w) : CW P n (.cond c x y) Q ρ w := gT hc (fun h => by cases h) (fun _ => h)
theorem aQ {c : Operand} {x y : Code} {p : Prop} [Decidable p] (hc : ev ρ c = .bool (decide p)) (ht : p → CW P n x Q ρ w) (hf : ¬ p → CW P n y Q ρ w) :
  CW P n (.cond c x y) Q ρ w := gT hc (fun h => ht (of_decide_eq_true h)) (fun h => hf (of_decide_eq_false h))
theorem ai {id : Nat} {l : List Oper} (hd : l.all (dstOK n) = true)
  (h : RR P (fun _ => True) l (Q .normal) (l.map (·, some false)) ρ w) : CW P n (.region id l.toArray false) Q ρ w := fun a hr =>
 wp_region_lit (RR.wpList l ρ a w hr hd h)
def mask (M : List Nat) (ρ ξ : Env) : Env := fun t => bif M.elem t then ξ t else ρ t
def over : List (Nat × Value) → Env → Env
 | [], ρ => ρ
 | (t, v) :: l, ρ => upd (over l ρ) t v
def Has (ρ : Env) : List (Nat × Value) → Prop
 | [] => True
 | (t, v) :: l => ρ t = v ∧ Has ρ l
def Agree (M : List Nat) (ρ ρ0 : Env) : Prop := ∀ t, M.elem t = false → ρ t = ρ0 t
theorem jA : ∀ {l : List (Nat × Value)} {ρ : Env}, Has ρ l → over l ρ = ρ
 | [], _, _ => rfl
 | (t, v) :: l, ρ, h => by simp only [over]; rw [jA h.2]; exact qr ρ h.1
theorem lC {M : List Nat} {ρ ρ0 : Env} (h : Agree M ρ ρ0) : mask M ρ0 ρ = ρ := by
 funext t
 unfold mask
 cases hm : M.elem t with
 | true => rfl
 | false => exact (h t hm).symm
theorem aX (M : List Nat) (ρ : Env) : Agree M ρ ρ := fun _ _ => rfl
theorem aG (M : List Nat) (ρ0 ξ : Env) : Agree M (mask M ρ0 ξ) ρ0 := fun t ht => by simp only [mask, ht, cond_false]
theorem aB {M : List Nat} {ρ ρ0 : Env} {d : Nat} {v : Value} (hd : M.elem d = true) (h : Agree M ρ ρ0) : Agree M (upd ρ d v) ρ0 := fun t ht => by
 rw [qq _ _ (fun e => by subst e; rw [hd] at ht; cases ht)]; exact h t ht
theorem ax {M : List Nat} {ρ ρ0 : Env} {d : Option Nat} {v : Value} (hd : (match d with | some d => M.elem d | none => true) = true) (h : Agree M ρ ρ0) : Agree M (updO ρ d v) ρ0 := by
 cases d with
 | none => exact h
 | some d => exact aB hd h
theorem av {M : List Nat} {ρ ρ0 : Env} : ∀ {l : List (Nat × Value)}, l.all (fun p => M.elem p.1) = true → Agree M ρ ρ0 → Agree M (over l ρ) ρ0
 | [], _, h => h
 | (t, v) :: l, hl, h => by simp only [List.all_cons, Bool.and_eq_true] at hl; exact aB hl.1 (av hl.2 h)
theorem aw {M M' : List Nat} {ρ ρ0 ξ : Env} (hs : M'.all (fun t => M.elem t) = true) (h : Agree M ρ ρ0) : Agree M (mask M' ρ ξ) ρ0 := fun t ht => by
 unfold mask
 cases hm : M'.elem t with
 | false => exact h t ht
 | true =>
  have := List.all_eq_true.1 hs t (by simpa using hm)
  rw [this] at ht; cases ht
structure Round {ι : Type} (M : List Nat) (vals : ι → List (Nat × Value)) (J : ι → World → Prop) (μ : ι → Nat) (m : Nat) (ρ0 : Env) (ρ : Env) (w : World) : Prop where
 next : ∃ s, J s w ∧ μ s < m ∧ Has ρ (vals s)
 agree : Agree M ρ ρ0
theorem pj {ι : Type} {c : Code} {Q : Exit → Act → World → Prop} (I : ι → Act → World → Prop) (μ : ι → Nat) (s0 : ι) {a : Act} (h₀ : I s0 a w)
  (round : ∀ s a w, I s a w → c.wp P (Exit.then (fun a' w' => ∃ s', I s' a' w' ∧ μ s' < μ s) Q) a w) : (Code.loop c).wp P Q a w := by
 intro b k cs
 suffices H : ∀ m s a w, μ s = m → I s a w → ∃ e a' w', Q e a' w' ∧ Arrives P (lone (b.at a (.code c :: .inLoop c :: k)) cs w) b k cs e a' w' by
  obtain ⟨e, a', w', hq, harr⟩ := H _ s0 a w rfl h₀
  exact ⟨e, a', w', hq, .of_steps (.one step_loop) harr⟩
 intro m
 induction m using Nat.strongRecOn with
 | _ m ih =>
  intro s a w hm hI
  obtain ⟨e, a₁, w₁, hq, harr⟩ := round s a w hI b (.inLoop c :: k) cs
  cases e with
  | normal =>
   obtain ⟨s', hI₁, hlt⟩ := hq
   obtain ⟨e₂, a₂, w₂, hq₂, harr₂⟩ := ih (μ s') (hm ▸ hlt) s' a₁ w₁ rfl hI₁
   exact ⟨e₂, a₂, w₂, hq₂, .of_steps (Steps.trans harr (.one step_inLoop)) harr₂⟩
  | _ => exact ⟨_, a₁, w₁, hq, .pass (x := .inLoop c) rfl (fun _ _ => .inl (by simp)) harr⟩
theorem aW {ι : Type} {c : Code} (M : List Nat) (vals : ι → List (Nat × Value)) (J : ι → World → Prop) (μ : ι → Nat) (s0 : ι) (hv : Has ρ (vals s0)) (h0 : J s0 w)
  (round : ∀ s ξ w, J s w → CW P n c (thenE (Round M vals J μ (μ s) ρ) Q) (over (vals s) (mask M ρ ξ)) w) : CW P n (.loop c) Q ρ w := by
 intro a hr
 refine pj (fun s a w => ∃ ρ', Rel n a ρ' ∧ J s w ∧ Agree M ρ' ρ ∧ Has ρ' (vals s)) μ s0 ⟨ρ, hr, h0, aX M ρ, hv⟩ ?_
 rintro s a w ⟨ρ', hr', hJ, hA, hH⟩
 have h := round s ρ' w hJ
 rw [lC hA, jA hH] at h
 refine wp_mono (h a hr') fun e a w q => ?_
 cases e <;> simp only [lift, thenE, Exit.then] at q ⊢
 case normal =>
  obtain ⟨ρ, hr, ⟨s', hJ', hlt, hH'⟩, hA'⟩ := q
  exact ⟨s', ⟨ρ, hr, hJ', hA', hH'⟩, hlt⟩
 all_goals exact q
def envOf (args : List Value) : Env := fun t => args.getD t undef
def ResV (P : Program) (w : World) (ρ : Env) (r : ResultVar) (v : Value) : Prop :=
 match r with
 | .tmp t => ρ t = v
 | .cell t T => (do loadVar T (← asAddr (ρ t)) : Sem Value).run P w = .ok v w
def fnPost (P : Program) (fn : Func) (R : Value → World → Prop) : Exit → Env → World → Prop
 | .normal, ρ, w | .ret, ρ, w => ∃ v, (∀ a : Act, Rel fn.ntmps a ρ → (results fn a.tmps).run P w = .ok v w) ∧ R v w
 | _, _, _ => False
theorem aE {f : FuncId} {fn : Func} {c : Code} {args : List Value} {R : Value → World → Prop}
  (hf : P.funcs[f]? = some fn) (hb : fn.body = some c) (hn : Nat.ble args.length fn.ntmps = true)
  (h : CW P fn.ntmps c (fnPost P fn R) (envOf args) w) : CallsR P f args.toArray w R := by
 have hn' : args.length ≤ fn.ntmps := Nat.le_of_ble_eq_true hn
 refine calls_of_wp hf hb (wp_mono (h _ ⟨by simp; omega, fun t => ?_, rfl⟩) fun e a w q => ?_)
 ·simp only [envOf, Array.getD_eq_getD_getElem?, List.getD_eq_getElem?_getD]
  rw [Array.getElem?_append]
  split
  ·simp
  ·rename_i h
   simp at h
   rw [List.getElem?_eq_none h]
   simp [Array.getElem?_replicate]
   split <;> rfl
 ·cases e <;> simp only [lift, fnPost, bodyPost] at q ⊢
  case normal => obtain ⟨ρ, hr, v, hv, hR⟩ := q; exact ⟨hr.defers, v, hv a hr, v, rfl, hR⟩
  case ret => obtain ⟨ρ, hr, v, hv, hR⟩ := q; exact ⟨hr.defers, v, hv a hr, v, rfl, hR⟩
  case exit => exact q.choose_spec.2
  case goto => exact q.choose_spec.2
def rvSem (tmps : Array Value) : ResultVar → Sem Value
 | .tmp t => pure (tmps.getD t undef)
 | .cell b t => do loadVar t (← asAddr (tmps.getD b undef))
theorem jl (fn : Func) (tmps : Array Value) : results fn tmps = (do let vs ← fn.results.mapM (rvSem tmps); pure (if h : vs.size = 1 then vs[0] else .tuple vs)) := by
 unfold results
 congr 2
theorem gB {a : Act} {r : ResultVar} {v : Value} (hr : Rel n a ρ) (hv : ResV P w ρ r v) : (rvSem a.tmps r).run P w = .ok v w := by
 cases r with
 | tmp t => simp only [ResV] at hv; rw [← hv, ← hr.get]; rfl
 | cell t T => simp only [ResV] at hv; simp only [rvSem, hr.get]; exact hv
theorem Sem.run_bind_ok {α β : Type} {x : Sem α} {f : α → Sem β} {v : α} {w w' : World} (h : x.run P w = .ok v w') : (x >>= f).run P w = (f v).run P w' := by
 simp [h]
theorem aaf {fn : Func} {r : ResultVar} {v : Value} {R : Value → World → Prop} (h : fn.results = #[r]) (hv : ResV P w ρ r v) (hR : R v w) :
  ∃ v, (∀ a : Act, Rel fn.ntmps a ρ → (results fn a.tmps).run P w = .ok v w) ∧ R v w := by
 refine ⟨v, fun a hr => ?_, hR⟩
 have h1 := gB hr hv
 simp only [jl, h, List.mapM_toArray, List.mapM_cons, List.mapM_nil, bind_assoc, map_eq_pure_bind]
 rw [Sem.run_bind_ok h1]
 simp
theorem aag {fn : Func} {r1 r2 : ResultVar} {v1 v2 : Value} {R : Value → World → Prop} (h : fn.results = #[r1, r2]) (hv1 : ResV P w ρ r1 v1) (hv2 : ResV P w ρ r2 v2)
  (hR : R (.tuple #[v1, v2]) w) : ∃ v, (∀ a : Act, Rel fn.ntmps a ρ → (results fn a.tmps).run P w = .ok v w) ∧ R v w := by
 refine ⟨_, fun a hr => ?_, hR⟩
 have h1 := gB hr hv1
 have h2 := gB hr hv2
 simp only [jl, h, List.mapM_toArray, List.mapM_cons, List.mapM_nil, bind_assoc, map_eq_pure_bind]
 rw [Sem.run_bind_ok h1, Sem.run_bind_ok h2]
 simp
theorem aah {fn : Func} {r1 r2 r3 : ResultVar} {v1 v2 v3 : Value} {R : Value → World → Prop} (h : fn.results = #[r1, r2, r3]) (hv1 : ResV P w ρ r1 v1) (hv2 : ResV P w ρ r2 v2)
  (hv3 : ResV P w ρ r3 v3) (hR : R (.tuple #[v1, v2, v3]) w) : ∃ v, (∀ a : Act, Rel fn.ntmps a ρ → (results fn a.tmps).run P w = .ok v w) ∧ R v w := by
 refine ⟨_, fun a hr => ?_, hR⟩
 have h1 := gB hr hv1
 have h2 := gB hr hv2
 have h3 := gB hr hv3
 simp only [jl, h, List.mapM_toArray, List.mapM_cons, List.mapM_nil, bind_assoc, map_eq_pure_bind]
 rw [Sem.run_bind_ok h1, Sem.run_bind_ok h2, Sem.run_bind_ok h3]
 simp
theorem yH {fn : Func} {R : Value → World → Prop} (h : fn.results = #[]) (hR : R (.tuple #[]) w) :
  ∃ v, (∀ a : Act, Rel fn.ntmps a ρ → (results fn a.tmps).run P w = .ok v w) ∧ R v w :=
 ⟨_, fun a _ => by simp [results, h], hR⟩
def wpL (P : Program) (ops : Array Oper) (late : Nat → Bool) (Q : Exit → Act → World → Prop) (S : World → Prop) : Nat → Array Bool → Act → World → Prop
 | 0, listed, a, w => Region.ready .any ops listed = [] ∧ Q .normal a w
 | fuel + 1, listed, a, w => (Region.ready .any ops listed = [] → Q .normal a w) ∧
  ∀ i ∈ Region.ready .any ops listed, wpOp P ops Q i (fun a' w' => (late i = false → S w → S w') ∧ wpL P ops late Q S fuel (listed.setIfInBounds i true) a' w') a w
theorem dF {ops : Array Oper} {late : Nat → Bool} {Q : Exit → Act → World → Prop} {S : World → Prop} :
  ∀ (fuel : Nat) (listed : Array Bool) (a : Act) (w : World), wpL P ops late Q S fuel listed a w → wpAny P .any ops Q fuel listed a w
 | 0, _, _, _, h => h
 | fuel + 1, _, _, _, h => ⟨h.1, fun i hi => wpOp_mono (fun a' w' h' => dF fuel _ a' w' h'.2) (h.2 i hi)⟩
def waits (ops : Array Oper) (j i : Nat) : Bool := match ops[j]? with | some o => o.after.any fun e => Region.binds .any e && e.on == i | none => true
theorem cH {ops : Array Oper} {listed : Array Bool} {i j : Nat} (hi : i ∈ Region.ready .any ops listed) (hj : j ∈ Region.ready .any ops listed) : waits ops j i = false := by
 obtain ⟨_, o, ho, hall⟩ := mem_ready.1 hj
 have h0 := (mem_ready.1 hi).1
 cases hw : waits ops j i with
 | false => rfl
 | true =>
  simp only [waits, ho, Array.any_eq_true', Bool.and_eq_true, beq_iff_eq] at hw
  obtain ⟨e, he, hb, rfl⟩ := hw
  have h1 := hall e he hb
  rcases Nat.lt_or_ge e.on listed.size with h' | h'
  ·simp [h'] at h0 h1; rw [h0] at h1; cases h1
  ·simp [Array.getElem?_eq_none h'] at h1
theorem nm {ops : Array Oper} {late : Nat → Bool} {Q : Exit → Act → World → Prop} {S : World → Prop} {i : Nat} {oi : Oper} {v : Value} (hi : ops[i]? = some oi)
  (hsel : Region.noSelect ops = true) (hQ : ∀ c a w, Q (.panic c) (a.put oi.dst v) w → Q (.panic c) a w) :
  ∀ (fuel : Nat) (listed : Array Bool) (a : Act) (w : World),
   (∀ j oj, ops[j]? = some oj → j ≠ i → listed.getD j true = false → (∀ e ∈ oj.after, Region.binds .any e = true → e.on ≠ i) → oi.apart ops oj = true) →
   (∀ j, late j = true → waits ops j i = true) →
   i ∈ Region.ready .any ops listed → YieldsIf P ops S oi v a → S w →
   wpL P ops late Q S fuel (listed.setIfInBounds i true) (a.put oi.dst v) w → wpL P ops late Q S (fuel + 1) listed a w := by
 intro fuel
 induction fuel with
 | zero =>
  intro listed a w _ _ hr hy hS H
  refine ⟨fun h => (by rw [h] at hr; cases hr), fun j hj => ?_⟩
  by_cases hji : j = i
  ·subst hji; exact hy.wpOp hi hS ⟨fun _ h => h, H⟩
  ·have := ready_mono hj hji
   rw [H.1] at this
   cases this
 | succ fuel ih =>
  intro listed a w hfree hlate hr hy hS H
  refine ⟨fun h => (by rw [h] at hr; cases hr), fun j hj => ?_⟩
  by_cases hji : j = i
  ·subst hji; exact hy.wpOp hi hS ⟨fun _ h => h, H⟩
  ·have hnl : late j = false := by
    cases h : late j with
    | false => rfl
    | true => have := hlate j h; rw [cH hr hj] at this; cases this
   have h1 := H.2 j (ready_mono hj hji)
   obtain ⟨hjun, oj, hoj, hall⟩ := mem_ready.1 hj
   have hnot : ∀ e ∈ oj.after, Region.binds .any e = true → e.on ≠ i := fun e he hb heq => by
    have hw := cH hr hj
    simp only [waits, hoj] at hw
    rw [Array.any_eq_false'] at hw
    exact hw e he (by simp [hb, heq])
   have h2 := wpOp_putIf hoj (hfree j oj hoj hji hjun hnot) (fun cs b => Region.noSelect_spec hsel i oi cs b hi) (fun cs b => Region.noSelect_spec hsel j oj cs b hoj) hQ hy h1
   refine wpOp_mono (fun a' w' h3 => ⟨h3.2.1, ih (listed.setIfInBounds j true) a' w' (fun k ok hk hki hun hno => ?_) hlate (ready_mono hr (Ne.symm hji)) h3.1 (h3.2.1 hnl hS) ?_⟩) h2
   ·refine hfree k ok hk hki ?_ hno
    by_cases hjk : j = k
    ·subst hjk; exact hjun
    ·rw [getD_set_ne true hjk] at hun; exact hun
   ·rw [Array.setIfInBounds_comm _ _ hji]
    exact h3.2.2
theorem fv {ops : Array Oper} {late : Nat → Bool} {Q : Exit → Act → World → Prop} {S : World → Prop} {i : Nat} {oi : Oper} {v : Value} (hi : ops[i]? = some oi)
  (hsel : Region.noSelect ops = true) (hQ : ∀ c a w, Q (.panic c) (a.put oi.dst v) w → Q (.panic c) a w) :
  ∀ (fuel : Nat) (listed : Array Bool) (a : Act) (w : World),
   (∀ j oj, ops[j]? = some oj → j ≠ i → listed.getD j true = false → (∀ e ∈ oj.after, Region.binds .any e = true → e.on ≠ i) → oi.apart ops oj = true) →
   i ∈ Region.ready .any ops listed → Yields P ops oi v a →
   wpL P ops late Q S fuel (listed.setIfInBounds i true) (a.put oi.dst v) w → wpL P ops late Q S (fuel + 1) listed a w := by
 intro fuel
 induction fuel with
 | zero =>
  intro listed a w _ hr hy H
  refine ⟨fun h => (by rw [h] at hr; cases hr), fun j hj => ?_⟩
  by_cases hji : j = i
  ·subst hji; exact hy.wpOp hi ⟨fun _ h => h, H⟩
  ·have := ready_mono hj hji
   rw [H.1] at this
   cases this
 | succ fuel ih =>
  intro listed a w hfree hr hy H
  refine ⟨fun h => (by rw [h] at hr; cases hr), fun j hj => ?_⟩
  by_cases hji : j = i
  ·subst hji; exact hy.wpOp hi ⟨fun _ h => h, H⟩
  ·have h1 := H.2 j (ready_mono hj hji)
   obtain ⟨hjun, oj, hoj, hall⟩ := mem_ready.1 hj
   have hnot : ∀ e ∈ oj.after, Region.binds .any e = true → e.on ≠ i := fun e he hb heq => by
    have hw := cH hr hj
    simp only [waits, hoj] at hw
    rw [Array.any_eq_false'] at hw
    exact hw e he (by simp [hb, heq])
   have h2 := wpOp_put hoj (hfree j oj hoj hji hjun hnot) (fun cs b => Region.noSelect_spec hsel i oi cs b hi) (fun cs b => Region.noSelect_spec hsel j oj cs b hoj) hQ hy h1
   refine wpOp_mono (fun a' w' h3 => ⟨h3.2.1, ih (listed.setIfInBounds j true) a' w' (fun k ok hk hki hun hno => ?_) (ready_mono hr (Ne.symm hji)) h3.1 ?_⟩) h2
   ·refine hfree k ok hk hki ?_ hno
    by_cases hjk : j = k
    ·subst hjk; exact hjun
    ·rw [getD_set_ne true hjk] at hun; exact hun
   ·rw [Array.setIfInBounds_comm _ _ hji]
    exact h3.2.2
def rdAt (ops : Array Oper) (i : Nat) : Bool := match ops[i]? with | some o => isRd o | none => false
def needP (ops : Array Oper) (l : List (Nat × Option Bool)) : Bool := l.any fun p => p.2.isNone && rdAt ops p.1
def planOK (ops : Array Oper) (late : List Nat) : List (Nat × Option Bool) → Array Bool → Bool
 | [], listed => (Region.ready .any ops listed).isEmpty
 | (i, none) :: rest, listed => (Region.ready .any ops listed).contains i && (Region.free .any ops listed i && ((!rdAt ops i || late.all (fun j => waits ops j i)) && planOK ops late rest (listed.setIfInBounds i true)))
 | (i, some k) :: rest, listed => (Region.ready .any ops listed == [i]) && ((bif k then !late.contains i else (late.contains i && !needP ops rest)) && planOK ops late rest (listed.setIfInBounds i true))
def planOps (ops : List Oper) : List (Nat × Option Bool) → List (Oper × Option Bool)
 | [] => []
 | (i, b) :: rest => match ops[i]? with | some o => (o, b) :: planOps ops rest | none => planOps ops rest
theorem fq {ops : List Oper} {late : List Nat} {S : World → Prop} (hsel : Region.noSelect ops.toArray = true) (hd : ops.all (dstOK n) = true) :
  ∀ (plan : List (Nat × Option Bool)) (listed : Array Bool) (ρ : Env) (a : Act) (w : World), Rel n a ρ → planOK ops.toArray late plan listed = true → (needP ops.toArray plan = true → S w) →
   RR P S ops (Q .normal) (planOps ops plan) ρ w →
   wpL P ops.toArray (fun j => late.contains j) (lift n Q) S plan.length listed a w
 | [], listed, ρ, a, w, hr, hp, _, h => ⟨by simpa [planOK] using hp, ρ, hr, h⟩
 | (i, none) :: rest, listed, ρ, a, w, hr, hp, hS, h => by
  simp only [planOK, Bool.and_eq_true] at hp
  obtain ⟨h1, h2, h3, h4⟩ := hp
  have hri : i ∈ Region.ready .any ops.toArray listed := by simpa using h1
  obtain ⟨_, o, ho, _⟩ := mem_ready.1 hri
  have ho' : ops[i]? = some o := by simpa using ho
  have hdo : dstOK n o = true := List.all_eq_true.1 hd o (List.mem_of_getElem? ho')
  simp only [planOps, ho', RR] at h
  have hr3 : rdAt ops.toArray i = isRd o := by simp only [rdAt, ho]
  have en : needP ops.toArray ((i, none) :: rest) = (isRd o || needP ops.toArray rest) := by rw [← hr3]; rfl
  rw [en] at hS
  have hSr : needP ops.toArray rest = true → S w := fun hn => hS (by rw [hn]; simp)
  cases hrd : isRd o with
  | true =>
   have hS' : S w := hS (by rw [hrd]; rfl)
   have key : ∃ v, YieldsIf P ops.toArray S o v a ∧ RR P S ops (Q .normal) (planOps ops rest) (updO ρ o.dst v) w := by
    by_cases hw : wantedE ops ρ o = true
    ·rw [if_pos hw] at h
     obtain ⟨v, hv, h⟩ := h
     exact ⟨v, .inl ⟨by rw [hr.wanted]; exact hw, by rw [hr.ev]; exact fun w' hw' => hv w' (fun _ => hw')⟩, h⟩
    ·rw [if_neg hw] at h
     exact ⟨undef, .inr ⟨by rw [hr.wanted]; simpa using hw, rfl⟩, h⟩
   obtain ⟨v, hy, h⟩ := key
   rw [hr3, hrd] at h3
   simp only [Bool.not_true, Bool.false_or] at h3
   refine nm ho hsel (fun _ _ _ h => h) rest.length listed a w (Region.free_spec ho h2) (fun j hj => List.all_eq_true.1 h3 j (by simpa using hj)) hri hy hS' ?_
   exact fq hsel hd rest _ _ _ w (hr.putO hdo v) h4 hSr h
  | false =>
   have key : ∃ v, Yields P ops.toArray o v a ∧ RR P S ops (Q .normal) (planOps ops rest) (updO ρ o.dst v) w := by
    by_cases hw : wantedE ops ρ o = true
    ·rw [if_pos hw] at h
     obtain ⟨v, hv, h⟩ := h
     exact ⟨v, .inl ⟨by rw [hr.wanted]; exact hw, by rw [hr.ev]; exact fun w' => hv w' (fun hh => by rw [hrd] at hh; cases hh)⟩, h⟩
    ·rw [if_neg hw] at h
     exact ⟨undef, .inr ⟨by rw [hr.wanted]; simpa using hw, rfl⟩, h⟩
   obtain ⟨v, hy, h⟩ := key
   refine fv ho hsel (fun _ _ _ h => h) rest.length listed a w (Region.free_spec ho h2) hri hy ?_
   exact fq hsel hd rest _ _ _ w (hr.putO hdo v) h4 hSr h
 | (i, some k) :: rest, listed, ρ, a, w, hr, hp, hS, h => by
  simp only [planOK, Bool.and_eq_true, beq_iff_eq] at hp
  obtain ⟨h1, h2, h3⟩ := hp
  have hri : i ∈ Region.ready .any ops.toArray listed := by rw [h1]; simp
  obtain ⟨_, o, ho, _⟩ := mem_ready.1 hri
  have ho' : ops[i]? = some o := by simpa using ho
  have hdo : dstOK n o = true := List.all_eq_true.1 hd o (List.mem_of_getElem? ho')
  simp only [planOps, ho', RR] at h
  have en : needP ops.toArray ((i, some k) :: rest) = needP ops.toArray rest := rfl
  rw [en] at hS
  refine ⟨fun h0 => absurd (h1.symm.trans h0) (by simp), fun j hj => ?_⟩
  rw [h1] at hj
  simp only [List.mem_singleton] at hj
  subst hj
  unfold wpOp
  simp only [ho]
  rw [hr.wanted]
  have hkl : late.contains j = false → k = true := fun hl => by
   cases k with
   | true => rfl
   | false => simp only [cond_false, Bool.and_eq_true] at h2; rw [hl] at h2; cases h2.1
  have hkn : needP ops.toArray rest = true → k = true := fun hn => by
   cases k with
   | true => rfl
   | false => simp only [cond_false, Bool.and_eq_true] at h2; rw [hn] at h2; cases h2.2
  split
  ·rename_i hw
   rw [if_pos hw] at h
   exact .inl (OpW.wp hr h fun v w' hn => ⟨fun hl hS1 => hn.1 (hkl hl) hS1, fq hsel hd rest _ _ _ w' (hr.putO hdo v) h3 (fun hh => hn.1 (hkn hh) (hS hh)) hn.2⟩)
  ·rename_i hw
   rw [if_neg hw] at h
   exact ⟨fun _ h => h, fq hsel hd rest _ _ _ w (hr.putO hdo undef) h3 hS h⟩
def RB (P : Program) (n : Nat) (Q : Exit → Env → World → Prop) (S : World → Prop) (ops : List Oper) (fuel : Nat) (listed : Array Bool) (ρ : Env) (w : World) : Prop :=
 ∀ a, Rel n a ρ → (S w → wpL P ops.toArray (fun _ => false) (lift n Q) S fuel listed a w)
def preOK (ops : Array Oper) : List Nat → Array Bool → Bool
 | [], _ => true
 | i :: rest, listed => (Region.ready .any ops listed).contains i && (Region.free .any ops listed i && preOK ops rest (listed.setIfInBounds i true))
def listAll (listed : Array Bool) : List Nat → Array Bool
 | [] => listed
 | i :: rest => listAll (listed.setIfInBounds i true) rest
theorem bP {ops : List Oper} {S : World → Prop} {fuel : Nat} (hsel : Region.noSelect ops.toArray = true) (hd : ops.all (dstOK n) = true) :
  ∀ (pre : List Nat) (listed : Array Bool) (ρ : Env), preOK ops.toArray pre listed = true →
   RR P S ops (RB P n Q S ops fuel (listAll listed pre)) (planOps ops (pre.map (·, none))) ρ w → RB P n Q S ops (fuel + pre.length) listed ρ w
 | [], listed, ρ, _, h => h
 | i :: rest, listed, ρ, hp, h => by
  simp only [preOK, Bool.and_eq_true] at hp
  obtain ⟨h1, h2, h4⟩ := hp
  have hri : i ∈ Region.ready .any ops.toArray listed := by simpa using h1
  obtain ⟨_, o, ho, _⟩ := mem_ready.1 hri
  have ho' : ops[i]? = some o := by simpa using ho
  have hdo : dstOK n o = true := List.all_eq_true.1 hd o (List.mem_of_getElem? ho')
  simp only [List.map_cons, planOps, ho', RR] at h
  intro a hr hS
  cases hrd : isRd o with
  | true =>
   have key : ∃ v, YieldsIf P ops.toArray S o v a ∧ RR P S ops (RB P n Q S ops fuel (listAll (listed.setIfInBounds i true) rest)) (planOps ops (rest.map (·, none))) (updO ρ o.dst v) w := by
    by_cases hw : wantedE ops ρ o = true
    ·rw [if_pos hw] at h
     obtain ⟨v, hv, h⟩ := h
     exact ⟨v, .inl ⟨by rw [hr.wanted]; exact hw, by rw [hr.ev]; exact fun w' hw' => hv w' (fun _ => hw')⟩, h⟩
    ·rw [if_neg hw] at h
     exact ⟨undef, .inr ⟨by rw [hr.wanted]; simpa using hw, rfl⟩, h⟩
   obtain ⟨v, hy, h⟩ := key
   exact nm ho hsel (fun _ _ _ h => h) (fuel + rest.length) listed a w (Region.free_spec ho h2) (fun j hj => by cases hj) hri hy hS
    (bP hsel hd rest _ _ h4 h _ (hr.putO hdo v) hS)
  | false =>
   have key : ∃ v, Yields P ops.toArray o v a ∧ RR P S ops (RB P n Q S ops fuel (listAll (listed.setIfInBounds i true) rest)) (planOps ops (rest.map (·, none))) (updO ρ o.dst v) w := by
    by_cases hw : wantedE ops ρ o = true
    ·rw [if_pos hw] at h
     obtain ⟨v, hv, h⟩ := h
     exact ⟨v, .inl ⟨by rw [hr.wanted]; exact hw, by rw [hr.ev]; exact fun w' => hv w' (fun hh => by rw [hrd] at hh; cases hh)⟩, h⟩
    ·rw [if_neg hw] at h
     exact ⟨undef, .inr ⟨by rw [hr.wanted]; simpa using hw, rfl⟩, h⟩
   obtain ⟨v, hy, h⟩ := key
   exact fv ho hsel (fun _ _ _ h => h) (fuel + rest.length) listed a w (Region.free_spec ho h2) hri hy
    (bP hsel hd rest _ _ h4 h _ (hr.putO hdo v) hS)
theorem aD {ops : List Oper} {S : World → Prop} {fuel : Nat} {listed : Array Bool} {rs : List Nat} (hd : ops.all (dstOK n) = true) (hr : (Region.ready .any ops.toArray listed == rs) = true) (hne : rs.isEmpty = false)
  (h : ∀ i ∈ rs, RR P S ops (RB P n Q S ops fuel (listed.setIfInBounds i true)) (planOps ops [(i, some true)]) ρ w) : RB P n Q S ops (fuel + 1) listed ρ w := by
 simp only [beq_iff_eq] at hr
 intro a hrel hS
 refine ⟨fun h0 => (by rw [hr] at h0; rw [h0] at hne; cases hne), fun j hj => ?_⟩
 obtain ⟨_, o, ho, _⟩ := mem_ready.1 hj
 rw [hr] at hj
 have ho' : ops[j]? = some o := by simpa using ho
 have hdo : dstOK n o = true := List.all_eq_true.1 hd o (List.mem_of_getElem? ho')
 have hh := h j hj
 simp only [planOps, ho', RR] at hh
 unfold wpOp
 simp only [ho]
 rw [hrel.wanted]
 split
 ·rename_i hw
  rw [if_pos hw] at hh
  exact .inl (OpW.wp hrel hh fun v w' hn => ⟨fun _ => hn.1 rfl, hn.2 _ (hrel.putO hdo v) (hn.1 rfl hS)⟩)
 ·rename_i hw
  rw [if_neg hw] at hh
  exact ⟨fun _ h => h, hh _ (hrel.putO hdo undef) hS⟩
theorem bL {ops : List Oper} {S : World → Prop} {fuel : Nat} {listed : Array Bool} (hr : (Region.ready .any ops.toArray listed).isEmpty = true) (h : Q .normal ρ w) : RB P n Q S ops fuel listed ρ w := by
 simp only [List.isEmpty_iff] at hr
 intro a hrel _
 cases fuel with
 | zero => exact ⟨hr, ρ, hrel, h⟩
 | succ f => exact ⟨fun _ => ⟨ρ, hrel, h⟩, fun i hi => by rw [hr] at hi; cases hi⟩
theorem gU {id : Nat} {ops : List Oper} (S : World → Prop) (hm : P.follows .mixedOrders = true) (hS : S w.drew)
  (h : RB P n Q S ops ops.length (Array.replicate ops.length false) ρ w.drew) : CW P n (.region id ops.toArray true) Q ρ w := fun a hr => by
 refine wp_region_any hm (dF (late := fun _ => false) (S := S) _ _ _ _ ?_)
 have := h a hr hS
 simpa using this
theorem bn {id : Nat} {ops : List Oper} {late : List Nat} {plan : List (Nat × Option Bool)} (S : World → Prop) (hm : P.follows .mixedOrders = true)
  (hc : (Region.noSelect ops.toArray && (ops.all (dstOK n) && (plan.length == ops.length && planOK ops.toArray late plan (Array.replicate ops.length false)))) = true)
  (hS : S w.drew) (h : RR P S ops (Q .normal) (planOps ops plan) ρ w.drew) : CW P n (.region id ops.toArray true) Q ρ w := fun a hr => by
 simp only [Bool.and_eq_true, beq_iff_eq] at hc
 obtain ⟨h1, h2, h3, h4⟩ := hc
 refine wp_region_any hm (dF (late := fun j => late.contains j) (S := S) _ _ _ _ ?_)
 have := fq h1 h2 plan (Array.replicate ops.length false) ρ a w.drew hr h4 (fun _ => hS) h
 rw [h3] at this
 simpa using this
end
section
variable {P : Program} {n : Nat} {Q : Exit → Env → World → Prop} {next : Env → World → Prop} {ρ : Env} {w : World} {id id' : Nat}
theorem aa (h : next ρ w) : thenE next Q .normal ρ w := h
theorem bf (h : Q .ret ρ w) : thenE next Q .ret ρ w := h
theorem aO (h : Q (.exit id) ρ w) : thenE next Q (.exit id) ρ w := h
theorem aJ (h : Q .normal ρ w) : inB id Q .normal ρ w := h
theorem cj (h : Q .ret ρ w) : inB id Q .ret ρ w := h
theorem aU (h : Q .normal ρ w) : inB id Q (.exit id) ρ w := by simp only [inB, if_true]; exact h
theorem fw (hne : Nat.beq id' id = false) (h : Q (.exit id') ρ w) : inB id Q (.exit id') ρ w := by
 have : id' ≠ id := fun e => by subst e; simp at hne
 simp only [inB, if_neg this]; exact h
end
end Go.W
attribute [irreducible] Go.W.RR Go.W.CW Go.W.thenE Go.W.inB
