import Derived.Test.YtmedmmginnfjgaaMem
namespace Go.W
/-! drawn regions once more: an operation may wait for another one through a third one -/
def waitsT (ops : Array Oper) (j i : Nat) : Bool := waits ops j i || (List.range ops.size).any (fun k => waits ops j k && waits ops k i)
/-- what is listed has all listed that it waits for -/
def Down (ops : Array Oper) (listed : Array Bool) : Prop := ∀ k o, ops[k]? = some o → listed.getD k false = true → ∀ e ∈ o.after, Region.binds .any e = true → listed.getD e.on false = true
theorem Down.start (ops : Array Oper) (n : Nat) : Down ops (Array.replicate n false) := fun k o _ h => by
  exfalso
  by_cases hk : k < n
  · simp [hk] at h
  · simp [hk] at h
theorem Down.set {ops : Array Oper} {listed : Array Bool} {j : Nat} (h : Down ops listed) (hj : j ∈ Region.ready .any ops listed) : Down ops (listed.setIfInBounds j true) := by
  have keep : ∀ m, listed.getD m false = true → (listed.setIfInBounds j true).getD m false = true := fun m hm => by
    by_cases hmj : j = m
    · subst hmj
      by_cases hs : j < listed.size
      · simp [hs]
      · simp [hs] at hm
    · simpa [Array.getElem?_setIfInBounds_ne hmj] using hm
  intro k o ho hk e he hb
  obtain ⟨_, oj, hoj, hall⟩ := mem_ready.1 hj
  by_cases hkj : j = k
  · subst hkj
    rw [ho] at hoj
    cases hoj
    exact keep _ (hall e he hb)
  · refine keep _ (h k o ho ?_ e he hb)
    simpa [Array.getElem?_setIfInBounds_ne hkj] using hk
theorem not_ready_of_waitsT {ops : Array Oper} {listed : Array Bool} {i j : Nat} (hd : Down ops listed) (hi : i ∈ Region.ready .any ops listed) (hj : j ∈ Region.ready .any ops listed) : waitsT ops j i = false := by
  unfold waitsT
  rw [not_ready_of_waits hi hj, Bool.false_or]
  cases hw : (List.range ops.size).any (fun k => waits ops j k && waits ops k i) with
  | false => rfl
  | true =>
    exfalso
    obtain ⟨k, hk, h⟩ := List.any_eq_true.1 hw
    simp only [Bool.and_eq_true] at h
    obtain ⟨h1, h2⟩ := h
    obtain ⟨_, oj, hoj, hall⟩ := mem_ready.1 hj
    have h0 := (mem_ready.1 hi).1
    simp only [waits, hoj, Array.any_eq_true', Bool.and_eq_true, beq_iff_eq] at h1
    obtain ⟨e, he, hb, rfl⟩ := h1
    have hl := hall e he hb
    have hks : e.on < ops.size := List.mem_range.1 hk
    have hok : ops[e.on]? = some ops[e.on] := Array.getElem?_eq_getElem hks
    simp only [waits, hok, Array.any_eq_true', Bool.and_eq_true, beq_iff_eq] at h2
    obtain ⟨e2, he2, hb2, rfl⟩ := h2
    have hl2 := hd e.on _ hok hl e2 he2 hb2
    rcases Nat.lt_or_ge e2.on listed.size with h' | h'
    · simp [h'] at h0 hl2; rw [h0] at hl2; cases hl2
    · simp [Array.getElem?_eq_none h'] at hl2
section
variable {P : Program} {n : Nat} {Q : Exit → Env → World → Prop} {ρ : Env} {w : World}
theorem wpL_firstT {ops : Array Oper} {late : Nat → Bool} {Q : Exit → Act → World → Prop} {S : World → Prop} {i : Nat} {oi : Oper} {v : Value} (hi : ops[i]? = some oi)
    (hsel : Region.noSelect ops = true) (hQ : ∀ c a w, Q (.panic c) (a.put oi.dst v) w → Q (.panic c) a w) :
    ∀ (fuel : Nat) (listed : Array Bool) (a : Act) (w : World),
      (∀ j oj, ops[j]? = some oj → j ≠ i → listed.getD j true = false → (∀ e ∈ oj.after, Region.binds .any e = true → e.on ≠ i) → oi.apart ops oj = true) →
      (∀ j, late j = true → waitsT ops j i = true) → Down ops listed →
      i ∈ Region.ready .any ops listed → YieldsIf P ops S oi v a → S w →
      wpL P ops late Q S fuel (listed.setIfInBounds i true) (a.put oi.dst v) w → wpL P ops late Q S (fuel + 1) listed a w := by
  intro fuel
  induction fuel with
  | zero =>
    intro listed a w _ _ _ hr hy hS H
    refine ⟨fun h => (by rw [h] at hr; cases hr), fun j hj => ?_⟩
    by_cases hji : j = i
    · subst hji; exact hy.wpOp hi hS ⟨fun _ h => h, H⟩
    · have := ready_mono hj hji
      rw [H.1] at this
      cases this
  | succ fuel ih =>
    intro listed a w hfree hlate hdown hr hy hS H
    refine ⟨fun h => (by rw [h] at hr; cases hr), fun j hj => ?_⟩
    by_cases hji : j = i
    · subst hji; exact hy.wpOp hi hS ⟨fun _ h => h, H⟩
    · have hnl : late j = false := by
        cases h : late j with
        | false => rfl
        | true => have := hlate j h; rw [not_ready_of_waitsT hdown hr hj] at this; cases this
      have h1 := H.2 j (ready_mono hj hji)
      obtain ⟨hjun, oj, hoj, hall⟩ := mem_ready.1 hj
      have hnot : ∀ e ∈ oj.after, Region.binds .any e = true → e.on ≠ i := fun e he hb heq => by
        have hw := not_ready_of_waits hr hj
        simp only [waits, hoj] at hw
        rw [Array.any_eq_false'] at hw
        exact hw e he (by simp [hb, heq])
      have h2 := wpOp_putIf hoj (hfree j oj hoj hji hjun hnot) (fun cs b => Region.noSelect_spec hsel i oi cs b hi) (fun cs b => Region.noSelect_spec hsel j oj cs b hoj) hQ hy h1
      refine wpOp_mono (fun a' w' h3 => ⟨h3.2.1, ih (listed.setIfInBounds j true) a' w' (fun k ok hk hki hun hno => ?_) hlate (hdown.set hj) (ready_mono hr (Ne.symm hji)) h3.1 (h3.2.1 hnl hS) ?_⟩) h2
      · refine hfree k ok hk hki ?_ hno
        by_cases hjk : j = k
        · subst hjk; exact hjun
        · rw [getD_set_ne true hjk] at hun; exact hun
      · rw [Array.setIfInBounds_comm _ _ hji]
        exact h3.2.2
def planOKT (ops : Array Oper) (late : List Nat) : List (Nat × Option Bool) → Array Bool → Bool
  | [], listed => (Region.ready .any ops listed).isEmpty
  | (i, none) :: rest, listed => (Region.ready .any ops listed).contains i && (Region.free .any ops listed i && ((!rdAt ops i || late.all (fun j => waitsT ops j i)) && planOKT ops late rest (listed.setIfInBounds i true)))
  | (i, some k) :: rest, listed => (Region.ready .any ops listed == [i]) && ((bif k then !late.contains i else (late.contains i && !needP ops rest)) && planOKT ops late rest (listed.setIfInBounds i true))
theorem wpL_of_RRT {ops : List Oper} {late : List Nat} {S : World → Prop} (hsel : Region.noSelect ops.toArray = true) (hd : ops.all (dstOK n) = true) :
    ∀ (plan : List (Nat × Option Bool)) (listed : Array Bool) (ρ : Env) (a : Act) (w : World), Rel n a ρ → Down ops.toArray listed → planOKT ops.toArray late plan listed = true → (needP ops.toArray plan = true → S w) →
      RR P S ops (Q .normal) (planOps ops plan) ρ w →
      wpL P ops.toArray (fun j => late.contains j) (lift n Q) S plan.length listed a w
  | [], listed, ρ, a, w, hr, _, hp, _, h => ⟨by simpa [planOKT] using hp, ρ, hr, by simpa only [planOps, RR] using h⟩
  | (i, none) :: rest, listed, ρ, a, w, hr, hdn, hp, hS, h => by
    simp only [planOKT, Bool.and_eq_true] at hp
    obtain ⟨h1, h2, h3, h4⟩ := hp
    have hri : i ∈ Region.ready .any ops.toArray listed := by simpa using h1
    obtain ⟨_, o, ho, _⟩ := mem_ready.1 hri
    have ho' : ops[i]? = some o := by simpa using ho
    have hdo : dstOK n o = true := List.all_eq_true.1 hd o (List.mem_of_getElem? ho')
    simp only [planOps, ho', RR] at h
    have hr3 : rdAt ops.toArray i = isRd o := by simp only [rdAt, ho]
    have en : needP ops.toArray ((i, none) :: rest) = (isRd o || needP ops.toArray rest) := by rw [← hr3]; rfl
    rw [en] at hS
    have hSr : needP ops.toArray rest = true → S w := fun hn => hS (by rw [hn]; simp)
    cases hrd : isRd o with
    | true =>
      have hS' : S w := hS (by rw [hrd]; rfl)
      have key : ∃ v, YieldsIf P ops.toArray S o v a ∧ RR P S ops (Q .normal) (planOps ops rest) (updO ρ o.dst v) w := by
        by_cases hw : wantedE ops ρ o = true
        · rw [if_pos hw] at h
          obtain ⟨v, hv, h⟩ := h
          exact ⟨v, .inl ⟨by rw [hr.wanted]; exact hw, by rw [hr.ev]; exact fun w' hw' => hv w' (fun _ => hw')⟩, h⟩
        · rw [if_neg hw] at h
          exact ⟨undef, .inr ⟨by rw [hr.wanted]; simpa using hw, rfl⟩, h⟩
      obtain ⟨v, hy, h⟩ := key
      rw [hr3, hrd] at h3
      simp only [Bool.not_true, Bool.false_or] at h3
      refine wpL_firstT ho hsel (fun _ _ _ h => h) rest.length listed a w (Region.free_spec ho h2) (fun j hj => List.all_eq_true.1 h3 j (by simpa using hj)) hdn hri hy hS' ?_
      exact wpL_of_RRT hsel hd rest _ _ _ w (hr.putO hdo v) (hdn.set hri) h4 hSr h
    | false =>
      have key : ∃ v, Yields P ops.toArray o v a ∧ RR P S ops (Q .normal) (planOps ops rest) (updO ρ o.dst v) w := by
        by_cases hw : wantedE ops ρ o = true
        · rw [if_pos hw] at h
          obtain ⟨v, hv, h⟩ := h
          exact ⟨v, .inl ⟨by rw [hr.wanted]; exact hw, by rw [hr.ev]; exact fun w' => hv w' (fun hh => by rw [hrd] at hh; cases hh)⟩, h⟩
        · rw [if_neg hw] at h
          exact ⟨undef, .inr ⟨by rw [hr.wanted]; simpa using hw, rfl⟩, h⟩
      obtain ⟨v, hy, h⟩ := key
      refine wpL_firstP ho hsel (fun _ _ _ h => h) rest.length listed a w (Region.free_spec ho h2) hri hy ?_
      exact wpL_of_RRT hsel hd rest _ _ _ w (hr.putO hdo v) (hdn.set hri) h4 hSr h
  | (i, some k) :: rest, listed, ρ, a, w, hr, hdn, hp, hS, h => by
    simp only [planOKT, Bool.and_eq_true, beq_iff_eq] at hp
    obtain ⟨h1, h2, h3⟩ := hp
    have hri : i ∈ Region.ready .any ops.toArray listed := by rw [h1]; simp
    obtain ⟨_, o, ho, _⟩ := mem_ready.1 hri
    have ho' : ops[i]? = some o := by simpa using ho
    have hdo : dstOK n o = true := List.all_eq_true.1 hd o (List.mem_of_getElem? ho')
    simp only [planOps, ho', RR] at h
    have en : needP ops.toArray ((i, some k) :: rest) = needP ops.toArray rest := rfl
    rw [en] at hS
    refine ⟨fun h0 => absurd (h1.symm.trans h0) (by simp), fun j hj => ?_⟩
    rw [h1] at hj
    simp only [List.mem_singleton] at hj
    subst hj
    unfold wpOp
    simp only [ho]
    rw [hr.wanted]
    have hkl : late.contains j = false → k = true := fun hl => by
      cases k with
      | true => rfl
      | false => simp only [cond_false, Bool.and_eq_true] at h2; rw [hl] at h2; cases h2.1
    have hkn : needP ops.toArray rest = true → k = true := fun hn => by
      cases k with
      | true => rfl
      | false => simp only [cond_false, Bool.and_eq_true] at h2; rw [hn] at h2; cases h2.2
    split
    · rename_i hw
      rw [if_pos hw] at h
      exact .inl (OpW.wp hr h fun v w' hn => ⟨fun hl hS1 => hn.1 (hkl hl) hS1, wpL_of_RRT hsel hd rest _ _ _ w' (hr.putO hdo v) (hdn.set hri) h3 (fun hh => hn.1 (hkn hh) (hS hh)) hn.2⟩)
    · rename_i hw
      rw [if_neg hw] at h
      exact ⟨fun _ h => h, wpL_of_RRT hsel hd rest _ _ _ w (hr.putO hdo undef) (hdn.set hri) h3 hS h⟩
theorem cw_drawT {id : Nat} {ops : List Oper} {late : List Nat} {plan : List (Nat × Option Bool)} (S : World → Prop) (hm : P.follows .mixedOrders = true)
    (hc : (Region.noSelect ops.toArray && (ops.all (dstOK n) && (plan.length == ops.length && planOKT ops.toArray late plan (Array.replicate ops.length false)))) = true)
    (hS : S w.drew) (h : RR P S ops (Q .normal) (planOps ops plan) ρ w.drew) : CW P n (.region id ops.toArray true) Q ρ w := by
  unfold CW
  intro a hr
  simp only [Bool.and_eq_true, beq_iff_eq] at hc
  obtain ⟨h1, h2, h3, h4⟩ := hc
  refine wp_region_any hm (wpAny_of_wpL (late := fun j => late.contains j) (S := S) _ _ _ _ ?_)
  have := wpL_of_RRT h1 h2 plan (Array.replicate ops.length false) ρ a w.drew hr (Down.start _ _) h4 (fun _ => hS) h
  rw [h3] at this
  simpa using this
end
end Go.W
