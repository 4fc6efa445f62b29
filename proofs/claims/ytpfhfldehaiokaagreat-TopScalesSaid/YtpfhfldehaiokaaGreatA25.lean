import Derived.Test.YtpfhfldehaiokaaGreatA19
import Derived.Test.YtpfhfldehaiokaaGreatA24
set_option maxHeartbeats 8000000
namespace Go.W
def markC (ops : Array Oper) : List Nat → List Nat → List Nat
 | [], m => m
 | k :: ks, m => markC ops ks (bif m.any (fun i => waits ops k i) then k :: m else m)
def waitsC (ops : Array Oper) (j i : Nat) : Bool := (markC ops (List.range ops.size) [i]).contains j
theorem iM {ops : Array Oper} {i : Nat} : ∀ (ks m : List Nat), (∀ k ∈ m, k = i ∨ (k < ops.size ∧ ∃ l ∈ m, waits ops k l = true)) → (∀ k ∈ ks, k < ops.size) →
  ∀ k ∈ markC ops ks m, k = i ∨ (k < ops.size ∧ ∃ l ∈ markC ops ks m, waits ops k l = true)
 | [], m, h, _ => h
 | k0 :: ks, m, h, hk => by
  unfold markC
  cases hb : m.any (fun i => waits ops k0 i) with
  | false => exact iM ks m h (fun k hk' => hk k (List.mem_cons_of_mem _ hk'))
  | true =>
   refine iM ks (k0 :: m) (fun k hkm => ?_) (fun k hk' => hk k (List.mem_cons_of_mem _ hk'))
   rcases List.mem_cons.1 hkm with rfl | hkm
   ·obtain ⟨l, hl, hw⟩ := List.any_eq_true.1 hb
    exact .inr ⟨hk k (List.mem_cons_self ..), l, List.mem_cons_of_mem _ hl, hw⟩
   ·rcases h k hkm with e | ⟨h1, l, hl, hw⟩
    ·exact .inl e
    ·exact .inr ⟨h1, l, List.mem_cons_of_mem _ hl, hw⟩
theorem oI {ops : Array Oper} {listed : Array Bool} {i : Nat} (hd : Down ops listed) (ks m : List Nat) (h : ∀ k ∈ m, k = i ∨ (k < ops.size ∧ (listed.getD k false = true → listed.getD i false = true))) (hk : ∀ k ∈ ks, k < ops.size) :
  ∀ k ∈ markC ops ks m, k = i ∨ (k < ops.size ∧ (listed.getD k false = true → listed.getD i false = true)) := by
 induction ks generalizing m with
 | nil => exact h
 | cons k0 ks ih =>
  unfold markC
  cases hb : m.any (fun i => waits ops k0 i) with
  | false => exact ih m h (fun k hk' => hk k (List.mem_cons_of_mem _ hk'))
  | true =>
   refine ih (k0 :: m) (fun k hkm => ?_) (fun k hk' => hk k (List.mem_cons_of_mem _ hk'))
   rcases List.mem_cons.1 hkm with rfl | hkm
   ·obtain ⟨l, hl, hw⟩ := List.any_eq_true.1 hb
    have hks := hk k (List.mem_cons_self ..)
    refine .inr ⟨hks, fun hls => ?_⟩
    have hll := fo hd hks hls hw
    rcases h l hl with e | ⟨_, h2⟩
    ·rw [← e]; exact hll
    ·exact h2 hll
   ·exact h k hkm
theorem jd {ops : Array Oper} {listed : Array Bool} {i j : Nat} (hd : Down ops listed) (hi : i ∈ Region.ready .any ops listed) (hj : j ∈ Region.ready .any ops listed) (hji : ¬ j = i) : waitsC ops j i = false := by
 cases hw : waitsC ops j i with
 | false => rfl
 | true =>
  exfalso
  have hm : j ∈ markC ops (List.range ops.size) [i] := by unfold waitsC at hw; simpa using hw
  have h1 := iM (ops := ops) (i := i) (List.range ops.size) [i] (fun k hk => .inl (by simpa using hk)) (fun k hk => List.mem_range.1 hk)
  have h2 := oI hd (List.range ops.size) [i] (fun k hk => .inl (by simpa using hk)) (fun k hk => List.mem_range.1 hk)
  rcases h1 j hm with e | ⟨hjs, l, hl, hwl⟩
  ·exact hji e
  ·obtain ⟨_, oj, hoj, hall⟩ := mem_ready.1 hj
   have h0 := (mem_ready.1 hi).1
   simp only [waits, hoj, Array.any_eq_true', Bool.and_eq_true, beq_iff_eq] at hwl
   obtain ⟨e, he, hb, rfl⟩ := hwl
   have hll := hall e he hb
   have hli : listed.getD i false = true := by
    rcases h2 e.on hl with e' | ⟨_, h3⟩
    ·rw [← e']; exact hll
    ·exact h3 hll
   rcases Nat.lt_or_ge i listed.size with h' | h'
   ·simp [h'] at h0 hli; rw [h0] at hli; cases hli
   ·simp [Array.getElem?_eq_none h'] at hli
section
variable {P : Program} {n : Nat} {Q : Exit → Env → World → Prop} {ρ : Env} {w : World}
theorem qW {ops : Array Oper} {late : Nat → Bool} {Q : Exit → Act → World → Prop} {S : World → Prop} {i : Nat} {oi : Oper} {v : Value} (hi : ops[i]? = some oi)
  (hsel : Region.noSelect ops = true) (hQ : ∀ c a w, Q (.panic c) (a.put oi.dst v) w → Q (.panic c) a w) :
  ∀ (fuel : Nat) (listed : Array Bool) (a : Act) (w : World),
   (∀ j oj, ops[j]? = some oj → j ≠ i → listed.getD j true = false → (∀ e ∈ oj.after, Region.binds .any e = true → e.on ≠ i) → oi.apart ops oj = true) →
   (∀ j, late j = true → waitsC ops j i = true) → Down ops listed →
   i ∈ Region.ready .any ops listed → YieldsIf P ops S oi v a → S w →
   wpL P ops late Q S fuel (listed.setIfInBounds i true) (a.put oi.dst v) w → wpL P ops late Q S (fuel + 1) listed a w := by
 intro fuel
 induction fuel with
 | zero =>
  intro listed a w _ _ _ hr hy hS H
  refine ⟨fun h => (by rw [h] at hr; cases hr), fun j hj => ?_⟩
  by_cases hji : j = i
  ·subst hji; exact hy.wpOp hi hS ⟨fun _ h => h, H⟩
  ·have := ready_mono hj hji
   rw [H.1] at this
   cases this
 | succ fuel ih =>
  intro listed a w hfree hlate hdown hr hy hS H
  refine ⟨fun h => (by rw [h] at hr; cases hr), fun j hj => ?_⟩
  by_cases hji : j = i
  ·subst hji; exact hy.wpOp hi hS ⟨fun _ h => h, H⟩
  ·have hnl : late j = false := by
    cases h : late j with
    | false => rfl
    | true => have := hlate j h; rw [jd hdown hr hj hji] at this; cases this
   have h1 := H.2 j (ready_mono hj hji)
   obtain ⟨hjun, oj, hoj, hall⟩ := mem_ready.1 hj
   have hnot : ∀ e ∈ oj.after, Region.binds .any e = true → e.on ≠ i := fun e he hb heq => by
    have hw := cH hr hj
    simp only [waits, hoj] at hw
    rw [Array.any_eq_false'] at hw
    exact hw e he (by simp [hb, heq])
   have h2 := wpOp_putIf hoj (hfree j oj hoj hji hjun hnot) (fun cs b => Region.noSelect_spec hsel i oi cs b hi) (fun cs b => Region.noSelect_spec hsel j oj cs b hoj) hQ hy h1
   refine wpOp_mono (fun a' w' h3 => ⟨h3.2.1, ih (listed.setIfInBounds j true) a' w' (fun k ok hk hki hun hno => ?_) hlate (hdown.set hj) (ready_mono hr (Ne.symm hji)) h3.1 (h3.2.1 hnl hS) ?_⟩) h2
   ·refine hfree k ok hk hki ?_ hno
    by_cases hjk : j = k
    ·subst hjk; exact hjun
    ·rw [getD_set_ne true hjk] at hun; exact hun
   ·rw [Array.setIfInBounds_comm _ _ hji]
    exact h3.2.2
def planOKC (ops : Array Oper) (late : List Nat) : List (Nat × Option Bool) → Array Bool → Bool
 | [], listed => (Region.ready .any ops listed).isEmpty
 | (i, none) :: rest, listed => (Region.ready .any ops listed).contains i && (Region.free .any ops listed i && ((!rdAt ops i || late.all (fun j => waitsC ops j i)) && planOKC ops late rest (listed.setIfInBounds i true)))
 | (i, some k) :: rest, listed => (Region.ready .any ops listed == [i]) && ((bif k then !late.contains i else (late.contains i && !needP ops rest)) && planOKC ops late rest (listed.setIfInBounds i true))
theorem fK {ops : List Oper} {late : List Nat} {S : World → Prop} (hsel : Region.noSelect ops.toArray = true) (hd : ops.all (dstOK n) = true) :
  ∀ (plan : List (Nat × Option Bool)) (listed : Array Bool) (ρ : Env) (a : Act) (w : World), Rel n a ρ → Down ops.toArray listed → planOKC ops.toArray late plan listed = true → (needP ops.toArray plan = true → S w) →
   RR P S ops (Q .normal) (planOps ops plan) ρ w →
   wpL P ops.toArray (fun j => late.contains j) (lift n Q) S plan.length listed a w
 | [], listed, ρ, a, w, hr, _, hp, _, h => ⟨by simpa [planOKC] using hp, ρ, hr, by simpa only [planOps, RR] using h⟩
 | (i, none) :: rest, listed, ρ, a, w, hr, hdn, hp, hS, h => by
  simp only [planOKC, Bool.and_eq_true] at hp
  obtain ⟨h1, h2, h3, h4⟩ := hp
  have hri : i ∈ Region.ready .any ops.toArray listed := by simpa using h1
  obtain ⟨_, o, ho, _⟩ := mem_ready.1 hri
  have ho' : ops[i]? = some o := by simpa using ho
  have hdo : dstOK n o = true := List.all_eq_true.1 hd o (List.mem_of_getElem? ho')
  simp only [planOps, ho', RR] at h
  have hr3 : rdAt ops.toArray i = isRd o := by simp only [rdAt, ho]
  have en : needP ops.toArray ((i, none) :: rest) = (isRd o || needP ops.toArray rest) := by rw [← hr3]; rfl
  rw [en] at hS
  have hSr : needP ops.toArray rest = true → S w := fun hn => hS (by rw [hn]; simp)
  cases hrd : isRd o with
  | true =>
   have hS' : S w := hS (by rw [hrd]; rfl)
   have key : ∃ v, YieldsIf P ops.toArray S o v a ∧ RR P S ops (Q .normal) (planOps ops rest) (updO ρ o.dst v) w := by
    by_cases hw : wantedE ops ρ o = true
    ·rw [if_pos hw] at h
     obtain ⟨v, hv, h⟩ := h
     exact ⟨v, .inl ⟨by rw [hr.wanted]; exact hw, by rw [hr.ev]; exact fun w' hw' => hv w' (fun _ => hw')⟩, h⟩
    ·rw [if_neg hw] at h
     exact ⟨undef, .inr ⟨by rw [hr.wanted]; simpa using hw, rfl⟩, h⟩
   obtain ⟨v, hy, h⟩ := key
   rw [hr3, hrd] at h3
   simp only [Bool.not_true, Bool.false_or] at h3
   refine qW ho hsel (fun _ _ _ h => h) rest.length listed a w (Region.free_spec ho h2) (fun j hj => List.all_eq_true.1 h3 j (by simpa using hj)) hdn hri hy hS' ?_
   exact fK hsel hd rest _ _ _ w (hr.putO hdo v) (hdn.set hri) h4 hSr h
  | false =>
   have key : ∃ v, Yields P ops.toArray o v a ∧ RR P S ops (Q .normal) (planOps ops rest) (updO ρ o.dst v) w := by
    by_cases hw : wantedE ops ρ o = true
    ·rw [if_pos hw] at h
     obtain ⟨v, hv, h⟩ := h
     exact ⟨v, .inl ⟨by rw [hr.wanted]; exact hw, by rw [hr.ev]; exact fun w' => hv w' (fun hh => by rw [hrd] at hh; cases hh)⟩, h⟩
    ·rw [if_neg hw] at h
     exact ⟨undef, .inr ⟨by rw [hr.wanted]; simpa using hw, rfl⟩, h⟩
   obtain ⟨v, hy, h⟩ := key
   refine fv ho hsel (fun _ _ _ h => h) rest.length listed a w (Region.free_spec ho h2) hri hy ?_
   exact fK hsel hd rest _ _ _ w (hr.putO hdo v) (hdn.set hri) h4 hSr h
 | (i, some k) :: rest, listed, ρ, a, w, hr, hdn, hp, hS, h => by
  simp only [planOKC, Bool.and_eq_true, beq_iff_eq] at hp
  obtain ⟨h1, h2, h3⟩ := hp
  have hri : i ∈ Region.ready .any ops.toArray listed := by rw [h1]; simp
  obtain ⟨_, o, ho, _⟩ := mem_ready.1 hri
  have ho' : ops[i]? = some o := by simpa using ho
  have hdo : dstOK n o = true := List.all_eq_true.1 hd o (List.mem_of_getElem? ho')
  simp only [planOps, ho', RR] at h
  have en : needP ops.toArray ((i, some k) :: rest) = needP ops.toArray rest := rfl
  rw [en] at hS
  refine ⟨fun h0 => absurd (h1.symm.trans h0) (by simp), fun j hj => ?_⟩
  rw [h1] at hj
  simp only [List.mem_singleton] at hj
  subst hj
  unfold wpOp
  simp only [ho]
  rw [hr.wanted]
  have hkl : late.contains j = false → k = true := fun hl => by
   cases k with
   | true => rfl
   | false => simp only [cond_false, Bool.and_eq_true] at h2; rw [hl] at h2; cases h2.1
  have hkn : needP ops.toArray rest = true → k = true := fun hn => by
   cases k with
   | true => rfl
   | false => simp only [cond_false, Bool.and_eq_true] at h2; rw [hn] at h2; cases h2.2
  split
  ·rename_i hw
   rw [if_pos hw] at h
   exact .inl (OpW.wp hr h fun v w' hn => ⟨fun hl hS1 => hn.1 (hkl hl) hS1, fK hsel hd rest _ _ _ w' (hr.putO hdo v) (hdn.set hri) h3 (fun hh => hn.1 (hkn hh) (hS hh)) hn.2⟩)
  ·rename_i hw
   rw [if_neg hw] at h
   exact ⟨fun _ h => h, fK hsel hd rest _ _ _ w (hr.putO hdo undef) (hdn.set hri) h3 hS h⟩
theorem uU {id : Nat} {ops : List Oper} {late : List Nat} {plan : List (Nat × Option Bool)} (S : World → Prop) (hm : P.follows .mixedOrders = true)
  (hc : (Region.noSelect ops.toArray && (ops.all (dstOK n) && (plan.length == ops.length && planOKC ops.toArray late plan (Array.replicate ops.length false)))) = true)
  (hS : S w.drew) (h : RR P S ops (Q .normal) (planOps ops plan) ρ w.drew) : CW P n (.region id ops.toArray true) Q ρ w := by
 unfold CW
 intro a hr
 simp only [Bool.and_eq_true, beq_iff_eq] at hc
 obtain ⟨h1, h2, h3, h4⟩ := hc
 refine wp_region_any hm (dF (late := fun j => late.contains j) (S := S) _ _ _ _ ?_)
 have := fK h1 h2 plan (Array.replicate ops.length false) ρ a w.drew hr (Down.start _ _) h4 (fun _ => hS) h
 rw [h3] at this
 simpa using this
end
def intC (n : Nat) (f : Nat → Int) : List Value := (List.range n).map fun i => Value.int .i64 (f i)
theorem bU (n : Nat) (f : Nat → Int) : (intC n f).length = n := by simp [intC]
theorem fL {n i : Nat} {f : Nat → Int} (h : i < n) : (intC n f)[i]? = some (.int .i64 (f i)) := by simp [intC, h]
theorem cJ {n : Nat} {f g : Nat → Int} (h : ∀ i, i < n → f i = g i) : intC n f = intC n g := List.map_congr_left fun i hi => by rw [h i (List.mem_range.1 hi)]
theorem p9 {n i : Nat} {f : Nat → Int} {x : Int} : (intC n f).set i (.int .i64 x) = intC n (setF f i x) := by
 refine List.ext_getElem? fun j => ?_
 by_cases hj : j < n
 ·by_cases h : j = i
  ·subst h; rw [List.getElem?_set_self (by rw [bU]; exact hj), fL hj, aI]
  ·rw [List.getElem?_set_ne (fun e => h e.symm), fL hj, fL hj, aN _ _ h]
 ·rw [List.getElem?_eq_none (by rw [List.length_set, bU]; omega), List.getElem?_eq_none (by rw [bU]; omega)]
structure MI (w : World) (a : Option Addr) (r c : Nat) (s : Nat → SD) (F : Nat → Nat → Int) : Prop where
 top : Sl w a (topC r s)
 row : ∀ i, i < r → (s i).len = c ∧ Sl w (s i).a (intC c (F i))
 fit : ∀ i j, i < r → j < c → -9223372036854775808 ≤ F i j ∧ F i j ≤ 9223372036854775807
theorem MI.ext {w w' : World} {a : Option Addr} {r c : Nat} {s : Nat → SD} {F : Nat → Nat → Int} (h : MI w a r c s F) (e : Ex w w') : MI w' a r c s F := ⟨h.top.ext e, fun i hi => ⟨(h.row i hi).1, (h.row i hi).2.ext e⟩, h.fit⟩
section
variable {P : Program} {S : World → Prop} {ops : List Oper} {K : Env → World → Prop} {rest : List (Oper × Option Bool)} {ρ : Env} {w : World} {b : Option Bool} {d : Nat} {T : TypeId} {pos : String} {af : Array Edge}
theorem bu {x : Operand} {T1 : TypeId} {a : Option Addr} {j n : Nat} {f : Nat → Int} [Scal P T1] (hx : ev ρ x = .pointer (some (elt a j))) (hs : Rd b S w fun w' => Sl w' a (intC n f)) (hj : j < n)
  (h : RR P S ops K rest (upd ρ d (.int .i64 (f j))) w) : RR P S ops K ((⟨some d, .load T1 x, T, pos, af, none⟩, b) :: rest) ρ w :=
 ir hx (hs.imp fun w' hs => by
  have := hs.get j (by rw [bU]; exact hj)
  rw [this, List.getD_eq_getElem?_getD, fL hj]; rfl) h
end
end Go.W
namespace Go.Proofs.YtpfhfldehaiokaaGreat
open Go.W Go.LM Go.LA
theorem kl {r c cap : Nat} {w : World} {a : Option Addr} {s : Nat → SD} {F : Mat} (hM : MI w a r c s F) (hr : 1 ≤ r ∧ r ≤ 16) (hc : 1 ≤ c ∧ c ≤ 16) :
  CallsR Tryz.prog 19 #[.slice a r cap] w fun v w' => ∃ u, v = .tuple #[u, .bool true] ∧ RetMO 2 w r c F u w' := by
 have hpt := hM.top.plain (by rw [cv]; omega)
 have hlen : ∀ i, i < r → (s i).len = c := fun i hi => (hM.row i hi).1
 have h0 := hlen 0 (by omega)
 have lF : ∀ i j, i < r → j < c → Lb 2 (F i j) := fun i j hi hj => by have := hM.fit i j hi hj; unfold Lb; omega
 refine aE (args := [_]) Tryz.func19 rfl rfl ?_
 repeat' (first|refine bp rfl rfl (by omega) ?_|refine cW rfl rfl (by omega) ?_|refine aj rfl ?_|refine aa ?_|refine ak ?_|refine ai rfl ?_|refine ah ?_|refine bc rfl ?_|refine bJ rfl rfl ?_|refine ao rfl ?_|refine ay ?_|refine aC ?_)
 refine aW (ι := Nat) [2, 3, 5, 19, 20, 21, 22, 23, 24, 25, 26, 27, 28, 29, 30, 31, 32, 33, 34, 35, 36, 37, 38, 39, 40] (fun i => [(19, .int .i64 (i : Int))]) (fun i w' => i ≤ r ∧ w' = w) (fun i => r - i) 0 ⟨rfl, trivial⟩ ⟨by omega, rfl⟩ ?_
 rintro i ξ w2 ⟨hi, rfl⟩
 show CW _ _ _ _ (over [(19, .int .i64 (i : Int))] _) w2
 rcases Nat.lt_or_ge i r with hir | hir
 ·have hli := hlen i hir
  repeat' (first|refine bq rfl rfl (show ((i : Nat) : Int) < ((r : Nat) : Int) by omega) ?_|refine bp rfl rfl (by omega) ?_|refine cW rfl rfl (by omega) ?_|refine eI rfl rfl (by omega) ?_|refine az (j := i) rfl rfl hpt (by omega) ?_|refine df (j := i) rfl hM.top (by omega) ?_|refine az (j := 0) rfl rfl hpt (by omega) ?_|refine df (j := 0) rfl hM.top (by omega) ?_|refine aj rfl ?_|refine aa ?_|refine ak ?_|refine ai rfl ?_|refine ah ?_|refine bc rfl ?_|refine bJ rfl rfl ?_|refine aV rfl rfl (by omega) (by omega) ?_|refine aA rfl ?_|refine ao rfl ?_|refine ay ?_|refine aJ ?_|refine aC ?_)
  exact ⟨⟨i + 1, ⟨hir, rfl⟩, by omega, rfl, trivial⟩, (by (repeat (first|exact aG _ _ _|refine aB rfl ?_|refine ax rfl ?_|refine av rfl ?_|refine aw rfl ?_)))⟩
 ·have eir : r = i := by omega
  subst eir
  repeat' (first|refine bp rfl rfl (by omega) ?_|refine az (j := 0) rfl rfl hpt (by omega) ?_|refine df (j := 0) rfl hM.top (by omega) ?_|refine aj rfl ?_|refine aa ?_|refine ak ?_|refine ai rfl ?_|refine ah ?_|refine bc rfl ?_|refine ao rfl ?_|refine aT ?_|refine aO ?_|refine aU ?_)
  rw [h0]
  refine au (fp (r := r) (c := c) (by omega) (by omega)) rfl ?_
  rintro v w3 ⟨g, gs, cp, rfl, hO3, hE3⟩
  refine tvv ?_
  repeat' (first|refine aj rfl ?_|refine aa ?_|refine ak ?_|refine ai rfl ?_|refine ah ?_|refine bc rfl ?_|refine ay ?_)
  refine aW (ι := Nat) [7, 8, 50, 51, 52, 53, 54, 55, 56, 57, 58, 59, 60, 61, 62, 63, 64, 65, 66, 67, 68, 69, 70, 71, 72, 73, 74, 75, 76] (fun i => [(50, .int .i64 (i : Int))])
   (fun i w' => i ≤ r ∧ Ex w2 w' ∧ MO true 2 w' w2.heap.size g r c gs cp (fun x y => if x < i then F x y else 0)) (fun i => r - i)
   0 ⟨rfl, trivial⟩ ⟨by omega, hE3, (hO3.up (by omega)).congr fun x y _ _ => if_neg (by omega)⟩ ?_
  clear hO3 hE3
  rintro i ξ2 w4 ⟨hi, hE4, hO4⟩
  show CW _ _ _ _ (over [(50, .int .i64 (i : Int))] _) w4
  rcases Nat.lt_or_ge i r with hir | hir
  ·have hli := hlen i hir
   repeat' (first|refine bq rfl rfl (show ((i : Nat) : Int) < ((r : Nat) : Int) by omega) ?_|refine az (j := i) (a := a) rfl rfl hpt (by omega) ?_|refine df (j := i) (a := a) (n := r) (s := s) rfl (hM.ext hE4).top (by omega) ?_|refine aj rfl ?_|refine aa ?_|refine ak ?_|refine ai rfl ?_|refine ah ?_|refine bc rfl ?_|refine aA rfl ?_|refine ay ?_|refine aC ?_)
   refine aW (ι := Nat) [8, 58, 59, 60, 61, 62, 63, 64, 65, 66, 67, 68, 69, 70, 71, 72, 73, 74, 75] (fun j => [(58, .int .i64 (j : Int))])
    (fun j w' => j ≤ c ∧ Ex w2 w' ∧ MO true 2 w' w2.heap.size g r c gs cp (fun x y => if x < i ∨ (x = i ∧ y < j) then F x y else 0)) (fun j => c - j)
    0 ⟨rfl, trivial⟩ ⟨by omega, hE4, hO4.congr fun x y _ _ => by
     by_cases h : x < i
     ·rw [if_pos h, if_pos (.inl h)]
     ·rw [if_neg h, if_neg (by omega)]⟩ ?_
   clear hO4 hE4
   rintro j ξ3 w5 ⟨hj, hE5, hO5⟩
   show CW _ _ _ _ (over [(58, .int .i64 (j : Int))] _) w5
   rcases Nat.lt_or_ge j c with hjc | hjc
   ·obtain ⟨hhr, hbr, hcr, hEr⟩ := hO5.get hir
    have hrow := (hM.row i hir).2
    have hprow := hrow.plain (by rw [bU]; omega)
    have hfit := hM.fit i j hir hjc
    repeat' (first|refine bq rfl rfl (by omega) ?_|refine aa ?_|refine ak ?_|refine ai rfl ?_|refine ah ?_|refine aA rfl ?_|refine aC ?_)
    refine ay ?_
    repeat' (first|refine aj rfl ?_|refine aa ?_|refine ak ?_|refine ai rfl ?_|refine ah ?_)
    refine bn (late := [14]) (plan := [(0, none), (1, none), (2, none), (3, none), (4, none), (5, none), (6, none), (7, none), (8, none), (9, none), (10, none), (11, none), (12, some true), (13, none), (14, some false)]) (fun w' => Ex w5 w') bD (by kernel_rfl) (Ex.refl w5).drew ?_
    have hEd := (Ex.refl w5).drew
    repeat' (first|refine az (j := i) (a := some ⟨g, 0, none⟩) rfl rfl ⟨_, _, rfl⟩ (by omega) ?_|refine aZ (j := i) (a := some ⟨g, 0, none⟩) (n := r) (s := fun k => ⟨some ⟨gs k, 0, none⟩, c, cp k⟩) rfl (fun _ h => (hO5.ext h).top.sl) (by omega) rfl ?_|refine az (j := i) (a := a) rfl rfl hpt (by omega) ?_|refine df (j := i) (a := a) (n := r) (s := s) rfl (fun _ h => (hM.ext (hE5.trans h)).top) (by omega) ?_|refine az (j := j) (a := (s i).a) rfl rfl hprow (by omega) ?_|refine bu (j := j) (a := (s i).a) rfl (fun _ h => hrow.ext (hE5.trans h)) (by omega) ?_|refine aj rfl ?_)
    refine au (bV hfit.1 hfit.2 _) rfl ?_
    rintro v w6 ⟨hI6, hE6⟩
    refine ⟨fun _ h => h.trans hE6, ?_⟩
    obtain ⟨u, rfl⟩ := hI6.ih
    have hE56 := hEd.trans hE6
    repeat' (first|refine bE (j := j) (a := some ⟨gs i, 0, none⟩) rfl rfl ⟨_, _, rfl⟩ (by omega) ?_)
    refine eD (j := j) (n := cp i) (u := u) rfl rfl (hbr.ext hE56) (by omega) (fun w7 hc7 hb7 => ⟨fun h => (nomatch h), ?_⟩)
    repeat' (first|refine aj rfl ?_|refine aa ?_|refine ai rfl ?_|refine ah ?_|refine aV rfl rfl (by omega) (by omega) ?_|refine aJ ?_)
    refine ⟨⟨j + 1, ⟨hjc, (hE5.trans hE56).chg hc7 (hO5.row i hir).low, ((hO5.ext hE56).put hir (hbr.ext hE56) (fun k hk => (hEr k hk).ext hE56) (Ent.of hI6 (lF i j hir hjc)) hc7 hb7).congr fun x y _ _ => ?_⟩, by omega, rfl, trivial⟩, (by (repeat (first|exact aG _ _ _|refine aB rfl ?_|refine ax rfl ?_|refine av rfl ?_|refine aw rfl ?_)))⟩
    unfold setM
    by_cases h : x = i ∧ y = j
    ·rw [if_pos h, if_pos (by omega), h.1, h.2]
    ·rw [if_neg h]
     show _ = if x < i ∨ (x = i ∧ y < j) then F x y else 0
     by_cases h' : x < i ∨ (x = i ∧ y < j)
     ·rw [if_pos h', if_pos (by omega)]
     ·rw [if_neg h', if_neg (by omega)]
   ·have ejc : c = j := by omega
    subst ejc
    repeat' (first|refine bp rfl rfl (by omega) ?_|refine aj rfl ?_|refine aa ?_|refine ak ?_|refine ai rfl ?_|refine ah ?_|refine aV rfl rfl (by omega) (by omega) ?_|refine ao rfl ?_|refine aT ?_|refine aO ?_|refine aU ?_|refine aJ ?_)
    refine ⟨⟨i + 1, ⟨hir, hE5, hO5.congr fun x y _ hy => ?_⟩, by omega, rfl, trivial⟩, (by (repeat (first|exact aG _ _ _|refine aB rfl ?_|refine ax rfl ?_|refine av rfl ?_|refine aw rfl ?_)))⟩
    by_cases h : x < i + 1
    ·rw [if_pos h, if_pos (by omega)]
    ·rw [if_neg h, if_neg (by omega)]
  ·have eir : r = i := by omega
   subst eir
   repeat' (first|refine bp rfl rfl (by omega) ?_|refine aj rfl ?_|refine aa ?_|refine ak ?_|refine ai rfl ?_|refine ah ?_|refine ao rfl ?_|refine aT ?_|refine aO ?_|refine aU ?_|refine aK ?_)
   exact dw rfl (rt rfl) (rt rfl) ⟨_, rfl, g, gs, cp, rfl, hO4.congr fun x y hx _ => by rw [if_pos hx], hE4⟩
theorem jw {r c cap : Nat} {w : World} {a : Option Addr} {s : Nat → SD} {F : Mat} (hM : MI w a r c s F) (hr : 1 ≤ r ∧ r ≤ 16) (hc : 1 ≤ c ∧ c ≤ 16) :
  CallsR Tryz.prog 6 #[.slice a r cap] w (RetMO 2 w r c F) := by
 refine aE (args := [_]) Tryz.func6 rfl rfl ?_
 repeat' (first|refine aj rfl ?_|refine aa ?_|refine ak ?_|refine ai rfl ?_|refine ah ?_)
 refine au (kl hM hr hc) rfl ?_
 rintro v w1 ⟨_, rfl, g, gs, cp, rfl, hO, hE1⟩
 refine tvv ?_
 repeat' (first|refine aR rfl rfl ?_|refine aj rfl ?_|refine aa ?_|refine ak ?_|refine ai rfl ?_|refine ah ?_|refine aK ?_)
 exact bo rfl (rt rfl) ⟨g, gs, cp, rfl, hO, hE1⟩
open Go.W Go.LM Go.LA Go.PM
section
variable {P : Program} {S : World → Prop} {ops : List Oper} {K : Env → World → Prop} {rest : List (Oper × Option Bool)} {ρ : Env} {w : World} {kf : Bool} {d : Nat} {T : TypeId} {pos : String} {af : Array Edge}
theorem sY (n : Nat) : (List.replicate n (0 : Int)).map (Value.int .i64) = intC n fun _ => 0 := by
 apply List.ext_getElem
 ·simp [intC]
 ·intro i h1 h2; simp [intC]
theorem eF {T1 E y n : Nat} {x1 x2 : Operand} [hT : Slc P T1 E 1 y] [hz : Zro P E (.int .i64 0)] (h1 : ev ρ x1 = .int .i64 n) (h2 : ev ρ x2 = .int .i64 n) (hb : y * n ≤ 281474976710656) (hm : n ≤ 9223372036854775807)
  (h : ∀ g w', New w w' g E (intC n fun _ => 0) → (kf = true → S w → S w') ∧ RR P S ops K rest (upd ρ d (.slice (some ⟨g, 0, none⟩) n n)) w') :
  RR P S ops K ((⟨some d, .makeSlice T1 x1 x2, T, pos, af, none⟩, some kf) :: rest) ρ w :=
 vF h1 h2 hb hm (fun g w' hn => h g w' (by rw [← sY]; exact hn))
theorem cT {x y : Operand} {T1 : TypeId} {g j n Tb : Nat} {f : Nat → Int} {u : Int} [hT : Scal P T1] (hx : ev ρ x = .pointer (some (elt (some ⟨g, 0, none⟩) j))) (hy : ev ρ y = .int .i64 u)
  (hb : Blk w g Tb (intC n f)) (hj : j < n)
  (h : ∀ w', Chg g w w' → Blk w' g Tb (intC n (setF f j u)) → (kf = true → S w → S w') ∧ RR P S ops K rest ρ w') :
  RR P S ops K ((⟨none, .store T1 x y, T, pos, af, none⟩, some kf) :: rest) ρ w :=
 fy (v := .int .i64 u) hx hy rfl hb (by rw [bU]; exact hj) (fun w' hc hb' => h w' hc (by rw [← p9]; exact hb'))
end
structure MIO (w : World) (lo g r c : Nat) (gs : Nat → Nat) (F : Mat) : Prop where
 low : lo ≤ g
 top : Blk w g 58 (topC r fun i => ⟨some ⟨gs i, 0, none⟩, c, c⟩)
 row : ∀ i, i < r → lo ≤ gs i ∧ Blk w (gs i) 2 (intC c (F i))
 off : ∀ i, i < r → gs i ≠ g
 inj : ∀ i j, i < r → j < r → gs i = gs j → i = j
theorem MIO.mi {w : World} {lo g r c : Nat} {gs : Nat → Nat} {F : Mat} (h : MIO w lo g r c gs F) (hf : ∀ i j, i < r → j < c → -9223372036854775808 ≤ F i j ∧ F i j ≤ 9223372036854775807) : MI w (some ⟨g, 0, none⟩) r c (fun i => ⟨some ⟨gs i, 0, none⟩, c, c⟩) F :=
 ⟨h.top.sl, fun i hi => ⟨rfl, (h.row i hi).2.sl⟩, hf⟩
theorem MIO.ext {w w' : World} {lo g r c : Nat} {gs : Nat → Nat} {F : Mat} (h : MIO w lo g r c gs F) (e : Ex w w') : MIO w' lo g r c gs F := ⟨h.low, h.top.ext e, fun i hi => ⟨(h.row i hi).1, (h.row i hi).2.ext e⟩, h.off, h.inj⟩
end Go.Proofs.YtpfhfldehaiokaaGreat
namespace Go.Proofs.YtpfhfldehaiokaaGreat
open Go.W Go.LM Go.LA
theorem iN {p : Nat} {v : Value} {z : Int} {w : World} (hz : IntK p w v z) (hlt : z.natAbs < 9223372036854775808) :
  CallsR Tryz.prog 9 #[v] w fun r w' => r = .tuple #[.int .i64 z, .bool true] ∧ Ex w w' := by
 obtain ⟨n1, a1, c1, l1, rfl, hL1, rfl, _⟩ := hz
 have tl := bh l1
 rw [dh] at hlt
 have hll : (trimL l1).length ≤ 2 := cR (bA l1) (by rw [tl]; omega)
 refine aE (args := [_]) Tryz.func9 rfl rfl ?_
 repeat' (first|refine bC rfl (fun g w1 hn1 => tvv ?_)|refine aP rfl hn1.blk rfl ?_|refine aj rfl ?_|refine aa ?_|refine ak ?_|refine ai rfl ?_|refine ah ?_|refine aM rfl ?_)
 refine au (bW (hL1.ext hn1.ex)) rfl ?_
 rintro v w2 ⟨a2, c2, rfl, hL2, hf2, hE2⟩
 refine tvv ?_
 repeat' (first|refine aj rfl ?_|refine aa ?_|refine ak ?_|refine ai rfl ?_|refine ah ?_)
 refine au (fV hL2 hll) rfl ?_
 rintro v w3 ⟨rfl, hE3⟩
 refine tvv ?_
 rw [tl]
 have hb := (hn1.blk.ext hE2).ext hE3
 have hE := (hn1.ex.trans hE2).trans hE3
 have yes : ∀ {v : Value}, v = .tuple #[.int .i64 (sgn n1 (natOf l1)), .bool true] → v = .tuple #[.int .i64 (sgn n1 (natOf l1)), .bool true] := fun e => e
 rcases Bool.eq_false_or_eq_true n1 with rfl | rfl
 ·repeat' (first|refine cW rfl rfl (by omega) ?_|refine aP rfl hb rfl ?_|refine fz rfl rfl (by omega) ?_|refine jZ rfl ?_|refine im rfl ?_|refine aj rfl ?_|refine aa ?_|refine ak ?_|refine ai rfl ?_|refine ah ?_|refine bc rfl ?_|refine bJ rfl rfl ?_|refine aM rfl ?_|refine aA rfl ?_|refine ao rfl ?_|refine ay ?_|refine aK ?_|refine bf ?_|refine cj ?_)
  have hw := mr (m := natOf l1) (by omega)
  exact dw rfl (rt rfl) (rt rfl) ⟨yes (by rw [hw]; rfl), hE⟩
 ·repeat' (first|refine cW rfl rfl (by omega) ?_|refine aP rfl hb rfl ?_|refine bq rfl rfl (by omega) ?_|refine cF rfl (cK (by omega) (by omega)) ?_|refine aj rfl ?_|refine aa ?_|refine ak ?_|refine ai rfl ?_|refine ah ?_|refine bc rfl ?_|refine bJ rfl rfl ?_|refine bY rfl rfl ?_|refine aM rfl ?_|refine aA rfl ?_|refine ao rfl ?_|refine ay ?_|refine aK ?_|refine bf ?_|refine cj ?_)
  exact dw rfl (rt rfl) (rt rfl) ⟨rfl, hE⟩
theorem MIO.lower {w : World} {lo lo' g r c : Nat} {gs : Nat → Nat} {F : Mat} (h : MIO w lo g r c gs F) (hl : lo' ≤ lo) : MIO w lo' g r c gs F := ⟨Nat.le_trans hl h.low, h.top, fun i hi => ⟨Nat.le_trans hl (h.row i hi).1, (h.row i hi).2⟩, h.off, h.inj⟩
theorem iO {cn : Bool} {K r c cap : Nat} {w : World} {a : Option Addr} {s : Nat → SD} {F : Mat} (hM : MX cn K w a r c s F) (hr : 1 ≤ r ∧ r ≤ 16) (hc : 1 ≤ c ∧ c ≤ 16) (hf : ∀ i j, i < r → j < c → (F i j).natAbs < 9223372036854775808) :
  CallsR Tryz.prog 8 #[.slice a r cap] w fun v w' => ∃ (g : Nat) (gs : Nat → Nat), v = .tuple #[.slice (some ⟨g, 0, none⟩) r r, .bool true] ∧ MIO w' w.heap.size g r c gs F ∧ Ex w w' := by
 have hpt := hM.plain (by omega)
 refine aE (args := [_]) Tryz.func8 rfl rfl ?_
 repeat' (first|refine aj rfl ?_|refine aa ?_|refine ak ?_|refine ai rfl ?_|refine ah ?_)
 refine au (dL hM.top) rfl ?_
 rintro v w1 ⟨rfl, hE1⟩
 refine tvv ?_
 rw [eK hM hr hc]
 repeat' (first|refine aR rfl rfl ?_|refine eC (n := r) rfl rfl (by omega) (by omega) (fun g w3 hn3 => tvv ?_)|refine aj rfl ?_|refine aa ?_|refine ak ?_|refine ai rfl ?_|refine ah ?_|refine bc rfl ?_|refine ao rfl ?_|refine ay ?_|refine aC ?_)
 have s1 := hE1.size
 have l3 := hn3.lo
 have s3 := hn3.ex.size
 have lb3 := hn3.hi
 have hE03 := hE1.trans hn3.ex
 refine aW (ι := Nat × (Nat → Nat)) [2, 3, 8, 9, 10, 11, 24, 25, 26, 27, 28, 29, 30, 31, 32, 33, 34, 35, 36, 37, 38, 39, 40, 41, 42, 43, 44, 45, 46, 47, 48, 49, 50, 51, 52, 53, 54, 55, 56, 57, 58, 59, 60, 61] (fun t => [(24, .int .i64 (t.1 : Int))])
  (fun t w' => (t.1 ≤ r ∧ Ex w w' ∧ w3.heap.size ≤ w'.heap.size) ∧ Blk w' g 58 (topC r fun k => if k < t.1 then ⟨some ⟨t.2 k, 0, none⟩, c, c⟩ else sd0) ∧
   (∀ k, k < t.1 → w3.heap.size ≤ t.2 k ∧ Blk w' (t.2 k) 2 (intC c (F k))) ∧ ∀ k l, k < t.1 → l < t.1 → t.2 k = t.2 l → k = l) (fun t => r - t.1)
  (0, fun _ => 0) ⟨rfl, trivial⟩ ⟨⟨by simp only; omega, hE03, Nat.le_refl _⟩, hn3.blk, fun k h => by simp only at h; omega, fun k l h => by simp only at h; omega⟩ ?_
 rintro ⟨i, gs⟩ ξ w4 ⟨⟨hi, hE4, hs4⟩, hG4, hrow, hinj⟩
 simp only at hi hG4 hrow hinj
 show CW _ _ _ _ (over [(24, .int .i64 (i : Int))] _) w4
 have hgl := hG4.lt
 rcases Nat.lt_or_ge i r with hir | hir
 ·repeat' (first|refine bq rfl rfl (by omega) ?_|refine aj rfl ?_|refine aa ?_|refine ak ?_|refine ai rfl ?_|refine ah ?_|refine aA rfl ?_|refine ay ?_|refine aC ?_)
  refine eF (n := c) rfl rfl (by omega) (by omega) (fun gr w5 hn5 => tvv ?_)
  have l5 := hn5.lo
  have s5 := hn5.ex.size
  have hG5 := hG4.ext hn5.ex
  repeat' (first|refine az (j := i) rfl rfl ⟨_, _, rfl⟩ (by omega) ?_|refine di (j := i) (u := ⟨some ⟨gr, 0, none⟩, c, c⟩) rfl rfl hG5 hir (fun w6 hc6 hG6 => tvv ?_)|refine aj rfl ?_|refine aa ?_|refine ak ?_|refine ai rfl ?_|refine ah ?_)
  have hR6 := hn5.blk.chg hc6 (by omega)
  have hE6 := (hE4.trans hn5.ex).chg hc6 (by omega)
  have s6 := hc6.size
  have hrow6 : ∀ k, k < i → w3.heap.size ≤ gs k ∧ Blk w6 (gs k) 2 (intC c (F k)) := fun k hk => by
   have h1 := hrow k hk
   exact ⟨h1.1, (h1.2.ext hn5.ex).chg hc6 (by omega)⟩
  have hold : ∀ k, k < i → gs k < w4.heap.size := fun k hk => (hrow k hk).2.lt
  have hi0 : setF (fun k => if k < i then (⟨some ⟨gs k, 0, none⟩, c, c⟩ : SD) else sd0) i ⟨some ⟨gr, 0, none⟩, c, c⟩ i = ⟨some ⟨gr, 0, none⟩, c, c⟩ := aI _ _ _
  repeat' (first|refine aZ (j := i) rfl hG6.sl hir hi0 ?_|refine aj rfl ?_|refine aa ?_|refine ah ?_|refine bc rfl ?_|refine ay ?_)
  refine aW (ι := Nat × (Nat → Int)) [2, 3, 9, 10, 11, 37, 38, 39, 40, 41, 42, 43, 44, 45, 46, 47, 48, 49, 50, 51, 52, 53, 54, 55, 56, 57, 58, 59, 60] (fun t => [(37, .int .i64 (t.1 : Int))])
   (fun t w' => (t.1 ≤ c ∧ Ex w w' ∧ w6.heap.size ≤ w'.heap.size) ∧
    Blk w' g 58 (topC r (setF (fun k => if k < i then ⟨some ⟨gs k, 0, none⟩, c, c⟩ else sd0) i ⟨some ⟨gr, 0, none⟩, c, c⟩)) ∧ (∀ k, k < i → Blk w' (gs k) 2 (intC c (F k))) ∧ Blk w' gr 2 (intC c t.2) ∧ ∀ l, l < t.1 → t.2 l = F i l) (fun t => c - t.1)
   (0, fun _ => 0) ⟨rfl, trivial⟩ ⟨⟨by simp only; omega, hE6, Nat.le_refl _⟩, hG6, fun k hk => (hrow6 k hk).2, hR6, fun l h => by simp only at h; omega⟩ ?_
  rintro ⟨j, f⟩ ξ2 w7 ⟨⟨hj, hE7, hs7⟩, hG7, hrow7, hR7, hf7⟩
  simp only at hj hR7 hf7
  show CW _ _ _ _ (over [(37, .int .i64 (j : Int))] _) w7
  rcases Nat.lt_or_ge j c with hjc | hjc
  ·obtain ⟨p, d, hh, e1, _, hpp, hS, hEn⟩ := (hM.ext hE7).get hir (by omega)
   repeat' (first|refine bq rfl rfl (by omega) ?_|refine az (j := i) (a := a) rfl rfl hpt (by omega) ?_|refine aZ (j := i) (a := a) (n := r) (s := s) rfl (hM.ext hE7).top hir e1 ?_|refine bE (j := j) (a := p) rfl rfl hpp (by omega) ?_|refine bX (j := j) (n := c) (f := hh) (a := p) rfl hS hpp hjc ?_|refine aj rfl ?_|refine aa ?_|refine ak ?_|refine ai rfl ?_|refine ah ?_|refine aA rfl ?_|refine ay ?_|refine aC ?_)
   refine au (iN (hEn j hjc).k (hf i j hir hjc)) rfl ?_
   rintro v w8 ⟨rfl, hE8⟩
   refine tvv ?_
   have hG8 := hG7.ext hE8
   have hR8 := hR7.ext hE8
   repeat' (first|refine aR rfl rfl ?_|refine az (j := i) (a := some ⟨g, 0, none⟩) rfl rfl ⟨_, _, rfl⟩ (by omega) ?_|refine aZ (j := i) (a := some ⟨g, 0, none⟩) rfl hG8.sl hir hi0 ?_|refine az (j := j) (a := some ⟨gr, 0, none⟩) rfl rfl ⟨_, _, rfl⟩ (by omega) ?_|refine aj rfl ?_|refine aa ?_|refine ak ?_|refine ai rfl ?_|refine ah ?_|refine ao rfl ?_|refine aC ?_)
   refine cT (j := j) (n := c) (f := f) (u := F i j) rfl rfl hR8 hjc (fun w9 hc9 hb9 => tvv ?_)
   repeat' (first|refine aj rfl ?_|refine aa ?_|refine ai rfl ?_|refine ah ?_|refine aV rfl rfl (by omega) (by omega) ?_|refine aJ ?_)
   have s8 := hE8.size
   have s9 := hc9.size
   refine ⟨⟨(j + 1, setF f j (F i j)), ⟨⟨hjc, (hE7.trans hE8).chg hc9 (by have := hE4.size; omega), by omega⟩, hG8.chg hc9 (by omega), fun k hk => ((hrow7 k hk).ext hE8).chg hc9 (by have := hold k hk; omega), hb9, fun l hl => ?_⟩, by simp only; omega, rfl, trivial⟩, (by (repeat (first|exact aG _ _ _|refine aB rfl ?_|refine ax rfl ?_|refine av rfl ?_|refine aw rfl ?_)))⟩
   simp only at hl ⊢
   by_cases e : l = j
   ·subst e; exact aI _ _ _
   ·rw [aN _ _ e]; exact hf7 l (by omega)
  ·have ejc : c = j := by omega
   subst ejc
   repeat' (first|refine bp rfl rfl (by omega) ?_|refine aj rfl ?_|refine aa ?_|refine ak ?_|refine ai rfl ?_|refine ah ?_|refine aV rfl rfl (by omega) (by omega) ?_|refine ao rfl ?_|refine aT ?_|refine aO ?_|refine aU ?_|refine aJ ?_)
   refine ⟨⟨(i + 1, setF gs i gr), ⟨⟨hir, hE7, by omega⟩, ?_, fun k hk => ?_, fun k l hk hl he => ?_⟩, by simp only; omega, rfl, trivial⟩, (by (repeat (first|exact aG _ _ _|refine aB rfl ?_|refine ax rfl ?_|refine av rfl ?_|refine aw rfl ?_)))⟩
   ·simp only
    rw [bF (s' := setF (fun k => if k < i then (⟨some ⟨gs k, 0, none⟩, c, c⟩ : SD) else sd0) i ⟨some ⟨gr, 0, none⟩, c, c⟩) (fun k hk => ?_)]
    ·exact hG7
    ·by_cases e : k = i
     ·subst e; rw [if_pos (by omega), aI, aI]
     ·rw [aN _ _ e, aN _ _ e]
      by_cases h : k < i
      ·rw [if_pos h, if_pos (by omega)]
      ·rw [if_neg h, if_neg (by omega)]
   ·simp only at hk ⊢
    by_cases e : k = i
    ·subst e; rw [aI]; exact ⟨by omega, by rw [← cJ hf7]; exact hR7⟩
    ·rw [aN _ _ e]; exact ⟨(hrow6 k (by omega)).1, hrow7 k (by omega)⟩
   ·simp only at hk hl he
    by_cases e : k = i
    ·by_cases e' : l = i
     ·omega
     ·rw [e, aI, aN _ _ e'] at he; have := hold l (by omega); omega
    ·by_cases e' : l = i
     ·rw [e', aI, aN _ _ e] at he; have := hold k (by omega); omega
     ·rw [aN _ _ e, aN _ _ e'] at he; exact hinj k l (by omega) (by omega) he
 ·have eir : r = i := by omega
  subst eir
  repeat' (first|refine bp rfl rfl (by omega) ?_|refine aj rfl ?_|refine aa ?_|refine ak ?_|refine ai rfl ?_|refine ah ?_|refine ao rfl ?_|refine aT ?_|refine aO ?_|refine aU ?_|refine aK ?_)
  refine dw rfl (rt rfl) (rt rfl) ⟨g, gs, rfl, ⟨by omega, ?_, fun k hk => ⟨by have := (hrow k hk).1; omega, (hrow k hk).2⟩, fun k hk e => by have := (hrow k hk).1; omega, hinj⟩, hE4⟩
  rw [bF (s' := fun k => if k < r then (⟨some ⟨gs k, 0, none⟩, c, c⟩ : SD) else sd0) (fun k hk => (if_pos hk).symm)]
  exact hG4
def RedV (n : Nat) (D : Int) (w : World) (v : Value) (w' : World) : Prop :=
 ∃ g gs H gu, v = .tuple #[.slice (some ⟨g, 0, none⟩) n n, .slice (some ⟨gu, 0, none⟩) n n, .int .i64 0] ∧ Rd n H ∧ det n H = D ∧ MIO w' w.heap.size g n n gs H ∧ Ex w w'
theorem sZ {n k : Nat} {A : Mat} (h : G3 n A k) : det n A ≤ 10000 := by
 have hn := h.hn
 obtain rfl | rfl | rfl : n = 1 ∨ n = 2 ∨ n = 3 := by omega
 ·have := h.b1; omega
 ·have := h.b2 (by omega); omega
 ·have := h.b3 (by omega); omega
theorem mC {cn : Bool} {n cap : Nat} {w : World} {a : Option Addr} {s : Nat → SD} {A : Mat} (hM : MX cn 2 w a n n s A) (hG : G3 n A 1) (hP : PosM n A) :
  CallsR Tryz.prog 14 #[.slice a n cap] w (RedV n (det n A) w) := by
 have hn := hG.hn
 refine aE (args := [_]) Tryz.func14 rfl rfl ?_
 repeat' (first|refine aj rfl ?_|refine aa ?_|refine ak ?_|refine ai rfl ?_|refine ah ?_)
 refine au (gO hM (by omega) (by decide)) rfl ?_
 rintro v w1 ⟨e, rfl, he, hE1⟩
 refine tvv ?_
 obtain rfl : e = 0 := he.2 hP
 repeat' (first|refine aj rfl ?_|refine aa ?_|refine ak ?_|refine ai rfl ?_|refine ah ?_|refine ao rfl ?_|refine aC ?_)
 refine au (mA (hM.ext hE1) (by omega) (by decide)) rfl ?_
 rintro v w2 ⟨t, rfl, ht, hE2⟩
 refine tvv ?_
 obtain rfl : t = true := ht.2 (sZ hG)
 have hE12 := hE1.trans hE2
 repeat' (first|refine aj rfl ?_|refine aa ?_|refine ak ?_|refine ai rfl ?_|refine ah ?_|refine ao rfl ?_|refine aC ?_)
 refine au (jg (hM.ext hE12) (by omega) (by omega)) rfl ?_
 rintro v w3 ⟨g3, gs3, cp3, rfl, hO3, hE3⟩
 refine tvv ?_
 have hE13 := hE12.trans hE3
 repeat' (first|refine aj rfl ?_|refine aa ?_|refine ak ?_|refine ai rfl ?_|refine ah ?_|refine bc rfl ?_)
 refine au (f5 (n := n) (by omega)) rfl ?_
 rintro v w4 ⟨u, rfl, g4, gs4, cp4, rfl, hO4, hE4⟩
 refine tvv ?_
 have hE14 := hE13.trans hE4
 have s13 := hE13.size
 have s12 := hE12.size
 repeat' (first|refine aR rfl rfl ?_|refine aj rfl ?_|refine aa ?_|refine ah ?_|refine ay ?_)
 refine aW (ι := Nat × (Mat × Nat × (Nat → Nat) × (Nat → Nat)) × (Mat × Nat × (Nat → Nat) × (Nat → Nat))) [2, 3, 4, 6, 7, 9, 10, 11, 12, 29, 30, 31, 32, 33, 34, 35, 36, 37, 38, 39, 40, 41, 42, 43, 44, 45, 46, 47, 48]
  (fun t => [(6, .slice (some ⟨t.2.1.2.1, 0, none⟩) n n), (7, .slice (some ⟨t.2.2.2.1, 0, none⟩) n n)])
  (fun t w' => meas n t.2.1.1 + t.1 ≤ 5839 ∧ Ex w w' ∧ G3 n t.2.1.1 (1 + t.1) ∧ det n t.2.1.1 = det n A ∧ MO true 11700 w' w.heap.size t.2.1.2.1 n n t.2.1.2.2.1 t.2.1.2.2.2 t.2.1.1 ∧ MO true (1 + t.1 * 187219) w' w.heap.size t.2.2.2.1 n n t.2.2.2.2.1 t.2.2.2.2.2 t.2.2.1) (fun t => meas n t.2.1.1)
  (0, (A, g3, gs3, cp3), (idM, g4, gs4, cp4)) ⟨rfl, rfl, trivial⟩ ⟨by have := wi hG; simp only; omega, hE14, hG, rfl, ((hO3.ext hE4).mono s12).up (by omega), (hO4.mono s13).up (by simp only; omega)⟩ ?_
 clear hO3 hO4 hE4 hE3 hE2 hE1 hE12 hE13 hE14 s13 s12
 rintro ⟨k, ⟨H, gh, gsh, cph⟩, ⟨T, gt, gst, cpt⟩⟩ ξ w5 ⟨hk, hE5, hG5, hD5, hH5, hT5⟩
 simp only at hk hG5 hD5 hH5 hT5
 show CW _ _ _ _ (over [(6, .slice (some ⟨gh, 0, none⟩) n n), (7, .slice (some ⟨gt, 0, none⟩) n n)] _) w5
 have s5 := hE5.size
 repeat' (first|refine aj rfl ?_|refine ak ?_|refine ai rfl ?_|refine ay ?_)
 refine au (oG hH5.mx (by omega) hG5.pos (by decide)) rfl ?_
 rintro v w6 hS
 refine tvv ?_
 have next : ∀ {U : Mat} {u : Value} {w6 : World}, RetMO (16 * 11700 + 18) w5 n n U u w6 → G3 n (cong n U H) (1 + k + 1) → det n (cong n U H) = det n H → meas n (cong n U H) < meas n H → True := fun _ _ _ _ => trivial
 rcases hS with ⟨rfl, hA, hE6⟩ | ⟨i, j, u, hji, hin, hA, hs, hu, rfl, g7, gs7, cp7, rfl, hU, hE6⟩ | ⟨i, u, h0, hin, hA, hs, hu, rfl, g7, gs7, cp7, rfl, hU, hE6⟩
 ·have hR := hG5.rd hA
  repeat' (first|refine aR rfl rfl ?_|refine aj rfl ?_|refine aa ?_|refine ak ?_|refine ai rfl ?_|refine ah ?_|refine aA rfl ?_)
  refine au (iO (hH5.ext hE6).mx (by omega) (by omega) (fun i j hi hj => by have := hR.ent i j hi hj; omega)) rfl ?_
  rintro v w7 ⟨g, gs, rfl, hO7, hE7⟩
  refine tvv ?_
  have s6 := hE6.size
  repeat' (first|refine aR rfl rfl ?_|refine aj rfl ?_|refine aa ?_|refine ak ?_|refine ai rfl ?_|refine ah ?_|refine aK ?_|refine bf ?_|refine cj ?_)
  exact eJ rfl (rt rfl) (rt rfl) (rt rfl) ⟨g, gs, H, _, rfl, hR, hD5, hO7.lower (by omega), (hE5.trans hE6).trans hE7⟩
 ·obtain ⟨hG6, hD6, hm6⟩ := hG5.size hji hin hA hs hu
  generalize sizeU i j (-((2 * bm H j i j + det (j + 1) H) / (2 * det (j + 1) H))) = U at hU hG6 hD6 hm6
  have s6 := hE6.size
  repeat' (first|refine aR rfl rfl ?_|refine aj rfl ?_|refine aa ?_|refine ak ?_|refine ai rfl ?_|refine ah ?_|refine ao rfl ?_|refine aC ?_)
  refine au (gd (hH5.ext hE6).mx hU.mx (by omega) (by decide)) rfl ?_
  rintro v w7 ⟨g8, gs8, cp8, rfl, hH7, hE7⟩
  refine tvv ?_
  have hE67 := hE6.trans hE7
  repeat' (first|refine aj rfl ?_)
  refine au (ec (hT5.ext hE67).mx (hU.ext hE7).mx (by omega) (by omega) (by omega) (by omega)) rfl ?_
  rintro v w8 ⟨g9, gs9, cp9, rfl, hT8, hE8⟩
  refine tvv ?_
  repeat' (first|refine aj rfl ?_|refine aa ?_|refine ah ?_|refine aJ ?_)
  have s7 := hE7.size
  exact ⟨⟨(k + 1, (cong n U H, g8, gs8, cp8), (mm n T U, g9, gs9, cp9)), ⟨by simp only; omega, (hE5.trans hE67).trans hE8, hG6, hD6.trans hD5, ((hH7.ext hE8).mono (by omega)).sharp (fun x y hx hy => (hG6.ent hx hy).mono (by omega)), (hT8.mono (by omega)).up (by simp only; omega)⟩, hm6, rfl, rfl, trivial⟩, (by (repeat (first|exact aG _ _ _|refine aB rfl ?_|refine ax rfl ?_|refine av rfl ?_|refine aw rfl ?_)))⟩
 ·obtain ⟨hG6, hD6, hm6⟩ := hG5.swap h0 hin hA hs hu
  generalize swapU i = U at hU hG6 hD6 hm6
  have s6 := hE6.size
  repeat' (first|refine aR rfl rfl ?_|refine aj rfl ?_|refine aa ?_|refine ak ?_|refine ai rfl ?_|refine ah ?_|refine ao rfl ?_|refine aC ?_)
  refine au (gd (hH5.ext hE6).mx hU.mx (by omega) (by decide)) rfl ?_
  rintro v w7 ⟨g8, gs8, cp8, rfl, hH7, hE7⟩
  refine tvv ?_
  have hE67 := hE6.trans hE7
  repeat' (first|refine aj rfl ?_)
  refine au (ec (hT5.ext hE67).mx (hU.ext hE7).mx (by omega) (by omega) (by omega) (by omega)) rfl ?_
  rintro v w8 ⟨g9, gs9, cp9, rfl, hT8, hE8⟩
  refine tvv ?_
  repeat' (first|refine aj rfl ?_|refine aa ?_|refine ah ?_|refine aJ ?_)
  have s7 := hE7.size
  exact ⟨⟨(k + 1, (cong n U H, g8, gs8, cp8), (mm n T U, g9, gs9, cp9)), ⟨by simp only; omega, (hE5.trans hE67).trans hE8, hG6, hD6.trans hD5, ((hH7.ext hE8).mono (by omega)).sharp (fun x y hx hy => (hG6.ent hx hy).mono (by omega)), (hT8.mono (by omega)).up (by simp only; omega)⟩, hm6, rfl, rfl, trivial⟩, (by (repeat (first|exact aG _ _ _|refine aB rfl ?_|refine ax rfl ?_|refine av rfl ?_|refine aw rfl ?_)))⟩
end Go.Proofs.YtpfhfldehaiokaaGreat
