import Derived.Laws.StructEq
import Derived.Test.YthhfjagnmhhapaaA01
import Derived.Test.YthhfjagnmhhapaaA02
import Derived.Test.YthhfjagnmhhapaaA03
import Derived.Test.YthhfjagnmhhapaaA04
import Derived.Test.YthhfjagnmhhapaaA05
import Derived.Test.YthhfjagnmhhapaaA06
import Derived.Test.YthhfjagnmhhapaaA07
import Derived.Test.YthhfjagnmhhapaaA08
import Derived.Test.YthhfjagnmhhapaaA09
import Derived.Test.YthhfjagnmhhapaaA10
import Derived.Test.YthhfjagnmhhapaaA11
import Derived.Test.YthhfjagnmhhapaaA12

/- Chains grow: plain laws for what the program does with them. -/
namespace Go.PM
theorem grp_head {n : Nat} {ls ls' : List Lv} (h : 0 < ls.length) (e : ls'.take 1 = ls.take 1) : grpOf n ls' = grpOf n ls := by
  cases ls with
  | nil => simp at h
  | cons l ls =>
    cases ls' with
    | nil => simp at e
    | cons l' ls' => simp at e; rw [e]; rfl
/-- levels behind level i grow by the remainder r -/
theorem ins_at {n : Nat} {r : List Int} {d : Nat} : ∀ (i : Nat) (ls ls' : List Lv) (l : Lv), ls[i]? = some l → Links n ls → ls'.take (i + 1) = ls.take (i + 1) → Ins n r d (ls.drop (i + 1)) (ls'.drop (i + 1)) → PermN n r → FixTo (ls.drop (i + 1)) d r →
    (∀ l, (ls.drop (i + 1))[d]? = some l → ap r l.pt ∉ l.orb) → Gen n l.gens r → ap r l.pt = l.pt → Links n ls' ∧ prodL ls < prodL ls'
  | _, [], _, l, h, _, _, _, _, _, _, _, _ => by simp at h
  | _, _ :: _, [], _, _, _, h, _, _, _, _, _, _ => by simp at h
  | 0, l :: ls, l' :: ls', l0, h0, hL, ht, hi, pr, hf, ho, hg, hp => by
    simp at h0 ht
    subst h0
    subst ht
    simp only [Nat.zero_add, List.drop_succ_cons, List.drop_zero] at hi hf ho
    obtain ⟨h1, h2, h3, h4⟩ := ins_links hi hL.tail pr hf
    have hpr := ins_prod hi hL.tail ho
    refine ⟨⟨hL.1, fun p hp' => ?_, fun a ha => ?_, h1⟩, ?_⟩
    · exact h4 (Stab (Gen n l'.gens) l'.pt) (stab_grp hL.1.grp hL.1.pt) (fun q hq => hL.2.1 q hq) ⟨hg, hp⟩ p hp'
    · have := hL.2.2.1 a ha
      exact ⟨this.1, fun k hk => h2 _ (this.2 k hk)⟩
    · exact Nat.mul_lt_mul_of_pos_left hpr hL.1.pos
  | i + 1, l :: ls, l' :: ls', l0, h0, hL, ht, hi, pr, hf, ho, hg, hp => by
    simp only [List.getElem?_cons_succ] at h0
    simp only [List.take_succ_cons, List.cons.injEq] at ht
    obtain ⟨rfl, ht⟩ := ht
    simp only [List.drop_succ_cons] at hi hf ho
    obtain ⟨h1, h2⟩ := ins_at i ls ls' l0 h0 hL.tail ht hi pr hf ho hg hp
    have hpos : 0 < ls.length := by have := (List.getElem?_eq_some_iff.1 h0).1; omega
    have e : grpOf n ls' = grpOf n ls := by
      refine grp_head hpos ?_
      have := congrArg (List.take 1) ht
      rw [List.take_take, List.take_take] at this
      simpa [Nat.min_eq_left (show 1 ≤ i + 1 by omega)] using this
    refine ⟨⟨hL.1, fun p hp' => hL.2.1 p (by rw [← e]; exact hp'), fun a ha => ?_, h1⟩, Nat.mul_lt_mul_of_pos_left h2 hL.1.pos⟩
    have := hL.2.2.1 a ha
    exact ⟨this.1, fun k hk => by rw [e]; exact this.2 k hk⟩
theorem Links.drop {n : Nat} : ∀ {ls : List Lv} (i : Nat), Links n ls → Links n (ls.drop i)
  | _, 0, h => h
  | [], _ + 1, h => h
  | _ :: _, i + 1, h => by rw [List.drop_succ_cons]; exact Links.drop i h.tail
theorem Links.ok {n : Nat} : ∀ {ls : List Lv} {i : Nat} {l : Lv}, Links n ls → ls[i]? = some l → LvOK n l
  | [], _, _, _, h => by simp at h
  | _ :: _, 0, _, hL, h => by simp at h; subst h; exact hL.1
  | _ :: _, i + 1, _, hL, h => by simp at h; exact Links.ok hL.tail h
/-- one more level at the end -/
theorem links_snoc {n : Nat} : ∀ {ls : List Lv} {l : Lv}, Links n ls → LvOK n l → (∀ a, l.done.getD a 0 = 0) → (∀ z, ls[ls.length - 1]? = some z → (∀ g ∈ l.gens, Gen n z.gens g ∧ ap g z.pt = z.pt) ∧ ∀ a, z.done.getD a 0 = 0) → Links n (ls ++ [l]) ∧ prodL (ls ++ [l]) = prodL ls * l.orb.length
  | [], l, h, ok, hd, _ => ⟨⟨ok, fun p hp => by
      have hp : p = idList n := hp
      subst hp
      exact ⟨ok.grp.one, ap_id ok.pt⟩, fun a _ => ⟨by rw [hd]; omega, fun k hk => by rw [hd] at hk; omega⟩, h⟩, by simp [prodL]⟩
  | [z], l, h, ok, hd, hz => by
    obtain ⟨h1, h2⟩ := hz z rfl
    refine ⟨⟨h.1, fun p hp => ?_, fun a _ => ⟨by rw [h2]; omega, fun k hk => by rw [h2] at hk; omega⟩, (links_snoc (ls := []) h.1.n1 ok hd (fun _ h => by simp at h)).1⟩, by simp [prodL]⟩
    exact gen_le (stab_grp h.1.grp h.1.pt) h1 hp
  | z :: y :: ls, l, h, ok, hd, hz => by
    obtain ⟨h1, h2⟩ := links_snoc (ls := y :: ls) h.tail ok hd (fun x hx => hz x (by simpa using hx))
    refine ⟨⟨h.1, h.2.1, h.2.2.1, h1⟩, ?_⟩
    show z.orb.length * prodL (y :: ls ++ [l]) = z.orb.length * prodL (y :: ls) * l.orb.length
    rw [h2, Nat.mul_assoc]
/-- what a remainder of an element of the group of level i is -/
theorem rem_facts {n : Nat} {l : Lv} {ls : List Lv} (h : Links n (l :: ls)) {p : List Int} (hp : Gen n l.gens p) :
    let r := (siftL (l :: ls) p).1
    let d := (siftL (l :: ls) p).2
    PermN n r ∧ 1 ≤ d ∧ d ≤ ls.length + 1 ∧ FixTo ls (d - 1) r ∧ (∀ z, ls[d - 1]? = some z → ap r z.pt ∉ z.orb) ∧ Gen n l.gens r ∧ ap r l.pt = l.pt := by
  intro r d
  have hm : ap p l.pt ∈ l.orb := (h.1.mem' _).2 ⟨p, hp, rfl⟩
  have hu := h.1.to_in hm
  have hq := h.1.grp.mul _ _ hp hu
  have pq := h.1.grp.perm _ hq
  have e : siftL (l :: ls) p = ((siftL ls (mulP p (l.to (ap p l.pt)))).1, (siftL ls (mulP p (l.to (ap p l.pt)))).2 + 1) := by rw [siftL, if_pos hm]
  obtain ⟨h1, h2, ⟨u, hu', e'⟩, h4, h5⟩ := sift_spec h.tail pq
  have hr : r = (siftL ls (mulP p (l.to (ap p l.pt)))).1 := by show (siftL (l :: ls) p).1 = _; rw [e]
  have hd : d = (siftL ls (mulP p (l.to (ap p l.pt)))).2 + 1 := by show (siftL (l :: ls) p).2 = _; rw [e]
  have hd' : d - 1 = (siftL ls (mulP p (l.to (ap p l.pt)))).2 := by omega
  rw [hr, hd']
  refine ⟨h1, by omega, by omega, h4, h5, ?_, ?_⟩
  · rw [e']; exact h.1.grp.mul _ _ hq (h.2.1 u hu').1
  · rw [e', ap_mul pq h.1.pt, ap_mul (h.1.grp.perm _ hp) h.1.pt, h.1.to_ap hm, (h.2.1 u hu').2]
/-- a group of at most n points has at most n! elements -/
theorem card_fac {n : Nat} {H : List Int → Prop} (hH : Grp n H) {k : Nat} (hk : Card H k) : k ≤ fac n := by
  obtain ⟨m, hm⟩ := (keep_grp hH.n1 (fun _ => 0) 0).card
  have h1 := keep_le hH.n1 (c := fun _ => 0) (fun x hx => by have := hH.n1; omega) hm
  have h2 : k ≤ m := hk.le hm fun p hp => ⟨hH.perm p hp, fun _ _ => rfl, fun x hx => absurd hx (by omega)⟩
  have h3 : prodR (fun r => fac (cntF (fun _ => 0) r 0 n)) n = fac n := by
    have hc : ∀ d j, cntF (fun _ => 0) 0 j d = d := by
      intro d; induction d with
      | zero => intro j; rfl
      | succ d ih => intro j; rw [cntF, if_pos rfl, ih]; omega
    have hc' : ∀ r, r ≠ 0 → ∀ d j, cntF (fun _ => 0) r j d = 0 := by
      intro r hr d; induction d with
      | zero => intro j; rfl
      | succ d ih => intro j; rw [cntF, if_neg (fun e => hr e.symm), ih]
    have := prodR_at (f := fun r => fac (cntF (fun _ => 0) r 0 n)) (g := fun _ => 1) (t := fac n) (r0 := 0) n (by have := hH.n1; omega) (fun r hr => by simp only [hc' r hr]; rfl) (by simp only [hc, Nat.mul_one])
    rw [this, prodR_one n (fun _ _ => rfl), Nat.mul_one]
  omega
theorem fac_mono : ∀ {a b : Nat}, a ≤ b → fac a ≤ fac b := by
  intro a b h
  induction b with
  | zero => obtain rfl : a = 0 := by omega
            exact Nat.le_refl _
  | succ b ih =>
    by_cases e : a = b + 1
    · subst e; exact Nat.le_refl _
    · have := ih (by omega)
      have h2 : fac b ≤ fac (b + 1) := by rw [fac]; exact Nat.le_mul_of_pos_left _ (by omega)
      omega
theorem prod_le {n : Nat} {ls : List Lv} (h : Links n ls) (hn : n ≤ 11) : prodL ls ≤ 39916800 := by
  obtain ⟨k, hk⟩ := h.grp.card
  have h1 := links_le h k hk
  have h2 := card_fac h.grp hk
  have h3 : fac n ≤ fac 11 := fac_mono hn
  have h4 : fac 11 = 39916800 := by decide
  omega
end Go.PM

namespace Go.Proofs.Ythhfjagnmhhapaa
open Go.W Go.PM
/-- a chain of the group G whose first points are those of base -/
structure Gd (n : Nat) (G : List Int → Prop) (base : List Int) (N0 : Nat) (ls : List Lv) : Prop where
  links : Links n ls
  grp : ∀ p, grpOf n ls p ↔ G p
  gl : ∀ i, i < ls.length → (ls.getD i lv0).gens.length ≤ N0 + prodL ls
  ll : ls.length ≤ N0 + prodL ls
  bl : base.length ≤ ls.length
  pts : ∀ i, i < base.length → (ls.getD i lv0).pt = base.getD i 0
  two : ∀ i, base.length ≤ i → i < ls.length → 2 ≤ (ls.getD i lv0).orb.length
theorem getD_some {ls : List Lv} {i : Nat} (h : i < ls.length) : ls[i]? = some (ls.getD i lv0) := by rw [List.getElem?_eq_getElem h, List.getD_eq_getElem?_getD, List.getElem?_eq_getElem h]; rfl
theorem Gd.ok {n : Nat} {G : List Int → Prop} {base : List Int} {N0 : Nat} {ls : List Lv} (h : Gd n G base N0 ls) {i : Nat} (hi : i < ls.length) : LvOK n (ls.getD i lv0) := h.links.ok (getD_some hi)
theorem Gd.ins {n : Nat} {G : List Int → Prop} {base : List Int} {N0 : Nat} {ls ls' : List Lv} (h : Gd n G base N0 ls) {w w' : World} {c c' : CH} {p : List Int} {pb i : Nat} (hi : i < ls.length) (hp : Gen n (ls.getD i lv0).gens p)
    (hJ : InsJ w n c ls (siftL (ls.drop i) p).1 pb (i + 1) (i + (siftL (ls.drop i) p).2 + 1) c' ls' w') : Gd n G base N0 ls' ∧ prodL ls < prodL ls' ∧ ls'.take (i + 1) = ls.take (i + 1) := by
  have hd := drop_cons hi
  have hLd := h.links.drop i
  rw [hd] at hLd hJ
  obtain ⟨h1, h2, h3, h4, h5, h6, h7⟩ := rem_facts hLd hp
  generalize hr : (siftL (ls.getD i lv0 :: ls.drop (i + 1)) p).1 = r at *
  generalize hdd : (siftL (ls.getD i lv0 :: ls.drop (i + 1)) p).2 = d at *
  rw [List.length_drop] at h3
  obtain ⟨hI, ht⟩ := hJ.ins (by omega) (by omega)
  rw [show i + d - (i + 1) = d - 1 by omega] at hI
  obtain ⟨hL', hpr⟩ := ins_at i ls ls' _ (getD_some hi) h.links ht hI h1 h4 h5 h6 h7
  have hlen := hJ.len
  have hle : ls.length ≤ ls'.length ∧ ls'.length ≤ ls.length + 1 := by rw [hlen]; split <;> omega
  have hone : ls'.take 1 = ls.take 1 := by
    have := congrArg (List.take 1) ht
    rw [List.take_take, List.take_take] at this
    simpa [Nat.min_eq_left (show 1 ≤ i + 1 by omega)] using this
  have hcase : ∀ j, j < ls'.length → (j < ls.length ∧ LvExt n r (ls.getD j lv0) (ls'.getD j lv0)) ∨ (j < ls.length ∧ ls'.getD j lv0 = ls.getD j lv0) ∨ (j = ls.length ∧ LvNew n r (ls'.getD j lv0)) := fun j hj => by
    by_cases hjl : j < ls.length
    · by_cases h1 : i + 1 ≤ j ∧ j < i + d + 1
      · exact .inl ⟨hjl, hJ.ext j h1.1 h1.2 hjl⟩
      · exact .inr (.inl ⟨hjl, hJ.same j (by omega)⟩)
    · obtain rfl : j = ls.length := by omega
      exact .inr (.inr ⟨rfl, hJ.new (by rw [hlen] at hj; split at hj <;> omega)⟩)
  refine ⟨⟨hL', fun p => by rw [grp_head (by omega) hone]; exact h.grp p, fun j hj => ?_, ?_, by have := h.bl; omega, fun j hj => ?_, fun j hb hj => ?_⟩, hpr, ht⟩
  · rcases hcase j hj with ⟨hjl, he⟩ | ⟨hjl, he⟩ | ⟨_, he⟩
    · have := h.gl j hjl; rw [he.gens, List.length_append, List.length_singleton]; omega
    · rw [he]; have := h.gl j hjl; omega
    · rw [he.gens, List.length_singleton]; omega
  · have := h.ll; omega
  · have hjl : j < ls.length := by have := h.bl; omega
    rcases hcase j (by omega) with ⟨_, he⟩ | ⟨_, he⟩ | ⟨e, _⟩
    · rw [he.pt]; exact h.pts j hj
    · rw [he]; exact h.pts j hj
    · omega
  · rcases hcase j hj with ⟨hjl, he⟩ | ⟨hjl, he⟩ | ⟨_, he⟩
    · have := h.two j hb hjl; have := he.le; omega
    · rw [he]; exact h.two j hb hjl
    · generalize ls'.getD j lv0 = z at he ⊢
      have hm : ap r z.pt ∈ z.orb := (he.ok.mem' _).2 ⟨r, gen_self he.ok.gens (by rw [he.gens]; simp), rfl⟩
      exact nodup_le (l := [ap r z.pt, z.pt]) (m := z.orb) (by simp [he.pt]) (by simp [hm, he.ok.pt_mem])
theorem ChAt.setSt {F : Nat → Prop} {w w' : World} {n st' : Nat} {c : CH} {ls : List Lv} (hC : ChAt w n c ls) (f : Fr F w w') (hF : ∀ q, F q → q = c.cb ∨ (¬ c.foot ls.length q ∧ ¬ c.imm ls.length q))
    (hb : Blk w' c.cb 100 ((chL n ls.length c).set 3 (.int .u64 (st' : Int)))) (hst : st' < 18446744073709551616) : ChAt w' n { c with st := st' } ls := by
  have hm : ∀ q, c.foot ls.length q → q ≠ c.cb → ¬ F q := fun q hq hne hf => (hF q hf).elim hne fun h => h.1 hq
  have hfF : ∀ i, i < ls.length → ∀ q, q ∈ (c.hs i).F → ¬ F q := fun i hi q hq => hm q (.inr ⟨i, hi, hq⟩) (hC.fne i hi q (.inl hq)).1
  have hfI : ∀ i, i < ls.length → ∀ q, q ∈ (c.hs i).im → ¬ F q := fun i hi q hq hf => (hF q hf).elim (hC.fne i hi q (.inr hq)).1 fun h => h.2 ⟨i, hi, hq⟩
  exact ⟨hb, hst, hC.map.fr f (hm _ (.inl (.inr (.inl rfl))) (Ne.symm hC.cmb)), hC.mok, hC.dv.fr f (fun ad e => hm _ (.inl (.inr (.inr ⟨ad, e, rfl⟩))) (hC.vne ad e).1), fun i hi => (hC.lv i hi).fr f (hfF i hi) (hfI i hi), hC.cmb, hC.vne, hC.fne, hC.dis, hC.imd⟩
theorem SrcAt.fr {F : Nat → Prop} {w w' : World} {n cb : Nat} {s : SS} {gens : List (List Int)} (hS : SrcAt w n cb s gens) (f : Fr F w w') (h1 : ¬ F s.sb) (h2 : ¬ F s.pa) (h3 : ∀ q, q ∈ s.im → ¬ F q) : SrcAt w' n cb s gens :=
  ⟨hS.str.fr f h1, hS.pool.fr f (by rintro _ ⟨⟩; exact h2), hS.pls.fr f h3, hS.pd.fr f (fun ad e => h3 _ (hS.pdi ad e)), hS.pdi, hS.mem, hS.pm, hS.gn, hS.n1, hS.ne, hS.dis, fun q hq => Nat.lt_of_lt_of_le (hS.imlt q hq) f.size, hS.len⟩
structure Sep (c : CH) (k : Nat) (s : SS) : Prop where
  sb : ¬ c.foot k s.sb ∧ ¬ c.imm k s.sb
  pa : ¬ c.foot k s.pa ∧ ¬ c.imm k s.pa
  im : ∀ q, q ∈ s.im → ¬ c.foot k q
/-- how a chain may have changed since w -/
structure CGo (w : World) (c c' : CH) (k k' : Nat) : Prop where
  cb : c'.cb = c.cb
  foot : ∀ q, c'.foot k' q → c.foot k q ∨ w.heap.size ≤ q
  imm : ∀ q, c'.imm k' q → c.imm k q ∨ w.heap.size ≤ q
theorem CGo.refl (w : World) (c : CH) (k : Nat) : CGo w c c k k := ⟨rfl, fun _ h => .inl h, fun _ h => .inl h⟩
theorem ChAt.imfoot {w : World} {n : Nat} {c : CH} {ls : List Lv} (hC : ChAt w n c ls) {i : Nat} (hi : i < ls.length) {q : Nat} (hq : q ∈ (c.hs i).im) : ¬ c.foot ls.length q := by
  rintro ((h | h | ⟨ad, h1, h2⟩) | ⟨j, hj, h⟩)
  · exact (hC.fne i hi q (.inr hq)).1 h
  · exact (hC.fne i hi q (.inr hq)).2.1 h
  · exact (hC.fne i hi q (.inr hq)).2.2 ad h1 h2
  · exact hC.imd j i hj hi q h hq
end Go.Proofs.Ythhfjagnmhhapaa

namespace Go.Proofs.Ythhfjagnmhhapaa
open Go.W Go.PM
theorem bd_a {j q : Nat} (hj : j ≤ 11) (hq : q ≤ 12) (_ : 2 ≤ q) : j * 6000 + (q - 2) * 512 + 1 * 512 ≤ 1000000000000000 := by omega
theorem bd_b {j q : Nat} (h2 : 2 ≤ q) : j * 6000 + (q - 2) * 512 + 1 * 512 ≤ j * 6000 + (q + 1 - 2) * 512 := by omega
theorem bd_c {j s : Nat} (hs : s ≤ 11) (h : 2 ≤ s) : j * 6000 + (s + 1 - 2) * 512 ≤ (j + 1) * 6000 := by omega
set_option maxRecDepth 10000 in
set_option maxHeartbeats 2000000 in
theorem bound_spec {n : Nat} {gens : List (List Int)} {ga : Option Addr} {gc : Nat} {gs : List SD} {im : List Nat} {w : World} (n1 : 1 ≤ n ∧ n ≤ 512) (hn11 : n ≤ 11) (gn : GensN n gens) (hga : Sl w ga (gs.map SD.val)) (hgs : PsAt w n im gs gens) (hgl : gens.length ≤ 1000000000) :
    CallsR Try.prog 136 #[.int .i64 (n : Int), .slice ga gens.length gc] w fun v w' => Ex w w' ∧ ∃ e A b, v = .agg (intsL e).toArray ∧ Rep e A b ∧ 1 ≤ b ∧ ∀ k, Card (Gen n gens) k → b * k ≤ A := by
  refine callsR_of (args := [_, _]) Try.func136 rfl rfl ?_
  have hgl' := hgs.len
  repeat' (first | (refine k_allocA (vs := intsL num0) (hz := zNum) (fun g4 w1 hn1 => ⟨fun _ _ => trivial, ?_⟩)) | (refine k_pure rfl ?_) | (refine then_normal ?_) | (refine cw_seq ?_) | (refine cw_region rfl ?_) | (refine rr_nil ?_))
  have z1 := hn1.lo; have z1' := hn1.hi
  refine k_call (newPart_spec n1.2 w1) rfl ?_
  rintro v w2 ⟨gp, rfl, hgp, hP2, hE2⟩
  refine ⟨fun _ _ => trivial, ?_⟩
  have hEw2 : Ex w w2 := hn1.ex.trans hE2
  have y1 := hn1.ex.size
  have hgp2 := hP2.lt
  repeat' (first | (refine k_pure rfl ?_) | (refine then_normal ?_) | (refine cw_seq ?_) | (refine cw_region rfl ?_) | (refine rr_nil ?_) | (refine k_len rfl ?_) | (refine cw_block ?_))
  refine cw_loop (ι := Nat × (Nat → Nat)) [7, 25, 26, 27, 28, 29, 30, 31, 32] (fun s => [(25, .int .i64 (s.1 : Int))]) (fun s w' => s.1 ≤ gens.length ∧ Ex w w' ∧ Blk w' g4 177 (intsL num0) ∧ PtAt w' gp n s.2 ∧ ∀ j, j < s.1 → ∀ x, x < n → s.2 (ap (gens.getD j []) x).toNat = s.2 x) (fun s => gens.length - s.1)
    (0, fun x => x) ⟨rfl, trivial⟩ ⟨Nat.zero_le _, hEw2, hn1.blk.ext hE2, hP2, fun j hj => absurd hj (by simp)⟩ ?_
  rintro ⟨i, c⟩ ξ w3 ⟨hi, hE3, hb43, hP3, hkp⟩
  simp only at hi hP3 hkp
  show CW _ _ _ _ (over [(25, .int .i64 (i : Int))] _) w3
  have hga3 := hga.ext hE3
  obtain ⟨⟨sa, sl, sc⟩, hsd⟩ : ∃ s, gs.getD i sd0 = s := ⟨_, rfl⟩
  repeat' (first | (refine k_indexN (j := i) rfl rfl (hga3.plain (by simp; omega)) (by omega) ?_) | (refine k_loadSd (j := i) rfl hga3 (by omega) hsd ?_) | (refine k_pure rfl ?_) | (refine then_normal ?_) | (refine cw_seq ?_) | (refine cw_region rfl ?_) | (refine rr_nil ?_) | (refine cw_cond_dec rfl (fun hc => ?_) (fun hc => ?_)) | (refine cw_block ?_) | (refine cw_exit ?_) | (refine then_exit ?_) | (refine in_exit ?_) | (refine cw_skip ?_))
  · have hil : i < gens.length := by omega
    have hgsl := (hgs.ext hE3).sl i hil
    have hgsn := hgs.n i hil
    rw [hsd] at hgsl hgsn
    simp only at hgsl hgsn
    replace hgsn := hgsn.symm
    subst hgsn
    have pg := gn _ (getD_mem (d := []) hil)
    have hlt0 := (hgs.sl i hil).lt (by rw [List.length_map, pg.2]; omega)
    rw [hsd] at hlt0
    refine k_call (join_spec hP3 hgsl pg (fun ad e => by have := hlt0 ad e; omega)) rfl ?_
    rintro v w4 ⟨rfl, hc4, c', hP4, hJ⟩
    refine ⟨fun _ _ => trivial, ?_⟩
    repeat' (first | (refine k_pure rfl ?_) | (refine then_normal ?_) | (refine cw_region rfl ?_) | (refine rr_nil ?_) | (refine k_addI rfl rfl (by omega) (by omega) ?_) | (refine in_normal ?_))
    refine ⟨⟨(i + 1, c'), ⟨by simp only; omega, hE3.chg hc4 (by omega), hb43.chg hc4 (by omega), hP4, fun j hj x hx => ?_⟩, by simp only; omega, rfl, trivial⟩, (by (repeat (first | exact agree_mask _ _ _ | refine agree_upd rfl ?_ | refine agree_updO rfl ?_ | refine agree_overIn rfl ?_ | refine agree_maskIn rfl ?_)))⟩
    simp only at hj ⊢
    by_cases e : j = i
    · subst e; exact hJ.img x hx
    · have pj := gn _ (getD_mem (d := []) (show j < gens.length by omega))
      have hr := pj.ap (x := (x : Int)) (by omega)
      exact hJ.keep _ _ (by omega) hx (hkp j (by omega) x hx)
  · obtain rfl : i = gens.length := by omega
    have hkeep : ∀ g ∈ gens, Keep n c 0 g := fun g hg => by
      obtain ⟨j, hj, e⟩ := List.getElem_of_mem hg
      have e' : gens.getD j [] = g := by rw [List.getD_eq_getElem?_getD, List.getElem?_eq_getElem hj, Option.getD_some, e]
      exact ⟨gn g hg, fun x hx => by rw [← e']; exact hkp j hj x hx, fun x hx => absurd hx (by omega)⟩
    have hclt : ∀ x, x < n → c x < n := fun x hx => hP3.clt hx
    repeat' (first | (refine k_makeI rfl rfl (by omega) (by omega) (fun gz w4 hn4 => ⟨fun _ _ => trivial, ?_⟩)) | (refine k_pure rfl ?_) | (refine then_normal ?_) | (refine cw_seq ?_) | (refine cw_region rfl ?_) | (refine rr_nil ?_) | (refine cw_block ?_))
    have z3 := hE3.size
    have z4 := hn4.lo; have z4' := hn4.hi; have y4 := hn4.ex.size
    have p4l := hP3.lt
    have b43l := hb43.lt
    refine cw_loop (ι := Nat × List Int) [9, 36, 37, 38, 39, 40, 41, 42, 43, 44, 45, 46, 47] (fun s => [(36, .int .i64 (s.1 : Int))]) (fun s w' => s.1 ≤ n ∧ Ex w w' ∧ Blk w' g4 177 (intsL num0) ∧ PtAt w' gp n c ∧ Blk w' gz 3 (intsL s.2) ∧ s.2.length = n ∧ ∀ r, r < n → s.2.getD r 0 = (cntF c r 0 s.1 : Int)) (fun s => n - s.1)
      (0, List.replicate n 0) ⟨rfl, trivial⟩ ⟨Nat.zero_le _, hE3.trans hn4.ex, hb43.ext hn4.ex, hP3.ext hn4.ex, hn4.blk, by simp, fun r hr => by simp only; rw [List.getD_eq_getElem?_getD, List.getElem?_replicate, if_pos hr]; rfl⟩ ?_
    rintro ⟨k, sz⟩ ξ2 w5 ⟨hk, hE5, hb45, hP5, hbz5, hszl, hszg⟩
    simp only at hk hbz5 hszl hszg
    show CW _ _ _ _ (over [(36, .int .i64 (k : Int))] _) w5
    repeat' (first | (refine k_pure rfl ?_) | (refine then_normal ?_) | (refine cw_seq ?_) | (refine cw_region rfl ?_) | (refine rr_nil ?_) | (refine cw_cond_dec rfl (fun hc => ?_) (fun hc => ?_)) | (refine cw_block ?_) | (refine cw_exit ?_) | (refine then_exit ?_) | (refine in_exit ?_) | (refine cw_skip ?_))
    · have hkn : k < n := by omega
      refine k_call (find_spec hP5 hkn n1.2) rfl ?_
      rintro v w6 ⟨rfl, hc6, hP6⟩
      refine ⟨fun _ _ => trivial, ?_⟩
      have hck := hclt k hkn
      have hbz6 := hbz5.chg hc6 (by omega)
      have hcl := cnt_le c (c k) k 0
      have hv := hszg (c k) hck
      repeat' (first | (refine k_indexN (j := c k) rfl rfl ⟨_, _, rfl⟩ hck ?_) | (refine k_loadI (j := c k) rfl hbz6.sl (by omega) ?_) | (refine k_addI rfl rfl (by omega) (by omega) ?_) | (refine k_storeI (j := c k) rfl rfl hbz6 (by omega) (fun w7 hc7 hb7 => ⟨fun _ _ => trivial, ?_⟩)) | (refine k_pure rfl ?_) | (refine then_normal ?_) | (refine cw_region rfl ?_) | (refine rr_nil ?_) | (refine in_normal ?_))
      refine ⟨⟨(k + 1, sz.set (c k) (sz.getD (c k) 0 + 1)), ⟨by simp only; omega, (hE5.chg hc6 (by omega)).chg hc7 (by omega), (hb45.chg hc6 (by omega)).chg hc7 (by omega), hP6.chg hc7 (by omega), hb7, by simp [hszl], fun r hr => ?_⟩, by simp only; omega, rfl, trivial⟩, (by (repeat (first | exact agree_mask _ _ _ | refine agree_upd rfl ?_ | refine agree_updO rfl ?_ | refine agree_overIn rfl ?_ | refine agree_maskIn rfl ?_)))⟩
      simp only
      rw [getD_set' (by omega), cnt_snoc, Nat.zero_add]
      by_cases e : r = c k
      · subst e; rw [if_pos rfl, if_pos rfl, hv]; rfl
      · rw [if_neg e, if_neg (fun e' => e e'.symm), hszg r hr]; rfl
    · obtain rfl : k = n := by omega
      repeat' (first | (refine k_allocA (vs := intsL num0) (hz := zNum) (fun ge w6 hn6 => ⟨fun _ _ => trivial, ?_⟩)) | (refine k_makeI rfl rfl (by omega) (by omega) (fun gm w7 hn7 => ⟨fun _ _ => trivial, ?_⟩)) | (refine k_pure rfl ?_) | (refine then_normal ?_) | (refine cw_seq ?_) | (refine cw_region rfl ?_) | (refine rr_nil ?_) | (refine k_len rfl ?_) | (refine cw_block ?_))
      have z5 := hE5.size
      have b45l := hb45.lt; have p5l := hP5.lt; have bz5l := hbz5.lt
      have z6 := hn6.lo; have z6' := hn6.hi; have y6 := hn6.ex.size
      have z7 := hn7.lo; have z7' := hn7.hi; have y7 := hn7.ex.size
      have hE7 : Ex w w7 := (hE5.trans hn6.ex).trans hn7.ex
      obtain ⟨szf, hszf⟩ : ∃ f : Nat → Nat, f = fun r => cntF c r 0 k := ⟨_, rfl⟩
      have hszv : ∀ r, r < k → sz.getD r 0 = (szf r : Int) := fun r hr => by rw [hszf]; exact hszg r hr
      have hszle : ∀ r, szf r ≤ k := fun r => by rw [hszf]; exact cnt_le c r k 0
      have hRep0 : Rep num0 1 1 := rep_zero
      have hBd0 : Bd num0 0 := bd_zero 513
      refine cw_loop (ι := Nat × List Int × List Int) [11, 13, 14, 15, 52, 53, 54, 55, 56, 57, 58, 59, 60, 61, 62, 63, 64, 65, 66, 67, 68, 69, 70, 71, 72, 73, 74, 75, 76] (fun s => [(52, .int .i64 (s.1 : Int)), (11, .int .i64 ((bigs szf s.1).length : Int))]) (fun s w' => s.1 ≤ k ∧ Ex w w' ∧ Blk w' g4 177 (intsL num0) ∧ PtAt w' gp k c ∧ Blk w' gz 3 (intsL sz) ∧ Blk w' ge 177 (intsL s.2.1) ∧ Blk w' gm 3 (intsL s.2.2) ∧ s.2.2.length = k ∧ (∀ r, r < s.1 → s.2.2.getD r 0 = nameF szf r) ∧ Rep s.2.1 (prodR (fun r => fac (szf r)) s.1) 1 ∧ Bd s.2.1 (s.1 * 6000)) (fun s => k - s.1)
        (0, num0, List.replicate k 0) ⟨rfl, rfl, trivial⟩ ⟨Nat.zero_le _, hE7, (hb45.ext hn6.ex).ext hn7.ex, (hP5.ext hn6.ex).ext hn7.ex, (hbz5.ext hn6.ex).ext hn7.ex, Blk.ext hn6.blk hn7.ex, hn7.blk, by simp, fun r hr => absurd hr (by simp), hRep0, by simpa using hBd0⟩ ?_
      rintro ⟨j, e, nm⟩ ξ3 w8 ⟨hj, hE8, hb48, hP8, hbz8, hbe8, hbm8, hnml, hnm, hRe, hBe⟩
      simp only at hj hbe8 hbm8 hnml hnm hRe hBe
      show CW _ _ _ _ (over [(52, .int .i64 (j : Int)), (11, .int .i64 ((bigs szf j).length : Int))] _) w8
      have hbl := bigs_len szf j
      obtain ⟨sv, hsv⟩ : ∃ v : Nat, v = szf j := ⟨_, rfl⟩
      have hsvk := hszle j
      repeat' (first | (refine k_indexN (j := j) (a := ba gz) rfl rfl ⟨_, _, rfl⟩ (by omega) ?_) | (refine k_loadI (j := j) (a := ba gz) rfl hbz8.sl (by omega) ?_) | (refine k_indexN (j := j) (a := ba gm) rfl rfl ⟨_, _, rfl⟩ (by omega) ?_) | (refine k_storeI (j := j) rfl rfl hbm8 (by omega) (fun w9 hc9 hb9 => ⟨fun _ _ => trivial, ?_⟩)) | (refine k_pure rfl ?_) | (refine then_normal ?_) | (refine cw_seq ?_) | (refine cw_region rfl ?_) | (refine rr_nil ?_) | (refine k_addI rfl rfl (by omega) (by omega) ?_) | (refine cw_cond_dec rfl (fun hc => ?_) (fun hc => ?_)) | (refine cw_block ?_) | (refine cw_exit ?_) | (refine then_exit ?_) | (refine in_exit ?_) | (refine cw_skip ?_))
      · have hjk : j < k := by omega
        have hv := hszv j hjk
        have hb : ¬ 2 ≤ szf j := by omega
        have hbg : bigs szf (j + 1) = bigs szf j := by rw [bigs, if_neg hb]
        have hfac : fac (szf j) = 1 := by
          have : szf j = 0 ∨ szf j = 1 := by omega
          rcases this with h | h <;> rw [h] <;> rfl
        refine ⟨⟨(j + 1, e, nm.set j (-1)), ⟨by simp only; omega, hE8.chg hc9 (by omega), hb48.chg hc9 (by omega), hP8.chg hc9 (by omega), hbz8.chg hc9 (by omega), hbe8.chg hc9 (by omega), hb9, by simp [hnml], fun r hr => ?_, ?_, hBe.mono (by simp only; omega)⟩, by simp only; omega, rfl, by simp only [hbg]; rfl, trivial⟩, (by (repeat (first | exact agree_mask _ _ _ | refine agree_upd rfl ?_ | refine agree_updO rfl ?_ | refine agree_overIn rfl ?_ | refine agree_maskIn rfl ?_)))⟩
        · simp only at hr ⊢
          rw [getD_set' (by omega)]
          by_cases e' : r = j
          · subst e'; rw [if_pos rfl, nameF, if_neg hb]
          · rw [if_neg e']; exact hnm r (by omega)
        · show Rep e (prodR (fun r => fac (szf r)) (j + 1)) 1
          rw [prodR, hfac, Nat.mul_one]; exact hRe
      · have hjk : j < k := by omega
        have hv := hszv j hjk
        have hb : 2 ≤ szf j := by omega
        have hbg : bigs szf (j + 1) = bigs szf j ++ [j] := by rw [bigs, if_pos hb]
        have hbe9 := hbe8.chg hc9 (by omega)
        repeat' (first | (refine k_storeI (j := j) rfl rfl hb9 (by rw [List.length_set]; omega) (fun w10 hc10 hb10 => ⟨fun _ _ => trivial, ?_⟩)) | (refine k_pure rfl ?_) | (refine then_normal ?_) | (refine cw_seq ?_) | (refine cw_region rfl ?_) | (refine rr_nil ?_) | (refine k_addI rfl rfl (by omega) (by omega) ?_) | (refine cw_block ?_))
        rw [List.set_set] at hb10
        refine cw_loop (ι := Nat × List Int) [15, 68, 69, 70, 71, 72, 73, 74, 75] (fun s => [(15, .int .i64 (s.1 : Int))]) (fun s w' => 2 ≤ s.1 ∧ s.1 ≤ szf j + 1 ∧ Ex w w' ∧ Blk w' g4 177 (intsL num0) ∧ PtAt w' gp k c ∧ Blk w' gz 3 (intsL sz) ∧ Blk w' ge 177 (intsL s.2) ∧ Blk w' gm 3 (intsL (nm.set j ((bigs szf j).length : Int))) ∧ Rep s.2 (prodR (fun r => fac (szf r)) j * fac (s.1 - 1)) 1 ∧ Bd s.2 (j * 6000 + (s.1 - 2) * 512)) (fun s => szf j + 1 - s.1)
          (2, e) ⟨rfl, trivial⟩ ⟨Nat.le_refl _, by simp only; omega, (hE8.chg hc9 (by omega)).chg hc10 (by omega), (hb48.chg hc9 (by omega)).chg hc10 (by omega), (hP8.chg hc9 (by omega)).chg hc10 (by omega), (hbz8.chg hc9 (by omega)).chg hc10 (by omega), hbe9.chg hc10 (by omega), hb10, by simpa [fac] using hRe, by simpa using hBe⟩ ?_
        rintro ⟨q, e2⟩ ξ4 w11 ⟨hq1, hq2, hE11, hb411, hP11, hbz11, hbe11, hbm11, hR11, hB11⟩
        simp only at hq1 hq2 hbe11 hR11 hB11
        show CW _ _ _ _ (over [(15, .int .i64 (q : Int))] _) w11
        have hel := hR11.1
        rw [hv]
        repeat' (first | (refine k_loadCA rfl hbe11 (by rw [List.length_map]; exact hel) ?_) | (refine k_pure rfl ?_) | (refine then_normal ?_) | (refine cw_seq ?_) | (refine cw_region rfl ?_) | (refine rr_nil ?_) | (refine k_addI rfl rfl (by omega) (by omega) ?_) | (refine cw_cond_dec rfl (fun hc => ?_) (fun hc => ?_)) | (refine cw_block ?_) | (refine cw_exit ?_) | (refine then_exit ?_) | (refine in_exit ?_) | (refine in_normal ?_) | (refine cw_skip ?_))
        · have hj6 : j * 6000 ≤ 12 * 6000 := Nat.mul_le_mul_right _ (by omega)
          have hM1 : j * 6000 + (q - 2) * 512 + 1 * 512 ≤ 1000000000000000 := bd_a (by omega) (by omega) hq1
          have hM2 : j * 6000 + (q - 2) * 512 + 1 * 512 ≤ j * 6000 + (q + 1 - 2) * 512 := bd_b hq1
          have hqn : 1 ≤ q ∧ q ≤ 512 := by omega
          refine k_call (scaled_spec (n := q) (u := 1) (v := 0) (T := 1) (t := 1) hR11 hB11 hqn (by decide) (by decide) hM1) rfl ?_
          rintro v w12 ⟨e3, rfl, hR12, hB12, hE12⟩
          refine ⟨fun _ _ => trivial, ?_⟩
          have hel3 := hR12.1
          repeat' (first | (refine k_storeV (vs := intsL e3) rfl rfl (by rw [List.length_map]; exact hel3) (all_one (fun _ => rfl) _) (hbe11.ext hE12) (by rw [List.length_map]; exact hel) (fun w13 hc13 hb13 => ⟨fun _ _ => trivial, ?_⟩)) | (refine k_pure rfl ?_) | (refine then_normal ?_) | (refine cw_region rfl ?_) | (refine rr_nil ?_) | (refine k_addI rfl rfl (by omega) (by omega) ?_) | (refine in_normal ?_))
          refine ⟨⟨(q + 1, e3), ⟨by simp only; omega, by simp only; omega, (hE11.trans hE12).chg hc13 (by omega), (hb411.ext hE12).chg hc13 (by omega), (hP11.ext hE12).chg hc13 (by omega), (hbz11.ext hE12).chg hc13 (by omega), hb13, (hbm11.ext hE12).chg hc13 (by omega), ?_, hB12.mono hM2⟩, by simp only; omega, rfl, trivial⟩, (by (repeat (first | exact agree_mask _ _ _ | refine agree_upd rfl ?_ | refine agree_updO rfl ?_ | refine agree_overIn rfl ?_ | refine agree_maskIn rfl ?_)))⟩
          show Rep e3 (prodR (fun r => fac (szf r)) j * fac (q + 1 - 1)) 1
          obtain ⟨q', rfl⟩ : ∃ q', q = q' + 1 := ⟨q - 1, by omega⟩
          rw [Nat.pow_one, Nat.pow_zero, Nat.mul_one] at hR12
          simp only [Nat.add_sub_cancel] at hR12 ⊢
          rw [fac, Nat.mul_comm (q' + 1), ← Nat.mul_assoc]; exact hR12
        · obtain rfl : q = szf j + 1 := by omega
          have hs1 := hszle j
          refine ⟨⟨(j + 1, e2, nm.set j ((bigs szf j).length : Int)), ⟨by simp only; omega, hE11, hb411, hP11, hbz11, hbe11, hbm11, by simp [hnml], fun r hr => ?_, ?_, hB11.mono ?_⟩, by simp only; omega, rfl, ?_, trivial⟩, (by (repeat (first | exact agree_mask _ _ _ | refine agree_upd rfl ?_ | refine agree_updO rfl ?_ | refine agree_overIn rfl ?_ | refine agree_maskIn rfl ?_)))⟩
          · simp only at hr ⊢
            rw [getD_set' (by omega)]
            by_cases e' : r = j
            · subst e'; rw [if_pos rfl, nameF, if_pos hb]
            · rw [if_neg e']; exact hnm r (by omega)
          · show Rep e2 (prodR (fun r => fac (szf r)) (j + 1)) 1
            rw [prodR]; exact hR11
          · exact bd_c (by omega) hb
          · show Value.int .i64 (((bigs szf j).length : Int) + 1) = _
            simp only [hbg, List.length_append, List.length_singleton]; rfl
      · obtain rfl : j = k := by omega
        repeat' (first | (refine k_makeI rfl rfl (by omega) (by omega) (fun go w9 hn9 => ⟨fun _ _ => trivial, ?_⟩)) | (refine k_pure rfl ?_) | (refine then_normal ?_) | (refine cw_seq ?_) | (refine cw_region rfl ?_) | (refine rr_nil ?_) | (refine cw_block ?_))
        have z8 := hE8.size
        have b48l := hb48.lt; have p8l := hP8.lt; have bz8l := hbz8.lt; have be8l := hbe8.lt; have bm8l := hbm8.lt
        have z9 := hn9.lo; have z9' := hn9.hi; have y9 := hn9.ex.size
        refine cw_loop (ι := Nat × List Int) [17, 80, 81, 82, 83, 84, 85, 86, 87, 88, 89, 90, 91, 92] (fun s => [(80, .int .i64 (s.1 : Int))]) (fun s w' => s.1 ≤ j ∧ Ex w w' ∧ Blk w' g4 177 (intsL num0) ∧ PtAt w' gp j c ∧ Blk w' ge 177 (intsL e) ∧ Blk w' gm 3 (intsL nm) ∧ Blk w' go 3 (intsL s.2) ∧ s.2.length = j ∧ ∀ y, y < s.1 → s.2.getD y 0 = nameF szf (c y)) (fun s => j - s.1)
          (0, List.replicate j 0) ⟨rfl, trivial⟩ ⟨Nat.zero_le _, hE8.trans hn9.ex, hb48.ext hn9.ex, hP8.ext hn9.ex, hbe8.ext hn9.ex, hbm8.ext hn9.ex, hn9.blk, by simp, fun y hy => absurd hy (by simp)⟩ ?_
        rintro ⟨x, orb⟩ ξ4 w10 ⟨hx, hE10, hb410, hP10, hbe10, hbm10, hbo10, hol, hog⟩
        simp only at hx hbo10 hol hog
        show CW _ _ _ _ (over [(80, .int .i64 (x : Int))] _) w10
        repeat' (first | (refine k_pure rfl ?_) | (refine then_normal ?_) | (refine cw_seq ?_) | (refine cw_region rfl ?_) | (refine rr_nil ?_) | (refine k_len rfl ?_) | (refine cw_cond_dec rfl (fun hc => ?_) (fun hc => ?_)) | (refine cw_block ?_) | (refine cw_exit ?_) | (refine then_exit ?_) | (refine in_exit ?_) | (refine cw_skip ?_))
        · have hxj : x < j := by omega
          refine k_call (find_spec hP10 hxj n1.2) rfl ?_
          rintro v w11 ⟨rfl, hc11, hP11⟩
          refine ⟨fun _ _ => trivial, ?_⟩
          have hcx := hclt x hxj
          have hbm11 := hbm10.chg hc11 (by omega)
          have hbo11 := hbo10.chg hc11 (by omega)
          repeat' (first | (refine k_indexN (j := c x) (a := ba gm) rfl rfl ⟨_, _, rfl⟩ hcx ?_) | (refine k_loadI (j := c x) (a := ba gm) rfl hbm11.sl (by omega) ?_) | (refine k_indexN (j := x) (a := ba go) rfl rfl ⟨_, _, rfl⟩ hxj ?_) | (refine k_storeI (j := x) rfl rfl hbo11 (by omega) (fun w12 hc12 hb12 => ⟨fun _ _ => trivial, ?_⟩)) | (refine k_pure rfl ?_) | (refine then_normal ?_) | (refine cw_region rfl ?_) | (refine rr_nil ?_) | (refine k_addI rfl rfl (by omega) (by omega) ?_) | (refine in_normal ?_))
          refine ⟨⟨(x + 1, orb.set x (nm.getD (c x) 0)), ⟨by simp only; omega, (hE10.chg hc11 (by omega)).chg hc12 (by omega), (hb410.chg hc11 (by omega)).chg hc12 (by omega), hP11.chg hc12 (by omega), (hbe10.chg hc11 (by omega)).chg hc12 (by omega), hbm11.chg hc12 (by omega), hb12, by simp [hol], fun y hy => ?_⟩, by simp only; omega, rfl, trivial⟩, (by (repeat (first | exact agree_mask _ _ _ | refine agree_upd rfl ?_ | refine agree_updO rfl ?_ | refine agree_overIn rfl ?_ | refine agree_maskIn rfl ?_)))⟩
          simp only at hy ⊢
          rw [getD_set' (by omega)]
          by_cases e' : y = x
          · subst e'; rw [if_pos rfl]; exact hnm _ hcx
          · rw [if_neg e']; exact hog y (by omega)
        · obtain rfl : x = j := by omega
          have b410l := hb410.lt; have be10l := hbe10.lt; have bo10l := hbo10.lt
          have z10 := hE10.size
          have horb : ∀ g ∈ gens, ∀ y, y < x → flipAt g y = true → 0 ≤ orb.getD y 0 ∧ orb.getD y 0 < 256 := fun g hg y hy hf => by
            have h2 := flip_big (hkeep g hg) hy hf
            have h3 := bigs_len szf (c y)
            have h4 := hclt y hy
            rw [hog y hy, nameF, if_pos (by rw [hszf]; exact h2)]
            omega
          skip
          refine cw_loop (ι := Nat × Option Addr × Nat × List (List Nat)) [18, 20, 95, 96, 97, 98, 99, 100, 101, 102, 103, 104, 105] (fun s => [(95, .int .i64 (s.1 : Int)), (18, .slice s.2.1 s.1 s.2.2.1)]) (fun s w' => s.1 ≤ gens.length ∧ Ex w w' ∧ Blk w' g4 177 (intsL num0) ∧ Blk w' ge 177 (intsL e) ∧ Blk w' go 3 (intsL orb) ∧ Own w' w.heap.size 191 4 s.2.1 s.1 s.2.2.1 (rowsV s.2.2.2) ∧ s.2.2.2.length = s.1 ∧ (∀ r ∈ s.2.2.2, W4 r) ∧ (∀ q, q < s.1 → ∀ o : Nat, bitsW (s.2.2.2.getD q []) o = sgO (gens.getD q []) (fun y => orb.getD y 0) o x) ∧ ∀ ad, s.2.1 = some ad → ad.block ≠ g4 ∧ ad.block ≠ ge ∧ ad.block ≠ go) (fun s => gens.length - s.1)
            (0, none, 0, []) ⟨rfl, rfl, trivial⟩ ⟨Nat.zero_le _, hE10, hb410, hbe10, hbo10, Own.nil _ _ _ _, rfl, by simp, fun q hq => absurd hq (by simp), by rintro _ ⟨⟩⟩ ?_
          rintro ⟨i, ra, rc, rows⟩ ξ5 w11 ⟨hi, hE11, hb411, hbe11, hbo11, hro11, hrl, hr4, hrb, hrd⟩
          simp only at hi hro11 hrl hr4 hrb hrd
          show CW _ _ _ _ (over [(95, .int .i64 (i : Int)), (18, .slice ra i rc)] _) w11
          have hga11 := hga.ext hE11
          obtain ⟨⟨ua, ul, uc⟩, hud⟩ : ∃ s, gs.getD i sd0 = s := ⟨_, rfl⟩
          repeat' (first | (refine k_indexN (j := i) rfl rfl (hga11.plain (by simp; omega)) (by omega) ?_) | (refine k_loadSd (j := i) rfl hga11 (by omega) hud ?_) | (refine k_pure rfl ?_) | (refine then_normal ?_) | (refine cw_seq ?_) | (refine cw_region rfl ?_) | (refine rr_nil ?_) | (refine cw_cond_dec rfl (fun hc => ?_) (fun hc => ?_)) | (refine cw_block ?_) | (refine cw_exit ?_) | (refine then_exit ?_) | (refine in_exit ?_) | (refine cw_skip ?_))
          · have hil : i < gens.length := by omega
            have hgsl := (hgs.ext hE11).sl i hil
            have hgsn := hgs.n i hil
            rw [hud] at hgsl hgsn
            simp only at hgsl hgsn
            replace hgsn := hgsn.symm
            subst hgsn
            have hgm := getD_mem (d := []) hil
            have pg := gn _ hgm
            refine k_call (signsOf_spec pg hgsl hbo11.sl hol (horb _ hgm)) rfl ?_
            rintro v w12 ⟨ws, rfl, hw12, hbits, hE12⟩
            refine ⟨fun _ _ => trivial, ?_⟩
            have hwl := hw12.1
            have z11 := hE11.size
            refine k_app1 (s := 4) (z := .agg (wordsL [0, 0, 0, 0]).toArray) (v := .agg (wordsL ws).toArray) (vs := rowsV rows) rfl rfl rfl rfl (by simp [Value.cells, hwl]) (by simp only [Value.cells, List.toList_toArray]; exact all_one (fun _ => rfl) _) (hro11.ext hE12) (by omega) (by omega) (by have := hE12.size; omega) (fun gx a13 c13 w13 ho13 hg13 hA13 => ?_)
            have hown : ∀ q, (Value.slice ra i rc).ownBlock = some q → w.heap.size ≤ q ∧ q ≠ g4 ∧ q ≠ ge ∧ q ≠ go := fun q e' => by
              cases ra with
              | none => simp [Value.ownBlock] at e'
              | some ad =>
                simp [Value.ownBlock] at e'
                rw [← e']; exact ⟨(hro11.lo ad rfl).1, hrd ad rfl⟩
            have f13 := grown_fr hg13 hown
            obtain ⟨b13, rfl⟩ := Own.ba ho13
            have hb13 : b13 ≠ g4 ∧ b13 ≠ ge ∧ b13 ≠ go := by
              rcases hA13 with e' | e'
              · exact hrd _ e'.symm
              · have h3 := e' _ rfl
                simp only at h3
                have := hE12.size; have := hb411.lt; have := hbe11.lt; have := hbo11.lt
                omega
            repeat' (first | (refine k_pure rfl ?_) | (refine then_normal ?_) | (refine cw_region rfl ?_) | (refine rr_nil ?_) | (refine k_addI rfl rfl (by omega) (by omega) ?_) | (refine in_normal ?_))
            refine ⟨⟨(i + 1, ba b13, c13, rows ++ [ws]), ⟨by simp only; omega, Fr.ex (hE11.trans hE12) f13 (fun q h => h.1), (hb411.ext hE12).fr f13 (fun h => h.2.1 rfl), (hbe11.ext hE12).fr f13 (fun h => h.2.2.1 rfl), (hbo11.ext hE12).fr f13 (fun h => h.2.2.2 rfl), ?_, by simp [hrl], fun r hr => ?_, fun q hq o => ?_, by rintro _ ⟨⟩; exact hb13⟩, by simp only; omega, rfl, rfl, trivial⟩, (by (repeat (first | exact agree_mask _ _ _ | refine agree_upd rfl ?_ | refine agree_updO rfl ?_ | refine agree_overIn rfl ?_ | refine agree_maskIn rfl ?_)))⟩
            · have e' : rowsV (rows ++ [ws]) = rowsV rows ++ (Value.agg (wordsL ws).toArray).cells.toList := by simp [rowsV, Value.cells, wordsL]
              show Own w13 w.heap.size _ 4 (ba b13) (i + 1) c13 (rowsV (rows ++ [ws]))
              rw [e']; exact ho13
            · simp only [List.mem_append, List.mem_singleton] at hr
              rcases hr with hr | rfl
              · exact hr4 r hr
              · exact hw12
            · simp only at hq ⊢
              rw [getD_snoc' (by omega)]
              by_cases e' : q < rows.length
              · rw [if_pos e']; exact hrb q (by omega) o
              · obtain rfl : q = i := by omega
                rw [if_neg e']; exact hbits o
          · obtain rfl : i = gens.length := by omega
            refine cw_draw (late := [5, 6]) (plan := [(0, none), (1, none), (3, none), (2, some true), (4, none), (5, some false), (6, some false)]) (fun w' => Blk w' ge 177 (intsL e)) mixed (by kernel_rfl) hbe11.drew ?_
            repeat' (first | (refine k_loadCA rfl (fun _ h => h) (by rw [List.length_map]; exact hRe.1) ?_) | (refine k_pure rfl ?_))
            refine k_call (rank_spec (rows := rows) hro11.sl.drew hr4 (by omega)) (by rw [hrl]; rfl) ?_
            rintro v w12 ⟨hE12, B, rfl, hB, hBl, hBs⟩
            refine ⟨fun _ h => h.ext hE12, ?_⟩
            obtain ⟨m, hm⟩ : ∃ m, m = (bigs szf x).length := ⟨_, rfl⟩
            have hml := bigs_len szf x
            rw [← hm] at hml
            repeat' (first | (refine k_subI rfl rfl (by omega) (by omega) ?_))
            refine k_call (scaled_spec (n := 2) (u := B.length) (v := m) (T := 1000000000) (t := (B.length : Int) - (m : Int)) hRe hBe (by omega) rfl (by omega) (by omega)) (by rw [hm]; rfl) ?_
            rintro v w13 ⟨e3, rfl, hR13, hB13, hE13⟩
            refine ⟨fun _ h => h.ext hE13, ?_⟩
            repeat' (first | (refine k_storeV (vs := intsL e3) rfl rfl (by rw [List.length_map]; exact hR13.1) (all_one (fun _ => rfl) _) ((hb411.drew.ext hE12).ext hE13) (by rw [List.length_map]; exact num0_len) (fun w14 hc14 hb14 => ⟨fun h => (nomatch h), ?_⟩)) | (refine then_normal ?_) | (refine rr_nil ?_) | (refine cw_ret ?_))
            refine ret1 rfl (Go.W.rc rfl (by rw [List.length_map]; exact hR13.1) hb14) ⟨((hE11.drew.trans hE12).trans hE13).chg hc14 z1, e3, _, _, rfl, hR13, Nat.mul_pos (by omega) (Nat.pow_pos (by omega)), fun kk hcard => ?_⟩
            have hbl := bound_le n1 hclt (m := m) (rep := fun o => (bigs szf x).getD o 0) (gens := gens) (B := B.map fun b => (b.1, bitsW b.2)) (fun o ho => by have := rep_big (sz := szf) (n := x) (by rw [← hm]; exact ho); rw [hszf] at this ⊢; exact this.2) (fun o o' ho ho' he => rep_inj (by rw [← hm]; exact ho) (by rw [← hm]; exact ho') he) hkeep (fun b hb => by
                obtain ⟨b', hb', rfl⟩ := List.mem_map.1 hb
                exact hB.lead b' hb') (fun g hg => by
                obtain ⟨q, hq, eq⟩ := List.getElem_of_mem hg
                have e' : gens.getD q [] = g := by rw [List.getD_eq_getElem?_getD, List.getElem?_eq_getElem hq, Option.getD_some, eq]
                have h1 := hBs _ (getD_mem (d := []) (show q < rows.length by omega))
                have h2 : bitsW (rows.getD q []) = vec x c m (fun o => (bigs szf x).getD o 0) g := by
                  funext o
                  rw [hrb q hq o, e', hm, hszf]
                  exact vec_eq (hkeep g hg) hclt (fun y hy => by rw [hog y hy, hszf]) o
                rw [List.map_map]
                rw [h2] at h1
                exact h1) (by rw [List.map_map]; exact hB.ech) hcard
            rw [List.length_map] at hbl
            rw [Nat.one_mul, Nat.mul_comm (prodR _ _)]
            rw [hszf]
            exact hbl
end Go.Proofs.Ythhfjagnmhhapaa

namespace Go.W
section
variable {P : Program} (w : World)
theorem run_equalIn_ints (d : Nat) (t e : TypeId) (n : Nat) (ht : P.underlying t = some (.array n e)) (he : P.underlying e = some (.int .i64)) (hsz : ∀ w, (sizeOf e).run P w = .ok 1 w)
    (xs ys : List Int) (hx : xs.length = n) (hy : ys.length = n) :
    (Op.equalIn (d + 2) t (.agg (xs.map (Value.int .i64)).toArray) (.agg (ys.map (Value.int .i64)).toArray)).run P w = .ok ((List.range n).all fun i => xs.getD i 0 == ys.getD i 0) w := by
  rw [List.range_eq_range', Op.equalIn]
  simp only [Sem.run_bind, run_underlying ht, Result.andThen_ok, hsz, Std.Legacy.Range.forIn_eq_forIn_range', Std.Legacy.Range.size, Nat.sub_zero, Nat.add_sub_cancel, Nat.div_one]
  have hl : ∀ i ∈ List.range' 0 n 1, i < n := fun i hi => by simpa using (List.mem_range'_1.1 hi).2
  generalize List.range' 0 n 1 = l at hl ⊢
  induction l with
  | nil => simp
  | cons i l ih =>
    have hi : i < n := hl i (by simp)
    have px : (part e (xs.map (Value.int .i64)).toArray (i * 1)).run P w = .ok (.int .i64 (xs.getD i 0)) w := by
      simp [part, isAgg, run_underlying he, List.getD, List.getElem?_eq_getElem (show i < xs.length by omega)]
    have py : (part e (ys.map (Value.int .i64)).toArray (i * 1)).run P w = .ok (.int .i64 (ys.getD i 0)) w := by
      simp [part, isAgg, run_underlying he, List.getD, List.getElem?_eq_getElem (show i < ys.length by omega)]
    have pe : (Op.equalIn (d + 1) e (.int .i64 (xs.getD i 0)) (.int .i64 (ys.getD i 0))).run P w = .ok (xs.getD i 0 == ys.getD i 0) w := run_equalIn_int w d e .i64 .i64 _ _ he
    simp only [List.forIn_cons, Sem.run_bind, px, py, pe, Result.andThen_ok, List.all_cons]
    cases hb : (xs.getD i 0 == ys.getD i 0)
    · simp
    · simp only [Bool.not_true, Bool.false_eq_true, if_false, Sem.run_pure, Result.andThen_ok, Bool.true_and]
      exact ih fun j hj => hl j (by simp [hj])
theorem all_eq {n : Nat} {xs ys : List Int} (hx : xs.length = n) (hy : ys.length = n) (h : ((List.range n).all fun i => xs.getD i 0 == ys.getD i 0) = true) : xs = ys := by
  apply List.ext_getElem?
  intro i
  by_cases hi : i < n
  · have := List.all_eq_true.1 h i (List.mem_range.2 hi)
    rw [beq_iff_eq, List.getD_eq_getElem?_getD, List.getD_eq_getElem?_getD, List.getElem?_eq_getElem (by omega), List.getElem?_eq_getElem (by omega)] at this
    rw [List.getElem?_eq_getElem (by omega), List.getElem?_eq_getElem (by omega)]
    simpa using this
  · rw [List.getElem?_eq_none (by omega), List.getElem?_eq_none (by omega)]
end
theorem k_eqArr {P : Program} {S : World → Prop} {ops : List Oper} {K : Env → World → Prop} {rest : List (Oper × Option Bool)} {ρ : Env} {w : World} {b : Option Bool} {d : Nat} {T T' : TypeId} {pos : String} {af : Array Edge}
    {x y : Operand} {T'' e n : Nat} {xs ys : List Int} (ht : P.underlying T' = some (.array n e)) (he : P.underlying e = some (.int .i64)) (hsz : ∀ w, (sizeOf e).run P w = .ok 1 w) (hg : P.eqGuardType P.depth T' = false)
    (hx : ev ρ x = .agg (xs.map (Value.int .i64)).toArray) (hy : ev ρ y = .agg (ys.map (Value.int .i64)).toArray) (hxl : xs.length = n) (hyl : ys.length = n)
    (h : ∀ r : Bool, (r = true → xs = ys) → RR P S ops K rest (upd ρ d (.bool r)) w) : RR P S ops K ((⟨some d, .binOp .eql T' x y T'', T, pos, af, none⟩, b) :: rest) ρ w :=
  rr_pure rfl (fun w' => by
    simp only [execOp, hx, hy]
    rw [Sem.run_bind_ok (v := .bool ((List.range n).all fun i => xs.getD i 0 == ys.getD i 0)) (w' := w')]
    · rfl
    · rw [Sem.run_bind_ok (run_eqGuard_agg w' .eql T' x y _ _ hg), run_eql_struct, run_equalIn_ints w' 9998 T' e n ht he hsz xs ys hxl hyl]; rfl) (h _ (all_eq hxl hyl))
end Go.W
namespace Go.PM
theorem prodL_take (d0 : Lv) : ∀ (ls : List Lv) (i : Nat), i < ls.length → prodL (ls.take (i + 1)) = prodL (ls.take i) * (ls.getD i d0).orb.length
  | [], i, h => absurd h (by simp)
  | l :: ls, 0, _ => by simp [prodL]
  | l :: ls, i + 1, h => by
    have := prodL_take d0 ls i (by simpa using h)
    simp only [List.take_succ_cons, prodL, List.getD_cons_succ] at *
    rw [this, Nat.mul_assoc]
theorem prodL_split : ∀ (ls : List Lv) (i : Nat), prodL ls = prodL (ls.take i) * prodL (ls.drop i)
  | ls, 0 => by simp [prodL]
  | [], i + 1 => by simp [prodL]
  | l :: ls, i + 1 => by
    have := prodL_split ls i
    simp only [List.take_succ_cons, List.drop_succ_cons, prodL] at *
    rw [Nat.mul_assoc, ← this]
theorem prodL_tpos {n : Nat} : ∀ {ls : List Lv} (i : Nat), Links n ls → 1 ≤ prodL (ls.take i)
  | _, 0, _ => by simp [prodL]
  | [], _ + 1, _ => by simp [prodL]
  | l :: ls, i + 1, h => by
    rw [List.take_succ_cons, prodL]; exact Nat.mul_pos h.1.pos (prodL_tpos i h.tail)
end Go.PM
namespace Go.Proofs.Ythhfjagnmhhapaa
open Go.W Go.PM
theorem numT : Try.prog.underlying 177 = some (.array 513 3) := by kernel_rfl
theorem numG : Try.prog.eqGuardType Try.prog.depth 177 = false := by kernel_rfl
theorem intSz (w : World) : (sizeOf 3).run Try.prog w = .ok 1 w := run_size (by kernel_rfl)
end Go.Proofs.Ythhfjagnmhhapaa

