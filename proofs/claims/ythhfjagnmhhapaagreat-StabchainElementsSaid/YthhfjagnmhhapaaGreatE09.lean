import Derived.Laws.StructEq
import Derived.Test.YthhfjagnmhhapaaGreatE01
import Derived.Test.YthhfjagnmhhapaaGreatE02
import Derived.Test.YthhfjagnmhhapaaGreatE03
import Derived.Test.YthhfjagnmhhapaaGreatE04
import Derived.Test.YthhfjagnmhhapaaGreatE05
import Derived.Test.YthhfjagnmhhapaaGreatE06
import Derived.Test.YthhfjagnmhhapaaGreatE07
import Derived.Test.YthhfjagnmhhapaaGreatE08

/- Signs on classes by cycles: plain. -/
namespace Go.PM
def flipAt (p : List Int) (x : Nat) : Bool := leastB (cyc p x) && decide (per p x % 2 = 0)
def sgO (p : List Int) (f : Nat → Int) (o : Int) : Nat → Bool
  | 0 => false
  | k + 1 => sgO p f o k ^^ (flipAt p k && decide (f k = o))
theorem evTo_snoc (l : List (List Int)) (x : List Int) : ∀ k, k ≤ l.length → evTo (l ++ [x]) k = evTo l k
  | 0, _ => rfl
  | k + 1, h => by
    rw [evTo, evTo, evTo_snoc l x k (by omega)]
    have : (l ++ [x]).getD k [] = l.getD k [] := by rw [List.getD_eq_getElem?_getD, List.getElem?_append_left (by omega), ← List.getD_eq_getElem?_getD]
    rw [this]
def oddTo (p : List Int) : Nat → Bool
  | 0 => false
  | k + 1 => oddTo p k ^^ flipAt p k
theorem ev_odd {p : List Int} (hp : IsPerm p) : ∀ k, k ≤ p.length → evTo (cycR p k) (cycR p k).length = !oddTo p k
  | 0, _ => rfl
  | k + 1, hk => by
    have ih := ev_odd hp k (by omega)
    rw [cycR, oddTo]
    by_cases h : cycSel p k = true
    · rw [if_pos h]
      unfold cycSel at h
      rw [Bool.and_eq_true] at h
      rw [List.length_append, List.length_singleton, evTo, evTo_snoc _ _ _ (Nat.le_refl _), ih]
      have e : (cycR p k ++ [cyc p k]).getD (cycR p k).length [] = cyc p k := by simp
      rw [e]
      unfold flipAt per
      rw [h.2]
      by_cases h2 : (cyc p k).length % 2 = 0
      · rw [if_pos h2, decide_eq_true h2]; cases oddTo p k <;> rfl
      · rw [if_neg h2, decide_eq_false h2]; cases oddTo p k <;> rfl
    · rw [if_neg h, ih]
      have hf : flipAt p k = false := by
        unfold cycSel at h
        unfold flipAt
        cases hl : leastB (cyc p k) with
        | false => rfl
        | true =>
          rw [hl, Bool.and_true] at h
          have h1 : ¬ 1 < (cyc p k).length := fun h' => h (decide_eq_true h')
          have h2 := (cyc_spec hp (x := (k : Int)) (by unfold In; omega)).1
          unfold per at h2 ⊢
          rw [Bool.true_and]
          exact decide_eq_false (by omega)
      rw [hf]; cases oddTo p k <;> rfl
theorem even_odd {p : List Int} (hp : IsPerm p) : evenF p = !oddTo p p.length := by
  rw [← ev_odd hp p.length (Nat.le_refl _)]
  unfold evenF cyclesF
  rw [if_pos hp, cycR_eq hp p.length (Nat.le_refl _)]
theorem it_restr {n : Nat} {c : Nat → Nat} {p : List Int} (h : Keep n c 0 p) (r : Nat) {x : Nat} (hx : x < n) (hc : c x = r) : ∀ k, it (restr n c r p) k x = it p k x ∧ c (it p k x).toNat = r
  | 0 => ⟨rfl, by show c ((x : Int)).toNat = r; rw [Int.toNat_natCast]; exact hc⟩
  | k + 1 => by
    obtain ⟨h1, h2⟩ := it_restr h r hx hc k
    have hin : 0 ≤ it p k x ∧ it p k x < n := by
      have := it_in h.1.1 (x := (x : Int)) (by unfold In; rw [h.1.2]; omega) k
      unfold In at this; rw [h.1.2] at this; exact this
    have e := h.2.1 (it p k x).toNat (by omega)
    rw [Int.toNat_of_nonneg hin.1] at e
    refine ⟨?_, by show c (ap p (it p k x)).toNat = r; rw [e]; exact h2⟩
    show ap (restr n c r p) (it (restr n c r p) k x) = ap p (it p k x)
    rw [h1, ap_restr c r p hin, if_pos h2]
theorem cyc_restr {n : Nat} {c : Nat → Nat} {p : List Int} (h : Keep n c 0 p) (r : Nat) {x : Nat} (hx : x < n) (hc : c x = r) : cyc (restr n c r p) x = cyc p x := by
  have hq := restr_perm h r
  have i1 : In p (x : Int) := by unfold In; rw [h.1.2]; omega
  have i2 : In (restr n c r p) (x : Int) := by unfold In; rw [hq.2]; omega
  have e : per (restr n c r p) x = per p x := by
    have a1 := (it_eq_iff hq.1 i2 (per p x)).1 (by rw [(it_restr h r hx hc _).1]; exact (cyc_spec h.1.1 i1).2.2.2.1)
    have a2 := (it_eq_iff h.1.1 i1 (per (restr n c r p) x)).1 (by rw [← (it_restr h r hx hc _).1]; exact (cyc_spec hq.1 i2).2.2.2.1)
    exact Nat.dvd_antisymm a1 a2
  rw [(cyc_spec hq.1 i2).2.2.1, (cyc_spec h.1.1 i1).2.2.1, e]
  unfold itL
  apply List.map_congr_left
  intro k _
  exact (it_restr h r hx hc k).1
theorem flip_restr {n : Nat} {c : Nat → Nat} {p : List Int} (h : Keep n c 0 p) (r : Nat) {x : Nat} (hx : x < n) : flipAt (restr n c r p) x = (flipAt p x && decide (c x = r)) := by
  by_cases hc : c x = r
  · unfold flipAt per; rw [cyc_restr h r hx hc, decide_eq_true hc, Bool.and_true]
  · rw [decide_eq_false hc, Bool.and_false]
    have hq := restr_perm h r
    have i2 : In (restr n c r p) (x : Int) := by unfold In; rw [hq.2]; omega
    have e : ap (restr n c r p) (x : Int) = x := by rw [ap_restr c r p (by omega), if_neg (by rw [Int.toNat_natCast]; exact hc)]
    have h1 := (per_one hq.1 i2).2 e
    have h2 := (cyc_spec hq.1 i2).1
    unfold flipAt
    rw [decide_eq_false (by omega), Bool.and_false]
theorem sg_eq {n : Nat} {c : Nat → Nat} {p : List Int} (h : Keep n c 0 p) (r : Nat) : sg n c p r = sgO p (fun x => (c x : Int)) r n := by
  have hq := restr_perm h r
  unfold sg
  rw [even_odd hq.1, hq.2, Bool.not_not]
  have : ∀ k, k ≤ n → oddTo (restr n c r p) k = sgO p (fun x => (c x : Int)) r k := by
    intro k
    induction k with
    | zero => intro _; rfl
    | succ k ih =>
      intro hk
      rw [oddTo, sgO, ih (by omega), flip_restr h r (by omega)]
      congr 2
      by_cases e : c k = r
      · rw [decide_eq_true e, decide_eq_true (by rw [e])]
      · rw [decide_eq_false e, decide_eq_false (by omega)]
  exact this n (Nat.le_refl _)
def Seen (p : List Int) (k : Nat) (y : Int) : Prop := ∃ j : Nat, j < k ∧ y ∈ cyc p j
theorem seen_least {p : List Int} (hp : IsPerm p) {x : Nat} (hx : x < p.length) : Seen p x x ↔ leastB (cyc p x) = false := by
  have ix : In p (x : Int) := by unfold In; omega
  rw [← Bool.not_eq_true, least_iff hp ix]
  constructor
  · rintro ⟨j, hj, hm⟩ hall
    have ij : In p (j : Int) := by unfold In; omega
    have := hall j (cyc_symm hp ij hm)
    omega
  · intro h
    simp only [Classical.not_forall] at h
    obtain ⟨y, hy, hlt⟩ := h
    have iy := cyc_in hp ix hy
    unfold In at iy
    refine ⟨y.toNat, by omega, ?_⟩
    rw [Int.toNat_of_nonneg iy.1]
    exact cyc_symm hp ix hy
theorem seen_iff {p : List Int} (hp : IsPerm p) {x : Nat} (hx : x < p.length) (hn : ¬ Seen p x x) {L : Nat} (hL : L ≤ per p x) (hd : (itL p x L).Nodup) :
    (Seen p x (it p L x) ∨ it p L x ∈ itL p x L) ↔ L = per p x := by
  have ix : In p (x : Int) := by unfold In; omega
  have hns : ¬ Seen p x (it p L x) := by
    rintro ⟨j, hj, hm⟩
    have ij : In p (j : Int) := by unfold In; omega
    have h1 : it p L x ∈ cyc p x := (mem_cyc hp ix).2 ⟨L, rfl⟩
    exact hn ⟨j, hj, cyc_trans hp ij hm (cyc_symm hp ix h1)⟩
  constructor
  · rintro (h | h)
    · exact absurd h hns
    · have := (first_back hp ix hd).1 h
      have h2 := (it_eq_iff hp ix L).1 this.2
      exact Nat.le_antisymm hL (Nat.le_of_dvd this.1 h2)
  · rintro rfl
    have hs := cyc_spec hp ix
    right
    exact (first_back hp ix hd).2 ⟨by omega, hs.2.2.2.1⟩
end Go.PM

namespace Go.PM
theorem W4.flip {ws : List Nat} (h : W4 ws) {o : Nat} (_ho : o < 256) : W4 (flipW ws o) := by
  refine ⟨by rw [flipW_len]; exact h.1, fun i => ?_⟩
  unfold flipW
  rw [List.getD_eq_getElem?_getD, List.getElem?_set]
  split
  · split
    · simp only [Option.getD_some]
      exact Nat.xor_lt_two_pow (n := 64) (h.2 _) (by rw [Nat.one_shiftLeft]; exact Nat.pow_lt_pow_right (by omega) (Nat.mod_lt _ (by omega)))
    · simp
  · rw [← List.getD_eq_getElem?_getD]; exact h.2 i
end Go.PM
namespace Go.Proofs.YthhfjagnmhhapaaGreat
open Go.W Go.PM
set_option maxHeartbeats 1000000 in
theorem signsOf_spec {n : Nat} {p orb : List Int} {a b : Option Addr} {c1 c2 : Nat} {w : World} (pp : PermN n p) (hp : Sl w a (u16L p)) (hob : Sl w b (intsL orb)) (hol : orb.length = n) (hor : ∀ x, x < n → flipAt p x = true → 0 ≤ orb.getD x 0 ∧ orb.getD x 0 < 256) :
    CallsR Tryz.prog 106 #[.slice a n c1, .slice b n c2] w fun v w' => ∃ ws, v = .agg (wordsL ws).toArray ∧ W4 ws ∧ (∀ o : Nat, bitsW ws o = sgO p (fun x => orb.getD x 0) o n) ∧ Ex w w' := by
  refine callsR_of (args := [_, _]) Tryz.func106 rfl rfl ?_
  have n1 := pp.n1
  have hpl : p.length = n := pp.2
  repeat' (first | (refine cw_seq ?_) | (refine cw_region rfl ?_))
  refine k_allocA (vs := wordsL [0, 0, 0, 0]) (fun g4 w1 hn1 => ⟨fun _ _ => trivial, ?_⟩)
  repeat' (first | (refine then_normal ?_) | (refine cw_seq ?_) | (refine cw_region rfl ?_) | (refine rr_nil ?_))
  refine k_allocA (vs := wordsL [0, 0, 0, 0]) (fun g5 w2 hn2 => ⟨fun _ _ => trivial, ?_⟩)
  repeat' (first | (refine k_makeB rfl rfl (by omega) (by omega) (fun g6 w3 hn3 => ⟨fun _ _ => trivial, ?_⟩)) | (refine k_pure rfl ?_) | (refine then_normal ?_) | (refine cw_seq ?_) | (refine cw_region rfl ?_) | (refine rr_nil ?_) | (refine k_len rfl ?_) | (refine cw_block ?_))
  have z1 := hn1.lo; have z1' := hn1.hi; have z2 := hn2.lo; have z2' := hn2.hi; have z3 := hn3.lo; have z3' := hn3.hi
  have y1 := hn1.ex.size; have y2 := hn2.ex.size
  have hE3 : Ex w w3 := (hn1.ex.trans hn2.ex).trans hn3.ex
  refine cw_loop (ι := Nat × List Nat × List Bool) [7, 8, 9, 15, 16, 17, 18, 19, 20, 21, 22, 23, 24, 25, 26, 27, 28, 29, 30, 31, 32, 33, 34, 35, 36, 37, 38, 39, 40, 41, 42, 43, 44, 45, 46, 47, 48, 49, 50, 51, 52, 53, 54, 55, 56] (fun s => [(15, .int .i64 (s.1 : Int))]) (fun s w' => s.1 ≤ n ∧ Ex w w' ∧ Blk w' g4 155 (wordsL [0, 0, 0, 0]) ∧ Blk w' g5 155 (wordsL s.2.1) ∧ Blk w' g6 4 (s.2.2.map Value.bool) ∧ s.2.2.length = n ∧ (∀ y : Nat, y < n → (s.2.2.getD y false = true ↔ Seen p s.1 y)) ∧ W4 s.2.1 ∧ ∀ o : Nat, bitsW s.2.1 o = sgO p (fun x => orb.getD x 0) o s.1) (fun s => n - s.1)
    (0, [0, 0, 0, 0], List.replicate n false) ⟨rfl, trivial⟩ ⟨Nat.zero_le _, hE3, (hn1.blk.ext hn2.ex).ext hn3.ex, hn2.blk.ext hn3.ex, hn3.blk, by simp, fun y hy => ?_, ⟨rfl, fun i => ?_⟩, fun o => ?_⟩ ?_
  · simp only
    rw [List.getD_eq_getElem?_getD, List.getElem?_replicate, if_pos hy]
    simp [Seen]
  · simp only
    have : ([0, 0, 0, 0] : List Nat) = List.replicate 4 0 := rfl
    rw [this, List.getD_eq_getElem?_getD, List.getElem?_replicate]; split <;> simp
  · exact congrFun bits_zero o
  rintro ⟨k, ws, sn⟩ ξ w4 ⟨hk, hE4, hb4, hb5, hb6, hsl, hsn, hw4, hbits⟩
  simp only at hk hb4 hb5 hb6 hsl hsn hw4 hbits
  show CW _ _ _ _ (over [(15, .int .i64 (k : Int))] _) w4
  repeat' (first | (refine k_pure rfl ?_) | (refine then_normal ?_) | (refine cw_seq ?_) | (refine cw_region rfl ?_) | (refine rr_nil ?_) | (refine cw_cond_dec rfl (fun hc => ?_) (fun hc => ?_)) | (refine cw_block ?_) | (refine cw_exit ?_) | (refine then_exit ?_) | (refine in_exit ?_) | (refine cw_skip ?_))
  · have hkn : k < n := by omega
    have ik : In p (k : Int) := by unfold In; omega
    have hcs := cyc_spec pp.1 ik
    refine cw_loop (ι := Nat × List Bool) [8, 9, 19, 20, 21, 22, 23, 24, 25, 26, 27, 28, 29, 30, 31, 32, 33] (fun s => [(9, .int .i64 (it p s.1 k)), (8, .int .i64 (s.1 : Int))]) (fun s w' => s.1 ≤ per p k ∧ (s.1 = 0 ∨ ¬ Seen p k k) ∧ (itL p k s.1).Nodup ∧ Ex w w' ∧ Blk w' g4 155 (wordsL [0, 0, 0, 0]) ∧ Blk w' g5 155 (wordsL ws) ∧ Blk w' g6 4 (s.2.map Value.bool) ∧ s.2.length = n ∧ (∀ y : Nat, y < n → (s.2.getD y false = true ↔ (Seen p k y ∨ (y : Int) ∈ itL p k s.1)))) (fun s => n + 1 - s.1)
      (0, sn) ⟨rfl, rfl, trivial⟩ ⟨Nat.zero_le _, .inl rfl, by simp [itL], hE4, hb4, hb5, hb6, hsl, fun y hy => by rw [hsn y hy]; simp [itL]⟩ ?_
    rintro ⟨L, sn2⟩ ξ2 w5 ⟨hL, hL0, hnd, hE5, hb45, hb55, hb65, hsl5, hsn5⟩
    simp only at hL hL0 hnd hb65 hsl5 hsn5
    show CW _ _ _ _ (over [(9, .int .i64 (it p L k)), (8, .int .i64 (L : Int))] _) w5
    have hy := it_in pp.1 ik L
    unfold In at hy
    rw [hpl] at hy
    obtain ⟨y, hye⟩ : ∃ y : Nat, it p L k = (y : Int) := ⟨(it p L k).toNat, by omega⟩
    have hyn : y < n := by omega
    have hp5 := hp.ext hE5
    have hyr := pp.ap (x := (y : Int)) (by omega)
    have hpy : p.getD y 0 = ap p y := by unfold ap; rw [Int.toNat_natCast]
    have hnx : it p (L + 1) k = p.getD y 0 := by rw [hpy, ← hye]; rfl
    rw [hye]
    obtain ⟨sy, hsy⟩ : ∃ t, sn2.getD y false = t := ⟨_, rfl⟩
    cases sy with
    | false =>
      have hnot : ¬ (Seen p k y ∨ (y : Int) ∈ itL p k L) := fun h => by have := (hsn5 y hyn).2 h; rw [hsy] at this; cases this
      have hns : ¬ Seen p k k := by
        rcases hL0 with rfl | h
        · intro h; have e : (k : Int) = (y : Int) := hye; exact hnot (.inl (by rw [← e]; exact h))
        · exact h
      have hlt : L < per p k := by
        rcases Nat.lt_or_ge L (per p k) with h | h
        · exact h
        · have := (seen_iff pp.1 (by omega) hns hL hnd).2 (by omega)
          rw [hye] at this; exact absurd this hnot
      have hper := hcs.2.1
      rw [hpl] at hper
      repeat' (first | (refine k_indexN (j := y) rfl rfl ⟨_, _, rfl⟩ hyn ?_) | (refine k_loadBv (j := y) rfl hb65.sl (by omega) hsy ?_) | (refine k_storeB (j := y) rfl rfl hb65 (by omega) (fun w6 hc6 hb6' => ⟨fun _ _ => trivial, ?_⟩)) | (refine k_pure rfl ?_) | (refine then_normal ?_) | (refine cw_seq ?_) | (refine cw_region rfl ?_) | (refine rr_nil ?_) | (refine k_addI rfl rfl (by omega) (by omega) ?_) | (refine cw_cond_true rfl ?_) | (refine cw_block ?_) | (refine in_normal ?_) | (refine cw_skip ?_))
      have hp6 := hp5.chg hc6 (fun ad e => by have := hp.lt (by simp; omega) ad e; omega)
      repeat' (first | (refine k_indexN (j := y) rfl rfl (hp6.plain (by simp; omega)) hyn ?_) | (refine k_loadI (j := y) rfl hp6 (by omega) ?_) | (refine k_convI rfl (wrap_i64 (by omega) (by omega)) ?_) | (refine k_pure rfl ?_) | (refine then_normal ?_) | (refine rr_nil ?_))
      rw [← hnx]
      refine ⟨⟨(L + 1, sn2.set y true), ⟨hlt, .inr hns, ?_, hE5.chg hc6 (by omega), hb45.chg hc6 (by omega), hb55.chg hc6 (by omega), hb6', by simp [hsl5], fun z hz => ?_⟩, by simp only; omega, rfl, rfl, trivial⟩, (by (repeat (first | exact agree_mask _ _ _ | refine agree_upd rfl ?_ | refine agree_updO rfl ?_ | refine agree_overIn rfl ?_ | refine agree_maskIn rfl ?_)))⟩
      · show (itL p k (L + 1)).Nodup
        rw [itL_succ, List.nodup_append]
        refine ⟨hnd, by simp, fun u hu v hv => ?_⟩
        rw [List.mem_singleton] at hv
        subst hv
        rintro rfl
        rw [hye] at hu
        exact hnot (.inr hu)
      · show (sn2.set y true).getD z false = true ↔ (Seen p k z ∨ (z : Int) ∈ itL p k (L + 1))
        rw [getD_set' (by omega), itL_succ, List.mem_append, List.mem_singleton, hye]
        by_cases e : z = y
        · subst e; simp
        · rw [if_neg e, hsn5 z hz]
          constructor
          · rintro (h | h)
            · exact .inl h
            · exact .inr (.inl h)
          · rintro (h | h | h)
            · exact .inl h
            · exact .inr h
            · omega
    | true =>
      have hyes := (hsn5 y hyn).1 hsy
      have hfl : flipAt p k = (decide (0 < L) && decide (L % 2 = 0)) := by
        unfold flipAt
        by_cases hs : Seen p k k
        · rw [(seen_least pp.1 (by omega)).1 hs]
          have hL0' : L = 0 := hL0.resolve_right fun h => h hs
          subst hL0'; rfl
        · have hLp : L = per p k := (seen_iff pp.1 (by omega) hs hL hnd).1 (by rw [hye]; exact hyes)
          have hlb : leastB (cyc p k) = true := by
            cases hb : leastB (cyc p k) with
            | true => rfl
            | false => exact absurd ((seen_least pp.1 (by omega)).2 hb) hs
          rw [hlb, ← hLp, decide_eq_true (p := 0 < L) (by omega)]
      have hseen : ∀ z : Nat, z < n → (sn2.getD z false = true ↔ Seen p (k + 1) z) := fun z hz => by
        rw [hsn5 z hz]
        constructor
        · rintro (⟨j, hj, hm⟩ | hm)
          · exact ⟨j, by omega, hm⟩
          · obtain ⟨t, _, ht⟩ := mem_itL.1 hm
            exact ⟨k, by omega, (mem_cyc pp.1 ik).2 ⟨t, ht⟩⟩
        · rintro ⟨j, hj, hm⟩
          by_cases e : j = k
          · subst e
            by_cases hs : Seen p j j
            · obtain ⟨i, hi, hi'⟩ := hs
              exact .inl ⟨i, hi, cyc_trans pp.1 (by unfold In; omega) hi' hm⟩
            · have hLp : L = per p j := (seen_iff pp.1 (by omega) hs hL hnd).1 (by rw [hye]; exact hyes)
              right; rw [hLp, ← hcs.2.2.1]; exact hm
          · exact .inl ⟨j, by omega, hm⟩
      have hper := hcs.2.1
      rw [hpl] at hper
      have hnot : ∀ o : Nat, flipAt p k = false → bitsW ws o = sgO p (fun x => orb.getD x 0) o (k + 1) := fun o h => by rw [sgO, h, Bool.false_and, Bool.xor_false]; exact hbits o
      repeat' (first | (refine k_indexN (j := y) rfl rfl ⟨_, _, rfl⟩ hyn ?_) | (refine k_loadBv (j := y) rfl hb65.sl (by omega) hsy ?_) | (refine k_rem rfl rfl (by omega) (by omega) ?_) | (refine k_pure rfl ?_) | (refine then_normal ?_) | (refine cw_seq ?_) | (refine cw_region rfl ?_) | (refine rr_nil ?_) | (refine g_run rfl rfl ?_) | (refine g_skip rfl rfl ?_) | (refine g_dec_t rfl rfl (fun hc => ?_) (fun hc => ?_)) | (refine k_addI rfl rfl (by omega) (by omega) ?_) | (refine cw_cond_false rfl ?_) | (refine cw_cond_dec rfl (fun hc => ?_) (fun hc => ?_)) | (refine cw_exit ?_) | (refine then_exit ?_) | (refine in_exit ?_) | (refine in_normal ?_) | (refine cw_skip ?_))
      · have hfk : flipAt p k = true := by rw [hfl, decide_eq_true (p := 0 < L) (by omega), decide_eq_true (p := L % 2 = 0) (by omega)]; rfl
        have hork := hor k hkn hfk
        obtain ⟨o, ho⟩ : ∃ o : Nat, orb.getD k 0 = (o : Int) := ⟨(orb.getD k 0).toNat, by omega⟩
        have hob5 := hob.ext hE5
        have hwl := hw4.1
        have hq' : (o : Int) / 64 = ((o / 64 : Nat) : Int) := by omega
        have hr' : (o : Int) % 64 = ((o % 64 : Nat) : Int) := by omega
        refine cw_draw (late := [15]) (plan := [(0, none), (1, none), (2, none), (3, none), (4, none), (5, none), (6, none), (7, none), (8, none), (9, none), (10, none), (11, none), (12, none), (13, none), (14, none), (15, some false)]) (fun w' => Blk w' g5 155 (wordsL ws) ∧ Sl w' b (intsL orb)) mixed (by kernel_rfl) ⟨hb55.drew, hob5.drew⟩ ?_
        repeat' (first | (refine k_indexN (j := k) rfl rfl (hob5.plain (by simp; omega)) hkn ?_) | (refine k_loadI (j := k) rfl (fun _ h => h.2) (by omega) ?_) | (refine k_quoI rfl rfl (by omega) (by omega) (by omega) ?_) | (refine k_rem rfl rfl (by omega) (by omega) ?_) | (refine k_indexA1 (j := o / 64) rfl (by rw [← hq', ← ho]; rfl) (by omega) ?_) | (refine k_loadN (j := o / 64) rfl (fun _ h => h.1.sl) (by omega) ?_) | (refine k_shlN (m := 1) (j := o % 64) rfl (by rw [← hr', ← ho]; rfl) rfl (by show o % 64 ≤ 64; omega) ?_) | (refine k_xorN rfl rfl rfl (hw4.2 _) (Nat.mod_lt _ (by decide)) ?_) | (refine k_storeN (j := o / 64) rfl rfl hb55.drew (by omega) (fun w6 hc6 hb6' => ⟨fun h => (nomatch h), ?_⟩)) | (refine k_pure rfl ?_) | (refine then_normal ?_) | (refine cw_region rfl ?_) | (refine rr_nil ?_) | (refine k_addI rfl rfl (by omega) (by omega) ?_) | (refine in_normal ?_))
        have hm : (1 <<< (o % 64)) % 2 ^ IntKind.u64.bits = 1 <<< (o % 64) := by
          refine Nat.mod_eq_of_lt ?_
          rw [Nat.one_shiftLeft]
          exact Nat.pow_lt_pow_right (by omega) (by show o % 64 < 64; omega)
        rw [hm] at hb6'
        have hb6'' : Blk w6 g5 155 (wordsL (flipW ws o)) := hb6'
        refine ⟨⟨(k + 1, flipW ws o, sn2), ⟨by simp only; omega, hE5.drew.chg hc6 (by omega), hb45.drew.chg hc6 (by omega), hb6'', hb65.drew.chg hc6 (by omega), hsl5, hseen, hw4.flip (by omega), fun o' => ?_⟩, by simp only; omega, rfl, trivial⟩, (by (repeat (first | exact agree_mask _ _ _ | refine agree_upd rfl ?_ | refine agree_updO rfl ?_ | refine agree_overIn rfl ?_ | refine agree_maskIn rfl ?_)))⟩
        show bitsW (flipW ws o) o' = sgO p (fun x => orb.getD x 0) o' (k + 1)
        rw [bits_flip (by omega), sgO, hfk, Bool.true_and, hbits o']
        congr 1
        by_cases e : o' = o
        · rw [decide_eq_true e, decide_eq_true (by rw [ho, e])]
        · rw [decide_eq_false e, decide_eq_false (by rw [ho]; omega)]
      · refine ⟨⟨(k + 1, ws, sn2), ⟨by simp only; omega, hE5, hb45, hb55, hb65, hsl5, hseen, hw4, fun o => hnot o ?_⟩, by simp only; omega, rfl, trivial⟩, (by (repeat (first | exact agree_mask _ _ _ | refine agree_upd rfl ?_ | refine agree_updO rfl ?_ | refine agree_overIn rfl ?_ | refine agree_maskIn rfl ?_)))⟩
        rw [hfl, decide_eq_false (p := L % 2 = 0) (by omega), Bool.and_false]
      · refine ⟨⟨(k + 1, ws, sn2), ⟨by simp only; omega, hE5, hb45, hb55, hb65, hsl5, hseen, hw4, fun o => hnot o ?_⟩, by simp only; omega, rfl, trivial⟩, (by (repeat (first | exact agree_mask _ _ _ | refine agree_upd rfl ?_ | refine agree_updO rfl ?_ | refine agree_overIn rfl ?_ | refine agree_maskIn rfl ?_)))⟩
        rw [hfl, decide_eq_false (p := 0 < L) (by omega), Bool.false_and]
  · obtain rfl : k = n := by omega
    repeat' (first | (refine k_loadCA rfl hb5 (by rw [List.length_map]; exact hw4.1) ?_) | (refine k_storeV rfl rfl (by rw [List.length_map]; exact hw4.1) (all_one (fun _ => rfl) _) hb4 rfl (fun w5 hc5 hb5' => ⟨fun _ _ => trivial, ?_⟩)) | (refine then_normal ?_) | (refine rr_nil ?_) | (refine cw_ret ?_))
    exact ret1 rfl (rc rfl (by rw [List.length_map]; exact hw4.1) hb5') ⟨ws, rfl, hw4, hbits, hE4.chg hc5 z1⟩
end Go.Proofs.YthhfjagnmhhapaaGreat

namespace Go.W
def rowsV (rows : List (List Nat)) : List Value := rows.flatMap fun ws => ws.map fun (n : Nat) => Value.int .u64 n
theorem rowsV_len : ∀ {rows : List (List Nat)}, (∀ r ∈ rows, r.length = 4) → (rowsV rows).length = rows.length * 4
  | [], _ => rfl
  | r :: rows, h => by
    have := rowsV_len (rows := rows) fun x hx => h x (by simp [hx])
    have h1 := h r (by simp)
    simp only [rowsV, List.flatMap_cons, List.length_append, List.length_map, List.length_cons] at *
    omega
theorem rowsV_get : ∀ {rows : List (List Nat)} {i j : Nat}, (∀ r ∈ rows, r.length = 4) → i < rows.length → j < 4 → (rowsV rows)[i * 4 + j]? = some (.int .u64 (((rows.getD i []).getD j 0 : Nat) : Int))
  | [], _, _, _, h, _ => absurd h (by simp)
  | r :: rows, 0, j, h, _, hj => by
    have h1 := h r (by simp)
    simp only [rowsV, List.flatMap_cons, Nat.zero_mul, Nat.zero_add, List.getD_cons_zero]
    rw [List.getElem?_append_left (by simp; omega), List.getElem?_map, List.getD_eq_getElem?_getD, List.getElem?_eq_getElem (by omega)]; rfl
  | r :: rows, i + 1, j, h, hi, hj => by
    have h1 := h r (by simp)
    have ih := rowsV_get (rows := rows) (i := i) (j := j) (fun x hx => h x (by simp [hx])) (by simpa using hi) hj
    simp only [rowsV, List.flatMap_cons, List.getD_cons_succ] at *
    rw [List.getElem?_append_right (by simp; omega), List.length_map, h1, show (i + 1) * 4 + j - 4 = i * 4 + j by omega]
    exact ih
section
variable {P : Program} {S : World → Prop} {ops : List Oper} {K : Env → World → Prop} {rest : List (Oper × Option Bool)} {ρ : Env} {w : World} {b : Option Bool} {kf : Bool} {d : Nat} {dst : Option Nat} {T T' : TypeId} {pos : String} {af : Array Edge}
theorem k_index4 {x ix : Operand} {a : Option Addr} {l c E y j : Nat} {k : IntKind} [hT : Slc P T' E 4 y] (hx : ev ρ x = .slice a l c) (hi : ev ρ ix = .int k (j : Int)) (ha : W.plain a)
    (h2 : j < l) (h : RR P S ops K rest (upd ρ d (.pointer (some (elt a (j * 4))))) w) :
    RR P S ops K ((⟨some d, .indexAddr T' x ix, T, pos, af, none⟩, b) :: rest) ρ w :=
  k_indexAddr hx hi ha (by omega) (by omega) (by simpa using h)
theorem k_load4 {x : Operand} {T1 : TypeId} {a : Option Addr} {j : Nat} {rows : List (List Nat)} [Agg P T1 4] (hx : ev ρ x = .pointer (some (elt a (j * 4)))) (hp : W.plain a) (hs : Rd b S w fun w' => Sl w' a (rowsV rows)) (hall : ∀ r ∈ rows, r.length = 4) (hj : j < rows.length)
    (h : RR P S ops K rest (upd ρ d (.agg ((rows.getD j []).map fun (n : Nat) => Value.int .u64 n).toArray)) w) : RR P S ops K ((⟨some d, .load T1 x, T, pos, af, none⟩, b) :: rest) ρ w := by
  obtain ⟨g, o, rfl⟩ := hp
  have hr : (rows.getD j []).length = 4 := by
    rw [List.getD_eq_getElem?_getD, List.getElem?_eq_getElem hj]; exact hall _ (List.getElem_mem hj)
  refine k_loadA (g := g) (o := o + j * 4) (by rw [hx]; rfl) (by rw [List.length_map, hr]) (hs.imp fun w' hs => ?_) h
  intro i hi
  rw [List.length_map, hr] at hi
  have hg := rowsV_get (j := i) hall hj hi
  have := hs.get (j * 4 + i) (by rw [rowsV_len hall]; omega)
  simp only [elt] at this
  rw [show o + j * 4 + i = o + (j * 4 + i) by omega, this, List.getD_eq_getElem?_getD, hg]
  generalize rows.getD j [] = ws at hr
  have hi' : i < ws.length := by omega
  simp [List.getD_eq_getElem?_getD, List.getElem?_eq_getElem hi']
end
end Go.W
namespace Go.Proofs.YthhfjagnmhhapaaGreat
open Go.W Go.PM
theorem mapT2 : Tryz.prog.underlying 162 = some (.map 3 155) := by kernel_rfl
abbrev basL (B : List (Nat × List Nat)) : List (Int × Value) := B.map fun b => ((b.1 : Int), .agg (wordsL b.2).toArray)
structure BasOK (B : List (Nat × List Nat)) : Prop where
  w4 : ∀ b ∈ B, W4 b.2
  lead : ∀ b ∈ B, Lead (bitsW b.2) b.1
  ech : Ech (B.map fun b => bitsW b.2)
theorem basOK_nil : BasOK [] := ⟨by simp, by simp, ech_nil⟩
theorem BasOK.add {B : List (Nat × List Nat)} (h : BasOK B) {i : Nat} {ws : List Nat} (hw : W4 ws) (hl : Lead (bitsW ws) i) (hn : ∀ b ∈ B, b.1 ≠ i) : BasOK (B ++ [(i, ws)]) := by
  refine ⟨fun b hb => ?_, fun b hb => ?_, ?_⟩
  · rcases List.mem_append.1 hb with hb | hb
    · exact h.w4 b hb
    · rw [List.mem_singleton] at hb; subst hb; exact hw
  · rcases List.mem_append.1 hb with hb | hb
    · exact h.lead b hb
    · rw [List.mem_singleton] at hb; subst hb; exact hl
  · refine (h.ech.cons hl fun b' hb' hl' => ?_).congr fun b => ?_
    · obtain ⟨b, hb, rfl⟩ := List.mem_map.1 hb'
      exact hn b hb ((h.lead b hb).unique hl')
    · simp only [List.mem_cons, List.map_append, List.mem_append, List.map_cons, List.map_nil, List.not_mem_nil, or_false]
      exact Or.comm
abbrev bvs (B : List (Nat × List Nat)) : List (Nat → Bool) := B.map fun b => bitsW b.2
theorem rank_spec {rows : List (List Nat)} {a : Option Addr} {cap : Nat} {w : World} (hr : Sl w a (rowsV rows)) (h4 : ∀ r ∈ rows, W4 r) (hl : rows.length ≤ 1000000000000) :
    CallsR Tryz.prog 107 #[.slice a rows.length cap] w fun v w' => Ex w w' ∧ ∃ B, v = .int .i64 ((B.length : Nat) : Int) ∧ BasOK B ∧ B.length ≤ rows.length ∧ ∀ r ∈ rows, Sp (bvs B) (bitsW r) := by
  refine callsR_of (args := [_]) Tryz.func107 rfl rfl ?_
  have hall : ∀ r ∈ rows, r.length = 4 := fun r hr => (h4 r hr).1
  repeat' (first | (refine k_makeMap (fun mb w1 hE1 hmb hm1 => ⟨fun _ _ => trivial, ?_⟩)) | (refine k_pure rfl ?_) | (refine then_normal ?_) | (refine cw_seq ?_) | (refine cw_region rfl ?_) | (refine rr_nil ?_) | (refine k_len rfl ?_) | (refine cw_block ?_))
  refine cw_loop (ι := Nat × List (Nat × List Nat)) [3, 6, 7, 8, 9, 13, 14, 15, 16, 17, 18, 19, 20, 21, 22, 23, 24, 25, 26, 27, 28, 29, 30, 31, 32, 33, 34, 35, 36, 37] (fun s => [(13, .int .i64 (s.1 : Int)), (3, .int .i64 (s.2.length : Int))]) (fun s w' => s.1 ≤ rows.length ∧ s.2.length ≤ s.1 ∧ Ex w w' ∧ MapAt w' mb (basL s.2) ∧ BasOK s.2 ∧ ∀ i, i < s.1 → Sp (bvs s.2) (bitsW (rows.getD i []))) (fun s => rows.length - s.1)
    (0, []) ⟨rfl, rfl, trivial⟩ ⟨Nat.zero_le _, Nat.le_refl _, hE1, hm1, basOK_nil, fun i hi => absurd hi (by simp)⟩ ?_
  rintro ⟨r, B⟩ ξ w2 ⟨hrl, hBl, hE2, hm2, hB, hsp⟩
  simp only at hrl hBl hm2 hB hsp
  show CW _ _ _ _ (over [(13, .int .i64 (r : Int)), (3, .int .i64 (B.length : Int))] _) w2
  have hr2 := hr.ext hE2
  repeat' (first | (refine k_index4 (j := r) rfl rfl (hr2.plain (by rw [rowsV_len hall]; omega)) (by omega) ?_) | (refine k_load4 (j := r) rfl (hr2.plain (by rw [rowsV_len hall]; omega)) hr2 hall (by omega) ?_) | (refine k_allocA (vs := wordsL [0, 0, 0, 0]) (fun gr w3 hn3 => ⟨fun _ _ => trivial, ?_⟩)) | (refine k_storeV (vs := wordsL (rows.getD r [])) rfl rfl (by rw [List.length_map]; exact hall _ (getD_mem (by omega))) (all_one (fun _ => rfl) _) hn3.blk rfl (fun w4 hc4 hb4 => ⟨fun _ _ => trivial, ?_⟩)) | (refine k_pure rfl ?_) | (refine then_normal ?_) | (refine cw_seq ?_) | (refine cw_region rfl ?_) | (refine rr_nil ?_) | (refine cw_cond_dec rfl (fun hc => ?_) (fun hc => ?_)) | (refine cw_block ?_) | (refine cw_exit ?_) | (refine then_exit ?_) | (refine in_exit ?_) | (refine cw_ret ?_) | (refine cw_skip ?_))
  · have hrr : r < rows.length := by omega
    have hrow := h4 _ (getD_mem (d := []) hrr)
    obtain ⟨row, hrw⟩ : ∃ x, x = rows.getD r [] := ⟨_, rfl⟩
    rw [← hrw] at hb4 hrow
    have zr := hn3.lo
    have zw := hE2.size
    have zr' := hn3.hi
    have hgw : w.heap.size ≤ gr := by omega
    have hmr : mb ≠ gr := by have := hm2.lt; omega
    have hE4 : Ex w w4 := (hE2.trans hn3.ex).chg hc4 hgw
    have hm4 := (hm2.ext hn3.ex).chg hc4 hmr
    refine cw_loop (ι := List Nat × Nat) [3, 7, 8, 9, 17, 18, 19, 20, 21, 22, 23, 24, 25, 26, 27, 28, 29, 30, 31, 32, 33, 34, 35, 36] (fun _ => [(3, .int .i64 (B.length : Int))]) (fun s w' => Ex w w' ∧ Blk w' gr 155 (wordsL s.1) ∧ MapAt w' mb (basL B) ∧ W4 s.1 ∧ (∀ j, s.2 ≤ j → bitsW s.1 j = false) ∧ ∃ u, Sp (bvs B) u ∧ bitsW row = vx (bitsW s.1) u) (fun s => s.2)
      (row, 256) ⟨rfl, trivial⟩ ⟨hE4, hb4, hm4, hrow, fun j hj => bits_big hrow.1 hj, v0, .zero, (vx_v0 _).symm⟩ ?_
    rintro ⟨ws, k⟩ ξ2 w5 ⟨hE5, hb5, hm5, hw5, hk5, u, hu, hru⟩
    simp only at hb5 hm5 hw5 hk5 hu hru
    show CW _ _ _ _ (over [(3, .int .i64 (B.length : Int))] _) w5
    have hwl := hw5.1
    repeat' (first | (refine k_loadCA rfl hb5 (by rw [List.length_map]; exact hwl) ?_) | (refine cw_seq ?_) | (refine cw_region rfl ?_) | (refine cw_block ?_))
    refine k_call (leading_spec hw5) rfl ?_
    rintro v w6 ⟨hv, hE6⟩
    refine ⟨fun _ _ => trivial, ?_⟩
    have hb6 := hb5.ext hE6
    have hm6 := hm5.ext hE6
    have hEw6 := hE5.trans hE6
    have hlast : ∀ B', (∀ v, Sp (bvs B) v → Sp (bvs B') v) → Sp (bvs B') (bitsW row) → ∀ i, i < r + 1 → Sp (bvs B') (bitsW (rows.getD i [])) := fun B' hm hr' i hi => by
      by_cases e : i = r
      · subst e; rw [← hrw]; exact hr'
      · exact hm _ (hsp i (by omega))
    rcases hv with ⟨rfl, hz⟩ | ⟨i, hi, rfl, hld⟩
    · have hrz : Sp (bvs B) (bitsW row) := by rw [hru, hz, vx_comm, vx_v0]; exact hu
      repeat' (first | (refine k_pure rfl ?_) | (refine then_normal ?_) | (refine cw_seq ?_) | (refine cw_region rfl ?_) | (refine rr_nil ?_) | (refine k_addI rfl rfl (by omega) (by omega) ?_) | (refine cw_cond_true rfl ?_) | (refine cw_exit ?_) | (refine then_exit ?_) | (refine in_exit ?_) | (refine in_exit_ne rfl ?_) | (refine in_normal ?_))
      refine ⟨⟨(r + 1, B), ⟨by simp only; omega, by simp only; omega, hEw6, hm6, hB, hlast B (fun _ h => h) hrz⟩, by simp only; omega, rfl, rfl, trivial⟩, (by (repeat (first | exact agree_mask _ _ _ | refine agree_upd rfl ?_ | refine agree_updO rfl ?_ | refine agree_overIn rfl ?_ | refine agree_maskIn rfl ?_)))⟩
    · have hik : i < k := Classical.byContradiction fun h => by have := hk5 i (by omega); rw [hld.1] at this; cases this
      repeat' (first | (refine k_lookupOk (z := .agg (wordsL [0, 0, 0, 0]).toArray) mapT2 intT rfl rfl hm6 ?_) | (refine k_pure rfl ?_) | (refine then_normal ?_) | (refine cw_seq ?_) | (refine cw_region rfl ?_) | (refine rr_nil ?_) | (refine cw_cond_false rfl ?_) | (refine cw_skip ?_))
      cases hf : findK (i : Int) (basL B) 0 with
      | none =>
        have hno : ∀ b ∈ B, b.1 ≠ i := fun b hb e => findK_no hf ((b.1 : Int), _) (List.mem_map.2 ⟨b, hb, rfl⟩) (by simp only; omega)
        have hB' := hB.add hw5 hld hno
        have hmono : ∀ v, Sp (bvs B) v → Sp (bvs (B ++ [(i, ws)])) v := fun v h => h.mono fun b hb => by simp only [bvs, List.map_append, List.mem_append]; exact .inl hb
        have hrz : Sp (bvs (B ++ [(i, ws)])) (bitsW row) := by
          rw [hru, vx_comm]
          exact .add (hmono u hu) (by simp [bvs])
        repeat' (first | (refine k_extract rfl rfl ?_) | (refine k_allocA (vs := wordsL [0, 0, 0, 0]) (fun g8 w7 hn7 => ⟨fun _ _ => trivial, ?_⟩)) | (refine k_storeV (vs := wordsL [0, 0, 0, 0]) rfl rfl rfl rfl hn7.blk rfl (fun w8 hc8 hb8 => ⟨fun _ _ => trivial, ?_⟩)) | (refine k_pure rfl ?_) | (refine then_normal ?_) | (refine cw_seq ?_) | (refine cw_region rfl ?_) | (refine rr_nil ?_) | (refine cw_cond_true rfl ?_))
        have hE8 : Ex w w8 := (hEw6.trans hn7.ex).chg hc8 (by have := hEw6.size; have := hn7.lo; omega)
        have hb8r := (hb6.ext hn7.ex).chg hc8 (by have := hb6.lt; have := hn7.lo; omega)
        have hm8 := (hm6.ext hn7.ex).chg hc8 (by have := hm6.lt; have := hn7.lo; omega)
        repeat' (first | (refine k_loadCA rfl hb8r (by rw [List.length_map]; exact hwl) ?_) | (refine k_mapNew (v := .agg (wordsL ws).toArray) mapT2 intT rfl rfl rfl hm8 (fun p hp e => by obtain ⟨b, hb, rfl⟩ := List.mem_map.1 hp; exact hno b hb (by simp only at e; omega)) (fun w9 hc9 hm9 => ⟨fun _ _ => trivial, ?_⟩)) | (refine k_pure rfl ?_) | (refine then_normal ?_) | (refine cw_seq ?_) | (refine cw_region rfl ?_) | (refine rr_nil ?_) | (refine k_addI rfl rfl (by omega) (by omega) ?_) | (refine cw_exit ?_) | (refine then_exit ?_) | (refine in_exit ?_) | (refine in_exit_ne rfl ?_) | (refine in_normal ?_))
        have hm9' : MapAt w9 mb (basL (B ++ [(i, ws)])) := by unfold basL; rw [List.map_append]; exact hm9
        refine ⟨⟨(r + 1, B ++ [(i, ws)]), ⟨by simp only; omega, by simp only [List.length_append, List.length_singleton]; omega, hE8.chg hc9 hmb, hm9', hB', hlast _ hmono hrz⟩, by simp only; omega, rfl, ?_, trivial⟩, (by (repeat (first | exact agree_mask _ _ _ | refine agree_upd rfl ?_ | refine agree_updO rfl ?_ | refine agree_overIn rfl ?_ | refine agree_maskIn rfl ?_)))⟩
        show Value.int .i64 ((B.length : Int) + 1) = _
        simp only [List.length_append, List.length_singleton]; rfl
      | some jv =>
        obtain ⟨jj, vv⟩ := jv
        have hmem := findK_yes hf
        obtain ⟨b, hb, e⟩ := List.mem_map.1 hmem
        simp only [Prod.mk.injEq] at e
        obtain ⟨e1, rfl⟩ := e
        have e1' : b.1 = i := by omega
        have hbw := hB.w4 b hb
        have hbl := hB.lead b hb
        rw [e1'] at hbl
        repeat' (first | (refine k_extract rfl rfl ?_) | (refine k_allocA (vs := wordsL [0, 0, 0, 0]) (fun g8 w7 hn7 => ⟨fun _ _ => trivial, ?_⟩)) | (refine k_storeV (vs := wordsL b.2) rfl rfl (by rw [List.length_map]; exact hbw.1) (all_one (fun _ => rfl) _) hn7.blk rfl (fun w8 hc8 hb8 => ⟨fun _ _ => trivial, ?_⟩)) | (refine k_pure rfl ?_) | (refine then_normal ?_) | (refine cw_seq ?_) | (refine cw_region rfl ?_) | (refine rr_nil ?_) | (refine cw_cond_false rfl ?_) | (refine cw_skip ?_))
        have hE8 : Ex w w8 := (hEw6.trans hn7.ex).chg hc8 (by have := hEw6.size; have := hn7.lo; omega)
        have hb8r := (hb6.ext hn7.ex).chg hc8 (by have := hb6.lt; have := hn7.lo; omega)
        have hm8 := (hm6.ext hn7.ex).chg hc8 (by have := hm6.lt; have := hn7.lo; omega)
        repeat' (first | (refine k_loadCA rfl hb8r (by rw [List.length_map]; exact hwl) ?_) | (refine k_loadCA rfl hb8 (by rw [List.length_map]; exact hbw.1) ?_))
        refine k_call (plus_spec hw5 hbw) rfl ?_
        rintro v w9 ⟨rfl, hE9⟩
        refine ⟨fun _ _ => trivial, ?_⟩
        have hwx := hw5.xor hbw
        repeat' (first | (refine k_storeV (vs := wordsL (xorW ws b.2 4)) rfl rfl (by rw [List.length_map]; exact hwx.1) (all_one (fun _ => rfl) _) (hb8r.ext hE9) (by rw [List.length_map]; exact hwl) (fun w10 hc10 hb10 => ⟨fun _ _ => trivial, ?_⟩)) | (refine then_normal ?_) | (refine rr_nil ?_) | (refine in_normal ?_))
        refine ⟨⟨(xorW ws b.2 4, i), ⟨(hE8.trans hE9).chg hc10 hgw, hb10, (hm8.ext hE9).chg hc10 hmr, hwx, fun j hj => ?_, vx u (bitsW b.2), .add hu (List.mem_map.2 ⟨b, hb, rfl⟩), ?_⟩, hik, rfl, trivial⟩, (by (repeat (first | exact agree_mask _ _ _ | refine agree_upd rfl ?_ | refine agree_updO rfl ?_ | refine agree_overIn rfl ?_ | refine agree_maskIn rfl ?_)))⟩
        · rw [bits_xor hw5.1 hbw.1]; exact lead_vx hld hbl j hj
        · rw [bits_xor hw5.1 hbw.1, hru, vx_comm u, vx_assoc, ← vx_assoc (bitsW b.2), vx_self, vx_comm v0, vx_v0]
  · obtain rfl : r = rows.length := by omega
    refine ret1 rfl (rt rfl) ⟨hE2, B, rfl, hB, hBl, fun x hx => ?_⟩
    obtain ⟨i, hi, e⟩ := List.getElem_of_mem hx
    have := hsp i hi
    rw [List.getD_eq_getElem?_getD, List.getElem?_eq_getElem hi, Option.getD_some, e] at this
    exact this
end Go.Proofs.YthhfjagnmhhapaaGreat

/- The bound on the order of a group: plain laws for the program's computation. -/
namespace Go.PM
theorem cnt_snoc (c : Nat → Nat) (r : Nat) : ∀ d a, cntF c r a (d + 1) = cntF c r a d + (if c (a + d) = r then 1 else 0)
  | 0, a => by simp [cntF]
  | d + 1, a => by
    rw [cntF, cnt_snoc c r d (a + 1), show a + 1 + d = a + (d + 1) by omega, cntF]; omega
theorem cnt_le (c : Nat → Nat) (r : Nat) : ∀ d a, cntF c r a d ≤ d
  | 0, _ => Nat.le_refl _
  | d + 1, a => by have := cnt_le c r d (a + 1); rw [cntF]; split <;> omega
theorem cnt_ge {c : Nat → Nat} {r n : Nat} {a b : Nat} (ha : a < n) (hb : b < n) (hab : a ≠ b) (h1 : c a = r) (h2 : c b = r) : 2 ≤ cntF c r 0 n := by
  rw [← listF_len]
  refine nodup_le (l := [(a : Int), (b : Int)]) (by simp; omega) fun x hx => ?_
  simp only [List.mem_cons, List.not_mem_nil, or_false] at hx
  rcases hx with rfl | rfl
  · exact mem_listF c r n 0 a (by omega) (by omega) h1
  · exact mem_listF c r n 0 b (by omega) (by omega) h2
def bigs (sz : Nat → Nat) : Nat → List Nat
  | 0 => []
  | k + 1 => if 2 ≤ sz k then bigs sz k ++ [k] else bigs sz k
theorem bigs_len (sz : Nat → Nat) : ∀ k, (bigs sz k).length ≤ k
  | 0 => Nat.le_refl _
  | k + 1 => by have := bigs_len sz k; rw [bigs]; split <;> simp <;> omega
theorem mem_bigs {sz : Nat → Nat} : ∀ {k r : Nat}, r ∈ bigs sz k ↔ r < k ∧ 2 ≤ sz r
  | 0, r => by simp [bigs]
  | k + 1, r => by
    rw [bigs]
    split
    · rename_i h
      rw [List.mem_append, mem_bigs, List.mem_singleton]
      constructor
      · rintro (⟨h1, h2⟩ | rfl)
        · exact ⟨by omega, h2⟩
        · exact ⟨by omega, h⟩
      · rintro ⟨h1, h2⟩
        by_cases e : r = k
        · exact .inr e
        · exact .inl ⟨by omega, h2⟩
    · rename_i h
      rw [mem_bigs]
      constructor
      · rintro ⟨h1, h2⟩; exact ⟨by omega, h2⟩
      · rintro ⟨h1, h2⟩
        exact ⟨by have : r ≠ k := by rintro rfl; exact h h2
                  omega, h2⟩
theorem bigs_nodup (sz : Nat → Nat) : ∀ k, (bigs sz k).Nodup
  | 0 => by simp [bigs]
  | k + 1 => by
    rw [bigs]; split
    · rw [List.nodup_append]
      refine ⟨bigs_nodup sz k, by simp, fun a ha b hb => ?_⟩
      rw [List.mem_singleton] at hb; subst hb
      rintro rfl
      have := (mem_bigs.1 ha).1
      omega
    · exact bigs_nodup sz k
theorem bigs_pre {sz : Nat → Nat} : ∀ {k r : Nat}, r ≤ k → ∃ t, bigs sz k = bigs sz r ++ t
  | 0, r, h => by obtain rfl : r = 0 := by omega
                  exact ⟨[], by simp⟩
  | k + 1, r, h => by
    by_cases e : r = k + 1
    · subst e; exact ⟨[], by simp⟩
    · obtain ⟨t, ht⟩ := bigs_pre (sz := sz) (show r ≤ k by omega)
      rw [bigs]; split
      · exact ⟨t ++ [k], by rw [ht, List.append_assoc]⟩
      · exact ⟨t, ht⟩
def nameF (sz : Nat → Nat) (r : Nat) : Int := if 2 ≤ sz r then ((bigs sz r).length : Int) else -1
theorem bigs_at {sz : Nat → Nat} {n r : Nat} (hr : r < n) (h : 2 ≤ sz r) : (bigs sz r).length < (bigs sz n).length ∧ (bigs sz n).getD (bigs sz r).length 0 = r := by
  obtain ⟨t, ht⟩ := bigs_pre (sz := sz) (show r + 1 ≤ n by omega)
  have e : bigs sz (r + 1) = bigs sz r ++ [r] := by rw [bigs, if_pos h]
  rw [ht, e]
  refine ⟨by simp, ?_⟩
  rw [List.getD_eq_getElem?_getD, List.append_assoc, List.getElem?_append_right (Nat.le_refl _)]; simp
theorem name_iff {sz : Nat → Nat} {n r o : Nat} (hr : r < n) (h : 2 ≤ sz r) (ho : o < (bigs sz n).length) : nameF sz r = (o : Int) ↔ r = (bigs sz n).getD o 0 := by
  obtain ⟨h1, h2⟩ := bigs_at hr h
  have h1' := h1
  unfold nameF
  rw [if_pos h]
  constructor
  · intro e
    have e' : (bigs sz r).length = o := by omega
    rw [← e']; exact h2.symm
  · intro e
    have h3 : (bigs sz n).getD (bigs sz r).length 0 = (bigs sz n).getD o 0 := h2.trans e
    rw [List.getD_eq_getElem?_getD, List.getD_eq_getElem?_getD, List.getElem?_eq_getElem h1', List.getElem?_eq_getElem ho] at h3
    have := (List.getElem_inj (bigs_nodup sz n)).1 h3
    omega
theorem rep_inj {sz : Nat → Nat} {n o o' : Nat} (ho : o < (bigs sz n).length) (ho' : o' < (bigs sz n).length) (h : (bigs sz n).getD o 0 = (bigs sz n).getD o' 0) : o = o' := by
  rw [List.getD_eq_getElem?_getD, List.getD_eq_getElem?_getD, List.getElem?_eq_getElem ho, List.getElem?_eq_getElem ho'] at h
  exact (List.getElem_inj (bigs_nodup sz n)).1 h
theorem rep_big {sz : Nat → Nat} {n o : Nat} (ho : o < (bigs sz n).length) : (bigs sz n).getD o 0 < n ∧ 2 ≤ sz ((bigs sz n).getD o 0) := mem_bigs.1 (getD_mem ho)
theorem flip_big {n : Nat} {c : Nat → Nat} {p : List Int} (h : Keep n c 0 p) {x : Nat} (hx : x < n) (hf : flipAt p x = true) : 2 ≤ cntF c (c x) 0 n := by
  have ix : In p (x : Int) := by unfold In; rw [h.1.2]; omega
  unfold flipAt at hf
  rw [Bool.and_eq_true] at hf
  have he : per p x % 2 = 0 := by simpa using hf.2
  have h1 := (cyc_spec h.1.1 ix).1
  have hne : ap p (x : Int) ≠ x := fun e => by have := (per_one h.1.1 ix).2 e; omega
  have hr := h.1.ap (x := (x : Int)) (by omega)
  exact cnt_ge (a := x) (b := (ap p x).toNat) hx (by omega) (by omega) rfl (h.2.1 x hx)
theorem vec_eq {n : Nat} {c : Nat → Nat} {p : List Int} (h : Keep n c 0 p) (hc : ∀ x, x < n → c x < n) {f : Nat → Int} (hf : ∀ x, x < n → f x = nameF (fun r => cntF c r 0 n) (c x)) (o : Nat) :
    sgO p f o n = vec n c (bigs (fun r => cntF c r 0 n) n).length (fun o => (bigs (fun r => cntF c r 0 n) n).getD o 0) p o := by
  unfold vec
  by_cases ho : o < (bigs (fun r => cntF c r 0 n) n).length
  · rw [decide_eq_true ho, Bool.true_and, sg_eq h]
    have : ∀ k, k ≤ n → sgO p f o k = sgO p (fun x => (c x : Int)) ((bigs (fun r => cntF c r 0 n) n).getD o 0 : Nat) k := by
      intro k
      induction k with
      | zero => intro _; rfl
      | succ k ih =>
        intro hk
        rw [sgO, sgO, ih (by omega)]
        congr 1
        cases hfl : flipAt p k with
        | false => rfl
        | true =>
          rw [Bool.true_and, Bool.true_and]
          have hb := flip_big h (show k < n by omega) hfl
          have hi := name_iff (sz := fun r => cntF c r 0 n) (hc k (by omega)) hb ho
          rw [hf k (by omega)]
          by_cases e : nameF (fun r => cntF c r 0 n) (c k) = (o : Int)
          · rw [decide_eq_true e, decide_eq_true]
            rw [← hi.1 e]
          · rw [decide_eq_false e, decide_eq_false]
            intro e'; exact e (hi.2 (by omega))
    exact this n (Nat.le_refl _)
  · rw [decide_eq_false ho, Bool.false_and]
    have : ∀ k, k ≤ n → sgO p f o k = false := by
      intro k
      induction k with
      | zero => intro _; rfl
      | succ k ih =>
        intro hk
        rw [sgO, ih (by omega), Bool.false_xor]
        cases hfl : flipAt p k with
        | false => rfl
        | true =>
          rw [Bool.true_and]
          have hb := flip_big h (show k < n by omega) hfl
          have hi := (bigs_at (sz := fun r => cntF c r 0 n) (hc k (by omega)) hb).1
          refine decide_eq_false ?_
          rw [hf k (by omega)]
          unfold nameF
          rw [if_pos hb]; omega
    exact this n (Nat.le_refl _)
end Go.PM

namespace Go.Proofs.YthhfjagnmhhapaaGreat
open Go.W Go.PM
theorem bd_a {j q : Nat} (hj : j ≤ 11) (hq : q ≤ 12) (_ : 2 ≤ q) : j * 6000 + (q - 2) * 512 + 1 * 512 ≤ 1000000000000000 := by omega
theorem bd_b {j q : Nat} (h2 : 2 ≤ q) : j * 6000 + (q - 2) * 512 + 1 * 512 ≤ j * 6000 + (q + 1 - 2) * 512 := by omega
theorem bd_c {j s : Nat} (hs : s ≤ 11) (h : 2 ≤ s) : j * 6000 + (s + 1 - 2) * 512 ≤ (j + 1) * 6000 := by omega
set_option maxRecDepth 10000 in
set_option maxHeartbeats 2000000 in
theorem bound_spec {n : Nat} {gens : List (List Int)} {ga : Option Addr} {gc : Nat} {gs : List SD} {im : List Nat} {w : World} (n1 : 1 ≤ n ∧ n ≤ 512) (hn11 : n ≤ 11) (gn : GensN n gens) (hga : Sl w ga (gs.map SD.val)) (hgs : PsAt w n im gs gens) (hgl : gens.length ≤ 1000000000) :
    CallsR Tryz.prog 93 #[.int .i64 (n : Int), .slice ga gens.length gc] w fun v w' => Ex w w' ∧ ∃ e A b, v = .agg (intsL e).toArray ∧ Rep e A b ∧ 1 ≤ b ∧ ∀ k, Card (Gen n gens) k → b * k ≤ A := by
  refine callsR_of (args := [_, _]) Tryz.func93 rfl rfl ?_
  have hgl' := hgs.len
  repeat' (first | (refine k_allocA (vs := intsL num0) (hz := zNum) (fun g4 w1 hn1 => ⟨fun _ _ => trivial, ?_⟩)) | (refine k_pure rfl ?_) | (refine then_normal ?_) | (refine cw_seq ?_) | (refine cw_region rfl ?_) | (refine rr_nil ?_))
  have z1 := hn1.lo; have z1' := hn1.hi
  refine k_call (newPart_spec n1.2 w1) rfl ?_
  rintro v w2 ⟨gp, rfl, hgp, hP2, hE2⟩
  refine ⟨fun _ _ => trivial, ?_⟩
  have hEw2 : Ex w w2 := hn1.ex.trans hE2
  have y1 := hn1.ex.size
  have hgp2 := hP2.lt
  repeat' (first | (refine k_pure rfl ?_) | (refine then_normal ?_) | (refine cw_seq ?_) | (refine cw_region rfl ?_) | (refine rr_nil ?_) | (refine k_len rfl ?_) | (refine cw_block ?_))
  refine cw_loop (ι := Nat × (Nat → Nat)) [7, 25, 26, 27, 28, 29, 30, 31, 32] (fun s => [(25, .int .i64 (s.1 : Int))]) (fun s w' => s.1 ≤ gens.length ∧ Ex w w' ∧ Blk w' g4 139 (intsL num0) ∧ PtAt w' gp n s.2 ∧ ∀ j, j < s.1 → ∀ x, x < n → s.2 (ap (gens.getD j []) x).toNat = s.2 x) (fun s => gens.length - s.1)
    (0, fun x => x) ⟨rfl, trivial⟩ ⟨Nat.zero_le _, hEw2, hn1.blk.ext hE2, hP2, fun j hj => absurd hj (by simp)⟩ ?_
  rintro ⟨i, c⟩ ξ w3 ⟨hi, hE3, hb43, hP3, hkp⟩
  simp only at hi hP3 hkp
  show CW _ _ _ _ (over [(25, .int .i64 (i : Int))] _) w3
  have hga3 := hga.ext hE3
  obtain ⟨⟨sa, sl, sc⟩, hsd⟩ : ∃ s, gs.getD i sd0 = s := ⟨_, rfl⟩
  repeat' (first | (refine k_indexN (j := i) rfl rfl (hga3.plain (by simp; omega)) (by omega) ?_) | (refine k_loadSd (j := i) rfl hga3 (by omega) hsd ?_) | (refine k_pure rfl ?_) | (refine then_normal ?_) | (refine cw_seq ?_) | (refine cw_region rfl ?_) | (refine rr_nil ?_) | (refine cw_cond_dec rfl (fun hc => ?_) (fun hc => ?_)) | (refine cw_block ?_) | (refine cw_exit ?_) | (refine then_exit ?_) | (refine in_exit ?_) | (refine cw_skip ?_))
  · have hil : i < gens.length := by omega
    have hgsl := (hgs.ext hE3).sl i hil
    have hgsn := hgs.n i hil
    rw [hsd] at hgsl hgsn
    simp only at hgsl hgsn
    replace hgsn := hgsn.symm
    subst hgsn
    have pg := gn _ (getD_mem (d := []) hil)
    have hlt0 := (hgs.sl i hil).lt (by rw [List.length_map, pg.2]; omega)
    rw [hsd] at hlt0
    refine k_call (join_spec hP3 hgsl pg (fun ad e => by have := hlt0 ad e; omega)) rfl ?_
    rintro v w4 ⟨rfl, hc4, c', hP4, hJ⟩
    refine ⟨fun _ _ => trivial, ?_⟩
    repeat' (first | (refine k_pure rfl ?_) | (refine then_normal ?_) | (refine cw_region rfl ?_) | (refine rr_nil ?_) | (refine k_addI rfl rfl (by omega) (by omega) ?_) | (refine in_normal ?_))
    refine ⟨⟨(i + 1, c'), ⟨by simp only; omega, hE3.chg hc4 (by omega), hb43.chg hc4 (by omega), hP4, fun j hj x hx => ?_⟩, by simp only; omega, rfl, trivial⟩, (by (repeat (first | exact agree_mask _ _ _ | refine agree_upd rfl ?_ | refine agree_updO rfl ?_ | refine agree_overIn rfl ?_ | refine agree_maskIn rfl ?_)))⟩
    simp only at hj ⊢
    by_cases e : j = i
    · subst e; exact hJ.img x hx
    · have pj := gn _ (getD_mem (d := []) (show j < gens.length by omega))
      have hr := pj.ap (x := (x : Int)) (by omega)
      exact hJ.keep _ _ (by omega) hx (hkp j (by omega) x hx)
  · obtain rfl : i = gens.length := by omega
    have hkeep : ∀ g ∈ gens, Keep n c 0 g := fun g hg => by
      obtain ⟨j, hj, e⟩ := List.getElem_of_mem hg
      have e' : gens.getD j [] = g := by rw [List.getD_eq_getElem?_getD, List.getElem?_eq_getElem hj, Option.getD_some, e]
      exact ⟨gn g hg, fun x hx => by rw [← e']; exact hkp j hj x hx, fun x hx => absurd hx (by omega)⟩
    have hclt : ∀ x, x < n → c x < n := fun x hx => hP3.clt hx
    repeat' (first | (refine k_makeI rfl rfl (by omega) (by omega) (fun gz w4 hn4 => ⟨fun _ _ => trivial, ?_⟩)) | (refine k_pure rfl ?_) | (refine then_normal ?_) | (refine cw_seq ?_) | (refine cw_region rfl ?_) | (refine rr_nil ?_) | (refine cw_block ?_))
    have z3 := hE3.size
    have z4 := hn4.lo; have z4' := hn4.hi; have y4 := hn4.ex.size
    have p4l := hP3.lt
    have b43l := hb43.lt
    refine cw_loop (ι := Nat × List Int) [9, 36, 37, 38, 39, 40, 41, 42, 43, 44, 45, 46, 47] (fun s => [(36, .int .i64 (s.1 : Int))]) (fun s w' => s.1 ≤ n ∧ Ex w w' ∧ Blk w' g4 139 (intsL num0) ∧ PtAt w' gp n c ∧ Blk w' gz 3 (intsL s.2) ∧ s.2.length = n ∧ ∀ r, r < n → s.2.getD r 0 = (cntF c r 0 s.1 : Int)) (fun s => n - s.1)
      (0, List.replicate n 0) ⟨rfl, trivial⟩ ⟨Nat.zero_le _, hE3.trans hn4.ex, hb43.ext hn4.ex, hP3.ext hn4.ex, hn4.blk, by simp, fun r hr => by simp only; rw [List.getD_eq_getElem?_getD, List.getElem?_replicate, if_pos hr]; rfl⟩ ?_
    rintro ⟨k, sz⟩ ξ2 w5 ⟨hk, hE5, hb45, hP5, hbz5, hszl, hszg⟩
    simp only at hk hbz5 hszl hszg
    show CW _ _ _ _ (over [(36, .int .i64 (k : Int))] _) w5
    repeat' (first | (refine k_pure rfl ?_) | (refine then_normal ?_) | (refine cw_seq ?_) | (refine cw_region rfl ?_) | (refine rr_nil ?_) | (refine cw_cond_dec rfl (fun hc => ?_) (fun hc => ?_)) | (refine cw_block ?_) | (refine cw_exit ?_) | (refine then_exit ?_) | (refine in_exit ?_) | (refine cw_skip ?_))
    · have hkn : k < n := by omega
      refine k_call (find_spec hP5 hkn n1.2) rfl ?_
      rintro v w6 ⟨rfl, hc6, hP6⟩
      refine ⟨fun _ _ => trivial, ?_⟩
      have hck := hclt k hkn
      have hbz6 := hbz5.chg hc6 (by omega)
      have hcl := cnt_le c (c k) k 0
      have hv := hszg (c k) hck
      repeat' (first | (refine k_indexN (j := c k) rfl rfl ⟨_, _, rfl⟩ hck ?_) | (refine k_loadI (j := c k) rfl hbz6.sl (by omega) ?_) | (refine k_addI rfl rfl (by omega) (by omega) ?_) | (refine k_storeI (j := c k) rfl rfl hbz6 (by omega) (fun w7 hc7 hb7 => ⟨fun _ _ => trivial, ?_⟩)) | (refine k_pure rfl ?_) | (refine then_normal ?_) | (refine cw_region rfl ?_) | (refine rr_nil ?_) | (refine in_normal ?_))
      refine ⟨⟨(k + 1, sz.set (c k) (sz.getD (c k) 0 + 1)), ⟨by simp only; omega, (hE5.chg hc6 (by omega)).chg hc7 (by omega), (hb45.chg hc6 (by omega)).chg hc7 (by omega), hP6.chg hc7 (by omega), hb7, by simp [hszl], fun r hr => ?_⟩, by simp only; omega, rfl, trivial⟩, (by (repeat (first | exact agree_mask _ _ _ | refine agree_upd rfl ?_ | refine agree_updO rfl ?_ | refine agree_overIn rfl ?_ | refine agree_maskIn rfl ?_)))⟩
      simp only
      rw [getD_set' (by omega), cnt_snoc, Nat.zero_add]
      by_cases e : r = c k
      · subst e; rw [if_pos rfl, if_pos rfl, hv]; rfl
      · rw [if_neg e, if_neg (fun e' => e e'.symm), hszg r hr]; rfl
    · obtain rfl : k = n := by omega
      repeat' (first | (refine k_allocA (vs := intsL num0) (hz := zNum) (fun ge w6 hn6 => ⟨fun _ _ => trivial, ?_⟩)) | (refine k_makeI rfl rfl (by omega) (by omega) (fun gm w7 hn7 => ⟨fun _ _ => trivial, ?_⟩)) | (refine k_pure rfl ?_) | (refine then_normal ?_) | (refine cw_seq ?_) | (refine cw_region rfl ?_) | (refine rr_nil ?_) | (refine k_len rfl ?_) | (refine cw_block ?_))
      have z5 := hE5.size
      have b45l := hb45.lt; have p5l := hP5.lt; have bz5l := hbz5.lt
      have z6 := hn6.lo; have z6' := hn6.hi; have y6 := hn6.ex.size
      have z7 := hn7.lo; have z7' := hn7.hi; have y7 := hn7.ex.size
      have hE7 : Ex w w7 := (hE5.trans hn6.ex).trans hn7.ex
      obtain ⟨szf, hszf⟩ : ∃ f : Nat → Nat, f = fun r => cntF c r 0 k := ⟨_, rfl⟩
      have hszv : ∀ r, r < k → sz.getD r 0 = (szf r : Int) := fun r hr => by rw [hszf]; exact hszg r hr
      have hszle : ∀ r, szf r ≤ k := fun r => by rw [hszf]; exact cnt_le c r k 0
      have hRep0 : Rep num0 1 1 := rep_zero
      have hBd0 : Bd num0 0 := bd_zero 513
      refine cw_loop (ι := Nat × List Int × List Int) [11, 13, 14, 15, 52, 53, 54, 55, 56, 57, 58, 59, 60, 61, 62, 63, 64, 65, 66, 67, 68, 69, 70, 71, 72, 73, 74, 75, 76] (fun s => [(52, .int .i64 (s.1 : Int)), (11, .int .i64 ((bigs szf s.1).length : Int))]) (fun s w' => s.1 ≤ k ∧ Ex w w' ∧ Blk w' g4 139 (intsL num0) ∧ PtAt w' gp k c ∧ Blk w' gz 3 (intsL sz) ∧ Blk w' ge 139 (intsL s.2.1) ∧ Blk w' gm 3 (intsL s.2.2) ∧ s.2.2.length = k ∧ (∀ r, r < s.1 → s.2.2.getD r 0 = nameF szf r) ∧ Rep s.2.1 (prodR (fun r => fac (szf r)) s.1) 1 ∧ Bd s.2.1 (s.1 * 6000)) (fun s => k - s.1)
        (0, num0, List.replicate k 0) ⟨rfl, rfl, trivial⟩ ⟨Nat.zero_le _, hE7, (hb45.ext hn6.ex).ext hn7.ex, (hP5.ext hn6.ex).ext hn7.ex, (hbz5.ext hn6.ex).ext hn7.ex, Blk.ext hn6.blk hn7.ex, hn7.blk, by simp, fun r hr => absurd hr (by simp), hRep0, by simpa using hBd0⟩ ?_
      rintro ⟨j, e, nm⟩ ξ3 w8 ⟨hj, hE8, hb48, hP8, hbz8, hbe8, hbm8, hnml, hnm, hRe, hBe⟩
      simp only at hj hbe8 hbm8 hnml hnm hRe hBe
      show CW _ _ _ _ (over [(52, .int .i64 (j : Int)), (11, .int .i64 ((bigs szf j).length : Int))] _) w8
      have hbl := bigs_len szf j
      obtain ⟨sv, hsv⟩ : ∃ v : Nat, v = szf j := ⟨_, rfl⟩
      have hsvk := hszle j
      repeat' (first | (refine k_indexN (j := j) (a := ba gz) rfl rfl ⟨_, _, rfl⟩ (by omega) ?_) | (refine k_loadI (j := j) (a := ba gz) rfl hbz8.sl (by omega) ?_) | (refine k_indexN (j := j) (a := ba gm) rfl rfl ⟨_, _, rfl⟩ (by omega) ?_) | (refine k_storeI (j := j) rfl rfl hbm8 (by omega) (fun w9 hc9 hb9 => ⟨fun _ _ => trivial, ?_⟩)) | (refine k_pure rfl ?_) | (refine then_normal ?_) | (refine cw_seq ?_) | (refine cw_region rfl ?_) | (refine rr_nil ?_) | (refine k_addI rfl rfl (by omega) (by omega) ?_) | (refine cw_cond_dec rfl (fun hc => ?_) (fun hc => ?_)) | (refine cw_block ?_) | (refine cw_exit ?_) | (refine then_exit ?_) | (refine in_exit ?_) | (refine cw_skip ?_))
      · have hjk : j < k := by omega
        have hv := hszv j hjk
        have hb : ¬ 2 ≤ szf j := by omega
        have hbg : bigs szf (j + 1) = bigs szf j := by rw [bigs, if_neg hb]
        have hfac : fac (szf j) = 1 := by
          have : szf j = 0 ∨ szf j = 1 := by omega
          rcases this with h | h <;> rw [h] <;> rfl
        refine ⟨⟨(j + 1, e, nm.set j (-1)), ⟨by simp only; omega, hE8.chg hc9 (by omega), hb48.chg hc9 (by omega), hP8.chg hc9 (by omega), hbz8.chg hc9 (by omega), hbe8.chg hc9 (by omega), hb9, by simp [hnml], fun r hr => ?_, ?_, hBe.mono (by simp only; omega)⟩, by simp only; omega, rfl, by simp only [hbg]; rfl, trivial⟩, (by (repeat (first | exact agree_mask _ _ _ | refine agree_upd rfl ?_ | refine agree_updO rfl ?_ | refine agree_overIn rfl ?_ | refine agree_maskIn rfl ?_)))⟩
        · simp only at hr ⊢
          rw [getD_set' (by omega)]
          by_cases e' : r = j
          · subst e'; rw [if_pos rfl, nameF, if_neg hb]
          · rw [if_neg e']; exact hnm r (by omega)
        · show Rep e (prodR (fun r => fac (szf r)) (j + 1)) 1
          rw [prodR, hfac, Nat.mul_one]; exact hRe
      · have hjk : j < k := by omega
        have hv := hszv j hjk
        have hb : 2 ≤ szf j := by omega
        have hbg : bigs szf (j + 1) = bigs szf j ++ [j] := by rw [bigs, if_pos hb]
        have hbe9 := hbe8.chg hc9 (by omega)
        repeat' (first | (refine k_storeI (j := j) rfl rfl hb9 (by rw [List.length_set]; omega) (fun w10 hc10 hb10 => ⟨fun _ _ => trivial, ?_⟩)) | (refine k_pure rfl ?_) | (refine then_normal ?_) | (refine cw_seq ?_) | (refine cw_region rfl ?_) | (refine rr_nil ?_) | (refine k_addI rfl rfl (by omega) (by omega) ?_) | (refine cw_block ?_))
        rw [List.set_set] at hb10
        refine cw_loop (ι := Nat × List Int) [15, 68, 69, 70, 71, 72, 73, 74, 75] (fun s => [(15, .int .i64 (s.1 : Int))]) (fun s w' => 2 ≤ s.1 ∧ s.1 ≤ szf j + 1 ∧ Ex w w' ∧ Blk w' g4 139 (intsL num0) ∧ PtAt w' gp k c ∧ Blk w' gz 3 (intsL sz) ∧ Blk w' ge 139 (intsL s.2) ∧ Blk w' gm 3 (intsL (nm.set j ((bigs szf j).length : Int))) ∧ Rep s.2 (prodR (fun r => fac (szf r)) j * fac (s.1 - 1)) 1 ∧ Bd s.2 (j * 6000 + (s.1 - 2) * 512)) (fun s => szf j + 1 - s.1)
          (2, e) ⟨rfl, trivial⟩ ⟨Nat.le_refl _, by simp only; omega, (hE8.chg hc9 (by omega)).chg hc10 (by omega), (hb48.chg hc9 (by omega)).chg hc10 (by omega), (hP8.chg hc9 (by omega)).chg hc10 (by omega), (hbz8.chg hc9 (by omega)).chg hc10 (by omega), hbe9.chg hc10 (by omega), hb10, by simpa [fac] using hRe, by simpa using hBe⟩ ?_
        rintro ⟨q, e2⟩ ξ4 w11 ⟨hq1, hq2, hE11, hb411, hP11, hbz11, hbe11, hbm11, hR11, hB11⟩
        simp only at hq1 hq2 hbe11 hR11 hB11
        show CW _ _ _ _ (over [(15, .int .i64 (q : Int))] _) w11
        have hel := hR11.1
        rw [hv]
        repeat' (first | (refine k_loadCA rfl hbe11 (by rw [List.length_map]; exact hel) ?_) | (refine k_pure rfl ?_) | (refine then_normal ?_) | (refine cw_seq ?_) | (refine cw_region rfl ?_) | (refine rr_nil ?_) | (refine k_addI rfl rfl (by omega) (by omega) ?_) | (refine cw_cond_dec rfl (fun hc => ?_) (fun hc => ?_)) | (refine cw_block ?_) | (refine cw_exit ?_) | (refine then_exit ?_) | (refine in_exit ?_) | (refine in_normal ?_) | (refine cw_skip ?_))
        · have hj6 : j * 6000 ≤ 12 * 6000 := Nat.mul_le_mul_right _ (by omega)
          have hM1 : j * 6000 + (q - 2) * 512 + 1 * 512 ≤ 1000000000000000 := bd_a (by omega) (by omega) hq1
          have hM2 : j * 6000 + (q - 2) * 512 + 1 * 512 ≤ j * 6000 + (q + 1 - 2) * 512 := bd_b hq1
          have hqn : 1 ≤ q ∧ q ≤ 512 := by omega
          refine k_call (scaled_spec (n := q) (u := 1) (v := 0) (T := 1) (t := 1) hR11 hB11 hqn (by decide) (by decide) hM1) rfl ?_
          rintro v w12 ⟨e3, rfl, hR12, hB12, hE12⟩
          refine ⟨fun _ _ => trivial, ?_⟩
          have hel3 := hR12.1
          repeat' (first | (refine k_storeV (vs := intsL e3) rfl rfl (by rw [List.length_map]; exact hel3) (all_one (fun _ => rfl) _) (hbe11.ext hE12) (by rw [List.length_map]; exact hel) (fun w13 hc13 hb13 => ⟨fun _ _ => trivial, ?_⟩)) | (refine k_pure rfl ?_) | (refine then_normal ?_) | (refine cw_region rfl ?_) | (refine rr_nil ?_) | (refine k_addI rfl rfl (by omega) (by omega) ?_) | (refine in_normal ?_))
          refine ⟨⟨(q + 1, e3), ⟨by simp only; omega, by simp only; omega, (hE11.trans hE12).chg hc13 (by omega), (hb411.ext hE12).chg hc13 (by omega), (hP11.ext hE12).chg hc13 (by omega), (hbz11.ext hE12).chg hc13 (by omega), hb13, (hbm11.ext hE12).chg hc13 (by omega), ?_, hB12.mono hM2⟩, by simp only; omega, rfl, trivial⟩, (by (repeat (first | exact agree_mask _ _ _ | refine agree_upd rfl ?_ | refine agree_updO rfl ?_ | refine agree_overIn rfl ?_ | refine agree_maskIn rfl ?_)))⟩
          show Rep e3 (prodR (fun r => fac (szf r)) j * fac (q + 1 - 1)) 1
          obtain ⟨q', rfl⟩ : ∃ q', q = q' + 1 := ⟨q - 1, by omega⟩
          rw [Nat.pow_one, Nat.pow_zero, Nat.mul_one] at hR12
          simp only [Nat.add_sub_cancel] at hR12 ⊢
          rw [fac, Nat.mul_comm (q' + 1), ← Nat.mul_assoc]; exact hR12
        · obtain rfl : q = szf j + 1 := by omega
          have hs1 := hszle j
          refine ⟨⟨(j + 1, e2, nm.set j ((bigs szf j).length : Int)), ⟨by simp only; omega, hE11, hb411, hP11, hbz11, hbe11, hbm11, by simp [hnml], fun r hr => ?_, ?_, hB11.mono ?_⟩, by simp only; omega, rfl, ?_, trivial⟩, (by (repeat (first | exact agree_mask _ _ _ | refine agree_upd rfl ?_ | refine agree_updO rfl ?_ | refine agree_overIn rfl ?_ | refine agree_maskIn rfl ?_)))⟩
          · simp only at hr ⊢
            rw [getD_set' (by omega)]
            by_cases e' : r = j
            · subst e'; rw [if_pos rfl, nameF, if_pos hb]
            · rw [if_neg e']; exact hnm r (by omega)
          · show Rep e2 (prodR (fun r => fac (szf r)) (j + 1)) 1
            rw [prodR]; exact hR11
          · exact bd_c (by omega) hb
          · show Value.int .i64 (((bigs szf j).length : Int) + 1) = _
            simp only [hbg, List.length_append, List.length_singleton]; rfl
      · obtain rfl : j = k := by omega
        repeat' (first | (refine k_makeI rfl rfl (by omega) (by omega) (fun go w9 hn9 => ⟨fun _ _ => trivial, ?_⟩)) | (refine k_pure rfl ?_) | (refine then_normal ?_) | (refine cw_seq ?_) | (refine cw_region rfl ?_) | (refine rr_nil ?_) | (refine cw_block ?_))
        have z8 := hE8.size
        have b48l := hb48.lt; have p8l := hP8.lt; have bz8l := hbz8.lt; have be8l := hbe8.lt; have bm8l := hbm8.lt
        have z9 := hn9.lo; have z9' := hn9.hi; have y9 := hn9.ex.size
        refine cw_loop (ι := Nat × List Int) [17, 80, 81, 82, 83, 84, 85, 86, 87, 88, 89, 90, 91, 92] (fun s => [(80, .int .i64 (s.1 : Int))]) (fun s w' => s.1 ≤ j ∧ Ex w w' ∧ Blk w' g4 139 (intsL num0) ∧ PtAt w' gp j c ∧ Blk w' ge 139 (intsL e) ∧ Blk w' gm 3 (intsL nm) ∧ Blk w' go 3 (intsL s.2) ∧ s.2.length = j ∧ ∀ y, y < s.1 → s.2.getD y 0 = nameF szf (c y)) (fun s => j - s.1)
          (0, List.replicate j 0) ⟨rfl, trivial⟩ ⟨Nat.zero_le _, hE8.trans hn9.ex, hb48.ext hn9.ex, hP8.ext hn9.ex, hbe8.ext hn9.ex, hbm8.ext hn9.ex, hn9.blk, by simp, fun y hy => absurd hy (by simp)⟩ ?_
        rintro ⟨x, orb⟩ ξ4 w10 ⟨hx, hE10, hb410, hP10, hbe10, hbm10, hbo10, hol, hog⟩
        simp only at hx hbo10 hol hog
        show CW _ _ _ _ (over [(80, .int .i64 (x : Int))] _) w10
        repeat' (first | (refine k_pure rfl ?_) | (refine then_normal ?_) | (refine cw_seq ?_) | (refine cw_region rfl ?_) | (refine rr_nil ?_) | (refine k_len rfl ?_) | (refine cw_cond_dec rfl (fun hc => ?_) (fun hc => ?_)) | (refine cw_block ?_) | (refine cw_exit ?_) | (refine then_exit ?_) | (refine in_exit ?_) | (refine cw_skip ?_))
        · have hxj : x < j := by omega
          refine k_call (find_spec hP10 hxj n1.2) rfl ?_
          rintro v w11 ⟨rfl, hc11, hP11⟩
          refine ⟨fun _ _ => trivial, ?_⟩
          have hcx := hclt x hxj
          have hbm11 := hbm10.chg hc11 (by omega)
          have hbo11 := hbo10.chg hc11 (by omega)
          repeat' (first | (refine k_indexN (j := c x) (a := ba gm) rfl rfl ⟨_, _, rfl⟩ hcx ?_) | (refine k_loadI (j := c x) (a := ba gm) rfl hbm11.sl (by omega) ?_) | (refine k_indexN (j := x) (a := ba go) rfl rfl ⟨_, _, rfl⟩ hxj ?_) | (refine k_storeI (j := x) rfl rfl hbo11 (by omega) (fun w12 hc12 hb12 => ⟨fun _ _ => trivial, ?_⟩)) | (refine k_pure rfl ?_) | (refine then_normal ?_) | (refine cw_region rfl ?_) | (refine rr_nil ?_) | (refine k_addI rfl rfl (by omega) (by omega) ?_) | (refine in_normal ?_))
          refine ⟨⟨(x + 1, orb.set x (nm.getD (c x) 0)), ⟨by simp only; omega, (hE10.chg hc11 (by omega)).chg hc12 (by omega), (hb410.chg hc11 (by omega)).chg hc12 (by omega), hP11.chg hc12 (by omega), (hbe10.chg hc11 (by omega)).chg hc12 (by omega), hbm11.chg hc12 (by omega), hb12, by simp [hol], fun y hy => ?_⟩, by simp only; omega, rfl, trivial⟩, (by (repeat (first | exact agree_mask _ _ _ | refine agree_upd rfl ?_ | refine agree_updO rfl ?_ | refine agree_overIn rfl ?_ | refine agree_maskIn rfl ?_)))⟩
          simp only at hy ⊢
          rw [getD_set' (by omega)]
          by_cases e' : y = x
          · subst e'; rw [if_pos rfl]; exact hnm _ hcx
          · rw [if_neg e']; exact hog y (by omega)
        · obtain rfl : x = j := by omega
          have b410l := hb410.lt; have be10l := hbe10.lt; have bo10l := hbo10.lt
          have z10 := hE10.size
          have horb : ∀ g ∈ gens, ∀ y, y < x → flipAt g y = true → 0 ≤ orb.getD y 0 ∧ orb.getD y 0 < 256 := fun g hg y hy hf => by
            have h2 := flip_big (hkeep g hg) hy hf
            have h3 := bigs_len szf (c y)
            have h4 := hclt y hy
            rw [hog y hy, nameF, if_pos (by rw [hszf]; exact h2)]
            omega
          skip
          refine cw_loop (ι := Nat × Option Addr × Nat × List (List Nat)) [18, 20, 95, 96, 97, 98, 99, 100, 101, 102, 103, 104, 105] (fun s => [(95, .int .i64 (s.1 : Int)), (18, .slice s.2.1 s.1 s.2.2.1)]) (fun s w' => s.1 ≤ gens.length ∧ Ex w w' ∧ Blk w' g4 139 (intsL num0) ∧ Blk w' ge 139 (intsL e) ∧ Blk w' go 3 (intsL orb) ∧ Own w' w.heap.size 155 4 s.2.1 s.1 s.2.2.1 (rowsV s.2.2.2) ∧ s.2.2.2.length = s.1 ∧ (∀ r ∈ s.2.2.2, W4 r) ∧ (∀ q, q < s.1 → ∀ o : Nat, bitsW (s.2.2.2.getD q []) o = sgO (gens.getD q []) (fun y => orb.getD y 0) o x) ∧ ∀ ad, s.2.1 = some ad → ad.block ≠ g4 ∧ ad.block ≠ ge ∧ ad.block ≠ go) (fun s => gens.length - s.1)
            (0, none, 0, []) ⟨rfl, rfl, trivial⟩ ⟨Nat.zero_le _, hE10, hb410, hbe10, hbo10, Own.nil _ _ _ _, rfl, by simp, fun q hq => absurd hq (by simp), by rintro _ ⟨⟩⟩ ?_
          rintro ⟨i, ra, rc, rows⟩ ξ5 w11 ⟨hi, hE11, hb411, hbe11, hbo11, hro11, hrl, hr4, hrb, hrd⟩
          simp only at hi hro11 hrl hr4 hrb hrd
          show CW _ _ _ _ (over [(95, .int .i64 (i : Int)), (18, .slice ra i rc)] _) w11
          have hga11 := hga.ext hE11
          obtain ⟨⟨ua, ul, uc⟩, hud⟩ : ∃ s, gs.getD i sd0 = s := ⟨_, rfl⟩
          repeat' (first | (refine k_indexN (j := i) rfl rfl (hga11.plain (by simp; omega)) (by omega) ?_) | (refine k_loadSd (j := i) rfl hga11 (by omega) hud ?_) | (refine k_pure rfl ?_) | (refine then_normal ?_) | (refine cw_seq ?_) | (refine cw_region rfl ?_) | (refine rr_nil ?_) | (refine cw_cond_dec rfl (fun hc => ?_) (fun hc => ?_)) | (refine cw_block ?_) | (refine cw_exit ?_) | (refine then_exit ?_) | (refine in_exit ?_) | (refine cw_skip ?_))
          · have hil : i < gens.length := by omega
            have hgsl := (hgs.ext hE11).sl i hil
            have hgsn := hgs.n i hil
            rw [hud] at hgsl hgsn
            simp only at hgsl hgsn
            replace hgsn := hgsn.symm
            subst hgsn
            have hgm := getD_mem (d := []) hil
            have pg := gn _ hgm
            refine k_call (signsOf_spec pg hgsl hbo11.sl hol (horb _ hgm)) rfl ?_
            rintro v w12 ⟨ws, rfl, hw12, hbits, hE12⟩
            refine ⟨fun _ _ => trivial, ?_⟩
            have hwl := hw12.1
            have z11 := hE11.size
            refine k_app1 (s := 4) (z := .agg (wordsL [0, 0, 0, 0]).toArray) (v := .agg (wordsL ws).toArray) (vs := rowsV rows) rfl rfl rfl rfl (by simp [Value.cells, hwl]) (by simp only [Value.cells, List.toList_toArray]; exact all_one (fun _ => rfl) _) (hro11.ext hE12) (by omega) (by omega) (by have := hE12.size; omega) (fun gx a13 c13 w13 ho13 hg13 hA13 => ?_)
            have hown : ∀ q, (Value.slice ra i rc).ownBlock = some q → w.heap.size ≤ q ∧ q ≠ g4 ∧ q ≠ ge ∧ q ≠ go := fun q e' => by
              cases ra with
              | none => simp [Value.ownBlock] at e'
              | some ad =>
                simp [Value.ownBlock] at e'
                rw [← e']; exact ⟨(hro11.lo ad rfl).1, hrd ad rfl⟩
            have f13 := grown_fr hg13 hown
            obtain ⟨b13, rfl⟩ := Own.ba ho13
            have hb13 : b13 ≠ g4 ∧ b13 ≠ ge ∧ b13 ≠ go := by
              rcases hA13 with e' | e'
              · exact hrd _ e'.symm
              · have h3 := e' _ rfl
                simp only at h3
                have := hE12.size; have := hb411.lt; have := hbe11.lt; have := hbo11.lt
                omega
            repeat' (first | (refine k_pure rfl ?_) | (refine then_normal ?_) | (refine cw_region rfl ?_) | (refine rr_nil ?_) | (refine k_addI rfl rfl (by omega) (by omega) ?_) | (refine in_normal ?_))
            refine ⟨⟨(i + 1, ba b13, c13, rows ++ [ws]), ⟨by simp only; omega, Fr.ex (hE11.trans hE12) f13 (fun q h => h.1), (hb411.ext hE12).fr f13 (fun h => h.2.1 rfl), (hbe11.ext hE12).fr f13 (fun h => h.2.2.1 rfl), (hbo11.ext hE12).fr f13 (fun h => h.2.2.2 rfl), ?_, by simp [hrl], fun r hr => ?_, fun q hq o => ?_, by rintro _ ⟨⟩; exact hb13⟩, by simp only; omega, rfl, rfl, trivial⟩, (by (repeat (first | exact agree_mask _ _ _ | refine agree_upd rfl ?_ | refine agree_updO rfl ?_ | refine agree_overIn rfl ?_ | refine agree_maskIn rfl ?_)))⟩
            · have e' : rowsV (rows ++ [ws]) = rowsV rows ++ (Value.agg (wordsL ws).toArray).cells.toList := by simp [rowsV, Value.cells, wordsL]
              show Own w13 w.heap.size _ 4 (ba b13) (i + 1) c13 (rowsV (rows ++ [ws]))
              rw [e']; exact ho13
            · simp only [List.mem_append, List.mem_singleton] at hr
              rcases hr with hr | rfl
              · exact hr4 r hr
              · exact hw12
            · simp only at hq ⊢
              rw [getD_snoc' (by omega)]
              by_cases e' : q < rows.length
              · rw [if_pos e']; exact hrb q (by omega) o
              · obtain rfl : q = i := by omega
                rw [if_neg e']; exact hbits o
          · obtain rfl : i = gens.length := by omega
            refine cw_draw (late := [5, 6]) (plan := [(0, none), (1, none), (3, none), (2, some true), (4, none), (5, some false), (6, some false)]) (fun w' => Blk w' ge 139 (intsL e)) mixed (by kernel_rfl) hbe11.drew ?_
            repeat' (first | (refine k_loadCA rfl (fun _ h => h) (by rw [List.length_map]; exact hRe.1) ?_) | (refine k_pure rfl ?_))
            refine k_call (rank_spec (rows := rows) hro11.sl.drew hr4 (by omega)) (by rw [hrl]; rfl) ?_
            rintro v w12 ⟨hE12, B, rfl, hB, hBl, hBs⟩
            refine ⟨fun _ h => h.ext hE12, ?_⟩
            obtain ⟨m, hm⟩ : ∃ m, m = (bigs szf x).length := ⟨_, rfl⟩
            have hml := bigs_len szf x
            rw [← hm] at hml
            repeat' (first | (refine k_subI rfl rfl (by omega) (by omega) ?_))
            refine k_call (scaled_spec (n := 2) (u := B.length) (v := m) (T := 1000000000) (t := (B.length : Int) - (m : Int)) hRe hBe (by omega) rfl (by omega) (by omega)) (by rw [hm]; rfl) ?_
            rintro v w13 ⟨e3, rfl, hR13, hB13, hE13⟩
            refine ⟨fun _ h => h.ext hE13, ?_⟩
            repeat' (first | (refine k_storeV (vs := intsL e3) rfl rfl (by rw [List.length_map]; exact hR13.1) (all_one (fun _ => rfl) _) ((hb411.drew.ext hE12).ext hE13) (by rw [List.length_map]; exact num0_len) (fun w14 hc14 hb14 => ⟨fun h => (nomatch h), ?_⟩)) | (refine then_normal ?_) | (refine rr_nil ?_) | (refine cw_ret ?_))
            refine ret1 rfl (Go.W.rc rfl (by rw [List.length_map]; exact hR13.1) hb14) ⟨((hE11.drew.trans hE12).trans hE13).chg hc14 z1, e3, _, _, rfl, hR13, Nat.mul_pos (by omega) (Nat.pow_pos (by omega)), fun kk hcard => ?_⟩
            have hbl := bound_le n1 hclt (m := m) (rep := fun o => (bigs szf x).getD o 0) (gens := gens) (B := B.map fun b => (b.1, bitsW b.2)) (fun o ho => by have := rep_big (sz := szf) (n := x) (by rw [← hm]; exact ho); rw [hszf] at this ⊢; exact this.2) (fun o o' ho ho' he => rep_inj (by rw [← hm]; exact ho) (by rw [← hm]; exact ho') he) hkeep (fun b hb => by
                obtain ⟨b', hb', rfl⟩ := List.mem_map.1 hb
                exact hB.lead b' hb') (fun g hg => by
                obtain ⟨q, hq, eq⟩ := List.getElem_of_mem hg
                have e' : gens.getD q [] = g := by rw [List.getD_eq_getElem?_getD, List.getElem?_eq_getElem hq, Option.getD_some, eq]
                have h1 := hBs _ (getD_mem (d := []) (show q < rows.length by omega))
                have h2 : bitsW (rows.getD q []) = vec x c m (fun o => (bigs szf x).getD o 0) g := by
                  funext o
                  rw [hrb q hq o, e', hm, hszf]
                  exact vec_eq (hkeep g hg) hclt (fun y hy => by rw [hog y hy, hszf]) o
                rw [List.map_map]
                rw [h2] at h1
                exact h1) (by rw [List.map_map]; exact hB.ech) hcard
            rw [List.length_map] at hbl
            rw [Nat.one_mul, Nat.mul_comm (prodR _ _)]
            rw [hszf]
            exact hbl
end Go.Proofs.YthhfjagnmhhapaaGreat

namespace Go.W
section
variable {P : Program} (w : World)
theorem run_equalIn_ints (d : Nat) (t e : TypeId) (n : Nat) (ht : P.underlying t = some (.array n e)) (he : P.underlying e = some (.int .i64)) (hsz : ∀ w, (sizeOf e).run P w = .ok 1 w)
    (xs ys : List Int) (hx : xs.length = n) (hy : ys.length = n) :
    (Op.equalIn (d + 2) t (.agg (xs.map (Value.int .i64)).toArray) (.agg (ys.map (Value.int .i64)).toArray)).run P w = .ok ((List.range n).all fun i => xs.getD i 0 == ys.getD i 0) w := by
  rw [List.range_eq_range', Op.equalIn]
  simp only [Sem.run_bind, run_underlying ht, Result.andThen_ok, hsz, Std.Legacy.Range.forIn_eq_forIn_range', Std.Legacy.Range.size, Nat.sub_zero, Nat.add_sub_cancel, Nat.div_one]
  have hl : ∀ i ∈ List.range' 0 n 1, i < n := fun i hi => by simpa using (List.mem_range'_1.1 hi).2
  generalize List.range' 0 n 1 = l at hl ⊢
  induction l with
  | nil => simp
  | cons i l ih =>
    have hi : i < n := hl i (by simp)
    have px : (part e (xs.map (Value.int .i64)).toArray (i * 1)).run P w = .ok (.int .i64 (xs.getD i 0)) w := by
      simp [part, isAgg, run_underlying he, List.getD, List.getElem?_eq_getElem (show i < xs.length by omega)]
    have py : (part e (ys.map (Value.int .i64)).toArray (i * 1)).run P w = .ok (.int .i64 (ys.getD i 0)) w := by
      simp [part, isAgg, run_underlying he, List.getD, List.getElem?_eq_getElem (show i < ys.length by omega)]
    have pe : (Op.equalIn (d + 1) e (.int .i64 (xs.getD i 0)) (.int .i64 (ys.getD i 0))).run P w = .ok (xs.getD i 0 == ys.getD i 0) w := run_equalIn_int w d e .i64 .i64 _ _ he
    simp only [List.forIn_cons, Sem.run_bind, px, py, pe, Result.andThen_ok, List.all_cons]
    cases hb : (xs.getD i 0 == ys.getD i 0)
    · simp
    · simp only [Bool.not_true, Bool.false_eq_true, if_false, Sem.run_pure, Result.andThen_ok, Bool.true_and]
      exact ih fun j hj => hl j (by simp [hj])
theorem all_eq {n : Nat} {xs ys : List Int} (hx : xs.length = n) (hy : ys.length = n) (h : ((List.range n).all fun i => xs.getD i 0 == ys.getD i 0) = true) : xs = ys := by
  apply List.ext_getElem?
  intro i
  by_cases hi : i < n
  · have := List.all_eq_true.1 h i (List.mem_range.2 hi)
    rw [beq_iff_eq, List.getD_eq_getElem?_getD, List.getD_eq_getElem?_getD, List.getElem?_eq_getElem (by omega), List.getElem?_eq_getElem (by omega)] at this
    rw [List.getElem?_eq_getElem (by omega), List.getElem?_eq_getElem (by omega)]
    simpa using this
  · rw [List.getElem?_eq_none (by omega), List.getElem?_eq_none (by omega)]
end
theorem k_eqArr {P : Program} {S : World → Prop} {ops : List Oper} {K : Env → World → Prop} {rest : List (Oper × Option Bool)} {ρ : Env} {w : World} {b : Option Bool} {d : Nat} {T T' : TypeId} {pos : String} {af : Array Edge}
    {x y : Operand} {T'' e n : Nat} {xs ys : List Int} (ht : P.underlying T' = some (.array n e)) (he : P.underlying e = some (.int .i64)) (hsz : ∀ w, (sizeOf e).run P w = .ok 1 w) (hg : P.eqGuardType P.depth T' = false)
    (hx : ev ρ x = .agg (xs.map (Value.int .i64)).toArray) (hy : ev ρ y = .agg (ys.map (Value.int .i64)).toArray) (hxl : xs.length = n) (hyl : ys.length = n)
    (h : ∀ r : Bool, (r = true → xs = ys) → RR P S ops K rest (upd ρ d (.bool r)) w) : RR P S ops K ((⟨some d, .binOp .eql T' x y T'', T, pos, af, none⟩, b) :: rest) ρ w :=
  rr_pure rfl (fun w' => by
    simp only [execOp, hx, hy]
    rw [Sem.run_bind_ok (v := .bool ((List.range n).all fun i => xs.getD i 0 == ys.getD i 0)) (w' := w')]
    · rfl
    · rw [Sem.run_bind_ok (run_eqGuard_agg w' .eql T' x y _ _ hg), run_eql_struct, run_equalIn_ints w' 9998 T' e n ht he hsz xs ys hxl hyl]; rfl) (h _ (all_eq hxl hyl))
end Go.W
namespace Go.PM
theorem prodL_take (d0 : Lv) : ∀ (ls : List Lv) (i : Nat), i < ls.length → prodL (ls.take (i + 1)) = prodL (ls.take i) * (ls.getD i d0).orb.length
  | [], i, h => absurd h (by simp)
  | l :: ls, 0, _ => by simp [prodL]
  | l :: ls, i + 1, h => by
    have := prodL_take d0 ls i (by simpa using h)
    simp only [List.take_succ_cons, prodL, List.getD_cons_succ] at *
    rw [this, Nat.mul_assoc]
theorem prodL_split : ∀ (ls : List Lv) (i : Nat), prodL ls = prodL (ls.take i) * prodL (ls.drop i)
  | ls, 0 => by simp [prodL]
  | [], i + 1 => by simp [prodL]
  | l :: ls, i + 1 => by
    have := prodL_split ls i
    simp only [List.take_succ_cons, List.drop_succ_cons, prodL] at *
    rw [Nat.mul_assoc, ← this]
theorem prodL_tpos {n : Nat} : ∀ {ls : List Lv} (i : Nat), Links n ls → 1 ≤ prodL (ls.take i)
  | _, 0, _ => by simp [prodL]
  | [], _ + 1, _ => by simp [prodL]
  | l :: ls, i + 1, h => by
    rw [List.take_succ_cons, prodL]; exact Nat.mul_pos h.1.pos (prodL_tpos i h.tail)
end Go.PM
namespace Go.Proofs.YthhfjagnmhhapaaGreat
open Go.W Go.PM
theorem numT : Tryz.prog.underlying 139 = some (.array 513 3) := by kernel_rfl
theorem numG : Tryz.prog.eqGuardType Tryz.prog.depth 139 = false := by kernel_rfl
theorem intSz (w : World) : (sizeOf 3).run Tryz.prog w = .ok 1 w := run_size (by kernel_rfl)
end Go.Proofs.YthhfjagnmhhapaaGreat

