
import Derived.Test.YthhfjagnmhhapaaA01
import Derived.Test.YthhfjagnmhhapaaA02
import Derived.Test.YthhfjagnmhhapaaA03
import Derived.Test.YthhfjagnmhhapaaA04

namespace Go.Proofs.Ythhfjagnmhhapaa
open Go.W Go.PM

theorem isPerm_of_good {xs : List Int} (h1 : 1 ≤ xs.length) (h2 : xs.length ≤ 512) (h : Dist xs.length xs) : decide (IsPerm xs) = true := by
  simp [IsPerm, h1, h2, h]
theorem not_isPerm {xs : List Int} {k : Nat} (hk : k < xs.length) (h : ¬ (0 ≤ xs.getD k 0 ∧ xs.getD k 0 < xs.length ∧ xs.getD k 0 ∉ xs.take k)) : decide (IsPerm xs) = false := by
  rw [decide_eq_false_iff_not]
  rintro ⟨_, _, hG⟩
  have := good_take hG (k + 1)
  rw [take_succ_getD xs 0 hk, good_snoc] at this
  exact h this.2

theorem valid_spec {xs : List Int} {a : Option Addr} {w : World} (hx : Sl w a (intsL xs)) (cap : Nat) :
    CallsR Try.prog 95 #[.slice a xs.length cap] w fun v w' => v = .bool (decide (IsPerm xs)) ∧ Ex w w' := by
  refine callsR_of (args := [_]) Try.func95 rfl rfl ?_
  repeat' (first | (refine k_alloc (fun g w1 hn => ⟨fun _ _ => trivial, ?_⟩)) | (refine k_pure rfl ?_) | (refine then_normal ?_) | (refine cw_seq ?_) | (refine cw_region rfl ?_) | (refine rr_nil ?_) | (refine k_len rfl ?_) | (refine g_run rfl rfl ?_) | (refine g_skip rfl rfl ?_) | (refine g_dec_f rfl rfl (fun hc => ?_) (fun hc => ?_)) | (refine cw_cond_true rfl ?_) | (refine cw_cond_dec rfl (fun hc => ?_) (fun hc => ?_)) | (refine cw_block ?_) | (refine cw_ret ?_) | (refine then_ret ?_) | (refine cw_skip ?_))
  · refine ret1 rfl (rt rfl) ⟨congrArg Value.bool (Eq.symm (decide_eq_false ?_)), Ex.refl _⟩
    rintro ⟨h1, h2, _⟩; omega
  · refine cw_loop (ι := Nat × List Nat) [2, 5, 16, 17, 18, 19, 20, 21, 22, 23, 24, 25, 26, 27, 28, 29, 30, 31, 32, 33, 34, 35, 36] (fun s => [(16, .int .i64 (s.1 : Int))])
      (fun s w' => s.1 ≤ xs.length ∧ Ex w w' ∧ Blk w' g 119 (wordsL s.2) ∧ SetOf s.2 (xs.take s.1) ∧ Dist xs.length (xs.take s.1)) (fun s => xs.length - s.1)
      (0, [0, 0, 0, 0, 0, 0, 0, 0]) ⟨rfl, trivial⟩ ⟨by omega, hn.ex, hn.blk, setOf_nil, good_nil _⟩ ?_
    rintro ⟨k, ws⟩ ξ w2 ⟨hk, hE, hb, hS, hG⟩
    simp only at hk hb hS hG
    show CW _ _ _ _ (over [(16, .int .i64 (k : Int))] _) w2
    repeat' (first | (refine k_indexN rfl rfl (hx.plain (by simp; omega)) (by omega) ?_) | (refine k_loadI rfl (hx.ext hE) (by omega) ?_) | (refine k_loadA (vs := wordsL ws) rfl (by simp [hS.len]) (fun j hj => by have := hb.cell hj; simpa using this) ?_) | (refine k_pure rfl ?_) | (refine then_normal ?_) | (refine cw_seq ?_) | (refine cw_region rfl ?_) | (refine rr_nil ?_) | (refine k_len rfl ?_) | (refine g_run rfl rfl ?_) | (refine g_skip rfl rfl ?_) | (refine g_dec_f rfl rfl (fun hc => ?_) (fun hc => ?_)) | (refine cw_cond_true rfl ?_) | (refine cw_cond_dec rfl (fun hc => ?_) (fun hc => ?_)) | (refine cw_block ?_) | (refine cw_exit ?_) | (refine then_exit ?_) | (refine in_exit ?_) | (refine cw_ret ?_) | (refine then_ret ?_) | (refine in_ret ?_) | (refine cw_skip ?_))
    · refine k_call (has_spec hS _ (by omega) (by omega) _) rfl ?_
      rintro v w3 ⟨rfl, hE3⟩
      refine ⟨fun _ _ => trivial, ?_⟩
      replace hb := hb.ext hE3
      replace hE := hE.trans hE3
      repeat' (first | (refine k_loadA (vs := wordsL ws) rfl (by simp [hS.len]) (fun j hj => by have := hb.cell hj; simpa using this) ?_) | (refine k_pure rfl ?_) | (refine then_normal ?_) | (refine cw_seq ?_) | (refine cw_region rfl ?_) | (refine rr_nil ?_) | (refine cw_cond_dec rfl (fun hc => ?_) (fun hc => ?_)) | (refine cw_ret ?_) | (refine then_ret ?_) | (refine in_ret ?_) | (refine cw_skip ?_))
      · refine ret1 rfl (rt rfl) ⟨congrArg Value.bool (Eq.symm (not_isPerm (k := k) (by omega) ?_)), hE⟩
        exact fun h => h.2.2 hc
      · refine k_call (with_spec hS _ (by omega) (by omega) _) rfl ?_
        rintro v w4 ⟨ws', rfl, hS', hE4⟩
        refine ⟨fun _ _ => trivial, ?_⟩
        replace hb := hb.ext hE4
        replace hE := hE.trans hE4
        refine k_storeV (n := 8) rfl rfl (by simp [hS'.len]) (all_one (fun _ => rfl) _) hb (by simp [hS.len]) (fun w5 hc5 hb5 => ⟨fun _ _ => trivial, ?_⟩)
        replace hE := hE.chg hc5 hn.lo
        repeat' (first | (refine k_pure rfl ?_) | (refine then_normal ?_) | (refine cw_region rfl ?_) | (refine rr_nil ?_) | (refine k_addI rfl rfl (by omega) (by omega) ?_) | (refine in_normal ?_))
        rw [← take_succ_getD xs 0 (by omega)] at hS'
        refine ⟨⟨(k + 1, ws'), ⟨by simp only; omega, hE, hb5, hS', ?_⟩, by simp only; omega, rfl, trivial⟩, ?_⟩
        · simp only
          rw [take_succ_getD xs 0 (by omega), good_snoc]
          exact ⟨hG, by omega, by omega, hc⟩
        · (repeat (first | exact agree_mask _ _ _ | refine agree_upd rfl ?_ | refine agree_updO rfl ?_ | refine agree_overIn rfl ?_ | refine agree_maskIn rfl ?_))
    · refine ret1 rfl (rt rfl) ⟨congrArg Value.bool (Eq.symm (not_isPerm (k := k) (by omega) ?_)), hE⟩
      omega
    · refine ret1 rfl (rt rfl) ⟨congrArg Value.bool (Eq.symm (not_isPerm (k := k) (by omega) ?_)), hE⟩
      omega
    · refine ret1 rfl (rt rfl) ⟨congrArg Value.bool (Eq.symm (isPerm_of_good (by omega) (by omega) ?_)), hE⟩
      rw [List.take_of_length_le (by omega)] at hG
      exact hG
  · refine ret1 rfl (rt rfl) ⟨congrArg Value.bool (Eq.symm (decide_eq_false ?_)), Ex.refl _⟩
    rintro ⟨h1, h2, _⟩; omega
end Go.Proofs.Ythhfjagnmhhapaa

namespace Go.Proofs.Ythhfjagnmhhapaa
open Go.W Go.PM

theorem same_spec {xs ys : List Int} {a a' : Option Addr} {w : World} (hx : Sl w a (intsL xs)) (hy : Sl w a' (intsL ys)) (cap cap' : Nat) (hlx : xs.length ≤ 9223372036854775807) :
    CallsR Try.prog 32 #[.slice a xs.length cap, .slice a' ys.length cap'] w fun v w' => v = .bool (decide (xs = ys)) ∧ Ex w w' := by
  refine callsR_of (args := [_, _]) Try.func32 rfl rfl ?_
  repeat' (first | (refine k_pure rfl ?_) | (refine then_normal ?_) | (refine cw_seq ?_) | (refine cw_region rfl ?_) | (refine rr_nil ?_) | (refine k_len rfl ?_) | (refine cw_cond_dec rfl (fun hc => ?_) (fun hc => ?_)) | (refine cw_block ?_) | (refine cw_ret ?_) | (refine then_ret ?_) | (refine cw_skip ?_))
  · refine ret1 rfl (rt rfl) ⟨congrArg Value.bool (Eq.symm (decide_eq_false ?_)), Ex.refl _⟩
    rintro rfl; exact hc rfl
  · have hl : xs.length = ys.length := by omega
    refine cw_loop (ι := Nat) [4, 5, 13, 14, 15, 16, 17, 18, 19, 20, 21, 22, 23, 24, 25] (fun k => [(13, .int .i64 (k : Int))])
      (fun k w' => k ≤ xs.length ∧ Ex w w' ∧ xs.take k = ys.take k) (fun k => xs.length - k) 0 ⟨rfl, trivial⟩ ⟨by omega, Ex.refl _, rfl⟩ ?_
    rintro k ξ w2 ⟨hk, hE, hT⟩
    repeat' (first | (refine k_pure rfl ?_) | (refine then_normal ?_) | (refine cw_seq ?_) | (refine cw_region rfl ?_) | (refine rr_nil ?_) | (refine cw_cond_dec rfl (fun hc => ?_) (fun hc => ?_)) | (refine cw_block ?_) | (refine cw_exit ?_) | (refine then_exit ?_) | (refine in_exit ?_) | (refine cw_ret ?_) | (refine cw_skip ?_))
    · refine cw_draw (late := []) (plan := [(0, none), (1, none), (2, none), (3, none), (4, none), (5, none), (6, none), (7, none), (8, none)]) (fun w' => Ex w w') mixed (by kernel_rfl) hE.drew ?_
      repeat' (first | (refine k_indexN rfl rfl (hx.plain (by simp; omega)) (by omega) ?_) | (refine k_indexN rfl rfl (hy.plain (by simp; omega)) (by omega) ?_) | (refine k_loadI rfl (fun _ h => hx.ext h) (by omega) ?_) | (refine k_loadI rfl (fun _ h => hy.ext h) (by omega) ?_) | (refine k_pure rfl ?_) | (refine then_normal ?_) | (refine cw_seq ?_) | (refine cw_region rfl ?_) | (refine rr_nil ?_) | (refine k_addI rfl rfl (by omega) (by omega) ?_) | (refine cw_cond_dec rfl (fun hc => ?_) (fun hc => ?_)) | (refine in_normal ?_) | (refine cw_ret ?_) | (refine then_ret ?_) | (refine in_ret ?_) | (refine cw_skip ?_))
      · refine ret1 rfl (rt rfl) ⟨congrArg Value.bool (Eq.symm (decide_eq_false ?_)), hE.drew⟩
        rintro rfl; exact hc rfl
      · refine ⟨⟨k + 1, ⟨by omega, hE.drew, ?_⟩, by omega, rfl, trivial⟩, (by (repeat (first | exact agree_mask _ _ _ | refine agree_upd rfl ?_ | refine agree_updO rfl ?_ | refine agree_overIn rfl ?_ | refine agree_maskIn rfl ?_)))⟩
        rw [take_succ_getD xs 0 (by omega), take_succ_getD ys 0 (by omega), hT, Decidable.not_not.1 hc]
    · refine ret1 rfl (rt rfl) ⟨congrArg Value.bool (Eq.symm (decide_eq_true ?_)), hE⟩
      rwa [List.take_of_length_le (by omega), List.take_of_length_le (by omega)] at hT

end Go.Proofs.Ythhfjagnmhhapaa

namespace Go.Proofs.Ythhfjagnmhhapaa
open Go.W Go.PM

theorem set_take_mem {n : Nat} {l : List Int} {bs : List Bool} (hb : bs.length = n) (hm : ∀ x, x < n → (bs.getD x false = true ↔ (x : Int) ∈ l)) {y : Int} (h0 : 0 ≤ y) (_h1 : y < n) :
    ∀ x, x < n → ((bs.set y.toNat true).getD x false = true ↔ (x : Int) ∈ l ++ [y]) := by
  intro x hx
  simp only [List.getD_eq_getElem?_getD, List.getElem?_set, List.mem_append, List.mem_singleton]
  have := hm x hx
  simp only [List.getD_eq_getElem?_getD] at this
  split
  · rename_i e
    have e2 : (x : Int) = y := by omega
    rw [if_pos (by omega)]
    simp [e2]
  · rename_i e
    rw [this]
    constructor
    · exact .inl
    · rintro (h | h)
      · exact h
      · omega

theorem refValid_spec {xs : List Int} {a : Option Addr} {w : World} (hx : Sl w a (intsL xs)) (cap : Nat) :
    CallsR Try.prog 55 #[.slice a xs.length cap] w fun v w' => v = .bool (decide (IsPerm xs)) ∧ Ex w w' := by
  refine callsR_of (args := [_]) Try.func55 rfl rfl ?_
  repeat' (first | (refine k_makeB rfl rfl (by omega) (by omega) (fun g w1 hn => ⟨fun _ _ => trivial, ?_⟩)) | (refine k_pure rfl ?_) | (refine then_normal ?_) | (refine cw_seq ?_) | (refine cw_region rfl ?_) | (refine rr_nil ?_) | (refine k_len rfl ?_) | (refine g_run rfl rfl ?_) | (refine g_skip rfl rfl ?_) | (refine g_dec_f rfl rfl (fun hc => ?_) (fun hc => ?_)) | (refine cw_cond_true rfl ?_) | (refine cw_cond_dec rfl (fun hc => ?_) (fun hc => ?_)) | (refine cw_block ?_) | (refine cw_ret ?_) | (refine then_ret ?_) | (refine cw_skip ?_))
  · refine ret1 rfl (rt rfl) ⟨congrArg Value.bool (Eq.symm (decide_eq_false ?_)), Ex.refl _⟩
    rintro ⟨h1, h2, _⟩; omega
  · refine cw_loop (ι := Nat × List Bool) [2, 5, 19, 20, 21, 22, 23, 24, 25, 26, 27, 28, 29, 30, 31, 32, 33, 34, 35, 36, 37, 38, 39, 40] (fun s => [(19, .int .i64 (s.1 : Int))])
      (fun s w' => s.1 ≤ xs.length ∧ Ex w w' ∧ Blk w' g 4 (s.2.map Value.bool) ∧ s.2.length = xs.length ∧ (∀ x, x < xs.length → (s.2.getD x false = true ↔ (x : Int) ∈ xs.take s.1)) ∧ Dist xs.length (xs.take s.1)) (fun s => xs.length - s.1)
      (0, List.replicate xs.length false) ⟨rfl, trivial⟩ ⟨by simp, hn.ex, hn.blk, by simp, by intro x hx; simp [hx], good_nil _⟩ ?_
    rintro ⟨k, bs⟩ ξ w2 ⟨hk, hE, hb, hbl, hS, hG⟩
    simp only at hk hb hbl hS hG
    show CW _ _ _ _ (over [(19, .int .i64 (k : Int))] _) w2
    repeat' (first | (refine k_indexN rfl rfl (hx.plain (by simp; omega)) (by omega) ?_) | (refine k_loadI rfl (hx.ext hE) (by omega) ?_) | (refine k_index1 rfl rfl ⟨_, _, rfl⟩ (by omega) (by omega) ?_) | (refine k_loadB rfl hb.sl (by omega) ?_) | (refine k_storeB rfl rfl hb (by omega) (fun w3 hc3 hb3 => ⟨fun _ _ => trivial, ?_⟩)) | (refine k_pure rfl ?_) | (refine then_normal ?_) | (refine cw_seq ?_) | (refine cw_region rfl ?_) | (refine rr_nil ?_) | (refine k_len rfl ?_) | (refine g_run rfl rfl ?_) | (refine g_skip rfl rfl ?_) | (refine g_dec_f rfl rfl (fun hc => ?_) (fun hc => ?_)) | (refine k_addI rfl rfl (by omega) (by omega) ?_) | (refine cw_cond_true rfl ?_) | (refine cw_cond_dec rfl (fun hc => ?_) (fun hc => ?_)) | (refine cw_cond rfl (fun hc => ?_) (fun hc => ?_)) | (refine cw_block ?_) | (refine cw_exit ?_) | (refine then_exit ?_) | (refine in_exit ?_) | (refine in_normal ?_) | (refine cw_ret ?_) | (refine then_ret ?_) | (refine in_ret ?_) | (refine cw_skip ?_))
    · refine ret1 rfl (rt rfl) ⟨congrArg Value.bool (Eq.symm (not_isPerm (k := k) (by omega) ?_)), hE⟩
      intro h
      rw [hS _ (by omega), Int.toNat_of_nonneg (by omega)] at hc
      exact h.2.2 hc
    · have hni : xs.getD k 0 ∉ xs.take k := fun h => by
        have := (hS (xs.getD k 0).toNat (by omega)).2 (by rw [Int.toNat_of_nonneg (by omega)]; exact h)
        rw [hc] at this; cases this
      refine ⟨⟨(k + 1, bs.set (xs.getD k 0).toNat true), ⟨by simp only; omega, hE.chg hc3 hn.lo, hb3, by simp [hbl], ?_, ?_⟩, by simp only; omega, rfl, trivial⟩, (by (repeat (first | exact agree_mask _ _ _ | refine agree_upd rfl ?_ | refine agree_updO rfl ?_ | refine agree_overIn rfl ?_ | refine agree_maskIn rfl ?_)))⟩
      · simp only
        rw [take_succ_getD xs 0 (by omega)]
        exact set_take_mem hbl hS (by omega) (by omega)
      · simp only
        rw [take_succ_getD xs 0 (by omega), good_snoc]
        exact ⟨hG, by omega, by omega, hni⟩
    · refine ret1 rfl (rt rfl) ⟨congrArg Value.bool (Eq.symm (not_isPerm (k := k) (by omega) ?_)), hE⟩
      omega
    · refine ret1 rfl (rt rfl) ⟨congrArg Value.bool (Eq.symm (not_isPerm (k := k) (by omega) ?_)), hE⟩
      omega
    · refine ret1 rfl (rt rfl) ⟨congrArg Value.bool (Eq.symm (isPerm_of_good (by omega) (by omega) ?_)), hE⟩
      rw [List.take_of_length_le (by omega)] at hG
      exact hG
  · refine ret1 rfl (rt rfl) ⟨congrArg Value.bool (Eq.symm (decide_eq_false ?_)), Ex.refl _⟩
    rintro ⟨h1, h2, _⟩; omega

theorem product_spec {xs ys : List Int} {a a' : Option Addr} {w : World} (hx : Sl w a (intsL xs)) (hy : Sl w a' (intsL ys)) (cap cap' : Nat) (hl : xs.length ≤ 100000) (hr : ∀ y ∈ xs, 0 ≤ y ∧ y < ys.length) :
    CallsR Try.prog 58 #[.slice a xs.length cap, .slice a' ys.length cap'] w fun v w' =>
      ∃ b c, v = .slice b (mulP xs ys).length c ∧ Own w' w.heap.size 3 1 b (mulP xs ys).length c (intsL (mulP xs ys)) ∧ Ex w w' := by
  refine callsR_of (args := [_, _]) Try.func58 rfl rfl ?_
  repeat' (first | (refine k_pure rfl ?_) | (refine then_normal ?_) | (refine cw_seq ?_) | (refine cw_region rfl ?_) | (refine rr_nil ?_) | (refine k_len rfl ?_) | (refine cw_block ?_))
  refine cw_loop (ι := Nat × Option Addr × Nat) [5, 7, 10, 11, 12, 13, 14, 15, 16, 17, 18, 19, 20, 21] (fun s => [(10, .int .i64 (s.1 : Int)), (5, .slice s.2.1 s.1 s.2.2)])
    (fun s w' => s.1 ≤ xs.length ∧ Ex w w' ∧ Own w' w.heap.size 3 1 s.2.1 s.1 s.2.2 (intsL (mulP (xs.take s.1) ys))) (fun s => xs.length - s.1)
    (0, none, 0) ⟨rfl, rfl, trivial⟩ ⟨by simp, Ex.refl _, Own.nil _ _ _ _⟩ ?_
  rintro ⟨k, b, c⟩ ξ w2 ⟨hk, hE, hO⟩
  simp only at hk hO
  show CW _ _ _ _ (over [(10, .int .i64 (k : Int)), (5, .slice b k c)] _) w2
  have hrk : k < xs.length → 0 ≤ xs.getD k 0 ∧ xs.getD k 0 < ys.length := fun h => hr _ (by rw [List.getD_eq_getElem?_getD, List.getElem?_eq_getElem h]; exact List.getElem_mem h)
  repeat' (first | (refine k_indexN rfl rfl (hx.plain (by simp; omega)) (by omega) ?_) | (refine k_loadI rfl (hx.ext hE) (by omega) ?_) | (refine k_index1 rfl rfl (hy.plain (by simp; omega)) (by omega) (by omega) ?_) | (refine k_loadI rfl (hy.ext hE) (by omega) ?_) | (refine k_pure rfl ?_) | (refine then_normal ?_) | (refine cw_seq ?_) | (refine cw_region rfl ?_) | (refine rr_nil ?_) | (refine cw_cond_dec rfl (fun hc => ?_) (fun hc => ?_)) | (refine cw_block ?_) | (refine cw_exit ?_) | (refine then_exit ?_) | (refine in_exit ?_) | (refine cw_ret ?_) | (refine cw_skip ?_))
  · refine k_app1I rfl rfl rfl rfl hO (by omega) (by omega) hE.size (fun g b' c' w3 hO3 hG3 _ => ?_)
    repeat' (first | (refine k_pure rfl ?_) | (refine then_normal ?_) | (refine cw_region rfl ?_) | (refine rr_nil ?_) | (refine k_addI rfl rfl (by omega) (by omega) ?_) | (refine in_normal ?_))
    refine ⟨⟨(k + 1, b', c'), ⟨by simp only; omega, hO.grow_ex hG3 hE (Nat.le_refl _), ?_⟩, by simp only; omega, rfl, rfl, trivial⟩, (by (repeat (first | exact agree_mask _ _ _ | refine agree_upd rfl ?_ | refine agree_updO rfl ?_ | refine agree_overIn rfl ?_ | refine agree_maskIn rfl ?_)))⟩
    simp only
    rw [take_succ_getD xs 0 (by omega), mulP, List.map_append]
    simpa [intsL, mulP] using hO3
  · refine ret1 rfl (rt rfl) ⟨b, c, ?_, ?_, hE⟩
    · have : k = xs.length := by omega
      subst this
      simp [mulP]; rfl
    · have : k = xs.length := by omega
      subst this
      rw [List.take_length] at hO
      simpa [mulP] using hO
end Go.Proofs.Ythhfjagnmhhapaa

namespace Go.Proofs.Ythhfjagnmhhapaa
open Go.W Go.PM

/-- a list of numbers and a flag, the list in new memory -/
def RetL (w : World) (xs : List Int) (ok : Bool) (v : Value) (w' : World) : Prop :=
  ∃ b c, v = .tuple #[.slice b xs.length c, .bool ok] ∧ Own w' w.heap.size 3 1 b xs.length c (intsL xs) ∧ Ex w w'

theorem refCompose_spec {xs ys : List Int} {a a' : Option Addr} {w : World} (hx : Sl w a (intsL xs)) (hy : Sl w a' (intsL ys)) (cap cap' : Nat) :
    CallsR Try.prog 27 #[.slice a xs.length cap, .slice a' ys.length cap'] w (RetL w (composeF xs ys).1 (composeF xs ys).2) := by
  refine callsR_of (args := [_, _]) Try.func27 rfl rfl ?_
  have hno : ∀ w', Ex w w' → ¬ (xs.length = ys.length ∧ IsPerm xs ∧ IsPerm ys) → RetL w (composeF xs ys).1 (composeF xs ys).2 (.tuple #[.slice none 0 0, .bool false]) w' := fun w' hE h => by
    rw [composeF, if_neg h]; exact ⟨none, 0, rfl, Own.nil _ _ _ _, hE⟩
  repeat' (first | (refine k_pure rfl ?_) | (refine then_normal ?_) | (refine cw_seq ?_) | (refine cw_region rfl ?_) | (refine rr_nil ?_))
  refine k_call (refValid_spec hx _) rfl ?_
  rintro v w1 ⟨rfl, hE1⟩
  refine ⟨fun _ _ => trivial, ?_⟩
  repeat' (first | (refine k_pure rfl ?_) | (refine then_normal ?_) | (refine cw_seq ?_) | (refine cw_region rfl ?_) | (refine rr_nil ?_) | (refine g_run rfl rfl ?_) | (refine g_skip rfl rfl ?_) | (refine g_ndec_f rfl rfl (fun hc => ?_) (fun hc => ?_)) | (refine cw_cond_true rfl ?_) | (refine cw_ret ?_) | (refine then_ret ?_))
  · refine k_call (refValid_spec (hy.ext hE1) _) rfl ?_
    rintro v w2 ⟨rfl, hE2⟩
    refine ⟨fun _ _ => trivial, ?_⟩
    replace hE2 := hE1.trans hE2
    repeat' (first | (refine k_pure rfl ?_) | (refine then_normal ?_) | (refine cw_seq ?_) | (refine cw_region rfl ?_) | (refine rr_nil ?_) | (refine k_len rfl ?_) | (refine g_run rfl rfl ?_) | (refine g_skip rfl rfl ?_) | (refine g_ndec_f rfl rfl (fun hc => ?_) (fun hc => ?_)) | (refine cw_cond_true rfl ?_) | (refine cw_cond_dec rfl (fun hc => ?_) (fun hc => ?_)) | (refine cw_ret ?_) | (refine then_ret ?_) | (refine cw_skip ?_))
    · exact ret2 rfl (rt rfl) (rt rfl) (hno _ hE2 (fun h => hc (by omega)))
    · rename_i hpx hpy
      have hl : xs.length = ys.length := by omega
      have hyes : composeF xs ys = (mulP xs ys, true) := by rw [composeF, if_pos ⟨hl, hpx, hpy⟩]
      refine k_call (product_spec (hx.ext hE2) (hy.ext hE2) _ _ (by have := hpx.2.1; omega) (fun y hy => by rw [← hl]; exact hpx.2.2.1 y hy)) rfl ?_
      rintro v w3 ⟨b, c, rfl, hO, hE3⟩
      refine ⟨fun _ _ => trivial, ?_⟩
      repeat' (first | (refine k_pure rfl ?_) | (refine then_normal ?_) | (refine rr_nil ?_) | (refine cw_ret ?_))
      refine ret2 rfl (rt rfl) (rt rfl) ?_
      rw [hyes]
      exact ⟨b, c, rfl, hO.mono hE2.size, hE2.trans hE3⟩
    · exact ret2 rfl (rt rfl) (rt rfl) (hno _ hE2 (fun h => hc h.2.2))
  · exact ret2 rfl (rt rfl) (rt rfl) (hno _ hE1 (fun h => hc h.2.1))
end Go.Proofs.Ythhfjagnmhhapaa

namespace Go.PM
def identF (n : Int) : List Int × Bool := if 1 ≤ n ∧ n ≤ 512 then (idList n.toNat, true) else ([], false)
def invTo (p : List Int) : Nat → List Int
  | 0 => List.replicate p.length 0
  | k + 1 => (invTo p k).set (p.getD k 0).toNat (k : Int)
theorem invTo_len (p : List Int) : ∀ k, (invTo p k).length = p.length
  | 0 => by simp [invTo]
  | k + 1 => by simp [invTo, invTo_len p k]
def inverseF (p : List Int) : List Int × Bool := if IsPerm p then (invTo p p.length, true) else ([], false)
end Go.PM
namespace Go.Proofs.Ythhfjagnmhhapaa
open Go.W Go.PM

theorem RetL.nil {w w' : World} (hE : Ex w w') : RetL w [] false (.tuple #[.slice none 0 0, .bool false]) w' := ⟨none, 0, rfl, Own.nil _ _ _ _, hE⟩
theorem refIdentity_spec (n : Int) (w : World) : CallsR Try.prog 25 #[.int .i64 n] w (RetL w (identF n).1 (identF n).2) := by
  refine callsR_of (args := [_]) Try.func25 rfl rfl ?_
  by_cases hn : 1 ≤ n ∧ n ≤ 512
  · obtain ⟨m, rfl⟩ : ∃ m : Nat, n = (m : Int) := ⟨n.toNat, by omega⟩
    have e : identF (m : Int) = (idList m, true) := by rw [identF, if_pos hn, Int.toNat_natCast]
    rw [e]
    repeat' (first | (refine k_pure rfl ?_) | (refine then_normal ?_) | (refine cw_seq ?_) | (refine cw_region rfl ?_) | (refine rr_nil ?_) | (refine g_run rfl rfl ?_) | (refine g_skip rfl rfl ?_) | (refine g_dec_f rfl rfl (fun hc => ?_) (fun hc => ?_)) | (refine cw_cond_true rfl ?_) | (refine cw_cond_dec rfl (fun hc => ?_) (fun hc => ?_)) | (refine cw_block ?_) | (refine cw_ret ?_) | (refine then_ret ?_) | (refine cw_skip ?_))
    all_goals try (exfalso; omega)
    refine cw_loop (ι := Nat × Option Addr × Nat) [4, 5, 12, 13, 14, 15, 16, 17, 18, 19, 20] (fun s => [(5, .int .i64 (s.1 : Int)), (4, .slice s.2.1 s.1 s.2.2)])
      (fun s w' => s.1 ≤ m ∧ Ex w w' ∧ Own w' w.heap.size 3 1 s.2.1 s.1 s.2.2 (intsL (idList s.1))) (fun s => m - s.1)
      (0, none, 0) ⟨rfl, rfl, trivial⟩ ⟨by simp, Ex.refl _, Own.nil _ _ _ _⟩ ?_
    rintro ⟨k, b, c⟩ ξ w2 ⟨hk, hE, hO⟩
    simp only at hk hO
    show CW _ _ _ _ (over [(5, .int .i64 (k : Int)), (4, .slice b k c)] _) w2
    repeat' (first | (refine k_pure rfl ?_) | (refine then_normal ?_) | (refine cw_seq ?_) | (refine cw_region rfl ?_) | (refine rr_nil ?_) | (refine cw_cond_dec rfl (fun hc => ?_) (fun hc => ?_)) | (refine cw_block ?_) | (refine cw_exit ?_) | (refine then_exit ?_) | (refine in_exit ?_) | (refine cw_ret ?_) | (refine cw_skip ?_))
    · refine k_app1I rfl rfl rfl rfl hO (by omega) (by omega) hE.size (fun g b' c' w3 hO3 hG3 _ => ?_)
      repeat' (first | (refine k_pure rfl ?_) | (refine then_normal ?_) | (refine cw_region rfl ?_) | (refine rr_nil ?_) | (refine k_addI rfl rfl (by omega) (by omega) ?_) | (refine in_normal ?_))
      refine ⟨⟨(k + 1, b', c'), ⟨by simp only; omega, hO.grow_ex hG3 hE (Nat.le_refl _), by simp only [idList_succ]; exact hO3⟩, by simp only; omega, rfl, rfl, trivial⟩, (by (repeat (first | exact agree_mask _ _ _ | refine agree_upd rfl ?_ | refine agree_updO rfl ?_ | refine agree_overIn rfl ?_ | refine agree_maskIn rfl ?_)))⟩
    · obtain rfl : k = m := by omega
      refine ret2 rfl (rt rfl) (rt rfl) ⟨b, c, by rw [idList_length]; rfl, by rw [idList_length]; exact hO, hE⟩
  · have e : identF n = ([], false) := by rw [identF, if_neg hn]
    rw [e]
    repeat' (first | (refine k_pure rfl ?_) | (refine then_normal ?_) | (refine cw_seq ?_) | (refine cw_region rfl ?_) | (refine rr_nil ?_) | (refine g_run rfl rfl ?_) | (refine g_skip rfl rfl ?_) | (refine g_dec_f rfl rfl (fun hc => ?_) (fun hc => ?_)) | (refine cw_cond_true rfl ?_) | (refine cw_cond_dec rfl (fun hc => ?_) (fun hc => ?_)) | (refine cw_block ?_) | (refine cw_ret ?_) | (refine then_ret ?_) | (refine cw_skip ?_))
    all_goals first | (exfalso; omega) | exact ret2 rfl (rt rfl) (rt rfl) (RetL.nil (Ex.refl _))

theorem refInv_spec {xs : List Int} {a : Option Addr} {w : World} (hx : Sl w a (intsL xs)) (cap : Nat) (hP : IsPerm xs) :
    CallsR Try.prog 57 #[.slice a xs.length cap] w fun v w' => ∃ b c, v = .slice b (invTo xs xs.length).length c ∧ Own w' w.heap.size 3 1 b (invTo xs xs.length).length c (intsL (invTo xs xs.length)) ∧ Ex w w' := by
  refine callsR_of (args := [_]) Try.func57 rfl rfl ?_
  have hpl := hP.2.1
  repeat' (first | (refine k_makeI rfl rfl (by omega) (by omega) (fun g w2 hn2 => ⟨fun _ _ => trivial, ?_⟩)) | (refine k_pure rfl ?_) | (refine then_normal ?_) | (refine cw_seq ?_) | (refine cw_region rfl ?_) | (refine rr_nil ?_) | (refine k_len rfl ?_) | (refine cw_block ?_))
  have l1 := hn2.lo
  refine cw_loop (ι := Nat) [4, 5, 11, 12, 13, 14, 15, 16, 17, 18, 19, 20] (fun k => [(11, .int .i64 (k : Int))]) (fun k w' => k ≤ xs.length ∧ Ex w w' ∧ Blk w' g 3 (intsL (invTo xs k))) (fun k => xs.length - k)
    0 ⟨rfl, trivial⟩ ⟨by simp, hn2.ex, hn2.blk⟩ ?_
  rintro k ξ w3 ⟨hk, hE, hb⟩
  have hrk := fun h : k < xs.length => hP.lt h
  have hil := invTo_len xs k
  repeat' (first | (refine k_indexN rfl rfl (hx.plain (by simp; omega)) (by omega) ?_) | (refine k_loadI rfl (hx.ext hE) (by omega) ?_) | (refine k_index1 rfl rfl ⟨_, _, rfl⟩ (by omega) (by omega) ?_) | (refine k_storeI rfl rfl hb (by omega) (fun w4 hc4 hb4 => ⟨fun _ _ => trivial, ?_⟩)) | (refine k_pure rfl ?_) | (refine then_normal ?_) | (refine cw_seq ?_) | (refine cw_region rfl ?_) | (refine rr_nil ?_) | (refine k_addI rfl rfl (by omega) (by omega) ?_) | (refine cw_cond_dec rfl (fun hc => ?_) (fun hc => ?_)) | (refine cw_block ?_) | (refine cw_exit ?_) | (refine then_exit ?_) | (refine in_exit ?_) | (refine in_normal ?_) | (refine cw_ret ?_) | (refine cw_skip ?_))
  · exact ⟨⟨k + 1, ⟨by omega, hE.chg hc4 (by omega), hb4⟩, by omega, rfl, trivial⟩, (by (repeat (first | exact agree_mask _ _ _ | refine agree_upd rfl ?_ | refine agree_updO rfl ?_ | refine agree_overIn rfl ?_ | refine agree_maskIn rfl ?_)))⟩
  · obtain rfl : k = xs.length := by omega
    refine ret1 rfl (rt rfl) ⟨some ⟨g, 0, none⟩, xs.length, by rw [hil]; rfl, ?_, hE⟩
    rw [hil]
    exact hb.own (by simp [hil]) (by simp only [maxLen]; omega) (by omega)
theorem refInverse_spec {xs : List Int} {a : Option Addr} {w : World} (hx : Sl w a (intsL xs)) (cap : Nat) :
    CallsR Try.prog 26 #[.slice a xs.length cap] w (RetL w (inverseF xs).1 (inverseF xs).2) := by
  refine callsR_of (args := [_]) Try.func26 rfl rfl ?_
  repeat' (first | (refine k_pure rfl ?_) | (refine then_normal ?_) | (refine cw_seq ?_) | (refine cw_region rfl ?_) | (refine rr_nil ?_))
  refine k_call (refValid_spec hx _) rfl ?_
  rintro v w1 ⟨rfl, hE1⟩
  refine ⟨fun _ _ => trivial, ?_⟩
  repeat' (first | (refine k_pure rfl ?_) | (refine then_normal ?_) | (refine cw_seq ?_) | (refine cw_region rfl ?_) | (refine rr_nil ?_) | (refine cw_cond_ndec rfl (fun hc => ?_) (fun hc => ?_)) | (refine cw_ret ?_) | (refine then_ret ?_) | (refine cw_skip ?_))
  · rw [inverseF, if_neg hc]
    exact ret2 rfl (rt rfl) (rt rfl) (RetL.nil hE1)
  · rw [inverseF, if_pos hc]
    refine k_call (refInv_spec (hx.ext hE1) _ hc) rfl ?_
    rintro v w2 ⟨b, c, rfl, hO, hE2⟩
    refine ⟨fun _ _ => trivial, ?_⟩
    repeat' (first | (refine k_pure rfl ?_) | (refine then_normal ?_) | (refine rr_nil ?_) | (refine cw_ret ?_))
    exact ret2 rfl (rt rfl) (rt rfl) ⟨b, c, rfl, hO.mono hE1.size, hE1.trans hE2⟩
end Go.Proofs.Ythhfjagnmhhapaa

/- Breadth-first search over the images of a point under permutations, in plain mathematics. -/
namespace Go.PM

theorem length_le_of_subset {m l : List Int} (hl : l.Nodup) (h : ∀ x ∈ l, x ∈ m) : l.length ≤ m.length := by
  induction l generalizing m with
  | nil => simp
  | cons x l ih =>
    have hx := h x (by simp)
    rw [List.nodup_cons] at hl
    have := ih (m := m.erase x) hl.2 (fun y hy => by
      have hne : y ≠ x := fun e => hl.1 (e ▸ hy)
      exact (List.mem_erase_of_ne hne).2 (h y (by simp [hy])))
    rw [List.length_erase_of_mem hx] at this
    have := List.length_pos_of_mem hx
    simp only [List.length_cons]; omega
theorem Dist.length_le {n : Nat} {l : List Int} (h : Dist n l) : l.length ≤ n := by
  have := length_le_of_subset (m := idList n) h.2 (fun x hx => by
    obtain ⟨h0, h1⟩ := h.1 x hx
    rw [mem_iff_getD]
    exact ⟨x.toNat, by rw [idList_length]; omega, by rw [idList_getD (by omega)]; omega⟩)
  rwa [idList_length] at this

theorem dist_one {n : Nat} {x : Int} (h0 : 0 ≤ x) (h1 : x < n) : Dist n [x] := ⟨by simp; omega, by simp⟩
abbrev Fnd := List Int × List (Int × Nat × Int)
def visit (p : List Int) (j : Nat) (x : Int) (st : Fnd) : Fnd :=
  if p.getD x.toNat 0 ∈ st.1 then st else (st.1 ++ [p.getD x.toNat 0], st.2 ++ [(p.getD x.toNat 0, j, x)])
def scanL : List (List Int) → Nat → Int → Fnd → Fnd
  | [], _, _, st => st
  | p :: l, j, x, st => scanL l (j + 1) x (visit p j x st)
def bfsGo (gens : List (List Int)) : Nat → Nat → Fnd → Fnd
  | 0, _, st => st
  | f + 1, i, st => if i < st.1.length then bfsGo gens f (i + 1) (scanL gens 0 (st.1.getD i 0) st) else st
def bfs (gens : List (List Int)) (n : Nat) (x : Int) : Fnd := bfsGo gens n 0 ([x], [])
/-- the generators are permutations of n points -/
def Gens (n : Nat) (gens : List (List Int)) : Prop := ∀ p ∈ gens, p.length = n ∧ IsPerm p
theorem Gens.getD {n : Nat} {gens : List (List Int)} (h : Gens n gens) {j : Nat} (hj : j < gens.length) : (gens.getD j []).length = n ∧ IsPerm (gens.getD j []) := h _ (getD_mem hj)
theorem drop_getD {α : Type} {l : List α} {j : Nat} {d : α} (h : j < l.length) : l.drop j = l.getD j d :: l.drop (j + 1) := by
  rw [List.drop_eq_getElem_cons h, List.getD_eq_getElem?_getD, List.getElem?_eq_getElem h]; rfl
theorem visit_dist {n : Nat} {p : List Int} {j : Nat} {x : Int} {st : Fnd} (hp : p.length = n ∧ IsPerm p) (hx : 0 ≤ x ∧ x < n) (h : Dist n st.1) : Dist n (visit p j x st).1 := by
  unfold visit
  split
  · exact h
  · rename_i hn
    have := hp.2.lt (k := x.toNat) (by omega)
    exact good_snoc.2 ⟨h, this.1, by omega, hn⟩
theorem visit_len (p : List Int) (j : Nat) (x : Int) (st : Fnd) : st.1.length ≤ (visit p j x st).1.length ∧ ∀ k, k < st.1.length → (visit p j x st).1.getD k 0 = st.1.getD k 0 := by
  unfold visit
  split
  · exact ⟨Nat.le_refl _, fun _ _ => rfl⟩
  · exact ⟨by simp, fun k hk => by simp [List.getD_eq_getElem?_getD, List.getElem?_append_left hk]⟩
theorem bfsGo_end {gens : List (List Int)} {f i : Nat} {st : Fnd} (h : ¬ i < st.1.length) : bfsGo gens f i st = st := by
  cases f with
  | zero => rfl
  | succ f => rw [bfsGo, if_neg h]
/-- the points of an orbit in ascending order -/
def sortedL (n : Nat) (l : List Int) : List Int := (idList n).filter (fun x => decide (x ∈ l))
theorem sortedL_succ (n : Nat) (l : List Int) : sortedL (n + 1) l = sortedL n l ++ (if (n : Int) ∈ l then [(n : Int)] else []) := by
  unfold sortedL
  rw [idList_succ, List.filter_append]
  congr 1
  simp only [List.filter_cons, List.filter_nil, decide_eq_true_eq]
end Go.PM
namespace Go.PM
theorem visit_points {p : List Int} {j : Nat} {z x : Int} {st : Fnd} (h : st.1 = x :: st.2.map (·.1)) : (visit p j z st).1 = x :: (visit p j z st).2.map (·.1) := by
  unfold visit
  split
  · exact h
  · simp [h]
theorem scanL_points {x : Int} : ∀ (l : List (List Int)) (j : Nat) (z : Int) (st : Fnd), st.1 = x :: st.2.map (·.1) → (scanL l j z st).1 = x :: (scanL l j z st).2.map (·.1)
  | [], _, _, _, h => h
  | _ :: l, j, z, _, h => scanL_points l (j + 1) z _ (visit_points h)
theorem bfsGo_points {gens : List (List Int)} {x : Int} : ∀ (f i : Nat) (st : Fnd), st.1 = x :: st.2.map (·.1) → (bfsGo gens f i st).1 = x :: (bfsGo gens f i st).2.map (·.1)
  | 0, _, _, h => h
  | f + 1, i, st, h => by
    rw [bfsGo]
    split
    · exact bfsGo_points f (i + 1) _ (scanL_points gens 0 _ st h)
    · exact h
theorem bfs_points (gens : List (List Int)) (n : Nat) (x : Int) : (bfs gens n x).1 = x :: (bfs gens n x).2.map (·.1) := bfsGo_points n 0 _ rfl
theorem scanL_dist {n : Nat} : ∀ (l : List (List Int)) (j : Nat) (z : Int) (st : Fnd), Gens n l → 0 ≤ z ∧ z < n → Dist n st.1 → Dist n (scanL l j z st).1
  | [], _, _, _, _, _, h => h
  | p :: l, j, z, _, hG, hz, h => scanL_dist l (j + 1) z _ (fun q hq => hG q (by simp [hq])) hz (visit_dist (hG p (by simp)) hz h)
theorem sortedL_len (n : Nat) (l : List Int) : (sortedL n l).length ≤ n := by
  unfold sortedL
  exact Nat.le_trans (List.length_filter_le _ _) (by rw [idList_length]; exact Nat.le_refl _)
/-- the error of the arguments of Orbit -/
def gensOK (n : Int) (gens : List (List Int)) : Prop := ∀ p ∈ gens, (p.length : Int) = n ∧ IsPerm p
instance (n : Int) (gens : List (List Int)) : Decidable (gensOK n gens) := by unfold gensOK; infer_instance
def errF (n : Int) (gens : List (List Int)) (x : Int) : Int :=
  if n < 1 ∨ 512 < n ∨ x < 0 ∨ n ≤ x then 1 else if 64 < gens.length then 7 else if gensOK n gens then 0 else 3
theorem gensOK_snoc {n : Int} {l : List (List Int)} {p : List Int} : gensOK n (l ++ [p]) ↔ gensOK n l ∧ (p.length : Int) = n ∧ IsPerm p := by
  unfold gensOK
  simp only [List.mem_append, List.mem_singleton]
  constructor
  · intro h; exact ⟨fun q hq => h q (.inl hq), h p (.inr rfl)⟩
  · rintro ⟨h1, h2⟩ q (hq | rfl)
    · exact h1 q hq
    · exact h2
theorem not_gensOK {n : Int} {l : List (List Int)} {k : Nat} (hk : k < l.length) (h : ¬ (((l.getD k []).length : Int) = n ∧ IsPerm (l.getD k []))) : ¬ gensOK n l := fun hg => h (hg _ (getD_mem hk))
end Go.PM
namespace Go.PM
/-! sets joined word by word -/
/-! all orbits -/
theorem errF_zero {n : Int} {gens : List (List Int)} {x : Int} (h : errF n gens x = 0) : 1 ≤ n ∧ n ≤ 512 ∧ 0 ≤ x ∧ x < n ∧ gens.length ≤ 64 ∧ Gens n.toNat gens := by
  unfold errF at h
  split at h
  · omega
  · split at h
    · omega
    · split at h
      · rename_i h1 h2 h3
        exact ⟨by omega, by omega, by omega, by omega, by omega, fun p hp => ⟨by have := (h3 p hp).1; omega, (h3 p hp).2⟩⟩
      · omega
end Go.PM

/- Iterates and cycles of a permutation, in plain mathematics. -/
namespace Go.PM
def In (p : List Int) (x : Int) : Prop := 0 ≤ x ∧ x < p.length
def ap (p : List Int) (x : Int) : Int := p.getD x.toNat 0
def it (p : List Int) : Nat → Int → Int
  | 0, x => x
  | k + 1, x => ap p (it p k x)
theorem ap_in {p : List Int} (hp : IsPerm p) {x : Int} (h : In p x) : In p (ap p x) := hp.lt (k := x.toNat) (by unfold In at h; omega)
theorem ap_inj {p : List Int} (hp : IsPerm p) {x y : Int} (hx : In p x) (hy : In p y) (h : ap p x = ap p y) : x = y := by
  have hn := nodup_iff.1 hp.2.2.2
  unfold In at hx hy
  rcases Int.lt_trichotomy x y with h' | h' | h'
  · exact absurd h (hn x.toNat y.toNat (by omega) (by omega))
  · exact h'
  · exact absurd h.symm (hn y.toNat x.toNat (by omega) (by omega))
theorem it_in {p : List Int} (hp : IsPerm p) {x : Int} (h : In p x) : ∀ k, In p (it p k x)
  | 0 => h
  | k + 1 => ap_in hp (it_in hp h k)
theorem it_add (p : List Int) (a : Nat) (x : Int) : ∀ b, it p (b + a) x = it p b (it p a x)
  | 0 => by rw [Nat.zero_add]; rfl
  | b + 1 => by rw [show b + 1 + a = (b + a) + 1 by omega]; simp only [it]; rw [it_add p a x b]
theorem it_inj {p : List Int} (hp : IsPerm p) {x y : Int} (hx : In p x) (hy : In p y) : ∀ k, it p k x = it p k y → x = y
  | 0, h => h
  | k + 1, h => it_inj hp hx hy k (ap_inj hp (it_in hp hx k) (it_in hp hy k) h)
def itL (p : List Int) (x : Int) (L : Nat) : List Int := (List.range L).map fun k => it p k x
theorem itL_length (p : List Int) (x : Int) (L : Nat) : (itL p x L).length = L := by simp [itL]
theorem itL_succ (p : List Int) (x : Int) (L : Nat) : itL p x (L + 1) = itL p x L ++ [it p L x] := by simp [itL, List.range_succ]
theorem itL_getD {p : List Int} {x : Int} {L k : Nat} (h : k < L) : (itL p x L).getD k 0 = it p k x := by simp [itL, List.getD_eq_getElem?_getD, h]
theorem mem_itL {p : List Int} {x y : Int} {L : Nat} : y ∈ itL p x L ↔ ∃ k, k < L ∧ it p k x = y := by simp [itL]
theorem itL_dist {p : List Int} (hp : IsPerm p) {x : Int} (hx : In p x) {L : Nat} (h : (itL p x L).Nodup) : Dist p.length (itL p x L) :=
  ⟨fun y hy => by obtain ⟨k, _, rfl⟩ := mem_itL.1 hy; exact it_in hp hx k, h⟩
/-- the first iterate that comes a second time is the point itself -/
theorem first_back {p : List Int} (hp : IsPerm p) {x : Int} (hx : In p x) {k : Nat} (hn : (itL p x k).Nodup) : it p k x ∈ itL p x k ↔ 0 < k ∧ it p k x = x := by
  constructor
  · intro h
    obtain ⟨j, hj, e⟩ := mem_itL.1 h
    refine ⟨by omega, ?_⟩
    cases j with
    | zero => exact e.symm
    | succ j =>
      exfalso
      obtain ⟨k, rfl⟩ : ∃ k', k = k' + 1 := ⟨k - 1, by omega⟩
      have := ap_inj hp (it_in hp hx j) (it_in hp hx k) e
      have hn' := nodup_iff.1 hn j k (by omega) (by rw [itL_length]; omega)
      rw [itL_getD (by omega), itL_getD (by omega)] at hn'
      exact hn' this
  · rintro ⟨h0, e⟩
    exact mem_itL.2 ⟨0, h0, e.symm⟩
def followC (p : List Int) : Nat → Int → List Int → List Int
  | 0, _, acc => acc
  | f + 1, y, acc => if y ∈ acc then acc else followC p f (p.getD y.toNat 0) (acc ++ [y])
def cyc (p : List Int) (x : Int) : List Int := followC p (p.length + 1) x []
theorem follow_spec {p : List Int} (hp : IsPerm p) {x : Int} (hx : In p x) : ∀ (f k : Nat), k + f = p.length + 1 → (itL p x k).Nodup →
    ∃ L, 1 ≤ L ∧ L ≤ p.length ∧ followC p f (it p k x) (itL p x k) = itL p x L ∧ it p L x = x ∧ (itL p x L).Nodup
  | 0, k, hk, hn => by
    have := (itL_dist hp hx hn).length_le
    rw [itL_length] at this; omega
  | f + 1, k, hk, hn => by
    rw [followC]
    by_cases h : it p k x ∈ itL p x k
    · have hl := (itL_dist hp hx hn).length_le
      rw [itL_length] at hl
      obtain ⟨h0, h1⟩ := (first_back hp hx hn).1 h
      exact ⟨k, h0, hl, by rw [if_pos h], h1, hn⟩
    · rw [if_neg h, ← itL_succ]
      refine follow_spec hp hx f (k + 1) (by omega) ?_
      rw [itL_succ, List.nodup_append]
      exact ⟨hn, by simp, fun a ha b hb e => by simp only [List.mem_singleton] at hb; subst hb; subst e; exact h ha⟩
def per (p : List Int) (x : Int) : Nat := (cyc p x).length
theorem cyc_spec {p : List Int} (hp : IsPerm p) {x : Int} (hx : In p x) : 1 ≤ per p x ∧ per p x ≤ p.length ∧ cyc p x = itL p x (per p x) ∧ it p (per p x) x = x ∧ (itL p x (per p x)).Nodup := by
  obtain ⟨L, h1, h2, h3, h4, h5⟩ := follow_spec hp hx (p.length + 1) 0 (by omega) (by simp [itL])
  have e : per p x = L := by
    unfold per cyc
    rw [show followC p (p.length + 1) x [] = itL p x L from h3, itL_length]
  rw [e]
  exact ⟨h1, h2, h3, h4, h5⟩
theorem it_mul {p : List Int} {x : Int} {L : Nat} (h : it p L x = x) : ∀ m, it p (m * L) x = x
  | 0 => by rw [Nat.zero_mul]; rfl
  | m + 1 => by rw [Nat.succ_mul, it_add, h, it_mul h m]
theorem it_mod {p : List Int} {x : Int} {L : Nat} (h : it p L x = x) (k : Nat) : it p k x = it p (k % L) x := by
  conv => lhs; rw [← Nat.mod_add_div k L, Nat.mul_comm L, it_add, it_mul h]
theorem it_eq_iff {p : List Int} (hp : IsPerm p) {x : Int} (hx : In p x) (k : Nat) : it p k x = x ↔ per p x ∣ k := by
  obtain ⟨h1, h2, h3, h4, h5⟩ := cyc_spec hp hx
  constructor
  · intro h
    rw [it_mod h4] at h
    rcases Nat.eq_zero_or_pos (k % per p x) with h0 | h0
    · exact Nat.dvd_of_mod_eq_zero h0
    · exfalso
      have := nodup_iff.1 h5 0 (k % per p x) h0 (by rw [itL_length]; exact Nat.mod_lt _ (by omega))
      rw [itL_getD (by omega), itL_getD (Nat.mod_lt _ (by omega))] at this
      exact this h.symm
  · rintro ⟨m, rfl⟩
    rw [Nat.mul_comm]; exact it_mul h4 m
theorem mem_cyc {p : List Int} (hp : IsPerm p) {x y : Int} (hx : In p x) : y ∈ cyc p x ↔ ∃ k, it p k x = y := by
  obtain ⟨h1, h2, h3, h4, h5⟩ := cyc_spec hp hx
  rw [h3, mem_itL]
  constructor
  · rintro ⟨k, _, e⟩; exact ⟨k, e⟩
  · rintro ⟨k, e⟩; exact ⟨k % per p x, Nat.mod_lt _ (by omega), by rw [← it_mod h4]; exact e⟩
theorem cyc_self {p : List Int} (hp : IsPerm p) {x : Int} (hx : In p x) : x ∈ cyc p x := (mem_cyc hp hx).2 ⟨0, rfl⟩
theorem cyc_in {p : List Int} (hp : IsPerm p) {x y : Int} (hx : In p x) (h : y ∈ cyc p x) : In p y := by obtain ⟨k, rfl⟩ := (mem_cyc hp hx).1 h; exact it_in hp hx k
theorem cyc_symm {p : List Int} (hp : IsPerm p) {x y : Int} (hx : In p x) (h : y ∈ cyc p x) : x ∈ cyc p y := by
  have hy := cyc_in hp hx h
  obtain ⟨h1, h2, h3, h4, h5⟩ := cyc_spec hp hx
  rw [h3] at h
  obtain ⟨k, hk, rfl⟩ := mem_itL.1 h
  exact (mem_cyc hp hy).2 ⟨per p x - k, by rw [← it_add, show per p x - k + k = per p x by omega, h4]⟩
theorem cyc_trans {p : List Int} (hp : IsPerm p) {x y z : Int} (hx : In p x) (h : y ∈ cyc p x) (h' : z ∈ cyc p y) : z ∈ cyc p x := by
  have hy := cyc_in hp hx h
  obtain ⟨k, rfl⟩ := (mem_cyc hp hx).1 h
  obtain ⟨m, rfl⟩ := (mem_cyc hp hy).1 h'
  exact (mem_cyc hp hx).2 ⟨m + k, it_add p k x m⟩
theorem per_one {p : List Int} (hp : IsPerm p) {x : Int} (hx : In p x) : per p x ≤ 1 ↔ ap p x = x := by
  have h := (cyc_spec hp hx).1
  have hi := it_eq_iff hp hx 1
  constructor
  · intro h'; exact hi.2 ⟨1, by omega⟩
  · intro h'; exact Nat.le_of_dvd (by omega) (hi.1 h')
/-! the list of the cycles, as the program finds them -/
def cycGo (p : List Int) : Nat → List Int × List (List Int)
  | 0 => ([], [])
  | k + 1 => if (k : Int) ∈ (cycGo p k).1 ∨ p.getD k 0 = k then cycGo p k else ((cycGo p k).1 ++ cyc p k, (cycGo p k).2 ++ [cyc p k])
def cyclesF (p : List Int) : List (List Int) := if IsPerm p then (cycGo p p.length).2 else []
/-! the same list, as the reference finds it -/
def leastB (l : List Int) : Bool := l.all fun y => decide (l.getD 0 0 ≤ y)
def cycSel (p : List Int) (k : Nat) : Bool := decide (1 < (cyc p k).length) && leastB (cyc p k)
def cycR (p : List Int) : Nat → List (List Int)
  | 0 => []
  | k + 1 => if cycSel p k then cycR p k ++ [cyc p k] else cycR p k
theorem cyc_head {p : List Int} (hp : IsPerm p) {x : Int} (hx : In p x) : (cyc p x).getD 0 0 = x := by
  obtain ⟨h1, h2, h3, h4, h5⟩ := cyc_spec hp hx
  rw [h3, itL_getD (by omega)]; rfl
theorem least_iff {p : List Int} (hp : IsPerm p) {x : Int} (hx : In p x) : leastB (cyc p x) = true ↔ ∀ y ∈ cyc p x, x ≤ y := by
  unfold leastB
  rw [cyc_head hp hx, List.all_eq_true]
  simp
/-- what is seen ahead of point k: the points of cycles with a point below k that moves -/
theorem mem_seen {p : List Int} (hp : IsPerm p) : ∀ k, k ≤ p.length → ∀ y, y ∈ (cycGo p k).1 ↔ ∃ j : Nat, j < k ∧ ap p j ≠ j ∧ y ∈ cyc p j
  | 0, _, y => by simp [cycGo]
  | k + 1, hk, y => by
    have ih := mem_seen hp k (by omega)
    have hkin : In p (k : Int) := by unfold In; omega
    rw [cycGo]
    split
    · rename_i h
      rw [ih y]
      constructor
      · rintro ⟨j, hj, h1, h2⟩; exact ⟨j, by omega, h1, h2⟩
      · rintro ⟨j, hj, h1, h2⟩
        by_cases hjk : j = k
        · subst hjk
          rcases h with h | h
          · obtain ⟨i, hi, h3, h4⟩ := (ih _).1 h
            have hin : In p (i : Int) := by unfold In; omega
            exact ⟨i, hi, h3, cyc_trans hp hin h4 h2⟩
          · exact absurd (by unfold ap; simpa using h) h1
        · exact ⟨j, by omega, h1, h2⟩
    · rename_i h
      simp only [List.mem_append, ih y]
      constructor
      · rintro (⟨j, hj, h1, h2⟩ | h2)
        · exact ⟨j, by omega, h1, h2⟩
        · exact ⟨k, by omega, fun e => h (.inr (by unfold ap at e; simpa using e)), h2⟩
      · rintro ⟨j, hj, h1, h2⟩
        by_cases hjk : j = k
        · subst hjk; exact .inr h2
        · exact .inl ⟨j, by omega, h1, h2⟩
theorem cycSel_iff {p : List Int} (hp : IsPerm p) {k : Nat} (hk : k < p.length) : cycSel p k = true ↔ ¬ ((k : Int) ∈ (cycGo p k).1 ∨ p.getD k 0 = k) := by
  have hin : In p (k : Int) := by unfold In; omega
  have h1 := per_one hp hin
  have e : ap p (k : Int) = p.getD k 0 := by unfold ap; simp
  rw [e] at h1
  unfold cycSel
  rw [Bool.and_eq_true, decide_eq_true_eq, least_iff hp hin, mem_seen hp k (by omega)]
  show 1 < per p k ∧ _ ↔ _
  constructor
  · rintro ⟨h2, h3⟩ (⟨j, hj, h4, h5⟩ | h4)
    · have hj' : In p (j : Int) := by unfold In; omega
      have := h3 j (cyc_symm hp hj' h5)
      omega
    · have := h1.2 h4; omega
  · intro h
    rw [not_or] at h
    have h2 : 1 < per p k := by
      rcases Nat.lt_or_ge 1 (per p k) with h' | h'
      · exact h'
      · exact absurd (h1.1 h') h.2
    refine ⟨h2, fun y hy => ?_⟩
    rcases Int.lt_or_le y k with hlt | hle
    · exfalso
      have hy' := cyc_in hp hin hy
      obtain ⟨j, rfl⟩ := Int.eq_ofNat_of_zero_le hy'.1
      have hc := cyc_symm hp hin hy
      refine h.1 ⟨j, by omega, fun e2 => ?_, hc⟩
      have h3 := (per_one hp hy').2 e2
      obtain ⟨m, hm⟩ := (mem_cyc hp hy').1 hc
      have h4 := (cyc_spec hp hy').1
      have : per p (j : Int) = 1 := by omega
      have h5 := (it_eq_iff hp hy' m).2 (by rw [this]; exact Nat.one_dvd m)
      rw [h5] at hm
      omega
    · exact hle
theorem cycR_eq {p : List Int} (hp : IsPerm p) : ∀ k, k ≤ p.length → cycR p k = (cycGo p k).2
  | 0, _ => rfl
  | k + 1, hk => by
    rw [cycR, cycGo, cycR_eq hp k (by omega)]
    by_cases h : cycSel p k = true
    · rw [if_pos h, if_neg ((cycSel_iff hp (by omega)).1 h)]
    · rw [if_neg h, if_pos (by
        by_cases h2 : ((k : Int) ∈ (cycGo p k).1 ∨ p.getD k 0 = k)
        · exact h2
        · exact absurd ((cycSel_iff hp (by omega)).2 h2) h)]
end Go.PM

/- The order of a permutation, in plain mathematics. -/
namespace Go.PM
def ordTo (l : List (List Int)) : Nat → Nat
  | 0 => 1
  | k + 1 => ordTo l k * ((l.getD k []).length / Nat.gcd (ordTo l k) (l.getD k []).length)
def orderF (p : List Int) : Nat := ordTo (cyclesF p) (cyclesF p).length
/-- the cycles are parts of the points, and none is empty -/
theorem cycGo_dist {p : List Int} (hp : IsPerm p) : ∀ k, k ≤ p.length → Dist p.length (cycGo p k).1 ∧ (cycGo p k).1 = (cycGo p k).2.flatten ∧ ∀ c ∈ (cycGo p k).2, ∃ j : Nat, j < k ∧ ap p j ≠ j ∧ c = cyc p j
  | 0, _ => by simp [cycGo, good_nil]
  | k + 1, hk => by
    obtain ⟨h1, h2, h3⟩ := cycGo_dist hp k (by omega)
    rw [cycGo]
    split
    · exact ⟨h1, h2, fun c hc => by obtain ⟨j, hj, h4⟩ := h3 c hc; exact ⟨j, by omega, h4⟩⟩
    · rename_i h
      rw [not_or] at h
      have hin : In p (k : Int) := by unfold In; omega
      obtain ⟨c1, c2, c3, c4, c5⟩ := cyc_spec hp hin
      have hd := itL_dist hp hin c5
      rw [← c3] at hd
      refine ⟨⟨fun y hy => ?_, ?_⟩, ?_, fun c hc => ?_⟩
      · rcases List.mem_append.1 hy with h' | h'
        · exact h1.1 y h'
        · exact hd.1 y h'
      · rw [List.nodup_append]
        refine ⟨h1.2, hd.2, fun a ha b hb e => ?_⟩
        subst e
        apply h.1
        rw [mem_seen hp k (by omega)] at ha ⊢
        obtain ⟨j, hj, h4, h5⟩ := ha
        have hj' : In p (j : Int) := by unfold In; omega
        exact ⟨j, hj, h4, cyc_trans hp hj' h5 (cyc_symm hp hin hb)⟩
      · rw [List.flatten_append, ← h2]; simp
      · rcases List.mem_append.1 hc with h' | h'
        · obtain ⟨j, hj, h4⟩ := h3 c h'; exact ⟨j, by omega, h4⟩
        · simp only [List.mem_singleton] at h'
          exact ⟨k, by omega, fun e => h.2 (by unfold ap at e; simpa using e), h'⟩
theorem cycles_mem {p : List Int} (k : Nat) (hk : k < (cyclesF p).length) : IsPerm p ∧ ∃ j : Nat, j < p.length ∧ ap p j ≠ j ∧ (cyclesF p).getD k [] = cyc p j := by
  by_cases hp : IsPerm p
  · have e : cyclesF p = (cycGo p p.length).2 := by rw [cyclesF, if_pos hp]
    obtain ⟨_, _, h3⟩ := cycGo_dist hp p.length (Nat.le_refl _)
    rw [e] at hk ⊢
    exact ⟨hp, h3 _ (getD_mem hk)⟩
  · rw [cyclesF, if_neg hp] at hk; simp at hk
theorem cycles_ne {p : List Int} (k : Nat) (hk : k < (cyclesF p).length) : 1 ≤ ((cyclesF p).getD k []).length := by
  obtain ⟨hp, j, hj, h1, h2⟩ := cycles_mem k hk
  rw [h2]
  exact (cyc_spec hp (x := (j : Int)) (by unfold In; omega)).1
end Go.PM

