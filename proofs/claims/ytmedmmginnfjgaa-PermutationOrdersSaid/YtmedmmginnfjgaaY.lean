import Derived.Test.YtmedmmginnfjgaaQ
import Derived.Test.YtmedmmginnfjgaaMem2
namespace Go.PM
theorem cyc_of {p : List Int} (hp : IsPerm p) {x : Int} (hx : In p x) {k : Nat} (h1 : 1 ≤ k) (hn : (itL p x k).Nodup) (hk : it p k x = x) : cyc p x = itL p x k := by
  obtain ⟨c1, c2, c3, c4, c5⟩ := cyc_spec hp hx
  have hd := Nat.le_of_dvd (by omega) ((it_eq_iff hp hx k).1 hk)
  have : k = per p x := by
    rcases Nat.lt_or_ge (per p x) k with h | h
    · exfalso
      have := nodup_iff.1 hn 0 (per p x) (by omega) (by rw [itL_length]; exact h)
      rw [itL_getD (by omega), itL_getD h, c4] at this
      exact this rfl
    · omega
  rw [c3, ← this]
theorem itL_step {p : List Int} (hp : IsPerm p) {x : Int} (hx : In p x) {k : Nat} (hn : (itL p x k).Nodup) (hk : it p k x ≠ x) (h1 : 1 ≤ k) : (itL p x (k + 1)).Nodup ∧ k + 1 ≤ p.length := by
  have hnot : ¬ it p k x ∈ itL p x k := fun h => hk ((first_back hp hx hn).1 h).2
  have h2 : (itL p x (k + 1)).Nodup := by
    rw [itL_succ, List.nodup_append]
    exact ⟨hn, by simp, fun a ha b hb e => by simp only [List.mem_singleton] at hb; subst hb; subst e; exact hnot ha⟩
  refine ⟨h2, ?_⟩
  have := (itL_dist hp hx h2).length_le
  rwa [itL_length] at this
theorem leastTo_iff {l : List Int} {k : Nat} : (∀ y ∈ l.take k, l.getD 0 0 ≤ y) ↔ ∀ j, j < k → j < l.length → l.getD 0 0 ≤ l.getD j 0 := by
  constructor
  · intro h j hj hl
    refine h _ ?_
    rw [mem_iff_getD]
    exact ⟨j, by simp; omega, by simp [List.getD_eq_getElem?_getD, List.getElem?_take, hj]⟩
  · intro h y hy
    obtain ⟨j, hj, rfl⟩ := mem_iff_getD.1 hy
    simp only [List.length_take] at hj
    have := h j (by omega) (by omega)
    simpa [List.getD_eq_getElem?_getD, List.getElem?_take, show j < k by omega] using this
end Go.PM
namespace Go.Proofs.Ytmedmmginnfjgaa
open Go.W Go.PM

theorem refCycle_spec {xs : List Int} {a : Option Addr} {w : World} (hx : Sl w a (intsL xs)) (cap : Nat) (hP : IsPerm xs) {x : Nat} (hxl : x < xs.length) :
    CallsR Try.prog 60 #[.slice a xs.length cap, .int .i64 (x : Int)] w fun v w' => ∃ b c, v = .slice b (cyc xs x).length c ∧ Own w' w.heap.size 3 1 b (cyc xs x).length c (intsL (cyc xs x)) ∧ Ex w w' := by
  refine callsR_of (args := [_, _]) Try.func60 rfl rfl ?_
  have hin : In xs (x : Int) := by unfold In; omega
  have hpl := hP.2.1
  repeat' (first | (refine k_litI1 rfl (fun g w1 hn1 => ⟨fun _ _ => trivial, ?_⟩)) | (refine k_pure rfl ?_) | (refine then_normal ?_) | (refine cw_seq ?_) | (refine cw_region rfl ?_) | (refine rr_nil ?_) | (refine k_len rfl ?_) | (refine g_run rfl rfl ?_) | (refine g_skip rfl rfl ?_) | (refine g_dec_f rfl rfl (fun hc => ?_) (fun hc => ?_)) | (refine g_dec_t rfl rfl (fun hc => ?_) (fun hc => ?_)) | (refine g_ndec_f rfl rfl (fun hc => ?_) (fun hc => ?_)) | (refine g_ndec_t rfl rfl (fun hc => ?_) (fun hc => ?_)) | (refine g_split rfl rfl (fun hc => ?_) (fun hc => ?_)) | (refine k_addI rfl rfl (by omega) (by omega) ?_) | (refine k_subI rfl rfl (by omega) (by omega) ?_) | (refine k_fieldAddr rfl ?_) | (refine k_eqlB rfl rfl ?_) | (refine k_neqB rfl rfl ?_) | (refine cw_cond_true rfl ?_) | (refine cw_cond_false rfl ?_) | (refine cw_cond_dec rfl (fun hc => ?_) (fun hc => ?_)) | (refine cw_cond_ndec rfl (fun hc => ?_) (fun hc => ?_)) | (refine cw_cond rfl (fun hc => ?_) (fun hc => ?_)) | (refine cw_block ?_) | (refine cw_exit ?_) | (refine then_exit ?_) | (refine in_exit ?_) | (refine in_exit_ne rfl ?_) | (refine in_normal ?_) | (refine cw_ret ?_) | (refine then_ret ?_) | (refine in_ret ?_) | (refine cw_skip ?_))
  have hx1 := hx.ext hn1.ex
  repeat' (first | (refine k_indexN rfl rfl (hx1.plain (by simp; omega)) (by omega) ?_) | (refine k_loadI rfl hx1 (by omega) ?_) | (refine k_pure rfl ?_) | (refine then_normal ?_) | (refine cw_seq ?_) | (refine cw_region rfl ?_) | (refine rr_nil ?_) | (refine k_len rfl ?_) | (refine g_run rfl rfl ?_) | (refine g_skip rfl rfl ?_) | (refine g_dec_f rfl rfl (fun hc => ?_) (fun hc => ?_)) | (refine g_dec_t rfl rfl (fun hc => ?_) (fun hc => ?_)) | (refine g_ndec_f rfl rfl (fun hc => ?_) (fun hc => ?_)) | (refine g_ndec_t rfl rfl (fun hc => ?_) (fun hc => ?_)) | (refine g_split rfl rfl (fun hc => ?_) (fun hc => ?_)) | (refine k_addI rfl rfl (by omega) (by omega) ?_) | (refine k_subI rfl rfl (by omega) (by omega) ?_) | (refine k_fieldAddr rfl ?_) | (refine k_eqlB rfl rfl ?_) | (refine k_neqB rfl rfl ?_) | (refine cw_cond_true rfl ?_) | (refine cw_cond_false rfl ?_) | (refine cw_cond_dec rfl (fun hc => ?_) (fun hc => ?_)) | (refine cw_cond_ndec rfl (fun hc => ?_) (fun hc => ?_)) | (refine cw_cond rfl (fun hc => ?_) (fun hc => ?_)) | (refine cw_block ?_) | (refine cw_exit ?_) | (refine then_exit ?_) | (refine in_exit ?_) | (refine in_exit_ne rfl ?_) | (refine in_normal ?_) | (refine cw_ret ?_) | (refine then_ret ?_) | (refine in_ret ?_) | (refine cw_skip ?_))
  have hO1 : Own w1 w.heap.size 3 1 (some ⟨g, 0, none⟩) 1 1 (intsL (itL xs x 1)) := hn1.blk.own rfl (by decide) hn1.lo
  refine cw_loop (ι := Nat × Option Addr × Nat) [5, 6, 13, 14, 15, 16, 17, 18, 19, 20, 21, 22, 23] (fun s => [(6, .int .i64 (it xs s.1 x)), (5, .slice s.2.1 s.1 s.2.2)])
    (fun s w' => 1 ≤ s.1 ∧ s.1 ≤ xs.length ∧ Ex w w' ∧ (itL xs x s.1).Nodup ∧ Own w' w.heap.size 3 1 s.2.1 s.1 s.2.2 (intsL (itL xs x s.1))) (fun s => xs.length - s.1)
    (1, some ⟨g, 0, none⟩, 1) ⟨?_, rfl, trivial⟩ ⟨Nat.le_refl _, by simp only; omega, hn1.ex, by simp [itL], hO1⟩ ?_
  · show Value.int .i64 (xs.getD x 0) = Value.int .i64 (it xs 1 x)
    simp [it, ap]
  rintro ⟨k, b, c⟩ ξ w2 ⟨hk1, hk, hE, hN, hO⟩
  simp only at hk1 hk hN hO
  have hii := it_in hP hin k
  unfold In at hii
  have hx2 := hx.ext hE
  show CW _ _ _ _ (over [(6, .int .i64 (it xs k x)), (5, .slice b k c)] _) w2
  repeat' (first | (refine k_pure rfl ?_) | (refine then_normal ?_) | (refine cw_seq ?_) | (refine cw_region rfl ?_) | (refine rr_nil ?_) | (refine k_len rfl ?_) | (refine g_run rfl rfl ?_) | (refine g_skip rfl rfl ?_) | (refine g_dec_f rfl rfl (fun hc => ?_) (fun hc => ?_)) | (refine g_dec_t rfl rfl (fun hc => ?_) (fun hc => ?_)) | (refine g_ndec_f rfl rfl (fun hc => ?_) (fun hc => ?_)) | (refine g_ndec_t rfl rfl (fun hc => ?_) (fun hc => ?_)) | (refine g_split rfl rfl (fun hc => ?_) (fun hc => ?_)) | (refine k_addI rfl rfl (by omega) (by omega) ?_) | (refine k_subI rfl rfl (by omega) (by omega) ?_) | (refine k_fieldAddr rfl ?_) | (refine k_eqlB rfl rfl ?_) | (refine k_neqB rfl rfl ?_) | (refine cw_cond_true rfl ?_) | (refine cw_cond_false rfl ?_) | (refine cw_cond_dec rfl (fun hc => ?_) (fun hc => ?_)) | (refine cw_cond_ndec rfl (fun hc => ?_) (fun hc => ?_)) | (refine cw_cond rfl (fun hc => ?_) (fun hc => ?_)) | (refine cw_block ?_) | (refine cw_exit ?_) | (refine then_exit ?_) | (refine in_exit ?_) | (refine in_exit_ne rfl ?_) | (refine in_normal ?_) | (refine cw_ret ?_) | (refine then_ret ?_) | (refine in_ret ?_) | (refine cw_skip ?_))
  · obtain ⟨hN', hkl⟩ := itL_step hP hin hN hc hk1
    refine k_app1I rfl rfl rfl rfl hO (by omega) (by omega) hE.size (fun g2 b' c' w3 hO3 hG3 _ => ?_)
    have hE3 := hO.grow_ex hG3 hE (Nat.le_refl _)
    have hx3 := hx.ext hE3
    repeat' (first | (refine k_index1 rfl rfl (hx3.plain (by simp; omega)) (by omega) (by omega) ?_) | (refine k_loadI rfl hx3 (by omega) ?_) | (refine k_pure rfl ?_) | (refine then_normal ?_) | (refine cw_seq ?_) | (refine cw_region rfl ?_) | (refine rr_nil ?_) | (refine k_len rfl ?_) | (refine g_run rfl rfl ?_) | (refine g_skip rfl rfl ?_) | (refine g_dec_f rfl rfl (fun hc => ?_) (fun hc => ?_)) | (refine g_dec_t rfl rfl (fun hc => ?_) (fun hc => ?_)) | (refine g_ndec_f rfl rfl (fun hc => ?_) (fun hc => ?_)) | (refine g_ndec_t rfl rfl (fun hc => ?_) (fun hc => ?_)) | (refine g_split rfl rfl (fun hc => ?_) (fun hc => ?_)) | (refine k_addI rfl rfl (by omega) (by omega) ?_) | (refine k_subI rfl rfl (by omega) (by omega) ?_) | (refine k_fieldAddr rfl ?_) | (refine k_eqlB rfl rfl ?_) | (refine k_neqB rfl rfl ?_) | (refine cw_cond_true rfl ?_) | (refine cw_cond_false rfl ?_) | (refine cw_cond_dec rfl (fun hc => ?_) (fun hc => ?_)) | (refine cw_cond_ndec rfl (fun hc => ?_) (fun hc => ?_)) | (refine cw_cond rfl (fun hc => ?_) (fun hc => ?_)) | (refine cw_block ?_) | (refine cw_exit ?_) | (refine then_exit ?_) | (refine in_exit ?_) | (refine in_exit_ne rfl ?_) | (refine in_normal ?_) | (refine cw_ret ?_) | (refine then_ret ?_) | (refine in_ret ?_) | (refine cw_skip ?_))
    exact ⟨⟨(k + 1, b', c'), ⟨by simp only; omega, hkl, hE3, hN', by simp only [itL_succ]; exact hO3⟩, by simp only; omega, rfl, rfl, trivial⟩, (by (repeat (first | exact agree_mask _ _ _ | refine agree_upd rfl ?_ | refine agree_updO rfl ?_ | refine agree_overIn rfl ?_ | refine agree_maskIn rfl ?_)))⟩
  · have hcy := cyc_of hP hin hk1 hN (Decidable.not_not.1 hc)
    refine ret1 rfl (rt rfl) ⟨b, c, ?_, ?_, hE⟩
    · rw [hcy, itL_length]; rfl
    · rw [hcy, itL_length]; exact hO

theorem refLeast_spec {xs : List Int} {a : Option Addr} {w : World} (hx : Sl w a (intsL xs)) (cap : Nat) (hl : xs.length ≤ 9223372036854775807) :
    CallsR Try.prog 61 #[.slice a xs.length cap] w fun v w' => v = .bool (leastB xs) ∧ Ex w w' := by
  refine callsR_of (args := [_]) Try.func61 rfl rfl ?_
  have hiff : leastB xs = true ↔ ∀ j, j < xs.length → xs.getD 0 0 ≤ xs.getD j 0 := by
    have := leastTo_iff (l := xs) (k := xs.length)
    rw [List.take_length] at this
    unfold leastB
    rw [List.all_eq_true]
    simp only [decide_eq_true_eq]
    rw [this]
    exact ⟨fun h j hj => h j hj hj, fun h j hj _ => h j hj⟩
  repeat' (first | (refine k_pure rfl ?_) | (refine then_normal ?_) | (refine cw_seq ?_) | (refine cw_region rfl ?_) | (refine rr_nil ?_) | (refine k_len rfl ?_) | (refine g_run rfl rfl ?_) | (refine g_skip rfl rfl ?_) | (refine g_dec_f rfl rfl (fun hc => ?_) (fun hc => ?_)) | (refine g_dec_t rfl rfl (fun hc => ?_) (fun hc => ?_)) | (refine g_ndec_f rfl rfl (fun hc => ?_) (fun hc => ?_)) | (refine g_ndec_t rfl rfl (fun hc => ?_) (fun hc => ?_)) | (refine g_split rfl rfl (fun hc => ?_) (fun hc => ?_)) | (refine k_addI rfl rfl (by omega) (by omega) ?_) | (refine k_subI rfl rfl (by omega) (by omega) ?_) | (refine k_fieldAddr rfl ?_) | (refine k_eqlB rfl rfl ?_) | (refine k_neqB rfl rfl ?_) | (refine cw_cond_true rfl ?_) | (refine cw_cond_false rfl ?_) | (refine cw_cond_dec rfl (fun hc => ?_) (fun hc => ?_)) | (refine cw_cond_ndec rfl (fun hc => ?_) (fun hc => ?_)) | (refine cw_cond rfl (fun hc => ?_) (fun hc => ?_)) | (refine cw_block ?_) | (refine cw_exit ?_) | (refine then_exit ?_) | (refine in_exit ?_) | (refine in_exit_ne rfl ?_) | (refine in_normal ?_) | (refine cw_ret ?_) | (refine then_ret ?_) | (refine in_ret ?_) | (refine cw_skip ?_))
  refine cw_loop (ι := Nat) [2, 4, 7, 8, 9, 10, 11, 12, 13, 14, 15, 16] (fun k => [(7, .int .i64 (k : Int))]) (fun k w' => k ≤ xs.length ∧ w' = w ∧ ∀ j, j < k → xs.getD 0 0 ≤ xs.getD j 0) (fun k => xs.length - k) 0 ⟨rfl, trivial⟩ ⟨by simp, rfl, by simp⟩ ?_
  rintro k ξ w2 ⟨hk, rfl, hT⟩
  repeat' (first | (refine k_indexN rfl rfl (hx.plain (by simp; omega)) (by omega) ?_) | (refine k_indexN (j := 0) rfl rfl (hx.plain (by simp; omega)) (by omega) ?_) | (refine k_loadI rfl hx (by omega) ?_) | (refine k_pure rfl ?_) | (refine then_normal ?_) | (refine cw_seq ?_) | (refine cw_region rfl ?_) | (refine rr_nil ?_) | (refine k_len rfl ?_) | (refine g_run rfl rfl ?_) | (refine g_skip rfl rfl ?_) | (refine g_dec_f rfl rfl (fun hc => ?_) (fun hc => ?_)) | (refine g_dec_t rfl rfl (fun hc => ?_) (fun hc => ?_)) | (refine g_ndec_f rfl rfl (fun hc => ?_) (fun hc => ?_)) | (refine g_ndec_t rfl rfl (fun hc => ?_) (fun hc => ?_)) | (refine g_split rfl rfl (fun hc => ?_) (fun hc => ?_)) | (refine k_addI rfl rfl (by omega) (by omega) ?_) | (refine k_subI rfl rfl (by omega) (by omega) ?_) | (refine k_fieldAddr rfl ?_) | (refine k_eqlB rfl rfl ?_) | (refine k_neqB rfl rfl ?_) | (refine cw_cond_true rfl ?_) | (refine cw_cond_false rfl ?_) | (refine cw_cond_dec rfl (fun hc => ?_) (fun hc => ?_)) | (refine cw_cond_ndec rfl (fun hc => ?_) (fun hc => ?_)) | (refine cw_cond rfl (fun hc => ?_) (fun hc => ?_)) | (refine cw_block ?_) | (refine cw_exit ?_) | (refine then_exit ?_) | (refine in_exit ?_) | (refine in_exit_ne rfl ?_) | (refine in_normal ?_) | (refine cw_ret ?_) | (refine then_ret ?_) | (refine in_ret ?_) | (refine cw_skip ?_))
  · refine ret1 rfl (rt rfl) ⟨congrArg Value.bool (Eq.symm ?_), Ex.refl _⟩
    rw [← Bool.not_eq_true, hiff]
    intro h
    have := h k (by omega)
    omega
  · refine ⟨⟨k + 1, ⟨by omega, rfl, fun j hj => ?_⟩, by omega, rfl, trivial⟩, (by (repeat (first | exact agree_mask _ _ _ | refine agree_upd rfl ?_ | refine agree_updO rfl ?_ | refine agree_overIn rfl ?_ | refine agree_maskIn rfl ?_)))⟩
    by_cases hjk : j = k
    · subst hjk; omega
    · exact hT j (by omega)
  · refine ret1 rfl (rt rfl) ⟨congrArg Value.bool (Eq.symm ?_), Ex.refl _⟩
    rw [hiff]
    exact fun j hj => hT j (by omega)

theorem refCycles_spec {xs : List Int} {a : Option Addr} {w : World} (hx : Sl w a (intsL xs)) (cap : Nat) :
    CallsR Try.prog 29 #[.slice a xs.length cap] w (RetCs w (cyclesF xs) (decide (IsPerm xs))) := by
  refine callsR_of (args := [_]) Try.func29 rfl rfl ?_
  repeat' (first | (refine k_pure rfl ?_) | (refine then_normal ?_) | (refine cw_seq ?_) | (refine cw_region rfl ?_) | (refine rr_nil ?_) | (refine k_len rfl ?_) | (refine g_run rfl rfl ?_) | (refine g_skip rfl rfl ?_) | (refine g_dec_f rfl rfl (fun hc => ?_) (fun hc => ?_)) | (refine g_dec_t rfl rfl (fun hc => ?_) (fun hc => ?_)) | (refine g_ndec_f rfl rfl (fun hc => ?_) (fun hc => ?_)) | (refine g_ndec_t rfl rfl (fun hc => ?_) (fun hc => ?_)) | (refine g_split rfl rfl (fun hc => ?_) (fun hc => ?_)) | (refine k_addI rfl rfl (by omega) (by omega) ?_) | (refine k_subI rfl rfl (by omega) (by omega) ?_) | (refine k_fieldAddr rfl ?_) | (refine k_eqlB rfl rfl ?_) | (refine k_neqB rfl rfl ?_) | (refine cw_cond_true rfl ?_) | (refine cw_cond_false rfl ?_) | (refine cw_cond_dec rfl (fun hc => ?_) (fun hc => ?_)) | (refine cw_cond_ndec rfl (fun hc => ?_) (fun hc => ?_)) | (refine cw_cond rfl (fun hc => ?_) (fun hc => ?_)) | (refine cw_block ?_) | (refine cw_exit ?_) | (refine then_exit ?_) | (refine in_exit ?_) | (refine in_exit_ne rfl ?_) | (refine in_normal ?_) | (refine cw_ret ?_) | (refine then_ret ?_) | (refine in_ret ?_) | (refine cw_skip ?_))
  refine k_call (refValid_spec hx _) rfl ?_
  rintro v w1 ⟨rfl, hE1⟩
  refine ⟨fun _ _ => trivial, ?_⟩
  repeat' (first | (refine k_eqlT rfl rfl ?_) | (refine k_neqF rfl rfl ?_) | (refine k_pure rfl ?_) | (refine then_normal ?_) | (refine cw_seq ?_) | (refine cw_region rfl ?_) | (refine rr_nil ?_) | (refine k_len rfl ?_) | (refine g_run rfl rfl ?_) | (refine g_skip rfl rfl ?_) | (refine g_dec_f rfl rfl (fun hc => ?_) (fun hc => ?_)) | (refine g_dec_t rfl rfl (fun hc => ?_) (fun hc => ?_)) | (refine g_ndec_f rfl rfl (fun hc => ?_) (fun hc => ?_)) | (refine g_ndec_t rfl rfl (fun hc => ?_) (fun hc => ?_)) | (refine g_split rfl rfl (fun hc => ?_) (fun hc => ?_)) | (refine k_addI rfl rfl (by omega) (by omega) ?_) | (refine k_subI rfl rfl (by omega) (by omega) ?_) | (refine k_fieldAddr rfl ?_) | (refine k_eqlB rfl rfl ?_) | (refine k_neqB rfl rfl ?_) | (refine cw_cond_true rfl ?_) | (refine cw_cond_false rfl ?_) | (refine cw_cond_dec rfl (fun hc => ?_) (fun hc => ?_)) | (refine cw_cond_ndec rfl (fun hc => ?_) (fun hc => ?_)) | (refine cw_cond rfl (fun hc => ?_) (fun hc => ?_)) | (refine cw_block ?_) | (refine cw_exit ?_) | (refine then_exit ?_) | (refine in_exit ?_) | (refine in_exit_ne rfl ?_) | (refine in_normal ?_) | (refine cw_ret ?_) | (refine then_ret ?_) | (refine in_ret ?_) | (refine cw_skip ?_))
  · refine ret2 rfl (rt rfl) (rt rfl) ?_
    rw [cyclesF, if_neg hc, decide_eq_false hc]
    exact ⟨none, 0, [], rfl, OwnLists.nil _ _ _ _ _, hE1⟩
  · have hP := hc
    have hn0 : 1 ≤ xs.length := hc.1
    have hn5 : xs.length ≤ 512 := hc.2.1
    have s1 := hE1.size
    refine cw_loop (ι := Nat × Option Addr × Nat × List SD) [4, 5, 6, 12, 13, 14, 15, 16, 17, 18, 19, 20, 21, 22, 23, 24, 25, 26, 27, 28, 29] (fun s => [(12, .int .i64 (s.1 : Int)), (4, .slice s.2.1 s.2.2.2.length s.2.2.1)])
      (fun s w' => s.1 ≤ xs.length ∧ Ex w w' ∧ OwnLists w' w.heap.size 22 3 .i64 s.2.1 s.2.2.1 s.2.2.2 (cycR xs s.1)) (fun s => xs.length - s.1)
      (0, none, 0, []) ⟨rfl, rfl, trivial⟩ ⟨by simp, hE1, OwnLists.nil _ _ _ _ _⟩ ?_
    rintro ⟨k, b, c, ss⟩ ξ w2 ⟨hk, hE2, hL⟩
    simp only at hk hL
    have hl := hL.len
    have hlen := (cycGo_len hP k hk).1
    rw [← cycR_eq hP k hk] at hlen
    have s2 := hE2.size
    show CW _ _ _ _ (over [(12, .int .i64 (k : Int)), (4, .slice b ss.length c)] _) w2
    repeat' (first | (refine k_pure rfl ?_) | (refine then_normal ?_) | (refine cw_seq ?_) | (refine cw_region rfl ?_) | (refine rr_nil ?_) | (refine k_len rfl ?_) | (refine g_run rfl rfl ?_) | (refine g_skip rfl rfl ?_) | (refine g_dec_f rfl rfl (fun hc => ?_) (fun hc => ?_)) | (refine g_dec_t rfl rfl (fun hc => ?_) (fun hc => ?_)) | (refine g_ndec_f rfl rfl (fun hc => ?_) (fun hc => ?_)) | (refine g_ndec_t rfl rfl (fun hc => ?_) (fun hc => ?_)) | (refine g_split rfl rfl (fun hc => ?_) (fun hc => ?_)) | (refine k_addI rfl rfl (by omega) (by omega) ?_) | (refine k_subI rfl rfl (by omega) (by omega) ?_) | (refine k_fieldAddr rfl ?_) | (refine k_eqlB rfl rfl ?_) | (refine k_neqB rfl rfl ?_) | (refine cw_cond_true rfl ?_) | (refine cw_cond_false rfl ?_) | (refine cw_cond_dec rfl (fun hc => ?_) (fun hc => ?_)) | (refine cw_cond_ndec rfl (fun hc => ?_) (fun hc => ?_)) | (refine cw_cond rfl (fun hc => ?_) (fun hc => ?_)) | (refine cw_block ?_) | (refine cw_exit ?_) | (refine then_exit ?_) | (refine in_exit ?_) | (refine in_exit_ne rfl ?_) | (refine in_normal ?_) | (refine cw_ret ?_) | (refine then_ret ?_) | (refine in_ret ?_) | (refine cw_skip ?_))
    · have hkl : k < xs.length := by omega
      have hin : In xs (k : Int) := by unfold In; omega
      have hcl : (cyc xs k).length ≤ xs.length := (cyc_spec hP hin).2.1
      refine k_call (refCycle_spec (hx.ext hE2) _ hP hkl) rfl ?_
      rintro v w3 ⟨b3, c3, rfl, hO3, hE3⟩
      refine ⟨fun _ _ => trivial, ?_⟩
      repeat' (first | (refine k_eqlT rfl rfl ?_) | (refine k_neqF rfl rfl ?_) | (refine k_pure rfl ?_) | (refine then_normal ?_) | (refine cw_seq ?_) | (refine cw_region rfl ?_) | (refine rr_nil ?_) | (refine k_len rfl ?_) | (refine g_run rfl rfl ?_) | (refine g_skip rfl rfl ?_) | (refine g_dec_f rfl rfl (fun hc => ?_) (fun hc => ?_)) | (refine g_dec_t rfl rfl (fun hc => ?_) (fun hc => ?_)) | (refine g_ndec_f rfl rfl (fun hc => ?_) (fun hc => ?_)) | (refine g_ndec_t rfl rfl (fun hc => ?_) (fun hc => ?_)) | (refine g_split rfl rfl (fun hc => ?_) (fun hc => ?_)) | (refine k_addI rfl rfl (by omega) (by omega) ?_) | (refine k_subI rfl rfl (by omega) (by omega) ?_) | (refine k_fieldAddr rfl ?_) | (refine k_eqlB rfl rfl ?_) | (refine k_neqB rfl rfl ?_) | (refine cw_cond_true rfl ?_) | (refine cw_cond_false rfl ?_) | (refine cw_cond_dec rfl (fun hc => ?_) (fun hc => ?_)) | (refine cw_cond_ndec rfl (fun hc => ?_) (fun hc => ?_)) | (refine cw_cond rfl (fun hc => ?_) (fun hc => ?_)) | (refine cw_block ?_) | (refine cw_exit ?_) | (refine then_exit ?_) | (refine in_exit ?_) | (refine in_exit_ne rfl ?_) | (refine in_normal ?_) | (refine cw_ret ?_) | (refine then_ret ?_) | (refine in_ret ?_) | (refine cw_skip ?_))
      · refine k_call (refLeast_spec hO3.sl _ (by omega)) rfl ?_
        rintro v w4 ⟨rfl, hE4⟩
        refine ⟨fun _ _ => trivial, ?_⟩
        repeat' (first | (refine k_eqlT rfl rfl ?_) | (refine k_neqF rfl rfl ?_) | (refine k_pure rfl ?_) | (refine then_normal ?_) | (refine cw_seq ?_) | (refine cw_region rfl ?_) | (refine rr_nil ?_) | (refine k_len rfl ?_) | (refine g_run rfl rfl ?_) | (refine g_skip rfl rfl ?_) | (refine g_dec_f rfl rfl (fun hc => ?_) (fun hc => ?_)) | (refine g_dec_t rfl rfl (fun hc => ?_) (fun hc => ?_)) | (refine g_ndec_f rfl rfl (fun hc => ?_) (fun hc => ?_)) | (refine g_ndec_t rfl rfl (fun hc => ?_) (fun hc => ?_)) | (refine g_split rfl rfl (fun hc => ?_) (fun hc => ?_)) | (refine k_addI rfl rfl (by omega) (by omega) ?_) | (refine k_subI rfl rfl (by omega) (by omega) ?_) | (refine k_fieldAddr rfl ?_) | (refine k_eqlB rfl rfl ?_) | (refine k_neqB rfl rfl ?_) | (refine cw_cond_true rfl ?_) | (refine cw_cond_false rfl ?_) | (refine cw_cond_dec rfl (fun hc => ?_) (fun hc => ?_)) | (refine cw_cond_ndec rfl (fun hc => ?_) (fun hc => ?_)) | (refine cw_cond rfl (fun hc => ?_) (fun hc => ?_)) | (refine cw_block ?_) | (refine cw_exit ?_) | (refine then_exit ?_) | (refine in_exit ?_) | (refine in_exit_ne rfl ?_) | (refine in_normal ?_) | (refine cw_ret ?_) | (refine then_ret ?_) | (refine in_ret ?_) | (refine cw_skip ?_))
        · have hsel : cycSel xs k = true := by unfold cycSel; rw [hc, Bool.and_true]; exact decide_eq_true (by omega)
          have e : cycR xs (k + 1) = cycR xs k ++ [cyc xs k] := by rw [cycR, if_pos hsel]
          have hL4 := (hL.ext hE3).ext hE4
          have hO4 := hO3.ext hE4
          have hE24 : Ex w w4 := (hE2.trans hE3).trans hE4
          have s4 := hE24.size
          refine k_app1S rfl rfl rfl rfl hL4.top (by omega) (by omega) (by omega) (fun gl b9 c9 w9 hO9 hg9 hA9 => ?_)
          have hsep : ∀ ad ad', b = some ad → b3 = some ad' → ad.block ≠ ad'.block := fun ad ad' e e' => by have := (hL.top.lo ad e).2; have := (hO3.lo ad' e').1; omega
          have hL9 := hL4.snoc (hO4.mono (by omega)) hsep hO9 hg9 hA9
          repeat' (first | (refine k_pure rfl ?_) | (refine then_normal ?_) | (refine cw_seq ?_) | (refine cw_region rfl ?_) | (refine rr_nil ?_) | (refine k_len rfl ?_) | (refine g_run rfl rfl ?_) | (refine g_skip rfl rfl ?_) | (refine g_dec_f rfl rfl (fun hc => ?_) (fun hc => ?_)) | (refine g_dec_t rfl rfl (fun hc => ?_) (fun hc => ?_)) | (refine g_ndec_f rfl rfl (fun hc => ?_) (fun hc => ?_)) | (refine g_ndec_t rfl rfl (fun hc => ?_) (fun hc => ?_)) | (refine g_split rfl rfl (fun hc => ?_) (fun hc => ?_)) | (refine k_addI rfl rfl (by omega) (by omega) ?_) | (refine k_subI rfl rfl (by omega) (by omega) ?_) | (refine k_fieldAddr rfl ?_) | (refine k_eqlB rfl rfl ?_) | (refine k_neqB rfl rfl ?_) | (refine cw_cond_true rfl ?_) | (refine cw_cond_false rfl ?_) | (refine cw_cond_dec rfl (fun hc => ?_) (fun hc => ?_)) | (refine cw_cond_ndec rfl (fun hc => ?_) (fun hc => ?_)) | (refine cw_cond rfl (fun hc => ?_) (fun hc => ?_)) | (refine cw_block ?_) | (refine cw_exit ?_) | (refine then_exit ?_) | (refine in_exit ?_) | (refine in_exit_ne rfl ?_) | (refine in_normal ?_) | (refine cw_ret ?_) | (refine then_ret ?_) | (refine in_ret ?_) | (refine cw_skip ?_))
          refine ⟨⟨(k + 1, b9, c9, ss ++ [⟨b3, (cyc xs k).length, c3⟩]), ⟨by simp only; omega, hL4.grow_ex hg9 hE24 (by omega), by simp only [e]; exact hL9⟩, by simp only; omega, rfl, ?_, trivial⟩, (by (repeat (first | exact agree_mask _ _ _ | refine agree_upd rfl ?_ | refine agree_updO rfl ?_ | refine agree_overIn rfl ?_ | refine agree_maskIn rfl ?_)))⟩
          simp only [List.length_append, List.length_singleton]; rfl
        · have hsel : ¬ cycSel xs k = true := by unfold cycSel; rw [hc]; simp
          have e : cycR xs (k + 1) = cycR xs k := by rw [cycR, if_neg hsel]
          exact ⟨⟨(k + 1, b, c, ss), ⟨by simp only; omega, (by repeat (first | assumption | exact Ex.refl _ | refine Ex.trans (by assumption) ?_)), by simp only [e]; exact (hL.ext hE3).ext hE4⟩, by simp only; omega, rfl, rfl, trivial⟩, (by (repeat (first | exact agree_mask _ _ _ | refine agree_upd rfl ?_ | refine agree_updO rfl ?_ | refine agree_overIn rfl ?_ | refine agree_maskIn rfl ?_)))⟩
      · have hsel : ¬ cycSel xs k = true := by unfold cycSel; rw [decide_eq_false (by omega)]; simp
        have e : cycR xs (k + 1) = cycR xs k := by rw [cycR, if_neg hsel]
        exact ⟨⟨(k + 1, b, c, ss), ⟨by simp only; omega, (by repeat (first | assumption | exact Ex.refl _ | refine Ex.trans (by assumption) ?_)), by simp only [e]; exact hL.ext hE3⟩, by simp only; omega, rfl, rfl, trivial⟩, (by (repeat (first | exact agree_mask _ _ _ | refine agree_upd rfl ?_ | refine agree_updO rfl ?_ | refine agree_overIn rfl ?_ | refine agree_maskIn rfl ?_)))⟩
    · obtain rfl : k = xs.length := by omega
      refine ret2 rfl (rt rfl) (rt rfl) ?_
      have hof : cyclesF xs = cycR xs xs.length := by rw [cyclesF, if_pos hP, cycR_eq hP _ (Nat.le_refl _)]
      rw [hof, decide_eq_true hP]
      exact ⟨b, c, ss, rfl, hL, hE2⟩
end Go.Proofs.Ytmedmmginnfjgaa
