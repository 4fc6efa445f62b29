import Derived.Test.YtmedmmginnfjgaaW5
import Derived.Test.YtmedmmginnfjgaaZ2
import Derived.Test.YtmedmmginnfjgaaLaw2
import Derived.Test.YtmedmmginnfjgaaPrt
import Derived.Test.YtmedmmginnfjgaaMem3
namespace Go.Proofs.Ytmedmmginnfjgaa
open Go.W Go.PM

set_option maxHeartbeats 2000000 in
theorem partition_calls {pts : Int} (hp : 0 ≤ pts ∧ pts ≤ 255) {la : Option Addr} {sds : List SD} {Ls : List (List Int)} {w : World} (hL : Lists w .i8 la sds Ls) (hI : ∀ i, I8 (Ls.getD i [])) (c : Nat) (hl : Ls.length ≤ 9223372036854775807) (few : Bool) :
    CallsR Try.prog 8 #[.agg (permsL pts la Ls.length c few).toArray] w fun v w' => v = .bool true ∧ Ex w w' := by
  refine callsR_of (args := [_]) Try.func8 rfl rfl ?_
  have h1 : 0 ≤ pts % 12 := Int.emod_nonneg _ (by omega)
  have h2 : pts % 12 < 12 := Int.emod_lt_of_pos _ (by omega)
  obtain ⟨n, hn⟩ : ∃ n : Nat, 1 + pts % 12 = (n : Int) := ⟨(1 + pts % 12).toNat, by omega⟩
  repeat' (first | (refine k_boxA rfl (fun g w1 hn1 => ⟨fun _ _ => trivial, ?_⟩)) | (refine k_pure rfl ?_) | (refine then_normal ?_) | (refine cw_seq ?_) | (refine cw_region rfl ?_) | (refine rr_nil ?_) | (refine k_len rfl ?_) | (refine g_run rfl rfl ?_) | (refine g_skip rfl rfl ?_) | (refine g_dec_f rfl rfl (fun hc => ?_) (fun hc => ?_)) | (refine g_dec_t rfl rfl (fun hc => ?_) (fun hc => ?_)) | (refine g_ndec_f rfl rfl (fun hc => ?_) (fun hc => ?_)) | (refine g_ndec_t rfl rfl (fun hc => ?_) (fun hc => ?_)) | (refine g_split rfl rfl (fun hc => ?_) (fun hc => ?_)) | (refine k_addI rfl rfl (by omega) (by omega) ?_) | (refine k_subI rfl rfl (by omega) (by omega) ?_) | (refine k_fieldAddr rfl ?_) | (refine k_eqlB rfl rfl ?_) | (refine k_neqB rfl rfl ?_) | (refine cw_cond_true rfl ?_) | (refine cw_cond_false rfl ?_) | (refine cw_cond_dec rfl (fun hc => ?_) (fun hc => ?_)) | (refine cw_cond_ndec rfl (fun hc => ?_) (fun hc => ?_)) | (refine cw_cond rfl (fun hc => ?_) (fun hc => ?_)) | (refine cw_block ?_) | (refine cw_exit ?_) | (refine then_exit ?_) | (refine in_exit ?_) | (refine in_exit_ne rfl ?_) | (refine in_normal ?_) | (refine cw_ret ?_) | (refine then_ret ?_) | (refine in_ret ?_) | (refine cw_skip ?_))
  refine cw_draw (late := []) (plan := [(0, none), (2, none), (1, some true), (3, some true), (4, none), (5, none)]) (fun w' => Blk w' g 49 (permsL pts la Ls.length c few)) mixed (by kernel_rfl) hn1.blk.drew ?_
  have hE1 : Ex w w1.drew := hn1.ex.drew
  repeat' (first | (refine k_loadCA rfl (fun _ h => h) rfl ?_) | (refine k_pure rfl ?_) | (refine then_normal ?_) | (refine cw_seq ?_) | (refine cw_region rfl ?_) | (refine rr_nil ?_) | (refine k_len rfl ?_) | (refine g_run rfl rfl ?_) | (refine g_skip rfl rfl ?_) | (refine g_dec_f rfl rfl (fun hc => ?_) (fun hc => ?_)) | (refine g_dec_t rfl rfl (fun hc => ?_) (fun hc => ?_)) | (refine g_ndec_f rfl rfl (fun hc => ?_) (fun hc => ?_)) | (refine g_ndec_t rfl rfl (fun hc => ?_) (fun hc => ?_)) | (refine g_split rfl rfl (fun hc => ?_) (fun hc => ?_)) | (refine k_addI rfl rfl (by omega) (by omega) ?_) | (refine k_subI rfl rfl (by omega) (by omega) ?_) | (refine k_fieldAddr rfl ?_) | (refine k_eqlB rfl rfl ?_) | (refine k_neqB rfl rfl ?_) | (refine cw_cond_true rfl ?_) | (refine cw_cond_false rfl ?_) | (refine cw_cond_dec rfl (fun hc => ?_) (fun hc => ?_)) | (refine cw_cond_ndec rfl (fun hc => ?_) (fun hc => ?_)) | (refine cw_cond rfl (fun hc => ?_) (fun hc => ?_)) | (refine cw_block ?_) | (refine cw_exit ?_) | (refine then_exit ?_) | (refine in_exit ?_) | (refine in_exit_ne rfl ?_) | (refine in_normal ?_) | (refine cw_ret ?_) | (refine then_ret ?_) | (refine in_ret ?_) | (refine cw_skip ?_))
  refine k_call (degree_spec hp _ _ _ _ (by omega) _) rfl ?_
  rintro v w2 ⟨rfl, hE2⟩
  refine ⟨fun _ h => h.ext hE2, ?_⟩
  rw [hn]
  refine k_call (gens_spec hp (by omega) hn (hL.ext (hE1.trans hE2)) hI _ hl few) rfl ?_
  rintro v w3 ⟨b, cc, ss, xss, rfl, hO, hx3, hG, hA, hE3⟩
  refine ⟨fun _ h => h.ext hE3, ?_⟩
  have hE03 : Ex w w3 := (hE1.trans hE2).trans hE3
  have hLs := hO.lists
  have hle := hLs.len
  have herr : errF (n : Int) xss 0 = 0 := by
    unfold errF
    have hgo : gensOK (n : Int) xss := fun p hp => ⟨by have := (hG p hp).1; omega, (hG p hp).2⟩
    rw [if_neg (by omega), if_neg (by omega), if_pos hgo]
  have hof : orbitsF (n : Int) xss = orbR xss n n := by rw [orbitsF, if_pos herr, Int.toNat_natCast, orbR_eq hG n (Nat.le_refl _)]
  rw [hle]
  repeat' (first | (refine k_pure rfl ?_) | (refine then_normal ?_) | (refine cw_seq ?_) | (refine cw_region rfl ?_) | (refine rr_nil ?_) | (refine k_len rfl ?_) | (refine g_run rfl rfl ?_) | (refine g_skip rfl rfl ?_) | (refine g_dec_f rfl rfl (fun hc => ?_) (fun hc => ?_)) | (refine g_dec_t rfl rfl (fun hc => ?_) (fun hc => ?_)) | (refine g_ndec_f rfl rfl (fun hc => ?_) (fun hc => ?_)) | (refine g_ndec_t rfl rfl (fun hc => ?_) (fun hc => ?_)) | (refine g_split rfl rfl (fun hc => ?_) (fun hc => ?_)) | (refine k_addI rfl rfl (by omega) (by omega) ?_) | (refine k_subI rfl rfl (by omega) (by omega) ?_) | (refine k_fieldAddr rfl ?_) | (refine k_eqlB rfl rfl ?_) | (refine k_neqB rfl rfl ?_) | (refine cw_cond_true rfl ?_) | (refine cw_cond_false rfl ?_) | (refine cw_cond_dec rfl (fun hc => ?_) (fun hc => ?_)) | (refine cw_cond_ndec rfl (fun hc => ?_) (fun hc => ?_)) | (refine cw_cond rfl (fun hc => ?_) (fun hc => ?_)) | (refine cw_block ?_) | (refine cw_exit ?_) | (refine then_exit ?_) | (refine in_exit ?_) | (refine in_exit_ne rfl ?_) | (refine in_normal ?_) | (refine cw_ret ?_) | (refine then_ret ?_) | (refine in_ret ?_) | (refine cw_skip ?_))
  refine k_call (orbits_spec (n := (n : Int)) hLs cc (by omega)) rfl ?_
  rintro v w4 ⟨b4, c4, s4, rfl, hO4, hE4⟩
  refine ⟨fun _ _ => trivial, ?_⟩
  rw [herr]
  rw [hof] at hO4
  have hq := orbR_spec (n := n) (gens := xss) n
  obtain ⟨hfd, hfl⟩ := orbs_flat hG
  have hql := (orbitsGo_len xss n n).1
  rw [← orbR_eq hG n (Nat.le_refl _)] at hql
  have hrange := fun c (hc : c ∈ orbR xss n n) => orbs_range hG hc
  have hdisj := fun c d y (hc : c ∈ orbR xss n n) (hd : d ∈ orbR xss n n) (h1 : y ∈ c) (h2 : y ∈ d) => orbs_eq hG hc hd h1 h2
  have hclosed := fun c p (y : Int) (hc : c ∈ orbR xss n n) (hp : p ∈ xss) (hy : 0 ≤ y ∧ y < (n : Int)) => orbs_closed (p := p) (y := y) hG hc hp hy
  generalize orbR xss n n = O at *
  have hheads : ∀ i j, i < j → j < O.length → (O.getD i []).getD 0 0 < (O.getD j []).getD 0 0 := fun i j hij hj => by
    have := List.pairwise_iff_getElem.1 hq.2.1 i j (by omega) hj hij
    simpa [List.getD_eq_getElem?_getD, hj, show i < O.length by omega] using this
  have hl4 := hO4.lists
  have hle4 := hl4.len
  have s3 := hE03.size
  have s4' := hE4.size
  rw [hle4]
  repeat' (first | (refine k_makeI rfl rfl (by omega) (by omega) (fun g5 w5 hn5 => ⟨fun _ _ => trivial, ?_⟩)) | (refine k_pure rfl ?_) | (refine then_normal ?_) | (refine cw_seq ?_) | (refine cw_region rfl ?_) | (refine rr_nil ?_) | (refine k_len rfl ?_) | (refine g_run rfl rfl ?_) | (refine g_skip rfl rfl ?_) | (refine g_dec_f rfl rfl (fun hc => ?_) (fun hc => ?_)) | (refine g_dec_t rfl rfl (fun hc => ?_) (fun hc => ?_)) | (refine g_ndec_f rfl rfl (fun hc => ?_) (fun hc => ?_)) | (refine g_ndec_t rfl rfl (fun hc => ?_) (fun hc => ?_)) | (refine g_split rfl rfl (fun hc => ?_) (fun hc => ?_)) | (refine k_addI rfl rfl (by omega) (by omega) ?_) | (refine k_subI rfl rfl (by omega) (by omega) ?_) | (refine k_fieldAddr rfl ?_) | (refine k_eqlB rfl rfl ?_) | (refine k_neqB rfl rfl ?_) | (refine cw_cond_true rfl ?_) | (refine cw_cond_false rfl ?_) | (refine cw_cond_dec rfl (fun hc => ?_) (fun hc => ?_)) | (refine cw_cond_ndec rfl (fun hc => ?_) (fun hc => ?_)) | (refine cw_cond rfl (fun hc => ?_) (fun hc => ?_)) | (refine cw_block ?_) | (refine cw_exit ?_) | (refine then_exit ?_) | (refine in_exit ?_) | (refine in_exit_ne rfl ?_) | (refine in_normal ?_) | (refine cw_ret ?_) | (refine then_ret ?_) | (refine in_ret ?_) | (refine cw_skip ?_))
  have l5 := hn5.lo
  have hE5 := hn5.ex
  have hE45 : Ex w w5 := (hE03.trans hE4).trans hE5
  refine cw_loop (ι := Nat × List Int) [2, 8, 9, 10, 11, 12, 32, 33, 34, 35, 36, 37, 38, 39, 40, 41, 42, 43, 44, 45, 46, 47, 48, 49, 50, 51, 52, 53, 54, 55, 56, 57, 58, 59, 60, 61, 62, 63, 64, 65, 66, 67, 68, 69, 70, 71, 72, 73, 74, 75, 76, 77, 78, 79, 80, 81, 82, 83, 84, 85, 86, 87, 88, 89, 90, 91, 92, 93, 94, 95, 96, 97, 98, 99] (fun s => [(32, .int .i64 (s.1 : Int)), (8, .int .i64 (sumTo O s.1 : Nat))])
    (fun s w' => s.1 ≤ O.length ∧ Ex w4 w' ∧ Blk w' g5 3 (intsL s.2) ∧ s.2.length = n ∧ ∀ y, y < n → s.2.getD y 0 = labTo O s.1 y) (fun s => O.length - s.1)
    (0, List.replicate n 0) ⟨rfl, rfl, trivial⟩ ⟨by simp, hE5, hn5.blk, by simp, fun y hy => by simp [labTo, List.getD_eq_getElem?_getD, hy]⟩ ?_
  rintro ⟨i, os⟩ ξ w6 ⟨hi, hE6, hb6, hol, hlab⟩
  simp only at hi hb6 hol hlab
  have hl6 := hl4.ext hE6
  show CW _ _ _ _ (over [(32, .int .i64 (i : Int)), (8, .int .i64 ((sumTo O i : Nat) : Int))] _) w6
  repeat' (first | (refine k_indexN rfl rfl (hl6.sl.plain (by simp; omega)) (by omega) ?_) | (refine k_loadS rfl hl6.sl (by omega) ?_) | (refine k_pure rfl ?_) | (refine then_normal ?_) | (refine cw_seq ?_) | (refine cw_region rfl ?_) | (refine rr_nil ?_) | (refine k_len rfl ?_) | (refine g_run rfl rfl ?_) | (refine g_skip rfl rfl ?_) | (refine g_dec_f rfl rfl (fun hc => ?_) (fun hc => ?_)) | (refine g_dec_t rfl rfl (fun hc => ?_) (fun hc => ?_)) | (refine g_ndec_f rfl rfl (fun hc => ?_) (fun hc => ?_)) | (refine g_ndec_t rfl rfl (fun hc => ?_) (fun hc => ?_)) | (refine g_split rfl rfl (fun hc => ?_) (fun hc => ?_)) | (refine k_addI rfl rfl (by omega) (by omega) ?_) | (refine k_subI rfl rfl (by omega) (by omega) ?_) | (refine k_fieldAddr rfl ?_) | (refine k_eqlB rfl rfl ?_) | (refine k_neqB rfl rfl ?_) | (refine cw_cond_true rfl ?_) | (refine cw_cond_false rfl ?_) | (refine cw_cond_dec rfl (fun hc => ?_) (fun hc => ?_)) | (refine cw_cond_ndec rfl (fun hc => ?_) (fun hc => ?_)) | (refine cw_cond rfl (fun hc => ?_) (fun hc => ?_)) | (refine cw_block ?_) | (refine cw_exit ?_) | (refine then_exit ?_) | (refine in_exit ?_) | (refine in_exit_ne rfl ?_) | (refine in_normal ?_) | (refine cw_ret ?_) | (refine then_ret ?_) | (refine in_ret ?_) | (refine cw_skip ?_))
  · have hil : i < O.length := by omega
    have hmem : O.getD i [] ∈ O := getD_mem hil
    obtain ⟨r1, r2, r3⟩ := hrange _ hmem
    have hpw := fun a b (hab : a < b) (hb : b < (O.getD i []).length) => pw_getD r3 hab hb
    have hsum : sumTo O i + (O.getD i []).length ≤ n := by
      have h1 := sumTo_take O (i + 1) (by omega)
      rw [sumTo] at h1
      have h2 : (O.take (i + 1)).flatten.length ≤ O.flatten.length := by
        conv => rhs; rw [← List.take_append_drop (i + 1) O, List.flatten_append, List.length_append]
        omega
      omega
    have hlen6 := (hl6.each i (by omega)).2
    have hsl6 := (hl6.each i (by omega)).1
    rw [hlen6]
    refine cw_loop (ι := Nat × List Int) [2, 8, 11, 12, 39, 40, 41, 42, 43, 44, 45, 46, 47, 48, 49, 50, 51, 52, 53, 54, 55, 56, 57, 58, 59, 60, 61, 62, 63, 64, 65, 66, 67, 68, 69, 70, 71, 72, 73, 74, 75, 76, 77, 78] (fun s => [(39, .int .i64 (s.1 : Int)), (8, .int .i64 ((sumTo O i + s.1 : Nat) : Int))])
      (fun s w' => s.1 ≤ (O.getD i []).length ∧ Ex w4 w' ∧ Blk w' g5 3 (intsL s.2) ∧ s.2.length = n ∧ ∀ y, y < n → s.2.getD y 0 = labAt O i s.1 y) (fun s => (O.getD i []).length - s.1)
      (0, os) ⟨rfl, rfl, trivial⟩ ⟨by simp, hE6, hb6, hol, fun y hy => by rw [labAt_zero]; exact hlab y hy⟩ ?_
    rintro ⟨k, ps⟩ ξ2 w7 ⟨hk, hE7, hb7, hpl, hlab7⟩
    simp only at hk hb7 hpl hlab7
    have hsl7 := ((hl4.ext hE7).each i (by omega)).1
    have hl7 := hl4.ext hE7
    show CW _ _ _ _ (over [(39, .int .i64 (k : Int)), (8, .int .i64 ((sumTo O i + k : Nat) : Int))] _) w7
    by_cases hkl : k < (O.getD i []).length
    · have hyr := r1 _ (getD_mem (d := 0) hkl)
      have hpk := fun h : 0 < k => hpw (k - 1) k (by omega) hkl
      have hym : (O.getD i []).getD k 0 ∈ O.getD i [] := getD_mem hkl
      have hz : labAt O i k ((O.getD i []).getD k 0) = 0 := by
        unfold labAt
        rw [if_neg, labTo_zero]
        · intro j hj hm
          have hjm : O.getD j [] ∈ O := getD_mem (by omega)
          have := hheads j i (by omega) hil
          rw [hdisj _ _ _ hjm hmem hm hym] at this
          omega
        · intro hm
          obtain ⟨a, ha, e⟩ := mem_iff_getD.1 hm
          simp only [List.length_take] at ha
          have h1 := hpw a k (by omega) hkl
          rw [List.getD_eq_getElem?_getD, List.getElem?_take, if_pos (by omega), ← List.getD_eq_getElem?_getD] at e
          omega
      have hsucc := fun y => labAt_succ (O := O) (i := i) (k := k) hkl y
      have hps : ps.getD ((O.getD i []).getD k 0).toNat 0 = 0 := by rw [hlab7 _ (by omega), Int.toNat_of_nonneg hyr.1]; exact hz
      clear hlab hheads hdisj hclosed hq hz r3 hpw hrange
      repeat' (first | (refine k_lssT rfl rfl (by omega) ?_) | (refine k_lssF rfl rfl (by omega) ?_) | (refine k_geqF rfl rfl (by omega) ?_) | (refine k_neF rfl rfl hps ?_) | (refine k_indexN rfl rfl (hsl7.plain (by rw [List.length_map]; omega)) (by omega) ?_) | (refine k_index1 rfl rfl ⟨_, _, rfl⟩ (by omega) (by omega) ?_) | (refine k_loadI rfl hb7.sl (by omega) ?_) | (refine k_indexN (j := k - 1) rfl (by show Value.int .i64 ((k : Int) - 1) = _; congr 1; omega) (hsl7.plain (by rw [List.length_map]; omega)) (by omega) ?_) | (refine k_loadI rfl hsl7 (by omega) ?_) | (refine k_geqF rfl rfl (hpk (by omega)) ?_) | (refine k_storeI rfl rfl hb7 (by omega) (fun w8 hc8 hb8 => ⟨fun _ _ => trivial, ?_⟩)) | (refine k_pure rfl ?_) | (refine then_normal ?_) | (refine cw_seq ?_) | (refine cw_region rfl ?_) | (refine rr_nil ?_) | (refine k_len rfl ?_) | (refine g_run rfl rfl ?_) | (refine g_skip rfl rfl ?_) | (refine g_dec_f rfl rfl (fun hc => ?_) (fun hc => ?_)) | (refine g_dec_t rfl rfl (fun hc => ?_) (fun hc => ?_)) | (refine g_ndec_f rfl rfl (fun hc => ?_) (fun hc => ?_)) | (refine g_ndec_t rfl rfl (fun hc => ?_) (fun hc => ?_)) | (refine g_split rfl rfl (fun hc => ?_) (fun hc => ?_)) | (refine k_addI rfl rfl (by omega) (by omega) ?_) | (refine k_subI rfl rfl (by omega) (by omega) ?_) | (refine k_fieldAddr rfl ?_) | (refine k_eqlB rfl rfl ?_) | (refine k_neqB rfl rfl ?_) | (refine cw_cond_true rfl ?_) | (refine cw_cond_false rfl ?_) | (refine cw_cond_dec rfl (fun hc => ?_) (fun hc => ?_)) | (refine cw_cond_ndec rfl (fun hc => ?_) (fun hc => ?_)) | (refine cw_cond rfl (fun hc => ?_) (fun hc => ?_)) | (refine cw_block ?_) | (refine cw_exit ?_) | (refine then_exit ?_) | (refine in_exit ?_) | (refine in_exit_ne rfl ?_) | (refine in_normal ?_) | (refine cw_ret ?_) | (refine then_ret ?_) | (refine in_ret ?_) | (refine cw_skip ?_))
      all_goals
        generalize (O.getD i []).getD k 0 = y at *
        refine ⟨⟨(k + 1, ps.set y.toNat ((i : Int) + 1)), ⟨by simp only; omega, hE7.chg hc8 (by omega), hb8, by simp [hpl], fun y' hy' => ?_⟩, by simp only; omega, rfl, ?_, trivial⟩, (by (repeat (first | exact agree_mask _ _ _ | refine agree_upd rfl ?_ | refine agree_updO rfl ?_ | refine agree_overIn rfl ?_ | refine agree_maskIn rfl ?_)))⟩
        · simp only
          rw [hsucc]
          by_cases e : (y' : Int) = y
          · rw [if_pos e]
            have e2 : y.toNat = y' := by omega
            rw [e2]
            simp [List.getD_eq_getElem?_getD, show y' < ps.length by omega]
          · rw [if_neg e, ← hlab7 y' hy']
            have e2 : ¬ y.toNat = y' := by omega
            simp [List.getD_eq_getElem?_getD, List.getElem?_set, e2]
        · show Value.int .i64 (((sumTo O i + k : Nat) : Int) + 1) = _
          congr 1
    · obtain rfl : k = (O.getD i []).length := by omega
      have hhd := fun h : 0 < i => hheads (i - 1) i (by omega) hil
      have hrange' := hrange
      clear hheads hdisj hclosed hq r3 hpw hrange
      repeat' (first | (refine k_lssF rfl rfl (by omega) ?_) | (refine k_pure rfl ?_) | (refine then_normal ?_) | (refine cw_seq ?_) | (refine cw_region rfl ?_) | (refine rr_nil ?_) | (refine k_len rfl ?_) | (refine g_run rfl rfl ?_) | (refine g_skip rfl rfl ?_) | (refine g_dec_f rfl rfl (fun hc => ?_) (fun hc => ?_)) | (refine g_dec_t rfl rfl (fun hc => ?_) (fun hc => ?_)) | (refine g_ndec_f rfl rfl (fun hc => ?_) (fun hc => ?_)) | (refine g_ndec_t rfl rfl (fun hc => ?_) (fun hc => ?_)) | (refine g_split rfl rfl (fun hc => ?_) (fun hc => ?_)) | (refine k_addI rfl rfl (by omega) (by omega) ?_) | (refine k_subI rfl rfl (by omega) (by omega) ?_) | (refine k_fieldAddr rfl ?_) | (refine k_eqlB rfl rfl ?_) | (refine k_neqB rfl rfl ?_) | (refine cw_cond_true rfl ?_) | (refine cw_cond_false rfl ?_) | (refine cw_cond_dec rfl (fun hc => ?_) (fun hc => ?_)) | (refine cw_cond_ndec rfl (fun hc => ?_) (fun hc => ?_)) | (refine cw_cond rfl (fun hc => ?_) (fun hc => ?_)) | (refine cw_block ?_) | (refine cw_exit ?_) | (refine then_exit ?_) | (refine in_exit ?_) | (refine in_exit_ne rfl ?_) | (refine in_normal ?_) | (refine cw_ret ?_) | (refine then_ret ?_) | (refine in_ret ?_) | (refine cw_skip ?_))
      have hli := hl7.each i (by omega)
      have hend := fun y => labAt_end O i y
      refine cw_draw (late := []) (plan := [(0, none), (1, none), (2, none), (3, none), (4, none), (5, none), (6, none), (7, none), (8, none), (9, none), (10, none), (11, none), (12, none), (13, none), (14, none), (15, none), (16, none), (17, none), (18, none), (19, none)]) (fun w' => Ex w4 w') mixed (by kernel_rfl) hE7.drew ?_
      have hE7d := hE7.drew
      by_cases hi0 : 0 < i
      · have hlp := hl7.each (i - 1) (by omega)
        have hlp0 := (hrange' _ (getD_mem (d := []) (show i - 1 < O.length by omega))).2.1
        have hhd' := hhd hi0
        have hlq := hl4.each (i - 1) (by omega)
        have hlr := hl4.each i (by omega)
        repeat' (first | (refine k_eqF rfl rfl (by omega) ?_) | (refine k_gtrT rfl rfl (by omega) ?_) | (refine k_indexN (j := i - 1) rfl (by show Value.int .i64 ((i : Int) - 1) = _; congr 1; omega) (hl4.sl.plain (by simp; omega)) (by omega) ?_) | (refine k_loadS rfl (fun _ h => hl4.sl.ext h) (by omega) ?_) | (refine k_indexN (j := 0) rfl rfl (hlq.1.plain (by rw [List.length_map]; omega)) (by rw [show (s4.getD (i - 1) { a := none, len := 0, cap := 0 }).len = (O.getD (i - 1) []).length from hlq.2]; exact hlp0) ?_) | (refine k_loadI rfl (fun _ h => hlq.1.ext h) hlp0 ?_) | (refine k_indexN (j := 0) rfl rfl (hlr.1.plain (by rw [List.length_map]; omega)) r2 ?_) | (refine k_loadI rfl (fun _ h => hlr.1.ext h) r2 ?_) | (refine k_geqF rfl rfl hhd' ?_) | (refine k_pure rfl ?_) | (refine then_normal ?_) | (refine cw_seq ?_) | (refine cw_region rfl ?_) | (refine rr_nil ?_) | (refine k_len rfl ?_) | (refine g_run rfl rfl ?_) | (refine g_skip rfl rfl ?_) | (refine g_dec_f rfl rfl (fun hc => ?_) (fun hc => ?_)) | (refine g_dec_t rfl rfl (fun hc => ?_) (fun hc => ?_)) | (refine g_ndec_f rfl rfl (fun hc => ?_) (fun hc => ?_)) | (refine g_ndec_t rfl rfl (fun hc => ?_) (fun hc => ?_)) | (refine g_split rfl rfl (fun hc => ?_) (fun hc => ?_)) | (refine k_addI rfl rfl (by omega) (by omega) ?_) | (refine k_subI rfl rfl (by omega) (by omega) ?_) | (refine k_fieldAddr rfl ?_) | (refine k_eqlB rfl rfl ?_) | (refine k_neqB rfl rfl ?_) | (refine cw_cond_true rfl ?_) | (refine cw_cond_false rfl ?_) | (refine cw_cond_dec rfl (fun hc => ?_) (fun hc => ?_)) | (refine cw_cond_ndec rfl (fun hc => ?_) (fun hc => ?_)) | (refine cw_cond rfl (fun hc => ?_) (fun hc => ?_)) | (refine cw_block ?_) | (refine cw_exit ?_) | (refine then_exit ?_) | (refine in_exit ?_) | (refine in_exit_ne rfl ?_) | (refine in_normal ?_) | (refine cw_ret ?_) | (refine then_ret ?_) | (refine in_ret ?_) | (refine cw_skip ?_))
        refine ⟨⟨(i + 1, ps), ⟨by simp only; omega, hE7d, hb7.drew, hpl, fun y hy => by rw [hlab7 y hy, hend]⟩, by simp only; omega, rfl, ?_, trivial⟩, (by (repeat (first | exact agree_mask _ _ _ | refine agree_upd rfl ?_ | refine agree_updO rfl ?_ | refine agree_overIn rfl ?_ | refine agree_maskIn rfl ?_)))⟩
        rfl
      · obtain rfl : i = 0 := by omega
        repeat' (first | (refine k_eqF rfl rfl (by omega) ?_) | (refine k_gtrF rfl rfl (by omega) ?_) | (refine k_pure rfl ?_) | (refine then_normal ?_) | (refine cw_seq ?_) | (refine cw_region rfl ?_) | (refine rr_nil ?_) | (refine k_len rfl ?_) | (refine g_run rfl rfl ?_) | (refine g_skip rfl rfl ?_) | (refine g_dec_f rfl rfl (fun hc => ?_) (fun hc => ?_)) | (refine g_dec_t rfl rfl (fun hc => ?_) (fun hc => ?_)) | (refine g_ndec_f rfl rfl (fun hc => ?_) (fun hc => ?_)) | (refine g_ndec_t rfl rfl (fun hc => ?_) (fun hc => ?_)) | (refine g_split rfl rfl (fun hc => ?_) (fun hc => ?_)) | (refine k_addI rfl rfl (by omega) (by omega) ?_) | (refine k_subI rfl rfl (by omega) (by omega) ?_) | (refine k_fieldAddr rfl ?_) | (refine k_eqlB rfl rfl ?_) | (refine k_neqB rfl rfl ?_) | (refine cw_cond_true rfl ?_) | (refine cw_cond_false rfl ?_) | (refine cw_cond_dec rfl (fun hc => ?_) (fun hc => ?_)) | (refine cw_cond_ndec rfl (fun hc => ?_) (fun hc => ?_)) | (refine cw_cond rfl (fun hc => ?_) (fun hc => ?_)) | (refine cw_block ?_) | (refine cw_exit ?_) | (refine then_exit ?_) | (refine in_exit ?_) | (refine in_exit_ne rfl ?_) | (refine in_normal ?_) | (refine cw_ret ?_) | (refine then_ret ?_) | (refine in_ret ?_) | (refine cw_skip ?_))
        refine ⟨⟨(0 + 1, ps), ⟨by simp only; omega, hE7d, hb7.drew, hpl, fun y hy => by rw [hlab7 y hy, hend]⟩, by simp only; omega, rfl, ?_, trivial⟩, (by (repeat (first | exact agree_mask _ _ _ | refine agree_upd rfl ?_ | refine agree_updO rfl ?_ | refine agree_overIn rfl ?_ | refine agree_maskIn rfl ?_)))⟩
        rfl
  · obtain rfl : i = O.length := by omega
    have hcnt : sumTo O O.length = n := by rw [sumTo_take O _ (Nat.le_refl _), List.take_length, hfl]
    have hLs4 := hLs.ext hE4
    clear hheads hdisj hq
    refine cw_loop (ι := Nat) [2, 14, 15, 102, 103, 104, 105, 106, 107, 108, 109, 110, 111, 112, 113, 114, 115, 116, 117, 118, 119, 120, 121, 122, 123, 124] (fun j => [(102, .int .i64 (j : Int))]) (fun j w' => j ≤ xss.length ∧ Ex w4 w' ∧ Blk w' g5 3 (intsL os)) (fun j => xss.length - j) 0 ⟨rfl, trivial⟩ ⟨by simp, hE6, hb6⟩ ?_
    rintro j ξ3 w8 ⟨hj, hE8, hb8⟩
    repeat' (first | (refine k_eqT rfl rfl (by omega) ?_) | (refine k_indexN rfl rfl (hLs4.sl.plain (by simp; omega)) (by omega) ?_) | (refine k_loadS rfl (hLs4.sl.ext hE8) (by omega) ?_) | (refine k_pure rfl ?_) | (refine then_normal ?_) | (refine cw_seq ?_) | (refine cw_region rfl ?_) | (refine rr_nil ?_) | (refine k_len rfl ?_) | (refine g_run rfl rfl ?_) | (refine g_skip rfl rfl ?_) | (refine g_dec_f rfl rfl (fun hc => ?_) (fun hc => ?_)) | (refine g_dec_t rfl rfl (fun hc => ?_) (fun hc => ?_)) | (refine g_ndec_f rfl rfl (fun hc => ?_) (fun hc => ?_)) | (refine g_ndec_t rfl rfl (fun hc => ?_) (fun hc => ?_)) | (refine g_split rfl rfl (fun hc => ?_) (fun hc => ?_)) | (refine k_addI rfl rfl (by omega) (by omega) ?_) | (refine k_subI rfl rfl (by omega) (by omega) ?_) | (refine k_fieldAddr rfl ?_) | (refine k_eqlB rfl rfl ?_) | (refine k_neqB rfl rfl ?_) | (refine cw_cond_true rfl ?_) | (refine cw_cond_false rfl ?_) | (refine cw_cond_dec rfl (fun hc => ?_) (fun hc => ?_)) | (refine cw_cond_ndec rfl (fun hc => ?_) (fun hc => ?_)) | (refine cw_cond rfl (fun hc => ?_) (fun hc => ?_)) | (refine cw_block ?_) | (refine cw_exit ?_) | (refine then_exit ?_) | (refine in_exit ?_) | (refine in_exit_ne rfl ?_) | (refine in_normal ?_) | (refine cw_ret ?_) | (refine then_ret ?_) | (refine in_ret ?_) | (refine cw_skip ?_))
    · have hjl : j < xss.length := by omega
      obtain ⟨q1, q2⟩ := hLs4.each j hjl
      obtain ⟨p1, p2⟩ := hG.getD (j := j) hjl
      have hpm : xss.getD j [] ∈ xss := getD_mem hjl
      rw [q2]
      refine cw_loop (ι := Nat) [2, 15, 108, 109, 110, 111, 112, 113, 114, 115, 116, 117, 118, 119, 120, 121, 122, 123] (fun y => [(108, .int .i64 (y : Int))]) (fun y w' => y ≤ n ∧ Ex w4 w' ∧ Blk w' g5 3 (intsL os)) (fun y => n - y) 0 ⟨rfl, trivial⟩ ⟨by simp, hE8, hb8⟩ ?_
      rintro y ξ4 w9 ⟨hy, hE9, hb9⟩
      repeat' (first | (refine k_pure rfl ?_) | (refine then_normal ?_) | (refine cw_seq ?_) | (refine cw_region rfl ?_) | (refine rr_nil ?_) | (refine k_len rfl ?_) | (refine g_run rfl rfl ?_) | (refine g_skip rfl rfl ?_) | (refine g_dec_f rfl rfl (fun hc => ?_) (fun hc => ?_)) | (refine g_dec_t rfl rfl (fun hc => ?_) (fun hc => ?_)) | (refine g_ndec_f rfl rfl (fun hc => ?_) (fun hc => ?_)) | (refine g_ndec_t rfl rfl (fun hc => ?_) (fun hc => ?_)) | (refine g_split rfl rfl (fun hc => ?_) (fun hc => ?_)) | (refine k_addI rfl rfl (by omega) (by omega) ?_) | (refine k_subI rfl rfl (by omega) (by omega) ?_) | (refine k_fieldAddr rfl ?_) | (refine k_eqlB rfl rfl ?_) | (refine k_neqB rfl rfl ?_) | (refine cw_cond_true rfl ?_) | (refine cw_cond_false rfl ?_) | (refine cw_cond_dec rfl (fun hc => ?_) (fun hc => ?_)) | (refine cw_cond_ndec rfl (fun hc => ?_) (fun hc => ?_)) | (refine cw_cond rfl (fun hc => ?_) (fun hc => ?_)) | (refine cw_block ?_) | (refine cw_exit ?_) | (refine then_exit ?_) | (refine in_exit ?_) | (refine in_exit_ne rfl ?_) | (refine in_normal ?_) | (refine cw_ret ?_) | (refine then_ret ?_) | (refine in_ret ?_) | (refine cw_skip ?_))
      · have hyl : y < n := by omega
        have hpy := p2.lt (k := y) (by omega)
        have hgo : os.getD y 0 = os.getD ((xss.getD j []).getD y 0).toNat 0 := by
          rw [hlab y hyl, hlab _ (by omega), Int.toNat_of_nonneg hpy.1]
          refine labTo_congr _ (fun k hk => ?_)
          have := hclosed (O.getD k []) (xss.getD j []) y (getD_mem hk) hpm (by omega)
          unfold ap at this
          simpa using this
        refine cw_draw (late := []) (plan := [(0, none), (1, none), (2, none), (3, none), (4, none), (5, none), (6, none), (7, none), (8, none), (9, none), (10, none), (11, none)]) (fun w' => Ex w4 w' ∧ Blk w' g5 3 (intsL os)) mixed (by kernel_rfl) ⟨hE9.drew, hb9.drew⟩ ?_
        have hE9d := hE9.drew
        repeat' (first | (refine k_indexN (j := y) rfl rfl (q1.plain (by rw [List.length_map]; omega)) (by omega) ?_) | (refine k_loadI rfl (fun _ h => q1.ext h.1) (by omega) ?_) | (refine k_indexN (j := y) rfl rfl ⟨_, _, rfl⟩ (by omega) ?_) | (refine k_index1 rfl rfl ⟨_, _, rfl⟩ (by omega) (by omega) ?_) | (refine k_loadI rfl (fun _ h => h.2.sl) (by omega) ?_) | (refine k_neF rfl rfl hgo ?_) | (refine k_pure rfl ?_) | (refine then_normal ?_) | (refine cw_seq ?_) | (refine cw_region rfl ?_) | (refine rr_nil ?_) | (refine k_len rfl ?_) | (refine g_run rfl rfl ?_) | (refine g_skip rfl rfl ?_) | (refine g_dec_f rfl rfl (fun hc => ?_) (fun hc => ?_)) | (refine g_dec_t rfl rfl (fun hc => ?_) (fun hc => ?_)) | (refine g_ndec_f rfl rfl (fun hc => ?_) (fun hc => ?_)) | (refine g_ndec_t rfl rfl (fun hc => ?_) (fun hc => ?_)) | (refine g_split rfl rfl (fun hc => ?_) (fun hc => ?_)) | (refine k_addI rfl rfl (by omega) (by omega) ?_) | (refine k_subI rfl rfl (by omega) (by omega) ?_) | (refine k_fieldAddr rfl ?_) | (refine k_eqlB rfl rfl ?_) | (refine k_neqB rfl rfl ?_) | (refine cw_cond_true rfl ?_) | (refine cw_cond_false rfl ?_) | (refine cw_cond_dec rfl (fun hc => ?_) (fun hc => ?_)) | (refine cw_cond_ndec rfl (fun hc => ?_) (fun hc => ?_)) | (refine cw_cond rfl (fun hc => ?_) (fun hc => ?_)) | (refine cw_block ?_) | (refine cw_exit ?_) | (refine then_exit ?_) | (refine in_exit ?_) | (refine in_exit_ne rfl ?_) | (refine in_normal ?_) | (refine cw_ret ?_) | (refine then_ret ?_) | (refine in_ret ?_) | (refine cw_skip ?_))
        exact ⟨⟨y + 1, ⟨by omega, hE9d, hb9.drew⟩, by omega, rfl, trivial⟩, (by (repeat (first | exact agree_mask _ _ _ | refine agree_upd rfl ?_ | refine agree_updO rfl ?_ | refine agree_overIn rfl ?_ | refine agree_maskIn rfl ?_)))⟩
      · exact ⟨⟨j + 1, ⟨by omega, hE9, hb9⟩, by omega, rfl, trivial⟩, (by (repeat (first | exact agree_mask _ _ _ | refine agree_upd rfl ?_ | refine agree_updO rfl ?_ | refine agree_overIn rfl ?_ | refine agree_maskIn rfl ?_)))⟩
    · have hE48 := (hE03.trans hE4).trans hE8
      refine k_call (awake_spec _) rfl ?_
      rintro v w9 ⟨rfl, hE9⟩
      refine ⟨fun _ _ => trivial, ?_⟩
      repeat' (first | (refine k_eqlT rfl rfl ?_) | (refine k_neqF rfl rfl ?_) | (refine k_pure rfl ?_) | (refine then_normal ?_) | (refine cw_seq ?_) | (refine cw_region rfl ?_) | (refine rr_nil ?_) | (refine k_len rfl ?_) | (refine g_run rfl rfl ?_) | (refine g_skip rfl rfl ?_) | (refine g_dec_f rfl rfl (fun hc => ?_) (fun hc => ?_)) | (refine g_dec_t rfl rfl (fun hc => ?_) (fun hc => ?_)) | (refine g_ndec_f rfl rfl (fun hc => ?_) (fun hc => ?_)) | (refine g_ndec_t rfl rfl (fun hc => ?_) (fun hc => ?_)) | (refine g_split rfl rfl (fun hc => ?_) (fun hc => ?_)) | (refine k_addI rfl rfl (by omega) (by omega) ?_) | (refine k_subI rfl rfl (by omega) (by omega) ?_) | (refine k_fieldAddr rfl ?_) | (refine k_eqlB rfl rfl ?_) | (refine k_neqB rfl rfl ?_) | (refine cw_cond_true rfl ?_) | (refine cw_cond_false rfl ?_) | (refine cw_cond_dec rfl (fun hc => ?_) (fun hc => ?_)) | (refine cw_cond_ndec rfl (fun hc => ?_) (fun hc => ?_)) | (refine cw_cond rfl (fun hc => ?_) (fun hc => ?_)) | (refine cw_block ?_) | (refine cw_exit ?_) | (refine then_exit ?_) | (refine in_exit ?_) | (refine in_exit_ne rfl ?_) | (refine in_normal ?_) | (refine cw_ret ?_) | (refine then_ret ?_) | (refine in_ret ?_) | (refine cw_skip ?_))
      exact ret1 rfl (rt rfl) ⟨rfl, hE48.trans hE9⟩
end Go.Proofs.Ytmedmmginnfjgaa
