import Derived.Test.YtmedmmginnfjgaaS
namespace Go.Proofs.Ytmedmmginnfjgaa
open Go.W Go.LM

theorem mul_spec {lo lo' k l : Nat} {v1 v2 : Value} {x y : Int} {w : World} (h1 : IntC lo w v1 x) (h2 : IntC lo' w v2 y) (hx : x.natAbs < 4294967296 ^ k) (hy : y.natAbs < 4294967296 ^ l) (hkl : k + l ≤ 17592186044416) :
    CallsR Try.prog 53 #[v1, v2] w (RetZ w (x * y)) := by
  obtain ⟨n1, a1, c1, l1, rfl, hL1, rfl, hc1, _, _⟩ := h1
  obtain ⟨n2, a2, c2, l2, rfl, hL2, rfl, hc2, _, _⟩ := h2
  rw [sgn_natAbs] at hx hy
  refine callsR_of (args := [_, _]) Try.func53 rfl rfl ?_
  refine cw_seq ?_
  refine cw_region rfl ?_
  refine k_boxA rfl (fun g2 w2 hn2 => ⟨fun _ _ => trivial, ?_⟩)
  refine k_boxA rfl (fun g3 w3 hn3 => ⟨fun _ _ => trivial, ?_⟩)
  refine k_alloc (fun g4 w4 hn4 => ⟨fun _ _ => trivial, ?_⟩)
  have hb2 := (hn2.blk.ext hn3.ex).ext hn4.ex
  have hb3 := hn3.blk.ext hn4.ex
  have hb4 : Blk w4 g4 34 (intL false none 0 0) := hn4.blk
  have hE := (hn2.ex.trans hn3.ex).trans hn4.ex
  have l4 := hn4.lo
  have l4' := hn4.hi
  have s3 := (hn2.ex.trans hn3.ex).size
  repeat' (first | (refine k_pure rfl ?_) | (refine then_normal ?_) | (refine cw_seq ?_) | (refine cw_region rfl ?_) | (refine rr_nil ?_) | (refine k_len rfl ?_) | (refine g_run rfl rfl ?_) | (refine g_skip rfl rfl ?_) | (refine g_dec_f rfl rfl (fun hc => ?_) (fun hc => ?_)) | (refine g_dec_t rfl rfl (fun hc => ?_) (fun hc => ?_)) | (refine g_ndec_f rfl rfl (fun hc => ?_) (fun hc => ?_)) | (refine g_ndec_t rfl rfl (fun hc => ?_) (fun hc => ?_)) | (refine g_split rfl rfl (fun hc => ?_) (fun hc => ?_)) | (refine k_addI rfl rfl (by omega) (by omega) ?_) | (refine k_subI rfl rfl (by omega) (by omega) ?_) | (refine k_fieldAddr rfl ?_) | (refine k_eqlB rfl rfl ?_) | (refine k_neqB rfl rfl ?_) | (refine cw_cond_true rfl ?_) | (refine cw_cond_false rfl ?_) | (refine cw_cond_dec rfl (fun hc => ?_) (fun hc => ?_)) | (refine cw_cond_ndec rfl (fun hc => ?_) (fun hc => ?_)) | (refine cw_cond rfl (fun hc => ?_) (fun hc => ?_)) | (refine cw_block ?_) | (refine cw_exit ?_) | (refine then_exit ?_) | (refine in_exit ?_) | (refine in_exit_ne rfl ?_) | (refine in_normal ?_) | (refine cw_ret ?_) | (refine then_ret ?_) | (refine in_ret ?_) | (refine cw_skip ?_))
  refine cw_draw (late := [13]) (plan := [(0, none), (1, none), (2, none), (3, none), (4, none), (5, none), (6, none), (8, none), (9, none), (7, some true), (10, some true), (11, some true), (12, some true), (13, some false)]) (fun w' => Blk w' g2 34 (intL n1 a1 l1.length c1) ∧ Blk w' g3 34 (intL n2 a2 l2.length c2)) mixed (by kernel_rfl) ⟨hb2.drew, hb3.drew⟩ ?_
  repeat' (first | (refine k_loadC rfl (fun _ h => h.1) rfl ?_) | (refine k_loadC rfl (fun _ h => h.2) rfl ?_) | (refine k_pure rfl ?_) | (refine then_normal ?_) | (refine cw_seq ?_) | (refine cw_region rfl ?_) | (refine rr_nil ?_) | (refine k_len rfl ?_) | (refine g_run rfl rfl ?_) | (refine g_skip rfl rfl ?_) | (refine g_dec_f rfl rfl (fun hc => ?_) (fun hc => ?_)) | (refine g_dec_t rfl rfl (fun hc => ?_) (fun hc => ?_)) | (refine g_ndec_f rfl rfl (fun hc => ?_) (fun hc => ?_)) | (refine g_ndec_t rfl rfl (fun hc => ?_) (fun hc => ?_)) | (refine g_split rfl rfl (fun hc => ?_) (fun hc => ?_)) | (refine k_addI rfl rfl (by omega) (by omega) ?_) | (refine k_subI rfl rfl (by omega) (by omega) ?_) | (refine k_fieldAddr rfl ?_) | (refine k_eqlB rfl rfl ?_) | (refine k_neqB rfl rfl ?_) | (refine cw_cond_true rfl ?_) | (refine cw_cond_false rfl ?_) | (refine cw_cond_dec rfl (fun hc => ?_) (fun hc => ?_)) | (refine cw_cond_ndec rfl (fun hc => ?_) (fun hc => ?_)) | (refine cw_cond rfl (fun hc => ?_) (fun hc => ?_)) | (refine cw_block ?_) | (refine cw_exit ?_) | (refine then_exit ?_) | (refine in_exit ?_) | (refine in_exit_ne rfl ?_) | (refine in_normal ?_) | (refine cw_ret ?_) | (refine then_ret ?_) | (refine in_ret ?_) | (refine cw_skip ?_))
  refine k_call ((hL1.ext hE.drew).trim_eq hc1) rfl ?_
  rintro v w5 ⟨rfl, hE5⟩
  refine ⟨fun _ h => ⟨h.1.ext hE5, h.2.ext hE5⟩, ?_⟩
  refine k_call ((hL2.ext (hE.drew.trans hE5)).trim_eq hc2) rfl ?_
  rintro v w6 ⟨rfl, hE6⟩
  refine ⟨fun _ h => ⟨h.1.ext hE6, h.2.ext hE6⟩, ?_⟩
  have hE6' := (hE.drew.trans hE5).trans hE6
  have hk1 := canon_len hc1 hx
  have hk2 := canon_len hc2 hy
  refine k_call (mulNat_spec (hL1.ext hE6') (hL2.ext hE6') (by omega)) rfl ?_
  rintro v w7 ⟨l7, hn7, hcn7, hln7, a7, c7, rfl, hL7, hf7, hE7⟩
  refine ⟨fun _ h => ⟨h.1.ext hE7, h.2.ext hE7⟩, ?_⟩
  refine k_call (build_spec hL7 hcn7 hf7 _) rfl ?_
  rintro v w8 ⟨hI, hE8⟩
  refine ⟨fun _ h => ⟨h.1.ext hE8, h.2.ext hE8⟩, ?_⟩
  obtain ⟨neg, a', c', ls, rfl, hI'⟩ := id hI
  refine k_storeV (n := 2) rfl rfl rfl rfl ((((hb4.drew.ext hE5).ext hE6).ext hE7).ext hE8) rfl (fun w9 hc9 hb9 => ⟨fun h => absurd h (by decide), ?_⟩)
  repeat' (first | (refine k_pure rfl ?_) | (refine then_normal ?_) | (refine cw_seq ?_) | (refine cw_region rfl ?_) | (refine rr_nil ?_) | (refine k_len rfl ?_) | (refine g_run rfl rfl ?_) | (refine g_skip rfl rfl ?_) | (refine g_dec_f rfl rfl (fun hc => ?_) (fun hc => ?_)) | (refine g_dec_t rfl rfl (fun hc => ?_) (fun hc => ?_)) | (refine g_ndec_f rfl rfl (fun hc => ?_) (fun hc => ?_)) | (refine g_ndec_t rfl rfl (fun hc => ?_) (fun hc => ?_)) | (refine g_split rfl rfl (fun hc => ?_) (fun hc => ?_)) | (refine k_addI rfl rfl (by omega) (by omega) ?_) | (refine k_subI rfl rfl (by omega) (by omega) ?_) | (refine k_fieldAddr rfl ?_) | (refine k_eqlB rfl rfl ?_) | (refine k_neqB rfl rfl ?_) | (refine cw_cond_true rfl ?_) | (refine cw_cond_false rfl ?_) | (refine cw_cond_dec rfl (fun hc => ?_) (fun hc => ?_)) | (refine cw_cond_ndec rfl (fun hc => ?_) (fun hc => ?_)) | (refine cw_cond rfl (fun hc => ?_) (fun hc => ?_)) | (refine cw_block ?_) | (refine cw_exit ?_) | (refine then_exit ?_) | (refine in_exit ?_) | (refine in_exit_ne rfl ?_) | (refine in_normal ?_) | (refine cw_ret ?_) | (refine then_ret ?_) | (refine in_ret ?_) | (refine cw_skip ?_))
  have s5 := (hE5.trans hE6).size
  have s4 : w4.drew.heap.size = w4.heap.size := rfl
  refine ret1 rfl (rc rfl rfl hb9) ⟨?_, ((hE6'.trans hE7).trans hE8).chg hc9 (by omega)⟩
  have hr := (hI.chg hc9 (by omega)).mono (lo' := w.heap.size) (by have := hE6'.size; omega)
  rw [hn7] at hr
  have e : sgn (!(n1 == n2)) (natOf l1 * natOf l2) = sgn n1 (natOf l1) * sgn n2 (natOf l2) := by
    unfold sgn; cases n1 <;> cases n2 <;> simp [Int.neg_mul, Int.mul_neg]
  rwa [e] at hr

end Go.Proofs.Ytmedmmginnfjgaa
