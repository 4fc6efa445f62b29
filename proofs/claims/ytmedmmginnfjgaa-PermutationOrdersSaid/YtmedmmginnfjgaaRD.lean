import Derived.Test.YtmedmmginnfjgaaRC
import Derived.Test.YtmedmmginnfjgaaY
import Derived.Test.YtmedmmginnfjgaaCore2
namespace Go.Proofs.Ytmedmmginnfjgaa
open Go.W Go.LM Go.PM

theorem refQuo_small {lo lo' : Nat} {v1 v2 : Value} {x y : Nat} {w : World} (h1 : IntC lo w v1 x) (h2 : IntC lo' w v2 y) (hx : x < 18446744073709551616) (hy : 0 < y) (hy2 : y < 18446744073709551616) :
    CallsR Try.prog 55 #[v1, v2] w (RetZ w ((x / y : Nat) : Int)) := by
  obtain ⟨cs1, rfl, hl1, ho1⟩ := h1.out
  obtain ⟨cs2, rfl, hl2, ho2⟩ := h2.out
  refine callsR_of (args := [_, _]) Try.func55 rfl rfl ?_
  refine cw_seq ?_
  refine cw_region rfl ?_
  refine k_boxA rfl (fun g2 w2 hn2 => ⟨fun _ _ => trivial, ?_⟩)
  refine k_boxA rfl (fun g3 w3 hn3 => ⟨fun _ _ => trivial, ?_⟩)
  refine k_alloc (fun g4 w4 hn4 => ⟨fun _ _ => trivial, ?_⟩)
  have hb2 := (hn2.blk.ext hn3.ex).ext hn4.ex
  have hb3 := hn3.blk.ext hn4.ex
  have hb4 : Blk w4 g4 34 (intL false none 0 0) := hn4.blk
  have hE := (hn2.ex.trans hn3.ex).trans hn4.ex
  have l4 := hn4.lo
  have l4' := hn4.hi
  have s3 := (hn2.ex.trans hn3.ex).size
  repeat' (first | (refine k_loadCA rfl hb2 hl1 ?_) | (refine k_loadCA rfl hb3 hl2 ?_) | (refine k_pure rfl ?_) | (refine then_normal ?_) | (refine cw_seq ?_) | (refine cw_region rfl ?_) | (refine rr_nil ?_) | (refine k_len rfl ?_) | (refine g_run rfl rfl ?_) | (refine g_skip rfl rfl ?_) | (refine g_dec_f rfl rfl (fun hc => ?_) (fun hc => ?_)) | (refine g_dec_t rfl rfl (fun hc => ?_) (fun hc => ?_)) | (refine g_ndec_f rfl rfl (fun hc => ?_) (fun hc => ?_)) | (refine g_ndec_t rfl rfl (fun hc => ?_) (fun hc => ?_)) | (refine g_split rfl rfl (fun hc => ?_) (fun hc => ?_)) | (refine k_addI rfl rfl (by omega) (by omega) ?_) | (refine k_subI rfl rfl (by omega) (by omega) ?_) | (refine k_fieldAddr rfl ?_) | (refine k_eqlB rfl rfl ?_) | (refine k_neqB rfl rfl ?_) | (refine cw_cond_true rfl ?_) | (refine cw_cond_false rfl ?_) | (refine cw_cond_dec rfl (fun hc => ?_) (fun hc => ?_)) | (refine cw_cond_ndec rfl (fun hc => ?_) (fun hc => ?_)) | (refine cw_cond rfl (fun hc => ?_) (fun hc => ?_)) | (refine cw_block ?_) | (refine cw_exit ?_) | (refine then_exit ?_) | (refine in_exit ?_) | (refine in_exit_ne rfl ?_) | (refine in_normal ?_) | (refine cw_ret ?_) | (refine then_ret ?_) | (refine in_ret ?_) | (refine cw_skip ?_))
  refine k_call (refDivMod_small (h1.ext hE) (h2.ext hE) hx hy hy2) rfl ?_
  rintro v w5 ⟨q, r, rfl, hq, hr, hE5⟩
  refine ⟨fun _ _ => trivial, ?_⟩
  obtain ⟨qs, rfl, hql, hqo⟩ := hq.out
  obtain ⟨rs, rfl, hrl, hro⟩ := hr.out
  repeat' (first | (refine k_pure rfl ?_) | (refine then_normal ?_) | (refine cw_seq ?_) | (refine cw_region rfl ?_) | (refine rr_nil ?_) | (refine k_len rfl ?_) | (refine g_run rfl rfl ?_) | (refine g_skip rfl rfl ?_) | (refine g_dec_f rfl rfl (fun hc => ?_) (fun hc => ?_)) | (refine g_dec_t rfl rfl (fun hc => ?_) (fun hc => ?_)) | (refine g_ndec_f rfl rfl (fun hc => ?_) (fun hc => ?_)) | (refine g_ndec_t rfl rfl (fun hc => ?_) (fun hc => ?_)) | (refine g_split rfl rfl (fun hc => ?_) (fun hc => ?_)) | (refine k_addI rfl rfl (by omega) (by omega) ?_) | (refine k_subI rfl rfl (by omega) (by omega) ?_) | (refine k_fieldAddr rfl ?_) | (refine k_eqlB rfl rfl ?_) | (refine k_neqB rfl rfl ?_) | (refine cw_cond_true rfl ?_) | (refine cw_cond_false rfl ?_) | (refine cw_cond_dec rfl (fun hc => ?_) (fun hc => ?_)) | (refine cw_cond_ndec rfl (fun hc => ?_) (fun hc => ?_)) | (refine cw_cond rfl (fun hc => ?_) (fun hc => ?_)) | (refine cw_block ?_) | (refine cw_exit ?_) | (refine then_exit ?_) | (refine in_exit ?_) | (refine in_exit_ne rfl ?_) | (refine in_normal ?_) | (refine cw_ret ?_) | (refine then_ret ?_) | (refine in_ret ?_) | (refine cw_skip ?_))
  refine k_alloc (fun g6 w6 hn6 => ⟨fun _ _ => trivial, ?_⟩)
  refine k_alloc (fun g7 w7 hn7 => ⟨fun _ _ => trivial, ?_⟩)
  have l6 := hn6.lo
  have l6' := hn6.hi
  have l7 := hn7.lo
  have l7' := hn7.hi
  have s5 := hE5.size
  refine k_storeV (n := 2) rfl rfl hql hqo (hn6.blk.ext hn7.ex) rfl (fun w8 hc8 hb8 => ⟨fun _ _ => trivial, ?_⟩)
  refine k_storeV (n := 2) rfl rfl hrl hro (hn7.blk.chg hc8 (by omega)) rfl (fun w9 hc9 hb9 => ⟨fun _ _ => trivial, ?_⟩)
  have hb89 := hb8.chg hc9 (by omega)
  have hb47 := (((hb4.ext hE5).ext hn6.ex).ext hn7.ex)
  have hE9 : Ex w5 w9 := ((hn6.ex.trans hn7.ex).chg hc8 (by omega)).chg hc9 (by omega)
  have hq9 := (((hq.ext hn6.ex).ext hn7.ex).chgO hc8 (hq.off_hi l6)).chgO hc9 (hq.off_hi (by omega))
  repeat' (first | (refine k_loadCA rfl hb89 hql ?_) | (refine k_pure rfl ?_) | (refine then_normal ?_) | (refine cw_seq ?_) | (refine cw_region rfl ?_) | (refine rr_nil ?_) | (refine k_len rfl ?_) | (refine g_run rfl rfl ?_) | (refine g_skip rfl rfl ?_) | (refine g_dec_f rfl rfl (fun hc => ?_) (fun hc => ?_)) | (refine g_dec_t rfl rfl (fun hc => ?_) (fun hc => ?_)) | (refine g_ndec_f rfl rfl (fun hc => ?_) (fun hc => ?_)) | (refine g_ndec_t rfl rfl (fun hc => ?_) (fun hc => ?_)) | (refine g_split rfl rfl (fun hc => ?_) (fun hc => ?_)) | (refine k_addI rfl rfl (by omega) (by omega) ?_) | (refine k_subI rfl rfl (by omega) (by omega) ?_) | (refine k_fieldAddr rfl ?_) | (refine k_eqlB rfl rfl ?_) | (refine k_neqB rfl rfl ?_) | (refine cw_cond_true rfl ?_) | (refine cw_cond_false rfl ?_) | (refine cw_cond_dec rfl (fun hc => ?_) (fun hc => ?_)) | (refine cw_cond_ndec rfl (fun hc => ?_) (fun hc => ?_)) | (refine cw_cond rfl (fun hc => ?_) (fun hc => ?_)) | (refine cw_block ?_) | (refine cw_exit ?_) | (refine then_exit ?_) | (refine in_exit ?_) | (refine in_exit_ne rfl ?_) | (refine in_normal ?_) | (refine cw_ret ?_) | (refine then_ret ?_) | (refine in_ret ?_) | (refine cw_skip ?_))
  refine k_storeV (n := 2) rfl rfl hql hqo ((hb47.chg hc8 (by omega)).chg hc9 (by omega)) rfl (fun w10 hc10 hb10 => ⟨fun _ _ => trivial, ?_⟩)
  repeat' (first | (refine k_pure rfl ?_) | (refine then_normal ?_) | (refine cw_seq ?_) | (refine cw_region rfl ?_) | (refine rr_nil ?_) | (refine k_len rfl ?_) | (refine g_run rfl rfl ?_) | (refine g_skip rfl rfl ?_) | (refine g_dec_f rfl rfl (fun hc => ?_) (fun hc => ?_)) | (refine g_dec_t rfl rfl (fun hc => ?_) (fun hc => ?_)) | (refine g_ndec_f rfl rfl (fun hc => ?_) (fun hc => ?_)) | (refine g_ndec_t rfl rfl (fun hc => ?_) (fun hc => ?_)) | (refine g_split rfl rfl (fun hc => ?_) (fun hc => ?_)) | (refine k_addI rfl rfl (by omega) (by omega) ?_) | (refine k_subI rfl rfl (by omega) (by omega) ?_) | (refine k_fieldAddr rfl ?_) | (refine k_eqlB rfl rfl ?_) | (refine k_neqB rfl rfl ?_) | (refine cw_cond_true rfl ?_) | (refine cw_cond_false rfl ?_) | (refine cw_cond_dec rfl (fun hc => ?_) (fun hc => ?_)) | (refine cw_cond_ndec rfl (fun hc => ?_) (fun hc => ?_)) | (refine cw_cond rfl (fun hc => ?_) (fun hc => ?_)) | (refine cw_block ?_) | (refine cw_exit ?_) | (refine then_exit ?_) | (refine in_exit ?_) | (refine in_exit_ne rfl ?_) | (refine in_normal ?_) | (refine cw_ret ?_) | (refine then_ret ?_) | (refine in_ret ?_) | (refine cw_skip ?_))
  exact ret1 rfl (rc rfl hql hb10) ⟨(hq9.chgO hc10 (hq.off_lo (by omega))).mono hE.size, ((hE.trans hE5).trans hE9).chg hc10 (by omega)⟩

theorem refRem_small {lo lo' : Nat} {v1 v2 : Value} {x y : Nat} {w : World} (h1 : IntC lo w v1 x) (h2 : IntC lo' w v2 y) (hx : x < 18446744073709551616) (hy : 0 < y) (hy2 : y < 18446744073709551616) :
    CallsR Try.prog 84 #[v1, v2] w (RetZ w ((x % y : Nat) : Int)) := by
  obtain ⟨cs1, rfl, hl1, ho1⟩ := h1.out
  obtain ⟨cs2, rfl, hl2, ho2⟩ := h2.out
  refine callsR_of (args := [_, _]) Try.func84 rfl rfl ?_
  refine cw_seq ?_
  refine cw_region rfl ?_
  refine k_boxA rfl (fun g2 w2 hn2 => ⟨fun _ _ => trivial, ?_⟩)
  refine k_boxA rfl (fun g3 w3 hn3 => ⟨fun _ _ => trivial, ?_⟩)
  refine k_alloc (fun g4 w4 hn4 => ⟨fun _ _ => trivial, ?_⟩)
  have hb2 := (hn2.blk.ext hn3.ex).ext hn4.ex
  have hb3 := hn3.blk.ext hn4.ex
  have hb4 : Blk w4 g4 34 (intL false none 0 0) := hn4.blk
  have hE := (hn2.ex.trans hn3.ex).trans hn4.ex
  have l4 := hn4.lo
  have l4' := hn4.hi
  have s3 := (hn2.ex.trans hn3.ex).size
  repeat' (first | (refine k_loadCA rfl hb2 hl1 ?_) | (refine k_loadCA rfl hb3 hl2 ?_) | (refine k_pure rfl ?_) | (refine then_normal ?_) | (refine cw_seq ?_) | (refine cw_region rfl ?_) | (refine rr_nil ?_) | (refine k_len rfl ?_) | (refine g_run rfl rfl ?_) | (refine g_skip rfl rfl ?_) | (refine g_dec_f rfl rfl (fun hc => ?_) (fun hc => ?_)) | (refine g_dec_t rfl rfl (fun hc => ?_) (fun hc => ?_)) | (refine g_ndec_f rfl rfl (fun hc => ?_) (fun hc => ?_)) | (refine g_ndec_t rfl rfl (fun hc => ?_) (fun hc => ?_)) | (refine g_split rfl rfl (fun hc => ?_) (fun hc => ?_)) | (refine k_addI rfl rfl (by omega) (by omega) ?_) | (refine k_subI rfl rfl (by omega) (by omega) ?_) | (refine k_fieldAddr rfl ?_) | (refine k_eqlB rfl rfl ?_) | (refine k_neqB rfl rfl ?_) | (refine cw_cond_true rfl ?_) | (refine cw_cond_false rfl ?_) | (refine cw_cond_dec rfl (fun hc => ?_) (fun hc => ?_)) | (refine cw_cond_ndec rfl (fun hc => ?_) (fun hc => ?_)) | (refine cw_cond rfl (fun hc => ?_) (fun hc => ?_)) | (refine cw_block ?_) | (refine cw_exit ?_) | (refine then_exit ?_) | (refine in_exit ?_) | (refine in_exit_ne rfl ?_) | (refine in_normal ?_) | (refine cw_ret ?_) | (refine then_ret ?_) | (refine in_ret ?_) | (refine cw_skip ?_))
  refine k_call (refDivMod_small (h1.ext hE) (h2.ext hE) hx hy hy2) rfl ?_
  rintro v w5 ⟨q, r, rfl, hq, hr, hE5⟩
  refine ⟨fun _ _ => trivial, ?_⟩
  obtain ⟨qs, rfl, hql, hqo⟩ := hq.out
  obtain ⟨rs, rfl, hrl, hro⟩ := hr.out
  repeat' (first | (refine k_pure rfl ?_) | (refine then_normal ?_) | (refine cw_seq ?_) | (refine cw_region rfl ?_) | (refine rr_nil ?_) | (refine k_len rfl ?_) | (refine g_run rfl rfl ?_) | (refine g_skip rfl rfl ?_) | (refine g_dec_f rfl rfl (fun hc => ?_) (fun hc => ?_)) | (refine g_dec_t rfl rfl (fun hc => ?_) (fun hc => ?_)) | (refine g_ndec_f rfl rfl (fun hc => ?_) (fun hc => ?_)) | (refine g_ndec_t rfl rfl (fun hc => ?_) (fun hc => ?_)) | (refine g_split rfl rfl (fun hc => ?_) (fun hc => ?_)) | (refine k_addI rfl rfl (by omega) (by omega) ?_) | (refine k_subI rfl rfl (by omega) (by omega) ?_) | (refine k_fieldAddr rfl ?_) | (refine k_eqlB rfl rfl ?_) | (refine k_neqB rfl rfl ?_) | (refine cw_cond_true rfl ?_) | (refine cw_cond_false rfl ?_) | (refine cw_cond_dec rfl (fun hc => ?_) (fun hc => ?_)) | (refine cw_cond_ndec rfl (fun hc => ?_) (fun hc => ?_)) | (refine cw_cond rfl (fun hc => ?_) (fun hc => ?_)) | (refine cw_block ?_) | (refine cw_exit ?_) | (refine then_exit ?_) | (refine in_exit ?_) | (refine in_exit_ne rfl ?_) | (refine in_normal ?_) | (refine cw_ret ?_) | (refine then_ret ?_) | (refine in_ret ?_) | (refine cw_skip ?_))
  refine k_alloc (fun g6 w6 hn6 => ⟨fun _ _ => trivial, ?_⟩)
  refine k_alloc (fun g7 w7 hn7 => ⟨fun _ _ => trivial, ?_⟩)
  have l6 := hn6.lo
  have l6' := hn6.hi
  have l7 := hn7.lo
  have l7' := hn7.hi
  have s5 := hE5.size
  refine k_storeV (n := 2) rfl rfl hql hqo (hn6.blk.ext hn7.ex) rfl (fun w8 hc8 hb8 => ⟨fun _ _ => trivial, ?_⟩)
  refine k_storeV (n := 2) rfl rfl hrl hro (hn7.blk.chg hc8 (by omega)) rfl (fun w9 hc9 hb9 => ⟨fun _ _ => trivial, ?_⟩)
  have hb47 := (((hb4.ext hE5).ext hn6.ex).ext hn7.ex)
  have hE9 : Ex w5 w9 := ((hn6.ex.trans hn7.ex).chg hc8 (by omega)).chg hc9 (by omega)
  have hr9 := (((hr.ext hn6.ex).ext hn7.ex).chgO hc8 (hr.off_hi l6)).chgO hc9 (hr.off_hi (by omega))
  repeat' (first | (refine k_loadCA rfl hb9 hrl ?_) | (refine k_pure rfl ?_) | (refine then_normal ?_) | (refine cw_seq ?_) | (refine cw_region rfl ?_) | (refine rr_nil ?_) | (refine k_len rfl ?_) | (refine g_run rfl rfl ?_) | (refine g_skip rfl rfl ?_) | (refine g_dec_f rfl rfl (fun hc => ?_) (fun hc => ?_)) | (refine g_dec_t rfl rfl (fun hc => ?_) (fun hc => ?_)) | (refine g_ndec_f rfl rfl (fun hc => ?_) (fun hc => ?_)) | (refine g_ndec_t rfl rfl (fun hc => ?_) (fun hc => ?_)) | (refine g_split rfl rfl (fun hc => ?_) (fun hc => ?_)) | (refine k_addI rfl rfl (by omega) (by omega) ?_) | (refine k_subI rfl rfl (by omega) (by omega) ?_) | (refine k_fieldAddr rfl ?_) | (refine k_eqlB rfl rfl ?_) | (refine k_neqB rfl rfl ?_) | (refine cw_cond_true rfl ?_) | (refine cw_cond_false rfl ?_) | (refine cw_cond_dec rfl (fun hc => ?_) (fun hc => ?_)) | (refine cw_cond_ndec rfl (fun hc => ?_) (fun hc => ?_)) | (refine cw_cond rfl (fun hc => ?_) (fun hc => ?_)) | (refine cw_block ?_) | (refine cw_exit ?_) | (refine then_exit ?_) | (refine in_exit ?_) | (refine in_exit_ne rfl ?_) | (refine in_normal ?_) | (refine cw_ret ?_) | (refine then_ret ?_) | (refine in_ret ?_) | (refine cw_skip ?_))
  refine k_storeV (n := 2) rfl rfl hrl hro ((hb47.chg hc8 (by omega)).chg hc9 (by omega)) rfl (fun w10 hc10 hb10 => ⟨fun _ _ => trivial, ?_⟩)
  repeat' (first | (refine k_pure rfl ?_) | (refine then_normal ?_) | (refine cw_seq ?_) | (refine cw_region rfl ?_) | (refine rr_nil ?_) | (refine k_len rfl ?_) | (refine g_run rfl rfl ?_) | (refine g_skip rfl rfl ?_) | (refine g_dec_f rfl rfl (fun hc => ?_) (fun hc => ?_)) | (refine g_dec_t rfl rfl (fun hc => ?_) (fun hc => ?_)) | (refine g_ndec_f rfl rfl (fun hc => ?_) (fun hc => ?_)) | (refine g_ndec_t rfl rfl (fun hc => ?_) (fun hc => ?_)) | (refine g_split rfl rfl (fun hc => ?_) (fun hc => ?_)) | (refine k_addI rfl rfl (by omega) (by omega) ?_) | (refine k_subI rfl rfl (by omega) (by omega) ?_) | (refine k_fieldAddr rfl ?_) | (refine k_eqlB rfl rfl ?_) | (refine k_neqB rfl rfl ?_) | (refine cw_cond_true rfl ?_) | (refine cw_cond_false rfl ?_) | (refine cw_cond_dec rfl (fun hc => ?_) (fun hc => ?_)) | (refine cw_cond_ndec rfl (fun hc => ?_) (fun hc => ?_)) | (refine cw_cond rfl (fun hc => ?_) (fun hc => ?_)) | (refine cw_block ?_) | (refine cw_exit ?_) | (refine then_exit ?_) | (refine in_exit ?_) | (refine in_exit_ne rfl ?_) | (refine in_normal ?_) | (refine cw_ret ?_) | (refine then_ret ?_) | (refine in_ret ?_) | (refine cw_skip ?_))
  exact ret1 rfl (rc rfl hrl hb10) ⟨(hr9.chgO hc10 (hr.off_lo (by omega))).mono hE.size, ((hE.trans hE5).trans hE9).chg hc10 (by omega)⟩

theorem refGcd_small {lo lo' : Nat} {v1 v2 : Value} {x y : Nat} {w : World} (h1 : IntC lo w v1 x) (h2 : IntC lo' w v2 y) (hx : x < 18446744073709551616) (hy : y < 18446744073709551616) :
    CallsR Try.prog 56 #[v1, v2] w (RetZ w ((Nat.gcd x y : Nat) : Int)) := by
  obtain ⟨cs1, rfl, hl1, ho1⟩ := h1.out
  obtain ⟨cs2, rfl, hl2, ho2⟩ := h2.out
  refine callsR_of (args := [_, _]) Try.func56 rfl rfl ?_
  refine cw_seq ?_
  refine cw_region rfl ?_
  refine k_boxA rfl (fun g2 w2 hn2 => ⟨fun _ _ => trivial, ?_⟩)
  refine k_boxA rfl (fun g3 w3 hn3 => ⟨fun _ _ => trivial, ?_⟩)
  refine k_alloc (fun g4 w4 hn4 => ⟨fun _ _ => trivial, ?_⟩)
  have hb2 := (hn2.blk.ext hn3.ex).ext hn4.ex
  have hb3 := hn3.blk.ext hn4.ex
  have hb4 : Blk w4 g4 34 (intL false none 0 0) := hn4.blk
  have hE := (hn2.ex.trans hn3.ex).trans hn4.ex
  have l4 := hn4.lo
  have l4' := hn4.hi
  have s3 := (hn2.ex.trans hn3.ex).size
  have hEx : Ex w4 w4.drew := (Ex.refl w4).drew
  have hi1 := h1.ext hE
  have hi2 := h2.ext hE
  repeat' (first | (refine k_pure rfl ?_) | (refine then_normal ?_) | (refine cw_seq ?_) | (refine cw_region rfl ?_) | (refine rr_nil ?_) | (refine k_len rfl ?_) | (refine g_run rfl rfl ?_) | (refine g_skip rfl rfl ?_) | (refine g_dec_f rfl rfl (fun hc => ?_) (fun hc => ?_)) | (refine g_dec_t rfl rfl (fun hc => ?_) (fun hc => ?_)) | (refine g_ndec_f rfl rfl (fun hc => ?_) (fun hc => ?_)) | (refine g_ndec_t rfl rfl (fun hc => ?_) (fun hc => ?_)) | (refine g_split rfl rfl (fun hc => ?_) (fun hc => ?_)) | (refine k_addI rfl rfl (by omega) (by omega) ?_) | (refine k_subI rfl rfl (by omega) (by omega) ?_) | (refine k_fieldAddr rfl ?_) | (refine k_eqlB rfl rfl ?_) | (refine k_neqB rfl rfl ?_) | (refine cw_cond_true rfl ?_) | (refine cw_cond_false rfl ?_) | (refine cw_cond_dec rfl (fun hc => ?_) (fun hc => ?_)) | (refine cw_cond_ndec rfl (fun hc => ?_) (fun hc => ?_)) | (refine cw_cond rfl (fun hc => ?_) (fun hc => ?_)) | (refine cw_block ?_) | (refine cw_exit ?_) | (refine then_exit ?_) | (refine in_exit ?_) | (refine in_exit_ne rfl ?_) | (refine in_normal ?_) | (refine cw_ret ?_) | (refine then_ret ?_) | (refine in_ret ?_) | (refine cw_skip ?_))
  refine cw_join (ι := Nat × Nat × List Value × List Value) [5, 6, 7, 8, 9, 10] (fun s => [(5, .pointer (some ⟨s.1, 0, none⟩)), (6, .pointer (some ⟨s.2.1, 0, none⟩))])
    (fun s w' => Ex w4 w' ∧ (w4.heap.size ≤ s.1 ∧ w4.heap.size ≤ s.2.1 ∧ s.1 ≠ s.2.1) ∧ Blk w' s.1 34 s.2.2.1 ∧ Blk w' s.2.1 34 s.2.2.2 ∧ s.2.2.1.length = 2 ∧ s.2.2.2.length = 2 ∧ s.2.2.1.all Value.oneCell' = true ∧ s.2.2.2.all Value.oneCell' = true ∧ IntC w4.heap.size w' (.agg s.2.2.1.toArray) (x : Int) ∧ IntC w4.heap.size w' (.agg s.2.2.2.toArray) (y : Int) ∧
      (Off s.1 (.agg s.2.2.1.toArray) ∧ Off s.1 (.agg s.2.2.2.toArray) ∧ Off s.2.1 (.agg s.2.2.1.toArray) ∧ Off s.2.1 (.agg s.2.2.2.toArray))) ?_ ?_
  refine cw_tree (fun w' => Ex w4 w') mixed hEx ?_
  refine rb_pre (fuel := 6) (by kernel_rfl) (by kernel_rfl) [0, 2] _ _ (by kernel_rfl) ?_
  repeat' (first | (refine k_loadCA rfl (fun _ h => hb2.ext h) hl1 ?_) | (refine k_loadCA rfl (fun _ h => hb3.ext h) hl2 ?_) | (refine k_pure rfl ?_) | (refine then_normal ?_) | (refine cw_seq ?_) | (refine cw_region rfl ?_) | (refine rr_nil ?_) | (refine k_len rfl ?_) | (refine g_run rfl rfl ?_) | (refine g_skip rfl rfl ?_) | (refine g_dec_f rfl rfl (fun hc => ?_) (fun hc => ?_)) | (refine g_dec_t rfl rfl (fun hc => ?_) (fun hc => ?_)) | (refine g_ndec_f rfl rfl (fun hc => ?_) (fun hc => ?_)) | (refine g_ndec_t rfl rfl (fun hc => ?_) (fun hc => ?_)) | (refine g_split rfl rfl (fun hc => ?_) (fun hc => ?_)) | (refine k_addI rfl rfl (by omega) (by omega) ?_) | (refine k_subI rfl rfl (by omega) (by omega) ?_) | (refine k_fieldAddr rfl ?_) | (refine k_eqlB rfl rfl ?_) | (refine k_neqB rfl rfl ?_) | (refine cw_cond_true rfl ?_) | (refine cw_cond_false rfl ?_) | (refine cw_cond_dec rfl (fun hc => ?_) (fun hc => ?_)) | (refine cw_cond_ndec rfl (fun hc => ?_) (fun hc => ?_)) | (refine cw_cond rfl (fun hc => ?_) (fun hc => ?_)) | (refine cw_block ?_) | (refine cw_exit ?_) | (refine then_exit ?_) | (refine in_exit ?_) | (refine in_exit_ne rfl ?_) | (refine in_normal ?_) | (refine cw_ret ?_) | (refine then_ret ?_) | (refine in_ret ?_) | (refine cw_skip ?_))
  refine rb_all (fuel := 5) (rs := [1, 4, 5]) (by kernel_rfl) (by kernel_rfl) rfl ?_
  simp only [List.forall_mem_cons, List.not_mem_nil, false_implies, implies_true, and_true]
  refine ⟨?_, ?_, ?_⟩
  · refine k_call (refAbs_spec (hi1.ext hEx)) rfl ?_
    rintro v6 w6' ⟨hz6, hE6'⟩
    refine ⟨fun _ h => h.trans hE6', ?_⟩
    simp only [Int.natAbs_natCast] at hz6
    obtain ⟨qs, rfl, hql, hqo⟩ := hz6.out
    try have off11q : Off g11 (.agg qs.toArray) := hz6.off_lo hb11.lt
    try have off12q : Off g12 (.agg qs.toArray) := hz6.off_lo hb12.lt
    replace hz6 := hz6.mono (lo' := w4.heap.size) hEx.size
    replace hEx := hEx.trans hE6'
    try replace hb11 := hb11.ext hE6'
    try replace hb12 := hb12.ext hE6'
    refine rr_nil ?_
    refine rb_all (fuel := 4) (rs := [3, 4, 5]) (by kernel_rfl) (by kernel_rfl) rfl ?_
    simp only [List.forall_mem_cons, List.not_mem_nil, false_implies, implies_true, and_true]
    refine ⟨?_, ?_, ?_⟩
    · refine k_call (refAbs_spec (hi2.ext hEx)) rfl ?_
      rintro v10 w10' ⟨hz10, hE10'⟩
      refine ⟨fun _ h => h.trans hE10', ?_⟩
      simp only [Int.natAbs_natCast] at hz10
      obtain ⟨rs, rfl, hrl, hro⟩ := hz10.out
      try have off11r : Off g11 (.agg rs.toArray) := hz10.off_lo hb11.lt
      try have off12r : Off g12 (.agg rs.toArray) := hz10.off_lo hb12.lt
      replace hz10 := hz10.mono (lo' := w4.heap.size) hEx.size
      replace hz6 := hz6.ext hE10'
      replace hEx := hEx.trans hE10'
      try replace hb11 := hb11.ext hE10'
      try replace hb12 := hb12.ext hE10'
      refine rr_nil ?_
      refine rb_all (fuel := 3) (rs := [4, 5]) (by kernel_rfl) (by kernel_rfl) rfl ?_
      simp only [List.forall_mem_cons, List.not_mem_nil, false_implies, implies_true, and_true]
      refine ⟨?_, ?_⟩
      · refine k_alloc (fun g11 w11 hn11 => ⟨fun _ h => h.trans hn11.ex, ?_⟩)
        try have off11q : Off g11 (.agg qs.toArray) := hz6.off_hi hn11.lo
        try have off11r : Off g11 (.agg rs.toArray) := hz10.off_hi hn11.lo
        try have hne : g11 ≠ g12 := (by have := hb12.lt; have := hn11.lo; omega)
        have lo11 : w4.heap.size ≤ g11 := Nat.le_trans hEx.size hn11.lo
        have hb11 := hn11.blk
        replace hEx := hEx.trans hn11.ex
        try replace hz6 := hz6.ext hn11.ex
        try replace hz10 := hz10.ext hn11.ex
        try replace hb12 := hb12.ext hn11.ex
        refine rr_nil ?_
        refine rb_all (fuel := 2) (rs := [5]) (by kernel_rfl) (by kernel_rfl) rfl ?_
        rw [List.forall_mem_singleton]
        refine k_alloc (fun g12 w12 hn12 => ⟨fun _ h => h.trans hn12.ex, ?_⟩)
        try have off12q : Off g12 (.agg qs.toArray) := hz6.off_hi hn12.lo
        try have off12r : Off g12 (.agg rs.toArray) := hz10.off_hi hn12.lo
        try have hne : g11 ≠ g12 := (by have := hb11.lt; have := hn12.lo; omega)
        have lo12 : w4.heap.size ≤ g12 := Nat.le_trans hEx.size hn12.lo
        have hb12 := hn12.blk
        replace hEx := hEx.trans hn12.ex
        try replace hz6 := hz6.ext hn12.ex
        try replace hz10 := hz10.ext hn12.ex
        try replace hb11 := hb11.ext hn12.ex
        refine rr_nil ?_
        refine rb_all (fuel := 1) (rs := [6]) (by kernel_rfl) (by kernel_rfl) rfl ?_
        rw [List.forall_mem_singleton]
        refine k_storeV (n := 2) rfl rfl hql hqo hb11 (by first | rfl | assumption) (fun w13 hc13 hb11' => ⟨fun _ h => h.chg hc13 (by omega), ?_⟩)
        replace hEx := hEx.chg hc13 (by omega)
        replace hz6 := hz6.chgO hc13 off11q
        replace hz10 := hz10.chgO hc13 off11r
        replace hb11 := hb11'
        replace hb12 := hb12.chg hc13 (Ne.symm hne)
        refine rr_nil ?_
        refine rb_all (fuel := 0) (rs := [7]) (by kernel_rfl) (by kernel_rfl) rfl ?_
        rw [List.forall_mem_singleton]
        refine k_storeV (n := 2) rfl rfl hrl hro hb12 (by first | rfl | assumption) (fun w14 hc14 hb12' => ⟨fun _ h => h.chg hc14 (by omega), ?_⟩)
        replace hEx := hEx.chg hc14 (by omega)
        replace hz6 := hz6.chgO hc14 off12q
        replace hz10 := hz10.chgO hc14 off12r
        replace hb12 := hb12'
        replace hb11 := hb11.chg hc14 hne
        refine rr_nil ?_
        refine rb_done (by kernel_rfl) ?_
        exact then_normal ⟨⟨(g11, g12, qs, rs), ⟨hEx, ⟨lo11, lo12, hne⟩, hb11, hb12, hql, hrl, hqo, hro, hz6, hz10, off11q, off11r, off12q, off12r⟩, rfl, rfl, trivial⟩, (by (repeat (first | exact agree_refl _ _ | refine agree_upd rfl ?_ | refine agree_updO rfl ?_ | refine agree_overIn rfl ?_ | refine agree_maskIn rfl ?_)))⟩
      · refine k_alloc (fun g12 w12 hn12 => ⟨fun _ h => h.trans hn12.ex, ?_⟩)
        try have off12q : Off g12 (.agg qs.toArray) := hz6.off_hi hn12.lo
        try have off12r : Off g12 (.agg rs.toArray) := hz10.off_hi hn12.lo
        try have hne : g11 ≠ g12 := (by have := hb11.lt; have := hn12.lo; omega)
        have lo12 : w4.heap.size ≤ g12 := Nat.le_trans hEx.size hn12.lo
        have hb12 := hn12.blk
        replace hEx := hEx.trans hn12.ex
        try replace hz6 := hz6.ext hn12.ex
        try replace hz10 := hz10.ext hn12.ex
        try replace hb11 := hb11.ext hn12.ex
        refine rr_nil ?_
        refine rb_all (fuel := 2) (rs := [4]) (by kernel_rfl) (by kernel_rfl) rfl ?_
        rw [List.forall_mem_singleton]
        refine k_alloc (fun g11 w11 hn11 => ⟨fun _ h => h.trans hn11.ex, ?_⟩)
        try have off11q : Off g11 (.agg qs.toArray) := hz6.off_hi hn11.lo
        try have off11r : Off g11 (.agg rs.toArray) := hz10.off_hi hn11.lo
        try have hne : g11 ≠ g12 := (by have := hb12.lt; have := hn11.lo; omega)
        have lo11 : w4.heap.size ≤ g11 := Nat.le_trans hEx.size hn11.lo
        have hb11 := hn11.blk
        replace hEx := hEx.trans hn11.ex
        try replace hz6 := hz6.ext hn11.ex
        try replace hz10 := hz10.ext hn11.ex
        try replace hb12 := hb12.ext hn11.ex
        refine rr_nil ?_
        refine rb_all (fuel := 1) (rs := [6]) (by kernel_rfl) (by kernel_rfl) rfl ?_
        rw [List.forall_mem_singleton]
        refine k_storeV (n := 2) rfl rfl hql hqo hb11 (by first | rfl | assumption) (fun w13 hc13 hb11' => ⟨fun _ h => h.chg hc13 (by omega), ?_⟩)
        replace hEx := hEx.chg hc13 (by omega)
        replace hz6 := hz6.chgO hc13 off11q
        replace hz10 := hz10.chgO hc13 off11r
        replace hb11 := hb11'
        replace hb12 := hb12.chg hc13 (Ne.symm hne)
        refine rr_nil ?_
        refine rb_all (fuel := 0) (rs := [7]) (by kernel_rfl) (by kernel_rfl) rfl ?_
        rw [List.forall_mem_singleton]
        refine k_storeV (n := 2) rfl rfl hrl hro hb12 (by first | rfl | assumption) (fun w14 hc14 hb12' => ⟨fun _ h => h.chg hc14 (by omega), ?_⟩)
        replace hEx := hEx.chg hc14 (by omega)
        replace hz6 := hz6.chgO hc14 off12q
        replace hz10 := hz10.chgO hc14 off12r
        replace hb12 := hb12'
        replace hb11 := hb11.chg hc14 hne
        refine rr_nil ?_
        refine rb_done (by kernel_rfl) ?_
        exact then_normal ⟨⟨(g11, g12, qs, rs), ⟨hEx, ⟨lo11, lo12, hne⟩, hb11, hb12, hql, hrl, hqo, hro, hz6, hz10, off11q, off11r, off12q, off12r⟩, rfl, rfl, trivial⟩, (by (repeat (first | exact agree_refl _ _ | refine agree_upd rfl ?_ | refine agree_updO rfl ?_ | refine agree_overIn rfl ?_ | refine agree_maskIn rfl ?_)))⟩
    · refine k_alloc (fun g11 w11 hn11 => ⟨fun _ h => h.trans hn11.ex, ?_⟩)
      try have off11q : Off g11 (.agg qs.toArray) := hz6.off_hi hn11.lo
      try have off11r : Off g11 (.agg rs.toArray) := hz10.off_hi hn11.lo
      try have hne : g11 ≠ g12 := (by have := hb12.lt; have := hn11.lo; omega)
      have lo11 : w4.heap.size ≤ g11 := Nat.le_trans hEx.size hn11.lo
      have hb11 := hn11.blk
      replace hEx := hEx.trans hn11.ex
      try replace hz6 := hz6.ext hn11.ex
      try replace hz10 := hz10.ext hn11.ex
      try replace hb12 := hb12.ext hn11.ex
      refine rr_nil ?_
      refine rb_all (fuel := 3) (rs := [3, 5]) (by kernel_rfl) (by kernel_rfl) rfl ?_
      simp only [List.forall_mem_cons, List.not_mem_nil, false_implies, implies_true, and_true]
      refine ⟨?_, ?_⟩
      · refine k_call (refAbs_spec (hi2.ext hEx)) rfl ?_
        rintro v10 w10' ⟨hz10, hE10'⟩
        refine ⟨fun _ h => h.trans hE10', ?_⟩
        simp only [Int.natAbs_natCast] at hz10
        obtain ⟨rs, rfl, hrl, hro⟩ := hz10.out
        try have off11r : Off g11 (.agg rs.toArray) := hz10.off_lo hb11.lt
        try have off12r : Off g12 (.agg rs.toArray) := hz10.off_lo hb12.lt
        replace hz10 := hz10.mono (lo' := w4.heap.size) hEx.size
        replace hz6 := hz6.ext hE10'
        replace hEx := hEx.trans hE10'
        try replace hb11 := hb11.ext hE10'
        try replace hb12 := hb12.ext hE10'
        refine rr_nil ?_
        refine rb_all (fuel := 2) (rs := [5]) (by kernel_rfl) (by kernel_rfl) rfl ?_
        rw [List.forall_mem_singleton]
        refine k_alloc (fun g12 w12 hn12 => ⟨fun _ h => h.trans hn12.ex, ?_⟩)
        try have off12q : Off g12 (.agg qs.toArray) := hz6.off_hi hn12.lo
        try have off12r : Off g12 (.agg rs.toArray) := hz10.off_hi hn12.lo
        try have hne : g11 ≠ g12 := (by have := hb11.lt; have := hn12.lo; omega)
        have lo12 : w4.heap.size ≤ g12 := Nat.le_trans hEx.size hn12.lo
        have hb12 := hn12.blk
        replace hEx := hEx.trans hn12.ex
        try replace hz6 := hz6.ext hn12.ex
        try replace hz10 := hz10.ext hn12.ex
        try replace hb11 := hb11.ext hn12.ex
        refine rr_nil ?_
        refine rb_all (fuel := 1) (rs := [6]) (by kernel_rfl) (by kernel_rfl) rfl ?_
        rw [List.forall_mem_singleton]
        refine k_storeV (n := 2) rfl rfl hql hqo hb11 (by first | rfl | assumption) (fun w13 hc13 hb11' => ⟨fun _ h => h.chg hc13 (by omega), ?_⟩)
        replace hEx := hEx.chg hc13 (by omega)
        replace hz6 := hz6.chgO hc13 off11q
        replace hz10 := hz10.chgO hc13 off11r
        replace hb11 := hb11'
        replace hb12 := hb12.chg hc13 (Ne.symm hne)
        refine rr_nil ?_
        refine rb_all (fuel := 0) (rs := [7]) (by kernel_rfl) (by kernel_rfl) rfl ?_
        rw [List.forall_mem_singleton]
        refine k_storeV (n := 2) rfl rfl hrl hro hb12 (by first | rfl | assumption) (fun w14 hc14 hb12' => ⟨fun _ h => h.chg hc14 (by omega), ?_⟩)
        replace hEx := hEx.chg hc14 (by omega)
        replace hz6 := hz6.chgO hc14 off12q
        replace hz10 := hz10.chgO hc14 off12r
        replace hb12 := hb12'
        replace hb11 := hb11.chg hc14 hne
        refine rr_nil ?_
        refine rb_done (by kernel_rfl) ?_
        exact then_normal ⟨⟨(g11, g12, qs, rs), ⟨hEx, ⟨lo11, lo12, hne⟩, hb11, hb12, hql, hrl, hqo, hro, hz6, hz10, off11q, off11r, off12q, off12r⟩, rfl, rfl, trivial⟩, (by (repeat (first | exact agree_refl _ _ | refine agree_upd rfl ?_ | refine agree_updO rfl ?_ | refine agree_overIn rfl ?_ | refine agree_maskIn rfl ?_)))⟩
      · refine k_alloc (fun g12 w12 hn12 => ⟨fun _ h => h.trans hn12.ex, ?_⟩)
        try have off12q : Off g12 (.agg qs.toArray) := hz6.off_hi hn12.lo
        try have off12r : Off g12 (.agg rs.toArray) := hz10.off_hi hn12.lo
        try have hne : g11 ≠ g12 := (by have := hb11.lt; have := hn12.lo; omega)
        have lo12 : w4.heap.size ≤ g12 := Nat.le_trans hEx.size hn12.lo
        have hb12 := hn12.blk
        replace hEx := hEx.trans hn12.ex
        try replace hz6 := hz6.ext hn12.ex
        try replace hz10 := hz10.ext hn12.ex
        try replace hb11 := hb11.ext hn12.ex
        refine rr_nil ?_
        refine rb_all (fuel := 2) (rs := [3]) (by kernel_rfl) (by kernel_rfl) rfl ?_
        rw [List.forall_mem_singleton]
        refine k_call (refAbs_spec (hi2.ext hEx)) rfl ?_
        rintro v10 w10' ⟨hz10, hE10'⟩
        refine ⟨fun _ h => h.trans hE10', ?_⟩
        simp only [Int.natAbs_natCast] at hz10
        obtain ⟨rs, rfl, hrl, hro⟩ := hz10.out
        try have off11r : Off g11 (.agg rs.toArray) := hz10.off_lo hb11.lt
        try have off12r : Off g12 (.agg rs.toArray) := hz10.off_lo hb12.lt
        replace hz10 := hz10.mono (lo' := w4.heap.size) hEx.size
        replace hz6 := hz6.ext hE10'
        replace hEx := hEx.trans hE10'
        try replace hb11 := hb11.ext hE10'
        try replace hb12 := hb12.ext hE10'
        refine rr_nil ?_
        refine rb_all (fuel := 1) (rs := [6]) (by kernel_rfl) (by kernel_rfl) rfl ?_
        rw [List.forall_mem_singleton]
        refine k_storeV (n := 2) rfl rfl hql hqo hb11 (by first | rfl | assumption) (fun w13 hc13 hb11' => ⟨fun _ h => h.chg hc13 (by omega), ?_⟩)
        replace hEx := hEx.chg hc13 (by omega)
        replace hz6 := hz6.chgO hc13 off11q
        replace hz10 := hz10.chgO hc13 off11r
        replace hb11 := hb11'
        replace hb12 := hb12.chg hc13 (Ne.symm hne)
        refine rr_nil ?_
        refine rb_all (fuel := 0) (rs := [7]) (by kernel_rfl) (by kernel_rfl) rfl ?_
        rw [List.forall_mem_singleton]
        refine k_storeV (n := 2) rfl rfl hrl hro hb12 (by first | rfl | assumption) (fun w14 hc14 hb12' => ⟨fun _ h => h.chg hc14 (by omega), ?_⟩)
        replace hEx := hEx.chg hc14 (by omega)
        replace hz6 := hz6.chgO hc14 off12q
        replace hz10 := hz10.chgO hc14 off12r
        replace hb12 := hb12'
        replace hb11 := hb11.chg hc14 hne
        refine rr_nil ?_
        refine rb_done (by kernel_rfl) ?_
        exact then_normal ⟨⟨(g11, g12, qs, rs), ⟨hEx, ⟨lo11, lo12, hne⟩, hb11, hb12, hql, hrl, hqo, hro, hz6, hz10, off11q, off11r, off12q, off12r⟩, rfl, rfl, trivial⟩, (by (repeat (first | exact agree_refl _ _ | refine agree_upd rfl ?_ | refine agree_updO rfl ?_ | refine agree_overIn rfl ?_ | refine agree_maskIn rfl ?_)))⟩
    · refine k_alloc (fun g12 w12 hn12 => ⟨fun _ h => h.trans hn12.ex, ?_⟩)
      try have off12q : Off g12 (.agg qs.toArray) := hz6.off_hi hn12.lo
      try have off12r : Off g12 (.agg rs.toArray) := hz10.off_hi hn12.lo
      try have hne : g11 ≠ g12 := (by have := hb11.lt; have := hn12.lo; omega)
      have lo12 : w4.heap.size ≤ g12 := Nat.le_trans hEx.size hn12.lo
      have hb12 := hn12.blk
      replace hEx := hEx.trans hn12.ex
      try replace hz6 := hz6.ext hn12.ex
      try replace hz10 := hz10.ext hn12.ex
      try replace hb11 := hb11.ext hn12.ex
      refine rr_nil ?_
      refine rb_all (fuel := 3) (rs := [3, 4]) (by kernel_rfl) (by kernel_rfl) rfl ?_
      simp only [List.forall_mem_cons, List.not_mem_nil, false_implies, implies_true, and_true]
      refine ⟨?_, ?_⟩
      · refine k_call (refAbs_spec (hi2.ext hEx)) rfl ?_
        rintro v10 w10' ⟨hz10, hE10'⟩
        refine ⟨fun _ h => h.trans hE10', ?_⟩
        simp only [Int.natAbs_natCast] at hz10
        obtain ⟨rs, rfl, hrl, hro⟩ := hz10.out
        try have off11r : Off g11 (.agg rs.toArray) := hz10.off_lo hb11.lt
        try have off12r : Off g12 (.agg rs.toArray) := hz10.off_lo hb12.lt
        replace hz10 := hz10.mono (lo' := w4.heap.size) hEx.size
        replace hz6 := hz6.ext hE10'
        replace hEx := hEx.trans hE10'
        try replace hb11 := hb11.ext hE10'
        try replace hb12 := hb12.ext hE10'
        refine rr_nil ?_
        refine rb_all (fuel := 2) (rs := [4]) (by kernel_rfl) (by kernel_rfl) rfl ?_
        rw [List.forall_mem_singleton]
        refine k_alloc (fun g11 w11 hn11 => ⟨fun _ h => h.trans hn11.ex, ?_⟩)
        try have off11q : Off g11 (.agg qs.toArray) := hz6.off_hi hn11.lo
        try have off11r : Off g11 (.agg rs.toArray) := hz10.off_hi hn11.lo
        try have hne : g11 ≠ g12 := (by have := hb12.lt; have := hn11.lo; omega)
        have lo11 : w4.heap.size ≤ g11 := Nat.le_trans hEx.size hn11.lo
        have hb11 := hn11.blk
        replace hEx := hEx.trans hn11.ex
        try replace hz6 := hz6.ext hn11.ex
        try replace hz10 := hz10.ext hn11.ex
        try replace hb12 := hb12.ext hn11.ex
        refine rr_nil ?_
        refine rb_all (fuel := 1) (rs := [6]) (by kernel_rfl) (by kernel_rfl) rfl ?_
        rw [List.forall_mem_singleton]
        refine k_storeV (n := 2) rfl rfl hql hqo hb11 (by first | rfl | assumption) (fun w13 hc13 hb11' => ⟨fun _ h => h.chg hc13 (by omega), ?_⟩)
        replace hEx := hEx.chg hc13 (by omega)
        replace hz6 := hz6.chgO hc13 off11q
        replace hz10 := hz10.chgO hc13 off11r
        replace hb11 := hb11'
        replace hb12 := hb12.chg hc13 (Ne.symm hne)
        refine rr_nil ?_
        refine rb_all (fuel := 0) (rs := [7]) (by kernel_rfl) (by kernel_rfl) rfl ?_
        rw [List.forall_mem_singleton]
        refine k_storeV (n := 2) rfl rfl hrl hro hb12 (by first | rfl | assumption) (fun w14 hc14 hb12' => ⟨fun _ h => h.chg hc14 (by omega), ?_⟩)
        replace hEx := hEx.chg hc14 (by omega)
        replace hz6 := hz6.chgO hc14 off12q
        replace hz10 := hz10.chgO hc14 off12r
        replace hb12 := hb12'
        replace hb11 := hb11.chg hc14 hne
        refine rr_nil ?_
        refine rb_done (by kernel_rfl) ?_
        exact then_normal ⟨⟨(g11, g12, qs, rs), ⟨hEx, ⟨lo11, lo12, hne⟩, hb11, hb12, hql, hrl, hqo, hro, hz6, hz10, off11q, off11r, off12q, off12r⟩, rfl, rfl, trivial⟩, (by (repeat (first | exact agree_refl _ _ | refine agree_upd rfl ?_ | refine agree_updO rfl ?_ | refine agree_overIn rfl ?_ | refine agree_maskIn rfl ?_)))⟩
      · refine k_alloc (fun g11 w11 hn11 => ⟨fun _ h => h.trans hn11.ex, ?_⟩)
        try have off11q : Off g11 (.agg qs.toArray) := hz6.off_hi hn11.lo
        try have off11r : Off g11 (.agg rs.toArray) := hz10.off_hi hn11.lo
        try have hne : g11 ≠ g12 := (by have := hb12.lt; have := hn11.lo; omega)
        have lo11 : w4.heap.size ≤ g11 := Nat.le_trans hEx.size hn11.lo
        have hb11 := hn11.blk
        replace hEx := hEx.trans hn11.ex
        try replace hz6 := hz6.ext hn11.ex
        try replace hz10 := hz10.ext hn11.ex
        try replace hb12 := hb12.ext hn11.ex
        refine rr_nil ?_
        refine rb_all (fuel := 2) (rs := [3]) (by kernel_rfl) (by kernel_rfl) rfl ?_
        rw [List.forall_mem_singleton]
        refine k_call (refAbs_spec (hi2.ext hEx)) rfl ?_
        rintro v10 w10' ⟨hz10, hE10'⟩
        refine ⟨fun _ h => h.trans hE10', ?_⟩
        simp only [Int.natAbs_natCast] at hz10
        obtain ⟨rs, rfl, hrl, hro⟩ := hz10.out
        try have off11r : Off g11 (.agg rs.toArray) := hz10.off_lo hb11.lt
        try have off12r : Off g12 (.agg rs.toArray) := hz10.off_lo hb12.lt
        replace hz10 := hz10.mono (lo' := w4.heap.size) hEx.size
        replace hz6 := hz6.ext hE10'
        replace hEx := hEx.trans hE10'
        try replace hb11 := hb11.ext hE10'
        try replace hb12 := hb12.ext hE10'
        refine rr_nil ?_
        refine rb_all (fuel := 1) (rs := [6]) (by kernel_rfl) (by kernel_rfl) rfl ?_
        rw [List.forall_mem_singleton]
        refine k_storeV (n := 2) rfl rfl hql hqo hb11 (by first | rfl | assumption) (fun w13 hc13 hb11' => ⟨fun _ h => h.chg hc13 (by omega), ?_⟩)
        replace hEx := hEx.chg hc13 (by omega)
        replace hz6 := hz6.chgO hc13 off11q
        replace hz10 := hz10.chgO hc13 off11r
        replace hb11 := hb11'
        replace hb12 := hb12.chg hc13 (Ne.symm hne)
        refine rr_nil ?_
        refine rb_all (fuel := 0) (rs := [7]) (by kernel_rfl) (by kernel_rfl) rfl ?_
        rw [List.forall_mem_singleton]
        refine k_storeV (n := 2) rfl rfl hrl hro hb12 (by first | rfl | assumption) (fun w14 hc14 hb12' => ⟨fun _ h => h.chg hc14 (by omega), ?_⟩)
        replace hEx := hEx.chg hc14 (by omega)
        replace hz6 := hz6.chgO hc14 off12q
        replace hz10 := hz10.chgO hc14 off12r
        replace hb12 := hb12'
        replace hb11 := hb11.chg hc14 hne
        refine rr_nil ?_
        refine rb_done (by kernel_rfl) ?_
        exact then_normal ⟨⟨(g11, g12, qs, rs), ⟨hEx, ⟨lo11, lo12, hne⟩, hb11, hb12, hql, hrl, hqo, hro, hz6, hz10, off11q, off11r, off12q, off12r⟩, rfl, rfl, trivial⟩, (by (repeat (first | exact agree_refl _ _ | refine agree_upd rfl ?_ | refine agree_updO rfl ?_ | refine agree_overIn rfl ?_ | refine agree_maskIn rfl ?_)))⟩
  · refine k_alloc (fun g11 w11 hn11 => ⟨fun _ h => h.trans hn11.ex, ?_⟩)
    try have off11q : Off g11 (.agg qs.toArray) := hz6.off_hi hn11.lo
    try have off11r : Off g11 (.agg rs.toArray) := hz10.off_hi hn11.lo
    try have hne : g11 ≠ g12 := (by have := hb12.lt; have := hn11.lo; omega)
    have lo11 : w4.heap.size ≤ g11 := Nat.le_trans hEx.size hn11.lo
    have hb11 := hn11.blk
    replace hEx := hEx.trans hn11.ex
    try replace hz6 := hz6.ext hn11.ex
    try replace hz10 := hz10.ext hn11.ex
    try replace hb12 := hb12.ext hn11.ex
    refine rr_nil ?_
    refine rb_all (fuel := 4) (rs := [1, 5]) (by kernel_rfl) (by kernel_rfl) rfl ?_
    simp only [List.forall_mem_cons, List.not_mem_nil, false_implies, implies_true, and_true]
    refine ⟨?_, ?_⟩
    · refine k_call (refAbs_spec (hi1.ext hEx)) rfl ?_
      rintro v6 w6' ⟨hz6, hE6'⟩
      refine ⟨fun _ h => h.trans hE6', ?_⟩
      simp only [Int.natAbs_natCast] at hz6
      obtain ⟨qs, rfl, hql, hqo⟩ := hz6.out
      try have off11q : Off g11 (.agg qs.toArray) := hz6.off_lo hb11.lt
      try have off12q : Off g12 (.agg qs.toArray) := hz6.off_lo hb12.lt
      replace hz6 := hz6.mono (lo' := w4.heap.size) hEx.size
      replace hEx := hEx.trans hE6'
      try replace hb11 := hb11.ext hE6'
      try replace hb12 := hb12.ext hE6'
      refine rr_nil ?_
      refine rb_all (fuel := 3) (rs := [3, 5]) (by kernel_rfl) (by kernel_rfl) rfl ?_
      simp only [List.forall_mem_cons, List.not_mem_nil, false_implies, implies_true, and_true]
      refine ⟨?_, ?_⟩
      · refine k_call (refAbs_spec (hi2.ext hEx)) rfl ?_
        rintro v10 w10' ⟨hz10, hE10'⟩
        refine ⟨fun _ h => h.trans hE10', ?_⟩
        simp only [Int.natAbs_natCast] at hz10
        obtain ⟨rs, rfl, hrl, hro⟩ := hz10.out
        try have off11r : Off g11 (.agg rs.toArray) := hz10.off_lo hb11.lt
        try have off12r : Off g12 (.agg rs.toArray) := hz10.off_lo hb12.lt
        replace hz10 := hz10.mono (lo' := w4.heap.size) hEx.size
        replace hz6 := hz6.ext hE10'
        replace hEx := hEx.trans hE10'
        try replace hb11 := hb11.ext hE10'
        try replace hb12 := hb12.ext hE10'
        refine rr_nil ?_
        refine rb_all (fuel := 2) (rs := [5]) (by kernel_rfl) (by kernel_rfl) rfl ?_
        rw [List.forall_mem_singleton]
        refine k_alloc (fun g12 w12 hn12 => ⟨fun _ h => h.trans hn12.ex, ?_⟩)
        try have off12q : Off g12 (.agg qs.toArray) := hz6.off_hi hn12.lo
        try have off12r : Off g12 (.agg rs.toArray) := hz10.off_hi hn12.lo
        try have hne : g11 ≠ g12 := (by have := hb11.lt; have := hn12.lo; omega)
        have lo12 : w4.heap.size ≤ g12 := Nat.le_trans hEx.size hn12.lo
        have hb12 := hn12.blk
        replace hEx := hEx.trans hn12.ex
        try replace hz6 := hz6.ext hn12.ex
        try replace hz10 := hz10.ext hn12.ex
        try replace hb11 := hb11.ext hn12.ex
        refine rr_nil ?_
        refine rb_all (fuel := 1) (rs := [6]) (by kernel_rfl) (by kernel_rfl) rfl ?_
        rw [List.forall_mem_singleton]
        refine k_storeV (n := 2) rfl rfl hql hqo hb11 (by first | rfl | assumption) (fun w13 hc13 hb11' => ⟨fun _ h => h.chg hc13 (by omega), ?_⟩)
        replace hEx := hEx.chg hc13 (by omega)
        replace hz6 := hz6.chgO hc13 off11q
        replace hz10 := hz10.chgO hc13 off11r
        replace hb11 := hb11'
        replace hb12 := hb12.chg hc13 (Ne.symm hne)
        refine rr_nil ?_
        refine rb_all (fuel := 0) (rs := [7]) (by kernel_rfl) (by kernel_rfl) rfl ?_
        rw [List.forall_mem_singleton]
        refine k_storeV (n := 2) rfl rfl hrl hro hb12 (by first | rfl | assumption) (fun w14 hc14 hb12' => ⟨fun _ h => h.chg hc14 (by omega), ?_⟩)
        replace hEx := hEx.chg hc14 (by omega)
        replace hz6 := hz6.chgO hc14 off12q
        replace hz10 := hz10.chgO hc14 off12r
        replace hb12 := hb12'
        replace hb11 := hb11.chg hc14 hne
        refine rr_nil ?_
        refine rb_done (by kernel_rfl) ?_
        exact then_normal ⟨⟨(g11, g12, qs, rs), ⟨hEx, ⟨lo11, lo12, hne⟩, hb11, hb12, hql, hrl, hqo, hro, hz6, hz10, off11q, off11r, off12q, off12r⟩, rfl, rfl, trivial⟩, (by (repeat (first | exact agree_refl _ _ | refine agree_upd rfl ?_ | refine agree_updO rfl ?_ | refine agree_overIn rfl ?_ | refine agree_maskIn rfl ?_)))⟩
      · refine k_alloc (fun g12 w12 hn12 => ⟨fun _ h => h.trans hn12.ex, ?_⟩)
        try have off12q : Off g12 (.agg qs.toArray) := hz6.off_hi hn12.lo
        try have off12r : Off g12 (.agg rs.toArray) := hz10.off_hi hn12.lo
        try have hne : g11 ≠ g12 := (by have := hb11.lt; have := hn12.lo; omega)
        have lo12 : w4.heap.size ≤ g12 := Nat.le_trans hEx.size hn12.lo
        have hb12 := hn12.blk
        replace hEx := hEx.trans hn12.ex
        try replace hz6 := hz6.ext hn12.ex
        try replace hz10 := hz10.ext hn12.ex
        try replace hb11 := hb11.ext hn12.ex
        refine rr_nil ?_
        refine rb_all (fuel := 2) (rs := [3]) (by kernel_rfl) (by kernel_rfl) rfl ?_
        rw [List.forall_mem_singleton]
        refine k_call (refAbs_spec (hi2.ext hEx)) rfl ?_
        rintro v10 w10' ⟨hz10, hE10'⟩
        refine ⟨fun _ h => h.trans hE10', ?_⟩
        simp only [Int.natAbs_natCast] at hz10
        obtain ⟨rs, rfl, hrl, hro⟩ := hz10.out
        try have off11r : Off g11 (.agg rs.toArray) := hz10.off_lo hb11.lt
        try have off12r : Off g12 (.agg rs.toArray) := hz10.off_lo hb12.lt
        replace hz10 := hz10.mono (lo' := w4.heap.size) hEx.size
        replace hz6 := hz6.ext hE10'
        replace hEx := hEx.trans hE10'
        try replace hb11 := hb11.ext hE10'
        try replace hb12 := hb12.ext hE10'
        refine rr_nil ?_
        refine rb_all (fuel := 1) (rs := [6]) (by kernel_rfl) (by kernel_rfl) rfl ?_
        rw [List.forall_mem_singleton]
        refine k_storeV (n := 2) rfl rfl hql hqo hb11 (by first | rfl | assumption) (fun w13 hc13 hb11' => ⟨fun _ h => h.chg hc13 (by omega), ?_⟩)
        replace hEx := hEx.chg hc13 (by omega)
        replace hz6 := hz6.chgO hc13 off11q
        replace hz10 := hz10.chgO hc13 off11r
        replace hb11 := hb11'
        replace hb12 := hb12.chg hc13 (Ne.symm hne)
        refine rr_nil ?_
        refine rb_all (fuel := 0) (rs := [7]) (by kernel_rfl) (by kernel_rfl) rfl ?_
        rw [List.forall_mem_singleton]
        refine k_storeV (n := 2) rfl rfl hrl hro hb12 (by first | rfl | assumption) (fun w14 hc14 hb12' => ⟨fun _ h => h.chg hc14 (by omega), ?_⟩)
        replace hEx := hEx.chg hc14 (by omega)
        replace hz6 := hz6.chgO hc14 off12q
        replace hz10 := hz10.chgO hc14 off12r
        replace hb12 := hb12'
        replace hb11 := hb11.chg hc14 hne
        refine rr_nil ?_
        refine rb_done (by kernel_rfl) ?_
        exact then_normal ⟨⟨(g11, g12, qs, rs), ⟨hEx, ⟨lo11, lo12, hne⟩, hb11, hb12, hql, hrl, hqo, hro, hz6, hz10, off11q, off11r, off12q, off12r⟩, rfl, rfl, trivial⟩, (by (repeat (first | exact agree_refl _ _ | refine agree_upd rfl ?_ | refine agree_updO rfl ?_ | refine agree_overIn rfl ?_ | refine agree_maskIn rfl ?_)))⟩
    · refine k_alloc (fun g12 w12 hn12 => ⟨fun _ h => h.trans hn12.ex, ?_⟩)
      try have off12q : Off g12 (.agg qs.toArray) := hz6.off_hi hn12.lo
      try have off12r : Off g12 (.agg rs.toArray) := hz10.off_hi hn12.lo
      try have hne : g11 ≠ g12 := (by have := hb11.lt; have := hn12.lo; omega)
      have lo12 : w4.heap.size ≤ g12 := Nat.le_trans hEx.size hn12.lo
      have hb12 := hn12.blk
      replace hEx := hEx.trans hn12.ex
      try replace hz6 := hz6.ext hn12.ex
      try replace hz10 := hz10.ext hn12.ex
      try replace hb11 := hb11.ext hn12.ex
      refine rr_nil ?_
      refine rb_all (fuel := 3) (rs := [1]) (by kernel_rfl) (by kernel_rfl) rfl ?_
      rw [List.forall_mem_singleton]
      refine k_call (refAbs_spec (hi1.ext hEx)) rfl ?_
      rintro v6 w6' ⟨hz6, hE6'⟩
      refine ⟨fun _ h => h.trans hE6', ?_⟩
      simp only [Int.natAbs_natCast] at hz6
      obtain ⟨qs, rfl, hql, hqo⟩ := hz6.out
      try have off11q : Off g11 (.agg qs.toArray) := hz6.off_lo hb11.lt
      try have off12q : Off g12 (.agg qs.toArray) := hz6.off_lo hb12.lt
      replace hz6 := hz6.mono (lo' := w4.heap.size) hEx.size
      replace hEx := hEx.trans hE6'
      try replace hb11 := hb11.ext hE6'
      try replace hb12 := hb12.ext hE6'
      refine rr_nil ?_
      refine rb_all (fuel := 2) (rs := [3]) (by kernel_rfl) (by kernel_rfl) rfl ?_
      rw [List.forall_mem_singleton]
      refine k_call (refAbs_spec (hi2.ext hEx)) rfl ?_
      rintro v10 w10' ⟨hz10, hE10'⟩
      refine ⟨fun _ h => h.trans hE10', ?_⟩
      simp only [Int.natAbs_natCast] at hz10
      obtain ⟨rs, rfl, hrl, hro⟩ := hz10.out
      try have off11r : Off g11 (.agg rs.toArray) := hz10.off_lo hb11.lt
      try have off12r : Off g12 (.agg rs.toArray) := hz10.off_lo hb12.lt
      replace hz10 := hz10.mono (lo' := w4.heap.size) hEx.size
      replace hz6 := hz6.ext hE10'
      replace hEx := hEx.trans hE10'
      try replace hb11 := hb11.ext hE10'
      try replace hb12 := hb12.ext hE10'
      refine rr_nil ?_
      refine rb_all (fuel := 1) (rs := [6]) (by kernel_rfl) (by kernel_rfl) rfl ?_
      rw [List.forall_mem_singleton]
      refine k_storeV (n := 2) rfl rfl hql hqo hb11 (by first | rfl | assumption) (fun w13 hc13 hb11' => ⟨fun _ h => h.chg hc13 (by omega), ?_⟩)
      replace hEx := hEx.chg hc13 (by omega)
      replace hz6 := hz6.chgO hc13 off11q
      replace hz10 := hz10.chgO hc13 off11r
      replace hb11 := hb11'
      replace hb12 := hb12.chg hc13 (Ne.symm hne)
      refine rr_nil ?_
      refine rb_all (fuel := 0) (rs := [7]) (by kernel_rfl) (by kernel_rfl) rfl ?_
      rw [List.forall_mem_singleton]
      refine k_storeV (n := 2) rfl rfl hrl hro hb12 (by first | rfl | assumption) (fun w14 hc14 hb12' => ⟨fun _ h => h.chg hc14 (by omega), ?_⟩)
      replace hEx := hEx.chg hc14 (by omega)
      replace hz6 := hz6.chgO hc14 off12q
      replace hz10 := hz10.chgO hc14 off12r
      replace hb12 := hb12'
      replace hb11 := hb11.chg hc14 hne
      refine rr_nil ?_
      refine rb_done (by kernel_rfl) ?_
      exact then_normal ⟨⟨(g11, g12, qs, rs), ⟨hEx, ⟨lo11, lo12, hne⟩, hb11, hb12, hql, hrl, hqo, hro, hz6, hz10, off11q, off11r, off12q, off12r⟩, rfl, rfl, trivial⟩, (by (repeat (first | exact agree_refl _ _ | refine agree_upd rfl ?_ | refine agree_updO rfl ?_ | refine agree_overIn rfl ?_ | refine agree_maskIn rfl ?_)))⟩
  · refine k_alloc (fun g12 w12 hn12 => ⟨fun _ h => h.trans hn12.ex, ?_⟩)
    try have off12q : Off g12 (.agg qs.toArray) := hz6.off_hi hn12.lo
    try have off12r : Off g12 (.agg rs.toArray) := hz10.off_hi hn12.lo
    try have hne : g11 ≠ g12 := (by have := hb11.lt; have := hn12.lo; omega)
    have lo12 : w4.heap.size ≤ g12 := Nat.le_trans hEx.size hn12.lo
    have hb12 := hn12.blk
    replace hEx := hEx.trans hn12.ex
    try replace hz6 := hz6.ext hn12.ex
    try replace hz10 := hz10.ext hn12.ex
    try replace hb11 := hb11.ext hn12.ex
    refine rr_nil ?_
    refine rb_all (fuel := 4) (rs := [1, 4]) (by kernel_rfl) (by kernel_rfl) rfl ?_
    simp only [List.forall_mem_cons, List.not_mem_nil, false_implies, implies_true, and_true]
    refine ⟨?_, ?_⟩
    · refine k_call (refAbs_spec (hi1.ext hEx)) rfl ?_
      rintro v6 w6' ⟨hz6, hE6'⟩
      refine ⟨fun _ h => h.trans hE6', ?_⟩
      simp only [Int.natAbs_natCast] at hz6
      obtain ⟨qs, rfl, hql, hqo⟩ := hz6.out
      try have off11q : Off g11 (.agg qs.toArray) := hz6.off_lo hb11.lt
      try have off12q : Off g12 (.agg qs.toArray) := hz6.off_lo hb12.lt
      replace hz6 := hz6.mono (lo' := w4.heap.size) hEx.size
      replace hEx := hEx.trans hE6'
      try replace hb11 := hb11.ext hE6'
      try replace hb12 := hb12.ext hE6'
      refine rr_nil ?_
      refine rb_all (fuel := 3) (rs := [3, 4]) (by kernel_rfl) (by kernel_rfl) rfl ?_
      simp only [List.forall_mem_cons, List.not_mem_nil, false_implies, implies_true, and_true]
      refine ⟨?_, ?_⟩
      · refine k_call (refAbs_spec (hi2.ext hEx)) rfl ?_
        rintro v10 w10' ⟨hz10, hE10'⟩
        refine ⟨fun _ h => h.trans hE10', ?_⟩
        simp only [Int.natAbs_natCast] at hz10
        obtain ⟨rs, rfl, hrl, hro⟩ := hz10.out
        try have off11r : Off g11 (.agg rs.toArray) := hz10.off_lo hb11.lt
        try have off12r : Off g12 (.agg rs.toArray) := hz10.off_lo hb12.lt
        replace hz10 := hz10.mono (lo' := w4.heap.size) hEx.size
        replace hz6 := hz6.ext hE10'
        replace hEx := hEx.trans hE10'
        try replace hb11 := hb11.ext hE10'
        try replace hb12 := hb12.ext hE10'
        refine rr_nil ?_
        refine rb_all (fuel := 2) (rs := [4]) (by kernel_rfl) (by kernel_rfl) rfl ?_
        rw [List.forall_mem_singleton]
        refine k_alloc (fun g11 w11 hn11 => ⟨fun _ h => h.trans hn11.ex, ?_⟩)
        try have off11q : Off g11 (.agg qs.toArray) := hz6.off_hi hn11.lo
        try have off11r : Off g11 (.agg rs.toArray) := hz10.off_hi hn11.lo
        try have hne : g11 ≠ g12 := (by have := hb12.lt; have := hn11.lo; omega)
        have lo11 : w4.heap.size ≤ g11 := Nat.le_trans hEx.size hn11.lo
        have hb11 := hn11.blk
        replace hEx := hEx.trans hn11.ex
        try replace hz6 := hz6.ext hn11.ex
        try replace hz10 := hz10.ext hn11.ex
        try replace hb12 := hb12.ext hn11.ex
        refine rr_nil ?_
        refine rb_all (fuel := 1) (rs := [6]) (by kernel_rfl) (by kernel_rfl) rfl ?_
        rw [List.forall_mem_singleton]
        refine k_storeV (n := 2) rfl rfl hql hqo hb11 (by first | rfl | assumption) (fun w13 hc13 hb11' => ⟨fun _ h => h.chg hc13 (by omega), ?_⟩)
        replace hEx := hEx.chg hc13 (by omega)
        replace hz6 := hz6.chgO hc13 off11q
        replace hz10 := hz10.chgO hc13 off11r
        replace hb11 := hb11'
        replace hb12 := hb12.chg hc13 (Ne.symm hne)
        refine rr_nil ?_
        refine rb_all (fuel := 0) (rs := [7]) (by kernel_rfl) (by kernel_rfl) rfl ?_
        rw [List.forall_mem_singleton]
        refine k_storeV (n := 2) rfl rfl hrl hro hb12 (by first | rfl | assumption) (fun w14 hc14 hb12' => ⟨fun _ h => h.chg hc14 (by omega), ?_⟩)
        replace hEx := hEx.chg hc14 (by omega)
        replace hz6 := hz6.chgO hc14 off12q
        replace hz10 := hz10.chgO hc14 off12r
        replace hb12 := hb12'
        replace hb11 := hb11.chg hc14 hne
        refine rr_nil ?_
        refine rb_done (by kernel_rfl) ?_
        exact then_normal ⟨⟨(g11, g12, qs, rs), ⟨hEx, ⟨lo11, lo12, hne⟩, hb11, hb12, hql, hrl, hqo, hro, hz6, hz10, off11q, off11r, off12q, off12r⟩, rfl, rfl, trivial⟩, (by (repeat (first | exact agree_refl _ _ | refine agree_upd rfl ?_ | refine agree_updO rfl ?_ | refine agree_overIn rfl ?_ | refine agree_maskIn rfl ?_)))⟩
      · refine k_alloc (fun g11 w11 hn11 => ⟨fun _ h => h.trans hn11.ex, ?_⟩)
        try have off11q : Off g11 (.agg qs.toArray) := hz6.off_hi hn11.lo
        try have off11r : Off g11 (.agg rs.toArray) := hz10.off_hi hn11.lo
        try have hne : g11 ≠ g12 := (by have := hb12.lt; have := hn11.lo; omega)
        have lo11 : w4.heap.size ≤ g11 := Nat.le_trans hEx.size hn11.lo
        have hb11 := hn11.blk
        replace hEx := hEx.trans hn11.ex
        try replace hz6 := hz6.ext hn11.ex
        try replace hz10 := hz10.ext hn11.ex
        try replace hb12 := hb12.ext hn11.ex
        refine rr_nil ?_
        refine rb_all (fuel := 2) (rs := [3]) (by kernel_rfl) (by kernel_rfl) rfl ?_
        rw [List.forall_mem_singleton]
        refine k_call (refAbs_spec (hi2.ext hEx)) rfl ?_
        rintro v10 w10' ⟨hz10, hE10'⟩
        refine ⟨fun _ h => h.trans hE10', ?_⟩
        simp only [Int.natAbs_natCast] at hz10
        obtain ⟨rs, rfl, hrl, hro⟩ := hz10.out
        try have off11r : Off g11 (.agg rs.toArray) := hz10.off_lo hb11.lt
        try have off12r : Off g12 (.agg rs.toArray) := hz10.off_lo hb12.lt
        replace hz10 := hz10.mono (lo' := w4.heap.size) hEx.size
        replace hz6 := hz6.ext hE10'
        replace hEx := hEx.trans hE10'
        try replace hb11 := hb11.ext hE10'
        try replace hb12 := hb12.ext hE10'
        refine rr_nil ?_
        refine rb_all (fuel := 1) (rs := [6]) (by kernel_rfl) (by kernel_rfl) rfl ?_
        rw [List.forall_mem_singleton]
        refine k_storeV (n := 2) rfl rfl hql hqo hb11 (by first | rfl | assumption) (fun w13 hc13 hb11' => ⟨fun _ h => h.chg hc13 (by omega), ?_⟩)
        replace hEx := hEx.chg hc13 (by omega)
        replace hz6 := hz6.chgO hc13 off11q
        replace hz10 := hz10.chgO hc13 off11r
        replace hb11 := hb11'
        replace hb12 := hb12.chg hc13 (Ne.symm hne)
        refine rr_nil ?_
        refine rb_all (fuel := 0) (rs := [7]) (by kernel_rfl) (by kernel_rfl) rfl ?_
        rw [List.forall_mem_singleton]
        refine k_storeV (n := 2) rfl rfl hrl hro hb12 (by first | rfl | assumption) (fun w14 hc14 hb12' => ⟨fun _ h => h.chg hc14 (by omega), ?_⟩)
        replace hEx := hEx.chg hc14 (by omega)
        replace hz6 := hz6.chgO hc14 off12q
        replace hz10 := hz10.chgO hc14 off12r
        replace hb12 := hb12'
        replace hb11 := hb11.chg hc14 hne
        refine rr_nil ?_
        refine rb_done (by kernel_rfl) ?_
        exact then_normal ⟨⟨(g11, g12, qs, rs), ⟨hEx, ⟨lo11, lo12, hne⟩, hb11, hb12, hql, hrl, hqo, hro, hz6, hz10, off11q, off11r, off12q, off12r⟩, rfl, rfl, trivial⟩, (by (repeat (first | exact agree_refl _ _ | refine agree_upd rfl ?_ | refine agree_updO rfl ?_ | refine agree_overIn rfl ?_ | refine agree_maskIn rfl ?_)))⟩
    · refine k_alloc (fun g11 w11 hn11 => ⟨fun _ h => h.trans hn11.ex, ?_⟩)
      try have off11q : Off g11 (.agg qs.toArray) := hz6.off_hi hn11.lo
      try have off11r : Off g11 (.agg rs.toArray) := hz10.off_hi hn11.lo
      try have hne : g11 ≠ g12 := (by have := hb12.lt; have := hn11.lo; omega)
      have lo11 : w4.heap.size ≤ g11 := Nat.le_trans hEx.size hn11.lo
      have hb11 := hn11.blk
      replace hEx := hEx.trans hn11.ex
      try replace hz6 := hz6.ext hn11.ex
      try replace hz10 := hz10.ext hn11.ex
      try replace hb12 := hb12.ext hn11.ex
      refine rr_nil ?_
      refine rb_all (fuel := 3) (rs := [1]) (by kernel_rfl) (by kernel_rfl) rfl ?_
      rw [List.forall_mem_singleton]
      refine k_call (refAbs_spec (hi1.ext hEx)) rfl ?_
      rintro v6 w6' ⟨hz6, hE6'⟩
      refine ⟨fun _ h => h.trans hE6', ?_⟩
      simp only [Int.natAbs_natCast] at hz6
      obtain ⟨qs, rfl, hql, hqo⟩ := hz6.out
      try have off11q : Off g11 (.agg qs.toArray) := hz6.off_lo hb11.lt
      try have off12q : Off g12 (.agg qs.toArray) := hz6.off_lo hb12.lt
      replace hz6 := hz6.mono (lo' := w4.heap.size) hEx.size
      replace hEx := hEx.trans hE6'
      try replace hb11 := hb11.ext hE6'
      try replace hb12 := hb12.ext hE6'
      refine rr_nil ?_
      refine rb_all (fuel := 2) (rs := [3]) (by kernel_rfl) (by kernel_rfl) rfl ?_
      rw [List.forall_mem_singleton]
      refine k_call (refAbs_spec (hi2.ext hEx)) rfl ?_
      rintro v10 w10' ⟨hz10, hE10'⟩
      refine ⟨fun _ h => h.trans hE10', ?_⟩
      simp only [Int.natAbs_natCast] at hz10
      obtain ⟨rs, rfl, hrl, hro⟩ := hz10.out
      try have off11r : Off g11 (.agg rs.toArray) := hz10.off_lo hb11.lt
      try have off12r : Off g12 (.agg rs.toArray) := hz10.off_lo hb12.lt
      replace hz10 := hz10.mono (lo' := w4.heap.size) hEx.size
      replace hz6 := hz6.ext hE10'
      replace hEx := hEx.trans hE10'
      try replace hb11 := hb11.ext hE10'
      try replace hb12 := hb12.ext hE10'
      refine rr_nil ?_
      refine rb_all (fuel := 1) (rs := [6]) (by kernel_rfl) (by kernel_rfl) rfl ?_
      rw [List.forall_mem_singleton]
      refine k_storeV (n := 2) rfl rfl hql hqo hb11 (by first | rfl | assumption) (fun w13 hc13 hb11' => ⟨fun _ h => h.chg hc13 (by omega), ?_⟩)
      replace hEx := hEx.chg hc13 (by omega)
      replace hz6 := hz6.chgO hc13 off11q
      replace hz10 := hz10.chgO hc13 off11r
      replace hb11 := hb11'
      replace hb12 := hb12.chg hc13 (Ne.symm hne)
      refine rr_nil ?_
      refine rb_all (fuel := 0) (rs := [7]) (by kernel_rfl) (by kernel_rfl) rfl ?_
      rw [List.forall_mem_singleton]
      refine k_storeV (n := 2) rfl rfl hrl hro hb12 (by first | rfl | assumption) (fun w14 hc14 hb12' => ⟨fun _ h => h.chg hc14 (by omega), ?_⟩)
      replace hEx := hEx.chg hc14 (by omega)
      replace hz6 := hz6.chgO hc14 off12q
      replace hz10 := hz10.chgO hc14 off12r
      replace hb12 := hb12'
      replace hb11 := hb11.chg hc14 hne
      refine rr_nil ?_
      refine rb_done (by kernel_rfl) ?_
      exact then_normal ⟨⟨(g11, g12, qs, rs), ⟨hEx, ⟨lo11, lo12, hne⟩, hb11, hb12, hql, hrl, hqo, hro, hz6, hz10, off11q, off11r, off12q, off12r⟩, rfl, rfl, trivial⟩, (by (repeat (first | exact agree_refl _ _ | refine agree_upd rfl ?_ | refine agree_updO rfl ?_ | refine agree_overIn rfl ?_ | refine agree_maskIn rfl ?_)))⟩
  rintro ⟨g5, g6, qs0, rs0⟩ ξ w5 ⟨hE5, hg56, hb5, hb6, hql0, hrl0, hqo0, hro0, hzq0, hzr0, hoff⟩
  simp only at hg56 hb5 hb6 hql0 hrl0 hqo0 hro0 hzq0 hzr0 hoff
  show CW _ _ _ _ (over [(5, .pointer (some ⟨g5, 0, none⟩)), (6, .pointer (some ⟨g6, 0, none⟩))] _) w5
  repeat' (first | (refine k_pure rfl ?_) | (refine then_normal ?_) | (refine cw_seq ?_) | (refine cw_region rfl ?_) | (refine rr_nil ?_) | (refine k_len rfl ?_) | (refine g_run rfl rfl ?_) | (refine g_skip rfl rfl ?_) | (refine g_dec_f rfl rfl (fun hc => ?_) (fun hc => ?_)) | (refine g_dec_t rfl rfl (fun hc => ?_) (fun hc => ?_)) | (refine g_ndec_f rfl rfl (fun hc => ?_) (fun hc => ?_)) | (refine g_ndec_t rfl rfl (fun hc => ?_) (fun hc => ?_)) | (refine g_split rfl rfl (fun hc => ?_) (fun hc => ?_)) | (refine k_addI rfl rfl (by omega) (by omega) ?_) | (refine k_subI rfl rfl (by omega) (by omega) ?_) | (refine k_fieldAddr rfl ?_) | (refine k_eqlB rfl rfl ?_) | (refine k_neqB rfl rfl ?_) | (refine cw_cond_true rfl ?_) | (refine cw_cond_false rfl ?_) | (refine cw_cond_dec rfl (fun hc => ?_) (fun hc => ?_)) | (refine cw_cond_ndec rfl (fun hc => ?_) (fun hc => ?_)) | (refine cw_cond rfl (fun hc => ?_) (fun hc => ?_)) | (refine cw_block ?_) | (refine cw_exit ?_) | (refine then_exit ?_) | (refine in_exit ?_) | (refine in_exit_ne rfl ?_) | (refine in_normal ?_) | (refine cw_ret ?_) | (refine then_ret ?_) | (refine in_ret ?_) | (refine cw_skip ?_))
  refine cw_loop (ι := Nat × Nat × List Value × List Value) [11, 12, 13, 14, 15, 16, 17] (fun _ => [])
    (fun s w' => Ex w4 w' ∧ w5.heap.size ≤ w'.heap.size ∧ Nat.gcd s.1 s.2.1 = Nat.gcd x y ∧ s.1 < 18446744073709551616 ∧ s.2.1 < 18446744073709551616 ∧ Blk w' g5 34 s.2.2.1 ∧ Blk w' g6 34 s.2.2.2 ∧ s.2.2.1.length = 2 ∧ s.2.2.2.length = 2 ∧ s.2.2.1.all Value.oneCell' = true ∧ s.2.2.2.all Value.oneCell' = true ∧ IntC w4.heap.size w' (.agg s.2.2.1.toArray) (s.1 : Int) ∧ IntC w4.heap.size w' (.agg s.2.2.2.toArray) (s.2.1 : Int) ∧
      (Off g5 (.agg s.2.2.1.toArray) ∧ Off g5 (.agg s.2.2.2.toArray) ∧ Off g6 (.agg s.2.2.1.toArray) ∧ Off g6 (.agg s.2.2.2.toArray))) (fun s => s.2.1)
    (x, y, qs0, rs0) trivial ⟨hE5, Nat.le_refl _, rfl, hx, hy, hb5, hb6, hql0, hrl0, hqo0, hro0, hzq0, hzr0, hoff⟩ ?_
  rintro ⟨p, q, qs, rs⟩ ξ2 w6 ⟨hE6, hs6, hg, hp64, hq64, hb56, hb66, hql, hrl, hqo, hro, hzq, hzr, o1, o2, o3, o4⟩
  simp only at hg hp64 hq64 hb56 hb66 hql hrl hqo hro hzq hzr o1 o2 o3 o4
  show CW _ _ _ _ (mask _ _ _) w6
  repeat' (first | (refine k_loadCA rfl hb66 hrl ?_) | (refine k_pure rfl ?_) | (refine then_normal ?_) | (refine cw_seq ?_) | (refine cw_region rfl ?_) | (refine rr_nil ?_) | (refine k_len rfl ?_) | (refine g_run rfl rfl ?_) | (refine g_skip rfl rfl ?_) | (refine g_dec_f rfl rfl (fun hc => ?_) (fun hc => ?_)) | (refine g_dec_t rfl rfl (fun hc => ?_) (fun hc => ?_)) | (refine g_ndec_f rfl rfl (fun hc => ?_) (fun hc => ?_)) | (refine g_ndec_t rfl rfl (fun hc => ?_) (fun hc => ?_)) | (refine g_split rfl rfl (fun hc => ?_) (fun hc => ?_)) | (refine k_addI rfl rfl (by omega) (by omega) ?_) | (refine k_subI rfl rfl (by omega) (by omega) ?_) | (refine k_fieldAddr rfl ?_) | (refine k_eqlB rfl rfl ?_) | (refine k_neqB rfl rfl ?_) | (refine cw_cond_true rfl ?_) | (refine cw_cond_false rfl ?_) | (refine cw_cond_dec rfl (fun hc => ?_) (fun hc => ?_)) | (refine cw_cond_ndec rfl (fun hc => ?_) (fun hc => ?_)) | (refine cw_cond rfl (fun hc => ?_) (fun hc => ?_)) | (refine cw_block ?_) | (refine cw_exit ?_) | (refine then_exit ?_) | (refine in_exit ?_) | (refine in_exit_ne rfl ?_) | (refine in_normal ?_) | (refine cw_ret ?_) | (refine then_ret ?_) | (refine in_ret ?_) | (refine cw_skip ?_))
  refine k_call (refSign_spec hzr) rfl ?_
  rintro v w7 ⟨rfl, hE7⟩
  refine ⟨fun _ _ => trivial, ?_⟩
  have hb57 := hb56.ext hE7
  have hb67 := hb66.ext hE7
  have s7 := hE7.size
  have m5 := hb5.lt
  have m6 := hb6.lt
  by_cases hq0 : q = 0
  · subst hq0
    repeat' (first | (refine k_neF rfl rfl (by simp) ?_) | (refine k_loadCA rfl hb57 hql ?_) | (refine k_pure rfl ?_) | (refine then_normal ?_) | (refine cw_seq ?_) | (refine cw_region rfl ?_) | (refine rr_nil ?_) | (refine k_len rfl ?_) | (refine g_run rfl rfl ?_) | (refine g_skip rfl rfl ?_) | (refine g_dec_f rfl rfl (fun hc => ?_) (fun hc => ?_)) | (refine g_dec_t rfl rfl (fun hc => ?_) (fun hc => ?_)) | (refine g_ndec_f rfl rfl (fun hc => ?_) (fun hc => ?_)) | (refine g_ndec_t rfl rfl (fun hc => ?_) (fun hc => ?_)) | (refine g_split rfl rfl (fun hc => ?_) (fun hc => ?_)) | (refine k_addI rfl rfl (by omega) (by omega) ?_) | (refine k_subI rfl rfl (by omega) (by omega) ?_) | (refine k_fieldAddr rfl ?_) | (refine k_eqlB rfl rfl ?_) | (refine k_neqB rfl rfl ?_) | (refine cw_cond_true rfl ?_) | (refine cw_cond_false rfl ?_) | (refine cw_cond_dec rfl (fun hc => ?_) (fun hc => ?_)) | (refine cw_cond_ndec rfl (fun hc => ?_) (fun hc => ?_)) | (refine cw_cond rfl (fun hc => ?_) (fun hc => ?_)) | (refine cw_block ?_) | (refine cw_exit ?_) | (refine then_exit ?_) | (refine in_exit ?_) | (refine in_exit_ne rfl ?_) | (refine in_normal ?_) | (refine cw_ret ?_) | (refine then_ret ?_) | (refine in_ret ?_) | (refine cw_skip ?_))
    have hE47 := hE6.trans hE7
    refine k_storeV (n := 2) rfl rfl hql hqo (hb4.ext hE47) rfl (fun w8 hc8 hb8 => ⟨fun _ _ => trivial, ?_⟩)
    repeat' (first | (refine k_pure rfl ?_) | (refine then_normal ?_) | (refine cw_seq ?_) | (refine cw_region rfl ?_) | (refine rr_nil ?_) | (refine k_len rfl ?_) | (refine g_run rfl rfl ?_) | (refine g_skip rfl rfl ?_) | (refine g_dec_f rfl rfl (fun hc => ?_) (fun hc => ?_)) | (refine g_dec_t rfl rfl (fun hc => ?_) (fun hc => ?_)) | (refine g_ndec_f rfl rfl (fun hc => ?_) (fun hc => ?_)) | (refine g_ndec_t rfl rfl (fun hc => ?_) (fun hc => ?_)) | (refine g_split rfl rfl (fun hc => ?_) (fun hc => ?_)) | (refine k_addI rfl rfl (by omega) (by omega) ?_) | (refine k_subI rfl rfl (by omega) (by omega) ?_) | (refine k_fieldAddr rfl ?_) | (refine k_eqlB rfl rfl ?_) | (refine k_neqB rfl rfl ?_) | (refine cw_cond_true rfl ?_) | (refine cw_cond_false rfl ?_) | (refine cw_cond_dec rfl (fun hc => ?_) (fun hc => ?_)) | (refine cw_cond_ndec rfl (fun hc => ?_) (fun hc => ?_)) | (refine cw_cond rfl (fun hc => ?_) (fun hc => ?_)) | (refine cw_block ?_) | (refine cw_exit ?_) | (refine then_exit ?_) | (refine in_exit ?_) | (refine in_exit_ne rfl ?_) | (refine in_normal ?_) | (refine cw_ret ?_) | (refine then_ret ?_) | (refine in_ret ?_) | (refine cw_skip ?_))
    rw [Nat.gcd_zero_right] at hg
    rw [← hg]
    exact ret1 rfl (rc rfl hql hb8) ⟨((hzq.ext hE7).chgO hc8 (hzq.off_lo (by omega))).mono hE.size, (hE.trans hE47).chg hc8 (by omega)⟩
  · have hsg : ((q : Nat) : Int).sign = 1 := Int.sign_eq_one_of_pos (by omega)
    rw [hsg]
    repeat' (first | (refine k_pure rfl ?_) | (refine then_normal ?_) | (refine cw_seq ?_) | (refine cw_region rfl ?_) | (refine rr_nil ?_) | (refine k_len rfl ?_) | (refine g_run rfl rfl ?_) | (refine g_skip rfl rfl ?_) | (refine g_dec_f rfl rfl (fun hc => ?_) (fun hc => ?_)) | (refine g_dec_t rfl rfl (fun hc => ?_) (fun hc => ?_)) | (refine g_ndec_f rfl rfl (fun hc => ?_) (fun hc => ?_)) | (refine g_ndec_t rfl rfl (fun hc => ?_) (fun hc => ?_)) | (refine g_split rfl rfl (fun hc => ?_) (fun hc => ?_)) | (refine k_addI rfl rfl (by omega) (by omega) ?_) | (refine k_subI rfl rfl (by omega) (by omega) ?_) | (refine k_fieldAddr rfl ?_) | (refine k_eqlB rfl rfl ?_) | (refine k_neqB rfl rfl ?_) | (refine cw_cond_true rfl ?_) | (refine cw_cond_false rfl ?_) | (refine cw_cond_dec rfl (fun hc => ?_) (fun hc => ?_)) | (refine cw_cond_ndec rfl (fun hc => ?_) (fun hc => ?_)) | (refine cw_cond rfl (fun hc => ?_) (fun hc => ?_)) | (refine cw_block ?_) | (refine cw_exit ?_) | (refine then_exit ?_) | (refine in_exit ?_) | (refine in_exit_ne rfl ?_) | (refine in_normal ?_) | (refine cw_ret ?_) | (refine then_ret ?_) | (refine in_ret ?_) | (refine cw_skip ?_))
    refine cw_drawT (late := [4, 5]) (plan := [(0, none), (1, none), (2, none), (3, some true), (4, some false), (5, some false)]) (fun w' => Blk w' g5 34 qs ∧ Blk w' g6 34 rs) mixed (by kernel_rfl) ⟨hb57.drew, hb67.drew⟩ ?_
    have hEd : Ex w7 w7.drew := (Ex.refl w7).drew
    repeat' (first | (refine k_loadCA rfl (fun _ h => h.1) hql ?_) | (refine k_loadCA rfl (fun _ h => h.2) hrl ?_) | (refine k_pure rfl ?_) | (refine then_normal ?_) | (refine cw_seq ?_) | (refine cw_region rfl ?_) | (refine rr_nil ?_) | (refine k_len rfl ?_) | (refine g_run rfl rfl ?_) | (refine g_skip rfl rfl ?_) | (refine g_dec_f rfl rfl (fun hc => ?_) (fun hc => ?_)) | (refine g_dec_t rfl rfl (fun hc => ?_) (fun hc => ?_)) | (refine g_ndec_f rfl rfl (fun hc => ?_) (fun hc => ?_)) | (refine g_ndec_t rfl rfl (fun hc => ?_) (fun hc => ?_)) | (refine g_split rfl rfl (fun hc => ?_) (fun hc => ?_)) | (refine k_addI rfl rfl (by omega) (by omega) ?_) | (refine k_subI rfl rfl (by omega) (by omega) ?_) | (refine k_fieldAddr rfl ?_) | (refine k_eqlB rfl rfl ?_) | (refine k_neqB rfl rfl ?_) | (refine cw_cond_true rfl ?_) | (refine cw_cond_false rfl ?_) | (refine cw_cond_dec rfl (fun hc => ?_) (fun hc => ?_)) | (refine cw_cond_ndec rfl (fun hc => ?_) (fun hc => ?_)) | (refine cw_cond rfl (fun hc => ?_) (fun hc => ?_)) | (refine cw_block ?_) | (refine cw_exit ?_) | (refine then_exit ?_) | (refine in_exit ?_) | (refine in_exit_ne rfl ?_) | (refine in_normal ?_) | (refine cw_ret ?_) | (refine then_ret ?_) | (refine in_ret ?_) | (refine cw_skip ?_))
    refine k_call (refRem_small ((hzq.ext hE7).ext hEd) ((hzr.ext hE7).ext hEd) hp64 (by omega) hq64) rfl ?_
    rintro v w8 ⟨hz8, hE8⟩
    refine ⟨fun _ h => ⟨h.1.ext hE8, h.2.ext hE8⟩, ?_⟩
    obtain ⟨ts, rfl, htl, hto⟩ := hz8.out
    have s8 := hE8.size
    have s7d : w7.drew.heap.size = w7.heap.size := rfl
    have hb58 := (hb57.drew).ext hE8
    have hb68 := (hb67.drew).ext hE8
    refine k_storeV (n := 2) rfl rfl hrl hro hb58 hql (fun w9 hc9 hb59 => ⟨fun h => absurd h (by decide), ?_⟩)
    refine k_storeV (n := 2) rfl rfl htl hto (hb68.chg hc9 (Ne.symm hg56.2.2)) hrl (fun w10 hc10 hb610 => ⟨fun h => absurd h (by decide), ?_⟩)
    repeat' (first | (refine k_pure rfl ?_) | (refine then_normal ?_) | (refine cw_seq ?_) | (refine cw_region rfl ?_) | (refine rr_nil ?_) | (refine k_len rfl ?_) | (refine g_run rfl rfl ?_) | (refine g_skip rfl rfl ?_) | (refine g_dec_f rfl rfl (fun hc => ?_) (fun hc => ?_)) | (refine g_dec_t rfl rfl (fun hc => ?_) (fun hc => ?_)) | (refine g_ndec_f rfl rfl (fun hc => ?_) (fun hc => ?_)) | (refine g_ndec_t rfl rfl (fun hc => ?_) (fun hc => ?_)) | (refine g_split rfl rfl (fun hc => ?_) (fun hc => ?_)) | (refine k_addI rfl rfl (by omega) (by omega) ?_) | (refine k_subI rfl rfl (by omega) (by omega) ?_) | (refine k_fieldAddr rfl ?_) | (refine k_eqlB rfl rfl ?_) | (refine k_neqB rfl rfl ?_) | (refine cw_cond_true rfl ?_) | (refine cw_cond_false rfl ?_) | (refine cw_cond_dec rfl (fun hc => ?_) (fun hc => ?_)) | (refine cw_cond_ndec rfl (fun hc => ?_) (fun hc => ?_)) | (refine cw_cond rfl (fun hc => ?_) (fun hc => ?_)) | (refine cw_block ?_) | (refine cw_exit ?_) | (refine then_exit ?_) | (refine in_exit ?_) | (refine in_exit_ne rfl ?_) | (refine in_normal ?_) | (refine cw_ret ?_) | (refine then_ret ?_) | (refine in_ret ?_) | (refine cw_skip ?_))
    have hlt : p % q < q := Nat.mod_lt _ (by omega)
    have oo5 := hz8.off_lo (g := g5) (by omega)
    have oo6 := hz8.off_lo (g := g6) (by omega)
    have s4 := hE6.size
    have s9 := hc9.size
    have s10 := hc10.size
    refine ⟨⟨(q, p % q, rs, ts), ⟨(((hE6.trans hE7).trans hEd).trans hE8 |>.chg hc9 hg56.1).chg hc10 hg56.2.1, by omega, ?_, hq64, by simp only; omega, hb59.chg hc10 hg56.2.2, hb610, hrl, htl, hro, hto, ((((hzr.ext hE7).ext hEd).ext hE8).chgO hc9 o2).chgO hc10 o4, ((hz8.chgO hc9 oo5).chgO hc10 oo6).mono (by omega), o2, oo5, o4, oo6⟩, hlt, trivial⟩, (by (repeat (first | exact agree_mask _ _ _ | refine agree_upd rfl ?_ | refine agree_updO rfl ?_ | refine agree_overIn rfl ?_ | refine agree_maskIn rfl ?_)))⟩
    simp only
    rw [← hg, Nat.gcd_comm p q, Nat.gcd_rec q p, Nat.gcd_comm]
end Go.Proofs.Ytmedmmginnfjgaa
