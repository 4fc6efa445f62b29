
import Derived.Test.YthhfjagnmhhapaaA01
import Derived.Test.YthhfjagnmhhapaaA02
import Derived.Test.YthhfjagnmhhapaaA03
import Derived.Test.YthhfjagnmhhapaaA04
import Derived.Test.YthhfjagnmhhapaaA05
import Derived.Test.YthhfjagnmhhapaaA06
import Derived.Test.YthhfjagnmhhapaaA08
import Derived.Test.YthhfjagnmhhapaaA16
import Derived.Test.YthhfjagnmhhapaaA17
import Derived.Test.YthhfjagnmhhapaaA18
import Derived.Test.YthhfjagnmhhapaaA19
import Derived.Test.YthhfjagnmhhapaaA22
import Derived.Test.YthhfjagnmhhapaaA24

namespace Go.Proofs.Ythhfjagnmhhapaa
open Go.W Go.PM Go.LM
set_option maxHeartbeats 1000000 in
theorem stabs_calls {pts point : Int} (hp : 0 ≤ pts ∧ pts ≤ 255) {la : Option Addr} {sds : List SD} {Ls : List (List Int)} {w : World} (hL : Lists w .i8 la sds Ls) (hI : ∀ i, I8 (Ls.getD i [])) (c : Nat) (hl : Ls.length ≤ 9223372036854775807) (few : Bool) :
    CallsR Try.prog 9 #[.agg (permsL pts la Ls.length c few).toArray, .int .i64 point] w fun v w' => v = .bool true ∧ Ex w w' := by
  refine callsR_of (args := [_, _]) Try.func9 rfl rfl ?_
  repeat' (first | (refine k_boxA rfl (fun g w1 hn1 => ⟨fun _ _ => trivial, ?_⟩)) | (refine k_pure rfl ?_) | (refine then_normal ?_) | (refine cw_seq ?_) | (refine cw_region rfl ?_) | (refine rr_nil ?_))
  have hd1 : 0 ≤ pts % 8 := Int.emod_nonneg _ (by omega)
  have hd2 : pts % 8 < 8 := Int.emod_lt_of_pos _ (by omega)
  obtain ⟨n, hn⟩ : ∃ n : Nat, 1 + pts % 8 = (n : Int) := ⟨(1 + pts % 8).toNat, by omega⟩
  have hn8 : 1 ≤ n ∧ n ≤ 8 := by omega
  refine cw_draw (late := []) (plan := [(0, none), (2, none), (1, some true), (3, some true), (4, none), (5, none)]) (fun w' => Blk w' g 35 (permsL pts la Ls.length c few)) mixed (by kernel_rfl) hn1.blk.drew ?_
  have hE1 : Ex w w1.drew := hn1.ex.drew
  repeat' (first | (refine k_loadCA rfl (fun _ h => h) rfl ?_))
  refine k_call (degree_spec hp _ _ _ _ (by omega) _) rfl ?_
  rintro v w2 ⟨rfl, hE2⟩
  refine ⟨fun _ h => h.ext hE2, ?_⟩
  rw [hn]
  refine k_call (gens_spec hp (by omega) hn (hL.ext (hE1.trans hE2)) hI _ hl few) rfl ?_
  rintro v w3 ⟨b, cc, ss, xss, rfl, hO, hx3, hG, hA, hE3⟩
  refine ⟨fun _ h => h.ext hE3, ?_⟩
  have hE03 : Ex w w3 := (hE1.trans hE2).trans hE3
  have hLs := hO.lists
  have hle := hLs.len
  rw [hle]
  have hes : errS (n : Int) xss = 0 := errS_ok hn8.1 (by omega) (by omega) hG
  repeat' (first | (refine k_remT rfl rfl (by decide) ?_) | (refine k_pure rfl ?_) | (refine then_normal ?_) | (refine cw_seq ?_) | (refine cw_region rfl ?_) | (refine rr_nil ?_))
  refine k_lit (cs := (intsL [point, point.tmod 9, 0, (n : Int)]).toArray) rfl (by kernel_rfl) (fun g4 w4 hn4 => ⟨fun _ _ => trivial, ?_⟩)
  have hb4 := hn4.blk.sl
  repeat' (first | (refine k_pure rfl ?_) | (refine then_normal ?_) | (refine rr_nil ?_) | (refine k_len rfl ?_) | (refine cw_block ?_))
  refine cw_loop (ι := Nat) [4, 8, 9, 10, 11, 12, 23, 24, 25, 26, 27, 28, 29, 30, 31, 32, 33, 34, 35, 36, 37, 38, 39, 40, 41, 42, 43, 44, 45, 46, 47, 48, 49, 50] (fun s => [(23, .int .i64 (s : Int))]) (fun s w' => s ≤ 4 ∧ Ex w4 w') (fun s => 4 - s)
    0 ⟨rfl, trivial⟩ ⟨by omega, Ex.refl _⟩ ?_
  rintro i ξ w5 ⟨hi, hE5⟩
  show CW _ _ _ _ (over [(23, .int .i64 (i : Int))] _) w5
  have hE35 := hn4.ex.trans hE5
  by_cases hi4 : i < 4
  · repeat' (first | (refine k_lssT rfl rfl (by omega) ?_) | (refine k_indexN (j := i) rfl rfl ⟨_, _, rfl⟩ hi4 ?_) | (refine k_loadI rfl (hb4.ext hE5) hi4 ?_) | (refine k_pure rfl ?_) | (refine then_normal ?_) | (refine cw_seq ?_) | (refine cw_region rfl ?_) | (refine rr_nil ?_) | (refine cw_cond_true rfl ?_) | (refine cw_block ?_) | (refine cw_skip ?_))
    generalize [point, point.tmod 9, 0, (n : Int)].getD i 0 = y
    refine k_call (sStab_spec (n := (n : Int)) (x := y) (cap := cc) (hLs.ext hE35) (by omega) (fun _ => by omega)) rfl ?_
    rintro v w6 ⟨z6, rfl, hE6, hz6a, hz6b⟩
    refine ⟨fun _ _ => trivial, ?_⟩
    obtain ⟨k6, hz6, hk6⟩ : ∃ k : Nat, IntC w5.heap.size w6 z6 (k : Int) ∧ ((errT (n : Int) xss y = 0 ∧ Card (Stab (Gen n xss) y) k) ∨ (errT (n : Int) xss y ≠ 0 ∧ k = 0)) := by
      by_cases he : errT (n : Int) xss y = 0
      · obtain ⟨k, h1, h2⟩ := hz6b he
        exact ⟨k, h2, .inl ⟨he, h1⟩⟩
      · exact ⟨0, hz6a he, .inr ⟨he, rfl⟩⟩
    obtain ⟨cs6, rfl, hcl6, hco6⟩ := hz6.out
    repeat' (first | (refine k_pure rfl ?_))
    refine k_allocA (vs := intL false none 0 0) (fun g7 w7 hn7 => ⟨fun _ _ => trivial, ?_⟩)
    refine k_storeV (n := 2) rfl rfl hcl6 hco6 hn7.blk rfl (fun w8 hc8 hb8 => ⟨fun _ _ => trivial, ?_⟩)
    have hX8 : Ex w5 w8 := (hE6.trans hn7.ex).chg hc8 (by have h1 := hn7.lo; have h2 := hE6.size; omega)
    have hq8 := (hz6.ext hn7.ex).chgO hc8 (hz6.off_hi hn7.lo)
    repeat' (first | (refine k_pure rfl ?_) | (refine then_normal ?_) | (refine cw_seq ?_) | (refine cw_region rfl ?_) | (refine rr_nil ?_))
    refine k_call (rStab_spec (n := (n : Int)) (x := y) (cap := cc) (hLs.ext (hE35.trans hX8)) (by omega) (fun _ => by omega)) rfl ?_
    rintro v w9 ⟨z9, rfl, hE9, hz9a, hz9b⟩
    refine ⟨fun _ _ => trivial, ?_⟩
    have hz9 : IntC w8.heap.size w9 z9 (k6 : Int) := by
      rcases hk6 with ⟨he, hk⟩ | ⟨he, rfl⟩
      · obtain ⟨k, h1, h2⟩ := hz9b he
        rw [h1.unique hk] at h2; exact h2
      · exact hz9a he
    obtain ⟨cs9, rfl, hcl9, hco9⟩ := hz9.out
    repeat' (first | (refine k_pure rfl ?_))
    refine k_allocA (vs := intL false none 0 0) (fun g10 w10 hn10 => ⟨fun _ _ => trivial, ?_⟩)
    refine k_storeV (n := 2) rfl rfl hcl9 hco9 hn10.blk rfl (fun w11 hc11 hb11 => ⟨fun _ _ => trivial, ?_⟩)
    have hX11 : Ex w8 w11 := (hE9.trans hn10.ex).chg hc11 (by have h1 := hn10.lo; have h2 := hE9.size; omega)
    have hq11 := (hz9.ext hn10.ex).chgO hc11 (hz9.off_hi hn10.lo)
    have hb811 := hb8.ext hX11
    repeat' (first | (refine k_neqI rfl rfl ?_) | (refine k_loadCA (g := g7) rfl hb811 hcl6 ?_) | (refine k_loadCA (g := g10) rfl hb11 hcl9 ?_) | (refine k_pure rfl ?_) | (refine then_normal ?_) | (refine cw_seq ?_) | (refine cw_region rfl ?_) | (refine rr_nil ?_) | (refine g_run rfl rfl ?_))
    refine k_call (refSame_spec (hq8.ext hX11) hq11) rfl ?_
    rintro v w12 ⟨rfl, hE12⟩
    refine ⟨fun _ _ => trivial, ?_⟩
    rw [decide_eq_true (p := ((k6 : Nat) : Int) = ((k6 : Nat) : Int)) rfl]
    repeat' (first | (refine k_pure rfl ?_) | (refine then_normal ?_) | (refine cw_region rfl ?_) | (refine rr_nil ?_) | (refine g_run rfl rfl ?_) | (refine k_addI rfl rfl (by omega) (by omega) ?_) | (refine cw_cond_false rfl ?_) | (refine in_normal ?_) | (refine cw_skip ?_))
    refine ⟨⟨i + 1, ⟨by omega, ((hE5.trans hX8).trans hX11).trans hE12⟩, by omega, rfl, trivial⟩, (by (repeat (first | exact agree_mask _ _ _ | refine agree_upd rfl ?_ | refine agree_updO rfl ?_ | refine agree_overIn rfl ?_ | refine agree_maskIn rfl ?_)))⟩
  · repeat' (first | (refine k_lssF rfl rfl (by omega) ?_) | (refine then_normal ?_) | (refine cw_seq ?_) | (refine cw_region rfl ?_) | (refine rr_nil ?_) | (refine cw_cond_false rfl ?_) | (refine cw_exit ?_) | (refine then_exit ?_) | (refine in_exit ?_))
    refine k_call (awakeS_spec _) rfl ?_
    rintro v w11 ⟨rfl, hE11⟩
    refine ⟨fun _ _ => trivial, ?_⟩
    repeat' (first | (refine k_pure rfl ?_) | (refine then_normal ?_) | (refine rr_nil ?_) | (refine cw_ret ?_))
    exact ret1 rfl (rt rfl) ⟨rfl, (hE03.trans hE35).trans hE11⟩
end Go.Proofs.Ythhfjagnmhhapaa

