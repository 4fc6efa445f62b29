
import Derived.Test.YthhfjagnmhhapaaA01
import Derived.Test.YthhfjagnmhhapaaA02
import Derived.Test.YthhfjagnmhhapaaA03
import Derived.Test.YthhfjagnmhhapaaA04
import Derived.Test.YthhfjagnmhhapaaA06
import Derived.Test.YthhfjagnmhhapaaA08
import Derived.Test.YthhfjagnmhhapaaA16
import Derived.Test.YthhfjagnmhhapaaA17
import Derived.Test.YthhfjagnmhhapaaA18
import Derived.Test.YthhfjagnmhhapaaA19
import Derived.Test.YthhfjagnmhhapaaA21
import Derived.Test.YthhfjagnmhhapaaA22
import Derived.Test.YthhfjagnmhhapaaA24
import Derived.Test.YthhfjagnmhhapaaB01
import Derived.Test.YthhfjagnmhhapaaB02
import Derived.Test.YthhfjagnmhhapaaB03
import Derived.Test.YthhfjagnmhhapaaC01

namespace Go.Proofs.Ythhfjagnmhhapaa
open Go.W Go.PM Go.LM
set_option maxHeartbeats 4000000 in
theorem errors_calls {n x deg : Int} {gens S : List (List Int)} {q base cbase : List Int} {ga qa ba' cb sa : Option Addr} {sds ssd : List SD} {gc qc bc cbc sc : Nat} {w : World} (hL : Lists w .i64 ga sds gens) (hgl : gens.length ≤ 9223372036854775807) (hq : Sl w qa (intsL q)) (_hqm : q.length ≤ 9223372036854775807)
    (hb : Sl w ba' (intsL base)) (hbl : base.length ≤ bc) (_hbm : bc ≤ 9223372036854775807) (hcb : Sl w cb (intsL cbase)) (hcl : cbase.length ≤ cbc) (_hcm : cbc ≤ 9223372036854775807) (hS : Lists w .i64 sa ssd S) (hSm : S.length ≤ 9223372036854775807) :
    CallsR Try.prog 13 #[.int .i64 n, .slice ga gens.length gc, .slice qa q.length qc, .slice ba' base.length bc, .int .i64 x, .agg (chainL deg cb cbase.length cbc sa S.length sc).toArray] w fun v w' => v = .bool true ∧ Ex w w' := by
  refine callsR_of (args := [_, _, _, _, _, _]) Try.func13 rfl rfl ?_
  repeat' (first | (refine k_boxA rfl (fun g w1 hn1 => ⟨fun _ _ => trivial, ?_⟩)) | (refine k_pure rfl ?_) | (refine then_normal ?_) | (refine cw_seq ?_) | (refine cw_region rfl ?_) | (refine rr_nil ?_) | (refine k_len rfl ?_) | (refine g_run rfl rfl ?_) | (refine g_skip rfl rfl ?_) | (refine g_dec_f rfl rfl (fun hc => ?_) (fun hc => ?_)) | (refine k_fieldAddr rfl ?_) | (refine cw_cond_true rfl ?_))
  have hE1 := hn1.ex
  have hb1 := hn1.blk
  repeat' (first | (refine k_loadC (g := g) rfl hb1 rfl ?_) | (refine k_pure rfl ?_) | (refine then_normal ?_) | (refine cw_seq ?_) | (refine cw_region rfl ?_) | (refine rr_nil ?_) | (refine k_len rfl ?_) | (refine g_run rfl rfl ?_) | (refine g_skip rfl rfl ?_) | (refine g_dec_f rfl rfl (fun hc => ?_) (fun hc => ?_)) | (refine k_fieldAddr rfl ?_) | (refine cw_cond_true rfl ?_) | (refine cw_cond_dec rfl (fun hc => ?_) (fun hc => ?_)) | (refine cw_skip ?_))
  · refine k_call (awakeS_spec _) rfl ?_
    rintro v w2 ⟨rfl, hE2⟩
    refine ⟨fun _ _ => trivial, ?_⟩
    repeat' (first | (refine k_pure rfl ?_) | (refine then_normal ?_) | (refine rr_nil ?_) | (refine cw_ret ?_) | (refine then_ret ?_))
    exact ret1 rfl (rt rfl) ⟨rfl, hn1.ex.trans hE2⟩
  · refine k_call (group_ref_spec (n := n) (hL.ext hE1) gc (by omega)) rfl ?_
    rw [grp_errS]
    rintro v w2 ⟨rfl, hE2⟩
    refine ⟨fun _ _ => trivial, ?_⟩
    have hE02 := hE1.trans hE2
    have hbc := hb1.ext hE2
    have hE := hE02
    rcases (by omega : (errS n gens = 0 ∧ 8 < n) ∨ (errS n gens = 0 ∧ n ≤ 8) ∨ errS n gens ≠ 0) with h8 | h
    · repeat' (first | (refine k_eqT rfl rfl h8.1 ?_) | (refine k_gtrT rfl rfl h8.2 ?_) | (refine k_pure rfl ?_) | (refine then_normal ?_) | (refine cw_seq ?_) | (refine cw_region rfl ?_) | (refine rr_nil ?_) | (refine g_run rfl rfl ?_) | (refine cw_cond_true rfl ?_))
      refine k_call (awakeS_spec _) rfl ?_
      rintro v w3 ⟨rfl, hE3⟩
      refine ⟨fun _ _ => trivial, ?_⟩
      repeat' (first | (refine k_pure rfl ?_) | (refine then_normal ?_) | (refine rr_nil ?_) | (refine cw_ret ?_) | (refine then_ret ?_))
      exact ret1 rfl (rt rfl) ⟨rfl, hE02.trans hE3⟩
    have h11 : errS n gens = 0 → n ≤ 11 := fun h' => by omega
    rcases h with h0 | h0
    all_goals
      repeat' (first | (refine k_eqT rfl rfl h0.1 ?_) | (refine k_gtrF rfl rfl h0.2 ?_) | (refine k_eqF rfl rfl h0 ?_) | (refine k_pure rfl ?_) | (refine then_normal ?_) | (refine cw_seq ?_) | (refine cw_region rfl ?_) | (refine rr_nil ?_) | (refine g_run rfl rfl ?_) | (refine g_skip rfl rfl ?_) | (refine cw_cond_false rfl ?_) | (refine cw_skip ?_))
      refine k_call (sOrder_spec (n := n) (cap := gc) (hL.ext hE) (by omega) h11) rfl ?_
      rintro v x1 ⟨z1, rfl, hX1, hn1, ho1⟩
      refine ⟨fun _ _ => trivial, ?_⟩
      obtain ⟨cs1, rfl, hcl1, hco1⟩ : ∃ cs : List Value, z1 = .agg cs.toArray ∧ cs.length = 2 ∧ cs.all Value.oneCell' = true := by
        by_cases h : errS n gens = 0
        · obtain ⟨_, _, hz⟩ := ho1 h; exact hz.out
        · exact (hn1 h).out
      repeat' (first | (refine k_pure rfl ?_))
      refine k_allocA (vs := intL false none 0 0) (fun g1 y1 hm1 => ⟨fun _ _ => trivial, ?_⟩)
      refine k_storeV (n := 2) rfl rfl hcl1 hco1 hm1.blk rfl (fun u1 hc1 hbb1 => ⟨fun _ _ => trivial, ?_⟩)
      replace hE : Ex w u1 := hE.trans ((hX1.trans hm1.ex).chg hc1 (by have h1 := hm1.lo; have h2 := hX1.size; omega))
      replace hbc : Blk u1 g _ _ := ((hbc.ext hX1).ext hm1.ex).chg hc1 (by have h1 := hm1.lo; have h2 := hX1.size; have h3 := hbc.lt; omega)
      repeat' (first | (refine k_pure rfl ?_) | (refine then_normal ?_) | (refine cw_seq ?_) | (refine cw_region rfl ?_) | (refine rr_nil ?_))
      refine k_call (rOrder_spec (n := n) (cap := gc) (hL.ext hE) (by omega) h11) rfl ?_
      rintro v x2 ⟨z2, rfl, hX2, hn2, ho2⟩
      refine ⟨fun _ _ => trivial, ?_⟩
      obtain ⟨cs2, rfl, hcl2, hco2⟩ : ∃ cs : List Value, z2 = .agg cs.toArray ∧ cs.length = 2 ∧ cs.all Value.oneCell' = true := by
        by_cases h : errS n gens = 0
        · obtain ⟨_, _, hz⟩ := ho2 h; exact hz.out
        · exact (hn2 h).out
      repeat' (first | (refine k_pure rfl ?_))
      refine k_allocA (vs := intL false none 0 0) (fun g2 y2 hm2 => ⟨fun _ _ => trivial, ?_⟩)
      refine k_storeV (n := 2) rfl rfl hcl2 hco2 hm2.blk rfl (fun u2 hc2 hbb2 => ⟨fun _ _ => trivial, ?_⟩)
      replace hE : Ex w u2 := hE.trans ((hX2.trans hm2.ex).chg hc2 (by have h1 := hm2.lo; have h2 := hX2.size; omega))
      replace hbc : Blk u2 g _ _ := ((hbc.ext hX2).ext hm2.ex).chg hc2 (by have h1 := hm2.lo; have h2 := hX2.size; have h3 := hbc.lt; omega)
      repeat' (first | (refine k_pure rfl ?_) | (refine then_normal ?_) | (refine cw_seq ?_) | (refine cw_region rfl ?_) | (refine rr_nil ?_))
      refine k_call (sContains_spec (n := n) (p := q) (bc := qc) (cap := gc) (hL.ext hE) (by omega) h11 (hq.ext hE)) rfl ?_
      rintro v u3 ⟨hX3, t3, rfl, _⟩
      refine ⟨fun _ _ => trivial, ?_⟩
      replace hE : Ex w u3 := hE.trans hX3
      replace hbc : Blk u3 g _ _ := hbc.ext hX3
      repeat' (first | (refine k_pure rfl ?_) | (refine then_normal ?_) | (refine cw_seq ?_) | (refine cw_region rfl ?_) | (refine rr_nil ?_))
      refine k_call (rContains_spec (n := n) (p := q) (bc := qc) (cap := gc) (hL.ext hE) (by omega) h11 (hq.ext hE)) rfl ?_
      rintro v u4 ⟨hX4, t4, rfl, _⟩
      refine ⟨fun _ _ => trivial, ?_⟩
      replace hE : Ex w u4 := hE.trans hX4
      replace hbc : Blk u4 g _ _ := hbc.ext hX4
      repeat' (first | (refine k_pure rfl ?_) | (refine then_normal ?_) | (refine cw_seq ?_) | (refine cw_region rfl ?_) | (refine rr_nil ?_))
      refine k_call (sLengths_spec (n := n) (base := base) (bc := bc) (cap := gc) (hL.ext hE) (by omega) h11 (hb.ext hE) (by omega)) rfl ?_
      rintro v u5 ⟨hX5, r5, c5, L5, rfl, _, _, _⟩
      refine ⟨fun _ _ => trivial, ?_⟩
      replace hE : Ex w u5 := hE.trans hX5
      replace hbc : Blk u5 g _ _ := hbc.ext hX5
      repeat' (first | (refine k_pure rfl ?_) | (refine then_normal ?_) | (refine cw_seq ?_) | (refine cw_region rfl ?_) | (refine rr_nil ?_))
      refine k_call (rLengths_spec (n := n) (base := base) (bc := bc) (cap := gc) (hL.ext hE) (by omega) h11 (hb.ext hE) (by omega) hbl) rfl ?_
      rintro v u6 ⟨hX6, r6, c6, L6, rfl, _, _, _⟩
      refine ⟨fun _ _ => trivial, ?_⟩
      replace hE : Ex w u6 := hE.trans hX6
      replace hbc : Blk u6 g _ _ := hbc.ext hX6
      repeat' (first | (refine k_pure rfl ?_) | (refine then_normal ?_) | (refine cw_seq ?_) | (refine cw_region rfl ?_) | (refine rr_nil ?_))
      refine k_call (sStab_spec (n := n) (x := x) (cap := gc) (hL.ext hE) (by omega) h11) rfl ?_
      rintro v x7 ⟨z7, rfl, hX7, hn7, ho7⟩
      refine ⟨fun _ _ => trivial, ?_⟩
      obtain ⟨cs7, rfl, hcl7, hco7⟩ : ∃ cs : List Value, z7 = .agg cs.toArray ∧ cs.length = 2 ∧ cs.all Value.oneCell' = true := by
        by_cases h : errT n gens x = 0
        · obtain ⟨_, _, hz⟩ := ho7 h; exact hz.out
        · exact (hn7 h).out
      repeat' (first | (refine k_pure rfl ?_))
      refine k_allocA (vs := intL false none 0 0) (fun g7 y7 hm7 => ⟨fun _ _ => trivial, ?_⟩)
      refine k_storeV (n := 2) rfl rfl hcl7 hco7 hm7.blk rfl (fun u7 hc7 hbb7 => ⟨fun _ _ => trivial, ?_⟩)
      replace hE : Ex w u7 := hE.trans ((hX7.trans hm7.ex).chg hc7 (by have h1 := hm7.lo; have h2 := hX7.size; omega))
      replace hbc : Blk u7 g _ _ := ((hbc.ext hX7).ext hm7.ex).chg hc7 (by have h1 := hm7.lo; have h2 := hX7.size; have h3 := hbc.lt; omega)
      repeat' (first | (refine k_pure rfl ?_) | (refine then_normal ?_) | (refine cw_seq ?_) | (refine cw_region rfl ?_) | (refine rr_nil ?_))
      refine k_call (rStab_spec (n := n) (x := x) (cap := gc) (hL.ext hE) (by omega) h11) rfl ?_
      rintro v x8 ⟨z8, rfl, hX8, hn8, ho8⟩
      refine ⟨fun _ _ => trivial, ?_⟩
      obtain ⟨cs8, rfl, hcl8, hco8⟩ : ∃ cs : List Value, z8 = .agg cs.toArray ∧ cs.length = 2 ∧ cs.all Value.oneCell' = true := by
        by_cases h : errT n gens x = 0
        · obtain ⟨_, _, hz⟩ := ho8 h; exact hz.out
        · exact (hn8 h).out
      repeat' (first | (refine k_pure rfl ?_))
      refine k_allocA (vs := intL false none 0 0) (fun g8 y8 hm8 => ⟨fun _ _ => trivial, ?_⟩)
      refine k_storeV (n := 2) rfl rfl hcl8 hco8 hm8.blk rfl (fun u8 hc8 hbb8 => ⟨fun _ _ => trivial, ?_⟩)
      replace hE : Ex w u8 := hE.trans ((hX8.trans hm8.ex).chg hc8 (by have h1 := hm8.lo; have h2 := hX8.size; omega))
      replace hbc : Blk u8 g _ _ := ((hbc.ext hX8).ext hm8.ex).chg hc8 (by have h1 := hm8.lo; have h2 := hX8.size; have h3 := hbc.lt; omega)
      repeat' (first | (refine k_pure rfl ?_) | (refine then_normal ?_) | (refine cw_seq ?_) | (refine cw_region rfl ?_) | (refine rr_nil ?_))
      refine k_call (sBuild_spec (n := n) (cap := gc) (hL.ext hE) (by omega) h11) rfl ?_
      rintro v x9 ⟨hX9, deg9, b9, bc9, base9, sa9, sc9, ssd9, S9, rfl, _⟩
      refine ⟨fun _ _ => trivial, ?_⟩
      repeat' (first | (refine k_pure rfl ?_))
      refine k_allocA (vs := [.int .i64 0, .slice none 0 0, .slice none 0 0]) (fun g9 y9 hm9 => ⟨fun _ _ => trivial, ?_⟩)
      refine k_storeV (n := 3) rfl rfl rfl rfl hm9.blk rfl (fun u9 hc9 hbb9 => ⟨fun _ _ => trivial, ?_⟩)
      replace hE : Ex w u9 := hE.trans ((hX9.trans hm9.ex).chg hc9 (by have h1 := hm9.lo; have h2 := hX9.size; omega))
      replace hbc : Blk u9 g _ _ := ((hbc.ext hX9).ext hm9.ex).chg hc9 (by have h1 := hm9.lo; have h2 := hX9.size; have h3 := hbc.lt; omega)
      repeat' (first | (refine k_pure rfl ?_) | (refine then_normal ?_) | (refine cw_seq ?_) | (refine rr_nil ?_))
      have hEd : Ex u9 u9.drew := (Ex.refl _).drew
      refine cw_draw (late := []) (plan := [(0, none), (1, none), (2, none), (3, none), (4, none), (5, none), (6, none), (7, none), (8, none), (9, none), (10, none), (11, none), (12, none), (13, none), (14, none), (15, none), (16, none), (17, none), (18, none), (19, none), (20, none), (21, none), (22, some true), (23, none), (24, none), (25, none), (26, none), (27, none), (28, none), (30, none), (31, none), (32, none), (29, some true), (33, some true), (34, none), (35, none), (36, none), (37, some true), (38, none), (39, none)]) (fun w' => Ex u9 w') mixed (by kernel_rfl) hEd ?_
      repeat' (first | (refine k_eqlI rfl rfl ?_) | (refine k_pure rfl ?_) | (refine g_run rfl rfl ?_))
      refine k_call (group_ref_spec (n := n) (hL.ext (hE.trans hEd)) gc (by omega)) rfl ?_
      rw [grp_errS]
      rintro v v1 ⟨rfl, hV1⟩
      refine ⟨fun _ h => h.trans hV1, ?_⟩
      repeat' (first | (refine k_eqlI rfl rfl ?_) | (refine k_loadCA (g := g) rfl (fun _ h => hbc.ext h) rfl ?_) | (refine k_pure rfl ?_) | (refine g_run rfl rfl ?_))
      have hE1' := (hE.trans hEd).trans hV1
      refine k_call (sVerify_spec (n := n) (deg := deg) (cap := gc) (bc := cbc) (sc := sc) (hL.ext hE1') (by omega) h11 (hcb.ext hE1') (by omega) (hS.ext hE1') (by omega)) rfl ?_
      rintro v v2 ⟨e2, rfl, he2, hV2⟩
      refine ⟨fun _ h => h.trans hV2, ?_⟩
      repeat' (first | (refine g_run rfl rfl ?_))
      have hE2' := hE1'.trans hV2
      refine k_call (rVerify_spec (n := n) (deg := deg) (cap := gc) (bc := cbc) (sc := sc) (hL.ext hE2') (by omega) h11 (hcb.ext hE2') (by omega) hcl (hS.ext hE2') (by omega)) rfl ?_
      rintro v v3 ⟨e3, rfl, he3, hV3⟩
      refine ⟨fun _ h => h.trans hV3, ?_⟩
      obtain rfl : e3 = e2 := he3.unique he2
      repeat' (first | (refine k_eqlI rfl rfl ?_) | (refine k_pure rfl ?_) | (refine g_run rfl rfl ?_))
      refine k_call (awakeS_spec _) rfl ?_
      rintro v v4 ⟨rfl, hV4⟩
      refine ⟨fun _ h => h.trans hV4, ?_⟩
      repeat' (first | (refine k_pure rfl ?_) | (refine then_normal ?_) | (refine rr_nil ?_) | (refine cw_ret ?_))
      exact ret1 rfl (rt rfl) ⟨rfl, (hE2'.trans hV3).trans hV4⟩
  · refine k_call (awakeS_spec _) rfl ?_
    rintro v w2 ⟨rfl, hE2⟩
    refine ⟨fun _ _ => trivial, ?_⟩
    repeat' (first | (refine k_pure rfl ?_) | (refine then_normal ?_) | (refine rr_nil ?_) | (refine cw_ret ?_) | (refine then_ret ?_))
    exact ret1 rfl (rt rfl) ⟨rfl, hn1.ex.trans hE2⟩
  · refine k_call (awakeS_spec _) rfl ?_
    rintro v w2 ⟨rfl, hE2⟩
    refine ⟨fun _ _ => trivial, ?_⟩
    repeat' (first | (refine k_pure rfl ?_) | (refine then_normal ?_) | (refine rr_nil ?_) | (refine cw_ret ?_) | (refine then_ret ?_))
    exact ret1 rfl (rt rfl) ⟨rfl, hn1.ex.trans hE2⟩
  · refine k_call (awakeS_spec _) rfl ?_
    rintro v w2 ⟨rfl, hE2⟩
    refine ⟨fun _ _ => trivial, ?_⟩
    repeat' (first | (refine k_pure rfl ?_) | (refine then_normal ?_) | (refine rr_nil ?_) | (refine cw_ret ?_) | (refine then_ret ?_))
    exact ret1 rfl (rt rfl) ⟨rfl, hn1.ex.trans hE2⟩
  · refine k_call (awakeS_spec _) rfl ?_
    rintro v w2 ⟨rfl, hE2⟩
    refine ⟨fun _ _ => trivial, ?_⟩
    repeat' (first | (refine k_pure rfl ?_) | (refine then_normal ?_) | (refine rr_nil ?_) | (refine cw_ret ?_) | (refine then_ret ?_))
    exact ret1 rfl (rt rfl) ⟨rfl, hn1.ex.trans hE2⟩
end Go.Proofs.Ythhfjagnmhhapaa

namespace Go.W
open Go.ChangeShapes Go.WideShapes Go.ChangeAt Go.RowKit
theorem open_numsT {H : Type} {enc : TypeId × Value → H} {P : Program} {W : World} {t e : TypeId} {k : IntKind} {fuel : Nat} {v : Value} {x : DataW H × List MemPlace} (ht : P.underlying t = some (.slice e)) (he : P.underlying e = some (.int k)) (hc : P.cellsOf e = 1)
    (hf : DataW.trod enc P W 0 (fun _ => true) true fuel t [v] = some x) :
    ∃ (a : Option Addr) (xs : List Int) (c : Nat), v = .slice a xs.length c ∧ Sl W a (xs.map (Value.int k)) ∧ (∀ x ∈ xs, (Lit.int k x).wf = true) ∧ xs.length ≤ c ∧ c ≤ 9223372036854775807 := by
  rcases open_ints ht he hc hf with ⟨hcs, hx⟩ | ⟨a, len', cap', zs, hcs, _, hl, hm, hz, hx, hcell, hwz⟩
  · simp only [List.cons.injEq, and_true] at hcs
    subst hcs
    exact ⟨none, [], 0, rfl, Sl.nil _ _, by simp, by simp, by decide⟩
  · simp only [List.cons.injEq, and_true] at hcs
    subst hcs
    simp only [if_true] at hz
    have hlen : (zs.take len').length = len' := by simp; omega
    refine ⟨some a, zs.take len', cap', by rw [hlen], ⟨fun hne => ?_, fun j hj => ?_⟩, fun x hx => hwz x (List.mem_of_mem_take hx), by rw [hlen]; exact hl, by unfold maxLen at hm; omega⟩
    · have h0 : 0 < zs.length := by
        rcases Nat.eq_zero_or_pos zs.length with h | h
        · exact absurd (by rw [List.eq_nil_of_length_eq_zero h]; simp) hne
        · exact h
      obtain ⟨b, off, spot⟩ := a
      have hspot : spot = none := by simpa [Addr.add] using World.cell?_spot (hcell 0 h0)
      subst hspot
      exact ⟨b, off, rfl⟩
    · simp only [List.length_map, hlen] at hj
      have h0 : j < zs.length := by omega
      obtain ⟨b, off, spot⟩ := a
      have hspot : spot = none := by simpa [Addr.add] using World.cell?_spot (hcell 0 (by omega))
      subst hspot
      have := hcell j h0
      have e : (⟨b, off, none⟩ : Addr).add j = ⟨b, off + j, none⟩ := by unfold Addr.add; split <;> simp_all
      rw [e] at this
      simp only [elt]
      rw [this]
      simp [List.getD_eq_getElem?_getD, h0, hj]
end Go.W
namespace Go.Proofs.Ythhfjagnmhhapaa
open Go.W Go.ChangeShapes Go.WideShapes Go.ChangeAt Go.RowKit
set_option maxRecDepth 100000 in
theorem open_chain {H : Type} {enc : TypeId × Value → H} {W : World} {v : Value} {d : DataW H} {ps : List MemPlace} {r : Reach} {b0 : Nat} (hval : Value.okWide Try.prog W r b0 60 v) (h : DataW.Trod enc Try.prog W 0 (fun _ => true) true 60 v d ps) :
    ∃ (n : Int) (b : Option Addr) (base : List Int) (bc : Nat) (a : Option Addr) (sds : List SD) (Ls : List (List Int)) (c : Nat), v = .agg (chainL n b base.length bc a Ls.length c).toArray ∧ Sl W b (intsL base) ∧ base.length ≤ bc ∧ bc ≤ 9223372036854775807 ∧ Lists W .i64 a sds Ls ∧ Ls.length ≤ 9223372036854775807 := by
  obtain ⟨f0, f1, f2, hs, h0, h1, h2⟩ : ∃ f0 f1 f2, Try.prog.underlying 60 = some (.struct #[f0, f1, f2]) ∧ f0.type = 3 ∧ f1.type = 28 ∧ f2.type = 29 :=
    ⟨(Try.prog.fieldsOf 60)[0]!, (Try.prog.fieldsOf 60)[1]!, (Try.prog.fieldsOf 60)[2]!, by kernel_rfl, by kernel_rfl, by kernel_rfl, by kernel_rfl⟩
  have hone : Deep.oneCellFields Try.prog #[f0, f1, f2] = true := by
    have e : Try.prog.underlying 60 = some (.struct (Try.prog.fieldsOf 60)) := by kernel_rfl
    rw [hs] at e
    simp only [Option.some.injEq, TypeDesc.struct.injEq] at e
    have hk : Deep.oneCellFields Try.prog (Try.prog.fieldsOf 60) = true := by kernel_rfl
    rw [e]; exact hk
  obtain ⟨c0, c1, c2, y0, y1, y2, m, rfl, rfl, rfl, q0, q1, q2⟩ := Joins.open_agg3 hs hone (by kernel_rfl) hval h
  rw [h0] at q0
  rw [h1] at q1
  rw [h2] at q2
  obtain ⟨n, hn, _, hw⟩ := DataW.trod_int (k := .i64) (by kernel_rfl) q0
  obtain ⟨b, base, bc, rfl, hb, _, hbl, hbm⟩ := open_numsT (e := 3) (k := .i64) (by kernel_rfl) (by kernel_rfl) (by kernel_rfl) q1
  obtain ⟨a, sds, Ls, c, rfl, hL, hl, hle, hwf⟩ := open_rowsT (e := 28) (q := 3) (k := .i64) (by kernel_rfl) (by kernel_rfl) (by kernel_rfl) (by kernel_rfl) (by kernel_rfl) q2
  simp only [List.cons.injEq, and_true] at hn
  subst hn
  exact ⟨n, b, base, bc, a, sds, Ls, c, rfl, hb, hbl, hbm, hL, hl⟩
end Go.Proofs.Ythhfjagnmhhapaa

