
import Derived.Test.YthhfjagnmhhapaaA01
import Derived.Test.YthhfjagnmhhapaaA02
import Derived.Test.YthhfjagnmhhapaaA03
import Derived.Test.YthhfjagnmhhapaaA04
import Derived.Test.YthhfjagnmhhapaaA05
import Derived.Test.YthhfjagnmhhapaaA06
import Derived.Test.YthhfjagnmhhapaaA07
import Derived.Test.YthhfjagnmhhapaaA08
import Derived.Test.YthhfjagnmhhapaaA13
import Derived.Test.YthhfjagnmhhapaaA16
import Derived.Test.YthhfjagnmhhapaaA17
import Derived.Test.YthhfjagnmhhapaaA18
import Derived.Test.YthhfjagnmhhapaaA19
import Derived.Test.YthhfjagnmhhapaaA21
import Derived.Test.YthhfjagnmhhapaaA22

namespace Go.Proofs.Ythhfjagnmhhapaa
open Go.W Go.PM

/-- a list of numbers and an error, the list in new memory -/
def RetLE (w : World) (xs : List Int) (e : Int) (v : Value) (w' : World) : Prop :=
  ∃ b c, v = .tuple #[.slice b xs.length c, .int .i64 e] ∧ Own w' w.heap.size 3 1 b xs.length c (intsL xs) ∧ Ex w w'
section
variable {n x : Int} {gens : List (List Int)} {ga : Option Addr} {sds : List SD} {w : World}
theorem orbit_spec (hg : Lists w .i64 ga sds gens) (gc : Nat) (hgl : gens.length ≤ 9223372036854775807) :
    CallsR Try.prog 39 #[.int .i64 n, .slice ga gens.length gc, .int .i64 x] w (RetLE w (orbitF n gens x) (errF n gens x)) := by
  refine callsR_of (args := [_, _, _]) Try.func39 rfl rfl ?_
  repeat' (first | (refine k_pure rfl ?_) | (refine then_normal ?_) | (refine cw_seq ?_) | (refine cw_region rfl ?_) | (refine rr_nil ?_))
  refine k_call (check_spec (x := x) hg gc hgl) rfl ?_
  rintro v w1 ⟨rfl, hE1⟩
  refine ⟨fun _ _ => trivial, ?_⟩
  repeat' (first | (refine k_pure rfl ?_) | (refine then_normal ?_) | (refine cw_seq ?_) | (refine cw_region rfl ?_) | (refine rr_nil ?_) | (refine cw_cond_dec rfl (fun hc => ?_) (fun hc => ?_)) | (refine cw_ret ?_) | (refine then_ret ?_) | (refine cw_skip ?_))
  · rw [orbitF, if_neg hc]
    exact ret2 rfl (rt rfl) (rt rfl) ⟨none, 0, rfl, Own.nil _ _ _ _, hE1⟩
  · have he : errF n gens x = 0 := Decidable.not_not.1 hc
    obtain ⟨e1, e2, e3, e4, e5, e6⟩ := errF_zero he
    obtain ⟨m, rfl⟩ := Int.eq_ofNat_of_zero_le (show 0 ≤ n by omega)
    obtain ⟨y, rfl⟩ := Int.eq_ofNat_of_zero_le e3
    rw [orbitF, if_pos he, he]
    rw [Int.toNat_natCast] at e6 ⊢
    refine k_call (ascending_spec (hg.ext hE1) e6 e5 (by omega) (show y < m by omega) gc) rfl ?_
    rintro v w2 ⟨b, c, ws, rfl, hO, hS, hE2⟩
    refine ⟨fun _ _ => trivial, ?_⟩
    have l1 := hE1.size
    repeat' (first | (refine k_pure rfl ?_))
    refine k_alloc (fun g w3 hn3 => ⟨fun _ _ => trivial, ?_⟩)
    repeat' (first | (refine k_pure rfl ?_))
    refine k_storeV (n := 8) rfl rfl (by simp [hS.len]) (all_one (fun _ => rfl) _) (cs := wordsL [0, 0, 0, 0, 0, 0, 0, 0]) hn3.blk rfl (fun w4 hc4 hb4 => ⟨fun _ _ => trivial, ?_⟩)
    repeat' (first | (refine k_pure rfl ?_) | (refine then_normal ?_) | (refine cw_seq ?_) | (refine cw_region rfl ?_) | (refine rr_nil ?_) | (refine cw_ret ?_))
    have l3 := hn3.lo
    have l2 := hE2.size
    exact ret2 rfl (rt rfl) (rt rfl) ⟨b, c, rfl, ((hO.ext hn3.ex).chg hc4 (fun ad e => by have := (hO.lo ad e).2; omega)).mono (by omega), ((hE1.trans hE2).trans hn3.ex).chg hc4 (by omega)⟩

end
end Go.Proofs.Ythhfjagnmhhapaa

namespace Go.Proofs.Ythhfjagnmhhapaa
open Go.W Go.PM Go.LM
set_option maxHeartbeats 1000000 in
theorem orbit_calls {pts point : Int} (hp : 0 ≤ pts ∧ pts ≤ 255) {la : Option Addr} {sds : List SD} {Ls : List (List Int)} {w : World} (hL : Lists w .i8 la sds Ls) (hI : ∀ i, I8 (Ls.getD i [])) (c : Nat) (hl : Ls.length ≤ 9223372036854775807) (few : Bool) (hpt : 0 ≤ point ∧ point ≤ 255) :
    CallsR Try.prog 11 #[.agg (permsL pts la Ls.length c few).toArray, .int .u8 point] w fun v w' => v = .bool true ∧ Ex w w' := by
  refine callsR_of (args := [_, _]) Try.func11 rfl rfl ?_
  repeat' (first | (refine k_boxA rfl (fun g w1 hn1 => ⟨fun _ _ => trivial, ?_⟩)) | (refine k_pure rfl ?_) | (refine then_normal ?_) | (refine cw_seq ?_) | (refine cw_region rfl ?_) | (refine rr_nil ?_))
  have hd1 : 0 ≤ pts % 8 := Int.emod_nonneg _ (by omega)
  have hd2 : pts % 8 < 8 := Int.emod_lt_of_pos _ (by omega)
  obtain ⟨n, hn⟩ : ∃ n : Nat, 1 + pts % 8 = (n : Int) := ⟨(1 + pts % 8).toNat, by omega⟩
  have hn8 : 1 ≤ n ∧ n ≤ 8 := by omega
  refine cw_draw (late := []) (plan := [(0, none), (2, none), (1, some true), (3, some true), (4, none), (5, none)]) (fun w' => Blk w' g 35 (permsL pts la Ls.length c few)) mixed (by kernel_rfl) hn1.blk.drew ?_
  have hE1 : Ex w w1.drew := hn1.ex.drew
  repeat' (first | (refine k_loadCA rfl (fun _ h => h) rfl ?_))
  refine k_call (degree_spec hp _ _ _ _ (by omega) _) rfl ?_
  rintro v w2 ⟨rfl, hE2⟩
  refine ⟨fun _ h => h.ext hE2, ?_⟩
  rw [hn]
  refine k_call (gens_spec hp (by omega) hn (hL.ext (hE1.trans hE2)) hI _ hl few) rfl ?_
  rintro v w3 ⟨b, cc, ss, xss, rfl, hO, hx3, hG, hA, hE3⟩
  refine ⟨fun _ h => h.ext hE3, ?_⟩
  have hE03 : Ex w w3 := (hE1.trans hE2).trans hE3
  have hLs := hO.lists
  have hle := hLs.len
  rw [hle]
  have hes : errS (n : Int) xss = 0 := errS_ok hn8.1 (by omega) (by omega) hG
  have hr1 : 0 ≤ point % (n : Int) := Int.emod_nonneg _ (by omega)
  have hr2 : point % (n : Int) < (n : Int) := Int.emod_lt_of_pos _ (by omega)
  have het : errT (n : Int) xss (point % (n : Int)) = 0 := by rw [errT, if_pos hes, if_neg (by omega)]
  repeat' (first | (refine k_convI rfl (wrap_i64 (by omega) (by omega)) ?_) | (refine k_rem rfl rfl (by omega) (by omega) ?_) | (refine k_pure rfl ?_) | (refine then_normal ?_) | (refine cw_seq ?_) | (refine cw_region rfl ?_) | (refine rr_nil ?_))
  generalize hyy : point % (n : Int) = y at *
  refine k_call (sOrder_spec (n := (n : Int)) (cap := cc) hLs (by omega) (fun _ => by omega)) rfl ?_
  rintro v w4 ⟨z4, rfl, hE4, _, ho4⟩
  refine ⟨fun _ _ => trivial, ?_⟩
  obtain ⟨k4, hk4, hz4⟩ := ho4 hes
  obtain ⟨cs4, rfl, hcl4, hco4⟩ := hz4.out
  rw [hes]
  repeat' (first | (refine k_pure rfl ?_))
  refine k_allocA (vs := intL false none 0 0) (fun g5 w5 hn5 => ⟨fun _ _ => trivial, ?_⟩)
  refine k_storeV (n := 2) rfl rfl hcl4 hco4 hn5.blk rfl (fun w6 hc6 hb6 => ⟨fun _ _ => trivial, ?_⟩)
  have hX6 : Ex w3 w6 := (hE4.trans hn5.ex).chg hc6 (by have h1 := hn5.lo; have h2 := hE4.size; omega)
  have hq6 := (hz4.ext hn5.ex).chgO hc6 (hz4.off_hi hn5.lo)
  repeat' (first | (refine k_pure rfl ?_) | (refine then_normal ?_) | (refine cw_seq ?_) | (refine cw_region rfl ?_) | (refine rr_nil ?_))
  refine k_call (sStab_spec (n := (n : Int)) (x := y) (cap := cc) (hLs.ext hX6) (by omega) (fun _ => by omega)) rfl ?_
  rintro v w7 ⟨z7, rfl, hE7, _, ho7⟩
  refine ⟨fun _ _ => trivial, ?_⟩
  obtain ⟨k7, hk7, hz7⟩ := ho7 het
  obtain ⟨cs7, rfl, hcl7, hco7⟩ := hz7.out
  rw [het]
  repeat' (first | (refine k_pure rfl ?_))
  refine k_allocA (vs := intL false none 0 0) (fun g8 w8 hn8' => ⟨fun _ _ => trivial, ?_⟩)
  refine k_storeV (n := 2) rfl rfl hcl7 hco7 hn8'.blk rfl (fun w9 hc9 hb9 => ⟨fun _ _ => trivial, ?_⟩)
  have hX9 : Ex w6 w9 := (hE7.trans hn8'.ex).chg hc9 (by have h1 := hn8'.lo; have h2 := hE7.size; omega)
  have hq9 := (hz7.ext hn8'.ex).chgO hc9 (hz7.off_hi hn8'.lo)
  have hE39 := hX6.trans hX9
  repeat' (first | (refine k_pure rfl ?_) | (refine then_normal ?_) | (refine cw_seq ?_) | (refine cw_region rfl ?_) | (refine rr_nil ?_))
  refine k_call (orbit_spec (n := (n : Int)) (x := y) (hLs.ext hE39) cc (by omega)) rfl ?_
  have hef : errF (n : Int) xss y = 0 := by rw [errF_grp, if_neg (by omega), grp_errS, hes]
  have horb : orbitF (n : Int) xss y = orbL xss n y := by rw [orbitF, if_pos hef, Int.toNat_natCast]
  have hnd : (orbL xss n y).Nodup := by unfold orbL sortedL; exact List.Pairwise.filter _ (idList_dist n).2
  have hcard := orbit_stab (gen_grp ⟨hn8.1, by omega⟩ hG.n) ⟨hr1, hr2⟩ hnd (fun z => (mem_orbL hG ⟨hr1, hr2⟩ z).trans (gen_reach ⟨hn8.1, by omega⟩ hG.n ⟨hr1, hr2⟩ z)) hk7
  have hkk : k4 = (orbL xss n y).length * k7 := hk4.unique hcard
  have hpos : 0 < (orbL xss n y).length := List.length_pos_of_mem ((mem_orbL hG ⟨hr1, hr2⟩ y).2 .refl)
  have hol : (orbL xss n y).length ≤ 512 := by rw [← horb]; exact orbitF_len _ _ _
  have hfac := card_fac (gen_grp ⟨hn8.1, by omega⟩ hG.n) hk4
  have hfm := fac_mono hn8.2
  have hf8 : fac 8 = 40320 := rfl
  have hk7b : k7 ≤ 40320 := Nat.le_trans (Nat.le_trans (by rw [hkk]; exact Nat.le_mul_of_pos_left _ hpos) hfac) (by omega)
  rw [hef, horb]
  generalize orbL xss n y = O at *
  rintro v w10 ⟨b10, c10, rfl, hO10, hE10⟩
  refine ⟨fun _ _ => trivial, ?_⟩
  repeat' (first | (refine k_pure rfl ?_) | (refine then_normal ?_) | (refine cw_seq ?_) | (refine rr_nil ?_))
  have hX10 := hX9.trans hE10
  have hb610 := hb6.ext hX10
  have hb910 := hb9.ext hE10
  refine cw_draw (late := []) (plan := [(0, none), (1, none), (2, none), (3, none), (4, none), (5, none), (6, none), (7, none), (8, none), (9, none), (10, none), (11, none), (12, none), (13, none), (14, none), (15, none), (16, none), (17, none), (18, none), (19, none), (20, some true), (21, some true), (22, some true), (23, none), (24, none), (25, some true), (26, none), (27, none)]) (fun w' => Ex w10 w') mixed (by kernel_rfl) (Ex.refl _).drew ?_
  have hE10d : Ex w10 w10.drew := (Ex.refl _).drew
  repeat' (first | (refine k_gtrT rfl rfl (by omega) ?_) | (refine k_loadCA (g := g5) rfl (fun _ h => hb610.ext h) hcl4 ?_) | (refine k_loadCA (g := g8) rfl (fun _ h => hb910.ext h) hcl7 ?_) | (refine k_pure rfl ?_) | (refine k_len rfl ?_) | (refine g_run rfl rfl ?_))
  refine k_call (refSmall_spec (z := ((O.length : Nat) : Int)) (by omega) (by omega) _) rfl ?_
  rintro v w11 ⟨hz11, hE11⟩
  refine ⟨fun _ h => h.trans hE11, ?_⟩
  repeat' (first | (refine g_run rfl rfl ?_))
  have hE1011 := hE10d.trans hE11
  refine k_call (refMul_spec (p := 1) (q := 1) (hq9.ext (hE10.trans hE1011)) hz11 (by simp only [Int.natAbs_natCast]; omega) (by simp only [Int.natAbs_natCast]; omega) (by omega)) rfl ?_
  rintro v w12 ⟨hz12, hE12⟩
  refine ⟨fun _ h => h.trans hE12, ?_⟩
  repeat' (first | (refine g_run rfl rfl ?_))
  refine k_call (refSame_spec (hq6.ext ((hX10.trans hE1011).trans hE12)) hz12) rfl ?_
  rintro v w13 ⟨rfl, hE13⟩
  refine ⟨fun _ h => h.trans hE13, ?_⟩
  rw [decide_eq_true (p := ((k4 : Nat) : Int) = ((k7 : Nat) : Int) * ((O.length : Nat) : Int)) (by rw [hkk, Nat.mul_comm, Int.natCast_mul])]
  repeat' (first | (refine k_pure rfl ?_) | (refine g_run rfl rfl ?_))
  refine k_call (awakeS_spec _) rfl ?_
  rintro v w14 ⟨rfl, hE14⟩
  refine ⟨fun _ h => h.trans hE14, ?_⟩
  repeat' (first | (refine k_pure rfl ?_) | (refine then_normal ?_) | (refine rr_nil ?_) | (refine cw_ret ?_))
  exact ret1 rfl (rt rfl) ⟨rfl, ((((hE03.trans hX6).trans hX10).trans hE1011).trans hE12).trans (hE13.trans hE14)⟩
end Go.Proofs.Ythhfjagnmhhapaa

