import Derived.Test.YtiejljicpinheaaGreatA01
import Derived.Test.YtiejljicpinheaaGreatA02
import Derived.Test.YtiejljicpinheaaGreatA03
import Derived.Test.YtiejljicpinheaaGreatA04
import Derived.Test.YtiejljicpinheaaGreatA05
import Derived.Test.YtiejljicpinheaaGreatA06
import Derived.Test.YtiejljicpinheaaGreatA12
import Derived.Test.YtiejljicpinheaaGreatA13
import Derived.Test.YtiejljicpinheaaGreatA14
import Derived.Test.YtiejljicpinheaaGreatA18
import Derived.Test.YtiejljicpinheaaGreatA24
import Derived.Test.YtiejljicpinheaaGreatA28
import Derived.Test.YtiejljicpinheaaGreatA29
import Derived.Test.YtiejljicpinheaaGreatG01
namespace Go.Proofs.YtiejljicpinheaaGreat
open Go.W Go.LM Go.LA Go.PM
set_option maxHeartbeats 4000000 in
theorem xl {rows cols : Int} (h1 : 0 ≤ rows ∧ rows ≤ 255) (h2 : 0 ≤ cols ∧ cols ≤ 255) {L : List Int} {la : Option Addr} {w : World} (hL : Sl w la (int8L L)) (hI : I8 L) (lc : Nat) {n : Nat} {a : Option Addr} {s : Nat → SD} {h : Nat → Nat → IH} {La : Nat → Nat → List Nat} (hM : RawM w a n s h La) (cap : Nat) {ptzz c : Int} (hat : 0 ≤ ptzz ∧ ptzz ≤ 255) (_hc8 : -128 ≤ c ∧ c ≤ 127) :
  CallsR Tryz.prog 9 #[.slice a n cap, .agg (gridL rows cols la L.length lc).toArray, .int .u8 ptzz, .int .i8 c] w fun v w' => v = .bool true ∧ Ex w w' := by
 refine aF (args := [_, _, _, _]) Tryz.func9 rfl rfl ?_
 refine aj ?_
 refine ah rfl ?_
 refine bH (vs := gridL rows cols la L.length lc) rfl (fun g1 w1 hn1 => ⟨fun _ _ => trivial, ?_⟩)
 have hg1 := hn1.blk
 repeat' (first|refine ai rfl ?_|refine aa ?_|refine aj ?_|refine ah rfl ?_|refine ae ?_)
 refine aw (we (hM.ext hn1.ex)) rfl ?_
 rintro v w2 ⟨t1, rfl, hl, hE2⟩
 refine ⟨fun _ _ => trivial, ?_⟩
 have hE02 := hn1.ex.trans hE2
 rcases Bool.eq_false_or_eq_true t1 with rfl | rfl
 ·repeat' (first|refine aa ?_|refine aj ?_|refine ah rfl ?_|refine ae ?_|refine az rfl ?_)
  refine aw (nI _) rfl ?_
  rintro v wz ⟨rfl, hEz⟩
  refine ⟨fun _ _ => trivial, ?_⟩
  repeat' (first|refine ai rfl ?_|refine aa ?_|refine ae ?_|refine aI ?_|refine aU ?_)
  exact bx rfl (rt rfl) ⟨rfl, hE02.trans hEz⟩
 obtain ⟨hA, hn60, hs60, hsz⟩ := wl hM (hl rfl)
 clear hl
 generalize valF h La = A at *
 obtain ⟨r, k, B, hr, hc, hmat⟩ := tV (most := 4) hL hI h1 h2 (by omega) lc
 repeat' (first|refine aR (cs := gridL rows cols la L.length lc) (g := g1) rfl (hg1.ext hE2) rfl ?_|refine aa ?_|refine aj ?_|refine ah rfl ?_|refine ae ?_|refine au rfl ?_|refine aE ?_)
 refine aw (hmat _ hE02) rfl ?_
 rintro v w3 ⟨g3, gs3, cp3, rfl, hO3, hE3⟩
 refine ⟨fun _ _ => trivial, ?_⟩
 refine aw (gi (Q := 100) (s := 0) (KM := KMz) hO3.mx (by omega) (by omega) (v7 (fun i j hi hj => hO3.mx.lb hi hj) (by omega)) (by omega) (tX (by omega)) (by decide)) rfl ?_
 rintro v w4 ⟨g4, g4', gs4, cp4, gs4', cp4', H, U, kkzz, p, rfl, hF4, _, _, _, hE4⟩
 refine ⟨fun _ _ => trivial, ?_⟩
 have hE24 := hE3.trans hE4
 have hE04 := hE02.trans hE24
 repeat' (first|refine aK rfl rfl ?_|refine ai rfl ?_|refine aa ?_|refine aj ?_|refine ah rfl ?_|refine ae ?_)
 refine aw (wF (wK hF4.h) (by decide)) rfl ?_
 rintro v w5 ⟨t5, rfl, ht5, hE5⟩
 refine ⟨fun _ _ => trivial, ?_⟩
 obtain rfl : t5 = true := ht5.2 ⟨wL (by omega) (by omega), kkzz, p, hF4.hf⟩
 have hE25 := hE24.trans hE5
 have hE05 := hE02.trans hE25
 have hO5 := hF4.h.ext hE5
 obtain ⟨i, hi⟩ : ∃ i : Nat, ptzz % (r : Int) = (i : Int) := ⟨(ptzz % (r : Int)).toNat, by have := Int.emod_nonneg ptzz (b := (r : Int)) (by omega); omega⟩
 have hir : i < r := by have := Int.emod_lt_of_pos ptzz (b := (r : Int)) (by omega); omega
 obtain ⟨j, hj⟩ : ∃ j : Nat, ptzz / 16 % (k : Int) = (j : Int) := ⟨(ptzz / 16 % (k : Int)).toNat, by have := Int.emod_nonneg (ptzz / 16) (b := (k : Int)) (by omega); omega⟩
 have hjk : j < k := by have := Int.emod_lt_of_pos (ptzz / 16) (b := (k : Int)) (by omega); omega
 repeat' (first|refine dE rfl (dy (by omega) (by omega)) ?_|refine iC rfl rfl (by omega) (by omega) ?_|refine ai rfl ?_|refine aa ?_|refine aj ?_|refine ah rfl ?_|refine ae ?_|refine aZ rfl ?_|refine au rfl ?_|refine aE ?_)
 rw [hi]
 repeat' (first|refine aD (j := i) (a := some ⟨g4, 0, none⟩) rfl rfl ⟨_, _, rfl⟩ (by omega) ?_|refine aV (j := i) (a := some ⟨g4, 0, none⟩) (n := r) (s := fun m => ⟨some ⟨gs4 m, 0, none⟩, k, cp4 m⟩) rfl hO5.top.sl (by omega) rfl ?_|refine ai rfl ?_|refine aa ?_|refine aj ?_|refine ae ?_)
 obtain ⟨hh, hbr, hcr, hEr⟩ := hO5.get hir
 have hcm : -128 ≤ c.tmod 5 ∧ c.tmod 5 ≤ 127 := wM c
 refine bi (late := [10, 12]) (plan := [(0, none), (1, none), (2, none), (3, none), (4, none), (5, none), (6, none), (7, none), (8, none), (9, none), (10, some false), (11, none), (12, some false)]) (fun w' => Ex w5 w') bA (by kernel_rfl) (Ex.refl w5).drew ?_
 have hEd := (Ex.refl w5).drew
 repeat' (first|refine dE rfl (dy (by omega) (by omega)) ?_|refine qn rfl rfl (by omega) (by omega) (by omega) ?_|refine iC rfl rfl (by omega) (by omega) ?_|refine vP (m' := 5) rfl rfl (by decide) ?_|refine ai rfl ?_|refine aZ rfl ?_)
 rw [hj]
 skip
 refine aw (cT (z := c.tmod 5) (by omega) (by omega) _) rfl ?_
 rintro v w6 ⟨hI6, hE6⟩
 refine ⟨fun _ h => h.trans hE6, ?_⟩
 obtain ⟨u, rfl⟩ := hI6.ih
 have hE56 := hEd.trans hE6
 repeat' (first|refine aT (j := j) (a := some ⟨gs4 i, 0, none⟩) rfl rfl ⟨_, _, rfl⟩ (by omega) ?_)
 refine bR (j := j) (n := cp4 i) (u := u) rfl rfl (hbr.ext hE56) (by omega) (fun w7 hc7 hb7 => ⟨fun h => (nomatch h), ?_⟩)
 have hlo := (hO5.row i hir).low
 have s3 := hn1.ex.size
 have s4 := hE2.size
 have s5 := hE3.size
 have hO7 := (hO5.ext hE56).put (j := j) hir (hbr.ext hE56) (fun m hm => (hEr m hm).ext hE56) (Ent.of (K := KMz) hI6 (by
  have e : (4294967296 : Nat) ^ 1 ≤ 4294967296 ^ KMz := Nat.pow_le_pow_right (by decide) (by decide)
  have e1 : (4294967296 : Nat) ^ 1 = 4294967296 := rfl
  omega)) hc7 hb7
 have hE17 : Ex w1 w7 := (((hE2.trans hE25).trans hE56)).chg hc7 (by omega)
 have hE07 := hn1.ex.trans hE17
 generalize setM H i j (c.tmod 5) = H7 at hO7
 clear hO5 hEr hI6 hbr hb7
 repeat' (first|refine aa ?_|refine aj ?_|refine ae ?_)
 refine bi (late := []) (plan := [(0, none), (2, none), (1, some true), (3, some true), (4, none), (5, none), (6, none), (8, none), (7, some true), (9, some true), (10, none), (11, none), (12, none), (13, none), (16, none), (14, some true), (15, some true), (17, some true), (18, some true), (19, none), (20, none), (21, none), (22, some true), (23, none), (24, none)]) (fun w' => Ex w7 w') bA (by kernel_rfl) (Ex.refl w7).drew ?_
 have hF7 := (Ex.refl w7).drew
 repeat' (first|refine ai rfl ?_)
 refine aw (wF (wK (hO7.ext hF7)) (by decide)) rfl ?_
 rintro v w8 ⟨t8, rfl, ht8, hE8⟩
 refine ⟨fun _ h => h.trans hE8, ?_⟩
 have hF8 := hF7.trans hE8
 skip
 refine aw (wy (wK (hO7.ext hF8))) rfl ?_
 rintro v w9 ⟨t9zz, rfl, ht9, hE9⟩
 refine ⟨fun _ h => h.trans hE9, ?_⟩
 have hF9 := hF8.trans hE9
 obtain rfl := wH ht8 ht9
 repeat' (first|refine vT rfl rfl ?_|refine ai rfl ?_|refine bz rfl rfl ?_)
 refine aw (wF (hA.ext (hn1.ex.trans (hE17.trans hF9))) (by decide)) rfl ?_
 rintro v w10 ⟨t10, rfl, ht10, hE10⟩
 refine ⟨fun _ h => h.trans hE10, ?_⟩
 have hF10 := hF9.trans hE10
 repeat' (first|refine bz rfl rfl ?_)
 refine aw (wy (hA.ext (hn1.ex.trans (hE17.trans hF10)))) rfl ?_
 rintro v w11 ⟨t11, rfl, ht11, hE11⟩
 refine ⟨fun _ h => h.trans hE11, ?_⟩
 have hF11 := hF10.trans hE11
 obtain rfl := wH ht10 ht11
 have hg7 := hg1.ext hE17
 repeat' (first|refine vT rfl rfl ?_|refine aR (cs := gridL rows cols la L.length lc) (g := g1) rfl (fun _ h => hg7.ext h) rfl ?_|refine ai rfl ?_|refine bz rfl rfl ?_)
 refine aw (hmat _ (hE07.trans hF11)) rfl ?_
 rintro v w12 ⟨g12, gs12, cp12, rfl, hO12, hE12⟩
 refine ⟨fun _ h => h.trans hE12, ?_⟩
 have hF12 := hF11.trans hE12
 repeat' (first|refine bz rfl rfl ?_)
 refine aw (wF (wK hO12) (by decide)) rfl ?_
 rintro v w13 ⟨t13, rfl, ht13, hE13⟩
 refine ⟨fun _ h => h.trans hE13, ?_⟩
 have hF13 := hF12.trans hE13
 repeat' (first|refine bz rfl rfl ?_)
 refine aw (hmat _ (hE07.trans hF13)) rfl ?_
 rintro v w14 ⟨g14, gs14, cp14, rfl, hO14, hE14⟩
 refine ⟨fun _ h => h.trans hE14, ?_⟩
 have hF14 := hF13.trans hE14
 repeat' (first|refine bz rfl rfl ?_)
 refine aw (wy (wK hO14)) rfl ?_
 rintro v w15 ⟨t15, rfl, ht15, hE15⟩
 refine ⟨fun _ h => h.trans hE15, ?_⟩
 have hF15 := hF14.trans hE15
 obtain rfl : t13 = t15 := wH (p := ∃ kkzz p, HF r k B kkzz p) ⟨fun e => (ht13.1 e).2, fun e => ht13.2 ⟨wL (by omega) (by omega), e⟩⟩ ⟨fun e => (ht15.1 e).2, fun e => ht15.2 ⟨wL (by omega) (by omega), e⟩⟩
 repeat' (first|refine vT rfl rfl ?_|refine ai rfl ?_|refine bz rfl rfl ?_)
 refine aw (nI _) rfl ?_
 rintro v wz ⟨rfl, hEz⟩
 refine ⟨fun _ h => h.trans hEz, ?_⟩
 repeat' (first|refine ai rfl ?_|refine aa ?_|refine ae ?_|refine aI ?_)
 exact bx rfl (rt rfl) ⟨rfl, (hE07.trans hF15).trans hEz⟩
end Go.Proofs.YtiejljicpinheaaGreat
