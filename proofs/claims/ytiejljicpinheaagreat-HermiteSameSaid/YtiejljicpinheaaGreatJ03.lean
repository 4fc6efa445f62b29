import Derived.Test.YtiejljicpinheaaGreatA01
import Derived.Test.YtiejljicpinheaaGreatA02
import Derived.Test.YtiejljicpinheaaGreatA03
import Derived.Test.YtiejljicpinheaaGreatA04
import Derived.Test.YtiejljicpinheaaGreatA06
import Derived.Test.YtiejljicpinheaaGreatA12
import Derived.Test.YtiejljicpinheaaGreatA13
import Derived.Test.YtiejljicpinheaaGreatA18
import Derived.Test.YtiejljicpinheaaGreatA26
import Derived.Test.YtiejljicpinheaaGreatA29
import Derived.Test.YtiejljicpinheaaGreatJ01
import Derived.Test.YtiejljicpinheaaGreatJ02
namespace Go.Proofs.YtiejljicpinheaaGreat
open Go.W Go.LM Go.LA Go.PM
theorem xt {n n' ca cb : Nat} {w : World} {a b : Option Addr} {s s' : Nat → SD} {A B : Mat} (hA : AM 60 w a n s A) (hB : AM 60 w b n' s' B) :
  CallsR Tryz.prog 46 #[.slice a n ca, .slice b n' cb] w fun v w' => ∃ t : Bool, v = .bool t ∧ (t = true ↔ okS n s ∧ okS n' s' ∧ n = n' ∧ ∀ v, InL n (s 0).len A v ↔ InL n (s' 0).len B v) ∧ Ex w w' :=
 pP hA hB (by omega) (by omega)
theorem xp {n n' ca cb : Nat} {w : World} {a b : Option Addr} {s s' : Nat → SD} {A B : Mat} (hA : AM 60 w a n s A) (hB : AM 60 w b n' s' B) :
  CallsR Tryz.prog 47 #[.slice a n ca, .slice b n' cb] w fun v w' => ∃ t : Bool, v = .bool t ∧ (t = true ↔ okS n s ∧ okS n' s' ∧ n = n' ∧ ∀ v, InL n (s 0).len A v ↔ InL n (s' 0).len B v) ∧ Ex w w' :=
 nM (Q := 100) (sh := 0) (KM := KMz) hA hB (by omega) (fun c h => tX h) (by decide) (fun ok => v7 (wq hA ok) (by omega)) (fun ok => v7 (wq hB ok) (by omega))
set_option maxHeartbeats 8000000 in
theorem xu {w : World} {n : Nat} {a : Option Addr} {s : Nat → SD} {h : Nat → Nat → IH} {La : Nat → Nat → List Nat} (hM : RawM w a n s h La) (cap : Nat) {n' : Nat} {a' : Option Addr} {s' : Nat → SD} {h' : Nat → Nat → IH} {La' : Nat → Nat → List Nat} (hM' : RawM w a' n' s' h' La') (cap' : Nat)
  {rows cols : Int} (h1 : 0 ≤ rows ∧ rows ≤ 255) (h2 : 0 ≤ cols ∧ cols ≤ 255) {L : List Int} {la : Option Addr} (hL : Sl w la (int8L L)) (hI : I8 L) (lc : Nat) {rows' cols' : Int} (h1' : 0 ≤ rows' ∧ rows' ≤ 255) (h2' : 0 ≤ cols' ∧ cols' ≤ 255) {L' : List Int} {la' : Option Addr} (hL' : Sl w la' (int8L L')) (hI' : I8 L') (lc' : Nat) {L2 : List Int} {la2 : Option Addr} (hL2 : Sl w la2 (int8L L2)) (hI2 : I8 L2) (lc2 : Nat) :
  CallsR Tryz.prog 12 #[.slice a n cap, .slice a' n' cap', .agg (gridL rows cols la L.length lc).toArray, .agg (gridL rows' cols' la' L'.length lc').toArray, .slice la2 L2.length lc2] w fun v w' => v = .bool true ∧ Ex w w' := by
 refine aF (args := [_, _, _, _, _]) Tryz.func12 rfl rfl ?_
 refine aj ?_
 refine ah rfl ?_
 refine bH (vs := gridL rows cols la L.length lc) rfl (fun g1 w1 hn1 => ⟨fun _ _ => trivial, ?_⟩)
 have hg1 := hn1.blk
 refine bH (vs := gridL rows' cols' la' L'.length lc') rfl (fun g2 w1' hn1' => ⟨fun _ _ => trivial, ?_⟩)
 have hg2 := hn1'.blk
 have hE01 := hn1.ex.trans hn1'.ex
 repeat' (first|refine ai rfl ?_|refine aa ?_|refine aj ?_|refine ah rfl ?_|refine ae ?_)
 refine aw (we (hM.ext hE01)) rfl ?_
 rintro v w2 ⟨t1, rfl, hl, hE2⟩
 refine ⟨fun _ _ => trivial, ?_⟩
 have hE02 := hE01.trans hE2
 rcases Bool.eq_false_or_eq_true t1 with rfl | rfl
 ·repeat' (first|refine ai rfl ?_|refine aa ?_|refine aj ?_|refine ah rfl ?_|refine ae ?_|refine bK rfl rfl ?_|refine az rfl ?_)
  refine aw (nI _) rfl ?_
  rintro v wz ⟨rfl, hEz⟩
  refine ⟨fun _ _ => trivial, ?_⟩
  repeat' (first|refine ai rfl ?_|refine aa ?_|refine ae ?_|refine aI ?_|refine aU ?_)
  exact bx rfl (rt rfl) ⟨rfl, hE02.trans hEz⟩
 obtain ⟨hA, _, _, _⟩ := wl hM (hl rfl)
 clear hl hM
 repeat' (first|refine ai rfl ?_|refine bz rfl rfl ?_)
 refine aw (we (hM'.ext hE02)) rfl ?_
 rintro v w3 ⟨t3, rfl, hl, hE3⟩
 refine ⟨fun _ _ => trivial, ?_⟩
 have hE03 := hE02.trans hE3
 rcases Bool.eq_false_or_eq_true t3 with rfl | rfl
 ·repeat' (first|refine ai rfl ?_|refine aa ?_|refine aj ?_|refine ah rfl ?_|refine ae ?_|refine az rfl ?_)
  refine aw (nI _) rfl ?_
  rintro v wz ⟨rfl, hEz⟩
  refine ⟨fun _ _ => trivial, ?_⟩
  repeat' (first|refine ai rfl ?_|refine aa ?_|refine ae ?_|refine aI ?_|refine aU ?_)
  exact bx rfl (rt rfl) ⟨rfl, hE03.trans hEz⟩
 obtain ⟨hB, _, _, _⟩ := wl hM' (hl rfl)
 clear hl hM'
 generalize valF h La = A at *
 generalize valF h' La' = B at *
 obtain ⟨r, c, C, hr, hc, hmat⟩ := tV (most := 3) hL hI h1 h2 (by omega) lc
 obtain ⟨r', c', D, hr', hc', hmat'⟩ := tV (most := 3) hL' hI' h1' h2' (by omega) lc'
 have hg13 := ((hg1.ext hn1'.ex).ext hE2).ext hE3
 have hg23 := (hg2.ext hE2).ext hE3
 have hEd := (Ex.refl w3).drew
 repeat' (first|refine ai rfl ?_|refine aa ?_|refine aj ?_|refine ae ?_|refine au rfl ?_|refine aE ?_)
 refine bi (late := []) (plan := [(0, none), (2, none), (1, some true), (3, some true), (4, none), (5, none)]) (fun w' => Ex w3 w') bA (by kernel_rfl) hEd ?_
 repeat' (first|refine aR (cs := gridL rows cols la L.length lc) (g := g1) rfl (fun _ h => hg13.ext h) rfl ?_|refine aR (cs := gridL rows' cols' la' L'.length lc') (g := g2) rfl (fun _ h => hg23.ext h) rfl ?_)
 refine aw (hmat _ (hE03.trans hEd)) rfl ?_
 rintro v w4 ⟨g4, gs4, cp4, rfl, hO4, hE4⟩
 refine ⟨fun _ h => h.trans hE4, ?_⟩
 have hE34 := hEd.trans hE4
 skip
 refine aw (hmat' _ (hE03.trans hE34)) rfl ?_
 rintro v w5 ⟨g5, gs5, cp5, rfl, hO5, hE5⟩
 refine ⟨fun _ h => h.trans hE5, ?_⟩
 have hE35 := hE34.trans hE5
 have hE05 := hE03.trans hE35
 repeat' (first|refine aD (j := 0) (a := some ⟨g4, 0, none⟩) rfl rfl ⟨_, _, rfl⟩ (by omega) ?_|refine aV (j := 0) (a := some ⟨g4, 0, none⟩) (n := r) (s := fun k => ⟨some ⟨gs4 k, 0, none⟩, c, cp4 k⟩) rfl (hO4.ext hE5).top.sl (by omega) rfl ?_|refine ai rfl ?_|refine aa ?_|refine aj ?_|refine ah rfl ?_|refine ae ?_|refine aZ rfl ?_)
 refine aw (wB (n := c) (hL2.ext hE05) hI2 (by omega)) rfl ?_
 rintro v w6 ⟨g6, gs6, U, rfl, hO6, hU6, hB6, hE6⟩
 refine ⟨fun _ _ => trivial, ?_⟩
 skip
 refine aw (ee (hO6.mi fun i j hi hj => by have := hB6 i j hi hj; omega) (by omega) (by omega)) rfl ?_
 rintro v w7 ⟨g7, gs7, cp7, rfl, hO7, hE7⟩
 refine ⟨fun _ _ => trivial, ?_⟩
 have hE57 := hE6.trans hE7
 skip
 refine aw (jM (hO4.ext (hE5.trans hE57)).mx hO7.mx (by omega) (by omega) (by omega) (by omega)) rfl ?_
 rintro v w8 ⟨g8, gs8, cp8, rfl, hO8, hE8⟩
 refine ⟨fun _ _ => trivial, ?_⟩
 have hE58 := hE57.trans hE8
 have hE08 := hE05.trans hE58
 repeat' (first|refine ai rfl ?_|refine aa ?_|refine aj ?_|refine ah rfl ?_|refine ae ?_)
 refine aw (xt (hA.ext hE08) (hB.ext hE08)) rfl ?_
 rintro v w9 ⟨t9zz, rfl, ht9, hE9⟩
 refine ⟨fun _ _ => trivial, ?_⟩
 repeat' (first|refine ai rfl ?_)
 refine aw (xp (hA.ext (hE08.trans hE9)) (hB.ext (hE08.trans hE9))) rfl ?_
 rintro v w10 ⟨t10, rfl, ht10, hE10⟩
 refine ⟨fun _ _ => trivial, ?_⟩
 obtain rfl := wH ht9 ht10
 have hE510 := hE58.trans (hE9.trans hE10)
 have hC10 := AM.up60 (wK ((hO4.ext hE5).ext hE510)) (by omega)
 have hD10 := AM.up60 (wK (hO5.ext hE510)) (by omega)
 repeat' (first|refine vT rfl rfl ?_|refine ai rfl ?_|refine bz rfl rfl ?_)
 refine aw (xt hC10 hD10) rfl ?_
 rintro v w11 ⟨t11, rfl, ht11, hE11⟩
 refine ⟨fun _ _ => trivial, ?_⟩
 repeat' (first|refine ai rfl ?_|refine bz rfl rfl ?_)
 refine aw (xp (hC10.ext hE11) (hD10.ext hE11)) rfl ?_
 rintro v w12 ⟨t12, rfl, ht12, hE12⟩
 refine ⟨fun _ _ => trivial, ?_⟩
 obtain rfl := wH ht11 ht12
 have hE1012 := hE11.trans hE12
 repeat' (first|refine vT rfl rfl ?_|refine ai rfl ?_|refine bz rfl rfl ?_)
 refine aw (xt (hC10.ext hE1012) (AM.up60 (wK (hO8.ext ((hE9.trans hE10).trans hE1012))) (by omega))) rfl ?_
 rintro v w13 ⟨t13, rfl, ht13, hE13⟩
 refine ⟨fun _ _ => trivial, ?_⟩
 obtain rfl : t13 = true := ht13.2 ⟨wL (by omega) (by omega), wL (by omega) (by omega), rfl, fun v => (InL.uni hU6 (fun _ _ _ _ => rfl) v).symm⟩
 repeat' (first|refine ai rfl ?_|refine bz rfl rfl ?_)
 refine aw (nI _) rfl ?_
 rintro v wz ⟨rfl, hEz⟩
 refine ⟨fun _ _ => trivial, ?_⟩
 repeat' (first|refine ai rfl ?_|refine aa ?_|refine ae ?_|refine aI ?_)
 exact bx rfl (rt rfl) ⟨rfl, ((hE05.trans hE510).trans (hE1012.trans hE13)).trans hEz⟩
end Go.Proofs.YtiejljicpinheaaGreat
