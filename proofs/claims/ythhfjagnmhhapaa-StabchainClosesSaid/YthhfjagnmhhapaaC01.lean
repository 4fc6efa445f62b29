import Derived.Test.YthhfjagnmhhapaaProg
import Derived.Lib.SmallJoins
import Derived.Test.YthhfjagnmhhapaaA01
import Derived.Test.YthhfjagnmhhapaaA02
import Derived.Test.YthhfjagnmhhapaaA03
import Derived.Test.YthhfjagnmhhapaaA04
import Derived.Test.YthhfjagnmhhapaaA05
import Derived.Test.YthhfjagnmhhapaaA06
import Derived.Test.YthhfjagnmhhapaaA07
import Derived.Test.YthhfjagnmhhapaaA08
import Derived.Test.YthhfjagnmhhapaaA09
import Derived.Test.YthhfjagnmhhapaaA10
import Derived.Test.YthhfjagnmhhapaaA11
import Derived.Test.YthhfjagnmhhapaaA13
import Derived.Test.YthhfjagnmhhapaaA16
import Derived.Test.YthhfjagnmhhapaaA17
import Derived.Test.YthhfjagnmhhapaaA18
import Derived.Test.YthhfjagnmhhapaaA19
import Derived.Test.YthhfjagnmhhapaaA20
import Derived.Test.YthhfjagnmhhapaaA22
import Derived.Test.YthhfjagnmhhapaaA32
import Derived.Test.YthhfjagnmhhapaaB01
import Derived.Test.YthhfjagnmhhapaaB02
import Derived.Test.YthhfjagnmhhapaaB03

namespace Go.W
open Go.RowKit (Below)

/-! ### Worlds that grow, worlds in which one block has changed -/
/-! all three ways of change in one form: w.grownBy w' r: only block r of the old ones may have changed -/
section
variable {P : Program} {S : World → Prop} {ops : List Oper} {K : Env → World → Prop} {rest : List (Oper × Option Bool)} {ρ : Env} {w : World} {b : Option Bool} {kf : Bool} {d : Nat} {dst : Option Nat} {T T' : TypeId} {pos : String} {af : Array Edge}

/-! out = append(out, x): the literal and the append in one step -/
section
variable {w' w0 : World} {lo T0 s0 n cap : Nat} {a : Option Addr} {vs : List Value}
end

/-! typed reads -/
section
variable {w w' : World} {lo T2 T1 c : Nat} {k : IntKind} {b : Option Addr} {sds : List SD} {xss : List (List Int)}
theorem OwnLists.gb {r : Option Nat} (h : OwnLists w lo T2 T1 k b c sds xss) (hg : w.grownBy w' r) (hr : ∀ m, r = some m → m < lo) : OwnLists w' lo T2 T1 k b c sds xss :=
  ⟨h.top.gb hg (fun ad e e2 => by have := (h.top.lo ad e).1; have := hr _ e2; omega), h.len,
   fun i hi => ⟨(h.each i hi).1.gb hg (fun ad e e2 => by have := ((h.each i hi).1.lo ad e).1; have := hr _ e2; omega), (h.each i hi).2⟩, h.sep⟩
end
/-! typed stores into a block -/
/-! results -/
variable {fn : Func} {R : Value → World → Prop}
end
end Go.W

namespace Go.Proofs.Ythhfjagnmhhapaa
open Go.W
instance s17 : Scal Try.prog 17 := ⟨by kernel_rfl, by kernel_rfl⟩
instance g18 : Agg Try.prog 18 1 := ⟨by kernel_rfl, by kernel_rfl⟩
instance c40 : Fun Try.prog 40 := ⟨by kernel_rfl⟩
instance c75 : Fun Try.prog 75 := ⟨by kernel_rfl⟩
instance c76 : Fun Try.prog 76 := ⟨by kernel_rfl⟩
end Go.Proofs.Ythhfjagnmhhapaa

namespace Go.Proofs.Ythhfjagnmhhapaa
open Go.W Go.PM
theorem toInts_spec {xs : List Int} {a : Option Addr} {w : World} (hx : Sl w a (u16L xs)) (cap : Nat) (hr : ∀ k, k < xs.length → 0 ≤ xs.getD k 0 ∧ xs.getD k 0 ≤ 65535) (hl : xs.length ≤ 512) :
    CallsR Try.prog 75 #[.slice a xs.length cap] w (fun v w' => ∃ g, v = .slice (some ⟨g, 0, none⟩) xs.length xs.length ∧ w.heap.size ≤ g ∧ Blk w' g 3 (intsL xs) ∧ Ex w w') := by
  refine callsR_of (args := [_]) Try.func75 rfl rfl ?_
  repeat' (first | (refine k_makeI rfl rfl (by omega) (by omega) (fun g w1 hn1 => ⟨fun _ _ => trivial, ?_⟩)) | (refine k_pure rfl ?_) | (refine then_normal ?_) | (refine cw_seq ?_) | (refine cw_region rfl ?_) | (refine rr_nil ?_) | (refine k_len rfl ?_) | (refine cw_block ?_))
  refine cw_loop (ι := Nat × List Int) [4, 5, 11, 12, 13, 14, 15, 16, 17, 18, 19, 20, 21] (fun s => [(11, .int .i64 (s.1 : Int))]) (fun s w' => s.1 ≤ xs.length ∧ Ex w w' ∧ Blk w' g 3 (intsL s.2) ∧ s.2.length = xs.length ∧ s.2.take s.1 = xs.take s.1) (fun s => xs.length - s.1)
    (0, List.replicate xs.length 0) ⟨rfl, trivial⟩ ⟨by simp, hn1.ex, hn1.blk, by simp, rfl⟩ ?_
  rintro ⟨k, rs⟩ ξ w2 ⟨hk, hE, hb, hl2, hT⟩
  simp only at hk hb hl2 hT
  show CW _ _ _ _ (over [(11, .int .i64 (k : Int))] _) w2
  have hx2 := hx.ext hE
  repeat' (first | (refine k_indexN rfl rfl ⟨_, _, rfl⟩ (by omega) ?_) | (refine k_indexN rfl rfl (hx2.plain (by simp; omega)) (by omega) ?_) | (refine k_loadI rfl hx2 (by omega) ?_) | (refine k_convI rfl (wrap_i64 (by have := hr k (by omega); omega) (by have := hr k (by omega); omega)) ?_) | (refine k_storeI rfl rfl hb (by omega) (fun w3 hc3 hb3 => ⟨fun _ _ => trivial, ?_⟩)) | (refine k_pure rfl ?_) | (refine then_normal ?_) | (refine cw_seq ?_) | (refine cw_region rfl ?_) | (refine rr_nil ?_) | (refine k_addI rfl rfl (by omega) (by omega) ?_) | (refine cw_cond_dec rfl (fun hc => ?_) (fun hc => ?_)) | (refine cw_block ?_) | (refine cw_exit ?_) | (refine then_exit ?_) | (refine in_exit ?_) | (refine in_normal ?_) | (refine cw_ret ?_) | (refine cw_skip ?_))
  · refine ⟨⟨(k + 1, rs.set k (xs.getD k 0)), ⟨by simp only; omega, hE.chg hc3 hn1.lo, hb3, by simp [hl2], ?_⟩, by simp only; omega, rfl, trivial⟩, (by (repeat (first | exact agree_mask _ _ _ | refine agree_upd rfl ?_ | refine agree_updO rfl ?_ | refine agree_overIn rfl ?_ | refine agree_maskIn rfl ?_)))⟩
    simp only
    rw [take_set_succ (by omega), hT, take_succ_getD xs 0 (by omega)]
  · obtain rfl : k = xs.length := by omega
    rw [List.take_of_length_le (by omega), List.take_of_length_le (by omega)] at hT
    subst hT
    exact ret1 rfl (rt rfl) ⟨g, rfl, hn1.lo, hb, hE⟩
end Go.Proofs.Ythhfjagnmhhapaa

/- What Build chooses from a complete chain is a base and a strong generating set: plain laws. -/
namespace Go.Proofs.Ythhfjagnmhhapaa
open Go.W Go.PM Go.LM
def ptsL (ls : List Lv) : List Int := ls.map Lv.pt
theorem ptsL_len (ls : List Lv) : (ptsL ls).length = ls.length := by unfold ptsL; rw [List.length_map]
theorem ptsL_getD {ls : List Lv} {i : Nat} (h : i < ls.length) : (ptsL ls).getD i 0 = (ls.getD i lv0).pt := by
  unfold ptsL
  rw [List.getD_eq_getElem?_getD, List.getElem?_map, List.getD_eq_getElem?_getD, List.getElem?_eq_getElem h]; rfl
theorem Gd.full {n N0 : Nat} {G : List Int → Prop} {ls : List Lv} (h : Gd n G [] N0 ls) : Gd n G (ptsL ls) N0 ls :=
  ⟨h.links, h.grp, h.gl, h.ll, by rw [ptsL_len]; exact Nat.le_refl _, fun i hi => by rw [ptsL_len] at hi; rw [ptsL_getD hi], fun i hi hl => by rw [ptsL_len] at hi; omega⟩
theorem Gd.dist {n N0 : Nat} {G : List Int → Prop} {ls : List Lv} (h : Gd n G [] N0 ls) (hF : Full n ls) : Dist n (ptsL ls) := by
  refine ⟨fun y hy => ?_, nodup_iff.2 fun i j hij hj e => ?_⟩
  · obtain ⟨i, hi, e⟩ := mem_iff_getD.1 hy
    rw [ptsL_len] at hi
    rw [← e, ptsL_getD hi]; exact (h.ok hi).pt
  · rw [ptsL_len] at hj
    rw [ptsL_getD (by omega), ptsL_getD hj] at e
    have h2 := h.two j (Nat.zero_le _) hj
    have ok := h.ok hj
    have hm : (ls.getD j lv0).orb.getD 1 0 ∈ (ls.getD j lv0).orb := getD_mem (by omega)
    obtain ⟨p, hp, e1⟩ := (ok.mem' _).1 hm
    have hp' : grpOf n (ls.drop j) p := by rw [drop_cons hj]; exact hp
    have hst := (h.full.pstab hF (i := j) (by rw [ptsL_len]; omega) p).1 hp'
    have hfx := hst.2 ((ls.getD i lv0).pt) ((mem_take_getD (by rw [ptsL_len]; omega)).2 ⟨i, hij, ptsL_getD (by omega)⟩)
    rw [e, e1, ← ok.head] at hfx
    exact (nodup_iff.1 ok.nd) 0 1 (by omega) (by omega) hfx.symm
/-- what has been chosen from the levels from i on -/
structure BldJ (n : Nat) (ls : List Lv) (i : Nat) (S : List (List Int)) (c : Nat → Nat) : Prop where
  el : ∀ s ∈ S, grpOf n (ls.drop i) s
  oc : OrbC n S c
  done : ∀ j, i ≤ j → j < ls.length → ∀ y ∈ (ls.getD j lv0).orb, PM.Reach (fixS S (ptsL ls) j) (ls.getD j lv0).pt y
/-- the same within level i, behind a points of its orbit -/
structure BldI (n : Nat) (ls : List Lv) (i a : Nat) (S : List (List Int)) (c : Nat → Nat) : Prop where
  el : ∀ s ∈ S, grpOf n (ls.drop i) s
  oc : OrbC n S c
  done : ∀ j, i < j → j < ls.length → ∀ y ∈ (ls.getD j lv0).orb, PM.Reach (fixS S (ptsL ls) j) (ls.getD j lv0).pt y
  cur : ∀ k, k < a → c ((ls.getD i lv0).orb.getD k 0).toNat = c (ls.getD i lv0).pt.toNat
theorem bldJ_nil (n : Nat) (ls : List Lv) : BldJ n ls ls.length [] (fun x => x) :=
  ⟨fun s hs => by simp at hs, orbC_nil n, fun j h1 h2 => by omega⟩
section
variable {n N0 : Nat} {G : List Int → Prop} {ls : List Lv} {i : Nat} {S : List (List Int)} {c : Nat → Nat}
theorem BldJ.start (h : BldJ n ls (i + 1) S c) (hG : Gd n G [] N0 ls) (hi : i < ls.length) : BldI n ls i 0 S c := by
  have hL := hG.links.drop i
  rw [drop_cons hi] at hL
  exact ⟨fun s hs => by rw [drop_cons hi]; exact (hL.2.1 s (h.el s hs)).1, h.oc, fun j hj => h.done j hj, fun k hk => absurd hk (by omega)⟩
theorem BldI.skip {a : Nat} (h : BldI n ls i a S c) (he : c ((ls.getD i lv0).orb.getD a 0).toNat = c (ls.getD i lv0).pt.toNat) : BldI n ls i (a + 1) S c :=
  ⟨h.el, h.oc, h.done, fun k hk => by
    by_cases e : k = a
    · subst e; exact he
    · exact h.cur k (by omega)⟩
theorem fixS_mono {S S' : List (List Int)} {base : List Int} {j : Nat} (h : ∀ s ∈ S, s ∈ S') {s : List Int} (hs : s ∈ fixS S base j) : s ∈ fixS S' base j :=
  mem_fixS.2 ⟨h s (mem_fixS.1 hs).1, (mem_fixS.1 hs).2⟩
theorem BldI.perms {a : Nat} (h : BldI n ls i a S c) (hG : Gd n G [] N0 ls) : GensN n S := fun s hs => (hG.links.drop i).grp.perm s (h.el s hs)
theorem BldI.add {a : Nat} {c' : Nat → Nat} (h : BldI n ls i a S c) (hG : Gd n G [] N0 ls) (hi : i < ls.length) (ha : a < (ls.getD i lv0).orb.length) (hJ : Jn n n (inv ((ls.getD i lv0).bk a)) c c') : BldI n ls i (a + 1) (S ++ [inv ((ls.getD i lv0).bk a)]) c' := by
  have ok := hG.ok hi
  have hp := ok.grp.perm _ (ok.bin a ha)
  have hy := ok.orb_in (getD_mem (d := 0) ha)
  have hpt := ok.pt
  have hap : ap (inv ((ls.getD i lv0).bk a)) (ls.getD i lv0).pt = (ls.getD i lv0).orb.getD a 0 := by rw [← ok.bap a ha]; exact ap_inv hp hy
  refine ⟨fun s hs => ?_, h.oc.join (h.perms hG) hp.inv hJ, fun j hj hjl y hy' => ?_, fun k hk => ?_⟩
  · rcases List.mem_append.1 hs with hs | hs
    · exact h.el s hs
    · rw [List.mem_singleton] at hs
      rw [hs, drop_cons hi]; exact ok.grp.inv (ok.bin a ha)
  · exact reach_mono (fun s hs => fixS_mono (fun s hs => by simp [hs]) hs) (h.done j hj hjl y hy')
  · by_cases e : k = a
    · subst e
      have := hJ.img (ls.getD i lv0).pt.toNat (by omega)
      rw [Int.toNat_of_nonneg hpt.1, hap] at this
      exact this
    · have hk' := ok.orb_in (getD_mem (d := 0) (show k < (ls.getD i lv0).orb.length by omega))
      exact hJ.keep _ _ (by omega) (by omega) (h.cur k (by omega))
theorem BldI.fin (h : BldI n ls i (ls.getD i lv0).orb.length S c) (hG : Gd n G [] N0 ls) (hF : Full n ls) (hi : i < ls.length) : BldJ n ls i S c := by
  refine ⟨h.el, h.oc, fun j hj hjl y hy => ?_⟩
  by_cases e : j = i
  · subst e
    have ok := hG.ok hi
    have hy' := ok.orb_in hy
    have hpt := ok.pt
    obtain ⟨k, hk, rfl⟩ := mem_iff_getD.1 hy
    have h1 := (h.oc _ _ (by omega) (by omega)).1 (h.cur k hk).symm
    rw [Int.toNat_of_nonneg hpt.1, Int.toNat_of_nonneg hy'.1] at h1
    exact reach_mono (fun s hs => mem_fixS.2 ⟨hs, ((hG.full.pstab hF (i := j) (by rw [ptsL_len]; omega) s).1 (h.el s hs)).2⟩) h1
  · exact h.done j (by omega) hjl y hy
theorem BldJ.ok (h : BldJ n ls 0 S c) (hG : Gd n G [] N0 ls) (hF : Full n ls) (hGG : Grp n G) : OKR n G (ptsL ls) S := by
  have hD := hG.dist hF
  have hS : GensN n S := fun s hs => hG.links.grp.perm s (h.el s hs)
  refine (ok_iff hGG hD.1 hS).1 ⟨?_, fun s hs => (hG.grp s).1 (h.el s hs), fun i hi => ?_⟩
  · exact (hG.full.triv hF).1 (by rw [ptsL_len]; exact Nat.le_refl _)
  · have hil : i < ls.length := by rw [ptsL_len] at hi; exact hi
    have ok := hG.ok hil
    refine ⟨_, ⟨(ls.getD i lv0).orb, ok.nd, fun y => ?_, rfl⟩, hG.full.orbLen hF hi⟩
    have hfN : GensN n (fixS S (ptsL ls) i) := fun s hs => hS s (mem_fixS.1 hs).1
    have hpt := ok.pt
    rw [ptsL_getD hil, ← gen_reach ok.n1 hfN hpt y]
    constructor
    · intro hy; exact h.done i (Nat.zero_le _) hil y hy
    · intro hy
      obtain ⟨p, hp, e⟩ := (gen_reach ok.n1 hfN hpt y).1 hy
      have hst : PStab G ((ptsL ls).take i) p := gen_le (pstab_grp hGG fun x hx => hD.1 x (List.mem_of_mem_take hx)) (fun s hs => ⟨(hG.grp s).1 (h.el s (mem_fixS.1 hs).1), (mem_fixS.1 hs).2⟩) hp
      have h3 := (hG.full.pstab hF (i := i) (by rw [ptsL_len]; omega) p).2 hst
      rw [drop_cons hil] at h3
      exact (ok.mem' y).2 ⟨p, h3, e⟩
end
end Go.Proofs.Ythhfjagnmhhapaa

namespace Go.W
theorem k_neT {P : Program} {S : World → Prop} {ops : List Oper} {K : Env → World → Prop} {rest : List (Oper × Option Bool)} {ρ : Env} {w : World} {b : Option Bool} {d : Nat} {T T' : TypeId} {pos : String} {af : Array Edge} {x y : Operand} {k : IntKind} {m m' : Int} {T'' : TypeId}
    (hx : ev ρ x = .int k m) (hy : ev ρ y = .int k m') (hd : m ≠ m') (h : RR P S ops K rest (upd ρ d (.bool true)) w) : RR P S ops K ((⟨some d, .binOp .neq T' x y T'', T, pos, af, none⟩, b) :: rest) ρ w :=
  k_neq hx hy (by rw [decide_eq_true hd]; exact h)
end Go.W
namespace Go.Proofs.Ythhfjagnmhhapaa
open Go.W Go.PM Go.LM
theorem rev_spec {xs : List Int} {b : Option Addr} {cap lo : Nat} {w : World} (hO : Own w lo 3 1 b xs.length cap (intsL xs)) (hl : xs.length ≤ 1000) :
    CallsR Try.prog 76 #[.slice b xs.length cap] w fun v w' => v = .tuple #[] ∧ ∃ ys, ys.length = xs.length ∧ (∀ k, k < xs.length → ys.getD k 0 = xs.getD (xs.length - 1 - k) 0) ∧ Own w' lo 3 1 b xs.length cap (intsL ys) ∧ Fr (fun q => ∃ ad, b = some ad ∧ ad.block = q) w w' := by
  refine callsR_of (args := [_]) Try.func76 rfl rfl ?_
  repeat' (first | (refine k_pure rfl ?_) | (refine then_normal ?_) | (refine cw_seq ?_) | (refine cw_region rfl ?_) | (refine rr_nil ?_) | (refine k_len rfl ?_) | (refine k_subI rfl rfl (by omega) (by omega) ?_) | (refine cw_block ?_))
  refine cw_loop (ι := Nat × List Int) [2, 3, 7, 8, 9, 10, 11, 12, 13, 14, 15, 16, 17, 18, 19, 20, 21, 22, 23, 24, 25, 26, 27] (fun s => [(2, .int .i64 (s.1 : Int)), (3, .int .i64 ((xs.length : Int) - 1 - (s.1 : Int)))])
    (fun s w' => s.1 ≤ xs.length ∧ s.2.length = xs.length ∧ (∀ k, k < xs.length → s.2.getD k 0 = if k < s.1 ∨ xs.length < k + 1 + s.1 then xs.getD (xs.length - 1 - k) 0 else xs.getD k 0) ∧ Own w' lo 3 1 b xs.length cap (intsL s.2) ∧ Fr (fun q => ∃ ad, b = some ad ∧ ad.block = q) w w') (fun s => xs.length - s.1)
    (0, xs) ⟨rfl, congrArg (Value.int .i64) (by omega), trivial⟩ ⟨Nat.zero_le _, rfl, fun k hk => by rw [if_neg (by omega)], hO, Fr.refl _ _⟩ ?_
  rintro ⟨i, ys⟩ ξ w1 ⟨hi, hyl, hy, hO1, hF1⟩
  simp only at hi hyl hy hO1
  show CW _ _ _ _ (over [(2, .int .i64 (i : Int)), (3, .int .i64 ((xs.length : Int) - 1 - (i : Int)))] _) w1
  by_cases hij : (i : Int) < (xs.length : Int) - 1 - (i : Int)
  · obtain ⟨j, hj⟩ : ∃ j : Nat, (xs.length : Int) - 1 - (i : Int) = (j : Int) := ⟨((xs.length : Int) - 1 - (i : Int)).toNat, by omega⟩
    obtain ⟨g, rfl⟩ := hO1.baPos (by omega)
    repeat' (first | (refine k_lssT rfl rfl hij ?_) | (refine k_pure rfl ?_) | (refine then_normal ?_) | (refine cw_seq ?_) | (refine cw_region rfl ?_) | (refine rr_nil ?_) | (refine cw_cond_true rfl ?_) | (refine cw_block ?_) | (refine cw_skip ?_))
    have hO1' := hO1.drew
    refine cw_draw (late := [13, 15]) (plan := [(0, none), (1, none), (2, none), (3, none), (4, none), (5, none), (6, none), (7, none), (8, none), (9, none), (10, none), (11, none), (12, none), (13, some false), (14, none), (15, some false)]) (fun w' => Sl w' (some ⟨g, 0, none⟩) (intsL ys)) mixed (by kernel_rfl) hO1'.sl ?_
    repeat' (first | (refine k_indexN (j := j) rfl (congrArg _ hj) ⟨_, _, rfl⟩ (by omega) ?_) | (refine k_indexN (j := i) rfl rfl ⟨_, _, rfl⟩ (by omega) ?_) | (refine k_loadI (j := j) rfl (fun _ h => h) (by omega) ?_) | (refine k_loadI (j := i) rfl (fun _ h => h) (by omega) ?_) | (refine k_pure rfl ?_))
    refine k_storeOwn rfl rfl rfl hO1' (by simp; omega) (fun g2 w2 hg2 _ hc2 ho2 => ⟨fun h => (nomatch h), ?_⟩)
    replace ho2 := ho2.setI
    obtain rfl : g = g2 := by simpa using hg2
    repeat' (first | (refine k_indexN (j := j) rfl (congrArg _ hj) ⟨_, _, rfl⟩ (by omega) ?_))
    refine k_storeOwn rfl rfl rfl ho2 (by simp; omega) (fun g3 w3 hg3 _ hc3 ho3 => ⟨fun h => (nomatch h), ?_⟩)
    replace ho3 := ho3.setI
    obtain rfl : g = g3 := by simpa using hg3
    repeat' (first | (refine k_pure rfl ?_) | (refine then_normal ?_) | (refine cw_region rfl ?_) | (refine rr_nil ?_) | (refine k_addI rfl rfl (by omega) (by omega) ?_) | (refine k_subI rfl rfl (by omega) (by omega) ?_) | (refine in_normal ?_))
    refine ⟨⟨(i + 1, (ys.set i (ys.getD j 0)).set j (ys.getD i 0)), ⟨by simp only; omega, by simp [hyl], fun k hk => ?_, ho3, Fr.trans (Fr.trans hF1 ((Ex.refl _).drew.fr)) (Fr.trans (hc2.fr ⟨_, rfl, rfl⟩) (hc3.fr ⟨_, rfl, rfl⟩))⟩, by simp only; omega, rfl, congrArg (Value.int .i64) (by omega), trivial⟩, (by (repeat (first | exact agree_mask _ _ _ | refine agree_upd rfl ?_ | refine agree_updO rfl ?_ | refine agree_overIn rfl ?_ | refine agree_maskIn rfl ?_)))⟩
    simp only
    rw [getD_set' (by rw [List.length_set]; omega), getD_set' (by omega)]
    by_cases e1 : k = j
    · subst e1
      rw [if_pos rfl, hy i (by omega), if_neg (by omega), if_pos (by omega), show xs.length - 1 - k = i by omega]
    · rw [if_neg e1]
      by_cases e2 : k = i
      · subst e2
        rw [if_pos rfl, hy j (by omega), if_neg (by omega), if_pos (by omega), show xs.length - 1 - k = j by omega]
      · rw [if_neg e2, hy k hk]
        by_cases e3 : k < i ∨ xs.length < k + 1 + i
        · rw [if_pos e3, if_pos (by omega)]
        · rw [if_neg e3, if_neg (by omega)]
  · repeat' (first | (refine k_lssF rfl rfl (by omega) ?_) | (refine k_pure rfl ?_) | (refine then_normal ?_) | (refine cw_seq ?_) | (refine cw_region rfl ?_) | (refine rr_nil ?_) | (refine cw_cond_false rfl ?_) | (refine cw_exit ?_) | (refine then_exit ?_) | (refine in_exit ?_))
    show fnPost _ _ _ _ _ _
    refine end0 rfl ⟨rfl, ys, hyl, fun k hk => ?_, hO1, hF1⟩
    rw [hy k hk]
    by_cases e : k < i ∨ xs.length < k + 1 + i
    · rw [if_pos e]
    · rw [if_neg e, show xs.length - 1 - k = k by omega]
/-- a new chain in memory, all of whose lists are its own -/
structure BcAt (w : World) (lo : Nat) (b : Option Addr) (bc : Nat) (base : List Int) (sa : Option Addr) (sc : Nat) (ssd : List SD) (S : List (List Int)) : Prop where
  ob : Own w lo 3 1 b base.length bc (intsL base)
  og : OwnLists w lo 28 3 .i64 sa sc ssd S
  ne : ∀ ad ad', b = some ad → sa = some ad' → ad.block ≠ ad'.block
  el : ∀ i ad ad', i < S.length → b = some ad → (ssd.getD i sd0).a = some ad' → ad.block ≠ ad'.block
theorem BcAt.nil (w : World) (lo : Nat) : BcAt w lo none 0 [] none 0 [] [] := ⟨Own.nil _ _ _ _, OwnLists.nil _ _ _ _ _, fun _ _ h _ => (nomatch h), fun _ _ _ _ h _ => (nomatch h)⟩
section
variable {w w' : World} {lo bc bc' sc sc' : Nat} {b b' sa sa' : Option Addr} {bs bs' : List Int} {ssd : List SD} {S : List (List Int)}
theorem BcAt.ext (h : BcAt w lo b bc bs sa sc ssd S) (e : Ex w w') : BcAt w' lo b bc bs sa sc ssd S := ⟨h.ob.ext e, h.og.ext e, h.ne, h.el⟩
theorem BcAt.chg {g : Nat} (h : BcAt w lo b bc bs sa sc ssd S) (c : Chg g w w') (hg : g < lo) : BcAt w' lo b bc bs sa sc ssd S :=
  ⟨h.ob.chg c fun ad e => by have := (h.ob.lo ad e).1; omega, h.og.gb (gbC c) fun m e => by injection e with e; omega, h.ne, h.el⟩
theorem BcAt.base (h : BcAt w lo b bc bs sa sc ssd S) (hO : Own w' lo 3 1 b' bs'.length bc' (intsL bs')) (hg : w.grownBy w' (Value.slice b bs.length bc).ownBlock) (hA : b' = b ∨ ∀ x, b' = some x → w.heap.size ≤ x.block) : BcAt w' lo b' bc' bs' sa sc ssd S := by
  have hne : ∀ ad, sa = some ad → (Value.slice b bs.length bc).ownBlock ≠ some ad.block := fun ad e h' => by
    obtain ⟨ad', e1, e2⟩ := ownBlock_eq h'
    exact h.ne ad' ad e1 e e2
  refine ⟨hO, ⟨h.og.top.gb hg hne, h.og.len, fun i hi => ⟨(h.og.each i hi).1.gb hg fun ad e h' => ?_, (h.og.each i hi).2⟩, h.og.sep⟩, fun ad ad' e e' => ?_, fun i ad ad' hi e e' => ?_⟩
  · obtain ⟨ad', e1, e2⟩ := ownBlock_eq h'
    exact h.el i ad' ad hi e1 e e2
  · rcases hA with rfl | hA
    · exact h.ne ad ad' e e'
    · have := hA ad e; have := (h.og.top.lo ad' e').2; omega
  · rcases hA with rfl | hA
    · exact h.el i ad ad' hi e e'
    · have := hA ad e; have := ((h.og.each i hi).1.lo ad' e').2; omega
theorem BcAt.push {w0 w1 : World} {p : List Int} {a : Option Addr} {cap : Nat} (h : BcAt w0 lo b bc bs sa sc ssd S) (e : Ex w0 w) (ho : Own w lo 3 1 a p.length cap (intsL p)) (hn : ∀ ad, a = some ad → w0.heap.size ≤ ad.block)
    (ht : Own w1 lo 28 1 sa' (ssd.length + 1) sc' ((ssd ++ [(⟨a, p.length, cap⟩ : SD)]).map SD.val)) (hg : w.grownBy w1 (Value.slice sa ssd.length sc).ownBlock) (hA : sa' = sa ∨ ∀ x, sa' = some x → w.heap.size ≤ x.block) :
    BcAt w1 lo b bc bs sa' sc' (ssd ++ [⟨a, p.length, cap⟩]) (S ++ [p]) := by
  have h' := h.ext e
  have hl := h.og.len
  have s1 := e.size
  have hne : ∀ ad, b = some ad → (Value.slice sa ssd.length sc).ownBlock ≠ some ad.block := fun ad e h2 => by
    obtain ⟨ad', e1, e2⟩ := ownBlock_eq h2
    exact h.ne ad ad' e e1 e2.symm
  refine ⟨h'.ob.gb hg hne, h'.og.snoc ho (fun ad ad' e1 e2 => ?_) ht hg hA, fun ad ad' e1 e2 => ?_, fun i ad ad' hi e1 e2 => ?_⟩
  · have := (h.og.top.lo ad e1).2; have := hn ad' e2; omega
  · rcases hA with rfl | hA
    · exact h.ne ad ad' e1 e2
    · have := hA ad' e2; have := (h.ob.lo ad e1).2; omega
  · rw [List.length_append, List.length_singleton] at hi
    rw [getD_snoc (by omega)] at e2
    split at e2
    · exact h.el i ad ad' (by omega) e1 e2
    · have := hn ad' e2; have := (h.ob.lo ad e1).2; omega
end
/-- what Build answers -/
def BuildOK (n : Int) (gens : List (List Int)) (deg : Int) (base : List Int) (S : List (List Int)) : Prop :=
  deg = n ∧ Dist n.toNat base ∧ GensN n.toNat S ∧ S.length ≤ 4096 ∧ OKR n.toNat (Gen n.toNat gens) base S
set_option maxHeartbeats 4000000 in
theorem sBuild_spec {n : Int} {gens : List (List Int)} {a : Option Addr} {sds : List SD} {cap : Nat} {w : World} (hL : Lists w .i64 a sds gens) (hl : gens.length ≤ 1000000) (h11 : errS n gens = 0 → n ≤ 11) :
    CallsR Try.prog 40 #[.int .i64 n, .slice a gens.length cap] w fun v w' => Ex w w' ∧ ∃ (deg : Int) (b : Option Addr) (bc : Nat) (base : List Int) (sa : Option Addr) (sc : Nat) (ssd : List SD) (S : List (List Int)),
      v = .tuple #[.agg (chainL deg b base.length bc sa S.length sc).toArray, .int .i64 (errS n gens)] ∧ Sl w' b (intsL base) ∧ Lists w' .i64 sa ssd S ∧ base.length ≤ bc ∧ base.length ≤ 1000 ∧ S.length ≤ 1000000 ∧ (errS n gens = 0 → BuildOK n gens deg base S) := by
  refine callsR_of (args := [_, _]) Try.func40 rfl rfl ?_
  repeat' (first | (refine k_allocA (vs := [.int .i64 0, .slice none 0 0, .slice none 0 0]) (fun g4 w1 hn1 => ⟨fun _ _ => trivial, ?_⟩)) | (refine k_pure rfl ?_) | (refine then_normal ?_) | (refine cw_seq ?_) | (refine cw_region rfl ?_) | (refine rr_nil ?_))
  have l1 := hn1.lo; have l1' := hn1.blk.lt; have s1 := hn1.ex.size
  refine k_call (chkS_spec (hL.ext hn1.ex) hl) rfl ?_
  rintro v w2 ⟨rfl, hE2⟩
  refine ⟨fun _ _ => trivial, ?_⟩
  have hb42 := hn1.blk.ext hE2
  have hEw2 := hn1.ex.trans hE2
  have s2 := hE2.size
  repeat' (first | (refine k_pure rfl ?_) | (refine then_normal ?_) | (refine cw_seq ?_) | (refine cw_region rfl ?_) | (refine rr_nil ?_) | (refine cw_cond_dec rfl (fun hc => ?_) (fun hc => ?_)) | (refine cw_skip ?_))
  · refine k_build (cs := [.int .i64 0, .slice none 0 0, .slice none 0 0]) rfl ?_
    repeat' (first | (refine k_pure rfl ?_))
    refine k_storeV (n := 3) rfl rfl rfl rfl hb42 rfl (fun w3 hc3 hb3 => ⟨fun _ _ => trivial, ?_⟩)
    repeat' (first | (refine k_pure rfl ?_) | (refine then_normal ?_) | (refine rr_nil ?_) | (refine cw_ret ?_) | (refine then_ret ?_))
    refine ret2 rfl (rc rfl rfl hb3) (rt rfl) ⟨hEw2.chg hc3 (by omega), 0, none, 0, [], none, 0, [], [], rfl, Sl.nil _ _, Lists.nil _ _ _, Nat.le_refl _, by simp, by simp, fun h => absurd h hc⟩
  · have h0 : errS n gens = 0 := by omega
    obtain ⟨m, rfl, hm1, hm2, hgl, hgn⟩ := errS_zero h0
    have hm11 : m ≤ 11 := by have := h11 h0; omega
    rw [h0]
    refine k_call (chBuild_spec (base := []) (b := none) (bc := 0) ⟨hm1, hm2⟩ hm11 hgn (hL.ext hEw2) (by omega) (Sl.nil _ _) (by simp) (fun i hi => absurd hi (by simp))) rfl ?_
    rintro v w4 ⟨hE4, c, ls, rfl, hC, hG, hF⟩
    refine ⟨fun _ _ => trivial, ?_⟩
    have hEw4 := hEw2.trans hE4
    have s4 := hE4.size
    have hb44 := hb42.ext hE4
    repeat' (first | (refine k_pure rfl ?_) | (refine then_normal ?_) | (refine cw_seq ?_) | (refine cw_region rfl ?_) | (refine rr_nil ?_))
    refine k_build (cs := [.int .i64 (m : Int), .slice none 0 0, .slice none 0 0]) rfl ?_
    refine k_allocA (vs := [.int .i64 0, .slice none 0 0, .slice none 0 0]) (fun g8 w5 hn5 => ⟨fun _ _ => trivial, ?_⟩)
    refine k_storeV (n := 3) rfl rfl rfl rfl hn5.blk rfl (fun w6 hc6 hb6 => ⟨fun _ _ => trivial, ?_⟩)
    have l5 := hn5.lo; have l5' := hn5.blk.lt; have s5 := hn5.ex.size; have s6 := hc6.size
    have hE46 : Ex w4 w6 := hn5.ex.chg hc6 l5
    repeat' (first | (refine k_pure rfl ?_) | (refine then_normal ?_) | (refine cw_seq ?_) | (refine cw_region rfl ?_) | (refine rr_nil ?_))
    refine k_call (newPart_spec hm2 w6) rfl ?_
    rintro v w7 ⟨gp, rfl, hgp, hP7, hE7⟩
    refine ⟨fun _ _ => trivial, ?_⟩
    have hE47 := hE46.trans hE7
    have s7 := hE7.size
    have hpl := hP7.lt
    have hb87 := hb6.ext hE7
    have hD := hG.dist hF
    have hlm : ls.length ≤ m := by have := Dist.length_le hD; rwa [ptsL_len] at this
    have hC7 := hC.ext hE47
    have hstr7 := hC7.str
    unfold chL at hstr7
    have hml := hC7.mok.1
    repeat' (first | (refine k_loadC (Tb := 100) rfl hstr7 rfl ?_) | (refine k_lenMap mapT rfl hC7.map ?_) | (refine k_pure rfl ?_) | (refine then_normal ?_) | (refine cw_seq ?_) | (refine cw_region rfl ?_) | (refine rr_nil ?_) | (refine k_subI rfl rfl (by omega) (by omega) ?_) | (refine k_fieldAddr rfl ?_) | (refine cw_block ?_))
    rw [hml]
    skip
    refine cw_loop (ι := Nat × (List Int × Option Addr × Nat) × List SD × List (List Int) × (Option Addr × Nat) × (Nat → Nat)) [10, 11, 12, 13, 14, 35, 36, 37, 38, 39, 40, 41, 42, 43, 44, 45, 46, 47, 48, 49, 50, 51, 52, 53, 54, 55, 56, 57, 58, 59, 60, 61, 62, 63, 64, 65, 66, 67, 68, 69, 70, 71, 72, 73, 74, 75, 76, 77, 78, 79, 80, 81, 82, 83, 84, 85, 86, 87, 88, 89, 90, 91, 92] (fun s => [(10, .int .i64 ((s.1 : Int) - 1))])
      (fun s w' => s.1 ≤ ls.length ∧ Ex w4 w' ∧ Blk w' g8 60 (chainL (m : Int) s.2.1.2.1 s.2.1.1.length s.2.1.2.2 s.2.2.2.2.1.1 s.2.2.2.1.length s.2.2.2.2.1.2) ∧ PtAt w' gp m s.2.2.2.2.2 ∧ BcAt w' w7.heap.size s.2.1.2.1 s.2.1.2.2 s.2.1.1 s.2.2.2.2.1.1 s.2.2.2.2.1.2 s.2.2.1 s.2.2.2.1 ∧
        w7.heap.size ≤ w'.heap.size ∧ s.2.1.1.length + s.1 = ls.length ∧ (∀ k, k < s.2.1.1.length → s.2.1.1.getD k 0 = (ls.getD (ls.length - 1 - k) lv0).pt) ∧ s.2.2.2.1.length ≤ (ls.length - s.1) * 11 ∧ BldJ m ls s.1 s.2.2.2.1 s.2.2.2.2.2) (fun s => s.1)
      (ls.length, ([], none, 0), [], [], (none, 0), fun x => x) ⟨rfl, trivial⟩ ⟨Nat.le_refl _, hE47, hb87, hP7, BcAt.nil _ _, Nat.le_refl _, by simp, fun k hk => absurd hk (by simp), Nat.zero_le _, bldJ_nil m ls⟩ ?_
    rintro ⟨i, ⟨base, b, bc⟩, ssd, S, ⟨sa, sc⟩, cl⟩ ξ w8 ⟨hi, hE8, hb8, hP8, hB8, hs8, hbl, hbp, hSl, hJ⟩
    simp only at hi hb8 hP8 hB8 hbl hbp hSl hJ
    show CW _ _ _ _ (over [(10, .int .i64 ((i : Int) - 1))] _) w8
    have hgp8 : gp ≠ g8 := by omega
    cases i with
    | zero =>
      repeat' (first | (refine k_geqF rfl rfl (by omega) ?_) | (refine k_loadC (g := g8) rfl hb8 rfl ?_) | (refine k_pure rfl ?_) | (refine then_normal ?_) | (refine cw_seq ?_) | (refine cw_region rfl ?_) | (refine rr_nil ?_) | (refine k_fieldAddr rfl ?_) | (refine cw_cond_false rfl ?_) | (refine cw_exit ?_) | (refine then_exit ?_) | (refine in_exit ?_))
      refine k_call (rev_spec hB8.ob (by omega)) rfl ?_
      rintro v w9 ⟨rfl, ys, hyl, hyg, hO9, hF9⟩
      refine ⟨fun _ _ => trivial, ?_⟩
      have hlo9 : ∀ q, (∃ ad, b = some ad ∧ ad.block = q) → w7.heap.size ≤ q := by
        rintro q ⟨ad, e, rfl⟩
        exact (hB8.ob.lo ad e).1
      have hb89 : Blk w9 g8 60 _ := hb8.fr hF9 (fun h => by have := hlo9 _ h; omega)
      have hb49 : Blk w9 g4 60 _ := (hb44.ext hE8).fr hF9 (fun h => by have := hlo9 _ h; omega)
      have hLs9 : Lists w9 .i64 sa ssd S := hB8.og.lists.fr hF9 (fun ad e ⟨ad', e1, e2⟩ => hB8.ne ad' ad e1 e e2) (fun i ad e ⟨ad', e1, e2⟩ => by
        rcases Nat.lt_or_ge i S.length with hh | hh
        · exact hB8.el i ad' ad hh e1 e e2
        · rw [List.getD_eq_getElem?_getD, List.getElem?_eq_none (by have := hB8.og.len; omega)] at e; cases e)
      have hEw9 : Ex w w9 := Fr.ex (hEw4.trans hE8) hF9 (fun q h => by have := hlo9 q h; omega)
      repeat' (first | (refine k_loadCA (g := g8) rfl hb89 rfl ?_) | (refine then_normal ?_) | (refine cw_seq ?_) | (refine cw_region rfl ?_) | (refine rr_nil ?_))
      refine k_storeV (n := 3) rfl rfl rfl rfl hb49 rfl (fun w10 hc10 hb10 => ⟨fun _ _ => trivial, ?_⟩)
      repeat' (first | (refine k_pure rfl ?_) | (refine then_normal ?_) | (refine rr_nil ?_) | (refine cw_ret ?_))
      have hbe : ys = ptsL ls := by
        refine List.ext_getElem? fun k => ?_
        have hpl := ptsL_len ls
        rcases Nat.lt_or_ge k ls.length with hk | hk
        · have h1 := hyg k (by omega)
          rw [hbp _ (by omega), show ls.length - 1 - (base.length - 1 - k) = k by omega, ← ptsL_getD hk] at h1
          rw [List.getD_eq_getElem?_getD, List.getD_eq_getElem?_getD, List.getElem?_eq_getElem (by omega), List.getElem?_eq_getElem (by omega)] at h1
          rw [List.getElem?_eq_getElem (by omega), List.getElem?_eq_getElem (by omega)]
          exact congrArg some h1
        · rw [List.getElem?_eq_none (by omega), List.getElem?_eq_none (by omega)]
      have hok := hJ.ok hG hF (gen_grp ⟨hm1, hm2⟩ hgn)
      have hSl' : S.length ≤ 121 := by
        have := Nat.mul_le_mul_right 11 (show ls.length - 0 ≤ 11 by omega)
        omega
      refine ret2 rfl (rc rfl rfl hb10) (rt rfl) ⟨hEw9.chg hc10 (by omega), (m : Int), b, bc, ys, sa, sc, ssd, S, by rw [hyl]; rfl, hO9.sl.chg hc10 (fun ad e => by have := (hO9.lo ad e).1; omega), hLs9.fr (f1C hc10) (fun ad e he => ?_) (fun i ad e he => ?_), by rw [hyl]; exact hO9.capLe, by omega, by omega, fun _ => ⟨rfl, ?_, ?_, by omega, ?_⟩⟩
      · have := (hB8.og.top.lo ad e).1; have he' : ad.block = g4 := he; omega
      · have he' : ad.block = g4 := he
        rcases Nat.lt_or_ge i S.length with hh | hh
        · have := ((hB8.og.each i hh).1.lo ad e).1; omega
        · rw [List.getD_eq_getElem?_getD, List.getElem?_eq_none (by have := hB8.og.len; omega)] at e; cases e
      · rw [Int.toNat_natCast, hbe]; exact hD
      · rw [Int.toNat_natCast]; exact fun s hs => hG.links.grp.perm s (hJ.el s hs)
      · rw [Int.toNat_natCast, hbe]; exact hok
    | succ i =>
      have hil : i < ls.length := by omega
      obtain ⟨j, hj, hfd, hjm⟩ := hC.mok.find hil
      have hC8 := hC.ext hE8
      have hstr8 := hC8.str
      unfold chL at hstr8
      have hLv := hC8.lv i hil
      have hLs := hLv.str
      have ok := hG.ok hil
      have hol := ok.orb_le
      have e1 : ((i + 1 : Nat) : Int) - 1 = (i : Int) := by omega
      rw [e1]
      repeat' (first | (refine k_geqT rfl rfl (by omega) ?_) | (refine k_loadC (Tb := 100) rfl hstr8 rfl ?_) | (refine k_lookup mapT intT rfl rfl hC8.map hfd ?_) | (refine k_pure rfl ?_) | (refine then_normal ?_) | (refine cw_seq ?_) | (refine cw_region rfl ?_) | (refine rr_nil ?_) | (refine k_fieldAddr rfl ?_) | (refine cw_cond_true rfl ?_) | (refine cw_block ?_) | (refine cw_skip ?_))
      have hE8d : Ex w8 w8.drew := (Ex.refl _).drew
      have hblt : (c.hs i).blk < w4.heap.size := (hC.lv i hil).str.lt
      refine cw_draw (late := [9]) (plan := [(0, none), (1, none), (2, none), (3, none), (4, none), (5, none), (6, some true), (7, some true), (8, none), (9, some false)]) (fun w' => Blk w' g8 60 (chainL (m : Int) b base.length bc sa S.length sc) ∧ Blk w' (c.hs i).blk 95 (lvL m (c.hs i) (ls.getD i lv0))) mixed (by kernel_rfl) ⟨hb8.drew, hLs.drew⟩ ?_
      repeat' (first | (refine k_loadC (g := g8) rfl (fun _ h => h.1) rfl ?_) | (refine k_loadC (Tb := 95) rfl (fun _ h => h.2) rfl ?_) | (refine k_pure rfl ?_) | (refine k_fieldAddr rfl ?_))
      refine k_lit1 (v := .int .i64 (ls.getD i lv0).pt) rfl rfl (fun g9 w9 hn9 => ⟨fun _ h => ⟨h.1.ext hn9.ex, h.2.ext hn9.ex⟩, ?_⟩)
      have hE89 : Ex w8 w9 := hE8d.trans hn9.ex
      have s9 := hE89.size
      have hB9 := hB8.ext hE89
      have hlo10 : ∀ q, (Value.slice b base.length bc).ownBlock = some q → w7.heap.size ≤ q := fun q e => by
        obtain ⟨ad, e1, e2⟩ := ownBlock_eq e
        have := (hB8.ob.lo ad e1).1
        omega
      refine k_appendM (E := 3) (n := base.length) (a := b) (cap := bc) rfl rfl rfl hB9.ob hn9.blk.sl rfl rfl (by omega) (by omega) (by omega) (fun b10 bc10 w10 ho10 hg10 hA10 => ⟨fun _ h => ⟨h.1.gb hg10 (fun e => by have := hlo10 _ e; omega), h.2.gb hg10 (fun e => by have := hlo10 _ e; omega)⟩, ?_⟩)
      have hB10 := hB9.base (bs' := base ++ [(ls.getD i lv0).pt]) (by rw [List.length_append, List.length_singleton, intsL, List.map_append]; exact ho10) hg10 hA10
      have hb810 := (hb8.ext hE89).gb hg10 (fun e => by have := hlo10 _ e; omega)
      have hP10 : PtAt w10 gp m cl := by
        obtain ⟨ps, d, h1, h2⟩ := hP8.ext hE89
        exact ⟨ps, d, h1.gb hg10 (fun e => by have := hlo10 _ e; omega), h2⟩
      have hE410 : Ex w4 w10 := Ex.gb (hE8.trans hE89) hg10 (fun q e => by have := hlo10 q e; omega)
      have s10 := hg10.size
      repeat' (first | (refine k_storeC rfl rfl rfl hb810 rfl (fun w11 hc11 hb11 => ⟨fun h => (nomatch h), ?_⟩)) | (refine k_pure rfl ?_) | (refine then_normal ?_) | (refine cw_seq ?_) | (refine cw_region rfl ?_) | (refine rr_nil ?_) | (refine k_fieldAddr rfl ?_))
      have s11 := hc11.size
      have hE411 : Ex w4 w11 := hE410.chg hc11 (by omega)
      have hB11 := hB10.chg hc11 (by omega)
      have hP11 := hP10.chg hc11 hgp8
      have hbl11 : (base ++ [(ls.getD i lv0).pt]).length = base.length + 1 := by rw [List.length_append, List.length_singleton]
      have hbp11 : ∀ k, k < (base ++ [(ls.getD i lv0).pt]).length → (base ++ [(ls.getD i lv0).pt]).getD k 0 = (ls.getD (ls.length - 1 - k) lv0).pt := fun k hk => by
        rw [hbl11] at hk
        rw [getD_snoc hk]
        split
        · exact hbp k (by assumption)
        · rw [show ls.length - 1 - k = i by omega]
      have hb11' : Blk w11 g8 60 (chainL (m : Int) b10 (base ++ [(ls.getD i lv0).pt]).length bc10 sa S.length sc) := by rw [hbl11]; exact hb11
      generalize base ++ [(ls.getD i lv0).pt] = base' at *
      have hLs11 := ((hC.ext hE411).lv i hil).str
      repeat' (first | (refine k_loadC (Tb := 95) rfl hLs11 rfl ?_) | (refine k_pure rfl ?_) | (refine then_normal ?_) | (refine rr_nil ?_) | (refine k_len rfl ?_) | (refine cw_block ?_))
      have hpt := ok.pt
      obtain ⟨pt0, hpt0⟩ : ∃ k : Nat, (ls.getD i lv0).pt = (k : Int) := ⟨(ls.getD i lv0).pt.toNat, by omega⟩
      have hpt0m : pt0 < m := by omega
      have hJ0 := hJ.start hG hil
      have hsub : ls.length - (i + 1) + 1 = ls.length - i := by omega
      refine cw_loop (ι := Nat × List SD × List (List Int) × (Option Addr × Nat) × (Nat → Nat)) [12, 13, 14, 59, 60, 61, 62, 63, 64, 65, 66, 67, 68, 69, 70, 71, 72, 73, 74, 75, 76, 77, 78, 79, 80, 81, 82, 83, 84, 85, 86, 87, 88, 89, 90, 91, 92] (fun s => [(59, .int .i64 (s.1 : Int))])
        (fun s w' => s.1 ≤ (ls.getD i lv0).orb.length ∧ Ex w4 w' ∧ Blk w' g8 60 (chainL (m : Int) b10 base'.length bc10 s.2.2.2.1.1 s.2.2.1.length s.2.2.2.1.2) ∧ PtAt w' gp m s.2.2.2.2 ∧ BcAt w' w7.heap.size b10 bc10 base' s.2.2.2.1.1 s.2.2.2.1.2 s.2.1 s.2.2.1 ∧
          w7.heap.size ≤ w'.heap.size ∧ s.2.2.1.length ≤ (ls.length - (i + 1)) * 11 + s.1 ∧ BldI m ls i s.1 s.2.2.1 s.2.2.2.2) (fun s => (ls.getD i lv0).orb.length - s.1)
        (0, ssd, S, (sa, sc), cl) ⟨rfl, trivial⟩ ⟨Nat.zero_le _, hE411, hb11', hP11, hB11, by omega, hSl, hJ0⟩ ?_
      rintro ⟨k, ssd2, S2, ⟨sa2, sc2⟩, cl2⟩ ξ2 w12 ⟨hk, hE12, hb12, hP12, hB12, hs12, hSl2, hI2⟩
      simp only at hk hb12 hP12 hB12 hSl2 hI2
      show CW _ _ _ _ (over [(59, .int .i64 (k : Int))] _) w12
      have hC12 := hC.ext hE12
      have hLv12 := hC12.lv i hil
      by_cases hko : k < (ls.getD i lv0).orb.length
      · have hy := ok.orb_in (getD_mem (d := 0) hko)
        obtain ⟨y0, hy0⟩ : ∃ y : Nat, (ls.getD i lv0).orb.getD k 0 = (y : Int) := ⟨((ls.getD i lv0).orb.getD k 0).toNat, by omega⟩
        have hy0m : y0 < m := by omega
        have horb := hLv12.orb.sl
        repeat' (first | (refine k_lssT rfl rfl (by omega) ?_) | (refine k_indexN (j := k) rfl rfl ⟨_, _, rfl⟩ hko ?_) | (refine k_loadI (j := k) rfl horb hko ?_) | (refine k_pure rfl ?_) | (refine then_normal ?_) | (refine cw_seq ?_) | (refine cw_region rfl ?_) | (refine rr_nil ?_) | (refine cw_cond_true rfl ?_) | (refine cw_block ?_) | (refine cw_skip ?_))
        have hE12d : Ex w12 w12.drew := (Ex.refl _).drew
        refine cw_draw (late := [8]) (plan := [(0, none), (1, none), (3, none), (4, none), (5, none), (6, none), (7, none), (2, some true), (8, some false), (9, none)]) (fun w' => Blk w' (c.hs i).blk 95 (lvL m (c.hs i) (ls.getD i lv0))) mixed (by kernel_rfl) hLv12.str.drew ?_
        repeat' (first | (refine k_loadC (Tb := 95) rfl (fun _ h => h) rfl ?_) | (refine k_pure rfl ?_) | (refine k_fieldAddr rfl ?_))
        refine k_call (find_spec hP12.drew hy0m hm2) (by rw [← hy0]; rfl) ?_
        rintro v w13 ⟨rfl, hc13, hP13⟩
        refine ⟨fun _ h => h.chg hc13 (by omega), ?_⟩
        skip
        refine k_call (find_spec hP13 hpt0m hm2) (by rw [← hpt0]; rfl) ?_
        rintro v w14 ⟨rfl, hc14, hP14⟩
        refine ⟨fun _ h => h.chg hc14 (by omega), ?_⟩
        have hc124 : Chg gp w12.drew w14 := hc13.trans hc14
        have s14 := hc124.size
        have hs12d : w12.drew.heap.size = w12.heap.size := rfl
        have hE14 : Ex w4 w14 := (hE12.trans hE12d).chg hc124 (by omega)
        have hB14 := (hB12.ext hE12d).chg hc124 (by omega)
        have hb14 := (hb12.ext hE12d).chg hc124 (Ne.symm hgp8)
        have ey : ((ls.getD i lv0).orb.getD k 0).toNat = y0 := by omega
        have ep : (ls.getD i lv0).pt.toNat = pt0 := by omega
        by_cases he : cl2 y0 = cl2 pt0
        · repeat' (first | (refine k_neF rfl rfl (by omega) ?_) | (refine k_pure rfl ?_) | (refine then_normal ?_) | (refine cw_region rfl ?_) | (refine rr_nil ?_) | (refine k_addI rfl rfl (by omega) (by omega) ?_) | (refine cw_cond_false rfl ?_) | (refine in_normal ?_) | (refine cw_skip ?_))
          refine ⟨⟨(k + 1, ssd2, S2, (sa2, sc2), cl2), ⟨by simp only; omega, hE14, hb14, hP14, hB14, by omega, by simp only; omega, hI2.skip (by rw [ey, ep]; exact he)⟩, by simp only; omega, rfl, trivial⟩, (by (repeat (first | exact agree_mask _ _ _ | refine agree_upd rfl ?_ | refine agree_updO rfl ?_ | refine agree_overIn rfl ?_ | refine agree_maskIn rfl ?_)))⟩
        · have hC14 := hC.ext hE14
          have hLv14 := hC14.lv i hil
          have hLs14 := hLv14.str
          have hbkl := ok.len
          have hbs := hLv14.bs.len
          have hsd := hLv14.bs.sl k (by omega)
          have hsn := hLv14.bs.n k (by omega)
          have hbk := hLv14.bk.sl
          have hpk : PermN m ((ls.getD i lv0).bk k) := ok.grp.perm _ (ok.bin k hko)
          obtain ⟨⟨ta, tl, tc⟩, hsdk⟩ : ∃ x, (c.hs i).bs.getD k sd0 = x := ⟨_, rfl⟩
          rw [hsdk] at hsd hsn
          simp only at hsd hsn
          subst hsn
          have hsd' : Sl w14 ta (u16L ((ls.getD i lv0).bk k)) := hsd
          repeat' (first | (refine k_neT rfl rfl (by omega) ?_) | (refine k_loadC (Tb := 95) rfl hLs14 rfl ?_) | (refine k_indexN (j := k) rfl rfl ⟨_, _, rfl⟩ (by omega) ?_) | (refine k_loadSd rfl hbk (by omega) hsdk ?_) | (refine k_pure rfl ?_) | (refine then_normal ?_) | (refine cw_seq ?_) | (refine cw_region rfl ?_) | (refine rr_nil ?_) | (refine k_fieldAddr rfl ?_) | (refine cw_cond_true rfl ?_))
          refine k_call (pinv_spec hsd' tc hpk) (by rw [hpk.2]; rfl) ?_
          rintro v w15 ⟨gi, rfl, hgi, hbi, hE15⟩
          refine ⟨fun _ _ => trivial, ?_⟩
          have s15 := hE15.size
          have hil' := hbi.lt
          have hpi : PermN tl (inv ((ls.getD i lv0).bk k)) := hpk.inv
          rw [hpi.2]
          repeat' (first | (refine k_pure rfl ?_) | (refine then_normal ?_) | (refine cw_seq ?_) | (refine cw_region rfl ?_) | (refine rr_nil ?_))
          refine k_call (join_spec (hP14.ext hE15) hbi.sl hpi (fun ad e => by injection e with e; subst e; show gi ≠ gp; omega)) rfl ?_
          rintro v w16 ⟨rfl, hc16, cl', hP16, hJn⟩
          refine ⟨fun _ _ => trivial, ?_⟩
          have s16 := hc16.size
          have hE16 : Ex w4 w16 := (hE14.trans hE15).chg hc16 (by omega)
          have hb16 := (hb14.ext hE15).chg hc16 (Ne.symm hgp8)
          have hB16 := (hB14.ext hE15).chg hc16 (by omega)
          have hbi16 := hbi.chg hc16 (by omega)
          repeat' (first | (refine then_normal ?_) | (refine rr_nil ?_))
          have hE16d : Ex w16 w16.drew := (Ex.refl _).drew
          refine cw_draw (late := [5, 7]) (plan := [(0, none), (1, none), (2, none), (3, some true), (4, some true), (5, some false), (6, none), (7, some false)]) (fun w' => Blk w' g8 60 (chainL (tl : Int) b10 base'.length bc10 sa2 S2.length sc2)) mixed (by kernel_rfl) hb16.drew ?_
          repeat' (first | (refine k_loadC (g := g8) rfl (fun _ h => h) rfl ?_) | (refine k_pure rfl ?_) | (refine k_fieldAddr rfl ?_))
          refine k_call (toInts_spec (xs := inv ((ls.getD i lv0).bk k)) (hbi16.sl.ext hE16d) tl (fun j hj => by have := hpi.1.lt hj; rw [hpi.2] at this; omega) (by rw [hpi.2]; omega)) (by rw [hpi.2]; rfl) ?_
          rintro v w17 ⟨gt, rfl, hgt, hbt, hE17⟩
          refine ⟨fun _ h => h.ext hE17, ?_⟩
          have hE67 : Ex w16 w17 := hE16d.trans hE17
          have s17 := hE67.size
          have htl := hbt.lt
          have hs16d : w16.drew.heap.size = w16.heap.size := rfl
          refine k_lit1 (v := .slice (some ⟨gt, 0, none⟩) (inv ((ls.getD i lv0).bk k)).length (inv ((ls.getD i lv0).bk k)).length) rfl rfl (fun g18 w18 hn18 => ⟨fun _ h => h.ext hn18.ex, ?_⟩)
          have hE68 : Ex w16 w18 := hE67.trans hn18.ex
          have s18 := hE68.size
          have hB18 := hB16.ext hE68
          have hlo19 : ∀ q, (Value.slice sa2 ssd2.length sc2).ownBlock = some q → w7.heap.size ≤ q := fun q e => by
            obtain ⟨ad, e1, e2⟩ := ownBlock_eq e
            have := (hB16.og.top.lo ad e1).1
            omega
          have hslen := hB16.og.len
          have hS2 : S2.length ≤ 132 := by
            have := Nat.mul_le_mul_right 11 (show ls.length - (i + 1) ≤ 11 by omega)
            omega
          refine k_appendM (E := 28) (n := ssd2.length) (a := sa2) (cap := sc2) (by show Value.slice sa2 S2.length sc2 = _; rw [hslen]) rfl rfl hB18.og.top hn18.blk.sl rfl rfl (by omega) (by omega) (by omega) (fun a19 c19 w19 ho19 hg19 hA19 => ⟨fun _ h => h.gb hg19 (fun e => by have := hlo19 _ e; omega), ?_⟩)
          have hown18 : Own w18 w7.heap.size 3 1 (some ⟨gt, 0, none⟩) (inv ((ls.getD i lv0).bk k)).length (inv ((ls.getD i lv0).bk k)).length (intsL (inv ((ls.getD i lv0).bk k))) := (hbt.ext hn18.ex).own (by simp) (by rw [hpi.2]; unfold maxLen; omega) (by omega)
          have hB19 := hB16.push hE68 hown18 (fun ad e => by injection e with e; subst e; show w16.heap.size ≤ gt; omega) (by rw [List.map_append]; exact ho19) hg19 hA19
          have hb19 := (hb16.ext hE68).gb hg19 (fun e => by have := hlo19 _ e; omega)
          have hE419 : Ex w4 w19 := Ex.gb (hE16.trans hE68) hg19 (fun q e => by have := hlo19 q e; omega)
          have hP19 : PtAt w19 gp tl cl' := by
            obtain ⟨ps, d, h1, h2⟩ := hP16.ext hE68
            exact ⟨ps, d, h1.gb hg19 (fun e => by have := hlo19 _ e; omega), h2⟩
          have s19 := hg19.size
          repeat' (first | (refine k_storeC rfl rfl rfl hb19 rfl (fun w20 hc20 hb20 => ⟨fun h => (nomatch h), ?_⟩)) | (refine k_pure rfl ?_) | (refine then_normal ?_) | (refine cw_region rfl ?_) | (refine rr_nil ?_) | (refine k_addI rfl rfl (by omega) (by omega) ?_) | (refine k_fieldAddr rfl ?_) | (refine in_normal ?_))
          have s20 := hc20.size
          refine ⟨⟨(k + 1, ssd2 ++ [⟨some ⟨gt, 0, none⟩, (inv ((ls.getD i lv0).bk k)).length, (inv ((ls.getD i lv0).bk k)).length⟩], S2 ++ [inv ((ls.getD i lv0).bk k)], (a19, c19), cl'), ⟨by simp only; omega, hE419.chg hc20 (by omega), by simp only; rw [List.length_append, List.length_singleton, ← hslen]; exact hb20, hP19.chg hc20 hgp8, hB19.chg hc20 (by omega), by omega, by simp only; rw [List.length_append, List.length_singleton]; omega, hI2.add hG hil hko hJn⟩, by simp only; omega, rfl, trivial⟩, (by (repeat (first | exact agree_mask _ _ _ | refine agree_upd rfl ?_ | refine agree_updO rfl ?_ | refine agree_overIn rfl ?_ | refine agree_maskIn rfl ?_)))⟩
      · obtain rfl : k = (ls.getD i lv0).orb.length := by omega
        repeat' (first | (refine k_lssF rfl rfl (by omega) ?_) | (refine k_pure rfl ?_) | (refine then_normal ?_) | (refine cw_seq ?_) | (refine cw_region rfl ?_) | (refine rr_nil ?_) | (refine k_subI rfl rfl (by omega) (by omega) ?_) | (refine cw_cond_false rfl ?_) | (refine cw_exit ?_) | (refine then_exit ?_) | (refine in_exit ?_) | (refine in_normal ?_))
        refine ⟨⟨(i, (base', b10, bc10), ssd2, S2, (sa2, sc2), cl2), ⟨by simp only; omega, hE12, hb12, hP12, hB12, hs12, by simp only; omega, hbp11, by simp only; have := Nat.mul_comm (ls.length - (i + 1)) 11; rw [← hsub, Nat.add_mul]; omega, hI2.fin hG hF hil⟩, by simp only; omega, rfl, trivial⟩, (by (repeat (first | exact agree_mask _ _ _ | refine agree_upd rfl ?_ | refine agree_updO rfl ?_ | refine agree_overIn rfl ?_ | refine agree_maskIn rfl ?_)))⟩
end Go.Proofs.Ythhfjagnmhhapaa

namespace Go.Proofs.Ythhfjagnmhhapaa
open Go.W Go.PM Go.LM
theorem BuildOK.errV {n : Nat} {gens : List (List Int)} {deg : Int} {base : List Int} {S : List (List Int)} (h : BuildOK (n : Int) gens deg base S) (h0 : errS (n : Int) gens = 0) : ErrV (n : Int) gens deg base S 0 :=
  .inr ⟨h0, .inr ⟨h.2.2.2.1, .inr ⟨⟨h.1, h.2.1, permsB_iff.2 h.2.2.1⟩, .inl ⟨h.2.2.2.2, rfl⟩⟩⟩⟩
set_option maxHeartbeats 1000000 in
theorem builds_calls {pts : Int} (hp : 0 ≤ pts ∧ pts ≤ 255) {la : Option Addr} {sds : List SD} {Ls : List (List Int)} {w : World} (hL : Lists w .i8 la sds Ls) (hI : ∀ i, I8 (Ls.getD i [])) (c : Nat) (hl : Ls.length ≤ 9223372036854775807) (few : Bool) :
    CallsR Try.prog 12 #[.agg (permsL pts la Ls.length c few).toArray] w fun v w' => v = .bool true ∧ Ex w w' := by
  refine callsR_of (args := [_]) Try.func12 rfl rfl ?_
  repeat' (first | (refine k_boxA rfl (fun g w1 hn1 => ⟨fun _ _ => trivial, ?_⟩)) | (refine k_pure rfl ?_) | (refine then_normal ?_) | (refine cw_seq ?_) | (refine cw_region rfl ?_) | (refine rr_nil ?_))
  have hd1 : 0 ≤ pts % 8 := Int.emod_nonneg _ (by omega)
  have hd2 : pts % 8 < 8 := Int.emod_lt_of_pos _ (by omega)
  obtain ⟨n, hn⟩ : ∃ n : Nat, 1 + pts % 8 = (n : Int) := ⟨(1 + pts % 8).toNat, by omega⟩
  have hn8 : 1 ≤ n ∧ n ≤ 8 := by omega
  refine cw_draw (late := []) (plan := [(0, none), (2, none), (1, some true), (3, some true), (4, none), (5, none)]) (fun w' => Blk w' g 35 (permsL pts la Ls.length c few)) mixed (by kernel_rfl) hn1.blk.drew ?_
  have hE1 : Ex w w1.drew := hn1.ex.drew
  repeat' (first | (refine k_loadCA rfl (fun _ h => h) rfl ?_))
  refine k_call (degree_spec hp _ _ _ _ (by omega) _) rfl ?_
  rintro v w2 ⟨rfl, hE2⟩
  refine ⟨fun _ h => h.ext hE2, ?_⟩
  rw [hn]
  refine k_call (gens_spec hp (by omega) hn (hL.ext (hE1.trans hE2)) hI _ hl few) rfl ?_
  rintro v w3 ⟨b, cc, ss, xss, rfl, hO, hx3, hG, hA, hE3⟩
  refine ⟨fun _ h => h.ext hE3, ?_⟩
  have hE03 : Ex w w3 := (hE1.trans hE2).trans hE3
  have hLs := hO.lists
  have hle := hLs.len
  rw [hle]
  have hes : errS (n : Int) xss = 0 := errS_ok hn8.1 (by omega) (by omega) hG
  repeat' (first | (refine k_pure rfl ?_) | (refine then_normal ?_) | (refine cw_seq ?_) | (refine cw_region rfl ?_) | (refine rr_nil ?_))
  refine k_call (sBuild_spec (n := (n : Int)) (cap := cc) hLs (by omega) (fun _ => by omega)) rfl ?_
  rintro v w4 ⟨hE4, deg, b4, bc, base, sa, sc, ssd, S, rfl, hbs, hS, hbc, hbl, hSl, hok⟩
  refine ⟨fun _ _ => trivial, ?_⟩
  have hV := (hok hes).errV hes
  rw [hes]
  repeat' (first | (refine k_pure rfl ?_))
  refine k_allocA (vs := [.int .i64 0, .slice none 0 0, .slice none 0 0]) (fun g5 w5 hn5 => ⟨fun _ _ => trivial, ?_⟩)
  refine k_storeV (n := 3) rfl rfl rfl rfl hn5.blk rfl (fun w6 hc6 hb6 => ⟨fun _ _ => trivial, ?_⟩)
  have l5 := hn5.lo; have s4 := hE4.size
  have hE46 : Ex w4 w6 := hn5.ex.chg hc6 l5
  have hX6 : Ex w3 w6 := hE4.trans hE46
  repeat' (first | (refine k_loadCA (g := g5) rfl hb6 rfl ?_) | (refine k_pure rfl ?_) | (refine then_normal ?_) | (refine cw_seq ?_) | (refine cw_region rfl ?_) | (refine rr_nil ?_) | (refine g_run rfl rfl ?_))
  refine k_call (rVerify_spec (n := (n : Int)) (deg := deg) (cap := cc) (bc := bc) (sc := sc) (hLs.ext hX6) (by omega) (fun _ => by omega) (hbs.ext hE46) hbl hbc (hS.ext hE46) hSl) rfl ?_
  rintro v w7 ⟨e7, rfl, he7, hE7⟩
  refine ⟨fun _ _ => trivial, ?_⟩
  obtain rfl : e7 = 0 := he7.unique hV
  have hE47 := hE46.trans hE7
  have hb7 := hb6.ext hE7
  repeat' (first | (refine k_loadCA (g := g5) rfl hb7 rfl ?_) | (refine k_pure rfl ?_) | (refine g_run rfl rfl ?_))
  refine k_call (sVerify_spec (n := (n : Int)) (deg := deg) (cap := cc) (bc := bc) (sc := sc) (hLs.ext (hX6.trans hE7)) (by omega) (fun _ => by omega) (hbs.ext hE47) hbl (hS.ext hE47) hSl) rfl ?_
  rintro v w8 ⟨e8, rfl, he8, hE8⟩
  refine ⟨fun _ _ => trivial, ?_⟩
  obtain rfl : e8 = 0 := he8.unique hV
  repeat' (first | (refine k_pure rfl ?_) | (refine g_run rfl rfl ?_))
  refine k_call (awakeS_spec _) rfl ?_
  rintro v w9 ⟨rfl, hE9⟩
  refine ⟨fun _ _ => trivial, ?_⟩
  repeat' (first | (refine k_pure rfl ?_) | (refine then_normal ?_) | (refine rr_nil ?_) | (refine cw_ret ?_))
  exact ret1 rfl (rt rfl) ⟨rfl, (((hE03.trans hX6).trans hE7).trans hE8).trans hE9⟩
end Go.Proofs.Ythhfjagnmhhapaa

namespace Go.W
open Go.ChangeShapes Go.WideShapes Go.ChangeAt Go.RowKit
section
variable {H : Type} {enc : TypeId × Value → H} {P : Program} {W W' : World}
theorem open_rows {t e q : TypeId} {k : IntKind} {v : Value} {d : DataW H} {ps : List MemPlace} {r : Reach} {b0 : Nat} (ht : P.underlying t = some (.slice e)) (he : P.underlying e = some (.slice q)) (hq : P.underlying q = some (.int k))
    (ce : P.cellsOf e = 1) (cq : P.cellsOf q = 1) (hval : Value.okWide P W r b0 t v) (h : DataW.Trod enc P W 0 (fun _ => true) true t v d ps) :
    ∃ (a : Option Addr) (sds : List SD) (xss : List (List Int)) (c : Nat), v = .slice a xss.length c ∧ Lists W k a sds xss ∧ xss.length ≤ 9223372036854775807 ∧ (∀ i, (xss.getD i []).length ≤ 9223372036854775807) ∧ ∀ i, ∀ x ∈ xss.getD i [], (Lit.int k x).wf = true := by
  obtain ⟨a0, len, cap, rfl⟩ := okWide_slice ht hval
  obtain ⟨fuel, hf⟩ := h
  exact open_rowsT ht he hq ce cq hf
end
end Go.W
namespace Go.Proofs.Ythhfjagnmhhapaa
open Go.W Go.ChangeShapes Go.WideShapes Go.ChangeAt Go.RowKit
end Go.Proofs.Ythhfjagnmhhapaa

