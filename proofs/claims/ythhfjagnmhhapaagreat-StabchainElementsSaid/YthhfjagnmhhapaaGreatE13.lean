import Derived.Shelf.SlSortCmp.Whole1
import Derived.Test.YthhfjagnmhhapaaGreatProg
import Derived.Test.YthhfjagnmhhapaaGreatE01
import Derived.Test.YthhfjagnmhhapaaGreatE02
import Derived.Test.YthhfjagnmhhapaaGreatE03
import Derived.Test.YthhfjagnmhhapaaGreatE04
import Derived.Test.YthhfjagnmhhapaaGreatE05
import Derived.Test.YthhfjagnmhhapaaGreatE06
import Derived.Test.YthhfjagnmhhapaaGreatE07
import Derived.Test.YthhfjagnmhhapaaGreatE08
import Derived.Test.YthhfjagnmhhapaaGreatE09
import Derived.Test.YthhfjagnmhhapaaGreatE11
import Derived.Test.YthhfjagnmhhapaaGreatE12

namespace Go.W
section
variable {P : Program} {S : World → Prop} {ops : List Oper} {K : Env → World → Prop} {rest : List (Oper × Option Bool)} {ρ : Env} {w : World} {b : Option Bool} {d : Nat} {T T' : TypeId} {pos : String} {af : Array Edge}
/-- x[l:] -/
theorem k_sliceFrom {x lo : Operand} {g o len cap E s y l : Nat} {k : IntKind} [hT : Slc P T' E s y] (hx : ev ρ x = .slice (some ⟨g, o, none⟩) len cap) (hlo : ev ρ lo = .int k (l : Int)) (h1 : l ≤ len) (_h2 : len ≤ cap)
    (hh : RR P S ops K rest (upd ρ d (.slice (some (if cap = l then ⟨g, o, none⟩ else ⟨g, o + l * s, none⟩)) (len - l) (cap - l))) w) :
    RR P S ops K ((⟨some d, .slice T' x (some lo) none none, T, pos, af, none⟩, b) :: rest) ρ w := by
  refine rr_pure rfl (fun w' => ?_) hh
  obtain ⟨i0, hi0, hz⟩ := Option.map_eq_some_iff.1 hT.sz
  simp only [Prod.mk.injEq] at hz
  have e : ∀ n, (⟨g, o, none⟩ : Addr).add n = ⟨g, o + n, none⟩ := fun n => by unfold Addr.add; split <;> simp_all
  simp [execOp, Instr.sliceAt, Instr.slice, Instr.sliceBounds, Instr.sliceBound, hx, hlo, asIntOf, underlying, hT.un, sizeOf, typeInfo, hi0, hz.1, h1, e]
  try split <;> rfl
end
theorem Sl.drop {w : World} {g o : Nat} {vs : List Value} (h : Sl w (some ⟨g, o, none⟩) vs) (k : Nat) : Sl w (some ⟨g, o + k, none⟩) (vs.drop k) :=
  ⟨fun _ => ⟨_, _, rfl⟩, fun j hj => by
    rw [List.length_drop] at hj
    have := h.get (k + j) (by omega)
    rw [List.getD_eq_getElem?_getD, List.getElem?_drop, ← List.getD_eq_getElem?_getD, ← this]
    simp [elt, Nat.add_assoc]⟩
end Go.W
namespace Go.Proofs.YthhfjagnmhhapaaGreat
open Go.W Go.PM Go.LM
theorem grp_errS (n : Int) (gens : List (List Int)) : grpF n gens = errS n gens := by
  unfold grpF errS
  split
  · rfl
  · split
    · rfl
    · rename_i h _
      obtain ⟨m, rfl⟩ : ∃ m : Nat, n = (m : Int) := ⟨n.toNat, by omega⟩
      have e : gensOK (m : Int) gens ↔ permsB (m : Int) gens = true := by
        rw [permsB_iff]
        exact ⟨fun h p hp => ⟨(h p hp).2, by have := (h p hp).1; omega⟩, fun h p hp => ⟨by have := (h p hp).2; omega, (h p hp).1⟩⟩
      by_cases hg : gensOK (m : Int) gens
      · rw [if_pos hg, if_pos (e.1 hg)]
      · rw [if_neg hg, if_neg (fun h => hg (e.2 h))]
theorem prodL_take : ∀ (ls : List Lv) (k : Nat), (∀ l ∈ ls, 1 ≤ l.orb.length) → prodL (ls.take k) ≤ prodL ls
  | [], _, _ => by simp
  | l :: ls, 0, h => by
    have h1 : ∀ ls : List Lv, (∀ l ∈ ls, 1 ≤ l.orb.length) → 1 ≤ prodL ls := by
      intro ls
      induction ls with
      | nil => intro _; simp [prodL]
      | cons x ls ih => intro h; exact Nat.mul_pos (h x (by simp)) (ih fun l hl => h l (by simp [hl]))
    exact h1 (l :: ls) h
  | l :: ls, k + 1, h => Nat.mul_le_mul_left _ (prodL_take ls k fun x hx => h x (by simp [hx]))
theorem prodL_snoc : ∀ (ls : List Lv) (l : Lv), prodL (ls ++ [l]) = prodL ls * l.orb.length
  | [], l => by simp [prodL]
  | x :: ls, l => by
    show x.orb.length * prodL (ls ++ [l]) = x.orb.length * prodL ls * l.orb.length
    rw [prodL_snoc ls l, Nat.mul_assoc]
set_option maxHeartbeats 1000000 in
theorem rSize_spec {w : World} {n : Nat} {L : RC} {a : Option Addr} {cap : Nat} (hs : Sl w a (cellsL L)) (hC : RCs w n L) (hok : ∀ j, j < L.length → LvOK n (L.getD j rc0).2) (hl : L.length ≤ 1000000000) (hp : prodL (lvsOf L) ≤ 39916800) :
    CallsR Tryz.prog 17 #[.slice a L.length cap] w (RetZ w ((prodL (lvsOf L) : Nat) : Int)) := by
  refine callsR_of (args := [_]) Tryz.func17 rfl rfl ?_
  have hpt : ∀ k, prodL ((lvsOf L).take k) ≤ 39916800 := fun k => Nat.le_trans (prodL_take _ k fun l hl' => by
    obtain ⟨j, hj, e⟩ := List.getElem_of_mem hl'
    have hj' : j < L.length := by simpa using hj
    have h2 := (hok j hj').pos
    rw [← lvsOf_getD, List.getD_eq_getElem?_getD, List.getElem?_eq_getElem hj, e] at h2
    exact h2) hp
  repeat' (first | (refine k_allocA (vs := intL false none 0 0) (fun g2 w1 hn1 => ⟨fun _ _ => trivial, ?_⟩)) | (refine then_normal ?_) | (refine cw_seq ?_) | (refine cw_region rfl ?_) | (refine rr_nil ?_))
  refine k_call (refSmall_spec (z := 1) (by decide) (by decide) _) rfl ?_
  rintro v w2 ⟨hz2, hE2⟩
  refine ⟨fun _ _ => trivial, ?_⟩
  obtain ⟨cs2, rfl, hcl2, hco2⟩ := hz2.out
  repeat' (first | (refine k_allocA (vs := intL false none 0 0) (fun g3 w3 hn3 => ⟨fun _ _ => trivial, ?_⟩)))
  refine k_storeV (n := 2) rfl rfl hcl2 hco2 hn3.blk rfl (fun w4 hc4 hb4 => ⟨fun _ _ => trivial, ?_⟩)
  have l1 := hn1.lo; have l1' := hn1.blk.lt; have l3 := hn3.lo; have l3' := hn3.blk.lt; have s1 := hn1.ex.size; have s2 := hE2.size; have s3 := hn3.ex.size; have s4 := hc4.size
  have hE4 : Ex w w4 := ((hn1.ex.trans hE2).trans hn3.ex).chg hc4 (by omega)
  have hz4 := (hz2.ext hn3.ex).chgO hc4 (hz2.off_hi hn3.lo)
  have hb2 : Blk w4 g2 30 (intL false none 0 0) := ((hn1.blk.ext hE2).ext hn3.ex).chg hc4 (by omega)
  repeat' (first | (refine k_pure rfl ?_) | (refine then_normal ?_) | (refine cw_seq ?_) | (refine cw_region rfl ?_) | (refine rr_nil ?_) | (refine k_len rfl ?_) | (refine cw_block ?_))
  refine cw_loop (ι := Nat × List Value) [5, 9, 10, 11, 12, 13, 14, 15, 16, 17, 18] (fun s => [(9, .int .i64 (s.1 : Int))])
    (fun s w' => s.1 ≤ L.length ∧ Ex w w' ∧ Blk w' g2 30 (intL false none 0 0) ∧ Blk w' g3 30 s.2 ∧ s.2.length = 2 ∧ s.2.all Value.oneCell' = true ∧ IntC w.heap.size w' (.agg s.2.toArray) ((prodL ((lvsOf L).take s.1) : Nat) : Int) ∧ Off g2 (.agg s.2.toArray) ∧ Off g3 (.agg s.2.toArray)) (fun s => L.length - s.1)
    (0, cs2) ⟨rfl, trivial⟩ ⟨Nat.zero_le _, hE4, hb2, hb4, hcl2, hco2, by simp only [List.take_zero, prodL]; exact hz4.mono (by omega), hz2.off_lo (by omega), hz2.off_hi (by omega)⟩ ?_
  rintro ⟨i, cs⟩ ξ w5 ⟨hi, hE5, hb25, hb35, hcl, hco, hz5, ho2, ho3⟩
  simp only at hi hb35 hcl hco hz5 ho2 ho3
  show CW _ _ _ _ (over [(9, .int .i64 (i : Int))] _) w5
  by_cases hil : i < L.length
  · obtain ⟨g, o, rfl⟩ := hs.plain (by rw [cellsL_len]; omega)
    have ok := hok i hil
    have hlv := hC i hil
    have hget := cellsL_get L i hil
    have htk : (lvsOf L).take (i + 1) = (lvsOf L).take i ++ [(L.getD i rc0).2] := by
      rw [take_succ_getD (lvsOf L) lv0 (by rw [List.length_map]; exact hil), lvsOf_getD]
    have hps : prodL ((lvsOf L).take (i + 1)) = prodL ((lvsOf L).take i) * (L.getD i rc0).2.orb.length := by rw [htk, prodL_snoc]
    have hpi := hpt i
    have hpi1 := hpt (i + 1)
    generalize L.getD i rc0 = hl at *
    obtain ⟨h, l⟩ := hl
    simp only at ok hlv hget hps
    have hol := ok.orb_le
    have n1 := ok.n1
    repeat' (first | (refine k_lssT rfl rfl (by omega) ?_) | (refine k_index3 (j := i) rfl rfl ⟨_, _, rfl⟩ hil ?_) | (refine k_loadR3 (cs := h.cells l.pt) rfl rfl (hs.ext hE5) hget ?_) | (refine k_allocA (vs := [.int .i64 0, .slice none 0 0, .slice none 0 0]) (fun g6 w6 hn6 => ⟨fun _ _ => trivial, ?_⟩)) | (refine then_normal ?_) | (refine cw_seq ?_) | (refine cw_region rfl ?_) | (refine rr_nil ?_) | (refine cw_cond_true rfl ?_) | (refine cw_block ?_) | (refine cw_skip ?_))
    refine k_storeV (n := 3) rfl rfl rfl rfl hn6.blk rfl (fun w7 hc7 hb7 => ⟨fun _ _ => trivial, ?_⟩)
    have l6 := hn6.lo
    have s5 := hE5.size
    have lb2 := hb25.lt
    have lb3 := hb35.lt
    have s6 := hn6.ex.size
    have s7 := hc7.size
    have hE57 : Ex w5 w7 := hn6.ex.chg hc7 l6
    have hb37 := hb35.ext hE57
    repeat' (first | (refine then_normal ?_) | (refine rr_nil ?_))
    refine cw_draw (late := [5]) (plan := [(0, none), (1, none), (2, some true), (3, some true), (4, some true), (5, some false)]) (fun w' => Ex w7 w') mixed (by kernel_rfl) (Ex.refl _).drew ?_
    have hE7d : Ex w7 w7.drew := (Ex.refl _).drew
    repeat' (first | (refine k_loadCA (g := g3) rfl (fun _ h => hb37.ext h) hcl ?_) | (refine k_loadCA (g := g6) rfl (fun _ h => hb7.ext h) rfl ?_))
    refine k_call (rsize_spec (hlv.ext ((hE5.trans hE57).trans hE7d)) ok) rfl ?_
    rintro v w8 ⟨rfl, hE8⟩
    refine ⟨fun _ h => h.trans hE8, ?_⟩
    skip
    refine k_call (refSmall_spec (z := ((l.orb.length : Nat) : Int)) (by omega) (by omega) _) rfl ?_
    rintro v w9 ⟨hz9, hE9⟩
    refine ⟨fun _ h => h.trans hE9, ?_⟩
    have hE79 : Ex w5 w9 := ((hE57.trans hE7d).trans hE8).trans hE9
    refine k_call (refMul_spec (p := 1) (q := 1) (hz5.ext hE79) hz9 (by simp only [Int.natAbs_natCast]; omega) (by simp only [Int.natAbs_natCast]; omega) (by omega)) rfl ?_
    rintro v w10 ⟨hz10, hE10⟩
    refine ⟨fun _ h => h.trans hE10, ?_⟩
    obtain ⟨cs10, rfl, hcl10, hco10⟩ := hz10.out
    have hE710 := hE79.trans hE10
    refine k_storeV (n := 2) rfl rfl hcl10 hco10 (hb35.ext hE710) hcl (fun w11 hc11 hb11 => ⟨fun h => (nomatch h), ?_⟩)
    repeat' (first | (refine k_pure rfl ?_) | (refine then_normal ?_) | (refine cw_region rfl ?_) | (refine rr_nil ?_) | (refine k_addI rfl rfl (by omega) (by omega) ?_) | (refine in_normal ?_))
    have s79 := hE79.size
    refine ⟨⟨(i + 1, cs10), ⟨by simp only; omega, (hE5.trans hE710).chg hc11 (by omega), (hb25.ext hE710).chg hc11 (by omega), hb11, hcl10, hco10, ?_, hz10.off_lo (by omega), hz10.off_lo (by omega)⟩, by simp only; omega, rfl, trivial⟩, (by (repeat (first | exact agree_mask _ _ _ | refine agree_upd rfl ?_ | refine agree_updO rfl ?_ | refine agree_overIn rfl ?_ | refine agree_maskIn rfl ?_)))⟩
    simp only
    rw [hps, Int.natCast_mul]
    exact (hz10.chgO hc11 (hz10.off_lo (by omega))).mono (by omega)
  · obtain rfl : i = L.length := by omega
    rw [List.take_of_length_le (by rw [List.length_map]; exact Nat.le_refl _)] at hz5
    repeat' (first | (refine k_lssF rfl rfl (by omega) ?_) | (refine k_loadCA (g := g3) rfl hb35 hcl ?_) | (refine then_normal ?_) | (refine cw_seq ?_) | (refine cw_region rfl ?_) | (refine rr_nil ?_) | (refine cw_cond_false rfl ?_) | (refine cw_exit ?_) | (refine then_exit ?_) | (refine in_exit ?_))
    refine k_storeV (n := 2) rfl rfl hcl hco hb25 rfl (fun w6 hc6 hb6 => ⟨fun _ _ => trivial, ?_⟩)
    repeat' (first | (refine then_normal ?_) | (refine rr_nil ?_) | (refine cw_ret ?_))
    exact ret1 rfl (rc rfl hcl hb6) ⟨hz5.chgO hc6 ho2, hE5.chg hc6 (by omega)⟩
theorem rOrder_spec {n : Int} {gens : List (List Int)} {a : Option Addr} {sds : List SD} {cap : Nat} {w : World} (hL : Lists w .i64 a sds gens) (hl : gens.length ≤ 1000000) (h11 : errS n gens = 0 → n ≤ 11) :
    CallsR Tryz.prog 6 #[.int .i64 n, .slice a gens.length cap] w fun v w' => ∃ z, v = .tuple #[z, .int .i64 (errS n gens)] ∧ Ex w w' ∧ (errS n gens ≠ 0 → IntC w.heap.size w' z 0) ∧ (errS n gens = 0 → ∃ k : Nat, Card (Gen n.toNat gens) k ∧ IntC w.heap.size w' z (k : Int)) := by
  refine callsR_of (args := [_, _]) Tryz.func6 rfl rfl ?_
  repeat' (first | (refine k_allocA (vs := intL false none 0 0) (fun g4 w1 hn1 => ⟨fun _ _ => trivial, ?_⟩)) | (refine k_pure rfl ?_) | (refine then_normal ?_) | (refine cw_seq ?_) | (refine cw_region rfl ?_) | (refine rr_nil ?_))
  have z1 := hn1.lo; have z1' := hn1.hi
  refine k_call (group_ref_spec (n := n) (hL.ext hn1.ex) cap (by omega)) rfl ?_
  rw [grp_errS]
  rintro v w2 ⟨rfl, hE2⟩
  refine ⟨fun _ _ => trivial, ?_⟩
  have y2 := hE2.size
  have hEw2 := hn1.ex.trans hE2
  have hb2 := hn1.blk.ext hE2
  repeat' (first | (refine k_pure rfl ?_) | (refine then_normal ?_) | (refine cw_seq ?_) | (refine cw_region rfl ?_) | (refine rr_nil ?_) | (refine cw_cond_dec rfl (fun hc => ?_) (fun hc => ?_)) | (refine cw_skip ?_))
  · refine k_build (cs := intL false none 0 0) rfl ?_
    repeat' (first | (refine k_pure rfl ?_))
    refine k_storeV (n := 2) rfl rfl rfl rfl hb2 rfl (fun w3 hc3 hb3 => ⟨fun _ _ => trivial, ?_⟩)
    repeat' (first | (refine k_pure rfl ?_) | (refine then_normal ?_) | (refine rr_nil ?_) | (refine cw_ret ?_) | (refine then_ret ?_))
    refine ret2 rfl (rc rfl rfl hb3) (rt rfl) ⟨_, rfl, hEw2.chg hc3 (by omega), fun _ => IntC.zero _ _, fun h => absurd h hc⟩
  · have h0 : errS n gens = 0 := by omega
    obtain ⟨m, rfl, hm1, hm2, hgl, hgn⟩ := errS_zero h0
    have hm11 : m ≤ 11 := by have := h11 h0; omega
    refine k_call (rchain_spec (base := []) (b := none) (bc := 0) ⟨hm1, hm2⟩ hm11 hgn (hL.ext hEw2) (by omega) (Sl.nil _ _) (by simp) (fun i hi => absurd hi (by simp))) rfl ?_
    rintro v w4 ⟨hE4, ra, rcap, L, rfl, hR, hG, hF⟩
    refine ⟨fun _ _ => trivial, ?_⟩
    have y4 := hE4.size
    have hpl := prod_le hG.links hm11
    have hll := hG.ll
    rw [List.length_map] at hll
    refine k_call (rSize_spec (cap := rcap) hR.own.sl hR.lv (fun j hj => hR.ok hG j hj) (by simp at hll; omega) hpl) rfl ?_
    rintro v w5 ⟨hz5, hE5⟩
    refine ⟨fun _ _ => trivial, ?_⟩
    obtain ⟨cs, rfl, hcl, hco⟩ := hz5.out
    have hb5 := (hb2.ext hE4).ext hE5
    refine k_storeV (n := 2) rfl rfl hcl hco hb5 rfl (fun w6 hc6 hb6 => ⟨fun _ _ => trivial, ?_⟩)
    repeat' (first | (refine k_pure rfl ?_) | (refine then_normal ?_) | (refine rr_nil ?_) | (refine cw_ret ?_))
    have hz6 := (hz5.chgO hc6 (hz5.off_lo (by omega))).mono (lo' := w.heap.size) (by omega)
    refine ret2 rfl (rc rfl hcl hb6) (rt rfl) ⟨_, by rw [h0]; rfl, ((hEw2.trans hE4).trans hE5).chg hc6 (by omega), fun h => absurd h0 h, fun _ => ⟨_, ?_, hz6⟩⟩
    rw [Int.toNat_natCast]
    exact (full_card hG.links hF).congr hG.grp
end Go.Proofs.YthhfjagnmhhapaaGreat

namespace Go.PM
def cmpI (x y : Int) : Int := if x < y then -1 else if y < x then 1 else 0
end Go.PM
namespace Go.Proofs.YthhfjagnmhhapaaGreat
open Go.W Go.PM Go.LM
theorem sgn_sign (neg : Bool) (l : List Nat) (h : neg = true → natOf l ≠ 0) : (sgn neg (natOf l)).sign = if natOf l = 0 then 0 else if neg then -1 else 1 := by
  unfold sgn
  by_cases h0 : natOf l = 0
  · rw [if_pos h0, h0]; cases neg <;> rfl
  · rw [if_neg h0]
    cases neg
    · rw [if_neg (by decide), if_neg (by decide)]; exact Int.sign_eq_one_of_pos (by omega)
    · rw [if_pos rfl, if_pos rfl]; exact Int.sign_eq_neg_one_of_neg (by omega)
theorem refCmpI_spec {lo lo' : Nat} {v1 v2 : Value} {x y : Int} {w : World} (h1 : IntC lo w v1 x) (h2 : IntC lo' w v2 y) : CallsR Tryz.prog 8 #[v1, v2] w fun v w' => v = .int .i64 (cmpI x y) ∧ Ex w w' := by
  have h1' := h1
  have h2' := h2
  obtain ⟨n1, a1, c1, l1, rfl, hL1, rfl, hc1, g1, _⟩ := h1
  obtain ⟨n2, a2, c2, l2, rfl, hL2, rfl, hc2, g2, _⟩ := h2
  have hz : ∀ {l : List Nat}, Canon l → natOf l = 0 → l = [] := fun {l} c h => by have := trimL_zero.2 h; rwa [c] at this
  have t1 : trimL l1 = l1 := hc1
  have t2 : trimL l2 = l2 := hc2
  have e1 := sgn_sign n1 l1 (fun h h' => g1 h (hz hc1 h'))
  have e2 := sgn_sign n2 l2 (fun h h' => g2 h (hz hc2 h'))
  refine callsR_of (args := [_, _]) Tryz.func8 rfl rfl ?_
  refine cw_seq ?_
  refine cw_region rfl ?_
  refine k_boxA rfl (fun ga w2 hn2 => ⟨fun _ _ => trivial, ?_⟩)
  refine k_boxA rfl (fun gb w3 hn3 => ⟨fun _ _ => trivial, ?_⟩)
  have hb2 := hn2.blk.ext hn3.ex
  have hb3 := hn3.blk
  have hE := hn2.ex.trans hn3.ex
  repeat' (first | (refine k_pure rfl ?_) | (refine then_normal ?_) | (refine cw_seq ?_) | (refine rr_nil ?_))
  refine cw_draw (late := []) (plan := [(0, none), (2, none), (1, some true), (3, some true), (4, none), (5, none)]) (fun w' => Ex w3 w') mixed (by kernel_rfl) (Ex.refl _).drew ?_
  have hE3d : Ex w3 w3.drew := (Ex.refl _).drew
  repeat' (first | (refine k_loadCA (g := ga) rfl (fun _ h => hb2.ext h) rfl ?_) | (refine k_loadCA (g := gb) rfl (fun _ h => hb3.ext h) rfl ?_))
  refine k_call (refSign_spec (h1'.ext (hE.trans hE3d))) rfl ?_
  rintro v w4 ⟨rfl, hE4⟩
  refine ⟨fun _ h => h.trans hE4, ?_⟩
  skip
  refine k_call (refSign_spec (h2'.ext ((hE.trans hE3d).trans hE4))) rfl ?_
  rintro v w5 ⟨rfl, hE5⟩
  refine ⟨fun _ h => h.trans hE5, ?_⟩
  have hE35 : Ex w3 w5 := (hE3d.trans hE4).trans hE5
  have hE05 := hE.trans hE35
  generalize hs1 : (sgn n1 (natOf l1)).sign = s1 at *
  generalize hs2 : (sgn n2 (natOf l2)).sign = s2 at *
  have q1 : sgn n1 (natOf l1) = s1 * (natOf l1 : Int) := by rw [← hs1]; have := Int.sign_mul_natAbs (sgn n1 (natOf l1)); rw [sgn_natAbs] at this; exact this.symm
  have q2 : sgn n2 (natOf l2) = s2 * (natOf l2 : Int) := by rw [← hs2]; have := Int.sign_mul_natAbs (sgn n2 (natOf l2)); rw [sgn_natAbs] at this; exact this.symm
  have r1 : s1 = 0 ∨ s1 = 1 ∨ s1 = -1 := by rw [e1]; split; exact .inl rfl; split; exact .inr (.inr rfl); exact .inr (.inl rfl)
  have r2 : s2 = 0 ∨ s2 = 1 ∨ s2 = -1 := by rw [e2]; split; exact .inl rfl; split; exact .inr (.inr rfl); exact .inr (.inl rfl)
  have p1 : s1 = 0 ↔ natOf l1 = 0 := by
    rw [e1]
    by_cases h : natOf l1 = 0
    · rw [if_pos h]; exact ⟨fun _ => h, fun _ => rfl⟩
    · rw [if_neg h]; cases n1 <;> simp [h]
  have p2 : s2 = 0 ↔ natOf l2 = 0 := by
    rw [e2]
    by_cases h : natOf l2 = 0
    · rw [if_pos h]; exact ⟨fun _ => h, fun _ => rfl⟩
    · rw [if_neg h]; cases n2 <;> simp [h]
  rw [q1, q2]
  by_cases hss : s1 = s2
  · subst hss
    have hcz : -1 ≤ cmpZ (natOf l1) (natOf l2) ∧ cmpZ (natOf l1) (natOf l2) ≤ 1 := by unfold cmpZ; split; omega; split <;> omega
    repeat' (first | (refine k_neqI rfl rfl ?_) | (refine k_pure rfl ?_) | (refine then_normal ?_) | (refine cw_seq ?_) | (refine cw_region rfl ?_) | (refine rr_nil ?_) | (refine cw_cond_false rfl ?_) | (refine cw_skip ?_))
    refine cw_draw (late := []) (plan := [(0, none), (1, none), (2, none), (4, none), (5, none), (3, some true), (6, some true), (7, some true), (8, none), (9, none)]) (fun w' => Ex w5 w') mixed (by kernel_rfl) (Ex.refl _).drew ?_
    have hE5d : Ex w5 w5.drew := (Ex.refl _).drew
    have hb25 := hb2.ext hE35
    have hb35 := hb3.ext hE35
    repeat' (first | (refine k_loadC (g := ga) rfl (fun _ h => hb25.ext h) rfl ?_) | (refine k_loadC (g := gb) rfl (fun _ h => hb35.ext h) rfl ?_) | (refine k_pure rfl ?_) | (refine k_fieldAddr rfl ?_))
    refine k_call (refTrim_spec (hL1.ext (hE05.trans hE5d))) rfl ?_
    rw [t1]
    rintro v w6 ⟨a6, c6, rfl, hL6, _, hE6⟩
    refine ⟨fun _ h => h.trans hE6, ?_⟩
    skip
    refine k_call (refTrim_spec (hL2.ext ((hE05.trans hE5d).trans hE6))) rfl ?_
    rw [t2]
    rintro v w7 ⟨a7, c7, rfl, hL7, _, hE7⟩
    refine ⟨fun _ h => h.trans hE7, ?_⟩
    skip
    refine k_call (refCmp_spec (hL6.ext hE7) hL7 hc1 hc2) rfl ?_
    rintro v w8 ⟨rfl, hE8⟩
    refine ⟨fun _ h => h.trans hE8, ?_⟩
    have hmb : -1 ≤ s1 * cmpZ (natOf l1) (natOf l2) ∧ s1 * cmpZ (natOf l1) (natOf l2) ≤ 1 := by rcases r1 with rfl | rfl | rfl <;> omega
    repeat' (first | (refine k_mulI rfl rfl (by omega) (by omega) ?_) | (refine k_pure rfl ?_) | (refine then_normal ?_) | (refine rr_nil ?_) | (refine cw_ret ?_))
    refine ret1 rfl (rt rfl) ⟨?_, (((hE05.trans hE5d).trans hE6).trans hE7).trans hE8⟩
    show Value.int .i64 (s1 * cmpZ (natOf l1) (natOf l2)) = _
    congr 1
    unfold cmpZ cmpI
    rcases r1 with rfl | rfl | rfl
    · rw [Int.zero_mul, Int.zero_mul, Int.zero_mul, if_neg (by omega), if_neg (by omega)]
    · split
      · rw [if_pos (by omega)]; rfl
      · split
        · rw [if_neg (by omega), if_pos (by omega)]; rfl
        · rw [if_neg (by omega), if_neg (by omega)]; rfl
    · split
      · rw [if_neg (by omega), if_pos (by omega)]; rfl
      · split
        · rw [if_pos (by omega)]; rfl
        · rw [if_neg (by omega), if_neg (by omega)]; rfl
  · by_cases hlt : s1 < s2
    · repeat' (first | (refine k_lssT rfl rfl hlt ?_) | (refine k_pure rfl ?_) | (refine then_normal ?_) | (refine cw_seq ?_) | (refine cw_region rfl ?_) | (refine rr_nil ?_) | (refine cw_cond_true rfl ?_) | (refine cw_cond_dec rfl (fun hc => ?_) (fun hc => ?_)) | (refine cw_ret ?_) | (refine then_ret ?_) | (refine cw_skip ?_))
      · refine ret1 rfl (rt rfl) ⟨?_, hE05⟩
        show Value.int .i64 (-1) = _
        congr 1
        unfold cmpI
        rw [if_pos]
        rcases r1 with rfl | rfl | rfl <;> rcases r2 with rfl | rfl | rfl <;> omega
      · omega
    · repeat' (first | (refine k_lssF rfl rfl (by omega) ?_) | (refine k_pure rfl ?_) | (refine then_normal ?_) | (refine cw_seq ?_) | (refine cw_region rfl ?_) | (refine rr_nil ?_) | (refine cw_cond_false rfl ?_) | (refine cw_cond_dec rfl (fun hc => ?_) (fun hc => ?_)) | (refine cw_ret ?_) | (refine then_ret ?_) | (refine cw_skip ?_))
      · refine ret1 rfl (rt rfl) ⟨?_, hE05⟩
        show Value.int .i64 1 = _
        congr 1
        unfold cmpI
        rw [if_neg, if_pos]
        · rcases r1 with rfl | rfl | rfl <;> rcases r2 with rfl | rfl | rfl <;> omega
        · rcases r1 with rfl | rfl | rfl <;> rcases r2 with rfl | rfl | rfl <;> omega
      · omega
end Go.Proofs.YthhfjagnmhhapaaGreat

namespace Go.Proofs.YthhfjagnmhhapaaGreat
open Go.W Go.PM Go.LM
theorem mem_take_getD {base : List Int} {i : Nat} {x : Int} (hi : i ≤ base.length) : x ∈ base.take i ↔ ∃ j, j < i ∧ base.getD j 0 = x := by
  constructor
  · intro h
    obtain ⟨j, hj, e⟩ := mem_iff_getD.1 h
    rw [List.length_take] at hj
    refine ⟨j, by omega, ?_⟩
    rw [List.getD_eq_getElem?_getD, List.getElem?_take, if_pos (by omega), ← List.getD_eq_getElem?_getD] at e
    exact e
  · rintro ⟨j, hj, rfl⟩
    refine mem_iff_getD.2 ⟨j, by rw [List.length_take]; omega, ?_⟩
    rw [List.getD_eq_getElem?_getD, List.getElem?_take, if_pos hj, ← List.getD_eq_getElem?_getD]
theorem mem_getDL {S : List (List Int)} {s : List Int} (h : s ∈ S) : ∃ k, k < S.length ∧ S.getD k [] = s := by
  obtain ⟨k, hk, e⟩ := List.getElem_of_mem h
  exact ⟨k, hk, by rw [List.getD_eq_getElem?_getD, List.getElem?_eq_getElem hk, e]; rfl⟩
theorem Gd.pstab {n N0 : Nat} {G : List Int → Prop} {base : List Int} {ls : List Lv} (h : Gd n G base N0 ls) (hF : Full n ls) {i : Nat} (hi : i ≤ base.length) (p : List Int) : grpOf n (ls.drop i) p ↔ PStab G (base.take i) p := by
  have hbl := h.bl
  rw [full_stab lv0 i ls (by omega) h.links hF p, h.grp p]
  constructor
  · rintro ⟨h1, h2⟩
    refine ⟨h1, fun x hx => ?_⟩
    obtain ⟨j, hj, rfl⟩ := (mem_take_getD hi).1 hx
    have := h2 j hj
    rwa [h.pts j (by omega)] at this
  · rintro ⟨h1, h2⟩
    refine ⟨h1, fun j hj => ?_⟩
    rw [h.pts j (by omega)]
    exact h2 _ ((mem_take_getD hi).2 ⟨j, hj, rfl⟩)
end Go.Proofs.YthhfjagnmhhapaaGreat

/- What Build chooses from a complete chain is a base and a strong generating set: plain laws. -/
namespace Go.Proofs.YthhfjagnmhhapaaGreat
open Go.W Go.PM Go.LM
def ptsL (ls : List Lv) : List Int := ls.map Lv.pt
theorem ptsL_len (ls : List Lv) : (ptsL ls).length = ls.length := by unfold ptsL; rw [List.length_map]
theorem ptsL_getD {ls : List Lv} {i : Nat} (h : i < ls.length) : (ptsL ls).getD i 0 = (ls.getD i lv0).pt := by
  unfold ptsL
  rw [List.getD_eq_getElem?_getD, List.getElem?_map, List.getD_eq_getElem?_getD, List.getElem?_eq_getElem h]; rfl
theorem Gd.full {n N0 : Nat} {G : List Int → Prop} {ls : List Lv} (h : Gd n G [] N0 ls) : Gd n G (ptsL ls) N0 ls :=
  ⟨h.links, h.grp, h.gl, h.ll, by rw [ptsL_len]; exact Nat.le_refl _, fun i hi => by rw [ptsL_len] at hi; rw [ptsL_getD hi], fun i hi hl => by rw [ptsL_len] at hi; omega⟩
theorem Gd.dist {n N0 : Nat} {G : List Int → Prop} {ls : List Lv} (h : Gd n G [] N0 ls) (hF : Full n ls) : Dist n (ptsL ls) := by
  refine ⟨fun y hy => ?_, nodup_iff.2 fun i j hij hj e => ?_⟩
  · obtain ⟨i, hi, e⟩ := mem_iff_getD.1 hy
    rw [ptsL_len] at hi
    rw [← e, ptsL_getD hi]; exact (h.ok hi).pt
  · rw [ptsL_len] at hj
    rw [ptsL_getD (by omega), ptsL_getD hj] at e
    have h2 := h.two j (Nat.zero_le _) hj
    have ok := h.ok hj
    have hm : (ls.getD j lv0).orb.getD 1 0 ∈ (ls.getD j lv0).orb := getD_mem (by omega)
    obtain ⟨p, hp, e1⟩ := (ok.mem' _).1 hm
    have hp' : grpOf n (ls.drop j) p := by rw [drop_cons hj]; exact hp
    have hst := (h.full.pstab hF (i := j) (by rw [ptsL_len]; omega) p).1 hp'
    have hfx := hst.2 ((ls.getD i lv0).pt) ((mem_take_getD (by rw [ptsL_len]; omega)).2 ⟨i, hij, ptsL_getD (by omega)⟩)
    rw [e, e1, ← ok.head] at hfx
    exact (nodup_iff.1 ok.nd) 0 1 (by omega) (by omega) hfx.symm
section
variable {n N0 : Nat} {G : List Int → Prop} {ls : List Lv} {i : Nat} {S : List (List Int)} {c : Nat → Nat}
end
end Go.Proofs.YthhfjagnmhhapaaGreat

/- All elements of a group, listed by the levels of a complete chain: plain laws. -/
namespace Go.PM
structure Enm (H : List Int → Prop) (L : List (List Int)) : Prop where
  nd : L.Nodup
  mem : ∀ p, p ∈ L ↔ H p
theorem Enm.card {H : List Int → Prop} {L : List (List Int)} (h : Enm H L) : Card H L.length := ⟨L, h.nd, h.mem, rfl⟩
def lvlStep (l : Lv) (L : List (List Int)) : List (List Int) := l.back.flatMap fun b => L.map fun p => mulP p (inv b)
theorem enm_id (n : Nat) : Enm (grpOf n []) [idList n] := ⟨by simp, fun p => by rw [List.mem_singleton]; exact Iff.rfl⟩
theorem nodup_of_getD {l : List (List Int)} (h : ∀ i j, i < j → j < l.length → l.getD i [] ≠ l.getD j []) : l.Nodup := by
  refine List.pairwise_iff_getElem.2 fun i j hi hj hij => ?_
  have := h i j hij hj
  rw [List.getD_eq_getElem?_getD, List.getD_eq_getElem?_getD, List.getElem?_eq_getElem hi, List.getElem?_eq_getElem hj] at this
  exact this
theorem mem_back {l : Lv} {b : List Int} (h : b ∈ l.back) : ∃ a, a < l.back.length ∧ l.bk a = b := by
  obtain ⟨a, ha, e⟩ := List.getElem_of_mem h
  exact ⟨a, ha, by unfold Lv.bk; rw [List.getD_eq_getElem?_getD, List.getElem?_eq_getElem ha, e]; rfl⟩
theorem LvOK.inv_pt {n : Nat} {l : Lv} (ok : LvOK n l) {a : Nat} (ha : a < l.orb.length) : ap (inv (l.bk a)) l.pt = l.orb.getD a 0 := by
  have hp := ok.grp.perm _ (ok.bin a ha)
  rw [← ok.bap a ha]; exact ap_inv hp (ok.orb_in (getD_mem (d := 0) ha))
theorem enm_step {n : Nat} {l : Lv} {ls : List Lv} {L : List (List Int)} (hL : Links n (l :: ls)) (hF : Full n (l :: ls)) (h : Enm (grpOf n ls) L) : Enm (grpOf n (l :: ls)) (lvlStep l L) := by
  have ok := hL.1
  have hlen := ok.len
  have n1 := ok.n1
  have hpt := ok.pt
  have hin : ∀ p ∈ L, Gen n l.gens p ∧ ap p l.pt = l.pt := fun p hp => hL.2.1 p ((h.mem p).1 hp)
  have hpm : ∀ p ∈ L, PermN n p := fun p hp => ok.grp.perm p (hin p hp).1
  have hbk : ∀ a, a < l.orb.length → PermN n (inv (l.bk a)) := fun a ha => (ok.grp.perm _ (ok.bin a ha)).inv
  have himg : ∀ a, a < l.orb.length → ∀ p ∈ L, ap (mulP p (inv (l.bk a))) l.pt = l.orb.getD a 0 := fun a ha p hp => by
    rw [ap_mul (hpm p hp) hpt, (hin p hp).2, ok.inv_pt ha]
  refine ⟨?_, fun q => ?_⟩
  · unfold lvlStep
    refine nodup_flat _ ?_ (fun b hb => ?_) (fun b hb b' hb' hne z hz hz' => ?_)
    · refine nodup_of_getD fun i j hij hj e => ?_
      have h1 := ok.inv_pt (a := i) (by omega)
      have h2 := ok.inv_pt (a := j) (by omega)
      unfold Lv.bk at h1 h2
      rw [e] at h1
      exact nodup_iff.1 ok.nd i j hij (by omega) (h1.symm.trans h2)
    · obtain ⟨a, ha, rfl⟩ := mem_back hb
      refine nodup_map _ h.nd fun p hp p' hp' e => ?_
      exact mul_cancel (hpm p hp) (hpm p' hp') (hbk a (by omega)) e
    · obtain ⟨a, ha, rfl⟩ := mem_back hb
      obtain ⟨a', ha', rfl⟩ := mem_back hb'
      obtain ⟨p, hp, rfl⟩ := List.mem_map.1 hz
      obtain ⟨p', hp', e⟩ := List.mem_map.1 hz'
      have e1 := himg a (by omega) p hp
      have e2 := himg a' (by omega) p' hp'
      have e' : mulP p' (inv (l.bk a')) = mulP p (inv (l.bk a)) := e
      rw [e', e1] at e2
      rcases Nat.lt_trichotomy a a' with hlt | heq | hgt
      · exact nodup_iff.1 ok.nd a a' hlt (by omega) e2
      · exact hne (by rw [heq])
      · exact nodup_iff.1 ok.nd a' a hgt (by omega) e2.symm
  · unfold lvlStep
    rw [List.mem_flatMap]
    show _ ↔ Gen n l.gens q
    constructor
    · rintro ⟨b, hb, hq⟩
      obtain ⟨a, ha, rfl⟩ := mem_back hb
      obtain ⟨p, hp, rfl⟩ := List.mem_map.1 hq
      exact ok.grp.mul _ _ (hin p hp).1 (ok.grp.inv (ok.bin a (by omega)))
    · intro hq
      have hqp := ok.grp.perm q hq
      have hy : ap q l.pt ∈ l.orb := (ok.mem' _).2 ⟨q, hq, rfl⟩
      have hto := ok.to_in hy
      have htp := ok.grp.perm _ hto
      have hidx := idxOf_lt hy
      refine ⟨l.to (ap q l.pt), ?_, List.mem_map.2 ⟨mulP q (l.to (ap q l.pt)), ?_, ?_⟩⟩
      · unfold Lv.to Lv.bk
        exact getD_mem (by omega)
      · rw [h.mem]
        refine hF.1 _ (ok.grp.mul _ _ hq hto) ?_
        rw [ap_mul hqp hpt, ok.to_ap hy]
      · show mulP (mulP q (l.to (ap q l.pt))) (inv (l.to (ap q l.pt))) = q
        rw [mul_assoc hqp htp, mul_inv htp, mul_one hqp]
theorem lvlStep_len {n : Nat} {l : Lv} (ok : LvOK n l) (L : List (List Int)) : (lvlStep l L).length = l.orb.length * L.length := by
  unfold lvlStep
  rw [length_flat _ L.length fun b _ => by rw [List.length_map], ok.len]
/-- lexicographic comparison -/
def lexC : List Int → List Int → Int
  | [], [] => 0
  | [], _ :: _ => -1
  | _ :: _, [] => 1
  | x :: xs, y :: ys => if x < y then -1 else if y < x then 1 else lexC xs ys
theorem lexC_self : ∀ l, lexC l l = 0
  | [] => rfl
  | x :: xs => by show (if x < x then -1 else if x < x then 1 else lexC xs xs) = 0; rw [if_neg (by omega), if_neg (by omega)]; exact lexC_self xs
theorem lexC_cons (x y : Int) (xs ys : List Int) : lexC (x :: xs) (y :: ys) = if x < y then -1 else if y < x then 1 else lexC xs ys := rfl
theorem lexC_rng : ∀ l m, lexC l m = -1 ∨ lexC l m = 0 ∨ lexC l m = 1
  | [], [] => .inr (.inl rfl)
  | [], _ :: _ => .inl rfl
  | _ :: _, [] => .inr (.inr rfl)
  | x :: xs, y :: ys => by
    rw [lexC_cons]
    by_cases h1 : x < y
    · rw [if_pos h1]; exact .inl rfl
    · rw [if_neg h1]
      by_cases h2 : y < x
      · rw [if_pos h2]; exact .inr (.inr rfl)
      · rw [if_neg h2]; exact lexC_rng xs ys
theorem lexC_neg : ∀ l m, lexC m l = - lexC l m
  | [], [] => rfl
  | [], _ :: _ => rfl
  | _ :: _, [] => rfl
  | x :: xs, y :: ys => by
    rw [lexC_cons, lexC_cons]
    by_cases h1 : x < y
    · rw [if_pos h1, if_neg (by omega), if_pos h1]; rfl
    · by_cases h2 : y < x
      · rw [if_pos h2, if_neg h1, if_pos h2]
      · rw [if_neg h2, if_neg h1, if_neg h1, if_neg h2]; exact lexC_neg xs ys
theorem lexC_eq : ∀ {l m}, lexC l m = 0 → l = m
  | [], [], _ => rfl
  | [], _ :: _, h => by simp [lexC] at h
  | _ :: _, [], h => by simp [lexC] at h
  | x :: xs, y :: ys, h => by
    rw [lexC_cons] at h
    by_cases h1 : x < y
    · rw [if_pos h1] at h; omega
    · rw [if_neg h1] at h
      by_cases h2 : y < x
      · rw [if_pos h2] at h; omega
      · rw [if_neg h2] at h
        rw [show x = y by omega, lexC_eq h]
theorem lexC_trans : ∀ {l m k}, lexC l m < 0 → lexC m k < 0 → lexC l k < 0
  | [], [], _, h, _ => by simp [lexC] at h
  | [], _ :: _, [], _, h => by simp [lexC] at h
  | [], _ :: _, _ :: _, _, _ => by simp [lexC]
  | _ :: _, [], _, h, _ => by simp [lexC] at h
  | _ :: _, _ :: _, [], _, h => by simp [lexC] at h
  | x :: xs, y :: ys, z :: zs, h, h' => by
    rw [lexC_cons] at h h' ⊢
    by_cases h1 : x < y
    · by_cases h2 : y < z
      · rw [if_pos (by omega)]; omega
      · rw [if_neg h2] at h'
        by_cases h3 : z < y
        · rw [if_pos h3] at h'; omega
        · rw [if_pos (by omega)]; omega
    · rw [if_neg h1] at h
      by_cases h2 : y < x
      · rw [if_pos h2] at h; omega
      · rw [if_neg h2] at h
        by_cases h3 : y < z
        · rw [if_pos (by omega)]; omega
        · rw [if_neg h3] at h'
          by_cases h4 : z < y
          · rw [if_pos h4] at h'; omega
          · rw [if_neg h4] at h'
            rw [if_neg (by omega), if_neg (by omega)]
            exact lexC_trans h h'
/-- an ascending list is known by its elements -/
def Asc (L : List (List Int)) : Prop := L.Pairwise fun p q => lexC p q < 0
theorem asc_unique : ∀ {L M : List (List Int)}, Asc L → Asc M → (∀ p, p ∈ L ↔ p ∈ M) → L = M
  | [], [], _, _, _ => rfl
  | [], y :: M, _, _, h => by have := (h y).2 (by simp); simp at this
  | x :: L, [], _, _, h => by have := (h x).1 (by simp); simp at this
  | x :: L, y :: M, hL, hM, h => by
    have a1 := List.pairwise_cons.1 hL
    have a2 := List.pairwise_cons.1 hM
    have e : x = y := by
      rcases List.mem_cons.1 ((h x).1 (by simp)) with e | e
      · exact e
      · rcases List.mem_cons.1 ((h y).2 (by simp)) with e' | e'
        · exact e'.symm
        · have := lexC_trans (a1.1 y e') (a2.1 x e)
          rw [lexC_self] at this; omega
    subst e
    rw [asc_unique a1.2 a2.2 fun p => ?_]
    constructor
    · intro hp
      rcases List.mem_cons.1 ((h p).1 (by simp [hp])) with e | e
      · subst e; have := a1.1 p hp; rw [lexC_self] at this; omega
      · exact e
    · intro hp
      rcases List.mem_cons.1 ((h p).2 (by simp [hp])) with e | e
      · subst e; have := a2.1 p hp; rw [lexC_self] at this; omega
      · exact e
end Go.PM

/- The reference's list of elements, and insertion into an ascending list: plain laws. -/
namespace Go.PM
def orbN (n : Nat) (l : Lv) : List Nat := (List.range n).filter fun (y : Nat) => decide ((y : Int) ∈ l.orb)
theorem mem_orbN {n : Nat} {l : Lv} {y : Nat} : y ∈ orbN n l ↔ y < n ∧ (y : Int) ∈ l.orb := by unfold orbN; rw [List.mem_filter, List.mem_range, decide_eq_true_eq]
def rStep (n : Nat) (l : Lv) (L : List (List Int)) : List (List Int) := L.flatMap fun p => (orbN n l).map fun (y : Nat) => mulP p (inv (l.to (y : Int)))
theorem enm_rstep {n : Nat} {l : Lv} {ls : List Lv} {L : List (List Int)} (hL : Links n (l :: ls)) (hF : Full n (l :: ls)) (h : Enm (grpOf n ls) L) : Enm (grpOf n (l :: ls)) (rStep n l L) := by
  have ok := hL.1
  have hpt := ok.pt
  have hin : ∀ p ∈ L, Gen n l.gens p ∧ ap p l.pt = l.pt := fun p hp => hL.2.1 p ((h.mem p).1 hp)
  have hpm : ∀ p ∈ L, PermN n p := fun p hp => ok.grp.perm p (hin p hp).1
  have hto : ∀ y : Int, y ∈ l.orb → PermN n (l.to y) := fun y hy => ok.grp.perm _ (ok.to_in hy)
  have hinv : ∀ y : Int, y ∈ l.orb → ap (inv (l.to y)) l.pt = y := fun y hy => by
    have := ap_inv (hto y hy) (ok.orb_in hy)
    rwa [ok.to_ap hy] at this
  have himg : ∀ y : Int, y ∈ l.orb → ∀ p ∈ L, ap (mulP p (inv (l.to y))) l.pt = y := fun y hy p hp => by rw [ap_mul (hpm p hp) hpt, (hin p hp).2, hinv y hy]
  refine ⟨?_, fun q => ?_⟩
  · unfold rStep
    refine nodup_flat _ h.nd (fun p hp => ?_) (fun p hp p' hp' hne z hz hz' => ?_)
    · refine nodup_map _ (List.Pairwise.filter _ List.nodup_range) fun y hy y' hy' e => ?_
      have e1 := himg y (mem_orbN.1 hy).2 p hp
      have e2 := himg y' (mem_orbN.1 hy').2 p hp
      have e' : mulP p (inv (l.to (y : Int))) = mulP p (inv (l.to (y' : Int))) := e
      rw [e', e2] at e1
      omega
    · obtain ⟨y, hy, rfl⟩ := List.mem_map.1 hz
      obtain ⟨y', hy', e⟩ := List.mem_map.1 hz'
      have e1 := himg y (mem_orbN.1 hy).2 p hp
      have e2 := himg y' (mem_orbN.1 hy').2 p' hp'
      have e' : mulP p' (inv (l.to (y' : Int))) = mulP p (inv (l.to (y : Int))) := e
      rw [e', e1] at e2
      rw [← e2] at e'
      exact hne (mul_cancel (hpm p' hp') (hpm p hp) (hto _ (mem_orbN.1 hy).2).inv e').symm
  · unfold rStep
    rw [List.mem_flatMap]
    show _ ↔ Gen n l.gens q
    constructor
    · rintro ⟨p, hp, hq⟩
      obtain ⟨y, hy, rfl⟩ := List.mem_map.1 hq
      exact ok.grp.mul _ _ (hin p hp).1 (ok.grp.inv (ok.to_in (mem_orbN.1 hy).2))
    · intro hq
      have hqp := ok.grp.perm q hq
      have hy : ap q l.pt ∈ l.orb := (ok.mem' _).2 ⟨q, hq, rfl⟩
      have hyr := ok.orb_in hy
      have htp := hto _ hy
      refine ⟨mulP q (l.to (ap q l.pt)), ?_, List.mem_map.2 ⟨(ap q l.pt).toNat, ?_, ?_⟩⟩
      · rw [h.mem]
        refine hF.1 _ (ok.grp.mul _ _ hq (ok.to_in hy)) ?_
        rw [ap_mul hqp hpt, ok.to_ap hy]
      · rw [mem_orbN, Int.toNat_of_nonneg hyr.1]; exact ⟨by omega, hy⟩
      · show mulP (mulP q (l.to (ap q l.pt))) (inv (l.to (((ap q l.pt).toNat : Nat) : Int))) = q
        rw [Int.toNat_of_nonneg hyr.1, mul_assoc hqp htp, mul_inv htp, mul_one hqp]
/-- the points of the orbit below k -/
def orbTo (l : Lv) : Nat → List Nat
  | 0 => []
  | k + 1 => orbTo l k ++ (if (k : Int) ∈ l.orb then [k] else [])
theorem orbTo_eq (l : Lv) : ∀ n, orbTo l n = orbN n l
  | 0 => rfl
  | n + 1 => by
    unfold orbN
    rw [List.range_succ, List.filter_append, orbTo, orbTo_eq l n]
    congr 1
    by_cases h : (n : Int) ∈ l.orb
    · rw [if_pos h, List.filter_cons_of_pos (by simpa using h)]; rfl
    · rw [if_neg h, List.filter_cons_of_neg (by simpa using h)]; rfl
theorem orbTo_le (l : Lv) : ∀ k, (orbTo l k).length ≤ k
  | 0 => Nat.le_refl _
  | k + 1 => by have := orbTo_le l k; rw [orbTo, List.length_append]; split <;> simp <;> omega
theorem lexC_pos {p q : List Int} (hne : p ≠ q) (h : ¬ lexC p q < 0) : lexC q p < 0 := by
  have h1 := lexC_rng p q
  have h2 := lexC_neg p q
  have h3 : lexC p q ≠ 0 := fun e => hne (lexC_eq e)
  omega
theorem asc_insert {L : List (List Int)} {p : List Int} {i : Nat} (hA : Asc L) (hi : i ≤ L.length) (hge : ∀ j, i ≤ j → j < L.length → lexC p (L.getD j []) < 0) (hlt : 0 < i → ¬ lexC p (L.getD (i - 1) []) < 0) (hno : p ∉ L) : Asc (L.take i ++ p :: L.drop i) := by
  have hA' := List.pairwise_iff_getElem.1 hA
  have gd : ∀ {j : Nat} (h : j < L.length), L.getD j [] = L[j] := fun {j} h => by rw [List.getD_eq_getElem?_getD, List.getElem?_eq_getElem h]; rfl
  have hlow : ∀ q ∈ L.take i, lexC q p < 0 := fun q hq => by
    obtain ⟨j, hj, rfl⟩ := List.getElem_of_mem hq
    rw [List.length_take] at hj
    rw [List.getElem_take]
    have hl := hlt (by omega)
    rw [gd (by omega)] at hl
    have h1 : lexC L[i - 1] p < 0 := lexC_pos (fun e => hno (by rw [e]; exact List.getElem_mem _)) hl
    by_cases e : j = i - 1
    · subst e; exact h1
    · exact lexC_trans (hA' j (i - 1) (by omega) (by omega) (by omega)) h1
  have hhigh : ∀ q ∈ L.drop i, lexC p q < 0 := fun q hq => by
    obtain ⟨j, hj, rfl⟩ := List.getElem_of_mem hq
    rw [List.length_drop] at hj
    rw [List.getElem_drop]
    have := hge (i + j) (by omega) (by omega)
    rwa [gd (by omega)] at this
  refine List.pairwise_append.2 ⟨hA.sublist (List.take_sublist _ _), List.pairwise_cons.2 ⟨hhigh, hA.sublist (List.drop_sublist _ _)⟩, fun q hq r hr => ?_⟩
  rcases List.mem_cons.1 hr with e | e
  · rw [e]; exact hlow q hq
  · exact lexC_trans (hlow q hq) (hhigh r e)
end Go.PM

namespace Go.PM
theorem lexC_drop {xs ys : List Int} {k : Nat} (h1 : k < xs.length) (h2 : k < ys.length) : lexC (xs.drop k) (ys.drop k) = if xs.getD k 0 < ys.getD k 0 then -1 else if ys.getD k 0 < xs.getD k 0 then 1 else lexC (xs.drop (k + 1)) (ys.drop (k + 1)) := by
  rw [List.drop_eq_getElem_cons h1, List.drop_eq_getElem_cons h2, lexC_cons, List.getD_eq_getElem?_getD, List.getD_eq_getElem?_getD, List.getElem?_eq_getElem h1, List.getElem?_eq_getElem h2]
  rfl
end Go.PM
namespace Go.Proofs.YthhfjagnmhhapaaGreat
open Go.W Go.PM
theorem isNaN16_spec (x : Int) (w : World) : CallsR Tryz.prog 84 #[.int .u16 x] w fun v w' => v = .bool false ∧ w' = w := by
  refine callsR_of (args := [_]) Tryz.func84 rfl rfl ?_
  repeat' (first | (refine k_neF rfl rfl rfl ?_) | (refine k_pure rfl ?_) | (refine then_normal ?_) | (refine cw_seq ?_) | (refine cw_region rfl ?_) | (refine rr_nil ?_) | (refine cw_ret ?_))
  exact ret1 rfl (rt rfl) ⟨rfl, rfl⟩
def cmp16I (x y : Int) : Int := if x < y then -1 else if y < x then 1 else 0
theorem cmp16_spec (x y : Int) (w : World) : CallsR Tryz.prog 56 #[.int .u16 x, .int .u16 y] w fun v w' => v = .int .i64 (cmp16I x y) ∧ w' = w := by
  refine callsR_of (args := [_, _]) Tryz.func56 rfl rfl ?_
  repeat' (first | (refine k_pure rfl ?_) | (refine then_normal ?_) | (refine cw_seq ?_) | (refine cw_region rfl ?_) | (refine rr_nil ?_))
  refine k_call (isNaN16_spec x w) rfl ?_
  rintro v w1 ⟨rfl, rfl⟩
  refine ⟨fun _ _ => trivial, ?_⟩
  repeat' (first | (refine k_pure rfl ?_) | (refine then_normal ?_) | (refine cw_seq ?_) | (refine cw_region rfl ?_) | (refine rr_nil ?_))
  refine k_call (isNaN16_spec y w1) rfl ?_
  rintro v w2 ⟨rfl, rfl⟩
  refine ⟨fun _ _ => trivial, ?_⟩
  repeat' (first | (refine k_pure rfl ?_) | (refine then_normal ?_) | (refine cw_seq ?_) | (refine cw_region rfl ?_) | (refine rr_nil ?_) | (refine cw_cond_false rfl ?_) | (refine cw_cond_dec rfl (fun hc => ?_) (fun hc => ?_)) | (refine cw_ret ?_) | (refine then_ret ?_) | (refine cw_skip ?_))
  · exact ret1 rfl (rt rfl) ⟨by unfold cmp16I; rw [if_pos hc]; rfl, rfl⟩
  · rename_i h1
    exact ret1 rfl (rt rfl) ⟨by unfold cmp16I; rw [if_neg h1, if_pos hc]; rfl, rfl⟩
  · rename_i h1
    exact ret1 rfl (rt rfl) ⟨by unfold cmp16I; rw [if_neg h1, if_neg hc]; rfl, rfl⟩
theorem compare16_spec {xs ys : List Int} {a b : Option Addr} {c d : Nat} {w : World} (hx : Sl w a (u16L xs)) (hy : Sl w b (u16L ys)) (hlx : xs.length ≤ 1000) (hly : ys.length ≤ 1000) :
    CallsR Tryz.prog 25 #[.slice a xs.length c, .slice b ys.length d] w fun v w' => v = .int .i64 (lexC xs ys) ∧ w' = w := by
  refine callsR_of (args := [_, _]) Tryz.func25 rfl rfl ?_
  repeat' (first | (refine k_pure rfl ?_) | (refine then_normal ?_) | (refine cw_seq ?_) | (refine cw_region rfl ?_) | (refine rr_nil ?_) | (refine k_len rfl ?_) | (refine cw_block ?_))
  refine cw_loop (ι := Nat) [4, 5, 6, 7, 8, 11, 12, 13, 14, 15, 16, 17, 18, 19, 20, 21, 22, 23, 24, 25, 26, 27, 28, 29, 30] (fun s => [(11, .int .i64 (s : Int))]) (fun s w' => s ≤ xs.length ∧ s ≤ ys.length ∧ lexC xs ys = lexC (xs.drop s) (ys.drop s) ∧ w' = w) (fun s => xs.length - s)
    0 ⟨rfl, trivial⟩ ⟨Nat.zero_le _, Nat.zero_le _, rfl, rfl⟩ ?_
  rintro k ξ w1 ⟨hk, hk2, he, rfl⟩
  show CW _ _ _ _ (over [(11, .int .i64 (k : Int))] _) w1
  by_cases hkx : k < xs.length
  · by_cases hky : k < ys.length
    · repeat' (first | (refine k_lssT rfl rfl (by omega) ?_) | (refine k_geqF rfl rfl (by omega) ?_) | (refine k_indexN (j := k) (a := a) rfl rfl (hx.plain (by simp; omega)) hkx ?_) | (refine k_indexN (j := k) (a := b) rfl rfl (hy.plain (by simp; omega)) hky ?_) | (refine k_loadI (a := a) rfl hx hkx ?_) | (refine k_loadI (a := b) rfl hy hky ?_) | (refine k_pure rfl ?_) | (refine then_normal ?_) | (refine cw_seq ?_) | (refine cw_region rfl ?_) | (refine rr_nil ?_) | (refine k_len rfl ?_) | (refine cw_cond_true rfl ?_) | (refine cw_cond_false rfl ?_) | (refine cw_block ?_) | (refine cw_skip ?_))
      refine k_call (cmp16_spec (xs.getD k 0) (ys.getD k 0) w1) rfl ?_
      rintro v w2 ⟨rfl, rfl⟩
      refine ⟨fun _ _ => trivial, ?_⟩
      rw [lexC_drop hkx hky] at he
      by_cases h1 : xs.getD k 0 < ys.getD k 0
      · rw [if_pos h1] at he
        have hcm : cmp16I (xs.getD k 0) (ys.getD k 0) = -1 := by unfold cmp16I; rw [if_pos h1]
        rw [hcm]
        repeat' (first | (refine k_pure rfl ?_) | (refine then_normal ?_) | (refine cw_seq ?_) | (refine cw_region rfl ?_) | (refine rr_nil ?_) | (refine cw_cond_true rfl ?_) | (refine cw_ret ?_) | (refine then_ret ?_) | (refine in_ret ?_))
        exact ret1 rfl (rt rfl) ⟨by rw [he]; rfl, rfl⟩
      · rw [if_neg h1] at he
        by_cases h2 : ys.getD k 0 < xs.getD k 0
        · rw [if_pos h2] at he
          have hcm : cmp16I (xs.getD k 0) (ys.getD k 0) = 1 := by unfold cmp16I; rw [if_neg h1, if_pos h2]
          rw [hcm]
          repeat' (first | (refine k_pure rfl ?_) | (refine then_normal ?_) | (refine cw_seq ?_) | (refine cw_region rfl ?_) | (refine rr_nil ?_) | (refine cw_cond_true rfl ?_) | (refine cw_ret ?_) | (refine then_ret ?_) | (refine in_ret ?_))
          exact ret1 rfl (rt rfl) ⟨by rw [he]; rfl, rfl⟩
        · rw [if_neg h2] at he
          have hcm : cmp16I (xs.getD k 0) (ys.getD k 0) = 0 := by unfold cmp16I; rw [if_neg h1, if_neg h2]
          rw [hcm]
          repeat' (first | (refine k_pure rfl ?_) | (refine then_normal ?_) | (refine cw_seq ?_) | (refine cw_region rfl ?_) | (refine rr_nil ?_) | (refine k_addI rfl rfl (by omega) (by omega) ?_) | (refine cw_cond_false rfl ?_) | (refine in_normal ?_) | (refine cw_skip ?_))
          refine ⟨⟨k + 1, ⟨by omega, by omega, he, rfl⟩, by omega, rfl, trivial⟩, (by (repeat (first | exact agree_mask _ _ _ | refine agree_upd rfl ?_ | refine agree_updO rfl ?_ | refine agree_overIn rfl ?_ | refine agree_maskIn rfl ?_)))⟩
    · repeat' (first | (refine k_lssT rfl rfl (by omega) ?_) | (refine k_geqT rfl rfl (by omega) ?_) | (refine k_indexN (j := k) (a := a) rfl rfl (hx.plain (by simp; omega)) hkx ?_) | (refine k_loadI (a := a) rfl hx hkx ?_) | (refine k_pure rfl ?_) | (refine then_normal ?_) | (refine cw_seq ?_) | (refine cw_region rfl ?_) | (refine rr_nil ?_) | (refine k_len rfl ?_) | (refine cw_cond_true rfl ?_) | (refine cw_block ?_) | (refine cw_ret ?_) | (refine then_ret ?_) | (refine in_ret ?_) | (refine cw_skip ?_))
      refine ret1 rfl (rt rfl) ⟨?_, rfl⟩
      rw [he, List.drop_eq_getElem_cons hkx, List.drop_eq_nil_of_le (show ys.length ≤ k by omega)]; rfl
  · obtain rfl : k = xs.length := by omega
    rw [List.drop_eq_nil_of_le (Nat.le_refl _)] at he
    by_cases hly' : xs.length < ys.length
    · repeat' (first | (refine k_lssF (m := (xs.length : Int)) (m' := (xs.length : Int)) rfl rfl (by omega) ?_) | (refine k_lssT rfl rfl (by omega) ?_) | (refine k_pure rfl ?_) | (refine then_normal ?_) | (refine cw_seq ?_) | (refine cw_region rfl ?_) | (refine rr_nil ?_) | (refine k_len rfl ?_) | (refine cw_cond_true rfl ?_) | (refine cw_cond_false rfl ?_) | (refine cw_exit ?_) | (refine then_exit ?_) | (refine in_exit ?_) | (refine cw_ret ?_) | (refine then_ret ?_))
      refine ret1 rfl (rt rfl) ⟨?_, rfl⟩
      rw [he, List.drop_eq_getElem_cons hly']; rfl
    · repeat' (first | (refine k_lssF rfl rfl (by omega) ?_) | (refine k_pure rfl ?_) | (refine then_normal ?_) | (refine cw_seq ?_) | (refine cw_region rfl ?_) | (refine rr_nil ?_) | (refine k_len rfl ?_) | (refine cw_cond_false rfl ?_) | (refine cw_exit ?_) | (refine then_exit ?_) | (refine in_exit ?_) | (refine cw_ret ?_) | (refine cw_skip ?_))
      refine ret1 rfl (rt rfl) ⟨?_, rfl⟩
      rw [he, List.drop_eq_nil_of_le (by omega)]; rfl
end Go.Proofs.YthhfjagnmhhapaaGreat

namespace Go.W
section
variable {P : Program} {S : World → Prop} {ops : List Oper} {K : Env → World → Prop} {rest : List (Oper × Option Bool)} {ρ : Env} {w : World} {kf : Bool} {d : Nat} {T : TypeId} {pos : String} {af : Array Edge}
/-- append of any slice to a slice of one's own -/
theorem k_appendM {T1 E y n cap m c : Nat} {x1 x2 : Operand} {a ad : Option Addr} {lo : Nat} {vs news : List Value} {z : Value} [hT : Slc P T1 E 1 y] [hz : Zro P E z] (h1 : ev ρ x1 = .slice a n cap) (h2 : ev ρ x2 = .slice ad m c)
    (hzs : (Nat.beq z.cells.size 1) = true) (hown : Own w lo E 1 a n cap vs) (hnews : Sl w ad news) (hl : news.length = m) (ho : news.all Value.oneCell' = true)
    (hm : n + m ≤ 9223372036854775807) (hb : (n + m) * y ≤ 140737488355328) (hlo : lo ≤ w.heap.size)
    (h : ∀ a' cap' w', Own w' lo E 1 a' (n + m) cap' (vs ++ news) → w.grownBy w' (Value.slice a n cap).ownBlock → (a' = a ∨ ∀ x, a' = some x → w.heap.size ≤ x.block) → (kf = true → S w → S w') ∧ RR P S ops K rest (upd ρ d (.slice a' (n + m) cap')) w') :
    RR P S ops K ((⟨some d, .call ⟨.builtin .append, #[x1, x2], #[T1, T1]⟩, T, pos, af, none⟩, some kf) :: rest) ρ w := by
  by_cases h0 : m = 0
  · subst h0
    have hn : news = [] := List.eq_nil_of_length_eq_zero hl
    subst hn
    have := (h a cap w (by simpa using hown) ⟨rfl, rfl, rfl, Nat.le_refl _, fun _ _ _ => rfl⟩ (.inl rfl)).2
    exact k_append0 h1 h2 hown.capLe (by simpa using this)
  · exact k_append (z := z) (s := 1) (c := c) h1 h2 rfl (Nat.eq_of_beq_eq_true hzs) hown hnews (hnews.plain (by omega)) (by simpa using hl) ho hm hb hlo h
theorem ownBlock_eq {a : Option Addr} {n c q : Nat} (h : (Value.slice a n c).ownBlock = some q) : ∃ ad, a = some ad ∧ ad.block = q := by
  cases a with
  | none => cases h
  | some ad => exact ⟨ad, rfl, by simpa [Value.ownBlock] using h⟩
end
end Go.W
namespace Go.Proofs.YthhfjagnmhhapaaGreat
open Go.W Go.PM Go.LM
end Go.Proofs.YthhfjagnmhhapaaGreat

namespace Go.W
theorem k_neT {P : Program} {S : World → Prop} {ops : List Oper} {K : Env → World → Prop} {rest : List (Oper × Option Bool)} {ρ : Env} {w : World} {b : Option Bool} {d : Nat} {T T' : TypeId} {pos : String} {af : Array Edge} {x y : Operand} {k : IntKind} {m m' : Int} {T'' : TypeId}
    (hx : ev ρ x = .int k m) (hy : ev ρ y = .int k m') (hd : m ≠ m') (h : RR P S ops K rest (upd ρ d (.bool true)) w) : RR P S ops K ((⟨some d, .binOp .neq T' x y T'', T, pos, af, none⟩, b) :: rest) ρ w :=
  k_neq hx hy (by rw [decide_eq_true hd]; exact h)
end Go.W
namespace Go.Proofs.YthhfjagnmhhapaaGreat
open Go.W Go.PM Go.LM
section
variable {w w' : World} {lo bc bc' sc sc' : Nat} {b b' sa sa' : Option Addr} {bs bs' : List Int} {ssd : List SD} {S : List (List Int)}
end
end Go.Proofs.YthhfjagnmhhapaaGreat

namespace Go.W
section
variable {P : Program} {S : World → Prop} {ops : List Oper} {K : Env → World → Prop} {rest : List (Oper × Option Bool)} {ρ : Env} {w : World} {b : Option Bool} {kf : Bool} {d : Nat} {dst : Option Nat} {T T' : TypeId} {pos : String} {af : Array Edge}
/-- x[:i:i] -/
theorem k_clipAt {x hi mx : Operand} {a : Option Addr} {l c E s y i : Nat} {k k' : IntKind} [hT : Slc P T' E s y] (hx : ev ρ x = .slice a l c) (hh : ev ρ hi = .int k (i : Int)) (hm : ev ρ mx = .int k' (i : Int)) (h1 : i ≤ c)
    (h : RR P S ops K rest (upd ρ d (.slice a i i)) w) : RR P S ops K ((⟨some d, .slice T' x none (some hi) (some mx), T, pos, af, none⟩, b) :: rest) ρ w := by
  refine rr_pure rfl (fun w' => ?_) h
  obtain ⟨i0, hi0, hz⟩ := Option.map_eq_some_iff.1 hT.sz
  have e : a.map (fun x => x.add 0) = a := by cases a <;> simp [Addr.add]
  simp [execOp, Instr.sliceAt, Instr.slice, Instr.sliceBounds, Instr.sliceBound, hx, hh, hm, asIntOf, underlying, hT.un, sizeOf, typeInfo, hi0, h1, e]
/-- nil[0:] -/
theorem k_sliceNil {x lo : Operand} {E s y : Nat} {k : IntKind} [hT : Slc P T' E s y] (hx : ev ρ x = .slice none 0 0) (hlo : ev ρ lo = .int k 0)
    (hh : RR P S ops K rest (upd ρ d (.slice none 0 0)) w) : RR P S ops K ((⟨some d, .slice T' x (some lo) none none, T, pos, af, none⟩, b) :: rest) ρ w := by
  refine rr_pure rfl (fun w' => ?_) hh
  obtain ⟨i0, hi0, hz⟩ := Option.map_eq_some_iff.1 hT.sz
  simp [execOp, Instr.sliceAt, Instr.slice, Instr.sliceBounds, Instr.sliceBound, hx, hlo, asIntOf, underlying, hT.un, sizeOf, typeInfo, hi0]
theorem k_sliceFromS {x lo : Operand} {a : Option Addr} {len cap E y l : Nat} {k : IntKind} [hT : Slc P T' E 1 y] (hx : ev ρ x = .slice a len cap) (hlo : ev ρ lo = .int k (l : Int)) (h1 : l ≤ len) (h2 : len ≤ cap) (h0 : a = none → cap = 0) (hp : a ≠ none → W.plain a)
    (hh : ∀ a2, (∀ w' vs, Sl w' a vs → vs.length = len → Sl w' a2 (vs.drop l)) → RR P S ops K rest (upd ρ d (.slice a2 (len - l) (cap - l))) w) : RR P S ops K ((⟨some d, .slice T' x (some lo) none none, T, pos, af, none⟩, b) :: rest) ρ w := by
  cases a with
  | none =>
    have hc := h0 rfl
    subst hc
    obtain rfl : len = 0 := by omega
    obtain rfl : l = 0 := by omega
    exact k_sliceNil hx hlo (hh none fun w' vs hs hl => by rw [List.eq_nil_of_length_eq_zero hl]; exact Sl.nil _ _)
  | some ad =>
    obtain ⟨g, o, e⟩ := hp (by simp)
    injection e with e
    subst e
    refine k_sliceFrom hx hlo h1 h2 (hh _ fun w' vs hs hl => ?_)
    split
    · rw [List.drop_eq_nil_of_le (by omega)]; exact Sl.nil _ _
    · have hd := hs.drop (l * 1)
      rwa [show List.drop (l * 1) vs = List.drop l vs by rw [Nat.mul_one]] at hd
/-- append(x, y...) where x is full: a new row -/
theorem k_appendFullM {T1 E y n m c : Nat} {x1 x2 : Operand} {a ad2 : Option Addr} {vs news : List Value} {z : Value} [hT : Slc P T1 E 1 y] [hz : Zro P E z] (h1 : ev ρ x1 = .slice a n n) (h2 : ev ρ x2 = .slice ad2 m c)
    (hzs : (Nat.beq z.cells.size 1) = true) (hvs : Sl w a vs) (hn : vs.length = n) (hnews : Sl w ad2 news) (hl : news.length = m) (hm0 : 0 < m) (ho : news.all Value.oneCell' = true) (hm : n + m ≤ 9223372036854775807) (hb : (n + m) * y ≤ 140737488355328)
    (h : ∀ g' cap' w', w.heap.size ≤ g' → Own w' w.heap.size E 1 (some ⟨g', 0, none⟩) (n + m) cap' (vs ++ news) → Ex w w' → (kf = true → S w → S w') ∧ RR P S ops K rest (upd ρ d (.slice (some ⟨g', 0, none⟩) (n + m) cap')) w') :
    RR P S ops K ((⟨some d, .call ⟨.builtin .append, #[x1, x2], #[T1, T1]⟩, T, pos, af, none⟩, some kf) :: rest) ρ w := by
  obtain ⟨g, o, rfl⟩ := hnews.plain (by omega)
  cases a with
  | none =>
    have hvn : vs = [] := Classical.byContradiction fun hne => by obtain ⟨_, _, e⟩ := hvs.ok hne; cases e
    subst hvn
    obtain rfl : n = 0 := hn.symm
    refine k_append (z := z) (s := 1) (c := c) (hzs := Nat.eq_of_beq_eq_true hzs) (hs := rfl) (news := news) (vs := []) (lo := w.heap.size) (h1 := h1) (h2 := h2) (hown := Own.nil _ _ _ _) (hnews := hnews) (hp := ⟨_, _, rfl⟩) (hl := by simpa using hl) (ho := ho) (hm := by omega) (hb := hb) (hlo := Nat.le_refl _) ?_
    intro a' cap' w' ho' hg hA
    have hex : Ex w w' := grown_ex hg (Ex.refl _) (by simp)
    rcases ho'.2 with ⟨_, h0⟩ | ⟨g', c', cur, hv', hg', r⟩
    · omega
    · have e : a' = some ⟨g', 0, none⟩ := by
        have : Value.slice a' (0 + m) cap' = .slice (some ⟨g', 0, none⟩) (0 + m) c' := hv'
        injection this
      subst e
      exact h g' cap' w' hg' ho' hex
  | some ad =>
    refine rr_eff rfl ?_
    unfold OpW
    obtain ⟨i0, hi0, hzz⟩ := Option.map_eq_some_iff.1 hT.sz
    simp only [Prod.mk.injEq] at hzz
    obtain ⟨i1, hi1, hz1⟩ := Option.map_eq_some_iff.1 hz.ok
    rw [hi0] at hi1
    simp only [Option.some.injEq] at hi1
    subst hi1
    have hadd : ∀ (gg oo n : Nat), (⟨gg, oo, none⟩ : Addr).add n = ⟨gg, oo + n, none⟩ := fun gg oo n => by unfold Addr.add; split <;> simp_all
    have hnews' : ∀ j u, news[j]? = some u → w.cell? ((⟨g, o, none⟩ : Addr).add j) = some u := fun j u hu => by
      have hj : j < news.length := (List.getElem?_eq_some_iff.1 hu).1
      have := hnews.get j hj
      rw [hadd]
      simp only [elt] at this
      rw [this, List.getD_eq_getElem?_getD, hu]; rfl
    have holds : ∀ j u, vs[j]? = some u → w.cell? (ad.add j) = some u := fun j u hu => by
      have hj : j < vs.length := (List.getElem?_eq_some_iff.1 hu).1
      have := hvs.get j hj
      obtain ⟨gg, oo, e⟩ := hvs.plain (by omega)
      injection e with e
      subst e
      rw [hadd]
      simp only [elt] at this
      rw [this, List.getD_eq_getElem?_getD, hu]; rfl
    have hr := run_append_grow (P := P) w T1 T E i0 z hT.un hi0 hz1 ad n n vs (by rw [hzz.1, hn, Nat.mul_one]) holds ⟨g, o, none⟩ m c news (by rw [hzz.1, hl, Nat.mul_one]) hnews' (by omega) (by omega) (by rw [hzz.2]; exact growslice_fits (by omega) hb)
    have hx : ∀ v' w', (Builtin.append_ #[T1, T1] T #[.slice (some ad) n n, .slice (some ⟨g, o, none⟩) m c]).run P w = .ok v' w' →
        (execOp (ev ρ) ⟨some d, .call ⟨.builtin .append, #[x1, x2], #[T1, T1]⟩, T, pos, af, none⟩).run P w = .ok (.value v') w' := fun v' w' hr => by simp [execOp, resolve, invoke, builtin, h1, h2, hr]
    rw [hx _ _ hr]
    have hge := grownCap_ge w (n + m) n E
    have hcm : grownCap w (n + m) n E ≤ maxLen := grownCap_le_maxLen w (n + m) n E (by unfold maxLen; omega)
    refine h w.heap.size _ _ (Nat.le_refl _) ⟨by simp [hn, hl], .inr ⟨w.heap.size, _, _, rfl, Nat.le_refl _, heap_alloc_new w.drew _, hge, hcm, ?_, ?_⟩⟩ ?_
    · simp only [Array.size_append, List.size_toArray, size_zeroCells, Nat.eq_of_beq_eq_true hzs, hn, hl]
      omega
    · simp only [Array.toList_append, List.append_assoc]
      rw [← List.append_assoc, List.take_left' (by simp [hn, hl])]
    · exact (Ex.refl w).drew.trans (Ex.alloc _ _)
end
end Go.W
namespace Go.PM
theorem getD_ins {α : Type} (L : List α) (x d : α) {i : Nat} (hi : i ≤ L.length) (j : Nat) : (L.take i ++ x :: L.drop i).getD j d = if j < i then L.getD j d else if j = i then x else L.getD (j - 1) d := by
  rw [List.getD_eq_getElem?_getD]
  by_cases h1 : j < i
  · rw [if_pos h1, List.getElem?_append_left (by rw [List.length_take]; omega), List.getElem?_take, if_pos h1, ← List.getD_eq_getElem?_getD]
  · rw [if_neg h1, List.getElem?_append_right (by rw [List.length_take]; omega), List.length_take, Nat.min_eq_left hi]
    by_cases h2 : j = i
    · subst h2; rw [if_pos rfl, Nat.sub_self]; rfl
    · rw [if_neg h2, show j - i = (j - 1 - i) + 1 by omega, List.getElem?_cons_succ, List.getElem?_drop, show i + (j - 1 - i) = j - 1 by omega, ← List.getD_eq_getElem?_getD]
theorem len_ins {α : Type} (L : List α) (x : α) {i : Nat} (hi : i ≤ L.length) : (L.take i ++ x :: L.drop i).length = L.length + 1 := by
  rw [List.length_append, List.length_cons, List.length_take, List.length_drop]; omega
end Go.PM
namespace Go.Proofs.YthhfjagnmhhapaaGreat
open Go.W Go.PM Go.LM
theorem Lists.ins {w : World} {b b' : Option Addr} {osd : List SD} {O : List (List Int)} {s : SD} {p : List Int} {i : Nat} (h : Lists w .i64 b osd O) (hi : i ≤ O.length) (hs : Sl w s.a (intsL p)) (hl : s.len = p.length) (ht : Sl w b' ((osd.take i ++ s :: osd.drop i).map SD.val)) :
    Lists w .i64 b' (osd.take i ++ s :: osd.drop i) (O.take i ++ p :: O.drop i) := by
  have hlen := h.len
  refine ⟨ht, by rw [len_ins _ _ hi, len_ins _ _ (by omega), hlen], fun j hj => ?_⟩
  rw [len_ins _ _ hi] at hj
  rw [getD_ins _ _ _ hi, getD_ins _ _ _ (by omega)]
  by_cases h1 : j < i
  · rw [if_pos h1, if_pos h1]; exact h.each j (by omega)
  · rw [if_neg h1, if_neg h1]
    by_cases h2 : j = i
    · rw [if_pos h2, if_pos h2]; exact ⟨hs, hl⟩
    · rw [if_neg h2, if_neg h2]; exact h.each (j - 1) (by omega)
theorem rless_spec {xs ys : List Int} {a b : Option Addr} {c d : Nat} {w : World} (hx : Sl w a (intsL xs)) (hy : Sl w b (intsL ys)) (hl : xs.length = ys.length) (hlx : xs.length ≤ 1000) :
    CallsR Tryz.prog 36 #[.slice a xs.length c, .slice b ys.length d] w fun v w' => v = .bool (decide (lexC xs ys < 0)) ∧ Ex w w' := by
  refine callsR_of (args := [_, _]) Tryz.func36 rfl rfl ?_
  repeat' (first | (refine k_pure rfl ?_) | (refine then_normal ?_) | (refine cw_seq ?_) | (refine cw_region rfl ?_) | (refine rr_nil ?_) | (refine k_len rfl ?_) | (refine cw_block ?_))
  refine cw_loop (ι := Nat) [4, 5, 8, 9, 10, 11, 12, 13, 14, 15, 16, 17, 18, 19, 20, 21, 22, 23, 24, 25, 26, 27, 28, 29] (fun s => [(8, .int .i64 (s : Int))]) (fun s w' => s ≤ xs.length ∧ lexC xs ys = lexC (xs.drop s) (ys.drop s) ∧ Ex w w') (fun s => xs.length - s)
    0 ⟨rfl, trivial⟩ ⟨Nat.zero_le _, rfl, Ex.refl _⟩ ?_
  rintro k ξ w1 ⟨hk, he, hE1⟩
  show CW _ _ _ _ (over [(8, .int .i64 (k : Int))] _) w1
  by_cases hkx : k < xs.length
  · have hky : k < ys.length := by omega
    rw [lexC_drop hkx hky] at he
    have hEd : Ex w w1.drew := hE1.drew
    by_cases hne : xs.getD k 0 = ys.getD k 0
    · repeat' (first | (refine k_lssT rfl rfl (by omega) ?_) | (refine k_pure rfl ?_) | (refine then_normal ?_) | (refine cw_seq ?_) | (refine cw_region rfl ?_) | (refine rr_nil ?_) | (refine cw_cond_true rfl ?_) | (refine cw_block ?_) | (refine cw_skip ?_))
      refine cw_draw (late := []) (plan := [(0, none), (1, none), (2, none), (3, none), (4, none), (5, none), (6, none), (7, none), (8, none)]) (fun w' => Ex w w') mixed (by kernel_rfl) hEd ?_
      repeat' (first | (refine k_indexN (j := k) (a := a) rfl rfl (hx.plain (by simp; omega)) hkx ?_) | (refine k_indexN (j := k) (a := b) rfl rfl (hy.plain (by simp; omega)) hky ?_) | (refine k_loadI (a := a) rfl (fun _ h => hx.ext h) hkx ?_) | (refine k_loadI (a := b) rfl (fun _ h => hy.ext h) hky ?_) | (refine k_neF rfl rfl hne ?_) | (refine k_pure rfl ?_) | (refine then_normal ?_) | (refine cw_region rfl ?_) | (refine rr_nil ?_) | (refine k_addI rfl rfl (by omega) (by omega) ?_) | (refine cw_cond_false rfl ?_) | (refine in_normal ?_) | (refine cw_skip ?_))
      rw [if_neg (by omega), if_neg (by omega)] at he
      refine ⟨⟨k + 1, ⟨by omega, he, hEd⟩, by omega, rfl, trivial⟩, (by (repeat (first | exact agree_mask _ _ _ | refine agree_upd rfl ?_ | refine agree_updO rfl ?_ | refine agree_overIn rfl ?_ | refine agree_maskIn rfl ?_)))⟩
    · repeat' (first | (refine k_lssT rfl rfl (by omega) ?_) | (refine k_pure rfl ?_) | (refine then_normal ?_) | (refine cw_seq ?_) | (refine cw_region rfl ?_) | (refine rr_nil ?_) | (refine cw_cond_true rfl ?_) | (refine cw_block ?_) | (refine cw_skip ?_))
      refine cw_draw (late := []) (plan := [(0, none), (1, none), (2, none), (3, none), (4, none), (5, none), (6, none), (7, none), (8, none)]) (fun w' => Ex w w') mixed (by kernel_rfl) hEd ?_
      repeat' (first | (refine k_indexN (j := k) (a := a) rfl rfl (hx.plain (by simp; omega)) hkx ?_) | (refine k_indexN (j := k) (a := b) rfl rfl (hy.plain (by simp; omega)) hky ?_) | (refine k_loadI (a := a) rfl (fun _ h => hx.ext h) hkx ?_) | (refine k_loadI (a := b) rfl (fun _ h => hy.ext h) hky ?_) | (refine k_neT rfl rfl hne ?_) | (refine k_pure rfl ?_) | (refine then_normal ?_) | (refine cw_seq ?_) | (refine rr_nil ?_) | (refine cw_cond_true rfl ?_))
      have hEdd : Ex w w1.drew.drew := hEd.drew
      refine cw_draw (late := []) (plan := [(0, none), (1, none), (2, none), (3, none), (4, none), (5, none), (6, none), (7, none), (8, none), (9, none)]) (fun w' => Ex w w') mixed (by kernel_rfl) hEdd ?_
      by_cases hlt : xs.getD k 0 < ys.getD k 0
      · rw [if_pos hlt] at he
        repeat' (first | (refine k_indexN (j := k) (a := a) rfl rfl (hx.plain (by simp; omega)) hkx ?_) | (refine k_indexN (j := k) (a := b) rfl rfl (hy.plain (by simp; omega)) hky ?_) | (refine k_loadI (a := a) rfl (fun _ h => hx.ext h) hkx ?_) | (refine k_loadI (a := b) rfl (fun _ h => hy.ext h) hky ?_) | (refine k_lssT rfl rfl hlt ?_) | (refine k_pure rfl ?_) | (refine then_normal ?_) | (refine rr_nil ?_) | (refine cw_ret ?_) | (refine then_ret ?_) | (refine in_ret ?_))
        exact ret1 rfl (rt rfl) ⟨by rw [he]; rfl, hEdd⟩
      · rw [if_neg hlt, if_pos (by omega)] at he
        repeat' (first | (refine k_indexN (j := k) (a := a) rfl rfl (hx.plain (by simp; omega)) hkx ?_) | (refine k_indexN (j := k) (a := b) rfl rfl (hy.plain (by simp; omega)) hky ?_) | (refine k_loadI (a := a) rfl (fun _ h => hx.ext h) hkx ?_) | (refine k_loadI (a := b) rfl (fun _ h => hy.ext h) hky ?_) | (refine k_lssF rfl rfl (by omega) ?_) | (refine k_pure rfl ?_) | (refine then_normal ?_) | (refine rr_nil ?_) | (refine cw_ret ?_) | (refine then_ret ?_) | (refine in_ret ?_))
        exact ret1 rfl (rt rfl) ⟨by rw [he]; rfl, hEdd⟩
  · obtain rfl : k = xs.length := by omega
    rw [List.drop_eq_nil_of_le (Nat.le_refl _), List.drop_eq_nil_of_le (by omega)] at he
    repeat' (first | (refine k_lssF rfl rfl (by omega) ?_) | (refine k_pure rfl ?_) | (refine then_normal ?_) | (refine cw_seq ?_) | (refine cw_region rfl ?_) | (refine rr_nil ?_) | (refine cw_cond_false rfl ?_) | (refine cw_exit ?_) | (refine then_exit ?_) | (refine in_exit ?_) | (refine cw_ret ?_))
    exact ret1 rfl (rt rfl) ⟨by rw [he]; rfl, hE1⟩
end Go.Proofs.YthhfjagnmhhapaaGreat

/- The laying of the contract for slices.SortFunc at this program, as the tool lay-plain writes it. -/

namespace Go.Proofs
open Go.Shelf
def Tryz.sortP_ren : Go.Shelf.Ren := ⟨fun | 6 => 24 | 15 => 55 | 14 => 54 | 28 => 82 | 29 => 83 | 20 => 74 | 21 => 75 | 22 => 76 | 23 => 77 | 24 => 78 | 25 => 79 | 26 => 80 | 27 => 81 | 46 => 94 | 47 => 95 | 48 => 96 | 49 => 97 | 50 => 98 | 57 => 108 | n => n, fun | 22 => 57 | 24 => 55 | 25 => 69 | 3 => 3 | 39 => 101 | 0 => 0 | 53 => 103 | 55 => 60 | 4 => 4 | 46 => 123 | 45 => 122 | 50 => 127 | 5 => 5 | 9 => 9 | 66 => 142 | 70 => 146 | 76 => 158 | 77 => 159 | n => n, fun | n => n⟩
theorem Tryz.sortP : Go.Proofs.SlLaysF.n6 Tryz.prog Tryz.sortP_ren := {
  mixed := by kernel_rfl
  f6 := ⟨Tryz.f24.name, by decide, Tryz.func24.trans (congrArg some (by kernel_rfl))⟩
  f14 := ⟨Tryz.f54.name, by decide, Tryz.func54.trans (congrArg some (by kernel_rfl))⟩
  f15 := Tryz.func55.trans (congrArg some (by kernel_rfl))
  f20 := ⟨Tryz.f74.name, by decide, Tryz.func74.trans (congrArg some (by kernel_rfl))⟩
  f21 := ⟨Tryz.f75.name, by decide, Tryz.func75.trans (congrArg some (by kernel_rfl))⟩
  f22 := ⟨Tryz.f76.name, by decide, Tryz.func76.trans (congrArg some (by kernel_rfl))⟩
  f23 := ⟨Tryz.f77.name, by decide, Tryz.func77.trans (congrArg some (by kernel_rfl))⟩
  f24 := ⟨Tryz.f78.name, by decide, Tryz.func78.trans (congrArg some (by kernel_rfl))⟩
  f25 := ⟨Tryz.f79.name, by decide, Tryz.func79.trans (congrArg some (by kernel_rfl))⟩
  f26 := ⟨Tryz.f80.name, by decide, Tryz.func80.trans (congrArg some (by kernel_rfl))⟩
  f27 := ⟨Tryz.f81.name, by decide, Tryz.func81.trans (congrArg some (by kernel_rfl))⟩
  f28 := Tryz.func82.trans (congrArg some (by kernel_rfl))
  f29 := Tryz.func83.trans (congrArg some (by kernel_rfl))
  f46 := ⟨Tryz.f94.name, by decide, Tryz.func94.trans (congrArg some (by kernel_rfl))⟩
  f47 := Tryz.func95.trans (congrArg some (by kernel_rfl))
  f48 := Tryz.func96.trans (congrArg some (by kernel_rfl))
  f49 := ⟨Tryz.f97.name, by decide, Tryz.func97.trans (congrArg some (by kernel_rfl))⟩
  f50 := ⟨Tryz.f98.name, by decide, Tryz.func98.trans (congrArg some (by kernel_rfl))⟩
  f57 := ⟨Tryz.f108.name, by decide, Tryz.func108.trans (congrArg some (by kernel_rfl))⟩
  t0 := Tryz.underlying0
  a0 := Tryz.isAgg0
  z0 := Tryz.sizeOf0
  v0 := Tryz.zeroValue0
  t3 := Tryz.underlying3
  a3 := Tryz.isAgg3
  z3 := Tryz.sizeOf3
  v3 := Tryz.zeroValue3
  t4 := Tryz.underlying4
  a4 := Tryz.isAgg4
  z4 := Tryz.sizeOf4
  v4 := Tryz.zeroValue4
  t5 := Tryz.underlying5
  a5 := Tryz.isAgg5
  z5 := Tryz.sizeOf5
  v5 := Tryz.zeroValue5
  t9 := Tryz.underlying9
  a9 := Tryz.isAgg9
  z9 := Tryz.sizeOf9
  v9 := Tryz.zeroValue9
  t22 := Tryz.underlying57
  a22 := Tryz.isAgg57
  z22 := Tryz.sizeOf57
  v22 := Tryz.zeroValue57
  a24 := Tryz.isAgg55
  z24 := Tryz.sizeOf55
  t25 := Tryz.underlying69
  a25 := Tryz.isAgg69
  z25 := Tryz.sizeOf69
  v25 := Tryz.zeroValue69
  t39 := Tryz.underlying101
  a39 := Tryz.isAgg101
  z39 := Tryz.sizeOf101
  v39 := Tryz.zeroValue101
  t45 := Tryz.underlying122
  a45 := Tryz.isAgg122
  z45 := Tryz.sizeOf122
  v45 := Tryz.zeroValue122
  t46 := Tryz.underlying123
  a46 := Tryz.isAgg123
  z46 := Tryz.sizeOf123
  v46 := Tryz.zeroValue123
  t50 := Tryz.underlying127
  a50 := Tryz.isAgg127
  z50 := Tryz.sizeOf127
  v50 := Tryz.zeroValue127
  t53 := Tryz.underlying103
  a53 := Tryz.isAgg103
  z53 := Tryz.sizeOf103
  v53 := Tryz.zeroValue103
  t55 := Tryz.underlying60
  a55 := Tryz.isAgg60
  z55 := Tryz.sizeOf60
  v55 := Tryz.zeroValue60
  t66 := Tryz.underlying142
  a66 := Tryz.isAgg142
  z66 := Tryz.sizeOf142
  v66 := Tryz.zeroValue142
  t70 := Tryz.underlying146
  a70 := Tryz.isAgg146
  z70 := Tryz.sizeOf146
  v70 := Tryz.zeroValue146
  t76 := Tryz.underlying158
  a76 := Tryz.isAgg158
  z76 := Tryz.sizeOf158
  v76 := Tryz.zeroValue158
  t77 := Tryz.underlying159
  a77 := Tryz.isAgg159
  z77 := Tryz.sizeOf159
  v77 := Tryz.zeroValue159 }
end Go.Proofs

namespace Go.PM
theorem lexC_ge {l m k : List Int} (h : ¬ lexC l m < 0) (h' : ¬ lexC m k < 0) : ¬ lexC l k < 0 := by
  intro hc
  have n1 := lexC_neg l m
  have n2 := lexC_neg m k
  have n3 := lexC_neg l k
  have r1 := lexC_rng l m
  have r2 := lexC_rng m k
  by_cases e1 : lexC l m = 0
  · rw [lexC_eq e1] at hc; exact h' hc
  · by_cases e2 : lexC m k = 0
    · rw [← lexC_eq e2] at hc; exact h hc
    · have := lexC_trans (l := k) (m := m) (k := l) (by omega) (by omega)
      omega
theorem map_range_getD {α : Type} (l : List α) (d : α) : (List.range l.length).map (fun i => l.getD i d) = l := by
  apply List.ext_getElem?
  intro i
  rw [List.getElem?_map]
  by_cases h : i < l.length
  · rw [List.getElem?_range h, List.getElem?_eq_getElem h]
    simp [List.getD_eq_getElem?_getD, h]
  · rw [List.getElem?_eq_none (by simpa using h), List.getElem?_eq_none (by omega)]; rfl
end Go.PM
namespace Go.Proofs.YthhfjagnmhhapaaGreat
open Go.W Go.PM Go.Sort Go.Shelf
theorem sort_frame {enc : Nat → Value} {w : World} {g n : Nat} {d' : Array Nat} {os : Array Obj} {F : Nat → Prop} (hg : F g) : Fr F w (sortWorld enc w g 0 n d' os) := by
  refine ⟨rfl, rfl, rfl, by simp [sortWorld], fun k hk hn => ?_⟩
  have hne : g ≠ k := by rintro rfl; exact hn hg
  show ((putRow enc (Sort.ahead w n) g 0 d').heap ++ os)[k]? = _
  rw [Array.getElem?_append_left (by rw [size_putRow]; exact hk)]
  show (w.heap.modify g _)[k]? = _
  rw [Array.getElem?_modify, if_neg hne]
theorem sort_cell {enc : Nat → Value} {w : World} {g n : Nat} {d d' : Array Nat} {os : Array Obj} (hH : Holds enc w g 0 d) (hs : d'.size = d.size) (hg : g < w.heap.size) {j : Nat} (hj : j < d'.size) : (sortWorld enc w g 0 n d' os).cell? ⟨g, j, none⟩ = some (enc d'[j]!) := by
  have h1 := (holds_putRow enc (Sort.ahead w n) g 0 d d' (holds_ahead enc w n g 0 d hH) hs j hj).1
  rw [Nat.zero_add] at h1
  rw [← h1]
  refine World.cell?_of_block (w := putRow enc (Sort.ahead w n) g 0 d') (a := ⟨g, j, none⟩) ?_
  show ((putRow enc (Sort.ahead w n) g 0 d').heap ++ os)[g]? = _
  rw [Array.getElem?_append_left (by rw [size_putRow]; exact hg)]
theorem range_at {m j : Nat} (h : j < m) : (Array.range m)[j]! = j := by simp [h]
set_option maxHeartbeats 1000000 in
/-- slices.SortFunc with slices.Compare at a list of permutations -/
theorem sortP_spec {w : World} {lo cap n : Nat} {b : Option Addr} {sds : List SD} {ps : List (List Int)} (h : OwnLists w lo 55 70 .u16 b cap sds ps) (h0 : 0 < ps.length) (hn : ∀ p ∈ ps, p.length = n) (hn5 : n ≤ 512) (hm : ps.length ≤ 100000) :
    CallsR Tryz.prog 24 #[.slice b ps.length cap, .func (.func 25) #[] #[]] w fun v w' => v = .tuple #[] ∧ ∃ sds' ps', Lists w' .u16 b sds' ps' ∧ ps'.Perm ps ∧ (ps'.Pairwise fun p q => ¬ lexC q p < 0) ∧ Fr (fun q => lo ≤ q) w w' := by
  have hlen := h.len
  obtain ⟨g, rfl⟩ := h.top.baPos (by omega)
  have hlo := h.top.lo _ rfl
  simp only at hlo
  have hsl := h.top.sl
  have hcur : ∃ cur, w.heap[g]? = some (.cells cur 55 (0, 0)) := by
    rcases h.top.2 with ⟨hv', _⟩ | ⟨g', c, cur, hv', _, hb, _⟩
    · cases hv'
    · simp only [Value.slice.injEq, Option.some.injEq, Addr.mk.injEq] at hv'
      obtain ⟨⟨rfl, _⟩, _⟩ := hv'
      exact ⟨cur, hb⟩
  obtain ⟨cur, hcur⟩ := hcur
  generalize henc : (fun i => (sds.getD i sd0).val : Nat → Value) = enc
  have hencv : ∀ i, enc i = (sds.getD i sd0).val := fun i => by rw [← henc]
  generalize hcf : (fun i j => lexC (ps.getD i []) (ps.getD j []) : Nat → Nat → Int) = cf
  have hcfv : ∀ i j, cf i j = lexC (ps.getD i []) (ps.getD j []) := fun i j => by rw [← hcf]
  have hltv : ∀ i j, ltOf cf i j = decide (lexC (ps.getD i []) (ps.getD j []) < 0) := fun i j => by unfold ltOf; rw [hcfv]
  have hswo : SWO (ltOf cf) := by
    refine ⟨fun x => ?_, fun x y z h1 h2 => ?_, fun x y z h1 h2 => ?_⟩
    · rw [hltv, lexC_self]; rfl
    · rw [hltv, decide_eq_true_eq] at *; exact lexC_trans h1 h2
    · rw [hltv, decide_eq_false_iff_not] at *; exact lexC_ge h1 h2
  have hds : (Array.range ps.length).size = ps.length := by simp
  have hH : Holds enc w g 0 (Array.range ps.length) := fun j hj => by
    rw [hds] at hj
    rw [range_at hj, hencv]
    refine ⟨?_, ?_⟩
    · have := hsl.get j (by rw [List.length_map]; omega)
      have e : (sds.map SD.val).getD j undef = (sds.getD j sd0).val := by
        rw [List.getD_eq_getElem?_getD, List.getElem?_map, List.getD_eq_getElem?_getD, List.getElem?_eq_getElem (by omega)]; rfl
      rw [e] at this
      exact this
    · simp [World.frozen?, hcur]
  have hps : ∀ i, (ps.getD i []).length ≤ 512 := fun i => by
    rcases Nat.lt_or_ge i ps.length with hi | hi
    · rw [hn _ (getD_mem (d := []) hi)]; exact hn5
    · rw [List.getD_eq_getElem?_getD, List.getElem?_eq_none hi]; simp
  have hcmp : CmpLays1 Tryz.prog 25 #[] enc cf g 0 (Array.range ps.length).size w := by
    intro m os dk hdk x y
    have hfr : Fr (fun q => q = g) w (sortWorld enc w g 0 m dk os) := sort_frame rfl
    have hS : ∀ i, Sl (sortWorld enc w g 0 m dk os) (sds.getD i sd0).a (u16L (ps.getD i [])) ∧ (sds.getD i sd0).len = (ps.getD i []).length := fun i => by
      rcases Nat.lt_or_ge i ps.length with hi | hi
      · exact ⟨(h.each i hi).1.sl.fr hfr (fun ad e he => h.sep i hi _ ad rfl e he.symm), (h.each i hi).2⟩
      · rw [List.getD_eq_getElem?_getD, List.getD_eq_getElem?_getD, List.getElem?_eq_none (by omega), List.getElem?_eq_none hi]
        exact ⟨Sl.nil _ _, rfl⟩
    have hc := compare16_spec (c := (sds.getD x sd0).cap) (d := (sds.getD y sd0).cap) (hS x).1 (hS y).1 (by have := hps x; omega) (by have := hps y; omega)
    rw [hencv, hencv, hcfv]
    unfold SD.val
    rw [(hS x).2, (hS y).2]
    refine Calls.mono hc fun e w' ⟨v, he, hv, hw⟩ => ?_
    subst hv; subst hw
    exact ⟨he, 0, #[], by simp [World.drewN]⟩
  have eg : ∀ args w, (callFunc 25 args).run Tryz.prog w = .ok (.enter 25 args) w := fun args w => run_callFunc args
  have hcon := Any.slices_SortFunc Tryz.sortP enc (fun i => by rw [hencv]; rfl) cf hswo 25 #[] g 0 cap (Array.range ps.length) w eg hcmp hH hlo.2 (by rw [hds]; omega)
  rw [hds] at hcon
  change Calls Tryz.prog 24 _ _ _ at hcon
  refine Calls.mono hcon fun e w' ⟨he, d', k, os, hp, hs, hw⟩ => ⟨_, he, rfl, ?_⟩
  obtain ⟨hsz, _, hpm⟩ := hp
  rw [hds] at hsz
  have hx1 : d'.extract 0 ps.length = d' := by rw [← hsz, Array.extract_size]
  have hx2 : (Array.range ps.length).extract 0 ps.length = Array.range ps.length := by
    have h := Array.extract_size (xs := Array.range ps.length)
    rwa [hds] at h
  rw [hx1, hx2, Array.toList_range] at hpm
  have hdl : d'.toList.length = ps.length := by simp [hsz]
  have hget : ∀ j, j < ps.length → d'.toList[j]? = some d'[j]! := fun j hj => by
    rw [Array.getElem?_toList, getElem!_pos d' j (by omega), Array.getElem?_eq_getElem (by omega)]
  have hlt : ∀ j, j < ps.length → d'[j]! < ps.length := fun j hj => by
    have : d'[j]! ∈ d'.toList := List.mem_of_getElem? (hget j hj)
    exact List.mem_range.1 (hpm.mem_iff.1 this)
  subst hw
  have hfr : Fr (fun q => q = g) w (sortWorld enc w g 0 k d' os) := sort_frame rfl
  refine ⟨d'.toList.map fun i => sds.getD i sd0, d'.toList.map fun i => ps.getD i [], ⟨⟨fun _ => ⟨_, _, rfl⟩, fun j hj => ?_⟩, by simp, fun j hj => ?_⟩, ?_, ?_, sort_frame hlo.1⟩
  · rw [List.length_map, List.length_map, hdl] at hj
    have := sort_cell (n := k) (d' := d') (os := os) hH (by rw [hds]; exact hsz) hlo.2 (j := j) (by omega)
    simp only [elt, Nat.zero_add]
    have e : ((d'.toList.map fun i => sds.getD i sd0).map SD.val).getD j undef = (sds.getD d'[j]! sd0).val := by
      rw [List.getD_eq_getElem?_getD (l := (d'.toList.map fun i => sds.getD i sd0).map SD.val), List.getElem?_map, List.getElem?_map, hget j hj]; rfl
    rw [this, hencv, e]
  · rw [List.length_map, hdl] at hj
    have e1 : (d'.toList.map fun i => sds.getD i sd0).getD j sd0 = sds.getD d'[j]! sd0 := by rw [List.getD_eq_getElem?_getD, List.getElem?_map, hget j hj]; rfl
    have e2 : (d'.toList.map fun i => ps.getD i []).getD j [] = ps.getD d'[j]! [] := by rw [List.getD_eq_getElem?_getD, List.getElem?_map, hget j hj]; rfl
    rw [e1, e2]
    have := hlt j hj
    exact ⟨(h.each _ this).1.sl.fr hfr (fun ad e he => h.sep _ this _ ad rfl e he.symm), (h.each _ this).2⟩
  · have := hpm.map fun i => ps.getD i []
    rwa [map_range_getD] at this
  · rw [List.pairwise_map]
    refine List.pairwise_iff_getElem.2 fun i j hi hj hij => ?_
    rw [hdl] at hj
    have := hs i j (Nat.zero_le _) hij hj
    rw [hltv, decide_eq_false_iff_not] at this
    have g1 := hget i (by omega)
    have g2 := hget j hj
    rw [List.getElem?_eq_getElem (by omega)] at g1 g2
    injection g1 with g1
    injection g2 with g2
    rw [g1, g2]; exact this
end Go.Proofs.YthhfjagnmhhapaaGreat

