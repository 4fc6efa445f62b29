import Derived.Test.YthhfjagnmhhapaaRows
import Derived.Carry
import Derived.ChangeSlices
import Derived.ChangeSame
import Derived.ChangeCalls
import Derived.SizedLaws
import Derived.JoinedOf
import Derived.JoinedAt
import Derived.Deep.Matrix
import Derived.Lib.SmallJoins
import Derived.Test.YthhfjagnmhhapaaA01
import Derived.Test.YthhfjagnmhhapaaA02
import Derived.Test.YthhfjagnmhhapaaA03
import Derived.Test.YthhfjagnmhhapaaA04
import Derived.Test.YthhfjagnmhhapaaA05
import Derived.Test.YthhfjagnmhhapaaA06
import Derived.Test.YthhfjagnmhhapaaA07
import Derived.Test.YthhfjagnmhhapaaA08
import Derived.Test.YthhfjagnmhhapaaA10
import Derived.Test.YthhfjagnmhhapaaA13
import Derived.Test.YthhfjagnmhhapaaA16
import Derived.Test.YthhfjagnmhhapaaA17
import Derived.Test.YthhfjagnmhhapaaA18
import Derived.Test.YthhfjagnmhhapaaA19
import Derived.Test.YthhfjagnmhhapaaA20
import Derived.Test.YthhfjagnmhhapaaA21

namespace Go.W
section
variable {P : Program} {S : World → Prop} {ops : List Oper} {K : Env → World → Prop} {rest : List (Oper × Option Bool)} {ρ : Env} {w : World} {b : Option Bool} {d : Nat} {T T' : TypeId} {pos : String} {af : Array Edge}
/-- x[l:] -/
theorem k_sliceFrom {x lo : Operand} {g o len cap E s y l : Nat} {k : IntKind} [hT : Slc P T' E s y] (hx : ev ρ x = .slice (some ⟨g, o, none⟩) len cap) (hlo : ev ρ lo = .int k (l : Int)) (h1 : l ≤ len) (_h2 : len ≤ cap)
    (hh : RR P S ops K rest (upd ρ d (.slice (some (if cap = l then ⟨g, o, none⟩ else ⟨g, o + l * s, none⟩)) (len - l) (cap - l))) w) :
    RR P S ops K ((⟨some d, .slice T' x (some lo) none none, T, pos, af, none⟩, b) :: rest) ρ w := by
  refine rr_pure rfl (fun w' => ?_) hh
  obtain ⟨i0, hi0, hz⟩ := Option.map_eq_some_iff.1 hT.sz
  simp only [Prod.mk.injEq] at hz
  have e : ∀ n, (⟨g, o, none⟩ : Addr).add n = ⟨g, o + n, none⟩ := fun n => by unfold Addr.add; split <;> simp_all
  simp [execOp, Instr.sliceAt, Instr.slice, Instr.sliceBounds, Instr.sliceBound, hx, hlo, asIntOf, underlying, hT.un, sizeOf, typeInfo, hi0, hz.1, h1, e]
  try split <;> rfl
end
theorem Sl.drop {w : World} {g o : Nat} {vs : List Value} (h : Sl w (some ⟨g, o, none⟩) vs) (k : Nat) : Sl w (some ⟨g, o + k, none⟩) (vs.drop k) :=
  ⟨fun _ => ⟨_, _, rfl⟩, fun j hj => by
    rw [List.length_drop] at hj
    have := h.get (k + j) (by omega)
    rw [List.getD_eq_getElem?_getD, List.getElem?_drop, ← List.getD_eq_getElem?_getD, ← this]
    simp [elt, Nat.add_assoc]⟩
end Go.W
namespace Go.Proofs.Ythhfjagnmhhapaa
open Go.W Go.PM Go.LM
theorem grp_errS (n : Int) (gens : List (List Int)) : grpF n gens = errS n gens := by
  unfold grpF errS
  split
  · rfl
  · split
    · rfl
    · rename_i h _
      obtain ⟨m, rfl⟩ : ∃ m : Nat, n = (m : Int) := ⟨n.toNat, by omega⟩
      have e : gensOK (m : Int) gens ↔ permsB (m : Int) gens = true := by
        rw [permsB_iff]
        exact ⟨fun h p hp => ⟨(h p hp).2, by have := (h p hp).1; omega⟩, fun h p hp => ⟨by have := (h p hp).2; omega, (h p hp).1⟩⟩
      by_cases hg : gensOK (m : Int) gens
      · rw [if_pos hg, if_pos (e.1 hg)]
      · rw [if_neg hg, if_neg (fun h => hg (e.2 h))]
theorem cellsL_drop : ∀ (k : Nat) (L : RC), cellsL (L.drop k) = (cellsL L).drop (k * 3)
  | 0, L => by simp
  | k + 1, [] => by simp [cellsL]
  | k + 1, x :: L => by
    have := cellsL_drop k L
    rw [List.drop_succ_cons, this]
    unfold cellsL
    have e1 : List.drop ((k + 1) * 3) (x.1.cells x.2.pt) = [] := List.drop_eq_nil_of_le (by simp; omega)
    rw [List.flatMap_cons, List.drop_append, e1]
    simp only [List.length_cons, List.length_nil, List.nil_append]
    rw [show (k + 1) * 3 - (0 + 1 + 1 + 1) = k * 3 by omega]
theorem prodL_take : ∀ (ls : List Lv) (k : Nat), (∀ l ∈ ls, 1 ≤ l.orb.length) → prodL (ls.take k) ≤ prodL ls
  | [], _, _ => by simp
  | l :: ls, 0, h => by
    have h1 : ∀ ls : List Lv, (∀ l ∈ ls, 1 ≤ l.orb.length) → 1 ≤ prodL ls := by
      intro ls
      induction ls with
      | nil => intro _; simp [prodL]
      | cons x ls ih => intro h; exact Nat.mul_pos (h x (by simp)) (ih fun l hl => h l (by simp [hl]))
    exact h1 (l :: ls) h
  | l :: ls, k + 1, h => Nat.mul_le_mul_left _ (prodL_take ls k fun x hx => h x (by simp [hx]))
theorem prodL_snoc : ∀ (ls : List Lv) (l : Lv), prodL (ls ++ [l]) = prodL ls * l.orb.length
  | [], l => by simp [prodL]
  | x :: ls, l => by
    show x.orb.length * prodL (ls ++ [l]) = x.orb.length * prodL ls * l.orb.length
    rw [prodL_snoc ls l, Nat.mul_assoc]
set_option maxHeartbeats 1000000 in
theorem rSize_spec {w : World} {n : Nat} {L : RC} {a : Option Addr} {cap : Nat} (hs : Sl w a (cellsL L)) (hC : RCs w n L) (hok : ∀ j, j < L.length → LvOK n (L.getD j rc0).2) (hl : L.length ≤ 1000000000) (hp : prodL (lvsOf L) ≤ 39916800) :
    CallsR Try.prog 51 #[.slice a L.length cap] w (RetZ w ((prodL (lvsOf L) : Nat) : Int)) := by
  refine callsR_of (args := [_]) Try.func51 rfl rfl ?_
  have hpt : ∀ k, prodL ((lvsOf L).take k) ≤ 39916800 := fun k => Nat.le_trans (prodL_take _ k fun l hl' => by
    obtain ⟨j, hj, e⟩ := List.getElem_of_mem hl'
    have hj' : j < L.length := by simpa using hj
    have h2 := (hok j hj').pos
    rw [← lvsOf_getD, List.getD_eq_getElem?_getD, List.getElem?_eq_getElem hj, e] at h2
    exact h2) hp
  repeat' (first | (refine k_allocA (vs := intL false none 0 0) (fun g2 w1 hn1 => ⟨fun _ _ => trivial, ?_⟩)) | (refine then_normal ?_) | (refine cw_seq ?_) | (refine cw_region rfl ?_) | (refine rr_nil ?_))
  refine k_call (refSmall_spec (z := 1) (by decide) (by decide) _) rfl ?_
  rintro v w2 ⟨hz2, hE2⟩
  refine ⟨fun _ _ => trivial, ?_⟩
  obtain ⟨cs2, rfl, hcl2, hco2⟩ := hz2.out
  repeat' (first | (refine k_allocA (vs := intL false none 0 0) (fun g3 w3 hn3 => ⟨fun _ _ => trivial, ?_⟩)))
  refine k_storeV (n := 2) rfl rfl hcl2 hco2 hn3.blk rfl (fun w4 hc4 hb4 => ⟨fun _ _ => trivial, ?_⟩)
  have l1 := hn1.lo; have l1' := hn1.blk.lt; have l3 := hn3.lo; have l3' := hn3.blk.lt; have s1 := hn1.ex.size; have s2 := hE2.size; have s3 := hn3.ex.size; have s4 := hc4.size
  have hE4 : Ex w w4 := ((hn1.ex.trans hE2).trans hn3.ex).chg hc4 (by omega)
  have hz4 := (hz2.ext hn3.ex).chgO hc4 (hz2.off_hi hn3.lo)
  have hb2 : Blk w4 g2 24 (intL false none 0 0) := ((hn1.blk.ext hE2).ext hn3.ex).chg hc4 (by omega)
  repeat' (first | (refine k_pure rfl ?_) | (refine then_normal ?_) | (refine cw_seq ?_) | (refine cw_region rfl ?_) | (refine rr_nil ?_) | (refine k_len rfl ?_) | (refine cw_block ?_))
  refine cw_loop (ι := Nat × List Value) [5, 9, 10, 11, 12, 13, 14, 15, 16, 17, 18] (fun s => [(9, .int .i64 (s.1 : Int))])
    (fun s w' => s.1 ≤ L.length ∧ Ex w w' ∧ Blk w' g2 24 (intL false none 0 0) ∧ Blk w' g3 24 s.2 ∧ s.2.length = 2 ∧ s.2.all Value.oneCell' = true ∧ IntC w.heap.size w' (.agg s.2.toArray) ((prodL ((lvsOf L).take s.1) : Nat) : Int) ∧ Off g2 (.agg s.2.toArray) ∧ Off g3 (.agg s.2.toArray)) (fun s => L.length - s.1)
    (0, cs2) ⟨rfl, trivial⟩ ⟨Nat.zero_le _, hE4, hb2, hb4, hcl2, hco2, by simp only [List.take_zero, prodL]; exact hz4.mono (by omega), hz2.off_lo (by omega), hz2.off_hi (by omega)⟩ ?_
  rintro ⟨i, cs⟩ ξ w5 ⟨hi, hE5, hb25, hb35, hcl, hco, hz5, ho2, ho3⟩
  simp only at hi hb35 hcl hco hz5 ho2 ho3
  show CW _ _ _ _ (over [(9, .int .i64 (i : Int))] _) w5
  by_cases hil : i < L.length
  · obtain ⟨g, o, rfl⟩ := hs.plain (by rw [cellsL_len]; omega)
    have ok := hok i hil
    have hlv := hC i hil
    have hget := cellsL_get L i hil
    have htk : (lvsOf L).take (i + 1) = (lvsOf L).take i ++ [(L.getD i rc0).2] := by
      rw [take_succ_getD (lvsOf L) lv0 (by rw [List.length_map]; exact hil), lvsOf_getD]
    have hps : prodL ((lvsOf L).take (i + 1)) = prodL ((lvsOf L).take i) * (L.getD i rc0).2.orb.length := by rw [htk, prodL_snoc]
    have hpi := hpt i
    have hpi1 := hpt (i + 1)
    generalize L.getD i rc0 = hl at *
    obtain ⟨h, l⟩ := hl
    simp only at ok hlv hget hps
    have hol := ok.orb_le
    have n1 := ok.n1
    repeat' (first | (refine k_lssT rfl rfl (by omega) ?_) | (refine k_index3 (j := i) rfl rfl ⟨_, _, rfl⟩ hil ?_) | (refine k_loadR3 (cs := h.cells l.pt) rfl rfl (hs.ext hE5) hget ?_) | (refine k_allocA (vs := [.int .i64 0, .slice none 0 0, .slice none 0 0]) (fun g6 w6 hn6 => ⟨fun _ _ => trivial, ?_⟩)) | (refine then_normal ?_) | (refine cw_seq ?_) | (refine cw_region rfl ?_) | (refine rr_nil ?_) | (refine cw_cond_true rfl ?_) | (refine cw_block ?_) | (refine cw_skip ?_))
    refine k_storeV (n := 3) rfl rfl rfl rfl hn6.blk rfl (fun w7 hc7 hb7 => ⟨fun _ _ => trivial, ?_⟩)
    have l6 := hn6.lo
    have s5 := hE5.size
    have lb2 := hb25.lt
    have lb3 := hb35.lt
    have s6 := hn6.ex.size
    have s7 := hc7.size
    have hE57 : Ex w5 w7 := hn6.ex.chg hc7 l6
    have hb37 := hb35.ext hE57
    repeat' (first | (refine then_normal ?_) | (refine rr_nil ?_))
    refine cw_draw (late := [5]) (plan := [(0, none), (1, none), (2, some true), (3, some true), (4, some true), (5, some false)]) (fun w' => Ex w7 w') mixed (by kernel_rfl) (Ex.refl _).drew ?_
    have hE7d : Ex w7 w7.drew := (Ex.refl _).drew
    repeat' (first | (refine k_loadCA (g := g3) rfl (fun _ h => hb37.ext h) hcl ?_) | (refine k_loadCA (g := g6) rfl (fun _ h => hb7.ext h) rfl ?_))
    refine k_call (rsize_spec (hlv.ext ((hE5.trans hE57).trans hE7d)) ok) rfl ?_
    rintro v w8 ⟨rfl, hE8⟩
    refine ⟨fun _ h => h.trans hE8, ?_⟩
    skip
    refine k_call (refSmall_spec (z := ((l.orb.length : Nat) : Int)) (by omega) (by omega) _) rfl ?_
    rintro v w9 ⟨hz9, hE9⟩
    refine ⟨fun _ h => h.trans hE9, ?_⟩
    have hE79 : Ex w5 w9 := ((hE57.trans hE7d).trans hE8).trans hE9
    refine k_call (refMul_spec (p := 1) (q := 1) (hz5.ext hE79) hz9 (by simp only [Int.natAbs_natCast]; omega) (by simp only [Int.natAbs_natCast]; omega) (by omega)) rfl ?_
    rintro v w10 ⟨hz10, hE10⟩
    refine ⟨fun _ h => h.trans hE10, ?_⟩
    obtain ⟨cs10, rfl, hcl10, hco10⟩ := hz10.out
    have hE710 := hE79.trans hE10
    refine k_storeV (n := 2) rfl rfl hcl10 hco10 (hb35.ext hE710) hcl (fun w11 hc11 hb11 => ⟨fun h => (nomatch h), ?_⟩)
    repeat' (first | (refine k_pure rfl ?_) | (refine then_normal ?_) | (refine cw_region rfl ?_) | (refine rr_nil ?_) | (refine k_addI rfl rfl (by omega) (by omega) ?_) | (refine in_normal ?_))
    have s79 := hE79.size
    refine ⟨⟨(i + 1, cs10), ⟨by simp only; omega, (hE5.trans hE710).chg hc11 (by omega), (hb25.ext hE710).chg hc11 (by omega), hb11, hcl10, hco10, ?_, hz10.off_lo (by omega), hz10.off_lo (by omega)⟩, by simp only; omega, rfl, trivial⟩, (by (repeat (first | exact agree_mask _ _ _ | refine agree_upd rfl ?_ | refine agree_updO rfl ?_ | refine agree_overIn rfl ?_ | refine agree_maskIn rfl ?_)))⟩
    simp only
    rw [hps, Int.natCast_mul]
    exact (hz10.chgO hc11 (hz10.off_lo (by omega))).mono (by omega)
  · obtain rfl : i = L.length := by omega
    rw [List.take_of_length_le (by rw [List.length_map]; exact Nat.le_refl _)] at hz5
    repeat' (first | (refine k_lssF rfl rfl (by omega) ?_) | (refine k_loadCA (g := g3) rfl hb35 hcl ?_) | (refine then_normal ?_) | (refine cw_seq ?_) | (refine cw_region rfl ?_) | (refine rr_nil ?_) | (refine cw_cond_false rfl ?_) | (refine cw_exit ?_) | (refine then_exit ?_) | (refine in_exit ?_))
    refine k_storeV (n := 2) rfl rfl hcl hco hb25 rfl (fun w6 hc6 hb6 => ⟨fun _ _ => trivial, ?_⟩)
    repeat' (first | (refine then_normal ?_) | (refine rr_nil ?_) | (refine cw_ret ?_))
    exact ret1 rfl (rc rfl hcl hb6) ⟨hz5.chgO hc6 ho2, hE5.chg hc6 (by omega)⟩
theorem rOrder_spec {n : Int} {gens : List (List Int)} {a : Option Addr} {sds : List SD} {cap : Nat} {w : World} (hL : Lists w .i64 a sds gens) (hl : gens.length ≤ 1000000) (h11 : errS n gens = 0 → n ≤ 11) :
    CallsR Try.prog 20 #[.int .i64 n, .slice a gens.length cap] w fun v w' => ∃ z, v = .tuple #[z, .int .i64 (errS n gens)] ∧ Ex w w' ∧ (errS n gens ≠ 0 → IntC w.heap.size w' z 0) ∧ (errS n gens = 0 → ∃ k : Nat, Card (Gen n.toNat gens) k ∧ IntC w.heap.size w' z (k : Int)) := by
  refine callsR_of (args := [_, _]) Try.func20 rfl rfl ?_
  repeat' (first | (refine k_allocA (vs := intL false none 0 0) (fun g4 w1 hn1 => ⟨fun _ _ => trivial, ?_⟩)) | (refine k_pure rfl ?_) | (refine then_normal ?_) | (refine cw_seq ?_) | (refine cw_region rfl ?_) | (refine rr_nil ?_))
  have z1 := hn1.lo; have z1' := hn1.hi
  refine k_call (group_ref_spec (n := n) (hL.ext hn1.ex) cap (by omega)) rfl ?_
  rw [grp_errS]
  rintro v w2 ⟨rfl, hE2⟩
  refine ⟨fun _ _ => trivial, ?_⟩
  have y2 := hE2.size
  have hEw2 := hn1.ex.trans hE2
  have hb2 := hn1.blk.ext hE2
  repeat' (first | (refine k_pure rfl ?_) | (refine then_normal ?_) | (refine cw_seq ?_) | (refine cw_region rfl ?_) | (refine rr_nil ?_) | (refine cw_cond_dec rfl (fun hc => ?_) (fun hc => ?_)) | (refine cw_skip ?_))
  · refine k_build (cs := intL false none 0 0) rfl ?_
    repeat' (first | (refine k_pure rfl ?_))
    refine k_storeV (n := 2) rfl rfl rfl rfl hb2 rfl (fun w3 hc3 hb3 => ⟨fun _ _ => trivial, ?_⟩)
    repeat' (first | (refine k_pure rfl ?_) | (refine then_normal ?_) | (refine rr_nil ?_) | (refine cw_ret ?_) | (refine then_ret ?_))
    refine ret2 rfl (rc rfl rfl hb3) (rt rfl) ⟨_, rfl, hEw2.chg hc3 (by omega), fun _ => IntC.zero _ _, fun h => absurd h hc⟩
  · have h0 : errS n gens = 0 := by omega
    obtain ⟨m, rfl, hm1, hm2, hgl, hgn⟩ := errS_zero h0
    have hm11 : m ≤ 11 := by have := h11 h0; omega
    refine k_call (rchain_spec (base := []) (b := none) (bc := 0) ⟨hm1, hm2⟩ hm11 hgn (hL.ext hEw2) (by omega) (Sl.nil _ _) (by simp) (fun i hi => absurd hi (by simp))) rfl ?_
    rintro v w4 ⟨hE4, ra, rcap, L, rfl, hR, hG, hF⟩
    refine ⟨fun _ _ => trivial, ?_⟩
    have y4 := hE4.size
    have hpl := prod_le hG.links hm11
    have hll := hG.ll
    rw [List.length_map] at hll
    refine k_call (rSize_spec (cap := rcap) hR.own.sl hR.lv (fun j hj => hR.ok hG j hj) (by simp at hll; omega) hpl) rfl ?_
    rintro v w5 ⟨hz5, hE5⟩
    refine ⟨fun _ _ => trivial, ?_⟩
    obtain ⟨cs, rfl, hcl, hco⟩ := hz5.out
    have hb5 := (hb2.ext hE4).ext hE5
    refine k_storeV (n := 2) rfl rfl hcl hco hb5 rfl (fun w6 hc6 hb6 => ⟨fun _ _ => trivial, ?_⟩)
    repeat' (first | (refine k_pure rfl ?_) | (refine then_normal ?_) | (refine rr_nil ?_) | (refine cw_ret ?_))
    have hz6 := (hz5.chgO hc6 (hz5.off_lo (by omega))).mono (lo' := w.heap.size) (by omega)
    refine ret2 rfl (rc rfl hcl hb6) (rt rfl) ⟨_, by rw [h0]; rfl, ((hEw2.trans hE4).trans hE5).chg hc6 (by omega), fun h => absurd h0 h, fun _ => ⟨_, ?_, hz6⟩⟩
    rw [Int.toNat_natCast]
    exact (full_card hG.links hF).congr hG.grp
end Go.Proofs.Ythhfjagnmhhapaa

namespace Go.Proofs.Ythhfjagnmhhapaa
open Go.W Go.PM
abbrev permsL (pts : Int) (la : Option Addr) (n c : Nat) (few : Bool) : List Value := [.int .u8 pts, .slice la n c, .bool few]

theorem degree_spec {pts : Int} (hp : 0 ≤ pts ∧ pts ≤ 255) (la : Option Addr) (n c : Nat) (few : Bool) {most : Int} (hm : 0 < most ∧ most ≤ 1000) (w : World) :
    CallsR Try.prog 18 #[.agg (permsL pts la n c few).toArray, .int .i64 most] w fun v w' => v = .int .i64 (1 + pts % most) ∧ Ex w w' := by
  refine callsR_of (args := [_, _]) Try.func18 rfl rfl ?_
  have h1 : 0 ≤ pts % most := Int.emod_nonneg _ (by omega)
  have h2 : pts % most < most := Int.emod_lt_of_pos _ (by omega)
  repeat' (first | (refine k_boxA rfl (fun g w1 hn => ⟨fun _ _ => trivial, ?_⟩)) | (refine k_loadC rfl hn.blk rfl ?_) | (refine k_convI rfl (wrap_i64 (by omega) (by omega)) ?_) | (refine k_rem rfl rfl (by omega) (by omega) ?_) | (refine k_pure rfl ?_) | (refine then_normal ?_) | (refine cw_seq ?_) | (refine cw_region rfl ?_) | (refine rr_nil ?_) | (refine k_addI rfl rfl (by omega) (by omega) ?_) | (refine k_fieldAddr rfl ?_) | (refine cw_ret ?_))
  exact ret1 rfl (rt rfl) ⟨rfl, hn.ex⟩

/-- no two of the lists share memory -/
def Apart (sds : List SD) : Prop := ∀ i j, i < j → j < sds.length → ∀ ad ad', (sds.getD i sd0).a = some ad → (sds.getD j sd0).a = some ad' → ad.block ≠ ad'.block
theorem Apart.snoc {sds : List SD} {s : SD} (h : Apart sds) (hs : ∀ i, i < sds.length → ∀ ad ad', (sds.getD i sd0).a = some ad → s.a = some ad' → ad.block ≠ ad'.block) : Apart (sds ++ [s]) := by
  intro i j hij hj ad ad' e e'
  simp only [List.length_append, List.length_singleton] at hj
  rw [getD_snoc (by omega)] at e e'
  rw [if_pos (by omega)] at e
  by_cases h2 : j < sds.length
  · rw [if_pos h2] at e'; exact h i j hij h2 ad ad' e e'
  · rw [if_neg h2] at e'; exact hs i (by omega) ad ad' e e'
/-- generators that the statements make: at most three permutations of n points -/
def RetG (w : World) (n : Nat) (v : Value) (w' : World) : Prop :=
  ∃ b c sds xss, v = .slice b sds.length c ∧ OwnLists w' w.heap.size 28 3 .i64 b c sds xss ∧ xss.length ≤ 3 ∧ Gens n xss ∧ Apart sds ∧ Ex w w'
theorem gens_snoc {n : Nat} {xss : List (List Int)} {p : List Int} (h : Gens n xss) (h1 : p.length = n) (h2 : IsPerm p) : Gens n (xss ++ [p]) := fun q hq => by
  rcases List.mem_append.1 hq with h' | h'
  · exact h q h'
  · simp only [List.mem_singleton] at h'; subst h'; exact ⟨h1, h2⟩

theorem gens_false {pts most : Int} (hp : 0 ≤ pts ∧ pts ≤ 255) (hm : 0 < most ∧ most ≤ 500) {n : Nat} (hn : 1 + pts % most = (n : Int)) {la : Option Addr} {sds : List SD} {Ls : List (List Int)} {w : World} (hL : Lists w .i8 la sds Ls) (hI : ∀ i, I8 (Ls.getD i [])) (c : Nat) (hl : Ls.length ≤ 9223372036854775807) :
    CallsR Try.prog 19 #[.agg (permsL pts la Ls.length c false).toArray, .int .i64 most] w (RetG w n) := by
  have h1 : 0 ≤ pts % most := Int.emod_nonneg _ (by omega)
  have h2 : pts % most < most := Int.emod_lt_of_pos _ (by omega)
  have hsl := hL.len
  refine callsR_of (args := [_, _]) Try.func19 rfl rfl ?_
  repeat' (first | (refine k_boxA rfl (fun g w1 hn1 => ⟨fun _ _ => trivial, ?_⟩)) | (refine k_loadCA rfl hn1.blk rfl ?_) | (refine k_pure rfl ?_) | (refine then_normal ?_) | (refine cw_seq ?_) | (refine cw_region rfl ?_) | (refine rr_nil ?_))
  refine k_call (degree_spec hp _ _ _ _ (by omega) _) rfl ?_
  rintro v w2 ⟨rfl, hE2⟩
  refine ⟨fun _ _ => trivial, ?_⟩
  rw [hn]
  have hb2 := hn1.blk.ext hE2
  have hE02 := hn1.ex.trans hE2
  repeat' (first | (refine k_loadC rfl hb2 rfl ?_) | (refine k_pure rfl ?_) | (refine then_normal ?_) | (refine cw_seq ?_) | (refine cw_region rfl ?_) | (refine rr_nil ?_) | (refine k_len rfl ?_) | (refine k_fieldAddr rfl ?_) | (refine cw_block ?_))
  refine cw_loop (ι := Nat × Option Addr × Nat × List SD × List (List Int)) [5, 7, 8, 9, 10, 11, 12, 13, 20, 21, 22, 23, 24, 25, 26, 27, 28, 29, 30, 31, 32, 33, 34, 35, 36, 37, 38, 39, 40, 41, 42, 43, 44, 45, 46, 47, 48, 49, 50, 51, 52, 53, 54, 55, 56, 57, 58, 59, 60, 61, 62, 63, 64, 65] (fun s => [(20, .int .i64 (s.1 : Int)), (5, .slice s.2.1 s.2.2.2.1.length s.2.2.1)])
    (fun s w' => s.1 ≤ Ls.length ∧ s.2.2.2.2.length ≤ 3 ∧ s.2.2.2.2.length = s.1 ∧ Ex w2 w' ∧ OwnLists w' w2.heap.size 28 3 .i64 s.2.1 s.2.2.1 s.2.2.2.1 s.2.2.2.2 ∧ Gens n s.2.2.2.2 ∧ Apart s.2.2.2.1) (fun s => Ls.length - s.1)
    (0, none, 0, [], []) ⟨rfl, rfl, trivial⟩ ⟨by simp, by simp, rfl, Ex.refl _, OwnLists.nil _ _ _ _ _, by intro p hp; simp at hp, by intro i j _ hj; simp at hj⟩ ?_
  rintro ⟨k, b, cc, ss, xss⟩ ξ w3 ⟨hk, hx3, hxk, hE3, hO, hG, hA⟩
  simp only at hk hx3 hxk hO hG hA
  have hol := hO.len
  have hE03 := hE02.trans hE3
  have s3 := hE3.size
  have hb3 := hb2.ext hE3
  have s2 := hE02.size
  have hL3 := hL.ext hE03
  show CW _ _ _ _ (over [(20, .int .i64 (k : Int)), (5, .slice b ss.length cc)] _) w3
  repeat' (first | (refine k_indexN rfl rfl (hL3.sl.plain (by simp; omega)) (by omega) ?_) | (refine k_loadS rfl hL3.sl (by omega) ?_) | (refine k_pure rfl ?_) | (refine then_normal ?_) | (refine cw_seq ?_) | (refine cw_region rfl ?_) | (refine rr_nil ?_) | (refine cw_cond_dec rfl (fun hc => ?_) (fun hc => ?_)) | (refine cw_block ?_) | (refine cw_exit ?_) | (refine then_exit ?_) | (refine in_exit ?_) | (refine in_exit_ne rfl ?_) | (refine cw_ret ?_) | (refine cw_skip ?_))
  · exact ret1 rfl (rt rfl) ⟨b, cc, ss, xss, rfl, hO.mono s2, hx3, hG, hA, hE03⟩
  · obtain ⟨hl1, hl2⟩ := hL3.each k (by omega)
    rw [hl2]
    refine k_call (perm_spec hl1 (hI k) _ n (by omega) (by omega)) rfl ?_
    rintro v w4 ⟨b4, c4, rfl, hO4, hE4⟩
    refine ⟨fun _ _ => trivial, ?_⟩
    have hb4 := hb3.ext hE4
    have s4 := hE4.size
    have hP := permF_isPerm (Ls.getD k []) (n := n) (by omega) (by omega)
    have hPl := permF_length (Ls.getD k []) (n := n) (by omega)
    generalize permF (Ls.getD k []) n = p at *
    repeat' (first | (refine k_loadC rfl hb4 rfl ?_) | (refine k_pure rfl ?_) | (refine then_normal ?_) | (refine cw_seq ?_) | (refine cw_region rfl ?_) | (refine rr_nil ?_) | (refine k_fieldAddr rfl ?_) | (refine cw_cond_false rfl ?_) | (refine cw_skip ?_))
    have hOx := hO.ext hE4
    refine k_app1S rfl rfl rfl rfl hOx.top (by omega) (by omega) (by omega) (fun gl b9 c9 w9 hO9 hg9 hA9 => ?_)
    have hsep : ∀ ad ad', b = some ad → b4 = some ad' → ad.block ≠ ad'.block := fun ad ad' e e' => by have := (hO.top.lo ad e).2; have := (hO4.lo ad' e').1; omega
    have hL9 := hOx.snoc (hO4.mono (by omega)) hsep hO9 hg9 hA9
    repeat' (first | (refine k_pure rfl ?_) | (refine then_normal ?_) | (refine cw_region rfl ?_) | (refine rr_nil ?_) | (refine k_addI rfl rfl (by omega) (by omega) ?_) | (refine in_normal ?_))
    refine ⟨⟨(k + 1, b9, c9, ss ++ [⟨b4, p.length, c4⟩], xss ++ [p]), ⟨by simp only; omega, by simp; omega, by simp [hxk], hOx.grow_ex hg9 (hE3.trans hE4) (Nat.le_refl _), hL9, gens_snoc hG hPl hP, hA.snoc (fun i hi ad ad' e e' => by have := ((hO.each i (by omega)).1.lo ad e).2; have := (hO4.lo ad' e').1; omega)⟩, by simp only; omega, rfl, ?_, trivial⟩, (by (repeat (first | exact agree_mask _ _ _ | refine agree_upd rfl ?_ | refine agree_updO rfl ?_ | refine agree_overIn rfl ?_ | refine agree_maskIn rfl ?_)))⟩
    simp only [List.length_append, List.length_singleton]; rfl
  · exact ret1 rfl (rt rfl) ⟨b, cc, ss, xss, rfl, hO.mono s2, hx3, hG, hA, hE03⟩

set_option maxHeartbeats 1000000 in
theorem gens_true {pts most : Int} (hp : 0 ≤ pts ∧ pts ≤ 255) (hm : 0 < most ∧ most ≤ 500) {n : Nat} (hn : 1 + pts % most = (n : Int)) {la : Option Addr} {sds : List SD} {Ls : List (List Int)} {w : World} (hL : Lists w .i8 la sds Ls) (hI : ∀ i, I8 (Ls.getD i [])) (c : Nat) (hl : Ls.length ≤ 9223372036854775807) :
    CallsR Try.prog 19 #[.agg (permsL pts la Ls.length c true).toArray, .int .i64 most] w (RetG w n) := by
  have h1 : 0 ≤ pts % most := Int.emod_nonneg _ (by omega)
  have h2 : pts % most < most := Int.emod_lt_of_pos _ (by omega)
  have hsl := hL.len
  refine callsR_of (args := [_, _]) Try.func19 rfl rfl ?_
  repeat' (first | (refine k_boxA rfl (fun g w1 hn1 => ⟨fun _ _ => trivial, ?_⟩)) | (refine k_loadCA rfl hn1.blk rfl ?_) | (refine k_pure rfl ?_) | (refine then_normal ?_) | (refine cw_seq ?_) | (refine cw_region rfl ?_) | (refine rr_nil ?_))
  refine k_call (degree_spec hp _ _ _ _ (by omega) _) rfl ?_
  rintro v w2 ⟨rfl, hE2⟩
  refine ⟨fun _ _ => trivial, ?_⟩
  rw [hn]
  have hb2 := hn1.blk.ext hE2
  have hE02 := hn1.ex.trans hE2
  repeat' (first | (refine k_loadC rfl hb2 rfl ?_) | (refine k_pure rfl ?_) | (refine then_normal ?_) | (refine cw_seq ?_) | (refine cw_region rfl ?_) | (refine rr_nil ?_) | (refine k_len rfl ?_) | (refine k_fieldAddr rfl ?_) | (refine cw_block ?_))
  refine cw_loop (ι := Nat × Option Addr × Nat × List SD × List (List Int)) [5, 7, 8, 9, 10, 11, 12, 13, 20, 21, 22, 23, 24, 25, 26, 27, 28, 29, 30, 31, 32, 33, 34, 35, 36, 37, 38, 39, 40, 41, 42, 43, 44, 45, 46, 47, 48, 49, 50, 51, 52, 53, 54, 55, 56, 57, 58, 59, 60, 61, 62, 63, 64, 65] (fun s => [(20, .int .i64 (s.1 : Int)), (5, .slice s.2.1 s.2.2.2.1.length s.2.2.1)])
    (fun s w' => s.1 ≤ Ls.length ∧ s.2.2.2.2.length ≤ 3 ∧ s.2.2.2.2.length = s.1 ∧ Ex w2 w' ∧ OwnLists w' w2.heap.size 28 3 .i64 s.2.1 s.2.2.1 s.2.2.2.1 s.2.2.2.2 ∧ Gens n s.2.2.2.2 ∧ Apart s.2.2.2.1) (fun s => Ls.length - s.1)
    (0, none, 0, [], []) ⟨rfl, rfl, trivial⟩ ⟨by simp, by simp, rfl, Ex.refl _, OwnLists.nil _ _ _ _ _, by intro p hp; simp at hp, by intro i j _ hj; simp at hj⟩ ?_
  rintro ⟨k, b, cc, ss, xss⟩ ξ w3 ⟨hk, hx3, hxk, hE3, hO, hG, hA⟩
  simp only at hk hx3 hxk hO hG hA
  have hol := hO.len
  have hE03 := hE02.trans hE3
  have s3 := hE3.size
  have hb3 := hb2.ext hE3
  have s2 := hE02.size
  have hL3 := hL.ext hE03
  show CW _ _ _ _ (over [(20, .int .i64 (k : Int)), (5, .slice b ss.length cc)] _) w3
  repeat' (first | (refine k_indexN rfl rfl (hL3.sl.plain (by simp; omega)) (by omega) ?_) | (refine k_loadS rfl hL3.sl (by omega) ?_) | (refine k_pure rfl ?_) | (refine then_normal ?_) | (refine cw_seq ?_) | (refine cw_region rfl ?_) | (refine rr_nil ?_) | (refine cw_cond_dec rfl (fun hc => ?_) (fun hc => ?_)) | (refine cw_block ?_) | (refine cw_exit ?_) | (refine then_exit ?_) | (refine in_exit ?_) | (refine in_exit_ne rfl ?_) | (refine cw_ret ?_) | (refine cw_skip ?_))
  · exact ret1 rfl (rt rfl) ⟨b, cc, ss, xss, rfl, hO.mono s2, hx3, hG, hA, hE03⟩
  · obtain ⟨hl1, hl2⟩ := hL3.each k (by omega)
    rw [hl2]
    refine k_call (perm_spec hl1 (hI k) _ n (by omega) (by omega)) rfl ?_
    rintro v w4 ⟨b4, c4, rfl, hO4, hE4⟩
    refine ⟨fun _ _ => trivial, ?_⟩
    have hb4 := hb3.ext hE4
    have s4 := hE4.size
    repeat' (first | (refine k_loadC rfl hb4 rfl ?_) | (refine k_pure rfl ?_) | (refine then_normal ?_) | (refine cw_seq ?_) | (refine cw_region rfl ?_) | (refine rr_nil ?_) | (refine k_fieldAddr rfl ?_) | (refine cw_cond_true rfl ?_))
    refine k_call (perm_spec (L := []) (la := none) (Sl.nil _ _) ⟨by simp, by simp⟩ 0 n (by omega) (by omega)) rfl ?_
    rintro v w5 ⟨b5, c5, rfl, hO5, hE5⟩
    refine ⟨fun _ _ => trivial, ?_⟩
    have s5 := hE5.size
    have hP := permF_isPerm [] (n := n) (by omega) (by omega)
    have hPl := permF_length [] (n := n) (by omega)
    generalize permF [] n = p0 at *
    generalize hlk : Ls.getD k [] = L at *
    have hIL : I8 L := by rw [← hlk]; exact hI k
    generalize hla : (sds.getD k ⟨none, 0, 0⟩) = sk at *
    repeat' (first | (refine k_build (cs := tapeL sk.a L.length sk.cap 0) rfl ?_) | (refine k_boxA rfl (fun gt w6 hn6 => ⟨fun _ _ => trivial, ?_⟩)) | (refine k_pure rfl ?_) | (refine then_normal ?_) | (refine cw_seq ?_) | (refine cw_region rfl ?_) | (refine rr_nil ?_) | (refine cw_block ?_))
    have l6 := hn6.lo
    have l6' := hn6.hi
    have hl5 : Sl w5 sk.a (int8L L) := by
      have := (hl1.ext hE4).ext hE5
      simpa [hla] using this
    have hne : 0 < L.length → ∀ ad, sk.a = some ad → ad.block ≠ gt := fun h ad e => by have := hl5.lt (by simpa using h) ad e; omega
    have hE46 : Ex w4 w6 := hE5.trans hn6.ex
    refine cw_loop (ι := Nat × Nat × List Int) [11, 12, 13, 37, 38, 39, 40, 41, 42, 43, 44, 45, 46, 47, 48, 49, 50, 51, 52, 53, 54, 55, 56, 57, 58, 59, 60] (fun s => [(11, .int .i64 (s.1 : Int))])
      (fun s w' => s.1 ≤ 2 ∧ Ex w4 w' ∧ w6.heap.size ≤ w'.heap.size ∧ Blk w' gt 82 (tapeL sk.a L.length sk.cap s.2.1) ∧ s.2.1 ≤ L.length ∧ Own w' w4.heap.size 3 1 b5 p0.length c5 (intsL s.2.2) ∧ s.2.2.length = n ∧ Dist n s.2.2) (fun s => 2 - s.1)
      (0, 0, p0) ⟨rfl, trivial⟩ ⟨by simp, hE46, Nat.le_refl _, hn6.blk, by simp, hO5.ext hn6.ex, hPl, by rw [← hPl]; exact hP.2.2⟩ ?_
    rintro ⟨i, m, p⟩ ξ2 w7 ⟨hi, hE7, hs7, hbt, hml, hO7, hpl, hd⟩
    simp only at hi hbt hml hO7 hpl hd
    show CW _ _ _ _ (over [(11, .int .i64 (i : Int))] _) w7
    repeat' (first | (refine k_pure rfl ?_) | (refine then_normal ?_) | (refine cw_seq ?_) | (refine cw_region rfl ?_) | (refine rr_nil ?_) | (refine cw_cond_dec rfl (fun hc => ?_) (fun hc => ?_)) | (refine cw_block ?_) | (refine cw_exit ?_) | (refine then_exit ?_) | (refine in_exit ?_) | (refine cw_skip ?_))
    · have hlw : Ex w5 w7 ∨ True := .inr trivial
      have hl7 : Sl w7 sk.a (int8L L) := by
        have := (hl1.ext hE4).ext hE7
        simpa [hla] using this
      refine k_call (below_spec hbt hl7 hIL hne hml _ (by omega)) rfl ?_
      rintro v w8 ⟨rfl, hc8, hb8⟩
      refine ⟨fun _ _ => trivial, ?_⟩
      have s8 := hc8.size
      have hm8 := tAt_le hml
      have hO8 := hO7.chg hc8 (fun ad e => by have h1 := (hO5.lo ad e).2; omega)
      have hE8 : Ex w4 w8 := hE7.chg hc8 (by omega)
      have hl8 : Sl w8 sk.a (int8L L) := by
        have := (hl1.ext hE4).ext hE8
        simpa [hla] using this
      repeat' (first | (refine k_pure rfl ?_))
      refine k_call (below_spec hb8 hl8 hIL hne hm8 _ (by omega)) rfl ?_
      rintro v w9 ⟨rfl, hc9, hb9⟩
      refine ⟨fun _ _ => trivial, ?_⟩
      have s9 := hc9.size
      have hm9 := tAt_le hm8
      have hO9 := hO8.chg hc9 (fun ad e => by have h1 := (hO5.lo ad e).2; omega)
      have hE9 : Ex w4 w9 := hE8.chg hc9 (by omega)
      have q1 : 0 ≤ L.getD m 0 % 256 % (n : Int) ∧ L.getD m 0 % 256 % (n : Int) < n := ⟨Int.emod_nonneg _ (by omega), Int.emod_lt_of_pos _ (by omega)⟩
      have q2 : 0 ≤ L.getD (tAt L m) 0 % 256 % (n : Int) ∧ L.getD (tAt L m) 0 % 256 % (n : Int) < n := ⟨Int.emod_nonneg _ (by omega), Int.emod_lt_of_pos _ (by omega)⟩
      obtain ⟨x, hx⟩ : ∃ x : Nat, L.getD m 0 % 256 % (n : Int) = x := ⟨_, (Int.toNat_of_nonneg q1.1).symm⟩
      obtain ⟨y, hy⟩ : ∃ y : Nat, L.getD (tAt L m) 0 % 256 % (n : Int) = y := ⟨_, (Int.toNat_of_nonneg q2.1).symm⟩
      rw [hx] at q1 ⊢
      rw [hy] at q2 ⊢
      repeat' (first | (refine k_pure rfl ?_) | (refine then_normal ?_) | (refine rr_nil ?_))
      have hpll : p0.length = n := hPl
      have hpn := hO9.sl.plain (by simp; omega)
      refine cw_draw (late := [13, 15]) (plan := [(0, none), (1, none), (2, none), (3, none), (4, none), (5, none), (6, none), (7, none), (8, none), (9, none), (10, none), (11, none), (12, none), (13, some false), (14, none), (15, some false)]) (fun w' => Own w' w4.heap.size 3 1 b5 p0.length c5 (intsL p)) mixed (by kernel_rfl) hO9.drew ?_
      repeat' (first | (refine k_indexN rfl rfl hpn (by omega) ?_) | (refine k_loadI rfl (fun _ h => h.sl) (by omega) ?_) | (refine k_pure rfl ?_))
      refine k_storeOwn rfl rfl rfl hO9.drew (by simp; omega) (fun gb w10 hgb hlo10 hc10 hO10 => ⟨fun h => absurd h (by decide), ?_⟩)
      replace hO10 := hO10.setI
      repeat' (first | (refine k_indexN rfl rfl hpn (by omega) ?_))
      refine k_storeOwn rfl rfl rfl hO10 (by simp; omega) (fun gb2 w11 hgb2 hlo11 hc11 hO11 => ⟨fun h => absurd h (by decide), ?_⟩)
      replace hO11 := hO11.setI
      obtain rfl : gb = gb2 := by rw [hgb] at hgb2; simpa using hgb2
      have hng : gt ≠ gb := by have h1 : gb < w5.heap.size := (hO5.lo _ hgb).2; omega
      have s10 := hc10.size
      have s11 := hc11.size
      have s9d : w9.drew.heap.size = w9.heap.size := rfl
      repeat' (first | (refine k_pure rfl ?_) | (refine then_normal ?_) | (refine cw_region rfl ?_) | (refine rr_nil ?_) | (refine k_addI rfl rfl (by omega) (by omega) ?_) | (refine in_normal ?_))
      exact ⟨⟨(i + 1, tAt L (tAt L m), swapL p x y), ⟨by simp only; omega, (hE9.drew.chg hc10 hlo10).chg hc11 hlo11, by omega, ((hb9.drew).chg hc10 hng).chg hc11 hng, hm9, hO11, by simp only [swapL_length, hpl], swapL_dist (by omega) (by omega) hd⟩, by simp only; omega, rfl, trivial⟩, (by (repeat (first | exact agree_mask _ _ _ | refine agree_upd rfl ?_ | refine agree_updO rfl ?_ | refine agree_overIn rfl ?_ | refine agree_maskIn rfl ?_)))⟩
    · have hPp : IsPerm p := ⟨by omega, by omega, by rw [hpl]; exact hd⟩
      have hOx := (hO.ext hE4).ext hE7
      have s7 := hE7.size
      rw [show p0.length = p.length by omega] at hO7 ⊢
      refine k_app1S rfl rfl rfl rfl hOx.top (by omega) (by omega) (by omega) (fun gl b9 c9 w9 hO9 hg9 hA9 => ?_)
      have hsep : ∀ ad ad', b = some ad → b5 = some ad' → ad.block ≠ ad'.block := fun ad ad' e e' => by have := (hO.top.lo ad e).2; have := (hO5.lo ad' e').1; omega
      have hL9 := hOx.snoc (hO7.mono (by omega)) hsep hO9 hg9 hA9
      repeat' (first | (refine k_pure rfl ?_) | (refine then_normal ?_) | (refine cw_region rfl ?_) | (refine rr_nil ?_) | (refine k_addI rfl rfl (by omega) (by omega) ?_) | (refine in_normal ?_))
      refine ⟨⟨(k + 1, b9, c9, ss ++ [⟨b5, p.length, c5⟩], xss ++ [p]), ⟨by simp only; omega, by simp; omega, by simp [hxk], hOx.grow_ex hg9 ((hE3.trans hE4).trans hE7) (Nat.le_refl _), hL9, gens_snoc hG hpl hPp, hA.snoc (fun i hi ad ad' e e' => by have := ((hO.each i (by omega)).1.lo ad e).2; have := (hO5.lo ad' e').1; omega)⟩, by simp only; omega, rfl, ?_, trivial⟩, (by (repeat (first | exact agree_mask _ _ _ | refine agree_upd rfl ?_ | refine agree_updO rfl ?_ | refine agree_overIn rfl ?_ | refine agree_maskIn rfl ?_)))⟩
      simp only [List.length_append, List.length_singleton]; rfl
  · exact ret1 rfl (rt rfl) ⟨b, cc, ss, xss, rfl, hO.mono s2, hx3, hG, hA, hE03⟩
theorem gens_spec {pts most : Int} (hp : 0 ≤ pts ∧ pts ≤ 255) (hm : 0 < most ∧ most ≤ 500) {n : Nat} (hn : 1 + pts % most = (n : Int)) {la : Option Addr} {sds : List SD} {Ls : List (List Int)} {w : World} (hL : Lists w .i8 la sds Ls) (hI : ∀ i, I8 (Ls.getD i [])) (c : Nat) (hl : Ls.length ≤ 9223372036854775807) (few : Bool) :
    CallsR Try.prog 19 #[.agg (permsL pts la Ls.length c few).toArray, .int .i64 most] w (RetG w n) := by
  cases few
  · exact gens_false hp hm hn hL hI c hl
  · exact gens_true hp hm hn hL hI c hl
end Go.Proofs.Ythhfjagnmhhapaa

namespace Go.Proofs.Ythhfjagnmhhapaa
open Go.W Go.PM Go.LM
theorem errS_ok {n : Nat} {gens : List (List Int)} (h1 : 1 ≤ n) (h2 : n ≤ 512) (h3 : gens.length ≤ 64) (hg : Gens n gens) : errS (n : Int) gens = 0 := by
  unfold errS
  rw [if_neg (by omega), if_neg (by omega), if_pos (permsB_iff.2 hg.n)]
set_option maxHeartbeats 1000000 in
theorem orders_calls {pts : Int} (hp : 0 ≤ pts ∧ pts ≤ 255) {la : Option Addr} {sds : List SD} {Ls : List (List Int)} {w : World} (hL : Lists w .i8 la sds Ls) (hI : ∀ i, I8 (Ls.getD i [])) (c : Nat) (hl : Ls.length ≤ 9223372036854775807) (few : Bool) :
    CallsR Try.prog 4 #[.agg (permsL pts la Ls.length c few).toArray] w fun v w' => v = .bool true ∧ Ex w w' := by
  refine callsR_of (args := [_]) Try.func4 rfl rfl ?_
  repeat' (first | (refine k_boxA rfl (fun g w1 hn1 => ⟨fun _ _ => trivial, ?_⟩)) | (refine k_pure rfl ?_) | (refine then_normal ?_) | (refine cw_seq ?_) | (refine cw_region rfl ?_) | (refine rr_nil ?_))
  have hd1 : 0 ≤ pts % 8 := Int.emod_nonneg _ (by omega)
  have hd2 : pts % 8 < 8 := Int.emod_lt_of_pos _ (by omega)
  obtain ⟨n, hn⟩ : ∃ n : Nat, 1 + pts % 8 = (n : Int) := ⟨(1 + pts % 8).toNat, by omega⟩
  have hn8 : 1 ≤ n ∧ n ≤ 8 := by omega
  refine cw_draw (late := []) (plan := [(0, none), (2, none), (1, some true), (3, some true), (4, none), (5, none)]) (fun w' => Blk w' g 35 (permsL pts la Ls.length c few)) mixed (by kernel_rfl) hn1.blk.drew ?_
  have hE1 : Ex w w1.drew := hn1.ex.drew
  repeat' (first | (refine k_loadCA rfl (fun _ h => h) rfl ?_))
  refine k_call (degree_spec hp _ _ _ _ (by omega) _) rfl ?_
  rintro v w2 ⟨rfl, hE2⟩
  refine ⟨fun _ h => h.ext hE2, ?_⟩
  rw [hn]
  refine k_call (gens_spec hp (by omega) hn (hL.ext (hE1.trans hE2)) hI _ hl few) rfl ?_
  rintro v w3 ⟨b, cc, ss, xss, rfl, hO, hx3, hG, hA, hE3⟩
  refine ⟨fun _ h => h.ext hE3, ?_⟩
  have hE03 : Ex w w3 := (hE1.trans hE2).trans hE3
  have hLs := hO.lists
  have hle := hLs.len
  rw [hle]
  have hes : errS (n : Int) xss = 0 := errS_ok hn8.1 (by omega) (by omega) hG
  repeat' (first | (refine k_pure rfl ?_) | (refine then_normal ?_) | (refine cw_seq ?_) | (refine cw_region rfl ?_) | (refine rr_nil ?_))
  refine k_call (sOrder_spec (n := (n : Int)) (cap := cc) hLs (by omega) (fun _ => by omega)) rfl ?_
  rintro v w4 ⟨z4, rfl, hE4, _, ho4⟩
  refine ⟨fun _ _ => trivial, ?_⟩
  obtain ⟨k4, hk4, hz4⟩ := ho4 hes
  obtain ⟨cs4, rfl, hcl4, hco4⟩ := hz4.out
  rw [hes]
  repeat' (first | (refine k_pure rfl ?_))
  refine k_allocA (vs := intL false none 0 0) (fun g5 w5 hn5 => ⟨fun _ _ => trivial, ?_⟩)
  refine k_storeV (n := 2) rfl rfl hcl4 hco4 hn5.blk rfl (fun w6 hc6 hb6 => ⟨fun _ _ => trivial, ?_⟩)
  have hX6 : Ex w3 w6 := (hE4.trans hn5.ex).chg hc6 (by have h1 := hn5.lo; have h2 := hE4.size; omega)
  have hq6 := (hz4.ext hn5.ex).chgO hc6 (hz4.off_hi hn5.lo)
  repeat' (first | (refine k_pure rfl ?_) | (refine then_normal ?_) | (refine cw_seq ?_) | (refine cw_region rfl ?_) | (refine rr_nil ?_))
  refine k_call (rOrder_spec (n := (n : Int)) (cap := cc) (hLs.ext hX6) (by omega) (fun _ => by omega)) rfl ?_
  rintro v w7 ⟨z7, rfl, hE7, _, ho7⟩
  refine ⟨fun _ _ => trivial, ?_⟩
  obtain ⟨k7, hk7, hz7⟩ := ho7 hes
  obtain ⟨cs7, rfl, hcl7, hco7⟩ := hz7.out
  have hkk : k7 = k4 := hk7.unique hk4
  subst hkk
  rw [hes]
  repeat' (first | (refine k_pure rfl ?_))
  refine k_allocA (vs := intL false none 0 0) (fun g8 w8 hn8' => ⟨fun _ _ => trivial, ?_⟩)
  refine k_storeV (n := 2) rfl rfl hcl7 hco7 hn8'.blk rfl (fun w9 hc9 hb9 => ⟨fun _ _ => trivial, ?_⟩)
  have hX9 : Ex w6 w9 := (hE7.trans hn8'.ex).chg hc9 (by have h1 := hn8'.lo; have h2 := hE7.size; omega)
  have hq9 := (hz7.ext hn8'.ex).chgO hc9 (hz7.off_hi hn8'.lo)
  have hb69 := hb6.ext hX9
  repeat' (first | (refine k_loadCA (g := g5) rfl hb69 hcl4 ?_) | (refine k_loadCA (g := g8) rfl hb9 hcl7 ?_) | (refine k_pure rfl ?_) | (refine then_normal ?_) | (refine cw_seq ?_) | (refine cw_region rfl ?_) | (refine rr_nil ?_) | (refine g_run rfl rfl ?_))
  refine k_call (refSame_spec (hq6.ext hX9) hq9) rfl ?_
  rintro v w10 ⟨rfl, hE10⟩
  refine ⟨fun _ _ => trivial, ?_⟩
  rw [decide_eq_true (p := ((k7 : Nat) : Int) = ((k7 : Nat) : Int)) rfl]
  repeat' (first | (refine k_pure rfl ?_) | (refine g_run rfl rfl ?_))
  refine k_call (awakeS_spec _) rfl ?_
  rintro v w11 ⟨rfl, hE11⟩
  refine ⟨fun _ _ => trivial, ?_⟩
  repeat' (first | (refine k_pure rfl ?_) | (refine then_normal ?_) | (refine rr_nil ?_) | (refine cw_ret ?_))
  exact ret1 rfl (rt rfl) ⟨rfl, (((hE03.trans hX6).trans hX9).trans hE10).trans hE11⟩
end Go.Proofs.Ythhfjagnmhhapaa

namespace Go.W
open Go.ChangeShapes Go.WideShapes Go.ChangeAt Go.RowKit
section
variable {H : Type} {enc : TypeId × Value → H} {P : Program} {W W' : World}
/-- arguments read behind the call as before, if below the heap's old size nothing has changed -/
theorem trodAll_stays (hl : laidOutB P = true) (hb : Below W.heap.size W W') {sp : Nat → Bool} : ∀ {ts : List TypeId} {vs : List Value} {ds : List (DataW H)} {ps : List MemPlace},
    ts.all (fun t => P.readableRec t && decide (t < P.types.size)) = true → DataW.TrodAll enc P W 0 (fun _ => true) true ts vs ds ps → (∀ x ∈ ps, x.block < W.heap.size) → (∀ x ∈ ps, sp x.block = true) →
    DataW.TrodAll enc P W' 0 sp true ts vs ds ps
  | [], [], [], _, _, h, _, _ => h
  | t :: ts, v :: vs, d :: ds, _, ht, ⟨p, q, h1, h2, e⟩, hlt, hs => by
    simp only [List.all_cons, Bool.and_eq_true, decide_eq_true_eq] at ht
    exact ⟨p, q, WideElems.Trod_stays hl ht.1.1 ht.1.2 h1 (fun x hx => hb.same (hlt x (by rw [e]; exact List.mem_append_left _ hx))) (fun x hx => hs x (by rw [e]; exact List.mem_append_left _ hx)),
      trodAll_stays hl hb ht.2 h2 (fun x hx => hlt x (by rw [e]; exact List.mem_append_right _ hx)) (fun x hx => hs x (by rw [e]; exact List.mem_append_right _ hx)), e⟩
/-- the last step of a law's row: it has returned true, and below the heap's old size nothing has changed -/
theorem law_post {f : Func} {s : ChangeSpec} {apart fresh handsOn again : Bool} {args : Array Value} {ds gs : List (DataW H)} {before : List MemPlace} {tb : TypeId}
    (hl : laidOutB P = true) (hrd : f.params.toList.all (fun t => P.readableRec t && decide (t < P.types.size)) = true) (hrt : f.resultTypes = #[tb]) (htb : P.underlying tb = some .bool) (hvars : s.vars = [])
    (hspec : s.fn H (ds ++ gs) = { results := [.lit (.bool true)], args := ds })
    (hW : DataW.Whole enc P f.params.toList s.vars apart W args.toList ds gs before) (hb : Below W.heap.size W W') :
    s.post enc P f apart fresh handsOn again W args (.bool true) W' := by
  have hlt : ∀ p ∈ before, p.block < W.heap.size := fun p hp => hW.lt p hp
  have hW0 := hW
  obtain ⟨pa, pv, hA, hV, hps, hz, hn⟩ := hW
  rw [hvars] at hV
  obtain ⟨rfl, rfl⟩ := trodVars_none hV
  have hps' : before = pa ++ [] := hps
  have hres : ∀ (b : Nat) (sp : Nat → Bool) (hd : Bool), DataW.TrodAll enc P W' b sp hd f.resultTypes.toList ((Value.bool true).resultList f.resultTypes.size) (s.fn H (ds ++ [])).results [] := fun b sp hd => by
    rw [hspec, hrt]; exact trodAll_mk1 (shut_bool htb _)
  have hargs : ∀ sp : Nat → Bool, (∀ p ∈ before, sp p.block = true) → DataW.TrodAll enc P W' 0 sp true f.params.toList args.toList (s.fn H (ds ++ [])).args pa := fun sp hsp => by
    rw [hspec]; exact trodAll_stays hl hb hrd hA (fun x hx => hlt x (by rw [hps']; simpa using hx)) (fun x hx => hsp x (by rw [hps']; simpa using hx))
  have hvs : ∀ sp : Nat → Bool, (∀ p ∈ before, sp p.block = true) → DataW.TrodVars enc P W' sp s.vars (s.fn H (ds ++ [])).vars [] := fun sp _ => by rw [hspec, hvars]; rfl
  have hok : ∀ (j : Nat) (t : TypeId) (r : Value), f.resultTypes[j]? = some t → ((Value.bool true).resultList f.resultTypes.size)[j]? = some r → Value.okWide P W' .any 0 t r := ok_one hrt rfl (okWide_bool_mk htb _)
  have hold : ∀ p ∈ before, (fun b => decide (b < W.heap.size)) p.block = true := fun p hp => by simpa using hlt p hp
  refine ⟨ds, [], before, [], pa, [], hW0, hres _ _ _, hargs _ hold, hvs _ hold, World.keptBut_mono (fun p hp => ⟨hp, ?_⟩) (hb.frame (· ∈ before)), fun _ => ?_⟩
  · rw [hps', List.mem_append] at hp
    exact Or.inr hp
  · refine ⟨hok, _, _, ([] ++ pa) ++ [], ⟨[] ++ pa, [], trodAll_append (hargs _ (fun _ _ => rfl)) (hres _ _ _), hvs _ (fun _ _ => rfl), rfl, ?_, ?_⟩, ?_⟩
    · intro b off hp
      have hin : MemPlace.cell b off ∈ before := by rw [hps']; simpa using hp
      rw [hb.frozen (hlt _ hin)]
      exact hz b off hin
    · intro ha
      have := hn ha
      rw [hps'] at this
      simpa using this
    · intro p hp _
      rw [hps']
      simpa using hp
/-- a slice of numbers among the arguments -/
theorem open_nums {t e : TypeId} {k : IntKind} {v : Value} {d : DataW H} {ps : List MemPlace} {r : Reach} {b0 : Nat} (ht : P.underlying t = some (.slice e)) (he : P.underlying e = some (.int k)) (hc : P.cellsOf e = 1)
    (hval : Value.okWide P W r b0 t v) (h : DataW.Trod enc P W 0 (fun _ => true) true t v d ps) :
    ∃ (a : Option Addr) (xs : List Int) (c : Nat), v = .slice a xs.length c ∧ Sl W a (xs.map (Value.int k)) ∧ (∀ x ∈ xs, (Lit.int k x).wf = true) ∧ xs.length ≤ c ∧ c ≤ 9223372036854775807 := by
  obtain ⟨a0, len, cap, rfl⟩ := okWide_slice ht hval
  obtain ⟨fuel, hf⟩ := h
  rcases open_ints ht he hc hf with ⟨hcs, hx⟩ | ⟨a, len', cap', zs, hcs, _, hl, hm, hz, hx, hcell, hwz⟩
  · simp [Value.cells] at hcs
    obtain ⟨rfl, rfl, rfl⟩ := hcs
    exact ⟨none, [], 0, rfl, Sl.nil _ _, by simp, by simp, by decide⟩
  · simp [Value.cells] at hcs
    obtain ⟨rfl, rfl, rfl⟩ := hcs
    simp only [if_true] at hz
    have hlen : (zs.take len).length = len := by simp; omega
    refine ⟨some a, zs.take len, cap, by rw [hlen], ⟨fun hne => ?_, fun j hj => ?_⟩, fun x hx => hwz x (List.mem_of_mem_take hx), by rw [hlen]; exact hl, by unfold maxLen at hm; omega⟩
    · have h0 : 0 < zs.length := by
        rcases Nat.eq_zero_or_pos zs.length with h | h
        · exact absurd (by rw [List.eq_nil_of_length_eq_zero h]; simp) hne
        · exact h
      obtain ⟨b, off, spot⟩ := a
      have hspot : spot = none := by simpa [Addr.add] using World.cell?_spot (hcell 0 h0)
      subst hspot
      exact ⟨b, off, rfl⟩
    · simp only [List.length_map, hlen] at hj
      have h0 : j < zs.length := by omega
      obtain ⟨b, off, spot⟩ := a
      have hspot : spot = none := by simpa [Addr.add] using World.cell?_spot (hcell 0 (by omega))
      subst hspot
      have := hcell j h0
      have e : (⟨b, off, none⟩ : Addr).add j = ⟨b, off + j, none⟩ := by unfold Addr.add; split <;> simp_all
      rw [e] at this
      simp only [elt]
      rw [this]
      simp [List.getD_eq_getElem?_getD, h0, hj]
end
end Go.W
namespace Go.Proofs.Ythhfjagnmhhapaa
theorem Try.own : ownKnob Try.prog.godebug = none := by kernel_rfl
theorem Try.laidOut : laidOutB Try.prog = true := by kernel_rfl
end Go.Proofs.Ythhfjagnmhhapaa

namespace Go.W
open Go.ChangeShapes Go.WideShapes Go.ChangeAt Go.RowKit
section
variable {H : Type} {enc : TypeId × Value → H} {P : Program} {W W' : World}
theorem sl_of_cells {k : IntKind} {a : Option Addr} {L C : Nat} {Z : List Int} (hl : L ≤ C) (hz : Z.length = C) (hn : a = none → C = 0) (hc : ∀ a', a = some a' → ∀ c, c < C → W.cell? (a'.add c) = some (.int k (Z.getD c 0))) :
    Sl W a ((Z.take L).map (Value.int k)) ∧ (Z.take L).length = L := by
  have hlen : (Z.take L).length = L := by simp; omega
  refine ⟨⟨fun hne => ?_, fun j hj => ?_⟩, hlen⟩
  · have h0 : 0 < L := by
      rcases Nat.eq_zero_or_pos L with h | h
      · subst h; simp at hne
      · exact h
    cases a with
    | none => have := hn rfl; omega
    | some a =>
      obtain ⟨b, off, spot⟩ := a
      have hspot : spot = none := by simpa [Addr.add] using World.cell?_spot (hc _ rfl 0 (by omega))
      subst hspot
      exact ⟨b, off, rfl⟩
  · simp only [List.length_map, hlen] at hj
    cases a with
    | none => have := hn rfl; omega
    | some a =>
      obtain ⟨b, off, spot⟩ := a
      have hspot : spot = none := by simpa [Addr.add] using World.cell?_spot (hc _ rfl 0 (by omega))
      subst hspot
      have := hc _ rfl j (by omega)
      have e : (⟨b, off, none⟩ : Addr).add j = ⟨b, off + j, none⟩ := by unfold Addr.add; split <;> simp_all
      rw [e] at this
      simp only [elt]
      rw [this]
      simp [List.getD_eq_getElem?_getD, hj, show j < Z.length by omega]
/-- a slice of slices of numbers -/
theorem open_rowsT {t e q : TypeId} {k : IntKind} {fuel : Nat} {v : Value} {x : DataW H × List MemPlace} (ht : P.underlying t = some (.slice e)) (he : P.underlying e = some (.slice q)) (hq : P.underlying q = some (.int k))
    (ce : P.cellsOf e = 1) (cq : P.cellsOf q = 1) (h : DataW.trod enc P W 0 (fun _ => true) true fuel t [v] = some x) :
    ∃ (a : Option Addr) (sds : List SD) (xss : List (List Int)) (c : Nat), v = .slice a xss.length c ∧ Lists W k a sds xss ∧ xss.length ≤ 9223372036854775807 ∧ (∀ i, (xss.getD i []).length ≤ 9223372036854775807) ∧ ∀ i, ∀ x ∈ xss.getD i [], (Lit.int k x).wf = true := by
  rcases Go.Deep.open_int_rows ht he hq ce cq h with ⟨hcs, hx⟩ | ⟨a, len, cap, A, L, C, Z, hcs, _, hl, hm, hx, hr⟩
  · simp only [List.cons.injEq, and_true] at hcs
    subst hcs
    exact ⟨none, [], [], 0, rfl, Lists.nil _ _ _, by simp, by simp, by simp⟩
  · simp only [List.cons.injEq, and_true] at hcs
    subst hcs
    unfold maxLen at hm
    have hrow : ∀ r, r < len → Sl W (A r) (((Z r).take (L r)).map (Value.int k)) ∧ ((Z r).take (L r)).length = L r := fun r hrl => by
      obtain ⟨_, h2, h3, h4, h5, h6, h7⟩ := hr r (by omega)
      exact sl_of_cells h2 h4 h6 (fun a' e => (h7 a' e).2)
    refine ⟨some a, (List.range len).map fun r => ⟨A r, L r, C r⟩, (List.range len).map fun r => (Z r).take (L r), cap, by simp, ⟨⟨fun hne => ?_, fun j hj => ?_⟩, by simp, fun i hi => ?_⟩, by simp; omega, fun i => ?_, fun i x hxm => ?_⟩
    · have h0 : 0 < len := by
        rcases Nat.eq_zero_or_pos len with h | h
        · subst h; simp at hne
        · exact h
      obtain ⟨b, off, spot⟩ := a
      have hspot : spot = none := by simpa [Addr.add] using World.cell?_spot (hr 0 (by omega)).1
      subst hspot
      exact ⟨b, off, rfl⟩
    · simp only [List.length_map, List.length_range] at hj
      obtain ⟨b, off, spot⟩ := a
      have hspot : spot = none := by simpa [Addr.add] using World.cell?_spot (hr 0 (by omega)).1
      subst hspot
      have := (hr j (by omega)).1
      have e : (⟨b, off, none⟩ : Addr).add j = ⟨b, off + j, none⟩ := by unfold Addr.add; split <;> simp_all
      rw [e] at this
      simp only [elt]
      rw [this]
      simp [List.getD_eq_getElem?_getD, hj, SD.val]
    · simp only [List.length_map, List.length_range] at hi
      have := hrow i hi
      simp only [List.getD_eq_getElem?_getD, List.getElem?_map, List.getElem?_range hi, Option.map_some, Option.getD_some]
      exact ⟨this.1, this.2.symm⟩
    · by_cases hi : i < len
      · have := (hrow i hi).2
        obtain ⟨_, h2, h3, _⟩ := hr i (by omega)
        unfold maxLen at h3
        simp only [List.getD_eq_getElem?_getD, List.getElem?_map, List.getElem?_range hi, Option.map_some, Option.getD_some]
        omega
      · simp [List.getD_eq_getElem?_getD, hi]
    · by_cases hi : i < len
      · obtain ⟨_, _, _, _, h5, _⟩ := hr i (by omega)
        simp only [List.getD_eq_getElem?_getD, List.getElem?_map, List.getElem?_range hi, Option.map_some, Option.getD_some] at hxm
        exact h5 x (List.mem_of_mem_take hxm)
      · simp [List.getD_eq_getElem?_getD, hi] at hxm
end
end Go.W
namespace Go.Proofs.Ythhfjagnmhhapaa
open Go.W Go.ChangeShapes Go.WideShapes Go.ChangeAt Go.RowKit
set_option maxRecDepth 100000 in
theorem open_perms {H : Type} {enc : TypeId × Value → H} {W : World} {v : Value} {d : DataW H} {ps : List MemPlace} {r : Reach} {b0 : Nat} (hval : Value.okWide Try.prog W r b0 35 v) (h : DataW.Trod enc Try.prog W 0 (fun _ => true) true 35 v d ps) :
    ∃ (n : Int) (a : Option Addr) (sds : List SD) (Ls : List (List Int)) (c : Nat) (few : Bool), v = .agg (permsL n a Ls.length c few).toArray ∧ (0 ≤ n ∧ n ≤ 255) ∧ Lists W .i8 a sds Ls ∧ (∀ i, I8 (Ls.getD i [])) ∧ Ls.length ≤ 9223372036854775807 := by
  obtain ⟨f0, f1, f2, hs, h0, h1, h2⟩ : ∃ f0 f1 f2, Try.prog.underlying 35 = some (.struct #[f0, f1, f2]) ∧ f0.type = 5 ∧ f1.type = 33 ∧ f2.type = 4 :=
    ⟨(Try.prog.fieldsOf 35)[0]!, (Try.prog.fieldsOf 35)[1]!, (Try.prog.fieldsOf 35)[2]!, by kernel_rfl, by kernel_rfl, by kernel_rfl, by kernel_rfl⟩
  have hone : Deep.oneCellFields Try.prog #[f0, f1, f2] = true := by
    have e : Try.prog.underlying 35 = some (.struct (Try.prog.fieldsOf 35)) := by kernel_rfl
    rw [hs] at e
    simp only [Option.some.injEq, TypeDesc.struct.injEq] at e
    have hk : Deep.oneCellFields Try.prog (Try.prog.fieldsOf 35) = true := by kernel_rfl
    rw [e]; exact hk
  obtain ⟨c0, c1, c2, y0, y1, y2, m, rfl, rfl, rfl, q0, q1, q2⟩ := Joins.open_agg3 hs hone (by kernel_rfl) hval h
  rw [h0] at q0
  rw [h1] at q1
  rw [h2] at q2
  obtain ⟨n, hn, _, hw⟩ := DataW.trod_int (k := .u8) (by kernel_rfl) q0
  obtain ⟨a, sds, Ls, c, rfl, hL, hl, hle, hwf⟩ := open_rowsT (e := 39) (q := 159) (k := .i8) (by kernel_rfl) (by kernel_rfl) (by kernel_rfl) (by kernel_rfl) (by kernel_rfl) q1
  obtain ⟨few, hb, _⟩ := DataW.trod_bool (by kernel_rfl) q2
  simp only [List.cons.injEq, and_true] at hn hb
  subst hn; subst hb
  exact ⟨n, a, sds, Ls, c, few, rfl, wf_u8 hw, hL, fun i => ⟨hle i, fun x hx => wf_i8 (hwf i x hx)⟩, hl⟩
end Go.Proofs.Ythhfjagnmhhapaa

