
import Derived.Test.YthhfjagnmhhapaaA01
import Derived.Test.YthhfjagnmhhapaaA02
import Derived.Test.YthhfjagnmhhapaaA03
import Derived.Test.YthhfjagnmhhapaaA04
import Derived.Test.YthhfjagnmhhapaaA05
import Derived.Test.YthhfjagnmhhapaaA06
import Derived.Test.YthhfjagnmhhapaaA07
import Derived.Test.YthhfjagnmhhapaaA08
import Derived.Test.YthhfjagnmhhapaaA09
import Derived.Test.YthhfjagnmhhapaaA10
import Derived.Test.YthhfjagnmhhapaaA11
import Derived.Test.YthhfjagnmhhapaaA13
import Derived.Test.YthhfjagnmhhapaaA16
import Derived.Test.YthhfjagnmhhapaaA17
import Derived.Test.YthhfjagnmhhapaaA18
import Derived.Test.YthhfjagnmhhapaaA19
import Derived.Test.YthhfjagnmhhapaaA20
import Derived.Test.YthhfjagnmhhapaaA21
import Derived.Test.YthhfjagnmhhapaaA22
import Derived.Test.YthhfjagnmhhapaaA32
import Derived.Test.YthhfjagnmhhapaaA34

namespace Go.W
section
variable {P : Program} {S : World → Prop} {ops : List Oper} {K : Env → World → Prop} {rest : List (Oper × Option Bool)} {ρ : Env} {w : World} {kf : Bool} {d : Nat} {T : TypeId} {pos : String} {af : Array Edge}
/-- append of any slice to a slice of one's own -/
theorem k_appendL {T1 E y n cap m c : Nat} {x1 x2 : Operand} {a ad : Option Addr} {lo : Nat} {vs news : List Value} {z : Value} [hT : Slc P T1 E 1 y] [hz : Zro P E z] (h1 : ev ρ x1 = .slice a n cap) (h2 : ev ρ x2 = .slice ad m c)
    (hzs : (Nat.beq z.cells.size 1) = true) (hown : Own w lo E 1 a n cap vs) (hnews : Sl w ad news) (hl : news.length = m) (ho : news.all Value.oneCell' = true)
    (hm : n + m ≤ 9223372036854775807) (hb : (n + m) * y ≤ 140737488355328) (hlo : lo ≤ w.heap.size)
    (h : ∀ a' cap' w', Own w' lo E 1 a' (n + m) cap' (vs ++ news) → w.grownBy w' (Value.slice a n cap).ownBlock → (kf = true → S w → S w') ∧ RR P S ops K rest (upd ρ d (.slice a' (n + m) cap')) w') :
    RR P S ops K ((⟨some d, .call ⟨.builtin .append, #[x1, x2], #[T1, T1]⟩, T, pos, af, none⟩, some kf) :: rest) ρ w := by
  by_cases h0 : m = 0
  · subst h0
    have hn : news = [] := List.eq_nil_of_length_eq_zero hl
    subst hn
    have := (h a cap w (by simpa using hown) ⟨rfl, rfl, rfl, Nat.le_refl _, fun _ _ _ => rfl⟩).2
    exact k_append0 h1 h2 hown.capLe (by simpa using this)
  · exact k_append (z := z) (s := 1) (c := c) h1 h2 rfl (Nat.eq_of_beq_eq_true hzs) hown hnews (hnews.plain (by omega)) (by simpa using hl) ho hm hb hlo fun a' cap' w' h3 h4 _ => h a' cap' w' h3 h4
end
end Go.W
namespace Go.Proofs.Ythhfjagnmhhapaa
open Go.W Go.PM Go.LM
theorem inverseF_eq {n : Nat} {p : List Int} (h : PermN n p) : inverseF p = (inv p, true) := by rw [inverseF, if_pos h.1, invTo_inv h]
theorem composeF_eq {n : Nat} {p q : List Int} (hp : PermN n p) (hq : PermN n q) : composeF p q = (mulP p q, true) := by rw [composeF, if_pos ⟨by rw [hp.2, hq.2], hp.1, hq.1⟩]
theorem errC_ok {n : Nat} {gens : List (List Int)} {p : List Int} (h : errS (n : Int) gens = 0) (hp : PermN n p) : errC (n : Int) gens p = 0 := by
  rw [errC, if_pos h, if_pos]
  rw [permsB_iff]
  intro q hq
  rw [List.mem_singleton] at hq; rw [hq]; exact hp
set_option maxHeartbeats 2000000 in
theorem products_calls {pts : Int} (hp : 0 ≤ pts ∧ pts ≤ 255) {la a1 a2 : Option Addr} {sds : List SD} {Ls : List (List Int)} {word l2 : List Int} {w : World} (hL : Lists w .i8 la sds Ls) (hI : ∀ i, I8 (Ls.getD i [])) (c : Nat) (hl : Ls.length ≤ 9223372036854775807) (few : Bool)
    (hs1 : Sl w a1 (word.map (Value.int .u8))) (hw1 : ∀ x ∈ word, 0 ≤ x ∧ x ≤ 255) (c1 : Nat) (hwl : word.length ≤ 9223372036854775807) (hs2 : Sl w a2 (int8L l2)) (hi2 : I8 l2) (c2 : Nat) :
    CallsR Try.prog 6 #[.agg (permsL pts la Ls.length c few).toArray, .slice a1 word.length c1, .slice a2 l2.length c2] w fun v w' => v = .bool true ∧ Ex w w' := by
  refine callsR_of (args := [_, _, _]) Try.func6 rfl rfl ?_
  repeat' (first | (refine k_boxA rfl (fun g w1 hn1 => ⟨fun _ _ => trivial, ?_⟩)) | (refine k_pure rfl ?_) | (refine then_normal ?_) | (refine cw_seq ?_) | (refine cw_region rfl ?_) | (refine rr_nil ?_))
  have hd1 : 0 ≤ pts % 8 := Int.emod_nonneg _ (by omega)
  have hd2 : pts % 8 < 8 := Int.emod_lt_of_pos _ (by omega)
  obtain ⟨n, hn⟩ : ∃ n : Nat, 1 + pts % 8 = (n : Int) := ⟨(1 + pts % 8).toNat, by omega⟩
  have hn8 : 1 ≤ n ∧ n ≤ 8 := by omega
  refine cw_draw (late := []) (plan := [(0, none), (2, none), (1, some true), (3, some true), (4, none), (5, none)]) (fun w' => Blk w' g 35 (permsL pts la Ls.length c few)) mixed (by kernel_rfl) hn1.blk.drew ?_
  have hE1 : Ex w w1.drew := hn1.ex.drew
  repeat' (first | (refine k_loadCA rfl (fun _ h => h) rfl ?_))
  refine k_call (degree_spec hp _ _ _ _ (by omega) _) rfl ?_
  rintro v w2 ⟨rfl, hE2⟩
  refine ⟨fun _ h => h.ext hE2, ?_⟩
  rw [hn]
  refine k_call (gens_spec hp (by omega) hn (hL.ext (hE1.trans hE2)) hI _ hl few) rfl ?_
  rintro v w3 ⟨b, cc, ss, xss, rfl, hO, hx3, hG, hA, hE3⟩
  refine ⟨fun _ h => h.ext hE3, ?_⟩
  have hE03 : Ex w w3 := (hE1.trans hE2).trans hE3
  have hLs := hO.lists
  have hle := hLs.len
  rw [hle]
  have hes : errS (n : Int) xss = 0 := errS_ok hn8.1 (by omega) (by omega) hG
  have n1 : 1 ≤ n ∧ n ≤ 512 := ⟨hn8.1, by omega⟩
  have hid : identF (n : Int) = (idList n, true) := by unfold identF; rw [if_pos (by omega), Int.toNat_natCast]
  have hgrp := gen_grp n1 hG.n
  repeat' (first | (refine k_pure rfl ?_) | (refine then_normal ?_) | (refine cw_seq ?_) | (refine cw_region rfl ?_) | (refine rr_nil ?_))
  refine k_call (refIdentity_spec (n : Int) w3) rfl ?_
  rintro v w4 ⟨b4, c4, rfl, hO4, hE4⟩
  refine ⟨fun _ _ => trivial, ?_⟩
  rw [hid] at hO4 ⊢
  rw [idList_length] at hO4 ⊢
  repeat' (first | (refine k_pure rfl ?_) | (refine then_normal ?_) | (refine cw_seq ?_) | (refine cw_region rfl ?_) | (refine rr_nil ?_) | (refine k_len rfl ?_) | (refine cw_block ?_))
  refine cw_loop (ι := Nat × List Int × Option Addr × Nat) [9, 11, 12, 13, 34, 35, 36, 37, 38, 39, 40, 41, 42, 43, 44, 45, 46, 47, 48, 49, 50, 51, 52, 53, 54, 55, 56, 57, 58, 59, 60, 61, 62, 63, 64, 65, 66, 67, 68, 69] (fun s => [(34, .int .i64 (s.1 : Int)), (9, .slice s.2.2.1 n s.2.2.2)])
    (fun s w' => s.1 ≤ word.length ∧ Ex w3 w' ∧ Sl w' s.2.2.1 (intsL s.2.1) ∧ Gen n xss s.2.1) (fun s => word.length - s.1)
    (0, idList n, b4, c4) ⟨rfl, rfl, trivial⟩ ⟨Nat.zero_le _, hE4, hO4.sl, .one⟩ ?_
  rintro ⟨i, q, qa, qc⟩ ξ w5 ⟨hi, hE5, hsq, hgq⟩
  simp only at hi hsq hgq
  show CW _ _ _ _ (over [(34, .int .i64 (i : Int)), (9, .slice qa n qc)] _) w5
  have pq := hgrp.perm q hgq
  by_cases hil : i < word.length
  · have hs5 := (hs1.ext hE03).ext hE5
    have hwi := hw1 _ (getD_mem (d := 0) hil)
    by_cases h20 : i < 20
    · by_cases hx0 : 0 < xss.length
      · have hd1' : 0 ≤ word.getD i 0 / 2 % (xss.length : Int) := Int.emod_nonneg _ (by omega)
        have hd2' : word.getD i 0 / 2 % (xss.length : Int) < (xss.length : Int) := Int.emod_lt_of_pos _ (by omega)
        obtain ⟨j, hj⟩ : ∃ j : Nat, word.getD i 0 / 2 % (xss.length : Int) = (j : Int) := ⟨(word.getD i 0 / 2 % (xss.length : Int)).toNat, by omega⟩
        have hjl : j < xss.length := by omega
        have hLs5 := hLs.ext hE5
        obtain ⟨hsl, hsn⟩ := hLs5.each j hjl
        obtain ⟨⟨sa, sl, sc⟩, hsd⟩ : ∃ s, ss.getD j sd0 = s := ⟨_, rfl⟩
        rw [hsd] at hsl hsn
        simp only at hsl hsn
        have pg := hG.n _ (getD_mem (d := []) hjl)
        have hgg := gen_self hG.n (getD_mem (d := []) hjl)
        have hgl := pg.2
        obtain rfl : sl = n := by omega
        by_cases hodd : word.getD i 0 % 2 = 1
        · repeat' (first | (refine k_lssT rfl rfl (by omega) ?_) | (refine k_gtrT rfl rfl (by omega) ?_) | (refine k_indexN (j := i) rfl rfl (hs5.plain (by simp; omega)) (by omega) ?_) | (refine k_loadI rfl hs5 (by omega) ?_) | (refine k_convI rfl (wrap_i64 (by omega) (by omega)) ?_) | (refine k_quoI rfl rfl (by omega) (by omega) (by omega) ?_) | (refine k_rem rfl rfl (by omega) (by omega) ?_) | (refine k_indexN (j := j) rfl (congrArg _ hj) (hLs5.sl.plain (by simp; omega)) (by omega) ?_) | (refine k_loadSd rfl hLs5.sl (by omega) hsd ?_) | (refine k_eqT rfl rfl hodd ?_) | (refine k_pure rfl ?_) | (refine then_normal ?_) | (refine cw_seq ?_) | (refine cw_region rfl ?_) | (refine rr_nil ?_) | (refine k_len rfl ?_) | (refine g_run rfl rfl ?_) | (refine cw_cond_true rfl ?_) | (refine cw_block ?_) | (refine cw_skip ?_))
          refine k_call (refInverse_spec (xs := xss.getD j []) hsl sc) (by rw [hgl]; rfl) ?_
          rw [inverseF_eq pg]
          rintro v w6 ⟨b6, c6, rfl, hO6, hE6⟩
          refine ⟨fun _ _ => trivial, ?_⟩
          simp only at hO6 ⊢
          rw [pg.inv.2] at hO6 ⊢
          repeat' (first | (refine k_pure rfl ?_) | (refine then_normal ?_) | (refine cw_region rfl ?_) | (refine rr_nil ?_))
          refine k_call (refCompose_spec (xs := q) (ys := inv (xss.getD j [])) (hsq.ext hE6) hO6.sl qc c6) (by rw [pq.2, pg.inv.2]; rfl) ?_
          rw [composeF_eq pq pg.inv]
          rintro v w7 ⟨b7, c7, rfl, hO7, hE7⟩
          refine ⟨fun _ _ => trivial, ?_⟩
          simp only at hO7 ⊢
          rw [(pq.mul pg.inv).2] at hO7 ⊢
          repeat' (first | (refine k_pure rfl ?_) | (refine then_normal ?_) | (refine cw_region rfl ?_) | (refine rr_nil ?_) | (refine k_addI rfl rfl (by omega) (by omega) ?_) | (refine in_normal ?_))
          refine ⟨⟨(i + 1, mulP q (inv (xss.getD j [])), b7, c7), ⟨by simp only; omega, (hE5.trans hE6).trans hE7, hO7.sl, hgrp.mul _ _ hgq (hgrp.inv hgg)⟩, by simp only; omega, rfl, rfl, trivial⟩, (by (repeat (first | exact agree_mask _ _ _ | refine agree_upd rfl ?_ | refine agree_updO rfl ?_ | refine agree_overIn rfl ?_ | refine agree_maskIn rfl ?_)))⟩
        · repeat' (first | (refine k_lssT rfl rfl (by omega) ?_) | (refine k_gtrT rfl rfl (by omega) ?_) | (refine k_indexN (j := i) rfl rfl (hs5.plain (by simp; omega)) (by omega) ?_) | (refine k_loadI rfl hs5 (by omega) ?_) | (refine k_convI rfl (wrap_i64 (by omega) (by omega)) ?_) | (refine k_quoI rfl rfl (by omega) (by omega) (by omega) ?_) | (refine k_rem rfl rfl (by omega) (by omega) ?_) | (refine k_indexN (j := j) rfl (congrArg _ hj) (hLs5.sl.plain (by simp; omega)) (by omega) ?_) | (refine k_loadSd rfl hLs5.sl (by omega) hsd ?_) | (refine k_eqF rfl rfl hodd ?_) | (refine k_pure rfl ?_) | (refine then_normal ?_) | (refine cw_seq ?_) | (refine cw_region rfl ?_) | (refine rr_nil ?_) | (refine k_len rfl ?_) | (refine g_run rfl rfl ?_) | (refine cw_cond_true rfl ?_) | (refine cw_cond_false rfl ?_) | (refine cw_block ?_) | (refine cw_skip ?_))
          refine k_call (refCompose_spec (xs := q) (ys := xss.getD j []) hsq hsl qc sc) (by rw [pq.2, hgl]; rfl) ?_
          rw [composeF_eq pq pg]
          rintro v w7 ⟨b7, c7, rfl, hO7, hE7⟩
          refine ⟨fun _ _ => trivial, ?_⟩
          simp only at hO7 ⊢
          rw [(pq.mul pg).2] at hO7 ⊢
          repeat' (first | (refine k_pure rfl ?_) | (refine then_normal ?_) | (refine cw_region rfl ?_) | (refine rr_nil ?_) | (refine k_addI rfl rfl (by omega) (by omega) ?_) | (refine in_normal ?_))
          refine ⟨⟨(i + 1, mulP q (xss.getD j []), b7, c7), ⟨by simp only; omega, hE5.trans hE7, hO7.sl, hgrp.mul _ _ hgq hgg⟩, by simp only; omega, rfl, rfl, trivial⟩, (by (repeat (first | exact agree_mask _ _ _ | refine agree_upd rfl ?_ | refine agree_updO rfl ?_ | refine agree_overIn rfl ?_ | refine agree_maskIn rfl ?_)))⟩
      · repeat' (first | (refine k_lssT rfl rfl (by omega) ?_) | (refine k_gtrF rfl rfl (by omega) ?_) | (refine k_indexN (j := i) rfl rfl (hs5.plain (by simp; omega)) (by omega) ?_) | (refine k_loadI rfl hs5 (by omega) ?_) | (refine k_pure rfl ?_) | (refine then_normal ?_) | (refine cw_seq ?_) | (refine cw_region rfl ?_) | (refine rr_nil ?_) | (refine k_len rfl ?_) | (refine g_run rfl rfl ?_) | (refine k_addI rfl rfl (by omega) (by omega) ?_) | (refine cw_cond_true rfl ?_) | (refine cw_cond_false rfl ?_) | (refine cw_block ?_) | (refine in_normal ?_) | (refine cw_skip ?_))
        refine ⟨⟨(i + 1, q, qa, qc), ⟨by simp only; omega, hE5, hsq, hgq⟩, by simp only; omega, rfl, rfl, trivial⟩, (by (repeat (first | exact agree_mask _ _ _ | refine agree_upd rfl ?_ | refine agree_updO rfl ?_ | refine agree_overIn rfl ?_ | refine agree_maskIn rfl ?_)))⟩
    · repeat' (first | (refine k_lssT (m := (i : Int)) (m' := (word.length : Int)) rfl rfl (by omega) ?_) | (refine k_lssF rfl rfl (by omega) ?_) | (refine k_indexN (j := i) rfl rfl (hs5.plain (by simp; omega)) (by omega) ?_) | (refine k_loadI rfl hs5 (by omega) ?_) | (refine k_pure rfl ?_) | (refine then_normal ?_) | (refine cw_seq ?_) | (refine cw_region rfl ?_) | (refine rr_nil ?_) | (refine g_skip rfl rfl ?_) | (refine k_addI rfl rfl (by omega) (by omega) ?_) | (refine cw_cond_true rfl ?_) | (refine cw_cond_false rfl ?_) | (refine cw_block ?_) | (refine in_normal ?_) | (refine cw_skip ?_))
      refine ⟨⟨(i + 1, q, qa, qc), ⟨by simp only; omega, hE5, hsq, hgq⟩, by simp only; omega, rfl, rfl, trivial⟩, (by (repeat (first | exact agree_mask _ _ _ | refine agree_upd rfl ?_ | refine agree_updO rfl ?_ | refine agree_overIn rfl ?_ | refine agree_maskIn rfl ?_)))⟩
  · have heq := errC_ok hes pq
    repeat' (first | (refine k_lssF rfl rfl (by omega) ?_) | (refine k_pure rfl ?_) | (refine then_normal ?_) | (refine cw_seq ?_) | (refine cw_region rfl ?_) | (refine rr_nil ?_) | (refine cw_cond_false rfl ?_) | (refine cw_exit ?_) | (refine then_exit ?_) | (refine in_exit ?_))
    refine k_call (sContains_spec (n := (n : Int)) (p := q) (bc := qc) (cap := cc) (hLs.ext hE5) (by omega) (fun _ => by omega) hsq) (by rw [pq.2]; rfl) ?_
    rintro v w6 ⟨hE6, t6, rfl, ht6⟩
    refine ⟨fun _ _ => trivial, ?_⟩
    obtain rfl : t6 = true := ht6.2 ⟨heq, by rw [Int.toNat_natCast]; exact hgq⟩
    rw [heq]
    have hE36 := hE5.trans hE6
    have hP := permF_N l2 n1.1 n1.2
    repeat' (first | (refine k_pure rfl ?_) | (refine then_normal ?_) | (refine cw_seq ?_) | (refine cw_region rfl ?_) | (refine rr_nil ?_))
    refine k_call (perm_spec ((hs2.ext hE03).ext hE36) hi2 c2 n n1.1 n1.2) rfl ?_
    generalize permF l2 n = r at *
    rintro v w7 ⟨b7, c7, rfl, hO7, hE7⟩
    refine ⟨fun _ _ => trivial, ?_⟩
    have hE37 := hE36.trans hE7
    have her := errC_ok hes hP
    repeat' (first | (refine k_pure rfl ?_) | (refine then_normal ?_) | (refine cw_seq ?_) | (refine cw_region rfl ?_) | (refine rr_nil ?_))
    refine k_call (sContains_spec (n := (n : Int)) (p := r) (bc := c7) (cap := cc) (hLs.ext hE37) (by omega) (fun _ => by omega) hO7.sl) rfl ?_
    rintro v w8 ⟨hE8, t8, rfl, ht8⟩
    refine ⟨fun _ _ => trivial, ?_⟩
    rw [her, Int.toNat_natCast] at ht8
    rw [her]
    have hE38 := hE37.trans hE8
    repeat' (first | (refine k_pure rfl ?_) | (refine then_normal ?_) | (refine cw_seq ?_) | (refine cw_region rfl ?_) | (refine rr_nil ?_))
    refine k_call (sOrder_spec (n := (n : Int)) (cap := cc) (hLs.ext hE38) (by omega) (fun _ => by omega)) rfl ?_
    rintro v w9 ⟨z9, rfl, hE9, _, ho9⟩
    refine ⟨fun _ _ => trivial, ?_⟩
    obtain ⟨k9, hk9, hz9⟩ := ho9 hes
    rw [Int.toNat_natCast] at hk9
    obtain ⟨cs9, rfl, hcl9, hco9⟩ := hz9.out
    rw [hes]
    repeat' (first | (refine k_pure rfl ?_))
    refine k_allocA (vs := intL false none 0 0) (fun g10 w10 hn10 => ⟨fun _ _ => trivial, ?_⟩)
    refine k_storeV (n := 2) rfl rfl hcl9 hco9 hn10.blk rfl (fun w11 hc11 hb11 => ⟨fun _ _ => trivial, ?_⟩)
    have hX11 : Ex w8 w11 := (hE9.trans hn10.ex).chg hc11 (by have h1 := hn10.lo; have h2 := hE9.size; omega)
    have hq11 := (hz9.ext hn10.ex).chgO hc11 (hz9.off_hi hn10.lo)
    have hE311 := hE38.trans hX11
    repeat' (first | (refine k_pure rfl ?_) | (refine then_normal ?_) | (refine cw_seq ?_) | (refine cw_region rfl ?_) | (refine rr_nil ?_))
    refine k_lit0 (fun g12 w12 hn12 => ⟨fun _ _ => trivial, ?_⟩)
    have hLs12 := (hLs.ext hE311).ext hn12.ex
    have l12 := hn12.lo
    have s12 := hn12.ex.size
    have hown12 : Own w12 w11.heap.size 28 1 (some ⟨g12, 0, none⟩) 0 0 [] := hn12.blk.own (n := 0) (by simp) (Nat.zero_le _) l12
    repeat' (first | (refine k_pure rfl ?_))
    refine k_appendL (E := 28) rfl rfl rfl hown12 hLs12.sl (by simp; omega) (all_one (fun s => rfl) _) (by omega) (by omega) (by omega) (fun a13 c13 w13 ho13 hg13 => ⟨fun _ _ => trivial, ?_⟩)
    have hE1113 : Ex w11 w13 := hown12.grow_ex hg13 hn12.ex (Nat.le_refl _)
    have s13 := hE1113.size
    rw [Nat.zero_add, List.nil_append] at ho13
    rw [Nat.zero_add]
    repeat' (first | (refine k_pure rfl ?_))
    refine k_app1S rfl rfl rfl rfl ho13 (by omega) (by omega) s13 (fun g14 a14 c14 w14 ho14 hg14 hA14 => ?_)
    have hE1114 : Ex w11 w14 := ho13.grow_ex hg14 hE1113 (Nat.le_refl _)
    have hLs14 := (hLs.ext hE311).ext hE1114
    have hr14 := ((hO7.sl.ext hE8).ext hX11).ext hE1114
    have hLr : Lists w14 .i64 a14 (ss ++ [⟨b7, r.length, c7⟩]) (xss ++ [r]) := hLs14.snoc ho14.sl hr14 rfl
    have hGr := gens_snoc hG hP.2 hP.1
    have her2 : errS (n : Int) (xss ++ [r]) = 0 := errS_ok hn8.1 (by omega) (by rw [List.length_append, List.length_singleton]; omega) hGr
    refine k_call (sOrder_spec (n := (n : Int)) (cap := c14) hLr (by rw [List.length_append, List.length_singleton]; omega) (fun _ => by omega)) (by rw [List.length_append, List.length_singleton]; rfl) ?_
    rintro v w15 ⟨z15, rfl, hE15, _, ho15⟩
    refine ⟨fun _ _ => trivial, ?_⟩
    obtain ⟨k15, hk15, hz15⟩ := ho15 her2
    rw [Int.toNat_natCast] at hk15
    obtain ⟨cs15, rfl, hcl15, hco15⟩ := hz15.out
    rw [her2]
    repeat' (first | (refine k_pure rfl ?_))
    refine k_allocA (vs := intL false none 0 0) (fun g16 w16 hn16 => ⟨fun _ _ => trivial, ?_⟩)
    refine k_storeV (n := 2) rfl rfl hcl15 hco15 hn16.blk rfl (fun w17 hc17 hb17 => ⟨fun _ _ => trivial, ?_⟩)
    have hX17 : Ex w14 w17 := (hE15.trans hn16.ex).chg hc17 (by have h1 := hn16.lo; have h2 := hE15.size; omega)
    have hq17 := (hz15.ext hn16.ex).chgO hc17 (hz15.off_hi hn16.lo)
    have hX1117 := hE1114.trans hX17
    have hb1117 := hb11.ext hX1117
    have hgrp2 := gen_grp n1 hGr.n
    have hfac9 := card_fac hgrp hk9
    have hfac15 := card_fac hgrp2 hk15
    have hfm := fac_mono hn8.2
    have hf8 : fac 8 = 40320 := rfl
    have hk1 : 1 ≤ k9 := hk9.pos hgrp
    have hiff := gen_in_iff n1 hG.n hP hk9 hk15
    have ht8' : t8 = decide (((k9 : Nat) : Int) = ((k15 : Nat) : Int)) := by
      by_cases e : k9 = k15
      · rw [decide_eq_true (by rw [e])]; exact ht8.2 ⟨rfl, hiff.2 e⟩
      · rw [decide_eq_false (by omega)]
        cases t8 with
        | false => rfl
        | true => exact absurd (hiff.1 (ht8.1 rfl).2) e
    subst ht8'
    have hlag := lagrange hgrp hgrp2 (fun p hp => gen_mono (fun q hq => by simp [hq]) hp) hk9 hk15
    repeat' (first | (refine k_loadCA (g := g10) rfl hb1117 hcl9 ?_) | (refine k_pure rfl ?_) | (refine then_normal ?_) | (refine cw_seq ?_) | (refine cw_region rfl ?_) | (refine rr_nil ?_) | (refine g_run rfl rfl ?_))
    refine k_call (refSign_spec (hq11.ext hX1117)) rfl ?_
    rintro v w18 ⟨rfl, hE18⟩
    refine ⟨fun _ _ => trivial, ?_⟩
    rw [Int.sign_eq_one_of_pos (show (0 : Int) < ((k9 : Nat) : Int) by omega)]
    have hb1118 := hb1117.ext hE18
    have hb1718 := hb17.ext hE18
    repeat' (first | (refine k_loadCA (g := g10) rfl hb1118 hcl9 ?_) | (refine k_loadCA (g := g16) rfl hb1718 hcl15 ?_) | (refine k_pure rfl ?_) | (refine g_run rfl rfl ?_))
    refine k_call (refSame_spec ((hq11.ext hX1117).ext hE18) (hq17.ext hE18)) rfl ?_
    rintro v w19 ⟨rfl, hE19⟩
    refine ⟨fun _ _ => trivial, ?_⟩
    have hb1119 := hb1118.ext hE19
    have hb1719 := hb1718.ext hE19
    repeat' (first | (refine k_eqlT rfl rfl ?_) | (refine k_loadCA (g := g10) rfl hb1119 hcl9 ?_) | (refine k_loadCA (g := g16) rfl hb1719 hcl15 ?_) | (refine k_pure rfl ?_) | (refine g_run rfl rfl ?_))
    refine k_call (refDivides_small (((hq11.ext hX1117).ext hE18).ext hE19) ((hq17.ext hE18).ext hE19) (by omega) (by omega) (by omega)) rfl ?_
    rintro v w20 ⟨rfl, hE20⟩
    refine ⟨fun _ _ => trivial, ?_⟩
    rw [decide_eq_true hlag]
    repeat' (first | (refine k_pure rfl ?_) | (refine g_run rfl rfl ?_))
    refine k_call (awakeS_spec _) rfl ?_
    rintro v w21 ⟨rfl, hE21⟩
    refine ⟨fun _ _ => trivial, ?_⟩
    repeat' (first | (refine k_pure rfl ?_) | (refine then_normal ?_) | (refine rr_nil ?_) | (refine cw_ret ?_))
    exact ret1 rfl (rt rfl) ⟨rfl, (((((hE03.trans hE311).trans hX1117).trans hE18).trans hE19).trans hE20).trans hE21⟩
end Go.Proofs.Ythhfjagnmhhapaa

