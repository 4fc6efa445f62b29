
import Derived.Test.YthhfjagnmhhapaaA01
import Derived.Test.YthhfjagnmhhapaaA02
import Derived.Test.YthhfjagnmhhapaaA03
import Derived.Test.YthhfjagnmhhapaaA04
import Derived.Test.YthhfjagnmhhapaaA16
import Derived.Test.YthhfjagnmhhapaaA17
import Derived.Test.YthhfjagnmhhapaaA18
import Derived.Test.YthhfjagnmhhapaaA21

namespace Go.Proofs.Ythhfjagnmhhapaa
open Go.W Go.LM

theorem sgn_false (n : Nat) : sgn false n = n := rfl
theorem IntC.limbs {lo : Nat} {w : World} {v : Value} {n : Nat} (h : IntC lo w v (n : Int)) : ∃ a c ls, v = .agg (intL false a ls.length c).toArray ∧ Limbs w a c ls ∧ natOf ls = n ∧ Canon ls ∧ ∀ ad, a = some ad → lo ≤ ad.block := by
  obtain ⟨n1, a1, c1, l1, rfl, hL1, e1, hc1, g1, h6⟩ := h
  cases n1
  · exact ⟨a1, c1, l1, rfl, hL1, by simp only [sgn, Bool.false_eq_true, if_false] at e1; omega, hc1, h6⟩
  · exfalso
    have := trimL_zero.2 (show natOf l1 = 0 by simp [sgn] at e1; omega)
    rw [hc1] at this; exact g1 rfl this

theorem refDivide_small {la lb : List Nat} {a b : Option Addr} {c d : Nat} {w : World} (ha : Limbs w a c la) (hb : Limbs w b d lb) (h2 : la.length ≤ 2) (h3 : lb.length ≤ 2) (hpos : 0 < natOf lb) :
    CallsR Try.prog 118 #[.slice a la.length c, .slice b lb.length d] w fun v w' => ∃ a1 c1 l1 a2 c2 l2, v = .tuple #[.slice a1 (List.length l1) c1, .slice a2 (List.length l2) c2] ∧
      Limbs w' a1 c1 l1 ∧ Limbs w' a2 c2 l2 ∧ natOf l1 = natOf la / natOf lb ∧ natOf l2 = natOf la % natOf lb ∧ Ex w w' := by
  have h64a : natOf la < 18446744073709551616 := by
    have := natOf_lt ha.lim
    have := pow_mono (a := la.length) (b := 2) h2
    omega
  have h64b : natOf lb < 18446744073709551616 := by
    have := natOf_lt hb.lim
    have := pow_mono (a := lb.length) (b := 2) h3
    omega
  refine callsR_of (args := [_, _]) Try.func118 rfl rfl ?_
  repeat' (first | (refine k_leqT rfl rfl (by omega) ?_) | (refine k_pure rfl ?_) | (refine then_normal ?_) | (refine cw_seq ?_) | (refine cw_region rfl ?_) | (refine rr_nil ?_) | (refine k_len rfl ?_) | (refine g_run rfl rfl ?_) | (refine cw_cond_true rfl ?_))
  refine k_call (refLow_spec ha h2) rfl ?_
  rintro v w1 ⟨rfl, hE1⟩
  refine ⟨fun _ _ => trivial, ?_⟩
  repeat' (first | (refine k_pure rfl ?_))
  refine k_call (refLow_spec (hb.ext hE1) h3) rfl ?_
  rintro v w2 ⟨rfl, hE2⟩
  refine ⟨fun _ _ => trivial, ?_⟩
  repeat' (first | (refine k_pure rfl ?_) | (refine then_normal ?_) | (refine cw_seq ?_) | (refine rr_nil ?_))
  have hE := hE1.trans hE2
  refine cw_draw (late := [3, 8]) (plan := [(0, none), (1, none), (2, none), (5, none), (6, none), (7, none), (3, some false), (4, none), (8, some false), (9, none), (10, none), (11, none)]) (fun w' => Ex w w') mixed (by kernel_rfl) hE.drew ?_
  repeat' (first | (refine k_quoU rfl rfl (by omega) (by omega) (by omega) ?_) | (refine k_rem rfl rfl (by omega) (by omega) ?_) | (refine k_pure rfl ?_))
  refine k_call (refWord_spec (n := natOf la / natOf lb) (Nat.lt_of_le_of_lt (Nat.div_le_self _ _) h64a) false _) rfl ?_
  rintro v w3 ⟨hz3, hE3⟩
  refine ⟨fun _ h => h.trans hE3, ?_⟩
  rw [sgn_false] at hz3
  obtain ⟨a3, c3, l3, rfl, hL3, hn3, _, _⟩ := hz3.limbs
  repeat' (first | (refine k_field (ft := 22) (off := 1) (by kernel_rfl) rfl rfl ?_))
  refine k_call (refWord_spec (n := natOf la % natOf lb) (Nat.lt_of_le_of_lt (Nat.mod_le _ _) h64a) false _) rfl ?_
  rintro v w4 ⟨hz4, hE4⟩
  refine ⟨fun _ h => h.trans hE4, ?_⟩
  rw [sgn_false] at hz4
  obtain ⟨a4, c4, l4, rfl, hL4, hn4, _, _⟩ := hz4.limbs
  repeat' (first | (refine k_field (ft := 22) (off := 1) (by kernel_rfl) rfl rfl ?_) | (refine k_pure rfl ?_) | (refine then_normal ?_) | (refine rr_nil ?_) | (refine cw_ret ?_) | (refine then_ret ?_))
  exact ret2 rfl (rt rfl) (rt rfl) ⟨a3, c3, l3, a4, c4, l4, rfl, hL3.ext hE4, hL4, hn3, hn4, (hE.drew.trans hE3).trans hE4⟩

theorem refDivMod_small {lo lo' : Nat} {v1 v2 : Value} {x y : Nat} {w : World} (h1 : IntC lo w v1 x) (h2 : IntC lo' w v2 y) (hx : x < 18446744073709551616) (hy : 0 < y) (hy2 : y < 18446744073709551616) :
    CallsR Try.prog 97 #[v1, v2] w fun v w' => ∃ q r, v = .tuple #[q, r, .bool true] ∧ IntC w.heap.size w' q ((x / y : Nat) : Int) ∧ IntC w.heap.size w' r ((x % y : Nat) : Int) ∧ Ex w w' := by
  obtain ⟨a1, c1, l1, rfl, hL1, rfl, hc1, _⟩ := h1.limbs
  obtain ⟨a2, c2, l2, rfl, hL2, rfl, hc2, _⟩ := h2.limbs
  have hl1 : l1.length ≤ 2 := canon_len hc1 (by omega)
  have hl2 : l2.length ≤ 2 := canon_len hc2 (by omega)
  have hne2 : l2.length ≠ 0 := fun e => by rw [List.eq_nil_of_length_eq_zero e] at hy; simp [natOf] at hy
  have ht1 : trimL l1 = l1 := hc1
  have ht2 : trimL l2 = l2 := hc2
  refine callsR_of (args := [_, _]) Try.func97 rfl rfl ?_
  refine cw_seq ?_
  refine cw_region rfl ?_
  refine k_boxA rfl (fun g2 w2 hn2 => ⟨fun _ _ => trivial, ?_⟩)
  refine k_boxA rfl (fun g3 w3 hn3 => ⟨fun _ _ => trivial, ?_⟩)
  refine k_alloc (fun g4 w4 hn4 => ⟨fun _ _ => trivial, ?_⟩)
  refine k_alloc (fun g5 w5 hn5 => ⟨fun _ _ => trivial, ?_⟩)
  have hb2 := ((hn2.blk.ext hn3.ex).ext hn4.ex).ext hn5.ex
  have hb3 := (hn3.blk.ext hn4.ex).ext hn5.ex
  have hb4 : Blk w5 g4 24 (intL false none 0 0) := Blk.ext (cs := intL false none 0 0) hn4.blk hn5.ex
  have hb5 : Blk w5 g5 24 (intL false none 0 0) := hn5.blk
  have hE := ((hn2.ex.trans hn3.ex).trans hn4.ex).trans hn5.ex
  have l4 := hn4.lo
  have l4' := hn4.hi
  have l5 := hn5.lo
  have l5' := hn5.hi
  have s3 := (hn2.ex.trans hn3.ex).size
  repeat' (first | (refine k_pure rfl ?_) | (refine then_normal ?_) | (refine cw_seq ?_) | (refine rr_nil ?_))
  refine cw_draw (late := []) (plan := [(0, none), (1, none), (3, none), (4, none), (2, some true), (5, some true), (6, none), (7, none)]) (fun w' => Ex w5 w') mixed (by kernel_rfl) (Ex.refl w5).drew ?_
  have hE5d : Ex w5 w5.drew := (Ex.refl w5).drew
  repeat' (first | (refine k_loadC rfl (fun _ h => hb2.ext h) rfl ?_) | (refine k_loadC rfl (fun _ h => hb3.ext h) rfl ?_) | (refine k_fieldAddr rfl ?_))
  refine k_call (refTrim_spec (hL1.ext (hE.trans hE5d))) rfl ?_
  rw [ht1]
  rintro v w6 ⟨a6, c6, rfl, hL6, hf6, hE6⟩
  refine ⟨fun _ h => h.trans hE6, ?_⟩
  refine k_call (refTrim_spec (hL2.ext ((hE.trans hE5d).trans hE6))) rfl ?_
  rw [ht2]
  rintro v w7 ⟨a7, c7, rfl, hL7, hf7, hE7⟩
  refine ⟨fun _ h => h.trans hE7, ?_⟩
  have hE57 : Ex w5 w7 := (hE5d.trans hE6).trans hE7
  repeat' (first | (refine k_eqF rfl rfl (by omega) ?_) | (refine k_pure rfl ?_) | (refine then_normal ?_) | (refine cw_seq ?_) | (refine cw_region rfl ?_) | (refine rr_nil ?_) | (refine k_len rfl ?_) | (refine cw_cond_false rfl ?_) | (refine cw_skip ?_))
  refine k_call (refDivide_small (hL6.ext hE7) hL7 hl1 hl2 hy) rfl ?_
  rintro v w8 ⟨a8, c8, l8, a9, c9, l9, rfl, hL8, hL9, hq8, hq9, hE8⟩
  refine ⟨fun _ _ => trivial, ?_⟩
  have hE58 := hE57.trans hE8
  have s58 := hE58.size
  repeat' (first | (refine k_pure rfl ?_) | (refine then_normal ?_) | (refine cw_seq ?_) | (refine rr_nil ?_))
  have hEx : Ex w8 w8.drew := (Ex.refl w8).drew
  refine cw_join (ι := Nat × Nat × List Value × List Value) [11, 12, 30, 31, 32, 33, 34, 35, 36, 37, 38, 39, 40] (fun s => [(11, .pointer (some ⟨s.1, 0, none⟩)), (12, .pointer (some ⟨s.2.1, 0, none⟩))])
    (fun s w' => Ex w8 w' ∧ (w8.heap.size ≤ s.1 ∧ w8.heap.size ≤ s.2.1) ∧ Blk w' s.1 24 s.2.2.1 ∧ Blk w' s.2.1 24 s.2.2.2 ∧ s.2.2.1.length = 2 ∧ s.2.2.2.length = 2 ∧ s.2.2.1.all Value.oneCell' = true ∧ s.2.2.2.all Value.oneCell' = true ∧ IntC w8.heap.size w' (.agg s.2.2.1.toArray) ((natOf l1 / natOf l2 : Nat) : Int) ∧ IntC w8.heap.size w' (.agg s.2.2.2.toArray) ((natOf l1 % natOf l2 : Nat) : Int)) ?_ ?_
  refine cw_tree (fun w' => Ex w8 w') mixed hEx ?_
  refine rb_pre (fuel := 6) (by kernel_rfl) (by kernel_rfl) [0, 1, 2, 3, 4, 5, 7, 8, 9] _ _ (by kernel_rfl) ?_
  repeat' (first | (refine k_loadC rfl (fun _ h => (hb2.ext hE58).ext h) rfl ?_) | (refine k_loadC rfl (fun _ h => (hb3.ext hE58).ext h) rfl ?_) | (refine k_pure rfl ?_) | (refine rr_nil ?_) | (refine k_fieldAddr rfl ?_) | (refine k_neqB rfl rfl ?_))
  refine rb_all (fuel := 5) (rs := [6, 11, 12]) (by kernel_rfl) (by kernel_rfl) rfl ?_
  simp only [List.forall_mem_cons, List.not_mem_nil, false_implies, implies_true, and_true]
  refine ⟨?_, ?_, ?_⟩
  · refine k_call (refMake_spec (hL8.ext hEx) _) rfl ?_
    rintro v6 w6' ⟨hz6, hE6'⟩
    refine ⟨fun _ h => h.trans hE6', ?_⟩
    simp only [beq_self_eq_true, Bool.not_true, sgn_false, hq8] at hz6
    obtain ⟨qs, rfl, hql, hqo⟩ := hz6.out
    try have off11q : Off g11 (.agg qs.toArray) := hz6.off_lo hb11.lt
    try have off12q : Off g12 (.agg qs.toArray) := hz6.off_lo hb12.lt
    replace hz6 := hz6.mono (lo' := w8.heap.size) hEx.size
    replace hEx := hEx.trans hE6'
    try replace hb11 := hb11.ext hE6'
    try replace hb12 := hb12.ext hE6'
    refine rr_nil ?_
    refine rb_all (fuel := 4) (rs := [10, 11, 12]) (by kernel_rfl) (by kernel_rfl) rfl ?_
    simp only [List.forall_mem_cons, List.not_mem_nil, false_implies, implies_true, and_true]
    refine ⟨?_, ?_, ?_⟩
    · refine k_call (refMake_spec (hL9.ext hEx) _) rfl ?_
      rintro v10 w10' ⟨hz10, hE10'⟩
      refine ⟨fun _ h => h.trans hE10', ?_⟩
      simp only [sgn_false, hq9] at hz10
      obtain ⟨rs, rfl, hrl, hro⟩ := hz10.out
      try have off11r : Off g11 (.agg rs.toArray) := hz10.off_lo hb11.lt
      try have off12r : Off g12 (.agg rs.toArray) := hz10.off_lo hb12.lt
      replace hz10 := hz10.mono (lo' := w8.heap.size) hEx.size
      replace hz6 := hz6.ext hE10'
      replace hEx := hEx.trans hE10'
      try replace hb11 := hb11.ext hE10'
      try replace hb12 := hb12.ext hE10'
      refine rr_nil ?_
      refine rb_all (fuel := 3) (rs := [11, 12]) (by kernel_rfl) (by kernel_rfl) rfl ?_
      simp only [List.forall_mem_cons, List.not_mem_nil, false_implies, implies_true, and_true]
      refine ⟨?_, ?_⟩
      · refine k_alloc (fun g11 w11 hn11 => ⟨fun _ h => h.trans hn11.ex, ?_⟩)
        try have off11q : Off g11 (.agg qs.toArray) := hz6.off_hi hn11.lo
        try have off11r : Off g11 (.agg rs.toArray) := hz10.off_hi hn11.lo
        try have hne : g11 ≠ g12 := (by have := hb12.lt; have := hn11.lo; omega)
        have lo11 : w8.heap.size ≤ g11 := Nat.le_trans hEx.size hn11.lo
        have hb11 := hn11.blk
        replace hEx := hEx.trans hn11.ex
        try replace hz6 := hz6.ext hn11.ex
        try replace hz10 := hz10.ext hn11.ex
        try replace hb12 := hb12.ext hn11.ex
        refine rr_nil ?_
        refine rb_all (fuel := 2) (rs := [12]) (by kernel_rfl) (by kernel_rfl) rfl ?_
        rw [List.forall_mem_singleton]
        refine k_alloc (fun g12 w12 hn12 => ⟨fun _ h => h.trans hn12.ex, ?_⟩)
        try have off12q : Off g12 (.agg qs.toArray) := hz6.off_hi hn12.lo
        try have off12r : Off g12 (.agg rs.toArray) := hz10.off_hi hn12.lo
        try have hne : g11 ≠ g12 := (by have := hb11.lt; have := hn12.lo; omega)
        have lo12 : w8.heap.size ≤ g12 := Nat.le_trans hEx.size hn12.lo
        have hb12 := hn12.blk
        replace hEx := hEx.trans hn12.ex
        try replace hz6 := hz6.ext hn12.ex
        try replace hz10 := hz10.ext hn12.ex
        try replace hb11 := hb11.ext hn12.ex
        refine rr_nil ?_
        refine rb_all (fuel := 1) (rs := [13]) (by kernel_rfl) (by kernel_rfl) rfl ?_
        rw [List.forall_mem_singleton]
        refine k_storeV (n := 2) rfl rfl hql hqo hb11 (by first | rfl | assumption) (fun w13 hc13 hb11' => ⟨fun _ h => h.chg hc13 (by omega), ?_⟩)
        replace hEx := hEx.chg hc13 (by omega)
        replace hz6 := hz6.chgO hc13 off11q
        replace hz10 := hz10.chgO hc13 off11r
        replace hb11 := hb11'
        replace hb12 := hb12.chg hc13 (Ne.symm hne)
        refine rr_nil ?_
        refine rb_all (fuel := 0) (rs := [14]) (by kernel_rfl) (by kernel_rfl) rfl ?_
        rw [List.forall_mem_singleton]
        refine k_storeV (n := 2) rfl rfl hrl hro hb12 (by first | rfl | assumption) (fun w14 hc14 hb12' => ⟨fun _ h => h.chg hc14 (by omega), ?_⟩)
        replace hEx := hEx.chg hc14 (by omega)
        replace hz6 := hz6.chgO hc14 off12q
        replace hz10 := hz10.chgO hc14 off12r
        replace hb12 := hb12'
        replace hb11 := hb11.chg hc14 hne
        refine rr_nil ?_
        refine rb_done (by kernel_rfl) ?_
        exact then_normal ⟨⟨(g11, g12, qs, rs), ⟨hEx, ⟨lo11, lo12⟩, hb11, hb12, hql, hrl, hqo, hro, hz6, hz10⟩, rfl, rfl, trivial⟩, (by (repeat (first | exact agree_refl _ _ | refine agree_upd rfl ?_ | refine agree_updO rfl ?_ | refine agree_overIn rfl ?_ | refine agree_maskIn rfl ?_)))⟩
      · refine k_alloc (fun g12 w12 hn12 => ⟨fun _ h => h.trans hn12.ex, ?_⟩)
        try have off12q : Off g12 (.agg qs.toArray) := hz6.off_hi hn12.lo
        try have off12r : Off g12 (.agg rs.toArray) := hz10.off_hi hn12.lo
        try have hne : g11 ≠ g12 := (by have := hb11.lt; have := hn12.lo; omega)
        have lo12 : w8.heap.size ≤ g12 := Nat.le_trans hEx.size hn12.lo
        have hb12 := hn12.blk
        replace hEx := hEx.trans hn12.ex
        try replace hz6 := hz6.ext hn12.ex
        try replace hz10 := hz10.ext hn12.ex
        try replace hb11 := hb11.ext hn12.ex
        refine rr_nil ?_
        refine rb_all (fuel := 2) (rs := [11]) (by kernel_rfl) (by kernel_rfl) rfl ?_
        rw [List.forall_mem_singleton]
        refine k_alloc (fun g11 w11 hn11 => ⟨fun _ h => h.trans hn11.ex, ?_⟩)
        try have off11q : Off g11 (.agg qs.toArray) := hz6.off_hi hn11.lo
        try have off11r : Off g11 (.agg rs.toArray) := hz10.off_hi hn11.lo
        try have hne : g11 ≠ g12 := (by have := hb12.lt; have := hn11.lo; omega)
        have lo11 : w8.heap.size ≤ g11 := Nat.le_trans hEx.size hn11.lo
        have hb11 := hn11.blk
        replace hEx := hEx.trans hn11.ex
        try replace hz6 := hz6.ext hn11.ex
        try replace hz10 := hz10.ext hn11.ex
        try replace hb12 := hb12.ext hn11.ex
        refine rr_nil ?_
        refine rb_all (fuel := 1) (rs := [13]) (by kernel_rfl) (by kernel_rfl) rfl ?_
        rw [List.forall_mem_singleton]
        refine k_storeV (n := 2) rfl rfl hql hqo hb11 (by first | rfl | assumption) (fun w13 hc13 hb11' => ⟨fun _ h => h.chg hc13 (by omega), ?_⟩)
        replace hEx := hEx.chg hc13 (by omega)
        replace hz6 := hz6.chgO hc13 off11q
        replace hz10 := hz10.chgO hc13 off11r
        replace hb11 := hb11'
        replace hb12 := hb12.chg hc13 (Ne.symm hne)
        refine rr_nil ?_
        refine rb_all (fuel := 0) (rs := [14]) (by kernel_rfl) (by kernel_rfl) rfl ?_
        rw [List.forall_mem_singleton]
        refine k_storeV (n := 2) rfl rfl hrl hro hb12 (by first | rfl | assumption) (fun w14 hc14 hb12' => ⟨fun _ h => h.chg hc14 (by omega), ?_⟩)
        replace hEx := hEx.chg hc14 (by omega)
        replace hz6 := hz6.chgO hc14 off12q
        replace hz10 := hz10.chgO hc14 off12r
        replace hb12 := hb12'
        replace hb11 := hb11.chg hc14 hne
        refine rr_nil ?_
        refine rb_done (by kernel_rfl) ?_
        exact then_normal ⟨⟨(g11, g12, qs, rs), ⟨hEx, ⟨lo11, lo12⟩, hb11, hb12, hql, hrl, hqo, hro, hz6, hz10⟩, rfl, rfl, trivial⟩, (by (repeat (first | exact agree_refl _ _ | refine agree_upd rfl ?_ | refine agree_updO rfl ?_ | refine agree_overIn rfl ?_ | refine agree_maskIn rfl ?_)))⟩
    · refine k_alloc (fun g11 w11 hn11 => ⟨fun _ h => h.trans hn11.ex, ?_⟩)
      try have off11q : Off g11 (.agg qs.toArray) := hz6.off_hi hn11.lo
      try have off11r : Off g11 (.agg rs.toArray) := hz10.off_hi hn11.lo
      try have hne : g11 ≠ g12 := (by have := hb12.lt; have := hn11.lo; omega)
      have lo11 : w8.heap.size ≤ g11 := Nat.le_trans hEx.size hn11.lo
      have hb11 := hn11.blk
      replace hEx := hEx.trans hn11.ex
      try replace hz6 := hz6.ext hn11.ex
      try replace hz10 := hz10.ext hn11.ex
      try replace hb12 := hb12.ext hn11.ex
      refine rr_nil ?_
      refine rb_all (fuel := 3) (rs := [10, 12]) (by kernel_rfl) (by kernel_rfl) rfl ?_
      simp only [List.forall_mem_cons, List.not_mem_nil, false_implies, implies_true, and_true]
      refine ⟨?_, ?_⟩
      · refine k_call (refMake_spec (hL9.ext hEx) _) rfl ?_
        rintro v10 w10' ⟨hz10, hE10'⟩
        refine ⟨fun _ h => h.trans hE10', ?_⟩
        simp only [sgn_false, hq9] at hz10
        obtain ⟨rs, rfl, hrl, hro⟩ := hz10.out
        try have off11r : Off g11 (.agg rs.toArray) := hz10.off_lo hb11.lt
        try have off12r : Off g12 (.agg rs.toArray) := hz10.off_lo hb12.lt
        replace hz10 := hz10.mono (lo' := w8.heap.size) hEx.size
        replace hz6 := hz6.ext hE10'
        replace hEx := hEx.trans hE10'
        try replace hb11 := hb11.ext hE10'
        try replace hb12 := hb12.ext hE10'
        refine rr_nil ?_
        refine rb_all (fuel := 2) (rs := [12]) (by kernel_rfl) (by kernel_rfl) rfl ?_
        rw [List.forall_mem_singleton]
        refine k_alloc (fun g12 w12 hn12 => ⟨fun _ h => h.trans hn12.ex, ?_⟩)
        try have off12q : Off g12 (.agg qs.toArray) := hz6.off_hi hn12.lo
        try have off12r : Off g12 (.agg rs.toArray) := hz10.off_hi hn12.lo
        try have hne : g11 ≠ g12 := (by have := hb11.lt; have := hn12.lo; omega)
        have lo12 : w8.heap.size ≤ g12 := Nat.le_trans hEx.size hn12.lo
        have hb12 := hn12.blk
        replace hEx := hEx.trans hn12.ex
        try replace hz6 := hz6.ext hn12.ex
        try replace hz10 := hz10.ext hn12.ex
        try replace hb11 := hb11.ext hn12.ex
        refine rr_nil ?_
        refine rb_all (fuel := 1) (rs := [13]) (by kernel_rfl) (by kernel_rfl) rfl ?_
        rw [List.forall_mem_singleton]
        refine k_storeV (n := 2) rfl rfl hql hqo hb11 (by first | rfl | assumption) (fun w13 hc13 hb11' => ⟨fun _ h => h.chg hc13 (by omega), ?_⟩)
        replace hEx := hEx.chg hc13 (by omega)
        replace hz6 := hz6.chgO hc13 off11q
        replace hz10 := hz10.chgO hc13 off11r
        replace hb11 := hb11'
        replace hb12 := hb12.chg hc13 (Ne.symm hne)
        refine rr_nil ?_
        refine rb_all (fuel := 0) (rs := [14]) (by kernel_rfl) (by kernel_rfl) rfl ?_
        rw [List.forall_mem_singleton]
        refine k_storeV (n := 2) rfl rfl hrl hro hb12 (by first | rfl | assumption) (fun w14 hc14 hb12' => ⟨fun _ h => h.chg hc14 (by omega), ?_⟩)
        replace hEx := hEx.chg hc14 (by omega)
        replace hz6 := hz6.chgO hc14 off12q
        replace hz10 := hz10.chgO hc14 off12r
        replace hb12 := hb12'
        replace hb11 := hb11.chg hc14 hne
        refine rr_nil ?_
        refine rb_done (by kernel_rfl) ?_
        exact then_normal ⟨⟨(g11, g12, qs, rs), ⟨hEx, ⟨lo11, lo12⟩, hb11, hb12, hql, hrl, hqo, hro, hz6, hz10⟩, rfl, rfl, trivial⟩, (by (repeat (first | exact agree_refl _ _ | refine agree_upd rfl ?_ | refine agree_updO rfl ?_ | refine agree_overIn rfl ?_ | refine agree_maskIn rfl ?_)))⟩
      · refine k_alloc (fun g12 w12 hn12 => ⟨fun _ h => h.trans hn12.ex, ?_⟩)
        try have off12q : Off g12 (.agg qs.toArray) := hz6.off_hi hn12.lo
        try have off12r : Off g12 (.agg rs.toArray) := hz10.off_hi hn12.lo
        try have hne : g11 ≠ g12 := (by have := hb11.lt; have := hn12.lo; omega)
        have lo12 : w8.heap.size ≤ g12 := Nat.le_trans hEx.size hn12.lo
        have hb12 := hn12.blk
        replace hEx := hEx.trans hn12.ex
        try replace hz6 := hz6.ext hn12.ex
        try replace hz10 := hz10.ext hn12.ex
        try replace hb11 := hb11.ext hn12.ex
        refine rr_nil ?_
        refine rb_all (fuel := 2) (rs := [10]) (by kernel_rfl) (by kernel_rfl) rfl ?_
        rw [List.forall_mem_singleton]
        refine k_call (refMake_spec (hL9.ext hEx) _) rfl ?_
        rintro v10 w10' ⟨hz10, hE10'⟩
        refine ⟨fun _ h => h.trans hE10', ?_⟩
        simp only [sgn_false, hq9] at hz10
        obtain ⟨rs, rfl, hrl, hro⟩ := hz10.out
        try have off11r : Off g11 (.agg rs.toArray) := hz10.off_lo hb11.lt
        try have off12r : Off g12 (.agg rs.toArray) := hz10.off_lo hb12.lt
        replace hz10 := hz10.mono (lo' := w8.heap.size) hEx.size
        replace hz6 := hz6.ext hE10'
        replace hEx := hEx.trans hE10'
        try replace hb11 := hb11.ext hE10'
        try replace hb12 := hb12.ext hE10'
        refine rr_nil ?_
        refine rb_all (fuel := 1) (rs := [13]) (by kernel_rfl) (by kernel_rfl) rfl ?_
        rw [List.forall_mem_singleton]
        refine k_storeV (n := 2) rfl rfl hql hqo hb11 (by first | rfl | assumption) (fun w13 hc13 hb11' => ⟨fun _ h => h.chg hc13 (by omega), ?_⟩)
        replace hEx := hEx.chg hc13 (by omega)
        replace hz6 := hz6.chgO hc13 off11q
        replace hz10 := hz10.chgO hc13 off11r
        replace hb11 := hb11'
        replace hb12 := hb12.chg hc13 (Ne.symm hne)
        refine rr_nil ?_
        refine rb_all (fuel := 0) (rs := [14]) (by kernel_rfl) (by kernel_rfl) rfl ?_
        rw [List.forall_mem_singleton]
        refine k_storeV (n := 2) rfl rfl hrl hro hb12 (by first | rfl | assumption) (fun w14 hc14 hb12' => ⟨fun _ h => h.chg hc14 (by omega), ?_⟩)
        replace hEx := hEx.chg hc14 (by omega)
        replace hz6 := hz6.chgO hc14 off12q
        replace hz10 := hz10.chgO hc14 off12r
        replace hb12 := hb12'
        replace hb11 := hb11.chg hc14 hne
        refine rr_nil ?_
        refine rb_done (by kernel_rfl) ?_
        exact then_normal ⟨⟨(g11, g12, qs, rs), ⟨hEx, ⟨lo11, lo12⟩, hb11, hb12, hql, hrl, hqo, hro, hz6, hz10⟩, rfl, rfl, trivial⟩, (by (repeat (first | exact agree_refl _ _ | refine agree_upd rfl ?_ | refine agree_updO rfl ?_ | refine agree_overIn rfl ?_ | refine agree_maskIn rfl ?_)))⟩
    · refine k_alloc (fun g12 w12 hn12 => ⟨fun _ h => h.trans hn12.ex, ?_⟩)
      try have off12q : Off g12 (.agg qs.toArray) := hz6.off_hi hn12.lo
      try have off12r : Off g12 (.agg rs.toArray) := hz10.off_hi hn12.lo
      try have hne : g11 ≠ g12 := (by have := hb11.lt; have := hn12.lo; omega)
      have lo12 : w8.heap.size ≤ g12 := Nat.le_trans hEx.size hn12.lo
      have hb12 := hn12.blk
      replace hEx := hEx.trans hn12.ex
      try replace hz6 := hz6.ext hn12.ex
      try replace hz10 := hz10.ext hn12.ex
      try replace hb11 := hb11.ext hn12.ex
      refine rr_nil ?_
      refine rb_all (fuel := 3) (rs := [10, 11]) (by kernel_rfl) (by kernel_rfl) rfl ?_
      simp only [List.forall_mem_cons, List.not_mem_nil, false_implies, implies_true, and_true]
      refine ⟨?_, ?_⟩
      · refine k_call (refMake_spec (hL9.ext hEx) _) rfl ?_
        rintro v10 w10' ⟨hz10, hE10'⟩
        refine ⟨fun _ h => h.trans hE10', ?_⟩
        simp only [sgn_false, hq9] at hz10
        obtain ⟨rs, rfl, hrl, hro⟩ := hz10.out
        try have off11r : Off g11 (.agg rs.toArray) := hz10.off_lo hb11.lt
        try have off12r : Off g12 (.agg rs.toArray) := hz10.off_lo hb12.lt
        replace hz10 := hz10.mono (lo' := w8.heap.size) hEx.size
        replace hz6 := hz6.ext hE10'
        replace hEx := hEx.trans hE10'
        try replace hb11 := hb11.ext hE10'
        try replace hb12 := hb12.ext hE10'
        refine rr_nil ?_
        refine rb_all (fuel := 2) (rs := [11]) (by kernel_rfl) (by kernel_rfl) rfl ?_
        rw [List.forall_mem_singleton]
        refine k_alloc (fun g11 w11 hn11 => ⟨fun _ h => h.trans hn11.ex, ?_⟩)
        try have off11q : Off g11 (.agg qs.toArray) := hz6.off_hi hn11.lo
        try have off11r : Off g11 (.agg rs.toArray) := hz10.off_hi hn11.lo
        try have hne : g11 ≠ g12 := (by have := hb12.lt; have := hn11.lo; omega)
        have lo11 : w8.heap.size ≤ g11 := Nat.le_trans hEx.size hn11.lo
        have hb11 := hn11.blk
        replace hEx := hEx.trans hn11.ex
        try replace hz6 := hz6.ext hn11.ex
        try replace hz10 := hz10.ext hn11.ex
        try replace hb12 := hb12.ext hn11.ex
        refine rr_nil ?_
        refine rb_all (fuel := 1) (rs := [13]) (by kernel_rfl) (by kernel_rfl) rfl ?_
        rw [List.forall_mem_singleton]
        refine k_storeV (n := 2) rfl rfl hql hqo hb11 (by first | rfl | assumption) (fun w13 hc13 hb11' => ⟨fun _ h => h.chg hc13 (by omega), ?_⟩)
        replace hEx := hEx.chg hc13 (by omega)
        replace hz6 := hz6.chgO hc13 off11q
        replace hz10 := hz10.chgO hc13 off11r
        replace hb11 := hb11'
        replace hb12 := hb12.chg hc13 (Ne.symm hne)
        refine rr_nil ?_
        refine rb_all (fuel := 0) (rs := [14]) (by kernel_rfl) (by kernel_rfl) rfl ?_
        rw [List.forall_mem_singleton]
        refine k_storeV (n := 2) rfl rfl hrl hro hb12 (by first | rfl | assumption) (fun w14 hc14 hb12' => ⟨fun _ h => h.chg hc14 (by omega), ?_⟩)
        replace hEx := hEx.chg hc14 (by omega)
        replace hz6 := hz6.chgO hc14 off12q
        replace hz10 := hz10.chgO hc14 off12r
        replace hb12 := hb12'
        replace hb11 := hb11.chg hc14 hne
        refine rr_nil ?_
        refine rb_done (by kernel_rfl) ?_
        exact then_normal ⟨⟨(g11, g12, qs, rs), ⟨hEx, ⟨lo11, lo12⟩, hb11, hb12, hql, hrl, hqo, hro, hz6, hz10⟩, rfl, rfl, trivial⟩, (by (repeat (first | exact agree_refl _ _ | refine agree_upd rfl ?_ | refine agree_updO rfl ?_ | refine agree_overIn rfl ?_ | refine agree_maskIn rfl ?_)))⟩
      · refine k_alloc (fun g11 w11 hn11 => ⟨fun _ h => h.trans hn11.ex, ?_⟩)
        try have off11q : Off g11 (.agg qs.toArray) := hz6.off_hi hn11.lo
        try have off11r : Off g11 (.agg rs.toArray) := hz10.off_hi hn11.lo
        try have hne : g11 ≠ g12 := (by have := hb12.lt; have := hn11.lo; omega)
        have lo11 : w8.heap.size ≤ g11 := Nat.le_trans hEx.size hn11.lo
        have hb11 := hn11.blk
        replace hEx := hEx.trans hn11.ex
        try replace hz6 := hz6.ext hn11.ex
        try replace hz10 := hz10.ext hn11.ex
        try replace hb12 := hb12.ext hn11.ex
        refine rr_nil ?_
        refine rb_all (fuel := 2) (rs := [10]) (by kernel_rfl) (by kernel_rfl) rfl ?_
        rw [List.forall_mem_singleton]
        refine k_call (refMake_spec (hL9.ext hEx) _) rfl ?_
        rintro v10 w10' ⟨hz10, hE10'⟩
        refine ⟨fun _ h => h.trans hE10', ?_⟩
        simp only [sgn_false, hq9] at hz10
        obtain ⟨rs, rfl, hrl, hro⟩ := hz10.out
        try have off11r : Off g11 (.agg rs.toArray) := hz10.off_lo hb11.lt
        try have off12r : Off g12 (.agg rs.toArray) := hz10.off_lo hb12.lt
        replace hz10 := hz10.mono (lo' := w8.heap.size) hEx.size
        replace hz6 := hz6.ext hE10'
        replace hEx := hEx.trans hE10'
        try replace hb11 := hb11.ext hE10'
        try replace hb12 := hb12.ext hE10'
        refine rr_nil ?_
        refine rb_all (fuel := 1) (rs := [13]) (by kernel_rfl) (by kernel_rfl) rfl ?_
        rw [List.forall_mem_singleton]
        refine k_storeV (n := 2) rfl rfl hql hqo hb11 (by first | rfl | assumption) (fun w13 hc13 hb11' => ⟨fun _ h => h.chg hc13 (by omega), ?_⟩)
        replace hEx := hEx.chg hc13 (by omega)
        replace hz6 := hz6.chgO hc13 off11q
        replace hz10 := hz10.chgO hc13 off11r
        replace hb11 := hb11'
        replace hb12 := hb12.chg hc13 (Ne.symm hne)
        refine rr_nil ?_
        refine rb_all (fuel := 0) (rs := [14]) (by kernel_rfl) (by kernel_rfl) rfl ?_
        rw [List.forall_mem_singleton]
        refine k_storeV (n := 2) rfl rfl hrl hro hb12 (by first | rfl | assumption) (fun w14 hc14 hb12' => ⟨fun _ h => h.chg hc14 (by omega), ?_⟩)
        replace hEx := hEx.chg hc14 (by omega)
        replace hz6 := hz6.chgO hc14 off12q
        replace hz10 := hz10.chgO hc14 off12r
        replace hb12 := hb12'
        replace hb11 := hb11.chg hc14 hne
        refine rr_nil ?_
        refine rb_done (by kernel_rfl) ?_
        exact then_normal ⟨⟨(g11, g12, qs, rs), ⟨hEx, ⟨lo11, lo12⟩, hb11, hb12, hql, hrl, hqo, hro, hz6, hz10⟩, rfl, rfl, trivial⟩, (by (repeat (first | exact agree_refl _ _ | refine agree_upd rfl ?_ | refine agree_updO rfl ?_ | refine agree_overIn rfl ?_ | refine agree_maskIn rfl ?_)))⟩
  · refine k_alloc (fun g11 w11 hn11 => ⟨fun _ h => h.trans hn11.ex, ?_⟩)
    try have off11q : Off g11 (.agg qs.toArray) := hz6.off_hi hn11.lo
    try have off11r : Off g11 (.agg rs.toArray) := hz10.off_hi hn11.lo
    try have hne : g11 ≠ g12 := (by have := hb12.lt; have := hn11.lo; omega)
    have lo11 : w8.heap.size ≤ g11 := Nat.le_trans hEx.size hn11.lo
    have hb11 := hn11.blk
    replace hEx := hEx.trans hn11.ex
    try replace hz6 := hz6.ext hn11.ex
    try replace hz10 := hz10.ext hn11.ex
    try replace hb12 := hb12.ext hn11.ex
    refine rr_nil ?_
    refine rb_all (fuel := 4) (rs := [6, 12]) (by kernel_rfl) (by kernel_rfl) rfl ?_
    simp only [List.forall_mem_cons, List.not_mem_nil, false_implies, implies_true, and_true]
    refine ⟨?_, ?_⟩
    · refine k_call (refMake_spec (hL8.ext hEx) _) rfl ?_
      rintro v6 w6' ⟨hz6, hE6'⟩
      refine ⟨fun _ h => h.trans hE6', ?_⟩
      simp only [beq_self_eq_true, Bool.not_true, sgn_false, hq8] at hz6
      obtain ⟨qs, rfl, hql, hqo⟩ := hz6.out
      try have off11q : Off g11 (.agg qs.toArray) := hz6.off_lo hb11.lt
      try have off12q : Off g12 (.agg qs.toArray) := hz6.off_lo hb12.lt
      replace hz6 := hz6.mono (lo' := w8.heap.size) hEx.size
      replace hEx := hEx.trans hE6'
      try replace hb11 := hb11.ext hE6'
      try replace hb12 := hb12.ext hE6'
      refine rr_nil ?_
      refine rb_all (fuel := 3) (rs := [10, 12]) (by kernel_rfl) (by kernel_rfl) rfl ?_
      simp only [List.forall_mem_cons, List.not_mem_nil, false_implies, implies_true, and_true]
      refine ⟨?_, ?_⟩
      · refine k_call (refMake_spec (hL9.ext hEx) _) rfl ?_
        rintro v10 w10' ⟨hz10, hE10'⟩
        refine ⟨fun _ h => h.trans hE10', ?_⟩
        simp only [sgn_false, hq9] at hz10
        obtain ⟨rs, rfl, hrl, hro⟩ := hz10.out
        try have off11r : Off g11 (.agg rs.toArray) := hz10.off_lo hb11.lt
        try have off12r : Off g12 (.agg rs.toArray) := hz10.off_lo hb12.lt
        replace hz10 := hz10.mono (lo' := w8.heap.size) hEx.size
        replace hz6 := hz6.ext hE10'
        replace hEx := hEx.trans hE10'
        try replace hb11 := hb11.ext hE10'
        try replace hb12 := hb12.ext hE10'
        refine rr_nil ?_
        refine rb_all (fuel := 2) (rs := [12]) (by kernel_rfl) (by kernel_rfl) rfl ?_
        rw [List.forall_mem_singleton]
        refine k_alloc (fun g12 w12 hn12 => ⟨fun _ h => h.trans hn12.ex, ?_⟩)
        try have off12q : Off g12 (.agg qs.toArray) := hz6.off_hi hn12.lo
        try have off12r : Off g12 (.agg rs.toArray) := hz10.off_hi hn12.lo
        try have hne : g11 ≠ g12 := (by have := hb11.lt; have := hn12.lo; omega)
        have lo12 : w8.heap.size ≤ g12 := Nat.le_trans hEx.size hn12.lo
        have hb12 := hn12.blk
        replace hEx := hEx.trans hn12.ex
        try replace hz6 := hz6.ext hn12.ex
        try replace hz10 := hz10.ext hn12.ex
        try replace hb11 := hb11.ext hn12.ex
        refine rr_nil ?_
        refine rb_all (fuel := 1) (rs := [13]) (by kernel_rfl) (by kernel_rfl) rfl ?_
        rw [List.forall_mem_singleton]
        refine k_storeV (n := 2) rfl rfl hql hqo hb11 (by first | rfl | assumption) (fun w13 hc13 hb11' => ⟨fun _ h => h.chg hc13 (by omega), ?_⟩)
        replace hEx := hEx.chg hc13 (by omega)
        replace hz6 := hz6.chgO hc13 off11q
        replace hz10 := hz10.chgO hc13 off11r
        replace hb11 := hb11'
        replace hb12 := hb12.chg hc13 (Ne.symm hne)
        refine rr_nil ?_
        refine rb_all (fuel := 0) (rs := [14]) (by kernel_rfl) (by kernel_rfl) rfl ?_
        rw [List.forall_mem_singleton]
        refine k_storeV (n := 2) rfl rfl hrl hro hb12 (by first | rfl | assumption) (fun w14 hc14 hb12' => ⟨fun _ h => h.chg hc14 (by omega), ?_⟩)
        replace hEx := hEx.chg hc14 (by omega)
        replace hz6 := hz6.chgO hc14 off12q
        replace hz10 := hz10.chgO hc14 off12r
        replace hb12 := hb12'
        replace hb11 := hb11.chg hc14 hne
        refine rr_nil ?_
        refine rb_done (by kernel_rfl) ?_
        exact then_normal ⟨⟨(g11, g12, qs, rs), ⟨hEx, ⟨lo11, lo12⟩, hb11, hb12, hql, hrl, hqo, hro, hz6, hz10⟩, rfl, rfl, trivial⟩, (by (repeat (first | exact agree_refl _ _ | refine agree_upd rfl ?_ | refine agree_updO rfl ?_ | refine agree_overIn rfl ?_ | refine agree_maskIn rfl ?_)))⟩
      · refine k_alloc (fun g12 w12 hn12 => ⟨fun _ h => h.trans hn12.ex, ?_⟩)
        try have off12q : Off g12 (.agg qs.toArray) := hz6.off_hi hn12.lo
        try have off12r : Off g12 (.agg rs.toArray) := hz10.off_hi hn12.lo
        try have hne : g11 ≠ g12 := (by have := hb11.lt; have := hn12.lo; omega)
        have lo12 : w8.heap.size ≤ g12 := Nat.le_trans hEx.size hn12.lo
        have hb12 := hn12.blk
        replace hEx := hEx.trans hn12.ex
        try replace hz6 := hz6.ext hn12.ex
        try replace hz10 := hz10.ext hn12.ex
        try replace hb11 := hb11.ext hn12.ex
        refine rr_nil ?_
        refine rb_all (fuel := 2) (rs := [10]) (by kernel_rfl) (by kernel_rfl) rfl ?_
        rw [List.forall_mem_singleton]
        refine k_call (refMake_spec (hL9.ext hEx) _) rfl ?_
        rintro v10 w10' ⟨hz10, hE10'⟩
        refine ⟨fun _ h => h.trans hE10', ?_⟩
        simp only [sgn_false, hq9] at hz10
        obtain ⟨rs, rfl, hrl, hro⟩ := hz10.out
        try have off11r : Off g11 (.agg rs.toArray) := hz10.off_lo hb11.lt
        try have off12r : Off g12 (.agg rs.toArray) := hz10.off_lo hb12.lt
        replace hz10 := hz10.mono (lo' := w8.heap.size) hEx.size
        replace hz6 := hz6.ext hE10'
        replace hEx := hEx.trans hE10'
        try replace hb11 := hb11.ext hE10'
        try replace hb12 := hb12.ext hE10'
        refine rr_nil ?_
        refine rb_all (fuel := 1) (rs := [13]) (by kernel_rfl) (by kernel_rfl) rfl ?_
        rw [List.forall_mem_singleton]
        refine k_storeV (n := 2) rfl rfl hql hqo hb11 (by first | rfl | assumption) (fun w13 hc13 hb11' => ⟨fun _ h => h.chg hc13 (by omega), ?_⟩)
        replace hEx := hEx.chg hc13 (by omega)
        replace hz6 := hz6.chgO hc13 off11q
        replace hz10 := hz10.chgO hc13 off11r
        replace hb11 := hb11'
        replace hb12 := hb12.chg hc13 (Ne.symm hne)
        refine rr_nil ?_
        refine rb_all (fuel := 0) (rs := [14]) (by kernel_rfl) (by kernel_rfl) rfl ?_
        rw [List.forall_mem_singleton]
        refine k_storeV (n := 2) rfl rfl hrl hro hb12 (by first | rfl | assumption) (fun w14 hc14 hb12' => ⟨fun _ h => h.chg hc14 (by omega), ?_⟩)
        replace hEx := hEx.chg hc14 (by omega)
        replace hz6 := hz6.chgO hc14 off12q
        replace hz10 := hz10.chgO hc14 off12r
        replace hb12 := hb12'
        replace hb11 := hb11.chg hc14 hne
        refine rr_nil ?_
        refine rb_done (by kernel_rfl) ?_
        exact then_normal ⟨⟨(g11, g12, qs, rs), ⟨hEx, ⟨lo11, lo12⟩, hb11, hb12, hql, hrl, hqo, hro, hz6, hz10⟩, rfl, rfl, trivial⟩, (by (repeat (first | exact agree_refl _ _ | refine agree_upd rfl ?_ | refine agree_updO rfl ?_ | refine agree_overIn rfl ?_ | refine agree_maskIn rfl ?_)))⟩
    · refine k_alloc (fun g12 w12 hn12 => ⟨fun _ h => h.trans hn12.ex, ?_⟩)
      try have off12q : Off g12 (.agg qs.toArray) := hz6.off_hi hn12.lo
      try have off12r : Off g12 (.agg rs.toArray) := hz10.off_hi hn12.lo
      try have hne : g11 ≠ g12 := (by have := hb11.lt; have := hn12.lo; omega)
      have lo12 : w8.heap.size ≤ g12 := Nat.le_trans hEx.size hn12.lo
      have hb12 := hn12.blk
      replace hEx := hEx.trans hn12.ex
      try replace hz6 := hz6.ext hn12.ex
      try replace hz10 := hz10.ext hn12.ex
      try replace hb11 := hb11.ext hn12.ex
      refine rr_nil ?_
      refine rb_all (fuel := 3) (rs := [6]) (by kernel_rfl) (by kernel_rfl) rfl ?_
      rw [List.forall_mem_singleton]
      refine k_call (refMake_spec (hL8.ext hEx) _) rfl ?_
      rintro v6 w6' ⟨hz6, hE6'⟩
      refine ⟨fun _ h => h.trans hE6', ?_⟩
      simp only [beq_self_eq_true, Bool.not_true, sgn_false, hq8] at hz6
      obtain ⟨qs, rfl, hql, hqo⟩ := hz6.out
      try have off11q : Off g11 (.agg qs.toArray) := hz6.off_lo hb11.lt
      try have off12q : Off g12 (.agg qs.toArray) := hz6.off_lo hb12.lt
      replace hz6 := hz6.mono (lo' := w8.heap.size) hEx.size
      replace hEx := hEx.trans hE6'
      try replace hb11 := hb11.ext hE6'
      try replace hb12 := hb12.ext hE6'
      refine rr_nil ?_
      refine rb_all (fuel := 2) (rs := [10]) (by kernel_rfl) (by kernel_rfl) rfl ?_
      rw [List.forall_mem_singleton]
      refine k_call (refMake_spec (hL9.ext hEx) _) rfl ?_
      rintro v10 w10' ⟨hz10, hE10'⟩
      refine ⟨fun _ h => h.trans hE10', ?_⟩
      simp only [sgn_false, hq9] at hz10
      obtain ⟨rs, rfl, hrl, hro⟩ := hz10.out
      try have off11r : Off g11 (.agg rs.toArray) := hz10.off_lo hb11.lt
      try have off12r : Off g12 (.agg rs.toArray) := hz10.off_lo hb12.lt
      replace hz10 := hz10.mono (lo' := w8.heap.size) hEx.size
      replace hz6 := hz6.ext hE10'
      replace hEx := hEx.trans hE10'
      try replace hb11 := hb11.ext hE10'
      try replace hb12 := hb12.ext hE10'
      refine rr_nil ?_
      refine rb_all (fuel := 1) (rs := [13]) (by kernel_rfl) (by kernel_rfl) rfl ?_
      rw [List.forall_mem_singleton]
      refine k_storeV (n := 2) rfl rfl hql hqo hb11 (by first | rfl | assumption) (fun w13 hc13 hb11' => ⟨fun _ h => h.chg hc13 (by omega), ?_⟩)
      replace hEx := hEx.chg hc13 (by omega)
      replace hz6 := hz6.chgO hc13 off11q
      replace hz10 := hz10.chgO hc13 off11r
      replace hb11 := hb11'
      replace hb12 := hb12.chg hc13 (Ne.symm hne)
      refine rr_nil ?_
      refine rb_all (fuel := 0) (rs := [14]) (by kernel_rfl) (by kernel_rfl) rfl ?_
      rw [List.forall_mem_singleton]
      refine k_storeV (n := 2) rfl rfl hrl hro hb12 (by first | rfl | assumption) (fun w14 hc14 hb12' => ⟨fun _ h => h.chg hc14 (by omega), ?_⟩)
      replace hEx := hEx.chg hc14 (by omega)
      replace hz6 := hz6.chgO hc14 off12q
      replace hz10 := hz10.chgO hc14 off12r
      replace hb12 := hb12'
      replace hb11 := hb11.chg hc14 hne
      refine rr_nil ?_
      refine rb_done (by kernel_rfl) ?_
      exact then_normal ⟨⟨(g11, g12, qs, rs), ⟨hEx, ⟨lo11, lo12⟩, hb11, hb12, hql, hrl, hqo, hro, hz6, hz10⟩, rfl, rfl, trivial⟩, (by (repeat (first | exact agree_refl _ _ | refine agree_upd rfl ?_ | refine agree_updO rfl ?_ | refine agree_overIn rfl ?_ | refine agree_maskIn rfl ?_)))⟩
  · refine k_alloc (fun g12 w12 hn12 => ⟨fun _ h => h.trans hn12.ex, ?_⟩)
    try have off12q : Off g12 (.agg qs.toArray) := hz6.off_hi hn12.lo
    try have off12r : Off g12 (.agg rs.toArray) := hz10.off_hi hn12.lo
    try have hne : g11 ≠ g12 := (by have := hb11.lt; have := hn12.lo; omega)
    have lo12 : w8.heap.size ≤ g12 := Nat.le_trans hEx.size hn12.lo
    have hb12 := hn12.blk
    replace hEx := hEx.trans hn12.ex
    try replace hz6 := hz6.ext hn12.ex
    try replace hz10 := hz10.ext hn12.ex
    try replace hb11 := hb11.ext hn12.ex
    refine rr_nil ?_
    refine rb_all (fuel := 4) (rs := [6, 11]) (by kernel_rfl) (by kernel_rfl) rfl ?_
    simp only [List.forall_mem_cons, List.not_mem_nil, false_implies, implies_true, and_true]
    refine ⟨?_, ?_⟩
    · refine k_call (refMake_spec (hL8.ext hEx) _) rfl ?_
      rintro v6 w6' ⟨hz6, hE6'⟩
      refine ⟨fun _ h => h.trans hE6', ?_⟩
      simp only [beq_self_eq_true, Bool.not_true, sgn_false, hq8] at hz6
      obtain ⟨qs, rfl, hql, hqo⟩ := hz6.out
      try have off11q : Off g11 (.agg qs.toArray) := hz6.off_lo hb11.lt
      try have off12q : Off g12 (.agg qs.toArray) := hz6.off_lo hb12.lt
      replace hz6 := hz6.mono (lo' := w8.heap.size) hEx.size
      replace hEx := hEx.trans hE6'
      try replace hb11 := hb11.ext hE6'
      try replace hb12 := hb12.ext hE6'
      refine rr_nil ?_
      refine rb_all (fuel := 3) (rs := [10, 11]) (by kernel_rfl) (by kernel_rfl) rfl ?_
      simp only [List.forall_mem_cons, List.not_mem_nil, false_implies, implies_true, and_true]
      refine ⟨?_, ?_⟩
      · refine k_call (refMake_spec (hL9.ext hEx) _) rfl ?_
        rintro v10 w10' ⟨hz10, hE10'⟩
        refine ⟨fun _ h => h.trans hE10', ?_⟩
        simp only [sgn_false, hq9] at hz10
        obtain ⟨rs, rfl, hrl, hro⟩ := hz10.out
        try have off11r : Off g11 (.agg rs.toArray) := hz10.off_lo hb11.lt
        try have off12r : Off g12 (.agg rs.toArray) := hz10.off_lo hb12.lt
        replace hz10 := hz10.mono (lo' := w8.heap.size) hEx.size
        replace hz6 := hz6.ext hE10'
        replace hEx := hEx.trans hE10'
        try replace hb11 := hb11.ext hE10'
        try replace hb12 := hb12.ext hE10'
        refine rr_nil ?_
        refine rb_all (fuel := 2) (rs := [11]) (by kernel_rfl) (by kernel_rfl) rfl ?_
        rw [List.forall_mem_singleton]
        refine k_alloc (fun g11 w11 hn11 => ⟨fun _ h => h.trans hn11.ex, ?_⟩)
        try have off11q : Off g11 (.agg qs.toArray) := hz6.off_hi hn11.lo
        try have off11r : Off g11 (.agg rs.toArray) := hz10.off_hi hn11.lo
        try have hne : g11 ≠ g12 := (by have := hb12.lt; have := hn11.lo; omega)
        have lo11 : w8.heap.size ≤ g11 := Nat.le_trans hEx.size hn11.lo
        have hb11 := hn11.blk
        replace hEx := hEx.trans hn11.ex
        try replace hz6 := hz6.ext hn11.ex
        try replace hz10 := hz10.ext hn11.ex
        try replace hb12 := hb12.ext hn11.ex
        refine rr_nil ?_
        refine rb_all (fuel := 1) (rs := [13]) (by kernel_rfl) (by kernel_rfl) rfl ?_
        rw [List.forall_mem_singleton]
        refine k_storeV (n := 2) rfl rfl hql hqo hb11 (by first | rfl | assumption) (fun w13 hc13 hb11' => ⟨fun _ h => h.chg hc13 (by omega), ?_⟩)
        replace hEx := hEx.chg hc13 (by omega)
        replace hz6 := hz6.chgO hc13 off11q
        replace hz10 := hz10.chgO hc13 off11r
        replace hb11 := hb11'
        replace hb12 := hb12.chg hc13 (Ne.symm hne)
        refine rr_nil ?_
        refine rb_all (fuel := 0) (rs := [14]) (by kernel_rfl) (by kernel_rfl) rfl ?_
        rw [List.forall_mem_singleton]
        refine k_storeV (n := 2) rfl rfl hrl hro hb12 (by first | rfl | assumption) (fun w14 hc14 hb12' => ⟨fun _ h => h.chg hc14 (by omega), ?_⟩)
        replace hEx := hEx.chg hc14 (by omega)
        replace hz6 := hz6.chgO hc14 off12q
        replace hz10 := hz10.chgO hc14 off12r
        replace hb12 := hb12'
        replace hb11 := hb11.chg hc14 hne
        refine rr_nil ?_
        refine rb_done (by kernel_rfl) ?_
        exact then_normal ⟨⟨(g11, g12, qs, rs), ⟨hEx, ⟨lo11, lo12⟩, hb11, hb12, hql, hrl, hqo, hro, hz6, hz10⟩, rfl, rfl, trivial⟩, (by (repeat (first | exact agree_refl _ _ | refine agree_upd rfl ?_ | refine agree_updO rfl ?_ | refine agree_overIn rfl ?_ | refine agree_maskIn rfl ?_)))⟩
      · refine k_alloc (fun g11 w11 hn11 => ⟨fun _ h => h.trans hn11.ex, ?_⟩)
        try have off11q : Off g11 (.agg qs.toArray) := hz6.off_hi hn11.lo
        try have off11r : Off g11 (.agg rs.toArray) := hz10.off_hi hn11.lo
        try have hne : g11 ≠ g12 := (by have := hb12.lt; have := hn11.lo; omega)
        have lo11 : w8.heap.size ≤ g11 := Nat.le_trans hEx.size hn11.lo
        have hb11 := hn11.blk
        replace hEx := hEx.trans hn11.ex
        try replace hz6 := hz6.ext hn11.ex
        try replace hz10 := hz10.ext hn11.ex
        try replace hb12 := hb12.ext hn11.ex
        refine rr_nil ?_
        refine rb_all (fuel := 2) (rs := [10]) (by kernel_rfl) (by kernel_rfl) rfl ?_
        rw [List.forall_mem_singleton]
        refine k_call (refMake_spec (hL9.ext hEx) _) rfl ?_
        rintro v10 w10' ⟨hz10, hE10'⟩
        refine ⟨fun _ h => h.trans hE10', ?_⟩
        simp only [sgn_false, hq9] at hz10
        obtain ⟨rs, rfl, hrl, hro⟩ := hz10.out
        try have off11r : Off g11 (.agg rs.toArray) := hz10.off_lo hb11.lt
        try have off12r : Off g12 (.agg rs.toArray) := hz10.off_lo hb12.lt
        replace hz10 := hz10.mono (lo' := w8.heap.size) hEx.size
        replace hz6 := hz6.ext hE10'
        replace hEx := hEx.trans hE10'
        try replace hb11 := hb11.ext hE10'
        try replace hb12 := hb12.ext hE10'
        refine rr_nil ?_
        refine rb_all (fuel := 1) (rs := [13]) (by kernel_rfl) (by kernel_rfl) rfl ?_
        rw [List.forall_mem_singleton]
        refine k_storeV (n := 2) rfl rfl hql hqo hb11 (by first | rfl | assumption) (fun w13 hc13 hb11' => ⟨fun _ h => h.chg hc13 (by omega), ?_⟩)
        replace hEx := hEx.chg hc13 (by omega)
        replace hz6 := hz6.chgO hc13 off11q
        replace hz10 := hz10.chgO hc13 off11r
        replace hb11 := hb11'
        replace hb12 := hb12.chg hc13 (Ne.symm hne)
        refine rr_nil ?_
        refine rb_all (fuel := 0) (rs := [14]) (by kernel_rfl) (by kernel_rfl) rfl ?_
        rw [List.forall_mem_singleton]
        refine k_storeV (n := 2) rfl rfl hrl hro hb12 (by first | rfl | assumption) (fun w14 hc14 hb12' => ⟨fun _ h => h.chg hc14 (by omega), ?_⟩)
        replace hEx := hEx.chg hc14 (by omega)
        replace hz6 := hz6.chgO hc14 off12q
        replace hz10 := hz10.chgO hc14 off12r
        replace hb12 := hb12'
        replace hb11 := hb11.chg hc14 hne
        refine rr_nil ?_
        refine rb_done (by kernel_rfl) ?_
        exact then_normal ⟨⟨(g11, g12, qs, rs), ⟨hEx, ⟨lo11, lo12⟩, hb11, hb12, hql, hrl, hqo, hro, hz6, hz10⟩, rfl, rfl, trivial⟩, (by (repeat (first | exact agree_refl _ _ | refine agree_upd rfl ?_ | refine agree_updO rfl ?_ | refine agree_overIn rfl ?_ | refine agree_maskIn rfl ?_)))⟩
    · refine k_alloc (fun g11 w11 hn11 => ⟨fun _ h => h.trans hn11.ex, ?_⟩)
      try have off11q : Off g11 (.agg qs.toArray) := hz6.off_hi hn11.lo
      try have off11r : Off g11 (.agg rs.toArray) := hz10.off_hi hn11.lo
      try have hne : g11 ≠ g12 := (by have := hb12.lt; have := hn11.lo; omega)
      have lo11 : w8.heap.size ≤ g11 := Nat.le_trans hEx.size hn11.lo
      have hb11 := hn11.blk
      replace hEx := hEx.trans hn11.ex
      try replace hz6 := hz6.ext hn11.ex
      try replace hz10 := hz10.ext hn11.ex
      try replace hb12 := hb12.ext hn11.ex
      refine rr_nil ?_
      refine rb_all (fuel := 3) (rs := [6]) (by kernel_rfl) (by kernel_rfl) rfl ?_
      rw [List.forall_mem_singleton]
      refine k_call (refMake_spec (hL8.ext hEx) _) rfl ?_
      rintro v6 w6' ⟨hz6, hE6'⟩
      refine ⟨fun _ h => h.trans hE6', ?_⟩
      simp only [beq_self_eq_true, Bool.not_true, sgn_false, hq8] at hz6
      obtain ⟨qs, rfl, hql, hqo⟩ := hz6.out
      try have off11q : Off g11 (.agg qs.toArray) := hz6.off_lo hb11.lt
      try have off12q : Off g12 (.agg qs.toArray) := hz6.off_lo hb12.lt
      replace hz6 := hz6.mono (lo' := w8.heap.size) hEx.size
      replace hEx := hEx.trans hE6'
      try replace hb11 := hb11.ext hE6'
      try replace hb12 := hb12.ext hE6'
      refine rr_nil ?_
      refine rb_all (fuel := 2) (rs := [10]) (by kernel_rfl) (by kernel_rfl) rfl ?_
      rw [List.forall_mem_singleton]
      refine k_call (refMake_spec (hL9.ext hEx) _) rfl ?_
      rintro v10 w10' ⟨hz10, hE10'⟩
      refine ⟨fun _ h => h.trans hE10', ?_⟩
      simp only [sgn_false, hq9] at hz10
      obtain ⟨rs, rfl, hrl, hro⟩ := hz10.out
      try have off11r : Off g11 (.agg rs.toArray) := hz10.off_lo hb11.lt
      try have off12r : Off g12 (.agg rs.toArray) := hz10.off_lo hb12.lt
      replace hz10 := hz10.mono (lo' := w8.heap.size) hEx.size
      replace hz6 := hz6.ext hE10'
      replace hEx := hEx.trans hE10'
      try replace hb11 := hb11.ext hE10'
      try replace hb12 := hb12.ext hE10'
      refine rr_nil ?_
      refine rb_all (fuel := 1) (rs := [13]) (by kernel_rfl) (by kernel_rfl) rfl ?_
      rw [List.forall_mem_singleton]
      refine k_storeV (n := 2) rfl rfl hql hqo hb11 (by first | rfl | assumption) (fun w13 hc13 hb11' => ⟨fun _ h => h.chg hc13 (by omega), ?_⟩)
      replace hEx := hEx.chg hc13 (by omega)
      replace hz6 := hz6.chgO hc13 off11q
      replace hz10 := hz10.chgO hc13 off11r
      replace hb11 := hb11'
      replace hb12 := hb12.chg hc13 (Ne.symm hne)
      refine rr_nil ?_
      refine rb_all (fuel := 0) (rs := [14]) (by kernel_rfl) (by kernel_rfl) rfl ?_
      rw [List.forall_mem_singleton]
      refine k_storeV (n := 2) rfl rfl hrl hro hb12 (by first | rfl | assumption) (fun w14 hc14 hb12' => ⟨fun _ h => h.chg hc14 (by omega), ?_⟩)
      replace hEx := hEx.chg hc14 (by omega)
      replace hz6 := hz6.chgO hc14 off12q
      replace hz10 := hz10.chgO hc14 off12r
      replace hb12 := hb12'
      replace hb11 := hb11.chg hc14 hne
      refine rr_nil ?_
      refine rb_done (by kernel_rfl) ?_
      exact then_normal ⟨⟨(g11, g12, qs, rs), ⟨hEx, ⟨lo11, lo12⟩, hb11, hb12, hql, hrl, hqo, hro, hz6, hz10⟩, rfl, rfl, trivial⟩, (by (repeat (first | exact agree_refl _ _ | refine agree_upd rfl ?_ | refine agree_updO rfl ?_ | refine agree_overIn rfl ?_ | refine agree_maskIn rfl ?_)))⟩
  rintro ⟨g11, g12, qs, rs⟩ ξ w9 ⟨hE9, hg1112, hb11, hb12, hql, hrl, hqo, hro, hzq, hzr⟩
  simp only at hg1112 hb11 hb12 hql hrl hqo hro hzq hzr
  show CW _ _ _ _ (over [(11, .pointer (some ⟨g11, 0, none⟩)), (12, .pointer (some ⟨g12, 0, none⟩))] _) w9
  repeat' (first | (refine k_loadCA rfl hb12 hrl ?_) | (refine cw_seq ?_) | (refine cw_region rfl ?_))
  refine k_call (refSign_spec hzr) rfl ?_
  rintro v w10 ⟨rfl, hE10⟩
  refine ⟨fun _ _ => trivial, ?_⟩
  have hsg : 0 ≤ ((natOf l1 % natOf l2 : Nat) : Int).sign := by
    rcases Nat.eq_zero_or_pos (natOf l1 % natOf l2) with h | h
    · rw [h]; simp
    · rw [Int.sign_eq_one_of_pos (by omega)]; omega
  repeat' (first | (refine k_lssF rfl rfl hsg ?_) | (refine then_normal ?_) | (refine cw_seq ?_) | (refine rr_nil ?_) | (refine cw_cond_false rfl ?_) | (refine cw_skip ?_))
  have hb11' := hb11.ext hE10
  have hb12' := hb12.ext hE10
  have m11 := hb11'.lt
  have hlo : w8.heap.size ≤ g11 ∧ w8.heap.size ≤ g12 := hg1112
  refine cw_draw (late := [3]) (plan := [(0, none), (1, none), (2, some true), (3, some false), (4, none)]) (fun w' => Blk w' g11 24 qs ∧ Blk w' g12 24 rs) mixed (by kernel_rfl) ⟨hb11'.drew, hb12'.drew⟩ ?_
  have hEd : Ex w10 w10.drew := (Ex.refl w10).drew
  repeat' (first | (refine k_loadCA rfl (fun _ h => h.1) hql ?_) | (refine k_loadCA rfl (fun _ h => h.2) hrl ?_))
  have hEe : Ex w5 w10.drew := ((hE58.trans hE9).trans hE10).trans hEd
  refine k_storeV (n := 2) rfl rfl hql hqo (hb4.ext hEe) rfl (fun w11 hc11 hb4' => ⟨fun _ h => ⟨h.1.chg hc11 (by omega), h.2.chg hc11 (by omega)⟩, ?_⟩)
  refine k_storeV (n := 2) rfl rfl hrl hro ((hb5.ext hEe).chg hc11 (by omega)) rfl (fun w12 hc12 hb5' => ⟨fun _ h => ⟨h.1.chg hc12 (by omega), h.2.chg hc12 (by omega)⟩, ?_⟩)
  repeat' (first | (refine k_pure rfl ?_) | (refine then_normal ?_) | (refine rr_nil ?_) | (refine cw_ret ?_))
  have hq12 := ((((hzq.ext hE10).ext hEd).chg hc11 (by omega)).chg hc12 (by omega)).mono (lo' := w.heap.size) (by have := hE.size; omega)
  have hr12 := ((((hzr.ext hE10).ext hEd).chg hc11 (by omega)).chg hc12 (by omega)).mono (lo' := w.heap.size) (by have := hE.size; omega)
  exact ret3 rfl (rc rfl hql (hb4'.chg hc12 (by omega))) (rc rfl hrl hb5') (rt rfl) ⟨_, _, rfl, hq12, hr12, ((hE.trans hEe).chg hc11 (by omega)).chg hc12 (by omega)⟩
end Go.Proofs.Ythhfjagnmhhapaa

namespace Go.Proofs.Ythhfjagnmhhapaa
open Go.W Go.LM Go.PM

theorem refRem_small {lo lo' : Nat} {v1 v2 : Value} {x y : Nat} {w : World} (h1 : IntC lo w v1 x) (h2 : IntC lo' w v2 y) (hx : x < 18446744073709551616) (hy : 0 < y) (hy2 : y < 18446744073709551616) :
    CallsR Try.prog 60 #[v1, v2] w (RetZ w ((x % y : Nat) : Int)) := by
  obtain ⟨cs1, rfl, hl1, ho1⟩ := h1.out
  obtain ⟨cs2, rfl, hl2, ho2⟩ := h2.out
  refine callsR_of (args := [_, _]) Try.func60 rfl rfl ?_
  refine cw_seq ?_
  refine cw_region rfl ?_
  refine k_boxA rfl (fun g2 w2 hn2 => ⟨fun _ _ => trivial, ?_⟩)
  refine k_boxA rfl (fun g3 w3 hn3 => ⟨fun _ _ => trivial, ?_⟩)
  refine k_alloc (fun g4 w4 hn4 => ⟨fun _ _ => trivial, ?_⟩)
  have hb2 := (hn2.blk.ext hn3.ex).ext hn4.ex
  have hb3 := hn3.blk.ext hn4.ex
  have hb4 : Blk w4 g4 24 (intL false none 0 0) := hn4.blk
  have hE := (hn2.ex.trans hn3.ex).trans hn4.ex
  have l4 := hn4.lo
  have l4' := hn4.hi
  have s3 := (hn2.ex.trans hn3.ex).size
  repeat' (first | (refine k_loadCA rfl hb2 hl1 ?_) | (refine k_loadCA rfl hb3 hl2 ?_) | (refine then_normal ?_) | (refine cw_seq ?_) | (refine cw_region rfl ?_) | (refine rr_nil ?_))
  refine k_call (refDivMod_small (h1.ext hE) (h2.ext hE) hx hy hy2) rfl ?_
  rintro v w5 ⟨q, r, rfl, hq, hr, hE5⟩
  refine ⟨fun _ _ => trivial, ?_⟩
  obtain ⟨qs, rfl, hql, hqo⟩ := hq.out
  obtain ⟨rs, rfl, hrl, hro⟩ := hr.out
  repeat' (first | (refine k_pure rfl ?_))
  refine k_alloc (fun g6 w6 hn6 => ⟨fun _ _ => trivial, ?_⟩)
  refine k_alloc (fun g7 w7 hn7 => ⟨fun _ _ => trivial, ?_⟩)
  have l6 := hn6.lo
  have l6' := hn6.hi
  have l7 := hn7.lo
  have l7' := hn7.hi
  have s5 := hE5.size
  refine k_storeV (n := 2) rfl rfl hql hqo (hn6.blk.ext hn7.ex) rfl (fun w8 hc8 hb8 => ⟨fun _ _ => trivial, ?_⟩)
  refine k_storeV (n := 2) rfl rfl hrl hro (hn7.blk.chg hc8 (by omega)) rfl (fun w9 hc9 hb9 => ⟨fun _ _ => trivial, ?_⟩)
  have hb47 := (((hb4.ext hE5).ext hn6.ex).ext hn7.ex)
  have hE9 : Ex w5 w9 := ((hn6.ex.trans hn7.ex).chg hc8 (by omega)).chg hc9 (by omega)
  have hr9 := (((hr.ext hn6.ex).ext hn7.ex).chgO hc8 (hr.off_hi l6)).chgO hc9 (hr.off_hi (by omega))
  repeat' (first | (refine k_loadCA rfl hb9 hrl ?_) | (refine k_pure rfl ?_) | (refine then_normal ?_) | (refine cw_seq ?_) | (refine cw_region rfl ?_) | (refine rr_nil ?_))
  refine k_storeV (n := 2) rfl rfl hrl hro ((hb47.chg hc8 (by omega)).chg hc9 (by omega)) rfl (fun w10 hc10 hb10 => ⟨fun _ _ => trivial, ?_⟩)
  repeat' (first | (refine then_normal ?_) | (refine rr_nil ?_) | (refine cw_ret ?_))
  exact ret1 rfl (rc rfl hrl hb10) ⟨(hr9.chgO hc10 (hr.off_lo (by omega))).mono hE.size, ((hE.trans hE5).trans hE9).chg hc10 (by omega)⟩

end Go.Proofs.Ythhfjagnmhhapaa

