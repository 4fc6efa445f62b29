import Derived.Test.YtpfhfldehaiokaaGreatA07
set_option maxHeartbeats 2000000
namespace Go.Proofs.YtpfhfldehaiokaaGreat
open Go.W Go.LM
theorem ol {n : Bool} {m k : Nat} (h : m < 4294967296 ^ k) : (sgn n m).natAbs < 4294967296 ^ k := by rw [dh]; exact h
theorem iB {p q : Nat} {v1 v2 : Value} {x y : Int} {w : World} (h1 : IntK p w v1 x) (h2 : IntK q w v2 y) (hp : p < 17592186044415) (hq : q < 17592186044415) :
  CallsR Tryz.prog 57 #[v1, v2] w fun v w' => ∃ q r, v = .tuple #[q, r, .bool (decide (y ≠ 0))] ∧ IntC w.heap.size w' q (x / y) ∧ IntC w.heap.size w' r (if y = 0 then 0 else x % y) ∧ Ex w w' := by
 have h2s := h2
 obtain ⟨n1, a1, c1, l1, rfl, hL1, rfl, hp1⟩ := h1
 obtain ⟨n2, a2, c2, l2, rfl, hL2, rfl, hq1⟩ := h2
 have tl1 := cX l1
 have tl2 := cX l2
 have hz : (trimL l2).length = 0 ↔ natOf l2 = 0 := by
  rw [← cI]
  exact List.length_eq_zero_iff
 have hy0 : sgn n2 (natOf l2) = 0 ↔ natOf l2 = 0 := by unfold sgn; split <;> omega
 refine aE (args := [_, _]) Tryz.func57 rfl rfl ?_
 refine ak ?_
 refine ai rfl ?_
 refine bC rfl (fun g2 w2 hn2 => tvv ?_)
 refine bC rfl (fun g3 w3 hn3 => tvv ?_)
 refine aH (fun g4 w4 hn4 => tvv ?_)
 refine aH (fun g5 w5 hn5 => tvv ?_)
 have hb2 := ((hn2.blk.ext hn3.ex).ext hn4.ex).ext hn5.ex
 have hb3 := (hn3.blk.ext hn4.ex).ext hn5.ex
 have hb4 : Blk w5 g4 34 (intL false none 0 0) := Blk.ext (cs := intL false none 0 0) hn4.blk hn5.ex
 have hb5 : Blk w5 g5 34 (intL false none 0 0) := hn5.blk
 have hE := ((hn2.ex.trans hn3.ex).trans hn4.ex).trans hn5.ex
 have l4 := hn4.lo
 have l4' := hn4.hi
 have l5 := hn5.lo
 have l5' := hn5.hi
 have s3 := (hn2.ex.trans hn3.ex).size
 repeat' (first|refine aj rfl ?_|refine aa ?_|refine ak ?_|refine ah ?_)
 refine bn (late := []) (plan := [(0, none), (1, none), (3, none), (4, none), (2, some true), (5, some true), (6, none), (7, none)]) (fun w' => Ex w5 w') bD (by kernel_rfl) (Ex.refl w5).drew ?_
 have hE5d : Ex w5 w5.drew := (Ex.refl w5).drew
 repeat' (first|refine aP rfl (fun _ h => hb2.ext h) rfl ?_|refine aP rfl (fun _ h => hb3.ext h) rfl ?_|refine aM rfl ?_)
 refine au (bW (hL1.ext (hE.trans hE5d))) rfl ?_
 rintro v w6 ⟨a6, c6, rfl, hL6, hf6, hE6⟩
 refine ⟨fun _ h => h.trans hE6, ?_⟩
 refine au (bW (hL2.ext ((hE.trans hE5d).trans hE6))) rfl ?_
 rintro v w7 ⟨a7, c7, rfl, hL7, hf7, hE7⟩
 refine ⟨fun _ h => h.trans hE7, ?_⟩
 have hE57 : Ex w5 w7 := (hE5d.trans hE6).trans hE7
 repeat' (first|refine aj rfl ?_|refine aa ?_|refine ak ?_|refine ai rfl ?_|refine ah ?_|refine bc rfl ?_|refine aQ rfl (fun hc => ?_) (fun hc => ?_)|refine aC ?_)
 ·have h0 : natOf l2 = 0 := hz.1 (by omega)
  refine da (cs := intL false none 0 0) rfl ?_
  refine da (cs := intL false none 0 0) rfl ?_
  refine aF (n := 2) rfl rfl rfl rfl (hb4.ext hE57) rfl (fun w8 hc8 hb8 => tvv ?_)
  refine aF (n := 2) rfl rfl rfl rfl ((hb5.ext hE57).chg hc8 (by omega)) rfl (fun w9 hc9 hb9 => tvv ?_)
  repeat' (first|refine aj rfl ?_|refine aa ?_|refine ah ?_|refine aK ?_|refine bf ?_)
  have hy := hy0.2 h0
  rw [hy]
  exact eJ rfl (rc rfl rfl (hb8.chg hc9 (by omega))) (rc rfl rfl hb9) (rt rfl) ⟨_, _, rfl, by rw [Int.ediv_zero]; exact IntC.zero _ _, by rw [if_pos rfl]; exact IntC.zero _ _, ((hE.trans hE57).chg hc8 (by omega)).chg hc9 (by omega)⟩
 have hpos : 0 < natOf l2 := by
  rcases Nat.eq_zero_or_pos (natOf l2) with h | h
  ·have := hz.2 h; omega
  ·exact h
 have hyne : sgn n2 (natOf l2) ≠ 0 := fun e => by have := hy0.1 e; omega
 refine au (me (hL6.ext hE7) hL7 (by omega) (by omega) (bA _) (by rw [bh]; exact hpos)) rfl ?_
 rintro v w8 ⟨a8, c8, l8, a9, c9, l9, rfl, hL8, hL9, hq8, hq9, hE8⟩
 rw [bh, bh] at hq8 hq9
 refine tvv ?_
 have hE58 := hE57.trans hE8
 have s58 := hE58.size
 repeat' (first|refine aj rfl ?_|refine aa ?_|refine ak ?_|refine ah ?_)
 have hEx : Ex w8 w8.drew := (Ex.refl w8).drew
 refine dy (ι := Nat × Nat × List Value × List Value) [11, 12, 30, 31, 32, 33, 34, 35, 36, 37, 38, 39, 40] (fun s => [(11, .pointer (some ⟨s.1, 0, none⟩)), (12, .pointer (some ⟨s.2.1, 0, none⟩))])
  (fun s w' => Ex w8 w' ∧ (w8.heap.size ≤ s.1 ∧ w8.heap.size ≤ s.2.1) ∧ Blk w' s.1 34 s.2.2.1 ∧ Blk w' s.2.1 34 s.2.2.2 ∧ s.2.2.1.length = 2 ∧ s.2.2.2.length = 2 ∧ s.2.2.1.all Value.oneCell' = true ∧ s.2.2.2.all Value.oneCell' = true ∧ IntC w8.heap.size w' (.agg s.2.2.1.toArray) (sgn (!(n1 == n2)) (natOf l1 / natOf l2)) ∧ IntC w8.heap.size w' (.agg s.2.2.2.toArray) (sgn n1 (natOf l1 % natOf l2)) ∧ Off s.2.1 (.agg s.2.2.1.toArray) ∧ s.1 ≠ s.2.1) ?_ ?_
 refine gU (fun w' => Ex w8 w') bD hEx ?_
 refine bP (fuel := 6) (by kernel_rfl) (by kernel_rfl) [0, 1, 2, 3, 4, 5, 7, 8, 9] _ _ (by kernel_rfl) ?_
 repeat' (first|refine aP rfl (fun _ h => (hb2.ext hE58).ext h) rfl ?_|refine aP rfl (fun _ h => (hb3.ext hE58).ext h) rfl ?_|refine aj rfl ?_|refine ah ?_|refine aM rfl ?_|refine ip rfl rfl ?_)
 refine aD (fuel := 5) (rs := [6, 11, 12]) (by kernel_rfl) (by kernel_rfl) rfl ?_
 simp only [List.forall_mem_cons, List.not_mem_nil, false_implies, implies_true, and_true]
 refine ⟨?_, ?_, ?_⟩
 ·refine au (bi (hL8.ext hEx) _) rfl ?_
  rintro v6 w6' ⟨hz6, hE6'⟩
  refine ⟨fun _ h => h.trans hE6', ?_⟩
  rw [hq8] at hz6
  obtain ⟨qs, rfl, hql, hqo⟩ := hz6.out
  try have off11q : Off g11 (.agg qs.toArray) := hz6.off_lo hb11.lt
  try have off12q : Off g12 (.agg qs.toArray) := hz6.off_lo hb12.lt
  replace hz6 := hz6.mono (lo' := w8.heap.size) hEx.size
  replace hEx := hEx.trans hE6'
  try replace hb11 := hb11.ext hE6'
  try replace hb12 := hb12.ext hE6'
  refine ah ?_
  refine aD (fuel := 4) (rs := [10, 11, 12]) (by kernel_rfl) (by kernel_rfl) rfl ?_
  simp only [List.forall_mem_cons, List.not_mem_nil, false_implies, implies_true, and_true]
  refine ⟨?_, ?_, ?_⟩
  ·refine au (bi (hL9.ext hEx) _) rfl ?_
   rintro v10 w10' ⟨hz10, hE10'⟩
   refine ⟨fun _ h => h.trans hE10', ?_⟩
   rw [hq9] at hz10
   obtain ⟨rs, rfl, hrl, hro⟩ := hz10.out
   try have off11r : Off g11 (.agg rs.toArray) := hz10.off_lo hb11.lt
   try have off12r : Off g12 (.agg rs.toArray) := hz10.off_lo hb12.lt
   replace hz10 := hz10.mono (lo' := w8.heap.size) hEx.size
   replace hz6 := hz6.ext hE10'
   replace hEx := hEx.trans hE10'
   try replace hb11 := hb11.ext hE10'
   try replace hb12 := hb12.ext hE10'
   refine ah ?_
   refine aD (fuel := 3) (rs := [11, 12]) (by kernel_rfl) (by kernel_rfl) rfl ?_
   simp only [List.forall_mem_cons, List.not_mem_nil, false_implies, implies_true, and_true]
   refine ⟨?_, ?_⟩
   ·refine aH (fun g11 w11 hn11 => ⟨fun _ h => h.trans hn11.ex, ?_⟩)
    try have off11q : Off g11 (.agg qs.toArray) := hz6.off_hi hn11.lo
    try have off11r : Off g11 (.agg rs.toArray) := hz10.off_hi hn11.lo
    try have hne : g11 ≠ g12 := (by have := hb12.lt; have := hn11.lo; omega)
    have lo11 : w8.heap.size ≤ g11 := Nat.le_trans hEx.size hn11.lo
    have hb11 := hn11.blk
    replace hEx := hEx.trans hn11.ex
    try replace hz6 := hz6.ext hn11.ex
    try replace hz10 := hz10.ext hn11.ex
    try replace hb12 := hb12.ext hn11.ex
    refine ah ?_
    refine aD (fuel := 2) (rs := [12]) (by kernel_rfl) (by kernel_rfl) rfl ?_
    rw [Go.W.fms]
    refine aH (fun g12 w12 hn12 => ⟨fun _ h => h.trans hn12.ex, ?_⟩)
    try have off12q : Off g12 (.agg qs.toArray) := hz6.off_hi hn12.lo
    try have off12r : Off g12 (.agg rs.toArray) := hz10.off_hi hn12.lo
    try have hne : g11 ≠ g12 := (by have := hb11.lt; have := hn12.lo; omega)
    have lo12 : w8.heap.size ≤ g12 := Nat.le_trans hEx.size hn12.lo
    have hb12 := hn12.blk
    replace hEx := hEx.trans hn12.ex
    try replace hz6 := hz6.ext hn12.ex
    try replace hz10 := hz10.ext hn12.ex
    try replace hb11 := hb11.ext hn12.ex
    refine ah ?_
    refine aD (fuel := 1) (rs := [13]) (by kernel_rfl) (by kernel_rfl) rfl ?_
    rw [Go.W.fms]
    refine aF (n := 2) rfl rfl hql hqo hb11 (by first|rfl | assumption) (fun w13 hc13 hb11' => ⟨fun _ h => h.chg hc13 (by omega), ?_⟩)
    replace hEx := hEx.chg hc13 (by omega)
    replace hz6 := hz6.chgO hc13 off11q
    replace hz10 := hz10.chgO hc13 off11r
    replace hb11 := hb11'
    replace hb12 := hb12.chg hc13 (Ne.symm hne)
    refine ah ?_
    refine aD (fuel := 0) (rs := [14]) (by kernel_rfl) (by kernel_rfl) rfl ?_
    rw [Go.W.fms]
    refine aF (n := 2) rfl rfl hrl hro hb12 (by first|rfl | assumption) (fun w14 hc14 hb12' => ⟨fun _ h => h.chg hc14 (by omega), ?_⟩)
    replace hEx := hEx.chg hc14 (by omega)
    replace hz6 := hz6.chgO hc14 off12q
    replace hz10 := hz10.chgO hc14 off12r
    replace hb12 := hb12'
    replace hb11 := hb11.chg hc14 hne
    refine ah ?_
    refine bL (by kernel_rfl) ?_
    exact aa ⟨⟨(g11, g12, qs, rs), ⟨hEx, ⟨lo11, lo12⟩, hb11, hb12, hql, hrl, hqo, hro, hz6, hz10, off12q, hne⟩, rfl, rfl, trivial⟩, (by (repeat (first|exact aX _ _|refine aB rfl ?_|refine ax rfl ?_|refine av rfl ?_|refine aw rfl ?_)))⟩
   ·refine aH (fun g12 w12 hn12 => ⟨fun _ h => h.trans hn12.ex, ?_⟩)
    try have off12q : Off g12 (.agg qs.toArray) := hz6.off_hi hn12.lo
    try have off12r : Off g12 (.agg rs.toArray) := hz10.off_hi hn12.lo
    try have hne : g11 ≠ g12 := (by have := hb11.lt; have := hn12.lo; omega)
    have lo12 : w8.heap.size ≤ g12 := Nat.le_trans hEx.size hn12.lo
    have hb12 := hn12.blk
    replace hEx := hEx.trans hn12.ex
    try replace hz6 := hz6.ext hn12.ex
    try replace hz10 := hz10.ext hn12.ex
    try replace hb11 := hb11.ext hn12.ex
    refine ah ?_
    refine aD (fuel := 2) (rs := [11]) (by kernel_rfl) (by kernel_rfl) rfl ?_
    rw [Go.W.fms]
    refine aH (fun g11 w11 hn11 => ⟨fun _ h => h.trans hn11.ex, ?_⟩)
    try have off11q : Off g11 (.agg qs.toArray) := hz6.off_hi hn11.lo
    try have off11r : Off g11 (.agg rs.toArray) := hz10.off_hi hn11.lo
    try have hne : g11 ≠ g12 := (by have := hb12.lt; have := hn11.lo; omega)
    have lo11 : w8.heap.size ≤ g11 := Nat.le_trans hEx.size hn11.lo
    have hb11 := hn11.blk
    replace hEx := hEx.trans hn11.ex
    try replace hz6 := hz6.ext hn11.ex
    try replace hz10 := hz10.ext hn11.ex
    try replace hb12 := hb12.ext hn11.ex
    refine ah ?_
    refine aD (fuel := 1) (rs := [13]) (by kernel_rfl) (by kernel_rfl) rfl ?_
    rw [Go.W.fms]
    refine aF (n := 2) rfl rfl hql hqo hb11 (by first|rfl | assumption) (fun w13 hc13 hb11' => ⟨fun _ h => h.chg hc13 (by omega), ?_⟩)
    replace hEx := hEx.chg hc13 (by omega)
    replace hz6 := hz6.chgO hc13 off11q
    replace hz10 := hz10.chgO hc13 off11r
    replace hb11 := hb11'
    replace hb12 := hb12.chg hc13 (Ne.symm hne)
    refine ah ?_
    refine aD (fuel := 0) (rs := [14]) (by kernel_rfl) (by kernel_rfl) rfl ?_
    rw [Go.W.fms]
    refine aF (n := 2) rfl rfl hrl hro hb12 (by first|rfl | assumption) (fun w14 hc14 hb12' => ⟨fun _ h => h.chg hc14 (by omega), ?_⟩)
    replace hEx := hEx.chg hc14 (by omega)
    replace hz6 := hz6.chgO hc14 off12q
    replace hz10 := hz10.chgO hc14 off12r
    replace hb12 := hb12'
    replace hb11 := hb11.chg hc14 hne
    refine ah ?_
    refine bL (by kernel_rfl) ?_
    exact aa ⟨⟨(g11, g12, qs, rs), ⟨hEx, ⟨lo11, lo12⟩, hb11, hb12, hql, hrl, hqo, hro, hz6, hz10, off12q, hne⟩, rfl, rfl, trivial⟩, (by (repeat (first|exact aX _ _|refine aB rfl ?_|refine ax rfl ?_|refine av rfl ?_|refine aw rfl ?_)))⟩
  ·refine aH (fun g11 w11 hn11 => ⟨fun _ h => h.trans hn11.ex, ?_⟩)
   try have off11q : Off g11 (.agg qs.toArray) := hz6.off_hi hn11.lo
   try have off11r : Off g11 (.agg rs.toArray) := hz10.off_hi hn11.lo
   try have hne : g11 ≠ g12 := (by have := hb12.lt; have := hn11.lo; omega)
   have lo11 : w8.heap.size ≤ g11 := Nat.le_trans hEx.size hn11.lo
   have hb11 := hn11.blk
   replace hEx := hEx.trans hn11.ex
   try replace hz6 := hz6.ext hn11.ex
   try replace hz10 := hz10.ext hn11.ex
   try replace hb12 := hb12.ext hn11.ex
   refine ah ?_
   refine aD (fuel := 3) (rs := [10, 12]) (by kernel_rfl) (by kernel_rfl) rfl ?_
   simp only [List.forall_mem_cons, List.not_mem_nil, false_implies, implies_true, and_true]
   refine ⟨?_, ?_⟩
   ·refine au (bi (hL9.ext hEx) _) rfl ?_
    rintro v10 w10' ⟨hz10, hE10'⟩
    refine ⟨fun _ h => h.trans hE10', ?_⟩
    rw [hq9] at hz10
    obtain ⟨rs, rfl, hrl, hro⟩ := hz10.out
    try have off11r : Off g11 (.agg rs.toArray) := hz10.off_lo hb11.lt
    try have off12r : Off g12 (.agg rs.toArray) := hz10.off_lo hb12.lt
    replace hz10 := hz10.mono (lo' := w8.heap.size) hEx.size
    replace hz6 := hz6.ext hE10'
    replace hEx := hEx.trans hE10'
    try replace hb11 := hb11.ext hE10'
    try replace hb12 := hb12.ext hE10'
    refine ah ?_
    refine aD (fuel := 2) (rs := [12]) (by kernel_rfl) (by kernel_rfl) rfl ?_
    rw [Go.W.fms]
    refine aH (fun g12 w12 hn12 => ⟨fun _ h => h.trans hn12.ex, ?_⟩)
    try have off12q : Off g12 (.agg qs.toArray) := hz6.off_hi hn12.lo
    try have off12r : Off g12 (.agg rs.toArray) := hz10.off_hi hn12.lo
    try have hne : g11 ≠ g12 := (by have := hb11.lt; have := hn12.lo; omega)
    have lo12 : w8.heap.size ≤ g12 := Nat.le_trans hEx.size hn12.lo
    have hb12 := hn12.blk
    replace hEx := hEx.trans hn12.ex
    try replace hz6 := hz6.ext hn12.ex
    try replace hz10 := hz10.ext hn12.ex
    try replace hb11 := hb11.ext hn12.ex
    refine ah ?_
    refine aD (fuel := 1) (rs := [13]) (by kernel_rfl) (by kernel_rfl) rfl ?_
    rw [Go.W.fms]
    refine aF (n := 2) rfl rfl hql hqo hb11 (by first|rfl | assumption) (fun w13 hc13 hb11' => ⟨fun _ h => h.chg hc13 (by omega), ?_⟩)
    replace hEx := hEx.chg hc13 (by omega)
    replace hz6 := hz6.chgO hc13 off11q
    replace hz10 := hz10.chgO hc13 off11r
    replace hb11 := hb11'
    replace hb12 := hb12.chg hc13 (Ne.symm hne)
    refine ah ?_
    refine aD (fuel := 0) (rs := [14]) (by kernel_rfl) (by kernel_rfl) rfl ?_
    rw [Go.W.fms]
    refine aF (n := 2) rfl rfl hrl hro hb12 (by first|rfl | assumption) (fun w14 hc14 hb12' => ⟨fun _ h => h.chg hc14 (by omega), ?_⟩)
    replace hEx := hEx.chg hc14 (by omega)
    replace hz6 := hz6.chgO hc14 off12q
    replace hz10 := hz10.chgO hc14 off12r
    replace hb12 := hb12'
    replace hb11 := hb11.chg hc14 hne
    refine ah ?_
    refine bL (by kernel_rfl) ?_
    exact aa ⟨⟨(g11, g12, qs, rs), ⟨hEx, ⟨lo11, lo12⟩, hb11, hb12, hql, hrl, hqo, hro, hz6, hz10, off12q, hne⟩, rfl, rfl, trivial⟩, (by (repeat (first|exact aX _ _|refine aB rfl ?_|refine ax rfl ?_|refine av rfl ?_|refine aw rfl ?_)))⟩
   ·refine aH (fun g12 w12 hn12 => ⟨fun _ h => h.trans hn12.ex, ?_⟩)
    try have off12q : Off g12 (.agg qs.toArray) := hz6.off_hi hn12.lo
    try have off12r : Off g12 (.agg rs.toArray) := hz10.off_hi hn12.lo
    try have hne : g11 ≠ g12 := (by have := hb11.lt; have := hn12.lo; omega)
    have lo12 : w8.heap.size ≤ g12 := Nat.le_trans hEx.size hn12.lo
    have hb12 := hn12.blk
    replace hEx := hEx.trans hn12.ex
    try replace hz6 := hz6.ext hn12.ex
    try replace hz10 := hz10.ext hn12.ex
    try replace hb11 := hb11.ext hn12.ex
    refine ah ?_
    refine aD (fuel := 2) (rs := [10]) (by kernel_rfl) (by kernel_rfl) rfl ?_
    rw [Go.W.fms]
    refine au (bi (hL9.ext hEx) _) rfl ?_
    rintro v10 w10' ⟨hz10, hE10'⟩
    refine ⟨fun _ h => h.trans hE10', ?_⟩
    rw [hq9] at hz10
    obtain ⟨rs, rfl, hrl, hro⟩ := hz10.out
    try have off11r : Off g11 (.agg rs.toArray) := hz10.off_lo hb11.lt
    try have off12r : Off g12 (.agg rs.toArray) := hz10.off_lo hb12.lt
    replace hz10 := hz10.mono (lo' := w8.heap.size) hEx.size
    replace hz6 := hz6.ext hE10'
    replace hEx := hEx.trans hE10'
    try replace hb11 := hb11.ext hE10'
    try replace hb12 := hb12.ext hE10'
    refine ah ?_
    refine aD (fuel := 1) (rs := [13]) (by kernel_rfl) (by kernel_rfl) rfl ?_
    rw [Go.W.fms]
    refine aF (n := 2) rfl rfl hql hqo hb11 (by first|rfl | assumption) (fun w13 hc13 hb11' => ⟨fun _ h => h.chg hc13 (by omega), ?_⟩)
    replace hEx := hEx.chg hc13 (by omega)
    replace hz6 := hz6.chgO hc13 off11q
    replace hz10 := hz10.chgO hc13 off11r
    replace hb11 := hb11'
    replace hb12 := hb12.chg hc13 (Ne.symm hne)
    refine ah ?_
    refine aD (fuel := 0) (rs := [14]) (by kernel_rfl) (by kernel_rfl) rfl ?_
    rw [Go.W.fms]
    refine aF (n := 2) rfl rfl hrl hro hb12 (by first|rfl | assumption) (fun w14 hc14 hb12' => ⟨fun _ h => h.chg hc14 (by omega), ?_⟩)
    replace hEx := hEx.chg hc14 (by omega)
    replace hz6 := hz6.chgO hc14 off12q
    replace hz10 := hz10.chgO hc14 off12r
    replace hb12 := hb12'
    replace hb11 := hb11.chg hc14 hne
    refine ah ?_
    refine bL (by kernel_rfl) ?_
    exact aa ⟨⟨(g11, g12, qs, rs), ⟨hEx, ⟨lo11, lo12⟩, hb11, hb12, hql, hrl, hqo, hro, hz6, hz10, off12q, hne⟩, rfl, rfl, trivial⟩, (by (repeat (first|exact aX _ _|refine aB rfl ?_|refine ax rfl ?_|refine av rfl ?_|refine aw rfl ?_)))⟩
  ·refine aH (fun g12 w12 hn12 => ⟨fun _ h => h.trans hn12.ex, ?_⟩)
   try have off12q : Off g12 (.agg qs.toArray) := hz6.off_hi hn12.lo
   try have off12r : Off g12 (.agg rs.toArray) := hz10.off_hi hn12.lo
   try have hne : g11 ≠ g12 := (by have := hb11.lt; have := hn12.lo; omega)
   have lo12 : w8.heap.size ≤ g12 := Nat.le_trans hEx.size hn12.lo
   have hb12 := hn12.blk
   replace hEx := hEx.trans hn12.ex
   try replace hz6 := hz6.ext hn12.ex
   try replace hz10 := hz10.ext hn12.ex
   try replace hb11 := hb11.ext hn12.ex
   refine ah ?_
   refine aD (fuel := 3) (rs := [10, 11]) (by kernel_rfl) (by kernel_rfl) rfl ?_
   simp only [List.forall_mem_cons, List.not_mem_nil, false_implies, implies_true, and_true]
   refine ⟨?_, ?_⟩
   ·refine au (bi (hL9.ext hEx) _) rfl ?_
    rintro v10 w10' ⟨hz10, hE10'⟩
    refine ⟨fun _ h => h.trans hE10', ?_⟩
    rw [hq9] at hz10
    obtain ⟨rs, rfl, hrl, hro⟩ := hz10.out
    try have off11r : Off g11 (.agg rs.toArray) := hz10.off_lo hb11.lt
    try have off12r : Off g12 (.agg rs.toArray) := hz10.off_lo hb12.lt
    replace hz10 := hz10.mono (lo' := w8.heap.size) hEx.size
    replace hz6 := hz6.ext hE10'
    replace hEx := hEx.trans hE10'
    try replace hb11 := hb11.ext hE10'
    try replace hb12 := hb12.ext hE10'
    refine ah ?_
    refine aD (fuel := 2) (rs := [11]) (by kernel_rfl) (by kernel_rfl) rfl ?_
    rw [Go.W.fms]
    refine aH (fun g11 w11 hn11 => ⟨fun _ h => h.trans hn11.ex, ?_⟩)
    try have off11q : Off g11 (.agg qs.toArray) := hz6.off_hi hn11.lo
    try have off11r : Off g11 (.agg rs.toArray) := hz10.off_hi hn11.lo
    try have hne : g11 ≠ g12 := (by have := hb12.lt; have := hn11.lo; omega)
    have lo11 : w8.heap.size ≤ g11 := Nat.le_trans hEx.size hn11.lo
    have hb11 := hn11.blk
    replace hEx := hEx.trans hn11.ex
    try replace hz6 := hz6.ext hn11.ex
    try replace hz10 := hz10.ext hn11.ex
    try replace hb12 := hb12.ext hn11.ex
    refine ah ?_
    refine aD (fuel := 1) (rs := [13]) (by kernel_rfl) (by kernel_rfl) rfl ?_
    rw [Go.W.fms]
    refine aF (n := 2) rfl rfl hql hqo hb11 (by first|rfl | assumption) (fun w13 hc13 hb11' => ⟨fun _ h => h.chg hc13 (by omega), ?_⟩)
    replace hEx := hEx.chg hc13 (by omega)
    replace hz6 := hz6.chgO hc13 off11q
    replace hz10 := hz10.chgO hc13 off11r
    replace hb11 := hb11'
    replace hb12 := hb12.chg hc13 (Ne.symm hne)
    refine ah ?_
    refine aD (fuel := 0) (rs := [14]) (by kernel_rfl) (by kernel_rfl) rfl ?_
    rw [Go.W.fms]
    refine aF (n := 2) rfl rfl hrl hro hb12 (by first|rfl | assumption) (fun w14 hc14 hb12' => ⟨fun _ h => h.chg hc14 (by omega), ?_⟩)
    replace hEx := hEx.chg hc14 (by omega)
    replace hz6 := hz6.chgO hc14 off12q
    replace hz10 := hz10.chgO hc14 off12r
    replace hb12 := hb12'
    replace hb11 := hb11.chg hc14 hne
    refine ah ?_
    refine bL (by kernel_rfl) ?_
    exact aa ⟨⟨(g11, g12, qs, rs), ⟨hEx, ⟨lo11, lo12⟩, hb11, hb12, hql, hrl, hqo, hro, hz6, hz10, off12q, hne⟩, rfl, rfl, trivial⟩, (by (repeat (first|exact aX _ _|refine aB rfl ?_|refine ax rfl ?_|refine av rfl ?_|refine aw rfl ?_)))⟩
   ·refine aH (fun g11 w11 hn11 => ⟨fun _ h => h.trans hn11.ex, ?_⟩)
    try have off11q : Off g11 (.agg qs.toArray) := hz6.off_hi hn11.lo
    try have off11r : Off g11 (.agg rs.toArray) := hz10.off_hi hn11.lo
    try have hne : g11 ≠ g12 := (by have := hb12.lt; have := hn11.lo; omega)
    have lo11 : w8.heap.size ≤ g11 := Nat.le_trans hEx.size hn11.lo
    have hb11 := hn11.blk
    replace hEx := hEx.trans hn11.ex
    try replace hz6 := hz6.ext hn11.ex
    try replace hz10 := hz10.ext hn11.ex
    try replace hb12 := hb12.ext hn11.ex
    refine ah ?_
    refine aD (fuel := 2) (rs := [10]) (by kernel_rfl) (by kernel_rfl) rfl ?_
    rw [Go.W.fms]
    refine au (bi (hL9.ext hEx) _) rfl ?_
    rintro v10 w10' ⟨hz10, hE10'⟩
    refine ⟨fun _ h => h.trans hE10', ?_⟩
    rw [hq9] at hz10
    obtain ⟨rs, rfl, hrl, hro⟩ := hz10.out
    try have off11r : Off g11 (.agg rs.toArray) := hz10.off_lo hb11.lt
    try have off12r : Off g12 (.agg rs.toArray) := hz10.off_lo hb12.lt
    replace hz10 := hz10.mono (lo' := w8.heap.size) hEx.size
    replace hz6 := hz6.ext hE10'
    replace hEx := hEx.trans hE10'
    try replace hb11 := hb11.ext hE10'
    try replace hb12 := hb12.ext hE10'
    refine ah ?_
    refine aD (fuel := 1) (rs := [13]) (by kernel_rfl) (by kernel_rfl) rfl ?_
    rw [Go.W.fms]
    refine aF (n := 2) rfl rfl hql hqo hb11 (by first|rfl | assumption) (fun w13 hc13 hb11' => ⟨fun _ h => h.chg hc13 (by omega), ?_⟩)
    replace hEx := hEx.chg hc13 (by omega)
    replace hz6 := hz6.chgO hc13 off11q
    replace hz10 := hz10.chgO hc13 off11r
    replace hb11 := hb11'
    replace hb12 := hb12.chg hc13 (Ne.symm hne)
    refine ah ?_
    refine aD (fuel := 0) (rs := [14]) (by kernel_rfl) (by kernel_rfl) rfl ?_
    rw [Go.W.fms]
    refine aF (n := 2) rfl rfl hrl hro hb12 (by first|rfl | assumption) (fun w14 hc14 hb12' => ⟨fun _ h => h.chg hc14 (by omega), ?_⟩)
    replace hEx := hEx.chg hc14 (by omega)
    replace hz6 := hz6.chgO hc14 off12q
    replace hz10 := hz10.chgO hc14 off12r
    replace hb12 := hb12'
    replace hb11 := hb11.chg hc14 hne
    refine ah ?_
    refine bL (by kernel_rfl) ?_
    exact aa ⟨⟨(g11, g12, qs, rs), ⟨hEx, ⟨lo11, lo12⟩, hb11, hb12, hql, hrl, hqo, hro, hz6, hz10, off12q, hne⟩, rfl, rfl, trivial⟩, (by (repeat (first|exact aX _ _|refine aB rfl ?_|refine ax rfl ?_|refine av rfl ?_|refine aw rfl ?_)))⟩
 ·refine aH (fun g11 w11 hn11 => ⟨fun _ h => h.trans hn11.ex, ?_⟩)
  try have off11q : Off g11 (.agg qs.toArray) := hz6.off_hi hn11.lo
  try have off11r : Off g11 (.agg rs.toArray) := hz10.off_hi hn11.lo
  try have hne : g11 ≠ g12 := (by have := hb12.lt; have := hn11.lo; omega)
  have lo11 : w8.heap.size ≤ g11 := Nat.le_trans hEx.size hn11.lo
  have hb11 := hn11.blk
  replace hEx := hEx.trans hn11.ex
  try replace hz6 := hz6.ext hn11.ex
  try replace hz10 := hz10.ext hn11.ex
  try replace hb12 := hb12.ext hn11.ex
  refine ah ?_
  refine aD (fuel := 4) (rs := [6, 12]) (by kernel_rfl) (by kernel_rfl) rfl ?_
  simp only [List.forall_mem_cons, List.not_mem_nil, false_implies, implies_true, and_true]
  refine ⟨?_, ?_⟩
  ·refine au (bi (hL8.ext hEx) _) rfl ?_
   rintro v6 w6' ⟨hz6, hE6'⟩
   refine ⟨fun _ h => h.trans hE6', ?_⟩
   rw [hq8] at hz6
   obtain ⟨qs, rfl, hql, hqo⟩ := hz6.out
   try have off11q : Off g11 (.agg qs.toArray) := hz6.off_lo hb11.lt
   try have off12q : Off g12 (.agg qs.toArray) := hz6.off_lo hb12.lt
   replace hz6 := hz6.mono (lo' := w8.heap.size) hEx.size
   replace hEx := hEx.trans hE6'
   try replace hb11 := hb11.ext hE6'
   try replace hb12 := hb12.ext hE6'
   refine ah ?_
   refine aD (fuel := 3) (rs := [10, 12]) (by kernel_rfl) (by kernel_rfl) rfl ?_
   simp only [List.forall_mem_cons, List.not_mem_nil, false_implies, implies_true, and_true]
   refine ⟨?_, ?_⟩
   ·refine au (bi (hL9.ext hEx) _) rfl ?_
    rintro v10 w10' ⟨hz10, hE10'⟩
    refine ⟨fun _ h => h.trans hE10', ?_⟩
    rw [hq9] at hz10
    obtain ⟨rs, rfl, hrl, hro⟩ := hz10.out
    try have off11r : Off g11 (.agg rs.toArray) := hz10.off_lo hb11.lt
    try have off12r : Off g12 (.agg rs.toArray) := hz10.off_lo hb12.lt
    replace hz10 := hz10.mono (lo' := w8.heap.size) hEx.size
    replace hz6 := hz6.ext hE10'
    replace hEx := hEx.trans hE10'
    try replace hb11 := hb11.ext hE10'
    try replace hb12 := hb12.ext hE10'
    refine ah ?_
    refine aD (fuel := 2) (rs := [12]) (by kernel_rfl) (by kernel_rfl) rfl ?_
    rw [Go.W.fms]
    refine aH (fun g12 w12 hn12 => ⟨fun _ h => h.trans hn12.ex, ?_⟩)
    try have off12q : Off g12 (.agg qs.toArray) := hz6.off_hi hn12.lo
    try have off12r : Off g12 (.agg rs.toArray) := hz10.off_hi hn12.lo
    try have hne : g11 ≠ g12 := (by have := hb11.lt; have := hn12.lo; omega)
    have lo12 : w8.heap.size ≤ g12 := Nat.le_trans hEx.size hn12.lo
    have hb12 := hn12.blk
    replace hEx := hEx.trans hn12.ex
    try replace hz6 := hz6.ext hn12.ex
    try replace hz10 := hz10.ext hn12.ex
    try replace hb11 := hb11.ext hn12.ex
    refine ah ?_
    refine aD (fuel := 1) (rs := [13]) (by kernel_rfl) (by kernel_rfl) rfl ?_
    rw [Go.W.fms]
    refine aF (n := 2) rfl rfl hql hqo hb11 (by first|rfl | assumption) (fun w13 hc13 hb11' => ⟨fun _ h => h.chg hc13 (by omega), ?_⟩)
    replace hEx := hEx.chg hc13 (by omega)
    replace hz6 := hz6.chgO hc13 off11q
    replace hz10 := hz10.chgO hc13 off11r
    replace hb11 := hb11'
    replace hb12 := hb12.chg hc13 (Ne.symm hne)
    refine ah ?_
    refine aD (fuel := 0) (rs := [14]) (by kernel_rfl) (by kernel_rfl) rfl ?_
    rw [Go.W.fms]
    refine aF (n := 2) rfl rfl hrl hro hb12 (by first|rfl | assumption) (fun w14 hc14 hb12' => ⟨fun _ h => h.chg hc14 (by omega), ?_⟩)
    replace hEx := hEx.chg hc14 (by omega)
    replace hz6 := hz6.chgO hc14 off12q
    replace hz10 := hz10.chgO hc14 off12r
    replace hb12 := hb12'
    replace hb11 := hb11.chg hc14 hne
    refine ah ?_
    refine bL (by kernel_rfl) ?_
    exact aa ⟨⟨(g11, g12, qs, rs), ⟨hEx, ⟨lo11, lo12⟩, hb11, hb12, hql, hrl, hqo, hro, hz6, hz10, off12q, hne⟩, rfl, rfl, trivial⟩, (by (repeat (first|exact aX _ _|refine aB rfl ?_|refine ax rfl ?_|refine av rfl ?_|refine aw rfl ?_)))⟩
   ·refine aH (fun g12 w12 hn12 => ⟨fun _ h => h.trans hn12.ex, ?_⟩)
    try have off12q : Off g12 (.agg qs.toArray) := hz6.off_hi hn12.lo
    try have off12r : Off g12 (.agg rs.toArray) := hz10.off_hi hn12.lo
    try have hne : g11 ≠ g12 := (by have := hb11.lt; have := hn12.lo; omega)
    have lo12 : w8.heap.size ≤ g12 := Nat.le_trans hEx.size hn12.lo
    have hb12 := hn12.blk
    replace hEx := hEx.trans hn12.ex
    try replace hz6 := hz6.ext hn12.ex
    try replace hz10 := hz10.ext hn12.ex
    try replace hb11 := hb11.ext hn12.ex
    refine ah ?_
    refine aD (fuel := 2) (rs := [10]) (by kernel_rfl) (by kernel_rfl) rfl ?_
    rw [Go.W.fms]
    refine au (bi (hL9.ext hEx) _) rfl ?_
    rintro v10 w10' ⟨hz10, hE10'⟩
    refine ⟨fun _ h => h.trans hE10', ?_⟩
    rw [hq9] at hz10
    obtain ⟨rs, rfl, hrl, hro⟩ := hz10.out
    try have off11r : Off g11 (.agg rs.toArray) := hz10.off_lo hb11.lt
    try have off12r : Off g12 (.agg rs.toArray) := hz10.off_lo hb12.lt
    replace hz10 := hz10.mono (lo' := w8.heap.size) hEx.size
    replace hz6 := hz6.ext hE10'
    replace hEx := hEx.trans hE10'
    try replace hb11 := hb11.ext hE10'
    try replace hb12 := hb12.ext hE10'
    refine ah ?_
    refine aD (fuel := 1) (rs := [13]) (by kernel_rfl) (by kernel_rfl) rfl ?_
    rw [Go.W.fms]
    refine aF (n := 2) rfl rfl hql hqo hb11 (by first|rfl | assumption) (fun w13 hc13 hb11' => ⟨fun _ h => h.chg hc13 (by omega), ?_⟩)
    replace hEx := hEx.chg hc13 (by omega)
    replace hz6 := hz6.chgO hc13 off11q
    replace hz10 := hz10.chgO hc13 off11r
    replace hb11 := hb11'
    replace hb12 := hb12.chg hc13 (Ne.symm hne)
    refine ah ?_
    refine aD (fuel := 0) (rs := [14]) (by kernel_rfl) (by kernel_rfl) rfl ?_
    rw [Go.W.fms]
    refine aF (n := 2) rfl rfl hrl hro hb12 (by first|rfl | assumption) (fun w14 hc14 hb12' => ⟨fun _ h => h.chg hc14 (by omega), ?_⟩)
    replace hEx := hEx.chg hc14 (by omega)
    replace hz6 := hz6.chgO hc14 off12q
    replace hz10 := hz10.chgO hc14 off12r
    replace hb12 := hb12'
    replace hb11 := hb11.chg hc14 hne
    refine ah ?_
    refine bL (by kernel_rfl) ?_
    exact aa ⟨⟨(g11, g12, qs, rs), ⟨hEx, ⟨lo11, lo12⟩, hb11, hb12, hql, hrl, hqo, hro, hz6, hz10, off12q, hne⟩, rfl, rfl, trivial⟩, (by (repeat (first|exact aX _ _|refine aB rfl ?_|refine ax rfl ?_|refine av rfl ?_|refine aw rfl ?_)))⟩
  ·refine aH (fun g12 w12 hn12 => ⟨fun _ h => h.trans hn12.ex, ?_⟩)
   try have off12q : Off g12 (.agg qs.toArray) := hz6.off_hi hn12.lo
   try have off12r : Off g12 (.agg rs.toArray) := hz10.off_hi hn12.lo
   try have hne : g11 ≠ g12 := (by have := hb11.lt; have := hn12.lo; omega)
   have lo12 : w8.heap.size ≤ g12 := Nat.le_trans hEx.size hn12.lo
   have hb12 := hn12.blk
   replace hEx := hEx.trans hn12.ex
   try replace hz6 := hz6.ext hn12.ex
   try replace hz10 := hz10.ext hn12.ex
   try replace hb11 := hb11.ext hn12.ex
   refine ah ?_
   refine aD (fuel := 3) (rs := [6]) (by kernel_rfl) (by kernel_rfl) rfl ?_
   rw [Go.W.fms]
   refine au (bi (hL8.ext hEx) _) rfl ?_
   rintro v6 w6' ⟨hz6, hE6'⟩
   refine ⟨fun _ h => h.trans hE6', ?_⟩
   rw [hq8] at hz6
   obtain ⟨qs, rfl, hql, hqo⟩ := hz6.out
   try have off11q : Off g11 (.agg qs.toArray) := hz6.off_lo hb11.lt
   try have off12q : Off g12 (.agg qs.toArray) := hz6.off_lo hb12.lt
   replace hz6 := hz6.mono (lo' := w8.heap.size) hEx.size
   replace hEx := hEx.trans hE6'
   try replace hb11 := hb11.ext hE6'
   try replace hb12 := hb12.ext hE6'
   refine ah ?_
   refine aD (fuel := 2) (rs := [10]) (by kernel_rfl) (by kernel_rfl) rfl ?_
   rw [Go.W.fms]
   refine au (bi (hL9.ext hEx) _) rfl ?_
   rintro v10 w10' ⟨hz10, hE10'⟩
   refine ⟨fun _ h => h.trans hE10', ?_⟩
   rw [hq9] at hz10
   obtain ⟨rs, rfl, hrl, hro⟩ := hz10.out
   try have off11r : Off g11 (.agg rs.toArray) := hz10.off_lo hb11.lt
   try have off12r : Off g12 (.agg rs.toArray) := hz10.off_lo hb12.lt
   replace hz10 := hz10.mono (lo' := w8.heap.size) hEx.size
   replace hz6 := hz6.ext hE10'
   replace hEx := hEx.trans hE10'
   try replace hb11 := hb11.ext hE10'
   try replace hb12 := hb12.ext hE10'
   refine ah ?_
   refine aD (fuel := 1) (rs := [13]) (by kernel_rfl) (by kernel_rfl) rfl ?_
   rw [Go.W.fms]
   refine aF (n := 2) rfl rfl hql hqo hb11 (by first|rfl | assumption) (fun w13 hc13 hb11' => ⟨fun _ h => h.chg hc13 (by omega), ?_⟩)
   replace hEx := hEx.chg hc13 (by omega)
   replace hz6 := hz6.chgO hc13 off11q
   replace hz10 := hz10.chgO hc13 off11r
   replace hb11 := hb11'
   replace hb12 := hb12.chg hc13 (Ne.symm hne)
   refine ah ?_
   refine aD (fuel := 0) (rs := [14]) (by kernel_rfl) (by kernel_rfl) rfl ?_
   rw [Go.W.fms]
   refine aF (n := 2) rfl rfl hrl hro hb12 (by first|rfl | assumption) (fun w14 hc14 hb12' => ⟨fun _ h => h.chg hc14 (by omega), ?_⟩)
   replace hEx := hEx.chg hc14 (by omega)
   replace hz6 := hz6.chgO hc14 off12q
   replace hz10 := hz10.chgO hc14 off12r
   replace hb12 := hb12'
   replace hb11 := hb11.chg hc14 hne
   refine ah ?_
   refine bL (by kernel_rfl) ?_
   exact aa ⟨⟨(g11, g12, qs, rs), ⟨hEx, ⟨lo11, lo12⟩, hb11, hb12, hql, hrl, hqo, hro, hz6, hz10, off12q, hne⟩, rfl, rfl, trivial⟩, (by (repeat (first|exact aX _ _|refine aB rfl ?_|refine ax rfl ?_|refine av rfl ?_|refine aw rfl ?_)))⟩
 ·refine aH (fun g12 w12 hn12 => ⟨fun _ h => h.trans hn12.ex, ?_⟩)
  try have off12q : Off g12 (.agg qs.toArray) := hz6.off_hi hn12.lo
  try have off12r : Off g12 (.agg rs.toArray) := hz10.off_hi hn12.lo
  try have hne : g11 ≠ g12 := (by have := hb11.lt; have := hn12.lo; omega)
  have lo12 : w8.heap.size ≤ g12 := Nat.le_trans hEx.size hn12.lo
  have hb12 := hn12.blk
  replace hEx := hEx.trans hn12.ex
  try replace hz6 := hz6.ext hn12.ex
  try replace hz10 := hz10.ext hn12.ex
  try replace hb11 := hb11.ext hn12.ex
  refine ah ?_
  refine aD (fuel := 4) (rs := [6, 11]) (by kernel_rfl) (by kernel_rfl) rfl ?_
  simp only [List.forall_mem_cons, List.not_mem_nil, false_implies, implies_true, and_true]
  refine ⟨?_, ?_⟩
  ·refine au (bi (hL8.ext hEx) _) rfl ?_
   rintro v6 w6' ⟨hz6, hE6'⟩
   refine ⟨fun _ h => h.trans hE6', ?_⟩
   rw [hq8] at hz6
   obtain ⟨qs, rfl, hql, hqo⟩ := hz6.out
   try have off11q : Off g11 (.agg qs.toArray) := hz6.off_lo hb11.lt
   try have off12q : Off g12 (.agg qs.toArray) := hz6.off_lo hb12.lt
   replace hz6 := hz6.mono (lo' := w8.heap.size) hEx.size
   replace hEx := hEx.trans hE6'
   try replace hb11 := hb11.ext hE6'
   try replace hb12 := hb12.ext hE6'
   refine ah ?_
   refine aD (fuel := 3) (rs := [10, 11]) (by kernel_rfl) (by kernel_rfl) rfl ?_
   simp only [List.forall_mem_cons, List.not_mem_nil, false_implies, implies_true, and_true]
   refine ⟨?_, ?_⟩
   ·refine au (bi (hL9.ext hEx) _) rfl ?_
    rintro v10 w10' ⟨hz10, hE10'⟩
    refine ⟨fun _ h => h.trans hE10', ?_⟩
    rw [hq9] at hz10
    obtain ⟨rs, rfl, hrl, hro⟩ := hz10.out
    try have off11r : Off g11 (.agg rs.toArray) := hz10.off_lo hb11.lt
    try have off12r : Off g12 (.agg rs.toArray) := hz10.off_lo hb12.lt
    replace hz10 := hz10.mono (lo' := w8.heap.size) hEx.size
    replace hz6 := hz6.ext hE10'
    replace hEx := hEx.trans hE10'
    try replace hb11 := hb11.ext hE10'
    try replace hb12 := hb12.ext hE10'
    refine ah ?_
    refine aD (fuel := 2) (rs := [11]) (by kernel_rfl) (by kernel_rfl) rfl ?_
    rw [Go.W.fms]
    refine aH (fun g11 w11 hn11 => ⟨fun _ h => h.trans hn11.ex, ?_⟩)
    try have off11q : Off g11 (.agg qs.toArray) := hz6.off_hi hn11.lo
    try have off11r : Off g11 (.agg rs.toArray) := hz10.off_hi hn11.lo
    try have hne : g11 ≠ g12 := (by have := hb12.lt; have := hn11.lo; omega)
    have lo11 : w8.heap.size ≤ g11 := Nat.le_trans hEx.size hn11.lo
    have hb11 := hn11.blk
    replace hEx := hEx.trans hn11.ex
    try replace hz6 := hz6.ext hn11.ex
    try replace hz10 := hz10.ext hn11.ex
    try replace hb12 := hb12.ext hn11.ex
    refine ah ?_
    refine aD (fuel := 1) (rs := [13]) (by kernel_rfl) (by kernel_rfl) rfl ?_
    rw [Go.W.fms]
    refine aF (n := 2) rfl rfl hql hqo hb11 (by first|rfl | assumption) (fun w13 hc13 hb11' => ⟨fun _ h => h.chg hc13 (by omega), ?_⟩)
    replace hEx := hEx.chg hc13 (by omega)
    replace hz6 := hz6.chgO hc13 off11q
    replace hz10 := hz10.chgO hc13 off11r
    replace hb11 := hb11'
    replace hb12 := hb12.chg hc13 (Ne.symm hne)
    refine ah ?_
    refine aD (fuel := 0) (rs := [14]) (by kernel_rfl) (by kernel_rfl) rfl ?_
    rw [Go.W.fms]
    refine aF (n := 2) rfl rfl hrl hro hb12 (by first|rfl | assumption) (fun w14 hc14 hb12' => ⟨fun _ h => h.chg hc14 (by omega), ?_⟩)
    replace hEx := hEx.chg hc14 (by omega)
    replace hz6 := hz6.chgO hc14 off12q
    replace hz10 := hz10.chgO hc14 off12r
    replace hb12 := hb12'
    replace hb11 := hb11.chg hc14 hne
    refine ah ?_
    refine bL (by kernel_rfl) ?_
    exact aa ⟨⟨(g11, g12, qs, rs), ⟨hEx, ⟨lo11, lo12⟩, hb11, hb12, hql, hrl, hqo, hro, hz6, hz10, off12q, hne⟩, rfl, rfl, trivial⟩, (by (repeat (first|exact aX _ _|refine aB rfl ?_|refine ax rfl ?_|refine av rfl ?_|refine aw rfl ?_)))⟩
   ·refine aH (fun g11 w11 hn11 => ⟨fun _ h => h.trans hn11.ex, ?_⟩)
    try have off11q : Off g11 (.agg qs.toArray) := hz6.off_hi hn11.lo
    try have off11r : Off g11 (.agg rs.toArray) := hz10.off_hi hn11.lo
    try have hne : g11 ≠ g12 := (by have := hb12.lt; have := hn11.lo; omega)
    have lo11 : w8.heap.size ≤ g11 := Nat.le_trans hEx.size hn11.lo
    have hb11 := hn11.blk
    replace hEx := hEx.trans hn11.ex
    try replace hz6 := hz6.ext hn11.ex
    try replace hz10 := hz10.ext hn11.ex
    try replace hb12 := hb12.ext hn11.ex
    refine ah ?_
    refine aD (fuel := 2) (rs := [10]) (by kernel_rfl) (by kernel_rfl) rfl ?_
    rw [Go.W.fms]
    refine au (bi (hL9.ext hEx) _) rfl ?_
    rintro v10 w10' ⟨hz10, hE10'⟩
    refine ⟨fun _ h => h.trans hE10', ?_⟩
    rw [hq9] at hz10
    obtain ⟨rs, rfl, hrl, hro⟩ := hz10.out
    try have off11r : Off g11 (.agg rs.toArray) := hz10.off_lo hb11.lt
    try have off12r : Off g12 (.agg rs.toArray) := hz10.off_lo hb12.lt
    replace hz10 := hz10.mono (lo' := w8.heap.size) hEx.size
    replace hz6 := hz6.ext hE10'
    replace hEx := hEx.trans hE10'
    try replace hb11 := hb11.ext hE10'
    try replace hb12 := hb12.ext hE10'
    refine ah ?_
    refine aD (fuel := 1) (rs := [13]) (by kernel_rfl) (by kernel_rfl) rfl ?_
    rw [Go.W.fms]
    refine aF (n := 2) rfl rfl hql hqo hb11 (by first|rfl | assumption) (fun w13 hc13 hb11' => ⟨fun _ h => h.chg hc13 (by omega), ?_⟩)
    replace hEx := hEx.chg hc13 (by omega)
    replace hz6 := hz6.chgO hc13 off11q
    replace hz10 := hz10.chgO hc13 off11r
    replace hb11 := hb11'
    replace hb12 := hb12.chg hc13 (Ne.symm hne)
    refine ah ?_
    refine aD (fuel := 0) (rs := [14]) (by kernel_rfl) (by kernel_rfl) rfl ?_
    rw [Go.W.fms]
    refine aF (n := 2) rfl rfl hrl hro hb12 (by first|rfl | assumption) (fun w14 hc14 hb12' => ⟨fun _ h => h.chg hc14 (by omega), ?_⟩)
    replace hEx := hEx.chg hc14 (by omega)
    replace hz6 := hz6.chgO hc14 off12q
    replace hz10 := hz10.chgO hc14 off12r
    replace hb12 := hb12'
    replace hb11 := hb11.chg hc14 hne
    refine ah ?_
    refine bL (by kernel_rfl) ?_
    exact aa ⟨⟨(g11, g12, qs, rs), ⟨hEx, ⟨lo11, lo12⟩, hb11, hb12, hql, hrl, hqo, hro, hz6, hz10, off12q, hne⟩, rfl, rfl, trivial⟩, (by (repeat (first|exact aX _ _|refine aB rfl ?_|refine ax rfl ?_|refine av rfl ?_|refine aw rfl ?_)))⟩
  ·refine aH (fun g11 w11 hn11 => ⟨fun _ h => h.trans hn11.ex, ?_⟩)
   try have off11q : Off g11 (.agg qs.toArray) := hz6.off_hi hn11.lo
   try have off11r : Off g11 (.agg rs.toArray) := hz10.off_hi hn11.lo
   try have hne : g11 ≠ g12 := (by have := hb12.lt; have := hn11.lo; omega)
   have lo11 : w8.heap.size ≤ g11 := Nat.le_trans hEx.size hn11.lo
   have hb11 := hn11.blk
   replace hEx := hEx.trans hn11.ex
   try replace hz6 := hz6.ext hn11.ex
   try replace hz10 := hz10.ext hn11.ex
   try replace hb12 := hb12.ext hn11.ex
   refine ah ?_
   refine aD (fuel := 3) (rs := [6]) (by kernel_rfl) (by kernel_rfl) rfl ?_
   rw [Go.W.fms]
   refine au (bi (hL8.ext hEx) _) rfl ?_
   rintro v6 w6' ⟨hz6, hE6'⟩
   refine ⟨fun _ h => h.trans hE6', ?_⟩
   rw [hq8] at hz6
   obtain ⟨qs, rfl, hql, hqo⟩ := hz6.out
   try have off11q : Off g11 (.agg qs.toArray) := hz6.off_lo hb11.lt
   try have off12q : Off g12 (.agg qs.toArray) := hz6.off_lo hb12.lt
   replace hz6 := hz6.mono (lo' := w8.heap.size) hEx.size
   replace hEx := hEx.trans hE6'
   try replace hb11 := hb11.ext hE6'
   try replace hb12 := hb12.ext hE6'
   refine ah ?_
   refine aD (fuel := 2) (rs := [10]) (by kernel_rfl) (by kernel_rfl) rfl ?_
   rw [Go.W.fms]
   refine au (bi (hL9.ext hEx) _) rfl ?_
   rintro v10 w10' ⟨hz10, hE10'⟩
   refine ⟨fun _ h => h.trans hE10', ?_⟩
   rw [hq9] at hz10
   obtain ⟨rs, rfl, hrl, hro⟩ := hz10.out
   try have off11r : Off g11 (.agg rs.toArray) := hz10.off_lo hb11.lt
   try have off12r : Off g12 (.agg rs.toArray) := hz10.off_lo hb12.lt
   replace hz10 := hz10.mono (lo' := w8.heap.size) hEx.size
   replace hz6 := hz6.ext hE10'
   replace hEx := hEx.trans hE10'
   try replace hb11 := hb11.ext hE10'
   try replace hb12 := hb12.ext hE10'
   refine ah ?_
   refine aD (fuel := 1) (rs := [13]) (by kernel_rfl) (by kernel_rfl) rfl ?_
   rw [Go.W.fms]
   refine aF (n := 2) rfl rfl hql hqo hb11 (by first|rfl | assumption) (fun w13 hc13 hb11' => ⟨fun _ h => h.chg hc13 (by omega), ?_⟩)
   replace hEx := hEx.chg hc13 (by omega)
   replace hz6 := hz6.chgO hc13 off11q
   replace hz10 := hz10.chgO hc13 off11r
   replace hb11 := hb11'
   replace hb12 := hb12.chg hc13 (Ne.symm hne)
   refine ah ?_
   refine aD (fuel := 0) (rs := [14]) (by kernel_rfl) (by kernel_rfl) rfl ?_
   rw [Go.W.fms]
   refine aF (n := 2) rfl rfl hrl hro hb12 (by first|rfl | assumption) (fun w14 hc14 hb12' => ⟨fun _ h => h.chg hc14 (by omega), ?_⟩)
   replace hEx := hEx.chg hc14 (by omega)
   replace hz6 := hz6.chgO hc14 off12q
   replace hz10 := hz10.chgO hc14 off12r
   replace hb12 := hb12'
   replace hb11 := hb11.chg hc14 hne
   refine ah ?_
   refine bL (by kernel_rfl) ?_
   exact aa ⟨⟨(g11, g12, qs, rs), ⟨hEx, ⟨lo11, lo12⟩, hb11, hb12, hql, hrl, hqo, hro, hz6, hz10, off12q, hne⟩, rfl, rfl, trivial⟩, (by (repeat (first|exact aX _ _|refine aB rfl ?_|refine ax rfl ?_|refine av rfl ?_|refine aw rfl ?_)))⟩
 rintro ⟨g11, g12, qs, rs⟩ ξ w9 ⟨hE9, hg1112, hb11, hb12, hql, hrl, hqo, hro, hzq, hzr, hoffq, hne12⟩
 simp only at hg1112 hb11 hb12 hql hrl hqo hro hzq hzr hoffq hne12
 show CW _ _ _ _ (over [(11, .pointer (some ⟨g11, 0, none⟩)), (12, .pointer (some ⟨g12, 0, none⟩))] _) w9
 repeat' (first|refine aY rfl hb12 hrl ?_|refine ak ?_|refine ai rfl ?_)
 refine au (gY hzr) rfl ?_
 rintro v w10 ⟨rfl, hE10⟩
 refine tvv ?_
 have hb11' := hb11.ext hE10
 have hb12' := hb12.ext hE10
 have m11 := hb11'.lt
 have m12 := hb12'.lt
 have hlo : w8.heap.size ≤ g11 ∧ w8.heap.size ≤ g12 := hg1112
 have hEd : Ex w10 w10.drew := (Ex.refl w10).drew
 have hEe : Ex w5 w10.drew := ((hE58.trans hE9).trans hE10).trans hEd
 have sE := hE.size
 have hN1 : natOf l1 < 4294967296 ^ p := Nat.lt_of_lt_of_le (bQ hL1.lim) (pF hp1)
 have hN2 : natOf l2 < 4294967296 ^ q := Nat.lt_of_lt_of_le (bQ hL2.lim) (pF hq1)
 have hNq : natOf l1 / natOf l2 < 4294967296 ^ p := Nat.lt_of_le_of_lt (Nat.div_le_self _ _) hN1
 have hNr : natOf l1 % natOf l2 < 4294967296 ^ q := Nat.lt_trans (Nat.mod_lt _ hpos) hN2
 have hdv := mc (N := natOf l1) hpos
 have hdec : decide (sgn n2 (natOf l2) ≠ 0) = true := decide_eq_true hyne
 rw [hdec]
 repeat' (first|refine aj rfl ?_|refine aa ?_|refine ak ?_|refine ah ?_|refine aQ rfl (fun hc => ?_) (fun hc => ?_)|refine aC ?_)
 ·have xJ : n1 = true ∧ natOf l1 % natOf l2 ≠ 0 := by
   rename_i hc'
   have : sgn n1 (natOf l1 % natOf l2) < 0 := Int.sign_neg_iff.1 (by first|exact hc' | assumption)
   unfold sgn at this
   cases n1
   ·simp at this; omega
   ·simp at this; exact ⟨rfl, by omega⟩
  obtain ⟨rfl, hr0⟩ := xJ
  have hd3 := hdv.2.2.2 hr0
  refine bn (late := [3, 4]) (plan := [(0, none), (1, none), (2, some true), (3, some false), (4, some false)]) (fun w' => Blk w' g12 34 rs) bD (by kernel_rfl) hb12'.drew ?_
  repeat' (first|refine aY rfl (fun _ h => h) hrl ?_|refine aj rfl ?_)
  refine au (bi (hL7.ext ((hE8.trans (hE9.trans hE10)).trans hEd)) false) rfl ?_
  rintro v w11 ⟨hI11, hE11⟩
  refine ⟨fun _ h => h.ext hE11, ?_⟩
  skip
  have hK11 := hI11.k (k := q) (ol (by rw [bh]; exact hN2))
  have hKr := (((hzr.ext hE10).ext hEd).ext hE11).k (k := q) (ol hNr)
  refine au (cu hKr hK11 (by omega) (by omega)) rfl ?_
  rintro v w12 ⟨hI12, hE12⟩
  obtain ⟨ts, rfl, htl, hto⟩ := hI12.out
  refine ⟨fun _ h => h.ext hE12, ?_⟩
  have hE1012 := (hEd.trans hE11).trans hE12
  have hE0 := hE11.size
  refine aF (n := 2) rfl rfl htl hto (hb12'.ext hE1012) hrl (fun w13 hc13 hb13 => ⟨fun h => (nomatch h), ?_⟩)
  have off : Off g12 (.agg ts.toArray) := hI12.off_lo (by have : w10.drew.heap.size = w10.heap.size := rfl; omega)
  have hI13 := hI12.chgO hc13 off
  have hz12 := hE1012.size
  have hzq13 := ((hzq.ext hE10).ext hE1012).chgO hc13 hoffq
  have hb11c := (hb11'.ext hE1012)
  have hne1112 : g11 ≠ g12 := hne12
  have hb1113 := hb11c.chg hc13 hne1112
  have hE513 : Ex w5 w13 := (((hE58.trans hE9).trans hE10).trans hE1012).chg hc13 (by omega)
  have hb313 := hb3.ext hE513
  repeat' (first|refine aY rfl hb313 rfl ?_|refine aa ?_|refine ak ?_|refine ai rfl ?_|refine ah ?_)
  refine au (du (h2s.ext (hE.trans hE513))) rfl ?_
  rintro v w14 ⟨rfl, hE14⟩
  refine tvv ?_
  have hb1114 := (hb1113.ext hE14)
  have hb1214 := (hb13.ext hE14)
  have m1114 := hb1114.lt
  have m1214 := hb1214.lt
  have hE14d : Ex w14 w14.drew := (Ex.refl w14).drew
  have hzq14 := (hzq13.ext hE14).ext hE14d
  have hzr14 := (hI13.ext hE14).ext hE14d
  have s14 : w14.drew.heap.size = w14.heap.size := rfl
  have hrv : sgn true (natOf l1 % natOf l2) + sgn false (natOf (trimL l2)) = sgn true (natOf l1) % sgn n2 (natOf l2) := by
   rw [bh]
   unfold sgn
   cases n2
   ·simp only [if_true, Bool.false_eq_true, if_false]; rw [hd3.2.1]; omega
   ·simp only [if_true, Bool.false_eq_true, if_false]; rw [hd3.2.2.2]; omega
  have hfin : ∀ {z : Int} {us : List Value} {wa wb wc wd : World}, Ex w14.drew wa → IntC w14.heap.size wa (.agg us.toArray) z → Chg g4 wa wb → Chg g5 wb wc → z = sgn true (natOf l1) / sgn n2 (natOf l2) →
    (IntC w.heap.size wc (.agg us.toArray) (sgn true (natOf l1) / sgn n2 (natOf l2)) ∧ IntC w.heap.size wc (.agg ts.toArray) (if sgn n2 (natOf l2) = 0 then 0 else sgn true (natOf l1) % sgn n2 (natOf l2)) ∧ Ex w wc) := by
   intro z us wa wb wc wd hEa hIz hcb hcc hz'
   rw [if_neg hyne]
   have q1 := hE14.size
   have q2 := hE513.size
   refine ⟨?_, ?_, ((((hE.trans hE513).trans hE14).trans (hE14d.trans hEa)).chg hcb (by omega)).chg hcc (by omega)⟩
   ·rw [← hz']; exact ((hIz.chg hcb (by omega)).chg hcc (by omega)).mono (by omega)
   ·rw [← hrv]
    have r1 := hE11.size
    have r2 : w10.drew.heap.size = w10.heap.size := rfl
    exact (((hzr14.ext hEa).chg hcb (by omega)).chg hcc (by omega)).mono (by omega)
  repeat' (first|refine aj rfl ?_|refine aa ?_|refine ak ?_|refine ah ?_|refine aQ rfl (fun hc => ?_) (fun hc => ?_)|refine aC ?_)
  ·have hn2 : n2 = true := by
    cases n2
    ·rename_i hc'
     have : sgn false (natOf l2) < 0 := Int.sign_neg_iff.1 (by first|exact hc' | assumption)
     unfold sgn at this; simp at this; omega
    ·rfl
   subst hn2
   refine bn (late := [5]) (plan := [(0, none), (3, none), (1, some true), (2, some true), (4, some true), (5, some false), (6, none)]) (fun w' => Blk w' g11 34 qs ∧ Blk w' g12 34 ts) bD (by kernel_rfl) ⟨hb1114.drew, hb1214.drew⟩ ?_
   repeat' (first|refine aY rfl (fun _ h => h.1) hql ?_|refine aY rfl (fun _ h => h.2) htl ?_)
   refine au (bV (z := 1) (by omega) (by omega) _) rfl ?_
   rintro v w15 ⟨hI15, hE15⟩
   refine ⟨fun _ h => ⟨h.1.ext hE15, h.2.ext hE15⟩, ?_⟩
   skip
   refine au (cu ((hzq14.ext hE15).k (k := p) (ol hNq)) (hI15.k (k := 1) (by decide)) (by omega) (by omega)) rfl ?_
   rintro v w16 ⟨hI16, hE16⟩
   obtain ⟨us, rfl, hul, huo⟩ := hI16.out
   refine ⟨fun _ h => ⟨h.1.ext hE16, h.2.ext hE16⟩, ?_⟩
   skip
   have hE516 : Ex w5 w16 := ((hE513.trans hE14).trans hE14d).trans (hE15.trans hE16)
   refine aF (n := 2) rfl rfl hul huo (hb4.ext hE516) rfl (fun w17 hc17 hb17 => ⟨fun _ h => ⟨h.1.chg hc17 (by omega), h.2.chg hc17 (by omega)⟩, ?_⟩)
   refine aF (n := 2) rfl rfl htl hto ((hb5.ext hE516).chg hc17 (by omega)) rfl (fun w18 hc18 hb18 => ⟨fun _ h => ⟨h.1.chg hc18 (by omega), h.2.chg hc18 (by omega)⟩, ?_⟩)
   repeat' (first|refine aj rfl ?_|refine aa ?_|refine ah ?_|refine aK ?_|refine bf ?_)
   have e15 := hE15.size
   have hqv : sgn (!(true == true)) (natOf l1 / natOf l2) + 1 = sgn true (natOf l1) / sgn true (natOf l2) := by
    show ((natOf l1 / natOf l2 : Nat) : Int) + 1 = -((natOf l1 : Nat) : Int) / -((natOf l2 : Nat) : Int)
    exact hd3.2.2.1.symm
   obtain ⟨f1, f2, f3⟩ := hfin (wd := w) (hE15.trans hE16) (hI16.mono (by omega)) hc17 hc18 hqv
   exact eJ rfl (rc rfl hul (hb17.chg hc18 (by omega))) (rc rfl htl hb18) (rt rfl) ⟨_, _, rfl, f1, f2, f3⟩
  ·have hn2 : n2 = false := by
    cases n2
    ·rfl
    ·rename_i hc'
     have hc2 : ¬ (sgn true (natOf l2)).sign < 0 := by first|exact hc' | assumption
     have : sgn true (natOf l2) < 0 := by unfold sgn; simp; omega
     exact absurd (Int.sign_neg_iff.2 this) hc2
   subst hn2
   refine bn (late := [5]) (plan := [(0, none), (3, none), (1, some true), (2, some true), (4, some true), (5, some false), (6, none)]) (fun w' => Blk w' g11 34 qs ∧ Blk w' g12 34 ts) bD (by kernel_rfl) ⟨hb1114.drew, hb1214.drew⟩ ?_
   repeat' (first|refine aY rfl (fun _ h => h.1) hql ?_|refine aY rfl (fun _ h => h.2) htl ?_)
   refine au (bV (z := 1) (by omega) (by omega) _) rfl ?_
   rintro v w15 ⟨hI15, hE15⟩
   refine ⟨fun _ h => ⟨h.1.ext hE15, h.2.ext hE15⟩, ?_⟩
   skip
   refine au (kE ((hzq14.ext hE15).k (k := p) (ol hNq)) (hI15.k (k := 1) (by decide)) (by omega) (by omega)) rfl ?_
   rintro v w16 ⟨hI16, hE16⟩
   obtain ⟨us, rfl, hul, huo⟩ := hI16.out
   refine ⟨fun _ h => ⟨h.1.ext hE16, h.2.ext hE16⟩, ?_⟩
   skip
   have hE516 : Ex w5 w16 := ((hE513.trans hE14).trans hE14d).trans (hE15.trans hE16)
   refine aF (n := 2) rfl rfl hul huo (hb4.ext hE516) rfl (fun w17 hc17 hb17 => ⟨fun _ h => ⟨h.1.chg hc17 (by omega), h.2.chg hc17 (by omega)⟩, ?_⟩)
   refine aF (n := 2) rfl rfl htl hto ((hb5.ext hE516).chg hc17 (by omega)) rfl (fun w18 hc18 hb18 => ⟨fun _ h => ⟨h.1.chg hc18 (by omega), h.2.chg hc18 (by omega)⟩, ?_⟩)
   repeat' (first|refine aj rfl ?_|refine aa ?_|refine ah ?_|refine aK ?_|refine bf ?_)
   have e15 := hE15.size
   have hqv : sgn (!(true == false)) (natOf l1 / natOf l2) - 1 = sgn true (natOf l1) / sgn false (natOf l2) := by
    show -((natOf l1 / natOf l2 : Nat) : Int) - 1 = -((natOf l1 : Nat) : Int) / ((natOf l2 : Nat) : Int)
    exact hd3.1.symm
   obtain ⟨f1, f2, f3⟩ := hfin (wd := w) (hE15.trans hE16) (hI16.mono (by omega)) hc17 hc18 hqv
   exact eJ rfl (rc rfl hul (hb17.chg hc18 (by omega))) (rc rfl htl hb18) (rt rfl) ⟨_, _, rfl, f1, f2, f3⟩
 ·have hval : sgn (!(n1 == n2)) (natOf l1 / natOf l2) = sgn n1 (natOf l1) / sgn n2 (natOf l2) ∧ sgn n1 (natOf l1 % natOf l2) = sgn n1 (natOf l1) % sgn n2 (natOf l2) := by
   cases n1
   ·cases n2
    ·exact ⟨hdv.1.1.symm, hdv.1.2.symm⟩
    ·exact ⟨hdv.2.1.1.symm, hdv.2.1.2.symm⟩
   ·have hr0 : natOf l1 % natOf l2 = 0 := by
     rcases Nat.eq_zero_or_pos (natOf l1 % natOf l2) with h | h
     ·exact h
     ·exfalso
      rename_i hc'
      have hc2 : ¬ (sgn true (natOf l1 % natOf l2)).sign < 0 := by first|exact hc' | assumption
      have : sgn true (natOf l1 % natOf l2) < 0 := by unfold sgn; simp; omega
      exact absurd (Int.sign_neg_iff.2 this) hc2
    have hd3 := hdv.2.2.1 hr0
    rw [hr0]
    cases n2
    ·exact ⟨hd3.1.symm, hd3.2.1.symm⟩
    ·exact ⟨hd3.2.2.1.symm, hd3.2.2.2.symm⟩
  refine bn (late := [3]) (plan := [(0, none), (1, none), (2, some true), (3, some false), (4, none)]) (fun w' => Blk w' g11 34 qs ∧ Blk w' g12 34 rs) bD (by kernel_rfl) ⟨hb11'.drew, hb12'.drew⟩ ?_
  repeat' (first|refine aY rfl (fun _ h => h.1) hql ?_|refine aY rfl (fun _ h => h.2) hrl ?_)
  refine aF (n := 2) rfl rfl hql hqo (hb4.ext hEe) rfl (fun w11 hc11 hb4' => ⟨fun _ h => ⟨h.1.chg hc11 (by omega), h.2.chg hc11 (by omega)⟩, ?_⟩)
  refine aF (n := 2) rfl rfl hrl hro ((hb5.ext hEe).chg hc11 (by omega)) rfl (fun w12 hc12 hb5' => ⟨fun _ h => ⟨h.1.chg hc12 (by omega), h.2.chg hc12 (by omega)⟩, ?_⟩)
  repeat' (first|refine aj rfl ?_|refine aa ?_|refine ah ?_|refine aK ?_)
  have hq12 := ((((hzq.ext hE10).ext hEd).chg hc11 (by omega)).chg hc12 (by omega)).mono (lo' := w.heap.size) (by omega)
  have hr12 := ((((hzr.ext hE10).ext hEd).chg hc11 (by omega)).chg hc12 (by omega)).mono (lo' := w.heap.size) (by omega)
  rw [hval.1] at hq12
  rw [hval.2] at hr12
  exact eJ rfl (rc rfl hql (hb4'.chg hc12 (by omega))) (rc rfl hrl hb5') (rt rfl) ⟨_, _, rfl, hq12, by rw [if_neg hyne]; exact hr12, ((hE.trans hEe).chg hc11 (by omega)).chg hc12 (by omega)⟩
end Go.Proofs.YtpfhfldehaiokaaGreat
