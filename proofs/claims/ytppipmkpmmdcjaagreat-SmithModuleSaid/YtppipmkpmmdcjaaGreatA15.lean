import Derived.Test.YtppipmkpmmdcjaaGreatA14
namespace Go.Proofs.YtppipmkpmmdcjaaGreat
open Go.W Go.LM
theorem nj {n : Bool} {m k : Nat} (h : m < 4294967296 ^ k) : (sgn n m).natAbs < 4294967296 ^ k := by rw [ef]; exact h
set_option maxHeartbeats 2000000 in
theorem lk {p q : Nat} {v1 v2 : Value} {x y : Int} {w : World} (h1 : IntK p w v1 x) (h2 : IntK q w v2 y) (hp : p < 17592186044415) (hq : q < 17592186044415) :
  CallsR Tryz.prog 36 #[v1, v2] w fun v w' => ∃ q r, v = .tuple #[q, r, .bool (decide (y ≠ 0))] ∧ IntC w.heap.size w' q (x / y) ∧ IntC w.heap.size w' r (if y = 0 then 0 else x % y) ∧ Ex w w' := by
 have h2s := h2
 obtain ⟨n1, a1, c1, l1, rfl, hL1, rfl, hp1⟩ := h1
 obtain ⟨n2, a2, c2, l2, rfl, hL2, rfl, hq1⟩ := h2
 have tl1 := cI l1
 have tl2 := cI l2
 have hz : (trimL l2).length = 0 ↔ natOf l2 = 0 := by
  rw [← cE]
  exact List.length_eq_zero_iff
 have hy0 : sgn n2 (natOf l2) = 0 ↔ natOf l2 = 0 := by unfold sgn; split <;> omega
 refine aH (args := [_, _]) Tryz.func36 rfl rfl ?_
 refine aj ?_
 refine ah rfl ?_
 refine bH rfl (fun g2 w2 hn2 => ⟨fun _ _ => trivial, ?_⟩)
 refine bH rfl (fun g3 w3 hn3 => ⟨fun _ _ => trivial, ?_⟩)
 refine aB (fun g4 w4 hn4 => ⟨fun _ _ => trivial, ?_⟩)
 refine aB (fun g5 w5 hn5 => ⟨fun _ _ => trivial, ?_⟩)
 have hb2 := ((hn2.blk.ext hn3.ex).ext hn4.ex).ext hn5.ex
 have hb3 := (hn3.blk.ext hn4.ex).ext hn5.ex
 have hb4 : Blk w5 g4 33 (intL false none 0 0) := Blk.ext (cs := intL false none 0 0) hn4.blk hn5.ex
 have hb5 : Blk w5 g5 33 (intL false none 0 0) := hn5.blk
 have hE := ((hn2.ex.trans hn3.ex).trans hn4.ex).trans hn5.ex
 have l4 := hn4.lo
 have l4' := hn4.hi
 have l5 := hn5.lo
 have l5' := hn5.hi
 have s3 := (hn2.ex.trans hn3.ex).size
 repeat' (first|refine ai rfl ?_|refine aa ?_|refine aj ?_|refine ae ?_)
 refine bi (late := []) (plan := [(0, none), (1, none), (3, none), (4, none), (2, some true), (5, some true), (6, none), (7, none)]) (fun w' => Ex w5 w') bB (by kernel_rfl) (Ex.refl w5).drew ?_
 have hE5d : Ex w5 w5.drew := (Ex.refl w5).drew
 repeat' (first|refine aQ rfl (fun _ h => hb2.ext h) rfl ?_|refine aQ rfl (fun _ h => hb3.ext h) rfl ?_|refine aG rfl ?_)
 refine av (cz (hL1.ext (hE.trans hE5d))) rfl ?_
 rintro v w6 ⟨a6, c6, rfl, hL6, hf6, hE6⟩
 refine ⟨fun _ h => h.trans hE6, ?_⟩
 refine av (cz (hL2.ext ((hE.trans hE5d).trans hE6))) rfl ?_
 rintro v w7 ⟨a7, c7, rfl, hL7, hf7, hE7⟩
 refine ⟨fun _ h => h.trans hE7, ?_⟩
 have hE57 : Ex w5 w7 := (hE5d.trans hE6).trans hE7
 repeat' (first|refine ai rfl ?_|refine aa ?_|refine aj ?_|refine ah rfl ?_|refine ae ?_|refine bh rfl ?_|refine aP rfl (fun hc => ?_) (fun hc => ?_)|refine aF ?_)
 ·have h0 : natOf l2 = 0 := hz.1 (by omega)
  refine cL (cs := intL false none 0 0) rfl ?_
  refine cL (cs := intL false none 0 0) rfl ?_
  refine ax (n := 2) rfl rfl rfl rfl (hb4.ext hE57) rfl (fun w8 hc8 hb8 => ⟨fun _ _ => trivial, ?_⟩)
  refine ax (n := 2) rfl rfl rfl rfl ((hb5.ext hE57).chg hc8 (by omega)) rfl (fun w9 hc9 hb9 => ⟨fun _ _ => trivial, ?_⟩)
  repeat' (first|refine ai rfl ?_|refine aa ?_|refine ae ?_|refine aR ?_|refine bv ?_)
  have hy := hy0.2 h0
  rw [hy]
  exact fM rfl (rc rfl rfl (hb8.chg hc9 (by omega))) (rc rfl rfl hb9) (rt rfl) ⟨_, _, rfl, by rw [Int.ediv_zero]; exact IntC.zero _ _, by rw [if_pos rfl]; exact IntC.zero _ _, ((hE.trans hE57).chg hc8 (by omega)).chg hc9 (by omega)⟩
 have hpos : 0 < natOf l2 := by
  rcases Nat.eq_zero_or_pos (natOf l2) with h | h
  ·have := hz.2 h; omega
  ·exact h
 have hyne : sgn n2 (natOf l2) ≠ 0 := fun e => by have := hy0.1 e; omega
 refine av (lj (hL6.ext hE7) hL7 (by omega) (by omega) (bD _) (by rw [bf]; exact hpos)) rfl ?_
 rintro v w8 ⟨a8, c8, l8, a9, c9, l9, rfl, hL8, hL9, hq8, hq9, hE8⟩
 rw [bf, bf] at hq8 hq9
 refine ⟨fun _ _ => trivial, ?_⟩
 have hE58 := hE57.trans hE8
 have s58 := hE58.size
 repeat' (first|refine ai rfl ?_|refine aa ?_|refine aj ?_|refine ae ?_)
 have hEx : Ex w8 w8.drew := (Ex.refl w8).drew
 refine cD (ι := Nat × Nat × List Value × List Value) [11, 12, 30, 31, 32, 33, 34, 35, 36, 37, 38, 39, 40] (fun s => [(11, .pointer (some ⟨s.1, 0, none⟩)), (12, .pointer (some ⟨s.2.1, 0, none⟩))])
  (fun s w' => Ex w8 w' ∧ (w8.heap.size ≤ s.1 ∧ w8.heap.size ≤ s.2.1) ∧ Blk w' s.1 33 s.2.2.1 ∧ Blk w' s.2.1 33 s.2.2.2 ∧ s.2.2.1.length = 2 ∧ s.2.2.2.length = 2 ∧ s.2.2.1.all Value.oneCell' = true ∧ s.2.2.2.all Value.oneCell' = true ∧ IntC w8.heap.size w' (.agg s.2.2.1.toArray) (sgn (!(n1 == n2)) (natOf l1 / natOf l2)) ∧ IntC w8.heap.size w' (.agg s.2.2.2.toArray) (sgn n1 (natOf l1 % natOf l2)) ∧ Off s.2.1 (.agg s.2.2.1.toArray) ∧ s.1 ≠ s.2.1) ?_ ?_
 refine dN (fun w' => Ex w8 w') bB hEx ?_
 refine bp (fuel := 6) (by kernel_rfl) (by kernel_rfl) [0, 1, 2, 3, 4, 5, 7, 8, 9] _ _ (by kernel_rfl) ?_
 repeat' (first|refine aQ rfl (fun _ h => (hb2.ext hE58).ext h) rfl ?_|refine aQ rfl (fun _ h => (hb3.ext hE58).ext h) rfl ?_|refine ai rfl ?_|refine ae ?_|refine aG rfl ?_|refine gF rfl rfl ?_)
 refine az (fuel := 5) (rs := [6, 11, 12]) (by kernel_rfl) (by kernel_rfl) rfl ?_
 simp only [List.forall_mem_cons, List.not_mem_nil, false_implies, implies_true, and_true]
 refine ⟨?_, ?_, ?_⟩
 ·refine av (bj (hL8.ext hEx) _) rfl ?_
  rintro v6 w6' ⟨hz6, hE6'⟩
  refine ⟨fun _ h => h.trans hE6', ?_⟩
  rw [hq8] at hz6
  obtain ⟨qs, rfl, hql, hqo⟩ := hz6.out
  replace hz6 := hz6.mono (lo' := w8.heap.size) hEx.size
  replace hEx := hEx.trans hE6'
  refine ae ?_
  refine az (fuel := 4) (rs := [10, 11, 12]) (by kernel_rfl) (by kernel_rfl) rfl ?_
  simp only [List.forall_mem_cons, List.not_mem_nil, false_implies, implies_true, and_true]
  refine ⟨?_, ?_, ?_⟩
  ·refine av (bj (hL9.ext hEx) _) rfl ?_
   rintro v10 w10' ⟨hz10, hE10'⟩
   refine ⟨fun _ h => h.trans hE10', ?_⟩
   rw [hq9] at hz10
   obtain ⟨rs, rfl, hrl, hro⟩ := hz10.out
   replace hz10 := hz10.mono (lo' := w8.heap.size) hEx.size
   replace hz6 := hz6.ext hE10'
   replace hEx := hEx.trans hE10'
   refine ae ?_
   refine az (fuel := 3) (rs := [11, 12]) (by kernel_rfl) (by kernel_rfl) rfl ?_
   simp only [List.forall_mem_cons, List.not_mem_nil, false_implies, implies_true, and_true]
   refine ⟨?_, ?_⟩
   ·refine aB (fun g11 w11 hn11 => ⟨fun _ h => h.trans hn11.ex, ?_⟩)
    have off11q : Off g11 (.agg qs.toArray) := hz6.off_hi hn11.lo
    have off11r : Off g11 (.agg rs.toArray) := hz10.off_hi hn11.lo
    have lo11 : w8.heap.size ≤ g11 := Nat.le_trans hEx.size hn11.lo
    have hb11 := hn11.blk
    replace hEx := hEx.trans hn11.ex
    replace hz6 := hz6.ext hn11.ex
    replace hz10 := hz10.ext hn11.ex
    refine ae ?_
    refine az (fuel := 2) (rs := [12]) (by kernel_rfl) (by kernel_rfl) rfl ?_
    rw [List.forall_mem_singleton]
    refine aB (fun g12 w12 hn12 => ⟨fun _ h => h.trans hn12.ex, ?_⟩)
    have off12q : Off g12 (.agg qs.toArray) := hz6.off_hi hn12.lo
    have off12r : Off g12 (.agg rs.toArray) := hz10.off_hi hn12.lo
    have hne : g11 ≠ g12 := (by have := hb11.lt; have := hn12.lo; omega)
    have lo12 : w8.heap.size ≤ g12 := Nat.le_trans hEx.size hn12.lo
    have hb12 := hn12.blk
    replace hEx := hEx.trans hn12.ex
    replace hz6 := hz6.ext hn12.ex
    replace hz10 := hz10.ext hn12.ex
    replace hb11 := hb11.ext hn12.ex
    refine ae ?_
    refine az (fuel := 1) (rs := [13]) (by kernel_rfl) (by kernel_rfl) rfl ?_
    rw [List.forall_mem_singleton]
    refine ax (n := 2) rfl rfl hql hqo hb11 (by first|rfl | assumption) (fun w13 hc13 hb11' => ⟨fun _ h => h.chg hc13 (by omega), ?_⟩)
    replace hEx := hEx.chg hc13 (by omega)
    replace hz6 := hz6.chgO hc13 off11q
    replace hz10 := hz10.chgO hc13 off11r
    replace hb11 := hb11'
    replace hb12 := hb12.chg hc13 (Ne.symm hne)
    refine ae ?_
    refine az (fuel := 0) (rs := [14]) (by kernel_rfl) (by kernel_rfl) rfl ?_
    rw [List.forall_mem_singleton]
    refine ax (n := 2) rfl rfl hrl hro hb12 (by first|rfl | assumption) (fun w14 hc14 hb12' => ⟨fun _ h => h.chg hc14 (by omega), ?_⟩)
    replace hEx := hEx.chg hc14 (by omega)
    replace hz6 := hz6.chgO hc14 off12q
    replace hz10 := hz10.chgO hc14 off12r
    replace hb12 := hb12'
    replace hb11 := hb11.chg hc14 hne
    refine ae ?_
    refine bw (by kernel_rfl) ?_
    exact aa ⟨⟨(g11, g12, qs, rs), ⟨hEx, ⟨lo11, lo12⟩, hb11, hb12, hql, hrl, hqo, hro, hz6, hz10, off12q, hne⟩, rfl, rfl, trivial⟩, (by (repeat (first|exact aM _ _|refine aw rfl ?_|refine au rfl ?_|refine ak rfl ?_|refine ao rfl ?_)))⟩
   ·refine aB (fun g12 w12 hn12 => ⟨fun _ h => h.trans hn12.ex, ?_⟩)
    have off12q : Off g12 (.agg qs.toArray) := hz6.off_hi hn12.lo
    have off12r : Off g12 (.agg rs.toArray) := hz10.off_hi hn12.lo
    have lo12 : w8.heap.size ≤ g12 := Nat.le_trans hEx.size hn12.lo
    have hb12 := hn12.blk
    replace hEx := hEx.trans hn12.ex
    replace hz6 := hz6.ext hn12.ex
    replace hz10 := hz10.ext hn12.ex
    refine ae ?_
    refine az (fuel := 2) (rs := [11]) (by kernel_rfl) (by kernel_rfl) rfl ?_
    rw [List.forall_mem_singleton]
    refine aB (fun g11 w11 hn11 => ⟨fun _ h => h.trans hn11.ex, ?_⟩)
    have off11q : Off g11 (.agg qs.toArray) := hz6.off_hi hn11.lo
    have off11r : Off g11 (.agg rs.toArray) := hz10.off_hi hn11.lo
    have hne : g11 ≠ g12 := (by have := hb12.lt; have := hn11.lo; omega)
    have lo11 : w8.heap.size ≤ g11 := Nat.le_trans hEx.size hn11.lo
    have hb11 := hn11.blk
    replace hEx := hEx.trans hn11.ex
    replace hz6 := hz6.ext hn11.ex
    replace hz10 := hz10.ext hn11.ex
    replace hb12 := hb12.ext hn11.ex
    refine ae ?_
    refine az (fuel := 1) (rs := [13]) (by kernel_rfl) (by kernel_rfl) rfl ?_
    rw [List.forall_mem_singleton]
    refine ax (n := 2) rfl rfl hql hqo hb11 (by first|rfl | assumption) (fun w13 hc13 hb11' => ⟨fun _ h => h.chg hc13 (by omega), ?_⟩)
    replace hEx := hEx.chg hc13 (by omega)
    replace hz6 := hz6.chgO hc13 off11q
    replace hz10 := hz10.chgO hc13 off11r
    replace hb11 := hb11'
    replace hb12 := hb12.chg hc13 (Ne.symm hne)
    refine ae ?_
    refine az (fuel := 0) (rs := [14]) (by kernel_rfl) (by kernel_rfl) rfl ?_
    rw [List.forall_mem_singleton]
    refine ax (n := 2) rfl rfl hrl hro hb12 (by first|rfl | assumption) (fun w14 hc14 hb12' => ⟨fun _ h => h.chg hc14 (by omega), ?_⟩)
    replace hEx := hEx.chg hc14 (by omega)
    replace hz6 := hz6.chgO hc14 off12q
    replace hz10 := hz10.chgO hc14 off12r
    replace hb12 := hb12'
    replace hb11 := hb11.chg hc14 hne
    refine ae ?_
    refine bw (by kernel_rfl) ?_
    exact aa ⟨⟨(g11, g12, qs, rs), ⟨hEx, ⟨lo11, lo12⟩, hb11, hb12, hql, hrl, hqo, hro, hz6, hz10, off12q, hne⟩, rfl, rfl, trivial⟩, (by (repeat (first|exact aM _ _|refine aw rfl ?_|refine au rfl ?_|refine ak rfl ?_|refine ao rfl ?_)))⟩
  ·refine aB (fun g11 w11 hn11 => ⟨fun _ h => h.trans hn11.ex, ?_⟩)
   have off11q : Off g11 (.agg qs.toArray) := hz6.off_hi hn11.lo
   have lo11 : w8.heap.size ≤ g11 := Nat.le_trans hEx.size hn11.lo
   have hb11 := hn11.blk
   replace hEx := hEx.trans hn11.ex
   replace hz6 := hz6.ext hn11.ex
   refine ae ?_
   refine az (fuel := 3) (rs := [10, 12]) (by kernel_rfl) (by kernel_rfl) rfl ?_
   simp only [List.forall_mem_cons, List.not_mem_nil, false_implies, implies_true, and_true]
   refine ⟨?_, ?_⟩
   ·refine av (bj (hL9.ext hEx) _) rfl ?_
    rintro v10 w10' ⟨hz10, hE10'⟩
    refine ⟨fun _ h => h.trans hE10', ?_⟩
    rw [hq9] at hz10
    obtain ⟨rs, rfl, hrl, hro⟩ := hz10.out
    have off11r : Off g11 (.agg rs.toArray) := hz10.off_lo hb11.lt
    replace hz10 := hz10.mono (lo' := w8.heap.size) hEx.size
    replace hz6 := hz6.ext hE10'
    replace hEx := hEx.trans hE10'
    replace hb11 := hb11.ext hE10'
    refine ae ?_
    refine az (fuel := 2) (rs := [12]) (by kernel_rfl) (by kernel_rfl) rfl ?_
    rw [List.forall_mem_singleton]
    refine aB (fun g12 w12 hn12 => ⟨fun _ h => h.trans hn12.ex, ?_⟩)
    have off12q : Off g12 (.agg qs.toArray) := hz6.off_hi hn12.lo
    have off12r : Off g12 (.agg rs.toArray) := hz10.off_hi hn12.lo
    have hne : g11 ≠ g12 := (by have := hb11.lt; have := hn12.lo; omega)
    have lo12 : w8.heap.size ≤ g12 := Nat.le_trans hEx.size hn12.lo
    have hb12 := hn12.blk
    replace hEx := hEx.trans hn12.ex
    replace hz6 := hz6.ext hn12.ex
    replace hz10 := hz10.ext hn12.ex
    replace hb11 := hb11.ext hn12.ex
    refine ae ?_
    refine az (fuel := 1) (rs := [13]) (by kernel_rfl) (by kernel_rfl) rfl ?_
    rw [List.forall_mem_singleton]
    refine ax (n := 2) rfl rfl hql hqo hb11 (by first|rfl | assumption) (fun w13 hc13 hb11' => ⟨fun _ h => h.chg hc13 (by omega), ?_⟩)
    replace hEx := hEx.chg hc13 (by omega)
    replace hz6 := hz6.chgO hc13 off11q
    replace hz10 := hz10.chgO hc13 off11r
    replace hb11 := hb11'
    replace hb12 := hb12.chg hc13 (Ne.symm hne)
    refine ae ?_
    refine az (fuel := 0) (rs := [14]) (by kernel_rfl) (by kernel_rfl) rfl ?_
    rw [List.forall_mem_singleton]
    refine ax (n := 2) rfl rfl hrl hro hb12 (by first|rfl | assumption) (fun w14 hc14 hb12' => ⟨fun _ h => h.chg hc14 (by omega), ?_⟩)
    replace hEx := hEx.chg hc14 (by omega)
    replace hz6 := hz6.chgO hc14 off12q
    replace hz10 := hz10.chgO hc14 off12r
    replace hb12 := hb12'
    replace hb11 := hb11.chg hc14 hne
    refine ae ?_
    refine bw (by kernel_rfl) ?_
    exact aa ⟨⟨(g11, g12, qs, rs), ⟨hEx, ⟨lo11, lo12⟩, hb11, hb12, hql, hrl, hqo, hro, hz6, hz10, off12q, hne⟩, rfl, rfl, trivial⟩, (by (repeat (first|exact aM _ _|refine aw rfl ?_|refine au rfl ?_|refine ak rfl ?_|refine ao rfl ?_)))⟩
   ·refine aB (fun g12 w12 hn12 => ⟨fun _ h => h.trans hn12.ex, ?_⟩)
    have off12q : Off g12 (.agg qs.toArray) := hz6.off_hi hn12.lo
    have hne : g11 ≠ g12 := (by have := hb11.lt; have := hn12.lo; omega)
    have lo12 : w8.heap.size ≤ g12 := Nat.le_trans hEx.size hn12.lo
    have hb12 := hn12.blk
    replace hEx := hEx.trans hn12.ex
    replace hz6 := hz6.ext hn12.ex
    replace hb11 := hb11.ext hn12.ex
    refine ae ?_
    refine az (fuel := 2) (rs := [10]) (by kernel_rfl) (by kernel_rfl) rfl ?_
    rw [List.forall_mem_singleton]
    refine av (bj (hL9.ext hEx) _) rfl ?_
    rintro v10 w10' ⟨hz10, hE10'⟩
    refine ⟨fun _ h => h.trans hE10', ?_⟩
    rw [hq9] at hz10
    obtain ⟨rs, rfl, hrl, hro⟩ := hz10.out
    have off11r : Off g11 (.agg rs.toArray) := hz10.off_lo hb11.lt
    have off12r : Off g12 (.agg rs.toArray) := hz10.off_lo hb12.lt
    replace hz10 := hz10.mono (lo' := w8.heap.size) hEx.size
    replace hz6 := hz6.ext hE10'
    replace hEx := hEx.trans hE10'
    replace hb11 := hb11.ext hE10'
    replace hb12 := hb12.ext hE10'
    refine ae ?_
    refine az (fuel := 1) (rs := [13]) (by kernel_rfl) (by kernel_rfl) rfl ?_
    rw [List.forall_mem_singleton]
    refine ax (n := 2) rfl rfl hql hqo hb11 (by first|rfl | assumption) (fun w13 hc13 hb11' => ⟨fun _ h => h.chg hc13 (by omega), ?_⟩)
    replace hEx := hEx.chg hc13 (by omega)
    replace hz6 := hz6.chgO hc13 off11q
    replace hz10 := hz10.chgO hc13 off11r
    replace hb11 := hb11'
    replace hb12 := hb12.chg hc13 (Ne.symm hne)
    refine ae ?_
    refine az (fuel := 0) (rs := [14]) (by kernel_rfl) (by kernel_rfl) rfl ?_
    rw [List.forall_mem_singleton]
    refine ax (n := 2) rfl rfl hrl hro hb12 (by first|rfl | assumption) (fun w14 hc14 hb12' => ⟨fun _ h => h.chg hc14 (by omega), ?_⟩)
    replace hEx := hEx.chg hc14 (by omega)
    replace hz6 := hz6.chgO hc14 off12q
    replace hz10 := hz10.chgO hc14 off12r
    replace hb12 := hb12'
    replace hb11 := hb11.chg hc14 hne
    refine ae ?_
    refine bw (by kernel_rfl) ?_
    exact aa ⟨⟨(g11, g12, qs, rs), ⟨hEx, ⟨lo11, lo12⟩, hb11, hb12, hql, hrl, hqo, hro, hz6, hz10, off12q, hne⟩, rfl, rfl, trivial⟩, (by (repeat (first|exact aM _ _|refine aw rfl ?_|refine au rfl ?_|refine ak rfl ?_|refine ao rfl ?_)))⟩
  ·refine aB (fun g12 w12 hn12 => ⟨fun _ h => h.trans hn12.ex, ?_⟩)
   have off12q : Off g12 (.agg qs.toArray) := hz6.off_hi hn12.lo
   have lo12 : w8.heap.size ≤ g12 := Nat.le_trans hEx.size hn12.lo
   have hb12 := hn12.blk
   replace hEx := hEx.trans hn12.ex
   replace hz6 := hz6.ext hn12.ex
   refine ae ?_
   refine az (fuel := 3) (rs := [10, 11]) (by kernel_rfl) (by kernel_rfl) rfl ?_
   simp only [List.forall_mem_cons, List.not_mem_nil, false_implies, implies_true, and_true]
   refine ⟨?_, ?_⟩
   ·refine av (bj (hL9.ext hEx) _) rfl ?_
    rintro v10 w10' ⟨hz10, hE10'⟩
    refine ⟨fun _ h => h.trans hE10', ?_⟩
    rw [hq9] at hz10
    obtain ⟨rs, rfl, hrl, hro⟩ := hz10.out
    have off12r : Off g12 (.agg rs.toArray) := hz10.off_lo hb12.lt
    replace hz10 := hz10.mono (lo' := w8.heap.size) hEx.size
    replace hz6 := hz6.ext hE10'
    replace hEx := hEx.trans hE10'
    replace hb12 := hb12.ext hE10'
    refine ae ?_
    refine az (fuel := 2) (rs := [11]) (by kernel_rfl) (by kernel_rfl) rfl ?_
    rw [List.forall_mem_singleton]
    refine aB (fun g11 w11 hn11 => ⟨fun _ h => h.trans hn11.ex, ?_⟩)
    have off11q : Off g11 (.agg qs.toArray) := hz6.off_hi hn11.lo
    have off11r : Off g11 (.agg rs.toArray) := hz10.off_hi hn11.lo
    have hne : g11 ≠ g12 := (by have := hb12.lt; have := hn11.lo; omega)
    have lo11 : w8.heap.size ≤ g11 := Nat.le_trans hEx.size hn11.lo
    have hb11 := hn11.blk
    replace hEx := hEx.trans hn11.ex
    replace hz6 := hz6.ext hn11.ex
    replace hz10 := hz10.ext hn11.ex
    replace hb12 := hb12.ext hn11.ex
    refine ae ?_
    refine az (fuel := 1) (rs := [13]) (by kernel_rfl) (by kernel_rfl) rfl ?_
    rw [List.forall_mem_singleton]
    refine ax (n := 2) rfl rfl hql hqo hb11 (by first|rfl | assumption) (fun w13 hc13 hb11' => ⟨fun _ h => h.chg hc13 (by omega), ?_⟩)
    replace hEx := hEx.chg hc13 (by omega)
    replace hz6 := hz6.chgO hc13 off11q
    replace hz10 := hz10.chgO hc13 off11r
    replace hb11 := hb11'
    replace hb12 := hb12.chg hc13 (Ne.symm hne)
    refine ae ?_
    refine az (fuel := 0) (rs := [14]) (by kernel_rfl) (by kernel_rfl) rfl ?_
    rw [List.forall_mem_singleton]
    refine ax (n := 2) rfl rfl hrl hro hb12 (by first|rfl | assumption) (fun w14 hc14 hb12' => ⟨fun _ h => h.chg hc14 (by omega), ?_⟩)
    replace hEx := hEx.chg hc14 (by omega)
    replace hz6 := hz6.chgO hc14 off12q
    replace hz10 := hz10.chgO hc14 off12r
    replace hb12 := hb12'
    replace hb11 := hb11.chg hc14 hne
    refine ae ?_
    refine bw (by kernel_rfl) ?_
    exact aa ⟨⟨(g11, g12, qs, rs), ⟨hEx, ⟨lo11, lo12⟩, hb11, hb12, hql, hrl, hqo, hro, hz6, hz10, off12q, hne⟩, rfl, rfl, trivial⟩, (by (repeat (first|exact aM _ _|refine aw rfl ?_|refine au rfl ?_|refine ak rfl ?_|refine ao rfl ?_)))⟩
   ·refine aB (fun g11 w11 hn11 => ⟨fun _ h => h.trans hn11.ex, ?_⟩)
    have off11q : Off g11 (.agg qs.toArray) := hz6.off_hi hn11.lo
    have hne : g11 ≠ g12 := (by have := hb12.lt; have := hn11.lo; omega)
    have lo11 : w8.heap.size ≤ g11 := Nat.le_trans hEx.size hn11.lo
    have hb11 := hn11.blk
    replace hEx := hEx.trans hn11.ex
    replace hz6 := hz6.ext hn11.ex
    replace hb12 := hb12.ext hn11.ex
    refine ae ?_
    refine az (fuel := 2) (rs := [10]) (by kernel_rfl) (by kernel_rfl) rfl ?_
    rw [List.forall_mem_singleton]
    refine av (bj (hL9.ext hEx) _) rfl ?_
    rintro v10 w10' ⟨hz10, hE10'⟩
    refine ⟨fun _ h => h.trans hE10', ?_⟩
    rw [hq9] at hz10
    obtain ⟨rs, rfl, hrl, hro⟩ := hz10.out
    have off11r : Off g11 (.agg rs.toArray) := hz10.off_lo hb11.lt
    have off12r : Off g12 (.agg rs.toArray) := hz10.off_lo hb12.lt
    replace hz10 := hz10.mono (lo' := w8.heap.size) hEx.size
    replace hz6 := hz6.ext hE10'
    replace hEx := hEx.trans hE10'
    replace hb11 := hb11.ext hE10'
    replace hb12 := hb12.ext hE10'
    refine ae ?_
    refine az (fuel := 1) (rs := [13]) (by kernel_rfl) (by kernel_rfl) rfl ?_
    rw [List.forall_mem_singleton]
    refine ax (n := 2) rfl rfl hql hqo hb11 (by first|rfl | assumption) (fun w13 hc13 hb11' => ⟨fun _ h => h.chg hc13 (by omega), ?_⟩)
    replace hEx := hEx.chg hc13 (by omega)
    replace hz6 := hz6.chgO hc13 off11q
    replace hz10 := hz10.chgO hc13 off11r
    replace hb11 := hb11'
    replace hb12 := hb12.chg hc13 (Ne.symm hne)
    refine ae ?_
    refine az (fuel := 0) (rs := [14]) (by kernel_rfl) (by kernel_rfl) rfl ?_
    rw [List.forall_mem_singleton]
    refine ax (n := 2) rfl rfl hrl hro hb12 (by first|rfl | assumption) (fun w14 hc14 hb12' => ⟨fun _ h => h.chg hc14 (by omega), ?_⟩)
    replace hEx := hEx.chg hc14 (by omega)
    replace hz6 := hz6.chgO hc14 off12q
    replace hz10 := hz10.chgO hc14 off12r
    replace hb12 := hb12'
    replace hb11 := hb11.chg hc14 hne
    refine ae ?_
    refine bw (by kernel_rfl) ?_
    exact aa ⟨⟨(g11, g12, qs, rs), ⟨hEx, ⟨lo11, lo12⟩, hb11, hb12, hql, hrl, hqo, hro, hz6, hz10, off12q, hne⟩, rfl, rfl, trivial⟩, (by (repeat (first|exact aM _ _|refine aw rfl ?_|refine au rfl ?_|refine ak rfl ?_|refine ao rfl ?_)))⟩
 ·refine aB (fun g11 w11 hn11 => ⟨fun _ h => h.trans hn11.ex, ?_⟩)
  have lo11 : w8.heap.size ≤ g11 := Nat.le_trans hEx.size hn11.lo
  have hb11 := hn11.blk
  replace hEx := hEx.trans hn11.ex
  refine ae ?_
  refine az (fuel := 4) (rs := [6, 12]) (by kernel_rfl) (by kernel_rfl) rfl ?_
  simp only [List.forall_mem_cons, List.not_mem_nil, false_implies, implies_true, and_true]
  refine ⟨?_, ?_⟩
  ·refine av (bj (hL8.ext hEx) _) rfl ?_
   rintro v6 w6' ⟨hz6, hE6'⟩
   refine ⟨fun _ h => h.trans hE6', ?_⟩
   rw [hq8] at hz6
   obtain ⟨qs, rfl, hql, hqo⟩ := hz6.out
   have off11q : Off g11 (.agg qs.toArray) := hz6.off_lo hb11.lt
   replace hz6 := hz6.mono (lo' := w8.heap.size) hEx.size
   replace hEx := hEx.trans hE6'
   replace hb11 := hb11.ext hE6'
   refine ae ?_
   refine az (fuel := 3) (rs := [10, 12]) (by kernel_rfl) (by kernel_rfl) rfl ?_
   simp only [List.forall_mem_cons, List.not_mem_nil, false_implies, implies_true, and_true]
   refine ⟨?_, ?_⟩
   ·refine av (bj (hL9.ext hEx) _) rfl ?_
    rintro v10 w10' ⟨hz10, hE10'⟩
    refine ⟨fun _ h => h.trans hE10', ?_⟩
    rw [hq9] at hz10
    obtain ⟨rs, rfl, hrl, hro⟩ := hz10.out
    have off11r : Off g11 (.agg rs.toArray) := hz10.off_lo hb11.lt
    replace hz10 := hz10.mono (lo' := w8.heap.size) hEx.size
    replace hz6 := hz6.ext hE10'
    replace hEx := hEx.trans hE10'
    replace hb11 := hb11.ext hE10'
    refine ae ?_
    refine az (fuel := 2) (rs := [12]) (by kernel_rfl) (by kernel_rfl) rfl ?_
    rw [List.forall_mem_singleton]
    refine aB (fun g12 w12 hn12 => ⟨fun _ h => h.trans hn12.ex, ?_⟩)
    have off12q : Off g12 (.agg qs.toArray) := hz6.off_hi hn12.lo
    have off12r : Off g12 (.agg rs.toArray) := hz10.off_hi hn12.lo
    have hne : g11 ≠ g12 := (by have := hb11.lt; have := hn12.lo; omega)
    have lo12 : w8.heap.size ≤ g12 := Nat.le_trans hEx.size hn12.lo
    have hb12 := hn12.blk
    replace hEx := hEx.trans hn12.ex
    replace hz6 := hz6.ext hn12.ex
    replace hz10 := hz10.ext hn12.ex
    replace hb11 := hb11.ext hn12.ex
    refine ae ?_
    refine az (fuel := 1) (rs := [13]) (by kernel_rfl) (by kernel_rfl) rfl ?_
    rw [List.forall_mem_singleton]
    refine ax (n := 2) rfl rfl hql hqo hb11 (by first|rfl | assumption) (fun w13 hc13 hb11' => ⟨fun _ h => h.chg hc13 (by omega), ?_⟩)
    replace hEx := hEx.chg hc13 (by omega)
    replace hz6 := hz6.chgO hc13 off11q
    replace hz10 := hz10.chgO hc13 off11r
    replace hb11 := hb11'
    replace hb12 := hb12.chg hc13 (Ne.symm hne)
    refine ae ?_
    refine az (fuel := 0) (rs := [14]) (by kernel_rfl) (by kernel_rfl) rfl ?_
    rw [List.forall_mem_singleton]
    refine ax (n := 2) rfl rfl hrl hro hb12 (by first|rfl | assumption) (fun w14 hc14 hb12' => ⟨fun _ h => h.chg hc14 (by omega), ?_⟩)
    replace hEx := hEx.chg hc14 (by omega)
    replace hz6 := hz6.chgO hc14 off12q
    replace hz10 := hz10.chgO hc14 off12r
    replace hb12 := hb12'
    replace hb11 := hb11.chg hc14 hne
    refine ae ?_
    refine bw (by kernel_rfl) ?_
    exact aa ⟨⟨(g11, g12, qs, rs), ⟨hEx, ⟨lo11, lo12⟩, hb11, hb12, hql, hrl, hqo, hro, hz6, hz10, off12q, hne⟩, rfl, rfl, trivial⟩, (by (repeat (first|exact aM _ _|refine aw rfl ?_|refine au rfl ?_|refine ak rfl ?_|refine ao rfl ?_)))⟩
   ·refine aB (fun g12 w12 hn12 => ⟨fun _ h => h.trans hn12.ex, ?_⟩)
    have off12q : Off g12 (.agg qs.toArray) := hz6.off_hi hn12.lo
    have hne : g11 ≠ g12 := (by have := hb11.lt; have := hn12.lo; omega)
    have lo12 : w8.heap.size ≤ g12 := Nat.le_trans hEx.size hn12.lo
    have hb12 := hn12.blk
    replace hEx := hEx.trans hn12.ex
    replace hz6 := hz6.ext hn12.ex
    replace hb11 := hb11.ext hn12.ex
    refine ae ?_
    refine az (fuel := 2) (rs := [10]) (by kernel_rfl) (by kernel_rfl) rfl ?_
    rw [List.forall_mem_singleton]
    refine av (bj (hL9.ext hEx) _) rfl ?_
    rintro v10 w10' ⟨hz10, hE10'⟩
    refine ⟨fun _ h => h.trans hE10', ?_⟩
    rw [hq9] at hz10
    obtain ⟨rs, rfl, hrl, hro⟩ := hz10.out
    have off11r : Off g11 (.agg rs.toArray) := hz10.off_lo hb11.lt
    have off12r : Off g12 (.agg rs.toArray) := hz10.off_lo hb12.lt
    replace hz10 := hz10.mono (lo' := w8.heap.size) hEx.size
    replace hz6 := hz6.ext hE10'
    replace hEx := hEx.trans hE10'
    replace hb11 := hb11.ext hE10'
    replace hb12 := hb12.ext hE10'
    refine ae ?_
    refine az (fuel := 1) (rs := [13]) (by kernel_rfl) (by kernel_rfl) rfl ?_
    rw [List.forall_mem_singleton]
    refine ax (n := 2) rfl rfl hql hqo hb11 (by first|rfl | assumption) (fun w13 hc13 hb11' => ⟨fun _ h => h.chg hc13 (by omega), ?_⟩)
    replace hEx := hEx.chg hc13 (by omega)
    replace hz6 := hz6.chgO hc13 off11q
    replace hz10 := hz10.chgO hc13 off11r
    replace hb11 := hb11'
    replace hb12 := hb12.chg hc13 (Ne.symm hne)
    refine ae ?_
    refine az (fuel := 0) (rs := [14]) (by kernel_rfl) (by kernel_rfl) rfl ?_
    rw [List.forall_mem_singleton]
    refine ax (n := 2) rfl rfl hrl hro hb12 (by first|rfl | assumption) (fun w14 hc14 hb12' => ⟨fun _ h => h.chg hc14 (by omega), ?_⟩)
    replace hEx := hEx.chg hc14 (by omega)
    replace hz6 := hz6.chgO hc14 off12q
    replace hz10 := hz10.chgO hc14 off12r
    replace hb12 := hb12'
    replace hb11 := hb11.chg hc14 hne
    refine ae ?_
    refine bw (by kernel_rfl) ?_
    exact aa ⟨⟨(g11, g12, qs, rs), ⟨hEx, ⟨lo11, lo12⟩, hb11, hb12, hql, hrl, hqo, hro, hz6, hz10, off12q, hne⟩, rfl, rfl, trivial⟩, (by (repeat (first|exact aM _ _|refine aw rfl ?_|refine au rfl ?_|refine ak rfl ?_|refine ao rfl ?_)))⟩
  ·refine aB (fun g12 w12 hn12 => ⟨fun _ h => h.trans hn12.ex, ?_⟩)
   have hne : g11 ≠ g12 := (by have := hb11.lt; have := hn12.lo; omega)
   have lo12 : w8.heap.size ≤ g12 := Nat.le_trans hEx.size hn12.lo
   have hb12 := hn12.blk
   replace hEx := hEx.trans hn12.ex
   replace hb11 := hb11.ext hn12.ex
   refine ae ?_
   refine az (fuel := 3) (rs := [6]) (by kernel_rfl) (by kernel_rfl) rfl ?_
   rw [List.forall_mem_singleton]
   refine av (bj (hL8.ext hEx) _) rfl ?_
   rintro v6 w6' ⟨hz6, hE6'⟩
   refine ⟨fun _ h => h.trans hE6', ?_⟩
   rw [hq8] at hz6
   obtain ⟨qs, rfl, hql, hqo⟩ := hz6.out
   have off11q : Off g11 (.agg qs.toArray) := hz6.off_lo hb11.lt
   have off12q : Off g12 (.agg qs.toArray) := hz6.off_lo hb12.lt
   replace hz6 := hz6.mono (lo' := w8.heap.size) hEx.size
   replace hEx := hEx.trans hE6'
   replace hb11 := hb11.ext hE6'
   replace hb12 := hb12.ext hE6'
   refine ae ?_
   refine az (fuel := 2) (rs := [10]) (by kernel_rfl) (by kernel_rfl) rfl ?_
   rw [List.forall_mem_singleton]
   refine av (bj (hL9.ext hEx) _) rfl ?_
   rintro v10 w10' ⟨hz10, hE10'⟩
   refine ⟨fun _ h => h.trans hE10', ?_⟩
   rw [hq9] at hz10
   obtain ⟨rs, rfl, hrl, hro⟩ := hz10.out
   have off11r : Off g11 (.agg rs.toArray) := hz10.off_lo hb11.lt
   have off12r : Off g12 (.agg rs.toArray) := hz10.off_lo hb12.lt
   replace hz10 := hz10.mono (lo' := w8.heap.size) hEx.size
   replace hz6 := hz6.ext hE10'
   replace hEx := hEx.trans hE10'
   replace hb11 := hb11.ext hE10'
   replace hb12 := hb12.ext hE10'
   refine ae ?_
   refine az (fuel := 1) (rs := [13]) (by kernel_rfl) (by kernel_rfl) rfl ?_
   rw [List.forall_mem_singleton]
   refine ax (n := 2) rfl rfl hql hqo hb11 (by first|rfl | assumption) (fun w13 hc13 hb11' => ⟨fun _ h => h.chg hc13 (by omega), ?_⟩)
   replace hEx := hEx.chg hc13 (by omega)
   replace hz6 := hz6.chgO hc13 off11q
   replace hz10 := hz10.chgO hc13 off11r
   replace hb11 := hb11'
   replace hb12 := hb12.chg hc13 (Ne.symm hne)
   refine ae ?_
   refine az (fuel := 0) (rs := [14]) (by kernel_rfl) (by kernel_rfl) rfl ?_
   rw [List.forall_mem_singleton]
   refine ax (n := 2) rfl rfl hrl hro hb12 (by first|rfl | assumption) (fun w14 hc14 hb12' => ⟨fun _ h => h.chg hc14 (by omega), ?_⟩)
   replace hEx := hEx.chg hc14 (by omega)
   replace hz6 := hz6.chgO hc14 off12q
   replace hz10 := hz10.chgO hc14 off12r
   replace hb12 := hb12'
   replace hb11 := hb11.chg hc14 hne
   refine ae ?_
   refine bw (by kernel_rfl) ?_
   exact aa ⟨⟨(g11, g12, qs, rs), ⟨hEx, ⟨lo11, lo12⟩, hb11, hb12, hql, hrl, hqo, hro, hz6, hz10, off12q, hne⟩, rfl, rfl, trivial⟩, (by (repeat (first|exact aM _ _|refine aw rfl ?_|refine au rfl ?_|refine ak rfl ?_|refine ao rfl ?_)))⟩
 ·refine aB (fun g12 w12 hn12 => ⟨fun _ h => h.trans hn12.ex, ?_⟩)
  have lo12 : w8.heap.size ≤ g12 := Nat.le_trans hEx.size hn12.lo
  have hb12 := hn12.blk
  replace hEx := hEx.trans hn12.ex
  refine ae ?_
  refine az (fuel := 4) (rs := [6, 11]) (by kernel_rfl) (by kernel_rfl) rfl ?_
  simp only [List.forall_mem_cons, List.not_mem_nil, false_implies, implies_true, and_true]
  refine ⟨?_, ?_⟩
  ·refine av (bj (hL8.ext hEx) _) rfl ?_
   rintro v6 w6' ⟨hz6, hE6'⟩
   refine ⟨fun _ h => h.trans hE6', ?_⟩
   rw [hq8] at hz6
   obtain ⟨qs, rfl, hql, hqo⟩ := hz6.out
   have off12q : Off g12 (.agg qs.toArray) := hz6.off_lo hb12.lt
   replace hz6 := hz6.mono (lo' := w8.heap.size) hEx.size
   replace hEx := hEx.trans hE6'
   replace hb12 := hb12.ext hE6'
   refine ae ?_
   refine az (fuel := 3) (rs := [10, 11]) (by kernel_rfl) (by kernel_rfl) rfl ?_
   simp only [List.forall_mem_cons, List.not_mem_nil, false_implies, implies_true, and_true]
   refine ⟨?_, ?_⟩
   ·refine av (bj (hL9.ext hEx) _) rfl ?_
    rintro v10 w10' ⟨hz10, hE10'⟩
    refine ⟨fun _ h => h.trans hE10', ?_⟩
    rw [hq9] at hz10
    obtain ⟨rs, rfl, hrl, hro⟩ := hz10.out
    have off12r : Off g12 (.agg rs.toArray) := hz10.off_lo hb12.lt
    replace hz10 := hz10.mono (lo' := w8.heap.size) hEx.size
    replace hz6 := hz6.ext hE10'
    replace hEx := hEx.trans hE10'
    replace hb12 := hb12.ext hE10'
    refine ae ?_
    refine az (fuel := 2) (rs := [11]) (by kernel_rfl) (by kernel_rfl) rfl ?_
    rw [List.forall_mem_singleton]
    refine aB (fun g11 w11 hn11 => ⟨fun _ h => h.trans hn11.ex, ?_⟩)
    have off11q : Off g11 (.agg qs.toArray) := hz6.off_hi hn11.lo
    have off11r : Off g11 (.agg rs.toArray) := hz10.off_hi hn11.lo
    have hne : g11 ≠ g12 := (by have := hb12.lt; have := hn11.lo; omega)
    have lo11 : w8.heap.size ≤ g11 := Nat.le_trans hEx.size hn11.lo
    have hb11 := hn11.blk
    replace hEx := hEx.trans hn11.ex
    replace hz6 := hz6.ext hn11.ex
    replace hz10 := hz10.ext hn11.ex
    replace hb12 := hb12.ext hn11.ex
    refine ae ?_
    refine az (fuel := 1) (rs := [13]) (by kernel_rfl) (by kernel_rfl) rfl ?_
    rw [List.forall_mem_singleton]
    refine ax (n := 2) rfl rfl hql hqo hb11 (by first|rfl | assumption) (fun w13 hc13 hb11' => ⟨fun _ h => h.chg hc13 (by omega), ?_⟩)
    replace hEx := hEx.chg hc13 (by omega)
    replace hz6 := hz6.chgO hc13 off11q
    replace hz10 := hz10.chgO hc13 off11r
    replace hb11 := hb11'
    replace hb12 := hb12.chg hc13 (Ne.symm hne)
    refine ae ?_
    refine az (fuel := 0) (rs := [14]) (by kernel_rfl) (by kernel_rfl) rfl ?_
    rw [List.forall_mem_singleton]
    refine ax (n := 2) rfl rfl hrl hro hb12 (by first|rfl | assumption) (fun w14 hc14 hb12' => ⟨fun _ h => h.chg hc14 (by omega), ?_⟩)
    replace hEx := hEx.chg hc14 (by omega)
    replace hz6 := hz6.chgO hc14 off12q
    replace hz10 := hz10.chgO hc14 off12r
    replace hb12 := hb12'
    replace hb11 := hb11.chg hc14 hne
    refine ae ?_
    refine bw (by kernel_rfl) ?_
    exact aa ⟨⟨(g11, g12, qs, rs), ⟨hEx, ⟨lo11, lo12⟩, hb11, hb12, hql, hrl, hqo, hro, hz6, hz10, off12q, hne⟩, rfl, rfl, trivial⟩, (by (repeat (first|exact aM _ _|refine aw rfl ?_|refine au rfl ?_|refine ak rfl ?_|refine ao rfl ?_)))⟩
   ·refine aB (fun g11 w11 hn11 => ⟨fun _ h => h.trans hn11.ex, ?_⟩)
    have off11q : Off g11 (.agg qs.toArray) := hz6.off_hi hn11.lo
    have hne : g11 ≠ g12 := (by have := hb12.lt; have := hn11.lo; omega)
    have lo11 : w8.heap.size ≤ g11 := Nat.le_trans hEx.size hn11.lo
    have hb11 := hn11.blk
    replace hEx := hEx.trans hn11.ex
    replace hz6 := hz6.ext hn11.ex
    replace hb12 := hb12.ext hn11.ex
    refine ae ?_
    refine az (fuel := 2) (rs := [10]) (by kernel_rfl) (by kernel_rfl) rfl ?_
    rw [List.forall_mem_singleton]
    refine av (bj (hL9.ext hEx) _) rfl ?_
    rintro v10 w10' ⟨hz10, hE10'⟩
    refine ⟨fun _ h => h.trans hE10', ?_⟩
    rw [hq9] at hz10
    obtain ⟨rs, rfl, hrl, hro⟩ := hz10.out
    have off11r : Off g11 (.agg rs.toArray) := hz10.off_lo hb11.lt
    have off12r : Off g12 (.agg rs.toArray) := hz10.off_lo hb12.lt
    replace hz10 := hz10.mono (lo' := w8.heap.size) hEx.size
    replace hz6 := hz6.ext hE10'
    replace hEx := hEx.trans hE10'
    replace hb11 := hb11.ext hE10'
    replace hb12 := hb12.ext hE10'
    refine ae ?_
    refine az (fuel := 1) (rs := [13]) (by kernel_rfl) (by kernel_rfl) rfl ?_
    rw [List.forall_mem_singleton]
    refine ax (n := 2) rfl rfl hql hqo hb11 (by first|rfl | assumption) (fun w13 hc13 hb11' => ⟨fun _ h => h.chg hc13 (by omega), ?_⟩)
    replace hEx := hEx.chg hc13 (by omega)
    replace hz6 := hz6.chgO hc13 off11q
    replace hz10 := hz10.chgO hc13 off11r
    replace hb11 := hb11'
    replace hb12 := hb12.chg hc13 (Ne.symm hne)
    refine ae ?_
    refine az (fuel := 0) (rs := [14]) (by kernel_rfl) (by kernel_rfl) rfl ?_
    rw [List.forall_mem_singleton]
    refine ax (n := 2) rfl rfl hrl hro hb12 (by first|rfl | assumption) (fun w14 hc14 hb12' => ⟨fun _ h => h.chg hc14 (by omega), ?_⟩)
    replace hEx := hEx.chg hc14 (by omega)
    replace hz6 := hz6.chgO hc14 off12q
    replace hz10 := hz10.chgO hc14 off12r
    replace hb12 := hb12'
    replace hb11 := hb11.chg hc14 hne
    refine ae ?_
    refine bw (by kernel_rfl) ?_
    exact aa ⟨⟨(g11, g12, qs, rs), ⟨hEx, ⟨lo11, lo12⟩, hb11, hb12, hql, hrl, hqo, hro, hz6, hz10, off12q, hne⟩, rfl, rfl, trivial⟩, (by (repeat (first|exact aM _ _|refine aw rfl ?_|refine au rfl ?_|refine ak rfl ?_|refine ao rfl ?_)))⟩
  ·refine aB (fun g11 w11 hn11 => ⟨fun _ h => h.trans hn11.ex, ?_⟩)
   have hne : g11 ≠ g12 := (by have := hb12.lt; have := hn11.lo; omega)
   have lo11 : w8.heap.size ≤ g11 := Nat.le_trans hEx.size hn11.lo
   have hb11 := hn11.blk
   replace hEx := hEx.trans hn11.ex
   replace hb12 := hb12.ext hn11.ex
   refine ae ?_
   refine az (fuel := 3) (rs := [6]) (by kernel_rfl) (by kernel_rfl) rfl ?_
   rw [List.forall_mem_singleton]
   refine av (bj (hL8.ext hEx) _) rfl ?_
   rintro v6 w6' ⟨hz6, hE6'⟩
   refine ⟨fun _ h => h.trans hE6', ?_⟩
   rw [hq8] at hz6
   obtain ⟨qs, rfl, hql, hqo⟩ := hz6.out
   have off11q : Off g11 (.agg qs.toArray) := hz6.off_lo hb11.lt
   have off12q : Off g12 (.agg qs.toArray) := hz6.off_lo hb12.lt
   replace hz6 := hz6.mono (lo' := w8.heap.size) hEx.size
   replace hEx := hEx.trans hE6'
   replace hb11 := hb11.ext hE6'
   replace hb12 := hb12.ext hE6'
   refine ae ?_
   refine az (fuel := 2) (rs := [10]) (by kernel_rfl) (by kernel_rfl) rfl ?_
   rw [List.forall_mem_singleton]
   refine av (bj (hL9.ext hEx) _) rfl ?_
   rintro v10 w10' ⟨hz10, hE10'⟩
   refine ⟨fun _ h => h.trans hE10', ?_⟩
   rw [hq9] at hz10
   obtain ⟨rs, rfl, hrl, hro⟩ := hz10.out
   have off11r : Off g11 (.agg rs.toArray) := hz10.off_lo hb11.lt
   have off12r : Off g12 (.agg rs.toArray) := hz10.off_lo hb12.lt
   replace hz10 := hz10.mono (lo' := w8.heap.size) hEx.size
   replace hz6 := hz6.ext hE10'
   replace hEx := hEx.trans hE10'
   replace hb11 := hb11.ext hE10'
   replace hb12 := hb12.ext hE10'
   refine ae ?_
   refine az (fuel := 1) (rs := [13]) (by kernel_rfl) (by kernel_rfl) rfl ?_
   rw [List.forall_mem_singleton]
   refine ax (n := 2) rfl rfl hql hqo hb11 (by first|rfl | assumption) (fun w13 hc13 hb11' => ⟨fun _ h => h.chg hc13 (by omega), ?_⟩)
   replace hEx := hEx.chg hc13 (by omega)
   replace hz6 := hz6.chgO hc13 off11q
   replace hz10 := hz10.chgO hc13 off11r
   replace hb11 := hb11'
   replace hb12 := hb12.chg hc13 (Ne.symm hne)
   refine ae ?_
   refine az (fuel := 0) (rs := [14]) (by kernel_rfl) (by kernel_rfl) rfl ?_
   rw [List.forall_mem_singleton]
   refine ax (n := 2) rfl rfl hrl hro hb12 (by first|rfl | assumption) (fun w14 hc14 hb12' => ⟨fun _ h => h.chg hc14 (by omega), ?_⟩)
   replace hEx := hEx.chg hc14 (by omega)
   replace hz6 := hz6.chgO hc14 off12q
   replace hz10 := hz10.chgO hc14 off12r
   replace hb12 := hb12'
   replace hb11 := hb11.chg hc14 hne
   refine ae ?_
   refine bw (by kernel_rfl) ?_
   exact aa ⟨⟨(g11, g12, qs, rs), ⟨hEx, ⟨lo11, lo12⟩, hb11, hb12, hql, hrl, hqo, hro, hz6, hz10, off12q, hne⟩, rfl, rfl, trivial⟩, (by (repeat (first|exact aM _ _|refine aw rfl ?_|refine au rfl ?_|refine ak rfl ?_|refine ao rfl ?_)))⟩
 rintro ⟨g11, g12, qs, rs⟩ ξ w9 ⟨hE9, hg1112, hb11, hb12, hql, hrl, hqo, hro, hzq, hzr, hoffq, hne12⟩
 simp only at hg1112 hb11 hb12 hql hrl hqo hro hzq hzr hoffq hne12
 show CW _ _ _ _ (over [(11, .pointer (some ⟨g11, 0, none⟩)), (12, .pointer (some ⟨g12, 0, none⟩))] _) w9
 repeat' (first|refine aN rfl hb12 hrl ?_|refine aj ?_|refine ah rfl ?_)
 refine av (iW hzr) rfl ?_
 rintro v w10 ⟨rfl, hE10⟩
 refine ⟨fun _ _ => trivial, ?_⟩
 have hb11' := hb11.ext hE10
 have hb12' := hb12.ext hE10
 have m11 := hb11'.lt
 have m12 := hb12'.lt
 have hlo : w8.heap.size ≤ g11 ∧ w8.heap.size ≤ g12 := hg1112
 have hEd : Ex w10 w10.drew := (Ex.refl w10).drew
 have hEe : Ex w5 w10.drew := ((hE58.trans hE9).trans hE10).trans hEd
 have sE := hE.size
 have hN1 : natOf l1 < 4294967296 ^ p := Nat.lt_of_lt_of_le (bT hL1.lim) (nQ hp1)
 have hN2 : natOf l2 < 4294967296 ^ q := Nat.lt_of_lt_of_le (bT hL2.lim) (nQ hq1)
 have hNq : natOf l1 / natOf l2 < 4294967296 ^ p := Nat.lt_of_le_of_lt (Nat.div_le_self _ _) hN1
 have hNr : natOf l1 % natOf l2 < 4294967296 ^ q := Nat.lt_trans (Nat.mod_lt _ hpos) hN2
 have hdv := kP (N := natOf l1) hpos
 have hdec : decide (sgn n2 (natOf l2) ≠ 0) = true := decide_eq_true hyne
 rw [hdec]
 repeat' (first|refine ai rfl ?_|refine aa ?_|refine aj ?_|refine ae ?_|refine aP rfl (fun hc => ?_) (fun hc => ?_)|refine aF ?_)
 ·have hneg : n1 = true ∧ natOf l1 % natOf l2 ≠ 0 := by
   rename_i hc'
   have : sgn n1 (natOf l1 % natOf l2) < 0 := Int.sign_neg_iff.1 (by first|exact hc' | assumption)
   unfold sgn at this
   cases n1
   ·simp at this; omega
   ·simp at this; exact ⟨rfl, by omega⟩
  obtain ⟨rfl, hr0⟩ := hneg
  have hd3 := hdv.2.2.2 hr0
  refine bi (late := [3, 4]) (plan := [(0, none), (1, none), (2, some true), (3, some false), (4, some false)]) (fun w' => Blk w' g12 33 rs) bB (by kernel_rfl) hb12'.drew ?_
  repeat' (first|refine aN rfl (fun _ h => h) hrl ?_|refine ai rfl ?_)
  refine av (bj (hL7.ext ((hE8.trans (hE9.trans hE10)).trans hEd)) false) rfl ?_
  rintro v w11 ⟨hI11, hE11⟩
  refine ⟨fun _ h => h.ext hE11, ?_⟩
  skip
  have hK11 := hI11.k (k := q) (nj (by rw [bf]; exact hN2))
  have hKr := (((hzr.ext hE10).ext hEd).ext hE11).k (k := q) (nj hNr)
  refine av (gP hKr hK11 (by omega) (by omega)) rfl ?_
  rintro v w12 ⟨hI12, hE12⟩
  obtain ⟨ts, rfl, htl, hto⟩ := hI12.out
  refine ⟨fun _ h => h.ext hE12, ?_⟩
  have hE1012 := (hEd.trans hE11).trans hE12
  have hE0 := hE11.size
  refine ax (n := 2) rfl rfl htl hto (hb12'.ext hE1012) hrl (fun w13 hc13 hb13 => ⟨fun h => (nomatch h), ?_⟩)
  have off : Off g12 (.agg ts.toArray) := hI12.off_lo (by have : w10.drew.heap.size = w10.heap.size := rfl; omega)
  have hI13 := hI12.chgO hc13 off
  have hz12 := hE1012.size
  have hzq13 := ((hzq.ext hE10).ext hE1012).chgO hc13 hoffq
  have hb11c := (hb11'.ext hE1012)
  have hne1112 : g11 ≠ g12 := hne12
  have hb1113 := hb11c.chg hc13 hne1112
  have hE513 : Ex w5 w13 := (((hE58.trans hE9).trans hE10).trans hE1012).chg hc13 (by omega)
  have hb313 := hb3.ext hE513
  repeat' (first|refine aN rfl hb313 rfl ?_|refine aa ?_|refine aj ?_|refine ah rfl ?_|refine ae ?_)
  refine av (eo (h2s.ext (hE.trans hE513))) rfl ?_
  rintro v w14 ⟨rfl, hE14⟩
  refine ⟨fun _ _ => trivial, ?_⟩
  have hb1114 := (hb1113.ext hE14)
  have hb1214 := (hb13.ext hE14)
  have m1114 := hb1114.lt
  have m1214 := hb1214.lt
  have hE14d : Ex w14 w14.drew := (Ex.refl w14).drew
  have hzq14 := (hzq13.ext hE14).ext hE14d
  have hzr14 := (hI13.ext hE14).ext hE14d
  have s14 : w14.drew.heap.size = w14.heap.size := rfl
  have hrv : sgn true (natOf l1 % natOf l2) + sgn false (natOf (trimL l2)) = sgn true (natOf l1) % sgn n2 (natOf l2) := by
   rw [bf]
   unfold sgn
   cases n2
   ·simp only [if_true, Bool.false_eq_true, if_false]; rw [hd3.2.1]; omega
   ·simp only [if_true, Bool.false_eq_true, if_false]; rw [hd3.2.2.2]; omega
  have hfin : ∀ {z : Int} {us : List Value} {wa wb wc wd : World}, Ex w14.drew wa → IntC w14.heap.size wa (.agg us.toArray) z → Chg g4 wa wb → Chg g5 wb wc → z = sgn true (natOf l1) / sgn n2 (natOf l2) →
    (IntC w.heap.size wc (.agg us.toArray) (sgn true (natOf l1) / sgn n2 (natOf l2)) ∧ IntC w.heap.size wc (.agg ts.toArray) (if sgn n2 (natOf l2) = 0 then 0 else sgn true (natOf l1) % sgn n2 (natOf l2)) ∧ Ex w wc) := by
   intro z us wa wb wc wd hEa hIz hcb hcc hz'
   rw [if_neg hyne]
   have q1 := hE14.size
   have q2 := hE513.size
   refine ⟨?_, ?_, ((((hE.trans hE513).trans hE14).trans (hE14d.trans hEa)).chg hcb (by omega)).chg hcc (by omega)⟩
   ·rw [← hz']; exact ((hIz.chg hcb (by omega)).chg hcc (by omega)).mono (by omega)
   ·rw [← hrv]
    have r1 := hE11.size
    have r2 : w10.drew.heap.size = w10.heap.size := rfl
    exact (((hzr14.ext hEa).chg hcb (by omega)).chg hcc (by omega)).mono (by omega)
  repeat' (first|refine ai rfl ?_|refine aa ?_|refine aj ?_|refine ae ?_|refine aP rfl (fun hc => ?_) (fun hc => ?_)|refine aF ?_)
  ·have hn2 : n2 = true := by
    cases n2
    ·rename_i hc'
     have : sgn false (natOf l2) < 0 := Int.sign_neg_iff.1 (by first|exact hc' | assumption)
     unfold sgn at this; simp at this; omega
    ·rfl
   subst hn2
   refine bi (late := [5]) (plan := [(0, none), (3, none), (1, some true), (2, some true), (4, some true), (5, some false), (6, none)]) (fun w' => Blk w' g11 33 qs ∧ Blk w' g12 33 ts) bB (by kernel_rfl) ⟨hb1114.drew, hb1214.drew⟩ ?_
   repeat' (first|refine aN rfl (fun _ h => h.1) hql ?_|refine aN rfl (fun _ h => h.2) htl ?_)
   refine av (cQ (z := 1) (by omega) (by omega) _) rfl ?_
   rintro v w15 ⟨hI15, hE15⟩
   refine ⟨fun _ h => ⟨h.1.ext hE15, h.2.ext hE15⟩, ?_⟩
   skip
   refine av (gP ((hzq14.ext hE15).k (k := p) (nj hNq)) (hI15.k (k := 1) (by decide)) (by omega) (by omega)) rfl ?_
   rintro v w16 ⟨hI16, hE16⟩
   obtain ⟨us, rfl, hul, huo⟩ := hI16.out
   refine ⟨fun _ h => ⟨h.1.ext hE16, h.2.ext hE16⟩, ?_⟩
   skip
   have hE516 : Ex w5 w16 := ((hE513.trans hE14).trans hE14d).trans (hE15.trans hE16)
   refine ax (n := 2) rfl rfl hul huo (hb4.ext hE516) rfl (fun w17 hc17 hb17 => ⟨fun _ h => ⟨h.1.chg hc17 (by omega), h.2.chg hc17 (by omega)⟩, ?_⟩)
   refine ax (n := 2) rfl rfl htl hto ((hb5.ext hE516).chg hc17 (by omega)) rfl (fun w18 hc18 hb18 => ⟨fun _ h => ⟨h.1.chg hc18 (by omega), h.2.chg hc18 (by omega)⟩, ?_⟩)
   repeat' (first|refine ai rfl ?_|refine aa ?_|refine ae ?_|refine aR ?_|refine bv ?_)
   have e15 := hE15.size
   have hqv : sgn (!(true == true)) (natOf l1 / natOf l2) + 1 = sgn true (natOf l1) / sgn true (natOf l2) := by
    show ((natOf l1 / natOf l2 : Nat) : Int) + 1 = -((natOf l1 : Nat) : Int) / -((natOf l2 : Nat) : Int)
    exact hd3.2.2.1.symm
   obtain ⟨f1, f2, f3⟩ := hfin (wd := w) (hE15.trans hE16) (hI16.mono (by omega)) hc17 hc18 hqv
   exact fM rfl (rc rfl hul (hb17.chg hc18 (by omega))) (rc rfl htl hb18) (rt rfl) ⟨_, _, rfl, f1, f2, f3⟩
  ·have hn2 : n2 = false := by
    cases n2
    ·rfl
    ·rename_i hc'
     have hc2 : ¬ (sgn true (natOf l2)).sign < 0 := by first|exact hc' | assumption
     have : sgn true (natOf l2) < 0 := by unfold sgn; simp; omega
     exact absurd (Int.sign_neg_iff.2 this) hc2
   subst hn2
   refine bi (late := [5]) (plan := [(0, none), (3, none), (1, some true), (2, some true), (4, some true), (5, some false), (6, none)]) (fun w' => Blk w' g11 33 qs ∧ Blk w' g12 33 ts) bB (by kernel_rfl) ⟨hb1114.drew, hb1214.drew⟩ ?_
   repeat' (first|refine aN rfl (fun _ h => h.1) hql ?_|refine aN rfl (fun _ h => h.2) htl ?_)
   refine av (cQ (z := 1) (by omega) (by omega) _) rfl ?_
   rintro v w15 ⟨hI15, hE15⟩
   refine ⟨fun _ h => ⟨h.1.ext hE15, h.2.ext hE15⟩, ?_⟩
   skip
   refine av (jS ((hzq14.ext hE15).k (k := p) (nj hNq)) (hI15.k (k := 1) (by decide)) (by omega) (by omega)) rfl ?_
   rintro v w16 ⟨hI16, hE16⟩
   obtain ⟨us, rfl, hul, huo⟩ := hI16.out
   refine ⟨fun _ h => ⟨h.1.ext hE16, h.2.ext hE16⟩, ?_⟩
   skip
   have hE516 : Ex w5 w16 := ((hE513.trans hE14).trans hE14d).trans (hE15.trans hE16)
   refine ax (n := 2) rfl rfl hul huo (hb4.ext hE516) rfl (fun w17 hc17 hb17 => ⟨fun _ h => ⟨h.1.chg hc17 (by omega), h.2.chg hc17 (by omega)⟩, ?_⟩)
   refine ax (n := 2) rfl rfl htl hto ((hb5.ext hE516).chg hc17 (by omega)) rfl (fun w18 hc18 hb18 => ⟨fun _ h => ⟨h.1.chg hc18 (by omega), h.2.chg hc18 (by omega)⟩, ?_⟩)
   repeat' (first|refine ai rfl ?_|refine aa ?_|refine ae ?_|refine aR ?_|refine bv ?_)
   have e15 := hE15.size
   have hqv : sgn (!(true == false)) (natOf l1 / natOf l2) - 1 = sgn true (natOf l1) / sgn false (natOf l2) := by
    show -((natOf l1 / natOf l2 : Nat) : Int) - 1 = -((natOf l1 : Nat) : Int) / ((natOf l2 : Nat) : Int)
    exact hd3.1.symm
   obtain ⟨f1, f2, f3⟩ := hfin (wd := w) (hE15.trans hE16) (hI16.mono (by omega)) hc17 hc18 hqv
   exact fM rfl (rc rfl hul (hb17.chg hc18 (by omega))) (rc rfl htl hb18) (rt rfl) ⟨_, _, rfl, f1, f2, f3⟩
 ·have hval : sgn (!(n1 == n2)) (natOf l1 / natOf l2) = sgn n1 (natOf l1) / sgn n2 (natOf l2) ∧ sgn n1 (natOf l1 % natOf l2) = sgn n1 (natOf l1) % sgn n2 (natOf l2) := by
   cases n1
   ·cases n2
    ·exact ⟨hdv.1.1.symm, hdv.1.2.symm⟩
    ·exact ⟨hdv.2.1.1.symm, hdv.2.1.2.symm⟩
   ·have hr0 : natOf l1 % natOf l2 = 0 := by
     rcases Nat.eq_zero_or_pos (natOf l1 % natOf l2) with h | h
     ·exact h
     ·exfalso
      rename_i hc'
      have hc2 : ¬ (sgn true (natOf l1 % natOf l2)).sign < 0 := by first|exact hc' | assumption
      have : sgn true (natOf l1 % natOf l2) < 0 := by unfold sgn; simp; omega
      exact absurd (Int.sign_neg_iff.2 this) hc2
    have hd3 := hdv.2.2.1 hr0
    rw [hr0]
    cases n2
    ·exact ⟨hd3.1.symm, hd3.2.1.symm⟩
    ·exact ⟨hd3.2.2.1.symm, hd3.2.2.2.symm⟩
  refine bi (late := [3]) (plan := [(0, none), (1, none), (2, some true), (3, some false), (4, none)]) (fun w' => Blk w' g11 33 qs ∧ Blk w' g12 33 rs) bB (by kernel_rfl) ⟨hb11'.drew, hb12'.drew⟩ ?_
  repeat' (first|refine aN rfl (fun _ h => h.1) hql ?_|refine aN rfl (fun _ h => h.2) hrl ?_)
  refine ax (n := 2) rfl rfl hql hqo (hb4.ext hEe) rfl (fun w11 hc11 hb4' => ⟨fun _ h => ⟨h.1.chg hc11 (by omega), h.2.chg hc11 (by omega)⟩, ?_⟩)
  refine ax (n := 2) rfl rfl hrl hro ((hb5.ext hEe).chg hc11 (by omega)) rfl (fun w12 hc12 hb5' => ⟨fun _ h => ⟨h.1.chg hc12 (by omega), h.2.chg hc12 (by omega)⟩, ?_⟩)
  repeat' (first|refine ai rfl ?_|refine aa ?_|refine ae ?_|refine aR ?_)
  have hq12 := ((((hzq.ext hE10).ext hEd).chg hc11 (by omega)).chg hc12 (by omega)).mono (lo' := w.heap.size) (by omega)
  have hr12 := ((((hzr.ext hE10).ext hEd).chg hc11 (by omega)).chg hc12 (by omega)).mono (lo' := w.heap.size) (by omega)
  rw [hval.1] at hq12
  rw [hval.2] at hr12
  exact fM rfl (rc rfl hql (hb4'.chg hc12 (by omega))) (rc rfl hrl hb5') (rt rfl) ⟨_, _, rfl, hq12, by rw [if_neg hyne]; exact hr12, ((hE.trans hEe).chg hc11 (by omega)).chg hc12 (by omega)⟩
end Go.Proofs.YtppipmkpmmdcjaaGreat
namespace Go.Proofs.YtppipmkpmmdcjaaGreat
open Go.W Go.LM Go.PM
set_option maxHeartbeats 1000000 in
theorem gf {p q : Nat} {v1 v2 : Value} {x y : Int} {w : World} (h1 : IntK p w v1 x) (h2 : IntK q w v2 y) (hpq : p + q ≤ 17592186044416) :
  CallsR Tryz.prog 10 #[v1, v2] w (RetZ w (x * y)) := by
 obtain ⟨n1, a1, c1, la, rfl, ha, rfl, hla⟩ := h1
 obtain ⟨n2, a2, c2, lb, rfl, hb, rfl, hlb⟩ := h2
 refine aH (args := [_, _]) Tryz.func10 rfl rfl ?_
 refine aj ?_
 refine ah rfl ?_
 refine bH rfl (fun g2 w2 hn2 => ⟨fun _ _ => trivial, ?_⟩)
 refine bH rfl (fun g3 w3 hn3 => ⟨fun _ _ => trivial, ?_⟩)
 refine aB (fun g4 w4 hn4 => ⟨fun _ _ => trivial, ?_⟩)
 have hb2 := (hn2.blk.ext hn3.ex).ext hn4.ex
 have hb3 := hn3.blk.ext hn4.ex
 have hb4 : Blk w4 g4 33 (intL false none 0 0) := hn4.blk
 have hE4 := (hn2.ex.trans hn3.ex).trans hn4.ex
 have l4 := hn4.lo
 have l4' := hn4.hi
 have s3 := (hn2.ex.trans hn3.ex).size
 repeat' (first|refine aQ rfl hb2 rfl ?_|refine aQ rfl hb3 rfl ?_|refine fE rfl rfl (by omega) ?_|refine eM rfl rfl (by omega) (by omega) (fun g w5 hn5 => ⟨fun _ _ => trivial, ?_⟩)|refine ai rfl ?_|refine aa ?_|refine aj ?_|refine ah rfl ?_|refine ae ?_|refine bh rfl ?_|refine aG rfl ?_)
 have l5 := hn5.lo
 have hb25 := hb2.ext hn5.ex
 have hb35 := hb3.ext hn5.ex
 have hb45 := hb4.ext hn5.ex
 have s45 := hE4.size
 repeat' (first|refine aQ rfl hb25 rfl ?_|refine ai rfl ?_|refine aa ?_|refine ae ?_|refine bh rfl ?_|refine aA ?_)
 refine aY (ι := Nat × List Nat) [6, 7, 8, 9, 10, 22, 23, 24, 25, 26, 27, 28, 29, 30, 31, 32, 33, 34, 35, 36, 37, 38, 39, 40, 41, 42, 43, 44, 45, 46, 47, 48, 49, 50, 51, 52, 53, 54, 55, 56, 57, 58, 59, 60, 61, 62, 63, 64, 65, 66, 67, 68, 69] (fun s => [(22, .int .i64 (s.1 : Int))])
  (fun s w' => s.1 ≤ la.length ∧ Ex w4 w' ∧ Blk w' g 53 (limbsL s.2) ∧ s.2.length = la.length + lb.length ∧ Lim s.2 ∧ natOf s.2 = natOf (la.take s.1) * natOf lb ∧ ∀ j, s.1 + lb.length ≤ j → s.2.getD j 0 = 0) (fun s => la.length - s.1)
  (0, List.replicate (la.length + lb.length) 0) ⟨rfl, trivial⟩ ⟨by simp, hn5.ex, hn5.blk, by simp, Lim.zeros _, by simp [cV, natOf], fun j _ => by simp [List.getD_eq_getElem?_getD, List.getElem?_replicate]; split <;> rfl⟩ ?_
 rintro ⟨i, ps⟩ ξ w6 ⟨hi, hE, hbk, hpl, hpL, hpn, hpz⟩
 simp only at hi hbk hpl hpL hpn hpz
 show CW _ _ _ _ (over [(22, .int .i64 (i : Int))] _) w6
 have hxl := ha.lim.getD i
 have hb36 := hb3.ext hE
 have ha6 := ha.ext (hE4.trans hE)
 repeat' (first|(refine aC rfl rfl (ha6.sl.plain (by simp; omega)) (by omega) ?_)|refine bI rfl ha6.sl (by omega) ?_|refine aQ rfl hb36 rfl ?_|refine ai rfl ?_|refine aa ?_|refine aj ?_|refine ah rfl ?_|refine ae ?_|refine bh rfl ?_|refine aG rfl ?_|refine aP rfl (fun hc => ?_) (fun hc => ?_)|refine aA ?_|refine aV ?_|refine aL ?_|refine aW ?_|refine aF ?_)
 ·refine aY (ι := Nat × List Nat × Nat) [8, 9, 10, 30, 31, 32, 33, 34, 35, 36, 37, 38, 39, 40, 41, 42, 43, 44, 45, 46, 47, 48, 49, 50, 51, 52, 53, 54, 55, 56, 57, 58, 59] (fun s => [(30, .int .i64 (s.1 : Int)), (8, .int .u64 (s.2.2 : Int))])
   (fun s w' => s.1 ≤ lb.length ∧ Ex w4 w' ∧ Blk w' g 53 (limbsL s.2.1) ∧ s.2.1.length = la.length + lb.length ∧ Lim s.2.1 ∧ s.2.2 < 4294967296 ∧ natOf s.2.1 + s.2.2 * 4294967296 ^ (i + s.1) = natOf ps + la.getD i 0 * natOf (lb.take s.1) * 4294967296 ^ i ∧ ∀ j, i + s.1 ≤ j → s.2.1.getD j 0 = ps.getD j 0) (fun s => lb.length - s.1)
   (0, ps, 0) ⟨rfl, rfl, trivial⟩ ⟨by simp, hE, hbk, hpl, hpL, by simp, by simp [natOf], fun j _ => rfl⟩ ?_
  rintro ⟨j, qs, cy⟩ ξ2 w7 ⟨hj, hE7, hb7, hql, hqL, hcy, hqn, hqz⟩
  simp only at hj hb7 hql hqL hcy hqn hqz
  show CW _ _ _ _ (over [(30, .int .i64 (j : Int)), (8, .int .u64 (cy : Int))] _) w7
  have hyl := hb.lim.getD j
  have hrl := hqL.getD (i + j)
  have hfit := jr hxl hyl hcy hrl
  have hbl7 := hb.ext (hE4.trans hE7)
  have hb37 := hb3.ext hE7
  repeat' (first|(refine aC rfl rfl (hbl7.sl.plain (by simp; omega)) (by omega) ?_)|refine bI rfl hbl7.sl (by omega) ?_|(refine aC (j := i + j) rfl (by show Value.int .i64 ((i : Int) + (j : Int)) = _; rfl) ⟨_, _, rfl⟩ (by omega) ?_)|refine bI rfl hb7.sl (by omega) ?_|refine gL rfl (by assumption) ?_|refine ku rfl rfl (by omega) ?_|refine fD rfl rfl (by omega) ?_|refine dD rfl ?_|refine d7 rfl rfl ?_|refine dC rfl rfl hb7 (by omega) (fun w8 hc8 hb8 => ⟨fun _ _ => trivial, ?_⟩)|refine aQ rfl hb37 rfl ?_|(refine aC (j := i + lb.length) rfl (by show Value.int .i64 ((i : Int) + (lb.length : Int)) = _; rfl) ⟨_, _, rfl⟩ (by omega) ?_)|refine ai rfl ?_|refine aa ?_|refine aj ?_|refine ah rfl ?_|refine ae ?_|refine bh rfl ?_|refine aZ rfl rfl (by omega) (by omega) ?_|refine aG rfl ?_|refine aP rfl (fun hc => ?_) (fun hc => ?_)|refine aA ?_|refine aV ?_|refine aL ?_|refine aW ?_|refine aK ?_|refine aF ?_)
  ·refine ⟨⟨(j + 1, qs.set (i + j) ((cy + (la.getD i 0 * lb.getD j 0 + qs.getD (i + j) 0)) % 4294967296), (cy + (la.getD i 0 * lb.getD j 0 + qs.getD (i + j) 0)) / 4294967296), ⟨by simp only; omega, hE7.chg hc8 (by omega), hb8, by simp [hql], hqL.set (Nat.mod_lt _ (by decide)), by simp only; omega, ?_, ?_⟩, by simp only; omega, rfl, rfl, trivial⟩, (by (repeat (first|exact aE _ _ _|refine aw rfl ?_|refine au rfl ?_|refine ak rfl ?_|refine ao rfl ?_)))⟩
   ·have := kw (x := la.getD i 0) (y := lb.getD j 0) (show i + j < qs.length by omega) hqn
    simp only
    rw [show i + (j + 1) = i + j + 1 by omega, this, bS (by omega), Nat.mul_add, Nat.add_mul, Nat.add_assoc, Nat.pow_add]
    congr 2
    rw [← Nat.mul_assoc, Nat.mul_assoc, Nat.mul_comm (4294967296 ^ i), ← Nat.mul_assoc, Nat.mul_assoc (la.getD i 0)]
   ·intro k hk
    simp only at hk ⊢
    rw [ct (by omega), hqz k (by omega)]
  ·obtain rfl : j = lb.length := by omega
   have hz : qs.getD (i + lb.length) 0 = 0 := by rw [hqz _ (Nat.le_refl _)]; exact hpz _ (Nat.le_refl _)
   rw [Nat.mod_eq_of_lt hcy] at hb8
   refine ⟨⟨(i + 1, qs.set (i + lb.length) cy), ⟨by simp only; omega, hE7.chg hc8 (by omega), hb8, by simp [hql], hqL.set hcy, ?_, ?_⟩, by simp only; omega, rfl, trivial⟩, (by (repeat (first|exact aE _ _ _|refine aw rfl ?_|refine au rfl ?_|refine ak rfl ?_|refine ao rfl ?_)))⟩
   ·have h1 := cJ (l := qs) (k := i + lb.length) (v := cy) (by omega)
    rw [hz, Nat.zero_mul, Nat.add_zero] at h1
    simp only
    rw [h1, hqn, hpn, List.take_length, bS (by omega), Nat.add_mul]
    congr 1
    rw [Nat.mul_assoc, Nat.mul_assoc, Nat.mul_comm (natOf lb)]
   ·intro k hk
    simp only at hk ⊢
    rw [ct (by omega), hqz k (by omega), hpz k (by omega)]
 ·obtain rfl : i = la.length := by omega
  rw [List.take_length] at hpn
  have hL := Limbs.of_blk (c := la.length + lb.length) hbk (by omega) hpL (by omega)
  have hb26 := hb2.ext hE
  have hcall := bj hL (!(n1 == n2))
  rw [hpl] at hcall
  repeat' (first|refine aQ rfl hb26 rfl ?_|refine aQ rfl hb36 rfl ?_|refine ai rfl ?_|refine aG rfl ?_|refine gF rfl rfl ?_)
  refine av hcall rfl ?_
  rintro v w7 ⟨hI, hE7⟩
  obtain ⟨ng, a', c', ls, rfl, hI'⟩ := id hI
  refine ⟨fun _ _ => trivial, ?_⟩
  refine ax (n := 2) rfl rfl rfl rfl ((hb4.ext hE).ext hE7) rfl (fun w8 hc8 hb8 => ⟨fun _ _ => trivial, ?_⟩)
  repeat' (first|refine aa ?_|refine ae ?_|refine aR ?_)
  have s6 := hE.size
  refine bK rfl (rc rfl rfl hb8) ⟨?_, ((hE4.trans hE).trans hE7).chg hc8 (by omega)⟩
  have hr := (hI.chg hc8 (by omega)).mono (lo' := w.heap.size) (by omega)
  rw [hpn] at hr
  have e : sgn (!(n1 == n2)) (natOf la * natOf lb) = sgn n1 (natOf la) * sgn n2 (natOf lb) := by
   unfold sgn; cases n1 <;> cases n2 <;> simp [Int.neg_mul, Int.mul_neg]
  rwa [e] at hr
set_option maxHeartbeats 1000000 in
theorem nk {p q : Nat} {v1 v2 : Value} {x y : Int} {w : World} (h1 : IntK p w v1 x) (h2 : IntK q w v2 y) (hp : p < 17592186044415) (hq0 : q < 17592186044415) :
  CallsR Tryz.prog 17 #[v1, v2] w (RetZ w (x / y)) := by
 obtain ⟨cs1, rfl, hl1, ho1⟩ := h1.out
 obtain ⟨cs2, rfl, hl2, ho2⟩ := h2.out
 refine aH (args := [_, _]) Tryz.func17 rfl rfl ?_
 refine aj ?_
 refine ah rfl ?_
 refine bH rfl (fun g2 w2 hn2 => ⟨fun _ _ => trivial, ?_⟩)
 refine bH rfl (fun g3 w3 hn3 => ⟨fun _ _ => trivial, ?_⟩)
 refine aB (fun g4 w4 hn4 => ⟨fun _ _ => trivial, ?_⟩)
 have hb2 := (hn2.blk.ext hn3.ex).ext hn4.ex
 have hb3 := hn3.blk.ext hn4.ex
 have hb4 : Blk w4 g4 33 (intL false none 0 0) := hn4.blk
 have hE := (hn2.ex.trans hn3.ex).trans hn4.ex
 have l4 := hn4.lo
 have l4' := hn4.hi
 have s3 := (hn2.ex.trans hn3.ex).size
 repeat' (first|refine aN rfl hb2 hl1 ?_|refine aN rfl hb3 hl2 ?_|refine aa ?_|refine aj ?_|refine ah rfl ?_|refine ae ?_)
 refine av (lk (h1.ext hE) (h2.ext hE) hp hq0) rfl ?_
 rintro v w5 ⟨q, r, rfl, hq, hr, hE5⟩
 refine ⟨fun _ _ => trivial, ?_⟩
 obtain ⟨qs, rfl, hql, hqo⟩ := hq.out
 obtain ⟨rs, rfl, hrl, hro⟩ := hr.out
 repeat' (first|refine ai rfl ?_)
 refine aB (fun g6 w6 hn6 => ⟨fun _ _ => trivial, ?_⟩)
 refine aB (fun g7 w7 hn7 => ⟨fun _ _ => trivial, ?_⟩)
 have l6 := hn6.lo
 have l6' := hn6.hi
 have l7 := hn7.lo
 have l7' := hn7.hi
 have s5 := hE5.size
 refine ax (n := 2) rfl rfl hql hqo (hn6.blk.ext hn7.ex) rfl (fun w8 hc8 hb8 => ⟨fun _ _ => trivial, ?_⟩)
 refine ax (n := 2) rfl rfl hrl hro (hn7.blk.chg hc8 (by omega)) rfl (fun w9 hc9 hb9 => ⟨fun _ _ => trivial, ?_⟩)
 have hb89 := hb8.chg hc9 (by omega)
 have hb47 := (((hb4.ext hE5).ext hn6.ex).ext hn7.ex)
 have hE9 : Ex w5 w9 := ((hn6.ex.trans hn7.ex).chg hc8 (by omega)).chg hc9 (by omega)
 have hq9 := (((hq.ext hn6.ex).ext hn7.ex).chgO hc8 (hq.off_hi l6)).chgO hc9 (hq.off_hi (by omega))
 repeat' (first|refine aN rfl hb89 hql ?_|refine ai rfl ?_|refine aa ?_|refine aj ?_|refine ah rfl ?_|refine ae ?_)
 refine ax (n := 2) rfl rfl hql hqo ((hb47.chg hc8 (by omega)).chg hc9 (by omega)) rfl (fun w10 hc10 hb10 => ⟨fun _ _ => trivial, ?_⟩)
 repeat' (first|refine aa ?_|refine ae ?_|refine aR ?_)
 exact bK rfl (rc rfl hql hb10) ⟨(hq9.chgO hc10 (hq.off_lo (by omega))).mono hE.size, ((hE.trans hE5).trans hE9).chg hc10 (by omega)⟩
theorem iJ {k : Nat} {v : Value} {x : Int} {w : World} (h1 : IntK k w v x) : CallsR Tryz.prog 34 #[v] w (RetZ w x) := by
 obtain ⟨n1, a1, c1, l1, rfl, hL1, rfl, _⟩ := h1
 refine aH (args := [_]) Tryz.func34 rfl rfl ?_
 refine aj ?_
 refine ah rfl ?_
 refine bH rfl (fun g1 w1 hn1 => ⟨fun _ _ => trivial, ?_⟩)
 refine aB (fun g2 w2 hn2 => ⟨fun _ _ => trivial, ?_⟩)
 have hb1 := hn1.blk.ext hn2.ex
 have hb2 : Blk w2 g2 33 (intL false none 0 0) := hn2.blk
 have hE := hn1.ex.trans hn2.ex
 repeat' (first|refine aQ rfl hb1 rfl ?_|refine aa ?_|refine aj ?_|refine ah rfl ?_|refine ae ?_|refine aG rfl ?_)
 refine av (bj (hL1.ext hE) _) rfl ?_
 rintro v w3 ⟨hI, hE3⟩
 obtain ⟨ng, a', c', ls, rfl, hI'⟩ := id hI
 refine ⟨fun _ _ => trivial, ?_⟩
 refine ax (n := 2) rfl rfl rfl rfl (hb2.ext hE3) rfl (fun w4 hc4 hb4 => ⟨fun _ _ => trivial, ?_⟩)
 repeat' (first|refine aa ?_|refine ae ?_|refine aR ?_)
 have l2 := hn2.lo
 have l2' := hn2.hi
 have s1 := hn1.ex.size
 refine bK rfl (rc rfl rfl hb4) ⟨?_, (hE.trans hE3).chg hc4 (by omega)⟩
 exact (hI.chg hc4 (by omega)).mono (lo' := w.heap.size) (by omega)
end Go.Proofs.YtppipmkpmmdcjaaGreat
