import Derived.Test.YtpfhfldehaiokaaGreatA11
import Derived.Test.YtpfhfldehaiokaaGreatA12
set_option maxHeartbeats 2000000
namespace Go.Proofs.YtpfhfldehaiokaaGreat
open Go.W Go.LM Go.PM
theorem oo {p q : Nat} {v1 v2 : Value} {x y : Int} {w : World} (h1 : IntK p w v1 x) (h2 : IntK q w v2 y) (hy : y ≠ 0) (hp : p < 17592186044415) (hq0 : q < 17592186044415) :
  CallsR Tryz.prog 169 #[v1, v2] w (RetZ w (x % y)) := by
 obtain ⟨cs1, rfl, hl1, ho1⟩ := h1.out
 obtain ⟨cs2, rfl, hl2, ho2⟩ := h2.out
 refine aE (args := [_, _]) Tryz.func169 rfl rfl ?_
 refine ak ?_
 refine ai rfl ?_
 refine bC rfl (fun g2 w2 hn2 => tvv ?_)
 refine bC rfl (fun g3 w3 hn3 => tvv ?_)
 refine aH (fun g4 w4 hn4 => tvv ?_)
 have hb2 := (hn2.blk.ext hn3.ex).ext hn4.ex
 have hb3 := hn3.blk.ext hn4.ex
 have hb4 : Blk w4 g4 34 (intL false none 0 0) := hn4.blk
 have hE := (hn2.ex.trans hn3.ex).trans hn4.ex
 have l4 := hn4.lo
 have l4' := hn4.hi
 have s3 := (hn2.ex.trans hn3.ex).size
 repeat' (first|refine aY rfl hb2 hl1 ?_|refine aY rfl hb3 hl2 ?_|refine aa ?_|refine ak ?_|refine ai rfl ?_|refine ah ?_)
 refine au (iB (h1.ext hE) (h2.ext hE) hp hq0) rfl ?_
 rintro v w5 ⟨q, r, rfl, hq, hr, hE5⟩
 rw [if_neg hy] at hr
 refine tvv ?_
 obtain ⟨qs, rfl, hql, hqo⟩ := hq.out
 obtain ⟨rs, rfl, hrl, hro⟩ := hr.out
 repeat' (first|refine aj rfl ?_)
 refine aH (fun g6 w6 hn6 => tvv ?_)
 refine aH (fun g7 w7 hn7 => tvv ?_)
 have l6 := hn6.lo
 have l6' := hn6.hi
 have l7 := hn7.lo
 have l7' := hn7.hi
 have s5 := hE5.size
 refine aF (n := 2) rfl rfl hql hqo (hn6.blk.ext hn7.ex) rfl (fun w8 hc8 hb8 => tvv ?_)
 refine aF (n := 2) rfl rfl hrl hro (hn7.blk.chg hc8 (by omega)) rfl (fun w9 hc9 hb9 => tvv ?_)
 have hb47 := (((hb4.ext hE5).ext hn6.ex).ext hn7.ex)
 have hE9 : Ex w5 w9 := ((hn6.ex.trans hn7.ex).chg hc8 (by omega)).chg hc9 (by omega)
 have hr9 := (((hr.ext hn6.ex).ext hn7.ex).chgO hc8 (hr.off_hi l6)).chgO hc9 (hr.off_hi (by omega))
 repeat' (first|refine aY rfl hb9 hrl ?_|refine aj rfl ?_|refine aa ?_|refine ak ?_|refine ai rfl ?_|refine ah ?_)
 refine aF (n := 2) rfl rfl hrl hro ((hb47.chg hc8 (by omega)).chg hc9 (by omega)) rfl (fun w10 hc10 hb10 => tvv ?_)
 repeat' (first|refine aa ?_|refine ah ?_|refine aK ?_)
 exact bo rfl (rc rfl hrl hb10) ⟨(hr9.chgO hc10 (hr.off_lo (by omega))).mono hE.size, ((hE.trans hE5).trans hE9).chg hc10 (by omega)⟩
theorem oq {K : Nat} {v1 v2 : Value} {x y : Int} {w : World} (h1 : IntK K w v1 x) (h2 : IntK K w v2 y) (hK : K < 17592186044415) :
  CallsR Tryz.prog 158 #[v1, v2] w (RetZ w ((Nat.gcd x.natAbs y.natAbs : Nat) : Int)) := by
 have hx : x.natAbs < 4294967296 ^ K := h1.lt
 have hy : y.natAbs < 4294967296 ^ K := h2.lt
 obtain ⟨cs1, rfl, hl1, ho1⟩ := h1.out
 obtain ⟨cs2, rfl, hl2, ho2⟩ := h2.out
 refine aE (args := [_, _]) Tryz.func158 rfl rfl ?_
 refine ak ?_
 refine ai rfl ?_
 refine bC rfl (fun g2 w2 hn2 => tvv ?_)
 refine bC rfl (fun g3 w3 hn3 => tvv ?_)
 refine aH (fun g4 w4 hn4 => tvv ?_)
 have hb2 := (hn2.blk.ext hn3.ex).ext hn4.ex
 have hb3 := hn3.blk.ext hn4.ex
 have hb4 : Blk w4 g4 34 (intL false none 0 0) := hn4.blk
 have hE := (hn2.ex.trans hn3.ex).trans hn4.ex
 have l4 := hn4.lo
 have l4' := hn4.hi
 have s3 := (hn2.ex.trans hn3.ex).size
 have hEx : Ex w4 w4.drew := (Ex.refl w4).drew
 have hi1 := h1.ext hE
 have hi2 := h2.ext hE
 repeat' (first|refine aa ?_|refine ak ?_|refine ah ?_)
 refine dy (ι := Nat × Nat × List Value × List Value) [5, 6, 7, 8, 9, 10] (fun s => [(5, .pointer (some ⟨s.1, 0, none⟩)), (6, .pointer (some ⟨s.2.1, 0, none⟩))])
  (fun s w' => Ex w4 w' ∧ (w4.heap.size ≤ s.1 ∧ w4.heap.size ≤ s.2.1 ∧ s.1 ≠ s.2.1) ∧ Blk w' s.1 34 s.2.2.1 ∧ Blk w' s.2.1 34 s.2.2.2 ∧ s.2.2.1.length = 2 ∧ s.2.2.2.length = 2 ∧ s.2.2.1.all Value.oneCell' = true ∧ s.2.2.2.all Value.oneCell' = true ∧ IntC w4.heap.size w' (.agg s.2.2.1.toArray) ((x.natAbs : Nat) : Int) ∧ IntC w4.heap.size w' (.agg s.2.2.2.toArray) ((y.natAbs : Nat) : Int) ∧
   (Off s.1 (.agg s.2.2.1.toArray) ∧ Off s.1 (.agg s.2.2.2.toArray) ∧ Off s.2.1 (.agg s.2.2.1.toArray) ∧ Off s.2.1 (.agg s.2.2.2.toArray))) ?_ ?_
 refine gU (fun w' => Ex w4 w') bD hEx ?_
 refine bP (fuel := 6) (by kernel_rfl) (by kernel_rfl) [0, 2] _ _ (by kernel_rfl) ?_
 repeat' (first|refine aY rfl (fun _ h => hb2.ext h) hl1 ?_|refine aY rfl (fun _ h => hb3.ext h) hl2 ?_|refine ah ?_)
 refine aD (fuel := 5) (rs := [1, 4, 5]) (by kernel_rfl) (by kernel_rfl) rfl ?_
 simp only [List.forall_mem_cons, List.not_mem_nil, false_implies, implies_true, and_true]
 refine ⟨?_, ?_, ?_⟩
 ·refine au (bT (hi1.ext hEx)) rfl ?_
  rintro v6 w6' ⟨hz6, hE6'⟩
  refine ⟨fun _ h => h.trans hE6', ?_⟩
  obtain ⟨qs, rfl, hql, hqo⟩ := hz6.out
  try have off11q : Off g11 (.agg qs.toArray) := hz6.off_lo hb11.lt
  try have off12q : Off g12 (.agg qs.toArray) := hz6.off_lo hb12.lt
  replace hz6 := hz6.mono (lo' := w4.heap.size) hEx.size
  replace hEx := hEx.trans hE6'
  try replace hb11 := hb11.ext hE6'
  try replace hb12 := hb12.ext hE6'
  refine ah ?_
  refine aD (fuel := 4) (rs := [3, 4, 5]) (by kernel_rfl) (by kernel_rfl) rfl ?_
  simp only [List.forall_mem_cons, List.not_mem_nil, false_implies, implies_true, and_true]
  refine ⟨?_, ?_, ?_⟩
  ·refine au (bT (hi2.ext hEx)) rfl ?_
   rintro v10 w10' ⟨hz10, hE10'⟩
   refine ⟨fun _ h => h.trans hE10', ?_⟩
   obtain ⟨rs, rfl, hrl, hro⟩ := hz10.out
   try have off11r : Off g11 (.agg rs.toArray) := hz10.off_lo hb11.lt
   try have off12r : Off g12 (.agg rs.toArray) := hz10.off_lo hb12.lt
   replace hz10 := hz10.mono (lo' := w4.heap.size) hEx.size
   replace hz6 := hz6.ext hE10'
   replace hEx := hEx.trans hE10'
   try replace hb11 := hb11.ext hE10'
   try replace hb12 := hb12.ext hE10'
   refine ah ?_
   refine aD (fuel := 3) (rs := [4, 5]) (by kernel_rfl) (by kernel_rfl) rfl ?_
   simp only [List.forall_mem_cons, List.not_mem_nil, false_implies, implies_true, and_true]
   refine ⟨?_, ?_⟩
   ·refine aH (fun g11 w11 hn11 => ⟨fun _ h => h.trans hn11.ex, ?_⟩)
    try have off11q : Off g11 (.agg qs.toArray) := hz6.off_hi hn11.lo
    try have off11r : Off g11 (.agg rs.toArray) := hz10.off_hi hn11.lo
    try have hne : g11 ≠ g12 := (by have := hb12.lt; have := hn11.lo; omega)
    have lo11 : w4.heap.size ≤ g11 := Nat.le_trans hEx.size hn11.lo
    have hb11 := hn11.blk
    replace hEx := hEx.trans hn11.ex
    try replace hz6 := hz6.ext hn11.ex
    try replace hz10 := hz10.ext hn11.ex
    try replace hb12 := hb12.ext hn11.ex
    refine ah ?_
    refine aD (fuel := 2) (rs := [5]) (by kernel_rfl) (by kernel_rfl) rfl ?_
    rw [Go.W.fms]
    refine aH (fun g12 w12 hn12 => ⟨fun _ h => h.trans hn12.ex, ?_⟩)
    try have off12q : Off g12 (.agg qs.toArray) := hz6.off_hi hn12.lo
    try have off12r : Off g12 (.agg rs.toArray) := hz10.off_hi hn12.lo
    try have hne : g11 ≠ g12 := (by have := hb11.lt; have := hn12.lo; omega)
    have lo12 : w4.heap.size ≤ g12 := Nat.le_trans hEx.size hn12.lo
    have hb12 := hn12.blk
    replace hEx := hEx.trans hn12.ex
    try replace hz6 := hz6.ext hn12.ex
    try replace hz10 := hz10.ext hn12.ex
    try replace hb11 := hb11.ext hn12.ex
    refine ah ?_
    refine aD (fuel := 1) (rs := [6]) (by kernel_rfl) (by kernel_rfl) rfl ?_
    rw [Go.W.fms]
    refine aF (n := 2) rfl rfl hql hqo hb11 (by first|rfl | assumption) (fun w13 hc13 hb11' => ⟨fun _ h => h.chg hc13 (by omega), ?_⟩)
    replace hEx := hEx.chg hc13 (by omega)
    replace hz6 := hz6.chgO hc13 off11q
    replace hz10 := hz10.chgO hc13 off11r
    replace hb11 := hb11'
    replace hb12 := hb12.chg hc13 (Ne.symm hne)
    refine ah ?_
    refine aD (fuel := 0) (rs := [7]) (by kernel_rfl) (by kernel_rfl) rfl ?_
    rw [Go.W.fms]
    refine aF (n := 2) rfl rfl hrl hro hb12 (by first|rfl | assumption) (fun w14 hc14 hb12' => ⟨fun _ h => h.chg hc14 (by omega), ?_⟩)
    replace hEx := hEx.chg hc14 (by omega)
    replace hz6 := hz6.chgO hc14 off12q
    replace hz10 := hz10.chgO hc14 off12r
    replace hb12 := hb12'
    replace hb11 := hb11.chg hc14 hne
    refine ah ?_
    refine bL (by kernel_rfl) ?_
    exact aa ⟨⟨(g11, g12, qs, rs), ⟨hEx, ⟨lo11, lo12, hne⟩, hb11, hb12, hql, hrl, hqo, hro, hz6, hz10, off11q, off11r, off12q, off12r⟩, rfl, rfl, trivial⟩, (by (repeat (first|exact aX _ _|refine aB rfl ?_|refine ax rfl ?_|refine av rfl ?_|refine aw rfl ?_)))⟩
   ·refine aH (fun g12 w12 hn12 => ⟨fun _ h => h.trans hn12.ex, ?_⟩)
    try have off12q : Off g12 (.agg qs.toArray) := hz6.off_hi hn12.lo
    try have off12r : Off g12 (.agg rs.toArray) := hz10.off_hi hn12.lo
    try have hne : g11 ≠ g12 := (by have := hb11.lt; have := hn12.lo; omega)
    have lo12 : w4.heap.size ≤ g12 := Nat.le_trans hEx.size hn12.lo
    have hb12 := hn12.blk
    replace hEx := hEx.trans hn12.ex
    try replace hz6 := hz6.ext hn12.ex
    try replace hz10 := hz10.ext hn12.ex
    try replace hb11 := hb11.ext hn12.ex
    refine ah ?_
    refine aD (fuel := 2) (rs := [4]) (by kernel_rfl) (by kernel_rfl) rfl ?_
    rw [Go.W.fms]
    refine aH (fun g11 w11 hn11 => ⟨fun _ h => h.trans hn11.ex, ?_⟩)
    try have off11q : Off g11 (.agg qs.toArray) := hz6.off_hi hn11.lo
    try have off11r : Off g11 (.agg rs.toArray) := hz10.off_hi hn11.lo
    try have hne : g11 ≠ g12 := (by have := hb12.lt; have := hn11.lo; omega)
    have lo11 : w4.heap.size ≤ g11 := Nat.le_trans hEx.size hn11.lo
    have hb11 := hn11.blk
    replace hEx := hEx.trans hn11.ex
    try replace hz6 := hz6.ext hn11.ex
    try replace hz10 := hz10.ext hn11.ex
    try replace hb12 := hb12.ext hn11.ex
    refine ah ?_
    refine aD (fuel := 1) (rs := [6]) (by kernel_rfl) (by kernel_rfl) rfl ?_
    rw [Go.W.fms]
    refine aF (n := 2) rfl rfl hql hqo hb11 (by first|rfl | assumption) (fun w13 hc13 hb11' => ⟨fun _ h => h.chg hc13 (by omega), ?_⟩)
    replace hEx := hEx.chg hc13 (by omega)
    replace hz6 := hz6.chgO hc13 off11q
    replace hz10 := hz10.chgO hc13 off11r
    replace hb11 := hb11'
    replace hb12 := hb12.chg hc13 (Ne.symm hne)
    refine ah ?_
    refine aD (fuel := 0) (rs := [7]) (by kernel_rfl) (by kernel_rfl) rfl ?_
    rw [Go.W.fms]
    refine aF (n := 2) rfl rfl hrl hro hb12 (by first|rfl | assumption) (fun w14 hc14 hb12' => ⟨fun _ h => h.chg hc14 (by omega), ?_⟩)
    replace hEx := hEx.chg hc14 (by omega)
    replace hz6 := hz6.chgO hc14 off12q
    replace hz10 := hz10.chgO hc14 off12r
    replace hb12 := hb12'
    replace hb11 := hb11.chg hc14 hne
    refine ah ?_
    refine bL (by kernel_rfl) ?_
    exact aa ⟨⟨(g11, g12, qs, rs), ⟨hEx, ⟨lo11, lo12, hne⟩, hb11, hb12, hql, hrl, hqo, hro, hz6, hz10, off11q, off11r, off12q, off12r⟩, rfl, rfl, trivial⟩, (by (repeat (first|exact aX _ _|refine aB rfl ?_|refine ax rfl ?_|refine av rfl ?_|refine aw rfl ?_)))⟩
  ·refine aH (fun g11 w11 hn11 => ⟨fun _ h => h.trans hn11.ex, ?_⟩)
   try have off11q : Off g11 (.agg qs.toArray) := hz6.off_hi hn11.lo
   try have off11r : Off g11 (.agg rs.toArray) := hz10.off_hi hn11.lo
   try have hne : g11 ≠ g12 := (by have := hb12.lt; have := hn11.lo; omega)
   have lo11 : w4.heap.size ≤ g11 := Nat.le_trans hEx.size hn11.lo
   have hb11 := hn11.blk
   replace hEx := hEx.trans hn11.ex
   try replace hz6 := hz6.ext hn11.ex
   try replace hz10 := hz10.ext hn11.ex
   try replace hb12 := hb12.ext hn11.ex
   refine ah ?_
   refine aD (fuel := 3) (rs := [3, 5]) (by kernel_rfl) (by kernel_rfl) rfl ?_
   simp only [List.forall_mem_cons, List.not_mem_nil, false_implies, implies_true, and_true]
   refine ⟨?_, ?_⟩
   ·refine au (bT (hi2.ext hEx)) rfl ?_
    rintro v10 w10' ⟨hz10, hE10'⟩
    refine ⟨fun _ h => h.trans hE10', ?_⟩
    obtain ⟨rs, rfl, hrl, hro⟩ := hz10.out
    try have off11r : Off g11 (.agg rs.toArray) := hz10.off_lo hb11.lt
    try have off12r : Off g12 (.agg rs.toArray) := hz10.off_lo hb12.lt
    replace hz10 := hz10.mono (lo' := w4.heap.size) hEx.size
    replace hz6 := hz6.ext hE10'
    replace hEx := hEx.trans hE10'
    try replace hb11 := hb11.ext hE10'
    try replace hb12 := hb12.ext hE10'
    refine ah ?_
    refine aD (fuel := 2) (rs := [5]) (by kernel_rfl) (by kernel_rfl) rfl ?_
    rw [Go.W.fms]
    refine aH (fun g12 w12 hn12 => ⟨fun _ h => h.trans hn12.ex, ?_⟩)
    try have off12q : Off g12 (.agg qs.toArray) := hz6.off_hi hn12.lo
    try have off12r : Off g12 (.agg rs.toArray) := hz10.off_hi hn12.lo
    try have hne : g11 ≠ g12 := (by have := hb11.lt; have := hn12.lo; omega)
    have lo12 : w4.heap.size ≤ g12 := Nat.le_trans hEx.size hn12.lo
    have hb12 := hn12.blk
    replace hEx := hEx.trans hn12.ex
    try replace hz6 := hz6.ext hn12.ex
    try replace hz10 := hz10.ext hn12.ex
    try replace hb11 := hb11.ext hn12.ex
    refine ah ?_
    refine aD (fuel := 1) (rs := [6]) (by kernel_rfl) (by kernel_rfl) rfl ?_
    rw [Go.W.fms]
    refine aF (n := 2) rfl rfl hql hqo hb11 (by first|rfl | assumption) (fun w13 hc13 hb11' => ⟨fun _ h => h.chg hc13 (by omega), ?_⟩)
    replace hEx := hEx.chg hc13 (by omega)
    replace hz6 := hz6.chgO hc13 off11q
    replace hz10 := hz10.chgO hc13 off11r
    replace hb11 := hb11'
    replace hb12 := hb12.chg hc13 (Ne.symm hne)
    refine ah ?_
    refine aD (fuel := 0) (rs := [7]) (by kernel_rfl) (by kernel_rfl) rfl ?_
    rw [Go.W.fms]
    refine aF (n := 2) rfl rfl hrl hro hb12 (by first|rfl | assumption) (fun w14 hc14 hb12' => ⟨fun _ h => h.chg hc14 (by omega), ?_⟩)
    replace hEx := hEx.chg hc14 (by omega)
    replace hz6 := hz6.chgO hc14 off12q
    replace hz10 := hz10.chgO hc14 off12r
    replace hb12 := hb12'
    replace hb11 := hb11.chg hc14 hne
    refine ah ?_
    refine bL (by kernel_rfl) ?_
    exact aa ⟨⟨(g11, g12, qs, rs), ⟨hEx, ⟨lo11, lo12, hne⟩, hb11, hb12, hql, hrl, hqo, hro, hz6, hz10, off11q, off11r, off12q, off12r⟩, rfl, rfl, trivial⟩, (by (repeat (first|exact aX _ _|refine aB rfl ?_|refine ax rfl ?_|refine av rfl ?_|refine aw rfl ?_)))⟩
   ·refine aH (fun g12 w12 hn12 => ⟨fun _ h => h.trans hn12.ex, ?_⟩)
    try have off12q : Off g12 (.agg qs.toArray) := hz6.off_hi hn12.lo
    try have off12r : Off g12 (.agg rs.toArray) := hz10.off_hi hn12.lo
    try have hne : g11 ≠ g12 := (by have := hb11.lt; have := hn12.lo; omega)
    have lo12 : w4.heap.size ≤ g12 := Nat.le_trans hEx.size hn12.lo
    have hb12 := hn12.blk
    replace hEx := hEx.trans hn12.ex
    try replace hz6 := hz6.ext hn12.ex
    try replace hz10 := hz10.ext hn12.ex
    try replace hb11 := hb11.ext hn12.ex
    refine ah ?_
    refine aD (fuel := 2) (rs := [3]) (by kernel_rfl) (by kernel_rfl) rfl ?_
    rw [Go.W.fms]
    refine au (bT (hi2.ext hEx)) rfl ?_
    rintro v10 w10' ⟨hz10, hE10'⟩
    refine ⟨fun _ h => h.trans hE10', ?_⟩
    obtain ⟨rs, rfl, hrl, hro⟩ := hz10.out
    try have off11r : Off g11 (.agg rs.toArray) := hz10.off_lo hb11.lt
    try have off12r : Off g12 (.agg rs.toArray) := hz10.off_lo hb12.lt
    replace hz10 := hz10.mono (lo' := w4.heap.size) hEx.size
    replace hz6 := hz6.ext hE10'
    replace hEx := hEx.trans hE10'
    try replace hb11 := hb11.ext hE10'
    try replace hb12 := hb12.ext hE10'
    refine ah ?_
    refine aD (fuel := 1) (rs := [6]) (by kernel_rfl) (by kernel_rfl) rfl ?_
    rw [Go.W.fms]
    refine aF (n := 2) rfl rfl hql hqo hb11 (by first|rfl | assumption) (fun w13 hc13 hb11' => ⟨fun _ h => h.chg hc13 (by omega), ?_⟩)
    replace hEx := hEx.chg hc13 (by omega)
    replace hz6 := hz6.chgO hc13 off11q
    replace hz10 := hz10.chgO hc13 off11r
    replace hb11 := hb11'
    replace hb12 := hb12.chg hc13 (Ne.symm hne)
    refine ah ?_
    refine aD (fuel := 0) (rs := [7]) (by kernel_rfl) (by kernel_rfl) rfl ?_
    rw [Go.W.fms]
    refine aF (n := 2) rfl rfl hrl hro hb12 (by first|rfl | assumption) (fun w14 hc14 hb12' => ⟨fun _ h => h.chg hc14 (by omega), ?_⟩)
    replace hEx := hEx.chg hc14 (by omega)
    replace hz6 := hz6.chgO hc14 off12q
    replace hz10 := hz10.chgO hc14 off12r
    replace hb12 := hb12'
    replace hb11 := hb11.chg hc14 hne
    refine ah ?_
    refine bL (by kernel_rfl) ?_
    exact aa ⟨⟨(g11, g12, qs, rs), ⟨hEx, ⟨lo11, lo12, hne⟩, hb11, hb12, hql, hrl, hqo, hro, hz6, hz10, off11q, off11r, off12q, off12r⟩, rfl, rfl, trivial⟩, (by (repeat (first|exact aX _ _|refine aB rfl ?_|refine ax rfl ?_|refine av rfl ?_|refine aw rfl ?_)))⟩
  ·refine aH (fun g12 w12 hn12 => ⟨fun _ h => h.trans hn12.ex, ?_⟩)
   try have off12q : Off g12 (.agg qs.toArray) := hz6.off_hi hn12.lo
   try have off12r : Off g12 (.agg rs.toArray) := hz10.off_hi hn12.lo
   try have hne : g11 ≠ g12 := (by have := hb11.lt; have := hn12.lo; omega)
   have lo12 : w4.heap.size ≤ g12 := Nat.le_trans hEx.size hn12.lo
   have hb12 := hn12.blk
   replace hEx := hEx.trans hn12.ex
   try replace hz6 := hz6.ext hn12.ex
   try replace hz10 := hz10.ext hn12.ex
   try replace hb11 := hb11.ext hn12.ex
   refine ah ?_
   refine aD (fuel := 3) (rs := [3, 4]) (by kernel_rfl) (by kernel_rfl) rfl ?_
   simp only [List.forall_mem_cons, List.not_mem_nil, false_implies, implies_true, and_true]
   refine ⟨?_, ?_⟩
   ·refine au (bT (hi2.ext hEx)) rfl ?_
    rintro v10 w10' ⟨hz10, hE10'⟩
    refine ⟨fun _ h => h.trans hE10', ?_⟩
    obtain ⟨rs, rfl, hrl, hro⟩ := hz10.out
    try have off11r : Off g11 (.agg rs.toArray) := hz10.off_lo hb11.lt
    try have off12r : Off g12 (.agg rs.toArray) := hz10.off_lo hb12.lt
    replace hz10 := hz10.mono (lo' := w4.heap.size) hEx.size
    replace hz6 := hz6.ext hE10'
    replace hEx := hEx.trans hE10'
    try replace hb11 := hb11.ext hE10'
    try replace hb12 := hb12.ext hE10'
    refine ah ?_
    refine aD (fuel := 2) (rs := [4]) (by kernel_rfl) (by kernel_rfl) rfl ?_
    rw [Go.W.fms]
    refine aH (fun g11 w11 hn11 => ⟨fun _ h => h.trans hn11.ex, ?_⟩)
    try have off11q : Off g11 (.agg qs.toArray) := hz6.off_hi hn11.lo
    try have off11r : Off g11 (.agg rs.toArray) := hz10.off_hi hn11.lo
    try have hne : g11 ≠ g12 := (by have := hb12.lt; have := hn11.lo; omega)
    have lo11 : w4.heap.size ≤ g11 := Nat.le_trans hEx.size hn11.lo
    have hb11 := hn11.blk
    replace hEx := hEx.trans hn11.ex
    try replace hz6 := hz6.ext hn11.ex
    try replace hz10 := hz10.ext hn11.ex
    try replace hb12 := hb12.ext hn11.ex
    refine ah ?_
    refine aD (fuel := 1) (rs := [6]) (by kernel_rfl) (by kernel_rfl) rfl ?_
    rw [Go.W.fms]
    refine aF (n := 2) rfl rfl hql hqo hb11 (by first|rfl | assumption) (fun w13 hc13 hb11' => ⟨fun _ h => h.chg hc13 (by omega), ?_⟩)
    replace hEx := hEx.chg hc13 (by omega)
    replace hz6 := hz6.chgO hc13 off11q
    replace hz10 := hz10.chgO hc13 off11r
    replace hb11 := hb11'
    replace hb12 := hb12.chg hc13 (Ne.symm hne)
    refine ah ?_
    refine aD (fuel := 0) (rs := [7]) (by kernel_rfl) (by kernel_rfl) rfl ?_
    rw [Go.W.fms]
    refine aF (n := 2) rfl rfl hrl hro hb12 (by first|rfl | assumption) (fun w14 hc14 hb12' => ⟨fun _ h => h.chg hc14 (by omega), ?_⟩)
    replace hEx := hEx.chg hc14 (by omega)
    replace hz6 := hz6.chgO hc14 off12q
    replace hz10 := hz10.chgO hc14 off12r
    replace hb12 := hb12'
    replace hb11 := hb11.chg hc14 hne
    refine ah ?_
    refine bL (by kernel_rfl) ?_
    exact aa ⟨⟨(g11, g12, qs, rs), ⟨hEx, ⟨lo11, lo12, hne⟩, hb11, hb12, hql, hrl, hqo, hro, hz6, hz10, off11q, off11r, off12q, off12r⟩, rfl, rfl, trivial⟩, (by (repeat (first|exact aX _ _|refine aB rfl ?_|refine ax rfl ?_|refine av rfl ?_|refine aw rfl ?_)))⟩
   ·refine aH (fun g11 w11 hn11 => ⟨fun _ h => h.trans hn11.ex, ?_⟩)
    try have off11q : Off g11 (.agg qs.toArray) := hz6.off_hi hn11.lo
    try have off11r : Off g11 (.agg rs.toArray) := hz10.off_hi hn11.lo
    try have hne : g11 ≠ g12 := (by have := hb12.lt; have := hn11.lo; omega)
    have lo11 : w4.heap.size ≤ g11 := Nat.le_trans hEx.size hn11.lo
    have hb11 := hn11.blk
    replace hEx := hEx.trans hn11.ex
    try replace hz6 := hz6.ext hn11.ex
    try replace hz10 := hz10.ext hn11.ex
    try replace hb12 := hb12.ext hn11.ex
    refine ah ?_
    refine aD (fuel := 2) (rs := [3]) (by kernel_rfl) (by kernel_rfl) rfl ?_
    rw [Go.W.fms]
    refine au (bT (hi2.ext hEx)) rfl ?_
    rintro v10 w10' ⟨hz10, hE10'⟩
    refine ⟨fun _ h => h.trans hE10', ?_⟩
    obtain ⟨rs, rfl, hrl, hro⟩ := hz10.out
    try have off11r : Off g11 (.agg rs.toArray) := hz10.off_lo hb11.lt
    try have off12r : Off g12 (.agg rs.toArray) := hz10.off_lo hb12.lt
    replace hz10 := hz10.mono (lo' := w4.heap.size) hEx.size
    replace hz6 := hz6.ext hE10'
    replace hEx := hEx.trans hE10'
    try replace hb11 := hb11.ext hE10'
    try replace hb12 := hb12.ext hE10'
    refine ah ?_
    refine aD (fuel := 1) (rs := [6]) (by kernel_rfl) (by kernel_rfl) rfl ?_
    rw [Go.W.fms]
    refine aF (n := 2) rfl rfl hql hqo hb11 (by first|rfl | assumption) (fun w13 hc13 hb11' => ⟨fun _ h => h.chg hc13 (by omega), ?_⟩)
    replace hEx := hEx.chg hc13 (by omega)
    replace hz6 := hz6.chgO hc13 off11q
    replace hz10 := hz10.chgO hc13 off11r
    replace hb11 := hb11'
    replace hb12 := hb12.chg hc13 (Ne.symm hne)
    refine ah ?_
    refine aD (fuel := 0) (rs := [7]) (by kernel_rfl) (by kernel_rfl) rfl ?_
    rw [Go.W.fms]
    refine aF (n := 2) rfl rfl hrl hro hb12 (by first|rfl | assumption) (fun w14 hc14 hb12' => ⟨fun _ h => h.chg hc14 (by omega), ?_⟩)
    replace hEx := hEx.chg hc14 (by omega)
    replace hz6 := hz6.chgO hc14 off12q
    replace hz10 := hz10.chgO hc14 off12r
    replace hb12 := hb12'
    replace hb11 := hb11.chg hc14 hne
    refine ah ?_
    refine bL (by kernel_rfl) ?_
    exact aa ⟨⟨(g11, g12, qs, rs), ⟨hEx, ⟨lo11, lo12, hne⟩, hb11, hb12, hql, hrl, hqo, hro, hz6, hz10, off11q, off11r, off12q, off12r⟩, rfl, rfl, trivial⟩, (by (repeat (first|exact aX _ _|refine aB rfl ?_|refine ax rfl ?_|refine av rfl ?_|refine aw rfl ?_)))⟩
 ·refine aH (fun g11 w11 hn11 => ⟨fun _ h => h.trans hn11.ex, ?_⟩)
  try have off11q : Off g11 (.agg qs.toArray) := hz6.off_hi hn11.lo
  try have off11r : Off g11 (.agg rs.toArray) := hz10.off_hi hn11.lo
  try have hne : g11 ≠ g12 := (by have := hb12.lt; have := hn11.lo; omega)
  have lo11 : w4.heap.size ≤ g11 := Nat.le_trans hEx.size hn11.lo
  have hb11 := hn11.blk
  replace hEx := hEx.trans hn11.ex
  try replace hz6 := hz6.ext hn11.ex
  try replace hz10 := hz10.ext hn11.ex
  try replace hb12 := hb12.ext hn11.ex
  refine ah ?_
  refine aD (fuel := 4) (rs := [1, 5]) (by kernel_rfl) (by kernel_rfl) rfl ?_
  simp only [List.forall_mem_cons, List.not_mem_nil, false_implies, implies_true, and_true]
  refine ⟨?_, ?_⟩
  ·refine au (bT (hi1.ext hEx)) rfl ?_
   rintro v6 w6' ⟨hz6, hE6'⟩
   refine ⟨fun _ h => h.trans hE6', ?_⟩
   obtain ⟨qs, rfl, hql, hqo⟩ := hz6.out
   try have off11q : Off g11 (.agg qs.toArray) := hz6.off_lo hb11.lt
   try have off12q : Off g12 (.agg qs.toArray) := hz6.off_lo hb12.lt
   replace hz6 := hz6.mono (lo' := w4.heap.size) hEx.size
   replace hEx := hEx.trans hE6'
   try replace hb11 := hb11.ext hE6'
   try replace hb12 := hb12.ext hE6'
   refine ah ?_
   refine aD (fuel := 3) (rs := [3, 5]) (by kernel_rfl) (by kernel_rfl) rfl ?_
   simp only [List.forall_mem_cons, List.not_mem_nil, false_implies, implies_true, and_true]
   refine ⟨?_, ?_⟩
   ·refine au (bT (hi2.ext hEx)) rfl ?_
    rintro v10 w10' ⟨hz10, hE10'⟩
    refine ⟨fun _ h => h.trans hE10', ?_⟩
    obtain ⟨rs, rfl, hrl, hro⟩ := hz10.out
    try have off11r : Off g11 (.agg rs.toArray) := hz10.off_lo hb11.lt
    try have off12r : Off g12 (.agg rs.toArray) := hz10.off_lo hb12.lt
    replace hz10 := hz10.mono (lo' := w4.heap.size) hEx.size
    replace hz6 := hz6.ext hE10'
    replace hEx := hEx.trans hE10'
    try replace hb11 := hb11.ext hE10'
    try replace hb12 := hb12.ext hE10'
    refine ah ?_
    refine aD (fuel := 2) (rs := [5]) (by kernel_rfl) (by kernel_rfl) rfl ?_
    rw [Go.W.fms]
    refine aH (fun g12 w12 hn12 => ⟨fun _ h => h.trans hn12.ex, ?_⟩)
    try have off12q : Off g12 (.agg qs.toArray) := hz6.off_hi hn12.lo
    try have off12r : Off g12 (.agg rs.toArray) := hz10.off_hi hn12.lo
    try have hne : g11 ≠ g12 := (by have := hb11.lt; have := hn12.lo; omega)
    have lo12 : w4.heap.size ≤ g12 := Nat.le_trans hEx.size hn12.lo
    have hb12 := hn12.blk
    replace hEx := hEx.trans hn12.ex
    try replace hz6 := hz6.ext hn12.ex
    try replace hz10 := hz10.ext hn12.ex
    try replace hb11 := hb11.ext hn12.ex
    refine ah ?_
    refine aD (fuel := 1) (rs := [6]) (by kernel_rfl) (by kernel_rfl) rfl ?_
    rw [Go.W.fms]
    refine aF (n := 2) rfl rfl hql hqo hb11 (by first|rfl | assumption) (fun w13 hc13 hb11' => ⟨fun _ h => h.chg hc13 (by omega), ?_⟩)
    replace hEx := hEx.chg hc13 (by omega)
    replace hz6 := hz6.chgO hc13 off11q
    replace hz10 := hz10.chgO hc13 off11r
    replace hb11 := hb11'
    replace hb12 := hb12.chg hc13 (Ne.symm hne)
    refine ah ?_
    refine aD (fuel := 0) (rs := [7]) (by kernel_rfl) (by kernel_rfl) rfl ?_
    rw [Go.W.fms]
    refine aF (n := 2) rfl rfl hrl hro hb12 (by first|rfl | assumption) (fun w14 hc14 hb12' => ⟨fun _ h => h.chg hc14 (by omega), ?_⟩)
    replace hEx := hEx.chg hc14 (by omega)
    replace hz6 := hz6.chgO hc14 off12q
    replace hz10 := hz10.chgO hc14 off12r
    replace hb12 := hb12'
    replace hb11 := hb11.chg hc14 hne
    refine ah ?_
    refine bL (by kernel_rfl) ?_
    exact aa ⟨⟨(g11, g12, qs, rs), ⟨hEx, ⟨lo11, lo12, hne⟩, hb11, hb12, hql, hrl, hqo, hro, hz6, hz10, off11q, off11r, off12q, off12r⟩, rfl, rfl, trivial⟩, (by (repeat (first|exact aX _ _|refine aB rfl ?_|refine ax rfl ?_|refine av rfl ?_|refine aw rfl ?_)))⟩
   ·refine aH (fun g12 w12 hn12 => ⟨fun _ h => h.trans hn12.ex, ?_⟩)
    try have off12q : Off g12 (.agg qs.toArray) := hz6.off_hi hn12.lo
    try have off12r : Off g12 (.agg rs.toArray) := hz10.off_hi hn12.lo
    try have hne : g11 ≠ g12 := (by have := hb11.lt; have := hn12.lo; omega)
    have lo12 : w4.heap.size ≤ g12 := Nat.le_trans hEx.size hn12.lo
    have hb12 := hn12.blk
    replace hEx := hEx.trans hn12.ex
    try replace hz6 := hz6.ext hn12.ex
    try replace hz10 := hz10.ext hn12.ex
    try replace hb11 := hb11.ext hn12.ex
    refine ah ?_
    refine aD (fuel := 2) (rs := [3]) (by kernel_rfl) (by kernel_rfl) rfl ?_
    rw [Go.W.fms]
    refine au (bT (hi2.ext hEx)) rfl ?_
    rintro v10 w10' ⟨hz10, hE10'⟩
    refine ⟨fun _ h => h.trans hE10', ?_⟩
    obtain ⟨rs, rfl, hrl, hro⟩ := hz10.out
    try have off11r : Off g11 (.agg rs.toArray) := hz10.off_lo hb11.lt
    try have off12r : Off g12 (.agg rs.toArray) := hz10.off_lo hb12.lt
    replace hz10 := hz10.mono (lo' := w4.heap.size) hEx.size
    replace hz6 := hz6.ext hE10'
    replace hEx := hEx.trans hE10'
    try replace hb11 := hb11.ext hE10'
    try replace hb12 := hb12.ext hE10'
    refine ah ?_
    refine aD (fuel := 1) (rs := [6]) (by kernel_rfl) (by kernel_rfl) rfl ?_
    rw [Go.W.fms]
    refine aF (n := 2) rfl rfl hql hqo hb11 (by first|rfl | assumption) (fun w13 hc13 hb11' => ⟨fun _ h => h.chg hc13 (by omega), ?_⟩)
    replace hEx := hEx.chg hc13 (by omega)
    replace hz6 := hz6.chgO hc13 off11q
    replace hz10 := hz10.chgO hc13 off11r
    replace hb11 := hb11'
    replace hb12 := hb12.chg hc13 (Ne.symm hne)
    refine ah ?_
    refine aD (fuel := 0) (rs := [7]) (by kernel_rfl) (by kernel_rfl) rfl ?_
    rw [Go.W.fms]
    refine aF (n := 2) rfl rfl hrl hro hb12 (by first|rfl | assumption) (fun w14 hc14 hb12' => ⟨fun _ h => h.chg hc14 (by omega), ?_⟩)
    replace hEx := hEx.chg hc14 (by omega)
    replace hz6 := hz6.chgO hc14 off12q
    replace hz10 := hz10.chgO hc14 off12r
    replace hb12 := hb12'
    replace hb11 := hb11.chg hc14 hne
    refine ah ?_
    refine bL (by kernel_rfl) ?_
    exact aa ⟨⟨(g11, g12, qs, rs), ⟨hEx, ⟨lo11, lo12, hne⟩, hb11, hb12, hql, hrl, hqo, hro, hz6, hz10, off11q, off11r, off12q, off12r⟩, rfl, rfl, trivial⟩, (by (repeat (first|exact aX _ _|refine aB rfl ?_|refine ax rfl ?_|refine av rfl ?_|refine aw rfl ?_)))⟩
  ·refine aH (fun g12 w12 hn12 => ⟨fun _ h => h.trans hn12.ex, ?_⟩)
   try have off12q : Off g12 (.agg qs.toArray) := hz6.off_hi hn12.lo
   try have off12r : Off g12 (.agg rs.toArray) := hz10.off_hi hn12.lo
   try have hne : g11 ≠ g12 := (by have := hb11.lt; have := hn12.lo; omega)
   have lo12 : w4.heap.size ≤ g12 := Nat.le_trans hEx.size hn12.lo
   have hb12 := hn12.blk
   replace hEx := hEx.trans hn12.ex
   try replace hz6 := hz6.ext hn12.ex
   try replace hz10 := hz10.ext hn12.ex
   try replace hb11 := hb11.ext hn12.ex
   refine ah ?_
   refine aD (fuel := 3) (rs := [1]) (by kernel_rfl) (by kernel_rfl) rfl ?_
   rw [Go.W.fms]
   refine au (bT (hi1.ext hEx)) rfl ?_
   rintro v6 w6' ⟨hz6, hE6'⟩
   refine ⟨fun _ h => h.trans hE6', ?_⟩
   obtain ⟨qs, rfl, hql, hqo⟩ := hz6.out
   try have off11q : Off g11 (.agg qs.toArray) := hz6.off_lo hb11.lt
   try have off12q : Off g12 (.agg qs.toArray) := hz6.off_lo hb12.lt
   replace hz6 := hz6.mono (lo' := w4.heap.size) hEx.size
   replace hEx := hEx.trans hE6'
   try replace hb11 := hb11.ext hE6'
   try replace hb12 := hb12.ext hE6'
   refine ah ?_
   refine aD (fuel := 2) (rs := [3]) (by kernel_rfl) (by kernel_rfl) rfl ?_
   rw [Go.W.fms]
   refine au (bT (hi2.ext hEx)) rfl ?_
   rintro v10 w10' ⟨hz10, hE10'⟩
   refine ⟨fun _ h => h.trans hE10', ?_⟩
   obtain ⟨rs, rfl, hrl, hro⟩ := hz10.out
   try have off11r : Off g11 (.agg rs.toArray) := hz10.off_lo hb11.lt
   try have off12r : Off g12 (.agg rs.toArray) := hz10.off_lo hb12.lt
   replace hz10 := hz10.mono (lo' := w4.heap.size) hEx.size
   replace hz6 := hz6.ext hE10'
   replace hEx := hEx.trans hE10'
   try replace hb11 := hb11.ext hE10'
   try replace hb12 := hb12.ext hE10'
   refine ah ?_
   refine aD (fuel := 1) (rs := [6]) (by kernel_rfl) (by kernel_rfl) rfl ?_
   rw [Go.W.fms]
   refine aF (n := 2) rfl rfl hql hqo hb11 (by first|rfl | assumption) (fun w13 hc13 hb11' => ⟨fun _ h => h.chg hc13 (by omega), ?_⟩)
   replace hEx := hEx.chg hc13 (by omega)
   replace hz6 := hz6.chgO hc13 off11q
   replace hz10 := hz10.chgO hc13 off11r
   replace hb11 := hb11'
   replace hb12 := hb12.chg hc13 (Ne.symm hne)
   refine ah ?_
   refine aD (fuel := 0) (rs := [7]) (by kernel_rfl) (by kernel_rfl) rfl ?_
   rw [Go.W.fms]
   refine aF (n := 2) rfl rfl hrl hro hb12 (by first|rfl | assumption) (fun w14 hc14 hb12' => ⟨fun _ h => h.chg hc14 (by omega), ?_⟩)
   replace hEx := hEx.chg hc14 (by omega)
   replace hz6 := hz6.chgO hc14 off12q
   replace hz10 := hz10.chgO hc14 off12r
   replace hb12 := hb12'
   replace hb11 := hb11.chg hc14 hne
   refine ah ?_
   refine bL (by kernel_rfl) ?_
   exact aa ⟨⟨(g11, g12, qs, rs), ⟨hEx, ⟨lo11, lo12, hne⟩, hb11, hb12, hql, hrl, hqo, hro, hz6, hz10, off11q, off11r, off12q, off12r⟩, rfl, rfl, trivial⟩, (by (repeat (first|exact aX _ _|refine aB rfl ?_|refine ax rfl ?_|refine av rfl ?_|refine aw rfl ?_)))⟩
 ·refine aH (fun g12 w12 hn12 => ⟨fun _ h => h.trans hn12.ex, ?_⟩)
  try have off12q : Off g12 (.agg qs.toArray) := hz6.off_hi hn12.lo
  try have off12r : Off g12 (.agg rs.toArray) := hz10.off_hi hn12.lo
  try have hne : g11 ≠ g12 := (by have := hb11.lt; have := hn12.lo; omega)
  have lo12 : w4.heap.size ≤ g12 := Nat.le_trans hEx.size hn12.lo
  have hb12 := hn12.blk
  replace hEx := hEx.trans hn12.ex
  try replace hz6 := hz6.ext hn12.ex
  try replace hz10 := hz10.ext hn12.ex
  try replace hb11 := hb11.ext hn12.ex
  refine ah ?_
  refine aD (fuel := 4) (rs := [1, 4]) (by kernel_rfl) (by kernel_rfl) rfl ?_
  simp only [List.forall_mem_cons, List.not_mem_nil, false_implies, implies_true, and_true]
  refine ⟨?_, ?_⟩
  ·refine au (bT (hi1.ext hEx)) rfl ?_
   rintro v6 w6' ⟨hz6, hE6'⟩
   refine ⟨fun _ h => h.trans hE6', ?_⟩
   obtain ⟨qs, rfl, hql, hqo⟩ := hz6.out
   try have off11q : Off g11 (.agg qs.toArray) := hz6.off_lo hb11.lt
   try have off12q : Off g12 (.agg qs.toArray) := hz6.off_lo hb12.lt
   replace hz6 := hz6.mono (lo' := w4.heap.size) hEx.size
   replace hEx := hEx.trans hE6'
   try replace hb11 := hb11.ext hE6'
   try replace hb12 := hb12.ext hE6'
   refine ah ?_
   refine aD (fuel := 3) (rs := [3, 4]) (by kernel_rfl) (by kernel_rfl) rfl ?_
   simp only [List.forall_mem_cons, List.not_mem_nil, false_implies, implies_true, and_true]
   refine ⟨?_, ?_⟩
   ·refine au (bT (hi2.ext hEx)) rfl ?_
    rintro v10 w10' ⟨hz10, hE10'⟩
    refine ⟨fun _ h => h.trans hE10', ?_⟩
    obtain ⟨rs, rfl, hrl, hro⟩ := hz10.out
    try have off11r : Off g11 (.agg rs.toArray) := hz10.off_lo hb11.lt
    try have off12r : Off g12 (.agg rs.toArray) := hz10.off_lo hb12.lt
    replace hz10 := hz10.mono (lo' := w4.heap.size) hEx.size
    replace hz6 := hz6.ext hE10'
    replace hEx := hEx.trans hE10'
    try replace hb11 := hb11.ext hE10'
    try replace hb12 := hb12.ext hE10'
    refine ah ?_
    refine aD (fuel := 2) (rs := [4]) (by kernel_rfl) (by kernel_rfl) rfl ?_
    rw [Go.W.fms]
    refine aH (fun g11 w11 hn11 => ⟨fun _ h => h.trans hn11.ex, ?_⟩)
    try have off11q : Off g11 (.agg qs.toArray) := hz6.off_hi hn11.lo
    try have off11r : Off g11 (.agg rs.toArray) := hz10.off_hi hn11.lo
    try have hne : g11 ≠ g12 := (by have := hb12.lt; have := hn11.lo; omega)
    have lo11 : w4.heap.size ≤ g11 := Nat.le_trans hEx.size hn11.lo
    have hb11 := hn11.blk
    replace hEx := hEx.trans hn11.ex
    try replace hz6 := hz6.ext hn11.ex
    try replace hz10 := hz10.ext hn11.ex
    try replace hb12 := hb12.ext hn11.ex
    refine ah ?_
    refine aD (fuel := 1) (rs := [6]) (by kernel_rfl) (by kernel_rfl) rfl ?_
    rw [Go.W.fms]
    refine aF (n := 2) rfl rfl hql hqo hb11 (by first|rfl | assumption) (fun w13 hc13 hb11' => ⟨fun _ h => h.chg hc13 (by omega), ?_⟩)
    replace hEx := hEx.chg hc13 (by omega)
    replace hz6 := hz6.chgO hc13 off11q
    replace hz10 := hz10.chgO hc13 off11r
    replace hb11 := hb11'
    replace hb12 := hb12.chg hc13 (Ne.symm hne)
    refine ah ?_
    refine aD (fuel := 0) (rs := [7]) (by kernel_rfl) (by kernel_rfl) rfl ?_
    rw [Go.W.fms]
    refine aF (n := 2) rfl rfl hrl hro hb12 (by first|rfl | assumption) (fun w14 hc14 hb12' => ⟨fun _ h => h.chg hc14 (by omega), ?_⟩)
    replace hEx := hEx.chg hc14 (by omega)
    replace hz6 := hz6.chgO hc14 off12q
    replace hz10 := hz10.chgO hc14 off12r
    replace hb12 := hb12'
    replace hb11 := hb11.chg hc14 hne
    refine ah ?_
    refine bL (by kernel_rfl) ?_
    exact aa ⟨⟨(g11, g12, qs, rs), ⟨hEx, ⟨lo11, lo12, hne⟩, hb11, hb12, hql, hrl, hqo, hro, hz6, hz10, off11q, off11r, off12q, off12r⟩, rfl, rfl, trivial⟩, (by (repeat (first|exact aX _ _|refine aB rfl ?_|refine ax rfl ?_|refine av rfl ?_|refine aw rfl ?_)))⟩
   ·refine aH (fun g11 w11 hn11 => ⟨fun _ h => h.trans hn11.ex, ?_⟩)
    try have off11q : Off g11 (.agg qs.toArray) := hz6.off_hi hn11.lo
    try have off11r : Off g11 (.agg rs.toArray) := hz10.off_hi hn11.lo
    try have hne : g11 ≠ g12 := (by have := hb12.lt; have := hn11.lo; omega)
    have lo11 : w4.heap.size ≤ g11 := Nat.le_trans hEx.size hn11.lo
    have hb11 := hn11.blk
    replace hEx := hEx.trans hn11.ex
    try replace hz6 := hz6.ext hn11.ex
    try replace hz10 := hz10.ext hn11.ex
    try replace hb12 := hb12.ext hn11.ex
    refine ah ?_
    refine aD (fuel := 2) (rs := [3]) (by kernel_rfl) (by kernel_rfl) rfl ?_
    rw [Go.W.fms]
    refine au (bT (hi2.ext hEx)) rfl ?_
    rintro v10 w10' ⟨hz10, hE10'⟩
    refine ⟨fun _ h => h.trans hE10', ?_⟩
    obtain ⟨rs, rfl, hrl, hro⟩ := hz10.out
    try have off11r : Off g11 (.agg rs.toArray) := hz10.off_lo hb11.lt
    try have off12r : Off g12 (.agg rs.toArray) := hz10.off_lo hb12.lt
    replace hz10 := hz10.mono (lo' := w4.heap.size) hEx.size
    replace hz6 := hz6.ext hE10'
    replace hEx := hEx.trans hE10'
    try replace hb11 := hb11.ext hE10'
    try replace hb12 := hb12.ext hE10'
    refine ah ?_
    refine aD (fuel := 1) (rs := [6]) (by kernel_rfl) (by kernel_rfl) rfl ?_
    rw [Go.W.fms]
    refine aF (n := 2) rfl rfl hql hqo hb11 (by first|rfl | assumption) (fun w13 hc13 hb11' => ⟨fun _ h => h.chg hc13 (by omega), ?_⟩)
    replace hEx := hEx.chg hc13 (by omega)
    replace hz6 := hz6.chgO hc13 off11q
    replace hz10 := hz10.chgO hc13 off11r
    replace hb11 := hb11'
    replace hb12 := hb12.chg hc13 (Ne.symm hne)
    refine ah ?_
    refine aD (fuel := 0) (rs := [7]) (by kernel_rfl) (by kernel_rfl) rfl ?_
    rw [Go.W.fms]
    refine aF (n := 2) rfl rfl hrl hro hb12 (by first|rfl | assumption) (fun w14 hc14 hb12' => ⟨fun _ h => h.chg hc14 (by omega), ?_⟩)
    replace hEx := hEx.chg hc14 (by omega)
    replace hz6 := hz6.chgO hc14 off12q
    replace hz10 := hz10.chgO hc14 off12r
    replace hb12 := hb12'
    replace hb11 := hb11.chg hc14 hne
    refine ah ?_
    refine bL (by kernel_rfl) ?_
    exact aa ⟨⟨(g11, g12, qs, rs), ⟨hEx, ⟨lo11, lo12, hne⟩, hb11, hb12, hql, hrl, hqo, hro, hz6, hz10, off11q, off11r, off12q, off12r⟩, rfl, rfl, trivial⟩, (by (repeat (first|exact aX _ _|refine aB rfl ?_|refine ax rfl ?_|refine av rfl ?_|refine aw rfl ?_)))⟩
  ·refine aH (fun g11 w11 hn11 => ⟨fun _ h => h.trans hn11.ex, ?_⟩)
   try have off11q : Off g11 (.agg qs.toArray) := hz6.off_hi hn11.lo
   try have off11r : Off g11 (.agg rs.toArray) := hz10.off_hi hn11.lo
   try have hne : g11 ≠ g12 := (by have := hb12.lt; have := hn11.lo; omega)
   have lo11 : w4.heap.size ≤ g11 := Nat.le_trans hEx.size hn11.lo
   have hb11 := hn11.blk
   replace hEx := hEx.trans hn11.ex
   try replace hz6 := hz6.ext hn11.ex
   try replace hz10 := hz10.ext hn11.ex
   try replace hb12 := hb12.ext hn11.ex
   refine ah ?_
   refine aD (fuel := 3) (rs := [1]) (by kernel_rfl) (by kernel_rfl) rfl ?_
   rw [Go.W.fms]
   refine au (bT (hi1.ext hEx)) rfl ?_
   rintro v6 w6' ⟨hz6, hE6'⟩
   refine ⟨fun _ h => h.trans hE6', ?_⟩
   obtain ⟨qs, rfl, hql, hqo⟩ := hz6.out
   try have off11q : Off g11 (.agg qs.toArray) := hz6.off_lo hb11.lt
   try have off12q : Off g12 (.agg qs.toArray) := hz6.off_lo hb12.lt
   replace hz6 := hz6.mono (lo' := w4.heap.size) hEx.size
   replace hEx := hEx.trans hE6'
   try replace hb11 := hb11.ext hE6'
   try replace hb12 := hb12.ext hE6'
   refine ah ?_
   refine aD (fuel := 2) (rs := [3]) (by kernel_rfl) (by kernel_rfl) rfl ?_
   rw [Go.W.fms]
   refine au (bT (hi2.ext hEx)) rfl ?_
   rintro v10 w10' ⟨hz10, hE10'⟩
   refine ⟨fun _ h => h.trans hE10', ?_⟩
   obtain ⟨rs, rfl, hrl, hro⟩ := hz10.out
   try have off11r : Off g11 (.agg rs.toArray) := hz10.off_lo hb11.lt
   try have off12r : Off g12 (.agg rs.toArray) := hz10.off_lo hb12.lt
   replace hz10 := hz10.mono (lo' := w4.heap.size) hEx.size
   replace hz6 := hz6.ext hE10'
   replace hEx := hEx.trans hE10'
   try replace hb11 := hb11.ext hE10'
   try replace hb12 := hb12.ext hE10'
   refine ah ?_
   refine aD (fuel := 1) (rs := [6]) (by kernel_rfl) (by kernel_rfl) rfl ?_
   rw [Go.W.fms]
   refine aF (n := 2) rfl rfl hql hqo hb11 (by first|rfl | assumption) (fun w13 hc13 hb11' => ⟨fun _ h => h.chg hc13 (by omega), ?_⟩)
   replace hEx := hEx.chg hc13 (by omega)
   replace hz6 := hz6.chgO hc13 off11q
   replace hz10 := hz10.chgO hc13 off11r
   replace hb11 := hb11'
   replace hb12 := hb12.chg hc13 (Ne.symm hne)
   refine ah ?_
   refine aD (fuel := 0) (rs := [7]) (by kernel_rfl) (by kernel_rfl) rfl ?_
   rw [Go.W.fms]
   refine aF (n := 2) rfl rfl hrl hro hb12 (by first|rfl | assumption) (fun w14 hc14 hb12' => ⟨fun _ h => h.chg hc14 (by omega), ?_⟩)
   replace hEx := hEx.chg hc14 (by omega)
   replace hz6 := hz6.chgO hc14 off12q
   replace hz10 := hz10.chgO hc14 off12r
   replace hb12 := hb12'
   replace hb11 := hb11.chg hc14 hne
   refine ah ?_
   refine bL (by kernel_rfl) ?_
   exact aa ⟨⟨(g11, g12, qs, rs), ⟨hEx, ⟨lo11, lo12, hne⟩, hb11, hb12, hql, hrl, hqo, hro, hz6, hz10, off11q, off11r, off12q, off12r⟩, rfl, rfl, trivial⟩, (by (repeat (first|exact aX _ _|refine aB rfl ?_|refine ax rfl ?_|refine av rfl ?_|refine aw rfl ?_)))⟩
 rintro ⟨g5, g6, qs0, rs0⟩ ξ w5 ⟨hE5, hg56, hb5, hb6, hql0, hrl0, hqo0, hro0, hzq0, hzr0, hoff⟩
 simp only at hg56 hb5 hb6 hql0 hrl0 hqo0 hro0 hzq0 hzr0 hoff
 show CW _ _ _ _ (over [(5, .pointer (some ⟨g5, 0, none⟩)), (6, .pointer (some ⟨g6, 0, none⟩))] _) w5
 repeat' (first|refine ak ?_|refine ay ?_)
 refine aW (ι := Nat × Nat × List Value × List Value) [11, 12, 13, 14, 15, 16, 17] (fun _ => [])
  (fun s w' => Ex w4 w' ∧ w5.heap.size ≤ w'.heap.size ∧ Nat.gcd s.1 s.2.1 = Nat.gcd x.natAbs y.natAbs ∧ s.1 < 4294967296 ^ K ∧ s.2.1 < 4294967296 ^ K ∧ Blk w' g5 34 s.2.2.1 ∧ Blk w' g6 34 s.2.2.2 ∧ s.2.2.1.length = 2 ∧ s.2.2.2.length = 2 ∧ s.2.2.1.all Value.oneCell' = true ∧ s.2.2.2.all Value.oneCell' = true ∧ IntC w4.heap.size w' (.agg s.2.2.1.toArray) (s.1 : Int) ∧ IntC w4.heap.size w' (.agg s.2.2.2.toArray) (s.2.1 : Int) ∧
   (Off g5 (.agg s.2.2.1.toArray) ∧ Off g5 (.agg s.2.2.2.toArray) ∧ Off g6 (.agg s.2.2.1.toArray) ∧ Off g6 (.agg s.2.2.2.toArray))) (fun s => s.2.1)
  (x.natAbs, y.natAbs, qs0, rs0) trivial ⟨hE5, Nat.le_refl _, rfl, hx, hy, hb5, hb6, hql0, hrl0, hqo0, hro0, hzq0, hzr0, hoff⟩ ?_
 rintro ⟨p, q, qs, rs⟩ ξ2 w6 ⟨hE6, hs6, hg, hp64, hq64, hb56, hb66, hql, hrl, hqo, hro, hzq, hzr, o1, o2, o3, o4⟩
 simp only at hg hp64 hq64 hb56 hb66 hql hrl hqo hro hzq hzr o1 o2 o3 o4
 show CW _ _ _ _ (mask _ _ _) w6
 repeat' (first|refine aY rfl hb66 hrl ?_|refine ak ?_|refine ai rfl ?_)
 refine au (gY hzr) rfl ?_
 rintro v w7 ⟨rfl, hE7⟩
 refine tvv ?_
 have hb57 := hb56.ext hE7
 have hb67 := hb66.ext hE7
 have s7 := hE7.size
 have m5 := hb5.lt
 have m6 := hb6.lt
 by_cases hq0 : q = 0
 ·subst hq0
  repeat' (first|refine eI rfl rfl (by simp) ?_|refine aY rfl hb57 hql ?_|refine aa ?_|refine ak ?_|refine ai rfl ?_|refine ah ?_|refine ao rfl ?_|refine aT ?_|refine aO ?_|refine aU ?_)
  have hE47 := hE6.trans hE7
  refine aF (n := 2) rfl rfl hql hqo (hb4.ext hE47) rfl (fun w8 hc8 hb8 => tvv ?_)
  repeat' (first|refine aa ?_|refine ah ?_|refine aK ?_)
  rw [Nat.gcd_zero_right] at hg
  rw [← hg]
  exact bo rfl (rc rfl hql hb8) ⟨((hzq.ext hE7).chgO hc8 (hzq.off_lo (by omega))).mono hE.size, (hE.trans hE47).chg hc8 (by omega)⟩
 ·have hsg : ((q : Nat) : Int).sign = 1 := Int.sign_eq_one_of_pos (by omega)
  rw [hsg]
  repeat' (first|refine aj rfl ?_|refine aa ?_|refine ah ?_|refine aA rfl ?_|refine ay ?_|refine aC ?_)
  refine eZ (late := [4, 5]) (plan := [(0, none), (1, none), (2, none), (3, some true), (4, some false), (5, some false)]) (fun w' => Blk w' g5 34 qs ∧ Blk w' g6 34 rs) bD (by kernel_rfl) ⟨hb57.drew, hb67.drew⟩ ?_
  have hEd : Ex w7 w7.drew := (Ex.refl w7).drew
  repeat' (first|refine aY rfl (fun _ h => h.1) hql ?_|refine aY rfl (fun _ h => h.2) hrl ?_)
  refine au (oo (p := K) (q := K) (((hzq.ext hE7).ext hEd).k (by simpa using hp64)) (((hzr.ext hE7).ext hEd).k (by simpa using hq64)) (by omega) hK hK) rfl ?_
  rintro v w8 ⟨hz8, hE8⟩
  refine ⟨fun _ h => ⟨h.1.ext hE8, h.2.ext hE8⟩, ?_⟩
  rw [show ((p : Nat) : Int) % ((q : Nat) : Int) = ((p % q : Nat) : Int) from rfl] at hz8
  obtain ⟨ts, rfl, htl, hto⟩ := hz8.out
  have s8 := hE8.size
  have s7d : w7.drew.heap.size = w7.heap.size := rfl
  have hb58 := (hb57.drew).ext hE8
  have hb68 := (hb67.drew).ext hE8
  refine aF (n := 2) rfl rfl hrl hro hb58 hql (fun w9 hc9 hb59 => ⟨fun h => absurd h (by decide), ?_⟩)
  refine aF (n := 2) rfl rfl htl hto (hb68.chg hc9 (Ne.symm hg56.2.2)) hrl (fun w10 hc10 hb610 => ⟨fun h => absurd h (by decide), ?_⟩)
  repeat' (first|refine aa ?_|refine ah ?_|refine aJ ?_)
  have hlt : p % q < q := Nat.mod_lt _ (by omega)
  have oo5 := hz8.off_lo (g := g5) (by omega)
  have oo6 := hz8.off_lo (g := g6) (by omega)
  have s4 := hE6.size
  have s9 := hc9.size
  have s10 := hc10.size
  refine ⟨⟨(q, p % q, rs, ts), ⟨(((hE6.trans hE7).trans hEd).trans hE8 |>.chg hc9 hg56.1).chg hc10 hg56.2.1, by omega, ?_, hq64, Nat.lt_trans hlt hq64, hb59.chg hc10 hg56.2.2, hb610, hrl, htl, hro, hto, ((((hzr.ext hE7).ext hEd).ext hE8).chgO hc9 o2).chgO hc10 o4, ((hz8.chgO hc9 oo5).chgO hc10 oo6).mono (by omega), o2, oo5, o4, oo6⟩, hlt, trivial⟩, (by (repeat (first|exact aG _ _ _|refine aB rfl ?_|refine ax rfl ?_|refine av rfl ?_|refine aw rfl ?_)))⟩
  simp only
  rw [← hg, Nat.gcd_comm p q, Nat.gcd_rec q p, Nat.gcd_comm]
end Go.Proofs.YtpfhfldehaiokaaGreat
