import Derived.Test.YtpfhfldehaiokaaGreatA17
set_option maxHeartbeats 8000000
namespace Go.Proofs.YtpfhfldehaiokaaGreat
open Go.W Go.LM Go.LA
theorem oB {K : Nat} {v1 v2 : Value} {p q r s : Int} {w : World} (h1 : RatK K w v1 p q) (h2 : RatK K w v2 r s) (hq : 0 < q) (hs : 0 < s) (hK : 2 * K + 1 < 17592186044415) :
  CallsR Tryz.prog 119 #[v1, v2] w fun v w' => ∃ P Q : Int, 0 < Q ∧ P * (q * s) = (p * s + r * q) * Q ∧ Lb (2 * K + 1) P ∧ Lb (2 * K + 1) Q ∧ RetR w P Q v w' := by
 obtain ⟨x1, y1, rfl, hx1, hy1⟩ := h1
 obtain ⟨x2, y2, rfl, hx2, hy2⟩ := h2
 have lp : Lb K p := hx1.lt
 have lq : Lb K q := hy1.lt
 have lr : Lb K r := hx2.lt
 have ls : Lb K s := hy2.lt
 refine aE (args := [_, _]) Tryz.func119 rfl rfl ?_
 refine ak ?_
 refine ai rfl ?_
 refine bC (vs := ratL x1 y1) rfl (fun g2 w2 hn2 => tvv ?_)
 refine bC (vs := ratL x2 y2) rfl (fun g3 w3 hn3 => tvv ?_)
 refine aH (fun g4 w4 hn4 => tvv ?_)
 have hb2 := (hn2.blk.ext hn3.ex).ext hn4.ex
 have hb3 := hn3.blk.ext hn4.ex
 have hb4 : Blk w4 g4 118 (ratL ih0 ih0) := hn4.blk
 have hE := (hn2.ex.trans hn3.ex).trans hn4.ex
 have lo4 := hn4.lo
 have s3 := (hn2.ex.trans hn3.ex).size
 have s4 := hE.size
 have hEx : Ex w4 w4.drew := (Ex.refl w4).drew
 have hk1 : RatK K w4 (.agg (ratL x1 y1).toArray) p q := ⟨x1, y1, rfl, hx1.ext hE, hy1.ext hE⟩
 have hk2 : RatK K w4 (.agg (ratL x2 y2).toArray) r s := ⟨x2, y2, rfl, hx2.ext hE, hy2.ext hE⟩
 repeat' (first|refine aa ?_|refine ak ?_|refine ah ?_)
 refine dy (ι := Nat × Nat × List Value × List Value) [5, 6, 9, 10, 11, 12] (fun s => [(5, .pointer (some ⟨s.1, 0, none⟩)), (6, .pointer (some ⟨s.2.1, 0, none⟩))])
  (fun t w' => Ex w4 w' ∧ w4.heap.size ≤ t.1 ∧ w4.heap.size ≤ t.2.1 ∧ Blk w' t.1 118 t.2.2.1 ∧ Blk w' t.2.1 118 t.2.2.2 ∧ RatC w4.heap.size w' t.2.2.1 (p / gcdI p q) (q / gcdI p q) ∧ RatC w4.heap.size w' t.2.2.2 (r / gcdI r s) (s / gcdI r s)) ?_ ?_
 ·refine gU (fun w' => Ex w4 w') bD hEx ?_
  refine bP (fuel := 6) (by kernel_rfl) (by kernel_rfl) [0, 2] _ _ (by kernel_rfl) ?_
  repeat' (first|refine aY (cs := ratL x1 y1) rfl (fun _ h => hb2.ext h) rfl ?_|refine aY (cs := ratL x2 y2) rfl (fun _ h => hb3.ext h) rfl ?_|refine ah ?_)
  refine aD (fuel := 5) (rs := [1, 4, 5]) (by kernel_rfl) (by kernel_rfl) rfl ?_
  simp only [List.forall_mem_cons, List.not_mem_nil, false_implies, implies_true, and_true]
  refine ⟨?_, ?_, ?_⟩
  focus
   refine au (bv (hk1.ext hEx) hq (by omega)) rfl ?_
   rintro v6 w6' hR6
   obtain ⟨cs6, rfl, hC6, hE6'⟩ := hR6.c
   refine ⟨fun _ h => h.trans hE6', ?_⟩
   replace hC6 := hC6.mono hEx.size
   replace hEx := hEx.trans hE6'
   try replace hb11 := hb11.ext hE6'
   try replace hb12 := hb12.ext hE6'
   refine ah ?_
   refine aD (fuel := 4) (rs := [3, 4, 5]) (by kernel_rfl) (by kernel_rfl) rfl ?_
   simp only [List.forall_mem_cons, List.not_mem_nil, false_implies, implies_true, and_true]
   refine ⟨?_, ?_, ?_⟩
   focus
    refine au (bv (hk2.ext hEx) hs (by omega)) rfl ?_
    rintro v10 w10' hR10
    obtain ⟨cs10, rfl, hC10, hE10'⟩ := hR10.c
    refine ⟨fun _ h => h.trans hE10', ?_⟩
    replace hC10 := hC10.mono hEx.size
    replace hC6 := hC6.ext hE10'
    replace hEx := hEx.trans hE10'
    try replace hb11 := hb11.ext hE10'
    try replace hb12 := hb12.ext hE10'
    refine ah ?_
    refine aD (fuel := 3) (rs := [4, 5]) (by kernel_rfl) (by kernel_rfl) rfl ?_
    simp only [List.forall_mem_cons, List.not_mem_nil, false_implies, implies_true, and_true]
    refine ⟨?_, ?_⟩
    focus
     refine aH (fun g11 w11 hn11 => ⟨fun _ h => h.trans hn11.ex, ?_⟩)
     have hb11 : Blk w11 g11 118 (ratL ih0 ih0) := hn11.blk
     have lo11 : w4.heap.size ≤ g11 := Nat.le_trans hEx.size hn11.lo
     try have hne : g11 ≠ g12 := (by have := hb12.lt; have := hn11.lo; omega)
     replace hEx := hEx.trans hn11.ex
     try replace hC6 := hC6.ext hn11.ex
     try replace hC10 := hC10.ext hn11.ex
     try replace hb12 := hb12.ext hn11.ex
     refine ah ?_
     refine aD (fuel := 2) (rs := [5]) (by kernel_rfl) (by kernel_rfl) rfl ?_
     rw [Go.W.fms]
     refine aH (fun g12 w12 hn12 => ⟨fun _ h => h.trans hn12.ex, ?_⟩)
     have hb12 : Blk w12 g12 118 (ratL ih0 ih0) := hn12.blk
     have lo12 : w4.heap.size ≤ g12 := Nat.le_trans hEx.size hn12.lo
     try have hne : g11 ≠ g12 := (by have := hb11.lt; have := hn12.lo; omega)
     replace hEx := hEx.trans hn12.ex
     try replace hC6 := hC6.ext hn12.ex
     try replace hC10 := hC10.ext hn12.ex
     try replace hb11 := hb11.ext hn12.ex
     refine ah ?_
    rotate_left 1
    focus
     refine aH (fun g12 w12 hn12 => ⟨fun _ h => h.trans hn12.ex, ?_⟩)
     have hb12 : Blk w12 g12 118 (ratL ih0 ih0) := hn12.blk
     have lo12 : w4.heap.size ≤ g12 := Nat.le_trans hEx.size hn12.lo
     try have hne : g11 ≠ g12 := (by have := hb11.lt; have := hn12.lo; omega)
     replace hEx := hEx.trans hn12.ex
     try replace hC6 := hC6.ext hn12.ex
     try replace hC10 := hC10.ext hn12.ex
     try replace hb11 := hb11.ext hn12.ex
     refine ah ?_
     refine aD (fuel := 2) (rs := [4]) (by kernel_rfl) (by kernel_rfl) rfl ?_
     rw [Go.W.fms]
     refine aH (fun g11 w11 hn11 => ⟨fun _ h => h.trans hn11.ex, ?_⟩)
     have hb11 : Blk w11 g11 118 (ratL ih0 ih0) := hn11.blk
     have lo11 : w4.heap.size ≤ g11 := Nat.le_trans hEx.size hn11.lo
     try have hne : g11 ≠ g12 := (by have := hb12.lt; have := hn11.lo; omega)
     replace hEx := hEx.trans hn11.ex
     try replace hC6 := hC6.ext hn11.ex
     try replace hC10 := hC10.ext hn11.ex
     try replace hb12 := hb12.ext hn11.ex
     refine ah ?_
    rotate_left 1
   rotate_left 2
   focus
    refine aH (fun g11 w11 hn11 => ⟨fun _ h => h.trans hn11.ex, ?_⟩)
    have hb11 : Blk w11 g11 118 (ratL ih0 ih0) := hn11.blk
    have lo11 : w4.heap.size ≤ g11 := Nat.le_trans hEx.size hn11.lo
    try have hne : g11 ≠ g12 := (by have := hb12.lt; have := hn11.lo; omega)
    replace hEx := hEx.trans hn11.ex
    try replace hC6 := hC6.ext hn11.ex
    try replace hC10 := hC10.ext hn11.ex
    try replace hb12 := hb12.ext hn11.ex
    refine ah ?_
    refine aD (fuel := 3) (rs := [3, 5]) (by kernel_rfl) (by kernel_rfl) rfl ?_
    simp only [List.forall_mem_cons, List.not_mem_nil, false_implies, implies_true, and_true]
    refine ⟨?_, ?_⟩
    focus
     refine au (bv (hk2.ext hEx) hs (by omega)) rfl ?_
     rintro v10 w10' hR10
     obtain ⟨cs10, rfl, hC10, hE10'⟩ := hR10.c
     refine ⟨fun _ h => h.trans hE10', ?_⟩
     replace hC10 := hC10.mono hEx.size
     replace hC6 := hC6.ext hE10'
     replace hEx := hEx.trans hE10'
     try replace hb11 := hb11.ext hE10'
     try replace hb12 := hb12.ext hE10'
     refine ah ?_
     refine aD (fuel := 2) (rs := [5]) (by kernel_rfl) (by kernel_rfl) rfl ?_
     rw [Go.W.fms]
     refine aH (fun g12 w12 hn12 => ⟨fun _ h => h.trans hn12.ex, ?_⟩)
     have hb12 : Blk w12 g12 118 (ratL ih0 ih0) := hn12.blk
     have lo12 : w4.heap.size ≤ g12 := Nat.le_trans hEx.size hn12.lo
     try have hne : g11 ≠ g12 := (by have := hb11.lt; have := hn12.lo; omega)
     replace hEx := hEx.trans hn12.ex
     try replace hC6 := hC6.ext hn12.ex
     try replace hC10 := hC10.ext hn12.ex
     try replace hb11 := hb11.ext hn12.ex
     refine ah ?_
    rotate_left 1
    focus
     refine aH (fun g12 w12 hn12 => ⟨fun _ h => h.trans hn12.ex, ?_⟩)
     have hb12 : Blk w12 g12 118 (ratL ih0 ih0) := hn12.blk
     have lo12 : w4.heap.size ≤ g12 := Nat.le_trans hEx.size hn12.lo
     try have hne : g11 ≠ g12 := (by have := hb11.lt; have := hn12.lo; omega)
     replace hEx := hEx.trans hn12.ex
     try replace hC6 := hC6.ext hn12.ex
     try replace hC10 := hC10.ext hn12.ex
     try replace hb11 := hb11.ext hn12.ex
     refine ah ?_
     refine aD (fuel := 2) (rs := [3]) (by kernel_rfl) (by kernel_rfl) rfl ?_
     rw [Go.W.fms]
     refine au (bv (hk2.ext hEx) hs (by omega)) rfl ?_
     rintro v10 w10' hR10
     obtain ⟨cs10, rfl, hC10, hE10'⟩ := hR10.c
     refine ⟨fun _ h => h.trans hE10', ?_⟩
     replace hC10 := hC10.mono hEx.size
     replace hC6 := hC6.ext hE10'
     replace hEx := hEx.trans hE10'
     try replace hb11 := hb11.ext hE10'
     try replace hb12 := hb12.ext hE10'
     refine ah ?_
    rotate_left 1
   rotate_left 2
   focus
    refine aH (fun g12 w12 hn12 => ⟨fun _ h => h.trans hn12.ex, ?_⟩)
    have hb12 : Blk w12 g12 118 (ratL ih0 ih0) := hn12.blk
    have lo12 : w4.heap.size ≤ g12 := Nat.le_trans hEx.size hn12.lo
    try have hne : g11 ≠ g12 := (by have := hb11.lt; have := hn12.lo; omega)
    replace hEx := hEx.trans hn12.ex
    try replace hC6 := hC6.ext hn12.ex
    try replace hC10 := hC10.ext hn12.ex
    try replace hb11 := hb11.ext hn12.ex
    refine ah ?_
    refine aD (fuel := 3) (rs := [3, 4]) (by kernel_rfl) (by kernel_rfl) rfl ?_
    simp only [List.forall_mem_cons, List.not_mem_nil, false_implies, implies_true, and_true]
    refine ⟨?_, ?_⟩
    focus
     refine au (bv (hk2.ext hEx) hs (by omega)) rfl ?_
     rintro v10 w10' hR10
     obtain ⟨cs10, rfl, hC10, hE10'⟩ := hR10.c
     refine ⟨fun _ h => h.trans hE10', ?_⟩
     replace hC10 := hC10.mono hEx.size
     replace hC6 := hC6.ext hE10'
     replace hEx := hEx.trans hE10'
     try replace hb11 := hb11.ext hE10'
     try replace hb12 := hb12.ext hE10'
     refine ah ?_
     refine aD (fuel := 2) (rs := [4]) (by kernel_rfl) (by kernel_rfl) rfl ?_
     rw [Go.W.fms]
     refine aH (fun g11 w11 hn11 => ⟨fun _ h => h.trans hn11.ex, ?_⟩)
     have hb11 : Blk w11 g11 118 (ratL ih0 ih0) := hn11.blk
     have lo11 : w4.heap.size ≤ g11 := Nat.le_trans hEx.size hn11.lo
     try have hne : g11 ≠ g12 := (by have := hb12.lt; have := hn11.lo; omega)
     replace hEx := hEx.trans hn11.ex
     try replace hC6 := hC6.ext hn11.ex
     try replace hC10 := hC10.ext hn11.ex
     try replace hb12 := hb12.ext hn11.ex
     refine ah ?_
    rotate_left 1
    focus
     refine aH (fun g11 w11 hn11 => ⟨fun _ h => h.trans hn11.ex, ?_⟩)
     have hb11 : Blk w11 g11 118 (ratL ih0 ih0) := hn11.blk
     have lo11 : w4.heap.size ≤ g11 := Nat.le_trans hEx.size hn11.lo
     try have hne : g11 ≠ g12 := (by have := hb12.lt; have := hn11.lo; omega)
     replace hEx := hEx.trans hn11.ex
     try replace hC6 := hC6.ext hn11.ex
     try replace hC10 := hC10.ext hn11.ex
     try replace hb12 := hb12.ext hn11.ex
     refine ah ?_
     refine aD (fuel := 2) (rs := [3]) (by kernel_rfl) (by kernel_rfl) rfl ?_
     rw [Go.W.fms]
     refine au (bv (hk2.ext hEx) hs (by omega)) rfl ?_
     rintro v10 w10' hR10
     obtain ⟨cs10, rfl, hC10, hE10'⟩ := hR10.c
     refine ⟨fun _ h => h.trans hE10', ?_⟩
     replace hC10 := hC10.mono hEx.size
     replace hC6 := hC6.ext hE10'
     replace hEx := hEx.trans hE10'
     try replace hb11 := hb11.ext hE10'
     try replace hb12 := hb12.ext hE10'
     refine ah ?_
    rotate_left 1
   rotate_left 2
  rotate_left 6
  focus
   refine aH (fun g11 w11 hn11 => ⟨fun _ h => h.trans hn11.ex, ?_⟩)
   have hb11 : Blk w11 g11 118 (ratL ih0 ih0) := hn11.blk
   have lo11 : w4.heap.size ≤ g11 := Nat.le_trans hEx.size hn11.lo
   try have hne : g11 ≠ g12 := (by have := hb12.lt; have := hn11.lo; omega)
   replace hEx := hEx.trans hn11.ex
   try replace hC6 := hC6.ext hn11.ex
   try replace hC10 := hC10.ext hn11.ex
   try replace hb12 := hb12.ext hn11.ex
   refine ah ?_
   refine aD (fuel := 4) (rs := [1, 5]) (by kernel_rfl) (by kernel_rfl) rfl ?_
   simp only [List.forall_mem_cons, List.not_mem_nil, false_implies, implies_true, and_true]
   refine ⟨?_, ?_⟩
   focus
    refine au (bv (hk1.ext hEx) hq (by omega)) rfl ?_
    rintro v6 w6' hR6
    obtain ⟨cs6, rfl, hC6, hE6'⟩ := hR6.c
    refine ⟨fun _ h => h.trans hE6', ?_⟩
    replace hC6 := hC6.mono hEx.size
    replace hEx := hEx.trans hE6'
    try replace hb11 := hb11.ext hE6'
    try replace hb12 := hb12.ext hE6'
    refine ah ?_
    refine aD (fuel := 3) (rs := [3, 5]) (by kernel_rfl) (by kernel_rfl) rfl ?_
    simp only [List.forall_mem_cons, List.not_mem_nil, false_implies, implies_true, and_true]
    refine ⟨?_, ?_⟩
    focus
     refine au (bv (hk2.ext hEx) hs (by omega)) rfl ?_
     rintro v10 w10' hR10
     obtain ⟨cs10, rfl, hC10, hE10'⟩ := hR10.c
     refine ⟨fun _ h => h.trans hE10', ?_⟩
     replace hC10 := hC10.mono hEx.size
     replace hC6 := hC6.ext hE10'
     replace hEx := hEx.trans hE10'
     try replace hb11 := hb11.ext hE10'
     try replace hb12 := hb12.ext hE10'
     refine ah ?_
     refine aD (fuel := 2) (rs := [5]) (by kernel_rfl) (by kernel_rfl) rfl ?_
     rw [Go.W.fms]
     refine aH (fun g12 w12 hn12 => ⟨fun _ h => h.trans hn12.ex, ?_⟩)
     have hb12 : Blk w12 g12 118 (ratL ih0 ih0) := hn12.blk
     have lo12 : w4.heap.size ≤ g12 := Nat.le_trans hEx.size hn12.lo
     try have hne : g11 ≠ g12 := (by have := hb11.lt; have := hn12.lo; omega)
     replace hEx := hEx.trans hn12.ex
     try replace hC6 := hC6.ext hn12.ex
     try replace hC10 := hC10.ext hn12.ex
     try replace hb11 := hb11.ext hn12.ex
     refine ah ?_
    rotate_left 1
    focus
     refine aH (fun g12 w12 hn12 => ⟨fun _ h => h.trans hn12.ex, ?_⟩)
     have hb12 : Blk w12 g12 118 (ratL ih0 ih0) := hn12.blk
     have lo12 : w4.heap.size ≤ g12 := Nat.le_trans hEx.size hn12.lo
     try have hne : g11 ≠ g12 := (by have := hb11.lt; have := hn12.lo; omega)
     replace hEx := hEx.trans hn12.ex
     try replace hC6 := hC6.ext hn12.ex
     try replace hC10 := hC10.ext hn12.ex
     try replace hb11 := hb11.ext hn12.ex
     refine ah ?_
     refine aD (fuel := 2) (rs := [3]) (by kernel_rfl) (by kernel_rfl) rfl ?_
     rw [Go.W.fms]
     refine au (bv (hk2.ext hEx) hs (by omega)) rfl ?_
     rintro v10 w10' hR10
     obtain ⟨cs10, rfl, hC10, hE10'⟩ := hR10.c
     refine ⟨fun _ h => h.trans hE10', ?_⟩
     replace hC10 := hC10.mono hEx.size
     replace hC6 := hC6.ext hE10'
     replace hEx := hEx.trans hE10'
     try replace hb11 := hb11.ext hE10'
     try replace hb12 := hb12.ext hE10'
     refine ah ?_
    rotate_left 1
   rotate_left 2
   focus
    refine aH (fun g12 w12 hn12 => ⟨fun _ h => h.trans hn12.ex, ?_⟩)
    have hb12 : Blk w12 g12 118 (ratL ih0 ih0) := hn12.blk
    have lo12 : w4.heap.size ≤ g12 := Nat.le_trans hEx.size hn12.lo
    try have hne : g11 ≠ g12 := (by have := hb11.lt; have := hn12.lo; omega)
    replace hEx := hEx.trans hn12.ex
    try replace hC6 := hC6.ext hn12.ex
    try replace hC10 := hC10.ext hn12.ex
    try replace hb11 := hb11.ext hn12.ex
    refine ah ?_
    refine aD (fuel := 3) (rs := [1]) (by kernel_rfl) (by kernel_rfl) rfl ?_
    rw [Go.W.fms]
    refine au (bv (hk1.ext hEx) hq (by omega)) rfl ?_
    rintro v6 w6' hR6
    obtain ⟨cs6, rfl, hC6, hE6'⟩ := hR6.c
    refine ⟨fun _ h => h.trans hE6', ?_⟩
    replace hC6 := hC6.mono hEx.size
    replace hEx := hEx.trans hE6'
    try replace hb11 := hb11.ext hE6'
    try replace hb12 := hb12.ext hE6'
    refine ah ?_
    refine aD (fuel := 2) (rs := [3]) (by kernel_rfl) (by kernel_rfl) rfl ?_
    rw [Go.W.fms]
    refine au (bv (hk2.ext hEx) hs (by omega)) rfl ?_
    rintro v10 w10' hR10
    obtain ⟨cs10, rfl, hC10, hE10'⟩ := hR10.c
    refine ⟨fun _ h => h.trans hE10', ?_⟩
    replace hC10 := hC10.mono hEx.size
    replace hC6 := hC6.ext hE10'
    replace hEx := hEx.trans hE10'
    try replace hb11 := hb11.ext hE10'
    try replace hb12 := hb12.ext hE10'
    refine ah ?_
   rotate_left 1
  rotate_left 3
  focus
   refine aH (fun g12 w12 hn12 => ⟨fun _ h => h.trans hn12.ex, ?_⟩)
   have hb12 : Blk w12 g12 118 (ratL ih0 ih0) := hn12.blk
   have lo12 : w4.heap.size ≤ g12 := Nat.le_trans hEx.size hn12.lo
   try have hne : g11 ≠ g12 := (by have := hb11.lt; have := hn12.lo; omega)
   replace hEx := hEx.trans hn12.ex
   try replace hC6 := hC6.ext hn12.ex
   try replace hC10 := hC10.ext hn12.ex
   try replace hb11 := hb11.ext hn12.ex
   refine ah ?_
   refine aD (fuel := 4) (rs := [1, 4]) (by kernel_rfl) (by kernel_rfl) rfl ?_
   simp only [List.forall_mem_cons, List.not_mem_nil, false_implies, implies_true, and_true]
   refine ⟨?_, ?_⟩
   focus
    refine au (bv (hk1.ext hEx) hq (by omega)) rfl ?_
    rintro v6 w6' hR6
    obtain ⟨cs6, rfl, hC6, hE6'⟩ := hR6.c
    refine ⟨fun _ h => h.trans hE6', ?_⟩
    replace hC6 := hC6.mono hEx.size
    replace hEx := hEx.trans hE6'
    try replace hb11 := hb11.ext hE6'
    try replace hb12 := hb12.ext hE6'
    refine ah ?_
    refine aD (fuel := 3) (rs := [3, 4]) (by kernel_rfl) (by kernel_rfl) rfl ?_
    simp only [List.forall_mem_cons, List.not_mem_nil, false_implies, implies_true, and_true]
    refine ⟨?_, ?_⟩
    focus
     refine au (bv (hk2.ext hEx) hs (by omega)) rfl ?_
     rintro v10 w10' hR10
     obtain ⟨cs10, rfl, hC10, hE10'⟩ := hR10.c
     refine ⟨fun _ h => h.trans hE10', ?_⟩
     replace hC10 := hC10.mono hEx.size
     replace hC6 := hC6.ext hE10'
     replace hEx := hEx.trans hE10'
     try replace hb11 := hb11.ext hE10'
     try replace hb12 := hb12.ext hE10'
     refine ah ?_
     refine aD (fuel := 2) (rs := [4]) (by kernel_rfl) (by kernel_rfl) rfl ?_
     rw [Go.W.fms]
     refine aH (fun g11 w11 hn11 => ⟨fun _ h => h.trans hn11.ex, ?_⟩)
     have hb11 : Blk w11 g11 118 (ratL ih0 ih0) := hn11.blk
     have lo11 : w4.heap.size ≤ g11 := Nat.le_trans hEx.size hn11.lo
     try have hne : g11 ≠ g12 := (by have := hb12.lt; have := hn11.lo; omega)
     replace hEx := hEx.trans hn11.ex
     try replace hC6 := hC6.ext hn11.ex
     try replace hC10 := hC10.ext hn11.ex
     try replace hb12 := hb12.ext hn11.ex
     refine ah ?_
    rotate_left 1
    focus
     refine aH (fun g11 w11 hn11 => ⟨fun _ h => h.trans hn11.ex, ?_⟩)
     have hb11 : Blk w11 g11 118 (ratL ih0 ih0) := hn11.blk
     have lo11 : w4.heap.size ≤ g11 := Nat.le_trans hEx.size hn11.lo
     try have hne : g11 ≠ g12 := (by have := hb12.lt; have := hn11.lo; omega)
     replace hEx := hEx.trans hn11.ex
     try replace hC6 := hC6.ext hn11.ex
     try replace hC10 := hC10.ext hn11.ex
     try replace hb12 := hb12.ext hn11.ex
     refine ah ?_
     refine aD (fuel := 2) (rs := [3]) (by kernel_rfl) (by kernel_rfl) rfl ?_
     rw [Go.W.fms]
     refine au (bv (hk2.ext hEx) hs (by omega)) rfl ?_
     rintro v10 w10' hR10
     obtain ⟨cs10, rfl, hC10, hE10'⟩ := hR10.c
     refine ⟨fun _ h => h.trans hE10', ?_⟩
     replace hC10 := hC10.mono hEx.size
     replace hC6 := hC6.ext hE10'
     replace hEx := hEx.trans hE10'
     try replace hb11 := hb11.ext hE10'
     try replace hb12 := hb12.ext hE10'
     refine ah ?_
    rotate_left 1
   rotate_left 2
   focus
    refine aH (fun g11 w11 hn11 => ⟨fun _ h => h.trans hn11.ex, ?_⟩)
    have hb11 : Blk w11 g11 118 (ratL ih0 ih0) := hn11.blk
    have lo11 : w4.heap.size ≤ g11 := Nat.le_trans hEx.size hn11.lo
    try have hne : g11 ≠ g12 := (by have := hb12.lt; have := hn11.lo; omega)
    replace hEx := hEx.trans hn11.ex
    try replace hC6 := hC6.ext hn11.ex
    try replace hC10 := hC10.ext hn11.ex
    try replace hb12 := hb12.ext hn11.ex
    refine ah ?_
    refine aD (fuel := 3) (rs := [1]) (by kernel_rfl) (by kernel_rfl) rfl ?_
    rw [Go.W.fms]
    refine au (bv (hk1.ext hEx) hq (by omega)) rfl ?_
    rintro v6 w6' hR6
    obtain ⟨cs6, rfl, hC6, hE6'⟩ := hR6.c
    refine ⟨fun _ h => h.trans hE6', ?_⟩
    replace hC6 := hC6.mono hEx.size
    replace hEx := hEx.trans hE6'
    try replace hb11 := hb11.ext hE6'
    try replace hb12 := hb12.ext hE6'
    refine ah ?_
    refine aD (fuel := 2) (rs := [3]) (by kernel_rfl) (by kernel_rfl) rfl ?_
    rw [Go.W.fms]
    refine au (bv (hk2.ext hEx) hs (by omega)) rfl ?_
    rintro v10 w10' hR10
    obtain ⟨cs10, rfl, hC10, hE10'⟩ := hR10.c
    refine ⟨fun _ h => h.trans hE10', ?_⟩
    replace hC10 := hC10.mono hEx.size
    replace hC6 := hC6.ext hE10'
    replace hEx := hEx.trans hE10'
    try replace hb11 := hb11.ext hE10'
    try replace hb12 := hb12.ext hE10'
    refine ah ?_
   rotate_left 1
  rotate_left 3
  all_goals
   refine aD (fuel := 1) (rs := [6]) (by kernel_rfl) (by kernel_rfl) rfl ?_
   rw [Go.W.fms]
   refine aF (n := 4) rfl rfl hC6.len hC6.one hb11 rfl (fun w13 hc13 hb11' => ⟨fun _ h => h.chg hc13 lo11, ?_⟩)
   replace hEx := hEx.chg hc13 lo11
   replace hC6 := hC6.chg hb11 gM hc13
   replace hC10 := hC10.chg hb11 gM hc13
   try replace hb12 := hb12.chg hc13 (Ne.symm hne)
   refine ah ?_
   refine aD (fuel := 0) (rs := [7]) (by kernel_rfl) (by kernel_rfl) rfl ?_
   rw [Go.W.fms]
   refine aF (n := 4) rfl rfl hC10.len hC10.one hb12 rfl (fun w14 hc14 hb12' => ⟨fun _ h => h.chg hc14 lo12, ?_⟩)
   replace hEx := hEx.chg hc14 lo12
   replace hC6 := hC6.chg hb12 gM hc14
   replace hC10 := hC10.chg hb12 gM hc14
   try replace hb11' := hb11'.chg hc14 hne
   refine ah ?_
   refine bL (by kernel_rfl) ?_
   exact aa ⟨⟨(g11, g12, cs6, cs10), ⟨hEx, lo11, lo12, hb11', hb12', hC6, hC10⟩, rfl, rfl, trivial⟩, (by (repeat (first|exact aX _ _|refine aB rfl ?_|refine ax rfl ?_|refine av rfl ?_|refine aw rfl ?_)))⟩
 rintro ⟨g5, g6, cs5, cs6⟩ ξ w5 ⟨hE5, lo5, lo6, hb5, hb6, hC5, hC6⟩
 simp only at lo5 lo6 hb5 hb6 hC5 hC6
 show CW _ _ _ _ (over [(5, .pointer (some ⟨g5, 0, none⟩)), (6, .pointer (some ⟨g6, 0, none⟩))] _) w5
 have gcq := jO (p := p) hq
 have gcs := jO (p := r) hs
 have cp := iX (p := p) hq
 have cr := iX (p := r) hs
 replace lp := lp.div (gcdI p q)
 replace lq := lq.div (gcdI p q)
 replace lr := lr.div (gcdI r s)
 replace ls := ls.div (gcdI r s)
 generalize p / gcdI p q = p' at *
 generalize q / gcdI p q = q' at *
 generalize r / gcdI r s = r' at *
 generalize s / gcdI r s = s' at *
 obtain ⟨X, Y, rfl, hX, hY⟩ := hC5
 obtain ⟨X', Y', rfl, hX', hY'⟩ := hC6
 have eX := hX.k (k := K) lp
 have eY := hY.k (k := K) lq
 have eX' := hX'.k (k := K) lr
 have eY' := hY'.k (k := K) ls
 refine ak ?_
 refine gU (fun w' => Ex w5 w') bD (Ex.refl w5).drew ?_
 have hEx : Ex w5 w5.drew := (Ex.refl w5).drew
 refine bP (fuel := 11) (by kernel_rfl) (by kernel_rfl) [0, 1, 2, 3, 5, 6, 7, 8, 11, 12, 13, 14] _ _ (by kernel_rfl) ?_
 repeat' (first|refine fZ (j := 0) (u := X) (cs := ratL X Y) rfl (fun _ h => hb5.ext h) rfl rfl ?_|refine fZ (j := 2) (u := Y) (cs := ratL X Y) rfl (fun _ h => hb5.ext h) rfl rfl ?_|refine fZ (j := 0) (u := X') (cs := ratL X' Y') rfl (fun _ h => hb6.ext h) rfl rfl ?_|refine fZ (j := 2) (u := Y') (cs := ratL X' Y') rfl (fun _ h => hb6.ext h) rfl rfl ?_|refine ah ?_|refine aM rfl ?_)
 refine aD (fuel := 10) (rs := [4, 20]) (by kernel_rfl) (by kernel_rfl) rfl ?_
 simp only [List.forall_mem_cons, List.not_mem_nil, false_implies, implies_true, and_true]
 refine ⟨?_, ?_⟩
 focus
  refine au (bt (eX.ext hEx) (eY'.ext hEx) (by omega)) rfl ?_
  rintro v7 w7' ⟨hI7, hE7⟩
  refine ⟨fun _ h => h.trans hE7, ?_⟩
  obtain ⟨u7, rfl⟩ := hI7.ih
  replace hEx := hEx.trans hE7
  try replace hbs := hbs.ext hE7
  refine ah ?_
  refine aD (fuel := 9) (rs := [9, 20]) (by kernel_rfl) (by kernel_rfl) rfl ?_
  simp only [List.forall_mem_cons, List.not_mem_nil, false_implies, implies_true, and_true]
  refine ⟨?_, ?_⟩
  focus
   refine au (bt (eX'.ext hEx) (eY.ext hEx) (by omega)) rfl ?_
   rintro v8 w8' ⟨hI8, hE8⟩
   refine ⟨fun _ h => h.trans hE8, ?_⟩
   obtain ⟨u8, rfl⟩ := hI8.ih
   replace hI7 := hI7.ext hE8
   replace hEx := hEx.trans hE8
   try replace hbs := hbs.ext hE8
   refine ah ?_
   refine aD (fuel := 8) (rs := [10, 20]) (by kernel_rfl) (by kernel_rfl) rfl ?_
   simp only [List.forall_mem_cons, List.not_mem_nil, false_implies, implies_true, and_true]
   refine ⟨?_, ?_⟩
   focus
    refine au (cu (hI7.k (k := 2 * K) ((lp.mul ls).mono (by omega))) (hI8.k (k := 2 * K) ((lr.mul lq).mono (by omega))) (by omega) (by omega)) rfl ?_
    rintro v9 w9' ⟨hI9, hE9⟩
    refine ⟨fun _ h => h.trans hE9, ?_⟩
    obtain ⟨u9, rfl⟩ := hI9.ih
    replace hEx := hEx.trans hE9
    try replace hbs := hbs.ext hE9
    refine ah ?_
    refine aD (fuel := 7) (rs := [15, 20]) (by kernel_rfl) (by kernel_rfl) rfl ?_
    simp only [List.forall_mem_cons, List.not_mem_nil, false_implies, implies_true, and_true]
    refine ⟨?_, ?_⟩
    focus
     refine au (bt (eY.ext hEx) (eY'.ext hEx) (by omega)) rfl ?_
     rintro v10 w10' ⟨hI10, hE10⟩
     refine ⟨fun _ h => h.trans hE10, ?_⟩
     obtain ⟨u10, rfl⟩ := hI10.ih
     replace hI9 := hI9.ext hE10
     replace hEx := hEx.trans hE10
     try replace hbs := hbs.ext hE10
     refine ah ?_
     refine aD (fuel := 6) (rs := [16, 20]) (by kernel_rfl) (by kernel_rfl) rfl ?_
     simp only [List.forall_mem_cons, List.not_mem_nil, false_implies, implies_true, and_true]
     refine ⟨?_, ?_⟩
     focus
      have lnum : Lb (2 * K + 1) (p' * s' + r' * q') := (Lb.add ((lp.mul ls).mono (e' := 2 * K) (by omega)) ((lr.mul lq).mono (by omega)))
      have lden : Lb (2 * K + 1) (q' * s') := (lq.mul ls).mono (by omega)
      refine au (dW (K := 2 * K + 1) (hI9.k lnum) (hI10.k lden) (Int.mul_pos gcq gcs) hK) rfl ?_
      rintro v11 w11' ⟨u11, rfl, hR11⟩
      obtain ⟨cs11, rfl, hC11, hE11⟩ := hR11.c
      refine ⟨fun _ h => h.trans hE11, ?_⟩
      have hC11 := hC11.mono (lo' := w5.heap.size) hEx.size
      replace hEx := hEx.trans hE11
      try replace hbs := hbs.ext hE11
      refine ah ?_
      refine bP (fuel := 3) (by kernel_rfl) (by kernel_rfl) [17, 18, 19] _ _ (by kernel_rfl) ?_
      repeat' (first|refine aR rfl rfl ?_|refine aj rfl ?_|refine ah ?_)
      refine aD (fuel := 2) (rs := [20]) (by kernel_rfl) (by kernel_rfl) rfl ?_
      rw [Go.W.fms]
      refine aH (fun gs w12 hn12 => ⟨fun _ h => h.trans hn12.ex, ?_⟩)
      have hbs : Blk w12 gs 118 (ratL ih0 ih0) := hn12.blk
      have los : w5.heap.size ≤ gs := Nat.le_trans hEx.size hn12.lo
      replace hEx := hEx.trans hn12.ex
      try replace hI7 := hI7.ext hn12.ex
      try replace hI8 := hI8.ext hn12.ex
      try replace hI9 := hI9.ext hn12.ex
      try replace hI10 := hI10.ext hn12.ex
      try replace hC11 := hC11.ext hn12.ex
      refine ah ?_
     rotate_left 1
     focus
      refine aH (fun gs w12 hn12 => ⟨fun _ h => h.trans hn12.ex, ?_⟩)
      have hbs : Blk w12 gs 118 (ratL ih0 ih0) := hn12.blk
      have los : w5.heap.size ≤ gs := Nat.le_trans hEx.size hn12.lo
      replace hEx := hEx.trans hn12.ex
      try replace hI7 := hI7.ext hn12.ex
      try replace hI8 := hI8.ext hn12.ex
      try replace hI9 := hI9.ext hn12.ex
      try replace hI10 := hI10.ext hn12.ex
      try replace hC11 := hC11.ext hn12.ex
      refine ah ?_
      refine aD (fuel := 5) (rs := [16]) (by kernel_rfl) (by kernel_rfl) rfl ?_
      rw [Go.W.fms]
      have lnum : Lb (2 * K + 1) (p' * s' + r' * q') := (Lb.add ((lp.mul ls).mono (e' := 2 * K) (by omega)) ((lr.mul lq).mono (by omega)))
      have lden : Lb (2 * K + 1) (q' * s') := (lq.mul ls).mono (by omega)
      refine au (dW (K := 2 * K + 1) (hI9.k lnum) (hI10.k lden) (Int.mul_pos gcq gcs) hK) rfl ?_
      rintro v11 w11' ⟨u11, rfl, hR11⟩
      obtain ⟨cs11, rfl, hC11, hE11⟩ := hR11.c
      refine ⟨fun _ h => h.trans hE11, ?_⟩
      have hC11 := hC11.mono (lo' := w5.heap.size) hEx.size
      replace hEx := hEx.trans hE11
      try replace hbs := hbs.ext hE11
      refine ah ?_
      refine bP (fuel := 2) (by kernel_rfl) (by kernel_rfl) [17, 18, 19] _ _ (by kernel_rfl) ?_
      repeat' (first|refine aR rfl rfl ?_|refine aj rfl ?_|refine ah ?_)
     rotate_left 1
    rotate_left 2
    focus
     refine aH (fun gs w12 hn12 => ⟨fun _ h => h.trans hn12.ex, ?_⟩)
     have hbs : Blk w12 gs 118 (ratL ih0 ih0) := hn12.blk
     have los : w5.heap.size ≤ gs := Nat.le_trans hEx.size hn12.lo
     replace hEx := hEx.trans hn12.ex
     try replace hI7 := hI7.ext hn12.ex
     try replace hI8 := hI8.ext hn12.ex
     try replace hI9 := hI9.ext hn12.ex
     try replace hI10 := hI10.ext hn12.ex
     try replace hC11 := hC11.ext hn12.ex
     refine ah ?_
     refine aD (fuel := 6) (rs := [15]) (by kernel_rfl) (by kernel_rfl) rfl ?_
     rw [Go.W.fms]
     refine au (bt (eY.ext hEx) (eY'.ext hEx) (by omega)) rfl ?_
     rintro v10 w10' ⟨hI10, hE10⟩
     refine ⟨fun _ h => h.trans hE10, ?_⟩
     obtain ⟨u10, rfl⟩ := hI10.ih
     replace hI9 := hI9.ext hE10
     replace hEx := hEx.trans hE10
     try replace hbs := hbs.ext hE10
     refine ah ?_
     refine aD (fuel := 5) (rs := [16]) (by kernel_rfl) (by kernel_rfl) rfl ?_
     rw [Go.W.fms]
     have lnum : Lb (2 * K + 1) (p' * s' + r' * q') := (Lb.add ((lp.mul ls).mono (e' := 2 * K) (by omega)) ((lr.mul lq).mono (by omega)))
     have lden : Lb (2 * K + 1) (q' * s') := (lq.mul ls).mono (by omega)
     refine au (dW (K := 2 * K + 1) (hI9.k lnum) (hI10.k lden) (Int.mul_pos gcq gcs) hK) rfl ?_
     rintro v11 w11' ⟨u11, rfl, hR11⟩
     obtain ⟨cs11, rfl, hC11, hE11⟩ := hR11.c
     refine ⟨fun _ h => h.trans hE11, ?_⟩
     have hC11 := hC11.mono (lo' := w5.heap.size) hEx.size
     replace hEx := hEx.trans hE11
     try replace hbs := hbs.ext hE11
     refine ah ?_
     refine bP (fuel := 2) (by kernel_rfl) (by kernel_rfl) [17, 18, 19] _ _ (by kernel_rfl) ?_
     repeat' (first|refine aR rfl rfl ?_|refine aj rfl ?_|refine ah ?_)
    rotate_left 1
   rotate_left 3
   focus
    refine aH (fun gs w12 hn12 => ⟨fun _ h => h.trans hn12.ex, ?_⟩)
    have hbs : Blk w12 gs 118 (ratL ih0 ih0) := hn12.blk
    have los : w5.heap.size ≤ gs := Nat.le_trans hEx.size hn12.lo
    replace hEx := hEx.trans hn12.ex
    try replace hI7 := hI7.ext hn12.ex
    try replace hI8 := hI8.ext hn12.ex
    try replace hI9 := hI9.ext hn12.ex
    try replace hI10 := hI10.ext hn12.ex
    try replace hC11 := hC11.ext hn12.ex
    refine ah ?_
    refine aD (fuel := 7) (rs := [10]) (by kernel_rfl) (by kernel_rfl) rfl ?_
    rw [Go.W.fms]
    refine au (cu (hI7.k (k := 2 * K) ((lp.mul ls).mono (by omega))) (hI8.k (k := 2 * K) ((lr.mul lq).mono (by omega))) (by omega) (by omega)) rfl ?_
    rintro v9 w9' ⟨hI9, hE9⟩
    refine ⟨fun _ h => h.trans hE9, ?_⟩
    obtain ⟨u9, rfl⟩ := hI9.ih
    replace hEx := hEx.trans hE9
    try replace hbs := hbs.ext hE9
    refine ah ?_
    refine aD (fuel := 6) (rs := [15]) (by kernel_rfl) (by kernel_rfl) rfl ?_
    rw [Go.W.fms]
    refine au (bt (eY.ext hEx) (eY'.ext hEx) (by omega)) rfl ?_
    rintro v10 w10' ⟨hI10, hE10⟩
    refine ⟨fun _ h => h.trans hE10, ?_⟩
    obtain ⟨u10, rfl⟩ := hI10.ih
    replace hI9 := hI9.ext hE10
    replace hEx := hEx.trans hE10
    try replace hbs := hbs.ext hE10
    refine ah ?_
    refine aD (fuel := 5) (rs := [16]) (by kernel_rfl) (by kernel_rfl) rfl ?_
    rw [Go.W.fms]
    have lnum : Lb (2 * K + 1) (p' * s' + r' * q') := (Lb.add ((lp.mul ls).mono (e' := 2 * K) (by omega)) ((lr.mul lq).mono (by omega)))
    have lden : Lb (2 * K + 1) (q' * s') := (lq.mul ls).mono (by omega)
    refine au (dW (K := 2 * K + 1) (hI9.k lnum) (hI10.k lden) (Int.mul_pos gcq gcs) hK) rfl ?_
    rintro v11 w11' ⟨u11, rfl, hR11⟩
    obtain ⟨cs11, rfl, hC11, hE11⟩ := hR11.c
    refine ⟨fun _ h => h.trans hE11, ?_⟩
    have hC11 := hC11.mono (lo' := w5.heap.size) hEx.size
    replace hEx := hEx.trans hE11
    try replace hbs := hbs.ext hE11
    refine ah ?_
    refine bP (fuel := 2) (by kernel_rfl) (by kernel_rfl) [17, 18, 19] _ _ (by kernel_rfl) ?_
    repeat' (first|refine aR rfl rfl ?_|refine aj rfl ?_|refine ah ?_)
   rotate_left 1
  rotate_left 4
  focus
   refine aH (fun gs w12 hn12 => ⟨fun _ h => h.trans hn12.ex, ?_⟩)
   have hbs : Blk w12 gs 118 (ratL ih0 ih0) := hn12.blk
   have los : w5.heap.size ≤ gs := Nat.le_trans hEx.size hn12.lo
   replace hEx := hEx.trans hn12.ex
   try replace hI7 := hI7.ext hn12.ex
   try replace hI8 := hI8.ext hn12.ex
   try replace hI9 := hI9.ext hn12.ex
   try replace hI10 := hI10.ext hn12.ex
   try replace hC11 := hC11.ext hn12.ex
   refine ah ?_
   refine aD (fuel := 8) (rs := [9]) (by kernel_rfl) (by kernel_rfl) rfl ?_
   rw [Go.W.fms]
   refine au (bt (eX'.ext hEx) (eY.ext hEx) (by omega)) rfl ?_
   rintro v8 w8' ⟨hI8, hE8⟩
   refine ⟨fun _ h => h.trans hE8, ?_⟩
   obtain ⟨u8, rfl⟩ := hI8.ih
   replace hI7 := hI7.ext hE8
   replace hEx := hEx.trans hE8
   try replace hbs := hbs.ext hE8
   refine ah ?_
   refine aD (fuel := 7) (rs := [10]) (by kernel_rfl) (by kernel_rfl) rfl ?_
   rw [Go.W.fms]
   refine au (cu (hI7.k (k := 2 * K) ((lp.mul ls).mono (by omega))) (hI8.k (k := 2 * K) ((lr.mul lq).mono (by omega))) (by omega) (by omega)) rfl ?_
   rintro v9 w9' ⟨hI9, hE9⟩
   refine ⟨fun _ h => h.trans hE9, ?_⟩
   obtain ⟨u9, rfl⟩ := hI9.ih
   replace hEx := hEx.trans hE9
   try replace hbs := hbs.ext hE9
   refine ah ?_
   refine aD (fuel := 6) (rs := [15]) (by kernel_rfl) (by kernel_rfl) rfl ?_
   rw [Go.W.fms]
   refine au (bt (eY.ext hEx) (eY'.ext hEx) (by omega)) rfl ?_
   rintro v10 w10' ⟨hI10, hE10⟩
   refine ⟨fun _ h => h.trans hE10, ?_⟩
   obtain ⟨u10, rfl⟩ := hI10.ih
   replace hI9 := hI9.ext hE10
   replace hEx := hEx.trans hE10
   try replace hbs := hbs.ext hE10
   refine ah ?_
   refine aD (fuel := 5) (rs := [16]) (by kernel_rfl) (by kernel_rfl) rfl ?_
   rw [Go.W.fms]
   have lnum : Lb (2 * K + 1) (p' * s' + r' * q') := (Lb.add ((lp.mul ls).mono (e' := 2 * K) (by omega)) ((lr.mul lq).mono (by omega)))
   have lden : Lb (2 * K + 1) (q' * s') := (lq.mul ls).mono (by omega)
   refine au (dW (K := 2 * K + 1) (hI9.k lnum) (hI10.k lden) (Int.mul_pos gcq gcs) hK) rfl ?_
   rintro v11 w11' ⟨u11, rfl, hR11⟩
   obtain ⟨cs11, rfl, hC11, hE11⟩ := hR11.c
   refine ⟨fun _ h => h.trans hE11, ?_⟩
   have hC11 := hC11.mono (lo' := w5.heap.size) hEx.size
   replace hEx := hEx.trans hE11
   try replace hbs := hbs.ext hE11
   refine ah ?_
   refine bP (fuel := 2) (by kernel_rfl) (by kernel_rfl) [17, 18, 19] _ _ (by kernel_rfl) ?_
   repeat' (first|refine aR rfl rfl ?_|refine aj rfl ?_|refine ah ?_)
  rotate_left 1
 rotate_left 5
 focus
  refine aH (fun gs w12 hn12 => ⟨fun _ h => h.trans hn12.ex, ?_⟩)
  have hbs : Blk w12 gs 118 (ratL ih0 ih0) := hn12.blk
  have los : w5.heap.size ≤ gs := Nat.le_trans hEx.size hn12.lo
  replace hEx := hEx.trans hn12.ex
  try replace hI7 := hI7.ext hn12.ex
  try replace hI8 := hI8.ext hn12.ex
  try replace hI9 := hI9.ext hn12.ex
  try replace hI10 := hI10.ext hn12.ex
  try replace hC11 := hC11.ext hn12.ex
  refine ah ?_
  refine aD (fuel := 9) (rs := [4]) (by kernel_rfl) (by kernel_rfl) rfl ?_
  rw [Go.W.fms]
  refine au (bt (eX.ext hEx) (eY'.ext hEx) (by omega)) rfl ?_
  rintro v7 w7' ⟨hI7, hE7⟩
  refine ⟨fun _ h => h.trans hE7, ?_⟩
  obtain ⟨u7, rfl⟩ := hI7.ih
  replace hEx := hEx.trans hE7
  try replace hbs := hbs.ext hE7
  refine ah ?_
  refine aD (fuel := 8) (rs := [9]) (by kernel_rfl) (by kernel_rfl) rfl ?_
  rw [Go.W.fms]
  refine au (bt (eX'.ext hEx) (eY.ext hEx) (by omega)) rfl ?_
  rintro v8 w8' ⟨hI8, hE8⟩
  refine ⟨fun _ h => h.trans hE8, ?_⟩
  obtain ⟨u8, rfl⟩ := hI8.ih
  replace hI7 := hI7.ext hE8
  replace hEx := hEx.trans hE8
  try replace hbs := hbs.ext hE8
  refine ah ?_
  refine aD (fuel := 7) (rs := [10]) (by kernel_rfl) (by kernel_rfl) rfl ?_
  rw [Go.W.fms]
  refine au (cu (hI7.k (k := 2 * K) ((lp.mul ls).mono (by omega))) (hI8.k (k := 2 * K) ((lr.mul lq).mono (by omega))) (by omega) (by omega)) rfl ?_
  rintro v9 w9' ⟨hI9, hE9⟩
  refine ⟨fun _ h => h.trans hE9, ?_⟩
  obtain ⟨u9, rfl⟩ := hI9.ih
  replace hEx := hEx.trans hE9
  try replace hbs := hbs.ext hE9
  refine ah ?_
  refine aD (fuel := 6) (rs := [15]) (by kernel_rfl) (by kernel_rfl) rfl ?_
  rw [Go.W.fms]
  refine au (bt (eY.ext hEx) (eY'.ext hEx) (by omega)) rfl ?_
  rintro v10 w10' ⟨hI10, hE10⟩
  refine ⟨fun _ h => h.trans hE10, ?_⟩
  obtain ⟨u10, rfl⟩ := hI10.ih
  replace hI9 := hI9.ext hE10
  replace hEx := hEx.trans hE10
  try replace hbs := hbs.ext hE10
  refine ah ?_
  refine aD (fuel := 5) (rs := [16]) (by kernel_rfl) (by kernel_rfl) rfl ?_
  rw [Go.W.fms]
  have lnum : Lb (2 * K + 1) (p' * s' + r' * q') := (Lb.add ((lp.mul ls).mono (e' := 2 * K) (by omega)) ((lr.mul lq).mono (by omega)))
  have lden : Lb (2 * K + 1) (q' * s') := (lq.mul ls).mono (by omega)
  refine au (dW (K := 2 * K + 1) (hI9.k lnum) (hI10.k lden) (Int.mul_pos gcq gcs) hK) rfl ?_
  rintro v11 w11' ⟨u11, rfl, hR11⟩
  obtain ⟨cs11, rfl, hC11, hE11⟩ := hR11.c
  refine ⟨fun _ h => h.trans hE11, ?_⟩
  have hC11 := hC11.mono (lo' := w5.heap.size) hEx.size
  replace hEx := hEx.trans hE11
  try replace hbs := hbs.ext hE11
  refine ah ?_
  refine bP (fuel := 2) (by kernel_rfl) (by kernel_rfl) [17, 18, 19] _ _ (by kernel_rfl) ?_
  repeat' (first|refine aR rfl rfl ?_|refine aj rfl ?_|refine ah ?_)
 rotate_left 1
 all_goals
  refine aD (fuel := 1) (rs := [21]) (by kernel_rfl) (by kernel_rfl) rfl ?_
  rw [Go.W.fms]
  refine aF (n := 4) rfl rfl hC11.len hC11.one hbs rfl (fun w13 hc13 hbs' => ⟨fun _ h => h.chg hc13 los, ?_⟩)
  replace hEx := hEx.chg hc13 los
  replace hC11 := hC11.chg hbs gM hc13
  refine ah ?_
  refine bP (fuel := 0) (by kernel_rfl) (by kernel_rfl) [22] _ _ (by kernel_rfl) ?_
  repeat' (first|refine aj rfl ?_|refine ah ?_)
  refine bL (by kernel_rfl) ?_
  refine aa ?_
  have hE6 : Ex w4 _ := hE5.trans hEx
  have hb46 := hb4.ext hE6
  repeat' (first|refine aY rfl hbs' hC11.len ?_|refine ak ?_|refine ai rfl ?_)
  refine aF (n := 4) rfl rfl hC11.len hC11.one hb46 rfl (fun w15 hc15 hb15 => tvv ?_)
  repeat' (first|refine aa ?_|refine ah ?_|refine aK ?_)
  have s5 := hE5.size
  refine bo rfl (rc rfl hC11.len hb15) ⟨_, _, jO (p := p' * s' + r' * q') (Int.mul_pos gcq gcs), ?_, lnum.div _, lden.div _, ((hC11.chg hb46 gM hc15).mono (by omega)).ret ((hE.trans hE6).chg hc15 (by omega))⟩
  have hc := iX (p := p' * s' + r' * q') (Int.mul_pos gcq gcs)
  refine Int.eq_of_mul_eq_mul_right (a := q' * s') (Int.ne_of_gt (Int.mul_pos gcq gcs)) ?_
  generalize (p' * s' + r' * q') / gcdI (p' * s' + r' * q') (q' * s') = A at *
  generalize (q' * s') / gcdI (p' * s' + r' * q') (q' * s') = B at *
  have e1 : A * (q * s) * (q' * s') = (A * (q' * s')) * (q * s) := by grind
  rw [e1, hc]
  have e2 : (p' * s' + r' * q') * B * (q * s) = ((p' * q) * s' * s + (r' * s) * q' * q) * B := by grind
  rw [e2, cp, cr]
  grind
theorem kS {K : Nat} {v : Value} {p q : Int} {w : World} (h : RatK K w v p q) (hq : 0 < q) (hK1 : 1 ≤ K) (hK : 2 * K + 1 < 17592186044415) :
  CallsR Tryz.prog 79 #[v] w (RetZ w ((2 * p + q) / (2 * q))) := by
 obtain ⟨x, y, rfl, hx, hy⟩ := h
 refine aE (args := [_]) Tryz.func79 rfl rfl ?_
 refine ak ?_
 refine ai rfl ?_
 refine bC (vs := ratL x y) rfl (fun g1 w1 hn1 => tvv ?_)
 refine aH (fun g2 w2 hn2 => tvv ?_)
 have hb1 := hn1.blk.ext hn2.ex
 have hb2 : Blk w2 g2 34 (intL false none 0 0) := hn2.blk
 have hE := hn1.ex.trans hn2.ex
 repeat' (first|refine aa ?_|refine ak ?_|refine ah ?_)
 refine eZ (late := [2, 3, 4]) (plan := [(0, none), (1, some true), (2, some false), (3, some false), (4, some false)]) (fun w' => Ex w2 w') bD (by kernel_rfl) (Ex.refl w2).drew ?_
 have hEd := (Ex.refl w2).drew
 repeat' (first|refine aY (cs := ratL x y) rfl (fun _ h => hb1.ext h) rfl ?_)
 refine au oA rfl ?_
 rintro v w3 ⟨x3, y3, rfl, hx3, hy3, hE3⟩
 refine ⟨fun _ h => h.trans hE3, ?_⟩
 have hE23 := hEd.trans hE3
 skip
 refine au (oB (K := K) (p := p) (q := q) (r := 1) (s := 2) ⟨x, y, rfl, (hx.ext hE).ext hE23, (hy.ext hE).ext hE23⟩ ⟨x3, y3, rfl, hx3.k (bO (by decide) hK1), hy3.k (bO (by decide) hK1)⟩ hq (by decide) hK) rfl ?_
 rintro v w4 ⟨P, Q, hQ, hPQ, lP, lQ, x4, y4, rfl, hx4, hy4, hE4⟩
 refine ⟨fun _ h => h.trans hE4, ?_⟩
 have hE24 := hE23.trans hE4
 skip
 refine au (m9 (K := 2 * K + 1) ⟨x4, y4, rfl, hx4.k lP, hy4.k lQ⟩ hQ hK) rfl ?_
 rintro v w5 ⟨hI5, hE5⟩
 refine ⟨fun _ h => h.trans hE5, ?_⟩
 obtain ⟨u, rfl⟩ := hI5.ih
 have hb25 := hb2.ext (hE24.trans hE5)
 refine aF (n := 2) (vs := u.cells) rfl rfl rfl rfl hb25 rfl (fun w6 hc6 hb6 => ⟨fun h => (nomatch h), ?_⟩)
 repeat' (first|refine aa ?_|refine ah ?_|refine aK ?_)
 have s1 := hn1.ex.size
 have lo2 := hn2.lo
 have e : P / Q = (2 * p + q) / (2 * q) := pP hQ (by omega) (by
  have : P * (2 * q) = P * (q * 2) := by grind
  rw [this, hPQ]; grind)
 rw [e] at hI5
 exact bo rfl (rc rfl rfl hb6) ⟨(hI5.gbN hb25 (cg _ _ _ _) (dx hc6)).mono (by have := hE.size; have := hE24.size; omega), ((hE.trans hE24).trans hE5).chg hc6 (by omega)⟩
end Go.Proofs.YtpfhfldehaiokaaGreat
