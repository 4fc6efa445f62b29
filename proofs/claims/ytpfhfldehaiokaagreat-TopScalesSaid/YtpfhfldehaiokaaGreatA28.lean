import Derived.Test.YtpfhfldehaiokaaGreatA16
import Derived.Test.YtpfhfldehaiokaaGreatA19
set_option maxHeartbeats 8000000
namespace Go.Proofs.YtpfhfldehaiokaaGreat
open Go.W Go.LM Go.LA
theorem qY {K : Nat} {v1 v2 v3 v4 v5 : Value} {a b c d e : Int} {w : World} (h1 : IntK K w v1 a) (h2 : IntK K w v2 b) (h3 : IntK K w v3 c) (h4 : IntK K w v4 d) (h5 : IntK K w v5 e) (hK : 2 * K + 1 < 17592186044415) :
  CallsR Tryz.prog 128 #[v1, v2, v3, v4, v5] w (RetZ w ((a * d - b * c) / e)) := by
 obtain ⟨cs1, rfl, hl1, ho1⟩ := h1.out
 obtain ⟨cs2, rfl, hl2, ho2⟩ := h2.out
 obtain ⟨cs3, rfl, hl3, ho3⟩ := h3.out
 obtain ⟨cs4, rfl, hl4, ho4⟩ := h4.out
 obtain ⟨cs5, rfl, hl5, ho5⟩ := h5.out
 have la : Lb K a := h1.lt
 have lb : Lb K b := h2.lt
 have lc : Lb K c := h3.lt
 have ld : Lb K d := h4.lt
 refine aE (args := [_, _, _, _, _]) Tryz.func128 rfl rfl ?_
 refine ak ?_
 refine ai rfl ?_
 refine bC rfl (fun g1 w1 hn1 => tvv ?_)
 refine bC rfl (fun g2 w2 hn2 => tvv ?_)
 refine bC rfl (fun g3 w3 hn3 => tvv ?_)
 refine bC rfl (fun g4 w4 hn4 => tvv ?_)
 refine bC rfl (fun g5 w5 hn5 => tvv ?_)
 refine aH (fun g6 w6 hn6 => tvv ?_)
 have e56 := hn5.ex.trans hn6.ex
 have e46 := hn4.ex.trans e56
 have e36 := hn3.ex.trans e46
 have e26 := hn2.ex.trans e36
 have hE := hn1.ex.trans e26
 have hb1 := hn1.blk.ext e26
 have hb2 := hn2.blk.ext e36
 have hb3 := hn3.blk.ext e46
 have hb4 := hn4.blk.ext e56
 have hb5 := hn5.blk.ext hn6.ex
 have hb6 : Blk w6 g6 34 (intL false none 0 0) := hn6.blk
 have i1 := h1.ext hE
 have i2 := h2.ext hE
 have i3 := h3.ext hE
 have i4 := h4.ext hE
 have i5 := h5.ext hE
 have lo6 : w.heap.size ≤ g6 := by have := (hn1.ex.trans (hn2.ex.trans (hn3.ex.trans (hn4.ex.trans hn5.ex)))).size; have := hn6.lo; omega
 have s6 := hE.size
 clear hn1 hn2 hn3 hn4 hn5 h1 h2 h3 h4 h5 e26 e36 e46 e56
 have hEx : Ex w6 w6.drew := (Ex.refl w6).drew
 repeat' (first|refine aa ?_|refine ak ?_|refine ah ?_)
 refine gU (fun w' => Ex w6 w') bD (Ex.refl w6).drew ?_
 refine bP (fuel := 13) (by kernel_rfl) (by kernel_rfl) [0, 1, 3, 4, 7] _ _ (by kernel_rfl) ?_
 repeat' (first|refine aY rfl (fun _ h => hb1.ext h) hl1 ?_|refine aY rfl (fun _ h => hb2.ext h) hl2 ?_|refine aY rfl (fun _ h => hb3.ext h) hl3 ?_|refine aY rfl (fun _ h => hb4.ext h) hl4 ?_|refine aY rfl (fun _ h => hb5.ext h) hl5 ?_|refine ah ?_)
 refine aD (fuel := 12) (rs := [2, 13, 14]) (by kernel_rfl) (by kernel_rfl) rfl ?_
 simp only [List.forall_mem_cons, List.not_mem_nil, false_implies, implies_true, and_true]
 refine ⟨?_, ?_, ?_⟩
 focus
  refine au (cM (i1.ext hEx) (i4.ext hEx) (by omega)) rfl ?_
  rintro v7 w7 ⟨hI7, hE7⟩
  refine ⟨fun _ h => h.trans hE7, ?_⟩
  obtain ⟨u7, rfl⟩ := hI7.ih
  replace hEx := hEx.trans hE7
  try replace hbp := hbp.ext hE7
  try replace hbq := hbq.ext hE7
  refine ah ?_
  refine aD (fuel := 11) (rs := [5, 13, 14]) (by kernel_rfl) (by kernel_rfl) rfl ?_
  simp only [List.forall_mem_cons, List.not_mem_nil, false_implies, implies_true, and_true]
  refine ⟨?_, ?_, ?_⟩
  focus
   refine au (cM (i2.ext hEx) (i3.ext hEx) (by omega)) rfl ?_
   rintro v8 w8 ⟨hI8, hE8⟩
   refine ⟨fun _ h => h.trans hE8, ?_⟩
   obtain ⟨u8, rfl⟩ := hI8.ih
   replace hI7 := hI7.ext hE8
   replace hEx := hEx.trans hE8
   try replace hbp := hbp.ext hE8
   try replace hbq := hbq.ext hE8
   refine ah ?_
   refine aD (fuel := 10) (rs := [6, 13, 14]) (by kernel_rfl) (by kernel_rfl) rfl ?_
   simp only [List.forall_mem_cons, List.not_mem_nil, false_implies, implies_true, and_true]
   refine ⟨?_, ?_, ?_⟩
   focus
    refine au (cx (hI7.k (k := 2 * K) ((la.mul ld).mono (by omega))) (hI8.k (k := 2 * K) ((lb.mul lc).mono (by omega))) (by omega) (by omega)) rfl ?_
    rintro v9 w9 ⟨hI9, hE9⟩
    refine ⟨fun _ h => h.trans hE9, ?_⟩
    obtain ⟨u9, rfl⟩ := hI9.ih
    replace hEx := hEx.trans hE9
    try replace hbp := hbp.ext hE9
    try replace hbq := hbq.ext hE9
    refine ah ?_
    refine aD (fuel := 9) (rs := [8, 13, 14]) (by kernel_rfl) (by kernel_rfl) rfl ?_
    simp only [List.forall_mem_cons, List.not_mem_nil, false_implies, implies_true, and_true]
    refine ⟨?_, ?_, ?_⟩
    focus
     refine au (bz (hI9.k (k := 2 * K + 1) (Lb.sub ((la.mul ld).mono (e' := 2 * K) (by omega)) ((lb.mul lc).mono (by omega)))) (i5.ext hEx) (by omega) (by omega)) rfl ?_
     rintro v10 w10 ⟨q, r, rfl, hIq, hIr, hE10⟩
     refine ⟨fun _ h => h.trans hE10, ?_⟩
     obtain ⟨uq, rfl⟩ := hIq.ih
     obtain ⟨ur, rfl⟩ := hIr.ih
     replace hIq := hIq.mono (lo' := w6.heap.size) hEx.size
     replace hEx := hEx.trans hE10
     try replace hbp := hbp.ext hE10
     try replace hbq := hbq.ext hE10
     refine ah ?_
     refine bP (fuel := 5) (by kernel_rfl) (by kernel_rfl) [9, 10, 11, 12] _ _ (by kernel_rfl) ?_
     repeat' (first|refine aR rfl rfl ?_|refine aj rfl ?_|refine ah ?_)
     refine aD (fuel := 4) (rs := [13, 14]) (by kernel_rfl) (by kernel_rfl) rfl ?_
     simp only [List.forall_mem_cons, List.not_mem_nil, false_implies, implies_true, and_true]
     refine ⟨?_, ?_⟩
     focus
      refine aH (fun gp wp hnp => ⟨fun _ h => h.trans hnp.ex, ?_⟩)
      have hbp : Blk wp gp 34 (intL false none 0 0) := hnp.blk
      have lop : w6.heap.size ≤ gp := Nat.le_trans hEx.size hnp.lo
      try have hne : gp ≠ gq := (by have := hbq.lt; have := hnp.lo; omega)
      replace hEx := hEx.trans hnp.ex
      try replace hI7 := hI7.ext hnp.ex
      try replace hI8 := hI8.ext hnp.ex
      try replace hI9 := hI9.ext hnp.ex
      try replace hIq := hIq.ext hnp.ex
      try replace hbq := hbq.ext hnp.ex
      refine ah ?_
      refine aD (fuel := 3) (rs := [14]) (by kernel_rfl) (by kernel_rfl) rfl ?_
      rw [Go.W.fms]
      refine aH (fun gq wq hnq => ⟨fun _ h => h.trans hnq.ex, ?_⟩)
      have hbq : Blk wq gq 34 (intL false none 0 0) := hnq.blk
      have loq : w6.heap.size ≤ gq := Nat.le_trans hEx.size hnq.lo
      try have hne : gp ≠ gq := (by have := hbp.lt; have := hnq.lo; omega)
      replace hEx := hEx.trans hnq.ex
      try replace hI7 := hI7.ext hnq.ex
      try replace hI8 := hI8.ext hnq.ex
      try replace hI9 := hI9.ext hnq.ex
      try replace hIq := hIq.ext hnq.ex
      try replace hbp := hbp.ext hnq.ex
      refine ah ?_
     rotate_left 1
     focus
      refine aH (fun gq wq hnq => ⟨fun _ h => h.trans hnq.ex, ?_⟩)
      have hbq : Blk wq gq 34 (intL false none 0 0) := hnq.blk
      have loq : w6.heap.size ≤ gq := Nat.le_trans hEx.size hnq.lo
      try have hne : gp ≠ gq := (by have := hbp.lt; have := hnq.lo; omega)
      replace hEx := hEx.trans hnq.ex
      try replace hI7 := hI7.ext hnq.ex
      try replace hI8 := hI8.ext hnq.ex
      try replace hI9 := hI9.ext hnq.ex
      try replace hIq := hIq.ext hnq.ex
      try replace hbp := hbp.ext hnq.ex
      refine ah ?_
      refine aD (fuel := 3) (rs := [13]) (by kernel_rfl) (by kernel_rfl) rfl ?_
      rw [Go.W.fms]
      refine aH (fun gp wp hnp => ⟨fun _ h => h.trans hnp.ex, ?_⟩)
      have hbp : Blk wp gp 34 (intL false none 0 0) := hnp.blk
      have lop : w6.heap.size ≤ gp := Nat.le_trans hEx.size hnp.lo
      try have hne : gp ≠ gq := (by have := hbq.lt; have := hnp.lo; omega)
      replace hEx := hEx.trans hnp.ex
      try replace hI7 := hI7.ext hnp.ex
      try replace hI8 := hI8.ext hnp.ex
      try replace hI9 := hI9.ext hnp.ex
      try replace hIq := hIq.ext hnp.ex
      try replace hbq := hbq.ext hnp.ex
      refine ah ?_
     rotate_left 1
    rotate_left 2
    focus
     refine aH (fun gp wp hnp => ⟨fun _ h => h.trans hnp.ex, ?_⟩)
     have hbp : Blk wp gp 34 (intL false none 0 0) := hnp.blk
     have lop : w6.heap.size ≤ gp := Nat.le_trans hEx.size hnp.lo
     try have hne : gp ≠ gq := (by have := hbq.lt; have := hnp.lo; omega)
     replace hEx := hEx.trans hnp.ex
     try replace hI7 := hI7.ext hnp.ex
     try replace hI8 := hI8.ext hnp.ex
     try replace hI9 := hI9.ext hnp.ex
     try replace hIq := hIq.ext hnp.ex
     try replace hbq := hbq.ext hnp.ex
     refine ah ?_
     refine aD (fuel := 8) (rs := [8, 14]) (by kernel_rfl) (by kernel_rfl) rfl ?_
     simp only [List.forall_mem_cons, List.not_mem_nil, false_implies, implies_true, and_true]
     refine ⟨?_, ?_⟩
     focus
      refine au (bz (hI9.k (k := 2 * K + 1) (Lb.sub ((la.mul ld).mono (e' := 2 * K) (by omega)) ((lb.mul lc).mono (by omega)))) (i5.ext hEx) (by omega) (by omega)) rfl ?_
      rintro v10 w10 ⟨q, r, rfl, hIq, hIr, hE10⟩
      refine ⟨fun _ h => h.trans hE10, ?_⟩
      obtain ⟨uq, rfl⟩ := hIq.ih
      obtain ⟨ur, rfl⟩ := hIr.ih
      replace hIq := hIq.mono (lo' := w6.heap.size) hEx.size
      replace hEx := hEx.trans hE10
      try replace hbp := hbp.ext hE10
      try replace hbq := hbq.ext hE10
      refine ah ?_
      refine bP (fuel := 4) (by kernel_rfl) (by kernel_rfl) [9, 10, 11, 12] _ _ (by kernel_rfl) ?_
      repeat' (first|refine aR rfl rfl ?_|refine aj rfl ?_|refine ah ?_)
      refine aD (fuel := 3) (rs := [14]) (by kernel_rfl) (by kernel_rfl) rfl ?_
      rw [Go.W.fms]
      refine aH (fun gq wq hnq => ⟨fun _ h => h.trans hnq.ex, ?_⟩)
      have hbq : Blk wq gq 34 (intL false none 0 0) := hnq.blk
      have loq : w6.heap.size ≤ gq := Nat.le_trans hEx.size hnq.lo
      try have hne : gp ≠ gq := (by have := hbp.lt; have := hnq.lo; omega)
      replace hEx := hEx.trans hnq.ex
      try replace hI7 := hI7.ext hnq.ex
      try replace hI8 := hI8.ext hnq.ex
      try replace hI9 := hI9.ext hnq.ex
      try replace hIq := hIq.ext hnq.ex
      try replace hbp := hbp.ext hnq.ex
      refine ah ?_
     rotate_left 1
     focus
      refine aH (fun gq wq hnq => ⟨fun _ h => h.trans hnq.ex, ?_⟩)
      have hbq : Blk wq gq 34 (intL false none 0 0) := hnq.blk
      have loq : w6.heap.size ≤ gq := Nat.le_trans hEx.size hnq.lo
      try have hne : gp ≠ gq := (by have := hbp.lt; have := hnq.lo; omega)
      replace hEx := hEx.trans hnq.ex
      try replace hI7 := hI7.ext hnq.ex
      try replace hI8 := hI8.ext hnq.ex
      try replace hI9 := hI9.ext hnq.ex
      try replace hIq := hIq.ext hnq.ex
      try replace hbp := hbp.ext hnq.ex
      refine ah ?_
      refine aD (fuel := 7) (rs := [8]) (by kernel_rfl) (by kernel_rfl) rfl ?_
      rw [Go.W.fms]
      refine au (bz (hI9.k (k := 2 * K + 1) (Lb.sub ((la.mul ld).mono (e' := 2 * K) (by omega)) ((lb.mul lc).mono (by omega)))) (i5.ext hEx) (by omega) (by omega)) rfl ?_
      rintro v10 w10 ⟨q, r, rfl, hIq, hIr, hE10⟩
      refine ⟨fun _ h => h.trans hE10, ?_⟩
      obtain ⟨uq, rfl⟩ := hIq.ih
      obtain ⟨ur, rfl⟩ := hIr.ih
      replace hIq := hIq.mono (lo' := w6.heap.size) hEx.size
      replace hEx := hEx.trans hE10
      try replace hbp := hbp.ext hE10
      try replace hbq := hbq.ext hE10
      refine ah ?_
      refine bP (fuel := 3) (by kernel_rfl) (by kernel_rfl) [9, 10, 11, 12] _ _ (by kernel_rfl) ?_
      repeat' (first|refine aR rfl rfl ?_|refine aj rfl ?_|refine ah ?_)
     rotate_left 1
    rotate_left 2
    focus
     refine aH (fun gq wq hnq => ⟨fun _ h => h.trans hnq.ex, ?_⟩)
     have hbq : Blk wq gq 34 (intL false none 0 0) := hnq.blk
     have loq : w6.heap.size ≤ gq := Nat.le_trans hEx.size hnq.lo
     try have hne : gp ≠ gq := (by have := hbp.lt; have := hnq.lo; omega)
     replace hEx := hEx.trans hnq.ex
     try replace hI7 := hI7.ext hnq.ex
     try replace hI8 := hI8.ext hnq.ex
     try replace hI9 := hI9.ext hnq.ex
     try replace hIq := hIq.ext hnq.ex
     try replace hbp := hbp.ext hnq.ex
     refine ah ?_
     refine aD (fuel := 8) (rs := [8, 13]) (by kernel_rfl) (by kernel_rfl) rfl ?_
     simp only [List.forall_mem_cons, List.not_mem_nil, false_implies, implies_true, and_true]
     refine ⟨?_, ?_⟩
     focus
      refine au (bz (hI9.k (k := 2 * K + 1) (Lb.sub ((la.mul ld).mono (e' := 2 * K) (by omega)) ((lb.mul lc).mono (by omega)))) (i5.ext hEx) (by omega) (by omega)) rfl ?_
      rintro v10 w10 ⟨q, r, rfl, hIq, hIr, hE10⟩
      refine ⟨fun _ h => h.trans hE10, ?_⟩
      obtain ⟨uq, rfl⟩ := hIq.ih
      obtain ⟨ur, rfl⟩ := hIr.ih
      replace hIq := hIq.mono (lo' := w6.heap.size) hEx.size
      replace hEx := hEx.trans hE10
      try replace hbp := hbp.ext hE10
      try replace hbq := hbq.ext hE10
      refine ah ?_
      refine bP (fuel := 4) (by kernel_rfl) (by kernel_rfl) [9, 10, 11, 12] _ _ (by kernel_rfl) ?_
      repeat' (first|refine aR rfl rfl ?_|refine aj rfl ?_|refine ah ?_)
      refine aD (fuel := 3) (rs := [13]) (by kernel_rfl) (by kernel_rfl) rfl ?_
      rw [Go.W.fms]
      refine aH (fun gp wp hnp => ⟨fun _ h => h.trans hnp.ex, ?_⟩)
      have hbp : Blk wp gp 34 (intL false none 0 0) := hnp.blk
      have lop : w6.heap.size ≤ gp := Nat.le_trans hEx.size hnp.lo
      try have hne : gp ≠ gq := (by have := hbq.lt; have := hnp.lo; omega)
      replace hEx := hEx.trans hnp.ex
      try replace hI7 := hI7.ext hnp.ex
      try replace hI8 := hI8.ext hnp.ex
      try replace hI9 := hI9.ext hnp.ex
      try replace hIq := hIq.ext hnp.ex
      try replace hbq := hbq.ext hnp.ex
      refine ah ?_
     rotate_left 1
     focus
      refine aH (fun gp wp hnp => ⟨fun _ h => h.trans hnp.ex, ?_⟩)
      have hbp : Blk wp gp 34 (intL false none 0 0) := hnp.blk
      have lop : w6.heap.size ≤ gp := Nat.le_trans hEx.size hnp.lo
      try have hne : gp ≠ gq := (by have := hbq.lt; have := hnp.lo; omega)
      replace hEx := hEx.trans hnp.ex
      try replace hI7 := hI7.ext hnp.ex
      try replace hI8 := hI8.ext hnp.ex
      try replace hI9 := hI9.ext hnp.ex
      try replace hIq := hIq.ext hnp.ex
      try replace hbq := hbq.ext hnp.ex
      refine ah ?_
      refine aD (fuel := 7) (rs := [8]) (by kernel_rfl) (by kernel_rfl) rfl ?_
      rw [Go.W.fms]
      refine au (bz (hI9.k (k := 2 * K + 1) (Lb.sub ((la.mul ld).mono (e' := 2 * K) (by omega)) ((lb.mul lc).mono (by omega)))) (i5.ext hEx) (by omega) (by omega)) rfl ?_
      rintro v10 w10 ⟨q, r, rfl, hIq, hIr, hE10⟩
      refine ⟨fun _ h => h.trans hE10, ?_⟩
      obtain ⟨uq, rfl⟩ := hIq.ih
      obtain ⟨ur, rfl⟩ := hIr.ih
      replace hIq := hIq.mono (lo' := w6.heap.size) hEx.size
      replace hEx := hEx.trans hE10
      try replace hbp := hbp.ext hE10
      try replace hbq := hbq.ext hE10
      refine ah ?_
      refine bP (fuel := 3) (by kernel_rfl) (by kernel_rfl) [9, 10, 11, 12] _ _ (by kernel_rfl) ?_
      repeat' (first|refine aR rfl rfl ?_|refine aj rfl ?_|refine ah ?_)
     rotate_left 1
    rotate_left 2
   rotate_left 6
   focus
    refine aH (fun gp wp hnp => ⟨fun _ h => h.trans hnp.ex, ?_⟩)
    have hbp : Blk wp gp 34 (intL false none 0 0) := hnp.blk
    have lop : w6.heap.size ≤ gp := Nat.le_trans hEx.size hnp.lo
    try have hne : gp ≠ gq := (by have := hbq.lt; have := hnp.lo; omega)
    replace hEx := hEx.trans hnp.ex
    try replace hI7 := hI7.ext hnp.ex
    try replace hI8 := hI8.ext hnp.ex
    try replace hI9 := hI9.ext hnp.ex
    try replace hIq := hIq.ext hnp.ex
    try replace hbq := hbq.ext hnp.ex
    refine ah ?_
    refine aD (fuel := 9) (rs := [6, 14]) (by kernel_rfl) (by kernel_rfl) rfl ?_
    simp only [List.forall_mem_cons, List.not_mem_nil, false_implies, implies_true, and_true]
    refine ⟨?_, ?_⟩
    focus
     refine au (cx (hI7.k (k := 2 * K) ((la.mul ld).mono (by omega))) (hI8.k (k := 2 * K) ((lb.mul lc).mono (by omega))) (by omega) (by omega)) rfl ?_
     rintro v9 w9 ⟨hI9, hE9⟩
     refine ⟨fun _ h => h.trans hE9, ?_⟩
     obtain ⟨u9, rfl⟩ := hI9.ih
     replace hEx := hEx.trans hE9
     try replace hbp := hbp.ext hE9
     try replace hbq := hbq.ext hE9
     refine ah ?_
     refine aD (fuel := 8) (rs := [8, 14]) (by kernel_rfl) (by kernel_rfl) rfl ?_
     simp only [List.forall_mem_cons, List.not_mem_nil, false_implies, implies_true, and_true]
     refine ⟨?_, ?_⟩
     focus
      refine au (bz (hI9.k (k := 2 * K + 1) (Lb.sub ((la.mul ld).mono (e' := 2 * K) (by omega)) ((lb.mul lc).mono (by omega)))) (i5.ext hEx) (by omega) (by omega)) rfl ?_
      rintro v10 w10 ⟨q, r, rfl, hIq, hIr, hE10⟩
      refine ⟨fun _ h => h.trans hE10, ?_⟩
      obtain ⟨uq, rfl⟩ := hIq.ih
      obtain ⟨ur, rfl⟩ := hIr.ih
      replace hIq := hIq.mono (lo' := w6.heap.size) hEx.size
      replace hEx := hEx.trans hE10
      try replace hbp := hbp.ext hE10
      try replace hbq := hbq.ext hE10
      refine ah ?_
      refine bP (fuel := 4) (by kernel_rfl) (by kernel_rfl) [9, 10, 11, 12] _ _ (by kernel_rfl) ?_
      repeat' (first|refine aR rfl rfl ?_|refine aj rfl ?_|refine ah ?_)
      refine aD (fuel := 3) (rs := [14]) (by kernel_rfl) (by kernel_rfl) rfl ?_
      rw [Go.W.fms]
      refine aH (fun gq wq hnq => ⟨fun _ h => h.trans hnq.ex, ?_⟩)
      have hbq : Blk wq gq 34 (intL false none 0 0) := hnq.blk
      have loq : w6.heap.size ≤ gq := Nat.le_trans hEx.size hnq.lo
      try have hne : gp ≠ gq := (by have := hbp.lt; have := hnq.lo; omega)
      replace hEx := hEx.trans hnq.ex
      try replace hI7 := hI7.ext hnq.ex
      try replace hI8 := hI8.ext hnq.ex
      try replace hI9 := hI9.ext hnq.ex
      try replace hIq := hIq.ext hnq.ex
      try replace hbp := hbp.ext hnq.ex
      refine ah ?_
     rotate_left 1
     focus
      refine aH (fun gq wq hnq => ⟨fun _ h => h.trans hnq.ex, ?_⟩)
      have hbq : Blk wq gq 34 (intL false none 0 0) := hnq.blk
      have loq : w6.heap.size ≤ gq := Nat.le_trans hEx.size hnq.lo
      try have hne : gp ≠ gq := (by have := hbp.lt; have := hnq.lo; omega)
      replace hEx := hEx.trans hnq.ex
      try replace hI7 := hI7.ext hnq.ex
      try replace hI8 := hI8.ext hnq.ex
      try replace hI9 := hI9.ext hnq.ex
      try replace hIq := hIq.ext hnq.ex
      try replace hbp := hbp.ext hnq.ex
      refine ah ?_
      refine aD (fuel := 7) (rs := [8]) (by kernel_rfl) (by kernel_rfl) rfl ?_
      rw [Go.W.fms]
      refine au (bz (hI9.k (k := 2 * K + 1) (Lb.sub ((la.mul ld).mono (e' := 2 * K) (by omega)) ((lb.mul lc).mono (by omega)))) (i5.ext hEx) (by omega) (by omega)) rfl ?_
      rintro v10 w10 ⟨q, r, rfl, hIq, hIr, hE10⟩
      refine ⟨fun _ h => h.trans hE10, ?_⟩
      obtain ⟨uq, rfl⟩ := hIq.ih
      obtain ⟨ur, rfl⟩ := hIr.ih
      replace hIq := hIq.mono (lo' := w6.heap.size) hEx.size
      replace hEx := hEx.trans hE10
      try replace hbp := hbp.ext hE10
      try replace hbq := hbq.ext hE10
      refine ah ?_
      refine bP (fuel := 3) (by kernel_rfl) (by kernel_rfl) [9, 10, 11, 12] _ _ (by kernel_rfl) ?_
      repeat' (first|refine aR rfl rfl ?_|refine aj rfl ?_|refine ah ?_)
     rotate_left 1
    rotate_left 2
    focus
     refine aH (fun gq wq hnq => ⟨fun _ h => h.trans hnq.ex, ?_⟩)
     have hbq : Blk wq gq 34 (intL false none 0 0) := hnq.blk
     have loq : w6.heap.size ≤ gq := Nat.le_trans hEx.size hnq.lo
     try have hne : gp ≠ gq := (by have := hbp.lt; have := hnq.lo; omega)
     replace hEx := hEx.trans hnq.ex
     try replace hI7 := hI7.ext hnq.ex
     try replace hI8 := hI8.ext hnq.ex
     try replace hI9 := hI9.ext hnq.ex
     try replace hIq := hIq.ext hnq.ex
     try replace hbp := hbp.ext hnq.ex
     refine ah ?_
     refine aD (fuel := 8) (rs := [6]) (by kernel_rfl) (by kernel_rfl) rfl ?_
     rw [Go.W.fms]
     refine au (cx (hI7.k (k := 2 * K) ((la.mul ld).mono (by omega))) (hI8.k (k := 2 * K) ((lb.mul lc).mono (by omega))) (by omega) (by omega)) rfl ?_
     rintro v9 w9 ⟨hI9, hE9⟩
     refine ⟨fun _ h => h.trans hE9, ?_⟩
     obtain ⟨u9, rfl⟩ := hI9.ih
     replace hEx := hEx.trans hE9
     try replace hbp := hbp.ext hE9
     try replace hbq := hbq.ext hE9
     refine ah ?_
     refine aD (fuel := 7) (rs := [8]) (by kernel_rfl) (by kernel_rfl) rfl ?_
     rw [Go.W.fms]
     refine au (bz (hI9.k (k := 2 * K + 1) (Lb.sub ((la.mul ld).mono (e' := 2 * K) (by omega)) ((lb.mul lc).mono (by omega)))) (i5.ext hEx) (by omega) (by omega)) rfl ?_
     rintro v10 w10 ⟨q, r, rfl, hIq, hIr, hE10⟩
     refine ⟨fun _ h => h.trans hE10, ?_⟩
     obtain ⟨uq, rfl⟩ := hIq.ih
     obtain ⟨ur, rfl⟩ := hIr.ih
     replace hIq := hIq.mono (lo' := w6.heap.size) hEx.size
     replace hEx := hEx.trans hE10
     try replace hbp := hbp.ext hE10
     try replace hbq := hbq.ext hE10
     refine ah ?_
     refine bP (fuel := 3) (by kernel_rfl) (by kernel_rfl) [9, 10, 11, 12] _ _ (by kernel_rfl) ?_
     repeat' (first|refine aR rfl rfl ?_|refine aj rfl ?_|refine ah ?_)
    rotate_left 1
   rotate_left 3
   focus
    refine aH (fun gq wq hnq => ⟨fun _ h => h.trans hnq.ex, ?_⟩)
    have hbq : Blk wq gq 34 (intL false none 0 0) := hnq.blk
    have loq : w6.heap.size ≤ gq := Nat.le_trans hEx.size hnq.lo
    try have hne : gp ≠ gq := (by have := hbp.lt; have := hnq.lo; omega)
    replace hEx := hEx.trans hnq.ex
    try replace hI7 := hI7.ext hnq.ex
    try replace hI8 := hI8.ext hnq.ex
    try replace hI9 := hI9.ext hnq.ex
    try replace hIq := hIq.ext hnq.ex
    try replace hbp := hbp.ext hnq.ex
    refine ah ?_
    refine aD (fuel := 9) (rs := [6, 13]) (by kernel_rfl) (by kernel_rfl) rfl ?_
    simp only [List.forall_mem_cons, List.not_mem_nil, false_implies, implies_true, and_true]
    refine ⟨?_, ?_⟩
    focus
     refine au (cx (hI7.k (k := 2 * K) ((la.mul ld).mono (by omega))) (hI8.k (k := 2 * K) ((lb.mul lc).mono (by omega))) (by omega) (by omega)) rfl ?_
     rintro v9 w9 ⟨hI9, hE9⟩
     refine ⟨fun _ h => h.trans hE9, ?_⟩
     obtain ⟨u9, rfl⟩ := hI9.ih
     replace hEx := hEx.trans hE9
     try replace hbp := hbp.ext hE9
     try replace hbq := hbq.ext hE9
     refine ah ?_
     refine aD (fuel := 8) (rs := [8, 13]) (by kernel_rfl) (by kernel_rfl) rfl ?_
     simp only [List.forall_mem_cons, List.not_mem_nil, false_implies, implies_true, and_true]
     refine ⟨?_, ?_⟩
     focus
      refine au (bz (hI9.k (k := 2 * K + 1) (Lb.sub ((la.mul ld).mono (e' := 2 * K) (by omega)) ((lb.mul lc).mono (by omega)))) (i5.ext hEx) (by omega) (by omega)) rfl ?_
      rintro v10 w10 ⟨q, r, rfl, hIq, hIr, hE10⟩
      refine ⟨fun _ h => h.trans hE10, ?_⟩
      obtain ⟨uq, rfl⟩ := hIq.ih
      obtain ⟨ur, rfl⟩ := hIr.ih
      replace hIq := hIq.mono (lo' := w6.heap.size) hEx.size
      replace hEx := hEx.trans hE10
      try replace hbp := hbp.ext hE10
      try replace hbq := hbq.ext hE10
      refine ah ?_
      refine bP (fuel := 4) (by kernel_rfl) (by kernel_rfl) [9, 10, 11, 12] _ _ (by kernel_rfl) ?_
      repeat' (first|refine aR rfl rfl ?_|refine aj rfl ?_|refine ah ?_)
      refine aD (fuel := 3) (rs := [13]) (by kernel_rfl) (by kernel_rfl) rfl ?_
      rw [Go.W.fms]
      refine aH (fun gp wp hnp => ⟨fun _ h => h.trans hnp.ex, ?_⟩)
      have hbp : Blk wp gp 34 (intL false none 0 0) := hnp.blk
      have lop : w6.heap.size ≤ gp := Nat.le_trans hEx.size hnp.lo
      try have hne : gp ≠ gq := (by have := hbq.lt; have := hnp.lo; omega)
      replace hEx := hEx.trans hnp.ex
      try replace hI7 := hI7.ext hnp.ex
      try replace hI8 := hI8.ext hnp.ex
      try replace hI9 := hI9.ext hnp.ex
      try replace hIq := hIq.ext hnp.ex
      try replace hbq := hbq.ext hnp.ex
      refine ah ?_
     rotate_left 1
     focus
      refine aH (fun gp wp hnp => ⟨fun _ h => h.trans hnp.ex, ?_⟩)
      have hbp : Blk wp gp 34 (intL false none 0 0) := hnp.blk
      have lop : w6.heap.size ≤ gp := Nat.le_trans hEx.size hnp.lo
      try have hne : gp ≠ gq := (by have := hbq.lt; have := hnp.lo; omega)
      replace hEx := hEx.trans hnp.ex
      try replace hI7 := hI7.ext hnp.ex
      try replace hI8 := hI8.ext hnp.ex
      try replace hI9 := hI9.ext hnp.ex
      try replace hIq := hIq.ext hnp.ex
      try replace hbq := hbq.ext hnp.ex
      refine ah ?_
      refine aD (fuel := 7) (rs := [8]) (by kernel_rfl) (by kernel_rfl) rfl ?_
      rw [Go.W.fms]
      refine au (bz (hI9.k (k := 2 * K + 1) (Lb.sub ((la.mul ld).mono (e' := 2 * K) (by omega)) ((lb.mul lc).mono (by omega)))) (i5.ext hEx) (by omega) (by omega)) rfl ?_
      rintro v10 w10 ⟨q, r, rfl, hIq, hIr, hE10⟩
      refine ⟨fun _ h => h.trans hE10, ?_⟩
      obtain ⟨uq, rfl⟩ := hIq.ih
      obtain ⟨ur, rfl⟩ := hIr.ih
      replace hIq := hIq.mono (lo' := w6.heap.size) hEx.size
      replace hEx := hEx.trans hE10
      try replace hbp := hbp.ext hE10
      try replace hbq := hbq.ext hE10
      refine ah ?_
      refine bP (fuel := 3) (by kernel_rfl) (by kernel_rfl) [9, 10, 11, 12] _ _ (by kernel_rfl) ?_
      repeat' (first|refine aR rfl rfl ?_|refine aj rfl ?_|refine ah ?_)
     rotate_left 1
    rotate_left 2
    focus
     refine aH (fun gp wp hnp => ⟨fun _ h => h.trans hnp.ex, ?_⟩)
     have hbp : Blk wp gp 34 (intL false none 0 0) := hnp.blk
     have lop : w6.heap.size ≤ gp := Nat.le_trans hEx.size hnp.lo
     try have hne : gp ≠ gq := (by have := hbq.lt; have := hnp.lo; omega)
     replace hEx := hEx.trans hnp.ex
     try replace hI7 := hI7.ext hnp.ex
     try replace hI8 := hI8.ext hnp.ex
     try replace hI9 := hI9.ext hnp.ex
     try replace hIq := hIq.ext hnp.ex
     try replace hbq := hbq.ext hnp.ex
     refine ah ?_
     refine aD (fuel := 8) (rs := [6]) (by kernel_rfl) (by kernel_rfl) rfl ?_
     rw [Go.W.fms]
     refine au (cx (hI7.k (k := 2 * K) ((la.mul ld).mono (by omega))) (hI8.k (k := 2 * K) ((lb.mul lc).mono (by omega))) (by omega) (by omega)) rfl ?_
     rintro v9 w9 ⟨hI9, hE9⟩
     refine ⟨fun _ h => h.trans hE9, ?_⟩
     obtain ⟨u9, rfl⟩ := hI9.ih
     replace hEx := hEx.trans hE9
     try replace hbp := hbp.ext hE9
     try replace hbq := hbq.ext hE9
     refine ah ?_
     refine aD (fuel := 7) (rs := [8]) (by kernel_rfl) (by kernel_rfl) rfl ?_
     rw [Go.W.fms]
     refine au (bz (hI9.k (k := 2 * K + 1) (Lb.sub ((la.mul ld).mono (e' := 2 * K) (by omega)) ((lb.mul lc).mono (by omega)))) (i5.ext hEx) (by omega) (by omega)) rfl ?_
     rintro v10 w10 ⟨q, r, rfl, hIq, hIr, hE10⟩
     refine ⟨fun _ h => h.trans hE10, ?_⟩
     obtain ⟨uq, rfl⟩ := hIq.ih
     obtain ⟨ur, rfl⟩ := hIr.ih
     replace hIq := hIq.mono (lo' := w6.heap.size) hEx.size
     replace hEx := hEx.trans hE10
     try replace hbp := hbp.ext hE10
     try replace hbq := hbq.ext hE10
     refine ah ?_
     refine bP (fuel := 3) (by kernel_rfl) (by kernel_rfl) [9, 10, 11, 12] _ _ (by kernel_rfl) ?_
     repeat' (first|refine aR rfl rfl ?_|refine aj rfl ?_|refine ah ?_)
    rotate_left 1
   rotate_left 3
  rotate_left 12
  focus
   refine aH (fun gp wp hnp => ⟨fun _ h => h.trans hnp.ex, ?_⟩)
   have hbp : Blk wp gp 34 (intL false none 0 0) := hnp.blk
   have lop : w6.heap.size ≤ gp := Nat.le_trans hEx.size hnp.lo
   try have hne : gp ≠ gq := (by have := hbq.lt; have := hnp.lo; omega)
   replace hEx := hEx.trans hnp.ex
   try replace hI7 := hI7.ext hnp.ex
   try replace hI8 := hI8.ext hnp.ex
   try replace hI9 := hI9.ext hnp.ex
   try replace hIq := hIq.ext hnp.ex
   try replace hbq := hbq.ext hnp.ex
   refine ah ?_
   refine aD (fuel := 10) (rs := [5, 14]) (by kernel_rfl) (by kernel_rfl) rfl ?_
   simp only [List.forall_mem_cons, List.not_mem_nil, false_implies, implies_true, and_true]
   refine ⟨?_, ?_⟩
   focus
    refine au (cM (i2.ext hEx) (i3.ext hEx) (by omega)) rfl ?_
    rintro v8 w8 ⟨hI8, hE8⟩
    refine ⟨fun _ h => h.trans hE8, ?_⟩
    obtain ⟨u8, rfl⟩ := hI8.ih
    replace hI7 := hI7.ext hE8
    replace hEx := hEx.trans hE8
    try replace hbp := hbp.ext hE8
    try replace hbq := hbq.ext hE8
    refine ah ?_
    refine aD (fuel := 9) (rs := [6, 14]) (by kernel_rfl) (by kernel_rfl) rfl ?_
    simp only [List.forall_mem_cons, List.not_mem_nil, false_implies, implies_true, and_true]
    refine ⟨?_, ?_⟩
    focus
     refine au (cx (hI7.k (k := 2 * K) ((la.mul ld).mono (by omega))) (hI8.k (k := 2 * K) ((lb.mul lc).mono (by omega))) (by omega) (by omega)) rfl ?_
     rintro v9 w9 ⟨hI9, hE9⟩
     refine ⟨fun _ h => h.trans hE9, ?_⟩
     obtain ⟨u9, rfl⟩ := hI9.ih
     replace hEx := hEx.trans hE9
     try replace hbp := hbp.ext hE9
     try replace hbq := hbq.ext hE9
     refine ah ?_
     refine aD (fuel := 8) (rs := [8, 14]) (by kernel_rfl) (by kernel_rfl) rfl ?_
     simp only [List.forall_mem_cons, List.not_mem_nil, false_implies, implies_true, and_true]
     refine ⟨?_, ?_⟩
     focus
      refine au (bz (hI9.k (k := 2 * K + 1) (Lb.sub ((la.mul ld).mono (e' := 2 * K) (by omega)) ((lb.mul lc).mono (by omega)))) (i5.ext hEx) (by omega) (by omega)) rfl ?_
      rintro v10 w10 ⟨q, r, rfl, hIq, hIr, hE10⟩
      refine ⟨fun _ h => h.trans hE10, ?_⟩
      obtain ⟨uq, rfl⟩ := hIq.ih
      obtain ⟨ur, rfl⟩ := hIr.ih
      replace hIq := hIq.mono (lo' := w6.heap.size) hEx.size
      replace hEx := hEx.trans hE10
      try replace hbp := hbp.ext hE10
      try replace hbq := hbq.ext hE10
      refine ah ?_
      refine bP (fuel := 4) (by kernel_rfl) (by kernel_rfl) [9, 10, 11, 12] _ _ (by kernel_rfl) ?_
      repeat' (first|refine aR rfl rfl ?_|refine aj rfl ?_|refine ah ?_)
      refine aD (fuel := 3) (rs := [14]) (by kernel_rfl) (by kernel_rfl) rfl ?_
      rw [Go.W.fms]
      refine aH (fun gq wq hnq => ⟨fun _ h => h.trans hnq.ex, ?_⟩)
      have hbq : Blk wq gq 34 (intL false none 0 0) := hnq.blk
      have loq : w6.heap.size ≤ gq := Nat.le_trans hEx.size hnq.lo
      try have hne : gp ≠ gq := (by have := hbp.lt; have := hnq.lo; omega)
      replace hEx := hEx.trans hnq.ex
      try replace hI7 := hI7.ext hnq.ex
      try replace hI8 := hI8.ext hnq.ex
      try replace hI9 := hI9.ext hnq.ex
      try replace hIq := hIq.ext hnq.ex
      try replace hbp := hbp.ext hnq.ex
      refine ah ?_
     rotate_left 1
     focus
      refine aH (fun gq wq hnq => ⟨fun _ h => h.trans hnq.ex, ?_⟩)
      have hbq : Blk wq gq 34 (intL false none 0 0) := hnq.blk
      have loq : w6.heap.size ≤ gq := Nat.le_trans hEx.size hnq.lo
      try have hne : gp ≠ gq := (by have := hbp.lt; have := hnq.lo; omega)
      replace hEx := hEx.trans hnq.ex
      try replace hI7 := hI7.ext hnq.ex
      try replace hI8 := hI8.ext hnq.ex
      try replace hI9 := hI9.ext hnq.ex
      try replace hIq := hIq.ext hnq.ex
      try replace hbp := hbp.ext hnq.ex
      refine ah ?_
      refine aD (fuel := 7) (rs := [8]) (by kernel_rfl) (by kernel_rfl) rfl ?_
      rw [Go.W.fms]
      refine au (bz (hI9.k (k := 2 * K + 1) (Lb.sub ((la.mul ld).mono (e' := 2 * K) (by omega)) ((lb.mul lc).mono (by omega)))) (i5.ext hEx) (by omega) (by omega)) rfl ?_
      rintro v10 w10 ⟨q, r, rfl, hIq, hIr, hE10⟩
      refine ⟨fun _ h => h.trans hE10, ?_⟩
      obtain ⟨uq, rfl⟩ := hIq.ih
      obtain ⟨ur, rfl⟩ := hIr.ih
      replace hIq := hIq.mono (lo' := w6.heap.size) hEx.size
      replace hEx := hEx.trans hE10
      try replace hbp := hbp.ext hE10
      try replace hbq := hbq.ext hE10
      refine ah ?_
      refine bP (fuel := 3) (by kernel_rfl) (by kernel_rfl) [9, 10, 11, 12] _ _ (by kernel_rfl) ?_
      repeat' (first|refine aR rfl rfl ?_|refine aj rfl ?_|refine ah ?_)
     rotate_left 1
    rotate_left 2
    focus
     refine aH (fun gq wq hnq => ⟨fun _ h => h.trans hnq.ex, ?_⟩)
     have hbq : Blk wq gq 34 (intL false none 0 0) := hnq.blk
     have loq : w6.heap.size ≤ gq := Nat.le_trans hEx.size hnq.lo
     try have hne : gp ≠ gq := (by have := hbp.lt; have := hnq.lo; omega)
     replace hEx := hEx.trans hnq.ex
     try replace hI7 := hI7.ext hnq.ex
     try replace hI8 := hI8.ext hnq.ex
     try replace hI9 := hI9.ext hnq.ex
     try replace hIq := hIq.ext hnq.ex
     try replace hbp := hbp.ext hnq.ex
     refine ah ?_
     refine aD (fuel := 8) (rs := [6]) (by kernel_rfl) (by kernel_rfl) rfl ?_
     rw [Go.W.fms]
     refine au (cx (hI7.k (k := 2 * K) ((la.mul ld).mono (by omega))) (hI8.k (k := 2 * K) ((lb.mul lc).mono (by omega))) (by omega) (by omega)) rfl ?_
     rintro v9 w9 ⟨hI9, hE9⟩
     refine ⟨fun _ h => h.trans hE9, ?_⟩
     obtain ⟨u9, rfl⟩ := hI9.ih
     replace hEx := hEx.trans hE9
     try replace hbp := hbp.ext hE9
     try replace hbq := hbq.ext hE9
     refine ah ?_
     refine aD (fuel := 7) (rs := [8]) (by kernel_rfl) (by kernel_rfl) rfl ?_
     rw [Go.W.fms]
     refine au (bz (hI9.k (k := 2 * K + 1) (Lb.sub ((la.mul ld).mono (e' := 2 * K) (by omega)) ((lb.mul lc).mono (by omega)))) (i5.ext hEx) (by omega) (by omega)) rfl ?_
     rintro v10 w10 ⟨q, r, rfl, hIq, hIr, hE10⟩
     refine ⟨fun _ h => h.trans hE10, ?_⟩
     obtain ⟨uq, rfl⟩ := hIq.ih
     obtain ⟨ur, rfl⟩ := hIr.ih
     replace hIq := hIq.mono (lo' := w6.heap.size) hEx.size
     replace hEx := hEx.trans hE10
     try replace hbp := hbp.ext hE10
     try replace hbq := hbq.ext hE10
     refine ah ?_
     refine bP (fuel := 3) (by kernel_rfl) (by kernel_rfl) [9, 10, 11, 12] _ _ (by kernel_rfl) ?_
     repeat' (first|refine aR rfl rfl ?_|refine aj rfl ?_|refine ah ?_)
    rotate_left 1
   rotate_left 3
   focus
    refine aH (fun gq wq hnq => ⟨fun _ h => h.trans hnq.ex, ?_⟩)
    have hbq : Blk wq gq 34 (intL false none 0 0) := hnq.blk
    have loq : w6.heap.size ≤ gq := Nat.le_trans hEx.size hnq.lo
    try have hne : gp ≠ gq := (by have := hbp.lt; have := hnq.lo; omega)
    replace hEx := hEx.trans hnq.ex
    try replace hI7 := hI7.ext hnq.ex
    try replace hI8 := hI8.ext hnq.ex
    try replace hI9 := hI9.ext hnq.ex
    try replace hIq := hIq.ext hnq.ex
    try replace hbp := hbp.ext hnq.ex
    refine ah ?_
    refine aD (fuel := 9) (rs := [5]) (by kernel_rfl) (by kernel_rfl) rfl ?_
    rw [Go.W.fms]
    refine au (cM (i2.ext hEx) (i3.ext hEx) (by omega)) rfl ?_
    rintro v8 w8 ⟨hI8, hE8⟩
    refine ⟨fun _ h => h.trans hE8, ?_⟩
    obtain ⟨u8, rfl⟩ := hI8.ih
    replace hI7 := hI7.ext hE8
    replace hEx := hEx.trans hE8
    try replace hbp := hbp.ext hE8
    try replace hbq := hbq.ext hE8
    refine ah ?_
    refine aD (fuel := 8) (rs := [6]) (by kernel_rfl) (by kernel_rfl) rfl ?_
    rw [Go.W.fms]
    refine au (cx (hI7.k (k := 2 * K) ((la.mul ld).mono (by omega))) (hI8.k (k := 2 * K) ((lb.mul lc).mono (by omega))) (by omega) (by omega)) rfl ?_
    rintro v9 w9 ⟨hI9, hE9⟩
    refine ⟨fun _ h => h.trans hE9, ?_⟩
    obtain ⟨u9, rfl⟩ := hI9.ih
    replace hEx := hEx.trans hE9
    try replace hbp := hbp.ext hE9
    try replace hbq := hbq.ext hE9
    refine ah ?_
    refine aD (fuel := 7) (rs := [8]) (by kernel_rfl) (by kernel_rfl) rfl ?_
    rw [Go.W.fms]
    refine au (bz (hI9.k (k := 2 * K + 1) (Lb.sub ((la.mul ld).mono (e' := 2 * K) (by omega)) ((lb.mul lc).mono (by omega)))) (i5.ext hEx) (by omega) (by omega)) rfl ?_
    rintro v10 w10 ⟨q, r, rfl, hIq, hIr, hE10⟩
    refine ⟨fun _ h => h.trans hE10, ?_⟩
    obtain ⟨uq, rfl⟩ := hIq.ih
    obtain ⟨ur, rfl⟩ := hIr.ih
    replace hIq := hIq.mono (lo' := w6.heap.size) hEx.size
    replace hEx := hEx.trans hE10
    try replace hbp := hbp.ext hE10
    try replace hbq := hbq.ext hE10
    refine ah ?_
    refine bP (fuel := 3) (by kernel_rfl) (by kernel_rfl) [9, 10, 11, 12] _ _ (by kernel_rfl) ?_
    repeat' (first|refine aR rfl rfl ?_|refine aj rfl ?_|refine ah ?_)
   rotate_left 1
  rotate_left 4
  focus
   refine aH (fun gq wq hnq => ⟨fun _ h => h.trans hnq.ex, ?_⟩)
   have hbq : Blk wq gq 34 (intL false none 0 0) := hnq.blk
   have loq : w6.heap.size ≤ gq := Nat.le_trans hEx.size hnq.lo
   try have hne : gp ≠ gq := (by have := hbp.lt; have := hnq.lo; omega)
   replace hEx := hEx.trans hnq.ex
   try replace hI7 := hI7.ext hnq.ex
   try replace hI8 := hI8.ext hnq.ex
   try replace hI9 := hI9.ext hnq.ex
   try replace hIq := hIq.ext hnq.ex
   try replace hbp := hbp.ext hnq.ex
   refine ah ?_
   refine aD (fuel := 10) (rs := [5, 13]) (by kernel_rfl) (by kernel_rfl) rfl ?_
   simp only [List.forall_mem_cons, List.not_mem_nil, false_implies, implies_true, and_true]
   refine ⟨?_, ?_⟩
   focus
    refine au (cM (i2.ext hEx) (i3.ext hEx) (by omega)) rfl ?_
    rintro v8 w8 ⟨hI8, hE8⟩
    refine ⟨fun _ h => h.trans hE8, ?_⟩
    obtain ⟨u8, rfl⟩ := hI8.ih
    replace hI7 := hI7.ext hE8
    replace hEx := hEx.trans hE8
    try replace hbp := hbp.ext hE8
    try replace hbq := hbq.ext hE8
    refine ah ?_
    refine aD (fuel := 9) (rs := [6, 13]) (by kernel_rfl) (by kernel_rfl) rfl ?_
    simp only [List.forall_mem_cons, List.not_mem_nil, false_implies, implies_true, and_true]
    refine ⟨?_, ?_⟩
    focus
     refine au (cx (hI7.k (k := 2 * K) ((la.mul ld).mono (by omega))) (hI8.k (k := 2 * K) ((lb.mul lc).mono (by omega))) (by omega) (by omega)) rfl ?_
     rintro v9 w9 ⟨hI9, hE9⟩
     refine ⟨fun _ h => h.trans hE9, ?_⟩
     obtain ⟨u9, rfl⟩ := hI9.ih
     replace hEx := hEx.trans hE9
     try replace hbp := hbp.ext hE9
     try replace hbq := hbq.ext hE9
     refine ah ?_
     refine aD (fuel := 8) (rs := [8, 13]) (by kernel_rfl) (by kernel_rfl) rfl ?_
     simp only [List.forall_mem_cons, List.not_mem_nil, false_implies, implies_true, and_true]
     refine ⟨?_, ?_⟩
     focus
      refine au (bz (hI9.k (k := 2 * K + 1) (Lb.sub ((la.mul ld).mono (e' := 2 * K) (by omega)) ((lb.mul lc).mono (by omega)))) (i5.ext hEx) (by omega) (by omega)) rfl ?_
      rintro v10 w10 ⟨q, r, rfl, hIq, hIr, hE10⟩
      refine ⟨fun _ h => h.trans hE10, ?_⟩
      obtain ⟨uq, rfl⟩ := hIq.ih
      obtain ⟨ur, rfl⟩ := hIr.ih
      replace hIq := hIq.mono (lo' := w6.heap.size) hEx.size
      replace hEx := hEx.trans hE10
      try replace hbp := hbp.ext hE10
      try replace hbq := hbq.ext hE10
      refine ah ?_
      refine bP (fuel := 4) (by kernel_rfl) (by kernel_rfl) [9, 10, 11, 12] _ _ (by kernel_rfl) ?_
      repeat' (first|refine aR rfl rfl ?_|refine aj rfl ?_|refine ah ?_)
      refine aD (fuel := 3) (rs := [13]) (by kernel_rfl) (by kernel_rfl) rfl ?_
      rw [Go.W.fms]
      refine aH (fun gp wp hnp => ⟨fun _ h => h.trans hnp.ex, ?_⟩)
      have hbp : Blk wp gp 34 (intL false none 0 0) := hnp.blk
      have lop : w6.heap.size ≤ gp := Nat.le_trans hEx.size hnp.lo
      try have hne : gp ≠ gq := (by have := hbq.lt; have := hnp.lo; omega)
      replace hEx := hEx.trans hnp.ex
      try replace hI7 := hI7.ext hnp.ex
      try replace hI8 := hI8.ext hnp.ex
      try replace hI9 := hI9.ext hnp.ex
      try replace hIq := hIq.ext hnp.ex
      try replace hbq := hbq.ext hnp.ex
      refine ah ?_
     rotate_left 1
     focus
      refine aH (fun gp wp hnp => ⟨fun _ h => h.trans hnp.ex, ?_⟩)
      have hbp : Blk wp gp 34 (intL false none 0 0) := hnp.blk
      have lop : w6.heap.size ≤ gp := Nat.le_trans hEx.size hnp.lo
      try have hne : gp ≠ gq := (by have := hbq.lt; have := hnp.lo; omega)
      replace hEx := hEx.trans hnp.ex
      try replace hI7 := hI7.ext hnp.ex
      try replace hI8 := hI8.ext hnp.ex
      try replace hI9 := hI9.ext hnp.ex
      try replace hIq := hIq.ext hnp.ex
      try replace hbq := hbq.ext hnp.ex
      refine ah ?_
      refine aD (fuel := 7) (rs := [8]) (by kernel_rfl) (by kernel_rfl) rfl ?_
      rw [Go.W.fms]
      refine au (bz (hI9.k (k := 2 * K + 1) (Lb.sub ((la.mul ld).mono (e' := 2 * K) (by omega)) ((lb.mul lc).mono (by omega)))) (i5.ext hEx) (by omega) (by omega)) rfl ?_
      rintro v10 w10 ⟨q, r, rfl, hIq, hIr, hE10⟩
      refine ⟨fun _ h => h.trans hE10, ?_⟩
      obtain ⟨uq, rfl⟩ := hIq.ih
      obtain ⟨ur, rfl⟩ := hIr.ih
      replace hIq := hIq.mono (lo' := w6.heap.size) hEx.size
      replace hEx := hEx.trans hE10
      try replace hbp := hbp.ext hE10
      try replace hbq := hbq.ext hE10
      refine ah ?_
      refine bP (fuel := 3) (by kernel_rfl) (by kernel_rfl) [9, 10, 11, 12] _ _ (by kernel_rfl) ?_
      repeat' (first|refine aR rfl rfl ?_|refine aj rfl ?_|refine ah ?_)
     rotate_left 1
    rotate_left 2
    focus
     refine aH (fun gp wp hnp => ⟨fun _ h => h.trans hnp.ex, ?_⟩)
     have hbp : Blk wp gp 34 (intL false none 0 0) := hnp.blk
     have lop : w6.heap.size ≤ gp := Nat.le_trans hEx.size hnp.lo
     try have hne : gp ≠ gq := (by have := hbq.lt; have := hnp.lo; omega)
     replace hEx := hEx.trans hnp.ex
     try replace hI7 := hI7.ext hnp.ex
     try replace hI8 := hI8.ext hnp.ex
     try replace hI9 := hI9.ext hnp.ex
     try replace hIq := hIq.ext hnp.ex
     try replace hbq := hbq.ext hnp.ex
     refine ah ?_
     refine aD (fuel := 8) (rs := [6]) (by kernel_rfl) (by kernel_rfl) rfl ?_
     rw [Go.W.fms]
     refine au (cx (hI7.k (k := 2 * K) ((la.mul ld).mono (by omega))) (hI8.k (k := 2 * K) ((lb.mul lc).mono (by omega))) (by omega) (by omega)) rfl ?_
     rintro v9 w9 ⟨hI9, hE9⟩
     refine ⟨fun _ h => h.trans hE9, ?_⟩
     obtain ⟨u9, rfl⟩ := hI9.ih
     replace hEx := hEx.trans hE9
     try replace hbp := hbp.ext hE9
     try replace hbq := hbq.ext hE9
     refine ah ?_
     refine aD (fuel := 7) (rs := [8]) (by kernel_rfl) (by kernel_rfl) rfl ?_
     rw [Go.W.fms]
     refine au (bz (hI9.k (k := 2 * K + 1) (Lb.sub ((la.mul ld).mono (e' := 2 * K) (by omega)) ((lb.mul lc).mono (by omega)))) (i5.ext hEx) (by omega) (by omega)) rfl ?_
     rintro v10 w10 ⟨q, r, rfl, hIq, hIr, hE10⟩
     refine ⟨fun _ h => h.trans hE10, ?_⟩
     obtain ⟨uq, rfl⟩ := hIq.ih
     obtain ⟨ur, rfl⟩ := hIr.ih
     replace hIq := hIq.mono (lo' := w6.heap.size) hEx.size
     replace hEx := hEx.trans hE10
     try replace hbp := hbp.ext hE10
     try replace hbq := hbq.ext hE10
     refine ah ?_
     refine bP (fuel := 3) (by kernel_rfl) (by kernel_rfl) [9, 10, 11, 12] _ _ (by kernel_rfl) ?_
     repeat' (first|refine aR rfl rfl ?_|refine aj rfl ?_|refine ah ?_)
    rotate_left 1
   rotate_left 3
   focus
    refine aH (fun gp wp hnp => ⟨fun _ h => h.trans hnp.ex, ?_⟩)
    have hbp : Blk wp gp 34 (intL false none 0 0) := hnp.blk
    have lop : w6.heap.size ≤ gp := Nat.le_trans hEx.size hnp.lo
    try have hne : gp ≠ gq := (by have := hbq.lt; have := hnp.lo; omega)
    replace hEx := hEx.trans hnp.ex
    try replace hI7 := hI7.ext hnp.ex
    try replace hI8 := hI8.ext hnp.ex
    try replace hI9 := hI9.ext hnp.ex
    try replace hIq := hIq.ext hnp.ex
    try replace hbq := hbq.ext hnp.ex
    refine ah ?_
    refine aD (fuel := 9) (rs := [5]) (by kernel_rfl) (by kernel_rfl) rfl ?_
    rw [Go.W.fms]
    refine au (cM (i2.ext hEx) (i3.ext hEx) (by omega)) rfl ?_
    rintro v8 w8 ⟨hI8, hE8⟩
    refine ⟨fun _ h => h.trans hE8, ?_⟩
    obtain ⟨u8, rfl⟩ := hI8.ih
    replace hI7 := hI7.ext hE8
    replace hEx := hEx.trans hE8
    try replace hbp := hbp.ext hE8
    try replace hbq := hbq.ext hE8
    refine ah ?_
    refine aD (fuel := 8) (rs := [6]) (by kernel_rfl) (by kernel_rfl) rfl ?_
    rw [Go.W.fms]
    refine au (cx (hI7.k (k := 2 * K) ((la.mul ld).mono (by omega))) (hI8.k (k := 2 * K) ((lb.mul lc).mono (by omega))) (by omega) (by omega)) rfl ?_
    rintro v9 w9 ⟨hI9, hE9⟩
    refine ⟨fun _ h => h.trans hE9, ?_⟩
    obtain ⟨u9, rfl⟩ := hI9.ih
    replace hEx := hEx.trans hE9
    try replace hbp := hbp.ext hE9
    try replace hbq := hbq.ext hE9
    refine ah ?_
    refine aD (fuel := 7) (rs := [8]) (by kernel_rfl) (by kernel_rfl) rfl ?_
    rw [Go.W.fms]
    refine au (bz (hI9.k (k := 2 * K + 1) (Lb.sub ((la.mul ld).mono (e' := 2 * K) (by omega)) ((lb.mul lc).mono (by omega)))) (i5.ext hEx) (by omega) (by omega)) rfl ?_
    rintro v10 w10 ⟨q, r, rfl, hIq, hIr, hE10⟩
    refine ⟨fun _ h => h.trans hE10, ?_⟩
    obtain ⟨uq, rfl⟩ := hIq.ih
    obtain ⟨ur, rfl⟩ := hIr.ih
    replace hIq := hIq.mono (lo' := w6.heap.size) hEx.size
    replace hEx := hEx.trans hE10
    try replace hbp := hbp.ext hE10
    try replace hbq := hbq.ext hE10
    refine ah ?_
    refine bP (fuel := 3) (by kernel_rfl) (by kernel_rfl) [9, 10, 11, 12] _ _ (by kernel_rfl) ?_
    repeat' (first|refine aR rfl rfl ?_|refine aj rfl ?_|refine ah ?_)
   rotate_left 1
  rotate_left 4
 rotate_left 20
 focus
  refine aH (fun gp wp hnp => ⟨fun _ h => h.trans hnp.ex, ?_⟩)
  have hbp : Blk wp gp 34 (intL false none 0 0) := hnp.blk
  have lop : w6.heap.size ≤ gp := Nat.le_trans hEx.size hnp.lo
  try have hne : gp ≠ gq := (by have := hbq.lt; have := hnp.lo; omega)
  replace hEx := hEx.trans hnp.ex
  try replace hI7 := hI7.ext hnp.ex
  try replace hI8 := hI8.ext hnp.ex
  try replace hI9 := hI9.ext hnp.ex
  try replace hIq := hIq.ext hnp.ex
  try replace hbq := hbq.ext hnp.ex
  refine ah ?_
  refine aD (fuel := 11) (rs := [2, 14]) (by kernel_rfl) (by kernel_rfl) rfl ?_
  simp only [List.forall_mem_cons, List.not_mem_nil, false_implies, implies_true, and_true]
  refine ⟨?_, ?_⟩
  focus
   refine au (cM (i1.ext hEx) (i4.ext hEx) (by omega)) rfl ?_
   rintro v7 w7 ⟨hI7, hE7⟩
   refine ⟨fun _ h => h.trans hE7, ?_⟩
   obtain ⟨u7, rfl⟩ := hI7.ih
   replace hEx := hEx.trans hE7
   try replace hbp := hbp.ext hE7
   try replace hbq := hbq.ext hE7
   refine ah ?_
   refine aD (fuel := 10) (rs := [5, 14]) (by kernel_rfl) (by kernel_rfl) rfl ?_
   simp only [List.forall_mem_cons, List.not_mem_nil, false_implies, implies_true, and_true]
   refine ⟨?_, ?_⟩
   focus
    refine au (cM (i2.ext hEx) (i3.ext hEx) (by omega)) rfl ?_
    rintro v8 w8 ⟨hI8, hE8⟩
    refine ⟨fun _ h => h.trans hE8, ?_⟩
    obtain ⟨u8, rfl⟩ := hI8.ih
    replace hI7 := hI7.ext hE8
    replace hEx := hEx.trans hE8
    try replace hbp := hbp.ext hE8
    try replace hbq := hbq.ext hE8
    refine ah ?_
    refine aD (fuel := 9) (rs := [6, 14]) (by kernel_rfl) (by kernel_rfl) rfl ?_
    simp only [List.forall_mem_cons, List.not_mem_nil, false_implies, implies_true, and_true]
    refine ⟨?_, ?_⟩
    focus
     refine au (cx (hI7.k (k := 2 * K) ((la.mul ld).mono (by omega))) (hI8.k (k := 2 * K) ((lb.mul lc).mono (by omega))) (by omega) (by omega)) rfl ?_
     rintro v9 w9 ⟨hI9, hE9⟩
     refine ⟨fun _ h => h.trans hE9, ?_⟩
     obtain ⟨u9, rfl⟩ := hI9.ih
     replace hEx := hEx.trans hE9
     try replace hbp := hbp.ext hE9
     try replace hbq := hbq.ext hE9
     refine ah ?_
     refine aD (fuel := 8) (rs := [8, 14]) (by kernel_rfl) (by kernel_rfl) rfl ?_
     simp only [List.forall_mem_cons, List.not_mem_nil, false_implies, implies_true, and_true]
     refine ⟨?_, ?_⟩
     focus
      refine au (bz (hI9.k (k := 2 * K + 1) (Lb.sub ((la.mul ld).mono (e' := 2 * K) (by omega)) ((lb.mul lc).mono (by omega)))) (i5.ext hEx) (by omega) (by omega)) rfl ?_
      rintro v10 w10 ⟨q, r, rfl, hIq, hIr, hE10⟩
      refine ⟨fun _ h => h.trans hE10, ?_⟩
      obtain ⟨uq, rfl⟩ := hIq.ih
      obtain ⟨ur, rfl⟩ := hIr.ih
      replace hIq := hIq.mono (lo' := w6.heap.size) hEx.size
      replace hEx := hEx.trans hE10
      try replace hbp := hbp.ext hE10
      try replace hbq := hbq.ext hE10
      refine ah ?_
      refine bP (fuel := 4) (by kernel_rfl) (by kernel_rfl) [9, 10, 11, 12] _ _ (by kernel_rfl) ?_
      repeat' (first|refine aR rfl rfl ?_|refine aj rfl ?_|refine ah ?_)
      refine aD (fuel := 3) (rs := [14]) (by kernel_rfl) (by kernel_rfl) rfl ?_
      rw [Go.W.fms]
      refine aH (fun gq wq hnq => ⟨fun _ h => h.trans hnq.ex, ?_⟩)
      have hbq : Blk wq gq 34 (intL false none 0 0) := hnq.blk
      have loq : w6.heap.size ≤ gq := Nat.le_trans hEx.size hnq.lo
      try have hne : gp ≠ gq := (by have := hbp.lt; have := hnq.lo; omega)
      replace hEx := hEx.trans hnq.ex
      try replace hI7 := hI7.ext hnq.ex
      try replace hI8 := hI8.ext hnq.ex
      try replace hI9 := hI9.ext hnq.ex
      try replace hIq := hIq.ext hnq.ex
      try replace hbp := hbp.ext hnq.ex
      refine ah ?_
     rotate_left 1
     focus
      refine aH (fun gq wq hnq => ⟨fun _ h => h.trans hnq.ex, ?_⟩)
      have hbq : Blk wq gq 34 (intL false none 0 0) := hnq.blk
      have loq : w6.heap.size ≤ gq := Nat.le_trans hEx.size hnq.lo
      try have hne : gp ≠ gq := (by have := hbp.lt; have := hnq.lo; omega)
      replace hEx := hEx.trans hnq.ex
      try replace hI7 := hI7.ext hnq.ex
      try replace hI8 := hI8.ext hnq.ex
      try replace hI9 := hI9.ext hnq.ex
      try replace hIq := hIq.ext hnq.ex
      try replace hbp := hbp.ext hnq.ex
      refine ah ?_
      refine aD (fuel := 7) (rs := [8]) (by kernel_rfl) (by kernel_rfl) rfl ?_
      rw [Go.W.fms]
      refine au (bz (hI9.k (k := 2 * K + 1) (Lb.sub ((la.mul ld).mono (e' := 2 * K) (by omega)) ((lb.mul lc).mono (by omega)))) (i5.ext hEx) (by omega) (by omega)) rfl ?_
      rintro v10 w10 ⟨q, r, rfl, hIq, hIr, hE10⟩
      refine ⟨fun _ h => h.trans hE10, ?_⟩
      obtain ⟨uq, rfl⟩ := hIq.ih
      obtain ⟨ur, rfl⟩ := hIr.ih
      replace hIq := hIq.mono (lo' := w6.heap.size) hEx.size
      replace hEx := hEx.trans hE10
      try replace hbp := hbp.ext hE10
      try replace hbq := hbq.ext hE10
      refine ah ?_
      refine bP (fuel := 3) (by kernel_rfl) (by kernel_rfl) [9, 10, 11, 12] _ _ (by kernel_rfl) ?_
      repeat' (first|refine aR rfl rfl ?_|refine aj rfl ?_|refine ah ?_)
     rotate_left 1
    rotate_left 2
    focus
     refine aH (fun gq wq hnq => ⟨fun _ h => h.trans hnq.ex, ?_⟩)
     have hbq : Blk wq gq 34 (intL false none 0 0) := hnq.blk
     have loq : w6.heap.size ≤ gq := Nat.le_trans hEx.size hnq.lo
     try have hne : gp ≠ gq := (by have := hbp.lt; have := hnq.lo; omega)
     replace hEx := hEx.trans hnq.ex
     try replace hI7 := hI7.ext hnq.ex
     try replace hI8 := hI8.ext hnq.ex
     try replace hI9 := hI9.ext hnq.ex
     try replace hIq := hIq.ext hnq.ex
     try replace hbp := hbp.ext hnq.ex
     refine ah ?_
     refine aD (fuel := 8) (rs := [6]) (by kernel_rfl) (by kernel_rfl) rfl ?_
     rw [Go.W.fms]
     refine au (cx (hI7.k (k := 2 * K) ((la.mul ld).mono (by omega))) (hI8.k (k := 2 * K) ((lb.mul lc).mono (by omega))) (by omega) (by omega)) rfl ?_
     rintro v9 w9 ⟨hI9, hE9⟩
     refine ⟨fun _ h => h.trans hE9, ?_⟩
     obtain ⟨u9, rfl⟩ := hI9.ih
     replace hEx := hEx.trans hE9
     try replace hbp := hbp.ext hE9
     try replace hbq := hbq.ext hE9
     refine ah ?_
     refine aD (fuel := 7) (rs := [8]) (by kernel_rfl) (by kernel_rfl) rfl ?_
     rw [Go.W.fms]
     refine au (bz (hI9.k (k := 2 * K + 1) (Lb.sub ((la.mul ld).mono (e' := 2 * K) (by omega)) ((lb.mul lc).mono (by omega)))) (i5.ext hEx) (by omega) (by omega)) rfl ?_
     rintro v10 w10 ⟨q, r, rfl, hIq, hIr, hE10⟩
     refine ⟨fun _ h => h.trans hE10, ?_⟩
     obtain ⟨uq, rfl⟩ := hIq.ih
     obtain ⟨ur, rfl⟩ := hIr.ih
     replace hIq := hIq.mono (lo' := w6.heap.size) hEx.size
     replace hEx := hEx.trans hE10
     try replace hbp := hbp.ext hE10
     try replace hbq := hbq.ext hE10
     refine ah ?_
     refine bP (fuel := 3) (by kernel_rfl) (by kernel_rfl) [9, 10, 11, 12] _ _ (by kernel_rfl) ?_
     repeat' (first|refine aR rfl rfl ?_|refine aj rfl ?_|refine ah ?_)
    rotate_left 1
   rotate_left 3
   focus
    refine aH (fun gq wq hnq => ⟨fun _ h => h.trans hnq.ex, ?_⟩)
    have hbq : Blk wq gq 34 (intL false none 0 0) := hnq.blk
    have loq : w6.heap.size ≤ gq := Nat.le_trans hEx.size hnq.lo
    try have hne : gp ≠ gq := (by have := hbp.lt; have := hnq.lo; omega)
    replace hEx := hEx.trans hnq.ex
    try replace hI7 := hI7.ext hnq.ex
    try replace hI8 := hI8.ext hnq.ex
    try replace hI9 := hI9.ext hnq.ex
    try replace hIq := hIq.ext hnq.ex
    try replace hbp := hbp.ext hnq.ex
    refine ah ?_
    refine aD (fuel := 9) (rs := [5]) (by kernel_rfl) (by kernel_rfl) rfl ?_
    rw [Go.W.fms]
    refine au (cM (i2.ext hEx) (i3.ext hEx) (by omega)) rfl ?_
    rintro v8 w8 ⟨hI8, hE8⟩
    refine ⟨fun _ h => h.trans hE8, ?_⟩
    obtain ⟨u8, rfl⟩ := hI8.ih
    replace hI7 := hI7.ext hE8
    replace hEx := hEx.trans hE8
    try replace hbp := hbp.ext hE8
    try replace hbq := hbq.ext hE8
    refine ah ?_
    refine aD (fuel := 8) (rs := [6]) (by kernel_rfl) (by kernel_rfl) rfl ?_
    rw [Go.W.fms]
    refine au (cx (hI7.k (k := 2 * K) ((la.mul ld).mono (by omega))) (hI8.k (k := 2 * K) ((lb.mul lc).mono (by omega))) (by omega) (by omega)) rfl ?_
    rintro v9 w9 ⟨hI9, hE9⟩
    refine ⟨fun _ h => h.trans hE9, ?_⟩
    obtain ⟨u9, rfl⟩ := hI9.ih
    replace hEx := hEx.trans hE9
    try replace hbp := hbp.ext hE9
    try replace hbq := hbq.ext hE9
    refine ah ?_
    refine aD (fuel := 7) (rs := [8]) (by kernel_rfl) (by kernel_rfl) rfl ?_
    rw [Go.W.fms]
    refine au (bz (hI9.k (k := 2 * K + 1) (Lb.sub ((la.mul ld).mono (e' := 2 * K) (by omega)) ((lb.mul lc).mono (by omega)))) (i5.ext hEx) (by omega) (by omega)) rfl ?_
    rintro v10 w10 ⟨q, r, rfl, hIq, hIr, hE10⟩
    refine ⟨fun _ h => h.trans hE10, ?_⟩
    obtain ⟨uq, rfl⟩ := hIq.ih
    obtain ⟨ur, rfl⟩ := hIr.ih
    replace hIq := hIq.mono (lo' := w6.heap.size) hEx.size
    replace hEx := hEx.trans hE10
    try replace hbp := hbp.ext hE10
    try replace hbq := hbq.ext hE10
    refine ah ?_
    refine bP (fuel := 3) (by kernel_rfl) (by kernel_rfl) [9, 10, 11, 12] _ _ (by kernel_rfl) ?_
    repeat' (first|refine aR rfl rfl ?_|refine aj rfl ?_|refine ah ?_)
   rotate_left 1
  rotate_left 4
  focus
   refine aH (fun gq wq hnq => ⟨fun _ h => h.trans hnq.ex, ?_⟩)
   have hbq : Blk wq gq 34 (intL false none 0 0) := hnq.blk
   have loq : w6.heap.size ≤ gq := Nat.le_trans hEx.size hnq.lo
   try have hne : gp ≠ gq := (by have := hbp.lt; have := hnq.lo; omega)
   replace hEx := hEx.trans hnq.ex
   try replace hI7 := hI7.ext hnq.ex
   try replace hI8 := hI8.ext hnq.ex
   try replace hI9 := hI9.ext hnq.ex
   try replace hIq := hIq.ext hnq.ex
   try replace hbp := hbp.ext hnq.ex
   refine ah ?_
   refine aD (fuel := 10) (rs := [2]) (by kernel_rfl) (by kernel_rfl) rfl ?_
   rw [Go.W.fms]
   refine au (cM (i1.ext hEx) (i4.ext hEx) (by omega)) rfl ?_
   rintro v7 w7 ⟨hI7, hE7⟩
   refine ⟨fun _ h => h.trans hE7, ?_⟩
   obtain ⟨u7, rfl⟩ := hI7.ih
   replace hEx := hEx.trans hE7
   try replace hbp := hbp.ext hE7
   try replace hbq := hbq.ext hE7
   refine ah ?_
   refine aD (fuel := 9) (rs := [5]) (by kernel_rfl) (by kernel_rfl) rfl ?_
   rw [Go.W.fms]
   refine au (cM (i2.ext hEx) (i3.ext hEx) (by omega)) rfl ?_
   rintro v8 w8 ⟨hI8, hE8⟩
   refine ⟨fun _ h => h.trans hE8, ?_⟩
   obtain ⟨u8, rfl⟩ := hI8.ih
   replace hI7 := hI7.ext hE8
   replace hEx := hEx.trans hE8
   try replace hbp := hbp.ext hE8
   try replace hbq := hbq.ext hE8
   refine ah ?_
   refine aD (fuel := 8) (rs := [6]) (by kernel_rfl) (by kernel_rfl) rfl ?_
   rw [Go.W.fms]
   refine au (cx (hI7.k (k := 2 * K) ((la.mul ld).mono (by omega))) (hI8.k (k := 2 * K) ((lb.mul lc).mono (by omega))) (by omega) (by omega)) rfl ?_
   rintro v9 w9 ⟨hI9, hE9⟩
   refine ⟨fun _ h => h.trans hE9, ?_⟩
   obtain ⟨u9, rfl⟩ := hI9.ih
   replace hEx := hEx.trans hE9
   try replace hbp := hbp.ext hE9
   try replace hbq := hbq.ext hE9
   refine ah ?_
   refine aD (fuel := 7) (rs := [8]) (by kernel_rfl) (by kernel_rfl) rfl ?_
   rw [Go.W.fms]
   refine au (bz (hI9.k (k := 2 * K + 1) (Lb.sub ((la.mul ld).mono (e' := 2 * K) (by omega)) ((lb.mul lc).mono (by omega)))) (i5.ext hEx) (by omega) (by omega)) rfl ?_
   rintro v10 w10 ⟨q, r, rfl, hIq, hIr, hE10⟩
   refine ⟨fun _ h => h.trans hE10, ?_⟩
   obtain ⟨uq, rfl⟩ := hIq.ih
   obtain ⟨ur, rfl⟩ := hIr.ih
   replace hIq := hIq.mono (lo' := w6.heap.size) hEx.size
   replace hEx := hEx.trans hE10
   try replace hbp := hbp.ext hE10
   try replace hbq := hbq.ext hE10
   refine ah ?_
   refine bP (fuel := 3) (by kernel_rfl) (by kernel_rfl) [9, 10, 11, 12] _ _ (by kernel_rfl) ?_
   repeat' (first|refine aR rfl rfl ?_|refine aj rfl ?_|refine ah ?_)
  rotate_left 1
 rotate_left 5
 focus
  refine aH (fun gq wq hnq => ⟨fun _ h => h.trans hnq.ex, ?_⟩)
  have hbq : Blk wq gq 34 (intL false none 0 0) := hnq.blk
  have loq : w6.heap.size ≤ gq := Nat.le_trans hEx.size hnq.lo
  try have hne : gp ≠ gq := (by have := hbp.lt; have := hnq.lo; omega)
  replace hEx := hEx.trans hnq.ex
  try replace hI7 := hI7.ext hnq.ex
  try replace hI8 := hI8.ext hnq.ex
  try replace hI9 := hI9.ext hnq.ex
  try replace hIq := hIq.ext hnq.ex
  try replace hbp := hbp.ext hnq.ex
  refine ah ?_
  refine aD (fuel := 11) (rs := [2, 13]) (by kernel_rfl) (by kernel_rfl) rfl ?_
  simp only [List.forall_mem_cons, List.not_mem_nil, false_implies, implies_true, and_true]
  refine ⟨?_, ?_⟩
  focus
   refine au (cM (i1.ext hEx) (i4.ext hEx) (by omega)) rfl ?_
   rintro v7 w7 ⟨hI7, hE7⟩
   refine ⟨fun _ h => h.trans hE7, ?_⟩
   obtain ⟨u7, rfl⟩ := hI7.ih
   replace hEx := hEx.trans hE7
   try replace hbp := hbp.ext hE7
   try replace hbq := hbq.ext hE7
   refine ah ?_
   refine aD (fuel := 10) (rs := [5, 13]) (by kernel_rfl) (by kernel_rfl) rfl ?_
   simp only [List.forall_mem_cons, List.not_mem_nil, false_implies, implies_true, and_true]
   refine ⟨?_, ?_⟩
   focus
    refine au (cM (i2.ext hEx) (i3.ext hEx) (by omega)) rfl ?_
    rintro v8 w8 ⟨hI8, hE8⟩
    refine ⟨fun _ h => h.trans hE8, ?_⟩
    obtain ⟨u8, rfl⟩ := hI8.ih
    replace hI7 := hI7.ext hE8
    replace hEx := hEx.trans hE8
    try replace hbp := hbp.ext hE8
    try replace hbq := hbq.ext hE8
    refine ah ?_
    refine aD (fuel := 9) (rs := [6, 13]) (by kernel_rfl) (by kernel_rfl) rfl ?_
    simp only [List.forall_mem_cons, List.not_mem_nil, false_implies, implies_true, and_true]
    refine ⟨?_, ?_⟩
    focus
     refine au (cx (hI7.k (k := 2 * K) ((la.mul ld).mono (by omega))) (hI8.k (k := 2 * K) ((lb.mul lc).mono (by omega))) (by omega) (by omega)) rfl ?_
     rintro v9 w9 ⟨hI9, hE9⟩
     refine ⟨fun _ h => h.trans hE9, ?_⟩
     obtain ⟨u9, rfl⟩ := hI9.ih
     replace hEx := hEx.trans hE9
     try replace hbp := hbp.ext hE9
     try replace hbq := hbq.ext hE9
     refine ah ?_
     refine aD (fuel := 8) (rs := [8, 13]) (by kernel_rfl) (by kernel_rfl) rfl ?_
     simp only [List.forall_mem_cons, List.not_mem_nil, false_implies, implies_true, and_true]
     refine ⟨?_, ?_⟩
     focus
      refine au (bz (hI9.k (k := 2 * K + 1) (Lb.sub ((la.mul ld).mono (e' := 2 * K) (by omega)) ((lb.mul lc).mono (by omega)))) (i5.ext hEx) (by omega) (by omega)) rfl ?_
      rintro v10 w10 ⟨q, r, rfl, hIq, hIr, hE10⟩
      refine ⟨fun _ h => h.trans hE10, ?_⟩
      obtain ⟨uq, rfl⟩ := hIq.ih
      obtain ⟨ur, rfl⟩ := hIr.ih
      replace hIq := hIq.mono (lo' := w6.heap.size) hEx.size
      replace hEx := hEx.trans hE10
      try replace hbp := hbp.ext hE10
      try replace hbq := hbq.ext hE10
      refine ah ?_
      refine bP (fuel := 4) (by kernel_rfl) (by kernel_rfl) [9, 10, 11, 12] _ _ (by kernel_rfl) ?_
      repeat' (first|refine aR rfl rfl ?_|refine aj rfl ?_|refine ah ?_)
      refine aD (fuel := 3) (rs := [13]) (by kernel_rfl) (by kernel_rfl) rfl ?_
      rw [Go.W.fms]
      refine aH (fun gp wp hnp => ⟨fun _ h => h.trans hnp.ex, ?_⟩)
      have hbp : Blk wp gp 34 (intL false none 0 0) := hnp.blk
      have lop : w6.heap.size ≤ gp := Nat.le_trans hEx.size hnp.lo
      try have hne : gp ≠ gq := (by have := hbq.lt; have := hnp.lo; omega)
      replace hEx := hEx.trans hnp.ex
      try replace hI7 := hI7.ext hnp.ex
      try replace hI8 := hI8.ext hnp.ex
      try replace hI9 := hI9.ext hnp.ex
      try replace hIq := hIq.ext hnp.ex
      try replace hbq := hbq.ext hnp.ex
      refine ah ?_
     rotate_left 1
     focus
      refine aH (fun gp wp hnp => ⟨fun _ h => h.trans hnp.ex, ?_⟩)
      have hbp : Blk wp gp 34 (intL false none 0 0) := hnp.blk
      have lop : w6.heap.size ≤ gp := Nat.le_trans hEx.size hnp.lo
      try have hne : gp ≠ gq := (by have := hbq.lt; have := hnp.lo; omega)
      replace hEx := hEx.trans hnp.ex
      try replace hI7 := hI7.ext hnp.ex
      try replace hI8 := hI8.ext hnp.ex
      try replace hI9 := hI9.ext hnp.ex
      try replace hIq := hIq.ext hnp.ex
      try replace hbq := hbq.ext hnp.ex
      refine ah ?_
      refine aD (fuel := 7) (rs := [8]) (by kernel_rfl) (by kernel_rfl) rfl ?_
      rw [Go.W.fms]
      refine au (bz (hI9.k (k := 2 * K + 1) (Lb.sub ((la.mul ld).mono (e' := 2 * K) (by omega)) ((lb.mul lc).mono (by omega)))) (i5.ext hEx) (by omega) (by omega)) rfl ?_
      rintro v10 w10 ⟨q, r, rfl, hIq, hIr, hE10⟩
      refine ⟨fun _ h => h.trans hE10, ?_⟩
      obtain ⟨uq, rfl⟩ := hIq.ih
      obtain ⟨ur, rfl⟩ := hIr.ih
      replace hIq := hIq.mono (lo' := w6.heap.size) hEx.size
      replace hEx := hEx.trans hE10
      try replace hbp := hbp.ext hE10
      try replace hbq := hbq.ext hE10
      refine ah ?_
      refine bP (fuel := 3) (by kernel_rfl) (by kernel_rfl) [9, 10, 11, 12] _ _ (by kernel_rfl) ?_
      repeat' (first|refine aR rfl rfl ?_|refine aj rfl ?_|refine ah ?_)
     rotate_left 1
    rotate_left 2
    focus
     refine aH (fun gp wp hnp => ⟨fun _ h => h.trans hnp.ex, ?_⟩)
     have hbp : Blk wp gp 34 (intL false none 0 0) := hnp.blk
     have lop : w6.heap.size ≤ gp := Nat.le_trans hEx.size hnp.lo
     try have hne : gp ≠ gq := (by have := hbq.lt; have := hnp.lo; omega)
     replace hEx := hEx.trans hnp.ex
     try replace hI7 := hI7.ext hnp.ex
     try replace hI8 := hI8.ext hnp.ex
     try replace hI9 := hI9.ext hnp.ex
     try replace hIq := hIq.ext hnp.ex
     try replace hbq := hbq.ext hnp.ex
     refine ah ?_
     refine aD (fuel := 8) (rs := [6]) (by kernel_rfl) (by kernel_rfl) rfl ?_
     rw [Go.W.fms]
     refine au (cx (hI7.k (k := 2 * K) ((la.mul ld).mono (by omega))) (hI8.k (k := 2 * K) ((lb.mul lc).mono (by omega))) (by omega) (by omega)) rfl ?_
     rintro v9 w9 ⟨hI9, hE9⟩
     refine ⟨fun _ h => h.trans hE9, ?_⟩
     obtain ⟨u9, rfl⟩ := hI9.ih
     replace hEx := hEx.trans hE9
     try replace hbp := hbp.ext hE9
     try replace hbq := hbq.ext hE9
     refine ah ?_
     refine aD (fuel := 7) (rs := [8]) (by kernel_rfl) (by kernel_rfl) rfl ?_
     rw [Go.W.fms]
     refine au (bz (hI9.k (k := 2 * K + 1) (Lb.sub ((la.mul ld).mono (e' := 2 * K) (by omega)) ((lb.mul lc).mono (by omega)))) (i5.ext hEx) (by omega) (by omega)) rfl ?_
     rintro v10 w10 ⟨q, r, rfl, hIq, hIr, hE10⟩
     refine ⟨fun _ h => h.trans hE10, ?_⟩
     obtain ⟨uq, rfl⟩ := hIq.ih
     obtain ⟨ur, rfl⟩ := hIr.ih
     replace hIq := hIq.mono (lo' := w6.heap.size) hEx.size
     replace hEx := hEx.trans hE10
     try replace hbp := hbp.ext hE10
     try replace hbq := hbq.ext hE10
     refine ah ?_
     refine bP (fuel := 3) (by kernel_rfl) (by kernel_rfl) [9, 10, 11, 12] _ _ (by kernel_rfl) ?_
     repeat' (first|refine aR rfl rfl ?_|refine aj rfl ?_|refine ah ?_)
    rotate_left 1
   rotate_left 3
   focus
    refine aH (fun gp wp hnp => ⟨fun _ h => h.trans hnp.ex, ?_⟩)
    have hbp : Blk wp gp 34 (intL false none 0 0) := hnp.blk
    have lop : w6.heap.size ≤ gp := Nat.le_trans hEx.size hnp.lo
    try have hne : gp ≠ gq := (by have := hbq.lt; have := hnp.lo; omega)
    replace hEx := hEx.trans hnp.ex
    try replace hI7 := hI7.ext hnp.ex
    try replace hI8 := hI8.ext hnp.ex
    try replace hI9 := hI9.ext hnp.ex
    try replace hIq := hIq.ext hnp.ex
    try replace hbq := hbq.ext hnp.ex
    refine ah ?_
    refine aD (fuel := 9) (rs := [5]) (by kernel_rfl) (by kernel_rfl) rfl ?_
    rw [Go.W.fms]
    refine au (cM (i2.ext hEx) (i3.ext hEx) (by omega)) rfl ?_
    rintro v8 w8 ⟨hI8, hE8⟩
    refine ⟨fun _ h => h.trans hE8, ?_⟩
    obtain ⟨u8, rfl⟩ := hI8.ih
    replace hI7 := hI7.ext hE8
    replace hEx := hEx.trans hE8
    try replace hbp := hbp.ext hE8
    try replace hbq := hbq.ext hE8
    refine ah ?_
    refine aD (fuel := 8) (rs := [6]) (by kernel_rfl) (by kernel_rfl) rfl ?_
    rw [Go.W.fms]
    refine au (cx (hI7.k (k := 2 * K) ((la.mul ld).mono (by omega))) (hI8.k (k := 2 * K) ((lb.mul lc).mono (by omega))) (by omega) (by omega)) rfl ?_
    rintro v9 w9 ⟨hI9, hE9⟩
    refine ⟨fun _ h => h.trans hE9, ?_⟩
    obtain ⟨u9, rfl⟩ := hI9.ih
    replace hEx := hEx.trans hE9
    try replace hbp := hbp.ext hE9
    try replace hbq := hbq.ext hE9
    refine ah ?_
    refine aD (fuel := 7) (rs := [8]) (by kernel_rfl) (by kernel_rfl) rfl ?_
    rw [Go.W.fms]
    refine au (bz (hI9.k (k := 2 * K + 1) (Lb.sub ((la.mul ld).mono (e' := 2 * K) (by omega)) ((lb.mul lc).mono (by omega)))) (i5.ext hEx) (by omega) (by omega)) rfl ?_
    rintro v10 w10 ⟨q, r, rfl, hIq, hIr, hE10⟩
    refine ⟨fun _ h => h.trans hE10, ?_⟩
    obtain ⟨uq, rfl⟩ := hIq.ih
    obtain ⟨ur, rfl⟩ := hIr.ih
    replace hIq := hIq.mono (lo' := w6.heap.size) hEx.size
    replace hEx := hEx.trans hE10
    try replace hbp := hbp.ext hE10
    try replace hbq := hbq.ext hE10
    refine ah ?_
    refine bP (fuel := 3) (by kernel_rfl) (by kernel_rfl) [9, 10, 11, 12] _ _ (by kernel_rfl) ?_
    repeat' (first|refine aR rfl rfl ?_|refine aj rfl ?_|refine ah ?_)
   rotate_left 1
  rotate_left 4
  focus
   refine aH (fun gp wp hnp => ⟨fun _ h => h.trans hnp.ex, ?_⟩)
   have hbp : Blk wp gp 34 (intL false none 0 0) := hnp.blk
   have lop : w6.heap.size ≤ gp := Nat.le_trans hEx.size hnp.lo
   try have hne : gp ≠ gq := (by have := hbq.lt; have := hnp.lo; omega)
   replace hEx := hEx.trans hnp.ex
   try replace hI7 := hI7.ext hnp.ex
   try replace hI8 := hI8.ext hnp.ex
   try replace hI9 := hI9.ext hnp.ex
   try replace hIq := hIq.ext hnp.ex
   try replace hbq := hbq.ext hnp.ex
   refine ah ?_
   refine aD (fuel := 10) (rs := [2]) (by kernel_rfl) (by kernel_rfl) rfl ?_
   rw [Go.W.fms]
   refine au (cM (i1.ext hEx) (i4.ext hEx) (by omega)) rfl ?_
   rintro v7 w7 ⟨hI7, hE7⟩
   refine ⟨fun _ h => h.trans hE7, ?_⟩
   obtain ⟨u7, rfl⟩ := hI7.ih
   replace hEx := hEx.trans hE7
   try replace hbp := hbp.ext hE7
   try replace hbq := hbq.ext hE7
   refine ah ?_
   refine aD (fuel := 9) (rs := [5]) (by kernel_rfl) (by kernel_rfl) rfl ?_
   rw [Go.W.fms]
   refine au (cM (i2.ext hEx) (i3.ext hEx) (by omega)) rfl ?_
   rintro v8 w8 ⟨hI8, hE8⟩
   refine ⟨fun _ h => h.trans hE8, ?_⟩
   obtain ⟨u8, rfl⟩ := hI8.ih
   replace hI7 := hI7.ext hE8
   replace hEx := hEx.trans hE8
   try replace hbp := hbp.ext hE8
   try replace hbq := hbq.ext hE8
   refine ah ?_
   refine aD (fuel := 8) (rs := [6]) (by kernel_rfl) (by kernel_rfl) rfl ?_
   rw [Go.W.fms]
   refine au (cx (hI7.k (k := 2 * K) ((la.mul ld).mono (by omega))) (hI8.k (k := 2 * K) ((lb.mul lc).mono (by omega))) (by omega) (by omega)) rfl ?_
   rintro v9 w9 ⟨hI9, hE9⟩
   refine ⟨fun _ h => h.trans hE9, ?_⟩
   obtain ⟨u9, rfl⟩ := hI9.ih
   replace hEx := hEx.trans hE9
   try replace hbp := hbp.ext hE9
   try replace hbq := hbq.ext hE9
   refine ah ?_
   refine aD (fuel := 7) (rs := [8]) (by kernel_rfl) (by kernel_rfl) rfl ?_
   rw [Go.W.fms]
   refine au (bz (hI9.k (k := 2 * K + 1) (Lb.sub ((la.mul ld).mono (e' := 2 * K) (by omega)) ((lb.mul lc).mono (by omega)))) (i5.ext hEx) (by omega) (by omega)) rfl ?_
   rintro v10 w10 ⟨q, r, rfl, hIq, hIr, hE10⟩
   refine ⟨fun _ h => h.trans hE10, ?_⟩
   obtain ⟨uq, rfl⟩ := hIq.ih
   obtain ⟨ur, rfl⟩ := hIr.ih
   replace hIq := hIq.mono (lo' := w6.heap.size) hEx.size
   replace hEx := hEx.trans hE10
   try replace hbp := hbp.ext hE10
   try replace hbq := hbq.ext hE10
   refine ah ?_
   refine bP (fuel := 3) (by kernel_rfl) (by kernel_rfl) [9, 10, 11, 12] _ _ (by kernel_rfl) ?_
   repeat' (first|refine aR rfl rfl ?_|refine aj rfl ?_|refine ah ?_)
  rotate_left 1
 rotate_left 5
 all_goals
  refine aD (fuel := 2) (rs := [15]) (by kernel_rfl) (by kernel_rfl) rfl ?_
  rw [Go.W.fms]
  refine aF (n := 2) (vs := uq.cells) rfl rfl rfl rfl hbp rfl (fun w13 hc13 hbp' => ⟨fun _ h => h.chg hc13 lop, ?_⟩)
  replace hEx := hEx.chg hc13 lop
  replace hIq := hIq.gbN hbp (cg _ _ _ _) (dx hc13)
  try replace hbq := hbq.chg hc13 (Ne.symm hne)
  refine ah ?_
  refine aD (fuel := 1) (rs := [16]) (by kernel_rfl) (by kernel_rfl) rfl ?_
  rw [Go.W.fms]
  refine aF (n := 2) (vs := ur.cells) rfl rfl rfl rfl hbq rfl (fun w14 hc14 hbq' => ⟨fun _ h => h.chg hc14 loq, ?_⟩)
  replace hEx := hEx.chg hc14 loq
  replace hIq := hIq.gbN hbq (cg _ _ _ _) (dx hc14)
  replace hbp' := hbp'.chg hc14 hne
  refine ah ?_
  refine bP (fuel := 0) (by kernel_rfl) (by kernel_rfl) [17] _ _ (by kernel_rfl) ?_
  repeat' (first|refine aj rfl ?_|refine ah ?_)
  refine bL (by kernel_rfl) ?_
  refine aa ?_
  have hb66 := hb6.ext hEx
  repeat' (first|refine aY (cs := uq.cells) rfl hbp' rfl ?_|refine ak ?_|refine ai rfl ?_)
  refine aF (n := 2) (vs := uq.cells) rfl rfl rfl rfl hb66 rfl (fun w15 hc15 hb15 => tvv ?_)
  repeat' (first|refine aa ?_|refine ah ?_|refine aK ?_)
  exact bo rfl (rc rfl rfl hb15) ⟨(hIq.gbN hb66 (cg _ _ _ _) (dx hc15)).mono s6, (hE.trans hEx).chg hc15 lo6⟩
end Go.Proofs.YtpfhfldehaiokaaGreat
