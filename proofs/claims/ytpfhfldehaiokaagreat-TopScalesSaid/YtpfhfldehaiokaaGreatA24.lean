import Derived.Test.YtpfhfldehaiokaaGreatA18
import Derived.Test.YtpfhfldehaiokaaGreatA23
set_option maxHeartbeats 8000000
namespace Go.W
section
variable {P : Program} {S : World → Prop} {ops : List Oper} {K : Env → World → Prop} {rest : List (Oper × Option Bool)} {ρ : Env} {w : World} {b : Option Bool} {d : Nat} {T T' T'' : TypeId} {pos : String} {af : Array Edge} {k : IntKind} {m m' : Int} {x y : Operand}
theorem iL (hx : ev ρ x = .int k m) (hy : ev ρ y = .int k m') (hd : m' ≤ m) (h : RR P S ops K rest (upd ρ d (.bool true)) w) : RR P S ops K ((⟨some d, .binOp .geq T' x y T'', T, pos, af, none⟩, b) :: rest) ρ w :=
 tC hx hy (by rw [decide_eq_true hd]; exact h)
end
end Go.W
namespace Go.Proofs.YtpfhfldehaiokaaGreat
open Go.W Go.LM Go.LA
theorem wu {x : Int} : 0 ≤ x.sign ↔ 0 ≤ x := by
 rcases Int.lt_trichotomy x 0 with h | h | h
 ·rw [Int.sign_eq_neg_one_of_neg h]; omega
 ·rw [h]; decide
 ·rw [Int.sign_eq_one_of_pos h]; omega
theorem xJ {x : Int} (h : ¬ 0 ≤ x) : x.sign < 0 := by rw [Int.sign_eq_neg_one_of_neg (by omega)]; decide
theorem nd {cn : Bool} {K lo n i j cap : Nat} {w : World} {a : Option Addr} {s : Nat → SD} {A : Mat} {sd : SD} {h : Nat → IH} (hM : MX cn K w a n n s A) (hL : MinL (16 * K + 17) w lo n sd h A) (hn : 1 ≤ n ∧ n ≤ 16) (hi : i < n) (hj : j < n) (hp : ∀ k, k ≤ n → 0 < det k A) (hK : 16 * K + 20 ≤ 4398046511104) :
  CallsR Tryz.prog 78 #[.slice a n cap, .slice sd.a sd.len sd.cap, .int .i64 (i : Int), .int .i64 (j : Int)] w fun v w' => v = .bool (decide (Sizd A i j)) ∧ Ex w w' := by
 have hd := hp (j + 1) (by omega)
 refine aE (args := [_, _, _, _]) Tryz.func78 rfl rfl ?_
 repeat' (first|refine aj rfl ?_|refine aa ?_|refine ak ?_|refine ai rfl ?_|refine ah ?_)
 refine au (bV (z := 2) (by omega) (by omega) _) rfl ?_
 rintro v w1 ⟨hI1, hE1⟩
 refine tvv ?_
 obtain ⟨u1, rfl⟩ := hI1.ih
 repeat' (first|refine aj rfl ?_)
 refine au (fJ (hM.ext hE1) hn hi hj (by omega)) rfl ?_
 rintro v w2 ⟨u2, rfl, hI2, hE2⟩
 refine tvv ?_
 skip
 refine au (bT hI2.k) rfl ?_
 rintro v w3 ⟨hI3, hE3⟩
 refine tvv ?_
 obtain ⟨u3, rfl⟩ := hI3.ih
 have l3 : Lb (16 * K + 17) (((bm A j i j).natAbs : Nat) : Int) := hI2.lb.le (by simp)
 skip
 refine au (bt (p := 1) (((hI1.ext hE2).ext hE3).k (by decide)) (hI3.k l3) (by omega)) rfl ?_
 rintro v w4 ⟨hI4, hE4⟩
 refine tvv ?_
 obtain ⟨u4, rfl⟩ := hI4.ih
 have hE14 := ((hE1.trans hE2).trans hE3).trans hE4
 have hL4 : MinL (16 * K + 17) w4 lo n sd h A := ⟨RowG.ext hL.1 hE14, fun k hk => (hL.2 k hk).ext hE14⟩
 repeat' (first|refine aj rfl ?_|refine aV rfl rfl (by omega) (by omega) ?_)
 refine au (cE (k := j + 1) hL4 (by omega) (by omega) (by omega)) rfl ?_
 rintro v w5 ⟨u5, rfl, hI5, hE5⟩
 refine tvv ?_
 skip
 refine au (eB ((hI4.ext hE5).k (k := 1 + (16 * K + 17)) ((bO (by decide) (by omega) : Lb 1 2).mul l3)) hI5.k) rfl ?_
 rintro v w6 ⟨rfl, hE6⟩
 refine tvv ?_
 have hE16 := (hE14.trans hE5).trans hE6
 by_cases hs : Sizd A i j
 ·have hs' := hs
  unfold Sizd at hs'
  repeat' (first|refine fz rfl rfl (lj.2 (by omega)) ?_|refine aj rfl ?_|refine aa ?_|refine ah ?_|refine aK ?_)
  exact bo rfl (rt rfl) ⟨(show Value.bool true = _ by rw [decide_eq_true hs]), hE16⟩
 ·have hs' := hs
  unfold Sizd at hs'
  repeat' (first|(refine fd rfl rfl (by rw [Int.sign_eq_one_of_pos (by omega)]; omega) ?_)|refine aj rfl ?_|refine aa ?_|refine ah ?_|refine aK ?_)
  exact bo rfl (rt rfl) ⟨(show Value.bool false = _ by rw [decide_eq_false hs]), hE16⟩
theorem mB {cn : Bool} {K lo n i cap : Nat} {w : World} {a : Option Addr} {s : Nat → SD} {A : Mat} {sd : SD} {h : Nat → IH} (hM : MX cn K w a n n s A) (hL : MinL (16 * K + 17) w lo n sd h A) (hn : 1 ≤ n ∧ n ≤ 16) (hi0 : 0 < i) (hi : i < n) (hK : 32 * K + 80 ≤ 4398046511104) :
  CallsR Tryz.prog 83 #[.slice a n cap, .slice sd.a sd.len sd.cap, .int .i64 (i : Int)] w fun v w' => v = .bool (decide (Lovz A i)) ∧ Ex w w' := by
 refine aE (args := [_, _, _]) Tryz.func83 rfl rfl ?_
 obtain ⟨m, rfl⟩ : ∃ m, i = m + 1 := ⟨i - 1, by omega⟩
 have em : ((m + 1 : Nat) : Int) - 1 = (m : Int) := by omega
 have em2 : ((m + 1 : Nat) : Int) + 1 = ((m + 2 : Nat) : Int) := by omega
 repeat' (first|refine aj rfl ?_|refine aa ?_|refine ak ?_|refine ai rfl ?_|refine ah ?_|refine bK rfl rfl (by omega) (by omega) ?_)
 rw [em]
 refine au (fJ hM hn hi (by omega) (by omega)) rfl ?_
 rintro v w1 ⟨u1, rfl, hI1, hE1⟩
 refine tvv ?_
 refine aH (fun g2 w2 hn2 => tvv ?_)
 have hb2 : Blk w2 g2 34 (intL false none 0 0) := hn2.blk
 refine aF (n := 2) (vs := u1.cells) rfl rfl rfl rfl hb2 rfl (fun w3 hc3 hb3 => tvv ?_)
 have hE13 : Ex w1 w3 := hn2.ex.chg hc3 hn2.lo
 have hE3 := hE1.trans hE13
 have hI3 := (hI1.ext hn2.ex).gbN hb2 (cg _ _ _ _) (dx hc3)
 have hL3 : ∀ {w' : World}, Ex w3 w' → MinL (16 * K + 17) w' lo n sd h A := fun e => ⟨RowG.ext hL.1 (hE3.trans e), fun k hk => (hL.2 k hk).ext (hE3.trans e)⟩
 repeat' (first|refine aa ?_|refine ak ?_|refine ah ?_)
 have hEx : Ex w3 w3.drew := (Ex.refl w3).drew
 refine gU (fun w' => Ex w3 w') bD (Ex.refl w3).drew ?_
 refine bP (fuel := 9) (by kernel_rfl) (by kernel_rfl) [1, 2, 3, 5, 6, 7, 10, 11] _ _ (by kernel_rfl) ?_
 repeat' (first|refine aY (cs := u1.cells) (g := g2) rfl (fun _ h => hb3.ext h) rfl ?_|refine aj rfl ?_|refine ah ?_|refine aV rfl rfl (by omega) (by omega) ?_|refine bK rfl rfl (by omega) (by omega) ?_)
 refine aD (fuel := 8) (rs := [0, 15]) (by kernel_rfl) (by kernel_rfl) rfl ?_
 simp only [List.forall_mem_cons, List.not_mem_nil, false_implies, implies_true, and_true]
 refine ⟨?_, ?_⟩
 focus
  refine au (bV (z := 4) (by omega) (by omega) _) rfl ?_
  rintro v4 w4 ⟨hI4, hE4⟩
  refine ⟨fun _ h => h.trans hE4, ?_⟩
  obtain ⟨u4, rfl⟩ := hI4.ih
  replace hEx := hEx.trans hE4
  try replace hbs := hbs.ext hE4
  refine ah ?_
  refine aD (fuel := 7) (rs := [4, 15]) (by kernel_rfl) (by kernel_rfl) rfl ?_
  simp only [List.forall_mem_cons, List.not_mem_nil, false_implies, implies_true, and_true]
  refine ⟨?_, ?_⟩
  focus
   rw [em]
   refine au (cE (k := m) (hL3 hEx) (by omega) (by omega) (by omega)) rfl ?_
   rintro v5 w5 ⟨u5, rfl, hI5, hE5⟩
   refine ⟨fun _ h => h.trans hE5, ?_⟩
   replace hI4 := hI4.ext hE5
   replace hEx := hEx.trans hE5
   try replace hbs := hbs.ext hE5
   refine ah ?_
   refine aD (fuel := 6) (rs := [8, 15]) (by kernel_rfl) (by kernel_rfl) rfl ?_
   simp only [List.forall_mem_cons, List.not_mem_nil, false_implies, implies_true, and_true]
   refine ⟨?_, ?_⟩
   focus
    rw [em2]
    refine au (cE (k := m + 2) (hL3 hEx) (by omega) (by omega) (by omega)) rfl ?_
    rintro v6 w6 ⟨u6, rfl, hI6, hE6⟩
    refine ⟨fun _ h => h.trans hE6, ?_⟩
    replace hI4 := hI4.ext hE6
    replace hI5 := hI5.ext hE6
    replace hEx := hEx.trans hE6
    try replace hbs := hbs.ext hE6
    refine ah ?_
    refine aD (fuel := 5) (rs := [9, 15]) (by kernel_rfl) (by kernel_rfl) rfl ?_
    simp only [List.forall_mem_cons, List.not_mem_nil, false_implies, implies_true, and_true]
    refine ⟨?_, ?_⟩
    focus
     have l7 := hI5.lb.mul hI6.lb
     refine au (bt hI5.k hI6.k (by omega)) rfl ?_
     rintro v7 w7 ⟨hI7, hE7⟩
     refine ⟨fun _ h => h.trans hE7, ?_⟩
     obtain ⟨u7, rfl⟩ := hI7.ih
     replace hI4 := hI4.ext hE7
     replace hEx := hEx.trans hE7
     try replace hbs := hbs.ext hE7
     refine ah ?_
     refine aD (fuel := 4) (rs := [12, 15]) (by kernel_rfl) (by kernel_rfl) rfl ?_
     simp only [List.forall_mem_cons, List.not_mem_nil, false_implies, implies_true, and_true]
     refine ⟨?_, ?_⟩
     focus
      have l8 := hI3.lb.mul hI3.lb
      refine au (bt (hI3.ext hEx).k (hI3.ext hEx).k (by omega)) rfl ?_
      rintro v8 w8 ⟨hI8, hE8⟩
      refine ⟨fun _ h => h.trans hE8, ?_⟩
      obtain ⟨u8, rfl⟩ := hI8.ih
      replace hI4 := hI4.ext hE8
      replace hI7 := hI7.ext hE8
      replace hEx := hEx.trans hE8
      try replace hbs := hbs.ext hE8
      refine ah ?_
      refine aD (fuel := 3) (rs := [13, 15]) (by kernel_rfl) (by kernel_rfl) rfl ?_
      simp only [List.forall_mem_cons, List.not_mem_nil, false_implies, implies_true, and_true]
      refine ⟨?_, ?_⟩
      focus
       have l9 := Lb.add l7 l8
       refine au (cu (hI7.k l7) (hI8.k l8) (by omega) (by omega)) rfl ?_
       rintro v9 w9 ⟨hI9, hE9⟩
       refine ⟨fun _ h => h.trans hE9, ?_⟩
       obtain ⟨u9, rfl⟩ := hI9.ih
       replace hI4 := hI4.ext hE9
       replace hEx := hEx.trans hE9
       try replace hbs := hbs.ext hE9
       refine ah ?_
       refine aD (fuel := 2) (rs := [14, 15]) (by kernel_rfl) (by kernel_rfl) rfl ?_
       simp only [List.forall_mem_cons, List.not_mem_nil, false_implies, implies_true, and_true]
       refine ⟨?_, ?_⟩
       focus
        have l10 := (bO (e := 1) (x := 4) (by decide) (by omega)).mul l9
        refine au (bt (p := 1) (hI4.k (by decide)) (hI9.k l9) (by omega)) rfl ?_
        rintro v10 w10 ⟨hI10, hE10⟩
        refine ⟨fun _ h => h.trans hE10, ?_⟩
        obtain ⟨u10, rfl⟩ := hI10.ih
        replace hEx := hEx.trans hE10
        try replace hbs := hbs.ext hE10
        refine ah ?_
        refine aD (fuel := 1) (rs := [15]) (by kernel_rfl) (by kernel_rfl) rfl ?_
        rw [Go.W.fms]
        refine aH (fun gs ws hns => ⟨fun _ h => h.trans hns.ex, ?_⟩)
        have hbs : Blk ws gs 34 (intL false none 0 0) := hns.blk
        have los : w3.heap.size ≤ gs := Nat.le_trans hEx.size hns.lo
        replace hEx := hEx.trans hns.ex
        try replace hI4 := hI4.ext hns.ex
        try replace hI5 := hI5.ext hns.ex
        try replace hI6 := hI6.ext hns.ex
        try replace hI7 := hI7.ext hns.ex
        try replace hI8 := hI8.ext hns.ex
        try replace hI9 := hI9.ext hns.ex
        try replace hI10 := hI10.ext hns.ex
        refine ah ?_
       rotate_left 1
       focus
        refine aH (fun gs ws hns => ⟨fun _ h => h.trans hns.ex, ?_⟩)
        have hbs : Blk ws gs 34 (intL false none 0 0) := hns.blk
        have los : w3.heap.size ≤ gs := Nat.le_trans hEx.size hns.lo
        replace hEx := hEx.trans hns.ex
        try replace hI4 := hI4.ext hns.ex
        try replace hI5 := hI5.ext hns.ex
        try replace hI6 := hI6.ext hns.ex
        try replace hI7 := hI7.ext hns.ex
        try replace hI8 := hI8.ext hns.ex
        try replace hI9 := hI9.ext hns.ex
        try replace hI10 := hI10.ext hns.ex
        refine ah ?_
        refine aD (fuel := 1) (rs := [14]) (by kernel_rfl) (by kernel_rfl) rfl ?_
        rw [Go.W.fms]
        have l10 := (bO (e := 1) (x := 4) (by decide) (by omega)).mul l9
        refine au (bt (p := 1) (hI4.k (by decide)) (hI9.k l9) (by omega)) rfl ?_
        rintro v10 w10 ⟨hI10, hE10⟩
        refine ⟨fun _ h => h.trans hE10, ?_⟩
        obtain ⟨u10, rfl⟩ := hI10.ih
        replace hEx := hEx.trans hE10
        try replace hbs := hbs.ext hE10
        refine ah ?_
       rotate_left 1
      rotate_left 2
      focus
       refine aH (fun gs ws hns => ⟨fun _ h => h.trans hns.ex, ?_⟩)
       have hbs : Blk ws gs 34 (intL false none 0 0) := hns.blk
       have los : w3.heap.size ≤ gs := Nat.le_trans hEx.size hns.lo
       replace hEx := hEx.trans hns.ex
       try replace hI4 := hI4.ext hns.ex
       try replace hI5 := hI5.ext hns.ex
       try replace hI6 := hI6.ext hns.ex
       try replace hI7 := hI7.ext hns.ex
       try replace hI8 := hI8.ext hns.ex
       try replace hI9 := hI9.ext hns.ex
       try replace hI10 := hI10.ext hns.ex
       refine ah ?_
       refine aD (fuel := 2) (rs := [13]) (by kernel_rfl) (by kernel_rfl) rfl ?_
       rw [Go.W.fms]
       have l9 := Lb.add l7 l8
       refine au (cu (hI7.k l7) (hI8.k l8) (by omega) (by omega)) rfl ?_
       rintro v9 w9 ⟨hI9, hE9⟩
       refine ⟨fun _ h => h.trans hE9, ?_⟩
       obtain ⟨u9, rfl⟩ := hI9.ih
       replace hI4 := hI4.ext hE9
       replace hEx := hEx.trans hE9
       try replace hbs := hbs.ext hE9
       refine ah ?_
       refine aD (fuel := 1) (rs := [14]) (by kernel_rfl) (by kernel_rfl) rfl ?_
       rw [Go.W.fms]
       have l10 := (bO (e := 1) (x := 4) (by decide) (by omega)).mul l9
       refine au (bt (p := 1) (hI4.k (by decide)) (hI9.k l9) (by omega)) rfl ?_
       rintro v10 w10 ⟨hI10, hE10⟩
       refine ⟨fun _ h => h.trans hE10, ?_⟩
       obtain ⟨u10, rfl⟩ := hI10.ih
       replace hEx := hEx.trans hE10
       try replace hbs := hbs.ext hE10
       refine ah ?_
      rotate_left 1
     rotate_left 3
     focus
      refine aH (fun gs ws hns => ⟨fun _ h => h.trans hns.ex, ?_⟩)
      have hbs : Blk ws gs 34 (intL false none 0 0) := hns.blk
      have los : w3.heap.size ≤ gs := Nat.le_trans hEx.size hns.lo
      replace hEx := hEx.trans hns.ex
      try replace hI4 := hI4.ext hns.ex
      try replace hI5 := hI5.ext hns.ex
      try replace hI6 := hI6.ext hns.ex
      try replace hI7 := hI7.ext hns.ex
      try replace hI8 := hI8.ext hns.ex
      try replace hI9 := hI9.ext hns.ex
      try replace hI10 := hI10.ext hns.ex
      refine ah ?_
      refine aD (fuel := 3) (rs := [12]) (by kernel_rfl) (by kernel_rfl) rfl ?_
      rw [Go.W.fms]
      have l8 := hI3.lb.mul hI3.lb
      refine au (bt (hI3.ext hEx).k (hI3.ext hEx).k (by omega)) rfl ?_
      rintro v8 w8 ⟨hI8, hE8⟩
      refine ⟨fun _ h => h.trans hE8, ?_⟩
      obtain ⟨u8, rfl⟩ := hI8.ih
      replace hI4 := hI4.ext hE8
      replace hI7 := hI7.ext hE8
      replace hEx := hEx.trans hE8
      try replace hbs := hbs.ext hE8
      refine ah ?_
      refine aD (fuel := 2) (rs := [13]) (by kernel_rfl) (by kernel_rfl) rfl ?_
      rw [Go.W.fms]
      have l9 := Lb.add l7 l8
      refine au (cu (hI7.k l7) (hI8.k l8) (by omega) (by omega)) rfl ?_
      rintro v9 w9 ⟨hI9, hE9⟩
      refine ⟨fun _ h => h.trans hE9, ?_⟩
      obtain ⟨u9, rfl⟩ := hI9.ih
      replace hI4 := hI4.ext hE9
      replace hEx := hEx.trans hE9
      try replace hbs := hbs.ext hE9
      refine ah ?_
      refine aD (fuel := 1) (rs := [14]) (by kernel_rfl) (by kernel_rfl) rfl ?_
      rw [Go.W.fms]
      have l10 := (bO (e := 1) (x := 4) (by decide) (by omega)).mul l9
      refine au (bt (p := 1) (hI4.k (by decide)) (hI9.k l9) (by omega)) rfl ?_
      rintro v10 w10 ⟨hI10, hE10⟩
      refine ⟨fun _ h => h.trans hE10, ?_⟩
      obtain ⟨u10, rfl⟩ := hI10.ih
      replace hEx := hEx.trans hE10
      try replace hbs := hbs.ext hE10
      refine ah ?_
     rotate_left 1
    rotate_left 4
    focus
     refine aH (fun gs ws hns => ⟨fun _ h => h.trans hns.ex, ?_⟩)
     have hbs : Blk ws gs 34 (intL false none 0 0) := hns.blk
     have los : w3.heap.size ≤ gs := Nat.le_trans hEx.size hns.lo
     replace hEx := hEx.trans hns.ex
     try replace hI4 := hI4.ext hns.ex
     try replace hI5 := hI5.ext hns.ex
     try replace hI6 := hI6.ext hns.ex
     try replace hI7 := hI7.ext hns.ex
     try replace hI8 := hI8.ext hns.ex
     try replace hI9 := hI9.ext hns.ex
     try replace hI10 := hI10.ext hns.ex
     refine ah ?_
     refine aD (fuel := 4) (rs := [9]) (by kernel_rfl) (by kernel_rfl) rfl ?_
     rw [Go.W.fms]
     have l7 := hI5.lb.mul hI6.lb
     refine au (bt hI5.k hI6.k (by omega)) rfl ?_
     rintro v7 w7 ⟨hI7, hE7⟩
     refine ⟨fun _ h => h.trans hE7, ?_⟩
     obtain ⟨u7, rfl⟩ := hI7.ih
     replace hI4 := hI4.ext hE7
     replace hEx := hEx.trans hE7
     try replace hbs := hbs.ext hE7
     refine ah ?_
     refine aD (fuel := 3) (rs := [12]) (by kernel_rfl) (by kernel_rfl) rfl ?_
     rw [Go.W.fms]
     have l8 := hI3.lb.mul hI3.lb
     refine au (bt (hI3.ext hEx).k (hI3.ext hEx).k (by omega)) rfl ?_
     rintro v8 w8 ⟨hI8, hE8⟩
     refine ⟨fun _ h => h.trans hE8, ?_⟩
     obtain ⟨u8, rfl⟩ := hI8.ih
     replace hI4 := hI4.ext hE8
     replace hI7 := hI7.ext hE8
     replace hEx := hEx.trans hE8
     try replace hbs := hbs.ext hE8
     refine ah ?_
     refine aD (fuel := 2) (rs := [13]) (by kernel_rfl) (by kernel_rfl) rfl ?_
     rw [Go.W.fms]
     have l9 := Lb.add l7 l8
     refine au (cu (hI7.k l7) (hI8.k l8) (by omega) (by omega)) rfl ?_
     rintro v9 w9 ⟨hI9, hE9⟩
     refine ⟨fun _ h => h.trans hE9, ?_⟩
     obtain ⟨u9, rfl⟩ := hI9.ih
     replace hI4 := hI4.ext hE9
     replace hEx := hEx.trans hE9
     try replace hbs := hbs.ext hE9
     refine ah ?_
     refine aD (fuel := 1) (rs := [14]) (by kernel_rfl) (by kernel_rfl) rfl ?_
     rw [Go.W.fms]
     have l10 := (bO (e := 1) (x := 4) (by decide) (by omega)).mul l9
     refine au (bt (p := 1) (hI4.k (by decide)) (hI9.k l9) (by omega)) rfl ?_
     rintro v10 w10 ⟨hI10, hE10⟩
     refine ⟨fun _ h => h.trans hE10, ?_⟩
     obtain ⟨u10, rfl⟩ := hI10.ih
     replace hEx := hEx.trans hE10
     try replace hbs := hbs.ext hE10
     refine ah ?_
    rotate_left 1
   rotate_left 5
   focus
    refine aH (fun gs ws hns => ⟨fun _ h => h.trans hns.ex, ?_⟩)
    have hbs : Blk ws gs 34 (intL false none 0 0) := hns.blk
    have los : w3.heap.size ≤ gs := Nat.le_trans hEx.size hns.lo
    replace hEx := hEx.trans hns.ex
    try replace hI4 := hI4.ext hns.ex
    try replace hI5 := hI5.ext hns.ex
    try replace hI6 := hI6.ext hns.ex
    try replace hI7 := hI7.ext hns.ex
    try replace hI8 := hI8.ext hns.ex
    try replace hI9 := hI9.ext hns.ex
    try replace hI10 := hI10.ext hns.ex
    refine ah ?_
    refine aD (fuel := 5) (rs := [8]) (by kernel_rfl) (by kernel_rfl) rfl ?_
    rw [Go.W.fms]
    rw [em2]
    refine au (cE (k := m + 2) (hL3 hEx) (by omega) (by omega) (by omega)) rfl ?_
    rintro v6 w6 ⟨u6, rfl, hI6, hE6⟩
    refine ⟨fun _ h => h.trans hE6, ?_⟩
    replace hI4 := hI4.ext hE6
    replace hI5 := hI5.ext hE6
    replace hEx := hEx.trans hE6
    try replace hbs := hbs.ext hE6
    refine ah ?_
    refine aD (fuel := 4) (rs := [9]) (by kernel_rfl) (by kernel_rfl) rfl ?_
    rw [Go.W.fms]
    have l7 := hI5.lb.mul hI6.lb
    refine au (bt hI5.k hI6.k (by omega)) rfl ?_
    rintro v7 w7 ⟨hI7, hE7⟩
    refine ⟨fun _ h => h.trans hE7, ?_⟩
    obtain ⟨u7, rfl⟩ := hI7.ih
    replace hI4 := hI4.ext hE7
    replace hEx := hEx.trans hE7
    try replace hbs := hbs.ext hE7
    refine ah ?_
    refine aD (fuel := 3) (rs := [12]) (by kernel_rfl) (by kernel_rfl) rfl ?_
    rw [Go.W.fms]
    have l8 := hI3.lb.mul hI3.lb
    refine au (bt (hI3.ext hEx).k (hI3.ext hEx).k (by omega)) rfl ?_
    rintro v8 w8 ⟨hI8, hE8⟩
    refine ⟨fun _ h => h.trans hE8, ?_⟩
    obtain ⟨u8, rfl⟩ := hI8.ih
    replace hI4 := hI4.ext hE8
    replace hI7 := hI7.ext hE8
    replace hEx := hEx.trans hE8
    try replace hbs := hbs.ext hE8
    refine ah ?_
    refine aD (fuel := 2) (rs := [13]) (by kernel_rfl) (by kernel_rfl) rfl ?_
    rw [Go.W.fms]
    have l9 := Lb.add l7 l8
    refine au (cu (hI7.k l7) (hI8.k l8) (by omega) (by omega)) rfl ?_
    rintro v9 w9 ⟨hI9, hE9⟩
    refine ⟨fun _ h => h.trans hE9, ?_⟩
    obtain ⟨u9, rfl⟩ := hI9.ih
    replace hI4 := hI4.ext hE9
    replace hEx := hEx.trans hE9
    try replace hbs := hbs.ext hE9
    refine ah ?_
    refine aD (fuel := 1) (rs := [14]) (by kernel_rfl) (by kernel_rfl) rfl ?_
    rw [Go.W.fms]
    have l10 := (bO (e := 1) (x := 4) (by decide) (by omega)).mul l9
    refine au (bt (p := 1) (hI4.k (by decide)) (hI9.k l9) (by omega)) rfl ?_
    rintro v10 w10 ⟨hI10, hE10⟩
    refine ⟨fun _ h => h.trans hE10, ?_⟩
    obtain ⟨u10, rfl⟩ := hI10.ih
    replace hEx := hEx.trans hE10
    try replace hbs := hbs.ext hE10
    refine ah ?_
   rotate_left 1
  rotate_left 6
  focus
   refine aH (fun gs ws hns => ⟨fun _ h => h.trans hns.ex, ?_⟩)
   have hbs : Blk ws gs 34 (intL false none 0 0) := hns.blk
   have los : w3.heap.size ≤ gs := Nat.le_trans hEx.size hns.lo
   replace hEx := hEx.trans hns.ex
   try replace hI4 := hI4.ext hns.ex
   try replace hI5 := hI5.ext hns.ex
   try replace hI6 := hI6.ext hns.ex
   try replace hI7 := hI7.ext hns.ex
   try replace hI8 := hI8.ext hns.ex
   try replace hI9 := hI9.ext hns.ex
   try replace hI10 := hI10.ext hns.ex
   refine ah ?_
   refine aD (fuel := 6) (rs := [4]) (by kernel_rfl) (by kernel_rfl) rfl ?_
   rw [Go.W.fms]
   rw [em]
   refine au (cE (k := m) (hL3 hEx) (by omega) (by omega) (by omega)) rfl ?_
   rintro v5 w5 ⟨u5, rfl, hI5, hE5⟩
   refine ⟨fun _ h => h.trans hE5, ?_⟩
   replace hI4 := hI4.ext hE5
   replace hEx := hEx.trans hE5
   try replace hbs := hbs.ext hE5
   refine ah ?_
   refine aD (fuel := 5) (rs := [8]) (by kernel_rfl) (by kernel_rfl) rfl ?_
   rw [Go.W.fms]
   rw [em2]
   refine au (cE (k := m + 2) (hL3 hEx) (by omega) (by omega) (by omega)) rfl ?_
   rintro v6 w6 ⟨u6, rfl, hI6, hE6⟩
   refine ⟨fun _ h => h.trans hE6, ?_⟩
   replace hI4 := hI4.ext hE6
   replace hI5 := hI5.ext hE6
   replace hEx := hEx.trans hE6
   try replace hbs := hbs.ext hE6
   refine ah ?_
   refine aD (fuel := 4) (rs := [9]) (by kernel_rfl) (by kernel_rfl) rfl ?_
   rw [Go.W.fms]
   have l7 := hI5.lb.mul hI6.lb
   refine au (bt hI5.k hI6.k (by omega)) rfl ?_
   rintro v7 w7 ⟨hI7, hE7⟩
   refine ⟨fun _ h => h.trans hE7, ?_⟩
   obtain ⟨u7, rfl⟩ := hI7.ih
   replace hI4 := hI4.ext hE7
   replace hEx := hEx.trans hE7
   try replace hbs := hbs.ext hE7
   refine ah ?_
   refine aD (fuel := 3) (rs := [12]) (by kernel_rfl) (by kernel_rfl) rfl ?_
   rw [Go.W.fms]
   have l8 := hI3.lb.mul hI3.lb
   refine au (bt (hI3.ext hEx).k (hI3.ext hEx).k (by omega)) rfl ?_
   rintro v8 w8 ⟨hI8, hE8⟩
   refine ⟨fun _ h => h.trans hE8, ?_⟩
   obtain ⟨u8, rfl⟩ := hI8.ih
   replace hI4 := hI4.ext hE8
   replace hI7 := hI7.ext hE8
   replace hEx := hEx.trans hE8
   try replace hbs := hbs.ext hE8
   refine ah ?_
   refine aD (fuel := 2) (rs := [13]) (by kernel_rfl) (by kernel_rfl) rfl ?_
   rw [Go.W.fms]
   have l9 := Lb.add l7 l8
   refine au (cu (hI7.k l7) (hI8.k l8) (by omega) (by omega)) rfl ?_
   rintro v9 w9 ⟨hI9, hE9⟩
   refine ⟨fun _ h => h.trans hE9, ?_⟩
   obtain ⟨u9, rfl⟩ := hI9.ih
   replace hI4 := hI4.ext hE9
   replace hEx := hEx.trans hE9
   try replace hbs := hbs.ext hE9
   refine ah ?_
   refine aD (fuel := 1) (rs := [14]) (by kernel_rfl) (by kernel_rfl) rfl ?_
   rw [Go.W.fms]
   have l10 := (bO (e := 1) (x := 4) (by decide) (by omega)).mul l9
   refine au (bt (p := 1) (hI4.k (by decide)) (hI9.k l9) (by omega)) rfl ?_
   rintro v10 w10 ⟨hI10, hE10⟩
   refine ⟨fun _ h => h.trans hE10, ?_⟩
   obtain ⟨u10, rfl⟩ := hI10.ih
   replace hEx := hEx.trans hE10
   try replace hbs := hbs.ext hE10
   refine ah ?_
  rotate_left 1
 rotate_left 7
 focus
  refine aH (fun gs ws hns => ⟨fun _ h => h.trans hns.ex, ?_⟩)
  have hbs : Blk ws gs 34 (intL false none 0 0) := hns.blk
  have los : w3.heap.size ≤ gs := Nat.le_trans hEx.size hns.lo
  replace hEx := hEx.trans hns.ex
  try replace hI4 := hI4.ext hns.ex
  try replace hI5 := hI5.ext hns.ex
  try replace hI6 := hI6.ext hns.ex
  try replace hI7 := hI7.ext hns.ex
  try replace hI8 := hI8.ext hns.ex
  try replace hI9 := hI9.ext hns.ex
  try replace hI10 := hI10.ext hns.ex
  refine ah ?_
  refine aD (fuel := 7) (rs := [0]) (by kernel_rfl) (by kernel_rfl) rfl ?_
  rw [Go.W.fms]
  refine au (bV (z := 4) (by omega) (by omega) _) rfl ?_
  rintro v4 w4 ⟨hI4, hE4⟩
  refine ⟨fun _ h => h.trans hE4, ?_⟩
  obtain ⟨u4, rfl⟩ := hI4.ih
  replace hEx := hEx.trans hE4
  try replace hbs := hbs.ext hE4
  refine ah ?_
  refine aD (fuel := 6) (rs := [4]) (by kernel_rfl) (by kernel_rfl) rfl ?_
  rw [Go.W.fms]
  rw [em]
  refine au (cE (k := m) (hL3 hEx) (by omega) (by omega) (by omega)) rfl ?_
  rintro v5 w5 ⟨u5, rfl, hI5, hE5⟩
  refine ⟨fun _ h => h.trans hE5, ?_⟩
  replace hI4 := hI4.ext hE5
  replace hEx := hEx.trans hE5
  try replace hbs := hbs.ext hE5
  refine ah ?_
  refine aD (fuel := 5) (rs := [8]) (by kernel_rfl) (by kernel_rfl) rfl ?_
  rw [Go.W.fms]
  rw [em2]
  refine au (cE (k := m + 2) (hL3 hEx) (by omega) (by omega) (by omega)) rfl ?_
  rintro v6 w6 ⟨u6, rfl, hI6, hE6⟩
  refine ⟨fun _ h => h.trans hE6, ?_⟩
  replace hI4 := hI4.ext hE6
  replace hI5 := hI5.ext hE6
  replace hEx := hEx.trans hE6
  try replace hbs := hbs.ext hE6
  refine ah ?_
  refine aD (fuel := 4) (rs := [9]) (by kernel_rfl) (by kernel_rfl) rfl ?_
  rw [Go.W.fms]
  have l7 := hI5.lb.mul hI6.lb
  refine au (bt hI5.k hI6.k (by omega)) rfl ?_
  rintro v7 w7 ⟨hI7, hE7⟩
  refine ⟨fun _ h => h.trans hE7, ?_⟩
  obtain ⟨u7, rfl⟩ := hI7.ih
  replace hI4 := hI4.ext hE7
  replace hEx := hEx.trans hE7
  try replace hbs := hbs.ext hE7
  refine ah ?_
  refine aD (fuel := 3) (rs := [12]) (by kernel_rfl) (by kernel_rfl) rfl ?_
  rw [Go.W.fms]
  have l8 := hI3.lb.mul hI3.lb
  refine au (bt (hI3.ext hEx).k (hI3.ext hEx).k (by omega)) rfl ?_
  rintro v8 w8 ⟨hI8, hE8⟩
  refine ⟨fun _ h => h.trans hE8, ?_⟩
  obtain ⟨u8, rfl⟩ := hI8.ih
  replace hI4 := hI4.ext hE8
  replace hI7 := hI7.ext hE8
  replace hEx := hEx.trans hE8
  try replace hbs := hbs.ext hE8
  refine ah ?_
  refine aD (fuel := 2) (rs := [13]) (by kernel_rfl) (by kernel_rfl) rfl ?_
  rw [Go.W.fms]
  have l9 := Lb.add l7 l8
  refine au (cu (hI7.k l7) (hI8.k l8) (by omega) (by omega)) rfl ?_
  rintro v9 w9 ⟨hI9, hE9⟩
  refine ⟨fun _ h => h.trans hE9, ?_⟩
  obtain ⟨u9, rfl⟩ := hI9.ih
  replace hI4 := hI4.ext hE9
  replace hEx := hEx.trans hE9
  try replace hbs := hbs.ext hE9
  refine ah ?_
  refine aD (fuel := 1) (rs := [14]) (by kernel_rfl) (by kernel_rfl) rfl ?_
  rw [Go.W.fms]
  have l10 := (bO (e := 1) (x := 4) (by decide) (by omega)).mul l9
  refine au (bt (p := 1) (hI4.k (by decide)) (hI9.k l9) (by omega)) rfl ?_
  rintro v10 w10 ⟨hI10, hE10⟩
  refine ⟨fun _ h => h.trans hE10, ?_⟩
  obtain ⟨u10, rfl⟩ := hI10.ih
  replace hEx := hEx.trans hE10
  try replace hbs := hbs.ext hE10
  refine ah ?_
 rotate_left 1
 all_goals
  refine aD (fuel := 0) (rs := [16]) (by kernel_rfl) (by kernel_rfl) rfl ?_
  rw [Go.W.fms]
  refine aF (n := 2) (vs := u10.cells) rfl rfl rfl rfl hbs rfl (fun w13 hc13 hbs' => ⟨fun _ h => h.chg hc13 los, ?_⟩)
  replace hEx := hEx.chg hc13 los
  replace hI10 := hI10.gbN hbs (cg _ _ _ _) (dx hc13)
  refine ah ?_
  refine bL (by kernel_rfl) ?_
  refine aa ?_
  repeat' (first|refine ak ?_)
  refine eZ (late := [10]) (plan := [(0, none), (2, none), (3, none), (5, none), (6, none), (1, some true), (4, some true), (7, some true), (8, some true), (9, some true), (10, some false), (11, none), (12, none)]) (fun w' => Ex w13 w') bD (by kernel_rfl) (Ex.refl w13).drew ?_
  have hEd := (Ex.refl w13).drew
  repeat' (first|refine aY (cs := u10.cells) (g := gs) rfl (fun _ h => hbs'.ext h) rfl ?_|refine aj rfl ?_)
  refine au (bV (z := 3) (by omega) (by omega) _) rfl ?_
  rintro v w14 ⟨hI14, hE14⟩
  refine ⟨fun _ h => h.trans hE14, ?_⟩
  obtain ⟨u14, rfl⟩ := hI14.ih
  have hEy := hEd.trans hE14
  skip
  refine au (cE (k := m + 1) (hL3 (hEx.trans hEy)) (by omega) (by omega) (by omega)) rfl ?_
  rintro v w15 ⟨u15, rfl, hI15, hE15⟩
  refine ⟨fun _ h => h.trans hE15, ?_⟩
  replace hEy := hEy.trans hE15
  skip
  refine au (cE (k := m + 1) (hL3 (hEx.trans hEy)) (by omega) (by omega) (by omega)) rfl ?_
  rintro v w16 ⟨u16, rfl, hI16, hE16⟩
  refine ⟨fun _ h => h.trans hE16, ?_⟩
  replace hEy := hEy.trans hE16
  have l17 := hI15.lb.mul hI16.lb
  skip
  refine au (bt (hI15.ext hE16).k hI16.k (by omega)) rfl ?_
  rintro v w17 ⟨hI17, hE17⟩
  refine ⟨fun _ h => h.trans hE17, ?_⟩
  obtain ⟨u17, rfl⟩ := hI17.ih
  replace hEy := hEy.trans hE17
  have l18 := (bO (e := 1) (x := 3) (by decide) (by omega)).mul l17
  skip
  refine au (bt (p := 1) ((((hI14.ext hE15).ext hE16).ext hE17).k (by decide)) (hI17.k l17) (by omega)) rfl ?_
  rintro v w18 ⟨hI18, hE18⟩
  refine ⟨fun _ h => h.trans hE18, ?_⟩
  obtain ⟨u18, rfl⟩ := hI18.ih
  replace hEy := hEy.trans hE18
  skip
  refine au (eB ((hI10.ext hEy).k l10) (hI18.k l18)) rfl ?_
  rintro v w19 ⟨rfl, hE19⟩
  refine ⟨fun _ h => h.trans hE19, ?_⟩
  have hEz := ((hE3.trans hEx).trans hEy).trans hE19
  have eL : Lovz A (m + 1) ↔ 0 ≤ 4 * (det m A * det (m + 2) A + bm A m (m + 1) m * bm A m (m + 1) m) - 3 * (det (m + 1) A * det (m + 1) A) := by
   unfold Lovz
   rw [show m + 1 - 1 = m from rfl, show m + 1 + 1 = m + 2 from rfl]; omega
  by_cases hv : Lovz A (m + 1)
  ·repeat' (first|refine iL rfl rfl (wu.2 (eL.1 hv)) ?_|refine aj rfl ?_|refine aa ?_|refine ah ?_|refine aK ?_)
   exact bo rfl (rt rfl) ⟨(show Value.bool true = Value.bool (decide (Lovz A (m + 1))) by rw [decide_eq_true hv]), hEz⟩
  ·repeat' (first|refine ee rfl rfl (xJ (fun e => hv (eL.2 e))) ?_|refine aj rfl ?_|refine aa ?_|refine ah ?_|refine aK ?_)
   exact bo rfl (rt rfl) ⟨(show Value.bool false = Value.bool (decide (Lovz A (m + 1))) by rw [decide_eq_false hv]), hEz⟩
abbrev nearQ (A : Mat) (i j : Nat) : Int := (2 * bm A j i j + det (j + 1) A) / (2 * det (j + 1) A)
def StepV (K n : Nat) (A : Mat) (w : World) (v : Value) (w' : World) : Prop :=
 (v = .tuple #[.slice none 0 0, .bool false] ∧ Ahead A n ∧ Ex w w') ∨
 (∃ i j u, j < i ∧ i < n ∧ Ahead A i ∧ (∀ j', j < j' → j' < i → Sizd A i j') ∧ ¬ Sizd A i j ∧ v = .tuple #[u, .bool true] ∧ RetMO (16 * K + 18) w n n (sizeU i j (-(nearQ A i j))) u w') ∨
 (∃ i u, 0 < i ∧ i < n ∧ Ahead A i ∧ (∀ j', j' < i → Sizd A i j') ∧ ¬ Lovz A i ∧ v = .tuple #[u, .bool true] ∧ RetMO (16 * K + 18) w n n (swapU i) u w')
theorem oG {cn : Bool} {K n cap : Nat} {w : World} {a : Option Addr} {s : Nat → SD} {A : Mat} (hM : MX cn K w a n n s A) (hn : 1 ≤ n ∧ n ≤ 16) (hp : ∀ k, k ≤ n → 0 < det k A) (hK : 64 * K + 200 ≤ 4398046511104) :
  CallsR Tryz.prog 40 #[.slice a n cap] w (StepV K n A w) := by
 refine aE (args := [_]) Tryz.func40 rfl rfl ?_
 repeat' (first|refine aj rfl ?_|refine aa ?_|refine ak ?_|refine ai rfl ?_|refine ah ?_)
 refine au (ij hM hn (by omega)) rfl ?_
 rintro v w1 ⟨sd, h, rfl, hL1, hE1⟩
 refine tvv ?_
 repeat' (first|refine aR rfl rfl ?_|refine aj rfl ?_|refine aa ?_|refine ak ?_|refine ai rfl ?_|refine ah ?_|refine bc rfl ?_)
 refine au (f5 (n := n) hn) rfl ?_
 rintro v w2 ⟨u, rfl, g, gs, cp, rfl, hO2, hE2⟩
 refine tvv ?_
 have hE02 := hE1.trans hE2
 have hL2 : ∀ {w' : World}, Ex w2 w' → MinL (16 * K + 17) w' w.heap.size n sd h A := fun e => ⟨RowG.ext hL1.1 (hE2.trans e), fun k hk => (hL1.2 k hk).ext (hE2.trans e)⟩
 repeat' (first|refine aR rfl rfl ?_|refine aj rfl ?_|refine aa ?_|refine ak ?_|refine ai rfl ?_|refine ah ?_|refine bc rfl ?_|refine ay ?_)
 refine aW (ι := Nat) [2, 3, 8, 9, 23, 24, 25, 26, 27, 28, 29, 30, 31, 32, 33, 34, 35, 36, 37, 38, 39, 40, 41, 42, 43, 44, 45, 46, 47, 48, 49, 50, 51, 52, 53, 54, 55, 56, 57, 58, 59, 60, 61, 62, 63, 64, 65, 66, 67, 68, 69, 70, 71, 72, 73, 74, 75, 76, 77, 78, 79, 80, 81, 82] (fun i => [(23, .int .i64 (i : Int))])
  (fun i w' => i ≤ n ∧ Ex w2 w' ∧ Ahead A i) (fun i => n - i) 0 ⟨rfl, trivial⟩ ⟨by omega, Ex.refl _, fun i h => by omega⟩ ?_
 rintro i ξ w3 ⟨hi, hE3, hA3⟩
 show CW _ _ _ _ (over [(23, .int .i64 (i : Int))] _) w3
 rcases Nat.lt_or_ge i n with hin | hin
 ·repeat' (first|refine bq rfl rfl (by omega) ?_|refine aj rfl ?_|refine aa ?_|refine ak ?_|refine ai rfl ?_|refine ah ?_|refine bK rfl rfl (by omega) (by omega) ?_|refine aA rfl ?_|refine ay ?_|refine aC ?_)
  refine aW (ι := Nat) [2, 3, 9, 28, 29, 30, 31, 32, 33, 34, 35, 36, 37, 38, 39, 40, 41, 42, 43, 44, 45, 46, 47, 48, 49, 50, 51, 52, 53, 54, 55] (fun t => [(9, .int .i64 ((t : Int) - 1))])
   (fun t w' => t ≤ i ∧ Ex w2 w' ∧ ∀ j', t ≤ j' → j' < i → Sizd A i j') (fun t => t) i ⟨rfl, trivial⟩ ⟨by omega, hE3, fun j h h' => by omega⟩ ?_
  rintro t ξ2 w4 ⟨ht, hE4, hs4⟩
  show CW _ _ _ _ (over [(9, .int .i64 ((t : Int) - 1))] _) w4
  have hE04 := hE02.trans hE4
  rcases Nat.eq_zero_or_pos t with ht0 | ht0
  ·subst ht0
   rcases Nat.eq_zero_or_pos i with hi0 | hi0
   ·subst hi0
    repeat' (first|refine ee rfl rfl (by omega) ?_|refine cW rfl rfl (by omega) ?_|refine aj rfl ?_|refine aa ?_|refine ak ?_|refine ai rfl ?_|refine ah ?_|refine bY rfl rfl ?_|refine aV rfl rfl (by omega) (by omega) ?_|refine ao rfl ?_|refine aT ?_|refine aO ?_|refine aU ?_|refine aJ ?_|refine aC ?_)
    refine ⟨⟨1, ⟨by omega, hE4, fun i' hi' => ⟨fun j' hj' => by omega, fun h0 => by omega⟩⟩, by omega, rfl, trivial⟩, (by (repeat (first|exact aG _ _ _|refine aB rfl ?_|refine ax rfl ?_|refine av rfl ?_|refine aw rfl ?_)))⟩
   ·repeat' (first|refine ee rfl rfl (by omega) ?_|refine jp rfl rfl (by omega) ?_|refine aj rfl ?_|refine aa ?_|refine ak ?_|refine ai rfl ?_|refine ah ?_|refine bJ rfl rfl ?_|refine ao rfl ?_|refine aT ?_|refine aO ?_|refine aU ?_)
    refine au (mB (hM.ext hE04) (hL2 hE4) hn hi0 hin (by omega)) rfl ?_
    rintro v w5 ⟨rfl, hE5⟩
    refine tvv ?_
    have hE25 := hE4.trans hE5
    by_cases hv : Lovz A i
    ·rw [decide_eq_true hv]
     repeat' (first|refine aj rfl ?_|refine aa ?_|refine ai rfl ?_|refine ah ?_|refine bJ rfl rfl ?_|refine aV rfl rfl (by omega) (by omega) ?_|refine ao rfl ?_|refine aJ ?_|refine aC ?_)
     refine ⟨⟨i + 1, ⟨hin, hE25, fun i' hi' => ?_⟩, by omega, rfl, trivial⟩, (by (repeat (first|exact aG _ _ _|refine aB rfl ?_|refine ax rfl ?_|refine av rfl ?_|refine aw rfl ?_)))⟩
     by_cases e : i' = i
     ·subst e; exact ⟨fun j' hj' => hs4 j' (by omega) hj', fun _ => hv⟩
     ·exact hA3 i' (by omega)
    ·rw [decide_eq_false hv]
     obtain ⟨m, rfl⟩ : ∃ m, i = m + 1 := ⟨i - 1, by omega⟩
     have ei : ∀ {v : Int}, v = ((m + 1 : Nat) : Int) - 1 → Value.int .i64 v = Value.int .i64 (m : Int) := fun e => by rw [e]; congr 1; omega
     repeat' (first|refine aj rfl ?_|refine aa ?_|refine ak ?_|refine ah ?_|refine bJ rfl rfl ?_|refine aA rfl ?_)
     refine eZ (late := [15, 17]) (plan := [(0, none), (1, none), (2, none), (3, none), (4, none), (5, none), (6, none), (7, none), (8, none), (9, none), (10, none), (11, none), (12, none), (13, none), (14, none), (15, some false), (16, none), (17, some false)]) (fun w' => Ex w5 w') bD (by kernel_rfl) (Ex.refl w5).drew ?_
     have hEd := (Ex.refl w5).drew
     have hO5 := hO2.ext hE25
     repeat' (first|refine az (j := m) (a := some ⟨g, 0, none⟩) rfl (ei rfl) ⟨_, _, rfl⟩ (by omega) ?_|refine aZ (j := m) (a := some ⟨g, 0, none⟩) (n := n) (s := fun k => ⟨some ⟨gs k, 0, none⟩, n, cp k⟩) rfl (fun _ e => (hO5.ext e).top.sl) (by omega) rfl ?_|refine az (j := m + 1) (a := some ⟨g, 0, none⟩) rfl rfl ⟨_, _, rfl⟩ (by omega) ?_|refine aZ (j := m + 1) (a := some ⟨g, 0, none⟩) (n := n) (s := fun k => ⟨some ⟨gs k, 0, none⟩, n, cp k⟩) rfl (fun _ e => (hO5.ext e).top.sl) (by omega) rfl ?_|refine aj rfl ?_|refine bK rfl rfl (by omega) (by omega) ?_)
     have hOd := hO5.ext hEd
     refine di (j := m + 1) (u := ⟨some ⟨gs m, 0, none⟩, n, cp m⟩) rfl rfl hOd.top (by omega) (fun w7 hc7 hT7 => ⟨fun h => (nomatch h), ?_⟩)
     repeat' (first|refine az (j := m) (a := some ⟨g, 0, none⟩) rfl (ei rfl) ⟨_, _, rfl⟩ (by omega) ?_)
     refine di (j := m) (u := ⟨some ⟨gs (m + 1), 0, none⟩, n, cp (m + 1)⟩) rfl rfl hT7 (by omega) (fun w8 hc8 hT8 => ⟨fun h => (nomatch h), ?_⟩)
     have hsw := hOd.swap (i := m + 1) (j := m) hin (by omega) hc7 hc8 hT8
     repeat' (first|refine aj rfl ?_|refine aa ?_|refine ak ?_|refine ai rfl ?_|refine ah ?_|refine aK ?_|refine bf ?_|refine cj ?_)
     have s2 := hE02.size
     have lg := hO2.low
     have s1 := hE1.size
     refine dw rfl (rt rfl) (rt rfl) (.inr (.inr ⟨m + 1, _, hi0, hin, hA3, fun j' hj' => hs4 j' (by omega) hj', hv, rfl, g, _, _, rfl, ((hsw.mono (by omega)).up (by omega)).congr fun x y hx hy => ?_, (((hE02.trans hE25).trans hEd).chg hc7 (by omega)).chg hc8 (by omega)⟩))
     unfold swapU swp2
     rw [show m + 1 - 1 = m from rfl]
     by_cases e1 : x = m + 1
     ·rw [if_pos e1, if_pos e1]
     ·by_cases e2 : x = m
      ·rw [if_neg e1, if_pos e2, if_neg e1, if_pos e2]
      ·rw [if_neg e1, if_neg e2, if_neg e1, if_neg e2]
  ·obtain ⟨j, rfl⟩ : ∃ j, t = j + 1 := ⟨t - 1, by omega⟩
   have ej : (((j + 1 : Nat) : Int) - 1) = (j : Int) := by omega
   rw [ej]
   repeat' (first|refine iL rfl rfl (by omega) ?_|refine aj rfl ?_|refine aa ?_|refine ak ?_|refine ai rfl ?_|refine ah ?_|refine aA rfl ?_|refine ay ?_|refine aC ?_)
   refine au (nd (hM.ext hE04) (hL2 hE4) hn hin (show j < n by omega) hp (by omega)) rfl ?_
   rintro v w5 ⟨rfl, hE5⟩
   refine tvv ?_
   have hE25 := hE4.trans hE5
   by_cases hv : Sizd A i j
   ·rw [decide_eq_true hv]
    repeat' (first|refine aj rfl ?_|refine aa ?_|refine ai rfl ?_|refine ah ?_|refine bK rfl rfl (by omega) (by omega) ?_|refine ao rfl ?_|refine aJ ?_|refine aC ?_)
    refine ⟨⟨j, ⟨by omega, hE25, fun j' h1 h2 => ?_⟩, by omega, rfl, trivial⟩, (by (repeat (first|exact aG _ _ _|refine aB rfl ?_|refine ax rfl ?_|refine av rfl ?_|refine aw rfl ?_)))⟩
    by_cases e : j' = j
    ·subst e; exact hv
    ·exact hs4 j' (by omega) h2
   ·rw [decide_eq_false hv]
    have hE05 := hE02.trans hE25
    have hO5 := hO2.ext hE25
    repeat' (first|refine aj rfl ?_|refine aa ?_|refine ak ?_|refine ah ?_|refine aA rfl ?_)
    refine eZ (late := [17]) (plan := [(0, none), (1, none), (2, none), (3, none), (4, none), (5, none), (6, none), (7, none), (9, none), (10, none), (11, none), (8, some true), (12, some true), (13, some true), (14, some true), (15, some true), (16, none), (17, some false)]) (fun w' => Ex w5 w') bD (by kernel_rfl) (Ex.refl w5).drew ?_
    have hEd := (Ex.refl w5).drew
    repeat' (first|refine az (j := j) (a := some ⟨g, 0, none⟩) rfl rfl ⟨_, _, rfl⟩ (by omega) ?_|refine aZ (j := j) (a := some ⟨g, 0, none⟩) (n := n) (s := fun k => ⟨some ⟨gs k, 0, none⟩, n, cp k⟩) rfl (fun _ e => (hO5.ext e).top.sl) (by omega) rfl ?_|refine aj rfl ?_|refine aV rfl rfl (by omega) (by omega) ?_)
    refine au (fJ ((hM.ext hE05).ext hEd) hn hin (show j < n by omega) (by omega)) rfl ?_
    rintro v w6 ⟨u6, rfl, hI6, hE6⟩
    refine ⟨fun _ e => e.trans hE6, ?_⟩
    have hEy := hEd.trans hE6
    skip
    refine au (cE (k := j + 1) (hL2 (hE25.trans hEy)) (by omega) (by omega) (by omega)) rfl ?_
    rintro v w7 ⟨u7, rfl, hI7, hE7⟩
    refine ⟨fun _ e => e.trans hE7, ?_⟩
    replace hEy := hEy.trans hE7
    have hd := hp (j + 1) (by omega)
    have l6 := hI6.lb
    have l7 := hI7.lb
    skip
    refine au (kh (hI6.ext hE7).k hI7.k hd (by omega)) rfl ?_
    rintro v w8 ⟨x8, y8, rfl, hx8, hy8, hE8⟩
    refine ⟨fun _ e => e.trans hE8, ?_⟩
    replace hEy := hEy.trans hE8
    skip
    refine au (kS (K := 16 * K + 17) ⟨x8, y8, rfl, hx8.k (l6.div _), hy8.k (l7.div _)⟩ (jO hd) (by omega) (by omega)) rfl ?_
    rintro v w9 ⟨hI9, hE9⟩
    refine ⟨fun _ e => e.trans hE9, ?_⟩
    replace hEy := hEy.trans hE9
    have eq : (2 * (bm A j i j / gcdI (bm A j i j) (det (j + 1) A)) + det (j + 1) A / gcdI (bm A j i j) (det (j + 1) A)) / (2 * (det (j + 1) A / gcdI (bm A j i j) (det (j + 1) A))) = nearQ A i j := by
     have hc := iX (p := bm A j i j) hd
     have hg := jO (p := bm A j i j) hd
     unfold nearQ
     generalize bm A j i j / gcdI (bm A j i j) (det (j + 1) A) = P at *
     generalize det (j + 1) A / gcdI (bm A j i j) (det (j + 1) A) = Q at *
     exact pP (by omega) (by omega) (by grind)
    rw [eq] at hI9
    obtain ⟨u9, rfl⟩ := hI9.ih
    have l9 : Lb (16 * K + 18) (nearQ A i j) := by
     have h1 := (gK (l := bm A j i j) hd).1
     have h2 : Lb (16 * K + 18) (((bm A j i j).natAbs : Nat) + 1 : Int) := Lb.add (e := 16 * K + 17) (l6.le (by simp)) (bO (by decide) (by omega))
     exact h2.le (by unfold nearQ; omega)
    skip
    refine au (iA (hI9.k l9)) rfl ?_
    rintro v w10 ⟨hI10, hE10⟩
    refine ⟨fun _ e => e.trans hE10, ?_⟩
    replace hEy := hEy.trans hE10
    obtain ⟨u10, rfl⟩ := hI10.ih
    have hO10 := (hO5.ext hEy).up (show 1 ≤ 16 * K + 18 by omega)
    obtain ⟨hh, hbr, hcr, hEr⟩ := hO10.get (show j < n by omega)
    repeat' (first|refine bE (j := i) (a := some ⟨gs j, 0, none⟩) rfl rfl ⟨_, _, rfl⟩ (by omega) ?_)
    refine eD (j := i) (n := cp j) (u := u10) rfl rfl hbr (by omega) (fun w11 hc11 hb11 => ⟨fun e => (nomatch e), ?_⟩)
    have hO11 := hO10.put (i := j) (j := i) (show j < n by omega) hbr hEr (Ent.of hI10 l9.neg) hc11 hb11
    repeat' (first|refine aj rfl ?_|refine aa ?_|refine ak ?_|refine ai rfl ?_|refine ah ?_|refine aK ?_|refine bf ?_|refine cj ?_)
    have s2 := hE02.size
    have lg := (hO2.row j (by omega)).low
    have s1 := hE1.size
    exact dw rfl (rt rfl) (rt rfl) (.inr (.inl ⟨i, j, _, by omega, hin, hA3, fun j' h1 h2 => hs4 j' (by omega) h2, hv, rfl, g, _, _, rfl, hO11.mono s1, (hE05.trans hEy).chg hc11 (by omega)⟩))
 ·obtain rfl : n = i := by omega
  repeat' (first|refine bp rfl rfl (by omega) ?_|refine aj rfl ?_|refine aa ?_|refine ak ?_|refine ai rfl ?_|refine ah ?_|refine ao rfl ?_|refine aT ?_|refine aO ?_|refine aU ?_|refine aK ?_)
  exact dw rfl (rt rfl) (rt rfl) (.inl ⟨rfl, hA3, hE02.trans hE3⟩)
end Go.Proofs.YtpfhfldehaiokaaGreat
