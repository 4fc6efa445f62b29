import Derived.Test.YtiejljicpinheaaA07
namespace Go.Proofs.Ytiejljicpinheaa
open Go.W Go.LM
def RetQR (w : World) (q r : Nat) (v : Value) (w' : World) : Prop := ∃ a1 c1 l1 a2 c2 l2, v = .tuple #[.slice a1 (List.length l1) c1, .slice a2 (List.length l2) c2] ∧ Limbs w' a1 c1 l1 ∧ Limbs w' a2 c2 l2 ∧ Canon l1 ∧ Canon l2 ∧ natOf l1 = q ∧ natOf l2 = r ∧
 (∀ ad, a1 = some ad → w.heap.size ≤ ad.block) ∧ (∀ ad, a2 = some ad → w.heap.size ≤ ad.block) ∧ Ex w w'
theorem kb {la lb : List Nat} (ha : Lim la) (cb : Canon lb) (h : natOf lb ≤ natOf la) : lb.length ≤ la.length := by
 rcases Nat.lt_or_ge la.length lb.length with h' | h'
 ·have := ez ha cb h'; omega
 ·exact h'
set_option maxHeartbeats 2000000 in
theorem mT {la lb : List Nat} {a b : Option Addr} {c d : Nat} {w : World} (ha : Limbs w a c la) (hb : Limbs w b d lb) (ca : Canon la) (cb : Canon lb) (hpos : 0 < natOf lb) (hlen : la.length < 17592186044416) :
  CallsR Try.prog 72 #[.slice a la.length c, .slice b lb.length d] w (RetQR w (natOf la / natOf lb) (natOf la % natOf lb)) := by
 by_cases hsm : la.length ≤ 2 ∧ natOf lb ≤ natOf la
 ·refine (il ha hb ca cb hsm.1 hpos hsm.2).mono fun v w' h => ?_
  obtain ⟨a1, c1, a2, c2, h1, h2, h3, h4, h5, h6⟩ := h
  exact ⟨a1, c1, _, a2, c2, _, h1, h2, h3, cV _, cV _, dl, dl, h4, h5, h6⟩
 refine aG (args := [_, _]) Try.func72 rfl rfl ?_
 repeat' (first|refine ai rfl ?_|refine aa ?_|refine aj ?_|refine ah rfl ?_|refine ae ?_|refine aB ?_)
 refine aw (dD ha hb ca cb) rfl ?_
 rintro v w1 ⟨rfl, hE1⟩
 refine ⟨fun _ _ => trivial, ?_⟩
 have hcmp : cmpZ (natOf la) (natOf lb) < 0 ↔ natOf la < natOf lb := by
  have := @jv (natOf la) (natOf lb)
  omega
 have ha1 := ha.ext hE1
 have hb1 := hb.ext hE1
 repeat' (first|refine ai rfl ?_|refine aa ?_|refine aj ?_|refine ah rfl ?_|refine ae ?_|refine aY rfl ?_|refine aM rfl (fun hc => ?_) (fun hc => ?_)|refine aJ ?_|refine aF ?_)
 ·
  refine aw (gv ha1) rfl ?_
  rintro v w2 ⟨a2, c2, rfl, hL2, hf2, hE2⟩
  refine ⟨fun _ _ => trivial, ?_⟩
  repeat' (first|refine ai rfl ?_|refine aa ?_|refine ae ?_|refine aK ?_|refine aX ?_|refine b6 ?_)
  have hlt := hcmp.1 (by assumption)
  have s1 := hE1.size
  exact cR rfl (rt rfl) (rt rfl) ⟨none, 0, [], a2, c2, la, rfl, Limbs.nil _ _ _, hL2, rfl, ca, (Nat.div_eq_of_lt hlt).symm, (Nat.mod_eq_of_lt hlt).symm, fun ad e => (nomatch e), fun ad e => by have := hf2 ad e; omega, hE1.trans hE2⟩
 ·have := mt hcmp.2 (by assumption); omega
 all_goals (
  have hge : natOf lb ≤ natOf la := by have := mt hcmp.2 (by assumption); omega
  have hl2 : 2 < la.length := by omega
  have hll := kb ha.lim cb hge
  have hbn : lb ≠ [] := fun e => by rw [e] at hpos; simp [natOf] at hpos
  have hb0 : 1 ≤ lb.length := List.length_pos_iff.2 hbn)
 ·
  have hlb1 : lb.length = 1 := by omega
  refine aw (mS ha1 (by omega)) rfl ?_
  rintro v w2 ⟨g2, c2, rfl, hO2, hE2⟩
  refine ⟨fun _ _ => trivial, ?_⟩
  have hbn0 : natOf lb = lb.getD 0 0 := by
   match lb, hlb1 with
   | [x], _ => simp [natOf]
  have hbl := hb.lim.getD 0
  repeat' (first|(refine aD (j := 0) rfl rfl (hb.sl.plain (by simp; omega)) (by omega) ?_)|refine bE rfl ((hb1.ext hE2).sl) (by omega) ?_|refine ai rfl ?_|refine aa ?_|refine aj ?_|refine ah rfl ?_|refine ae ?_)
  have s1 := hE1.size
  refine aw (iv hO2 ha.lim (b := lb.getD 0 0) (by omega) hbl (by omega)) rfl ?_
  rintro v w3 ⟨L, rfl, hC3, hO3, hL3, hLl, hN3⟩
  refine ⟨fun _ _ => trivial, ?_⟩
  repeat' (first|refine ai rfl ?_|refine aa ?_|refine aj ?_|refine ah rfl ?_|refine ae ?_)
  have hg2 := (hO2.lo _ rfl).1
  have hE3 : Ex w w3 := (hE1.trans hE2).chg hC3 (by simp only at hg2; omega)
  have hlimbs : Limbs w3 (some ⟨g2, 0, none⟩) c2 L := ⟨hO3.sl, by rw [hLl]; exact hO3.cap, hL3, by omega⟩
  rw [← hLl]
  refine aw (bT hlimbs) rfl ?_
  rintro v w4 ⟨rfl, hE4⟩
  refine ⟨fun _ _ => trivial, ?_⟩
  have hm := Nat.mod_lt (natOf la) (show 0 < lb.getD 0 0 by omega)
  repeat' (first|refine gf rfl (by omega) ?_|refine ai rfl ?_)
  refine aw (cZ (n := natOf la % lb.getD 0 0) (by omega) _) rfl ?_
  rintro v w5 ⟨a5, c5, rfl, hL5, hf5, hE5⟩
  refine ⟨fun _ _ => trivial, ?_⟩
  repeat' (first|refine ai rfl ?_|refine aa ?_|refine ae ?_|refine aK ?_|refine aX ?_|refine b6 ?_)
  have s4 := hE3.size
  have s5 := hE4.size
  refine cR rfl (rt rfl) (rt rfl) ⟨_, c2, trimL L, a5, c5, _, rfl, ((hlimbs.ext hE4).ext hE5).trim, hL5, bz _, cV _, ?_, ?_, fun ad e => ?_, fun ad e => by have := hf5 ad e; omega, (hE3.trans hE4).trans hE5⟩
  ·rw [bc, hN3, hbn0]
  ·rw [dl, hbn0]
  ·cases e; simp only at hg2 ⊢; omega
 ·
  obtain ⟨m, hm⟩ : ∃ m, la.length = m + lb.length := ⟨la.length - lb.length, by omega⟩
  obtain ⟨n, hn⟩ : ∃ n, lb.length = n := ⟨_, rfl⟩
  have hn2 : 2 ≤ n := by
   rcases Nat.lt_or_ge n 2 with h | h
   ·exact absurd (show ((lb.length : Nat) : Int) = 1 by omega) (by assumption)
   ·exact h
  have htop0 : 0 < lb.getD (lb.length - 1) 0 := by
   have h1 := ik cb hbn
   have e := cT lb (k := lb.length - 1) (by omega)
   rw [cJ (by omega), List.drop_of_length_le (by omega)] at e
   simp only [natOf, Nat.mul_zero, Nat.add_zero] at e
   have h2 := bL (hb.lim.take (lb.length - 1))
   rw [List.length_take, Nat.min_eq_left (by omega)] at h2
   rcases Nat.eq_zero_or_pos (lb.getD (lb.length - 1) 0) with h | h
   ·rw [h, Nat.mul_zero] at e; omega
   ·exact h
  have htopl := hb.lim.getD (lb.length - 1)
  have hbp := hb.sl.plain (by simp; omega)
  repeat' (first|refine ka (m := lb.length) (m' := 1) rfl rfl (by omega) (by omega) ?_|refine aD (j := lb.length - 1) rfl rfl hbp (by omega) ?_|refine bE rfl hb1.sl (by omega) ?_)
  refine aw (o7 htopl htop0 _) rfl ?_
  rintro v w2 ⟨s, rfl, rfl, hs, ht1, ht2⟩
  refine ⟨fun _ _ => trivial, ?_⟩
  repeat' (first|refine ai rfl ?_|refine aa ?_|refine aj ?_|refine ah rfl ?_|refine ae ?_)
  refine aw (gy hb1 hs (by omega)) rfl ?_
  rintro v w3 ⟨g3, V, rfl, hg3, hB3, hVl, hV, hVN, _, hE3⟩
  refine ⟨fun _ _ => trivial, ?_⟩
  obtain ⟨t1, t2, t3, t4⟩ := mR cb hb.lim hb0 hVl hV hVN ht1 ht2 hs
  repeat' (first|refine gG (n := (lb.length : Int)) rfl rfl (by omega) (by omega) ?_|refine ai rfl ?_|refine aa ?_|refine aj ?_|refine ah rfl ?_|refine ae ?_|refine aY rfl ?_)
  have ha3 := ha1.ext hE3
  refine aw (gy ha3 hs (by omega)) rfl ?_
  rintro v w4 ⟨g4, R, rfl, hg4, hB4, hRl, hR, hRN, _, hE4⟩
  refine ⟨fun _ _ => trivial, ?_⟩
  have q1 : ((m + 1 : Nat) : Int) = (la.length : Int) - (lb.length : Int) + 1 := by omega
  have q2 : ((m : Nat) : Int) = (la.length : Int) - (lb.length : Int) := by omega
  repeat' (first|refine cM rfl rfl (by omega) (by omega) ?_|refine bi rfl rfl (by omega) (by omega) ?_|(rw [← q1])|refine eo (k := .u32) (n := m + 1) rfl rfl (by omega) (by omega) (fun g5 w5 hn5 => ⟨fun _ _ => trivial, ?_⟩)|(rw [← q2])|refine ai rfl ?_|refine aa ?_|refine aj ?_|refine ah rfl ?_|refine ae ?_|refine aY rfl ?_|refine aB ?_)
  have hB5 : Blk w5 g5 94 (limbsL (List.replicate (m + 1) 0)) := hn5.blk
  have s1 := hE1.size
  have s3 := hE3.size
  have s4 := hE4.size
  have s5 := hn5.ex.size
  have l3 := hB3.lt
  have l4 := hB4.lt
  have l5 := hn5.lo
  have d34 : g3 ≠ g4 := by omega
  have d35 : g3 ≠ g5 := by omega
  have d45 : g4 ≠ g5 := by omega
  have hVlt := bL hV
  have hst := DvJ.start (A := natOf la) (D := natOf lb) (V := natOf lb * 2 ^ s) (m := m) (n := lb.length) hRN rfl (by omega) hR hb0 (by rw [← hm]; exact bL ha.lim) t4 hs
  have hV0 : 0 < natOf lb * 2 ^ s := Nat.mul_pos hpos (Nat.two_pow_pos s)
  have hVtl : (V.take lb.length).length = lb.length := by rw [List.length_take]; omega
  refine aW (ι := Nat × List Nat × List Nat) [12, 80, 81, 82, 83, 84, 85, 86, 87, 88, 89, 90, 91, 92, 93, 94, 95, 96] (fun t => [(12, .int .i64 ((t.1 : Int) - 1))])
   (fun t w' => DvJ (natOf la * 2 ^ s) (natOf lb * 2 ^ s) lb.length m t.1 t.2.1 t.2.2 ∧ Blk w' g3 94 (limbsL V) ∧ Blk w' g4 94 (limbsL t.2.1) ∧ Blk w' g5 94 (limbsL t.2.2) ∧ Ex w w') (fun t => t.1)
   (m + 1, R, List.replicate (m + 1) 0) ⟨by show Value.int .i64 (m : Int) = Value.int .i64 (((m + 1 : Nat) : Int) - 1); rw [show ((m + 1 : Nat) : Int) - 1 = (m : Int) by omega], trivial⟩
   ⟨hst, (hB3.ext hE4).ext hn5.ex, hB4.ext hn5.ex, hB5, ((hE1.trans hE3).trans hE4).trans hn5.ex⟩ ?_
  rintro ⟨k, R1, Q1⟩ ξ w6 ⟨hJ, hB3, hB4, hB5, hEx⟩
  simp only at hJ hB4 hB5
  have hkm := hJ.le
  show CW _ _ _ _ (over [(12, .int .i64 ((k : Int) - 1))] _) w6
  repeat' (first|refine ai rfl ?_|refine aa ?_|refine aj ?_|refine ah rfl ?_|refine ae ?_|refine aY rfl ?_|refine bi rfl rfl (by omega) (by omega) ?_|refine aM rfl (fun hc => ?_) (fun hc => ?_)|refine aB ?_|refine aS ?_|refine aL ?_|refine aT ?_|refine aF ?_)
  ·obtain ⟨j, rfl⟩ : ∃ j, k = j + 1 := ⟨k - 1, by omega⟩
   rw [show ((j + 1 : Nat) : Int) - 1 = (j : Int) by omega]
   obtain ⟨p1, p2, p3, p4, p5⟩ := hJ.pre t3
   have hrl := hJ.rl
   have hVL : Limbs w6 (some ⟨g3, 0, none⟩) (lb.length + 1) (V.take lb.length) := ⟨by unfold limbsL; rw [List.map_take]; exact hB3.sl.take _, by omega, hV.take _, by omega⟩
   repeat' (first|refine iP (l := j) (h := j + lb.length + 1) rfl rfl rfl (by omega) (by omega) (by omega) ?_|refine ai rfl ?_)
   rw [show (0 + j * 1 : Nat) = (R1.take j).length by omega, show j + lb.length + 1 - j = lb.length + 1 by omega]
   refine aw (jo (S := (R1.drop j).take (lb.length + 1)) (H := R1.drop (j + (lb.length + 1))) (by rw [← p5]; exact hB4) p3 ((Lim.drop hJ.lr j).take _) hVL hVtl (by omega) t2 (by rw [t1]; exact p1) (fun ad e => by cases e; exact d34)) rfl ?_
   rintro v w7 ⟨S', rfl, hC7, hB7, hSl, hSL, hSN⟩
   refine ⟨fun _ _ => trivial, ?_⟩
   have hQl := hJ.ql
   rw [t1] at hSN ⊢
   repeat' (first|refine aD (j := j) rfl rfl ⟨_, _, rfl⟩ (by omega) ?_|refine dk rfl rfl (hB5.chg hC7 (Ne.symm d45)) (by omega) (fun w8 hc8 hb8 => ⟨fun _ _ => trivial, ?_⟩)|refine ai rfl ?_|refine aa ?_|refine ah rfl ?_|refine ae ?_|refine cM rfl rfl (by omega) (by omega) ?_|refine aJ ?_)
   have sx := hEx.size
   refine ⟨⟨(j, _, _), ⟨hJ.step t3 hV0 hSl hSL hSN, (hB3.chg hC7 d34).chg hc8 d35, hB7.chg hc8 d45, hb8, (hEx.chg hC7 (by omega)).chg hc8 (by omega)⟩, Nat.lt_succ_self j, rfl, trivial⟩, (by (repeat (first|exact aH _ _ _|refine ax rfl ?_|refine av rfl ?_|refine ak rfl ?_|refine ao rfl ?_)))⟩
  ·obtain rfl : k = 0 := by omega
   obtain ⟨f1, f2⟩ := hJ.fin
   rw [Nat.mul_div_mul_right _ _ (Nat.two_pow_pos s)] at f1
   rw [Nat.mul_mod_mul_right] at f2
   have hrl := hJ.rl
   have hql := hJ.ql
   have e4 : la.length + 1 = R1.length := by omega
   rw [e4]
   refine aw (jn hB4 hJ.lr hs (by omega)) rfl ?_
   rintro v w7 ⟨hC7, hB7⟩
   refine ⟨fun _ _ => trivial, ?_⟩
   repeat' (first|refine ai rfl ?_|refine aa ?_|refine aj ?_|refine ah rfl ?_|refine ae ?_)
   have hE7 := hEx.chg hC7 (by omega)
   have hB57 := hB5.chg hC7 (Ne.symm d45)
   have hLQ : Limbs w7 (some ⟨g5, 0, none⟩) (m + 1) Q1 := ⟨hB57.sl, by omega, hJ.lq, by omega⟩
   rw [show m + 1 = Q1.length by omega] at hLQ ⊢
   refine aw (bT hLQ) rfl ?_
   rintro v w8 ⟨rfl, hE8⟩
   refine ⟨fun _ _ => trivial, ?_⟩
   have hsl := j3 s R1
   have hLR : Limbs w8 (some ⟨g4, 0, none⟩) R1.length (shrL s R1) := ⟨(hB7.ext hE8).sl, by omega, mI s R1, by omega⟩
   repeat' (first|refine ai rfl ?_)
   rw [← hsl] at hLR ⊢
   refine aw (bT hLR) rfl ?_
   rintro v w9 ⟨rfl, hE9⟩
   refine ⟨fun _ _ => trivial, ?_⟩
   repeat' (first|refine ai rfl ?_|refine aa ?_|refine ae ?_|refine aK ?_)
   refine cR rfl (rt rfl) (rt rfl) ⟨_, _, trimL Q1, _, _, trimL (shrL s R1), rfl, ((hLQ.ext hE8).ext hE9).trim, (hLR.ext hE9).trim, bz _, bz _, ?_, ?_, fun ad e => ?_, fun ad e => ?_, (hE7.trans hE8).trans hE9⟩
   ·rw [bc, f1]
   ·rw [bc, j4 (by omega) hJ.lr, f2, Nat.mul_div_cancel _ (Nat.two_pow_pos s)]
   ·cases e; simp only; omega
   ·cases e; simp only; omega
end Go.Proofs.Ytiejljicpinheaa
namespace Go.W
structure IH where
 neg : Bool
 sd : SD
abbrev ih0 : IH := ⟨false, sd0⟩
def IH.cells (h : IH) : List Value := [.bool h.neg, .slice h.sd.a h.sd.len h.sd.cap]
def IH.val (h : IH) : Value := .agg h.cells.toArray
def setF {α : Type} (f : Nat → α) (i : Nat) (x : α) : Nat → α := fun j => if j = i then x else f j
theorem aN {α : Type} (f : Nat → α) (i : Nat) (x : α) : setF f i x i = x := by simp [setF]
theorem aQ {α : Type} (f : Nat → α) {i j : Nat} (x : α) (h : j ≠ i) : setF f i x j = f j := by simp [setF, h]
def rowC (n : Nat) (h : Nat → IH) : List Value := (List.range n).flatMap fun i => (h i).cells
def topC (n : Nat) (s : Nat → SD) : List Value := (List.range n).map fun i => (s i).val
theorem iW (h : Nat → IH) : rowC 0 h = [] := rfl
theorem cQ (n : Nat) (h : Nat → IH) : rowC (n + 1) h = rowC n h ++ (h n).cells := by
 unfold rowC; rw [List.range_succ, List.flatMap_append]; simp
theorem bQ : ∀ (n : Nat) (h : Nat → IH), (rowC n h).length = n * 2
 | 0, _ => rfl
 | n + 1, h => by rw [cQ, List.length_append, bQ n h]; simp [IH.cells]; omega
theorem fO {n : Nat} {h h' : Nat → IH} (e : ∀ i, i < n → h i = h' i) : rowC n h = rowC n h' := by
 induction n with
 | zero => rfl
 | succ n ih => rw [cQ, cQ, ih (fun i hi => e i (by omega)), e n (by omega)]
theorem iw : ∀ {n : Nat} {h : Nat → IH} {i : Nat}, i < n → (rowC n h)[i * 2]? = some (.bool (h i).neg) ∧ (rowC n h)[i * 2 + 1]? = some (.slice (h i).sd.a (h i).sd.len (h i).sd.cap)
 | n + 1, h, i, hi => by
  have hl := bQ n h
  rw [cQ]
  by_cases hn : i < n
  ·rw [List.getElem?_append_left (by omega), List.getElem?_append_left (by omega)]
   exact iw hn
  ·obtain rfl : i = n := by omega
   rw [List.getElem?_append_right (by omega), List.getElem?_append_right (by omega), hl]
   simp [IH.cells]
theorem kd : ∀ {n : Nat} {h : Nat → IH} {i : Nat} (x : IH), i < n → (rowC n h).take (i * 2) ++ x.cells ++ (rowC n h).drop (i * 2 + 2) = rowC n (setF h i x)
 | n + 1, h, i, x, hi => by
  have hl := bQ n h
  have hc : ∀ y : IH, y.cells.length = 2 := fun _ => rfl
  rw [cQ, cQ]
  by_cases hn : i < n
  ·rw [List.take_append_of_le_length (by omega), List.drop_append_of_le_length (by omega), ← kd x hn, aQ h x (by omega)]
   simp only [List.append_assoc]
  ·obtain rfl : i = n := by omega
   rw [← hl, List.take_left, List.drop_eq_nil_of_le (by simp [hl, hc]), List.append_nil, aN,
    fO (h' := h) (fun j hj => aQ h x (by omega))]
theorem kN {n : Nat} {h : Nat → IH} {v : Value} (hv : v ∈ rowC n h) : (∃ b, v = .bool b) ∨ ∃ a l c, v = .slice a l c := by
 unfold rowC at hv
 rw [List.mem_flatMap] at hv
 obtain ⟨i, _, hi⟩ := hv
 simp only [IH.cells, List.mem_cons, List.not_mem_nil, or_false] at hi
 rcases hi with e | e
 ·exact .inl ⟨_, e⟩
 ·exact .inr ⟨_, _, _, e⟩
theorem ke (n : Nat) (h : Nat → IH) : (rowC n h).all Value.oneCell' = true := by
 rw [List.all_eq_true]; intro v hv
 rcases kN hv with ⟨b, rfl⟩ | ⟨a, l, c, rfl⟩ <;> rfl
theorem kO (n : Nat) : (madeCells (Value.cells (.agg #[.bool false, .slice none 0 0])) (n * 2)).toList = rowC n fun _ => ih0 := by
 induction n with
 | zero => simp [madeCells, iW]
 | succ n ih =>
  rw [cQ, ← ih]
  simp only [madeCells, Array.toList_map, Array.toList_range]
  rw [show (n + 1) * 2 = n * 2 + 1 + 1 by omega, List.range_succ, List.range_succ]
  simp only [List.map_append, List.append_assoc, List.map_cons, List.map_nil, List.cons_append, List.nil_append]
  have a1 : n * 2 % 2 = 0 := by omega
  have a2 : (n * 2 + 1) % 2 = 1 := by omega
  simp [a1, a2, IH.cells, Value.cells]
theorem kg (n : Nat) : (Builtin.zeroCells (Value.cells (.agg #[.bool false, .slice none 0 0])) n).toList = rowC n fun _ => ih0 := kO n
theorem bO (n : Nat) (s : Nat → SD) : (topC n s).length = n := by simp [topC]
theorem bV {n : Nat} {s s' : Nat → SD} (e : ∀ i, i < n → s i = s' i) : topC n s = topC n s' :=
 List.map_congr_left fun i hi => by rw [e i (List.mem_range.1 hi)]
theorem fD {n : Nat} {s : Nat → SD} {i : Nat} (hi : i < n) : (topC n s)[i]? = some (s i).val := by
 simp [topC, hi]
theorem qE {n : Nat} {s : Nat → SD} {i : Nat} (x : SD) : (topC n s).set i x.val = topC n (setF s i x) := by
 refine List.ext_getElem? fun j => ?_
 by_cases hj : j < n
 ·by_cases h : j = i
  ·subst h
   rw [List.getElem?_set_self (by rw [bO]; omega), fD hj, aN]
  ·rw [List.getElem?_set_ne (fun e => h e.symm), fD hj, fD hj, aQ s x h]
 ·rw [List.getElem?_eq_none (by rw [List.length_set, bO]; omega), List.getElem?_eq_none (by rw [bO]; omega)]
theorem mU (n : Nat) (s : Nat → SD) : (topC n s).all Value.oneCell' = true := by
 rw [List.all_eq_true]; intro v hv
 simp only [topC, List.mem_map] at hv
 obtain ⟨i, _, rfl⟩ := hv; rfl
theorem kQ {n : Nat} {s : Nat → SD} {v : Value} (hv : v ∈ topC n s) : ∃ a l c, v = .slice a l c := by
 simp only [topC, List.mem_map] at hv
 obtain ⟨i, _, rfl⟩ := hv; exact ⟨_, _, _, rfl⟩
theorem o8 (n : Nat) : (List.replicate n sd0).map SD.val = topC n fun _ => sd0 := by
 simp [topC, List.map_const']
theorem Blk.at {w : World} {g T j : Nat} {cs : List Value} (h : Blk w g T cs) : w.cell? ⟨g, j, none⟩ = cs[j]? := by
 unfold Blk at h; simp [World.cell?, h]
theorem Blk.mem {w : World} {g T j : Nat} {cs : List Value} {v : Value} (h : Blk w g T cs) (hv : w.cell? ⟨g, j, none⟩ = some v) : v ∈ cs := by
 rw [h.at] at hv; exact List.mem_of_getElem? hv
theorem Sl.off {w : World} {a : Option Addr} {vs cs : List Value} {g T : Nat} (h : Sl w a vs) (hb : Blk w g T cs) {j : Nat} (hj : j < vs.length) (hn : vs.getD j undef ∉ cs) : ∀ ad, a = some ad → ad.block ≠ g := by
 rintro ad rfl e
 obtain ⟨g', o, h'⟩ := h.plain (by omega)
 cases h'
 simp only at e
 subst e
 exact hn (hb.mem (h.get j hj))
section
variable {P : Program} {S : World → Prop} {ops : List Oper} {K : Env → World → Prop} {rest : List (Oper × Option Bool)} {ρ : Env} {w : World} {b : Option Bool} {kf : Bool} {d : Nat} {dst : Option Nat} {T T' : TypeId} {pos : String} {af : Array Edge}
theorem nU {x y : Operand} {k : IntKind} {m m' : Int} {T'' : TypeId} (hx : ev ρ x = .int k m) (hy : ev ρ y = .int k m') (hd : m' < m) (h : RR P S ops K rest (upd ρ d (.bool false)) w) : RR P S ops K ((⟨some d, .binOp .leq T' x y T'', T, pos, af, none⟩, b) :: rest) ρ w :=
 r8 hx hy (by rw [decide_eq_false (by omega)]; exact h)
theorem et {T1 E y n : Nat} {x1 x2 : Operand} [hT : Slc P T1 E 2 y] [hz : Zro P E (.agg #[.bool false, .slice none 0 0])] (h1 : ev ρ x1 = .int .i64 n) (h2 : ev ρ x2 = .int .i64 n) (hb : y * n ≤ 281474976710656) (hm : n ≤ 9223372036854775807)
  (h : ∀ g w', New w w' g E (rowC n fun _ => ih0) → (kf = true → S w → S w') ∧ RR P S ops K rest (upd ρ d (.slice (some ⟨g, 0, none⟩) n n)) w') :
  RR P S ops K ((⟨some d, .makeSlice T1 x1 x2, T, pos, af, none⟩, some kf) :: rest) ρ w :=
 pU h1 h2 hb hm (fun g w' hn => h g w' (by rw [← kO]; exact hn))
theorem dE {T1 E y n : Nat} {x1 x2 : Operand} [hT : Slc P T1 E 1 y] [hz : Zro P E (.slice none 0 0)] (h1 : ev ρ x1 = .int .i64 n) (h2 : ev ρ x2 = .int .i64 n) (hb : y * n ≤ 281474976710656) (hm : n ≤ 9223372036854775807)
  (h : ∀ g w', New w w' g E (topC n fun _ => sd0) → (kf = true → S w → S w') ∧ RR P S ops K rest (upd ρ d (.slice (some ⟨g, 0, none⟩) n n)) w') :
  RR P S ops K ((⟨some d, .makeSlice T1 x1 x2, T, pos, af, none⟩, some kf) :: rest) ρ w :=
 rr h1 h2 hb hm (fun g w' hn => h g w' (by rw [← o8]; exact hn))
theorem bj {x ix : Operand} {a : Option Addr} {l c E y j : Nat} {k : IntKind} [hT : Slc P T' E 2 y] (hx : ev ρ x = .slice a l c) (hi : ev ρ ix = .int k (j : Int)) (ha : W.plain a)
  (h2 : j < l) (h : RR P S ops K rest (upd ρ d (.pointer (some (elt a (j * 2))))) w) :
  RR P S ops K ((⟨some d, .indexAddr T' x ix, T, pos, af, none⟩, b) :: rest) ρ w :=
 f6 hx hi ha (by omega) (by omega) (by simpa using h)
theorem bD {x : Operand} {T1 : TypeId} {a : Option Addr} {j n : Nat} {f : Nat → IH} [Agg P T1 2] (hx : ev ρ x = .pointer (some (elt a (j * 2)))) (hs : Rd b S w fun w' => Sl w' a (rowC n f)) (hp : W.plain a) (hj : j < n)
  (h : RR P S ops K rest (upd ρ d (f j).val) w) : RR P S ops K ((⟨some d, .load T1 x, T, pos, af, none⟩, b) :: rest) ρ w := by
 obtain ⟨g, o, rfl⟩ := hp
 refine oo (g := g) (o := o + j * 2) (vs := (f j).cells) (by rw [hx]; rfl) rfl (hs.imp fun w' hs => ?_) h
 have hl := bQ n f
 obtain ⟨g1, g2⟩ := iw (h := f) hj
 intro i hi
 have hi2 : i < 2 := hi
 have := hs.get (j * 2 + i) (by omega)
 simp only [elt] at this
 rw [Nat.add_assoc, this, List.getD_eq_getElem?_getD]
 rcases i with _ | _ | i
 ·rw [Nat.add_zero, g1]; rfl
 ·rw [g2]; rfl
 ·omega
theorem cw {x : Operand} {T1 : TypeId} {a : Option Addr} {j n : Nat} {s : Nat → SD} [Scal P T1] (hx : ev ρ x = .pointer (some (elt a j))) (hs : Rd b S w fun w' => Sl w' a (topC n s)) (hj : j < n)
  (h : RR P S ops K rest (upd ρ d (.slice (s j).a (s j).len (s j).cap)) w) : RR P S ops K ((⟨some d, .load T1 x, T, pos, af, none⟩, b) :: rest) ρ w :=
 fI hx (hs.imp fun w' hs => by
  have := hs.get j (by rw [bO]; exact hj)
  rw [this, List.getD_eq_getElem?_getD, fD hj]; rfl) h
theorem aZ {x : Operand} {T1 : TypeId} {a a1 : Option Addr} {j n l1 c1 : Nat} {s : Nat → SD} [Scal P T1] (hx : ev ρ x = .pointer (some (elt a j))) (hs : Rd b S w fun w' => Sl w' a (topC n s)) (hj : j < n) (hv : s j = ⟨a1, l1, c1⟩)
  (h : RR P S ops K rest (upd ρ d (.slice a1 l1 c1)) w) : RR P S ops K ((⟨some d, .load T1 x, T, pos, af, none⟩, b) :: rest) ρ w :=
 cw hx hs hj (by rw [hv]; exact h)
theorem cF {x y : Operand} {T1 : TypeId} {g j n Tb : Nat} {f : Nat → IH} {u : IH} [hT : Agg P T1 2] (hx : ev ρ x = .pointer (some (elt (some ⟨g, 0, none⟩) (j * 2)))) (hy : ev ρ y = u.val)
  (hb : Blk w g Tb (rowC n f)) (hj : j < n)
  (h : ∀ w', Chg g w w' → Blk w' g Tb (rowC n (setF f j u)) → (kf = true → S w → S w') ∧ RR P S ops K rest ρ w') :
  RR P S ops K ((⟨none, .store T1 x y, T, pos, af, none⟩, some kf) :: rest) ρ w :=
 ml (n := 2) (o := j * 2) (vs := u.cells) (by rw [hx]; simp [elt]) hy rfl rfl hb (by rw [bQ]; omega) (fun w' hc hb' => h w' hc (by
  rw [← kd u hj]; exact hb'))
theorem cg {x y : Operand} {T1 : TypeId} {g j n Tb : Nat} {s : Nat → SD} {u : SD} [hT : Scal P T1] (hx : ev ρ x = .pointer (some (elt (some ⟨g, 0, none⟩) j))) (hy : ev ρ y = .slice u.a u.len u.cap)
  (hb : Blk w g Tb (topC n s)) (hj : j < n)
  (h : ∀ w', Chg g w w' → Blk w' g Tb (topC n (setF s j u)) → (kf = true → S w → S w') ∧ RR P S ops K rest ρ w') :
  RR P S ops K ((⟨none, .store T1 x y, T, pos, af, none⟩, some kf) :: rest) ρ w :=
 eG (v := u.val) hx hy rfl hb (by rw [bO]; exact hj) (fun w' hc hb' => h w' hc (by rw [← qE]; exact hb'))
end
end Go.W
namespace Go.W
def RowG (w : World) (lo E n : Nat) (s : SD) (h : Nat → IH) : Prop :=
 s.len = n ∧ ((s = sd0 ∧ n = 0) ∨ ∃ g, s.a = some ⟨g, 0, none⟩ ∧ lo ≤ g ∧ n ≤ s.cap ∧ s.cap ≤ maxLen ∧ Blk w g E (rowC s.cap h))
theorem RowG.nil (w : World) (lo E : Nat) (h : Nat → IH) : RowG w lo E 0 sd0 h := ⟨rfl, .inl ⟨rfl, rfl⟩⟩
theorem RowG.gb {w w' : World} {lo E n : Nat} {s : SD} {h : Nat → IH} {r : Option Nat} (hR : RowG w lo E n s h) (hg : w.grownBy w' r) (hne : ∀ ad, s.a = some ad → r ≠ some ad.block) : RowG w' lo E n s h := by
 refine ⟨hR.1, ?_⟩
 rcases hR.2 with h0 | ⟨g, h1, h2, h3, h4, h5⟩
 ·exact .inl h0
 ·exact .inr ⟨g, h1, h2, h3, h4, h5.gb hg (hne _ h1)⟩
theorem RowG.ext {w w' : World} {lo E n : Nat} {s : SD} {h : Nat → IH} (hR : RowG w lo E n s h) (e : Ex w w') : RowG w' lo E n s h := hR.gb (kA e) (fun _ _ h => by cases h)
theorem o9 {n m : Nat} {h : Nat → IH} (hm : n ≤ m) : (rowC m h).take (n * 2) = rowC n h := by
 obtain ⟨k, rfl⟩ : ∃ k, m = n + k := ⟨m - n, by omega⟩
 clear hm
 induction k with
 | zero => rw [Nat.add_zero, List.take_of_length_le (by rw [bQ]; omega)]
 | succ k ih => rw [← Nat.add_assoc, cQ, List.take_append_of_le_length (by rw [bQ]; omega), ih]
theorem Sl.row {w : World} {a : Option Addr} {n m : Nat} {h : Nat → IH} (hs : Sl w a (rowC m h)) (hm : n ≤ m) : Sl w a (rowC n h) := by
 rw [← o9 hm]; exact hs.take _
theorem ee {n m : Nat} {f g : Nat → IH} : rowC n f ++ rowC m g = rowC (n + m) fun i => if i < n then f i else g (i - n) := by
 induction m with
 | zero => rw [iW, List.append_nil, Nat.add_zero]; exact fO fun i hi => by rw [if_pos hi]
 | succ m ih =>
  rw [← Nat.add_assoc, cQ, cQ, ← ih, List.append_assoc, if_neg (by omega), Nat.add_sub_cancel_left]
theorem pc (x : IH) : x.cells = rowC 1 fun _ => x := by simp [rowC]
theorem jh {P : Program} {w : World} {lo E y t ty n : Nat} {s : SD} {h : Nat → IH} {i0 : TypeInfo} {x : IH} {ga : Nat} (ht : P.underlying t = some (.slice E)) (hi : P.info? E = some i0) (hz : i0.zero = some (.agg #[.bool false, .slice none 0 0])) (hsz : i0.size = 2) (hby : i0.bytes = y)
  (hR : RowG w lo E n s h) (hx : Sl w (some ⟨ga, 0, none⟩) x.cells) (hm : n + 1 ≤ 9223372036854775807) (hb : (n + 1) * y ≤ 140737488355328) (hlo : lo ≤ w.heap.size) :
  ∃ s' w' h', (Builtin.append_ #[t, t] ty #[.slice s.a s.len s.cap, .slice (some ⟨ga, 0, none⟩) 1 1]).run P w = .ok (.slice s'.a s'.len s'.cap) w' ∧ RowG w' lo E (n + 1) s' h' ∧ (∀ i, i < n → h' i = h i) ∧ h' n = x ∧
   w.grownBy w' (Value.slice s.a s.len s.cap).ownBlock ∧ (s'.a = s.a ∨ ∀ ad, s'.a = some ad → w.heap.size ≤ ad.block) := by
 have e : ∀ n, (⟨ga, 0, none⟩ : Addr).add n = ⟨ga, 0 + n, none⟩ := fun n => by unfold Addr.add; split <;> simp_all
 have hnews : ∀ j u, x.cells[j]? = some u → w.cell? ((⟨ga, 0, none⟩ : Addr).add j) = some u := fun j u hu => by
  have hj : j < x.cells.length := (List.getElem?_eq_some_iff.1 hu).1
  have := hx.get j hj
  rw [e]
  simp only [elt] at this
  rw [this, List.getD_eq_getElem?_getD, hu]; rfl
 have hl : x.cells.length = 1 * i0.size := by rw [hsz]; rfl
 have hmax : ∀ old, grownCap w (n + 1) old E ≤ maxLen := fun old => grownCap_le_maxLen w (n + 1) old E hm
 have hge : ∀ old, n + 1 ≤ grownCap w (n + 1) old E := fun old => grownCap_ge w (n + 1) old E
 have hnew : ∀ (k : Nat), n + 1 ≤ k → (rowC n h ++ x.cells ++ (Builtin.zeroCells (Value.cells (.agg #[.bool false, .slice none 0 0])) (k - (n + 1))).toList) = rowC k (fun i => if i < n then h i else if i = n then x else ih0) := fun k hk => by
  rw [kg, pc x, ee, ee]
  rw [show n + 1 + (k - (n + 1)) = k by omega]
  refine fO fun i _ => ?_
  by_cases h1 : i < n
  ·rw [if_pos (by omega), if_pos h1, if_pos h1]
  ·by_cases h2 : i = n
   ·subst h2; rw [if_pos (by omega), if_neg (by omega), if_neg (by omega), if_pos rfl]
   ·rw [if_neg (by omega), if_neg h1, if_neg h2]
 have hgr : ∀ (o : Obj) {row : Option Nat}, w.grownBy (w.drew.alloc o) row := fun o _ => ⟨rfl, rfl, rfl, by simp, fun k hk _ => heap_alloc_old w.drew o hk⟩
 have hbl : ∀ (xs zs : List Value) (k : Nat), xs ++ zs = rowC k (fun i => if i < n then h i else if i = n then x else ih0) → ∀ cs : Array Value, cs.toList = xs ++ zs → Blk (w.drew.alloc (.cells cs E)) w.heap.size E (rowC k (fun i => if i < n then h i else if i = n then x else ih0)) := fun xs zs k e cs hcs => by
  have : cs = (rowC k (fun i => if i < n then h i else if i = n then x else ih0)).toArray := by rw [← e, ← hcs]
  rw [this]
  exact heap_alloc_new w.drew _
 obtain ⟨hlen, hcase⟩ := hR
 rcases hcase with ⟨rfl, rfl⟩ | ⟨g, h1, h2, h3, h4, h5⟩
 ·have hr := run_append_nil (P := P) w t ty E i0 _ ht hi hz ⟨ga, 0, none⟩ 1 1 x.cells hl hnews (by omega) (by omega) (by rw [hby]; omega)
  refine ⟨⟨some ⟨w.heap.size, 0, none⟩, 1, grownCap w 1 0 E⟩, _, fun i => if i < 0 then h i else if i = 0 then x else ih0, hr, ⟨rfl, .inr ⟨_, rfl, hlo, hge 0, hmax 0, ?_⟩⟩, fun i hi => by omega, rfl, hgr _, .inr fun ad e => by cases e; exact Nat.le_refl _⟩
  have := hnew (grownCap w 1 0 E) (hge 0)
  rw [iW, List.nil_append] at this
  exact hbl _ _ _ this _ (by simp)
 ·obtain ⟨sa, sl, sc⟩ := s
  simp only at h1 hlen h3 h4 h5
  subst h1; subst hlen
  by_cases hroom : sl + 1 ≤ sc
  ·have hr := run_append_room (P := P) w t ty E i0 ht hi g sl sc _ h5 ⟨ga, 0, none⟩ 1 1 x.cells hl hnews (fun u hu => by
    simp only [IH.cells, List.mem_cons, List.not_mem_nil, or_false] at hu
    rcases hu with rfl | rfl <;> rfl) hroom (by
    rw [hsz, List.size_toArray, bQ]
    have : x.cells.length = 2 := rfl
    omega)
   refine ⟨⟨some ⟨g, 0, none⟩, sl + 1, sc⟩, _, setF h sl x, hr, ⟨rfl, .inr ⟨g, rfl, h2, hroom, h4, ?_⟩⟩, fun i hi => aQ h x (by omega), aN h sl x, ⟨rfl, rfl, rfl, by simp, fun k _ hk => setRow_other w g k _ (fun e => hk (by simp [Value.ownBlock, e]))⟩, .inl rfl⟩
   have := kd (h := h) x (show sl < sc by omega)
   rw [← this]
   have := setRow_heap w g (rowC sc h).toArray ((rowC sc h).toArray.toList.take (sl * i0.size) ++ x.cells ++ (rowC sc h).toArray.toList.drop (sl * i0.size + x.cells.length)).toArray E (0, 0) h5
   rw [hsz] at this ⊢
   exact this
  ·have hcap : sc = sl := by omega
   subst hcap
   have holds : ∀ j u, (rowC sc h)[j]? = some u → w.cell? ((⟨g, 0, none⟩ : Addr).add j) = some u := fun j u hu => by
    have e' : ∀ n, (⟨g, 0, none⟩ : Addr).add n = ⟨g, n, none⟩ := fun n => by unfold Addr.add; split <;> simp_all
    rw [e', h5.at]; exact hu
   have hr := run_append_grow (P := P) w t ty E i0 _ ht hi hz ⟨g, 0, none⟩ sc sc (rowC sc h) (by rw [hsz, bQ]) holds ⟨ga, 0, none⟩ 1 1 x.cells hl hnews (by omega) (Int.ofNat_le.2 hm) (by rw [hby]; exact growslice_fits (by omega) hb)
   refine ⟨⟨some ⟨w.heap.size, 0, none⟩, sc + 1, grownCap w (sc + 1) sc E⟩, _, fun i => if i < sc then h i else if i = sc then x else ih0, hr, ⟨rfl, .inr ⟨_, rfl, hlo, hge sc, hmax sc, ?_⟩⟩, fun i hi => if_pos hi, (if_neg (Nat.lt_irrefl _)).trans (if_pos rfl), hgr _, .inr fun ad e => by cases e; exact Nat.le_refl _⟩
   exact hbl _ _ _ (hnew (grownCap w (sc + 1) sc E) (hge sc)) _ (by simp)
section
variable {P : Program} {S : World → Prop} {ops : List Oper} {K : Env → World → Prop} {rest : List (Oper × Option Bool)} {ρ : Env} {w : World} {b : Option Bool} {kf : Bool} {d : Nat} {dst : Option Nat} {T T' : TypeId} {pos : String} {af : Array Edge}
end
end Go.W
namespace Go.W
theorem pd {P : Program} {w : World} {dT ty E g n dc sc s Tb : Nat} {a : Addr} {cur cs : List Value} {i0 : TypeInfo} (hu : P.underlying dT = some (.slice E)) (hi : P.info? E = some i0) (hs : i0.size = s)
  (hb : Blk w g Tb cur) (hl : cs.length = n * s) (hsrc : ∀ j v, cs[j]? = some v → w.cell? (a.add j) = some v) (hfit : cs.length ≤ cur.length) (h1 : ∀ v ∈ cs, v.oneCell' = true) :
  (Builtin.copy_ #[dT, dT] ty #[.slice (some ⟨g, 0, none⟩) n dc, .slice (some a) n sc]).run P w = .ok (.int .i64 n) (w.setRow g (cs ++ cur.drop cs.length).toArray) := by
 have hl' := run_loadCells_list (P := P) w a cs hsrc
 have hst := run_storeCells_at P g 0 Tb cs 0 cur.toArray w hb (by simpa using hfit) h1
 simp only [Nat.add_zero, Nat.zero_add, List.take_zero, List.nil_append] at hst
 subst hs
 have e : Nat.min n n = n := Nat.min_self n
 simp [Builtin.copy_, run_underlying hu, Builtin.lenOf, Builtin.firstCells, sizeOf, typeInfo, hi, ← hl, hl', hst, e]
 rfl
section
variable {P : Program} {S : World → Prop} {ops : List Oper} {K : Env → World → Prop} {rest : List (Oper × Option Bool)} {ρ : Env} {w : World} {b : Option Bool} {kf : Bool} {d : Nat} {dst : Option Nat} {T T' : TypeId} {pos : String} {af : Array Edge}
theorem jx {T1 E s y n dc sc g Tb : Nat} {x1 x2 : Operand} {a : Option Addr} {cur cs : List Value} [hT : Slc P T1 E s y] (h1 : ev ρ x1 = .slice (some ⟨g, 0, none⟩) n dc) (h2 : ev ρ x2 = .slice a n sc) (hp : W.plain a)
  (hb : Blk w g Tb cur) (hs : Sl w a cs) (hl : cs.length = n * s) (hle : cs.length ≤ cur.length) (ho : cs.all Value.oneCell' = true)
  (h : ∀ w', Chg g w w' → Blk w' g Tb (cs ++ cur.drop cs.length) → (kf = true → S w → S w') ∧ RR P S ops K rest (updO ρ dst (.int .i64 n)) w') :
  RR P S ops K ((⟨dst, .call ⟨.builtin .copy, #[x1, x2], #[T1, T1]⟩, T, pos, af, none⟩, some kf) :: rest) ρ w := by
 refine df rfl ?_
 unfold OpW
 obtain ⟨i0, hi0, hzz⟩ := Option.map_eq_some_iff.1 hT.sz
 simp only [Prod.mk.injEq] at hzz
 obtain ⟨g', o, rfl⟩ := hp
 have e : ∀ n, (⟨g', o, none⟩ : Addr).add n = ⟨g', o + n, none⟩ := fun n => by unfold Addr.add; split <;> simp_all
 have hr := pd (P := P) (ty := T) (dc := dc) (sc := sc) (a := ⟨g', o, none⟩) hT.un hi0 hzz.1 hb hl (fun j u hu => by
  have hj : j < cs.length := (List.getElem?_eq_some_iff.1 hu).1
  have := hs.get j hj
  rw [e]
  simp only [elt] at this
  rw [this, List.getD_eq_getElem?_getD, hu]; rfl) hle (fun v hv => List.all_eq_true.1 ho v hv)
 have : (execOp (ev ρ) ⟨dst, .call ⟨.builtin .copy, #[x1, x2], #[T1, T1]⟩, T, pos, af, none⟩).run P w = .ok (.value (.int .i64 n)) (w.setRow g (cs ++ cur.drop cs.length).toArray) := by
  simp [execOp, resolve, invoke, builtin, h1, h2, hr]
 rw [this]
 have hc := dF (cs' := cs ++ cur.drop cs.length) hb
 exact h _ hc.1 hc.2
end
end Go.W
namespace Go.Proofs.Ytiejljicpinheaa
open Go.W Go.LM
def NoI (cs : List Value) : Prop := ∀ v ∈ cs, ∀ m, v ≠ .int .u32 m
theorem bI (n : Nat) (h : Nat → IH) : NoI (rowC n h) := fun v hv m e => by
 rcases kN hv with ⟨b, rfl⟩ | ⟨a, l, c, rfl⟩ <;> cases e
theorem bW (n : Nat) (s : Nat → SD) : NoI (topC n s) := fun v hv m e => by
 obtain ⟨a, l, c, rfl⟩ := kQ hv; cases e
theorem aA (neg : Bool) (a : Option Addr) (n c : Nat) : NoI (intL neg a n c) := fun v hv m e => by
 simp only [List.mem_cons, List.not_mem_nil, or_false] at hv
 rcases hv with rfl | rfl <;> cases e
theorem Limbs.gbN {w w' : World} {a : Option Addr} {c g T : Nat} {ls : List Nat} {cs : List Value} (h : Limbs w a c ls) (hb : Blk w g T cs) (hn : NoI cs) (hg : w.grownBy w' (some g)) : Limbs w' a c ls := by
 refine ⟨?_, h.cap, h.lim, h.len⟩
 cases ls with
 | nil => exact Sl.nil _ _
 | cons d l =>
  refine h.sl.gb hg fun ad e he => ?_
  have := h.sl.off hb (j := 0) (by simp [limbsL]) (fun hm => hn _ hm d rfl) ad e
  cases he; exact this rfl
structure Ent (cn : Bool) (K : Nat) (w : World) (v : Value) (z : Int) : Prop where
 k : IntK K w v z
 c : cn = true → IntC 0 w v z
section
variable {cn : Bool} {K : Nat} {w w' : World} {v : Value} {z : Int}
theorem Ent.of {lo : Nat} (h : IntC lo w v z) (hz : z.natAbs < 4294967296 ^ K) : Ent cn K w v z := ⟨h.k hz, fun _ => h.mono (Nat.zero_le _)⟩
theorem Ent.weak (h : Ent true K w v z) : Ent cn K w v z := ⟨h.k, fun _ => h.c rfl⟩
theorem Ent.weak' (h : Ent cn K w v z) : Ent false K w v z := ⟨h.k, fun e => nomatch e⟩
theorem Ent.ext (h : Ent cn K w v z) (e : Ex w w') : Ent cn K w' v z := ⟨h.k.ext e, fun c => (h.c c).ext e⟩
theorem Ent.ih (h : Ent cn K w v z) : ∃ x : IH, v = x.val := by
 obtain ⟨neg, a, c, ls, rfl, _⟩ := h.k
 exact ⟨⟨neg, ⟨a, ls.length, c⟩⟩, rfl⟩
theorem IntC.ih {lo : Nat} (h : IntC lo w v z) : ∃ x : IH, v = x.val := by
 obtain ⟨neg, a, c, ls, rfl, _⟩ := h
 exact ⟨⟨neg, ⟨a, ls.length, c⟩⟩, rfl⟩
theorem IntK.gbN {g T : Nat} {cs : List Value} (h : IntK K w v z) (hb : Blk w g T cs) (hn : NoI cs) (hg : w.grownBy w' (some g)) : IntK K w' v z := by
 obtain ⟨neg, a, c, ls, h1, h2, h3⟩ := h; exact ⟨neg, a, c, ls, h1, h2.gbN hb hn hg, h3⟩
theorem IntC.gbN {g T lo : Nat} {cs : List Value} (h : IntC lo w v z) (hb : Blk w g T cs) (hn : NoI cs) (hg : w.grownBy w' (some g)) : IntC lo w' v z := by
 obtain ⟨neg, a, c, ls, h1, h2, h3⟩ := h; exact ⟨neg, a, c, ls, h1, h2.gbN hb hn hg, h3⟩
theorem Ent.gbN {g T : Nat} {cs : List Value} (h : Ent cn K w v z) (hb : Blk w g T cs) (hn : NoI cs) (hg : w.grownBy w' (some g)) : Ent cn K w' v z :=
 ⟨h.k.gbN hb hn hg, fun c => (h.c c).gbN hb hn hg⟩
end
theorem kt {cn : Bool} {K : Nat} (w : World) : Ent cn K w ih0.val 0 := by
 have h : Limbs w none 0 [] := ⟨Sl.nil _ _, Nat.le_refl _, fun d hd => by simp at hd, by simp⟩
 exact ⟨⟨false, none, 0, [], rfl, h, rfl, Nat.zero_le _⟩, fun _ => ⟨false, none, 0, [], rfl, h, rfl, rfl, fun e => (nomatch e), fun ad e => (nomatch e)⟩⟩
structure RX (cn : Bool) (K : Nat) (w : World) (s : SD) (n : Nat) (f : Nat → Int) : Prop where
 len : s.len = n
 cap : n ≤ s.cap
 ex : ∃ h : Nat → IH, Sl w s.a (rowC n h) ∧ ∀ i, i < n → Ent cn K w (h i).val (f i)
section
variable {cn : Bool} {K n : Nat} {w w' : World} {s : SD} {f f' : Nat → Int}
theorem RX.ext (h : RX cn K w s n f) (e : Ex w w') : RX cn K w' s n f := by
 obtain ⟨hh, h1, h2⟩ := h.ex; exact ⟨h.len, h.cap, hh, h1.ext e, fun i hi => (h2 i hi).ext e⟩
theorem RX.weak' (h : RX cn K w s n f) : RX false K w s n f := by
 obtain ⟨hh, h1, h2⟩ := h.ex; exact ⟨h.len, h.cap, hh, h1, fun i hi => (h2 i hi).weak'⟩
theorem RX.congr (h : RX cn K w s n f) (e : ∀ i, i < n → f' i = f i) : RX cn K w s n f' := by
 obtain ⟨hh, h1, h2⟩ := h.ex; exact ⟨h.len, h.cap, hh, h1, fun i hi => by rw [e i hi]; exact h2 i hi⟩
theorem RX.gbN {g T : Nat} {cs : List Value} (h : RX cn K w s n f) (hb : Blk w g T cs) (hn : NoI cs) (hg : w.grownBy w' (some g)) (hne : ∀ ad, s.a = some ad → ad.block ≠ g) : RX cn K w' s n f := by
 obtain ⟨hh, h1, h2⟩ := h.ex
 exact ⟨h.len, h.cap, hh, h1.gb hg (fun ad e he => hne ad e (by cases he; rfl)), fun i hi => (h2 i hi).gbN hb hn hg⟩
theorem RX.gbT {g T m : Nat} {t : Nat → SD} (h : RX cn K w s n f) (hb : Blk w g T (topC m t)) (hg : w.grownBy w' (some g)) : RX cn K w' s n f := by
 obtain ⟨hh, h1, h2⟩ := h.ex
 refine ⟨h.len, h.cap, hh, ?_, fun i hi => (h2 i hi).gbN hb (bW _ _) hg⟩
 by_cases hn : n = 0
 ·subst hn; exact Sl.nil _ _
 ·refine h1.gb hg fun ad e he => ?_
  have h0 : (rowC n hh).getD 0 undef = .bool (hh 0).neg := by
   have := (iw (h := hh) (show 0 < n by omega)).1
   rw [List.getD_eq_getElem?_getD, show (0 : Nat) = 0 * 2 from rfl, this]; rfl
  have := h1.off hb (j := 0) (by rw [bQ]; omega) (fun hm => by
   rw [h0] at hm; obtain ⟨a, l, c, e⟩ := kQ hm; cases e) ad e
  cases he; exact this rfl
theorem RX.lt (h : RX cn K w s n f) (hn : 0 < n) : ∀ ad, s.a = some ad → ad.block < w.heap.size := by
 obtain ⟨hh, h1, h2⟩ := h.ex; exact h1.lt (by rw [bQ]; omega)
theorem RX.plain (h : RX cn K w s n f) (hn : 0 < n) : W.plain s.a := by
 obtain ⟨hh, h1, h2⟩ := h.ex; exact h1.plain (by rw [bQ]; omega)
end
structure MX (cn : Bool) (K : Nat) (w : World) (a : Option Addr) (r c : Nat) (s : Nat → SD) (F : Nat → Nat → Int) : Prop where
 top : Sl w a (topC r s)
 row : ∀ i, i < r → RX cn K w (s i) c (F i)
structure RO (cn : Bool) (K : Nat) (w : World) (lo g cap n : Nat) (f : Nat → Int) : Prop where
 low : lo ≤ g
 le : n ≤ cap
 ex : ∃ h : Nat → IH, Blk w g 49 (rowC cap h) ∧ ∀ i, i < n → Ent cn K w (h i).val (f i)
section
variable {cn : Bool} {K n lo g cap : Nat} {w w' : World} {f f' : Nat → Int}
theorem RO.rx (h : RO cn K w lo g cap n f) : RX cn K w ⟨some ⟨g, 0, none⟩, n, cap⟩ n f := by
 obtain ⟨hh, h1, h2⟩ := h.ex; exact ⟨rfl, h.le, hh, h1.sl.row h.le, h2⟩
theorem RO.ext (h : RO cn K w lo g cap n f) (e : Ex w w') : RO cn K w' lo g cap n f := by
 obtain ⟨hh, h1, h2⟩ := h.ex; exact ⟨h.low, h.le, hh, h1.ext e, fun i hi => (h2 i hi).ext e⟩
theorem RO.weak (h : RO true K w lo g cap n f) : RO cn K w lo g cap n f := by
 obtain ⟨hh, h1, h2⟩ := h.ex; exact ⟨h.low, h.le, hh, h1, fun i hi => (h2 i hi).weak⟩
theorem RO.mono {lo' : Nat} (h : RO cn K w lo g cap n f) (hl : lo' ≤ lo) : RO cn K w lo' g cap n f := ⟨Nat.le_trans hl h.low, h.le, h.ex⟩
theorem RO.congr (h : RO cn K w lo g cap n f) (e : ∀ i, i < n → f' i = f i) : RO cn K w lo g cap n f' := by
 obtain ⟨hh, h1, h2⟩ := h.ex; exact ⟨h.low, h.le, hh, h1, fun i hi => by rw [e i hi]; exact h2 i hi⟩
theorem RO.gbN {g' T : Nat} {cs : List Value} (h : RO cn K w lo g cap n f) (hb : Blk w g' T cs) (hn : NoI cs) (hg : w.grownBy w' (some g')) (hne : g ≠ g') : RO cn K w' lo g cap n f := by
 obtain ⟨hh, h1, h2⟩ := h.ex
 exact ⟨h.low, h.le, hh, h1.gb hg (fun e => hne (by cases e; rfl)), fun i hi => (h2 i hi).gbN hb hn hg⟩
theorem RO.lt (h : RO cn K w lo g cap n f) : g < w.heap.size := by obtain ⟨hh, h1, h2⟩ := h.ex; exact h1.lt
theorem RO.put {j : Nat} {hh : Nat → IH} {u : IH} {z : Int} (hlo : lo ≤ g) (hcap : n ≤ cap) (hb : Blk w g 49 (rowC cap hh)) (h2 : ∀ i, i < n → Ent cn K w (hh i).val (f i)) (hu : Ent cn K w u.val z)
  (hg : Chg g w w') (hb' : Blk w' g 49 (rowC cap (setF hh j u))) : RO cn K w' lo g cap n (setF f j z) := by
 refine ⟨hlo, hcap, _, hb', fun i hi => ?_⟩
 by_cases h : i = j
 ·subst h; rw [aN, aN]; exact hu.gbN hb (bI _ _) (bp hg)
 ·rw [aQ _ _ h, aQ _ _ h]; exact (h2 i hi).gbN hb (bI _ _) (bp hg)
end
structure MO (cn : Bool) (K : Nat) (w : World) (lo g r c : Nat) (gs cap : Nat → Nat) (F : Nat → Nat → Int) : Prop where
 low : lo ≤ g
 top : Blk w g 30 (topC r fun i => ⟨some ⟨gs i, 0, none⟩, c, cap i⟩)
 row : ∀ i, i < r → RO cn K w lo (gs i) (cap i) c (F i)
 off : ∀ i, i < r → gs i ≠ g
 inj : ∀ i j, i < r → j < r → gs i = gs j → i = j
section
variable {cn : Bool} {K r c lo g : Nat} {w w' : World} {gs cap : Nat → Nat} {F F' : Nat → Nat → Int}
theorem MO.mx (h : MO cn K w lo g r c gs cap F) : MX cn K w (some ⟨g, 0, none⟩) r c (fun i => ⟨some ⟨gs i, 0, none⟩, c, cap i⟩) F := ⟨h.top.sl, fun i hi => (h.row i hi).rx⟩
theorem MO.ext (h : MO cn K w lo g r c gs cap F) (e : Ex w w') : MO cn K w' lo g r c gs cap F := ⟨h.low, h.top.ext e, fun i hi => (h.row i hi).ext e, h.off, h.inj⟩
theorem MO.mono {lo' : Nat} (h : MO cn K w lo g r c gs cap F) (hl : lo' ≤ lo) : MO cn K w lo' g r c gs cap F := ⟨Nat.le_trans hl h.low, h.top, fun i hi => (h.row i hi).mono hl, h.off, h.inj⟩
theorem MO.congr (h : MO cn K w lo g r c gs cap F) (e : ∀ i j, i < r → j < c → F' i j = F i j) : MO cn K w lo g r c gs cap F' := ⟨h.low, h.top, fun i hi => (h.row i hi).congr fun j hj => e i j hi hj, h.off, h.inj⟩
theorem MO.gbN {g' T : Nat} {cs : List Value} (h : MO cn K w lo g r c gs cap F) (hb : Blk w g' T cs) (hn : NoI cs) (hg : w.grownBy w' (some g')) (hne : g ≠ g') (hns : ∀ i, i < r → gs i ≠ g') : MO cn K w' lo g r c gs cap F :=
 ⟨h.low, h.top.gb hg (fun e => hne (by cases e; rfl)), fun i hi => (h.row i hi).gbN hb hn hg (hns i hi), h.off, h.inj⟩
theorem MO.lt (h : MO cn K w lo g r c gs cap F) : g < w.heap.size := h.top.lt
end
section
variable {cn : Bool} {K r c : Nat} {w w' : World} {a : Option Addr} {s : Nat → SD} {F F' : Nat → Nat → Int}
theorem MX.ext (h : MX cn K w a r c s F) (e : Ex w w') : MX cn K w' a r c s F := ⟨h.top.ext e, fun i hi => (h.row i hi).ext e⟩
theorem MX.plain (h : MX cn K w a r c s F) (hr : 0 < r) : W.plain a := h.top.plain (by rw [bO]; exact hr)
end
def RetMO (K : Nat) (w : World) (r c : Nat) (F : Nat → Nat → Int) (v : Value) (w' : World) : Prop :=
 ∃ g gs cap, v = .slice (some ⟨g, 0, none⟩) r r ∧ MO true K w' w.heap.size g r c gs cap F ∧ Ex w w'
end Go.Proofs.Ytiejljicpinheaa
namespace Go.Proofs.Ytiejljicpinheaa
open Go.W Go.LM
theorem qG {n1 n2 : Bool} {N D : Nat} (hD : 0 < D) :
  (n1 = false → sgn n1 N / sgn n2 D = sgn n2 (N / D) ∧ sgn n1 N % sgn n2 D = ((N % D : Nat) : Int)) ∧
  (n1 = true → N % D = 0 → sgn n1 N / sgn n2 D = sgn (!n2) (N / D) ∧ sgn n1 N % sgn n2 D = ((N % D : Nat) : Int)) ∧
  (n1 = true → 0 < N % D → sgn n1 N / sgn n2 D = sgn (!n2) (N / D + 1) ∧ sgn n1 N % sgn n2 D = ((D - N % D : Nat) : Int)) := by
 obtain ⟨⟨a1, a2⟩, ⟨b1, b2⟩, hc, hd⟩ := j5 (N := N) hD
 have hlt := Nat.mod_lt N hD
 refine ⟨fun h => ?_, fun h h0 => ?_, fun h h0 => ?_⟩
 ·subst h; cases n2 <;> simp only [sgn, if_true, Bool.false_eq_true, if_false]
  ·exact ⟨a1, a2⟩
  ·exact ⟨b1, b2⟩
 ·obtain ⟨c1, c2, c3, c4⟩ := hc h0
  subst h; cases n2 <;> simp only [sgn, if_true, Bool.false_eq_true, if_false, Bool.not_true, Bool.not_false]
  ·exact ⟨c1, by rw [c2, h0]; rfl⟩
  ·exact ⟨c3, by rw [c4, h0]; rfl⟩
 ·obtain ⟨c1, c2, c3, c4⟩ := hd (by omega)
  subst h; cases n2 <;> simp only [sgn, if_true, Bool.false_eq_true, if_false, Bool.not_true, Bool.not_false]
  ·exact ⟨by rw [c1]; omega, by rw [c2]; omega⟩
  ·exact ⟨by rw [c3]; omega, by rw [c4]; omega⟩
set_option maxHeartbeats 2000000 in
theorem bx {p q : Nat} {v1 v2 : Value} {x y : Int} {w : World} (h1 : IntK p w v1 x) (h2 : IntK q w v2 y) (hp : p < 17592186044415) (_hq : q < 17592186044415) :
  CallsR Try.prog 45 #[v1, v2] w fun v w' => ∃ q r, v = .tuple #[q, r, .bool (decide (y ≠ 0))] ∧ IntC w.heap.size w' q (x / y) ∧ IntC w.heap.size w' r (if y = 0 then 0 else x % y) ∧ Ex w w' := by
 obtain ⟨n1, a1, c1, l1, rfl, hL1, rfl, hp1⟩ := h1
 obtain ⟨n2, a2, c2, l2, rfl, hL2, rfl, hq1⟩ := h2
 have tl1 := cv l1
 have tl2 := cv l2
 refine aG (args := [_, _]) Try.func45 rfl rfl ?_
 refine aj ?_
 refine ah rfl ?_
 refine bH rfl (fun g2 w2 hn2 => ⟨fun _ _ => trivial, ?_⟩)
 refine bH rfl (fun g3 w3 hn3 => ⟨fun _ _ => trivial, ?_⟩)
 refine aE (fun g4 w4 hn4 => ⟨fun _ _ => trivial, ?_⟩)
 refine aE (fun g5 w5 hn5 => ⟨fun _ _ => trivial, ?_⟩)
 have hb2 := ((hn2.blk.ext hn3.ex).ext hn4.ex).ext hn5.ex
 have hb3 := (hn3.blk.ext hn4.ex).ext hn5.ex
 have hb4 : Blk w5 g4 49 (intL false none 0 0) := hn4.blk.ext hn5.ex
 have hb5 : Blk w5 g5 49 (intL false none 0 0) := hn5.blk
 have hE := ((hn2.ex.trans hn3.ex).trans hn4.ex).trans hn5.ex
 have s3 := (hn2.ex.trans hn3.ex).size
 have s4 := hn4.ex.size
 have s5 := hn5.ex.size
 have lo4 := hn4.lo
 have hi4 := hn4.hi
 have lo5 := hn5.lo
 have hi5 := hn5.hi
 have ne45 : g4 ≠ g5 := by omega
 repeat' (first|refine aU rfl hb3 rfl ?_|refine ai rfl ?_|refine aa ?_|refine aj ?_|refine ah rfl ?_|refine ae ?_|refine aP rfl ?_)
 refine aw (bT (hL2.ext hE)) rfl ?_
 rintro v w6 ⟨rfl, hE6⟩
 refine ⟨fun _ _ => trivial, ?_⟩
 have hE56 := hE6
 have hE6 := hE.trans hE6
 have hy0 : sgn n2 (natOf l2) = 0 ↔ natOf l2 = 0 := by unfold sgn; cases n2 <;> simp
 repeat' (first|refine aU rfl (hb2.ext hE56) rfl ?_|refine cC (cs := intL false none 0 0) rfl ?_|refine ai rfl ?_|refine aa ?_|refine aj ?_|refine ah rfl ?_|refine ae ?_|refine aY rfl ?_|refine aP rfl ?_|refine aM rfl (fun hc => ?_) (fun hc => ?_)|refine aF ?_)
 ·
  have hz : natOf l2 = 0 := cj.1 (List.eq_nil_of_length_eq_zero (by omega))
  refine au (n := 2) rfl rfl rfl rfl (hb4.ext hE56) rfl (fun w7 hc7 hb7 => ⟨fun _ _ => trivial, ?_⟩)
  refine au (n := 2) rfl rfl rfl rfl ((hb5.ext hE56).chg hc7 (Ne.symm ne45)) rfl (fun w8 hc8 hb8 => ⟨fun _ _ => trivial, ?_⟩)
  repeat' (first|refine ai rfl ?_|refine aa ?_|refine ae ?_|refine aK ?_|refine aX ?_)
  have hlim : ∀ w, Limbs w none 0 [] := fun w => Limbs.nil _ _ _
  have hI : ∀ w, IntC w5.heap.size w (.agg (intL false none 0 0).toArray) 0 := fun w => ⟨false, none, 0, [], rfl, hlim w, rfl, rfl, fun e => (nomatch e), fun ad e => (nomatch e)⟩
  rw [hy0.2 hz, Int.ediv_zero]
  refine eI rfl (rc rfl rfl (hb7.chg hc8 ne45)) (rc rfl rfl hb8) (rt rfl) ⟨_, _, rfl, (hI _).mono (by omega), ?_, (hE6.chg hc7 (by omega)).chg hc8 (by omega)⟩
  rw [if_pos rfl]; exact (hI _).mono (by omega)
 ·have hpos : 0 < natOf l2 := by
   rcases Nat.eq_zero_or_pos (natOf l2) with h | h
   ·exfalso; have h0 : (trimL l2).length = 0 := by rw [cj.2 h]; rfl
    omega
   ·exact h
  have hyne : sgn n2 (natOf l2) ≠ 0 := fun e => by have := hy0.1 e; omega
  refine aw (bT (hL1.ext hE6)) rfl ?_
  rintro v w7 ⟨rfl, hE7⟩
  refine ⟨fun _ _ => trivial, ?_⟩
  have hE57 := hE56.trans hE7
  repeat' (first|refine ai rfl ?_)
  refine aw (mT ((hL1.ext (hE6.trans hE7)).trim) ((hL2.ext (hE6.trans hE7)).trim) (bz _) (bz _) (by rw [bc]; exact hpos) (by omega)) rfl ?_
  rintro v w8 ⟨a8, c8, l8, a9, c9, l9, rfl, hL8, hL9, hC8, hC9, hq8, hq9, hlo8, hlo9, hE8⟩
  refine ⟨fun _ _ => trivial, ?_⟩
  rw [bc, bc] at hq8 hq9
  have hE58 := hE57.trans hE8
  have s7 := hE57.size
  have s8 := hE8.size
  have hl8 := hL8.len
  have hl9 := hL9.len
  repeat' (first|refine aU rfl (hb3.ext hE58) rfl ?_|refine ai rfl ?_|refine aa ?_|refine aj ?_|refine ah rfl ?_|refine ae ?_|refine aP rfl ?_)
  have hb48 := hb4.ext hE58
  have hb58 := hb5.ext hE58
  refine cD (ι := Bool × (Option Addr × List Nat × Nat) × (Option Addr × List Nat × Nat)) [8, 9, 10, 29, 30, 31, 32, 33, 34, 35, 36, 37, 38, 39, 40, 41, 42, 43, 44, 45, 46, 47] (fun t => [(10, .bool t.1), (8, .slice t.2.1.1 t.2.1.2.1.length t.2.1.2.2), (9, .slice t.2.2.1 t.2.2.2.1.length t.2.2.2.2)])
   (fun t w' => Ex w8 w' ∧ Limbs w' t.2.1.1 t.2.1.2.2 t.2.1.2.1 ∧ Limbs w' t.2.2.1 t.2.2.2.2 t.2.2.2.1 ∧ Canon t.2.1.2.1 ∧ Canon t.2.2.2.1 ∧ (∀ ad, t.2.1.1 = some ad → w.heap.size ≤ ad.block) ∧ (∀ ad, t.2.2.1 = some ad → w.heap.size ≤ ad.block) ∧
    sgn n1 (natOf l1) / sgn n2 (natOf l2) = sgn t.1 (natOf t.2.1.2.1) ∧ sgn n1 (natOf l1) % sgn n2 (natOf l2) = ((natOf t.2.2.2.1 : Nat) : Int)) ?_ ?_
  ·obtain ⟨ed1, ed2, ed3⟩ := qG (n1 := n1) (n2 := n2) (N := natOf l1) hpos
   have hln : (l9.length = 0 ↔ natOf l1 % natOf l2 = 0) := by
    rw [← hq9]
    constructor
    ·intro h; rw [List.eq_nil_of_length_eq_zero h]; rfl
    ·intro h; have := cj.2 h; rw [hC9] at this; rw [this]; rfl
   have hmodlt := Nat.mod_lt (natOf l1) hpos
   have hlo8' : ∀ ad, a8 = some ad → w.heap.size ≤ ad.block := fun ad e => by have := hlo8 ad e; have := hE.size; omega
   have hlo9' : ∀ ad, a9 = some ad → w.heap.size ≤ ad.block := fun ad e => by have := hlo9 ad e; have := hE.size; omega
   rcases Bool.eq_false_or_eq_true n1 with rfl | rfl
   ·repeat' (first|refine aU rfl (hb2.ext hE58) rfl ?_|refine oq (k := .u32) (u := 1) rfl (fun g9 w9 hn9 => ⟨fun _ _ => trivial, ?_⟩)|refine ai rfl ?_|refine aa ?_|refine aj ?_|refine ah rfl ?_|refine ae ?_|refine aY rfl ?_|refine bG rfl rfl ?_|refine aP rfl ?_|refine aC rfl ?_|refine aM rfl (fun hc => ?_) (fun hc => ?_)|refine aB ?_|refine aS ?_|refine aL ?_|refine aT ?_|refine fG rfl ?_|refine aF ?_)
    ·have hm0 : 0 < natOf l1 % natOf l2 := by
      rcases Nat.eq_zero_or_pos (natOf l1 % natOf l2) with h | h
      ·have := hln.2 h; omega
      ·exact h
     obtain ⟨e1, e2⟩ := ed3 rfl hm0
     have h1L : Limbs w9 (some ⟨g9, 0, none⟩) 1 [1] := ⟨hn9.blk.sl, Nat.le_refl _, fun d hd => by simp at hd; omega, by simp⟩
     have hq8len : l8.length < 17592186044416 := by
      have := kb (hL1.lim.trim) hC8 (by rw [hq8, bc]; exact Nat.div_le_self _ _)
      omega
     refine aw (jg (hL8.ext hn9.ex) h1L (by omega) (by simp)) rfl ?_
     rintro v w10 ⟨lq, hNq, hCq, aq, cq, rfl, hLq, hfq, hE10⟩
     refine ⟨fun _ _ => trivial, ?_⟩
     have hE810 := hn9.ex.trans hE10
     have h0E := hE6.trans hE7
     have h010 := ((hE6.trans hE7).trans hE8).trans hE810
     repeat' (first|refine ai rfl ?_|refine aa ?_|refine ah rfl ?_|refine ae ?_)
     refine aw (gj ((hL2.ext h010).trim) (hL9.ext hE810) (by rw [bc, hq9]; omega) hC9) rfl ?_
     rintro v w11 ⟨lr, hNr, hCr, ar, cr, rfl, hLr, hfr, hE11⟩
     refine ⟨fun _ _ => trivial, ?_⟩
     repeat' (first|refine ai rfl ?_|refine aa ?_|refine aj ?_|refine ah rfl ?_|refine ae ?_|refine aS ?_|refine aT ?_|refine aJ ?_)
     have s9 := hE.size
     have s10 := hE810.size
     have s99 := hn9.ex.size
     refine ⟨⟨(!n2, (aq, lq, cq), (ar, lr, cr)), ⟨hE810.trans hE11, hLq.ext hE11, hLr, hCq, hCr, fun ad e => by have := hfq ad e; omega, fun ad e => by have := hfr ad e; omega, ?_, ?_⟩, rfl, rfl, rfl, trivial⟩, (by (repeat (first|exact aI _ _|refine ax rfl ?_|refine av rfl ?_|refine ak rfl ?_|refine ao rfl ?_)))⟩
     ·simp only; rw [e1, hNq, hq8]; rfl
     ·simp only; rw [e2, hNr, bc, hq9]
    ·have hm0 : natOf l1 % natOf l2 = 0 := hln.1 (by omega)
     obtain ⟨e1, e2⟩ := ed2 rfl hm0
     refine ⟨⟨(!n2, (a8, l8, c8), (a9, l9, c9)), ⟨Ex.refl _, hL8, hL9, hC8, hC9, hlo8', hlo9', ?_, ?_⟩, rfl, rfl, rfl, trivial⟩, (by (repeat (first|exact aI _ _|refine ax rfl ?_|refine av rfl ?_|refine ak rfl ?_|refine ao rfl ?_)))⟩
     ·simp only; rw [e1, hq8]
     ·simp only; rw [e2, hq9]
   ·repeat' (first|refine aU rfl (hb2.ext hE58) rfl ?_|refine ai rfl ?_|refine aa ?_|refine aj ?_|refine ah rfl ?_|refine ae ?_|refine bP rfl rfl ?_|refine aP rfl ?_|refine ay rfl ?_|refine aB ?_|refine aS ?_|refine aL ?_|refine aT ?_|refine fG rfl ?_|refine aF ?_)
    obtain ⟨e1, e2⟩ := ed1 rfl
    refine ⟨⟨(n2, (a8, l8, c8), (a9, l9, c9)), ⟨Ex.refl _, hL8, hL9, hC8, hC9, hlo8', hlo9', ?_, ?_⟩, rfl, rfl, rfl, trivial⟩, (by (repeat (first|exact aI _ _|refine ax rfl ?_|refine av rfl ?_|refine ak rfl ?_|refine ao rfl ?_)))⟩
    ·simp only; rw [e1, hq8]
    ·simp only; rw [e2, hq9]
  ·rintro ⟨nb, ⟨aq, lq, cq⟩, ⟨ar, lr, cr⟩⟩ ξ w9 ⟨hE9, hLq, hLr, hCq, hCr, hfq, hfr, eq1, eq2⟩
   simp only at hLq hLr hCq hCr hfq hfr eq1 eq2
   show CW _ _ _ _ (over [(10, .bool nb), (8, .slice aq lq.length cq), (9, .slice ar lr.length cr)] _) w9
   clear hlo8 hlo9
   repeat' (first|refine ai rfl ?_|refine aj ?_|refine ah rfl ?_)
   refine aw (ct hLq hCq hfq _) rfl ?_
   rintro v w10 ⟨hI10, hE10⟩
   refine ⟨fun _ _ => trivial, ?_⟩
   repeat' (first|refine ai rfl ?_)
   refine aw (ct (hLr.ext hE10) hCr hfr _) rfl ?_
   rintro v w11 ⟨hI11, hE11⟩
   refine ⟨fun _ _ => trivial, ?_⟩
   obtain ⟨qs, rfl, hql, hqo⟩ := hI10.out
   obtain ⟨rs, rfl, hrl, hro⟩ := hI11.out
   have hE911 := (hE9.trans hE10).trans hE11
   have s911 := hE911.size
   refine au (n := 2) rfl rfl hql hqo (hb48.ext hE911) rfl (fun w12 hc12 hb12 => ⟨fun _ _ => trivial, ?_⟩)
   refine au (n := 2) rfl rfl hrl hro ((hb58.ext hE911).chg hc12 (Ne.symm ne45)) rfl (fun w13 hc13 hb13 => ⟨fun _ _ => trivial, ?_⟩)
   repeat' (first|refine ai rfl ?_|refine aa ?_|refine ae ?_|refine aK ?_)
   have b12 := hb48.ext hE911
   have b13 := (hb58.ext hE911).chg hc12 (Ne.symm ne45)
   have hEa := ((hE6.trans hE7).trans hE8).trans hE911
   refine eI rfl (rc rfl hql (hb12.chg hc13 ne45)) (rc rfl hrl hb13) (rt (v := .bool true) rfl) ⟨_, _, by rw [decide_eq_true hyne], ?_, ?_, (hEa.chg hc12 (by omega)).chg hc13 (by omega)⟩
   ·rw [eq1]; exact ((hI10.ext hE11).gbN b12 (aA _ _ _ _) (bp hc12)).gbN b13 (aA _ _ _ _) (bp hc13)
   ·rw [if_neg hyne, eq2]; exact (hI11.gbN b12 (aA _ _ _ _) (bp hc12)).gbN b13 (aA _ _ _ _) (bp hc13)
end Go.Proofs.Ytiejljicpinheaa
namespace Go.Proofs.Ytiejljicpinheaa
open Go.W Go.LM
theorem nV {m : Nat} (h : m ≤ 9223372036854775808) : IntKind.i64.wrap (IntKind.u64.wrap (-(m : Int))) = -(m : Int) := by
 rcases Nat.eq_zero_or_pos m with rfl | h0
 ·decide
 ·have : IntKind.u64.wrap (-(m : Int)) = 18446744073709551616 - (m : Int) := by
   rw [cE rfl]
   simp only [IntKind.bits]
   omega
  rw [this]
  simp only [IntKind.wrap, IntKind.signed, IntKind.bits]
  simp
  omega
def fits64 (z : Int) : Prop := -9223372036854775808 ≤ z ∧ z < 9223372036854775808
instance (z : Int) : Decidable (fits64 z) := inferInstanceAs (Decidable (_ ∧ _))
theorem mV {p : Nat} {v : Value} {z : Int} {w : World} (hz : IntK p w v z) :
  CallsR Try.prog 95 #[v] w fun r w' => r = .tuple #[.int .i64 (if fits64 z then z else 0), .bool (decide (fits64 z))] ∧ Ex w w' := by
 obtain ⟨n1, a1, c1, l1, rfl, hL1, rfl, _⟩ := hz
 have tl := bc l1
 have hlen := hL1.trim.len
 have no : ¬ fits64 (sgn n1 (natOf l1)) → ∀ {v : Value}, v = .tuple #[.int .i64 0, .bool false] → v = .tuple #[.int .i64 (if fits64 (sgn n1 (natOf l1)) then sgn n1 (natOf l1) else 0), .bool (decide (fits64 (sgn n1 (natOf l1))))] := fun h v e => by
   rw [if_neg h, decide_eq_false h, e]
 have yes : fits64 (sgn n1 (natOf l1)) → ∀ {v : Value}, v = .tuple #[.int .i64 (sgn n1 (natOf l1)), .bool true] → v = .tuple #[.int .i64 (if fits64 (sgn n1 (natOf l1)) then sgn n1 (natOf l1) else 0), .bool (decide (fits64 (sgn n1 (natOf l1))))] := fun h v e => by
   rw [if_pos h, decide_eq_true h, e]
 refine aG (args := [_]) Try.func95 rfl rfl ?_
 repeat' (first|refine bH rfl (fun g w1 hn1 => ⟨fun _ _ => trivial, ?_⟩)|refine aU rfl hn1.blk rfl ?_|refine ai rfl ?_|refine aa ?_|refine aj ?_|refine ah rfl ?_|refine ae ?_|refine aP rfl ?_)
 refine aw (bT (hL1.ext hn1.ex)) rfl ?_
 rintro v w2 ⟨rfl, hE2⟩
 refine ⟨fun _ _ => trivial, ?_⟩
 repeat' (first|refine ai rfl ?_|refine aa ?_|refine aj ?_|refine ah rfl ?_|refine ae ?_|refine aY rfl ?_|refine aM rfl (fun hc => ?_) (fun hc => ?_)|refine aK ?_|refine aX ?_|refine aF ?_)
 ·have h3 : ¬ fits64 (sgn n1 (natOf l1)) := fun hf => by
   have := ik (bz l1) (by intro e; have h0 := congrArg List.length e; rw [List.length_nil] at h0; omega)
   have h2 := dP (show 2 ≤ (trimL l1).length - 1 by omega)
   unfold fits64 sgn at hf
   split at hf <;> omega
  refine cR rfl (rt rfl) (rt rfl) ⟨no h3 rfl, hn1.ex.trans hE2⟩
 ·have hL := (hL1.ext (hn1.ex.trans hE2)).trim
  refine aw (fy hL (by omega)) rfl ?_
  rintro v w3 ⟨rfl, hE3⟩
  refine ⟨fun _ _ => trivial, ?_⟩
  have hb := (hn1.blk.ext hE2).ext hE3
  have hlt := bL hL1.lim.trim
  have hle := dP (show (trimL l1).length ≤ 2 by omega)
  rw [tl] at *
  have hE := (hn1.ex.trans hE2).trans hE3
  rcases Bool.eq_false_or_eq_true n1 with rfl | rfl
  ·by_cases hf : natOf l1 ≤ 9223372036854775808
   ·have hff : fits64 (sgn true (natOf l1)) := by unfold fits64 sgn; simp; omega
    repeat' (first|refine aU rfl hb rfl ?_|refine nD rfl rfl (by omega) ?_|refine kY rfl ?_|refine gT rfl ?_|refine ai rfl ?_|refine aa ?_|refine aj ?_|refine ah rfl ?_|refine ae ?_|refine bG rfl rfl ?_|refine aP rfl ?_|refine aC rfl ?_|refine aB ?_|refine aK ?_|refine aX ?_|refine b6 ?_)
    exact cR rfl (rt rfl) (rt rfl) ⟨yes hff (by rw [nV hf]; rfl), hE⟩
   ·have hff : ¬ fits64 (sgn true (natOf l1)) := by unfold fits64 sgn; simp; omega
    have hf' : (9223372036854775808 : Int) < ((natOf l1 : Nat) : Int) := by omega
    repeat' (first|refine aU rfl hb rfl ?_|refine nU rfl rfl hf' ?_|refine ai rfl ?_|refine aa ?_|refine aj ?_|refine ah rfl ?_|refine ae ?_|refine bG rfl rfl ?_|refine bP rfl rfl ?_|refine aP rfl ?_|refine ay rfl ?_|refine aB ?_|refine aJ ?_|refine aK ?_|refine aF ?_)
    exact cR rfl (rt rfl) (rt rfl) ⟨no hff rfl, hE⟩
  ·by_cases hf : natOf l1 < 9223372036854775808
   ·have hff : fits64 (sgn false (natOf l1)) := by unfold fits64 sgn; simp; omega
    repeat' (first|refine aU rfl hb rfl ?_|refine bv rfl rfl (by omega) ?_|refine du rfl (dg (by omega) (by omega)) ?_|refine ai rfl ?_|refine aa ?_|refine aj ?_|refine ah rfl ?_|refine ae ?_|refine bG rfl rfl ?_|refine bP rfl rfl ?_|refine aP rfl ?_|refine aC rfl ?_|refine ay rfl ?_|refine aB ?_|refine aK ?_|refine aX ?_|refine b6 ?_)
    exact cR rfl (rt rfl) (rt rfl) ⟨yes hff rfl, hE⟩
   ·have hff : ¬ fits64 (sgn false (natOf l1)) := by unfold fits64 sgn; simp; omega
    repeat' (first|refine aU rfl hb rfl ?_|refine bu rfl rfl (by omega) ?_|refine ai rfl ?_|refine aa ?_|refine aj ?_|refine ah rfl ?_|refine ae ?_|refine bG rfl rfl ?_|refine bP rfl rfl ?_|refine aP rfl ?_|refine ay rfl ?_|refine aB ?_|refine aJ ?_|refine aK ?_|refine aF ?_)
    exact cR rfl (rt rfl) (rt rfl) ⟨no hff rfl, hE⟩
end Go.Proofs.Ytiejljicpinheaa
