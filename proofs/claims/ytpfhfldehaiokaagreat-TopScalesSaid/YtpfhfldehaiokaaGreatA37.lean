import Derived.Shelf.SlSortCmp.WholeK
import Derived.Test.YtpfhfldehaiokaaGreatA35
set_option maxHeartbeats 16000000
namespace Go.Proofs.YtpfhfldehaiokaaGreat
open Go.W Go.LM Go.LA
theorem mU {a b : Int} (ha : a.natAbs ≤ 28000) (hb : b.natAbs ≤ 9) : -252000 ≤ a * b ∧ a * b ≤ 252000 := by
 have h := Nat.mul_le_mul ha hb
 rw [← Int.natAbs_mul] at h
 omega
theorem ro {n cap g o c : Nat} {a : Option Addr} {s : Nat → SD} {A : Mat} {f : Nat → Int} {w : World} (hM : MI w (some ⟨g, o, none⟩) n n s A) (hf : Sl w a (intC n f)) (hA : ∀ i j, i < n → j < n → (A i j).natAbs ≤ 28000) (hfb : ∀ i, i < n → (f i).natAbs ≤ 9) (hn : 1 ≤ n ∧ n ≤ 3) :
  CallsR Tryz.prog 64 #[.slice (some ⟨g, o, none⟩) n cap, .slice a n c] w fun v w' => ∃ gy, v = .slice (some ⟨gy, 0, none⟩) n n ∧ Blk w' gy 2 (intC n fun i => sm n fun j => A i j * f j) ∧ w.heap.size ≤ gy ∧ Ex w w' := by
 refine aE (args := [_, _]) Tryz.func64 rfl rfl ?_
 repeat' (first|refine eF (n := n) rfl rfl (by omega) (by omega) (fun gy w1 hn1 => tvv ?_)|refine aj rfl ?_|refine aa ?_|refine ak ?_|refine ai rfl ?_|refine ah ?_|refine bc rfl ?_|refine ay ?_)
 have hlo := hn1.lo
 have hpa : W.plain a := hf.plain (by rw [bU]; omega)
 refine aW (ι := Nat × (Nat → Int)) [6, 7, 8, 9, 15, 16, 17, 18, 19, 20, 21, 22, 23, 24, 25, 26, 27, 28, 29, 30, 31, 32, 33, 34, 35, 36, 37, 38, 39, 40] (fun t => [(15, .int .i64 (t.1 : Int))])
  (fun t w' => (t.1 ≤ n ∧ Ex w w') ∧ Blk w' gy 2 (intC n t.2) ∧ ∀ i, i < n → t.2 i = if i < t.1 then sm n (fun j => A i j * f j) else 0) (fun t => n - t.1)
  (0, fun _ => 0) ⟨rfl, trivial⟩ ⟨⟨Nat.zero_le _, hn1.ex⟩, hn1.blk, fun i _ => rfl⟩ ?_
 rintro ⟨i, y⟩ ξ w2 ⟨⟨hi, hE2⟩, hb2, hy2⟩
 simp only at hi hb2 hy2
 show CW _ _ _ _ (over [(15, .int .i64 (i : Int))] _) w2
 rcases Nat.lt_or_ge i n with him | him
 ·obtain ⟨p, d, e1, hpp, hS⟩ := (hM.ext hE2).get him (by omega)
  repeat' (first|refine bq rfl rfl (show (i : Int) < (n : Int) by omega) ?_|refine az (j := i) (a := some ⟨g, o, none⟩) rfl rfl ⟨_, _, rfl⟩ (by omega) ?_|refine aZ (j := i) (a := some ⟨g, o, none⟩) (n := n) (s := s) rfl (hM.ext hE2).top (by omega) e1 ?_|refine aj rfl ?_|refine aa ?_|refine ak ?_|refine ai rfl ?_|refine ah ?_|refine bc rfl ?_|refine aA rfl ?_|refine ay ?_|refine aC ?_)
  refine aW (ι := Nat × (Nat → Int)) [8, 9, 22, 23, 24, 25, 26, 27, 28, 29, 30, 31, 32, 33, 34, 35, 36, 37, 38, 39] (fun t => [(22, .int .i64 (t.1 : Int))])
   (fun t w' => (t.1 ≤ n ∧ Ex w w') ∧ Blk w' gy 2 (intC n t.2) ∧ ∀ l, l < n → t.2 l = if l = i then sm t.1 (fun j => A i j * f j) else y l) (fun t => n - t.1)
   (0, y) ⟨rfl, trivial⟩ ⟨⟨Nat.zero_le _, hE2⟩, hb2, fun l hl => by
    by_cases e : l = i
    ·show y l = if l = i then sm 0 (fun j => A i j * f j) else y l
     rw [if_pos e, e, hy2 i him, if_neg (Nat.lt_irrefl i)]; rfl
    ·show y l = if l = i then sm 0 (fun j => A i j * f j) else y l
     rw [if_neg e]⟩ ?_
  rintro ⟨j, z⟩ ξ2 w3 ⟨⟨hj, hE3⟩, hb3, hz3⟩
  simp only at hj hb3 hz3
  show CW _ _ _ _ (over [(22, .int .i64 (j : Int))] _) w3
  rcases Nat.lt_or_ge j n with hjm | hjm
  ·have ht := mU (hA i j him hjm) (hfb j hjm)
   have hs := qg (n := j) (f := fun j => A i j * f j) (M := 252000) fun l hl => mU (hA i l him (by omega)) (hfb l (by omega))
   have hj3 : (j : Int) * 252000 ≤ 756000 := by omega
   have hzi : z i = sm j (fun j => A i j * f j) := by rw [hz3 i him, if_pos rfl]
   have hrow3 : Sl w3 p (intC n (A i)) := by have := ((hM.ext hE3).row i him).2; rw [e1] at this; exact this
   have hf3 := hf.ext hE3
   repeat' (first|refine bq rfl rfl (show (j : Int) < (n : Int) by omega) ?_|refine aa ?_|refine ak ?_|refine ai rfl ?_|refine ah ?_|refine aA rfl ?_|refine aC ?_)
   refine ay ?_
   repeat' (first|refine az (j := j) (a := p) rfl rfl hpp (by omega) ?_|refine bu (j := j) (n := n) (f := A i) (a := p) rfl hrow3 hjm ?_|refine aj rfl ?_|refine aa ?_|refine ak ?_|refine ai rfl ?_|refine ah ?_)
   refine bn (late := [12]) (plan := [(0, none), (1, none), (2, none), (3, none), (4, none), (5, none), (6, none), (7, none), (8, none), (9, none), (10, none), (11, none), (12, some false)]) (fun w' => Ex w3 w') bD (by kernel_rfl) (Ex.refl w3).drew ?_
   have hEd := (Ex.refl w3).drew
   repeat' (first|refine az (j := i) (a := some ⟨gy, 0, none⟩) rfl rfl ⟨_, _, rfl⟩ (by omega) ?_|refine bu (j := i) (n := n) (f := z) (a := some ⟨gy, 0, none⟩) rfl (fun _ h => (hb3.ext h).sl) him ?_|refine az (j := j) (a := a) rfl rfl hpa (by omega) ?_|refine bu (j := j) (n := n) (f := f) (a := a) rfl (fun _ h => hf3.ext h) hjm ?_|refine cP rfl rfl (by omega) (by omega) ?_|refine aV rfl rfl (by omega) (by omega) ?_|refine aj rfl ?_)
   refine cT (j := i) (n := n) (f := z) (u := z i + A i j * f j) rfl rfl (hb3.ext hEd) him (fun w4 hc4 hb4 => ⟨fun h => (nomatch h), ?_⟩)
   repeat' (first|refine aj rfl ?_|refine aa ?_|refine ai rfl ?_|refine ah ?_|refine aV rfl rfl (by omega) (by omega) ?_|refine aJ ?_)
   refine ⟨⟨(j + 1, setF z i (z i + A i j * f j)), ⟨⟨hjm, (hE3.trans hEd).chg hc4 hlo⟩, hb4, fun l hl => ?_⟩, by simp only; omega, rfl, trivial⟩, (by (repeat (first|exact aG _ _ _|refine aB rfl ?_|refine ax rfl ?_|refine av rfl ?_|refine aw rfl ?_)))⟩
   simp only
   by_cases e : l = i
   ·subst e; rw [aI, if_pos rfl, bG, hzi]
   ·rw [aN _ _ e, if_neg e, hz3 l hl, if_neg e]
  ·obtain rfl : n = j := by omega
   repeat' (first|refine bp rfl rfl (by omega) ?_|refine aj rfl ?_|refine aa ?_|refine ak ?_|refine ai rfl ?_|refine ah ?_|refine aV rfl rfl (by omega) (by omega) ?_|refine ao rfl ?_|refine aT ?_|refine aO ?_|refine aU ?_|refine aJ ?_)
   refine ⟨⟨(i + 1, z), ⟨⟨him, hE3⟩, hb3, fun l hl => ?_⟩, by simp only; omega, rfl, trivial⟩, (by (repeat (first|exact aG _ _ _|refine aB rfl ?_|refine ax rfl ?_|refine av rfl ?_|refine aw rfl ?_)))⟩
   simp only
   rw [hz3 l hl]
   by_cases e : l = i
   ·subst e; rw [if_pos rfl, if_pos (by omega)]
   ·rw [if_neg e, hy2 l hl]
    by_cases h : l < i
    ·rw [if_pos h, if_pos (by omega)]
    ·rw [if_neg h, if_neg (by omega)]
 ·obtain rfl : n = i := by omega
  repeat' (first|refine bp rfl rfl (by omega) ?_|refine aj rfl ?_|refine aa ?_|refine ak ?_|refine ai rfl ?_|refine ah ?_|refine ao rfl ?_|refine aT ?_|refine aO ?_|refine aU ?_|refine aK ?_)
  rw [cJ (g := fun i => sm n fun j => A i j * f j) fun l hl => by rw [hy2 l hl, if_pos hl]] at hb2
  exact bo rfl (rt rfl) ⟨gy, rfl, hb2, hlo, hE2⟩
theorem wz {a b : Int} (ha : a.natAbs ≤ 9) (hb : b.natAbs ≤ 756000) : (a * b).natAbs ≤ 6804000 := by
 have h := Nat.mul_le_mul ha hb
 rw [Int.natAbs_mul]
 omega
theorem vw {n c d : Nat} {a b : Option Addr} {f z : Nat → Int} {w : World} (hf : Sl w a (intC n f)) (hz : Sl w b (intC n z)) (hfb : ∀ i, i < n → (f i).natAbs ≤ 9) (hzb : ∀ i, i < n → (z i).natAbs ≤ 756000) (hn : 1 ≤ n ∧ n ≤ 3) :
  CallsR Tryz.prog 63 #[.slice a n c, .slice b n d] w fun v w' => v = .tuple #[.int .i64 (sm n fun i => f i * z i), .bool true] ∧ Ex w w' := by
 have hpa : W.plain a := hf.plain (by rw [bU]; omega)
 have hpb : W.plain b := hz.plain (by rw [bU]; omega)
 refine aE (args := [_, _]) Tryz.func63 rfl rfl ?_
 repeat' (first|refine aj rfl ?_|refine aa ?_|refine ak ?_|refine ai rfl ?_|refine ah ?_)
 refine aH (fun g6 w1 hn1 => tvv ?_)
 refine aH (fun g7 w2 hn2 => tvv ?_)
 repeat' (first|refine aj rfl ?_|refine aa ?_|refine ak ?_|refine ai rfl ?_|refine ah ?_|refine bc rfl ?_|refine ay ?_)
 have o1 := hn1.lo
 have o2 := hn2.lo
 have b1 := hn1.blk.lt
 have z1 := hn1.ex.size
 refine aW (ι := Nat × Nat × Nat) [8, 9, 10, 17, 18, 19, 20, 21, 22, 23, 24, 25, 26, 27, 28, 29, 30, 31, 32, 33, 34, 35, 36, 37, 38, 39, 40, 41, 42, 43, 44, 45, 46, 47, 48, 49, 50, 51, 52, 53, 54, 55, 56, 57, 58, 59, 60, 61, 62, 63, 64, 65, 66, 67, 68, 69, 70, 71] (fun t => [(17, .int .i64 (t.1 : Int))])
  (fun t w' => (t.1 ≤ n ∧ Ex w w') ∧ Blk w' g6 144 (wdC t.2.1) ∧ Blk w' g7 144 (wdC t.2.2) ∧ (t.2.1 : Int) - (t.2.2 : Int) = sm t.1 (fun i => f i * z i) ∧ t.2.1 ≤ t.1 * 6804000 ∧ t.2.2 ≤ t.1 * 6804000) (fun t => n - t.1)
  (0, 0, 0) ⟨rfl, trivial⟩ ⟨⟨Nat.zero_le _, hn1.ex.trans hn2.ex⟩, hn1.blk.ext hn2.ex, hn2.blk, rfl, Nat.zero_le _, Nat.zero_le _⟩ ?_
 rintro ⟨i, p, q⟩ ξ w3 ⟨⟨hi, hE3⟩, hb6, hb7, hpq, hp, hq⟩
 simp only at hi hb6 hb7 hpq hp hq
 show CW _ _ _ _ (over [(17, .int .i64 (i : Int))] _) w3
 rcases Nat.lt_or_ge i n with him | him
 ·have hf3 := hf.ext hE3
  have hz3 := hz.ext hE3
  have hfi := hfb i him
  have hzi := hzb i him
  have hg67 : g6 ≠ g7 := by omega
  have hfz := wz hfi hzi
  have hxy : (f i).natAbs * (z i).natAbs ≤ 6804000 := by rw [← Int.natAbs_mul]; exact hfz
  rcases Int.lt_or_le (f i) 0 with hs1 | hs1 <;> rcases Int.lt_or_le (z i) 0 with hs2 | hs2
  ·have hxf : ((f i).natAbs : Int) = -f i := by omega
   have hxz : ((z i).natAbs : Int) = -z i := by omega
   have hxp : (((f i).natAbs * (z i).natAbs : Nat) : Int) = f i * z i := by rw [Int.natCast_mul, hxf, hxz, Int.neg_mul_neg]
   repeat' (first|refine bq rfl rfl (show (i : Int) < (n : Int) by omega) ?_|refine az (j := i) (a := a) rfl rfl hpa (by omega) ?_|refine bu (j := i) (n := n) (f := f) (a := a) rfl hf3 him ?_|refine az (j := i) (a := b) rfl rfl hpb (by omega) ?_|refine bu (j := i) (n := n) (f := z) (a := b) rfl hz3 him ?_|refine ee rfl rfl (by omega) ?_|refine bq rfl rfl (by omega) ?_|refine aY (n := 2) (g := g6) rfl hb6 rfl ?_|refine jy rfl (by omega) ?_|refine cF rfl (cV (by omega) (by omega)) ?_|refine aj rfl ?_|refine aa ?_|refine ak ?_|refine ai rfl ?_|refine ah ?_|refine bJ rfl rfl ?_|refine bY rfl rfl ?_|refine aA rfl ?_|refine ao rfl ?_|refine ay ?_|refine aC ?_)
   refine au (i9 (m := p) (x := (f i).natAbs) (y := (z i).natAbs) (by omega) (by omega) (by omega) (by omega) w3) (by
    show #[Value.agg (wdC p).toArray, Value.int .u64 (-f i), Value.int .u64 (-z i)] = _
    rw [hxf, hxz]) ?_
   rintro v w4 ⟨rfl, hE4⟩
   refine tvv ?_
   have hE34 := hE3.trans hE4
   refine aF (n := 2) (vs := wdC (p + (f i).natAbs * (z i).natAbs)) rfl rfl rfl rfl (hb6.ext hE4) rfl (fun w5 hc5 hb5 => tvv ?_)
   repeat' (first|refine aj rfl ?_|refine aa ?_|refine ai rfl ?_|refine ah ?_|refine aV rfl rfl (by omega) (by omega) ?_|refine aJ ?_)
   refine ⟨⟨(i + 1, p + (f i).natAbs * (z i).natAbs, q), ⟨⟨him, hE34.chg hc5 o1⟩, hb5, (hb7.ext hE4).chg hc5 (Ne.symm hg67), ?_, ?_, ?_⟩, by simp only; omega, rfl, trivial⟩, (by (repeat (first|exact aG _ _ _|refine aB rfl ?_|refine ax rfl ?_|refine av rfl ?_|refine aw rfl ?_)))⟩
   ·simp only
    rw [bG, ← hpq]
    omega
   ·show p + (f i).natAbs * (z i).natAbs ≤ (i + 1) * 6804000
    rw [Nat.add_mul, Nat.one_mul]; exact Nat.add_le_add hp hxy
   ·exact Nat.le_trans hq (Nat.mul_le_mul_right _ (Nat.le_succ i))
  ·have hxf : ((f i).natAbs : Int) = -f i := by omega
   have hxz : ((z i).natAbs : Int) = z i := by omega
   have hxp : (((f i).natAbs * (z i).natAbs : Nat) : Int) = -(f i * z i) := by rw [Int.natCast_mul, hxf, hxz, Int.neg_mul]
   repeat' (first|refine bq rfl rfl (show (i : Int) < (n : Int) by omega) ?_|refine az (j := i) (a := a) rfl rfl hpa (by omega) ?_|refine bu (j := i) (n := n) (f := f) (a := a) rfl hf3 him ?_|refine az (j := i) (a := b) rfl rfl hpb (by omega) ?_|refine bu (j := i) (n := n) (f := z) (a := b) rfl hz3 him ?_|refine ee rfl rfl (by omega) ?_|refine bq rfl rfl (by omega) ?_|refine bp rfl rfl (by omega) ?_|refine aY (n := 2) (g := g7) rfl hb7 rfl ?_|refine jy rfl (by omega) ?_|refine cF rfl (cV (by omega) (by omega)) ?_|refine aj rfl ?_|refine aa ?_|refine ak ?_|refine ai rfl ?_|refine ah ?_|refine bJ rfl rfl ?_|refine bY rfl rfl ?_|refine aA rfl ?_|refine ao rfl ?_|refine ay ?_|refine aC ?_)
   refine au (i9 (m := q) (x := (f i).natAbs) (y := (z i).natAbs) (by omega) (by omega) (by omega) (by omega) w3) (by
    show #[Value.agg (wdC q).toArray, Value.int .u64 (-f i), Value.int .u64 (z i)] = _
    rw [hxf, hxz]) ?_
   rintro v w4 ⟨rfl, hE4⟩
   refine tvv ?_
   have hE34 := hE3.trans hE4
   refine aF (n := 2) (vs := wdC (q + (f i).natAbs * (z i).natAbs)) rfl rfl rfl rfl (hb7.ext hE4) rfl (fun w5 hc5 hb5 => tvv ?_)
   repeat' (first|refine aj rfl ?_|refine aa ?_|refine ai rfl ?_|refine ah ?_|refine aV rfl rfl (by omega) (by omega) ?_|refine aJ ?_)
   refine ⟨⟨(i + 1, p, q + (f i).natAbs * (z i).natAbs), ⟨⟨him, hE34.chg hc5 (by omega)⟩, (hb6.ext hE4).chg hc5 hg67, hb5, ?_, ?_, ?_⟩, by simp only; omega, rfl, trivial⟩, (by (repeat (first|exact aG _ _ _|refine aB rfl ?_|refine ax rfl ?_|refine av rfl ?_|refine aw rfl ?_)))⟩
   ·simp only
    rw [bG, ← hpq]
    omega
   ·exact Nat.le_trans hp (Nat.mul_le_mul_right _ (Nat.le_succ i))
   ·show q + (f i).natAbs * (z i).natAbs ≤ (i + 1) * 6804000
    rw [Nat.add_mul, Nat.one_mul]; exact Nat.add_le_add hq hxy
  ·have hxf : ((f i).natAbs : Int) = f i := by omega
   have hxz : ((z i).natAbs : Int) = -z i := by omega
   have hxp : (((f i).natAbs * (z i).natAbs : Nat) : Int) = -(f i * z i) := by rw [Int.natCast_mul, hxf, hxz, Int.mul_neg]
   repeat' (first|refine bq rfl rfl (show (i : Int) < (n : Int) by omega) ?_|refine az (j := i) (a := a) rfl rfl hpa (by omega) ?_|refine bu (j := i) (n := n) (f := f) (a := a) rfl hf3 him ?_|refine az (j := i) (a := b) rfl rfl hpb (by omega) ?_|refine bu (j := i) (n := n) (f := z) (a := b) rfl hz3 him ?_|refine iL rfl rfl (by omega) ?_|refine ee rfl rfl (by omega) ?_|refine bp rfl rfl (by omega) ?_|refine aY (n := 2) (g := g7) rfl hb7 rfl ?_|refine jy rfl (by omega) ?_|refine cF rfl (cV (by omega) (by omega)) ?_|refine aj rfl ?_|refine aa ?_|refine ak ?_|refine ai rfl ?_|refine ah ?_|refine bJ rfl rfl ?_|refine bY rfl rfl ?_|refine aA rfl ?_|refine ao rfl ?_|refine ay ?_|refine aC ?_)
   refine au (i9 (m := q) (x := (f i).natAbs) (y := (z i).natAbs) (by omega) (by omega) (by omega) (by omega) w3) (by
    show #[Value.agg (wdC q).toArray, Value.int .u64 (f i), Value.int .u64 (-z i)] = _
    rw [hxf, hxz]) ?_
   rintro v w4 ⟨rfl, hE4⟩
   refine tvv ?_
   have hE34 := hE3.trans hE4
   refine aF (n := 2) (vs := wdC (q + (f i).natAbs * (z i).natAbs)) rfl rfl rfl rfl (hb7.ext hE4) rfl (fun w5 hc5 hb5 => tvv ?_)
   repeat' (first|refine aj rfl ?_|refine aa ?_|refine ai rfl ?_|refine ah ?_|refine aV rfl rfl (by omega) (by omega) ?_|refine aJ ?_)
   refine ⟨⟨(i + 1, p, q + (f i).natAbs * (z i).natAbs), ⟨⟨him, hE34.chg hc5 (by omega)⟩, (hb6.ext hE4).chg hc5 hg67, hb5, ?_, ?_, ?_⟩, by simp only; omega, rfl, trivial⟩, (by (repeat (first|exact aG _ _ _|refine aB rfl ?_|refine ax rfl ?_|refine av rfl ?_|refine aw rfl ?_)))⟩
   ·simp only
    rw [bG, ← hpq]
    omega
   ·exact Nat.le_trans hp (Nat.mul_le_mul_right _ (Nat.le_succ i))
   ·show q + (f i).natAbs * (z i).natAbs ≤ (i + 1) * 6804000
    rw [Nat.add_mul, Nat.one_mul]; exact Nat.add_le_add hq hxy
  ·have hxf : ((f i).natAbs : Int) = f i := by omega
   have hxz : ((z i).natAbs : Int) = z i := by omega
   have hxp : (((f i).natAbs * (z i).natAbs : Nat) : Int) = f i * z i := by rw [Int.natCast_mul, hxf, hxz]
   repeat' (first|refine bq rfl rfl (show (i : Int) < (n : Int) by omega) ?_|refine az (j := i) (a := a) rfl rfl hpa (by omega) ?_|refine bu (j := i) (n := n) (f := f) (a := a) rfl hf3 him ?_|refine az (j := i) (a := b) rfl rfl hpb (by omega) ?_|refine bu (j := i) (n := n) (f := z) (a := b) rfl hz3 him ?_|refine iL rfl rfl (by omega) ?_|refine aY (n := 2) (g := g6) rfl hb6 rfl ?_|refine cF rfl (cV (by omega) (by omega)) ?_|refine aj rfl ?_|refine aa ?_|refine ak ?_|refine ai rfl ?_|refine ah ?_|refine bJ rfl rfl ?_|refine aA rfl ?_|refine ay ?_|refine aC ?_)
   refine au (i9 (m := p) (x := (f i).natAbs) (y := (z i).natAbs) (by omega) (by omega) (by omega) (by omega) w3) (by
    show #[Value.agg (wdC p).toArray, Value.int .u64 (f i), Value.int .u64 (z i)] = _
    rw [hxf, hxz]) ?_
   rintro v w4 ⟨rfl, hE4⟩
   refine tvv ?_
   have hE34 := hE3.trans hE4
   refine aF (n := 2) (vs := wdC (p + (f i).natAbs * (z i).natAbs)) rfl rfl rfl rfl (hb6.ext hE4) rfl (fun w5 hc5 hb5 => tvv ?_)
   repeat' (first|refine aj rfl ?_|refine aa ?_|refine ai rfl ?_|refine ah ?_|refine aV rfl rfl (by omega) (by omega) ?_|refine aJ ?_)
   refine ⟨⟨(i + 1, p + (f i).natAbs * (z i).natAbs, q), ⟨⟨him, hE34.chg hc5 o1⟩, hb5, (hb7.ext hE4).chg hc5 (Ne.symm hg67), ?_, ?_, ?_⟩, by simp only; omega, rfl, trivial⟩, (by (repeat (first|exact aG _ _ _|refine aB rfl ?_|refine ax rfl ?_|refine av rfl ?_|refine aw rfl ?_)))⟩
   ·simp only
    rw [bG, ← hpq]
    omega
   ·show p + (f i).natAbs * (z i).natAbs ≤ (i + 1) * 6804000
    rw [Nat.add_mul, Nat.one_mul]; exact Nat.add_le_add hp hxy
   ·exact Nat.le_trans hq (Nat.mul_le_mul_right _ (Nat.le_succ i))
 ·obtain rfl : n = i := by omega
  repeat' (first|refine bp rfl rfl (by omega) ?_|refine aY (n := 2) (g := g6) rfl hb6 rfl ?_|refine aY (n := 2) (g := g7) rfl hb7 rfl ?_|refine aa ?_|refine ak ?_|refine ai rfl ?_|refine ah ?_|refine ao rfl ?_|refine aT ?_|refine aO ?_|refine aU ?_)
  refine au (kN (p := p) (q := q) (by omega) (by omega) w3) rfl ?_
  rintro v w4 ⟨rfl, hE4⟩
  refine tvv ?_
  by_cases hpq2 : q ≤ p
  ·rw [if_pos hpq2]
   repeat' (first|refine aR rfl rfl ?_|refine aj rfl ?_|refine aa ?_|refine ak ?_|refine ai rfl ?_|refine ah ?_|refine aA rfl ?_|refine aK ?_|refine bf ?_)
   exact dw rfl (rt rfl) (rt rfl) ⟨by show Value.tuple #[Value.int .i64 ((p - q : Nat) : Int), .bool true] = _; rw [← hpq, Int.ofNat_sub hpq2], hE3.trans hE4⟩
  ·rw [if_neg hpq2]
   repeat' (first|refine aR rfl rfl ?_|refine aY (n := 2) (g := g6) rfl (hb6.ext hE4) rfl ?_|refine aY (n := 2) (g := g7) rfl (hb7.ext hE4) rfl ?_|refine aj rfl ?_|refine aa ?_|refine ak ?_|refine ai rfl ?_|refine ah ?_|refine ao rfl ?_|refine aC ?_)
   refine au (kN (p := q) (q := p) (by omega) (by omega) w4) rfl ?_
   rintro v w5 ⟨rfl, hE5⟩
   refine tvv ?_
   rw [if_pos (by omega)]
   repeat' (first|refine aR rfl rfl ?_|refine jy rfl (by omega) ?_|refine aj rfl ?_|refine aa ?_|refine ak ?_|refine ai rfl ?_|refine ah ?_|refine aK ?_)
   exact dw rfl (rt rfl) (rt rfl) ⟨by
    show Value.tuple #[Value.int .i64 (-((q - p : Nat) : Int)), .bool true] = _
    rw [← hpq, show -((q - p : Nat) : Int) = (p : Int) - (q : Int) by omega], (hE3.trans hE4).trans hE5⟩
end Go.Proofs.YtpfhfldehaiokaaGreat
namespace Go.LA
def cmq (x y : Int) : Int := if x < y then -1 else if y < x then 1 else 0
theorem gS {x y : Int} : cmq x y = 0 ↔ x = y := by
 unfold cmq
 constructor
 ·intro h; split at h
  ·omega
  ·split at h <;> omega
 ·rintro rfl; rw [if_neg (by omega), if_neg (by omega)]
theorem sg (x y : Int) : cmq y x = -cmq x y := by
 unfold cmq
 rcases Int.lt_trichotomy x y with h | h | h
 ·rw [if_neg (by omega), if_pos h, if_pos h]; rfl
 ·subst h; rw [if_neg (by omega), if_neg (by omega)]; rfl
 ·rw [if_pos h, if_neg (by omega), if_pos h]
theorem ku {x y : Int} : cmq x y < 0 ↔ x < y := by
 unfold cmq
 constructor
 ·intro h; split at h
  ·assumption
  ·split at h <;> omega
 ·intro h; rw [if_pos h]; decide
def lexV (f g : Nat → Int) : Nat → Nat → Int
 | 0, _ => 0
 | m + 1, i => if cmq (f i) (g i) = 0 then lexV f g m (i + 1) else cmq (f i) (g i)
theorem tj (f g : Nat → Int) (m i : Nat) : lexV f g (m + 1) i = if cmq (f i) (g i) = 0 then lexV f g m (i + 1) else cmq (f i) (g i) := rfl
theorem qk (f g : Nat → Int) : ∀ m i, lexV g f m i = -lexV f g m i
 | 0, _ => by unfold lexV; rfl
 | m + 1, i => by
  unfold lexV
  rw [sg (f i) (g i)]
  by_cases h : cmq (f i) (g i) = 0
  ·rw [if_pos h, if_pos (by omega), qk f g m (i + 1)]
  ·rw [if_neg h, if_neg (by omega)]
theorem nZ {f g : Nat → Int} : ∀ {m i : Nat}, lexV f g m i = 0 → ∀ j, i ≤ j → j < i + m → f j = g j
 | 0, _, _, j, h1, h2 => by omega
 | m + 1, i, h, j, h1, h2 => by
  unfold lexV at h
  by_cases hc : cmq (f i) (g i) = 0
  ·rw [if_pos hc] at h
   by_cases e : j = i
   ·subst e; exact gS.1 hc
   ·exact nZ h j (by omega) (by omega)
  ·rw [if_neg hc] at h; exact absurd h hc
theorem mV {f g k : Nat → Int} : ∀ {m i : Nat}, lexV f g m i < 0 → lexV g k m i < 0 → lexV f k m i < 0
 | 0, _, h, _ => by unfold lexV at h; omega
 | m + 1, i, h1, h2 => by
  unfold lexV at h1 h2 ⊢
  by_cases a : cmq (f i) (g i) = 0
  ·rw [if_pos a] at h1
   have e := gS.1 a
   rw [e]
   by_cases b : cmq (g i) (k i) = 0
   ·rw [if_pos b] at h2 ⊢; exact mV h1 h2
   ·rw [if_neg b] at h2 ⊢; exact h2
  ·rw [if_neg a] at h1
   have l1 := ku.1 h1
   by_cases b : cmq (g i) (k i) = 0
   ·have e := gS.1 b
    rw [← e, if_neg a]; exact h1
   ·rw [if_neg b] at h2
    have l2 := ku.1 h2
    have l3 : cmq (f i) (k i) < 0 := ku.2 (by omega)
    rw [if_neg (by omega)]; exact l3
theorem mW {f g f' g' : Nat → Int} : ∀ {m i : Nat}, (∀ j, i ≤ j → j < i + m → f j = f' j) → (∀ j, i ≤ j → j < i + m → g j = g' j) → lexV f g m i = lexV f' g' m i
 | 0, _, _, _ => rfl
 | m + 1, i, h1, h2 => by
  unfold lexV
  rw [h1 i (by omega) (by omega), h2 i (by omega) (by omega), mW (m := m) (i := i + 1) (fun j hj hj2 => h1 j (by omega) (by omega)) fun j hj hj2 => h2 j (by omega) (by omega)]
def cmpK (n : Nat) (k1 : Int) (f : Nat → Int) (k2 : Int) (g : Nat → Int) : Int := if cmq k1 k2 = 0 then lexV f g n 0 else cmq k1 k2
theorem mX (n : Nat) (k1 : Int) (f : Nat → Int) (k2 : Int) (g : Nat → Int) : cmpK n k2 g k1 f = -cmpK n k1 f k2 g := by
 unfold cmpK
 rw [sg k1 k2, qk f g]
 by_cases h : cmq k1 k2 = 0
 ·rw [if_pos h, if_pos (by omega)]
 ·rw [if_neg h, if_neg (by omega)]
theorem n0 {n : Nat} {k1 k2 : Int} {f g : Nat → Int} (h : cmpK n k1 f k2 g = 0) : k1 = k2 ∧ ∀ j, j < n → f j = g j := by
 unfold cmpK at h
 by_cases hc : cmq k1 k2 = 0
 ·rw [if_pos hc] at h
  exact ⟨gS.1 hc, fun j hj => nZ h j (Nat.zero_le _) (by omega)⟩
 ·rw [if_neg hc] at h; exact absurd h hc
theorem mY {n : Nat} {k1 k2 k3 : Int} {f g k : Nat → Int} (h1 : cmpK n k1 f k2 g < 0) (h2 : cmpK n k2 g k3 k < 0) : cmpK n k1 f k3 k < 0 := by
 unfold cmpK at *
 by_cases a : cmq k1 k2 = 0
 ·rw [if_pos a] at h1
  have e := gS.1 a
  rw [e]
  by_cases b : cmq k2 k3 = 0
  ·rw [if_pos b] at h2 ⊢; exact mV h1 h2
  ·rw [if_neg b] at h2 ⊢; exact h2
 ·rw [if_neg a] at h1
  have l1 := ku.1 h1
  by_cases b : cmq k2 k3 = 0
  ·have e := gS.1 b
   rw [← e, if_neg a]; exact h1
  ·rw [if_neg b] at h2
   have l2 := ku.1 h2
   have l3 : cmq k1 k3 < 0 := ku.2 (by omega)
   rw [if_neg (by omega)]; exact l3
theorem wB {n : Nat} {k1 k2 k3 : Int} {f g k : Nat → Int} (h : cmpK n k1 f k2 g = 0) : cmpK n k1 f k3 k = cmpK n k2 g k3 k := by
 obtain ⟨h1, h2⟩ := n0 h
 unfold cmpK
 rw [h1, mW (fun j _ hj => h2 j (by omega)) fun j _ _ => rfl]
theorem vy {n : Nat} {k1 k2 k3 : Int} {f g k : Nat → Int} (h1 : ¬ cmpK n k1 f k2 g < 0) (h2 : ¬ cmpK n k2 g k3 k < 0) : ¬ cmpK n k1 f k3 k < 0 := by
 intro h
 by_cases e : cmpK n k1 f k2 g = 0
 ·rw [wB e] at h; exact h2 h
 ·have n1 := mX n k1 f k2 g
  have := mY (k1 := k2) (f := g) (k2 := k1) (g := f) (k3 := k3) (k := k) (by omega) h
  exact h2 this
end Go.LA
namespace Go.W
section
variable {P : Program} {S : World → Prop} {ops : List Oper} {K : Env → World → Prop} {rest : List (Oper × Option Bool)} {ρ : Env} {w : World} {kf : Bool} {d : Nat} {T : TypeId} {pos : String} {af : Array Edge}
theorem wX {x y : Operand} {T' T'' : TypeId} {b : Option Bool} {k : IntKind} {m m' : Int} (hx : ev ρ x = .int k m) (hy : ev ρ y = .int k m') (hd : m ≠ m') (h : RR P S ops K rest (upd ρ d (.bool true)) w) : RR P S ops K ((⟨some d, .binOp .neq T' x y T'', T, pos, af, none⟩, b) :: rest) ρ w :=
 pm hx hy (by rw [decide_eq_true hd]; exact h)
theorem vz {x : Operand} {T1 : TypeId} {vs : List Value} (hx : ev ρ x = .agg vs.toArray) (h : ∀ w1, w1 = w.alloc (.cells vs.toArray T1) → New w w1 w.heap.size T1 vs → (kf = true → S w → S w1) ∧ RR P S ops K rest (upd ρ d (.pointer (some ⟨w.heap.size, 0, none⟩))) w1) :
  RR P S ops K ((⟨some d, .box T1 x, T, pos, af, none⟩, some kf) :: rest) ρ w := by
 refine dq rfl ?_
 unfold OpW
 have : (execOp (ev ρ) ⟨some d, .box T1 x, T, pos, af, none⟩).run P w = .ok (.value (.pointer (some ⟨w.heap.size, 0, none⟩))) (w.alloc (.cells vs.toArray T1)) := by
  simp [execOp, Instr.box, hx, newVar, newRow, Value.cells]
 rw [this]
 exact h _ rfl (New.of_alloc w T1 vs)
theorem xN {T1 E y : Nat} {x0 x1 : Operand} {m0 m1 : Int} {z : Value} [hT : Slc P T1 E 1 y] [Zro P E z] (h0 : ev ρ x0 = .int .i64 m0) (h1 : ev ρ x1 = .int .i64 m1)
  (h : ∀ w1, w1 = w.alloc (.cells #[.int .i64 m0, .int .i64 m1] E) → New w w1 w.heap.size E [.int .i64 m0, .int .i64 m1] → (kf = true → S w → S w1) ∧ RR P S ops K rest (upd ρ d (.slice (some ⟨w.heap.size, 0, none⟩) 2 2)) w1) :
  RR P S ops K ((⟨some d, .buildSlice T1 2 #[(0, x0), (1, x1)], T, pos, af, none⟩, some kf) :: rest) ρ w := by
 refine dq rfl ?_
 unfold OpW
 have hz := gC (P := P) (w := w) (T := E) (v := z)
 obtain ⟨i0, hi0, hzz⟩ := Option.map_eq_some_iff.1 hT.sz
 simp only [Prod.mk.injEq] at hzz
 have hu := run_underlying (P := P) (t := T1) hT.un w
 have hsz : (sizeOf E).run P w = .ok 1 w := fx (by rw [hi0]; simp [hzz.1])
 have : (execOp (ev ρ) ⟨some d, .buildSlice T1 2 #[(0, x0), (1, x1)], T, pos, af, none⟩).run P w = .ok (.value (.slice (some ⟨w.heap.size, 0, none⟩) 2 2)) (w.alloc (.cells #[.int .i64 m0, .int .i64 m1] E)) := by
  simp only [execOp, Instr.buildSlice]
  have er : Array.range 2 = #[0, 1] := by decide
  simp [hu, hsz, hz, h0, h1, Instr.fill, newRow, er, Value.cells]
 rw [this]
 exact h _ rfl (New.of_alloc w E _)
end
end Go.W
namespace Go.Proofs.YtpfhfldehaiokaaGreat
open Go.W Go.LM Go.LA Go.Sort
theorem mZ (z : Int) (w : World) : CallsR Tryz.prog 132 #[.int .i64 z] w fun v w' => v = .bool false ∧ w' = w := by
 refine aE (args := [_]) Tryz.func132 rfl rfl ?_
 repeat' (first|refine eI rfl rfl rfl ?_|refine aj rfl ?_|refine aa ?_|refine ak ?_|refine ai rfl ?_|refine ah ?_|refine aK ?_)
 exact bo rfl (rt rfl) ⟨rfl, rfl⟩
theorem n5 (x y : Int) (w : World) : CallsR Tryz.prog 102 #[.int .i64 x, .int .i64 y] w fun v w' => v = .int .i64 (cmq x y) ∧ w' = w := by
 refine aE (args := [_, _]) Tryz.func102 rfl rfl ?_
 repeat' (first|refine aj rfl ?_|refine aa ?_|refine ak ?_|refine ai rfl ?_|refine ah ?_)
 refine au (mZ x w) rfl ?_
 rintro v w2 ⟨rfl, rfl⟩
 refine tvv ?_
 repeat' (first|refine aj rfl ?_|refine aa ?_|refine ak ?_|refine ai rfl ?_|refine ah ?_)
 refine au (mZ y w2) rfl ?_
 rintro v w3 ⟨rfl, rfl⟩
 refine tvv ?_
 repeat' (first|refine aj rfl ?_|refine aa ?_|refine ak ?_|refine ai rfl ?_|refine ah ?_|refine ao rfl ?_|refine aQ rfl (fun hc => ?_) (fun hc => ?_)|refine aK ?_|refine bf ?_|refine aC ?_)
 ·exact bo rfl (rt rfl) ⟨congrArg (Value.int .i64) (show (-1 : Int) = _ by unfold cmq; rw [if_pos hc]), rfl⟩
 ·exact bo rfl (rt rfl) ⟨congrArg (Value.int .i64) (show (1 : Int) = _ by unfold cmq; rw [if_neg (by assumption), if_pos (by assumption)]), rfl⟩
 ·exact bo rfl (rt rfl) ⟨congrArg (Value.int .i64) (show (0 : Int) = _ by unfold cmq; rw [if_neg (by assumption), if_neg (by assumption)]), rfl⟩
theorem tn {n c d : Nat} {a b : Option Addr} {f g : Nat → Int} {w : World} (hA : Sl w a (intC n f)) (hB : Sl w b (intC n g)) (hn : n ≤ 1000) :
  CallsR Tryz.prog 133 #[.slice a n c, .slice b n d] w fun v w' => v = .int .i64 (lexV f g n 0) ∧ w' = w := by
 refine aE (args := [_, _]) Tryz.func133 rfl rfl ?_
 repeat' (first|refine aj rfl ?_|refine aa ?_|refine ak ?_|refine ai rfl ?_|refine ah ?_|refine bc rfl ?_|refine ay ?_)
 refine aW (ι := Nat) [4, 5, 6, 7, 8, 11, 12, 13, 14, 15, 16, 17, 18, 19, 20, 21, 22, 23, 24, 25, 26, 27, 28, 29, 30] (fun i => [(11, .int .i64 (i : Int))])
  (fun i w' => i ≤ n ∧ w' = w ∧ lexV f g (n - i) i = lexV f g n 0) (fun i => n - i) 0 ⟨rfl, trivial⟩ ⟨Nat.zero_le _, rfl, rfl⟩ ?_
 rintro i ξ w' ⟨hi, rfl, hl⟩
 show CW _ _ _ _ (over [(11, .int .i64 (i : Int))] _) w'
 rcases Nat.lt_or_ge i n with him | him
 ·have hpa : W.plain a := hA.plain (by rw [bU]; omega)
  have hpb : W.plain b := hB.plain (by rw [bU]; omega)
  obtain ⟨m, hm⟩ : ∃ m, n - i = m + 1 := ⟨n - i - 1, by omega⟩
  have hm2 : n - (i + 1) = m := by omega
  rw [hm, tj] at hl
  repeat' (first|refine bq rfl rfl (by omega) ?_|refine az (j := i) (a := a) rfl rfl hpa (by omega) ?_|refine bu (j := i) (n := n) (f := f) (a := a) rfl hA him ?_|refine ee rfl rfl (by omega) ?_|refine az (j := i) (a := b) rfl rfl hpb (by omega) ?_|refine bu (j := i) (n := n) (f := g) (a := b) rfl hB him ?_|refine aj rfl ?_|refine aa ?_|refine ak ?_|refine ai rfl ?_|refine ah ?_|refine bc rfl ?_|refine aA rfl ?_|refine ao rfl ?_|refine ay ?_|refine aC ?_)
  refine au (n5 (f i) (g i) w') rfl ?_
  rintro v w2 ⟨rfl, rfl⟩
  refine tvv ?_
  by_cases hc : cmq (f i) (g i) = 0
  ·rw [if_pos hc] at hl
   repeat' (first|refine eI rfl rfl hc ?_|refine aj rfl ?_|refine aa ?_|refine ak ?_|refine ai rfl ?_|refine ah ?_|refine aV rfl rfl (by omega) (by omega) ?_|refine ao rfl ?_|refine aJ ?_|refine aC ?_)
   exact ⟨⟨i + 1, ⟨him, rfl, by rw [hm2]; exact hl⟩, by omega, rfl, trivial⟩, (by (repeat (first|exact aG _ _ _|refine aB rfl ?_|refine ax rfl ?_|refine av rfl ?_|refine aw rfl ?_)))⟩
  ·rw [if_neg hc] at hl
   repeat' (first|refine wX rfl rfl hc ?_|refine aj rfl ?_|refine aa ?_|refine ak ?_|refine ai rfl ?_|refine ah ?_|refine aA rfl ?_|refine aK ?_|refine bf ?_|refine cj ?_)
   exact bo rfl (rt rfl) ⟨congrArg (Value.int .i64) hl, rfl⟩
 ·obtain rfl : i = n := by omega
  rw [Nat.sub_self] at hl
  have hl : (0 : Int) = lexV f g i 0 := hl
  repeat' (first|refine bp rfl rfl (by omega) ?_|refine aj rfl ?_|refine aa ?_|refine ak ?_|refine ai rfl ?_|refine ah ?_|refine bc rfl ?_|refine ao rfl ?_|refine aT ?_|refine aO ?_|refine aU ?_|refine aK ?_|refine aC ?_)
  exact bo rfl (rt rfl) ⟨congrArg (Value.int .i64) hl, rfl⟩
theorem tp {n c d : Nat} {a b : Option Addr} {f g : Nat → Int} {w : World} (hA : Sl w a (intC n f)) (hB : Sl w b (intC n g)) (hn : n ≤ 1000) :
  CallsR Tryz.prog 103 #[.slice a n c, .slice b n d] w fun v w' => v = .int .i64 (lexV f g n 0) ∧ w' = w := by
 refine aE (args := [_, _]) Tryz.func103 rfl rfl ?_
 repeat' (first|refine aj rfl ?_|refine aa ?_|refine ak ?_|refine ai rfl ?_|refine ah ?_)
 refine au (tn hA hB hn) rfl ?_
 rintro v w2 ⟨rfl, rfl⟩
 refine tvv ?_
 repeat' (first|refine aj rfl ?_|refine aa ?_|refine ah ?_|refine aK ?_)
 exact bo rfl (rt rfl) ⟨rfl, rfl⟩
theorem rp {a : Option Addr} {f : Nat → Int} {w : World} (hA : Sl w a (intC 2 f)) :
  CallsR Tryz.prog 101 #[.slice a 2 2] w fun v w' => v = .int .i64 (if f 0 = 0 then f 1 else f 0) ∧ w' = w := by
 have hpa : W.plain a := hA.plain (by rw [bU]; omega)
 refine aE (args := [_]) Tryz.func101 rfl rfl ?_
 repeat' (first|refine aj rfl ?_|refine aa ?_|refine ak ?_|refine ai rfl ?_|refine ah ?_|refine bc rfl ?_|refine ay ?_)
 refine aW (ι := Nat) [2, 5, 8, 9, 10, 11, 12, 13, 14, 15, 16] (fun i => [(8, .int .i64 (i : Int))])
  (fun i w' => i ≤ 2 ∧ w' = w ∧ ∀ j, j < i → f j = 0) (fun i => 2 - i) 0 ⟨rfl, trivial⟩ ⟨by omega, rfl, fun j hj => absurd hj (Nat.not_lt_zero j)⟩ ?_
 rintro i ξ w' ⟨hi, rfl, hz⟩
 show CW _ _ _ _ (over [(8, .int .i64 (i : Int))] _) w'
 rcases Nat.lt_or_ge i 2 with him | him
 ·by_cases hc : f i = 0
  ·repeat' (first|refine bq rfl rfl (by omega) ?_|refine az (j := i) (a := a) rfl rfl hpa (by omega) ?_|refine bu (j := i) (n := 2) (f := f) (a := a) rfl hA him ?_|refine eI rfl rfl hc ?_|refine aj rfl ?_|refine aa ?_|refine ak ?_|refine ai rfl ?_|refine ah ?_|refine aV rfl rfl (by omega) (by omega) ?_|refine aA rfl ?_|refine ao rfl ?_|refine ay ?_|refine aJ ?_|refine aC ?_)
   refine ⟨⟨i + 1, ⟨him, rfl, fun j hj => ?_⟩, by omega, rfl, trivial⟩, (by (repeat (first|exact aG _ _ _|refine aB rfl ?_|refine ax rfl ?_|refine av rfl ?_|refine aw rfl ?_)))⟩
   by_cases e : j = i
   ·subst e; exact hc
   ·exact hz j (by omega)
  ·repeat' (first|refine bq rfl rfl (by omega) ?_|refine az (j := i) (a := a) rfl rfl hpa (by omega) ?_|refine bu (j := i) (n := 2) (f := f) (a := a) rfl hA him ?_|refine wX rfl rfl hc ?_|refine aj rfl ?_|refine aa ?_|refine ak ?_|refine ai rfl ?_|refine ah ?_|refine aA rfl ?_|refine ay ?_|refine aK ?_|refine bf ?_|refine cj ?_|refine aC ?_)
   refine bo rfl (rt rfl) ⟨congrArg (Value.int .i64) ?_, rfl⟩
   obtain rfl | rfl : i = 0 ∨ i = 1 := by omega
   ·rw [if_neg hc]
   ·rw [if_pos (hz 0 (by omega))]
 ·obtain rfl : i = 2 := by omega
  repeat' (first|refine bp rfl rfl (by omega) ?_|refine aj rfl ?_|refine aa ?_|refine ak ?_|refine ai rfl ?_|refine ah ?_|refine ao rfl ?_|refine aT ?_|refine aO ?_|refine aU ?_|refine aK ?_)
  refine bo rfl (rt rfl) ⟨congrArg (Value.int .i64) ?_, rfl⟩
  rw [if_pos (hz 0 (by omega)), hz 1 (by omega)]
theorem n7 {n c d : Nat} {a b : Option Addr} {k1 k2 : Int} {f g : Nat → Int} {w : World} (hA : Sl w a (intC n f)) (hB : Sl w b (intC n g)) (hn : n ≤ 1000) :
  CallsR Tryz.prog 61 #[.agg #[.int .i64 k1, .slice a n c], .agg #[.int .i64 k2, .slice b n d]] w fun v w' => v = .int .i64 (cmpK n k1 f k2 g) ∧ ∃ q os, w' = grow (w.drewN q) os := by
 refine aE (args := [_, _]) Tryz.func61 rfl rfl ?_
 repeat' (first|refine ak ?_|refine ai rfl ?_)
 refine vz (vs := [.int .i64 k1, .slice a n c]) rfl (fun w1 ew1 hn1 => tvv ?_)
 refine vz (vs := [.int .i64 k2, .slice b n d]) rfl (fun w2 ew2 hn2 => tvv ?_)
 repeat' (first|refine aj rfl ?_|refine aa ?_|refine ak ?_|refine ah ?_)
 have hb1 := hn1.blk.ext hn2.ex
 have hE2 := hn1.ex.trans hn2.ex
 have hE3 := hE2.drew
 refine bn (late := []) (plan := [(0, none), (1, none), (2, none), (3, none), (5, none), (6, none), (7, none), (8, none), (4, some true), (9, some true), (10, some true), (11, some true), (12, none)]) (fun w' => Blk w' w.heap.size 102 [.int .i64 k1, .slice a n c] ∧ Blk w' w1.heap.size 102 [.int .i64 k2, .slice b n d]) bD (by kernel_rfl) ⟨hb1.drew, hn2.blk.drew⟩ ?_
 repeat' (first|refine aP (g := w.heap.size) rfl (fun _ h => h.1) rfl ?_|refine aP (g := w1.heap.size) rfl (fun _ h => h.2) rfl ?_|refine aM rfl ?_)
 refine au (n5 k1 k2 w2.drew) rfl ?_
 rintro v w4 ⟨rfl, rfl⟩
 refine ⟨fun _ h => h, ?_⟩
 refine au (tp (hA.ext hE3) (hB.ext hE3) hn) rfl ?_
 rintro v w4 ⟨rfl, rfl⟩
 refine ⟨fun _ h => h, ?_⟩
 refine xN (E := 3) (m0 := cmq k1 k2) (m1 := lexV f g n 0) rfl rfl (fun w5 ew5 hn5 => ⟨fun _ h => ⟨h.1.ext hn5.ex, h.2.ext hn5.ex⟩, ?_⟩)
 refine au (rp (f := fun i => if i = 0 then cmq k1 k2 else lexV f g n 0) (w := w5) hn5.blk.sl) rfl ?_
 rintro v w6 ⟨rfl, rfl⟩
 refine ⟨fun _ h => h, ?_⟩
 repeat' (first|refine aj rfl ?_|refine aa ?_|refine ah ?_|refine aK ?_)
 refine bo rfl (rt rfl) ⟨rfl, 1, #[.cells #[.int .i64 k1, .slice a n c] 102, .cells #[.int .i64 k2, .slice b n d] 102, .cells #[.int .i64 (cmq k1 k2), .int .i64 (lexV f g n 0)] 3], ?_⟩
 have e : ∀ x y z : Obj, ((w.alloc x).alloc y).drew.alloc z = grow (w.drewN 1) #[x, y, z] := fun x y z => by
  show ({ w with heap := ((w.heap.push x).push y).push z, drawn := w.drawn + 1 } : World) = { w with heap := w.heap ++ #[x, y, z], drawn := w.drawn + 1 }
  congr 1
 rw [ew5, ew2, ew1]
 exact e _ _ _
end Go.Proofs.YtpfhfldehaiokaaGreat
namespace Go.Proofs
open Go.Shelf
def Tryz.sortK_ren : Go.Shelf.Ren := ⟨fun | 6 => 109 | 15 => 138 | 14 => 137 | 28 => 157 | 29 => 114 | 20 => 149 | 21 => 150 | 22 => 151 | 23 => 152 | 24 => 153 | 25 => 154 | 26 => 155 | 27 => 156 | 46 => 164 | 47 => 165 | 48 => 166 | 49 => 167 | 50 => 168 | 57 => 175 | n => n, fun | 22 => 93 | 24 => 102 | 25 => 92 | 3 => 3 | 39 => 86 | 0 => 0 | 53 => 85 | 55 => 55 | 4 => 4 | 46 => 178 | 45 => 177 | 50 => 111 | 5 => 5 | 9 => 9 | 66 => 186 | 70 => 190 | 76 => 196 | 77 => 197 | n => n, fun | n => n⟩
theorem Tryz.sortK : Go.Proofs.SlLaysF0.n6 Tryz.prog Tryz.sortK_ren := {
 mixed := by kernel_rfl
 f6 := ⟨Tryz.f109.name, by decide, Tryz.func109.trans (congrArg some (by kernel_rfl))⟩
 f14 := ⟨Tryz.f137.name, by decide, Tryz.func137.trans (congrArg some (by kernel_rfl))⟩
 f15 := Tryz.func138.trans (congrArg some (by kernel_rfl))
 f20 := ⟨Tryz.f149.name, by decide, Tryz.func149.trans (congrArg some (by kernel_rfl))⟩
 f21 := ⟨Tryz.f150.name, by decide, Tryz.func150.trans (congrArg some (by kernel_rfl))⟩
 f22 := ⟨Tryz.f151.name, by decide, Tryz.func151.trans (congrArg some (by kernel_rfl))⟩
 f23 := ⟨Tryz.f152.name, by decide, Tryz.func152.trans (congrArg some (by kernel_rfl))⟩
 f24 := ⟨Tryz.f153.name, by decide, Tryz.func153.trans (congrArg some (by kernel_rfl))⟩
 f25 := ⟨Tryz.f154.name, by decide, Tryz.func154.trans (congrArg some (by kernel_rfl))⟩
 f26 := ⟨Tryz.f155.name, by decide, Tryz.func155.trans (congrArg some (by kernel_rfl))⟩
 f27 := ⟨Tryz.f156.name, by decide, Tryz.func156.trans (congrArg some (by kernel_rfl))⟩
 f28 := Tryz.func157.trans (congrArg some (by kernel_rfl))
 f29 := Tryz.func114.trans (congrArg some (by kernel_rfl))
 f46 := ⟨Tryz.f164.name, by decide, Tryz.func164.trans (congrArg some (by kernel_rfl))⟩
 f47 := Tryz.func165.trans (congrArg some (by kernel_rfl))
 f48 := Tryz.func166.trans (congrArg some (by kernel_rfl))
 f49 := ⟨Tryz.f167.name, by decide, Tryz.func167.trans (congrArg some (by kernel_rfl))⟩
 f50 := ⟨Tryz.f168.name, by decide, Tryz.func168.trans (congrArg some (by kernel_rfl))⟩
 f57 := ⟨Tryz.f175.name, by decide, Tryz.func175.trans (congrArg some (by kernel_rfl))⟩
 t0 := Tryz.underlying0
 a0 := Tryz.isAgg0
 z0 := Tryz.sizeOf0
 v0 := Tryz.zeroValue0
 t3 := Tryz.underlying3
 a3 := Tryz.isAgg3
 z3 := Tryz.sizeOf3
 v3 := Tryz.zeroValue3
 t4 := Tryz.underlying4
 a4 := Tryz.isAgg4
 z4 := Tryz.sizeOf4
 v4 := Tryz.zeroValue4
 t5 := Tryz.underlying5
 a5 := Tryz.isAgg5
 z5 := Tryz.sizeOf5
 v5 := Tryz.zeroValue5
 t9 := Tryz.underlying9
 a9 := Tryz.isAgg9
 z9 := Tryz.sizeOf9
 v9 := Tryz.zeroValue9
 t22 := Tryz.underlying93
 a22 := Tryz.isAgg93
 z22 := Tryz.sizeOf93
 v22 := Tryz.zeroValue93
 t25 := Tryz.underlying92
 a25 := Tryz.isAgg92
 z25 := Tryz.sizeOf92
 v25 := Tryz.zeroValue92
 t39 := Tryz.underlying86
 a39 := Tryz.isAgg86
 z39 := Tryz.sizeOf86
 v39 := Tryz.zeroValue86
 t45 := Tryz.underlying177
 a45 := Tryz.isAgg177
 z45 := Tryz.sizeOf177
 v45 := Tryz.zeroValue177
 t46 := Tryz.underlying178
 a46 := Tryz.isAgg178
 z46 := Tryz.sizeOf178
 v46 := Tryz.zeroValue178
 t50 := Tryz.underlying111
 a50 := Tryz.isAgg111
 z50 := Tryz.sizeOf111
 v50 := Tryz.zeroValue111
 t53 := Tryz.underlying85
 a53 := Tryz.isAgg85
 z53 := Tryz.sizeOf85
 v53 := Tryz.zeroValue85
 t55 := Tryz.underlying55
 a55 := Tryz.isAgg55
 z55 := Tryz.sizeOf55
 v55 := Tryz.zeroValue55
 t66 := Tryz.underlying186
 a66 := Tryz.isAgg186
 z66 := Tryz.sizeOf186
 v66 := Tryz.zeroValue186
 t70 := Tryz.underlying190
 a70 := Tryz.isAgg190
 z70 := Tryz.sizeOf190
 v70 := Tryz.zeroValue190
 t76 := Tryz.underlying196
 a76 := Tryz.isAgg196
 z76 := Tryz.sizeOf196
 v76 := Tryz.zeroValue196
 t77 := Tryz.underlying197
 a77 := Tryz.isAgg197
 z77 := Tryz.sizeOf197
 v77 := Tryz.zeroValue197 }
end Go.Proofs
