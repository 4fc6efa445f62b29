import Derived.Test.YtpfhfldehaiokaaGreatA22
set_option maxHeartbeats 4000000
namespace Go.Proofs.YtpfhfldehaiokaaGreat
open Go.W Go.LM Go.LA
theorem iJ {cn : Bool} {K r c n m cap xc yc : Nat} {w : World} {a xa ya : Option Addr} {s : Nat → SD} {F : Mat} {x y : Nat → Nat} (hM : MX cn K w a r c s F) (hx : Sl w xa (natC n x)) (hy : Sl w ya (natC m y)) (hxr : ∀ i, i < n → x i < r) (hyc : ∀ j, j < m → y j < c) (hn : n ≤ 1000) (hm : 1 ≤ m ∧ m ≤ 1000) :
  CallsR Tryz.prog 115 #[.slice a r cap, .slice xa n xc, .slice ya m yc] w fun v w' => ∃ (st : SD) (S : Nat → SD), v = .slice st.a st.len st.cap ∧ st.len = n ∧ MX cn K w' st.a n m S (fun i j => F (x i) (y j)) ∧ Ex w w' := by
 refine aE (args := [_, _, _]) Tryz.func115 rfl rfl ?_
 rw [sV] at hx hy
 have hpy := hy.plain (by simp; omega)
 repeat' (first|refine aj rfl ?_|refine aa ?_|refine ak ?_|refine ai rfl ?_|refine ah ?_|refine bc rfl ?_|refine ay ?_)
 refine aW (ι := Nat × SD × (Nat → SD)) [7, 9, 10, 12, 15, 16, 17, 18, 19, 20, 21, 22, 23, 24, 25, 26, 27, 28, 29, 30, 31, 32, 33, 34, 35, 36, 37, 38, 39, 40] (fun t => [(15, .int .i64 (t.1 : Int)), (7, .slice t.2.1.a t.2.1.len t.2.1.cap)])
  (fun t w' => t.1 ≤ n ∧ Ex w w' ∧ TopG w' w.heap.size 50 t.1 t.2.1 t.2.2 ∧ (∀ k, k < t.1 → RX cn K w' (t.2.2 k) m (fun j => F (x k) (y j))) ∧ ∀ k, k < t.1 → ∀ ad, (t.2.2 k).a = some ad → w.heap.size ≤ ad.block) (fun t => n - t.1)
  (0, sd0, fun _ => sd0) ⟨rfl, rfl, trivial⟩ ⟨by simp only; omega, Ex.refl _, TopG.nil _ _ _ _, fun k h => by simp only at h; omega, fun k h => by simp only at h; omega⟩ ?_
 rintro ⟨i, st, S⟩ ξ w2 ⟨hi, hE2, hT2, hR2, hL2⟩
 simp only at hi hT2 hR2 hL2
 show CW _ _ _ _ (over [(15, .int .i64 (i : Int)), (7, .slice st.a st.len st.cap)] _) w2
 rcases Nat.lt_or_ge i n with hin | hin
 ·have hpx := hx.plain (by simp; omega)
  repeat' (first|refine bq rfl rfl (by omega) ?_|refine az (j := i) (a := xa) rfl rfl hpx (by omega) ?_|(refine bI (j := i) (xs := (List.range n).map x) rfl (hx.ext hE2) (by simp; omega) ?_)|refine aj rfl ?_|refine aa ?_|refine ak ?_|refine ai rfl ?_|refine ah ?_|refine bc rfl ?_|refine aA rfl ?_|refine ay ?_|refine aC ?_)
  rw [nN _ hin]
  have hxi := hxr i hin
  have hpt := hM.plain (by omega)
  obtain ⟨pa, d, hh0, e1, e2, hpp, _, _⟩ := (hM.ext hE2).get hxi (by have := hyc 0 (by omega); omega)
  refine aW (ι := Nat × SD × (Nat → IH)) [10, 12, 21, 22, 23, 24, 25, 26, 27, 28, 29, 30, 31, 32, 33, 34, 35] (fun t => [(21, .int .i64 (t.1 : Int)), (10, .slice t.2.1.a t.2.1.len t.2.1.cap)])
   (fun t w' => (t.1 ≤ m ∧ Ex w w' ∧ Ex w2 w') ∧ RowG w' w2.heap.size 34 t.1 t.2.1 t.2.2 ∧ ∀ j, j < t.1 → Ent cn K w' (t.2.2 j).val (F (x i) (y j))) (fun t => m - t.1)
   (0, sd0, fun _ => ih0) ⟨rfl, rfl, trivial⟩ ⟨⟨by simp only; omega, hE2, Ex.refl _⟩, RowG.nil _ _ _ _, fun j h => by simp only at h; omega⟩ ?_
  rintro ⟨j, sd, h⟩ ξ2 w3 ⟨⟨hj, hE3, hE23⟩, hG3, hEn3⟩
  simp only at hj hG3 hEn3
  show CW _ _ _ _ (over [(21, .int .i64 (j : Int)), (10, .slice sd.a sd.len sd.cap)] _) w3
  rcases Nat.lt_or_ge j m with hjm | hjm
  ·have hyj := hyc j hjm
   obtain ⟨pa', d', hh, e1', e2', hp', hS, hEn⟩ := (hM.ext hE3).get hxi (by omega)
   rw [e1] at e1'
   obtain ⟨rfl, rfl⟩ : pa = pa' ∧ d = d' := by cases e1'; exact ⟨rfl, rfl⟩
   repeat' (first|refine bq rfl rfl (by omega) ?_|refine aa ?_|refine ak ?_|refine ai rfl ?_|refine ah ?_|refine aA rfl ?_|refine aC ?_)
   refine ay ?_
   repeat' (first|refine az (j := j) (a := ya) rfl rfl hpy (by omega) ?_|(refine bI (j := j) (xs := (List.range m).map y) rfl (hy.ext hE3) (by simp; omega) ?_)|refine aj rfl ?_|refine aa ?_|refine ak ?_|refine ai rfl ?_|refine ah ?_)
   rw [nN _ hjm]
   repeat' (first|refine az (j := x i) (a := a) rfl rfl hpt (by omega) ?_|refine aZ (j := x i) (a := a) (n := r) (s := s) rfl (hM.ext hE3).top (by omega) e1 ?_|refine bE (j := y j) (a := pa) rfl rfl hpp (by omega) ?_|refine bX (j := y j) (a := pa) rfl hS hpp (by omega) ?_|refine aj rfl ?_)
   refine ue (E := 34) (u := hh (y j)) rfl rfl rfl hG3 (by omega) (by omega) hE23.size ?_
   intro gt sd' h' w4 hR4 hf1 hf2 hG4 hA4
   repeat' (first|refine aj rfl ?_|refine aa ?_|refine ai rfl ?_|refine ah ?_|refine aV rfl rfl (by omega) (by omega) ?_|refine aJ ?_)
   have own : ∀ q, (Value.slice sd.a sd.len sd.cap).ownBlock = some q → w2.heap.size ≤ q := fun q e => (RowG.bk hG3 q e).1
   refine ⟨⟨(j + 1, sd', h'), ⟨⟨hjm, hE3.gb hG4 (fun q e => by have := own q e; have := hE2.size; omega), hE23.gb hG4 own⟩, hR4, fun k hk => ?_⟩, by simp only; omega, rfl, rfl, trivial⟩, (by (repeat (first|exact aG _ _ _|refine aB rfl ?_|refine ax rfl ?_|refine av rfl ?_|refine aw rfl ?_)))⟩
   simp only at hk ⊢
   by_cases e : k = j
   ·subst e; rw [hf2]; exact (hEn (y k) hyj).gbR hG3 hG4
   ·rw [hf1 k (by omega)]; exact (hEn3 k (by omega)).gbR hG3 hG4
  ·have ejm : m = j := by omega
   subst ejm
   have hT3 := TopG.ext hT2 hE23
   have hrow : RX cn K w3 sd m (fun j => F (x i) (y j)) := ⟨hG3.1, by
    rcases hG3.2 with ⟨h0, h1⟩ | ⟨g3, h1, h2, h3, _⟩
    ·omega
    ·exact h3, h, RowG.sl hG3, hEn3⟩
   have hslo : ∀ ad, sd.a = some ad → w2.heap.size ≤ ad.block := fun ad e => (RowG.lo hG3 ad e).1
   have hR3 : ∀ k, k < i → RX cn K w3 (S k) m (fun j => F (x k) (y j)) := fun k hk => (hR2 k hk).ext hE23
   have s23 := hE23.size
   have s2 := hE2.size
   repeat' (first|refine bp rfl rfl (by omega) ?_|refine aj rfl ?_|refine aa ?_|refine ak ?_|refine ai rfl ?_|refine ah ?_|refine ao rfl ?_|refine aT ?_|refine aO ?_|refine aU ?_)
   refine qV (E := 50) (lo := w.heap.size) (u := sd) rfl rfl rfl hT3 (by omega) (by omega) (by omega) ?_
   intro gt st' S' w4 hT4 hf1 hf2 hG4 hA4
   repeat' (first|refine aj rfl ?_|refine aa ?_|refine ai rfl ?_|refine ah ?_|refine aV rfl rfl (by omega) (by omega) ?_|refine aJ ?_)
   have hkeep : ∀ {v : SD} {f : Nat → Int}, RX cn K w3 v m f → RX cn K w4 v m f := fun {v f} hv => by
    rcases hob : (Value.slice st.a st.len st.cap).ownBlock with _ | q
    ·rw [hob] at hG4; exact hv.ext ⟨hG4.os, hG4.tape, hG4.output, hG4.size, fun k hk => hG4.block k hk (by simp)⟩
    ·rw [hob] at hG4; exact hv.gbT (TopG.blk hT3 q hob).2 hG4
   refine ⟨⟨(i + 1, st', S'), ⟨hin, hE3.gb hG4 (fun q e => (TopG.blk hT3 q e).1), hT4, fun k hk => ?_, fun k hk => ?_⟩, by simp only; omega, rfl, rfl, trivial⟩, (by (repeat (first|exact aG _ _ _|refine aB rfl ?_|refine ax rfl ?_|refine av rfl ?_|refine aw rfl ?_)))⟩
   ·simp only at hk ⊢
    by_cases e : k = i
    ·subst e; rw [hf2]; exact hkeep hrow
    ·rw [hf1 k (by omega)]; exact hkeep (hR3 k (by omega))
   ·simp only at hk ⊢
    intro ad e'
    by_cases e : k = i
    ·subst e; rw [hf2] at e'; have := hslo ad e'; omega
    ·rw [hf1 k (by omega)] at e'; exact hL2 k (by omega) ad e'
 ·have ein : n = i := by omega
  subst ein
  repeat' (first|refine bp rfl rfl (by omega) ?_|refine aj rfl ?_|refine aa ?_|refine ak ?_|refine ai rfl ?_|refine ah ?_|refine ao rfl ?_|refine aT ?_|refine aO ?_|refine aU ?_|refine aK ?_)
  exact bo rfl (rt rfl) ⟨st, S, rfl, hT2.1, ⟨TopG.sl hT2, hR2⟩, hE2⟩
theorem iK {cn : Bool} {K r c cap : Nat} {w : World} {a : Option Addr} {s : Nat → SD} {F : Mat} (hM : MX cn K w a r c s F) (hr : 1 ≤ r ∧ r ≤ 16) (hc : 1 ≤ c ∧ c ≤ 16) :
  CallsR Tryz.prog 73 #[.slice a r cap] w fun v w' => v = (if r = c then .tuple #[.int .i64 (r : Int), .bool true] else .tuple #[.int .i64 0, .bool false]) ∧ Ex w w' := by
 refine aE (args := [_]) Tryz.func73 rfl rfl ?_
 repeat' (first|refine aj rfl ?_|refine aa ?_|refine ak ?_|refine ai rfl ?_|refine ah ?_)
 refine au (dL hM.top) rfl ?_
 rintro v w1 ⟨rfl, hE1⟩
 refine tvv ?_
 rw [eK hM hr hc]
 by_cases h : r = c
 ·repeat' (first|refine aR rfl rfl ?_|refine eI rfl rfl (by omega) ?_|refine aj rfl ?_|refine aa ?_|refine ak ?_|refine ai rfl ?_|refine ah ?_|refine bJ rfl rfl ?_|refine ao rfl ?_|refine aK ?_|refine aC ?_)
  exact dw rfl (rt rfl) (rt rfl) ⟨by rw [if_pos h]; rfl, hE1⟩
 ·repeat' (first|refine aR rfl rfl ?_|refine qT rfl rfl (by omega) ?_|refine aj rfl ?_|refine aa ?_|refine ak ?_|refine ai rfl ?_|refine ah ?_|refine bJ rfl rfl ?_|refine aA rfl ?_|refine aK ?_|refine bf ?_)
  exact dw rfl (rt rfl) (rt rfl) ⟨by rw [if_neg h]; rfl, hE1⟩
theorem jh {k m : Nat} {w : World} (hk : k ≤ 1000) (_hm : m ≤ 1000) :
  CallsR Tryz.prog 116 #[.int .i64 (k : Int), .int .i64 (m : Int)] w fun v w' => ∃ (sd : SD) (f : Nat → Nat), v = .slice sd.a sd.len sd.cap ∧ NatG w' w.heap.size 3 (k + 1) sd f ∧ (∀ i, i < k + 1 → f i = if i < k then i else m) ∧ Ex w w' := by
 refine aE (args := [_, _]) Tryz.func116 rfl rfl ?_
 repeat' (first|refine aj rfl ?_|refine aa ?_|refine ak ?_|refine ai rfl ?_|refine ah ?_|refine ay ?_)
 refine aW (ι := (Nat × SD) × (Nat → Nat)) [5, 6, 7, 8, 9, 10, 11, 12, 13, 14, 15] (fun t => [(6, .int .i64 (t.1.1 : Int)), (5, .slice t.1.2.a t.1.2.len t.1.2.cap)])
  (fun t w' => t.1.1 ≤ k ∧ Ex w w' ∧ NatG w' w.heap.size 3 t.1.1 t.1.2 t.2 ∧ ∀ i, i < t.1.1 → t.2 i = i) (fun t => k - t.1.1)
  ((0, sd0), fun _ => 0) ⟨rfl, rfl, trivial⟩ ⟨by simp only; omega, Ex.refl _, NatG.nil _ _ _ _, fun i h => by simp only at h; omega⟩ ?_
 rintro ⟨⟨i, sd⟩, f⟩ ξ w2 ⟨hi, hE2, hN2, hf⟩
 simp only at hi hN2 hf
 show CW _ _ _ _ (over [(6, .int .i64 (i : Int)), (5, .slice sd.a sd.len sd.cap)] _) w2
 rcases Nat.lt_or_ge i k with hin | hin
 ·repeat' (first|refine bq rfl rfl (by omega) ?_|refine aj rfl ?_|refine aa ?_|refine ak ?_|refine ai rfl ?_|refine ah ?_|refine aA rfl ?_|refine ay ?_|refine aC ?_)
  refine kj (E := 3) (lo := w.heap.size) (u := i) rfl rfl rfl hN2 (by omega) (by omega) hE2.size ?_
  intro gt sd' f' w3 hN3 hf1 hf2 hG3 hA3
  repeat' (first|refine aj rfl ?_|refine aa ?_|refine ai rfl ?_|refine ah ?_|refine aV rfl rfl (by omega) (by omega) ?_|refine aJ ?_)
  refine ⟨⟨((i + 1, sd'), f'), ⟨hin, hE2.gb hG3 (fun g e => (NatG.blk hN2 g e).1), hN3, fun j hj => ?_⟩, by simp only; omega, rfl, rfl, trivial⟩, (by (repeat (first|exact aG _ _ _|refine aB rfl ?_|refine ax rfl ?_|refine av rfl ?_|refine aw rfl ?_)))⟩
  simp only at hj ⊢
  by_cases e : j = i
  ·subst e; exact hf2
  ·rw [hf1 j (by omega)]; exact hf j (by omega)
 ·have ein : k = i := by omega
  subst ein
  repeat' (first|refine bp rfl rfl (by omega) ?_|refine aj rfl ?_|refine aa ?_|refine ak ?_|refine ai rfl ?_|refine ah ?_|refine ao rfl ?_|refine aT ?_|refine aO ?_|refine aU ?_)
  refine kj (E := 3) (lo := w.heap.size) (u := m) rfl rfl rfl hN2 (by omega) (by omega) hE2.size ?_
  intro gt sd' f' w3 hN3 hf1 hf2 hG3 hA3
  repeat' (first|refine aj rfl ?_|refine aa ?_|refine ah ?_|refine aK ?_)
  refine bo rfl (rt rfl) ⟨sd', f', rfl, hN3, fun i hi => ?_, hE2.gb hG3 (fun g e => (NatG.blk hN2 g e).1)⟩
  by_cases e : i = k
  ·subst e; rw [hf2, if_neg (by omega)]
  ·rw [hf1 i (by omega), if_pos (by omega), hf i (by omega)]
def MinL (K : Nat) (w : World) (lo n : Nat) (sd : SD) (h : Nat → IH) (A : Mat) : Prop := RowG w lo 34 n sd h ∧ ∀ i, i < n → Ent true K w (h i).val (det (i + 1) A)
theorem ij {cn : Bool} {K n cap : Nat} {w : World} {a : Option Addr} {s : Nat → SD} {A : Mat} (hM : MX cn K w a n n s A) (hn : 1 ≤ n ∧ n ≤ 16) (hK : 16 * K + 17 ≤ 4398046511104) :
  CallsR Tryz.prog 77 #[.slice a n cap] w fun v w' => ∃ sd h, v = .tuple #[.slice sd.a sd.len sd.cap, .bool true] ∧ MinL (16 * K + 17) w' w.heap.size n sd h A ∧ Ex w w' := by
 refine aE (args := [_]) Tryz.func77 rfl rfl ?_
 repeat' (first|refine aj rfl ?_|refine aa ?_|refine ak ?_|refine ai rfl ?_|refine ah ?_)
 refine au (iK hM hn hn) rfl ?_
 rintro v w1 ⟨rfl, hE1⟩
 refine tvv ?_
 rw [if_pos rfl]
 repeat' (first|refine aR rfl rfl ?_|refine aj rfl ?_|refine aa ?_|refine ak ?_|refine ai rfl ?_|refine ah ?_|refine ao rfl ?_|refine ay ?_|refine aC ?_)
 refine aW (ι := Nat × SD × (Nat → IH)) [6, 7, 15, 16, 17, 18, 19, 20, 21, 22, 23, 24, 25, 26, 27, 28, 29, 30, 31] (fun t => [(7, .int .i64 (t.1 : Int)), (6, .slice t.2.1.a t.2.1.len t.2.1.cap)])
  (fun t w' => t.1 ≤ n ∧ Ex w w' ∧ MinL (16 * K + 17) w' w.heap.size t.1 t.2.1 t.2.2 A) (fun t => n - t.1)
  (0, sd0, fun _ => ih0) ⟨rfl, rfl, trivial⟩ ⟨by simp only; omega, hE1, RowG.nil _ _ _ _, fun i h => by simp only at h; omega⟩ ?_
 clear hE1
 rintro ⟨k, sd, h⟩ ξ w2 ⟨hk, hE2, hR2, hEn2⟩
 simp only at hk hR2 hEn2
 show CW _ _ _ _ (over [(7, .int .i64 (k : Int)), (6, .slice sd.a sd.len sd.cap)] _) w2
 rcases Nat.lt_or_ge k n with hkn | hkn
 ·repeat' (first|refine bq rfl rfl (by omega) ?_|refine aj rfl ?_|refine aa ?_|refine ak ?_|refine ai rfl ?_|refine ah ?_|refine aA rfl ?_|refine ay ?_|refine aC ?_)
  refine au (jh (k := k) (m := k) (by omega) (by omega)) rfl ?_
  rintro v w3 ⟨s1, f1, rfl, hN3, hf1, hE3⟩
  refine tvv ?_
  repeat' (first|refine aj rfl ?_)
  refine au (jh (k := k) (m := k) (by omega) (by omega)) rfl ?_
  rintro v w4 ⟨s2, f2, rfl, hN4, hf2, hE4⟩
  refine tvv ?_
  have hE24 := hE3.trans hE4
  have hN34 := NatG.ext hN3 hE4
  have l1 : s1.len = k + 1 := hN34.1
  have l2 : s2.len = k + 1 := hN4.1
  skip
  rw [l1, l2]
  refine au (iJ (n := k + 1) (m := k + 1) ((hM.ext hE2).ext hE24) (NatG.sl hN34) (NatG.sl hN4) (fun i hi => by rw [hf1 i hi]; split <;> omega) (fun i hi => by rw [hf2 i hi]; split <;> omega) (by omega) (by omega)) rfl ?_
  rintro v w5 ⟨st, S, rfl, hst, hM5, hE5⟩
  refine tvv ?_
  rw [hst]
  skip
  refine au (cZ (n := k + 1) hM5 (by omega) hK) rfl ?_
  rintro v w6 ⟨hI6, hE6⟩
  refine tvv ?_
  obtain ⟨u, rfl⟩ := hI6.ih
  have hdet : det (k + 1) (fun i j => A (f1 i) (f2 j)) = det (k + 1) A := bj fun r c hr hc => by
   have e1 : f1 r = r := by rw [hf1 r hr]; split <;> omega
   have e2 : f2 c = c := by rw [hf2 c hc]; split <;> omega
   show A (f1 r) (f2 c) = A r c; rw [e1, e2]
  rw [hdet] at hI6
  have hE26 := (hE24.trans hE5).trans hE6
  have hR6 := RowG.ext hR2 hE26
  skip
  refine ue (E := 34) (u := u) rfl rfl rfl hR6 (by omega) (by omega) (by have := hE2.size; have := hE26.size; omega) ?_
  intro gt sd' h' w7 hR7 hf71 hf72 hG7 hA7
  repeat' (first|refine aj rfl ?_|refine aa ?_|refine ai rfl ?_|refine ah ?_|refine aV rfl rfl (by omega) (by omega) ?_|refine aJ ?_)
  have own : ∀ q, (Value.slice sd.a sd.len sd.cap).ownBlock = some q → w.heap.size ≤ q := fun q e => (RowG.bk hR6 q e).1
  refine ⟨⟨(k + 1, sd', h'), ⟨hkn, (hE2.trans hE26).gb hG7 own, hR7, fun i hi => ?_⟩, by simp only; omega, rfl, rfl, trivial⟩, (by (repeat (first|exact aG _ _ _|refine aB rfl ?_|refine ax rfl ?_|refine av rfl ?_|refine aw rfl ?_)))⟩
  simp only at hi ⊢
  by_cases e : i = k
  ·subst e; rw [hf72]; exact hI6.gbR hR6 hG7
  ·rw [hf71 i (by omega)]; exact ((hEn2 i (by omega)).ext hE26).gbR hR6 hG7
 ·have ekn : n = k := by omega
  subst ekn
  repeat' (first|refine bp rfl rfl (by omega) ?_|refine aj rfl ?_|refine aa ?_|refine ak ?_|refine ai rfl ?_|refine ah ?_|refine ao rfl ?_|refine aT ?_|refine aO ?_|refine aU ?_|refine aK ?_)
  exact dw rfl (rt rfl) (rt rfl) ⟨sd, h, rfl, ⟨hR2, hEn2⟩, hE2⟩
def SymM (n : Nat) (A : Mat) : Prop := ∀ i j, j < i → i < n → A i j = A j i
theorem SymM.all {n : Nat} {A : Mat} (h : SymM n A) : ∀ i j, i < n → j < n → A i j = A j i := fun i j hi hj => by
 rcases Nat.lt_trichotomy i j with e | e | e
 ·exact (h j i e hj).symm
 ·subst e; rfl
 ·exact h i j e hi
theorem lh {x y : Int} : (x - y).sign = 0 ↔ x = y := by rw [Int.sign_eq_zero_iff_zero]; omega
theorem f9 {cn : Bool} {K n cap : Nat} {w : World} {a : Option Addr} {s : Nat → SD} {A : Mat} (hM : MX cn K w a n n s A) (hn : 1 ≤ n ∧ n ≤ 16) :
  CallsR Tryz.prog 74 #[.slice a n cap] w fun v w' => ∃ t : Bool, v = .bool t ∧ (t = true ↔ SymM n A) ∧ Ex w w' := by
 have hpt := hM.plain (by omega)
 refine aE (args := [_]) Tryz.func74 rfl rfl ?_
 repeat' (first|refine aj rfl ?_|refine aa ?_|refine ak ?_|refine ai rfl ?_|refine ah ?_|refine bc rfl ?_|refine ay ?_)
 refine aW (ι := Nat) [2, 3, 4, 7, 8, 9, 10, 11, 12, 13, 14, 15, 16, 17, 18, 19, 20, 21, 22, 23, 24, 25, 26, 27, 28, 29, 30, 31] (fun i => [(7, .int .i64 (i : Int))])
  (fun i w' => i ≤ n ∧ Ex w w' ∧ SymM i A) (fun i => n - i) 0 ⟨rfl, trivial⟩ ⟨by omega, Ex.refl _, fun i j h h' => by omega⟩ ?_
 rintro i ξ w2 ⟨hi, hE2, hs2⟩
 show CW _ _ _ _ (over [(7, .int .i64 (i : Int))] _) w2
 rcases Nat.lt_or_ge i n with hin | hin
 ·repeat' (first|refine bq rfl rfl (by omega) ?_|refine aj rfl ?_|refine aa ?_|refine ak ?_|refine ai rfl ?_|refine ah ?_|refine aA rfl ?_|refine ay ?_|refine aC ?_)
  refine aW (ι := Nat) [2, 4, 10, 11, 12, 13, 14, 15, 16, 17, 18, 19, 20, 21, 22, 23, 24, 25, 26, 27, 28, 29, 30] (fun j => [(4, .int .i64 (j : Int))])
   (fun j w' => j ≤ i ∧ Ex w w' ∧ ∀ k, k < j → A i k = A k i) (fun j => i - j) 0 ⟨rfl, trivial⟩ ⟨by omega, hE2, fun k h => by omega⟩ ?_
  rintro j ξ2 w3 ⟨hj, hE3, hs3⟩
  show CW _ _ _ _ (over [(4, .int .i64 (j : Int))] _) w3
  rcases Nat.lt_or_ge j i with hji | hji
  ·obtain ⟨p, d, hh, e1, _, hpp, hS, hEn⟩ := (hM.ext hE3).get hin (by omega)
   obtain ⟨p', d', hh', e1', _, hpp', hS', hEn'⟩ := (hM.ext hE3).get (show j < n by omega) (by omega)
   repeat' (first|refine bq rfl rfl (by omega) ?_|refine aj rfl ?_|refine aa ?_|refine ak ?_|refine ai rfl ?_|refine ah ?_|refine aA rfl ?_|refine aC ?_)
   refine ay ?_
   repeat' (first|refine ak ?_)
   refine bn (late := []) (plan := [(0, none), (1, none), (2, none), (3, none), (4, none), (5, none), (6, none), (7, none), (8, none), (9, none), (10, none), (11, none), (12, none), (13, none), (14, some true), (15, none)]) (fun w' => Ex w3 w') bD (by kernel_rfl) (Ex.refl w3).drew ?_
   have hEd := (Ex.refl w3).drew
   repeat' (first|refine az (j := i) (a := a) rfl rfl hpt (by omega) ?_|refine aZ (j := i) (a := a) (n := n) (s := s) rfl (fun _ h => ((hM.ext hE3).ext h).top) (by omega) e1 ?_|refine bE (j := j) (a := p) rfl rfl hpp (by omega) ?_|refine bX (j := j) (n := n) (f := hh) (a := p) rfl (fun _ h => hS.ext h) hpp (by omega) ?_|refine az (j := j) (a := a) rfl rfl hpt (by omega) ?_|refine aZ (j := j) (a := a) (n := n) (s := s) rfl (fun _ h => ((hM.ext hE3).ext h).top) (by omega) e1' ?_|refine bE (j := i) (a := p') rfl rfl hpp' (by omega) ?_|refine bX (j := i) (n := n) (f := hh') (a := p') rfl (fun _ h => hS'.ext h) hpp' (by omega) ?_|refine aj rfl ?_)
   refine au (eB ((hEn j (by omega)).ext hEd).k ((hEn' i hin).ext hEd).k) rfl ?_
   rintro v w4 ⟨rfl, hE4⟩
   refine ⟨fun _ h => h.trans hE4, ?_⟩
   have hE34 := hEd.trans hE4
   by_cases he : A i j = A j i
   ·repeat' (first|refine eI rfl rfl (lh.2 he) ?_|refine aj rfl ?_|refine aa ?_|refine ai rfl ?_|refine ah ?_|refine aV rfl rfl (by omega) (by omega) ?_|refine ao rfl ?_|refine aJ ?_|refine aC ?_)
    refine ⟨⟨j + 1, ⟨hji, hE3.trans hE34, fun k hk => ?_⟩, by omega, rfl, trivial⟩, (by (repeat (first|exact aG _ _ _|refine aB rfl ?_|refine ax rfl ?_|refine av rfl ?_|refine aw rfl ?_)))⟩
    by_cases e : k = j
    ·subst e; exact he
    ·exact hs3 k (by omega)
   ·repeat' (first|refine qT rfl rfl (fun e => he (lh.1 e)) ?_|refine aj rfl ?_|refine aa ?_|refine ak ?_|refine ai rfl ?_|refine ah ?_|refine aA rfl ?_|refine aK ?_|refine bf ?_|refine cj ?_)
    exact bo rfl (rt rfl) ⟨false, rfl, ⟨fun h => (nomatch h), fun h => absurd (h i j hji hin) he⟩, hE3.trans hE34⟩
  ·obtain rfl : i = j := by omega
   repeat' (first|refine bp rfl rfl (by omega) ?_|refine aj rfl ?_|refine aa ?_|refine ak ?_|refine ai rfl ?_|refine ah ?_|refine aV rfl rfl (by omega) (by omega) ?_|refine ao rfl ?_|refine aT ?_|refine aO ?_|refine aU ?_|refine aJ ?_)
   refine ⟨⟨i + 1, ⟨hin, hE3, fun k l hl hk => ?_⟩, by omega, rfl, trivial⟩, (by (repeat (first|exact aG _ _ _|refine aB rfl ?_|refine ax rfl ?_|refine av rfl ?_|refine aw rfl ?_)))⟩
   by_cases e : k = i
   ·subst e; exact hs3 l hl
   ·exact hs2 k l hl (by omega)
 ·obtain rfl : n = i := by omega
  repeat' (first|refine bp rfl rfl (by omega) ?_|refine aj rfl ?_|refine aa ?_|refine ak ?_|refine ai rfl ?_|refine ah ?_|refine ao rfl ?_|refine aT ?_|refine aO ?_|refine aU ?_|refine aK ?_)
  exact bo rfl (rt rfl) ⟨true, rfl, ⟨fun _ => hs2, fun _ => rfl⟩, hE2⟩
def PosM (n : Nat) (A : Mat) : Prop := SymM n A ∧ ∀ i, i < n → 0 < det (i + 1) A
theorem lj {x : Int} : x.sign ≤ 0 ↔ x ≤ 0 := by
 rcases Int.lt_trichotomy x 0 with h | h | h
 ·rw [Int.sign_eq_neg_one_of_neg h]; omega
 ·rw [h]; decide
 ·rw [Int.sign_eq_one_of_pos h]; omega
theorem kk {cn : Bool} {K n cap : Nat} {w : World} {a : Option Addr} {s : Nat → SD} {A : Mat} (hM : MX cn K w a n n s A) (hn : 1 ≤ n ∧ n ≤ 16) (hK : 16 * K + 17 ≤ 4398046511104) :
  CallsR Tryz.prog 75 #[.slice a n cap] w fun v w' => ∃ t : Bool, v = .bool t ∧ (t = true ↔ PosM n A) ∧ Ex w w' := by
 refine aE (args := [_]) Tryz.func75 rfl rfl ?_
 repeat' (first|refine aj rfl ?_|refine aa ?_|refine ak ?_|refine ai rfl ?_|refine ah ?_)
 refine au (ij hM hn hK) rfl ?_
 rintro v w1 ⟨sd, h, rfl, ⟨hR, hEn⟩, hE1⟩
 refine tvv ?_
 repeat' (first|refine aR rfl rfl ?_|refine aj rfl ?_|refine aa ?_|refine ak ?_|refine ai rfl ?_|refine ah ?_|refine bJ rfl rfl ?_)
 refine au (f9 (hM.ext hE1) hn) rfl ?_
 rintro v w2 ⟨t, rfl, ht, hE2⟩
 refine tvv ?_
 cases t
 ·repeat' (first|refine aj rfl ?_|refine aa ?_|refine ak ?_|refine ai rfl ?_|refine ah ?_|refine bJ rfl rfl ?_|refine aA rfl ?_|refine aK ?_|refine bf ?_)
  exact bo rfl (rt rfl) ⟨false, rfl, ⟨fun h => (nomatch h), fun h => ht.2 h.1⟩, hE1.trans hE2⟩
 ·have hS : SymM n A := ht.1 rfl
  have hlen : sd.len = n := hR.1
  have hR2 := RowG.ext hR hE2
  repeat' (first|refine aj rfl ?_|refine aa ?_|refine ak ?_|refine ai rfl ?_|refine ah ?_|refine bc rfl ?_|refine bJ rfl rfl ?_|refine ao rfl ?_|refine ay ?_|refine aC ?_)
  rw [hlen]
  have hE12 := hE1.trans hE2
  refine aW (ι := Nat) [2, 6, 21, 22, 23, 24, 25, 26, 27, 28] (fun i => [(21, .int .i64 (i : Int))])
   (fun i w' => i ≤ n ∧ Ex w2 w' ∧ ∀ k, k < i → 0 < det (k + 1) A) (fun i => n - i) 0 ⟨rfl, trivial⟩ ⟨by omega, Ex.refl _, fun k h => by omega⟩ ?_
  rintro i ξ w3 ⟨hi, hE3, hp3⟩
  show CW _ _ _ _ (over [(21, .int .i64 (i : Int))] _) w3
  rcases Nat.lt_or_ge i n with hin | hin
  ·have hSl := (RowG.sl hR2).ext hE3
   have hpl : W.plain sd.a := hSl.plain (by rw [cN]; omega)
   repeat' (first|refine bq rfl rfl (by omega) ?_|refine bE (j := i) (a := sd.a) rfl rfl hpl (by omega) ?_|refine bX (j := i) (n := n) (f := h) (a := sd.a) rfl hSl hpl hin ?_|refine aa ?_|refine ak ?_|refine ai rfl ?_|refine ah ?_|refine aA rfl ?_|refine ay ?_|refine aC ?_)
   refine aH (fun g4 w4 hn4 => tvv ?_)
   have hb4 : Blk w4 g4 34 (intL false none 0 0) := hn4.blk
   refine aF (n := 2) (vs := (h i).cells) rfl rfl rfl rfl hb4 rfl (fun w5 hc5 hb5 => tvv ?_)
   have hE35 : Ex w3 w5 := hn4.ex.chg hc5 hn4.lo
   have hi5 := ((((hEn i hin).ext hE2).ext hE3).ext hn4.ex).gbN hb4 (cg _ _ _ _) (dx hc5)
   repeat' (first|refine aY (g := g4) (cs := (h i).cells) rfl hb5 rfl ?_|refine aa ?_|refine ak ?_|refine ai rfl ?_|refine ah ?_)
   refine au (du hi5.k) rfl ?_
   rintro v w6 ⟨rfl, hE6⟩
   refine tvv ?_
   have hE36 := (hE3.trans hE35).trans hE6
   by_cases hp : 0 < det (i + 1) A
   ·repeat' (first|(refine fd rfl rfl (by rw [Int.sign_eq_one_of_pos hp]; omega) ?_)|refine aj rfl ?_|refine aa ?_|refine ai rfl ?_|refine ah ?_|refine aV rfl rfl (by omega) (by omega) ?_|refine ao rfl ?_|refine aJ ?_|refine aC ?_)
    refine ⟨⟨i + 1, ⟨hin, hE36, fun k hk => ?_⟩, by omega, rfl, trivial⟩, (by (repeat (first|exact aG _ _ _|refine aB rfl ?_|refine ax rfl ?_|refine av rfl ?_|refine aw rfl ?_)))⟩
    by_cases e : k = i
    ·subst e; exact hp
    ·exact hp3 k (by omega)
   ·repeat' (first|refine fz rfl rfl (lj.2 (by omega)) ?_|refine aj rfl ?_|refine aa ?_|refine ak ?_|refine ai rfl ?_|refine ah ?_|refine aA rfl ?_|refine aK ?_|refine bf ?_|refine cj ?_)
    exact bo rfl (rt rfl) ⟨false, rfl, ⟨fun h => (nomatch h), fun h => absurd (h.2 i hin) hp⟩, hE12.trans hE36⟩
  ·obtain rfl : n = i := by omega
   repeat' (first|refine bp rfl rfl (by omega) ?_|refine aj rfl ?_|refine aa ?_|refine ak ?_|refine ai rfl ?_|refine ah ?_|refine ao rfl ?_|refine aT ?_|refine aO ?_|refine aU ?_|refine aK ?_)
   exact bo rfl (rt rfl) ⟨true, rfl, ⟨fun _ => ⟨hS, hp3⟩, fun _ => rfl⟩, hE12.trans hE3⟩
theorem gO {cn : Bool} {K n cap : Nat} {w : World} {a : Option Addr} {s : Nat → SD} {A : Mat} (hM : MX cn K w a n n s A) (hn : 1 ≤ n ∧ n ≤ 8) (hK : 16 * K + 17 ≤ 4398046511104) :
  CallsR Tryz.prog 37 #[.slice a n cap] w fun v w' => ∃ e : Int, v = .int .i64 e ∧ (e = 0 ↔ PosM n A) ∧ Ex w w' := by
 refine aE (args := [_]) Tryz.func37 rfl rfl ?_
 repeat' (first|refine aj rfl ?_|refine aa ?_|refine ak ?_|refine ai rfl ?_|refine ah ?_)
 refine au (iK hM (by omega) (by omega)) rfl ?_
 rintro v w1 ⟨rfl, hE1⟩
 refine tvv ?_
 rw [if_pos rfl]
 repeat' (first|refine aR rfl rfl ?_|refine cW rfl rfl (by omega) ?_|refine aj rfl ?_|refine aa ?_|refine ak ?_|refine ai rfl ?_|refine ah ?_|refine bJ rfl rfl ?_|refine ao rfl ?_|refine ay ?_)
 refine au (f9 (hM.ext hE1) (by omega)) rfl ?_
 rintro v w2 ⟨t, rfl, ht, hE2⟩
 refine tvv ?_
 have hE12 := hE1.trans hE2
 cases t
 ·repeat' (first|refine aj rfl ?_|refine aa ?_|refine ak ?_|refine ai rfl ?_|refine ah ?_|refine aA rfl ?_|refine aK ?_|refine bf ?_|refine cj ?_)
  exact bo rfl (rt rfl) ⟨4, rfl, ⟨fun h => absurd h (by decide), fun h => absurd (ht.2 h.1) (by decide)⟩, hE12⟩
 ·repeat' (first|refine aj rfl ?_|refine aa ?_|refine ak ?_|refine ai rfl ?_|refine ah ?_|refine ao rfl ?_)
  refine au (kk (hM.ext hE12) (by omega) hK) rfl ?_
  rintro v w3 ⟨t, rfl, ht3, hE3⟩
  refine tvv ?_
  have hE13 := hE12.trans hE3
  cases t
  ·repeat' (first|refine aj rfl ?_|refine aa ?_|refine ak ?_|refine ai rfl ?_|refine ah ?_|refine aA rfl ?_|refine aK ?_|refine bf ?_|refine cj ?_)
   exact bo rfl (rt rfl) ⟨5, rfl, ⟨fun h => absurd h (by decide), fun h => absurd (ht3.2 h) (by decide)⟩, hE13⟩
  ·repeat' (first|refine aj rfl ?_|refine aa ?_|refine ak ?_|refine ai rfl ?_|refine ah ?_|refine ao rfl ?_|refine aJ ?_|refine aK ?_|refine aC ?_)
   exact bo rfl (rt rfl) ⟨0, rfl, ⟨fun _ => ht3.1 rfl, fun _ => rfl⟩, hE13⟩
theorem gd {c1 c2 : Bool} {K1 K2 n ca cb : Nat} {w : World} {a b : Option Addr} {s s' : Nat → SD} {H U : Mat} (hH : MX c1 K1 w a n n s H) (hU : MX c2 K2 w b n n s' U) (hn : 1 ≤ n ∧ n ≤ 16) (hK : K1 + 2 * K2 + 4 < 17592186044416) :
  CallsR Tryz.prog 41 #[.slice a n ca, .slice b n cb] w (RetMO (K2 + K1 + 1 + K2 + 1) w n n (cong n U H)) := by
 refine aE (args := [_, _]) Tryz.func41 rfl rfl ?_
 repeat' (first|refine aj rfl ?_|refine aa ?_|refine ak ?_|refine ai rfl ?_|refine ah ?_)
 refine au (f7 hU hn hn) rfl ?_
 rintro v w1 ⟨u, rfl, g1, gs1, cp1, rfl, hO1, hE1⟩
 refine tvv ?_
 repeat' (first|refine aR rfl rfl ?_|refine aj rfl ?_|refine aa ?_|refine ak ?_|refine ai rfl ?_|refine ah ?_)
 refine au (ec hO1.mx (hH.ext hE1) hn hn hn (by omega)) rfl ?_
 rintro v w2 ⟨g2, gs2, cp2, rfl, hO2, hE2⟩
 refine tvv ?_
 have hE12 := hE1.trans hE2
 repeat' (first|refine aj rfl ?_)
 refine au (ec hO2.mx (hU.ext hE12) hn hn hn (by omega)) rfl ?_
 rintro v w3 ⟨g3, gs3, cp3, rfl, hO3, hE3⟩
 refine tvv ?_
 repeat' (first|refine aj rfl ?_|refine aa ?_|refine ah ?_|refine aK ?_)
 exact bo rfl (rt rfl) ⟨g3, gs3, cp3, rfl, hO3.mono (by have := hE12.size; omega), hE12.trans hE3⟩
theorem mA {cn : Bool} {K n cap : Nat} {w : World} {a : Option Addr} {s : Nat → SD} {A : Mat} (hM : MX cn K w a n n s A) (hn : 1 ≤ n ∧ n ≤ 16) (hK : 16 * K + 17 ≤ 4398046511104) :
  CallsR Tryz.prog 38 #[.slice a n cap] w fun v w' => ∃ t : Bool, v = .bool t ∧ (t = true ↔ det n A ≤ 10000) ∧ Ex w w' := by
 refine aE (args := [_]) Tryz.func38 rfl rfl ?_
 repeat' (first|refine aj rfl ?_|refine aa ?_|refine ak ?_|refine ai rfl ?_|refine ah ?_)
 refine au (cZ hM hn hK) rfl ?_
 rintro v w1 ⟨hI1, hE1⟩
 refine tvv ?_
 obtain ⟨u1, rfl⟩ := hI1.ih
 skip
 refine au (bV (z := 10000) (by omega) (by omega) _) rfl ?_
 rintro v w2 ⟨hI2, hE2⟩
 refine tvv ?_
 obtain ⟨u2, rfl⟩ := hI2.ih
 skip
 refine au (eB (hI1.ext hE2).k (hI2.k (k := 1) (by decide))) rfl ?_
 rintro v w3 ⟨rfl, hE3⟩
 refine tvv ?_
 have hE13 := (hE1.trans hE2).trans hE3
 by_cases h : det n A ≤ 10000
 ·repeat' (first|refine fz rfl rfl (lj.2 (by omega)) ?_|refine aj rfl ?_|refine aa ?_|refine ah ?_|refine aK ?_)
  exact bo rfl (rt rfl) ⟨true, rfl, ⟨fun _ => h, fun _ => rfl⟩, hE13⟩
 ·repeat' (first|(refine fd rfl rfl (by rw [Int.sign_eq_one_of_pos (by omega)]; omega) ?_)|refine aj rfl ?_|refine aa ?_|refine ah ?_|refine aK ?_)
  exact bo rfl (rt rfl) ⟨false, rfl, ⟨fun h => (nomatch h), fun h' => absurd h' h⟩, hE13⟩
def Apt (s t : SD) : Prop := ∀ x y, s.a = some x → t.a = some y → x.block ≠ y.block
theorem xI {s : SD} {lo E n : Nat} {w : World} {f : Nat → Nat} (h : NatG w lo E n s f) {q : Nat} (e : (Value.slice s.a s.len s.cap).ownBlock = some q) : ∃ x, s.a = some x ∧ x.block = q := by
 obtain ⟨a, l, c⟩ := s
 unfold Value.ownBlock at e
 cases a with
 | none => simp at e
 | some x => exact ⟨x, rfl, Option.some.inj e⟩
theorem NatG.apt {w w' : World} {lo E n m : Nat} {s t : SD} {f g : Nat → Nat} (h : NatG w lo E n s f) (ht : NatG w lo E m t g) (ha : Apt s t) (hg : w.grownBy w' (Value.slice s.a s.len s.cap).ownBlock) : NatG w' lo E m t g :=
 NatG.gb ht hg fun ad e e' => by
  obtain ⟨x, hx, hq⟩ := xI h e'
  exact ha x ad hx e hq
theorem Apt.grow {w : World} {lo E m : Nat} {s s' t : SD} {g : Nat → Nat} (ha : Apt s t) (ht : NatG w lo E m t g) (h : s'.a = s.a ∨ ∀ x, s'.a = some x → w.heap.size ≤ x.block) : Apt s' t := fun x y hx hy => by
 rcases h with h | h
 ·exact ha x y (h ▸ hx) hy
 ·have := h x hx; have := (NatG.lo ht y hy).2; omega
theorem Apt.symm {s t : SD} (h : Apt s t) : Apt t s := fun x y hx hy e => h y x hy hx e.symm
theorem fJ {cn : Bool} {K n i j cap : Nat} {w : World} {a : Option Addr} {s : Nat → SD} {A : Mat} (hM : MX cn K w a n n s A) (hn : 1 ≤ n ∧ n ≤ 16) (hi : i < n) (hj : j < n) (hK : 16 * K + 17 ≤ 4398046511104) :
  CallsR Tryz.prog 81 #[.slice a n cap, .int .i64 (i : Int), .int .i64 (j : Int)] w fun v w' => ∃ u : IH, v = u.val ∧ Ent true (16 * K + 17) w' u.val (bm A j i j) ∧ Ex w w' := by
 refine aE (args := [_, _, _]) Tryz.func81 rfl rfl ?_
 repeat' (first|refine aH (fun g1 w1 hn1 => tvv ?_)|refine aj rfl ?_|refine aa ?_|refine ak ?_|refine ai rfl ?_|refine ah ?_|refine ay ?_)
 have hb1 : Blk w1 g1 34 (intL false none 0 0) := hn1.blk
 have lo1 := hn1.lo
 have s1 := hn1.ex.size
 refine aW (ι := Nat × (SD × SD) × ((Nat → Nat) × (Nat → Nat))) [7, 8, 9, 10, 11, 12, 13, 14, 15, 16, 17, 18, 19, 20, 21, 22] (fun t => [(9, .int .i64 (t.1 : Int)), (7, .slice t.2.1.1.a t.2.1.1.len t.2.1.1.cap), (8, .slice t.2.1.2.a t.2.1.2.len t.2.1.2.cap)])
  (fun t w' => t.1 ≤ j ∧ Ex w1 w' ∧ NatG w' w1.heap.size 3 t.1 t.2.1.1 t.2.2.1 ∧ NatG w' w1.heap.size 3 t.1 t.2.1.2 t.2.2.2 ∧ Apt t.2.1.1 t.2.1.2 ∧ ∀ k, k < t.1 → t.2.2.1 k = k ∧ t.2.2.2 k = k) (fun t => j - t.1)
  (0, (sd0, sd0), (fun _ => 0, fun _ => 0)) ⟨rfl, rfl, rfl, trivial⟩ ⟨by simp only; omega, Ex.refl _, NatG.nil _ _ _ _, NatG.nil _ _ _ _, fun x y h => by simp at h, fun i h => by simp only at h; omega⟩ ?_
 rintro ⟨k, ⟨s1, s2⟩, f1, f2⟩ ξ w2 ⟨hk, hE2, hN1, hN2, hA, hf⟩
 simp only at hk hN1 hN2 hA hf
 show CW _ _ _ _ (over [(9, .int .i64 (k : Int)), (7, .slice s1.a s1.len s1.cap), (8, .slice s2.a s2.len s2.cap)] _) w2
 have sz2 := hE2.size
 rcases Nat.lt_or_ge k j with hkj | hkj
 ·repeat' (first|refine bq rfl rfl (by omega) ?_|refine aj rfl ?_|refine aa ?_|refine ak ?_|refine ai rfl ?_|refine ah ?_|refine aA rfl ?_|refine ay ?_|refine aC ?_)
  refine kj (E := 3) (lo := w1.heap.size) (u := k) rfl rfl rfl hN1 (by omega) (by omega) sz2 ?_
  intro gt s1' f1' w3 hN3 h31 h32 hG3 hA3
  have hN23 := NatG.apt hN1 hN2 hA hG3
  have hA' := hA.grow hN2 hA3
  have sz3 := hG3.size
  repeat' (first|refine aj rfl ?_|refine aa ?_|refine ai rfl ?_|refine ah ?_)
  refine kj (E := 3) (lo := w1.heap.size) (u := k) rfl rfl rfl hN23 (by omega) (by omega) (by omega) ?_
  intro gt2 s2' f2' w4 hN4 h41 h42 hG4 hA4
  have hN34 := NatG.apt hN23 hN3 hA'.symm hG4
  have hA'' := (hA'.symm.grow hN3 hA4).symm
  repeat' (first|refine aj rfl ?_|refine aa ?_|refine ai rfl ?_|refine ah ?_|refine aV rfl rfl (by omega) (by omega) ?_|refine aJ ?_)
  refine ⟨⟨(k + 1, (s1', s2'), (f1', f2')), ⟨hkj, (hE2.gb hG3 (fun g e => (NatG.blk hN1 g e).1)).gb hG4 (fun g e => (NatG.blk hN23 g e).1), hN34, hN4, hA'', fun l hl => ?_⟩, by simp only; omega, rfl, rfl, rfl, trivial⟩, (by (repeat (first|exact aG _ _ _|refine aB rfl ?_|refine ax rfl ?_|refine av rfl ?_|refine aw rfl ?_)))⟩
  simp only at hl ⊢
  by_cases e : l = k
  ·subst e; exact ⟨h32, h42⟩
  ·rw [h31 l (by omega), h41 l (by omega)]; exact hf l (by omega)
 ·have ekj : j = k := by omega
  subst ekj
  repeat' (first|refine bp rfl rfl (by omega) ?_|refine aj rfl ?_|refine aa ?_|refine ak ?_|refine ai rfl ?_|refine ah ?_|refine ao rfl ?_|refine aT ?_|refine aO ?_|refine aU ?_)
  refine kj (E := 3) (lo := w1.heap.size) (u := i) rfl rfl rfl hN1 (by omega) (by omega) sz2 ?_
  intro gt s1' f1' w3 hN3 h31 h32 hG3 hA3
  have hN23 := NatG.apt hN1 hN2 hA hG3
  have hA' := hA.grow hN2 hA3
  have sz3 := hG3.size
  repeat' (first|refine aj rfl ?_)
  refine kj (E := 3) (lo := w1.heap.size) (u := j) rfl rfl rfl hN23 (by omega) (by omega) (by omega) ?_
  intro gt2 s2' f2' w4 hN4 h41 h42 hG4 hA4
  have hN34 := NatG.apt hN23 hN3 hA'.symm hG4
  have hE4 : Ex w1 w4 := (hE2.gb hG3 (fun g e => (NatG.blk hN1 g e).1)).gb hG4 (fun g e => (NatG.blk hN23 g e).1)
  have hE04 := hn1.ex.trans hE4
  have l1 : s1'.len = j + 1 := hN34.1
  have l2 : s2'.len = j + 1 := hN4.1
  have e1 : ∀ r, r < j + 1 → f1' r = if r < j then r else i := fun r hr => by
   by_cases e : r = j
   ·subst e; rw [h32, if_neg (by omega)]
   ·rw [h31 r (by omega), if_pos (by omega)]; exact (hf r (by omega)).1
  have e2 : ∀ r, r < j + 1 → f2' r = if r < j then r else j := fun r hr => by
   by_cases e : r = j
   ·subst e; rw [h42, if_neg (by omega)]
   ·rw [h41 r (by omega), if_pos (by omega)]; exact (hf r (by omega)).2
  skip
  rw [l1, l2]
  refine au (iJ (n := j + 1) (m := j + 1) (hM.ext hE04) (NatG.sl hN34) (NatG.sl hN4) (fun r hr => by rw [e1 r hr]; split <;> omega) (fun r hr => by rw [e2 r hr]; split <;> omega) (by omega) (by omega)) rfl ?_
  rintro v w5 ⟨st, S, rfl, hst, hM5, hE5⟩
  refine tvv ?_
  rw [hst]
  skip
  refine au (cZ (n := j + 1) hM5 (by omega) hK) rfl ?_
  rintro v w6 ⟨hI6, hE6⟩
  refine tvv ?_
  obtain ⟨u, rfl⟩ := hI6.ih
  have hdet : det (j + 1) (fun r c => A (f1' r) (f2' c)) = bm A j i j := by
   unfold bm brd
   exact bj fun r c hr hc => by
    show A (f1' r) (f2' c) = A (if r < j then r else i) (if c < j then c else j); rw [e1 r hr, e2 c hc]
  rw [hdet] at hI6
  have hE16 := (hE4.trans hE5).trans hE6
  have hb16 := hb1.ext hE16
  refine aF (n := 2) (vs := u.cells) rfl rfl rfl rfl hb16 rfl (fun w7 hc7 hb7 => tvv ?_)
  repeat' (first|refine aa ?_|refine ah ?_|refine aK ?_)
  exact bo rfl (rc rfl rfl hb7) ⟨u, rfl, hI6.gbN hb16 (cg _ _ _ _) (dx hc7), (hn1.ex.trans hE16).chg hc7 lo1⟩
theorem cE {K lo n k : Nat} {w : World} {sd : SD} {h : Nat → IH} {A : Mat} (hL : MinL K w lo n sd h A) (hk : k ≤ n) (hn : n ≤ 16) (hK : 1 ≤ K) :
  CallsR Tryz.prog 82 #[.slice sd.a sd.len sd.cap, .int .i64 (k : Int)] w fun v w' => ∃ u : IH, v = u.val ∧ Ent true K w' u.val (det k A) ∧ Ex w w' := by
 refine aE (args := [_, _]) Tryz.func82 rfl rfl ?_
 refine ak ?_
 refine ai rfl ?_
 refine aH (fun g1 w1 hn1 => tvv ?_)
 have hb1 : Blk w1 g1 34 (intL false none 0 0) := hn1.blk
 have lo1 := hn1.lo
 by_cases h0 : k = 0
 ·subst h0
  repeat' (first|refine eV rfl rfl (by omega) ?_|refine aj rfl ?_|refine aa ?_|refine ak ?_|refine ai rfl ?_|refine ah ?_|refine aA rfl ?_)
  refine au (bV (z := 1) (by omega) (by omega) _) rfl ?_
  rintro v w2 ⟨hI2, hE2⟩
  refine tvv ?_
  obtain ⟨u, rfl⟩ := hI2.ih
  have hb12 := hb1.ext hE2
  refine aF (n := 2) (vs := u.cells) rfl rfl rfl rfl hb12 rfl (fun w3 hc3 hb3 => tvv ?_)
  repeat' (first|refine aa ?_|refine ah ?_|refine aK ?_|refine bf ?_)
  exact bo rfl (rc rfl rfl hb3) ⟨u, rfl, (Ent.of (hI2.gbN hb12 (cg _ _ _ _) (dx hc3)) (bO (by decide) hK) : Ent true K w3 u.val 1), (hn1.ex.trans hE2).chg hc3 lo1⟩
 ·obtain ⟨m, rfl⟩ : ∃ m, k = m + 1 := ⟨k - 1, by omega⟩
  have hR1 := (RowG.sl hL.1).ext hn1.ex
  have hpl : W.plain sd.a := hR1.plain (by rw [cN]; omega)
  have hlen : sd.len = n := hL.1.1
  have ei : ∀ {v : Int}, v = ((m + 1 : Nat) : Int) - 1 → Value.int .i64 v = Value.int .i64 (m : Int) := fun e => by rw [e]; congr 1; omega
  repeat' (first|refine eH rfl rfl (by omega) ?_|refine bE (j := m) (a := sd.a) rfl (ei rfl) hpl (by omega) ?_|refine bX (j := m) (n := n) (f := h) (a := sd.a) rfl hR1 hpl (by omega) ?_|refine aj rfl ?_|refine aa ?_|refine ak ?_|refine ai rfl ?_|refine ah ?_|refine bK rfl rfl (by omega) (by omega) ?_|refine ao rfl ?_|refine aC ?_)
  refine aF (n := 2) (vs := (h m).cells) rfl rfl rfl rfl hb1 rfl (fun w3 hc3 hb3 => tvv ?_)
  repeat' (first|refine aa ?_|refine ah ?_|refine aK ?_)
  exact bo rfl (rc rfl rfl hb3) ⟨h m, rfl, ((hL.2 m (by omega)).ext hn1.ex).gbN hb1 (cg _ _ _ _) (dx hc3), hn1.ex.chg hc3 lo1⟩
end Go.Proofs.YtpfhfldehaiokaaGreat
