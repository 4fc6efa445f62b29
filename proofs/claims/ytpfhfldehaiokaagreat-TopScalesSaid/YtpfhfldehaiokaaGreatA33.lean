import Derived.Test.YtpfhfldehaiokaaGreatA32
set_option maxHeartbeats 16000000
namespace Go.W
theorem vn {k : Nat} {h : Nat → IH} {u : IH} : rowC k h ++ u.cells = rowC (k + 1) (setF h k u) := by
 rw [dA, aI, fG (h' := setF h k u) fun i hi => (aN _ _ (by omega)).symm]
theorem mK {k : Nat} {f : Nat → Int} {z : Int} : intC k f ++ [.int .i64 z] = intC (k + 1) (setF f k z) := by
 unfold intC
 rw [List.range_succ, List.map_append]
 congr 1
 ·exact List.map_congr_left fun i hi => by rw [aN _ _ (by have := List.mem_range.1 hi; omega)]
 ·simp [aI]
end Go.W
namespace Go.Proofs.YtpfhfldehaiokaaGreat
open Go.W Go.LM Go.LA
theorem StgL.offb {K lo n b b' T : Nat} {w : World} {sd : SD} {S : Nat → SD} {gk : Nat → Nat} {sk : Nat → Nat → SD} {A : Mat} {cs : List Value} (h : StgL K w lo n n b sd S gk sk A) (hb : Blk w b' T cs) (h0 : ∀ ad l c, cs[0]? ≠ some (.slice (some ad) l c)) (h1 : ∀ t, Value.bool t ∉ cs) : StgL K w lo n n b' sd S gk sk A := by
 refine ⟨h.top, h.hd, h.mx, h.off, fun l hl => ⟨?_, fun i hi => ?_⟩⟩
 ·rintro rfl
  obtain ⟨p, d, hh, e1, _, ⟨pg, po, rfl⟩, _, _⟩ := (h.mx l hl).get (show 0 < n - l by omega) (by omega)
  have hc := (h.mx l hl).top.get 0 (by rw [cv]; omega)
  have hc2 : w.cell? ⟨gk l, 0, none⟩ = cs[0]? := by unfold Blk at hb; simp [World.cell?, hb]
  have e2 : (topC (n - l) (sk l)).getD 0 undef = .slice (some ⟨pg, po, none⟩) (n - l) d := by
   have : (topC (n - l) (sk l))[0]? = some (sk l 0).val := by unfold topC; simp [show 0 < n - l by omega]
   rw [List.getD_eq_getElem?_getD, this, e1]; rfl
  rw [e2] at hc
  exact h0 _ _ _ (hc2.symm.trans hc)
 ·obtain ⟨p, d, hh, e1, _, _, hS, _⟩ := (h.mx l hl).get hi (by omega)
  rw [e1]
  refine hS.off hb (j := 0) (by rw [cN]; omega) ?_
  have e2 := (gH (n := n - l) (h := hh) (i := 0) (by omega)).1
  rw [List.getD_eq_getElem?_getD, show (0 : Nat) = 0 * 2 from rfl, e2]
  exact h1 _
def ElimR (w0 : World) (n : Nat) (A : Mat) (v : Value) (w' : World) : Prop :=
 ∃ (sd : SD) (S : Nat → SD) (gk : Nat → Nat) (sk : Nat → Nat → SD) (b : Nat) (am : Option Addr) (cm : Nat) (hm : Nat → IH) (lo : Nat),
  v = .agg #[.slice sd.a sd.len sd.cap, .slice am ((n + 1 : Nat)) cm] ∧ StgL 49 w' lo n n b sd S gk sk A ∧ (Sl w' am (rowC (n + 1) hm) ∧ W.plain am ∧ ∀ i, i < n + 1 → Ent true 49 w' (hm i).val (det i A)) ∧
  (w0.heap.size ≤ lo ∧ ∀ ad, am = some ad → w0.heap.size ≤ ad.block) ∧ Ex w0 w'
theorem q9 {n cap g o : Nat} {w : World} {s : Nat → SD} {A : Mat} (hM : MI w (some ⟨g, o, none⟩) n n s A) (hn : 1 ≤ n ∧ n ≤ 16) (hl : ∀ i j, i < n → j < n → Lb 2 (A i j)) (hp : ∀ k, k < n → det (k + 1) A ≠ 0) :
  CallsR Tryz.prog 97 #[.slice (some ⟨g, o, none⟩) n cap] w (ElimR w n A) := by
 refine aE (args := [_]) Tryz.func97 rfl rfl ?_
 repeat' (first|refine aH (fun g2 w1 hn1 => tvv ?_)|refine aj rfl ?_|refine aa ?_|refine ak ?_|refine ai rfl ?_|refine ah ?_)
 have hE1 := hn1.ex
 refine au (jk (hM.ext hE1) hn hn) rfl ?_
 rintro v w2 ⟨u, rfl, gm, gs, cp, rfl, hO2, hE2⟩
 refine tvv ?_
 repeat' (first|refine aR rfl rfl ?_|refine aj rfl ?_|refine aa ?_|refine ak ?_|refine ai rfl ?_|refine ah ?_)
 refine au (iP hO2.mx hn hl hp (by decide)) rfl ?_
 rintro v w3 ⟨sd, S, gk, sk, b, rfl, hL3, hE3⟩
 refine tvv ?_
 have hlen : sd.len = n := hL3.top.1
 have hpl : W.plain sd.a := by
  rcases hL3.top.2 with h | ⟨g, h, _⟩
  ·omega
  ·exact ⟨g, 0, h⟩
 have hE03 := hE1.trans (hE2.trans hE3)
 repeat' (first|refine aR rfl rfl ?_|refine aj rfl ?_|refine aa ?_|refine ak ?_|refine ai rfl ?_|refine ah ?_)
 refine au (jo (z := 1) (by decide) (by decide) w3) rfl ?_
 rintro v w4 ⟨hv, hE4⟩
 refine tvv ?_
 obtain ⟨u1, rfl⟩ := hv.ih
 have hu1 : Ent true 49 w4 u1.val 1 := Ent.of hv (by decide)
 have hE04 := hE03.trans hE4
 have hL4 := hL3.ext hE4
 refine iv (E := 34) (s := 2) (z := .agg #[.bool false, .slice none 0 0]) (cs := u1.val.cells) rfl (by
  simp only [List.map_toArray, List.map_cons, List.map_nil]
  exact ew (s := 2) rfl (by simp)) (fun g5 w5 hn5 => tvv ?_)
 have hown5 : Own w5 w4.heap.size 34 2 (some ⟨g5, 0, none⟩) 1 1 (rowC 1 (fun _ => u1)) := hn5.blk.own rfl (by decide) hn5.lo
 repeat' (first|refine da (cs := [.slice sd.a sd.len sd.cap, .slice (some ⟨g5, 0, none⟩) 1 1]) rfl ?_|refine aH (fun g7 w6 hn6 => tvv ?_))
 refine aF (n := 2) (vs := [.slice sd.a sd.len sd.cap, .slice (some ⟨g5, 0, none⟩) 1 1]) rfl rfl rfl rfl hn6.blk rfl (fun w7 hc7 hb7 => tvv ?_)
 have l5 := hn5.lo
 have l6 := hn6.lo
 have s5 := hn5.ex.size
 have t5 := hn5.blk.lt
 have hE47 : Ex w4 w7 := (hn5.ex.trans hn6.ex).chg hc7 (by omega)
 have hown7 := (hown5.ext hn6.ex).chg hc7 (fun ad e => by cases e; show g5 ≠ g7; omega)
 repeat' (first|refine aj rfl ?_|refine aa ?_|refine ak ?_|refine ai rfl ?_|refine ah ?_|refine bc rfl ?_|refine ay ?_)
 have hu0 : ∀ i, i < 0 + 1 → Ent true 49 w4 u1.val (det i A) := fun i hi => by
  obtain rfl : i = 0 := by omega
  rw [cA]; exact hu1
 refine aW (ι := Nat × (Option Addr × Nat) × (Nat → IH)) [9, 26, 27, 28, 29, 30, 31, 32, 33, 34, 35, 36, 37, 38, 39, 40] (fun t => [(26, .int .i64 (t.1 : Int))])
  (fun t w' => (t.1 ≤ n ∧ Ex w4 w') ∧ Own w' w4.heap.size 34 2 t.2.1.1 (t.1 + 1) t.2.1.2 (rowC (t.1 + 1) t.2.2) ∧ (∀ ad, t.2.1.1 = some ad → ad.block ≠ g7) ∧ Blk w' g7 135 [.slice sd.a sd.len sd.cap, .slice t.2.1.1 ((t.1 + 1 : Nat)) t.2.1.2] ∧
   ∀ i, i < t.1 + 1 → Ent true 49 w4 (t.2.2 i).val (det i A)) (fun t => n - t.1)
  (0, (some ⟨g5, 0, none⟩, 1), fun _ => u1) ⟨rfl, trivial⟩ ⟨⟨by simp only; omega, hE47⟩, hown7, fun ad e => by cases e; show g5 ≠ g7; omega, hb7, fun i hi => hu0 i hi⟩ ?_
 rintro ⟨k, ⟨am, cm⟩, hm⟩ ξ w8 ⟨⟨hk, hE8⟩, hown8, hne8, hb8, hen8⟩
 simp only at hk hown8 hne8 hb8 hen8
 show CW _ _ _ _ (over [(26, .int .i64 (k : Int))] _) w8
 have hL8 := hL4.ext hE8
 rcases Nat.lt_or_ge k n with hkn | hkn
 ·obtain ⟨p, d, hh, e1, _, hpp, hS, hEn⟩ := (hL4.mx k hkn).get (show 0 < n - k by omega) (by omega)
  have e0 := hEn 0 (by omega)
  rw [show k + 0 = k from rfl, d9] at e0
  have hM4 := hL4.mx k hkn
  repeat' (first|refine bq rfl rfl (by omega) ?_|refine aa ?_|refine ak ?_|refine ai rfl ?_|refine ah ?_|refine aA rfl ?_|refine aC ?_)
  refine ay ?_
  repeat' (first|refine az (j := k) (a := sd.a) rfl rfl hpl (by omega) ?_|refine aZ (j := k) (a := sd.a) (n := n) (s := S) rfl (TopG.sl hL8.top) (by omega) (hL8.hd k hkn) ?_|refine aj rfl ?_|refine aa ?_|refine ak ?_|refine ai rfl ?_|refine ah ?_)
  refine bn (late := [10]) (plan := [(0, none), (1, none), (2, none), (3, none), (4, none), (5, none), (6, none), (7, some true), (8, some true), (9, none), (10, some false)]) (fun w' => Ex w4 w' ∧ Blk w' g7 135 [.slice sd.a sd.len sd.cap, .slice am ((k + 1 : Nat)) cm]) bD (by kernel_rfl) ⟨hE8.drew, hb8.drew⟩ ?_
  repeat' (first|refine aP (g := g7) rfl (fun _ h => h.2) rfl ?_|refine az (j := 0) (a := some ⟨gk k, 0, none⟩) rfl rfl ⟨_, _, rfl⟩ (by omega) ?_|refine aZ (j := 0) (a := some ⟨gk k, 0, none⟩) (n := n - k) (s := sk k) rfl (fun _ h => (hM4.ext h.1).top) (by omega) e1 ?_|refine bE (j := 0) (a := p) rfl rfl hpp (by omega) ?_|refine bX (j := 0) (n := n - k) (f := hh) (a := p) rfl (fun _ h => hS.ext h.1) hpp (by omega) ?_|refine aj rfl ?_|refine aM rfl ?_)
  refine iv (E := 34) (s := 2) (z := .agg #[.bool false, .slice none 0 0]) (cs := (hh 0).val.cells) rfl (by
   simp only [List.map_toArray, List.map_cons, List.map_nil]
   exact ew (s := 2) rfl (by simp)) (fun g9 w9 hn9 => ⟨fun _ h => ⟨h.1.trans hn9.ex, h.2.ext hn9.ex⟩, ?_⟩)
  have hE89 : Ex w8 w9 := (Ex.refl w8).drew.trans hn9.ex
  have hE9 := hE8.trans hE89
  have s9 := hE9.size
  refine dZ (E := 34) (s := 2) (y := 32) (z := .agg #[.bool false, .slice none 0 0]) (m := 1) (c := 1) (news := (hh 0).cells) (lo := w4.heap.size) rfl rfl rfl rfl (hown8.ext hE89) hn9.blk.sl ⟨_, _, rfl⟩ rfl rfl (by omega) (by omega) s9 (fun am' cm' w10 hown10 hg10 ha10 => ⟨fun _ h => ⟨(hown8.ext hE89).grow_ex hg10 h.1 (Nat.le_refl _), h.2.gb hg10 fun e => by
   obtain ⟨ad, e1, e2⟩ : ∃ ad, am = some ad ∧ ad.block = g7 := by
    cases am with
    | none => cases e
    | some ad => exact ⟨ad, rfl, by simpa [Value.ownBlock] using e⟩
   exact hne8 ad e1 e2⟩, ?_⟩)
  have hne : (Value.slice am (k + 1) cm).ownBlock ≠ some g7 := fun e => by
   obtain ⟨ad, e1, e2⟩ : ∃ ad, am = some ad ∧ ad.block = g7 := by
    cases am with
    | none => cases e
    | some ad => exact ⟨ad, rfl, by simpa [Value.ownBlock] using e⟩
   exact hne8 ad e1 e2
  have hb10 := (hb8.ext hE89).gb hg10 hne
  have hE10 := (hown8.ext hE89).grow_ex hg10 hE9 (Nat.le_refl _)
  have t8 := hb8.lt
  have s89 := hE89.size
  have hne10 : ∀ ad, am' = some ad → ad.block ≠ g7 := fun ad e => by
   rcases ha10 with h | h
   ·exact hne8 ad (by rw [← h]; exact e)
   ·have := h ad e; omega
  repeat' (first|refine aM rfl ?_)
  refine cD (v := .slice am' ((k + 1 + 1 : Nat)) cm') rfl rfl rfl hb10 rfl (fun w11 hc11 hb11 => ⟨fun h => (nomatch h), ?_⟩)
  repeat' (first|refine aj rfl ?_|refine aa ?_|refine ai rfl ?_|refine ah ?_|refine aV rfl rfl (by omega) (by omega) ?_|refine aJ ?_)
  refine ⟨⟨(k + 1, (am', cm'), setF hm (k + 1) (hh 0)), ⟨⟨hkn, hE10.chg hc11 (by have := hE47.size; omega)⟩, ?_, hne10, hb11, fun i hi => ?_⟩, by simp only; omega, rfl, trivial⟩, (by (repeat (first|exact aG _ _ _|refine aB rfl ?_|refine ax rfl ?_|refine av rfl ?_|refine aw rfl ?_)))⟩
  ·simp only
   rw [← vn]
   exact hown10.chg hc11 hne10
  ·simp only at hi ⊢
   by_cases e : i = k + 1
   ·subst e; rw [aI]; exact e0
   ·rw [aN _ _ e]; exact hen8 i (by omega)
 ·obtain rfl : n = k := by omega
  repeat' (first|refine bp rfl rfl (by omega) ?_|refine aa ?_|refine ak ?_|refine ai rfl ?_|refine ah ?_|refine ao rfl ?_|refine aT ?_|refine aO ?_|refine aU ?_)
  refine aY (n := 2) rfl hb8 rfl ?_
  have hb2 : Blk w8 g2 135 _ := (hn1.blk.ext (hE2.trans (hE3.trans hE4))).ext hE8
  refine aF (n := 2) (vs := [.slice sd.a sd.len sd.cap, .slice am ((n + 1 : Nat)) cm]) rfl rfl rfl rfl hb2 rfl (fun w9 hc9 hb9 => tvv ?_)
  repeat' (first|refine aa ?_|refine ah ?_|refine aK ?_)
  have hnoi : NoI ([.slice none 0 0, .slice none 0 0] : List Value) := fun v hv m e => by
   simp only [List.mem_cons, List.not_mem_nil, or_false] at hv
   rcases hv with rfl | rfl <;> cases e
  have l2 := hn1.blk.lt
  have s2 := hE2.size
  have s3 := hE3.size
  have s4 := hE4.size
  have hL9 := (hL8.offb hb2 (fun ad l c e => by cases e) (fun t ht => by simp [Value.cells] at ht)).chg hb2 hnoi hc9 (by omega)
  have hlo1 := hn1.lo
  have hpa : W.plain am := by
   have := hown8.sl.plain (by rw [cN]; omega); exact this
  exact bo rfl (rc rfl rfl hb9) ⟨sd, S, gk, sk, g2, am, cm, hm, w2.heap.size, rfl, hL9, ⟨hown8.sl.chg hc9 (fun ad e => by have := (hown8.lo ad e).1; omega), hpa, fun i hi => ((hen8 i hi).ext hE8).gbN hb2 hnoi (dx hc9)⟩,
   ⟨by have := hE1.size; omega, fun ad e => by have := (hown8.lo ad e).1; have := hE1.size; omega⟩, (hE04.trans hE8).chg hc9 hlo1⟩
theorem kM {p : Nat} {v : Value} {z : Int} {w : World} (hz : Ent true p w v z) (hf : fits64 z) :
  CallsR Tryz.prog 98 #[v] w fun r w' => r = .int .i64 z ∧ Ex w w' := by
 obtain ⟨u, rfl⟩ := hz.ih
 refine aE (args := [_]) Tryz.func98 rfl rfl ?_
 repeat' (first|refine bC rfl (fun g1 w1 hn1 => tvv ?_)|refine aj rfl ?_|refine aa ?_|refine ak ?_|refine ai rfl ?_|refine ah ?_)
 repeat' (first|refine aY (n := 2) rfl hn1.blk rfl ?_)
 refine au (kI (hz.ext hn1.ex).k) rfl ?_
 rintro v w2 ⟨rfl, hE2⟩
 refine tvv ?_
 repeat' (first|refine aR rfl rfl ?_|refine aj rfl ?_|refine aa ?_|refine ak ?_|refine ai rfl ?_|refine ah ?_|refine aK ?_)
 exact bo rfl (rt (v := .int .i64 (if fits64 z then z else 0)) rfl) ⟨by rw [if_pos hf], hn1.ex.trans hE2⟩
end Go.Proofs.YtpfhfldehaiokaaGreat
namespace Go.W
open Go.RowKit (Below)
structure Fr (F : Nat → Prop) (w w' : World) : Prop where
 os : w'.os = w.os
 tape : w'.tape = w.tape
 output : w'.output = w.output
 size : w.heap.size ≤ w'.heap.size
 block : ∀ k, k < w.heap.size → ¬ F k → w'.heap[k]? = w.heap[k]?
theorem Fr.trans {F : Nat → Prop} {w w1 w2 : World} (h : Fr F w w1) (k : Fr F w1 w2) : Fr F w w2 :=
 ⟨k.os.trans h.os, k.tape.trans h.tape, k.output.trans h.output, Nat.le_trans h.size k.size, fun i hi hn => (k.block i (Nat.lt_of_lt_of_le hi h.size) hn).trans (h.block i hi hn)⟩
theorem Fr.mono {F G : Nat → Prop} {w w1 : World} (h : Fr F w w1) (hs : ∀ k, k < w.heap.size → F k → G k) : Fr G w w1 :=
 ⟨h.os, h.tape, h.output, h.size, fun i hi hn => h.block i hi fun hf => hn (hs i hi hf)⟩
theorem Ex.fr {F : Nat → Prop} {w w' : World} (h : Ex w w') : Fr F w w' := ⟨h.os, h.tape, h.output, h.size, fun k hk _ => h.block k hk⟩
theorem Chg.fr {F : Nat → Prop} {w w' : World} {g : Nat} (h : Chg g w w') (hg : F g) : Fr F w w' := ⟨h.os, h.tape, h.output, Nat.le_of_eq h.size.symm, fun k _ hn => h.block k (by rintro rfl; exact hn hg)⟩
theorem Fr.ex {F : Nat → Prop} {w0 w w' : World} (e : Ex w0 w) (h : Fr F w w') (hF : ∀ k, F k → w0.heap.size ≤ k) : Ex w0 w' :=
 Below.trans e ⟨h.os, h.tape, h.output, h.size, fun k hk => h.block k (Nat.lt_of_lt_of_le hk e.size) fun hf => absurd (hF k hf) (Nat.not_le_of_lt hk)⟩
theorem Blk.fr {F : Nat → Prop} {w w' : World} {g T : Nat} {cs : List Value} (hb : Blk w g T cs) (h : Fr F w w') (hn : ¬ F g) : Blk w' g T cs := (h.block g hb.lt hn).trans hb
theorem Sl.fr {F : Nat → Prop} {w w' : World} {a : Option Addr} {vs : List Value} (hs : Sl w a vs) (h : Fr F w w') (hn : ∀ ad, a = some ad → ¬ F ad.block) : Sl w' a vs := by
 refine ⟨hs.ok, fun j hj => ?_⟩
 have hlt := World.block_lt_of_cell? w _ (hs.get j hj)
 obtain ⟨b, o, rfl⟩ := hs.plain (by omega)
 rw [World.cell?_of_block (w := w) (a := elt (some ⟨b, o, none⟩) j) (h.block b hlt (hn _ rfl))]; exact hs.get j hj
end Go.W
namespace Go.Proofs.YtpfhfldehaiokaaGreat
open Go.W Go.LM Go.LA
structure WM (w : World) (lo hi gw gx n : Nat) (A : Mat) (C : Int) (am : Option Addr) (cm : Nat) (sl : SD) (S : Nat → SD) : Prop where
 st : Blk w gw 133 [.int .i64 C, .slice am ((n + 1 : Nat)) cm, .slice sl.a (n : Nat) sl.cap, .slice (some ⟨gx, 0, none⟩) n n]
 mn : Sl w am (intC (n + 1) fun k => det k A)
 la : Sl w sl.a (topC n S)
 row : ∀ k, k < n → (S k).len = n - k - 1 ∧ Sl w (S k).a (intC (n - k - 1) fun j => bm A k k (k + 1 + j))
 bw : lo ≤ gw ∧ gw < hi ∧ gw ≠ gx
 bx : lo ≤ gx ∧ gx < hi
 bm : ∀ ad, am = some ad → lo ≤ ad.block ∧ ad.block < hi ∧ ad.block ≠ gx
 bl : ∀ ad, sl.a = some ad → lo ≤ ad.block ∧ ad.block < hi ∧ ad.block ≠ gx
 br : ∀ k, k < n → 0 < n - k - 1 → ∀ ad, (S k).a = some ad → lo ≤ ad.block ∧ ad.block < hi ∧ ad.block ≠ gx
theorem gg {m lo E k : Nat} {a : Option Addr} {f : Nat → Int} {w w' : World} {sl : SD} {S : Nat → SD} (h : Sl w a (intC m f)) (hT : TopG w lo E k sl S) (hg : w.grownBy w' (Value.slice sl.a sl.len sl.cap).ownBlock) : Sl w' a (intC m f) := by
 rcases Nat.eq_zero_or_pos m with rfl | hm
 ·exact Sl.nil _ _
 ·refine h.gb hg fun ad e he => ?_
  obtain ⟨_, hb⟩ := TopG.blk hT _ he
  refine h.off hb (j := 0) (by rw [bU]; exact hm) (fun hmem => ?_) ad e rfl
  obtain ⟨x, y, z, h1⟩ := ke hmem
  rw [List.getD_eq_getElem?_getD, fL hm] at h1
  cases h1
theorem fQ {m g : Nat} {a : Option Addr} {f : Nat → Int} {w w' : World} (h : Sl w a (intC m f)) (hne : 0 < m → ∀ ad, a = some ad → ad.block ≠ g) (hc : Chg g w w') : Sl w' a (intC m f) := by
 rcases Nat.eq_zero_or_pos m with rfl | hm
 ·exact Sl.nil _ _
 ·exact h.chg hc (hne hm)
theorem ch {a : Option Addr} {n c g : Nat} (h : ∀ ad, a = some ad → ad.block ≠ g) : (Value.slice a n c).ownBlock ≠ some g := fun e => by
 cases a with
 | none => cases e
 | some ad => exact h ad rfl (by simpa [Value.ownBlock] using e)
theorem gbT {w0 w w' : World} {r r' : Option Nat} (h : w0.grownBy w r) (h' : w.grownBy w' r') (hr : ∀ k, r' = some k → r = some k ∨ w0.heap.size ≤ k) : w0.grownBy w' r := dQ h h' hr
theorem oW {n cap g o : Nat} {w : World} {s : Nat → SD} {A : Mat} {C : Int} (hM : MI w (some ⟨g, o, none⟩) n n s A) (hn : 1 ≤ n ∧ n ≤ 16) (hl : ∀ i j, i < n → j < n → Lb 2 (A i j)) (hp : ∀ k, k < n → det (k + 1) A ≠ 0)
  (hfd : ∀ k, k < n + 1 → fits64 (det k A)) (hfb : ∀ k j, k < n → j < n - k - 1 → fits64 (bm A k k (k + 1 + j))) :
  CallsR Tryz.prog 59 #[.slice (some ⟨g, o, none⟩) n cap, .int .i64 C] w fun v w' => ∃ gw gx am cm sl S, v = .pointer (some ⟨gw, 0, none⟩) ∧ WM w' w.heap.size w'.heap.size gw gx n A C am cm sl S ∧ Blk w' gx 2 (intC n fun _ => 0) ∧ Ex w w' := by
 refine aE (args := [_, _]) Tryz.func59 rfl rfl ?_
 repeat' (first|refine eF (n := n) rfl rfl (by omega) (by omega) (fun gx w1 hn1 => tvv ?_)|refine da (cs := [.int .i64 C, .slice none 0 0, .slice none 0 0, .slice (some ⟨gx, 0, none⟩) n n]) rfl ?_|refine bC rfl (fun gw w2 hn2 => tvv ?_)|refine aj rfl ?_|refine aa ?_|refine ak ?_|refine ai rfl ?_|refine ah ?_|refine bc rfl ?_)
 have hE2 := hn1.ex.trans hn2.ex
 refine au (q9 (hM.ext hE2) hn hl hp) rfl ?_
 rintro v w3 ⟨sd, SS, gk, sk, b0, ae, ce, hm, lo, rfl, hL3, ⟨hS3, hpe, hen3⟩, ⟨hlo3, hbe⟩, hE3⟩
 refine tvv ?_
 refine aH (fun g6 w4 hn4 => tvv ?_)
 refine aF (n := 2) (vs := [.slice sd.a sd.len sd.cap, .slice ae ((n + 1 : Nat)) ce]) rfl rfl rfl rfl hn4.blk rfl (fun w5 hc5 hb5 => tvv ?_)
 have lx := hn1.lo
 have lw := hn2.lo
 have bx := hn1.blk.lt
 have bw := hn2.blk.lt
 have z1 := hn1.ex.size
 have z3 := hE3.size
 have z4 := hn4.ex.size
 have lo4 := hn4.lo
 have hE35 : Ex w3 w5 := hn4.ex.chg hc5 lo4
 have hE25 := hE3.trans hE35
 have z35 := hE35.size
 have hL5 := hL3.ext hE35
 have hS5 := hS3.ext hE35
 have hgw5 : Blk w5 gw 133 _ := hn2.blk.ext hE25
 have hlen : sd.len = n := hL3.top.1
 have hpl : W.plain sd.a := by
  rcases hL3.top.2 with h | ⟨g, h, _⟩
  ·omega
  ·exact ⟨g, 0, h⟩
 have hLw := hL5.offb hgw5 (fun ad l c e => by cases e) (fun t ht => by simp at ht)
 have hae : ∀ ad, ae = some ad → ad.block ≠ gw := fun ad e => by have := hbe ad e; omega
 have hnoi : ∀ (x y z : Value), (∀ m, x ≠ .int .u32 m) → (∀ m, y ≠ .int .u32 m) → (∀ m, z ≠ .int .u32 m) → NoI [.int .i64 C, x, y, z] := fun x y z hx hy hz v hv m e => by
  simp only [List.mem_cons, List.not_mem_nil, or_false] at hv
  rcases hv with rfl | rfl | rfl | rfl
  ·cases e
  ·exact hx m e
  ·exact hy m e
  ·exact hz m e
 repeat' (first|refine aP (g := g6) rfl hb5 rfl ?_|refine aj rfl ?_|refine aa ?_|refine ak ?_|refine ai rfl ?_|refine ah ?_|refine bc rfl ?_|refine aM rfl ?_|refine ay ?_)
 refine aW (ι := Nat × (Option Addr × Nat)) [8, 25, 26, 27, 28, 29, 30, 31, 32, 33, 34, 35, 36, 37, 38, 39, 40] (fun t => [(25, .int .i64 (t.1 : Int))])
  (fun t w' => (t.1 ≤ n + 1 ∧ w5.grownBy w' (some gw)) ∧ Own w' w5.heap.size 2 1 t.2.1 t.1 t.2.2 (intC t.1 fun i => det i A) ∧ Blk w' gw 133 [.int .i64 C, .slice t.2.1 t.1 t.2.2, .slice none 0 0, .slice (some ⟨gx, 0, none⟩) n n]) (fun t => n + 1 - t.1)
  (0, (none, 0)) ⟨rfl, trivial⟩ ⟨⟨by simp only; omega, kz (Ex.refl _) |> fun h => ⟨h.os, h.tape, h.output, h.size, fun k hk _ => h.block k hk (by simp)⟩⟩, Own.nil _ _ _ _, hgw5⟩ ?_
 rintro ⟨k, am, cm⟩ ξ w6 ⟨⟨hk, hG6⟩, hown6, hgw6⟩
 simp only at hk hown6 hgw6
 show CW _ _ _ _ (over [(25, .int .i64 (k : Int))] _) w6
 have z6 := hG6.size
 have hS6 := hS5.gb hG6 (fun ad e he => by cases he; exact hae ad e rfl)
 rcases Nat.lt_or_ge k (n + 1) with hkn | hkn
 ·have e6 : Ent true 49 w6 (hm k).val (det k A) := ((hen3 k hkn).ext hE35).gbN hgw5 (hnoi _ _ _ (fun _ e => by cases e) (fun _ e => by cases e) (fun _ e => by cases e)) hG6
  repeat' (first|refine bq rfl rfl (by omega) ?_|refine aa ?_|refine ak ?_|refine ai rfl ?_|refine ah ?_|refine aA rfl ?_|refine aC ?_)
  refine ay ?_
  repeat' (first|refine bE (j := k) (a := ae) rfl rfl hpe (by omega) ?_|refine bX (j := k) (n := n + 1) (f := hm) (a := ae) rfl hS6 hpe hkn ?_|refine aH (fun g8 w7 hn7 => tvv ?_)|refine ak ?_|refine ai rfl ?_)
  refine aF (n := 2) (vs := (hm k).cells) rfl rfl rfl rfl hn7.blk rfl (fun w8 hc8 hb8 => tvv ?_)
  have lo7 := hn7.lo
  have z7 := hn7.ex.size
  have hE68 : Ex w6 w8 := hn7.ex.chg hc8 lo7
  have hgw8 := hgw6.ext hE68
  have hown8 := hown6.ext hE68
  have z68 := hE68.size
  have am_ne : ∀ ad, am = some ad → ad.block ≠ gw ∧ ad.block ≠ g8 := fun ad e => by have := hown6.lo ad e; omega
  repeat' (first|refine aa ?_|refine ah ?_)
  refine bn (late := [11]) (plan := [(0, none), (1, none), (2, none), (3, none), (4, none), (5, none), (6, some true), (7, some true), (8, some true), (9, none), (10, none), (11, some false)]) (fun w' => Blk w' gw 133 [.int .i64 C, .slice am k cm, .slice none 0 0, .slice (some ⟨gx, 0, none⟩) n n] ∧ Blk w' g8 34 (hm k).cells) bD (by kernel_rfl) ⟨hgw8.drew, hb8.drew⟩ ?_
  repeat' (first|refine bZ rfl ?_|refine aP (g := gw) rfl (fun _ h => h.1) rfl ?_|refine aY (n := 2) rfl (fun _ h => h.2) rfl ?_|refine aj rfl ?_|refine aM rfl ?_)
  have hEd := (Ex.refl w8).drew
  refine au (kM ((e6.ext hE68).ext hEd) (hfd k hkn)) rfl ?_
  rintro v w9 ⟨rfl, hE9⟩
  refine ⟨fun _ h => ⟨h.1.ext hE9, h.2.ext hE9⟩, ?_⟩
  refine gX (E := 2) (u := det k A) rfl (fun g10 w10 hn10 => ⟨fun _ h => ⟨h.1.ext hn10.ex, h.2.ext hn10.ex⟩, ?_⟩)
  have hE810 := hEd.trans (hE9.trans hn10.ex)
  have z810 := hE810.size
  refine dZ (E := 2) (s := 1) (y := 8) (z := .int .i64 0) (m := 1) (c := 1) (news := [.int .i64 (det k A)]) (lo := w5.heap.size) rfl rfl rfl rfl (hown8.ext hE810) hn10.blk.sl ⟨_, _, rfl⟩ rfl rfl (by omega) (by omega) (by omega) (fun am' cm' w11 hown11 hg11 ha11 => ⟨fun _ h => ⟨h.1.gb hg11 (ch fun ad e => (am_ne ad e).1), h.2.gb hg11 (ch fun ad e => (am_ne ad e).2)⟩, ?_⟩)
  have hgw11 := (hgw8.ext hE810).gb hg11 (ch fun ad e => (am_ne ad e).1)
  have hlt8 := hgw8.lt
  have hne11 : ∀ ad, am' = some ad → ad.block ≠ gw := fun ad e => by
   rcases ha11 with h | h
   ·exact (am_ne ad (by rw [← h]; exact e)).1
   ·have := h ad e; omega
  have hG11 : w5.grownBy w11 (some gw) := gbT (gbT hG6 (kz (hE68.trans hE810)) (fun _ e => by cases e)) hg11 (fun q e => by
   cases am with
   | none => cases e
   | some ad => right; have := (hown6.lo ad rfl).1; simp [Value.ownBlock] at e; omega)
  repeat' (first|refine bZ rfl ?_|refine aM rfl ?_)
  refine cD (v := .slice am' ((k + 1 : Nat)) cm') rfl rfl rfl hgw11 rfl (fun w12 hc12 hb12 => ⟨fun h => (nomatch h), ?_⟩)
  repeat' (first|refine aj rfl ?_|refine aa ?_|refine ai rfl ?_|refine ah ?_|refine aV rfl rfl (by omega) (by omega) ?_|refine aJ ?_)
  refine ⟨⟨(k + 1, am', cm'), ⟨⟨hkn, gbT hG11 (dx hc12) (fun _ e => .inl e)⟩, ?_, hb12⟩, by simp only; omega, rfl, trivial⟩, (by (repeat (first|exact aG _ _ _|refine aB rfl ?_|refine ax rfl ?_|refine av rfl ?_|refine aw rfl ?_)))⟩
  simp only
  have := hown11.chg hc12 hne11
  rw [mK, cJ (g := fun i => det i A) fun i hi => by
   by_cases e : i = k
   ·subst e; exact aI _ _ _
   ·exact aN _ _ e] at this
  exact this
 ·obtain rfl : k = n + 1 := by omega
  have hb6 := hb5.gb hG6 (fun e => by cases e; omega)
  have ham : ∀ ad, am = some ad → w5.heap.size ≤ ad.block ∧ ad.block < w6.heap.size := fun ad e => hown6.lo ad e
  have hsm := hown6.sl
  have hT6 := hLw.top
  repeat' (first|refine bp rfl rfl (by omega) ?_|refine aP (g := g6) rfl hb6 rfl ?_|refine aj rfl ?_|refine aa ?_|refine ak ?_|refine ai rfl ?_|refine ah ?_|refine bc rfl ?_|refine aM rfl ?_|refine ao rfl ?_|refine ay ?_|refine aT ?_|refine aO ?_|refine aU ?_)
  refine aW (ι := Nat × (SD × (Nat → SD))) [10, 11, 13, 44, 45, 46, 47, 48, 49, 50, 51, 52, 53, 54, 55, 56, 57, 58, 59, 60, 61, 62, 63, 64, 65, 66, 67, 68, 69, 70, 71, 72, 73] (fun t => [(44, .int .i64 (t.1 : Int))])
   (fun t w' => (t.1 ≤ n ∧ w6.grownBy w' (some gw)) ∧ TopG w' w6.heap.size 58 t.1 t.2.1 t.2.2 ∧ Blk w' gw 133 [.int .i64 C, .slice am ((n + 1 : Nat)) cm, .slice t.2.1.a t.2.1.len t.2.1.cap, .slice (some ⟨gx, 0, none⟩) n n] ∧
    ∀ i, i < t.1 → (t.2.2 i).len = n - i - 1 ∧ Sl w' (t.2.2 i).a (intC (n - i - 1) fun j => Go.LA.bm A i i (i + 1 + j)) ∧ (0 < n - i - 1 → ∀ ad, (t.2.2 i).a = some ad → w6.heap.size ≤ ad.block ∧ ad.block < w'.heap.size)) (fun t => n - t.1)
   (0, (sd0, fun _ => sd0)) ⟨rfl, trivial⟩ ⟨⟨by simp only; omega, kz (Ex.refl _) |> fun h => ⟨h.os, h.tape, h.output, h.size, fun k hk _ => h.block k hk (by simp)⟩⟩, TopG.nil _ _ _ _, hgw6, fun i hi => absurd hi (Nat.not_lt_zero i)⟩ ?_
  rintro ⟨k, sl, S⟩ ξ1 w7 ⟨⟨hk, hG7⟩, hT7, hgw7, hrow7⟩
  simp only at hk hT7 hgw7 hrow7
  show CW _ _ _ _ (over [(44, .int .i64 (k : Int))] _) w7
  have hG57 := gbT hG6 hG7 (fun _ e => .inl e)
  have z7 := hG7.size
  have hsl7 : sl.len = k := hT7.1
  rcases Nat.lt_or_ge k n with hkn | hkn
  ·have hsd7 : Sl w7 sd.a (topC n SS) := (TopG.sl hT6).gb hG57 (fun ad e he => by cases he; have := (TopG.lo hT6 ad e).1; omega)
   obtain ⟨p, d, hh, e1, hcd, ⟨pg, po, rfl⟩, hS, hEn⟩ := (hLw.mx k hkn).get (show 0 < n - k by omega) (by omega)
   have hnb := hLw.nb k hkn
   have htop7 : Sl w7 (some ⟨gk k, 0, none⟩) (topC (n - k) (sk k)) := (hLw.mx k hkn).top.gb hG57 (fun ad e he => by cases e; cases he; exact hnb.1 rfl)
   have hS7 : Sl w7 (some ⟨pg, po, none⟩) (rowC (n - k) hh) := hS.gb hG57 (fun ad e he => by cases he; exact hnb.2 0 (by omega) ad (by rw [e1]; exact e) rfl)
   have hE7 : ∀ j, j < n - k → Ent true 49 w7 (hh j).val (Go.LA.bm A k (k + 0) (k + j)) := fun j hj => (hEn j hj).gbN hgw5 (hnoi _ _ _ (fun _ e => by cases e) (fun _ e => by cases e) (fun _ e => by cases e)) hG57
   repeat' (first|refine bq rfl rfl (by omega) ?_|refine az (j := k) (a := sd.a) rfl rfl hpl (by omega) ?_|refine aZ (j := k) (a := sd.a) (n := n) (s := SS) rfl hsd7 (by omega) (hLw.hd k hkn) ?_|refine az (j := 0) (a := some ⟨gk k, 0, none⟩) rfl rfl ⟨_, _, rfl⟩ (by omega) ?_|refine aZ (j := 0) (a := some ⟨gk k, 0, none⟩) (n := n - k) (s := sk k) rfl htop7 (by omega) e1 ?_|refine aj rfl ?_|refine aa ?_|refine ak ?_|refine ai rfl ?_|refine ah ?_|refine aA rfl ?_|refine ay ?_|refine aC ?_)
   refine km (l := 1) (g := pg) (o := po) rfl rfl (by omega) hcd ?_
   repeat' (first|refine aj rfl ?_|refine aa ?_|refine ah ?_|refine bc rfl ?_|refine ay ?_)
   obtain ⟨b, hb⟩ : ∃ b : Addr, (if d = 1 then (⟨pg, po, none⟩ : Addr) else ⟨pg, po + 1 * 2, none⟩) = b := ⟨_, rfl⟩
   have hbe : 1 < n - k → b = ⟨pg, po + 2, none⟩ := fun h => by rw [← hb, if_neg (by omega)]
   have hbp : W.plain (some b) := by
    rw [← hb]; split <;> exact ⟨_, _, rfl⟩
   rw [hb]
   have em : (n - k : Nat) - 1 = n - k - 1 := rfl
   refine aW (ι := Nat × (Option Addr × Nat)) [11, 13, 53, 54, 55, 56, 57, 58, 59, 60, 61, 62] (fun t => [(53, .int .i64 (t.1 : Int)), (11, .slice t.2.1 t.1 t.2.2)])
    (fun t w' => (t.1 ≤ n - k - 1 ∧ Ex w7 w') ∧ Own w' w7.heap.size 2 1 t.2.1 t.1 t.2.2 (intC t.1 fun i => Go.LA.bm A k k (k + 1 + i))) (fun t => n - k - 1 - t.1)
    (0, (none, 0)) ⟨rfl, rfl, trivial⟩ ⟨⟨by simp only; omega, Ex.refl _⟩, Own.nil _ _ _ _⟩ ?_
   rintro ⟨j, ar, cr⟩ ξ2 w8 ⟨⟨hj, hE8⟩, hown8⟩
   simp only at hj hown8
   show CW _ _ _ _ (over [(53, .int .i64 (j : Int)), (11, .slice ar j cr)] _) w8
   have z8 := hE8.size
   rcases Nat.lt_or_ge j (n - k - 1) with hjn | hjn
   ·have hptr : Value.pointer (some (elt (some b) (j * 2))) = Value.pointer (some (elt (some ⟨pg, po, none⟩) ((j + 1) * 2))) := by
     rw [hbe (by omega)]; simp only [elt]; congr 3; omega
    have e8 : Ent true 49 w8 (hh (j + 1)).val (Go.LA.bm A k k (k + 1 + j)) := by
     have := (hE7 (j + 1) (by omega)).ext hE8
     rwa [Nat.add_zero, show k + (j + 1) = k + 1 + j by omega] at this
    repeat' (first|refine bq rfl rfl (by omega) ?_|refine bE (j := j) (a := some b) rfl rfl hbp (by omega) ?_|refine bX (j := j + 1) (n := n - k) (f := hh) (a := some ⟨pg, po, none⟩) hptr (hS7.ext hE8) ⟨_, _, rfl⟩ (by omega) ?_|refine aH (fun g9 w9 hn9 => tvv ?_)|refine aa ?_|refine ak ?_|refine ai rfl ?_|refine ah ?_|refine aA rfl ?_|refine ay ?_|refine aC ?_)
    refine aF (n := 2) (vs := (hh (j + 1)).cells) rfl rfl rfl rfl hn9.blk rfl (fun w10 hc10 hb10 => tvv ?_)
    have hE810 : Ex w8 w10 := hn9.ex.chg hc10 hn9.lo
    repeat' (first|refine aY (n := 2) rfl hb10 rfl ?_|refine aj rfl ?_|refine aa ?_|refine ai rfl ?_|refine ah ?_)
    refine au (kM (e8.ext hE810) (hfb k j hkn hjn)) rfl ?_
    rintro v w11 ⟨rfl, hE11⟩
    refine tvv ?_
    refine gX (E := 2) (u := Go.LA.bm A k k (k + 1 + j)) rfl (fun g12 w12 hn12 => tvv ?_)
    have hE812 := hE810.trans (hE11.trans hn12.ex)
    have z812 := hE812.size
    refine dZ (E := 2) (s := 1) (y := 8) (z := .int .i64 0) (m := 1) (c := 1) (news := [.int .i64 (Go.LA.bm A k k (k + 1 + j))]) (lo := w7.heap.size) rfl rfl rfl rfl (hown8.ext hE812) hn12.blk.sl ⟨_, _, rfl⟩ rfl rfl (by omega) (by omega) (by omega) (fun ar' cr' w13 hown13 hg13 ha13 => tvv ?_)
    repeat' (first|refine aj rfl ?_|refine aa ?_|refine ai rfl ?_|refine ah ?_|refine aV rfl rfl (by omega) (by omega) ?_|refine aJ ?_)
    refine ⟨⟨(j + 1, ar', cr'), ⟨⟨by simp only; omega, (hown8.ext hE812).grow_ex hg13 (hE8.trans hE812) (Nat.le_refl _)⟩, ?_⟩, by simp only; omega, rfl, rfl, trivial⟩, (by (repeat (first|exact aG _ _ _|refine aB rfl ?_|refine ax rfl ?_|refine av rfl ?_|refine aw rfl ?_)))⟩
    simp only
    rw [mK, cJ (g := fun i => Go.LA.bm A k k (k + 1 + i)) fun i hi => by
     by_cases e : i = j
     ·subst e; exact aI _ _ _
     ·exact aN _ _ e] at hown13
    exact hown13
   ·obtain rfl : j = n - k - 1 := by omega
    have hgw8 := hgw7.ext hE8
    have hT8 := TopG.ext hT7 hE8
    repeat' (first|refine bp rfl rfl (by omega) ?_|refine bZ rfl ?_|refine aP (g := gw) rfl hgw8 rfl ?_|refine aj rfl ?_|refine aa ?_|refine ak ?_|refine ai rfl ?_|refine ah ?_|refine aM rfl ?_|refine ao rfl ?_|refine aT ?_|refine aO ?_|refine aU ?_)
    refine qV (E := 58) (u := ⟨ar, n - k - 1, cr⟩) (s := sl) (n := k) (lo := w6.heap.size) (f := S) rfl rfl rfl hT8 (by omega) (by omega) (by omega) (fun g9 sl' S' w9 hT9 hS1 hS2 hg9 ha9 => ?_)
    have hlw := hgw8.lt
    have slne : ∀ ad, sl.a = some ad → ad.block ≠ gw := fun ad e => by have := (TopG.lo hT8 ad e).1; omega
    have hgw9 := hgw8.gb hg9 (ch slne)
    have sl'ne : ∀ ad, sl'.a = some ad → ad.block ≠ gw := fun ad e => by
     have := (TopG.lo hT9 ad e).1; omega
    repeat' (first|refine bZ rfl ?_|refine aM rfl ?_)
    refine cD (v := .slice sl'.a sl'.len sl'.cap) rfl rfl rfl hgw9 rfl (fun w10 hc10 hb10 => tvv ?_)
    repeat' (first|refine aj rfl ?_|refine aa ?_|refine ai rfl ?_|refine ah ?_|refine aV rfl rfl (by omega) (by omega) ?_|refine aJ ?_)
    have z9 := hg9.size
    have z10 := hc10.size
    have hG10 : w6.grownBy w10 (some gw) := gbT (gbT (gbT hG7 (kz hE8) (fun _ e => by cases e)) hg9 (fun q e => by
     cases hsa : sl.a with
     | none => rw [hsa] at e; cases e
     | some ad => right; rw [hsa] at e; have := (TopG.lo hT8 ad hsa).1; simp [Value.ownBlock] at e; omega)) (dx hc10) (fun _ e => .inl e)
    have hrowk : ∀ ad, ar = some ad → w7.heap.size ≤ ad.block ∧ ad.block < w8.heap.size := fun ad e => hown8.lo ad e
    refine ⟨⟨(k + 1, sl', S'), ⟨⟨hkn, hG10⟩, TopG.gb hT9 (dx hc10) (fun ad e he => by cases he; exact sl'ne ad e rfl), hb10, fun i hi => ?_⟩, by simp only; omega, rfl, trivial⟩, (by (repeat (first|exact aG _ _ _|refine aB rfl ?_|refine ax rfl ?_|refine av rfl ?_|refine aw rfl ?_)))⟩
    simp only at hi ⊢
    by_cases e : i = k
    ·subst e
     rw [hS2]
     refine ⟨rfl, fQ (gg hown8.sl hT8 hg9) (fun _ ad e => by have := hrowk ad e; omega) hc10, fun _ ad e => by have := hrowk ad e; omega⟩
    ·rw [hS1 i (by omega)]
     obtain ⟨r1, r2, r3⟩ := hrow7 i (by omega)
     exact ⟨r1, fQ (gg (r2.ext hE8) hT8 hg9) (fun h0 ad e => by have := r3 h0 ad e; omega) hc10, fun h0 ad e => by have := r3 h0 ad e; omega⟩
  ·obtain rfl : n = k := by omega
   repeat' (first|refine bp rfl rfl (by omega) ?_|refine aj rfl ?_|refine aa ?_|refine ak ?_|refine ai rfl ?_|refine ah ?_|refine ao rfl ?_|refine aT ?_|refine aO ?_|refine aU ?_|refine aK ?_)
   have hE27 : w2.grownBy w7 (some gw) := gbT (gbT (kz hE25 |> fun h => ⟨h.os, h.tape, h.output, h.size, fun k hk _ => h.block k hk (by simp)⟩) hG57 (fun _ e => .inl e)) (kz (Ex.refl _)) (fun _ e => by cases e)
   have hx7 : Blk w7 gx 2 (intC n fun _ => 0) := (hn1.blk.ext hn2.ex).gb hE27 (fun e => by cases e; omega)
   refine bo rfl (rt rfl) ⟨gw, gx, am, cm, sl, S, rfl, ⟨by rw [hsl7] at hgw7; exact hgw7, hsm.gb hG7 (fun ad e he => by cases he; have := ham ad e; omega), TopG.sl hT7, fun i hi => ⟨(hrow7 i hi).1, (hrow7 i hi).2.1⟩, ⟨by omega, by omega, by omega⟩, ⟨lx, by omega⟩, fun ad e => by have := ham ad e; omega, fun ad e => by have := TopG.lo hT7 ad e; omega, fun i hi h0 ad e => by have := (hrow7 i hi).2.2 h0 ad e; omega⟩, hx7, ?_⟩
   exact hE2.gb hE27 (fun q e => by cases e; omega)
end Go.Proofs.YtpfhfldehaiokaaGreat
namespace Go.LA
open Go.W
theorem ra : ∀ (m : Nat) {lo hi c : Int}, hi - c = (m : Int) → lo ≤ c + 1 → rg lo hi = rg lo c ++ rg (c + 1) hi
 | 0, lo, hi, c, h, h1 => by
  obtain rfl : hi = c := by omega
  rw [q5 (show hi < hi + 1 by omega), List.append_nil]
 | m + 1, lo, hi, c, h, h1 => by
  rw [jW (show lo ≤ hi by omega), ra m (hi := hi - 1) (by omega) h1, jW (lo := c + 1) (show c + 1 ≤ hi by omega), List.append_assoc]
theorem qg {M : Int} : ∀ {n : Nat} {f : Nat → Int}, (∀ j, j < n → -M ≤ f j ∧ f j ≤ M) → -(n * M) ≤ sm n f ∧ sm n f ≤ n * M
 | 0, f, _ => by rw [dm]; omega
 | n + 1, f, h => by
  rw [bG]
  have h1 := qg (n := n) (f := f) fun j hj => h j (by omega)
  have h2 := h n (by omega)
  have e : ((n + 1 : Nat) : Int) * M = n * M + M := by rw [Int.natCast_succ, Int.add_mul, Int.one_mul]
  rw [e]; omega
section
variable {n : Nat} {A : Mat} {C : Int}
theorem iZ {k : Nat} {x y : Vec} (h : ∀ j, k < j → j < n → x j = y j) : loV n A C k x = loV n A C k y := by unfold loV; rw [gQ h, gP h]
theorem i7 {k : Nat} {x y : Vec} (h : ∀ j, k < j → j < n → x j = y j) : hiV n A C k x = hiV n A C k y := by unfold hiV; rw [gQ h, gP h]
theorem mL {k : Nat} {x y : Vec} (h : ∀ j, k < j → j < n → x j = y j) : cntV n A C k x = cntV n A C k y := by unfold cntV; rw [iZ h, i7 h]
theorem mM {k : Nat} {x y : Vec} {c : Int} (h : ∀ j, k + 1 < j → j < n → x j = y j) : ∀ j, k < j → j < n → setF x (k + 1) c j = setF y (k + 1) c j := fun j hj hjn => by
 by_cases e : j = k + 1
 ·subst e; rw [aI, aI]
 ·rw [aN _ _ e, aN _ _ e]; exact h j (by omega) hjn
theorem nW : ∀ {k : Nat} {x y : Vec}, (∀ j, k < j → j < n → x j = y j) → evs n A C k x = evs n A C k y
 | 0, x, y, h => by unfold evs; rw [mL h]
 | k + 1, x, y, h => by
  unfold evs
  rw [mL h, iZ h, i7 h]
  congr 1
  exact fP fun c _ => nW (mM h)
theorem mN : ∀ {k : Nat} {x y : Vec} {z : Bool}, (∀ j, k < j → j < n → x j = y j) → cols n A C k x z = cols n A C k y z
 | 0, x, y, z, h => by
  unfold cols
  rw [iZ h, i7 h]
  refine fP fun c _ => ?_
  split
  ·rfl
  ·congr 1
   refine List.map_congr_left fun j hj => ?_
   have := List.mem_range.1 hj
   by_cases e : j = 0
   ·subst e; rw [aI, aI]
   ·rw [aN _ _ e, aN _ _ e]; exact h j (by omega) this
 | k + 1, x, y, z, h => by
  unfold cols
  rw [iZ h, i7 h]
  exact fP fun c _ => mN (mM h)
theorem Wk.term (h : Wk n A C) {k : Nat} (hk : k < n) {x : Vec} (hr : 0 ≤ rs n A C (k + 1) x) {j : Nat} (hj : j < n - k - 1) : -294912 ≤ bm A k k (k + 1 + j) * x (k + 1 + j) ∧ bm A k k (k + 1 + j) * x (k + 1 + j) ≤ 294912 := by
 have h1 := h.cb hr (j := k + 1 + j) (by omega) (by omega)
 have h2 := lv (h.sh k (k + 1 + j) (by omega) (by omega)) h1
 have h3 := h.lt (k + 1) (by omega)
 have h4 := h.pos (k + 1) (by omega)
 omega
theorem Wk.sqb (h : Wk n A C) {k : Nat} (hk : k < n) (x : Vec) : sqv n A C k x ≤ 85899345920 := by
 have h1 := h.sq_le hk x
 have h3 := h.lt (k + 1) (by omega)
 have h4 := h.pos (k + 1) (by omega)
 have := Int.mul_le_mul (show det (k + 1) A ≤ 65536 by omega) (show det (k + 1) A ≤ 65536 by omega) (by omega) (by omega)
 omega
theorem Wk.rb (h : Wk n A C) {k : Nat} (hk : k ≤ n) (x : Vec) : rs n A C k x ≤ 1310720 := by
 have h1 := h.rle x hk
 have h3 := h.lt k hk
 have h4 := h.pos k hk
 have := Int.mul_le_mul (show det k A ≤ 65536 by omega) h.hC.2 h.hC.1 (by omega)
 omega
theorem Wk.dcb (h : Wk n A C) {k : Nat} (hk : k ≤ n) {c : Int} (hc : -9 ≤ c ∧ c ≤ 9) : -589824 ≤ det k A * c ∧ det k A * c ≤ 589824 := by
 have h3 := h.lt k hk
 have h4 := h.pos k hk
 have a1 := Int.mul_le_mul_of_nonneg_left hc.1 (Int.le_of_lt h4)
 have a2 := Int.mul_le_mul_of_nonneg_left hc.2 (Int.le_of_lt h4)
 omega
end
end Go.LA
namespace Go.W
section
variable {P : Program} {S : World → Prop} {ops : List Oper} {K : Env → World → Prop} {rest : List (Oper × Option Bool)} {ρ : Env} {w : World} {b : Option Bool} {d : Nat} {T T' T'' : TypeId} {pos : String} {af : Array Edge} {x y : Operand}
theorem jy {m : Int} (hx : ev ρ x = .int .i64 m) (h1 : -9223372036854775807 ≤ m ∧ m ≤ 9223372036854775807) (h : RR P S ops K rest (upd ρ d (.int .i64 (-m))) w) : RR P S ops K ((⟨some d, .unOp .neg T' x, T, pos, af, none⟩, b) :: rest) ρ w :=
 jZ hx (by rw [cK (by omega) (by omega)]; exact h)
end
end Go.W
namespace Go.Proofs.YtpfhfldehaiokaaGreat
open Go.W Go.LM Go.LA
theorem WM.fr {F : Nat → Prop} {w w' : World} {lo hi gw gx n cm : Nat} {A : Mat} {C : Int} {am : Option Addr} {sl : SD} {S : Nat → SD} (h : WM w lo hi gw gx n A C am cm sl S) (hf : Fr F w w') (hF : ∀ g, F g → (g < lo ∨ hi ≤ g) ∨ g = gx) : WM w' lo hi gw gx n A C am cm sl S := by
 have off : ∀ g, lo ≤ g ∧ g < hi ∧ g ≠ gx → ¬ F g := fun g hg hFg => by have := hF g hFg; omega
 refine ⟨h.st.fr hf (off _ h.bw), h.mn.fr hf (fun ad e => off _ (h.bm ad e)), h.la.fr hf (fun ad e => off _ (h.bl ad e)), fun k hk => ⟨(h.row k hk).1, ?_⟩, h.bw, h.bx, h.bm, h.bl, h.br⟩
 rcases Nat.eq_zero_or_pos (n - k - 1) with e | e
 ·rw [e]; exact Sl.nil _ _
 ·exact (h.row k hk).2.fr hf (fun ad e2 => off _ (h.br k hk e ad e2))
end Go.Proofs.YtpfhfldehaiokaaGreat
