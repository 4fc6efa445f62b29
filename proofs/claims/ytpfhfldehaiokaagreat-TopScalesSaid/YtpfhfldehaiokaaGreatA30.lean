import Derived.Test.YtpfhfldehaiokaaGreatA29
set_option maxHeartbeats 8000000
namespace Go.Proofs.YtpfhfldehaiokaaGreat
open Go.W Go.LM Go.LA
theorem nh {cn : Bool} {K n cap : Nat} {w : World} {a : Option Addr} {s : Nat → SD} {A : Mat} (hM : MX cn K w a n n s A) (hn : 1 ≤ n ∧ n ≤ 8) (hl : ∀ i j, i < n → j < n → Lb K (A i j)) (hP : PosM n A) (hK : 64 * K + 200 ≤ 4398046511104) :
  CallsR Tryz.prog 16 #[.slice a n cap] w fun v w' => v = .int .i64 0 ∧ Ex w w' := by
 have hpt := hM.plain (by omega)
 refine aE (args := [_]) Tryz.func16 rfl rfl ?_
 repeat' (first|refine aj rfl ?_|refine aa ?_|refine ak ?_|refine ai rfl ?_|refine ah ?_)
 refine au (jf hM.top) rfl ?_
 rintro v w1 ⟨rfl, hE1⟩
 refine tvv ?_
 rw [eK hM (by omega) (by omega)]
 repeat' (first|refine aR rfl rfl ?_|refine eI rfl rfl rfl ?_|refine cW rfl rfl (by omega) ?_|refine aj rfl ?_|refine aa ?_|refine ak ?_|refine ai rfl ?_|refine ah ?_|refine bJ rfl rfl ?_|refine ao rfl ?_|refine ay ?_|refine aC ?_)
 refine aW (ι := Nat) [2, 6, 7, 26, 27, 28, 29, 30, 31, 32, 33, 34, 35, 36, 37, 38, 39, 40, 41, 42, 43, 44, 45, 46, 47, 48, 49, 50] (fun i => [(26, .int .i64 (i : Int))])
  (fun i w' => i ≤ n ∧ Ex w w') (fun i => n - i) 0 ⟨rfl, trivial⟩ ⟨by omega, hE1⟩ ?_
 rintro i ξ w2 ⟨hi, hE2⟩
 show CW _ _ _ _ (over [(26, .int .i64 (i : Int))] _) w2
 rcases Nat.lt_or_ge i n with hin | hin
 ·repeat' (first|refine bq rfl rfl (by omega) ?_|refine aj rfl ?_|refine aa ?_|refine ak ?_|refine ai rfl ?_|refine ah ?_|refine aA rfl ?_|refine ay ?_|refine aC ?_)
  refine aW (ι := Nat) [2, 7, 30, 31, 32, 33, 34, 35, 36, 37, 38, 39, 40, 41, 42, 43, 44, 45, 46, 47, 48, 49] (fun j => [(30, .int .i64 (j : Int))])
   (fun j w' => j ≤ i ∧ Ex w w') (fun j => i - j) 0 ⟨rfl, trivial⟩ ⟨by omega, hE2⟩ ?_
  rintro j ξ2 w3 ⟨hj, hE3⟩
  show CW _ _ _ _ (over [(30, .int .i64 (j : Int))] _) w3
  rcases Nat.lt_or_ge j i with hji | hji
  ·obtain ⟨p, d, hh, e1, _, hpp, hS, hEn⟩ := (hM.ext hE3).get hin (by omega)
   obtain ⟨p', d', hh', e1', _, hpp', hS', hEn'⟩ := (hM.ext hE3).get (show j < n by omega) (by omega)
   repeat' (first|refine bq rfl rfl (by omega) ?_|refine aa ?_|refine ak ?_|refine ai rfl ?_|refine ah ?_|refine aA rfl ?_|refine aC ?_)
   refine ay ?_
   repeat' (first|refine aj rfl ?_|refine aa ?_|refine ak ?_|refine ai rfl ?_|refine ah ?_)
   refine bn (late := []) (plan := [(0, none), (1, none), (2, none), (3, none), (4, none), (5, none), (6, none), (7, none), (8, none), (9, none), (10, none), (11, none), (12, none), (13, none), (14, some true), (15, none)]) (fun w' => Ex w3 w') bD (by kernel_rfl) (Ex.refl w3).drew ?_
   have hEd := (Ex.refl w3).drew
   repeat' (first|refine az (j := i) (a := a) rfl rfl hpt (by omega) ?_|refine aZ (j := i) (a := a) (n := n) (s := s) rfl (fun _ h => ((hM.ext hE3).ext h).top) (by omega) e1 ?_|refine bE (j := j) (a := p) rfl rfl hpp (by omega) ?_|refine bX (j := j) (n := n) (f := hh) (a := p) rfl (fun _ h => hS.ext h) hpp (by omega) ?_|refine az (j := j) (a := a) rfl rfl hpt (by omega) ?_|refine aZ (j := j) (a := a) (n := n) (s := s) rfl (fun _ h => ((hM.ext hE3).ext h).top) (by omega) e1' ?_|refine bE (j := i) (a := p') rfl rfl hpp' (by omega) ?_|refine bX (j := i) (n := n) (f := hh') (a := p') rfl (fun _ h => hS'.ext h) hpp' (by omega) ?_|refine aj rfl ?_)
   refine au (nF ((hEn j (by omega)).ext hEd).k ((hEn' i hin).ext hEd).k) rfl ?_
   rintro v w4 ⟨rfl, hE4⟩
   refine ⟨fun _ h => h.trans hE4, ?_⟩
   have hE34 := hEd.trans hE4
   repeat' (first|refine eI rfl rfl (lh.2 (hP.1 i j hji hin)) ?_|refine aj rfl ?_|refine aa ?_|refine ai rfl ?_|refine ah ?_|refine aV rfl rfl (by omega) (by omega) ?_|refine ao rfl ?_|refine aJ ?_|refine aC ?_)
   exact ⟨⟨j + 1, ⟨hji, hE3.trans hE34⟩, by omega, rfl, trivial⟩, (by (repeat (first|exact aG _ _ _|refine aB rfl ?_|refine ax rfl ?_|refine av rfl ?_|refine aw rfl ?_)))⟩
  ·obtain rfl : i = j := by omega
   repeat' (first|refine bp rfl rfl (by omega) ?_|refine aj rfl ?_|refine aa ?_|refine ak ?_|refine ai rfl ?_|refine ah ?_|refine aV rfl rfl (by omega) (by omega) ?_|refine ao rfl ?_|refine aT ?_|refine aO ?_|refine aU ?_|refine aJ ?_)
   exact ⟨⟨i + 1, ⟨hin, hE3⟩, by omega, rfl, trivial⟩, (by (repeat (first|exact aG _ _ _|refine aB rfl ?_|refine ax rfl ?_|refine av rfl ?_|refine aw rfl ?_)))⟩
 ·obtain rfl : n = i := by omega
  repeat' (first|refine bp rfl rfl (by omega) ?_|refine aj rfl ?_|refine aa ?_|refine ak ?_|refine ai rfl ?_|refine ah ?_|refine ao rfl ?_|refine aT ?_|refine aO ?_|refine aU ?_)
  refine au (nf (hM.ext hE2) (by omega) hl hP hK) rfl ?_
  rintro v w3 ⟨rfl, hE3⟩
  refine tvv ?_
  repeat' (first|refine aj rfl ?_|refine aa ?_|refine ak ?_|refine ai rfl ?_|refine ah ?_|refine ao rfl ?_|refine aK ?_|refine aC ?_)
  exact bo rfl (rt rfl) ⟨rfl, hE2.trans hE3⟩
theorem qZ {cn : Bool} {K K' p n cap : Nat} {w : World} {a : Option Addr} {s : Nat → SD} {A : Mat} {u : IH} {c : Int} (hM : MX cn K w a n n s A) (hn : 1 ≤ n ∧ n ≤ 8) (hl : ∀ i j, i < n → j < n → Lb K (A i j)) (hP : PosM n A) (hK : 64 * K + 200 ≤ 4398046511104)
  (hc : IntK p w u.val c) (hc0 : 0 < c) (hp : p ≤ 4398046511104) (hb : ∀ i j, i < n → j < n → (c * A i j).natAbs < 4294967296 ^ K') :
  CallsR Tryz.prog 5 #[.slice a n cap, u.val] w fun v w' => ∃ t, v = .tuple #[t, .int .i64 0] ∧ RetMO K' w n n (fun i j => c * A i j) t w' := by
 have hpt := hM.plain (by omega)
 refine aE (args := [_, _]) Tryz.func5 rfl rfl ?_
 refine ak ?_
 refine ai rfl ?_
 refine bC (vs := u.cells) rfl (fun gc wb hnb => tvv ?_)
 have hbc := hnb.blk
 have hcb := hc.ext hnb.ex
 repeat' (first|refine aj rfl ?_|refine aa ?_|refine ak ?_|refine ai rfl ?_|refine ah ?_)
 refine au (nh (hM.ext hnb.ex) hn hl hP hK) rfl ?_
 rintro v w0 ⟨rfl, hE0⟩
 refine tvv ?_
 have hEb := hnb.ex.trans hE0
 repeat' (first|refine eI rfl rfl rfl ?_|refine aY (g := gc) (cs := u.cells) rfl (hbc.ext hE0) rfl ?_|refine aj rfl ?_|refine aa ?_|refine ak ?_|refine ai rfl ?_|refine ah ?_|refine ao rfl ?_|refine aC ?_)
 refine au (fB (hcb.ext hE0)) rfl ?_
 rintro v w1 ⟨rfl, hE1⟩
 refine tvv ?_
 have hEc := hEb.trans hE1
 have hbc1 := (hbc.ext hE0).ext hE1
 have hc1 := (hcb.ext hE0).ext hE1
 repeat' (first|(refine fd rfl rfl (show (0 : Int) < c.sign by rw [Int.sign_eq_one_of_pos hc0]; decide) ?_)|refine eC (n := n) rfl rfl (by omega) (by omega) (fun g w2 hn2 => tvv ?_)|refine aj rfl ?_|refine aa ?_|refine ak ?_|refine ai rfl ?_|refine ah ?_|refine bc rfl ?_|refine ao rfl ?_|refine ay ?_|refine aC ?_)
 have hlo := hn2.lo
 have hEw := hEc.trans hn2.ex
 have szc := hEc.size
 refine aW (ι := Nat × (Nat → Nat)) [8, 9, 10, 11, 25, 26, 27, 28, 29, 30, 31, 32, 33, 34, 35, 36, 37, 38, 39, 40, 41, 42, 43, 44, 45, 46, 47, 48, 49, 50, 51, 52, 53] (fun t => [(25, .int .i64 (t.1 : Int))])
  (fun t w' => (t.1 ≤ n ∧ Ex w1 w' ∧ g < w'.heap.size) ∧ Blk w' g 50 (topC n fun i => if i < t.1 then ⟨some ⟨t.2 i, 0, none⟩, n, n⟩ else sd0) ∧ (∀ i, i < t.1 → RO true K' w' w1.heap.size (t.2 i) n n (fun j => c * A i j)) ∧ (∀ i, i < t.1 → t.2 i ≠ g) ∧ ∀ i j, i < t.1 → j < t.1 → t.2 i = t.2 j → i = j) (fun t => n - t.1)
  (0, fun _ => 0) ⟨rfl, trivial⟩ ⟨⟨by omega, hn2.ex, hn2.hi⟩, hn2.blk, fun i hi => by simp only at hi; omega, fun i hi => by simp only at hi; omega, fun i j hi => by simp only at hi; omega⟩ ?_
 rintro ⟨i, gs⟩ ξ w2' ⟨⟨hi, hE2, hg2⟩, hT2, hR2, hO2, hI2⟩
 simp only at hi hT2 hR2 hO2 hI2
 show CW _ _ _ _ (over [(25, .int .i64 (i : Int))] _) w2'
 rcases Nat.lt_or_ge i n with hin | hin
 ·obtain ⟨p, d, hh, e1, _, hpp, hS, hEn⟩ := ((hM.ext hEc).ext hE2).get hin (by omega)
  repeat' (first|refine bq rfl rfl (by omega) ?_|refine az (j := i) (a := a) rfl rfl hpt (by omega) ?_|refine aZ (j := i) (a := a) (n := n) (s := s) rfl (((hM.ext hEc).ext hE2).top) (by omega) e1 ?_|refine k5 (n := n) rfl rfl (by omega) (by omega) (fun g3 w3 hn3 => tvv ?_)|refine az (j := i) (a := some ⟨g, 0, none⟩) rfl rfl ⟨_, _, rfl⟩ (by omega) ?_|refine aj rfl ?_|refine aa ?_|refine ak ?_|refine ai rfl ?_|refine ah ?_|refine bc rfl ?_|refine aA rfl ?_|refine ay ?_|refine aC ?_)
  have hT3 := hT2.ext hn3.ex
  refine di (j := i) (u := ⟨some ⟨g3, 0, none⟩, n, n⟩) rfl rfl hT3 (by omega) (fun w4 hc4 hT4 => tvv ?_)
  have l3 := hn3.lo
  have hne3 : g3 ≠ g := by omega
  have hb3 := hn3.blk.chg hc4 hne3
  have hE4 := (hE2.trans hn3.ex).chg hc4 hlo
  have hTe : topC n (setF (fun k => if k < i then (⟨some ⟨gs k, 0, none⟩, n, n⟩ : SD) else sd0) i ⟨some ⟨g3, 0, none⟩, n, n⟩) = topC n (fun k => if k < i + 1 then (⟨some ⟨setF gs i g3 k, 0, none⟩, n, n⟩ : SD) else sd0) := bF fun k _ => by
   by_cases h : k = i
   ·subst h; simp [setF]
   ·by_cases h' : k < i
    ·rw [aN _ _ h, if_pos h', if_pos (by omega), aN _ _ h]
    ·rw [aN _ _ h, if_neg h', if_neg (by omega)]
  rw [hTe] at hT4
  have hR4 : ∀ k, k < i → RO true K' w4 w1.heap.size (gs k) n n (fun j => c * A k j) := fun k hk => ((hR2 k hk).ext hn3.ex).gbN hT3 (dI _ _) (dx hc4) (hO2 k hk)
  have hgk : ∀ k, k < i → gs k ≠ g3 := fun k hk => by have := (hR2 k hk).lt; omega
  have s4 := hc4.size
  have l34 := hb3.lt
  repeat' (first|refine aj rfl ?_|refine aa ?_|refine ak ?_|refine ai rfl ?_|refine ah ?_|refine bc rfl ?_|refine ay ?_)
  refine aW (ι := Nat × (Nat → IH)) [10, 11, 38, 39, 40, 41, 42, 43, 44, 45, 46, 47, 48, 49, 50, 51, 52] (fun t => [(38, .int .i64 (t.1 : Int))])
   (fun t w' => (t.1 ≤ n ∧ w4.grownBy w' (some g3)) ∧ Blk w' g3 34 (rowC n t.2) ∧ ∀ j, j < t.1 → Ent true K' w' (t.2 j).val (c * A i j)) (fun t => n - t.1)
   (0, fun _ => ih0) ⟨rfl, trivial⟩ ⟨⟨by omega, dx (Chg.refl _ _)⟩, hb3, fun j hj => by simp only at hj; omega⟩ ?_
  rintro ⟨j, h⟩ ξ2 w5 ⟨⟨hj, hG5⟩, hb5, hEn5⟩
  simp only at hj hb5 hEn5
  show CW _ _ _ _ (over [(38, .int .i64 (j : Int))] _) w5
  have hE5 : Ex w1 w5 := hE4.gb hG5 (fun k e => by cases e; have := hE2.size; omega)
  have hT5 := hT4.gb hG5 (fun e => hne3 (by cases e; rfl))
  rcases Nat.lt_or_ge j n with hjn | hjn
  ·obtain ⟨p', d', hh', e1', _, hpp', hS', hEn'⟩ := ((hM.ext hEc).ext hE5).get hin (by omega)
   rw [e1] at e1'
   cases e1'
   repeat' (first|refine bq rfl rfl (by omega) ?_|refine aa ?_|refine ak ?_|refine ai rfl ?_|refine ah ?_|refine aA rfl ?_|refine aC ?_)
   refine ay ?_
   repeat' (first|refine bE (j := j) (a := p) rfl rfl hpp hjn ?_|refine bX (j := j) (n := n) (f := hh') (a := p) rfl hS' hpp hjn ?_|refine aH (fun ge we hne => tvv ?_)|refine aj rfl ?_|refine ak ?_|refine ai rfl ?_)
   have hbe : Blk we ge 34 (intL false none 0 0) := hne.blk
   refine aF (n := 2) (vs := (hh' j).cells) rfl rfl rfl rfl hbe rfl (fun we2 hce hbe2 => tvv ?_)
   have hE56 : Ex w5 we2 := hne.ex.chg hce hne.lo
   have hle := hne.lo
   have hxe := (hEn' j hjn).ext hE56
   have h5e := hb5.ext hE56
   have hT5e := hT5.ext hE56
   have hE15 := hE5.trans hE56
   repeat' (first|refine aa ?_|refine ah ?_)
   refine bn (late := [9]) (plan := [(0, none), (1, none), (2, none), (3, none), (4, none), (5, none), (6, none), (7, some true), (8, none), (9, some false)]) (fun w' => Ex we2 w') bD (by kernel_rfl) (Ex.refl we2).drew ?_
   have hEd := (Ex.refl we2).drew
   repeat' (first|refine az (j := i) (a := some ⟨g, 0, none⟩) rfl rfl ⟨_, _, rfl⟩ (by omega) ?_|refine aZ (j := i) (a := some ⟨g, 0, none⟩) (a1 := some ⟨g3, 0, none⟩) (l1 := n) (c1 := n) rfl (fun _ h => (hT5e.ext h).sl) (by omega) (by simp [setF]) ?_|refine aY (g := gc) (cs := u.cells) rfl (fun _ h => ((hbc1.ext hE15).ext h)) rfl ?_|refine aY (g := ge) (cs := (hh' j).cells) rfl (fun _ h => hbe2.ext h) rfl ?_|refine aj rfl ?_)
   have hkk := K'
   refine au (cM ((hc1.ext hE15).ext hEd) (hxe.ext hEd).k (by omega)) rfl ?_
   rintro v w6 ⟨hI, hE6⟩
   refine ⟨fun _ h => h.trans hE6, ?_⟩
   have hE57 := hEd.trans hE6
   obtain ⟨x, rfl⟩ := hI.ih
   have hb6 := h5e.ext hE57
   repeat' (first|refine bE (j := j) (a := some ⟨g3, 0, none⟩) rfl rfl ⟨_, _, rfl⟩ (by omega) ?_|refine eD (j := j) (u := x) rfl rfl hb6 (by omega) (fun w7 hc7 hb7 => ⟨fun h => (nomatch h), ?_⟩)|refine aj rfl ?_|refine aa ?_|refine ai rfl ?_|refine ah ?_|refine aV rfl rfl (by omega) (by omega) ?_|refine aJ ?_)
   refine ⟨⟨(j + 1, setF h j x), ⟨⟨by simp only; omega, dQ (dQ hG5 (kz (hE56.trans hE57)) (fun k e => (nomatch e))) (dx hc7) (fun k e => .inl e)⟩, hb7, fun k hk => ?_⟩, by simp only; omega, rfl, trivial⟩, (by (repeat (first|exact aG _ _ _|refine aB rfl ?_|refine ax rfl ?_|refine av rfl ?_|refine aw rfl ?_)))⟩
   simp only at hk
   by_cases hkj : k = j
   ·subst hkj
    simp only [aI]
    exact (Ent.of hI (hb i k (by omega) (by omega))).gbN hb6 (cU _ _) (dx hc7)
   ·simp only [aN _ _ hkj]
    exact ((hEn5 k (by omega)).ext (hE56.trans hE57)).gbN hb6 (cU _ _) (dx hc7)
  ·obtain rfl : n = j := by omega
   repeat' (first|refine bp rfl rfl (by omega) ?_|refine aj rfl ?_|refine aa ?_|refine ak ?_|refine ai rfl ?_|refine ah ?_|refine aV rfl rfl (by omega) (by omega) ?_|refine ao rfl ?_|refine aT ?_|refine aO ?_|refine aU ?_|refine aJ ?_)
   refine ⟨⟨(i + 1, setF gs i g3), ⟨⟨by simp only; omega, hE5, by have := hG5.size; omega⟩, hT5, fun k hk => ?_, fun k hk => ?_, fun k k' hk hk' he => ?_⟩, by simp only; omega, rfl, trivial⟩, (by (repeat (first|exact aG _ _ _|refine aB rfl ?_|refine ax rfl ?_|refine av rfl ?_|refine aw rfl ?_)))⟩
   ·simp only at hk ⊢
    by_cases hki : k = i
    ·subst hki
     rw [aI]
     exact ⟨by omega, Nat.le_refl _, h, hb5, hEn5⟩
    ·rw [aN _ _ hki]
     exact (hR4 k (by omega)).gbN hb3 (cU _ _) hG5 (hgk k (by omega))
   ·simp only at hk ⊢
    by_cases hki : k = i
    ·subst hki; rw [aI]; exact hne3
    ·rw [aN _ _ hki]; exact hO2 k (by omega)
   ·simp only at hk hk' he
    by_cases hki : k = i
    ·by_cases hki' : k' = i
     ·omega
     ·subst hki; rw [aI, aN _ _ hki'] at he; exact absurd he.symm (hgk k' (by omega))
    ·by_cases hki' : k' = i
     ·subst hki'; rw [aI, aN _ _ hki] at he; exact absurd he (hgk k (by omega))
     ·rw [aN _ _ hki, aN _ _ hki'] at he; exact hI2 k k' (by omega) (by omega) he
 ·obtain rfl : n = i := by omega
  repeat' (first|refine bp rfl rfl (by omega) ?_|refine aj rfl ?_|refine aa ?_|refine ak ?_|refine ai rfl ?_|refine ah ?_|refine ao rfl ?_|refine aT ?_|refine aO ?_|refine aU ?_|refine aK ?_)
  refine dw rfl (rt rfl) (rt rfl) ⟨_, rfl, g, gs, fun _ => n, rfl, ⟨by omega, ?_, fun k hk => ?_, hO2, hI2⟩, hEc.trans hE2⟩
  ·rw [bF (s' := fun k => if k < n then ⟨some ⟨gs k, 0, none⟩, n, n⟩ else sd0) (fun k hk => by rw [if_pos hk])]
   exact hT2
  ·obtain ⟨q1, q2, q3⟩ := hR2 k hk
   exact ⟨by omega, q2, q3⟩
theorem oO {cn : Bool} {K r c g1 g6 cap i j : Nat} {w : World} {a : Option Addr} {s : Nat → SD} {A : Mat} (hM : MX cn K w a r c s A) (hb : Blk w g1 27 [.slice a r cap]) (h6 : Blk w g6 4 [.bool true]) (hi : i < r) (hj : j < c) (hf : fits64 (A i j)) :
  CallsR Tryz.prog 143 (#[] ++ #[.int .i64 i, .int .i64 j] ++ #[.pointer (some ⟨g1, 0, none⟩), .pointer (some ⟨g6, 0, none⟩)]) w fun v w' => v = .int .i64 (A i j) ∧ w.grownBy w' (some g6) ∧ Blk w' g6 4 [.bool true] := by
 have hpt := hM.plain (by omega)
 obtain ⟨p, d, hh, e1, _, hpp, hS, hEn⟩ := hM.get hi (by omega)
 refine aE (args := [_, _, _, _]) Tryz.func143 rfl rfl ?_
 repeat' (first|refine aP (g := g1) rfl hb rfl ?_|refine az (j := i) (a := a) rfl rfl hpt (by omega) ?_|refine aZ (j := i) (a := a) (n := r) (s := s) rfl hM.top hi e1 ?_|refine bE (j := j) (a := p) rfl rfl hpp (by omega) ?_|refine bX (j := j) (n := c) (f := hh) (a := p) rfl hS hpp hj ?_|refine aj rfl ?_|refine aa ?_|refine ak ?_|refine ai rfl ?_|refine ah ?_)
 refine au (kI (hEn j hj).k) rfl ?_
 rintro v w2 ⟨rfl, hE2⟩
 refine tvv ?_
 rw [if_pos hf, decide_eq_true hf]
 have h62 := h6.ext hE2
 repeat' (first|refine aR rfl rfl ?_|refine aP (g := g6) rfl h62 rfl ?_|refine aj rfl ?_|refine aa ?_|refine ak ?_|refine ai rfl ?_|refine ah ?_|refine bJ rfl rfl ?_)
 refine cD (v := .bool true) rfl rfl rfl h62 rfl (fun w3 hc3 hb3 => tvv ?_)
 repeat' (first|refine aj rfl ?_|refine aa ?_|refine ak ?_|refine ai rfl ?_|refine ah ?_|refine aK ?_)
 exact bo rfl (rt rfl) ⟨rfl, dQ (yu hE2) (dx hc3) (fun k e => .inl e), hb3⟩
theorem qc {cn : Bool} {K r c g1 g6 cap : Nat} {w0 w : World} {a : Option Addr} {s : Nat → SD} {F : Mat} (hM : MX cn K w0 a r c s F) (hb : Blk w0 g1 27 [.slice a r cap]) (hE : Ex w0 w) (h6 : Blk w g6 4 [.bool true]) (hl6 : w0.heap.size ≤ g6) (hr : 1 ≤ r ∧ r ≤ 16) (hc : 1 ≤ c ∧ c ≤ 16) (hf : ∀ i j, i < r → j < c → fits64 (F i j)) :
  CallsR Tryz.prog 142 #[.int .i64 r, .int .i64 c, .func (.func 143) #[] #[.pointer (some ⟨g1, 0, none⟩), .pointer (some ⟨g6, 0, none⟩)]] w fun v w' => ∃ (g : Nat) (gs : Nat → Nat), v = .slice (some ⟨g, 0, none⟩) r r ∧ MIO w' w.heap.size g r c gs F ∧ Ex w0 w' ∧ Blk w' g6 4 [.bool true] := by
 have lt6 := h6.lt
 refine aE (args := [_, _, _]) Tryz.func142 rfl rfl ?_
 repeat' (first|refine eC (n := r) rfl rfl (by omega) (by omega) (fun g w3 hn3 => tvv ?_)|refine aj rfl ?_|refine aa ?_|refine ak ?_|refine ai rfl ?_|refine ah ?_|refine bc rfl ?_|refine ay ?_)
 have l3 := hn3.lo
 have s3 := hn3.ex.size
 have lb3 := hn3.hi
 have hE03 := hE.trans hn3.ex
 refine aW (ι := Nat × (Nat → Nat)) [8, 9, 14, 15, 16, 17, 18, 19, 20, 21, 22, 23, 24, 25, 26, 27, 28, 29, 30, 31, 32, 33, 34, 35, 36, 37, 38, 39, 40, 41] (fun t => [(14, .int .i64 (t.1 : Int))])
  (fun t w' => (t.1 ≤ r ∧ Ex w0 w' ∧ w3.heap.size ≤ w'.heap.size) ∧ Blk w' g6 4 [.bool true] ∧ Blk w' g 58 (topC r fun k => if k < t.1 then ⟨some ⟨t.2 k, 0, none⟩, c, c⟩ else sd0) ∧
   (∀ k, k < t.1 → w3.heap.size ≤ t.2 k ∧ Blk w' (t.2 k) 2 (intC c (F k))) ∧ ∀ k l, k < t.1 → l < t.1 → t.2 k = t.2 l → k = l) (fun t => r - t.1)
  (0, fun _ => 0) ⟨rfl, trivial⟩ ⟨⟨by simp only; omega, hE03, Nat.le_refl _⟩, h6.ext hn3.ex, hn3.blk, fun k h => by simp only at h; omega, fun k l h => by simp only at h; omega⟩ ?_
 rintro ⟨i, gs⟩ ξ w4 ⟨⟨hi, hE4, hs4⟩, h64, hG4, hrow, hinj⟩
 simp only at hi hG4 hrow hinj
 show CW _ _ _ _ (over [(14, .int .i64 (i : Int))] _) w4
 have hgl := hG4.lt
 rcases Nat.lt_or_ge i r with hir | hir
 ·repeat' (first|refine bq rfl rfl (by omega) ?_|refine aj rfl ?_|refine aa ?_|refine ak ?_|refine ai rfl ?_|refine ah ?_|refine aA rfl ?_|refine ay ?_|refine aC ?_)
  refine eF (n := c) rfl rfl (by omega) (by omega) (fun gr w5 hn5 => tvv ?_)
  have l5 := hn5.lo
  have s5 := hn5.ex.size
  have hG5 := hG4.ext hn5.ex
  repeat' (first|refine az (j := i) rfl rfl ⟨_, _, rfl⟩ (by omega) ?_|refine di (j := i) (u := ⟨some ⟨gr, 0, none⟩, c, c⟩) rfl rfl hG5 hir (fun w6 hc6 hG6 => tvv ?_)|refine aj rfl ?_|refine aa ?_|refine ak ?_|refine ai rfl ?_|refine ah ?_)
  have hR6 := hn5.blk.chg hc6 (by omega)
  have s0 := hE.size
  have hE6 : Ex w0 w6 := (hE4.trans hn5.ex).chg hc6 (by omega)
  have s6 := hc6.size
  have h66 := (h64.ext hn5.ex).chg hc6 (by omega)
  have hrow6 : ∀ k, k < i → w3.heap.size ≤ gs k ∧ Blk w6 (gs k) 2 (intC c (F k)) := fun k hk => by
   have h1 := hrow k hk
   exact ⟨h1.1, (h1.2.ext hn5.ex).chg hc6 (by omega)⟩
  have hold : ∀ k, k < i → gs k < w4.heap.size := fun k hk => (hrow k hk).2.lt
  have hi0 : setF (fun k => if k < i then (⟨some ⟨gs k, 0, none⟩, c, c⟩ : SD) else sd0) i ⟨some ⟨gr, 0, none⟩, c, c⟩ i = ⟨some ⟨gr, 0, none⟩, c, c⟩ := aI _ _ _
  repeat' (first|refine aZ (j := i) rfl hG6.sl hir hi0 ?_|refine aj rfl ?_|refine aa ?_|refine ah ?_|refine bc rfl ?_|refine ay ?_)
  refine aW (ι := Nat × (Nat → Int)) [9, 27, 28, 29, 30, 31, 32, 33, 34, 35, 36, 37, 38, 39, 40] (fun t => [(27, .int .i64 (t.1 : Int))])
   (fun t w' => (t.1 ≤ c ∧ Ex w0 w' ∧ w6.heap.size ≤ w'.heap.size) ∧ Blk w' g6 4 [.bool true] ∧
    Blk w' g 58 (topC r (setF (fun k => if k < i then ⟨some ⟨gs k, 0, none⟩, c, c⟩ else sd0) i ⟨some ⟨gr, 0, none⟩, c, c⟩)) ∧ (∀ k, k < i → Blk w' (gs k) 2 (intC c (F k))) ∧ Blk w' gr 2 (intC c t.2) ∧ ∀ l, l < t.1 → t.2 l = F i l) (fun t => c - t.1)
   (0, fun _ => 0) ⟨rfl, trivial⟩ ⟨⟨by simp only; omega, hE6, Nat.le_refl _⟩, h66, hG6, fun k hk => (hrow6 k hk).2, hR6, fun l h => by simp only at h; omega⟩ ?_
  rintro ⟨j, f⟩ ξ2 w7 ⟨⟨hj, hE7, hs7⟩, h67, hG7, hrow7, hR7, hf7⟩
  simp only at hj hR7 hf7
  show CW _ _ _ _ (over [(27, .int .i64 (j : Int))] _) w7
  rcases Nat.lt_or_ge j c with hjc | hjc
  ·repeat' (first|refine bq rfl rfl (by omega) ?_|refine aa ?_|refine ak ?_|refine ai rfl ?_|refine ah ?_|refine aA rfl ?_|refine aC ?_)
   refine ay ?_
   repeat' (first|refine aj rfl ?_|refine aa ?_|refine ak ?_|refine ai rfl ?_|refine ah ?_)
   refine bn (late := [10]) (plan := [(0, none), (1, none), (2, none), (3, none), (4, none), (5, none), (6, none), (7, none), (8, some true), (9, none), (10, some false)]) (fun w' => w7.grownBy w' (some g6)) bD (by kernel_rfl) (yu (Ex.refl w7).drew) ?_
   have hEd := (Ex.refl w7).drew
   repeat' (first|refine az (j := i) (a := some ⟨g, 0, none⟩) rfl rfl ⟨_, _, rfl⟩ (by omega) ?_|(refine aZ (j := i) (a := some ⟨g, 0, none⟩) rfl (fun _ h => (hG7.gb h (by intro e; cases e; omega)).sl) hir hi0 ?_)|refine aj rfl ?_)
   refine fh rfl (oO ((hM.ext hE7).ext hEd) ((hb.ext hE7).ext hEd) (h67.ext hEd) hir hjc (hf i j hir hjc)) rfl ?_
   rintro v w8 ⟨rfl, hg8, h68⟩
   refine ⟨fun _ h => dQ h hg8 (fun k e => .inl e), ?_⟩
   have hg78 : w7.grownBy w8 (some g6) := dQ (yu hEd) hg8 (fun k e => .inl e)
   have hG8 := hG7.gb hg78 (by intro e; cases e; omega)
   have hR8 := hR7.gb hg78 (by intro e; cases e; omega)
   repeat' (first|refine az (j := j) (a := some ⟨gr, 0, none⟩) rfl rfl ⟨_, _, rfl⟩ (by omega) ?_)
   refine cT (j := j) (n := c) (f := f) (u := F i j) rfl rfl hR8 hjc (fun w9 hc9 hb9 => ⟨fun h => (nomatch h), ?_⟩)
   repeat' (first|refine aj rfl ?_|refine aa ?_|refine ai rfl ?_|refine ah ?_|refine aV rfl rfl (by omega) (by omega) ?_|refine aJ ?_)
   have s8 := hg78.size
   have s9 := hc9.size
   refine ⟨⟨(j + 1, setF f j (F i j)), ⟨⟨hjc, (hE7.gb hg78 (fun k e => by cases e; exact hl6)).chg hc9 (by omega), by omega⟩, h68.chg hc9 (by omega), hG8.chg hc9 (by omega), fun k hk => ((hrow7 k hk).gb hg78 (by intro e; cases e; have := (hrow _ hk).1; omega)).chg hc9 (by have := hold k hk; omega), hb9, fun l hl => ?_⟩, by simp only; omega, rfl, trivial⟩, (by (repeat (first|exact aG _ _ _|refine aB rfl ?_|refine ax rfl ?_|refine av rfl ?_|refine aw rfl ?_)))⟩
   simp only at hl ⊢
   by_cases e : l = j
   ·subst e; exact aI _ _ _
   ·rw [aN _ _ e]; exact hf7 l (by omega)
  ·have ejc : c = j := by omega
   subst ejc
   repeat' (first|refine bp rfl rfl (by omega) ?_|refine aj rfl ?_|refine aa ?_|refine ak ?_|refine ai rfl ?_|refine ah ?_|refine aV rfl rfl (by omega) (by omega) ?_|refine ao rfl ?_|refine aT ?_|refine aO ?_|refine aU ?_|refine aJ ?_)
   refine ⟨⟨(i + 1, setF gs i gr), ⟨⟨hir, hE7, by omega⟩, h67, ?_, fun k hk => ?_, fun k l hk hl he => ?_⟩, by simp only; omega, rfl, trivial⟩, (by (repeat (first|exact aG _ _ _|refine aB rfl ?_|refine ax rfl ?_|refine av rfl ?_|refine aw rfl ?_)))⟩
   ·simp only
    rw [bF (s' := setF (fun k => if k < i then (⟨some ⟨gs k, 0, none⟩, c, c⟩ : SD) else sd0) i ⟨some ⟨gr, 0, none⟩, c, c⟩) (fun k hk => ?_)]
    ·exact hG7
    ·by_cases e : k = i
     ·subst e; rw [if_pos (by omega), aI, aI]
     ·rw [aN _ _ e, aN _ _ e]
      by_cases h : k < i
      ·rw [if_pos h, if_pos (by omega)]
      ·rw [if_neg h, if_neg (by omega)]
   ·simp only at hk ⊢
    by_cases e : k = i
    ·subst e; rw [aI]; exact ⟨by omega, by rw [← cJ hf7]; exact hR7⟩
    ·rw [aN _ _ e]; exact ⟨(hrow6 k (by omega)).1, hrow7 k (by omega)⟩
   ·simp only at hk hl he
    by_cases e : k = i
    ·by_cases e' : l = i
     ·omega
     ·rw [e, aI, aN _ _ e'] at he; have := hold l (by omega); omega
    ·by_cases e' : l = i
     ·rw [e', aI, aN _ _ e] at he; have := hold k (by omega); omega
     ·rw [aN _ _ e, aN _ _ e'] at he; exact hinj k l (by omega) (by omega) he
 ·have eir : r = i := by omega
  subst eir
  repeat' (first|refine bp rfl rfl (by omega) ?_|refine aj rfl ?_|refine aa ?_|refine ak ?_|refine ai rfl ?_|refine ah ?_|refine ao rfl ?_|refine aT ?_|refine aO ?_|refine aU ?_|refine aK ?_)
  refine bo rfl (rt rfl) ⟨g, gs, rfl, ⟨by omega, ?_, fun k hk => ⟨by have := (hrow k hk).1; omega, (hrow k hk).2⟩, fun k hk e => by have := (hrow k hk).1; omega, hinj⟩, hE4, h64⟩
  rw [bF (s' := fun k => if k < r then (⟨some ⟨gs k, 0, none⟩, c, c⟩ : SD) else sd0) (fun k hk => (if_pos hk).symm)]
  exact hG4
theorem qd {cn : Bool} {K r c cap : Nat} {w : World} {a : Option Addr} {s : Nat → SD} {F : Mat} (hM : MX cn K w a r c s F) (hr : 1 ≤ r ∧ r ≤ 16) (hc : 1 ≤ c ∧ c ≤ 16) (hf : ∀ i j, i < r → j < c → fits64 (F i j)) :
  CallsR Tryz.prog 113 #[.slice a r cap] w fun v w' => ∃ (g : Nat) (gs : Nat → Nat), v = .tuple #[.slice (some ⟨g, 0, none⟩) r r, .bool true] ∧ MIO w' w.heap.size g r c gs F ∧ Ex w w' := by
 refine aE (args := [_]) Tryz.func113 rfl rfl ?_
 refine ak ?_
 refine ai rfl ?_
 refine j4 rfl rfl (fun g1 w1 hn1 => tvv ?_)
 have hb1 := hn1.blk
 repeat' (first|refine aP (g := g1) rfl hb1 rfl ?_|refine aj rfl ?_|refine aa ?_|refine ak ?_|refine ai rfl ?_|refine ah ?_)
 refine au (ms (hM.ext hn1.ex).top) rfl ?_
 rintro v w2 ⟨rfl, hE2⟩
 refine tvv ?_
 rw [eK hM hr hc]
 have hE02 := hn1.ex.trans hE2
 repeat' (first|refine aR rfl rfl ?_|refine aH (fun g6 w3 hn3 => tvv ?_)|refine aj rfl ?_)
 have hb3 := hn3.blk
 refine cD (v := .bool true) rfl rfl rfl hb3 rfl (fun w4 hc4 h64 => tvv ?_)
 have l3 := hn3.lo
 have hE24 : Ex w2 w4 := hn3.ex.chg hc4 l3
 have s2 := hE02.size
 have s24 := hE24.size
 repeat' (first|refine aP (g := g6) rfl h64 rfl ?_|refine eU ?_|refine aj rfl ?_|refine aa ?_|refine ak ?_|refine ai rfl ?_|refine ah ?_|refine ao rfl ?_|refine aC ?_)
 refine au (qc (hM.ext hE02) (hb1.ext hE2) hE24 h64 l3 hr hc hf) rfl ?_
 rintro v w5 ⟨g, gs, rfl, hO5, hE5, h65⟩
 refine tvv ?_
 repeat' (first|refine aP (g := g6) rfl h65 rfl ?_|refine aj rfl ?_|refine aa ?_|refine ak ?_|refine ai rfl ?_|refine ah ?_|refine ao rfl ?_|refine aK ?_|refine aC ?_)
 exact dw rfl (rt rfl) (rt rfl) ⟨g, gs, rfl, hO5.lower (by omega), hE02.trans hE5⟩
end Go.Proofs.YtpfhfldehaiokaaGreat
namespace Go.W
theorem MI.get {w : World} {a : Option Addr} {r c i : Nat} {s : Nat → SD} {F : Nat → Nat → Int} (h : MI w a r c s F) (hi : i < r) (hc : 0 < c) :
  ∃ (p : Option Addr) (d : Nat), s i = ⟨p, c, d⟩ ∧ plain p ∧ Sl w p (intC c (F i)) := by
 obtain ⟨hlen, hS⟩ := h.row i hi
 exact ⟨(s i).a, (s i).cap, by rw [← hlen], hS.plain (by rw [bU]; omega), hS⟩
theorem MI.plain {w : World} {a : Option Addr} {r c : Nat} {s : Nat → SD} {F : Nat → Nat → Int} (h : MI w a r c s F) (hr : 0 < r) : plain a := h.top.plain (by rw [cv]; omega)
end Go.W
namespace Go.Proofs.YtpfhfldehaiokaaGreat
open Go.W Go.LM Go.LA
theorem oP {n cap : Nat} {w : World} {a : Option Addr} {s : Nat → SD} {A : Mat} (hM : MI w a n n s A) (hn : 1 ≤ n ∧ n ≤ 8) (hs : SymM n A) (hb : ∀ i j, i < n → j < n → -262144 < A i j ∧ A i j < 262144) :
  CallsR Tryz.prog 30 #[.slice a n cap] w fun v w' => v = .bool true ∧ Ex w w' := by
 have hpt := hM.plain (by omega)
 refine aE (args := [_]) Tryz.func30 rfl rfl ?_
 repeat' (first|refine bp rfl rfl (by omega) ?_|refine cW rfl rfl (by omega) ?_|refine aj rfl ?_|refine aa ?_|refine ak ?_|refine ai rfl ?_|refine ah ?_|refine bc rfl ?_|refine bJ rfl rfl ?_|refine ao rfl ?_|refine ay ?_|refine aC ?_)
 refine aW (ι := Nat) [2, 5, 20, 21, 22, 23, 24, 25, 26, 27, 28] (fun i => [(20, .int .i64 (i : Int))])
  (fun i w' => i ≤ n ∧ w' = w) (fun i => n - i) 0 ⟨rfl, trivial⟩ ⟨by omega, rfl⟩ ?_
 rintro i ξ w2 ⟨hi, rfl⟩
 show CW _ _ _ _ (over [(20, .int .i64 (i : Int))] _) w2
 rcases Nat.lt_or_ge i n with hin | hin
 ·obtain ⟨p, d, e1, hpp, hS⟩ := hM.get hin (by omega)
  repeat' (first|refine bq rfl rfl (by omega) ?_|refine az (j := i) (a := a) rfl rfl hpt (by omega) ?_|refine aZ (j := i) (a := a) (n := n) (s := s) rfl hM.top hin e1 ?_|refine eI rfl rfl rfl ?_|refine aj rfl ?_|refine aa ?_|refine ak ?_|refine ai rfl ?_|refine ah ?_|refine bc rfl ?_|refine aV rfl rfl (by omega) (by omega) ?_|refine aA rfl ?_|refine ao rfl ?_|refine ay ?_|refine aJ ?_|refine aC ?_)
  exact ⟨⟨i + 1, ⟨hin, rfl⟩, by omega, rfl, trivial⟩, (by (repeat (first|exact aG _ _ _|refine aB rfl ?_|refine ax rfl ?_|refine av rfl ?_|refine aw rfl ?_)))⟩
 ·obtain rfl : n = i := by omega
  repeat' (first|refine bp rfl rfl (by omega) ?_|refine aj rfl ?_|refine aa ?_|refine ak ?_|refine ai rfl ?_|refine ah ?_|refine bc rfl ?_|refine ao rfl ?_|refine ay ?_|refine aT ?_|refine aO ?_|refine aU ?_)
  refine aW (ι := Nat) [2, 6, 7, 8, 9, 31, 32, 33, 34, 35, 36, 37, 38, 39, 40, 41, 42, 43, 44, 45, 46, 47, 48, 49, 50, 51, 52, 53, 54, 55, 56, 57, 58, 59, 60, 61] (fun i => [(31, .int .i64 (i : Int))])
   (fun i w' => i ≤ n ∧ Ex w2 w') (fun i => n - i) 0 ⟨rfl, trivial⟩ ⟨by omega, Ex.refl _⟩ ?_
  rintro i ξ w3 ⟨hi, hE3⟩
  show CW _ _ _ _ (over [(31, .int .i64 (i : Int))] _) w3
  rcases Nat.lt_or_ge i n with hin | hin
  ·obtain ⟨p, d, e1, hpp, hS⟩ := hM.get hin (by omega)
   repeat' (first|refine bq rfl rfl (by omega) ?_|refine az (j := i) (a := a) rfl rfl hpt (by omega) ?_|refine aZ (j := i) (a := a) (n := n) (s := s) rfl (hM.ext hE3).top hin e1 ?_|refine aj rfl ?_|refine aa ?_|refine ak ?_|refine ai rfl ?_|refine ah ?_|refine bc rfl ?_|refine aA rfl ?_|refine ay ?_|refine aC ?_)
   refine aW (ι := Nat) [2, 8, 9, 38, 39, 40, 41, 42, 43, 44, 45, 46, 47, 48, 49, 50, 51, 52, 53, 54, 55, 56, 57, 58, 59, 60] (fun j => [(38, .int .i64 (j : Int))])
    (fun j w' => j ≤ n ∧ Ex w2 w') (fun j => n - j) 0 ⟨rfl, trivial⟩ ⟨by omega, hE3⟩ ?_
   rintro j ξ2 w4 ⟨hj, hE4⟩
   show CW _ _ _ _ (over [(38, .int .i64 (j : Int))] _) w4
   rcases Nat.lt_or_ge j n with hjn | hjn
   ·obtain ⟨p', d', e1', hpp', hS'⟩ := hM.get hjn (by omega)
    have h1 := hb i j hin hjn
    have h2 := hs.all i j hin hjn
    repeat' (first|refine bq rfl rfl (by omega) ?_|refine az (j := j) (a := p) rfl rfl hpp (by omega) ?_|refine bu (j := j) (n := n) (f := A i) (a := p) rfl (hS.ext hE4) hjn ?_|refine az (j := j) (a := a) rfl rfl hpt (by omega) ?_|refine aZ (j := j) (a := a) (n := n) (s := s) rfl (hM.ext hE4).top hjn e1' ?_|refine az (j := i) (a := p') rfl rfl hpp' (by omega) ?_|refine bu (j := i) (n := n) (f := A j) (a := p') rfl (hS'.ext hE4) hin ?_|refine eI rfl rfl h2 ?_|refine fd rfl rfl (by omega) ?_|refine ee rfl rfl (by omega) ?_|refine aj rfl ?_|refine aa ?_|refine ak ?_|refine ai rfl ?_|refine ah ?_|refine bJ rfl rfl ?_|refine aV rfl rfl (by omega) (by omega) ?_|refine aA rfl ?_|refine ao rfl ?_|refine ay ?_|refine aJ ?_|refine aC ?_)
    exact ⟨⟨j + 1, ⟨hjn, hE4⟩, by omega, rfl, trivial⟩, (by (repeat (first|exact aG _ _ _|refine aB rfl ?_|refine ax rfl ?_|refine av rfl ?_|refine aw rfl ?_)))⟩
   ·obtain rfl : n = j := by omega
    repeat' (first|refine bp rfl rfl (by omega) ?_|refine aj rfl ?_|refine aa ?_|refine ak ?_|refine ai rfl ?_|refine ah ?_|refine aV rfl rfl (by omega) (by omega) ?_|refine ao rfl ?_|refine aT ?_|refine aO ?_|refine aU ?_|refine aJ ?_)
    exact ⟨⟨i + 1, ⟨hin, hE4⟩, by omega, rfl, trivial⟩, (by (repeat (first|exact aG _ _ _|refine aB rfl ?_|refine ax rfl ?_|refine av rfl ?_|refine aw rfl ?_)))⟩
  ·obtain rfl : n = i := by omega
   repeat' (first|refine bp rfl rfl (by omega) ?_|refine aj rfl ?_|refine aa ?_|refine ak ?_|refine ai rfl ?_|refine ah ?_|refine ao rfl ?_|refine aT ?_|refine aO ?_|refine aU ?_|refine aK ?_)
   exact bo rfl (rt rfl) ⟨rfl, hE3⟩
end Go.Proofs.YtpfhfldehaiokaaGreat
namespace Go.W
section
variable {P : Program} {S : World → Prop} {ops : List Oper} {K : Env → World → Prop} {rest : List (Oper × Option Bool)} {ρ : Env} {w : World} {b : Option Bool} {d : Nat} {T T' : TypeId} {pos : String} {af : Array Edge}
theorem km {x lo : Operand} {g o len cap E s y l : Nat} {k : IntKind} [hT : Slc P T' E s y] (hx : ev ρ x = .slice (some ⟨g, o, none⟩) len cap) (hlo : ev ρ lo = .int k (l : Int)) (h1 : l ≤ len) (_h2 : len ≤ cap)
  (hh : RR P S ops K rest (upd ρ d (.slice (some (if cap = l then ⟨g, o, none⟩ else ⟨g, o + l * s, none⟩)) (len - l) (cap - l))) w) :
  RR P S ops K ((⟨some d, .slice T' x (some lo) none none, T, pos, af, none⟩, b) :: rest) ρ w := by
 refine ci rfl (fun w' => ?_) hh
 obtain ⟨i0, hi0, hz⟩ := Option.map_eq_some_iff.1 hT.sz
 simp only [Prod.mk.injEq] at hz
 have e : ∀ n, (⟨g, o, none⟩ : Addr).add n = ⟨g, o + n, none⟩ := fun n => by unfold Addr.add; split <;> simp_all
 simp [execOp, Instr.sliceAt, Instr.slice, Instr.sliceBounds, Instr.sliceBound, hx, hlo, asIntOf, underlying, hT.un, sizeOf, typeInfo, hi0, hz.1, h1, e]
 try split <;> rfl
end
end Go.W
namespace Go.Proofs.YtpfhfldehaiokaaGreat
open Go.W Go.LM Go.LA
theorem kn {n cap g o : Nat} {w : World} {s : Nat → SD} {A : Mat} (hM : MI w (some ⟨g, o, none⟩) n n s A) (hn : 1 ≤ n ∧ n ≤ 8) (hcap : n ≤ cap) (hd : 0 < A 0 0 ∧ A 0 0 < 65536) (hs : ∀ i, i < n → 0 < i → 2 * A i 0 ≤ A 0 0 ∧ -2 * A i 0 ≤ A 0 0) :
  CallsR Tryz.prog 31 #[.slice (some ⟨g, o, none⟩) n cap] w fun v w' => v = .bool true ∧ Ex w w' := by
 obtain ⟨p, d, e1, hpp, hS⟩ := hM.get (show 0 < n by omega) (by omega)
 refine aE (args := [_]) Tryz.func31 rfl rfl ?_
 repeat' (first|refine az (j := 0) (a := some ⟨g, o, none⟩) rfl rfl ⟨_, _, rfl⟩ (by omega) ?_|refine aZ (j := 0) (a := some ⟨g, o, none⟩) (n := n) (s := s) rfl hM.top (by omega) e1 ?_|refine az (j := 0) (a := p) rfl rfl hpp (by omega) ?_|refine bu (j := 0) (n := n) (f := A 0) (a := p) rfl hS (by omega) ?_|refine fd rfl rfl (by omega) ?_|refine ee rfl rfl (by omega) ?_|refine aj rfl ?_|refine aa ?_|refine ak ?_|refine ai rfl ?_|refine ah ?_|refine bJ rfl rfl ?_|refine ao rfl ?_|refine aC ?_)
 refine km (l := 1) (g := g) (o := o) rfl rfl (by omega) hcap ?_
 repeat' (first|refine aj rfl ?_|refine aa ?_|refine ah ?_|refine bc rfl ?_|refine ay ?_)
 obtain ⟨b, hb⟩ : ∃ b : Addr, (if cap = 1 then (⟨g, o, none⟩ : Addr) else ⟨g, o + 1 * 1, none⟩) = b := ⟨_, rfl⟩
 have hbe : 1 < n → b = ⟨g, o + 1, none⟩ := fun h => by rw [← hb, if_neg (by omega)]
 have hbp : W.plain (some b) := by
  rw [← hb]; split <;> exact ⟨_, _, rfl⟩
 rw [hb]
 refine aW (ι := Nat) [2, 5, 20, 21, 22, 23, 24, 25, 26, 27, 28, 29, 30, 31, 32, 33, 34, 35, 36, 37, 38] (fun i => [(20, .int .i64 (i : Int))])
  (fun i w' => i ≤ n - 1 ∧ Ex w w') (fun i => n - i) 0 ⟨rfl, trivial⟩ ⟨by omega, Ex.refl _⟩ ?_
 rintro j ξ w2 ⟨hj, hE2⟩
 show CW _ _ _ _ (over [(20, .int .i64 (j : Int))] _) w2
 rcases Nat.lt_or_ge j (n - 1) with hjn | hjn
 ·obtain ⟨p', d', e1', hpp', hS'⟩ := hM.get (show j + 1 < n by omega) (by omega)
  have hs1 := hs (j + 1) (by omega) (by omega)
  have hptr : Value.pointer (some (elt (some b) j)) = Value.pointer (some (elt (some ⟨g, o, none⟩) (j + 1))) := by
   rw [hbe (by omega)]; simp only [elt]; rw [Nat.add_assoc, Nat.add_comm 1 j]
  repeat' (first|refine bq rfl rfl (by omega) ?_|refine az (j := j) (a := some b) rfl rfl hbp (by omega) ?_|refine aZ (j := j + 1) (a := some ⟨g, o, none⟩) (n := n) (s := s) hptr (hM.ext hE2).top (by omega) e1' ?_|refine az (j := 0) (a := p') rfl rfl hpp' (by omega) ?_|refine bu (j := 0) (n := n) (f := A (j + 1)) (a := p') rfl (hS'.ext hE2) (by omega) ?_|refine cP rfl rfl (by omega) (by omega) ?_|refine cW rfl rfl (by omega) ?_|refine aj rfl ?_|refine aa ?_|refine ak ?_|refine ai rfl ?_|refine ah ?_|refine bJ rfl rfl ?_|refine aV rfl rfl (by omega) (by omega) ?_|refine aA rfl ?_|refine ao rfl ?_|refine ay ?_|refine aJ ?_|refine aC ?_)
  exact ⟨⟨j + 1, ⟨by omega, hE2⟩, by omega, rfl, trivial⟩, (by (repeat (first|exact aG _ _ _|refine aB rfl ?_|refine ax rfl ?_|refine av rfl ?_|refine aw rfl ?_)))⟩
 ·obtain rfl : j = n - 1 := by omega
  repeat' (first|refine bp rfl rfl (by omega) ?_|refine aj rfl ?_|refine aa ?_|refine ak ?_|refine ai rfl ?_|refine ah ?_|refine ao rfl ?_|refine aT ?_|refine aO ?_|refine aU ?_|refine aK ?_)
  exact bo rfl (rt rfl) ⟨rfl, hE2⟩
end Go.Proofs.YtpfhfldehaiokaaGreat
namespace Go.LA
theorem nQ (n : Nat) (D : Int) (M : Mat) : det n (fun a b => D * M a b) = D ^ n * det n M := by
 have h : det n (fun a b => D * M a b) = det n (mm n (fun a b => D * idM a b) M) := bj fun a b ha _ => by
  show D * M a b = sm n fun k => D * idM a k * M k b
  rw [cz ha fun i _ hne => by rw [bH (Ne.symm hne)]; grind]
  rw [bB]; grind
 rw [h, dN, dC (fun r c _ hrc => by rw [bH (by omega)]; grind), gJ n D fun i _ => by rw [bB]; grind]
end Go.LA
