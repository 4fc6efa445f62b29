import Derived.Test.YtpfhfldehaiokaaGreatA10
set_option maxHeartbeats 4000000
namespace Go.Proofs.YtpfhfldehaiokaaGreat
open Go.W Go.LM
theorem pJ {w : World} {lo n cap : Nat} {a : Option Addr} {xs : List Nat} {j u : Nat} {T0 s0 : Nat} (h : Own w lo T0 s0 a n cap ((limbsL xs).set j (.int .u32 (u : Int)))) : Own w lo T0 s0 a n cap (limbsL (xs.set j u)) := by
 unfold limbsL at *
 rw [List.map_set]; exact h
theorem jM {ls : List Nat} {g cap lo b : Nat} {w : World} (ho : Own w lo 85 1 (some ⟨g, 0, none⟩) ls.length cap (limbsL ls)) (hl : Lim ls) (hb0 : 0 < b) (hb : b < 4294967296) (hlen : ls.length ≤ 17592186044416) :
  CallsR Tryz.prog 170 #[.slice (some ⟨g, 0, none⟩) ls.length cap, .int .u32 (b : Int)] w fun v w' => ∃ L, v = .int .u32 ((natOf ls % b : Nat) : Int) ∧ Chg g w w' ∧ Own w' lo 85 1 (some ⟨g, 0, none⟩) ls.length cap (limbsL L) ∧ Lim L ∧ L.length = ls.length ∧ natOf L = natOf ls / b := by
 refine aE (args := [_, _]) Tryz.func170 rfl rfl ?_
 repeat' (first|refine aj rfl ?_|refine aa ?_|refine ak ?_|refine ai rfl ?_|refine ah ?_|refine bc rfl ?_|refine bK rfl rfl (by omega) (by omega) ?_|refine ay ?_)
 refine aW (ι := Nat × Nat × List Nat) [5, 6, 10, 11, 12, 13, 14, 15, 16, 17, 18, 19, 20, 21, 22, 23, 24, 25, 26, 27, 28, 29, 30, 31, 32, 33] (fun s => [(6, .int .i64 ((s.1 : Int) - 1)), (5, .int .u64 (s.2.1 : Int))])
  (fun s w' => s.1 ≤ ls.length ∧ Chg g w w' ∧ Own w' lo 85 1 (some ⟨g, 0, none⟩) ls.length cap (limbsL s.2.2) ∧ Lim s.2.2 ∧ s.2.2.length = ls.length ∧ s.2.1 < b ∧ b * natOf (s.2.2.drop s.1) + s.2.1 = natOf (ls.drop s.1) ∧ ∀ j, j < s.1 → s.2.2.getD j 0 = ls.getD j 0) (fun s => s.1)
  (ls.length, 0, ls) ⟨rfl, rfl, trivial⟩ ⟨by simp, Chg.refl _ _, ho, hl, rfl, hb0, by simp [natOf], fun _ _ => rfl⟩ ?_
 rintro ⟨k, r, L⟩ ξ w1 ⟨hk, hC, hO, hL, hLl, hr, hN, hz⟩
 simp only at hk hO hL hLl hr hN hz
 show CW _ _ _ _ (over [(6, .int .i64 ((k : Int) - 1)), (5, .int .u64 (r : Int))] _) w1
 have hr2 : r < 4294967296 := by omega
 have hm := hL.getD (k - 1)
 have hq : (r * 4294967296 + L.getD (k - 1) 0) / b < 4294967296 := (Nat.div_lt_iff_lt_mul hb0).2 (by
  have : (r + 1) * 4294967296 ≤ b * 4294967296 := Nat.mul_le_mul_right _ hr
  rw [Nat.mul_comm 4294967296 b]; omega)
 repeat' (first|refine aj rfl ?_|refine aa ?_|refine ak ?_|refine ai rfl ?_|refine ah ?_|refine aQ rfl (fun hc => ?_) (fun hc => ?_)|refine ay ?_|refine aT ?_|refine aO ?_|refine aU ?_|refine aC ?_)
 ·obtain ⟨i, rfl⟩ : ∃ i, k = i + 1 := ⟨k - 1, by omega⟩
  rw [show ((i + 1 : Nat) : Int) - 1 = (i : Int) by omega] at *
  rw [Nat.add_sub_cancel] at hm hq
  repeat' (first|refine k4 rfl rfl (by assumption) ?_|refine az (j := i) rfl rfl ⟨_, _, rfl⟩ (by omega) ?_|refine bI rfl hO.sl (by omega) ?_|refine iw rfl (by assumption) ?_|refine qI rfl rfl (by assumption) (by assumption) ?_|refine tZ rfl rfl hb0 (by omega) ?_|refine t6 rfl rfl hb0 ?_|refine dR rfl ?_|(refine lH rfl rfl rfl hO (by simp; omega) (fun g' w4 hg' hlo hc4 hb4 => tvv ?_))|refine aj rfl ?_|refine aa ?_|refine ak ?_|refine ai rfl ?_|refine ah ?_|refine bK rfl rfl (by omega) (by omega) ?_|refine aJ ?_)
  cases hg'
  rw [Nat.mod_eq_of_lt hq] at hb4
  have hr4 : (r * 4294967296 + L.getD i 0) % b < b := Nat.mod_lt _ hb0
  refine ⟨⟨(i, (r * 4294967296 + L.getD i 0) % b, L.set i ((r * 4294967296 + L.getD i 0) / b)), ⟨by simp only; omega, hC.trans hc4, pJ hb4, hL.set hq, by simp [hLl], hr4, ?_, ?_⟩, by simp only; omega, ?_, rfl, trivial⟩, (by (repeat (first|exact aG _ _ _|refine aB rfl ?_|refine ax rfl ?_|refine av rfl ?_|refine aw rfl ?_)))⟩
  ·simp only
   rw [ii (l := L.set i _) (by simp; omega), kA (by omega), pI (by omega), ii (l := ls) (by omega), ← hz i (by omega)]
   exact sB hN hb0
  ·intro j hj
   simp only at hj ⊢
   rw [cG (by omega)]; exact hz j (by omega)
  ·rfl
 ·obtain rfl : k = 0 := by omega
  simp only [List.drop_zero] at hN
  repeat' (first|refine dR rfl ?_|refine aj rfl ?_|refine aa ?_|refine ah ?_|refine aK ?_)
  refine bo rfl (rt rfl) ⟨L, ?_, hC, hO, hL, hLl, ?_⟩
  ·show Value.int .u32 _ = _
   rw [Nat.mod_eq_of_lt (by omega), ← hN, Nat.mul_add_mod, Nat.mod_eq_of_lt hr]
  ·rw [← hN, Nat.mul_add_div hb0, Nat.div_eq_of_lt hr, Nat.add_zero]
theorem kR {L S H V : List Nat} {g c n vc : Nat} {va : Option Addr} {w : World} (hb : Blk w g 85 (limbsL (L ++ S ++ H))) (hSl : S.length = n + 1) (lS : Lim S) (hV : Limbs w va vc V) (hVl : V.length = n) (hn : 2 ≤ n)
  (top : 2147483648 ≤ V.getD (n - 1) 0) (hlt : natOf S < natOf V * 4294967296) (hne : ∀ ad, va = some ad → ad.block ≠ g) :
  CallsR Tryz.prog 173 #[.slice (some ⟨g, L.length, none⟩) (n + 1) c, .slice va n vc] w fun v w' => ∃ S', v = .int .u32 ((natOf S / natOf V : Nat) : Int) ∧ Chg g w w' ∧ Blk w' g 85 (limbsL (L ++ S' ++ H)) ∧ S'.length = n + 1 ∧ Lim S' ∧ natOf S' = natOf S % natOf V := by
 have hK := xp hSl hVl hn lS hV.lim top hlt
 have hnl := hV.len
 rw [hVl] at hnl
 have hv0 : 0 < natOf V := hK.v0
 have u0 := lS.getD n
 have u1 := lS.getD (n - 1)
 have u2 := lS.getD (n - 2)
 have v1 := hV.lim.getD (n - 1)
 have v2 := hV.lim.getD (n - 2)
 have hf := hK.first
 have hq := hK.qlt
 have dn := fun {gs r} => hK.down (g := gs) (r := r)
 have de := fun {gs r} => hK.done (g := gs) (r := r)
 generalize hx1 : V.getD (n - 1) 0 = x1 at *
 generalize hx2 : V.getD (n - 2) 0 = x2 at *
 generalize hy0 : S.getD n 0 = y0 at *
 generalize hy1 : S.getD (n - 1) 0 = y1 at *
 generalize hy2 : S.getD (n - 2) 0 = y2 at *
 clear hK
 generalize hqd : natOf S / natOf V = q at *
 have hx0 : 0 < x1 := by omega
 have hVp : W.plain va := hV.sl.plain (by simp; omega)
 refine aE (args := [_, _]) Tryz.func173 rfl rfl ?_
 repeat' (first|refine aj rfl ?_|refine aa ?_|refine ak ?_|refine ai rfl ?_|refine ah ?_|refine bc rfl ?_)
 refine bn (late := []) (plan := [(0, none), (1, none), (2, none), (3, none), (4, none), (5, none), (6, none), (7, none), (8, none), (9, none), (10, none), (11, none), (12, none), (13, none)]) (fun w' => Chg g w w' ∧ Blk w' g 85 (limbsL (L ++ S ++ H))) bD (by kernel_rfl) ⟨(Chg.refl g w).drew, hb.drew⟩ ?_
 repeat' (first|refine ka (m := n) (m' := 1) rfl rfl (by omega) (by omega) ?_|refine az rfl rfl ⟨_, _, rfl⟩ (by omega) ?_|refine gG rfl (fun _ h => h.2) (by omega) ?_|(rw [hy0])|(rw [hy1])|refine iw rfl (by assumption) ?_|refine k4 rfl rfl (by assumption) ?_|refine qI rfl rfl (by assumption) (by assumption) ?_|refine aj rfl ?_|refine aa ?_|refine ak ?_|refine ah ?_)
 refine bn (late := []) (plan := [(0, none), (1, none), (2, none), (3, none), (4, none), (5, none), (6, none), (7, none), (8, none), (9, none), (10, none), (11, none), (12, none), (13, none), (14, none), (15, none), (16, none), (17, none)]) (fun w' => Chg g w w') bD (by kernel_rfl) ((Chg.refl g w).drew.drew) ?_
 repeat' (first|refine ka (m := n) (m' := 1) rfl rfl (by omega) (by omega) ?_|refine az rfl rfl hVp (by omega) ?_|refine bI rfl (fun _ h => (hV.chg h hne).sl) (by omega) ?_|(rw [hx1])|refine iw rfl (by assumption) ?_|refine tZ rfl rfl hx0 (by omega) ?_|refine t6 rfl rfl hx0 ?_|refine aj rfl ?_|refine aa ?_|refine ak ?_|refine ah ?_)
 refine dy (ι := Nat × Nat) [7, 8, 46, 47, 48, 49, 50, 51, 52, 53, 54, 55, 56, 57, 58, 59, 60, 61, 62, 63, 64, 65, 66, 67, 68, 69, 70, 71, 72, 73, 74, 75, 76, 77, 78, 79, 80, 81] (fun s => [(7, .int .u64 (s.1 : Int)), (8, .int .u64 (s.2 : Int))])
  (fun s w' => Chg g w w' ∧ Blk w' g 85 (limbsL (L ++ S ++ H)) ∧ q ≤ s.1 ∧ s.1 ≤ q + 1) ?_ ?_
 ·have hmod := Nat.mod_lt (y0 * 4294967296 + y1) hx0
  refine ay ?_
  refine aW (ι := Nat × Nat) [7, 8, 46, 47, 48, 49, 50, 51, 52, 53, 54, 55, 56, 57, 58, 59, 60, 61, 62, 63, 64, 65, 66, 67, 68, 69, 70, 71, 72, 73, 74, 75, 76, 77, 78, 79, 80, 81] (fun s => [(7, .int .u64 (s.1 : Int)), (8, .int .u64 (s.2 : Int))])
   (fun s w' => Chg g w w' ∧ Blk w' g 85 (limbsL (L ++ S ++ H)) ∧ q ≤ s.1 ∧ s.1 ≤ 4294967297 ∧ s.2 < 4294967296 ∧ s.1 * x1 + s.2 = y0 * 4294967296 + y1) (fun s => s.1)
   ((y0 * 4294967296 + y1) / x1, (y0 * 4294967296 + y1) % x1) ⟨rfl, rfl, trivial⟩ ⟨(Chg.refl g w).drew.drew, hb, hf.1, hf.2, by simp only; omega, by simp only; rw [Nat.mul_comm]; exact Nat.div_add_mod _ _⟩ ?_
  rintro ⟨gs, r⟩ ξ w1 ⟨hC, hbk, h1, h2, h3, h4⟩
  simp only at h1 h2 h3 h4
  show CW _ _ _ _ (over [(7, .int .u64 (gs : Int)), (8, .int .u64 (r : Int))] _) w1
  have hmul : gs < 4294967296 → gs * x2 < 18446744073709551616 := fun h => by
   have : gs * x2 ≤ 4294967295 * 4294967295 := Nat.mul_le_mul (by omega) (by omega)
   omega
  have hC1 := hC.drew
  repeat refine ak ?_
  refine bn (late := []) (plan := [(0, none), (1, none), (2, none), (3, none), (4, none), (5, none), (6, none), (7, none), (8, none), (9, none), (10, none), (11, none), (12, none), (13, none), (14, none), (15, none), (16, none), (17, none), (18, none), (19, none), (20, none), (21, none), (22, none)]) (fun w' => Chg g w w' ∧ Blk w' g 85 (limbsL (L ++ S ++ H))) bD (by kernel_rfl) ⟨hC.drew, hbk.drew⟩ ?_
  have hVc := hV.chg hC1 hne
  have go : (4294967296 ≤ gs ∨ r * 4294967296 + y2 < gs * x2) → q + 1 ≤ gs := fun h => dn h4 h1 h
  have stp : ∀ {r'}, (gs - 1) * x1 + r' = y0 * 4294967296 + y1 → 4294967296 ≤ r' → gs - 1 ≤ q + 1 := fun h h' => de h (by omega) (.inr h')
  have h5 : 0 < gs → (gs - 1) * x1 + (r + x1) = y0 * 4294967296 + y1 := fun h => by
   obtain ⟨m, rfl⟩ : ∃ m, gs = m + 1 := ⟨gs - 1, by omega⟩
   rw [← h4, Nat.add_sub_cancel, Nat.succ_mul]; omega
  repeat' (first|refine ez rfl rfl ?_|refine ka (m := n) (m' := 2) rfl rfl (by omega) (by omega) ?_|refine ka (m := n) (m' := 1) rfl rfl (by omega) (by omega) ?_|refine az rfl rfl hVp (by omega) ?_|refine az rfl rfl ⟨_, _, rfl⟩ (by omega) ?_|refine gG rfl (fun _ h => h.2) (by omega) ?_|refine bI rfl (fun _ h => (hV.chg h.1 hne).sl) (by omega) ?_|refine bI rfl hVc.sl (by omega) ?_|(rw [hx1])|(rw [hx2])|(rw [hy2])|refine iw rfl (by assumption) ?_|refine gz rfl rfl (hmul (by omega)) ?_|refine k4 rfl rfl (by assumption) ?_|refine qI rfl rfl (by assumption) (by assumption) ?_|(refine t7 (m' := 1) rfl rfl (Nat.le_trans (Nat.le_add_left 1 _) (by (first|exact go (.inr (Int.ofNat_lt.1 (by assumption)))|exact go (.inl (by omega))))) (by omega) ?_)|refine fc rfl rfl (by omega) ?_|refine aj rfl ?_|refine aa ?_|refine ak ?_|refine ai rfl ?_|refine ah ?_|refine bJ rfl rfl ?_|refine bY rfl rfl ?_|refine gW rfl rfl (fun hc => ?_) (fun hc => ?_)|refine aA rfl ?_|refine aQ rfl (fun hc => ?_) (fun hc => ?_)|refine ay ?_|refine aT ?_|refine aO ?_|refine aU ?_|refine fw rfl ?_|refine aJ ?_|refine aC ?_)
  all_goals first
   | (refine ⟨⟨(gs, r), ⟨hC1, hbk, h1, de h4 (by omega) (.inl (by first|omega|exact Nat.le_of_not_lt (fun h => absurd (Int.ofNat_lt.2 h) (by assumption))))⟩, rfl, rfl, trivial⟩, (by (repeat (first|exact aX _ _|refine aB rfl ?_|refine ax rfl ?_|refine av rfl ?_|refine aw rfl ?_)))⟩; done)
   | (have hg : q + 1 ≤ gs := by (first|exact go (.inr (Int.ofNat_lt.1 (by assumption)))|exact go (.inl (by omega)))
      refine ⟨⟨(gs - 1, r + x1), ⟨hC1, hbk, by simp only; omega, stp (h5 (by omega)) (by omega)⟩, rfl, rfl, trivial⟩, (by (repeat (first|exact aX _ _|refine aB rfl ?_|refine ax rfl ?_|refine av rfl ?_|refine aw rfl ?_)))⟩; done)
   | (have hg : q + 1 ≤ gs := by (first|exact go (.inr (Int.ofNat_lt.1 (by assumption)))|exact go (.inl (by omega)))
      refine ⟨⟨(gs - 1, r + x1), ⟨hC1, hbk, by simp only; omega, by simp only; omega, by simp only; omega, h5 (by omega)⟩, by simp only; omega, rfl, rfl, trivial⟩, (by (repeat (first|exact aG _ _ _|refine aB rfl ?_|refine ax rfl ?_|refine av rfl ?_|refine aw rfl ?_)))⟩; done)
   | (have hg : q + 1 ≤ gs := by (first|exact go (.inr (Int.ofNat_lt.1 (by assumption)))|exact go (.inl (by omega)))
      refine ⟨⟨(gs - 1, r + x1), ⟨hC1, hbk, by simp only; omega, stp (h5 (by omega)) (by omega)⟩, rfl, rfl, trivial⟩, (by (repeat (first|exact aX _ _|refine aB rfl ?_|refine ax rfl ?_|refine av rfl ?_|refine aw rfl ?_)))⟩; done)
 clear dn de hf
 rintro ⟨gs, r⟩ ξ w1 ⟨hC, hbk, h1, h2⟩
 simp only at hC hbk h1 h2
 show CW _ _ _ _ (over [(7, .int .u64 (gs : Int)), (8, .int .u64 (r : Int))] _) w1
 clear hb
 have hgB : gs ≤ 4294967296 := by omega
 repeat' (first|refine aj rfl ?_|refine aa ?_|refine ak ?_|refine ai rfl ?_|refine ah ?_|refine ay ?_)
 refine aW (ι := Nat × Nat × Nat × Nat × List Nat) [9, 10, 11, 12, 83, 84, 85, 86, 87, 88, 89, 90, 91, 92, 93, 94, 95, 96, 97, 98, 99, 100, 101, 102, 103, 104, 105, 106, 107, 108, 109, 110, 111, 112, 113, 114, 115] (fun s => [(83, .int .i64 (s.1 : Int)), (9, .int .u64 (s.2.1 : Int)), (10, .int .u64 (s.2.2.1 : Int))])
  (fun s w' => s.1 ≤ n ∧ Chg g w w' ∧ Blk w' g 85 (limbsL (L ++ s.2.2.2.2 ++ H)) ∧ s.2.2.2.2.length = n + 1 ∧ Lim s.2.2.2.2 ∧ s.2.1 < 4294967296 ∧ s.2.2.1 ≤ 1 ∧ natOf s.2.2.2.2 + s.2.2.2.1 = natOf S + s.2.2.1 * 4294967296 ^ s.1 ∧ s.2.2.2.1 + s.2.1 * 4294967296 ^ s.1 = gs * natOf (V.take s.1)) (fun s => n - s.1)
  (0, 0, 0, 0, S) ⟨rfl, rfl, rfl, trivial⟩ ⟨by simp, hC, hbk, hSl, lS, by simp, by simp, by simp, by simp [natOf]⟩ ?_
 clear hC hbk
 rintro ⟨i, cy, br, M, U⟩ ξ2 w2 ⟨hi, hC, hbk, hUl, hUL, hcy, hbr, hN, hM⟩
 simp only at hi hC hbk hUl hUL hcy hbr hN hM
 show CW _ _ _ _ (over [(83, .int .i64 (i : Int)), (9, .int .u64 (cy : Int)), (10, .int .u64 (br : Int))] _) w2
 have hvi := hV.lim.getD i
 have hui := hUL.getD i
 have hun := hUL.getD n
 have hVc := hV.chg hC hne
 have hgv : gs * V.getD i 0 ≤ 4294967296 * 4294967295 := Nat.mul_le_mul hgB (by omega)
 repeat' (first|refine az rfl rfl hVp (by omega) ?_|refine bI rfl hVc.sl (by omega) ?_|(refine iw rfl (by first|assumption | omega) ?_)|refine gz rfl rfl (by omega) ?_|refine fc rfl rfl (by omega) ?_|refine az rfl rfl ⟨_, _, rfl⟩ (by omega) ?_|refine gG rfl hbk (by omega) ?_|refine dR rfl ?_|refine qG rfl rfl (by omega) ?_|refine jr rfl rfl hbk (by omega) (fun w4 hc4 hb4 => tvv ?_)|refine ez rfl rfl ?_|refine dP (j := 63) rfl rfl (.inl rfl) ?_|refine aj rfl ?_|refine aa ?_|refine ak ?_|refine ai rfl ?_|refine ah ?_|refine aV rfl rfl (by omega) (by omega) ?_|refine aQ rfl (fun hc => ?_) (fun hc => ?_)|refine ay ?_|refine aT ?_|refine aO ?_|refine aU ?_|refine aJ ?_|refine aK ?_|refine bf ?_|refine aC ?_)
 ·rw [Nat.shiftRight_eq_div_pow]
  have hst := nB (x := (cy + gs * V.getD i 0) % 4294967296) (show i < U.length by omega) hN
  have hdm := Nat.mod_add_div (cy + gs * V.getD i 0) 4294967296
  have hM2 : M + (cy + gs * V.getD i 0) % 4294967296 * 4294967296 ^ i + (cy + gs * V.getD i 0) / 4294967296 * 4294967296 ^ (i + 1) = gs * natOf (V.take (i + 1)) := by
   rw [bM, Nat.mul_add, ← hM, ef]
   generalize (cy + gs * V.getD i 0) % 4294967296 = lo at *
   generalize (cy + gs * V.getD i 0) / 4294967296 = hi' at *
   generalize 4294967296 ^ i = E at *
   have e : (lo + 4294967296 * hi') * E = (cy + gs * V.getD i 0) * E := by rw [hdm]
   grind
  have hlo : (cy + gs * V.getD i 0) % 4294967296 < 4294967296 := Nat.mod_lt _ (by decide)
  have hcy2 : (cy + gs * V.getD i 0) / 4294967296 < 4294967296 := by omega
  generalize (cy + gs * V.getD i 0) % 4294967296 = lo at *
  rcases Nat.lt_or_ge (U.getD i 0) (lo + br) with hlt2 | hge2
  ·have e1 : (18446744073709551616 + (18446744073709551616 + U.getD i 0 - lo) % 18446744073709551616 - br) % 18446744073709551616 % 4294967296 = 4294967296 + U.getD i 0 - (lo + br) := by omega
   have e2 : (18446744073709551616 + (18446744073709551616 + U.getD i 0 - lo) % 18446744073709551616 - br) % 18446744073709551616 / 2 ^ 63 = 1 := by omega
   rw [e1] at hb4
   rw [e2]
   exact ⟨⟨(i + 1, _, 1, M + lo * 4294967296 ^ i, U.set i (4294967296 + U.getD i 0 - (lo + br))), ⟨by simp only; omega, hC.trans hc4, hb4, by simp [hUl], hUL.set (by omega), hcy2, by simp, hst.2 (by omega), hM2⟩, by simp only; omega, rfl, rfl, rfl, trivial⟩, (by (repeat (first|exact aG _ _ _|refine aB rfl ?_|refine ax rfl ?_|refine av rfl ?_|refine aw rfl ?_)))⟩
  ·have e1 : (18446744073709551616 + (18446744073709551616 + U.getD i 0 - lo) % 18446744073709551616 - br) % 18446744073709551616 % 4294967296 = U.getD i 0 - (lo + br) := by omega
   have e2 : (18446744073709551616 + (18446744073709551616 + U.getD i 0 - lo) % 18446744073709551616 - br) % 18446744073709551616 / 2 ^ 63 = 0 := by omega
   rw [e1] at hb4
   rw [e2]
   exact ⟨⟨(i + 1, _, 0, M + lo * 4294967296 ^ i, U.set i (U.getD i 0 - (lo + br))), ⟨by simp only; omega, hC.trans hc4, hb4, by simp [hUl], hUL.set (by omega), hcy2, by simp, by simp only; rw [hst.1 (by omega), Nat.zero_mul, Nat.add_zero], hM2⟩, by simp only; omega, rfl, rfl, rfl, trivial⟩, (by (repeat (first|exact aG _ _ _|refine aB rfl ?_|refine ax rfl ?_|refine av rfl ?_|refine aw rfl ?_)))⟩
 all_goals (
  obtain rfl : i = n := by omega
  rw [Nat.shiftRight_eq_div_pow] at *
  rw [bS (by omega)] at hM
  have hst := nB (x := cy) (show i < U.length by omega) hN
  rw [hM] at hst)
 ·have hle : cy + br ≤ U.getD i 0 := by omega
  have e1 : (18446744073709551616 + (18446744073709551616 + U.getD i 0 - cy) % 18446744073709551616 - br) % 18446744073709551616 % 4294967296 = U.getD i 0 - (cy + br) := by omega
  rw [e1] at hb4
  have hfin := hst.1 hle
  have hg1 : gs ≤ q := by rw [← hqd]; exact (Nat.le_div_iff_mul_le hv0).2 (by omega)
  have hgq : gs = q := by omega
  subst hgq
  refine bo rfl (rt rfl) ⟨_, ?_, hC.trans hc4, hb4, by simp [hUl], hUL.set (by omega), ?_⟩
  ·show Value.int .u32 _ = _
   rw [Nat.mod_eq_of_lt hq]
  ·have := Nat.div_add_mod (natOf S) (natOf V)
   rw [hqd, Nat.mul_comm] at this
   omega
 ·have hle : U.getD i 0 < cy + br := by omega
  have e1 : (18446744073709551616 + (18446744073709551616 + U.getD i 0 - cy) % 18446744073709551616 - br) % 18446744073709551616 % 4294967296 = 4294967296 + U.getD i 0 - (cy + br) := by omega
  rw [e1] at hb4
  have hfin := hst.2 (by omega)
  have hU1L : Lim (U.set i (4294967296 + U.getD i 0 - (cy + br))) := hUL.set (by omega)
  have hU1l : (U.set i (4294967296 + U.getD i 0 - (cy + br))).length = i + 1 := by simp [hUl]
  generalize U.set i (4294967296 + U.getD i 0 - (cy + br)) = U1 at *
  have hC4 := hC.trans hc4
  have hU1lt := bQ hU1L
  rw [hU1l] at hU1lt
  rw [Nat.one_mul] at hfin
  have hgq : gs = q + 1 := by
   rcases Nat.lt_or_ge q gs with h | h
   ·omega
   ·exfalso
    have hgq : gs * natOf V ≤ natOf S := (Nat.le_div_iff_mul_le hv0).1 (by rw [hqd]; exact h)
    omega
  refine aW (ι := Nat × Nat × List Nat) [9, 14, 136, 137, 138, 139, 140, 141, 142, 143, 144, 145, 146, 147, 148, 149, 150, 151, 152, 153, 154, 155, 156, 157, 158, 159] (fun s => [(136, .int .i64 (s.1 : Int)), (9, .int .u64 (s.2.1 : Int))])
   (fun s w' => s.1 ≤ i ∧ Chg g w w' ∧ Blk w' g 85 (limbsL (L ++ s.2.2 ++ H)) ∧ s.2.2.length = i + 1 ∧ Lim s.2.2 ∧ s.2.1 ≤ 1 ∧ natOf s.2.2 + s.2.1 * 4294967296 ^ s.1 = natOf U1 + natOf (V.take s.1)) (fun s => i - s.1)
   (0, 0, U1) ⟨rfl, rfl, trivial⟩ ⟨by simp, hC4, hb4, hU1l, hU1L, by simp, by simp [natOf]⟩ ?_
  clear hC hbk hc4 hb4 hC4 hN hM hst hcy hbr hle e1 hUl hUL hui hun hVc hvi hgv
  rintro ⟨j, cy, W⟩ ξ3 w5 ⟨hj, hC, hbk, hWl, hWL, hcy, hN⟩
  simp only at hj hC hbk hWl hWL hcy hN
  show CW _ _ _ _ (over [(136, .int .i64 (j : Int)), (9, .int .u64 (cy : Int))] _) w5
  have hvj := hV.lim.getD j
  have hwj := hWL.getD j
  have hwn := hWL.getD i
  repeat' (first|refine aj rfl ?_|refine aa ?_|refine ak ?_|refine ai rfl ?_|refine ah ?_|refine aQ rfl (fun hc => ?_) (fun hc => ?_)|refine ay ?_|refine aT ?_|refine aO ?_|refine aU ?_|refine aC ?_)
  ·refine bn (late := []) (plan := [(0, none), (1, none), (2, none), (3, none), (4, none), (5, none), (6, none), (7, none), (8, none), (9, none), (10, none), (11, none), (12, none), (13, none)]) (fun w' => Chg g w w' ∧ Blk w' g 85 (limbsL (L ++ W ++ H))) bD (by kernel_rfl) ⟨hC.drew, hbk.drew⟩ ?_
   repeat' (first|refine az rfl rfl hVp (by omega) ?_|refine bI rfl (fun _ h => (hV.chg h.1 hne).sl) (by omega) ?_|(refine iw rfl (by first|assumption | omega) ?_)|refine az rfl rfl ⟨_, _, rfl⟩ (by omega) ?_|refine gG rfl (fun _ h => h.2) (by omega) ?_|refine fc rfl rfl (by omega) ?_|refine dR rfl ?_|refine jr rfl rfl hbk (by omega) (fun w6 hc6 hb6 => tvv ?_)|refine ez rfl rfl ?_|refine aj rfl ?_|refine aa ?_|refine ak ?_|refine ai rfl ?_|refine ah ?_|refine aV rfl rfl (by omega) (by omega) ?_|refine aJ ?_)
   have hst := nC (x := V.getD j 0) (show j < W.length by omega) hN
   refine ⟨⟨(j + 1, (cy + (W.getD j 0 + V.getD j 0)) / 4294967296, W.set j ((cy + (W.getD j 0 + V.getD j 0)) % 4294967296)), ⟨by simp only; omega, (hC.drew).trans hc6, hb6, by simp [hWl], hWL.set (Nat.mod_lt _ (by decide)), by simp only; omega, ?_⟩, by simp only; omega, rfl, rfl, trivial⟩, (by (repeat (first|exact aG _ _ _|refine aB rfl ?_|refine ax rfl ?_|refine av rfl ?_|refine aw rfl ?_)))⟩
   simp only
   rw [hst, bM V]
   omega
  ·obtain rfl : j = i := by omega
   rw [bS (by omega)] at hN
   repeat' (first|refine az rfl rfl ⟨_, _, rfl⟩ (by omega) ?_|refine gG rfl hbk (by omega) ?_|refine dR rfl ?_|refine ua rfl rfl ?_|refine jr rfl rfl hbk (by omega) (fun w6 hc6 hb6 => tvv ?_)|refine t7 (m' := 1) rfl rfl (by omega) (by omega) ?_|refine aj rfl ?_|refine aa ?_|refine ak ?_|refine ai rfl ?_|refine ah ?_|refine aK ?_)
   rw [Nat.mod_eq_of_lt (show cy < 4294967296 by omega)] at hb6
   have hst := nC (x := 0) (show j < W.length by omega) hN
   rw [Nat.add_zero, Nat.zero_mul, Nat.add_zero, Nat.add_comm cy] at hst
   have hWL2 : Lim (W.set j ((W.getD j 0 + cy) % 4294967296)) := hWL.set (Nat.mod_lt _ (by decide))
   refine bo rfl (rt rfl) ⟨_, ?_, hC.trans hc6, hb6, by simp [hWl], hWL2, ?_⟩
   ·show Value.int .u32 _ = _
    rw [hgq, Nat.add_sub_cancel, Nat.mod_eq_of_lt hq]
   ·have h1 := bQ hWL2
    rw [List.length_set, hWl] at h1
    have h3 := Nat.div_add_mod (natOf S) (natOf V)
    rw [hqd] at h3
    have h4 := Nat.mod_lt (natOf S) hv0
    have h5 := bQ hV.lim
    rw [hVl] at h5
    have h6 : 4294967296 ^ j ≤ 4294967296 ^ (j + 1) := Nat.pow_le_pow_right (by decide) (by omega)
    rw [hgq, Nat.succ_mul, Nat.mul_comm q] at hfin
    refine qJ (d := (W.getD j 0 + cy) / 4294967296) h1 (by omega) ?_
    rw [hst]
    omega
end Go.Proofs.YtpfhfldehaiokaaGreat
namespace Go.W
def waitsT (ops : Array Oper) (j i : Nat) : Bool := waits ops j i || (List.range ops.size).any (fun k => waits ops j k && waits ops k i)
def Down (ops : Array Oper) (listed : Array Bool) : Prop := ∀ k o, ops[k]? = some o → listed.getD k false = true → ∀ e ∈ o.after, Region.binds .any e = true → listed.getD e.on false = true
theorem Down.start (ops : Array Oper) (n : Nat) : Down ops (Array.replicate n false) := fun k o _ h => by
 exfalso
 by_cases hk : k < n
 ·simp [hk] at h
 ·simp [hk] at h
theorem Down.set {ops : Array Oper} {listed : Array Bool} {j : Nat} (h : Down ops listed) (hj : j ∈ Region.ready .any ops listed) : Down ops (listed.setIfInBounds j true) := by
 have keep : ∀ m, listed.getD m false = true → (listed.setIfInBounds j true).getD m false = true := fun m hm => by
  by_cases hmj : j = m
  ·subst hmj
   by_cases hs : j < listed.size
   ·simp [hs]
   ·simp [hs] at hm
  ·simpa [Array.getElem?_setIfInBounds_ne hmj] using hm
 intro k o ho hk e he hb
 obtain ⟨_, oj, hoj, hall⟩ := mem_ready.1 hj
 by_cases hkj : j = k
 ·subst hkj
  rw [ho] at hoj
  cases hoj
  exact keep _ (hall e he hb)
 ·refine keep _ (h k o ho ?_ e he hb)
  simpa [Array.getElem?_setIfInBounds_ne hkj] using hk
theorem ff {ops : Array Oper} {listed : Array Bool} {i j : Nat} (hd : Down ops listed) (hi : i ∈ Region.ready .any ops listed) (hj : j ∈ Region.ready .any ops listed) : waitsT ops j i = false := by
 unfold waitsT
 rw [cH hi hj, Bool.false_or]
 cases hw : (List.range ops.size).any (fun k => waits ops j k && waits ops k i) with
 | false => rfl
 | true =>
  exfalso
  obtain ⟨k, hk, h⟩ := List.any_eq_true.1 hw
  simp only [Bool.and_eq_true] at h
  obtain ⟨h1, h2⟩ := h
  obtain ⟨_, oj, hoj, hall⟩ := mem_ready.1 hj
  have h0 := (mem_ready.1 hi).1
  simp only [waits, hoj, Array.any_eq_true', Bool.and_eq_true, beq_iff_eq] at h1
  obtain ⟨e, he, hb, rfl⟩ := h1
  have hl := hall e he hb
  have hks : e.on < ops.size := List.mem_range.1 hk
  have hok : ops[e.on]? = some ops[e.on] := Array.getElem?_eq_getElem hks
  simp only [waits, hok, Array.any_eq_true', Bool.and_eq_true, beq_iff_eq] at h2
  obtain ⟨e2, he2, hb2, rfl⟩ := h2
  have hl2 := hd e.on _ hok hl e2 he2 hb2
  rcases Nat.lt_or_ge e2.on listed.size with h' | h'
  ·simp [h'] at h0 hl2; rw [h0] at hl2; cases hl2
  ·simp [Array.getElem?_eq_none h'] at hl2
section
variable {P : Program} {n : Nat} {Q : Exit → Env → World → Prop} {ρ : Env} {w : World}
theorem qK {ops : Array Oper} {late : Nat → Bool} {Q : Exit → Act → World → Prop} {S : World → Prop} {i : Nat} {oi : Oper} {v : Value} (hi : ops[i]? = some oi)
  (hsel : Region.noSelect ops = true) (hQ : ∀ c a w, Q (.panic c) (a.put oi.dst v) w → Q (.panic c) a w) :
  ∀ (fuel : Nat) (listed : Array Bool) (a : Act) (w : World),
   (∀ j oj, ops[j]? = some oj → j ≠ i → listed.getD j true = false → (∀ e ∈ oj.after, Region.binds .any e = true → e.on ≠ i) → oi.apart ops oj = true) →
   (∀ j, late j = true → waitsT ops j i = true) → Down ops listed →
   i ∈ Region.ready .any ops listed → YieldsIf P ops S oi v a → S w →
   wpL P ops late Q S fuel (listed.setIfInBounds i true) (a.put oi.dst v) w → wpL P ops late Q S (fuel + 1) listed a w := by
 intro fuel
 induction fuel with
 | zero =>
  intro listed a w _ _ _ hr hy hS H
  refine ⟨fun h => (by rw [h] at hr; cases hr), fun j hj => ?_⟩
  by_cases hji : j = i
  ·subst hji; exact hy.wpOp hi hS ⟨fun _ h => h, H⟩
  ·have := ready_mono hj hji
   rw [H.1] at this
   cases this
 | succ fuel ih =>
  intro listed a w hfree hlate hdown hr hy hS H
  refine ⟨fun h => (by rw [h] at hr; cases hr), fun j hj => ?_⟩
  by_cases hji : j = i
  ·subst hji; exact hy.wpOp hi hS ⟨fun _ h => h, H⟩
  ·have hnl : late j = false := by
    cases h : late j with
    | false => rfl
    | true => have := hlate j h; rw [ff hdown hr hj] at this; cases this
   have h1 := H.2 j (ready_mono hj hji)
   obtain ⟨hjun, oj, hoj, hall⟩ := mem_ready.1 hj
   have hnot : ∀ e ∈ oj.after, Region.binds .any e = true → e.on ≠ i := fun e he hb heq => by
    have hw := cH hr hj
    simp only [waits, hoj] at hw
    rw [Array.any_eq_false'] at hw
    exact hw e he (by simp [hb, heq])
   have h2 := wpOp_putIf hoj (hfree j oj hoj hji hjun hnot) (fun cs b => Region.noSelect_spec hsel i oi cs b hi) (fun cs b => Region.noSelect_spec hsel j oj cs b hoj) hQ hy h1
   refine wpOp_mono (fun a' w' h3 => ⟨h3.2.1, ih (listed.setIfInBounds j true) a' w' (fun k ok hk hki hun hno => ?_) hlate (hdown.set hj) (ready_mono hr (Ne.symm hji)) h3.1 (h3.2.1 hnl hS) ?_⟩) h2
   ·refine hfree k ok hk hki ?_ hno
    by_cases hjk : j = k
    ·subst hjk; exact hjun
    ·rw [getD_set_ne true hjk] at hun; exact hun
   ·rw [Array.setIfInBounds_comm _ _ hji]
    exact h3.2.2
def planOKT (ops : Array Oper) (late : List Nat) : List (Nat × Option Bool) → Array Bool → Bool
 | [], listed => (Region.ready .any ops listed).isEmpty
 | (i, none) :: rest, listed => (Region.ready .any ops listed).contains i && (Region.free .any ops listed i && ((!rdAt ops i || late.all (fun j => waitsT ops j i)) && planOKT ops late rest (listed.setIfInBounds i true)))
 | (i, some k) :: rest, listed => (Region.ready .any ops listed == [i]) && ((bif k then !late.contains i else (late.contains i && !needP ops rest)) && planOKT ops late rest (listed.setIfInBounds i true))
theorem fE {ops : List Oper} {late : List Nat} {S : World → Prop} (hsel : Region.noSelect ops.toArray = true) (hd : ops.all (dstOK n) = true) :
  ∀ (plan : List (Nat × Option Bool)) (listed : Array Bool) (ρ : Env) (a : Act) (w : World), Rel n a ρ → Down ops.toArray listed → planOKT ops.toArray late plan listed = true → (needP ops.toArray plan = true → S w) →
   RR P S ops (Q .normal) (planOps ops plan) ρ w →
   wpL P ops.toArray (fun j => late.contains j) (lift n Q) S plan.length listed a w
 | [], listed, ρ, a, w, hr, _, hp, _, h => ⟨by simpa [planOKT] using hp, ρ, hr, by simpa only [planOps, RR] using h⟩
 | (i, none) :: rest, listed, ρ, a, w, hr, hdn, hp, hS, h => by
  simp only [planOKT, Bool.and_eq_true] at hp
  obtain ⟨h1, h2, h3, h4⟩ := hp
  have hri : i ∈ Region.ready .any ops.toArray listed := by simpa using h1
  obtain ⟨_, o, ho, _⟩ := mem_ready.1 hri
  have ho' : ops[i]? = some o := by simpa using ho
  have hdo : dstOK n o = true := List.all_eq_true.1 hd o (List.mem_of_getElem? ho')
  simp only [planOps, ho', RR] at h
  have hr3 : rdAt ops.toArray i = isRd o := by simp only [rdAt, ho]
  have en : needP ops.toArray ((i, none) :: rest) = (isRd o || needP ops.toArray rest) := by rw [← hr3]; rfl
  rw [en] at hS
  have hSr : needP ops.toArray rest = true → S w := fun hn => hS (by rw [hn]; simp)
  cases hrd : isRd o with
  | true =>
   have hS' : S w := hS (by rw [hrd]; rfl)
   have key : ∃ v, YieldsIf P ops.toArray S o v a ∧ RR P S ops (Q .normal) (planOps ops rest) (updO ρ o.dst v) w := by
    by_cases hw : wantedE ops ρ o = true
    ·rw [if_pos hw] at h
     obtain ⟨v, hv, h⟩ := h
     exact ⟨v, .inl ⟨by rw [hr.wanted]; exact hw, by rw [hr.ev]; exact fun w' hw' => hv w' (fun _ => hw')⟩, h⟩
    ·rw [if_neg hw] at h
     exact ⟨undef, .inr ⟨by rw [hr.wanted]; simpa using hw, rfl⟩, h⟩
   obtain ⟨v, hy, h⟩ := key
   rw [hr3, hrd] at h3
   simp only [Bool.not_true, Bool.false_or] at h3
   refine qK ho hsel (fun _ _ _ h => h) rest.length listed a w (Region.free_spec ho h2) (fun j hj => List.all_eq_true.1 h3 j (by simpa using hj)) hdn hri hy hS' ?_
   exact fE hsel hd rest _ _ _ w (hr.putO hdo v) (hdn.set hri) h4 hSr h
  | false =>
   have key : ∃ v, Yields P ops.toArray o v a ∧ RR P S ops (Q .normal) (planOps ops rest) (updO ρ o.dst v) w := by
    by_cases hw : wantedE ops ρ o = true
    ·rw [if_pos hw] at h
     obtain ⟨v, hv, h⟩ := h
     exact ⟨v, .inl ⟨by rw [hr.wanted]; exact hw, by rw [hr.ev]; exact fun w' => hv w' (fun hh => by rw [hrd] at hh; cases hh)⟩, h⟩
    ·rw [if_neg hw] at h
     exact ⟨undef, .inr ⟨by rw [hr.wanted]; simpa using hw, rfl⟩, h⟩
   obtain ⟨v, hy, h⟩ := key
   refine fv ho hsel (fun _ _ _ h => h) rest.length listed a w (Region.free_spec ho h2) hri hy ?_
   exact fE hsel hd rest _ _ _ w (hr.putO hdo v) (hdn.set hri) h4 hSr h
 | (i, some k) :: rest, listed, ρ, a, w, hr, hdn, hp, hS, h => by
  simp only [planOKT, Bool.and_eq_true, beq_iff_eq] at hp
  obtain ⟨h1, h2, h3⟩ := hp
  have hri : i ∈ Region.ready .any ops.toArray listed := by rw [h1]; simp
  obtain ⟨_, o, ho, _⟩ := mem_ready.1 hri
  have ho' : ops[i]? = some o := by simpa using ho
  have hdo : dstOK n o = true := List.all_eq_true.1 hd o (List.mem_of_getElem? ho')
  simp only [planOps, ho', RR] at h
  have en : needP ops.toArray ((i, some k) :: rest) = needP ops.toArray rest := rfl
  rw [en] at hS
  refine ⟨fun h0 => absurd (h1.symm.trans h0) (by simp), fun j hj => ?_⟩
  rw [h1] at hj
  simp only [List.mem_singleton] at hj
  subst hj
  unfold wpOp
  simp only [ho]
  rw [hr.wanted]
  have hkl : late.contains j = false → k = true := fun hl => by
   cases k with
   | true => rfl
   | false => simp only [cond_false, Bool.and_eq_true] at h2; rw [hl] at h2; cases h2.1
  have hkn : needP ops.toArray rest = true → k = true := fun hn => by
   cases k with
   | true => rfl
   | false => simp only [cond_false, Bool.and_eq_true] at h2; rw [hn] at h2; cases h2.2
  split
  ·rename_i hw
   rw [if_pos hw] at h
   exact .inl (OpW.wp hr h fun v w' hn => ⟨fun hl hS1 => hn.1 (hkl hl) hS1, fE hsel hd rest _ _ _ w' (hr.putO hdo v) (hdn.set hri) h3 (fun hh => hn.1 (hkn hh) (hS hh)) hn.2⟩)
  ·rename_i hw
   rw [if_neg hw] at h
   exact ⟨fun _ h => h, fE hsel hd rest _ _ _ w (hr.putO hdo undef) (hdn.set hri) h3 hS h⟩
theorem eZ {id : Nat} {ops : List Oper} {late : List Nat} {plan : List (Nat × Option Bool)} (S : World → Prop) (hm : P.follows .mixedOrders = true)
  (hc : (Region.noSelect ops.toArray && (ops.all (dstOK n) && (plan.length == ops.length && planOKT ops.toArray late plan (Array.replicate ops.length false)))) = true)
  (hS : S w.drew) (h : RR P S ops (Q .normal) (planOps ops plan) ρ w.drew) : CW P n (.region id ops.toArray true) Q ρ w := by
 unfold CW
 intro a hr
 simp only [Bool.and_eq_true, beq_iff_eq] at hc
 obtain ⟨h1, h2, h3, h4⟩ := hc
 refine wp_region_any hm (dF (late := fun j => late.contains j) (S := S) _ _ _ _ ?_)
 have := fE h1 h2 plan (Array.replicate ops.length false) ρ a w.drew hr (Down.start _ _) h4 (fun _ => hS) h
 rw [h3] at this
 simpa using this
end
end Go.W
