import Derived.Test.YtppipmkpmmdcjaaA16
namespace Go.Proofs.Ytppipmkpmmdcjaa
open Go.W Go.LM Go.LA
abbrev elL (gd gu gv r c : Nat) : List Value := [.slice (some ⟨gd, 0, none⟩) r r, .slice (some ⟨gu, 0, none⟩) r r, .slice (some ⟨gv, 0, none⟩) c c]
def AnyM (K : Nat) (w : World) (lo g n : Nat) (lab : Nat → Nat) (l : Nat) : Prop := ∃ s cp F, MO true K w lo g n n s cp F ∧ ∀ i, i < n → lab (s i) = l
def DM (K : Nat) (w : World) (lo g r c : Nat) (lab : Nat → Nat) (D : Mat) : Prop := ∃ s cp, MO true K w lo g r c s cp D ∧ ∀ i, i < r → lab (s i) = 1
structure EL (K Ku : Nat) (w : World) (lab : Nat → Nat) (lo ge r c gd gu gv : Nat) (D : Mat) : Prop where
 blk : Blk w ge 58 (elL gd gu gv r c)
 d : DM K w lo gd r c lab D
 u : AnyM Ku w lo gu r lab 2
 v : AnyM Ku w lo gv c lab 3
 l0 : lab ge = 0
 l1 : lab gd = 1
 l2 : lab gu = 2
 l3 : lab gv = 3
 low : lo ≤ ge
def Fe (lo : Nat) (w w' : World) : Prop := (∀ w0 : World, Ex w0 w → w0.heap.size ≤ lo → Ex w0 w') ∧ w.heap.size ≤ w'.heap.size
section
variable {K Ku K' Ku' lo ge r c gd gu gv g n l : Nat} {w w' w'' : World} {lab : Nat → Nat} {D D' : Mat}
theorem Fe.refl : Fe lo w w := ⟨fun _ e _ => e, Nat.le_refl _⟩
theorem Fe.trans (h : Fe lo w w') (k : Fe lo w' w'') : Fe lo w w'' := ⟨fun w0 e hl => k.1 w0 (h.1 w0 e hl) hl, Nat.le_trans h.2 k.2⟩
theorem Fe.ex (e : Ex w w') : Fe lo w w' := ⟨fun _ e0 _ => e0.trans e, e.size⟩
theorem Fe.fr {F : Nat → Prop} (h : Fr F w w') (hF : ∀ k, F k → lo ≤ k) : Fe lo w w' := ⟨fun _w0 e hl => Fr.ex e h fun k hk => Nat.le_trans hl (hF k hk), h.size⟩
theorem AnyM.ext (h : AnyM K w lo g n lab l) (e : Ex w w') : AnyM K w' lo g n lab l := by obtain ⟨s, cp, F, h1, h2⟩ := h; exact ⟨s, cp, F, h1.ext e, h2⟩
theorem AnyM.up (h : AnyM K w lo g n lab l) (hK : K ≤ K') : AnyM K' w lo g n lab l := by obtain ⟨s, cp, F, h1, h2⟩ := h; exact ⟨s, cp, F, h1.up hK, h2⟩
theorem AnyM.fr {Fs : Nat → Prop} {l' : Nat} (h : AnyM K w lo g n lab l) (hg : lab g = l) (hN : NoF Fs w) (hF : Fr Fs w w') (hl : ∀ b, Fs b → lab b = l') (hne : l ≠ l') : AnyM K w' lo g n lab l := by
 obtain ⟨s, cp, F, h1, h2⟩ := h
 exact ⟨s, cp, F, h1.fr hN hF (fun hb => hne (by rw [← hg, hl _ hb])) (fun i hi hb => hne (by rw [← h2 i hi, hl _ hb])), h2⟩
theorem DM.ext (h : DM K w lo gd r c lab D) (e : Ex w w') : DM K w' lo gd r c lab D := by obtain ⟨s, cp, h1, h2⟩ := h; exact ⟨s, cp, h1.ext e, h2⟩
theorem DM.up (h : DM K w lo gd r c lab D) (hK : K ≤ K') : DM K' w lo gd r c lab D := by obtain ⟨s, cp, h1, h2⟩ := h; exact ⟨s, cp, h1.up hK, h2⟩
theorem DM.congr (h : DM K w lo gd r c lab D) (e : ∀ i j, i < r → j < c → D' i j = D i j) : DM K w lo gd r c lab D' := by obtain ⟨s, cp, h1, h2⟩ := h; exact ⟨s, cp, h1.congr e, h2⟩
theorem DM.fr {Fs : Nat → Prop} {l' : Nat} (h : DM K w lo gd r c lab D) (hg : lab gd = 1) (hN : NoF Fs w) (hF : Fr Fs w w') (hl : ∀ b, Fs b → lab b = l') (hne : 1 ≠ l') : DM K w' lo gd r c lab D := by
 obtain ⟨s, cp, h1, h2⟩ := h
 exact ⟨s, cp, h1.fr hN hF (fun hb => hne (by rw [← hg, hl _ hb])) (fun i hi hb => hne (by rw [← h2 i hi, hl _ hb])), h2⟩
theorem EL.ext (h : EL K Ku w lab lo ge r c gd gu gv D) (e : Ex w w') : EL K Ku w' lab lo ge r c gd gu gv D := ⟨h.blk.ext e, h.d.ext e, h.u.ext e, h.v.ext e, h.l0, h.l1, h.l2, h.l3, h.low⟩
theorem EL.up (h : EL K Ku w lab lo ge r c gd gu gv D) (hK : K ≤ K') (hKu : Ku ≤ Ku') : EL K' Ku' w lab lo ge r c gd gu gv D := ⟨h.blk, h.d.up hK, h.u.up hKu, h.v.up hKu, h.l0, h.l1, h.l2, h.l3, h.low⟩
theorem EL.congr (h : EL K Ku w lab lo ge r c gd gu gv D) (e : ∀ i j, i < r → j < c → D' i j = D i j) : EL K Ku w lab lo ge r c gd gu gv D' := ⟨h.blk, h.d.congr e, h.u, h.v, h.l0, h.l1, h.l2, h.l3, h.low⟩
theorem EL.setD {Fs : Nat → Prop} (h : EL K Ku w lab lo ge r c gd gu gv D) (hN : NoF Fs w) (hF : Fr Fs w w') (hl : ∀ b, Fs b → lab b = 1) (hd : DM K' w' lo gd r c lab D') : EL K' Ku w' lab lo ge r c gd gu gv D' :=
 ⟨h.blk.fr hF (fun hb => by have := hl _ hb; have := h.l0; omega), hd, h.u.fr h.l2 hN hF hl (by decide), h.v.fr h.l3 hN hF hl (by decide), h.l0, h.l1, h.l2, h.l3, h.low⟩
theorem EL.setU {Fs : Nat → Prop} (h : EL K Ku w lab lo ge r c gd gu gv D) (hN : NoF Fs w) (hF : Fr Fs w w') (hl : ∀ b, Fs b → lab b = 2) (hK : Ku ≤ Ku') (hd : AnyM Ku' w' lo gu r lab 2) : EL K Ku' w' lab lo ge r c gd gu gv D :=
 ⟨h.blk.fr hF (fun hb => by have := hl _ hb; have := h.l0; omega), h.d.fr h.l1 hN hF hl (by decide), hd, (h.v.fr h.l3 hN hF hl (by decide)).up hK, h.l0, h.l1, h.l2, h.l3, h.low⟩
theorem EL.setV {Fs : Nat → Prop} (h : EL K Ku w lab lo ge r c gd gu gv D) (hN : NoF Fs w) (hF : Fr Fs w w') (hl : ∀ b, Fs b → lab b = 3) (hK : Ku ≤ Ku') (hd : AnyM Ku' w' lo gv c lab 3) : EL K Ku' w' lab lo ge r c gd gu gv D :=
 ⟨h.blk.fr hF (fun hb => by have := hl _ hb; have := h.l0; omega), h.d.fr h.l1 hN hF hl (by decide), (h.u.fr h.l2 hN hF hl (by decide)).up hK, hd, h.l0, h.l1, h.l2, h.l3, h.low⟩
end
def LeastAt (D : Mat) (r c t p q : Nat) : Prop := t ≤ p ∧ p < r ∧ t ≤ q ∧ q < c ∧ D p q ≠ 0 ∧ ∀ a b, t ≤ a → a < r → t ≤ b → b < c → D a b ≠ 0 → (D p q).natAbs ≤ (D a b).natAbs
def Zreg (D : Mat) (r c t : Nat) : Prop := ∀ a b, t ≤ a → a < r → t ≤ b → b < c → D a b = 0
def LJ (D : Mat) (r c t i j p q : Nat) (ok : Bool) : Prop :=
 (ok = false → p = 0 ∧ q = 0 ∧ ∀ a b, t ≤ a → t ≤ b → b < c → (a < i ∨ a = i ∧ b < j) → D a b = 0) ∧
 (ok = true → t ≤ p ∧ p < r ∧ t ≤ q ∧ q < c ∧ D p q ≠ 0 ∧ ∀ a b, t ≤ a → t ≤ b → b < c → (a < i ∨ a = i ∧ b < j) → D a b ≠ 0 → (D p q).natAbs ≤ (D a b).natAbs)
section
variable {D : Mat} {r c t i j p q : Nat} {ok : Bool}
theorem LJ.skip (h : LJ D r c t i j p q ok) (h0 : D i j = 0) : LJ D r c t i (j + 1) p q ok := by
 refine ⟨fun e => ?_, fun e => ?_⟩
 ·obtain ⟨h1, h2, h3⟩ := h.1 e
  refine ⟨h1, h2, fun a b ha hb hc hab => ?_⟩
  by_cases e2 : a = i ∧ b = j
  ·rw [e2.1, e2.2]; exact h0
  ·exact h3 a b ha hb hc (by omega)
 ·obtain ⟨h1, h2, h3, h4, h5, h6⟩ := h.2 e
  refine ⟨h1, h2, h3, h4, h5, fun a b ha hb hc hab hn => ?_⟩
  by_cases e2 : a = i ∧ b = j
  ·rw [e2.1, e2.2] at hn; exact absurd h0 hn
  ·exact h6 a b ha hb hc (by omega) hn
theorem LJ.keep (h : LJ D r c t i j p q true) (h0 : ¬ (D i j).natAbs < (D p q).natAbs) : LJ D r c t i (j + 1) p q true := by
 refine ⟨fun e => (nomatch e), fun e => ?_⟩
 obtain ⟨h1, h2, h3, h4, h5, h6⟩ := h.2 e
 refine ⟨h1, h2, h3, h4, h5, fun a b ha hb hc hab hn => ?_⟩
 by_cases e2 : a = i ∧ b = j
 ·rw [e2.1, e2.2]; omega
 ·exact h6 a b ha hb hc (by omega) hn
theorem LJ.take (h : LJ D r c t i j p q ok) (hi : t ≤ i ∧ i < r) (hj : t ≤ j ∧ j < c) (hn : D i j ≠ 0) (h0 : ok = true → (D i j).natAbs < (D p q).natAbs) : LJ D r c t i (j + 1) i j true := by
 refine ⟨fun e => (nomatch e), fun _ => ⟨hi.1, hi.2, hj.1, hj.2, hn, fun a b ha hb hc hab hn' => ?_⟩⟩
 by_cases e2 : a = i ∧ b = j
 ·rw [e2.1, e2.2]; exact Nat.le_refl _
 ·cases ok with
  | false => exact absurd ((h.1 rfl).2.2 a b ha hb hc (by omega)) hn'
  | true => exact Nat.le_of_lt (Nat.lt_of_lt_of_le (h0 rfl) ((h.2 rfl).2.2.2.2.2 a b ha hb hc (by omega) hn'))
theorem LJ.row (h : LJ D r c t i c p q ok) : LJ D r c t (i + 1) t p q ok := by
 refine ⟨fun e => ?_, fun e => ?_⟩
 ·obtain ⟨h1, h2, h3⟩ := h.1 e
  exact ⟨h1, h2, fun a b ha hb hc hab => h3 a b ha hb hc (by omega)⟩
 ·obtain ⟨h1, h2, h3, h4, h5, h6⟩ := h.2 e
  exact ⟨h1, h2, h3, h4, h5, fun a b ha hb hc hab hn => h6 a b ha hb hc (by omega) hn⟩
end
set_option maxHeartbeats 4000000 in
theorem mS {K Ku lo ge r c gd gu gv t : Nat} {w : World} {lab : Nat → Nat} {D : Mat} (hE : EL K Ku w lab lo ge r c gd gu gv D) (hr : r ≤ 1000) (hc : c ≤ 1000) (ht : t ≤ r ∧ t ≤ c) :
  CallsR Try.prog 37 #[.pointer (some ⟨ge, 0, none⟩), .int .i64 (t : Int)] w fun v w' => Ex w w' ∧ ((v = .tuple #[.int .i64 0, .int .i64 0, .bool false] ∧ Zreg D r c t) ∨ ∃ p q : Nat, v = .tuple #[.int .i64 (p : Int), .int .i64 (q : Int), .bool true] ∧ LeastAt D r c t p q) := by
 obtain ⟨s, cp, hM, hlab⟩ := hE.d
 have hb := hE.blk
 refine aJ (args := [_, _]) Try.func37 rfl rfl ?_
 repeat' (first|refine ai rfl ?_|refine aa ?_|refine ao ?_|refine ah rfl ?_|refine ae ?_|refine aC ?_)
 refine bh (ι := Nat × Nat × Nat × Bool) [4, 5, 6, 7, 8, 10, 11, 12, 13, 14, 15, 16, 17, 18, 19, 20, 21, 22, 23, 24, 25, 26, 27, 28, 29, 30, 31, 32, 33, 34, 35, 36, 37, 38, 39, 40, 41, 42, 43, 44, 45, 46, 47, 48, 49, 50, 51, 52, 53, 54, 55, 56, 57, 58, 59, 60, 61, 62, 63, 64, 65, 66, 67, 68, 69, 70, 71, 72, 73] (fun x => [(7, .int .i64 (x.1 : Int)), (4, .int .i64 (x.2.1 : Int)), (5, .int .i64 (x.2.2.1 : Int)), (6, .bool x.2.2.2)])
  (fun x w' => (t ≤ x.1 ∧ x.1 ≤ r) ∧ Ex w w' ∧ LJ D r c t x.1 t x.2.1 x.2.2.1 x.2.2.2) (fun x => r - x.1)
  (t, 0, 0, false) ⟨rfl, rfl, rfl, rfl, trivial⟩ ⟨⟨Nat.le_refl _, ht.1⟩, Ex.refl _, ⟨fun _ => ⟨rfl, rfl, fun a b ha hb hc hab => by omega⟩, fun e => (nomatch e)⟩⟩ ?_
 rintro ⟨i, p, q, ok⟩ ξ w2 ⟨⟨hti, hir⟩, hE2, hJ⟩
 simp only at hti hir hJ
 show CW _ _ _ _ (over [(7, .int .i64 (i : Int)), (4, .int .i64 (p : Int)), (5, .int .i64 (q : Int)), (6, .bool ok)] _) w2
 rcases Nat.lt_or_ge i r with hi | hi
 ·repeat' (first|refine aV (g := ge) (cs := elL gd gu gv r c) rfl (hb.ext hE2) rfl ?_|refine bA rfl rfl (by omega) ?_|refine ai rfl ?_|refine aa ?_|refine ao ?_|refine ah rfl ?_|refine ae ?_|refine bn rfl ?_|refine aL rfl ?_|refine aE rfl ?_|refine aC ?_|refine aI ?_)
  refine bh (ι := Nat × Nat × Nat × Bool) [4, 5, 6, 8, 20, 21, 22, 23, 24, 25, 26, 27, 28, 29, 30, 31, 32, 33, 34, 35, 36, 37, 38, 39, 40, 41, 42, 43, 44, 45, 46, 47, 48, 49, 50, 51, 52, 53, 54, 55, 56, 57, 58, 59, 60, 61, 62, 63, 64, 65, 66, 67, 68, 69, 70, 71, 72, 73] (fun x => [(8, .int .i64 (x.1 : Int)), (4, .int .i64 (x.2.1 : Int)), (5, .int .i64 (x.2.2.1 : Int)), (6, .bool x.2.2.2)])
   (fun x w' => (t ≤ x.1 ∧ x.1 ≤ c) ∧ Ex w w' ∧ LJ D r c t i x.1 x.2.1 x.2.2.1 x.2.2.2) (fun x => c - x.1)
   (t, p, q, ok) ⟨rfl, rfl, rfl, rfl, trivial⟩ ⟨⟨Nat.le_refl _, ht.2⟩, hE2, hJ⟩ ?_
  clear hJ hE2
  rintro ⟨j, p', q', ok'⟩ ξ2 w3 ⟨⟨htj, hjc⟩, hE3, hJ⟩
  simp only at htj hjc hJ
  show CW _ _ _ _ (over [(8, .int .i64 (j : Int)), (4, .int .i64 (p' : Int)), (5, .int .i64 (q' : Int)), (6, .bool ok')] _) w3
  obtain ⟨hh, hbi, hci, hEi⟩ := (hM.ext hE3).get hi
  have hT3 := (hM.ext hE3).top
  rcases Nat.lt_or_ge j c with hj | hj
  ·repeat' (first|refine aV (g := ge) (cs := elL gd gu gv r c) rfl (hb.ext hE3) rfl ?_|refine aB (j := i) (a := some ⟨gd, 0, none⟩) rfl rfl ⟨_, _, rfl⟩ (by omega) ?_|refine aS (j := i) (a := some ⟨gd, 0, none⟩) (n := r) (s := fun k => ⟨some ⟨s k, 0, none⟩, c, cp k⟩) rfl hT3.sl (by omega) rfl ?_|refine aU (j := j) (a := some ⟨s i, 0, none⟩) rfl rfl ⟨_, _, rfl⟩ (by omega) ?_|refine bp (j := j) (n := cp i) (a := some ⟨s i, 0, none⟩) rfl hbi.sl ⟨_, _, rfl⟩ (by omega) ?_|refine bA rfl rfl (by omega) ?_|refine ai rfl ?_|refine aa ?_|refine ao ?_|refine ah rfl ?_|refine ae ?_|refine bn rfl ?_|refine aL rfl ?_|refine aE rfl ?_|refine aC ?_|refine aI ?_)
   refine ax (bI (hEi j hj).k) rfl ?_
   rintro v w4 ⟨rfl, hE4⟩
   refine ⟨fun _ _ => trivial, ?_⟩
   have hE04 := hE3.trans hE4
   by_cases h0 : D i j = 0
   ·repeat' (first|refine nc rfl rfl (Int.sign_eq_zero_iff_zero.2 h0) ?_|refine ai rfl ?_|refine aa ?_|refine ah rfl ?_|refine ae ?_|refine bi rfl rfl (by omega) (by omega) ?_|refine aE rfl ?_|refine aW ?_|refine aO ?_|refine aX ?_)
    exact ⟨⟨(j + 1, p', q', ok'), ⟨⟨by simp only; omega, hj⟩, hE04, hJ.skip h0⟩, by simp only; omega, rfl, rfl, rfl, rfl, trivial⟩, (by (repeat (first|exact aF _ _ _|refine ay rfl ?_|refine av rfl ?_|refine aj rfl ?_|refine ak rfl ?_)))⟩
   ·repeat' (first|refine kZ rfl rfl (fun e => h0 (Int.sign_eq_zero_iff_zero.1 e)) ?_|refine aa ?_|refine ao ?_|refine ae ?_|refine aA rfl ?_|refine aI ?_)
    cases ok' with
    | false =>
     refine aZ (late := []) (plan := [(0, none), (1, none), (2, none), (3, none), (4, none), (5, none), (6, none), (7, none), (8, none), (9, none), (10, none), (11, none), (12, none), (14, none), (15, none), (16, none), (17, none), (18, none), (19, none), (20, none), (21, none), (22, none), (23, none), (13, some true), (24, some true), (25, some true), (26, none), (27, none)]) (fun w' => Ex w4 w') bt (by kernel_rfl) (Ex.refl w4).drew ?_
     have hEd := (Ex.refl w4).drew
     repeat' (first|refine ai rfl ?_|refine aa ?_|refine ah rfl ?_|refine ae ?_|refine bS rfl rfl ?_|refine bi rfl rfl (by omega) (by omega) ?_|refine aE rfl ?_|refine aM ?_)
     exact ⟨⟨(j + 1, i, j, true), ⟨⟨by simp only; omega, hj⟩, hE04.trans hEd, hJ.take ⟨hti, hi⟩ ⟨htj, hj⟩ h0 (fun e => (nomatch e))⟩, by simp only; omega, rfl, rfl, rfl, rfl, trivial⟩, (by (repeat (first|exact aF _ _ _|refine ay rfl ?_|refine av rfl ?_|refine aj rfl ?_|refine ak rfl ?_)))⟩
    | true =>
     obtain ⟨hp1, hp2, hq1, hq2, hpq, _⟩ := hJ.2 rfl
     obtain ⟨hhp, hbp, hcp, hEp⟩ := (hM.ext hE04).get hp2
     refine aZ (late := []) (plan := [(0, none), (1, none), (2, none), (3, none), (4, none), (5, none), (6, none), (7, none), (8, none), (9, none), (10, none), (11, none), (12, none), (14, none), (15, none), (16, none), (17, none), (18, none), (19, none), (20, none), (21, none), (22, none), (23, none), (13, some true), (24, some true), (25, some true), (26, none), (27, none)]) (fun w' => Ex w4 w') bt (by kernel_rfl) (Ex.refl w4).drew ?_
     have hEd := (Ex.refl w4).drew
     repeat' (first|refine aV (g := ge) (cs := elL gd gu gv r c) rfl (fun _ h => hb.ext (hE04.trans h)) rfl ?_|refine aB (j := i) (a := some ⟨gd, 0, none⟩) rfl rfl ⟨_, _, rfl⟩ (by omega) ?_|refine aS (j := i) (a := some ⟨gd, 0, none⟩) (n := r) (s := fun k => ⟨some ⟨s k, 0, none⟩, c, cp k⟩) rfl (fun _ h => (hT3.ext (hE4.trans h)).sl) (by omega) rfl ?_|refine aU (j := j) (a := some ⟨s i, 0, none⟩) rfl rfl ⟨_, _, rfl⟩ (by omega) ?_|refine bp (j := j) (n := cp i) (a := some ⟨s i, 0, none⟩) rfl (fun _ h => (hbi.ext (hE4.trans h)).sl) ⟨_, _, rfl⟩ (by omega) ?_|refine aB (j := p') (a := some ⟨gd, 0, none⟩) rfl rfl ⟨_, _, rfl⟩ (by omega) ?_|refine aS (j := p') (a := some ⟨gd, 0, none⟩) (n := r) (s := fun k => ⟨some ⟨s k, 0, none⟩, c, cp k⟩) rfl (fun _ h => (hT3.ext (hE4.trans h)).sl) (by omega) rfl ?_|refine aU (j := q') (a := some ⟨s p', 0, none⟩) rfl rfl ⟨_, _, rfl⟩ (by omega) ?_|refine bp (j := q') (n := cp p') (a := some ⟨s p', 0, none⟩) rfl (fun _ h => (hbp.ext h).sl) ⟨_, _, rfl⟩ (by omega) ?_|refine ai rfl ?_|refine bB rfl rfl ?_|refine aL rfl ?_)
     refine ax (kk ((hEi j hj).ext (hE4.trans hEd))) rfl ?_
     rintro v w5 ⟨hI5, hE5⟩
     refine ⟨fun _ h => h.trans hE5, ?_⟩
     have hE45 := hEd.trans hE5
     repeat' (first|refine bB rfl rfl ?_)
     refine ax (kk ((hEp q' hq2).ext hE45)) rfl ?_
     rintro v w6 ⟨hI6, hE6⟩
     refine ⟨fun _ h => h.trans hE6, ?_⟩
     repeat' (first|refine bB rfl rfl ?_)
     refine ax (nP (hI5.ext hE6).k hI6.k) rfl ?_
     rintro v w7 ⟨rfl, hE7⟩
     refine ⟨fun _ h => h.trans hE7, ?_⟩
     have hE07 := hE04.trans ((hE45.trans hE6).trans hE7)
     by_cases hlt : (D i j).natAbs < (D p' q').natAbs
     ·repeat' (first|refine bA rfl rfl (dN.2 (by omega)) ?_|refine ai rfl ?_|refine aa ?_|refine ah rfl ?_|refine ae ?_|refine bB rfl rfl ?_|refine bi rfl rfl (by omega) (by omega) ?_|refine aE rfl ?_|refine aM ?_)
      exact ⟨⟨(j + 1, i, j, true), ⟨⟨by simp only; omega, hj⟩, hE07, hJ.take ⟨hti, hi⟩ ⟨htj, hj⟩ h0 (fun _ => hlt)⟩, by simp only; omega, rfl, rfl, rfl, rfl, trivial⟩, (by (repeat (first|exact aF _ _ _|refine ay rfl ?_|refine av rfl ?_|refine aj rfl ?_|refine ak rfl ?_)))⟩
     ·have hs : ¬ (((D i j).natAbs : Int) - ((D p' q').natAbs : Int)).sign < 0 := fun e => by have := dN.1 e; omega
      repeat' (first|refine bz rfl rfl (by omega) ?_|refine ai rfl ?_|refine aa ?_|refine ah rfl ?_|refine ae ?_|refine bB rfl rfl ?_|refine bi rfl rfl (by omega) (by omega) ?_|refine aA rfl ?_|refine aM ?_|refine aI ?_)
      exact ⟨⟨(j + 1, p', q', true), ⟨⟨by simp only; omega, hj⟩, hE07, hJ.keep hlt⟩, by simp only; omega, rfl, rfl, rfl, rfl, trivial⟩, (by (repeat (first|exact aF _ _ _|refine ay rfl ?_|refine av rfl ?_|refine aj rfl ?_|refine ak rfl ?_)))⟩
  ·have : j = c := by omega
   subst this
   repeat' (first|refine aV (g := ge) (cs := elL gd gu gv r j) rfl (hb.ext hE3) rfl ?_|refine aB (j := i) (a := some ⟨gd, 0, none⟩) rfl rfl ⟨_, _, rfl⟩ (by omega) ?_|refine aS (j := i) (a := some ⟨gd, 0, none⟩) (n := r) (s := fun k => ⟨some ⟨s k, 0, none⟩, j, cp k⟩) rfl hT3.sl (by omega) rfl ?_|refine bz rfl rfl (by omega) ?_|refine ai rfl ?_|refine aa ?_|refine ao ?_|refine ah rfl ?_|refine ae ?_|refine bn rfl ?_|refine bi rfl rfl (by omega) (by omega) ?_|refine aL rfl ?_|refine aA rfl ?_|refine aW ?_|refine aO ?_|refine aX ?_|refine aM ?_)
   exact ⟨⟨(i + 1, p', q', ok'), ⟨⟨by simp only; omega, hi⟩, hE3, hJ.row⟩, by simp only; omega, rfl, rfl, rfl, rfl, trivial⟩, (by (repeat (first|exact aF _ _ _|refine ay rfl ?_|refine av rfl ?_|refine aj rfl ?_|refine ak rfl ?_)))⟩
 ·have : i = r := by omega
  subst this
  repeat' (first|refine aV (g := ge) (cs := elL gd gu gv i c) rfl (hb.ext hE2) rfl ?_|refine bz rfl rfl (by omega) ?_|refine ai rfl ?_|refine aa ?_|refine ao ?_|refine ah rfl ?_|refine ae ?_|refine bn rfl ?_|refine aL rfl ?_|refine aA rfl ?_|refine aW ?_|refine aO ?_|refine aX ?_|refine aT ?_)
  cases ok with
  | false =>
   obtain ⟨rfl, rfl, h3⟩ := hJ.1 rfl
   exact gj rfl (rt rfl) (rt rfl) (rt rfl) ⟨hE2, .inl ⟨rfl, fun a b ha hai hb hbc => h3 a b ha hb hbc (.inl hai)⟩⟩
  | true =>
   obtain ⟨h1, h2, h3, h4, h5, h6⟩ := hJ.2 rfl
   exact gj rfl (rt rfl) (rt rfl) (rt rfl) ⟨hE2, .inr ⟨p, q, rfl, h1, h2, h3, h4, h5, fun a b ha hai hb hbc hn => h6 a b ha hb hbc (.inl hai) hn⟩⟩
end Go.Proofs.Ytppipmkpmmdcjaa
namespace Go.LA
end Go.LA
namespace Go.Proofs.Ytppipmkpmmdcjaa
open Go.W Go.LM Go.LA
theorem pG {P : Program} {S : World → Prop} {ops : List Oper} {K : Env → World → Prop} {rest : List (Oper × Option Bool)} {ρ : Env} {w : World} {b : Option Bool} {d : Nat} {T T' : TypeId} {pos : String} {af : Array Edge} {x y : Operand} {k : IntKind} {m m' : Int} {T'' : TypeId}
  (hx : ev ρ x = .int k m) (hy : ev ρ y = .int k m') (hd : m ≠ m') (h : RR P S ops K rest (upd ρ d (.bool true)) w) : RR P S ops K ((⟨some d, .binOp .neq T' x y T'', T, pos, af, none⟩, b) :: rest) ρ w :=
 ja hx hy (by rw [decide_eq_true hd]; exact h)
end Go.Proofs.Ytppipmkpmmdcjaa
namespace Go.Proofs.Ytppipmkpmmdcjaa
open Go.W Go.LM Go.LA
set_option maxHeartbeats 2000000 in
theorem dU {r c : Nat} {w : World} (hr : r ≤ 1000) (hc : c ≤ 1000) :
  CallsR Try.prog 4 #[.int .i64 (r : Int), .int .i64 (c : Int)] w (RetMO 0 w r c fun _ _ => 0) := by
 refine aJ (args := [_, _]) Try.func4 rfl rfl ?_
 repeat' (first|refine ep (n := r) rfl rfl (by omega) (by omega) (fun g w1 hn1 => ⟨fun _ _ => trivial, ?_⟩)|refine ai rfl ?_|refine aa ?_|refine ao ?_|refine ah rfl ?_|refine ae ?_|refine bn rfl ?_|refine aC ?_)
 refine bh (ι := Nat × (Nat → Nat) × (Nat → Nat)) [6, 11, 12, 13, 14, 15, 16, 17, 18, 19] (fun t => [(11, .int .i64 (t.1 : Int))])
  (fun t w' => t.1 ≤ r ∧ Ex w w' ∧ MP true 0 w' w.heap.size g r c t.1 t.2.1 t.2.2 (fun _ _ => 0)) (fun t => r - t.1)
  (0, fun _ => 0, fun _ => 0) ⟨rfl, trivial⟩ ⟨by simp only; omega, hn1.ex, MP.start hn1.blk hn1.lo⟩ ?_
 rintro ⟨i, gs, cp⟩ ξ w2 ⟨hi, hE2, hP2⟩
 simp only at hi hP2
 show CW _ _ _ _ (over [(11, .int .i64 (i : Int))] _) w2
 rcases Nat.lt_or_ge i r with hir | hir
 ·repeat' (first|refine bA rfl rfl (by omega) ?_|refine dS (n := c) rfl rfl (by omega) (by omega) (fun g3 w3 hn3 => ⟨fun _ _ => trivial, ?_⟩)|refine aB (j := i) (a := some ⟨g, 0, none⟩) rfl rfl ⟨_, _, rfl⟩ (by omega) ?_|refine ai rfl ?_|refine aa ?_|refine ao ?_|refine ah rfl ?_|refine ae ?_|refine aE rfl ?_|refine aC ?_|refine aI ?_)
  refine bY (j := i) (u := ⟨some ⟨g3, 0, none⟩, c, c⟩) rfl rfl (hP2.top.ext hn3.ex) (by omega) (fun w4 hc4 hT4 => ⟨fun _ _ => trivial, ?_⟩)
  have s2 := hE2.size
  have lo3 := hn3.lo
  have low := hP2.low
  obtain ⟨hb4, hne3, hT4', hnext⟩ := hP2.snoc hn3 hc4 hT4 (by omega)
  have hE4 := (hE2.trans hn3.ex).chg hc4 low
  repeat' (first|refine ai rfl ?_|refine aa ?_|refine ah rfl ?_|refine ae ?_|refine bi rfl rfl (by omega) (by omega) ?_|refine aM ?_)
  exact ⟨⟨(i + 1, setF gs i g3, setF cp i c), ⟨hir, hE4, (hnext w4 (qJ (Ex.refl _))).2 ⟨by omega, Nat.le_refl _, fun _ => ih0, hb4, fun j _ => jQ _⟩⟩, by simp only; omega, rfl, trivial⟩, (by (repeat (first|exact aF _ _ _|refine ay rfl ?_|refine av rfl ?_|refine aj rfl ?_|refine ak rfl ?_)))⟩
 ·have eir : r = i := by omega
  subst eir
  repeat' (first|refine bz rfl rfl (by omega) ?_|refine ai rfl ?_|refine aa ?_|refine ao ?_|refine ah rfl ?_|refine ae ?_|refine aA rfl ?_|refine aW ?_|refine aO ?_|refine aX ?_|refine aT ?_)
  exact bF rfl (rt rfl) ⟨g, gs, cp, rfl, hP2.fin, hE2⟩
end Go.Proofs.Ytppipmkpmmdcjaa
namespace Go.Proofs.Ytppipmkpmmdcjaa
open Go.W Go.LM Go.LA
section
variable {K lo gp r c g g' : Nat} {w w' : World} {gs cp gs' cp' : Nat → Nat} {H U H' U' : Mat}
end
theorem km (M : Mat) (t p q a b : Nat) : (if a < t + 1 then cswp M p q a b else M a b) = setM (setM (fun a b => if a < t then cswp M p q a b else M a b) t p (M t q)) t q (M t p) a b := by
 by_cases h1 : a = t
 ·subst h1
  by_cases h2 : b = q
  ·subst h2
   by_cases h3 : b = p
   ·subst h3; simp [setM, cswp]
   ·simp [setM, cswp, h3]
  ·by_cases h3 : b = p
   ·subst h3; simp [setM, cswp, h2]
   ·simp [setM, cswp, h2, h3]
 ·by_cases h2 : a < t
  ·have h4 : a < t + 1 := by omega
   simp [setM, h1, h2, h4]
  ·have h4 : ¬ a < t + 1 := by omega
   simp [setM, h1, h2, h4]
end Go.Proofs.Ytppipmkpmmdcjaa
namespace Go.Proofs.Ytppipmkpmmdcjaa
open Go.W Go.LM Go.LA
set_option maxHeartbeats 4000000 in
theorem jK {K Ku lo ge r c gd gu gv t p q : Nat} {w : World} {lab : Nat → Nat} {D : Mat} (hE : EL K Ku w lab lo ge r c gd gu gv D) (hr : r ≤ 1000) (hc : c ≤ 1000) (htr : t < r) (hpr : p < r) (htc : t < c) (hqc : q < c) :
  CallsR Try.prog 38 #[.pointer (some ⟨ge, 0, none⟩), .int .i64 (t : Int), .int .i64 (p : Int), .int .i64 (q : Int)] w fun _ w' => Fe lo w w' ∧ EL K Ku w' lab lo ge r c gd gu gv (cswp (fun a b => D (swp2 t p a) b) t q) := by
 obtain ⟨s, cp, hM, hlab⟩ := hE.d
 have hb := hE.blk
 refine aJ (args := [_, _, _, _]) Try.func38 rfl rfl ?_
 repeat' (first|refine ao ?_)
 refine aZ (late := [25, 27]) (plan := [(0, none), (1, none), (2, none), (3, none), (4, none), (5, none), (6, none), (7, none), (8, none), (9, none), (10, none), (11, none), (12, none), (13, none), (14, none), (15, none), (16, none), (17, none), (18, none), (19, none), (20, none), (21, none), (22, none), (23, none), (24, none), (25, some false), (26, none), (27, some false)]) (fun w' => Ex w w') bt (by kernel_rfl) (Ex.refl w).drew ?_
 have hEd0 := (Ex.refl w).drew
 repeat' (first|refine aV (g := ge) (cs := elL gd gu gv r c) rfl (fun _ h => hb.ext h) rfl ?_|refine aB (j := p) (a := some ⟨gd, 0, none⟩) rfl rfl ⟨_, _, rfl⟩ (by omega) ?_|refine aB (j := t) (a := some ⟨gd, 0, none⟩) rfl rfl ⟨_, _, rfl⟩ (by omega) ?_|refine aS (j := p) (a := some ⟨gd, 0, none⟩) (n := r) (s := fun k => ⟨some ⟨s k, 0, none⟩, c, cp k⟩) rfl (fun _ h => (hM.ext h).top.sl) (by omega) rfl ?_|refine aS (j := t) (a := some ⟨gd, 0, none⟩) (n := r) (s := fun k => ⟨some ⟨s k, 0, none⟩, c, cp k⟩) rfl (fun _ h => (hM.ext h).top.sl) (by omega) rfl ?_|refine ai rfl ?_|refine aL rfl ?_)
 refine bY (j := t) (u := ⟨some ⟨s p, 0, none⟩, c, cp p⟩) rfl rfl (hM.ext hEd0).top (by omega) (fun w1a hc1a hT1a => ⟨fun h => (nomatch h), ?_⟩)
 repeat' (first|refine aB (j := p) (a := some ⟨gd, 0, none⟩) rfl rfl ⟨_, _, rfl⟩ (by omega) ?_)
 refine bY (j := p) (u := ⟨some ⟨s t, 0, none⟩, c, cp t⟩) rfl rfl hT1a (by omega) (fun w1 hc1 hT1 => ⟨fun h => (nomatch h), ?_⟩)
 have hS1 := (hM.ext hEd0).swap htr hpr hc1a hc1 hT1
 have hF1 : Fr (fun b => b = gd) w w1 := Fr.trans (Fr.trans (Ex.fr hEd0) (Chg.fr (F := fun b => b = gd) hc1a rfl)) (Chg.fr (F := fun b => b = gd) hc1 rfl)
 have hE1 : EL K Ku w1 lab lo ge r c gd gu gv (fun a => D (swp2 t p a)) := hE.setD hM.noT hF1 (fun b e => by rw [e]; exact hE.l1) ⟨_, _, hS1, fun i hi => hlab _ (dH htr hpr hi)⟩
 have hFe1 : Fe lo w w1 := Fe.fr hF1 fun k e => by rw [e]; exact hM.low
 obtain ⟨su, cpu, U, hU, hlu⟩ := hE1.u
 have hb1 := hE1.blk
 repeat' (first|refine aa ?_|refine ao ?_|refine ae ?_)
 refine aZ (late := [25, 27]) (plan := [(0, none), (1, none), (2, none), (3, none), (4, none), (5, none), (6, none), (7, none), (8, none), (9, none), (10, none), (11, none), (12, none), (13, none), (14, none), (15, none), (16, none), (17, none), (18, none), (19, none), (20, none), (21, none), (22, none), (23, none), (24, none), (25, some false), (26, none), (27, some false)]) (fun w' => Ex w1 w') bt (by kernel_rfl) (Ex.refl w1).drew ?_
 have hEd1 := (Ex.refl w1).drew
 repeat' (first|refine aV (g := ge) (cs := elL gd gu gv r c) rfl (fun _ h => hb1.ext h) rfl ?_|refine aB (j := p) (a := some ⟨gu, 0, none⟩) rfl rfl ⟨_, _, rfl⟩ (by omega) ?_|refine aB (j := t) (a := some ⟨gu, 0, none⟩) rfl rfl ⟨_, _, rfl⟩ (by omega) ?_|refine aS (j := p) (a := some ⟨gu, 0, none⟩) (n := r) (s := fun k => ⟨some ⟨su k, 0, none⟩, r, cpu k⟩) rfl (fun _ h => (hU.ext h).top.sl) (by omega) rfl ?_|refine aS (j := t) (a := some ⟨gu, 0, none⟩) (n := r) (s := fun k => ⟨some ⟨su k, 0, none⟩, r, cpu k⟩) rfl (fun _ h => (hU.ext h).top.sl) (by omega) rfl ?_|refine ai rfl ?_|refine aL rfl ?_)
 refine bY (j := t) (u := ⟨some ⟨su p, 0, none⟩, r, cpu p⟩) rfl rfl (hU.ext hEd1).top (by omega) (fun w5a hc5a hT5a => ⟨fun h => (nomatch h), ?_⟩)
 repeat' (first|refine aB (j := p) (a := some ⟨gu, 0, none⟩) rfl rfl ⟨_, _, rfl⟩ (by omega) ?_)
 refine bY (j := p) (u := ⟨some ⟨su t, 0, none⟩, r, cpu t⟩) rfl rfl hT5a (by omega) (fun w5 hc5 hT5 => ⟨fun h => (nomatch h), ?_⟩)
 have hS5 := (hU.ext hEd1).swap htr hpr hc5a hc5 hT5
 have hF5 : Fr (fun b => b = gu) w1 w5 := Fr.trans (Fr.trans (Ex.fr hEd1) (Chg.fr (F := fun b => b = gu) hc5a rfl)) (Chg.fr (F := fun b => b = gu) hc5 rfl)
 have hE5 : EL K Ku w5 lab lo ge r c gd gu gv (fun a => D (swp2 t p a)) := hE1.setU hU.noT hF5 (fun b e => by rw [e]; exact hE.l2) (Nat.le_refl _) ⟨_, _, _, hS5, fun i hi => hlu _ (dH htr hpr hi)⟩
 have hFe5 : Fe lo w w5 := hFe1.trans (Fe.fr hF5 fun k e => by rw [e]; exact hU.low)
 clear hS1 hS5 hF1 hF5 hM hU hb1 hE1 hFe1
 obtain ⟨s6, cp6, hM6, hl6⟩ := hE5.d
 obtain ⟨D1, hD1⟩ : ∃ D1 : Mat, D1 = fun a b => D (swp2 t p a) b := ⟨_, rfl⟩
 rw [← hD1] at hE5 hM6 ⊢
 repeat' (first|refine aV (g := ge) (cs := elL gd gu gv r c) rfl hE5.blk rfl ?_|refine ai rfl ?_|refine aa ?_|refine ao ?_|refine ah rfl ?_|refine ae ?_|refine bn rfl ?_|refine aL rfl ?_|refine aC ?_)
 refine bh (ι := Nat) [9, 69, 70, 71, 72, 73, 74, 75, 76, 77, 78, 79, 80, 81, 82, 83, 84, 85, 86, 87] (fun x => [(69, .int .i64 (x : Int))])
  (fun x w' => x ≤ r ∧ Fr (rowsB r s6) w5 w' ∧ MO true K w' lo gd r c s6 cp6 (fun a b => if a < x then (cswp D1 t q) a b else D1 a b)) (fun x => r - x)
  0 ⟨rfl, trivial⟩ ⟨by omega, Fr.refl _ _, hM6.congr (fun a b _ _ => if_neg (by omega))⟩ ?_
 rintro x ξ0 w2 ⟨hx, hF2, hO2⟩
 show CW _ _ _ _ (over [(69, .int .i64 (x : Int))] _) w2
 rcases Nat.lt_or_ge x r with hxn | hxn
 ·obtain ⟨hh, hbr, hcr, hEr⟩ := hO2.get hxn
  simp only [Nat.lt_irrefl, if_false] at hEr
  repeat' (first|refine bA rfl rfl (by omega) ?_|refine aa ?_|refine ao ?_|refine ah rfl ?_|refine ae ?_|refine aE rfl ?_|refine aI ?_)
  refine aC ?_
  repeat' (first|refine aB (j := x) (a := some ⟨gd, 0, none⟩) rfl rfl ⟨_, _, rfl⟩ (by omega) ?_|refine aS (j := x) (a := some ⟨gd, 0, none⟩) (n := r) (s := fun k => ⟨some ⟨s6 k, 0, none⟩, c, cp6 k⟩) rfl hO2.top.sl (by omega) rfl ?_|refine ai rfl ?_|refine aa ?_|refine ao ?_|refine ah rfl ?_|refine ae ?_)
  refine aZ (late := [13, 15]) (plan := [(0, none), (1, none), (2, none), (3, none), (4, none), (5, none), (6, none), (7, none), (8, none), (9, none), (10, none), (11, none), (12, none), (13, some false), (14, none), (15, some false)]) (fun w' => Ex w2 w') bt (by kernel_rfl) (Ex.refl w2).drew ?_
  have hEd := (Ex.refl w2).drew
  repeat' (first|refine aU (j := q) (a := some ⟨s6 x, 0, none⟩) rfl rfl ⟨_, _, rfl⟩ (by omega) ?_|refine aU (j := t) (a := some ⟨s6 x, 0, none⟩) rfl rfl ⟨_, _, rfl⟩ (by omega) ?_|refine bp (j := q) (n := cp6 x) (a := some ⟨s6 x, 0, none⟩) rfl (fun _ h => (hbr.ext h).sl) ⟨_, _, rfl⟩ (by omega) ?_|refine bp (j := t) (n := cp6 x) (a := some ⟨s6 x, 0, none⟩) rfl (fun _ h => (hbr.ext h).sl) ⟨_, _, rfl⟩ (by omega) ?_|refine ai rfl ?_)
  refine bP (j := t) (n := cp6 x) (u := hh q) rfl rfl (hbr.ext hEd) (by omega) (fun w3 hc3 hb3 => ⟨fun h => (nomatch h), ?_⟩)
  have hO3 := (hO2.ext hEd).put (j := t) hxn (hbr.ext hEd) (fun j hj => by simp only [Nat.lt_irrefl, if_false]; exact (hEr j hj).ext hEd) ((hEr q hqc).ext hEd) hc3 hb3
  repeat' (first|refine aU (j := q) (a := some ⟨s6 x, 0, none⟩) rfl rfl ⟨_, _, rfl⟩ (by omega) ?_)
  refine bP (j := q) (n := cp6 x) (u := hh t) rfl rfl hb3 (by omega) (fun w4 hc4 hb4 => ⟨fun h => (nomatch h), ?_⟩)
  have hO4 := hO3.put (j := q) (u := hh t) (z := D1 x t) hxn hb3 (fun j hj => by
   unfold setM setF
   by_cases e : j = t
   ·subst e; rw [if_pos rfl, if_pos ⟨rfl, rfl⟩]; exact ((hEr q hqc).ext hEd).gbN (hbr.ext hEd) (bx _ _) (bc hc3)
   ·rw [if_neg e, if_neg (fun h => e h.2)]; simp only [Nat.lt_irrefl, if_false]; exact ((hEr j hj).ext hEd).gbN (hbr.ext hEd) (bx _ _) (bc hc3))
   (((hEr t htc).ext hEd).gbN (hbr.ext hEd) (bx _ _) (bc hc3)) hc4 hb4
  repeat' (first|refine ai rfl ?_|refine aa ?_|refine ah rfl ?_|refine ae ?_|refine bi rfl rfl (by omega) (by omega) ?_|refine aM ?_)
  refine ⟨⟨x + 1, ⟨hxn, ((hF2.trans hEd.fr).trans (hc3.fr ⟨x, hxn, rfl⟩)).trans (hc4.fr ⟨x, hxn, rfl⟩), hO4.congr (fun a b _ _ => km D1 x t q a b)⟩, by omega, rfl, trivial⟩, (by (repeat (first|exact aF _ _ _|refine ay rfl ?_|refine av rfl ?_|refine aj rfl ?_|refine ak rfl ?_)))⟩
 ·have exr : x = r := by omega
  have hE2 : EL K Ku w2 lab lo ge r c gd gu gv (cswp D1 t q) := hE5.setD hM6.noR hF2 (fun b ⟨k, hk, e⟩ => by rw [e]; exact hl6 k hk) ⟨s6, cp6, hO2.congr (fun a b ha _ => by rw [if_pos (by omega)]), hl6⟩
  have hFe2 : Fe lo w w2 := hFe5.trans (Fe.fr hF2 fun k ⟨i, hi, e⟩ => by rw [e]; exact (hM6.row i hi).low)
  obtain ⟨sv, cpv, V, hV, hlv⟩ := hE2.v
  clear hE5 hM6 hO2 hF2
  obtain ⟨w7, e7⟩ : ∃ w7, w7 = w2 := ⟨_, rfl⟩
  rw [← e7] at hE2 hFe2 hV ⊢
  clear e7
  repeat' (first|refine bz rfl rfl (by omega) ?_|refine aV (g := ge) (cs := elL gd gu gv r c) rfl hE2.blk rfl ?_|refine ai rfl ?_|refine aa ?_|refine ao ?_|refine ah rfl ?_|refine ae ?_|refine bn rfl ?_|refine aL rfl ?_|refine aA rfl ?_|refine aC ?_|refine aW ?_|refine aO ?_|refine aX ?_)
  refine bh (ι := Nat) [11, 93, 94, 95, 96, 97, 98, 99, 100, 101, 102, 103, 104, 105, 106, 107, 108, 109, 110, 111] (fun x => [(93, .int .i64 (x : Int))])
   (fun x w' => x ≤ c ∧ Fr (rowsB c sv) w7 w' ∧ MO true Ku w' lo gv c c sv cpv (fun a b => if a < x then (cswp V t q) a b else V a b)) (fun x => c - x)
   0 ⟨rfl, trivial⟩ ⟨by omega, Fr.refl _ _, hV.congr (fun a b _ _ => if_neg (by omega))⟩ ?_
  rintro x ξ1 w2 ⟨hx, hF2, hO2⟩
  show CW _ _ _ _ (over [(93, .int .i64 (x : Int))] _) w2
  rcases Nat.lt_or_ge x c with hxn | hxn
  ·obtain ⟨hh, hbr, hcr, hEr⟩ := hO2.get hxn
   simp only [Nat.lt_irrefl, if_false] at hEr
   repeat' (first|refine bA rfl rfl (by omega) ?_|refine aa ?_|refine ao ?_|refine ah rfl ?_|refine ae ?_|refine aE rfl ?_|refine aI ?_)
   refine aC ?_
   repeat' (first|refine aB (j := x) (a := some ⟨gv, 0, none⟩) rfl rfl ⟨_, _, rfl⟩ (by omega) ?_|refine aS (j := x) (a := some ⟨gv, 0, none⟩) (n := c) (s := fun k => ⟨some ⟨sv k, 0, none⟩, c, cpv k⟩) rfl hO2.top.sl (by omega) rfl ?_|refine ai rfl ?_|refine aa ?_|refine ao ?_|refine ah rfl ?_|refine ae ?_)
   refine aZ (late := [13, 15]) (plan := [(0, none), (1, none), (2, none), (3, none), (4, none), (5, none), (6, none), (7, none), (8, none), (9, none), (10, none), (11, none), (12, none), (13, some false), (14, none), (15, some false)]) (fun w' => Ex w2 w') bt (by kernel_rfl) (Ex.refl w2).drew ?_
   have hEd := (Ex.refl w2).drew
   repeat' (first|refine aU (j := q) (a := some ⟨sv x, 0, none⟩) rfl rfl ⟨_, _, rfl⟩ (by omega) ?_|refine aU (j := t) (a := some ⟨sv x, 0, none⟩) rfl rfl ⟨_, _, rfl⟩ (by omega) ?_|refine bp (j := q) (n := cpv x) (a := some ⟨sv x, 0, none⟩) rfl (fun _ h => (hbr.ext h).sl) ⟨_, _, rfl⟩ (by omega) ?_|refine bp (j := t) (n := cpv x) (a := some ⟨sv x, 0, none⟩) rfl (fun _ h => (hbr.ext h).sl) ⟨_, _, rfl⟩ (by omega) ?_|refine ai rfl ?_)
   refine bP (j := t) (n := cpv x) (u := hh q) rfl rfl (hbr.ext hEd) (by omega) (fun w3 hc3 hb3 => ⟨fun h => (nomatch h), ?_⟩)
   have hO3 := (hO2.ext hEd).put (j := t) hxn (hbr.ext hEd) (fun j hj => by simp only [Nat.lt_irrefl, if_false]; exact (hEr j hj).ext hEd) ((hEr q hqc).ext hEd) hc3 hb3
   repeat' (first|refine aU (j := q) (a := some ⟨sv x, 0, none⟩) rfl rfl ⟨_, _, rfl⟩ (by omega) ?_)
   refine bP (j := q) (n := cpv x) (u := hh t) rfl rfl hb3 (by omega) (fun w4 hc4 hb4 => ⟨fun h => (nomatch h), ?_⟩)
   have hO4 := hO3.put (j := q) (u := hh t) (z := V x t) hxn hb3 (fun j hj => by
    unfold setM setF
    by_cases e : j = t
    ·subst e; rw [if_pos rfl, if_pos ⟨rfl, rfl⟩]; exact ((hEr q hqc).ext hEd).gbN (hbr.ext hEd) (bx _ _) (bc hc3)
    ·rw [if_neg e, if_neg (fun h => e h.2)]; simp only [Nat.lt_irrefl, if_false]; exact ((hEr j hj).ext hEd).gbN (hbr.ext hEd) (bx _ _) (bc hc3))
    (((hEr t htc).ext hEd).gbN (hbr.ext hEd) (bx _ _) (bc hc3)) hc4 hb4
   repeat' (first|refine ai rfl ?_|refine aa ?_|refine ah rfl ?_|refine ae ?_|refine bi rfl rfl (by omega) (by omega) ?_|refine aM ?_)
   refine ⟨⟨x + 1, ⟨hxn, ((hF2.trans hEd.fr).trans (hc3.fr ⟨x, hxn, rfl⟩)).trans (hc4.fr ⟨x, hxn, rfl⟩), hO4.congr (fun a b _ _ => km V x t q a b)⟩, by omega, rfl, trivial⟩, (by (repeat (first|exact aF _ _ _|refine ay rfl ?_|refine av rfl ?_|refine aj rfl ?_|refine ak rfl ?_)))⟩
  ·have exc : x = c := by omega
   repeat' (first|refine bz rfl rfl (by omega) ?_|refine aa ?_|refine ao ?_|refine ah rfl ?_|refine ae ?_|refine aA rfl ?_|refine aW ?_|refine aO ?_|refine aX ?_)
   have hEL9 : EL K Ku w2 lab lo ge r c gd gu gv (cswp D1 t q) := hE2.setV hV.noR hF2 (fun b ⟨k, hk, e⟩ => by rw [e]; exact hlv k hk) (Nat.le_refl _) ⟨sv, cpv, cswp V t q, hO2.congr (fun a b ha _ => by rw [if_pos (by omega)]), hlv⟩
   exact im rfl ⟨hFe2.trans (Fe.fr hF2 fun k ⟨i, hi, e⟩ => by rw [e]; exact (hV.row i hi).low), hEL9⟩
end Go.Proofs.Ytppipmkpmmdcjaa
