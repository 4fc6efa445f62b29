import Derived.Test.YtiejljicpinheaaGreatE01
namespace Go.W
open Go.ChangeShapes Go.WideShapes Go.ChangeAt Go.RowKit
section
variable {H : Type} {enc : TypeId × Value → H} {P : Program} {W W' : World}
theorem uJ {t e : TypeId} {k : IntKind} {v : Value} {d : DataW H} {ps : List MemPlace} {r : Reach} {b0 : Nat} (ht : P.underlying t = some (.slice e)) (he : P.underlying e = some (.int k)) (hc : P.cellsOf e = 1)
  (hval : Value.okWide P W r b0 t v) (h : DataW.Trod enc P W 0 (fun _ => true) true t v d ps) :
  ∃ (a : Option Addr) (xs : List Int) (c : Nat), v = .slice a xs.length c ∧ Sl W a (xs.map (Value.int k)) ∧ (∀ x ∈ xs, (Lit.int k x).wf = true) ∧ xs.length ≤ c ∧ c ≤ 9223372036854775807 := by
 obtain ⟨a0, len, cap, rfl⟩ := okWide_slice ht hval
 obtain ⟨fuel, hf⟩ := h
 rcases open_ints ht he hc hf with ⟨hcs, hx⟩ | ⟨a, len', cap', zs, hcs, _, hl, hm, hz, hx, hcell, hwz⟩
 ·simp [Value.cells] at hcs
  obtain ⟨rfl, rfl, rfl⟩ := hcs
  exact ⟨none, [], 0, rfl, Sl.nil _ _, by simp, by simp, by decide⟩
 ·simp [Value.cells] at hcs
  obtain ⟨rfl, rfl, rfl⟩ := hcs
  simp only [if_true] at hz
  have hlen : (zs.take len).length = len := by simp; omega
  refine ⟨some a, zs.take len, cap, by rw [hlen], ⟨fun hne => ?_, fun j hj => ?_⟩, fun x hx => hwz x (List.mem_of_mem_take hx), by rw [hlen]; exact hl, by unfold maxLen at hm; omega⟩
  ·have h0 : 0 < zs.length := by
    rcases Nat.eq_zero_or_pos zs.length with h | h
    ·exact absurd (by rw [List.eq_nil_of_length_eq_zero h]; simp) hne
    ·exact h
   obtain ⟨b, off, spot⟩ := a
   have hspot : spot = none := by simpa [Addr.add] using World.cell?_spot (hcell 0 h0)
   subst hspot
   exact ⟨b, off, rfl⟩
  ·simp only [List.length_map, hlen] at hj
   have h0 : j < zs.length := by omega
   obtain ⟨b, off, spot⟩ := a
   have hspot : spot = none := by simpa [Addr.add] using World.cell?_spot (hcell 0 (by omega))
   subst hspot
   have := hcell j h0
   have e : (⟨b, off, none⟩ : Addr).add j = ⟨b, off + j, none⟩ := by unfold Addr.add; split <;> simp_all
   rw [e] at this
   simp only [elt]
   rw [this]
   simp [List.getD_eq_getElem?_getD, h0, hj]
end
end Go.W
namespace Go.Proofs.YtiejljicpinheaaGreat
end Go.Proofs.YtiejljicpinheaaGreat
namespace Go.LA
end Go.LA
namespace Go.Proofs.YtiejljicpinheaaGreat
open Go.W Go.LM Go.LA Go.PM
theorem wK {K r c lo g : Nat} {w : World} {gs cp : Nat → Nat} {F : Mat} (h : MO true K w lo g r c gs cp F) : AM K w (some ⟨g, 0, none⟩) r (fun i => ⟨some ⟨gs i, 0, none⟩, c, cp i⟩) F := h.mx.am
theorem wL {r c : Nat} {gs cp : Nat → Nat} (hr : 1 ≤ r ∧ r ≤ 16) (hc : 1 ≤ c ∧ c ≤ 16) : okS r (fun i => (⟨some ⟨gs i, 0, none⟩, c, cp i⟩ : SD)) := ⟨hr.1, hr.2, hc.1, hc.2, fun _ _ => rfl⟩
theorem wH {t t' : Bool} {p : Prop} (h : t = true ↔ p) (h' : t' = true ↔ p) : t = t' := by
 cases t <;> cases t' <;> simp_all
def IsfF (n : Nat) (s : Nat → SD) (A : Mat) (t : Bool) : Prop := t = true ↔ okS n s ∧ ∃ k p, HF n (s 0).len A k p
theorem wy {K n cap : Nat} {w : World} {a : Option Addr} {s : Nat → SD} {A : Mat} (hA : AM K w a n s A) : CallsR Tryz.prog 33 #[.slice a n cap] w fun v w' => ∃ t : Bool, v = .bool t ∧ IsfF n s A t ∧ Ex w w' := by
 by_cases ok : okS n s
 ·refine (rF (hA.mx ok) (iy ok) (gQ ok)).mono fun v w' h => ?_
  obtain ⟨t, rfl, ht, hE⟩ := h
  exact ⟨t, rfl, ⟨fun e => ⟨ok, ht.1 e⟩, fun e => ht.2 e.2⟩, hE⟩
 ·refine (sP hA.top ok).mono fun v w' h => ?_
  obtain ⟨rfl, hE⟩ := h
  exact ⟨false, rfl, ⟨fun e => (nomatch e), fun e => absurd e.1 ok⟩, hE⟩
end Go.Proofs.YtiejljicpinheaaGreat
namespace Go.Proofs.YtiejljicpinheaaGreat
open Go.W Go.LM Go.LA Go.PM
theorem wr {w : World} {lo lo' E n : Nat} {s : SD} {h : Nat → IH} (hR : RowG w lo E n s h) (hl : lo' ≤ lo) : RowG w lo' E n s h := by
 refine ⟨hR.1, ?_⟩
 rcases hR.2 with h0 | ⟨g, h1, h2, h3⟩
 ·exact .inl h0
 ·exact .inr ⟨g, h1, Nat.le_trans hl h2, h3⟩
theorem wJ {cn : Bool} {K : Nat} {w : World} {lo E n : Nat} {s : SD} {h : Nat → IH} {f : Nat → Int} (hR : RowG w lo E n s h) (he : ∀ i, i < n → Ent cn K w (h i).val (f i)) : RX cn K w s n f := by
 refine ⟨hR.1, ?_, h, hR.sl, he⟩
 rcases hR.2 with ⟨_, rfl⟩ | ⟨g, h1, h2, h3, _⟩
 ·exact Nat.zero_le _
 ·exact h3
def colF (L : List Int) : Vec := fun i => L.getD i 0
theorem wt {L : List Int} (h : I8 L) (i : Nat) : -128 ≤ colF L i ∧ colF L i ≤ 127 := h.getD _
set_option maxHeartbeats 2000000 in
theorem wu {n : Nat} {L : List Int} {la : Option Addr} {lc : Nat} {w : World} (hL : Sl w la (int8L L)) (hI : I8 L) (hn : n ≤ 1000) :
  CallsR Tryz.prog 73 #[.slice la L.length lc, .int .i64 (n : Int)] w fun v w' => ∃ g, v = .slice (some ⟨g, 0, none⟩) n n ∧ w.heap.size ≤ g ∧ Blk w' g 2 (intC n (colF L)) ∧ Ex w w' := by
 refine aF (args := [_, _]) Tryz.func73 rfl rfl ?_
 repeat' (first|refine cf (cs := tapeL la L.length lc 0) rfl ?_|refine ai rfl ?_|refine aa ?_|refine aj ?_|refine ah rfl ?_|refine ae ?_)
 refine bH (vs := tapeL la L.length lc 0) rfl (fun g5 w1 hn1 => ⟨fun _ _ => trivial, ?_⟩)
 repeat' (first|refine rK (n := n) rfl rfl (by omega) (by omega) (fun g w2 hn2 => ⟨fun _ _ => trivial, ?_⟩)|refine ai rfl ?_|refine aa ?_|refine aj ?_|refine ah rfl ?_|refine ae ?_|refine aZ rfl ?_|refine aA ?_)
 have l1 := hn1.lo
 have l2 := hn2.lo
 have s1 := hn1.ex.size
 have lb1 := hn1.blk.lt
 have hne : 0 < L.length → ∀ ad, la = some ad → ad.block ≠ g5 := fun h ad e => by have := hL.lt (by simpa using h) ad e; omega
 have hE02 := hn1.ex.trans hn2.ex
 refine aY (ι := Nat × (Nat → Int)) [7, 15, 16, 17, 18, 19, 20, 21, 22, 23] (fun t => [(15, .int .i64 (t.1 : Int))])
  (fun t w' => (t.1 ≤ n ∧ Ex w w') ∧ Blk w' g5 39 (tapeL la L.length lc (min t.1 L.length)) ∧ Blk w' g 2 (intC n t.2) ∧ ∀ l, l < t.1 → t.2 l = colF L l) (fun t => n - t.1)
  (0, fun _ => 0) ⟨rfl, trivial⟩ ⟨⟨by simp only; omega, hE02⟩, by simp only; rw [Nat.min_eq_left (Nat.zero_le _)]; exact hn1.blk.ext hn2.ex, hn2.blk, fun l h => by simp only at h; omega⟩ ?_
 rintro ⟨j, f⟩ ξ w3 ⟨⟨hj, hE3⟩, hT3, hR3, hf3⟩
 simp only at hj hT3 hR3 hf3
 show CW _ _ _ _ (over [(15, .int .i64 (j : Int))] _) w3
 rcases Nat.lt_or_ge j n with hjn | hjn
 ·repeat' (first|refine bu rfl rfl (by omega) ?_|refine ai rfl ?_|refine aa ?_|refine aj ?_|refine ah rfl ?_|refine ae ?_|refine az rfl ?_|refine aA ?_|refine aE ?_)
  refine aw (lh hT3 (hL.ext hE3) hI hne (Nat.min_le_right _ _)) rfl ?_
  rintro v w4 ⟨rfl, hc4, hT4⟩
  refine ⟨fun _ _ => trivial, ?_⟩
  have hR4 := hR3.chg hc4 (by omega)
  rw [nJ.1]
  rw [nJ.2] at hT4
  repeat' (first|refine aD (j := j) rfl rfl ⟨_, _, rfl⟩ hjn ?_|refine p6 (j := j) rfl rfl hR4 hjn (fun w5 hc5 hR5 => ⟨fun _ _ => trivial, ?_⟩)|refine ai rfl ?_|refine aa ?_|refine ah rfl ?_|refine ae ?_|refine bc rfl rfl (by omega) (by omega) ?_|refine aL ?_)
  refine ⟨⟨(j + 1, setF f j (L.getD j 0)), ⟨⟨hjn, (hE3.chg hc4 (by omega)).chg hc5 (by omega)⟩, hT4.chg hc5 (by omega), hR5, fun l hl => ?_⟩, by simp only; omega, rfl, trivial⟩, (by (repeat (first|exact aH _ _ _|refine ay rfl ?_|refine av rfl ?_|refine ak rfl ?_|refine ao rfl ?_)))⟩
  replace hl : l < j + 1 := hl
  show setF f j (L.getD j 0) l = _
  by_cases e : l = j
  ·subst e; rw [aS]; rfl
  ·rw [aX _ _ e]; exact hf3 l (by omega)
 ·obtain rfl : n = j := by omega
  repeat' (first|refine bj rfl rfl (by omega) ?_|refine ai rfl ?_|refine aa ?_|refine aj ?_|refine ah rfl ?_|refine ae ?_|refine au rfl ?_|refine aP ?_|refine aJ ?_|refine aQ ?_|refine aI ?_)
  exact bx rfl (rt rfl) ⟨g, rfl, by omega, by rw [← oD hf3]; exact hR3, hE3⟩
set_option maxHeartbeats 2000000 in
theorem wA {n : Nat} {L : List Int} {la : Option Addr} {lc : Nat} {w : World} (hL : Sl w la (int8L L)) (hI : I8 L) (hn : n ≤ 1000) :
  CallsR Tryz.prog 30 #[.slice la L.length lc, .int .i64 (n : Int)] w fun v w' => ∃ (sd : SD) (h : Nat → IH), v = .slice sd.a sd.len sd.cap ∧ RowG w' w.heap.size 43 n sd h ∧ (∀ i, i < n → Ent true 2 w' (h i).val (colF L i)) ∧ Ex w w' := by
 refine aF (args := [_, _]) Tryz.func30 rfl rfl ?_
 repeat' (first|refine ai rfl ?_|refine aa ?_|refine aj ?_|refine ah rfl ?_|refine ae ?_)
 refine aw (wu hL hI hn) rfl ?_
 rintro v w1 ⟨g, rfl, hlo, hb1, hE1⟩
 refine ⟨fun _ _ => trivial, ?_⟩
 have s1 := hE1.size
 repeat' (first|refine ai rfl ?_|refine aa ?_|refine ae ?_|refine aZ rfl ?_|refine aA ?_)
 refine aY (ι := Nat × SD × (Nat → IH)) [5, 7, 12, 13, 14, 15, 16, 17, 18, 19, 20, 21] (fun t => [(12, .int .i64 (t.1 : Int)), (5, .slice t.2.1.a t.2.1.len t.2.1.cap)])
  (fun t w' => (t.1 ≤ n ∧ Ex w w' ∧ Ex w1 w') ∧ RowG w' w1.heap.size 43 t.1 t.2.1 t.2.2 ∧ ∀ i, i < t.1 → Ent true 2 w' (t.2.2 i).val (colF L i)) (fun t => n - t.1)
  (0, sd0, fun _ => ih0) ⟨rfl, rfl, trivial⟩ ⟨⟨by simp only; omega, hE1, Ex.refl _⟩, RowG.nil _ _ _ _, fun i h => by simp only at h; omega⟩ ?_
 rintro ⟨i, sd, h⟩ ξ w2 ⟨⟨hi, hE2, hE12⟩, hR2, hEn2⟩
 simp only at hi hR2 hEn2
 show CW _ _ _ _ (over [(12, .int .i64 (i : Int)), (5, .slice sd.a sd.len sd.cap)] _) w2
 rcases Nat.lt_or_ge i n with hin | hin
 ·repeat' (first|refine bu rfl rfl (by omega) ?_|refine aD (j := i) (a := some ⟨g, 0, none⟩) rfl rfl ⟨_, _, rfl⟩ (by omega) ?_|refine rJ (j := i) (n := n) (f := colF L) rfl (hb1.ext hE12).sl hin ?_|refine ai rfl ?_|refine aa ?_|refine aj ?_|refine ah rfl ?_|refine ae ?_|refine az rfl ?_|refine aA ?_|refine aE ?_)
  have hfit := wt hI i
  refine aw (cT (by omega) (by omega) _) rfl ?_
  rintro v w3 ⟨hI3, hE3⟩
  refine ⟨fun _ _ => trivial, ?_⟩
  obtain ⟨u, rfl⟩ := hI3.ih
  have hR3 := RowG.ext hR2 hE3
  have hE13 := hE12.trans hE3
  have hE03 := hE2.trans hE3
  skip
  refine q9 (E := 43) rfl rfl rfl hR3 (by omega) (by omega) (by have := hE13.size; omega) ?_
  intro gt sd' h' w4 hR4 hf1 hf2 hG4 hA4
  repeat' (first|refine ai rfl ?_|refine aa ?_|refine ah rfl ?_|refine ae ?_|refine bc rfl rfl (by omega) (by omega) ?_|refine aL ?_)
  have own : ∀ q, (Value.slice sd.a sd.len sd.cap).ownBlock = some q → w1.heap.size ≤ q := fun q e => (RowG.bk hR3 q e).1
  refine ⟨⟨(i + 1, sd', h'), ⟨⟨hin, hE03.gb hG4 (fun q e => by have := own q e; omega), hE13.gb hG4 own⟩, hR4, fun k hk => ?_⟩, by simp only; omega, rfl, rfl, trivial⟩, (by (repeat (first|exact aH _ _ _|refine ay rfl ?_|refine av rfl ?_|refine ak rfl ?_|refine ao rfl ?_)))⟩
  simp only at hk ⊢
  by_cases e : k = i
  ·subst e; rw [hf2]; exact (Ent.of hI3 (by have e2 : (4294967296 : Nat) ^ 2 = 18446744073709551616 := rfl; omega)).gbR hR3 hG4
  ·rw [hf1 k (by omega)]; exact ((hEn2 k (by omega)).ext hE3).gbR hR3 hG4
 ·obtain rfl : n = i := by omega
  repeat' (first|refine bj rfl rfl (by omega) ?_|refine ai rfl ?_|refine aa ?_|refine aj ?_|refine ah rfl ?_|refine ae ?_|refine au rfl ?_|refine aP ?_|refine aJ ?_|refine aQ ?_|refine aI ?_)
  exact bx rfl (rt rfl) ⟨sd, h, rfl, wr hR2 s1, hEn2, hE2⟩
end Go.Proofs.YtiejljicpinheaaGreat
namespace Go.LA
theorem wY {c k k' : Nat} {U H' U' : Mat} {p' : Nat → Nat} (hU : Uni c U) (hk : k < c) (hC : CEq c (c - k) (fun i j => U i (k + j)) H' U') (hF : HF c (c - k) H' k' p') : k' = c - k := by
 have hkc := hF.kc
 rcases Nat.lt_or_ge k' (c - k) with hlt | hge
 ·exfalso
  have hx : ∀ r, r < c → (sm c fun j => U r j * (if j < k then 0 else U' (j - k) k')) = 0 := fun r hr => by
   have h0 := hF.rest k' (Nat.le_refl _) hlt r hr
   rw [hC.2 r k' hr hlt] at h0
   obtain ⟨m, rfl⟩ : ∃ m, c = k + m := ⟨c - k, by omega⟩
   rw [Nat.add_sub_cancel_left] at h0
   rw [fP, fE fun j hj => by rw [if_pos hj, Int.mul_zero], Int.zero_add]
   rw [← h0]
   exact bf fun j _ => by rw [if_neg (by omega), Nat.add_sub_cancel_left]
  have hz : ∀ l, l < c - k → U' l k' = 0 := fun l hl => by
   have := oO hU.ne (x := fun j => if j < k then 0 else U' (j - k) k') hx (show k + l < c by omega)
   rw [if_neg (by omega), Nat.add_sub_cancel_left] at this
   exact this
  exact hC.1.ne (f4 hlt hz)
 ·omega
theorem wZ {r c k k' : Nat} {A H U H' U' : Mat} {p : Nat → Nat} (hC : CEq r c A H U) (hF : HF r c H k p) (hC' : CEq c (c - k) (fun i j => U i (k + j)) H' U') (hk' : k' ≤ c - k) : ∀ i j, i < r → j < k' → mm c A H' i j = 0 := by
 intro i j hi hj
 have h1 : InL c (c - k) H' fun l => H' l j := InL.col H' (by omega)
 exact (HF.kernel hC hF _).2 ((hC'.inL _).1 h1) i hi
end Go.LA
namespace Go.LA
def RkD (R C : Nat) (A : Mat) (k : Nat) : Prop := ∃ P : Mat, ∀ x, x < C → ∃ (d : Int) (co : Vec), d ≠ 0 ∧ ∀ i, i < R → d * A i x = sm k fun a => P i a * co a
def RkM (R C : Nat) (A : Mat) (k : Nat) : Prop := ∃ (X : Mat) (ρ : Nat → Nat), (∀ a, a < k → ρ a < R) ∧ det k (fun a b => mm C A X (ρ a) b) ≠ 0
def Rk (R C : Nat) (A : Mat) (k : Nat) : Prop := RkD R C A k ∧ RkM R C A k
theorem wS {R k : Nat} {A P : Mat} : ∀ (C : Nat), (∀ x, x < C → ∃ (d : Int) (co : Vec), d ≠ 0 ∧ ∀ i, i < R → d * A i x = sm k fun a => P i a * co a) →
  ∃ (D : Int) (Y : Mat), D ≠ 0 ∧ ∀ i x, i < R → x < C → D * A i x = sm k fun a => P i a * Y a x
 | 0, _ => ⟨1, fun _ _ => 0, by omega, fun i x _ h => absurd h (Nat.not_lt_zero _)⟩
 | C + 1, h => by
  obtain ⟨D, Y, hD, hY⟩ := wS C fun x hx => h x (by omega)
  obtain ⟨d, co, hd, hco⟩ := h C (by omega)
  refine ⟨d * D, fun a x => if x = C then D * co a else d * Y a x, Int.mul_ne_zero hd hD, fun i x hi hx => ?_⟩
  by_cases e : x = C
  ·subst e
   rw [show d * D * A i x = D * (d * A i x) by grind, hco i hi, ← b9]
   exact bf fun a _ => by show _ = P i a * (if x = x then _ else _); rw [if_pos rfl]; grind
  ·rw [show d * D * A i x = d * (D * A i x) by grind, hY i x hi (by omega), ← b9]
   exact bf fun a _ => by show _ = P i a * (if x = C then _ else _); rw [if_neg e]; grind
theorem wW (n : Nat) (D : Int) (M : Mat) : det n (fun a b => D * M a b) = D ^ n * det n M := by
 have h : det n (fun a b => D * M a b) = det n (mm n (fun a b => D * idM a b) M) := bv fun a b ha _ => by
  show D * M a b = sm n fun k => D * idM a k * M k b
  rw [cw ha fun i _ hne => by rw [bI (Ne.symm hne)]; grind]
  rw [bF]; grind
 rw [h, dL, dF (fun r c _ hrc => by rw [bI (by omega)]; grind), gG n D fun i _ => by rw [bF]; grind]
theorem xg {R C k m : Nat} {A : Mat} (h : RkM R C A k) (h' : RkD R C A m) : k ≤ m := by
 refine Nat.le_of_not_lt fun hkm => ?_
 obtain ⟨X, ρ, hρ, hdet⟩ := h
 obtain ⟨P, hP⟩ := h'
 obtain ⟨D, Y, hD, hY⟩ := wS C hP
 have e : det k (fun a b => D * mm C A X (ρ a) b) = det k (mm k (fun a l => if l < m then P (ρ a) l else 0) (fun l b => if l < m then mm C Y X l b else 0)) := bv fun a b ha hb => by
  obtain ⟨q, rfl⟩ : ∃ q, k = m + q := ⟨k - m, by omega⟩
  show D * mm C A X (ρ a) b = sm (m + q) fun l => (if l < m then P (ρ a) l else 0) * (if l < m then mm C Y X l b else 0)
  rw [fP, fE (n := q) fun i _ => by rw [if_neg (by omega)]; exact Int.zero_mul _, Int.add_zero]
  show D * sm C (fun x => A (ρ a) x * X x b) = _
  rw [← b9, bf (g := fun x => sm m fun l => P (ρ a) l * (Y l x * X x b)) fun x hx => by
   rw [← Int.mul_assoc, hY _ x (hρ a ha) hx, ← fm]
   exact bf fun l _ => Int.mul_assoc _ _ _]
  rw [fZ]
  exact bf fun l hl => by rw [if_pos hl, if_pos hl, b9]; rfl
 rw [wW, dL, f4 (n := k) (j := m) (M := fun a l => if l < m then P (ρ a) l else 0) hkm fun r _ => if_neg (Nat.lt_irrefl m), Int.zero_mul] at e
 rcases Int.mul_eq_zero.1 e with h | h
 ·exact nV hD k h
 ·exact hdet h
theorem Rk.unique {R C k m : Nat} {A : Mat} (h : Rk R C A k) (h' : Rk R C A m) : k = m := Nat.le_antisymm (xg h.2 h'.1) (xg h'.2 h.1)
theorem HF.rk {R C k : Nat} {A H U : Mat} {p : Nat → Nat} (h : HF R C H k p) (hU : CEq R C A H U) : Rk R C A k := by
 refine ⟨⟨H, fun x hx => ⟨1, fun a => uinv C U a x, by omega, fun i hi => ?_⟩⟩, ⟨U, p, h.lt, ?_⟩⟩
 ·rw [Int.one_mul]
  have e1 : mm C (mm C A U) (uinv C U) i x = A i x := by
   rw [iH, ep (A' := A) (B' := idM) (fun _ _ => rfl) fun l hl => hU.1.mul_inv hl hx, qv A i x hx]
  rw [← e1]
  have e2 : mm C (mm C A U) (uinv C U) i x = mv C H (fun a => uinv C U a x) i := bf fun l hl => by rw [hU.2 i l hi hl]
  rw [e2, h.mvk _ hi]; rfl
 ·rw [bv (M' := fun a b => H (p a) b) fun a b ha hb => by rw [hU.2 _ _ (h.lt a ha) (by have := h.kc; omega)]]
  rw [dF fun r c hc hrc => h.zero c hc _ (h.mono r c hrc hc)]
  have : ∀ n, n ≤ k → pr n (fun i => H (p i) i) ≠ 0 := fun n => by
   induction n with
   | zero => intro _; show (1 : Int) ≠ 0; omega
   | succ n ih => intro hn; show pr n _ * _ ≠ 0; exact Int.mul_ne_zero (ih (by omega)) (Int.ne_of_gt (h.pos n (by omega)))
  exact this k (Nat.le_refl _)
structure RbJ (R C : Nat) (A : Mat) (k : Nat) (B : Mat) (last : Int) (ρ γ : Nat → Nat) : Prop where
 kzr : k ≤ R
 kc : k ≤ C
 rlt : ∀ i, i < R → ρ i < R
 rin : ∀ i, i < R → ∃ i', i' < R ∧ ρ i' = i
 clt : ∀ j, j < C → γ j < C
 cin : ∀ j, j < C → ∃ j', j' < C ∧ γ j' = j
 ld : det k (fun a b => A (ρ a) (γ b)) = last
 ne : last ≠ 0
 val : ∀ i j, k ≤ i → i < R → k ≤ j → j < C → B i j = bm (fun a b => A (ρ a) (γ b)) k i j
theorem wX {R C : Nat} {A B : Mat} (h : ∀ i j, i < R → j < C → B i j = A i j) : RbJ R C A 0 B 1 id id :=
 ⟨Nat.zero_le _, Nat.zero_le _, fun _ h => h, fun i h => ⟨i, h, rfl⟩, fun _ h => h, fun i h => ⟨i, h, rfl⟩, rfl, by omega, fun i j _ hi _ hj => by rw [rZ]; exact h i j hi hj⟩
def trn (k p i : Nat) : Nat := if i = k then p else if i = p then k else i
theorem wO {k p i n : Nat} (hk : k < n) (hp : p < n) (hi : i < n) : trn k p i < n := by unfold trn; split; exact hp; split <;> omega
theorem wV (k p i : Nat) : trn k p (trn k p i) = i := by unfold trn; repeat' split
                                                         all_goals omega
theorem wQ {k p i : Nat} (hp : k ≤ p) (hi : i < k) : trn k p i = i := by unfold trn; rw [if_neg (by omega), if_neg (by omega)]
theorem xe {k p i : Nat} (hp : k ≤ p) (hi : k ≤ i) : k ≤ trn k p i := by unfold trn; split; exact hp; split <;> omega
theorem RbJ.rows {R C k p : Nat} {A B B' : Mat} {last : Int} {ρ γ : Nat → Nat} (h : RbJ R C A k B last ρ γ) (hp : k ≤ p) (hpR : p < R) (hB : ∀ i j, i < R → j < C → B' i j = B (trn k p i) j) : RbJ R C A k B' last (fun i => ρ (trn k p i)) γ := by
 have hk : k < R := by omega
 refine ⟨h.kzr, h.kc, fun i hi => h.rlt _ (wO hk hpR hi), fun i hi => ?_, h.clt, h.cin, ?_, h.ne, fun i j h1 h2 h3 h4 => ?_⟩
 ·obtain ⟨i', h1, h2⟩ := h.rin i hi
  exact ⟨trn k p i', wO hk hpR h1, by show ρ (trn k p (trn k p i')) = i; rw [wV]; exact h2⟩
 ·rw [← h.ld]; exact bv fun a b ha _ => by rw [wQ hp ha]
 ·rw [hB i j h2 h4, h.val _ j (xe hp h1) (wO hk hpR h2) h3 h4]
  unfold bm
  refine bv fun a b ha hb => ?_
  unfold brd
  by_cases e : a < k
  ·rw [if_pos e, if_pos e]; show _ = A (ρ (trn k p a)) _; rw [wQ hp e]
  ·rw [if_neg e, if_neg e]
theorem RbJ.cols {R C k p : Nat} {A B B' : Mat} {last : Int} {ρ γ : Nat → Nat} (h : RbJ R C A k B last ρ γ) (hp : k ≤ p) (hpC : p < C) (hB : ∀ i j, i < R → j < C → B' i j = B i (trn k p j)) : RbJ R C A k B' last ρ (fun j => γ (trn k p j)) := by
 have hk : k < C := by omega
 refine ⟨h.kzr, h.kc, h.rlt, h.rin, fun i hi => h.clt _ (wO hk hpC hi), fun i hi => ?_, ?_, h.ne, fun i j h1 h2 h3 h4 => ?_⟩
 ·obtain ⟨i', h1, h2⟩ := h.cin i hi
  exact ⟨trn k p i', wO hk hpC h1, by show γ (trn k p (trn k p i')) = i; rw [wV]; exact h2⟩
 ·rw [← h.ld]; exact bv fun a b _ hb => by rw [wQ hp hb]
 ·rw [hB i j h2 h4, h.val i _ h1 h2 (xe hp h3) (wO hk hpC h4)]
  unfold bm
  refine bv fun a b ha hb => ?_
  unfold brd
  by_cases e : b < k
  ·rw [if_pos e, if_pos e]; show _ = A _ (γ (trn k p b)); rw [wQ hp e]
  ·rw [if_neg e, if_neg e]
theorem RbJ.exact {R C k : Nat} {A B : Mat} {last : Int} {ρ γ : Nat → Nat} (h : RbJ R C A k B last ρ γ) (hkR : k < R) (hkC : k < C) {i j : Nat} (hi : k ≤ i) (hin : i < R) (hj : k ≤ j) (hjn : j < C) :
  (B k k * B i j - B i k * B k j) = bm (fun a b => A (ρ a) (γ b)) (k + 1) i j * last := by
 rw [h.val k k (Nat.le_refl _) hkR (Nat.le_refl _) hkC, h.val i j hi hin hj hjn, h.val i k hi hin (Nat.le_refl _) hkC, h.val k j (Nat.le_refl _) hkR hj hjn]
 have := mj (M := fun a b => A (ρ a) (γ b)) (k := k) (by rw [h.ld]; exact h.ne) i j
 rw [h.ld] at this
 exact this.symm
theorem RbJ.step {R C k : Nat} {A B B' : Mat} {last : Int} {ρ γ : Nat → Nat} (h : RbJ R C A k B last ρ γ) (hkR : k < R) (hkC : k < C) (hz : B k k ≠ 0) (hB : ∀ i j, k < i → i < R → k < j → j < C → B' i j = (B k k * B i j - B i k * B k j) / last) :
  RbJ R C A (k + 1) B' (B k k) ρ γ := by
 refine ⟨hkR, hkC, h.rlt, h.rin, h.clt, h.cin, ?_, hz, fun i j h1 h2 h3 h4 => ?_⟩
 ·rw [h.val k k (Nat.le_refl _) hkR (Nat.le_refl _) hkC, r7]
 ·rw [hB i j (by omega) h2 (by omega) h4, h.exact hkR hkC (by omega) h2 (by omega) h4, Int.mul_ediv_cancel _ h.ne]
theorem RbJ.fin {R C k : Nat} {A B : Mat} {last : Int} {ρ γ : Nat → Nat} (h : RbJ R C A k B last ρ γ) (hz : ∀ i j, k ≤ i → i < R → k ≤ j → j < C → B i j = 0) : Rk R C A k := by
 have hdet : det k (fun a b => (fun a b => A (ρ a) (γ b) : Mat) a ((id : Nat → Nat) b)) ≠ 0 := by show det k (fun a b => A (ρ a) (γ b)) ≠ 0; rw [h.ld]; exact h.ne
 refine ⟨⟨fun i a => A i (γ a), fun x hx => ?_⟩, ⟨fun x b => idM x (γ b), ρ, fun a ha => h.rlt a (by have := h.kzr; omega), ?_⟩⟩
 ·obtain ⟨j, hj, rfl⟩ := h.cin x hx
  have hfin : ∀ i, i < R → (∃ i', i' < R ∧ ρ i' = i) := h.rin
  by_cases hjk : j < k
  ·exact ⟨1, fun a => idM a j, by omega, fun i hi => by
    rw [cw hjk fun a _ hne => by show A i (γ a) * idM a j = 0; rw [bI hne, Int.mul_zero]]
    show 1 * A i (γ j) = A i (γ j) * idM j j; rw [bF]; omega⟩
  ·obtain ⟨co, hco⟩ := tO (N := fun a b => A (ρ a) (γ b)) (l := id) (c := R) (x := j) hdet fun i hi hin => by
    have := hz i j hi hin (by omega) hj
    rw [h.val i j hi hin (by omega) hj] at this
    exact this
   refine ⟨_, co, hdet, fun i hi => ?_⟩
   obtain ⟨i', h1, rfl⟩ := hfin i hi
   rw [hco i' h1]
   exact bf fun a _ => Int.mul_comm _ _
 ·rw [bv (M' := fun a b => A (ρ a) (γ b)) fun a b ha hb => by
   show sm C (fun x => A (ρ a) x * idM x (γ b)) = _
   rw [cw (h.clt b (by have := h.kc; omega)) fun x _ hne => by rw [bI hne, Int.mul_zero]]
   rw [bF, Int.mul_one], h.ld]
  exact h.ne
end Go.LA
namespace Go.LA
theorem RbJ.abs {R C k b : Nat} {A B : Mat} {last : Int} {ρ γ : Nat → Nat} (h : RbJ R C A k B last ρ γ) (hb : ∀ r c, r < R → c < C → (A r c).natAbs ≤ b) : ∀ i j, k ≤ i → i < R → k ≤ j → j < C → (B i j).natAbs ≤ ((k + 1) * b) ^ (k + 1) := by
 intro i j h1 h2 h3 h4
 have hkr := h.kzr
 have hkc := h.kc
 rw [h.val i j h1 h2 h3 h4]
 refine jU fun x y hx hy => ?_
 unfold brd
 exact hb _ _ (h.rlt _ (by split <;> omega)) (h.clt _ (by split <;> omega))
end Go.LA
namespace Go.Proofs.YtiejljicpinheaaGreat
open Go.W Go.LM Go.LA
theorem RbJ.lb {R C k K : Nat} {A B : Mat} {last : Int} {ρ γ : Nat → Nat} (h : RbJ R C A k B last ρ γ) (hb : ∀ r c, r < R → c < C → Lb K (A r c)) (hR : R ≤ 16) : ∀ i j, k ≤ i → i < R → k ≤ j → j < C → Lb (16 * K + 17) (B i j) := by
 intro i j h1 h2 h3 h4
 have h5 := RbJ.abs h (b := 4294967296 ^ K) (fun r c hr hc => Nat.le_of_lt (hb r c hr hc)) i j h1 h2 h3 h4
 have hm : k + 1 ≤ 16 := by omega
 unfold Lb
 refine Nat.lt_of_le_of_lt h5 ?_
 have e1 : (k + 1) * 4294967296 ^ K ≤ 4294967296 ^ (K + 1) := by rw [Nat.pow_succ, Nat.mul_comm]; exact Nat.mul_le_mul_left _ (by omega)
 have e2 := Nat.pow_le_pow_left e1 (k + 1)
 rw [← Nat.pow_mul] at e2
 refine Nat.lt_of_le_of_lt e2 (Nat.pow_lt_pow_right (by decide) ?_)
 have : (K + 1) * (k + 1) ≤ (K + 1) * 16 := Nat.mul_le_mul_left _ hm
 omega
theorem wU (p k i : Nat) : swp2 p k i = trn k p i := by
 unfold swp2 trn
 by_cases h1 : i = p
 ·by_cases h2 : i = k
  ·rw [if_pos h1, if_pos h2]; omega
  ·rw [if_pos h1, if_neg h2, if_pos h1]
 ·by_cases h2 : i = k
  ·rw [if_neg h1, if_pos h2, if_pos h2]
  ·rw [if_neg h1, if_neg h2, if_neg h2, if_neg h1]
set_option maxHeartbeats 2000000 in
theorem wR {cn : Bool} {K r c k cap : Nat} {w : World} {a : Option Addr} {s : Nat → SD} {F : Mat} (hM : MX cn K w a r c s F) (hr : 1 ≤ r ∧ r ≤ 1000) (hc : 1 ≤ c ∧ c ≤ 1000) (_hk : k ≤ 1000) :
  CallsR Tryz.prog 70 #[.slice a r cap, .int .i64 (k : Int)] w fun v w' => ∃ (i j : Nat) (t : Bool), v = .tuple #[.int .i64 (i : Int), .int .i64 (j : Int), .bool t] ∧ (t = true → k ≤ i ∧ i < r ∧ k ≤ j ∧ j < c ∧ F i j ≠ 0) ∧ (t = false → ∀ i j, k ≤ i → i < r → k ≤ j → j < c → F i j = 0) ∧ Ex w w' := by
 have hpt := hM.plain (by omega)
 refine aF (args := [_, _]) Tryz.func70 rfl rfl ?_
 repeat' (first|refine ai rfl ?_|refine aa ?_|refine aj ?_|refine ah rfl ?_|refine ae ?_|refine aA ?_)
 refine aY (ι := Nat) [4, 5, 6, 7, 8, 10, 11, 12, 13, 14, 15, 16, 17, 18, 19, 20, 21, 22, 23, 24, 25, 26, 27, 28, 29, 30, 31, 32, 33, 34, 35, 36] (fun i => [(7, .int .i64 (i : Int))])
  (fun i w' => (k ≤ i ∧ i ≤ max k r) ∧ Ex w w' ∧ ∀ x y, k ≤ x → x < i → k ≤ y → y < c → F x y = 0) (fun i => max k r - i)
  k ⟨rfl, trivial⟩ ⟨by omega, Ex.refl _, fun x y h1 h2 => by omega⟩ ?_
 rintro i ξ w2 ⟨hi, hE2, hz⟩
 show CW _ _ _ _ (over [(7, .int .i64 (i : Int))] _) w2
 rcases Nat.lt_or_ge i r with hir | hir
 ·have hM2 := hM.ext hE2
  obtain ⟨pa, d, hh, e1, e2, hpp, hS, hEn⟩ := hM2.get hir (by omega)
  repeat' (first|refine bu rfl rfl (show ((i : Nat) : Int) < ((r : Nat) : Int) by omega) ?_|refine ai rfl ?_|refine aa ?_|refine aj ?_|refine ah rfl ?_|refine ae ?_|refine aZ rfl ?_|refine az rfl ?_|refine aA ?_|refine aE ?_)
  refine aY (ι := Nat) [4, 5, 6, 8, 17, 18, 19, 20, 21, 22, 23, 24, 25, 26, 27, 28, 29, 30, 31, 32, 33, 34, 35, 36] (fun j => [(8, .int .i64 (j : Int))])
   (fun j w' => (k ≤ j ∧ j ≤ max k c) ∧ Ex w2 w' ∧ ∀ y, k ≤ y → y < j → y < c → F i y = 0) (fun j => max k c - j)
   k ⟨rfl, trivial⟩ ⟨by omega, Ex.refl _, fun y h1 h2 => by omega⟩ ?_
  rintro j ξ2 w3 ⟨hj, hE3, hz3⟩
  show CW _ _ _ _ (over [(8, .int .i64 (j : Int))] _) w3
  have hM3 := hM2.ext hE3
  rcases Nat.lt_or_ge j c with hjc | hjc
  ·repeat' (first|refine aD (j := i) (a := a) rfl rfl hpt (by omega) ?_|refine aV (j := i) (a := a) (n := r) (s := s) rfl hM3.top (by omega) e1 ?_|refine bu rfl rfl (show ((j : Nat) : Int) < ((c : Nat) : Int) by omega) ?_|refine aT (j := j) (a := pa) rfl rfl hpp (by omega) ?_|refine bo (j := j) (a := pa) rfl (hS.ext hE3) hpp (by omega) ?_|refine ai rfl ?_|refine aa ?_|refine aj ?_|refine ah rfl ?_|refine ae ?_|refine aZ rfl ?_|refine az rfl ?_|refine aA ?_|refine aE ?_)
   refine aw (cj ((hEn j hjc).ext hE3).k) rfl ?_
   rintro v w4 ⟨rfl, hE4⟩
   refine ⟨fun _ _ => trivial, ?_⟩
   by_cases h : F i j = 0
   ·repeat' (first|(refine cN rfl rfl (by rw [h]; rfl) ?_)|refine ai rfl ?_|refine aa ?_|refine ah rfl ?_|refine ae ?_|refine bc rfl rfl (by omega) (by omega) ?_|refine au rfl ?_|refine aL ?_|refine aE ?_)
    refine ⟨⟨j + 1, ⟨by omega, hE3.trans hE4, fun y h1 h2 h3 => ?_⟩, by omega, rfl, trivial⟩, (by (repeat (first|exact aH _ _ _|refine ay rfl ?_|refine av rfl ?_|refine ak rfl ?_|refine ao rfl ?_)))⟩
    by_cases e : y = j
    ·subst e; exact h
    ·exact hz3 y h1 (by omega) h3
   ·repeat' (first|refine df rfl rfl (fun e => h (Int.sign_eq_zero_iff_zero.1 e)) ?_|refine ai rfl ?_|refine aa ?_|refine aj ?_|refine ah rfl ?_|refine ae ?_|refine az rfl ?_|refine aI ?_|refine aU ?_|refine bQ ?_)
    exact eo rfl (rt rfl) (rt rfl) (rt rfl) ⟨i, j, true, rfl, fun _ => ⟨by omega, hir, by omega, hjc, h⟩, fun e => (nomatch e), (hE2.trans hE3).trans hE4⟩
  ·repeat' (first|refine aD (j := i) (a := a) rfl rfl hpt (by omega) ?_|refine aV (j := i) (a := a) (n := r) (s := s) rfl hM3.top (by omega) e1 ?_|refine bj rfl rfl (show ((c : Nat) : Int) ≤ ((j : Nat) : Int) by omega) ?_|refine ai rfl ?_|refine aa ?_|refine aj ?_|refine ah rfl ?_|refine ae ?_|refine aZ rfl ?_|refine bc rfl rfl (by omega) (by omega) ?_|refine au rfl ?_|refine aP ?_|refine aJ ?_|refine aQ ?_|refine aL ?_)
   refine ⟨⟨i + 1, ⟨by omega, hE2.trans hE3, fun x y h1 h2 h3 h4 => ?_⟩, by omega, rfl, trivial⟩, (by (repeat (first|exact aH _ _ _|refine ay rfl ?_|refine av rfl ?_|refine ak rfl ?_|refine ao rfl ?_)))⟩
   by_cases e : x = i
   ·subst e; exact hz3 y h3 (by omega) h4
   ·exact hz x y h1 (by omega) h3 h4
 ·repeat' (first|refine bj rfl rfl (show ((r : Nat) : Int) ≤ ((i : Nat) : Int) by omega) ?_|refine ai rfl ?_|refine aa ?_|refine aj ?_|refine ah rfl ?_|refine ae ?_|refine aZ rfl ?_|refine au rfl ?_|refine aP ?_|refine aJ ?_|refine aQ ?_|refine aI ?_)
  exact eo rfl (rt rfl) (rt rfl) (rt rfl) ⟨0, 0, false, rfl, fun e => (nomatch e), fun _ x y h1 h2 h3 h4 => hz x y h1 (by omega) h3 h4, hE2⟩
set_option maxHeartbeats 8000000 in
theorem wT {cn : Bool} {K r c cap : Nat} {w : World} {a : Option Addr} {s : Nat → SD} {A : Mat} (hM : MX cn K w a r c s A) (hr : 1 ≤ r ∧ r ≤ 16) (hc : 1 ≤ c ∧ c ≤ 16) (hK : 16 * K + 17 ≤ 4398046511104) :
  CallsR Tryz.prog 29 #[.slice a r cap] w fun v w' => ∃ k : Nat, v = .tuple #[.int .i64 (k : Int), .bool true] ∧ Rk r c A k ∧ Ex w w' := by
 refine aF (args := [_]) Tryz.func29 rfl rfl ?_
 repeat' (first|refine ai rfl ?_|refine aa ?_|refine aj ?_|refine ah rfl ?_|refine ae ?_)
 refine aw (cc hM.top) rfl ?_
 rintro v w0 ⟨rfl, hE0⟩
 refine ⟨fun _ _ => trivial, ?_⟩
 rw [cz hM hr hc]
 repeat' (first|refine aK rfl rfl ?_|refine ai rfl ?_|refine aa ?_|refine aj ?_|refine ah rfl ?_|refine ae ?_|refine au rfl ?_|refine aE ?_)
 refine aw (ii (hM.ext hE0) ⟨hr.1, by omega⟩ ⟨hc.1, by omega⟩) rfl ?_
 rintro v w1 ⟨g, gs, cp, rfl, hO1, hE1⟩
 refine ⟨fun _ _ => trivial, ?_⟩
 repeat' (first|refine ai rfl ?_|refine aa ?_|refine aj ?_|refine ah rfl ?_|refine ae ?_)
 refine aw (cT (z := 1) (by omega) (by omega) _) rfl ?_
 rintro v w3 ⟨hI3, hE3⟩
 refine ⟨fun _ _ => trivial, ?_⟩
 obtain ⟨x3, rfl⟩ := hI3.ih
 refine aG (fun g4 w4 hn4 => ⟨fun _ _ => trivial, ?_⟩)
 have hb4 : Blk w4 g4 43 (intL false none 0 0) := hn4.blk
 refine ax (n := 2) (vs := x3.cells) rfl rfl rfl rfl hb4 rfl (fun w5 hc5 hb5 => ⟨fun _ _ => trivial, ?_⟩)
 have s0 := hE0.size
 have s1 := hE1.size
 have s3 := hE3.size
 have s4 := hn4.ex.size
 have l4 := hn4.lo
 have hE5 : Ex w w5 := (((hE0.trans hE1).trans hE3).trans hn4.ex).chg hc5 (by omega)
 have hO5 := ((((hO1.ext hE3).ext hn4.ex).gbN hb4 (aB _ _ _ _) (bw hc5) (by have := hO1.lt; omega) (fun k hk => by have := (hO1.row k hk).lt; omega)).up (K' := 16 * K + 17) (by omega)).mono s0
 have hx5 : Ent true (16 * K + 17) w5 x3.val 1 := ((Ent.of hI3 (b6 (e := 16 * K + 17) (by decide) (by omega))).ext hn4.ex).gbN hb4 (aB _ _ _ _) (bw hc5)
 have hg4 : ∀ k, k < r → gs k ≠ g4 := fun k hk => by have := (hO1.row k hk).lt; omega
 have hAlb : ∀ i j, i < r → j < c → Lb K (A i j) := fun i j hi hj => hM.lb hi hj
 have hB5 : RbJ r c A 0 A 1 id id := wX (fun _ _ _ _ => rfl)
 have hgg4 : g4 ≠ g := by have := hO1.lt; omega
 have hlo4 : w.heap.size ≤ g4 := by omega
 clear hO1 hc5 hn4 hI3 hE0 hE1 hE3
 repeat' (first|refine ai rfl ?_|refine aa ?_|refine aj ?_|refine ah rfl ?_|refine ae ?_|refine aA ?_)
 refine aY (ι := Nat × Mat × (Nat → Nat) × (Nat → Nat) × IH × Int × (Nat → Nat) × (Nat → Nat)) [2, 3, 9, 10, 11, 12, 13, 14, 15, 27, 28, 29, 30, 31, 32, 33, 34, 35, 36, 37, 38, 39, 40, 41, 42, 43, 44, 45, 46, 47, 48, 49, 50, 51, 52, 53, 54, 55, 56, 57, 58, 59, 60, 61, 62, 63, 64, 65, 66, 67, 68, 69, 70, 71, 72, 73, 74, 75, 76, 77, 78, 79, 80, 81, 82, 83, 84, 85, 86, 87, 88, 89, 90, 91, 92, 93, 94, 95, 96, 97, 98, 99, 100, 101, 102, 103, 104, 105, 106, 107, 108, 109, 110, 111, 112, 113, 114, 115, 116, 117, 118, 119, 120, 121, 122, 123, 124, 125, 126, 127, 128, 129, 130, 131, 132, 133, 134, 135, 136, 137, 138, 139, 140, 141, 142, 143, 144, 145, 146, 147, 148, 149] (fun t => [(9, .int .i64 (t.1 : Int))])
  (fun t w' => (t.1 ≤ r ∧ t.1 ≤ c) ∧ Ex w w' ∧ MO true (16 * K + 17) w' w.heap.size g r c t.2.2.1 t.2.2.2.1 t.2.1 ∧ (∀ k, k < r → t.2.2.1 k ≠ g4) ∧ Blk w' g4 43 t.2.2.2.2.1.cells ∧ Ent true (16 * K + 17) w' t.2.2.2.2.1.val t.2.2.2.2.2.1 ∧ RbJ r c A t.1 t.2.1 t.2.2.2.2.2.1 t.2.2.2.2.2.2.1 t.2.2.2.2.2.2.2) (fun t => r - t.1)
  (0, A, gs, cp, x3, 1, id, id) ⟨rfl, trivial⟩ ⟨by omega, hE5, hO5, hg4, by assumption, hx5, hB5⟩ ?_
 clear hE5 hO5 hg4 hx5 hB5
 rintro ⟨k, F, gs, cp, x, last, ρ, γ⟩ ξ2 w6 ⟨⟨hkr, hkc⟩, hE6, hO6, hg4, hx6, hxe, hB⟩
 simp only at hkr hkc hO6 hg4 hx6 hxe hB
 show CW _ _ _ _ (over [(9, .int .i64 (k : Int))] _) w6
 repeat' (first|refine aj ?_)
 refine aA ?_
 repeat' (first|refine ai rfl ?_|refine aj ?_|refine ah rfl ?_)
 refine aw (wR hO6.mx ⟨hr.1, by omega⟩ ⟨hc.1, by omega⟩ (show k ≤ 1000 by omega)) rfl ?_
 rintro v w7 ⟨p, q, t, rfl, ht1, ht2, hE7⟩
 refine ⟨fun _ _ => trivial, ?_⟩
 cases t
 ·repeat' (first|refine aK rfl rfl ?_|refine ai rfl ?_|refine aa ?_|refine aj ?_|refine ah rfl ?_|refine ae ?_|refine az rfl ?_|refine aI ?_|refine aU ?_|refine bQ ?_)
  exact cA rfl (rt rfl) (rt rfl) ⟨k, rfl, hB.fin (ht2 rfl), hE6.trans hE7⟩
 ·obtain ⟨hkp, hpr, hkq, hqc, hnz⟩ := ht1 rfl
  clear ht1 ht2
  have hkn : k < r := by omega
  have hkm : k < c := by omega
  have hOk := hO6.ext hE7
  repeat' (first|refine aK rfl rfl ?_|refine ai rfl ?_|refine aa ?_|refine aj ?_|refine ah rfl ?_|refine ae ?_|refine au rfl ?_|refine aE ?_)
  have hOp := hO6.ext (hE7.drew)
  refine bi (late := [13, 15]) (plan := [(0, none), (1, none), (2, none), (3, none), (4, none), (5, none), (6, none), (7, none), (8, none), (9, none), (10, none), (11, none), (12, none), (13, some false), (14, none), (15, some false)]) (fun w' => Ex w7 w') bA (by kernel_rfl) (Ex.refl w7).drew ?_
  repeat' (first|refine aD (j := k) (a := some ⟨g, 0, none⟩) rfl rfl ⟨_, _, rfl⟩ (by omega) ?_|refine aD (j := p) (a := some ⟨g, 0, none⟩) rfl rfl ⟨_, _, rfl⟩ (by omega) ?_|refine aV (j := p) (a := some ⟨g, 0, none⟩) (n := r) (s := fun k => ⟨some ⟨gs k, 0, none⟩, c, cp k⟩) rfl (fun _ h => (hOk.ext h).top.sl) (by omega) rfl ?_|refine aV (j := k) (a := some ⟨g, 0, none⟩) (n := r) (s := fun k => ⟨some ⟨gs k, 0, none⟩, c, cp k⟩) rfl (fun _ h => (hOk.ext h).top.sl) (by omega) rfl ?_|refine ai rfl ?_)
  refine ch (j := p) (u := ⟨some ⟨gs k, 0, none⟩, c, cp k⟩) rfl rfl hOp.top (by omega) (fun w8 hc8 hT8 => ⟨fun h => (nomatch h), ?_⟩)
  repeat' (first|refine aD (j := k) (a := some ⟨g, 0, none⟩) rfl rfl ⟨_, _, rfl⟩ (by omega) ?_)
  refine ch (j := k) (u := ⟨some ⟨gs p, 0, none⟩, c, cp p⟩) rfl rfl hT8 (by omega) (fun w9 hc9 hT9 => ⟨fun h => (nomatch h), ?_⟩)
  have hO9 := hOp.swap hpr hkn hc8 hc9 hT9
  have hx9 := ((hx6.ext hE7.drew).chg hc8 hgg4).chg hc9 hgg4
  have hxe9 := ((hxe.ext hE7.drew).gbN hOp.top (bW _ _) (bw hc8)).gbN hT8 (bW _ _) (bw hc9)
  have hE9 := ((hE6.trans hE7.drew).chg hc8 hO6.low).chg hc9 hO6.low
  have hB9 := hB.rows (B' := fun a => F (swp2 p k a)) hkp hpr (fun i j _ _ => by rw [wU])
  have hg9 : ∀ m, m < r → (fun a => gs (swp2 p k a)) m ≠ g4 := fun m hm => hg4 _ (fx hpr hkn hm)
  have hnz9 : (fun a => F (swp2 p k a)) k q ≠ 0 := by
   show F (swp2 p k k) q ≠ 0
   rw [show swp2 p k k = p by unfold swp2; split; omega; rw [if_pos rfl]]; exact hnz
  clear hnz hOp hOk hO6 hx6 hxe hT8 hT9 hc8 hc9 hB
  revert hO9 hB9 hg9 hnz9
  generalize (fun a => F (swp2 p k a)) = F9
  generalize (fun a => gs (swp2 p k a)) = gs9
  generalize (fun a => cp (swp2 p k a)) = cp9
  intro hO9 hB9 hg9 hnz9
  clear hg4
  generalize (fun i => ρ (trn k p i)) = ρ9 at hB9
  repeat' (first|refine ai rfl ?_|refine aa ?_|refine aj ?_|refine ah rfl ?_|refine ae ?_|refine aZ rfl ?_|refine aA ?_)
  refine aY (ι := Nat) [13, 55, 56, 57, 58, 59, 60, 61, 62, 63, 64, 65, 66, 67, 68, 69, 70, 71, 72, 73, 74, 75, 76, 77, 78, 79, 80, 81, 82, 83, 84] (fun t => [(55, .int .i64 (t : Int))])
   (fun t w' => t ≤ r ∧ Ex w w' ∧ MO true (16 * K + 17) w' w.heap.size g r c gs9 cp9 (fun a b => if a < t then cswp F9 q k a b else F9 a b) ∧ Blk w' g4 43 x.cells ∧ Ent true (16 * K + 17) w' x.val last) (fun t => r - t)
   0 ⟨rfl, trivial⟩ ⟨by omega, hE9, hO9.congr (fun a b _ _ => if_neg (by omega)), hx9, hxe9⟩ ?_
  clear hO9 hx9 hxe9 hE9
  rintro t ξ3 w10 ⟨ht, hE10, hO10, hx10, hxe10⟩
  show CW _ _ _ _ (over [(55, .int .i64 (t : Int))] _) w10
  rcases Nat.lt_or_ge t r with htn | htn
  ·obtain ⟨hh, hbr, hcr, hEr⟩ := hO10.get htn
   simp only [Nat.lt_irrefl, if_false] at hEr
   repeat' (first|refine bu rfl rfl (by omega) ?_|refine aa ?_|refine aj ?_|refine ah rfl ?_|refine ae ?_|refine az rfl ?_|refine aE ?_)
   refine aA ?_
   repeat' (first|refine ai rfl ?_|refine aa ?_|refine aj ?_|refine ah rfl ?_|refine ae ?_)
   refine bi (late := [25, 27]) (plan := [(0, none), (1, none), (2, none), (3, none), (4, none), (5, none), (6, none), (7, none), (8, none), (9, none), (10, none), (11, none), (12, none), (13, none), (14, none), (15, none), (16, none), (17, none), (18, none), (19, none), (20, none), (21, none), (22, none), (23, none), (24, none), (25, some false), (26, none), (27, some false)]) (fun w' => Ex w10 w') bA (by kernel_rfl) (Ex.refl w10).drew ?_
   have hEd := (Ex.refl w10).drew
   repeat' (first|refine aD (j := t) (a := some ⟨g, 0, none⟩) rfl rfl ⟨_, _, rfl⟩ (by omega) ?_|refine aV (j := t) (a := some ⟨g, 0, none⟩) (n := r) (s := fun k => ⟨some ⟨gs9 k, 0, none⟩, c, cp9 k⟩) rfl (fun _ h => (hO10.ext h).top.sl) (by omega) rfl ?_|refine aT (j := k) (a := some ⟨gs9 t, 0, none⟩) rfl rfl ⟨_, _, rfl⟩ (by omega) ?_|refine bo (j := k) (n := cp9 t) (a := some ⟨gs9 t, 0, none⟩) rfl (fun _ h => (hbr.ext h).sl) ⟨_, _, rfl⟩ (by omega) ?_|refine aT (j := q) (a := some ⟨gs9 t, 0, none⟩) rfl rfl ⟨_, _, rfl⟩ (by omega) ?_|refine bo (j := q) (n := cp9 t) (a := some ⟨gs9 t, 0, none⟩) rfl (fun _ h => (hbr.ext h).sl) ⟨_, _, rfl⟩ (by omega) ?_|refine ai rfl ?_)
   refine bR (j := q) (n := cp9 t) (u := hh k) rfl rfl (hbr.ext hEd) (by omega) (fun w11 hc11 hb11 => ⟨fun h => (nomatch h), ?_⟩)
   have hO11 := (hO10.ext hEd).put (j := q) htn (hbr.ext hEd) (fun j hj => by simp only [Nat.lt_irrefl, if_false]; exact (hEr j hj).ext hEd) ((hEr k hkm).ext hEd) hc11 hb11
   repeat' (first|refine aT (j := k) (a := some ⟨gs9 t, 0, none⟩) rfl rfl ⟨_, _, rfl⟩ (by omega) ?_)
   refine bR (j := k) (n := cp9 t) (u := hh q) rfl rfl hb11 (by omega) (fun w12 hc12 hb12 => ⟨fun h => (nomatch h), ?_⟩)
   have hO12 := hO11.put (j := k) (u := hh q) (z := F9 t q) htn hb11 (fun j hj => by
    unfold setM setF
    by_cases e : j = q
    ·subst e; rw [if_pos rfl, if_pos ⟨rfl, rfl⟩]; exact ((hEr k hkm).ext hEd).gbN (hbr.ext hEd) (bE _ _) (bw hc11)
    ·rw [if_neg e, if_neg (fun h => e h.2)]; simp only [Nat.lt_irrefl, if_false]; exact ((hEr j hj).ext hEd).gbN (hbr.ext hEd) (bE _ _) (bw hc11))
    (((hEr q hqc).ext hEd).gbN (hbr.ext hEd) (bE _ _) (bw hc11)) hc12 hb12
   repeat' (first|refine ai rfl ?_|refine aa ?_|refine ah rfl ?_|refine ae ?_|refine bc rfl rfl (by omega) (by omega) ?_|refine aL ?_)
   have hgt := hg9 t htn
   have hlt := (hO10.row t htn).low
   exact ⟨⟨t + 1, ⟨htn, ((hE10.trans hEd).chg hc11 hlt).chg hc12 hlt, hO12.congr (fun a b _ _ => lW F9 t q k a b), ((hx10.ext hEd).chg hc11 (Ne.symm hgt)).chg hc12 (Ne.symm hgt), ((hxe10.ext hEd).gbN (hbr.ext hEd) (bE _ _) (bw hc11)).gbN hb11 (bE _ _) (bw hc12)⟩, by omega, rfl, trivial⟩, (by (repeat (first|exact aH _ _ _|refine ay rfl ?_|refine av rfl ?_|refine ak rfl ?_|refine ao rfl ?_)))⟩
  ·obtain rfl : r = t := by omega
   replace hO10 := hO10.congr (F' := cswp F9 q k) (fun a b ha _ => by rw [if_pos ha])
   have hB10 := hB9.cols (B' := cswp F9 q k) hkq hqc (fun i j _ _ => by
    show F9 i _ = F9 i _
    rw [show (if j = q then k else if j = k then q else j) = trn k q j from wU q k j])
   have hnz10 : cswp F9 q k k k ≠ 0 := by
    show F9 k _ ≠ 0
    rw [show (if k = q then k else if k = k then q else k) = q by split; omega; rw [if_pos rfl]]; exact hnz9
   clear hnz9 hB9
   generalize (fun j => γ (trn k q j)) = γ9 at hB10
   generalize cswp F9 q k = F at *
   have hstep := hB10.step (B' := elm F last k r (k + 1)) hkn hkm hnz10 (fun i j h1 h2 h3 h4 => jW F last h1 h2 h3)
   have hlbs := RbJ.lb hstep hAlb hr.2
   repeat' (first|refine bj rfl rfl (by omega) ?_|refine bc rfl rfl (by omega) (by omega) ?_|refine ai rfl ?_|refine aa ?_|refine aj ?_|refine ah rfl ?_|refine ae ?_|refine au rfl ?_|refine aA ?_|refine aP ?_|refine aJ ?_|refine aQ ?_)
   refine aY (ι := Nat) [14, 15, 87, 88, 89, 90, 91, 92, 93, 94, 95, 96, 97, 98, 99, 100, 101, 102, 103, 104, 105, 106, 107, 108, 109, 110, 111, 112, 113, 114, 115, 116, 117, 118, 119, 120, 121, 122, 123, 124, 125, 126, 127, 128, 129, 130, 131, 132, 133, 134, 135, 136, 137, 138, 139, 140, 141, 142] (fun i => [(14, .int .i64 (i : Int))])
    (fun i w' => k + 1 ≤ i ∧ i ≤ r ∧ Ex w w' ∧ MO true (16 * K + 17) w' w.heap.size g r c gs9 cp9 (elm F last k i (k + 1)) ∧ Blk w' g4 43 x.cells ∧ Ent true (16 * K + 17) w' x.val last) (fun i => r - i)
    (k + 1) ⟨by show Value.int .i64 ((k : Int) + 1) = _; norm_cast, trivial⟩ ⟨Nat.le_refl _, hkn, hE10, hO10.congr (fun a b _ _ => lJ F last k a b), hx10, hxe10⟩ ?_
   clear hO10 hx10 hxe10 hE10
   rintro i ξ5 w11 ⟨hki, hin, hE11, hO11, hx11, hxe11⟩
   show CW _ _ _ _ (over [(14, .int .i64 (i : Int))] _) w11
   rcases Nat.lt_or_ge i r with hi | hi
   ·repeat' (first|refine bu rfl rfl (by omega) ?_|refine bc rfl rfl (by omega) (by omega) ?_|refine ai rfl ?_|refine aa ?_|refine aj ?_|refine ah rfl ?_|refine ae ?_|refine aZ rfl ?_|refine az rfl ?_|refine aA ?_|refine aE ?_)
    refine aY (ι := Nat) [15, 95, 96, 97, 98, 99, 100, 101, 102, 103, 104, 105, 106, 107, 108, 109, 110, 111, 112, 113, 114, 115, 116, 117, 118, 119, 120, 121, 122, 123, 124, 125, 126, 127, 128, 129, 130, 131, 132, 133, 134, 135, 136, 137, 138, 139, 140, 141, 142] (fun j => [(15, .int .i64 (j : Int))])
     (fun j w' => k + 1 ≤ j ∧ j ≤ c ∧ Ex w w' ∧ MO true (16 * K + 17) w' w.heap.size g r c gs9 cp9 (elm F last k i j) ∧ Blk w' g4 43 x.cells ∧ Ent true (16 * K + 17) w' x.val last) (fun j => c - j)
     (k + 1) ⟨by show Value.int .i64 ((k : Int) + 1) = _; norm_cast, trivial⟩ ⟨Nat.le_refl _, hkm, hE11, hO11, hx11, hxe11⟩ ?_
    clear hO11 hx11 hxe11 hE11
    rintro j ξ6 w12 ⟨hkj, hjn, hE12, hO12, hx12, hxe12⟩
    show CW _ _ _ _ (over [(15, .int .i64 (j : Int))] _) w12
    rcases Nat.lt_or_ge j c with hj | hj
    ·obtain ⟨hi', hbi, hci, hEi⟩ := hO12.get hi
     obtain ⟨hk', hbk, hck, hEk⟩ := hO12.get hkn
     have hki' : k < i := by omega
     have hkj' : k < j := by omega
     have e1 := fy F last (k := k) (i := i) (j := j) (a := i) (b := j) (by omega)
     have e2 := fy F last (k := k) (i := i) (j := j) (a := i) (b := k) (by omega)
     have e3 := fy F last (k := k) (i := i) (j := j) (a := k) (b := j) (by omega)
     have e4 := fy F last (k := k) (i := i) (j := j) (a := k) (b := k) (by omega)
     have n1 : Ent true (16 * K + 17) w12 (hi' j).val (F i j) := by rw [← e1]; exact hEi j hj
     have n2 : Ent true (16 * K + 17) w12 (hi' k).val (F i k) := by rw [← e2]; exact hEi k hkm
     have n3 : Ent true (16 * K + 17) w12 (hk' j).val (F k j) := by rw [← e3]; exact hEk j hj
     have n4 : Ent true (16 * K + 17) w12 (hk' k).val (F k k) := by rw [← e4]; exact hEk k hkm
     repeat' (first|refine aD (j := i) (a := some ⟨g, 0, none⟩) rfl rfl ⟨_, _, rfl⟩ (by omega) ?_|refine aV (j := i) (a := some ⟨g, 0, none⟩) (n := r) (s := fun k => ⟨some ⟨gs9 k, 0, none⟩, c, cp9 k⟩) rfl hO12.top.sl (by omega) rfl ?_|refine bu rfl rfl (by omega) ?_|refine ai rfl ?_|refine aa ?_|refine aj ?_|refine ah rfl ?_|refine ae ?_|refine aZ rfl ?_|refine az rfl ?_|refine aE ?_)
     refine aA ?_
     skip
     have b1 := n4.lb.mul n1.lb
     have b2 := n2.lb.mul n3.lb
     have b3 := b1.sub b2
     refine bi (late := [39]) (plan := [(0, none), (1, none), (2, none), (3, none), (4, none), (5, none), (6, none), (7, none), (8, none), (9, none), (10, none), (11, none), (12, none), (13, none), (14, none), (15, none), (16, none), (17, none), (18, none), (20, none), (21, none), (22, none), (23, none), (24, none), (25, none), (26, none), (27, none), (28, none), (29, none), (30, none), (31, none), (32, none), (33, none), (36, none), (19, some true), (34, some true), (35, some true), (37, some true), (38, none), (39, some false)]) (fun w' => Ex w12 w') bA (by kernel_rfl) (Ex.refl w12).drew ?_
     have hEd := (Ex.refl w12).drew
     repeat' (first|refine aD (j := i) (a := some ⟨g, 0, none⟩) rfl rfl ⟨_, _, rfl⟩ (by omega) ?_|refine aD (j := k) (a := some ⟨g, 0, none⟩) rfl rfl ⟨_, _, rfl⟩ (by omega) ?_|refine aV (j := i) (a := some ⟨g, 0, none⟩) (n := r) (s := fun k => ⟨some ⟨gs9 k, 0, none⟩, c, cp9 k⟩) rfl (fun _ h => (hO12.ext h).top.sl) (by omega) rfl ?_|refine aV (j := k) (a := some ⟨g, 0, none⟩) (n := r) (s := fun k => ⟨some ⟨gs9 k, 0, none⟩, c, cp9 k⟩) rfl (fun _ h => (hO12.ext h).top.sl) (by omega) rfl ?_|refine aT (j := j) (a := some ⟨gs9 i, 0, none⟩) rfl rfl ⟨_, _, rfl⟩ (by omega) ?_|refine aT (j := k) (a := some ⟨gs9 i, 0, none⟩) rfl rfl ⟨_, _, rfl⟩ (by omega) ?_|refine aT (j := j) (a := some ⟨gs9 k, 0, none⟩) rfl rfl ⟨_, _, rfl⟩ (by omega) ?_|refine aT (j := k) (a := some ⟨gs9 k, 0, none⟩) rfl rfl ⟨_, _, rfl⟩ (by omega) ?_|refine bo (j := j) (n := cp9 i) (a := some ⟨gs9 i, 0, none⟩) rfl (fun _ h => (hbi.ext h).sl) ⟨_, _, rfl⟩ (by omega) ?_|refine bo (j := k) (n := cp9 i) (a := some ⟨gs9 i, 0, none⟩) rfl (fun _ h => (hbi.ext h).sl) ⟨_, _, rfl⟩ (by omega) ?_|refine bo (j := j) (n := cp9 k) (a := some ⟨gs9 k, 0, none⟩) rfl (fun _ h => (hbk.ext h).sl) ⟨_, _, rfl⟩ (by omega) ?_|refine bo (j := k) (n := cp9 k) (a := some ⟨gs9 k, 0, none⟩) rfl (fun _ h => (hbk.ext h).sl) ⟨_, _, rfl⟩ (by omega) ?_|refine aR (g := g4) rfl (fun _ h => hx12.ext h) rfl ?_|refine ai rfl ?_)
     refine aw (dG (n4.ext hEd).k (n1.ext hEd).k (by omega)) rfl ?_
     rintro v w13 ⟨hI13, hE13⟩
     refine ⟨fun _ h => h.trans hE13, ?_⟩
     have hEd13 := hEd.trans hE13
     skip
     refine aw (dG (n2.ext hEd13).k (n3.ext hEd13).k (by omega)) rfl ?_
     rintro v w14 ⟨hI14, hE14⟩
     refine ⟨fun _ h => h.trans hE14, ?_⟩
     skip
     refine aw (ew ((hI13.ext hE14).k b1) (hI14.k b2) (by omega) (by omega)) rfl ?_
     rintro v w15 ⟨hI15, hE15⟩
     refine ⟨fun _ h => h.trans hE15, ?_⟩
     have hEd15 := (hEd13.trans hE14).trans hE15
     skip
     refine aw (d7 (hI15.k b3) (hxe12.ext hEd15).k (by omega) (by omega)) rfl ?_
     rintro v w16 ⟨hI16, hE16⟩
     refine ⟨fun _ h => h.trans hE16, ?_⟩
     obtain ⟨u, rfl⟩ := hI16.ih
     have hE1216 := hEd15.trans hE16
     have hbi16 := hbi.ext hE1216
     repeat' (first|refine aT (j := j) (a := some ⟨gs9 i, 0, none⟩) rfl rfl ⟨_, _, rfl⟩ (by omega) ?_)
     refine bR (j := j) (n := cp9 i) (u := u) rfl rfl hbi16 (by omega) (fun w17 hc17 hb17 => ⟨fun h => (nomatch h), ?_⟩)
     repeat' (first|refine ai rfl ?_|refine aa ?_|refine ah rfl ?_|refine ae ?_|refine bc rfl rfl (by omega) (by omega) ?_|refine aL ?_)
     have hu : Ent true (16 * K + 17) w16 u.val ((F k k * F i j - F i k * F k j) / last) := Ent.of hI16 (by
      have := hlbs i j (by omega) hi (by omega) hj
      rwa [jW F last (by omega) hi (by omega)] at this)
     have hput := (hO12.ext hE1216).put (j := j) hi hbi16 (fun m hm => (hEi m hm).ext hE1216) hu hc17 hb17
     have hgi4 := hg9 i hi
     have hloi := (hO12.row i hi).low
     exact ⟨⟨j + 1, ⟨by omega, hj, (hE12.trans hE1216).chg hc17 hloi, hput.congr (fun a b _ _ => (oZ F last hki' hkj' a b).symm), (hx12.ext hE1216).chg hc17 (Ne.symm hgi4), (hxe12.ext hE1216).gbN hbi16 (bE _ _) (bw hc17)⟩, by omega, rfl, trivial⟩, (by (repeat (first|exact aH _ _ _|refine ay rfl ?_|refine av rfl ?_|refine ak rfl ?_|refine ao rfl ?_)))⟩
    ·obtain rfl : c = j := by omega
     repeat' (first|refine aD (j := i) (a := some ⟨g, 0, none⟩) rfl rfl ⟨_, _, rfl⟩ (by omega) ?_|refine aV (j := i) (a := some ⟨g, 0, none⟩) (n := r) (s := fun k => ⟨some ⟨gs9 k, 0, none⟩, c, cp9 k⟩) rfl hO12.top.sl (by omega) rfl ?_|refine bj rfl rfl (by omega) ?_|refine bc rfl rfl (by omega) (by omega) ?_|refine ai rfl ?_|refine aa ?_|refine aj ?_|refine ah rfl ?_|refine ae ?_|refine aZ rfl ?_|refine au rfl ?_|refine aP ?_|refine aJ ?_|refine aQ ?_|refine aL ?_)
     exact ⟨⟨i + 1, ⟨by omega, hi, hE12, hO12.congr (fun a b _ hb => oY F last (by omega) hb), hx12, hxe12⟩, by omega, rfl, trivial⟩, (by (repeat (first|exact aH _ _ _|refine ay rfl ?_|refine av rfl ?_|refine ak rfl ?_|refine ao rfl ?_)))⟩
   ·obtain rfl : r = i := by omega
    obtain ⟨hk', hbk, hck, hEk⟩ := hO11.get hkn
    have e4 := fy F last (k := k) (i := r) (j := k + 1) (a := k) (b := k) (by omega)
    have n4 : Ent true (16 * K + 17) w11 (hk' k).val (F k k) := by rw [← e4]; exact hEk k hkm
    repeat' (first|refine bj rfl rfl (by omega) ?_|refine aD (j := k) (a := some ⟨g, 0, none⟩) rfl rfl ⟨_, _, rfl⟩ (by omega) ?_|refine aV (j := k) (a := some ⟨g, 0, none⟩) (n := r) (s := fun k => ⟨some ⟨gs9 k, 0, none⟩, c, cp9 k⟩) rfl hO11.top.sl (by omega) rfl ?_|refine aT (j := k) (a := some ⟨gs9 k, 0, none⟩) rfl rfl ⟨_, _, rfl⟩ (by omega) ?_|refine bo (j := k) (n := cp9 k) (a := some ⟨gs9 k, 0, none⟩) rfl hbk.sl ⟨_, _, rfl⟩ (by omega) ?_|refine ai rfl ?_|refine aa ?_|refine aj ?_|refine ah rfl ?_|refine ae ?_|refine aZ rfl ?_|refine au rfl ?_|refine aP ?_|refine aJ ?_|refine aQ ?_)
    refine ax (n := 2) (vs := (hk' k).cells) rfl rfl rfl rfl hx11 rfl (fun w12 hc12 hb12 => ⟨fun _ _ => trivial, ?_⟩)
    repeat' (first|refine ai rfl ?_|refine aa ?_|refine ah rfl ?_|refine ae ?_|refine bc rfl rfl (by omega) (by omega) ?_|refine aL ?_)
    exact ⟨⟨(k + 1, elm F last k r (k + 1), gs9, cp9, hk' k, F k k, ρ9, γ9), ⟨⟨hkn, hkm⟩, hE11.chg hc12 hlo4, hO11.gbN hx11 (aB _ _ _ _) (bw hc12) (Ne.symm hgg4) hg9, hg9, hb12, n4.gbN hx11 (aB _ _ _ _) (bw hc12), hstep⟩, by simp only; omega, rfl, trivial⟩, (by (repeat (first|exact aH _ _ _|refine ay rfl ?_|refine av rfl ?_|refine ak rfl ?_|refine ao rfl ?_)))⟩
end Go.Proofs.YtiejljicpinheaaGreat
