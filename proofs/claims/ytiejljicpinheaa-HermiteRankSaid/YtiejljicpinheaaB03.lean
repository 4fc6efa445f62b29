import Derived.Test.YtiejljicpinheaaA18
import Derived.Test.YtiejljicpinheaaB01
namespace Go.Proofs.Ytiejljicpinheaa
open Go.W Go.LM Go.LA
set_option maxHeartbeats 1000000 in
theorem m0 {cn cn' : Bool} {K K' r c r' c' ca cb : Nat} {w : World} {a b : Option Addr} {s s' : Nat → SD} {F G : Nat → Nat → Int} (hA : MX cn K w a r c s F) (hB : MX cn' K' w b r' c' s' G)
  (hr : 1 ≤ r ∧ r ≤ 16) (hc : 1 ≤ c ∧ c ≤ 16) (hr' : 1 ≤ r' ∧ r' ≤ 16) (hc' : 1 ≤ c' ∧ c' ≤ 16) :
  CallsR Try.prog 41 #[.slice a r ca, .slice b r' cb] w fun v w' => ∃ t : Bool, v = .bool t ∧ (t = true ↔ r = r' ∧ c = c' ∧ ∀ i j, i < r → j < c → F i j = G i j) ∧ Ex w w' := by
 refine aG (args := [_, _]) Try.func41 rfl rfl ?_
 repeat' (first|refine ai rfl ?_|refine aa ?_|refine aj ?_|refine ah rfl ?_|refine ae ?_)
 refine aw (cW hA.top) rfl ?_
 rintro v w1 ⟨rfl, hE1⟩
 refine ⟨fun _ _ => trivial, ?_⟩
 rw [cK hA hr hc]
 repeat' (first|refine ai rfl ?_|refine aa ?_|refine aj ?_|refine ah rfl ?_|refine ae ?_)
 refine aw (cW (hB.ext hE1).top) rfl ?_
 rintro v w2 ⟨rfl, hE2⟩
 refine ⟨fun _ _ => trivial, ?_⟩
 rw [cK hB hr' hc']
 have hE := hE1.trans hE2
 by_cases hs : r = r' ∧ c = c'
 ·obtain ⟨rfl, rfl⟩ := hs
  repeat' (first|refine dq rfl rfl rfl ?_|refine ai rfl ?_|refine aa ?_|refine aj ?_|refine ah rfl ?_|refine ae ?_|refine aY rfl ?_|refine bG rfl rfl ?_|refine ay rfl ?_|refine aB ?_|refine aF ?_)
  refine aW (ι := Nat) [4, 11, 12, 13, 14, 45, 46, 47, 48, 49, 50, 51, 52, 53, 54, 55, 56, 57, 58, 59, 60, 61, 62, 63, 64, 65, 66, 67, 68] (fun i => [(45, .int .i64 (i : Int))])
   (fun i w' => i ≤ r ∧ Ex w w' ∧ ∀ k j, k < i → j < c → F k j = G k j) (fun i => r - i) 0 ⟨rfl, trivial⟩ ⟨by omega, hE, fun k j hk => by omega⟩ ?_
  rintro i ξ w3 ⟨hi, hE3, hI3⟩
  show CW _ _ _ _ (over [(45, .int .i64 (i : Int))] _) w3
  rcases Nat.lt_or_ge i r with hir | hir
  ·obtain ⟨p, d, hh, e1, e2, hp, hS, hEn⟩ := (hA.ext hE3).get hir (by omega)
   obtain ⟨p', d', hh', e1', e2', hp', hS', hEn'⟩ := (hB.ext hE3).get hir (by omega)
   have hpa := hA.plain (by omega)
   have hpb := hB.plain (by omega)
   repeat' (first|refine bv rfl rfl (by omega) ?_|refine aD (j := i) (a := a) rfl rfl hpa (by omega) ?_|refine aZ (j := i) (a := a) rfl (hA.ext hE3).top (by omega) e1 ?_|refine ai rfl ?_|refine aa ?_|refine aj ?_|refine ah rfl ?_|refine ae ?_|refine aY rfl ?_|refine aC rfl ?_|refine aB ?_|refine aF ?_)
   refine aW (ι := Nat) [4, 13, 14, 52, 53, 54, 55, 56, 57, 58, 59, 60, 61, 62, 63, 64, 65, 66, 67] (fun j => [(52, .int .i64 (j : Int))])
    (fun j w' => j ≤ c ∧ Ex w3 w' ∧ ∀ k, k < j → F i k = G i k) (fun j => c - j) 0 ⟨rfl, trivial⟩ ⟨by omega, Ex.refl _, fun k hk => by omega⟩ ?_
   rintro j ξ2 w4 ⟨hj, hE4, hI4⟩
   show CW _ _ _ _ (over [(52, .int .i64 (j : Int))] _) w4
   rcases Nat.lt_or_ge j c with hjc | hjc
   ·repeat' (first|refine bv rfl rfl (by omega) ?_|refine aa ?_|refine aj ?_|refine ah rfl ?_|refine ae ?_|refine aC rfl ?_|refine aF ?_)
    refine aB ?_
    repeat' (first|refine bj (j := j) rfl rfl hp (by omega) ?_|refine bD (j := j) rfl (hS.ext hE4) hp (by omega) ?_|refine ai rfl ?_|refine aj ?_|refine ah rfl ?_)
    refine aE (fun g5 w5 hn5 => ⟨fun _ _ => trivial, ?_⟩)
    have hb5 : Blk w5 g5 49 (intL false none 0 0) := hn5.blk
    repeat' (first|refine ai rfl ?_)
    refine au (n := 2) (vs := (hh j).cells) rfl rfl rfl rfl hb5 rfl (fun w6 hc6 hb6 => ⟨fun _ _ => trivial, ?_⟩)
    have s3 := hE4.size
    have l5 := hn5.lo
    have hE36 : Ex w3 w6 := (hE4.trans hn5.ex).chg hc6 (by omega)
    have hE36d := hE36.drew
    repeat' (first|refine aa ?_|refine aj ?_|refine ae ?_)
    refine bn (late := []) (plan := [(0, none), (1, none), (2, none), (3, none), (4, none), (5, none), (6, none), (7, none), (8, some true), (9, none)]) (fun w' => Ex w6 w') bC (by kernel_rfl) (Ex.refl w6).drew ?_
    repeat' (first|refine aR (g := g5) rfl (fun _ h => hb6.ext h) rfl ?_|refine aD (j := i) (a := b) rfl rfl hpb (by omega) ?_|refine aZ (j := i) (a := b) rfl (fun _ h => ((hB.ext hE3).ext (hE36.trans h)).top) (by omega) e1' ?_|refine bj (j := j) (a := p') rfl rfl hp' (by omega) ?_|refine bD (j := j) (a := p') rfl (fun _ h => hS'.ext (hE36.trans h)) hp' (by omega) ?_|refine ai rfl ?_)
    refine aw (iU ((hEn j hjc).ext hE36d).k ((hEn' j hjc).ext hE36d).k) rfl ?_
    rintro v w7 ⟨rfl, hE7⟩
    refine ⟨fun _ h => h.trans hE7, ?_⟩
    have hE37 := hE36d.trans hE7
    have hsg : (F i j - G i j).sign = 0 ↔ F i j = G i j := by rw [Int.sign_eq_zero_iff_zero]; omega
    repeat' (first|refine ai rfl ?_|refine aa ?_|refine aj ?_|refine ah rfl ?_|refine ae ?_|refine bi rfl rfl (by omega) (by omega) ?_|refine aM rfl (fun hc => ?_) (fun hc => ?_)|refine aJ ?_|refine aK ?_|refine aX ?_|refine b6 ?_|refine aF ?_)
    ·refine bB rfl (rt rfl) ⟨false, rfl, ⟨fun h => (nomatch h), fun h => ?_⟩, hE3.trans hE37⟩
     exact absurd (hsg.2 (h.2.2 i j hir hjc)) (by assumption)
    ·have heq : F i j = G i j := hsg.1 (by omega)
     refine ⟨⟨j + 1, ⟨by omega, hE37, fun k hk => ?_⟩, by omega, rfl, trivial⟩, (by (repeat (first|exact aH _ _ _|refine ax rfl ?_|refine av rfl ?_|refine ak rfl ?_|refine ao rfl ?_)))⟩
     by_cases hkj : k = j
     ·rw [hkj]; exact heq
     ·exact hI4 k (by omega)
   ·have ejc : c = j := by omega
    repeat' (first|refine bu rfl rfl (by omega) ?_|refine ai rfl ?_|refine aa ?_|refine aj ?_|refine ah rfl ?_|refine ae ?_|refine bi rfl rfl (by omega) (by omega) ?_|refine ay rfl ?_|refine aS ?_|refine aL ?_|refine aT ?_|refine aJ ?_)
    refine ⟨⟨i + 1, ⟨by omega, hE3.trans hE4, fun k l hk hl => ?_⟩, by omega, rfl, trivial⟩, (by (repeat (first|exact aH _ _ _|refine ax rfl ?_|refine av rfl ?_|refine ak rfl ?_|refine ao rfl ?_)))⟩
    by_cases hki : k = i
    ·rw [hki]; exact hI4 l (by omega)
    ·exact hI3 k l (by omega) hl
  ·have eir : i = r := by omega
   repeat' (first|refine bu rfl rfl (by omega) ?_|refine ai rfl ?_|refine aa ?_|refine aj ?_|refine ah rfl ?_|refine ae ?_|refine ay rfl ?_|refine aS ?_|refine aL ?_|refine aT ?_|refine aK ?_)
   refine bB rfl (rt rfl) ⟨true, rfl, ⟨fun _ => ⟨rfl, rfl, fun k l hk hl => hI3 k l (by omega) hl⟩, fun _ => rfl⟩, hE3⟩
 ·repeat' (first|refine ai rfl ?_|refine aa ?_|refine aj ?_|refine ah rfl ?_|refine ae ?_|refine aY rfl ?_|refine bG rfl rfl ?_|refine bP rfl rfl ?_|refine gF rfl rfl (fun hc => ?_) (fun hc => ?_)|refine aC rfl ?_|refine aM rfl (fun hc => ?_) (fun hc => ?_)|refine aB ?_|refine aK ?_|refine aX ?_|refine aF ?_)
  all_goals try (exfalso; omega)
  all_goals exact bB rfl (rt rfl) ⟨false, rfl, ⟨fun h => (nomatch h), fun h => absurd ⟨h.1, h.2.1⟩ hs⟩, hE⟩
end Go.Proofs.Ytiejljicpinheaa
namespace Go.Proofs.Ytiejljicpinheaa
open Go.W Go.LM Go.LA
theorem lU {n cap : Nat} {w : World} {a : Option Addr} {s : Nat → SD} (hS : Sl w a (topC n s)) (hno : ¬ okS n s) :
  CallsR Try.prog 9 #[.slice a n cap] w fun v w' => v = .tuple #[.slice none 0 0, .slice none 0 0, .bool false] ∧ Ex w w' := by
 refine aG (args := [_]) Try.func9 rfl rfl ?_
 repeat' (first|refine ai rfl ?_|refine aa ?_|refine aj ?_|refine ah rfl ?_|refine ae ?_)
 refine aw (dZ hS) rfl ?_
 rintro v w1 ⟨rfl, hE1⟩
 refine ⟨fun _ _ => trivial, ?_⟩
 rw [eD hno]
 repeat' (first|refine aO rfl rfl ?_|refine ai rfl ?_|refine aa ?_|refine aj ?_|refine ah rfl ?_|refine ae ?_|refine aC rfl ?_|refine aK ?_|refine aX ?_)
 exact eI rfl (rt rfl) (rt rfl) (rt rfl) ⟨rfl, hE1⟩
end Go.Proofs.Ytiejljicpinheaa
namespace Go.Proofs.Ytiejljicpinheaa
open Go.W Go.LM Go.LA
theorem AM.ext {K n : Nat} {w w' : World} {a : Option Addr} {s : Nat → SD} {F : Mat} (h : AM K w a n s F) (e : Ex w w') : AM K w' a n s F := ⟨h.top.ext e, fun i hi => (h.row i hi).ext e⟩
theorem kp {n cap : Nat} {w : World} {a : Option Addr} {s : Nat → SD} (hS : Sl w a (topC n s)) (hno : ¬ okS n s) :
  CallsR Try.prog 15 #[.slice a n cap] w fun v w' => v = .tuple #[.slice none 0 0, .bool false] ∧ Ex w w' := by
 refine aG (args := [_]) Try.func15 rfl rfl ?_
 repeat' (first|refine ai rfl ?_|refine aa ?_|refine aj ?_|refine ah rfl ?_|refine ae ?_)
 refine aw (lU hS hno) rfl ?_
 rintro v w1 ⟨rfl, hE1⟩
 refine ⟨fun _ _ => trivial, ?_⟩
 repeat' (first|refine aO rfl rfl ?_|refine ai rfl ?_|refine aa ?_|refine aj ?_|refine ah rfl ?_|refine ae ?_|refine aC rfl ?_|refine aK ?_|refine aX ?_)
 exact cR rfl (rt rfl) (rt rfl) ⟨rfl, hE1⟩
end Go.Proofs.Ytiejljicpinheaa
namespace Go.LA
theorem HF.inLk {rows cols k : Nat} {H : Mat} {p : Nat → Nat} (h : HF rows cols H k p) (v : Vec) : InL rows cols H v ↔ InL rows k H v := by
 constructor
 ·rintro ⟨x, hx⟩; exact ⟨x, fun r hr => by rw [hx r hr, h.mvk x hr]⟩
 ·rintro ⟨x, hx⟩
  refine ⟨fun j => if j < k then x j else 0, fun r hr => ?_⟩
  rw [h.mvk _ hr, hx r hr]
  exact cX (fun _ _ => rfl) fun j hj => by rw [if_pos hj]
theorem HF.latt {rows cols cols' k k' : Nat} {H H' : Mat} {p p' : Nat → Nat} (h : HF rows cols H k p) (h' : HF rows cols' H' k' p') :
  (∀ v, InL rows cols H v ↔ InL rows cols' H' v) ↔ k = k' ∧ ∀ i j, i < rows → j < k → H i j = H' i j := by
 constructor
 ·intro hL; obtain ⟨h1, _, h3⟩ := h.unique h' hL; exact ⟨h1, fun i j hi hj => h3 j hj i hi⟩
 ·rintro ⟨rfl, he⟩ v
  rw [h.inLk, h'.inLk]
  exact ⟨fun hv => hv.mat he, fun hv => hv.mat fun i j hi hj => (he i j hi hj).symm⟩
end Go.LA
namespace Go.Proofs.Ytiejljicpinheaa
open Go.W Go.LM Go.LA
set_option maxHeartbeats 2000000 in
theorem py {K n n' ca cb : Nat} {w : World} {a b : Option Addr} {s s' : Nat → SD} {A B : Mat} (hA : AM K w a n s A) (hB : AM K w b n' s' B) (hK1 : 1 ≤ K) (hK : 300 * K + 1000 < 4398046511104) :
  CallsR Try.prog 16 #[.slice a n ca, .slice b n' cb] w fun v w' => ∃ t : Bool, v = .bool t ∧ (t = true ↔ okS n s ∧ okS n' s' ∧ n = n' ∧ ∀ v, InL n (s 0).len A v ↔ InL n (s' 0).len B v) ∧ Ex w w' := by
 refine aG (args := [_, _]) Try.func16 rfl rfl ?_
 repeat' (first|refine ai rfl ?_|refine aa ?_|refine aj ?_|refine ah rfl ?_|refine ae ?_)
 by_cases oka : okS n s
 ·refine aw (fS (hA.mx oka) (gA oka) (eR oka) hK1 hK) rfl ?_
  rintro v w1 ⟨H, U, k, p, u, rfl, hC, hF, h0, hO, hE1⟩
  refine ⟨fun _ _ => trivial, ?_⟩
  repeat' (first|refine aO rfl rfl ?_|refine ai rfl ?_|refine aa ?_|refine aj ?_|refine ah rfl ?_|refine ae ?_)
  have hB1 := hB.ext hE1
  by_cases okb : okS n' s'
  ·refine aw (fS (hB1.mx okb) (gA okb) (eR okb) hK1 hK) rfl ?_
   rintro v w2 ⟨H', U', k', p', u', rfl, hC', hF', h0', hO', hE2⟩
   refine ⟨fun _ _ => trivial, ?_⟩
   have hE := hE1.trans hE2
   have hkc := hF.kc
   have hkc' := hF'.kc
   have hca := eR oka
   have hcb := eR okb
   by_cases hnn : n = n'
   ·subst hnn
    have hlat : (∀ v, InL n (s 0).len A v ↔ InL n (s' 0).len B v) ↔ k = k' ∧ ∀ i j, i < n → j < k → H i j = H' i j := by
     rw [← hF.latt hF']
     exact ⟨fun h v => by rw [hC.inL, hC'.inL]; exact h v, fun h v => by rw [← hC.inL, ← hC'.inL]; exact h v⟩
    have hr := gA oka
    rcases Nat.eq_zero_or_pos k with hk | hk
    ·obtain rfl := h0 hk
     rcases Nat.eq_zero_or_pos k' with hk' | hk'
     ·obtain rfl := h0' hk'
      repeat' (first|refine aO rfl rfl ?_|refine dq rfl rfl rfl ?_|refine dR rfl rfl ?_|refine ai rfl ?_|refine aa ?_|refine aj ?_|refine ah rfl ?_|refine ae ?_|refine aY rfl ?_|refine bG rfl rfl ?_|refine bP rfl rfl ?_|refine aC rfl ?_|refine ay rfl ?_|refine aK ?_|refine aX ?_|refine aF ?_)
      exact bB rfl (rt rfl) ⟨true, rfl, ⟨fun _ => ⟨oka, okb, rfl, hlat.2 ⟨by omega, fun i j _ hj => by omega⟩⟩, fun _ => rfl⟩, hE⟩
     ·obtain ⟨g', gs', cp', rfl, hM'⟩ := hO' hk'
      repeat' (first|refine aO rfl rfl ?_|refine dq rfl rfl rfl ?_|refine dR rfl rfl ?_|refine ai rfl ?_|refine aa ?_|refine aj ?_|refine ah rfl ?_|refine ae ?_|refine aY rfl ?_|refine bG rfl rfl ?_|refine bP rfl rfl ?_|refine aC rfl ?_|refine ay rfl ?_|refine aK ?_|refine aX ?_|refine aF ?_)
      exact bB rfl (rt rfl) ⟨false, rfl, ⟨fun h => (nomatch h), fun h => by have := (hlat.1 h.2.2.2).1; omega⟩, hE⟩
    ·obtain ⟨g, gs, cp, rfl, hM⟩ := hO hk
     rcases Nat.eq_zero_or_pos k' with hk' | hk'
     ·obtain rfl := h0' hk'
      repeat' (first|refine aO rfl rfl ?_|refine dq rfl rfl rfl ?_|refine dR rfl rfl ?_|refine ai rfl ?_|refine aa ?_|refine aj ?_|refine ah rfl ?_|refine ae ?_|refine aY rfl ?_|refine bG rfl rfl ?_|refine bP rfl rfl ?_|refine aC rfl ?_|refine ay rfl ?_|refine aK ?_|refine aX ?_|refine aF ?_)
      exact bB rfl (rt rfl) ⟨false, rfl, ⟨fun h => (nomatch h), fun h => by have := (hlat.1 h.2.2.2).1; omega⟩, hE⟩
     ·obtain ⟨g', gs', cp', rfl, hM'⟩ := hO' hk'
      repeat' (first|refine aO rfl rfl ?_|refine dq rfl rfl rfl ?_|refine dR rfl rfl ?_|refine ai rfl ?_|refine aa ?_|refine aj ?_|refine ah rfl ?_|refine ae ?_|refine aY rfl ?_|refine bG rfl rfl ?_|refine ay rfl ?_|refine aF ?_)
      refine aw (m0 (hM.ext hE2).mx hM'.mx hr ⟨by omega, by omega⟩ hr ⟨by omega, by omega⟩) rfl ?_
      rintro v w3 ⟨t, rfl, ht, hE3⟩
      refine ⟨fun _ _ => trivial, ?_⟩
      repeat' (first|refine ai rfl ?_|refine aa ?_|refine ae ?_|refine aK ?_)
      exact bB rfl (rt rfl) ⟨t, rfl, ht.trans ⟨fun h => ⟨oka, okb, rfl, hlat.2 h.2⟩, fun h => ⟨rfl, hlat.1 h.2.2.2⟩⟩, hE.trans hE3⟩
   ·repeat' (first|refine aO rfl rfl ?_|refine eQ rfl rfl (by omega) ?_|refine ai rfl ?_|refine aa ?_|refine aj ?_|refine ah rfl ?_|refine ae ?_|refine aY rfl ?_|refine bG rfl rfl ?_|refine aC rfl ?_|refine aK ?_|refine aX ?_)
    exact bB rfl (rt rfl) ⟨false, rfl, ⟨fun h => (nomatch h), fun h => absurd h.2.2.1 hnn⟩, hE⟩
  ·refine aw (kp hB1.top okb) rfl ?_
   rintro v w2 ⟨rfl, hE2⟩
   refine ⟨fun _ _ => trivial, ?_⟩
   repeat' (first|refine aO rfl rfl ?_|refine ai rfl ?_|refine aa ?_|refine aj ?_|refine ah rfl ?_|refine ae ?_|refine bG rfl rfl ?_|refine bP rfl rfl ?_|refine aC rfl ?_|refine aK ?_|refine aX ?_)
   exact bB rfl (rt rfl) ⟨false, rfl, ⟨fun h => (nomatch h), fun h => absurd h.2.1 okb⟩, hE1.trans hE2⟩
 ·refine aw (kp hA.top oka) rfl ?_
  rintro v w1 ⟨rfl, hE1⟩
  refine ⟨fun _ _ => trivial, ?_⟩
  repeat' (first|refine aO rfl rfl ?_|refine ai rfl ?_|refine aa ?_|refine aj ?_|refine ah rfl ?_|refine ae ?_)
  have hB1 := hB.ext hE1
  by_cases okb : okS n' s'
  ·refine aw (fS (hB1.mx okb) (gA okb) (eR okb) hK1 hK) rfl ?_
   rintro v w2 ⟨H', U', k', p', u', rfl, hC', hF', h0', hO', hE2⟩
   refine ⟨fun _ _ => trivial, ?_⟩
   repeat' (first|refine aO rfl rfl ?_|refine ai rfl ?_|refine aa ?_|refine aj ?_|refine ah rfl ?_|refine ae ?_|refine bP rfl rfl ?_|refine aC rfl ?_|refine aK ?_|refine aX ?_)
   exact bB rfl (rt rfl) ⟨false, rfl, ⟨fun h => (nomatch h), fun h => absurd h.1 oka⟩, hE1.trans hE2⟩
  ·refine aw (kp hB1.top okb) rfl ?_
   rintro v w2 ⟨rfl, hE2⟩
   refine ⟨fun _ _ => trivial, ?_⟩
   repeat' (first|refine aO rfl rfl ?_|refine ai rfl ?_|refine aa ?_|refine aj ?_|refine ah rfl ?_|refine ae ?_|refine bP rfl rfl ?_|refine aC rfl ?_|refine aK ?_|refine aX ?_)
   exact bB rfl (rt rfl) ⟨false, rfl, ⟨fun h => (nomatch h), fun h => absurd h.1 oka⟩, hE1.trans hE2⟩
end Go.Proofs.Ytiejljicpinheaa
namespace Go.Proofs.Ytiejljicpinheaa
open Go.W Go.LM Go.LA
set_option maxHeartbeats 4000000 in
theorem rf {cn : Bool} {K r c cap : Nat} {w : World} {a : Option Addr} {s : Nat → SD} {F : Mat} (hM : MX cn K w a r c s F) (hr : 1 ≤ r ∧ r ≤ 1000) (hc : 1 ≤ c ∧ c ≤ 1000) :
  CallsR Try.prog 19 #[.slice a r cap] w (RetMO K w r c F) := by
 have hpt := hM.plain (by omega)
 refine aG (args := [_]) Try.func19 rfl rfl ?_
 repeat' (first|refine dE (n := r) rfl rfl (by omega) (by omega) (fun g w1 hn1 => ⟨fun _ _ => trivial, ?_⟩)|refine ai rfl ?_|refine aa ?_|refine aj ?_|refine ah rfl ?_|refine ae ?_|refine aY rfl ?_|refine aB ?_)
 refine aW (ι := Nat × (Nat → Nat) × (Nat → Nat)) [4, 6, 12, 13, 14, 15, 16, 17, 18, 19, 20, 21, 22, 23, 24, 25, 26, 27, 28, 29, 30, 31, 32, 33, 34, 35, 36] (fun t => [(12, .int .i64 (t.1 : Int))])
  (fun t w' => t.1 ≤ r ∧ Ex w w' ∧ MP true K w' w.heap.size g r c t.1 t.2.1 t.2.2 F) (fun t => r - t.1)
  (0, fun _ => 0, fun _ => 0) ⟨rfl, trivial⟩ ⟨by simp only; omega, hn1.ex, MP.start hn1.blk hn1.lo⟩ ?_
 rintro ⟨i, gs, cp⟩ ξ w2 ⟨hi, hE2, hP2⟩
 simp only at hi hP2
 show CW _ _ _ _ (over [(12, .int .i64 (i : Int))] _) w2
 rcases Nat.lt_or_ge i r with hir | hir
 ·obtain ⟨pa, d, hh, e1, e2, hpp, hS, hEn⟩ := (hM.ext hE2).get hir (by omega)
  repeat' (first|refine bv rfl rfl (by omega) ?_|refine aD (j := i) (a := a) rfl rfl hpt (by omega) ?_|refine aZ (j := i) (a := a) (n := r) (s := s) rfl (hM.ext hE2).top (by omega) e1 ?_|refine ai rfl ?_|refine aa ?_|refine aj ?_|refine ah rfl ?_|refine ae ?_|refine aY rfl ?_|refine aC rfl ?_|refine aB ?_|refine aF ?_)
  refine aW (ι := Nat × SD × (Nat → IH)) [6, 20, 21, 22, 23, 24, 25, 26, 27, 28, 29, 30, 31, 32, 33, 34, 35] (fun t => [(20, .int .i64 (t.1 : Int))])
   (fun t w' => t.1 ≤ c ∧ Ex w w' ∧ GR true K w' w.heap.size g r c i t.1 gs cp F t.2.1 t.2.2) (fun t => c - t.1)
   (0, sd0, fun _ => ih0) ⟨rfl, trivial⟩ ⟨by simp only; omega, hE2, GR.start hP2⟩ ?_
  clear hP2 hS hEn
  rintro ⟨j, sd, h⟩ ξ2 w3 ⟨hj, hE3, hG3⟩
  simp only at hj hG3
  show CW _ _ _ _ (over [(20, .int .i64 (j : Int))] _) w3
  obtain ⟨pa', d', hh, e1', e2', hp', hS, hEn⟩ := (hM.ext hE3).get hir (by omega)
  rw [e1] at e1'
  obtain ⟨rfl, rfl⟩ : pa = pa' ∧ d = d' := by cases e1'; exact ⟨rfl, rfl⟩
  rcases Nat.lt_or_ge j c with hje | hje
  ·repeat' (first|refine bv rfl rfl (by omega) ?_|refine bj (j := j) (a := pa) rfl rfl hpp (by omega) ?_|refine bD (j := j) (a := pa) rfl hS hpp (by omega) ?_|refine aa ?_|refine aj ?_|refine ah rfl ?_|refine ae ?_|refine aC rfl ?_|refine aB ?_|refine aF ?_)
   refine aE (fun g11 w4 hn4 => ⟨fun _ _ => trivial, ?_⟩)
   have hb4 : Blk w4 g11 49 (intL false none 0 0) := hn4.blk
   refine au (n := 2) (vs := (hh j).cells) rfl rfl rfl rfl hb4 rfl (fun w5 hc5 hb5 => ⟨fun _ _ => trivial, ?_⟩)
   have hE35 : Ex w3 w5 := hn4.ex.chg hc5 hn4.lo
   have hG5 := hG3.ext hE35
   have lgt := hG3.top.lt
   have hsE := hE3.size
   have l4 := hn4.lo
   have hng : g ≠ g11 := by omega
   have own : ∀ q, (Value.slice sd.a sd.len sd.cap).ownBlock = some q → q ≠ g ∧ q ≠ g11 ∧ w.heap.size ≤ q := fun q e => by
    obtain ⟨h1, ⟨ad, h2, h3⟩, h4⟩ := RowG.bk hG3.cur q e
    have := h4.lt
    exact ⟨fun e' => (hG3.new ad h2).1 (by omega), by omega, h1⟩
   repeat' (first|refine aa ?_|refine ae ?_)
   refine bn (late := [11]) (plan := [(0, none), (1, none), (2, none), (3, none), (4, none), (5, none), (6, none), (7, some true), (8, some true), (9, some true), (10, none), (11, some false)]) (fun w' => w5.grownBy w' (Value.slice sd.a sd.len sd.cap).ownBlock) bC (by kernel_rfl) (k6 (nZ (Ex.refl _))) ?_
   have hEd := (Ex.refl w5).drew
   repeat' (first|refine aD (j := i) (a := some ⟨g, 0, none⟩) rfl rfl ⟨_, _, rfl⟩ (by omega) ?_|refine aZ (j := i) (a := some ⟨g, 0, none⟩) (n := r) (a1 := sd.a) (l1 := sd.len) (c1 := sd.cap) rfl (fun _ h => (hG5.topB h).sl) (by omega) (by rw [aN]) ?_|refine aR (g := g11) rfl (fun _ h => hb5.gb h (fun e => (own _ e).2.1 rfl)) rfl ?_|refine ai rfl ?_)
   refine aw (eM ((hEn j (by omega)).ext (hE35.trans hEd)).k) rfl ?_
   rintro v w6 ⟨hI6, hE6⟩
   refine ⟨fun _ h => bJ h (nZ hE6) (fun k e => .inl e), ?_⟩
   obtain ⟨u, rfl⟩ := hI6.ih
   have hE56 := hEd.trans hE6
   have hG6 := hG5.ext hE56
   skip
   refine oO (E := 49) rfl rfl rfl (fun w1 w2 h1 h2 => bJ h2 h1 (fun k e => .inl e)) hG6.cur (by omega) (by omega) (by have := hE35.size; have := hE56.size; omega) ?_
   intro gt sd' h' w7 hR7 hf1 hf2 hG7 hA7
   repeat' (first|refine aD (j := i) (a := some ⟨g, 0, none⟩) rfl rfl ⟨_, _, rfl⟩ (by omega) ?_)
   refine cg (j := i) (u := sd') rfl rfl (hG6.topB hG7) (by omega) (fun w8 hc8 hT8 => ⟨fun h => (nomatch h), ?_⟩)
   have hE06 := (hE3.trans hE35).trans hE56
   repeat' (first|refine ai rfl ?_|refine aa ?_|refine ah rfl ?_|refine ae ?_|refine bi rfl rfl (by omega) (by omega) ?_|refine aJ ?_)
   exact ⟨⟨(j + 1, sd', h'), ⟨hje, (hE06.gb hG7 (fun q e => (own q e).2.2)).chg hc8 hG3.low, hG6.app hR7 hf1 hf2 hG7 hA7 (Ent.of hI6 (hEn j (by omega)).lb) hc8 hT8⟩, by simp only; omega, rfl, trivial⟩, (by (repeat (first|exact aH _ _ _|refine ax rfl ?_|refine av rfl ?_|refine ak rfl ?_|refine ao rfl ?_)))⟩
  ·have eje : j = c := by omega
   subst eje
   repeat' (first|refine bu rfl rfl (by omega) ?_|refine ai rfl ?_|refine aa ?_|refine aj ?_|refine ah rfl ?_|refine ae ?_|refine bi rfl rfl (by omega) (by omega) ?_|refine ay rfl ?_|refine aS ?_|refine aL ?_|refine aT ?_|refine aJ ?_)
   obtain ⟨gs', cp', hP⟩ := hG3.fin (by omega)
   exact ⟨⟨(i + 1, gs', cp'), ⟨hir, hE3, hP⟩, by simp only; omega, rfl, trivial⟩, (by (repeat (first|exact aH _ _ _|refine ax rfl ?_|refine av rfl ?_|refine ak rfl ?_|refine ao rfl ?_)))⟩
 ·have eir : r = i := by omega
  subst eir
  repeat' (first|refine bu rfl rfl (by omega) ?_|refine ai rfl ?_|refine aa ?_|refine aj ?_|refine ah rfl ?_|refine ae ?_|refine ay rfl ?_|refine aS ?_|refine aL ?_|refine aT ?_|refine aK ?_)
  exact bB rfl (rt rfl) ⟨g, gs, cp, rfl, hP2.fin, hE2⟩
end Go.Proofs.Ytiejljicpinheaa
namespace Go.Proofs.Ytiejljicpinheaa
open Go.W Go.LM Go.LA
section
variable {K lo gp r c g g' : Nat} {w w' : World} {gs cp gs' cp' : Nat → Nat} {H U H' U' : Mat}
end
theorem tT (M : Mat) (t p q a b : Nat) : (if a < t + 1 then cswp M p q a b else M a b) = setM (setM (fun a b => if a < t then cswp M p q a b else M a b) t p (M t q)) t q (M t p) a b := by
 by_cases h1 : a = t
 ·subst h1
  by_cases h2 : b = q
  ·subst h2
   by_cases h3 : b = p
   ·subst h3; simp [setM, cswp]
   ·simp [setM, cswp, h3]
  ·by_cases h3 : b = p
   ·subst h3; simp [setM, cswp, h2]
   ·simp [setM, cswp, h2, h3]
 ·by_cases h2 : a < t
  ·have h4 : a < t + 1 := by omega
   simp [setM, h1, h2, h4]
  ·have h4 : ¬ a < t + 1 := by omega
   simp [setM, h1, h2, h4]
end Go.Proofs.Ytiejljicpinheaa
namespace Go.LA
def RkD (R C : Nat) (A : Mat) (k : Nat) : Prop := ∃ P : Mat, ∀ x, x < C → ∃ (d : Int) (co : Vec), d ≠ 0 ∧ ∀ i, i < R → d * A i x = sm k fun a => P i a * co a
def RkM (R C : Nat) (A : Mat) (k : Nat) : Prop := ∃ (X : Mat) (ρ : Nat → Nat), (∀ a, a < k → ρ a < R) ∧ det k (fun a b => mm C A X (ρ a) b) ≠ 0
def Rk (R C : Nat) (A : Mat) (k : Nat) : Prop := RkD R C A k ∧ RkM R C A k
theorem p8 {R k : Nat} {A P : Mat} : ∀ (C : Nat), (∀ x, x < C → ∃ (d : Int) (co : Vec), d ≠ 0 ∧ ∀ i, i < R → d * A i x = sm k fun a => P i a * co a) →
  ∃ (D : Int) (Y : Mat), D ≠ 0 ∧ ∀ i x, i < R → x < C → D * A i x = sm k fun a => P i a * Y a x
 | 0, _ => ⟨1, fun _ _ => 0, by omega, fun i x _ h => absurd h (Nat.not_lt_zero _)⟩
 | C + 1, h => by
  obtain ⟨D, Y, hD, hY⟩ := p8 C fun x hx => h x (by omega)
  obtain ⟨d, co, hd, hco⟩ := h C (by omega)
  refine ⟨d * D, fun a x => if x = C then D * co a else d * Y a x, Int.mul_ne_zero hd hD, fun i x hi hx => ?_⟩
  by_cases e : x = C
  ·subst e
   rw [show d * D * A i x = D * (d * A i x) by grind, hco i hi, ← bX]
   exact aV fun a _ => by show _ = P i a * (if x = x then _ else _); rw [if_pos rfl]; grind
  ·rw [show d * D * A i x = d * (D * A i x) by grind, hY i x hi (by omega), ← bX]
   exact aV fun a _ => by show _ = P i a * (if x = C then _ else _); rw [if_neg e]; grind
theorem vR (n : Nat) (D : Int) (M : Mat) : det n (fun a b => D * M a b) = D ^ n * det n M := by
 have h : det n (fun a b => D * M a b) = det n (mm n (fun a b => D * idM a b) M) := bo fun a b ha _ => by
  show D * M a b = sm n fun k => D * idM a k * M k b
  rw [cf ha fun i _ hne => by rw [bF (Ne.symm hne)]; grind]
  rw [bA]; grind
 rw [h, dB, dw (fun r c _ hrc => by rw [bF (by omega)]; grind), gc n D fun i _ => by rw [bA]; grind]
theorem vU {R C k m : Nat} {A : Mat} (h : RkM R C A k) (h' : RkD R C A m) : k ≤ m := by
 refine Nat.le_of_not_lt fun hkm => ?_
 obtain ⟨X, ρ, hρ, hdet⟩ := h
 obtain ⟨P, hP⟩ := h'
 obtain ⟨D, Y, hD, hY⟩ := p8 C hP
 have e : det k (fun a b => D * mm C A X (ρ a) b) = det k (mm k (fun a l => if l < m then P (ρ a) l else 0) (fun l b => if l < m then mm C Y X l b else 0)) := bo fun a b ha hb => by
  obtain ⟨q, rfl⟩ : ∃ q, k = m + q := ⟨k - m, by omega⟩
  show D * mm C A X (ρ a) b = sm (m + q) fun l => (if l < m then P (ρ a) l else 0) * (if l < m then mm C Y X l b else 0)
  rw [fx, fg (n := q) fun i _ => by rw [if_neg (by omega)]; exact Int.zero_mul _, Int.add_zero]
  show D * sm C (fun x => A (ρ a) x * X x b) = _
  rw [← bX, aV (g := fun x => sm m fun l => P (ρ a) l * (Y l x * X x b)) fun x hx => by
   rw [← Int.mul_assoc, hY _ x (hρ a ha) hx, ← eX]
   exact aV fun l _ => Int.mul_assoc _ _ _]
  rw [fJ]
  exact aV fun l hl => by rw [if_pos hl, if_pos hl, bX]; rfl
 rw [vR, dB, fK (n := k) (j := m) (M := fun a l => if l < m then P (ρ a) l else 0) hkm fun r _ => if_neg (Nat.lt_irrefl m), Int.zero_mul] at e
 rcases Int.mul_eq_zero.1 e with h | h
 ·exact nw hD k h
 ·exact hdet h
theorem Rk.unique {R C k m : Nat} {A : Mat} (h : Rk R C A k) (h' : Rk R C A m) : k = m := Nat.le_antisymm (vU h.2 h'.1) (vU h'.2 h.1)
theorem HF.rk {R C k : Nat} {A H U : Mat} {p : Nat → Nat} (h : HF R C H k p) (hU : CEq R C A H U) : Rk R C A k := by
 refine ⟨⟨H, fun x hx => ⟨1, fun a => uinv C U a x, by omega, fun i hi => ?_⟩⟩, ⟨U, p, h.lt, ?_⟩⟩
 ·rw [Int.one_mul]
  have e1 : mm C (mm C A U) (uinv C U) i x = A i x := by
   rw [ij, d9 (A' := A) (B' := idM) (fun _ _ => rfl) fun l hl => hU.1.mul_inv hl hx, p6 A i x hx]
  rw [← e1]
  have e2 : mm C (mm C A U) (uinv C U) i x = mv C H (fun a => uinv C U a x) i := aV fun l hl => by rw [hU.2 i l hi hl]
  rw [e2, h.mvk _ hi]; rfl
 ·rw [bo (M' := fun a b => H (p a) b) fun a b ha hb => by rw [hU.2 _ _ (h.lt a ha) (by have := h.kc; omega)]]
  rw [dw fun r c hc hrc => h.zero c hc _ (h.mono r c hrc hc)]
  have : ∀ n, n ≤ k → pr n (fun i => H (p i) i) ≠ 0 := fun n => by
   induction n with
   | zero => intro _; show (1 : Int) ≠ 0; omega
   | succ n ih => intro hn; show pr n _ * _ ≠ 0; exact Int.mul_ne_zero (ih (by omega)) (Int.ne_of_gt (h.pos n (by omega)))
  exact this k (Nat.le_refl _)
structure RbJ (R C : Nat) (A : Mat) (k : Nat) (B : Mat) (last : Int) (ρ γ : Nat → Nat) : Prop where
 kzr : k ≤ R
 kc : k ≤ C
 rlt : ∀ i, i < R → ρ i < R
 rin : ∀ i, i < R → ∃ i', i' < R ∧ ρ i' = i
 clt : ∀ j, j < C → γ j < C
 cin : ∀ j, j < C → ∃ j', j' < C ∧ γ j' = j
 ld : det k (fun a b => A (ρ a) (γ b)) = last
 ne : last ≠ 0
 val : ∀ i j, k ≤ i → i < R → k ≤ j → j < C → B i j = bm (fun a b => A (ρ a) (γ b)) k i j
theorem vS {R C : Nat} {A B : Mat} (h : ∀ i j, i < R → j < C → B i j = A i j) : RbJ R C A 0 B 1 id id :=
 ⟨Nat.zero_le _, Nat.zero_le _, fun _ h => h, fun i h => ⟨i, h, rfl⟩, fun _ h => h, fun i h => ⟨i, h, rfl⟩, rfl, by omega, fun i j _ hi _ hj => by rw [ry]; exact h i j hi hj⟩
def trn (k p i : Nat) : Nat := if i = k then p else if i = p then k else i
theorem k7 {k p i n : Nat} (hk : k < n) (hp : p < n) (hi : i < n) : trn k p i < n := by unfold trn; split; exact hp; split <;> omega
theorem vQ (k p i : Nat) : trn k p (trn k p i) = i := by unfold trn; repeat' split
                                                         all_goals omega
theorem k8 {k p i : Nat} (hp : k ≤ p) (hi : i < k) : trn k p i = i := by unfold trn; rw [if_neg (by omega), if_neg (by omega)]
theorem vT {k p i : Nat} (hp : k ≤ p) (hi : k ≤ i) : k ≤ trn k p i := by unfold trn; split; exact hp; split <;> omega
theorem RbJ.rows {R C k p : Nat} {A B B' : Mat} {last : Int} {ρ γ : Nat → Nat} (h : RbJ R C A k B last ρ γ) (hp : k ≤ p) (hpR : p < R) (hB : ∀ i j, i < R → j < C → B' i j = B (trn k p i) j) : RbJ R C A k B' last (fun i => ρ (trn k p i)) γ := by
 have hk : k < R := by omega
 refine ⟨h.kzr, h.kc, fun i hi => h.rlt _ (k7 hk hpR hi), fun i hi => ?_, h.clt, h.cin, ?_, h.ne, fun i j h1 h2 h3 h4 => ?_⟩
 ·obtain ⟨i', h1, h2⟩ := h.rin i hi
  exact ⟨trn k p i', k7 hk hpR h1, by show ρ (trn k p (trn k p i')) = i; rw [vQ]; exact h2⟩
 ·rw [← h.ld]; exact bo fun a b ha _ => by rw [k8 hp ha]
 ·rw [hB i j h2 h4, h.val _ j (vT hp h1) (k7 hk hpR h2) h3 h4]
  unfold bm
  refine bo fun a b ha hb => ?_
  unfold brd
  by_cases e : a < k
  ·rw [if_pos e, if_pos e]; show _ = A (ρ (trn k p a)) _; rw [k8 hp e]
  ·rw [if_neg e, if_neg e]
theorem RbJ.cols {R C k p : Nat} {A B B' : Mat} {last : Int} {ρ γ : Nat → Nat} (h : RbJ R C A k B last ρ γ) (hp : k ≤ p) (hpC : p < C) (hB : ∀ i j, i < R → j < C → B' i j = B i (trn k p j)) : RbJ R C A k B' last ρ (fun j => γ (trn k p j)) := by
 have hk : k < C := by omega
 refine ⟨h.kzr, h.kc, h.rlt, h.rin, fun i hi => h.clt _ (k7 hk hpC hi), fun i hi => ?_, ?_, h.ne, fun i j h1 h2 h3 h4 => ?_⟩
 ·obtain ⟨i', h1, h2⟩ := h.cin i hi
  exact ⟨trn k p i', k7 hk hpC h1, by show γ (trn k p (trn k p i')) = i; rw [vQ]; exact h2⟩
 ·rw [← h.ld]; exact bo fun a b _ hb => by rw [k8 hp hb]
 ·rw [hB i j h2 h4, h.val i _ h1 h2 (vT hp h3) (k7 hk hpC h4)]
  unfold bm
  refine bo fun a b ha hb => ?_
  unfold brd
  by_cases e : b < k
  ·rw [if_pos e, if_pos e]; show _ = A _ (γ (trn k p b)); rw [k8 hp e]
  ·rw [if_neg e, if_neg e]
theorem RbJ.exact {R C k : Nat} {A B : Mat} {last : Int} {ρ γ : Nat → Nat} (h : RbJ R C A k B last ρ γ) (hkR : k < R) (hkC : k < C) {i j : Nat} (hi : k ≤ i) (hin : i < R) (hj : k ≤ j) (hjn : j < C) :
  (B k k * B i j - B i k * B k j) = bm (fun a b => A (ρ a) (γ b)) (k + 1) i j * last := by
 rw [h.val k k (Nat.le_refl _) hkR (Nat.le_refl _) hkC, h.val i j hi hin hj hjn, h.val i k hi hin (Nat.le_refl _) hkC, h.val k j (Nat.le_refl _) hkR hj hjn]
 have := ly (M := fun a b => A (ρ a) (γ b)) (k := k) (by rw [h.ld]; exact h.ne) i j
 rw [h.ld] at this
 exact this.symm
theorem RbJ.step {R C k : Nat} {A B B' : Mat} {last : Int} {ρ γ : Nat → Nat} (h : RbJ R C A k B last ρ γ) (hkR : k < R) (hkC : k < C) (hz : B k k ≠ 0) (hB : ∀ i j, k < i → i < R → k < j → j < C → B' i j = (B k k * B i j - B i k * B k j) / last) :
  RbJ R C A (k + 1) B' (B k k) ρ γ := by
 refine ⟨hkR, hkC, h.rlt, h.rin, h.clt, h.cin, ?_, hz, fun i j h1 h2 h3 h4 => ?_⟩
 ·rw [h.val k k (Nat.le_refl _) hkR (Nat.le_refl _) hkC, rB]
 ·rw [hB i j (by omega) h2 (by omega) h4, h.exact hkR hkC (by omega) h2 (by omega) h4, Int.mul_ediv_cancel _ h.ne]
theorem RbJ.fin {R C k : Nat} {A B : Mat} {last : Int} {ρ γ : Nat → Nat} (h : RbJ R C A k B last ρ γ) (hz : ∀ i j, k ≤ i → i < R → k ≤ j → j < C → B i j = 0) : Rk R C A k := by
 have hdet : det k (fun a b => (fun a b => A (ρ a) (γ b) : Mat) a ((id : Nat → Nat) b)) ≠ 0 := by show det k (fun a b => A (ρ a) (γ b)) ≠ 0; rw [h.ld]; exact h.ne
 refine ⟨⟨fun i a => A i (γ a), fun x hx => ?_⟩, ⟨fun x b => idM x (γ b), ρ, fun a ha => h.rlt a (by have := h.kzr; omega), ?_⟩⟩
 ·obtain ⟨j, hj, rfl⟩ := h.cin x hx
  have hfin : ∀ i, i < R → (∃ i', i' < R ∧ ρ i' = i) := h.rin
  by_cases hjk : j < k
  ·exact ⟨1, fun a => idM a j, by omega, fun i hi => by
    rw [cf hjk fun a _ hne => by show A i (γ a) * idM a j = 0; rw [bF hne, Int.mul_zero]]
    show 1 * A i (γ j) = A i (γ j) * idM j j; rw [bA]; omega⟩
  ·obtain ⟨co, hco⟩ := sZ (N := fun a b => A (ρ a) (γ b)) (l := id) (c := R) (x := j) hdet fun i hi hin => by
    have := hz i j hi hin (by omega) hj
    rw [h.val i j hi hin (by omega) hj] at this
    exact this
   refine ⟨_, co, hdet, fun i hi => ?_⟩
   obtain ⟨i', h1, rfl⟩ := hfin i hi
   rw [hco i' h1]
   exact aV fun a _ => Int.mul_comm _ _
 ·rw [bo (M' := fun a b => A (ρ a) (γ b)) fun a b ha hb => by
   show sm C (fun x => A (ρ a) x * idM x (γ b)) = _
   rw [cf (h.clt b (by have := h.kc; omega)) fun x _ hne => by rw [bF hne, Int.mul_zero]]
   rw [bA, Int.mul_one], h.ld]
  exact h.ne
end Go.LA
