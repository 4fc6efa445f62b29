import Derived.Test.YtiejljicpinheaaA14
namespace Go.Proofs.Ytiejljicpinheaa
open Go.W Go.LM Go.LA
theorem RO.sharp {K K' n lo g cap : Nat} {w : World} {f : Nat → Int} (h : RO true K w lo g cap n f) (hb : ∀ i, i < n → Lb K' (f i)) : RO true K' w lo g cap n f := by
 obtain ⟨hh, h1, h2⟩ := h.ex
 exact ⟨h.low, h.le, hh, h1, fun j hj => (h2 j hj).sharp (hb j hj)⟩
theorem MO.two {cn : Bool} {K n R lo g i j ga gb ca cb : Nat} {w : World} {gs cap : Nat → Nat} {F : Nat → Nat → Int} {fa fb : Nat → Int} (hij : i ≠ j) (hlo : lo ≤ g)
  (hT : Blk w g 30 (topC n (setF (setF (fun k => (⟨some ⟨gs k, 0, none⟩, R, cap k⟩ : SD)) i ⟨some ⟨ga, 0, none⟩, R, ca⟩) j ⟨some ⟨gb, 0, none⟩, R, cb⟩)))
  (hr : ∀ k, k < n → k ≠ i → k ≠ j → RO cn K w lo (gs k) (cap k) R (F k) ∧ gs k ≠ g ∧ gs k ≠ ga ∧ gs k ≠ gb) (hinj : ∀ k l, k < n → l < n → gs k = gs l → k = l)
  (ha : RO cn K w lo ga ca R fa) (hb : RO cn K w lo gb cb R fb) (hag : ga ≠ g) (hbg : gb ≠ g) (hab : ga ≠ gb) :
  MO cn K w lo g n R (setF (setF gs i ga) j gb) (setF (setF cap i ca) j cb) (setF (setF F i fa) j fb) := by
 refine ⟨hlo, ?_, fun k hk => ?_, fun k hk => ?_, fun k l hk hl he => ?_⟩
 ·rw [bV (s' := setF (setF (fun k => (⟨some ⟨gs k, 0, none⟩, R, cap k⟩ : SD)) i ⟨some ⟨ga, 0, none⟩, R, ca⟩) j ⟨some ⟨gb, 0, none⟩, R, cb⟩) (fun k _ => ?_)]
  ·exact hT
  ·unfold setF
   by_cases h1 : k = j
   ·simp [h1]
   ·by_cases h2 : k = i
    ·simp [h2, hij]
    ·simp [h1, h2]
 ·by_cases h1 : k = j
  ·subst h1; rw [aN, aN, aN]; exact hb
  ·rw [aQ _ _ h1, aQ _ _ h1, aQ _ _ h1]
   by_cases h2 : k = i
   ·subst h2; rw [aN, aN, aN]; exact ha
   ·rw [aQ _ _ h2, aQ _ _ h2, aQ _ _ h2]; exact (hr k hk h2 h1).1
 ·by_cases h1 : k = j
  ·subst h1; rw [aN]; exact hbg
  ·rw [aQ _ _ h1]
   by_cases h2 : k = i
   ·subst h2; rw [aN]; exact hag
   ·rw [aQ _ _ h2]; exact (hr k hk h2 h1).2.1
 ·have e : ∀ k, k < n → (k = j ∧ setF (setF gs i ga) j gb k = gb) ∨ (k = i ∧ setF (setF gs i ga) j gb k = ga) ∨ (k ≠ i ∧ k ≠ j ∧ setF (setF gs i ga) j gb k = gs k) := fun k _ => by
   by_cases h1 : k = j
   ·subst h1; exact .inl ⟨rfl, aN _ _ _⟩
   ·by_cases h2 : k = i
    ·subst h2; exact .inr (.inl ⟨rfl, by rw [aQ _ _ h1, aN]⟩)
    ·exact .inr (.inr ⟨h2, h1, by rw [aQ _ _ h1, aQ _ _ h2]⟩)
  rcases e k hk with ⟨h1, e1⟩ | ⟨h1, e1⟩ | ⟨h1, h1', e1⟩ <;> rcases e l hl with ⟨h2, e2⟩ | ⟨h2, e2⟩ | ⟨h2, h2', e2⟩ <;> rw [e1, e2] at he
  ·omega
  ·exact absurd he (Ne.symm hab)
  ·exact absurd he.symm (hr l hl h2 h2').2.2.2
  ·exact absurd he hab
  ·omega
  ·exact absurd he.symm (hr l hl h2 h2').2.2.1
  ·exact absurd he (hr k hk h1 h1').2.2.2
  ·exact absurd he (hr k hk h1 h1').2.2.1
  ·exact hinj k l hk hl he
theorem te {a b d p q : Int} (hd : d ≠ 0) (h : a * p + b * q = d) (hp : d ∣ p) (hq : d ∣ q) : a * (p / d) + b * (q / d) = 1 ∧ p / d * q - q / d * p = 0 := by
 obtain ⟨p', rfl⟩ := hp
 obtain ⟨q', rfl⟩ := hq
 rw [Int.mul_ediv_cancel_left _ hd, Int.mul_ediv_cancel_left _ hd]
 refine ⟨?_, by grind⟩
 have : d * (a * p' + b * q') = d * 1 := by grind
 exact Int.eq_of_mul_eq_mul_left hd this
set_option maxHeartbeats 4000000 in
theorem n9 {cn : Bool} {K n i j g tc lo : Nat} {w : World} {gs cap : Nat → Nat} {F : Nat → Nat → Int} {vm : Value} {m : Int} (hO : MO cn K w lo g n n gs cap F) (hlo : lo ≤ w.heap.size) (hi : i < j) (hj : j < n) (hn : n ≤ 16) {c4 : Bool} (hm : Ent c4 K w vm m) (hm0 : 0 < m) (hK1 : 1 ≤ K) (hK : 4 * K + 40 < 17592186044415)
  (hp : 0 ≤ F i i ∧ 0 ≤ F j i) (hz : ∀ r, r < i → F i r = 0 ∧ F j r = 0) :
  CallsR Try.prog 88 #[.slice (some ⟨g, 0, none⟩) n tc, .int .i64 i, .int .i64 j, vm] w fun _ w' => ∃ (gs' cap' : Nat → Nat) (F' T : Nat → Nat → Int) (a b x y : Int), w.grownBy w' (some g) ∧ MO cn K w' lo g n n gs' cap' F' ∧ a * x + b * y = 1 ∧
   (∀ r, r < n → F' i r = a * F i r + b * F j r + if i ≤ r then m * T i r else 0) ∧ (∀ r, r < n → F' j r = x * F j r - y * F i r + if i ≤ r then m * T j r else 0) ∧ (∀ k r, k < n → r < n → k ≠ i → k ≠ j → F' k r = F k r) ∧ F' j i = 0 ∧ 0 ≤ F' i i ∧ ∀ k, k < n → gs' k = gs k ∨ w.heap.size ≤ gs' k := by
 obtain ⟨xm, rfl⟩ := hm.ih
 have hin : i < n := by omega
 obtain ⟨hhi, hbi, hci, hEi⟩ := hO.get hin
 obtain ⟨hhj, hbj, hcj, hEj⟩ := hO.get hj
 refine aG (args := [_, _, _, _]) Try.func88 rfl rfl ?_
 refine aj ?_
 refine ah rfl ?_
 refine bH (vs := xm.cells) rfl (fun g1 w1 hn1 => ⟨fun _ _ => trivial, ?_⟩)
 have hb1 := hn1.blk
 have hE1 := hn1.ex
 repeat' (first|refine aa ?_|refine aj ?_|refine ae ?_)
 refine cD (ι := Nat × Nat) [8, 9, 13, 14, 15, 16, 17, 18, 19, 20, 21, 22, 23, 24, 25, 26] (fun t => [(8, .pointer (some ⟨t.1, 0, none⟩)), (9, .pointer (some ⟨t.2, 0, none⟩))])
  (fun t w' => Ex w1 w' ∧ w1.heap.size ≤ t.1 ∧ w1.heap.size ≤ t.2 ∧ t.1 ≠ t.2 ∧ Blk w' t.1 49 (hhi i).cells ∧ Blk w' t.2 49 (hhj i).cells) ?_ ?_
 ·have hEx : Ex w1 w1.drew := (Ex.refl _).drew
  refine dX (fun w' => Ex w1 w') bC hEx ?_
  refine bw (fuel := 4) (by kernel_rfl) (by kernel_rfl) [0, 1, 2, 3, 4, 5, 6, 7, 8, 9, 10, 11, 12, 13] _ _ (by kernel_rfl) ?_
  repeat' (first|refine aD (j := i) (a := some ⟨g, 0, none⟩) rfl rfl ⟨_, _, rfl⟩ (by omega) ?_|refine aD (j := j) (a := some ⟨g, 0, none⟩) rfl rfl ⟨_, _, rfl⟩ (by omega) ?_|refine aZ (j := i) (a := some ⟨g, 0, none⟩) (n := n) (s := fun k => ⟨some ⟨gs k, 0, none⟩, n, cap k⟩) rfl (fun _ h => (hO.ext (hE1.trans h)).top.sl) (by omega) rfl ?_|refine aZ (j := j) (a := some ⟨g, 0, none⟩) (n := n) (s := fun k => ⟨some ⟨gs k, 0, none⟩, n, cap k⟩) rfl (fun _ h => (hO.ext (hE1.trans h)).top.sl) (by omega) rfl ?_|refine bj (j := i) (a := some ⟨gs i, 0, none⟩) rfl rfl ⟨_, _, rfl⟩ (by omega) ?_|refine bj (j := i) (a := some ⟨gs j, 0, none⟩) rfl rfl ⟨_, _, rfl⟩ (by omega) ?_|refine bD (j := i) (n := cap i) (a := some ⟨gs i, 0, none⟩) rfl (fun _ h => (hbi.ext (hE1.trans h)).sl) ⟨_, _, rfl⟩ (by omega) ?_|refine bD (j := i) (n := cap j) (a := some ⟨gs j, 0, none⟩) rfl (fun _ h => (hbj.ext (hE1.trans h)).sl) ⟨_, _, rfl⟩ (by omega) ?_|refine ai rfl ?_|refine ae ?_)
  refine az (fuel := 3) (rs := [14, 15]) (by kernel_rfl) (by kernel_rfl) rfl ?_
  simp only [List.forall_mem_cons, List.not_mem_nil, false_implies, implies_true, and_true]
  refine ⟨?_, ?_⟩
  ·refine aE (fun g8 w8 hn8 => ⟨fun _ h => h.trans hn8.ex, ?_⟩)
   have hb8 : Blk w8 g8 49 (intL false none 0 0) := hn8.blk
   have lo8 : w1.heap.size ≤ g8 := Nat.le_trans hEx.size hn8.lo
   try have ne89 : g8 ≠ g9 := (by have := hb9.lt; have := hn8.lo; omega)
   replace hEx := hEx.trans hn8.ex
   try replace hb9 := hb9.ext hn8.ex
   refine ae ?_
   refine az (fuel := 2) (rs := [15]) (by kernel_rfl) (by kernel_rfl) rfl ?_
   rw [List.forall_mem_singleton]
   refine aE (fun g9 w9 hn9 => ⟨fun _ h => h.trans hn9.ex, ?_⟩)
   have hb9 : Blk w9 g9 49 (intL false none 0 0) := hn9.blk
   have lo9 : w1.heap.size ≤ g9 := Nat.le_trans hEx.size hn9.lo
   try have ne89 : g8 ≠ g9 := (by have := hb8.lt; have := hn9.lo; omega)
   replace hEx := hEx.trans hn9.ex
   try replace hb8 := hb8.ext hn9.ex
   refine ae ?_
   refine az (fuel := 1) (rs := [16]) (by kernel_rfl) (by kernel_rfl) rfl ?_
   rw [List.forall_mem_singleton]
   refine au (n := 2) (vs := (hhi i).cells) rfl rfl rfl rfl hb8 rfl (fun w16 hc16 hb16 => ⟨fun _ h => h.chg hc16 lo8, ?_⟩)
   replace hEx := hEx.chg hc16 lo8
   replace hb9 := hb9.chg hc16 (Ne.symm ne89)
   refine ae ?_
   refine az (fuel := 0) (rs := [17]) (by kernel_rfl) (by kernel_rfl) rfl ?_
   rw [List.forall_mem_singleton]
   refine au (n := 2) (vs := (hhj i).cells) rfl rfl rfl rfl hb9 rfl (fun w17 hc17 hb17 => ⟨fun _ h => h.chg hc17 lo9, ?_⟩)
   replace hEx := hEx.chg hc17 lo9
   replace hb16 := hb16.chg hc17 ne89
   refine ae ?_
   refine bh (by kernel_rfl) ?_
   refine aa ?_
   exact ⟨⟨(_, _), ⟨hEx, lo8, lo9, ne89, hb16, hb17⟩, rfl, rfl, trivial⟩, (by (repeat (first|exact aI _ _|refine ax rfl ?_|refine av rfl ?_|refine ak rfl ?_|refine ao rfl ?_)))⟩
  ·refine aE (fun g9 w9 hn9 => ⟨fun _ h => h.trans hn9.ex, ?_⟩)
   have hb9 : Blk w9 g9 49 (intL false none 0 0) := hn9.blk
   have lo9 : w1.heap.size ≤ g9 := Nat.le_trans hEx.size hn9.lo
   try have ne89 : g8 ≠ g9 := (by have := hb8.lt; have := hn9.lo; omega)
   replace hEx := hEx.trans hn9.ex
   try replace hb8 := hb8.ext hn9.ex
   refine ae ?_
   refine az (fuel := 2) (rs := [14]) (by kernel_rfl) (by kernel_rfl) rfl ?_
   rw [List.forall_mem_singleton]
   refine aE (fun g8 w8 hn8 => ⟨fun _ h => h.trans hn8.ex, ?_⟩)
   have hb8 : Blk w8 g8 49 (intL false none 0 0) := hn8.blk
   have lo8 : w1.heap.size ≤ g8 := Nat.le_trans hEx.size hn8.lo
   try have ne89 : g8 ≠ g9 := (by have := hb9.lt; have := hn8.lo; omega)
   replace hEx := hEx.trans hn8.ex
   try replace hb9 := hb9.ext hn8.ex
   refine ae ?_
   refine az (fuel := 1) (rs := [16]) (by kernel_rfl) (by kernel_rfl) rfl ?_
   rw [List.forall_mem_singleton]
   refine au (n := 2) (vs := (hhi i).cells) rfl rfl rfl rfl hb8 rfl (fun w16 hc16 hb16 => ⟨fun _ h => h.chg hc16 lo8, ?_⟩)
   replace hEx := hEx.chg hc16 lo8
   replace hb9 := hb9.chg hc16 (Ne.symm ne89)
   refine ae ?_
   refine az (fuel := 0) (rs := [17]) (by kernel_rfl) (by kernel_rfl) rfl ?_
   rw [List.forall_mem_singleton]
   refine au (n := 2) (vs := (hhj i).cells) rfl rfl rfl rfl hb9 rfl (fun w17 hc17 hb17 => ⟨fun _ h => h.chg hc17 lo9, ?_⟩)
   replace hEx := hEx.chg hc17 lo9
   replace hb16 := hb16.chg hc17 ne89
   refine ae ?_
   refine bh (by kernel_rfl) ?_
   refine aa ?_
   exact ⟨⟨(_, _), ⟨hEx, lo8, lo9, ne89, hb16, hb17⟩, rfl, rfl, trivial⟩, (by (repeat (first|exact aI _ _|refine ax rfl ?_|refine av rfl ?_|refine ak rfl ?_|refine ao rfl ?_)))⟩
 ·rintro ⟨g8, g9⟩ ξ w2 ⟨hE12, lo8, lo9, ne89, hb8, hb9⟩
  simp only at lo8 lo9 ne89 hb8 hb9
  show CW _ _ _ _ (over [(8, .pointer (some ⟨g8, 0, none⟩)), (9, .pointer (some ⟨g9, 0, none⟩))] _) w2
  have hE2 := hE1.trans hE12
  have hO2 := hO.ext hE2
  have hCel : Cel cn w2 w1.heap.size (K + 1) 2 (setF (setF (fun _ => 0) 0 g8) 1 g9) (setF (setF (fun _ => ih0) 0 (hhi i)) 1 (hhj i)) (setF (setF (fun _ => 0) 0 (F i i)) 1 (F j i)) := by
   refine ⟨fun k hk => ?_, fun k hk => ?_, fun k hk => ?_, fun k l hk hl e => ?_⟩
   ·rcases (show k = 0 ∨ k = 1 by omega) with rfl | rfl
    ·exact hb8
    ·exact hb9
   ·rcases (show k = 0 ∨ k = 1 by omega) with rfl | rfl
    ·exact ((hEi i hin).ext hE2).up (by omega)
    ·exact ((hEj i hin).ext hE2).up (by omega)
   ·rcases (show k = 0 ∨ k = 1 by omega) with rfl | rfl
    ·exact lo8
    ·exact lo9
   ·rcases (show k = 0 ∨ k = 1 by omega) with rfl | rfl <;> rcases (show l = 0 ∨ l = 1 by omega) with rfl | rfl
    ·rfl
    ·exact absurd e ne89
    ·exact absurd e (Ne.symm ne89)
    ·rfl
  repeat' (first|refine aR (g := g9) rfl hb9 rfl ?_|refine aj ?_|refine ah rfl ?_)
  refine aw (cB ((hEj i hin).ext hE2).k) rfl ?_
  rintro v w3 ⟨rfl, hE3⟩
  refine ⟨fun _ _ => trivial, ?_⟩
  by_cases hy : F j i = 0
  ·repeat' (first|(refine gQ rfl rfl (by rw [hy]; rfl) ?_)|refine aa ?_|refine ae ?_|refine aC rfl ?_|refine aK ?_|refine aX ?_)
   refine vy rfl ⟨gs, cap, F, fun _ _ => 0, 1, 0, 1, 0, nZ (hE2.trans hE3), hO2.ext hE3, by omega, fun r _ => ?_, fun r _ => ?_, fun _ _ _ _ _ _ => rfl, hy, hp.1, fun k _ => .inl rfl⟩
   ·rw [Int.mul_zero, ite_self]; omega
   ·rw [Int.mul_zero, ite_self]; omega
  ·have hsg : ¬ (F j i).sign = 0 := fun e => hy (Int.sign_eq_zero_iff_zero.1 e)
   repeat' (first|refine fz rfl rfl hsg ?_|refine aR (g := g8) rfl (hb8.ext hE3) rfl ?_|refine aR (g := g9) rfl (hb9.ext hE3) rfl ?_|refine aa ?_|refine aj ?_|refine ah rfl ?_|refine ae ?_|refine ay rfl ?_|refine aF ?_)
   refine aw (bS (((hEi i hin).ext hE2).ext hE3) (((hEj i hin).ext hE2).ext hE3) hp.1 hp.2 hK1 (by omega)) rfl ?_
   rintro v w4 ⟨_, _, _, d, a, b, rfl, eu1, ld, eu2, eu3, hd0, hab, hdx, hdy, hdz, hE4⟩
   refine ⟨fun _ _ => trivial, ?_⟩
   obtain ⟨u1, rfl⟩ := eu1.ih
   obtain ⟨u2, rfl⟩ := eu2.ih
   obtain ⟨u3, rfl⟩ := eu3.ih
   have s1 := hE1.size
   have s12 := hE12.size
   have hE24 := hE3.trans hE4
   have hd1 : d ≠ 0 := fun e => hy (hdz e).2
   repeat' (first|refine aO rfl rfl ?_|refine ai rfl ?_)
   refine aE (fun g10 w5 hn5 => ⟨fun _ _ => trivial, ?_⟩)
   have hC5 := (hCel.ext hE24).snoc (show New w4 w5 g10 49 (intL false none 0 0) from hn5) (by have := hn5.lo; have := hE24.size; omega)
   refine aE (fun g11 w6 hn6 => ⟨fun _ _ => trivial, ?_⟩)
   have hC6 := hC5.snoc (show New w5 w6 g11 49 (intL false none 0 0) from hn6) (by have := hn6.lo; have := hE24.size; have := hn5.ex.size; omega)
   refine aE (fun g12 w7 hn7 => ⟨fun _ _ => trivial, ?_⟩)
   have hC7 := hC6.snoc (show New w6 w7 g12 49 (intL false none 0 0) from hn7) (by have := hn7.lo; have := hE24.size; have := hn5.ex.size; have := hn6.ex.size; omega)
   have e47 : Ex w4 w7 := (hn5.ex.trans hn6.ex).trans hn7.ex
   refine au (n := 2) (vs := u1.cells) rfl rfl rfl rfl (hC7.blk 2 (by omega)) rfl (fun w8 hc8 hb8' => ⟨fun _ _ => trivial, ?_⟩)
   have hC8 := hC7.put (i := 2) (by omega) (eu1.ext e47) hc8 hb8'
   refine au (n := 2) (vs := u2.cells) rfl rfl rfl rfl (hC8.blk 3 (by omega)) rfl (fun w9 hc9 hb9' => ⟨fun _ _ => trivial, ?_⟩)
   have hC9 := hC8.put (i := 3) (by omega) ((eu2.ext e47).gbN (hC7.blk 2 (by omega)) (aA _ _ _ _) (bp hc8)) hc9 hb9'
   refine au (n := 2) (vs := u3.cells) rfl rfl rfl rfl (hC9.blk 4 (by omega)) rfl (fun w10 hc10 hb10' => ⟨fun _ _ => trivial, ?_⟩)
   have hC10 := hC9.put (i := 4) (by omega) (((eu3.ext e47).gbN (hC7.blk 2 (by omega)) (aA _ _ _ _) (bp hc8)).gbN (hC8.blk 3 (by omega)) (aA _ _ _ _) (bp hc9)) hc10 hb10'
   have eA : Ex w1 w10 := ((((hE12.trans hE24).trans e47).chg hc8 (hC7.low 2 (by omega))).chg hc9 (hC7.low 3 (by omega))).chg hc10 (hC7.low 4 (by omega))
   obtain ⟨G, X, Z, hG, hC, r0, r1, r2, r3, r4, z0, z1, z2, z3, z4⟩ : ∃ G X Z, G = setF (setF (setF (setF (setF (fun _ => 0) 0 g8) 1 g9) 2 g10) (2 + 1) g11) (2 + 1 + 1) g12 ∧ Cel cn w10 w1.heap.size (K + 1) 5 G X Z ∧ G 0 = g8 ∧ G 1 = g9 ∧ G 2 = g10 ∧ G 3 = g11 ∧ G 4 = g12 ∧ Z 0 = F i i ∧ Z 1 = F j i ∧ Z 2 = d ∧ Z 3 = a ∧ Z 4 = b :=
    ⟨_, _, _, rfl, hC10, rfl, rfl, rfl, rfl, rfl, rfl, rfl, rfl, rfl, rfl⟩
   clear hC5 hC6 hC7 hC8 hC9 hC10 hc8 hc9 hc10 hb8' hb9' hb10' hG hCel
   subst r0 r1 r2 r3 r4
   repeat' (first|refine aR (g := G 0) rfl (hC.blk 0 (by omega)) rfl ?_|refine aR (g := G 2) rfl (hC.blk 2 (by omega)) rfl ?_|refine aa ?_|refine aj ?_|refine ah rfl ?_|refine ae ?_)
   refine aw (bx (hC.ent 0 (by omega)).k (hC.ent 2 (by omega)).k (by omega) (by omega)) rfl ?_
   rintro v w11 ⟨q, rm, rfl, hq, hrm, hE11⟩
   refine ⟨fun _ _ => trivial, ?_⟩
   obtain ⟨x1, rfl⟩ := hq.ih
   have lq := (hC.ent 0 (by omega)).lb.div (Z 2)
   repeat' (first|refine aO rfl rfl ?_|refine ai rfl ?_)
   refine au (n := 2) (vs := x1.cells) rfl rfl rfl rfl ((hC.ext hE11).blk 0 (by omega)) rfl (fun w12 hc12 hb12 => ⟨fun _ _ => trivial, ?_⟩)
   have hC12 := (hC.ext hE11).put (i := 0) (by omega) (Ent.of hq lq) hc12 hb12
   have lo0 := hC.low 0 (by omega)
   have lo1 := hC.low 1 (by omega)
   repeat' (first|refine aR (g := G 1) rfl (hC12.blk 1 (by omega)) rfl ?_|refine aR (g := G 2) rfl (hC12.blk 2 (by omega)) rfl ?_|refine aa ?_|refine aj ?_|refine ah rfl ?_|refine ae ?_)
   refine aw (bx (hC12.ent 1 (by omega)).k (hC12.ent 2 (by omega)).k (by omega) (by omega)) rfl ?_
   rintro v w13 ⟨q', rm', rfl, hq', hrm', hE13⟩
   refine ⟨fun _ _ => trivial, ?_⟩
   obtain ⟨x2, rfl⟩ := hq'.ih
   have lq' := (hC12.ent 1 (by omega)).lb.div (setF Z 0 (Z 0 / Z 2) 2)
   repeat' (first|refine aO rfl rfl ?_|refine ai rfl ?_)
   refine au (n := 2) (vs := x2.cells) rfl rfl rfl rfl ((hC12.ext hE13).blk 1 (by omega)) rfl (fun w14 hc14 hb14 => ⟨fun _ _ => trivial, ?_⟩)
   have hC14 := (hC12.ext hE13).put (i := 1) (by omega) (Ent.of hq' lq') hc14 hb14
   have eB : Ex w1 w14 := (((eA.trans hE11).chg hc12 lo0).trans hE13).chg hc14 lo1
   obtain ⟨X2, Z2, hD, d0, d1', d3, d4⟩ : ∃ X2 Z2, Cel cn w14 w1.heap.size (K + 1) 5 G X2 Z2 ∧ Z2 0 = F i i / d ∧ Z2 1 = F j i / d ∧ Z2 3 = a ∧ Z2 4 = b :=
    ⟨_, _, hC14, by show Z 0 / Z 2 = _; rw [z0, z2], by show Z 1 / Z 2 = _; rw [z1, z2], z3, z4⟩
   clear hC hC12 hC14 hc12 hc14 hb12 hb14 hq hq' hrm hrm' lq lq' z0 z1 z2 z3 z4
   have eW := hE1.trans eB
   have hOw := hO.ext eW
   have hEd := (Ex.refl w14).drew
   have hDd := hD.ext hEd
   have hOd := hOw.ext hEd
   have lbc : ∀ (p q : Int) (f1 f2 : Int), Lb (K + 1) p → Lb (K + 1) q → Lb K f1 → Lb K f2 → Lb (2 * K + 2) (p * f1 + q * f2) := fun p q f1 f2 h1 h2 h3 h4 => by
    have := (h1.mul h3).add (h2.mul h4)
    rwa [show K + 1 + K + 1 = 2 * K + 2 by omega] at this
   repeat' (first|refine aa ?_|refine aj ?_|refine ae ?_)
   refine km (late := [16, 18, 20]) (plan := [(0, none), (1, none), (2, none), (3, none), (4, none), (5, none), (6, none), (7, none), (8, none), (10, none), (11, none), (12, none), (13, none), (14, none), (9, some true), (15, some true), (16, some false), (17, none), (18, some false), (19, none), (20, some false)]) (fun w' => Ex w14 w') bC (by kernel_rfl) hEd ?_
   repeat' (first|refine aR (g := G 3) rfl (fun _ h => (hD.ext h).blk 3 (by omega)) rfl ?_|refine aR (g := G 4) rfl (fun _ h => (hD.ext h).blk 4 (by omega)) rfl ?_|refine aR (g := G 0) rfl (fun _ h => (hD.ext h).blk 0 (by omega)) rfl ?_|refine aR (g := G 1) rfl (fun _ h => (hD.ext h).blk 1 (by omega)) rfl ?_|refine ai rfl ?_)
   refine aw (dS (n := n) (s := fun k => ⟨some ⟨gs k, 0, none⟩, n, cap k⟩) (K' := 2 * K + 2) hOd.top.sl hin hj (by omega) (by omega) (hOd.row i hin).rx (hOd.row j hj).rx (hDd.ent 3 (by omega)) (hDd.ent 4 (by omega)) (by omega) (by omega) (fun r hr => lbc _ _ _ _ (hDd.ent 3 (by omega)).lb (hDd.ent 4 (by omega)).lb (hO.mx.lb hin hr) (hO.mx.lb hj hr))) rfl ?_
   rintro v w15 ⟨ga, rfl, hRa, hE15⟩
   refine ⟨fun _ h => h.trans hE15, ?_⟩
   have hE1415 := hEd.trans hE15
   refine aw (eC ((hDd.ent 1 (by omega)).ext hE15).k) rfl ?_
   rintro v w16 ⟨hI16, hE16⟩
   refine ⟨fun _ h => h.trans hE16, ?_⟩
   have nn : Ent true (K + 1) w16 v (-Z2 1) := Ent.of hI16 (hDd.ent 1 (by omega)).lb.neg
   have hE1416 := hE1415.trans hE16
   have hO16 := hOw.ext hE1416
   have hD16 := hD.ext hE1416
   refine aw (dS (n := n) (s := fun k => ⟨some ⟨gs k, 0, none⟩, n, cap k⟩) (K' := 2 * K + 2) hO16.top.sl hj hin (by omega) (by omega) (hO16.row j hj).rx (hO16.row i hin).rx (hD16.ent 0 (by omega)) nn (by omega) (by omega) (fun r hr => lbc _ _ _ _ (hD16.ent 0 (by omega)).lb nn.lb (hO.mx.lb hj hr) (hO.mx.lb hin hr))) rfl ?_
   rintro v w17 ⟨gb, rfl, hRb, hE17⟩
   refine ⟨fun _ h => h.trans hE17, ?_⟩
   have hE1417 := hE1416.trans hE17
   have hO17 := hOw.ext hE1417
   have hRa17 := (hRa.ext hE16).ext hE17
   repeat' (first|refine aD (j := i) (a := some ⟨g, 0, none⟩) rfl rfl ⟨_, _, rfl⟩ (by omega) ?_)
   refine cg (j := i) (u := ⟨some ⟨ga, 0, none⟩, n, n⟩) rfl rfl hO17.top (by omega) (fun w18 hc18 hT18 => ⟨fun h => (nomatch h), ?_⟩)
   repeat' (first|refine aD (j := j) (a := some ⟨g, 0, none⟩) rfl rfl ⟨_, _, rfl⟩ (by omega) ?_)
   refine cg (j := j) (u := ⟨some ⟨gb, 0, none⟩, n, n⟩) rfl rfl hT18 (by omega) (fun w19 hc19 hT19 => ⟨fun h => (nomatch h), ?_⟩)
   repeat' (first|(refine aR (g := g1) rfl (((hb1.ext (eB.trans hE1417)).chg hc18 (by have := hn1.lo; have := hO.lt; omega)).chg hc19 (by have := hn1.lo; have := hO.lt; omega)) rfl ?_)|refine ai rfl ?_|refine aa ?_|refine aj ?_|refine ah rfl ?_|refine ae ?_)
   have gl := hO.lt
   have sB := eB.size
   have s0 := hE1.size
   have s17 := hE1417.size
   have lga := hRa.low
   have lgb := hRb.low
   have hw14 : w14.drew.heap.size = w14.heap.size := rfl
   have s15 := hE15.size
   have s16 := hE16.size
   have ltA := hRa.lt
   have neA : ga ≠ g := by omega
   have neB : gb ≠ g := by omega
   have neAB : ga ≠ gb := by omega
   have hRa19 := (hRa17.gbN hO17.top (bW _ _) (bp hc18) neA).gbN hT18 (bW _ _) (bp hc19) neA
   have hRb19 := (hRb.gbN hO17.top (bW _ _) (bp hc18) neB).gbN hT18 (bW _ _) (bp hc19) neB
   have hm19 := (((hm.ext hE1).ext (eB.trans hE1417)).gbN hO17.top (bW _ _) (bp hc18)).gbN hT18 (bW _ _) (bp hc19)
   have hb119 := ((hb1.ext (eB.trans hE1417)).chg hc18 (by have := hn1.lo; omega)).chg hc19 (by have := hn1.lo; omega)
   have hji : j ≠ i := by omega
   refine aw (fc hT19.sl hin (by omega) (by omega) (fun ad e => by cases e; exact Ne.symm neA) (by rw [aQ _ _ (Ne.symm hji), aN]) hRa19 hm19 (by omega) (by omega) (by omega) (by omega)) rfl ?_
   rintro v w20 ⟨hG20, hRa20⟩
   refine ⟨fun _ _ => trivial, ?_⟩
   obtain ⟨hha, hba19, _⟩ := hRa19.ex
   have hT20 := hT19.gb hG20 (fun e => neA (by cases e; rfl))
   have hRb20 := hRb19.gbN hba19 (bI _ _) hG20 (Ne.symm neAB)
   have hm20 := hm19.gbN hba19 (bI _ _) hG20
   have hb120 := hb119.gb hG20 (fun e => by cases e; have := hb1.lt; omega)
   repeat' (first|refine aR (g := g1) rfl hb120 rfl ?_|refine ai rfl ?_|refine aa ?_|refine ah rfl ?_|refine ae ?_)
   refine aw (fc hT20.sl hj (by omega) (by omega) (fun ad e => by cases e; exact Ne.symm neB) (by rw [aN]) hRb20 hm20 (by omega) (by omega) (by omega) (by omega)) rfl ?_
   rintro v w21 ⟨hG21, hRb21⟩
   refine ⟨fun _ _ => trivial, ?_⟩
   repeat' (first|refine ae ?_)
   have E17 : Ex w w17 := hE1.trans (eB.trans hE1417)
   obtain ⟨hhb, hbb20, _⟩ := hRb20.ex
   have hRa21 := hRa20.gbN hbb20 (bI _ _) hG21 neAB
   have hT21 := hT20.gb hG21 (fun e => neB (by cases e; rfl))
   have hm0' : m ≠ 0 := by omega
   have hij : i ≠ j := by omega
   have hG : w.grownBy w21 (some g) := bJ (bJ (bJ (bJ (nZ E17) (bp hc18) (fun k e => .inl e)) (bp hc19) (fun k e => .inl e)) hG20 (fun k e => .inr (by cases e; omega))) hG21 (fun k e => .inr (by cases e; omega))
   obtain ⟨exy, e0⟩ := te hd1 hab hdx hdy
   have lm : ∀ u v : Int, ∀ r, (¬ i ≤ r → u = 0) → v = u → Lb K (if i ≤ r then v % m else v) := fun u v r hu hv => by
    by_cases h : i ≤ r
    ·rw [if_pos h]; exact hm.lb.mod _ hm0'
    ·rw [if_neg h, hv, hu h]; exact jz
   have la := (hRa21.mono (lo' := lo) (by omega)).sharp (K' := K) (fun r _ => lm _ _ r (fun h => by rw [(hz r (by omega)).1, (hz r (by omega)).2]; omega) rfl)
   have lb := (hRb21.mono (lo' := lo) (by omega)).sharp (K' := K) (fun r _ => lm _ _ r (fun h => by rw [(hz r (by omega)).1, (hz r (by omega)).2]; omega) rfl)
   have hMO := MO.two (F := F) (by omega) hO.low hT21 (fun k hk h1 h2 => by
    have hl := (hO.row k hk).lt
    refine ⟨?_, hO.off k hk, by omega, by omega⟩
    exact ((((hO17.row k hk).gbN hO17.top (bW _ _) (bp hc18) (hO.off k hk)).gbN hT18 (bW _ _) (bp hc19) (hO.off k hk)).gbN hba19 (bI _ _) hG20 (by omega)).gbN hbb20 (bI _ _) hG21 (by omega)) hO.inj la.weak lb.weak neA neB neAB
   have hmod : ∀ (v : Int) (r : Nat), (if i ≤ r then v % m else v) = v + if i ≤ r then m * -(v / m) else 0 := fun v r => by
    by_cases h : i ≤ r
    ·rw [if_pos h, if_pos h, Int.emod_def, Int.mul_neg]; omega
    ·rw [if_neg h, if_neg h]; omega
   refine ns rfl ⟨_, _, _, fun k r => if k = i then -((a * F i r + b * F j r) / m) else -((F i i / d * F j r + -(F j i / d) * F i r) / m), a, b, F i i / d, F j i / d, hG, hMO, exy, fun r hr => ?_, fun r hr => ?_, fun k r _ _ h1 h2 => ?_, ?_, ?_, fun k _ => ?_⟩
   ·rw [aQ _ _ hij, aN, hmod, d3, d4]; simp only [reduceIte]
   ·rw [aN, hmod, d0, d1']; simp only [if_neg hji]; rw [Int.neg_mul, ← Int.sub_eq_add_neg]
   ·rw [aQ _ _ h2, aQ _ _ h1]
   ·rw [aN, if_pos (Nat.le_refl _), d0, d1', Int.neg_mul, ← Int.sub_eq_add_neg, e0, Int.zero_emod]
   ·rw [aQ _ _ hij, aN, if_pos (Nat.le_refl _)]; exact Int.emod_nonneg _ hm0'
   ·by_cases h1 : k = j
    ·subst h1; rw [aN]; exact .inr (by omega)
    ·rw [aQ _ _ h1]
     by_cases h2 : k = i
     ·subst h2; rw [aN]; exact .inr (by omega)
     ·rw [aQ _ _ h2]; exact .inl rfl
end Go.Proofs.Ytiejljicpinheaa
namespace Go.Proofs.Ytiejljicpinheaa
open Go.W Go.LM Go.LA
section
variable {cn : Bool} {K n R lo g i : Nat} {w w1 w' : World} {gs cap : Nat → Nat} {F : Nat → Nat → Int} {f : Nat → Int}
theorem MO.row1 {g3 c3 : Nat} (h : MO cn K w lo g n R gs cap F) (hi : i < n) (hR : RO cn K w lo g3 c3 R f) (hne : g3 ≠ g) (hns : ∀ k, k < n → k ≠ i → gs k ≠ g3) (hc : Chg g w w')
  (hT : Blk w' g 30 (topC n (setF (fun k => (⟨some ⟨gs k, 0, none⟩, R, cap k⟩ : SD)) i ⟨some ⟨g3, 0, none⟩, R, c3⟩))) :
  MO cn K w' lo g n R (setF gs i g3) (setF cap i c3) (setF F i f) := by
 refine ⟨h.low, ?_, fun k hk => ?_, fun k hk => ?_, fun k l hk hl he => ?_⟩
 ·rw [bV (s' := setF (fun k => (⟨some ⟨gs k, 0, none⟩, R, cap k⟩ : SD)) i ⟨some ⟨g3, 0, none⟩, R, c3⟩) (fun k _ => ?_)]
  ·exact hT
  ·unfold setF
   by_cases h2 : k = i
   ·simp [h2]
   ·simp [h2]
 ·by_cases h2 : k = i
  ·subst h2; rw [aN, aN, aN]; exact hR.gbN h.top (bW _ _) (bp hc) hne
  ·rw [aQ _ _ h2, aQ _ _ h2, aQ _ _ h2]; exact (h.row k hk).gbN h.top (bW _ _) (bp hc) (h.off k hk)
 ·by_cases h2 : k = i
  ·subst h2; rw [aN]; exact hne
  ·rw [aQ _ _ h2]; exact h.off k hk
 ·by_cases h1 : k = i
  ·by_cases h2 : l = i
   ·omega
   ·subst h1; rw [aN, aQ _ _ h2] at he; exact absurd he.symm (hns l hl h2)
  ·by_cases h2 : l = i
   ·subst h2; rw [aN, aQ _ _ h1] at he; exact absurd he (hns k hk h1)
   ·rw [aQ _ _ h1, aQ _ _ h2] at he; exact h.inj k l hk hl he
theorem MO.rowIn (h : MO cn K w lo g n R gs cap F) (hi : i < n) (hG : w.grownBy w' (some (gs i))) (hR : RO cn K w' lo (gs i) (cap i) R f) : MO cn K w' lo g n R gs cap (setF F i f) := by
 obtain ⟨hh, hb, _⟩ := (h.row i hi).ex
 refine ⟨h.low, h.top.gb hG (fun e => h.off i hi (by cases e; rfl)), fun k hk => ?_, h.off, h.inj⟩
 by_cases h2 : k = i
 ·subst h2; rw [aN]; exact hR
 ·rw [aQ _ _ h2]; exact (h.row k hk).gbN hb (bI _ _) hG (fun e => h2 (h.inj k i hk hi e))
end
end Go.Proofs.Ytiejljicpinheaa
