import Derived.Test.YtiejljicpinheaaGreatA25
namespace Go.Proofs.YtiejljicpinheaaGreat
open Go.W Go.LM Go.LA
set_option maxHeartbeats 4000000 in
theorem ii {cn : Bool} {K r c cap : Nat} {w : World} {a : Option Addr} {s : Nat → SD} {F : Mat} (hM : MX cn K w a r c s F) (hr : 1 ≤ r ∧ r ≤ 1000) (hc : 1 ≤ c ∧ c ≤ 1000) :
  CallsR Tryz.prog 55 #[.slice a r cap] w (RetMO K w r c F) := by
 have hpt := hM.plain (by omega)
 refine aF (args := [_]) Tryz.func55 rfl rfl ?_
 repeat' (first|refine d8 (n := r) rfl rfl (by omega) (by omega) (fun g w1 hn1 => ⟨fun _ _ => trivial, ?_⟩)|refine ai rfl ?_|refine aa ?_|refine aj ?_|refine ah rfl ?_|refine ae ?_|refine aZ rfl ?_|refine aA ?_)
 refine aY (ι := Nat × (Nat → Nat) × (Nat → Nat)) [4, 6, 12, 13, 14, 15, 16, 17, 18, 19, 20, 21, 22, 23, 24, 25, 26, 27, 28, 29, 30, 31, 32, 33, 34, 35, 36] (fun t => [(12, .int .i64 (t.1 : Int))])
  (fun t w' => t.1 ≤ r ∧ Ex w w' ∧ MP true K w' w.heap.size g r c t.1 t.2.1 t.2.2 F) (fun t => r - t.1)
  (0, fun _ => 0, fun _ => 0) ⟨rfl, trivial⟩ ⟨by simp only; omega, hn1.ex, MP.start hn1.blk hn1.lo⟩ ?_
 rintro ⟨i, gs, cp⟩ ξ w2 ⟨hi, hE2, hP2⟩
 simp only at hi hP2
 show CW _ _ _ _ (over [(12, .int .i64 (i : Int))] _) w2
 rcases Nat.lt_or_ge i r with hir | hir
 ·obtain ⟨pa, d, hh, e1, e2, hpp, hS, hEn⟩ := (hM.ext hE2).get hir (by omega)
  repeat' (first|refine bu rfl rfl (by omega) ?_|refine aD (j := i) (a := a) rfl rfl hpt (by omega) ?_|refine aV (j := i) (a := a) (n := r) (s := s) rfl (hM.ext hE2).top (by omega) e1 ?_|refine ai rfl ?_|refine aa ?_|refine aj ?_|refine ah rfl ?_|refine ae ?_|refine aZ rfl ?_|refine az rfl ?_|refine aA ?_|refine aE ?_)
  refine aY (ι := Nat × SD × (Nat → IH)) [6, 20, 21, 22, 23, 24, 25, 26, 27, 28, 29, 30, 31, 32, 33, 34, 35] (fun t => [(20, .int .i64 (t.1 : Int))])
   (fun t w' => t.1 ≤ c ∧ Ex w w' ∧ GR true K w' w.heap.size g r c i t.1 gs cp F t.2.1 t.2.2) (fun t => c - t.1)
   (0, sd0, fun _ => ih0) ⟨rfl, trivial⟩ ⟨by simp only; omega, hE2, GR.start hP2⟩ ?_
  clear hP2 hS hEn
  rintro ⟨j, sd, h⟩ ξ2 w3 ⟨hj, hE3, hG3⟩
  simp only at hj hG3
  show CW _ _ _ _ (over [(20, .int .i64 (j : Int))] _) w3
  obtain ⟨pa', d', hh, e1', e2', hp', hS, hEn⟩ := (hM.ext hE3).get hir (by omega)
  rw [e1] at e1'
  obtain ⟨rfl, rfl⟩ : pa = pa' ∧ d = d' := by cases e1'; exact ⟨rfl, rfl⟩
  rcases Nat.lt_or_ge j c with hje | hje
  ·repeat' (first|refine bu rfl rfl (by omega) ?_|refine aT (j := j) (a := pa) rfl rfl hpp (by omega) ?_|refine bo (j := j) (a := pa) rfl hS hpp (by omega) ?_|refine aa ?_|refine aj ?_|refine ah rfl ?_|refine ae ?_|refine az rfl ?_|refine aA ?_|refine aE ?_)
   refine aG (fun g11 w4 hn4 => ⟨fun _ _ => trivial, ?_⟩)
   have hb4 : Blk w4 g11 43 (intL false none 0 0) := hn4.blk
   refine ax (n := 2) (vs := (hh j).cells) rfl rfl rfl rfl hb4 rfl (fun w5 hc5 hb5 => ⟨fun _ _ => trivial, ?_⟩)
   have hE35 : Ex w3 w5 := hn4.ex.chg hc5 hn4.lo
   have hG5 := hG3.ext hE35
   have lgt := hG3.top.lt
   have hsE := hE3.size
   have l4 := hn4.lo
   have hng : g ≠ g11 := by omega
   have own : ∀ q, (Value.slice sd.a sd.len sd.cap).ownBlock = some q → q ≠ g ∧ q ≠ g11 ∧ w.heap.size ≤ q := fun q e => by
    obtain ⟨h1, ⟨ad, h2, h3⟩, h4⟩ := RowG.bk hG3.cur q e
    have := h4.lt
    exact ⟨fun e' => (hG3.new ad h2).1 (by omega), by omega, h1⟩
   repeat' (first|refine aa ?_|refine ae ?_)
   refine bi (late := [11]) (plan := [(0, none), (1, none), (2, none), (3, none), (4, none), (5, none), (6, none), (7, some true), (8, some true), (9, some true), (10, none), (11, some false)]) (fun w' => w5.grownBy w' (Value.slice sd.a sd.len sd.cap).ownBlock) bA (by kernel_rfl) (l0 (lL (Ex.refl _))) ?_
   have hEd := (Ex.refl w5).drew
   repeat' (first|refine aD (j := i) (a := some ⟨g, 0, none⟩) rfl rfl ⟨_, _, rfl⟩ (by omega) ?_|refine aV (j := i) (a := some ⟨g, 0, none⟩) (n := r) (a1 := sd.a) (l1 := sd.len) (c1 := sd.cap) rfl (fun _ h => (hG5.topB h).sl) (by omega) (by rw [aS]) ?_|refine aR (g := g11) rfl (fun _ h => hb5.gb h (fun e => (own _ e).2.1 rfl)) rfl ?_|refine ai rfl ?_)
   refine aw (fc ((hEn j (by omega)).ext (hE35.trans hEd)).k) rfl ?_
   rintro v w6 ⟨hI6, hE6⟩
   refine ⟨fun _ h => bJ h (lL hE6) (fun k e => .inl e), ?_⟩
   obtain ⟨u, rfl⟩ := hI6.ih
   have hE56 := hEd.trans hE6
   have hG6 := hG5.ext hE56
   skip
   refine pc (E := 43) rfl rfl rfl (fun w1 w2 h1 h2 => bJ h2 h1 (fun k e => .inl e)) hG6.cur (by omega) (by omega) (by have := hE35.size; have := hE56.size; omega) ?_
   intro gt sd' h' w7 hR7 hf1 hf2 hG7 hA7
   repeat' (first|refine aD (j := i) (a := some ⟨g, 0, none⟩) rfl rfl ⟨_, _, rfl⟩ (by omega) ?_)
   refine ch (j := i) (u := sd') rfl rfl (hG6.topB hG7) (by omega) (fun w8 hc8 hT8 => ⟨fun h => (nomatch h), ?_⟩)
   have hE06 := (hE3.trans hE35).trans hE56
   repeat' (first|refine ai rfl ?_|refine aa ?_|refine ah rfl ?_|refine ae ?_|refine bc rfl rfl (by omega) (by omega) ?_|refine aL ?_)
   exact ⟨⟨(j + 1, sd', h'), ⟨hje, (hE06.gb hG7 (fun q e => (own q e).2.2)).chg hc8 hG3.low, hG6.app hR7 hf1 hf2 hG7 hA7 (Ent.of hI6 (hEn j (by omega)).lb) hc8 hT8⟩, by simp only; omega, rfl, trivial⟩, (by (repeat (first|exact aH _ _ _|refine ay rfl ?_|refine av rfl ?_|refine ak rfl ?_|refine ao rfl ?_)))⟩
  ·have eje : j = c := by omega
   subst eje
   repeat' (first|refine bj rfl rfl (by omega) ?_|refine ai rfl ?_|refine aa ?_|refine aj ?_|refine ah rfl ?_|refine ae ?_|refine bc rfl rfl (by omega) (by omega) ?_|refine au rfl ?_|refine aP ?_|refine aJ ?_|refine aQ ?_|refine aL ?_)
   obtain ⟨gs', cp', hP⟩ := hG3.fin (by omega)
   exact ⟨⟨(i + 1, gs', cp'), ⟨hir, hE3, hP⟩, by simp only; omega, rfl, trivial⟩, (by (repeat (first|exact aH _ _ _|refine ay rfl ?_|refine av rfl ?_|refine ak rfl ?_|refine ao rfl ?_)))⟩
 ·have eir : r = i := by omega
  subst eir
  repeat' (first|refine bj rfl rfl (by omega) ?_|refine ai rfl ?_|refine aa ?_|refine aj ?_|refine ah rfl ?_|refine ae ?_|refine au rfl ?_|refine aP ?_|refine aJ ?_|refine aQ ?_|refine aI ?_)
  exact bx rfl (rt rfl) ⟨g, gs, cp, rfl, hP2.fin, hE2⟩
set_option maxHeartbeats 4000000 in
theorem fB {cn : Bool} {K r c cap : Nat} {w : World} {a : Option Addr} {s : Nat → SD} {F : Mat} (hM : MX cn K w a r c s F) (hr : 1 ≤ r ∧ r ≤ 16) (hc : 1 ≤ c ∧ c ≤ 16) :
  CallsR Tryz.prog 102 #[.slice a r cap] w fun v w' => ∃ u, v = .tuple #[u, .bool true] ∧ RetMO K w c r (fun i j => F j i) u w' := by
 have hpt := hM.plain (by omega)
 refine aF (args := [_]) Tryz.func102 rfl rfl ?_
 repeat' (first|refine ai rfl ?_|refine aa ?_|refine aj ?_|refine ah rfl ?_|refine ae ?_)
 refine aw (cc hM.top) rfl ?_
 rintro v w1 ⟨rfl, hE1⟩
 refine ⟨fun _ _ => trivial, ?_⟩
 rw [cz hM hr hc]
 repeat' (first|refine aK rfl rfl ?_|refine ai rfl ?_|refine aa ?_|refine aj ?_|refine ah rfl ?_|refine ae ?_|refine au rfl ?_|refine aE ?_)
 refine aw (eP (r := c) (c := r) (by omega) (by omega)) rfl ?_
 rintro v w2 ⟨g, gs, cp, rfl, hO2, hE2⟩
 refine ⟨fun _ _ => trivial, ?_⟩
 have s1 := hE1.size
 have hE02 := hE1.trans hE2
 repeat' (first|refine ai rfl ?_|refine aa ?_|refine aj ?_|refine ah rfl ?_|refine ae ?_|refine aZ rfl ?_|refine aA ?_)
 refine aY (ι := Nat) [8, 9, 23, 24, 25, 26, 27, 28, 29, 30, 31, 32, 33, 34, 35, 36, 37, 38, 39, 40, 41, 42, 43, 44, 45, 46, 47, 48, 49] (fun i => [(23, .int .i64 (i : Int))])
  (fun i w' => i ≤ r ∧ Ex w w' ∧ MO true K w' w.heap.size g c r gs cp (fun x y => if y < i then F y x else 0)) (fun i => r - i)
  0 ⟨rfl, trivial⟩ ⟨by omega, hE02, ((hO2.mono s1).up (by omega)).congr fun x y _ _ => if_neg (by omega)⟩ ?_
 clear hO2 hE02 hE2
 rintro i ξ w3 ⟨hi, hE3, hO3⟩
 show CW _ _ _ _ (over [(23, .int .i64 (i : Int))] _) w3
 rcases Nat.lt_or_ge i r with hir | hir
 ·obtain ⟨pa, d, hh, e1, e2, hpp, hS, hEn⟩ := (hM.ext hE3).get hir (by omega)
  repeat' (first|refine bu rfl rfl (by omega) ?_|refine aD (j := i) (a := a) rfl rfl hpt (by omega) ?_|refine aV (j := i) (a := a) (n := r) (s := s) rfl (hM.ext hE3).top (by omega) e1 ?_|refine ai rfl ?_|refine aa ?_|refine aj ?_|refine ah rfl ?_|refine ae ?_|refine aZ rfl ?_|refine az rfl ?_|refine aA ?_|refine aE ?_)
  refine aY (ι := Nat) [9, 31, 32, 33, 34, 35, 36, 37, 38, 39, 40, 41, 42, 43, 44, 45, 46, 47, 48] (fun j => [(31, .int .i64 (j : Int))])
   (fun j w' => j ≤ c ∧ Ex w w' ∧ MO true K w' w.heap.size g c r gs cp (fun x y => if y < i ∨ (y = i ∧ x < j) then F y x else 0)) (fun j => c - j)
   0 ⟨rfl, trivial⟩ ⟨by omega, hE3, hO3.congr fun x y _ _ => by
    by_cases h : y < i
    ·rw [if_pos h, if_pos (.inl h)]
    ·rw [if_neg h, if_neg (by omega)]⟩ ?_
  clear hO3 hS hEn
  rintro j ξ2 w4 ⟨hj, hE4, hO4⟩
  show CW _ _ _ _ (over [(31, .int .i64 (j : Int))] _) w4
  rcases Nat.lt_or_ge j c with hjc | hjc
  ·obtain ⟨pa', d', hh, e1', e2', hp', hS, hEn⟩ := (hM.ext hE4).get hir (by omega)
   rw [e1] at e1'
   obtain ⟨rfl, rfl⟩ : pa = pa' ∧ d = d' := by cases e1'; exact ⟨rfl, rfl⟩
   obtain ⟨hhr, hbr, hcr, hEr⟩ := hO4.get hjc
   repeat' (first|refine bu rfl rfl (by omega) ?_|refine aa ?_|refine aj ?_|refine ah rfl ?_|refine ae ?_|refine az rfl ?_|refine aE ?_)
   refine aA ?_
   repeat' (first|refine ai rfl ?_|refine aa ?_|refine aj ?_|refine ah rfl ?_|refine ae ?_)
   refine bi (late := [14]) (plan := [(0, none), (1, none), (2, none), (3, none), (4, none), (5, none), (6, none), (7, none), (8, none), (9, none), (10, none), (11, none), (12, some true), (13, none), (14, some false)]) (fun w' => Ex w4 w') bA (by kernel_rfl) (Ex.refl w4).drew ?_
   have hEd := (Ex.refl w4).drew
   repeat' (first|refine aD (j := j) (a := some ⟨g, 0, none⟩) rfl rfl ⟨_, _, rfl⟩ (by omega) ?_|refine aV (j := j) (a := some ⟨g, 0, none⟩) (n := c) (s := fun k => ⟨some ⟨gs k, 0, none⟩, r, cp k⟩) rfl (fun _ h => (hO4.ext h).top.sl) (by omega) rfl ?_|refine aD (j := i) (a := a) rfl rfl hpt (by omega) ?_|refine aV (j := i) (a := a) (n := r) (s := s) rfl (fun _ h => (hM.ext (hE4.trans h)).top) (by omega) e1 ?_|refine aT (j := j) (a := pa) rfl rfl hpp (by omega) ?_|refine bo (j := j) (a := pa) rfl (fun _ h => hS.ext h) hpp (by omega) ?_|refine ai rfl ?_)
   refine aw (fc ((hEn j hjc).ext hEd).k) rfl ?_
   rintro v w5 ⟨hI5, hE5⟩
   refine ⟨fun _ h => h.trans hE5, ?_⟩
   obtain ⟨u, rfl⟩ := hI5.ih
   have hE45 := hEd.trans hE5
   repeat' (first|refine aT (j := i) (a := some ⟨gs j, 0, none⟩) rfl rfl ⟨_, _, rfl⟩ (by omega) ?_)
   refine bR (j := i) (n := cp j) (u := u) rfl rfl (hbr.ext hE45) (by omega) (fun w6 hc6 hb6 => ⟨fun h => (nomatch h), ?_⟩)
   repeat' (first|refine ai rfl ?_|refine aa ?_|refine ah rfl ?_|refine ae ?_|refine bc rfl rfl (by omega) (by omega) ?_|refine aL ?_)
   refine ⟨⟨j + 1, ⟨hjc, (hE4.trans hE45).chg hc6 (hO4.row j hjc).low, ((hO4.ext hE45).put hjc (hbr.ext hE45) (fun k hk => (hEr k hk).ext hE45) (Ent.of hI5 (hEn j hjc).lb) hc6 hb6).congr fun x y _ _ => ?_⟩, by omega, rfl, trivial⟩, (by (repeat (first|exact aH _ _ _|refine ay rfl ?_|refine av rfl ?_|refine ak rfl ?_|refine ao rfl ?_)))⟩
   unfold setM
   by_cases h : x = j ∧ y = i
   ·rw [if_pos h, if_pos (by omega), h.1, h.2]
   ·rw [if_neg h]
    show _ = if y < i ∨ (y = i ∧ x < j) then F y x else 0
    by_cases h' : y < i ∨ (y = i ∧ x < j)
    ·rw [if_pos h', if_pos (by omega)]
    ·rw [if_neg h', if_neg (by omega)]
  ·have ejc : c = j := by omega
   subst ejc
   repeat' (first|refine bj rfl rfl (by omega) ?_|refine ai rfl ?_|refine aa ?_|refine aj ?_|refine ah rfl ?_|refine ae ?_|refine bc rfl rfl (by omega) (by omega) ?_|refine au rfl ?_|refine aP ?_|refine aJ ?_|refine aQ ?_|refine aL ?_)
   refine ⟨⟨i + 1, ⟨hir, hE4, hO4.congr fun x y hx _ => ?_⟩, by omega, rfl, trivial⟩, (by (repeat (first|exact aH _ _ _|refine ay rfl ?_|refine av rfl ?_|refine ak rfl ?_|refine ao rfl ?_)))⟩
   by_cases h : y < i + 1
   ·rw [if_pos h, if_pos (by omega)]
   ·rw [if_neg h, if_neg (by omega)]
 ·have eir : r = i := by omega
  subst eir
  repeat' (first|refine bj rfl rfl (by omega) ?_|refine ai rfl ?_|refine aa ?_|refine aj ?_|refine ah rfl ?_|refine ae ?_|refine au rfl ?_|refine aP ?_|refine aJ ?_|refine aQ ?_|refine aI ?_)
  exact cA rfl (rt rfl) (rt rfl) ⟨_, rfl, g, gs, cp, rfl, hO3.congr fun x y _ hy => by rw [if_pos hy], hE3⟩
set_option maxHeartbeats 2000000 in
theorem jE {c1 c2 : Bool} {K1 K2 n : Nat} {w : World} {s s' : SD} {f g : Nat → Int} (hX : RX c1 K1 w s n f) (hY : RX c2 K2 w s' n g) (hn : 1 ≤ n ∧ n ≤ 1000) (hK : K1 + K2 + 2 < 17592186044416) :
  CallsR Tryz.prog 74 #[.slice s.a s.len s.cap, .slice s'.a s'.len s'.cap] w (RetZ w (sm n fun k => f k * g k)) := by
 obtain ⟨p, d, hh, e1, e2, hp, hS, hEn⟩ := hX.get (by omega)
 obtain ⟨p', d', hh', e1', e2', hp', hS', hEn'⟩ := hY.get (by omega)
 subst e1 e1'
 show CallsR Tryz.prog 74 #[.slice p n d, .slice p' n d'] w _
 refine aF (args := [_, _]) Tryz.func74 rfl rfl ?_
 repeat' (first|refine aG (fun g4 w1 hn1 => ⟨fun _ _ => trivial, ?_⟩)|refine aa ?_|refine aj ?_|refine ah rfl ?_|refine ae ?_)
 have hb1 : Blk w1 g4 43 (intL false none 0 0) := hn1.blk
 repeat' (first|refine cf (cs := intL false none 0 0) rfl ?_)
 refine aG (fun g5 w2 hn2 => ⟨fun _ _ => trivial, ?_⟩)
 have hb2 : Blk w2 g5 43 (intL false none 0 0) := hn2.blk
 refine ax (n := 2) (vs := ih0.cells) rfl rfl rfl rfl hb2 rfl (fun w3 hc3 hb3 => ⟨fun _ _ => trivial, ?_⟩)
 have l1 := hn1.lo
 have l2 := hn2.lo
 have s1 := hn1.ex.size
 have lt1 := hb1.lt
 have hE3 : Ex w w3 := (hn1.ex.trans hn2.ex).chg hc3 (by omega)
 have hb13 := (hb1.ext hn2.ex).chg hc3 (by omega)
 have ls : ∀ m, m ≤ n → Lb (K1 + K2 + 1) (sm m fun k => f k * g k) := fun m hm => gc (fun i hi => (hEn i (by omega)).lb) (fun i hi => (hEn' i (by omega)).lb) (by omega)
 repeat' (first|refine ai rfl ?_|refine aa ?_|refine aj ?_|refine ah rfl ?_|refine ae ?_|refine aZ rfl ?_|refine aA ?_)
 refine aY (ι := Nat × IH) [6, 10, 11, 12, 13, 14, 15, 16, 17, 18, 19, 20, 21, 22, 23, 24] (fun t => [(10, .int .i64 (t.1 : Int))])
  (fun t w' => t.1 ≤ n ∧ Ex w w' ∧ w1.heap.size ≤ w'.heap.size ∧ Blk w' g4 43 (intL false none 0 0) ∧ Blk w' g5 43 t.2.cells ∧ IntC w.heap.size w' t.2.val (sm t.1 fun k => f k * g k)) (fun t => n - t.1)
  (0, ih0) ⟨rfl, trivial⟩ ⟨by simp only; omega, hE3, by have := hn2.ex.size; have := hc3.size; omega, hb13, hb3, jn _ _⟩ ?_
 clear hb13 hb3 hE3
 rintro ⟨i, x⟩ ξ w4 ⟨hi, hE4, hs4, hb14, hb4, e4⟩
 simp only at hi hb4 e4
 show CW _ _ _ _ (over [(10, .int .i64 (i : Int))] _) w4
 rcases Nat.lt_or_ge i n with hin | hin
 ·repeat' (first|refine bu rfl rfl (by omega) ?_|refine aa ?_|refine aj ?_|refine ah rfl ?_|refine ae ?_|refine az rfl ?_|refine aE ?_)
  refine aA ?_
  repeat' (first|refine ai rfl ?_|refine aa ?_|refine aj ?_|refine ah rfl ?_|refine ae ?_)
  refine bi (late := [11]) (plan := [(0, none), (1, none), (2, none), (3, none), (4, none), (5, none), (6, none), (7, none), (8, none), (9, some true), (10, some true), (11, some false)]) (fun w' => Ex w4 w') bA (by kernel_rfl) (Ex.refl w4).drew ?_
  have hEd := (Ex.refl w4).drew
  repeat' (first|refine aR (g := g5) rfl (fun _ h => hb4.ext h) rfl ?_|refine aT (j := i) (a := p) rfl rfl hp (by omega) ?_|refine bo (j := i) (a := p) rfl (fun _ h => hS.ext (hE4.trans h)) hp (by omega) ?_|refine aT (j := i) (a := p') rfl rfl hp' (by omega) ?_|refine bo (j := i) (a := p') rfl (fun _ h => hS'.ext (hE4.trans h)) hp' (by omega) ?_|refine ai rfl ?_)
  refine aw (dG ((hEn i hin).ext (hE4.trans hEd)).k ((hEn' i hin).ext (hE4.trans hEd)).k (by omega)) rfl ?_
  rintro v w5 ⟨hI5, hE5⟩
  refine ⟨fun _ h => h.trans hE5, ?_⟩
  have hE45 := hEd.trans hE5
  have lp := (hEn i hin).lb.mul (hEn' i hin).lb
  skip
  refine aw (fv ((e4.ext hE45).k (ls i hi)) (hI5.k lp) (by omega) (by omega)) rfl ?_
  rintro v w6 ⟨hI6, hE6⟩
  refine ⟨fun _ h => h.trans hE6, ?_⟩
  obtain ⟨u, rfl⟩ := hI6.ih
  have hE46 := hE45.trans hE6
  refine ax (n := 2) (vs := u.cells) rfl rfl rfl rfl (hb4.ext hE46) rfl (fun w7 hc7 hb7 => ⟨fun h => (nomatch h), ?_⟩)
  repeat' (first|refine ai rfl ?_|refine aa ?_|refine ah rfl ?_|refine ae ?_|refine bc rfl rfl (by omega) (by omega) ?_|refine aL ?_)
  exact ⟨⟨(i + 1, u), ⟨hin, (hE4.trans hE46).chg hc7 (by omega), by have := hE46.size; have := hc7.size; omega, (hb14.ext hE46).chg hc7 (by omega), hb7, (hI6.mono (by have := hE4.size; have := hE45.size; omega)).gbN (hb4.ext hE46) (aB _ _ _ _) (bw hc7)⟩, by simp only; omega, rfl, trivial⟩, (by (repeat (first|exact aH _ _ _|refine ay rfl ?_|refine av rfl ?_|refine ak rfl ?_|refine ao rfl ?_)))⟩
 ·have ein : n = i := by omega
  subst ein
  repeat' (first|refine bj rfl rfl (by omega) ?_|refine aR (g := g5) rfl hb4 rfl ?_|refine aa ?_|refine aj ?_|refine ah rfl ?_|refine ae ?_|refine au rfl ?_|refine aP ?_|refine aJ ?_|refine aQ ?_)
  refine ax (n := 2) (vs := x.cells) rfl rfl rfl rfl hb14 rfl (fun w5 hc5 hb5 => ⟨fun _ _ => trivial, ?_⟩)
  repeat' (first|refine aa ?_|refine ae ?_|refine aI ?_)
  exact bx rfl (rc rfl rfl hb5) ⟨e4.gbN hb14 (aB _ _ _ _) (bw hc5), hE4.chg hc5 l1⟩
end Go.Proofs.YtiejljicpinheaaGreat
namespace Go.Proofs.YtiejljicpinheaaGreat
open Go.W Go.LM Go.LA
set_option maxHeartbeats 4000000 in
theorem mD {c1 c2 : Bool} {K1 K2 r n c ca cb : Nat} {w : World} {a b : Option Addr} {s s' : Nat → SD} {A B : Mat} (hA : MX c1 K1 w a r n s A) (hB : MX c2 K2 w b n c s' B)
  (hr : 1 ≤ r ∧ r ≤ 16) (hn : 1 ≤ n ∧ n ≤ 16) (hc : 1 ≤ c ∧ c ≤ 16) (hK : K1 + K2 + 2 < 17592186044416) :
  CallsR Tryz.prog 62 #[.slice a r ca, .slice b n cb] w fun v w' => ∃ u, v = .tuple #[u, .bool true] ∧ RetMO (K1 + K2 + 1) w r c (mm n A B) u w' := by
 have hpt := hA.plain (by omega)
 refine aF (args := [_, _]) Tryz.func62 rfl rfl ?_
 repeat' (first|refine ai rfl ?_|refine aa ?_|refine aj ?_|refine ah rfl ?_|refine ae ?_)
 refine aw (cc hA.top) rfl ?_
 rintro v w1 ⟨rfl, hE1⟩
 refine ⟨fun _ _ => trivial, ?_⟩
 rw [cz hA hr hn]
 repeat' (first|refine aK rfl rfl ?_|refine ai rfl ?_|refine aa ?_|refine aj ?_|refine ah rfl ?_|refine ae ?_)
 refine aw (fB (hB.ext hE1) hn hc) rfl ?_
 rintro v w2 ⟨_, rfl, gt, gst, cpt, rfl, hT2, hE2⟩
 refine ⟨fun _ _ => trivial, ?_⟩
 repeat' (first|refine aK rfl rfl ?_|refine cN rfl rfl rfl ?_|refine ai rfl ?_|refine aa ?_|refine aj ?_|refine ah rfl ?_|refine ae ?_|refine aZ rfl ?_|refine bz rfl rfl ?_|refine au rfl ?_|refine aE ?_)
 refine aw (eP (r := r) (c := c) (by omega) (by omega)) rfl ?_
 rintro v w3 ⟨g, gs, cp, rfl, hO3, hE3⟩
 refine ⟨fun _ _ => trivial, ?_⟩
 have hE02 := hE1.trans hE2
 have s2 := hE02.size
 have hE03 := hE02.trans hE3
 have lM : ∀ i j, i < r → j < c → Lb (K1 + K2 + 1) (mm n A B i j) := fun i j hi hj => gc (fun k hk => hA.lb hi hk) (fun k hk => hB.lb hk hj) (by omega)
 repeat' (first|refine ai rfl ?_|refine aa ?_|refine aj ?_|refine ah rfl ?_|refine ae ?_|refine aZ rfl ?_|refine aA ?_)
 refine aY (ι := Nat) [12, 13, 44, 45, 46, 47, 48, 49, 50, 51, 52, 53, 54, 55, 56, 57, 58, 59, 60, 61, 62, 63, 64, 65, 66, 67, 68] (fun i => [(44, .int .i64 (i : Int))])
  (fun i w' => i ≤ r ∧ Ex w2 w' ∧ MO true (K1 + K2 + 1) w' w2.heap.size g r c gs cp (fun x y => if x < i then mm n A B x y else 0)) (fun i => r - i)
  0 ⟨rfl, trivial⟩ ⟨by omega, hE3, (hO3.up (by omega)).congr fun x y _ _ => if_neg (by omega)⟩ ?_
 clear hO3 hE03 hE3
 rintro i ξ w4 ⟨hi, hE4, hO4⟩
 show CW _ _ _ _ (over [(44, .int .i64 (i : Int))] _) w4
 rcases Nat.lt_or_ge i r with hir | hir
 ·repeat' (first|refine bu rfl rfl (by omega) ?_|refine ai rfl ?_|refine aa ?_|refine aj ?_|refine ah rfl ?_|refine ae ?_|refine aZ rfl ?_|refine az rfl ?_|refine aA ?_|refine aE ?_)
  refine aY (ι := Nat) [13, 49, 50, 51, 52, 53, 54, 55, 56, 57, 58, 59, 60, 61, 62, 63, 64, 65, 66, 67] (fun j => [(49, .int .i64 (j : Int))])
   (fun j w' => j ≤ c ∧ Ex w2 w' ∧ MO true (K1 + K2 + 1) w' w2.heap.size g r c gs cp (fun x y => if x < i ∨ (x = i ∧ y < j) then mm n A B x y else 0)) (fun j => c - j)
   0 ⟨rfl, trivial⟩ ⟨by omega, hE4, hO4.congr fun x y _ _ => by
    by_cases h : x < i
    ·rw [if_pos h, if_pos (.inl h)]
    ·rw [if_neg h, if_neg (by omega)]⟩ ?_
  clear hO4 hE4
  rintro j ξ2 w5 ⟨hj, hE5, hO5⟩
  show CW _ _ _ _ (over [(49, .int .i64 (j : Int))] _) w5
  rcases Nat.lt_or_ge j c with hjc | hjc
  ·have hE05 := hE02.trans hE5
   obtain ⟨hhr, hbr, hcr, hEr⟩ := hO5.get hir
   have hT5 := hT2.ext hE5
   repeat' (first|refine bu rfl rfl (by omega) ?_|refine aa ?_|refine aj ?_|refine ah rfl ?_|refine ae ?_|refine az rfl ?_|refine aE ?_)
   refine aA ?_
   repeat' (first|refine ai rfl ?_|refine aa ?_|refine aj ?_|refine ah rfl ?_|refine ae ?_)
   refine bi (late := [15]) (plan := [(0, none), (1, none), (2, none), (3, none), (4, none), (5, none), (6, none), (7, none), (8, none), (9, none), (10, none), (11, none), (12, none), (13, some true), (14, none), (15, some false)]) (fun w' => Ex w5 w') bA (by kernel_rfl) (Ex.refl w5).drew ?_
   have hEd := (Ex.refl w5).drew
   repeat' (first|refine aD (j := i) (a := some ⟨g, 0, none⟩) rfl rfl ⟨_, _, rfl⟩ (by omega) ?_|refine aV (j := i) (a := some ⟨g, 0, none⟩) (n := r) (s := fun k => ⟨some ⟨gs k, 0, none⟩, c, cp k⟩) rfl (fun _ h => (hO5.ext h).top.sl) (by omega) rfl ?_|refine aD (j := i) (a := a) rfl rfl hpt (by omega) ?_|refine cG (j := i) (a := a) (n := r) (s := s) rfl (fun _ h => (hA.ext (hE05.trans h)).top) (by omega) ?_|refine aD (j := j) (a := some ⟨gt, 0, none⟩) rfl rfl ⟨_, _, rfl⟩ (by omega) ?_|refine cG (j := j) (a := some ⟨gt, 0, none⟩) (n := c) (s := fun k => ⟨some ⟨gst k, 0, none⟩, n, cpt k⟩) rfl (fun _ h => (hT5.ext h).top.sl) (by omega) ?_|refine ai rfl ?_)
   refine aw (jE (((hA.row i hir).ext hE05).ext hEd) (((hT5.row j hjc).rx).ext hEd) (by omega) (by omega)) rfl ?_
   rintro v w6 ⟨hI6, hE6⟩
   refine ⟨fun _ h => h.trans hE6, ?_⟩
   obtain ⟨u, rfl⟩ := hI6.ih
   have hE56 := hEd.trans hE6
   repeat' (first|refine aT (j := j) (a := some ⟨gs i, 0, none⟩) rfl rfl ⟨_, _, rfl⟩ (by omega) ?_)
   refine bR (j := j) (n := cp i) (u := u) rfl rfl (hbr.ext hE56) (by omega) (fun w7 hc7 hb7 => ⟨fun h => (nomatch h), ?_⟩)
   repeat' (first|refine ai rfl ?_|refine aa ?_|refine ah rfl ?_|refine ae ?_|refine bc rfl rfl (by omega) (by omega) ?_|refine aL ?_)
   refine ⟨⟨j + 1, ⟨hjc, (hE5.trans hE56).chg hc7 (hO5.row i hir).low, ((hO5.ext hE56).put hir (hbr.ext hE56) (fun k hk => (hEr k hk).ext hE56) (Ent.of hI6 (lM i j hir hjc)) hc7 hb7).congr fun x y _ _ => ?_⟩, by omega, rfl, trivial⟩, (by (repeat (first|exact aH _ _ _|refine ay rfl ?_|refine av rfl ?_|refine ak rfl ?_|refine ao rfl ?_)))⟩
   unfold setM
   by_cases h : x = i ∧ y = j
   ·rw [if_pos h, if_pos (by omega), h.1, h.2]; rfl
   ·rw [if_neg h]
    show _ = if x < i ∨ (x = i ∧ y < j) then mm n A B x y else 0
    by_cases h' : x < i ∨ (x = i ∧ y < j)
    ·rw [if_pos h', if_pos (by omega)]
    ·rw [if_neg h', if_neg (by omega)]
  ·have ejc : c = j := by omega
   subst ejc
   repeat' (first|refine bj rfl rfl (by omega) ?_|refine ai rfl ?_|refine aa ?_|refine aj ?_|refine ah rfl ?_|refine ae ?_|refine bc rfl rfl (by omega) (by omega) ?_|refine au rfl ?_|refine aP ?_|refine aJ ?_|refine aQ ?_|refine aL ?_)
   refine ⟨⟨i + 1, ⟨hir, hE5, hO5.congr fun x y _ hy => ?_⟩, by omega, rfl, trivial⟩, (by (repeat (first|exact aH _ _ _|refine ay rfl ?_|refine av rfl ?_|refine ak rfl ?_|refine ao rfl ?_)))⟩
   by_cases h : x < i + 1
   ·rw [if_pos h, if_pos (by omega)]
   ·rw [if_neg h, if_neg (by omega)]
 ·have eir : r = i := by omega
  subst eir
  repeat' (first|refine bj rfl rfl (by omega) ?_|refine ai rfl ?_|refine aa ?_|refine aj ?_|refine ah rfl ?_|refine ae ?_|refine au rfl ?_|refine aP ?_|refine aJ ?_|refine aQ ?_|refine aI ?_)
  exact cA rfl (rt rfl) (rt rfl) ⟨_, rfl, g, gs, cp, rfl, (hO4.mono s2).congr fun x y hx _ => by rw [if_pos hx], hE02.trans hE4⟩
theorem jM {c1 c2 : Bool} {K1 K2 r n c ca cb : Nat} {w : World} {a b : Option Addr} {s s' : Nat → SD} {A B : Mat} (hA : MX c1 K1 w a r n s A) (hB : MX c2 K2 w b n c s' B)
  (hr : 1 ≤ r ∧ r ≤ 16) (hn : 1 ≤ n ∧ n ≤ 16) (hc : 1 ≤ c ∧ c ≤ 16) (hK : K1 + K2 + 2 < 17592186044416) :
  CallsR Tryz.prog 18 #[.slice a r ca, .slice b n cb] w (RetMO (K1 + K2 + 1) w r c (mm n A B)) := by
 refine aF (args := [_, _]) Tryz.func18 rfl rfl ?_
 repeat' (first|refine ai rfl ?_|refine aa ?_|refine aj ?_|refine ah rfl ?_|refine ae ?_)
 refine aw (mD hA hB hr hn hc hK) rfl ?_
 rintro v w1 ⟨_, rfl, g, gs, cp, rfl, hO, hE1⟩
 refine ⟨fun _ _ => trivial, ?_⟩
 repeat' (first|refine aK rfl rfl ?_|refine ai rfl ?_|refine aa ?_|refine aj ?_|refine ah rfl ?_|refine ae ?_|refine aI ?_)
 exact bx rfl (rt rfl) ⟨g, gs, cp, rfl, hO, hE1⟩
end Go.Proofs.YtiejljicpinheaaGreat
namespace Go.Proofs.YtiejljicpinheaaGreat
open Go.W Go.LM Go.LA
theorem sL {p k i : Nat} (h : p ≠ k) : swp2 p k i = if i = k then p else if i = p then k else i := by
 unfold swp2
 by_cases h1 : i = p
 ·by_cases h2 : i = k
  ·omega
  ·rw [if_pos h1, if_neg h2, if_pos h1]
 ·by_cases h2 : i = k
  ·rw [if_neg h1, if_pos h2, if_pos h2]
  ·rw [if_neg h1, if_neg h2, if_neg h2, if_neg h1]
set_option maxHeartbeats 4000000 in
theorem eI {cn : Bool} {K n cap : Nat} {w : World} {a : Option Addr} {s : Nat → SD} {A : Mat} (hM : MX cn K w a n n s A) (hn : 1 ≤ n ∧ n ≤ 16) (hK : 16 * K + 17 ≤ 4398046511104) :
  CallsR Tryz.prog 43 #[.slice a n cap] w fun v w' => Ent true (16 * K + 17) w' v (det n A) ∧ Ex w w' := by
 refine aF (args := [_]) Tryz.func43 rfl rfl ?_
 refine aj ?_
 refine ah rfl ?_
 refine aG (fun g0 w0 hn0 => ⟨fun _ _ => trivial, ?_⟩)
 have hb0 : Blk w0 g0 43 (intL false none 0 0) := hn0.blk
 repeat' (first|refine ai rfl ?_|refine aa ?_|refine aj ?_|refine ah rfl ?_|refine ae ?_)
 refine aw (ii (hM.ext hn0.ex) ⟨hn.1, by omega⟩ ⟨hn.1, by omega⟩) rfl ?_
 rintro v w1 ⟨g, gs, cp, rfl, hO1, hE1⟩
 refine ⟨fun _ _ => trivial, ?_⟩
 repeat' (first|refine ai rfl ?_|refine aa ?_|refine aj ?_|refine ah rfl ?_|refine ae ?_|refine aZ rfl ?_)
 refine aw (cT (z := 1) (by omega) (by omega) _) rfl ?_
 rintro v w3 ⟨hI3, hE3⟩
 refine ⟨fun _ _ => trivial, ?_⟩
 obtain ⟨x3, rfl⟩ := hI3.ih
 refine aG (fun g4 w4 hn4 => ⟨fun _ _ => trivial, ?_⟩)
 have hb4 : Blk w4 g4 43 (intL false none 0 0) := hn4.blk
 refine ax (n := 2) (vs := x3.cells) rfl rfl rfl rfl hb4 rfl (fun w5 hc5 hb5 => ⟨fun _ _ => trivial, ?_⟩)
 have s1 := hE1.size
 have s3 := hE3.size
 have s4 := hn4.ex.size
 have l4 := hn4.lo
 have hE5 : Ex w0 w5 := ((hE1.trans hE3).trans hn4.ex).chg hc5 (by omega)
 have hO5 := (((hO1.ext hE3).ext hn4.ex).gbN hb4 (aB _ _ _ _) (bw hc5) (by have := hO1.lt; omega) (fun k hk => by have := (hO1.row k hk).lt; omega)).up (K' := 16 * K + 17) (by omega)
 have hx5 : Ent true (16 * K + 17) w5 x3.val 1 := ((Ent.of hI3 (b6 (e := 16 * K + 17) (by decide) (by omega))).ext hn4.ex).gbN hb4 (aB _ _ _ _) (bw hc5)
 have hg4 : ∀ k, k < n → gs k ≠ g4 := fun k hk => by have := (hO1.row k hk).lt; omega
 have hAlb : ∀ r c, r < n → c < n → Lb K (A r c) := fun r c hr hc => hM.lb hr hc
 have hB5 : BdJ n A 0 1 A 1 := lG n (fun _ _ _ _ => rfl)
 have hgg4 : g4 ≠ g := by have := hO1.lt; omega
 have hlo4 : w0.heap.size ≤ g4 := by omega
 clear hO1 hc5 hn4 hI3
 repeat' (first|refine ai rfl ?_|refine aa ?_|refine aj ?_|refine ah rfl ?_|refine ae ?_|refine aA ?_)
 refine aY (ι := Nat × Mat × (Nat → Nat) × (Nat → Nat) × Bool × IH × Int) [6, 7, 8, 9, 10, 16, 17, 18, 19, 20, 21, 22, 23, 24, 25, 26, 27, 28, 29, 30, 31, 32, 33, 34, 35, 36, 37, 38, 39, 40, 41, 42, 43, 44, 45, 46, 47, 48, 49, 50, 51, 52, 53, 54, 55, 56, 57, 58, 59, 60, 61, 62, 63, 64, 65, 66, 67, 68, 69, 70, 71, 72, 73, 74, 75, 76, 77, 78, 79, 80, 81, 82, 83, 84, 85, 86, 87, 88, 89, 90, 91, 92, 93, 94, 95, 96, 97, 98, 99, 100, 101, 102, 103, 104, 105, 106, 107, 108, 109, 110, 111, 112, 113, 114, 115, 116, 117, 118, 119, 120] (fun t => [(7, .int .i64 (t.1 : Int)), (6, .bool t.2.2.2.2.1)])
  (fun t w' => t.1 ≤ n ∧ Ex w0 w' ∧ MO true (16 * K + 17) w' w0.heap.size g n n t.2.2.1 t.2.2.2.1 t.2.1 ∧ (∀ k, k < n → t.2.2.1 k ≠ g4) ∧ Blk w' g4 43 t.2.2.2.2.2.1.cells ∧ Ent true (16 * K + 17) w' t.2.2.2.2.2.1.val t.2.2.2.2.2.2 ∧ BdJ n A t.1 (if t.2.2.2.2.1 then -1 else 1) t.2.1 t.2.2.2.2.2.2) (fun t => n - t.1)
  (0, A, gs, cp, false, x3, 1) ⟨rfl, rfl, trivial⟩ ⟨by omega, hE5, hO5, hg4, by assumption, hx5, hB5⟩ ?_
 clear hE5 hO5 hg4 hx5 hB5
 rintro ⟨k, F, gs, cp, neg, x, last⟩ ξ2 w6 ⟨hk, hE6, hO6, hg4, hx6, hxe, hB⟩
 simp only at hk hO6 hg4 hx6 hxe hB
 show CW _ _ _ _ (over [(7, .int .i64 (k : Int)), (6, .bool neg)] _) w6
 have hb06 : Blk w6 g0 43 (intL false none 0 0) := hb0.ext hE6
 have hE06 := hn0.ex.trans hE6
 rcases Nat.lt_or_ge k n with hkn | hkn
 ·repeat' (first|refine bu rfl rfl (by omega) ?_|refine ai rfl ?_|refine aa ?_|refine aj ?_|refine ah rfl ?_|refine ae ?_|refine az rfl ?_|refine aE ?_)
  refine aA ?_
  repeat' (first|refine ai rfl ?_|refine aa ?_|refine aj ?_|refine ah rfl ?_|refine ae ?_)
  refine ct (ι := Nat) [8, 22, 23, 24, 25, 26, 27, 28, 29, 30, 31, 32, 33, 34, 35, 36, 37] (fun p => [(8, .int .i64 (p : Int))])
   (fun p w' => Ex w6 w' ∧ k ≤ p ∧ p ≤ n ∧ (∀ q, k ≤ q → q < p → F q k = 0) ∧ (p < n → F p k ≠ 0)) ?_ ?_
  ·refine aA ?_
   refine aY (ι := Nat) [8, 22, 23, 24, 25, 26, 27, 28, 29, 30, 31, 32, 33, 34, 35, 36, 37] (fun p => [(8, .int .i64 (p : Int))]) (fun p w' => Ex w6 w' ∧ k ≤ p ∧ p ≤ n ∧ (∀ q, k ≤ q → q < p → F q k = 0)) (fun p => n - p)
    k ⟨rfl, trivial⟩ ⟨Ex.refl _, Nat.le_refl _, hk, fun q h1 h2 => by omega⟩ ?_
   rintro p ξ3 w7 ⟨hE7, hkp, hpn, hz⟩
   show CW _ _ _ _ (over [(8, .int .i64 (p : Int))] _) w7
   rcases Nat.lt_or_ge p n with hp | hp
   ·obtain ⟨hh, hbp, hcp, hEp⟩ := (hO6.ext hE7).get hp
    repeat' (first|refine bu rfl rfl (by omega) ?_|refine aD (j := p) (a := some ⟨g, 0, none⟩) rfl rfl ⟨_, _, rfl⟩ (by omega) ?_|refine aV (j := p) (a := some ⟨g, 0, none⟩) (n := n) (s := fun k => ⟨some ⟨gs k, 0, none⟩, n, cp k⟩) rfl (hO6.ext hE7).top.sl (by omega) rfl ?_|refine aT (j := k) (a := some ⟨gs p, 0, none⟩) rfl rfl ⟨_, _, rfl⟩ (by omega) ?_|refine bo (j := k) (a := some ⟨gs p, 0, none⟩) rfl hbp.sl ⟨_, _, rfl⟩ (by omega) ?_|refine ai rfl ?_|refine aj ?_|refine ah rfl ?_|refine bz rfl rfl ?_)
    refine aw (cj (hEp k (by omega)).k) rfl ?_
    rintro v w8 ⟨rfl, hE8⟩
    refine ⟨fun _ _ => trivial, ?_⟩
    repeat' (first|refine ai rfl ?_|refine aa ?_|refine ah rfl ?_|refine ae ?_|refine bz rfl rfl ?_|refine bc rfl rfl (by omega) (by omega) ?_|refine aO rfl (fun hc => ?_) (fun hc => ?_)|refine aA ?_|refine aP ?_|refine aJ ?_|refine aQ ?_|refine aL ?_|refine aE ?_)
    ·refine ⟨⟨p + 1, ⟨hE7.trans hE8, by omega, hp, fun q h1 h2 => ?_⟩, by omega, rfl, trivial⟩, (by (repeat (first|exact aH _ _ _|refine ay rfl ?_|refine av rfl ?_|refine ak rfl ?_|refine ao rfl ?_)))⟩
     by_cases hqp : q = p
     ·subst hqp; exact Int.sign_eq_zero_iff_zero.1 (by assumption)
     ·exact hz q h1 (by omega)
    ·exact ⟨⟨p, ⟨hE7.trans hE8, hkp, hpn, hz, fun _ e => absurd (show (F p k).sign = 0 by rw [e]; rfl) (by assumption)⟩, rfl, trivial⟩, (by (repeat (first|exact aM _ _|refine ay rfl ?_|refine av rfl ?_|refine ak rfl ?_|refine ao rfl ?_)))⟩
   ·repeat' (first|refine bj rfl rfl (by omega) ?_|refine ai rfl ?_|refine aa ?_|refine aj ?_|refine ah rfl ?_|refine ae ?_|refine bK rfl rfl ?_|refine au rfl ?_|refine aP ?_|refine aJ ?_|refine aQ ?_)
    exact ⟨⟨p, ⟨hE7, hkp, hpn, hz, fun h => by omega⟩, rfl, trivial⟩, (by (repeat (first|exact aM _ _|refine ay rfl ?_|refine av rfl ?_|refine ak rfl ?_|refine ao rfl ?_)))⟩
  ·rintro p ξ3 w7 ⟨hE7, hkp, hpn, hz, hnz⟩
   show CW _ _ _ _ (over [(8, .int .i64 (p : Int))] _) w7
   rcases Nat.lt_or_ge p n with hp | hp
   ·have hOp := hO6.ext hE7
    have hOk := hO6.ext hE7
    repeat' (first|refine dU rfl rfl (by omega) ?_|refine ai rfl ?_|refine aa ?_|refine aj ?_|refine ah rfl ?_|refine ae ?_)
    refine au rfl ?_
    repeat' (first|refine ai rfl ?_|refine aa ?_|refine aj ?_|refine ah rfl ?_|refine ae ?_|refine aE ?_)
    refine ct (ι := Mat × (Nat → Nat) × (Nat → Nat) × Bool) [6, 45, 46, 47, 48, 49, 50, 51, 52, 53, 54, 55, 56, 57, 58, 59, 60] (fun t => [(6, .bool t.2.2.2)])
     (fun t w' => Ex w0 w' ∧ MO true (16 * K + 17) w' w0.heap.size g n n t.2.1 t.2.2.1 t.1 ∧ (∀ k, k < n → t.2.1 k ≠ g4) ∧ Blk w' g4 43 x.cells ∧ Ent true (16 * K + 17) w' x.val last ∧ BdJ n A k (if t.2.2.2 then -1 else 1) t.1 last ∧ t.1 k k ≠ 0) ?_ ?_
    ·repeat' (first|refine aa ?_|refine aj ?_|refine aO rfl (fun hc => ?_) (fun hc => ?_)|refine aE ?_)
     ·refine bi (late := [13, 15]) (plan := [(0, none), (1, none), (2, none), (3, none), (4, none), (5, none), (6, none), (7, none), (8, none), (9, none), (10, none), (11, none), (12, none), (13, some false), (14, none), (15, some false)]) (fun w' => Ex w7 w') bA (by kernel_rfl) (Ex.refl w7).drew ?_
      have hOp := hO6.ext (hE7.drew)
      repeat' (first|refine aD (j := k) (a := some ⟨g, 0, none⟩) rfl rfl ⟨_, _, rfl⟩ (by omega) ?_|refine aD (j := p) (a := some ⟨g, 0, none⟩) rfl rfl ⟨_, _, rfl⟩ (by omega) ?_|refine aV (j := p) (a := some ⟨g, 0, none⟩) (n := n) (s := fun k => ⟨some ⟨gs k, 0, none⟩, n, cp k⟩) rfl (fun _ h => (hOk.ext h).top.sl) (by omega) rfl ?_|refine aV (j := k) (a := some ⟨g, 0, none⟩) (n := n) (s := fun k => ⟨some ⟨gs k, 0, none⟩, n, cp k⟩) rfl (fun _ h => (hOk.ext h).top.sl) (by omega) rfl ?_|refine ai rfl ?_)
      refine ch (j := p) (u := ⟨some ⟨gs k, 0, none⟩, n, cp k⟩) rfl rfl hOp.top (by omega) (fun w8 hc8 hT8 => ⟨fun h => (nomatch h), ?_⟩)
      repeat' (first|refine aD (j := k) (a := some ⟨g, 0, none⟩) rfl rfl ⟨_, _, rfl⟩ (by omega) ?_)
      refine ch (j := k) (u := ⟨some ⟨gs p, 0, none⟩, n, cp p⟩) rfl rfl hT8 (by omega) (fun w9 hc9 hT9 => ⟨fun h => (nomatch h), ?_⟩)
      repeat' (first|refine ai rfl ?_|refine aa ?_|refine ah rfl ?_|refine ae ?_)
      have hkp' : k < p := by omega
      have hsw := hOp.swap hp hkn hc8 hc9 hT9
      have hx9 := ((hx6.ext hE7.drew).chg hc8 hgg4).chg hc9 hgg4
      have hxe9 := ((hxe.ext hE7.drew).gbN hOp.top (bW _ _) (bw hc8)).gbN hT8 (bW _ _) (bw hc9)
      have hE9 := ((hE6.trans hE7.drew).chg hc8 hO6.low).chg hc9 hO6.low
      have hBs := hB.swap (W' := fun a => F (swp2 p k a)) hkp' hp (fun i j _ _ => by rw [sL (by omega)])
      refine ⟨⟨(fun a => F (swp2 p k a), fun a => gs (swp2 p k a), fun a => cp (swp2 p k a), !neg), ⟨hE9, hsw, fun m hm => hg4 _ (fx hp hkn hm), hx9, hxe9, ?_, ?_⟩, rfl, trivial⟩, (by (repeat (first|exact aM _ _|refine ay rfl ?_|refine av rfl ?_|refine ak rfl ?_|refine ao rfl ?_)))⟩
      ·have e : (-(if neg = true then -1 else 1) : Int) = if (!neg) = true then -1 else 1 := by cases neg <;> rfl
       rw [← e]; exact hBs
      ·show F (swp2 p k k) k ≠ 0
       rw [show swp2 p k k = p by unfold swp2; rw [if_neg (by omega), if_pos rfl]]; exact hnz hp
     ·have e : p = k := by omega
      subst e
      exact ⟨⟨(F, gs, cp, neg), ⟨hE6.trans hE7, hO6.ext hE7, hg4, hx6.ext hE7, hxe.ext hE7, hB, hnz hp⟩, rfl, trivial⟩, (by (repeat (first|exact aM _ _|refine ay rfl ?_|refine av rfl ?_|refine ak rfl ?_|refine ao rfl ?_)))⟩
    ·clear hOp hOk hnz hz hO6 hg4 hx6 hxe hB hb06 hE06
     rintro ⟨F, gs, cp, neg⟩ ξ4 w8 ⟨hE8, hO8, hg4, hx8, hxe8, hB, hnz⟩
     simp only at hO8 hg4 hB hnz
     show CW _ _ _ _ (over [(6, .bool neg)] _) w8
     have hstep := hB.step (W' := elm F last k n (k + 1)) hkn hnz (fun i j h1 h2 h3 h4 => jW F last h1 h2 h3)
     have hlbs := (BdJ.lb hstep hAlb hn.2).1
     have hl0 := hB.ne
     repeat' (first|refine bc rfl rfl (by omega) (by omega) ?_|refine ai rfl ?_|refine aa ?_|refine aj ?_|refine ah rfl ?_|refine ae ?_|refine aA ?_)
     refine aY (ι := Nat) [9, 10, 63, 64, 65, 66, 67, 68, 69, 70, 71, 72, 73, 74, 75, 76, 77, 78, 79, 80, 81, 82, 83, 84, 85, 86, 87, 88, 89, 90, 91, 92, 93, 94, 95, 96, 97, 98, 99, 100, 101, 102, 103, 104, 105, 106, 107, 108, 109, 110, 111, 112, 113] (fun i => [(9, .int .i64 (i : Int))])
      (fun i w' => k + 1 ≤ i ∧ i ≤ n ∧ Ex w0 w' ∧ MO true (16 * K + 17) w' w0.heap.size g n n gs cp (elm F last k i (k + 1)) ∧ Blk w' g4 43 x.cells ∧ Ent true (16 * K + 17) w' x.val last) (fun i => n - i)
      (k + 1) ⟨by show Value.int .i64 ((k : Int) + 1) = _; norm_cast, trivial⟩ ⟨Nat.le_refl _, hkn, hE8, hO8.congr (fun a b _ _ => lJ F last k a b), hx8, hxe8⟩ ?_
     clear hO8 hx8 hxe8 hE8
     rintro i ξ5 w11 ⟨hki, hin, hE11, hO11, hx11, hxe11⟩
     show CW _ _ _ _ (over [(9, .int .i64 (i : Int))] _) w11
     rcases Nat.lt_or_ge i n with hi | hi
     ·repeat' (first|refine bu rfl rfl (by omega) ?_|refine bc rfl rfl (by omega) (by omega) ?_|refine ai rfl ?_|refine aa ?_|refine aj ?_|refine ah rfl ?_|refine ae ?_|refine az rfl ?_|refine aA ?_|refine aE ?_)
      refine aY (ι := Nat) [10, 70, 71, 72, 73, 74, 75, 76, 77, 78, 79, 80, 81, 82, 83, 84, 85, 86, 87, 88, 89, 90, 91, 92, 93, 94, 95, 96, 97, 98, 99, 100, 101, 102, 103, 104, 105, 106, 107, 108, 109, 110, 111, 112, 113] (fun j => [(10, .int .i64 (j : Int))])
       (fun j w' => k + 1 ≤ j ∧ j ≤ n ∧ Ex w0 w' ∧ MO true (16 * K + 17) w' w0.heap.size g n n gs cp (elm F last k i j) ∧ Blk w' g4 43 x.cells ∧ Ent true (16 * K + 17) w' x.val last) (fun j => n - j)
       (k + 1) ⟨by show Value.int .i64 ((k : Int) + 1) = _; norm_cast, trivial⟩ ⟨Nat.le_refl _, hkn, hE11, hO11, hx11, hxe11⟩ ?_
      clear hO11 hx11 hxe11 hE11
      rintro j ξ6 w12 ⟨hkj, hjn, hE12, hO12, hx12, hxe12⟩
      show CW _ _ _ _ (over [(10, .int .i64 (j : Int))] _) w12
      rcases Nat.lt_or_ge j n with hj | hj
      ·obtain ⟨hi', hbi, hci, hEi⟩ := hO12.get hi
       obtain ⟨hk', hbk, hck, hEk⟩ := hO12.get hkn
       have hki' : k < i := by omega
       have hkj' : k < j := by omega
       have e1 := fy F last (k := k) (i := i) (j := j) (a := i) (b := j) (by omega)
       have e2 := fy F last (k := k) (i := i) (j := j) (a := i) (b := k) (by omega)
       have e3 := fy F last (k := k) (i := i) (j := j) (a := k) (b := j) (by omega)
       have e4 := fy F last (k := k) (i := i) (j := j) (a := k) (b := k) (by omega)
       have n1 : Ent true (16 * K + 17) w12 (hi' j).val (F i j) := by rw [← e1]; exact hEi j hj
       have n2 : Ent true (16 * K + 17) w12 (hi' k).val (F i k) := by rw [← e2]; exact hEi k hkn
       have n3 : Ent true (16 * K + 17) w12 (hk' j).val (F k j) := by rw [← e3]; exact hEk j hj
       have n4 : Ent true (16 * K + 17) w12 (hk' k).val (F k k) := by rw [← e4]; exact hEk k hkn
       repeat' (first|refine bu rfl rfl (by omega) ?_|refine ai rfl ?_|refine aa ?_|refine aj ?_|refine ah rfl ?_|refine ae ?_|refine az rfl ?_|refine aE ?_)
       refine aA ?_
       skip
       have b1 := n4.lb.mul n1.lb
       have b2 := n2.lb.mul n3.lb
       have b3 := b1.sub b2
       refine bi (late := [39]) (plan := [(0, none), (1, none), (2, none), (3, none), (4, none), (5, none), (6, none), (7, none), (8, none), (9, none), (10, none), (11, none), (12, none), (13, none), (14, none), (15, none), (16, none), (17, none), (18, none), (20, none), (21, none), (22, none), (23, none), (24, none), (25, none), (26, none), (27, none), (28, none), (29, none), (30, none), (31, none), (32, none), (33, none), (36, none), (19, some true), (34, some true), (35, some true), (37, some true), (38, none), (39, some false)]) (fun w' => Ex w12 w') bA (by kernel_rfl) (Ex.refl w12).drew ?_
       have hEd := (Ex.refl w12).drew
       repeat' (first|refine aD (j := i) (a := some ⟨g, 0, none⟩) rfl rfl ⟨_, _, rfl⟩ (by omega) ?_|refine aD (j := k) (a := some ⟨g, 0, none⟩) rfl rfl ⟨_, _, rfl⟩ (by omega) ?_|refine aV (j := i) (a := some ⟨g, 0, none⟩) (n := n) (s := fun k => ⟨some ⟨gs k, 0, none⟩, n, cp k⟩) rfl (fun _ h => (hO12.ext h).top.sl) (by omega) rfl ?_|refine aV (j := k) (a := some ⟨g, 0, none⟩) (n := n) (s := fun k => ⟨some ⟨gs k, 0, none⟩, n, cp k⟩) rfl (fun _ h => (hO12.ext h).top.sl) (by omega) rfl ?_|refine aT (j := j) (a := some ⟨gs i, 0, none⟩) rfl rfl ⟨_, _, rfl⟩ (by omega) ?_|refine aT (j := k) (a := some ⟨gs i, 0, none⟩) rfl rfl ⟨_, _, rfl⟩ (by omega) ?_|refine aT (j := j) (a := some ⟨gs k, 0, none⟩) rfl rfl ⟨_, _, rfl⟩ (by omega) ?_|refine aT (j := k) (a := some ⟨gs k, 0, none⟩) rfl rfl ⟨_, _, rfl⟩ (by omega) ?_|refine bo (j := j) (n := cp i) (a := some ⟨gs i, 0, none⟩) rfl (fun _ h => (hbi.ext h).sl) ⟨_, _, rfl⟩ (by omega) ?_|refine bo (j := k) (n := cp i) (a := some ⟨gs i, 0, none⟩) rfl (fun _ h => (hbi.ext h).sl) ⟨_, _, rfl⟩ (by omega) ?_|refine bo (j := j) (n := cp k) (a := some ⟨gs k, 0, none⟩) rfl (fun _ h => (hbk.ext h).sl) ⟨_, _, rfl⟩ (by omega) ?_|refine bo (j := k) (n := cp k) (a := some ⟨gs k, 0, none⟩) rfl (fun _ h => (hbk.ext h).sl) ⟨_, _, rfl⟩ (by omega) ?_|refine aR (g := g4) rfl (fun _ h => hx12.ext h) rfl ?_|refine ai rfl ?_)
       refine aw (dG (n4.ext hEd).k (n1.ext hEd).k (by omega)) rfl ?_
       rintro v w13 ⟨hI13, hE13⟩
       refine ⟨fun _ h => h.trans hE13, ?_⟩
       have hEd13 := hEd.trans hE13
       skip
       refine aw (dG (n2.ext hEd13).k (n3.ext hEd13).k (by omega)) rfl ?_
       rintro v w14 ⟨hI14, hE14⟩
       refine ⟨fun _ h => h.trans hE14, ?_⟩
       skip
       refine aw (ew ((hI13.ext hE14).k b1) (hI14.k b2) (by omega) (by omega)) rfl ?_
       rintro v w15 ⟨hI15, hE15⟩
       refine ⟨fun _ h => h.trans hE15, ?_⟩
       have hEd15 := (hEd13.trans hE14).trans hE15
       skip
       refine aw (d7 (hI15.k b3) (hxe12.ext hEd15).k (by omega) (by omega)) rfl ?_
       rintro v w16 ⟨hI16, hE16⟩
       refine ⟨fun _ h => h.trans hE16, ?_⟩
       obtain ⟨u, rfl⟩ := hI16.ih
       have hE1216 := hEd15.trans hE16
       have hbi16 := hbi.ext hE1216
       repeat' (first|refine aT (j := j) (a := some ⟨gs i, 0, none⟩) rfl rfl ⟨_, _, rfl⟩ (by omega) ?_)
       refine bR (j := j) (n := cp i) (u := u) rfl rfl hbi16 (by omega) (fun w17 hc17 hb17 => ⟨fun h => (nomatch h), ?_⟩)
       repeat' (first|refine ai rfl ?_|refine aa ?_|refine ah rfl ?_|refine ae ?_|refine bc rfl rfl (by omega) (by omega) ?_|refine aL ?_)
       have hu : Ent true (16 * K + 17) w16 u.val ((F k k * F i j - F i k * F k j) / last) := Ent.of hI16 (by
        have := hlbs i j (by omega) hi (by omega) hj
        rwa [jW F last (by omega) hi (by omega)] at this)
       have hput := (hO12.ext hE1216).put (j := j) hi hbi16 (fun m hm => (hEi m hm).ext hE1216) hu hc17 hb17
       have hgi4 := hg4 i hi
       have hloi := (hO12.row i hi).low
       exact ⟨⟨j + 1, ⟨by omega, hj, (hE12.trans hE1216).chg hc17 hloi, hput.congr (fun a b _ _ => (oZ F last hki' hkj' a b).symm), (hx12.ext hE1216).chg hc17 (Ne.symm hgi4), (hxe12.ext hE1216).gbN hbi16 (bE _ _) (bw hc17)⟩, by omega, rfl, trivial⟩, (by (repeat (first|exact aH _ _ _|refine ay rfl ?_|refine av rfl ?_|refine ak rfl ?_|refine ao rfl ?_)))⟩
      ·have ejn : n = j := by omega
       subst ejn
       repeat' (first|refine bj rfl rfl (by omega) ?_|refine bc rfl rfl (by omega) (by omega) ?_|refine ai rfl ?_|refine aa ?_|refine aj ?_|refine ah rfl ?_|refine ae ?_|refine au rfl ?_|refine aP ?_|refine aJ ?_|refine aQ ?_|refine aL ?_)
       exact ⟨⟨i + 1, ⟨by omega, hi, hE12, hO12.congr (fun a b _ hb => oY F last (by omega) hb), hx12, hxe12⟩, by omega, rfl, trivial⟩, (by (repeat (first|exact aH _ _ _|refine ay rfl ?_|refine av rfl ?_|refine ak rfl ?_|refine ao rfl ?_)))⟩
     ·have ein : n = i := by omega
      subst ein
      obtain ⟨hk', hbk, hck, hEk⟩ := hO11.get hkn
      have e4 := fy F last (k := k) (i := n) (j := k + 1) (a := k) (b := k) (by omega)
      have n4 : Ent true (16 * K + 17) w11 (hk' k).val (F k k) := by rw [← e4]; exact hEk k hkn
      repeat' (first|refine bj rfl rfl (by omega) ?_|refine aD (j := k) (a := some ⟨g, 0, none⟩) rfl rfl ⟨_, _, rfl⟩ (by omega) ?_|refine aV (j := k) (a := some ⟨g, 0, none⟩) (n := n) (s := fun k => ⟨some ⟨gs k, 0, none⟩, n, cp k⟩) rfl hO11.top.sl (by omega) rfl ?_|refine aT (j := k) (a := some ⟨gs k, 0, none⟩) rfl rfl ⟨_, _, rfl⟩ (by omega) ?_|refine bo (j := k) (n := cp k) (a := some ⟨gs k, 0, none⟩) rfl hbk.sl ⟨_, _, rfl⟩ (by omega) ?_|refine ai rfl ?_|refine aa ?_|refine aj ?_|refine ah rfl ?_|refine ae ?_|refine au rfl ?_|refine aP ?_|refine aJ ?_|refine aQ ?_)
      refine ax (n := 2) (vs := (hk' k).cells) rfl rfl rfl rfl hx11 rfl (fun w12 hc12 hb12 => ⟨fun _ _ => trivial, ?_⟩)
      repeat' (first|refine ai rfl ?_|refine aa ?_|refine ah rfl ?_|refine ae ?_|refine bc rfl rfl (by omega) (by omega) ?_|refine aL ?_)
      exact ⟨⟨(k + 1, elm F last k n (k + 1), gs, cp, neg, hk' k, F k k), ⟨hkn, hE11.chg hc12 hlo4, hO11.gbN hx11 (aB _ _ _ _) (bw hc12) (Ne.symm hgg4) hg4, hg4, hb12, n4.gbN hx11 (aB _ _ _ _) (bw hc12), hstep⟩, by simp only; omega, rfl, rfl, trivial⟩, (by (repeat (first|exact aH _ _ _|refine ay rfl ?_|refine av rfl ?_|refine ak rfl ?_|refine ao rfl ?_)))⟩
   ·obtain rfl : p = n := by omega
    repeat' (first|refine eF rfl rfl rfl ?_|refine cf (cs := intL false none 0 0) rfl ?_|refine ai rfl ?_|refine aa ?_|refine aj ?_|refine ah rfl ?_|refine ae ?_|refine az rfl ?_)
    refine ax (n := 2) (vs := ih0.cells) rfl rfl rfl rfl (hb06.ext hE7) rfl (fun w8 hc8 hb8 => ⟨fun _ _ => trivial, ?_⟩)
    repeat' (first|refine aa ?_|refine ae ?_|refine aI ?_|refine aU ?_|refine bQ ?_)
    have hd : det p A = 0 := hB.none hkn (fun i h1 h2 => hz i h1 h2)
    refine bx rfl (rc rfl rfl hb8) ⟨?_, (hE06.trans hE7).chg hc8 hn0.lo⟩
    rw [hd]
    exact iv _
 ·have ekn : n = k := by omega
  subst ekn
  have hdet : det n A = (if neg = true then -1 else 1) * last := hB.fin
  rcases Bool.eq_false_or_eq_true neg with rfl | rfl
  ·repeat' (first|refine bj rfl rfl (by omega) ?_|refine aR (g := g4) rfl hx6 rfl ?_|refine ai rfl ?_|refine aa ?_|refine aj ?_|refine ah rfl ?_|refine ae ?_|refine az rfl ?_|refine au rfl ?_|refine aP ?_|refine aJ ?_|refine aQ ?_)
   refine aw (fr hxe.k) rfl ?_
   rintro v w7 ⟨hI7, hE7⟩
   refine ⟨fun _ _ => trivial, ?_⟩
   obtain ⟨y, rfl⟩ := hI7.ih
   refine ax (n := 2) (vs := y.cells) rfl rfl rfl rfl (hb06.ext hE7) rfl (fun w8 hc8 hb8 => ⟨fun _ _ => trivial, ?_⟩)
   repeat' (first|refine aa ?_|refine ae ?_|refine aI ?_|refine aU ?_)
   refine bx rfl (rc rfl rfl hb8) ⟨?_, (hE06.trans hE7).chg hc8 hn0.lo⟩
   rw [hdet, if_pos rfl, Int.neg_one_mul]
   exact (Ent.of hI7 hxe.lb.neg).gbN (hb06.ext hE7) (aB _ _ _ _) (bw hc8)
  ·repeat' (first|refine bj rfl rfl (by omega) ?_|refine aR (g := g4) rfl hx6 rfl ?_|refine ai rfl ?_|refine aa ?_|refine aj ?_|refine ah rfl ?_|refine ae ?_|refine au rfl ?_|refine aP ?_|refine aJ ?_|refine aQ ?_|refine aE ?_)
   refine ax (n := 2) (vs := x.cells) rfl rfl rfl rfl hb06 rfl (fun w8 hc8 hb8 => ⟨fun _ _ => trivial, ?_⟩)
   repeat' (first|refine aa ?_|refine ae ?_|refine aI ?_)
   refine bx rfl (rc rfl rfl hb8) ⟨?_, hE06.chg hc8 hn0.lo⟩
   rw [hdet, if_neg (by decide), Int.one_mul]
   exact hxe.gbN hb06 (aB _ _ _ _) (bw hc8)
end Go.Proofs.YtiejljicpinheaaGreat
