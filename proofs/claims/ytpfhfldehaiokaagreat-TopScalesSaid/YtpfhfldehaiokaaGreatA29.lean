import Derived.Test.YtpfhfldehaiokaaGreatA27
import Derived.Test.YtpfhfldehaiokaaGreatA28
set_option maxHeartbeats 16000000
namespace Go.W
open Go
def noG (Q : Exit → Env → World → Prop) : Exit → Env → World → Prop
 | .goto _, _, _ => False
 | e, ρ, w => Q e ρ w
section
variable {P : Program} {n : Nat} {Q : Exit → Env → World → Prop} {ρ : Env} {w : World}
theorem td {l : Nat} (h : Q .normal ρ w) : CW P n (.label l) Q ρ w := by
 unfold CW
 exact fun _ hr => wp_label ⟨ρ, hr, h⟩
theorem wv (h : Q .ret ρ w) : noG Q .ret ρ w := h
theorem te {c : Code} (h : CW P n c (noG Q) ρ w) : CW P n (.scope c) Q ρ w := by
 unfold CW at h ⊢
 intro a hr
 refine wp_scope_straight (wp_mono (h a hr) fun e a w q => ?_)
 cases e <;> simp only [lift, noG, Exit.noGoto] at q ⊢
 case goto => obtain ⟨_, _, hf⟩ := q; exact hf
 all_goals exact q
end
end Go.W
namespace Go.Proofs.YtpfhfldehaiokaaGreat
open Go.W Go.LM Go.LA
theorem oM {cn : Bool} {K r c g1 cap i j : Nat} {w : World} {a : Option Addr} {s : Nat → SD} {A : Mat} (hM : MX cn K w a r c s A) (hb : Blk w g1 27 [.slice a r cap]) (hi : i < r) (hj : j < c) :
  CallsR Tryz.prog 124 (#[] ++ #[.int .i64 i, .int .i64 j] ++ #[.pointer (some ⟨g1, 0, none⟩)]) w fun v w' => (∃ lo, IntC lo w' v (A i j)) ∧ Ex w w' := by
 have hpt := hM.plain (by omega)
 obtain ⟨p, d, hh, e1, _, hpp, hS, hEn⟩ := hM.get hi (by omega)
 refine aE (args := [_, _, _]) Tryz.func124 rfl rfl ?_
 refine ak ?_
 refine ai rfl ?_
 refine aH (fun g2 w2 hn2 => tvv ?_)
 have hb2 : Blk w2 g2 34 (intL false none 0 0) := hn2.blk
 repeat' (first|refine aP (g := g1) rfl (hb.ext hn2.ex) rfl ?_|refine az (j := i) (a := a) rfl rfl hpt (by omega) ?_|refine aZ (j := i) (a := a) (n := r) (s := s) rfl (hM.ext hn2.ex).top hi e1 ?_|refine bE (j := j) (a := p) rfl rfl hpp (by omega) ?_|refine bX (j := j) (n := c) (f := hh) (a := p) rfl (hS.ext hn2.ex) hpp hj ?_|refine aj rfl ?_|refine aa ?_|refine ak ?_|refine ai rfl ?_|refine ah ?_)
 refine au (kP ((hEn j hj).ext hn2.ex).k) rfl ?_
 rintro v w3 ⟨hI3, hE3⟩
 refine tvv ?_
 obtain ⟨u, rfl⟩ := hI3.ih
 have hb23 := hb2.ext hE3
 refine aF (n := 2) (vs := u.cells) rfl rfl rfl rfl hb23 rfl (fun w4 hc4 hb4 => tvv ?_)
 repeat' (first|refine aa ?_|refine ah ?_|refine aK ?_)
 exact bo rfl (rc rfl rfl hb4) ⟨⟨_, hI3.gbN hb23 (cg _ _ _ _) (dx hc4)⟩, (hn2.ex.trans hE3).chg hc4 hn2.lo⟩
theorem oN {K m g1 g2 cap i j : Nat} {w : World} {a : Option Addr} {s : Nat → SD} {B : Mat} {u : IH} {e : Int} (hM : MX true K w a (m + 1) (m + 1) s B) (hb : Blk w g1 27 [.slice a (m + 1) cap]) (hl : Blk w g2 34 u.cells) (hu : Ent true K w u.val e) (hi : i < m) (hj : j < m) (hm : m ≤ 16) (hK : 2 * K + 1 < 17592186044415) :
  CallsR Tryz.prog 127 (#[] ++ #[.int .i64 i, .int .i64 j] ++ #[.pointer (some ⟨g1, 0, none⟩), .pointer (some ⟨g2, 0, none⟩)]) w fun v w' => (∃ lo, IntC lo w' v ((B 0 0 * B (i + 1) (j + 1) - B (i + 1) 0 * B 0 (j + 1)) / e)) ∧ Ex w w' := by
 have hpt := hM.plain (by omega)
 obtain ⟨p, d, hh, e1, _, hpp, hS, hEn⟩ := hM.get (show 0 < m + 1 by omega) (by omega)
 obtain ⟨p', d', hh', e1', _, hpp', hS', hEn'⟩ := hM.get (show i + 1 < m + 1 by omega) (by omega)
 refine aE (args := [_, _, _, _]) Tryz.func127 rfl rfl ?_
 refine ak ?_
 refine ai rfl ?_
 refine aH (fun g3 w2 hn2 => tvv ?_)
 have hb3 : Blk w2 g3 34 (intL false none 0 0) := hn2.blk
 have hE2 := hn2.ex
 have ei : ∀ {k : Nat} {v : Int}, v = (k : Int) + 1 → Value.int .i64 v = Value.int .i64 ((k + 1 : Nat) : Int) := fun h => by rw [h]; rfl
 repeat' (first|refine aa ?_|refine ak ?_|refine ah ?_)
 refine eZ (late := [30]) (plan := [(0, none), (1, none), (2, none), (3, none), (4, none), (5, none), (6, none), (7, none), (8, none), (9, none), (10, none), (11, none), (12, none), (13, none), (14, none), (15, none), (16, none), (17, none), (18, none), (19, none), (20, none), (21, none), (22, none), (23, none), (24, none), (25, none), (26, none), (27, none), (28, none), (29, some true), (30, some false)]) (fun w' => Ex w w') bD (by kernel_rfl) hE2.drew ?_
 have hEd := (Ex.refl w2).drew
 repeat' (first|refine aP (g := g1) rfl (fun _ h => hb.ext h) rfl ?_|refine az (j := 0) (a := a) rfl rfl hpt (by omega) ?_|refine aZ (j := 0) (a := a) (n := m + 1) (s := s) rfl (fun _ h => (hM.ext h).top) (by omega) e1 ?_|refine bE (j := 0) (a := p) rfl rfl hpp (by omega) ?_|refine bX (j := 0) (n := m + 1) (f := hh) (a := p) rfl (fun _ h => hS.ext h) hpp (by omega) ?_|refine az (j := i + 1) (a := a) rfl (ei rfl) hpt (by omega) ?_|refine aZ (j := i + 1) (a := a) (n := m + 1) (s := s) rfl (fun _ h => (hM.ext h).top) (by omega) e1' ?_|refine bE (j := 0) (a := p') rfl rfl hpp' (by omega) ?_|refine bX (j := 0) (n := m + 1) (f := hh') (a := p') rfl (fun _ h => hS'.ext h) hpp' (by omega) ?_|refine bE (j := j + 1) (a := p) rfl (ei rfl) hpp (by omega) ?_|refine bX (j := j + 1) (n := m + 1) (f := hh) (a := p) rfl (fun _ h => hS.ext h) hpp (by omega) ?_|refine bE (j := j + 1) (a := p') rfl (ei rfl) hpp' (by omega) ?_|refine bX (j := j + 1) (n := m + 1) (f := hh') (a := p') rfl (fun _ h => hS'.ext h) hpp' (by omega) ?_|refine aY (cs := u.cells) (g := g2) rfl (fun _ h => hl.ext h) rfl ?_|refine aj rfl ?_|refine aV rfl rfl (by omega) (by omega) ?_)
 have hE0 := hE2.trans hEd
 refine au (qY (K := K) ((hEn 0 (by omega)).ext hE0).k ((hEn' 0 (by omega)).ext hE0).k ((hEn (j + 1) (by omega)).ext hE0).k ((hEn' (j + 1) (by omega)).ext hE0).k (hu.ext hE0).k (by omega)) rfl ?_
 rintro v w3 ⟨hI3, hE3⟩
 refine ⟨fun _ h => h.trans hE3, ?_⟩
 obtain ⟨x, rfl⟩ := hI3.ih
 have hb33 := (hb3.ext hEd).ext hE3
 refine aF (n := 2) (vs := x.cells) rfl rfl rfl rfl hb33 rfl (fun w4 hc4 hb4 => ⟨fun h => (nomatch h), ?_⟩)
 repeat' (first|refine aa ?_|refine ah ?_|refine aK ?_)
 exact bo rfl (rc rfl rfl hb4) ⟨⟨_, hI3.gbN hb33 (cg _ _ _ _) (dx hc4)⟩, (hE0.trans hE3).chg hc4 hn2.lo⟩
theorem ji {cn : Bool} {K n cap : Nat} {w : World} {a : Option Addr} {s : Nat → SD} {A : Mat} (hM : MX cn K w a n n s A) (hn : 1 ≤ n ∧ n ≤ 16) :
  CallsR Tryz.prog 89 #[.slice a n cap] w fun v w' => v = .tuple #[.int .i64 (n : Int), .bool true] ∧ Ex w w' := by
 refine aE (args := [_]) Tryz.func89 rfl rfl ?_
 repeat' (first|refine aj rfl ?_|refine aa ?_|refine ak ?_|refine ai rfl ?_|refine ah ?_)
 refine au (jf hM.top) rfl ?_
 rintro v w1 ⟨rfl, hE1⟩
 refine tvv ?_
 rw [eK hM hn hn]
 repeat' (first|refine aR rfl rfl ?_|refine eV rfl rfl rfl ?_|refine aj rfl ?_|refine aa ?_|refine ak ?_|refine ai rfl ?_|refine ah ?_|refine bJ rfl rfl ?_|refine aK ?_)
 exact dw rfl (rt rfl) (rt rfl) ⟨rfl, hE1⟩
theorem MX.gbL {cn : Bool} {K r c g q T m : Nat} {w w' : World} {s : Nat → SD} {t : Nat → SD} {F : Mat} (h : MX cn K w (some ⟨g, 0, none⟩) r c s F) (hb : Blk w q T (topC m t)) (hg : w.grownBy w' (some q)) (hne : g ≠ q) : MX cn K w' (some ⟨g, 0, none⟩) r c s F :=
 ⟨h.top.gb hg (fun ad e he => by cases e; cases he; exact hne rfl), fun i hi => (h.row i hi).gbT hb hg⟩
theorem MX.chgN {cn : Bool} {K r c g b T : Nat} {w w' : World} {s : Nat → SD} {cs : List Value} {F : Mat} (h : MX cn K w (some ⟨g, 0, none⟩) r c s F) (hb : Blk w b T cs) (hn : NoI cs) (hc : Chg b w w') (hg : g ≠ b) (hr : ∀ i, i < r → ∀ ad, (s i).a = some ad → ad.block ≠ b) : MX cn K w' (some ⟨g, 0, none⟩) r c s F :=
 ⟨h.top.chg hc (fun ad e => by cases e; exact hg), fun i hi => (h.row i hi).gbN hb hn (dx hc) (hr i hi)⟩
theorem r5 {s : SD} {lo E n : Nat} {w : World} {f : Nat → SD} (_ : TopG w lo E n s f) {q : Nat} (e : (Value.slice s.a s.len s.cap).ownBlock = some q) : ∃ x, s.a = some x ∧ x.block = q := by
 obtain ⟨a, l, c⟩ := s
 unfold Value.ownBlock at e
 cases a with
 | none => simp at e
 | some x => exact ⟨x, rfl, Option.some.inj e⟩
theorem MX.keepT {cn : Bool} {K r c g lo E k : Nat} {w w' : World} {s S : Nat → SD} {sd : SD} {F : Mat} (h : MX cn K w (some ⟨g, 0, none⟩) r c s F) (hT : TopG w lo E k sd S) (ho : ∀ x, sd.a = some x → x.block ≠ g) (hg : w.grownBy w' (Value.slice sd.a sd.len sd.cap).ownBlock) : MX cn K w' (some ⟨g, 0, none⟩) r c s F := by
 rcases hob : (Value.slice sd.a sd.len sd.cap).ownBlock with _ | q
 ·rw [hob] at hg; exact h.ext ⟨hg.os, hg.tape, hg.output, hg.size, fun k hk => hg.block k hk (by simp)⟩
 ·rw [hob] at hg
  obtain ⟨x, hx, rfl⟩ := r5 hT hob
  exact h.gbL (TopG.blk hT _ hob).2 hg (Ne.symm (ho x hx))
theorem Ent.keepT {cn : Bool} {K lo E k : Nat} {w w' : World} {S : Nat → SD} {sd : SD} {v : Value} {z : Int} (h : Ent cn K w v z) (hT : TopG w lo E k sd S) (hg : w.grownBy w' (Value.slice sd.a sd.len sd.cap).ownBlock) : Ent cn K w' v z := by
 rcases hob : (Value.slice sd.a sd.len sd.cap).ownBlock with _ | q
 ·rw [hob] at hg; exact h.ext ⟨hg.os, hg.tape, hg.output, hg.size, fun k hk => hg.block k hk (by simp)⟩
 ·rw [hob] at hg; exact h.gbN (TopG.blk hT _ hob).2 (dI _ _) hg
theorem TopG.low {w : World} {lo lo' E n : Nat} {s : SD} {f : Nat → SD} (h : TopG w lo E n s f) (hl : lo' ≤ lo) : TopG w lo' E n s f := by
 refine ⟨h.1, ?_⟩
 rcases h.2 with h | ⟨g, h1, h2, h3⟩
 ·exact .inl h
 ·exact .inr ⟨g, h1, Nat.le_trans hl h2, h3⟩
structure StgL (K : Nat) (w : World) (lo n k b : Nat) (sd : SD) (S : Nat → SD) (gk : Nat → Nat) (sk : Nat → Nat → SD) (A : Mat) : Prop where
 top : TopG w lo 27 k sd S
 hd : ∀ l, l < k → S l = ⟨some ⟨gk l, 0, none⟩, n - l, n - l⟩
 mx : ∀ l, l < k → MX true K w (some ⟨gk l, 0, none⟩) (n - l) (n - l) (sk l) (fun i j => bm A l (l + i) (l + j))
 off : ∀ l x, l < k → sd.a = some x → x.block ≠ gk l
 nb : ∀ l, l < k → gk l ≠ b ∧ ∀ i, i < n - l → ∀ ad, (sk l i).a = some ad → ad.block ≠ b
theorem StgL.ext {K lo n k b : Nat} {w w' : World} {sd : SD} {S : Nat → SD} {gk : Nat → Nat} {sk : Nat → Nat → SD} {A : Mat} (h : StgL K w lo n k b sd S gk sk A) (e : Ex w w') : StgL K w' lo n k b sd S gk sk A :=
 ⟨TopG.ext h.top e, h.hd, fun l hl => (h.mx l hl).ext e, h.off, h.nb⟩
theorem StgL.chg {K lo n k b T : Nat} {w w' : World} {sd : SD} {S : Nat → SD} {gk : Nat → Nat} {sk : Nat → Nat → SD} {A : Mat} {cs : List Value} (h : StgL K w lo n k b sd S gk sk A) (hb : Blk w b T cs) (hn : NoI cs) (hc : Chg b w w') (hl : b < lo) : StgL K w' lo n k b sd S gk sk A :=
 ⟨TopG.gb h.top (dx hc) (fun ad e he => by cases he; have := (TopG.lo h.top ad e).1; omega), h.hd, fun l hl => (h.mx l hl).chgN hb hn hc (h.nb l hl).1 (h.nb l hl).2, h.off, h.nb⟩
theorem StgL.app {K lo n k b gc : Nat} {w w' : World} {sd sd' : SD} {S S' : Nat → SD} {gk : Nat → Nat} {sk : Nat → Nat → SD} {sc : Nat → SD} {A : Mat} (h : StgL K w lo n k b sd S gk sk A) (hM : MX true K w (some ⟨gc, 0, none⟩) (n - k) (n - k) sc (fun i j => bm A k (k + i) (k + j))) (hoc : ∀ x, sd.a = some x → x.block ≠ gc)
  (hnb : gc ≠ b ∧ ∀ i, i < n - k → ∀ ad, (sc i).a = some ad → ad.block ≠ b) (hlt : gc < w.heap.size ∧ ∀ l, l < k → gk l < w.heap.size) (hT : TopG w' lo 27 (k + 1) sd' S') (h1 : ∀ i, i < k → S' i = S i) (h2 : S' k = ⟨some ⟨gc, 0, none⟩, n - k, n - k⟩) (hg : w.grownBy w' (Value.slice sd.a sd.len sd.cap).ownBlock)
  (ha : sd'.a = sd.a ∨ ∀ x, sd'.a = some x → w.heap.size ≤ x.block) : StgL K w' lo n (k + 1) b sd' S' (setF gk k gc) (setF sk k sc) A := by
 refine ⟨hT, fun l hl => ?_, fun l hl => ?_, fun l x hl hx => ?_, fun l hl => ?_⟩
 ·by_cases e : l = k
  ·subst e; rw [h2, aI]
  ·rw [h1 l (by omega), aN _ _ e]; exact h.hd l (by omega)
 ·by_cases e : l = k
  ·subst e; rw [aI, aI]; exact hM.keepT h.top hoc hg
  ·rw [aN _ _ e, aN _ _ e]; exact (h.mx l (by omega)).keepT h.top (fun x hx => h.off l x (by omega) hx) hg
 ·rcases ha with ha | ha
  ·by_cases e : l = k
   ·subst e; rw [aI]; exact hoc x (ha ▸ hx)
   ·rw [aN _ _ e]; exact h.off l x (by omega) (ha ▸ hx)
  ·have := ha x hx
   by_cases e : l = k
   ·subst e; rw [aI]; omega
   ·rw [aN _ _ e]; have := hlt.2 l (by omega); omega
 ·by_cases e : l = k
  ·subst e; rw [aI, aI]; exact hnb
  ·rw [aN _ _ e, aN _ _ e]; exact h.nb l (by omega)
theorem zq {K n k i j : Nat} {A : Mat} (h : ∀ i j, i < n → j < n → Lb K (A i j)) (hk : k < 16) (hi : i < n) (hj : j < n) (hkn : k ≤ n) : Lb (16 * K + 17) (bm A k i j) := by
 unfold bm
 have := Lb.det (n := k + 1) (M := brd A k i j) (e := K) (fun r c _ _ => by
  unfold brd
  exact h _ _ (by split <;> omega) (by split <;> omega)) (by omega)
 refine this.mono ?_
 have : (K + 1) * (k + 1) ≤ (K + 1) * 16 := Nat.mul_le_mul_left _ hk
 omega
theorem iP {cn : Bool} {K n cap : Nat} {w : World} {a : Option Addr} {s : Nat → SD} {A : Mat} (hM : MX cn K w a n n s A) (hn : 1 ≤ n ∧ n ≤ 16) (hl : ∀ i j, i < n → j < n → Lb K (A i j)) (hp : ∀ k, k < n → det (k + 1) A ≠ 0) (hK : 64 * K + 200 ≤ 4398046511104) :
  CallsR Tryz.prog 90 #[.slice a n cap] w fun v w' => ∃ sd S gk sk b, v = .tuple #[.slice sd.a sd.len sd.cap, .bool true] ∧ StgL (16 * K + 17) w' w.heap.size n n b sd S gk sk A ∧ Ex w w' := by
 have hz : ∀ k, k ≤ n → det k A ≠ 0 := fun k hk => by
  rcases Nat.eq_zero_or_pos k with e | e
  ·subst e; rw [cA]; decide
  ·have := hp (k - 1) (by omega); rwa [show k - 1 + 1 = k by omega] at this
 refine aE (args := [_]) Tryz.func90 rfl rfl ?_
 refine ak ?_
 refine ai rfl ?_
 refine j4 rfl rfl (fun g1 w1 hn1 => tvv ?_)
 have hb1 := hn1.blk
 repeat' (first|refine aj rfl ?_|refine aa ?_|refine ah ?_)
 refine te ?_
 repeat' (first|refine aP (g := g1) rfl hb1 rfl ?_|refine ak ?_|refine ai rfl ?_)
 refine au (ji (hM.ext hn1.ex) hn) rfl ?_
 rintro v w2 ⟨rfl, hE2⟩
 refine tvv ?_
 have hE02 := hn1.ex.trans hE2
 repeat' (first|refine aR rfl rfl ?_|refine eU ?_|refine aj rfl ?_|refine aa ?_|refine ak ?_|refine ai rfl ?_|refine ah ?_|refine ao rfl ?_|refine aC ?_)
 refine au (mE (first := #[]) (cap := #[.pointer (some ⟨g1, 0, none⟩)]) (F := A) (K := K) inferInstance hn hn hl (fun i j w3 hi hj hE3 => oM ((hM.ext hE02).ext hE3) ((hb1.ext hE2).ext hE3) hi hj)) rfl ?_
 rintro v w3 ⟨g0, s0, rfl, hM3, hE3, hg0, hs0⟩
 refine tvv ?_
 have hE03 := hE02.trans hE3
 repeat' (first|refine aj rfl ?_|refine aa ?_|refine ak ?_|refine ai rfl ?_|refine ah ?_)
 refine au (jo (z := 1) (by omega) (by omega) _) rfl ?_
 rintro v w4 ⟨hI4, hE4⟩
 refine tvv ?_
 obtain ⟨u4, rfl⟩ := hI4.ih
 refine aH (fun g7 w5 hn5 => tvv ?_)
 have hb5 : Blk w5 g7 34 (intL false none 0 0) := hn5.blk
 refine aF (n := 2) (vs := u4.cells) rfl rfl rfl rfl hb5 rfl (fun w6 hc6 hb6 => tvv ?_)
 have lo7 := hn5.lo
 have s3 := hE03.size
 have s4 := hE4.size
 have hE36 : Ex w3 w6 := (hE4.trans hn5.ex).chg hc6 (by omega)
 have hE06 := hE03.trans hE36
 have hu6 : Ent true (16 * K + 17) w6 u4.val (det 0 A) := (Ent.of ((hI4.ext hn5.ex).gbN hb5 (cg _ _ _ _) (dx hc6)) (bO (by decide) (by omega)) : Ent true (16 * K + 17) w6 u4.val 1)
 have hlt0 : g0 < w3.heap.size := hM3.top.lt (by rw [cv]; omega) _ rfl
 have hM6 : MX true (16 * K + 17) w6 (some ⟨g0, 0, none⟩) (n - 0) (n - 0) s0 (fun i j => bm A 0 (0 + i) (0 + j)) :=
  ((hM3.ext hE36).up (by omega)).congr fun i j _ _ => by simp only [Nat.zero_add]; exact dO A i j
 have hn0 : g0 ≠ g7 ∧ ∀ i, i < n - 0 → ∀ ad, (s0 i).a = some ad → ad.block ≠ g7 := ⟨by omega, fun i hi ad e => by have := (hM3.row i hi).lt (by omega) ad e; omega⟩
 have hlg7 := hb6.lt
 repeat' (first|refine aj rfl ?_|refine aa ?_|refine ak ?_|refine ai rfl ?_|refine ah ?_)
 refine td ?_
 refine aa ?_
 repeat' (first|refine aj rfl ?_|refine aa ?_|refine ak ?_|refine ai rfl ?_|refine ah ?_|refine ay ?_)
 refine aW (ι := Nat × (Nat × (Nat → SD)) × (SD × (Nat → SD) × (Nat → Nat) × (Nat → Nat → SD)) × IH) [2, 3, 6, 8, 9, 10, 24, 25, 26, 27, 28, 29, 30, 31, 32, 33, 34, 35, 36, 37, 38, 39, 40, 41, 42, 43, 44, 45, 46, 47, 48, 49, 50, 51, 52, 53, 54, 55, 56, 57, 58, 59, 60] (fun t => [(24, .int .i64 (t.1 : Int)), (6, .slice (some ⟨t.2.1.1, 0, none⟩) (n - t.1) (n - t.1)), (8, .slice t.2.2.1.1.a t.2.2.1.1.len t.2.2.1.1.cap)])
  (fun t w' => t.1 < n ∧ (Ex w w' ∧ w6.heap.size ≤ w'.heap.size) ∧ (MX true (16 * K + 17) w' (some ⟨t.2.1.1, 0, none⟩) (n - t.1) (n - t.1) t.2.1.2 (fun i j => bm A t.1 (t.1 + i) (t.1 + j)) ∧ (∀ x, t.2.2.1.1.a = some x → x.block ≠ t.2.1.1) ∧ t.2.1.1 ≠ g7 ∧ ∀ i, i < n - t.1 → ∀ ad, (t.2.1.2 i).a = some ad → ad.block ≠ g7) ∧
   StgL (16 * K + 17) w' w6.heap.size n t.1 g7 t.2.2.1.1 t.2.2.1.2.1 t.2.2.1.2.2.1 t.2.2.1.2.2.2 A ∧ Blk w' g7 34 t.2.2.2.cells ∧ Ent true (16 * K + 17) w' t.2.2.2.val (det t.1 A)) (fun t => n - t.1)
  (0, (g0, s0), (sd0, fun _ => sd0, fun _ => 0, fun _ _ => sd0), u4) ⟨rfl, rfl, rfl, trivial⟩ ⟨by simp only; omega, ⟨hE06, Nat.le_refl _⟩, ⟨hM6, fun x h => (nomatch h), hn0⟩, ⟨TopG.nil _ _ _ _, fun l h => by simp only at h; omega, fun l h => by simp only at h; omega, fun l x h => by simp only at h; omega, fun l h => by simp only at h; omega⟩, hb6, hu6⟩ ?_
 clear hM6 hn0 hu6 hb6 hb5 hn5 hc6 hlt0 hs0 hM3
 rintro ⟨k, ⟨gc, sc⟩, ⟨sd, S, gk, sk⟩, u⟩ ξ w7 ⟨hkn, ⟨hE7, hz7⟩, ⟨hM7, hoc, hcb⟩, hL7, hb7, hu7⟩
 simp only at hkn hM7 hoc hcb hL7 hb7 hu7
 show CW _ _ _ _ (over [(24, .int .i64 (k : Int)), (6, .slice (some ⟨gc, 0, none⟩) (n - k) (n - k)), (8, .slice sd.a sd.len sd.cap)] _) w7
 have hclt : gc < w7.heap.size := hM7.top.lt (by rw [cv]; omega) _ rfl
 have hklt : ∀ l, l < k → gk l < w7.heap.size := fun l hl => (hL7.mx l hl).top.lt (by rw [cv]; omega) _ rfl
 repeat' (first|refine bq rfl rfl (by omega) ?_|refine aj rfl ?_|refine aa ?_|refine ak ?_|refine ai rfl ?_|refine ah ?_|refine aA rfl ?_|refine ay ?_|refine aC ?_)
 refine qV (E := 27) (lo := w6.heap.size) (u := ⟨some ⟨gc, 0, none⟩, n - k, n - k⟩) rfl rfl rfl hL7.top (by omega) (by omega) hz7 ?_
 intro gt sd' S' w8 hT8 hf1 hf2 hG8 hA8
 have hL8 := hL7.app hM7 hoc hcb ⟨hclt, hklt⟩ hT8 hf1 hf2 hG8 hA8
 have hM8 := hM7.keepT hL7.top hoc hG8
 have hu8 := hu7.keepT hL7.top hG8
 have hb8 : Blk w8 g7 34 u.cells := hb7.gb hG8 (fun e => by
  obtain ⟨x, hx, hq⟩ := r5 hL7.top e
  have := (TopG.lo hL7.top x hx).1; omega)
 have hE8 : Ex w w8 := hE7.gb hG8 (fun q e => Nat.le_trans hE06.size (TopG.blk hL7.top q e).1)
 have hz8 := hG8.size
 have hoc8 : ∀ x, sd'.a = some x → x.block ≠ gc := fun x hx => by
  rcases hA8 with h | h
  ·exact hoc x (h ▸ hx)
  ·have := h x hx; omega
 have hE08 := hE8
 by_cases hlast : k = n - 1
 ·repeat' (first|refine eV rfl rfl (by omega) ?_|refine aj rfl ?_|refine aa ?_|refine ak ?_|refine ai rfl ?_|refine ah ?_|refine bK rfl rfl (by omega) (by omega) ?_|refine aA rfl ?_|refine ay ?_|refine aT ?_|refine aO ?_|refine aU ?_|refine fw rfl ?_|refine aK ?_)
  obtain rfl : n = k + 1 := by omega
  have s06 := hE06.size
  refine wv ?_
  exact dw rfl (rt rfl) (rt rfl) ⟨sd', S', _, _, g7, rfl, ⟨TopG.low hL8.top s06, hL8.hd, hL8.mx, hL8.off, hL8.nb⟩, hE08⟩
 ·obtain ⟨m, hm⟩ : ∃ m, n - k = m + 1 := ⟨n - k - 1, by omega⟩
  obtain ⟨p, d, hh, e1, _, hpp, hS, hEn⟩ := hM8.get (show 0 < n - k by omega) (by omega)
  have e00 := hEn 0 (by omega)
  rw [show k + 0 = k from rfl, d9] at e00
  repeat' (first|refine eH rfl rfl (by omega) ?_|refine az (j := 0) (a := some ⟨gc, 0, none⟩) rfl rfl ⟨_, _, rfl⟩ (by omega) ?_|refine aZ (j := 0) (a := some ⟨gc, 0, none⟩) (n := n - k) (s := sc) rfl hM8.top (by omega) e1 ?_|refine bE (j := 0) (a := p) rfl rfl hpp (by omega) ?_|refine bX (j := 0) (n := n - k) (f := hh) (a := p) rfl hS hpp (by omega) ?_|refine aj rfl ?_|refine aa ?_|refine ak ?_|refine ai rfl ?_|refine ah ?_|refine bK rfl rfl (by omega) (by omega) ?_|refine ao rfl ?_|refine ay ?_)
  refine au (fB e00.k) rfl ?_
  rintro v w9 ⟨rfl, hE9⟩
  refine tvv ?_
  have hd1 : (det (k + 1) A).sign ≠ 0 := fun e => hp k hkn (Int.sign_eq_zero_iff_zero.1 e)
  repeat' (first|refine eH rfl rfl hd1 ?_|refine aj rfl ?_|refine aa ?_|refine ak ?_|refine ai rfl ?_|refine ah ?_|refine ao rfl ?_|refine aJ ?_|refine aC ?_)
  refine aH (fun g10 w10 hn10 => tvv ?_)
  have hb10 := hn10.blk
  refine cD (v := .slice (some ⟨gc, 0, none⟩) (n - k) (n - k)) rfl rfl rfl hb10 rfl (fun w11 hc11 hb11 => tvv ?_)
  have lo10 := hn10.lo
  have hE811 : Ex w8 w11 := (hE9.trans hn10.ex).chg hc11 (by have := hE9.size; omega)
  have hM11 := hM8.ext hE811
  have hb711 := hb8.ext hE811
  have hu11 := hu8.ext hE811
  have hsz8 := hE8.size
  have hne10 : g10 ≠ g7 := by have := hE9.size; omega
  have em : ((n : Int) - (k : Int) - 1) = (m : Int) := by omega
  repeat' (first|refine eU ?_|refine aj rfl ?_|refine aa ?_|refine ak ?_|refine ai rfl ?_|refine ah ?_|refine bK rfl rfl (by omega) (by omega) ?_)
  rw [em]
  have hM11' := hM11
  have hb11' := hb11
  rw [hm] at hM11' hb11'
  have hzk := hz k (by omega)
  refine au (mE (first := #[]) (cap := #[.pointer (some ⟨g10, 0, none⟩), .pointer (some ⟨g7, 0, none⟩)]) (r := m) (c := m) (F := fun i j => bm A (k + 1) (k + 1 + i) (k + 1 + j)) (K := 16 * K + 17) inferInstance (by omega) (by omega) (fun i j hi hj => zq hl (by omega) (by omega) (by omega) (by omega))
   (fun i j w12 hi hj hE12 => (oN (hM11'.ext hE12) (hb11'.ext hE12) (hb711.ext hE12) (hu11.ext hE12) hi hj (by omega) (by omega)).mono fun v w' ⟨⟨lo, h1⟩, h2⟩ => ⟨⟨lo, by
    have hst := d8 hzk (k + 1 + i) (k + 1 + j)
    have eq : (bm A k (k + 0) (k + 0) * bm A k (k + (i + 1)) (k + (j + 1)) - bm A k (k + (i + 1)) (k + 0) * bm A k (k + 0) (k + (j + 1))) / det k A = bm A (k + 1) (k + 1 + i) (k + 1 + j) := by
     rw [show k + (i + 1) = k + 1 + i by omega, show k + (j + 1) = k + 1 + j by omega, Nat.add_zero, ← hst]
     exact Int.mul_ediv_cancel _ hzk
    rw [← eq]; exact h1⟩, h2⟩)) rfl ?_
  rintro v w12 ⟨g12, s12, rfl, hM12, hE12, hg12, hs12⟩
  refine tvv ?_
  have hE812 := hE811.trans hE12
  have hb12 := hb11.ext hE12
  have hM812 := hM8.ext hE812
  have hb712 := hb711.ext hE12
  have hS12 := hS.ext hE812
  repeat' (first|refine aP (g := g10) rfl hb12 rfl ?_|refine az (j := 0) (a := some ⟨gc, 0, none⟩) rfl rfl ⟨_, _, rfl⟩ (by omega) ?_|refine aZ (j := 0) (a := some ⟨gc, 0, none⟩) (n := n - k) (s := sc) rfl hM812.top (by omega) e1 ?_|refine bE (j := 0) (a := p) rfl rfl hpp (by omega) ?_|refine bX (j := 0) (n := n - k) (f := hh) (a := p) rfl hS12 hpp (by omega) ?_|refine aj rfl ?_|refine aa ?_|refine ai rfl ?_|refine ah ?_)
  refine aF (n := 2) (vs := (hh 0).cells) rfl rfl rfl rfl hb712 rfl (fun w13 hc13 hb13 => tvv ?_)
  have s811 := hE811.size
  have sz12 := hE12.size
  have hnoi : NoI u.cells := fun v hv q e => by
   simp only [IH.cells, List.mem_cons, List.not_mem_nil, or_false] at hv
   rcases hv with rfl | rfl <;> cases e
  have hr12 : ∀ i, i < m → ∀ ad, (s12 i).a = some ad → ad.block ≠ g7 := fun i hi ad e => by have := hs12 i hi ad e; omega
  have hM13 := hM12.chgN hb712 hnoi hc13 (by omega) hr12
  have hL13 := (hL8.ext hE812).chg hb712 hnoi hc13 hlg7
  have hu13 := (e00.ext hE812).gbN hb712 hnoi (dx hc13)
  have hmm : n - (k + 1) = m := by omega
  repeat' (first|refine aj rfl ?_|refine aa ?_|refine ai rfl ?_|refine ah ?_|refine aV rfl rfl (by omega) (by omega) ?_|refine aJ ?_)
  refine ⟨⟨(k + 1, (g12, s12), (sd', S', setF gk k gc, setF sk k sc), hh 0), ⟨by simp only; omega, ⟨(hE8.trans hE812).chg hc13 (by omega), by have := hE812.size; have := hc13.size; omega⟩, ⟨by simp only [hmm]; exact hM13, fun x hx => by have := (TopG.lo hL8.top x hx).2; simp only; omega, by simp only; omega, fun i hi => hr12 i (by simp only [hmm] at hi; exact hi)⟩, hL13, hb13, hu13⟩, by simp only; omega, ?_⟩, (by (repeat (first|exact aG _ _ _|refine aB rfl ?_|refine ax rfl ?_|refine av rfl ?_|refine aw rfl ?_)))⟩
  refine ⟨rfl, ?_, rfl, trivial⟩
  show _ = Value.slice (some ⟨g12, 0, none⟩) (n - (k + 1)) (n - (k + 1))
  rw [hmm]; rfl
theorem nf {cn : Bool} {K n cap : Nat} {w : World} {a : Option Addr} {s : Nat → SD} {A : Mat} (hM : MX cn K w a n n s A) (hn : 1 ≤ n ∧ n ≤ 16) (hl : ∀ i j, i < n → j < n → Lb K (A i j)) (hP : PosM n A) (hK : 64 * K + 200 ≤ 4398046511104) :
  CallsR Tryz.prog 50 #[.slice a n cap] w fun v w' => v = .bool true ∧ Ex w w' := by
 have hpt := hM.plain (by omega)
 refine aE (args := [_]) Tryz.func50 rfl rfl ?_
 repeat' (first|refine aj rfl ?_|refine aa ?_|refine ak ?_|refine ai rfl ?_|refine ah ?_)
 refine au (ji hM hn) rfl ?_
 rintro v w1 ⟨rfl, hE1⟩
 refine tvv ?_
 repeat' (first|refine aR rfl rfl ?_|refine aj rfl ?_|refine aa ?_|refine ak ?_|refine ai rfl ?_|refine ah ?_|refine ao rfl ?_|refine ay ?_|refine aC ?_)
 refine aW (ι := Nat) [2, 5, 6, 18, 19, 20, 21, 22, 23, 24, 25, 26, 27, 28, 29, 30, 31, 32, 33, 34, 35, 36, 37, 38, 39, 40, 41, 42] (fun i => [(18, .int .i64 (i : Int))])
  (fun i w' => i ≤ n ∧ Ex w w') (fun i => n - i) 0 ⟨rfl, trivial⟩ ⟨by omega, hE1⟩ ?_
 rintro i ξ w2 ⟨hi, hE2⟩
 show CW _ _ _ _ (over [(18, .int .i64 (i : Int))] _) w2
 rcases Nat.lt_or_ge i n with hin | hin
 ·repeat' (first|refine bq rfl rfl (by omega) ?_|refine aj rfl ?_|refine aa ?_|refine ak ?_|refine ai rfl ?_|refine ah ?_|refine aA rfl ?_|refine ay ?_|refine aC ?_)
  refine aW (ι := Nat) [2, 6, 22, 23, 24, 25, 26, 27, 28, 29, 30, 31, 32, 33, 34, 35, 36, 37, 38, 39, 40, 41] (fun j => [(22, .int .i64 (j : Int))])
   (fun j w' => j ≤ i ∧ Ex w w') (fun j => i - j) 0 ⟨rfl, trivial⟩ ⟨by omega, hE2⟩ ?_
  rintro j ξ2 w3 ⟨hj, hE3⟩
  show CW _ _ _ _ (over [(22, .int .i64 (j : Int))] _) w3
  rcases Nat.lt_or_ge j i with hji | hji
  ·obtain ⟨p, d, hh, e1, _, hpp, hS, hEn⟩ := (hM.ext hE3).get hin (by omega)
   obtain ⟨p', d', hh', e1', _, hpp', hS', hEn'⟩ := (hM.ext hE3).get (show j < n by omega) (by omega)
   repeat' (first|refine bq rfl rfl (by omega) ?_|refine aa ?_|refine ak ?_|refine ai rfl ?_|refine ah ?_|refine aA rfl ?_|refine aC ?_)
   refine ay ?_
   repeat' (first|refine aj rfl ?_|refine aa ?_|refine ak ?_|refine ai rfl ?_|refine ah ?_)
   refine bn (late := []) (plan := [(0, none), (1, none), (2, none), (3, none), (4, none), (5, none), (6, none), (7, none), (8, none), (9, none), (10, none), (11, none), (12, none), (13, none), (14, some true), (15, none)]) (fun w' => Ex w3 w') bD (by kernel_rfl) (Ex.refl w3).drew ?_
   have hEd := (Ex.refl w3).drew
   repeat' (first|refine az (j := i) (a := a) rfl rfl hpt (by omega) ?_|refine aZ (j := i) (a := a) (n := n) (s := s) rfl (fun _ h => ((hM.ext hE3).ext h).top) (by omega) e1 ?_|refine bE (j := j) (a := p) rfl rfl hpp (by omega) ?_|refine bX (j := j) (n := n) (f := hh) (a := p) rfl (fun _ h => hS.ext h) hpp (by omega) ?_|refine az (j := j) (a := a) rfl rfl hpt (by omega) ?_|refine aZ (j := j) (a := a) (n := n) (s := s) rfl (fun _ h => ((hM.ext hE3).ext h).top) (by omega) e1' ?_|refine bE (j := i) (a := p') rfl rfl hpp' (by omega) ?_|refine bX (j := i) (n := n) (f := hh') (a := p') rfl (fun _ h => hS'.ext h) hpp' (by omega) ?_|refine aj rfl ?_)
   refine au (nF ((hEn j (by omega)).ext hEd).k ((hEn' i hin).ext hEd).k) rfl ?_
   rintro v w4 ⟨rfl, hE4⟩
   refine ⟨fun _ h => h.trans hE4, ?_⟩
   have hE34 := hEd.trans hE4
   repeat' (first|refine eI rfl rfl (lh.2 (hP.1 i j hji hin)) ?_|refine aj rfl ?_|refine aa ?_|refine ai rfl ?_|refine ah ?_|refine aV rfl rfl (by omega) (by omega) ?_|refine ao rfl ?_|refine aJ ?_|refine aC ?_)
   exact ⟨⟨j + 1, ⟨hji, hE3.trans hE34⟩, by omega, rfl, trivial⟩, (by (repeat (first|exact aG _ _ _|refine aB rfl ?_|refine ax rfl ?_|refine av rfl ?_|refine aw rfl ?_)))⟩
  ·obtain rfl : i = j := by omega
   repeat' (first|refine bp rfl rfl (by omega) ?_|refine aj rfl ?_|refine aa ?_|refine ak ?_|refine ai rfl ?_|refine ah ?_|refine aV rfl rfl (by omega) (by omega) ?_|refine ao rfl ?_|refine aT ?_|refine aO ?_|refine aU ?_|refine aJ ?_)
   exact ⟨⟨i + 1, ⟨hin, hE3⟩, by omega, rfl, trivial⟩, (by (repeat (first|exact aG _ _ _|refine aB rfl ?_|refine ax rfl ?_|refine av rfl ?_|refine aw rfl ?_)))⟩
 ·obtain rfl : n = i := by omega
  repeat' (first|refine bp rfl rfl (by omega) ?_|refine aj rfl ?_|refine aa ?_|refine ak ?_|refine ai rfl ?_|refine ah ?_|refine ao rfl ?_|refine aT ?_|refine aO ?_|refine aU ?_)
  refine au (iP (hM.ext hE2) hn hl (fun k hk e => by have := hP.2 k hk; omega) hK) rfl ?_
  rintro v w3 ⟨sd, S, gk, sk, b, rfl, hL3, hE3⟩
  refine tvv ?_
  have hE03 := hE2.trans hE3
  have hlen : sd.len = n := hL3.top.1
  have hpl : W.plain sd.a := by
   rcases hL3.top.2 with h | ⟨g, h, _⟩
   ·omega
   ·exact ⟨g, 0, h⟩
  repeat' (first|refine aR rfl rfl ?_|refine bc rfl ?_|refine aj rfl ?_|refine aa ?_|refine ak ?_|refine ai rfl ?_|refine ah ?_|refine ao rfl ?_|refine ay ?_|refine aC ?_)
  refine aW (ι := Nat) [2, 9, 52, 53, 54, 55, 56, 57, 58, 59, 60, 61, 62, 63] (fun i => [(52, .int .i64 (i : Int))])
   (fun i w' => i ≤ n ∧ Ex w3 w') (fun i => n - i) 0 ⟨rfl, trivial⟩ ⟨by omega, Ex.refl _⟩ ?_
  rintro l ξ3 w4 ⟨hil, hE4⟩
  show CW _ _ _ _ (over [(52, .int .i64 (l : Int))] _) w4
  rcases Nat.lt_or_ge l n with hln | hln
  ·obtain ⟨p, d, hh, e1, _, hpp, hS, hEn⟩ := ((hL3.mx l hln).ext hE4).get (show 0 < n - l by omega) (by omega)
   have e0 := hEn 0 (by omega)
   rw [show l + 0 = l from rfl, d9] at e0
   repeat' (first|refine bq rfl rfl (by omega) ?_|refine az (j := l) (a := sd.a) rfl rfl hpl (by omega) ?_|refine aZ (j := l) (a := sd.a) (n := n) (s := S) rfl (TopG.sl (TopG.ext hL3.top hE4)) (by omega) (hL3.hd l hln) ?_|refine az (j := 0) (a := some ⟨gk l, 0, none⟩) rfl rfl ⟨_, _, rfl⟩ (by omega) ?_|refine aZ (j := 0) (a := some ⟨gk l, 0, none⟩) (n := n - l) (s := sk l) rfl ((hL3.mx l hln).ext hE4).top (by omega) e1 ?_|refine bE (j := 0) (a := p) rfl rfl hpp (by omega) ?_|refine bX (j := 0) (n := n - l) (f := hh) (a := p) rfl hS hpp (by omega) ?_|refine aj rfl ?_|refine aa ?_|refine ak ?_|refine ai rfl ?_|refine ah ?_|refine aA rfl ?_|refine ay ?_|refine aC ?_)
   refine au (fB e0.k) rfl ?_
   rintro v w5 ⟨rfl, hE5⟩
   refine tvv ?_
   have hd1 : 0 < (det (l + 1) A).sign := by rw [Int.sign_eq_one_of_pos (hP.2 l hln)]; decide
   repeat' (first|refine fd rfl rfl hd1 ?_|refine aj rfl ?_|refine aa ?_|refine ai rfl ?_|refine ah ?_|refine aV rfl rfl (by omega) (by omega) ?_|refine ao rfl ?_|refine aJ ?_|refine aC ?_)
   exact ⟨⟨l + 1, ⟨hln, hE4.trans hE5⟩, by omega, rfl, trivial⟩, (by (repeat (first|exact aG _ _ _|refine aB rfl ?_|refine ax rfl ?_|refine av rfl ?_|refine aw rfl ?_)))⟩
  ·obtain rfl : n = l := by omega
   repeat' (first|refine bp rfl rfl (by omega) ?_|refine aj rfl ?_|refine aa ?_|refine ak ?_|refine ai rfl ?_|refine ah ?_|refine ao rfl ?_|refine aT ?_|refine aO ?_|refine aU ?_|refine aK ?_)
   exact bo rfl (rt rfl) ⟨rfl, hE03.trans hE4⟩
theorem qb {n c : Nat} {a : Option Addr} {s : Nat → SD} {w : World} (h : Sl w a (topC n s)) :
  CallsR Tryz.prog 139 #[.slice a n c] w fun v w' => v = shapeV n s ∧ Ex w w' := by
 refine aE (args := [_]) Tryz.func139 rfl rfl ?_
 have no : ∀ {v : Value}, ¬ okS n s → v = .tuple #[.int .i64 0, .int .i64 0, .bool false] → v = shapeV n s := fun h1 e => by rw [gN h1, e]
 by_cases h1 : 1 ≤ n ∧ n ≤ 16
 ·have hp := h.plain (by rw [cv]; omega)
  repeat' (first|refine az (j := 0) rfl rfl hp (by omega) ?_|refine df (j := 0) rfl h (by omega) ?_|refine aj rfl ?_|refine aa ?_|refine ak ?_|refine ai rfl ?_|refine ah ?_|refine bc rfl ?_|refine bJ rfl rfl ?_|refine bY rfl rfl ?_|refine gW rfl rfl (fun hc => ?_) (fun hc => ?_)|refine aA rfl ?_|refine aQ rfl (fun hc => ?_) (fun hc => ?_)|refine ay ?_|refine aK ?_|refine bf ?_|refine aC ?_)
  all_goals try (exfalso; omega)
  ·exact eJ rfl (rt rfl) (rt rfl) (rt rfl) ⟨no (fun hk => by unfold okS at hk; omega) rfl, Ex.refl _⟩
  ·refine aW (ι := Nat) [2, 3, 4, 7, 28, 29, 30, 31, 32, 33, 34, 35, 36] (fun i => [(28, .int .i64 (i : Int))]) (fun i w' => (i ≤ n ∧ ∀ k, k < i → (s k).len = (s 0).len) ∧ w' = w) (fun i => n - i) 0 ⟨rfl, trivial⟩ ⟨⟨by omega, fun k hk => by omega⟩, rfl⟩ ?_
   rintro i ξ w2 ⟨⟨hi, hI⟩, rfl⟩
   show CW _ _ _ _ (over [(28, .int .i64 (i : Int))] _) w2
   repeat' (first|refine az (j := i) rfl rfl hp (by omega) ?_|refine df (j := i) rfl h (by omega) ?_|refine aj rfl ?_|refine aa ?_|refine ak ?_|refine ai rfl ?_|refine ah ?_|refine bc rfl ?_|refine aV rfl rfl (by omega) (by omega) ?_|refine aQ rfl (fun hc => ?_) (fun hc => ?_)|refine ay ?_|refine aT ?_|refine aO ?_|refine aU ?_|refine aJ ?_|refine aK ?_|refine bf ?_|refine cj ?_|refine aC ?_)
   ·exact eJ rfl (rt rfl) (rt rfl) (rt rfl) ⟨no (fun hk => by have := hk.2.2.2.2 i (by omega); omega) rfl, Ex.refl _⟩
   ·refine ⟨⟨i + 1, ⟨⟨by omega, fun k hk => ?_⟩, rfl⟩, by omega, rfl, trivial⟩, (by (repeat (first|exact aG _ _ _|refine aB rfl ?_|refine ax rfl ?_|refine av rfl ?_|refine aw rfl ?_)))⟩
    by_cases hk' : k < i
    ·exact hI k hk'
    ·obtain rfl : k = i := by omega
     omega
   ·obtain rfl : i = n := by omega
    refine eJ rfl (rt rfl) (rt rfl) (rt rfl) ⟨?_, Ex.refl _⟩
    unfold shapeV
    rw [if_pos ⟨h1.1, h1.2, by omega, by omega, hI⟩]; rfl
  ·exact eJ rfl (rt rfl) (rt rfl) (rt rfl) ⟨no (fun hk => by unfold okS at hk; omega) rfl, Ex.refl _⟩
 ·repeat' (first|refine aj rfl ?_|refine aa ?_|refine ak ?_|refine ai rfl ?_|refine ah ?_|refine bc rfl ?_|refine bJ rfl rfl ?_|refine bY rfl rfl ?_|refine gW rfl rfl (fun hc => ?_) (fun hc => ?_)|refine aA rfl ?_|refine aQ rfl (fun hc => ?_) (fun hc => ?_)|refine aK ?_|refine bf ?_|refine aC ?_)
  all_goals try (exfalso; omega)
  all_goals exact eJ rfl (rt rfl) (rt rfl) (rt rfl) ⟨no (fun hk => h1 ⟨hk.1, hk.2.1⟩) rfl, Ex.refl _⟩
theorem MO.lower {cn : Bool} {K r c lo lo' g : Nat} {w : World} {gs cap : Nat → Nat} {F : Mat} (h : MO cn K w lo g r c gs cap F) (hl : lo' ≤ lo) : MO cn K w lo' g r c gs cap F :=
 ⟨Nat.le_trans hl h.low, h.top, fun i hi => ⟨Nat.le_trans hl (h.row i hi).low, (h.row i hi).le, (h.row i hi).ex⟩, h.off, h.inj⟩
theorem tf {r c : Nat} {w : World} {a : Option Addr} {s : Nat → SD} {F : Mat} (h : MI w a r c s F) (hr : 1 ≤ r ∧ r ≤ 16) (hc : 1 ≤ c ∧ c ≤ 16) : shapeV r s = .tuple #[.int .i64 r, .int .i64 c, .bool true] := by
 have h0 := (h.row 0 (by omega)).1
 unfold shapeV
 rw [if_pos ⟨hr.1, hr.2, by omega, by omega, fun i hi => by rw [(h.row i hi).1, h0]⟩, h0]
theorem mF {r c g1 cap i j : Nat} {w : World} {a : Option Addr} {s : Nat → SD} {A : Mat} (hM : MI w a r c s A) (hb : Blk w g1 25 [.slice a r cap]) (hi : i < r) (hj : j < c) :
  CallsR Tryz.prog 141 (#[] ++ #[.int .i64 i, .int .i64 j] ++ #[.pointer (some ⟨g1, 0, none⟩)]) w fun v w' => (∃ lo, IntC lo w' v (A i j)) ∧ Ex w w' := by
 have hpt := hM.top.plain (by rw [cv]; omega)
 obtain ⟨hlen, hS⟩ := hM.row i hi
 obtain ⟨d, e1⟩ : ∃ d, s i = ⟨(s i).a, c, d⟩ := ⟨(s i).cap, by rw [← hlen]⟩
 have hpp := hS.plain (by rw [bU]; omega)
 refine aE (args := [_, _, _]) Tryz.func141 rfl rfl ?_
 refine ak ?_
 refine ai rfl ?_
 refine aH (fun g2 w2 hn2 => tvv ?_)
 have hb2 : Blk w2 g2 34 (intL false none 0 0) := hn2.blk
 repeat' (first|refine aP (g := g1) rfl (hb.ext hn2.ex) rfl ?_|refine az (j := i) (a := a) rfl rfl hpt (by omega) ?_|refine aZ (j := i) (a := a) (n := r) (s := s) rfl (hM.ext hn2.ex).top hi e1 ?_|refine az (j := j) (a := (s i).a) rfl rfl hpp hj ?_|refine bu (j := j) (n := c) (f := A i) (a := (s i).a) rfl (hS.ext hn2.ex) hj ?_|refine aj rfl ?_|refine aa ?_|refine ak ?_|refine ai rfl ?_|refine ah ?_)
 refine au (jo (z := A i j) (hM.fit i j hi hj).1 (hM.fit i j hi hj).2 _) rfl ?_
 rintro v w3 ⟨hI3, hE3⟩
 refine tvv ?_
 obtain ⟨u, rfl⟩ := hI3.ih
 have hb23 := hb2.ext hE3
 refine aF (n := 2) (vs := u.cells) rfl rfl rfl rfl hb23 rfl (fun w4 hc4 hb4 => tvv ?_)
 repeat' (first|refine aa ?_|refine ah ?_|refine aK ?_)
 exact bo rfl (rc rfl rfl hb4) ⟨⟨_, hI3.gbN hb23 (cg _ _ _ _) (dx hc4)⟩, (hn2.ex.trans hE3).chg hc4 hn2.lo⟩
theorem jk {r c cap : Nat} {w : World} {a : Option Addr} {s : Nat → SD} {F : Mat} (hM : MI w a r c s F) (hr : 1 ≤ r ∧ r ≤ 16) (hc : 1 ≤ c ∧ c ≤ 16) :
  CallsR Tryz.prog 112 #[.slice a r cap] w fun v w' => ∃ u, v = .tuple #[u, .bool true] ∧ RetMO 2 w r c F u w' := by
 refine aE (args := [_]) Tryz.func112 rfl rfl ?_
 refine ak ?_
 refine ai rfl ?_
 refine j4 rfl rfl (fun g1 w1 hn1 => tvv ?_)
 have hb1 := hn1.blk
 repeat' (first|refine aP (g := g1) rfl hb1 rfl ?_|refine aj rfl ?_|refine aa ?_|refine ak ?_|refine ai rfl ?_|refine ah ?_)
 refine au (qb (hM.ext hn1.ex).top) rfl ?_
 rintro v w2 ⟨rfl, hE2⟩
 refine tvv ?_
 rw [tf hM hr hc]
 have hE02 := hn1.ex.trans hE2
 repeat' (first|refine aR rfl rfl ?_|refine eU ?_|refine aj rfl ?_|refine aa ?_|refine ak ?_|refine ai rfl ?_|refine ah ?_|refine ao rfl ?_|refine aC ?_)
 refine au (pT (first := #[]) (cap := #[.pointer (some ⟨g1, 0, none⟩)]) (r := r) (c := c) (F := F) (K := 2) inferInstance (by omega) (by omega) (fun i j hi hj => by have := hM.fit i j hi hj; omega) (fun i j w3 hi hj hE3 => mF ((hM.ext hE02).ext hE3) ((hb1.ext hE2).ext hE3) hi hj)) rfl ?_
 rintro v w3 ⟨g, gs, cp, rfl, hO3, hE3⟩
 refine tvv ?_
 repeat' (first|refine aj rfl ?_|refine aa ?_|refine ah ?_|refine aK ?_)
 exact dw rfl (rt rfl) (rt rfl) ⟨_, rfl, g, gs, cp, rfl, hO3.lower (by have := hE02.size; omega), hE02.trans hE3⟩
end Go.Proofs.YtpfhfldehaiokaaGreat
