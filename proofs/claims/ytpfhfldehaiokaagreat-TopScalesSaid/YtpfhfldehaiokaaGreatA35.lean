import Derived.Test.YtpfhfldehaiokaaGreatA33
set_option maxHeartbeats 16000000
namespace Go.W
section
variable {P : Program} {S : World → Prop} {ops : List Oper} {K : Env → World → Prop} {rest : List (Oper × Option Bool)} {ρ : Env} {w : World} {kf1 kf2 : Bool} {d : Nat} {T : TypeId} {pos : String} {af : Array Edge}
theorem lz {T1 E y n d1 t lo : Nat} {u : SD} {x : Operand} {s : SD} {f : Nat → SD} {T2 : TypeId} {pos2 : String} {af2 : Array Edge} [hT : Slc P T1 E 1 y] [hz : Zro P E (.slice none 0 0)]
  (hs : ρ t = .slice s.a s.len s.cap) (hx : ev ρ x = u.val) (htd : Nat.beq t d1 = false)
  (hS : ∀ w1 w2, w1.grownBy w2 (Value.slice s.a s.len s.cap).ownBlock → w.heap.size ≤ w1.heap.size → S w1 → S w2)
  (hR : TopG w lo E n s f) (hm : n + 1 ≤ 9223372036854775807) (hb : (n + 1) * y ≤ 140737488355328) (hlo : lo ≤ w.heap.size)
  (h : ∀ g s' f' w', TopG w' lo E (n + 1) s' f' → (∀ i, i < n → f' i = f i) → f' n = u → w.grownBy w' (Value.slice s.a s.len s.cap).ownBlock → (s'.a = s.a ∨ ∀ x, s'.a = some x → w.heap.size ≤ x.block) →
   RR P S ops K rest (upd (upd ρ d1 (.slice (some ⟨g, 0, none⟩) 1 1)) d (.slice s'.a s'.len s'.cap)) w') :
  RR P S ops K ((⟨some d1, .buildSlice T1 1 #[(0, x)], T2, pos2, af2, none⟩, some kf1) :: (⟨some d, .call ⟨.builtin .append, #[.tmp t, .tmp d1], #[T1, T1]⟩, T, pos, af, none⟩, some kf2) :: rest) ρ w := by
 refine iv (E := E) (s := 1) (z := .slice none 0 0) (cs := #[u.val]) rfl (by
  simp only [List.map_toArray, List.map_cons, List.map_nil, hx]
  exact ew rfl (by simp)) (fun g w1 hn => ⟨fun _ hh => hS _ _ ⟨(kz hn.ex).os, (kz hn.ex).tape, (kz hn.ex).output, (kz hn.ex).size, fun k hk _ => (kz hn.ex).block k hk (by simp)⟩ (Nat.le_refl _) hh, ?_⟩)
 refine dq rfl ?_
 unfold OpW
 obtain ⟨i0, hi0, hzz⟩ := Option.map_eq_some_iff.1 hT.sz
 simp only [Prod.mk.injEq] at hzz
 obtain ⟨i1, hi1, hz1⟩ := Option.map_eq_some_iff.1 hz.ok
 rw [hi0] at hi1
 simp only [Option.some.injEq] at hi1
 subst hi1
 have hsz := hn.ex.size
 obtain ⟨s', w', f', hr, h1, h2, h3, h4, h5⟩ := kK (P := P) (ty := T) hT.un hi0 hz1 hzz.1 hzz.2 (TopG.ext hR hn.ex) hn.blk.sl hm hb (by omega)
 have e1 : ev (upd ρ d1 (.slice (some ⟨g, 0, none⟩) 1 1)) (.tmp t) = .slice s.a s.len s.cap := by
  show upd ρ d1 _ t = _
  simp only [upd, htd, cond_false, hs]
 have e2 : ev (upd ρ d1 (.slice (some ⟨g, 0, none⟩) 1 1)) (.tmp d1) = .slice (some ⟨g, 0, none⟩) 1 1 := by
  show upd ρ d1 _ d1 = _
  rw [eR]
 have : (execOp (ev (upd ρ d1 (.slice (some ⟨g, 0, none⟩) 1 1))) ⟨some d, .call ⟨.builtin .append, #[.tmp t, .tmp d1], #[T1, T1]⟩, T, pos, af, none⟩).run P w1 = .ok (.value (.slice s'.a s'.len s'.cap)) w' := by
  simp [execOp, resolve, invoke, builtin, e1, e2, hr]
 rw [this]
 refine ⟨fun _ hh => hS _ _ h4 hsz hh, h g s' f' w' h1 h2 h3 ?_ (h5.imp id fun hh x hx => by have := hh x hx; omega)⟩
 exact ⟨h4.os.trans hn.ex.os, h4.tape.trans hn.ex.tape, h4.output.trans hn.ex.output, by have := h4.size; omega,
  fun k hk hne => (h4.block k (by omega) hne).trans (hn.ex.block k hk)⟩
end
theorem vu {w : World} {g T m : Nat} {f : Nat → Int} (h : Blk w g T (intC (m + 1) f)) : Sl w (some ⟨g, 1, none⟩) (intC m fun j => f (j + 1)) := by
 refine ⟨fun _ => ⟨_, _, rfl⟩, fun j hj => ?_⟩
 rw [bU] at hj
 have h1 := h.cell (j := j + 1) (by rw [bU]; omega)
 simp only [elt]
 rw [show 1 + j = j + 1 by omega, h1, List.getD_eq_getElem?_getD, List.getD_eq_getElem?_getD, fL (by omega), fL hj]
theorem qh {w : World} {lo T T' s n cap g : Nat} {a : Option Addr} {vs cs : List Value} (h : Own w lo T s a n cap vs) (hb' : Blk w g T' cs) (hT : T ≠ T') : ∀ ad, a = some ad → ad.block ≠ g := by
 intro ad e he
 subst e
 rcases h.2 with ⟨hv, _⟩ | ⟨g', _, cur, hv, _, hb, _⟩
 ·simp at hv
 ·simp only [Value.slice.injEq, Option.some.injEq] at hv
  obtain ⟨rfl, _, _⟩ := hv
  simp only at he
  subst he
  have hb : w.heap[g']? = some (.cells cur T (0, 0)) := hb
  unfold Blk at hb'
  rw [hb] at hb'
  injection hb' with hb'
  injection hb' with _ h2
  exact hT h2
theorem mQ {w1 w2 : World} {a : Option Addr} {n c : Nat} {G : Nat} (hg : w1.grownBy w2 (Value.slice a n c).ownBlock) (ha : ∀ ad, a = some ad → ad.block < G) {g T : Nat} {cs : List Value} (hb : Blk w1 g T cs) (hG : G ≤ g) : Blk w2 g T cs :=
 hb.gb hg fun e => by
  cases a with
  | none => cases e
  | some ad => have := ha ad rfl; simp [Value.ownBlock] at e; omega
end Go.W
namespace Go.Proofs.YtpfhfldehaiokaaGreat
open Go.W Go.LM Go.LA
structure FM (w : World) (gf n : Nat) (A : Mat) (am : Option Addr) (cm : Nat) (sl : SD) (S : Nat → SD) : Prop where
 st : Blk w gf 105 [.slice am ((n + 1 : Nat)) cm, .slice sl.a (n : Nat) sl.cap]
 mn : Sl w am (intC (n + 1) fun k => det k A)
 la : Sl w sl.a (topC n S)
 row : ∀ k, k < n → (S k).len = n - k - 1 ∧ Sl w (S k).a (intC (n - k - 1) fun j => Go.LA.bm A k k (k + 1 + j))
theorem FM.ext {w w' : World} {gf n cm : Nat} {A : Mat} {am : Option Addr} {sl : SD} {S : Nat → SD} (h : FM w gf n A am cm sl S) (e : Ex w w') : FM w' gf n A am cm sl S :=
 ⟨h.st.ext e, h.mn.ext e, h.la.ext e, fun k hk => ⟨(h.row k hk).1, (h.row k hk).2.ext e⟩⟩
theorem oY {n cap g o : Nat} {w : World} {s : Nat → SD} {A : Mat} (hM : MI w (some ⟨g, o, none⟩) n n s A) (hn : 1 ≤ n ∧ n ≤ 16) (hl : ∀ i j, i < n → j < n → Lb 2 (A i j)) (hp : ∀ k, k < n → det (k + 1) A ≠ 0)
  (hfb : ∀ k i j, k < n → i < n - k → j < n - k → fits64 (Go.LA.bm A k (k + i) (k + j))) :
  CallsR Tryz.prog 68 #[.slice (some ⟨g, o, none⟩) n cap] w fun v w' => ∃ (am : Option Addr) (cm : Nat) (sl : SD) (S : Nat → SD), v = .agg #[.slice am ((n + 1 : Nat)) cm, .slice sl.a (n : Nat) sl.cap] ∧
   Sl w' am (intC (n + 1) fun k => det k A) ∧ Sl w' sl.a (topC n S) ∧ (∀ k, k < n → (S k).len = n - k - 1 ∧ Sl w' (S k).a (intC (n - k - 1) fun j => Go.LA.bm A k k (k + 1 + j))) ∧ Ex w w' := by
 refine aE (args := [_]) Tryz.func68 rfl rfl ?_
 repeat' (first|refine ak ?_|refine ai rfl ?_)
 refine aH (fun g2 w1 hn1 => tvv ?_)
 repeat' (first|refine aj rfl ?_|refine aa ?_|refine ak ?_|refine ai rfl ?_|refine ah ?_)
 have hE1 := hn1.ex
 refine au (jk (hM.ext hE1) hn hn) rfl ?_
 rintro v w2 ⟨u, rfl, gm, gs, cp, rfl, hO2, hE2⟩
 refine tvv ?_
 repeat' (first|refine aR rfl rfl ?_|refine aj rfl ?_|refine aa ?_|refine ak ?_|refine ai rfl ?_|refine ah ?_)
 refine au (iP hO2.mx hn hl hp (by decide)) rfl ?_
 rintro v w3 ⟨sd, SS, gk, sk, b0, rfl, hL3, hE3⟩
 refine tvv ?_
 have hlen : sd.len = n := hL3.top.1
 have hpl : W.plain sd.a := by
  rcases hL3.top.2 with h | ⟨g, h, _⟩
  ·omega
  ·exact ⟨g, 0, h⟩
 have hE03 := hE1.trans (hE2.trans hE3)
 have o1 := hn1.lo
 have b1 := hn1.blk.lt
 have z2 := hE2.size
 have z3 := hE3.size
 repeat' (first|refine aR rfl rfl ?_|refine aj rfl ?_|refine aa ?_|refine ak ?_|refine ai rfl ?_|refine ah ?_)
 refine gX (E := 2) (u := 1) rfl (fun g4 w4 hn4 => tvv ?_)
 repeat' (first|refine da (cs := [.slice (some ⟨g4, 0, none⟩) 1 1, .slice none 0 0]) rfl ?_)
 refine aH (fun g7 w5 hn5 => tvv ?_)
 refine aF (n := 2) (vs := [.slice (some ⟨g4, 0, none⟩) 1 1, .slice none 0 0]) rfl rfl rfl rfl hn5.blk rfl (fun w6 hc6 hb6 => tvv ?_)
 have o4 := hn4.lo
 have o5 := hn5.lo
 have b4 := hn4.blk.lt
 have b5 := hn5.blk.lt
 have z4 := hn4.ex.size
 have hE36 : Ex w3 w6 := (hn4.ex.trans hn5.ex).chg hc6 (by omega)
 have hown4 : Own w4 w3.heap.size 2 1 (some ⟨g4, 0, none⟩) 1 1 (intC 1 fun i => det i A) := hn4.blk.own rfl (by decide) o4
 have hown6 := (hown4.ext hn5.ex).chg hc6 (fun ad e => by cases e; show g4 ≠ g7; omega)
 repeat' (first|refine aj rfl ?_|refine aa ?_|refine ak ?_|refine ai rfl ?_|refine ah ?_|refine bc rfl ?_|refine ay ?_)
 refine aW (ι := Nat × (Option Addr × Nat) × SD × (Nat → SD)) [9, 10, 11, 26, 27, 28, 29, 30, 31, 32, 33, 34, 35, 36, 37, 38, 39, 40, 41, 42, 43, 44, 45, 46, 47, 48, 49, 50, 51, 52, 53, 54] (fun t => [(26, .int .i64 (t.1 : Int))])
  (fun t w' => (t.1 ≤ n ∧ Ex w3 w') ∧ Own w' w3.heap.size 2 1 t.2.1.1 (t.1 + 1) t.2.1.2 (intC (t.1 + 1) fun i => det i A) ∧ TopG w' w3.heap.size 58 t.1 t.2.2.1 t.2.2.2 ∧ (∀ ad, t.2.2.1.a = some ad → ad.block ≠ g7) ∧ (∀ ad, t.2.1.1 = some ad → ad.block ≠ g7) ∧
   Blk w' g7 105 [.slice t.2.1.1 ((t.1 + 1 : Nat)) t.2.1.2, .slice t.2.2.1.a t.2.2.1.len t.2.2.1.cap] ∧
   ∀ i, i < t.1 → (t.2.2.2 i).len = n - i - 1 ∧ (0 < n - i - 1 → Sl w' (t.2.2.2 i).a (intC (n - i - 1) fun j => Go.LA.bm A i i (i + 1 + j)) ∧ ∃ gr, (t.2.2.2 i).a = some ⟨gr, 1, none⟩ ∧ (w3.heap.size ≤ gr ∧ gr ≠ g7) ∧ gr < w'.heap.size ∧ ∀ ad, t.2.1.1 = some ad → ad.block ≠ gr)) (fun t => n - t.1)
  (0, (some ⟨g4, 0, none⟩, 1), sd0, fun _ => sd0) ⟨rfl, trivial⟩ ⟨⟨Nat.zero_le _, hE36⟩, hown6, TopG.nil _ _ _ _, fun ad e => (nomatch e), fun ad e => by cases e; show g4 ≠ g7; omega, hb6, fun i hi => absurd hi (Nat.not_lt_zero i)⟩ ?_
 rintro ⟨k, ⟨am, cm⟩, sl, S⟩ ξ w7 ⟨⟨hk, hE7⟩, hown7, hT7, hne7, hnm7, hb7, hr7⟩
 simp only at hk hown7 hT7 hne7 hnm7 hb7 hr7
 show CW _ _ _ _ (over [(26, .int .i64 (k : Int))] _) w7
 have hL7 := hL3.ext hE7
 rcases Nat.lt_or_ge k n with hkn | hkn
 ·repeat' (first|refine bq rfl rfl (by omega) ?_|refine aa ?_|refine ak ?_|refine ai rfl ?_|refine ah ?_|refine aA rfl ?_|refine aC ?_)
  refine ay ?_
  repeat' (first|refine az (j := k) (a := sd.a) rfl rfl hpl (by omega) ?_|refine aZ (j := k) (a := sd.a) (n := n) (s := SS) rfl (TopG.sl hL7.top) (by omega) (hL7.hd k hkn) ?_|refine aj rfl ?_|refine aa ?_|refine ak ?_|refine ai rfl ?_|refine ah ?_)
  refine au (qd (hL7.mx k hkn) (by omega) (by omega) (fun i j hi hj => hfb k i j hkn hi hj)) rfl ?_
  rintro v w8 ⟨gn, gr, rfl, hN8, hE8⟩
  refine tvv ?_
  have hE78 := hE8
  have z7 := hE7.size
  have z8 := hE8.size
  have z6 := hE36.size
  have hlow := hN8.low
  obtain ⟨hlg, hg0⟩ := hN8.row 0 (by omega)
  have htop := hN8.top
  have amlt : ∀ ad, am = some ad → ad.block < w7.heap.size := fun ad e => (hown7.lo ad e).2
  have sllt : ∀ ad, sl.a = some ad → ad.block < w7.heap.size := fun ad e => (TopG.lo hT7 ad e).2
  have hb78 := hb7.ext hE8
  have g7lt := hb7.lt
  repeat' (first|refine aR rfl rfl ?_|refine aj rfl ?_|refine aa ?_|refine ak ?_|refine ah ?_)
  refine bn (late := [10]) (plan := [(0, none), (1, none), (2, none), (3, none), (4, none), (5, none), (6, none), (7, some true), (8, some true), (9, none), (10, some false)]) (fun w' => Blk w' g7 105 [.slice am ((k + 1 : Nat)) cm, .slice sl.a sl.len sl.cap] ∧ Blk w' gn 58 (topC (n - k) fun i => ⟨some ⟨gr i, 0, none⟩, n - k, n - k⟩) ∧ Blk w' (gr 0) 2 (intC (n - k) fun j => Go.LA.bm A k (k + 0) (k + j))) bD (by kernel_rfl) ⟨hb78.drew, htop.drew, hg0.drew⟩ ?_
  repeat' (first|refine aP (g := g7) rfl (fun _ h => h.1) rfl ?_|refine az (j := 0) (a := some ⟨gn, 0, none⟩) rfl rfl ⟨_, _, rfl⟩ (by omega) ?_|refine aZ (j := 0) (a := some ⟨gn, 0, none⟩) (n := n - k) rfl (fun _ h => h.2.1.sl) (by omega) rfl ?_|refine az (j := 0) (a := some ⟨gr 0, 0, none⟩) rfl rfl ⟨_, _, rfl⟩ (by omega) ?_|refine bu (j := 0) (n := n - k) (a := some ⟨gr 0, 0, none⟩) rfl (fun _ h => h.2.2.sl) (by omega) ?_|refine aj rfl ?_|refine aM rfl ?_)
  have hEd := (Ex.refl w8).drew
  refine gX (E := 2) (u := Go.LA.bm A k (k + 0) (k + 0)) rfl (fun g9 w9 hn9 => ⟨fun _ h => ⟨h.1.ext hn9.ex, h.2.1.ext hn9.ex, h.2.2.ext hn9.ex⟩, ?_⟩)
  have hE89 := hEd.trans hn9.ex
  have hE79 := hE8.trans hE89
  have z9 := hE89.size
  refine dZ (E := 2) (s := 1) (y := 8) (z := .int .i64 0) (m := 1) (c := 1) (news := [.int .i64 (Go.LA.bm A k (k + 0) (k + 0))]) (lo := w3.heap.size) rfl rfl rfl rfl (hown7.ext hE79) hn9.blk.sl ⟨_, _, rfl⟩ rfl rfl (by omega) (by omega) (by omega) (fun am' cm' w10 hown10 hg10 ha10 => ⟨fun _ h => ⟨h.1.gb hg10 (ch hnm7), mQ hg10 amlt h.2.1 hlow, mQ hg10 amlt h.2.2 hlg⟩, ?_⟩)
  have z10 := hg10.size
  have hb10 := (hb78.ext hE89).gb hg10 (ch hnm7)
  have htop10 := mQ hg10 amlt (htop.ext hE89) hlow
  have hg010 := mQ hg10 amlt (hg0.ext hE89) hlg
  have hnm10 : ∀ ad, am' = some ad → ad.block ≠ g7 := fun ad e => by
   rcases ha10 with h | h
   ·exact hnm7 ad (by rw [← h]; exact e)
   ·have := h ad e; omega
  have ham0 : ∀ ad, am' = some ad → ad.block ≠ gr 0 := fun ad e => by
   have := hg0.lt
   rcases ha10 with h | h
   ·have := amlt ad (by rw [← h]; exact e); omega
   ·have := h ad e; omega
  have hE10 := (hown7.ext hE79).grow_ex hg10 (hE7.trans hE79) (Nat.le_refl _)
  have hT9 := TopG.ext hT7 hE79
  have hT10 : TopG w10 w3.heap.size 58 k sl S := TopG.gb hT9 hg10 fun ad e he => by
   cases ham : am with
   | none => rw [ham] at he; cases he
   | some x =>
    rw [ham] at he
    have hq : (Value.slice sl.a sl.len sl.cap).ownBlock = some ad.block := by rw [e]; rfl
    obtain ⟨_, hbq⟩ := TopG.blk hT9 _ hq
    exact qh (hown7.ext hE79) hbq (by decide) x ham (by simpa [Value.ownBlock] using he)
  repeat' (first|refine aM rfl ?_)
  refine cD (v := .slice am' ((k + 1 + 1 : Nat)) cm') rfl rfl rfl hb10 rfl (fun w11 hc11 hb11 => ⟨fun h => (nomatch h), ?_⟩)
  have z11 := hc11.size
  have hown11 := hown10.chg hc11 hnm10
  have hT11 : TopG w11 w3.heap.size 58 k sl S := TopG.gb hT10 (dx hc11) fun ad e he => by cases he; exact hne7 ad e rfl
  have htop11 := htop10.chg hc11 (by omega)
  have hg011 := hg010.chg hc11 (by omega)
  have hE11 := hE10.chg hc11 (by omega)
  repeat' (first|refine aa ?_|refine ah ?_)
  refine bn (late := [9]) (plan := [(0, none), (1, none), (2, none), (3, none), (4, none), (5, none), (6, some true), (7, some true), (8, none), (9, some false)]) (fun w' => Blk w' g7 105 [.slice am' ((k + 1 + 1 : Nat)) cm', .slice sl.a sl.len sl.cap] ∧ Blk w' gn 58 (topC (n - k) fun i => ⟨some ⟨gr i, 0, none⟩, n - k, n - k⟩)) bD (by kernel_rfl) ⟨hb11.drew, htop11.drew⟩ ?_
  repeat' (first|refine aP (g := g7) rfl (fun _ h => h.1) rfl ?_|refine az (j := 0) (a := some ⟨gn, 0, none⟩) rfl rfl ⟨_, _, rfl⟩ (by omega) ?_|refine aZ (j := 0) (a := some ⟨gn, 0, none⟩) (n := n - k) rfl (fun _ h => h.2.sl) (by omega) rfl ?_|refine km (l := 1) (g := gr 0) (o := 0) rfl rfl (by omega) (by omega) ?_|refine aj rfl ?_|refine aM rfl ?_)
  obtain ⟨bb, hbb⟩ : ∃ bb : Addr, (if n - k = 1 then (⟨gr 0, 0, none⟩ : Addr) else ⟨gr 0, 0 + 1 * 1, none⟩) = bb := ⟨_, rfl⟩
  rw [hbb]
  have hEd11 := (Ex.refl w11).drew
  refine lz (E := 58) (u := ⟨some bb, n - k - 1, n - k - 1⟩) (s := sl) (n := k) (lo := w3.heap.size) (f := S) rfl rfl rfl (fun wa wb hg hz h => ⟨h.1.gb hg (ch hne7), mQ hg sllt h.2 hlow⟩) (TopG.ext hT11 hEd11) (by omega) (by omega) (by have := hE11.size; exact this) (fun g12 sl' S' w12 hT12 hS1 hS2 hg12 ha12 => ?_)
  have hb12 := (hb11.ext hEd11).gb hg12 (ch hne7)
  have z12 := hg12.size
  have hne12 : ∀ ad, sl'.a = some ad → ad.block ≠ g7 := fun ad e => by
   rcases ha12 with h | h
   ·exact hne7 ad (by rw [← h]; exact e)
   ·have h1 := h ad e
    have h2 : w11.heap.size ≤ ad.block := h1
    omega
  have hown12 : Own w12 w3.heap.size 2 1 am' (k + 1 + 1) cm' _ := (hown11.ext hEd11).gb hg12 fun ad e he => by
   obtain ⟨_, hbq⟩ := TopG.blk (TopG.ext hT11 hEd11) _ he
   exact qh (hown11.ext hEd11) hbq (by decide) ad e rfl
  have hE12 : Ex w3 w12 := (hE11.trans hEd11).gb hg12 fun q e => by
   cases hsa : sl.a with
   | none => rw [hsa] at e; cases e
   | some ad => rw [hsa] at e; have := (TopG.lo hT7 ad hsa).1; simp [Value.ownBlock] at e; omega
  repeat' (first|refine aM rfl ?_)
  refine cD (v := .slice sl'.a sl'.len sl'.cap) rfl rfl rfl hb12 rfl (fun w13 hc13 hb13 => ⟨fun h => (nomatch h), ?_⟩)
  have z13 := hc13.size
  have z12' : w11.heap.size ≤ w12.heap.size := z12
  repeat' (first|refine aj rfl ?_|refine aa ?_|refine ai rfl ?_|refine ah ?_|refine aV rfl rfl (by omega) (by omega) ?_|refine aJ ?_)
  refine ⟨⟨(k + 1, (am', cm'), sl', S'), ⟨⟨hkn, hE12.chg hc13 (by omega)⟩, ?_, TopG.gb hT12 (dx hc13) (fun ad e he => by cases he; exact hne12 ad e rfl), hne12, hnm10, hb13, fun i hi => ?_⟩, by simp only; omega, rfl, trivial⟩, (by (repeat (first|exact aG _ _ _|refine aB rfl ?_|refine ax rfl ?_|refine av rfl ?_|refine aw rfl ?_)))⟩
  ·simp only
   have := hown12.chg hc13 hnm10
   rw [mK, cJ (g := fun i => det i A) fun i hi => by
    by_cases e : i = k + 1
    ·subst e; rw [aI]; exact d9 A k
    ·exact aN _ _ e] at this
   exact this
  ·simp only at hi ⊢
   by_cases e : i = k
   ·subst e
    rw [hS2]
    refine ⟨rfl, fun h0 => ?_⟩
    have ebb : bb = ⟨gr 0, 1, none⟩ := by rw [← hbb, if_neg (by omega)]
    have ebb2 : (⟨some bb, n - i - 1, n - i - 1⟩ : SD).a = some ⟨gr 0, 1, none⟩ := by rw [ebb]
    obtain ⟨mm, hmm⟩ : ∃ mm, n - i = mm + 1 := ⟨n - i - 1, by omega⟩
    have hmm2 : n - i - 1 = mm := by omega
    have hgT : Blk w11.drew (gr 0) 2 (intC (mm + 1) fun j => Go.LA.bm A i (i + 0) (i + j)) := by rw [← hmm]; exact hg011.ext hEd11
    have hsl : Sl w11.drew (some ⟨gr 0, 1, none⟩) (intC mm fun j => Go.LA.bm A i i (i + 1 + j)) := by
     have := vu hgT
     rwa [cJ (g := fun j => Go.LA.bm A i i (i + 1 + j)) fun j hj => by show Go.LA.bm A i (i + 0) (i + (j + 1)) = _; rw [show i + (j + 1) = i + 1 + j by omega, Nat.add_zero]] at this
    rw [ebb2, hmm2]
    refine ⟨fQ (gg hsl (TopG.ext hT11 hEd11) hg12) (fun _ ad e => by cases e; show gr 0 ≠ g7; omega) hc13, gr 0, rfl, ⟨by omega, by omega⟩, ?_, ham0⟩
    have := hgT.lt
    have e3 : w11.drew.heap.size = w11.heap.size := rfl
    omega
   ·rw [hS1 i (by omega)]
    obtain ⟨r1, r2⟩ := hr7 i (by omega)
    refine ⟨r1, fun h0 => ?_⟩
    obtain ⟨s1, gi, s2, s3, s4, s5⟩ := r2 h0
    have t1 : Sl w10 (S i).a (intC (n - i - 1) fun j => Go.LA.bm A i i (i + 1 + j)) := (s1.ext hE79).gb hg10 fun ad e => ch fun x hx => by
     have h9 := s5 x hx
     rw [s2] at e
     injection e with e
     subst e
     exact h9
    refine ⟨fQ (gg ((fQ t1 (fun _ ad e => by rw [s2] at e; cases e; show gi ≠ g7; omega) hc11).ext hEd11) (TopG.ext hT11 hEd11) hg12) (fun _ ad e => by rw [s2] at e; cases e; show gi ≠ g7; omega) hc13, gi, s2, s3, by omega, fun ad e => ?_⟩
    rcases ha10 with h | h
    ·exact s5 ad (by rw [← h]; exact e)
    ·have := h ad e; omega
 ·obtain rfl : n = k := by omega
  repeat' (first|refine bp rfl rfl (by omega) ?_|refine aa ?_|refine ak ?_|refine ai rfl ?_|refine ah ?_|refine ao rfl ?_|refine aT ?_|refine aO ?_|refine aU ?_)
  have hb2 : Blk w7 g2 105 _ := (hn1.blk.ext (hE2.trans hE3)).ext hE7
  refine aY (n := 2) rfl hb7 rfl ?_
  refine aF (n := 2) (vs := [.slice am ((n + 1 : Nat)) cm, .slice sl.a sl.len sl.cap]) rfl rfl rfl rfl hb2 rfl (fun w8 hc8 hb8 => tvv ?_)
  repeat' (first|refine aa ?_|refine ah ?_|refine aK ?_)
  have z6 := hE36.size
  have hsl7 : sl.len = n := hT7.1
  refine bo rfl (rc rfl rfl hb8) ⟨am, cm, sl, S, by rw [hsl7], hown7.sl.chg hc8 (fun ad e => by have := (hown7.lo ad e).1; omega), (TopG.sl hT7).chg hc8 (fun ad e => by have := (TopG.lo hT7 ad e).1; omega), fun i hi => ⟨(hr7 i hi).1, ?_⟩, (hE03.trans hE7).chg hc8 o1⟩
  rcases Nat.eq_zero_or_pos (n - i - 1) with e | e
  ·rw [e]; exact Sl.nil _ _
  ·obtain ⟨s1, gi, s2, s3, s4, s5⟩ := (hr7 i hi).2 e
   exact s1.chg hc8 fun ad e => by rw [s2] at e; cases e; show gi ≠ g2; omega
end Go.Proofs.YtpfhfldehaiokaaGreat
namespace Go.W
def sub64E : Array Value → Sem Value := fun args => do
 let (x, y, b) ← Extern.MathBitsCarry.three "Sub64" args
 pure (Extern.MathBitsCarry.pair ((x + Extern.MathBitsCarry.m64 - y - b) % Extern.MathBitsCarry.m64) (if x < y + b then 1 else 0))
theorem rh {P : Program} (x y b : Nat) (hb : b ≤ 1) (w : World) :
  (sub64E #[.int .u64 (x : Int), .int .u64 (y : Int), .int .u64 (b : Int)]).run P w =
   .ok (.tuple #[.int .u64 (((x + 18446744073709551616 - y - b) % 18446744073709551616 : Nat) : Int), .int .u64 ((if x < y + b then 1 else 0 : Nat) : Int)]) w := by
 have : b = 0 ∨ b = 1 := by omega
 rcases this with rfl | rfl <;> rfl
section
variable {P : Program} {S : World → Prop} {ops : List Oper} {K : Env → World → Prop} {rest : List (Oper × Option Bool)} {ρ : Env} {w : World} {kf : Bool} {d : Nat} {T : TypeId} {pos : String} {af : Array Edge}
theorem qi {f : Nat} {l : List Operand} {ts : Array TypeId} {args : Array Value} {v : Value} (hc : ∀ w, (callFunc f args).run P w = .ok (.value v) w) (ha : (l.map (ev ρ)).toArray = args)
  (h : RR P S ops K rest (upd ρ d v) w) : RR P S ops K ((⟨some d, .call ⟨.value (.func f), l.toArray, ts⟩, T, pos, af, none⟩, some kf) :: rest) ρ w := by
 subst ha
 refine dq rfl ?_
 unfold OpW
 have : (execOp (ev ρ) ⟨some d, .call ⟨.value (.func f), l.toArray, ts⟩, T, pos, af, none⟩).run P w = .ok (.value v) w := by
  have := hc w
  simp [execOp, resolve, Deferred.ofValue, ev, invoke, this]
 rw [this]
 exact ⟨fun _ h => h, h⟩
end
end Go.W
namespace Go.Proofs.YtpfhfldehaiokaaGreat
open Go.W Go.LM Go.LA
theorem nY {x y c : Nat} (hc : c ≤ 1) (w : World) : (callFunc 135 #[.int .u64 (x : Int), .int .u64 (y : Int), .int .u64 (c : Int)]).run Tryz.prog w =
  .ok (.value (.tuple #[.int .u64 (((x + y + c) % 18446744073709551616 : Nat) : Int), .int .u64 (((x + y + c) / 18446744073709551616 : Nat) : Int)])) w := by
 rw [run_callFunc_extern Tryz.func135 (by kernel_rfl) (by kernel_rfl) (by kernel_rfl) (e := add64Entry) (by kernel_rfl), run_add64 x y c (by omega) (by omega) (by omega) (by omega)]
 simp only [Result.andThen]
 congr 5 <;> omega
theorem kt {x y c : Nat} (hc : c ≤ 1) (w : World) : (callFunc 136 #[.int .u64 (x : Int), .int .u64 (y : Int), .int .u64 (c : Int)]).run Tryz.prog w =
  .ok (.value (.tuple #[.int .u64 (((x + 18446744073709551616 - y - c) % 18446744073709551616 : Nat) : Int), .int .u64 ((if x < y + c then 1 else 0 : Nat) : Int)])) w := by
 rw [run_callFunc_extern Tryz.func136 (by kernel_rfl) (by kernel_rfl) (by kernel_rfl) (e := sub64E) (by kernel_rfl), rh x y c hc]
 rfl
theorem wW {x : Nat} (h : x < 4294967296) : x &&& 4294967295 = x := by
 rw [show (4294967295 : Nat) = 2 ^ 32 - 1 from rfl, Nat.and_two_pow_sub_one_eq_mod]
 exact Nat.mod_eq_of_lt h
theorem vv {x : Nat} (h : x < 4294967296) : x >>> 32 = 0 := by
 rw [Nat.shiftRight_eq_div_pow]; exact Nat.div_eq_of_lt h
theorem ri {x y : Nat} (hx : x < 4294967296) (hy : y < 4294967296) (hxy : x * y < 4294967296) (w : World) : CallsR Tryz.prog 134 #[.int .u64 (x : Int), .int .u64 (y : Int)] w fun v w' => v = .tuple #[.int .u64 0, .int .u64 ((x * y : Nat) : Int)] ∧ w' = w := by
 have hx64 : x < 2 ^ 64 := Nat.lt_trans hx (by decide)
 have hy64 : y < 2 ^ 64 := Nat.lt_trans hy (by decide)
 refine aE (args := [_, _]) Tryz.func134 rfl rfl ?_
 repeat' (first|refine n8 (m := x) (m' := 4294967295) rfl rfl rfl hx64 (by decide) ?_|refine n8 (m := y) (m' := 4294967295) rfl rfl rfl hy64 (by decide) ?_|refine dP (m := x) (j := 32) rfl rfl (.inl rfl) ?_|refine dP (m := y) (j := 32) rfl rfl (.inl rfl) ?_|refine aj rfl ?_|refine aa ?_|refine ak ?_|refine ai rfl ?_|refine ah ?_)
 rw [wW hx, wW hy, vv hx, vv hy]
 repeat' (first|refine gz (m := x) (m' := y) rfl rfl (by omega) ?_|refine gz (m := 0) (m' := y) rfl rfl (by omega) ?_|refine dP (m := x * y) (j := 32) rfl rfl (.inl rfl) ?_|refine aj rfl ?_|refine aa ?_|refine ak ?_|refine ai rfl ?_|refine ah ?_)
 rw [vv hxy, Nat.zero_mul]
 repeat' (first|refine fc (m := 0) (m' := 0) rfl rfl (by decide) ?_|refine n8 (m := 0) (m' := 4294967295) rfl rfl rfl (by decide) (by decide) ?_|refine dP (m := 0) (j := 32) rfl rfl (.inl rfl) ?_|refine gz (m := x) (m' := 0) rfl rfl (by omega) ?_|refine aj rfl ?_|refine aa ?_|refine ak ?_|refine ai rfl ?_|refine ah ?_)
 rw [Nat.mul_zero]
 repeat' (first|refine fc (m := 0) (m' := 0) rfl rfl (by decide) ?_|refine gz (m := 0) (m' := 0) rfl rfl (by decide) ?_|refine dP (m := 0) (j := 32) rfl rfl (.inl rfl) ?_|refine gz (m := x) (m' := y) rfl rfl (by omega) ?_|refine aj rfl ?_|refine aa ?_|refine ak ?_|refine ai rfl ?_|refine ah ?_|refine aK ?_)
 exact dw rfl (rt rfl) (rt rfl) ⟨rfl, rfl⟩
def wdC (m : Nat) : List Value := [.int .u64 0, .int .u64 (m : Int)]
theorem i9 {m x y : Nat} (hx : x < 4294967296) (hy : y < 4294967296) (hxy : x * y < 4294967296) (hm : m < 4294967296) (w : World) :
  CallsR Tryz.prog 105 #[.agg (wdC m).toArray, .int .u64 (x : Int), .int .u64 (y : Int)] w fun v w' => v = .agg (wdC (m + x * y)).toArray ∧ Ex w w' := by
 refine aE (args := [_, _, _]) Tryz.func105 rfl rfl ?_
 repeat' (first|refine ak ?_|refine ai rfl ?_)
 refine bC rfl (fun g3 w1 hn1 => tvv ?_)
 refine aH (fun g6 w2 hn2 => tvv ?_)
 repeat' (first|refine aj rfl ?_|refine aa ?_|refine ak ?_|refine ai rfl ?_|refine ah ?_)
 refine au (ri hx hy hxy w2) rfl ?_
 rintro v w3 ⟨rfl, rfl⟩
 refine tvv ?_
 have hb3 := hn1.blk.ext hn2.ex
 have e1 : (m + x * y + 0) % 18446744073709551616 = m + x * y := Nat.mod_eq_of_lt (by omega)
 have e2 : (m + x * y + 0) / 18446744073709551616 = 0 := Nat.div_eq_of_lt (by omega)
 repeat' (first|refine aR rfl rfl ?_|refine aP (g := g3) rfl hb3 rfl ?_|refine aj rfl ?_|refine aa ?_|refine ak ?_|refine ai rfl ?_|refine ah ?_|refine aM rfl ?_)
 refine qi (nY (x := m) (y := x * y) (c := 0) (by omega)) rfl ?_
 rw [e1, e2]
 repeat' (first|refine aR rfl rfl ?_|refine aP (g := g3) rfl hb3 rfl ?_|refine aj rfl ?_|refine aa ?_|refine ak ?_|refine ai rfl ?_|refine ah ?_|refine aM rfl ?_)
 refine qi (nY (x := 0) (y := 0) (c := 0) (by omega)) rfl ?_
 repeat' (first|refine aR rfl rfl ?_|refine da (cs := wdC (m + x * y)) rfl ?_|refine aj rfl ?_|refine aa ?_|refine ak ?_|refine ai rfl ?_|refine ah ?_)
 refine aF (n := 2) (vs := wdC (m + x * y)) rfl rfl rfl rfl hn2.blk rfl (fun w4 hc4 hb4 => tvv ?_)
 repeat' (first|refine aa ?_|refine ah ?_|refine aK ?_)
 exact bo rfl (rc rfl rfl hb4) ⟨rfl, (hn1.ex.trans hn2.ex).chg hc4 (by have := hn1.ex.size; have := hn2.lo; omega)⟩
theorem kN {p q : Nat} (hp : p < 4294967296) (hq : q < 4294967296) (w : World) :
  CallsR Tryz.prog 106 #[.agg (wdC p).toArray, .agg (wdC q).toArray] w fun v w' => v = (if q ≤ p then .tuple #[.int .i64 ((p - q : Nat) : Int), .bool true] else .tuple #[.int .i64 0, .bool false]) ∧ Ex w w' := by
 refine aE (args := [_, _]) Tryz.func106 rfl rfl ?_
 repeat' (first|refine ak ?_|refine ai rfl ?_)
 refine bC rfl (fun g2 w1 hn1 => tvv ?_)
 refine bC rfl (fun g3 w2 hn2 => tvv ?_)
 have hb2 := hn1.blk.ext hn2.ex
 have hb3 := hn2.blk
 have hE2 := hn1.ex.trans hn2.ex
 repeat' (first|refine aP (g := g2) rfl hb2 rfl ?_|refine aP (g := g3) rfl hb3 rfl ?_|refine aj rfl ?_|refine aa ?_|refine ak ?_|refine ai rfl ?_|refine ah ?_|refine aM rfl ?_)
 refine qi (kt (x := p) (y := q) (c := 0) (by omega)) rfl ?_
 by_cases h : q ≤ p
 ·rw [if_pos h, if_neg (by omega), show (p + 18446744073709551616 - q - 0) % 18446744073709551616 = p - q by omega]
  repeat' (first|refine aR rfl rfl ?_|refine aP (g := g2) rfl hb2 rfl ?_|refine aP (g := g3) rfl hb3 rfl ?_|refine aj rfl ?_|refine aa ?_|refine ak ?_|refine ai rfl ?_|refine ah ?_|refine aM rfl ?_)
  refine qi (kt (x := 0) (y := 0) (c := 0) (by omega)) rfl ?_
  repeat' (first|refine aR rfl rfl ?_|refine eI rfl rfl rfl ?_|refine cW rfl rfl (by omega) ?_|refine cF rfl (cK (by omega) (by omega)) ?_|refine aj rfl ?_|refine aa ?_|refine ak ?_|refine ai rfl ?_|refine ah ?_|refine bJ rfl rfl ?_|refine ao rfl ?_|refine aK ?_|refine aC ?_)
  exact dw rfl (rt rfl) (rt rfl) ⟨rfl, hE2⟩
 ·rw [if_neg h, if_pos (by omega), show (p + 18446744073709551616 - q - 0) % 18446744073709551616 = p + 18446744073709551616 - q by omega]
  repeat' (first|refine aR rfl rfl ?_|refine aP (g := g2) rfl hb2 rfl ?_|refine aP (g := g3) rfl hb3 rfl ?_|refine aj rfl ?_|refine aa ?_|refine ak ?_|refine ai rfl ?_|refine ah ?_|refine aM rfl ?_)
  refine qi (kt (x := 0) (y := 0) (c := 1) (by omega)) rfl ?_
  repeat' (first|refine aR rfl rfl ?_|refine aj rfl ?_|refine aa ?_|refine ak ?_|refine ai rfl ?_|refine ah ?_|refine bY rfl rfl ?_|refine aA rfl ?_|refine aK ?_|refine bf ?_)
  exact dw rfl (rt rfl) (rt rfl) ⟨rfl, hE2⟩
theorem jX {n c : Nat} {a : Option Addr} {f : Nat → Int} {w : World} (hA : Sl w a (intC n f)) (hf : ∀ i, i < n → (f i).natAbs ≤ 9) (hn : n ≤ 1000) :
  CallsR Tryz.prog 104 #[.slice a n c] w fun v w' => v = .bool true ∧ w' = w := by
 refine aE (args := [_]) Tryz.func104 rfl rfl ?_
 repeat' (first|refine aj rfl ?_|refine aa ?_|refine ak ?_|refine ai rfl ?_|refine ah ?_|refine bc rfl ?_|refine ay ?_)
 refine aW (ι := Nat) [2, 4, 7, 8, 9, 10, 11, 12, 13, 14, 15, 16, 17] (fun i => [(7, .int .i64 (i : Int))])
  (fun i w' => i ≤ n ∧ w' = w) (fun i => n - i) 0 ⟨rfl, trivial⟩ ⟨Nat.zero_le _, rfl⟩ ?_
 rintro i ξ w' ⟨hi, rfl⟩
 show CW _ _ _ _ (over [(7, .int .i64 (i : Int))] _) w'
 rcases Nat.lt_or_ge i n with him | him
 ·have hpa : W.plain a := hA.plain (by rw [bU]; omega)
  have hfi := hf i him
  repeat' (first|refine bq rfl rfl (show (i : Int) < (n : Int) by omega) ?_|refine az (j := i) (a := a) rfl rfl hpa (by omega) ?_|refine bu (j := i) (n := n) (f := f) (a := a) rfl hA him ?_|refine bp rfl rfl (by omega) ?_|refine cW rfl rfl (by omega) ?_|refine aj rfl ?_|refine aa ?_|refine ak ?_|refine ai rfl ?_|refine ah ?_|refine bJ rfl rfl ?_|refine aV rfl rfl (by omega) (by omega) ?_|refine aA rfl ?_|refine ao rfl ?_|refine ay ?_|refine aJ ?_|refine aC ?_)
  exact ⟨⟨i + 1, ⟨him, rfl⟩, by omega, rfl, trivial⟩, (by (repeat (first|exact aG _ _ _|refine aB rfl ?_|refine ax rfl ?_|refine av rfl ?_|refine aw rfl ?_)))⟩
 ·obtain rfl : i = n := by omega
  repeat' (first|refine bp rfl rfl (by omega) ?_|refine aj rfl ?_|refine aa ?_|refine ak ?_|refine ai rfl ?_|refine ah ?_|refine ao rfl ?_|refine aT ?_|refine aO ?_|refine aU ?_|refine aK ?_)
  exact bo rfl (rt rfl) ⟨rfl, rfl⟩
theorem rj {n c : Nat} {a : Option Addr} {f : Nat → Int} {w : World} (hA : Sl w a (intC n f)) (hf : ∀ i, i < n → (f i).natAbs ≤ 9) (hn : n ≤ 1000) :
  CallsR Tryz.prog 62 #[.int .i64 (n : Int), .slice a n c] w fun v w' => v = .bool true ∧ w' = w := by
 refine aE (args := [_, _]) Tryz.func62 rfl rfl ?_
 repeat' (first|refine eV rfl rfl rfl ?_|refine aj rfl ?_|refine aa ?_|refine ak ?_|refine ai rfl ?_|refine ah ?_|refine bc rfl ?_|refine bJ rfl rfl ?_)
 refine au (jX hA hf hn) rfl ?_
 rintro v w2 ⟨rfl, rfl⟩
 refine tvv ?_
 repeat' (first|refine aj rfl ?_|refine aa ?_|refine ah ?_|refine aK ?_)
 exact bo rfl (rt rfl) ⟨rfl, rfl⟩
theorem iR {n c : Nat} {g o : Nat} {f : Nat → Int} {w : World} (hA : Sl w (some ⟨g, o, none⟩) (intC n f)) (hn : 0 < n ∧ n ≤ 1000) :
  CallsR Tryz.prog 72 #[.slice (some ⟨g, o, none⟩) n c] w fun v w' => ∃ gc cc, v = .slice (some ⟨gc, 0, none⟩) n cc ∧ Own w' w.heap.size 2 1 (some ⟨gc, 0, none⟩) n cc (intC n f) ∧ Ex w w' := by
 refine aE (args := [_]) Tryz.func72 rfl rfl ?_
 repeat' (first|refine jL rfl rfl ?_|refine om (fun g1 w1 hn1 => tvv ?_)|refine aj rfl ?_|refine aa ?_|refine ak ?_|refine ai rfl ?_|refine ah ?_|refine ao rfl ?_|refine aC ?_)
 refine dZ (z := .int .i64 0) (s := 1) (vs := []) (lo := w.heap.size) (news := intC n f) rfl rfl rfl rfl (hn1.blk.own rfl (Nat.zero_le _) hn1.lo) (hA.ext hn1.ex) ⟨_, _, rfl⟩ (by simp [bU]) (kX (fun _ => rfl) _) (by omega) (by omega) hn1.ex.size ?_
 intro a' c' w2 ho hg hA'
 refine tvv ?_
 rw [Nat.zero_add] at ho ⊢
 have hE : Ex w w2 := iu hg hn1.ex (by rintro _ ⟨⟩; exact hn1.lo)
 have hform : ∃ gc, a' = some ⟨gc, 0, none⟩ := by
  rcases ho.2 with ⟨hv, _⟩ | ⟨g', _, _, hv, _⟩
  ·simp only [Value.slice.injEq] at hv; omega
  ·simp only [Value.slice.injEq] at hv; exact ⟨g', hv.1⟩
 obtain ⟨gc, rfl⟩ := hform
 repeat' (first|refine aj rfl ?_|refine aa ?_|refine ah ?_|refine aK ?_)
 exact bo rfl (rt rfl) ⟨gc, c', rfl, by simpa using ho, hE⟩
theorem ti (z : Int) (w : World) : CallsR Tryz.prog 108 (#[] ++ #[.int .i64 z] ++ #[]) w fun v w' => v = .bool (decide (z ≠ 0)) ∧ w' = w := by
 refine aE (args := [_]) Tryz.func108 rfl rfl ?_
 repeat' (first|refine pm rfl rfl ?_|refine aj rfl ?_|refine aa ?_|refine ak ?_|refine ai rfl ?_|refine ah ?_|refine aK ?_)
 exact bo rfl (rt rfl) ⟨rfl, rfl⟩
theorem qj {n c q : Nat} {a : Option Addr} {f : Nat → Int} {w : World} (hA : Sl w a (intC n f)) (hn : n ≤ 1000) (hq : q < n) (hq1 : f q ≠ 0) (hq2 : ∀ j, j < q → f j = 0) :
  CallsR Tryz.prog 107 #[.slice a n c, .func (.func 108) #[] #[]] w fun v w' => v = .int .i64 (q : Int) ∧ w' = w := by
 refine aE (args := [_, _]) Tryz.func107 rfl rfl ?_
 repeat' (first|refine aj rfl ?_|refine aa ?_|refine ak ?_|refine ai rfl ?_|refine ah ?_|refine bc rfl ?_|refine ay ?_)
 refine aW (ι := Nat) [4, 5, 8, 9, 10, 11, 12, 13, 14, 15, 16, 17, 18] (fun i => [(8, .int .i64 (i : Int))])
  (fun i w' => i ≤ q ∧ w' = w) (fun i => n - i) 0 ⟨rfl, trivial⟩ ⟨Nat.zero_le _, rfl⟩ ?_
 rintro i ξ w' ⟨hi, rfl⟩
 show CW _ _ _ _ (over [(8, .int .i64 (i : Int))] _) w'
 have hpa : W.plain a := hA.plain (by rw [bU]; omega)
 repeat' (first|refine bq rfl rfl (show (i : Int) < (n : Int) by omega) ?_|refine az (j := i) (a := a) rfl rfl hpa (by omega) ?_|refine bu (j := i) (n := n) (f := f) (a := a) rfl hA (by omega) ?_|refine aj rfl ?_|refine aa ?_|refine ak ?_|refine ai rfl ?_|refine ah ?_|refine aA rfl ?_|refine ay ?_|refine aC ?_)
 refine fh rfl (ti (f i) w') rfl ?_
 rintro v w2 ⟨rfl, rfl⟩
 refine tvv ?_
 by_cases h : i = q
 ·subst h
  rw [decide_eq_true hq1]
  repeat' (first|refine aj rfl ?_|refine aa ?_|refine ak ?_|refine ai rfl ?_|refine ah ?_|refine aA rfl ?_|refine aK ?_|refine bf ?_|refine cj ?_)
  exact bo rfl (rt rfl) ⟨rfl, rfl⟩
 ·rw [decide_eq_false (fun h2 => h2 (hq2 i (by omega)))]
  repeat' (first|refine aj rfl ?_|refine aa ?_|refine ai rfl ?_|refine ah ?_|refine aV rfl rfl (by omega) (by omega) ?_|refine ao rfl ?_|refine aJ ?_|refine aC ?_)
  exact ⟨⟨i + 1, ⟨by omega, rfl⟩, by omega, rfl, trivial⟩, (by (repeat (first|exact aG _ _ _|refine aB rfl ?_|refine ax rfl ?_|refine av rfl ?_|refine aw rfl ?_)))⟩
def canV (q : Nat) (f : Nat → Int) : Nat → Int := fun i => if f q < 0 then -f i else f i
theorem rm {n c q g o : Nat} {f : Nat → Int} {w : World} (hA : Sl w (some ⟨g, o, none⟩) (intC n f)) (hf : ∀ i, i < n → (f i).natAbs ≤ 9) (hn : n ≤ 1000) (hq : q < n) (hq1 : f q ≠ 0) (hq2 : ∀ j, j < q → f j = 0) :
  CallsR Tryz.prog 65 #[.slice (some ⟨g, o, none⟩) n c] w fun v w' => ∃ gc cc, v = .tuple #[.slice (some ⟨gc, 0, none⟩) n cc, .bool true] ∧ Own w' w.heap.size 2 1 (some ⟨gc, 0, none⟩) n cc (intC n (canV q f)) ∧ Ex w w' := by
 refine aE (args := [_]) Tryz.func65 rfl rfl ?_
 repeat' (first|refine aj rfl ?_|refine aa ?_|refine ak ?_|refine ai rfl ?_|refine ah ?_)
 refine au (jX hA hf hn) rfl ?_
 rintro v w2 ⟨rfl, rfl⟩
 refine tvv ?_
 repeat' (first|refine aj rfl ?_|refine aa ?_|refine ak ?_|refine ai rfl ?_|refine ah ?_|refine ao rfl ?_|refine aC ?_)
 refine au (qj hA hn hq hq1 hq2) rfl ?_
 rintro v w3 ⟨rfl, rfl⟩
 refine tvv ?_
 repeat' (first|refine bp rfl rfl (show (0 : Int) ≤ (q : Int) by omega) ?_|refine aj rfl ?_|refine aa ?_|refine ak ?_|refine ai rfl ?_|refine ah ?_|refine ao rfl ?_|refine aC ?_)
 refine au (iR hA (by omega)) rfl ?_
 rintro v w4 ⟨gc, cc, rfl, hO, hE⟩
 refine tvv ?_
 have hA4 := hA.ext hE
 by_cases hs : f q < 0
 ·have hcv : ∀ i, canV q f i = -f i := fun i => if_pos hs
  repeat' (first|refine az (j := q) (a := some ⟨g, o, none⟩) rfl rfl ⟨_, _, rfl⟩ (by omega) ?_|refine bu (j := q) (n := n) (f := f) (a := some ⟨g, o, none⟩) rfl hA4 hq ?_|refine bq rfl rfl hs ?_|refine aj rfl ?_|refine aa ?_|refine ak ?_|refine ai rfl ?_|refine ah ?_|refine bc rfl ?_|refine aA rfl ?_|refine ay ?_)
  refine aW (ι := Nat) [6, 7, 24, 25, 26, 27, 28, 29, 30, 31, 32, 33, 34] (fun i => [(24, .int .i64 (i : Int))])
   (fun i w' => i ≤ n ∧ Ex w3 w' ∧ Own w' w3.heap.size 2 1 (some ⟨gc, 0, none⟩) n cc (intC n fun j => if j < i then -f j else f j)) (fun i => n - i) 0 ⟨rfl, trivial⟩ ⟨Nat.zero_le _, hE, by simpa using hO⟩ ?_
  rintro i ξ w5 ⟨hi, hE5, hO5⟩
  show CW _ _ _ _ (over [(24, .int .i64 (i : Int))] _) w5
  have hA5 := hA.ext hE5
  rcases Nat.lt_or_ge i n with him | him
  ·have hfi := hf i him
   repeat' (first|refine bq rfl rfl (show (i : Int) < (n : Int) by omega) ?_|refine az (j := i) (a := some ⟨g, o, none⟩) rfl rfl ⟨_, _, rfl⟩ (by omega) ?_|refine bu (j := i) (n := n) (f := f) (a := some ⟨g, o, none⟩) rfl hA5 him ?_|refine jy rfl (by omega) ?_|refine az (j := i) (a := some ⟨gc, 0, none⟩) rfl rfl ⟨_, _, rfl⟩ (by omega) ?_|refine aj rfl ?_|refine aa ?_|refine ak ?_|refine ai rfl ?_|refine ah ?_|refine aA rfl ?_|refine ay ?_|refine aC ?_)
   refine lH (j := i) (v := .int .i64 (-f i)) rfl rfl rfl hO5 (by rw [bU]; exact him) (fun g' w6 eg hlo hc6 hO6 => tvv ?_)
   repeat' (first|refine aj rfl ?_|refine aa ?_|refine ai rfl ?_|refine ah ?_|refine aV rfl rfl (by omega) (by omega) ?_|refine aJ ?_)
   refine ⟨⟨i + 1, ⟨him, hE5.chg hc6 hlo, ?_⟩, by omega, rfl, trivial⟩, (by (repeat (first|exact aG _ _ _|refine aB rfl ?_|refine ax rfl ?_|refine av rfl ?_|refine aw rfl ?_)))⟩
   rw [p9, cJ (g := fun j => if j < i + 1 then -f j else f j) fun j hj => by
    by_cases e : j = i
    ·subst e; rw [aI, if_pos (by omega)]
    ·rw [aN _ _ e]
     by_cases h : j < i
     ·rw [if_pos h, if_pos (by omega)]
     ·rw [if_neg h, if_neg (by omega)]] at hO6
   exact hO6
  ·obtain rfl : i = n := by omega
   repeat' (first|refine bp rfl rfl (by omega) ?_|refine aj rfl ?_|refine aa ?_|refine ak ?_|refine ai rfl ?_|refine ah ?_|refine ao rfl ?_|refine aT ?_|refine aO ?_|refine aU ?_|refine aK ?_)
   rw [cJ (g := canV q f) fun j hj => by rw [if_pos hj, hcv]] at hO5
   exact dw rfl (rt rfl) (rt rfl) ⟨gc, cc, rfl, hO5, hE5⟩
 ·have hcv : ∀ i, canV q f i = f i := fun i => if_neg hs
  repeat' (first|refine az (j := q) (a := some ⟨g, o, none⟩) rfl rfl ⟨_, _, rfl⟩ (by omega) ?_|refine bu (j := q) (n := n) (f := f) (a := some ⟨g, o, none⟩) rfl hA4 hq ?_|refine bp rfl rfl (by omega) ?_|refine aj rfl ?_|refine aa ?_|refine ak ?_|refine ai rfl ?_|refine ah ?_|refine ao rfl ?_|refine aK ?_|refine aC ?_)
  rw [← cJ (f := canV q f) fun j hj => hcv j] at hO
  exact dw rfl (rt rfl) (rt rfl) ⟨gc, cc, rfl, hO, hE⟩
end Go.Proofs.YtpfhfldehaiokaaGreat
