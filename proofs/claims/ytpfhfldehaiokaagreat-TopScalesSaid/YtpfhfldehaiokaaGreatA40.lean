import Derived.Test.YtpfhfldehaiokaaGreatA39
set_option maxHeartbeats 32000000
namespace Go.Proofs.YtpfhfldehaiokaaGreat
open Go.W Go.LM Go.LA
theorem rz {n cap g o : Nat} {w : World} {s : Nat → SD} {H : Mat} {m B : Int} (hM : MI w (some ⟨g, o, none⟩) n n s (scM m H)) (hR : Rd n H) (hm : 1 ≤ m ∧ m ≤ 4) (hB : 0 ≤ B ∧ B ≤ 5) (hcap : n ≤ cap) (hdet : det n (scM m H) ≤ 10000) :
  CallsR Tryz.prog 32 #[.slice (some ⟨g, o, none⟩) n cap, .int .i64 (m * B), .int .i64 20000] w fun v w' => ∃ gs, v = .tuple #[.slice (some ⟨gs, 0, none⟩) n n, .int .i64 0] ∧
   Blk w' gs 3 (intC n fun i => stp (i + 1) (evs n (scM m H) (m * B) (n - 1) fun _ => 0)) ∧ w.heap.size ≤ gs ∧ Ex w w' := by
 have hW := hR.wk hm hB
 have hn := hR.hn
 have hent : ∀ i j, i < n → j < n → Lb 2 (scM m H i j) := fun i j hi hj => bO (by have := hR.entk hm hi hj; omega) (by decide)
 have hC := hW.hC
 generalize hAe : scM m H = A at *
 generalize hCe : m * B = C at *
 refine kU (args := [_, _, _]) Tryz.func32 rfl rfl ?_
 refine kr ?_
 refine ai rfl ?_
 refine aH (fun g6 w1 hn1 => tvv ?_)
 refine aH (fun g7 w2 hn2 => tvv ?_)
 refine ah ?_
 refine kx ?_
 have hE2 := hn1.ex.trans hn2.ex
 refine xQ (fun ρ w' => Has ρ [(0, .slice (some ⟨g, o, none⟩) n cap), (1, .int .i64 C), (2, .int .i64 20000), (6, .pointer (some ⟨g6, 0, none⟩)), (7, .pointer (some ⟨g7, 0, none⟩))] ∧ Ex w2 w') ?_ ?_
 ·repeat' (first|refine aj rfl ?_|refine ak ?_|refine ai rfl ?_|refine ay ?_)
  have hred := fM (cap := cap) (by rw [hAe]; exact hM.ext hE2) hR hm hcap
  rw [hAe, decide_eq_true hdet] at hred
  refine au hred rfl ?_
  rintro v w3 ⟨rfl, hE3⟩
  refine tvv ?_
  repeat' (first|refine bp rfl rfl (by omega) ?_|refine cW (m' := 4611686018427387904) rfl rfl (by omega) ?_|refine cW (m' := 1000000) rfl rfl (by omega) ?_|refine ee rfl rfl (by omega) ?_|refine aj rfl ?_|refine aa ?_|refine ak ?_|refine ai rfl ?_|refine ah ?_|refine bc rfl ?_|refine bJ rfl rfl ?_|refine bY rfl rfl ?_|refine gV rfl rfl (fun hc => ?_) (fun hc => ?_)|refine ao rfl ?_|refine aJ ?_|refine aC ?_)
  all_goals (refine cut ⟨⟨rfl, rfl, rfl, rfl, rfl, trivial⟩, hE3⟩)
 ·rintro ρ w3 ⟨hρ, hE3⟩
  rw [← jA hρ]
  refine kr ?_
  repeat' (first|refine aj rfl ?_|refine ai rfl ?_|refine bc rfl ?_)
  refine eF (n := n) rfl rfl (by omega) (by omega) (fun gs w4 hn4 => tvv ?_)
  refine aH (fun g8 w5 hn5 => tvv ?_)
  refine cD (v := .slice (some ⟨gs, 0, none⟩) n n) rfl rfl rfl hn5.blk rfl (fun w6 hc6 hb6 => tvv ?_)
  refine ah ?_
  refine kx ?_
  refine kr ?_
  repeat' (first|refine aj rfl ?_|refine ai rfl ?_)
  refine aH (fun gl w7 hn7 => tvv ?_)
  refine cD (v := .int .i64 20000) rfl rfl rfl hn7.blk rfl (fun w8 hc8 hb8 => tvv ?_)
  refine ah ?_
  refine kx ?_
  have o1 := hn1.lo
  have o2 := hn2.lo
  have o4 := hn4.lo
  have o5 := hn5.lo
  have o7 := hn7.lo
  have b1 := hn1.blk.lt
  have b2 := hn2.blk.lt
  have b4 := hn4.blk.lt
  have b5 := hn5.blk.lt
  have b7 := hn7.blk.lt
  have z2 := hE2.size
  have z3 := hE3.size
  have z4 := hn4.ex.size
  have z6 := hc6.size
  have z8 := hc8.size
  have hE35 : Ex w3 w6 := (hn4.ex.trans hn5.ex).chg hc6 (by omega)
  have hE38 : Ex w3 w8 := (hE35.trans hn7.ex).chg hc8 (by have := hE35.size; omega)
  have hE8 : Ex w w8 := hE2.trans (hE3.trans hE38)
  have hgs8 : Blk w8 gs 3 (intC n fun _ => 0) := (((hn4.blk.ext hn5.ex).chg hc6 (by omega)).ext hn7.ex).chg hc8 (by omega)
  have hg88 : Blk w8 g8 63 [.slice (some ⟨gs, 0, none⟩) n n] := (hb6.ext hn7.ex).chg hc8 (by omega)
  have hg68 : Blk w8 g6 63 _ := hn1.blk.ext (hn2.ex.trans (hE3.trans hE38))
  have hg78 : Blk w8 g7 28 _ := hn2.blk.ext (hE3.trans hE38)
  refine kr ?_
  repeat' (first|refine aj rfl ?_|refine ai rfl ?_)
  refine au (oW (cap := cap) (C := C) (hM.ext hE8) (by omega) hent (fun k hk => by have := hW.pos (k + 1) (by omega); omega) (fun k hk => by have := hW.pos k (by omega); have := hW.lt k (by omega); unfold fits64; omega)
   (fun k j hk hj => by have := hW.sh k (k + 1 + j) (by omega) (by omega); have := hW.lt (k + 1) (by omega); unfold fits64; omega)) rfl ?_
  rintro v w9 ⟨gw, gx, am, cm, sl, S, rfl, hWM, hX, hE9⟩
  refine tvv ?_
  repeat' (first|refine aj rfl ?_|refine ah ?_)
  refine kx ?_
  refine zz ?_
  refine kr ?_
  repeat' (first|refine eU ?_|refine aj rfl ?_|refine ai rfl ?_|refine ah ?_)
  refine kx ?_
  intro a hr
  refine wp_block ?_
  refine wJ hr rfl ?_
  intro rec W1 hst hpe hps has hbo htm hW1
  have hl1 : W1.heap[w9.heap.size + 1]? = some (.loop rec) := by
   rw [hW1]; have := World.alloc_heap_new (w9.alloc (.deferred (some []))) (.loop rec); rwa [World.size_alloc] at this
  have hD1 : W1.heap[w9.heap.size]? = some (.deferred (some [])) := by
   rw [hW1]; exact (Go.RowKit.Below.heap_alloc _ _ _ (by simp)).trans (World.alloc_heap_new w9 _)
  have hE91 : Ex w9 W1 := by rw [hW1]; exact (Ex.alloc w9 _).trans (Ex.alloc _ _)
  obtain ⟨l, hl⟩ : ∃ l, w9.heap.size + 1 = l := ⟨_, rfl⟩
  rw [hl] at hl1 ⊢
  have z9 := hE9.size
  obtain ⟨x0, hx0⟩ : ∃ x0 : Vec, (fun _ => 0) = x0 := ⟨_, rfl⟩
  have hrn : 0 ≤ rs n A C n x0 := by rw [← hx0]; exact hW.rs0 (Nat.le_refl n) fun _ _ _ => rfl
  have hn1 : n - 1 + 1 = n := by omega
  have hLm := hW.ev_mem (n - 1) x0 (by omega) (by rw [hn1]; exact hrn)
  have hLt := hW.tot_le (k := n - 1) (by omega) (x := x0) (by rw [hn1]; exact hrn)
  obtain ⟨L, hL⟩ : ∃ L, evs n A C (n - 1) x0 = L := ⟨_, rfl⟩
  have hLfact : ∀ pre e, (∃ suf, pre ++ [e] ++ suf = L) → (1 ≤ e.1 ∧ e.1 ≤ n) ∧ (0 ≤ e.2 ∧ e.2 ≤ 19) ∧ 0 ≤ tot pre ∧ tot pre + e.2 ≤ 7239 ∧ ∀ j, 0 ≤ stp j pre ∧ stp j pre ≤ tot pre := fun pre e ⟨suf, hs⟩ => by
   rw [hL] at hLm hLt
   rw [← hs] at hLm hLt
   have h1 := hLm e (by simp)
   have h2 : ∀ e' ∈ pre, 0 ≤ e'.2 := fun e' he => (hLm e' (by simp [he])).2.1
   have h3 : ∀ e' ∈ suf, 0 ≤ e'.2 := fun e' he => (hLm e' (by simp [he])).2.1
   rw [fO, fO, gR, oS] at hLt
   have h4 := q7 h2
   have h5 := q7 h3
   exact ⟨h1.1, h1.2, h4, by omega, fun j => ⟨oU h2, ve h2⟩⟩
  have htails := ry (l := l) (C := C) (F0 := fun q => q = l ∨ q = gl ∨ q = gs) (w := W1)
   (J := fun pre W => W.heap[l]? = some (.loop rec) ∧ W.heap[w9.heap.size]? = some (.deferred (some [])) ∧ Blk W gl 2 [.int .i64 (20000 - tot pre)] ∧ Blk W gs 3 (intC n fun i => stp (i + 1) pre) ∧ Blk W g8 63 [.slice (some ⟨gs, 0, none⟩) n n]) hW
   (fun q hq => by rcases hq with rfl | rfl | rfl <;> omega)
   (fun pre W W' ⟨h1, h2, h3, h4, h5⟩ hf => by
    have lt1 := (Array.getElem?_eq_some_iff.1 h1).1
    have lt2 := (Array.getElem?_eq_some_iff.1 h2).1
    have hbx := hWM.bx
    exact ⟨(hf.block l lt1 (by omega)).trans h1, (hf.block _ lt2 (by omega)).trans h2, h3.fr hf (by omega), h4.fr hf (by omega), h5.fr hf (by omega)⟩)
   (by
    rw [hx0, hL]
    rintro pre e W ⟨h1, h2, h3, h4, h5⟩ hsuf
    obtain ⟨he1, he2, ht0, ht1, hst1⟩ := hLfact pre e hsuf
    refine ⟨0, qp h1 hst hpe (by rw [hps]; rfl) (wI hr hps htm rfl rfl) ?_⟩
    have lt1 := (Array.getElem?_eq_some_iff.1 h1).1
    intro busy
    rw [has]
    refine lB (fR (by kernel_rfl) ?_)
    repeat' (first|refine aj rfl ?_|refine aa ?_|refine ah ?_)
    refine fR (by kernel_rfl) ?_
    repeat' (first|refine aj rfl ?_|refine ah ?_)
    refine ⟨rfl, rfl, ?_⟩
    rw [hbo]
    obtain ⟨W2, hW2⟩ : ∃ W2, W.putObj l (.loop busy) = W2 := ⟨_, rfl⟩
    have hl2 : W2.heap[l]? = some (.loop busy) := by rw [← hW2]; exact World.putObj_heap_same lt1
    have hP : Fr (fun q => q = l) W W2 := by rw [← hW2]; exact jz W l _
    rw [hW2]
    have h2' := (hP.block w9.heap.size (Array.getElem?_eq_some_iff.1 h2).1 (by omega)).trans h2
    have h3' := h3.fr hP (by omega)
    have h4' := h4.fr hP (by omega)
    have h5' := h5.fr hP (by omega)
    refine tu (lB (lB (fR (by kernel_rfl) ?_)))
    repeat' (first|refine aP (g := gl) rfl h3' rfl ?_|refine cW rfl rfl (by omega) ?_|refine aj rfl ?_|refine aa ?_|refine ah ?_)
    refine m8 rfl (vB ?_)
    refine aa ?_
    refine lB (fR (by kernel_rfl) ?_)
    repeat' (first|refine aP (g := gl) rfl h3' rfl ?_|refine aj rfl ?_|refine bK rfl rfl (by omega) (by omega) ?_)
    refine cD (v := .int .i64 (20000 - tot pre - e.2)) rfl rfl rfl h3' rfl (fun W3 hc3 hb3 => tvv ?_)
    repeat' (first|refine aa ?_|refine ah ?_)
    refine fR (by kernel_rfl) ?_
    have h4'' := h4'.chg hc3 (by omega)
    have h5'' := h5'.chg hc3 (by omega)
    have hst2 := hst1 e.1
    have ej : ((e.1 : Int) - 1) = ((e.1 - 1 : Nat) : Int) := by omega
    have ej2 : e.1 - 1 + 1 = e.1 := by omega
    repeat' (first|refine aP (g := g8) rfl h5'' rfl ?_|refine az (j := e.1 - 1) (a := some ⟨gs, 0, none⟩) rfl (congrArg (Value.int .i64) ej) ⟨_, _, rfl⟩ (by omega) ?_|refine bu (j := e.1 - 1) (n := n) (f := fun i => stp (i + 1) pre) (a := some ⟨gs, 0, none⟩) rfl h4''.sl (by omega) ?_|(refine aV rfl rfl (by rw [ej2]; omega) (by rw [ej2]; omega) ?_)|refine aj rfl ?_|refine bK rfl rfl (by omega) (by omega) ?_)
    refine cT (j := e.1 - 1) (n := n) (f := fun i => stp (i + 1) pre) (u := stp (e.1 - 1 + 1) pre + e.2) rfl rfl h4'' (by omega) (fun W4 hc4 hb4 => tvv ?_)
    repeat' (first|refine ah ?_)
    have z2' := hP.size
    have z3' := hc3.size
    have z4' := hc4.size
    have hl4 : W4.heap[l]? = some (.loop busy) := (hc4.block l (by omega)).trans ((hc3.block l (by omega)).trans hl2)
    have hF4 : Fr (fun q => q = l ∨ q = gl ∨ q = gs) W W4 := ((hP.mono fun _ _ h => .inl h).trans (hc3.fr (.inr (.inl rfl)))).trans (hc4.fr (.inr (.inr rfl)))
    refine ⟨rfl, rfl, hl4, ⟨World.putObj_heap_same (by omega), ?_, ?_, ?_, ?_⟩, hF4.trans ((jz W4 l _).mono fun _ _ h => .inl h)⟩
    ·exact (World.putObj_heap_other (by omega)).trans ((hc4.block _ (by omega)).trans ((hc3.block _ (by omega)).trans h2'))
    ·have := (hb3.chg hc4 (by omega)).fr (jz W4 l (.loop rec)) (by omega)
     rw [show 20000 - tot (pre ++ [e]) = 20000 - tot pre - e.2 by rw [fO, gR, oS]; omega]
     exact this
    ·have := hb4.fr (jz W4 l (.loop rec)) (by omega)
     rw [cJ (g := fun i => stp (i + 1) (pre ++ [e])) fun i hi => by
      rw [ic, oT]
      by_cases e2 : i = e.1 - 1
      ·subst e2; rw [aI, if_pos (by omega)]
      ·rw [aN _ _ e2, if_neg (by omega)]; omega] at this
     exact this
    ·exact (h5''.chg hc4 (by omega)).fr (jz W4 l (.loop rec)) (by omega))
   (by
    refine ⟨hl1, hD1, ?_, ?_, ?_⟩
    ·exact (hb8.ext hE9).ext hE91
    ·exact (hgs8.ext hE9).ext hE91
    ·exact (hg88.ext hE9).ext hE91)
   (hWM.fr (F := fun _ => False) hE91.fr (fun _ h => h.elim)) (hX.ext hE91)
  rw [hx0, hL] at htails
  refine CallsR.mono htails ?_
  rintro v w10 ⟨⟨h1, h2, h3, h4, h5⟩, hF10⟩
  refine ⟨h1, ?_⟩
  rintro w11 hw11
  have hP : Fr (fun q => q = l) w10 w11 := by rw [hw11]; exact jz w10 l _
  have hbx := hWM.bx
  have hF11 : Fr (fun q => (q = l ∨ q = gl ∨ q = gs) ∨ q = gx) W1 w11 := hF10.trans (hP.mono fun _ _ h => .inl (.inl h))
  have h2' := (hP.block w9.heap.size (Array.getElem?_eq_some_iff.1 h2).1 (by omega)).trans h2
  have h4' := h4.fr hP (by omega)
  have h5' := h5.fr hP (by omega)
  have hg6' := ((hg68.ext hE9).ext hE91).fr hF11 (by omega)
  have hg7' := ((hg78.ext hE9).ext hE91).fr hF11 (by omega)
  have z91 := hE91.size
  have hE11 : Ex w w11 := Fr.ex (hE8.trans (hE9.trans hE91)) hF11 (fun q hq => by omega)
  refine (wpIn_wide (n := 0)).1 (wpIn_seq (nX kq (ds := [{ target := .collected w9.heap.size, args := #[] }]) ⟨⟨hr.size, hr.get, rfl⟩, rfl⟩ (by kernel_rfl) ?_))
  repeat' (first|refine aP (g := g8) rfl h5' rfl ?_)
  refine cD (v := .slice (some ⟨gs, 0, none⟩) n n) rfl rfl rfl hg6' rfl (fun w12 hc12 hb12 => tvv ?_)
  have hg7'' := hg7'.chg hc12 (by omega)
  refine cD (v := .int .i64 0) rfl rfl rfl hg7'' rfl (fun w13 hc13 hb13 => tvv ?_)
  refine ah ?_
  intro a2 hrD
  refine wpIn_ret ?_
  have z12 := hc12.size
  have z13 := hc13.size
  have h2'' := (hc13.block w9.heap.size (by omega)).trans ((hc12.block w9.heap.size (by omega)).trans h2')
  have hQ := jz w13 w9.heap.size (.deferred none)
  exact tv hrD rfl h2'' (dw rfl (rcs rfl ((hb12.chg hc13 (by omega)).fr hQ (by omega))) (rcs rfl (hb13.fr hQ (by omega))) ⟨gs, rfl, by rw [show (evs n A C (n - 1) fun _ => 0) = L by rw [hx0, hL]]; exact ((h4'.chg hc12 (by omega)).chg hc13 (by omega)).fr hQ (by omega), by omega, Fr.ex ((hE11.chg hc12 (by omega)).chg hc13 (by omega)) hQ (fun q hq => by omega)⟩)
def totV (n : Nat) (H : Mat) (B : Int) : Int := sm n fun i => stp (i + 1) (evs n H B (n - 1) fun _ => 0)
theorem wK {n : Nat} {H : Mat} {B : Int} (h : Wk n H B) : (n : Int) ≤ totV n H B := by
 have hn := h.hn
 have key : ∀ m, m ≤ n → (m : Int) ≤ sm m fun i => stp (i + 1) (evs n H B (n - 1) fun _ => 0) := by
  intro m
  induction m with
  | zero => intro _; rw [dm]; omega
  | succ m ih =>
   intro hm
   rw [bG]
   have := ih (by omega)
   have := h.stp1 (n - 1) (fun _ => 0) (by omega) (fun _ _ _ => rfl) (m + 1) (by omega) hm
   omega
 exact key n (Nat.le_refl _)
theorem rA {n gs : Nat} {w : World} {f : Nat → Int} (hs : Blk w gs 3 (intC n f)) (hn : 1 ≤ n ∧ n ≤ 3) (hf : 1 ≤ f (n - 1) ∧ f (n - 1) ≤ 7239) :
  CallsR Tryz.prog 33 #[.slice (some ⟨gs, 0, none⟩) n n] w fun v w' => v = .int .i64 ((f (n - 1) - 1) / 2) ∧ w' = w := by
 refine aE (args := [_]) Tryz.func33 rfl rfl ?_
 have e : (n : Int) - 1 = ((n - 1 : Nat) : Int) := by omega
 repeat' (first|refine ka (m := n) (m' := 1) rfl rfl (by omega) (by omega) ?_|refine az (j := n - 1) (a := some ⟨gs, 0, none⟩) rfl rfl ⟨_, _, rfl⟩ (by omega) ?_|refine bu (j := n - 1) (n := n) (f := f) (a := some ⟨gs, 0, none⟩) rfl hs.sl (by omega) ?_|refine bK rfl rfl (by omega) (by omega) ?_|refine et rfl rfl (by omega) (by omega) (by omega) ?_|refine aj rfl ?_|refine aa ?_|refine ak ?_|refine ai rfl ?_|refine ah ?_|refine bc rfl ?_|refine aK ?_)
 exact bo rfl (rt rfl) ⟨rfl, rfl⟩
theorem jY {n cap g o : Nat} {w : World} {s : Nat → SD} {H : Mat} {m B : Int} (hM : MI w (some ⟨g, o, none⟩) n n s (scM m H)) (hR : Rd n H) (hm : 1 ≤ m ∧ m ≤ 4) (hB : 0 ≤ B ∧ B ≤ 5) (hcap : n ≤ cap) (hdet : det n (scM m H) ≤ 10000) :
  CallsR Tryz.prog 12 #[.slice (some ⟨g, o, none⟩) n cap, .int .i64 (m * B), .int .i64 20000] w fun v w' => ∃ (gr : Nat) (p : Nat → Nat) (sr : Nat → SD),
   v = .tuple #[.slice (some ⟨gr, 0, none⟩) (foundL n H B).length (foundL n H B).length, .int .i64 (totV n H B), .int .i64 0] ∧ Srt n H B p ∧ Blk w' gr 58 (topC (foundL n H B).length sr) ∧
   (∀ i, i < (foundL n H B).length → (sr i).len = n ∧ Sl w' (sr i).a (intC n (canV (fnz (foundV n H B (p i))) (foundV n H B (p i))))) ∧ Ex w w' := by
 have hn := hR.hn
 have hW := hR.wk hm hB
 have hW1 : Wk n H B := by
  have := hR.wk (m := 1) (by omega) hB
  rwa [ly, Int.one_mul] at this
 have hev : (evs n (scM m H) (m * B) (n - 1) fun _ => 0) = evs n H B (n - 1) fun _ => 0 := vl hW1 hW hm.1 (n - 1) _ (by omega) hW1.found0
 have hfo : cols n (scM m H) (m * B) (n - 1) (fun _ => 0) true = foundL n H B := r9 hW1 hW hm.1 (n - 1) _ true (by omega) hW1.found0 fun _ _ _ _ => rfl
 have hst : ∀ i, i < n → 1 ≤ stp (i + 1) (evs n H B (n - 1) fun _ => 0) ∧ stp (i + 1) (evs n H B (n - 1) fun _ => 0) ≤ 7239 := fun i hi => by
  have h1 := hW1.stp1 (n - 1) (fun _ => 0) (by omega) (fun _ _ _ => rfl) (i + 1) (by omega) (by omega)
  have h2 := ve (j := i + 1) (l := evs n H B (n - 1) fun _ => 0) fun e he => (hW1.ev_mem (n - 1) (fun _ => 0) (by omega) hW1.found0 e he).2.1
  have h3 := hW1.tot_le (k := n - 1) (by omega) hW1.found0
  omega
 have hlen := hW1.found_len
 have hS1 := rz hM hR hm hB hcap hdet
 rw [hev] at hS1
 obtain ⟨F, hF⟩ : ∃ F : Nat → Int, (fun i => stp (i + 1) (evs n H B (n - 1) fun _ => 0)) = F := ⟨_, rfl⟩
 have hFi : ∀ i, i < n → 1 ≤ F i ∧ F i ≤ 7239 := fun i hi => by rw [← hF]; exact hst i hi
 have htot : totV n H B = sm n F := by unfold totV; rw [hF]
 rw [hF] at hS1
 rw [htot]
 have hsmF : ∀ i, i ≤ n → 0 ≤ sm i F ∧ sm i F ≤ 7239 * (i : Int) := by
  intro i
  induction i with
  | zero => intro _; rw [dm]; omega
  | succ i ih => intro hi; rw [bG]; have := ih (by omega); have := hFi i (by omega); omega
 refine aE (args := [_, _, _]) Tryz.func12 rfl rfl ?_
 repeat' (first|refine aj rfl ?_|refine aa ?_|refine ak ?_|refine ai rfl ?_|refine ah ?_)
 refine au hS1 rfl ?_
 rintro v w1 ⟨gs, rfl, hs1, hgs, hE1⟩
 refine tvv ?_
 repeat' (first|refine aR rfl rfl ?_|refine aj rfl ?_|refine aa ?_|refine ak ?_|refine ai rfl ?_|refine ah ?_|refine ao rfl ?_|refine aC ?_)
 have hF1 := hFi (n - 1) (by omega)
 refine au (rA hs1 hn hF1) rfl ?_
 rintro v w2 ⟨rfl, rfl⟩
 refine tvv ?_
 repeat' (first|refine cW rfl rfl (by omega) ?_|refine aj rfl ?_|refine aa ?_|refine ak ?_|refine ai rfl ?_|refine ah ?_|refine bc rfl ?_|refine ao rfl ?_|refine ay ?_|refine aC ?_)
 refine aW (ι := Nat) [11, 13, 31, 32, 33, 34, 35, 36, 37, 38] (fun i => [(31, .int .i64 (i : Int)), (11, .int .i64 (sm i F))]) (fun i w' => i ≤ n ∧ w' = w2) (fun i => n - i) 0 ⟨rfl, rfl, trivial⟩ ⟨Nat.zero_le _, rfl⟩ ?_
 rintro i ξ w3 ⟨hi, rfl⟩
 show CW _ _ _ _ (over [(31, .int .i64 (i : Int)), (11, .int .i64 (sm i F))] _) w3
 rcases Nat.lt_or_ge i n with him | him
 ·have h1 := hsmF i hi
  have h2 := hFi i him
  repeat' (first|refine bq rfl rfl (by omega) ?_|refine az (j := i) (a := some ⟨gs, 0, none⟩) rfl rfl ⟨_, _, rfl⟩ (by omega) ?_|refine bu (j := i) (n := n) (f := F) (a := some ⟨gs, 0, none⟩) rfl hs1.sl him ?_|refine aV rfl rfl (by omega) (by omega) ?_|refine aj rfl ?_|refine aa ?_|refine ak ?_|refine ai rfl ?_|refine ah ?_|refine aA rfl ?_|refine ay ?_|refine aJ ?_|refine aC ?_)
  exact ⟨⟨i + 1, ⟨by omega, rfl⟩, by omega, rfl, rfl, trivial⟩, (by (repeat (first|exact aG _ _ _|refine aB rfl ?_|refine ax rfl ?_|refine av rfl ?_|refine aw rfl ?_)))⟩
 obtain rfl : n = i := by omega
 repeat' (first|refine bp rfl rfl (by omega) ?_|refine aj rfl ?_|refine aa ?_|refine ak ?_|refine ai rfl ?_|refine ah ?_|refine ao rfl ?_|refine aT ?_|refine aO ?_|refine aU ?_)
 refine au (pf (cap := cap) (hM.ext hE1) hR hm hB) rfl ?_
 rintro v w4 ⟨sd, S, rfl, hL, hE4⟩
 refine tvv ?_
 rw [hfo] at hL
 have hsl : sd.len = (foundL n H B).length := hL.1.1
 have hTs := TopG.sl hL.1
 have hsu := rv (cap := cap) (la := sd.a) (N := (foundL n H B).length) (cl := sd.cap) (sv := S) (V := foundV n H B) (q := fun i => fnz (foundV n H B i)) (hM.ext (hE1.trans hE4)) hR hm hcap hdet hTs
  (fun i hi => by
   obtain ⟨r1, vg, r2, r3, r4⟩ := hL.2 i hi
   obtain ⟨t1, t2⟩ := hW1.found_ok hi
   obtain ⟨u1, u2, u3⟩ := xO hn.2 t2
   exact ⟨r1, ⟨vg, 0, r2⟩, by rw [r2]; exact r4, t1, u1, u2, u3⟩) (by omega)
  (fun i j hi hj hij => by
   rw [lA, lA, si hm.1]
   exact sj hW1 hi hj hij)
 skip
 refine au hsu (by rw [hsl]; rfl) ?_
 rintro v w5 ⟨gr, p, sr, rfl, hp1, hp2, hb5, hr5, hE5⟩
 refine tvv ?_
 repeat' (first|refine aR rfl rfl ?_|refine aj rfl ?_|refine aa ?_|refine ak ?_|refine ai rfl ?_|refine ah ?_|refine aK ?_)
 refine eJ rfl (rt rfl) (rt rfl) (rt rfl) ⟨gr, p, sr, rfl, ⟨hp1, fun i j hij hj h => hp2 i j hij hj ?_⟩, hb5, hr5, hE1.trans (hE4.trans hE5)⟩
 ·rw [lA, lA, si hm.1]; exact h
theorem pi {n ca cb : Nat} {w : World} {a b : Option Addr} {f : Nat → Int} (ha : Sl w a (intC n f)) (hb : Sl w b (intC n f)) (hn : 1 ≤ n ∧ n ≤ 3) :
  CallsR Tryz.prog 36 #[.slice a n ca, .slice b n cb] w fun v w' => v = .int .i64 0 ∧ Ex w w' := by
 refine aE (args := [_, _]) Tryz.func36 rfl rfl ?_
 have hpa : W.plain a := ha.plain (by rw [bU]; omega)
 have hpb : W.plain b := hb.plain (by rw [bU]; omega)
 repeat' (first|refine aj rfl ?_|refine aa ?_|refine ak ?_|refine ai rfl ?_|refine ah ?_|refine ay ?_)
 refine aW (ι := Nat) [4, 5, 6, 7, 8, 9, 10, 11, 12, 13, 14, 15, 16, 17, 18, 19, 20, 21, 22, 23, 24, 25, 26, 27, 28, 29, 30, 31, 32, 33, 34, 35] (fun i => [(5, .int .i64 (i : Int))]) (fun i w' => i ≤ n ∧ Ex w w') (fun i => n - i) 0 ⟨rfl, trivial⟩ ⟨Nat.zero_le _, Ex.refl w⟩ ?_
 rintro i ξ w1 ⟨hi, hE1⟩
 show CW _ _ _ _ (over [(5, .int .i64 (i : Int))] _) w1
 rcases Nat.lt_or_ge i n with him | him
 ·have ha1 := ha.ext hE1
  have hb1 := hb.ext hE1
  repeat' (first|refine bq rfl rfl (show (i : Int) < (n : Int) by omega) ?_|refine aj rfl ?_|refine aa ?_|refine ak ?_|refine ai rfl ?_|refine ah ?_|refine bc rfl ?_|refine bJ rfl rfl ?_|refine aA rfl ?_|refine aC ?_)
  refine ay ?_
  repeat' (first|refine ak ?_)
  refine bn (late := []) (plan := [(0, none), (1, none), (2, none), (3, none), (4, none), (5, none), (6, none), (7, none), (8, none)]) (fun w' => Ex w1 w') bD (by kernel_rfl) (Ex.refl w1).drew ?_
  have hEd := (Ex.refl w1).drew
  repeat' (first|refine az (j := i) (a := a) rfl rfl hpa (by omega) ?_|refine bu (j := i) (n := n) (f := f) (a := a) rfl (fun _ h => ha1.ext h) him ?_|refine az (j := i) (a := b) rfl rfl hpb (by omega) ?_|refine bu (j := i) (n := n) (f := f) (a := b) rfl (fun _ h => hb1.ext h) him ?_|refine eI rfl rfl rfl ?_|refine aj rfl ?_|refine aa ?_|refine ai rfl ?_|refine ah ?_|refine aV rfl rfl (by omega) (by omega) ?_|refine ao rfl ?_|refine aJ ?_|refine aC ?_)
  exact ⟨⟨i + 1, ⟨him, hE1.trans hEd⟩, by omega, rfl, trivial⟩, (by (repeat (first|exact aG _ _ _|refine aB rfl ?_|refine ax rfl ?_|refine av rfl ?_|refine aw rfl ?_)))⟩
 obtain rfl : n = i := by omega
 repeat' (first|refine bp rfl rfl (by omega) ?_|refine cW rfl rfl (by omega) ?_|refine aj rfl ?_|refine aa ?_|refine ak ?_|refine ai rfl ?_|refine ah ?_|refine bc rfl ?_|refine bY rfl rfl ?_|refine ao rfl ?_|refine aT ?_|refine aO ?_|refine aU ?_|refine aK ?_|refine aC ?_)
 exact bo rfl (rt rfl) ⟨rfl, hE1⟩
theorem nk {N n ca cb ga gb : Nat} {w : World} {sa sb : Nat → SD} {R : Nat → Nat → Int} (ha : Blk w ga 58 (topC N sa)) (hb : Blk w gb 58 (topC N sb)) (hra : ∀ i, i < N → (sa i).len = n ∧ Sl w (sa i).a (intC n (R i))) (hrb : ∀ i, i < N → (sb i).len = n ∧ Sl w (sb i).a (intC n (R i))) (hn : 1 ≤ n ∧ n ≤ 3) (hN : N ≤ 10000) :
  CallsR Tryz.prog 13 #[.slice (some ⟨ga, 0, none⟩) N ca, .slice (some ⟨gb, 0, none⟩) N cb] w fun v w' => v = .bool true ∧ Ex w w' := by
 refine aE (args := [_, _]) Tryz.func13 rfl rfl ?_
 repeat' (first|refine eI rfl rfl rfl ?_|refine aj rfl ?_|refine aa ?_|refine ak ?_|refine ai rfl ?_|refine ah ?_|refine bc rfl ?_|refine ao rfl ?_|refine ay ?_|refine aC ?_)
 refine aW (ι := Nat) [4, 5, 13, 14, 15, 16, 17, 18, 19, 20, 21, 22, 23, 24, 25, 26] (fun i => [(13, .int .i64 (i : Int))]) (fun i w' => i ≤ N ∧ Ex w w') (fun i => N - i) 0 ⟨rfl, trivial⟩ ⟨Nat.zero_le _, Ex.refl w⟩ ?_
 rintro i ξ w1 ⟨hi, hE1⟩
 show CW _ _ _ _ (over [(13, .int .i64 (i : Int))] _) w1
 rcases Nat.lt_or_ge i N with him | him
 ·have ha1 := ha.ext hE1
  have hb1 := hb.ext hE1
  have hEd := (Ex.refl w1).drew
  obtain ⟨a1, a2⟩ := hra i him
  obtain ⟨b1, b2⟩ := hrb i him
  have ea : sa i = ⟨(sa i).a, n, (sa i).cap⟩ := by rw [← a1]
  have eb : sb i = ⟨(sb i).a, n, (sb i).cap⟩ := by rw [← b1]
  repeat' (first|refine bq rfl rfl (show (i : Int) < (N : Int) by omega) ?_|refine aa ?_|refine ak ?_|refine ai rfl ?_|refine ah ?_|refine aA rfl ?_|refine aC ?_)
  refine ay ?_
  repeat' (first|refine aj rfl ?_|refine aa ?_|refine ak ?_|refine ai rfl ?_|refine ah ?_)
  refine bn (late := [8]) (plan := [(0, none), (1, none), (2, none), (3, none), (4, none), (5, none), (6, none), (7, none), (8, some false), (9, none)]) (fun w' => Ex w1 w') bD (by kernel_rfl) hEd ?_
  repeat' (first|refine az (j := i) (a := some ⟨ga, 0, none⟩) rfl rfl ⟨_, _, rfl⟩ (by omega) ?_|refine aZ (j := i) (a := some ⟨ga, 0, none⟩) (n := N) (s := sa) rfl (fun _ h => (ha1.ext h).sl) him ea ?_|refine az (j := i) (a := some ⟨gb, 0, none⟩) rfl rfl ⟨_, _, rfl⟩ (by omega) ?_|refine aZ (j := i) (a := some ⟨gb, 0, none⟩) (n := N) (s := sb) rfl (fun _ h => (hb1.ext h).sl) him eb ?_|refine aj rfl ?_)
  refine au (pi (a2.ext (hE1.trans hEd)) (b2.ext (hE1.trans hEd)) hn) rfl ?_
  rintro v w2 ⟨rfl, hE2⟩
  refine ⟨fun _ h => h.trans hE2, ?_⟩
  repeat' (first|refine aj rfl ?_|refine aa ?_|refine ai rfl ?_|refine ah ?_|refine aV rfl rfl (by omega) (by omega) ?_|refine ao rfl ?_|refine aJ ?_|refine aC ?_)
  exact ⟨⟨i + 1, ⟨him, hE1.trans (hEd.trans hE2)⟩, by omega, rfl, trivial⟩, (by (repeat (first|exact aG _ _ _|refine aB rfl ?_|refine ax rfl ?_|refine av rfl ?_|refine aw rfl ?_)))⟩
 obtain rfl : N = i := by omega
 repeat' (first|refine bp rfl rfl (by omega) ?_|refine aj rfl ?_|refine aa ?_|refine ak ?_|refine ai rfl ?_|refine ah ?_|refine ao rfl ?_|refine aT ?_|refine aO ?_|refine aU ?_|refine aK ?_)
 exact bo rfl (rt rfl) ⟨rfl, hE1⟩
open Go.W Go.LM Go.LA Go.PM
theorem nl {d k : Int} (hd : 0 ≤ d ∧ d ≤ 255) (hk : 0 ≤ k ∧ k ≤ 255) {L : List Int} {la : Option Addr} {w : World} (hL : Sl w la (int8L L)) (hI : I8 L) (lc : Nat) (lb : Option Addr) (mb lc' : Nat) {c b : Int} (hc : 0 ≤ c ∧ c ≤ 255) (hb : 0 ≤ b ∧ b ≤ 255) :
  CallsR Tryz.prog 3 #[.agg (latL d k la L.length lc lb mb lc').toArray, .int .u8 c, .int .u8 b] w fun v w' => v = .bool true ∧ Ex w w' := by
 refine aE (args := [_, _, _]) Tryz.func3 rfl rfl ?_
 refine ak ?_
 refine ai rfl ?_
 refine bC (vs := latL d k la L.length lc lb mb lc') rfl (fun g1 w1 hn1 => tvv ?_)
 have hb1 := hn1.blk
 have hE1 := hn1.ex
 obtain ⟨m, hm⟩ : ∃ m : Int, 1 + c % 4 = m := ⟨_, rfl⟩
 obtain ⟨B, hB⟩ : ∃ B : Int, b % 6 = B := ⟨_, rfl⟩
 have hm4 : 1 ≤ m ∧ m ≤ 4 := by omega
 have hB5 : 0 ≤ B ∧ B ≤ 5 := by omega
 have hf1 := oL (la := la) (lb := lb) (lc := lc) (m := mb) (lc' := lc') (w := w1) (hL.ext hE1) hI hd hk
 obtain ⟨n, hn⟩ : ∃ n : Nat, ldim d = n := ⟨_, rfl⟩
 rw [hn] at hf1
 repeat' (first|refine aY (cs := latL d k la L.length lc lb mb lc') (g := g1) rfl hb1 rfl ?_|refine aj rfl ?_|refine aa ?_|refine ak ?_|refine ai rfl ?_|refine ah ?_)
 refine au hf1 rfl ?_
 rintro v w2 ⟨g, gs, H, rfl, hO2, hR, hE2⟩
 refine tvv ?_
 have hn3 := hR.hn
 have hM2 : MI w2 (some ⟨g, 0, none⟩) n n _ H := hO2.fits (b := 7000) (by decide) hR.ent
 have hP : PosM n H := ⟨fun i j hi hj => by first|exact hR.sym i j hj hi|exact hR.sym j i hi hj|exact hR.sym i j hi hj|exact hR.sym _ _ (by omega) (by omega), fun i hi => hR.pos (i + 1) (by omega)⟩
 have hdet := hR.dlt hm4 (Nat.le_refl n)
 have hdet0 := hR.dpos hm4 (Nat.le_refl n)
 have hdH : det n (scM 1 H) ≤ 10000 := by
  rw [ly]
  have h1 := hR.b1
  have h2 := hR.b2
  have h3 := hR.b3
  have : n = 1 ∨ n = 2 ∨ n = 3 := by omega
  rcases this with rfl | rfl | rfl
  ·omega
  ·have := h2 (by omega); omega
  ·have := h3 (by omega); omega
 repeat' (first|refine cF rfl (cK (by omega) (by omega)) ?_|refine jC rfl rfl (by omega) (by omega) ?_|refine aV rfl rfl (by omega) (by omega) ?_|refine aj rfl ?_|refine aa ?_|refine ak ?_|refine ai rfl ?_|refine ah ?_)
 rw [hm]
 refine au (jw hM2 (by omega) (by omega)) rfl ?_
 rintro v w3 ⟨g3, gs3, cp3, rfl, hO3, hE3⟩
 refine tvv ?_
 repeat' (first|refine aj rfl ?_)
 refine au (bV (z := m) (by omega) (by omega) _) rfl ?_
 rintro v w4 ⟨hI4, hE4⟩
 refine tvv ?_
 obtain ⟨u4, rfl⟩ := hI4.ih
 skip
 have hO4 := hO3.ext hE4
 refine au (qZ (K := 2) (K' := 2) (p := 1) hO4.mx (by omega) (fun i j hi hj => bO (by have := hR.ent i j hi hj; omega) (by decide)) hP (by decide) (hI4.k (k := 1) (by rw [Nat.pow_one]; omega)) (by omega) (by decide) (fun i j hi hj => by
  have h1 : (m * H i j).natAbs ≤ 28000 := hR.entk hm4 hi hj
  exact Nat.lt_of_le_of_lt h1 (by decide +kernel))) rfl ?_
 rintro v w5 ⟨t5, rfl, g5, gs5, cp5, rfl, hO5, hE5⟩
 refine tvv ?_
 have hO5 : MO true 2 w5 w4.heap.size g5 n n gs5 cp5 (scM m H) := hO5
 have hent : ∀ i j, i < n → j < n → (scM m H i j).natAbs ≤ 28000 := fun i j hi hj => hR.entk hm4 hi hj
 repeat' (first|refine aR rfl rfl ?_|refine aj rfl ?_|refine aa ?_|refine ak ?_|refine ai rfl ?_|refine ah ?_)
 refine au (iO hO5.mx (by omega) (by omega) (fun i j hi hj => by have := hent i j hi hj; omega)) rfl ?_
 rintro v w6 ⟨g6, gs6, rfl, hO6, hE6⟩
 refine tvv ?_
 have hM6 : MI w6 (some ⟨g6, 0, none⟩) n n _ (scM m H) := hO6.fits (b := 28000) (by decide) hent
 repeat' (first|refine aR rfl rfl ?_|refine aj rfl ?_|refine aa ?_|refine ak ?_|refine ai rfl ?_|refine ah ?_|refine bJ rfl rfl ?_|refine ao rfl ?_|refine aC ?_)
 refine au (cZ (hO5.ext hE6).mx (by omega) (by decide)) rfl ?_
 rintro v w7 ⟨hI7, hE7⟩
 refine tvv ?_
 obtain ⟨u7, rfl⟩ := hI7.ih
 skip
 refine au (iN hI7.k (by omega)) rfl ?_
 rintro v w8 ⟨rfl, hE8⟩
 refine tvv ?_
 have hE68 := hE7.trans hE8
 have hM8 := hM6.ext hE68
 repeat' (first|refine aR rfl rfl ?_|refine aj rfl ?_|refine aa ?_|refine ak ?_|refine ai rfl ?_|refine ah ?_)
 refine au (fM (cap := n) hM8 hR hm4 (Nat.le_refl n)) rfl ?_
 rintro v w9 ⟨rfl, hE9⟩
 refine tvv ?_
 have hE29 : Ex w2 w9 := hE3.trans (hE4.trans (hE5.trans (hE6.trans (hE68.trans hE9))))
 have hE19 : Ex w w9 := hE1.trans (hE2.trans hE29)
 by_cases hdm : det n (scM m H) ≤ 10000
 ·rw [decide_eq_true hdm]
  repeat' (first|refine cF rfl (cK (by omega) (by omega)) ?_|refine jC rfl rfl (by omega) (by omega) ?_|refine aj rfl ?_|refine aa ?_|refine ak ?_|refine ai rfl ?_|refine ah ?_|refine ao rfl ?_|refine aC ?_)
  rw [hB]
  have hv1 := jY (cap := n) (m := 1) (B := B) (s := fun i => ⟨some ⟨gs i, 0, none⟩, n, n⟩) (w := w9) (g := g) (o := 0) (by rw [ly]; exact hM2.ext hE29) hR (by omega) hB5 (Nat.le_refl n) hdH
  rw [Int.one_mul] at hv1
  refine au hv1 rfl ?_
  rintro v w10 ⟨ga, pa, sa, rfl, hpa, hba, hra, hE10⟩
  refine tvv ?_
  have hv2 := jY (cap := n) (B := B) (hM8.ext (hE9.trans hE10)) hR hm4 hB5 (Nat.le_refl n) hdm
  rw [Int.mul_comm] at hv2
  have hBm : 0 ≤ B * m ∧ B * m ≤ 20 := by
   have : m = 1 ∨ m = 2 ∨ m = 3 ∨ m = 4 := by omega
   rcases this with rfl | rfl | rfl | rfl <;> omega
  repeat' (first|refine aR rfl rfl ?_|refine cP rfl rfl (by omega) (by omega) ?_|refine aj rfl ?_|refine aa ?_|refine ak ?_|refine ai rfl ?_|refine ah ?_)
  refine au hv2 rfl ?_
  rintro v w11 ⟨gb, pb, sb, rfl, hpb, hbb, hrb, hE11⟩
  refine tvv ?_
  have hW : Wk n H B := by
   have := hR.wk (m := 1) (by omega) hB5
   rwa [ly, Int.one_mul] at this
  have hge := wK hW
  have hlen := hW.found_len
  repeat' (first|refine aR rfl rfl ?_|refine eV rfl rfl rfl ?_|refine iL rfl rfl (by omega) ?_|refine aj rfl ?_|refine aa ?_|refine ak ?_|refine ai rfl ?_|refine ah ?_|refine bc rfl ?_|refine bJ rfl rfl ?_)
  refine au (nk (R := fun i => canV (fnz (foundV n H B (pa i))) (foundV n H B (pa i))) (n := n) (hba.ext hE11) hbb (fun i hi => ⟨(hra i hi).1, (hra i hi).2.ext hE11⟩) (fun i hi => ⟨(hrb i hi).1, by rw [hpa.unique hW hpb hi]; exact (hrb i hi).2⟩) hn3 (by omega)) rfl ?_
  rintro v w12 ⟨rfl, hE12⟩
  refine tvv ?_
  repeat' (first|refine fz rfl rfl hdm ?_|refine aj rfl ?_|refine aa ?_|refine ah ?_|refine bJ rfl rfl ?_|refine aK ?_)
  exact bo rfl (rt rfl) ⟨rfl, hE19.trans (hE10.trans (hE11.trans hE12))⟩
 ·rw [decide_eq_false hdm]
  repeat' (first|refine jp rfl rfl (by omega) ?_|refine aj rfl ?_|refine aa ?_|refine ak ?_|refine ai rfl ?_|refine ah ?_|refine aA rfl ?_|refine aK ?_|refine bf ?_)
  exact bo rfl (rt rfl) ⟨rfl, hE19⟩
end Go.Proofs.YtpfhfldehaiokaaGreat
