import Derived.Shelf.SlSortCmp.NoneTotal
import Derived.Test.YtpfhfldehaiokaaGreatA37
set_option maxHeartbeats 32000000
namespace Go.W
abbrev KV := Int × SD
def kvC (x : KV) : List Value := [.int .i64 x.1, x.2.val]
def kyC (n : Nat) (kv : Nat → KV) : List Value := (List.range n).flatMap fun i => kvC (kv i)
theorem iS (n : Nat) (h : Nat → KV) : kyC (n + 1) h = kyC n h ++ kvC (h n) := by
 unfold kyC; rw [List.range_succ, List.flatMap_append]; simp
theorem ja : ∀ (n : Nat) (h : Nat → KV), (kyC n h).length = n * 2
 | 0, _ => rfl
 | n + 1, h => by rw [iS, List.length_append, ja n h]; simp [kvC]; omega
theorem tq {n : Nat} {h h' : Nat → KV} (e : ∀ i, i < n → h i = h' i) : kyC n h = kyC n h' := by
 induction n with
 | zero => rfl
 | succ n ih => rw [iS, iS, ih (fun i hi => e i (by omega)), e n (by omega)]
theorem oZ : ∀ {n : Nat} {h : Nat → KV} {i : Nat}, i < n → (kyC n h)[i * 2]? = some (.int .i64 (h i).1) ∧ (kyC n h)[i * 2 + 1]? = some (h i).2.val
 | n + 1, h, i, hi => by
  have hl := ja n h
  rw [iS]
  by_cases hn : i < n
  ·rw [List.getElem?_append_left (by omega), List.getElem?_append_left (by omega)]
   exact oZ hn
  ·obtain rfl : i = n := by omega
   rw [List.getElem?_append_right (by omega), List.getElem?_append_right (by omega), hl]
   simp [kvC]
theorem wC {k : Nat} {h : Nat → KV} {u : KV} : kyC k h ++ kvC u = kyC (k + 1) (setF h k u) := by
 rw [iS, aI, tq (h' := setF h k u) fun i hi => (aN _ _ (by omega)).symm]
theorem vA {n : Nat} {h : Nat → KV} {t : Nat} (ht : t < n * 2) : (kyC n h).getD t undef = (kvC (h (t / 2)))[t % 2]! := by
 have h1 : t / 2 < n := by omega
 obtain ⟨a, b⟩ := oZ (h := h) h1
 rcases Nat.mod_two_eq_zero_or_one t with e | e
 ·rw [show t / 2 * 2 = t by omega] at a
  rw [List.getD_eq_getElem?_getD, a, e]; rfl
 ·rw [show t / 2 * 2 + 1 = t by omega] at b
  rw [List.getD_eq_getElem?_getD, b, e]; rfl
theorem nj (d : Array Nat) {N : Nat} (h : d.size = N) : (List.range N).map (fun i => d[i]!) = d.toList := by
 apply List.ext_getElem?
 intro i
 rw [List.getElem?_map]
 by_cases hi : i < N
 ·rw [List.getElem?_range hi, Array.getElem?_toList, Array.getElem?_eq_getElem (by omega)]
  simp [getElem!_pos d i (by omega)]
 ·rw [List.getElem?_eq_none (by simpa using hi), List.getElem?_eq_none (by simp; omega)]; rfl
end Go.W
namespace Go.Proofs.YtpfhfldehaiokaaGreat
open Go.W Go.LM Go.LA Go.Sort Go.Shelf
theorem kO {enc : Nat → List Value} {k : Nat} {w : World} {g n : Nat} {d' : Array Nat} {os : Array Obj} : Fr (fun q => q = g) w (sortWorldK enc k w g 0 n d' os) := by
 refine ⟨rfl, rfl, rfl, by simp [sortWorldK, grow, size_putRowK, Sort.ahead], fun q hq hn => ?_⟩
 show ((putRowK enc k (Sort.ahead w n) g 0 d').heap ++ os)[q]? = _
 rw [Array.getElem?_append_left (by rw [size_putRowK]; exact hq)]
 show (w.heap.modify g _)[q]? = _
 rw [Array.getElem?_modify, if_neg (fun e => hn e.symm)]
theorem rq {enc : Nat → List Value} {k : Nat} {w : World} {g n : Nat} {d d' : Array Nat} {os : Array Obj} (hH : HoldsK enc k w g 0 d) (hs : d'.size = d.size) (hg : g < w.heap.size) {t : Nat} (ht : t < d'.size * k) : (sortWorldK enc k w g 0 n d' os).cell? ⟨g, t, none⟩ = some ((enc d'[t / k]!)[t % k]!) := by
 have hA : HoldsK enc k (Sort.ahead w n) g 0 d := hH
 have h1 := (holdsK_putRowK enc k (Sort.ahead w n) g 0 d d' hA hs t (by rw [size_flatK]; exact ht)).1
 rw [Nat.zero_add, get_flatK _ _ _ _ ht] at h1
 rw [show id ((enc d'[t / k]!)[t % k]!) = (enc d'[t / k]!)[t % k]! from rfl] at h1
 rw [← h1]
 refine World.cell?_of_block (w := putRowK enc k (Sort.ahead w n) g 0 d') (a := ⟨g, t, none⟩) ?_
 show ((putRowK enc k (Sort.ahead w n) g 0 d').heap ++ os)[g]? = _
 rw [Array.getElem?_append_left (by rw [size_putRowK]; exact hg)]
theorem tt {m j : Nat} (h : j < m) : (Array.range m)[j]! = j := by simp [h]
theorem rr {w : World} {lo gL cap N n : Nat} {kv : Nat → KV} {F : Nat → Nat → Int} (hO : Own w lo 102 2 (some ⟨gL, 0, none⟩) N cap (kyC N kv)) (hN : 0 < N) (hrow : ∀ i, i < N → (kv i).2.len = n ∧ Sl w (kv i).2.a (intC n (F i)) ∧ ∀ ad, (kv i).2.a = some ad → ad.block ≠ gL)
  (hn : n ≤ 1000) (hm : N ≤ 100000) :
  CallsR Tryz.prog 109 #[.slice (some ⟨gL, 0, none⟩) N cap, .func (.func 61) #[] #[]] w fun v w' => v = .tuple #[] ∧ ∃ p : Nat → Nat,
   ((List.range N).map p).Perm (List.range N) ∧ (∀ i j, i < j → j < N → ¬ cmpK n (kv (p j)).1 (F (p j)) (kv (p i)).1 (F (p i)) < 0) ∧ Sl w' (some ⟨gL, 0, none⟩) (kyC N fun i => kv (p i)) ∧ Fr (fun q => q = gL) w w' := by
 have hlt := hO.lo _ rfl
 simp only at hlt
 have hcur : ∃ cur, w.heap[gL]? = some (.cells cur 102 (0, 0)) := by
  rcases hO.2 with ⟨hv', _⟩ | ⟨g', c, cur, hv', _, hb, _⟩
  ·cases hv'
  ·simp only [Value.slice.injEq, Option.some.injEq, Addr.mk.injEq] at hv'
   obtain ⟨⟨rfl, _⟩, _⟩ := hv'
   exact ⟨cur, hb⟩
 obtain ⟨cur, hcur⟩ := hcur
 generalize hc : (fun i => if i < N then i else 0 : Nat → Nat) = c
 have hcv : ∀ i, c i < N := fun i => by rw [← hc]; simp only; split <;> omega
 have hci : ∀ i, i < N → c i = i := fun i hi => by rw [← hc]; exact if_pos hi
 generalize henc : (fun i => kvC (kv (c i)) : Nat → List Value) = enc
 have hencv : ∀ i, enc i = kvC (kv (c i)) := fun i => by rw [← henc]
 generalize hcf : (fun i j => cmpK n (kv (c i)).1 (F (c i)) (kv (c j)).1 (F (c j)) : Nat → Nat → Int) = cf
 have hcfv : ∀ i j, cf i j = cmpK n (kv (c i)).1 (F (c i)) (kv (c j)).1 (F (c j)) := fun i j => by rw [← hcf]
 have hltv : ∀ i j, ltOf cf i j = decide (cmpK n (kv (c i)).1 (F (c i)) (kv (c j)).1 (F (c j)) < 0) := fun i j => by unfold ltOf; rw [hcfv]
 have hself : ∀ k f, cmpK n k f k f = 0 := fun k f => by have := mX n k f k f; omega
 have hswo : SWO (ltOf cf) := by
  refine ⟨fun x => ?_, fun x y z h1 h2 => ?_, fun x y z h1 h2 => ?_⟩
  ·rw [hltv, hself]; rfl
  ·rw [hltv, decide_eq_true_eq] at *; exact mY h1 h2
  ·rw [hltv, decide_eq_false_iff_not] at *; exact vy h1 h2
 have hds : (Array.range N).size = N := by simp
 have hH : HoldsK enc 2 w gL 0 (Array.range N) := fun t ht => by
  rw [size_flatK, hds] at ht
  rw [get_flatK _ _ _ _ (by rw [hds]; exact ht), tt (by omega), hencv, hci _ (by omega)]
  refine ⟨?_, ?_⟩
  ·have := hO.sl.get t (by rw [ja]; exact ht)
   rw [vA ht] at this
   exact this
  ·simp [World.frozen?, hcur]
 have hcmp : CmpLays Tryz.prog 61 #[] enc 2 cf gL 0 (Array.range N).size w := by
  intro m os dk hdk x y
  have hfr : Fr (fun q => q = gL) w (sortWorldK enc 2 w gL 0 m dk os) := kO
  have hS : ∀ i, Sl (sortWorldK enc 2 w gL 0 m dk os) (kv (c i)).2.a (intC n (F (c i))) ∧ (kv (c i)).2.len = n := fun i => by
   obtain ⟨h1, h2, h3⟩ := hrow (c i) (hcv i)
   exact ⟨h2.fr hfr h3, h1⟩
  have hcc := n7 (c := (kv (c x)).2.cap) (d := (kv (c y)).2.cap) (k1 := (kv (c x)).1) (k2 := (kv (c y)).1) (hS x).1 (hS y).1 hn
  rw [hencv, hencv, hcfv]
  unfold kvC SD.val
  rw [(hS x).2, (hS y).2]
  refine Calls.mono hcc fun e w' ⟨v, he, hv, hw⟩ => ?_
  subst hv
  exact ⟨he, hw⟩
 have eg : ∀ args w, (callFunc 61 args).run Tryz.prog w = .ok (.enter 61 args) w := fun args w => fg args
 have hcon := AnyQ.slices_SortFunc Tryz.sortK 2 Tryz.isAgg102 Tryz.sizeOf102 enc (fun i => by rw [hencv]; rfl) (fun i v hv => by
  rw [hencv] at hv
  simp only [kvC, List.mem_cons, List.not_mem_nil, or_false] at hv
  rcases hv with rfl | rfl <;> rfl) cf hswo 61 #[] gL 0 cap (Array.range N) w eg hcmp hH hlt.2 (by rw [hds]; omega)
 rw [hds] at hcon
 change Calls Tryz.prog 109 _ _ _ at hcon
 refine Calls.mono hcon fun e w' ⟨he, d', k, os, hp, hs, hw⟩ => ⟨_, he, rfl, ?_⟩
 obtain ⟨hsz, _, hpm⟩ := hp
 rw [hds] at hsz
 have hx1 : d'.extract 0 N = d' := by rw [← hsz, Array.extract_size]
 have hx2 : (Array.range N).extract 0 N = Array.range N := by
  have h := Array.extract_size (xs := Array.range N)
  rwa [hds] at h
 rw [hx1, hx2, Array.toList_range] at hpm
 have hget : ∀ j, j < N → d'.toList[j]? = some d'[j]! := fun j hj => by
  rw [Array.getElem?_toList, getElem!_pos d' j (by omega), Array.getElem?_eq_getElem (by omega)]
 have hltN : ∀ j, j < N → d'[j]! < N := fun j hj => by
  have : d'[j]! ∈ d'.toList := List.mem_of_getElem? (hget j hj)
  exact List.mem_range.1 (hpm.mem_iff.1 this)
 subst hw
 refine ⟨fun i => d'[i]!, by rw [nj d' hsz]; exact hpm, fun i j hij hj => ?_, ⟨fun _ => ⟨_, _, rfl⟩, fun t ht => ?_⟩, kO⟩
 ·have := hs i j (Nat.zero_le _) hij hj
  rw [hltv, decide_eq_false_iff_not, hci _ (hltN j hj), hci _ (hltN i (by omega))] at this
  exact this
 ·rw [ja] at ht
  have := rq (n := k) (d' := d') (os := os) hH (by rw [hds]; exact hsz) hlt.2 (t := t) (by rw [hsz]; exact ht)
  simp only [elt, Nat.zero_add]
  rw [this, hencv, hci _ (hltN _ (by omega)), vA ht]
end Go.Proofs.YtpfhfldehaiokaaGreat
namespace Go.W
section
variable {P : Program} {S : World → Prop} {ops : List Oper} {K : Env → World → Prop} {rest : List (Oper × Option Bool)} {ρ : Env} {w : World} {b : Option Bool} {d : Nat} {T : TypeId} {pos : String} {af : Array Edge}
theorem m3 {x : Operand} {T1 : TypeId} {a : Option Addr} {j n : Nat} {kv : Nat → KV} [Agg P T1 2] (hx : ev ρ x = .pointer (some (elt a (j * 2)))) (hs : Rd b S w fun w' => Sl w' a (kyC n kv)) (hp : W.plain a) (hj : j < n)
  (h : RR P S ops K rest (upd ρ d (.agg (kvC (kv j)).toArray)) w) : RR P S ops K ((⟨some d, .load T1 x, T, pos, af, none⟩, b) :: rest) ρ w := by
 obtain ⟨g, o, rfl⟩ := hp
 refine kW (g := g) (o := o + j * 2) (vs := kvC (kv j)) (by rw [hx]; rfl) rfl (hs.imp fun w' hs => ?_) h
 intro i hi
 have hl := ja n kv
 obtain ⟨e1, e2⟩ := oZ (h := kv) hj
 have h2 : i = 0 ∨ i = 1 := by simp [kvC] at hi; omega
 have hg := hs.get (j * 2 + i) (by rw [hl]; simp [kvC] at hi; omega)
 simp only [elt] at hg
 rw [show o + j * 2 + i = o + (j * 2 + i) by omega, hg]
 rcases h2 with rfl | rfl
 ·rw [Nat.add_zero, List.getD_eq_getElem?_getD, e1]; rfl
 ·rw [List.getD_eq_getElem?_getD, e2]; rfl
end
end Go.W
namespace Go.Proofs.YtpfhfldehaiokaaGreat
open Go.W Go.LM Go.LA
theorem wD {w w' : World} (h : ∃ q os, w' = Go.Sort.grow (w.drewN q) os) : Ex w w' := by
 obtain ⟨q, os, rfl⟩ := h
 refine ⟨rfl, rfl, rfl, by simp [Go.Sort.grow, World.drewN], fun k hk => ?_⟩
 show (w.heap ++ os)[k]? = _
 rw [Array.getElem?_append_left hk]
theorem qm {n gs gb : Nat} {x y : KV} {f g : Nat → Int} {ls : Value} {w : World} (hA : x.2.len = n ∧ Sl w x.2.a (intC n f)) (hB : y.2.len = n ∧ Sl w y.2.a (intC n g)) (hn : n ≤ 1000)
  (hb : Blk w gb 149 [.pointer (some ⟨gs, 0, none⟩)]) (hs : Blk w gs 95 [ls, .func (.func 61) #[] #[]]) :
  CallsR Tryz.prog 111 (#[] ++ #[.agg (kvC x).toArray, .agg (kvC y).toArray] ++ #[.pointer (some ⟨gb, 0, none⟩)]) w fun v w' => v = .bool (decide (cmpK n x.1 f y.1 g = 0)) ∧ Ex w w' := by
 refine aE (args := [_, _, _]) Tryz.func111 rfl rfl ?_
 repeat' (first|refine ak ?_|refine ai rfl ?_)
 refine bC rfl (fun g3 w1 hn1 => tvv ?_)
 refine bC rfl (fun g4 w2 hn2 => tvv ?_)
 repeat' (first|refine aj rfl ?_|refine aa ?_|refine ak ?_|refine ah ?_)
 have hE2 := hn1.ex.trans hn2.ex
 have hEd := hE2.drew
 refine bn (late := []) (plan := [(0, none), (1, none), (2, none), (3, none), (4, none), (5, none), (6, some true), (7, none), (8, none)]) (fun w' => Ex w2 w') bD (by kernel_rfl) (Ex.refl w2).drew ?_
 repeat' (first|refine aP (g := gb) rfl (fun _ h => (hb.ext hE2).ext h) rfl ?_|refine bZ rfl ?_|refine aP (g := gs) rfl (fun _ h => (hs.ext hE2).ext h) rfl ?_|refine aY (n := 2) (g := g3) rfl (fun _ h => (hn1.blk.ext hn2.ex).ext h) rfl ?_|refine aY (n := 2) (g := g4) rfl (fun _ h => hn2.blk.ext h) rfl ?_|refine aM rfl ?_)
 have hc := n7 (n := n) (c := x.2.cap) (d := y.2.cap) (k1 := x.1) (k2 := y.1) (hA.2.ext hEd) (hB.2.ext hEd) hn
 refine fh rfl hc (by
  show #[Value.agg #[.int .i64 x.1, .slice x.2.a x.2.len x.2.cap], Value.agg #[.int .i64 y.1, .slice y.2.a y.2.len y.2.cap]] = _
  rw [hA.1, hB.1]) ?_
 rintro v w4 ⟨rfl, hw4⟩
 have hE4 := wD hw4
 refine ⟨fun _ h => h.trans hE4, ?_⟩
 by_cases h0 : cmpK n x.1 f y.1 g = 0
 ·repeat' (first|refine eV rfl rfl h0 ?_|refine aj rfl ?_|refine aa ?_|refine ah ?_|refine aK ?_)
  exact bo rfl (rt rfl) ⟨congrArg Value.bool (decide_eq_true h0).symm, hEd.trans hE4⟩
 ·repeat' (first|refine eH rfl rfl h0 ?_|refine aj rfl ?_|refine aa ?_|refine ah ?_|refine aK ?_)
  exact bo rfl (rt rfl) ⟨congrArg Value.bool (decide_eq_false h0).symm, hEd.trans hE4⟩
theorem pc {n gs gb gL N cap : Nat} {kv : Nat → KV} {F : Nat → Nat → Int} {ls : Value} {w : World} (hL : Sl w (some ⟨gL, 0, none⟩) (kyC N kv)) (hrow : ∀ i, i < N → (kv i).2.len = n ∧ Sl w (kv i).2.a (intC n (F i))) (hn : n ≤ 1000) (hN : 0 < N ∧ N ≤ 100000)
  (hb : Blk w gb 149 [.pointer (some ⟨gs, 0, none⟩)]) (hs : Blk w gs 95 [ls, .func (.func 61) #[] #[]])
  (hd : ∀ i, i + 1 < N → cmpK n (kv (i + 1)).1 (F (i + 1)) (kv i).1 (F i) ≠ 0) :
  CallsR Tryz.prog 110 #[.slice (some ⟨gL, 0, none⟩) N cap, .func (.func 111) #[] #[.pointer (some ⟨gb, 0, none⟩)]] w fun v w' => v = .slice (some ⟨gL, 0, none⟩) N cap ∧ Ex w w' := by
 refine aE (args := [_, _]) Tryz.func110 rfl rfl ?_
 by_cases h1 : N < 2
 ·repeat' (first|refine bq rfl rfl (by omega) ?_|refine aj rfl ?_|refine aa ?_|refine ak ?_|refine ai rfl ?_|refine ah ?_|refine bc rfl ?_|refine aA rfl ?_|refine aK ?_|refine bf ?_)
  exact bo rfl (rt rfl) ⟨rfl, Ex.refl _⟩
 repeat' (first|refine bp rfl rfl (by omega) ?_|refine aj rfl ?_|refine aa ?_|refine ak ?_|refine ai rfl ?_|refine ah ?_|refine bc rfl ?_|refine ao rfl ?_|refine ay ?_|refine aC ?_)
 refine aW (ι := Nat) [4, 5, 6, 7, 12, 13, 14, 15, 16, 17, 18, 19, 20, 21, 22, 23, 24, 25, 26, 27, 28, 29, 30, 31, 32, 33, 34, 35, 36, 37, 38, 39, 40, 41, 42, 43, 44, 45, 46, 47, 48, 49, 50, 51, 52, 53, 54, 55, 56, 57, 58, 59, 60, 61, 62, 63, 64] (fun i => [(5, .int .i64 (i : Int))])
  (fun i w' => (1 ≤ i ∧ i ≤ N) ∧ Ex w w') (fun i => N - i) 1 ⟨rfl, trivial⟩ ⟨by omega, Ex.refl _⟩ ?_
 rintro i ξ w2 ⟨⟨hi1, hi⟩, hE2⟩
 show CW _ _ _ _ (over [(5, .int .i64 (i : Int))] _) w2
 rcases Nat.lt_or_ge i N with hiN | hiN
 ·obtain ⟨j, rfl⟩ : ∃ j, i = j + 1 := ⟨i - 1, by omega⟩
  have ej : (((j + 1 : Nat) : Int) - 1) = (j : Int) := by omega
  have hEd := (Ex.refl w2).drew
  have hE3 := hE2.trans hEd
  repeat' (first|refine bq rfl rfl (by omega) ?_|refine aj rfl ?_|refine aa ?_|refine ak ?_|refine ai rfl ?_|refine ah ?_|refine bc rfl ?_|refine aA rfl ?_|refine aC ?_)
  refine ay ?_
  repeat' (first|refine ak ?_)
  refine bn (late := [10]) (plan := [(0, none), (1, none), (2, none), (3, none), (4, none), (5, none), (6, none), (7, none), (8, none), (9, none), (10, some false)]) (fun w' => Ex w2 w') bD (by kernel_rfl) hEd ?_
  repeat' (first|refine bE (j := j + 1) (a := some ⟨gL, 0, none⟩) rfl rfl ⟨_, _, rfl⟩ (by omega) ?_|refine m3 (j := j + 1) (n := N) (kv := kv) (a := some ⟨gL, 0, none⟩) rfl (fun _ h => (hL.ext hE2).ext h) ⟨_, _, rfl⟩ (by omega) ?_|refine bE (j := j) (a := some ⟨gL, 0, none⟩) rfl (congrArg (Value.int .i64) ej) ⟨_, _, rfl⟩ (by omega) ?_|refine m3 (j := j) (n := N) (kv := kv) (a := some ⟨gL, 0, none⟩) rfl (fun _ h => (hL.ext hE2).ext h) ⟨_, _, rfl⟩ (by omega) ?_|refine aj rfl ?_|refine bK rfl rfl (by omega) (by omega) ?_)
  have ha := hrow (j + 1) hiN
  have hb' := hrow j (by omega)
  refine fh rfl (qm (x := kv (j + 1)) (y := kv j) (f := F (j + 1)) (g := F j) ⟨ha.1, ha.2.ext hE3⟩ ⟨hb'.1, hb'.2.ext hE3⟩ hn (hb.ext hE3) (hs.ext hE3)) rfl ?_
  rintro v w4 ⟨rfl, hE4⟩
  refine ⟨fun h => (nomatch h), ?_⟩
  rw [decide_eq_false (hd j hiN)]
  repeat' (first|refine aj rfl ?_|refine aa ?_|refine ai rfl ?_|refine ah ?_|refine aV rfl rfl (by omega) (by omega) ?_|refine ao rfl ?_|refine aJ ?_|refine aC ?_)
  exact ⟨⟨j + 1 + 1, ⟨⟨by omega, by omega⟩, hE3.trans hE4⟩, by omega, rfl, trivial⟩, (by (repeat (first|exact aG _ _ _|refine aB rfl ?_|refine ax rfl ?_|refine av rfl ?_|refine aw rfl ?_)))⟩
 ·obtain rfl : i = N := by omega
  repeat' (first|refine bp rfl rfl (by omega) ?_|refine aj rfl ?_|refine aa ?_|refine ak ?_|refine ai rfl ?_|refine ah ?_|refine bc rfl ?_|refine ao rfl ?_|refine aT ?_|refine aO ?_|refine aU ?_|refine aK ?_)
  exact bo rfl (rt rfl) ⟨rfl, hE2⟩
def SortedL (w : World) (gs N n : Nat) (gL : Nat) (cap : Nat) (kv : Nat → KV) (F : Nat → Nat → Int) (w' : World) : Prop :=
 ∃ p : Nat → Nat, ((List.range N).map p).Perm (List.range N) ∧ (∀ i j, i < j → j < N → ¬ cmpK n (kv (p j)).1 (F (p j)) (kv (p i)).1 (F (p i)) < 0) ∧ Sl w' (some ⟨gL, 0, none⟩) (kyC N fun i => kv (p i)) ∧
  Blk w' gs 95 [.slice (some ⟨gL, 0, none⟩) N cap, .func (.func 61) #[] #[]] ∧ Fr (fun q => q = gL ∨ q = gs) w w'
theorem gv {N : Nat} {p : Nat → Nat} (h : ((List.range N).map p).Perm (List.range N)) {i : Nat} (hi : i < N) : p i < N :=
 List.mem_range.1 (h.mem_iff.1 (List.mem_map.2 ⟨i, List.mem_range.2 hi, rfl⟩))
theorem wE {N : Nat} {p : Nat → Nat} (h : ((List.range N).map p).Perm (List.range N)) {i j : Nat} (hij : i < j) (hj : j < N) : p i ≠ p j := by
 have h1 : ((List.range N).map p).Nodup := h.nodup_iff.2 List.nodup_range
 have h2 := (List.pairwise_iff_getElem.1 h1) i j (by simp; omega) (by simp; omega) hij
 simpa using h2
theorem ru {lo n gs gL N cap : Nat} {kv : Nat → KV} {F : Nat → Nat → Int} {w : World} (hO : Own w lo 102 2 (some ⟨gL, 0, none⟩) N cap (kyC N kv)) (hrow : ∀ i, i < N → (kv i).2.len = n ∧ Sl w (kv i).2.a (intC n (F i)) ∧ ∀ ad, (kv i).2.a = some ad → ad.block ≠ gL ∧ ad.block ≠ gs)
  (hn : n ≤ 1000) (hN : 0 < N ∧ N ≤ 100000) (hne : gL ≠ gs) (hs : Blk w gs 95 [.slice (some ⟨gL, 0, none⟩) N cap, .func (.func 61) #[] #[]])
  (hd : ∀ i j, i < N → j < N → i ≠ j → cmpK n (kv i).1 (F i) (kv j).1 (F j) ≠ 0) :
  CallsR Tryz.prog 66 #[.pointer (some ⟨gs, 0, none⟩)] w fun _v w' => SortedL w gs N n gL cap kv F w' := by
 refine aE (args := [_]) Tryz.func66 rfl rfl ?_
 repeat' (first|refine ak ?_|refine ai rfl ?_)
 refine j4 (v := .pointer (some ⟨gs, 0, none⟩)) rfl rfl (fun gb w1 hn1 => tvv ?_)
 repeat' (first|refine aa ?_|refine ak ?_|refine ah ?_)
 have hE1 := hn1.ex
 have hEd := hE1.drew
 have lb := hn1.lo
 have tL := (hO.lo _ rfl).2
 have ts := hs.lt
 refine bn (late := []) (plan := [(0, none), (1, none), (2, none), (3, none), (4, none), (5, none), (6, none), (7, none), (8, some true)]) (fun w' => Fr (fun q => q = gL) w1 w') bD (by kernel_rfl) (Ex.refl w1).drew.fr ?_
 have hs1 := hs.ext hE1
 have hb1 := hn1.blk
 have tb : ∀ q, q = gL → ¬ gs = q := fun q h e => hne (by omega)
 repeat' (first|(refine aP (g := gb) rfl (fun _ h => hb1.fr h (by simp only at tL; omega)) rfl ?_)|refine bZ rfl ?_|refine aP (g := gs) rfl (fun _ h => hs1.fr h (fun e => hne e.symm)) rfl ?_|refine aM rfl ?_)
 refine au (rr (hO.ext hEd) hN.1 (fun i hi => ⟨(hrow i hi).1, (hrow i hi).2.1.ext hEd, fun ad e => ((hrow i hi).2.2 ad e).1⟩) hn hN.2) rfl ?_
 rintro v w2 ⟨rfl, p, hp, hsrt, hL2, hF2⟩
 refine ⟨fun _ h => h.trans hF2, ?_⟩
 repeat' (first|refine aa ?_|refine ah ?_)
 simp only at tL
 have hF12 : Fr (fun q => q = gL) w1 w2 := (Ex.refl w1).drew.fr.trans hF2
 have hs2 := hs1.fr hF12 (fun e => hne e.symm)
 have hb2 := hb1.fr hF12 (by omega)
 have hE2d := (Ex.refl w2).drew
 refine bn (late := [9]) (plan := [(0, none), (1, none), (2, none), (3, none), (4, none), (5, none), (6, some true), (7, none), (8, none), (9, some false)]) (fun w' => Ex w2 w') bD (by kernel_rfl) hE2d ?_
 repeat' (first|refine aP (g := gb) rfl (fun _ h => hb2.ext h) rfl ?_|refine bZ rfl ?_|refine aP (g := gs) rfl (fun _ h => hs2.ext h) rfl ?_|refine eU ?_|refine aM rfl ?_)
 refine au (pc (n := n) (kv := fun i => kv (p i)) (F := fun i => F (p i)) (hL2.ext hE2d) (fun i hi => ⟨(hrow _ (gv hp hi)).1, (((hrow _ (gv hp hi)).2.1.ext hE1).fr hF12 (fun ad e => ((hrow _ (gv hp hi)).2.2 ad e).1)).ext hE2d⟩) hn hN (hb2.ext hE2d) (hs2.ext hE2d)
  (fun i hi => hd _ _ (gv hp hi) (gv hp (by omega)) (fun e => wE hp (show i < i + 1 by omega) hi e.symm))) rfl ?_
 rintro v w4 ⟨rfl, hE4⟩
 refine ⟨fun _ h => h.trans hE4, ?_⟩
 have hs4 := (hs2.ext hE2d).ext hE4
 have hE24 := hE2d.trans hE4
 repeat' (first|refine bZ rfl ?_|refine aM rfl ?_)
 refine cD (v := .slice (some ⟨gL, 0, none⟩) N cap) rfl rfl rfl hs4 rfl (fun w5 hc5 hb5 => ⟨fun h => (nomatch h), ?_⟩)
 repeat' (first|refine ah ?_)
 have hFin : Fr (fun q => q = gL ∨ q = gs) w w5 := ((hE1.fr.trans (hF12.mono fun _ _ h => .inl h)).trans hE24.fr).trans (hc5.fr (.inr rfl))
 refine tJ rfl ⟨p, hp, hsrt, (hL2.ext hE24).chg hc5 (fun ad e => by cases e; exact hne), hb5, hFin⟩
end Go.Proofs.YtpfhfldehaiokaaGreat
namespace Go.W
theorem pd {w : World} {lo lo' T T' s s' n n' cap cap' : Nat} {a a' : Option Addr} {vs vs' : List Value} (h : Own w lo T s a n cap vs) (h' : Own w lo' T' s' a' n' cap' vs') (hT : T ≠ T') : ∀ ad ad', a = some ad → a' = some ad' → ad.block ≠ ad'.block := by
 intro ad ad' e e' he
 subst e e'
 rcases h.2 with ⟨hv, _⟩ | ⟨g, _, cur, hv, _, hb, _⟩
 ·simp at hv
 ·rcases h'.2 with ⟨hv', _⟩ | ⟨g', _, cur', hv', _, hb', _⟩
  ·simp at hv'
  ·simp only [Value.slice.injEq, Option.some.injEq] at hv hv'
   obtain ⟨rfl, _, _⟩ := hv
   obtain ⟨rfl, _, _⟩ := hv'
   simp only at he
   subst he
   have hb : w.heap[g]? = some (.cells cur T (0, 0)) := hb
   have hb' : w.heap[g]? = some (.cells cur' T' (0, 0)) := hb'
   rw [hb] at hb'
   injection hb' with hb'
   injection hb' with _ h2
   exact hT h2
end Go.W
namespace Go.Proofs.YtpfhfldehaiokaaGreat
open Go.W Go.LM Go.LA
theorem qo {gs cL : Nat} {aL : Option Addr} {w : World} (hs : Blk w gs 95 [.slice aL 0 cL, .func (.func 61) #[] #[]]) :
  CallsR Tryz.prog 66 #[.pointer (some ⟨gs, 0, none⟩)] w fun _v w' => Blk w' gs 95 [.slice aL 0 cL, .func (.func 61) #[] #[]] ∧ Fr (fun q => q = gs) w w' := by
 refine aE (args := [_]) Tryz.func66 rfl rfl ?_
 repeat' (first|refine ak ?_|refine ai rfl ?_)
 refine j4 (v := .pointer (some ⟨gs, 0, none⟩)) rfl rfl (fun gb w1 hn1 => tvv ?_)
 repeat' (first|refine aa ?_|refine ak ?_|refine ah ?_)
 have hE1 := hn1.ex
 have hEd := (Ex.refl w1).drew
 have hs1 := hs.ext hE1
 have hb1 := hn1.blk
 refine bn (late := []) (plan := [(0, none), (1, none), (2, none), (3, none), (4, none), (5, none), (6, none), (7, none), (8, some true)]) (fun w' => Ex w1 w') bD (by kernel_rfl) hEd ?_
 repeat' (first|refine aP (g := gb) rfl (fun _ h => hb1.ext h) rfl ?_|refine bZ rfl ?_|refine aP (g := gs) rfl (fun _ h => hs1.ext h) rfl ?_|refine aM rfl ?_)
 have hnone : CallsR Tryz.prog 109 #[.slice aL 0 cL, .func (.func 61) #[] #[]] w1.drew fun _ w' => w' = w1.drew :=
  Calls.mono (AnyF.slices_SortFunc_none Tryz.sortK aL cL (.func (.func 61) #[] #[]) w1.drew) fun e w' ⟨h1, h2⟩ => ⟨_, h1, h2⟩
 refine au hnone rfl ?_
 rintro v w2 rfl
 refine ⟨fun _ h => h, ?_⟩
 repeat' (first|refine aa ?_|refine ah ?_)
 have hE2d := hEd.drew
 refine bn (late := [9]) (plan := [(0, none), (1, none), (2, none), (3, none), (4, none), (5, none), (6, some true), (7, none), (8, none), (9, some false)]) (fun w' => Ex w1 w') bD (by kernel_rfl) hE2d ?_
 repeat' (first|refine aP (g := gb) rfl (fun _ h => hb1.ext h) rfl ?_|refine bZ rfl ?_|refine aP (g := gs) rfl (fun _ h => hs1.ext h) rfl ?_|refine eU ?_|refine aM rfl ?_)
 have hcmp0 : CallsR Tryz.prog 110 #[.slice aL 0 cL, .func (.func 111) #[] #[.pointer (some ⟨gb, 0, none⟩)]] w1.drew.drew fun v w' => v = .slice aL 0 cL ∧ w' = w1.drew.drew := by
  refine aE (args := [_, _]) Tryz.func110 rfl rfl ?_
  repeat' (first|refine bq rfl rfl (by omega) ?_|refine aj rfl ?_|refine aa ?_|refine ak ?_|refine ai rfl ?_|refine ah ?_|refine bc rfl ?_|refine aA rfl ?_|refine aK ?_|refine bf ?_)
  exact bo rfl (rt rfl) ⟨rfl, rfl⟩
 refine au hcmp0 rfl ?_
 rintro v w4 ⟨rfl, rfl⟩
 refine ⟨fun _ h => h, ?_⟩
 repeat' (first|refine bZ rfl ?_|refine aM rfl ?_)
 refine cD (v := .slice aL 0 cL) rfl rfl rfl (hs1.ext hE2d) rfl (fun w5 hc5 hb5 => ⟨fun h => (nomatch h), ?_⟩)
 repeat' (first|refine ah ?_)
 exact tJ rfl ⟨hb5, (hE1.trans hE2d).fr.trans (hc5.fr rfl)⟩
def nrmV (n : Nat) (A : Mat) (x : Nat → Int) : Int := sm n fun i => x i * sm n fun j => A i j * x j
theorem rv {n cap g o N cl : Nat} {la : Option Addr} {w : World} {s sv : Nat → SD} {H : Mat} {m : Int} {V : Nat → Nat → Int} {q : Nat → Nat} (hM : MI w (some ⟨g, o, none⟩) n n s (scM m H)) (hR : Rd n H) (hm : 1 ≤ m ∧ m ≤ 4) (hcap : n ≤ cap) (hdet : det n (scM m H) ≤ 10000)
  (hT : Sl w la (topC N sv)) (hV : ∀ i, i < N → (sv i).len = n ∧ (∃ vg vo, (sv i).a = some ⟨vg, vo, none⟩) ∧ Sl w (sv i).a (intC n (V i)) ∧ (∀ j, j < n → (V i j).natAbs ≤ 9) ∧ q i < n ∧ V i (q i) ≠ 0 ∧ ∀ j, j < q i → V i j = 0) (hN : N ≤ 10000)
  (hd : ∀ i j, i < N → j < N → i ≠ j → cmpK n (nrmV n (scM m H) (V i)) (canV (q i) (V i)) (nrmV n (scM m H) (V j)) (canV (q j) (V j)) ≠ 0) :
  CallsR Tryz.prog 34 #[.slice (some ⟨g, o, none⟩) n cap, .slice la N cl] w fun v w' => ∃ (gr : Nat) (p : Nat → Nat) (sr : Nat → SD), v = .tuple #[.slice (some ⟨gr, 0, none⟩) N N, .bool true] ∧ ((List.range N).map p).Perm (List.range N) ∧
   (∀ i j, i < j → j < N → ¬ cmpK n (nrmV n (scM m H) (V (p j))) (canV (q (p j)) (V (p j))) (nrmV n (scM m H) (V (p i))) (canV (q (p i)) (V (p i))) < 0) ∧ Blk w' gr 58 (topC N sr) ∧ (∀ i, i < N → (sr i).len = n ∧ Sl w' (sr i).a (intC n (canV (q (p i)) (V (p i))))) ∧ Ex w w' := by
 have hn := hR.hn
 have hent : ∀ i j, i < n → j < n → (scM m H i j).natAbs ≤ 28000 := fun i j hi hj => hR.entk hm hi hj
 refine aE (args := [_, _]) Tryz.func34 rfl rfl ?_
 repeat' (first|refine aj rfl ?_|refine aa ?_|refine ak ?_|refine ai rfl ?_|refine ah ?_)
 have hred := fM (cap := cap) hM hR hm hcap
 rw [decide_eq_true hdet] at hred
 refine au hred rfl ?_
 rintro v w1 ⟨rfl, hE1⟩
 refine tvv ?_
 repeat' (first|refine da (cs := [.slice none 0 0, .func (.func 61) #[] #[]]) rfl ?_|refine aj rfl ?_|refine aa ?_|refine ak ?_|refine ai rfl ?_|refine ah ?_|refine ao rfl ?_|refine aC ?_)
 refine aH (fun g6 w2 hn2 => tvv ?_)
 refine aF (n := 2) (vs := [.slice none 0 0, .func (.func 61) #[] #[]]) rfl rfl rfl rfl hn2.blk rfl (fun w3 hc3 hb3 => tvv ?_)
 have o2 := hn2.lo
 have b2 := hn2.blk.lt
 have z3 := hc3.size
 have z1 := hE1.size
 have hE3 : Ex w w3 := hE1.trans (hn2.ex.chg hc3 o2)
 generalize hAe : scM m H = A at *
 repeat' (first|refine aj rfl ?_|refine aa ?_|refine ak ?_|refine ai rfl ?_|refine ah ?_|refine bc rfl ?_|refine ay ?_)
 refine aW (ι := Nat × (Option Addr × Nat) × (Nat → KV)) [4, 5, 8, 9, 10, 11, 12, 22, 23, 24, 25, 26, 27, 28, 29, 30, 31, 32, 33, 34, 35, 36, 37, 38, 39, 40, 41, 42, 43, 44, 45, 46, 47, 48, 49, 50, 51, 52, 53, 54, 55, 56, 57, 58] (fun t => [(22, .int .i64 (t.1 : Int))])
  (fun t w' => (t.1 ≤ N ∧ Ex w w' ∧ w3.heap.size ≤ w'.heap.size) ∧ Own w' w3.heap.size 102 2 t.2.1.1 t.1 t.2.1.2 (kyC t.1 t.2.2) ∧ Blk w' g6 95 [.slice t.2.1.1 t.1 t.2.1.2, .func (.func 61) #[] #[]] ∧
   ∀ i, i < t.1 → (t.2.2 i).1 = nrmV n A (V i) ∧ (t.2.2 i).2.len = n ∧ Own w' w3.heap.size 2 1 (t.2.2 i).2.a n (t.2.2 i).2.cap (intC n (canV (q i) (V i)))) (fun t => N - t.1)
  (0, (none, 0), fun _ => (0, sd0)) ⟨rfl, trivial⟩ ⟨⟨Nat.zero_le _, hE3, Nat.le_refl _⟩, Own.nil _ _ _ _, hb3, fun i hi => absurd hi (Nat.not_lt_zero i)⟩ ?_
 rintro ⟨i, ⟨aL, cL⟩, kv⟩ ξ w4 ⟨⟨hi, hE4, hz4⟩, hO4, hb4, hr4⟩
 simp only at hi hO4 hb4 hr4
 show CW _ _ _ _ (over [(22, .int .i64 (i : Int))] _) w4
 have hLne : ∀ ad, aL = some ad → ad.block ≠ g6 := fun ad e => by have := hO4.lo ad e; omega
 rcases Nat.lt_or_ge i N with hiN | hiN
 ·have hpl : W.plain la := hT.plain (by rw [cv]; omega)
  obtain ⟨v1, ⟨vg, vo, v2⟩, v3, v4, v5, v6, v7⟩ := hV i hiN
  have es : sv i = ⟨some ⟨vg, vo, none⟩, n, (sv i).cap⟩ := by rw [← v1, ← v2]
  rw [v2] at v3
  have hT4 := hT.ext hE4
  have hv4 := v3.ext hE4
  repeat' (first|refine bq rfl rfl (show (i : Int) < (N : Int) by omega) ?_|refine az (j := i) (a := la) rfl rfl hpl (by omega) ?_|refine aZ (j := i) (a := la) (n := N) (s := sv) rfl hT4 hiN es ?_|refine aj rfl ?_|refine aa ?_|refine ak ?_|refine ai rfl ?_|refine ah ?_|refine bc rfl ?_|refine aA rfl ?_|refine ay ?_|refine aC ?_)
  refine au (rj hv4 v4 (by omega)) rfl ?_
  rintro v w5 ⟨rfl, rfl⟩
  refine tvv ?_
  repeat' (first|refine aj rfl ?_|refine aa ?_|refine ak ?_|refine ai rfl ?_|refine ah ?_|refine ao rfl ?_|refine aC ?_)
  refine au (ro (cap := cap) (hM.ext hE4) hv4 hent v4 hn) rfl ?_
  rintro v w6 ⟨gy, rfl, hy6, hly, hE6⟩
  refine tvv ?_
  have hyb : ∀ i', i' < n → (sm n fun j => A i' j * V i j).natAbs ≤ 756000 := fun i' hi' => by
   have := qg (n := n) (f := fun j => A i' j * V i j) (M := 252000) fun j hj => mU (hent i' j hi' hj) (v4 j hj)
   have : (n : Int) * 252000 ≤ 756000 := by omega
   omega
  refine au (vw (hv4.ext hE6) hy6.sl v4 hyb hn) rfl ?_
  rintro v w7 ⟨rfl, hE7⟩
  refine tvv ?_
  have hE67 := hE6.trans hE7
  repeat' (first|refine aR rfl rfl ?_|refine aj rfl ?_|refine aa ?_|refine ak ?_|refine ai rfl ?_|refine ah ?_)
  refine au (rm (hv4.ext hE67) v4 (by omega) v5 v6 v7) rfl ?_
  rintro v w8 ⟨gc, cc, rfl, hOc, hE8⟩
  refine tvv ?_
  have hE58 := hE67.trans hE8
  have z58 := hE58.size
  have z67 := hE67.size
  have hb8 := hb4.ext hE58
  have hO8 := hO4.ext hE58
  repeat' (first|refine aR rfl rfl ?_|refine aP (g := g6) rfl hb8 rfl ?_|refine da (cs := kvC (nrmV n A (V i), ⟨some ⟨gc, 0, none⟩, n, cc⟩)) rfl ?_|refine aj rfl ?_|refine aa ?_|refine ak ?_|refine ai rfl ?_|refine ah ?_|refine bJ rfl rfl ?_|refine aM rfl ?_|refine ao rfl ?_|refine aC ?_)
  refine iv (E := 102) (s := 2) (z := .agg #[.int .i64 0, .slice none 0 0]) (cs := (kvC (nrmV n A (V i), ⟨some ⟨gc, 0, none⟩, n, cc⟩)).toArray) rfl (by
   simp only [List.map_toArray, List.map_cons, List.map_nil]
   exact ew (s := 2) rfl (by simp)) (fun g9 w9 hn9 => tvv ?_)
  have hO9 := hO8.ext hn9.ex
  have z9 := hn9.ex.size
  refine dZ (E := 102) (s := 2) (y := 32) (z := .agg #[.int .i64 0, .slice none 0 0]) (m := 1) (c := 1) (news := kvC (nrmV n A (V i), ⟨some ⟨gc, 0, none⟩, n, cc⟩)) (lo := w3.heap.size) rfl rfl rfl rfl hO9 hn9.blk.sl ⟨_, _, rfl⟩ rfl rfl (by omega) (by omega) (by omega) (fun aL' cL' w10 hO10 hg10 ha10 => tvv ?_)
  have hb10 := (hb8.ext hn9.ex).gb hg10 (ch hLne)
  have hb8lt := hb8.lt
  have hLne' : ∀ ad, aL' = some ad → ad.block ≠ g6 := fun ad e => by
   rcases ha10 with h | h
   ·exact hLne ad (by rw [← h]; exact e)
   ·have := h ad e; omega
  repeat' (first|refine aM rfl ?_)
  refine cD (v := .slice aL' ((i + 1 : Nat)) cL') rfl rfl rfl hb10 rfl (fun w11 hc11 hb11 => tvv ?_)
  repeat' (first|refine aj rfl ?_|refine aa ?_|refine ai rfl ?_|refine ah ?_|refine aV rfl rfl (by omega) (by omega) ?_|refine aJ ?_)
  have rowk : ∀ {a' : Option Addr} {c' : Nat} {f' : Nat → Int}, Own w9 w3.heap.size 2 1 a' n c' (intC n f') → Own w11 w3.heap.size 2 1 a' n c' (intC n f') := fun {a' c' f'} h => by
   refine (h.gb hg10 fun ad e he => ?_).chg hc11 fun ad e => by have := h.lo ad e; omega
   cases haL : aL with
   | none => rw [haL] at he; cases he
   | some x =>
    rw [haL] at he
    refine pd h hO9 (by decide) ad x e haL ?_
    simpa [Value.ownBlock] using he.symm
  have z10 := hg10.size
  have z11 := hc11.size
  refine ⟨⟨(i + 1, (aL', cL'), setF kv i (nrmV n A (V i), ⟨some ⟨gc, 0, none⟩, n, cc⟩)), ⟨⟨hiN, ?_, by omega⟩, ?_, hb11, fun l hl => ?_⟩, by simp only; omega, rfl, trivial⟩, (by (repeat (first|exact aG _ _ _|refine aB rfl ?_|refine ax rfl ?_|refine av rfl ?_|refine aw rfl ?_)))⟩
  ·exact (hO9.grow_ex hg10 (hE4.trans (hE58.trans hn9.ex)) (by omega)).chg hc11 (by omega)
  ·simp only
   rw [← wC]
   exact hO10.chg hc11 hLne'
  ·simp only at hl ⊢
   by_cases e : l = i
   ·subst e; rw [aI]
    exact ⟨rfl, rfl, rowk ((hOc.mono (by omega)).ext hn9.ex)⟩
   ·rw [aN _ _ e]
    obtain ⟨r1, r2, r3⟩ := hr4 l (by omega)
    exact ⟨r1, r2, rowk (r3.ext (hE58.trans hn9.ex))⟩
 ·obtain rfl : N = i := by omega
  repeat' (first|refine bp rfl rfl (by omega) ?_|refine aa ?_|refine ak ?_|refine ai rfl ?_|refine ah ?_|refine ao rfl ?_|refine aT ?_|refine aO ?_|refine aU ?_)
  have hsort : CallsR Tryz.prog 66 #[.pointer (some ⟨g6, 0, none⟩)] w4 fun _ w5 => ∃ p : Nat → Nat, ((List.range N).map p).Perm (List.range N) ∧
    (∀ i j, i < j → j < N → ¬ cmpK n (nrmV n A (V (p j))) (canV (q (p j)) (V (p j))) (nrmV n A (V (p i))) (canV (q (p i)) (V (p i))) < 0) ∧ Sl w5 aL (kyC N fun i => kv (p i)) ∧
    Blk w5 g6 95 [.slice aL N cL, .func (.func 61) #[] #[]] ∧ Ex w w5 ∧ ∀ i, i < N → (kv (p i)).2.len = n ∧ Sl w5 (kv (p i)).2.a (intC n (canV (q (p i)) (V (p i)))) := by
   rcases Nat.eq_zero_or_pos N with h0 | h0
   ·subst h0
    refine (qo hb4).mono fun v w5 ⟨h1, h2⟩ => ⟨id, List.Perm.refl _, fun i j _ hj => absurd hj (Nat.not_lt_zero j), Sl.nil _ _, h1, Fr.ex hE4 h2 (fun k hk => by omega), fun i hi => absurd hi (Nat.not_lt_zero i)⟩
   ·have hform : ∃ gL, aL = some ⟨gL, 0, none⟩ := by
     rcases hO4.2 with ⟨hv, hnn⟩ | ⟨g', _, _, hv, _⟩
     ·simp only [Value.slice.injEq] at hv; omega
     ·simp only [Value.slice.injEq] at hv; exact ⟨g', hv.1⟩
    obtain ⟨gL, rfl⟩ := hform
    have hlL := hO4.lo _ rfl
    simp only at hlL
    refine (ru (F := fun i => canV (q i) (V i)) hO4 (fun i hi => ⟨(hr4 i hi).2.1, (hr4 i hi).2.2.sl, fun ad e => ⟨pd (hr4 i hi).2.2 hO4 (by decide) ad _ e rfl, by have := (hr4 i hi).2.2.lo ad e; omega⟩⟩) (by omega) ⟨h0, by omega⟩ (hLne _ rfl) hb4 (fun i j hi hj hij => by
     rw [(hr4 i hi).1, (hr4 j hj).1]; exact hd i j hi hj hij)).mono ?_
    rintro v w5 ⟨p, hp, hs5, hL5, hb5, hF5⟩
    refine ⟨p, hp, fun i j hij hj => ?_, hL5, hb5, Fr.ex hE4 hF5 (fun k hk => by omega), fun i hi => ?_⟩
    ·have := hs5 i j hij hj
     rwa [(hr4 _ (gv hp hj)).1, (hr4 _ (gv hp (show i < N by omega))).1] at this
    ·have h4 := hr4 _ (gv hp hi)
     exact ⟨h4.2.1, h4.2.2.sl.fr hF5 fun ad e => by
      have h5 := pd h4.2.2 hO4 (by decide) ad _ e rfl
      have h6 := h4.2.2.lo ad e
      simp only at h5
      omega⟩
  refine au hsort rfl ?_
  rintro v w5 ⟨p, hp, hs5, hL5, hb5, hE5, hrow5⟩
  refine tvv ?_
  repeat' (first|refine aP (g := g6) rfl hb5 rfl ?_|refine aa ?_|refine ak ?_|refine ai rfl ?_|refine ah ?_|refine bc rfl ?_|refine aM rfl ?_)
  refine eC (n := N) rfl rfl (by omega) (by omega) (fun gr w6 hn6 => tvv ?_)
  have hb6 := hb5.ext hn6.ex
  have o6 := hn6.lo
  repeat' (first|refine aP (g := g6) rfl hb6 rfl ?_|refine aj rfl ?_|refine aa ?_|refine ak ?_|refine ai rfl ?_|refine ah ?_|refine bc rfl ?_|refine aM rfl ?_|refine ay ?_)
  refine aW (ι := Nat) [14, 15, 67, 68, 69, 70, 71, 72, 73, 74, 75, 76, 77] (fun i => [(67, .int .i64 (i : Int))])
   (fun i w' => (i ≤ N ∧ Ex w5 w') ∧ Blk w' gr 58 (topC N fun k => if k < i then (kv (p k)).2 else sd0)) (fun i => N - i) 0 ⟨rfl, trivial⟩ ⟨⟨Nat.zero_le _, hn6.ex⟩, by
    rw [bF (s' := fun _ => sd0) fun k hk => if_neg (Nat.not_lt_zero k)]; exact hn6.blk⟩ ?_
  rintro i ξ1 w7 ⟨⟨hi, hE7⟩, hb7⟩
  show CW _ _ _ _ (over [(67, .int .i64 (i : Int))] _) w7
  rcases Nat.lt_or_ge i N with hiN2 | hiN2
  ·have hpa : W.plain aL := hL5.plain (by rw [ja]; omega)
   have hL7 := hL5.ext hE7
   repeat' (first|refine bq rfl rfl (show (i : Int) < (N : Int) by omega) ?_|refine bE (j := i) (a := aL) rfl rfl hpa (by omega) ?_|refine m3 (j := i) (n := N) (kv := fun i => kv (p i)) (a := aL) rfl hL7 hpa hiN2 ?_|refine aj rfl ?_|refine aa ?_|refine ak ?_|refine ai rfl ?_|refine ah ?_|refine aA rfl ?_|refine ay ?_|refine aC ?_)
   refine aH (fun g15 w8 hn8 => tvv ?_)
   repeat' (first|refine aj rfl ?_)
   refine aF (n := 2) (vs := kvC (kv (p i))) rfl rfl rfl rfl hn8.blk rfl (fun w9 hc9 hb9 => tvv ?_)
   have o8 := hn8.lo
   have b7 := hb7.lt
   have hb79 := (hb7.ext hn8.ex).chg hc9 (by omega)
   repeat' (first|refine aP (g := g15) rfl hb9 rfl ?_|refine az (j := i) (a := some ⟨gr, 0, none⟩) rfl rfl ⟨_, _, rfl⟩ (by omega) ?_|refine aj rfl ?_|refine aa ?_|refine ai rfl ?_|refine ah ?_|refine aM rfl ?_)
   refine di (j := i) (u := (kv (p i)).2) rfl rfl hb79 hiN2 (fun w10 hc10 hb10 => tvv ?_)
   repeat' (first|refine aj rfl ?_|refine aa ?_|refine ai rfl ?_|refine ah ?_|refine aV rfl rfl (by omega) (by omega) ?_|refine aJ ?_)
   refine ⟨⟨i + 1, ⟨⟨hiN2, ((hE7.trans hn8.ex).chg hc9 (by have := hE7.size; omega)).chg hc10 o6⟩, ?_⟩, by omega, rfl, trivial⟩, (by (repeat (first|exact aG _ _ _|refine aB rfl ?_|refine ax rfl ?_|refine av rfl ?_|refine aw rfl ?_)))⟩
   rw [bF (s' := setF (fun k => if k < i then (kv (p k)).2 else sd0) i (kv (p i)).2) fun k hk => by
    by_cases e : k = i
    ·subst e; rw [aI, if_pos (by omega)]
    ·rw [aN _ _ e]
     by_cases h : k < i
     ·rw [if_pos h, if_pos (by omega)]
     ·rw [if_neg h, if_neg (by omega)]]
   exact hb10
  ·obtain rfl : N = i := by omega
   repeat' (first|refine bp rfl rfl (by omega) ?_|refine aj rfl ?_|refine aa ?_|refine ak ?_|refine ai rfl ?_|refine ah ?_|refine ao rfl ?_|refine aT ?_|refine aO ?_|refine aU ?_|refine aK ?_)
   rw [bF (s' := fun k => (kv (p k)).2) fun k hk => if_pos hk] at hb7
   exact dw rfl (rt rfl) (rt rfl) ⟨gr, p, fun k => (kv (p k)).2, rfl, hp, hs5, hb7, fun i hi => ⟨(hrow5 i hi).1, (hrow5 i hi).2.ext hE7⟩, hE5.trans hE7⟩
end Go.Proofs.YtpfhfldehaiokaaGreat
