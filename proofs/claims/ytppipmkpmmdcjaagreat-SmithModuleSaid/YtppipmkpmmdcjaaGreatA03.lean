import Derived.Test.YtppipmkpmmdcjaaGreatA02
namespace Go.W
open Go.RowKit (Below)
structure Fr (F : Nat → Prop) (w w' : World) : Prop where
 os : w'.os = w.os
 tape : w'.tape = w.tape
 output : w'.output = w.output
 size : w.heap.size ≤ w'.heap.size
 block : ∀ k, k < w.heap.size → ¬ F k → w'.heap[k]? = w.heap[k]?
theorem Fr.refl (F : Nat → Prop) (w : World) : Fr F w w := ⟨rfl, rfl, rfl, Nat.le_refl _, fun _ _ _ => rfl⟩
theorem Fr.trans {F : Nat → Prop} {w w1 w2 : World} (h : Fr F w w1) (k : Fr F w1 w2) : Fr F w w2 :=
 ⟨k.os.trans h.os, k.tape.trans h.tape, k.output.trans h.output, Nat.le_trans h.size k.size, fun i hi hn => (k.block i (Nat.lt_of_lt_of_le hi h.size) hn).trans (h.block i hi hn)⟩
theorem Ex.fr {F : Nat → Prop} {w w' : World} (h : Ex w w') : Fr F w w' := ⟨h.os, h.tape, h.output, h.size, fun k hk _ => h.block k hk⟩
theorem Chg.fr {F : Nat → Prop} {w w' : World} {g : Nat} (h : Chg g w w') (hg : F g) : Fr F w w' := ⟨h.os, h.tape, h.output, Nat.le_of_eq h.size.symm, fun k _ hn => h.block k (by rintro rfl; exact hn hg)⟩
theorem Fr.ex {F : Nat → Prop} {w0 w w' : World} (e : Ex w0 w) (h : Fr F w w') (hF : ∀ k, F k → w0.heap.size ≤ k) : Ex w0 w' :=
 Below.trans e ⟨h.os, h.tape, h.output, h.size, fun k hk => h.block k (Nat.lt_of_lt_of_le hk e.size) fun hf => absurd (hF k hf) (Nat.not_le_of_lt hk)⟩
theorem Blk.fr {F : Nat → Prop} {w w' : World} {g T : Nat} {cs : List Value} (hb : Blk w g T cs) (h : Fr F w w') (hn : ¬ F g) : Blk w' g T cs := (h.block g hb.lt hn).trans hb
theorem Sl.fr {F : Nat → Prop} {w w' : World} {a : Option Addr} {vs : List Value} (hs : Sl w a vs) (h : Fr F w w') (hn : ∀ ad, a = some ad → ¬ F ad.block) : Sl w' a vs := by
 refine ⟨hs.ok, fun j hj => ?_⟩
 have hlt := World.block_lt_of_cell? w _ (hs.get j hj)
 obtain ⟨b, o, rfl⟩ := hs.plain (by omega)
 rw [World.cell?_of_block (w := w) (a := elt (some ⟨b, o, none⟩) j) (h.block b hlt (hn _ rfl))]; exact hs.get j hj
theorem fO {F : Nat → Prop} {w w' : World} {r : Option Nat} (h : w.grownBy w' r) (hF : ∀ k, r = some k → F k) : Fr F w w' :=
 ⟨h.os, h.tape, h.output, h.size, fun k hk hn => h.block k hk (by intro e; exact hn (hF k e.symm))⟩
end Go.W
namespace Go.LM
def natOf : List Nat → Nat
 | [] => 0
 | d :: l => d + 4294967296 * natOf l
def Lim (l : List Nat) : Prop := ∀ d ∈ l, d < 4294967296
theorem Lim.getD {l : List Nat} (h : Lim l) (k : Nat) : l.getD k 0 < 4294967296 := by
 by_cases hk : k < l.length
 ·rw [List.getD_eq_getElem?_getD, List.getElem?_eq_getElem hk]; exact h _ (List.getElem_mem hk)
 ·rw [List.getD_eq_getElem?_getD, List.getElem?_eq_none (by omega)]; decide
theorem Lim.take {l : List Nat} (h : Lim l) (k : Nat) : Lim (l.take k) := fun d hd => h d (List.mem_of_mem_take hd)
theorem cP : ∀ (l m : List Nat), natOf (l ++ m) = natOf l + 4294967296 ^ l.length * natOf m
 | [], m => by simp [natOf]
 | d :: l, m => by
  simp only [List.cons_append, natOf, cP l m, List.length_cons, Nat.pow_succ]
  rw [Nat.mul_add, ← Nat.mul_assoc, Nat.mul_comm 4294967296 (4294967296 ^ l.length), Nat.add_assoc]
theorem bT : ∀ {l : List Nat}, Lim l → natOf l < 4294967296 ^ l.length
 | [], _ => by simp [natOf]
 | d :: l, h => by
  have h1 := h d (by simp)
  have h2 := bT (l := l) (fun x hx => h x (by simp [hx]))
  simp only [natOf, List.length_cons, Nat.pow_succ]
  omega
theorem dm (l : List Nat) (d : Nat) : natOf (l ++ [d]) = natOf l + 4294967296 ^ l.length * d := by rw [cP]; simp [natOf]
theorem cV : ∀ n : Nat, natOf (List.replicate n 0) = 0
 | 0 => rfl
 | n + 1 => by simp [List.replicate_succ, natOf, cV n]
def trimL : List Nat → List Nat
 | [] => []
 | d :: l => if trimL l = [] ∧ d = 0 then [] else d :: trimL l
theorem bf : ∀ l : List Nat, natOf (trimL l) = natOf l
 | [] => rfl
 | d :: l => by
  have ih := bf l
  rw [trimL]
  split
  ·rename_i h; rw [h.1] at ih; simp only [natOf] at ih ⊢; omega
  ·simp only [natOf, ih]
theorem cI : ∀ l : List Nat, (trimL l).length ≤ l.length
 | [] => by simp [trimL]
 | d :: l => by
  have := cI l
  rw [trimL]
  split <;> simp <;> omega
theorem iD : ∀ l : List Nat, trimL l = l.take (trimL l).length
 | [] => rfl
 | d :: l => by
  have ih := iD l
  rw [trimL]
  split
  ·rfl
  ·simp only [List.length_cons, List.take_succ_cons, ← ih]
theorem dO : ∀ l : List Nat, trimL (l ++ [0]) = trimL l
 | [] => rfl
 | d :: l => by simp only [List.cons_append, trimL, dO l]
theorem iE {d : Nat} (h : d ≠ 0) : ∀ l : List Nat, trimL (l ++ [d]) = l ++ [d]
 | [] => by simp [trimL, h]
 | e :: l => by
  simp only [List.cons_append, trimL, iE h l]
  rw [if_neg (by simp)]
def Canon (l : List Nat) : Prop := trimL l = l
theorem bD : ∀ l : List Nat, Canon (trimL l)
 | [] => rfl
 | d :: l => by
  have ih := bD l
  unfold Canon at *
  rw [trimL]
  split
  ·rfl
  ·rename_i h
   rw [trimL, ih, if_neg h]
theorem Lim.trim {l : List Nat} (h : Lim l) : Lim (trimL l) := by rw [iD]; exact h.take _
theorem cE {l : List Nat} : trimL l = [] ↔ natOf l = 0 := by
 constructor
 ·intro h; rw [← bf, h]; rfl
 ·induction l with
  | nil => intro _; rfl
  | cons d l ih =>
   intro h
   simp only [natOf] at h
   rw [trimL, if_pos ⟨ih (by omega), by omega⟩]
theorem kv {l : List Nat} (h : Canon l) (hne : l ≠ []) : 4294967296 ^ (l.length - 1) ≤ natOf l := by
 obtain ⟨m, d, rfl⟩ : ∃ m d, l = m ++ [d] := ⟨l.dropLast, l.getLast hne, (List.dropLast_concat_getLast hne).symm⟩
 have hd : d ≠ 0 := by
  rintro rfl
  unfold Canon at h
  rw [dO] at h
  have := cI m
  rw [h] at this
  simp at this
  omega
 rw [dm]
 simp only [List.length_append, List.length_singleton, Nat.add_sub_cancel]
 have : 4294967296 ^ m.length * 1 ≤ 4294967296 ^ m.length * d := Nat.mul_le_mul_left _ (by omega)
 omega
theorem mT {l m : List Nat} (hl : Lim l) (hm : Lim m) (cl : Canon l) (cm : Canon m) (h : natOf l = natOf m) : l = m := by
 induction l generalizing m with
 | nil =>
  have : trimL m = [] := cE.2 h.symm
  rw [cm] at this; exact this.symm
 | cons d l ih =>
  cases m with
  | nil =>
   have : trimL (d :: l) = [] := cE.2 h
   rw [cl] at this; cases this
  | cons e m =>
   simp only [natOf] at h
   have h1 := hl d (by simp)
   have h2 := hm e (by simp)
   have hde : d = e := by omega
   subst hde
   have hc : ∀ {l : List Nat} {d : Nat}, Canon (d :: l) → Canon l := fun {l d} hc => by
    unfold Canon at *
    rw [trimL] at hc
    split at hc
    ·cases hc
    ·exact (List.cons.inj hc).2
   rw [ih (fun x hx => hl x (by simp [hx])) (fun x hx => hm x (by simp [hx])) (hc cl) (hc cm) (by omega)]
def digs (n : Nat) : List Nat := trimL [n % 4294967296, n / 4294967296]
theorem dE {n : Nat} : natOf (digs n) = n := by rw [digs, bf]; simp [natOf]; omega
theorem rr (n : Nat) : (digs n).length ≤ 2 := cI _
theorem dq (n : Nat) : Canon (digs n) := bD _
end Go.LM
namespace Go.Proofs.YtppipmkpmmdcjaaGreat
open Go.W Go.LM
abbrev limbsL (ls : List Nat) : List Value := ls.map fun (n : Nat) => Value.int .u32 n
structure Limbs (w : World) (a : Option Addr) (c : Nat) (ls : List Nat) : Prop where
 sl : Sl w a (limbsL ls)
 cap : ls.length ≤ c
 lim : Lim ls
 len : ls.length ≤ 17592186044416
theorem Limbs.ext {w w' : World} {a : Option Addr} {c : Nat} {ls : List Nat} (h : Limbs w a c ls) (e : Ex w w') : Limbs w' a c ls := ⟨h.sl.ext e, h.cap, h.lim, h.len⟩
theorem Limbs.chg {w w' : World} {a : Option Addr} {c g : Nat} {ls : List Nat} (h : Limbs w a c ls) (e : Chg g w w') (hne : ∀ ad, a = some ad → ad.block ≠ g) : Limbs w' a c ls := ⟨h.sl.chg e hne, h.cap, h.lim, h.len⟩
theorem Limbs.drew {w : World} {a : Option Addr} {c : Nat} {ls : List Nat} (h : Limbs w a c ls) : Limbs w.drew a c ls := ⟨h.sl.drew, h.cap, h.lim, h.len⟩
theorem Limbs.take {w : World} {a : Option Addr} {c : Nat} {ls : List Nat} (h : Limbs w a c ls) (k : Nat) : Limbs w a c (ls.take k) :=
 ⟨by have := h.sl.take k; rwa [← List.map_take] at this, by have := h.cap; simp; omega, h.lim.take k, by have := h.len; simp; omega⟩
theorem Limbs.trim {w : World} {a : Option Addr} {c : Nat} {ls : List Nat} (h : Limbs w a c ls) : Limbs w a c (trimL ls) := by rw [iD]; exact h.take _
theorem Limbs.nil (w : World) (a : Option Addr) (c : Nat) : Limbs w a c [] := ⟨Sl.nil _ _, by simp, by intro d hd; simp at hd, by simp⟩
theorem dX {ls : List Nat} {k : Nat} (hk : k ≤ ls.length) (h0 : 0 < k) : ls.take k = ls.take (k - 1) ++ [ls.getD (k - 1) 0] := by
 obtain ⟨j, rfl⟩ : ∃ j, k = j + 1 := ⟨k - 1, by omega⟩
 rw [List.take_succ_eq_append_getElem (by omega)]
 simp [List.getD_eq_getElem?_getD, show j < ls.length by omega]
theorem cf {ls : List Nat} {a : Option Addr} {c : Nat} {w : World} (h : Limbs w a c ls) :
  CallsR Tryz.prog 47 #[.slice a ls.length c] w fun v w' => v = .slice a (trimL ls).length c ∧ Ex w w' := by
 have hlen := h.len
 have hcap := h.cap
 refine aH (args := [_]) Tryz.func47 rfl rfl ?_
 repeat' (first|refine ai rfl ?_|refine aa ?_|refine aj ?_|refine ah rfl ?_|refine ae ?_|refine aA ?_)
 refine aY (ι := Nat) [0, 3, 4, 5, 6, 7, 8, 9, 10, 11, 12, 13, 14, 15, 16, 17, 18, 19] (fun k => [(0, .slice a k c)]) (fun k w' => k ≤ ls.length ∧ w' = w ∧ trimL (ls.take k) = trimL ls) (fun k => k) ls.length ⟨rfl, trivial⟩ ⟨Nat.le_refl _, rfl, by simp⟩ ?_
 rintro k ξ w2 ⟨hk, rfl, hT⟩
 repeat' (first|(refine aC (j := k - 1) rfl (by show Value.int .i64 ((k : Int) - 1) = _; congr 1; omega) (h.sl.plain (by simp; omega)) (by omega) ?_)|refine bI rfl h.sl (by omega) ?_|refine ai rfl ?_|refine aa ?_|refine aj ?_|refine ah rfl ?_|refine ae ?_|refine bh rfl ?_|refine bR rfl rfl ?_|refine cB rfl rfl ?_|refine eL rfl rfl (fun hc => ?_) (fun hc => ?_)|refine cO rfl rfl (by omega) (by omega) ?_|refine ay rfl ?_|refine aP rfl (fun hc => ?_) (fun hc => ?_)|refine aA ?_|refine aV ?_|refine aL ?_|refine aW ?_|refine aR ?_|refine aF ?_)
 ·refine ic rfl rfl (by omega) (by omega) ?_
  rw [show ((k : Int) - 1).toNat = k - 1 by omega]
  repeat' (first|refine ai rfl ?_|refine aa ?_|refine ae ?_|refine aK ?_)
  refine ⟨⟨k - 1, ⟨by omega, rfl, ?_⟩, by omega, rfl, trivial⟩, (by (repeat (first|exact aE _ _ _|refine aw rfl ?_|refine au rfl ?_|refine ak rfl ?_|refine ao rfl ?_)))⟩
  rw [← hT, dX hk (by omega), show ls.getD (k - 1) 0 = 0 by omega, dO]
 ·refine bK rfl (rt rfl) ⟨?_, Ex.refl _⟩
  rw [← hT, dX hk (by omega), iE (by omega), ← dX hk (by omega)]
  simp only [List.length_take, Nat.min_eq_left hk]; rfl
 ·obtain rfl : k = 0 := by omega
  refine bK rfl (rt rfl) ⟨?_, Ex.refl _⟩
  rw [← hT]; rfl
def RetN (w : World) (ls : List Nat) (v : Value) (w' : World) : Prop := ∃ a c, v = .slice a ls.length c ∧ Limbs w' a c ls ∧ (∀ ad, a = some ad → w.heap.size ≤ ad.block) ∧ Ex w w'
theorem dw {n : Nat} (hn : n < 18446744073709551616) (w : World) : CallsR Tryz.prog 80 #[.int .u64 (n : Int)] w (RetN w (digs n)) := by
 refine aH (args := [_]) Tryz.func80 rfl rfl ?_
 repeat' (first|refine ai rfl ?_|refine aa ?_|refine aj ?_|refine ah rfl ?_|refine ae ?_)
 refine km rfl ?_
 rw [show IntKind.u32.wrap ((n : Nat) : Int) = ((n % 4294967296 : Nat) : Int) from (cT rfl).trans (by simp [IntKind.bits])]
 repeat' (first|refine fY (j := 32) rfl rfl (.inl rfl) ?_|refine ai rfl ?_)
 rw [Nat.shiftRight_eq_div_pow]
 refine d6 rfl (rg (by omega) (by omega)) ?_
 refine rn rfl rfl rfl rfl (fun g w1 hn1 => ⟨fun _ _ => trivial, ?_⟩)
 have hL : Limbs w1 (some ⟨g, 0, none⟩) 2 [n % 4294967296, n / 2 ^ 32] := ⟨hn1.blk.sl, by simp, by intro d hd; simp at hd; omega, by simp⟩
 refine av (cf hL) rfl ?_
 rintro v w2 ⟨rfl, hE2⟩
 refine ⟨fun _ _ => trivial, ?_⟩
 repeat' (first|refine ai rfl ?_|refine aa ?_|refine ae ?_|refine aR ?_)
 exact bK rfl (rt rfl) ⟨_, _, rfl, hL.trim.ext hE2, by intro ad e; cases e; exact hn1.lo, hn1.ex.trans hE2⟩
theorem ig {ls : List Nat} {a : Option Addr} {c : Nat} {w : World} (h : Limbs w a c ls) (h2 : ls.length ≤ 2) :
  CallsR Tryz.prog 79 #[.slice a ls.length c] w fun v w' => v = .int .u64 ((natOf ls : Nat) : Int) ∧ Ex w w' := by
 refine aH (args := [_]) Tryz.func79 rfl rfl ?_
 repeat' (first|refine ai rfl ?_|refine aa ?_|refine aj ?_|refine ah rfl ?_|refine ae ?_|refine bh rfl ?_|refine aA ?_)
 refine aY (ι := Nat) [3, 4, 5, 8, 9, 10, 11, 12, 13, 14, 15, 16, 17, 18, 19, 20] (fun k => [(8, .int .i64 (k : Int)), (3, .int .u64 ((natOf (ls.take k) : Nat) : Int))]) (fun k w' => k ≤ ls.length ∧ w' = w) (fun k => ls.length - k) 0 ⟨rfl, rfl, trivial⟩ ⟨by simp, rfl⟩ ?_
 rintro k ξ w2 ⟨hk, rfl⟩
 have hlt := bT (h.lim.take k)
 have hd := h.lim.getD k
 repeat' (first|(refine aC rfl rfl (h.sl.plain (by simp; omega)) (by omega) ?_)|refine bI rfl h.sl (by omega) ?_|refine d6 rfl (dB (by omega) (by omega)) ?_|refine mJ rfl rfl (by omega) (by omega) ?_|refine ai rfl ?_|refine aa ?_|refine aj ?_|refine ah rfl ?_|refine ae ?_|refine aP rfl (fun hc => ?_) (fun hc => ?_)|refine aA ?_|refine aV ?_|refine aL ?_|refine aW ?_|refine aR ?_|refine aF ?_)
 ·refine jp (j := 32 * k) rfl rfl rfl (by simp only [IntKind.bits]; omega) ?_
  have hkk : k = 0 ∨ k = 1 := by omega
  have hsh : (ls.getD k 0 <<< (32 * k)) % 2 ^ IntKind.u64.bits = ls.getD k 0 <<< (32 * k) := Nat.mod_eq_of_lt (by
   rw [Nat.shiftLeft_eq]; rcases hkk with rfl | rfl <;> simp only [IntKind.bits] <;> omega)
  have hsh2 : ls.getD k 0 <<< (32 * k) < 18446744073709551616 := by rw [Nat.shiftLeft_eq]; rcases hkk with rfl | rfl <;> omega
  have hlt' : natOf (ls.take k) < 2 ^ (32 * k) := by
   simp only [List.length_take, Nat.min_eq_left hk] at hlt
   rcases hkk with rfl | rfl <;> simpa using hlt
  rw [hsh]
  refine ko rfl rfl rfl (by simp only [IntKind.bits]; rcases hkk with rfl | rfl <;> omega) hsh2 ?_
  repeat' (first|refine ai rfl ?_|refine aa ?_|refine ah rfl ?_|refine ae ?_|refine aZ rfl rfl (by omega) (by omega) ?_|refine aK ?_)
  refine ⟨⟨k + 1, ⟨by omega, rfl⟩, by omega, rfl, ?_, trivial⟩, (by (repeat (first|exact aE _ _ _|refine aw rfl ?_|refine au rfl ?_|refine ak rfl ?_|refine ao rfl ?_)))⟩
  show Value.int .u64 _ = _
  congr 2
  have e := dX (ls := ls) (k := k + 1) (by omega) (by omega)
  rw [Nat.add_sub_cancel] at e
  rw [e, dm, Nat.or_comm, ← Nat.shiftLeft_add_eq_or_of_lt hlt', Nat.shiftLeft_eq]
  simp only [List.length_take, Nat.min_eq_left hk]
  rcases hkk with rfl | rfl <;> omega
 ·obtain rfl : k = ls.length := by omega
  refine bK rfl (rt rfl) ⟨?_, Ex.refl _⟩
  show Value.int .u64 _ = _
  rw [List.take_length]
end Go.Proofs.YtppipmkpmmdcjaaGreat
namespace Go.Proofs.YtppipmkpmmdcjaaGreat
open Go.W Go.LM
def sgn (neg : Bool) (n : Nat) : Int := if neg then -(n : Int) else n
abbrev intL (neg : Bool) (a : Option Addr) (n c : Nat) : List Value := [.bool neg, .slice a n c]
def IntC (lo : Nat) (w : World) (v : Value) (z : Int) : Prop :=
 ∃ neg a c ls, v = .agg (intL neg a ls.length c).toArray ∧ Limbs w a c ls ∧ z = sgn neg (natOf ls) ∧ Canon ls ∧ (neg = true → ls ≠ []) ∧ ∀ ad, a = some ad → lo ≤ ad.block
theorem IntC.ext {lo : Nat} {w w' : World} {v : Value} {z : Int} (h : IntC lo w v z) (e : Ex w w') : IntC lo w' v z := by obtain ⟨neg, a, c, ls, h1, h2, h3⟩ := h; exact ⟨neg, a, c, ls, h1, h2.ext e, h3⟩
theorem IntC.mono {lo lo' : Nat} {w : World} {v : Value} {z : Int} (h : IntC lo w v z) (hl : lo' ≤ lo) : IntC lo' w v z := by
 obtain ⟨neg, a, c, ls, h1, h2, h3, h4, h5, h6⟩ := h; exact ⟨neg, a, c, ls, h1, h2, h3, h4, h5, fun ad e => by have := h6 ad e; omega⟩
theorem IntC.chg {lo g : Nat} {w w' : World} {v : Value} {z : Int} (h : IntC lo w v z) (e : Chg g w w') (hg : g < lo) : IntC lo w' v z := by
 obtain ⟨neg, a, c, ls, h1, h2, h3, h4, h5, h6⟩ := h; exact ⟨neg, a, c, ls, h1, h2.chg e (fun ad ea => by have := h6 ad ea; omega), h3, h4, h5, h6⟩
def RetZ (w : World) (z : Int) (v : Value) (w' : World) : Prop := IntC w.heap.size w' v z ∧ Ex w w'
theorem cF {ls : List Nat} {a : Option Addr} {c lo : Nat} {w : World} (h : Limbs w a c ls) (hc : Canon ls) (hlo : ∀ ad, a = some ad → lo ≤ ad.block) (neg : Bool) :
  CallsR Tryz.prog 51 #[.bool neg, .slice a ls.length c] w fun v w' => IntC lo w' v (sgn neg (natOf ls)) ∧ Ex w w' := by
 refine aH (args := [_, _]) Tryz.func51 rfl rfl ?_
 have hcan := hc
 clear hc
 repeat' (first|refine aB (fun g w1 hn => ⟨fun _ _ => trivial, ?_⟩)|refine ai rfl ?_|refine aa ?_|refine aj ?_|refine ah rfl ?_|refine ae ?_|refine bh rfl ?_|refine aP rfl (fun hc => ?_) (fun hc => ?_)|refine aF ?_)
 ·have hb : Blk w1 g 33 (intL false none 0 0) := hn.blk
  refine cL (cs := intL false none 0 0) rfl ?_
  refine ax (n := 2) rfl rfl rfl rfl hb rfl (fun w2 hc2 hb2 => ⟨fun _ _ => trivial, ?_⟩)
  repeat' (first|refine aa ?_|refine ae ?_|refine aR ?_|refine bv ?_)
  have hl : ls = [] := List.eq_nil_of_length_eq_zero (by omega)
  subst hl
  refine bK rfl (rc rfl rfl hb2) ⟨⟨false, none, 0, [], rfl, Limbs.nil _ _ _, ?_, rfl, by simp, by simp⟩, hn.ex.chg hc2 hn.lo⟩
  cases neg <;> rfl
 ·have hb : Blk w1 g 33 (intL false none 0 0) := hn.blk
  refine cL (cs := intL neg a ls.length c) rfl ?_
  refine ax (n := 2) rfl rfl rfl rfl hb rfl (fun w2 hc2 hb2 => ⟨fun _ _ => trivial, ?_⟩)
  repeat' (first|refine aa ?_|refine ae ?_|refine aR ?_)
  have hE := hn.ex.chg hc2 hn.lo
  exact bK rfl (rc rfl rfl hb2) ⟨⟨neg, a, c, ls, rfl, h.ext hE, rfl, hcan, fun _ e => hc (by rw [e]; rfl), hlo⟩, hE⟩
theorem cG {z : Int} (h1 : -9223372036854775808 ≤ z) (h2 : z ≤ 9223372036854775807) (w : World) : CallsR Tryz.prog 64 #[.int .i64 z] w (RetZ w z) := by
 refine aH (args := [_]) Tryz.func64 rfl rfl ?_
 repeat' (first|refine aB (fun g w1 hn => ⟨fun _ _ => trivial, ?_⟩)|refine ai rfl ?_|refine aa ?_|refine aj ?_|refine ah rfl ?_|refine ae ?_|refine aP rfl (fun hc => ?_) (fun hc => ?_)|refine aF ?_)
 ·have hb : Blk w1 g 33 (intL false none 0 0) := hn.blk
  refine km rfl ?_
  refine oR rfl ?_
  obtain ⟨n, rfl⟩ : ∃ n : Nat, z = -(n : Int) := ⟨(-z).toNat, by omega⟩
  rw [show IntKind.u64.wrap (-IntKind.u64.wrap (-(n : Int))) = ((n : Nat) : Int) by
   rw [cT rfl, cT rfl]; simp only [IntKind.bits]; omega]
  refine av (dw (by omega) _) rfl ?_
  rintro v w2 ⟨a, c, rfl, hL, hf, hE2⟩
  refine ⟨fun _ _ => trivial, ?_⟩
  refine av (cF hL (dq _) hf true) rfl ?_
  rintro v w3 ⟨hI, hE3⟩
  obtain ⟨neg, a', c', ls, rfl, hI'⟩ := id hI
  refine ⟨fun _ _ => trivial, ?_⟩
  refine ax (n := 2) rfl rfl rfl rfl ((hb.ext hE2).ext hE3) rfl (fun w4 hc4 hb4 => ⟨fun _ _ => trivial, ?_⟩)
  repeat' (first|refine aa ?_|refine ae ?_|refine aR ?_|refine bv ?_)
  have hl := hn.lo
  have hh := hn.hi
  refine bK rfl (rc rfl rfl hb4) ⟨?_, ((hn.ex.trans hE2).trans hE3).chg hc4 hl⟩
  have := (hI.chg hc4 hh).mono hn.ex.size
  rwa [dE] at this
 ·have hb : Blk w1 g 33 (intL false none 0 0) := hn.blk
  obtain ⟨n, rfl⟩ : ∃ n : Nat, z = (n : Int) := ⟨z.toNat, by omega⟩
  refine d6 rfl (dB (by omega) (by omega)) ?_
  refine av (dw (by omega) _) rfl ?_
  rintro v w2 ⟨a, c, rfl, hL, hf, hE2⟩
  refine ⟨fun _ _ => trivial, ?_⟩
  refine av (cF hL (dq _) hf false) rfl ?_
  rintro v w3 ⟨hI, hE3⟩
  obtain ⟨neg, a', c', ls, rfl, hI'⟩ := id hI
  refine ⟨fun _ _ => trivial, ?_⟩
  refine ax (n := 2) rfl rfl rfl rfl ((hb.ext hE2).ext hE3) rfl (fun w4 hc4 hb4 => ⟨fun _ _ => trivial, ?_⟩)
  repeat' (first|refine aa ?_|refine ae ?_|refine aR ?_)
  have hl := hn.lo
  have hh := hn.hi
  refine bK rfl (rc rfl rfl hb4) ⟨?_, ((hn.ex.trans hE2).trans hE3).chg hc4 hl⟩
  have := (hI.chg hc4 hh).mono hn.ex.size
  rwa [dE] at this
end Go.Proofs.YtppipmkpmmdcjaaGreat
namespace Go.Proofs.YtppipmkpmmdcjaaGreat
open Go.W Go.LM
def cmpZ (m n : Nat) : Int := if m < n then -1 else if n < m then 1 else 0
theorem cU {ls : List Nat} {k : Nat} (h : k < ls.length) : natOf (ls.drop k) = ls.getD k 0 + 4294967296 * natOf (ls.drop (k + 1)) := by
 rw [List.drop_eq_getElem_cons h, natOf, List.getD_eq_getElem?_getD, List.getElem?_eq_getElem h]; rfl
theorem dk (ls : List Nat) {k : Nat} (h : k ≤ ls.length) : natOf ls = natOf (ls.take k) + 4294967296 ^ k * natOf (ls.drop k) := by
 conv => lhs; rw [← List.take_append_drop k ls, cP]
 simp [Nat.min_eq_left h]
theorem fe {a b : Nat} (h : a ≤ b) : 4294967296 ^ a ≤ 4294967296 ^ b := Nat.pow_le_pow_right (by decide) h
theorem eT {a b : List Nat} (ha : Lim a) (hb : Canon b) (h : a.length < b.length) : natOf a < natOf b := by
 have h1 := bT ha
 have h2 := kv hb (by intro e; rw [e] at h; simp at h)
 have := fe (show a.length ≤ b.length - 1 by omega)
 omega
theorem fp {a b : List Nat} {i : Nat} (ha : Lim a) (hl : a.length = b.length) (hi : i < a.length) (he : natOf (a.drop (i + 1)) = natOf (b.drop (i + 1))) (h : a.getD i 0 < b.getD i 0) : natOf a < natOf b := by
 rw [dk a (k := i) (by omega), dk b (k := i) (by omega), cU (ls := a) hi, cU (ls := b) (k := i) (by omega), he]
 have h1 := bT (ha.take i)
 simp only [List.length_take, Nat.min_eq_left (Nat.le_of_lt hi)] at h1
 have h2 : 4294967296 ^ i * (a.getD i 0 + 1) ≤ 4294967296 ^ i * b.getD i 0 := Nat.mul_le_mul_left _ h
 rw [Nat.mul_add, Nat.mul_add]
 rw [Nat.mul_add] at h2
 omega
theorem dP {la lb : List Nat} {a b : Option Addr} {c d : Nat} {w : World} (ha : Limbs w a c la) (hb : Limbs w b d lb) (ca : Canon la) (cb : Canon lb) :
  CallsR Tryz.prog 77 #[.slice a la.length c, .slice b lb.length d] w fun v w' => v = .int .i64 (cmpZ (natOf la) (natOf lb)) ∧ Ex w w' := by
 have hla := ha.len
 refine aH (args := [_, _]) Tryz.func77 rfl rfl ?_
 repeat' (first|refine ai rfl ?_|refine aa ?_|refine aj ?_|refine ah rfl ?_|refine ae ?_|refine bh rfl ?_|refine cO rfl rfl (by omega) (by omega) ?_|refine aP rfl (fun hc => ?_) (fun hc => ?_)|refine aA ?_|refine aK ?_|refine aR ?_|refine bv ?_|refine cN ?_|refine aF ?_)
 ·refine bK rfl (rt rfl) ⟨?_, Ex.refl _⟩
  rw [cmpZ, if_pos (eT ha.lim cb (by omega))]; rfl
 ·refine bK rfl (rt rfl) ⟨?_, Ex.refl _⟩
  have := eT hb.lim ca (by omega)
  rw [cmpZ, if_neg (by omega), if_pos this]; rfl
 ·have hl : la.length = lb.length := by omega
  refine aY (ι := Nat) [4, 5, 21, 22, 23, 24, 25, 26, 27, 28, 29, 30, 31, 32, 33, 34, 35, 36, 37, 38, 39, 40, 41, 42, 43, 44] (fun k => [(5, .int .i64 ((k : Int) - 1))]) (fun k w' => k ≤ la.length ∧ Ex w w' ∧ natOf (la.drop k) = natOf (lb.drop k)) (fun k => k) la.length ⟨rfl, trivial⟩
   ⟨Nat.le_refl _, Ex.refl _, by rw [List.drop_length, hl, List.drop_length]⟩ ?_
  rintro k ξ w2 ⟨hk, hE, hT⟩
  repeat' (first|refine ai rfl ?_|refine aa ?_|refine aj ?_|refine ah rfl ?_|refine ae ?_|refine aP rfl (fun hc => ?_) (fun hc => ?_)|refine aA ?_|refine aV ?_|refine aL ?_|refine aW ?_|refine aR ?_|refine aF ?_)
  ·obtain ⟨j, rfl⟩ : ∃ j, k = j + 1 := ⟨k - 1, by omega⟩
   rw [show ((j + 1 : Nat) : Int) - 1 = (j : Int) by omega]
   refine bi (late := []) (plan := [(0, none), (1, none), (2, none), (3, none), (4, none), (5, none), (6, none), (7, none), (8, none), (9, none)]) (fun w' => Ex w w') bB (by kernel_rfl) hE.drew ?_
   repeat' (first|(refine aC (j := j) rfl rfl (ha.sl.plain (by simp; omega)) (by omega) ?_)|(refine aC (j := j) rfl rfl (hb.sl.plain (by simp; omega)) (by omega) ?_)|refine bI rfl (fun _ h => ha.sl.ext h) (by omega) ?_|refine bI rfl (fun _ h => hb.sl.ext h) (by omega) ?_|refine ai rfl ?_|refine aa ?_|refine aj ?_|refine ah rfl ?_|refine ae ?_|refine aP rfl (fun hc => ?_) (fun hc => ?_)|refine aR ?_|refine bv ?_|refine cN ?_)
   ·refine bK rfl (rt rfl) ⟨?_, hE.drew⟩
    rw [cmpZ, if_pos (fp (i := j) ha.lim hl (by omega) hT (by omega))]; rfl
   ·refine bi (late := []) (plan := [(0, none), (1, none), (2, none), (3, none), (4, none), (5, none), (6, none), (7, none), (8, none), (9, none)]) (fun w' => Ex w w') bB (by kernel_rfl) hE.drew.drew ?_
    repeat' (first|(refine aC (j := j) rfl rfl (ha.sl.plain (by simp; omega)) (by omega) ?_)|(refine aC (j := j) rfl rfl (hb.sl.plain (by simp; omega)) (by omega) ?_)|refine bI rfl (fun _ h => ha.sl.ext h) (by omega) ?_|refine bI rfl (fun _ h => hb.sl.ext h) (by omega) ?_|refine ai rfl ?_|refine aa ?_|refine aj ?_|refine ah rfl ?_|refine ae ?_|refine cO rfl rfl (by omega) (by omega) ?_|refine aP rfl (fun hc => ?_) (fun hc => ?_)|refine aK ?_|refine aR ?_|refine bv ?_|refine cN ?_|refine aF ?_)
    ·refine bK rfl (rt rfl) ⟨?_, hE.drew.drew⟩
     have := fp (i := j) hb.lim hl.symm (by omega) hT.symm (by omega)
     rw [cmpZ, if_neg (by omega), if_pos this]; rfl
    ·refine ⟨⟨j, ⟨by omega, hE.drew.drew, ?_⟩, by omega, rfl, trivial⟩, (by (repeat (first|exact aE _ _ _|refine aw rfl ?_|refine au rfl ?_|refine ak rfl ?_|refine ao rfl ?_)))⟩
     rw [cU (ls := la) (k := j) (by omega), cU (ls := lb) (k := j) (by omega), hT, show la.getD j 0 = lb.getD j 0 by omega]
  ·obtain rfl : k = 0 := by omega
   simp only [List.drop_zero] at hT
   refine bK rfl (rt rfl) ⟨?_, hE⟩
   rw [cmpZ, if_neg (by omega), if_neg (by omega)]; rfl
theorem iU {la lb : List Nat} {a b : Option Addr} {c d : Nat} {w : World} (ha : Limbs w a c la) (hb : Limbs w b d lb) (ca : Canon la) (cb : Canon lb) (h2 : la.length ≤ 2) (hpos : 0 < natOf lb) (hge : natOf lb ≤ natOf la) :
  CallsR Tryz.prog 48 #[.slice a la.length c, .slice b lb.length d] w fun v w' => ∃ a1 c1 a2 c2, v = .tuple #[.slice a1 (digs (natOf la / natOf lb)).length c1, .slice a2 (digs (natOf la % natOf lb)).length c2] ∧
   Limbs w' a1 c1 (digs (natOf la / natOf lb)) ∧ Limbs w' a2 c2 (digs (natOf la % natOf lb)) ∧ (∀ ad, a1 = some ad → w.heap.size ≤ ad.block) ∧ (∀ ad, a2 = some ad → w.heap.size ≤ ad.block) ∧ Ex w w' := by
 have hlb : lb.length ≤ la.length := by
  rcases Nat.lt_or_ge la.length lb.length with h | h
  ·have := eT ha.lim cb h; omega
  ·exact h
 have hlt := bT ha.lim
 have h64 : natOf la < 18446744073709551616 := by
  have := fe (a := la.length) (b := 2) h2
  omega
 refine aH (args := [_, _]) Tryz.func48 rfl rfl ?_
 repeat' (first|refine ai rfl ?_|refine aa ?_|refine aj ?_|refine ah rfl ?_|refine ae ?_|refine aA ?_)
 refine av (dP ha hb ca cb) rfl ?_
 rintro v w1 ⟨rfl, hE1⟩
 refine ⟨fun _ _ => trivial, ?_⟩
 have hcz : 0 ≤ cmpZ (natOf la) (natOf lb) := by unfold cmpZ; rw [if_neg (by omega)]; split <;> omega
 repeat' (first|refine ai rfl ?_|refine aa ?_|refine aj ?_|refine ah rfl ?_|refine ae ?_|refine bh rfl ?_|refine cO rfl rfl (by omega) (by omega) ?_|refine aP rfl (fun hc => ?_) (fun hc => ?_)|refine aK ?_|refine aF ?_)
 all_goals try (exfalso; omega)
 ·refine av (ig (ha.ext hE1) h2) rfl ?_
  rintro v w2 ⟨rfl, hE2⟩
  refine ⟨fun _ _ => trivial, ?_⟩
  repeat' (first|refine ai rfl ?_)
  refine av (ig ((hb.ext hE1).ext hE2) (by omega)) rfl ?_
  rintro v w3 ⟨rfl, hE3⟩
  refine ⟨fun _ _ => trivial, ?_⟩
  repeat' (first|refine ai rfl ?_|refine aa ?_|refine aj ?_|refine ae ?_)
  have hE := ((hE1.trans hE2).trans hE3)
  refine bi (late := [3, 7]) (plan := [(0, none), (1, none), (2, none), (4, none), (5, none), (6, none), (3, some false), (7, some false), (8, none), (9, none)]) (fun w' => Ex w w') bB (by kernel_rfl) hE.drew ?_
  repeat' (first|refine oS rfl rfl (by omega) (by omega) (by omega) ?_|refine jH rfl rfl (by omega) (by omega) ?_|refine ai rfl ?_)
  refine av (dw (n := natOf la / natOf lb) (Nat.lt_of_le_of_lt (Nat.div_le_self _ _) h64) _) rfl ?_
  rintro v w4 ⟨a1, c1, rfl, hL1, hf1, hE4⟩
  refine ⟨fun _ h => h.trans hE4, ?_⟩
  refine av (dw (n := natOf la % natOf lb) (Nat.lt_of_le_of_lt (Nat.mod_le _ _) h64) _) rfl ?_
  rintro v w5 ⟨a2, c2, rfl, hL2, hf2, hE5⟩
  refine ⟨fun _ h => h.trans hE5, ?_⟩
  repeat' (first|refine ai rfl ?_|refine aa ?_|refine ae ?_|refine aR ?_|refine bv ?_|refine cN ?_)
  have s1 := hE.size
  have s2 : w3.drew.heap.size = w3.heap.size := rfl
  have s3 := hE4.size
  exact eN rfl (rt rfl) (rt rfl) ⟨a1, c1, a2, c2, rfl, hL1.ext hE5, hL2, fun ad e => by have := hf1 ad e; omega, fun ad e => by have := hf2 ad e; omega, (hE.drew.trans hE4).trans hE5⟩
theorem iV {la lb : List Nat} {a b : Option Addr} {c d : Nat} {w : World} (ha : Limbs w a c la) (hb : Limbs w b d lb) (h2 : la.length ≤ 1) (h3 : lb.length ≤ 1) :
  CallsR Tryz.prog 53 #[.slice a la.length c, .slice b lb.length d] w (RetN w (digs (natOf la * natOf lb))) := by
 have h64a : natOf la < 4294967296 := by
  have := bT ha.lim
  have := fe (a := la.length) (b := 1) h2
  omega
 have h64b : natOf lb < 4294967296 := by
  have := bT hb.lim
  have := fe (a := lb.length) (b := 1) h3
  omega
 have hm : natOf la * natOf lb < 18446744073709551616 := by
  have : natOf la * natOf lb ≤ 4294967295 * 4294967295 := Nat.mul_le_mul (by omega) (by omega)
  omega
 refine aH (args := [_, _]) Tryz.func53 rfl rfl ?_
 repeat' (first|refine ai rfl ?_|refine aa ?_|refine aj ?_|refine ah rfl ?_|refine ae ?_|refine bh rfl ?_|refine bR rfl rfl ?_|refine cB rfl rfl ?_|refine eL rfl rfl (fun hc => ?_) (fun hc => ?_)|refine aZ rfl rfl (by omega) (by omega) ?_|refine ay rfl ?_|refine aP rfl (fun hc => ?_) (fun hc => ?_)|refine aF ?_)
 all_goals try (exfalso; omega)
 refine av (ig ha (by omega)) rfl ?_
 rintro v w2 ⟨rfl, hE2⟩
 refine ⟨fun _ _ => trivial, ?_⟩
 repeat' (first|refine ai rfl ?_)
 refine av (ig (hb.ext hE2) (by omega)) rfl ?_
 rintro v w3 ⟨rfl, hE3⟩
 refine ⟨fun _ _ => trivial, ?_⟩
 refine pO rfl rfl ?_
 rw [← Int.natCast_mul, dB (by omega) (by omega)]
 refine av (dw hm _) rfl ?_
 rintro v w5 ⟨a5, c5, rfl, hL5, hf5, hE5⟩
 refine ⟨fun _ _ => trivial, ?_⟩
 repeat' (first|refine ai rfl ?_|refine aa ?_|refine ae ?_|refine aR ?_|refine bv ?_)
 have hE := hE2.trans hE3
 have s1 := hE.size
 exact bK rfl (rt rfl) ⟨a5, c5, rfl, hL5, fun ad e => by have := hf5 ad e; omega, hE.trans hE5⟩
end Go.Proofs.YtppipmkpmmdcjaaGreat
namespace Go.Proofs.YtppipmkpmmdcjaaGreat
open Go.W Go.LM
theorem cR {ls : List Nat} (hc : Canon ls) {k : Nat} (h : natOf ls < 4294967296 ^ k) : ls.length ≤ k := by
 by_cases hne : ls = []
 ·subst hne; simp
 ·have h1 := kv hc hne
  rcases Nat.lt_or_ge k ls.length with h2 | h2
  ·have := fe (show k ≤ ls.length - 1 by omega); omega
  ·exact h2
theorem ef (neg : Bool) (n : Nat) : (sgn neg n).natAbs = n := by unfold sgn; split <;> simp
end Go.Proofs.YtppipmkpmmdcjaaGreat
namespace Go.LM
abbrev B : Nat := 4294967296
theorem cJ : ∀ {l : List Nat} {k v : Nat}, k < l.length → natOf (l.set k v) + l.getD k 0 * 4294967296 ^ k = natOf l + v * 4294967296 ^ k
 | [], k, v, h => by simp at h
 | d :: l, 0, v, _ => by simp [natOf]; omega
 | d :: l, k + 1, v, h => by
  have ih := cJ (l := l) (k := k) (v := v) (by simpa using h)
  simp only [List.set_cons_succ, natOf, List.getD_cons_succ, Nat.pow_succ]
  have e1 : l.getD k 0 * (4294967296 ^ k * 4294967296) = 4294967296 * (l.getD k 0 * 4294967296 ^ k) := by rw [← Nat.mul_assoc, Nat.mul_comm]
  have e2 : v * (4294967296 ^ k * 4294967296) = 4294967296 * (v * 4294967296 ^ k) := by rw [← Nat.mul_assoc, Nat.mul_comm]
  rw [e1, e2]
  omega
theorem Lim.set {l : List Nat} (h : Lim l) {k v : Nat} (hv : v < 4294967296) : Lim (l.set k v) := fun d hd => by
 rcases List.mem_or_eq_of_mem_set hd with h' | h'
 ·exact h d h'
 ·omega
theorem Lim.zeros (n : Nat) : Lim (List.replicate n 0) := fun d hd => by rw [List.eq_of_mem_replicate hd]; decide
theorem ct {l : List Nat} {k j v : Nat} (h : k ≠ j) : (l.set k v).getD j 0 = l.getD j 0 := by simp [List.getD_eq_getElem?_getD, List.getElem?_set_ne h]
theorem jK {l : List Nat} {k v : Nat} (h : k < l.length) : (l.set k v).getD k 0 = v := by simp [List.getD_eq_getElem?_getD, h]
theorem cZ {l : List Nat} {k : Nat} (h : k < l.length) : l.take (k + 1) = l.take k ++ [l.getD k 0] := by
 rw [List.take_succ_eq_append_getElem h, List.getD_eq_getElem?_getD, List.getElem?_eq_getElem h]; rfl
theorem bS {l : List Nat} {k : Nat} (h : k < l.length) : natOf (l.take (k + 1)) = natOf (l.take k) + l.getD k 0 * 4294967296 ^ k := by
 rw [cZ h, dm]
 simp only [List.length_take, Nat.min_eq_left (Nat.le_of_lt h)]
 rw [Nat.mul_comm]
theorem jr {x y c r : Nat} (hx : x < 4294967296) (hy : y < 4294967296) (hc : c < 4294967296) (hr : r < 4294967296) : c + (x * y + r) < 18446744073709551616 := by
 have : x * y ≤ 4294967295 * 4294967295 := Nat.mul_le_mul (by omega) (by omega)
 omega
theorem kw {P : List Nat} {k c x y N : Nat} (hk : k < P.length) (h : natOf P + c * 4294967296 ^ k = N) :
  natOf (P.set k ((c + (x * y + P.getD k 0)) % 4294967296)) + (c + (x * y + P.getD k 0)) / 4294967296 * 4294967296 ^ (k + 1) = N + x * y * 4294967296 ^ k := by
 have h1 := cJ (l := P) (v := (c + (x * y + P.getD k 0)) % 4294967296) hk
 generalize x * y = m at *
 generalize P.getD k 0 = r at *
 have h2 : (c + (m + r)) % 4294967296 * 4294967296 ^ k + (c + (m + r)) / 4294967296 * 4294967296 ^ (k + 1) = c * 4294967296 ^ k + m * 4294967296 ^ k + r * 4294967296 ^ k := by
  rw [Nat.pow_succ, Nat.mul_comm (4294967296 ^ k) 4294967296, ← Nat.mul_assoc, ← Nat.add_mul, ← Nat.add_mul, ← Nat.add_mul]
  congr 1
  omega
 omega
end Go.LM
namespace Go.Proofs.YtppipmkpmmdcjaaGreat
open Go.W Go.LM
theorem Limbs.of_blk {w : World} {g c : Nat} {Tb : Nat} {ls : List Nat} (h : Blk w g Tb (limbsL ls)) (hc : ls.length ≤ c) (hl : Lim ls) (hn : ls.length ≤ 17592186044416) : Limbs w (some ⟨g, 0, none⟩) c ls := ⟨h.sl, hc, hl, hn⟩
set_option maxHeartbeats 1000000 in
theorem jL {la lb : List Nat} {a b : Option Addr} {c d : Nat} {w : World} (ha : Limbs w a c la) (hb : Limbs w b d lb) (hlen : la.length + lb.length ≤ 17592186044416) :
  CallsR Tryz.prog 53 #[.slice a la.length c, .slice b lb.length d] w fun v w' => ∃ ls, natOf ls = natOf la * natOf lb ∧ Canon ls ∧ ls.length ≤ la.length + lb.length + 2 ∧ RetN w ls v w' := by
 by_cases hsm : la.length ≤ 1 ∧ lb.length ≤ 1
 ·refine (iV ha hb hsm.1 hsm.2).mono fun v w' h => ⟨_, ?_, dq _, ?_, h⟩
  ·rw [dE]
  ·have := rr (natOf la * natOf lb); omega
 have hla := ha.len
 have hlb := hb.len
 refine aH (args := [_, _]) Tryz.func53 rfl rfl ?_
 repeat' (first|refine fE rfl rfl (by omega) ?_|refine eM rfl rfl (by omega) (by omega) (fun g w1 hn => ⟨fun _ _ => trivial, ?_⟩)|refine ai rfl ?_|refine aa ?_|refine aj ?_|refine ah rfl ?_|refine ae ?_|refine bh rfl ?_|refine bR rfl rfl ?_|refine cB rfl rfl ?_|refine eL rfl rfl (fun hc => ?_) (fun hc => ?_)|refine ay rfl ?_|refine aP rfl (fun hc => ?_) (fun hc => ?_)|refine aA ?_|refine aF ?_)
 all_goals try (exfalso; omega)
 all_goals
  refine aY (ι := Nat × List Nat) [6, 7, 8, 9, 10, 11, 34, 35, 36, 37, 38, 39, 40, 41, 42, 43, 44, 45, 46, 47, 48, 49, 50, 51, 52, 53, 54, 55, 56, 57, 58, 59, 60, 61, 62, 63, 64, 65, 66, 67, 68, 69, 70, 71, 72, 73, 74, 75, 76, 77, 78, 79, 80, 81, 82, 83] (fun s => [(34, .int .i64 (s.1 : Int))])
   (fun s w' => s.1 ≤ la.length ∧ Ex w w' ∧ Blk w' g 53 (limbsL s.2) ∧ s.2.length = la.length + lb.length ∧ Lim s.2 ∧ natOf s.2 = natOf (la.take s.1) * natOf lb ∧ ∀ j, s.1 + lb.length ≤ j → s.2.getD j 0 = 0) (fun s => la.length - s.1)
   (0, List.replicate (la.length + lb.length) 0) ⟨rfl, trivial⟩ ⟨by simp, hn.ex, hn.blk, by simp, Lim.zeros _, by simp [cV, natOf], fun j _ => by simp [List.getD_eq_getElem?_getD, List.getElem?_replicate]; split <;> rfl⟩ ?_
  rintro ⟨i, ps⟩ ξ w2 ⟨hi, hE, hbk, hpl, hpL, hpn, hpz⟩
  simp only at hi hbk hpl hpL hpn hpz
  show CW _ _ _ _ (over [(34, .int .i64 (i : Int))] _) w2
  have hxl := ha.lim.getD i
  repeat' (first|(refine aC rfl rfl (ha.sl.plain (by simp; omega)) (by omega) ?_)|refine bI rfl (ha.sl.ext hE) (by omega) ?_|refine ai rfl ?_|refine aa ?_|refine aj ?_|refine ah rfl ?_|refine ae ?_|refine bh rfl ?_|refine aZ rfl rfl (by omega) (by omega) ?_|refine aP rfl (fun hc => ?_) (fun hc => ?_)|refine aA ?_|refine aV ?_|refine aL ?_|refine aW ?_|refine aF ?_)
  ·have h0 : la.getD i 0 = 0 := by omega
   refine ⟨⟨(i + 1, ps), ⟨by simp only; omega, hE, hbk, hpl, hpL, ?_, fun j hj => hpz j (by simp only at hj; omega)⟩, by simp only; omega, rfl, trivial⟩, (by (repeat (first|exact aE _ _ _|refine aw rfl ?_|refine au rfl ?_|refine ak rfl ?_|refine ao rfl ?_)))⟩
   simp only
   rw [hpn, bS (by omega), h0, Nat.zero_mul, Nat.add_zero]
  ·refine lL (l := i) (h := i + lb.length + 1) rfl rfl (by show Value.int .i64 ((i : Int) + (lb.length : Int) + 1) = _; rfl) (by omega) (by omega) (by omega) ?_
   rw [Nat.zero_add, Nat.mul_one, show i + lb.length + 1 - i = lb.length + 1 by omega]
   repeat' (first|refine ai rfl ?_|refine aa ?_|refine aj ?_|refine ah rfl ?_|refine ae ?_|refine bh rfl ?_|refine aA ?_)
   refine aY (ι := Nat × List Nat × Nat) [9, 10, 11, 51, 52, 53, 54, 55, 56, 57, 58, 59, 60, 61, 62, 63, 64, 65, 66, 67, 68, 69, 70, 71, 72, 73, 74, 75, 76] (fun s => [(51, .int .i64 (s.1 : Int)), (9, .int .u64 (s.2.2 : Int))])
    (fun s w' => s.1 ≤ lb.length ∧ Ex w w' ∧ Blk w' g 53 (limbsL s.2.1) ∧ s.2.1.length = la.length + lb.length ∧ Lim s.2.1 ∧ s.2.2 < 4294967296 ∧ natOf s.2.1 + s.2.2 * 4294967296 ^ (i + s.1) = natOf ps + la.getD i 0 * natOf (lb.take s.1) * 4294967296 ^ i ∧ ∀ j, i + s.1 ≤ j → s.2.1.getD j 0 = ps.getD j 0) (fun s => lb.length - s.1)
    (0, ps, 0) ⟨rfl, rfl, trivial⟩ ⟨by simp, hE, hbk, hpl, hpL, by simp, by simp [natOf], fun j _ => rfl⟩ ?_
   rintro ⟨j, qs, cy⟩ ξ2 w3 ⟨hj, hE3, hb3, hql, hqL, hcy, hqn, hqz⟩
   simp only at hj hb3 hql hqL hcy hqn hqz
   show CW _ _ _ _ (over [(51, .int .i64 (j : Int)), (9, .int .u64 (cy : Int))] _) w3
   have hyl := hb.lim.getD j
   have hrl := hqL.getD (i + j)
   have hfit := jr hxl hyl hcy hrl
   repeat' (first|(refine aC rfl rfl (hb.sl.plain (by simp; omega)) (by omega) ?_)|refine bI rfl (hb.sl.ext hE3) (by omega) ?_|refine aC rfl rfl ⟨_, _, rfl⟩ (by omega) ?_|refine nG rfl hb3 (by omega) ?_|refine gL rfl (by assumption) ?_|refine ku rfl rfl (by omega) ?_|refine fD rfl rfl (by omega) ?_|refine dD rfl ?_|refine d7 rfl rfl ?_|refine lN rfl rfl hb3 (by omega) (fun w4 hc4 hb4 => ⟨fun _ _ => trivial, ?_⟩)|refine ai rfl ?_|refine aa ?_|refine aj ?_|refine ah rfl ?_|refine ae ?_|refine bh rfl ?_|refine aZ rfl rfl (by omega) (by omega) ?_|refine aP rfl (fun hc => ?_) (fun hc => ?_)|refine aA ?_|refine aV ?_|refine aL ?_|refine aW ?_|refine aK ?_|refine aF ?_)
   ·refine ⟨⟨(j + 1, qs.set (i + j) ((cy + (la.getD i 0 * lb.getD j 0 + qs.getD (i + j) 0)) % 4294967296), (cy + (la.getD i 0 * lb.getD j 0 + qs.getD (i + j) 0)) / 4294967296), ⟨by simp only; omega, hE3.chg hc4 hn.lo, hb4, by simp [hql], hqL.set (Nat.mod_lt _ (by decide)), by simp only; omega, ?_, ?_⟩, by simp only; omega, rfl, rfl, trivial⟩, (by (repeat (first|exact aE _ _ _|refine aw rfl ?_|refine au rfl ?_|refine ak rfl ?_|refine ao rfl ?_)))⟩
    ·have := kw (x := la.getD i 0) (y := lb.getD j 0) (show i + j < qs.length by omega) hqn
     simp only
     rw [show i + (j + 1) = i + j + 1 by omega, this, bS (by omega), Nat.mul_add, Nat.add_mul, Nat.add_assoc, Nat.pow_add]
     congr 2
     rw [← Nat.mul_assoc, Nat.mul_assoc, Nat.mul_comm (4294967296 ^ i), ← Nat.mul_assoc, Nat.mul_assoc (la.getD i 0)]
    ·intro k hk
     simp only at hk ⊢
     rw [ct (by omega), hqz k (by omega)]
   ·obtain rfl : j = lb.length := by omega
    have hz : qs.getD (i + lb.length) 0 = 0 := by rw [hqz _ (Nat.le_refl _)]; exact hpz _ (Nat.le_refl _)
    skip
    rw [Nat.mod_eq_of_lt hcy] at hb4
    refine ⟨⟨(i + 1, qs.set (i + lb.length) cy), ⟨by simp only; omega, hE3.chg hc4 hn.lo, hb4, by simp [hql], hqL.set hcy, ?_, ?_⟩, by simp only; omega, rfl, trivial⟩, (by (repeat (first|exact aE _ _ _|refine aw rfl ?_|refine au rfl ?_|refine ak rfl ?_|refine ao rfl ?_)))⟩
    ·have h1 := cJ (l := qs) (k := i + lb.length) (v := cy) (by omega)
     rw [hz, Nat.zero_mul, Nat.add_zero] at h1
     simp only
     rw [h1, hqn, hpn, List.take_length, bS (by omega), Nat.add_mul]
     congr 1
     rw [Nat.mul_assoc, Nat.mul_assoc, Nat.mul_comm (natOf lb)]
    ·intro k hk
     simp only at hk ⊢
     rw [ct (by omega), hqz k (by omega), hpz k (by omega)]
  ·obtain rfl : i = la.length := by omega
   rw [List.take_length] at hpn
   have hL := Limbs.of_blk (c := la.length + lb.length) hbk (by omega) hpL (by omega)
   have hcall := cf hL
   rw [hpl] at hcall
   skip
   refine av hcall rfl ?_
   rintro v w3 ⟨rfl, hE3⟩
   refine ⟨fun _ _ => trivial, ?_⟩
   repeat' (first|refine ai rfl ?_|refine aa ?_|refine ae ?_|refine aR ?_)
   refine bK rfl (rt rfl) ⟨trimL ps, by rw [bf, hpn], bD _, by have := cI ps; omega, _, _, rfl, hL.trim.ext hE3, fun ad e => by cases e; exact hn.lo, hE.trans hE3⟩
end Go.Proofs.YtppipmkpmmdcjaaGreat
namespace Go.Proofs.YtppipmkpmmdcjaaGreat
open Go.W Go.LM
theorem cz {ls : List Nat} {a : Option Addr} {c : Nat} {w : World} (h : Limbs w a c ls) :
  CallsR Tryz.prog 14 #[.slice a ls.length c] w (RetN w (trimL ls)) := by
 have hlen := h.len
 have hcap := h.cap
 refine aH (args := [_]) Tryz.func14 rfl rfl ?_
 repeat' (first|refine ai rfl ?_|refine aa ?_|refine aj ?_|refine ah rfl ?_|refine ae ?_|refine bh rfl ?_|refine aA ?_)
 refine aY (ι := Nat) [3, 6, 7, 8, 9, 10, 11, 12, 13, 14, 15, 16, 17] (fun k => [(3, .int .i64 (k : Int))]) (fun k w' => k ≤ ls.length ∧ w' = w ∧ trimL (ls.take k) = trimL ls) (fun k => k) ls.length ⟨rfl, trivial⟩ ⟨Nat.le_refl _, rfl, by simp⟩ ?_
 rintro k ξ w2 ⟨hk, rfl, hT⟩
 repeat' (first|(refine aC (j := k - 1) rfl (by show Value.int .i64 ((k : Int) - 1) = _; congr 1; omega) (h.sl.plain (by simp; omega)) (by omega) ?_)|refine bI rfl h.sl (by omega) ?_|refine ai rfl ?_|refine aa ?_|refine aj ?_|refine ah rfl ?_|refine ae ?_|refine bR rfl rfl ?_|refine cB rfl rfl ?_|refine eL rfl rfl (fun hc => ?_) (fun hc => ?_)|refine cO rfl rfl (by omega) (by omega) ?_|refine ay rfl ?_|refine aP rfl (fun hc => ?_) (fun hc => ?_)|refine aA ?_|refine aV ?_|refine aL ?_|refine aW ?_|refine aK ?_|refine aF ?_)
 ·refine ⟨⟨k - 1, ⟨by omega, rfl, ?_⟩, by omega, ?_, trivial⟩, (by (repeat (first|exact aE _ _ _|refine aw rfl ?_|refine au rfl ?_|refine ak rfl ?_|refine ao rfl ?_)))⟩
  ·rw [← hT, dX hk (by omega), show ls.getD (k - 1) 0 = 0 by omega, dO]
  ·show Value.int .i64 ((k : Int) - 1) = _
   congr 1; omega
 all_goals
  have hkk : trimL ls = ls.take k := by
   rw [← hT]
   rcases Nat.eq_zero_or_pos k with rfl | h0
   ·rfl
   ·rw [dX hk (by omega), iE (by omega), ← dX hk (by omega)]
  refine ic rfl rfl (by omega) (by omega) ?_
  rw [Int.toNat_natCast]
  have hL := h.take k
  have hkl : (ls.take k).length = k := by simp [Nat.min_eq_left hk]
  refine ux (E := 53) (y := 4) rfl rfl rfl hL.sl (by simp [Nat.min_eq_left hk]) (mM (fun _ => rfl) _) (by omega) (by omega) (fun a' c' w3 hO3 hE3 => ⟨fun _ _ => trivial, ?_⟩)
  repeat' (first|refine ai rfl ?_|refine aa ?_|refine ae ?_|refine aR ?_)
  refine bK rfl (rt rfl) ?_
  rw [hkk]
  refine ⟨a', c', by rw [hkl]; rfl, ⟨hO3.sl, ?_, hL.lim, hL.len⟩, fun ad e => (hO3.lo ad e).1, hE3⟩
  rw [hkl]
  rcases hO3.2 with ⟨hv, hn⟩ | ⟨g, cap2, cur, hv, hbg, hg, hnc, hcm, hcs, htake⟩
  ·simp only [Value.slice.injEq] at hv; omega
  ·simp only [Value.slice.injEq] at hv; omega
theorem bj {ls : List Nat} {a : Option Addr} {c : Nat} {w : World} (h : Limbs w a c ls) (neg : Bool) :
  CallsR Tryz.prog 24 #[.bool neg, .slice a ls.length c] w (RetZ w (sgn neg (natOf ls))) := by
 refine aH (args := [_, _]) Tryz.func24 rfl rfl ?_
 repeat' (first|refine aB (fun g w1 hn => ⟨fun _ _ => trivial, ?_⟩)|refine ai rfl ?_|refine aa ?_|refine aj ?_|refine ah rfl ?_|refine ae ?_)
 refine av (cz (h.ext hn.ex)) rfl ?_
 rintro v w2 ⟨a2, c2, rfl, hL2, hf2, hE2⟩
 refine ⟨fun _ _ => trivial, ?_⟩
 have hb : Blk w2 g 33 (intL false none 0 0) := Blk.ext (cs := intL false none 0 0) hn.blk hE2
 have l1 := hn.lo
 have l2 := hn.hi
 have l3 := hE2.size
 cases neg
 ·repeat' (first|refine ai rfl ?_|refine aa ?_|refine aj ?_|refine ah rfl ?_|refine ae ?_|refine cB rfl rfl ?_)
  refine cL (cs := intL false a2 (trimL ls).length c2) rfl ?_
  refine ax (n := 2) rfl rfl rfl rfl hb rfl (fun w3 hc3 hb3 => ⟨fun _ _ => trivial, ?_⟩)
  repeat' (first|refine aa ?_|refine ae ?_|refine aR ?_)
  refine bK rfl (rc rfl rfl hb3) ⟨⟨false, a2, c2, trimL ls, rfl, hL2.chg hc3 (fun ad e => by have := hf2 ad e; omega), by rw [bf], bD _, by simp, fun ad e => by have := hf2 ad e; omega⟩, (hn.ex.trans hE2).chg hc3 (by omega)⟩
 ·repeat' (first|refine ai rfl ?_|refine aa ?_|refine aj ?_|refine ah rfl ?_|refine ae ?_|refine bh rfl ?_|refine bR rfl rfl ?_)
  refine cL (cs := intL (decide ((0 : Int) < ((trimL ls).length : Int))) a2 (trimL ls).length c2) rfl ?_
  refine ax (n := 2) rfl rfl rfl rfl hb rfl (fun w3 hc3 hb3 => ⟨fun _ _ => trivial, ?_⟩)
  repeat' (first|refine aa ?_|refine ae ?_|refine aR ?_)
  refine bK rfl (rc rfl rfl hb3) ⟨⟨_, a2, c2, trimL ls, rfl, hL2.chg hc3 (fun ad e => by have := hf2 ad e; omega), ?_, bD _, ?_, fun ad e => by have := hf2 ad e; omega⟩, (hn.ex.trans hE2).chg hc3 (by omega)⟩
  ·by_cases h0 : trimL ls = []
   ·have := cE.1 h0
    simp [h0, this, sgn, natOf]
   ·have : (0 : Int) < ((trimL ls).length : Int) := by
     have := List.length_pos_iff.2 h0; omega
    rw [decide_eq_true this, bf]
  ·intro hd h0
   rw [h0] at hd; simp at hd
theorem eP {n : Nat} (hn : n < 18446744073709551616) (neg : Bool) (w : World) : CallsR Tryz.prog 35 #[.bool neg, .int .u64 (n : Int)] w (RetZ w (sgn neg n)) := by
 refine aH (args := [_, _]) Tryz.func35 rfl rfl ?_
 repeat' (first|refine aB (fun g w1 hn1 => ⟨fun _ _ => trivial, ?_⟩)|refine dD rfl ?_|refine d7 rfl rfl ?_|refine ai rfl ?_|refine aa ?_|refine aj ?_|refine ah rfl ?_|refine ae ?_)
 refine rn rfl rfl rfl rfl (fun g2 w2 hn2 => ⟨fun _ _ => trivial, ?_⟩)
 have hL : Limbs w2 (some ⟨g2, 0, none⟩) 2 [n % 4294967296, n / 4294967296 % 4294967296] := ⟨hn2.blk.sl, by simp, by intro d hd; simp at hd; omega, by simp⟩
 refine av (bj hL neg) rfl ?_
 rintro v w3 ⟨hI, hE3⟩
 obtain ⟨ng, a', c', ls, rfl, hI'⟩ := id hI
 refine ⟨fun _ _ => trivial, ?_⟩
 have hb : Blk w3 g 33 (intL false none 0 0) := Blk.ext (cs := intL false none 0 0) (Blk.ext (cs := intL false none 0 0) hn1.blk hn2.ex) hE3
 have l1 := hn1.lo
 have l2 := hn1.hi
 have l3 := hn2.ex.size
 refine ax (n := 2) rfl rfl rfl rfl hb rfl (fun w4 hc4 hb4 => ⟨fun _ _ => trivial, ?_⟩)
 repeat' (first|refine aa ?_|refine ae ?_|refine aR ?_)
 refine bK rfl (rc rfl rfl hb4) ⟨?_, ((hn1.ex.trans hn2.ex).trans hE3).chg hc4 l1⟩
 have e : natOf [n % 4294967296, n / 4294967296 % 4294967296] = n := by simp [natOf]; omega
 rw [e] at hI
 exact (hI.chg hc4 (by omega)).mono (by omega)
theorem cQ {z : Int} (h1 : -9223372036854775808 ≤ z) (h2 : z ≤ 9223372036854775807) (w : World) : CallsR Tryz.prog 16 #[.int .i64 z] w (RetZ w z) := by
 refine aH (args := [_]) Tryz.func16 rfl rfl ?_
 repeat' (first|refine aB (fun g w1 hn => ⟨fun _ _ => trivial, ?_⟩)|refine ai rfl ?_|refine aa ?_|refine aj ?_|refine ah rfl ?_|refine ae ?_|refine aP rfl (fun hc => ?_) (fun hc => ?_)|refine aF ?_)
 all_goals have hb : Blk w1 g 33 (intL false none 0 0) := hn.blk
 ·refine km rfl ?_
  refine oR rfl ?_
  obtain ⟨n, rfl⟩ : ∃ n : Nat, z = -(n : Int) := ⟨(-z).toNat, by omega⟩
  rw [show IntKind.u64.wrap (-IntKind.u64.wrap (-(n : Int))) = ((n : Nat) : Int) by
   rw [cT rfl, cT rfl]; simp only [IntKind.bits]; omega]
  refine av (eP (by omega) true _) rfl ?_
  rintro v w3 ⟨hI, hE3⟩
  obtain ⟨neg, a', c', ls, rfl, hI'⟩ := id hI
  refine ⟨fun _ _ => trivial, ?_⟩
  refine ax (n := 2) rfl rfl rfl rfl (hb.ext hE3) rfl (fun w4 hc4 hb4 => ⟨fun _ _ => trivial, ?_⟩)
  repeat' (first|refine aa ?_|refine ae ?_|refine aR ?_|refine bv ?_)
  exact bK rfl (rc rfl rfl hb4) ⟨(hI.chg hc4 hn.hi).mono hn.ex.size, (hn.ex.trans hE3).chg hc4 hn.lo⟩
 ·obtain ⟨n, rfl⟩ : ∃ n : Nat, z = (n : Int) := ⟨z.toNat, by omega⟩
  refine d6 rfl (dB (by omega) (by omega)) ?_
  refine av (eP (by omega) false _) rfl ?_
  rintro v w3 ⟨hI, hE3⟩
  obtain ⟨neg, a', c', ls, rfl, hI'⟩ := id hI
  refine ⟨fun _ _ => trivial, ?_⟩
  refine ax (n := 2) rfl rfl rfl rfl (hb.ext hE3) rfl (fun w4 hc4 hb4 => ⟨fun _ _ => trivial, ?_⟩)
  repeat' (first|refine aa ?_|refine ae ?_|refine aR ?_)
  exact bK rfl (rc rfl rfl hb4) ⟨(hI.chg hc4 hn.hi).mono hn.ex.size, (hn.ex.trans hE3).chg hc4 hn.lo⟩
theorem gM {la lb : List Nat} {a b : Option Addr} {c d : Nat} {w : World} (ha : Limbs w a c la) (hb : Limbs w b d lb) (ca : Canon la) (cb : Canon lb) :
  CallsR Tryz.prog 40 #[.slice a la.length c, .slice b lb.length d] w fun v w' => v = .int .i64 (cmpZ (natOf la) (natOf lb)) ∧ Ex w w' := by
 have hla := ha.len
 refine aH (args := [_, _]) Tryz.func40 rfl rfl ?_
 repeat' (first|refine ai rfl ?_|refine aa ?_|refine aj ?_|refine ah rfl ?_|refine ae ?_|refine bh rfl ?_|refine cO rfl rfl (by omega) (by omega) ?_|refine aP rfl (fun hc => ?_) (fun hc => ?_)|refine aA ?_|refine aR ?_|refine bv ?_|refine aF ?_)
 ·refine bK rfl (rt rfl) ⟨?_, Ex.refl _⟩
  rw [cmpZ, if_pos (eT ha.lim cb (by omega))]; rfl
 ·refine bK rfl (rt rfl) ⟨?_, Ex.refl _⟩
  have := eT hb.lim ca (by omega)
  rw [cmpZ, if_neg (by omega), if_pos this]; rfl
 ·have hl : la.length = lb.length := by omega
  refine aY (ι := Nat) [4, 5, 19, 20, 21, 22, 23, 24, 25, 26, 27, 28, 29, 30, 31, 32, 33, 34, 35, 36, 37, 38, 39, 40] (fun k => [(5, .int .i64 ((k : Int) - 1))]) (fun k w' => k ≤ la.length ∧ Ex w w' ∧ natOf (la.drop k) = natOf (lb.drop k)) (fun k => k) la.length ⟨rfl, trivial⟩
   ⟨Nat.le_refl _, Ex.refl _, by rw [List.drop_length, hl, List.drop_length]⟩ ?_
  rintro k ξ w2 ⟨hk, hE, hT⟩
  repeat' (first|refine ai rfl ?_|refine aa ?_|refine aj ?_|refine ah rfl ?_|refine ae ?_|refine aP rfl (fun hc => ?_) (fun hc => ?_)|refine aA ?_|refine aV ?_|refine aL ?_|refine aW ?_|refine aR ?_|refine aF ?_)
  ·obtain ⟨j, rfl⟩ : ∃ j, k = j + 1 := ⟨k - 1, by omega⟩
   rw [show ((j + 1 : Nat) : Int) - 1 = (j : Int) by omega]
   refine bi (late := []) (plan := [(0, none), (1, none), (2, none), (3, none), (4, none), (5, none), (6, none), (7, none), (8, none)]) (fun w' => Ex w w') bB (by kernel_rfl) hE.drew ?_
   repeat' (first|(refine aC (j := j) rfl rfl (ha.sl.plain (by simp; omega)) (by omega) ?_)|(refine aC (j := j) rfl rfl (hb.sl.plain (by simp; omega)) (by omega) ?_)|refine bI rfl (fun _ h => ha.sl.ext h) (by omega) ?_|refine bI rfl (fun _ h => hb.sl.ext h) (by omega) ?_|refine ai rfl ?_|refine aa ?_|refine aj ?_|refine ah rfl ?_|refine ae ?_|refine cO rfl rfl (by omega) (by omega) ?_|refine aP rfl (fun hc => ?_) (fun hc => ?_)|refine aK ?_|refine aF ?_)
   ·refine bi (late := []) (plan := [(0, none), (1, none), (2, none), (3, none), (4, none), (5, none), (6, none), (7, none), (8, none)]) (fun w' => Ex w w') bB (by kernel_rfl) hE.drew.drew ?_
    repeat' (first|(refine aC (j := j) rfl rfl (ha.sl.plain (by simp; omega)) (by omega) ?_)|(refine aC (j := j) rfl rfl (hb.sl.plain (by simp; omega)) (by omega) ?_)|refine bI rfl (fun _ h => ha.sl.ext h) (by omega) ?_|refine bI rfl (fun _ h => hb.sl.ext h) (by omega) ?_|refine ai rfl ?_|refine aa ?_|refine aj ?_|refine ah rfl ?_|refine ae ?_|refine aP rfl (fun hc => ?_) (fun hc => ?_)|refine aR ?_|refine bv ?_|refine cN ?_|refine aF ?_)
    ·refine bK rfl (rt rfl) ⟨?_, hE.drew.drew⟩
     rw [cmpZ, if_pos (fp (i := j) ha.lim hl (by omega) hT (by omega))]; rfl
    ·refine bK rfl (rt rfl) ⟨?_, hE.drew.drew⟩
     have := fp (i := j) hb.lim hl.symm (by omega) hT.symm (by omega)
     rw [cmpZ, if_neg (by omega), if_pos this]; rfl
   ·refine ⟨⟨j, ⟨by omega, hE.drew, ?_⟩, by omega, ?_, trivial⟩, (by (repeat (first|exact aE _ _ _|refine aw rfl ?_|refine au rfl ?_|refine ak rfl ?_|refine ao rfl ?_)))⟩
    ·rw [cU (ls := la) (k := j) (by omega), cU (ls := lb) (k := j) (by omega), hT, show la.getD j 0 = lb.getD j 0 by omega]
    ·rfl
  ·obtain rfl : k = 0 := by omega
   simp only [List.drop_zero] at hT
   refine bK rfl (rt rfl) ⟨?_, hE⟩
   rw [cmpZ, if_neg (by omega), if_neg (by omega)]; rfl
theorem tj {n1 n2 : Bool} {l1 l2 : List Nat} (c1 : Canon l1) (c2 : Canon l2) (g1 : n1 = true → l1 ≠ []) (g2 : n2 = true → l2 ≠ []) :
  sgn n1 (natOf l1) = sgn n2 (natOf l2) ↔ n1 = n2 ∧ natOf l1 = natOf l2 := by
 have hz : ∀ {l : List Nat}, Canon l → natOf l = 0 → l = [] := fun {l} c h => by have := cE.2 h; rwa [c] at this
 unfold sgn
 cases n1 <;> cases n2 <;> simp
 ·omega
 ·intro h
  have h2 : natOf l2 = 0 := by omega
  exact g2 rfl (hz c2 h2)
 ·intro h
  have h1 : natOf l1 = 0 := by omega
  exact g1 rfl (hz c1 h1)
 ·omega
theorem fZ {lo lo' : Nat} {v1 v2 : Value} {x y : Int} {w : World} (h1 : IntC lo w v1 x) (h2 : IntC lo' w v2 y) :
  CallsR Tryz.prog 22 #[v1, v2] w fun v w' => v = .bool (decide (x = y)) ∧ Ex w w' := by
 obtain ⟨n1, a1, c1, l1, rfl, hL1, rfl, hc1, g1, _⟩ := h1
 obtain ⟨n2, a2, c2, l2, rfl, hL2, rfl, hc2, g2, _⟩ := h2
 have hiff := tj hc1 hc2 g1 g2
 refine aH (args := [_, _]) Tryz.func22 rfl rfl ?_
 refine aj ?_
 refine ah rfl ?_
 refine bH rfl (fun ga w2 hn2 => ⟨fun _ _ => trivial, ?_⟩)
 refine bH rfl (fun gb w3 hn3 => ⟨fun _ _ => trivial, ?_⟩)
 have hb2 := hn2.blk.ext hn3.ex
 have hb3 := hn3.blk
 have hE := hn2.ex.trans hn3.ex
 have hle : natOf l1 = natOf l2 → l1.length = l2.length := fun h => by rw [mT hL1.lim hL2.lim hc1 hc2 h]
 repeat' (first|refine aQ rfl hb2 rfl ?_|refine aQ rfl hb3 rfl ?_|refine ai rfl ?_|refine aa ?_|refine aj ?_|refine ah rfl ?_|refine ae ?_|refine bh rfl ?_|refine bR rfl rfl ?_|refine cB rfl rfl ?_|refine eL rfl rfl (fun hc => ?_) (fun hc => ?_)|refine aG rfl ?_|refine mK rfl rfl ?_|refine aR ?_)
 ·refine av (gM (hL1.ext hE) (hL2.ext hE) hc1 hc2) rfl ?_
  rintro v w4 ⟨rfl, hE4⟩
  refine ⟨fun _ _ => trivial, ?_⟩
  repeat' (first|refine ai rfl ?_|refine aa ?_|refine ae ?_|refine bR rfl rfl ?_|refine aR ?_)
  refine bK rfl (rt rfl) ⟨congrArg Value.bool (decide_eq_decide.2 ?_), hE.trans hE4⟩
  rw [hiff]
  unfold cmpZ
  have hn : n1 = n2 := by assumption
  constructor
  ·intro h
   refine ⟨hn, ?_⟩
   split at h
   ·omega
   ·split at h
    ·omega
    ·omega
  ·rintro ⟨_, h⟩
   rw [if_neg (by omega), if_neg (by omega)]
 all_goals
  refine bK rfl (rt rfl) ⟨congrArg Value.bool (Eq.symm (decide_eq_false ?_)), hE⟩
  rw [hiff]
  rintro ⟨h1, h2⟩
  have := hle h2
  first|omega|(subst h1; simp_all; done)
end Go.Proofs.YtppipmkpmmdcjaaGreat
namespace Go.Proofs.YtppipmkpmmdcjaaGreat
open Go.W Go.LM
theorem jM {ls : List Nat} {a : Option Addr} {c : Nat} {w : World} (h : Limbs w a c ls) (h2 : ls.length ≤ 2) :
  CallsR Tryz.prog 91 #[.slice a ls.length c] w fun v w' => v = .int .u64 ((natOf ls : Nat) : Int) ∧ Ex w w' := by
 refine aH (args := [_]) Tryz.func91 rfl rfl ?_
 repeat' (first|refine ai rfl ?_|refine aa ?_|refine aj ?_|refine ah rfl ?_|refine ae ?_|refine aA ?_)
 refine aY (ι := Nat) [3, 4, 5, 6, 7, 8, 9, 10, 11, 12, 13, 14, 15, 16, 17, 18, 19, 20, 21, 22, 23, 24] (fun k => [(4, .int .i64 (k : Int)), (3, .int .u64 ((natOf (ls.take k) : Nat) : Int))]) (fun k w' => k ≤ ls.length ∧ w' = w) (fun k => ls.length - k) 0 ⟨rfl, rfl, trivial⟩ ⟨by simp, rfl⟩ ?_
 rintro k ξ w2 ⟨hk, rfl⟩
 have hlt := bT (h.lim.take k)
 have hd := h.lim.getD k
 repeat' (first|(refine aC rfl rfl (h.sl.plain (by simp; omega)) (by omega) ?_)|refine bI rfl h.sl (by omega) ?_|refine d6 rfl (dB (by omega) (by omega)) ?_|refine mJ rfl rfl (by omega) (by omega) ?_|refine ai rfl ?_|refine aa ?_|refine aj ?_|refine ah rfl ?_|refine ae ?_|refine bh rfl ?_|refine bR rfl rfl ?_|refine cB rfl rfl ?_|refine eL rfl rfl (fun hc => ?_) (fun hc => ?_)|refine ay rfl ?_|refine aP rfl (fun hc => ?_) (fun hc => ?_)|refine aA ?_|refine aV ?_|refine aL ?_|refine aW ?_|refine aR ?_|refine aF ?_)
 all_goals try (exfalso; omega)
 ·refine jp (j := 32 * k) rfl rfl rfl (by simp only [IntKind.bits]; omega) ?_
  have hkk : k = 0 ∨ k = 1 := by omega
  have hsh : (ls.getD k 0 <<< (32 * k)) % 2 ^ IntKind.u64.bits = ls.getD k 0 <<< (32 * k) := Nat.mod_eq_of_lt (by
   rw [Nat.shiftLeft_eq]; rcases hkk with rfl | rfl <;> simp only [IntKind.bits] <;> omega)
  have hsh2 : ls.getD k 0 <<< (32 * k) < 18446744073709551616 := by rw [Nat.shiftLeft_eq]; rcases hkk with rfl | rfl <;> omega
  have hlt' : natOf (ls.take k) < 2 ^ (32 * k) := by
   simp only [List.length_take, Nat.min_eq_left hk] at hlt
   rcases hkk with rfl | rfl <;> simpa using hlt
  rw [hsh]
  refine ko rfl rfl rfl (by simp only [IntKind.bits]; rcases hkk with rfl | rfl <;> omega) hsh2 ?_
  repeat' (first|refine ai rfl ?_|refine aa ?_|refine ah rfl ?_|refine ae ?_|refine aZ rfl rfl (by omega) (by omega) ?_|refine aK ?_)
  refine ⟨⟨k + 1, ⟨by omega, rfl⟩, by omega, rfl, ?_, trivial⟩, (by (repeat (first|exact aE _ _ _|refine aw rfl ?_|refine au rfl ?_|refine ak rfl ?_|refine ao rfl ?_)))⟩
  show Value.int .u64 _ = _
  congr 2
  have e := dX (ls := ls) (k := k + 1) (by omega) (by omega)
  rw [Nat.add_sub_cancel] at e
  rw [e, dm, Nat.or_comm, ← Nat.shiftLeft_add_eq_or_of_lt hlt', Nat.shiftLeft_eq]
  simp only [List.length_take, Nat.min_eq_left hk]
  rcases hkk with rfl | rfl <;> omega
 all_goals
  obtain rfl : k = ls.length := by omega
  refine bK rfl (rt rfl) ⟨?_, Ex.refl _⟩
  show Value.int .u64 _ = _
  rw [List.take_length]
end Go.Proofs.YtppipmkpmmdcjaaGreat
namespace Go.Proofs.YtppipmkpmmdcjaaGreat
open Go.W Go.LM
theorem iW {lo : Nat} {v : Value} {x : Int} {w : World} (h1 : IntC lo w v x) : CallsR Tryz.prog 6 #[v] w fun r w' => r = .int .i64 x.sign ∧ Ex w w' := by
 obtain ⟨n1, a1, c1, l1, rfl, hL1, rfl, hc1, g1, _⟩ := h1
 have htr : trimL l1 = l1 := hc1
 refine aH (args := [_]) Tryz.func6 rfl rfl ?_
 repeat' (first|refine bH rfl (fun g1 w1 hn1 => ⟨fun _ _ => trivial, ?_⟩)|refine aQ rfl hn1.blk rfl ?_|refine ai rfl ?_|refine aa ?_|refine aj ?_|refine ah rfl ?_|refine ae ?_|refine aG rfl ?_|refine aA ?_)
 refine av (cz (hL1.ext hn1.ex)) rfl ?_
 rw [htr]
 rintro v w2 ⟨a2, c2, rfl, hL2, hf2, hE2⟩
 refine ⟨fun _ _ => trivial, ?_⟩
 have hb2 := hn1.blk.ext hE2
 have hz : l1.length = 0 ↔ natOf l1 = 0 := by
  constructor
  ·intro h; rw [List.eq_nil_of_length_eq_zero h]; rfl
  ·intro h; have := cE.2 h; rw [htr] at this; rw [this]; rfl
 repeat' (first|refine aQ rfl hb2 rfl ?_|refine ai rfl ?_|refine aa ?_|refine aj ?_|refine ah rfl ?_|refine ae ?_|refine bh rfl ?_|refine aG rfl ?_|refine aP rfl (fun hc => ?_) (fun hc => ?_)|refine fV rfl (fun hc => ?_) (fun hc => ?_)|refine aK ?_|refine aR ?_|refine bv ?_|refine cN ?_|refine aF ?_)
 ·refine bK rfl (rt rfl) ⟨?_, hn1.ex.trans hE2⟩
  have : natOf l1 = 0 := hz.1 (by omega)
  rw [this]; cases n1 <;> rfl
 ·refine bK rfl (rt rfl) ⟨?_, hn1.ex.trans hE2⟩
  have : natOf l1 ≠ 0 := fun e => by have := hz.2 e; omega
  subst_vars
  show Value.int .i64 (-1) = _
  rw [show (sgn true (natOf l1)).sign = -1 by unfold sgn; rw [if_pos rfl]; exact Int.sign_eq_neg_one_of_neg (by omega)]
 ·refine bK rfl (rt rfl) ⟨?_, hn1.ex.trans hE2⟩
  have : natOf l1 ≠ 0 := fun e => by have := hz.2 e; omega
  subst_vars
  show Value.int .i64 1 = _
  rw [show (sgn false (natOf l1)).sign = 1 by unfold sgn; rw [if_neg (by decide)]; exact Int.sign_eq_one_of_pos (by omega)]
end Go.Proofs.YtppipmkpmmdcjaaGreat
namespace Go.PM
def bit (ws : List Nat) (x : Nat) : Bool := (ws.getD (x / 64) 0).testBit (x % 64)
theorem cZ {α : Type} (l : List α) (d : α) {k : Nat} (h : k < l.length) : l.take (k + 1) = l.take k ++ [l.getD k d] := by
 rw [List.take_succ_eq_append_getElem h, List.getD_eq_getElem?_getD, List.getElem?_eq_getElem h]; rfl
end Go.PM
namespace Go.PM
theorem fP {α : Type} {l : List α} {k : Nat} {d : α} (h : k < l.length) : l.getD k d ∈ l := by
 rw [List.getD_eq_getElem?_getD, List.getElem?_eq_getElem h]; exact List.getElem_mem h
end Go.PM
namespace Go.PM
def tAt (L : List Int) (k : Nat) : Nat := if k < L.length then k + 1 else k
end Go.PM
namespace Go.Proofs.YtppipmkpmmdcjaaGreat
open Go.W Go.PM
abbrev int8L (xs : List Int) : List Value := xs.map (Value.int .i8)
def I8 (L : List Int) : Prop := L.length ≤ 9223372036854775807 ∧ ∀ x ∈ L, -128 ≤ x ∧ x ≤ 127
theorem I8.getD {L : List Int} (h : I8 L) (k : Nat) : -128 ≤ L.getD k 0 ∧ L.getD k 0 ≤ 127 := by
 by_cases hk : k < L.length
 ·exact h.2 _ (fP hk)
 ·rw [List.getD_eq_getElem?_getD, List.getElem?_eq_none (by omega)]; simp
abbrev tapeL (la : Option Addr) (n lc k : Nat) : List Value := [.slice la n lc, .int .i64 (k : Int)]
theorem lQ {L : List Int} {k g lc : Nat} {la : Option Addr} {w : World} (hb : Blk w g 75 (tapeL la L.length lc k)) (hL : Sl w la (int8L L)) (hr : I8 L) (hne : 0 < L.length → ∀ ad, la = some ad → ad.block ≠ g)
  (hk : k ≤ L.length) : CallsR Tryz.prog 41 #[.pointer (some ⟨g, 0, none⟩)] w fun v w' =>
   v = .int .i64 (L.getD k 0) ∧ Chg g w w' ∧ Blk w' g 75 (tapeL la L.length lc (tAt L k)) := by
 have hlen := hr.1
 have hx := hr.getD k
 refine aH (args := [_]) Tryz.func41 rfl rfl ?_
 repeat' (first|refine ai rfl ?_|refine aa ?_|refine aj ?_|refine ah rfl ?_|refine ae ?_)
 refine bi (late := []) (plan := [(0, none), (1, none), (2, none), (3, none), (4, none), (5, none), (6, none), (7, none), (8, none), (9, none)]) (fun w' => Blk w' g 75 (tapeL la L.length lc k)) bB (by kernel_rfl) hb.drew ?_
 repeat' (first|refine aQ rfl (fun _ h => h) rfl ?_|refine ai rfl ?_|refine aa ?_|refine aj ?_|refine ah rfl ?_|refine ae ?_|refine bh rfl ?_|refine aG rfl ?_|refine aP rfl (fun hc => ?_) (fun hc => ?_)|refine aR ?_|refine bv ?_|refine aF ?_)
 ·refine bK rfl (rt rfl) ⟨?_, (Chg.refl g w).drew, ?_⟩
  ·rw [List.getD_eq_getElem?_getD, List.getElem?_eq_none (by omega)]; rfl
  ·rw [tAt, if_neg (by omega)]; exact hb.drew
 ·replace hb := hb.drew
  repeat' (first|refine aQ rfl hb rfl ?_|refine kr rfl rfl rfl hb rfl (fun w2 hc2 hb2 => ⟨fun _ _ => trivial, ?_⟩)|refine ai rfl ?_|refine aa ?_|refine aj ?_|refine ae ?_|refine aZ rfl rfl (by omega) (by omega) ?_|refine aG rfl ?_)
  have hc2' := (Chg.trans (Chg.drew (Chg.refl g w)) hc2)
  have hL2 := (hL.drew).chg hc2 (hne (by omega))
  refine bi (late := []) (plan := [(0, none), (1, none), (2, none), (3, none), (4, none), (5, none), (6, none), (7, none), (8, none), (9, none), (10, none), (11, none), (12, none)]) (fun w' => Blk w' g 75 [.slice la L.length lc, .int .i64 ((k : Int) + 1)] ∧ Sl w' la (int8L L)) bB (by kernel_rfl) ⟨hb2.drew, hL2.drew⟩ ?_
  repeat' (first|refine aQ rfl (fun _ h => h.1) rfl ?_|(refine aC (j := k) rfl (by show Value.int .i64 ((k : Int) + 1 - 1) = _; rw [Int.add_sub_cancel]) (hL.plain (by simp; omega)) (by omega) ?_)|refine te rfl (fun _ h => h.2) (by omega) ?_|refine d6 rfl (d5 (by omega) (by omega)) ?_|refine ai rfl ?_|refine aa ?_|refine ae ?_|refine cO rfl rfl (by omega) (by omega) ?_|refine aG rfl ?_|refine aR ?_)
  refine bK rfl (rt rfl) ⟨rfl, hc2'.drew, ?_⟩
  rw [tAt, if_pos (by omega)]
  exact hb2.drew
end Go.Proofs.YtppipmkpmmdcjaaGreat
namespace Go.PM
def ap (p : List Int) (x : Int) : Int := p.getD x.toNat 0
def it (p : List Int) : Nat → Int → Int
 | 0, x => x
 | k + 1, x => ap p (it p k x)
end Go.PM
namespace Go.Proofs.YtppipmkpmmdcjaaGreat
open Go.W Go.PM Go.LM
def blkS (v : Value) : Option Nat := match v with
 | .slice (some ad) (_ + 1) _ => some ad.block
 | _ => none
def blkOf (v : Value) : Option Nat := match v with
 | .agg cs => (cs[1]?).bind blkS
 | _ => none
def Off (g : Nat) (v : Value) : Prop := blkOf v ≠ some g
theorem IntC.out {lo : Nat} {w : World} {v : Value} {z : Int} (h : IntC lo w v z) : ∃ cs : List Value, v = .agg cs.toArray ∧ cs.length = 2 ∧ cs.all Value.oneCell' = true := by
 obtain ⟨neg, a, c, ls, rfl, _⟩ := h
 exact ⟨_, rfl, rfl, rfl⟩
theorem IntC.lo {lo : Nat} {w : World} {v : Value} {z : Int} (h : IntC lo w v z) {g : Nat} (hg : blkOf v = some g) : lo ≤ g ∧ g < w.heap.size := by
 obtain ⟨neg, a, c, ls, rfl, hl, _, _, _, h6⟩ := h
 cases a with
 | none => simp [blkOf, blkS] at hg
 | some ad => cases ls with
  | nil => simp [blkOf, blkS] at hg
  | cons x t =>
   simp [blkOf, blkS] at hg
   subst hg
   refine ⟨h6 ad rfl, ?_⟩
   have := World.block_lt_of_cell? w _ (hl.sl.get 0 (by simp))
   exact this
theorem IntC.off_lo {lo g : Nat} {w : World} {v : Value} {z : Int} (h : IntC lo w v z) (hg : g < lo) : Off g v := fun e => by have := (h.lo e).1; omega
theorem IntC.off_hi {lo g : Nat} {w : World} {v : Value} {z : Int} (h : IntC lo w v z) (hg : w.heap.size ≤ g) : Off g v := fun e => by have := (h.lo e).2; omega
theorem IntC.chgO {lo g : Nat} {w w' : World} {v : Value} {z : Int} (h : IntC lo w v z) (e : Chg g w w') (hg : Off g v) : IntC lo w' v z := by
 obtain ⟨neg, a, c, ls, rfl, h2, h3, h4, h5, h6⟩ := h
 cases ls with
 | nil => exact ⟨neg, a, c, [], rfl, Limbs.nil _ _ _, h3, h4, h5, h6⟩
 | cons x t => exact ⟨neg, a, c, x :: t, rfl, h2.chg e (fun ad ea => by subst ea; intro e2; exact hg (by simp [blkOf, blkS, e2])), h3, h4, h5, h6⟩
theorem IntC.zero (lo : Nat) (w : World) : IntC lo w (.agg (intL false none 0 0).toArray) 0 := ⟨false, none, 0, [], rfl, Limbs.nil _ _ _, rfl, rfl, by simp, by simp⟩
end Go.Proofs.YtppipmkpmmdcjaaGreat
namespace Go.Proofs.YtppipmkpmmdcjaaGreat
open Go.W Go.LM
theorem cw (n : Nat) : sgn false n = n := rfl
theorem IntC.limbs {lo : Nat} {w : World} {v : Value} {n : Nat} (h : IntC lo w v (n : Int)) : ∃ a c ls, v = .agg (intL false a ls.length c).toArray ∧ Limbs w a c ls ∧ natOf ls = n ∧ Canon ls ∧ ∀ ad, a = some ad → lo ≤ ad.block := by
 obtain ⟨n1, a1, c1, l1, rfl, hL1, e1, hc1, g1, h6⟩ := h
 cases n1
 ·exact ⟨a1, c1, l1, rfl, hL1, by simp only [sgn, Bool.false_eq_true, if_false] at e1; omega, hc1, h6⟩
 ·exfalso
  have := cE.2 (show natOf l1 = 0 by simp [sgn] at e1; omega)
  rw [hc1] at this; exact g1 rfl this
theorem gz {la lb : List Nat} {a b : Option Addr} {c d : Nat} {w : World} (ha : Limbs w a c la) (hb : Limbs w b d lb) (h2 : la.length ≤ 2) (h3 : lb.length ≤ 2) (hpos : 0 < natOf lb) :
  CallsR Tryz.prog 66 #[.slice a la.length c, .slice b lb.length d] w fun v w' => ∃ a1 c1 l1 a2 c2 l2, v = .tuple #[.slice a1 (List.length l1) c1, .slice a2 (List.length l2) c2] ∧
   Limbs w' a1 c1 l1 ∧ Limbs w' a2 c2 l2 ∧ natOf l1 = natOf la / natOf lb ∧ natOf l2 = natOf la % natOf lb ∧ Ex w w' := by
 have h64a : natOf la < 18446744073709551616 := by
  have := bT ha.lim
  have := fe (a := la.length) (b := 2) h2
  omega
 have h64b : natOf lb < 18446744073709551616 := by
  have := bT hb.lim
  have := fe (a := lb.length) (b := 2) h3
  omega
 refine aH (args := [_, _]) Tryz.func66 rfl rfl ?_
 repeat' (first|refine rp rfl rfl (by omega) ?_|refine ai rfl ?_|refine aa ?_|refine aj ?_|refine ah rfl ?_|refine ae ?_|refine bh rfl ?_|refine bR rfl rfl ?_|refine aD rfl ?_)
 refine av (jM ha h2) rfl ?_
 rintro v w1 ⟨rfl, hE1⟩
 refine ⟨fun _ _ => trivial, ?_⟩
 repeat' (first|refine ai rfl ?_)
 refine av (jM (hb.ext hE1) h3) rfl ?_
 rintro v w2 ⟨rfl, hE2⟩
 refine ⟨fun _ _ => trivial, ?_⟩
 repeat' (first|refine ai rfl ?_|refine aa ?_|refine aj ?_|refine ae ?_)
 have hE := hE1.trans hE2
 refine bi (late := [3, 8]) (plan := [(0, none), (1, none), (2, none), (5, none), (6, none), (7, none), (3, some false), (4, none), (8, some false), (9, none), (10, none), (11, none)]) (fun w' => Ex w w') bB (by kernel_rfl) hE.drew ?_
 repeat' (first|refine oS rfl rfl (by omega) (by omega) (by omega) ?_|refine jH rfl rfl (by omega) (by omega) ?_|refine ai rfl ?_)
 refine av (eP (n := natOf la / natOf lb) (Nat.lt_of_le_of_lt (Nat.div_le_self _ _) h64a) false _) rfl ?_
 rintro v w3 ⟨hz3, hE3⟩
 refine ⟨fun _ h => h.trans hE3, ?_⟩
 rw [cw] at hz3
 obtain ⟨a3, c3, l3, rfl, hL3, hn3, _, _⟩ := hz3.limbs
 repeat' (first|refine pS (ft := 31) (off := 1) (by kernel_rfl) rfl rfl ?_)
 refine av (eP (n := natOf la % natOf lb) (Nat.lt_of_le_of_lt (Nat.mod_le _ _) h64a) false _) rfl ?_
 rintro v w4 ⟨hz4, hE4⟩
 refine ⟨fun _ h => h.trans hE4, ?_⟩
 rw [cw] at hz4
 obtain ⟨a4, c4, l4, rfl, hL4, hn4, _, _⟩ := hz4.limbs
 repeat' (first|refine pS (ft := 31) (off := 1) (by kernel_rfl) rfl rfl ?_|refine ai rfl ?_|refine aa ?_|refine ae ?_|refine aR ?_|refine bv ?_)
 exact eN rfl (rt rfl) (rt rfl) ⟨a3, c3, l3, a4, c4, l4, rfl, hL3.ext hE4, hL4, hn3, hn4, (hE.drew.trans hE3).trans hE4⟩
end Go.Proofs.YtppipmkpmmdcjaaGreat
namespace Go.W
theorem Own.cap {w : World} {lo T s n cap : Nat} {a : Option Addr} {vs : List Value} (h : Own w lo T s a n cap vs) : n ≤ cap := by
 rcases h.2 with ⟨hv, hn⟩ | ⟨g, c, cur, hv, hg, hb, h1, h2, h3, h4⟩
 ·omega
 ·simp only [Value.slice.injEq] at hv; omega
end Go.W
namespace Go.Proofs.YtppipmkpmmdcjaaGreat
open Go.W Go.PM
end Go.Proofs.YtppipmkpmmdcjaaGreat
