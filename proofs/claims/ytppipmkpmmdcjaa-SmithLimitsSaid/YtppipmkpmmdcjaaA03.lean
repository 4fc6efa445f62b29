import Derived.Test.YtppipmkpmmdcjaaA02
namespace Go.W
structure Joined {ι : Type} (M : List Nat) (vals : ι → List (Nat × Value)) (J : ι → World → Prop) (ρ0 : Env) (ρ : Env) (w : World) : Prop where
 next : ∃ s, J s w ∧ Has ρ (vals s)
 agree : Agree M ρ ρ0
theorem cz {ι : Type} {P : Program} {n : Nat} {Q : Exit → Env → World → Prop} {next : Env → World → Prop} {ρ : Env} {w : World} {x : Code} (M : List Nat) (vals : ι → List (Nat × Value)) (J : ι → World → Prop)
  (h1 : CW P n x (thenE (Joined M vals J ρ) Q) ρ w) (h2 : ∀ s ξ w', J s w' → next (over (vals s) (mask M ρ ξ)) w') : CW P n x (thenE next Q) ρ w := by
 refine h1.mono fun e ρ' w' q => ?_
 cases e <;> unfold thenE at q ⊢
 case normal =>
  obtain ⟨⟨s, hJ, hH⟩, hA⟩ := q
  have := h2 s ρ' w' hJ
  rwa [gg hA, gG hH] at this
 all_goals exact q
section
variable {P : Program} {S : World → Prop} {ops : List Oper} {K : Env → World → Prop} {rest : List (Oper × Option Bool)} {ρ : Env} {w : World} {b : Option Bool} {kf : Bool} {d : Nat} {dst : Option Nat} {T T' : TypeId} {pos : String} {af : Array Edge}
theorem jW {x lo hi : Operand} {g o len cap E s y l h : Nat} {k k' : IntKind} [hT : Slc P T' E s y] (hx : ev ρ x = .slice (some ⟨g, o, none⟩) len cap) (hlo : ev ρ lo = .int k (l : Int)) (hhi : ev ρ hi = .int k' (h : Int))
  (h1 : l ≤ h) (h2 : h ≤ cap) (h3 : l < cap) (hh : RR P S ops K rest (upd ρ d (.slice (some ⟨g, o + l * s, none⟩) (h - l) (cap - l))) w) :
  RR P S ops K ((⟨some d, .slice T' x (some lo) (some hi) none, T, pos, af, none⟩, b) :: rest) ρ w := by
 refine bN rfl (fun w' => ?_) hh
 obtain ⟨i0, hi0, hz⟩ := Option.map_eq_some_iff.1 hT.sz
 simp only [Prod.mk.injEq] at hz
 have e : ∀ n, (⟨g, o, none⟩ : Addr).add n = ⟨g, o + n, none⟩ := fun n => by unfold Addr.add; split <;> simp_all
 have h3' : ¬ cap = l := by omega
 simp [execOp, Instr.sliceAt, Instr.slice, Instr.sliceBounds, Instr.sliceBound, hx, hlo, hhi, asIntOf, underlying, hT.un, sizeOf, typeInfo, hi0, hz.1, h1, h2, h3', e]
theorem jX {x y : Operand} {T1 : TypeId} {g o j Tb : Nat} {k : IntKind} {u : Nat} {xs : List Nat} [hT : Scal P T1] (hx : ev ρ x = .pointer (some (elt (some ⟨g, o, none⟩) j))) (hy : ev ρ y = .int k (u : Int))
  (hb : Blk w g Tb (xs.map fun (n : Nat) => Value.int k n)) (ho : o + j < xs.length) (h : ∀ w', Chg g w w' → Blk w' g Tb ((xs.set (o + j) u).map fun (n : Nat) => Value.int k n) → (kf = true → S w → S w') ∧ RR P S ops K rest ρ w') :
  RR P S ops K ((⟨none, .store T1 x y, T, pos, af, none⟩, some kf) :: rest) ρ w :=
 kt (o := o + j) (by rw [hx]; rfl) hy rfl hb (by simpa using ho) (by rw [List.map_set] at h; exact h)
theorem kY {x : Operand} {T1 : TypeId} {g o j Tb : Nat} {k : IntKind} {xs : List Nat} [Scal P T1] (hx : ev ρ x = .pointer (some (elt (some ⟨g, o, none⟩) j))) (hs : Rd b S w fun w' => Blk w' g Tb (xs.map fun (n : Nat) => Value.int k n))
  (hj : o + j < xs.length) (h : RR P S ops K rest (upd ρ d (.int k ((xs.getD (o + j) 0 : Nat) : Int))) w) : RR P S ops K ((⟨some d, .load T1 x, T, pos, af, none⟩, b) :: rest) ρ w :=
 fB hx (hs.imp fun w' hs => by
  have := hs.cell (j := o + j) (by simpa using hj)
  simp only [elt]
  rw [this]
  simp [List.getD_eq_getElem?_getD, hj]) h
theorem io {x y : Operand} {m m' : Nat} {T'' : TypeId} (hx : ev ρ x = .int .u64 (m : Int)) (hy : ev ρ y = .int .u64 (m' : Int)) (h2 : m + m' < 18446744073709551616)
  (h : RR P S ops K rest (upd ρ d (.int .u64 ((m + m' : Nat) : Int))) w) : RR P S ops K ((⟨some d, .binOp .add T' x y T'', T, pos, af, none⟩, b) :: rest) ρ w :=
 qL hx hy (by omega) (by omega) (by rw [← Int.natCast_add]; exact h)
theorem mj {x y : Operand} {m m' : Nat} {T'' : TypeId} (hx : ev ρ x = .int .u64 (m : Int)) (hy : ev ρ y = .int .u64 (m' : Int)) (h2 : m * m' < 18446744073709551616)
  (h : RR P S ops K rest (upd ρ d (.int .u64 ((m * m' : Nat) : Int))) w) : RR P S ops K ((⟨some d, .binOp .mul T' x y T'', T, pos, af, none⟩, b) :: rest) ρ w :=
 m5 hx hy (by rw [← Int.natCast_mul, cW (by omega) (by omega)]; exact h)
theorem ip {x : Operand} {m : Nat} {T1 T2 : TypeId} [h1 : IntT P T1 .u32] [h2 : IntT P T2 .u64] (hx : ev ρ x = .int .u32 (m : Int)) (hm : m < 4294967296) (h : RR P S ops K rest (upd ρ d (.int .u64 (m : Int))) w) :
  RR P S ops K ((⟨some d, .convert T1 T2 x, T, pos, af, none⟩, b) :: rest) ρ w :=
 cP hx (cW (by omega) (by omega)) h
theorem dB {x : Operand} {m : Nat} {T1 T2 : TypeId} [h1 : IntT P T1 .u64] [h2 : IntT P T2 .u32] (hx : ev ρ x = .int .u64 (m : Int)) (h : RR P S ops K rest (upd ρ d (.int .u32 ((m % 4294967296 : Nat) : Int))) w) :
  RR P S ops K ((⟨some d, .convert T1 T2 x, T, pos, af, none⟩, b) :: rest) ρ w :=
 i9 hx (by
  rw [show IntKind.u32.wrap ((m : Nat) : Int) = ((m % 4294967296 : Nat) : Int) from (cv rfl).trans (by simp [IntKind.bits])]
  exact h)
theorem eh {x y : Operand} {k' : IntKind} {m : Nat} {T'' : TypeId} (hx : ev ρ x = .int .u64 (m : Int)) (hy : ev ρ y = .int k' 32)
  (h : RR P S ops K rest (upd ρ d (.int .u64 ((m / 4294967296 : Nat) : Int))) w) : RR P S ops K ((⟨some d, .binOp .shr T' x y T'', T, pos, af, none⟩, b) :: rest) ρ w :=
 gi (j := 32) hx hy (.inl rfl) (by rw [Nat.shiftRight_eq_div_pow]; exact h)
theorem fF {x y : Operand} {m m' : Nat} {T'' : TypeId} (hx : ev ρ x = .int .i64 (m : Int)) (hy : ev ρ y = .int .i64 (m' : Int)) (h2 : m + m' ≤ 9223372036854775807)
  (h : RR P S ops K rest (upd ρ d (.int .i64 ((m + m' : Nat) : Int))) w) : RR P S ops K ((⟨some d, .binOp .add T' x y T'', T, pos, af, none⟩, b) :: rest) ρ w :=
 bi hx hy (by omega) (by omega) (by rw [← Int.natCast_add]; exact h)
end
end Go.W
namespace Go.W
section
variable {P : Program} {S : World → Prop} {ops : List Oper} {K : Env → World → Prop} {rest : List (Oper × Option Bool)} {ρ : Env} {w : World} {b : Option Bool} {kf : Bool} {d : Nat} {dst : Option Nat} {T T' : TypeId} {pos : String} {af : Array Edge}
theorem jY {T1 E s y n cap c : Nat} {x1 x2 : Operand} {a ad : Option Addr} [hT : Slc P T1 E s y] (h1 : ev ρ x1 = .slice a n cap) (h2 : ev ρ x2 = .slice ad 0 c) (hn : n ≤ cap)
  (h : RR P S ops K rest (upd ρ d (.slice a n cap)) w) :
  RR P S ops K ((⟨some d, .call ⟨.builtin .append, #[x1, x2], #[T1, T1]⟩, T, pos, af, none⟩, some kf) :: rest) ρ w := by
 refine cQ rfl ?_
 unfold OpW
 obtain ⟨i0, hi0, hzz⟩ := Option.map_eq_some_iff.1 hT.sz
 have : (execOp (ev ρ) ⟨some d, .call ⟨.builtin .append, #[x1, x2], #[T1, T1]⟩, T, pos, af, none⟩).run P w = .ok (.value (.slice a n cap)) w := by
  simp [execOp, resolve, invoke, builtin, h1, h2, Builtin.append_, run_underlying hT.un, sizeOf, typeInfo, hi0, Builtin.lenOf, Builtin.firstCells, loadCells, loadCellsFrom]
  cases ad <;> cases a <;> simp [hn, storeCells]
 rw [this]
 exact ⟨fun _ h => h, h⟩
theorem qM {T1 E y m c : Nat} {x1 x2 : Operand} {ad : Option Addr} {news : List Value} {z : Value} [hT : Slc P T1 E 1 y] [hz : Zro P E z] (h1 : ev ρ x1 = .slice none 0 0) (h2 : ev ρ x2 = .slice ad m c)
  (hzs : (Nat.beq z.cells.size 1) = true) (hnews : Sl w ad news) (hl : news.length = m) (ho : news.all Value.oneCell' = true) (hm : m ≤ 9223372036854775807) (hb : m * y ≤ 140737488355328)
  (h : ∀ a' cap' w', Own w' w.heap.size E 1 a' m cap' news → Ex w w' → (kf = true → S w → S w') ∧ RR P S ops K rest (upd ρ d (.slice a' m cap')) w') :
  RR P S ops K ((⟨some d, .call ⟨.builtin .append, #[x1, x2], #[T1, T1]⟩, T, pos, af, none⟩, some kf) :: rest) ρ w := by
 by_cases h0 : m = 0
 ·subst h0
  have hn : news = [] := List.eq_nil_of_length_eq_zero hl
  subst hn
  exact jY h1 h2 (Nat.le_refl _) (h none 0 w (Own.nil _ _ _ _) (Ex.refl _)).2
 ·refine fC (z := z) (s := 1) (c := c) (hzs := Nat.eq_of_beq_eq_true hzs) (hs := rfl) (news := news) (vs := []) (lo := w.heap.size) (h1 := h1) (h2 := h2) (hown := Own.nil _ _ _ _) (hnews := hnews) (hp := hnews.plain (by omega)) (hl := by simp [hl]) (ho := ho) (hm := by omega) (hb := by simpa using hb) (hlo := Nat.le_refl _) ?_
  intro a' cap' w' ho' hg hA
  rw [Nat.zero_add] at ho' ⊢
  exact h a' cap' w' (by simpa using ho') (gI hg (Ex.refl _) (by simp))
end
end Go.W
namespace Go.W
end Go.W
namespace Go.W
section
variable {P : Program} {S : World → Prop} {ops : List Oper} {K : Env → World → Prop} {rest : List (Oper × Option Bool)} {ρ : Env} {w : World} {b : Option Bool} {kf : Bool} {d : Nat} {dst : Option Nat} {T T' : TypeId} {pos : String} {af : Array Edge}
theorem fc {x y : Operand} {c : Bool} {T'' : TypeId} [h1 : BoolT P T'] (hx : ev ρ x = .bool c) (hy : ev ρ y = .bool c) (h : RR P S ops K rest (upd ρ d (.bool true)) w) : RR P S ops K ((⟨some d, .binOp .eql T' x y T'', T, pos, af, none⟩, b) :: rest) ρ w :=
 md hx hy (by rw [beq_self_eq_true]; exact h)
theorem eF {x y : Operand} {k : IntKind} {m : Int} {T'' : TypeId} (hx : ev ρ x = .int k m) (hy : ev ρ y = .int k m) (h : RR P S ops K rest (upd ρ d (.bool true)) w) : RR P S ops K ((⟨some d, .binOp .eql T' x y T'', T, pos, af, none⟩, b) :: rest) ρ w :=
 ou hx hy (by rw [decide_eq_true rfl]; exact h)
end
theorem qG {n : Int} (h : (Lit.int .u8 n).wf = true) : 0 ≤ n ∧ n ≤ 255 := by simpa [Lit.wf, IntKind.min, IntKind.max, IntKind.signed, IntKind.bits] using h
theorem sV {n : Int} (h : (Lit.int .i8 n).wf = true) : -128 ≤ n ∧ n ≤ 127 := by simpa [Lit.wf, IntKind.min, IntKind.max, IntKind.signed, IntKind.bits] using h
end Go.W
namespace Go.W
section
variable {P : Program} {S : World → Prop} {ops : List Oper} {K : Env → World → Prop} {rest : List (Oper × Option Bool)} {ρ : Env} {w : World} {b : Option Bool} {kf : Bool} {d : Nat} {dst : Option Nat} {T T' : TypeId} {pos : String} {af : Array Edge}
variable {x y : Operand} {k : IntKind} {m m' : Int} {T'' : TypeId}
theorem bA (hx : ev ρ x = .int k m) (hy : ev ρ y = .int k m') (hd : m < m') (h : RR P S ops K rest (upd ρ d (.bool true)) w) : RR P S ops K ((⟨some d, .binOp .lss T' x y T'', T, pos, af, none⟩, b) :: rest) ρ w :=
 qB hx hy (by rw [decide_eq_true hd]; exact h)
theorem fd (hx : ev ρ x = .int k m) (hy : ev ρ y = .int k m') (hd : m ≤ m') (h : RR P S ops K rest (upd ρ d (.bool true)) w) : RR P S ops K ((⟨some d, .binOp .leq T' x y T'', T, pos, af, none⟩, b) :: rest) ρ w :=
 qC hx hy (by rw [decide_eq_true hd]; exact h)
theorem bz (hx : ev ρ x = .int k m) (hy : ev ρ y = .int k m') (hd : m' ≤ m) (h : RR P S ops K rest (upd ρ d (.bool false)) w) : RR P S ops K ((⟨some d, .binOp .lss T' x y T'', T, pos, af, none⟩, b) :: rest) ρ w :=
 qB hx hy (by rw [decide_eq_false (by omega)]; exact h)
theorem oE (hx : ev ρ x = .int k m) (hy : ev ρ y = .int k m') (hd : m' < m) (h : RR P S ops K rest (upd ρ d (.bool true)) w) : RR P S ops K ((⟨some d, .binOp .gtr T' x y T'', T, pos, af, none⟩, b) :: rest) ρ w :=
 qD hx hy (by rw [decide_eq_true hd]; exact h)
theorem kZ (hx : ev ρ x = .int k m) (hy : ev ρ y = .int k m') (hd : m ≠ m') (h : RR P S ops K rest (upd ρ d (.bool false)) w) : RR P S ops K ((⟨some d, .binOp .eql T' x y T'', T, pos, af, none⟩, b) :: rest) ρ w :=
 ou hx hy (by rw [decide_eq_false hd]; exact h)
theorem gN (hx : ev ρ x = .int k m) (hy : ev ρ y = .int k m') (hd : m = m') (h : RR P S ops K rest (upd ρ d (.bool false)) w) : RR P S ops K ((⟨some d, .binOp .neq T' x y T'', T, pos, af, none⟩, b) :: rest) ρ w :=
 ja hx hy (by rw [decide_eq_false (by simpa using hd)]; exact h)
theorem nc (hx : ev ρ x = .int k m) (hy : ev ρ y = .int k m') (hd : m = m') (h : RR P S ops K rest (upd ρ d (.bool true)) w) : RR P S ops K ((⟨some d, .binOp .eql T' x y T'', T, pos, af, none⟩, b) :: rest) ρ w :=
 ou hx hy (by rw [decide_eq_true hd]; exact h)
theorem ml (hx : ev ρ x = .int k m) (hy : ev ρ y = .int k m') (hd : m ≤ m') (h : RR P S ops K rest (upd ρ d (.bool false)) w) : RR P S ops K ((⟨some d, .binOp .gtr T' x y T'', T, pos, af, none⟩, b) :: rest) ρ w :=
 qD hx hy (by rw [decide_eq_false (by omega)]; exact h)
end
end Go.W
namespace Go.W
end Go.W
namespace Go.W
end Go.W
namespace Go.W
open Go.RowKit (Below)
structure Fr (F : Nat → Prop) (w w' : World) : Prop where
 os : w'.os = w.os
 tape : w'.tape = w.tape
 output : w'.output = w.output
 size : w.heap.size ≤ w'.heap.size
 block : ∀ k, k < w.heap.size → ¬ F k → w'.heap[k]? = w.heap[k]?
theorem Fr.refl (F : Nat → Prop) (w : World) : Fr F w w := ⟨rfl, rfl, rfl, Nat.le_refl _, fun _ _ _ => rfl⟩
theorem Fr.trans {F : Nat → Prop} {w w1 w2 : World} (h : Fr F w w1) (k : Fr F w1 w2) : Fr F w w2 :=
 ⟨k.os.trans h.os, k.tape.trans h.tape, k.output.trans h.output, Nat.le_trans h.size k.size, fun i hi hn => (k.block i (Nat.lt_of_lt_of_le hi h.size) hn).trans (h.block i hi hn)⟩
theorem Ex.fr {F : Nat → Prop} {w w' : World} (h : Ex w w') : Fr F w w' := ⟨h.os, h.tape, h.output, h.size, fun k hk _ => h.block k hk⟩
theorem Chg.fr {F : Nat → Prop} {w w' : World} {g : Nat} (h : Chg g w w') (hg : F g) : Fr F w w' := ⟨h.os, h.tape, h.output, Nat.le_of_eq h.size.symm, fun k _ hn => h.block k (by rintro rfl; exact hn hg)⟩
theorem Fr.ex {F : Nat → Prop} {w0 w w' : World} (e : Ex w0 w) (h : Fr F w w') (hF : ∀ k, F k → w0.heap.size ≤ k) : Ex w0 w' :=
 Below.trans e ⟨h.os, h.tape, h.output, h.size, fun k hk => h.block k (Nat.lt_of_lt_of_le hk e.size) fun hf => absurd (hF k hf) (Nat.not_le_of_lt hk)⟩
theorem Blk.fr {F : Nat → Prop} {w w' : World} {g T : Nat} {cs : List Value} (hb : Blk w g T cs) (h : Fr F w w') (hn : ¬ F g) : Blk w' g T cs := (h.block g hb.lt hn).trans hb
theorem Sl.fr {F : Nat → Prop} {w w' : World} {a : Option Addr} {vs : List Value} (hs : Sl w a vs) (h : Fr F w w') (hn : ∀ ad, a = some ad → ¬ F ad.block) : Sl w' a vs := by
 refine ⟨hs.ok, fun j hj => ?_⟩
 have hlt := World.block_lt_of_cell? w _ (hs.get j hj)
 obtain ⟨b, o, rfl⟩ := hs.plain (by omega)
 rw [World.cell?_of_block (w := w) (a := elt (some ⟨b, o, none⟩) j) (h.block b hlt (hn _ rfl))]; exact hs.get j hj
theorem eR {F : Nat → Prop} {w w' : World} {r : Option Nat} (h : w.grownBy w' r) (hF : ∀ k, r = some k → F k) : Fr F w w' :=
 ⟨h.os, h.tape, h.output, h.size, fun k hk hn => h.block k hk (by intro e; exact hn (hF k e.symm))⟩
end Go.W
namespace Go.LM
def natOf : List Nat → Nat
 | [] => 0
 | d :: l => d + 4294967296 * natOf l
def Lim (l : List Nat) : Prop := ∀ d ∈ l, d < 4294967296
theorem Lim.getD {l : List Nat} (h : Lim l) (k : Nat) : l.getD k 0 < 4294967296 := by
 by_cases hk : k < l.length
 ·rw [List.getD_eq_getElem?_getD, List.getElem?_eq_getElem hk]; exact h _ (List.getElem_mem hk)
 ·rw [List.getD_eq_getElem?_getD, List.getElem?_eq_none (by omega)]; decide
theorem Lim.take {l : List Nat} (h : Lim l) (k : Nat) : Lim (l.take k) := fun d hd => h d (List.mem_of_mem_take hd)
theorem cj : ∀ (l m : List Nat), natOf (l ++ m) = natOf l + 4294967296 ^ l.length * natOf m
 | [], m => by simp [natOf]
 | d :: l, m => by
  simp only [List.cons_append, natOf, cj l m, List.length_cons, Nat.pow_succ]
  rw [Nat.mul_add, ← Nat.mul_assoc, Nat.mul_comm 4294967296 (4294967296 ^ l.length), Nat.add_assoc]
theorem b9 : ∀ {l : List Nat}, Lim l → natOf l < 4294967296 ^ l.length
 | [], _ => by simp [natOf]
 | d :: l, h => by
  have h1 := h d (by simp)
  have h2 := b9 (l := l) (fun x hx => h x (by simp [hx]))
  simp only [natOf, List.length_cons, Nat.pow_succ]
  omega
theorem dC (l : List Nat) (d : Nat) : natOf (l ++ [d]) = natOf l + 4294967296 ^ l.length * d := by rw [cj]; simp [natOf]
theorem dr : ∀ n : Nat, natOf (List.replicate n 0) = 0
 | 0 => rfl
 | n + 1 => by simp [List.replicate_succ, natOf, dr n]
def trimL : List Nat → List Nat
 | [] => []
 | d :: l => if trimL l = [] ∧ d = 0 then [] else d :: trimL l
theorem bu : ∀ l : List Nat, natOf (trimL l) = natOf l
 | [] => rfl
 | d :: l => by
  have ih := bu l
  rw [trimL]
  split
  ·rename_i h; rw [h.1] at ih; simp only [natOf] at ih ⊢; omega
  ·simp only [natOf, ih]
theorem cA : ∀ l : List Nat, (trimL l).length ≤ l.length
 | [] => by simp [trimL]
 | d :: l => by
  have := cA l
  rw [trimL]
  split <;> simp <;> omega
theorem gr : ∀ l : List Nat, trimL l = l.take (trimL l).length
 | [] => rfl
 | d :: l => by
  have ih := gr l
  rw [trimL]
  split
  ·rfl
  ·simp only [List.length_cons, List.take_succ_cons, ← ih]
theorem cY : ∀ l : List Nat, trimL (l ++ [0]) = trimL l
 | [] => rfl
 | d :: l => by simp only [List.cons_append, trimL, cY l]
theorem gx {d : Nat} (h : d ≠ 0) : ∀ l : List Nat, trimL (l ++ [d]) = l ++ [d]
 | [] => by simp [trimL, h]
 | e :: l => by
  simp only [List.cons_append, trimL, gx h l]
  rw [if_neg (by simp)]
def Canon (l : List Nat) : Prop := trimL l = l
theorem bE : ∀ l : List Nat, Canon (trimL l)
 | [] => rfl
 | d :: l => by
  have ih := bE l
  unfold Canon at *
  rw [trimL]
  split
  ·rfl
  ·rename_i h
   rw [trimL, ih, if_neg h]
theorem Lim.trim {l : List Nat} (h : Lim l) : Lim (trimL l) := by rw [gr]; exact h.take _
theorem cw {l : List Nat} : trimL l = [] ↔ natOf l = 0 := by
 constructor
 ·intro h; rw [← bu, h]; rfl
 ·induction l with
  | nil => intro _; rfl
  | cons d l ih =>
   intro h
   simp only [natOf] at h
   rw [trimL, if_pos ⟨ih (by omega), by omega⟩]
theorem je {l : List Nat} (h : Canon l) (hne : l ≠ []) : 4294967296 ^ (l.length - 1) ≤ natOf l := by
 obtain ⟨m, d, rfl⟩ : ∃ m d, l = m ++ [d] := ⟨l.dropLast, l.getLast hne, (List.dropLast_concat_getLast hne).symm⟩
 have hd : d ≠ 0 := by
  rintro rfl
  unfold Canon at h
  rw [cY] at h
  have := cA m
  rw [h] at this
  simp at this
  omega
 rw [dC]
 simp only [List.length_append, List.length_singleton, Nat.add_sub_cancel]
 have : 4294967296 ^ m.length * 1 ≤ 4294967296 ^ m.length * d := Nat.mul_le_mul_left _ (by omega)
 omega
theorem kz {l m : List Nat} (hl : Lim l) (hm : Lim m) (cl : Canon l) (cm : Canon m) (h : natOf l = natOf m) : l = m := by
 induction l generalizing m with
 | nil =>
  have : trimL m = [] := cw.2 h.symm
  rw [cm] at this; exact this.symm
 | cons d l ih =>
  cases m with
  | nil =>
   have : trimL (d :: l) = [] := cw.2 h
   rw [cl] at this; cases this
  | cons e m =>
   simp only [natOf] at h
   have h1 := hl d (by simp)
   have h2 := hm e (by simp)
   have hde : d = e := by omega
   subst hde
   have hc : ∀ {l : List Nat} {d : Nat}, Canon (d :: l) → Canon l := fun {l d} hc => by
    unfold Canon at *
    rw [trimL] at hc
    split at hc
    ·cases hc
    ·exact (List.cons.inj hc).2
   rw [ih (fun x hx => hl x (by simp [hx])) (fun x hx => hm x (by simp [hx])) (hc cl) (hc cm) (by omega)]
def digs (n : Nat) : List Nat := trimL [n % 4294967296, n / 4294967296]
theorem cR {n : Nat} : natOf (digs n) = n := by rw [digs, bu]; simp [natOf]; omega
theorem oF (n : Nat) : (digs n).length ≤ 2 := cA _
theorem cK (n : Nat) : Canon (digs n) := bE _
end Go.LM
namespace Go.Proofs.Ytppipmkpmmdcjaa
open Go.W Go.LM
abbrev limbsL (ls : List Nat) : List Value := ls.map fun (n : Nat) => Value.int .u32 n
structure Limbs (w : World) (a : Option Addr) (c : Nat) (ls : List Nat) : Prop where
 sl : Sl w a (limbsL ls)
 cap : ls.length ≤ c
 lim : Lim ls
 len : ls.length ≤ 17592186044416
theorem Limbs.ext {w w' : World} {a : Option Addr} {c : Nat} {ls : List Nat} (h : Limbs w a c ls) (e : Ex w w') : Limbs w' a c ls := ⟨h.sl.ext e, h.cap, h.lim, h.len⟩
theorem Limbs.chg {w w' : World} {a : Option Addr} {c g : Nat} {ls : List Nat} (h : Limbs w a c ls) (e : Chg g w w') (hne : ∀ ad, a = some ad → ad.block ≠ g) : Limbs w' a c ls := ⟨h.sl.chg e hne, h.cap, h.lim, h.len⟩
theorem Limbs.take {w : World} {a : Option Addr} {c : Nat} {ls : List Nat} (h : Limbs w a c ls) (k : Nat) : Limbs w a c (ls.take k) :=
 ⟨by have := h.sl.take k; rwa [← List.map_take] at this, by have := h.cap; simp; omega, h.lim.take k, by have := h.len; simp; omega⟩
theorem Limbs.trim {w : World} {a : Option Addr} {c : Nat} {ls : List Nat} (h : Limbs w a c ls) : Limbs w a c (trimL ls) := by rw [gr]; exact h.take _
theorem Limbs.nil (w : World) (a : Option Addr) (c : Nat) : Limbs w a c [] := ⟨Sl.nil _ _, by simp, by intro d hd; simp at hd, by simp⟩
theorem dD {ls : List Nat} {k : Nat} (hk : k ≤ ls.length) (h0 : 0 < k) : ls.take k = ls.take (k - 1) ++ [ls.getD (k - 1) 0] := by
 obtain ⟨j, rfl⟩ : ∃ j, k = j + 1 := ⟨k - 1, by omega⟩
 rw [List.take_succ_eq_append_getElem (by omega)]
 simp [List.getD_eq_getElem?_getD, show j < ls.length by omega]
theorem bL {ls : List Nat} {a : Option Addr} {c : Nat} {w : World} (h : Limbs w a c ls) :
  CallsR Try.prog 21 #[.slice a ls.length c] w fun v w' => v = .slice a (trimL ls).length c ∧ Ex w w' := by
 have hlen := h.len
 have hcap := h.cap
 refine aJ (args := [_]) Try.func21 rfl rfl ?_
 repeat' (first|refine ai rfl ?_|refine aa ?_|refine ao ?_|refine ah rfl ?_|refine ae ?_|refine aC ?_)
 refine bh (ι := Nat) [0, 3, 4, 5, 6, 7, 8, 9, 10, 11, 12, 13, 14, 15, 16, 17, 18, 19] (fun k => [(0, .slice a k c)]) (fun k w' => k ≤ ls.length ∧ w' = w ∧ trimL (ls.take k) = trimL ls) (fun k => k) ls.length ⟨rfl, trivial⟩ ⟨Nat.le_refl _, rfl, by simp⟩ ?_
 rintro k ξ w2 ⟨hk, rfl, hT⟩
 repeat' (first|(refine aB (j := k - 1) rfl (by show Value.int .i64 ((k : Int) - 1) = _; congr 1; omega) (h.sl.plain (by simp; omega)) (by omega) ?_)|refine bO rfl h.sl (by omega) ?_|refine ai rfl ?_|refine aa ?_|refine ao ?_|refine ah rfl ?_|refine ae ?_|refine bn rfl ?_|refine bB rfl rfl ?_|refine bS rfl rfl ?_|refine fS rfl rfl (fun hc => ?_) (fun hc => ?_)|refine dh rfl rfl (by omega) (by omega) ?_|refine aA rfl ?_|refine aR rfl (fun hc => ?_) (fun hc => ?_)|refine aC ?_|refine aW ?_|refine aO ?_|refine aX ?_|refine aT ?_|refine aI ?_)
 ·refine il rfl rfl (by omega) (by omega) ?_
  rw [show ((k : Int) - 1).toNat = k - 1 by omega]
  repeat' (first|refine ai rfl ?_|refine aa ?_|refine ae ?_|refine aM ?_)
  refine ⟨⟨k - 1, ⟨by omega, rfl, ?_⟩, by omega, rfl, trivial⟩, (by (repeat (first|exact aF _ _ _|refine ay rfl ?_|refine av rfl ?_|refine aj rfl ?_|refine ak rfl ?_)))⟩
  rw [← hT, dD hk (by omega), show ls.getD (k - 1) 0 = 0 by omega, cY]
 ·refine bF rfl (rt rfl) ⟨?_, Ex.refl _⟩
  rw [← hT, dD hk (by omega), gx (by omega), ← dD hk (by omega)]
  simp only [List.length_take, Nat.min_eq_left hk]; rfl
 ·obtain rfl : k = 0 := by omega
  refine bF rfl (rt rfl) ⟨?_, Ex.refl _⟩
  rw [← hT]; rfl
def RetN (w : World) (ls : List Nat) (v : Value) (w' : World) : Prop := ∃ a c, v = .slice a ls.length c ∧ Limbs w' a c ls ∧ (∀ ad, a = some ad → w.heap.size ≤ ad.block) ∧ Ex w w'
theorem cM {n : Nat} (hn : n < 18446744073709551616) (w : World) : CallsR Try.prog 29 #[.int .u64 (n : Int)] w (RetN w (digs n)) := by
 refine aJ (args := [_]) Try.func29 rfl rfl ?_
 repeat' (first|refine ai rfl ?_|refine aa ?_|refine ao ?_|refine ah rfl ?_|refine ae ?_)
 refine i9 rfl ?_
 rw [show IntKind.u32.wrap ((n : Nat) : Int) = ((n % 4294967296 : Nat) : Int) from (cv rfl).trans (by simp [IntKind.bits])]
 repeat' (first|refine gi (j := 32) rfl rfl (.inl rfl) ?_|refine ai rfl ?_)
 rw [Nat.shiftRight_eq_div_pow]
 refine cP rfl (ox (by omega) (by omega)) ?_
 refine oB rfl rfl rfl rfl (fun g w1 hn1 => ⟨fun _ _ => trivial, ?_⟩)
 have hL : Limbs w1 (some ⟨g, 0, none⟩) 2 [n % 4294967296, n / 2 ^ 32] := ⟨hn1.blk.sl, by simp, by intro d hd; simp at hd; omega, by simp⟩
 refine ax (bL hL) rfl ?_
 rintro v w2 ⟨rfl, hE2⟩
 refine ⟨fun _ _ => trivial, ?_⟩
 repeat' (first|refine ai rfl ?_|refine aa ?_|refine ae ?_|refine aT ?_)
 exact bF rfl (rt rfl) ⟨_, _, rfl, hL.trim.ext hE2, by intro ad e; cases e; exact hn1.lo, hn1.ex.trans hE2⟩
theorem fV {ls : List Nat} {a : Option Addr} {c : Nat} {w : World} (h : Limbs w a c ls) (h2 : ls.length ≤ 2) :
  CallsR Try.prog 30 #[.slice a ls.length c] w fun v w' => v = .int .u64 ((natOf ls : Nat) : Int) ∧ Ex w w' := by
 refine aJ (args := [_]) Try.func30 rfl rfl ?_
 repeat' (first|refine ai rfl ?_|refine aa ?_|refine ao ?_|refine ah rfl ?_|refine ae ?_|refine bn rfl ?_|refine aC ?_)
 refine bh (ι := Nat) [3, 4, 5, 8, 9, 10, 11, 12, 13, 14, 15, 16, 17, 18, 19, 20] (fun k => [(8, .int .i64 (k : Int)), (3, .int .u64 ((natOf (ls.take k) : Nat) : Int))]) (fun k w' => k ≤ ls.length ∧ w' = w) (fun k => ls.length - k) 0 ⟨rfl, rfl, trivial⟩ ⟨by simp, rfl⟩ ?_
 rintro k ξ w2 ⟨hk, rfl⟩
 have hlt := b9 (h.lim.take k)
 have hd := h.lim.getD k
 repeat' (first|(refine aB rfl rfl (h.sl.plain (by simp; omega)) (by omega) ?_)|refine bO rfl h.sl (by omega) ?_|refine cP rfl (cW (by omega) (by omega)) ?_|refine oy rfl rfl (by omega) (by omega) ?_|refine ai rfl ?_|refine aa ?_|refine ao ?_|refine ah rfl ?_|refine ae ?_|refine aR rfl (fun hc => ?_) (fun hc => ?_)|refine aC ?_|refine aW ?_|refine aO ?_|refine aX ?_|refine aT ?_|refine aI ?_)
 ·refine me (j := 32 * k) rfl rfl rfl (by simp only [IntKind.bits]; omega) ?_
  have hkk : k = 0 ∨ k = 1 := by omega
  have hsh : (ls.getD k 0 <<< (32 * k)) % 2 ^ IntKind.u64.bits = ls.getD k 0 <<< (32 * k) := Nat.mod_eq_of_lt (by
   rw [Nat.shiftLeft_eq]; rcases hkk with rfl | rfl <;> simp only [IntKind.bits] <;> omega)
  have hsh2 : ls.getD k 0 <<< (32 * k) < 18446744073709551616 := by rw [Nat.shiftLeft_eq]; rcases hkk with rfl | rfl <;> omega
  have hlt' : natOf (ls.take k) < 2 ^ (32 * k) := by
   simp only [List.length_take, Nat.min_eq_left hk] at hlt
   rcases hkk with rfl | rfl <;> simpa using hlt
  rw [hsh]
  refine m7 rfl rfl rfl (by simp only [IntKind.bits]; rcases hkk with rfl | rfl <;> omega) hsh2 ?_
  repeat' (first|refine ai rfl ?_|refine aa ?_|refine ah rfl ?_|refine ae ?_|refine bi rfl rfl (by omega) (by omega) ?_|refine aM ?_)
  refine ⟨⟨k + 1, ⟨by omega, rfl⟩, by omega, rfl, ?_, trivial⟩, (by (repeat (first|exact aF _ _ _|refine ay rfl ?_|refine av rfl ?_|refine aj rfl ?_|refine ak rfl ?_)))⟩
  show Value.int .u64 _ = _
  congr 2
  have e := dD (ls := ls) (k := k + 1) (by omega) (by omega)
  rw [Nat.add_sub_cancel] at e
  rw [e, dC, Nat.or_comm, ← Nat.shiftLeft_add_eq_or_of_lt hlt', Nat.shiftLeft_eq]
  simp only [List.length_take, Nat.min_eq_left hk]
  rcases hkk with rfl | rfl <;> omega
 ·obtain rfl : k = ls.length := by omega
  refine bF rfl (rt rfl) ⟨?_, Ex.refl _⟩
  show Value.int .u64 _ = _
  rw [List.take_length]
end Go.Proofs.Ytppipmkpmmdcjaa
namespace Go.Proofs.Ytppipmkpmmdcjaa
open Go.W Go.LM
def sgn (neg : Bool) (n : Nat) : Int := if neg then -(n : Int) else n
abbrev intL (neg : Bool) (a : Option Addr) (n c : Nat) : List Value := [.bool neg, .slice a n c]
def IntC (lo : Nat) (w : World) (v : Value) (z : Int) : Prop :=
 ∃ neg a c ls, v = .agg (intL neg a ls.length c).toArray ∧ Limbs w a c ls ∧ z = sgn neg (natOf ls) ∧ Canon ls ∧ (neg = true → ls ≠ []) ∧ ∀ ad, a = some ad → lo ≤ ad.block
theorem IntC.ext {lo : Nat} {w w' : World} {v : Value} {z : Int} (h : IntC lo w v z) (e : Ex w w') : IntC lo w' v z := by obtain ⟨neg, a, c, ls, h1, h2, h3⟩ := h; exact ⟨neg, a, c, ls, h1, h2.ext e, h3⟩
theorem IntC.mono {lo lo' : Nat} {w : World} {v : Value} {z : Int} (h : IntC lo w v z) (hl : lo' ≤ lo) : IntC lo' w v z := by
 obtain ⟨neg, a, c, ls, h1, h2, h3, h4, h5, h6⟩ := h; exact ⟨neg, a, c, ls, h1, h2, h3, h4, h5, fun ad e => by have := h6 ad e; omega⟩
theorem IntC.chg {lo g : Nat} {w w' : World} {v : Value} {z : Int} (h : IntC lo w v z) (e : Chg g w w') (hg : g < lo) : IntC lo w' v z := by
 obtain ⟨neg, a, c, ls, h1, h2, h3, h4, h5, h6⟩ := h; exact ⟨neg, a, c, ls, h1, h2.chg e (fun ad ea => by have := h6 ad ea; omega), h3, h4, h5, h6⟩
def RetZ (w : World) (z : Int) (v : Value) (w' : World) : Prop := IntC w.heap.size w' v z ∧ Ex w w'
theorem cc {ls : List Nat} {a : Option Addr} {c lo : Nat} {w : World} (h : Limbs w a c ls) (hc : Canon ls) (hlo : ∀ ad, a = some ad → lo ≤ ad.block) (neg : Bool) :
  CallsR Try.prog 19 #[.bool neg, .slice a ls.length c] w fun v w' => IntC lo w' v (sgn neg (natOf ls)) ∧ Ex w w' := by
 refine aJ (args := [_, _]) Try.func19 rfl rfl ?_
 have hcan := hc
 clear hc
 repeat' (first|refine aD (fun g w1 hn => ⟨fun _ _ => trivial, ?_⟩)|refine ai rfl ?_|refine aa ?_|refine ao ?_|refine ah rfl ?_|refine ae ?_|refine bn rfl ?_|refine aR rfl (fun hc => ?_) (fun hc => ?_)|refine aI ?_)
 ·have hb : Blk w1 g 27 (intL false none 0 0) := hn.blk
  refine cD (cs := intL false none 0 0) rfl ?_
  refine aw (n := 2) rfl rfl rfl rfl hb rfl (fun w2 hc2 hb2 => ⟨fun _ _ => trivial, ?_⟩)
  repeat' (first|refine aa ?_|refine ae ?_|refine aT ?_|refine bw ?_)
  have hl : ls = [] := List.eq_nil_of_length_eq_zero (by omega)
  subst hl
  refine bF rfl (rc rfl rfl hb2) ⟨⟨false, none, 0, [], rfl, Limbs.nil _ _ _, ?_, rfl, by simp, by simp⟩, hn.ex.chg hc2 hn.lo⟩
  cases neg <;> rfl
 ·have hb : Blk w1 g 27 (intL false none 0 0) := hn.blk
  refine cD (cs := intL neg a ls.length c) rfl ?_
  refine aw (n := 2) rfl rfl rfl rfl hb rfl (fun w2 hc2 hb2 => ⟨fun _ _ => trivial, ?_⟩)
  repeat' (first|refine aa ?_|refine ae ?_|refine aT ?_)
  have hE := hn.ex.chg hc2 hn.lo
  exact bF rfl (rc rfl rfl hb2) ⟨⟨neg, a, c, ls, rfl, h.ext hE, rfl, hcan, fun _ e => hc (by rw [e]; rfl), hlo⟩, hE⟩
theorem ce {z : Int} (h1 : -9223372036854775808 ≤ z) (h2 : z ≤ 9223372036854775807) (w : World) : CallsR Try.prog 43 #[.int .i64 z] w (RetZ w z) := by
 refine aJ (args := [_]) Try.func43 rfl rfl ?_
 repeat' (first|refine aD (fun g w1 hn => ⟨fun _ _ => trivial, ?_⟩)|refine ai rfl ?_|refine aa ?_|refine ao ?_|refine ah rfl ?_|refine ae ?_|refine aR rfl (fun hc => ?_) (fun hc => ?_)|refine aI ?_)
 ·have hb : Blk w1 g 27 (intL false none 0 0) := hn.blk
  refine i9 rfl ?_
  refine mc rfl ?_
  obtain ⟨n, rfl⟩ : ∃ n : Nat, z = -(n : Int) := ⟨(-z).toNat, by omega⟩
  rw [show IntKind.u64.wrap (-IntKind.u64.wrap (-(n : Int))) = ((n : Nat) : Int) by
   rw [cv rfl, cv rfl]; simp only [IntKind.bits]; omega]
  refine ax (cM (by omega) _) rfl ?_
  rintro v w2 ⟨a, c, rfl, hL, hf, hE2⟩
  refine ⟨fun _ _ => trivial, ?_⟩
  refine ax (cc hL (cK _) hf true) rfl ?_
  rintro v w3 ⟨hI, hE3⟩
  obtain ⟨neg, a', c', ls, rfl, hI'⟩ := id hI
  refine ⟨fun _ _ => trivial, ?_⟩
  refine aw (n := 2) rfl rfl rfl rfl ((hb.ext hE2).ext hE3) rfl (fun w4 hc4 hb4 => ⟨fun _ _ => trivial, ?_⟩)
  repeat' (first|refine aa ?_|refine ae ?_|refine aT ?_|refine bw ?_)
  have hl := hn.lo
  have hh := hn.hi
  refine bF rfl (rc rfl rfl hb4) ⟨?_, ((hn.ex.trans hE2).trans hE3).chg hc4 hl⟩
  have := (hI.chg hc4 hh).mono hn.ex.size
  rwa [cR] at this
 ·have hb : Blk w1 g 27 (intL false none 0 0) := hn.blk
  obtain ⟨n, rfl⟩ : ∃ n : Nat, z = (n : Int) := ⟨z.toNat, by omega⟩
  refine cP rfl (cW (by omega) (by omega)) ?_
  refine ax (cM (by omega) _) rfl ?_
  rintro v w2 ⟨a, c, rfl, hL, hf, hE2⟩
  refine ⟨fun _ _ => trivial, ?_⟩
  refine ax (cc hL (cK _) hf false) rfl ?_
  rintro v w3 ⟨hI, hE3⟩
  obtain ⟨neg, a', c', ls, rfl, hI'⟩ := id hI
  refine ⟨fun _ _ => trivial, ?_⟩
  refine aw (n := 2) rfl rfl rfl rfl ((hb.ext hE2).ext hE3) rfl (fun w4 hc4 hb4 => ⟨fun _ _ => trivial, ?_⟩)
  repeat' (first|refine aa ?_|refine ae ?_|refine aT ?_)
  have hl := hn.lo
  have hh := hn.hi
  refine bF rfl (rc rfl rfl hb4) ⟨?_, ((hn.ex.trans hE2).trans hE3).chg hc4 hl⟩
  have := (hI.chg hc4 hh).mono hn.ex.size
  rwa [cR] at this
end Go.Proofs.Ytppipmkpmmdcjaa
namespace Go.Proofs.Ytppipmkpmmdcjaa
open Go.W Go.LM
def cmpZ (m n : Nat) : Int := if m < n then -1 else if n < m then 1 else 0
theorem cx {ls : List Nat} {k : Nat} (h : k < ls.length) : natOf (ls.drop k) = ls.getD k 0 + 4294967296 * natOf (ls.drop (k + 1)) := by
 rw [List.drop_eq_getElem_cons h, natOf, List.getD_eq_getElem?_getD, List.getElem?_eq_getElem h]; rfl
theorem cI (ls : List Nat) {k : Nat} (h : k ≤ ls.length) : natOf ls = natOf (ls.take k) + 4294967296 ^ k * natOf (ls.drop k) := by
 conv => lhs; rw [← List.take_append_drop k ls, cj]
 simp [Nat.min_eq_left h]
theorem fG {a b : Nat} (h : a ≤ b) : 4294967296 ^ a ≤ 4294967296 ^ b := Nat.pow_le_pow_right (by decide) h
theorem dW {a b : List Nat} (ha : Lim a) (hb : Canon b) (h : a.length < b.length) : natOf a < natOf b := by
 have h1 := b9 ha
 have h2 := je hb (by intro e; rw [e] at h; simp at h)
 have := fG (show a.length ≤ b.length - 1 by omega)
 omega
theorem em {a b : List Nat} {i : Nat} (ha : Lim a) (hl : a.length = b.length) (hi : i < a.length) (he : natOf (a.drop (i + 1)) = natOf (b.drop (i + 1))) (h : a.getD i 0 < b.getD i 0) : natOf a < natOf b := by
 rw [cI a (k := i) (by omega), cI b (k := i) (by omega), cx (ls := a) hi, cx (ls := b) (k := i) (by omega), he]
 have h1 := b9 (ha.take i)
 simp only [List.length_take, Nat.min_eq_left (Nat.le_of_lt hi)] at h1
 have h2 : 4294967296 ^ i * (a.getD i 0 + 1) ≤ 4294967296 ^ i * b.getD i 0 := Nat.mul_le_mul_left _ h
 rw [Nat.mul_add, Nat.mul_add]
 rw [Nat.mul_add] at h2
 omega
theorem cZ {la lb : List Nat} {a b : Option Addr} {c d : Nat} {w : World} (ha : Limbs w a c la) (hb : Limbs w b d lb) (ca : Canon la) (cb : Canon lb) :
  CallsR Try.prog 72 #[.slice a la.length c, .slice b lb.length d] w fun v w' => v = .int .i64 (cmpZ (natOf la) (natOf lb)) ∧ Ex w w' := by
 have hla := ha.len
 refine aJ (args := [_, _]) Try.func72 rfl rfl ?_
 repeat' (first|refine ai rfl ?_|refine aa ?_|refine ao ?_|refine ah rfl ?_|refine ae ?_|refine bn rfl ?_|refine dh rfl rfl (by omega) (by omega) ?_|refine aR rfl (fun hc => ?_) (fun hc => ?_)|refine aC ?_|refine aM ?_|refine aT ?_|refine bw ?_|refine du ?_|refine aI ?_)
 ·refine bF rfl (rt rfl) ⟨?_, Ex.refl _⟩
  rw [cmpZ, if_pos (dW ha.lim cb (by omega))]; rfl
 ·refine bF rfl (rt rfl) ⟨?_, Ex.refl _⟩
  have := dW hb.lim ca (by omega)
  rw [cmpZ, if_neg (by omega), if_pos this]; rfl
 ·have hl : la.length = lb.length := by omega
  refine bh (ι := Nat) [4, 5, 21, 22, 23, 24, 25, 26, 27, 28, 29, 30, 31, 32, 33, 34, 35, 36, 37, 38, 39, 40, 41, 42, 43, 44] (fun k => [(5, .int .i64 ((k : Int) - 1))]) (fun k w' => k ≤ la.length ∧ Ex w w' ∧ natOf (la.drop k) = natOf (lb.drop k)) (fun k => k) la.length ⟨rfl, trivial⟩
   ⟨Nat.le_refl _, Ex.refl _, by rw [List.drop_length, hl, List.drop_length]⟩ ?_
  rintro k ξ w2 ⟨hk, hE, hT⟩
  repeat' (first|refine ai rfl ?_|refine aa ?_|refine ao ?_|refine ah rfl ?_|refine ae ?_|refine aR rfl (fun hc => ?_) (fun hc => ?_)|refine aC ?_|refine aW ?_|refine aO ?_|refine aX ?_|refine aT ?_|refine aI ?_)
  ·obtain ⟨j, rfl⟩ : ∃ j, k = j + 1 := ⟨k - 1, by omega⟩
   rw [show ((j + 1 : Nat) : Int) - 1 = (j : Int) by omega]
   refine aZ (late := []) (plan := [(0, none), (1, none), (2, none), (3, none), (4, none), (5, none), (6, none), (7, none), (8, none), (9, none)]) (fun w' => Ex w w') bt (by kernel_rfl) hE.drew ?_
   repeat' (first|(refine aB (j := j) rfl rfl (ha.sl.plain (by simp; omega)) (by omega) ?_)|(refine aB (j := j) rfl rfl (hb.sl.plain (by simp; omega)) (by omega) ?_)|refine bO rfl (fun _ h => ha.sl.ext h) (by omega) ?_|refine bO rfl (fun _ h => hb.sl.ext h) (by omega) ?_|refine ai rfl ?_|refine aa ?_|refine ao ?_|refine ah rfl ?_|refine ae ?_|refine aR rfl (fun hc => ?_) (fun hc => ?_)|refine aT ?_|refine bw ?_|refine du ?_)
   ·refine bF rfl (rt rfl) ⟨?_, hE.drew⟩
    rw [cmpZ, if_pos (em (i := j) ha.lim hl (by omega) hT (by omega))]; rfl
   ·refine aZ (late := []) (plan := [(0, none), (1, none), (2, none), (3, none), (4, none), (5, none), (6, none), (7, none), (8, none), (9, none)]) (fun w' => Ex w w') bt (by kernel_rfl) hE.drew.drew ?_
    repeat' (first|(refine aB (j := j) rfl rfl (ha.sl.plain (by simp; omega)) (by omega) ?_)|(refine aB (j := j) rfl rfl (hb.sl.plain (by simp; omega)) (by omega) ?_)|refine bO rfl (fun _ h => ha.sl.ext h) (by omega) ?_|refine bO rfl (fun _ h => hb.sl.ext h) (by omega) ?_|refine ai rfl ?_|refine aa ?_|refine ao ?_|refine ah rfl ?_|refine ae ?_|refine dh rfl rfl (by omega) (by omega) ?_|refine aR rfl (fun hc => ?_) (fun hc => ?_)|refine aM ?_|refine aT ?_|refine bw ?_|refine du ?_|refine aI ?_)
    ·refine bF rfl (rt rfl) ⟨?_, hE.drew.drew⟩
     have := em (i := j) hb.lim hl.symm (by omega) hT.symm (by omega)
     rw [cmpZ, if_neg (by omega), if_pos this]; rfl
    ·refine ⟨⟨j, ⟨by omega, hE.drew.drew, ?_⟩, by omega, rfl, trivial⟩, (by (repeat (first|exact aF _ _ _|refine ay rfl ?_|refine av rfl ?_|refine aj rfl ?_|refine ak rfl ?_)))⟩
     rw [cx (ls := la) (k := j) (by omega), cx (ls := lb) (k := j) (by omega), hT, show la.getD j 0 = lb.getD j 0 by omega]
  ·obtain rfl : k = 0 := by omega
   simp only [List.drop_zero] at hT
   refine bF rfl (rt rfl) ⟨?_, hE⟩
   rw [cmpZ, if_neg (by omega), if_neg (by omega)]; rfl
theorem gO {la lb : List Nat} {a b : Option Addr} {c d : Nat} {w : World} (ha : Limbs w a c la) (hb : Limbs w b d lb) (ca : Canon la) (cb : Canon lb) (h2 : la.length ≤ 2) (hpos : 0 < natOf lb) (hge : natOf lb ≤ natOf la) :
  CallsR Try.prog 69 #[.slice a la.length c, .slice b lb.length d] w fun v w' => ∃ a1 c1 a2 c2, v = .tuple #[.slice a1 (digs (natOf la / natOf lb)).length c1, .slice a2 (digs (natOf la % natOf lb)).length c2] ∧
   Limbs w' a1 c1 (digs (natOf la / natOf lb)) ∧ Limbs w' a2 c2 (digs (natOf la % natOf lb)) ∧ (∀ ad, a1 = some ad → w.heap.size ≤ ad.block) ∧ (∀ ad, a2 = some ad → w.heap.size ≤ ad.block) ∧ Ex w w' := by
 have hlb : lb.length ≤ la.length := by
  rcases Nat.lt_or_ge la.length lb.length with h | h
  ·have := dW ha.lim cb h; omega
  ·exact h
 have hlt := b9 ha.lim
 have h64 : natOf la < 18446744073709551616 := by
  have := fG (a := la.length) (b := 2) h2
  omega
 refine aJ (args := [_, _]) Try.func69 rfl rfl ?_
 repeat' (first|refine ai rfl ?_|refine aa ?_|refine ao ?_|refine ah rfl ?_|refine ae ?_|refine aC ?_)
 refine ax (cZ ha hb ca cb) rfl ?_
 rintro v w1 ⟨rfl, hE1⟩
 refine ⟨fun _ _ => trivial, ?_⟩
 have hcz : 0 ≤ cmpZ (natOf la) (natOf lb) := by unfold cmpZ; rw [if_neg (by omega)]; split <;> omega
 repeat' (first|refine ai rfl ?_|refine aa ?_|refine ao ?_|refine ah rfl ?_|refine ae ?_|refine bn rfl ?_|refine dh rfl rfl (by omega) (by omega) ?_|refine aR rfl (fun hc => ?_) (fun hc => ?_)|refine aM ?_|refine aI ?_)
 all_goals try (exfalso; omega)
 ·refine ax (fV (ha.ext hE1) h2) rfl ?_
  rintro v w2 ⟨rfl, hE2⟩
  refine ⟨fun _ _ => trivial, ?_⟩
  repeat' (first|refine ai rfl ?_)
  refine ax (fV ((hb.ext hE1).ext hE2) (by omega)) rfl ?_
  rintro v w3 ⟨rfl, hE3⟩
  refine ⟨fun _ _ => trivial, ?_⟩
  repeat' (first|refine ai rfl ?_|refine aa ?_|refine ao ?_|refine ae ?_)
  have hE := ((hE1.trans hE2).trans hE3)
  refine aZ (late := [3, 7]) (plan := [(0, none), (1, none), (2, none), (4, none), (5, none), (6, none), (3, some false), (7, some false), (8, none), (9, none)]) (fun w' => Ex w w') bt (by kernel_rfl) hE.drew ?_
  repeat' (first|refine oz rfl rfl (by omega) (by omega) (by omega) ?_|refine m6 rfl rfl (by omega) (by omega) ?_|refine ai rfl ?_)
  refine ax (cM (n := natOf la / natOf lb) (Nat.lt_of_le_of_lt (Nat.div_le_self _ _) h64) _) rfl ?_
  rintro v w4 ⟨a1, c1, rfl, hL1, hf1, hE4⟩
  refine ⟨fun _ h => h.trans hE4, ?_⟩
  refine ax (cM (n := natOf la % natOf lb) (Nat.lt_of_le_of_lt (Nat.mod_le _ _) h64) _) rfl ?_
  rintro v w5 ⟨a2, c2, rfl, hL2, hf2, hE5⟩
  refine ⟨fun _ h => h.trans hE5, ?_⟩
  repeat' (first|refine ai rfl ?_|refine aa ?_|refine ae ?_|refine aT ?_|refine bw ?_|refine du ?_)
  have s1 := hE.size
  have s2 : w3.drew.heap.size = w3.heap.size := rfl
  have s3 := hE4.size
  exact fv rfl (rt rfl) (rt rfl) ⟨a1, c1, a2, c2, rfl, hL1.ext hE5, hL2, fun ad e => by have := hf1 ad e; omega, fun ad e => by have := hf2 ad e; omega, (hE.drew.trans hE4).trans hE5⟩
theorem gP {la lb : List Nat} {a b : Option Addr} {c d : Nat} {w : World} (ha : Limbs w a c la) (hb : Limbs w b d lb) (h2 : la.length ≤ 1) (h3 : lb.length ≤ 1) :
  CallsR Try.prog 20 #[.slice a la.length c, .slice b lb.length d] w (RetN w (digs (natOf la * natOf lb))) := by
 have h64a : natOf la < 4294967296 := by
  have := b9 ha.lim
  have := fG (a := la.length) (b := 1) h2
  omega
 have h64b : natOf lb < 4294967296 := by
  have := b9 hb.lim
  have := fG (a := lb.length) (b := 1) h3
  omega
 have hm : natOf la * natOf lb < 18446744073709551616 := by
  have : natOf la * natOf lb ≤ 4294967295 * 4294967295 := Nat.mul_le_mul (by omega) (by omega)
  omega
 refine aJ (args := [_, _]) Try.func20 rfl rfl ?_
 repeat' (first|refine ai rfl ?_|refine aa ?_|refine ao ?_|refine ah rfl ?_|refine ae ?_|refine bn rfl ?_|refine bB rfl rfl ?_|refine bS rfl rfl ?_|refine fS rfl rfl (fun hc => ?_) (fun hc => ?_)|refine bi rfl rfl (by omega) (by omega) ?_|refine aA rfl ?_|refine aR rfl (fun hc => ?_) (fun hc => ?_)|refine aI ?_)
 all_goals try (exfalso; omega)
 refine ax (fV ha (by omega)) rfl ?_
 rintro v w2 ⟨rfl, hE2⟩
 refine ⟨fun _ _ => trivial, ?_⟩
 repeat' (first|refine ai rfl ?_)
 refine ax (fV (hb.ext hE2) (by omega)) rfl ?_
 rintro v w3 ⟨rfl, hE3⟩
 refine ⟨fun _ _ => trivial, ?_⟩
 refine m5 rfl rfl ?_
 rw [← Int.natCast_mul, cW (by omega) (by omega)]
 refine ax (cM hm _) rfl ?_
 rintro v w5 ⟨a5, c5, rfl, hL5, hf5, hE5⟩
 refine ⟨fun _ _ => trivial, ?_⟩
 repeat' (first|refine ai rfl ?_|refine aa ?_|refine ae ?_|refine aT ?_|refine bw ?_)
 have hE := hE2.trans hE3
 have s1 := hE.size
 exact bF rfl (rt rfl) ⟨a5, c5, rfl, hL5, fun ad e => by have := hf5 ad e; omega, hE.trans hE5⟩
end Go.Proofs.Ytppipmkpmmdcjaa
namespace Go.Proofs.Ytppipmkpmmdcjaa
open Go.W Go.LM
theorem dE {ls : List Nat} (hc : Canon ls) {k : Nat} (h : natOf ls < 4294967296 ^ k) : ls.length ≤ k := by
 by_cases hne : ls = []
 ·subst hne; simp
 ·have h1 := je hc hne
  rcases Nat.lt_or_ge k ls.length with h2 | h2
  ·have := fG (show k ≤ ls.length - 1 by omega); omega
  ·exact h2
theorem d9 (neg : Bool) (n : Nat) : (sgn neg n).natAbs = n := by unfold sgn; split <;> simp
end Go.Proofs.Ytppipmkpmmdcjaa
namespace Go.LM
abbrev B : Nat := 4294967296
theorem cu : ∀ {l : List Nat} {k v : Nat}, k < l.length → natOf (l.set k v) + l.getD k 0 * 4294967296 ^ k = natOf l + v * 4294967296 ^ k
 | [], k, v, h => by simp at h
 | d :: l, 0, v, _ => by simp [natOf]; omega
 | d :: l, k + 1, v, h => by
  have ih := cu (l := l) (k := k) (v := v) (by simpa using h)
  simp only [List.set_cons_succ, natOf, List.getD_cons_succ, Nat.pow_succ]
  have e1 : l.getD k 0 * (4294967296 ^ k * 4294967296) = 4294967296 * (l.getD k 0 * 4294967296 ^ k) := by rw [← Nat.mul_assoc, Nat.mul_comm]
  have e2 : v * (4294967296 ^ k * 4294967296) = 4294967296 * (v * 4294967296 ^ k) := by rw [← Nat.mul_assoc, Nat.mul_comm]
  rw [e1, e2]
  omega
theorem Lim.set {l : List Nat} (h : Lim l) {k v : Nat} (hv : v < 4294967296) : Lim (l.set k v) := fun d hd => by
 rcases List.mem_or_eq_of_mem_set hd with h' | h'
 ·exact h d h'
 ·omega
theorem Lim.zeros (n : Nat) : Lim (List.replicate n 0) := fun d hd => by rw [List.eq_of_mem_replicate hd]; decide
theorem ct {l : List Nat} {k j v : Nat} (h : k ≠ j) : (l.set k v).getD j 0 = l.getD j 0 := by simp [List.getD_eq_getElem?_getD, List.getElem?_set_ne h]
theorem iG {l : List Nat} {k v : Nat} (h : k < l.length) : (l.set k v).getD k 0 = v := by simp [List.getD_eq_getElem?_getD, h]
theorem cF {l : List Nat} {k : Nat} (h : k < l.length) : l.take (k + 1) = l.take k ++ [l.getD k 0] := by
 rw [List.take_succ_eq_append_getElem h, List.getD_eq_getElem?_getD, List.getElem?_eq_getElem h]; rfl
theorem bU {l : List Nat} {k : Nat} (h : k < l.length) : natOf (l.take (k + 1)) = natOf (l.take k) + l.getD k 0 * 4294967296 ^ k := by
 rw [cF h, dC]
 simp only [List.length_take, Nat.min_eq_left (Nat.le_of_lt h)]
 rw [Nat.mul_comm]
theorem nI {x y c r : Nat} (hx : x < 4294967296) (hy : y < 4294967296) (hc : c < 4294967296) (hr : r < 4294967296) : c + (x * y + r) < 18446744073709551616 := by
 have : x * y ≤ 4294967295 * 4294967295 := Nat.mul_le_mul (by omega) (by omega)
 omega
theorem oG {P : List Nat} {k c x y N : Nat} (hk : k < P.length) (h : natOf P + c * 4294967296 ^ k = N) :
  natOf (P.set k ((c + (x * y + P.getD k 0)) % 4294967296)) + (c + (x * y + P.getD k 0)) / 4294967296 * 4294967296 ^ (k + 1) = N + x * y * 4294967296 ^ k := by
 have h1 := cu (l := P) (v := (c + (x * y + P.getD k 0)) % 4294967296) hk
 generalize x * y = m at *
 generalize P.getD k 0 = r at *
 have h2 : (c + (m + r)) % 4294967296 * 4294967296 ^ k + (c + (m + r)) / 4294967296 * 4294967296 ^ (k + 1) = c * 4294967296 ^ k + m * 4294967296 ^ k + r * 4294967296 ^ k := by
  rw [Nat.pow_succ, Nat.mul_comm (4294967296 ^ k) 4294967296, ← Nat.mul_assoc, ← Nat.add_mul, ← Nat.add_mul, ← Nat.add_mul]
  congr 1
  omega
 omega
end Go.LM
namespace Go.Proofs.Ytppipmkpmmdcjaa
open Go.W Go.LM
theorem Limbs.of_blk {w : World} {g c : Nat} {Tb : Nat} {ls : List Nat} (h : Blk w g Tb (limbsL ls)) (hc : ls.length ≤ c) (hl : Lim ls) (hn : ls.length ≤ 17592186044416) : Limbs w (some ⟨g, 0, none⟩) c ls := ⟨h.sl, hc, hl, hn⟩
set_option maxHeartbeats 1000000 in
theorem iH {la lb : List Nat} {a b : Option Addr} {c d : Nat} {w : World} (ha : Limbs w a c la) (hb : Limbs w b d lb) (hlen : la.length + lb.length ≤ 17592186044416) :
  CallsR Try.prog 20 #[.slice a la.length c, .slice b lb.length d] w fun v w' => ∃ ls, natOf ls = natOf la * natOf lb ∧ Canon ls ∧ ls.length ≤ la.length + lb.length + 2 ∧ RetN w ls v w' := by
 by_cases hsm : la.length ≤ 1 ∧ lb.length ≤ 1
 ·refine (gP ha hb hsm.1 hsm.2).mono fun v w' h => ⟨_, ?_, cK _, ?_, h⟩
  ·rw [cR]
  ·have := oF (natOf la * natOf lb); omega
 have hla := ha.len
 have hlb := hb.len
 refine aJ (args := [_, _]) Try.func20 rfl rfl ?_
 repeat' (first|refine fF rfl rfl (by omega) ?_|refine fT rfl rfl (by omega) (by omega) (fun g w1 hn => ⟨fun _ _ => trivial, ?_⟩)|refine ai rfl ?_|refine aa ?_|refine ao ?_|refine ah rfl ?_|refine ae ?_|refine bn rfl ?_|refine bB rfl rfl ?_|refine bS rfl rfl ?_|refine fS rfl rfl (fun hc => ?_) (fun hc => ?_)|refine aA rfl ?_|refine aR rfl (fun hc => ?_) (fun hc => ?_)|refine aC ?_|refine aI ?_)
 all_goals try (exfalso; omega)
 all_goals
  refine bh (ι := Nat × List Nat) [6, 7, 8, 9, 10, 11, 34, 35, 36, 37, 38, 39, 40, 41, 42, 43, 44, 45, 46, 47, 48, 49, 50, 51, 52, 53, 54, 55, 56, 57, 58, 59, 60, 61, 62, 63, 64, 65, 66, 67, 68, 69, 70, 71, 72, 73, 74, 75, 76, 77, 78, 79, 80, 81, 82, 83] (fun s => [(34, .int .i64 (s.1 : Int))])
   (fun s w' => s.1 ≤ la.length ∧ Ex w w' ∧ Blk w' g 49 (limbsL s.2) ∧ s.2.length = la.length + lb.length ∧ Lim s.2 ∧ natOf s.2 = natOf (la.take s.1) * natOf lb ∧ ∀ j, s.1 + lb.length ≤ j → s.2.getD j 0 = 0) (fun s => la.length - s.1)
   (0, List.replicate (la.length + lb.length) 0) ⟨rfl, trivial⟩ ⟨by simp, hn.ex, hn.blk, by simp, Lim.zeros _, by simp [dr, natOf], fun j _ => by simp [List.getD_eq_getElem?_getD, List.getElem?_replicate]; split <;> rfl⟩ ?_
  rintro ⟨i, ps⟩ ξ w2 ⟨hi, hE, hbk, hpl, hpL, hpn, hpz⟩
  simp only at hi hbk hpl hpL hpn hpz
  show CW _ _ _ _ (over [(34, .int .i64 (i : Int))] _) w2
  have hxl := ha.lim.getD i
  repeat' (first|(refine aB rfl rfl (ha.sl.plain (by simp; omega)) (by omega) ?_)|refine bO rfl (ha.sl.ext hE) (by omega) ?_|refine ai rfl ?_|refine aa ?_|refine ao ?_|refine ah rfl ?_|refine ae ?_|refine bn rfl ?_|refine bi rfl rfl (by omega) (by omega) ?_|refine aR rfl (fun hc => ?_) (fun hc => ?_)|refine aC ?_|refine aW ?_|refine aO ?_|refine aX ?_|refine aI ?_)
  ·have h0 : la.getD i 0 = 0 := by omega
   refine ⟨⟨(i + 1, ps), ⟨by simp only; omega, hE, hbk, hpl, hpL, ?_, fun j hj => hpz j (by simp only at hj; omega)⟩, by simp only; omega, rfl, trivial⟩, (by (repeat (first|exact aF _ _ _|refine ay rfl ?_|refine av rfl ?_|refine aj rfl ?_|refine ak rfl ?_)))⟩
   simp only
   rw [hpn, bU (by omega), h0, Nat.zero_mul, Nat.add_zero]
  ·refine jW (l := i) (h := i + lb.length + 1) rfl rfl (by show Value.int .i64 ((i : Int) + (lb.length : Int) + 1) = _; rfl) (by omega) (by omega) (by omega) ?_
   rw [Nat.zero_add, Nat.mul_one, show i + lb.length + 1 - i = lb.length + 1 by omega]
   repeat' (first|refine ai rfl ?_|refine aa ?_|refine ao ?_|refine ah rfl ?_|refine ae ?_|refine bn rfl ?_|refine aC ?_)
   refine bh (ι := Nat × List Nat × Nat) [9, 10, 11, 51, 52, 53, 54, 55, 56, 57, 58, 59, 60, 61, 62, 63, 64, 65, 66, 67, 68, 69, 70, 71, 72, 73, 74, 75, 76] (fun s => [(51, .int .i64 (s.1 : Int)), (9, .int .u64 (s.2.2 : Int))])
    (fun s w' => s.1 ≤ lb.length ∧ Ex w w' ∧ Blk w' g 49 (limbsL s.2.1) ∧ s.2.1.length = la.length + lb.length ∧ Lim s.2.1 ∧ s.2.2 < 4294967296 ∧ natOf s.2.1 + s.2.2 * 4294967296 ^ (i + s.1) = natOf ps + la.getD i 0 * natOf (lb.take s.1) * 4294967296 ^ i ∧ ∀ j, i + s.1 ≤ j → s.2.1.getD j 0 = ps.getD j 0) (fun s => lb.length - s.1)
    (0, ps, 0) ⟨rfl, rfl, trivial⟩ ⟨by simp, hE, hbk, hpl, hpL, by simp, by simp [natOf], fun j _ => rfl⟩ ?_
   rintro ⟨j, qs, cy⟩ ξ2 w3 ⟨hj, hE3, hb3, hql, hqL, hcy, hqn, hqz⟩
   simp only at hj hb3 hql hqL hcy hqn hqz
   show CW _ _ _ _ (over [(51, .int .i64 (j : Int)), (9, .int .u64 (cy : Int))] _) w3
   have hyl := hb.lim.getD j
   have hrl := hqL.getD (i + j)
   have hfit := nI hxl hyl hcy hrl
   repeat' (first|(refine aB rfl rfl (hb.sl.plain (by simp; omega)) (by omega) ?_)|refine bO rfl (hb.sl.ext hE3) (by omega) ?_|refine aB rfl rfl ⟨_, _, rfl⟩ (by omega) ?_|refine kY rfl hb3 (by omega) ?_|refine ip rfl (by assumption) ?_|refine mj rfl rfl (by omega) ?_|refine io rfl rfl (by omega) ?_|refine dB rfl ?_|refine eh rfl rfl ?_|refine jX rfl rfl hb3 (by omega) (fun w4 hc4 hb4 => ⟨fun _ _ => trivial, ?_⟩)|refine ai rfl ?_|refine aa ?_|refine ao ?_|refine ah rfl ?_|refine ae ?_|refine bn rfl ?_|refine bi rfl rfl (by omega) (by omega) ?_|refine aR rfl (fun hc => ?_) (fun hc => ?_)|refine aC ?_|refine aW ?_|refine aO ?_|refine aX ?_|refine aM ?_|refine aI ?_)
   ·refine ⟨⟨(j + 1, qs.set (i + j) ((cy + (la.getD i 0 * lb.getD j 0 + qs.getD (i + j) 0)) % 4294967296), (cy + (la.getD i 0 * lb.getD j 0 + qs.getD (i + j) 0)) / 4294967296), ⟨by simp only; omega, hE3.chg hc4 hn.lo, hb4, by simp [hql], hqL.set (Nat.mod_lt _ (by decide)), by simp only; omega, ?_, ?_⟩, by simp only; omega, rfl, rfl, trivial⟩, (by (repeat (first|exact aF _ _ _|refine ay rfl ?_|refine av rfl ?_|refine aj rfl ?_|refine ak rfl ?_)))⟩
    ·have := oG (x := la.getD i 0) (y := lb.getD j 0) (show i + j < qs.length by omega) hqn
     simp only
     rw [show i + (j + 1) = i + j + 1 by omega, this, bU (by omega), Nat.mul_add, Nat.add_mul, Nat.add_assoc, Nat.pow_add]
     congr 2
     rw [← Nat.mul_assoc, Nat.mul_assoc, Nat.mul_comm (4294967296 ^ i), ← Nat.mul_assoc, Nat.mul_assoc (la.getD i 0)]
    ·intro k hk
     simp only at hk ⊢
     rw [ct (by omega), hqz k (by omega)]
   ·obtain rfl : j = lb.length := by omega
    have hz : qs.getD (i + lb.length) 0 = 0 := by rw [hqz _ (Nat.le_refl _)]; exact hpz _ (Nat.le_refl _)
    skip
    rw [Nat.mod_eq_of_lt hcy] at hb4
    refine ⟨⟨(i + 1, qs.set (i + lb.length) cy), ⟨by simp only; omega, hE3.chg hc4 hn.lo, hb4, by simp [hql], hqL.set hcy, ?_, ?_⟩, by simp only; omega, rfl, trivial⟩, (by (repeat (first|exact aF _ _ _|refine ay rfl ?_|refine av rfl ?_|refine aj rfl ?_|refine ak rfl ?_)))⟩
    ·have h1 := cu (l := qs) (k := i + lb.length) (v := cy) (by omega)
     rw [hz, Nat.zero_mul, Nat.add_zero] at h1
     simp only
     rw [h1, hqn, hpn, List.take_length, bU (by omega), Nat.add_mul]
     congr 1
     rw [Nat.mul_assoc, Nat.mul_assoc, Nat.mul_comm (natOf lb)]
    ·intro k hk
     simp only at hk ⊢
     rw [ct (by omega), hqz k (by omega), hpz k (by omega)]
  ·obtain rfl : i = la.length := by omega
   rw [List.take_length] at hpn
   have hL := Limbs.of_blk (c := la.length + lb.length) hbk (by omega) hpL (by omega)
   have hcall := bL hL
   rw [hpl] at hcall
   skip
   refine ax hcall rfl ?_
   rintro v w3 ⟨rfl, hE3⟩
   refine ⟨fun _ _ => trivial, ?_⟩
   repeat' (first|refine ai rfl ?_|refine aa ?_|refine ae ?_|refine aT ?_)
   refine bF rfl (rt rfl) ⟨trimL ps, by rw [bu, hpn], bE _, by have := cA ps; omega, _, _, rfl, hL.trim.ext hE3, fun ad e => by cases e; exact hn.lo, hE.trans hE3⟩
end Go.Proofs.Ytppipmkpmmdcjaa
