import Derived.Test.YtiejljicpinheaaGreatA05
namespace Go.W
structure Joined {ι : Type} (M : List Nat) (vals : ι → List (Nat × Value)) (J : ι → World → Prop) (ρ0 : Env) (ρ : Env) (w : World) : Prop where
 next : ∃ s, J s w ∧ Has ρ (vals s)
 agree : Agree M ρ ρ0
theorem ct {ι : Type} {P : Program} {n : Nat} {Q : Exit → Env → World → Prop} {next : Env → World → Prop} {ρ : Env} {w : World} {x : Code} (M : List Nat) (vals : ι → List (Nat × Value)) (J : ι → World → Prop)
  (h1 : CW P n x (thenE (Joined M vals J ρ) Q) ρ w) (h2 : ∀ s ξ w', J s w' → next (over (vals s) (mask M ρ ξ)) w') : CW P n x (thenE next Q) ρ w := by
 refine h1.mono fun e ρ' w' q => ?_
 cases e <;> unfold thenE at q ⊢
 case normal =>
  obtain ⟨⟨s, hJ, hH⟩, hA⟩ := q
  have := h2 s ρ' w' hJ
  rwa [j2 hA, j1 hH] at this
 all_goals exact q
section
variable {P : Program} {S : World → Prop} {ops : List Oper} {K : Env → World → Prop} {rest : List (Oper × Option Bool)} {ρ : Env} {w : World} {b : Option Bool} {kf : Bool} {d : Nat} {dst : Option Nat} {T T' : TypeId} {pos : String} {af : Array Edge}
theorem je {x lo hi : Operand} {g o len cap E s y l h : Nat} {k k' : IntKind} [hT : Slc P T' E s y] (hx : ev ρ x = .slice (some ⟨g, o, none⟩) len cap) (hlo : ev ρ lo = .int k (l : Int)) (hhi : ev ρ hi = .int k' (h : Int))
  (h1 : l ≤ h) (h2 : h ≤ cap) (h3 : l < cap) (hh : RR P S ops K rest (upd ρ d (.slice (some ⟨g, o + l * s, none⟩) (h - l) (cap - l))) w) :
  RR P S ops K ((⟨some d, .slice T' x (some lo) (some hi) none, T, pos, af, none⟩, b) :: rest) ρ w := by
 refine cd rfl (fun w' => ?_) hh
 obtain ⟨i0, hi0, hz⟩ := Option.map_eq_some_iff.1 hT.sz
 simp only [Prod.mk.injEq] at hz
 have e : ∀ n, (⟨g, o, none⟩ : Addr).add n = ⟨g, o + n, none⟩ := fun n => by unfold Addr.add; split <;> simp_all
 have h3' : ¬ cap = l := by omega
 simp [execOp, Instr.sliceAt, Instr.slice, Instr.sliceBounds, Instr.sliceBound, hx, hlo, hhi, asIntOf, underlying, hT.un, sizeOf, typeInfo, hi0, hz.1, h1, h2, h3', e]
theorem k8 {x y : Operand} {T1 : TypeId} {g o j Tb : Nat} {k : IntKind} {u : Nat} {xs : List Nat} [hT : Scal P T1] (hx : ev ρ x = .pointer (some (elt (some ⟨g, o, none⟩) j))) (hy : ev ρ y = .int k (u : Int))
  (hb : Blk w g Tb (xs.map fun (n : Nat) => Value.int k n)) (ho : o + j < xs.length) (h : ∀ w', Chg g w w' → Blk w' g Tb ((xs.set (o + j) u).map fun (n : Nat) => Value.int k n) → (kf = true → S w → S w') ∧ RR P S ops K rest ρ w') :
  RR P S ops K ((⟨none, .store T1 x y, T, pos, af, none⟩, some kf) :: rest) ρ w :=
 mb (o := o + j) (by rw [hx]; rfl) hy rfl hb (by simpa using ho) (by rw [List.map_set] at h; exact h)
theorem mX {x : Operand} {T1 : TypeId} {g o j Tb : Nat} {k : IntKind} {xs : List Nat} [Scal P T1] (hx : ev ρ x = .pointer (some (elt (some ⟨g, o, none⟩) j))) (hs : Rd b S w fun w' => Blk w' g Tb (xs.map fun (n : Nat) => Value.int k n))
  (hj : o + j < xs.length) (h : RR P S ops K rest (upd ρ d (.int k ((xs.getD (o + j) 0 : Nat) : Int))) w) : RR P S ops K ((⟨some d, .load T1 x, T, pos, af, none⟩, b) :: rest) ρ w :=
 gD hx (hs.imp fun w' hs => by
  have := hs.cell (j := o + j) (by simpa using hj)
  simp only [elt]
  rw [this]
  simp [List.getD_eq_getElem?_getD, hj]) h
theorem fG {x y : Operand} {m m' : Nat} {T'' : TypeId} (hx : ev ρ x = .int .u64 (m : Int)) (hy : ev ρ y = .int .u64 (m' : Int)) (h2 : m + m' < 18446744073709551616)
  (h : RR P S ops K rest (upd ρ d (.int .u64 ((m + m' : Nat) : Int))) w) : RR P S ops K ((⟨some d, .binOp .add T' x y T'', T, pos, af, none⟩, b) :: rest) ρ w :=
 tm hx hy (by omega) (by omega) (by rw [← Int.natCast_add]; exact h)
theorem kd {x y : Operand} {m m' : Nat} {T'' : TypeId} (hx : ev ρ x = .int .u64 (m : Int)) (hy : ev ρ y = .int .u64 (m' : Int)) (h2 : m * m' < 18446744073709551616)
  (h : RR P S ops K rest (upd ρ d (.int .u64 ((m * m' : Nat) : Int))) w) : RR P S ops K ((⟨some d, .binOp .mul T' x y T'', T, pos, af, none⟩, b) :: rest) ρ w :=
 oH hx hy (by rw [← Int.natCast_mul, dz (by omega) (by omega)]; exact h)
theorem gH {x : Operand} {m : Nat} {T1 T2 : TypeId} [h1 : IntT P T1 .u32] [h2 : IntT P T2 .u64] (hx : ev ρ x = .int .u32 (m : Int)) (hm : m < 4294967296) (h : RR P S ops K rest (upd ρ d (.int .u64 (m : Int))) w) :
  RR P S ops K ((⟨some d, .convert T1 T2 x, T, pos, af, none⟩, b) :: rest) ρ w :=
 dE hx (dz (by omega) (by omega)) h
theorem dC {x : Operand} {m : Nat} {T1 T2 : TypeId} [h1 : IntT P T1 .u64] [h2 : IntT P T2 .u32] (hx : ev ρ x = .int .u64 (m : Int)) (h : RR P S ops K rest (upd ρ d (.int .u32 ((m % 4294967296 : Nat) : Int))) w) :
  RR P S ops K ((⟨some d, .convert T1 T2 x, T, pos, af, none⟩, b) :: rest) ρ w :=
 il hx (by
  rw [show IntKind.u32.wrap ((m : Nat) : Int) = ((m % 4294967296 : Nat) : Int) from (cK rfl).trans (by simp [IntKind.bits])]
  exact h)
theorem d5 {x y : Operand} {k' : IntKind} {m : Nat} {T'' : TypeId} (hx : ev ρ x = .int .u64 (m : Int)) (hy : ev ρ y = .int k' 32)
  (h : RR P S ops K rest (upd ρ d (.int .u64 ((m / 4294967296 : Nat) : Int))) w) : RR P S ops K ((⟨some d, .binOp .shr T' x y T'', T, pos, af, none⟩, b) :: rest) ρ w :=
 fY (j := 32) hx hy (.inl rfl) (by rw [Nat.shiftRight_eq_div_pow]; exact h)
theorem fH {x y : Operand} {m m' : Nat} {T'' : TypeId} (hx : ev ρ x = .int .i64 (m : Int)) (hy : ev ρ y = .int .i64 (m' : Int)) (h2 : m + m' ≤ 9223372036854775807)
  (h : RR P S ops K rest (upd ρ d (.int .i64 ((m + m' : Nat) : Int))) w) : RR P S ops K ((⟨some d, .binOp .add T' x y T'', T, pos, af, none⟩, b) :: rest) ρ w :=
 bc hx hy (by omega) (by omega) (by rw [← Int.natCast_add]; exact h)
end
end Go.W
namespace Go.W
section
variable {P : Program} {S : World → Prop} {ops : List Oper} {K : Env → World → Prop} {rest : List (Oper × Option Bool)} {ρ : Env} {w : World} {b : Option Bool} {kf : Bool} {d : Nat} {dst : Option Nat} {T T' : TypeId} {pos : String} {af : Array Edge}
theorem lf {T1 E s y n cap c : Nat} {x1 x2 : Operand} {a ad : Option Addr} [hT : Slc P T1 E s y] (h1 : ev ρ x1 = .slice a n cap) (h2 : ev ρ x2 = .slice ad 0 c) (hn : n ≤ cap)
  (h : RR P S ops K rest (upd ρ d (.slice a n cap)) w) :
  RR P S ops K ((⟨some d, .call ⟨.builtin .append, #[x1, x2], #[T1, T1]⟩, T, pos, af, none⟩, some kf) :: rest) ρ w := by
 refine dw rfl ?_
 unfold OpW
 obtain ⟨i0, hi0, hzz⟩ := Option.map_eq_some_iff.1 hT.sz
 have : (execOp (ev ρ) ⟨some d, .call ⟨.builtin .append, #[x1, x2], #[T1, T1]⟩, T, pos, af, none⟩).run P w = .ok (.value (.slice a n cap)) w := by
  simp [execOp, resolve, invoke, builtin, h1, h2, Builtin.append_, run_underlying hT.un, sizeOf, typeInfo, hi0, Builtin.lenOf, Builtin.firstCells, loadCells, loadCellsFrom]
  cases ad <;> cases a <;> simp [hn, storeCells]
 rw [this]
 exact ⟨fun _ h => h, h⟩
theorem tw {T1 E y m c : Nat} {x1 x2 : Operand} {ad : Option Addr} {news : List Value} {z : Value} [hT : Slc P T1 E 1 y] [hz : Zro P E z] (h1 : ev ρ x1 = .slice none 0 0) (h2 : ev ρ x2 = .slice ad m c)
  (hzs : (Nat.beq z.cells.size 1) = true) (hnews : Sl w ad news) (hl : news.length = m) (ho : news.all Value.oneCell' = true) (hm : m ≤ 9223372036854775807) (hb : m * y ≤ 140737488355328)
  (h : ∀ a' cap' w', Own w' w.heap.size E 1 a' m cap' news → Ex w w' → (kf = true → S w → S w') ∧ RR P S ops K rest (upd ρ d (.slice a' m cap')) w') :
  RR P S ops K ((⟨some d, .call ⟨.builtin .append, #[x1, x2], #[T1, T1]⟩, T, pos, af, none⟩, some kf) :: rest) ρ w := by
 by_cases h0 : m = 0
 ·subst h0
  have hn : news = [] := List.eq_nil_of_length_eq_zero hl
  subst hn
  exact lf h1 h2 (Nat.le_refl _) (h none 0 w (Own.nil _ _ _ _) (Ex.refl _)).2
 ·refine gE (z := z) (s := 1) (c := c) (hzs := Nat.eq_of_beq_eq_true hzs) (hs := rfl) (news := news) (vs := []) (lo := w.heap.size) (h1 := h1) (h2 := h2) (hown := Own.nil _ _ _ _) (hnews := hnews) (hp := hnews.plain (by omega)) (hl := by simp [hl]) (ho := ho) (hm := by omega) (hb := by simpa using hb) (hlo := Nat.le_refl _) ?_
  intro a' cap' w' ho' hg hA
  rw [Nat.zero_add] at ho' ⊢
  exact h a' cap' w' (by simpa using ho') (iD hg (Ex.refl _) (by simp))
end
end Go.W
namespace Go.W
end Go.W
namespace Go.W
section
variable {P : Program} {S : World → Prop} {ops : List Oper} {K : Env → World → Prop} {rest : List (Oper × Option Bool)} {ρ : Env} {w : World} {b : Option Bool} {kf : Bool} {d : Nat} {dst : Option Nat} {T T' : TypeId} {pos : String} {af : Array Edge}
theorem qI {x y : Operand} {k : IntKind} {m : Int} {T'' : TypeId} (hx : ev ρ x = .int k m) (hy : ev ρ y = .int k m) (h : RR P S ops K rest (upd ρ d (.bool true)) w) : RR P S ops K ((⟨some d, .binOp .eql T' x y T'', T, pos, af, none⟩, b) :: rest) ρ w :=
 qh hx hy (by rw [decide_eq_true rfl]; exact h)
theorem tx {x y : Operand} {k : IntKind} {m : Int} {T'' : TypeId} (hx : ev ρ x = .int k m) (hy : ev ρ y = .int k m) (h : RR P S ops K rest (upd ρ d (.bool false)) w) : RR P S ops K ((⟨some d, .binOp .neq T' x y T'', T, pos, af, none⟩, b) :: rest) ρ w :=
 qi hx hy (by rw [decide_eq_false (by simp)]; exact h)
end
theorem sX {n : Int} (h : (Lit.int .u8 n).wf = true) : 0 ≤ n ∧ n ≤ 255 := by simpa [Lit.wf, IntKind.min, IntKind.max, IntKind.signed, IntKind.bits] using h
theorem u5 {n : Int} (h : (Lit.int .i8 n).wf = true) : -128 ≤ n ∧ n ≤ 127 := by simpa [Lit.wf, IntKind.min, IntKind.max, IntKind.signed, IntKind.bits] using h
end Go.W
namespace Go.LM
abbrev B : Nat := 4294967296
theorem cH : ∀ {l : List Nat} {k v : Nat}, k < l.length → natOf (l.set k v) + l.getD k 0 * 4294967296 ^ k = natOf l + v * 4294967296 ^ k
 | [], k, v, h => by simp at h
 | d :: l, 0, v, _ => by simp [natOf]; omega
 | d :: l, k + 1, v, h => by
  have ih := cH (l := l) (k := k) (v := v) (by simpa using h)
  simp only [List.set_cons_succ, natOf, List.getD_cons_succ, Nat.pow_succ]
  have e1 : l.getD k 0 * (4294967296 ^ k * 4294967296) = 4294967296 * (l.getD k 0 * 4294967296 ^ k) := by rw [← Nat.mul_assoc, Nat.mul_comm]
  have e2 : v * (4294967296 ^ k * 4294967296) = 4294967296 * (v * 4294967296 ^ k) := by rw [← Nat.mul_assoc, Nat.mul_comm]
  rw [e1, e2]
  omega
theorem Lim.set {l : List Nat} (h : Lim l) {k v : Nat} (hv : v < 4294967296) : Lim (l.set k v) := fun d hd => by
 rcases List.mem_or_eq_of_mem_set hd with h' | h'
 ·exact h d h'
 ·omega
theorem Lim.zeros (n : Nat) : Lim (List.replicate n 0) := fun d hd => by rw [List.eq_of_mem_replicate hd]; decide
theorem cg {l : List Nat} {k j v : Nat} (h : k ≠ j) : (l.set k v).getD j 0 = l.getD j 0 := by simp [List.getD_eq_getElem?_getD, List.getElem?_set_ne h]
theorem jw {l : List Nat} {k v : Nat} (h : k < l.length) : (l.set k v).getD k 0 = v := by simp [List.getD_eq_getElem?_getD, h]
theorem cX {l : List Nat} {k : Nat} (h : k < l.length) : l.take (k + 1) = l.take k ++ [l.getD k 0] := by
 rw [List.take_succ_eq_append_getElem h, List.getD_eq_getElem?_getD, List.getElem?_eq_getElem h]; rfl
theorem bN {l : List Nat} {k : Nat} (h : k < l.length) : natOf (l.take (k + 1)) = natOf (l.take k) + l.getD k 0 * 4294967296 ^ k := by
 rw [cX h, dk]
 simp only [List.length_take, Nat.min_eq_left (Nat.le_of_lt h)]
 rw [Nat.mul_comm]
theorem jf {x y c r : Nat} (hx : x < 4294967296) (hy : y < 4294967296) (hc : c < 4294967296) (hr : r < 4294967296) : c + (x * y + r) < 18446744073709551616 := by
 have : x * y ≤ 4294967295 * 4294967295 := Nat.mul_le_mul (by omega) (by omega)
 omega
theorem ke {P : List Nat} {k c x y N : Nat} (hk : k < P.length) (h : natOf P + c * 4294967296 ^ k = N) :
  natOf (P.set k ((c + (x * y + P.getD k 0)) % 4294967296)) + (c + (x * y + P.getD k 0)) / 4294967296 * 4294967296 ^ (k + 1) = N + x * y * 4294967296 ^ k := by
 have h1 := cH (l := P) (v := (c + (x * y + P.getD k 0)) % 4294967296) hk
 generalize x * y = m at *
 generalize P.getD k 0 = r at *
 have h2 : (c + (m + r)) % 4294967296 * 4294967296 ^ k + (c + (m + r)) / 4294967296 * 4294967296 ^ (k + 1) = c * 4294967296 ^ k + m * 4294967296 ^ k + r * 4294967296 ^ k := by
  rw [Nat.pow_succ, Nat.mul_comm (4294967296 ^ k) 4294967296, ← Nat.mul_assoc, ← Nat.add_mul, ← Nat.add_mul, ← Nat.add_mul]
  congr 1
  omega
 omega
end Go.LM
namespace Go.Proofs.YtiejljicpinheaaGreat
open Go.W Go.LM
theorem Limbs.of_blk {w : World} {g c : Nat} {Tb : Nat} {ls : List Nat} (h : Blk w g Tb (limbsL ls)) (hc : ls.length ≤ c) (hl : Lim ls) (hn : ls.length ≤ 17592186044416) : Limbs w (some ⟨g, 0, none⟩) c ls := ⟨h.sl, hc, hl, hn⟩
set_option maxHeartbeats 1000000 in
theorem jx {la lb : List Nat} {a b : Option Addr} {c d : Nat} {w : World} (ha : Limbs w a c la) (hb : Limbs w b d lb) (hlen : la.length + lb.length ≤ 17592186044416) :
  CallsR Tryz.prog 109 #[.slice a la.length c, .slice b lb.length d] w fun v w' => ∃ ls, natOf ls = natOf la * natOf lb ∧ Canon ls ∧ ls.length ≤ la.length + lb.length + 2 ∧ RetN w ls v w' := by
 by_cases hsm : la.length ≤ 1 ∧ lb.length ≤ 1
 ·refine (iK ha hb hsm.1 hsm.2).mono fun v w' h => ⟨_, ?_, dl _, ?_, h⟩
  ·rw [dB]
  ·have := qH (natOf la * natOf lb); omega
 have hla := ha.len
 have hlb := hb.len
 refine aF (args := [_, _]) Tryz.func109 rfl rfl ?_
 repeat' (first|refine fH rfl rfl (by omega) ?_|refine eK rfl rfl (by omega) (by omega) (fun g w1 hn => ⟨fun _ _ => trivial, ?_⟩)|refine ai rfl ?_|refine aa ?_|refine aj ?_|refine ah rfl ?_|refine ae ?_|refine aZ rfl ?_|refine bz rfl rfl ?_|refine bK rfl rfl ?_|refine eJ rfl rfl (fun hc => ?_) (fun hc => ?_)|refine au rfl ?_|refine aO rfl (fun hc => ?_) (fun hc => ?_)|refine aA ?_|refine aE ?_)
 all_goals try (exfalso; omega)
 all_goals
  refine aY (ι := Nat × List Nat) [6, 7, 8, 9, 10, 11, 34, 35, 36, 37, 38, 39, 40, 41, 42, 43, 44, 45, 46, 47, 48, 49, 50, 51, 52, 53, 54, 55, 56, 57, 58, 59, 60, 61, 62, 63, 64, 65, 66, 67, 68, 69, 70, 71, 72, 73, 74, 75, 76, 77, 78, 79, 80, 81, 82, 83] (fun s => [(34, .int .i64 (s.1 : Int))])
   (fun s w' => s.1 ≤ la.length ∧ Ex w w' ∧ Blk w' g 113 (limbsL s.2) ∧ s.2.length = la.length + lb.length ∧ Lim s.2 ∧ natOf s.2 = natOf (la.take s.1) * natOf lb ∧ ∀ j, s.1 + lb.length ≤ j → s.2.getD j 0 = 0) (fun s => la.length - s.1)
   (0, List.replicate (la.length + lb.length) 0) ⟨rfl, trivial⟩ ⟨by simp, hn.ex, hn.blk, by simp, Lim.zeros _, by simp [cQ, natOf], fun j _ => by simp [List.getD_eq_getElem?_getD, List.getElem?_replicate]; split <;> rfl⟩ ?_
  rintro ⟨i, ps⟩ ξ w2 ⟨hi, hE, hbk, hpl, hpL, hpn, hpz⟩
  simp only at hi hbk hpl hpL hpn hpz
  show CW _ _ _ _ (over [(34, .int .i64 (i : Int))] _) w2
  have hxl := ha.lim.getD i
  repeat' (first|(refine aD rfl rfl (ha.sl.plain (by simp; omega)) (by omega) ?_)|refine bG rfl (ha.sl.ext hE) (by omega) ?_|refine ai rfl ?_|refine aa ?_|refine aj ?_|refine ah rfl ?_|refine ae ?_|refine aZ rfl ?_|refine bc rfl rfl (by omega) (by omega) ?_|refine aO rfl (fun hc => ?_) (fun hc => ?_)|refine aA ?_|refine aP ?_|refine aJ ?_|refine aQ ?_|refine aE ?_)
  ·have h0 : la.getD i 0 = 0 := by omega
   refine ⟨⟨(i + 1, ps), ⟨by simp only; omega, hE, hbk, hpl, hpL, ?_, fun j hj => hpz j (by simp only at hj; omega)⟩, by simp only; omega, rfl, trivial⟩, (by (repeat (first|exact aH _ _ _|refine ay rfl ?_|refine av rfl ?_|refine ak rfl ?_|refine ao rfl ?_)))⟩
   simp only
   rw [hpn, bN (by omega), h0, Nat.zero_mul, Nat.add_zero]
  ·refine je (l := i) (h := i + lb.length + 1) rfl rfl (by show Value.int .i64 ((i : Int) + (lb.length : Int) + 1) = _; rfl) (by omega) (by omega) (by omega) ?_
   rw [Nat.zero_add, Nat.mul_one, show i + lb.length + 1 - i = lb.length + 1 by omega]
   repeat' (first|refine ai rfl ?_|refine aa ?_|refine aj ?_|refine ah rfl ?_|refine ae ?_|refine aZ rfl ?_|refine aA ?_)
   refine aY (ι := Nat × List Nat × Nat) [9, 10, 11, 51, 52, 53, 54, 55, 56, 57, 58, 59, 60, 61, 62, 63, 64, 65, 66, 67, 68, 69, 70, 71, 72, 73, 74, 75, 76] (fun s => [(51, .int .i64 (s.1 : Int)), (9, .int .u64 (s.2.2 : Int))])
    (fun s w' => s.1 ≤ lb.length ∧ Ex w w' ∧ Blk w' g 113 (limbsL s.2.1) ∧ s.2.1.length = la.length + lb.length ∧ Lim s.2.1 ∧ s.2.2 < 4294967296 ∧ natOf s.2.1 + s.2.2 * 4294967296 ^ (i + s.1) = natOf ps + la.getD i 0 * natOf (lb.take s.1) * 4294967296 ^ i ∧ ∀ j, i + s.1 ≤ j → s.2.1.getD j 0 = ps.getD j 0) (fun s => lb.length - s.1)
    (0, ps, 0) ⟨rfl, rfl, trivial⟩ ⟨by simp, hE, hbk, hpl, hpL, by simp, by simp [natOf], fun j _ => rfl⟩ ?_
   rintro ⟨j, qs, cy⟩ ξ2 w3 ⟨hj, hE3, hb3, hql, hqL, hcy, hqn, hqz⟩
   simp only at hj hb3 hql hqL hcy hqn hqz
   show CW _ _ _ _ (over [(51, .int .i64 (j : Int)), (9, .int .u64 (cy : Int))] _) w3
   have hyl := hb.lim.getD j
   have hrl := hqL.getD (i + j)
   have hfit := jf hxl hyl hcy hrl
   repeat' (first|(refine aD rfl rfl (hb.sl.plain (by simp; omega)) (by omega) ?_)|refine bG rfl (hb.sl.ext hE3) (by omega) ?_|refine aD rfl rfl ⟨_, _, rfl⟩ (by omega) ?_|refine mX rfl hb3 (by omega) ?_|refine gH rfl (by assumption) ?_|refine kd rfl rfl (by omega) ?_|refine fG rfl rfl (by omega) ?_|refine dC rfl ?_|refine d5 rfl rfl ?_|refine k8 rfl rfl hb3 (by omega) (fun w4 hc4 hb4 => ⟨fun _ _ => trivial, ?_⟩)|refine ai rfl ?_|refine aa ?_|refine aj ?_|refine ah rfl ?_|refine ae ?_|refine aZ rfl ?_|refine bc rfl rfl (by omega) (by omega) ?_|refine aO rfl (fun hc => ?_) (fun hc => ?_)|refine aA ?_|refine aP ?_|refine aJ ?_|refine aQ ?_|refine aL ?_|refine aE ?_)
   ·refine ⟨⟨(j + 1, qs.set (i + j) ((cy + (la.getD i 0 * lb.getD j 0 + qs.getD (i + j) 0)) % 4294967296), (cy + (la.getD i 0 * lb.getD j 0 + qs.getD (i + j) 0)) / 4294967296), ⟨by simp only; omega, hE3.chg hc4 hn.lo, hb4, by simp [hql], hqL.set (Nat.mod_lt _ (by decide)), by simp only; omega, ?_, ?_⟩, by simp only; omega, rfl, rfl, trivial⟩, (by (repeat (first|exact aH _ _ _|refine ay rfl ?_|refine av rfl ?_|refine ak rfl ?_|refine ao rfl ?_)))⟩
    ·have := ke (x := la.getD i 0) (y := lb.getD j 0) (show i + j < qs.length by omega) hqn
     simp only
     rw [show i + (j + 1) = i + j + 1 by omega, this, bN (by omega), Nat.mul_add, Nat.add_mul, Nat.add_assoc, Nat.pow_add]
     congr 2
     rw [← Nat.mul_assoc, Nat.mul_assoc, Nat.mul_comm (4294967296 ^ i), ← Nat.mul_assoc, Nat.mul_assoc (la.getD i 0)]
    ·intro k hk
     simp only at hk ⊢
     rw [cg (by omega), hqz k (by omega)]
   ·obtain rfl : j = lb.length := by omega
    have hz : qs.getD (i + lb.length) 0 = 0 := by rw [hqz _ (Nat.le_refl _)]; exact hpz _ (Nat.le_refl _)
    skip
    rw [Nat.mod_eq_of_lt hcy] at hb4
    refine ⟨⟨(i + 1, qs.set (i + lb.length) cy), ⟨by simp only; omega, hE3.chg hc4 hn.lo, hb4, by simp [hql], hqL.set hcy, ?_, ?_⟩, by simp only; omega, rfl, trivial⟩, (by (repeat (first|exact aH _ _ _|refine ay rfl ?_|refine av rfl ?_|refine ak rfl ?_|refine ao rfl ?_)))⟩
    ·have h1 := cH (l := qs) (k := i + lb.length) (v := cy) (by omega)
     rw [hz, Nat.zero_mul, Nat.add_zero] at h1
     simp only
     rw [h1, hqn, hpn, List.take_length, bN (by omega), Nat.add_mul]
     congr 1
     rw [Nat.mul_assoc, Nat.mul_assoc, Nat.mul_comm (natOf lb)]
    ·intro k hk
     simp only at hk ⊢
     rw [cg (by omega), hqz k (by omega), hpz k (by omega)]
  ·obtain rfl : i = la.length := by omega
   rw [List.take_length] at hpn
   have hL := Limbs.of_blk (c := la.length + lb.length) hbk (by omega) hpL (by omega)
   have hcall := bV hL
   rw [hpl] at hcall
   skip
   refine aw hcall rfl ?_
   rintro v w3 ⟨rfl, hE3⟩
   refine ⟨fun _ _ => trivial, ?_⟩
   repeat' (first|refine ai rfl ?_|refine aa ?_|refine ae ?_|refine aI ?_)
   refine bx rfl (rt rfl) ⟨trimL ps, by rw [bh, hpn], bB _, by have := cF ps; omega, _, _, rfl, hL.trim.ext hE3, fun ad e => by cases e; exact hn.lo, hE.trans hE3⟩
end Go.Proofs.YtiejljicpinheaaGreat
namespace Go.Proofs.YtiejljicpinheaaGreat
open Go.W Go.LM
theorem bZ {ls : List Nat} {a : Option Addr} {c : Nat} {w : World} (h : Limbs w a c ls) :
  CallsR Tryz.prog 75 #[.slice a ls.length c] w (RetN w (trimL ls)) := by
 have hlen := h.len
 have hcap := h.cap
 refine aF (args := [_]) Tryz.func75 rfl rfl ?_
 repeat' (first|refine ai rfl ?_|refine aa ?_|refine aj ?_|refine ah rfl ?_|refine ae ?_|refine aZ rfl ?_|refine aA ?_)
 refine aY (ι := Nat) [3, 6, 7, 8, 9, 10, 11, 12, 13, 14, 15, 16, 17] (fun k => [(3, .int .i64 (k : Int))]) (fun k w' => k ≤ ls.length ∧ w' = w ∧ trimL (ls.take k) = trimL ls) (fun k => k) ls.length ⟨rfl, trivial⟩ ⟨Nat.le_refl _, rfl, by simp⟩ ?_
 rintro k ξ w2 ⟨hk, rfl, hT⟩
 repeat' (first|(refine aD (j := k - 1) rfl (by show Value.int .i64 ((k : Int) - 1) = _; congr 1; omega) (h.sl.plain (by simp; omega)) (by omega) ?_)|refine bG rfl h.sl (by omega) ?_|refine ai rfl ?_|refine aa ?_|refine aj ?_|refine ah rfl ?_|refine ae ?_|refine bz rfl rfl ?_|refine bK rfl rfl ?_|refine eJ rfl rfl (fun hc => ?_) (fun hc => ?_)|refine cR rfl rfl (by omega) (by omega) ?_|refine au rfl ?_|refine aO rfl (fun hc => ?_) (fun hc => ?_)|refine aA ?_|refine aP ?_|refine aJ ?_|refine aQ ?_|refine aL ?_|refine aE ?_)
 ·refine ⟨⟨k - 1, ⟨by omega, rfl, ?_⟩, by omega, ?_, trivial⟩, (by (repeat (first|exact aH _ _ _|refine ay rfl ?_|refine av rfl ?_|refine ak rfl ?_|refine ao rfl ?_)))⟩
  ·rw [← hT, dS hk (by omega), show ls.getD (k - 1) 0 = 0 by omega, dM]
  ·show Value.int .i64 ((k : Int) - 1) = _
   congr 1; omega
 all_goals
  have hkk : trimL ls = ls.take k := by
   rw [← hT]
   rcases Nat.eq_zero_or_pos k with rfl | h0
   ·rfl
   ·rw [dS hk (by omega), iq (by omega), ← dS hk (by omega)]
  refine fO rfl rfl (by omega) (by omega) ?_
  rw [Int.toNat_natCast]
  have hL := h.take k
  have hkl : (ls.take k).length = k := by simp [Nat.min_eq_left hk]
  refine tw (E := 113) (y := 4) rfl rfl rfl hL.sl (by simp [Nat.min_eq_left hk]) (ma (fun _ => rfl) _) (by omega) (by omega) (fun a' c' w3 hO3 hE3 => ⟨fun _ _ => trivial, ?_⟩)
  repeat' (first|refine ai rfl ?_|refine aa ?_|refine ae ?_|refine aI ?_)
  refine bx rfl (rt rfl) ?_
  rw [hkk]
  refine ⟨a', c', by rw [hkl]; rfl, ⟨hO3.sl, ?_, hL.lim, hL.len⟩, fun ad e => (hO3.lo ad e).1, hE3⟩
  rw [hkl]
  rcases hO3.2 with ⟨hv, hn⟩ | ⟨g, cap2, cur, hv, hbg, hg, hnc, hcm, hcs, htake⟩
  ·simp only [Value.slice.injEq] at hv; omega
  ·simp only [Value.slice.injEq] at hv; omega
theorem bn {ls : List Nat} {a : Option Addr} {c : Nat} {w : World} (h : Limbs w a c ls) (neg : Bool) :
  CallsR Tryz.prog 81 #[.bool neg, .slice a ls.length c] w (RetZ w (sgn neg (natOf ls))) := by
 refine aF (args := [_, _]) Tryz.func81 rfl rfl ?_
 repeat' (first|refine aG (fun g w1 hn => ⟨fun _ _ => trivial, ?_⟩)|refine ai rfl ?_|refine aa ?_|refine aj ?_|refine ah rfl ?_|refine ae ?_)
 refine aw (bZ (h.ext hn.ex)) rfl ?_
 rintro v w2 ⟨a2, c2, rfl, hL2, hf2, hE2⟩
 refine ⟨fun _ _ => trivial, ?_⟩
 have hb : Blk w2 g 43 (intL false none 0 0) := Blk.ext (cs := intL false none 0 0) hn.blk hE2
 have l1 := hn.lo
 have l2 := hn.hi
 have l3 := hE2.size
 cases neg
 ·repeat' (first|refine ai rfl ?_|refine aa ?_|refine aj ?_|refine ah rfl ?_|refine ae ?_|refine bK rfl rfl ?_)
  refine cf (cs := intL false a2 (trimL ls).length c2) rfl ?_
  refine ax (n := 2) rfl rfl rfl rfl hb rfl (fun w3 hc3 hb3 => ⟨fun _ _ => trivial, ?_⟩)
  repeat' (first|refine aa ?_|refine ae ?_|refine aI ?_)
  refine bx rfl (rc rfl rfl hb3) ⟨⟨false, a2, c2, trimL ls, rfl, hL2.chg hc3 (fun ad e => by have := hf2 ad e; omega), by rw [bh], bB _, by simp, fun ad e => by have := hf2 ad e; omega⟩, (hn.ex.trans hE2).chg hc3 (by omega)⟩
 ·repeat' (first|refine ai rfl ?_|refine aa ?_|refine aj ?_|refine ah rfl ?_|refine ae ?_|refine aZ rfl ?_|refine bz rfl rfl ?_)
  refine cf (cs := intL (decide ((0 : Int) < ((trimL ls).length : Int))) a2 (trimL ls).length c2) rfl ?_
  refine ax (n := 2) rfl rfl rfl rfl hb rfl (fun w3 hc3 hb3 => ⟨fun _ _ => trivial, ?_⟩)
  repeat' (first|refine aa ?_|refine ae ?_|refine aI ?_)
  refine bx rfl (rc rfl rfl hb3) ⟨⟨_, a2, c2, trimL ls, rfl, hL2.chg hc3 (fun ad e => by have := hf2 ad e; omega), ?_, bB _, ?_, fun ad e => by have := hf2 ad e; omega⟩, (hn.ex.trans hE2).chg hc3 (by omega)⟩
  ·by_cases h0 : trimL ls = []
   ·have := cC.1 h0
    simp [h0, this, sgn, natOf]
   ·have : (0 : Int) < ((trimL ls).length : Int) := by
     have := List.length_pos_iff.2 h0; omega
    rw [decide_eq_true this, bh]
  ·intro hd h0
   rw [h0] at hd; simp at hd
theorem eL {n : Nat} (hn : n < 18446744073709551616) (neg : Bool) (w : World) : CallsR Tryz.prog 67 #[.bool neg, .int .u64 (n : Int)] w (RetZ w (sgn neg n)) := by
 refine aF (args := [_, _]) Tryz.func67 rfl rfl ?_
 repeat' (first|refine aG (fun g w1 hn1 => ⟨fun _ _ => trivial, ?_⟩)|refine dC rfl ?_|refine d5 rfl rfl ?_|refine ai rfl ?_|refine aa ?_|refine aj ?_|refine ah rfl ?_|refine ae ?_)
 refine qp rfl rfl rfl rfl (fun g2 w2 hn2 => ⟨fun _ _ => trivial, ?_⟩)
 have hL : Limbs w2 (some ⟨g2, 0, none⟩) 2 [n % 4294967296, n / 4294967296 % 4294967296] := ⟨hn2.blk.sl, by simp, by intro d hd; simp at hd; omega, by simp⟩
 refine aw (bn hL neg) rfl ?_
 rintro v w3 ⟨hI, hE3⟩
 obtain ⟨ng, a', c', ls, rfl, hI'⟩ := id hI
 refine ⟨fun _ _ => trivial, ?_⟩
 have hb : Blk w3 g 43 (intL false none 0 0) := Blk.ext (cs := intL false none 0 0) (Blk.ext (cs := intL false none 0 0) hn1.blk hn2.ex) hE3
 have l1 := hn1.lo
 have l2 := hn1.hi
 have l3 := hn2.ex.size
 refine ax (n := 2) rfl rfl rfl rfl hb rfl (fun w4 hc4 hb4 => ⟨fun _ _ => trivial, ?_⟩)
 repeat' (first|refine aa ?_|refine ae ?_|refine aI ?_)
 refine bx rfl (rc rfl rfl hb4) ⟨?_, ((hn1.ex.trans hn2.ex).trans hE3).chg hc4 l1⟩
 have e : natOf [n % 4294967296, n / 4294967296 % 4294967296] = n := by simp [natOf]; omega
 rw [e] at hI
 exact (hI.chg hc4 (by omega)).mono (by omega)
theorem cT {z : Int} (h1 : -9223372036854775808 ≤ z) (h2 : z ≤ 9223372036854775807) (w : World) : CallsR Tryz.prog 25 #[.int .i64 z] w (RetZ w z) := by
 refine aF (args := [_]) Tryz.func25 rfl rfl ?_
 repeat' (first|refine aG (fun g w1 hn => ⟨fun _ _ => trivial, ?_⟩)|refine ai rfl ?_|refine aa ?_|refine aj ?_|refine ah rfl ?_|refine ae ?_|refine aO rfl (fun hc => ?_) (fun hc => ?_)|refine aE ?_)
 all_goals have hb : Blk w1 g 43 (intL false none 0 0) := hn.blk
 ·refine il rfl ?_
  refine lX rfl ?_
  obtain ⟨n, rfl⟩ : ∃ n : Nat, z = -(n : Int) := ⟨(-z).toNat, by omega⟩
  rw [show IntKind.u64.wrap (-IntKind.u64.wrap (-(n : Int))) = ((n : Nat) : Int) by
   rw [cK rfl, cK rfl]; simp only [IntKind.bits]; omega]
  refine aw (eL (by omega) true _) rfl ?_
  rintro v w3 ⟨hI, hE3⟩
  obtain ⟨neg, a', c', ls, rfl, hI'⟩ := id hI
  refine ⟨fun _ _ => trivial, ?_⟩
  refine ax (n := 2) rfl rfl rfl rfl (hb.ext hE3) rfl (fun w4 hc4 hb4 => ⟨fun _ _ => trivial, ?_⟩)
  repeat' (first|refine aa ?_|refine ae ?_|refine aI ?_|refine aU ?_)
  exact bx rfl (rc rfl rfl hb4) ⟨(hI.chg hc4 hn.hi).mono hn.ex.size, (hn.ex.trans hE3).chg hc4 hn.lo⟩
 ·obtain ⟨n, rfl⟩ : ∃ n : Nat, z = (n : Int) := ⟨z.toNat, by omega⟩
  refine dE rfl (dz (by omega) (by omega)) ?_
  refine aw (eL (by omega) false _) rfl ?_
  rintro v w3 ⟨hI, hE3⟩
  obtain ⟨neg, a', c', ls, rfl, hI'⟩ := id hI
  refine ⟨fun _ _ => trivial, ?_⟩
  refine ax (n := 2) rfl rfl rfl rfl (hb.ext hE3) rfl (fun w4 hc4 hb4 => ⟨fun _ _ => trivial, ?_⟩)
  repeat' (first|refine aa ?_|refine ae ?_|refine aI ?_)
  exact bx rfl (rc rfl rfl hb4) ⟨(hI.chg hc4 hn.hi).mono hn.ex.size, (hn.ex.trans hE3).chg hc4 hn.lo⟩
theorem fp {la lb : List Nat} {a b : Option Addr} {c d : Nat} {w : World} (ha : Limbs w a c la) (hb : Limbs w b d lb) (ca : Canon la) (cb : Canon lb) :
  CallsR Tryz.prog 83 #[.slice a la.length c, .slice b lb.length d] w fun v w' => v = .int .i64 (cmpZ (natOf la) (natOf lb)) ∧ Ex w w' := by
 have hla := ha.len
 refine aF (args := [_, _]) Tryz.func83 rfl rfl ?_
 repeat' (first|refine ai rfl ?_|refine aa ?_|refine aj ?_|refine ah rfl ?_|refine ae ?_|refine aZ rfl ?_|refine cR rfl rfl (by omega) (by omega) ?_|refine aO rfl (fun hc => ?_) (fun hc => ?_)|refine aA ?_|refine aI ?_|refine aU ?_|refine aE ?_)
 ·refine bx rfl (rt rfl) ⟨?_, Ex.refl _⟩
  rw [cmpZ, if_pos (eQ ha.lim cb (by omega))]; rfl
 ·refine bx rfl (rt rfl) ⟨?_, Ex.refl _⟩
  have := eQ hb.lim ca (by omega)
  rw [cmpZ, if_neg (by omega), if_pos this]; rfl
 ·have hl : la.length = lb.length := by omega
  refine aY (ι := Nat) [4, 5, 19, 20, 21, 22, 23, 24, 25, 26, 27, 28, 29, 30, 31, 32, 33, 34, 35, 36, 37, 38, 39, 40] (fun k => [(5, .int .i64 ((k : Int) - 1))]) (fun k w' => k ≤ la.length ∧ Ex w w' ∧ natOf (la.drop k) = natOf (lb.drop k)) (fun k => k) la.length ⟨rfl, trivial⟩
   ⟨Nat.le_refl _, Ex.refl _, by rw [List.drop_length, hl, List.drop_length]⟩ ?_
  rintro k ξ w2 ⟨hk, hE, hT⟩
  repeat' (first|refine ai rfl ?_|refine aa ?_|refine aj ?_|refine ah rfl ?_|refine ae ?_|refine aO rfl (fun hc => ?_) (fun hc => ?_)|refine aA ?_|refine aP ?_|refine aJ ?_|refine aQ ?_|refine aI ?_|refine aE ?_)
  ·obtain ⟨j, rfl⟩ : ∃ j, k = j + 1 := ⟨k - 1, by omega⟩
   rw [show ((j + 1 : Nat) : Int) - 1 = (j : Int) by omega]
   refine bi (late := []) (plan := [(0, none), (1, none), (2, none), (3, none), (4, none), (5, none), (6, none), (7, none), (8, none)]) (fun w' => Ex w w') bA (by kernel_rfl) hE.drew ?_
   repeat' (first|(refine aD (j := j) rfl rfl (ha.sl.plain (by simp; omega)) (by omega) ?_)|(refine aD (j := j) rfl rfl (hb.sl.plain (by simp; omega)) (by omega) ?_)|refine bG rfl (fun _ h => ha.sl.ext h) (by omega) ?_|refine bG rfl (fun _ h => hb.sl.ext h) (by omega) ?_|refine ai rfl ?_|refine aa ?_|refine aj ?_|refine ah rfl ?_|refine ae ?_|refine cR rfl rfl (by omega) (by omega) ?_|refine aO rfl (fun hc => ?_) (fun hc => ?_)|refine aL ?_|refine aE ?_)
   ·refine bi (late := []) (plan := [(0, none), (1, none), (2, none), (3, none), (4, none), (5, none), (6, none), (7, none), (8, none)]) (fun w' => Ex w w') bA (by kernel_rfl) hE.drew.drew ?_
    repeat' (first|(refine aD (j := j) rfl rfl (ha.sl.plain (by simp; omega)) (by omega) ?_)|(refine aD (j := j) rfl rfl (hb.sl.plain (by simp; omega)) (by omega) ?_)|refine bG rfl (fun _ h => ha.sl.ext h) (by omega) ?_|refine bG rfl (fun _ h => hb.sl.ext h) (by omega) ?_|refine ai rfl ?_|refine aa ?_|refine aj ?_|refine ah rfl ?_|refine ae ?_|refine aO rfl (fun hc => ?_) (fun hc => ?_)|refine aI ?_|refine aU ?_|refine bQ ?_|refine aE ?_)
    ·refine bx rfl (rt rfl) ⟨?_, hE.drew.drew⟩
     rw [cmpZ, if_pos (fo (i := j) ha.lim hl (by omega) hT (by omega))]; rfl
    ·refine bx rfl (rt rfl) ⟨?_, hE.drew.drew⟩
     have := fo (i := j) hb.lim hl.symm (by omega) hT.symm (by omega)
     rw [cmpZ, if_neg (by omega), if_pos this]; rfl
   ·refine ⟨⟨j, ⟨by omega, hE.drew, ?_⟩, by omega, ?_, trivial⟩, (by (repeat (first|exact aH _ _ _|refine ay rfl ?_|refine av rfl ?_|refine ak rfl ?_|refine ao rfl ?_)))⟩
    ·rw [cP (ls := la) (k := j) (by omega), cP (ls := lb) (k := j) (by omega), hT, show la.getD j 0 = lb.getD j 0 by omega]
    ·rfl
  ·obtain rfl : k = 0 := by omega
   simp only [List.drop_zero] at hT
   refine bx rfl (rt rfl) ⟨?_, hE⟩
   rw [cmpZ, if_neg (by omega), if_neg (by omega)]; rfl
theorem se {n1 n2 : Bool} {l1 l2 : List Nat} (c1 : Canon l1) (c2 : Canon l2) (g1 : n1 = true → l1 ≠ []) (g2 : n2 = true → l2 ≠ []) :
  sgn n1 (natOf l1) = sgn n2 (natOf l2) ↔ n1 = n2 ∧ natOf l1 = natOf l2 := by
 have hz : ∀ {l : List Nat}, Canon l → natOf l = 0 → l = [] := fun {l} c h => by have := cC.2 h; rwa [c] at this
 unfold sgn
 cases n1 <;> cases n2 <;> simp
 ·omega
 ·intro h
  have h2 : natOf l2 = 0 := by omega
  exact g2 rfl (hz c2 h2)
 ·intro h
  have h1 : natOf l1 = 0 := by omega
  exact g1 rfl (hz c1 h1)
 ·omega
theorem mn {lo lo' : Nat} {v1 v2 : Value} {x y : Int} {w : World} (h1 : IntC lo w v1 x) (h2 : IntC lo' w v2 y) :
  CallsR Tryz.prog 44 #[v1, v2] w fun v w' => v = .bool (decide (x = y)) ∧ Ex w w' := by
 obtain ⟨n1, a1, c1, l1, rfl, hL1, rfl, hc1, g1, _⟩ := h1
 obtain ⟨n2, a2, c2, l2, rfl, hL2, rfl, hc2, g2, _⟩ := h2
 have hiff := se hc1 hc2 g1 g2
 refine aF (args := [_, _]) Tryz.func44 rfl rfl ?_
 refine aj ?_
 refine ah rfl ?_
 refine bH rfl (fun ga w2 hn2 => ⟨fun _ _ => trivial, ?_⟩)
 refine bH rfl (fun gb w3 hn3 => ⟨fun _ _ => trivial, ?_⟩)
 have hb2 := hn2.blk.ext hn3.ex
 have hb3 := hn3.blk
 have hE := hn2.ex.trans hn3.ex
 have hle : natOf l1 = natOf l2 → l1.length = l2.length := fun h => by rw [ml hL1.lim hL2.lim hc1 hc2 h]
 repeat' (first|refine aW rfl hb2 rfl ?_|refine aW rfl hb3 rfl ?_|refine ai rfl ?_|refine aa ?_|refine aj ?_|refine ah rfl ?_|refine ae ?_|refine aZ rfl ?_|refine bz rfl rfl ?_|refine bK rfl rfl ?_|refine eJ rfl rfl (fun hc => ?_) (fun hc => ?_)|refine aN rfl ?_|refine lY rfl rfl ?_|refine aI ?_)
 ·refine aw (fp (hL1.ext hE) (hL2.ext hE) hc1 hc2) rfl ?_
  rintro v w4 ⟨rfl, hE4⟩
  refine ⟨fun _ _ => trivial, ?_⟩
  repeat' (first|refine ai rfl ?_|refine aa ?_|refine ae ?_|refine bz rfl rfl ?_|refine aI ?_)
  refine bx rfl (rt rfl) ⟨congrArg Value.bool (decide_eq_decide.2 ?_), hE.trans hE4⟩
  rw [hiff]
  unfold cmpZ
  have hn : n1 = n2 := by assumption
  constructor
  ·intro h
   refine ⟨hn, ?_⟩
   split at h
   ·omega
   ·split at h
    ·omega
    ·omega
  ·rintro ⟨_, h⟩
   rw [if_neg (by omega), if_neg (by omega)]
 all_goals
  refine bx rfl (rt rfl) ⟨congrArg Value.bool (Eq.symm (decide_eq_false ?_)), hE⟩
  rw [hiff]
  rintro ⟨h1, h2⟩
  have := hle h2
  first|omega|(subst h1; simp_all; done)
end Go.Proofs.YtiejljicpinheaaGreat
namespace Go.W
section
variable {P : Program} {S : World → Prop} {ops : List Oper} {K : Env → World → Prop} {rest : List (Oper × Option Bool)} {ρ : Env} {w : World} {b : Option Bool} {kf : Bool} {d : Nat} {dst : Option Nat} {T T' : TypeId} {pos : String} {af : Array Edge}
variable {x y : Operand} {k : IntKind} {m m' : Int} {T'' : TypeId}
theorem bu (hx : ev ρ x = .int k m) (hy : ev ρ y = .int k m') (hd : m < m') (h : RR P S ops K rest (upd ρ d (.bool true)) w) : RR P S ops K ((⟨some d, .binOp .lss T' x y T'', T, pos, af, none⟩, b) :: rest) ρ w :=
 sS hx hy (by rw [decide_eq_true hd]; exact h)
theorem kg (hx : ev ρ x = .int k m) (hy : ev ρ y = .int k m') (hd : m ≤ m') (h : RR P S ops K rest (upd ρ d (.bool true)) w) : RR P S ops K ((⟨some d, .binOp .leq T' x y T'', T, pos, af, none⟩, b) :: rest) ρ w :=
 sT hx hy (by rw [decide_eq_true hd]; exact h)
theorem bj (hx : ev ρ x = .int k m) (hy : ev ρ y = .int k m') (hd : m' ≤ m) (h : RR P S ops K rest (upd ρ d (.bool false)) w) : RR P S ops K ((⟨some d, .binOp .lss T' x y T'', T, pos, af, none⟩, b) :: rest) ρ w :=
 sS hx hy (by rw [decide_eq_false (by omega)]; exact h)
theorem qJ (hx : ev ρ x = .int k m) (hy : ev ρ y = .int k m') (hd : m < m') (h : RR P S ops K rest (upd ρ d (.bool false)) w) : RR P S ops K ((⟨some d, .binOp .geq T' x y T'', T, pos, af, none⟩, b) :: rest) ρ w :=
 sV hx hy (by rw [decide_eq_false (by omega)]; exact h)
theorem kh (hx : ev ρ x = .int k m) (hy : ev ρ y = .int k m') (hd : m' < m) (h : RR P S ops K rest (upd ρ d (.bool true)) w) : RR P S ops K ((⟨some d, .binOp .gtr T' x y T'', T, pos, af, none⟩, b) :: rest) ρ w :=
 sU hx hy (by rw [decide_eq_true hd]; exact h)
theorem dU (hx : ev ρ x = .int k m) (hy : ev ρ y = .int k m') (hd : m ≠ m') (h : RR P S ops K rest (upd ρ d (.bool false)) w) : RR P S ops K ((⟨some d, .binOp .eql T' x y T'', T, pos, af, none⟩, b) :: rest) ρ w :=
 qh hx hy (by rw [decide_eq_false hd]; exact h)
theorem cN (hx : ev ρ x = .int k m) (hy : ev ρ y = .int k m') (hd : m = m') (h : RR P S ops K rest (upd ρ d (.bool false)) w) : RR P S ops K ((⟨some d, .binOp .neq T' x y T'', T, pos, af, none⟩, b) :: rest) ρ w :=
 qi hx hy (by rw [decide_eq_false (by simpa using hd)]; exact h)
theorem eF (hx : ev ρ x = .int k m) (hy : ev ρ y = .int k m') (hd : m = m') (h : RR P S ops K rest (upd ρ d (.bool true)) w) : RR P S ops K ((⟨some d, .binOp .eql T' x y T'', T, pos, af, none⟩, b) :: rest) ρ w :=
 qh hx hy (by rw [decide_eq_true hd]; exact h)
theorem gI (hx : ev ρ x = .int k m) (hy : ev ρ y = .int k m') (hd : m ≤ m') (h : RR P S ops K rest (upd ρ d (.bool false)) w) : RR P S ops K ((⟨some d, .binOp .gtr T' x y T'', T, pos, af, none⟩, b) :: rest) ρ w :=
 sU hx hy (by rw [decide_eq_false (by omega)]; exact h)
end
end Go.W
namespace Go.W
end Go.W
namespace Go.W
theorem oR {P : Program} {S : World → Prop} {ops : List Oper} {K : Env → World → Prop} {rest : List (Oper × Option Bool)} {ρ : Env} {w : World} {b : Option Bool} {d : Nat} {T T' : TypeId} {pos : String} {af : Array Edge}
  {x : Operand} {f ft off : Nat} {cs : List Value} {v : Value} (hf : (match P.underlying T' with | some (.struct fs) => (fs[f]?).map (fun g => (g.type, g.offset)) | _ => none) = some (ft, off)) [Scal P ft]
  (hx : ev ρ x = .agg cs.toArray) (hv : cs[off]? = some v) (h : RR P S ops K rest (upd ρ d v) w) : RR P S ops K ((⟨some d, .field T' x f, T, pos, af, none⟩, b) :: rest) ρ w := by
 refine cd rfl (fun w' => ?_) h
 split at hf
 ·rename_i fs hfs
  obtain ⟨g, hg, e⟩ := Option.map_eq_some_iff.1 hf
  simp only [Prod.mk.injEq] at e
  have ha := gy (P := P) (w := w') (T := ft)
  simp [execOp, Instr.field, hx, underlying, hfs, hg, asAgg, part, e.1, e.2, ha, hv]
 ·cases hf
end Go.W
namespace Go.Proofs.YtiejljicpinheaaGreat
open Go.W Go.LM
theorem jy {ls : List Nat} {a : Option Addr} {c : Nat} {w : World} (h : Limbs w a c ls) (h2 : ls.length ≤ 2) :
  CallsR Tryz.prog 142 #[.slice a ls.length c] w fun v w' => v = .int .u64 ((natOf ls : Nat) : Int) ∧ Ex w w' := by
 refine aF (args := [_]) Tryz.func142 rfl rfl ?_
 repeat' (first|refine ai rfl ?_|refine aa ?_|refine aj ?_|refine ah rfl ?_|refine ae ?_|refine aA ?_)
 refine aY (ι := Nat) [3, 4, 5, 6, 7, 8, 9, 10, 11, 12, 13, 14, 15, 16, 17, 18, 19, 20, 21, 22, 23, 24] (fun k => [(4, .int .i64 (k : Int)), (3, .int .u64 ((natOf (ls.take k) : Nat) : Int))]) (fun k w' => k ≤ ls.length ∧ w' = w) (fun k => ls.length - k) 0 ⟨rfl, rfl, trivial⟩ ⟨by simp, rfl⟩ ?_
 rintro k ξ w2 ⟨hk, rfl⟩
 have hlt := bM (h.lim.take k)
 have hd := h.lim.getD k
 repeat' (first|(refine aD rfl rfl (h.sl.plain (by simp; omega)) (by omega) ?_)|refine bG rfl h.sl (by omega) ?_|refine dE rfl (dz (by omega) (by omega)) ?_|refine j3 rfl rfl (by omega) (by omega) ?_|refine ai rfl ?_|refine aa ?_|refine aj ?_|refine ah rfl ?_|refine ae ?_|refine aZ rfl ?_|refine bz rfl rfl ?_|refine bK rfl rfl ?_|refine eJ rfl rfl (fun hc => ?_) (fun hc => ?_)|refine au rfl ?_|refine aO rfl (fun hc => ?_) (fun hc => ?_)|refine aA ?_|refine aP ?_|refine aJ ?_|refine aQ ?_|refine aI ?_|refine aE ?_)
 all_goals try (exfalso; omega)
 ·refine jb (j := 32 * k) rfl rfl rfl (by simp only [IntKind.bits]; omega) ?_
  have hkk : k = 0 ∨ k = 1 := by omega
  have hsh : (ls.getD k 0 <<< (32 * k)) % 2 ^ IntKind.u64.bits = ls.getD k 0 <<< (32 * k) := Nat.mod_eq_of_lt (by
   rw [Nat.shiftLeft_eq]; rcases hkk with rfl | rfl <;> simp only [IntKind.bits] <;> omega)
  have hsh2 : ls.getD k 0 <<< (32 * k) < 18446744073709551616 := by rw [Nat.shiftLeft_eq]; rcases hkk with rfl | rfl <;> omega
  have hlt' : natOf (ls.take k) < 2 ^ (32 * k) := by
   simp only [List.length_take, Nat.min_eq_left hk] at hlt
   rcases hkk with rfl | rfl <;> simpa using hlt
  rw [hsh]
  refine j4 rfl rfl rfl (by simp only [IntKind.bits]; rcases hkk with rfl | rfl <;> omega) hsh2 ?_
  repeat' (first|refine ai rfl ?_|refine aa ?_|refine ah rfl ?_|refine ae ?_|refine bc rfl rfl (by omega) (by omega) ?_|refine aL ?_)
  refine ⟨⟨k + 1, ⟨by omega, rfl⟩, by omega, rfl, ?_, trivial⟩, (by (repeat (first|exact aH _ _ _|refine ay rfl ?_|refine av rfl ?_|refine ak rfl ?_|refine ao rfl ?_)))⟩
  show Value.int .u64 _ = _
  congr 2
  have e := dS (ls := ls) (k := k + 1) (by omega) (by omega)
  rw [Nat.add_sub_cancel] at e
  rw [e, dk, Nat.or_comm, ← Nat.shiftLeft_add_eq_or_of_lt hlt', Nat.shiftLeft_eq]
  simp only [List.length_take, Nat.min_eq_left hk]
  rcases hkk with rfl | rfl <;> omega
 all_goals
  obtain rfl : k = ls.length := by omega
  refine bx rfl (rt rfl) ⟨?_, Ex.refl _⟩
  show Value.int .u64 _ = _
  rw [List.take_length]
end Go.Proofs.YtiejljicpinheaaGreat
namespace Go.Proofs.YtiejljicpinheaaGreat
open Go.W Go.LM
theorem iL {lo : Nat} {v : Value} {x : Int} {w : World} (h1 : IntC lo w v x) : CallsR Tryz.prog 32 #[v] w fun r w' => r = .int .i64 x.sign ∧ Ex w w' := by
 obtain ⟨n1, a1, c1, l1, rfl, hL1, rfl, hc1, g1, _⟩ := h1
 have htr : trimL l1 = l1 := hc1
 refine aF (args := [_]) Tryz.func32 rfl rfl ?_
 repeat' (first|refine bH rfl (fun g1 w1 hn1 => ⟨fun _ _ => trivial, ?_⟩)|refine aW rfl hn1.blk rfl ?_|refine ai rfl ?_|refine aa ?_|refine aj ?_|refine ah rfl ?_|refine ae ?_|refine aN rfl ?_|refine aA ?_)
 refine aw (bZ (hL1.ext hn1.ex)) rfl ?_
 rw [htr]
 rintro v w2 ⟨a2, c2, rfl, hL2, hf2, hE2⟩
 refine ⟨fun _ _ => trivial, ?_⟩
 have hb2 := hn1.blk.ext hE2
 have hz : l1.length = 0 ↔ natOf l1 = 0 := by
  constructor
  ·intro h; rw [List.eq_nil_of_length_eq_zero h]; rfl
  ·intro h; have := cC.2 h; rw [htr] at this; rw [this]; rfl
 repeat' (first|refine aW rfl hb2 rfl ?_|refine ai rfl ?_|refine aa ?_|refine aj ?_|refine ah rfl ?_|refine ae ?_|refine aZ rfl ?_|refine aN rfl ?_|refine aO rfl (fun hc => ?_) (fun hc => ?_)|refine fW rfl (fun hc => ?_) (fun hc => ?_)|refine aL ?_|refine aI ?_|refine aU ?_|refine bQ ?_|refine aE ?_)
 ·refine bx rfl (rt rfl) ⟨?_, hn1.ex.trans hE2⟩
  have : natOf l1 = 0 := hz.1 (by omega)
  rw [this]; cases n1 <;> rfl
 ·refine bx rfl (rt rfl) ⟨?_, hn1.ex.trans hE2⟩
  have : natOf l1 ≠ 0 := fun e => by have := hz.2 e; omega
  subst_vars
  show Value.int .i64 (-1) = _
  rw [show (sgn true (natOf l1)).sign = -1 by unfold sgn; rw [if_pos rfl]; exact Int.sign_eq_neg_one_of_neg (by omega)]
 ·refine bx rfl (rt rfl) ⟨?_, hn1.ex.trans hE2⟩
  have : natOf l1 ≠ 0 := fun e => by have := hz.2 e; omega
  subst_vars
  show Value.int .i64 1 = _
  rw [show (sgn false (natOf l1)).sign = 1 by unfold sgn; rw [if_neg (by decide)]; exact Int.sign_eq_one_of_pos (by omega)]
end Go.Proofs.YtiejljicpinheaaGreat
namespace Go.PM
def bit (ws : List Nat) (x : Nat) : Bool := (ws.getD (x / 64) 0).testBit (x % 64)
theorem cX {α : Type} (l : List α) (d : α) {k : Nat} (h : k < l.length) : l.take (k + 1) = l.take k ++ [l.getD k d] := by
 rw [List.take_succ_eq_append_getElem h, List.getD_eq_getElem?_getD, List.getElem?_eq_getElem h]; rfl
end Go.PM
namespace Go.PM
theorem fR {α : Type} {l : List α} {k : Nat} {d : α} (h : k < l.length) : l.getD k d ∈ l := by
 rw [List.getD_eq_getElem?_getD, List.getElem?_eq_getElem h]; exact List.getElem_mem h
end Go.PM
namespace Go.PM
def tAt (L : List Int) (k : Nat) : Nat := if k < L.length then k + 1 else k
end Go.PM
namespace Go.Proofs.YtiejljicpinheaaGreat
open Go.W Go.PM
abbrev int8L (xs : List Int) : List Value := xs.map (Value.int .i8)
def I8 (L : List Int) : Prop := L.length ≤ 9223372036854775807 ∧ ∀ x ∈ L, -128 ≤ x ∧ x ≤ 127
theorem I8.getD {L : List Int} (h : I8 L) (k : Nat) : -128 ≤ L.getD k 0 ∧ L.getD k 0 ≤ 127 := by
 by_cases hk : k < L.length
 ·exact h.2 _ (fR hk)
 ·rw [List.getD_eq_getElem?_getD, List.getElem?_eq_none (by omega)]; simp
abbrev tapeL (la : Option Addr) (n lc k : Nat) : List Value := [.slice la n lc, .int .i64 (k : Int)]
theorem lh {L : List Int} {k g lc : Nat} {la : Option Addr} {w : World} (hb : Blk w g 39 (tapeL la L.length lc k)) (hL : Sl w la (int8L L)) (hr : I8 L) (hne : 0 < L.length → ∀ ad, la = some ad → ad.block ≠ g)
  (hk : k ≤ L.length) : CallsR Tryz.prog 26 #[.pointer (some ⟨g, 0, none⟩)] w fun v w' =>
   v = .int .i64 (L.getD k 0) ∧ Chg g w w' ∧ Blk w' g 39 (tapeL la L.length lc (tAt L k)) := by
 have hlen := hr.1
 have hx := hr.getD k
 refine aF (args := [_]) Tryz.func26 rfl rfl ?_
 repeat' (first|refine ai rfl ?_|refine aa ?_|refine aj ?_|refine ah rfl ?_|refine ae ?_)
 refine bi (late := []) (plan := [(0, none), (1, none), (2, none), (3, none), (4, none), (5, none), (6, none), (7, none), (8, none), (9, none)]) (fun w' => Blk w' g 39 (tapeL la L.length lc k)) bA (by kernel_rfl) hb.drew ?_
 repeat' (first|refine aW rfl (fun _ h => h) rfl ?_|refine ai rfl ?_|refine aa ?_|refine aj ?_|refine ah rfl ?_|refine ae ?_|refine aZ rfl ?_|refine aN rfl ?_|refine aO rfl (fun hc => ?_) (fun hc => ?_)|refine aI ?_|refine aU ?_|refine aE ?_)
 ·refine bx rfl (rt rfl) ⟨?_, (Chg.refl g w).drew, ?_⟩
  ·rw [List.getD_eq_getElem?_getD, List.getElem?_eq_none (by omega)]; rfl
  ·rw [tAt, if_neg (by omega)]; exact hb.drew
 ·replace hb := hb.drew
  repeat' (first|refine aW rfl hb rfl ?_|refine j7 rfl rfl rfl hb rfl (fun w2 hc2 hb2 => ⟨fun _ _ => trivial, ?_⟩)|refine ai rfl ?_|refine aa ?_|refine aj ?_|refine ae ?_|refine bc rfl rfl (by omega) (by omega) ?_|refine aN rfl ?_)
  have hc2' := (Chg.trans (Chg.drew (Chg.refl g w)) hc2)
  have hL2 := (hL.drew).chg hc2 (hne (by omega))
  refine bi (late := []) (plan := [(0, none), (1, none), (2, none), (3, none), (4, none), (5, none), (6, none), (7, none), (8, none), (9, none), (10, none), (11, none), (12, none)]) (fun w' => Blk w' g 39 [.slice la L.length lc, .int .i64 ((k : Int) + 1)] ∧ Sl w' la (int8L L)) bA (by kernel_rfl) ⟨hb2.drew, hL2.drew⟩ ?_
  repeat' (first|refine aW rfl (fun _ h => h.1) rfl ?_|(refine aD (j := k) rfl (by show Value.int .i64 ((k : Int) + 1 - 1) = _; rw [Int.add_sub_cancel]) (hL.plain (by simp; omega)) (by omega) ?_)|refine rU rfl (fun _ h => h.2) (by omega) ?_|refine dE rfl (dy (by omega) (by omega)) ?_|refine ai rfl ?_|refine aa ?_|refine ae ?_|refine cR rfl rfl (by omega) (by omega) ?_|refine aN rfl ?_|refine aI ?_)
  refine bx rfl (rt rfl) ⟨rfl, hc2'.drew, ?_⟩
  rw [tAt, if_pos (by omega)]
  exact hb2.drew
end Go.Proofs.YtiejljicpinheaaGreat
namespace Go.PM
def ap (p : List Int) (x : Int) : Int := p.getD x.toNat 0
def it (p : List Int) : Nat → Int → Int
 | 0, x => x
 | k + 1, x => ap p (it p k x)
end Go.PM
namespace Go.Proofs.YtiejljicpinheaaGreat
open Go.W Go.PM Go.LM
def blkS (v : Value) : Option Nat := match v with
 | .slice (some ad) (_ + 1) _ => some ad.block
 | _ => none
def blkOf (v : Value) : Option Nat := match v with
 | .agg cs => (cs[1]?).bind blkS
 | _ => none
def Off (g : Nat) (v : Value) : Prop := blkOf v ≠ some g
theorem IntC.out {lo : Nat} {w : World} {v : Value} {z : Int} (h : IntC lo w v z) : ∃ cs : List Value, v = .agg cs.toArray ∧ cs.length = 2 ∧ cs.all Value.oneCell' = true := by
 obtain ⟨neg, a, c, ls, rfl, _⟩ := h
 exact ⟨_, rfl, rfl, rfl⟩
theorem IntC.lo {lo : Nat} {w : World} {v : Value} {z : Int} (h : IntC lo w v z) {g : Nat} (hg : blkOf v = some g) : lo ≤ g ∧ g < w.heap.size := by
 obtain ⟨neg, a, c, ls, rfl, hl, _, _, _, h6⟩ := h
 cases a with
 | none => simp [blkOf, blkS] at hg
 | some ad => cases ls with
  | nil => simp [blkOf, blkS] at hg
  | cons x t =>
   simp [blkOf, blkS] at hg
   subst hg
   refine ⟨h6 ad rfl, ?_⟩
   have := World.block_lt_of_cell? w _ (hl.sl.get 0 (by simp))
   exact this
theorem IntC.off_lo {lo g : Nat} {w : World} {v : Value} {z : Int} (h : IntC lo w v z) (hg : g < lo) : Off g v := fun e => by have := (h.lo e).1; omega
theorem IntC.off_hi {lo g : Nat} {w : World} {v : Value} {z : Int} (h : IntC lo w v z) (hg : w.heap.size ≤ g) : Off g v := fun e => by have := (h.lo e).2; omega
theorem IntC.chgO {lo g : Nat} {w w' : World} {v : Value} {z : Int} (h : IntC lo w v z) (e : Chg g w w') (hg : Off g v) : IntC lo w' v z := by
 obtain ⟨neg, a, c, ls, rfl, h2, h3, h4, h5, h6⟩ := h
 cases ls with
 | nil => exact ⟨neg, a, c, [], rfl, Limbs.nil _ _ _, h3, h4, h5, h6⟩
 | cons x t => exact ⟨neg, a, c, x :: t, rfl, h2.chg e (fun ad ea => by subst ea; intro e2; exact hg (by simp [blkOf, blkS, e2])), h3, h4, h5, h6⟩
theorem IntC.zero (lo : Nat) (w : World) : IntC lo w (.agg (intL false none 0 0).toArray) 0 := ⟨false, none, 0, [], rfl, Limbs.nil _ _ _, rfl, rfl, by simp, by simp⟩
end Go.Proofs.YtiejljicpinheaaGreat
