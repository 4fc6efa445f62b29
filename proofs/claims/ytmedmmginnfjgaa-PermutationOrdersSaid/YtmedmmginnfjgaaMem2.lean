import Derived.Test.YtmedmmginnfjgaaMem
namespace Go.W
/-- what a piece of code must leave where ways meet -/
structure Joined {ι : Type} (M : List Nat) (vals : ι → List (Nat × Value)) (J : ι → World → Prop) (ρ0 : Env) (ρ : Env) (w : World) : Prop where
  next : ∃ s, J s w ∧ Has ρ (vals s)
  agree : Agree M ρ ρ0
theorem cw_join {ι : Type} {P : Program} {n : Nat} {Q : Exit → Env → World → Prop} {next : Env → World → Prop} {ρ : Env} {w : World} {x : Code} (M : List Nat) (vals : ι → List (Nat × Value)) (J : ι → World → Prop)
    (h1 : CW P n x (thenE (Joined M vals J ρ) Q) ρ w) (h2 : ∀ s ξ w', J s w' → next (over (vals s) (mask M ρ ξ)) w') : CW P n x (thenE next Q) ρ w := by
  refine h1.mono fun e ρ' w' q => ?_
  cases e <;> unfold thenE at q ⊢
  case normal =>
    obtain ⟨⟨s, hJ, hH⟩, hA⟩ := q
    have := h2 s ρ' w' hJ
    rwa [mask_agree hA, over_has hH] at this
  all_goals exact q
section
variable {P : Program} {S : World → Prop} {ops : List Oper} {K : Env → World → Prop} {rest : List (Oper × Option Bool)} {ρ : Env} {w : World} {b : Option Bool} {kf : Bool} {d : Nat} {dst : Option Nat} {T T' : TypeId} {pos : String} {af : Array Edge}
/-- x[l:h] of a slice that has more cells than l -/
theorem k_sliceLH {x lo hi : Operand} {g o len cap E s y l h : Nat} {k k' : IntKind} [hT : Slc P T' E s y] (hx : ev ρ x = .slice (some ⟨g, o, none⟩) len cap) (hlo : ev ρ lo = .int k (l : Int)) (hhi : ev ρ hi = .int k' (h : Int))
    (h1 : l ≤ h) (h2 : h ≤ cap) (h3 : l < cap) (hh : RR P S ops K rest (upd ρ d (.slice (some ⟨g, o + l * s, none⟩) (h - l) (cap - l))) w) :
    RR P S ops K ((⟨some d, .slice T' x (some lo) (some hi) none, T, pos, af, none⟩, b) :: rest) ρ w := by
  refine rr_pure rfl (fun w' => ?_) hh
  obtain ⟨i0, hi0, hz⟩ := Option.map_eq_some_iff.1 hT.sz
  simp only [Prod.mk.injEq] at hz
  have e : ∀ n, (⟨g, o, none⟩ : Addr).add n = ⟨g, o + n, none⟩ := fun n => by unfold Addr.add; split <;> simp_all
  have h3' : ¬ cap = l := by omega
  simp [execOp, Instr.sliceAt, Instr.slice, Instr.sliceBounds, Instr.sliceBound, hx, hlo, hhi, asIntOf, underlying, hT.un, sizeOf, typeInfo, hi0, hz.1, h1, h2, h3', e]
/-- a store of a number into a block, through a slice that begins at cell o -/
theorem k_storeNo {x y : Operand} {T1 : TypeId} {g o j Tb : Nat} {k : IntKind} {u : Nat} {xs : List Nat} [hT : Scal P T1] (hx : ev ρ x = .pointer (some (elt (some ⟨g, o, none⟩) j))) (hy : ev ρ y = .int k (u : Int))
    (hb : Blk w g Tb (xs.map fun (n : Nat) => Value.int k n)) (ho : o + j < xs.length) (h : ∀ w', Chg g w w' → Blk w' g Tb ((xs.set (o + j) u).map fun (n : Nat) => Value.int k n) → (kf = true → S w → S w') ∧ RR P S ops K rest ρ w') :
    RR P S ops K ((⟨none, .store T1 x y, T, pos, af, none⟩, some kf) :: rest) ρ w :=
  k_store (o := o + j) (by rw [hx]; rfl) hy rfl hb (by simpa using ho) (by rw [List.map_set] at h; exact h)
theorem k_loadNo {x : Operand} {T1 : TypeId} {g o j Tb : Nat} {k : IntKind} {xs : List Nat} [Scal P T1] (hx : ev ρ x = .pointer (some (elt (some ⟨g, o, none⟩) j))) (hs : Rd b S w fun w' => Blk w' g Tb (xs.map fun (n : Nat) => Value.int k n))
    (hj : o + j < xs.length) (h : RR P S ops K rest (upd ρ d (.int k ((xs.getD (o + j) 0 : Nat) : Int))) w) : RR P S ops K ((⟨some d, .load T1 x, T, pos, af, none⟩, b) :: rest) ρ w :=
  k_load hx (hs.imp fun w' hs => by
    have := hs.cell (j := o + j) (by simpa using hj)
    simp only [elt]
    rw [this]
    simp [List.getD_eq_getElem?_getD, hj]) h
/-- naturals without overflow -/
theorem k_addN {x y : Operand} {m m' : Nat} {T'' : TypeId} (hx : ev ρ x = .int .u64 (m : Int)) (hy : ev ρ y = .int .u64 (m' : Int)) (h2 : m + m' < 18446744073709551616)
    (h : RR P S ops K rest (upd ρ d (.int .u64 ((m + m' : Nat) : Int))) w) : RR P S ops K ((⟨some d, .binOp .add T' x y T'', T, pos, af, none⟩, b) :: rest) ρ w :=
  k_addU hx hy (by omega) (by omega) (by rw [← Int.natCast_add]; exact h)
theorem k_mulN {x y : Operand} {m m' : Nat} {T'' : TypeId} (hx : ev ρ x = .int .u64 (m : Int)) (hy : ev ρ y = .int .u64 (m' : Int)) (h2 : m * m' < 18446744073709551616)
    (h : RR P S ops K rest (upd ρ d (.int .u64 ((m * m' : Nat) : Int))) w) : RR P S ops K ((⟨some d, .binOp .mul T' x y T'', T, pos, af, none⟩, b) :: rest) ρ w :=
  k_mul hx hy (by rw [← Int.natCast_mul, wrap_u64 (by omega) (by omega)]; exact h)
/-- uint64(x) of a limb -/
theorem k_up {x : Operand} {m : Nat} {T1 T2 : TypeId} [h1 : IntT P T1 .u32] [h2 : IntT P T2 .u64] (hx : ev ρ x = .int .u32 (m : Int)) (hm : m < 4294967296) (h : RR P S ops K rest (upd ρ d (.int .u64 (m : Int))) w) :
    RR P S ops K ((⟨some d, .convert T1 T2 x, T, pos, af, none⟩, b) :: rest) ρ w :=
  k_convI hx (wrap_u64 (by omega) (by omega)) h
/-- uint32(x) -/
theorem k_down {x : Operand} {m : Nat} {T1 T2 : TypeId} [h1 : IntT P T1 .u64] [h2 : IntT P T2 .u32] (hx : ev ρ x = .int .u64 (m : Int)) (h : RR P S ops K rest (upd ρ d (.int .u32 ((m % 4294967296 : Nat) : Int))) w) :
    RR P S ops K ((⟨some d, .convert T1 T2 x, T, pos, af, none⟩, b) :: rest) ρ w :=
  k_conv hx (by
    rw [show IntKind.u32.wrap ((m : Nat) : Int) = ((m % 4294967296 : Nat) : Int) from (wrap_uns rfl).trans (by simp [IntKind.bits])]
    exact h)
theorem k_shr32 {x y : Operand} {k' : IntKind} {m : Nat} {T'' : TypeId} (hx : ev ρ x = .int .u64 (m : Int)) (hy : ev ρ y = .int k' 32)
    (h : RR P S ops K rest (upd ρ d (.int .u64 ((m / 4294967296 : Nat) : Int))) w) : RR P S ops K ((⟨some d, .binOp .shr T' x y T'', T, pos, af, none⟩, b) :: rest) ρ w :=
  k_shrN (j := 32) hx hy (.inl rfl) (by rw [Nat.shiftRight_eq_div_pow]; exact h)
theorem k_addJ {x y : Operand} {m m' : Nat} {T'' : TypeId} (hx : ev ρ x = .int .i64 (m : Int)) (hy : ev ρ y = .int .i64 (m' : Int)) (h2 : m + m' ≤ 9223372036854775807)
    (h : RR P S ops K rest (upd ρ d (.int .i64 ((m + m' : Nat) : Int))) w) : RR P S ops K ((⟨some d, .binOp .add T' x y T'', T, pos, af, none⟩, b) :: rest) ρ w :=
  k_addI hx hy (by omega) (by omega) (by rw [← Int.natCast_add]; exact h)
end
end Go.W
namespace Go.W
section
variable {P : Program} {S : World → Prop} {ops : List Oper} {K : Env → World → Prop} {rest : List (Oper × Option Bool)} {ρ : Env} {w : World} {b : Option Bool} {kf : Bool} {d : Nat} {dst : Option Nat} {T T' : TypeId} {pos : String} {af : Array Edge}
/-- append to a slice of the call's own of a slice without elements -/
theorem k_append0 {T1 E s y n cap c : Nat} {x1 x2 : Operand} {a ad : Option Addr} [hT : Slc P T1 E s y] (h1 : ev ρ x1 = .slice a n cap) (h2 : ev ρ x2 = .slice ad 0 c) (hn : n ≤ cap)
    (h : RR P S ops K rest (upd ρ d (.slice a n cap)) w) :
    RR P S ops K ((⟨some d, .call ⟨.builtin .append, #[x1, x2], #[T1, T1]⟩, T, pos, af, none⟩, some kf) :: rest) ρ w := by
  refine rr_eff rfl ?_
  unfold OpW
  obtain ⟨i0, hi0, hzz⟩ := Option.map_eq_some_iff.1 hT.sz
  have : (execOp (ev ρ) ⟨some d, .call ⟨.builtin .append, #[x1, x2], #[T1, T1]⟩, T, pos, af, none⟩).run P w = .ok (.value (.slice a n cap)) w := by
    simp [execOp, resolve, invoke, builtin, h1, h2, Builtin.append_, run_underlying hT.un, sizeOf, typeInfo, hi0, Builtin.lenOf, Builtin.firstCells, loadCells, loadCellsFrom]
    cases ad <;> cases a <;> simp [hn, storeCells]
  rw [this]
  exact ⟨fun _ h => h, h⟩
/-- append(nil, x...) -/
theorem k_copy {T1 E y m c : Nat} {x1 x2 : Operand} {ad : Option Addr} {news : List Value} {z : Value} [hT : Slc P T1 E 1 y] [hz : Zro P E z] (h1 : ev ρ x1 = .slice none 0 0) (h2 : ev ρ x2 = .slice ad m c)
    (hzs : (Nat.beq z.cells.size 1) = true) (hnews : Sl w ad news) (hl : news.length = m) (ho : news.all Value.oneCell' = true) (hm : m ≤ 9223372036854775807) (hb : m * y ≤ 140737488355328)
    (h : ∀ a' cap' w', Own w' w.heap.size E 1 a' m cap' news → Ex w w' → (kf = true → S w → S w') ∧ RR P S ops K rest (upd ρ d (.slice a' m cap')) w') :
    RR P S ops K ((⟨some d, .call ⟨.builtin .append, #[x1, x2], #[T1, T1]⟩, T, pos, af, none⟩, some kf) :: rest) ρ w := by
  by_cases h0 : m = 0
  · subst h0
    have hn : news = [] := List.eq_nil_of_length_eq_zero hl
    subst hn
    exact k_append0 h1 h2 (Nat.le_refl _) (h none 0 w (Own.nil _ _ _ _) (Ex.refl _)).2
  · refine k_append (z := z) (s := 1) (c := c) (hzs := Nat.eq_of_beq_eq_true hzs) (hs := rfl) (news := news) (vs := []) (lo := w.heap.size) (h1 := h1) (h2 := h2) (hown := Own.nil _ _ _ _) (hnews := hnews) (hp := hnews.plain (by omega)) (hl := by simp [hl]) (ho := ho) (hm := by omega) (hb := by simpa using hb) (hlo := Nat.le_refl _) ?_
    intro a' cap' w' ho' hg hA
    rw [Nat.zero_add] at ho' ⊢
    exact h a' cap' w' (by simpa using ho') (grown_ex hg (Ex.refl _) (by simp))
end
end Go.W
namespace Go.W
def LsOK (w : World) (k : IntKind) : List SD → List (List Int) → Prop
  | [], [] => True
  | s :: ss, x :: xs => (Sl w s.a (x.map (Value.int k)) ∧ s.len = x.length) ∧ LsOK w k ss xs
  | _, _ => False
theorem LsOK.spec {w : World} {k : IntKind} : ∀ {sds : List SD} {xss : List (List Int)}, LsOK w k sds xss → sds.length = xss.length ∧ ∀ i, i < xss.length → Sl w (sds.getD i sd0).a ((xss.getD i []).map (Value.int k)) ∧ (sds.getD i sd0).len = (xss.getD i []).length
  | [], [], _ => ⟨rfl, fun i hi => by simp at hi⟩
  | _ :: _, [], h => h.elim
  | [], _ :: _, h => h.elim
  | s :: ss, x :: xs, h => by
    obtain ⟨h1, h2⟩ := h
    obtain ⟨h3, h4⟩ := LsOK.spec h2
    refine ⟨by simp [h3], fun i hi => ?_⟩
    cases i with
    | zero => exact h1
    | succ i => exact h4 i (by simpa using hi)
theorem Lists.of {w : World} {k : IntKind} {a : Option Addr} {sds : List SD} {xss : List (List Int)} (h1 : Sl w a (sds.map SD.val)) (h2 : LsOK w k sds xss) : Lists w k a sds xss := ⟨h1, h2.spec.1, h2.spec.2⟩
end Go.W
namespace Go.W
section
variable {P : Program} {S : World → Prop} {ops : List Oper} {K : Env → World → Prop} {rest : List (Oper × Option Bool)} {ρ : Env} {w : World} {b : Option Bool} {kf : Bool} {d : Nat} {dst : Option Nat} {T T' : TypeId} {pos : String} {af : Array Edge}
theorem k_eqlT {x y : Operand} {c : Bool} {T'' : TypeId} [h1 : BoolT P T'] (hx : ev ρ x = .bool c) (hy : ev ρ y = .bool c) (h : RR P S ops K rest (upd ρ d (.bool true)) w) : RR P S ops K ((⟨some d, .binOp .eql T' x y T'', T, pos, af, none⟩, b) :: rest) ρ w :=
  k_eqlB hx hy (by rw [beq_self_eq_true]; exact h)
theorem k_neqF {x y : Operand} {c : Bool} {T'' : TypeId} [h1 : BoolT P T'] (hx : ev ρ x = .bool c) (hy : ev ρ y = .bool c) (h : RR P S ops K rest (upd ρ d (.bool false)) w) : RR P S ops K ((⟨some d, .binOp .neq T' x y T'', T, pos, af, none⟩, b) :: rest) ρ w :=
  k_neqB hx hy (by rw [beq_self_eq_true]; exact h)
theorem k_eqlI {x y : Operand} {k : IntKind} {m : Int} {T'' : TypeId} (hx : ev ρ x = .int k m) (hy : ev ρ y = .int k m) (h : RR P S ops K rest (upd ρ d (.bool true)) w) : RR P S ops K ((⟨some d, .binOp .eql T' x y T'', T, pos, af, none⟩, b) :: rest) ρ w :=
  k_eql hx hy (by rw [decide_eq_true rfl]; exact h)
theorem k_neqI {x y : Operand} {k : IntKind} {m : Int} {T'' : TypeId} (hx : ev ρ x = .int k m) (hy : ev ρ y = .int k m) (h : RR P S ops K rest (upd ρ d (.bool false)) w) : RR P S ops K ((⟨some d, .binOp .neq T' x y T'', T, pos, af, none⟩, b) :: rest) ρ w :=
  k_neq hx hy (by rw [decide_eq_false (by simp)]; exact h)
end
theorem wf_u8 {n : Int} (h : (Lit.int .u8 n).wf = true) : 0 ≤ n ∧ n ≤ 255 := by simpa [Lit.wf, IntKind.min, IntKind.max, IntKind.signed, IntKind.bits] using h
theorem wf_i8 {n : Int} (h : (Lit.int .i8 n).wf = true) : -128 ≤ n ∧ n ≤ 127 := by simpa [Lit.wf, IntKind.min, IntKind.max, IntKind.signed, IntKind.bits] using h
theorem wf_i64 {n : Int} (h : (Lit.int .i64 n).wf = true) : -9223372036854775808 ≤ n ∧ n ≤ 9223372036854775807 := by simpa [Lit.wf, IntKind.min, IntKind.max, IntKind.signed, IntKind.bits] using h
end Go.W
