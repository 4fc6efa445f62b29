
import Derived.Test.YthhfjagnmhhapaaM01
import Derived.Test.YthhfjagnmhhapaaM02

namespace Go.W
/-- what a piece of code must leave where ways meet -/
structure Joined {ι : Type} (M : List Nat) (vals : ι → List (Nat × Value)) (J : ι → World → Prop) (ρ0 : Env) (ρ : Env) (w : World) : Prop where
  next : ∃ s, J s w ∧ Has ρ (vals s)
  agree : Agree M ρ ρ0
theorem cw_join {ι : Type} {P : Program} {n : Nat} {Q : Exit → Env → World → Prop} {next : Env → World → Prop} {ρ : Env} {w : World} {x : Code} (M : List Nat) (vals : ι → List (Nat × Value)) (J : ι → World → Prop)
    (h1 : CW P n x (thenE (Joined M vals J ρ) Q) ρ w) (h2 : ∀ s ξ w', J s w' → next (over (vals s) (mask M ρ ξ)) w') : CW P n x (thenE next Q) ρ w := by
  refine h1.mono fun e ρ' w' q => ?_
  cases e <;> unfold thenE at q ⊢
  case normal =>
    obtain ⟨⟨s, hJ, hH⟩, hA⟩ := q
    have := h2 s ρ' w' hJ
    rwa [mask_agree hA, over_has hH] at this
  all_goals exact q
section
variable {P : Program} {S : World → Prop} {ops : List Oper} {K : Env → World → Prop} {rest : List (Oper × Option Bool)} {ρ : Env} {w : World} {b : Option Bool} {kf : Bool} {d : Nat} {dst : Option Nat} {T T' : TypeId} {pos : String} {af : Array Edge}
/-- x[l:h] of a slice that has more cells than l -/
theorem k_sliceLH {x lo hi : Operand} {g o len cap E s y l h : Nat} {k k' : IntKind} [hT : Slc P T' E s y] (hx : ev ρ x = .slice (some ⟨g, o, none⟩) len cap) (hlo : ev ρ lo = .int k (l : Int)) (hhi : ev ρ hi = .int k' (h : Int))
    (h1 : l ≤ h) (h2 : h ≤ cap) (h3 : l < cap) (hh : RR P S ops K rest (upd ρ d (.slice (some ⟨g, o + l * s, none⟩) (h - l) (cap - l))) w) :
    RR P S ops K ((⟨some d, .slice T' x (some lo) (some hi) none, T, pos, af, none⟩, b) :: rest) ρ w := by
  refine rr_pure rfl (fun w' => ?_) hh
  obtain ⟨i0, hi0, hz⟩ := Option.map_eq_some_iff.1 hT.sz
  simp only [Prod.mk.injEq] at hz
  have e : ∀ n, (⟨g, o, none⟩ : Addr).add n = ⟨g, o + n, none⟩ := fun n => by unfold Addr.add; split <;> simp_all
  have h3' : ¬ cap = l := by omega
  simp [execOp, Instr.sliceAt, Instr.slice, Instr.sliceBounds, Instr.sliceBound, hx, hlo, hhi, asIntOf, underlying, hT.un, sizeOf, typeInfo, hi0, hz.1, h1, h2, h3', e]
/-- a store of a number into a block, through a slice that begins at cell o -/
theorem k_storeNo {x y : Operand} {T1 : TypeId} {g o j Tb : Nat} {k : IntKind} {u : Nat} {xs : List Nat} [hT : Scal P T1] (hx : ev ρ x = .pointer (some (elt (some ⟨g, o, none⟩) j))) (hy : ev ρ y = .int k (u : Int))
    (hb : Blk w g Tb (xs.map fun (n : Nat) => Value.int k n)) (ho : o + j < xs.length) (h : ∀ w', Chg g w w' → Blk w' g Tb ((xs.set (o + j) u).map fun (n : Nat) => Value.int k n) → (kf = true → S w → S w') ∧ RR P S ops K rest ρ w') :
    RR P S ops K ((⟨none, .store T1 x y, T, pos, af, none⟩, some kf) :: rest) ρ w :=
  k_store (o := o + j) (by rw [hx]; rfl) hy rfl hb (by simpa using ho) (by rw [List.map_set] at h; exact h)
theorem k_loadNo {x : Operand} {T1 : TypeId} {g o j Tb : Nat} {k : IntKind} {xs : List Nat} [Scal P T1] (hx : ev ρ x = .pointer (some (elt (some ⟨g, o, none⟩) j))) (hs : Rd b S w fun w' => Blk w' g Tb (xs.map fun (n : Nat) => Value.int k n))
    (hj : o + j < xs.length) (h : RR P S ops K rest (upd ρ d (.int k ((xs.getD (o + j) 0 : Nat) : Int))) w) : RR P S ops K ((⟨some d, .load T1 x, T, pos, af, none⟩, b) :: rest) ρ w :=
  k_load hx (hs.imp fun w' hs => by
    have := hs.cell (j := o + j) (by simpa using hj)
    simp only [elt]
    rw [this]
    simp [List.getD_eq_getElem?_getD, hj]) h
/-- naturals without overflow -/
theorem k_addN {x y : Operand} {m m' : Nat} {T'' : TypeId} (hx : ev ρ x = .int .u64 (m : Int)) (hy : ev ρ y = .int .u64 (m' : Int)) (h2 : m + m' < 18446744073709551616)
    (h : RR P S ops K rest (upd ρ d (.int .u64 ((m + m' : Nat) : Int))) w) : RR P S ops K ((⟨some d, .binOp .add T' x y T'', T, pos, af, none⟩, b) :: rest) ρ w :=
  k_addU hx hy (by omega) (by omega) (by rw [← Int.natCast_add]; exact h)
theorem k_mulN {x y : Operand} {m m' : Nat} {T'' : TypeId} (hx : ev ρ x = .int .u64 (m : Int)) (hy : ev ρ y = .int .u64 (m' : Int)) (h2 : m * m' < 18446744073709551616)
    (h : RR P S ops K rest (upd ρ d (.int .u64 ((m * m' : Nat) : Int))) w) : RR P S ops K ((⟨some d, .binOp .mul T' x y T'', T, pos, af, none⟩, b) :: rest) ρ w :=
  k_mul hx hy (by rw [← Int.natCast_mul, wrap_u64 (by omega) (by omega)]; exact h)
/-- uint64(x) of a limb -/
theorem k_up {x : Operand} {m : Nat} {T1 T2 : TypeId} [h1 : IntT P T1 .u32] [h2 : IntT P T2 .u64] (hx : ev ρ x = .int .u32 (m : Int)) (hm : m < 4294967296) (h : RR P S ops K rest (upd ρ d (.int .u64 (m : Int))) w) :
    RR P S ops K ((⟨some d, .convert T1 T2 x, T, pos, af, none⟩, b) :: rest) ρ w :=
  k_convI hx (wrap_u64 (by omega) (by omega)) h
/-- uint32(x) -/
theorem k_down {x : Operand} {m : Nat} {T1 T2 : TypeId} [h1 : IntT P T1 .u64] [h2 : IntT P T2 .u32] (hx : ev ρ x = .int .u64 (m : Int)) (h : RR P S ops K rest (upd ρ d (.int .u32 ((m % 4294967296 : Nat) : Int))) w) :
    RR P S ops K ((⟨some d, .convert T1 T2 x, T, pos, af, none⟩, b) :: rest) ρ w :=
  k_conv hx (by
    rw [show IntKind.u32.wrap ((m : Nat) : Int) = ((m % 4294967296 : Nat) : Int) from (wrap_uns rfl).trans (by simp [IntKind.bits])]
    exact h)
theorem k_shr32 {x y : Operand} {k' : IntKind} {m : Nat} {T'' : TypeId} (hx : ev ρ x = .int .u64 (m : Int)) (hy : ev ρ y = .int k' 32)
    (h : RR P S ops K rest (upd ρ d (.int .u64 ((m / 4294967296 : Nat) : Int))) w) : RR P S ops K ((⟨some d, .binOp .shr T' x y T'', T, pos, af, none⟩, b) :: rest) ρ w :=
  k_shrN (j := 32) hx hy (.inl rfl) (by rw [Nat.shiftRight_eq_div_pow]; exact h)
theorem k_addJ {x y : Operand} {m m' : Nat} {T'' : TypeId} (hx : ev ρ x = .int .i64 (m : Int)) (hy : ev ρ y = .int .i64 (m' : Int)) (h2 : m + m' ≤ 9223372036854775807)
    (h : RR P S ops K rest (upd ρ d (.int .i64 ((m + m' : Nat) : Int))) w) : RR P S ops K ((⟨some d, .binOp .add T' x y T'', T, pos, af, none⟩, b) :: rest) ρ w :=
  k_addI hx hy (by omega) (by omega) (by rw [← Int.natCast_add]; exact h)
end
end Go.W
namespace Go.W
section
variable {P : Program} {S : World → Prop} {ops : List Oper} {K : Env → World → Prop} {rest : List (Oper × Option Bool)} {ρ : Env} {w : World} {b : Option Bool} {kf : Bool} {d : Nat} {dst : Option Nat} {T T' : TypeId} {pos : String} {af : Array Edge}
/-- append to a slice of the call's own of a slice without elements -/
theorem k_append0 {T1 E s y n cap c : Nat} {x1 x2 : Operand} {a ad : Option Addr} [hT : Slc P T1 E s y] (h1 : ev ρ x1 = .slice a n cap) (h2 : ev ρ x2 = .slice ad 0 c) (hn : n ≤ cap)
    (h : RR P S ops K rest (upd ρ d (.slice a n cap)) w) :
    RR P S ops K ((⟨some d, .call ⟨.builtin .append, #[x1, x2], #[T1, T1]⟩, T, pos, af, none⟩, some kf) :: rest) ρ w := by
  refine rr_eff rfl ?_
  unfold OpW
  obtain ⟨i0, hi0, hzz⟩ := Option.map_eq_some_iff.1 hT.sz
  have : (execOp (ev ρ) ⟨some d, .call ⟨.builtin .append, #[x1, x2], #[T1, T1]⟩, T, pos, af, none⟩).run P w = .ok (.value (.slice a n cap)) w := by
    simp [execOp, resolve, invoke, builtin, h1, h2, Builtin.append_, run_underlying hT.un, sizeOf, typeInfo, hi0, Builtin.lenOf, Builtin.firstCells, loadCells, loadCellsFrom]
    cases ad <;> cases a <;> simp [hn, storeCells]
  rw [this]
  exact ⟨fun _ h => h, h⟩
/-- append(nil, x...) -/
theorem k_copy {T1 E y m c : Nat} {x1 x2 : Operand} {ad : Option Addr} {news : List Value} {z : Value} [hT : Slc P T1 E 1 y] [hz : Zro P E z] (h1 : ev ρ x1 = .slice none 0 0) (h2 : ev ρ x2 = .slice ad m c)
    (hzs : (Nat.beq z.cells.size 1) = true) (hnews : Sl w ad news) (hl : news.length = m) (ho : news.all Value.oneCell' = true) (hm : m ≤ 9223372036854775807) (hb : m * y ≤ 140737488355328)
    (h : ∀ a' cap' w', Own w' w.heap.size E 1 a' m cap' news → Ex w w' → (kf = true → S w → S w') ∧ RR P S ops K rest (upd ρ d (.slice a' m cap')) w') :
    RR P S ops K ((⟨some d, .call ⟨.builtin .append, #[x1, x2], #[T1, T1]⟩, T, pos, af, none⟩, some kf) :: rest) ρ w := by
  by_cases h0 : m = 0
  · subst h0
    have hn : news = [] := List.eq_nil_of_length_eq_zero hl
    subst hn
    exact k_append0 h1 h2 (Nat.le_refl _) (h none 0 w (Own.nil _ _ _ _) (Ex.refl _)).2
  · refine k_append (z := z) (s := 1) (c := c) (hzs := Nat.eq_of_beq_eq_true hzs) (hs := rfl) (news := news) (vs := []) (lo := w.heap.size) (h1 := h1) (h2 := h2) (hown := Own.nil _ _ _ _) (hnews := hnews) (hp := hnews.plain (by omega)) (hl := by simp [hl]) (ho := ho) (hm := by omega) (hb := by simpa using hb) (hlo := Nat.le_refl _) ?_
    intro a' cap' w' ho' hg hA
    rw [Nat.zero_add] at ho' ⊢
    exact h a' cap' w' (by simpa using ho') (grown_ex hg (Ex.refl _) (by simp))
end
end Go.W
namespace Go.W
def LsOK (w : World) (k : IntKind) : List SD → List (List Int) → Prop
  | [], [] => True
  | s :: ss, x :: xs => (Sl w s.a (x.map (Value.int k)) ∧ s.len = x.length) ∧ LsOK w k ss xs
  | _, _ => False
theorem LsOK.spec {w : World} {k : IntKind} : ∀ {sds : List SD} {xss : List (List Int)}, LsOK w k sds xss → sds.length = xss.length ∧ ∀ i, i < xss.length → Sl w (sds.getD i sd0).a ((xss.getD i []).map (Value.int k)) ∧ (sds.getD i sd0).len = (xss.getD i []).length
  | [], [], _ => ⟨rfl, fun i hi => by simp at hi⟩
  | _ :: _, [], h => h.elim
  | [], _ :: _, h => h.elim
  | s :: ss, x :: xs, h => by
    obtain ⟨h1, h2⟩ := h
    obtain ⟨h3, h4⟩ := LsOK.spec h2
    refine ⟨by simp [h3], fun i hi => ?_⟩
    cases i with
    | zero => exact h1
    | succ i => exact h4 i (by simpa using hi)
theorem Lists.of {w : World} {k : IntKind} {a : Option Addr} {sds : List SD} {xss : List (List Int)} (h1 : Sl w a (sds.map SD.val)) (h2 : LsOK w k sds xss) : Lists w k a sds xss := ⟨h1, h2.spec.1, h2.spec.2⟩
end Go.W
namespace Go.W
section
variable {P : Program} {S : World → Prop} {ops : List Oper} {K : Env → World → Prop} {rest : List (Oper × Option Bool)} {ρ : Env} {w : World} {b : Option Bool} {kf : Bool} {d : Nat} {dst : Option Nat} {T T' : TypeId} {pos : String} {af : Array Edge}
theorem k_eqlT {x y : Operand} {c : Bool} {T'' : TypeId} [h1 : BoolT P T'] (hx : ev ρ x = .bool c) (hy : ev ρ y = .bool c) (h : RR P S ops K rest (upd ρ d (.bool true)) w) : RR P S ops K ((⟨some d, .binOp .eql T' x y T'', T, pos, af, none⟩, b) :: rest) ρ w :=
  k_eqlB hx hy (by rw [beq_self_eq_true]; exact h)
theorem k_neqF {x y : Operand} {c : Bool} {T'' : TypeId} [h1 : BoolT P T'] (hx : ev ρ x = .bool c) (hy : ev ρ y = .bool c) (h : RR P S ops K rest (upd ρ d (.bool false)) w) : RR P S ops K ((⟨some d, .binOp .neq T' x y T'', T, pos, af, none⟩, b) :: rest) ρ w :=
  k_neqB hx hy (by rw [beq_self_eq_true]; exact h)
end
end Go.W

namespace Go.W
section
variable {P : Program} {S : World → Prop} {ops : List Oper} {K : Env → World → Prop} {rest : List (Oper × Option Bool)} {ρ : Env} {w : World} {b : Option Bool} {kf : Bool} {d : Nat} {dst : Option Nat} {T T' : TypeId} {pos : String} {af : Array Edge}
variable {x y : Operand} {k : IntKind} {m m' : Int} {T'' : TypeId}
end
end Go.W
namespace Go.W
theorem k_loadBv {P : Program} {S : World → Prop} {ops : List Oper} {K : Env → World → Prop} {rest : List (Oper × Option Bool)} {ρ : Env} {w : World} {b : Option Bool} {d : Nat} {T : TypeId} {pos : String} {af : Array Edge}
    {x : Operand} {T1 : TypeId} {a : Option Addr} {j : Nat} {xs : List Bool} {c : Bool} [Scal P T1] (hx : ev ρ x = .pointer (some (elt a j))) (hs : Rd b S w fun w' => Sl w' a (xs.map Value.bool))
    (hj : j < xs.length) (hv : xs.getD j false = c) (h : RR P S ops K rest (upd ρ d (.bool c)) w) : RR P S ops K ((⟨some d, .load T1 x, T, pos, af, none⟩, b) :: rest) ρ w :=
  k_loadB hx hs hj (by rw [hv]; exact h)
end Go.W
namespace Go.W
end Go.W

/- Plain mathematics for the layer 16: sets as words, permutations as lists. No program in sight. -/
namespace Go.PM

/-- the words of a set -/
def bit (ws : List Nat) (x : Nat) : Bool := (ws.getD (x / 64) 0).testBit (x % 64)
structure SetOf (ws : List Nat) (l : List Int) : Prop where
  len : ws.length = 8
  lt : ∀ j, ws.getD j 0 < 18446744073709551616
  mem : ∀ x : Nat, x < 512 → (bit ws x = true ↔ (x : Int) ∈ l)
theorem setOf_nil : SetOf [0, 0, 0, 0, 0, 0, 0, 0] [] := by
  refine ⟨rfl, fun j => ?_, fun x hx => ?_⟩
  · rcases j with _ | _ | _ | _ | _ | _ | _ | _ | j <;> simp
  · have : x / 64 < 8 := by omega
    unfold bit
    generalize x / 64 = q at *
    rcases q with _ | _ | _ | _ | _ | _ | _ | _ | q <;> first | (simp; done) | omega
theorem bit_eq (ws : List Nat) (x : Nat) : (((ws.getD (x / 64) 0) >>> (x % 64) &&& 1 : Nat) : Int) = 1 ↔ bit ws x = true := by
  unfold bit Nat.testBit
  rw [Nat.and_comm]
  simp only [bne_iff_ne, ne_eq]
  have h : 1 &&& (ws.getD (x / 64) 0) >>> (x % 64) < 2 := by rw [Nat.and_comm, Nat.and_one_is_mod]; omega
  omega
theorem setOf_with {ws : List Nat} {l : List Int} (h : SetOf ws l) {x : Nat} (hx : x < 512) : SetOf (ws.set (x / 64) (ws.getD (x / 64) 0 ||| 1 <<< (x % 64))) (l ++ [(x : Int)]) := by
  have h8 : x / 64 < ws.length := by rw [h.len]; omega
  have hp : 1 <<< (x % 64) < 18446744073709551616 := by
    rw [Nat.one_shiftLeft]
    have : 2 ^ (x % 64) < 2 ^ 64 := Nat.pow_lt_pow_right (by omega) (by omega)
    omega
  refine ⟨by simp [h.len], fun j => ?_, fun y hy => ?_⟩
  · simp only [List.getD_eq_getElem?_getD, List.getElem?_set]
    split
    · have h1 := h.lt (x / 64)
      simp only [List.getD_eq_getElem?_getD] at h1
      exact Nat.or_lt_two_pow (n := 64) h1 hp
    · have := h.lt j; simpa [List.getD_eq_getElem?_getD] using this
  · rw [List.mem_append, ← h.mem y hy]
    unfold bit
    simp only [List.getD_eq_getElem?_getD, List.getElem?_set]
    split
    · rename_i e
      rw [e]
      simp only [Option.getD_some, Nat.testBit_or, Nat.one_shiftLeft, Nat.testBit_two_pow, Bool.or_eq_true, decide_eq_true_eq, List.mem_singleton]
      have : (x % 64 = y % 64) ↔ ((y : Int) = x) := by omega
      rw [this]
    · rename_i e
      constructor
      · exact .inl
      · rintro (h | h)
        · exact h
        · simp only [List.mem_singleton] at h; omega

/-- lists that are permutations -/
def Dist (n : Nat) (l : List Int) : Prop := (∀ y ∈ l, 0 ≤ y ∧ y < n) ∧ l.Nodup
def IsPerm (p : List Int) : Prop := 1 ≤ p.length ∧ p.length ≤ 512 ∧ Dist p.length p
instance (n : Nat) (l : List Int) : Decidable (Dist n l) := by unfold Dist; infer_instance
instance (p : List Int) : Decidable (IsPerm p) := by unfold IsPerm; infer_instance
theorem good_nil (n : Nat) : Dist n [] := ⟨by simp, by simp⟩
theorem take_succ_getD {α : Type} (l : List α) (d : α) {k : Nat} (h : k < l.length) : l.take (k + 1) = l.take k ++ [l.getD k d] := by
  rw [List.take_succ_eq_append_getElem h, List.getD_eq_getElem?_getD, List.getElem?_eq_getElem h]; rfl
theorem good_snoc {n : Nat} {l : List Int} {y : Int} : Dist n (l ++ [y]) ↔ Dist n l ∧ 0 ≤ y ∧ y < n ∧ y ∉ l := by
  unfold Dist
  simp only [List.mem_append, List.mem_singleton, List.nodup_append]
  constructor
  · rintro ⟨h1, h2, _, h3⟩
    exact ⟨⟨fun z hz => h1 z (.inl hz), h2⟩, (h1 y (.inr rfl)).1, (h1 y (.inr rfl)).2, fun hy => h3 y hy y rfl rfl⟩
  · rintro ⟨⟨h1, h2⟩, h3, h4, h5⟩
    refine ⟨?_, h2, by simp, fun a ha b hb => ?_⟩
    · rintro z (hz | rfl)
      · exact h1 z hz
      · exact ⟨h3, h4⟩
    · subst hb; exact fun e => h5 (e ▸ ha)
theorem good_take {n : Nat} {l : List Int} (h : Dist n l) (k : Nat) : Dist n (l.take k) :=
  ⟨fun y hy => h.1 y (List.mem_of_mem_take hy), h.2.sublist (List.take_sublist k l)⟩
end Go.PM
namespace Go.PM
theorem take_set_succ {α : Type} {l : List α} {k : Nat} {u : α} (h : k < l.length) : (l.set k u).take (k + 1) = l.take k ++ [u] := by
  rw [List.take_succ_eq_append_getElem (by simpa using h), List.take_set_of_le (Nat.le_refl k)]
  simp
theorem getD_mem {α : Type} {l : List α} {k : Nat} {d : α} (h : k < l.length) : l.getD k d ∈ l := by
  rw [List.getD_eq_getElem?_getD, List.getElem?_eq_getElem h]; exact List.getElem_mem h
theorem IsPerm.lt {p : List Int} (h : IsPerm p) {k : Nat} (hk : k < p.length) : 0 ≤ p.getD k 0 ∧ p.getD k 0 < p.length := h.2.2.1 _ (getD_mem hk)
/-- first p, then q -/
def mulP (p q : List Int) : List Int := p.map fun y => q.getD y.toNat 0
theorem mulP_length (p q : List Int) : (mulP p q).length = p.length := by simp [mulP]
theorem mulP_snoc {p q : List Int} {k : Nat} (h : k < p.length) : mulP (p.take (k + 1)) q = mulP (p.take k) q ++ [q.getD (p.getD k 0).toNat 0] := by
  rw [take_succ_getD p 0 h, mulP, List.map_append]; rfl
end Go.PM
namespace Go.PM
/-! making permutations -/
def idList (n : Nat) : List Int := (List.range n).map fun (k : Nat) => (k : Int)
theorem idList_length (n : Nat) : (idList n).length = n := by simp [idList]
theorem idList_succ (n : Nat) : idList (n + 1) = idList n ++ [(n : Int)] := by simp [idList, List.range_succ]
theorem idList_getD {n k : Nat} (h : k < n) : (idList n).getD k 0 = k := by simp [idList, List.getD_eq_getElem?_getD, h]
theorem nodup_iff {l : List Int} : l.Nodup ↔ ∀ i j, i < j → j < l.length → l.getD i 0 ≠ l.getD j 0 := by
  unfold List.Nodup
  rw [List.pairwise_iff_getElem]
  constructor
  · intro h i j hij hj
    have := h i j (by omega) hj hij
    simpa [List.getD_eq_getElem?_getD, hj, show i < l.length by omega] using this
  · intro h i j hi hj hij
    have := h i j hij hj
    simpa [List.getD_eq_getElem?_getD, hj, hi] using this
theorem mem_iff_getD {l : List Int} {y : Int} : y ∈ l ↔ ∃ k, k < l.length ∧ l.getD k 0 = y := by
  rw [List.mem_iff_getElem]
  constructor
  · rintro ⟨k, hk, rfl⟩; exact ⟨k, hk, by simp [List.getD_eq_getElem?_getD, hk]⟩
  · rintro ⟨k, hk, rfl⟩; exact ⟨k, hk, by simp [List.getD_eq_getElem?_getD, hk]⟩
theorem dist_iff {n : Nat} {l : List Int} : Dist n l ↔ (∀ k, k < l.length → 0 ≤ l.getD k 0 ∧ l.getD k 0 < n) ∧ ∀ i j, i < j → j < l.length → l.getD i 0 ≠ l.getD j 0 := by
  unfold Dist
  rw [nodup_iff]
  constructor
  · rintro ⟨h1, h2⟩; exact ⟨fun k hk => h1 _ (getD_mem hk), h2⟩
  · rintro ⟨h1, h2⟩
    refine ⟨fun y hy => ?_, h2⟩
    obtain ⟨k, hk, rfl⟩ := mem_iff_getD.1 hy
    exact h1 k hk
theorem ext_getD {l l' : List Int} (h : l.length = l'.length) (he : ∀ k, k < l.length → l.getD k 0 = l'.getD k 0) : l = l' := by
  apply List.ext_getElem h
  intro k h1 h2
  have := he k h1
  simpa [List.getD_eq_getElem?_getD, h1, h2] using this
def swapL (l : List Int) (i j : Nat) : List Int := (l.set i (l.getD j 0)).set j (l.getD i 0)
theorem swapL_length (l : List Int) (i j : Nat) : (swapL l i j).length = l.length := by simp [swapL]
theorem swapL_getD {l : List Int} {i j : Nat} (hi : i < l.length) (hj : j < l.length) (k : Nat) : (swapL l i j).getD k 0 = if k = j then l.getD i 0 else if k = i then l.getD j 0 else l.getD k 0 := by
  simp only [swapL, List.getD_eq_getElem?_getD, List.getElem?_set, List.length_set]
  by_cases h1 : k = j
  · subst h1; simp [hj]
  · rw [if_neg (Ne.symm h1), if_neg h1]
    by_cases h2 : k = i
    · subst h2; simp [hi]
    · rw [if_neg (Ne.symm h2), if_neg h2]
theorem swapL_dist {n : Nat} {l : List Int} {i j : Nat} (hi : i < l.length) (hj : j < l.length) (h : Dist n l) : Dist n (swapL l i j) := by
  rw [dist_iff] at *
  simp only [swapL_length, swapL_getD hi hj]
  obtain ⟨h1, h2⟩ := h
  have h2' : ∀ a b, a < l.length → b < l.length → a ≠ b → l.getD a 0 ≠ l.getD b 0 := fun a b ha hb hab => by
    rcases Nat.lt_or_gt_of_ne hab with h | h
    · exact h2 a b h hb
    · exact (h2 b a h ha).symm
  refine ⟨fun k hk => ?_, fun a b hab hb => ?_⟩
  · split
    · exact h1 i hi
    · split
      · exact h1 j hj
      · exact h1 k hk
  · split <;> split <;> (try split) <;> (try split) <;> first | omega | (apply h2' <;> omega)
theorem idList_dist (n : Nat) : Dist n (idList n) := by
  rw [dist_iff]
  simp only [idList_length]
  exact ⟨fun k hk => by rw [idList_getD hk]; omega, fun i j hij hj => by rw [idList_getD hj, idList_getD (by omega)]; omega⟩
end Go.PM

namespace Go.Proofs.Ythhfjagnmhhapaa
open Go.W Go.PM
abbrev intsL (xs : List Int) : List Value := xs.map (Value.int .i64)

end Go.Proofs.Ythhfjagnmhhapaa

namespace Go.Proofs.Ythhfjagnmhhapaa
open Go.W Go.PM

abbrev wordsL (ws : List Nat) : List Value := ws.map fun (n : Nat) => Value.int .u64 n
-- abbrev intsL (xs : List Int) : List Value := xs.map (Value.int .i64)

theorem has_nat {ws : List Nat} {l : List Int} (hs : SetOf ws l) (x : Nat) (h1 : x < 512) (w : World) :
    CallsR Try.prog 102 #[.agg (wordsL ws).toArray, .int .i64 (x : Int)] w fun v w' => v = .bool (decide ((x : Int) ∈ l)) ∧ Ex w w' := by
  have hl := hs.len
  have hw := hs.lt
  refine callsR_of (args := [_, _]) Try.func102 rfl rfl ?_
  repeat' (first | (refine k_boxA rfl (fun g w' hn => ⟨fun _ _ => trivial, ?_⟩)) | (refine k_pure rfl ?_) | (refine then_normal ?_) | (refine cw_seq ?_) | (refine cw_region rfl ?_) | (refine rr_nil ?_) | (refine k_len rfl ?_) | (refine g_run rfl rfl ?_) | (refine g_skip rfl rfl ?_) | (refine g_dec_f rfl rfl (fun hc => ?_) (fun hc => ?_)) | (refine g_dec_t rfl rfl (fun hc => ?_) (fun hc => ?_)) | (refine g_ndec_f rfl rfl (fun hc => ?_) (fun hc => ?_)) | (refine g_ndec_t rfl rfl (fun hc => ?_) (fun hc => ?_)) | (refine g_split rfl rfl (fun hc => ?_) (fun hc => ?_)) | (refine k_addI rfl rfl (by omega) (by omega) ?_) | (refine k_subI rfl rfl (by omega) (by omega) ?_) | (refine k_fieldAddr rfl ?_) | (refine k_eqlB rfl rfl ?_) | (refine k_neqB rfl rfl ?_) | (refine cw_cond_true rfl ?_) | (refine cw_cond_false rfl ?_) | (refine cw_cond_dec rfl (fun hc => ?_) (fun hc => ?_)) | (refine cw_cond_ndec rfl (fun hc => ?_) (fun hc => ?_)) | (refine cw_cond rfl (fun hc => ?_) (fun hc => ?_)) | (refine cw_block ?_) | (refine cw_exit ?_) | (refine then_exit ?_) | (refine in_exit ?_) | (refine in_exit_ne rfl ?_) | (refine in_normal ?_) | (refine cw_ret ?_) | (refine then_ret ?_) | (refine in_ret ?_) | (refine cw_skip ?_))
  refine k_quoI rfl rfl (by omega) (by omega) (by omega) ?_
  refine k_indexA1 (j := x / 64) rfl rfl (by omega) ?_
  refine k_loadN rfl hn.blk.sl (by omega) ?_
  repeat' (first | (refine k_pure rfl ?_) | (refine then_normal ?_) | (refine cw_seq ?_) | (refine cw_region rfl ?_) | (refine rr_nil ?_) | (refine k_len rfl ?_) | (refine g_run rfl rfl ?_) | (refine g_skip rfl rfl ?_) | (refine g_dec_f rfl rfl (fun hc => ?_) (fun hc => ?_)) | (refine g_dec_t rfl rfl (fun hc => ?_) (fun hc => ?_)) | (refine g_ndec_f rfl rfl (fun hc => ?_) (fun hc => ?_)) | (refine g_ndec_t rfl rfl (fun hc => ?_) (fun hc => ?_)) | (refine g_split rfl rfl (fun hc => ?_) (fun hc => ?_)) | (refine k_addI rfl rfl (by omega) (by omega) ?_) | (refine k_subI rfl rfl (by omega) (by omega) ?_) | (refine k_fieldAddr rfl ?_) | (refine k_eqlB rfl rfl ?_) | (refine k_neqB rfl rfl ?_) | (refine cw_cond_true rfl ?_) | (refine cw_cond_false rfl ?_) | (refine cw_cond_dec rfl (fun hc => ?_) (fun hc => ?_)) | (refine cw_cond_ndec rfl (fun hc => ?_) (fun hc => ?_)) | (refine cw_cond rfl (fun hc => ?_) (fun hc => ?_)) | (refine cw_block ?_) | (refine cw_exit ?_) | (refine then_exit ?_) | (refine in_exit ?_) | (refine in_exit_ne rfl ?_) | (refine in_normal ?_) | (refine cw_ret ?_) | (refine then_ret ?_) | (refine in_ret ?_) | (refine cw_skip ?_))
  refine k_rem rfl rfl (by omega) (by omega) ?_
  refine k_shrN (j := x % 64) rfl rfl (.inr (by simp only [IntKind.bits]; omega)) ?_
  refine k_andN (m' := 1) rfl rfl rfl (by have := hw (x / 64); have h2 := Nat.shiftRight_le (ws.getD (x/64) 0) (x % 64); simp only [IntKind.bits]; omega) (by decide) ?_
  repeat' (first | (refine k_pure rfl ?_) | (refine then_normal ?_) | (refine cw_seq ?_) | (refine cw_region rfl ?_) | (refine rr_nil ?_) | (refine k_len rfl ?_) | (refine g_run rfl rfl ?_) | (refine g_skip rfl rfl ?_) | (refine g_dec_f rfl rfl (fun hc => ?_) (fun hc => ?_)) | (refine g_dec_t rfl rfl (fun hc => ?_) (fun hc => ?_)) | (refine g_ndec_f rfl rfl (fun hc => ?_) (fun hc => ?_)) | (refine g_ndec_t rfl rfl (fun hc => ?_) (fun hc => ?_)) | (refine g_split rfl rfl (fun hc => ?_) (fun hc => ?_)) | (refine k_addI rfl rfl (by omega) (by omega) ?_) | (refine k_subI rfl rfl (by omega) (by omega) ?_) | (refine k_fieldAddr rfl ?_) | (refine k_eqlB rfl rfl ?_) | (refine k_neqB rfl rfl ?_) | (refine cw_cond_true rfl ?_) | (refine cw_cond_false rfl ?_) | (refine cw_cond_dec rfl (fun hc => ?_) (fun hc => ?_)) | (refine cw_cond_ndec rfl (fun hc => ?_) (fun hc => ?_)) | (refine cw_cond rfl (fun hc => ?_) (fun hc => ?_)) | (refine cw_block ?_) | (refine cw_exit ?_) | (refine then_exit ?_) | (refine in_exit ?_) | (refine in_exit_ne rfl ?_) | (refine in_normal ?_) | (refine cw_ret ?_) | (refine then_ret ?_) | (refine in_ret ?_) | (refine cw_skip ?_))
  refine ret1 rfl (rt rfl) ?_
  refine ⟨?_, hn.ex⟩
  exact congrArg Value.bool (decide_eq_decide.2 ((bit_eq ws x).trans (hs.mem x h1)))

theorem with_nat {ws : List Nat} {l : List Int} (hs : SetOf ws l) (x : Nat) (h1 : x < 512) (w : World) :
    CallsR Try.prog 99 #[.agg (wordsL ws).toArray, .int .i64 (x : Int)] w fun v w' => ∃ ws', v = .agg (wordsL ws').toArray ∧ SetOf ws' (l ++ [(x : Int)]) ∧ Ex w w' := by
  have hl := hs.len
  have hw := hs.lt
  refine callsR_of (args := [_, _]) Try.func99 rfl rfl ?_
  repeat' (first | (refine k_boxA rfl (fun g w' hn => ⟨fun _ _ => trivial, ?_⟩)) | (refine k_alloc (fun g2 w2 hn2 => ⟨fun _ _ => trivial, ?_⟩)) | (refine k_pure rfl ?_) | (refine then_normal ?_) | (refine cw_seq ?_) | (refine cw_region rfl ?_) | (refine rr_nil ?_) | (refine k_len rfl ?_) | (refine g_run rfl rfl ?_) | (refine g_skip rfl rfl ?_) | (refine g_dec_f rfl rfl (fun hc => ?_) (fun hc => ?_)) | (refine g_dec_t rfl rfl (fun hc => ?_) (fun hc => ?_)) | (refine g_ndec_f rfl rfl (fun hc => ?_) (fun hc => ?_)) | (refine g_ndec_t rfl rfl (fun hc => ?_) (fun hc => ?_)) | (refine g_split rfl rfl (fun hc => ?_) (fun hc => ?_)) | (refine k_addI rfl rfl (by omega) (by omega) ?_) | (refine k_subI rfl rfl (by omega) (by omega) ?_) | (refine k_fieldAddr rfl ?_) | (refine k_eqlB rfl rfl ?_) | (refine k_neqB rfl rfl ?_) | (refine cw_cond_true rfl ?_) | (refine cw_cond_false rfl ?_) | (refine cw_cond_dec rfl (fun hc => ?_) (fun hc => ?_)) | (refine cw_cond_ndec rfl (fun hc => ?_) (fun hc => ?_)) | (refine cw_cond rfl (fun hc => ?_) (fun hc => ?_)) | (refine cw_block ?_) | (refine cw_exit ?_) | (refine then_exit ?_) | (refine in_exit ?_) | (refine in_exit_ne rfl ?_) | (refine in_normal ?_) | (refine cw_ret ?_) | (refine then_ret ?_) | (refine in_ret ?_) | (refine cw_skip ?_))
  have hb := hn.blk.ext hn2.ex
  refine cw_draw (late := [9]) (plan := [(0, none), (1, none), (2, none), (3, none), (4, none), (5, none), (6, none), (7, none), (8, none), (9, some false)]) (fun w' => Blk w' g 119 (wordsL ws)) mixed (by kernel_rfl) hb ?_
  repeat' (first | (refine k_quoI rfl rfl (by omega) (by omega) (by omega) ?_) | (refine k_indexA1 (j := x / 64) rfl rfl (by omega) ?_) | (refine k_loadN rfl (fun w' hw' => hw'.sl) (by omega) ?_) | (refine k_rem rfl rfl (by omega) (by omega) ?_) | (refine k_pure rfl ?_) | (refine then_normal ?_) | (refine cw_seq ?_) | (refine cw_region rfl ?_) | (refine rr_nil ?_) | (refine k_len rfl ?_) | (refine g_run rfl rfl ?_) | (refine g_skip rfl rfl ?_) | (refine g_dec_f rfl rfl (fun hc => ?_) (fun hc => ?_)) | (refine g_dec_t rfl rfl (fun hc => ?_) (fun hc => ?_)) | (refine g_ndec_f rfl rfl (fun hc => ?_) (fun hc => ?_)) | (refine g_ndec_t rfl rfl (fun hc => ?_) (fun hc => ?_)) | (refine g_split rfl rfl (fun hc => ?_) (fun hc => ?_)) | (refine k_addI rfl rfl (by omega) (by omega) ?_) | (refine k_subI rfl rfl (by omega) (by omega) ?_) | (refine k_fieldAddr rfl ?_) | (refine k_eqlB rfl rfl ?_) | (refine k_neqB rfl rfl ?_) | (refine cw_cond_true rfl ?_) | (refine cw_cond_false rfl ?_) | (refine cw_cond_dec rfl (fun hc => ?_) (fun hc => ?_)) | (refine cw_cond_ndec rfl (fun hc => ?_) (fun hc => ?_)) | (refine cw_cond rfl (fun hc => ?_) (fun hc => ?_)) | (refine cw_block ?_) | (refine cw_exit ?_) | (refine then_exit ?_) | (refine in_exit ?_) | (refine in_exit_ne rfl ?_) | (refine in_normal ?_) | (refine cw_ret ?_) | (refine then_ret ?_) | (refine in_ret ?_) | (refine cw_skip ?_))
  refine k_shlN (m := 1) (j := x % 64) rfl rfl rfl (by simp only [IntKind.bits]; omega) ?_
  have hp : 1 <<< (x % 64) < 18446744073709551616 := by
    rw [Nat.one_shiftLeft]
    have : 2 ^ (x % 64) < 2 ^ 64 := Nat.pow_lt_pow_right (by omega) (by omega)
    omega
  rw [show (1 <<< (x % 64)) % 2 ^ IntKind.u64.bits = 1 <<< (x % 64) from Nat.mod_eq_of_lt hp]
  refine k_orN rfl rfl rfl (hw _) hp ?_
  refine k_indexA1 (j := x / 64) rfl rfl (by omega) ?_
  refine k_storeN rfl rfl hb.drew (by omega) (fun w3 hc hb3 => ⟨fun h => absurd h (by decide), ?_⟩)
  repeat' (first | (refine k_pure rfl ?_) | (refine then_normal ?_) | (refine cw_seq ?_) | (refine cw_region rfl ?_) | (refine rr_nil ?_) | (refine k_len rfl ?_) | (refine g_run rfl rfl ?_) | (refine g_skip rfl rfl ?_) | (refine g_dec_f rfl rfl (fun hc => ?_) (fun hc => ?_)) | (refine g_dec_t rfl rfl (fun hc => ?_) (fun hc => ?_)) | (refine g_ndec_f rfl rfl (fun hc => ?_) (fun hc => ?_)) | (refine g_ndec_t rfl rfl (fun hc => ?_) (fun hc => ?_)) | (refine g_split rfl rfl (fun hc => ?_) (fun hc => ?_)) | (refine k_addI rfl rfl (by omega) (by omega) ?_) | (refine k_subI rfl rfl (by omega) (by omega) ?_) | (refine k_fieldAddr rfl ?_) | (refine k_eqlB rfl rfl ?_) | (refine k_neqB rfl rfl ?_) | (refine cw_cond_true rfl ?_) | (refine cw_cond_false rfl ?_) | (refine cw_cond_dec rfl (fun hc => ?_) (fun hc => ?_)) | (refine cw_cond_ndec rfl (fun hc => ?_) (fun hc => ?_)) | (refine cw_cond rfl (fun hc => ?_) (fun hc => ?_)) | (refine cw_block ?_) | (refine cw_exit ?_) | (refine then_exit ?_) | (refine in_exit ?_) | (refine in_exit_ne rfl ?_) | (refine in_normal ?_) | (refine cw_ret ?_) | (refine then_ret ?_) | (refine in_ret ?_) | (refine cw_skip ?_))
  refine k_loadA (vs := wordsL (ws.set (x / 64) (ws.getD (x / 64) 0 ||| 1 <<< (x % 64)))) rfl (by simp [hl]) (fun j hj => by have := hb3.cell hj; simpa using this) ?_
  have hb2 : Blk w3 g2 119 (wordsL [0, 0, 0, 0, 0, 0, 0, 0]) := (hn2.blk.drew).chg hc (by have := hn.hi; have := hn2.lo; omega)
  refine k_storeV (n := 8) rfl rfl (by simp [hl]) (all_one (fun _ => rfl) _) hb2 rfl (fun w4 hc4 hb4 => ⟨fun h => absurd h (by decide), ?_⟩)
  repeat' (first | (refine k_pure rfl ?_) | (refine then_normal ?_) | (refine cw_seq ?_) | (refine cw_region rfl ?_) | (refine rr_nil ?_) | (refine k_len rfl ?_) | (refine g_run rfl rfl ?_) | (refine g_skip rfl rfl ?_) | (refine g_dec_f rfl rfl (fun hc => ?_) (fun hc => ?_)) | (refine g_dec_t rfl rfl (fun hc => ?_) (fun hc => ?_)) | (refine g_ndec_f rfl rfl (fun hc => ?_) (fun hc => ?_)) | (refine g_ndec_t rfl rfl (fun hc => ?_) (fun hc => ?_)) | (refine g_split rfl rfl (fun hc => ?_) (fun hc => ?_)) | (refine k_addI rfl rfl (by omega) (by omega) ?_) | (refine k_subI rfl rfl (by omega) (by omega) ?_) | (refine k_fieldAddr rfl ?_) | (refine k_eqlB rfl rfl ?_) | (refine k_neqB rfl rfl ?_) | (refine cw_cond_true rfl ?_) | (refine cw_cond_false rfl ?_) | (refine cw_cond_dec rfl (fun hc => ?_) (fun hc => ?_)) | (refine cw_cond_ndec rfl (fun hc => ?_) (fun hc => ?_)) | (refine cw_cond rfl (fun hc => ?_) (fun hc => ?_)) | (refine cw_block ?_) | (refine cw_exit ?_) | (refine then_exit ?_) | (refine in_exit ?_) | (refine in_exit_ne rfl ?_) | (refine in_normal ?_) | (refine cw_ret ?_) | (refine then_ret ?_) | (refine in_ret ?_) | (refine cw_skip ?_))
  refine ret1 rfl (rc rfl (by simp [hl]) hb4) ?_
  exact ⟨_, rfl, setOf_with hs h1, ((hn.ex.trans hn2.ex).drew.chg hc hn.lo).chg hc4 (by have := hn.ex.size; have := hn2.lo; omega)⟩

theorem has_spec {ws : List Nat} {l : List Int} (hs : SetOf ws l) (x : Int) (h0 : 0 ≤ x) (h1 : x < 512) (w : World) :
    CallsR Try.prog 102 #[.agg (wordsL ws).toArray, .int .i64 x] w fun v w' => v = .bool (decide (x ∈ l)) ∧ Ex w w' := by
  obtain ⟨n, rfl⟩ := Int.eq_ofNat_of_zero_le h0
  exact has_nat hs n (by omega) w
theorem with_spec {ws : List Nat} {l : List Int} (hs : SetOf ws l) (x : Int) (h0 : 0 ≤ x) (h1 : x < 512) (w : World) :
    CallsR Try.prog 99 #[.agg (wordsL ws).toArray, .int .i64 x] w fun v w' => ∃ ws', v = .agg (wordsL ws').toArray ∧ SetOf ws' (l ++ [x]) ∧ Ex w w' := by
  obtain ⟨n, rfl⟩ := Int.eq_ofNat_of_zero_le h0
  exact with_nat hs n (by omega) w
end Go.Proofs.Ythhfjagnmhhapaa

namespace Go.Proofs.Ythhfjagnmhhapaa
open Go.W Go.PM

theorem isPerm_of_good {xs : List Int} (h1 : 1 ≤ xs.length) (h2 : xs.length ≤ 512) (h : Dist xs.length xs) : decide (IsPerm xs) = true := by
  simp [IsPerm, h1, h2, h]
theorem not_isPerm {xs : List Int} {k : Nat} (hk : k < xs.length) (h : ¬ (0 ≤ xs.getD k 0 ∧ xs.getD k 0 < xs.length ∧ xs.getD k 0 ∉ xs.take k)) : decide (IsPerm xs) = false := by
  rw [decide_eq_false_iff_not]
  rintro ⟨_, _, hG⟩
  have := good_take hG (k + 1)
  rw [take_succ_getD xs 0 hk, good_snoc] at this
  exact h this.2

theorem valid_spec {xs : List Int} {a : Option Addr} {w : World} (hx : Sl w a (intsL xs)) (cap : Nat) :
    CallsR Try.prog 95 #[.slice a xs.length cap] w fun v w' => v = .bool (decide (IsPerm xs)) ∧ Ex w w' := by
  refine callsR_of (args := [_]) Try.func95 rfl rfl ?_
  repeat' (first | (refine k_alloc (fun g w1 hn => ⟨fun _ _ => trivial, ?_⟩)) | (refine k_pure rfl ?_) | (refine then_normal ?_) | (refine cw_seq ?_) | (refine cw_region rfl ?_) | (refine rr_nil ?_) | (refine k_len rfl ?_) | (refine g_run rfl rfl ?_) | (refine g_skip rfl rfl ?_) | (refine g_dec_f rfl rfl (fun hc => ?_) (fun hc => ?_)) | (refine g_dec_t rfl rfl (fun hc => ?_) (fun hc => ?_)) | (refine g_ndec_f rfl rfl (fun hc => ?_) (fun hc => ?_)) | (refine g_ndec_t rfl rfl (fun hc => ?_) (fun hc => ?_)) | (refine g_split rfl rfl (fun hc => ?_) (fun hc => ?_)) | (refine k_addI rfl rfl (by omega) (by omega) ?_) | (refine k_subI rfl rfl (by omega) (by omega) ?_) | (refine k_fieldAddr rfl ?_) | (refine k_eqlB rfl rfl ?_) | (refine k_neqB rfl rfl ?_) | (refine cw_cond_true rfl ?_) | (refine cw_cond_false rfl ?_) | (refine cw_cond_dec rfl (fun hc => ?_) (fun hc => ?_)) | (refine cw_cond_ndec rfl (fun hc => ?_) (fun hc => ?_)) | (refine cw_cond rfl (fun hc => ?_) (fun hc => ?_)) | (refine cw_block ?_) | (refine cw_exit ?_) | (refine then_exit ?_) | (refine in_exit ?_) | (refine in_exit_ne rfl ?_) | (refine in_normal ?_) | (refine cw_ret ?_) | (refine then_ret ?_) | (refine in_ret ?_) | (refine cw_skip ?_))
  · refine ret1 rfl (rt rfl) ⟨congrArg Value.bool (Eq.symm (decide_eq_false ?_)), Ex.refl _⟩
    rintro ⟨h1, h2, _⟩; omega
  · refine cw_loop (ι := Nat × List Nat) [2, 5, 16, 17, 18, 19, 20, 21, 22, 23, 24, 25, 26, 27, 28, 29, 30, 31, 32, 33, 34, 35, 36] (fun s => [(16, .int .i64 (s.1 : Int))])
      (fun s w' => s.1 ≤ xs.length ∧ Ex w w' ∧ Blk w' g 119 (wordsL s.2) ∧ SetOf s.2 (xs.take s.1) ∧ Dist xs.length (xs.take s.1)) (fun s => xs.length - s.1)
      (0, [0, 0, 0, 0, 0, 0, 0, 0]) ⟨rfl, trivial⟩ ⟨by omega, hn.ex, hn.blk, setOf_nil, good_nil _⟩ ?_
    rintro ⟨k, ws⟩ ξ w2 ⟨hk, hE, hb, hS, hG⟩
    simp only at hk hb hS hG
    show CW _ _ _ _ (over [(16, .int .i64 (k : Int))] _) w2
    repeat' (first | (refine k_indexN rfl rfl (hx.plain (by simp; omega)) (by omega) ?_) | (refine k_loadI rfl (hx.ext hE) (by omega) ?_) | (refine k_loadA (vs := wordsL ws) rfl (by simp [hS.len]) (fun j hj => by have := hb.cell hj; simpa using this) ?_) | (refine k_pure rfl ?_) | (refine then_normal ?_) | (refine cw_seq ?_) | (refine cw_region rfl ?_) | (refine rr_nil ?_) | (refine k_len rfl ?_) | (refine g_run rfl rfl ?_) | (refine g_skip rfl rfl ?_) | (refine g_dec_f rfl rfl (fun hc => ?_) (fun hc => ?_)) | (refine g_dec_t rfl rfl (fun hc => ?_) (fun hc => ?_)) | (refine g_ndec_f rfl rfl (fun hc => ?_) (fun hc => ?_)) | (refine g_ndec_t rfl rfl (fun hc => ?_) (fun hc => ?_)) | (refine g_split rfl rfl (fun hc => ?_) (fun hc => ?_)) | (refine k_addI rfl rfl (by omega) (by omega) ?_) | (refine k_subI rfl rfl (by omega) (by omega) ?_) | (refine k_fieldAddr rfl ?_) | (refine k_eqlB rfl rfl ?_) | (refine k_neqB rfl rfl ?_) | (refine cw_cond_true rfl ?_) | (refine cw_cond_false rfl ?_) | (refine cw_cond_dec rfl (fun hc => ?_) (fun hc => ?_)) | (refine cw_cond_ndec rfl (fun hc => ?_) (fun hc => ?_)) | (refine cw_cond rfl (fun hc => ?_) (fun hc => ?_)) | (refine cw_block ?_) | (refine cw_exit ?_) | (refine then_exit ?_) | (refine in_exit ?_) | (refine in_exit_ne rfl ?_) | (refine in_normal ?_) | (refine cw_ret ?_) | (refine then_ret ?_) | (refine in_ret ?_) | (refine cw_skip ?_))
    · refine k_call (has_spec hS _ (by omega) (by omega) _) rfl ?_
      rintro v w3 ⟨rfl, hE3⟩
      refine ⟨fun _ _ => trivial, ?_⟩
      replace hb := hb.ext hE3
      replace hE := hE.trans hE3
      repeat' (first | (refine k_loadA (vs := wordsL ws) rfl (by simp [hS.len]) (fun j hj => by have := hb.cell hj; simpa using this) ?_) | (refine k_pure rfl ?_) | (refine then_normal ?_) | (refine cw_seq ?_) | (refine cw_region rfl ?_) | (refine rr_nil ?_) | (refine k_len rfl ?_) | (refine g_run rfl rfl ?_) | (refine g_skip rfl rfl ?_) | (refine g_dec_f rfl rfl (fun hc => ?_) (fun hc => ?_)) | (refine g_dec_t rfl rfl (fun hc => ?_) (fun hc => ?_)) | (refine g_ndec_f rfl rfl (fun hc => ?_) (fun hc => ?_)) | (refine g_ndec_t rfl rfl (fun hc => ?_) (fun hc => ?_)) | (refine g_split rfl rfl (fun hc => ?_) (fun hc => ?_)) | (refine k_addI rfl rfl (by omega) (by omega) ?_) | (refine k_subI rfl rfl (by omega) (by omega) ?_) | (refine k_fieldAddr rfl ?_) | (refine k_eqlB rfl rfl ?_) | (refine k_neqB rfl rfl ?_) | (refine cw_cond_true rfl ?_) | (refine cw_cond_false rfl ?_) | (refine cw_cond_dec rfl (fun hc => ?_) (fun hc => ?_)) | (refine cw_cond_ndec rfl (fun hc => ?_) (fun hc => ?_)) | (refine cw_cond rfl (fun hc => ?_) (fun hc => ?_)) | (refine cw_block ?_) | (refine cw_exit ?_) | (refine then_exit ?_) | (refine in_exit ?_) | (refine in_exit_ne rfl ?_) | (refine in_normal ?_) | (refine cw_ret ?_) | (refine then_ret ?_) | (refine in_ret ?_) | (refine cw_skip ?_))
      · refine ret1 rfl (rt rfl) ⟨congrArg Value.bool (Eq.symm (not_isPerm (k := k) (by omega) ?_)), hE⟩
        exact fun h => h.2.2 hc
      · refine k_call (with_spec hS _ (by omega) (by omega) _) rfl ?_
        rintro v w4 ⟨ws', rfl, hS', hE4⟩
        refine ⟨fun _ _ => trivial, ?_⟩
        replace hb := hb.ext hE4
        replace hE := hE.trans hE4
        refine k_storeV (n := 8) rfl rfl (by simp [hS'.len]) (all_one (fun _ => rfl) _) hb (by simp [hS.len]) (fun w5 hc5 hb5 => ⟨fun _ _ => trivial, ?_⟩)
        replace hE := hE.chg hc5 hn.lo
        repeat' (first | (refine k_pure rfl ?_) | (refine then_normal ?_) | (refine cw_seq ?_) | (refine cw_region rfl ?_) | (refine rr_nil ?_) | (refine k_len rfl ?_) | (refine g_run rfl rfl ?_) | (refine g_skip rfl rfl ?_) | (refine g_dec_f rfl rfl (fun hc => ?_) (fun hc => ?_)) | (refine g_dec_t rfl rfl (fun hc => ?_) (fun hc => ?_)) | (refine g_ndec_f rfl rfl (fun hc => ?_) (fun hc => ?_)) | (refine g_ndec_t rfl rfl (fun hc => ?_) (fun hc => ?_)) | (refine g_split rfl rfl (fun hc => ?_) (fun hc => ?_)) | (refine k_addI rfl rfl (by omega) (by omega) ?_) | (refine k_subI rfl rfl (by omega) (by omega) ?_) | (refine k_fieldAddr rfl ?_) | (refine k_eqlB rfl rfl ?_) | (refine k_neqB rfl rfl ?_) | (refine cw_cond_true rfl ?_) | (refine cw_cond_false rfl ?_) | (refine cw_cond_dec rfl (fun hc => ?_) (fun hc => ?_)) | (refine cw_cond_ndec rfl (fun hc => ?_) (fun hc => ?_)) | (refine cw_cond rfl (fun hc => ?_) (fun hc => ?_)) | (refine cw_block ?_) | (refine cw_exit ?_) | (refine then_exit ?_) | (refine in_exit ?_) | (refine in_exit_ne rfl ?_) | (refine in_normal ?_) | (refine cw_ret ?_) | (refine then_ret ?_) | (refine in_ret ?_) | (refine cw_skip ?_))
        rw [← take_succ_getD xs 0 (by omega)] at hS'
        refine ⟨⟨(k + 1, ws'), ⟨by simp only; omega, hE, hb5, hS', ?_⟩, by simp only; omega, rfl, trivial⟩, ?_⟩
        · simp only
          rw [take_succ_getD xs 0 (by omega), good_snoc]
          exact ⟨hG, by omega, by omega, hc⟩
        · (repeat (first | exact agree_mask _ _ _ | refine agree_upd rfl ?_ | refine agree_updO rfl ?_ | refine agree_overIn rfl ?_ | refine agree_maskIn rfl ?_))
    · refine ret1 rfl (rt rfl) ⟨congrArg Value.bool (Eq.symm (not_isPerm (k := k) (by omega) ?_)), hE⟩
      omega
    · refine ret1 rfl (rt rfl) ⟨congrArg Value.bool (Eq.symm (not_isPerm (k := k) (by omega) ?_)), hE⟩
      omega
    · refine ret1 rfl (rt rfl) ⟨congrArg Value.bool (Eq.symm (isPerm_of_good (by omega) (by omega) ?_)), hE⟩
      rw [List.take_of_length_le (by omega)] at hG
      exact hG
  · refine ret1 rfl (rt rfl) ⟨congrArg Value.bool (Eq.symm (decide_eq_false ?_)), Ex.refl _⟩
    rintro ⟨h1, h2, _⟩; omega
end Go.Proofs.Ythhfjagnmhhapaa

namespace Go.Proofs.Ythhfjagnmhhapaa
open Go.W Go.PM

theorem same_spec {xs ys : List Int} {a a' : Option Addr} {w : World} (hx : Sl w a (intsL xs)) (hy : Sl w a' (intsL ys)) (cap cap' : Nat) (hlx : xs.length ≤ 9223372036854775807) :
    CallsR Try.prog 32 #[.slice a xs.length cap, .slice a' ys.length cap'] w fun v w' => v = .bool (decide (xs = ys)) ∧ Ex w w' := by
  refine callsR_of (args := [_, _]) Try.func32 rfl rfl ?_
  repeat' (first | (refine k_pure rfl ?_) | (refine then_normal ?_) | (refine cw_seq ?_) | (refine cw_region rfl ?_) | (refine rr_nil ?_) | (refine k_len rfl ?_) | (refine g_run rfl rfl ?_) | (refine g_skip rfl rfl ?_) | (refine g_dec_f rfl rfl (fun hc => ?_) (fun hc => ?_)) | (refine g_dec_t rfl rfl (fun hc => ?_) (fun hc => ?_)) | (refine g_ndec_f rfl rfl (fun hc => ?_) (fun hc => ?_)) | (refine g_ndec_t rfl rfl (fun hc => ?_) (fun hc => ?_)) | (refine g_split rfl rfl (fun hc => ?_) (fun hc => ?_)) | (refine k_addI rfl rfl (by omega) (by omega) ?_) | (refine k_subI rfl rfl (by omega) (by omega) ?_) | (refine k_fieldAddr rfl ?_) | (refine k_eqlB rfl rfl ?_) | (refine k_neqB rfl rfl ?_) | (refine cw_cond_true rfl ?_) | (refine cw_cond_false rfl ?_) | (refine cw_cond_dec rfl (fun hc => ?_) (fun hc => ?_)) | (refine cw_cond_ndec rfl (fun hc => ?_) (fun hc => ?_)) | (refine cw_cond rfl (fun hc => ?_) (fun hc => ?_)) | (refine cw_block ?_) | (refine cw_exit ?_) | (refine then_exit ?_) | (refine in_exit ?_) | (refine in_exit_ne rfl ?_) | (refine in_normal ?_) | (refine cw_ret ?_) | (refine then_ret ?_) | (refine in_ret ?_) | (refine cw_skip ?_))
  · refine ret1 rfl (rt rfl) ⟨congrArg Value.bool (Eq.symm (decide_eq_false ?_)), Ex.refl _⟩
    rintro rfl; exact hc rfl
  · have hl : xs.length = ys.length := by omega
    refine cw_loop (ι := Nat) [4, 5, 13, 14, 15, 16, 17, 18, 19, 20, 21, 22, 23, 24, 25] (fun k => [(13, .int .i64 (k : Int))])
      (fun k w' => k ≤ xs.length ∧ Ex w w' ∧ xs.take k = ys.take k) (fun k => xs.length - k) 0 ⟨rfl, trivial⟩ ⟨by omega, Ex.refl _, rfl⟩ ?_
    rintro k ξ w2 ⟨hk, hE, hT⟩
    repeat' (first | (refine k_pure rfl ?_) | (refine then_normal ?_) | (refine cw_seq ?_) | (refine cw_region rfl ?_) | (refine rr_nil ?_) | (refine k_len rfl ?_) | (refine g_run rfl rfl ?_) | (refine g_skip rfl rfl ?_) | (refine g_dec_f rfl rfl (fun hc => ?_) (fun hc => ?_)) | (refine g_dec_t rfl rfl (fun hc => ?_) (fun hc => ?_)) | (refine g_ndec_f rfl rfl (fun hc => ?_) (fun hc => ?_)) | (refine g_ndec_t rfl rfl (fun hc => ?_) (fun hc => ?_)) | (refine g_split rfl rfl (fun hc => ?_) (fun hc => ?_)) | (refine k_addI rfl rfl (by omega) (by omega) ?_) | (refine k_subI rfl rfl (by omega) (by omega) ?_) | (refine k_fieldAddr rfl ?_) | (refine k_eqlB rfl rfl ?_) | (refine k_neqB rfl rfl ?_) | (refine cw_cond_true rfl ?_) | (refine cw_cond_false rfl ?_) | (refine cw_cond_dec rfl (fun hc => ?_) (fun hc => ?_)) | (refine cw_cond_ndec rfl (fun hc => ?_) (fun hc => ?_)) | (refine cw_cond rfl (fun hc => ?_) (fun hc => ?_)) | (refine cw_block ?_) | (refine cw_exit ?_) | (refine then_exit ?_) | (refine in_exit ?_) | (refine in_exit_ne rfl ?_) | (refine in_normal ?_) | (refine cw_ret ?_) | (refine then_ret ?_) | (refine in_ret ?_) | (refine cw_skip ?_))
    · refine cw_draw (late := []) (plan := [(0, none), (1, none), (2, none), (3, none), (4, none), (5, none), (6, none), (7, none), (8, none)]) (fun w' => Ex w w') mixed (by kernel_rfl) hE.drew ?_
      repeat' (first | (refine k_indexN rfl rfl (hx.plain (by simp; omega)) (by omega) ?_) | (refine k_indexN rfl rfl (hy.plain (by simp; omega)) (by omega) ?_) | (refine k_loadI rfl (fun _ h => hx.ext h) (by omega) ?_) | (refine k_loadI rfl (fun _ h => hy.ext h) (by omega) ?_) | (refine k_pure rfl ?_) | (refine then_normal ?_) | (refine cw_seq ?_) | (refine cw_region rfl ?_) | (refine rr_nil ?_) | (refine k_len rfl ?_) | (refine g_run rfl rfl ?_) | (refine g_skip rfl rfl ?_) | (refine g_dec_f rfl rfl (fun hc => ?_) (fun hc => ?_)) | (refine g_dec_t rfl rfl (fun hc => ?_) (fun hc => ?_)) | (refine g_ndec_f rfl rfl (fun hc => ?_) (fun hc => ?_)) | (refine g_ndec_t rfl rfl (fun hc => ?_) (fun hc => ?_)) | (refine g_split rfl rfl (fun hc => ?_) (fun hc => ?_)) | (refine k_addI rfl rfl (by omega) (by omega) ?_) | (refine k_subI rfl rfl (by omega) (by omega) ?_) | (refine k_fieldAddr rfl ?_) | (refine k_eqlB rfl rfl ?_) | (refine k_neqB rfl rfl ?_) | (refine cw_cond_true rfl ?_) | (refine cw_cond_false rfl ?_) | (refine cw_cond_dec rfl (fun hc => ?_) (fun hc => ?_)) | (refine cw_cond_ndec rfl (fun hc => ?_) (fun hc => ?_)) | (refine cw_cond rfl (fun hc => ?_) (fun hc => ?_)) | (refine cw_block ?_) | (refine cw_exit ?_) | (refine then_exit ?_) | (refine in_exit ?_) | (refine in_exit_ne rfl ?_) | (refine in_normal ?_) | (refine cw_ret ?_) | (refine then_ret ?_) | (refine in_ret ?_) | (refine cw_skip ?_))
      · refine ret1 rfl (rt rfl) ⟨congrArg Value.bool (Eq.symm (decide_eq_false ?_)), hE.drew⟩
        rintro rfl; exact hc rfl
      · refine ⟨⟨k + 1, ⟨by omega, hE.drew, ?_⟩, by omega, rfl, trivial⟩, (by (repeat (first | exact agree_mask _ _ _ | refine agree_upd rfl ?_ | refine agree_updO rfl ?_ | refine agree_overIn rfl ?_ | refine agree_maskIn rfl ?_)))⟩
        rw [take_succ_getD xs 0 (by omega), take_succ_getD ys 0 (by omega), hT, Decidable.not_not.1 hc]
    · refine ret1 rfl (rt rfl) ⟨congrArg Value.bool (Eq.symm (decide_eq_true ?_)), hE⟩
      rwa [List.take_of_length_le (by omega), List.take_of_length_le (by omega)] at hT

end Go.Proofs.Ythhfjagnmhhapaa

namespace Go.PM
def invTo (p : List Int) : Nat → List Int
  | 0 => List.replicate p.length 0
  | k + 1 => (invTo p k).set (p.getD k 0).toNat (k : Int)
theorem invTo_len (p : List Int) : ∀ k, (invTo p k).length = p.length
  | 0 => by simp [invTo]
  | k + 1 => by simp [invTo, invTo_len p k]
end Go.PM
namespace Go.Proofs.Ythhfjagnmhhapaa
open Go.W Go.PM

end Go.Proofs.Ythhfjagnmhhapaa

/- Breadth-first search over the images of a point under permutations, in plain mathematics. -/
namespace Go.PM

theorem length_le_of_subset {m l : List Int} (hl : l.Nodup) (h : ∀ x ∈ l, x ∈ m) : l.length ≤ m.length := by
  induction l generalizing m with
  | nil => simp
  | cons x l ih =>
    have hx := h x (by simp)
    rw [List.nodup_cons] at hl
    have := ih (m := m.erase x) hl.2 (fun y hy => by
      have hne : y ≠ x := fun e => hl.1 (e ▸ hy)
      exact (List.mem_erase_of_ne hne).2 (h y (by simp [hy])))
    rw [List.length_erase_of_mem hx] at this
    have := List.length_pos_of_mem hx
    simp only [List.length_cons]; omega
theorem Dist.length_le {n : Nat} {l : List Int} (h : Dist n l) : l.length ≤ n := by
  have := length_le_of_subset (m := idList n) h.2 (fun x hx => by
    obtain ⟨h0, h1⟩ := h.1 x hx
    rw [mem_iff_getD]
    exact ⟨x.toNat, by rw [idList_length]; omega, by rw [idList_getD (by omega)]; omega⟩)
  rwa [idList_length] at this

/-- the generators are permutations of n points -/
def Gens (n : Nat) (gens : List (List Int)) : Prop := ∀ p ∈ gens, p.length = n ∧ IsPerm p
end Go.PM
namespace Go.PM
end Go.PM
namespace Go.PM
/-! sets joined word by word -/
/-! all orbits -/
end Go.PM

/- Iterates and cycles of a permutation, in plain mathematics. -/
namespace Go.PM
def In (p : List Int) (x : Int) : Prop := 0 ≤ x ∧ x < p.length
def ap (p : List Int) (x : Int) : Int := p.getD x.toNat 0
def it (p : List Int) : Nat → Int → Int
  | 0, x => x
  | k + 1, x => ap p (it p k x)
theorem ap_in {p : List Int} (hp : IsPerm p) {x : Int} (h : In p x) : In p (ap p x) := hp.lt (k := x.toNat) (by unfold In at h; omega)
theorem ap_inj {p : List Int} (hp : IsPerm p) {x y : Int} (hx : In p x) (hy : In p y) (h : ap p x = ap p y) : x = y := by
  have hn := nodup_iff.1 hp.2.2.2
  unfold In at hx hy
  rcases Int.lt_trichotomy x y with h' | h' | h'
  · exact absurd h (hn x.toNat y.toNat (by omega) (by omega))
  · exact h'
  · exact absurd h.symm (hn y.toNat x.toNat (by omega) (by omega))
theorem it_in {p : List Int} (hp : IsPerm p) {x : Int} (h : In p x) : ∀ k, In p (it p k x)
  | 0 => h
  | k + 1 => ap_in hp (it_in hp h k)
theorem it_add (p : List Int) (a : Nat) (x : Int) : ∀ b, it p (b + a) x = it p b (it p a x)
  | 0 => by rw [Nat.zero_add]; rfl
  | b + 1 => by rw [show b + 1 + a = (b + a) + 1 by omega]; simp only [it]; rw [it_add p a x b]
theorem it_inj {p : List Int} (hp : IsPerm p) {x y : Int} (hx : In p x) (hy : In p y) : ∀ k, it p k x = it p k y → x = y
  | 0, h => h
  | k + 1, h => it_inj hp hx hy k (ap_inj hp (it_in hp hx k) (it_in hp hy k) h)
def itL (p : List Int) (x : Int) (L : Nat) : List Int := (List.range L).map fun k => it p k x
theorem itL_length (p : List Int) (x : Int) (L : Nat) : (itL p x L).length = L := by simp [itL]
theorem itL_succ (p : List Int) (x : Int) (L : Nat) : itL p x (L + 1) = itL p x L ++ [it p L x] := by simp [itL, List.range_succ]
theorem itL_getD {p : List Int} {x : Int} {L k : Nat} (h : k < L) : (itL p x L).getD k 0 = it p k x := by simp [itL, List.getD_eq_getElem?_getD, h]
theorem mem_itL {p : List Int} {x y : Int} {L : Nat} : y ∈ itL p x L ↔ ∃ k, k < L ∧ it p k x = y := by simp [itL]
theorem itL_dist {p : List Int} (hp : IsPerm p) {x : Int} (hx : In p x) {L : Nat} (h : (itL p x L).Nodup) : Dist p.length (itL p x L) :=
  ⟨fun y hy => by obtain ⟨k, _, rfl⟩ := mem_itL.1 hy; exact it_in hp hx k, h⟩
/-- the first iterate that comes a second time is the point itself -/
theorem first_back {p : List Int} (hp : IsPerm p) {x : Int} (hx : In p x) {k : Nat} (hn : (itL p x k).Nodup) : it p k x ∈ itL p x k ↔ 0 < k ∧ it p k x = x := by
  constructor
  · intro h
    obtain ⟨j, hj, e⟩ := mem_itL.1 h
    refine ⟨by omega, ?_⟩
    cases j with
    | zero => exact e.symm
    | succ j =>
      exfalso
      obtain ⟨k, rfl⟩ : ∃ k', k = k' + 1 := ⟨k - 1, by omega⟩
      have := ap_inj hp (it_in hp hx j) (it_in hp hx k) e
      have hn' := nodup_iff.1 hn j k (by omega) (by rw [itL_length]; omega)
      rw [itL_getD (by omega), itL_getD (by omega)] at hn'
      exact hn' this
  · rintro ⟨h0, e⟩
    exact mem_itL.2 ⟨0, h0, e.symm⟩
def followC (p : List Int) : Nat → Int → List Int → List Int
  | 0, _, acc => acc
  | f + 1, y, acc => if y ∈ acc then acc else followC p f (p.getD y.toNat 0) (acc ++ [y])
def cyc (p : List Int) (x : Int) : List Int := followC p (p.length + 1) x []
theorem follow_spec {p : List Int} (hp : IsPerm p) {x : Int} (hx : In p x) : ∀ (f k : Nat), k + f = p.length + 1 → (itL p x k).Nodup →
    ∃ L, 1 ≤ L ∧ L ≤ p.length ∧ followC p f (it p k x) (itL p x k) = itL p x L ∧ it p L x = x ∧ (itL p x L).Nodup
  | 0, k, hk, hn => by
    have := (itL_dist hp hx hn).length_le
    rw [itL_length] at this; omega
  | f + 1, k, hk, hn => by
    rw [followC]
    by_cases h : it p k x ∈ itL p x k
    · have hl := (itL_dist hp hx hn).length_le
      rw [itL_length] at hl
      obtain ⟨h0, h1⟩ := (first_back hp hx hn).1 h
      exact ⟨k, h0, hl, by rw [if_pos h], h1, hn⟩
    · rw [if_neg h, ← itL_succ]
      refine follow_spec hp hx f (k + 1) (by omega) ?_
      rw [itL_succ, List.nodup_append]
      exact ⟨hn, by simp, fun a ha b hb e => by simp only [List.mem_singleton] at hb; subst hb; subst e; exact h ha⟩
def per (p : List Int) (x : Int) : Nat := (cyc p x).length
theorem cyc_spec {p : List Int} (hp : IsPerm p) {x : Int} (hx : In p x) : 1 ≤ per p x ∧ per p x ≤ p.length ∧ cyc p x = itL p x (per p x) ∧ it p (per p x) x = x ∧ (itL p x (per p x)).Nodup := by
  obtain ⟨L, h1, h2, h3, h4, h5⟩ := follow_spec hp hx (p.length + 1) 0 (by omega) (by simp [itL])
  have e : per p x = L := by
    unfold per cyc
    rw [show followC p (p.length + 1) x [] = itL p x L from h3, itL_length]
  rw [e]
  exact ⟨h1, h2, h3, h4, h5⟩
theorem it_mul {p : List Int} {x : Int} {L : Nat} (h : it p L x = x) : ∀ m, it p (m * L) x = x
  | 0 => by rw [Nat.zero_mul]; rfl
  | m + 1 => by rw [Nat.succ_mul, it_add, h, it_mul h m]
theorem it_mod {p : List Int} {x : Int} {L : Nat} (h : it p L x = x) (k : Nat) : it p k x = it p (k % L) x := by
  conv => lhs; rw [← Nat.mod_add_div k L, Nat.mul_comm L, it_add, it_mul h]
theorem it_eq_iff {p : List Int} (hp : IsPerm p) {x : Int} (hx : In p x) (k : Nat) : it p k x = x ↔ per p x ∣ k := by
  obtain ⟨h1, h2, h3, h4, h5⟩ := cyc_spec hp hx
  constructor
  · intro h
    rw [it_mod h4] at h
    rcases Nat.eq_zero_or_pos (k % per p x) with h0 | h0
    · exact Nat.dvd_of_mod_eq_zero h0
    · exfalso
      have := nodup_iff.1 h5 0 (k % per p x) h0 (by rw [itL_length]; exact Nat.mod_lt _ (by omega))
      rw [itL_getD (by omega), itL_getD (Nat.mod_lt _ (by omega))] at this
      exact this h.symm
  · rintro ⟨m, rfl⟩
    rw [Nat.mul_comm]; exact it_mul h4 m
theorem mem_cyc {p : List Int} (hp : IsPerm p) {x y : Int} (hx : In p x) : y ∈ cyc p x ↔ ∃ k, it p k x = y := by
  obtain ⟨h1, h2, h3, h4, h5⟩ := cyc_spec hp hx
  rw [h3, mem_itL]
  constructor
  · rintro ⟨k, _, e⟩; exact ⟨k, e⟩
  · rintro ⟨k, e⟩; exact ⟨k % per p x, Nat.mod_lt _ (by omega), by rw [← it_mod h4]; exact e⟩
theorem cyc_self {p : List Int} (hp : IsPerm p) {x : Int} (hx : In p x) : x ∈ cyc p x := (mem_cyc hp hx).2 ⟨0, rfl⟩
theorem cyc_in {p : List Int} (hp : IsPerm p) {x y : Int} (hx : In p x) (h : y ∈ cyc p x) : In p y := by obtain ⟨k, rfl⟩ := (mem_cyc hp hx).1 h; exact it_in hp hx k
theorem cyc_symm {p : List Int} (hp : IsPerm p) {x y : Int} (hx : In p x) (h : y ∈ cyc p x) : x ∈ cyc p y := by
  have hy := cyc_in hp hx h
  obtain ⟨h1, h2, h3, h4, h5⟩ := cyc_spec hp hx
  rw [h3] at h
  obtain ⟨k, hk, rfl⟩ := mem_itL.1 h
  exact (mem_cyc hp hy).2 ⟨per p x - k, by rw [← it_add, show per p x - k + k = per p x by omega, h4]⟩
theorem cyc_trans {p : List Int} (hp : IsPerm p) {x y z : Int} (hx : In p x) (h : y ∈ cyc p x) (h' : z ∈ cyc p y) : z ∈ cyc p x := by
  have hy := cyc_in hp hx h
  obtain ⟨k, rfl⟩ := (mem_cyc hp hx).1 h
  obtain ⟨m, rfl⟩ := (mem_cyc hp hy).1 h'
  exact (mem_cyc hp hx).2 ⟨m + k, it_add p k x m⟩
theorem per_one {p : List Int} (hp : IsPerm p) {x : Int} (hx : In p x) : per p x ≤ 1 ↔ ap p x = x := by
  have h := (cyc_spec hp hx).1
  have hi := it_eq_iff hp hx 1
  constructor
  · intro h'; exact hi.2 ⟨1, by omega⟩
  · intro h'; exact Nat.le_of_dvd (by omega) (hi.1 h')
/-! the list of the cycles, as the program finds them -/
def cycGo (p : List Int) : Nat → List Int × List (List Int)
  | 0 => ([], [])
  | k + 1 => if (k : Int) ∈ (cycGo p k).1 ∨ p.getD k 0 = k then cycGo p k else ((cycGo p k).1 ++ cyc p k, (cycGo p k).2 ++ [cyc p k])
def cyclesF (p : List Int) : List (List Int) := if IsPerm p then (cycGo p p.length).2 else []
/-! the same list, as the reference finds it -/
def leastB (l : List Int) : Bool := l.all fun y => decide (l.getD 0 0 ≤ y)
def cycSel (p : List Int) (k : Nat) : Bool := decide (1 < (cyc p k).length) && leastB (cyc p k)
def cycR (p : List Int) : Nat → List (List Int)
  | 0 => []
  | k + 1 => if cycSel p k then cycR p k ++ [cyc p k] else cycR p k
theorem cyc_head {p : List Int} (hp : IsPerm p) {x : Int} (hx : In p x) : (cyc p x).getD 0 0 = x := by
  obtain ⟨h1, h2, h3, h4, h5⟩ := cyc_spec hp hx
  rw [h3, itL_getD (by omega)]; rfl
theorem least_iff {p : List Int} (hp : IsPerm p) {x : Int} (hx : In p x) : leastB (cyc p x) = true ↔ ∀ y ∈ cyc p x, x ≤ y := by
  unfold leastB
  rw [cyc_head hp hx, List.all_eq_true]
  simp
/-- what is seen ahead of point k: the points of cycles with a point below k that moves -/
theorem mem_seen {p : List Int} (hp : IsPerm p) : ∀ k, k ≤ p.length → ∀ y, y ∈ (cycGo p k).1 ↔ ∃ j : Nat, j < k ∧ ap p j ≠ j ∧ y ∈ cyc p j
  | 0, _, y => by simp [cycGo]
  | k + 1, hk, y => by
    have ih := mem_seen hp k (by omega)
    have hkin : In p (k : Int) := by unfold In; omega
    rw [cycGo]
    split
    · rename_i h
      rw [ih y]
      constructor
      · rintro ⟨j, hj, h1, h2⟩; exact ⟨j, by omega, h1, h2⟩
      · rintro ⟨j, hj, h1, h2⟩
        by_cases hjk : j = k
        · subst hjk
          rcases h with h | h
          · obtain ⟨i, hi, h3, h4⟩ := (ih _).1 h
            have hin : In p (i : Int) := by unfold In; omega
            exact ⟨i, hi, h3, cyc_trans hp hin h4 h2⟩
          · exact absurd (by unfold ap; simpa using h) h1
        · exact ⟨j, by omega, h1, h2⟩
    · rename_i h
      simp only [List.mem_append, ih y]
      constructor
      · rintro (⟨j, hj, h1, h2⟩ | h2)
        · exact ⟨j, by omega, h1, h2⟩
        · exact ⟨k, by omega, fun e => h (.inr (by unfold ap at e; simpa using e)), h2⟩
      · rintro ⟨j, hj, h1, h2⟩
        by_cases hjk : j = k
        · subst hjk; exact .inr h2
        · exact .inl ⟨j, by omega, h1, h2⟩
theorem cycSel_iff {p : List Int} (hp : IsPerm p) {k : Nat} (hk : k < p.length) : cycSel p k = true ↔ ¬ ((k : Int) ∈ (cycGo p k).1 ∨ p.getD k 0 = k) := by
  have hin : In p (k : Int) := by unfold In; omega
  have h1 := per_one hp hin
  have e : ap p (k : Int) = p.getD k 0 := by unfold ap; simp
  rw [e] at h1
  unfold cycSel
  rw [Bool.and_eq_true, decide_eq_true_eq, least_iff hp hin, mem_seen hp k (by omega)]
  show 1 < per p k ∧ _ ↔ _
  constructor
  · rintro ⟨h2, h3⟩ (⟨j, hj, h4, h5⟩ | h4)
    · have hj' : In p (j : Int) := by unfold In; omega
      have := h3 j (cyc_symm hp hj' h5)
      omega
    · have := h1.2 h4; omega
  · intro h
    rw [not_or] at h
    have h2 : 1 < per p k := by
      rcases Nat.lt_or_ge 1 (per p k) with h' | h'
      · exact h'
      · exact absurd (h1.1 h') h.2
    refine ⟨h2, fun y hy => ?_⟩
    rcases Int.lt_or_le y k with hlt | hle
    · exfalso
      have hy' := cyc_in hp hin hy
      obtain ⟨j, rfl⟩ := Int.eq_ofNat_of_zero_le hy'.1
      have hc := cyc_symm hp hin hy
      refine h.1 ⟨j, by omega, fun e2 => ?_, hc⟩
      have h3 := (per_one hp hy').2 e2
      obtain ⟨m, hm⟩ := (mem_cyc hp hy').1 hc
      have h4 := (cyc_spec hp hy').1
      have : per p (j : Int) = 1 := by omega
      have h5 := (it_eq_iff hp hy' m).2 (by rw [this]; exact Nat.one_dvd m)
      rw [h5] at hm
      omega
    · exact hle
theorem cycR_eq {p : List Int} (hp : IsPerm p) : ∀ k, k ≤ p.length → cycR p k = (cycGo p k).2
  | 0, _ => rfl
  | k + 1, hk => by
    rw [cycR, cycGo, cycR_eq hp k (by omega)]
    by_cases h : cycSel p k = true
    · rw [if_pos h, if_neg ((cycSel_iff hp (by omega)).1 h)]
    · rw [if_neg h, if_pos (by
        by_cases h2 : ((k : Int) ∈ (cycGo p k).1 ∨ p.getD k 0 = k)
        · exact h2
        · exact absurd ((cycSel_iff hp (by omega)).2 h2) h)]
end Go.PM

/- The order of a permutation, in plain mathematics. -/
namespace Go.PM
def ordTo (l : List (List Int)) : Nat → Nat
  | 0 => 1
  | k + 1 => ordTo l k * ((l.getD k []).length / Nat.gcd (ordTo l k) (l.getD k []).length)
def orderF (p : List Int) : Nat := ordTo (cyclesF p) (cyclesF p).length
/-- the cycles are parts of the points, and none is empty -/
theorem cycGo_dist {p : List Int} (hp : IsPerm p) : ∀ k, k ≤ p.length → Dist p.length (cycGo p k).1 ∧ (cycGo p k).1 = (cycGo p k).2.flatten ∧ ∀ c ∈ (cycGo p k).2, ∃ j : Nat, j < k ∧ ap p j ≠ j ∧ c = cyc p j
  | 0, _ => by simp [cycGo, good_nil]
  | k + 1, hk => by
    obtain ⟨h1, h2, h3⟩ := cycGo_dist hp k (by omega)
    rw [cycGo]
    split
    · exact ⟨h1, h2, fun c hc => by obtain ⟨j, hj, h4⟩ := h3 c hc; exact ⟨j, by omega, h4⟩⟩
    · rename_i h
      rw [not_or] at h
      have hin : In p (k : Int) := by unfold In; omega
      obtain ⟨c1, c2, c3, c4, c5⟩ := cyc_spec hp hin
      have hd := itL_dist hp hin c5
      rw [← c3] at hd
      refine ⟨⟨fun y hy => ?_, ?_⟩, ?_, fun c hc => ?_⟩
      · rcases List.mem_append.1 hy with h' | h'
        · exact h1.1 y h'
        · exact hd.1 y h'
      · rw [List.nodup_append]
        refine ⟨h1.2, hd.2, fun a ha b hb e => ?_⟩
        subst e
        apply h.1
        rw [mem_seen hp k (by omega)] at ha ⊢
        obtain ⟨j, hj, h4, h5⟩ := ha
        have hj' : In p (j : Int) := by unfold In; omega
        exact ⟨j, hj, h4, cyc_trans hp hj' h5 (cyc_symm hp hin hb)⟩
      · rw [List.flatten_append, ← h2]; simp
      · rcases List.mem_append.1 hc with h' | h'
        · obtain ⟨j, hj, h4⟩ := h3 c h'; exact ⟨j, by omega, h4⟩
        · simp only [List.mem_singleton] at h'
          exact ⟨k, by omega, fun e => h.2 (by unfold ap at e; simpa using e), h'⟩
theorem cycles_mem {p : List Int} (k : Nat) (hk : k < (cyclesF p).length) : IsPerm p ∧ ∃ j : Nat, j < p.length ∧ ap p j ≠ j ∧ (cyclesF p).getD k [] = cyc p j := by
  by_cases hp : IsPerm p
  · have e : cyclesF p = (cycGo p p.length).2 := by rw [cyclesF, if_pos hp]
    obtain ⟨_, _, h3⟩ := cycGo_dist hp p.length (Nat.le_refl _)
    rw [e] at hk ⊢
    exact ⟨hp, h3 _ (getD_mem hk)⟩
  · rw [cyclesF, if_neg hp] at hk; simp at hk
theorem cycles_ne {p : List Int} (k : Nat) (hk : k < (cyclesF p).length) : 1 ≤ ((cyclesF p).getD k []).length := by
  obtain ⟨hp, j, hj, h1, h2⟩ := cycles_mem k hk
  rw [h2]
  exact (cyc_spec hp (x := (j : Int)) (by unfold In; omega)).1
end Go.PM

