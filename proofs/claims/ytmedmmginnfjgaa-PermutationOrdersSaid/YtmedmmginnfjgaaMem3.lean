import Derived.Test.YtmedmmginnfjgaaMem2
namespace Go.W
section
variable {P : Program} {S : World → Prop} {ops : List Oper} {K : Env → World → Prop} {rest : List (Oper × Option Bool)} {ρ : Env} {w : World} {b : Option Bool} {kf : Bool} {d : Nat} {dst : Option Nat} {T T' : TypeId} {pos : String} {af : Array Edge}
variable {x y : Operand} {k : IntKind} {m m' : Int} {T'' : TypeId}
theorem k_lssT (hx : ev ρ x = .int k m) (hy : ev ρ y = .int k m') (hd : m < m') (h : RR P S ops K rest (upd ρ d (.bool true)) w) : RR P S ops K ((⟨some d, .binOp .lss T' x y T'', T, pos, af, none⟩, b) :: rest) ρ w :=
  k_lss hx hy (by rw [decide_eq_true hd]; exact h)
theorem k_leqT (hx : ev ρ x = .int k m) (hy : ev ρ y = .int k m') (hd : m ≤ m') (h : RR P S ops K rest (upd ρ d (.bool true)) w) : RR P S ops K ((⟨some d, .binOp .leq T' x y T'', T, pos, af, none⟩, b) :: rest) ρ w :=
  k_leq hx hy (by rw [decide_eq_true hd]; exact h)
theorem k_lssF (hx : ev ρ x = .int k m) (hy : ev ρ y = .int k m') (hd : m' ≤ m) (h : RR P S ops K rest (upd ρ d (.bool false)) w) : RR P S ops K ((⟨some d, .binOp .lss T' x y T'', T, pos, af, none⟩, b) :: rest) ρ w :=
  k_lss hx hy (by rw [decide_eq_false (by omega)]; exact h)
theorem k_geqF (hx : ev ρ x = .int k m) (hy : ev ρ y = .int k m') (hd : m < m') (h : RR P S ops K rest (upd ρ d (.bool false)) w) : RR P S ops K ((⟨some d, .binOp .geq T' x y T'', T, pos, af, none⟩, b) :: rest) ρ w :=
  k_geq hx hy (by rw [decide_eq_false (by omega)]; exact h)
theorem k_gtrT (hx : ev ρ x = .int k m) (hy : ev ρ y = .int k m') (hd : m' < m) (h : RR P S ops K rest (upd ρ d (.bool true)) w) : RR P S ops K ((⟨some d, .binOp .gtr T' x y T'', T, pos, af, none⟩, b) :: rest) ρ w :=
  k_gtr hx hy (by rw [decide_eq_true hd]; exact h)
theorem k_eqF (hx : ev ρ x = .int k m) (hy : ev ρ y = .int k m') (hd : m ≠ m') (h : RR P S ops K rest (upd ρ d (.bool false)) w) : RR P S ops K ((⟨some d, .binOp .eql T' x y T'', T, pos, af, none⟩, b) :: rest) ρ w :=
  k_eql hx hy (by rw [decide_eq_false hd]; exact h)
theorem k_neF (hx : ev ρ x = .int k m) (hy : ev ρ y = .int k m') (hd : m = m') (h : RR P S ops K rest (upd ρ d (.bool false)) w) : RR P S ops K ((⟨some d, .binOp .neq T' x y T'', T, pos, af, none⟩, b) :: rest) ρ w :=
  k_neq hx hy (by rw [decide_eq_false (by simpa using hd)]; exact h)
theorem k_eqT (hx : ev ρ x = .int k m) (hy : ev ρ y = .int k m') (hd : m = m') (h : RR P S ops K rest (upd ρ d (.bool true)) w) : RR P S ops K ((⟨some d, .binOp .eql T' x y T'', T, pos, af, none⟩, b) :: rest) ρ w :=
  k_eql hx hy (by rw [decide_eq_true hd]; exact h)
theorem k_gtrF (hx : ev ρ x = .int k m) (hy : ev ρ y = .int k m') (hd : m ≤ m') (h : RR P S ops K rest (upd ρ d (.bool false)) w) : RR P S ops K ((⟨some d, .binOp .gtr T' x y T'', T, pos, af, none⟩, b) :: rest) ρ w :=
  k_gtr hx hy (by rw [decide_eq_false (by omega)]; exact h)
end
end Go.W
namespace Go.W
theorem k_loadBv {P : Program} {S : World → Prop} {ops : List Oper} {K : Env → World → Prop} {rest : List (Oper × Option Bool)} {ρ : Env} {w : World} {b : Option Bool} {d : Nat} {T : TypeId} {pos : String} {af : Array Edge}
    {x : Operand} {T1 : TypeId} {a : Option Addr} {j : Nat} {xs : List Bool} {c : Bool} [Scal P T1] (hx : ev ρ x = .pointer (some (elt a j))) (hs : Rd b S w fun w' => Sl w' a (xs.map Value.bool))
    (hj : j < xs.length) (hv : xs.getD j false = c) (h : RR P S ops K rest (upd ρ d (.bool c)) w) : RR P S ops K ((⟨some d, .load T1 x, T, pos, af, none⟩, b) :: rest) ρ w :=
  k_loadB hx hs hj (by rw [hv]; exact h)
end Go.W
namespace Go.W
/-- a field of a struct's value -/
theorem k_field {P : Program} {S : World → Prop} {ops : List Oper} {K : Env → World → Prop} {rest : List (Oper × Option Bool)} {ρ : Env} {w : World} {b : Option Bool} {d : Nat} {T T' : TypeId} {pos : String} {af : Array Edge}
    {x : Operand} {f ft off : Nat} {cs : List Value} {v : Value} (hf : (match P.underlying T' with | some (.struct fs) => (fs[f]?).map (fun g => (g.type, g.offset)) | _ => none) = some (ft, off)) [Scal P ft]
    (hx : ev ρ x = .agg cs.toArray) (hv : cs[off]? = some v) (h : RR P S ops K rest (upd ρ d v) w) : RR P S ops K ((⟨some d, .field T' x f, T, pos, af, none⟩, b) :: rest) ρ w := by
  refine rr_pure rfl (fun w' => ?_) h
  split at hf
  · rename_i fs hfs
    obtain ⟨g, hg, e⟩ := Option.map_eq_some_iff.1 hf
    simp only [Prod.mk.injEq] at e
    have ha := run_isAgg_f (P := P) (w := w') (T := ft)
    simp [execOp, Instr.field, hx, underlying, hfs, hg, asAgg, part, e.1, e.2, ha, hv]
  · cases hf
end Go.W
