import Derived.Test.YtmedmmginnfjgaaTab
import Derived.Test.YtmedmmginnfjgaaMem2
import Derived.Laws.StructEq
namespace Go.W
def edgesV (es : List (Int × Int)) : List Value := es.flatMap fun e => [.int .i64 e.1, .int .i64 e.2]
theorem edgesV_len : ∀ es : List (Int × Int), (edgesV es).length = es.length * 2
  | [] => rfl
  | e :: es => by have := edgesV_len es; simp only [edgesV, List.flatMap_cons, List.length_append, List.length_cons, List.length_nil] at *; omega
theorem edgesV_cons (e : Int × Int) (es : List (Int × Int)) : edgesV (e :: es) = .int .i64 e.1 :: .int .i64 e.2 :: edgesV es := rfl
theorem edgesV_set : ∀ (es : List (Int × Int)) (i : Nat) (e : Int × Int), i < es.length → (edgesV es).take (i * 2) ++ [.int .i64 e.1, .int .i64 e.2] ++ (edgesV es).drop (i * 2 + 2) = edgesV (es.set i e)
  | [], i, e, h => by simp at h
  | x :: es, 0, e, _ => by simp [edgesV_cons]
  | x :: es, i + 1, e, h => by
    have ih := edgesV_set es i e (by simpa using h)
    rw [List.set_cons_succ, edgesV_cons, edgesV_cons, ← ih, show (i + 1) * 2 = i * 2 + 2 by omega, show i * 2 + 2 + 2 = (i * 2 + 2) + 2 by omega]
    simp
theorem edgesV_get : ∀ (es : List (Int × Int)) (i : Nat), i < es.length → (edgesV es)[i * 2]? = some (.int .i64 (es.getD i (0, 0)).1) ∧ (edgesV es)[i * 2 + 1]? = some (.int .i64 (es.getD i (0, 0)).2)
  | [], i, h => by simp at h
  | x :: es, 0, _ => by simp [edgesV_cons]
  | x :: es, i + 1, h => by
    have ih := edgesV_get es i (by simpa using h)
    rw [edgesV_cons, show (i + 1) * 2 = i * 2 + 1 + 1 by omega, show i * 2 + 1 + 1 + 1 = (i * 2 + 1) + 1 + 1 by omega]
    simpa using ih
theorem edgesV_zero (n : Nat) : (madeCells #[.int .i64 0, .int .i64 0] (n * 2)).toList = edgesV (List.replicate n (0, 0)) := by
  induction n with
  | zero => simp [madeCells, edgesV]
  | succ n ih =>
    have e1 : edgesV (List.replicate (n + 1) (0, 0)) = edgesV (List.replicate n (0, 0)) ++ [.int .i64 0, .int .i64 0] := by
      rw [List.replicate_succ']; simp [edgesV]
    rw [e1, ← ih]
    simp only [madeCells, Array.toList_map, Array.toList_range]
    rw [show (n + 1) * 2 = n * 2 + 1 + 1 by omega, List.range_succ, List.range_succ]
    simp only [List.map_append, List.append_assoc, List.map_cons, List.map_nil, List.cons_append, List.nil_append]
    have a1 : n * 2 % 2 = 0 := by omega
    have a2 : (n * 2 + 1) % 2 = 1 := by omega
    simp [a1, a2]
section
variable {P : Program} {S : World → Prop} {ops : List Oper} {K : Env → World → Prop} {rest : List (Oper × Option Bool)} {ρ : Env} {w : World} {b : Option Bool} {kf : Bool} {d : Nat} {dst : Option Nat} {T T' : TypeId} {pos : String} {af : Array Edge}
theorem k_makeE {T1 E y n : Nat} {x1 x2 : Operand} [hT : Slc P T1 E 2 y] [hz : Zro P E (.agg #[.int .i64 0, .int .i64 0])] (h1 : ev ρ x1 = .int .i64 n) (h2 : ev ρ x2 = .int .i64 n) (hb : y * n ≤ 281474976710656) (hm : n ≤ 9223372036854775807)
    (h : ∀ g w', New w w' g E (edgesV (List.replicate n (0, 0))) → (kf = true → S w → S w') ∧ RR P S ops K rest (upd ρ d (.slice (some ⟨g, 0, none⟩) n n)) w') :
    RR P S ops K ((⟨some d, .makeSlice T1 x1 x2, T, pos, af, none⟩, some kf) :: rest) ρ w :=
  k_make h1 h2 hb hm (fun g w' hn => h g w' (by rw [← edgesV_zero]; exact hn))
theorem k_indexE {x ix : Operand} {a : Option Addr} {l c E y j : Nat} {k : IntKind} [hT : Slc P T' E 2 y] (hx : ev ρ x = .slice a l c) (hi : ev ρ ix = .int k (j : Int)) (ha : W.plain a)
    (h2 : j < l) (h : RR P S ops K rest (upd ρ d (.pointer (some (elt a (j * 2))))) w) :
    RR P S ops K ((⟨some d, .indexAddr T' x ix, T, pos, af, none⟩, b) :: rest) ρ w :=
  k_indexAddr hx hi ha (by omega) (by omega) (by simpa using h)
theorem k_storeE2 {x y : Operand} {T1 : TypeId} {g j Tb : Nat} {a c : Int} {es : List (Int × Int)} [hT : Agg P T1 2] (hx : ev ρ x = .pointer (some (elt (some ⟨g, 0, none⟩) (j * 2)))) (hy : ev ρ y = .agg ([.int .i64 a, .int .i64 c] : List Value).toArray)
    (hb : Blk w g Tb (edgesV es)) (hj : j < es.length)
    (h : ∀ w', Chg g w w' → Blk w' g Tb (edgesV (es.set j (a, c))) → (kf = true → S w → S w') ∧ RR P S ops K rest ρ w') :
    RR P S ops K ((⟨none, .store T1 x y, T, pos, af, none⟩, some kf) :: rest) ρ w :=
  k_storeA (n := 2) (o := j * 2) (by rw [hx]; simp [elt]) hy rfl rfl hb (by rw [edgesV_len]; omega) (fun w' hc hb' => h w' hc (by
    have := edgesV_set es j (a, c) hj
    rw [← this]; exact hb'))
theorem k_loadE2 {x : Operand} {T1 : TypeId} {a : Option Addr} {j : Nat} {es : List (Int × Int)} [Agg P T1 2] (hx : ev ρ x = .pointer (some (elt a (j * 2)))) (hp : W.plain a) (hs : Rd b S w fun w' => Sl w' a (edgesV es)) (hj : j < es.length)
    (h : RR P S ops K rest (upd ρ d (.agg ([.int .i64 (es.getD j (0, 0)).1, .int .i64 (es.getD j (0, 0)).2] : List Value).toArray)) w) : RR P S ops K ((⟨some d, .load T1 x, T, pos, af, none⟩, b) :: rest) ρ w := by
  obtain ⟨g, o, rfl⟩ := hp
  refine k_loadA (g := g) (o := o + j * 2) (by rw [hx]; rfl) rfl (hs.imp fun w' hs => ?_) h
  have hl := edgesV_len es
  obtain ⟨g1, g2⟩ := edgesV_get es j hj
  intro i hi
  simp only [List.length_cons, List.length_nil] at hi
  have := hs.get (j * 2 + i) (by omega)
  simp only [elt] at this
  rw [Nat.add_assoc, this, List.getD_eq_getElem?_getD]
  rcases i with _ | _ | i
  · rw [Nat.add_zero, g1]; rfl
  · rw [g2]; rfl
  · omega
end
end Go.W
namespace Go.Proofs.Ytmedmmginnfjgaa
open Go.W
theorem edge_equal (a b c d : Int) (w : World) : (Op.equalIn 10000 67 (.agg #[.int .i64 a, .int .i64 b]) (.agg #[.int .i64 c, .int .i64 d])).run Try.prog w = .ok (a == c && b == d) w := by
  obtain ⟨f, g, hf, f1, f2, f3, g1, g2, g3⟩ : ∃ f g, (Try.prog.fieldsOf 67).toList = [f, g] ∧ (f.name == "_") = false ∧ f.offset = 0 ∧ f.type = 3 ∧ (g.name == "_") = false ∧ g.offset = 1 ∧ g.type = 3 :=
    ⟨(Try.prog.fieldsOf 67)[0]!, (Try.prog.fieldsOf 67)[1]!, by kernel_rfl, by kernel_rfl, by kernel_rfl, by kernel_rfl, by kernel_rfl, by kernel_rfl, by kernel_rfl⟩
  have hp : ∀ (xs : Array Value) (i : Nat) (v : Value) (w : World), xs[i]? = some v → (part 3 xs i).run Try.prog w = .ok v w := fun xs i v w h => by
    unfold part
    rw [Sem.run_bind_ok run_isAgg_f]
    simp [h]
  rw [show (10000 : Nat) = 9999 + 1 from rfl, run_equalIn_struct w 9999 _ _ _ (by kernel_rfl) (by kernel_rfl), hf]
  have hn1 : f.name ≠ "_" := by simpa using f1
  have hn2 : g.name ≠ "_" := by simpa using g1
  have hq : ∀ (x y : Int) (w : World), (Op.equalIn 9999 3 (.int .i64 x) (.int .i64 y)).run Try.prog w = .ok (x == y) w := fun x y w => run_equalIn_int w 9998 _ _ .i64 _ _ (by kernel_rfl)
  simp only [Op.eqFields, hn1, hn2, f2, f3, g2, g3, ne_eq, not_false_eq_true, if_true]
  rw [Sem.run_bind_ok (hp _ 0 (.int .i64 a) w rfl), Sem.run_bind_ok (hp _ 0 (.int .i64 c) w rfl), Sem.run_bind_ok (hq a c w)]
  cases hac : (a == c)
  · simp
  · simp only [Bool.not_true, Bool.false_eq_true, if_false, Bool.true_and]
    rw [Sem.run_bind_ok (hp _ 1 (.int .i64 b) w rfl), Sem.run_bind_ok (hp _ 1 (.int .i64 d) w rfl), Sem.run_bind_ok (hq b d w)]
    cases hbd : (b == d) <;> simp
section
variable {S : World → Prop} {ops : List Oper} {K : Env → World → Prop} {rest : List (Oper × Option Bool)} {ρ : Env} {w : World} {b : Option Bool} {kf : Bool} {dd : Nat} {T T' : TypeId} {pos : String} {af : Array Edge}
theorem k_neqE2 {x y : Operand} {a b' c d : Int} {T'' : TypeId} (hx : ev ρ x = .agg ([.int .i64 a, .int .i64 b'] : List Value).toArray) (hy : ev ρ y = .agg ([.int .i64 c, .int .i64 d] : List Value).toArray)
    (h : RR Try.prog S ops K rest (upd ρ dd (.bool (!(a == c && b' == d)))) w) : RR Try.prog S ops K ((⟨some dd, .binOp .neq 67 x y T'', T, pos, af, none⟩, b) :: rest) ρ w :=
  rr_pure rfl (fun w' => by
    simp only [execOp, hx, hy]
    rw [Sem.run_bind_ok (v := .bool (!(a == c && b' == d))) (w' := w')]
    · rfl
    · rw [Sem.run_bind_ok (run_eqGuard_agg w' _ _ _ _ _ _ (by kernel_rfl)), run_neq_struct, edge_equal]; rfl) h
end
end Go.Proofs.Ytmedmmginnfjgaa
