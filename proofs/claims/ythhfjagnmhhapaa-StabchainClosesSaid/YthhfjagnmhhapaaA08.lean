
import Derived.Test.YthhfjagnmhhapaaA01
import Derived.Test.YthhfjagnmhhapaaA02
import Derived.Test.YthhfjagnmhhapaaA03
import Derived.Test.YthhfjagnmhhapaaA04
import Derived.Test.YthhfjagnmhhapaaA05
import Derived.Test.YthhfjagnmhhapaaA06
import Derived.Test.YthhfjagnmhhapaaA07

namespace Go.Proofs.Ythhfjagnmhhapaa
open Go.W Go.PM
abbrev srcL (pool prod : Value) (cb o : Nat) : List Value := [pool, prod, .pointer (some ⟨cb, o, none⟩)]
theorem choose_spec {sb cb o Tc st n : Nat} {pool prod : Value} {cs : List Value} {w : World} (hs : Blk w sb 174 (srcL pool prod cb o)) (hc : Blk w cb Tc cs) (ho : cs[o]? = some (.int .u64 (st : Int))) (hne : sb ≠ cb) (hst : st < 18446744073709551616)
    (hn : 1 ≤ n ∧ n ≤ 1000000000000) :
    CallsR Try.prog 132 #[.pointer (some ⟨sb, 0, none⟩), .int .i64 (n : Int)] w fun v w' =>
      ∃ r st' : Nat, v = .int .i64 (r : Int) ∧ r < n ∧ st' < 18446744073709551616 ∧ Chg cb w w' ∧ Blk w' cb Tc (cs.set o (.int .u64 (st' : Int))) := by
  refine callsR_of (args := [_, _]) Try.func132 rfl rfl ?_
  have hol : o < cs.length := (List.getElem?_eq_some_iff.1 ho).1
  have hob : Nat.blt o cs.length = true := by simpa [Nat.blt_eq] using hol
  repeat' (first | (refine k_pure rfl ?_) | (refine then_normal ?_) | (refine cw_seq ?_) | (refine cw_region rfl ?_) | (refine rr_nil ?_))
  refine cw_draw (late := [15]) (plan := [(0, none), (1, none), (2, none), (3, none), (4, none), (5, none), (6, none), (7, none), (8, none), (9, none), (10, none), (11, none), (12, none), (13, none), (14, none), (15, some false)]) (fun w' => Blk w' sb 174 (srcL pool prod cb o) ∧ Blk w' cb Tc cs) mixed (by kernel_rfl) ⟨hs.drew, hc.drew⟩ ?_
  repeat' (first | (refine k_loadC rfl (fun _ h => h.1) rfl ?_) | (refine k_loadC rfl (fun _ h => h.2) ho ?_) | (refine k_shlN (j := 13) rfl rfl rfl (by decide) ?_) | (refine k_xorN rfl rfl rfl hst (Nat.mod_lt _ (by decide)) ?_) | (refine k_storeC rfl rfl rfl hc.drew hob (fun w1 hc1 hb1 => ⟨fun h => (nomatch h), ?_⟩)) | (refine k_pure rfl ?_) | (refine then_normal ?_) | (refine cw_seq ?_) | (refine rr_nil ?_) | (refine k_fieldAddr rfl ?_))
  have hst1 : (st ^^^ st <<< 13 % 2 ^ IntKind.u64.bits) < 2 ^ IntKind.u64.bits := Nat.xor_lt_two_pow hst (Nat.mod_lt _ (by decide))
  generalize (st ^^^ st <<< 13 % 2 ^ IntKind.u64.bits) = st1 at *
  have hs1 := hs.drew.chg hc1 hne
  refine cw_draw (late := [15]) (plan := [(0, none), (1, none), (2, none), (3, none), (4, none), (5, none), (6, none), (7, none), (8, none), (9, none), (10, none), (11, none), (12, none), (13, none), (14, none), (15, some false)]) (fun w' => Blk w' sb 174 (srcL pool prod cb o) ∧ Blk w' cb Tc (cs.set o (.int .u64 (st1 : Int)))) mixed (by kernel_rfl) ⟨hs1.drew, hb1.drew⟩ ?_
  have ho1 : (cs.set o (.int .u64 (st1 : Int)))[o]? = some (.int .u64 (st1 : Int)) := by rw [List.getElem?_set_self hol]
  repeat' (first | (refine k_loadC rfl (fun _ h => h.1) rfl ?_) | (refine k_loadC rfl (fun _ h => h.2) ho1 ?_) | (refine k_shrN (j := 7) rfl rfl (.inl rfl) ?_) | (refine k_xorN rfl rfl rfl hst1 (Nat.lt_of_le_of_lt (Nat.shiftRight_le ..) hst1) ?_) | (refine k_storeC rfl rfl rfl hb1.drew (by rw [List.length_set]; exact hob) (fun w2 hc2 hb2 => ⟨fun h => (nomatch h), ?_⟩)) | (refine k_pure rfl ?_) | (refine then_normal ?_) | (refine cw_seq ?_) | (refine rr_nil ?_) | (refine k_fieldAddr rfl ?_))
  have hst2 : (st1 ^^^ st1 >>> 7) < 2 ^ IntKind.u64.bits := Nat.xor_lt_two_pow hst1 (Nat.lt_of_le_of_lt (Nat.shiftRight_le ..) hst1)
  generalize (st1 ^^^ st1 >>> 7) = st2 at *
  rw [List.set_set] at hb2
  have hs2 := hs1.drew.chg hc2 hne
  refine cw_draw (late := [15]) (plan := [(0, none), (1, none), (2, none), (3, none), (4, none), (5, none), (6, none), (7, none), (8, none), (9, none), (10, none), (11, none), (12, none), (13, none), (14, none), (15, some false)]) (fun w' => Blk w' sb 174 (srcL pool prod cb o) ∧ Blk w' cb Tc (cs.set o (.int .u64 (st2 : Int)))) mixed (by kernel_rfl) ⟨hs2.drew, hb2.drew⟩ ?_
  have ho2 : (cs.set o (.int .u64 (st2 : Int)))[o]? = some (.int .u64 (st2 : Int)) := by rw [List.getElem?_set_self hol]
  repeat' (first | (refine k_loadC rfl (fun _ h => h.1) rfl ?_) | (refine k_loadC rfl (fun _ h => h.2) ho2 ?_) | (refine k_shlN (j := 17) rfl rfl rfl (by decide) ?_) | (refine k_xorN rfl rfl rfl hst2 (Nat.mod_lt _ (by decide)) ?_) | (refine k_storeC rfl rfl rfl hb2.drew (by rw [List.length_set]; exact hob) (fun w3 hc3 hb3 => ⟨fun h => (nomatch h), ?_⟩)) | (refine k_pure rfl ?_) | (refine then_normal ?_) | (refine cw_seq ?_) | (refine cw_region rfl ?_) | (refine rr_nil ?_) | (refine k_fieldAddr rfl ?_))
  have hst3 : (st2 ^^^ st2 <<< 17 % 2 ^ IntKind.u64.bits) < 2 ^ IntKind.u64.bits := Nat.xor_lt_two_pow hst2 (Nat.mod_lt _ (by decide))
  generalize (st2 ^^^ st2 <<< 17 % 2 ^ IntKind.u64.bits) = st3 at *
  rw [List.set_set] at hb3
  have hs3 := hs2.drew.chg hc3 hne
  have ho3 : (cs.set o (.int .u64 (st3 : Int)))[o]? = some (.int .u64 (st3 : Int)) := by rw [List.getElem?_set_self hol]
  have hm1 := Int.emod_nonneg ((st3 >>> 20 : Nat) : Int) (show (n : Int) ≠ 0 by omega)
  have hm2 := Int.emod_lt_of_pos ((st3 >>> 20 : Nat) : Int) (show 0 < (n : Int) by omega)
  repeat' (first | (refine k_loadC rfl hs3 rfl ?_) | (refine k_loadC rfl hb3 ho3 ?_) | (refine k_shrN (j := 20) rfl rfl (.inl rfl) ?_) | (refine k_convI rfl (wrap_u64 (by omega) (by omega)) ?_) | (refine k_rem rfl rfl (by omega) (by omega) ?_) | (refine k_convI rfl (wrap_i64 (by omega) (by omega)) ?_) | (refine k_pure rfl ?_) | (refine then_normal ?_) | (refine rr_nil ?_) | (refine cw_ret ?_))
  refine ret1 rfl (rt rfl) ⟨(st3 >>> 20) % n, st3, by show Value.int .i64 (((st3 >>> 20 : Nat) : Int) % (n : Int)) = _; rw [Int.natCast_emod], Nat.mod_lt _ (by omega), hst3, ?_, hb3⟩
  exact ((Chg.refl cb w).drew.trans hc1).drew.trans (hc2.drew.trans hc3)
end Go.Proofs.Ythhfjagnmhhapaa

/- Maps with int keys. -/
namespace Go.W
open Go.RowKit (Below)
variable {P : Program} {S : World → Prop} {ops : List Oper} {K : Env → World → Prop} {rest : List (Oper × Option Bool)} {ρ : Env} {w : World} {b : Option Bool} {kf : Bool} {d : Nat} {T T' : TypeId} {pos : String} {af : Array Edge}
/-- block r is a map with these keys and values, the oldest first -/
def MapAt (w : World) (r : Nat) (l : List (Int × Value)) : Prop := ∃ es clock, w.heap[r]? = some (.map es clock) ∧ es.toList.map (fun e => (e.key, e.val)) = l.map fun p => (Value.int .i64 p.1, p.2)
theorem MapAt.lt {r : Nat} {l : List (Int × Value)} (h : MapAt w r l) : r < w.heap.size := by
  obtain ⟨es, c, h, _⟩ := h; exact (Array.getElem?_eq_some_iff.1 h).1
theorem MapAt.of_block {w' : World} {r : Nat} {l : List (Int × Value)} (h : MapAt w r l) (hb : w'.heap[r]? = w.heap[r]?) : MapAt w' r l := by
  obtain ⟨es, c, h, e⟩ := h; exact ⟨es, c, hb.trans h, e⟩
theorem MapAt.ext {w' : World} {r : Nat} {l : List (Int × Value)} (h : MapAt w r l) (e : Ex w w') : MapAt w' r l := h.of_block (e.block r h.lt)
theorem MapAt.chg {w' : World} {r g : Nat} {l : List (Int × Value)} (h : MapAt w r l) (c : Chg g w w') (hne : r ≠ g) : MapAt w' r l := h.of_block (c.block r hne)
theorem MapAt.fr {F : Nat → Prop} {w' : World} {r : Nat} {l : List (Int × Value)} (h : MapAt w r l) (c : Fr F w w') (hne : ¬ F r) : MapAt w' r l := h.of_block (c.block r h.lt hne)
def findK (k : Int) : List (Int × Value) → Nat → Option (Nat × Value)
  | [], _ => none
  | p :: l, i => if p.1 = k then some (i, p.2) else findK k l (i + 1)
theorem findNow_eq {k : Int} : ∀ {es : List MapEntry} {l : List (Int × Value)} (i : Nat), es.map (fun e => (e.key, e.val)) = l.map (fun p => (Value.int .i64 p.1, p.2)) →
    Instr.findNow (.int .i64) (.int .i64 k) es i = some (findK k l i)
  | [], [], _, _ => rfl
  | [], _ :: _, _, h => by simp at h
  | _ :: _, [], _, h => by simp at h
  | e :: es, p :: l, i, h => by
    simp only [List.map_cons, List.cons.injEq, Prod.mk.injEq] at h
    rw [Instr.findNow, h.1.1, findK]
    by_cases hk : p.1 = k
    · subst hk; simp [Instr.sameNow, h.1.2]
    · have : (k == p.1) = false := by simp; omega
      simp [Instr.sameNow, this, hk, findNow_eq (i + 1) h.2]
theorem run_getObj' {w : World} {r : Nat} {es : Array MapEntry} {c : Nat} (h : w.heap[r]? = some (.map es c)) : (getObj r).run P w = .ok (.map es c) w := by
  simp [getObj, Sem.run, h]
theorem run_setObj' {w : World} {r : Nat} {es : Array MapEntry} {c : Nat} (o : Obj) (h : w.heap[r]? = some (.map es c)) : (setObj r o).run P w = .ok () { w with heap := w.heap.setIfInBounds r o } := by
  simp [setObj, Sem.run, h]
theorem run_checkKeyN {w : World} {e : Bool} {n : Nat} {Kt : TypeId} {k : Int} (hk : P.underlying Kt = some (.int .i64)) : (Instr.checkKey e (n + 1) Kt (.int .i64 k)).run P w = .ok () w := by
  rw [Instr.checkKey]; simp [run_underlying hk]
theorem run_checkKey {w : World} {e : Bool} {Kt : TypeId} {k : Int} (hk : P.underlying Kt = some (.int .i64)) : (Instr.checkKey e 10000 Kt (.int .i64 k)).run P w = .ok () w := run_checkKeyN (n := 9999) hk
theorem run_findKey {w : World} {Kt : TypeId} {k : Int} {es : List MapEntry} {l : List (Int × Value)} (hk : P.underlying Kt = some (.int .i64)) (he : es.map (fun e => (e.key, e.val)) = l.map (fun p => (Value.int .i64 p.1, p.2))) :
    (Instr.findKey Kt (.int .i64 k) es).run P w = .ok (findK k l 0) w := by
  simp [Instr.findKey, run_underlying hk, findNow_eq 0 he]
theorem k_lookup {x y : Operand} {Kt E r i : Nat} {k : Int} {l : List (Int × Value)} {v : Value} (hm : P.underlying T' = some (.map Kt E)) (hk : P.underlying Kt = some (.int .i64)) (hx : ev ρ x = .map (some r)) (hy : ev ρ y = .int .i64 k)
    (hs : Rd b S w fun w' => MapAt w' r l) (hf : findK k l 0 = some (i, v)) (h : RR P S ops K rest (upd ρ d v) w) :
    RR P S ops K ((⟨some d, .lookup T' x y false, T, pos, af, none⟩, b) :: rest) ρ w := by
  refine rr_read rfl rfl (hs.imp fun w' hw => ?_) h
  obtain ⟨es, c, hb, he⟩ := hw
  have h1 := run_findKey (w := w') (P := P) (k := k) hk he
  have h2 := run_checkKey (w := w') (P := P) (k := k) (e := es.isEmpty) hk
  simp [execOp, Instr.lookup, hx, hy, run_underlying hm, run_getObj' hb, h1, h2, hf]
theorem k_lookupOk {x y : Operand} {Kt E r : Nat} {k : Int} {l : List (Int × Value)} {z : Value} [Zro P E z] (hm : P.underlying T' = some (.map Kt E)) (hk : P.underlying Kt = some (.int .i64)) (hx : ev ρ x = .map (some r)) (hy : ev ρ y = .int .i64 k)
    (hs : Rd b S w fun w' => MapAt w' r l) (h : RR P S ops K rest (upd ρ d (match findK k l 0 with | some (_, v) => .tuple #[v, .bool true] | none => .tuple #[z, .bool false])) w) :
    RR P S ops K ((⟨some d, .lookup T' x y true, T, pos, af, none⟩, b) :: rest) ρ w := by
  refine rr_read rfl rfl (hs.imp fun w' hw => ?_) h
  obtain ⟨es, c, hb, he⟩ := hw
  have h1 := run_findKey (w := w') (P := P) (k := k) hk he
  have h2 := run_checkKey (w := w') (P := P) (k := k) (e := es.isEmpty) hk
  have hz := run_zero (P := P) (w := w') (T := E) (v := z)
  cases hf : findK k l 0 with
  | none => simp [execOp, Instr.lookup, hx, hy, run_underlying hm, run_getObj' hb, h1, h2, hf, hz]
  | some q => simp [execOp, Instr.lookup, hx, hy, run_underlying hm, run_getObj' hb, h1, h2, hf]
theorem k_makeMap (h : ∀ r w', Ex w w' → w.heap.size ≤ r → MapAt w' r [] → (kf = true → S w → S w') ∧ RR P S ops K rest (upd ρ d (.map (some r))) w') :
    RR P S ops K ((⟨some d, .makeMap T' none, T, pos, af, none⟩, some kf) :: rest) ρ w := by
  refine rr_eff rfl ?_
  unfold OpW
  have : (execOp (ev ρ) ⟨some d, .makeMap T' none, T, pos, af, none⟩).run P w = .ok (.value (.map (some w.heap.size))) (w.alloc (.map #[] 0)) := by
    simp [execOp, Instr.makeMap]
  rw [this]
  exact h _ _ (Ex.alloc w _) (Nat.le_refl _) ⟨#[], 0, heap_alloc_new w _, rfl⟩
theorem findK_none {k : Int} : ∀ {l : List (Int × Value)} (i : Nat), (∀ p ∈ l, p.1 ≠ k) → findK k l i = none
  | [], _, _ => rfl
  | p :: l, i, h => by rw [findK, if_neg (h p (by simp)), findK_none (i + 1) fun q hq => h q (by simp [hq])]
theorem findK_at {k : Int} : ∀ {l : List (Int × Value)} (i j : Nat) {v : Value}, l[j]? = some (k, v) → (∀ j' p, j' < j → l[j']? = some p → p.1 ≠ k) → findK k l i = some (i + j, v)
  | [], _, j, _, h, _ => by simp at h
  | p :: l, i, 0, v, h, _ => by
    simp only [List.getElem?_cons_zero, Option.some.injEq] at h
    subst h; rw [findK, if_pos rfl]; rfl
  | p :: l, i, j + 1, v, h, hn => by
    rw [findK, if_neg (hn 0 p (by omega) (by simp)), findK_at (i + 1) j (by simpa using h) (fun j' q hj hq => hn (j' + 1) q (by omega) (by simpa using hq))]
    rw [Nat.add_right_comm]; rfl
theorem eraseIdx_map' {α β : Type} (f : α → β) : ∀ (l : List α) (i : Nat), (l.eraseIdx i).map f = (l.map f).eraseIdx i
  | [], _ => by simp
  | _ :: _, 0 => by simp
  | a :: l, i + 1 => by simp [eraseIdx_map' f l i]
theorem set_chg {r : Nat} {o : Obj} : Chg r w { w with heap := w.heap.setIfInBounds r o } :=
  ⟨rfl, rfl, rfl, by simp, fun k hk => by simp [Ne.symm hk]⟩
/-- a new key -/
theorem k_mapNew {x y z : Operand} {Kt E r : Nat} {k : Int} {l : List (Int × Value)} {v : Value} (hm : P.underlying T' = some (.map Kt E)) (hk : P.underlying Kt = some (.int .i64)) (hx : ev ρ x = .map (some r)) (hy : ev ρ y = .int .i64 k) (hz : ev ρ z = v)
    (hs : MapAt w r l) (hf : ∀ p ∈ l, p.1 ≠ k) (h : ∀ w', Chg r w w' → MapAt w' r (l ++ [(k, v)]) → (kf = true → S w → S w') ∧ RR P S ops K rest ρ w') :
    RR P S ops K ((⟨none, .mapUpdate T' x y z, T, pos, af, none⟩, some kf) :: rest) ρ w := by
  refine rr_eff rfl ?_
  unfold OpW
  obtain ⟨es, c, hb, he⟩ := hs
  have h1 := run_findKey (w := w) (P := P) (k := k) hk he
  rw [findK_none 0 hf] at h1
  have h2 := run_checkKey (w := w) (P := P) (k := k) (e := false) hk
  have : (execOp (ev ρ) ⟨none, .mapUpdate T' x y z, T, pos, af, none⟩).run P w = .ok .skip { w with heap := w.heap.setIfInBounds r (.map (es.push ⟨.int .i64 k, v, c⟩) (c + 1)) } := by
    simp [execOp, Instr.mapUpdate, hx, hy, hz, run_underlying hm, run_getObj' hb, h1, h2, run_setObj' _ hb]
  rw [this]
  refine h _ set_chg ⟨es.push ⟨.int .i64 k, v, c⟩, c + 1, ?_, by simp [he]⟩
  have := (Array.getElem?_eq_some_iff.1 hb).1
  simp [this]
theorem k_mapDel {x y : Operand} {Kt E r i : Nat} {T2 : TypeId} {k : Int} {l : List (Int × Value)} {v : Value} (hm : P.underlying T' = some (.map Kt E)) (hk : P.underlying Kt = some (.int .i64)) (hx : ev ρ x = .map (some r)) (hy : ev ρ y = .int .i64 k)
    (hs : MapAt w r l) (hf : findK k l 0 = some (i, v)) (hi : i < l.length) (h : ∀ w', Chg r w w' → MapAt w' r (l.eraseIdx i) → (kf = true → S w → S w') ∧ RR P S ops K rest ρ w') :
    RR P S ops K ((⟨none, .call ⟨.builtin .delete, #[x, y], #[T', T2]⟩, T, pos, af, none⟩, some kf) :: rest) ρ w := by
  refine rr_eff rfl ?_
  unfold OpW
  obtain ⟨es, c, hb, he⟩ := hs
  have h1 := run_findKey (w := w) (P := P) (k := k) hk he
  rw [hf] at h1
  have h2 := run_checkKey (w := w) (P := P) (k := k) (e := es.isEmpty) hk
  have hl : es.size = l.length := by have := congrArg List.length he; simpa using this
  have : (execOp (ev ρ) ⟨none, .call ⟨.builtin .delete, #[x, y], #[T', T2]⟩, T, pos, af, none⟩).run P w = .ok (.value (.tuple #[])) { w with heap := w.heap.setIfInBounds r (.map (es.eraseIdxIfInBounds i) c) } := by
    rw [BigFrame.execOp_builtin]
    simp [BigFrame.builtin_delete, Builtin.delete_, hx, hy, run_underlying hm, run_getObj' hb, h1, h2, run_setObj' _ hb]
  rw [this]
  refine h _ set_chg ⟨es.eraseIdxIfInBounds i, c, ?_, ?_⟩
  · have := (Array.getElem?_eq_some_iff.1 hb).1
    simp [this]
  · rw [Array.eraseIdxIfInBounds, dif_pos (by omega)]
    have e1 : (es.eraseIdx i (by omega)).toList = es.toList.eraseIdx i := by simp
    rw [e1, eraseIdx_map', eraseIdx_map', he]
theorem k_mapDel0 {x y : Operand} {Kt E r : Nat} {T2 : TypeId} {k : Int} {l : List (Int × Value)} (hm : P.underlying T' = some (.map Kt E)) (hk : P.underlying Kt = some (.int .i64)) (hx : ev ρ x = .map (some r)) (hy : ev ρ y = .int .i64 k)
    (hs : MapAt w r l) (hf : ∀ p ∈ l, p.1 ≠ k) (h : ∀ w', Chg r w w' → MapAt w' r l → (kf = true → S w → S w') ∧ RR P S ops K rest ρ w') :
    RR P S ops K ((⟨none, .call ⟨.builtin .delete, #[x, y], #[T', T2]⟩, T, pos, af, none⟩, some kf) :: rest) ρ w := by
  refine rr_eff rfl ?_
  unfold OpW
  obtain ⟨es, c, hb, he⟩ := hs
  have h1 := run_findKey (w := w) (P := P) (k := k) hk he
  rw [findK_none 0 hf] at h1
  have h2 := run_checkKey (w := w) (P := P) (k := k) (e := es.isEmpty) hk
  have : (execOp (ev ρ) ⟨none, .call ⟨.builtin .delete, #[x, y], #[T', T2]⟩, T, pos, af, none⟩).run P w = .ok (.value (.tuple #[])) { w with heap := w.heap.setIfInBounds r (.map es c) } := by
    rw [BigFrame.execOp_builtin]
    simp [BigFrame.builtin_delete, Builtin.delete_, hx, hy, run_underlying hm, run_getObj' hb, h1, h2, run_setObj' _ hb]
  rw [this]
  refine h _ set_chg ⟨es, c, ?_, he⟩
  have := (Array.getElem?_eq_some_iff.1 hb).1
  simp [this]
end Go.W

namespace Go.Proofs.Ythhfjagnmhhapaa
open Go.W Go.PM
/-- where a level lies: the blocks of its struct, its rows and the immutable blocks that it reads -/
structure LH where
  blk : Nat
  ob : Nat
  oc : Nat
  wb : Nat
  bb : Nat
  bc : Nat
  bs : List SD
  db : Nat
  dc : Nat
  ga : Option Addr
  gc : Nat
  gs : List SD
  im : List Nat
def LH.F (h : LH) : List Nat := [h.blk, h.ob, h.wb, h.bb, h.db]
abbrev ba (b : Nat) : Option Addr := some ⟨b, 0, none⟩
def whereAt (orb : List Int) (x : Int) : Int := if x ∈ orb then (orb.idxOf x : Int) else -1
def whereL (n : Nat) (orb : List Int) : List Int := (idList n).map (whereAt orb)
theorem whereL_len (n : Nat) (orb : List Int) : (whereL n orb).length = n := by simp [whereL, idList_length]
theorem whereL_getD {n : Nat} (orb : List Int) {k : Nat} (h : k < n) : (whereL n orb).getD k 0 = whereAt orb k := by
  have := idList_getD h
  rw [whereL, List.getD_eq_getElem?_getD, List.getElem?_map, List.getElem?_eq_getElem (by rw [idList_length]; exact h)]
  rw [List.getD_eq_getElem?_getD, List.getElem?_eq_getElem (by rw [idList_length]; exact h)] at this
  simp only [Option.getD_some] at this
  simp only [Option.map_some, Option.getD_some, this]
abbrev natsL (xs : List Nat) : List Value := xs.map fun (k : Nat) => Value.int .i64 (k : Int)
def lvL (n : Nat) (h : LH) (l : Lv) : List Value := [.int .i64 l.pt, .slice h.ga l.gens.length h.gc, .slice (ba h.ob) l.orb.length h.oc, .slice (ba h.wb) n n, .slice (ba h.bb) l.back.length h.bc, .slice (ba h.db) l.done.length h.dc]
/-- a list of permutations of n points in immutable blocks -/
structure PsAt (w : World) (n : Nat) (im : List Nat) (sds : List SD) (ps : List (List Int)) : Prop where
  len : sds.length = ps.length
  sl : ∀ i, i < ps.length → Sl w (sds.getD i sd0).a (u16L (ps.getD i []))
  n : ∀ i, i < ps.length → (sds.getD i sd0).len = n
  im : ∀ i, i < ps.length → ∀ ad, (sds.getD i sd0).a = some ad → ad.block ∈ im
structure LvAt (w : World) (n : Nat) (h : LH) (l : Lv) : Prop where
  str : Blk w h.blk 95 (lvL n h l)
  orb : Own w 0 3 1 (ba h.ob) l.orb.length h.oc (intsL l.orb)
  wh : Blk w h.wb 3 (intsL (whereL n l.orb))
  bk : Own w 0 110 1 (ba h.bb) l.back.length h.bc (h.bs.map SD.val)
  bs : PsAt w n h.im h.bs l.back
  dn : Own w 0 3 1 (ba h.db) l.done.length h.dc (natsL l.done)
  ga : Sl w h.ga (h.gs.map SD.val)
  gim : ∀ ad, h.ga = some ad → ad.block ∈ h.im
  gs : PsAt w n h.im h.gs l.gens
  nd : h.F.Nodup
  dis : ∀ g, g ∈ h.F → g ∉ h.im
  imlt : ∀ g, g ∈ h.im → g < w.heap.size
  gcap : l.gens.length ≤ h.gc
theorem divide_spec {n : Nat} {h : LH} {l : Lv} {p : List Int} {pb cap : Nat} {w : World} (hL : LvAt w n h l) (ok : LvOK n l) (pp : PermN n p) (hp : Own w 0 129 1 (ba pb) n cap (u16L p)) (_hF : pb ∉ h.F) (hI : pb ∉ h.im) :
    CallsR Try.prog 108 #[.pointer (some ⟨h.blk, 0, none⟩), .slice (ba pb) n cap] w fun v w' => v = .bool (decide (ap p l.pt ∈ l.orb)) ∧ Chg pb w w' ∧
      Own w' 0 129 1 (ba pb) n cap (u16L (if ap p l.pt ∈ l.orb then mulP p (l.to (ap p l.pt)) else p)) := by
  refine callsR_of (args := [_, _]) Try.func108 rfl rfl ?_
  have hn := ok.n1
  repeat' (first | (refine k_pure rfl ?_) | (refine then_normal ?_) | (refine cw_seq ?_) | (refine cw_region rfl ?_) | (refine rr_nil ?_))
  refine cw_draw (late := []) (plan := [(0, none), (1, none), (2, none), (3, none), (4, none), (5, none), (6, none), (7, none), (8, none), (9, none), (10, none), (11, none), (12, none), (13, none)]) (fun w' => Blk w' h.blk 95 (lvL n h l) ∧ Sl w' (ba pb) (u16L p) ∧ Sl w' (ba h.wb) (intsL (whereL n l.orb))) mixed (by kernel_rfl) ⟨hL.str.drew, hp.sl.drew, hL.wh.sl.drew⟩ ?_
  obtain ⟨pt, hpt⟩ : ∃ m : Nat, l.pt = (m : Int) := ⟨l.pt.toNat, by have := ok.pt; omega⟩
  have hptn : pt < n := by have := ok.pt; omega
  have hy := pp.ap ok.pt
  obtain ⟨y, hy'⟩ : ∃ m : Nat, p.getD pt 0 = (m : Int) := ⟨(p.getD pt 0).toNat, by unfold ap at hy; rw [hpt, Int.toNat_natCast] at hy; omega⟩
  have hap : ap p l.pt = (y : Int) := by unfold ap; rw [hpt, Int.toNat_natCast, hy']
  have hyn : y < n := by omega
  repeat' (first | (refine k_loadC rfl (fun _ h => h.1) rfl ?_) | (refine k_indexN (j := pt) rfl (congrArg _ hpt) ⟨_, _, rfl⟩ (by omega) ?_) | (refine k_loadI rfl (fun _ h => h.2.1) (by rw [pp.2]; omega) ?_) | (refine k_indexN (j := y) rfl (congrArg _ hy') ⟨_, _, rfl⟩ (by omega) ?_) | (refine k_loadI rfl (fun _ h => h.2.2) (by rw [whereL_len]; omega) ?_) | (refine k_pure rfl ?_) | (refine then_normal ?_) | (refine cw_seq ?_) | (refine cw_region rfl ?_) | (refine rr_nil ?_) | (refine k_fieldAddr rfl ?_) | (refine cw_cond_dec rfl (fun hc => ?_) (fun hc => ?_)) | (refine cw_ret ?_) | (refine cw_skip ?_))
  · rw [whereL_getD _ hyn] at *
    have hm : (y : Int) ∈ l.orb := Classical.byContradiction fun hc' => by unfold whereAt at hc; rw [if_neg hc'] at hc; omega
    have hw : whereAt l.orb (y : Int) = (l.orb.idxOf (y : Int) : Nat) := by rw [whereAt, if_pos hm]
    have hi := idxOf_lt hm
    have hib : l.orb.idxOf (y : Int) < l.back.length := by rw [ok.len]; exact hi
    have hbs := hL.bs.len
    have hto := ok.grp.perm _ (ok.to_in hm)
    have hsd := hL.bs.sl _ hib
    have hsn := hL.bs.n _ hib
    have hsi := hL.bs.im _ hib
    generalize hj : l.orb.idxOf (y : Int) = j at *
    have hto' : l.to (y : Int) = l.back.getD j [] := by unfold Lv.to Lv.bk; rw [hj]
    rw [hto'] at hto
    rw [hap, if_pos hm, hto', decide_eq_true hm]
    generalize l.back.getD j [] = q at *
    generalize hsdj : h.bs.getD j sd0 = sd at *
    obtain ⟨sa, sl, sc⟩ := sd
    simp only at hsd hsn hsi
    subst hsn
    replace hp := hp.drew
    have hstr := hL.str.drew
    have hbk := hL.bk.sl.drew
    repeat' (first | (refine k_loadC rfl hstr rfl ?_) | (refine k_indexN (j := j) rfl (congrArg _ hw) ⟨_, _, rfl⟩ (by omega) ?_) | (refine k_loadS rfl hbk (by omega) ?_) | (refine k_pure rfl ?_) | (refine then_normal ?_) | (refine cw_seq ?_) | (refine cw_region rfl ?_) | (refine rr_nil ?_) | (refine k_len rfl ?_) | (refine cw_block ?_))
    rw [hsdj]
    have hql : q.length = sl := hto.2
    have hpl : p.length = sl := pp.2
    refine cw_loop (ι := Nat × List Int) [7, 8, 33, 34, 35, 36, 37, 38, 39, 40, 41, 42, 43, 44, 45] (fun s => [(33, .int .i64 (s.1 : Int))]) (fun s w' => s.1 ≤ sl ∧ Chg pb w w' ∧ Own w' 0 129 1 (ba pb) sl cap (u16L s.2) ∧ s.2.length = sl ∧ s.2.take s.1 = mulP (p.take s.1) q ∧ ∀ i, s.1 ≤ i → s.2.getD i 0 = p.getD i 0) (fun s => sl - s.1)
      (0, p) ⟨rfl, trivial⟩ ⟨by simp, (Chg.refl _ _).drew, hp, hpl, rfl, fun _ _ => rfl⟩ ?_
    rintro ⟨k, cur⟩ ξ w2 ⟨hk, hc2, ho2, hl2, hT, hD⟩
    simp only at hk ho2 hl2 hT hD
    show CW _ _ _ _ (over [(33, .int .i64 (k : Int))] _) w2
    have hsd2 := hsd.chg hc2 (fun ad e => by intro e2; exact hI (by rw [← e2]; exact hsi ad e))
    have ho2s := ho2.sl
    have hrk : k < sl → 0 ≤ cur.getD k 0 ∧ cur.getD k 0 < q.length := fun hlt => by
      rw [hD k (Nat.le_refl _), hql]; have := pp.1.lt (k := k) (by omega); rw [hpl] at this; exact this
    repeat' (first | (refine k_indexN rfl rfl ⟨_, _, rfl⟩ (by omega) ?_) | (refine k_loadI rfl ho2s (by omega) ?_) | (refine k_index1 (a := sa) (l := sl) (c := sc) rfl rfl (hsd2.plain (by simp; omega)) (hrk (by omega)).1 (by have := (hrk (by omega)).2; omega) ?_) | (refine k_loadI rfl hsd2 (by have := (hrk (by omega)); omega) ?_) | (refine k_storeOwn rfl rfl rfl ho2 (by simp; omega) (fun g w3 hg _ hc3 ho3 => ⟨fun _ _ => trivial, ?_⟩)) | (refine k_pure rfl ?_) | (refine then_normal ?_) | (refine cw_seq ?_) | (refine cw_region rfl ?_) | (refine rr_nil ?_) | (refine k_addI rfl rfl (by omega) (by omega) ?_) | (refine cw_cond_dec rfl (fun hc => ?_) (fun hc => ?_)) | (refine cw_block ?_) | (refine cw_exit ?_) | (refine then_exit ?_) | (refine in_exit ?_) | (refine in_normal ?_) | (refine cw_ret ?_) | (refine cw_skip ?_))
    · obtain rfl : pb = g := by simpa [ba] using hg
      refine ⟨⟨(k + 1, cur.set k (q.getD (cur.getD k 0).toNat 0)), ⟨by simp only; omega, hc2.trans hc3, ho3.setI, by simp [hl2], ?_, ?_⟩, by simp only; omega, rfl, trivial⟩, (by (repeat (first | exact agree_mask _ _ _ | refine agree_upd rfl ?_ | refine agree_updO rfl ?_ | refine agree_overIn rfl ?_ | refine agree_maskIn rfl ?_)))⟩
      · simp only
        rw [take_set_succ (by omega), hT, mulP_snoc (by omega), hD k (Nat.le_refl _)]
      · intro i hi
        simp only at hi ⊢
        rw [← hD i (by omega), List.getD_eq_getElem?_getD, List.getElem?_set_ne (by omega), ← List.getD_eq_getElem?_getD]
    · obtain rfl : k = sl := by omega
      rw [List.take_of_length_le (by omega), List.take_of_length_le (by omega)] at hT
      subst hT
      skip
      refine ret1 rfl (rt rfl) ⟨?_, hc2, ho2⟩
      have : (0 : Int) ≤ whereAt l.orb y := by omega
      exact congrArg Value.bool (decide_eq_true this)
  · rw [whereL_getD _ hyn] at *
    rw [hap]
    by_cases hm : (y : Int) ∈ l.orb
    · have hw : whereAt l.orb (y : Int) = (l.orb.idxOf (y : Int) : Nat) := by rw [whereAt, if_pos hm]
      have h0 : l.orb.idxOf (y : Int) = 0 := by omega
      have hto : l.to (y : Int) = idList n := by unfold Lv.to; rw [h0, ok.b0]
      rw [if_pos hm, hto, mul_one pp, decide_eq_true hm]
      refine ret1 rfl (rt rfl) ⟨?_, (Chg.refl _ _).drew, hp.drew⟩
      have : (0 : Int) ≤ whereAt l.orb y := by omega
      exact congrArg Value.bool (decide_eq_true this)
    · have hw : whereAt l.orb (y : Int) = -1 := by rw [whereAt, if_neg hm]
      rw [if_neg hm, decide_eq_false hm]
      refine ret1 rfl (rt rfl) ⟨?_, (Chg.refl _ _).drew, hp.drew⟩
      have : ¬ (0 : Int) ≤ whereAt l.orb y := by omega
      exact congrArg Value.bool (decide_eq_false this)
end Go.Proofs.Ythhfjagnmhhapaa

/- Partitions by trees of parents (plain), and numbers by exponents. No program in sight. -/
namespace Go.PM
structure UF (n : Nat) (ps : List Int) (c d : Nat → Nat) : Prop where
  len : ps.length = n
  rng : ∀ x, x < n → 0 ≤ ps.getD x 0 ∧ ps.getD x 0 < n
  cls : ∀ x, x < n → c (ps.getD x 0).toNat = c x
  clt : ∀ x, x < n → c x < n
  root : ∀ x, x < n → ps.getD x 0 = x → c x = x
  dep : ∀ x, x < n → ps.getD x 0 ≠ x → d (ps.getD x 0).toNat < d x
theorem UF.top {n : Nat} {ps : List Int} {c d : Nat → Nat} (h : UF n ps c d) : ∀ x, x < n → ps.getD (c x) 0 = c x := by
  have key : ∀ k x, d x ≤ k → x < n → ps.getD (c x) 0 = c x := by
    intro k
    induction k with
    | zero =>
      intro x hd hx
      by_cases e : ps.getD x 0 = x
      · have := h.root x hx e; rw [this]; exact e
      · have := h.dep x hx e; omega
    | succ k ih =>
      intro x hd hx
      by_cases e : ps.getD x 0 = x
      · have := h.root x hx e; rw [this]; exact e
      · have h1 := h.dep x hx e
        have h2 := h.rng x hx
        have h3 := h.cls x hx
        rw [← h3]
        exact ih _ (by omega) (by omega)
  intro x hx; exact key _ x (Nat.le_refl _) hx
theorem UF.idem {n : Nat} {ps : List Int} {c d : Nat → Nat} (h : UF n ps c d) {x : Nat} (hx : x < n) : c (c x) = c x := h.root _ (h.clt x hx) (h.top x hx)
theorem getD_set' {α : Type} {l : List α} {i j : Nat} {v d : α} (hi : i < l.length) : (l.set i v).getD j d = if j = i then v else l.getD j d := by
  rw [List.getD_eq_getElem?_getD, List.getElem?_set]
  by_cases h : j = i
  · subst h; simp [hi]
  · rw [if_neg (fun e => h e.symm), if_neg h, ← List.getD_eq_getElem?_getD]
/-- path halving -/
theorem UF.halve {n : Nat} {ps : List Int} {c d : Nat → Nat} (h : UF n ps c d) {x : Nat} (hx : x < n) : UF n (ps.set x (ps.getD (ps.getD x 0).toNat 0)) c d := by
  have hr := h.rng x hx
  have hy : (ps.getD x 0).toNat < n := by omega
  have hr2 := h.rng _ hy
  have hl : x < ps.length := by rw [h.len]; exact hx
  refine ⟨by rw [List.length_set, h.len], fun z hz => ?_, fun z hz => ?_, h.clt, fun z hz e => ?_, fun z hz e => ?_⟩
  · rw [getD_set' hl]; split
    · exact hr2
    · exact h.rng z hz
  · rw [getD_set' hl]; split
    · rename_i e; subst e; rw [h.cls _ hy, h.cls _ hx]
    · exact h.cls z hz
  · rw [getD_set' hl] at e; split at e
    · rename_i e'; subst e'
      by_cases e1 : ps.getD z 0 = z
      · exact h.root z hz e1
      · have h1 := h.dep z hz e1
        by_cases e2 : ps.getD (ps.getD z 0).toNat 0 = ((ps.getD z 0).toNat : Nat)
        · exfalso; apply e1; rw [e] at e2; omega
        · have h2 := h.dep _ hy e2
          rw [e] at h2; simp only [Int.toNat_natCast] at h2; omega
    · exact h.root z hz e
  · rw [getD_set' hl] at e ⊢; split at e
    · rename_i e'; subst e'; rw [if_pos rfl]
      by_cases e1 : ps.getD z 0 = z
      · exfalso; apply e; rw [e1]; simp only [Int.toNat_natCast]; exact e1
      · have h1 := h.dep z hz e1
        by_cases e2 : ps.getD (ps.getD z 0).toNat 0 = ((ps.getD z 0).toNat : Nat)
        · rw [e2]; simp only [Int.toNat_natCast]; exact h1
        · have h2 := h.dep _ hy e2; omega
    · rename_i e'; rw [if_neg e']; exact h.dep z hz e
theorem UF.step_lt {n : Nat} {ps : List Int} {c d : Nat → Nat} (h : UF n ps c d) {x : Nat} (hx : x < n) (hne : ps.getD x 0 ≠ x) :
    (ps.getD (ps.getD x 0).toNat 0).toNat < n ∧ c (ps.getD (ps.getD x 0).toNat 0).toNat = c x ∧ d (ps.getD (ps.getD x 0).toNat 0).toNat < d x := by
  have hr := h.rng x hx
  have hy : (ps.getD x 0).toNat < n := by omega
  have hr2 := h.rng _ hy
  refine ⟨by omega, by rw [h.cls _ hy, h.cls _ hx], ?_⟩
  have h1 := h.dep x hx hne
  by_cases e2 : ps.getD (ps.getD x 0).toNat 0 = ((ps.getD x 0).toNat : Nat)
  · rw [e2]; simp only [Int.toNat_natCast]; exact h1
  · have h2 := h.dep _ hy e2; omega
/-- joining the classes of two points -/
def jn (c : Nat → Nat) (x y : Nat) : Nat → Nat := fun z => if c z = c x then c y else c z
theorem UF.join {n : Nat} {ps : List Int} {c d : Nat → Nat} (h : UF n ps c d) {x y : Nat} (hx : x < n) (hy : y < n) : ∃ d', UF n (ps.set (c x) (c y : Int)) (jn c x y) d' := by
  have hcx := h.clt x hx
  have hcy := h.clt y hy
  have hl : c x < ps.length := by rw [h.len]; exact hcx
  have ix := h.idem hx
  have iy := h.idem hy
  by_cases e : c x = c y
  · have hset : ps.set (c x) (c y : Int) = ps := by
      apply List.ext_getElem?
      intro i
      rw [List.getElem?_set]
      split
      · rename_i hi; subst hi
        try rw [if_pos hl]
        have := h.top x hx
        rw [List.getD_eq_getElem?_getD, List.getElem?_eq_getElem hl, Option.getD_some] at this
        rw [List.getElem?_eq_getElem hl, this, e]
      · rfl
    have hc : jn c x y = c := by funext z; unfold jn; split; rename_i h1; rw [h1, e]; rfl
    rw [hset, hc]; exact ⟨d, h⟩
  · refine ⟨fun z => if c z = c x then d z + d (c y) + 1 else d z, ⟨by rw [List.length_set, h.len], fun z hz => ?_, fun z hz => ?_, fun z hz => ?_, fun z hz e' => ?_, fun z hz e' => ?_⟩⟩
    · rw [getD_set' hl]; split
      · omega
      · exact h.rng z hz
    · rw [getD_set' hl]; split
      · rename_i ez; subst ez
        unfold jn
        simp only [Int.toNat_natCast]
        rw [iy, ix, if_neg (fun e' => e e'.symm), if_pos rfl]
      · unfold jn; rw [h.cls z hz]
    · unfold jn; split; exact hcy; exact h.clt z hz
    · rw [getD_set' hl] at e'; split at e'
      · rename_i ez; subst ez; exfalso; apply e; omega
      · rename_i ez
        have hr := h.root z hz e'
        unfold jn; rw [if_neg, hr]
        intro hh; rw [hr] at hh; exact ez hh
    · rw [getD_set' hl] at e' ⊢; split at e'
      · rename_i ez; subst ez; rw [if_pos rfl]
        simp only [Int.toNat_natCast]
        rw [iy, ix, if_neg (fun e' => e e'.symm), if_pos rfl]; omega
      · rename_i ez; rw [if_neg ez]
        have h1 := h.dep z hz e'
        have h2 := h.cls z hz
        rw [h2]; split <;> omega
theorem uf_one (n : Nat) : UF n (idList n) (fun x => x) (fun _ => 0) :=
  ⟨idList_length n, fun x hx => by rw [idList_getD hx]; omega, fun x hx => by rw [idList_getD hx]; simp, fun x hx => hx, fun _ _ _ => rfl, fun x hx e => absurd (idList_getD hx) e⟩
/-- what joining a permutation's points does to the classes -/
structure Jn (n k : Nat) (p : List Int) (c c' : Nat → Nat) : Prop where
  keep : ∀ x y, x < n → y < n → c x = c y → c' x = c' y
  img : ∀ x, x < k → c' (ap p x).toNat = c' x
  min : ∀ E : Nat → Nat → Prop, (∀ x, x < n → E x x) → (∀ x y, x < n → y < n → E x y → E y x) → (∀ x y z, x < n → y < n → z < n → E x y → E y z → E x z) → (∀ x y, x < n → y < n → c x = c y → E x y) → (∀ x, x < k → E x (ap p x).toNat) →
    ∀ x y, x < n → y < n → c' x = c' y → E x y
theorem jn_zero (n : Nat) (p : List Int) (c : Nat → Nat) : Jn n 0 p c c := ⟨fun _ _ _ _ h => h, fun x hx => absurd hx (by omega), fun _ _ _ _ h _ x y hx hy => h x y hx hy⟩
theorem Jn.step {n k : Nat} {p : List Int} {c c' : Nat → Nat} (h : Jn n k p c c') (hk : k < n) (hp : ∀ x, x ≤ k → (ap p x).toNat < n) : Jn n (k + 1) p c (jn c' k (ap p k).toNat) := by
  refine ⟨fun x y hx hy e => ?_, fun x hx => ?_, fun E r s t h1 h2 x y hx hy e => ?_⟩
  · unfold jn; rw [h.keep x y hx hy e]
  · by_cases e : x = k
    · subst e; unfold jn; rw [if_pos rfl]; split <;> rfl
    · unfold jn; rw [h.img x (by omega)]
  · have hm := h.min E r s t h1 (fun x hx => h2 x (by omega))
    have hq := hp k (Nat.le_refl _)
    have hE := h2 k (by omega)
    unfold jn at e
    split at e
    · rename_i e1
      have a1 := hm x k hx hk e1
      split at e
      · rename_i e2
        exact t x k y hx hk hy a1 (s y k hy hk (hm y k hy hk e2))
      · exact t x k y hx hk hy a1 (t k _ y hk hq hy hE (hm _ y hq hy e))
    · split at e
      · rename_i e2
        exact t x _ y hx hq hy (hm x _ hx hq e) (t _ k y hq hk hy (s k _ hk hq hE) (s y k hy hk (hm y k hy hk e2)))
      · exact hm x y hx hy e
/-- exponents -/
def numb (f : Nat → Nat) : Nat → Nat
  | 0 => 1
  | k + 1 => numb f k * k ^ f k
theorem numb_congr {f g : Nat → Nat} : ∀ k, (∀ p, p < k → f p = g p) → numb f k = numb g k
  | 0, _ => rfl
  | k + 1, h => by rw [numb, numb, numb_congr k (fun p hp => h p (by omega)), h k (by omega)]
theorem numb_add (f g : Nat → Nat) : ∀ k, numb (fun p => f p + g p) k = numb f k * numb g k
  | 0 => rfl
  | k + 1 => by
    rw [numb, numb, numb, numb_add f g k, Nat.pow_add]
    simp only [Nat.mul_assoc, Nat.mul_comm, Nat.mul_left_comm]
theorem numb_at {f : Nat → Nat} {p u : Nat} : ∀ k, p < k → numb (fun q => if q = p then f q + u else f q) k = numb f k * p ^ u
  | 0, h => by omega
  | k + 1, h => by
    rw [numb, numb]
    by_cases e : k = p
    · subst e
      rw [if_pos rfl, numb_congr k (g := f) (fun q hq => if_neg (by omega)), Nat.pow_add, Nat.mul_assoc]
    · rw [if_neg e, numb_at k (by omega)]
      simp only [Nat.mul_comm, Nat.mul_left_comm]
def Rep (e : List Int) (a b : Nat) : Prop := e.length = 513 ∧ ∃ f g : Nat → Nat, (∀ p, p < 513 → e.getD p 0 = (f p : Int) - (g p : Int)) ∧ numb f 513 = a ∧ numb g 513 = b
theorem rep_zero : Rep (List.replicate 513 0) 1 1 := by
  have h1 : numb (fun _ => 0) 513 = 1 := by
    have : ∀ k, numb (fun _ => 0) k = 1 := fun k => by
      induction k with
      | zero => rfl
      | succ k ih => rw [numb, ih, Nat.pow_zero]
    exact this _
  refine ⟨List.length_replicate, fun _ => 0, fun _ => 0, fun p hp => ?_, h1, h1⟩
  rw [List.getD_eq_getElem?_getD, List.getElem?_replicate, if_pos hp]; rfl
theorem Rep.eq {e : List Int} {a b a' b' : Nat} (h : Rep e a b) (h' : Rep e a' b') : a * b' = a' * b := by
  obtain ⟨_, f, g, h1, rfl, rfl⟩ := h
  obtain ⟨_, f', g', h1', rfl, rfl⟩ := h'
  rw [← numb_add, ← numb_add]
  apply numb_congr
  intro p hp
  have e1 := h1 p hp
  have e2 := h1' p hp
  omega
theorem Rep.step {e : List Int} {a b : Nat} (h : Rep e a b) {p u v : Nat} (hp : p < 513) : Rep (e.set p (e.getD p 0 + ((u : Int) - v))) (a * p ^ u) (b * p ^ v) := by
  obtain ⟨hl, f, g, h1, rfl, rfl⟩ := h
  refine ⟨by rw [List.length_set, hl], fun q => if q = p then f q + u else f q, fun q => if q = p then g q + v else g q, fun q hq => ?_, numb_at _ hp, numb_at _ hp⟩
  rw [getD_set' (by rw [hl]; exact hp)]
  have := h1 q hq
  by_cases e : q = p
  · subst e; simp only [if_true]; omega
  · simp only [if_neg e]; exact this
def Bd (e : List Int) (M : Nat) : Prop := ∀ p, -(M : Int) ≤ e.getD p 0 ∧ e.getD p 0 ≤ M
theorem Bd.step {e : List Int} {M T p : Nat} {t : Int} (h : Bd e M) (ht : -(T : Int) ≤ t ∧ t ≤ T) (hp : p < e.length) : Bd (e.set p (e.getD p 0 + t)) (M + T) := by
  intro q
  rw [getD_set' hp]
  have h1 := h q
  have h2 := h p
  split <;> omega
theorem Bd.mono {e : List Int} {M M' : Nat} (h : Bd e M) (hm : M ≤ M') : Bd e M' := fun p => by have := h p; omega
theorem bd_zero (k : Nat) : Bd (List.replicate k 0) 0 := fun p => by
  rw [List.getD_eq_getElem?_getD, List.getElem?_replicate]; split <;> simp
end Go.PM

namespace Go.Proofs.Ythhfjagnmhhapaa
open Go.W Go.PM
def PtAt (w : World) (g n : Nat) (c : Nat → Nat) : Prop := ∃ ps d, Blk w g 3 (intsL ps) ∧ UF n ps c d
theorem PtAt.ext {w w' : World} {g n : Nat} {c : Nat → Nat} (h : PtAt w g n c) (e : Ex w w') : PtAt w' g n c := by obtain ⟨ps, d, h1, h2⟩ := h; exact ⟨ps, d, h1.ext e, h2⟩
theorem PtAt.chg {w w' : World} {g n b : Nat} {c : Nat → Nat} (h : PtAt w g n c) (e : Chg b w w') (hne : g ≠ b) : PtAt w' g n c := by obtain ⟨ps, d, h1, h2⟩ := h; exact ⟨ps, d, h1.chg e hne, h2⟩
theorem PtAt.lt {w : World} {g n : Nat} {c : Nat → Nat} (h : PtAt w g n c) : g < w.heap.size := by obtain ⟨ps, d, h1, h2⟩ := h; exact h1.lt
theorem PtAt.clt {w : World} {g n : Nat} {c : Nat → Nat} (h : PtAt w g n c) {x : Nat} (hx : x < n) : c x < n := by obtain ⟨ps, d, h1, h2⟩ := h; exact h2.clt x hx
theorem newPart_spec {n : Nat} (h : n ≤ 512) (w : World) : CallsR Try.prog 66 #[.int .i64 (n : Int)] w fun v w' => ∃ g, v = .slice (ba g) n n ∧ w.heap.size ≤ g ∧ PtAt w' g n (fun x => x) ∧ Ex w w' := by
  refine callsR_of (args := [_]) Try.func66 rfl rfl ?_
  repeat' (first | (refine k_makeI rfl rfl (by omega) (by omega) (fun g w1 hn1 => ⟨fun _ _ => trivial, ?_⟩)) | (refine k_pure rfl ?_) | (refine then_normal ?_) | (refine cw_seq ?_) | (refine cw_region rfl ?_) | (refine rr_nil ?_) | (refine k_len rfl ?_) | (refine cw_block ?_))
  refine cw_loop (ι := Nat × List Int) [4, 9, 10, 11, 12, 13, 14, 15, 16] (fun s => [(9, .int .i64 (s.1 : Int))]) (fun s w' => s.1 ≤ n ∧ Ex w w' ∧ Blk w' g 3 (intsL s.2) ∧ s.2.length = n ∧ s.2.take s.1 = idList s.1) (fun s => n - s.1)
    (0, List.replicate n 0) ⟨rfl, trivial⟩ ⟨by simp, hn1.ex, hn1.blk, by simp, rfl⟩ ?_
  rintro ⟨k, rs⟩ ξ w2 ⟨hk, hE, hb, hl2, hT⟩
  simp only at hk hb hl2 hT
  show CW _ _ _ _ (over [(9, .int .i64 (k : Int))] _) w2
  repeat' (first | (refine k_indexN rfl rfl ⟨_, _, rfl⟩ (by omega) ?_) | (refine k_storeI rfl rfl hb (by omega) (fun w3 hc3 hb3 => ⟨fun _ _ => trivial, ?_⟩)) | (refine k_pure rfl ?_) | (refine then_normal ?_) | (refine cw_seq ?_) | (refine cw_region rfl ?_) | (refine rr_nil ?_) | (refine k_addI rfl rfl (by omega) (by omega) ?_) | (refine cw_cond_dec rfl (fun hc => ?_) (fun hc => ?_)) | (refine cw_block ?_) | (refine cw_exit ?_) | (refine then_exit ?_) | (refine in_exit ?_) | (refine in_normal ?_) | (refine cw_ret ?_) | (refine cw_skip ?_))
  · refine ⟨⟨(k + 1, rs.set k (k : Int)), ⟨by simp only; omega, hE.chg hc3 hn1.lo, hb3, by simp [hl2], ?_⟩, by simp only; omega, rfl, trivial⟩, (by (repeat (first | exact agree_mask _ _ _ | refine agree_upd rfl ?_ | refine agree_updO rfl ?_ | refine agree_overIn rfl ?_ | refine agree_maskIn rfl ?_)))⟩
    simp only
    rw [take_set_succ (by omega), hT, idList_succ]
  · obtain rfl : k = n := by omega
    rw [List.take_of_length_le (by omega)] at hT
    subst hT
    exact ret1 rfl (rt rfl) ⟨g, rfl, hn1.lo, ⟨_, _, hb, uf_one _⟩, hE⟩
theorem find_spec {n g : Nat} {c : Nat → Nat} {w : World} (hP : PtAt w g n c) {x : Nat} (hx : x < n) (_hn : n ≤ 512) :
    CallsR Try.prog 73 #[.slice (ba g) n n, .int .i64 (x : Int)] w fun v w' => v = .int .i64 (c x : Int) ∧ Chg g w w' ∧ PtAt w' g n c := by
  refine callsR_of (args := [_, _]) Try.func73 rfl rfl ?_
  obtain ⟨ps, d, hb, hU⟩ := hP
  repeat' (first | (refine k_pure rfl ?_) | (refine then_normal ?_) | (refine cw_seq ?_) | (refine cw_region rfl ?_) | (refine rr_nil ?_) | (refine cw_block ?_))
  refine cw_loop (ι := Nat × List Int) [1, 5, 6, 7, 8, 9, 10, 11, 12, 13, 14, 15, 16, 17, 18, 19, 20, 21, 22, 23, 24] (fun s => [(1, .int .i64 (s.1 : Int))]) (fun s w' => s.1 < n ∧ c s.1 = c x ∧ Chg g w w' ∧ Blk w' g 3 (intsL s.2) ∧ UF n s.2 c d) (fun s => d s.1)
    (x, ps) ⟨rfl, trivial⟩ ⟨hx, rfl, Chg.refl _ _, hb, hU⟩ ?_
  rintro ⟨y, ps1⟩ ξ w1 ⟨hy, hcy, hc1, hb1, hU1⟩
  simp only at hy hcy hb1 hU1
  show CW _ _ _ _ (over [(1, .int .i64 (y : Int))] _) w1
  have hl1 := hU1.len
  have hr := hU1.rng y hy
  obtain ⟨z, hz⟩ : ∃ z : Nat, ps1.getD y 0 = (z : Int) := ⟨(ps1.getD y 0).toNat, by omega⟩
  have hzn : z < n := by omega
  have hr2 := hU1.rng z hzn
  obtain ⟨u, hu⟩ : ∃ u : Nat, ps1.getD z 0 = (u : Int) := ⟨(ps1.getD z 0).toNat, by omega⟩
  repeat' (first | (refine k_indexN (j := y) rfl rfl ⟨_, _, rfl⟩ hy ?_) | (refine k_loadI (j := y) rfl hb1.sl (by omega) ?_) | (refine k_indexN (j := z) rfl (congrArg _ hz) ⟨_, _, rfl⟩ hzn ?_) | (refine k_loadI (j := z) rfl hb1.sl (by omega) ?_) | (refine k_storeI rfl rfl hb1 (by omega) (fun w2 hc2 hb2 => ⟨fun _ _ => trivial, ?_⟩)) | (refine k_pure rfl ?_) | (refine then_normal ?_) | (refine cw_seq ?_) | (refine cw_region rfl ?_) | (refine rr_nil ?_) | (refine cw_cond_dec rfl (fun hc => ?_) (fun hc => ?_)) | (refine cw_block ?_) | (refine cw_exit ?_) | (refine then_exit ?_) | (refine in_exit ?_) | (refine cw_ret ?_) | (refine cw_skip ?_))
  · have hne : ps1.getD y 0 ≠ (y : Int) := by omega
    have hh := hU1.halve hy
    have hs := hU1.step_lt hy hne
    have e : (ps1.getD y 0).toNat = z := by omega
    rw [e] at hh hs
    have e2 : (ps1.getD z 0).toNat = u := by omega
    rw [e2] at hs
    have hg2 : (ps1.set y (ps1.getD z 0)).getD y 0 = (u : Int) := by rw [getD_set' (by omega), if_pos rfl, hu]
    repeat' (first | (refine k_loadI (j := y) rfl hb2.sl (by rw [List.length_set]; omega) ?_) | (refine k_pure rfl ?_) | (refine then_normal ?_) | (refine rr_nil ?_) | (refine in_normal ?_))
    rw [hg2]
    refine ⟨⟨(u, ps1.set y (ps1.getD z 0)), ⟨hs.1, hs.2.1.trans hcy, hc1.trans hc2, hb2, hh⟩, hs.2.2, rfl, trivial⟩, (by (repeat (first | exact agree_mask _ _ _ | refine agree_upd rfl ?_ | refine agree_updO rfl ?_ | refine agree_overIn rfl ?_ | refine agree_maskIn rfl ?_)))⟩
  · have e : ps1.getD y 0 = (y : Int) := by omega
    have := hU1.root y hy e
    refine ret1 rfl (rt rfl) ⟨?_, hc1, ps1, d, hb1, hU1⟩
    rw [← hcy, this]; rfl
theorem join_spec {n g : Nat} {c : Nat → Nat} {p : List Int} {a : Option Addr} {cap : Nat} {w : World} (hP : PtAt w g n c) (hp : Sl w a (u16L p)) (pp : PermN n p) (ha : ∀ ad, a = some ad → ad.block ≠ g) :
    CallsR Try.prog 67 #[.slice (ba g) n n, .slice a n cap] w fun v w' => v = .tuple #[] ∧ Chg g w w' ∧ ∃ c', PtAt w' g n c' ∧ Jn n n p c c' := by
  refine callsR_of (args := [_, _]) Try.func67 rfl rfl ?_
  have n1 := pp.n1
  have hpl : p.length = n := pp.2
  repeat' (first | (refine k_pure rfl ?_) | (refine then_normal ?_) | (refine cw_seq ?_) | (refine cw_region rfl ?_) | (refine rr_nil ?_) | (refine k_len rfl ?_) | (refine cw_block ?_))
  refine cw_loop (ι := Nat × (Nat → Nat)) [4, 5, 8, 9, 10, 11, 12, 13, 14, 15, 16, 17, 18, 19, 20, 21, 22] (fun s => [(8, .int .i64 (s.1 : Int))]) (fun s w' => s.1 ≤ n ∧ Chg g w w' ∧ PtAt w' g n s.2 ∧ Jn n s.1 p c s.2) (fun s => n - s.1)
    (0, c) ⟨rfl, trivial⟩ ⟨Nat.zero_le _, Chg.refl _ _, hP, jn_zero _ _ _⟩ ?_
  rintro ⟨k, c1⟩ ξ w1 ⟨hk, hc1, hP1, hJ1⟩
  simp only at hk hP1 hJ1
  show CW _ _ _ _ (over [(8, .int .i64 (k : Int))] _) w1
  have hp1 := hp.chg hc1 ha
  obtain ⟨y, hy⟩ : ∃ y : Nat, k < n → p.getD k 0 = (y : Int) := ⟨(p.getD k 0).toNat, fun h => by have := pp.1.lt (k := k) (by omega); omega⟩
  have hyn : k < n → y < n := fun h => by have := pp.1.lt (k := k) (by omega); have := hy h; omega
  repeat' (first | (refine k_indexN (j := k) rfl rfl (hp1.plain (by simp; omega)) (by omega) ?_) | (refine k_loadI (j := k) rfl hp1 (by omega) ?_) | (refine k_pure rfl ?_) | (refine then_normal ?_) | (refine cw_seq ?_) | (refine cw_region rfl ?_) | (refine rr_nil ?_) | (refine cw_cond_dec rfl (fun hc => ?_) (fun hc => ?_)) | (refine cw_block ?_) | (refine cw_exit ?_) | (refine then_exit ?_) | (refine in_exit ?_) | (refine cw_skip ?_))
  · have hkn : k < n := by omega
    replace hy := hy hkn
    replace hyn := hyn hkn
    refine k_call (find_spec hP1 hkn n1.2) rfl ?_
    rintro v w2 ⟨rfl, hc2, hP2⟩
    refine ⟨fun _ _ => trivial, ?_⟩
    repeat' (first | (refine k_convI rfl (wrap_i64 (by omega) (by omega)) ?_) | (refine k_pure rfl ?_))
    refine k_call (find_spec hP2 hyn n1.2) (by rw [← hy]; rfl) ?_
    rintro v w3 ⟨rfl, hc3, hP3⟩
    refine ⟨fun _ _ => trivial, ?_⟩
    obtain ⟨ps, d, hb3, hU3⟩ := hP3
    have hcl := hU3.clt k hkn
    repeat' (first | (refine k_indexN (j := c1 k) rfl rfl ⟨_, _, rfl⟩ hcl ?_) | (refine k_storeI (j := c1 k) rfl rfl hb3 (by rw [hU3.len]; exact hcl) (fun w4 hc4 hb4 => ⟨fun _ _ => trivial, ?_⟩)) | (refine k_pure rfl ?_) | (refine then_normal ?_) | (refine cw_region rfl ?_) | (refine rr_nil ?_) | (refine k_addI rfl rfl (by omega) (by omega) ?_) | (refine in_normal ?_))
    obtain ⟨d', hU4⟩ := hU3.join hkn hyn
    have e : (ap p k).toNat = y := by unfold ap; rw [Int.toNat_natCast, hy]; rfl
    have hJ := hJ1.step hkn (fun x hx => by have := pp.ap (x := (x : Int)) (by omega); omega)
    rw [e] at hJ
    refine ⟨⟨(k + 1, jn c1 k y), ⟨by simp only; omega, ((hc1.trans hc2).trans hc3).trans hc4, ⟨_, d', hb4, hU4⟩, hJ⟩, by simp only; omega, rfl, trivial⟩, (by (repeat (first | exact agree_mask _ _ _ | refine agree_upd rfl ?_ | refine agree_updO rfl ?_ | refine agree_overIn rfl ?_ | refine agree_maskIn rfl ?_)))⟩
  · obtain rfl : k = n := by omega
    exact end0 rfl ⟨rfl, hc1, c1, hP1, hJ1⟩
end Go.Proofs.Ythhfjagnmhhapaa

namespace Go.W
theorem k_allocA {P : Program} {S : World → Prop} {ops : List Oper} {K : Env → World → Prop} {rest : List (Oper × Option Bool)} {ρ : Env} {w : World} {kf : Bool} {d : Nat} {T : TypeId} {pos : String} {af : Array Edge} {T1 : TypeId} {vs : List Value} [hz : Zro P T1 (.agg vs.toArray)]
    (h : ∀ g w', New w w' g T1 vs → (kf = true → S w → S w') ∧ RR P S ops K rest (upd ρ d (.pointer (some ⟨g, 0, none⟩))) w') :
    RR P S ops K ((⟨some d, .alloc T1, T, pos, af, none⟩, some kf) :: rest) ρ w := k_alloc (z := .agg vs.toArray) (fun g w' hn => h g w' hn)
end Go.W
namespace Go.Proofs.Ythhfjagnmhhapaa
open Go.W Go.PM
def num0 : List Int := List.replicate 513 0
theorem num0_len : num0.length = 513 := List.length_replicate
theorem zNum : Zro Try.prog 177 (.agg (intsL num0).toArray) := ⟨by kernel_rfl⟩
theorem scaled_spec {e : List Int} {a b u v n M T : Nat} {t : Int} {w : World} (hR : Rep e a b) (hB : Bd e M) (hn : 1 ≤ n ∧ n ≤ 512) (ht : t = (u : Int) - v) (hT : -(T : Int) ≤ t ∧ t ≤ T) (hM : M + T * 512 ≤ 1000000000000000) :
    CallsR Try.prog 135 #[.agg (intsL e).toArray, .int .i64 (n : Int), .int .i64 t] w fun r w' => ∃ e', r = .agg (intsL e').toArray ∧ Rep e' (a * n ^ u) (b * n ^ v) ∧ Bd e' (M + T * 512) ∧ Ex w w' := by
  refine callsR_of (args := [_, _, _]) Try.func135 rfl rfl ?_
  repeat' (first | (refine k_boxA rfl (fun g w1 hn1 => ⟨fun _ _ => trivial, ?_⟩)) | (refine k_allocA (vs := intsL num0) (hz := zNum) (fun g2 w2 hn2 => ⟨fun _ _ => trivial, ?_⟩)) | (refine k_pure rfl ?_) | (refine then_normal ?_) | (refine cw_seq ?_) | (refine cw_region rfl ?_) | (refine rr_nil ?_) | (refine cw_block ?_))
  have hE2 : Ex w w2 := hn1.ex.trans hn2.ex
  have hb2 : Blk w2 g2 177 (intsL num0) := hn2.blk
  have hb1 : Blk w2 g 177 (intsL e) := Blk.ext hn1.blk hn2.ex
  have z1 := hn1.lo
  have z1' := hn1.hi
  have z2 := hn2.lo
  have z12 := hn1.ex.size
  refine cw_loop (ι := Nat × Nat × List Int × Nat) [1, 7, 8, 9, 10, 11, 12, 13, 14, 15, 16, 17, 18, 19, 20, 21, 22, 23, 24] (fun s => [(7, .int .i64 (s.1 : Int)), (1, .int .i64 (s.2.1 : Int))]) (fun s w' => 2 ≤ s.1 ∧ 1 ≤ s.2.1 ∧ s.2.2.2 * s.2.1 = n ∧ 1 ≤ s.2.2.2 ∧ Rep s.2.2.1 (a * s.2.2.2 ^ u) (b * s.2.2.2 ^ v) ∧ Bd s.2.2.1 (M + T * s.2.2.2) ∧ (∀ d, 2 ≤ d → d < s.1 → ¬ d ∣ s.2.1) ∧ Ex w w' ∧ Blk w' g 177 (intsL s.2.2.1) ∧ Blk w' g2 177 (intsL num0)) (fun s => 600 - s.1)
    (2, n, e, 1) ⟨rfl, rfl, trivial⟩ ⟨by simp, hn.1, by simp, by simp, by simpa using hR, hB.mono (by simp), fun d h1 h2 => absurd h2 (by simp only; omega), hE2, hb1, hb2⟩ ?_
  rintro ⟨p, m, e1, c⟩ ξ w3 ⟨hp, hm, hcm, hc1, hR3, hB3, hd3, hE3, hb3, hb3'⟩
  simp only at hp hm hcm hc1 hR3 hB3 hd3 hb3 hb3'
  show CW _ _ _ _ (over [(7, .int .i64 (p : Int)), (1, .int .i64 (m : Int))] _) w3
  have hmn : m ≤ n := by rw [← hcm]; exact Nat.le_mul_of_pos_left _ hc1
  repeat' (first | (refine k_pure rfl ?_) | (refine then_normal ?_) | (refine cw_seq ?_) | (refine cw_region rfl ?_) | (refine rr_nil ?_) | (refine cw_cond_dec rfl (fun hc => ?_) (fun hc => ?_)) | (refine cw_block ?_) | (refine cw_exit ?_) | (refine then_exit ?_) | (refine in_exit ?_) | (refine cw_skip ?_))
  · have hm1 : 1 < m := by omega
    have hpm : p ≤ m := Classical.byContradiction fun h => hd3 m (by omega) (by omega) (Nat.dvd_refl m)
    refine cw_loop (ι := Nat × List Int × Nat) [1, 12, 13, 14, 15, 16, 17, 18, 19, 20, 21, 22, 23, 24] (fun s => [(1, .int .i64 (s.1 : Int))]) (fun s w' => 1 ≤ s.1 ∧ s.2.2 * s.1 = n ∧ 1 ≤ s.2.2 ∧ Rep s.2.1 (a * s.2.2 ^ u) (b * s.2.2 ^ v) ∧ Bd s.2.1 (M + T * s.2.2) ∧ (∀ d, 2 ≤ d → d < p → ¬ d ∣ s.1) ∧ Ex w w' ∧ Blk w' g 177 (intsL s.2.1) ∧ Blk w' g2 177 (intsL num0)) (fun s => s.1)
      (m, e1, c) ⟨rfl, trivial⟩ ⟨hm, hcm, hc1, hR3, hB3, hd3, hE3, hb3, hb3'⟩ ?_
    rintro ⟨m2, e2, c2⟩ ξ2 w4 ⟨hm4, hcm4, hc4, hR4, hB4, hd4, hE4, hb4, hb4'⟩
    simp only at hm4 hcm4 hc4 hR4 hB4 hd4 hb4 hb4'
    show CW _ _ _ _ (over [(1, .int .i64 (m2 : Int))] _) w4
    have hm2n : m2 ≤ n := by rw [← hcm4]; exact Nat.le_mul_of_pos_left _ hc4
    have hc2n : c2 ≤ n := by rw [← hcm4]; exact Nat.le_mul_of_pos_right _ hm4
    have hel := hR4.1
    have hbp := hB4 p
    have hTc : T * c2 ≤ T * 512 := Nat.mul_le_mul_left _ (by omega)
    repeat' (first | (refine k_rem rfl rfl (by omega) (by omega) ?_) | (refine k_indexA1 (j := p) rfl rfl (by omega) ?_) | (refine k_loadI (j := p) rfl hb4.sl (by omega) ?_) | (refine k_quoI rfl rfl (by omega) (by omega) (by omega) ?_) | (refine k_storeI (j := p) rfl rfl hb4 (by omega) (fun w5 hc5 hb5 => ⟨fun _ _ => trivial, ?_⟩)) | (refine k_pure rfl ?_) | (refine then_normal ?_) | (refine cw_seq ?_) | (refine cw_region rfl ?_) | (refine rr_nil ?_) | (refine k_addI rfl rfl (by omega) (by omega) ?_) | (refine cw_cond_dec rfl (fun hc => ?_) (fun hc => ?_)) | (refine cw_block ?_) | (refine cw_exit ?_) | (refine then_exit ?_) | (refine in_exit ?_) | (refine in_normal ?_) | (refine cw_skip ?_))
    · have hdv : p ∣ m2 := by
        have h0 : (m2 : Int) % (p : Int) = 0 := by omega
        rw [← Int.natCast_emod] at h0
        exact Nat.dvd_of_mod_eq_zero (by omega)
      obtain ⟨q, hq⟩ := hdv
      have hq' : (m2 : Int) / (p : Int) = (q : Int) := by rw [← Int.natCast_ediv, hq, Nat.mul_div_cancel_left _ (by omega)]
      have hq0 : 1 ≤ q := by
        rcases Nat.eq_zero_or_pos q with h | h
        · rw [h] at hq; omega
        · exact h
      have hql : q < m2 := by
        have h3 : 2 * q ≤ p * q := Nat.mul_le_mul_right _ hp
        omega
      rw [hq']
      have e3 : c2 * p * q = n := by rw [Nat.mul_assoc, ← hq]; exact hcm4
      have hstep := hR4.step (p := p) (u := u) (v := v) (by omega)
      have hbst := hB4.step (p := p) hT (by rw [hel]; omega)
      rw [← ht] at hstep
      refine ⟨⟨(q, e2.set p (e2.getD p 0 + t), c2 * p), ⟨hq0, e3, Nat.mul_pos hc4 (by omega), ?_, hbst.mono ?_, fun d h1 h2 h3 => hd4 d h1 h2 (by rw [hq]; exact Nat.dvd_trans h3 (Nat.dvd_mul_left q p)), hE4.chg hc5 z1, hb5, hb4'.chg hc5 (by omega)⟩, hql, rfl, trivial⟩, (by (repeat (first | exact agree_mask _ _ _ | refine agree_upd rfl ?_ | refine agree_updO rfl ?_ | refine agree_overIn rfl ?_ | refine agree_maskIn rfl ?_)))⟩
      · simp only [Nat.mul_pow]
        rw [← Nat.mul_assoc, ← Nat.mul_assoc]; exact hstep
      · simp only
        have h3 : T * (c2 + 1) ≤ T * (c2 * p) := Nat.mul_le_mul_left _ (by
          have : c2 * 2 ≤ c2 * p := Nat.mul_le_mul_left _ hp
          omega)
        rw [Nat.mul_add] at h3; omega
    · have hnd : ¬ p ∣ m2 := fun h => by
        obtain ⟨q, hq⟩ := h
        apply hc
        rw [hq, Int.natCast_mul, Int.mul_emod_right]
      refine ⟨⟨(p + 1, m2, e2, c2), ⟨by simp only; omega, hm4, hcm4, hc4, hR4, hB4, fun d h1 h2 => ?_, hE4, hb4, hb4'⟩, by simp only; omega, rfl, rfl, trivial⟩, (by (repeat (first | exact agree_mask _ _ _ | refine agree_upd rfl ?_ | refine agree_updO rfl ?_ | refine agree_overIn rfl ?_ | refine agree_maskIn rfl ?_)))⟩
      have h2 : d < p + 1 := h2
      by_cases e : d = p
      · subst e; exact hnd
      · exact hd4 d h1 (by omega)
  · obtain rfl : m = 1 := by omega
    rw [Nat.mul_one] at hcm
    subst hcm
    repeat' (first | (refine k_loadCA rfl hb3 (by simp [hR3.1]) ?_) | (refine k_storeV rfl rfl (by simp [hR3.1]) (all_one (fun _ => rfl) _) hb3' (by simp [num0_len]) (fun w4 hc4 hb4 => ⟨fun _ _ => trivial, ?_⟩)) | (refine then_normal ?_) | (refine rr_nil ?_) | (refine cw_ret ?_))
    exact ret1 rfl (rc rfl (by simp [hR3.1]) hb4) ⟨e1, rfl, hR3, hB3.mono (Nat.add_le_add_left (Nat.mul_le_mul_left _ hn.2) _), hE3.chg hc4 (by omega)⟩
end Go.Proofs.Ythhfjagnmhhapaa

