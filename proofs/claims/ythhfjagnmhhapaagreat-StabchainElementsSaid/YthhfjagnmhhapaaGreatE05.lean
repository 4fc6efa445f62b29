
import Derived.Test.YthhfjagnmhhapaaGreatE01
import Derived.Test.YthhfjagnmhhapaaGreatE02
import Derived.Test.YthhfjagnmhhapaaGreatE03
import Derived.Test.YthhfjagnmhhapaaGreatE04

namespace Go.Proofs.YthhfjagnmhhapaaGreat
open Go.W Go.PM
abbrev srcL (pool prod : Value) (cb o : Nat) : List Value := [pool, prod, .pointer (some ⟨cb, o, none⟩)]
theorem choose_spec {sb cb o Tc st n : Nat} {pool prod : Value} {cs : List Value} {w : World} (hs : Blk w sb 136 (srcL pool prod cb o)) (hc : Blk w cb Tc cs) (ho : cs[o]? = some (.int .u64 (st : Int))) (hne : sb ≠ cb) (hst : st < 18446744073709551616)
    (hn : 1 ≤ n ∧ n ≤ 1000000000000) :
    CallsR Tryz.prog 89 #[.pointer (some ⟨sb, 0, none⟩), .int .i64 (n : Int)] w fun v w' =>
      ∃ r st' : Nat, v = .int .i64 (r : Int) ∧ r < n ∧ st' < 18446744073709551616 ∧ Chg cb w w' ∧ Blk w' cb Tc (cs.set o (.int .u64 (st' : Int))) := by
  refine callsR_of (args := [_, _]) Tryz.func89 rfl rfl ?_
  have hol : o < cs.length := (List.getElem?_eq_some_iff.1 ho).1
  have hob : Nat.blt o cs.length = true := by simpa [Nat.blt_eq] using hol
  repeat' (first | (refine k_pure rfl ?_) | (refine then_normal ?_) | (refine cw_seq ?_) | (refine cw_region rfl ?_) | (refine rr_nil ?_))
  refine cw_draw (late := [15]) (plan := [(0, none), (1, none), (2, none), (3, none), (4, none), (5, none), (6, none), (7, none), (8, none), (9, none), (10, none), (11, none), (12, none), (13, none), (14, none), (15, some false)]) (fun w' => Blk w' sb 136 (srcL pool prod cb o) ∧ Blk w' cb Tc cs) mixed (by kernel_rfl) ⟨hs.drew, hc.drew⟩ ?_
  repeat' (first | (refine k_loadC rfl (fun _ h => h.1) rfl ?_) | (refine k_loadC rfl (fun _ h => h.2) ho ?_) | (refine k_shlN (j := 13) rfl rfl rfl (by decide) ?_) | (refine k_xorN rfl rfl rfl hst (Nat.mod_lt _ (by decide)) ?_) | (refine k_storeC rfl rfl rfl hc.drew hob (fun w1 hc1 hb1 => ⟨fun h => (nomatch h), ?_⟩)) | (refine k_pure rfl ?_) | (refine then_normal ?_) | (refine cw_seq ?_) | (refine rr_nil ?_) | (refine k_fieldAddr rfl ?_))
  have hst1 : (st ^^^ st <<< 13 % 2 ^ IntKind.u64.bits) < 2 ^ IntKind.u64.bits := Nat.xor_lt_two_pow hst (Nat.mod_lt _ (by decide))
  generalize (st ^^^ st <<< 13 % 2 ^ IntKind.u64.bits) = st1 at *
  have hs1 := hs.drew.chg hc1 hne
  refine cw_draw (late := [15]) (plan := [(0, none), (1, none), (2, none), (3, none), (4, none), (5, none), (6, none), (7, none), (8, none), (9, none), (10, none), (11, none), (12, none), (13, none), (14, none), (15, some false)]) (fun w' => Blk w' sb 136 (srcL pool prod cb o) ∧ Blk w' cb Tc (cs.set o (.int .u64 (st1 : Int)))) mixed (by kernel_rfl) ⟨hs1.drew, hb1.drew⟩ ?_
  have ho1 : (cs.set o (.int .u64 (st1 : Int)))[o]? = some (.int .u64 (st1 : Int)) := by rw [List.getElem?_set_self hol]
  repeat' (first | (refine k_loadC rfl (fun _ h => h.1) rfl ?_) | (refine k_loadC rfl (fun _ h => h.2) ho1 ?_) | (refine k_shrN (j := 7) rfl rfl (.inl rfl) ?_) | (refine k_xorN rfl rfl rfl hst1 (Nat.lt_of_le_of_lt (Nat.shiftRight_le ..) hst1) ?_) | (refine k_storeC rfl rfl rfl hb1.drew (by rw [List.length_set]; exact hob) (fun w2 hc2 hb2 => ⟨fun h => (nomatch h), ?_⟩)) | (refine k_pure rfl ?_) | (refine then_normal ?_) | (refine cw_seq ?_) | (refine rr_nil ?_) | (refine k_fieldAddr rfl ?_))
  have hst2 : (st1 ^^^ st1 >>> 7) < 2 ^ IntKind.u64.bits := Nat.xor_lt_two_pow hst1 (Nat.lt_of_le_of_lt (Nat.shiftRight_le ..) hst1)
  generalize (st1 ^^^ st1 >>> 7) = st2 at *
  rw [List.set_set] at hb2
  have hs2 := hs1.drew.chg hc2 hne
  refine cw_draw (late := [15]) (plan := [(0, none), (1, none), (2, none), (3, none), (4, none), (5, none), (6, none), (7, none), (8, none), (9, none), (10, none), (11, none), (12, none), (13, none), (14, none), (15, some false)]) (fun w' => Blk w' sb 136 (srcL pool prod cb o) ∧ Blk w' cb Tc (cs.set o (.int .u64 (st2 : Int)))) mixed (by kernel_rfl) ⟨hs2.drew, hb2.drew⟩ ?_
  have ho2 : (cs.set o (.int .u64 (st2 : Int)))[o]? = some (.int .u64 (st2 : Int)) := by rw [List.getElem?_set_self hol]
  repeat' (first | (refine k_loadC rfl (fun _ h => h.1) rfl ?_) | (refine k_loadC rfl (fun _ h => h.2) ho2 ?_) | (refine k_shlN (j := 17) rfl rfl rfl (by decide) ?_) | (refine k_xorN rfl rfl rfl hst2 (Nat.mod_lt _ (by decide)) ?_) | (refine k_storeC rfl rfl rfl hb2.drew (by rw [List.length_set]; exact hob) (fun w3 hc3 hb3 => ⟨fun h => (nomatch h), ?_⟩)) | (refine k_pure rfl ?_) | (refine then_normal ?_) | (refine cw_seq ?_) | (refine cw_region rfl ?_) | (refine rr_nil ?_) | (refine k_fieldAddr rfl ?_))
  have hst3 : (st2 ^^^ st2 <<< 17 % 2 ^ IntKind.u64.bits) < 2 ^ IntKind.u64.bits := Nat.xor_lt_two_pow hst2 (Nat.mod_lt _ (by decide))
  generalize (st2 ^^^ st2 <<< 17 % 2 ^ IntKind.u64.bits) = st3 at *
  rw [List.set_set] at hb3
  have hs3 := hs2.drew.chg hc3 hne
  have ho3 : (cs.set o (.int .u64 (st3 : Int)))[o]? = some (.int .u64 (st3 : Int)) := by rw [List.getElem?_set_self hol]
  have hm1 := Int.emod_nonneg ((st3 >>> 20 : Nat) : Int) (show (n : Int) ≠ 0 by omega)
  have hm2 := Int.emod_lt_of_pos ((st3 >>> 20 : Nat) : Int) (show 0 < (n : Int) by omega)
  repeat' (first | (refine k_loadC rfl hs3 rfl ?_) | (refine k_loadC rfl hb3 ho3 ?_) | (refine k_shrN (j := 20) rfl rfl (.inl rfl) ?_) | (refine k_convI rfl (wrap_u64 (by omega) (by omega)) ?_) | (refine k_rem rfl rfl (by omega) (by omega) ?_) | (refine k_convI rfl (wrap_i64 (by omega) (by omega)) ?_) | (refine k_pure rfl ?_) | (refine then_normal ?_) | (refine rr_nil ?_) | (refine cw_ret ?_))
  refine ret1 rfl (rt rfl) ⟨(st3 >>> 20) % n, st3, by show Value.int .i64 (((st3 >>> 20 : Nat) : Int) % (n : Int)) = _; rw [Int.natCast_emod], Nat.mod_lt _ (by omega), hst3, ?_, hb3⟩
  exact ((Chg.refl cb w).drew.trans hc1).drew.trans (hc2.drew.trans hc3)
end Go.Proofs.YthhfjagnmhhapaaGreat

/- Maps with int keys. -/
namespace Go.W
open Go.RowKit (Below)
variable {P : Program} {S : World → Prop} {ops : List Oper} {K : Env → World → Prop} {rest : List (Oper × Option Bool)} {ρ : Env} {w : World} {b : Option Bool} {kf : Bool} {d : Nat} {T T' : TypeId} {pos : String} {af : Array Edge}
/-- block r is a map with these keys and values, the oldest first -/
def MapAt (w : World) (r : Nat) (l : List (Int × Value)) : Prop := ∃ es clock, w.heap[r]? = some (.map es clock) ∧ es.toList.map (fun e => (e.key, e.val)) = l.map fun p => (Value.int .i64 p.1, p.2)
theorem MapAt.lt {r : Nat} {l : List (Int × Value)} (h : MapAt w r l) : r < w.heap.size := by
  obtain ⟨es, c, h, _⟩ := h; exact (Array.getElem?_eq_some_iff.1 h).1
theorem MapAt.of_block {w' : World} {r : Nat} {l : List (Int × Value)} (h : MapAt w r l) (hb : w'.heap[r]? = w.heap[r]?) : MapAt w' r l := by
  obtain ⟨es, c, h, e⟩ := h; exact ⟨es, c, hb.trans h, e⟩
theorem MapAt.ext {w' : World} {r : Nat} {l : List (Int × Value)} (h : MapAt w r l) (e : Ex w w') : MapAt w' r l := h.of_block (e.block r h.lt)
theorem MapAt.chg {w' : World} {r g : Nat} {l : List (Int × Value)} (h : MapAt w r l) (c : Chg g w w') (hne : r ≠ g) : MapAt w' r l := h.of_block (c.block r hne)
theorem MapAt.fr {F : Nat → Prop} {w' : World} {r : Nat} {l : List (Int × Value)} (h : MapAt w r l) (c : Fr F w w') (hne : ¬ F r) : MapAt w' r l := h.of_block (c.block r h.lt hne)
def findK (k : Int) : List (Int × Value) → Nat → Option (Nat × Value)
  | [], _ => none
  | p :: l, i => if p.1 = k then some (i, p.2) else findK k l (i + 1)
theorem findNow_eq {k : Int} : ∀ {es : List MapEntry} {l : List (Int × Value)} (i : Nat), es.map (fun e => (e.key, e.val)) = l.map (fun p => (Value.int .i64 p.1, p.2)) →
    Instr.findNow (.int .i64) (.int .i64 k) es i = some (findK k l i)
  | [], [], _, _ => rfl
  | [], _ :: _, _, h => by simp at h
  | _ :: _, [], _, h => by simp at h
  | e :: es, p :: l, i, h => by
    simp only [List.map_cons, List.cons.injEq, Prod.mk.injEq] at h
    rw [Instr.findNow, h.1.1, findK]
    by_cases hk : p.1 = k
    · subst hk; simp [Instr.sameNow, h.1.2]
    · have : (k == p.1) = false := by simp; omega
      simp [Instr.sameNow, this, hk, findNow_eq (i + 1) h.2]
theorem run_getObj' {w : World} {r : Nat} {es : Array MapEntry} {c : Nat} (h : w.heap[r]? = some (.map es c)) : (getObj r).run P w = .ok (.map es c) w := by
  simp [getObj, Sem.run, h]
theorem run_setObj' {w : World} {r : Nat} {es : Array MapEntry} {c : Nat} (o : Obj) (h : w.heap[r]? = some (.map es c)) : (setObj r o).run P w = .ok () { w with heap := w.heap.setIfInBounds r o } := by
  simp [setObj, Sem.run, h]
theorem run_checkKeyN {w : World} {e : Bool} {n : Nat} {Kt : TypeId} {k : Int} (hk : P.underlying Kt = some (.int .i64)) : (Instr.checkKey e (n + 1) Kt (.int .i64 k)).run P w = .ok () w := by
  rw [Instr.checkKey]; simp [run_underlying hk]
theorem run_checkKey {w : World} {e : Bool} {Kt : TypeId} {k : Int} (hk : P.underlying Kt = some (.int .i64)) : (Instr.checkKey e 10000 Kt (.int .i64 k)).run P w = .ok () w := run_checkKeyN (n := 9999) hk
theorem run_findKey {w : World} {Kt : TypeId} {k : Int} {es : List MapEntry} {l : List (Int × Value)} (hk : P.underlying Kt = some (.int .i64)) (he : es.map (fun e => (e.key, e.val)) = l.map (fun p => (Value.int .i64 p.1, p.2))) :
    (Instr.findKey Kt (.int .i64 k) es).run P w = .ok (findK k l 0) w := by
  simp [Instr.findKey, run_underlying hk, findNow_eq 0 he]
theorem k_lookup {x y : Operand} {Kt E r i : Nat} {k : Int} {l : List (Int × Value)} {v : Value} (hm : P.underlying T' = some (.map Kt E)) (hk : P.underlying Kt = some (.int .i64)) (hx : ev ρ x = .map (some r)) (hy : ev ρ y = .int .i64 k)
    (hs : Rd b S w fun w' => MapAt w' r l) (hf : findK k l 0 = some (i, v)) (h : RR P S ops K rest (upd ρ d v) w) :
    RR P S ops K ((⟨some d, .lookup T' x y false, T, pos, af, none⟩, b) :: rest) ρ w := by
  refine rr_read rfl rfl (hs.imp fun w' hw => ?_) h
  obtain ⟨es, c, hb, he⟩ := hw
  have h1 := run_findKey (w := w') (P := P) (k := k) hk he
  have h2 := run_checkKey (w := w') (P := P) (k := k) (e := es.isEmpty) hk
  simp [execOp, Instr.lookup, hx, hy, run_underlying hm, run_getObj' hb, h1, h2, hf]
theorem k_lookupOk {x y : Operand} {Kt E r : Nat} {k : Int} {l : List (Int × Value)} {z : Value} [Zro P E z] (hm : P.underlying T' = some (.map Kt E)) (hk : P.underlying Kt = some (.int .i64)) (hx : ev ρ x = .map (some r)) (hy : ev ρ y = .int .i64 k)
    (hs : Rd b S w fun w' => MapAt w' r l) (h : RR P S ops K rest (upd ρ d (match findK k l 0 with | some (_, v) => .tuple #[v, .bool true] | none => .tuple #[z, .bool false])) w) :
    RR P S ops K ((⟨some d, .lookup T' x y true, T, pos, af, none⟩, b) :: rest) ρ w := by
  refine rr_read rfl rfl (hs.imp fun w' hw => ?_) h
  obtain ⟨es, c, hb, he⟩ := hw
  have h1 := run_findKey (w := w') (P := P) (k := k) hk he
  have h2 := run_checkKey (w := w') (P := P) (k := k) (e := es.isEmpty) hk
  have hz := run_zero (P := P) (w := w') (T := E) (v := z)
  cases hf : findK k l 0 with
  | none => simp [execOp, Instr.lookup, hx, hy, run_underlying hm, run_getObj' hb, h1, h2, hf, hz]
  | some q => simp [execOp, Instr.lookup, hx, hy, run_underlying hm, run_getObj' hb, h1, h2, hf]
theorem k_makeMap (h : ∀ r w', Ex w w' → w.heap.size ≤ r → MapAt w' r [] → (kf = true → S w → S w') ∧ RR P S ops K rest (upd ρ d (.map (some r))) w') :
    RR P S ops K ((⟨some d, .makeMap T' none, T, pos, af, none⟩, some kf) :: rest) ρ w := by
  refine rr_eff rfl ?_
  unfold OpW
  have : (execOp (ev ρ) ⟨some d, .makeMap T' none, T, pos, af, none⟩).run P w = .ok (.value (.map (some w.heap.size))) (w.alloc (.map #[] 0)) := by
    simp [execOp, Instr.makeMap]
  rw [this]
  exact h _ _ (Ex.alloc w _) (Nat.le_refl _) ⟨#[], 0, heap_alloc_new w _, rfl⟩
theorem findK_none {k : Int} : ∀ {l : List (Int × Value)} (i : Nat), (∀ p ∈ l, p.1 ≠ k) → findK k l i = none
  | [], _, _ => rfl
  | p :: l, i, h => by rw [findK, if_neg (h p (by simp)), findK_none (i + 1) fun q hq => h q (by simp [hq])]
theorem findK_at {k : Int} : ∀ {l : List (Int × Value)} (i j : Nat) {v : Value}, l[j]? = some (k, v) → (∀ j' p, j' < j → l[j']? = some p → p.1 ≠ k) → findK k l i = some (i + j, v)
  | [], _, j, _, h, _ => by simp at h
  | p :: l, i, 0, v, h, _ => by
    simp only [List.getElem?_cons_zero, Option.some.injEq] at h
    subst h; rw [findK, if_pos rfl]; rfl
  | p :: l, i, j + 1, v, h, hn => by
    rw [findK, if_neg (hn 0 p (by omega) (by simp)), findK_at (i + 1) j (by simpa using h) (fun j' q hj hq => hn (j' + 1) q (by omega) (by simpa using hq))]
    rw [Nat.add_right_comm]; rfl
theorem eraseIdx_map' {α β : Type} (f : α → β) : ∀ (l : List α) (i : Nat), (l.eraseIdx i).map f = (l.map f).eraseIdx i
  | [], _ => by simp
  | _ :: _, 0 => by simp
  | a :: l, i + 1 => by simp [eraseIdx_map' f l i]
theorem set_chg {r : Nat} {o : Obj} : Chg r w { w with heap := w.heap.setIfInBounds r o } :=
  ⟨rfl, rfl, rfl, by simp, fun k hk => by simp [Ne.symm hk]⟩
/-- a new key -/
theorem k_mapNew {x y z : Operand} {Kt E r : Nat} {k : Int} {l : List (Int × Value)} {v : Value} (hm : P.underlying T' = some (.map Kt E)) (hk : P.underlying Kt = some (.int .i64)) (hx : ev ρ x = .map (some r)) (hy : ev ρ y = .int .i64 k) (hz : ev ρ z = v)
    (hs : MapAt w r l) (hf : ∀ p ∈ l, p.1 ≠ k) (h : ∀ w', Chg r w w' → MapAt w' r (l ++ [(k, v)]) → (kf = true → S w → S w') ∧ RR P S ops K rest ρ w') :
    RR P S ops K ((⟨none, .mapUpdate T' x y z, T, pos, af, none⟩, some kf) :: rest) ρ w := by
  refine rr_eff rfl ?_
  unfold OpW
  obtain ⟨es, c, hb, he⟩ := hs
  have h1 := run_findKey (w := w) (P := P) (k := k) hk he
  rw [findK_none 0 hf] at h1
  have h2 := run_checkKey (w := w) (P := P) (k := k) (e := false) hk
  have : (execOp (ev ρ) ⟨none, .mapUpdate T' x y z, T, pos, af, none⟩).run P w = .ok .skip { w with heap := w.heap.setIfInBounds r (.map (es.push ⟨.int .i64 k, v, c⟩) (c + 1)) } := by
    simp [execOp, Instr.mapUpdate, hx, hy, hz, run_underlying hm, run_getObj' hb, h1, h2, run_setObj' _ hb]
  rw [this]
  refine h _ set_chg ⟨es.push ⟨.int .i64 k, v, c⟩, c + 1, ?_, by simp [he]⟩
  have := (Array.getElem?_eq_some_iff.1 hb).1
  simp [this]
theorem k_mapDel {x y : Operand} {Kt E r i : Nat} {T2 : TypeId} {k : Int} {l : List (Int × Value)} {v : Value} (hm : P.underlying T' = some (.map Kt E)) (hk : P.underlying Kt = some (.int .i64)) (hx : ev ρ x = .map (some r)) (hy : ev ρ y = .int .i64 k)
    (hs : MapAt w r l) (hf : findK k l 0 = some (i, v)) (hi : i < l.length) (h : ∀ w', Chg r w w' → MapAt w' r (l.eraseIdx i) → (kf = true → S w → S w') ∧ RR P S ops K rest ρ w') :
    RR P S ops K ((⟨none, .call ⟨.builtin .delete, #[x, y], #[T', T2]⟩, T, pos, af, none⟩, some kf) :: rest) ρ w := by
  refine rr_eff rfl ?_
  unfold OpW
  obtain ⟨es, c, hb, he⟩ := hs
  have h1 := run_findKey (w := w) (P := P) (k := k) hk he
  rw [hf] at h1
  have h2 := run_checkKey (w := w) (P := P) (k := k) (e := es.isEmpty) hk
  have hl : es.size = l.length := by have := congrArg List.length he; simpa using this
  have : (execOp (ev ρ) ⟨none, .call ⟨.builtin .delete, #[x, y], #[T', T2]⟩, T, pos, af, none⟩).run P w = .ok (.value (.tuple #[])) { w with heap := w.heap.setIfInBounds r (.map (es.eraseIdxIfInBounds i) c) } := by
    rw [BigFrame.execOp_builtin]
    simp [BigFrame.builtin_delete, Builtin.delete_, hx, hy, run_underlying hm, run_getObj' hb, h1, h2, run_setObj' _ hb]
  rw [this]
  refine h _ set_chg ⟨es.eraseIdxIfInBounds i, c, ?_, ?_⟩
  · have := (Array.getElem?_eq_some_iff.1 hb).1
    simp [this]
  · rw [Array.eraseIdxIfInBounds, dif_pos (by omega)]
    have e1 : (es.eraseIdx i (by omega)).toList = es.toList.eraseIdx i := by simp
    rw [e1, eraseIdx_map', eraseIdx_map', he]
theorem k_mapDel0 {x y : Operand} {Kt E r : Nat} {T2 : TypeId} {k : Int} {l : List (Int × Value)} (hm : P.underlying T' = some (.map Kt E)) (hk : P.underlying Kt = some (.int .i64)) (hx : ev ρ x = .map (some r)) (hy : ev ρ y = .int .i64 k)
    (hs : MapAt w r l) (hf : ∀ p ∈ l, p.1 ≠ k) (h : ∀ w', Chg r w w' → MapAt w' r l → (kf = true → S w → S w') ∧ RR P S ops K rest ρ w') :
    RR P S ops K ((⟨none, .call ⟨.builtin .delete, #[x, y], #[T', T2]⟩, T, pos, af, none⟩, some kf) :: rest) ρ w := by
  refine rr_eff rfl ?_
  unfold OpW
  obtain ⟨es, c, hb, he⟩ := hs
  have h1 := run_findKey (w := w) (P := P) (k := k) hk he
  rw [findK_none 0 hf] at h1
  have h2 := run_checkKey (w := w) (P := P) (k := k) (e := es.isEmpty) hk
  have : (execOp (ev ρ) ⟨none, .call ⟨.builtin .delete, #[x, y], #[T', T2]⟩, T, pos, af, none⟩).run P w = .ok (.value (.tuple #[])) { w with heap := w.heap.setIfInBounds r (.map es c) } := by
    rw [BigFrame.execOp_builtin]
    simp [BigFrame.builtin_delete, Builtin.delete_, hx, hy, run_underlying hm, run_getObj' hb, h1, h2, run_setObj' _ hb]
  rw [this]
  refine h _ set_chg ⟨es, c, ?_, he⟩
  have := (Array.getElem?_eq_some_iff.1 hb).1
  simp [this]
end Go.W

namespace Go.Proofs.YthhfjagnmhhapaaGreat
open Go.W Go.PM
/-- where a level lies: the blocks of its struct, its rows and the immutable blocks that it reads -/
structure LH where
  blk : Nat
  ob : Nat
  oc : Nat
  wb : Nat
  bb : Nat
  bc : Nat
  bs : List SD
  db : Nat
  dc : Nat
  ga : Option Addr
  gc : Nat
  gs : List SD
  im : List Nat
def LH.F (h : LH) : List Nat := [h.blk, h.ob, h.wb, h.bb, h.db]
abbrev ba (b : Nat) : Option Addr := some ⟨b, 0, none⟩
def whereAt (orb : List Int) (x : Int) : Int := if x ∈ orb then (orb.idxOf x : Int) else -1
def whereL (n : Nat) (orb : List Int) : List Int := (idList n).map (whereAt orb)
theorem whereL_len (n : Nat) (orb : List Int) : (whereL n orb).length = n := by simp [whereL, idList_length]
theorem whereL_getD {n : Nat} (orb : List Int) {k : Nat} (h : k < n) : (whereL n orb).getD k 0 = whereAt orb k := by
  have := idList_getD h
  rw [whereL, List.getD_eq_getElem?_getD, List.getElem?_map, List.getElem?_eq_getElem (by rw [idList_length]; exact h)]
  rw [List.getD_eq_getElem?_getD, List.getElem?_eq_getElem (by rw [idList_length]; exact h)] at this
  simp only [Option.getD_some] at this
  simp only [Option.map_some, Option.getD_some, this]
abbrev natsL (xs : List Nat) : List Value := xs.map fun (k : Nat) => Value.int .i64 (k : Int)
def lvL (n : Nat) (h : LH) (l : Lv) : List Value := [.int .i64 l.pt, .slice h.ga l.gens.length h.gc, .slice (ba h.ob) l.orb.length h.oc, .slice (ba h.wb) n n, .slice (ba h.bb) l.back.length h.bc, .slice (ba h.db) l.done.length h.dc]
/-- a list of permutations of n points in immutable blocks -/
structure PsAt (w : World) (n : Nat) (im : List Nat) (sds : List SD) (ps : List (List Int)) : Prop where
  len : sds.length = ps.length
  sl : ∀ i, i < ps.length → Sl w (sds.getD i sd0).a (u16L (ps.getD i []))
  n : ∀ i, i < ps.length → (sds.getD i sd0).len = n
  im : ∀ i, i < ps.length → ∀ ad, (sds.getD i sd0).a = some ad → ad.block ∈ im
structure LvAt (w : World) (n : Nat) (h : LH) (l : Lv) : Prop where
  str : Blk w h.blk 64 (lvL n h l)
  orb : Own w 0 3 1 (ba h.ob) l.orb.length h.oc (intsL l.orb)
  wh : Blk w h.wb 3 (intsL (whereL n l.orb))
  bk : Own w 0 55 1 (ba h.bb) l.back.length h.bc (h.bs.map SD.val)
  bs : PsAt w n h.im h.bs l.back
  dn : Own w 0 3 1 (ba h.db) l.done.length h.dc (natsL l.done)
  ga : Sl w h.ga (h.gs.map SD.val)
  gim : ∀ ad, h.ga = some ad → ad.block ∈ h.im
  gs : PsAt w n h.im h.gs l.gens
  nd : h.F.Nodup
  dis : ∀ g, g ∈ h.F → g ∉ h.im
  imlt : ∀ g, g ∈ h.im → g < w.heap.size
  gcap : l.gens.length ≤ h.gc
theorem divide_spec {n : Nat} {h : LH} {l : Lv} {p : List Int} {pb cap : Nat} {w : World} (hL : LvAt w n h l) (ok : LvOK n l) (pp : PermN n p) (hp : Own w 0 70 1 (ba pb) n cap (u16L p)) (_hF : pb ∉ h.F) (hI : pb ∉ h.im) :
    CallsR Tryz.prog 67 #[.pointer (some ⟨h.blk, 0, none⟩), .slice (ba pb) n cap] w fun v w' => v = .bool (decide (ap p l.pt ∈ l.orb)) ∧ Chg pb w w' ∧
      Own w' 0 70 1 (ba pb) n cap (u16L (if ap p l.pt ∈ l.orb then mulP p (l.to (ap p l.pt)) else p)) := by
  refine callsR_of (args := [_, _]) Tryz.func67 rfl rfl ?_
  have hn := ok.n1
  repeat' (first | (refine k_pure rfl ?_) | (refine then_normal ?_) | (refine cw_seq ?_) | (refine cw_region rfl ?_) | (refine rr_nil ?_))
  refine cw_draw (late := []) (plan := [(0, none), (1, none), (2, none), (3, none), (4, none), (5, none), (6, none), (7, none), (8, none), (9, none), (10, none), (11, none), (12, none), (13, none)]) (fun w' => Blk w' h.blk 64 (lvL n h l) ∧ Sl w' (ba pb) (u16L p) ∧ Sl w' (ba h.wb) (intsL (whereL n l.orb))) mixed (by kernel_rfl) ⟨hL.str.drew, hp.sl.drew, hL.wh.sl.drew⟩ ?_
  obtain ⟨pt, hpt⟩ : ∃ m : Nat, l.pt = (m : Int) := ⟨l.pt.toNat, by have := ok.pt; omega⟩
  have hptn : pt < n := by have := ok.pt; omega
  have hy := pp.ap ok.pt
  obtain ⟨y, hy'⟩ : ∃ m : Nat, p.getD pt 0 = (m : Int) := ⟨(p.getD pt 0).toNat, by unfold ap at hy; rw [hpt, Int.toNat_natCast] at hy; omega⟩
  have hap : ap p l.pt = (y : Int) := by unfold ap; rw [hpt, Int.toNat_natCast, hy']
  have hyn : y < n := by omega
  repeat' (first | (refine k_loadC rfl (fun _ h => h.1) rfl ?_) | (refine k_indexN (j := pt) rfl (congrArg _ hpt) ⟨_, _, rfl⟩ (by omega) ?_) | (refine k_loadI rfl (fun _ h => h.2.1) (by rw [pp.2]; omega) ?_) | (refine k_indexN (j := y) rfl (congrArg _ hy') ⟨_, _, rfl⟩ (by omega) ?_) | (refine k_loadI rfl (fun _ h => h.2.2) (by rw [whereL_len]; omega) ?_) | (refine k_pure rfl ?_) | (refine then_normal ?_) | (refine cw_seq ?_) | (refine cw_region rfl ?_) | (refine rr_nil ?_) | (refine k_fieldAddr rfl ?_) | (refine cw_cond_dec rfl (fun hc => ?_) (fun hc => ?_)) | (refine cw_ret ?_) | (refine cw_skip ?_))
  · rw [whereL_getD _ hyn] at *
    have hm : (y : Int) ∈ l.orb := Classical.byContradiction fun hc' => by unfold whereAt at hc; rw [if_neg hc'] at hc; omega
    have hw : whereAt l.orb (y : Int) = (l.orb.idxOf (y : Int) : Nat) := by rw [whereAt, if_pos hm]
    have hi := idxOf_lt hm
    have hib : l.orb.idxOf (y : Int) < l.back.length := by rw [ok.len]; exact hi
    have hbs := hL.bs.len
    have hto := ok.grp.perm _ (ok.to_in hm)
    have hsd := hL.bs.sl _ hib
    have hsn := hL.bs.n _ hib
    have hsi := hL.bs.im _ hib
    generalize hj : l.orb.idxOf (y : Int) = j at *
    have hto' : l.to (y : Int) = l.back.getD j [] := by unfold Lv.to Lv.bk; rw [hj]
    rw [hto'] at hto
    rw [hap, if_pos hm, hto', decide_eq_true hm]
    generalize l.back.getD j [] = q at *
    generalize hsdj : h.bs.getD j sd0 = sd at *
    obtain ⟨sa, sl, sc⟩ := sd
    simp only at hsd hsn hsi
    subst hsn
    replace hp := hp.drew
    have hstr := hL.str.drew
    have hbk := hL.bk.sl.drew
    repeat' (first | (refine k_loadC rfl hstr rfl ?_) | (refine k_indexN (j := j) rfl (congrArg _ hw) ⟨_, _, rfl⟩ (by omega) ?_) | (refine k_loadS rfl hbk (by omega) ?_) | (refine k_pure rfl ?_) | (refine then_normal ?_) | (refine cw_seq ?_) | (refine cw_region rfl ?_) | (refine rr_nil ?_) | (refine k_len rfl ?_) | (refine cw_block ?_))
    rw [hsdj]
    have hql : q.length = sl := hto.2
    have hpl : p.length = sl := pp.2
    refine cw_loop (ι := Nat × List Int) [7, 8, 33, 34, 35, 36, 37, 38, 39, 40, 41, 42, 43, 44, 45] (fun s => [(33, .int .i64 (s.1 : Int))]) (fun s w' => s.1 ≤ sl ∧ Chg pb w w' ∧ Own w' 0 70 1 (ba pb) sl cap (u16L s.2) ∧ s.2.length = sl ∧ s.2.take s.1 = mulP (p.take s.1) q ∧ ∀ i, s.1 ≤ i → s.2.getD i 0 = p.getD i 0) (fun s => sl - s.1)
      (0, p) ⟨rfl, trivial⟩ ⟨by simp, (Chg.refl _ _).drew, hp, hpl, rfl, fun _ _ => rfl⟩ ?_
    rintro ⟨k, cur⟩ ξ w2 ⟨hk, hc2, ho2, hl2, hT, hD⟩
    simp only at hk ho2 hl2 hT hD
    show CW _ _ _ _ (over [(33, .int .i64 (k : Int))] _) w2
    have hsd2 := hsd.chg hc2 (fun ad e => by intro e2; exact hI (by rw [← e2]; exact hsi ad e))
    have ho2s := ho2.sl
    have hrk : k < sl → 0 ≤ cur.getD k 0 ∧ cur.getD k 0 < q.length := fun hlt => by
      rw [hD k (Nat.le_refl _), hql]; have := pp.1.lt (k := k) (by omega); rw [hpl] at this; exact this
    repeat' (first | (refine k_indexN rfl rfl ⟨_, _, rfl⟩ (by omega) ?_) | (refine k_loadI rfl ho2s (by omega) ?_) | (refine k_index1 (a := sa) (l := sl) (c := sc) rfl rfl (hsd2.plain (by simp; omega)) (hrk (by omega)).1 (by have := (hrk (by omega)).2; omega) ?_) | (refine k_loadI rfl hsd2 (by have := (hrk (by omega)); omega) ?_) | (refine k_storeOwn rfl rfl rfl ho2 (by simp; omega) (fun g w3 hg _ hc3 ho3 => ⟨fun _ _ => trivial, ?_⟩)) | (refine k_pure rfl ?_) | (refine then_normal ?_) | (refine cw_seq ?_) | (refine cw_region rfl ?_) | (refine rr_nil ?_) | (refine k_addI rfl rfl (by omega) (by omega) ?_) | (refine cw_cond_dec rfl (fun hc => ?_) (fun hc => ?_)) | (refine cw_block ?_) | (refine cw_exit ?_) | (refine then_exit ?_) | (refine in_exit ?_) | (refine in_normal ?_) | (refine cw_ret ?_) | (refine cw_skip ?_))
    · obtain rfl : pb = g := by simpa [ba] using hg
      refine ⟨⟨(k + 1, cur.set k (q.getD (cur.getD k 0).toNat 0)), ⟨by simp only; omega, hc2.trans hc3, ho3.setI, by simp [hl2], ?_, ?_⟩, by simp only; omega, rfl, trivial⟩, (by (repeat (first | exact agree_mask _ _ _ | refine agree_upd rfl ?_ | refine agree_updO rfl ?_ | refine agree_overIn rfl ?_ | refine agree_maskIn rfl ?_)))⟩
      · simp only
        rw [take_set_succ (by omega), hT, mulP_snoc (by omega), hD k (Nat.le_refl _)]
      · intro i hi
        simp only at hi ⊢
        rw [← hD i (by omega), List.getD_eq_getElem?_getD, List.getElem?_set_ne (by omega), ← List.getD_eq_getElem?_getD]
    · obtain rfl : k = sl := by omega
      rw [List.take_of_length_le (by omega), List.take_of_length_le (by omega)] at hT
      subst hT
      skip
      refine ret1 rfl (rt rfl) ⟨?_, hc2, ho2⟩
      have : (0 : Int) ≤ whereAt l.orb y := by omega
      exact congrArg Value.bool (decide_eq_true this)
  · rw [whereL_getD _ hyn] at *
    rw [hap]
    by_cases hm : (y : Int) ∈ l.orb
    · have hw : whereAt l.orb (y : Int) = (l.orb.idxOf (y : Int) : Nat) := by rw [whereAt, if_pos hm]
      have h0 : l.orb.idxOf (y : Int) = 0 := by omega
      have hto : l.to (y : Int) = idList n := by unfold Lv.to; rw [h0, ok.b0]
      rw [if_pos hm, hto, mul_one pp, decide_eq_true hm]
      refine ret1 rfl (rt rfl) ⟨?_, (Chg.refl _ _).drew, hp.drew⟩
      have : (0 : Int) ≤ whereAt l.orb y := by omega
      exact congrArg Value.bool (decide_eq_true this)
    · have hw : whereAt l.orb (y : Int) = -1 := by rw [whereAt, if_neg hm]
      rw [if_neg hm, decide_eq_false hm]
      refine ret1 rfl (rt rfl) ⟨?_, (Chg.refl _ _).drew, hp.drew⟩
      have : ¬ (0 : Int) ≤ whereAt l.orb y := by omega
      exact congrArg Value.bool (decide_eq_false this)
end Go.Proofs.YthhfjagnmhhapaaGreat

/- Levels under way: the orbit is being completed. No program in sight. -/
namespace Go.PM
structure Part (n : Nat) (l : Lv) : Prop where
  n1 : 1 ≤ n ∧ n ≤ 512
  pt : 0 ≤ l.pt ∧ l.pt < n
  gens : GensN n l.gens
  nd : l.orb.Nodup
  len : l.back.length = l.orb.length
  dlen : l.done.length = l.orb.length
  pos : 0 < l.orb.length
  head : l.orb.getD 0 0 = l.pt
  sub : ∀ y, y ∈ l.orb → Reach l.gens l.pt y
  bin : ∀ a, a < l.orb.length → Gen n l.gens (l.bk a)
  bap : ∀ a, a < l.orb.length → ap (l.bk a) (l.orb.getD a 0) = l.pt
  b0 : l.bk 0 = idList n
theorem Part.orb_in {n : Nat} {l : Lv} (h : Part n l) {y : Int} (hy : y ∈ l.orb) : 0 ≤ y ∧ y < n := (h.sub y hy).in h.gens.gens h.pt
theorem Part.orb_le {n : Nat} {l : Lv} (h : Part n l) : l.orb.length ≤ n := Dist.length_le ⟨fun _ hy => h.orb_in hy, h.nd⟩
def Clo (l : Lv) (a k : Nat) : Prop := (∀ i, i < a → ∀ j, j < l.gens.length → ap (l.gens.getD j []) (l.orb.getD i 0) ∈ l.orb) ∧ ∀ j, j < k → ap (l.gens.getD j []) (l.orb.getD a 0) ∈ l.orb
def Lv.add (l : Lv) (y : Int) (b : List Int) : Lv := { l with orb := l.orb ++ [y], back := l.back ++ [b], done := l.done ++ [0] }
theorem getD_snoc' {α : Type} {l : List α} {x d : α} {i : Nat} (h : i < l.length + 1) : (l ++ [x]).getD i d = if i < l.length then l.getD i d else x := by
  by_cases hi : i < l.length
  · rw [if_pos hi, List.getD_eq_getElem?_getD, List.getD_eq_getElem?_getD, List.getElem?_append_left hi]
  · obtain rfl : i = l.length := by omega
    rw [if_neg hi]; simp
theorem Part.add {n : Nat} {l : Lv} (h : Part n l) {a k : Nat} (ha : a < l.orb.length) (hk : k < l.gens.length) (hy : ap (l.gens.getD k []) (l.orb.getD a 0) ∉ l.orb) :
    Part n (l.add (ap (l.gens.getD k []) (l.orb.getD a 0)) (mulP (inv (l.gens.getD k [])) (l.bk a))) := by
  have hg := h.gens _ (getD_mem (d := []) hk)
  have hgrp := gen_grp h.n1 h.gens
  have hb := h.bin a ha
  have hx := h.orb_in (getD_mem (d := 0) ha)
  have hbk : ∀ i, i < l.orb.length + 1 → (l.add (ap (l.gens.getD k []) (l.orb.getD a 0)) (mulP (inv (l.gens.getD k [])) (l.bk a))).bk i = if i < l.orb.length then l.bk i else mulP (inv (l.gens.getD k [])) (l.bk a) := by
    intro i hi
    unfold Lv.bk Lv.add
    simp only
    rw [getD_snoc' (by rw [h.len]; exact hi), h.len]
  refine ⟨h.n1, h.pt, h.gens, ?_, ?_, ?_, ?_, ?_, ?_, ?_, ?_, ?_⟩
  · simp only [Lv.add]
    rw [List.nodup_append]
    refine ⟨h.nd, by simp, fun x hx y hy' => ?_⟩
    rw [List.mem_singleton] at hy'
    subst hy'; rintro rfl; exact hy hx
  · simp [Lv.add, h.len]
  · simp [Lv.add, h.dlen]
  · simp [Lv.add]
  · have := h.head
    simp only [Lv.add]
    rw [getD_snoc' (by omega), if_pos h.pos]; exact this
  · intro y hm
    simp only [Lv.add, List.mem_append, List.mem_singleton] at hm
    rcases hm with hm | rfl
    · exact h.sub y hm
    · exact .step _ (getD_mem hk) (h.sub _ (getD_mem ha))
  · intro i hi
    simp only [Lv.add, List.length_append, List.length_singleton] at hi
    rw [hbk i hi]
    by_cases hi' : i < l.orb.length
    · rw [if_pos hi']; exact h.bin i hi'
    · rw [if_neg hi']; exact hgrp.mul _ _ (hgrp.inv (gen_self h.gens (getD_mem hk))) hb
  · intro i hi
    simp only [Lv.add, List.length_append, List.length_singleton] at hi
    rw [hbk i hi]
    simp only [Lv.add]
    rw [getD_snoc' hi]
    by_cases hi' : i < l.orb.length
    · rw [if_pos hi', if_pos hi']; exact h.bap i hi'
    · rw [if_neg hi', if_neg hi', ap_mul hg.inv (hg.ap hx), ap_inv hg hx]; exact h.bap a ha
  · rw [hbk 0 (by omega), if_pos h.pos]; exact h.b0
theorem Clo.add {l : Lv} {a k : Nat} (h : Clo l a k) (ha : a < l.orb.length) (b : List Int) : Clo (l.add (ap (l.gens.getD k []) (l.orb.getD a 0)) b) a (k + 1) := by
  have e : ∀ i, i < l.orb.length → (l.orb ++ [ap (l.gens.getD k []) (l.orb.getD a 0)]).getD i 0 = l.orb.getD i 0 := fun i hi => by rw [getD_snoc' (by omega), if_pos hi]
  refine ⟨fun i hi j hj => ?_, fun j hj => ?_⟩
  · simp only [Lv.add] at hj ⊢
    rw [e i (by omega)]
    exact List.mem_append_left _ (h.1 i hi j hj)
  · simp only [Lv.add]
    rw [e a ha]
    by_cases hjk : j = k
    · subst hjk; simp
    · exact List.mem_append_left _ (h.2 j (by omega))
theorem Clo.skip {l : Lv} {a k : Nat} (h : Clo l a k) (hm : ap (l.gens.getD k []) (l.orb.getD a 0) ∈ l.orb) : Clo l a (k + 1) :=
  ⟨h.1, fun j hj => by by_cases hjk : j = k; · subst hjk; exact hm
                       · exact h.2 j (by omega)⟩
theorem Clo.next {l : Lv} {a : Nat} (h : Clo l a l.gens.length) : Clo l (a + 1) 0 :=
  ⟨fun i hi j hj => by by_cases hia : i = a; · subst hia; exact h.2 j hj
                       · exact h.1 i (by omega) j hj, fun j hj => absurd hj (by omega)⟩
theorem Part.ok {n : Nat} {l : Lv} (h : Part n l) (hc : Clo l l.orb.length 0) : LvOK n l := by
  refine ⟨h.n1, h.pt, h.gens, h.nd, h.len, h.dlen, h.pos, h.head, fun y => ⟨h.sub y, fun hr => ?_⟩, h.bin, h.bap, h.b0⟩
  induction hr with
  | refl => rw [← h.head]; exact getD_mem h.pos
  | step z hg _ ih =>
    rename_i g
    obtain ⟨i, hi, e⟩ := List.getElem_of_mem ih
    obtain ⟨j, hj, e'⟩ := List.getElem_of_mem hg
    have := hc.1 i hi j hj
    rw [List.getD_eq_getElem?_getD, List.getD_eq_getElem?_getD, List.getElem?_eq_getElem hi, List.getElem?_eq_getElem hj] at this
    simp only [Option.getD_some] at this
    rwa [e, e'] at this
structure Grow (l l' : Lv) : Prop where
  pt : l'.pt = l.pt
  gens : l'.gens = l.gens
  orb : ∃ t, l'.orb = l.orb ++ t
  back : ∃ t, l'.back = l.back ++ t
  done : ∃ k, l'.done = l.done ++ List.replicate k 0
theorem Grow.refl (l : Lv) : Grow l l := ⟨rfl, rfl, ⟨[], by simp⟩, ⟨[], by simp⟩, ⟨0, by simp⟩⟩
theorem Grow.add {l l' : Lv} (h : Grow l l') (y : Int) (b : List Int) : Grow l (l'.add y b) := by
  obtain ⟨t1, e1⟩ := h.orb
  obtain ⟨t2, e2⟩ := h.back
  obtain ⟨k, e3⟩ := h.done
  refine ⟨h.pt, h.gens, ⟨t1 ++ [y], by simp [Lv.add, e1]⟩, ⟨t2 ++ [b], by simp [Lv.add, e2]⟩, ⟨k + 1, by simp [Lv.add, e3, List.replicate_succ']⟩⟩
/-- scattering: cell g[x] receives b[x] -/
def scat (g b : List Int) : Nat → List Int
  | 0 => List.replicate g.length 0
  | k + 1 => (scat g b k).set (g.getD k 0).toNat (b.getD k 0)
theorem scat_len (g b : List Int) : ∀ k, (scat g b k).length = g.length
  | 0 => by simp [scat]
  | k + 1 => by simp [scat, scat_len g b k]
theorem scat_getD {g : List Int} (hp : IsPerm g) (b : List Int) : ∀ k, k ≤ g.length → ∀ j, j < k → (scat g b k).getD (g.getD j 0).toNat 0 = b.getD j 0
  | 0, _, j, hj => by omega
  | k + 1, hk, j, hj => by
    have h1 := hp.lt (k := j) (by omega); have h2 := hp.lt (k := k) (by omega)
    rw [scat, List.getD_eq_getElem?_getD, List.getElem?_set, scat_len]
    by_cases hjk : j = k
    · subst hjk; rw [if_pos rfl, if_pos (by omega)]; rfl
    · have hne : g.getD j 0 ≠ g.getD k 0 := (dist_iff.1 hp.2.2).2 j k (by omega) (by omega)
      rw [if_neg (by omega), ← List.getD_eq_getElem?_getD]
      exact scat_getD hp b k (by omega) j (by omega)
theorem scat_eq {n : Nat} {g b : List Int} (hg : PermN n g) : scat g b n = mulP (inv g) b := by
  refine perm_ext (n := n) (by rw [scat_len, hg.2]) (by rw [mulP_length, hg.inv.2]) fun y h0 h1 => ?_
  rw [ap_mul hg.inv ⟨h0, h1⟩]
  have hz := hg.inv.ap ⟨h0, h1⟩
  have e := ap_inv' hg ⟨h0, h1⟩
  have := scat_getD hg.1 b n (by rw [hg.2]; exact Nat.le_refl _) (ap (inv g) y).toNat (by omega)
  have e2 : g.getD (ap (inv g) y).toNat 0 = y := e
  rw [e2] at this
  exact this
/-- one more generator -/
theorem LvOK.part {n : Nat} {l : Lv} (h : LvOK n l) {g : List Int} (hg : PermN n g) : Part n { l with gens := l.gens ++ [g] } := by
  have hm : ∀ q ∈ l.gens, q ∈ l.gens ++ [g] := fun q hq => List.mem_append_left _ hq
  refine ⟨h.n1, h.pt, ?_, h.nd, h.len, h.dlen, h.pos, h.head, ?_, fun a ha => gen_mono hm (h.bin a ha), h.bap, h.b0⟩
  · intro q hq
    simp only [List.mem_append, List.mem_singleton] at hq
    rcases hq with hq | rfl
    · exact h.gens q hq
    · exact hg
  · intro y hy
    have hg' : GensN n (l.gens ++ [g]) := by
      intro q hq
      simp only [List.mem_append, List.mem_singleton] at hq
      rcases hq with hq | rfl
      · exact h.gens q hq
      · exact hg
    rw [gen_reach h.n1 hg' h.pt]
    obtain ⟨p, hp, e⟩ := (h.mem' y).1 hy
    exact ⟨p, gen_mono hm hp, e⟩
theorem getD_pre {α : Type} {l t : List α} {d : α} {i : Nat} (h : i < l.length) : (l ++ t).getD i d = l.getD i d := by
  rw [List.getD_eq_getElem?_getD, List.getElem?_append_left h, ← List.getD_eq_getElem?_getD]
theorem getD_rep0 (k i : Nat) : (List.replicate k 0).getD i 0 = (0 : Nat) := by
  rw [List.getD_eq_getElem?_getD, List.getElem?_replicate]; split <;> rfl
theorem Grow.ext {n : Nat} {l l' : Lv} {g : List Int} (hl : LvOK n l) (h : Grow { l with gens := l.gens ++ [g] } l') (ok : LvOK n l') : LvExt n g l l' := by
  obtain ⟨t1, e1⟩ := h.orb
  obtain ⟨t2, e2⟩ := h.back
  obtain ⟨k, e3⟩ := h.done
  simp only at e1 e2 e3
  refine ⟨ok, h.pt, h.gens, by rw [e1]; simp, fun a ha => by rw [e1, getD_pre ha], fun a ha => ?_, fun a ha => by rw [e3, getD_pre (by rw [hl.dlen]; exact ha)], fun a ha => ?_⟩
  · unfold Lv.bk; rw [e2, getD_pre (by rw [hl.len]; exact ha)]
  · rw [e3, List.getD_eq_getElem?_getD, List.getElem?_append_right (by rw [hl.dlen]; exact ha), ← List.getD_eq_getElem?_getD, getD_rep0]
def Lv.one (n : Nat) (pt : Int) (gens : List (List Int)) : Lv := ⟨pt, gens, [pt], [idList n], [0]⟩
theorem part_one {n : Nat} {pt : Int} {gens : List (List Int)} (h1 : 1 ≤ n ∧ n ≤ 512) (hp : 0 ≤ pt ∧ pt < n) (hg : GensN n gens) : Part n (Lv.one n pt gens) := by
  refine ⟨h1, hp, hg, by simp [Lv.one], rfl, rfl, by simp [Lv.one], rfl, ?_, ?_, ?_, rfl⟩
  · intro y hy
    obtain rfl : y = pt := by simpa [Lv.one] using hy
    exact .refl
  · intro a ha
    obtain rfl : a = 0 := by simpa [Lv.one] using ha
    exact .one
  · intro a ha
    obtain rfl : a = 0 := by simpa [Lv.one] using ha
    exact ap_id hp
theorem Grow.new {n : Nat} {pt : Int} {gens : List (List Int)} {l' : Lv} (h : Grow (Lv.one n pt gens) l') (a : Nat) : l'.done.getD a 0 = 0 := by
  obtain ⟨k, e3⟩ := h.done
  have : l'.done = List.replicate (k + 1) 0 := by rw [e3]; rfl
  rw [this, getD_rep0]
end Go.PM

namespace Go.W
theorem Own.ba {w : World} {lo T s n cap : Nat} {a : Option Addr} {vs : List Value} (h : Own w lo T s a (n + 1) cap vs) : ∃ g, a = some ⟨g, 0, none⟩ := by
  rcases h.2 with ⟨_, hn⟩ | ⟨g, c, cur, hv, _⟩
  · omega
  · refine ⟨g, ?_⟩
    have : Value.slice a (n + 1) cap = .slice (some ⟨g, 0, none⟩) (n + 1) c := hv
    injection this
theorem Own.fr {F : Nat → Prop} {w w' : World} {lo T s n cap : Nat} {a : Option Addr} {vs : List Value} (h : Own w lo T s a n cap vs) (c : Fr F w w') (hne : ∀ ad, a = some ad → ¬ F ad.block) : Own w' lo T s a n cap vs := by
  refine ⟨h.1, ?_⟩
  rcases h.2 with hn | ⟨g, c', cur, hv, hg, hb, r⟩
  · exact .inl hn
  · refine .inr ⟨g, c', cur, hv, hg, ?_, r⟩
    have e : a = some ⟨g, 0, none⟩ := by
      have : Value.slice a n cap = .slice (some ⟨g, 0, none⟩) n c' := hv
      injection this
    exact (c.block g (Array.getElem?_eq_some_iff.1 hb).1 (hne _ e)).trans hb
theorem k_loadSd {P : Program} {S : World → Prop} {ops : List Oper} {K : Env → World → Prop} {rest : List (Oper × Option Bool)} {ρ : Env} {w : World} {b : Option Bool} {d : Nat} {T : TypeId} {pos : String} {af : Array Edge}
    {x : Operand} {T1 : TypeId} {a a' : Option Addr} {j l' c' : Nat} {xs : List SD} [Scal P T1] (hx : ev ρ x = .pointer (some (elt a j))) (hs : Rd b S w fun w' => Sl w' a (xs.map SD.val))
    (hj : j < xs.length) (hv : xs.getD j sd0 = ⟨a', l', c'⟩) (h : RR P S ops K rest (upd ρ d (.slice a' l' c')) w) : RR P S ops K ((⟨some d, .load T1 x, T, pos, af, none⟩, b) :: rest) ρ w :=
  k_loadS hx hs hj (by rw [hv]; exact h)
end Go.W
namespace Go.Proofs.YthhfjagnmhhapaaGreat
open Go.W Go.PM
theorem PsAt.fr {F : Nat → Prop} {w w' : World} {n : Nat} {im : List Nat} {sds : List SD} {ps : List (List Int)} (h : PsAt w n im sds ps) (c : Fr F w w') (hn : ∀ g, g ∈ im → ¬ F g) : PsAt w' n im sds ps :=
  ⟨h.len, fun i hi => (h.sl i hi).fr c fun ad e => hn _ (h.im i hi ad e), h.n, h.im⟩
theorem PsAt.mono {w : World} {n : Nat} {im im' : List Nat} {sds : List SD} {ps : List (List Int)} (h : PsAt w n im sds ps) (hm : ∀ g, g ∈ im → g ∈ im') : PsAt w n im' sds ps :=
  ⟨h.len, h.sl, h.n, fun i hi ad e => hm _ (h.im i hi ad e)⟩
theorem PsAt.ext {w w' : World} {n : Nat} {im : List Nat} {sds : List SD} {ps : List (List Int)} (h : PsAt w n im sds ps) (c : Ex w w') : PsAt w' n im sds ps :=
  ⟨h.len, fun i hi => (h.sl i hi).ext c, h.n, h.im⟩
theorem PsAt.snoc {w : World} {n : Nat} {im : List Nat} {sds : List SD} {ps : List (List Int)} (h : PsAt w n im sds ps) {s : SD} {p : List Int} (hs : Sl w s.a (u16L p)) (hl : s.len = n) (hi : ∀ ad, s.a = some ad → ad.block ∈ im) : PsAt w n im (sds ++ [s]) (ps ++ [p]) := by
  have e : ∀ i, i < ps.length + 1 → (sds ++ [s]).getD i sd0 = if i < ps.length then sds.getD i sd0 else s := fun i hi => by rw [getD_snoc' (by rw [h.len]; exact hi), h.len]
  have e' : ∀ i, i < ps.length + 1 → (ps ++ [p]).getD i [] = if i < ps.length then ps.getD i [] else p := fun i hi => getD_snoc' hi
  refine ⟨by simp [h.len], fun i hi' => ?_, fun i hi' => ?_, fun i hi' ad => ?_⟩ <;> rw [List.length_append, List.length_singleton] at hi' <;> rw [e i hi']
  · rw [e' i hi']; split
    · rename_i h1; exact h.sl i h1
    · exact hs
  · split
    · rename_i h1; exact h.n i h1
    · exact hl
  · split
    · rename_i h1; exact h.im i h1 ad
    · exact hi ad
theorem LvAt.fr {F : Nat → Prop} {w w' : World} {n : Nat} {h : LH} {l : Lv} (hL : LvAt w n h l) (c : Fr F w w') (hF : ∀ g, g ∈ h.F → ¬ F g) (hI : ∀ g, g ∈ h.im → ¬ F g) : LvAt w' n h l := by
  have m : ∀ g, g ∈ h.F → ¬ F g := hF
  simp only [LH.F, List.mem_cons, List.not_mem_nil, or_false] at m
  exact ⟨hL.str.fr c (m _ (by simp)), hL.orb.fr c (by rintro _ ⟨⟩; exact m _ (by simp)), hL.wh.fr c (m _ (by simp)), hL.bk.fr c (by rintro _ ⟨⟩; exact m _ (by simp)), hL.bs.fr c hI, hL.dn.fr c (by rintro _ ⟨⟩; exact m _ (by simp)),
    hL.ga.fr c fun ad e => hI _ (hL.gim ad e), hL.gim, hL.gs.fr c hI, hL.nd, hL.dis, fun g hg => Nat.lt_of_lt_of_le (hL.imlt g hg) c.size, hL.gcap⟩
theorem LvAt.lt {w : World} {n : Nat} {h : LH} {l : Lv} (hL : LvAt w n h l) : ∀ g, g ∈ h.F → g < w.heap.size := by
  intro g hg
  simp only [LH.F, List.mem_cons, List.not_mem_nil, or_false] at hg
  rcases hg with rfl | rfl | rfl | rfl | rfl
  · exact hL.str.lt
  · exact (hL.orb.lo _ rfl).2
  · exact hL.wh.lt
  · exact (hL.bk.lo _ rfl).2
  · exact (hL.dn.lo _ rfl).2
/-- one block alone may have changed -/
abbrev One (x : Nat) : Nat → Prop := fun k => k = x
theorem f1C {x : Nat} {w w' : World} (h : Chg x w w') : Fr (One x) w w' := h.fr rfl
theorem f1G {x n c : Nat} {w w' : World} (h : w.grownBy w' (Value.slice (ba x) n c).ownBlock) : Fr (One x) w w' := grown_fr h (by rintro k ⟨⟩; rfl)
theorem Blk.f1 {w w' : World} {g T x : Nat} {cs : List Value} (h : Blk w g T cs) (c : Fr (One x) w w') (hn : g ≠ x) : Blk w' g T cs := h.fr c hn
theorem Own.f1 {w w' : World} {lo T s n cap g x : Nat} {vs : List Value} (h : Own w lo T s (ba g) n cap vs) (c : Fr (One x) w w') (hn : g ≠ x) : Own w' lo T s (ba g) n cap vs := h.fr c (by rintro _ ⟨⟩; exact hn)
theorem Fr.sub1 {x : Nat} {w w' : World} {F : Nat → Prop} (h : Fr (One x) w w') (hx : F x) : Fr F w w' := h.mono (by rintro k _ rfl; exact hx)
theorem addr_or {g' g s : Nat} (h : ba g' = ba g ∨ ∀ x, ba g' = some x → s ≤ x.block) : g' = g ∨ s ≤ g' := h.imp (by intro e; injection e with e; injection e) (fun f => f _ rfl)
/-- how a handle may change -/
structure LhStep (w : World) (h h' : LH) : Prop where
  blk : h'.blk = h.blk
  wb : h'.wb = h.wb
  ga : h'.ga = h.ga
  gc : h'.gc = h.gc
  gs : h'.gs = h.gs
  F : ∀ g, g ∈ h'.F → g ∈ h.F ∨ w.heap.size ≤ g
  im : ∀ g, g ∈ h'.im → g ∈ h.im ∨ w.heap.size ≤ g
  sub : ∀ g, g ∈ h.im → g ∈ h'.im
theorem LhStep.refl (w : World) (h : LH) : LhStep w h h := ⟨rfl, rfl, rfl, rfl, rfl, fun _ h => .inl h, fun _ h => .inl h, fun _ h => h⟩
theorem whereL_set {n : Nat} {orb : List Int} {y : Nat} (hy : y < n) (hn : (y : Int) ∉ orb) : (whereL n orb).set y (orb.length : Int) = whereL n (orb ++ [(y : Int)]) := by
  apply List.ext_getElem?
  intro i
  rw [List.getElem?_set]
  by_cases e : y = i
  · subst e
    rw [if_pos rfl, if_pos (by rw [whereL_len]; exact hy)]
    have := whereL_getD (n := n) (orb ++ [(y : Int)]) hy
    rw [List.getD_eq_getElem?_getD, List.getElem?_eq_getElem (by rw [whereL_len]; exact hy), Option.getD_some] at this
    rw [List.getElem?_eq_getElem (by rw [whereL_len]; exact hy), this]
    unfold whereAt
    rw [if_pos (by simp), List.idxOf_append, if_neg hn]
    simp
  · rw [if_neg e]
    by_cases hi : i < n
    · have h1 := whereL_getD (n := n) orb hi
      have h2 := whereL_getD (n := n) (orb ++ [(y : Int)]) hi
      rw [List.getD_eq_getElem?_getD, List.getElem?_eq_getElem (by rw [whereL_len]; exact hi), Option.getD_some] at h1 h2
      rw [List.getElem?_eq_getElem (by rw [whereL_len]; exact hi), List.getElem?_eq_getElem (by rw [whereL_len]; exact hi), h1, h2]
      unfold whereAt
      have hne : ¬ (i : Int) = y := by omega
      by_cases hm : (i : Int) ∈ orb
      · rw [if_pos hm, if_pos (by simp [hm]), List.idxOf_append, if_pos hm]
      · rw [if_neg hm, if_neg (by simp [hm, hne])]
    · rw [List.getElem?_eq_none (by rw [whereL_len]; omega), List.getElem?_eq_none (by rw [whereL_len]; omega)]
end Go.Proofs.YthhfjagnmhhapaaGreat

namespace Go.Proofs.YthhfjagnmhhapaaGreat
open Go.W Go.PM
set_option maxHeartbeats 1000000 in
theorem extend_spec {n : Nat} {h : LH} {l : Lv} {w : World} (hL : LvAt w n h l) (hp : Part n l) (hgl : l.gens.length ≤ 1000000000000) :
    CallsR Tryz.prog 66 #[.pointer (some ⟨h.blk, 0, none⟩)] w fun v w' => v = .tuple #[] ∧ ∃ h' l', LvAt w' n h' l' ∧ LvOK n l' ∧ Grow l l' ∧ Fr (fun g => g ∈ h.F) w w' ∧ LhStep w h h' := by
  refine callsR_of (args := [_]) Tryz.func66 rfl rfl ?_
  have hn := hp.n1
  repeat' (first | (refine k_pure rfl ?_) | (refine then_normal ?_) | (refine cw_seq ?_) | (refine cw_region rfl ?_) | (refine rr_nil ?_) | (refine cw_block ?_))
  refine cw_loop (ι := Nat × LH × Lv) [2, 4, 5, 6, 7, 8, 9, 10, 11, 12, 13, 14, 15, 16, 17, 18, 19, 20, 21, 22, 23, 24, 25, 26, 27, 28, 29, 30, 31, 32, 33, 34, 35, 36, 37, 38, 39, 40, 41, 42, 43, 44, 45, 46, 47, 48, 49, 50, 51, 52, 53, 54, 55, 56, 57, 58, 59, 60, 61, 62, 63, 64, 65, 66, 67, 68, 69, 70, 71, 72, 73, 74, 75, 76, 77, 78, 79, 80, 81, 82, 83, 84, 85, 86, 87, 88, 89, 90, 91, 92, 93, 94, 95, 96, 97, 98, 99, 100, 101, 102, 103, 104, 105, 106, 107, 108, 109, 110] (fun s => [(2, .int .i64 (s.1 : Int))]) (fun s w' => LvAt w' n s.2.1 s.2.2 ∧ Part n s.2.2 ∧ Grow l s.2.2 ∧ Clo s.2.2 s.1 0 ∧ s.1 ≤ s.2.2.orb.length ∧ Fr (fun g => g ∈ h.F) w w' ∧ LhStep w h s.2.1) (fun s => n - s.1)
    (0, h, l) ⟨rfl, trivial⟩ ⟨hL, hp, Grow.refl l, ⟨fun i hi => absurd hi (by simp), fun j hj => absurd hj (by simp)⟩, Nat.zero_le _, Fr.refl _ _, LhStep.refl _ _⟩ ?_
  rintro ⟨a, h1, l1⟩ ξ w1 ⟨hL1, hp1, hg1, hc1, ha1, hf1, hs1⟩
  simp only at hL1 hp1 hg1 hc1 ha1 hs1
  show CW _ _ _ _ (over [(2, .int .i64 (a : Int))] _) w1
  have hb1 := hs1.blk
  have hstr := hL1.str
  have hol := hp1.orb_le
  rw [hb1] at hstr
  have hgl1 : l1.gens.length ≤ 1000000000000 := by rw [hg1.gens]; exact hgl
  repeat' (first | (refine k_loadC rfl hstr rfl ?_) | (refine k_pure rfl ?_) | (refine then_normal ?_) | (refine cw_seq ?_) | (refine cw_region rfl ?_) | (refine rr_nil ?_) | (refine k_len rfl ?_) | (refine k_fieldAddr rfl ?_) | (refine cw_cond_dec rfl (fun hc => ?_) (fun hc => ?_)) | (refine cw_block ?_) | (refine cw_exit ?_) | (refine then_exit ?_) | (refine in_exit ?_) | (refine cw_skip ?_))
  · have hao : a < l1.orb.length := by omega
    refine cw_loop (ι := Nat × LH × Lv) [4, 5, 6, 7, 8, 23, 24, 25, 26, 27, 28, 29, 30, 31, 32, 33, 34, 35, 36, 37, 38, 39, 40, 41, 42, 43, 44, 45, 46, 47, 48, 49, 50, 51, 52, 53, 54, 55, 56, 57, 58, 59, 60, 61, 62, 63, 64, 65, 66, 67, 68, 69, 70, 71, 72, 73, 74, 75, 76, 77, 78, 79, 80, 81, 82, 83, 84, 85, 86, 87, 88, 89, 90, 91, 92, 93, 94, 95, 96, 97, 98, 99, 100, 101, 102, 103, 104, 105, 106, 107, 108, 109, 110] (fun s => [(23, .int .i64 (s.1 : Int))]) (fun s w' => LvAt w' n s.2.1 s.2.2 ∧ Part n s.2.2 ∧ Grow l s.2.2 ∧ Clo s.2.2 a s.1 ∧ a < s.2.2.orb.length ∧ s.1 ≤ l1.gens.length ∧ Fr (fun g => g ∈ h.F) w w' ∧ LhStep w h s.2.1) (fun s => l1.gens.length - s.1)
      (0, h1, l1) ⟨rfl, trivial⟩ ⟨hL1, hp1, hg1, hc1, hao, Nat.zero_le _, hf1, hs1⟩ ?_
    rintro ⟨k, h2, l2⟩ ξ2 w2 ⟨hL2, hp2, hg2, hc2, ha2, hk2, hf2, hs2⟩
    simp only at hL2 hp2 hg2 hc2 ha2 hk2 hs2
    show CW _ _ _ _ (over [(23, .int .i64 (k : Int))] _) w2
    have hb2 := hs2.blk
    have hstr2 := hL2.str
    rw [hb2] at hstr2
    have hgg : l2.gens = l1.gens := by rw [hg2.gens, hg1.gens]
    have ega : h2.ga = h1.ga := by rw [hs2.ga, hs1.ga]
    have egs : h2.gs = h1.gs := by rw [hs2.gs, hs1.gs]
    have hga2 := hL2.ga
    rw [ega, egs] at hga2
    have hgs2 := hL2.gs
    rw [hgg, egs] at hgs2
    have hglen := hgs2.len
    obtain ⟨⟨sa, sl, sc⟩, hsdj⟩ : ∃ s, h1.gs.getD k sd0 = s := ⟨_, rfl⟩
    repeat' (first | (refine k_indexN rfl rfl (hga2.plain (by simp; omega)) (by omega) ?_) | (refine k_loadSd rfl hga2 (by omega) hsdj ?_) | (refine k_pure rfl ?_) | (refine then_normal ?_) | (refine cw_seq ?_) | (refine cw_region rfl ?_) | (refine rr_nil ?_) | (refine k_addI rfl rfl (by omega) (by omega) ?_) | (refine k_fieldAddr rfl ?_) | (refine cw_cond_dec rfl (fun hc => ?_) (fun hc => ?_)) | (refine cw_block ?_) | (refine cw_exit ?_) | (refine then_exit ?_) | (refine in_exit ?_) | (refine in_normal ?_) | (refine cw_skip ?_))
    · have hkg : k < l1.gens.length := by omega
      have hgP := hp1.gens _ (getD_mem (d := []) hkg)
      have hsl := hgs2.sl k hkg
      have hsn := hgs2.n k hkg
      have hsi := hgs2.im k hkg
      have hkey : l2.gens.getD k [] = l1.gens.getD k [] := by rw [hgg]
      generalize hgk : l1.gens.getD k [] = g at *
      rw [hsdj] at hsl hsn hsi
      simp only at hsl hsn hsi
      subst hsn
      have hx := hp2.orb_in (getD_mem (d := 0) ha2)
      have hyr := hgP.ap hx
      obtain ⟨x, hx'⟩ : ∃ m : Nat, l2.orb.getD a 0 = (m : Int) := ⟨(l2.orb.getD a 0).toNat, by omega⟩
      obtain ⟨y, hy'⟩ : ∃ m : Nat, g.getD x 0 = (m : Int) := ⟨(g.getD x 0).toNat, by unfold ap at hyr; rw [hx', Int.toNat_natCast] at hyr; omega⟩
      have hap : ap g (l2.orb.getD a 0) = (y : Int) := by unfold ap; rw [hx', Int.toNat_natCast, hy']
      have hyn : y < sl := by omega
      have hxn : x < sl := by omega
      have hgl' : g.length = sl := hgP.2
      have horb := hL2.orb.sl
      have hwh := hL2.wh.sl
      have hol2 := hp2.orb_le
      have hwb : h2.wb = h.wb := hs2.wb
      repeat' (first | (refine k_loadC rfl hstr2 rfl ?_) | (refine k_indexN (j := a) rfl rfl ⟨_, _, rfl⟩ (by omega) ?_) | (refine k_loadI rfl horb (by omega) ?_) | (refine k_indexN (j := x) (a := sa) (l := sl) (c := sc) rfl (congrArg _ hx') (hsl.plain (by simp; omega)) (by omega) ?_) | (refine k_loadI rfl hsl (by omega) ?_) | (refine k_convI rfl (wrap_i64 (by omega) (by omega)) ?_) | (refine k_indexN (j := y) rfl (congrArg _ hy') ⟨_, _, rfl⟩ (by omega) ?_) | (refine k_loadI rfl hwh (by rw [whereL_len]; omega) ?_) | (refine k_pure rfl ?_) | (refine then_normal ?_) | (refine cw_seq ?_) | (refine cw_region rfl ?_) | (refine rr_nil ?_) | (refine k_len rfl ?_) | (refine k_addI rfl rfl (by omega) (by omega) ?_) | (refine k_fieldAddr rfl ?_) | (refine cw_cond_dec rfl (fun hc => ?_) (fun hc => ?_)) | (refine cw_exit ?_) | (refine then_exit ?_) | (refine in_exit ?_) | (refine cw_skip ?_))
      · rw [whereL_getD _ hyn] at *
        have hm : (y : Int) ∈ l2.orb := Classical.byContradiction fun hc' => by unfold whereAt at hc; rw [if_neg hc'] at hc; omega
        refine ⟨⟨(k + 1, h2, l2), ⟨hL2, hp2, hg2, hc2.skip (by rw [hkey, hap]; exact hm), ha2, by simp only; omega, hf2, hs2⟩, by simp only; omega, rfl, trivial⟩, (by (repeat (first | exact agree_mask _ _ _ | refine agree_upd rfl ?_ | refine agree_updO rfl ?_ | refine agree_overIn rfl ?_ | refine agree_maskIn rfl ?_)))⟩
      · rw [whereL_getD _ hyn] at *
        have hm : (y : Int) ∉ l2.orb := fun hm => by unfold whereAt at hc; rw [if_pos hm] at hc; omega
        have hbk := hL2.bk.sl
        have hbn := hL2.bs.n a (by rw [hp2.len]; exact ha2)
        have hbs := hL2.bs.sl a (by rw [hp2.len]; exact ha2)
        have hbl := hL2.bs.len
        have hbp := (gen_grp hp2.n1 hp2.gens).perm _ (hp2.bin a ha2)
        unfold Lv.bk at hbp
        have hla := hp2.len
        repeat' (first | (refine k_makeI (n := sl) rfl rfl (by omega) (by omega) (fun gb w3 hn3 => ⟨fun _ _ => trivial, ?_⟩)) | (refine k_pure rfl ?_) | (refine then_normal ?_) | (refine cw_seq ?_) | (refine cw_region rfl ?_) | (refine rr_nil ?_) | (refine k_fieldAddr rfl ?_))
        have hE3 := hn3.ex
        have hstr3 := hstr2.ext hE3
        have hbk3 := hbk.ext hE3
        have hbs3 := hbs.ext hE3
        have hsl3 := hsl.ext hE3
        generalize hba : l2.back.getD a [] = b at *
        obtain ⟨⟨ta, tl, tc⟩, hsda⟩ : ∃ s, h2.bs.getD a sd0 = s := ⟨_, rfl⟩
        rw [hsda] at hbs hbs3 hbn
        simp only at hbs hbs3 hbn
        subst hbn
        have hbl' : b.length = tl := hbp.2
        repeat' (first | (refine k_loadC rfl hstr3 rfl ?_) | (refine k_indexN (j := a) rfl rfl ⟨_, _, rfl⟩ (by omega) ?_) | (refine k_loadSd rfl hbk3 (by omega) hsda ?_) | (refine k_pure rfl ?_) | (refine then_normal ?_) | (refine rr_nil ?_) | (refine k_len rfl ?_) | (refine cw_block ?_))
        refine cw_loop (ι := Nat) [7, 8, 57, 58, 59, 60, 61, 62, 63, 64, 65, 66, 67, 68, 69] (fun s => [(57, .int .i64 (s : Int))]) (fun s w' => s ≤ tl ∧ Ex w2 w' ∧ Blk w' gb 70 (u16L (scat g b s))) (fun s => tl - s)
          0 ⟨rfl, trivial⟩ ⟨Nat.zero_le _, hE3, by have := hn3.blk; unfold scat; rw [hgl']; exact this⟩ ?_
        rintro j ξ3 w4 ⟨hj, hE4, hb4⟩
        show CW _ _ _ _ (over [(57, .int .i64 (j : Int))] _) w4
        have hbs4 := hbs.ext hE4
        have hsl4 := hsl.ext hE4
        obtain ⟨z, hz⟩ : ∃ m : Nat, j < tl → g.getD j 0 = (m : Int) := ⟨(g.getD j 0).toNat, fun h => by have := hgP.1.lt (k := j) (by omega); omega⟩
        have hzn : j < tl → z < tl := fun h => by have := hgP.1.lt (k := j) (by omega); have := hz h; omega
        repeat' (first | (refine k_indexN (j := j) (a := ta) (l := tl) (c := tc) rfl rfl (hbs4.plain (by simp; omega)) (by omega) ?_) | (refine k_indexN (j := j) (a := sa) (l := tl) (c := sc) rfl rfl (hsl4.plain (by simp; omega)) (by omega) ?_) | (refine k_loadI (a := ta) rfl hbs4 (by omega) ?_) | (refine k_loadI (a := sa) rfl hsl4 (by omega) ?_) | (refine k_indexN (j := z) (l := tl) rfl (congrArg _ (hz (by omega))) ⟨_, _, rfl⟩ (hzn (by omega)) ?_) | (refine k_storeI (j := z) rfl rfl hb4 (by rw [scat_len]; have := hzn (by omega); omega) (fun w5 hc5 hb5 => ⟨fun _ _ => trivial, ?_⟩)) | (refine k_pure rfl ?_) | (refine then_normal ?_) | (refine cw_seq ?_) | (refine cw_region rfl ?_) | (refine rr_nil ?_) | (refine k_addI rfl rfl (by omega) (by omega) ?_) | (refine cw_cond_dec rfl (fun hc => ?_) (fun hc => ?_)) | (refine cw_block ?_) | (refine cw_exit ?_) | (refine then_exit ?_) | (refine in_exit ?_) | (refine in_normal ?_) | (refine cw_skip ?_))
        · refine ⟨⟨j + 1, ⟨by omega, hE4.chg hc5 hn3.lo, ?_⟩, by omega, rfl, trivial⟩, (by (repeat (first | exact agree_mask _ _ _ | refine agree_upd rfl ?_ | refine agree_updO rfl ?_ | refine agree_overIn rfl ?_ | refine agree_maskIn rfl ?_)))⟩
          have e : (g.getD j 0).toNat = z := by have := hz (by omega); omega
          rw [scat, e]; exact hb5
        · obtain rfl : j = tl := by omega
          have hstr4 := hstr2.ext hE4
          have hwh4 := hL2.wh.ext hE4
          have horb4 := hL2.orb.ext hE4
          have hbk4 := hL2.bk.ext hE4
          have hdn4 := hL2.dn.ext hE4
          refine cw_draw (late := [11]) (plan := [(0, none), (1, none), (2, none), (3, none), (4, none), (5, none), (6, none), (7, none), (8, none), (9, none), (10, none), (11, some false)]) (fun w' => Blk w' h.blk 64 (lvL j h2 l2)) mixed (by kernel_rfl) hstr4.drew ?_
          repeat' (first | (refine k_loadC rfl (fun _ h => h) rfl ?_) | (refine k_indexN (j := y) rfl (congrArg _ hy') ⟨_, _, rfl⟩ (by omega) ?_) | (refine k_storeI (j := y) rfl rfl hwh4.drew (by rw [whereL_len]; omega) (fun w5 hc5 hb5 => ⟨fun h => (nomatch h), ?_⟩)) | (refine k_pure rfl ?_) | (refine then_normal ?_) | (refine cw_seq ?_) | (refine cw_region rfl ?_) | (refine rr_nil ?_) | (refine k_len rfl ?_) | (refine k_fieldAddr rfl ?_))
          have nd := hL2.nd
          have lt := hL2.lt
          have dis := hL2.dis
          simp only [LH.F, List.mem_cons, List.not_mem_nil, or_false, List.nodup_cons, not_or, not_false_eq_true, and_true, List.nodup_nil] at nd lt dis
          obtain ⟨⟨n1, n2, n3, n4⟩, ⟨n5, n6, n7⟩, ⟨n8, n9⟩, n10⟩ := nd
          have l1' := lt _ (.inl rfl); have l2' := lt _ (.inr (.inl rfl)); have l3' := lt _ (.inr (.inr (.inl rfl))); have l4' := lt _ (.inr (.inr (.inr (.inl rfl)))); have l5' := lt _ (.inr (.inr (.inr (.inr rfl))))
          rw [hb2] at n1 n2 n3 n4 l1'
          have f5 := f1C hc5
          have s4 : w2.heap.size ≤ w4.heap.size := hE4.size
          have s5 : w4.heap.size ≤ w5.heap.size := f5.size
          have gb2 := hn3.lo
          have gb4 := hb4.lt
          have str5 := Blk.f1 hstr4.drew f5 n2
          have orb5 := Own.f1 horb4.drew f5 n5
          have bk5 := Own.f1 hbk4.drew f5 (Ne.symm n8)
          have dn5 := Own.f1 hdn4.drew f5 (Ne.symm n9)
          have b5 := Blk.f1 hb4.drew f5 (by omega)
          repeat' (first | (refine k_loadC rfl str5 rfl ?_) | (refine k_app1I rfl (congrArg _ hy') rfl rfl orb5 (by omega) (by omega) (Nat.zero_le _) (fun gx6 a6 c6 w6 ho6 hg6 hA6 => ?_)) | (refine k_storeC rfl rfl rfl (Blk.f1 str5 (f1G hg6) n1) rfl (fun w7 hc7 hs7 => ⟨fun _ _ => trivial, ?_⟩)) | (refine k_pure rfl ?_) | (refine then_normal ?_) | (refine cw_seq ?_) | (refine cw_region rfl ?_) | (refine rr_nil ?_) | (refine k_fieldAddr rfl ?_))
          obtain ⟨o6, rfl⟩ := Own.ba ho6
          replace hA6 := addr_or hA6
          have lo6 : o6 < w6.heap.size := (ho6.lo _ rfl).2
          have f6 := f1G hg6
          have f7 := f1C hc7
          have s6 : w5.heap.size ≤ w6.heap.size := f6.size
          have s7 : w6.heap.size ≤ w7.heap.size := f7.size
          have orb7 := Own.f1 ho6 f7 (by omega)
          have wh7 := Blk.f1 (Blk.f1 hb5 f6 (Ne.symm n5)) f7 (Ne.symm n2)
          have bk7 := Own.f1 (Own.f1 bk5 f6 (Ne.symm n6)) f7 (Ne.symm n3)
          have dn7 := Own.f1 (Own.f1 dn5 f6 (Ne.symm n7)) f7 (Ne.symm n4)
          have b7 := Blk.f1 (Blk.f1 b5 f6 (by omega)) f7 (by omega)
          repeat' (first | (refine k_loadC rfl hs7 rfl ?_) | (refine k_app1S rfl rfl rfl rfl bk7 (by omega) (by omega) (Nat.zero_le _) (fun gx8 a8 c8 w8 ho8 hg8 hA8 => ?_)) | (refine k_storeC rfl rfl rfl (Blk.f1 hs7 (f1G hg8) n3) rfl (fun w9 hc9 hs9 => ⟨fun _ _ => trivial, ?_⟩)) | (refine k_pure rfl ?_) | (refine then_normal ?_) | (refine cw_region rfl ?_) | (refine rr_nil ?_) | (refine k_fieldAddr rfl ?_))
          obtain ⟨b8, rfl⟩ := Own.ba ho8
          replace hA8 := addr_or hA8
          have lo8 : b8 < w8.heap.size := (ho8.lo _ rfl).2
          have f8 := f1G hg8
          have f9 := f1C hc9
          have s8 : w7.heap.size ≤ w8.heap.size := f8.size
          have s9 : w8.heap.size ≤ w9.heap.size := f9.size
          have bk9 := Own.f1 ho8 f9 (by omega)
          have orb9 := Own.f1 (Own.f1 orb7 f8 (by omega)) f9 (by omega)
          have wh9 := Blk.f1 (Blk.f1 wh7 f8 (by omega)) f9 (by omega)
          have dn9 := Own.f1 (Own.f1 dn7 f8 (by omega)) f9 (by omega)
          have b9 := Blk.f1 (Blk.f1 b7 f8 (by omega)) f9 (by omega)
          repeat' (first | (refine k_loadC rfl hs9 rfl ?_) | (refine k_app1N (u := 0) rfl rfl rfl rfl dn9 (by have := hp2.dlen; omega) (by have := hp2.dlen; omega) (Nat.zero_le _) (fun gx10 a10 c10 w10 ho10 hg10 hA10 => ?_)) | (refine k_storeC rfl rfl rfl (Blk.f1 hs9 (f1G hg10) n4) rfl (fun w11 hc11 hs11 => ⟨fun _ _ => trivial, ?_⟩)) | (refine k_pure rfl ?_) | (refine then_normal ?_) | (refine cw_region rfl ?_) | (refine rr_nil ?_) | (refine k_addI rfl rfl (by omega) (by omega) ?_) | (refine k_fieldAddr rfl ?_) | (refine in_normal ?_))
          obtain ⟨d10, rfl⟩ := Own.ba ho10
          replace hA10 := addr_or hA10
          have f10 := f1G hg10
          have f11 := f1C hc11
          have s10 : w9.heap.size ≤ w10.heap.size := f10.size
          have s11 : w10.heap.size ≤ w11.heap.size := f11.size
          have dn11 := Own.f1 ho10 f11 (by omega)
          have orb11 := Own.f1 (Own.f1 orb9 f10 (by omega)) f11 (by omega)
          have bk11 := Own.f1 (Own.f1 bk9 f10 (by omega)) f11 (by omega)
          have wh11 := Blk.f1 (Blk.f1 wh9 f10 (by omega)) f11 (by omega)
          have b11 := Blk.f1 (Blk.f1 b9 f10 (by omega)) f11 (by omega)
          have mF : h.blk ∈ h2.F ∧ h2.ob ∈ h2.F ∧ h2.wb ∈ h2.F ∧ h2.bb ∈ h2.F ∧ h2.db ∈ h2.F := by rw [← hb2]; simp [LH.F]
          have hfr : Fr (fun g => g ∈ h2.F) w2 w11 := (hE4.drew.fr.trans ((Fr.sub1 f5 (F := fun g => g ∈ h2.F) mF.2.2.1).trans ((Fr.sub1 f6 (F := fun g => g ∈ h2.F) mF.2.1).trans ((Fr.sub1 f7 (F := fun g => g ∈ h2.F) mF.1).trans ((Fr.sub1 f8 (F := fun g => g ∈ h2.F) mF.2.2.2.1).trans ((Fr.sub1 f9 (F := fun g => g ∈ h2.F) mF.1).trans ((Fr.sub1 f10 (F := fun g => g ∈ h2.F) mF.2.2.2.2).trans (Fr.sub1 f11 (F := fun g => g ∈ h2.F) mF.1))))))))
          have imlt := hL2.imlt
          rw [scat_eq hgP] at b11
          rw [whereL_set hyn hm] at wh11
          have hdisF : ∀ g, g ∈ h2.im → ¬ g ∈ h2.F := fun g hg hf => hL2.dis g hf hg
          have hF' : ∀ g, g ∈ h2.F → g = h.blk ∨ g = h2.ob ∨ g = h2.wb ∨ g = h2.bb ∨ g = h2.db := by rw [← hb2]; simp [LH.F]
          have im1 := dis _ (.inl rfl); have im2 := dis _ (.inr (.inl rfl)); have im3 := dis _ (.inr (.inr (.inl rfl))); have im4 := dis _ (.inr (.inr (.inr (.inl rfl)))); have im5 := dis _ (.inr (.inr (.inr (.inr rfl))))
          have hadd := hp2.add ha2 (k := k) (by rw [hgg]; exact hkg) (by rw [hkey, hap]; exact hm)
          have hcad := hc2.add ha2 (mulP (inv g) b)
          rw [hkey, hap] at hadd hcad
          unfold Lv.bk at hadd
          rw [hba] at hadd
          refine ⟨⟨(k + 1, { h2 with ob := o6, oc := c6, bb := b8, bc := c8, bs := h2.bs ++ [⟨ba gb, j, j⟩], db := d10, dc := c10, im := gb :: h2.im }, l2.add y (mulP (inv g) b)), ⟨?_, hadd, hg2.add _ _, hcad, ?_, by simp only; omega, hf2.then hfr (fun i hi hm => (hs2.F i hm).resolve_right (by omega)), ?_⟩, by simp only; omega, rfl, trivial⟩, (by (repeat (first | exact agree_mask _ _ _ | refine agree_upd rfl ?_ | refine agree_updO rfl ?_ | refine agree_overIn rfl ?_ | refine agree_maskIn rfl ?_)))⟩
          · refine ⟨?_, ?_, wh11, ?_, ?_, ?_, hL2.ga.fr hfr fun ad e => hdisF _ (hL2.gim ad e), fun ad e => List.mem_cons_of_mem _ (hL2.gim ad e), (hL2.gs.fr hfr hdisF).mono fun g hg => List.mem_cons_of_mem _ hg, ?_, ?_, ?_, hL2.gcap⟩
            · rw [← hb2] at hs11
              have e : lvL j { h2 with ob := o6, oc := c6, bb := b8, bc := c8, bs := h2.bs ++ [⟨ba gb, j, j⟩], db := d10, dc := c10, im := gb :: h2.im } (l2.add y (mulP (inv g) b)) = [.int .i64 l2.pt, .slice h2.ga l2.gens.length h2.gc, .slice (ba o6) (l2.orb.length + 1) c6, .slice (ba h2.wb) j j, .slice (ba b8) (l2.back.length + 1) c8, .slice (ba d10) (l2.done.length + 1) c10] := by simp [lvL, Lv.add]
              rw [e]; exact hs11
            · have e : (l2.add y (mulP (inv g) b)).orb.length = l2.orb.length + 1 := by simp [Lv.add]
              rw [e]; exact orb11
            · have e : (l2.add y (mulP (inv g) b)).back.length = l2.back.length + 1 := by simp [Lv.add]
              rw [e]; exact bk11
            · exact ((hL2.bs.fr hfr hdisF).mono fun g hg => List.mem_cons_of_mem _ hg).snoc b11.sl rfl (by rintro _ ⟨⟩; simp)
            · have e : (l2.add y (mulP (inv g) b)).done.length = l2.done.length + 1 := by simp [Lv.add]
              rw [e]; exact dn11
            · simp only [LH.F, List.mem_cons, List.not_mem_nil, or_false, List.nodup_cons, not_or, not_false_eq_true, and_true, List.nodup_nil, hb2]
              refine ⟨⟨?_, ?_, ?_, ?_⟩, ⟨?_, ?_, ?_⟩, ⟨?_, ?_⟩, ?_⟩ <;> omega
            · intro q hq hq'
              simp only [LH.F, List.mem_cons, List.not_mem_nil, or_false, hb2] at hq hq'
              rcases hq' with rfl | hq'
              · omega
              · have := imlt q hq'
                rcases hq with rfl | rfl | rfl | rfl | rfl
                · exact im1 (by rw [hb2]; exact hq')
                · rcases hA6 with rfl | h6
                  · exact im2 hq'
                  · omega
                · exact im3 hq'
                · rcases hA8 with rfl | h6
                  · exact im4 hq'
                  · omega
                · rcases hA10 with rfl | h6
                  · exact im5 hq'
                  · omega
            · intro q hq
              simp only [List.mem_cons] at hq
              rcases hq with rfl | hq
              · omega
              · have := imlt q hq; omega
          · simp [Lv.add]; omega
          · have sw : w.heap.size ≤ w2.heap.size := hf2.size
            refine ⟨hb2, hwb, hs2.ga, hs2.gc, hs2.gs, fun q hq => ?_, fun q hq => ?_, fun q hq => List.mem_cons_of_mem _ (hs2.sub q hq)⟩
            · have hq2 : q ∈ h2.F ∨ w2.heap.size ≤ q := by
                simp only [LH.F, List.mem_cons, List.not_mem_nil, or_false, hb2] at hq
                rcases hq with rfl | rfl | rfl | rfl | rfl
                · exact .inl mF.1
                · rcases hA6 with rfl | h6
                  · exact .inl mF.2.1
                  · exact .inr (by omega)
                · exact .inl mF.2.2.1
                · rcases hA8 with rfl | h6
                  · exact .inl mF.2.2.2.1
                  · exact .inr (by omega)
                · rcases hA10 with rfl | h6
                  · exact .inl mF.2.2.2.2
                  · exact .inr (by omega)
              rcases hq2 with hq2 | hq2
              · exact hs2.F q hq2
              · exact .inr (by omega)
            · simp only [List.mem_cons] at hq
              rcases hq with rfl | hq
              · exact .inr (by omega)
              · exact hs2.im q hq
    · obtain rfl : k = l1.gens.length := by omega
      have hcn : Clo l2 (a + 1) 0 := Clo.next (by rw [hgg]; exact hc2)
      refine ⟨⟨(a + 1, h2, l2), ⟨hL2, hp2, hg2, hcn, ha2, hf2, hs2⟩, by simp only; omega, rfl, trivial⟩, (by (repeat (first | exact agree_mask _ _ _ | refine agree_upd rfl ?_ | refine agree_updO rfl ?_ | refine agree_overIn rfl ?_ | refine agree_maskIn rfl ?_)))⟩
  · obtain rfl : a = l1.orb.length := by omega
    exact end0 rfl ⟨rfl, h1, l1, hL1, hp1.ok hc1, hg1, hf1, hs1⟩
end Go.Proofs.YthhfjagnmhhapaaGreat

namespace Go.W
section
variable {P : Program} {S : World → Prop} {ops : List Oper} {K : Env → World → Prop} {rest : List (Oper × Option Bool)} {ρ : Env} {w : World} {b : Option Bool} {kf : Bool} {d : Nat} {dst : Option Nat} {T T' : TypeId} {pos : String} {af : Array Edge}
theorem k_clip {x hi mx : Operand} {a : Option Addr} {l c E s y : Nat} {k k' : IntKind} [hT : Slc P T' E s y] (hx : ev ρ x = .slice a l c) (hh : ev ρ hi = .int k (l : Int)) (hm : ev ρ mx = .int k' (l : Int)) (h1 : l ≤ c)
    (h : RR P S ops K rest (upd ρ d (.slice a l l)) w) : RR P S ops K ((⟨some d, .slice T' x none (some hi) (some mx), T, pos, af, none⟩, b) :: rest) ρ w := by
  refine rr_pure rfl (fun w' => ?_) h
  obtain ⟨i0, hi0, hz⟩ := Option.map_eq_some_iff.1 hT.sz
  have e : a.map (fun x => x.add 0) = a := by cases a <;> simp [Addr.add]
  simp [execOp, Instr.sliceAt, Instr.slice, Instr.sliceBounds, Instr.sliceBound, hx, hh, hm, asIntOf, underlying, hT.un, sizeOf, typeInfo, hi0, h1, e]
theorem k_lit1 {T1 E y : Nat} {x : Operand} {v z : Value} [hT : Slc P T1 E 1 y] [hz : Zro P E z] (hx : nv (ev ρ x) = some v) (hv : v.oneCell' = true)
    (h : ∀ g w', New w w' g E [v] → (kf = true → S w → S w') ∧ RR P S ops K rest (upd ρ d (.slice (some ⟨g, 0, none⟩) 1 1)) w') :
    RR P S ops K ((⟨some d, .buildSlice T1 1 #[(0, x)], T, pos, af, none⟩, some kf) :: rest) ρ w := by
  have c0 : v.cells = #[v] := by cases v <;> simp [Value.oneCell'] at hv <;> rfl
  rw [nv_eq] at hx
  injection hx with hx
  exact k_lit (E := E) (s := 1) (z := z) (cs := #[v]) rfl (by
    simp only [List.map_toArray, List.map_cons, List.map_nil, hx]
    rw [← c0]
    exact fill_one (by rw [c0]; rfl) (by simp)) h
theorem Own.capLe {w : World} {lo T s n cap : Nat} {a : Option Addr} {vs : List Value} (h : Own w lo T s a n cap vs) : n ≤ cap := by
  rcases h.2 with ⟨hv, hn⟩ | ⟨g, c, cur, hv, _, _, h1, _⟩
  · omega
  · have : Value.slice a n cap = .slice (some ⟨g, 0, none⟩) n c := hv
    injection this with _ _ e
    omega
/-- append(x, y) where x is full: a new row -/
theorem k_appendFull {T1 E y n c : Nat} {x1 x2 : Operand} {a : Option Addr} {g : Nat} {vs : List Value} {v z : Value} [hT : Slc P T1 E 1 y] [hz : Zro P E z] (h1 : ev ρ x1 = .slice a n n) (h2 : ev ρ x2 = .slice (some ⟨g, 0, none⟩) 1 c)
    (hzs : (Nat.beq z.cells.size 1) = true) (hvs : Sl w a vs) (hn : vs.length = n) (hnews : Sl w (some ⟨g, 0, none⟩) [v]) (hv : v.oneCell' = true) (hm : n + 1 ≤ 9223372036854775807) (hb : (n + 1) * y ≤ 140737488355328)
    (h : ∀ g' cap' w', w.heap.size ≤ g' → Own w' w.heap.size E 1 (some ⟨g', 0, none⟩) (n + 1) cap' (vs ++ [v]) → Ex w w' → (kf = true → S w → S w') ∧ RR P S ops K rest (upd ρ d (.slice (some ⟨g', 0, none⟩) (n + 1) cap')) w') :
    RR P S ops K ((⟨some d, .call ⟨.builtin .append, #[x1, x2], #[T1, T1]⟩, T, pos, af, none⟩, some kf) :: rest) ρ w := by
  cases a with
  | none =>
    have hvn : vs = [] := Classical.byContradiction fun hne => by obtain ⟨_, _, e⟩ := hvs.ok hne; cases e
    subst hvn
    obtain rfl : n = 0 := hn.symm
    refine k_append (z := z) (s := 1) (c := c) (hzs := Nat.eq_of_beq_eq_true hzs) (hs := rfl) (news := [v]) (vs := []) (lo := w.heap.size) (h1 := h1) (h2 := h2) (hown := Own.nil _ _ _ _) (hnews := hnews) (hp := ⟨_, _, rfl⟩) (hl := rfl) (ho := by simp [hv]) (hm := by omega) (hb := hb) (hlo := Nat.le_refl _) ?_
    intro a' cap' w' ho' hg hA
    have hex : Ex w w' := grown_ex hg (Ex.refl _) (by simp)
    rcases ho'.2 with ⟨_, h0⟩ | ⟨g', c', cur, hv', hg', r⟩
    · omega
    · have e : a' = some ⟨g', 0, none⟩ := by
        have : Value.slice a' (0 + 1) cap' = .slice (some ⟨g', 0, none⟩) (0 + 1) c' := hv'
        injection this
      subst e
      exact h g' cap' w' hg' ho' hex
  | some ad =>
    refine rr_eff rfl ?_
    unfold OpW
    obtain ⟨i0, hi0, hzz⟩ := Option.map_eq_some_iff.1 hT.sz
    simp only [Prod.mk.injEq] at hzz
    obtain ⟨i1, hi1, hz1⟩ := Option.map_eq_some_iff.1 hz.ok
    rw [hi0] at hi1
    simp only [Option.some.injEq] at hi1
    subst hi1
    have hadd : ∀ (gg oo n : Nat), (⟨gg, oo, none⟩ : Addr).add n = ⟨gg, oo + n, none⟩ := fun gg oo n => by unfold Addr.add; split <;> simp_all
    have hnews' : ∀ j u, [v][j]? = some u → w.cell? ((⟨g, 0, none⟩ : Addr).add j) = some u := fun j u hu => by
      have hj : j < [v].length := (List.getElem?_eq_some_iff.1 hu).1
      have := hnews.get j hj
      rw [hadd]
      simp only [elt] at this
      rw [this, List.getD_eq_getElem?_getD, hu]; rfl
    have holds : ∀ j u, vs[j]? = some u → w.cell? (ad.add j) = some u := fun j u hu => by
      have hj : j < vs.length := (List.getElem?_eq_some_iff.1 hu).1
      have := hvs.get j hj
      obtain ⟨gg, oo, e⟩ := hvs.plain (by omega)
      injection e with e
      subst e
      rw [hadd]
      simp only [elt] at this
      rw [this, List.getD_eq_getElem?_getD, hu]; rfl
    have hr := run_append_grow (P := P) w T1 T E i0 z hT.un hi0 hz1 ad n n vs (by rw [hzz.1, hn, Nat.mul_one]) holds ⟨g, 0, none⟩ 1 c [v] (by rw [hzz.1]; rfl) hnews' (by omega) (by omega) (by rw [hzz.2]; exact growslice_fits (by omega) hb)
    have hx : ∀ v' w', (Builtin.append_ #[T1, T1] T #[.slice (some ad) n n, .slice (some ⟨g, 0, none⟩) 1 c]).run P w = .ok v' w' →
        (execOp (ev ρ) ⟨some d, .call ⟨.builtin .append, #[x1, x2], #[T1, T1]⟩, T, pos, af, none⟩).run P w = .ok (.value v') w' := fun v' w' hr => by simp [execOp, resolve, invoke, builtin, h1, h2, hr]
    rw [hx _ _ hr]
    have hge := grownCap_ge w (n + 1) n E
    have hcm : grownCap w (n + 1) n E ≤ maxLen := grownCap_le_maxLen w (n + 1) n E (by unfold maxLen; omega)
    refine h w.heap.size _ _ (Nat.le_refl _) ⟨by simp [hn], .inr ⟨w.heap.size, _, _, rfl, Nat.le_refl _, heap_alloc_new w.drew _, hge, hcm, ?_, ?_⟩⟩ ?_
    · simp only [Array.size_append, List.size_toArray, size_zeroCells, Nat.eq_of_beq_eq_true hzs, hn, List.length_singleton]
      omega
    · simp only [Array.toList_append, List.append_assoc]
      rw [← List.append_assoc, List.take_left' (by simp [hn])]
    · exact (Ex.refl w).drew.trans (Ex.alloc _ _)
end
end Go.W
namespace Go.Proofs.YthhfjagnmhhapaaGreat
open Go.W Go.PM
theorem clip_spec {a : Option Addr} {l c : Nat} {w : World} (h : l ≤ c) : CallsR Tryz.prog 65 #[.slice a l c] w fun v w' => v = .slice a l l ∧ w = w' := by
  refine callsR_of (args := [_]) Tryz.func65 rfl rfl ?_
  repeat' (first | (refine k_clip rfl rfl rfl h ?_) | (refine k_pure rfl ?_) | (refine then_normal ?_) | (refine cw_seq ?_) | (refine cw_region rfl ?_) | (refine rr_nil ?_) | (refine k_len rfl ?_) | (refine cw_ret ?_))
  exact ret1 rfl (rt rfl) ⟨rfl, rfl⟩
theorem lvWith_spec {n : Nat} {h : LH} {l : Lv} {g : List Int} {sa : Option Addr} {w : World} (hL : LvAt w n h l) (ok : LvOK n l) (hg : PermN n g) (hsl : Sl w sa (u16L g)) (sc : Nat) (hgb : ∀ ad, sa = some ad → ad.block ∉ h.F) (hgl : l.gens.length < 1000000000000) :
    CallsR Tryz.prog 91 #[.pointer (some ⟨h.blk, 0, none⟩), .slice sa n sc] w fun v w' => ∃ h' l', v = .pointer (some ⟨h'.blk, 0, none⟩) ∧ LvAt w' n h' l' ∧ LvExt n g l l' ∧ Fr (fun g => g ∈ h.F) w w' ∧
      (∀ q, q ∈ h'.F → q ∈ h.F ∨ w.heap.size ≤ q) ∧ (∀ q, q ∈ h'.im → q ∈ h.im ∨ (∃ ad, sa = some ad ∧ ad.block = q) ∨ w.heap.size ≤ q) ∧ w.heap.size ≤ h'.blk := by
  refine callsR_of (args := [_, _]) Tryz.func91 rfl rfl ?_
  have hn := ok.n1
  have hstr := hL.str
  obtain ⟨ga, go, rfl⟩ := hsl.plain (by simp; have := hg.2; omega)
  have hgbl : ga < w.heap.size := hsl.lt (by simp; have := hg.2; omega) _ rfl
  have hgF := hgb _ rfl
  repeat' (first | (refine k_loadCA rfl hstr rfl ?_) | (refine k_alloc (fun nb w1 hn1 => ⟨fun _ _ => trivial, ?_⟩)) | (refine k_storeV rfl rfl rfl rfl hn1.blk rfl (fun w2 hc2 hb2 => ⟨fun _ _ => trivial, ?_⟩)) | (refine k_pure rfl ?_) | (refine then_normal ?_) | (refine cw_seq ?_) | (refine cw_region rfl ?_) | (refine rr_nil ?_) | (refine k_fieldAddr rfl ?_))
  have hE2 : Ex w w2 := hn1.ex.chg hc2 hn1.lo
  have hstr2 := hstr.ext hE2
  repeat' (first | (refine k_loadC rfl hstr2 rfl ?_))
  refine k_call (clip_spec hL.gcap) rfl ?_
  rintro v w3 ⟨rfl, rfl⟩
  refine ⟨fun _ _ => trivial, ?_⟩
  have hga2 := hL.ga.ext hE2
  have hgsl : (h.gs.map SD.val).length = l.gens.length := by rw [List.length_map, hL.gs.len]
  repeat' (first | (refine k_lit1 rfl rfl (fun lb w3 hn3 => ⟨fun _ _ => trivial, ?_⟩)) | (refine k_appendFull (v := .slice (some ⟨ga, go, none⟩) n sc) rfl rfl rfl (hga2.ext hn3.ex) hgsl hn3.blk.sl rfl (by omega) (by omega) (fun gb c4 w4 hg4 ho4 hE4 => ⟨fun _ _ => trivial, ?_⟩)) | (refine k_storeC rfl rfl rfl ((hb2.ext hn3.ex).ext hE4) rfl (fun w5 hc5 hb5 => ⟨fun _ _ => trivial, ?_⟩)) | (refine k_pure rfl ?_) | (refine then_normal ?_) | (refine cw_seq ?_) | (refine cw_region rfl ?_) | (refine rr_nil ?_) | (refine k_fieldAddr rfl ?_))
  have s1 := hn1.lo
  have s2 := hn1.hi
  have s12 : w1.heap.size ≤ w2.heap.size := Nat.le_of_eq hc2.size.symm
  have s23 := hn3.ex.size
  have s3 := hn3.lo
  have s34 := hE4.size
  have s45 : w4.heap.size = w5.heap.size := hc5.size.symm
  have hE5 : Ex w w5 := ((hE2.trans hn3.ex).trans hE4).chg hc5 s1
  have gb5 := (ho4.lo _ rfl).2
  simp only at gb5
  have nd := hL.nd
  have lt := hL.lt
  have dis := hL.dis
  simp only [LH.F, List.mem_cons, List.not_mem_nil, or_false, List.nodup_cons, not_or, not_false_eq_true, and_true, List.nodup_nil] at nd lt dis hgF
  obtain ⟨⟨n1, n2, n3, n4⟩, ⟨n5, n6, n7⟩, ⟨n8, n9⟩, n10⟩ := nd
  obtain ⟨g1, g2, g3, g4, g5⟩ := hgF
  have l1' := lt _ (.inl rfl); have l2' := lt _ (.inr (.inl rfl)); have l3' := lt _ (.inr (.inr (.inl rfl))); have l4' := lt _ (.inr (.inr (.inr (.inl rfl)))); have l5' := lt _ (.inr (.inr (.inr (.inr rfl))))
  have hgs0 := ((hL.gs.ext hE5).mono (im' := gb :: ga :: h.im) fun q hq => by simp [hq]).snoc (s := ⟨some ⟨ga, go, none⟩, n, sc⟩) (hsl.ext hE5) rfl (by rintro _ ⟨⟩; simp)
  have hL0 : LvAt w5 n { h with blk := nb, ga := some ⟨gb, 0, none⟩, gc := c4, gs := h.gs ++ [⟨some ⟨ga, go, none⟩, n, sc⟩], im := gb :: ga :: h.im } { l with gens := l.gens ++ [g] } := by
    refine ⟨?_, hL.orb.ext hE5, hL.wh.ext hE5, hL.bk.ext hE5, (hL.bs.ext hE5).mono fun q hq => by simp [hq], hL.dn.ext hE5, ?_, ?_, hgs0, ?_, ?_, ?_, ?_⟩
    · have e : lvL n { h with blk := nb, ga := some ⟨gb, 0, none⟩, gc := c4, gs := h.gs ++ [⟨some ⟨ga, go, none⟩, n, sc⟩], im := gb :: ga :: h.im } { l with gens := l.gens ++ [g] } = [.int .i64 l.pt, .slice (some ⟨gb, 0, none⟩) (l.gens.length + 1) c4, .slice (ba h.ob) l.orb.length h.oc, .slice (ba h.wb) n n, .slice (ba h.bb) l.back.length h.bc, .slice (ba h.db) l.done.length h.dc] := by simp [lvL]
      rw [e]; exact hb5
    · have := ho4.sl.chg hc5 (by rintro _ ⟨⟩; show gb ≠ nb; omega)
      simp only [List.map_append, List.map_cons, List.map_nil, SD.val]
      exact this
    · rintro _ ⟨⟩; simp
    · simp only [LH.F, List.mem_cons, List.not_mem_nil, or_false, List.nodup_cons, not_or, not_false_eq_true, and_true, List.nodup_nil]
      refine ⟨⟨?_, ?_, ?_, ?_⟩, ⟨?_, ?_, ?_⟩, ⟨?_, ?_⟩, ?_⟩ <;> omega
    · intro q hq hq'
      simp only [LH.F, List.mem_cons, List.not_mem_nil, or_false] at hq hq'
      rcases hq' with rfl | rfl | hq'
      · omega
      · omega
      · have := hL.imlt q hq'
        rcases hq with rfl | hq
        · omega
        · exact dis q (.inr hq) hq'
    · intro q hq
      simp only [List.mem_cons] at hq
      rcases hq with rfl | rfl | hq
      · omega
      · omega
      · have := hL.imlt q hq; omega
    · simp only [List.length_append, List.length_singleton]; exact ho4.capLe
  refine k_call (extend_spec hL0 (ok.part hg) (by simp only [List.length_append, List.length_singleton]; omega)) rfl ?_
  rintro v w6 ⟨rfl, h6, l6, hL6, ok6, gr6, fr6, st6⟩
  refine ⟨fun _ _ => trivial, ?_⟩
  repeat' (first | (refine k_pure rfl ?_) | (refine then_normal ?_) | (refine cw_seq ?_) | (refine cw_region rfl ?_) | (refine rr_nil ?_) | (refine cw_ret ?_))
  have hb6 := st6.blk
  simp only at hb6
  refine ret1 rfl (rt rfl) ⟨h6, l6, by rw [hb6]; rfl, hL6, gr6.ext ok ok6, ?_, fun q hq => ?_, fun q hq => ?_, by omega⟩
  · refine hE5.fr.then fr6 fun i hi hm => ?_
    simp only [LH.F, List.mem_cons, List.not_mem_nil, or_false] at hm ⊢
    rcases hm with rfl | hm
    · omega
    · exact .inr hm
  · rcases st6.F q hq with hq | hq
    · simp only [LH.F, List.mem_cons, List.not_mem_nil, or_false] at hq ⊢
      rcases hq with rfl | hq
      · exact .inr (by omega)
      · exact .inl (.inr hq)
    · exact .inr (by omega)
  · rcases st6.im q hq with hq | hq
    · simp only [List.mem_cons] at hq
      rcases hq with rfl | rfl | hq
      · exact .inr (.inr (by omega))
      · exact .inr (.inl ⟨_, rfl, rfl⟩)
      · exact .inl hq
    · exact .inr (.inr (by omega))
end Go.Proofs.YthhfjagnmhhapaaGreat

